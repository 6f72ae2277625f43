/- A function value that holds four things. -/
import Derived.Test.YtcmgpkibjdbonaaGreatV30Z
import Derived.Test.YtcmgpkibjdbonaaGreatG12Z
import Derived.Test.YtcmgpkibjdbonaaGreatSL6Z
import Derived.Test.YtcmgpkibjdbonaaGreatSA4Z
import Derived.Test.YtcmgpkibjdbonaaGreatG10Z
set_option maxHeartbeats 4000000
namespace Go.Proofs.YtcmgpkibjdbonaaGreat
open Go Go.RowKit
section
variable {m : OM} {P : Program} {T : List (Nat × TI)} {C : Ctx} {ops : Array Oper} {l : List Oper} {K : St → Prop} {n : Nat} {sl : List (Nat × AV)} {hp : List (Nat × HO)} {d : Nat} {ty : Nat} {pos : String} {aft : Array Edge} {gd : Option (Nat × Bool)}
theorem o_makeFunc4 (hw : gval ops ⟨n, sl, hp⟩ gd = gwant gd) {f : Fn} {c1 c2 c3 c4 : Operand} {x1 x2 x3 x4 : AV} (h1 : ev ⟨n, sl, hp⟩ c1 = x1) (o1 : isOne x1 = true) (i1 : x1.isVal = true) (h2 : ev ⟨n, sl, hp⟩ c2 = x2) (o2 : isOne x2 = true) (i2 : x2.isVal = true)
    (h3 : ev ⟨n, sl, hp⟩ c3 = x3) (o3 : isOne x3 = true) (i3 : x3.isVal = true) (h4 : ev ⟨n, sl, hp⟩ c4 = x4) (o4 : isOne x4 = true) (i4 : x4.isVal = true) (hd : Nat.blt d n = true)
    (h : Ops m P C ops l ⟨n, (d, .fn f [x1, x2, x3, x4]) :: sl, hp⟩ K) : Ops m P C ops (⟨some d, .makeFunc f #[] #[c1, c2, c3, c4], ty, pos, aft, gd⟩ :: l) ⟨n, sl, hp⟩ K := by
  refine Ops.by hw none okc_none hd rfl (fun a w hs => ⟨.func f #[] #[a.eval c1, a.eval c2, a.eval c3, a.eval c4], ?_, fun w' _ => ?_⟩) h
  · have e1 := ev_rep hs c1
    rw [h1] at e1
    have e2 := ev_rep hs c2
    rw [h2] at e2
    have e3 := ev_rep hs c3
    rw [h3] at e3
    have e4 := ev_rep hs c4
    rw [h4] at e4
    refine ⟨[.func f #[] #[a.eval c1, a.eval c2, a.eval c3, a.eval c4]], ?_, rfl⟩
    simp only [repC]
    exact ⟨_, rfl, by simp only [repL]; exact ⟨[a.eval c1], [a.eval c2, a.eval c3, a.eval c4], rfl, one_rep o1 i1 e1, [a.eval c2], [a.eval c3, a.eval c4], rfl, one_rep o2 i2 e2, [a.eval c3], [a.eval c4], rfl, one_rep o3 i3 e3, [a.eval c4], [], rfl, one_rep o4 i4 e4, rfl⟩⟩
  · simp [execOp, Instr.makeFunc]
end
end Go.Proofs.YtcmgpkibjdbonaaGreat
set_option maxHeartbeats 16000000
set_option maxRecDepth 100000
namespace Go.Proofs.YtcmgpkibjdbonaaGreat
open Go Go.RowKit
theorem CLe.fn {fr : Fr} {f : Fn} {xs ys : List AV} (h : CLeL fr xs ys) : CLe fr (.fn f xs) (.fn f ys) := ⟨fun w F cs hf h1 => by
  simp only [repC] at h1 ⊢
  obtain ⟨vs, h2, h3⟩ := h1
  exact ⟨vs, h2, h w F _ hf h3⟩, rfl⟩
theorem rle_tup3c {fr : Fr} {a b c d e f : AV} (h1 : CLe fr a d) (h2 : CLe fr b e) (h3 : CLe fr c f) (ha : a.isVal = true) (hb : b.isVal = true) (hc : c.isVal = true) : RLe fr (single [a, b, c]) (.tup [d, e, f]) :=
  RLe.tup (xs := [a, b, c]) (ys := [d, e, f]) rfl (fun i x y hx hy => by
    match i with
    | 0 => simp at hx hy; subst hx; subst hy; exact .inr ⟨ha, h1⟩
    | 1 => simp at hx hy; subst hx; subst hy; exact .inr ⟨hb, h2⟩
    | 2 => simp at hx hy; subst hx; subst hy; exact .inr ⟨hc, h3⟩
    | k + 3 => simp at hx)
def ordL (x y : Lef) : Int := cmpS x.l y.l
theorem woL : WO (ltCL ordL) := cmp_wo Lef.l (fun _ _ => rfl)
def srtL (l : List Lef) : List Lef := sortS (ltCL ordL) l
theorem srtL_len (l : List Lef) : (srtL l).length = l.length := sortS_len woL l
theorem srtL_mem {l : List Lef} {x : Lef} : x ∈ srtL l ↔ x ∈ l := ⟨fun h => CE.mem woL (sortS_ce woL l).symm h, fun h => CE.mem woL (sortS_ce woL l) h⟩
theorem cloneL_spec (xs : List AV) (hl : xs.length ≤ 1000000) :
    Spec Tryz.prog 50 [.sl 65 xs] [] (fun r os => ∃ v, r = .own 0 v ∧ os = [.row v 46 65 xs]) := by
  refine spec_of TtOk [] Tryz.func50 rfl Tryz.ntmps50 (by kernel_rfl) rfl rfl (fun C => ?_) rfl
  repeat' (first | refine Awp.seq ?_ | refine Awp.region ?_ | (refine Ops.nil ?_; show Awp _ _ _ _ _) | (refine Awp.skip ?_; show Awp _ _ _ _ _) | (refine Awp.ret ?_; show endK _ _ _ _ _) | (refine o_calm rfl TtOk rfl rfl rfl ?_ (fun _ => ?_); exact nd) | refine o_buildSlice TtOk rfl rfl rfl rfl rfl rfl rfl rfl rfl rfl rfl (by repeat' (first | exact True.intro | exact rfl | refine ⟨?_, ?_⟩)) (fun _ => ?_) | (refine o_append TtOk rfl rfl rfl rfl rfl rfl rfl rfl rfl (by first | exact True.intro | exact rfl) rfl rfl (fun _ => rfl) ?_ ?_ (fun _ => ?_); ((repeat' (first | rw [List.length_append] | rw [List.length_map] | rw [List.length_cons] | rw [List.length_nil] | rw [List.length_take] | rw [List.length_drop])) <;> omega); ((repeat' (first | rw [List.length_append] | rw [List.length_map] | rw [List.length_cons] | rw [List.length_nil] | rw [List.length_take] | rw [List.length_drop])) <;> omega)) | (refine Awp.cond rfl (fun hc => ?_) (fun hc => ?_)) | (refine o_eqNilSl TtOk rfl rfl rfl rfl rfl (fun c hc0 => ?_)))
  · have := hc0 hc
    subst this
    exact end_tmp rfl rfl rfl [] [(0, _)] (CLe.nilown (k := 0)) (.none .nil) ⟨_, rfl, rfl⟩ _ (.inl rfl)
  · exact end_tmp rfl rfl rfl [] [(0, _)] CLe.own (HLe.cons 5 rfl (HOLe.refl _) .nil) ⟨_, rfl, rfl⟩ _ (.inl rfl)
theorem cover1_spec (x y : Lef) : Spec Tryz.prog 143 ([x.A, y.A] ++ []) [] (fun v os => v = .i .i64 (ordL x y) ∧ os = []) := by
  have h1 := border_spec x.l y.l
  have ho : ordL x y = cmpS x.l y.l := rfl
  rw [ho]
  generalize cmpS x.l y.l = c at h1 ⊢
  show Spec Tryz.prog 143 [.agg [labA x.l, labA x.v, .i .i64 x.t], .agg [labA y.l, labA y.v, .i .i64 y.t]] [] _
  refine spec_of TtOk [] Tryz.func143 rfl Tryz.ntmps143 (by kernel_rfl) rfl rfl (fun C => ?_) rfl
  repeat' (first | refine Awp.seq ?_ | refine Awp.region ?_ | (refine Ops.nil ?_; show Awp _ _ _ _ _) | (refine Awp.ret ?_; show endK _ _ _ _ _) | (refine o_calm rfl TtOk rfl rfl rfl ?_ (fun _ => ?_); exact nd) | refine o_box (d := 2) rfl rfl rfl rfl (fun b2 => ?_) | refine o_box (d := 3) rfl rfl rfl rfl (fun b3 => ?_) | (refine o_call0 rfl (h1) ⟨SLe.of_eq rfl, SLe.of_eq rfl, True.intro⟩ rfl ?_; rintro _ _ ⟨rfl, rfl⟩; refine ⟨rfl, ?_⟩))
  exact end_tmp rfl rfl rfl [] [] (CLe.of_eq rfl) .nil ⟨rfl, rfl⟩ _ (.inl rfl)
def cvS (l : List Lef) : List Lef := srtL l
def cvE (l : List Lef) : Int := chkI (itmsL (srtL l))
def cvI (l : List Lef) (ls : List (List UInt8)) : List Itm := if cvE l = 0 then (openF l.length ls (srtL l)).1 else []
def cvT (l : List Lef) (ls : List (List UInt8)) : List Lef := if cvE l = 0 then (openF l.length ls (srtL l)).2 else []
theorem cover_spec (l : List Lef) (ls : List (List UInt8)) (hl : l.length ≤ 50000) (hok : ∀ x ∈ l, x.ok) (hls : ls.length ≤ 100000) (hlo : ∀ x ∈ ls, x.length = 32) :
    Spec Tryz.prog 47 [.sl 65 (l.map Lef.A), .sl 32 (ls.map labA)] [] (fun v os => v = .tup [.sl 66 ((cvI l ls).map Itm.A), .sl 65 ((cvT l ls).map Lef.A), .i .i64 (cvE l)] ∧ os = []) := by
  refine spec_of TtOk [] Tryz.func47 rfl Tryz.ntmps47 (by kernel_rfl) rfl rfl (fun C => ?_) rfl
  have h1 := cloneL_spec (l.map Lef.A) (by rw [List.length_map]; omega)
  have h2 := fun v => sortStable_specL v 143 [] rfl ordL cover1_spec woL l (by omega)
  have hs : sortS (ltCL ordL) l = srtL l := rfl
  rw [hs] at h2
  have hok2 : ∀ x ∈ srtL l, x.ok := fun x hx => hok x (srtL_mem.1 hx)
  have hsl := srtL_len l
  have h3 := of_spec (srtL l) (by omega) hok2
  have hio : ∀ x ∈ itmsL (srtL l), x.ok := fun x hx => by
    obtain ⟨y, hy, rfl⟩ := List.mem_map.1 (srtI_mem.1 hx)
    exact leafI_ok y (hok2 y hy)
  have hil : (itmsL (srtL l)).length = l.length := by unfold itmsL; rw [srtI_len, List.length_map, hsl]
  have h4 := pcheck_spec (itmsL (srtL l)) (by omega) hio
  have hce : chkI (itmsL (srtL l)) = cvE l := rfl
  rw [hce] at h4
  unfold cvI cvT
  have h5 := @chkI_rise (itmsL (srtL l))
  rw [hce] at h5
  by_cases hc0 : cvE l = 0
  · rw [if_pos hc0, if_pos hc0]
    rw [hc0] at h4 h5 ⊢
    obtain ⟨-, hr, -⟩ := h5 rfl
    have hrl : RiseI ((srtL l).map leafI) := by
      have hsrt : Srt (ltCI ordI) ((srtL l).map leafI) := by
        unfold Srt
        rw [List.pairwise_map]
        exact sortS_srt woL l
      have he : itmsL (srtL l) = (srtL l).map leafI := sortS_id woI hsrt
      rw [he] at hr
      exact hr
    have hop := fun b1 b2 b3 v1 v2 => open_spec ls hls hlo b1 b2 b3 l.length (srtL l) (by omega) hrl hok2 v1 v2 [] [] (by rw [List.length_nil]; omega) (by rw [List.length_nil]; omega)
    rw [List.nil_append, List.nil_append] at hop
    clear hr hrl hce
    generalize openF l.length ls (srtL l) = o at *
    generalize itmsL (srtL l) = I at *
    generalize srtL l = L at *
    repeat' (first | (refine a_freezeV 3 3 rfl rfl rfl ?_) | (refine o_freezeR (xs := L.map Lef.A) 13 7 rfl rfl rfl ?_) | refine Awp.seq ?_ | refine Awp.region ?_ | (refine Ops.nil ?_; show Awp _ _ _ _ _) | (refine Awp.skip ?_; show Awp _ _ _ _ _) | (refine o_calm rfl TtOk rfl rfl rfl ?_ (fun _ => ?_); exact nd) | refine o_alloc (d := 9) rfl TtOk rfl rfl rfl (fun b9 => ?_) | refine o_alloc (d := 10) rfl TtOk rfl rfl rfl (fun b10 => ?_) | refine o_box (d := 3) rfl rfl rfl rfl (fun b3 => ?_) | refine a_condF rfl ?_ | (refine o_callR rfl h1 ⟨SLe.of_eq rfl, True.intro⟩ rfl (fun vR => ?_)) | (refine o_call [] [13] [13] rfl (h2 _) ⟨sle_own, SLe.of_eq rfl, True.intro⟩ rfl ⟨HOLe.refl _, True.intro⟩ rfl rfl ?_; rintro _ _ ⟨rfl, rfl⟩; refine ⟨_, rfl, rfl, ?_⟩) | (refine o_alloc (d := 11) rfl TfOk rfl rfl rfl (fun b11 => ?_)) | (refine o_makeFunc4 rfl rfl rfl rfl rfl rfl rfl rfl rfl rfl rfl rfl rfl rfl ?_) | (refine o_store TfOk rfl rfl rfl rfl rfl rfl rfl ⟨rfl, rfl⟩ rfl rfl rfl rfl rfl ?_) | (refine o_calm rfl TfOk rfl rfl rfl ?_ (fun _ => ?_); exact ⟨rfl, rfl, rfl, rfl⟩) | (refine o_call0 rfl (h3) ⟨SLe.of_eq rfl, True.intro⟩ rfl ?_; rintro _ _ ⟨rfl, rfl⟩; refine ⟨rfl, ?_⟩) | (refine o_call0 rfl (h4) ⟨SLe.of_eq rfl, True.intro⟩ rfl ?_; rintro _ _ ⟨rfl, rfl⟩; refine ⟨rfl, ?_⟩))
    refine Ops.weaken [] (S' := ⟨28, [(24, .sl 65 (L.map Lef.A)), (23, .fn (.func 144) [.cp (.sl 32 (ls.map labA)), .ptr 0 b9 [] 0, .ptr 2 b10 [] 0, .ptr 4 b11 [] 0]), (9, .ptr 9 b9 [] 0), (10, .ptr 10 b10 [] 0)], [(9, .var b9 (.own 1 (.slice none 0 0))), (1, .row (.slice none 0 0) 50 66 (([] : List Itm).map Itm.A)), (10, .var b10 (.own 3 (.slice none 0 0))), (3, .row (.slice none 0 0) 46 65 (([] : List Lef).map Lef.A)), (11, .var b11 (.fn (.func 144) [.cp (.sl 32 (ls.map labA)), .ptr 0 b9 [] 0, .ptr 2 b10 [] 0, .ptr 4 b11 [] 0]))]⟩) ⟨rfl, ⟨sle_sl rfl, SLe.of_cle (CLe.fn (.cons (CLe.refl _) (.cons CLe.ptr (.cons CLe.ptr (.cons CLe.ptr .nil))))) rfl, sle_ptr, sle_ptr, True.intro⟩, HLe.cons 9 rfl (HOLe.var CLe.nilown) (.none (HLe.cons 10 rfl (HOLe.var CLe.nilown) (.none (HLe.cons 11 rfl (HOLe.var (CLe.fn (.cons (CLe.refl _) (.cons CLe.ptr (.cons CLe.ptr (.cons CLe.ptr .nil)))))) .nil))))⟩ ?_
    refine o_callCloG [] [9, 1, 10, 3, 11] [9, 1, 10, 3, 11] rfl rfl rfl (hop b9 b10 b11 _ _) ⟨SLe.of_eq rfl, SLe.of_eq rfl, sle_ptr, sle_ptr, sle_ptr, True.intro⟩ rfl ⟨HOLe.refl _, HOLe.refl _, HOLe.refl _, HOLe.refl _, HOLe.refl _, True.intro⟩ rfl rfl rfl ?_
    rintro _ _ ⟨rfl, w1, w2, rfl⟩
    refine ⟨_, rfl, rfl, ?_⟩
    repeat' (first | refine Awp.seq ?_ | (refine Ops.nil ?_; show Awp _ _ _ _ _) | (refine Awp.ret ?_; show endK _ _ _ _ _) | (refine o_calm rfl TtOk rfl rfl rfl ?_ (fun _ => ?_); exact nd) | refine a_any 11 [] [] [] [0, 2, 1, 3, 4] (by kernel_rfl) (by kernel_rfl) (by kernel_rfl) rfl rfl rfl ?_)
    refine end_all [1, 3] [] (.tup [.sl 66 (o.1.map Itm.A), .sl 65 (o.2.map Lef.A), .i .i64 0]) rfl ?_ ?_ (rle_tup3c (CLe.fz (.head _)) (CLe.fz (.tail _ (.head _))) (CLe.of_eq rfl) rfl rfl rfl) .nil ⟨rfl, rfl⟩ _ (.inl rfl)
    · repeat' (first | exact True.intro | exact rfl | refine ⟨?_, ?_⟩)
    · exact ⟨trivial, trivial, trivial, trivial⟩
  · rw [if_neg hc0, if_neg hc0]
    clear h5
    generalize cvE l = e at *
    generalize itmsL (srtL l) = I at *
    generalize srtL l = L at *
    repeat' (first | (refine o_freezeR (xs := L.map Lef.A) 13 7 rfl rfl rfl ?_) | refine Awp.seq ?_ | refine Awp.region ?_ | (refine Ops.nil ?_; show Awp _ _ _ _ _) | (refine Awp.ret ?_; show endK _ _ _ _ _) | (refine o_calm rfl TtOk rfl rfl rfl ?_ (fun _ => ?_); exact nd) | refine o_box (d := 3) rfl rfl rfl rfl (fun b3 => ?_) | (refine a_condN rfl (fun hc => ?_) (fun hc => ?_)) <;> (try (exfalso; omega)) | (refine o_callR rfl h1 ⟨SLe.of_eq rfl, True.intro⟩ rfl (fun vR => ?_)) | (refine o_call [] [13] [13] rfl (h2 _) ⟨sle_own, SLe.of_eq rfl, True.intro⟩ rfl ⟨HOLe.refl _, True.intro⟩ rfl rfl ?_; rintro _ _ ⟨rfl, rfl⟩; refine ⟨_, rfl, rfl, ?_⟩) | (refine o_call0 rfl (h3) ⟨SLe.of_eq rfl, True.intro⟩ rfl ?_; rintro _ _ ⟨rfl, rfl⟩; refine ⟨rfl, ?_⟩) | (refine o_call0 rfl (h4) ⟨SLe.of_eq rfl, True.intro⟩ rfl ?_; rintro _ _ ⟨rfl, rfl⟩; refine ⟨rfl, ?_⟩))
    refine end_all [] [] (.tup [.sl 66 (([] : List Itm).map Itm.A), .sl 65 (([] : List Lef).map Lef.A), .i .i64 e]) rfl ?_ ?_ (rle_tup3c CLe.nilsl CLe.nilsl (CLe.of_eq rfl) rfl rfl rfl) .nil ⟨rfl, rfl⟩ _ (.inl rfl)
    · repeat' (first | exact True.intro | exact rfl | refine ⟨?_, ?_⟩)
    · exact ⟨trivial, trivial, trivial, trivial⟩
end Go.Proofs.YtcmgpkibjdbonaaGreat
set_option maxHeartbeats 8000000
set_option maxRecDepth 100000
namespace Go.Proofs.YtcmgpkibjdbonaaGreat
open Go Go.RowKit
theorem few_spec (l : List Lef) (n : Nat) (hl : l.length ≤ 9223372036854775807) (hn : n ≤ 1000) :
    Spec Tryz.prog 8 [.sl 65 (l.map Lef.A), .i .i64 n] [] (fun r os => ∃ v, r = .own 0 v ∧ os = [.row v 46 65 ((l.take n).map Lef.A)]) := by
  refine spec_of TtOk [] Tryz.func8 rfl Tryz.ntmps8 (by kernel_rfl) rfl rfl (fun C => ?_) rfl
  by_cases h : n < l.length
  · have hln : (l.take n).length = n := by rw [List.length_take]; omega
    repeat' (first | refine Awp.seq ?_ | refine Awp.region ?_ | (refine Ops.nil ?_; show Awp _ _ _ _ _) | (refine Awp.ret ?_; show endK _ _ _ _ _) | refine o_len rfl TtOk rfl rfl rfl (fun _ => ?_) | (refine o_calm rfl TtOk rfl rfl rfl ?_ (fun _ => ?_); exact nd) | refine o_buildSlice TtOk rfl rfl rfl rfl rfl rfl rfl rfl rfl rfl rfl (by repeat' (first | exact True.intro | exact rfl | refine ⟨?_, ?_⟩)) (fun _ => ?_) | (refine o_append TtOk rfl rfl rfl rfl rfl rfl rfl rfl rfl (by first | exact True.intro | exact rfl) rfl rfl (fun _ => rfl) ?_ ?_ (fun _ => ?_); ((repeat' (first | rw [List.length_append] | rw [List.length_map] | rw [List.length_cons] | rw [List.length_nil] | rw [List.length_take] | rw [List.length_drop])) <;> omega); ((repeat' (first | rw [List.length_append] | rw [List.length_map] | rw [List.length_cons] | rw [List.length_nil] | rw [List.length_take] | rw [List.length_drop])) <;> omega)) | (refine a_condP rfl (fun hc => ?_) (fun hc => ?_)) <;> (try (exfalso; omega)) | (refine o_sliceSl TtOk rfl 0 n rfl rfl rfl rfl rfl bnd_none (bnd_some rfl rfl) (by omega) (by omega) ?_))
    exact end_tmp rfl rfl rfl [] [(0, _)] CLe.own (HLe.cons 12 rfl (HOLe.refl _) .nil) ⟨_, rfl, rfl⟩ _ (.inl rfl)
  · rw [List.take_of_length_le (by omega)]
    repeat' (first | refine Awp.seq ?_ | refine Awp.region ?_ | (refine Ops.nil ?_; show Awp _ _ _ _ _) | (refine Awp.skip ?_; show Awp _ _ _ _ _) | (refine Awp.ret ?_; show endK _ _ _ _ _) | refine o_len rfl TtOk rfl rfl rfl (fun _ => ?_) | (refine o_calm rfl TtOk rfl rfl rfl ?_ (fun _ => ?_); exact nd) | refine o_buildSlice TtOk rfl rfl rfl rfl rfl rfl rfl rfl rfl rfl rfl (by repeat' (first | exact True.intro | exact rfl | refine ⟨?_, ?_⟩)) (fun _ => ?_) | (refine o_append TtOk rfl rfl rfl rfl rfl rfl rfl rfl rfl (by first | exact True.intro | exact rfl) rfl rfl (fun _ => rfl) ?_ ?_ (fun _ => ?_); ((repeat' (first | rw [List.length_append] | rw [List.length_map] | rw [List.length_cons] | rw [List.length_nil] | rw [List.length_take] | rw [List.length_drop])) <;> omega); ((repeat' (first | rw [List.length_append] | rw [List.length_map] | rw [List.length_cons] | rw [List.length_nil] | rw [List.length_take] | rw [List.length_drop])) <;> omega)) | (refine a_condP rfl (fun hc => ?_) (fun hc => ?_)) <;> (try (exfalso; omega)))
    exact end_tmp rfl rfl rfl [] [(0, _)] CLe.own (HLe.cons 12 rfl (HOLe.refl _) .nil) ⟨_, rfl, rfl⟩ _ (.inl rfl)
end Go.Proofs.YtcmgpkibjdbonaaGreat
set_option maxHeartbeats 8000000
set_option maxRecDepth 100000
namespace Go.Proofs.YtcmgpkibjdbonaaGreat
open Go Go.RowKit
def lefC_ (x : Lef) : List Value := x.l.map cellB ++ (x.v.map cellB ++ [Value.int .i64 x.t])
theorem lef_cells {w : World} {F : Nat → Prop} {x : Lef} {v : Value} (h : repV w F x.A v) : x.ok ∧ v = .agg (lefC_ x).toArray := by
  obtain ⟨cs, hc, he⟩ := h
  simp only [Lef.A, labA, repC, repL] at hc
  obtain ⟨c1, c2, rfl, ⟨h1, h2⟩, c3, c4, rfl, ⟨h3, h4⟩, c5, c6, rfl, rfl, rfl⟩ := hc
  have e1 := bytes_cells x.l c1 h2
  have e2 := bytes_cells x.v c3 h4
  subst e1
  subst e2
  exact ⟨⟨by simpa using h1, by simpa using h3⟩, he⟩
section
variable {m : OM} {C : Ctx} {ops : Array Oper} {l : List Oper} {K : St → Prop} {n : Nat} {sl : List (Nat × AV)} {hp : List (Nat × HO)} {d : Nat} {ty : Nat} {pos : String} {aft : Array Edge} {gd : Option (Nat × Bool)}
end
end Go.Proofs.YtcmgpkibjdbonaaGreat
set_option maxHeartbeats 8000000
set_option maxRecDepth 100000
namespace Go.Proofs.YtcmgpkibjdbonaaGreat
open Go Go.RowKit
def labC (c : UInt8) : List UInt8 := c :: List.replicate 31 0
def lefC (c : UInt8) : Lef := ⟨labC c, List.replicate 32 0, 0⟩
def awL : List Lef := [lefC 0, lefC 64, lefC 128]
end Go.Proofs.YtcmgpkibjdbonaaGreat
set_option maxHeartbeats 8000000
set_option maxRecDepth 100000
namespace Go.Proofs.YtcmgpkibjdbonaaGreat
open Go Go.RowKit
theorem rbit_spec (l : List UInt8) (hl : l.length = 32) (i : Nat) (hi : i < 256) : Spec Tryz.prog 93 [labA l, .i .i64 i] [] (fun v os => v = .i .i64 (bitL l i : Nat) ∧ os = []) := by
  refine spec_of TtOk [] Tryz.func93 rfl Tryz.ntmps93 (by kernel_rfl) rfl rfl (fun C => ?_) rfl
  have hg := lab_get (l := l) (i := i / 8) (by omega)
  have hb : bitL l i = ((l.getD (i / 8) 0).toNat / 2 ^ (7 - i % 8)) % 2 := rfl
  rw [hb]
  generalize l.getD (i / 8) 0 = c at hg ⊢
  have hc8 := c.toNat_lt
  repeat' (first | refine Awp.seq ?_ | refine Awp.block ?_ | refine Awp.region ?_ | (refine Ops.nil ?_; show Awp _ _ _ _ _) | (refine Awp.skip ?_; show Awp _ _ _ _ _) | (refine o_quo rfl rfl rfl rfl ?_ ?_ ?_; omega; omega) | (refine o_rem rfl rfl rfl rfl ?_ ?_ ?_; omega; omega) | refine o_convB rfl TtOk rfl rfl rfl rfl ?_ | (refine o_calm rfl TtOk rfl rfl rfl ?_ (fun _ => ?_); exact nd) | refine o_box (d := 2) rfl rfl rfl rfl (fun b2 => ?_) | (refine a_condP rfl (fun hc => ?_) (fun hc => ?_)) <;> (try (exfalso; omega)) | (refine o_indexArr TtOk rfl rfl rfl rfl rfl rfl (i/8) rfl (by omega) ?_) | (refine o_loadAt TtOk rfl rfl rfl rfl (sub_arr hg) (by first | exact Nat.add_zero _ | rfl) ⟨rfl, rfl⟩ rfl rfl ?_))
  refine Awp.loop (fun j : Nat => ⟨28, [(6, .i .i64 ((i % 8 + j : Nat) : Int)), (5, .i .i64 ((c.toNat / 2 ^ j : Nat) : Int))], []⟩) (fun j => i % 8 + j ≤ 7) (fun j => 7 - j) [] 0 (by omega) ?_ ?_
  · exact ⟨rfl, ⟨sle_i (by omega), sle_i (by rw [Nat.pow_zero, Nat.div_one]), True.intro⟩, .nil⟩
  intro j hj
  have hs : c.toNat / 2 ^ (j + 1) = c.toNat / 2 ^ j / 2 := by rw [Nat.pow_succ, Nat.div_div_eq_div_mul]
  have hle : c.toNat / 2 ^ j < 256 := Nat.lt_of_le_of_lt (Nat.div_le_self _ _) hc8
  by_cases hj7 : i % 8 + j < 7
  · generalize c.toNat / 2 ^ j = x at hs hle ⊢
    repeat' (first | refine Awp.seq ?_ | refine Awp.block ?_ | refine Awp.region ?_ | (refine Ops.nil ?_; show Awp _ _ _ _ _) | (refine Ops.nil ?_; show Exists _) | (refine Awp.skip ?_; show Awp _ _ _ _ _) | (refine o_add rfl rfl rfl rfl ?_ ?_; omega) | (refine o_quo rfl rfl rfl rfl ?_ ?_ ?_; omega; omega) | (refine o_calm rfl TtOk rfl rfl rfl ?_ (fun _ => ?_); exact nd) | (refine a_condP rfl (fun hc => ?_) (fun hc => ?_)) <;> (try (exfalso; omega)))
    exact ⟨j + 1, [], by omega, by omega, rfl, ⟨sle_i (by omega), sle_i (by rw [hs]; omega), True.intro⟩, .nil⟩
  · have hje : 7 - i % 8 = j := by omega
    rw [hje]
    generalize c.toNat / 2 ^ j = x at hs hle ⊢
    repeat' (first | refine Awp.seq ?_ | refine Awp.region ?_ | (refine Ops.nil ?_; show Awp _ _ _ _ _) | (refine Awp.exit ?_; show Awp _ _ _ _ _) | (refine Awp.ret ?_; show endK _ _ _ _ _) | (refine o_rem rfl rfl rfl rfl ?_ ?_ ?_; omega; omega) | (refine o_calm rfl TtOk rfl rfl rfl ?_ (fun _ => ?_); exact nd) | (refine a_condP rfl (fun hc => ?_) (fun hc => ?_)) <;> (try (exfalso; omega)))
    refine end_tmp rfl rfl rfl [] [] (CLe.of_eq ?_) .nil ⟨rfl, rfl⟩ _ (.inl rfl)
    exact congrArg (AV.i .i64) (by omega)
def bitOn (l : List UInt8) (i : Nat) : List UInt8 := l.set (i / 8) (UInt8.ofNat ((l.getD (i / 8) 0).toNat + 2 ^ (7 - i % 8)))
theorem setb_facts : ∀ (c : Fin 256) (p : Fin 8), c.val.testBit p.val = false → c.val + 2 ^ p.val < 256 ∧ ∀ q : Fin 8, (c.val + 2 ^ p.val).testBit q.val = (decide (q.val = p.val) || c.val.testBit q.val) := by decide +kernel
theorem bitOn_len (l : List UInt8) (i : Nat) : (bitOn l i).length = l.length := List.length_set ..
theorem bitL_zero_test {l : List UInt8} {i : Nat} (h : bitL l i = 0) : (l.getD (i / 8) 0).toNat.testBit (7 - i % 8) = false := by
  rw [bitL_def] at h
  cases hb : (l.getD (i / 8) 0).toNat.testBit (7 - i % 8)
  · rfl
  · rw [hb] at h; cases h
theorem bitOn_bit (l : List UInt8) (hl : l.length = 32) (i : Nat) (hi : i < 256) (h0 : bitL l i = 0) (j : Nat) (_hj : j < 256) : bitL (bitOn l i) j = if j = i then 1 else bitL l j := by
  have ht := bitL_zero_test h0
  rw [bitL_def, bitL_def]
  unfold bitOn
  have hs : (l.set (i / 8) (UInt8.ofNat ((l.getD (i / 8) 0).toNat + 2 ^ (7 - i % 8)))).getD (j / 8) 0 = if j / 8 = i / 8 then UInt8.ofNat ((l.getD (i / 8) 0).toNat + 2 ^ (7 - i % 8)) else l.getD (j / 8) 0 := by
    rw [List.getD_eq_getElem?_getD, List.getElem?_set, List.getD_eq_getElem?_getD]
    by_cases he : i / 8 = j / 8
    · rw [if_pos he, if_pos he.symm, if_pos (by omega)]; rfl
    · rw [if_neg he, if_neg (fun h => he h.symm), List.getD_eq_getElem?_getD]
  rw [hs]
  obtain ⟨f1, f2⟩ := setb_facts ⟨(l.getD (i / 8) 0).toNat, UInt8.toNat_lt _⟩ ⟨7 - i % 8, by omega⟩ ht
  have f2 := f2 ⟨7 - j % 8, by omega⟩
  dsimp only at f1 f2
  by_cases he : j / 8 = i / 8
  · rw [if_pos he, UInt8.toNat_ofNat', Nat.mod_eq_of_lt f1, f2, he]
    by_cases hji : j = i
    · rw [if_pos hji, decide_eq_true (by omega)]; rfl
    · rw [if_neg hji, decide_eq_false (by omega)]; rfl
  · rw [if_neg he, if_neg (fun h => he (by rw [h]))]
theorem cut_succ (l : List UInt8) (hl : l.length = 32) (i : Nat) (hi : i < 256) : cutL l (i + 1) = if bitL l i = 1 then bitOn (cutL l i) i else cutL l i := by
  have hc := cutL_len l i hl (by omega)
  have hz : bitL (cutL l i) i = 0 := by rw [cut_bit l hl i i (by omega), if_neg (by omega)]
  refine bits_eq (cutL_len l _ hl (by omega)) (by
    split
    · rw [bitOn_len]; exact hc
    · exact hc) (fun j hj => ?_)
  rw [cut_bit l hl _ j (by omega)]
  by_cases h1 : bitL l i = 1
  · rw [if_pos h1, bitOn_bit _ hc i hi hz j hj, cut_bit l hl i j (by omega)]
    by_cases hji : j = i
    · subst hji; rw [if_pos (by omega), if_pos rfl, h1]
    · rw [if_neg hji]
      by_cases hlt : j < i
      · rw [if_pos hlt, if_pos (by omega)]
      · rw [if_neg hlt, if_neg (by omega)]
  · rw [if_neg h1, cut_bit l hl i j (by omega)]
    by_cases hji : j = i
    · subst hji
      rw [if_pos (by omega), if_neg (by omega)]
      rcases bitL_or l j with h | h
      · exact h
      · exact absurd h h1
    · by_cases hlt : j < i
      · rw [if_pos hlt, if_pos (by omega)]
      · rw [if_neg hlt, if_neg (by omega)]
theorem rset_spec (l : List UInt8) (hl : l.length = 32) (i : Nat) (hi : i < 256) (h0 : bitL l i = 0) : Spec Tryz.prog 216 [labA l, .i .i64 i] [] (fun v os => v = labA (bitOn l i) ∧ os = []) := by
  refine spec_of TtOk [] Tryz.func216 rfl Tryz.ntmps216 (by kernel_rfl) rfl rfl (fun C => ?_) rfl
  have h1 := rbit_spec l hl i hi
  rw [h0] at h1
  have hg := lab_get (l := l) (i := i / 8) (by omega)
  have hset : bitOn l i = l.set (i / 8) (UInt8.ofNat ((l.getD (i / 8) 0).toNat + 2 ^ (7 - i % 8))) := rfl
  rw [hset]
  generalize l.getD (i / 8) 0 = c at hg
  have hc8 := c.toNat_lt
  repeat' (first | refine Awp.seq ?_ | refine Awp.block ?_ | refine Awp.region ?_ | (refine Ops.nil ?_; show Awp _ _ _ _ _) | (refine o_rem rfl rfl rfl rfl ?_ ?_ ?_; omega; omega) | (refine o_calm rfl TtOk rfl rfl rfl ?_ (fun _ => ?_); exact nd) | refine o_alloc (d := 4) rfl TtOk rfl rfl rfl (fun b4 => ?_) | refine o_box (d := 2) rfl rfl rfl rfl (fun b2 => ?_))
  refine Awp.loop (fun j : Nat => ⟨27, [(6, .i .i64 ((i % 8 + j : Nat) : Int)), (5, .i .u8 ((2 ^ j : Nat) : Int)), (1, .i .i64 i), (2, .ptr 2 b2 [] 0), (4, .ptr 4 b4 [] 0)], [(2, .var b2 (labA l)), (4, .var b4 (.arr 1 32 (List.replicate 32 (.i .u8 0))))]⟩) (fun j => i % 8 + j ≤ 7) (fun j => 7 - j) [] 0 (by omega) ?_ ?_
  · exact ⟨rfl, ⟨sle_i (by omega), sle_i rfl, sle_i rfl, sle_ptr, sle_ptr, True.intro⟩, HLe.cons 2 rfl (HOLe.refl _) (HLe.cons 4 rfl (HOLe.refl _) .nil)⟩
  intro j hj
  by_cases hj7 : i % 8 + j < 7
  · have hw : IntKind.u8.wrap (2 * ((2 ^ j : Nat) : Int)) = ((2 ^ (j + 1) : Nat) : Int) := by
      have hp : 2 ^ j ≤ 2 ^ 6 := Nat.pow_le_pow_right (by decide) (by omega)
      rw [show 2 * ((2 ^ j : Nat) : Int) = ((2 ^ j * 2 : Nat) : Int) by omega, bwrap_nat, Nat.pow_succ]
      rw [Nat.mod_eq_of_lt (by omega)]
    generalize hp : ((2 ^ j : Nat) : Int) = x at hw ⊢
    repeat' (first | (rw [hw]) | refine Awp.seq ?_ | refine Awp.block ?_ | refine Awp.region ?_ | (refine Ops.nil ?_; show Awp _ _ _ _ _) | (refine Ops.nil ?_; show Exists _) | (refine Awp.skip ?_; show Awp _ _ _ _ _) | (refine o_add rfl rfl rfl rfl ?_ ?_; omega) | (refine o_calm rfl TtOk rfl rfl rfl ?_ (fun _ => ?_); exact nd) | (refine a_condP rfl (fun hc => ?_) (fun hc => ?_)) <;> (try (exfalso; omega)))
    exact ⟨j + 1, [], by omega, by omega, rfl, ⟨sle_i (by omega), sle_i rfl, sle_i rfl, sle_ptr, sle_ptr, True.intro⟩, HLe.cons 2 rfl (HOLe.refl _) (HLe.cons 4 rfl (HOLe.refl _) .nil)⟩
  · have hje : 7 - i % 8 = j := by omega
    rw [hje]
    have hb : AV.i .u8 (IntKind.u8.wrap ((c.toNat : Int) + ((2 ^ j : Nat) : Int))) = byA (UInt8.ofNat (c.toNat + 2 ^ j)) := by
      rw [show (c.toNat : Int) + ((2 ^ j : Nat) : Int) = ((c.toNat + 2 ^ j : Nat) : Int) by omega, byA_nt]
    generalize UInt8.ofNat (c.toNat + 2 ^ j) = d at hb ⊢
    generalize ((2 ^ j : Nat) : Int) = x at hb ⊢
    repeat' (first | (rw [hb]) | refine Awp.seq ?_ | refine Awp.region ?_ | (refine Ops.nil ?_; show Awp _ _ _ _ _) | (refine Awp.exit ?_; show Awp _ _ _ _ _) | (refine Awp.ret ?_; show endK _ _ _ _ _) | (refine o_quo rfl rfl rfl rfl ?_ ?_ ?_; omega; omega) | (refine o_calm rfl TtOk rfl rfl rfl ?_ (fun _ => ?_); exact nd) | refine o_store TtOk rfl rfl rfl rfl rfl rfl rfl ⟨rfl, rfl⟩ rfl rfl rfl rfl rfl ?_ | refine a_condT rfl ?_ | (refine a_condP rfl (fun hc => ?_) (fun hc => ?_)) <;> (try (exfalso; omega)) | (refine o_indexArr TtOk rfl rfl rfl rfl rfl rfl (i/8) rfl (by omega) ?_) | (refine o_loadAt TtOk rfl rfl rfl rfl (sub_arr hg) (by first | exact Nat.add_zero _ | rfl) ⟨rfl, rfl⟩ rfl rfl ?_) | (refine o_storeArr TtOk rfl rfl rfl rfl rfl rfl ⟨rfl, rfl⟩ rfl rfl hg rfl rfl ?_) | (refine o_call0 rfl (h1) ⟨SLe.of_eq rfl, SLe.of_eq rfl, True.intro⟩ rfl ?_; rintro _ _ ⟨rfl, rfl⟩; refine ⟨rfl, ?_⟩))
    have hq : AV.arr 1 32 ((l.map byA).set (i / 8) (byA d)) = labA (l.set (i / 8) d) := by unfold labA; rw [List.map_set]
    refine end_all [] [] (labA (l.set (i / 8) d)) rfl ?_ ?_ (rle_one (CLe.of_eq hq) rfl) .nil ⟨rfl, rfl⟩ _ (.inl rfl)
    · repeat' (first | exact True.intro | exact rfl | refine ⟨?_, ?_⟩)
    · exact ⟨trivial, trivial⟩
theorem cut_zero (l : List UInt8) : cutL l 0 = List.replicate 32 0 := by unfold cutL cutP; rw [if_pos rfl]; rfl
theorem rcut_spec (l : List UInt8) (hl : l.length = 32) (n : Int) : Spec Tryz.prog 177 [labA l, .i .i64 n] [] (fun v os => v = labA (cutL l (clamp n)) ∧ os = []) := by
  refine spec_of TtOk [] Tryz.func177 rfl Tryz.ntmps177 (by kernel_rfl) rfl rfl (fun C => ?_) rfl
  obtain ⟨m, hm⟩ : ∃ m, clamp n = m := ⟨_, rfl⟩
  have hm1 : m ≤ 256 := by rw [← hm]; unfold clamp; omega
  have hm2 : ∀ i : Nat, i < m ↔ ((i : Int) < n ∧ (i : Int) < 256) := fun i => by rw [← hm]; unfold clamp; omega
  rw [hm]
  repeat' (first | refine Awp.seq ?_ | refine Awp.block ?_ | refine Awp.region ?_ | (refine Ops.nil ?_; show Awp _ _ _ _ _) | (refine o_calm rfl TtOk rfl rfl rfl ?_ (fun _ => ?_); exact nd) | refine o_alloc (d := 4) rfl TtOk rfl rfl rfl (fun b4 => ?_) | refine o_alloc (d := 5) rfl TtOk rfl rfl rfl (fun b5 => ?_) | refine o_box (d := 2) rfl rfl rfl rfl (fun b2 => ?_) | refine o_store TtOk rfl rfl rfl rfl rfl rfl rfl ⟨rfl, rfl⟩ rfl rfl rfl rfl rfl ?_ | refine o_buildArr0 TtOk rfl rfl rfl rfl ?_)
  refine Awp.loop (fun i : Nat => ⟨25, [(6, .i .i64 i), (1, .i .i64 n), (2, .ptr 2 b2 [] 0), (4, .ptr 4 b4 [] 0), (5, .ptr 5 b5 [] 0)], [(2, .var b2 (labA l)), (4, .var b4 (.arr 1 32 (List.replicate 32 (.i .u8 0)))), (5, .var b5 (labA (cutL l i)))]⟩) (fun i => i ≤ m) (fun i => m - i) [] 0 (Nat.zero_le _) ?_ ?_
  · exact ⟨rfl, ⟨sle_i rfl, sle_i rfl, sle_ptr, sle_ptr, sle_ptr, True.intro⟩, HLe.cons 2 rfl (HOLe.refl _) (HLe.cons 4 rfl (HOLe.refl _) (HLe.cons 5 rfl (HOLe.var (CLe.of_eq (by rw [cut_zero]; rfl))) .nil))⟩
  intro i hi
  by_cases hlt : i < m
  · obtain ⟨g1, g2⟩ := (hm2 i).1 hlt
    have hc := cutL_len l i hl (by omega)
    have hz : bitL (cutL l i) i = 0 := by rw [cut_bit l hl i i (by omega), if_neg (by omega)]
    have h1 := rbit_spec l hl i (by omega)
    have h2 := rset_spec (cutL l i) hc i (by omega) hz
    have hs := cut_succ l hl i (by omega)
    have hi1 : ((i : Int) + 1 = ((i + 1 : Nat) : Int)) := by omega
    clear hz hc
    generalize cutL l i = c at h2 hs ⊢
    generalize bitOn c i = d at h2 hs ⊢
    have hb := bitL_or l i
    generalize bitL l i = b at h1 hs hb
    rcases hb with rfl | rfl
    · rw [if_neg (by decide)] at hs
      subst hs
      repeat' (first | refine Awp.seq ?_ | refine Awp.block ?_ | refine Awp.region ?_ | (refine Ops.nil ?_; show Awp _ _ _ _ _) | (refine Ops.nil ?_; show Exists _) | (refine Awp.skip ?_; show Awp _ _ _ _ _) | (refine o_add rfl rfl rfl rfl ?_ ?_; omega) | (refine o_calm rfl TtOk rfl rfl rfl ?_ (fun _ => ?_); exact nd) | (fail_if_success (refine o_isLit rfl (by first | exact .inl rfl | exact .inr rfl) ?_)); (refine o_splitP rfl rfl (fun hc => ?_) (fun hc => ?_) <;> try (exfalso; omega)) | refine a_condF rfl ?_ | (refine a_condP rfl (fun hc => ?_) (fun hc => ?_)) <;> (try (exfalso; omega)) | (refine o_call0 rfl (h1) ⟨SLe.of_eq rfl, SLe.of_eq rfl, True.intro⟩ rfl ?_; rintro _ _ ⟨rfl, rfl⟩; refine ⟨rfl, ?_⟩))
      exact ⟨i + 1, [], hlt, by omega, rfl, ⟨sle_i hi1, sle_i rfl, sle_ptr, sle_ptr, sle_ptr, True.intro⟩, HLe.cons 2 rfl (HOLe.refl _) (HLe.cons 4 rfl (HOLe.refl _) (HLe.cons 5 rfl (HOLe.var (CLe.of_eq rfl)) .nil))⟩
    · rw [if_pos rfl] at hs
      subst hs
      repeat' (first | refine Awp.seq ?_ | refine Awp.block ?_ | refine Awp.region ?_ | (refine Ops.nil ?_; show Awp _ _ _ _ _) | (refine Ops.nil ?_; show Exists _) | (refine Awp.skip ?_; show Awp _ _ _ _ _) | (refine o_add rfl rfl rfl rfl ?_ ?_; omega) | (refine o_calm rfl TtOk rfl rfl rfl ?_ (fun _ => ?_); exact nd) | refine o_store TtOk rfl rfl rfl rfl rfl rfl rfl ⟨rfl, rfl⟩ rfl rfl rfl rfl rfl ?_ | (fail_if_success (refine o_isLit rfl (by first | exact .inl rfl | exact .inr rfl) ?_)); (refine o_splitP rfl rfl (fun hc => ?_) (fun hc => ?_) <;> try (exfalso; omega)) | refine a_condT rfl ?_ | (refine a_condP rfl (fun hc => ?_) (fun hc => ?_)) <;> (try (exfalso; omega)) | (refine o_call0 rfl (h1) ⟨SLe.of_eq rfl, SLe.of_eq rfl, True.intro⟩ rfl ?_; rintro _ _ ⟨rfl, rfl⟩; refine ⟨rfl, ?_⟩) | (refine o_call0 rfl (h2) ⟨SLe.of_eq rfl, SLe.of_eq rfl, True.intro⟩ rfl ?_; rintro _ _ ⟨rfl, rfl⟩; refine ⟨rfl, ?_⟩))
      exact ⟨i + 1, [], hlt, by omega, rfl, ⟨sle_i hi1, sle_i rfl, sle_ptr, sle_ptr, sle_ptr, True.intro⟩, HLe.cons 2 rfl (HOLe.refl _) (HLe.cons 4 rfl (HOLe.refl _) (HLe.cons 5 rfl (HOLe.var (CLe.of_eq rfl)) .nil))⟩
  · have hie : i = m := by omega
    have hnn : ¬ ((i : Int) < n ∧ (i : Int) < 256) := fun h => hlt ((hm2 i).2 h)
    subst hie
    generalize cutL l i = c
    repeat' (first | refine Awp.seq ?_ | refine Awp.region ?_ | (refine Ops.nil ?_; show Awp _ _ _ _ _) | (refine Awp.exit ?_; show Awp _ _ _ _ _) | (refine Awp.ret ?_; show endK _ _ _ _ _) | refine o_noT rfl rfl rfl ?_ | (refine o_calm rfl TtOk rfl rfl rfl ?_ (fun _ => ?_); exact nd) | refine o_store TtOk rfl rfl rfl rfl rfl rfl rfl ⟨rfl, rfl⟩ rfl rfl rfl rfl rfl ?_ | (fail_if_success (refine o_isLit rfl (by first | exact .inl rfl | exact .inr rfl) ?_)); (refine o_splitP rfl rfl (fun hc => ?_) (fun hc => ?_) <;> try (exfalso; omega)) | refine a_condF rfl ?_ | (refine a_condP rfl (fun hc => ?_) (fun hc => ?_)) <;> (try (exfalso; omega)))
    all_goals
      refine end_all [] [] (labA c) rfl ?_ ?_ (rle_one (CLe.of_eq rfl) rfl) .nil ⟨rfl, rfl⟩ _ (.inl rfl)
      · repeat' (first | exact True.intro | exact rfl | refine ⟨?_, ?_⟩)
      · exact ⟨trivial, trivial⟩
theorem rgood1_spec (n : Int) (l : List UInt8) (hl : l.length = 32) : Spec Tryz.prog 196 [.i .i64 n, labA l] [] (fun v os => v = .b (goodP ⟨n, l⟩) ∧ os = []) := by
  refine spec_of TtOk [] Tryz.func196 rfl Tryz.ntmps196 (by kernel_rfl) rfl rfl (fun C => ?_) rfl
  have hcu := rcut_spec l hl n
  by_cases hn : 0 ≤ n ∧ n ≤ 256
  · have hcl : clamp n = n.toNat := by unfold clamp; omega
    rw [hcl] at hcu
    have hg : goodP ⟨n, l⟩ = (cutL l n.toNat == l) := by unfold goodP; rw [decide_eq_true hn.1, decide_eq_true hn.2]; rfl
    rw [hg]
    generalize cutL l n.toNat = c at hcu
    repeat' (first | refine Awp.seq ?_ | refine Awp.region ?_ | (refine Ops.nil ?_; show Awp _ _ _ _ _) | (refine Awp.ret ?_; show endK _ _ _ _ _) | (refine o_calm rfl TtOk rfl rfl rfl ?_ (fun _ => ?_); exact nd) | refine o_box (d := 3) rfl rfl rfl rfl (fun b3 => ?_) | refine o_eqArr8 TtOk rfl rfl rfl rfl rfl rfl (by kernel_rfl) ?_ | (fail_if_success (refine o_isLit rfl (by first | exact .inl rfl | exact .inr rfl) ?_)); (refine o_splitP rfl rfl (fun hc => ?_) (fun hc => ?_) <;> try (exfalso; omega)) | refine a_any 1 [] [] [] [0, 1, 2, 3, 4, 5, 6, 8, 7, 10, 9, 11, 12, 13] (by kernel_rfl) (by kernel_rfl) (by kernel_rfl) rfl rfl rfl ?_ | (refine o_call0 rfl (hcu) ⟨SLe.of_eq rfl, SLe.of_eq rfl, True.intro⟩ rfl ?_; rintro _ _ ⟨rfl, rfl⟩; refine ⟨rfl, ?_⟩))
    exact end_tmp rfl rfl rfl [] [] (CLe.of_eq rfl) .nil ⟨rfl, rfl⟩ _ (.inl rfl)
  · have hg : goodP ⟨n, l⟩ = false := by
      unfold goodP
      by_cases h0 : 0 ≤ n
      · rw [decide_eq_true h0, decide_eq_false (by show ¬ n ≤ 256; omega)]; rfl
      · rw [decide_eq_false (by show ¬ 0 ≤ n; omega)]; rfl
    rw [hg]
    repeat' (first | refine Awp.seq ?_ | refine Awp.region ?_ | (refine Ops.nil ?_; show Awp _ _ _ _ _) | (refine Awp.ret ?_; show endK _ _ _ _ _) | refine o_noT rfl rfl rfl ?_ | (refine o_calm rfl TtOk rfl rfl rfl ?_ (fun _ => ?_); exact nd) | refine o_box (d := 3) rfl rfl rfl rfl (fun b3 => ?_) | (fail_if_success (refine o_isLit rfl (by first | exact .inl rfl | exact .inr rfl) ?_)); (refine o_splitP rfl rfl (fun hc => ?_) (fun hc => ?_) <;> try (exfalso; omega)) | refine a_any 1 [] [] [] [0, 1, 2, 3, 4, 5, 6, 8, 7, 10, 9, 11, 12, 13] (by kernel_rfl) (by kernel_rfl) (by kernel_rfl) rfl rfl rfl ?_)
    all_goals exact end_tmp rfl rfl rfl [] [] (CLe.of_eq rfl) .nil ⟨rfl, rfl⟩ _ (.inl rfl)
end Go.Proofs.YtcmgpkibjdbonaaGreat
