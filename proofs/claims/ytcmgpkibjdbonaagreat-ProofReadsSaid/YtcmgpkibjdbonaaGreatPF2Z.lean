/- proof.Make by rules. -/
import Derived.Test.YtcmgpkibjdbonaaGreatPF1Z
import Derived.Test.YtcmgpkibjdbonaaGreatV17Z
set_option maxHeartbeats 16000000
set_option maxRecDepth 100000
namespace Go.Proofs.YtcmgpkibjdbonaaGreat
open Go Go.RowKit
structure Prf where
  e : Int
  lf : Lef
  a : Itm
  b : Itm
  path : List Itm
def Prf.A (p : Prf) : AV := .agg [.i .i64 p.e, p.lf.A, .agg [p.a.A, p.b.A], .sl 66 (p.path.map Itm.A)]
def Prf.R (p : Prf) : AV := .agg [.i .i64 p.e, p.lf.A, p.a.R, p.b.R, .sl 66 (p.path.map Itm.R)]
structure Prf.ok (p : Prf) : Prop where
  lf : p.lf.ok
  a : p.a.ok
  b : p.b.ok
  path : ∀ x ∈ p.path, x.ok
def itmY : AV := .agg [.agg [.i .i64 0, .arr 1 32 (List.replicate 32 (.i .u8 0))], .arr 1 32 (List.replicate 32 (.i .u8 0)), .i .i64 0]
def prf0 : Prf := ⟨0, lef0, itm0, itm0, []⟩
/-- The way towards a label, in rising leaves. -/
def wayF : Nat → List Lef → List UInt8 → List Itm → Prf
  | 0, _, _, p => ⟨0, lef0, itm0, itm0, p.reverse⟩
  | k + 1, l, lb, p => if l = [] then ⟨0, lef0, itm0, itm0, p.reverse⟩ else if l.length = 1 then ⟨1, l.headD lef0, itm0, itm0, p.reverse⟩
    else if hasP (joinF l.length (l.map leafI)).p lb = false then ⟨2, lef0, parA (l.map leafI), parB (l.map leafI), p.reverse⟩
    else if bitL lb (frkI (l.map leafI)) = 1 then wayF k (l.drop (splI (l.map leafI))) lb (p ++ [parA (l.map leafI)]) else wayF k (l.take (splI (l.map leafI))) lb (p ++ [parB (l.map leafI)])
def mkE (l : List Lef) : Int := chkI (itmsL l)
def mkP (l : List Lef) (lb : List UInt8) : Prf := if mkE l ≠ 0 then prf0 else wayF (l.length + 1) (srtL l) lb []
theorem hok_map {l : List Lef} (hok : ∀ x ∈ l, x.ok) : ∀ x ∈ l.map leafI, x.ok := fun x hx => by
  obtain ⟨y, hy, rfl⟩ := List.mem_map.1 hx
  exact leafI_ok y (hok y hy)
theorem pitemA {l : List Lef} (h2 : 2 ≤ l.length) (hl : l.length ≤ 100000) (hr : RiseI (l.map leafI)) (hok : ∀ x ∈ l, x.ok) : Spec Tryz.prog 169 [.sl 65 ((l.take (splI (l.map leafI))).map Lef.A)] [] (fun v os => v = (parA (l.map leafI)).A ∧ os = []) := by
  have hml : (l.map leafI).length = l.length := List.length_map ..
  obtain ⟨_, s1, s2, _⟩ := spl_ok hr (hok_map hok) (by omega)
  have n1 : l.take (splI (l.map leafI)) ≠ [] := fun h => by have := congrArg List.length h; rw [List.length_take, List.length_nil] at this; omega
  have r1 : RiseI ((l.take (splI (l.map leafI))).map leafI) := by rw [List.map_take]; exact hr.sublist (List.take_sublist ..)
  have k1 : ∀ x ∈ l.take (splI (l.map leafI)), x.ok := fun x hx => hok x (List.mem_of_mem_take hx)
  have i1 := pitem_spec (l.take (splI (l.map leafI))) n1 (by rw [List.length_take]; omega) r1 k1
  have e1 : joinF (l.take (splI (l.map leafI))).length ((l.take (splI (l.map leafI))).map leafI) = parA (l.map leafI) := by
    unfold parA
    rw [← List.map_take]
    exact joinF_fuel _ _ _ (fun h => n1 (List.map_eq_nil_iff.1 h)) (by rw [List.length_map]; exact Nat.le_refl _) (by rw [List.length_map, List.length_take]; omega) r1 (hok_map k1)
  rw [e1] at i1
  exact i1
theorem pitemB {l : List Lef} (h2 : 2 ≤ l.length) (hl : l.length ≤ 100000) (hr : RiseI (l.map leafI)) (hok : ∀ x ∈ l, x.ok) : Spec Tryz.prog 169 [.sl 65 ((l.drop (splI (l.map leafI))).map Lef.A)] [] (fun v os => v = (parB (l.map leafI)).A ∧ os = []) := by
  have hml : (l.map leafI).length = l.length := List.length_map ..
  obtain ⟨_, s1, s2, _⟩ := spl_ok hr (hok_map hok) (by omega)
  have n1 : l.drop (splI (l.map leafI)) ≠ [] := fun h => by have := congrArg List.length h; rw [List.length_drop, List.length_nil] at this; omega
  have r1 : RiseI ((l.drop (splI (l.map leafI))).map leafI) := by rw [List.map_drop]; exact hr.sublist (List.drop_sublist ..)
  have k1 : ∀ x ∈ l.drop (splI (l.map leafI)), x.ok := fun x hx => hok x (List.mem_of_mem_drop hx)
  have i1 := pitem_spec (l.drop (splI (l.map leafI))) n1 (by rw [List.length_drop]; omega) r1 k1
  have e1 : joinF (l.drop (splI (l.map leafI))).length ((l.drop (splI (l.map leafI))).map leafI) = parB (l.map leafI) := by
    unfold parB
    rw [← List.map_drop]
    exact joinF_fuel _ _ _ (fun h => n1 (List.map_eq_nil_iff.1 h)) (by rw [List.length_map]; exact Nat.le_refl _) (by rw [List.length_map, List.length_drop]; omega) r1 (hok_map k1)
  rw [e1] at i1
  exact i1
theorem pmake_spec (l : List Lef) (lb : List UInt8) (hl : l.length ≤ 40000) (hok : ∀ x ∈ l, x.ok) (hlb : lb.length = 32) : Spec Tryz.prog 97 [.sl 65 (l.map Lef.A), labA lb] [] (fun v os => v = .tup [(mkP l lb).A, .i .i64 (mkE l)] ∧ os = []) := by
  refine spec_of TtOk [] Tryz.func97 rfl Tryz.ntmps97 (by kernel_rfl) rfl rfl (fun C => ?_) rfl
  have h1 := psorted_spec l (by omega)
  have hok2 : ∀ x ∈ srtL l, x.ok := fun x hx => hok x (srtL_mem.1 hx)
  have hsl := srtL_len l
  have h2 := of_spec (srtL l) (by omega) hok2
  rw [itms_srt] at h2
  have hio : ∀ x ∈ itmsL l, x.ok := fun x hx => by
    obtain ⟨y, hy, rfl⟩ := List.mem_map.1 (srtI_mem.1 hx)
    exact leafI_ok y (hok y hy)
  have hil : (itmsL l).length = l.length := by unfold itmsL; rw [srtI_len, List.length_map]
  have h3 := pcheck_spec (itmsL l) (by omega) hio
  have hE : chkI (itmsL l) = mkE l := rfl
  rw [hE] at h3
  unfold mkP
  by_cases hc : mkE l ≠ 0
  · rw [if_pos hc]
    generalize mkE l = e at *
    generalize itmsL l = I at *
    generalize srtL l = S at *
    repeat' (first | refine Awp.seq ?_ | refine Awp.region ?_ | refine Ops.nil (nqA ?_) | refine Awp.ret (nqE ?_) | (refine o_calm rfl TtOk rfl rfl rfl ?_ (fun _ => ?_); exact nd) | refine o_alloc (d := 4) rfl TtOk rfl rfl rfl (fun b4 => ?_) | refine o_box (d := 3) rfl rfl rfl rfl (fun b3 => ?_) | refine o_store TtOk rfl rfl rfl rfl rfl rfl rfl ⟨rfl, rfl⟩ rfl rfl rfl rfl rfl ?_ | refine o_build TtOk rfl rfl rfl rfl rfl rfl nq1 ?_ | (refine a_condN rfl (fun hc => ?_) (fun hc => ?_)) <;> (try (exfalso; omega)) | refine o_callE rfl (h1) ⟨nqS, True.intro⟩ rfl ?_ | refine o_callE rfl (h2) ⟨nqS, True.intro⟩ rfl ?_ | refine o_callE rfl (h3) ⟨nqS, True.intro⟩ rfl ?_)
    refine end_all [] [] (.tup [prf0.A, .i .i64 e]) rfl ?_ ?_ (rle_tup2 (CLe.agg (.cons (CLe.refl _) (.cons (CLe.refl _) (.cons (CLe.refl _) (.cons CLe.nilsl .nil))))) (CLe.of_eq rfl) rfl rfl) .nil ⟨rfl, rfl⟩ _ (.inl rfl)
    · exact nq1
    · exact ⟨trivial, trivial, trivial⟩
  · rw [if_neg hc]
    have hc := Decidable.not_not.1 hc
    have hr : RiseI ((srtL l).map leafI) := by rw [← itms_map]; exact (chkI_rise hc).2.1
    rw [hc] at h3 ⊢
    obtain ⟨W, hW⟩ : ∃ W, wayF (l.length + 1) (srtL l) lb [] = W := ⟨_, rfl⟩
    rw [hW]
    clear hc hE hil hio
    generalize itmsL l = I at *
    generalize srtL l = S at *
    repeat' (first | refine Awp.seq ?_ | refine Awp.block ?_ | refine Awp.region ?_ | refine Ops.nil (nqA ?_) | refine Awp.skip (nqA ?_) | (refine o_calm rfl TtOk rfl rfl rfl ?_ (fun _ => ?_); exact nd) | refine o_alloc (d := 4) rfl TtOk rfl rfl rfl (fun b4 => ?_) | refine o_box (d := 3) rfl rfl rfl rfl (fun b3 => ?_) | refine a_condF rfl ?_ | refine o_callE rfl (h1) ⟨nqS, True.intro⟩ rfl ?_ | refine o_callE rfl (h2) ⟨nqS, True.intro⟩ rfl ?_ | refine o_callE rfl (h3) ⟨nqS, True.intro⟩ rfl ?_)
    refine Awp.loop (fun q : Nat × List Lef × List Itm × Value => ⟨73, [(6, .sl 65 (q.2.1.map Lef.A)), (8, .own 8 q.2.2.2), (3, .ptr 3 b3 [] 0), (4, .ptr 4 b4 [] 0)], [(8, .row q.2.2.2 50 66 (q.2.2.1.map Itm.A)), (3, .var b3 (labA lb)), (4, .var b4 (.agg [.i .i64 0, .agg [.arr 1 32 (List.replicate 32 (.i .u8 0)), .arr 1 32 (List.replicate 32 (.i .u8 0)), .i .i64 0], .agg [itmY, itmY], .nil]))]⟩) (fun q => q.2.1.length < q.1 ∧ q.2.1.length ≤ 40000 ∧ q.2.2.1.length + q.2.1.length ≤ 50000 ∧ RiseI (q.2.1.map leafI) ∧ (∀ x ∈ q.2.1, x.ok) ∧ wayF q.1 q.2.1 lb q.2.2.1 = W) (fun q => q.1) [] (l.length + 1, S, [], .slice none 0 0) ⟨by show S.length < l.length + 1; omega, by show S.length ≤ 40000; omega, by show 0 + S.length ≤ 50000; omega, hr, hok2, hW⟩ ?_ ?_
    · exact ⟨rfl, ⟨sle_sl rfl, sle_nilown, sle_ptr, sle_ptr, True.intro⟩, HLe.none (HLe.cons 3 rfl (HOLe.refl _) (HLe.cons 4 rfl (HOLe.refl _) .nil))⟩
    clear h1 h2 h3 hW hr hok2
    rintro ⟨k, L, p, v⟩ ⟨hk, hL, hpl, hr, hokL, hst⟩
    dsimp only at hk hL hpl hr hokL hst ⊢
    have hml : (L.map leafI).length = L.length := List.length_map ..
    obtain ⟨k, rfl⟩ : ∃ k', k = k' + 1 := ⟨k - 1, by omega⟩
    have hrv := revI_spec v p (by omega)
    rw [wayF] at hst
    by_cases h2 : 2 ≤ L.length
    · have hp1 := ppair_spec L h2 (by omega) hr hokL
      obtain ⟨oA, oB⟩ := par_ok hr (hok_map hokL) (by omega)
      have hit := iitem_spec _ _ oA oB
      obtain ⟨hf, s1, s2, _⟩ := spl_ok hr (hok_map hokL) (by omega)
      obtain ⟨_, jp⟩ := join_pfx (L.map leafI).length (L.map leafI) (by omega) (Nat.le_refl _) hr (hok_map hokL)
      obtain ⟨jn, jl⟩ := jp (by omega)
      have hjp : joinF L.length (L.map leafI) = innI (parA (L.map leafI)) (parB (L.map leafI)) := by rw [← hml]; exact join_par (by omega)
      rw [join_par (by omega)] at jn
      have hxl := (innI_ok (parA (L.map leafI)) (parB (L.map leafI)) oA).1
      have hsd := sides_spec L (by omega) hokL (frkI (L.map leafI)) hf
      rw [sidL_spl hr hokL h2] at hsd
      have hbt := bit_spec lb hlb (frkI (L.map leafI)) (by omega) (by omega)
      rw [if_pos (by omega), Int.toNat_natCast] at hbt
      have hiA := pitemA h2 (by omega) hr hokL
      have hiB := pitemB h2 (by omega) hr hokL
      have r1 : RiseI ((L.take (splI (L.map leafI))).map leafI) := by rw [List.map_take]; exact hr.sublist (List.take_sublist ..)
      have r2 : RiseI ((L.drop (splI (L.map leafI))).map leafI) := by rw [List.map_drop]; exact hr.sublist (List.drop_sublist ..)
      rw [if_neg (by intro h; rw [h] at h2; exact absurd h2 (by decide)), if_neg (by omega), hjp] at hst
      have hbo := bitL_or lb (frkI (L.map leafI))
      have hL0 : ((L.length : Int) > 1) := by omega
      clear hjp jl
      generalize innI (parA (L.map leafI)) (parB (L.map leafI)) = x at *
      generalize parA (L.map leafI) = a at *
      generalize parB (L.map leafI) = b at *
      generalize splI (L.map leafI) = s at *
      generalize frkI (L.map leafI) = c at *
      obtain ⟨xn, xl, xs, xt⟩ := x
      dsimp only at jn hxl
      subst jn
      have hhs := bhas_spec c xl lb hxl hlb
      have hP : (⟨(c : Nat), xl, xs, xt⟩ : Itm).p = ⟨(c : Nat), xl⟩ := rfl
      rw [hP] at hst
      clear hP
      have lt1 : (L.take s).length = s := by rw [List.length_take]; omega
      have lt2 : (L.drop s).length = L.length - s := by rw [List.length_drop]
      have hk1 : ∀ x ∈ L.take s, x.ok := fun x hx => hokL x (List.mem_of_mem_take hx)
      have hk2 : ∀ x ∈ L.drop s, x.ok := fun x hx => hokL x (List.mem_of_mem_drop hx)
      generalize hasP ⟨(c : Nat), xl⟩ lb = h at hhs hst
      cases h with
      | false =>
        rw [if_pos rfl] at hst
        subst hst
        repeat' (first | refine Awp.seq ?_ | refine Awp.block ?_ | refine Awp.region ?_ | refine Ops.nil (nqA ?_) | refine Awp.skip (nqA ?_) | refine Awp.ret (nqE ?_) | refine o_len rfl TtOk rfl rfl rfl (fun _ => ?_) | (refine o_calm rfl TtOk rfl rfl rfl ?_ (fun _ => ?_); exact nd) | refine o_alloc (d := 9) rfl TtOk rfl rfl rfl (fun b9 => ?_) | refine o_alloc (d := 10) rfl TtOk rfl rfl rfl (fun b10 => ?_) | refine o_store TtOk rfl rfl rfl rfl rfl rfl rfl ⟨rfl, rfl⟩ rfl rfl rfl rfl rfl ?_ | refine o_build TtOk rfl rfl rfl rfl rfl rfl nq1 ?_ | refine a_condT rfl ?_ | (refine a_condP rfl (fun hc => ?_) (fun hc => ?_)) <;> (try (exfalso; omega)) | (refine o_call [] [8] [8] rfl hrv ⟨sle_own, True.intro⟩ rfl ⟨HOLe.refl _, True.intro⟩ rfl rfl ?_; rintro _ _ ⟨rfl, rfl⟩; refine ⟨_, rfl, rfl, ?_⟩) | refine o_callE rfl (hp1) ⟨nqS, True.intro⟩ rfl ?_ | refine o_callE rfl (hit) ⟨nqS, True.intro⟩ rfl ?_ | refine o_callE rfl (hhs) ⟨nqS, nqS, True.intro⟩ rfl ?_)
        refine end_all [8] [] (.tup [(⟨2, lef0, a, b, p.reverse⟩ : Prf).A, .i .i64 0]) rfl ?_ ?_ (rle_tup2 (CLe.agg (.cons (CLe.of_eq rfl) (.cons (CLe.of_eq rfl) (.cons (CLe.of_eq rfl) (.cons (CLe.fz (.head _)) .nil))))) (CLe.of_eq rfl) rfl rfl) .nil ⟨rfl, rfl⟩ _ (.inl rfl)
        · exact nq1
        · exact ⟨trivial, trivial, trivial⟩
      | true =>
        rw [if_neg (by decide)] at hst
        generalize bitL lb c = bt at *
        rcases hbo with rfl | rfl
        · rw [if_neg (by decide)] at hst
          repeat' (first | refine Awp.seq ?_ | refine Awp.block ?_ | refine Awp.region ?_ | refine Ops.nil (nqA ?_) | refine Ops.nil (nqX ?_) | refine Awp.skip (nqA ?_) | refine o_len rfl TtOk rfl rfl rfl (fun _ => ?_) | (refine o_calm rfl TtOk rfl rfl rfl ?_ (fun _ => ?_); exact nd) | refine o_alloc (d := 9) rfl TtOk rfl rfl rfl (fun b9 => ?_) | refine o_alloc (d := 10) rfl TtOk rfl rfl rfl (fun b10 => ?_) | refine o_store TtOk rfl rfl rfl rfl rfl rfl rfl ⟨rfl, rfl⟩ rfl rfl rfl rfl rfl ?_ | refine o_buildSlice TtOk rfl rfl rfl rfl rfl rfl rfl rfl rfl rfl rfl nq1 (fun _ => ?_) | (refine o_append TtOk rfl rfl rfl rfl rfl rfl rfl rfl rfl (by first | exact True.intro | exact rfl) rfl rfl (fun _ => rfl) ?_ ?_ (fun _ => ?_); ((repeat' (first | rw [List.length_append] | rw [List.length_map] | rw [List.length_cons] | rw [List.length_nil] | rw [List.length_take] | rw [List.length_drop])) <;> omega); ((repeat' (first | rw [List.length_append] | rw [List.length_map] | rw [List.length_cons] | rw [List.length_nil] | rw [List.length_take] | rw [List.length_drop])) <;> omega)) | refine a_condF rfl ?_ | (refine a_condP rfl (fun hc => ?_) (fun hc => ?_)) <;> (try (exfalso; omega)) | refine o_callE rfl (hp1) ⟨nqS, True.intro⟩ rfl ?_ | refine o_callE rfl (hit) ⟨nqS, True.intro⟩ rfl ?_ | refine o_callE rfl (hhs) ⟨nqS, nqS, True.intro⟩ rfl ?_ | refine o_callE rfl (hsd) ⟨nqS, nqS, True.intro⟩ rfl ?_ | refine o_callE rfl (hbt) ⟨nqS, nqS, True.intro⟩ rfl ?_ | refine o_callE rfl (hiB) ⟨nqS, True.intro⟩ rfl ?_)
          all_goals
            refine ⟨(k, L.take s, p ++ [b], _), [], ⟨by show (L.take s).length < k; omega, by show (L.take s).length ≤ 40000; omega, by show (p ++ [b]).length + (L.take s).length ≤ 50000; rw [List.length_append, List.length_singleton]; omega, r1, hk1, hst⟩, Nat.lt_succ_self k, rfl, ⟨sle_sl rfl, sle_own, sle_ptr, sle_ptr, True.intro⟩, HLe.cons 8 rfl (HOLe.row ?_) (HLe.cons 3 rfl (HOLe.refl _) (HLe.cons 4 rfl (HOLe.refl _) .nil))⟩
            rw [List.map_append]; rfl
        · rw [if_pos rfl] at hst
          repeat' (first | refine Awp.seq ?_ | refine Awp.block ?_ | refine Awp.region ?_ | refine Ops.nil (nqA ?_) | refine Ops.nil (nqX ?_) | refine Awp.skip (nqA ?_) | refine o_len rfl TtOk rfl rfl rfl (fun _ => ?_) | (refine o_calm rfl TtOk rfl rfl rfl ?_ (fun _ => ?_); exact nd) | refine o_alloc (d := 9) rfl TtOk rfl rfl rfl (fun b9 => ?_) | refine o_alloc (d := 10) rfl TtOk rfl rfl rfl (fun b10 => ?_) | refine o_store TtOk rfl rfl rfl rfl rfl rfl rfl ⟨rfl, rfl⟩ rfl rfl rfl rfl rfl ?_ | refine o_buildSlice TtOk rfl rfl rfl rfl rfl rfl rfl rfl rfl rfl rfl nq1 (fun _ => ?_) | (refine o_append TtOk rfl rfl rfl rfl rfl rfl rfl rfl rfl (by first | exact True.intro | exact rfl) rfl rfl (fun _ => rfl) ?_ ?_ (fun _ => ?_); ((repeat' (first | rw [List.length_append] | rw [List.length_map] | rw [List.length_cons] | rw [List.length_nil] | rw [List.length_take] | rw [List.length_drop])) <;> omega); ((repeat' (first | rw [List.length_append] | rw [List.length_map] | rw [List.length_cons] | rw [List.length_nil] | rw [List.length_take] | rw [List.length_drop])) <;> omega)) | refine a_condT rfl ?_ | refine a_condF rfl ?_ | (refine a_condP rfl (fun hc => ?_) (fun hc => ?_)) <;> (try (exfalso; omega)) | refine o_callE rfl (hp1) ⟨nqS, True.intro⟩ rfl ?_ | refine o_callE rfl (hit) ⟨nqS, True.intro⟩ rfl ?_ | refine o_callE rfl (hhs) ⟨nqS, nqS, True.intro⟩ rfl ?_ | refine o_callE rfl (hsd) ⟨nqS, nqS, True.intro⟩ rfl ?_ | refine o_callE rfl (hbt) ⟨nqS, nqS, True.intro⟩ rfl ?_ | refine o_callE rfl (hiA) ⟨nqS, True.intro⟩ rfl ?_)
          all_goals
            refine ⟨(k, L.drop s, p ++ [a], _), [], ⟨by show (L.drop s).length < k; omega, by show (L.drop s).length ≤ 40000; omega, by show (p ++ [a]).length + (L.drop s).length ≤ 50000; rw [List.length_append, List.length_singleton]; omega, r2, hk2, hst⟩, Nat.lt_succ_self k, rfl, ⟨sle_sl rfl, sle_own, sle_ptr, sle_ptr, True.intro⟩, HLe.cons 8 rfl (HOLe.row ?_) (HLe.cons 3 rfl (HOLe.refl _) (HLe.cons 4 rfl (HOLe.refl _) .nil))⟩
            rw [List.map_append]; rfl
    · by_cases h0 : L = []
      · rw [if_pos h0] at hst
        subst h0
        subst hst
        repeat' (first | refine Awp.seq ?_ | refine Awp.region ?_ | refine Ops.nil (nqA ?_) | refine Awp.exit (nqA ?_) | refine Awp.ret (nqE ?_) | refine o_len rfl TtOk rfl rfl rfl (fun _ => ?_) | (refine o_calm rfl TtOk rfl rfl rfl ?_ (fun _ => ?_); exact nd) | refine o_store TtOk rfl rfl rfl rfl rfl rfl rfl ⟨rfl, rfl⟩ rfl rfl rfl rfl rfl ?_ | refine o_build TtOk rfl rfl rfl rfl rfl rfl nq1 ?_ | refine a_condT rfl ?_ | refine a_condF rfl ?_ | (refine o_call [] [8] [8] rfl hrv ⟨sle_own, True.intro⟩ rfl ⟨HOLe.refl _, True.intro⟩ rfl rfl ?_; rintro _ _ ⟨rfl, rfl⟩; refine ⟨_, rfl, rfl, ?_⟩))
        refine end_all [8] [] (.tup [(⟨0, lef0, itm0, itm0, p.reverse⟩ : Prf).A, .i .i64 0]) rfl ?_ ?_ (rle_tup2 (CLe.agg (.cons (CLe.of_eq rfl) (.cons (CLe.of_eq rfl) (.cons (CLe.of_eq rfl) (.cons (CLe.fz (.head _)) .nil))))) (CLe.of_eq rfl) rfl rfl) .nil ⟨rfl, rfl⟩ _ (.inl rfl)
        · exact nq1
        · exact ⟨trivial, trivial, trivial⟩
      · rw [if_neg h0] at hst
        have hp : 0 < L.length := List.length_pos_iff.2 h0
        have h1 : L.length = 1 := by omega
        have hd : L.headD lef0 = L[0] := by
          match L, h0 with
          | _ :: _, _ => rfl
        rw [if_pos h1, hd] at hst
        subst hst
        repeat' (first | refine Awp.seq ?_ | refine Awp.region ?_ | refine Ops.nil (nqA ?_) | refine Awp.skip (nqA ?_) | refine Awp.exit (nqA ?_) | refine Awp.ret (nqE ?_) | refine o_len rfl TtOk rfl rfl rfl (fun _ => ?_) | (refine o_calm rfl TtOk rfl rfl rfl ?_ (fun _ => ?_); exact nd) | refine o_store TtOk rfl rfl rfl rfl rfl rfl rfl ⟨rfl, rfl⟩ rfl rfl rfl rfl rfl ?_ | (refine o_index rfl TtOk rfl rfl rfl rfl rfl rfl ?_ (getq_nat ?_) ?_; omega; omega) | refine o_build TtOk rfl rfl rfl rfl rfl rfl nq1 ?_ | (refine a_condP rfl (fun hc => ?_) (fun hc => ?_)) <;> (try (exfalso; omega)) | (refine o_call [] [8] [8] rfl hrv ⟨sle_own, True.intro⟩ rfl ⟨HOLe.refl _, True.intro⟩ rfl rfl ?_; rintro _ _ ⟨rfl, rfl⟩; refine ⟨_, rfl, rfl, ?_⟩))
        refine end_all [8] [] (.tup [(⟨1, L[0], itm0, itm0, p.reverse⟩ : Prf).A, .i .i64 0]) rfl ?_ ?_ (rle_tup2 (CLe.agg (.cons (CLe.of_eq rfl) (.cons (CLe.of_eq rfl) (.cons (CLe.of_eq rfl) (.cons (CLe.fz (.head _)) .nil))))) (CLe.of_eq rfl) rfl rfl) .nil ⟨rfl, rfl⟩ _ (.inl rfl)
        · exact nq1
        · exact ⟨trivial, trivial, trivial⟩
end Go.Proofs.YtcmgpkibjdbonaaGreat
set_option maxHeartbeats 16000000
set_option maxRecDepth 100000
namespace Go.Proofs.YtcmgpkibjdbonaaGreat
open Go Go.RowKit
/-- Bit m of a label; none beyond its end. -/
def bitN (l : List UInt8) (m : Nat) : Nat := if m < 256 then bitL l m else 0
theorem bitN_spec (l : List UInt8) (hl : l.length = 32) (m : Nat) (hm : m ≤ 256) : Spec Tryz.prog 80 [labA l, .i .i64 m] [] (fun v os => v = .i .i64 (bitN l m) ∧ os = []) := by
  have h := bit_spec l hl m (by omega) (by omega)
  have e : (if (m : Int) < 256 then bitL l (m : Int).toNat else 0 : Nat) = bitN l m := by
    unfold bitN
    rw [Int.toNat_natCast]
    by_cases c : m < 256
    · rw [if_pos c, if_pos (by omega)]
    · rw [if_neg c, if_neg (by omega)]
  rw [e] at h
  exact h
/-- The node of an item on the way and the one beside it. -/
def upL (x y : Itm) : Itm := if 0 < cmpS x.l y.l then y else x
def upR (x y : Itm) : Itm := if 0 < cmpS x.l y.l then x else y
def upE (x y : Itm) (lb : List UInt8) : Int := if chkN (upL x y) (upR x y) ≠ 0 then chkN (upL x y) (upR x y) else if hasP (innI (upL x y) (upR x y)).p lb = true ∧ bitN lb (comL (upL x y).l (upR x y).l) = bitN x.l (comL (upL x y).l (upR x y).l) then 0 else 11
theorem up_spec (x y : Itm) (lb : List UInt8) (hx : x.ok) (hy : y.ok) (hlb : lb.length = 32) : Spec Tryz.prog 85 [x.A, y.A, labA lb] [] (fun v os => v = .tup [.agg [(upL x y).A, (upR x y).A], .i .i64 (upE x y lb)] ∧ os = []) := by
  refine spec_of TtOk [] Tryz.func85 rfl Tryz.ntmps85 (by kernel_rfl) rfl rfl (fun C => ?_) rfl
  have ho := border_spec x.l y.l
  by_cases hc : 0 < cmpS x.l y.l
  · have e1 : upL x y = y := if_pos hc
    have e2 : upR x y = x := if_pos hc
    have hck := ncheckI_spec y x hy hx
    have hit := iitem_spec y x hy hx
    have hil : (innI y x).l.length = 32 := (innI_ok y x hy).1
    have hm : comL y.l x.l ≤ 256 := comL_256 hy.1
    have hn : (innI y x).n = ((comL y.l x.l : Nat) : Int) := rfl
    have hb1 := bitN_spec lb hlb (comL y.l x.l) hm
    have hb2 := bitN_spec x.l hx.1 (comL y.l x.l) hm
    unfold upE
    rw [e1, e2]
    generalize innI y x = z at *
    obtain ⟨zn, zl, zs, zt⟩ := z
    dsimp only at hn hil
    subst hn
    have hhs := bhas_spec (comL y.l x.l : Nat) zl lb hil hlb
    have hP : (⟨(comL y.l x.l : Nat), zl, zs, zt⟩ : Itm).p = ⟨(comL y.l x.l : Nat), zl⟩ := rfl
    rw [hP]
    clear hP e1 e2
    generalize hasP ⟨_, zl⟩ lb = h at hhs ⊢
    generalize comL y.l x.l = m at *
    generalize bitN lb m = u at *
    generalize bitN x.l m = v at *
    generalize chkN y x = e at *
    generalize cmpS x.l y.l = o at *
    by_cases he : e ≠ 0
    · rw [if_pos he]
      repeat' (first | refine Awp.seq ?_ | refine Awp.region ?_ | refine Ops.nil (nqA ?_) | refine Awp.ret (nqE ?_) | (refine o_calm rfl TtOk rfl rfl rfl ?_ (fun _ => ?_); exact nd) | refine o_alloc (d := 6) rfl TtOk rfl rfl rfl (fun b6 => ?_) | refine o_alloc (d := 8) rfl TtOk rfl rfl rfl (fun b8 => ?_) | refine o_box (d := 3) rfl rfl rfl rfl (fun b3 => ?_) | refine o_box (d := 4) rfl rfl rfl rfl (fun b4 => ?_) | refine o_box (d := 5) rfl rfl rfl rfl (fun b5 => ?_) | refine o_store TtOk rfl rfl rfl rfl rfl rfl rfl ⟨rfl, rfl⟩ rfl rfl rfl rfl rfl ?_ | refine o_build TtOk rfl rfl rfl rfl rfl rfl nq1 ?_ | (refine a_condP rfl (fun hc => ?_) (fun hc => ?_)) <;> (try (exfalso; omega)) | (refine a_condN rfl (fun hc => ?_) (fun hc => ?_)) <;> (try (exfalso; omega)) | (refine o_mkIface TtOk rfl rfl rfl rfl rfl rfl ?_) | refine o_callE rfl (ho) ⟨nqS, nqS, True.intro⟩ rfl ?_ | refine o_callE rfl (hck) ⟨nqS, True.intro⟩ rfl ?_)
      all_goals
        refine end_all [] [] (.tup [.agg [y.A, x.A], .i .i64 e]) rfl ?_ ?_ (rle_tup2 (CLe.of_eq rfl) (CLe.of_eq rfl) rfl rfl) .nil ⟨rfl, rfl⟩ _ (.inl rfl)
        · exact nq1
        · exact ⟨trivial, trivial, trivial⟩
    · have he := Decidable.not_not.1 he
      subst he
      rw [if_neg (by decide)]
      cases h
      · rw [if_neg (by simp)]
        repeat' (first | refine Awp.seq ?_ | refine Awp.region ?_ | refine Ops.nil (nqA ?_) | refine Awp.skip (nqA ?_) | refine Awp.ret (nqE ?_) | refine o_noF rfl rfl rfl ?_ | (refine o_calm rfl TtOk rfl rfl rfl ?_ (fun _ => ?_); exact nd) | refine o_alloc (d := 6) rfl TtOk rfl rfl rfl (fun b6 => ?_) | refine o_alloc (d := 8) rfl TtOk rfl rfl rfl (fun b8 => ?_) | refine o_alloc (d := 10) rfl TtOk rfl rfl rfl (fun b10 => ?_) | refine o_box (d := 3) rfl rfl rfl rfl (fun b3 => ?_) | refine o_box (d := 4) rfl rfl rfl rfl (fun b4 => ?_) | refine o_box (d := 5) rfl rfl rfl rfl (fun b5 => ?_) | refine o_store TtOk rfl rfl rfl rfl rfl rfl rfl ⟨rfl, rfl⟩ rfl rfl rfl rfl rfl ?_ | refine o_build TtOk rfl rfl rfl rfl rfl rfl nq1 ?_ | refine a_condT rfl ?_ | refine a_condF rfl ?_ | (refine a_condP rfl (fun hc => ?_) (fun hc => ?_)) <;> (try (exfalso; omega)) | refine a_any 8 [] [] [] [0, 1, 2, 3, 4, 6, 9, 10, 12, 5, 7, 11, 13, 8, 14, 15, 16] (by kernel_rfl) (by kernel_rfl) (by kernel_rfl) rfl rfl rfl ?_ | (refine o_mkIface TtOk rfl rfl rfl rfl rfl rfl ?_) | refine o_callE rfl (ho) ⟨nqS, nqS, True.intro⟩ rfl ?_ | refine o_callE rfl (hck) ⟨nqS, True.intro⟩ rfl ?_ | refine o_callE rfl (hit) ⟨nqS, True.intro⟩ rfl ?_ | refine o_callE rfl (hhs) ⟨nqS, nqS, True.intro⟩ rfl ?_)
        all_goals
          refine end_all [] [] (.tup [.agg [y.A, x.A], .i .i64 11]) rfl ?_ ?_ (rle_tup2 (CLe.of_eq rfl) (CLe.of_eq rfl) rfl rfl) .nil ⟨rfl, rfl⟩ _ (.inl rfl)
          · exact nq1
          · exact ⟨trivial, trivial, trivial⟩
      by_cases huv : u = v
      · rw [if_pos ⟨rfl, huv⟩]
        have hui : (u : Int) = v := by omega
        repeat' (first | refine Awp.seq ?_ | refine Awp.region ?_ | refine Ops.nil (nqA ?_) | refine Awp.skip (nqA ?_) | refine Awp.ret (nqE ?_) | (refine o_calm rfl TtOk rfl rfl rfl ?_ (fun _ => ?_); exact nd) | refine o_alloc (d := 6) rfl TtOk rfl rfl rfl (fun b6 => ?_) | refine o_alloc (d := 8) rfl TtOk rfl rfl rfl (fun b8 => ?_) | refine o_alloc (d := 10) rfl TtOk rfl rfl rfl (fun b10 => ?_) | refine o_box (d := 3) rfl rfl rfl rfl (fun b3 => ?_) | refine o_box (d := 4) rfl rfl rfl rfl (fun b4 => ?_) | refine o_box (d := 5) rfl rfl rfl rfl (fun b5 => ?_) | refine o_store TtOk rfl rfl rfl rfl rfl rfl rfl ⟨rfl, rfl⟩ rfl rfl rfl rfl rfl ?_ | refine o_build TtOk rfl rfl rfl rfl rfl rfl nq1 ?_ | refine a_condF rfl ?_ | (refine a_condP rfl (fun hc => ?_) (fun hc => ?_)) <;> (try (exfalso; omega)) | (refine a_condN rfl (fun hc => ?_) (fun hc => ?_)) <;> (try (exfalso; omega)) | refine a_any 8 [] [] [] [0, 1, 2, 3, 4, 6, 9, 10, 12, 5, 7, 11, 13, 8, 14, 15, 16] (by kernel_rfl) (by kernel_rfl) (by kernel_rfl) rfl rfl rfl ?_ | (refine o_mkIface TtOk rfl rfl rfl rfl rfl rfl ?_) | refine o_callE rfl (ho) ⟨nqS, nqS, True.intro⟩ rfl ?_ | refine o_callE rfl (hck) ⟨nqS, True.intro⟩ rfl ?_ | refine o_callE rfl (hit) ⟨nqS, True.intro⟩ rfl ?_ | refine o_callE rfl (hhs) ⟨nqS, nqS, True.intro⟩ rfl ?_ | refine o_callE rfl (hb1) ⟨nqS, nqS, True.intro⟩ rfl ?_ | refine o_callE rfl (hb2) ⟨nqS, nqS, True.intro⟩ rfl ?_)
        all_goals
          refine end_all [] [] (.tup [.agg [y.A, x.A], .i .i64 0]) rfl ?_ ?_ (rle_tup2 (CLe.of_eq rfl) (CLe.of_eq rfl) rfl rfl) .nil ⟨rfl, rfl⟩ _ (.inl rfl)
          · exact nq1
          · exact ⟨trivial, trivial, trivial⟩
      · rw [if_neg (fun h => huv h.2)]
        have hui : ¬ (u : Int) = v := by omega
        repeat' (first | refine Awp.seq ?_ | refine Awp.region ?_ | refine Ops.nil (nqA ?_) | refine Awp.skip (nqA ?_) | refine Awp.ret (nqE ?_) | (refine o_calm rfl TtOk rfl rfl rfl ?_ (fun _ => ?_); exact nd) | refine o_alloc (d := 6) rfl TtOk rfl rfl rfl (fun b6 => ?_) | refine o_alloc (d := 8) rfl TtOk rfl rfl rfl (fun b8 => ?_) | refine o_alloc (d := 10) rfl TtOk rfl rfl rfl (fun b10 => ?_) | refine o_box (d := 3) rfl rfl rfl rfl (fun b3 => ?_) | refine o_box (d := 4) rfl rfl rfl rfl (fun b4 => ?_) | refine o_box (d := 5) rfl rfl rfl rfl (fun b5 => ?_) | refine o_store TtOk rfl rfl rfl rfl rfl rfl rfl ⟨rfl, rfl⟩ rfl rfl rfl rfl rfl ?_ | refine o_build TtOk rfl rfl rfl rfl rfl rfl nq1 ?_ | refine a_condF rfl ?_ | (refine a_condP rfl (fun hc => ?_) (fun hc => ?_)) <;> (try (exfalso; omega)) | (refine a_condN rfl (fun hc => ?_) (fun hc => ?_)) <;> (try (exfalso; omega)) | refine a_any 8 [] [] [] [0, 1, 2, 3, 4, 6, 9, 10, 12, 5, 7, 11, 13, 8, 14, 15, 16] (by kernel_rfl) (by kernel_rfl) (by kernel_rfl) rfl rfl rfl ?_ | (refine o_mkIface TtOk rfl rfl rfl rfl rfl rfl ?_) | refine o_callE rfl (ho) ⟨nqS, nqS, True.intro⟩ rfl ?_ | refine o_callE rfl (hck) ⟨nqS, True.intro⟩ rfl ?_ | refine o_callE rfl (hit) ⟨nqS, True.intro⟩ rfl ?_ | refine o_callE rfl (hhs) ⟨nqS, nqS, True.intro⟩ rfl ?_ | refine o_callE rfl (hb1) ⟨nqS, nqS, True.intro⟩ rfl ?_ | refine o_callE rfl (hb2) ⟨nqS, nqS, True.intro⟩ rfl ?_)
        all_goals
          refine end_all [] [] (.tup [.agg [y.A, x.A], .i .i64 11]) rfl ?_ ?_ (rle_tup2 (CLe.of_eq rfl) (CLe.of_eq rfl) rfl rfl) .nil ⟨rfl, rfl⟩ _ (.inl rfl)
          · exact nq1
          · exact ⟨trivial, trivial, trivial⟩
  · have e1 : upL x y = x := if_neg hc
    have e2 : upR x y = y := if_neg hc
    have hck := ncheckI_spec x y hx hy
    have hit := iitem_spec x y hx hy
    have hil : (innI x y).l.length = 32 := (innI_ok x y hx).1
    have hm : comL x.l y.l ≤ 256 := comL_256 hx.1
    have hn : (innI x y).n = ((comL x.l y.l : Nat) : Int) := rfl
    have hb1 := bitN_spec lb hlb (comL x.l y.l) hm
    have hb2 := bitN_spec x.l hx.1 (comL x.l y.l) hm
    unfold upE
    rw [e1, e2]
    generalize innI x y = z at *
    obtain ⟨zn, zl, zs, zt⟩ := z
    dsimp only at hn hil
    subst hn
    have hhs := bhas_spec (comL x.l y.l : Nat) zl lb hil hlb
    have hP : (⟨(comL x.l y.l : Nat), zl, zs, zt⟩ : Itm).p = ⟨(comL x.l y.l : Nat), zl⟩ := rfl
    rw [hP]
    clear hP e1 e2
    generalize hasP ⟨_, zl⟩ lb = h at hhs ⊢
    generalize comL x.l y.l = m at *
    generalize bitN lb m = u at *
    generalize bitN x.l m = v at *
    generalize chkN x y = e at *
    generalize cmpS x.l y.l = o at *
    by_cases he : e ≠ 0
    · rw [if_pos he]
      repeat' (first | refine Awp.seq ?_ | refine Awp.region ?_ | refine Ops.nil (nqA ?_) | refine Awp.skip (nqA ?_) | refine Awp.ret (nqE ?_) | (refine o_calm rfl TtOk rfl rfl rfl ?_ (fun _ => ?_); exact nd) | refine o_alloc (d := 6) rfl TtOk rfl rfl rfl (fun b6 => ?_) | refine o_alloc (d := 8) rfl TtOk rfl rfl rfl (fun b8 => ?_) | refine o_box (d := 3) rfl rfl rfl rfl (fun b3 => ?_) | refine o_box (d := 4) rfl rfl rfl rfl (fun b4 => ?_) | refine o_box (d := 5) rfl rfl rfl rfl (fun b5 => ?_) | refine o_store TtOk rfl rfl rfl rfl rfl rfl rfl ⟨rfl, rfl⟩ rfl rfl rfl rfl rfl ?_ | refine o_build TtOk rfl rfl rfl rfl rfl rfl nq1 ?_ | (refine a_condP rfl (fun hc => ?_) (fun hc => ?_)) <;> (try (exfalso; omega)) | (refine a_condN rfl (fun hc => ?_) (fun hc => ?_)) <;> (try (exfalso; omega)) | (refine o_mkIface TtOk rfl rfl rfl rfl rfl rfl ?_) | refine o_callE rfl (ho) ⟨nqS, nqS, True.intro⟩ rfl ?_ | refine o_callE rfl (hck) ⟨nqS, True.intro⟩ rfl ?_)
      all_goals
        refine end_all [] [] (.tup [.agg [x.A, y.A], .i .i64 e]) rfl ?_ ?_ (rle_tup2 (CLe.of_eq rfl) (CLe.of_eq rfl) rfl rfl) .nil ⟨rfl, rfl⟩ _ (.inl rfl)
        · exact nq1
        · exact ⟨trivial, trivial, trivial⟩
    · have he := Decidable.not_not.1 he
      subst he
      rw [if_neg (by decide)]
      cases h
      · rw [if_neg (by simp)]
        repeat' (first | refine Awp.seq ?_ | refine Awp.region ?_ | refine Ops.nil (nqA ?_) | refine Awp.skip (nqA ?_) | refine Awp.ret (nqE ?_) | refine o_noF rfl rfl rfl ?_ | (refine o_calm rfl TtOk rfl rfl rfl ?_ (fun _ => ?_); exact nd) | refine o_alloc (d := 6) rfl TtOk rfl rfl rfl (fun b6 => ?_) | refine o_alloc (d := 8) rfl TtOk rfl rfl rfl (fun b8 => ?_) | refine o_alloc (d := 10) rfl TtOk rfl rfl rfl (fun b10 => ?_) | refine o_box (d := 3) rfl rfl rfl rfl (fun b3 => ?_) | refine o_box (d := 4) rfl rfl rfl rfl (fun b4 => ?_) | refine o_box (d := 5) rfl rfl rfl rfl (fun b5 => ?_) | refine o_store TtOk rfl rfl rfl rfl rfl rfl rfl ⟨rfl, rfl⟩ rfl rfl rfl rfl rfl ?_ | refine o_build TtOk rfl rfl rfl rfl rfl rfl nq1 ?_ | refine a_condT rfl ?_ | refine a_condF rfl ?_ | (refine a_condP rfl (fun hc => ?_) (fun hc => ?_)) <;> (try (exfalso; omega)) | refine a_any 8 [] [] [] [0, 1, 2, 3, 4, 6, 9, 10, 12, 5, 7, 11, 13, 8, 14, 15, 16] (by kernel_rfl) (by kernel_rfl) (by kernel_rfl) rfl rfl rfl ?_ | (refine o_mkIface TtOk rfl rfl rfl rfl rfl rfl ?_) | refine o_callE rfl (ho) ⟨nqS, nqS, True.intro⟩ rfl ?_ | refine o_callE rfl (hck) ⟨nqS, True.intro⟩ rfl ?_ | refine o_callE rfl (hit) ⟨nqS, True.intro⟩ rfl ?_ | refine o_callE rfl (hhs) ⟨nqS, nqS, True.intro⟩ rfl ?_)
        all_goals
          refine end_all [] [] (.tup [.agg [x.A, y.A], .i .i64 11]) rfl ?_ ?_ (rle_tup2 (CLe.of_eq rfl) (CLe.of_eq rfl) rfl rfl) .nil ⟨rfl, rfl⟩ _ (.inl rfl)
          · exact nq1
          · exact ⟨trivial, trivial, trivial⟩
      by_cases huv : u = v
      · rw [if_pos ⟨rfl, huv⟩]
        have hui : (u : Int) = v := by omega
        repeat' (first | refine Awp.seq ?_ | refine Awp.region ?_ | refine Ops.nil (nqA ?_) | refine Awp.skip (nqA ?_) | refine Awp.ret (nqE ?_) | (refine o_calm rfl TtOk rfl rfl rfl ?_ (fun _ => ?_); exact nd) | refine o_alloc (d := 6) rfl TtOk rfl rfl rfl (fun b6 => ?_) | refine o_alloc (d := 8) rfl TtOk rfl rfl rfl (fun b8 => ?_) | refine o_alloc (d := 10) rfl TtOk rfl rfl rfl (fun b10 => ?_) | refine o_box (d := 3) rfl rfl rfl rfl (fun b3 => ?_) | refine o_box (d := 4) rfl rfl rfl rfl (fun b4 => ?_) | refine o_box (d := 5) rfl rfl rfl rfl (fun b5 => ?_) | refine o_store TtOk rfl rfl rfl rfl rfl rfl rfl ⟨rfl, rfl⟩ rfl rfl rfl rfl rfl ?_ | refine o_build TtOk rfl rfl rfl rfl rfl rfl nq1 ?_ | refine a_condF rfl ?_ | (refine a_condP rfl (fun hc => ?_) (fun hc => ?_)) <;> (try (exfalso; omega)) | (refine a_condN rfl (fun hc => ?_) (fun hc => ?_)) <;> (try (exfalso; omega)) | refine a_any 8 [] [] [] [0, 1, 2, 3, 4, 6, 9, 10, 12, 5, 7, 11, 13, 8, 14, 15, 16] (by kernel_rfl) (by kernel_rfl) (by kernel_rfl) rfl rfl rfl ?_ | (refine o_mkIface TtOk rfl rfl rfl rfl rfl rfl ?_) | refine o_callE rfl (ho) ⟨nqS, nqS, True.intro⟩ rfl ?_ | refine o_callE rfl (hck) ⟨nqS, True.intro⟩ rfl ?_ | refine o_callE rfl (hit) ⟨nqS, True.intro⟩ rfl ?_ | refine o_callE rfl (hhs) ⟨nqS, nqS, True.intro⟩ rfl ?_ | refine o_callE rfl (hb1) ⟨nqS, nqS, True.intro⟩ rfl ?_ | refine o_callE rfl (hb2) ⟨nqS, nqS, True.intro⟩ rfl ?_)
        all_goals
          refine end_all [] [] (.tup [.agg [x.A, y.A], .i .i64 0]) rfl ?_ ?_ (rle_tup2 (CLe.of_eq rfl) (CLe.of_eq rfl) rfl rfl) .nil ⟨rfl, rfl⟩ _ (.inl rfl)
          · exact nq1
          · exact ⟨trivial, trivial, trivial⟩
      · rw [if_neg (fun h => huv h.2)]
        have hui : ¬ (u : Int) = v := by omega
        repeat' (first | refine Awp.seq ?_ | refine Awp.region ?_ | refine Ops.nil (nqA ?_) | refine Awp.skip (nqA ?_) | refine Awp.ret (nqE ?_) | (refine o_calm rfl TtOk rfl rfl rfl ?_ (fun _ => ?_); exact nd) | refine o_alloc (d := 6) rfl TtOk rfl rfl rfl (fun b6 => ?_) | refine o_alloc (d := 8) rfl TtOk rfl rfl rfl (fun b8 => ?_) | refine o_alloc (d := 10) rfl TtOk rfl rfl rfl (fun b10 => ?_) | refine o_box (d := 3) rfl rfl rfl rfl (fun b3 => ?_) | refine o_box (d := 4) rfl rfl rfl rfl (fun b4 => ?_) | refine o_box (d := 5) rfl rfl rfl rfl (fun b5 => ?_) | refine o_store TtOk rfl rfl rfl rfl rfl rfl rfl ⟨rfl, rfl⟩ rfl rfl rfl rfl rfl ?_ | refine o_build TtOk rfl rfl rfl rfl rfl rfl nq1 ?_ | refine a_condF rfl ?_ | (refine a_condP rfl (fun hc => ?_) (fun hc => ?_)) <;> (try (exfalso; omega)) | (refine a_condN rfl (fun hc => ?_) (fun hc => ?_)) <;> (try (exfalso; omega)) | refine a_any 8 [] [] [] [0, 1, 2, 3, 4, 6, 9, 10, 12, 5, 7, 11, 13, 8, 14, 15, 16] (by kernel_rfl) (by kernel_rfl) (by kernel_rfl) rfl rfl rfl ?_ | (refine o_mkIface TtOk rfl rfl rfl rfl rfl rfl ?_) | refine o_callE rfl (ho) ⟨nqS, nqS, True.intro⟩ rfl ?_ | refine o_callE rfl (hck) ⟨nqS, True.intro⟩ rfl ?_ | refine o_callE rfl (hit) ⟨nqS, True.intro⟩ rfl ?_ | refine o_callE rfl (hhs) ⟨nqS, nqS, True.intro⟩ rfl ?_ | refine o_callE rfl (hb1) ⟨nqS, nqS, True.intro⟩ rfl ?_ | refine o_callE rfl (hb2) ⟨nqS, nqS, True.intro⟩ rfl ?_)
        all_goals
          refine end_all [] [] (.tup [.agg [x.A, y.A], .i .i64 11]) rfl ?_ ?_ (rle_tup2 (CLe.of_eq rfl) (CLe.of_eq rfl) rfl rfl) .nil ⟨rfl, rfl⟩ _ (.inl rfl)
          · exact nq1
          · exact ⟨trivial, trivial, trivial⟩
end Go.Proofs.YtcmgpkibjdbonaaGreat
