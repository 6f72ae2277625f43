/- Equality of the document's items: a length, two labels, a time. -/
import Derived.Test.YtcmgpkibjdbonaaGreatV31Z
import Derived.Test.YtcmgpkibjdbonaaGreatR3Z
import Derived.Test.YtcmgpkibjdbonaaGreatR6
set_option maxHeartbeats 8000000
set_option maxRecDepth 100000
namespace Go.Proofs.YtcmgpkibjdbonaaGreat
open Go Go.RowKit
def itmC_ (x : Itm) : List Value := Value.int .i64 x.n :: (x.l.map cellB ++ (x.s.map cellB ++ [Value.int .i64 x.t]))
def eqI (x y : Itm) : Bool := x.n == y.n && (x.l == y.l && (x.s == y.s && x.t == y.t))
section
variable {m : OM} {C : Ctx} {ops : Array Oper} {l : List Oper} {K : St → Prop} {n : Nat} {sl : List (Nat × AV)} {hp : List (Nat × HO)} {d : Nat} {ty : Nat} {pos : String} {aft : Array Edge} {gd : Option (Nat × Bool)}
end
end Go.Proofs.YtcmgpkibjdbonaaGreat
set_option maxHeartbeats 8000000
set_option maxRecDepth 100000
namespace Go.Proofs.YtcmgpkibjdbonaaGreat
open Go Go.RowKit
section
variable {m : OM} {P : Program} {T : List (Nat × TI)} {C : Ctx} {ops : Array Oper} {l : List Oper} {K : St → Prop} {n : Nat} {sl : List (Nat × AV)} {hp : List (Nat × HO)} {d : Nat} {ty : Nat} {pos : String} {aft : Array Edge} {gd : Option (Nat × Bool)}
/-- != on arrays of bytes. -/
theorem o_neArr8 (hT : TTOk P T) (hw : gval ops ⟨n, sl, hp⟩ gd = gwant gd) {t u e k : Nat} {x y : Operand} {l1 l2 : List UInt8} {sz0 by0 by1 : Nat} {z0 z1 : AV}
    (hx : ev ⟨n, sl, hp⟩ x = .arr 1 k (l1.map byA)) (hy : ev ⟨n, sl, hp⟩ y = .arr 1 k (l2.map byA)) (ht : tget T t = some ⟨.array k e, sz0, by0, z0⟩) (he : tget T e = some ⟨.int .u8, 1, by1, z1⟩) (hd : Nat.blt d n = true) (hg : P.eqGuardType P.depth t = false)
    (h : Ops m P C ops l ⟨n, (d, .b (!(l1 == l2))) :: sl, hp⟩ K) : Ops m P C ops (⟨some d, .binOp .neq t x y u, ty, pos, aft, gd⟩ :: l) ⟨n, sl, hp⟩ K := by
  refine Ops.by (d := some d) hw none okc_none hd rfl (fun a w hs => ?_) h
  have Ex := ev_rep hs x
  have Ey := ev_rep hs y
  rw [hx] at Ex
  rw [hy] at Ey
  obtain ⟨c1, hc1, Ex⟩ := Ex
  obtain ⟨c2, hc2, Ey⟩ := Ey
  have Ex : a.eval x = .agg c1.toArray := Ex
  have Ey : a.eval y = .agg c2.toArray := Ey
  simp only [repC, List.length_map] at hc1 hc2
  have q1 := bytes_cells l1 c1 hc1.2
  have q2 := bytes_cells l2 c2 hc2.2
  have hu := tk_array (tget_ok hT ht)
  have hue := tk_int (tget_ok hT he)
  obtain ⟨ie, hie, hies, _⟩ := (tget_ok hT he).inf
  have hpk : P.plainKey e = true := by unfold Program.plainKey; rw [hue]
  have hco : P.cellsOf e = 1 := by unfold Program.cellsOf; rw [hie]; exact hies
  refine ⟨_, repV_b.2 rfl, fun w' _ => ?_⟩
  have h1 := run_equalIn_array (P := P) w' 9999 c1.toArray c2.toArray hu hie
  rw [hco, q1, q2, eqItems_bytes hue hpk 9998 l1 l2 (List.range k) (fun i hi => by have := List.mem_range.1 hi; omega), all_range_eq l1 l2 k hc1.1 hc2.1] at h1
  have hgd := run_eqGuard_agg (P := P) w' .neq t x y c1.toArray c2.toArray hg
  have hr := run_neq_struct (P := P) w' t c1.toArray c2.toArray
  rw [q1, q2] at hr hgd
  rw [show (10000 : Nat) = 9999 + 1 from rfl, h1] at hr
  simp only [execOp, Ex, Ey, q1, q2, Sem.run_bind, hgd, hr, Result.andThen_ok, Sem.run_pure]
end
end Go.Proofs.YtcmgpkibjdbonaaGreat
set_option maxHeartbeats 8000000
set_option maxRecDepth 100000
namespace Go.Proofs.YtcmgpkibjdbonaaGreat
open Go Go.RowKit
end Go.Proofs.YtcmgpkibjdbonaaGreat
set_option maxHeartbeats 16000000
set_option maxRecDepth 100000
namespace Go.Proofs.YtcmgpkibjdbonaaGreat
open Go Go.RowKit
theorem filter_leafI (z : Itm) (l : List Lef) : (l.map leafI).filter (eqv (ltCI ordI) z) = (l.filter (eqv (ltCL ordL) ⟨z.l, [], 0⟩)).map leafI := by
  rw [List.filter_map]
  rfl
theorem itms_srt (l : List Lef) : itmsL (srtL l) = itmsL l := by
  refine (sortS_of woI (sortS_srt woI _) ?_)
  refine CE.trans (fun z => ?_) (sortS_ce woI _)
  rw [filter_leafI, filter_leafI, (sortS_ce woL l) ⟨z.l, [], 0⟩]; rfl
theorem itms_map (l : List Lef) : itmsL l = (srtL l).map leafI := by
  rw [← itms_srt]
  refine sortS_id woI ?_
  unfold Srt
  rw [List.pairwise_map]
  exact sortS_srt woL l
end Go.Proofs.YtcmgpkibjdbonaaGreat
set_option maxHeartbeats 4000000
namespace Go.Proofs.YtcmgpkibjdbonaaGreat
open Go Go.RowKit
theorem good_t {x : Itm} (h : goodI x = true) : 0 ≤ x.t ∧ x.t ≤ 1073741824 := by
  unfold goodI at h
  simp only [Bool.and_eq_true, decide_eq_true_eq] at h
  exact h.2
theorem joinF_t : ∀ (k : Nat) (l : List Itm), l ≠ [] → l.length ≤ k → RiseI l → (∀ x ∈ l, x.ok) → (∀ x ∈ l, 0 ≤ x.t ∧ x.t ≤ 1073741824) → 0 ≤ (joinF k l).t ∧ (joinF k l).t ≤ 1073741824
  | 0, l, hn, hl, _, _, _ => absurd (List.length_eq_zero_iff.1 (by omega)) hn
  | k + 1, l, hn, hl, hr, hok, ht => by
    have hp : 0 < l.length := List.length_pos_iff.2 hn
    unfold joinF
    by_cases h1 : l.length = 1
    · rw [if_pos h1, headD_get hp]; exact ht _ (List.getElem_mem _)
    rw [if_neg h1]
    obtain ⟨_, s1, s2, _⟩ := spl_ok hr hok (by omega)
    have a := joinF_t k _ (take_ne s1 s2) (by rw [List.length_take]; omega) (hr.sublist (List.take_sublist ..)) (fun x hx => hok x (List.mem_of_mem_take hx)) (fun x hx => ht x (List.mem_of_mem_take hx))
    have b := joinF_t k _ (drop_ne s2) (by rw [List.length_drop]; omega) (hr.sublist (List.drop_sublist ..)) (fun x hx => hok x (List.mem_of_mem_drop hx)) (fun x hx => ht x (List.mem_of_mem_drop hx))
    generalize joinF k (l.take (splI l)) = u at a ⊢
    generalize joinF k (l.drop (splI l)) = v at b ⊢
    have e : (innI u v).t = if v.t > u.t then v.t else u.t := rfl
    rw [e]
    split
    · exact b
    · exact a
theorem rise_ne {l : List Lef} (hr : RiseI (l.map leafI)) : l.Pairwise (fun a b => a.l ≠ b.l) := by
  have h : (l.map leafI).Pairwise (fun a b => cmpS a.l b.l < 0) := hr
  rw [List.pairwise_map] at h
  exact h.imp (fun {a b} hab he => by
    have hab : cmpS a.l b.l < 0 := hab
    rw [he, cmpS_eq] at hab; omega)
def notIn (ls : List (List UInt8)) (x : Lef) : Bool := !(ls.contains x.l)
/-- The leaves of a tree have unlike labels. -/
theorem itms_ne {L : List Lef} (hc : chkI (itmsL L) = 0) : L.Pairwise (fun a b => a.l ≠ b.l) := by
  have h1 := (chkI_rise hc).2.1
  rw [itms_map] at h1
  exact (List.Perm.pairwise_iff (fun h => Ne.symm h) (srtL_perm L)).1 (rise_ne h1)
end Go.Proofs.YtcmgpkibjdbonaaGreat
set_option maxHeartbeats 16000000
set_option maxRecDepth 100000
namespace Go.Proofs.YtcmgpkibjdbonaaGreat
open Go Go.RowKit
/-- How many leaves of rising ones have bit n at 0. -/
def sidL (n : Nat) (l : List Lef) : Nat := if l.any (fun x => bitL x.l n == 1) = true then l.findIdx (fun x => bitL x.l n == 1) else l.length
theorem sidL_le (n : Nat) (l : List Lef) : sidL n l ≤ l.length := by
  unfold sidL; split
  · exact List.findIdx_le_length
  · exact Nat.le_refl _
theorem sides1_spec (n : Nat) (hn : n < 256) (x : Lef) (hx : x.ok) : Spec Tryz.prog 171 ([x.A] ++ [.cp (.i .i64 n)]) [] (fun v os => v = .b (bitL x.l n == 1) ∧ os = []) := by
  have h1 := bit_spec x.l hx.1 n (by omega) (by omega)
  rw [if_pos (by omega), Int.toNat_natCast] at h1
  have hb := bitL_or x.l n
  generalize bitL x.l n = b at h1 hb
  obtain ⟨l, u, t⟩ := x
  dsimp only at h1
  show Spec Tryz.prog 171 [.agg [labA l, labA u, .i .i64 t], .cp (.i .i64 n)] [] _
  refine spec_of TtOk [] Tryz.func171 rfl Tryz.ntmps171 (by kernel_rfl) rfl rfl (fun C => ?_) rfl
  repeat' (first | refine Awp.seq ?_ | refine Awp.region ?_ | refine Ops.nil (nqA ?_) | refine Awp.ret (nqE ?_) | (refine o_calm rfl TtOk rfl rfl rfl ?_ (fun _ => ?_); exact nd) | refine o_box (d := 2) rfl rfl rfl rfl (fun b2 => ?_) | refine o_callE rfl (h1) ⟨nqS, nqS, True.intro⟩ rfl ?_)
  refine end_tmp rfl rfl rfl [] [] (CLe.of_eq ?_) .nil ⟨rfl, rfl⟩ _ (.inl rfl)
  refine congrArg AV.b ?_
  rcases hb with rfl | rfl <;> rfl
theorem sides_spec (l : List Lef) (hl : l.length ≤ 100000) (hok : ∀ x ∈ l, x.ok) (n : Nat) (hn : n < 256) : Spec Tryz.prog 79 [.sl 65 (l.map Lef.A), .i .i64 n] [] (fun v os => v = .tup [.sl 65 ((l.take (sidL n l)).map Lef.A), .sl 65 ((l.drop (sidL n l)).map Lef.A)] ∧ os = []) := by
  refine spec_of TtOk [] Tryz.func79 rfl Tryz.ntmps79 (by kernel_rfl) rfl rfl (fun C => ?_) rfl
  have hx := ixL_spec l 171 [.cp (.i .i64 (n : Nat))] rfl (fun x => bitL x.l n == 1) (fun x hx => sides1_spec _ hn x (hok x hx)) hl
  have hle := sidL_le n l
  have ht : l.drop (sidL n l) = (l.take l.length).drop (sidL n l) := by rw [List.take_length]
  rw [ht]
  by_cases ha : l.any (fun x => bitL x.l n == 1) = true
  · have hi : sidL n l = l.findIdx (fun x => bitL x.l n == 1) := if_pos ha
    rw [if_pos ha, ← hi] at hx
    clear hi ht
    generalize sidL n l = i at *
    repeat' (first | (refine a_freezeV 3 3 rfl rfl rfl ?_) | refine Awp.seq ?_ | refine Awp.region ?_ | refine Ops.nil (nqA ?_) | refine Awp.skip (nqA ?_) | refine Awp.ret (nqE ?_) | (refine o_calm rfl TtOk rfl rfl rfl ?_ (fun _ => ?_); exact nd) | refine o_box (d := 3) rfl rfl rfl rfl (fun b3 => ?_) | refine a_condF rfl ?_ | refine a_any 4 [] [] [] [0, 1, 2, 3, 4, 5, 6, 7] (by kernel_rfl) (by kernel_rfl) (by kernel_rfl) rfl rfl rfl ?_ | (refine o_makeFunc1 rfl rfl rfl rfl rfl ?_) | (refine o_sliceSl TtOk rfl 0 i rfl rfl rfl rfl rfl bnd_none (bnd_some rfl rfl) (by omega) (by omega) ?_; rw [List.drop_zero]) | (refine o_sliceSl TtOk rfl i l.length rfl rfl rfl rfl rfl (bnd_some rfl rfl) bnd_none (by omega) (by omega) ?_) | refine o_callE rfl (hx) ⟨nqS, nqS, True.intro⟩ rfl ?_)
    refine end_all [] [] (.tup [.sl 65 ((l.take i).map Lef.A), .sl 65 (((l.take l.length).drop i).map Lef.A)]) rfl ?_ ?_ (rle_tup2 (CLe.of_eq rfl) (CLe.of_eq rfl) rfl rfl) .nil ⟨rfl, rfl⟩ _ (.inl rfl)
    · exact nq1
    · exact ⟨trivial, trivial, trivial⟩
  · have hi : sidL n l = l.length := if_neg ha
    rw [if_neg ha] at hx
    rw [hi]
    clear hi ht
    repeat' (first | (refine a_freezeV 3 3 rfl rfl rfl ?_) | refine Awp.seq ?_ | refine Awp.region ?_ | refine Ops.nil (nqA ?_) | refine Awp.ret (nqE ?_) | refine o_len rfl TtOk rfl rfl rfl (fun _ => ?_) | (refine o_calm rfl TtOk rfl rfl rfl ?_ (fun _ => ?_); exact nd) | refine o_box (d := 3) rfl rfl rfl rfl (fun b3 => ?_) | refine a_condT rfl ?_ | refine a_any 4 [] [] [] [0, 1, 2, 3, 4, 5, 6, 7] (by kernel_rfl) (by kernel_rfl) (by kernel_rfl) rfl rfl rfl ?_ | (refine o_makeFunc1 rfl rfl rfl rfl rfl ?_) | (refine o_sliceSl TtOk rfl 0 l.length rfl rfl rfl rfl rfl bnd_none (bnd_some rfl rfl) (by omega) (by omega) ?_; rw [List.drop_zero]) | (refine o_sliceSl TtOk rfl l.length l.length rfl rfl rfl rfl rfl (bnd_some rfl rfl) bnd_none (by omega) (by omega) ?_) | refine o_callE rfl (hx) ⟨nqS, nqS, True.intro⟩ rfl ?_)
    refine end_all [] [] (.tup [.sl 65 ((l.take l.length).map Lef.A), .sl 65 (((l.take l.length).drop l.length).map Lef.A)]) rfl ?_ ?_ (rle_tup2 (CLe.of_eq rfl) (CLe.of_eq rfl) rfl rfl) .nil ⟨rfl, rfl⟩ _ (.inl rfl)
    · exact nq1
    · exact ⟨trivial, trivial, trivial⟩
theorem sidL_spl {l : List Lef} (hr : RiseI (l.map leafI)) (hok : ∀ x ∈ l, x.ok) (h2 : 2 ≤ l.length) : sidL (frkI (l.map leafI)) l = splI (l.map leafI) := by
  have hok2 : ∀ x ∈ l.map leafI, x.ok := fun x hx => by
    obtain ⟨y, hy, rfl⟩ := List.mem_map.1 hx
    exact leafI_ok y (hok y hy)
  obtain ⟨_, _, _, s3⟩ := spl_ok hr hok2 (by rw [List.length_map]; exact h2)
  unfold sidL splI
  rw [List.any_map] at s3
  rw [List.findIdx_map]
  exact if_pos s3
/-- The two parts of a tree. -/
def parA (I : List Itm) : Itm := joinF (I.length - 1) (I.take (splI I))
def parB (I : List Itm) : Itm := joinF (I.length - 1) (I.drop (splI I))
theorem join_par {I : List Itm} (h2 : 2 ≤ I.length) : joinF I.length I = innI (parA I) (parB I) := by
  obtain ⟨k, hk⟩ : ∃ k, I.length = k + 1 := ⟨I.length - 1, by omega⟩
  unfold parA parB
  rw [hk]
  show (if I.length = 1 then _ else _) = _
  rw [if_neg (by omega)]; rfl
theorem par_ok {I : List Itm} (hr : RiseI I) (hok : ∀ x ∈ I, x.ok) (h2 : 2 ≤ I.length) : (parA I).ok ∧ (parB I).ok := by
  obtain ⟨_, s1, s2, _⟩ := spl_ok hr hok h2
  exact ⟨joinF_ok _ _ (take_ne s1 s2) (by rw [List.length_take]; omega) (hr.sublist (List.take_sublist ..)) (fun x hx => hok x (List.mem_of_mem_take hx)),
    joinF_ok _ _ (drop_ne s2) (by rw [List.length_drop]; omega) (hr.sublist (List.drop_sublist ..)) (fun x hx => hok x (List.mem_of_mem_drop hx))⟩
theorem item_pair : ∀ k : Nat,
    (∀ l : List Lef, l ≠ [] → l.length ≤ k → l.length ≤ 100000 → RiseI (l.map leafI) → (∀ x ∈ l, x.ok) → Spec Tryz.prog 169 [.sl 65 (l.map Lef.A)] [] (fun v os => v = (joinF l.length (l.map leafI)).A ∧ os = [])) ∧
    (∀ l : List Lef, 2 ≤ l.length → l.length ≤ k → l.length ≤ 100000 → RiseI (l.map leafI) → (∀ x ∈ l, x.ok) → Spec Tryz.prog 77 [.sl 65 (l.map Lef.A)] [] (fun v os => v = .agg [(parA (l.map leafI)).A, (parB (l.map leafI)).A] ∧ os = [])) := by
  intro k
  induction k with
  | zero => exact ⟨fun l hn hk => absurd (List.length_eq_zero_iff.1 (by omega)) hn, fun l h2 hk => by omega⟩
  | succ k ih =>
    have hpair : ∀ l : List Lef, 2 ≤ l.length → l.length ≤ k + 1 → l.length ≤ 100000 → RiseI (l.map leafI) → (∀ x ∈ l, x.ok) → Spec Tryz.prog 77 [.sl 65 (l.map Lef.A)] [] (fun v os => v = .agg [(parA (l.map leafI)).A, (parB (l.map leafI)).A] ∧ os = []) := by
      intro l h2 hk hl hr hok
      have hml : (l.map leafI).length = l.length := List.length_map ..
      have hok2 : ∀ x ∈ l.map leafI, x.ok := fun x hx => by
        obtain ⟨y, hy, rfl⟩ := List.mem_map.1 hx
        exact leafI_ok y (hok y hy)
      obtain ⟨hf, s1, s2, s3⟩ := spl_ok hr hok2 (by omega)
      have hp : 0 < l.length := by omega
      have hj : l.length - 1 < l.length := by omega
      have hcm := bcommon_spec l[0].l l[l.length - 1].l (hok _ (List.getElem_mem hp)).1 (hok _ (List.getElem_mem hj)).1
      have hfe : comL l[0].l l[l.length - 1].l = frkI (l.map leafI) := by rw [frk_eq (by omega)]; simp [leafI]
      rw [hfe] at hcm
      have hsd := sides_spec l hl hok (frkI (l.map leafI)) hf
      rw [sidL_spl hr hok h2] at hsd
      have n1 : l.take (splI (l.map leafI)) ≠ [] := fun h => by have := congrArg List.length h; rw [List.length_take, List.length_nil] at this; omega
      have n2 : l.drop (splI (l.map leafI)) ≠ [] := fun h => by have := congrArg List.length h; rw [List.length_drop, List.length_nil] at this; omega
      have r1 : RiseI ((l.take (splI (l.map leafI))).map leafI) := by rw [List.map_take]; exact hr.sublist (List.take_sublist ..)
      have r2 : RiseI ((l.drop (splI (l.map leafI))).map leafI) := by rw [List.map_drop]; exact hr.sublist (List.drop_sublist ..)
      have k1 : ∀ x ∈ l.take (splI (l.map leafI)), x.ok := fun x hx => hok x (List.mem_of_mem_take hx)
      have k2 : ∀ x ∈ l.drop (splI (l.map leafI)), x.ok := fun x hx => hok x (List.mem_of_mem_drop hx)
      have i1 := ih.1 (l.take (splI (l.map leafI))) n1 (by rw [List.length_take]; omega) (by rw [List.length_take]; omega) r1 k1
      have i2 := ih.1 (l.drop (splI (l.map leafI))) n2 (by rw [List.length_drop]; omega) (by rw [List.length_drop]; omega) r2 k2
      have e1 : joinF (l.take (splI (l.map leafI))).length ((l.take (splI (l.map leafI))).map leafI) = parA (l.map leafI) := by
        unfold parA
        rw [← List.map_take]
        refine joinF_fuel _ _ _ (fun h => n1 (List.map_eq_nil_iff.1 h)) (by rw [List.length_map]; exact Nat.le_refl _) (by rw [List.length_map, List.length_take]; omega) r1 (fun x hx => ?_)
        obtain ⟨y, hy, rfl⟩ := List.mem_map.1 hx
        exact leafI_ok y (k1 y hy)
      have e2 : joinF (l.drop (splI (l.map leafI))).length ((l.drop (splI (l.map leafI))).map leafI) = parB (l.map leafI) := by
        unfold parB
        rw [← List.map_drop]
        refine joinF_fuel _ _ _ (fun h => n2 (List.map_eq_nil_iff.1 h)) (by rw [List.length_map]; exact Nat.le_refl _) (by rw [List.length_map, List.length_drop]; omega) r2 (fun x hx => ?_)
        obtain ⟨y, hy, rfl⟩ := List.mem_map.1 hx
        exact leafI_ok y (k2 y hy)
      rw [e1] at i1
      rw [e2] at i2
      clear e1 e2 n1 n2 r1 r2 k1 k2 hfe hml
      generalize parA (l.map leafI) = a at *
      generalize parB (l.map leafI) = b at *
      generalize frkI (l.map leafI) = c at *
      generalize splI (l.map leafI) = s at *
      refine spec_of TtOk [] Tryz.func77 rfl Tryz.ntmps77 (by kernel_rfl) rfl rfl (fun C => ?_) rfl
      repeat' (first | refine Awp.seq ?_ | refine Awp.region ?_ | refine Ops.nil (nqA ?_) | refine Awp.ret (nqE ?_) | (refine o_sub rfl rfl rfl rfl ?_ ?_; omega) | refine o_len rfl TtOk rfl rfl rfl (fun _ => ?_) | (refine o_calm rfl TtOk rfl rfl rfl ?_ (fun _ => ?_); exact nd) | refine o_alloc (d := 2) rfl TtOk rfl rfl rfl (fun b2 => ?_) | refine o_store TtOk rfl rfl rfl rfl rfl rfl rfl ⟨rfl, rfl⟩ rfl rfl rfl rfl rfl ?_ | (refine o_index rfl TtOk rfl rfl rfl rfl rfl rfl ?_ (getq_nat ?_) ?_; omega; omega) | refine o_build TtOk rfl rfl rfl rfl rfl rfl nq1 ?_ | refine a_any 1 [] [] [] [0, 1, 2, 3, 5, 6, 7, 8, 9, 10, 4, 11, 12, 13, 14, 15, 16, 17, 18] (by kernel_rfl) (by kernel_rfl) (by kernel_rfl) rfl rfl rfl ?_ | (refine o_index rfl TtOk rfl rfl rfl rfl rfl rfl ?_ (getq_as (l.length-1) ?_ hj) ?_; omega; omega) | refine o_callE rfl (hcm) ⟨nqS, nqS, True.intro⟩ rfl ?_ | refine o_callE rfl (hsd) ⟨nqS, nqS, True.intro⟩ rfl ?_ | refine o_callE rfl (i1) ⟨nqS, True.intro⟩ rfl ?_ | refine o_callE rfl (i2) ⟨nqS, True.intro⟩ rfl ?_)
      refine end_all [] [] (.agg [a.A, b.A]) rfl ?_ ?_ (rle_one (CLe.of_eq rfl) rfl) .nil ⟨rfl, rfl⟩ _ (.inl rfl)
      · exact nq1
      · exact ⟨trivial, trivial⟩
    refine ⟨fun l hn hk hl hr hok => ?_, hpair⟩
    have hp : 0 < l.length := List.length_pos_iff.2 hn
    by_cases h1 : l.length = 1
    · have hjn : joinF l.length (l.map leafI) = leafI l[0] := by
        obtain ⟨y, rfl⟩ := List.length_eq_one_iff.1 h1
        rfl
      have hit := litem_spec l[0] (hok _ (List.getElem_mem hp))
      rw [hjn]
      generalize leafI l[0] = x at hit ⊢
      refine spec_of TtOk [] Tryz.func169 rfl Tryz.ntmps169 (by kernel_rfl) rfl rfl (fun C => ?_) rfl
      repeat' (first | refine Awp.seq ?_ | refine Awp.region ?_ | refine Ops.nil (nqA ?_) | refine Awp.ret (nqE ?_) | refine o_len rfl TtOk rfl rfl rfl (fun _ => ?_) | (refine o_calm rfl TtOk rfl rfl rfl ?_ (fun _ => ?_); exact nd) | refine o_alloc (d := 2) rfl TtOk rfl rfl rfl (fun b2 => ?_) | refine o_store TtOk rfl rfl rfl rfl rfl rfl rfl ⟨rfl, rfl⟩ rfl rfl rfl rfl rfl ?_ | (refine o_index rfl TtOk rfl rfl rfl rfl rfl rfl ?_ (getq_nat ?_) ?_; omega; omega) | (refine a_condP rfl (fun hc => ?_) (fun hc => ?_)) <;> (try (exfalso; omega)) | refine o_callE rfl (hit) ⟨nqS, True.intro⟩ rfl ?_)
      refine end_all [] [] x.A rfl ?_ ?_ (rle_one (CLe.of_eq rfl) rfl) .nil ⟨rfl, rfl⟩ _ (.inl rfl)
      · exact nq1
      · exact ⟨trivial, trivial⟩
    · have h2 : 2 ≤ l.length := by omega
      have hml : (l.map leafI).length = l.length := List.length_map ..
      have hok2 : ∀ x ∈ l.map leafI, x.ok := fun x hx => by
        obtain ⟨y, hy, rfl⟩ := List.mem_map.1 hx
        exact leafI_ok y (hok y hy)
      have hpr := hpair l h2 hk hl hr hok
      obtain ⟨oA, oB⟩ := par_ok hr hok2 (by omega)
      have hit := iitem_spec _ _ oA oB
      have hjn : joinF l.length (l.map leafI) = innI (parA (l.map leafI)) (parB (l.map leafI)) := by rw [← hml]; exact join_par (by omega)
      rw [hjn]
      clear hjn oA oB hml hok2
      generalize innI (parA (l.map leafI)) (parB (l.map leafI)) = x at hit ⊢
      generalize parA (l.map leafI) = a at *
      generalize parB (l.map leafI) = b at *
      refine spec_of TtOk [] Tryz.func169 rfl Tryz.ntmps169 (by kernel_rfl) rfl rfl (fun C => ?_) rfl
      repeat' (first | refine Awp.seq ?_ | refine Awp.region ?_ | refine Ops.nil (nqA ?_) | refine Awp.skip (nqA ?_) | refine Awp.ret (nqE ?_) | refine o_len rfl TtOk rfl rfl rfl (fun _ => ?_) | (refine o_calm rfl TtOk rfl rfl rfl ?_ (fun _ => ?_); exact nd) | refine o_alloc (d := 2) rfl TtOk rfl rfl rfl (fun b2 => ?_) | refine o_store TtOk rfl rfl rfl rfl rfl rfl rfl ⟨rfl, rfl⟩ rfl rfl rfl rfl rfl ?_ | (refine a_condP rfl (fun hc => ?_) (fun hc => ?_)) <;> (try (exfalso; omega)) | refine o_callE rfl (hpr) ⟨nqS, True.intro⟩ rfl ?_ | refine o_callE rfl (hit) ⟨nqS, True.intro⟩ rfl ?_)
      refine end_all [] [] x.A rfl ?_ ?_ (rle_one (CLe.of_eq rfl) rfl) .nil ⟨rfl, rfl⟩ _ (.inl rfl)
      · exact nq1
      · exact ⟨trivial, trivial⟩
theorem pitem_spec (l : List Lef) (hn : l ≠ []) (hl : l.length ≤ 100000) (hr : RiseI (l.map leafI)) (hok : ∀ x ∈ l, x.ok) : Spec Tryz.prog 169 [.sl 65 (l.map Lef.A)] [] (fun v os => v = (joinF l.length (l.map leafI)).A ∧ os = []) := (item_pair l.length).1 l hn (Nat.le_refl _) hl hr hok
theorem ppair_spec (l : List Lef) (h2 : 2 ≤ l.length) (hl : l.length ≤ 100000) (hr : RiseI (l.map leafI)) (hok : ∀ x ∈ l, x.ok) : Spec Tryz.prog 77 [.sl 65 (l.map Lef.A)] [] (fun v os => v = .agg [(parA (l.map leafI)).A, (parB (l.map leafI)).A] ∧ os = []) := (item_pair l.length).2 l h2 (Nat.le_refl _) hl hr hok
theorem psorted1_spec (x y : Lef) : Spec Tryz.prog 167 ([x.A, y.A] ++ []) [] (fun v os => v = .i .i64 (ordL x y) ∧ os = []) := by
  have h1 := border_spec x.l y.l
  have ho : ordL x y = cmpS x.l y.l := rfl
  rw [ho]
  generalize cmpS x.l y.l = c at h1 ⊢
  show Spec Tryz.prog 167 [.agg [labA x.l, labA x.v, .i .i64 x.t], .agg [labA y.l, labA y.v, .i .i64 y.t]] [] _
  refine spec_of TtOk [] Tryz.func167 rfl Tryz.ntmps167 (by kernel_rfl) rfl rfl (fun C => ?_) rfl
  repeat' (first | refine Awp.seq ?_ | refine Awp.region ?_ | refine Ops.nil (nqA ?_) | refine Awp.ret (nqE ?_) | (refine o_calm rfl TtOk rfl rfl rfl ?_ (fun _ => ?_); exact nd) | refine o_box (d := 2) rfl rfl rfl rfl (fun b2 => ?_) | refine o_box (d := 3) rfl rfl rfl rfl (fun b3 => ?_) | refine o_callE rfl (h1) ⟨nqS, nqS, True.intro⟩ rfl ?_)
  exact nq2
theorem psorted_spec (l : List Lef) (hl : l.length ≤ 100000) : Spec Tryz.prog 75 [.sl 65 (l.map Lef.A)] [] (fun v os => v = .sl 65 ((srtL l).map Lef.A) ∧ os = []) := by
  refine spec_of TtOk [] Tryz.func75 rfl Tryz.ntmps75 (by kernel_rfl) rfl rfl (fun C => ?_) rfl
  have h1 := cloneL_spec (l.map Lef.A) (by rw [List.length_map]; omega)
  have h2 := fun v => sortStable_specL v 167 [] rfl ordL psorted1_spec woL l hl
  have hs : sortS (ltCL ordL) l = srtL l := rfl
  rw [hs] at h2
  generalize srtL l = r at h2 ⊢
  repeat' (first | refine Awp.seq ?_ | refine Awp.region ?_ | refine Ops.nil (nqA ?_) | refine Awp.ret (nqE ?_) | (refine o_calm rfl TtOk rfl rfl rfl ?_ (fun _ => ?_); exact nd) | (refine o_callR rfl h1 ⟨nqS, True.intro⟩ rfl (fun vR => ?_)) | (refine o_call [] [5] [5] rfl (h2 _) ⟨sle_own, nqS, True.intro⟩ rfl ⟨HOLe.refl _, True.intro⟩ rfl rfl ?_; rintro _ _ ⟨rfl, rfl⟩; refine ⟨_, rfl, rfl, ?_⟩))
  refine end_tmp rfl rfl rfl [5] [] (CLe.fz ?_) .nil ⟨rfl, rfl⟩ _ (.inl rfl)
  exact .head _
theorem revI_spec (v : Value) (xs : List Itm) (hl : xs.length ≤ 100000) : Spec Tryz.prog 183 [.own 0 v] [.row v 50 66 (xs.map Itm.A)] (fun r os => r = .tup [] ∧ os = [.row v 50 66 (xs.reverse.map Itm.A)]) := by
  refine spec_of TtOk [(0, .row v 50 66 (xs.map Itm.A))] Tryz.func183 rfl Tryz.ntmps183 (by kernel_rfl) rfl rfl (fun C => ?_) rfl
  repeat' (first | refine Awp.seq ?_ | refine Awp.block ?_ | refine Awp.region ?_ | refine Ops.nil (nqA ?_) | (refine o_sub rfl rfl rfl rfl ?_ ?_; omega) | refine o_lenOwn rfl TtOk rfl rfl rfl rfl (fun _ => ?_) | (refine o_calm rfl TtOk rfl rfl rfl ?_ (fun _ => ?_); exact nd))
  refine Awp.loop (fun q : Nat × List Itm => ⟨28, [(3, .i .i64 ((xs.length : Int) - 1 - (q.1 : Int))), (2, .i .i64 q.1), (0, .own 0 v)], [(0, .row v 50 66 (q.2.map Itm.A))]⟩) (fun q => 2 * q.1 ≤ xs.length + 1 ∧ q.2.length = xs.length ∧ ∀ k, k < xs.length → q.2[k]? = if k < q.1 ∨ xs.length - 1 - q.1 < k then xs[xs.length - 1 - k]? else xs[k]?) (fun q => xs.length - q.1) [] (0, xs) ⟨by omega, rfl, fun k hk => by rw [if_neg (by omega)]⟩ ?_ ?_
  · exact ⟨rfl, ⟨sle_i (by omega), sle_i rfl, sle_own, True.intro⟩, HLe.cons 0 rfl (HOLe.refl _) .nil⟩
  rintro ⟨i, M⟩ ⟨hi, hM, hk⟩
  dsimp only at hi hM hk ⊢
  by_cases hlt : 2 * i + 1 < xs.length
  · obtain ⟨j, hj⟩ : ∃ j : Nat, (xs.length : Int) - 1 - (i : Int) = (j : Int) := ⟨xs.length - 1 - i, by omega⟩
    have hjl : j < M.length := by omega
    have hil : i < M.length := by omega
    have hj1 : ((j : Int) - 1 = (xs.length : Int) - 1 - ((i + 1 : Nat) : Int)) := by omega
    have hi1 : ((i : Int) + 1 = ((i + 1 : Nat) : Int)) := by omega
    rw [hj]
    have hst : (List.map Itm.A M).set i (updAt [] M[i].A (AV.agg [pfxA M[j].n M[j].l, labA M[j].s, AV.i .i64 M[j].t])) = (M.set i M[j]).map Itm.A := by rw [List.map_set]; rfl
    have hsl : (M.set i M[j]).length = M.length := List.length_set ..
    have hkk : ∀ k, k < xs.length → ((M.set i M[j]).set j M[i])[k]? = if k < i + 1 ∨ xs.length - 1 - (i + 1) < k then xs[xs.length - 1 - k]? else xs[k]? := by
      intro k hkl
      rw [List.getElem?_set, List.getElem?_set]
      by_cases e1 : j = k
      · subst e1
        rw [if_pos rfl, if_pos (by rw [hsl]; omega), if_pos (by omega), ← List.getElem?_eq_getElem hil, hk i (by omega), if_neg (by omega)]
        congr 1; omega
      · rw [if_neg e1]
        by_cases e2 : i = k
        · subst e2
          rw [if_pos rfl, if_pos hil, if_pos (by omega), ← List.getElem?_eq_getElem hjl, hk j (by omega), if_neg (by omega)]
          congr 1; omega
        · rw [if_neg e2, hk k hkl]
          by_cases c : k < i ∨ xs.length - 1 - i < k
          · rw [if_pos c, if_pos (by omega)]
          · rw [if_neg c, if_neg (by omega)]
    repeat' (first | (rw [hst]) | refine Awp.seq ?_ | refine Awp.block ?_ | refine Awp.region ?_ | refine Ops.nil (nqA ?_) | refine Ops.nil (nqX ?_) | refine Awp.skip (nqA ?_) | (refine o_add rfl rfl rfl rfl ?_ ?_; omega) | (refine o_sub rfl rfl rfl rfl ?_ ?_; omega) | (refine o_calm rfl TtOk rfl rfl rfl ?_ (fun _ => ?_); exact nd) | (refine o_indexOwn TtOk rfl rfl rfl rfl rfl rfl rfl rfl _ rfl ?_ (fun bO hbO => ?_); ((repeat' (first | rw [List.length_append] | rw [List.length_map] | rw [List.length_cons] | rw [List.length_nil] | rw [List.length_take] | rw [List.length_drop])) <;> omega)) | (refine o_loadRow TtOk rfl rfl rfl rfl rfl (by assumption) (getq_map (List.getElem?_eq_getElem ?_)) rfl rfl (by first | exact Nat.add_zero _ | rfl) ⟨rfl, rfl⟩ ?_; omega) | (refine o_storeRow TtOk rfl rfl rfl rfl rfl rfl (by assumption) (getq_map (List.getElem?_eq_getElem ?_)) rfl rfl (by first | exact Nat.add_zero _ | rfl) ⟨rfl, rfl⟩ rfl rfl ?_; omega) | (refine a_condP rfl (fun hc => ?_) (fun hc => ?_)) <;> (try (exfalso; omega)) | refine a_any 3 [0] [21, 25] [] [0, 1, 2, 3, 4, 5, 6, 8, 9, 10, 7, 11, 12, 13, 14, 15] (by kernel_rfl) (by kernel_rfl) (by kernel_rfl) rfl rfl rfl ?_)
    all_goals
      refine ⟨(i + 1, (M.set i M[j]).set j M[i]), [], ⟨by show 2 * (i + 1) ≤ xs.length + 1; omega, by show ((M.set i M[j]).set j M[i]).length = xs.length; rw [List.length_set, hsl]; exact hM, hkk⟩, by show xs.length - (i + 1) < xs.length - i; omega, rfl, ⟨sle_i hj1, sle_i hi1, sle_own, True.intro⟩, HLe.cons 0 rfl (HOLe.row ?_) .nil⟩
      rw [List.map_set (l := M.set i M[j])]; rfl
  · have hrv : M = xs.reverse := by
      refine List.ext_getElem? (fun k => ?_)
      by_cases hkl : k < xs.length
      · rw [List.getElem?_reverse hkl, hk k hkl]
        by_cases c : k < i ∨ xs.length - 1 - i < k
        · rw [if_pos c]
        · rw [if_neg c]; congr 1; omega
      · rw [List.getElem?_eq_none (by omega), List.getElem?_eq_none (by rw [List.length_reverse]; omega)]
    rw [hrv]
    repeat' (first | refine Awp.seq ?_ | refine Awp.region ?_ | refine Ops.nil (nqA ?_) | refine Awp.exit (nqE ?_) | (refine o_calm rfl TtOk rfl rfl rfl ?_ (fun _ => ?_); exact nd) | (refine a_condP rfl (fun hc => ?_) (fun hc => ?_)) <;> (try (exfalso; omega)))
    all_goals exact end_none rfl [] [(0, _)] (HLe.cons 0 rfl (HOLe.refl _) .nil) ⟨rfl, rfl⟩ _ (.inr rfl)
end Go.Proofs.YtcmgpkibjdbonaaGreat
