/- proof.sides, item, pair, sorted; slices.Reverse of items, by rules. -/
import Derived.Test.YtcmgpkibjdbonaaGreatV31Z
import Derived.Test.YtcmgpkibjdbonaaGreatG6Z
set_option maxHeartbeats 16000000
set_option maxRecDepth 100000
namespace Go.Proofs.YtcmgpkibjdbonaaGreat
open Go Go.RowKit
/-- How many leaves of rising ones have bit n at 0. -/
def sidL (n : Nat) (l : List Lef) : Nat := if l.any (fun x => bitL x.l n == 1) = true then l.findIdx (fun x => bitL x.l n == 1) else l.length
theorem sidL_le (n : Nat) (l : List Lef) : sidL n l ≤ l.length := by
  unfold sidL; split
  · exact List.findIdx_le_length
  · exact Nat.le_refl _
theorem sides1_spec (n : Nat) (hn : n < 256) (x : Lef) (hx : x.ok) : Spec Tryz.prog 171 ([x.A] ++ [.cp (.i .i64 n)]) [] (fun v os => v = .b (bitL x.l n == 1) ∧ os = []) := by
  have h1 := bit_spec x.l hx.1 n (by omega) (by omega)
  rw [if_pos (by omega), Int.toNat_natCast] at h1
  have hb := bitL_or x.l n
  generalize bitL x.l n = b at h1 hb
  obtain ⟨l, u, t⟩ := x
  dsimp only at h1
  show Spec Tryz.prog 171 [.agg [labA l, labA u, .i .i64 t], .cp (.i .i64 n)] [] _
  refine spec_of TtOk [] Tryz.func171 rfl Tryz.ntmps171 (by kernel_rfl) rfl rfl (fun C => ?_) rfl
  repeat' (first | refine Awp.seq ?_ | refine Awp.region ?_ | refine Ops.nil (nqA ?_) | refine Awp.ret (nqE ?_) | (refine o_calm rfl TtOk rfl rfl rfl ?_ (fun _ => ?_); exact nd) | refine o_box (d := 2) rfl rfl rfl rfl (fun b2 => ?_) | refine o_callE rfl (h1) ⟨nqS, nqS, True.intro⟩ rfl ?_)
  refine end_tmp rfl rfl rfl [] [] (CLe.of_eq ?_) .nil ⟨rfl, rfl⟩ _ (.inl rfl)
  refine congrArg AV.b ?_
  rcases hb with rfl | rfl <;> rfl
theorem sides_spec (l : List Lef) (hl : l.length ≤ 100000) (hok : ∀ x ∈ l, x.ok) (n : Nat) (hn : n < 256) : Spec Tryz.prog 79 [.sl 65 (l.map Lef.A), .i .i64 n] [] (fun v os => v = .tup [.sl 65 ((l.take (sidL n l)).map Lef.A), .sl 65 ((l.drop (sidL n l)).map Lef.A)] ∧ os = []) := by
  refine spec_of TtOk [] Tryz.func79 rfl Tryz.ntmps79 (by kernel_rfl) rfl rfl (fun C => ?_) rfl
  have hx := ixL_spec l 171 [.cp (.i .i64 (n : Nat))] rfl (fun x => bitL x.l n == 1) (fun x hx => sides1_spec _ hn x (hok x hx)) hl
  have hle := sidL_le n l
  have ht : l.drop (sidL n l) = (l.take l.length).drop (sidL n l) := by rw [List.take_length]
  rw [ht]
  by_cases ha : l.any (fun x => bitL x.l n == 1) = true
  · have hi : sidL n l = l.findIdx (fun x => bitL x.l n == 1) := if_pos ha
    rw [if_pos ha, ← hi] at hx
    clear hi ht
    generalize sidL n l = i at *
    repeat' (first | (refine a_freezeV 3 3 rfl rfl rfl ?_) | refine Awp.seq ?_ | refine Awp.region ?_ | refine Ops.nil (nqA ?_) | refine Awp.skip (nqA ?_) | refine Awp.ret (nqE ?_) | (refine o_calm rfl TtOk rfl rfl rfl ?_ (fun _ => ?_); exact nd) | refine o_box (d := 3) rfl rfl rfl rfl (fun b3 => ?_) | refine a_condF rfl ?_ | refine a_any 4 [] [] [] [0, 1, 2, 3, 4, 5, 6, 7] (by kernel_rfl) (by kernel_rfl) (by kernel_rfl) rfl rfl rfl ?_ | (refine o_makeFunc1 rfl rfl rfl rfl rfl ?_) | (refine o_sliceSl TtOk rfl 0 i rfl rfl rfl rfl rfl bnd_none (bnd_some rfl rfl) (by omega) (by omega) ?_; rw [List.drop_zero]) | (refine o_sliceSl TtOk rfl i l.length rfl rfl rfl rfl rfl (bnd_some rfl rfl) bnd_none (by omega) (by omega) ?_) | refine o_callE rfl (hx) ⟨nqS, nqS, True.intro⟩ rfl ?_)
    refine end_all [] [] (.tup [.sl 65 ((l.take i).map Lef.A), .sl 65 (((l.take l.length).drop i).map Lef.A)]) rfl ?_ ?_ (rle_tup2 (CLe.of_eq rfl) (CLe.of_eq rfl) rfl rfl) .nil ⟨rfl, rfl⟩ _ (.inl rfl)
    · exact nq1
    · exact ⟨trivial, trivial, trivial⟩
  · have hi : sidL n l = l.length := if_neg ha
    rw [if_neg ha] at hx
    rw [hi]
    clear hi ht
    repeat' (first | (refine a_freezeV 3 3 rfl rfl rfl ?_) | refine Awp.seq ?_ | refine Awp.region ?_ | refine Ops.nil (nqA ?_) | refine Awp.ret (nqE ?_) | refine o_len rfl TtOk rfl rfl rfl (fun _ => ?_) | (refine o_calm rfl TtOk rfl rfl rfl ?_ (fun _ => ?_); exact nd) | refine o_box (d := 3) rfl rfl rfl rfl (fun b3 => ?_) | refine a_condT rfl ?_ | refine a_any 4 [] [] [] [0, 1, 2, 3, 4, 5, 6, 7] (by kernel_rfl) (by kernel_rfl) (by kernel_rfl) rfl rfl rfl ?_ | (refine o_makeFunc1 rfl rfl rfl rfl rfl ?_) | (refine o_sliceSl TtOk rfl 0 l.length rfl rfl rfl rfl rfl bnd_none (bnd_some rfl rfl) (by omega) (by omega) ?_; rw [List.drop_zero]) | (refine o_sliceSl TtOk rfl l.length l.length rfl rfl rfl rfl rfl (bnd_some rfl rfl) bnd_none (by omega) (by omega) ?_) | refine o_callE rfl (hx) ⟨nqS, nqS, True.intro⟩ rfl ?_)
    refine end_all [] [] (.tup [.sl 65 ((l.take l.length).map Lef.A), .sl 65 (((l.take l.length).drop l.length).map Lef.A)]) rfl ?_ ?_ (rle_tup2 (CLe.of_eq rfl) (CLe.of_eq rfl) rfl rfl) .nil ⟨rfl, rfl⟩ _ (.inl rfl)
    · exact nq1
    · exact ⟨trivial, trivial, trivial⟩
theorem sidL_spl {l : List Lef} (hr : RiseI (l.map leafI)) (hok : ∀ x ∈ l, x.ok) (h2 : 2 ≤ l.length) : sidL (frkI (l.map leafI)) l = splI (l.map leafI) := by
  have hok2 : ∀ x ∈ l.map leafI, x.ok := fun x hx => by
    obtain ⟨y, hy, rfl⟩ := List.mem_map.1 hx
    exact leafI_ok y (hok y hy)
  obtain ⟨_, _, _, s3⟩ := spl_ok hr hok2 (by rw [List.length_map]; exact h2)
  unfold sidL splI
  rw [List.any_map] at s3
  rw [List.findIdx_map]
  exact if_pos s3
/-- The two parts of a tree. -/
def parA (I : List Itm) : Itm := joinF (I.length - 1) (I.take (splI I))
def parB (I : List Itm) : Itm := joinF (I.length - 1) (I.drop (splI I))
theorem join_par {I : List Itm} (h2 : 2 ≤ I.length) : joinF I.length I = innI (parA I) (parB I) := by
  obtain ⟨k, hk⟩ : ∃ k, I.length = k + 1 := ⟨I.length - 1, by omega⟩
  unfold parA parB
  rw [hk]
  show (if I.length = 1 then _ else _) = _
  rw [if_neg (by omega)]; rfl
theorem par_ok {I : List Itm} (hr : RiseI I) (hok : ∀ x ∈ I, x.ok) (h2 : 2 ≤ I.length) : (parA I).ok ∧ (parB I).ok := by
  obtain ⟨_, s1, s2, _⟩ := spl_ok hr hok h2
  exact ⟨joinF_ok _ _ (take_ne s1 s2) (by rw [List.length_take]; omega) (hr.sublist (List.take_sublist ..)) (fun x hx => hok x (List.mem_of_mem_take hx)),
    joinF_ok _ _ (drop_ne s2) (by rw [List.length_drop]; omega) (hr.sublist (List.drop_sublist ..)) (fun x hx => hok x (List.mem_of_mem_drop hx))⟩
theorem item_pair : ∀ k : Nat,
    (∀ l : List Lef, l ≠ [] → l.length ≤ k → l.length ≤ 100000 → RiseI (l.map leafI) → (∀ x ∈ l, x.ok) → Spec Tryz.prog 169 [.sl 65 (l.map Lef.A)] [] (fun v os => v = (joinF l.length (l.map leafI)).A ∧ os = [])) ∧
    (∀ l : List Lef, 2 ≤ l.length → l.length ≤ k → l.length ≤ 100000 → RiseI (l.map leafI) → (∀ x ∈ l, x.ok) → Spec Tryz.prog 77 [.sl 65 (l.map Lef.A)] [] (fun v os => v = .agg [(parA (l.map leafI)).A, (parB (l.map leafI)).A] ∧ os = [])) := by
  intro k
  induction k with
  | zero => exact ⟨fun l hn hk => absurd (List.length_eq_zero_iff.1 (by omega)) hn, fun l h2 hk => by omega⟩
  | succ k ih =>
    have hpair : ∀ l : List Lef, 2 ≤ l.length → l.length ≤ k + 1 → l.length ≤ 100000 → RiseI (l.map leafI) → (∀ x ∈ l, x.ok) → Spec Tryz.prog 77 [.sl 65 (l.map Lef.A)] [] (fun v os => v = .agg [(parA (l.map leafI)).A, (parB (l.map leafI)).A] ∧ os = []) := by
      intro l h2 hk hl hr hok
      have hml : (l.map leafI).length = l.length := List.length_map ..
      have hok2 : ∀ x ∈ l.map leafI, x.ok := fun x hx => by
        obtain ⟨y, hy, rfl⟩ := List.mem_map.1 hx
        exact leafI_ok y (hok y hy)
      obtain ⟨hf, s1, s2, s3⟩ := spl_ok hr hok2 (by omega)
      have hp : 0 < l.length := by omega
      have hj : l.length - 1 < l.length := by omega
      have hcm := bcommon_spec l[0].l l[l.length - 1].l (hok _ (List.getElem_mem hp)).1 (hok _ (List.getElem_mem hj)).1
      have hfe : comL l[0].l l[l.length - 1].l = frkI (l.map leafI) := by rw [frk_eq (by omega)]; simp [leafI]
      rw [hfe] at hcm
      have hsd := sides_spec l hl hok (frkI (l.map leafI)) hf
      rw [sidL_spl hr hok h2] at hsd
      have n1 : l.take (splI (l.map leafI)) ≠ [] := fun h => by have := congrArg List.length h; rw [List.length_take, List.length_nil] at this; omega
      have n2 : l.drop (splI (l.map leafI)) ≠ [] := fun h => by have := congrArg List.length h; rw [List.length_drop, List.length_nil] at this; omega
      have r1 : RiseI ((l.take (splI (l.map leafI))).map leafI) := by rw [List.map_take]; exact hr.sublist (List.take_sublist ..)
      have r2 : RiseI ((l.drop (splI (l.map leafI))).map leafI) := by rw [List.map_drop]; exact hr.sublist (List.drop_sublist ..)
      have k1 : ∀ x ∈ l.take (splI (l.map leafI)), x.ok := fun x hx => hok x (List.mem_of_mem_take hx)
      have k2 : ∀ x ∈ l.drop (splI (l.map leafI)), x.ok := fun x hx => hok x (List.mem_of_mem_drop hx)
      have i1 := ih.1 (l.take (splI (l.map leafI))) n1 (by rw [List.length_take]; omega) (by rw [List.length_take]; omega) r1 k1
      have i2 := ih.1 (l.drop (splI (l.map leafI))) n2 (by rw [List.length_drop]; omega) (by rw [List.length_drop]; omega) r2 k2
      have e1 : joinF (l.take (splI (l.map leafI))).length ((l.take (splI (l.map leafI))).map leafI) = parA (l.map leafI) := by
        unfold parA
        rw [← List.map_take]
        refine joinF_fuel _ _ _ (fun h => n1 (List.map_eq_nil_iff.1 h)) (by rw [List.length_map]; exact Nat.le_refl _) (by rw [List.length_map, List.length_take]; omega) r1 (fun x hx => ?_)
        obtain ⟨y, hy, rfl⟩ := List.mem_map.1 hx
        exact leafI_ok y (k1 y hy)
      have e2 : joinF (l.drop (splI (l.map leafI))).length ((l.drop (splI (l.map leafI))).map leafI) = parB (l.map leafI) := by
        unfold parB
        rw [← List.map_drop]
        refine joinF_fuel _ _ _ (fun h => n2 (List.map_eq_nil_iff.1 h)) (by rw [List.length_map]; exact Nat.le_refl _) (by rw [List.length_map, List.length_drop]; omega) r2 (fun x hx => ?_)
        obtain ⟨y, hy, rfl⟩ := List.mem_map.1 hx
        exact leafI_ok y (k2 y hy)
      rw [e1] at i1
      rw [e2] at i2
      clear e1 e2 n1 n2 r1 r2 k1 k2 hfe hml
      generalize parA (l.map leafI) = a at *
      generalize parB (l.map leafI) = b at *
      generalize frkI (l.map leafI) = c at *
      generalize splI (l.map leafI) = s at *
      refine spec_of TtOk [] Tryz.func77 rfl Tryz.ntmps77 (by kernel_rfl) rfl rfl (fun C => ?_) rfl
      repeat' (first | refine Awp.seq ?_ | refine Awp.region ?_ | refine Ops.nil (nqA ?_) | refine Awp.ret (nqE ?_) | (refine o_sub rfl rfl rfl rfl ?_ ?_; omega) | refine o_len rfl TtOk rfl rfl rfl (fun _ => ?_) | (refine o_calm rfl TtOk rfl rfl rfl ?_ (fun _ => ?_); exact nd) | refine o_alloc (d := 2) rfl TtOk rfl rfl rfl (fun b2 => ?_) | refine o_store TtOk rfl rfl rfl rfl rfl rfl rfl ⟨rfl, rfl⟩ rfl rfl rfl rfl rfl ?_ | (refine o_index rfl TtOk rfl rfl rfl rfl rfl rfl ?_ (getq_nat ?_) ?_; omega; omega) | refine o_build TtOk rfl rfl rfl rfl rfl rfl nq1 ?_ | refine a_any 1 [] [] [] [0, 1, 2, 3, 5, 6, 7, 8, 9, 10, 4, 11, 12, 13, 14, 15, 16, 17, 18] (by kernel_rfl) (by kernel_rfl) (by kernel_rfl) rfl rfl rfl ?_ | (refine o_index rfl TtOk rfl rfl rfl rfl rfl rfl ?_ (getq_as (l.length-1) ?_ hj) ?_; omega; omega) | refine o_callE rfl (hcm) ⟨nqS, nqS, True.intro⟩ rfl ?_ | refine o_callE rfl (hsd) ⟨nqS, nqS, True.intro⟩ rfl ?_ | refine o_callE rfl (i1) ⟨nqS, True.intro⟩ rfl ?_ | refine o_callE rfl (i2) ⟨nqS, True.intro⟩ rfl ?_)
      refine end_all [] [] (.agg [a.A, b.A]) rfl ?_ ?_ (rle_one (CLe.of_eq rfl) rfl) .nil ⟨rfl, rfl⟩ _ (.inl rfl)
      · exact nq1
      · exact ⟨trivial, trivial⟩
    refine ⟨fun l hn hk hl hr hok => ?_, hpair⟩
    have hp : 0 < l.length := List.length_pos_iff.2 hn
    by_cases h1 : l.length = 1
    · have hjn : joinF l.length (l.map leafI) = leafI l[0] := by
        obtain ⟨y, rfl⟩ := List.length_eq_one_iff.1 h1
        rfl
      have hit := litem_spec l[0] (hok _ (List.getElem_mem hp))
      rw [hjn]
      generalize leafI l[0] = x at hit ⊢
      refine spec_of TtOk [] Tryz.func169 rfl Tryz.ntmps169 (by kernel_rfl) rfl rfl (fun C => ?_) rfl
      repeat' (first | refine Awp.seq ?_ | refine Awp.region ?_ | refine Ops.nil (nqA ?_) | refine Awp.ret (nqE ?_) | refine o_len rfl TtOk rfl rfl rfl (fun _ => ?_) | (refine o_calm rfl TtOk rfl rfl rfl ?_ (fun _ => ?_); exact nd) | refine o_alloc (d := 2) rfl TtOk rfl rfl rfl (fun b2 => ?_) | refine o_store TtOk rfl rfl rfl rfl rfl rfl rfl ⟨rfl, rfl⟩ rfl rfl rfl rfl rfl ?_ | (refine o_index rfl TtOk rfl rfl rfl rfl rfl rfl ?_ (getq_nat ?_) ?_; omega; omega) | (refine a_condP rfl (fun hc => ?_) (fun hc => ?_)) <;> (try (exfalso; omega)) | refine o_callE rfl (hit) ⟨nqS, True.intro⟩ rfl ?_)
      refine end_all [] [] x.A rfl ?_ ?_ (rle_one (CLe.of_eq rfl) rfl) .nil ⟨rfl, rfl⟩ _ (.inl rfl)
      · exact nq1
      · exact ⟨trivial, trivial⟩
    · have h2 : 2 ≤ l.length := by omega
      have hml : (l.map leafI).length = l.length := List.length_map ..
      have hok2 : ∀ x ∈ l.map leafI, x.ok := fun x hx => by
        obtain ⟨y, hy, rfl⟩ := List.mem_map.1 hx
        exact leafI_ok y (hok y hy)
      have hpr := hpair l h2 hk hl hr hok
      obtain ⟨oA, oB⟩ := par_ok hr hok2 (by omega)
      have hit := iitem_spec _ _ oA oB
      have hjn : joinF l.length (l.map leafI) = innI (parA (l.map leafI)) (parB (l.map leafI)) := by rw [← hml]; exact join_par (by omega)
      rw [hjn]
      clear hjn oA oB hml hok2
      generalize innI (parA (l.map leafI)) (parB (l.map leafI)) = x at hit ⊢
      generalize parA (l.map leafI) = a at *
      generalize parB (l.map leafI) = b at *
      refine spec_of TtOk [] Tryz.func169 rfl Tryz.ntmps169 (by kernel_rfl) rfl rfl (fun C => ?_) rfl
      repeat' (first | refine Awp.seq ?_ | refine Awp.region ?_ | refine Ops.nil (nqA ?_) | refine Awp.skip (nqA ?_) | refine Awp.ret (nqE ?_) | refine o_len rfl TtOk rfl rfl rfl (fun _ => ?_) | (refine o_calm rfl TtOk rfl rfl rfl ?_ (fun _ => ?_); exact nd) | refine o_alloc (d := 2) rfl TtOk rfl rfl rfl (fun b2 => ?_) | refine o_store TtOk rfl rfl rfl rfl rfl rfl rfl ⟨rfl, rfl⟩ rfl rfl rfl rfl rfl ?_ | (refine a_condP rfl (fun hc => ?_) (fun hc => ?_)) <;> (try (exfalso; omega)) | refine o_callE rfl (hpr) ⟨nqS, True.intro⟩ rfl ?_ | refine o_callE rfl (hit) ⟨nqS, True.intro⟩ rfl ?_)
      refine end_all [] [] x.A rfl ?_ ?_ (rle_one (CLe.of_eq rfl) rfl) .nil ⟨rfl, rfl⟩ _ (.inl rfl)
      · exact nq1
      · exact ⟨trivial, trivial⟩
theorem pitem_spec (l : List Lef) (hn : l ≠ []) (hl : l.length ≤ 100000) (hr : RiseI (l.map leafI)) (hok : ∀ x ∈ l, x.ok) : Spec Tryz.prog 169 [.sl 65 (l.map Lef.A)] [] (fun v os => v = (joinF l.length (l.map leafI)).A ∧ os = []) := (item_pair l.length).1 l hn (Nat.le_refl _) hl hr hok
theorem ppair_spec (l : List Lef) (h2 : 2 ≤ l.length) (hl : l.length ≤ 100000) (hr : RiseI (l.map leafI)) (hok : ∀ x ∈ l, x.ok) : Spec Tryz.prog 77 [.sl 65 (l.map Lef.A)] [] (fun v os => v = .agg [(parA (l.map leafI)).A, (parB (l.map leafI)).A] ∧ os = []) := (item_pair l.length).2 l h2 (Nat.le_refl _) hl hr hok
theorem psorted1_spec (x y : Lef) : Spec Tryz.prog 167 ([x.A, y.A] ++ []) [] (fun v os => v = .i .i64 (ordL x y) ∧ os = []) := by
  have h1 := border_spec x.l y.l
  have ho : ordL x y = cmpS x.l y.l := rfl
  rw [ho]
  generalize cmpS x.l y.l = c at h1 ⊢
  show Spec Tryz.prog 167 [.agg [labA x.l, labA x.v, .i .i64 x.t], .agg [labA y.l, labA y.v, .i .i64 y.t]] [] _
  refine spec_of TtOk [] Tryz.func167 rfl Tryz.ntmps167 (by kernel_rfl) rfl rfl (fun C => ?_) rfl
  repeat' (first | refine Awp.seq ?_ | refine Awp.region ?_ | refine Ops.nil (nqA ?_) | refine Awp.ret (nqE ?_) | (refine o_calm rfl TtOk rfl rfl rfl ?_ (fun _ => ?_); exact nd) | refine o_box (d := 2) rfl rfl rfl rfl (fun b2 => ?_) | refine o_box (d := 3) rfl rfl rfl rfl (fun b3 => ?_) | refine o_callE rfl (h1) ⟨nqS, nqS, True.intro⟩ rfl ?_)
  exact nq2
theorem psorted_spec (l : List Lef) (hl : l.length ≤ 100000) : Spec Tryz.prog 75 [.sl 65 (l.map Lef.A)] [] (fun v os => v = .sl 65 ((srtL l).map Lef.A) ∧ os = []) := by
  refine spec_of TtOk [] Tryz.func75 rfl Tryz.ntmps75 (by kernel_rfl) rfl rfl (fun C => ?_) rfl
  have h1 := cloneL_spec (l.map Lef.A) (by rw [List.length_map]; omega)
  have h2 := fun v => sortStable_specL v 167 [] rfl ordL psorted1_spec woL l hl
  have hs : sortS (ltCL ordL) l = srtL l := rfl
  rw [hs] at h2
  generalize srtL l = r at h2 ⊢
  repeat' (first | refine Awp.seq ?_ | refine Awp.region ?_ | refine Ops.nil (nqA ?_) | refine Awp.ret (nqE ?_) | (refine o_calm rfl TtOk rfl rfl rfl ?_ (fun _ => ?_); exact nd) | (refine o_callR rfl h1 ⟨nqS, True.intro⟩ rfl (fun vR => ?_)) | (refine o_call [] [5] [5] rfl (h2 _) ⟨sle_own, nqS, True.intro⟩ rfl ⟨HOLe.refl _, True.intro⟩ rfl rfl ?_; rintro _ _ ⟨rfl, rfl⟩; refine ⟨_, rfl, rfl, ?_⟩))
  refine end_tmp rfl rfl rfl [5] [] (CLe.fz ?_) .nil ⟨rfl, rfl⟩ _ (.inl rfl)
  exact .head _
theorem revI_spec (v : Value) (xs : List Itm) (hl : xs.length ≤ 100000) : Spec Tryz.prog 183 [.own 0 v] [.row v 50 66 (xs.map Itm.A)] (fun r os => r = .tup [] ∧ os = [.row v 50 66 (xs.reverse.map Itm.A)]) := by
  refine spec_of TtOk [(0, .row v 50 66 (xs.map Itm.A))] Tryz.func183 rfl Tryz.ntmps183 (by kernel_rfl) rfl rfl (fun C => ?_) rfl
  repeat' (first | refine Awp.seq ?_ | refine Awp.block ?_ | refine Awp.region ?_ | refine Ops.nil (nqA ?_) | (refine o_sub rfl rfl rfl rfl ?_ ?_; omega) | refine o_lenOwn rfl TtOk rfl rfl rfl rfl (fun _ => ?_) | (refine o_calm rfl TtOk rfl rfl rfl ?_ (fun _ => ?_); exact nd))
  refine Awp.loop (fun q : Nat × List Itm => ⟨28, [(3, .i .i64 ((xs.length : Int) - 1 - (q.1 : Int))), (2, .i .i64 q.1), (0, .own 0 v)], [(0, .row v 50 66 (q.2.map Itm.A))]⟩) (fun q => 2 * q.1 ≤ xs.length + 1 ∧ q.2.length = xs.length ∧ ∀ k, k < xs.length → q.2[k]? = if k < q.1 ∨ xs.length - 1 - q.1 < k then xs[xs.length - 1 - k]? else xs[k]?) (fun q => xs.length - q.1) [] (0, xs) ⟨by omega, rfl, fun k hk => by rw [if_neg (by omega)]⟩ ?_ ?_
  · exact ⟨rfl, ⟨sle_i (by omega), sle_i rfl, sle_own, True.intro⟩, HLe.cons 0 rfl (HOLe.refl _) .nil⟩
  rintro ⟨i, M⟩ ⟨hi, hM, hk⟩
  dsimp only at hi hM hk ⊢
  by_cases hlt : 2 * i + 1 < xs.length
  · obtain ⟨j, hj⟩ : ∃ j : Nat, (xs.length : Int) - 1 - (i : Int) = (j : Int) := ⟨xs.length - 1 - i, by omega⟩
    have hjl : j < M.length := by omega
    have hil : i < M.length := by omega
    have hj1 : ((j : Int) - 1 = (xs.length : Int) - 1 - ((i + 1 : Nat) : Int)) := by omega
    have hi1 : ((i : Int) + 1 = ((i + 1 : Nat) : Int)) := by omega
    rw [hj]
    have hst : (List.map Itm.A M).set i (updAt [] M[i].A (AV.agg [pfxA M[j].n M[j].l, labA M[j].s, AV.i .i64 M[j].t])) = (M.set i M[j]).map Itm.A := by rw [List.map_set]; rfl
    have hsl : (M.set i M[j]).length = M.length := List.length_set ..
    have hkk : ∀ k, k < xs.length → ((M.set i M[j]).set j M[i])[k]? = if k < i + 1 ∨ xs.length - 1 - (i + 1) < k then xs[xs.length - 1 - k]? else xs[k]? := by
      intro k hkl
      rw [List.getElem?_set, List.getElem?_set]
      by_cases e1 : j = k
      · subst e1
        rw [if_pos rfl, if_pos (by rw [hsl]; omega), if_pos (by omega), ← List.getElem?_eq_getElem hil, hk i (by omega), if_neg (by omega)]
        congr 1; omega
      · rw [if_neg e1]
        by_cases e2 : i = k
        · subst e2
          rw [if_pos rfl, if_pos hil, if_pos (by omega), ← List.getElem?_eq_getElem hjl, hk j (by omega), if_neg (by omega)]
          congr 1; omega
        · rw [if_neg e2, hk k hkl]
          by_cases c : k < i ∨ xs.length - 1 - i < k
          · rw [if_pos c, if_pos (by omega)]
          · rw [if_neg c, if_neg (by omega)]
    repeat' (first | (rw [hst]) | refine Awp.seq ?_ | refine Awp.block ?_ | refine Awp.region ?_ | refine Ops.nil (nqA ?_) | refine Ops.nil (nqX ?_) | refine Awp.skip (nqA ?_) | (refine o_add rfl rfl rfl rfl ?_ ?_; omega) | (refine o_sub rfl rfl rfl rfl ?_ ?_; omega) | (refine o_calm rfl TtOk rfl rfl rfl ?_ (fun _ => ?_); exact nd) | (refine o_indexOwn TtOk rfl rfl rfl rfl rfl rfl rfl rfl _ rfl ?_ (fun bO hbO => ?_); ((repeat' (first | rw [List.length_append] | rw [List.length_map] | rw [List.length_cons] | rw [List.length_nil] | rw [List.length_take] | rw [List.length_drop])) <;> omega)) | (refine o_loadRow TtOk rfl rfl rfl rfl rfl (by assumption) (getq_map (List.getElem?_eq_getElem ?_)) rfl rfl (by first | exact Nat.add_zero _ | rfl) ⟨rfl, rfl⟩ ?_; omega) | (refine o_storeRow TtOk rfl rfl rfl rfl rfl rfl (by assumption) (getq_map (List.getElem?_eq_getElem ?_)) rfl rfl (by first | exact Nat.add_zero _ | rfl) ⟨rfl, rfl⟩ rfl rfl ?_; omega) | (refine a_condP rfl (fun hc => ?_) (fun hc => ?_)) <;> (try (exfalso; omega)) | refine a_any 3 [0] [21, 25] [] [0, 1, 2, 3, 4, 5, 6, 8, 9, 10, 7, 11, 12, 13, 14, 15] (by kernel_rfl) (by kernel_rfl) (by kernel_rfl) rfl rfl rfl ?_)
    all_goals
      refine ⟨(i + 1, (M.set i M[j]).set j M[i]), [], ⟨by show 2 * (i + 1) ≤ xs.length + 1; omega, by show ((M.set i M[j]).set j M[i]).length = xs.length; rw [List.length_set, hsl]; exact hM, hkk⟩, by show xs.length - (i + 1) < xs.length - i; omega, rfl, ⟨sle_i hj1, sle_i hi1, sle_own, True.intro⟩, HLe.cons 0 rfl (HOLe.row ?_) .nil⟩
      rw [List.map_set (l := M.set i M[j])]; rfl
  · have hrv : M = xs.reverse := by
      refine List.ext_getElem? (fun k => ?_)
      by_cases hkl : k < xs.length
      · rw [List.getElem?_reverse hkl, hk k hkl]
        by_cases c : k < i ∨ xs.length - 1 - i < k
        · rw [if_pos c]
        · rw [if_neg c]; congr 1; omega
      · rw [List.getElem?_eq_none (by omega), List.getElem?_eq_none (by rw [List.length_reverse]; omega)]
    rw [hrv]
    repeat' (first | refine Awp.seq ?_ | refine Awp.region ?_ | refine Ops.nil (nqA ?_) | refine Awp.exit (nqE ?_) | (refine o_calm rfl TtOk rfl rfl rfl ?_ (fun _ => ?_); exact nd) | (refine a_condP rfl (fun hc => ?_) (fun hc => ?_)) <;> (try (exfalso; omega)))
    all_goals exact end_none rfl [] [(0, _)] (HLe.cons 0 rfl (HOLe.refl _) .nil) ⟨rfl, rfl⟩ _ (.inr rfl)
end Go.Proofs.YtcmgpkibjdbonaaGreat
set_option maxHeartbeats 4000000
namespace Go.Proofs.YtcmgpkibjdbonaaGreat
open Go Go.RowKit
def TK.isIface : TK → Bool
  | .iface => true
  | _ => false
section
variable {m : OM} {P : Program} {T : List (Nat × TI)} {C : Ctx} {ops : Array Oper} {l : List Oper} {K : St → Prop} {n : Nat} {sl : List (Nat × AV)} {hp : List (Nat × HO)} {d : Nat} {ty : Nat} {pos : String} {aft : Array Edge} {gd : Option (Nat × Bool)}
theorem not_iface {k : TK} {t sz by_ : Nat} {z : AV} (h : TOk P t ⟨k, sz, by_, z⟩) (hk : k.isIface = false) : ∃ dd, P.underlying t = some dd ∧ ∀ want, dd ≠ .interface want := by
  obtain ⟨dd, h1, h2⟩ := h.desc
  refine ⟨dd, h1, fun want he => ?_⟩
  subst he
  have h2 : TK.iface = k := h2
  subst h2; cases hk
theorem o_mkIface (hT : TTOk P T) (hw : gval ops ⟨n, sl, hp⟩ gd = gwant gd) {t : Nat} {x : Operand} {y : AV} {k : TK} {sz by_ : Nat} {z : AV} (hx : ev ⟨n, sl, hp⟩ x = y) (hv : y.isVal = true) (ht : tget T t = some ⟨k, sz, by_, z⟩) (hk : k.isIface = false) (hd : Nat.blt d n = true)
    (h : Ops m P C ops l ⟨n, (d, .ifc t y) :: sl, hp⟩ K) : Ops m P C ops (⟨some d, .makeInterface t x, ty, pos, aft, gd⟩ :: l) ⟨n, sl, hp⟩ K := by
  refine Ops.by (d := some d) hw none okc_none hd rfl (fun a w hs => ?_) h
  have E := ev_rep hs x
  rw [hx] at E
  obtain ⟨cs, h1, h2⟩ := repV_cells hv E
  refine ⟨.iface t (ofCells y cs), ⟨_, ⟨cs, rfl, h1⟩, rfl⟩, fun w' _ => ?_⟩
  obtain ⟨dd, hu, hn⟩ := not_iface (tget_ok hT ht) hk
  simp only [execOp, Instr.makeInterface, Sem.run_bind, run_underlying hu, Result.andThen_ok, h2]
  cases dd <;> first | rfl | exact absurd rfl (hn _)
theorem o_assertT (hT : TTOk P T) (hw : gval ops ⟨n, sl, hp⟩ gd = gwant gd) {xt t : Nat} {x : Operand} {y : AV} {k : TK} {sz by_ : Nat} {z : AV} (hx : ev ⟨n, sl, hp⟩ x = .ifc t y) (_hv : y.isVal = true) (ht : tget T t = some ⟨k, sz, by_, z⟩) (hk : k.isIface = false) (hd : Nat.blt d n = true)
    (h : Ops m P C ops l ⟨n, (d, .tup [y, .b true]) :: sl, hp⟩ K) : Ops m P C ops (⟨some d, .typeAssert x xt t true, ty, pos, aft, gd⟩ :: l) ⟨n, sl, hp⟩ K := by
  refine Ops.by (d := some d) hw none okc_none hd rfl (fun a w hs => ?_) h
  have E := ev_rep hs x
  rw [hx] at E
  obtain ⟨_, ⟨vs, rfl, h1⟩, h2⟩ := E
  have h2 : a.eval x = .iface t (ofCells y vs) := h2
  refine ⟨.tuple #[ofCells y vs, .bool true], ⟨[ofCells y vs, .bool true], rfl, rfl, fun i b u hb hu => ?_⟩, fun w' _ => ?_⟩
  · match i with
    | 0 => simp at hb hu; subst hb; subst hu; exact .inr ⟨vs, h1, rfl⟩
    | 1 => simp at hb hu; subst hb; subst hu; exact .inr ⟨_, rfl, rfl⟩
    | j + 2 => simp at hb
  obtain ⟨dd, hu, hn⟩ := not_iface (tget_ok hT ht) hk
  simp only [execOp, Instr.typeAssert, Sem.run_bind, run_underlying hu, Result.andThen_ok, h2]
  cases dd <;> first | (simp [Sem.run_pure]; done) | (simp; rfl) | exact absurd rfl (hn _)
theorem o_assert1 (hT : TTOk P T) (hw : gval ops ⟨n, sl, hp⟩ gd = gwant gd) {xt t : Nat} {x : Operand} {y : AV} {k : TK} {sz by_ : Nat} {z : AV} (hx : ev ⟨n, sl, hp⟩ x = .ifc t y) (hv : y.isVal = true) (ht : tget T t = some ⟨k, sz, by_, z⟩) (hk : k.isIface = false) (hd : Nat.blt d n = true)
    (h : Ops m P C ops l ⟨n, (d, y) :: sl, hp⟩ K) : Ops m P C ops (⟨some d, .typeAssert x xt t false, ty, pos, aft, gd⟩ :: l) ⟨n, sl, hp⟩ K := by
  refine Ops.by (d := some d) hw none okc_none hd rfl (fun a w hs => ?_) h
  have E := ev_rep hs x
  rw [hx] at E
  obtain ⟨_, ⟨vs, rfl, h1⟩, h2⟩ := E
  have h2 : a.eval x = .iface t (ofCells y vs) := h2
  have hr : repV w (Fz C hp w) y (ofCells y vs) := by
    cases y <;> simp [AV.isVal] at hv <;> exact ⟨vs, h1, rfl⟩
  refine ⟨ofCells y vs, hr, fun w' _ => ?_⟩
  obtain ⟨dd, hu, hn⟩ := not_iface (tget_ok hT ht) hk
  simp only [execOp, Instr.typeAssert, Sem.run_bind, run_underlying hu, Result.andThen_ok, h2]
  cases dd <;> first | (simp [Sem.run_pure]; done) | (simp; rfl) | exact absurd rfl (hn _)
theorem zero_run {t : Nat} {k : TK} {sz by_ : Nat} {z : AV} (h : TOk P t ⟨k, sz, by_, z⟩) (hz : z.isVal = true) : ∃ cs, (∀ w F, repC w F z cs) ∧ ∀ w', (zeroValue t).run P w' = .ok (ofCells z cs) w' := by
  rcases h.zero with h0 | ⟨cs, h1, h2⟩
  · have h0 : z = .any := h0
    rw [h0] at hz; cases hz
  · refine ⟨cs, fun w F => flatZ_rep z cs h1, fun w' => ?_⟩
    cases hi : P.info? t with
    | none => rw [hi] at h2; cases h2
    | some i =>
      rw [hi] at h2
      have hz2 : i.zero = some (ofCells z cs) := h2
      simp [zeroValue, typeInfo, hi, hz2]
theorem o_assertF (hT : TTOk P T) (hw : gval ops ⟨n, sl, hp⟩ gd = gwant gd) {xt t t' : Nat} {x : Operand} {y : AV} {k : TK} {sz by_ : Nat} {z : AV} (hx : ev ⟨n, sl, hp⟩ x = .ifc t' y) (hne : Nat.beq t' t = false) (ht : tget T t = some ⟨k, sz, by_, z⟩) (hz : z.isVal = true) (hk : k.isIface = false) (hd : Nat.blt d n = true)
    (h : Ops m P C ops l ⟨n, (d, .tup [z, .b false]) :: sl, hp⟩ K) : Ops m P C ops (⟨some d, .typeAssert x xt t true, ty, pos, aft, gd⟩ :: l) ⟨n, sl, hp⟩ K := by
  refine Ops.by (d := some d) hw none okc_none hd rfl (fun a w hs => ?_) h
  have E := ev_rep hs x
  rw [hx] at E
  obtain ⟨_, ⟨vs, rfl, h1⟩, h2⟩ := E
  have h2 : a.eval x = .iface t' (ofCells y vs) := h2
  obtain ⟨zs, hzr, hzv⟩ := zero_run (tget_ok hT ht) hz
  refine ⟨.tuple #[ofCells z zs, .bool false], ⟨[ofCells z zs, .bool false], rfl, rfl, fun i b u hb hu => ?_⟩, fun w' _ => ?_⟩
  · match i with
    | 0 => simp at hb hu; subst hb; subst hu; exact .inr ⟨zs, hzr _ _, rfl⟩
    | 1 => simp at hb hu; subst hb; subst hu; exact .inr ⟨_, rfl, rfl⟩
    | j + 2 => simp at hb
  obtain ⟨dd, hu, hn⟩ := not_iface (tget_ok hT ht) hk
  have htt : ¬ t' = t := fun he => by rw [he] at hne; simp at hne
  simp only [execOp, Instr.typeAssert, Sem.run_bind, run_underlying hu, Result.andThen_ok, h2]
  cases dd <;> first | (simp [htt, hzv, Result.andThen]; done) | exact absurd rfl (hn _)
theorem CLe.ifc {fr : Fr} {t : Nat} {a b : AV} (h : CLe fr a b) : CLe fr (.ifc t a) (.ifc t b) := ⟨fun w F cs hf h1 => by
  simp only [repC] at h1 ⊢
  obtain ⟨vs, rfl, h3⟩ := h1
  have h4 := h.1 w F _ hf h3
  refine ⟨vs, ?_, h4⟩
  unfold ofCells
  rw [h.2], rfl⟩
end
end Go.Proofs.YtcmgpkibjdbonaaGreat
set_option maxHeartbeats 8000000
set_option maxRecDepth 100000
namespace Go.Proofs.YtcmgpkibjdbonaaGreat
open Go Go.RowKit
def leafN (x : Lef) : AV := .ifc 46 x.A
def innN (x y : Itm) : AV := .ifc 52 (.agg [x.A, y.A])
def chkLf (x : Lef) : Int := if x.t < 0 ∨ 1073741824 < x.t then 1 else 0
def chkN (x y : Itm) : Int := if goodI x = true ∧ goodI y = true then (if x.n ≤ (comL x.l y.l : Nat) ∨ y.n ≤ (comL x.l y.l : Nat) ∨ 0 < cmpS x.l y.l then 3 else 0) else 1
theorem ncheckL_spec (x : Lef) : Spec Tryz.prog 82 [leafN x] [] (fun v os => v = .i .i64 (chkLf x) ∧ os = []) := by
  obtain ⟨l, u, t⟩ := x
  show Spec Tryz.prog 82 [.ifc 46 (.agg [labA l, labA u, .i .i64 t])] [] (fun v os => v = .i .i64 (if t < 0 ∨ 1073741824 < t then 1 else 0) ∧ os = [])
  refine spec_of TtOk [] Tryz.func82 rfl Tryz.ntmps82 (by kernel_rfl) rfl rfl (fun C => ?_) rfl
  by_cases h : t < 0 ∨ 1073741824 < t
  · rw [if_pos h]
    repeat' (first | refine Awp.seq ?_ | refine Awp.block ?_ | refine Awp.region ?_ | refine Ops.nil (nqA ?_) | refine Awp.ret (nqE ?_) | refine o_noF rfl rfl rfl ?_ | (refine o_calm rfl TtOk rfl rfl rfl ?_ (fun _ => ?_); exact nd) | refine o_alloc (d := 3) rfl TtOk rfl rfl rfl (fun b3 => ?_) | refine o_store TtOk rfl rfl rfl rfl rfl rfl rfl ⟨rfl, rfl⟩ rfl rfl rfl rfl rfl ?_ | (fail_if_success (refine o_isLit rfl (by first | exact .inl rfl | exact .inr rfl) ?_)); (refine o_splitP rfl rfl (fun hc => ?_) (fun hc => ?_) <;> try (exfalso; omega)) | refine a_condT rfl ?_ | (refine a_condP rfl (fun hc => ?_) (fun hc => ?_)) <;> (try (exfalso; omega)) | (refine o_assertT TtOk rfl rfl rfl rfl rfl rfl ?_))
    all_goals exact nq2
  · rw [if_neg h]
    repeat' (first | refine Awp.seq ?_ | refine Awp.block ?_ | refine Awp.region ?_ | refine Ops.nil (nqA ?_) | refine Awp.skip (nqA ?_) | refine Awp.ret (nqE ?_) | (refine o_calm rfl TtOk rfl rfl rfl ?_ (fun _ => ?_); exact nd) | refine o_alloc (d := 3) rfl TtOk rfl rfl rfl (fun b3 => ?_) | refine o_store TtOk rfl rfl rfl rfl rfl rfl rfl ⟨rfl, rfl⟩ rfl rfl rfl rfl rfl ?_ | (fail_if_success (refine o_isLit rfl (by first | exact .inl rfl | exact .inr rfl) ?_)); (refine o_splitP rfl rfl (fun hc => ?_) (fun hc => ?_) <;> try (exfalso; omega)) | refine a_condT rfl ?_ | (refine a_condP rfl (fun hc => ?_) (fun hc => ?_)) <;> (try (exfalso; omega)) | (refine o_assertT TtOk rfl rfl rfl rfl rfl rfl ?_))
    all_goals exact nq2
theorem ncheckI_spec (x y : Itm) (hx : x.ok) (hy : y.ok) : Spec Tryz.prog 82 [innN x y] [] (fun v os => v = .i .i64 (chkN x y) ∧ os = []) := by
  have h1 := ngood_spec x hx
  have h2 := ngood_spec y hy
  have h3 := bcommon_spec x.l y.l hx.1 hy.1
  have h4 := border_spec x.l y.l
  unfold chkN
  generalize goodI x = u at h1 ⊢
  generalize goodI y = v at h2 ⊢
  generalize comL x.l y.l = c at h3 ⊢
  generalize cmpS x.l y.l = o at h4 ⊢
  obtain ⟨n, l, s1, t⟩ := x
  obtain ⟨n2, l2, s2, t2⟩ := y
  dsimp only at h3 h4 ⊢
  have h1 : Spec Tryz.prog 116 [.agg [pfxA n l, labA s1, .i .i64 t]] [] (fun v os => v = .b u ∧ os = []) := h1
  have h2 : Spec Tryz.prog 116 [.agg [pfxA n2 l2, labA s2, .i .i64 t2]] [] (fun w os => w = .b v ∧ os = []) := h2
  show Spec Tryz.prog 82 [.ifc 52 (.agg [.agg [pfxA n l, labA s1, .i .i64 t], .agg [pfxA n2 l2, labA s2, .i .i64 t2]])] [] _
  refine spec_of TtOk [] Tryz.func82 rfl Tryz.ntmps82 (by kernel_rfl) rfl rfl (fun C => ?_) rfl
  cases u
  · rw [if_neg (by simp)]
    repeat' (first | refine Awp.seq ?_ | refine Awp.block ?_ | refine Awp.region ?_ | refine Ops.nil (nqA ?_) | refine Awp.ret (nqE ?_) | refine o_noF rfl rfl rfl ?_ | (refine o_calm rfl TtOk rfl rfl rfl ?_ (fun _ => ?_); exact nd) | refine o_alloc (d := 4) rfl TtOk rfl rfl rfl (fun b4 => ?_) | refine o_store TtOk rfl rfl rfl rfl rfl rfl rfl ⟨rfl, rfl⟩ rfl rfl rfl rfl rfl ?_ | refine a_condT rfl ?_ | refine a_condF rfl ?_ | (refine o_assertT TtOk rfl rfl rfl rfl rfl rfl ?_) | (refine o_assertF TtOk rfl rfl rfl rfl rfl rfl rfl ?_) | refine o_callE rfl (h1) ⟨nqS, True.intro⟩ rfl ?_)
    all_goals exact nq2
  cases v
  · rw [if_neg (by simp)]
    repeat' (first | refine Awp.seq ?_ | refine Awp.block ?_ | refine Awp.region ?_ | refine Ops.nil (nqA ?_) | refine Awp.ret (nqE ?_) | (refine o_calm rfl TtOk rfl rfl rfl ?_ (fun _ => ?_); exact nd) | refine o_alloc (d := 4) rfl TtOk rfl rfl rfl (fun b4 => ?_) | refine o_store TtOk rfl rfl rfl rfl rfl rfl rfl ⟨rfl, rfl⟩ rfl rfl rfl rfl rfl ?_ | refine a_condT rfl ?_ | refine a_condF rfl ?_ | (refine o_assertT TtOk rfl rfl rfl rfl rfl rfl ?_) | (refine o_assertF TtOk rfl rfl rfl rfl rfl rfl rfl ?_) | refine o_callE rfl (h1) ⟨nqS, True.intro⟩ rfl ?_ | refine o_callE rfl (h2) ⟨nqS, True.intro⟩ rfl ?_)
    all_goals exact nq2
  rw [if_pos ⟨rfl, rfl⟩]
  by_cases hc : n ≤ (c : Nat) ∨ n2 ≤ (c : Nat) ∨ 0 < o
  · rw [if_pos hc]
    repeat' (first | refine Awp.seq ?_ | refine Awp.block ?_ | refine Awp.region ?_ | refine Ops.nil (nqA ?_) | refine Awp.skip (nqA ?_) | refine Awp.ret (nqE ?_) | refine o_noF rfl rfl rfl ?_ | (refine o_calm rfl TtOk rfl rfl rfl ?_ (fun _ => ?_); exact nd) | refine o_alloc (d := 4) rfl TtOk rfl rfl rfl (fun b4 => ?_) | refine o_alloc (d := 5) rfl TtOk rfl rfl rfl (fun b5 => ?_) | refine o_alloc (d := 6) rfl TtOk rfl rfl rfl (fun b6 => ?_) | refine o_store TtOk rfl rfl rfl rfl rfl rfl rfl ⟨rfl, rfl⟩ rfl rfl rfl rfl rfl ?_ | (fail_if_success (refine o_isLit rfl (by first | exact .inl rfl | exact .inr rfl) ?_)); (refine o_splitP rfl rfl (fun hc => ?_) (fun hc => ?_) <;> try (exfalso; omega)) | refine a_condT rfl ?_ | refine a_condF rfl ?_ | (refine a_condP rfl (fun hc => ?_) (fun hc => ?_)) <;> (try (exfalso; omega)) | (refine Ops.nil ?_; show AnyT _ _ _ _ _ _ _ _ _ _) | refine a_anyT 11 [5, 6] [35] [5, 6] (by kernel_rfl) (by kernel_rfl) (n := 10) (listed := [false, false, false, false, false, false, false, false, false, false].toArray) rfl (by kernel_rfl) ?_ | refine t_path (n := 10) (listed := [false, false, false, false, false, false, false, false, false, false].toArray) [0, 1, 3, 4, 2, 5] 4 [true, true, true, true, true, true, false, false, false, false] (by kernel_rfl) rfl rfl rfl (by kernel_rfl) ?_ | refine t_two (n := 4) (listed := [true, true, true, true, true, true, false, false, false, false].toArray) 6 7 [true, true, true, true, true, true, true, false, false, false] [true, true, true, true, true, true, false, true, false, false] rfl (by kernel_rfl) rfl rfl (by kernel_rfl) (by kernel_rfl) ?_ ?_ | refine t_path (n := 3) (listed := [true, true, true, true, true, true, true, false, false, false].toArray) [7, 8, 9] 0 [true, true, true, true, true, true, true, true, true, true] (by kernel_rfl) rfl rfl rfl (by kernel_rfl) ?_ | refine t_fin (n := 0) (listed := [true, true, true, true, true, true, true, true, true, true].toArray) (by kernel_rfl) ?_ | refine t_path (n := 3) (listed := [true, true, true, true, true, true, false, true, false, false].toArray) [6, 8, 9] 0 [true, true, true, true, true, true, true, true, true, true] (by kernel_rfl) rfl rfl rfl (by kernel_rfl) ?_ | (refine o_assertT TtOk rfl rfl rfl rfl rfl rfl ?_) | (refine o_assertF TtOk rfl rfl rfl rfl rfl rfl rfl ?_) | refine o_callE rfl (h1) ⟨nqS, True.intro⟩ rfl ?_ | refine o_callE rfl (h2) ⟨nqS, True.intro⟩ rfl ?_ | refine o_callE rfl (h3) ⟨nqS, nqS, True.intro⟩ rfl ?_ | refine o_callE rfl (h4) ⟨nqS, nqS, True.intro⟩ rfl ?_)
    all_goals exact nq2
  · rw [if_neg hc]
    repeat' (first | refine Awp.seq ?_ | refine Awp.block ?_ | refine Awp.region ?_ | refine Ops.nil (nqA ?_) | refine Awp.skip (nqA ?_) | refine Awp.ret (nqE ?_) | (refine o_calm rfl TtOk rfl rfl rfl ?_ (fun _ => ?_); exact nd) | refine o_alloc (d := 4) rfl TtOk rfl rfl rfl (fun b4 => ?_) | refine o_alloc (d := 5) rfl TtOk rfl rfl rfl (fun b5 => ?_) | refine o_alloc (d := 6) rfl TtOk rfl rfl rfl (fun b6 => ?_) | refine o_store TtOk rfl rfl rfl rfl rfl rfl rfl ⟨rfl, rfl⟩ rfl rfl rfl rfl rfl ?_ | (fail_if_success (refine o_isLit rfl (by first | exact .inl rfl | exact .inr rfl) ?_)); (refine o_splitP rfl rfl (fun hc => ?_) (fun hc => ?_) <;> try (exfalso; omega)) | refine a_condT rfl ?_ | refine a_condF rfl ?_ | (refine a_condP rfl (fun hc => ?_) (fun hc => ?_)) <;> (try (exfalso; omega)) | (refine Ops.nil ?_; show AnyT _ _ _ _ _ _ _ _ _ _) | refine a_anyT 11 [5, 6] [35] [5, 6] (by kernel_rfl) (by kernel_rfl) (n := 10) (listed := [false, false, false, false, false, false, false, false, false, false].toArray) rfl (by kernel_rfl) ?_ | refine t_path (n := 10) (listed := [false, false, false, false, false, false, false, false, false, false].toArray) [0, 1, 3, 4, 2, 5] 4 [true, true, true, true, true, true, false, false, false, false] (by kernel_rfl) rfl rfl rfl (by kernel_rfl) ?_ | refine t_two (n := 4) (listed := [true, true, true, true, true, true, false, false, false, false].toArray) 6 7 [true, true, true, true, true, true, true, false, false, false] [true, true, true, true, true, true, false, true, false, false] rfl (by kernel_rfl) rfl rfl (by kernel_rfl) (by kernel_rfl) ?_ ?_ | refine t_path (n := 3) (listed := [true, true, true, true, true, true, true, false, false, false].toArray) [7, 8, 9] 0 [true, true, true, true, true, true, true, true, true, true] (by kernel_rfl) rfl rfl rfl (by kernel_rfl) ?_ | refine t_fin (n := 0) (listed := [true, true, true, true, true, true, true, true, true, true].toArray) (by kernel_rfl) ?_ | refine t_path (n := 3) (listed := [true, true, true, true, true, true, false, true, false, false].toArray) [6, 8, 9] 0 [true, true, true, true, true, true, true, true, true, true] (by kernel_rfl) rfl rfl rfl (by kernel_rfl) ?_ | (refine o_assertT TtOk rfl rfl rfl rfl rfl rfl ?_) | (refine o_assertF TtOk rfl rfl rfl rfl rfl rfl rfl ?_) | refine o_callE rfl (h1) ⟨nqS, True.intro⟩ rfl ?_ | refine o_callE rfl (h2) ⟨nqS, True.intro⟩ rfl ?_ | refine o_callE rfl (h3) ⟨nqS, nqS, True.intro⟩ rfl ?_ | refine o_callE rfl (h4) ⟨nqS, nqS, True.intro⟩ rfl ?_)
    all_goals exact nq2
def lef0 : Lef := ⟨List.replicate 32 0, List.replicate 32 0, 0⟩
def itm0 : Itm := ⟨0, List.replicate 32 0, List.replicate 32 0, 0⟩
theorem asLeafT_spec (x : Lef) : Spec Tryz.prog 133 [leafN x] [] (fun v os => v = .tup [x.A, .b true] ∧ os = []) := by
  obtain ⟨l, u, t⟩ := x
  show Spec Tryz.prog 133 [.ifc 46 (.agg [labA l, labA u, .i .i64 t])] [] (fun v os => v = .tup [.agg [labA l, labA u, .i .i64 t], .b true] ∧ os = [])
  refine spec_of TtOk [] Tryz.func133 rfl Tryz.ntmps133 (by kernel_rfl) rfl rfl (fun C => ?_) rfl
  repeat' (first | refine Awp.seq ?_ | refine Awp.region ?_ | refine Ops.nil (nqA ?_) | refine Awp.ret (nqE ?_) | (refine o_calm rfl TtOk rfl rfl rfl ?_ (fun _ => ?_); exact nd) | refine o_alloc (d := 2) rfl TtOk rfl rfl rfl (fun b2 => ?_) | refine o_alloc (d := 4) rfl TtOk rfl rfl rfl (fun b4 => ?_) | refine o_store TtOk rfl rfl rfl rfl rfl rfl rfl ⟨rfl, rfl⟩ rfl rfl rfl rfl rfl ?_ | (refine o_assertT TtOk rfl rfl rfl rfl rfl rfl ?_))
  refine end_all [] [] (.tup [.agg [labA l, labA u, .i .i64 t], .b true]) rfl ?_ ?_ (rle_tup2 (CLe.of_eq rfl) (CLe.of_eq rfl) rfl rfl) .nil ⟨rfl, rfl⟩ _ (.inl rfl)
  · exact nq1
  · exact ⟨trivial, trivial, trivial⟩
theorem asLeafF_spec (x y : Itm) : Spec Tryz.prog 133 [innN x y] [] (fun v os => v = .tup [lef0.A, .b false] ∧ os = []) := by
  show Spec Tryz.prog 133 [.ifc 52 (.agg [x.A, y.A])] [] (fun v os => v = .tup [.agg [.arr 1 32 (List.replicate 32 (.i .u8 0)), .arr 1 32 (List.replicate 32 (.i .u8 0)), .i .i64 0], .b false] ∧ os = [])
  refine spec_of TtOk [] Tryz.func133 rfl Tryz.ntmps133 (by kernel_rfl) rfl rfl (fun C => ?_) rfl
  repeat' (first | refine Awp.seq ?_ | refine Awp.region ?_ | refine Ops.nil (nqA ?_) | refine Awp.ret (nqE ?_) | (refine o_calm rfl TtOk rfl rfl rfl ?_ (fun _ => ?_); exact nd) | refine o_alloc (d := 2) rfl TtOk rfl rfl rfl (fun b2 => ?_) | refine o_alloc (d := 4) rfl TtOk rfl rfl rfl (fun b4 => ?_) | refine o_store TtOk rfl rfl rfl rfl rfl rfl rfl ⟨rfl, rfl⟩ rfl rfl rfl rfl rfl ?_ | (refine o_assertF TtOk rfl rfl rfl rfl rfl rfl rfl ?_))
  refine end_all [] [] (.tup [.agg [.arr 1 32 (List.replicate 32 (.i .u8 0)), .arr 1 32 (List.replicate 32 (.i .u8 0)), .i .i64 0], .b false]) rfl ?_ ?_ (rle_tup2 (CLe.of_eq rfl) (CLe.of_eq rfl) rfl rfl) .nil ⟨rfl, rfl⟩ _ (.inl rfl)
  · exact nq1
  · exact ⟨trivial, trivial, trivial⟩
def itmZ : AV := .agg [.agg [.i .i64 0, .arr 1 32 (List.replicate 32 (.i .u8 0))], .arr 1 32 (List.replicate 32 (.i .u8 0)), .i .i64 0]
theorem asInnT_spec (x y : Itm) : Spec Tryz.prog 134 [innN x y] [] (fun v os => v = .tup [.agg [x.A, y.A], .b true] ∧ os = []) := by
  obtain ⟨n, l, s1, t⟩ := x
  obtain ⟨n2, l2, s2, t2⟩ := y
  show Spec Tryz.prog 134 [.ifc 52 (.agg [.agg [pfxA n l, labA s1, .i .i64 t], .agg [pfxA n2 l2, labA s2, .i .i64 t2]])] [] (fun v os => v = .tup [.agg [.agg [pfxA n l, labA s1, .i .i64 t], .agg [pfxA n2 l2, labA s2, .i .i64 t2]], .b true] ∧ os = [])
  refine spec_of TtOk [] Tryz.func134 rfl Tryz.ntmps134 (by kernel_rfl) rfl rfl (fun C => ?_) rfl
  repeat' (first | refine Awp.seq ?_ | refine Awp.region ?_ | refine Ops.nil (nqA ?_) | refine Awp.ret (nqE ?_) | (refine o_calm rfl TtOk rfl rfl rfl ?_ (fun _ => ?_); exact nd) | refine o_alloc (d := 2) rfl TtOk rfl rfl rfl (fun b2 => ?_) | refine o_alloc (d := 4) rfl TtOk rfl rfl rfl (fun b4 => ?_) | refine o_store TtOk rfl rfl rfl rfl rfl rfl rfl ⟨rfl, rfl⟩ rfl rfl rfl rfl rfl ?_ | (refine o_assertT TtOk rfl rfl rfl rfl rfl rfl ?_))
  refine end_all [] [] (.tup [.agg [.agg [pfxA n l, labA s1, .i .i64 t], .agg [pfxA n2 l2, labA s2, .i .i64 t2]], .b true]) rfl ?_ ?_ (rle_tup2 (CLe.of_eq rfl) (CLe.of_eq rfl) rfl rfl) .nil ⟨rfl, rfl⟩ _ (.inl rfl)
  · exact nq1
  · exact ⟨trivial, trivial, trivial⟩
theorem asInnF_spec (x : Lef) : Spec Tryz.prog 134 [leafN x] [] (fun v os => v = .tup [.agg [itm0.A, itm0.A], .b false] ∧ os = []) := by
  show Spec Tryz.prog 134 [.ifc 46 x.A] [] (fun v os => v = .tup [.agg [itmZ, itmZ], .b false] ∧ os = [])
  refine spec_of TtOk [] Tryz.func134 rfl Tryz.ntmps134 (by kernel_rfl) rfl rfl (fun C => ?_) rfl
  repeat' (first | refine Awp.seq ?_ | refine Awp.region ?_ | refine Ops.nil (nqA ?_) | refine Awp.ret (nqE ?_) | (refine o_calm rfl TtOk rfl rfl rfl ?_ (fun _ => ?_); exact nd) | refine o_alloc (d := 2) rfl TtOk rfl rfl rfl (fun b2 => ?_) | refine o_alloc (d := 4) rfl TtOk rfl rfl rfl (fun b4 => ?_) | refine o_store TtOk rfl rfl rfl rfl rfl rfl rfl ⟨rfl, rfl⟩ rfl rfl rfl rfl rfl ?_ | (refine o_assertF TtOk rfl rfl rfl rfl rfl rfl rfl ?_))
  refine end_all [] [] (.tup [.agg [itmZ, itmZ], .b false]) rfl ?_ ?_ (rle_tup2 (CLe.of_eq rfl) (CLe.of_eq rfl) rfl rfl) .nil ⟨rfl, rfl⟩ _ (.inl rfl)
  · exact nq1
  · exact ⟨trivial, trivial, trivial⟩
end Go.Proofs.YtcmgpkibjdbonaaGreat
