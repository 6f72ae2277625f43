/- ref16.Join, Top by rules: of rising items. -/
import Derived.Test.YtcmgpkibjdbonaaGreatSR4Z
set_option maxHeartbeats 8000000
set_option maxRecDepth 100000
namespace Go.Proofs.YtcmgpkibjdbonaaGreat
open Go Go.RowKit
theorem com_mono {a b c : List UInt8} (ha : a.length = 32) (hb : b.length = 32) (hc : c.length = 32) (h : cmpS a b < 0) (k : cmpS b c < 0) : comL a c ≤ comL a b :=
  (com_ge ha hb (comL_256 ha)).2 (fun i hi => (between ha hb hc h k i hi).symm)
/-- The least that is in common with the first one, of so many. -/
def minC (l : List Itm) (i : Nat) : Nat := if i = 0 then 256 else comL (l.headD default).l ((l.getD (i - 1) default).l)
theorem minC_succ {l : List Itm} (hr : RiseI l) (hok : ∀ x ∈ l, x.ok) {i : Nat} (hi : i < l.length) : (if ((comL (l.headD default).l l[i].l : Nat) : Int) < ((minC l i : Nat) : Int) then ((comL (l.headD default).l l[i].l : Nat) : Int) else ((minC l i : Nat) : Int)) = ((minC l (i + 1) : Nat) : Int) := by
  have h0 : 0 < l.length := by omega
  have e1 : minC l (i + 1) = comL (l.headD default).l l[i].l := by
    unfold minC
    rw [if_neg (by omega), Nat.add_sub_cancel, List.getD_eq_getElem?_getD, List.getElem?_eq_getElem hi]; rfl
  have hh : l.headD default = l[0] := headD_get h0
  rw [e1]
  have o0 := (hok _ (List.getElem_mem h0)).1
  have hle : comL (l.headD default).l l[i].l ≤ minC l i := by
    unfold minC
    split
    · rw [hh]; exact comL_256 o0
    · rename_i hne
      have e2 : (l.getD (i - 1) default) = l[i - 1]'(by omega) := by rw [List.getD_eq_getElem?_getD, List.getElem?_eq_getElem (by omega)]; rfl
      rw [e2, hh]
      rcases Nat.eq_zero_or_pos (i - 1) with h1 | h1
      · have : l[i - 1]'(by omega) = l[0] := by congr 1
        rw [this, com_self, o0]
        exact comL_256 o0
      · exact com_mono o0 (hok _ (List.getElem_mem _)).1 (hok _ (List.getElem_mem _)).1 (rise_lt hr h1 (by omega)) (rise_lt hr (by omega) hi)
  split <;> omega
theorem minC_all {l : List Itm} (h : 2 ≤ l.length) : minC l l.length = frkI l := by
  unfold minC frkI
  rw [if_neg (by omega), lastD_get (by omega), List.getD_eq_getElem?_getD, List.getElem?_eq_getElem (by omega)]; rfl
theorem filt_lo {l : List Itm} (hr : RiseI l) (hok : ∀ x ∈ l, x.ok) (h2 : 2 ≤ l.length) : l.filter (fun x => bitL x.l (frkI l) == 0) = l.take (splI l) ∧ l.filter (fun x => !(bitL x.l (frkI l) == 0)) = l.drop (splI l) := by
  obtain ⟨c1, c2, c3, c4⟩ := spl_ok hr hok h2
  have hlo : ∀ x ∈ l.take (splI l), bitL x.l (frkI l) = 0 := fun x hx => by
    obtain ⟨j, hj, rfl⟩ := List.getElem_of_mem hx
    rw [List.length_take] at hj
    rw [List.getElem_take]
    exact spl_lo j (by omega) (by omega)
  have hhi : ∀ x ∈ l.drop (splI l), bitL x.l (frkI l) = 1 := fun x hx => by
    obtain ⟨j, hj, rfl⟩ := List.getElem_of_mem hx
    rw [List.length_drop] at hj
    rw [List.getElem_drop]
    exact spl_hi hr hok h2 _ (by omega) (by omega)
  generalize frkI l = n at *
  generalize splI l = s at *
  have e : l = l.take s ++ l.drop s := (List.take_append_drop s l).symm
  constructor
  · conv => lhs; rw [e]
    rw [List.filter_append, List.filter_eq_self.2 (fun x hx => by rw [hlo x hx]; rfl), List.filter_eq_nil_iff.2 (fun x hx => by rw [hhi x hx]; decide), List.append_nil]
  · conv => lhs; rw [e]
    rw [List.filter_append, List.filter_eq_nil_iff.2 (fun x hx => by rw [hlo x hx]; decide), List.filter_eq_self.2 (fun x hx => by rw [hhi x hx]; rfl), List.nil_append]
theorem filt_succ {α : Type} (p : α → Bool) (l : List α) {i : Nat} (hi : i < l.length) : (l.take (i + 1)).filter p = if p l[i] = true then (l.take i).filter p ++ [l[i]] else (l.take i).filter p := by
  rw [List.take_succ_eq_append_getElem hi, List.filter_append]
  by_cases h : p l[i] = true
  · rw [if_pos h, List.filter_cons_of_pos h, List.filter_nil]
  · rw [if_neg h, List.filter_cons_of_neg h, List.filter_nil, List.append_nil]
theorem rjoin_spec : ∀ (k : Nat) (l : List Itm), l ≠ [] → l.length ≤ k → l.length ≤ 100000 → RiseI l → (∀ x ∈ l, x.ok) → Spec Tryz.prog 64 [.sl 66 (l.map Itm.R)] [] (fun v os => v = (joinF k l).R ∧ os = [])
  | 0, l, hn, hl, _, _, _ => absurd (List.length_eq_zero_iff.1 (by omega)) hn
  | k + 1, l, hn, hl, hl2, hr, hok => by
    have hp : 0 < l.length := List.length_pos_iff.2 hn
    unfold joinF
    refine spec_of TtOk [] Tryz.func64 rfl Tryz.ntmps64 (by kernel_rfl) rfl rfl (fun C => ?_) rfl
    by_cases h1 : l.length = 1
    · rw [if_pos h1, headD_get hp]
      repeat' (first | refine Awp.seq ?_ | refine Awp.region ?_ | refine Ops.nil (nqA ?_) | refine Awp.ret (nqE ?_) | refine o_len rfl TtOk rfl rfl rfl (fun _ => ?_) | (refine o_calm rfl TtOk rfl rfl rfl ?_ (fun _ => ?_); exact nd) | refine o_alloc (d := 2) rfl TtOk rfl rfl rfl (fun b2 => ?_) | refine o_store TtOk rfl rfl rfl rfl rfl rfl rfl ⟨rfl, rfl⟩ rfl rfl rfl rfl rfl ?_ | (refine o_index rfl TtOk rfl rfl rfl rfl rfl rfl ?_ (getq_nat ?_) ?_; omega; omega) | (refine a_condP rfl (fun hc => ?_) (fun hc => ?_)) <;> (try (exfalso; omega)))
      refine end_all [] [] (l[0].R) rfl ?_ ?_ (rle_one (CLe.of_eq rfl) rfl) .nil ⟨rfl, rfl⟩ _ (.inl rfl)
      · exact nq1
      · exact ⟨trivial, trivial⟩
    rw [if_neg h1]
    have hl2' : 2 ≤ l.length := by omega
    obtain ⟨hf, s1, s2, s3⟩ := spl_ok hr hok hl2'
    obtain ⟨f1, f2⟩ := filt_lo hr hok hl2'
    have n1 : l.take (splI l) ≠ [] := take_ne s1 s2
    have n2 : l.drop (splI l) ≠ [] := drop_ne s2
    have r1 : RiseI (l.take (splI l)) := hr.sublist (List.take_sublist ..)
    have r2 : RiseI (l.drop (splI l)) := hr.sublist (List.drop_sublist ..)
    have k1 : ∀ x ∈ l.take (splI l), x.ok := fun x hx => hok x (List.mem_of_mem_take hx)
    have k2 : ∀ x ∈ l.drop (splI l), x.ok := fun x hx => hok x (List.mem_of_mem_drop hx)
    have l1 : (l.take (splI l)).length ≤ k := by rw [List.length_take]; omega
    have l2 : (l.drop (splI l)).length ≤ k := by rw [List.length_drop]; omega
    have j1 := rjoin_spec k (l.take (splI l)) n1 l1 (by rw [List.length_take]; omega) r1 k1
    have j2 := rjoin_spec k (l.drop (splI l)) n2 l2 (by rw [List.length_drop]; omega) r2 k2
    have i1 := rinner_spec _ _ (joinF_ok k _ n1 l1 r1 k1) (joinF_ok k _ n2 l2 r2 k2)
    generalize joinF k (l.take (splI l)) = x at j1 i1 ⊢
    generalize joinF k (l.drop (splI l)) = y at j2 i1 ⊢
    rw [← f1] at j1
    rw [← f2] at j2
    clear r1 r2 k1 k2 l1 l2 n1 n2 f1 f2 s3
    repeat' (first | refine Awp.seq ?_ | refine Awp.block ?_ | refine Awp.region ?_ | refine Ops.nil (nqA ?_) | refine Awp.skip (nqA ?_) | refine o_len rfl TtOk rfl rfl rfl (fun _ => ?_) | (refine o_calm rfl TtOk rfl rfl rfl ?_ (fun _ => ?_); exact nd) | refine o_alloc (d := 2) rfl TtOk rfl rfl rfl (fun b2 => ?_) | (refine a_condP rfl (fun hc => ?_) (fun hc => ?_)) <;> (try (exfalso; omega)))
    refine Awp.loop (fun i : Nat => ⟨64, [(18, .i .i64 i), (17, .i .i64 l.length), (16, .sl 66 (l.map Itm.R)), (3, .i .i64 (minC l i : Nat)), (0, .sl 66 (l.map Itm.R)), (2, .ptr 2 b2 [] 0)], [(2, .var b2 (.agg [.i .i64 0, .arr 1 32 (List.replicate 32 (.i .u8 0)), .arr 1 32 (List.replicate 32 (.i .u8 0)), .i .i64 0]))]⟩) (fun i => i ≤ l.length) (fun i => l.length - i) [] 0 (Nat.zero_le _) ?_ ?_
    · exact ⟨rfl, ⟨sle_i rfl, sle_i rfl, sle_sl rfl, sle_i rfl, sle_sl rfl, sle_ptr, True.intro⟩, HLe.cons 2 rfl (HOLe.refl _) .nil⟩
    intro i hi
    by_cases hlt : i < l.length
    · have hcm := rcommon_spec (l[0]'hp).l l[i].l (hok _ (List.getElem_mem hp)).1 (hok _ (List.getElem_mem hlt)).1
      have hms := minC_succ hr hok hlt
      rw [headD_get hp] at hms
      have hi1 : ((i : Int) + 1 = ((i + 1 : Nat) : Int)) := by omega
      generalize comL (l[0]'hp).l l[i].l = c at hcm hms
      clear j1 j2 i1
      generalize ((minC l i : Nat) : Int) = m at hms ⊢
      repeat' (first | refine Awp.seq ?_ | refine Awp.block ?_ | refine Awp.region ?_ | refine Ops.nil (nqA ?_) | refine Ops.nil (nqX ?_) | refine Awp.skip (nqA ?_) | (refine o_add rfl rfl rfl rfl ?_ ?_; omega) | (refine o_calm rfl TtOk rfl rfl rfl ?_ (fun _ => ?_); exact nd) | refine o_alloc (d := 5) rfl TtOk rfl rfl rfl (fun b5 => ?_) | refine o_store TtOk rfl rfl rfl rfl rfl rfl rfl ⟨rfl, rfl⟩ rfl rfl rfl rfl rfl ?_ | (refine o_index rfl TtOk rfl rfl rfl rfl rfl rfl ?_ (getq_nat ?_) ?_; omega; omega) | (refine a_condP rfl (fun hc => ?_) (fun hc => ?_)) <;> (try (exfalso; omega)) | refine a_any 7 [] [] [] [0, 1, 2, 3, 5, 4, 6, 7, 8, 9] (by kernel_rfl) (by kernel_rfl) (by kernel_rfl) rfl rfl rfl ?_ | refine o_callE rfl (hcm) ⟨nqS, nqS, True.intro⟩ rfl ?_)
      exact ⟨i + 1, [], hlt, by omega, rfl, ⟨sle_i hi1, sle_i rfl, sle_sl rfl, sle_i hms, sle_sl rfl, sle_ptr, True.intro⟩, HLe.cons 2 rfl (HOLe.refl _) .nil⟩
    · have hie : i = l.length := by omega
      subst hie
      have hma := minC_all hl2'
      rw [hma]
      have hbt : ∀ (i : Nat) (h : i < l.length), Spec Tryz.prog 93 [labA l[i].l, .i .i64 (frkI l : Nat)] [] (fun v os => v = .i .i64 (bitL l[i].l (frkI l) : Nat) ∧ os = []) := fun i h => rbit_spec _ (hok _ (List.getElem_mem h)).1 _ hf
      have hfs := fun (p : Itm → Bool) (i : Nat) (h : i < l.length) => filt_succ p l h
      have hfl : ∀ (p : Itm → Bool) (i : Nat), ((l.take i).filter p).length ≤ l.length := fun p i => Nat.le_trans (List.length_filter_le ..) (by rw [List.length_take]; omega)
      clear hma
      generalize frkI l = n at *
      repeat' (first | refine Awp.seq ?_ | refine Awp.block ?_ | refine Awp.region ?_ | refine Ops.nil (nqA ?_) | refine Awp.skip (nqA ?_) | refine Awp.exit (nqA ?_) | refine o_len rfl TtOk rfl rfl rfl (fun _ => ?_) | (refine o_calm rfl TtOk rfl rfl rfl ?_ (fun _ => ?_); exact nd) | refine o_buildSlice (d := 37) TtOk rfl rfl rfl rfl rfl rfl rfl rfl rfl rfl rfl nq1 (fun v37 => ?_) | refine o_buildSlice (d := 38) TtOk rfl rfl rfl rfl rfl rfl rfl rfl rfl rfl rfl nq1 (fun v38 => ?_) | (refine a_condP rfl (fun hc => ?_) (fun hc => ?_)) <;> (try (exfalso; omega)))
      refine Awp.loop (fun q : Nat × Value × Value => ⟨64, [(41, .i .i64 q.1), (40, .i .i64 l.length), (39, .sl 66 (l.map Itm.R)), (3, .i .i64 (n : Nat)), (6, .own 37 q.2.1), (7, .own 38 q.2.2), (2, .ptr 2 b2 [] 0)], [(37, .row q.2.1 62 66 (((l.take q.1).filter (fun x => bitL x.l n == 0)).map Itm.R)), (38, .row q.2.2 62 66 (((l.take q.1).filter (fun x => !(bitL x.l n == 0))).map Itm.R)), (2, .var b2 (.agg [.i .i64 0, .arr 1 32 (List.replicate 32 (.i .u8 0)), .arr 1 32 (List.replicate 32 (.i .u8 0)), .i .i64 0]))]⟩) (fun q => q.1 ≤ l.length) (fun q => l.length - q.1) [] (0, v37, v38) (Nat.zero_le _) ?_ ?_
      · exact ⟨rfl, ⟨sle_i rfl, sle_i rfl, sle_sl rfl, sle_i rfl, sle_own, sle_own, sle_ptr, True.intro⟩, HLe.cons 37 rfl (HOLe.refl _) (HLe.cons 38 rfl (HOLe.refl _) (HLe.cons 2 rfl (HOLe.refl _) .nil))⟩
      rintro ⟨i, u, v⟩ hi
      dsimp only at hi ⊢
      by_cases hlt : i < l.length
      · have hi1 : ((i : Int) + 1 = ((i + 1 : Nat) : Int)) := by omega
        have g1 := hfs (fun x => bitL x.l n == 0) i hlt
        have g2 := hfs (fun x => !(bitL x.l n == 0)) i hlt
        have g3 := hfl (fun x => bitL x.l n == 0) i
        have g4 := hfl (fun x => !(bitL x.l n == 0)) i
        have hb := hbt i hlt
        clear hfs hfl hbt j1 j2 i1
        generalize (l.take i).filter (fun x => bitL x.l n == 0) = A at g1 g3 ⊢
        generalize (l.take i).filter (fun x => !(bitL x.l n == 0)) = B at g2 g4 ⊢
        have hx01 := bitL_or l[i].l n
        generalize bitL l[i].l n = z at hb hx01 g1 g2
        rcases hx01 with rfl | rfl
        · rw [if_pos (by rfl)] at g1
          rw [if_neg (by decide)] at g2
          repeat' (first | refine Awp.seq ?_ | refine Awp.block ?_ | refine Awp.region ?_ | refine Ops.nil (nqA ?_) | refine Ops.nil (nqX ?_) | refine Awp.skip (nqA ?_) | (refine o_add rfl rfl rfl rfl ?_ ?_; omega) | (refine o_calm rfl TtOk rfl rfl rfl ?_ (fun _ => ?_); exact nd) | refine o_alloc (d := 9) rfl TtOk rfl rfl rfl (fun b9 => ?_) | refine o_store TtOk rfl rfl rfl rfl rfl rfl rfl ⟨rfl, rfl⟩ rfl rfl rfl rfl rfl ?_ | (refine o_index rfl TtOk rfl rfl rfl rfl rfl rfl ?_ (getq_nat ?_) ?_; omega; omega) | refine o_buildSlice TtOk rfl rfl rfl rfl rfl rfl rfl rfl rfl rfl rfl nq1 (fun _ => ?_) | (refine o_append TtOk rfl rfl rfl rfl rfl rfl rfl rfl rfl (by first | exact True.intro | exact rfl) rfl rfl (fun _ => rfl) ?_ ?_ (fun _ => ?_); ((repeat' (first | rw [List.length_append] | rw [List.length_map] | rw [List.length_cons] | rw [List.length_nil] | rw [List.length_take] | rw [List.length_drop])) <;> omega); ((repeat' (first | rw [List.length_append] | rw [List.length_map] | rw [List.length_cons] | rw [List.length_nil] | rw [List.length_take] | rw [List.length_drop])) <;> omega)) | refine a_condT rfl ?_ | (refine a_condP rfl (fun hc => ?_) (fun hc => ?_)) <;> (try (exfalso; omega)) | refine o_callE rfl (hb) ⟨nqS, nqS, True.intro⟩ rfl ?_)
          exact ⟨(i + 1, _, v), [], hlt, by show l.length - (i + 1) < l.length - i; omega, rfl, ⟨sle_i hi1, sle_i rfl, sle_sl rfl, sle_i rfl, sle_own, sle_own, sle_ptr, True.intro⟩, HLe.cons 37 rfl (HOLe.row (by rw [g1, List.map_append]; rfl)) (HLe.cons 38 rfl (HOLe.row (by rw [g2])) (HLe.cons 2 rfl (HOLe.refl _) .nil))⟩
        · rw [if_neg (by decide)] at g1
          rw [if_pos (by rfl)] at g2
          repeat' (first | refine Awp.seq ?_ | refine Awp.block ?_ | refine Awp.region ?_ | refine Ops.nil (nqA ?_) | refine Ops.nil (nqX ?_) | refine Awp.skip (nqA ?_) | (refine o_add rfl rfl rfl rfl ?_ ?_; omega) | (refine o_calm rfl TtOk rfl rfl rfl ?_ (fun _ => ?_); exact nd) | refine o_alloc (d := 9) rfl TtOk rfl rfl rfl (fun b9 => ?_) | refine o_store TtOk rfl rfl rfl rfl rfl rfl rfl ⟨rfl, rfl⟩ rfl rfl rfl rfl rfl ?_ | (refine o_index rfl TtOk rfl rfl rfl rfl rfl rfl ?_ (getq_nat ?_) ?_; omega; omega) | refine o_buildSlice TtOk rfl rfl rfl rfl rfl rfl rfl rfl rfl rfl rfl nq1 (fun _ => ?_) | (refine o_append TtOk rfl rfl rfl rfl rfl rfl rfl rfl rfl (by first | exact True.intro | exact rfl) rfl rfl (fun _ => rfl) ?_ ?_ (fun _ => ?_); ((repeat' (first | rw [List.length_append] | rw [List.length_map] | rw [List.length_cons] | rw [List.length_nil] | rw [List.length_take] | rw [List.length_drop])) <;> omega); ((repeat' (first | rw [List.length_append] | rw [List.length_map] | rw [List.length_cons] | rw [List.length_nil] | rw [List.length_take] | rw [List.length_drop])) <;> omega)) | refine a_condF rfl ?_ | (refine a_condP rfl (fun hc => ?_) (fun hc => ?_)) <;> (try (exfalso; omega)) | refine o_callE rfl (hb) ⟨nqS, nqS, True.intro⟩ rfl ?_)
          exact ⟨(i + 1, u, _), [], hlt, by show l.length - (i + 1) < l.length - i; omega, rfl, ⟨sle_i hi1, sle_i rfl, sle_sl rfl, sle_i rfl, sle_own, sle_own, sle_ptr, True.intro⟩, HLe.cons 37 rfl (HOLe.row (by rw [g1])) (HLe.cons 38 rfl (HOLe.row (by rw [g2, List.map_append]; rfl)) (HLe.cons 2 rfl (HOLe.refl _) .nil))⟩
      · have hie : i = l.length := by omega
        subst hie
        rw [List.take_length]
        generalize l.filter (fun x => bitL x.l n == 0) = A at j1 ⊢
        generalize l.filter (fun x => !(bitL x.l n == 0)) = B at j2 ⊢
        repeat' (first | (refine o_freezeR 38 7 rfl rfl rfl ?_) | (refine o_freezeR 37 6 rfl rfl rfl ?_) | refine Awp.seq ?_ | refine Awp.region ?_ | refine Ops.nil (nqA ?_) | refine Awp.exit (nqA ?_) | refine Awp.ret (nqE ?_) | (refine o_calm rfl TtOk rfl rfl rfl ?_ (fun _ => ?_); exact nd) | refine o_store TtOk rfl rfl rfl rfl rfl rfl rfl ⟨rfl, rfl⟩ rfl rfl rfl rfl rfl ?_ | (refine a_condP rfl (fun hc => ?_) (fun hc => ?_)) <;> (try (exfalso; omega)) | refine o_callE rfl (j1) ⟨nqS, True.intro⟩ rfl ?_ | refine o_callE rfl (j2) ⟨nqS, True.intro⟩ rfl ?_ | refine o_callE rfl (i1) ⟨nqS, nqS, True.intro⟩ rfl ?_)
        refine end_all [] [] ((innI x y).R) rfl ?_ ?_ (rle_one (CLe.of_eq rfl) rfl) .nil ⟨rfl, rfl⟩ _ (.inl rfl)
        · exact nq1
        · exact ⟨trivial, trivial⟩
theorem rtop_spec (l : List Itm) (hl : l.length ≤ 100000) (hok : ∀ x ∈ l, x.ok) (hc : chkI l = 0) : Spec Tryz.prog 98 [.sl 66 (l.map Itm.R)] [] (fun v os => v = labA (topS l) ∧ os = []) := by
  refine spec_of TtOk [] Tryz.func98 rfl Tryz.ntmps98 (by kernel_rfl) rfl rfl (fun C => ?_) rfl
  obtain ⟨-, h3, -⟩ := chkI_rise hc
  unfold topS
  rw [if_neg (fun h => h hc)]
  by_cases hn : l = []
  · rw [if_pos hn]
    subst hn
    have h1 := rsum_spec [18] (by decide)
    generalize shaN [18] = s at h1 ⊢
    repeat' (first | refine Awp.seq ?_ | refine Awp.region ?_ | refine Ops.nil (nqA ?_) | refine Awp.ret (nqE ?_) | refine o_len rfl TtOk rfl rfl rfl (fun _ => ?_) | (refine o_calm rfl TtOk rfl rfl rfl ?_ (fun _ => ?_); exact nd) | refine o_alloc (d := 2) rfl TtOk rfl rfl rfl (fun b2 => ?_) | refine o_store TtOk rfl rfl rfl rfl rfl rfl rfl ⟨rfl, rfl⟩ rfl rfl rfl rfl rfl ?_ | refine a_condT rfl ?_ | refine o_callE rfl (h1) ⟨nqS, True.intro⟩ rfl ?_)
    refine end_all [] [] (labA s) rfl ?_ ?_ (rle_one (CLe.of_eq rfl) rfl) .nil ⟨rfl, rfl⟩ _ (.inl rfl)
    · exact nq1
    · exact ⟨trivial, trivial⟩
  · rw [if_neg hn]
    have h5 : 0 < l.length := List.length_pos_iff.2 hn
    have h4 := rjoin_spec l.length l hn (Nat.le_refl _) hl h3 hok
    generalize joinF l.length l = x at h4 ⊢
    repeat' (first | refine Awp.seq ?_ | refine Awp.region ?_ | refine Ops.nil (nqA ?_) | refine Awp.skip (nqA ?_) | refine Awp.ret (nqE ?_) | refine o_len rfl TtOk rfl rfl rfl (fun _ => ?_) | (refine o_calm rfl TtOk rfl rfl rfl ?_ (fun _ => ?_); exact nd) | refine o_alloc (d := 2) rfl TtOk rfl rfl rfl (fun b2 => ?_) | refine o_store TtOk rfl rfl rfl rfl rfl rfl rfl ⟨rfl, rfl⟩ rfl rfl rfl rfl rfl ?_ | (refine a_condP rfl (fun hc => ?_) (fun hc => ?_)) <;> (try (exfalso; omega)) | refine o_callE rfl (h4) ⟨nqS, True.intro⟩ rfl ?_)
    refine end_all [] [] (labA x.s) rfl ?_ ?_ (rle_one (CLe.of_eq rfl) rfl) .nil ⟨rfl, rfl⟩ _ (.inl rfl)
    · exact nq1
    · exact ⟨trivial, trivial⟩
end Go.Proofs.YtcmgpkibjdbonaaGreat
set_option maxHeartbeats 8000000
set_option maxRecDepth 100000
namespace Go.Proofs.YtcmgpkibjdbonaaGreat
open Go Go.RowKit
theorem cmpS_cases (a b : List UInt8) : cmpS a b = -1 ∨ cmpS a b = 0 ∨ cmpS a b = 1 := by
  unfold cmpS
  split
  · exact .inl rfl
  · split
    · exact .inr (.inr rfl)
    · exact .inr (.inl rfl)
theorem over_eq {a x : Itm} (ha : goodI a = true) (hx : goodI x = true) : overP a.p x.p = overR a x := by
  unfold goodI at ha hx
  simp only [Bool.and_eq_true] at ha hx
  unfold overP hasP overR
  have h1 : goodP x.p = true := hx.1
  have h2 : goodP ⟨a.p.n, a.p.l⟩ = true := ha.1
  rw [h1, show goodP a.p = true from ha.1]
  rfl
theorem bad_eq {a x : Itm} (ha : goodI a = true) (hx : goodI x = true) : badI a x = (overR a x || (overR x a || decide (cmpS a.l x.l ≠ -1))) := by
  unfold badI
  rw [over_eq ha hx, over_eq hx ha]
  congr 2
  rcases cmpS_cases a.l x.l with h | h | h <;> rw [h] <;> rfl
theorem rcheckI_spec (l : List Itm) (hl : l.length ≤ 100000) (hok : ∀ x ∈ l, x.ok) : Spec Tryz.prog 60 [.sl 66 (l.map Itm.R)] [] (fun v os => v = .i .i64 (chkI l) ∧ os = []) := by
  refine spec_of TtOk [] Tryz.func60 rfl Tryz.ntmps60 (by kernel_rfl) rfl rfl (fun C => ?_) rfl
  unfold chkI
  by_cases h2 : 2000 < l.length
  · rw [if_pos h2]
    repeat' (first | refine Awp.seq ?_ | refine Awp.region ?_ | refine Ops.nil (nqA ?_) | refine Awp.ret (nqE ?_) | refine o_len rfl TtOk rfl rfl rfl (fun _ => ?_) | (refine o_calm rfl TtOk rfl rfl rfl ?_ (fun _ => ?_); exact nd) | (refine a_condP rfl (fun hc => ?_) (fun hc => ?_)) <;> (try (exfalso; omega)))
    exact nq2
  rw [if_neg h2]
  obtain ⟨G, hG⟩ : ∃ G, chkL none l = G := ⟨_, rfl⟩
  rw [hG]
  repeat' (first | refine Awp.seq ?_ | refine Awp.block ?_ | refine Awp.region ?_ | refine Ops.nil (nqA ?_) | refine Awp.skip (nqA ?_) | refine o_len rfl TtOk rfl rfl rfl (fun _ => ?_) | (refine o_calm rfl TtOk rfl rfl rfl ?_ (fun _ => ?_); exact nd) | (refine a_condP rfl (fun hc => ?_) (fun hc => ?_)) <;> (try (exfalso; omega)))
  refine Awp.loop (fun i : Nat => ⟨51, [(10, .i .i64 i), (9, .i .i64 l.length), (8, .sl 66 (l.map Itm.R)), (0, .sl 66 (l.map Itm.R))], []⟩) (fun i => i ≤ l.length ∧ chkL (prevI l i) (l.drop i) = G ∧ ∀ j (hj : j < l.length), j < i → goodI l[j] = true) (fun i => l.length - i) [] 0 ⟨Nat.zero_le _, hG, fun j hj h => absurd h (Nat.not_lt_zero _)⟩ ?_ ?_
  · exact ⟨rfl, ⟨sle_i rfl, sle_i rfl, sle_sl rfl, sle_sl rfl, True.intro⟩, .nil⟩
  rintro i ⟨hi, hr, hgd0⟩
  by_cases hlt : i < l.length
  · have hx := hok _ (List.getElem_mem hlt)
    have hi1 : ((i : Int) + 1 = ((i + 1 : Nat) : Int)) := by omega
    rw [chkL_step l i hlt] at hr
    have hgd := rgood15_spec l[i] hx
    by_cases hg : goodI l[i] = true
    · rw [if_pos hg] at hr
      have hgd1 : ∀ j (hj : j < l.length), j < i + 1 → goodI l[j] = true := fun j hj h => by
        by_cases hji : j = i
        · subst hji; exact hg
        · exact hgd0 j hj (by omega)
      by_cases h0 : 0 < i
      · rw [dif_pos h0] at hr
        have hj : i - 1 < l.length := by omega
        have hgp := hgd0 (i - 1) hj (by omega)
        rw [bad_eq hgp hg] at hr
        rw [hg] at hgd
        have hy := hok _ (List.getElem_mem hj)
        have o1 := rover_spec l[i - 1] l[i] hy hx
        have o2 := rover_spec l[i] l[i - 1] hx hy
        have o3 := rorder_spec (l[i - 1]).l (l[i]).l hy.1 hx.1
        generalize overR l[i - 1] l[i] = u1 at hr o1
        generalize overR l[i] l[i - 1] = u2 at hr o2
        generalize cmpS (l[i - 1]).l (l[i]).l = c at hr o3
        clear hgp hgd0
        cases u1
        · cases u2
          · by_cases hc : c ≠ -1
            · rw [decide_eq_true hc] at hr
              rw [if_pos (by rfl)] at hr
              subst hr
              repeat' (first | refine Awp.seq ?_ | refine Awp.block ?_ | refine Awp.region ?_ | refine Ops.nil (nqA ?_) | refine Awp.skip (nqA ?_) | refine Awp.ret (nqE ?_) | (refine o_sub rfl rfl rfl rfl ?_ ?_; omega) | (refine o_calm rfl TtOk rfl rfl rfl ?_ (fun _ => ?_); exact nd) | refine o_alloc (d := 4) rfl TtOk rfl rfl rfl (fun b4 => ?_) | refine o_store TtOk rfl rfl rfl rfl rfl rfl rfl ⟨rfl, rfl⟩ rfl rfl rfl rfl rfl ?_ | (refine o_index rfl TtOk rfl rfl rfl rfl rfl rfl ?_ (getq_nat ?_) ?_; omega; omega) | (fail_if_success (refine o_isLit rfl (by first | exact .inl rfl | exact .inr rfl) ?_)); (refine o_splitP rfl rfl (fun hc => ?_) (fun hc => ?_) <;> try (exfalso; omega)) | refine a_condF rfl ?_ | (refine a_condP rfl (fun hc => ?_) (fun hc => ?_)) <;> (try (exfalso; omega)) | (refine a_condN rfl (fun hc => ?_) (fun hc => ?_)) <;> (try (exfalso; omega)) | (refine a_any 8 [] [] [] [0, 1, 2, 3, 4, 5, 6, 7, 8, 9, 10, 12, 13, 14, 15, 11, 16, 17, 18, 19, 20, 21, 22, 23, 24, 26, 25, 27, 28, 29, 30, 31] (by kernel_rfl) (by kernel_rfl) (by kernel_rfl) rfl rfl rfl ?_; (try dsimp only [List.getElem_toArray, List.getElem_cons_zero, List.getElem_cons_succ])) | (refine o_index rfl TtOk rfl rfl rfl rfl rfl rfl ?_ (getq_as (i-1) ?_ hj) ?_; omega; omega) | refine o_callE rfl (hgd) ⟨nqS, True.intro⟩ rfl ?_ | refine o_callE rfl (o1) ⟨nqS, nqS, True.intro⟩ rfl ?_ | refine o_callE rfl (o2) ⟨nqS, nqS, True.intro⟩ rfl ?_ | refine o_callE rfl (o3) ⟨nqS, nqS, True.intro⟩ rfl ?_)
              exact nq2
            · have hc1 : c = -1 := Decidable.not_not.1 hc
              rw [decide_eq_false hc] at hr
              rw [if_neg (by decide)] at hr
              repeat' (first | refine Awp.seq ?_ | refine Awp.block ?_ | refine Awp.region ?_ | refine Ops.nil (nqA ?_) | refine Ops.nil (nqX ?_) | refine Awp.skip (nqA ?_) | (refine o_add rfl rfl rfl rfl ?_ ?_; omega) | (refine o_sub rfl rfl rfl rfl ?_ ?_; omega) | (refine o_calm rfl TtOk rfl rfl rfl ?_ (fun _ => ?_); exact nd) | refine o_alloc (d := 4) rfl TtOk rfl rfl rfl (fun b4 => ?_) | refine o_store TtOk rfl rfl rfl rfl rfl rfl rfl ⟨rfl, rfl⟩ rfl rfl rfl rfl rfl ?_ | (refine o_index rfl TtOk rfl rfl rfl rfl rfl rfl ?_ (getq_nat ?_) ?_; omega; omega) | (fail_if_success (refine o_isLit rfl (by first | exact .inl rfl | exact .inr rfl) ?_)); (refine o_splitP rfl rfl (fun hc => ?_) (fun hc => ?_) <;> try (exfalso; omega)) | refine a_condF rfl ?_ | (refine a_condP rfl (fun hc => ?_) (fun hc => ?_)) <;> (try (exfalso; omega)) | (refine a_condN rfl (fun hc => ?_) (fun hc => ?_)) <;> (try (exfalso; omega)) | (refine a_any 8 [] [] [] [0, 1, 2, 3, 4, 5, 6, 7, 8, 9, 10, 12, 13, 14, 15, 11, 16, 17, 18, 19, 20, 21, 22, 23, 24, 26, 25, 27, 28, 29, 30, 31] (by kernel_rfl) (by kernel_rfl) (by kernel_rfl) rfl rfl rfl ?_; (try dsimp only [List.getElem_toArray, List.getElem_cons_zero, List.getElem_cons_succ])) | (refine o_index rfl TtOk rfl rfl rfl rfl rfl rfl ?_ (getq_as (i-1) ?_ hj) ?_; omega; omega) | refine o_callE rfl (hgd) ⟨nqS, True.intro⟩ rfl ?_ | refine o_callE rfl (o1) ⟨nqS, nqS, True.intro⟩ rfl ?_ | refine o_callE rfl (o2) ⟨nqS, nqS, True.intro⟩ rfl ?_ | refine o_callE rfl (o3) ⟨nqS, nqS, True.intro⟩ rfl ?_)
              exact ⟨i + 1, [], ⟨hlt, hr, hgd1⟩, by show l.length - (i + 1) < l.length - i; omega, rfl, ⟨sle_i hi1, sle_i rfl, sle_sl rfl, sle_sl rfl, True.intro⟩, .nil⟩
          · rw [if_pos (by rfl)] at hr
            subst hr
            repeat' (first | refine Awp.seq ?_ | refine Awp.block ?_ | refine Awp.region ?_ | refine Ops.nil (nqA ?_) | refine Awp.skip (nqA ?_) | refine Awp.ret (nqE ?_) | refine o_noF rfl rfl rfl ?_ | (refine o_sub rfl rfl rfl rfl ?_ ?_; omega) | (refine o_calm rfl TtOk rfl rfl rfl ?_ (fun _ => ?_); exact nd) | refine o_alloc (d := 4) rfl TtOk rfl rfl rfl (fun b4 => ?_) | refine o_store TtOk rfl rfl rfl rfl rfl rfl rfl ⟨rfl, rfl⟩ rfl rfl rfl rfl rfl ?_ | (refine o_index rfl TtOk rfl rfl rfl rfl rfl rfl ?_ (getq_nat ?_) ?_; omega; omega) | (fail_if_success (refine o_isLit rfl (by first | exact .inl rfl | exact .inr rfl) ?_)); (refine o_splitP rfl rfl (fun hc => ?_) (fun hc => ?_) <;> try (exfalso; omega)) | refine a_condT rfl ?_ | refine a_condF rfl ?_ | (refine a_condP rfl (fun hc => ?_) (fun hc => ?_)) <;> (try (exfalso; omega)) | (refine a_any 8 [] [] [] [0, 1, 2, 3, 4, 5, 6, 7, 8, 9, 10, 12, 13, 14, 15, 11, 16, 17, 18, 19, 20, 21, 22, 23, 24, 26, 25, 27, 28, 29, 30, 31] (by kernel_rfl) (by kernel_rfl) (by kernel_rfl) rfl rfl rfl ?_; (try dsimp only [List.getElem_toArray, List.getElem_cons_zero, List.getElem_cons_succ])) | (refine o_index rfl TtOk rfl rfl rfl rfl rfl rfl ?_ (getq_as (i-1) ?_ hj) ?_; omega; omega) | refine o_callE rfl (hgd) ⟨nqS, True.intro⟩ rfl ?_ | refine o_callE rfl (o1) ⟨nqS, nqS, True.intro⟩ rfl ?_ | refine o_callE rfl (o2) ⟨nqS, nqS, True.intro⟩ rfl ?_)
            exact nq2
        · rw [if_pos (by rfl)] at hr
          subst hr
          repeat' (first | refine Awp.seq ?_ | refine Awp.block ?_ | refine Awp.region ?_ | refine Ops.nil (nqA ?_) | refine Awp.skip (nqA ?_) | refine Awp.ret (nqE ?_) | refine o_noF rfl rfl rfl ?_ | (refine o_sub rfl rfl rfl rfl ?_ ?_; omega) | (refine o_calm rfl TtOk rfl rfl rfl ?_ (fun _ => ?_); exact nd) | refine o_alloc (d := 4) rfl TtOk rfl rfl rfl (fun b4 => ?_) | refine o_store TtOk rfl rfl rfl rfl rfl rfl rfl ⟨rfl, rfl⟩ rfl rfl rfl rfl rfl ?_ | (refine o_index rfl TtOk rfl rfl rfl rfl rfl rfl ?_ (getq_nat ?_) ?_; omega; omega) | (fail_if_success (refine o_isLit rfl (by first | exact .inl rfl | exact .inr rfl) ?_)); (refine o_splitP rfl rfl (fun hc => ?_) (fun hc => ?_) <;> try (exfalso; omega)) | refine a_condT rfl ?_ | refine a_condF rfl ?_ | (refine a_condP rfl (fun hc => ?_) (fun hc => ?_)) <;> (try (exfalso; omega)) | (refine a_any 8 [] [] [] [0, 1, 2, 3, 4, 5, 6, 7, 8, 9, 10, 12, 13, 14, 15, 11, 16, 17, 18, 19, 20, 21, 22, 23, 24, 26, 25, 27, 28, 29, 30, 31] (by kernel_rfl) (by kernel_rfl) (by kernel_rfl) rfl rfl rfl ?_; (try dsimp only [List.getElem_toArray, List.getElem_cons_zero, List.getElem_cons_succ])) | (refine o_index rfl TtOk rfl rfl rfl rfl rfl rfl ?_ (getq_as (i-1) ?_ hj) ?_; omega; omega) | refine o_callE rfl (hgd) ⟨nqS, True.intro⟩ rfl ?_ | refine o_callE rfl (o1) ⟨nqS, nqS, True.intro⟩ rfl ?_)
          exact nq2
      · have h0 : i = 0 := by omega
        subst h0
        rw [dif_neg (Nat.lt_irrefl _)] at hr
        rw [hg] at hgd
        repeat' (first | refine Awp.seq ?_ | refine Awp.block ?_ | refine Awp.region ?_ | refine Ops.nil (nqA ?_) | refine Ops.nil (nqX ?_) | refine Awp.skip (nqA ?_) | refine o_noT rfl rfl rfl ?_ | refine o_noU rfl rfl rfl ?_ | (refine o_add rfl rfl rfl rfl ?_ ?_; omega) | (refine o_calm rfl TtOk rfl rfl rfl ?_ (fun _ => ?_); exact nd) | refine o_alloc (d := 4) rfl TtOk rfl rfl rfl (fun b4 => ?_) | refine o_store TtOk rfl rfl rfl rfl rfl rfl rfl ⟨rfl, rfl⟩ rfl rfl rfl rfl rfl ?_ | (refine o_index rfl TtOk rfl rfl rfl rfl rfl rfl ?_ (getq_nat ?_) ?_; omega; omega) | refine a_condF rfl ?_ | (refine a_condP rfl (fun hc => ?_) (fun hc => ?_)) <;> (try (exfalso; omega)) | (refine a_any 8 [] [] [] [0, 1, 2, 3, 4, 5, 6, 7, 8, 9, 10, 12, 13, 14, 15, 11, 16, 17, 18, 19, 20, 21, 22, 23, 24, 26, 25, 27, 28, 29, 30, 31] (by kernel_rfl) (by kernel_rfl) (by kernel_rfl) rfl rfl rfl ?_; (try dsimp only [List.getElem_toArray, List.getElem_cons_zero, List.getElem_cons_succ])) | refine o_callE rfl (hgd) ⟨nqS, True.intro⟩ rfl ?_)
        exact ⟨1, [], ⟨hlt, hr, hgd1⟩, by show l.length - 1 < l.length - 0; omega, rfl, ⟨sle_i rfl, sle_i rfl, sle_sl rfl, sle_sl rfl, True.intro⟩, .nil⟩
    · rw [if_neg hg] at hr
      subst hr
      rw [show goodI l[i] = false by revert hg; cases goodI l[i] <;> simp] at hgd
      repeat' (first | refine Awp.seq ?_ | refine Awp.block ?_ | refine Awp.region ?_ | refine Ops.nil (nqA ?_) | refine Awp.skip (nqA ?_) | refine Awp.ret (nqE ?_) | (refine o_calm rfl TtOk rfl rfl rfl ?_ (fun _ => ?_); exact nd) | refine o_alloc (d := 4) rfl TtOk rfl rfl rfl (fun b4 => ?_) | refine o_store TtOk rfl rfl rfl rfl rfl rfl rfl ⟨rfl, rfl⟩ rfl rfl rfl rfl rfl ?_ | (refine o_index rfl TtOk rfl rfl rfl rfl rfl rfl ?_ (getq_nat ?_) ?_; omega; omega) | refine a_condT rfl ?_ | (refine a_condP rfl (fun hc => ?_) (fun hc => ?_)) <;> (try (exfalso; omega)) | refine o_callE rfl (hgd) ⟨nqS, True.intro⟩ rfl ?_)
      exact nq2
  · have hie : i = l.length := by omega
    subst hie
    rw [List.drop_length] at hr
    have hz : ∀ p, chkL p [] = 0 := fun p => by cases p <;> rfl
    rw [hz] at hr
    subst hr
    repeat' (first | refine Awp.seq ?_ | refine Awp.region ?_ | refine Ops.nil (nqA ?_) | refine Awp.exit (nqA ?_) | refine Awp.ret (nqE ?_) | (refine o_calm rfl TtOk rfl rfl rfl ?_ (fun _ => ?_); exact nd) | (refine a_condP rfl (fun hc => ?_) (fun hc => ?_)) <;> (try (exfalso; omega)))
    exact nq2
end Go.Proofs.YtcmgpkibjdbonaaGreat
