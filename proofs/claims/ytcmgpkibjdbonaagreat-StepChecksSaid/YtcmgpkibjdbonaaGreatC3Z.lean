/- slices.ContainsFunc of leaves, slices.Contains of labels, step.halves by rules. -/
import Derived.Test.YtcmgpkibjdbonaaGreatR6Z
import Derived.Test.YtcmgpkibjdbonaaGreatG8Z
import Derived.Test.YtcmgpkibjdbonaaGreatSL7Z
import Derived.Test.YtcmgpkibjdbonaaGreatGHZ
set_option maxHeartbeats 16000000
set_option maxRecDepth 100000
namespace Go.Proofs.YtcmgpkibjdbonaaGreat
open Go Go.RowKit
theorem ctL_spec (l : List Lef) (f : Nat) (caps : List AV) (ho : caps.all isOne = true) (p : Lef → Bool) (hf : ∀ x ∈ l, Spec Tryz.prog f ([x.A] ++ caps) [] (fun v os => v = .b (p x) ∧ os = [])) (hl : l.length ≤ 100000) :
    Spec Tryz.prog 51 [.sl 65 (l.map Lef.A), .fn (.func f) caps] [] (fun v os => v = .b (l.any p) ∧ os = []) := by
  refine spec_of TtOk [] Tryz.func51 rfl Tryz.ntmps51 (by kernel_rfl) rfl rfl (fun C => ?_) rfl
  have h1 := ixL_spec l f caps ho p hf hl
  cases hm : l.any p with
  | true =>
    rw [if_pos hm] at h1
    generalize l.findIdx p = i at h1
    repeat' (first | refine Awp.seq ?_ | refine Awp.region ?_ | refine Ops.nil (nqA ?_) | refine Awp.ret (nqE ?_) | (refine o_calm rfl TtOk rfl rfl rfl ?_ (fun _ => ?_); exact nd) | refine o_callE rfl (h1) ⟨nqS, nqS, True.intro⟩ rfl ?_)
    refine end_tmp rfl rfl rfl [] [] (CLe.of_eq ?_) .nil ⟨rfl, rfl⟩ _ (.inl rfl)
    exact congrArg AV.b (decide_eq_true (by omega))
  | false =>
    rw [if_neg (by rw [hm]; decide)] at h1
    repeat' (first | refine Awp.seq ?_ | refine Awp.region ?_ | refine Ops.nil (nqA ?_) | refine Awp.ret (nqE ?_) | (refine o_calm rfl TtOk rfl rfl rfl ?_ (fun _ => ?_); exact nd) | refine o_callE rfl (h1) ⟨nqS, nqS, True.intro⟩ rfl ?_)
    exact nq2
theorem smk1_spec (x : Lef) (g : List UInt8) : Spec Tryz.prog 52 ([x.A] ++ [.cp (labA g)]) [] (fun v os => v = .b (x.l == g) ∧ os = []) := by
  show Spec Tryz.prog 52 [.agg [labA x.l, labA x.v, .i .i64 x.t], .cp (labA g)] [] _
  refine spec_of TtOk [] Tryz.func52 rfl Tryz.ntmps52 (by kernel_rfl) rfl rfl (fun C => ?_) rfl
  repeat' (first | refine Awp.seq ?_ | refine Awp.region ?_ | refine Ops.nil (nqA ?_) | refine Awp.ret (nqE ?_) | (refine o_calm rfl TtOk rfl rfl rfl ?_ (fun _ => ?_); exact nd) | refine o_box (d := 2) rfl rfl rfl rfl (fun b2 => ?_) | refine o_eqArr8 TtOk rfl rfl rfl rfl rfl rfl (by kernel_rfl) ?_)
  exact nq2
theorem smk2_spec (x y : Lef) : Spec Tryz.prog 56 ([x.A, y.A] ++ []) [] (fun v os => v = .i .i64 (ordL x y) ∧ os = []) := by
  have h1 := border_spec x.l y.l
  have ho : ordL x y = cmpS x.l y.l := rfl
  rw [ho]
  generalize cmpS x.l y.l = c at h1 ⊢
  show Spec Tryz.prog 56 [.agg [labA x.l, labA x.v, .i .i64 x.t], .agg [labA y.l, labA y.v, .i .i64 y.t]] [] _
  refine spec_of TtOk [] Tryz.func56 rfl Tryz.ntmps56 (by kernel_rfl) rfl rfl (fun C => ?_) rfl
  repeat' (first | refine Awp.seq ?_ | refine Awp.region ?_ | refine Ops.nil (nqA ?_) | refine Awp.ret (nqE ?_) | (refine o_calm rfl TtOk rfl rfl rfl ?_ (fun _ => ?_); exact nd) | refine o_box (d := 2) rfl rfl rfl rfl (fun b2 => ?_) | refine o_box (d := 3) rfl rfl rfl rfl (fun b3 => ?_) | refine o_callE rfl (h1) ⟨nqS, nqS, True.intro⟩ rfl ?_)
  exact nq2
theorem idxB_spec (l : List (List UInt8)) (g : List UInt8) (hl : l.length ≤ 100000) : Spec Tryz.prog 151 [.sl 32 (l.map labA), labA g] [] (fun v os => v = .i .i64 (if l.any (fun y => g == y) = true then (l.findIdx (fun y => g == y) : Nat) else -1) ∧ os = []) := by
  refine spec_of TtOk [] Tryz.func151 rfl Tryz.ntmps151 (by kernel_rfl) rfl rfl (fun C => ?_) rfl
  repeat' (first | refine Awp.seq ?_ | refine Awp.block ?_ | refine Awp.region ?_ | refine Ops.nil (nqA ?_) | refine o_len rfl TtOk rfl rfl rfl (fun _ => ?_) | (refine o_calm rfl TtOk rfl rfl rfl ?_ (fun _ => ?_); exact nd) | refine o_box (d := 3) rfl rfl rfl rfl (fun b3 => ?_))
  refine Awp.loop (fun q : Nat => ⟨19, [(8, .i .i64 q), (7, .i .i64 l.length), (6, .sl 32 (l.map labA)), (0, .sl 32 (l.map labA)), (3, .ptr 3 b3 [] 0)], [(3, .var b3 (labA g))]⟩) (fun q => q ≤ l.length ∧ ∀ j (h : j < l.length), j < q → (g == l[j]) = false) (fun q => l.length - q) [] 0 ⟨Nat.zero_le _, fun _ _ h => absurd h (Nat.not_lt_zero _)⟩ ?_ ?_
  · exact ⟨rfl, ⟨sle_i rfl, sle_i rfl, sle_sl rfl, sle_sl rfl, sle_ptr, True.intro⟩, HLe.cons 3 rfl (HOLe.refl _) .nil⟩
  rintro i ⟨hi, hno⟩
  by_cases hlt : i < l.length
  · have hi1 : ((i : Int) + 1 = ((i + 1 : Nat) : Int)) := by omega
    obtain ⟨q, hq⟩ : ∃ q, (g == l[i]) = q := ⟨_, rfl⟩
    cases q with
    | true =>
      repeat' (first | (rw [hq]) | refine Awp.seq ?_ | refine Awp.block ?_ | refine Awp.region ?_ | refine Ops.nil (nqA ?_) | refine Awp.skip (nqA ?_) | refine Awp.ret (nqE ?_) | (refine o_calm rfl TtOk rfl rfl rfl ?_ (fun _ => ?_); exact nd) | (refine o_index rfl TtOk rfl rfl rfl rfl rfl rfl ?_ (getq_nat ?_) ?_; omega; omega) | refine o_eqArr8 TtOk rfl rfl rfl rfl rfl rfl (by kernel_rfl) ?_ | refine a_condT rfl ?_ | (refine a_condP rfl (fun hc => ?_) (fun hc => ?_)) <;> (try (exfalso; omega)) | refine a_any 4 [] [] [] [1, 2, 3, 0, 4, 5] (by kernel_rfl) (by kernel_rfl) (by kernel_rfl) rfl rfl rfl ?_)
      have hm : l.any (fun y => g == y) = true := List.any_eq_true.2 ⟨l[i], List.getElem_mem _, hq⟩
      have hx : l.findIdx (fun y => g == y) = i := by
        rw [List.findIdx_eq hlt]
        exact ⟨hq, fun j hj => hno j (by omega) hj⟩
      refine end_tmp rfl rfl rfl [] [] (CLe.of_eq ?_) .nil ⟨rfl, rfl⟩ _ (.inl rfl)
      rw [if_pos hm, hx]; rfl
    | false =>
      repeat' (first | (rw [hq]) | refine Awp.seq ?_ | refine Awp.block ?_ | refine Awp.region ?_ | refine Ops.nil (nqA ?_) | refine Ops.nil (nqX ?_) | refine Awp.skip (nqA ?_) | (refine o_add rfl rfl rfl rfl ?_ ?_; omega) | (refine o_calm rfl TtOk rfl rfl rfl ?_ (fun _ => ?_); exact nd) | (refine o_index rfl TtOk rfl rfl rfl rfl rfl rfl ?_ (getq_nat ?_) ?_; omega; omega) | refine o_eqArr8 TtOk rfl rfl rfl rfl rfl rfl (by kernel_rfl) ?_ | refine a_condF rfl ?_ | (refine a_condP rfl (fun hc => ?_) (fun hc => ?_)) <;> (try (exfalso; omega)) | refine a_any 4 [] [] [] [1, 2, 3, 0, 4, 5] (by kernel_rfl) (by kernel_rfl) (by kernel_rfl) rfl rfl rfl ?_)
      exact ⟨i + 1, [], ⟨hlt, fun j h hj => by
        rcases Nat.lt_succ_iff_lt_or_eq.1 hj with h2 | rfl
        · exact hno j h h2
        · exact hq⟩, by show l.length - (i + 1) < l.length - i; omega, rfl, ⟨sle_i hi1, sle_i rfl, sle_sl rfl, sle_sl rfl, sle_ptr, True.intro⟩, HLe.cons 3 rfl (HOLe.refl _) .nil⟩
  · have hm : ¬ l.any (fun y => g == y) = true := by
      intro h
      obtain ⟨x, hx, hxp⟩ := List.any_eq_true.1 h
      obtain ⟨j, hj, rfl⟩ := List.getElem_of_mem hx
      rw [hno j hj (by omega)] at hxp; cases hxp
    rw [if_neg hm]
    repeat' (first | refine Awp.seq ?_ | refine Awp.region ?_ | refine Ops.nil (nqA ?_) | refine Awp.exit (nqA ?_) | refine Awp.ret (nqE ?_) | (refine o_calm rfl TtOk rfl rfl rfl ?_ (fun _ => ?_); exact nd) | (refine a_condP rfl (fun hc => ?_) (fun hc => ?_)) <;> (try (exfalso; omega)))
    exact nq2
theorem conB_spec (l : List (List UInt8)) (g : List UInt8) (hl : l.length ≤ 100000) : Spec Tryz.prog 53 [.sl 32 (l.map labA), labA g] [] (fun v os => v = .b (l.any (fun y => g == y)) ∧ os = []) := by
  refine spec_of TtOk [] Tryz.func53 rfl Tryz.ntmps53 (by kernel_rfl) rfl rfl (fun C => ?_) rfl
  have h1 := idxB_spec l g hl
  cases hm : l.any (fun y => g == y) with
  | true =>
    rw [if_pos hm] at h1
    generalize l.findIdx (fun y => g == y) = i at h1
    repeat' (first | refine Awp.seq ?_ | refine Awp.region ?_ | refine Ops.nil (nqA ?_) | refine Awp.ret (nqE ?_) | (refine o_calm rfl TtOk rfl rfl rfl ?_ (fun _ => ?_); exact nd) | refine o_box (d := 3) rfl rfl rfl rfl (fun b3 => ?_) | refine o_callE rfl (h1) ⟨nqS, nqS, True.intro⟩ rfl ?_)
    refine end_tmp rfl rfl rfl [] [] (CLe.of_eq ?_) .nil ⟨rfl, rfl⟩ _ (.inl rfl)
    exact congrArg AV.b (decide_eq_true (by omega))
  | false =>
    rw [if_neg (by rw [hm]; decide)] at h1
    repeat' (first | refine Awp.seq ?_ | refine Awp.region ?_ | refine Ops.nil (nqA ?_) | refine Awp.ret (nqE ?_) | (refine o_calm rfl TtOk rfl rfl rfl ?_ (fun _ => ?_); exact nd) | refine o_box (d := 3) rfl rfl rfl rfl (fun b3 => ?_) | refine o_callE rfl (h1) ⟨nqS, nqS, True.intro⟩ rfl ?_)
    exact nq2
/-- The two halves of leaves as they stood. -/
def hlA (L : List Lef) : List Lef := L.filter (fun x => bitL x.l (frkI (itmsL L)) == 0)
def hlB (L : List Lef) : List Lef := L.filter (fun x => !(bitL x.l (frkI (itmsL L)) == 0))
def hlf (L : List Lef) : List Itm := cvI (hlA L) [] ++ cvI (hlB L) []
theorem halves_spec (L : List Lef) (hl : L.length ≤ 40000) (hok : ∀ x ∈ L, x.ok) (h2 : 2 ≤ L.length) (hc : mkE L = 0) : Spec Tryz.prog 54 [.sl 65 (L.map Lef.A)] [] (fun v os => v = .sl 66 ((hlf L).map Itm.A) ∧ os = []) := by
  have h1 := of_spec L (by omega) hok
  have hil := itmsL_len L
  have hp : 0 < (itmsL L).length := by omega
  have hio := itmsL_ok hok
  have hjl : (itmsL L).length - 1 < (itmsL L).length := by omega
  have hcm := bcommon_spec (itmsL L)[0].l (itmsL L)[(itmsL L).length - 1].l (hio _ (List.getElem_mem hp)).1 (hio _ (List.getElem_mem hjl)).1
  rw [← frk_eq hp] at hcm
  have hr : RiseI (itmsL L) := (chkI_rise hc).2.1
  have hf := (spl_ok hr hio (by omega)).1
  have hbt : ∀ (i : Nat) (h : i < L.length), Spec Tryz.prog 80 [labA L[i].l, .i .i64 (frkI (itmsL L) : Nat)] [] (fun v os => v = .i .i64 (bitL L[i].l (frkI (itmsL L)) : Nat) ∧ os = []) := fun i h => by
    have := bit_spec L[i].l (hok _ (List.getElem_mem h)).1 (frkI (itmsL L)) (by omega) (by omega)
    rw [if_pos (by omega), Int.toNat_natCast] at this
    exact this
  have hfs := fun (p : Lef → Bool) (i : Nat) (h : i < L.length) => filt_succ p L h
  have hfl : ∀ (p : Lef → Bool) (i : Nat), ((L.take i).filter p).length ≤ L.length := fun p i => Nat.le_trans (List.length_filter_le ..) (by rw [List.length_take]; omega)
  have hlA' : (hlA L).length ≤ L.length := List.length_filter_le ..
  have hlB' : (hlB L).length ≤ L.length := List.length_filter_le ..
  have hcA := cover_spec (hlA L) [] (by omega) (fun x hx => hok x ((List.mem_filter.1 hx).1)) (Nat.zero_le _) (fun x hx => by cases hx)
  have hcB := cover_spec (hlB L) [] (by omega) (fun x hx => hok x ((List.mem_filter.1 hx).1)) (Nat.zero_le _) (fun x hx => by cases hx)
  have eA : hlA L = L.filter (fun x => bitL x.l (frkI (itmsL L)) == 0) := rfl
  have eB : hlB L = L.filter (fun x => !(bitL x.l (frkI (itmsL L)) == 0)) := rfl
  have eH : hlf L = cvI (hlA L) [] ++ cvI (hlB L) [] := rfl
  have lA : (cvI (hlA L) []).length ≤ 100000 := by
    unfold cvI
    split
    · have := (openF_len (hlA L).length [] (srtL (hlA L))).1
      rw [srtL_len] at this
      omega
    · exact Nat.zero_le _
  have lB : (cvI (hlB L) []).length ≤ 100000 := by
    unfold cvI
    split
    · have := (openF_len (hlB L).length [] (srtL (hlB L))).1
      rw [srtL_len] at this
      omega
    · exact Nat.zero_le _
  rw [eH]
  generalize cvI (hlA L) [] = cA at *
  generalize cvI (hlB L) [] = cB at *
  generalize cvT (hlA L) [] = tA at *
  generalize cvT (hlB L) [] = tB at *
  generalize cvE (hlA L) = xA at *
  generalize cvE (hlB L) = xB at *
  generalize frkI (itmsL L) = n at *
  refine spec_of TtOk [] Tryz.func54 rfl Tryz.ntmps54 (by kernel_rfl) rfl rfl (fun C => ?_) rfl
  generalize itmsL L = I at *
  repeat' (first | refine Awp.seq ?_ | refine Awp.block ?_ | refine Awp.region ?_ | refine Ops.nil (nqA ?_) | (refine o_sub rfl rfl rfl rfl ?_ ?_; omega) | refine o_len rfl TtOk rfl rfl rfl (fun _ => ?_) | (refine o_calm rfl TtOk rfl rfl rfl ?_ (fun _ => ?_); exact nd) | (refine o_index rfl TtOk rfl rfl rfl rfl rfl rfl ?_ (getq_nat ?_) ?_; omega; omega) | refine a_any 2 [] [] [] [0, 1, 2, 3, 5, 6, 7, 8, 9, 10, 11, 4, 12, 13, 14] (by kernel_rfl) (by kernel_rfl) (by kernel_rfl) rfl rfl rfl ?_ | (refine o_index rfl TtOk rfl rfl rfl rfl rfl rfl ?_ (getq_as (I.length-1) ?_ hjl) ?_; omega; omega) | refine o_callE rfl (h1) ⟨nqS, True.intro⟩ rfl ?_ | refine o_callE rfl (hcm) ⟨nqS, nqS, True.intro⟩ rfl ?_)
  refine Awp.loop (fun q : Nat × Value × Value => ⟨70, [(33, .i .i64 q.1), (32, .i .i64 L.length), (31, .sl 65 (L.map Lef.A)), (5, .own 45 q.2.1), (6, .own 49 q.2.2), (4, .i .i64 n)], [(45, .row q.2.1 46 65 (((L.take q.1).filter (fun x => bitL x.l n == 0)).map Lef.A)), (49, .row q.2.2 46 65 (((L.take q.1).filter (fun x => !(bitL x.l n == 0))).map Lef.A))]⟩) (fun q => q.1 ≤ L.length) (fun q => L.length - q.1) [] (0, .slice none 0 0, .slice none 0 0) (Nat.zero_le _) ?_ ?_
  · exact ⟨rfl, ⟨sle_i rfl, sle_i rfl, sle_sl rfl, sle_nilown, sle_nilown, sle_i rfl, True.intro⟩, HLe.none (HLe.none .nil)⟩
  clear h1 hcm
  rintro ⟨i, u, v⟩ hi
  dsimp only at hi ⊢
  by_cases hlt : i < L.length
  · have hi1 : ((i : Int) + 1 = ((i + 1 : Nat) : Int)) := by omega
    have g1 := hfs (fun x => bitL x.l n == 0) i hlt
    have g2 := hfs (fun x => !(bitL x.l n == 0)) i hlt
    have g3 := hfl (fun x => bitL x.l n == 0) i
    have g4 := hfl (fun x => !(bitL x.l n == 0)) i
    have hb := hbt i hlt
    clear hfs hfl hbt hcA hcB eA eB
    generalize (L.take i).filter (fun x => bitL x.l n == 0) = A at g1 g3 ⊢
    generalize (L.take i).filter (fun x => !(bitL x.l n == 0)) = B at g2 g4 ⊢
    have hx01 := bitL_or L[i].l n
    generalize bitL L[i].l n = z at hb hx01 g1 g2
    rcases hx01 with rfl | rfl
    · rw [if_pos (by rfl)] at g1
      rw [if_neg (by decide)] at g2
      repeat' (first | refine Awp.seq ?_ | refine Awp.block ?_ | refine Awp.region ?_ | refine Ops.nil (nqA ?_) | refine Ops.nil (nqX ?_) | refine Awp.skip (nqA ?_) | (refine o_add rfl rfl rfl rfl ?_ ?_; omega) | (refine o_calm rfl TtOk rfl rfl rfl ?_ (fun _ => ?_); exact nd) | refine o_alloc (d := 8) rfl TtOk rfl rfl rfl (fun b8 => ?_) | refine o_store TtOk rfl rfl rfl rfl rfl rfl rfl ⟨rfl, rfl⟩ rfl rfl rfl rfl rfl ?_ | (refine o_index rfl TtOk rfl rfl rfl rfl rfl rfl ?_ (getq_nat ?_) ?_; omega; omega) | refine o_buildSlice TtOk rfl rfl rfl rfl rfl rfl rfl rfl rfl rfl rfl nq1 (fun _ => ?_) | (refine o_append TtOk rfl rfl rfl rfl rfl rfl rfl rfl rfl (by first | exact True.intro | exact rfl) rfl rfl (fun _ => rfl) ?_ ?_ (fun _ => ?_); ((repeat' (first | rw [List.length_append] | rw [List.length_map] | rw [List.length_cons] | rw [List.length_nil] | rw [List.length_take] | rw [List.length_drop])) <;> omega); ((repeat' (first | rw [List.length_append] | rw [List.length_map] | rw [List.length_cons] | rw [List.length_nil] | rw [List.length_take] | rw [List.length_drop])) <;> omega)) | refine a_condT rfl ?_ | (refine a_condP rfl (fun hc => ?_) (fun hc => ?_)) <;> (try (exfalso; omega)) | refine o_callE rfl (hb) ⟨nqS, nqS, True.intro⟩ rfl ?_)
      exact ⟨(i + 1, _, v), [], hlt, by show L.length - (i + 1) < L.length - i; omega, rfl, ⟨sle_i hi1, sle_i rfl, sle_sl rfl, sle_own, sle_own, sle_i rfl, True.intro⟩, HLe.cons 45 rfl (HOLe.row (by rw [g1, List.map_append]; rfl)) (HLe.cons 49 rfl (HOLe.row (by rw [g2])) .nil)⟩
    · rw [if_neg (by decide)] at g1
      rw [if_pos (by rfl)] at g2
      repeat' (first | refine Awp.seq ?_ | refine Awp.block ?_ | refine Awp.region ?_ | refine Ops.nil (nqA ?_) | refine Ops.nil (nqX ?_) | refine Awp.skip (nqA ?_) | (refine o_add rfl rfl rfl rfl ?_ ?_; omega) | (refine o_calm rfl TtOk rfl rfl rfl ?_ (fun _ => ?_); exact nd) | refine o_alloc (d := 8) rfl TtOk rfl rfl rfl (fun b8 => ?_) | refine o_store TtOk rfl rfl rfl rfl rfl rfl rfl ⟨rfl, rfl⟩ rfl rfl rfl rfl rfl ?_ | (refine o_index rfl TtOk rfl rfl rfl rfl rfl rfl ?_ (getq_nat ?_) ?_; omega; omega) | refine o_buildSlice TtOk rfl rfl rfl rfl rfl rfl rfl rfl rfl rfl rfl nq1 (fun _ => ?_) | (refine o_append TtOk rfl rfl rfl rfl rfl rfl rfl rfl rfl (by first | exact True.intro | exact rfl) rfl rfl (fun _ => rfl) ?_ ?_ (fun _ => ?_); ((repeat' (first | rw [List.length_append] | rw [List.length_map] | rw [List.length_cons] | rw [List.length_nil] | rw [List.length_take] | rw [List.length_drop])) <;> omega); ((repeat' (first | rw [List.length_append] | rw [List.length_map] | rw [List.length_cons] | rw [List.length_nil] | rw [List.length_take] | rw [List.length_drop])) <;> omega)) | refine a_condF rfl ?_ | (refine a_condP rfl (fun hc => ?_) (fun hc => ?_)) <;> (try (exfalso; omega)) | refine o_callE rfl (hb) ⟨nqS, nqS, True.intro⟩ rfl ?_)
      exact ⟨(i + 1, u, _), [], hlt, by show L.length - (i + 1) < L.length - i; omega, rfl, ⟨sle_i hi1, sle_i rfl, sle_sl rfl, sle_own, sle_own, sle_i rfl, True.intro⟩, HLe.cons 45 rfl (HOLe.row (by rw [g1])) (HLe.cons 49 rfl (HOLe.row (by rw [g2, List.map_append]; rfl)) .nil)⟩
  · have hie : i = L.length := by omega
    subst hie
    rw [List.take_length, ← eA, ← eB]
    clear hbt hfs hfl eA eB
    generalize hlA L = A at *
    generalize hlB L = B at *
    repeat' (first | (refine o_freezeR 49 6 rfl rfl rfl ?_) | (refine o_freezeR 45 5 rfl rfl rfl ?_) | refine Awp.seq ?_ | refine Awp.block ?_ | refine Awp.region ?_ | refine Ops.nil (nqA ?_) | refine Awp.exit (nqA ?_) | (refine o_calm rfl TtOk rfl rfl rfl ?_ (fun _ => ?_); exact nd) | refine o_buildSlice (d := 53) TtOk rfl rfl rfl rfl rfl rfl rfl rfl rfl rfl rfl nq1 (fun v53 => ?_) | (refine a_condP rfl (fun hc => ?_) (fun hc => ?_)) <;> (try (exfalso; omega)))
    refine Awp.loop (fun q : Nat × Value => ⟨70, [(55, .i .i64 q.1), (54, .i .i64 2), (53, .sl 1 ([A, B].map (iAl 65 Lef.A))), (9, .own 67 q.2)], [(67, .row q.2 50 66 ((if q.1 = 0 then [] else if q.1 = 1 then cA else cA ++ cB).map Itm.A))]⟩) (fun q => q.1 ≤ 2) (fun q => 2 - q.1) [53] (0, .slice none 0 0) (Nat.zero_le _) ?_ ?_
    · exact ⟨rfl, ⟨sle_i rfl, sle_i rfl, SLe.of_cle (CLe.fz (.head _)) rfl, sle_nilown, True.intro⟩, HLe.none .nil⟩
    rintro ⟨i, w⟩ hi
    dsimp only at hi ⊢
    have hi3 : i = 0 ∨ i = 1 ∨ i = 2 := by omega
    have h20 : 0 < [A, B].length := Nat.zero_lt_succ _
    have h21 : 1 < [A, B].length := Nat.lt_succ_self _
    have hlen2 : [A, B].length = 2 := rfl
    rcases hi3 with rfl | rfl | rfl
    · rw [if_pos rfl]
      repeat' (first | refine Awp.seq ?_ | refine Awp.block ?_ | refine Awp.region ?_ | refine Ops.nil (nqA ?_) | refine Ops.nil (nqX ?_) | refine Awp.skip (nqA ?_) | (refine o_add rfl rfl rfl rfl ?_ ?_; omega) | (refine o_calm rfl TtOk rfl rfl rfl ?_ (fun _ => ?_); exact nd) | (refine o_index rfl TtOk rfl rfl rfl rfl rfl rfl ?_ (getq_nat ?_) ?_; omega; omega) | (refine o_append TtOk rfl rfl rfl rfl rfl rfl rfl rfl rfl (by first | exact True.intro | exact rfl) rfl rfl (fun _ => rfl) ?_ ?_ (fun _ => ?_); ((repeat' (first | rw [List.length_append] | rw [List.length_map] | rw [List.length_cons] | rw [List.length_nil] | rw [List.length_take] | rw [List.length_drop])) <;> omega); ((repeat' (first | rw [List.length_append] | rw [List.length_map] | rw [List.length_cons] | rw [List.length_nil] | rw [List.length_take] | rw [List.length_drop])) <;> omega)) | refine a_condT rfl ?_ | refine o_callE rfl hcA ⟨nqS, sle_nilsl, True.intro⟩ rfl ?_)
      exact ⟨(1, _), [], (by decide : 1 ≤ 2), (by decide : 2 - 1 < 2 - 0), rfl, ⟨sle_i rfl, sle_i rfl, sle_sl rfl, sle_own, True.intro⟩, HLe.cons 67 rfl (HOLe.row (by show _ = List.map Itm.A (if (1 : Nat) = 0 then [] else if (1 : Nat) = 1 then cA else cA ++ cB); rw [if_neg (by decide), if_pos rfl]; rfl)) .nil⟩
    · rw [if_neg (by decide), if_pos rfl]
      repeat' (first | refine Awp.seq ?_ | refine Awp.block ?_ | refine Awp.region ?_ | refine Ops.nil (nqA ?_) | refine Ops.nil (nqX ?_) | refine Awp.skip (nqA ?_) | (refine o_add rfl rfl rfl rfl ?_ ?_; omega) | (refine o_calm rfl TtOk rfl rfl rfl ?_ (fun _ => ?_); exact nd) | (refine o_index rfl TtOk rfl rfl rfl rfl rfl rfl ?_ (getq_nat ?_) ?_; omega; omega) | (refine o_append TtOk rfl rfl rfl rfl rfl rfl rfl rfl rfl (by first | exact True.intro | exact rfl) rfl rfl (fun _ => rfl) ?_ ?_ (fun _ => ?_); ((repeat' (first | rw [List.length_append] | rw [List.length_map] | rw [List.length_cons] | rw [List.length_nil] | rw [List.length_take] | rw [List.length_drop])) <;> omega); ((repeat' (first | rw [List.length_append] | rw [List.length_map] | rw [List.length_cons] | rw [List.length_nil] | rw [List.length_take] | rw [List.length_drop])) <;> omega)) | refine a_condT rfl ?_ | refine o_callE rfl hcB ⟨nqS, sle_nilsl, True.intro⟩ rfl ?_)
      exact ⟨(2, _), [], (by decide : 2 ≤ 2), (by decide : 2 - 2 < 2 - 1), rfl, ⟨sle_i rfl, sle_i rfl, sle_sl rfl, sle_own, True.intro⟩, HLe.cons 67 rfl (HOLe.row (by show _ = List.map Itm.A (if (2 : Nat) = 0 then [] else if (2 : Nat) = 1 then cA else cA ++ cB); rw [if_neg (by decide), if_neg (by decide), List.map_append])) .nil⟩
    · rw [if_neg (by decide), if_neg (by decide)]
      repeat' (first | refine Awp.seq ?_ | refine Awp.region ?_ | refine Ops.nil (nqA ?_) | refine Awp.exit (nqA ?_) | refine Awp.ret (nqE ?_) | (refine o_calm rfl TtOk rfl rfl rfl ?_ (fun _ => ?_); exact nd) | refine a_condF rfl ?_)
      refine end_tmp rfl rfl rfl [67] [] (CLe.fz ?_) .nil ⟨rfl, rfl⟩ _ (.inl rfl)
      exact .head _
end Go.Proofs.YtcmgpkibjdbonaaGreat
set_option maxHeartbeats 16000000
set_option maxRecDepth 100000
namespace Go.Proofs.YtcmgpkibjdbonaaGreat
open Go Go.RowKit
def stp0 : Stp := ⟨[], [], []⟩
/-- What step.Make makes: parts, leaves that were, that are; the error. -/
def lbs (gone : List (List UInt8)) (fresh : List Lef) : List (List UInt8) := gone ++ fresh.map Lef.l
def spD (cI : List Itm) (cT fresh : List Lef) : Prop := cI.length = 1 ∧ cT.length = 0 ∧ 0 < fresh.length
instance (cI : List Itm) (cT fresh : List Lef) : Decidable (spD cI cT fresh) := by unfold spD; exact inferInstance
def mkSm (L : List Lef) (cI : List Itm) (cT fresh : List Lef) : List Itm := if spD cI cT fresh then (if L.length = 1 then [] else hlf L) else cI
def mkOl (L : List Lef) (cI : List Itm) (cT fresh : List Lef) : List Lef := if spD cI cT fresh then (if L.length = 1 then L else cT) else cT
def mkNw (L : List Lef) (cI : List Itm) (cT fresh : List Lef) : List Lef := if spD cI cT fresh then (if L.length = 1 then fresh ++ [L.headD lef0] else fresh) else fresh
def smkT (S : List Itm) (O N : List Lef) : Stp × Int := if chkI (topU S (srtL N)) ≠ 0 then (stp0, chkI (topU S (srtL N))) else (⟨S, O, srtL N⟩, 0)
def smkF (L : List Lef) (gone : List (List UInt8)) (fresh : List Lef) (cI : List Itm) (cT : List Lef) : Stp × Int :=
  if gone.all (fun g => cT.any (fun x => x.l == g)) = false then (stp0, 7)
  else if cT.all (fun x => gone.any (fun y => x.l == y)) = false then (stp0, 8)
  else smkT (mkSm L cI cT fresh) (mkOl L cI cT fresh) (mkNw L cI cT fresh)
def smk (L : List Lef) (gone : List (List UInt8)) (fresh : List Lef) : Stp × Int :=
  if 500 < gone.length ∨ 500 < fresh.length then (stp0, 2)
  else if cvE L ≠ 0 then (stp0, cvE L)
  else smkF L gone fresh (cvI L (lbs gone fresh)) (cvT L (lbs gone fresh))
theorem cvI_len (L : List Lef) (ls : List (List UInt8)) : (cvI L ls).length ≤ L.length := by
  unfold cvI
  split
  · have := (openF_len L.length ls (srtL L)).1
    rw [srtL_len] at this
    exact this
  · exact Nat.zero_le _
theorem cvT_len (L : List Lef) (ls : List (List UInt8)) : (cvT L ls).length ≤ L.length := by
  unfold cvT
  split
  · have := (openF_len L.length ls (srtL L)).2
    rw [srtL_len] at this
    exact this
  · exact Nat.zero_le _
theorem openF_ok : ∀ (k : Nat) (ls : List (List UInt8)) (l : List Lef), l.length ≤ k → RiseI (l.map leafI) → (∀ x ∈ l, x.ok) → ∀ x ∈ (openF k ls l).1, x.ok
  | 0, ls, l, hk, _, _, x, hx => by
    have : l = [] := List.length_eq_zero_iff.1 (by omega)
    subst this
    unfold openF at hx; cases hx
  | k + 1, ls, l, hk, hr, hok, x, hx => by
    unfold openF at hx
    by_cases h0 : l = []
    · rw [if_pos h0] at hx; cases hx
    rw [if_neg h0] at hx
    have hp : 0 < l.length := List.length_pos_iff.2 h0
    split at hx
    · rw [List.mem_singleton.1 hx]
      exact joinF_ok _ _ (fun he => h0 (List.map_eq_nil_iff.1 he)) (by rw [List.length_map]; exact Nat.le_refl _) hr (hok_map hok)
    split at hx
    · cases hx
    · rename_i h1 h2
      have hl2 : 2 ≤ l.length := by omega
      have hml : (l.map leafI).length = l.length := List.length_map ..
      obtain ⟨_, s0, s1, _⟩ := spl_ok hr (hok_map hok) (by omega)
      rcases List.mem_append.1 hx with hx | hx
      · exact openF_ok k ls _ (by rw [List.length_take]; omega) (by rw [List.map_take]; exact hr.sublist (List.take_sublist ..)) (fun y hy => hok y (List.mem_of_mem_take hy)) x hx
      · exact openF_ok k ls _ (by rw [List.length_drop]; omega) (by rw [List.map_drop]; exact hr.sublist (List.drop_sublist ..)) (fun y hy => hok y (List.mem_of_mem_drop hy)) x hx
theorem cvI_ok {L : List Lef} (ls : List (List UInt8)) (hok : ∀ x ∈ L, x.ok) : ∀ x ∈ cvI L ls, x.ok := fun x hx => by
  unfold cvI at hx
  split at hx
  · rename_i hc
    have hr : RiseI ((srtL L).map leafI) := by
      have h := (chkI_rise hc).2.1
      rw [itms_srt, itms_map] at h; exact h
    exact openF_ok L.length ls (srtL L) (by rw [srtL_len]; exact Nat.le_refl _) hr (fun y hy => hok y (srtL_mem.1 hy)) x hx
  · cases hx
theorem cvT_ok {L : List Lef} (ls : List (List UInt8)) (hok : ∀ x ∈ L, x.ok) : ∀ x ∈ cvT L ls, x ∈ L ∧ x.ok := fun x hx => by
  unfold cvT at hx
  split at hx
  · have := srtL_mem.1 (openF_mem L.length ls (srtL L) x hx)
    exact ⟨this, hok x this⟩
  · cases hx
theorem hlf_ok {L : List Lef} (hok : ∀ x ∈ L, x.ok) : ∀ x ∈ hlf L, x.ok := fun x hx => by
  rcases List.mem_append.1 hx with hx | hx
  · exact cvI_ok [] (fun y hy => hok y (List.mem_filter.1 hy).1) x hx
  · exact cvI_ok [] (fun y hy => hok y (List.mem_filter.1 hy).1) x hx
theorem hlf_len (L : List Lef) : (hlf L).length ≤ 2 * L.length := by
  unfold hlf
  rw [List.length_append]
  have a := cvI_len (hlA L) []
  have b := cvI_len (hlB L) []
  have c : (hlA L).length ≤ L.length := List.length_filter_le ..
  have d : (hlB L).length ≤ L.length := List.length_filter_le ..
  omega
theorem smake_spec (L : List Lef) (gone : List (List UInt8)) (fresh : List Lef) (hl : L.length ≤ 10000) (hg : gone.length ≤ 10000) (hf : fresh.length ≤ 10000) (hok : ∀ x ∈ L, x.ok) (hgo : ∀ x ∈ gone, x.length = 32) (hfo : ∀ x ∈ fresh, x.ok) : Spec Tryz.prog 10 [.sl 65 (L.map Lef.A), .sl 32 (gone.map labA), .sl 65 (fresh.map Lef.A)] [] (fun v os => v = .tup [(smk L gone fresh).1.A, .i .i64 (smk L gone fresh).2] ∧ os = []) := by
  have h1 := slabels_spec fresh (by omega)
  have h2 : Spec Tryz.prog 48 [.sl 1 [.sl 32 (gone.map labA), .sl 32 ((fresh.map Lef.l).map labA)]] [] (fun v os => v = .sl 32 ((lbs gone fresh).map labA) ∧ os = []) := by
    have := concatB_spec [gone, fresh.map Lef.l] (show 2 ≤ 100000 by decide) (by rw [fl_two, List.length_append, List.length_map]; omega)
    rw [fl_two] at this
    exact this
  have hlbl : (lbs gone fresh).length ≤ 20000 := by unfold lbs; rw [List.length_append, List.length_map]; omega
  have hlbo : ∀ x ∈ lbs gone fresh, x.length = 32 := fun x hx => by
    rcases List.mem_append.1 hx with hx | hx
    · exact hgo x hx
    · obtain ⟨y, hy, rfl⟩ := List.mem_map.1 hx
      exact (hfo y hy).1
  have h3 := cover_spec L (lbs gone fresh) (by omega) hok (by omega) hlbo
  have h4 := cloneL_spec (fresh.map Lef.A) (by rw [List.length_map]; omega)
  obtain ⟨W, hW⟩ : ∃ W, smk L gone fresh = W := ⟨_, rfl⟩
  rw [hW]
  unfold smk at hW
  refine spec_of TtOk [] Tryz.func10 rfl Tryz.ntmps10 (by kernel_rfl) rfl rfl (fun C => ?_) rfl
  by_cases hb : 500 < gone.length ∨ 500 < fresh.length
  · rw [if_pos hb] at hW
    subst hW
    repeat' (first | refine Awp.seq ?_ | refine Awp.region ?_ | refine Ops.nil (nqA ?_) | refine Awp.ret (nqE ?_) | refine o_noF rfl rfl rfl ?_ | refine o_len rfl TtOk rfl rfl rfl (fun _ => ?_) | (refine o_calm rfl TtOk rfl rfl rfl ?_ (fun _ => ?_); exact nd) | refine o_alloc (d := 6) rfl TtOk rfl rfl rfl (fun b6 => ?_) | refine o_store TtOk rfl rfl rfl rfl rfl rfl rfl ⟨rfl, rfl⟩ rfl rfl rfl rfl rfl ?_ | refine o_build TtOk rfl rfl rfl rfl rfl rfl nq1 ?_ | (fail_if_success (refine o_isLit rfl (by first | exact .inl rfl | exact .inr rfl) ?_)); (refine o_splitP rfl rfl (fun hc => ?_) (fun hc => ?_) <;> try (exfalso; omega)) | refine a_condT rfl ?_ | (refine a_condP rfl (fun hc => ?_) (fun hc => ?_)) <;> (try (exfalso; omega)))
    all_goals
      refine end_all [] [] (.tup [stp0.A, .i .i64 2]) rfl ?_ ?_ (rle_tup2 (CLe.agg (.cons CLe.nilsl (.cons CLe.nilsl (.cons CLe.nilsl .nil)))) (CLe.of_eq rfl) rfl rfl) .nil ⟨rfl, rfl⟩ _ (.inl rfl)
      · exact nq1
      · exact ⟨trivial, trivial, trivial⟩
  rw [if_neg hb] at hW
  by_cases hc : cvE L ≠ 0
  · rw [if_pos hc] at hW
    subst hW
    generalize cvE L = ce at *
    generalize cvI L (lbs gone fresh) = cI at *
    generalize cvT L (lbs gone fresh) = cT at *
    repeat' (first | (refine o_freezeR 33 33 rfl rfl rfl ?_) | (refine o_freezeR 31 31 rfl rfl rfl ?_) | refine Awp.seq ?_ | refine Awp.region ?_ | refine Ops.nil (nqA ?_) | refine Awp.skip (nqA ?_) | refine Awp.ret (nqE ?_) | refine o_len rfl TtOk rfl rfl rfl (fun _ => ?_) | (refine o_calm rfl TtOk rfl rfl rfl ?_ (fun _ => ?_); exact nd) | refine o_alloc (d := 6) rfl TtOk rfl rfl rfl (fun b6 => ?_) | refine o_store TtOk rfl rfl rfl rfl rfl rfl rfl ⟨rfl, rfl⟩ rfl rfl rfl rfl rfl ?_ | refine o_build TtOk rfl rfl rfl rfl rfl rfl nq1 ?_ | refine o_buildSlice TtOk rfl rfl rfl rfl rfl rfl rfl rfl rfl rfl rfl nq1 (fun _ => ?_) | (fail_if_success (refine o_isLit rfl (by first | exact .inl rfl | exact .inr rfl) ?_)); (refine o_splitP rfl rfl (fun hc => ?_) (fun hc => ?_) <;> try (exfalso; omega)) | (refine a_condP rfl (fun hc => ?_) (fun hc => ?_)) <;> (try (exfalso; omega)) | (refine a_condN rfl (fun hc => ?_) (fun hc => ?_)) <;> (try (exfalso; omega)) | refine o_callE rfl (h1) ⟨nqS, True.intro⟩ rfl ?_ | refine o_callE rfl (h2) ⟨nqS, True.intro⟩ rfl ?_ | refine o_callE rfl (h3) ⟨nqS, nqS, True.intro⟩ rfl ?_)
    all_goals
      refine end_all [] [] (.tup [stp0.A, .i .i64 ce]) rfl ?_ ?_ (rle_tup2 (CLe.agg (.cons CLe.nilsl (.cons CLe.nilsl (.cons CLe.nilsl .nil)))) (CLe.of_eq rfl) rfl rfl) .nil ⟨rfl, rfl⟩ _ (.inl rfl)
      · exact nq1
      · exact ⟨trivial, trivial, trivial⟩
  rw [if_neg hc] at hW
  have hc := Decidable.not_not.1 hc
  have hcm : mkE L = 0 := by unfold cvE at hc; rw [itms_srt] at hc; exact hc
  rw [hc] at h3
  have lI := cvI_len L (lbs gone fresh)
  have lT := cvT_len L (lbs gone fresh)
  have okI := cvI_ok (lbs gone fresh) hok
  have okT := fun x hx => (cvT_ok (lbs gone fresh) hok x hx).2
  generalize cvI L (lbs gone fresh) = cI at *
  generalize cvT L (lbs gone fresh) = cT at *
  repeat' (first | (refine o_freezeR 33 33 rfl rfl rfl ?_) | (refine o_freezeR 31 31 rfl rfl rfl ?_) | refine Awp.seq ?_ | refine Awp.block ?_ | refine Awp.region ?_ | refine Ops.nil (nqA ?_) | refine Awp.skip (nqA ?_) | refine o_len rfl TtOk rfl rfl rfl (fun _ => ?_) | (refine o_calm rfl TtOk rfl rfl rfl ?_ (fun _ => ?_); exact nd) | refine o_alloc (d := 6) rfl TtOk rfl rfl rfl (fun b6 => ?_) | refine o_alloc (d := 11) rfl TtOk rfl rfl rfl (fun b11 => ?_) | refine o_store TtOk rfl rfl rfl rfl rfl rfl rfl ⟨rfl, rfl⟩ rfl rfl rfl rfl rfl ?_ | refine o_build TtOk rfl rfl rfl rfl rfl rfl nq1 ?_ | refine o_buildSlice TtOk rfl rfl rfl rfl rfl rfl rfl rfl rfl rfl rfl nq1 (fun _ => ?_) | (fail_if_success (refine o_isLit rfl (by first | exact .inl rfl | exact .inr rfl) ?_)); (refine o_splitP rfl rfl (fun hc => ?_) (fun hc => ?_) <;> try (exfalso; omega)) | refine a_condF rfl ?_ | (refine a_condP rfl (fun hc => ?_) (fun hc => ?_)) <;> (try (exfalso; omega)) | (refine o_callR rfl h4 ⟨nqS, True.intro⟩ rfl (fun vR => ?_)) | refine o_callE rfl (h1) ⟨nqS, True.intro⟩ rfl ?_ | refine o_callE rfl (h2) ⟨nqS, True.intro⟩ rfl ?_ | refine o_callE rfl (h3) ⟨nqS, nqS, True.intro⟩ rfl ?_)
  refine Awp.loop (fun i : Nat => ⟨120, [(50, .i .i64 i), (49, .i .i64 gone.length), (48, .sl 32 (gone.map labA)), (9, .sl 65 (cT.map Lef.A)), (8, .sl 66 (cI.map Itm.A)), (1, .sl 32 (gone.map labA)), (2, .sl 65 (fresh.map Lef.A)), (0, .sl 65 (L.map Lef.A)), (11, .ptr 11 b11 [] 0), (6, .ptr 6 b6 [] 0)], [(11, .var b11 (.agg [.sl 66 (cI.map Itm.A), .sl 65 (cT.map Lef.A), .own 46 vR])), (46, .row vR 46 65 (fresh.map Lef.A)), (6, .var b6 (.agg [.nil, .nil, .nil]))]⟩) (fun i => i ≤ gone.length ∧ ∀ j (h : j < gone.length), j < i → cT.any (fun x => x.l == gone[j]) = true) (fun i => gone.length - i) [] 0 ⟨Nat.zero_le _, fun _ _ h => absurd h (Nat.not_lt_zero _)⟩ ?_ ?_
  · exact ⟨rfl, ⟨sle_i rfl, sle_i rfl, sle_sl rfl, sle_sl rfl, sle_sl rfl, sle_sl rfl, sle_sl rfl, sle_sl rfl, sle_ptr, sle_ptr, True.intro⟩, HLe.cons 11 rfl (HOLe.refl _) (HLe.cons 46 rfl (HOLe.refl _) (HLe.cons 6 rfl (HOLe.refl _) .nil))⟩
  clear h1 h2 h3 h4
  rintro i ⟨hi, hin⟩
  by_cases hlt : i < gone.length
  · have hi1 : ((i : Int) + 1 = ((i + 1 : Nat) : Int)) := by omega
    have hct := ctL_spec cT 52 [.cp (labA gone[i])] rfl (fun x => x.l == gone[i]) (fun x _ => smk1_spec x gone[i]) (by omega)
    cases ha : cT.any (fun x => x.l == gone[i]) with
    | true =>
      rw [ha] at hct
      repeat' (first | (refine a_freezeV 13 13 rfl rfl rfl ?_) | refine Awp.seq ?_ | refine Awp.block ?_ | refine Awp.region ?_ | refine Ops.nil (nqA ?_) | refine Ops.nil (nqX ?_) | refine Awp.skip (nqA ?_) | (refine o_add rfl rfl rfl rfl ?_ ?_; omega) | (refine o_calm rfl TtOk rfl rfl rfl ?_ (fun _ => ?_); exact nd) | refine o_alloc (d := 13) rfl TtOk rfl rfl rfl (fun b13 => ?_) | refine o_store TtOk rfl rfl rfl rfl rfl rfl rfl ⟨rfl, rfl⟩ rfl rfl rfl rfl rfl ?_ | (refine o_index rfl TtOk rfl rfl rfl rfl rfl rfl ?_ (getq_nat ?_) ?_; omega; omega) | refine a_condF rfl ?_ | (refine a_condP rfl (fun hc => ?_) (fun hc => ?_)) <;> (try (exfalso; omega)) | (refine o_makeFunc1 rfl rfl rfl rfl rfl ?_) | refine o_callE rfl (hct) ⟨nqS, nqS, True.intro⟩ rfl ?_)
      all_goals
        exact ⟨i + 1, [], ⟨hlt, fun j h hj => by
          rcases Nat.lt_succ_iff_lt_or_eq.1 hj with h2 | rfl
          · exact hin j h h2
          · exact ha⟩, by omega, rfl, ⟨sle_i hi1, sle_i rfl, sle_sl rfl, sle_sl rfl, sle_sl rfl, sle_sl rfl, sle_sl rfl, sle_sl rfl, sle_ptr, sle_ptr, True.intro⟩, HLe.cons 11 rfl (HOLe.refl _) (HLe.cons 46 rfl (HOLe.refl _) (HLe.cons 6 rfl (HOLe.refl _) .nil))⟩
    | false =>
      rw [ha] at hct
      have hal : gone.all (fun g => cT.any (fun x => x.l == g)) = false := by
        rw [List.all_eq_false]
        exact ⟨gone[i], List.getElem_mem hlt, by rw [ha]; decide⟩
      unfold smkF at hW
      rw [if_pos hal] at hW
      subst hW
      repeat' (first | (refine a_freezeV 13 13 rfl rfl rfl ?_) | refine Awp.seq ?_ | refine Awp.block ?_ | refine Awp.region ?_ | refine Ops.nil (nqA ?_) | refine Awp.skip (nqA ?_) | refine Awp.ret (nqE ?_) | (refine o_calm rfl TtOk rfl rfl rfl ?_ (fun _ => ?_); exact nd) | refine o_alloc (d := 13) rfl TtOk rfl rfl rfl (fun b13 => ?_) | refine o_store TtOk rfl rfl rfl rfl rfl rfl rfl ⟨rfl, rfl⟩ rfl rfl rfl rfl rfl ?_ | (refine o_index rfl TtOk rfl rfl rfl rfl rfl rfl ?_ (getq_nat ?_) ?_; omega; omega) | refine o_build TtOk rfl rfl rfl rfl rfl rfl nq1 ?_ | refine a_condT rfl ?_ | (refine a_condP rfl (fun hc => ?_) (fun hc => ?_)) <;> (try (exfalso; omega)) | (refine o_makeFunc1 rfl rfl rfl rfl rfl ?_) | refine o_callE rfl (hct) ⟨nqS, nqS, True.intro⟩ rfl ?_)
      all_goals
        refine end_all [] [] (.tup [stp0.A, .i .i64 7]) rfl ?_ ?_ (rle_tup2 (CLe.agg (.cons CLe.nilsl (.cons CLe.nilsl (.cons CLe.nilsl .nil)))) (CLe.of_eq rfl) rfl rfl) .nil ⟨rfl, rfl⟩ _ (.inl rfl)
        · exact nq1
        · exact ⟨trivial, trivial, trivial⟩
  have hie : i = gone.length := by omega
  have hal : gone.all (fun g => cT.any (fun x => x.l == g)) = true := by
    rw [List.all_eq_true]
    intro g hgm
    obtain ⟨j, hj, rfl⟩ := List.getElem_of_mem hgm
    exact hin j hj (by omega)
  unfold smkF at hW
  rw [if_neg (by rw [hal]; decide)] at hW
  clear hin hal
  subst hie
  repeat' (first | refine Awp.seq ?_ | refine Awp.block ?_ | refine Awp.region ?_ | refine Ops.nil (nqA ?_) | refine Awp.exit (nqA ?_) | refine o_len rfl TtOk rfl rfl rfl (fun _ => ?_) | (refine o_calm rfl TtOk rfl rfl rfl ?_ (fun _ => ?_); exact nd) | (refine a_condP rfl (fun hc => ?_) (fun hc => ?_)) <;> (try (exfalso; omega)))
  refine Awp.loop (fun i : Nat => ⟨120, [(62, .i .i64 i), (61, .i .i64 cT.length), (60, .sl 65 (cT.map Lef.A)), (9, .sl 65 (cT.map Lef.A)), (8, .sl 66 (cI.map Itm.A)), (1, .sl 32 (gone.map labA)), (2, .sl 65 (fresh.map Lef.A)), (0, .sl 65 (L.map Lef.A)), (11, .ptr 11 b11 [] 0), (6, .ptr 6 b6 [] 0)], [(11, .var b11 (.agg [.sl 66 (cI.map Itm.A), .sl 65 (cT.map Lef.A), .own 46 vR])), (46, .row vR 46 65 (fresh.map Lef.A)), (6, .var b6 (.agg [.nil, .nil, .nil]))]⟩) (fun i => i ≤ cT.length ∧ ∀ j (h : j < cT.length), j < i → gone.any (fun y => cT[j].l == y) = true) (fun i => cT.length - i) [] 0 ⟨Nat.zero_le _, fun _ _ h => absurd h (Nat.not_lt_zero _)⟩ ?_ ?_
  · exact ⟨rfl, ⟨sle_i rfl, sle_i rfl, sle_sl rfl, sle_sl rfl, sle_sl rfl, sle_sl rfl, sle_sl rfl, sle_sl rfl, sle_ptr, sle_ptr, True.intro⟩, HLe.cons 11 rfl (HOLe.refl _) (HLe.cons 46 rfl (HOLe.refl _) (HLe.cons 6 rfl (HOLe.refl _) .nil))⟩
  rintro i ⟨hi, hin⟩
  by_cases hlt : i < cT.length
  · have hi1 : ((i : Int) + 1 = ((i + 1 : Nat) : Int)) := by omega
    have hcn := conB_spec gone cT[i].l (by omega)
    cases ha : gone.any (fun y => cT[i].l == y) with
    | true =>
      rw [ha] at hcn
      repeat' (first | refine Awp.seq ?_ | refine Awp.block ?_ | refine Awp.region ?_ | refine Ops.nil (nqA ?_) | refine Ops.nil (nqX ?_) | refine Awp.skip (nqA ?_) | (refine o_add rfl rfl rfl rfl ?_ ?_; omega) | (refine o_calm rfl TtOk rfl rfl rfl ?_ (fun _ => ?_); exact nd) | refine o_alloc (d := 15) rfl TtOk rfl rfl rfl (fun b15 => ?_) | refine o_store TtOk rfl rfl rfl rfl rfl rfl rfl ⟨rfl, rfl⟩ rfl rfl rfl rfl rfl ?_ | (refine o_index rfl TtOk rfl rfl rfl rfl rfl rfl ?_ (getq_nat ?_) ?_; omega; omega) | refine a_condF rfl ?_ | (refine a_condP rfl (fun hc => ?_) (fun hc => ?_)) <;> (try (exfalso; omega)) | refine o_callE rfl (hcn) ⟨nqS, nqS, True.intro⟩ rfl ?_)
      all_goals
        exact ⟨i + 1, [], ⟨hlt, fun j h hj => by
          rcases Nat.lt_succ_iff_lt_or_eq.1 hj with h2 | rfl
          · exact hin j h h2
          · exact ha⟩, by omega, rfl, ⟨sle_i hi1, sle_i rfl, sle_sl rfl, sle_sl rfl, sle_sl rfl, sle_sl rfl, sle_sl rfl, sle_sl rfl, sle_ptr, sle_ptr, True.intro⟩, HLe.cons 11 rfl (HOLe.refl _) (HLe.cons 46 rfl (HOLe.refl _) (HLe.cons 6 rfl (HOLe.refl _) .nil))⟩
    | false =>
      rw [ha] at hcn
      have hal : cT.all (fun x => gone.any (fun y => x.l == y)) = false := by
        rw [List.all_eq_false]
        exact ⟨cT[i], List.getElem_mem hlt, by rw [ha]; decide⟩
      rw [if_pos hal] at hW
      subst hW
      repeat' (first | refine Awp.seq ?_ | refine Awp.block ?_ | refine Awp.region ?_ | refine Ops.nil (nqA ?_) | refine Awp.skip (nqA ?_) | refine Awp.ret (nqE ?_) | (refine o_calm rfl TtOk rfl rfl rfl ?_ (fun _ => ?_); exact nd) | refine o_alloc (d := 15) rfl TtOk rfl rfl rfl (fun b15 => ?_) | refine o_store TtOk rfl rfl rfl rfl rfl rfl rfl ⟨rfl, rfl⟩ rfl rfl rfl rfl rfl ?_ | (refine o_index rfl TtOk rfl rfl rfl rfl rfl rfl ?_ (getq_nat ?_) ?_; omega; omega) | refine o_build TtOk rfl rfl rfl rfl rfl rfl nq1 ?_ | refine a_condT rfl ?_ | (refine a_condP rfl (fun hc => ?_) (fun hc => ?_)) <;> (try (exfalso; omega)) | refine o_callE rfl (hcn) ⟨nqS, nqS, True.intro⟩ rfl ?_)
      all_goals
        refine end_all [] [] (.tup [stp0.A, .i .i64 8]) rfl ?_ ?_ (rle_tup2 (CLe.agg (.cons CLe.nilsl (.cons CLe.nilsl (.cons CLe.nilsl .nil)))) (CLe.of_eq rfl) rfl rfl) .nil ⟨rfl, rfl⟩ _ (.inl rfl)
        · exact nq1
        · exact ⟨trivial, trivial, trivial⟩
  have hie : i = cT.length := by omega
  have hal : cT.all (fun x => gone.any (fun y => x.l == y)) = true := by
    rw [List.all_eq_true]
    intro g hgm
    obtain ⟨j, hj, rfl⟩ := List.getElem_of_mem hgm
    exact hin j hj (by omega)
  rw [if_neg (by rw [hal]; decide)] at hW
  clear hin hal
  subst hie
  refine Awp.seq ?_
  repeat' (first | refine Awp.region ?_ | refine Ops.nil (nqA ?_) | (refine o_calm rfl TtOk rfl rfl rfl ?_ (fun _ => ?_); exact nd))
  refine Awp.seq ?_
  refine a_condP rfl (fun hc => absurd hc (by omega)) (fun hc => ?_)
  refine Awp.exit ?_
  show Awp _ _ _ _ _
  refine Awp.seqI (X := List Itm × List Lef × List Lef × Value) (fun q => ⟨120, [(11, .ptr 11 b11 [] 0), (6, .ptr 6 b6 [] 0)], [(11, .var b11 (.agg [.sl 66 (q.1.map Itm.A), .sl 65 (q.2.1.map Lef.A), .own 46 q.2.2.2])), (46, .row q.2.2.2 46 65 (q.2.2.1.map Lef.A)), (6, .var b6 (.agg [.nil, .nil, .nil]))]⟩) (fun q => (q.1.length ≤ 20000 ∧ (∀ x ∈ q.1, x.ok)) ∧ (q.2.2.1.length ≤ 10001 ∧ ∀ x ∈ q.2.2.1, x.ok) ∧ smkT q.1 q.2.1 q.2.2.1 = W) ?_ ?_
  · unfold mkSm mkOl mkNw at hW
    by_cases hsp : spD cI cT fresh
    · rw [if_pos hsp, if_pos hsp, if_pos hsp] at hW
      obtain ⟨p1, p2, p3⟩ := hsp
      by_cases hL1 : L.length = 1
      · rw [if_pos hL1, if_pos hL1, if_pos hL1] at hW
        have hp : 0 < L.length := by omega
        have hd : L.headD lef0 = L[0] := by
          match L, hp with
          | _ :: _, _ => rfl
        rw [hd] at hW
        have h5 := cloneL_spec (L.map Lef.A) (by rw [List.length_map]; omega)
        have hfr : (fresh ++ [L[0]]).length ≤ 10001 := by rw [List.length_append, List.length_singleton]; omega
        have hfro : ∀ x ∈ fresh ++ [L[0]], x.ok := fun x hx => by
          rcases List.mem_append.1 hx with hx | hx
          · exact hfo x hx
          · rw [List.mem_singleton.1 hx]; exact hok _ (List.getElem_mem hp)
        repeat' (first | refine Awp.seq ?_ | refine Awp.region ?_ | refine Ops.nil (nqA ?_) | refine o_len rfl TtOk rfl rfl rfl (fun _ => ?_) | (refine o_calm rfl TtOk rfl rfl rfl ?_ (fun _ => ?_); exact nd) | refine o_store TtOk rfl rfl rfl rfl rfl rfl rfl ⟨rfl, rfl⟩ rfl rfl rfl rfl rfl ?_ | (refine o_index rfl TtOk rfl rfl rfl rfl rfl rfl ?_ (getq_nat ?_) ?_; omega; omega) | refine o_buildSlice (d := 96) TtOk rfl rfl rfl rfl rfl rfl rfl rfl rfl rfl rfl nq1 (fun v96 => ?_) | (refine o_append TtOk rfl rfl rfl rfl rfl rfl rfl rfl rfl (by first | exact True.intro | exact rfl) rfl rfl (fun _ => rfl) ?_ ?_ (fun _ => ?_); ((repeat' (first | rw [List.length_append] | rw [List.length_map] | rw [List.length_cons] | rw [List.length_nil] | rw [List.length_take] | rw [List.length_drop])) <;> omega); ((repeat' (first | rw [List.length_append] | rw [List.length_map] | rw [List.length_cons] | rw [List.length_nil] | rw [List.length_take] | rw [List.length_drop])) <;> omega)) | (fail_if_success (refine o_isLit rfl (by first | exact .inl rfl | exact .inr rfl) ?_)); (refine o_splitP rfl rfl (fun hc => ?_) (fun hc => ?_) <;> try (exfalso; omega)) | (refine a_condP rfl (fun hc => ?_) (fun hc => ?_)) <;> (try (exfalso; omega)) | (refine Ops.nil ?_; show AnyT _ _ _ _ _ _ _ _ _ _) | refine a_anyT 21 [11, 46, 96] [92, 95] [90, 96] (by kernel_rfl) (by kernel_rfl) (n := 15) (listed := [false, false, false, false, false, false, false, false, false, false, false, false, false, false, false].toArray) rfl (by kernel_rfl) ?_ | refine t_path (n := 15) (listed := [false, false, false, false, false, false, false, false, false, false, false, false, false, false, false].toArray) [0, 2, 4, 5, 3, 9, 6] 8 [true, false, true, true, true, true, true, false, false, true, false, false, false, false, false] (by kernel_rfl) rfl rfl rfl (by kernel_rfl) ?_ | refine t_two (n := 8) (listed := [true, false, true, true, true, true, true, false, false, true, false, false, false, false, false].toArray) 1 7 [true, true, true, true, true, true, true, false, false, true, false, false, false, false, false] [true, false, true, true, true, true, true, true, false, true, false, false, false, false, false] rfl (by kernel_rfl) rfl rfl (by kernel_rfl) (by kernel_rfl) ?_ ?_ | refine t_path (n := 7) (listed := [true, true, true, true, true, true, true, false, false, true, false, false, false, false, false].toArray) [7, 8, 10, 11, 12, 13, 14] 0 [true, true, true, true, true, true, true, true, true, true, true, true, true, true, true] (by kernel_rfl) rfl rfl rfl (by kernel_rfl) ?_ | refine t_fin (n := 0) (listed := [true, true, true, true, true, true, true, true, true, true, true, true, true, true, true].toArray) (by kernel_rfl) ?_ | refine t_path (n := 7) (listed := [true, false, true, true, true, true, true, true, false, true, false, false, false, false, false].toArray) [1, 8, 10, 11, 12, 13, 14] 0 [true, true, true, true, true, true, true, true, true, true, true, true, true, true, true] (by kernel_rfl) rfl rfl rfl (by kernel_rfl) ?_ | (refine o_callR rfl h5 ⟨nqS, True.intro⟩ rfl (fun vR2 => ?_)))
        all_goals show Exists _
        all_goals
          exact ⟨([], L, fresh ++ [L[0]], _), [90], ⟨⟨Nat.zero_le _, fun x hx => by cases hx⟩, ⟨hfr, hfro⟩, hW⟩, rfl, ⟨sle_ptr, sle_ptr, True.intro⟩, HLe.cons 11 rfl (HOLe.var (CLe.agg (.cons CLe.nilsl (.cons (CLe.fz (.head _)) (.cons CLe.own .nil))))) (HLe.cons 46 rfl (HOLe.row (by rw [List.map_append]; rfl)) (HLe.cons 6 rfl (HOLe.refl _) .nil))⟩
      · rw [if_neg hL1, if_neg hL1, if_neg hL1] at hW
        have h6 := halves_spec L (by omega) hok (by omega) hcm
        have hhl := hlf_len L
        have hho := hlf_ok hok
        generalize hlf L = H at *
        repeat' (first | refine Awp.seq ?_ | refine Awp.region ?_ | refine Ops.nil (nqA ?_) | refine Ops.nil (nqX ?_) | refine o_len rfl TtOk rfl rfl rfl (fun _ => ?_) | (refine o_calm rfl TtOk rfl rfl rfl ?_ (fun _ => ?_); exact nd) | refine o_store TtOk rfl rfl rfl rfl rfl rfl rfl ⟨rfl, rfl⟩ rfl rfl rfl rfl rfl ?_ | (fail_if_success (refine o_isLit rfl (by first | exact .inl rfl | exact .inr rfl) ?_)); (refine o_splitP rfl rfl (fun hc => ?_) (fun hc => ?_) <;> try (exfalso; omega)) | (refine a_condP rfl (fun hc => ?_) (fun hc => ?_)) <;> (try (exfalso; omega)) | refine o_callE rfl (h6) ⟨nqS, True.intro⟩ rfl ?_)
        all_goals
          exact ⟨(H, cT, fresh, vR), [], ⟨⟨by show H.length ≤ 20000; omega, hho⟩, ⟨by show fresh.length ≤ 10001; omega, hfo⟩, hW⟩, rfl, ⟨sle_ptr, sle_ptr, True.intro⟩, HLe.cons 11 rfl (HOLe.refl _) (HLe.cons 46 rfl (HOLe.refl _) (HLe.cons 6 rfl (HOLe.refl _) .nil))⟩
    · rw [if_neg hsp, if_neg hsp, if_neg hsp] at hW
      unfold spD at hsp
      repeat' (first | refine Awp.seq ?_ | refine Awp.region ?_ | refine Ops.nil (nqA ?_) | refine Awp.skip (nqX ?_) | refine o_noT rfl rfl rfl ?_ | refine o_len rfl TtOk rfl rfl rfl (fun _ => ?_) | (refine o_calm rfl TtOk rfl rfl rfl ?_ (fun _ => ?_); exact nd) | (fail_if_success (refine o_isLit rfl (by first | exact .inl rfl | exact .inr rfl) ?_)); (refine o_splitP rfl rfl (fun hc => ?_) (fun hc => ?_) <;> try (exfalso; omega)) | refine a_condF rfl ?_ | (refine a_condP rfl (fun hc => ?_) (fun hc => ?_)) <;> (try (exfalso; omega)))
      all_goals
        exact ⟨(cI, cT, fresh, vR), [], ⟨⟨by show cI.length ≤ 20000; omega, okI⟩, ⟨by show fresh.length ≤ 10001; omega, hfo⟩, hW⟩, rfl, ⟨sle_ptr, sle_ptr, True.intro⟩, HLe.cons 11 rfl (HOLe.refl _) (HLe.cons 46 rfl (HOLe.refl _) (HLe.cons 6 rfl (HOLe.refl _) .nil))⟩
  clear hW
  rintro ⟨S, O, N, v⟩ ⟨⟨s1, s2⟩, ⟨n1, n2⟩, hW⟩
  dsimp only at s1 s2 n1 n2 hW ⊢
  unfold smkT at hW
  have h7 := fun v => sortStable_specL v 56 [] rfl ordL smk2_spec woL N (by omega)
  have hs : sortS (ltCL ordL) N = srtL N := rfl
  rw [hs] at h7
  have hnl : (srtL N).length ≤ 10001 := by rw [srtL_len]; exact n1
  have hno : ∀ x ∈ srtL N, x.ok := fun x hx => n2 x (srtL_mem.1 hx)
  generalize srtL N = R at *
  have h8 := top19_spec S R (by omega) (by omega) s2 hno
  refine Awp.seq ?_
  repeat' (first | refine Awp.region ?_ | refine Ops.nil (nqA ?_) | (refine o_calm rfl TtOk rfl rfl rfl ?_ (fun _ => ?_); exact nd) | (refine o_call [] [46] [46] rfl (h7 _) ⟨sle_own, nqS, True.intro⟩ rfl ⟨HOLe.refl _, True.intro⟩ rfl rfl ?_; rintro _ _ ⟨rfl, rfl⟩; refine ⟨_, rfl, rfl, ?_⟩))
  refine Awp.weaken [46] (S' := ⟨120, [(11, .ptr 11 b11 [] 0), (6, .ptr 6 b6 [] 0)], [(11, .var b11 (.agg [.sl 66 (S.map Itm.A), .sl 65 (O.map Lef.A), .sl 65 (R.map Lef.A)])), (6, .var b6 (.agg [.nil, .nil, .nil]))]⟩) ⟨rfl, ⟨sle_ptr, sle_ptr, True.intro⟩, HLe.cons 11 rfl (HOLe.var (CLe.agg (.cons (CLe.of_eq rfl) (.cons (CLe.of_eq rfl) (.cons (CLe.fz (.head _)) .nil))))) (HLe.cons 6 rfl (HOLe.refl _) .nil)⟩ ?_
  clear h7
  generalize topS (topU S R) = ts at *
  generalize chkI (topU S R) = te at *
  by_cases ht : te ≠ 0
  · rw [if_pos ht] at hW
    subst hW
    repeat' (first | refine Awp.seq ?_ | refine Awp.region ?_ | refine Ops.nil (nqA ?_) | refine Awp.ret (nqE ?_) | (refine o_calm rfl TtOk rfl rfl rfl ?_ (fun _ => ?_); exact nd) | refine o_alloc (d := 16) rfl TtOk rfl rfl rfl (fun b16 => ?_) | refine o_store TtOk rfl rfl rfl rfl rfl rfl rfl ⟨rfl, rfl⟩ rfl rfl rfl rfl rfl ?_ | refine o_build TtOk rfl rfl rfl rfl rfl rfl nq1 ?_ | (refine a_condN rfl (fun hc => ?_) (fun hc => ?_)) <;> (try (exfalso; omega)) | refine o_callE rfl (h8) ⟨nqS, nqS, True.intro⟩ rfl ?_)
    all_goals
      refine end_all [] [] (.tup [stp0.A, .i .i64 te]) rfl ?_ ?_ (rle_tup2 (CLe.agg (.cons CLe.nilsl (.cons CLe.nilsl (.cons CLe.nilsl .nil)))) (CLe.of_eq rfl) rfl rfl) .nil ⟨rfl, rfl⟩ _ (.inl rfl)
      · exact nq1
      · exact ⟨trivial, trivial, trivial⟩
  · rw [if_neg ht] at hW
    have ht := Decidable.not_not.1 ht
    subst ht
    subst hW
    repeat' (first | refine Awp.seq ?_ | refine Awp.region ?_ | refine Ops.nil (nqA ?_) | refine Awp.skip (nqA ?_) | refine Awp.ret (nqE ?_) | (refine o_calm rfl TtOk rfl rfl rfl ?_ (fun _ => ?_); exact nd) | refine o_alloc (d := 16) rfl TtOk rfl rfl rfl (fun b16 => ?_) | refine o_store TtOk rfl rfl rfl rfl rfl rfl rfl ⟨rfl, rfl⟩ rfl rfl rfl rfl rfl ?_ | refine a_condF rfl ?_ | refine o_callE rfl (h8) ⟨nqS, nqS, True.intro⟩ rfl ?_)
    all_goals
      refine end_all [] [] (.tup [(⟨S, O, R⟩ : Stp).A, .i .i64 0]) rfl ?_ ?_ (rle_tup2 (CLe.of_eq rfl) (CLe.of_eq rfl) rfl rfl) .nil ⟨rfl, rfl⟩ _ (.inl rfl)
      · exact nq1
      · exact ⟨trivial, trivial, trivial⟩
end Go.Proofs.YtcmgpkibjdbonaaGreat
