/- slices.ContainsFunc of leaves, slices.Contains of labels, step.halves by rules. -/
import Derived.Test.YtcmgpkibjdbonaaGreatC2Z
import Derived.Test.YtcmgpkibjdbonaaGreatV30Z
import Derived.Test.YtcmgpkibjdbonaaGreatV31Z
import Derived.Test.YtcmgpkibjdbonaaGreatGFZ
import Derived.Test.YtcmgpkibjdbonaaGreatKW2Z
set_option maxHeartbeats 16000000
set_option maxRecDepth 100000
namespace Go.Proofs.YtcmgpkibjdbonaaGreat
open Go Go.RowKit
theorem ctL_spec (l : List Lef) (f : Nat) (caps : List AV) (ho : caps.all isOne = true) (p : Lef → Bool) (hf : ∀ x ∈ l, Spec Tryz.prog f ([x.A] ++ caps) [] (fun v os => v = .b (p x) ∧ os = [])) (hl : l.length ≤ 100000) :
    Spec Tryz.prog 51 [.sl 65 (l.map Lef.A), .fn (.func f) caps] [] (fun v os => v = .b (l.any p) ∧ os = []) := by
  refine spec_of TtOk [] Tryz.func51 rfl Tryz.ntmps51 (by kernel_rfl) rfl rfl (fun C => ?_) rfl
  have h1 := ixL_spec l f caps ho p hf hl
  cases hm : l.any p with
  | true =>
    rw [if_pos hm] at h1
    generalize l.findIdx p = i at h1
    repeat' (first | refine Awp.seq ?_ | refine Awp.region ?_ | (refine Ops.nil ?_; show Awp _ _ _ _ _) | (refine Awp.ret ?_; show endK _ _ _ _ _) | (refine o_calm rfl TtOk rfl rfl rfl ?_ (fun _ => ?_); exact nd) | (refine o_call0 rfl (h1) ⟨SLe.of_eq rfl, SLe.of_eq rfl, True.intro⟩ rfl ?_; rintro _ _ ⟨rfl, rfl⟩; refine ⟨rfl, ?_⟩))
    refine end_tmp rfl rfl rfl [] [] (CLe.of_eq ?_) .nil ⟨rfl, rfl⟩ _ (.inl rfl)
    exact congrArg AV.b (decide_eq_true (by omega))
  | false =>
    rw [if_neg (by rw [hm]; decide)] at h1
    repeat' (first | refine Awp.seq ?_ | refine Awp.region ?_ | (refine Ops.nil ?_; show Awp _ _ _ _ _) | (refine Awp.ret ?_; show endK _ _ _ _ _) | (refine o_calm rfl TtOk rfl rfl rfl ?_ (fun _ => ?_); exact nd) | (refine o_call0 rfl (h1) ⟨SLe.of_eq rfl, SLe.of_eq rfl, True.intro⟩ rfl ?_; rintro _ _ ⟨rfl, rfl⟩; refine ⟨rfl, ?_⟩))
    exact end_tmp rfl rfl rfl [] [] (CLe.of_eq rfl) .nil ⟨rfl, rfl⟩ _ (.inl rfl)
theorem smk1_spec (x : Lef) (g : List UInt8) : Spec Tryz.prog 52 ([x.A] ++ [.cp (labA g)]) [] (fun v os => v = .b (x.l == g) ∧ os = []) := by
  show Spec Tryz.prog 52 [.agg [labA x.l, labA x.v, .i .i64 x.t], .cp (labA g)] [] _
  refine spec_of TtOk [] Tryz.func52 rfl Tryz.ntmps52 (by kernel_rfl) rfl rfl (fun C => ?_) rfl
  repeat' (first | refine Awp.seq ?_ | refine Awp.region ?_ | (refine Ops.nil ?_; show Awp _ _ _ _ _) | (refine Awp.ret ?_; show endK _ _ _ _ _) | (refine o_calm rfl TtOk rfl rfl rfl ?_ (fun _ => ?_); exact nd) | refine o_box (d := 2) rfl rfl rfl rfl (fun b2 => ?_) | refine o_eqArr8 TtOk rfl rfl rfl rfl rfl rfl (by kernel_rfl) ?_)
  exact end_tmp rfl rfl rfl [] [] (CLe.of_eq rfl) .nil ⟨rfl, rfl⟩ _ (.inl rfl)
theorem smk2_spec (x y : Lef) : Spec Tryz.prog 56 ([x.A, y.A] ++ []) [] (fun v os => v = .i .i64 (ordL x y) ∧ os = []) := by
  have h1 := border_spec x.l y.l
  have ho : ordL x y = cmpS x.l y.l := rfl
  rw [ho]
  generalize cmpS x.l y.l = c at h1 ⊢
  show Spec Tryz.prog 56 [.agg [labA x.l, labA x.v, .i .i64 x.t], .agg [labA y.l, labA y.v, .i .i64 y.t]] [] _
  refine spec_of TtOk [] Tryz.func56 rfl Tryz.ntmps56 (by kernel_rfl) rfl rfl (fun C => ?_) rfl
  repeat' (first | refine Awp.seq ?_ | refine Awp.region ?_ | (refine Ops.nil ?_; show Awp _ _ _ _ _) | (refine Awp.ret ?_; show endK _ _ _ _ _) | (refine o_calm rfl TtOk rfl rfl rfl ?_ (fun _ => ?_); exact nd) | refine o_box (d := 2) rfl rfl rfl rfl (fun b2 => ?_) | refine o_box (d := 3) rfl rfl rfl rfl (fun b3 => ?_) | (refine o_call0 rfl (h1) ⟨SLe.of_eq rfl, SLe.of_eq rfl, True.intro⟩ rfl ?_; rintro _ _ ⟨rfl, rfl⟩; refine ⟨rfl, ?_⟩))
  exact end_tmp rfl rfl rfl [] [] (CLe.of_eq rfl) .nil ⟨rfl, rfl⟩ _ (.inl rfl)
theorem idxB_spec (l : List (List UInt8)) (g : List UInt8) (hl : l.length ≤ 100000) : Spec Tryz.prog 151 [.sl 32 (l.map labA), labA g] [] (fun v os => v = .i .i64 (if l.any (fun y => g == y) = true then (l.findIdx (fun y => g == y) : Nat) else -1) ∧ os = []) := by
  refine spec_of TtOk [] Tryz.func151 rfl Tryz.ntmps151 (by kernel_rfl) rfl rfl (fun C => ?_) rfl
  repeat' (first | refine Awp.seq ?_ | refine Awp.block ?_ | refine Awp.region ?_ | (refine Ops.nil ?_; show Awp _ _ _ _ _) | refine o_len rfl TtOk rfl rfl rfl (fun _ => ?_) | (refine o_calm rfl TtOk rfl rfl rfl ?_ (fun _ => ?_); exact nd) | refine o_box (d := 3) rfl rfl rfl rfl (fun b3 => ?_))
  refine Awp.loop (fun q : Nat => ⟨19, [(8, .i .i64 q), (7, .i .i64 l.length), (6, .sl 32 (l.map labA)), (0, .sl 32 (l.map labA)), (3, .ptr 3 b3 [] 0)], [(3, .var b3 (labA g))]⟩) (fun q => q ≤ l.length ∧ ∀ j (h : j < l.length), j < q → (g == l[j]) = false) (fun q => l.length - q) [] 0 ⟨Nat.zero_le _, fun _ _ h => absurd h (Nat.not_lt_zero _)⟩ ?_ ?_
  · exact ⟨rfl, ⟨sle_i rfl, sle_i rfl, sle_sl rfl, sle_sl rfl, sle_ptr, True.intro⟩, HLe.cons 3 rfl (HOLe.refl _) .nil⟩
  rintro i ⟨hi, hno⟩
  by_cases hlt : i < l.length
  · have hi1 : ((i : Int) + 1 = ((i + 1 : Nat) : Int)) := by omega
    obtain ⟨q, hq⟩ : ∃ q, (g == l[i]) = q := ⟨_, rfl⟩
    cases q with
    | true =>
      repeat' (first | (rw [hq]) | refine Awp.seq ?_ | refine Awp.block ?_ | refine Awp.region ?_ | (refine Ops.nil ?_; show Awp _ _ _ _ _) | (refine Awp.skip ?_; show Awp _ _ _ _ _) | (refine Awp.ret ?_; show endK _ _ _ _ _) | (refine o_calm rfl TtOk rfl rfl rfl ?_ (fun _ => ?_); exact nd) | (refine o_index rfl TtOk rfl rfl rfl rfl rfl rfl ?_ (getq_nat ?_) ?_; omega; omega) | refine o_eqArr8 TtOk rfl rfl rfl rfl rfl rfl (by kernel_rfl) ?_ | refine a_condT rfl ?_ | (refine a_condP rfl (fun hc => ?_) (fun hc => ?_)) <;> (try (exfalso; omega)) | refine a_any 4 [] [] [] [1, 2, 3, 0, 4, 5] (by kernel_rfl) (by kernel_rfl) (by kernel_rfl) rfl rfl rfl ?_)
      have hm : l.any (fun y => g == y) = true := List.any_eq_true.2 ⟨l[i], List.getElem_mem _, hq⟩
      have hx : l.findIdx (fun y => g == y) = i := by
        rw [List.findIdx_eq hlt]
        exact ⟨hq, fun j hj => hno j (by omega) hj⟩
      refine end_tmp rfl rfl rfl [] [] (CLe.of_eq ?_) .nil ⟨rfl, rfl⟩ _ (.inl rfl)
      rw [if_pos hm, hx]; rfl
    | false =>
      repeat' (first | (rw [hq]) | refine Awp.seq ?_ | refine Awp.block ?_ | refine Awp.region ?_ | (refine Ops.nil ?_; show Awp _ _ _ _ _) | (refine Ops.nil ?_; show Exists _) | (refine Awp.skip ?_; show Awp _ _ _ _ _) | (refine o_add rfl rfl rfl rfl ?_ ?_; omega) | (refine o_calm rfl TtOk rfl rfl rfl ?_ (fun _ => ?_); exact nd) | (refine o_index rfl TtOk rfl rfl rfl rfl rfl rfl ?_ (getq_nat ?_) ?_; omega; omega) | refine o_eqArr8 TtOk rfl rfl rfl rfl rfl rfl (by kernel_rfl) ?_ | refine a_condF rfl ?_ | (refine a_condP rfl (fun hc => ?_) (fun hc => ?_)) <;> (try (exfalso; omega)) | refine a_any 4 [] [] [] [1, 2, 3, 0, 4, 5] (by kernel_rfl) (by kernel_rfl) (by kernel_rfl) rfl rfl rfl ?_)
      exact ⟨i + 1, [], ⟨hlt, fun j h hj => by
        rcases Nat.lt_succ_iff_lt_or_eq.1 hj with h2 | rfl
        · exact hno j h h2
        · exact hq⟩, by show l.length - (i + 1) < l.length - i; omega, rfl, ⟨sle_i hi1, sle_i rfl, sle_sl rfl, sle_sl rfl, sle_ptr, True.intro⟩, HLe.cons 3 rfl (HOLe.refl _) .nil⟩
  · have hm : ¬ l.any (fun y => g == y) = true := by
      intro h
      obtain ⟨x, hx, hxp⟩ := List.any_eq_true.1 h
      obtain ⟨j, hj, rfl⟩ := List.getElem_of_mem hx
      rw [hno j hj (by omega)] at hxp; cases hxp
    rw [if_neg hm]
    repeat' (first | refine Awp.seq ?_ | refine Awp.region ?_ | (refine Ops.nil ?_; show Awp _ _ _ _ _) | (refine Awp.exit ?_; show Awp _ _ _ _ _) | (refine Awp.ret ?_; show endK _ _ _ _ _) | (refine o_calm rfl TtOk rfl rfl rfl ?_ (fun _ => ?_); exact nd) | (refine a_condP rfl (fun hc => ?_) (fun hc => ?_)) <;> (try (exfalso; omega)))
    exact end_tmp rfl rfl rfl [] [] (CLe.of_eq rfl) .nil ⟨rfl, rfl⟩ _ (.inl rfl)
theorem conB_spec (l : List (List UInt8)) (g : List UInt8) (hl : l.length ≤ 100000) : Spec Tryz.prog 53 [.sl 32 (l.map labA), labA g] [] (fun v os => v = .b (l.any (fun y => g == y)) ∧ os = []) := by
  refine spec_of TtOk [] Tryz.func53 rfl Tryz.ntmps53 (by kernel_rfl) rfl rfl (fun C => ?_) rfl
  have h1 := idxB_spec l g hl
  cases hm : l.any (fun y => g == y) with
  | true =>
    rw [if_pos hm] at h1
    generalize l.findIdx (fun y => g == y) = i at h1
    repeat' (first | refine Awp.seq ?_ | refine Awp.region ?_ | (refine Ops.nil ?_; show Awp _ _ _ _ _) | (refine Awp.ret ?_; show endK _ _ _ _ _) | (refine o_calm rfl TtOk rfl rfl rfl ?_ (fun _ => ?_); exact nd) | refine o_box (d := 3) rfl rfl rfl rfl (fun b3 => ?_) | (refine o_call0 rfl (h1) ⟨SLe.of_eq rfl, SLe.of_eq rfl, True.intro⟩ rfl ?_; rintro _ _ ⟨rfl, rfl⟩; refine ⟨rfl, ?_⟩))
    refine end_tmp rfl rfl rfl [] [] (CLe.of_eq ?_) .nil ⟨rfl, rfl⟩ _ (.inl rfl)
    exact congrArg AV.b (decide_eq_true (by omega))
  | false =>
    rw [if_neg (by rw [hm]; decide)] at h1
    repeat' (first | refine Awp.seq ?_ | refine Awp.region ?_ | (refine Ops.nil ?_; show Awp _ _ _ _ _) | (refine Awp.ret ?_; show endK _ _ _ _ _) | (refine o_calm rfl TtOk rfl rfl rfl ?_ (fun _ => ?_); exact nd) | refine o_box (d := 3) rfl rfl rfl rfl (fun b3 => ?_) | (refine o_call0 rfl (h1) ⟨SLe.of_eq rfl, SLe.of_eq rfl, True.intro⟩ rfl ?_; rintro _ _ ⟨rfl, rfl⟩; refine ⟨rfl, ?_⟩))
    exact end_tmp rfl rfl rfl [] [] (CLe.of_eq rfl) .nil ⟨rfl, rfl⟩ _ (.inl rfl)
/-- The two halves of leaves as they stood. -/
def hlA (L : List Lef) : List Lef := L.filter (fun x => bitL x.l (frkI (itmsL L)) == 0)
def hlB (L : List Lef) : List Lef := L.filter (fun x => !(bitL x.l (frkI (itmsL L)) == 0))
def hlf (L : List Lef) : List Itm := cvI (hlA L) [] ++ cvI (hlB L) []
theorem halves_spec (L : List Lef) (hl : L.length ≤ 40000) (hok : ∀ x ∈ L, x.ok) (h2 : 2 ≤ L.length) (hc : mkE L = 0) : Spec Tryz.prog 54 [.sl 65 (L.map Lef.A)] [] (fun v os => v = .sl 66 ((hlf L).map Itm.A) ∧ os = []) := by
  have h1 := of_spec L (by omega) hok
  have hil := itmsL_len L
  have hp : 0 < (itmsL L).length := by omega
  have hio := itmsL_ok hok
  have hjl : (itmsL L).length - 1 < (itmsL L).length := by omega
  have hcm := bcommon_spec (itmsL L)[0].l (itmsL L)[(itmsL L).length - 1].l (hio _ (List.getElem_mem hp)).1 (hio _ (List.getElem_mem hjl)).1
  rw [← frk_eq hp] at hcm
  have hr : RiseI (itmsL L) := (chkI_rise hc).2.1
  have hf := (spl_ok hr hio (by omega)).1
  have hbt : ∀ (i : Nat) (h : i < L.length), Spec Tryz.prog 80 [labA L[i].l, .i .i64 (frkI (itmsL L) : Nat)] [] (fun v os => v = .i .i64 (bitL L[i].l (frkI (itmsL L)) : Nat) ∧ os = []) := fun i h => by
    have := bit_spec L[i].l (hok _ (List.getElem_mem h)).1 (frkI (itmsL L)) (by omega) (by omega)
    rw [if_pos (by omega), Int.toNat_natCast] at this
    exact this
  have hfs := fun (p : Lef → Bool) (i : Nat) (h : i < L.length) => filt_succ p L h
  have hfl : ∀ (p : Lef → Bool) (i : Nat), ((L.take i).filter p).length ≤ L.length := fun p i => Nat.le_trans (List.length_filter_le ..) (by rw [List.length_take]; omega)
  have hlA' : (hlA L).length ≤ L.length := List.length_filter_le ..
  have hlB' : (hlB L).length ≤ L.length := List.length_filter_le ..
  have hcA := cover_spec (hlA L) [] (by omega) (fun x hx => hok x ((List.mem_filter.1 hx).1)) (Nat.zero_le _) (fun x hx => by cases hx)
  have hcB := cover_spec (hlB L) [] (by omega) (fun x hx => hok x ((List.mem_filter.1 hx).1)) (Nat.zero_le _) (fun x hx => by cases hx)
  have eA : hlA L = L.filter (fun x => bitL x.l (frkI (itmsL L)) == 0) := rfl
  have eB : hlB L = L.filter (fun x => !(bitL x.l (frkI (itmsL L)) == 0)) := rfl
  have eH : hlf L = cvI (hlA L) [] ++ cvI (hlB L) [] := rfl
  have lA : (cvI (hlA L) []).length ≤ 100000 := by
    unfold cvI
    split
    · have := (openF_len (hlA L).length [] (srtL (hlA L))).1
      rw [srtL_len] at this
      omega
    · exact Nat.zero_le _
  have lB : (cvI (hlB L) []).length ≤ 100000 := by
    unfold cvI
    split
    · have := (openF_len (hlB L).length [] (srtL (hlB L))).1
      rw [srtL_len] at this
      omega
    · exact Nat.zero_le _
  rw [eH]
  generalize cvI (hlA L) [] = cA at *
  generalize cvI (hlB L) [] = cB at *
  generalize cvT (hlA L) [] = tA at *
  generalize cvT (hlB L) [] = tB at *
  generalize cvE (hlA L) = xA at *
  generalize cvE (hlB L) = xB at *
  generalize frkI (itmsL L) = n at *
  refine spec_of TtOk [] Tryz.func54 rfl Tryz.ntmps54 (by kernel_rfl) rfl rfl (fun C => ?_) rfl
  generalize itmsL L = I at *
  repeat' (first | refine Awp.seq ?_ | refine Awp.block ?_ | refine Awp.region ?_ | (refine Ops.nil ?_; show Awp _ _ _ _ _) | (refine o_sub rfl rfl rfl rfl ?_ ?_; omega) | refine o_len rfl TtOk rfl rfl rfl (fun _ => ?_) | (refine o_calm rfl TtOk rfl rfl rfl ?_ (fun _ => ?_); exact nd) | (refine o_index rfl TtOk rfl rfl rfl rfl rfl rfl ?_ (getq_nat ?_) ?_; omega; omega) | refine a_any 2 [] [] [] [0, 1, 2, 3, 5, 6, 7, 8, 9, 10, 11, 4, 12, 13, 14] (by kernel_rfl) (by kernel_rfl) (by kernel_rfl) rfl rfl rfl ?_ | (refine o_index rfl TtOk rfl rfl rfl rfl rfl rfl ?_ (getq_as (I.length-1) ?_ hjl) ?_; omega; omega) | (refine o_call0 rfl (h1) ⟨SLe.of_eq rfl, True.intro⟩ rfl ?_; rintro _ _ ⟨rfl, rfl⟩; refine ⟨rfl, ?_⟩) | (refine o_call0 rfl (hcm) ⟨SLe.of_eq rfl, SLe.of_eq rfl, True.intro⟩ rfl ?_; rintro _ _ ⟨rfl, rfl⟩; refine ⟨rfl, ?_⟩))
  refine Awp.loop (fun q : Nat × Value × Value => ⟨70, [(33, .i .i64 q.1), (32, .i .i64 L.length), (31, .sl 65 (L.map Lef.A)), (5, .own 45 q.2.1), (6, .own 49 q.2.2), (4, .i .i64 n)], [(45, .row q.2.1 46 65 (((L.take q.1).filter (fun x => bitL x.l n == 0)).map Lef.A)), (49, .row q.2.2 46 65 (((L.take q.1).filter (fun x => !(bitL x.l n == 0))).map Lef.A))]⟩) (fun q => q.1 ≤ L.length) (fun q => L.length - q.1) [] (0, .slice none 0 0, .slice none 0 0) (Nat.zero_le _) ?_ ?_
  · exact ⟨rfl, ⟨sle_i rfl, sle_i rfl, sle_sl rfl, sle_nilown, sle_nilown, sle_i rfl, True.intro⟩, HLe.none (HLe.none .nil)⟩
  clear h1 hcm
  rintro ⟨i, u, v⟩ hi
  dsimp only at hi ⊢
  by_cases hlt : i < L.length
  · have hi1 : ((i : Int) + 1 = ((i + 1 : Nat) : Int)) := by omega
    have g1 := hfs (fun x => bitL x.l n == 0) i hlt
    have g2 := hfs (fun x => !(bitL x.l n == 0)) i hlt
    have g3 := hfl (fun x => bitL x.l n == 0) i
    have g4 := hfl (fun x => !(bitL x.l n == 0)) i
    have hb := hbt i hlt
    clear hfs hfl hbt hcA hcB eA eB
    generalize (L.take i).filter (fun x => bitL x.l n == 0) = A at g1 g3 ⊢
    generalize (L.take i).filter (fun x => !(bitL x.l n == 0)) = B at g2 g4 ⊢
    have hx01 := bitL_or L[i].l n
    generalize bitL L[i].l n = z at hb hx01 g1 g2
    rcases hx01 with rfl | rfl
    · rw [if_pos (by rfl)] at g1
      rw [if_neg (by decide)] at g2
      repeat' (first | refine Awp.seq ?_ | refine Awp.block ?_ | refine Awp.region ?_ | (refine Ops.nil ?_; show Awp _ _ _ _ _) | (refine Ops.nil ?_; show Exists _) | (refine Awp.skip ?_; show Awp _ _ _ _ _) | (refine o_add rfl rfl rfl rfl ?_ ?_; omega) | (refine o_calm rfl TtOk rfl rfl rfl ?_ (fun _ => ?_); exact nd) | refine o_alloc (d := 8) rfl TtOk rfl rfl rfl (fun b8 => ?_) | refine o_store TtOk rfl rfl rfl rfl rfl rfl rfl ⟨rfl, rfl⟩ rfl rfl rfl rfl rfl ?_ | (refine o_index rfl TtOk rfl rfl rfl rfl rfl rfl ?_ (getq_nat ?_) ?_; omega; omega) | refine o_buildSlice TtOk rfl rfl rfl rfl rfl rfl rfl rfl rfl rfl rfl (by repeat' (first | exact True.intro | exact rfl | refine ⟨?_, ?_⟩)) (fun _ => ?_) | (refine o_append TtOk rfl rfl rfl rfl rfl rfl rfl rfl rfl (by first | exact True.intro | exact rfl) rfl rfl (fun _ => rfl) ?_ ?_ (fun _ => ?_); ((repeat' (first | rw [List.length_append] | rw [List.length_map] | rw [List.length_cons] | rw [List.length_nil] | rw [List.length_take] | rw [List.length_drop])) <;> omega); ((repeat' (first | rw [List.length_append] | rw [List.length_map] | rw [List.length_cons] | rw [List.length_nil] | rw [List.length_take] | rw [List.length_drop])) <;> omega)) | refine a_condT rfl ?_ | (refine a_condP rfl (fun hc => ?_) (fun hc => ?_)) <;> (try (exfalso; omega)) | (refine o_call0 rfl (hb) ⟨SLe.of_eq rfl, SLe.of_eq rfl, True.intro⟩ rfl ?_; rintro _ _ ⟨rfl, rfl⟩; refine ⟨rfl, ?_⟩))
      exact ⟨(i + 1, _, v), [], hlt, by show L.length - (i + 1) < L.length - i; omega, rfl, ⟨sle_i hi1, sle_i rfl, sle_sl rfl, sle_own, sle_own, sle_i rfl, True.intro⟩, HLe.cons 45 rfl (HOLe.row (by rw [g1, List.map_append]; rfl)) (HLe.cons 49 rfl (HOLe.row (by rw [g2])) .nil)⟩
    · rw [if_neg (by decide)] at g1
      rw [if_pos (by rfl)] at g2
      repeat' (first | refine Awp.seq ?_ | refine Awp.block ?_ | refine Awp.region ?_ | (refine Ops.nil ?_; show Awp _ _ _ _ _) | (refine Ops.nil ?_; show Exists _) | (refine Awp.skip ?_; show Awp _ _ _ _ _) | (refine o_add rfl rfl rfl rfl ?_ ?_; omega) | (refine o_calm rfl TtOk rfl rfl rfl ?_ (fun _ => ?_); exact nd) | refine o_alloc (d := 8) rfl TtOk rfl rfl rfl (fun b8 => ?_) | refine o_store TtOk rfl rfl rfl rfl rfl rfl rfl ⟨rfl, rfl⟩ rfl rfl rfl rfl rfl ?_ | (refine o_index rfl TtOk rfl rfl rfl rfl rfl rfl ?_ (getq_nat ?_) ?_; omega; omega) | refine o_buildSlice TtOk rfl rfl rfl rfl rfl rfl rfl rfl rfl rfl rfl (by repeat' (first | exact True.intro | exact rfl | refine ⟨?_, ?_⟩)) (fun _ => ?_) | (refine o_append TtOk rfl rfl rfl rfl rfl rfl rfl rfl rfl (by first | exact True.intro | exact rfl) rfl rfl (fun _ => rfl) ?_ ?_ (fun _ => ?_); ((repeat' (first | rw [List.length_append] | rw [List.length_map] | rw [List.length_cons] | rw [List.length_nil] | rw [List.length_take] | rw [List.length_drop])) <;> omega); ((repeat' (first | rw [List.length_append] | rw [List.length_map] | rw [List.length_cons] | rw [List.length_nil] | rw [List.length_take] | rw [List.length_drop])) <;> omega)) | refine a_condF rfl ?_ | (refine a_condP rfl (fun hc => ?_) (fun hc => ?_)) <;> (try (exfalso; omega)) | (refine o_call0 rfl (hb) ⟨SLe.of_eq rfl, SLe.of_eq rfl, True.intro⟩ rfl ?_; rintro _ _ ⟨rfl, rfl⟩; refine ⟨rfl, ?_⟩))
      exact ⟨(i + 1, u, _), [], hlt, by show L.length - (i + 1) < L.length - i; omega, rfl, ⟨sle_i hi1, sle_i rfl, sle_sl rfl, sle_own, sle_own, sle_i rfl, True.intro⟩, HLe.cons 45 rfl (HOLe.row (by rw [g1])) (HLe.cons 49 rfl (HOLe.row (by rw [g2, List.map_append]; rfl)) .nil)⟩
  · have hie : i = L.length := by omega
    subst hie
    rw [List.take_length, ← eA, ← eB]
    clear hbt hfs hfl eA eB
    generalize hlA L = A at *
    generalize hlB L = B at *
    repeat' (first | (refine o_freezeR 49 6 rfl rfl rfl ?_) | (refine o_freezeR 45 5 rfl rfl rfl ?_) | refine Awp.seq ?_ | refine Awp.block ?_ | refine Awp.region ?_ | (refine Ops.nil ?_; show Awp _ _ _ _ _) | (refine Awp.exit ?_; show Awp _ _ _ _ _) | (refine o_calm rfl TtOk rfl rfl rfl ?_ (fun _ => ?_); exact nd) | refine o_buildSlice (d := 53) TtOk rfl rfl rfl rfl rfl rfl rfl rfl rfl rfl rfl (by repeat' (first | exact True.intro | exact rfl | refine ⟨?_, ?_⟩)) (fun v53 => ?_) | (refine a_condP rfl (fun hc => ?_) (fun hc => ?_)) <;> (try (exfalso; omega)))
    refine Awp.loop (fun q : Nat × Value => ⟨70, [(55, .i .i64 q.1), (54, .i .i64 2), (53, .sl 1 ([A, B].map (iAl 65 Lef.A))), (9, .own 67 q.2)], [(67, .row q.2 50 66 ((if q.1 = 0 then [] else if q.1 = 1 then cA else cA ++ cB).map Itm.A))]⟩) (fun q => q.1 ≤ 2) (fun q => 2 - q.1) [53] (0, .slice none 0 0) (Nat.zero_le _) ?_ ?_
    · exact ⟨rfl, ⟨sle_i rfl, sle_i rfl, SLe.of_cle (CLe.fz (.head _)) rfl, sle_nilown, True.intro⟩, HLe.none .nil⟩
    rintro ⟨i, w⟩ hi
    dsimp only at hi ⊢
    have hi3 : i = 0 ∨ i = 1 ∨ i = 2 := by omega
    have h20 : 0 < [A, B].length := Nat.zero_lt_succ _
    have h21 : 1 < [A, B].length := Nat.lt_succ_self _
    have hlen2 : [A, B].length = 2 := rfl
    rcases hi3 with rfl | rfl | rfl
    · rw [if_pos rfl]
      repeat' (first | refine Awp.seq ?_ | refine Awp.block ?_ | refine Awp.region ?_ | (refine Ops.nil ?_; show Awp _ _ _ _ _) | (refine Ops.nil ?_; show Exists _) | (refine Awp.skip ?_; show Awp _ _ _ _ _) | (refine o_add rfl rfl rfl rfl ?_ ?_; omega) | (refine o_calm rfl TtOk rfl rfl rfl ?_ (fun _ => ?_); exact nd) | (refine o_index rfl TtOk rfl rfl rfl rfl rfl rfl ?_ (getq_nat ?_) ?_; omega; omega) | (refine o_append TtOk rfl rfl rfl rfl rfl rfl rfl rfl rfl (by first | exact True.intro | exact rfl) rfl rfl (fun _ => rfl) ?_ ?_ (fun _ => ?_); ((repeat' (first | rw [List.length_append] | rw [List.length_map] | rw [List.length_cons] | rw [List.length_nil] | rw [List.length_take] | rw [List.length_drop])) <;> omega); ((repeat' (first | rw [List.length_append] | rw [List.length_map] | rw [List.length_cons] | rw [List.length_nil] | rw [List.length_take] | rw [List.length_drop])) <;> omega)) | refine a_condT rfl ?_ | (refine o_call0 rfl hcA ⟨SLe.of_eq rfl, sle_nilsl, True.intro⟩ rfl ?_; rintro _ _ ⟨rfl, rfl⟩; refine ⟨rfl, ?_⟩))
      exact ⟨(1, _), [], (by decide : 1 ≤ 2), (by decide : 2 - 1 < 2 - 0), rfl, ⟨sle_i rfl, sle_i rfl, sle_sl rfl, sle_own, True.intro⟩, HLe.cons 67 rfl (HOLe.row (by show _ = List.map Itm.A (if (1 : Nat) = 0 then [] else if (1 : Nat) = 1 then cA else cA ++ cB); rw [if_neg (by decide), if_pos rfl]; rfl)) .nil⟩
    · rw [if_neg (by decide), if_pos rfl]
      repeat' (first | refine Awp.seq ?_ | refine Awp.block ?_ | refine Awp.region ?_ | (refine Ops.nil ?_; show Awp _ _ _ _ _) | (refine Ops.nil ?_; show Exists _) | (refine Awp.skip ?_; show Awp _ _ _ _ _) | (refine o_add rfl rfl rfl rfl ?_ ?_; omega) | (refine o_calm rfl TtOk rfl rfl rfl ?_ (fun _ => ?_); exact nd) | (refine o_index rfl TtOk rfl rfl rfl rfl rfl rfl ?_ (getq_nat ?_) ?_; omega; omega) | (refine o_append TtOk rfl rfl rfl rfl rfl rfl rfl rfl rfl (by first | exact True.intro | exact rfl) rfl rfl (fun _ => rfl) ?_ ?_ (fun _ => ?_); ((repeat' (first | rw [List.length_append] | rw [List.length_map] | rw [List.length_cons] | rw [List.length_nil] | rw [List.length_take] | rw [List.length_drop])) <;> omega); ((repeat' (first | rw [List.length_append] | rw [List.length_map] | rw [List.length_cons] | rw [List.length_nil] | rw [List.length_take] | rw [List.length_drop])) <;> omega)) | refine a_condT rfl ?_ | (refine o_call0 rfl hcB ⟨SLe.of_eq rfl, sle_nilsl, True.intro⟩ rfl ?_; rintro _ _ ⟨rfl, rfl⟩; refine ⟨rfl, ?_⟩))
      exact ⟨(2, _), [], (by decide : 2 ≤ 2), (by decide : 2 - 2 < 2 - 1), rfl, ⟨sle_i rfl, sle_i rfl, sle_sl rfl, sle_own, True.intro⟩, HLe.cons 67 rfl (HOLe.row (by show _ = List.map Itm.A (if (2 : Nat) = 0 then [] else if (2 : Nat) = 1 then cA else cA ++ cB); rw [if_neg (by decide), if_neg (by decide), List.map_append])) .nil⟩
    · rw [if_neg (by decide), if_neg (by decide)]
      repeat' (first | refine Awp.seq ?_ | refine Awp.region ?_ | (refine Ops.nil ?_; show Awp _ _ _ _ _) | (refine Awp.exit ?_; show Awp _ _ _ _ _) | (refine Awp.ret ?_; show endK _ _ _ _ _) | (refine o_calm rfl TtOk rfl rfl rfl ?_ (fun _ => ?_); exact nd) | refine a_condF rfl ?_)
      refine end_tmp rfl rfl rfl [67] [] (CLe.fz ?_) .nil ⟨rfl, rfl⟩ _ (.inl rfl)
      exact .head _
end Go.Proofs.YtcmgpkibjdbonaaGreat
