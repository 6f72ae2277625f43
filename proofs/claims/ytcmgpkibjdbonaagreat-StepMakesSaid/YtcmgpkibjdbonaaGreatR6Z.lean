/- ref16.Sorted, Of, some by rules; law16: Told, Leaves. -/
import Derived.Test.YtcmgpkibjdbonaaGreatR5Z
import Derived.Test.YtcmgpkibjdbonaaGreatV31Z
import Derived.Test.YtcmgpkibjdbonaaGreatSR4Z
set_option maxHeartbeats 8000000
set_option maxRecDepth 100000
namespace Go.Proofs.YtcmgpkibjdbonaaGreat
open Go Go.RowKit
/-- What is still to come of an insertion. -/
def insT (x : Itm) (done : Bool) (l : List Itm) : List Itm := if done = true then l else insS (ltCI ordI) x l
theorem rsorted_spec (l : List Itm) (hl : l.length ≤ 100000) (hok : ∀ x ∈ l, x.ok) : Spec Tryz.prog 157 [.sl 66 (l.map Itm.R)] [] (fun v os => v = .sl 66 ((srtI l).map Itm.R) ∧ os = []) := by
  refine spec_of TtOk [] Tryz.func157 rfl Tryz.ntmps157 (by kernel_rfl) rfl rfl (fun C => ?_) rfl
  repeat' (first | refine Awp.seq ?_ | refine Awp.block ?_ | refine Awp.region ?_ | (refine Ops.nil ?_; show Awp _ _ _ _ _) | refine o_len rfl TtOk rfl rfl rfl (fun _ => ?_) | (refine o_calm rfl TtOk rfl rfl rfl ?_ (fun _ => ?_); exact nd) | refine o_buildSlice (d := 10) TtOk rfl rfl rfl rfl rfl rfl rfl rfl rfl rfl rfl (by repeat' (first | exact True.intro | exact rfl | refine ⟨?_, ?_⟩)) (fun v10 => ?_))
  refine Awp.loop (fun q : Nat × Value => ⟨52, [(13, .i .i64 q.1), (12, .i .i64 l.length), (11, .sl 66 (l.map Itm.R)), (3, .own 10 q.2)], [(10, .row q.2 62 66 ((srtI (l.take q.1)).map Itm.R))]⟩) (fun q => q.1 ≤ l.length) (fun q => l.length - q.1) [] (0, v10) (Nat.zero_le _) ?_ ?_
  · exact ⟨rfl, ⟨sle_i rfl, sle_i rfl, sle_sl rfl, sle_own, True.intro⟩, HLe.cons 10 rfl (HOLe.refl _) .nil⟩
  rintro ⟨i, v⟩ hi
  dsimp only at hi ⊢
  by_cases hlt : i < l.length
  · have hi1 : ((i : Int) + 1 = ((i + 1 : Nat) : Int)) := by omega
    have hss : srtI (l.take (i + 1)) = insS (ltCI ordI) l[i] (srtI (l.take i)) := sortS_succ l i hlt
    have hx := hok _ (List.getElem_mem hlt)
    have hO : ∀ y ∈ srtI (l.take i), y.ok := fun y hy => hok y (List.mem_of_mem_take (srtI_mem.1 hy))
    have hol : (srtI (l.take i)).length = i := by rw [srtI_len, List.length_take]; omega
    generalize srtI (l.take i) = O at hss hO hol ⊢
    obtain ⟨T, hT⟩ : ∃ T, insS (ltCI ordI) l[i] O = T := ⟨_, rfl⟩
    rw [hT] at hss
    repeat' (first | (refine o_freezeR (xs := O.map Itm.R) 10 3 rfl rfl rfl ?_) | refine Awp.seq ?_ | refine Awp.block ?_ | refine Awp.region ?_ | (refine Ops.nil ?_; show Awp _ _ _ _ _) | (refine Awp.skip ?_; show Awp _ _ _ _ _) | refine o_len rfl TtOk rfl rfl rfl (fun _ => ?_) | (refine o_calm rfl TtOk rfl rfl rfl ?_ (fun _ => ?_); exact nd) | refine o_alloc (d := 5) rfl TtOk rfl rfl rfl (fun b5 => ?_) | refine o_store TtOk rfl rfl rfl rfl rfl rfl rfl ⟨rfl, rfl⟩ rfl rfl rfl rfl rfl ?_ | (refine o_index rfl TtOk rfl rfl rfl rfl rfl rfl ?_ (getq_nat ?_) ?_; omega; omega) | refine o_buildSlice (d := 17) TtOk rfl rfl rfl rfl rfl rfl rfl rfl rfl rfl rfl (by repeat' (first | exact True.intro | exact rfl | refine ⟨?_, ?_⟩)) (fun v17 => ?_) | (refine a_condP rfl (fun hc => ?_) (fun hc => ?_)) <;> (try (exfalso; omega)))
    refine Awp.loop (fun q : Nat × Bool × Value × List Itm => ⟨52, [(20, .i .i64 q.1), (19, .i .i64 O.length), (18, .sl 66 (O.map Itm.R)), (6, .own 17 q.2.2.1), (7, .b q.2.1), (5, .ptr 5 b5 [] 0), (13, .i .i64 i), (12, .i .i64 l.length), (11, .sl 66 (l.map Itm.R))], [(17, .row q.2.2.1 62 66 (q.2.2.2.map Itm.R)), (5, .var b5 (l[i]).R)]⟩) (fun q => q.1 ≤ O.length ∧ (q.2.1 = false → q.2.2.2.length ≤ q.1) ∧ q.2.2.2.length ≤ q.1 + 1 ∧ q.2.2.2 ++ insT l[i] q.2.1 (O.drop q.1) = T) (fun q => O.length - q.1) [] (0, false, v17, []) ⟨Nat.zero_le _, fun _ => Nat.zero_le _, Nat.zero_le _, hT⟩ ?_ ?_
    · exact ⟨rfl, ⟨sle_i rfl, sle_i rfl, sle_sl rfl, sle_own, sle_b rfl, sle_ptr, sle_i rfl, sle_i rfl, sle_sl rfl, True.intro⟩, HLe.cons 17 rfl (HOLe.refl _) (HLe.cons 5 rfl (HOLe.refl _) .nil)⟩
    clear hT
    rintro ⟨j, dn, u, N⟩ ⟨hj, hN0, hNl, hst⟩
    dsimp only at hj hN0 hNl hst ⊢
    by_cases hjl : j < O.length
    · have hj1 : ((j : Int) + 1 = ((j + 1 : Nat) : Int)) := by omega
      rw [List.drop_eq_getElem_cons hjl] at hst
      cases dn
      · have hN0 := hN0 rfl
        have ho := rorder_spec l[i].l O[j].l hx.1 (hO _ (List.getElem_mem hjl)).1
        have hst : N ++ (if decide (cmpS l[i].l O[j].l < 0) = true then l[i] :: O[j] :: O.drop (j + 1) else O[j] :: insS (ltCI ordI) l[i] (O.drop (j + 1))) = T := hst
        have hcc := cmpS_cases l[i].l O[j].l
        generalize cmpS l[i].l O[j].l = c at ho hst hcc
        by_cases hc1 : c = -1
        · rw [if_pos (decide_eq_true (by omega))] at hst
          repeat' (first | refine Awp.seq ?_ | refine Awp.block ?_ | refine Awp.region ?_ | (refine Ops.nil ?_; show Awp _ _ _ _ _) | (refine Ops.nil ?_; show Exists _) | (refine Awp.skip ?_; show Awp _ _ _ _ _) | (refine o_add rfl rfl rfl rfl ?_ ?_; omega) | (refine o_calm rfl TtOk rfl rfl rfl ?_ (fun _ => ?_); exact nd) | refine o_alloc (d := 9) rfl TtOk rfl rfl rfl (fun b9 => ?_) | refine o_store TtOk rfl rfl rfl rfl rfl rfl rfl ⟨rfl, rfl⟩ rfl rfl rfl rfl rfl ?_ | (refine o_index rfl TtOk rfl rfl rfl rfl rfl rfl ?_ (getq_nat ?_) ?_; omega; omega) | refine o_buildSlice TtOk rfl rfl rfl rfl rfl rfl rfl rfl rfl rfl rfl (by repeat' (first | exact True.intro | exact rfl | refine ⟨?_, ?_⟩)) (fun _ => ?_) | (refine o_append TtOk rfl rfl rfl rfl rfl rfl rfl rfl rfl (by first | exact True.intro | exact rfl) rfl rfl (fun _ => rfl) ?_ ?_ (fun _ => ?_); ((repeat' (first | rw [List.length_append] | rw [List.length_map] | rw [List.length_cons] | rw [List.length_nil] | rw [List.length_take] | rw [List.length_drop])) <;> omega); ((repeat' (first | rw [List.length_append] | rw [List.length_map] | rw [List.length_cons] | rw [List.length_nil] | rw [List.length_take] | rw [List.length_drop])) <;> omega)) | (refine a_condP rfl (fun hc => ?_) (fun hc => ?_)) <;> (try (exfalso; omega)) | (refine o_call0 rfl (ho) ⟨SLe.of_eq rfl, SLe.of_eq rfl, True.intro⟩ rfl ?_; rintro _ _ ⟨rfl, rfl⟩; refine ⟨rfl, ?_⟩))
          exact ⟨(j + 1, true, _, (N ++ [l[i]]) ++ [O[j]]), [], ⟨hjl, fun h => by first | exact absurd (show true = false from h) (by decide) | (simp only [List.length_append, List.length_cons, List.length_nil]; omega), by simp only [List.length_append, List.length_cons, List.length_nil]; omega, by rw [← hst]; simp [insT]⟩, by show O.length - (j + 1) < O.length - j; omega, rfl, ⟨sle_i hj1, sle_i rfl, sle_sl rfl, sle_own, sle_b rfl, sle_ptr, sle_i rfl, sle_i rfl, sle_sl rfl, True.intro⟩, HLe.cons 17 rfl (HOLe.row (by rw [List.map_append, List.map_append]; rfl)) (HLe.cons 5 rfl (HOLe.refl _) .nil)⟩
        · rw [if_neg (by rw [decide_eq_true_eq]; omega)] at hst
          repeat' (first | refine Awp.seq ?_ | refine Awp.block ?_ | refine Awp.region ?_ | (refine Ops.nil ?_; show Awp _ _ _ _ _) | (refine Ops.nil ?_; show Exists _) | (refine Awp.skip ?_; show Awp _ _ _ _ _) | (refine o_add rfl rfl rfl rfl ?_ ?_; omega) | (refine o_calm rfl TtOk rfl rfl rfl ?_ (fun _ => ?_); exact nd) | refine o_alloc (d := 9) rfl TtOk rfl rfl rfl (fun b9 => ?_) | refine o_store TtOk rfl rfl rfl rfl rfl rfl rfl ⟨rfl, rfl⟩ rfl rfl rfl rfl rfl ?_ | (refine o_index rfl TtOk rfl rfl rfl rfl rfl rfl ?_ (getq_nat ?_) ?_; omega; omega) | refine o_buildSlice TtOk rfl rfl rfl rfl rfl rfl rfl rfl rfl rfl rfl (by repeat' (first | exact True.intro | exact rfl | refine ⟨?_, ?_⟩)) (fun _ => ?_) | (refine o_append TtOk rfl rfl rfl rfl rfl rfl rfl rfl rfl (by first | exact True.intro | exact rfl) rfl rfl (fun _ => rfl) ?_ ?_ (fun _ => ?_); ((repeat' (first | rw [List.length_append] | rw [List.length_map] | rw [List.length_cons] | rw [List.length_nil] | rw [List.length_take] | rw [List.length_drop])) <;> omega); ((repeat' (first | rw [List.length_append] | rw [List.length_map] | rw [List.length_cons] | rw [List.length_nil] | rw [List.length_take] | rw [List.length_drop])) <;> omega)) | (refine a_condP rfl (fun hc => ?_) (fun hc => ?_)) <;> (try (exfalso; omega)) | (refine o_call0 rfl (ho) ⟨SLe.of_eq rfl, SLe.of_eq rfl, True.intro⟩ rfl ?_; rintro _ _ ⟨rfl, rfl⟩; refine ⟨rfl, ?_⟩))
          exact ⟨(j + 1, false, _, N ++ [O[j]]), [], ⟨hjl, fun h => by first | exact absurd (show true = false from h) (by decide) | (simp only [List.length_append, List.length_cons, List.length_nil]; omega), by simp only [List.length_append, List.length_cons, List.length_nil]; omega, by rw [← hst]; simp [insT]⟩, by show O.length - (j + 1) < O.length - j; omega, rfl, ⟨sle_i hj1, sle_i rfl, sle_sl rfl, sle_own, sle_b rfl, sle_ptr, sle_i rfl, sle_i rfl, sle_sl rfl, True.intro⟩, HLe.cons 17 rfl (HOLe.row (by rw [List.map_append]; rfl)) (HLe.cons 5 rfl (HOLe.refl _) .nil)⟩
      · repeat' (first | refine Awp.seq ?_ | refine Awp.block ?_ | refine Awp.region ?_ | (refine Ops.nil ?_; show Awp _ _ _ _ _) | (refine Ops.nil ?_; show Exists _) | (refine Awp.skip ?_; show Awp _ _ _ _ _) | refine o_noT rfl rfl rfl ?_ | (refine o_add rfl rfl rfl rfl ?_ ?_; omega) | (refine o_calm rfl TtOk rfl rfl rfl ?_ (fun _ => ?_); exact nd) | refine o_alloc (d := 9) rfl TtOk rfl rfl rfl (fun b9 => ?_) | refine o_store TtOk rfl rfl rfl rfl rfl rfl rfl ⟨rfl, rfl⟩ rfl rfl rfl rfl rfl ?_ | (refine o_index rfl TtOk rfl rfl rfl rfl rfl rfl ?_ (getq_nat ?_) ?_; omega; omega) | refine o_buildSlice TtOk rfl rfl rfl rfl rfl rfl rfl rfl rfl rfl rfl (by repeat' (first | exact True.intro | exact rfl | refine ⟨?_, ?_⟩)) (fun _ => ?_) | (refine o_append TtOk rfl rfl rfl rfl rfl rfl rfl rfl rfl (by first | exact True.intro | exact rfl) rfl rfl (fun _ => rfl) ?_ ?_ (fun _ => ?_); ((repeat' (first | rw [List.length_append] | rw [List.length_map] | rw [List.length_cons] | rw [List.length_nil] | rw [List.length_take] | rw [List.length_drop])) <;> omega); ((repeat' (first | rw [List.length_append] | rw [List.length_map] | rw [List.length_cons] | rw [List.length_nil] | rw [List.length_take] | rw [List.length_drop])) <;> omega)) | refine a_condF rfl ?_ | (refine a_condP rfl (fun hc => ?_) (fun hc => ?_)) <;> (try (exfalso; omega)))
        exact ⟨(j + 1, true, _, N ++ [O[j]]), [], ⟨hjl, fun h => by first | exact absurd (show true = false from h) (by decide) | (simp only [List.length_append, List.length_cons, List.length_nil]; omega), by simp only [List.length_append, List.length_cons, List.length_nil]; omega, by rw [← hst]; simp [insT]⟩, by show O.length - (j + 1) < O.length - j; omega, rfl, ⟨sle_i hj1, sle_i rfl, sle_sl rfl, sle_own, sle_b rfl, sle_ptr, sle_i rfl, sle_i rfl, sle_sl rfl, True.intro⟩, HLe.cons 17 rfl (HOLe.row (by rw [List.map_append]; rfl)) (HLe.cons 5 rfl (HOLe.refl _) .nil)⟩
    · have hje : j = O.length := by omega
      subst hje
      rw [List.drop_length] at hst
      cases dn
      · have hst : N ++ [l[i]] = T := hst
        repeat' (first | refine Awp.seq ?_ | refine Awp.region ?_ | (refine Ops.nil ?_; show Awp _ _ _ _ _) | (refine Ops.nil ?_; show Exists _) | (refine Awp.exit ?_; show Awp _ _ _ _ _) | (refine o_add rfl rfl rfl rfl ?_ ?_; omega) | (refine o_calm rfl TtOk rfl rfl rfl ?_ (fun _ => ?_); exact nd) | refine o_buildSlice TtOk rfl rfl rfl rfl rfl rfl rfl rfl rfl rfl rfl (by repeat' (first | exact True.intro | exact rfl | refine ⟨?_, ?_⟩)) (fun _ => ?_) | (refine o_append TtOk rfl rfl rfl rfl rfl rfl rfl rfl rfl (by first | exact True.intro | exact rfl) rfl rfl (fun _ => rfl) ?_ ?_ (fun _ => ?_); ((repeat' (first | rw [List.length_append] | rw [List.length_map] | rw [List.length_cons] | rw [List.length_nil] | rw [List.length_take] | rw [List.length_drop])) <;> omega); ((repeat' (first | rw [List.length_append] | rw [List.length_map] | rw [List.length_cons] | rw [List.length_nil] | rw [List.length_take] | rw [List.length_drop])) <;> omega)) | refine a_condT rfl ?_ | (refine a_condP rfl (fun hc => ?_) (fun hc => ?_)) <;> (try (exfalso; omega)))
        exact ⟨(i + 1, _), [], hlt, by show l.length - (i + 1) < l.length - i; omega, rfl, ⟨sle_i hi1, sle_i rfl, sle_sl rfl, sle_own, True.intro⟩, HLe.cons 17 rfl (HOLe.row (by rw [hss, ← hst, List.map_append]; rfl)) .nil⟩
      · have hst : N ++ [] = T := hst
        rw [List.append_nil] at hst
        repeat' (first | refine Awp.seq ?_ | refine Awp.region ?_ | (refine Ops.nil ?_; show Awp _ _ _ _ _) | (refine Ops.nil ?_; show Exists _) | (refine Awp.skip ?_; show Awp _ _ _ _ _) | (refine Awp.exit ?_; show Awp _ _ _ _ _) | (refine o_add rfl rfl rfl rfl ?_ ?_; omega) | (refine o_calm rfl TtOk rfl rfl rfl ?_ (fun _ => ?_); exact nd) | refine a_condF rfl ?_ | (refine a_condP rfl (fun hc => ?_) (fun hc => ?_)) <;> (try (exfalso; omega)))
        exact ⟨(i + 1, _), [], hlt, by show l.length - (i + 1) < l.length - i; omega, rfl, ⟨sle_i hi1, sle_i rfl, sle_sl rfl, sle_own, True.intro⟩, HLe.cons 17 rfl (HOLe.row (by rw [hss, ← hst])) .nil⟩
  · have hie : i = l.length := by omega
    subst hie
    rw [List.take_length]
    generalize srtI l = O
    repeat' (first | refine Awp.seq ?_ | refine Awp.region ?_ | (refine Ops.nil ?_; show Awp _ _ _ _ _) | (refine Awp.exit ?_; show Awp _ _ _ _ _) | (refine Awp.ret ?_; show endK _ _ _ _ _) | (refine o_calm rfl TtOk rfl rfl rfl ?_ (fun _ => ?_); exact nd) | (refine a_condP rfl (fun hc => ?_) (fun hc => ?_)) <;> (try (exfalso; omega)))
    refine end_tmp rfl rfl rfl [10] [] (CLe.fz ?_) .nil ⟨rfl, rfl⟩ _ (.inl rfl)
    exact .head _
theorem rof_spec (l : List Lef) (hl : l.length ≤ 100000) (hok : ∀ x ∈ l, x.ok) : Spec Tryz.prog 59 [.sl 65 (l.map Lef.A)] [] (fun v os => v = .sl 66 ((itmsL l).map Itm.R) ∧ os = []) := by
  refine spec_of TtOk [] Tryz.func59 rfl Tryz.ntmps59 (by kernel_rfl) rfl rfl (fun C => ?_) rfl
  repeat' (first | refine Awp.seq ?_ | refine Awp.block ?_ | refine Awp.region ?_ | (refine Ops.nil ?_; show Awp _ _ _ _ _) | refine o_len rfl TtOk rfl rfl rfl (fun _ => ?_) | (refine o_calm rfl TtOk rfl rfl rfl ?_ (fun _ => ?_); exact nd) | refine o_buildSlice (d := 6) TtOk rfl rfl rfl rfl rfl rfl rfl rfl rfl rfl rfl (by repeat' (first | exact True.intro | exact rfl | refine ⟨?_, ?_⟩)) (fun v6 => ?_))
  refine Awp.loop (fun q : Nat × Value => ⟨21, [(9, .i .i64 q.1), (8, .i .i64 l.length), (7, .sl 65 (l.map Lef.A)), (3, .own 6 q.2)], [(6, .row q.2 62 66 (((l.map leafI).take q.1).map Itm.R))]⟩) (fun q => q.1 ≤ l.length) (fun q => l.length - q.1) [] (0, v6) (Nat.zero_le _) ?_ ?_
  · exact ⟨rfl, ⟨sle_i rfl, sle_i rfl, sle_sl rfl, sle_own, True.intro⟩, HLe.cons 6 rfl (HOLe.refl _) .nil⟩
  rintro ⟨i, v⟩ hi
  dsimp only at hi ⊢
  have hml : (l.map leafI).length = l.length := List.length_map ..
  by_cases hlt : i < l.length
  · have h1 := rleaf_spec l[i] (hok _ (List.getElem_mem hlt))
    have hi1 : ((i : Int) + 1 = ((i + 1 : Nat) : Int)) := by omega
    have hst : (l.map leafI).take (i + 1) = (l.map leafI).take i ++ [leafI l[i]] := by rw [List.take_succ_eq_append_getElem (by omega), List.getElem_map]
    have hln : ((l.map leafI).take i).length = i := by rw [List.length_take]; omega
    generalize (l.map leafI).take i = T at hst hln ⊢
    repeat' (first | refine Awp.seq ?_ | refine Awp.block ?_ | refine Awp.region ?_ | (refine Ops.nil ?_; show Awp _ _ _ _ _) | (refine Ops.nil ?_; show Exists _) | (refine Awp.skip ?_; show Awp _ _ _ _ _) | (refine o_add rfl rfl rfl rfl ?_ ?_; omega) | (refine o_calm rfl TtOk rfl rfl rfl ?_ (fun _ => ?_); exact nd) | refine o_alloc (d := 5) rfl TtOk rfl rfl rfl (fun b5 => ?_) | refine o_store TtOk rfl rfl rfl rfl rfl rfl rfl ⟨rfl, rfl⟩ rfl rfl rfl rfl rfl ?_ | (refine o_index rfl TtOk rfl rfl rfl rfl rfl rfl ?_ (getq_nat ?_) ?_; omega; omega) | refine o_buildSlice TtOk rfl rfl rfl rfl rfl rfl rfl rfl rfl rfl rfl (by repeat' (first | exact True.intro | exact rfl | refine ⟨?_, ?_⟩)) (fun _ => ?_) | (refine o_append TtOk rfl rfl rfl rfl rfl rfl rfl rfl rfl (by first | exact True.intro | exact rfl) rfl rfl (fun _ => rfl) ?_ ?_ (fun _ => ?_); ((repeat' (first | rw [List.length_append] | rw [List.length_map] | rw [List.length_cons] | rw [List.length_nil] | rw [List.length_take] | rw [List.length_drop])) <;> omega); ((repeat' (first | rw [List.length_append] | rw [List.length_map] | rw [List.length_cons] | rw [List.length_nil] | rw [List.length_take] | rw [List.length_drop])) <;> omega)) | (refine a_condP rfl (fun hc => ?_) (fun hc => ?_)) <;> (try (exfalso; omega)) | (refine o_call0 rfl (h1) ⟨SLe.of_eq rfl, True.intro⟩ rfl ?_; rintro _ _ ⟨rfl, rfl⟩; refine ⟨rfl, ?_⟩))
    refine ⟨(i + 1, _), [], hlt, by show l.length - (i + 1) < l.length - i; omega, rfl, ⟨sle_i hi1, sle_i rfl, sle_sl rfl, sle_own, True.intro⟩, HLe.cons 6 rfl (HOLe.row ?_) .nil⟩
    rw [hst, List.map_append]; rfl
  · have hie : i = l.length := by omega
    subst hie
    rw [List.take_of_length_le (by omega)]
    have h2 := rsorted_spec (l.map leafI) (by omega) (fun x hx => by
      obtain ⟨y, hy, rfl⟩ := List.mem_map.1 hx
      exact leafI_ok y (hok y hy))
    have hit : srtI (l.map leafI) = itmsL l := rfl
    rw [hit] at h2
    generalize l.map leafI = T at h2 ⊢
    generalize itmsL l = R at h2 ⊢
    repeat' (first | (refine o_freezeR 6 3 rfl rfl rfl ?_) | refine Awp.seq ?_ | refine Awp.region ?_ | (refine Ops.nil ?_; show Awp _ _ _ _ _) | (refine Awp.exit ?_; show Awp _ _ _ _ _) | (refine Awp.ret ?_; show endK _ _ _ _ _) | (refine o_calm rfl TtOk rfl rfl rfl ?_ (fun _ => ?_); exact nd) | (refine a_condP rfl (fun hc => ?_) (fun hc => ?_)) <;> (try (exfalso; omega)) | (refine o_call0 rfl (h2) ⟨SLe.of_eq rfl, True.intro⟩ rfl ?_; rintro _ _ ⟨rfl, rfl⟩; refine ⟨rfl, ?_⟩))
    exact end_tmp rfl rfl rfl [] [] (CLe.of_eq rfl) .nil ⟨rfl, rfl⟩ _ (.inl rfl)
theorem told16_spec (l : List Itm) (n : Nat) (_hl : l.length ≤ 100000) (hn : n ≤ 100000) (hln : l.length ≤ n) : Spec Tryz.prog 71 [.sl 66 (l.map Itm.A), .i .i64 n] [] (fun v os => v = .sl 66 (l.map Itm.R) ∧ os = []) := by
  refine spec_of TtOk [] Tryz.func71 rfl Tryz.ntmps71 (by kernel_rfl) rfl rfl (fun C => ?_) rfl
  repeat' (first | refine Awp.seq ?_ | refine Awp.block ?_ | refine Awp.region ?_ | (refine Ops.nil ?_; show Awp _ _ _ _ _) | (refine o_calm rfl TtOk rfl rfl rfl ?_ (fun _ => ?_); exact nd) | refine o_buildSlice (d := 7) TtOk rfl rfl rfl rfl rfl rfl rfl rfl rfl rfl rfl (by repeat' (first | exact True.intro | exact rfl | refine ⟨?_, ?_⟩)) (fun v7 => ?_))
  refine Awp.loop (fun q : Nat × Value => ⟨28, [(6, .i .i64 q.1), (1, .i .i64 n), (0, .sl 66 (l.map Itm.A)), (5, .own 7 q.2)], [(7, .row q.2 62 66 ((l.take q.1).map Itm.R))]⟩) (fun q => q.1 ≤ l.length) (fun q => l.length - q.1) [] (0, v7) (Nat.zero_le _) ?_ ?_
  · exact ⟨rfl, ⟨sle_i rfl, sle_i rfl, sle_sl rfl, sle_own, True.intro⟩, HLe.cons 7 rfl (HOLe.refl _) .nil⟩
  rintro ⟨i, v⟩ hi
  dsimp only at hi ⊢
  by_cases hlt : i < l.length
  · have h1 := told15_spec l[i]
    have hi1 : ((i : Int) + 1 = ((i + 1 : Nat) : Int)) := by omega
    have hst : l.take (i + 1) = l.take i ++ [l[i]] := List.take_succ_eq_append_getElem hlt
    have hln : (l.take i).length = i := by rw [List.length_take]; omega
    generalize l.take i = T at hst hln ⊢
    repeat' (first | refine Awp.seq ?_ | refine Awp.block ?_ | refine Awp.region ?_ | (refine Ops.nil ?_; show Awp _ _ _ _ _) | (refine Ops.nil ?_; show Exists _) | (refine Awp.skip ?_; show Awp _ _ _ _ _) | (refine o_add rfl rfl rfl rfl ?_ ?_; omega) | refine o_len rfl TtOk rfl rfl rfl (fun _ => ?_) | (refine o_calm rfl TtOk rfl rfl rfl ?_ (fun _ => ?_); exact nd) | (refine o_index rfl TtOk rfl rfl rfl rfl rfl rfl ?_ (getq_nat ?_) ?_; omega; omega) | refine o_buildSlice TtOk rfl rfl rfl rfl rfl rfl rfl rfl rfl rfl rfl (by repeat' (first | exact True.intro | exact rfl | refine ⟨?_, ?_⟩)) (fun _ => ?_) | (refine o_append TtOk rfl rfl rfl rfl rfl rfl rfl rfl rfl (by first | exact True.intro | exact rfl) rfl rfl (fun _ => rfl) ?_ ?_ (fun _ => ?_); ((repeat' (first | rw [List.length_append] | rw [List.length_map] | rw [List.length_cons] | rw [List.length_nil] | rw [List.length_take] | rw [List.length_drop])) <;> omega); ((repeat' (first | rw [List.length_append] | rw [List.length_map] | rw [List.length_cons] | rw [List.length_nil] | rw [List.length_take] | rw [List.length_drop])) <;> omega)) | (fail_if_success (refine o_isLit rfl (by first | exact .inl rfl | exact .inr rfl) ?_)); (refine o_splitP rfl rfl (fun hc => ?_) (fun hc => ?_) <;> try (exfalso; omega)) | (refine a_condP rfl (fun hc => ?_) (fun hc => ?_)) <;> (try (exfalso; omega)) | (refine o_call0 rfl (h1) ⟨SLe.of_eq rfl, True.intro⟩ rfl ?_; rintro _ _ ⟨rfl, rfl⟩; refine ⟨rfl, ?_⟩))
    refine ⟨(i + 1, _), [], hlt, by show l.length - (i + 1) < l.length - i; omega, rfl, ⟨sle_i hi1, sle_i rfl, sle_sl rfl, sle_own, True.intro⟩, HLe.cons 7 rfl (HOLe.row ?_) .nil⟩
    rw [hst, List.map_append]; rfl
  · have hie : i = l.length := by omega
    subst hie
    rw [List.take_length]
    repeat' (first | refine Awp.seq ?_ | refine Awp.region ?_ | (refine Ops.nil ?_; show Awp _ _ _ _ _) | (refine Awp.exit ?_; show Awp _ _ _ _ _) | (refine Awp.ret ?_; show endK _ _ _ _ _) | refine o_noT rfl rfl rfl ?_ | refine o_len rfl TtOk rfl rfl rfl (fun _ => ?_) | (refine o_calm rfl TtOk rfl rfl rfl ?_ (fun _ => ?_); exact nd) | (fail_if_success (refine o_isLit rfl (by first | exact .inl rfl | exact .inr rfl) ?_)); (refine o_splitP rfl rfl (fun hc => ?_) (fun hc => ?_) <;> try (exfalso; omega)) | refine a_condF rfl ?_)
    all_goals
      refine end_tmp rfl rfl rfl [7] [] (CLe.fz ?_) .nil ⟨rfl, rfl⟩ _ (.inl rfl)
      exact .head _
theorem leaves16_spec (l : List Lef) (hl : l.length ≤ 100000) : Spec Tryz.prog 12 [.sl 65 (l.map Lef.A)] [] (fun v os => v = .sl 65 (l.map Lef.A) ∧ os = []) := by
  refine spec_of TtOk [] Tryz.func12 rfl Tryz.ntmps12 (by kernel_rfl) rfl rfl (fun C => ?_) rfl
  repeat' (first | refine Awp.seq ?_ | refine Awp.block ?_ | refine Awp.region ?_ | (refine Ops.nil ?_; show Awp _ _ _ _ _) | refine o_len rfl TtOk rfl rfl rfl (fun _ => ?_) | (refine o_calm rfl TtOk rfl rfl rfl ?_ (fun _ => ?_); exact nd) | refine o_buildSlice (d := 6) TtOk rfl rfl rfl rfl rfl rfl rfl rfl rfl rfl rfl (by repeat' (first | exact True.intro | exact rfl | refine ⟨?_, ?_⟩)) (fun v6 => ?_))
  refine Awp.loop (fun q : Nat × Value => ⟨19, [(9, .i .i64 q.1), (8, .i .i64 l.length), (7, .sl 65 (l.map Lef.A)), (3, .own 6 q.2)], [(6, .row q.2 58 65 ((l.take q.1).map Lef.A))]⟩) (fun q => q.1 ≤ l.length) (fun q => l.length - q.1) [] (0, v6) (Nat.zero_le _) ?_ ?_
  · exact ⟨rfl, ⟨sle_i rfl, sle_i rfl, sle_sl rfl, sle_own, True.intro⟩, HLe.cons 6 rfl (HOLe.refl _) .nil⟩
  rintro ⟨i, v⟩ hi
  dsimp only at hi ⊢
  by_cases hlt : i < l.length
  · have hi1 : ((i : Int) + 1 = ((i + 1 : Nat) : Int)) := by omega
    have hst : l.take (i + 1) = l.take i ++ [l[i]] := List.take_succ_eq_append_getElem hlt
    have hln : (l.take i).length = i := by rw [List.length_take]; omega
    generalize l.take i = T at hst hln ⊢
    repeat' (first | refine Awp.seq ?_ | refine Awp.block ?_ | refine Awp.region ?_ | (refine Ops.nil ?_; show Awp _ _ _ _ _) | (refine Ops.nil ?_; show Exists _) | (refine Awp.skip ?_; show Awp _ _ _ _ _) | (refine o_add rfl rfl rfl rfl ?_ ?_; omega) | (refine o_calm rfl TtOk rfl rfl rfl ?_ (fun _ => ?_); exact nd) | refine o_alloc (d := 5) rfl TtOk rfl rfl rfl (fun b5 => ?_) | refine o_store TtOk rfl rfl rfl rfl rfl rfl rfl ⟨rfl, rfl⟩ rfl rfl rfl rfl rfl ?_ | (refine o_index rfl TtOk rfl rfl rfl rfl rfl rfl ?_ (getq_nat ?_) ?_; omega; omega) | refine o_buildSlice TtOk rfl rfl rfl rfl rfl rfl rfl rfl rfl rfl rfl (by repeat' (first | exact True.intro | exact rfl | refine ⟨?_, ?_⟩)) (fun _ => ?_) | (refine o_append TtOk rfl rfl rfl rfl rfl rfl rfl rfl rfl (by first | exact True.intro | exact rfl) rfl rfl (fun _ => rfl) ?_ ?_ (fun _ => ?_); ((repeat' (first | rw [List.length_append] | rw [List.length_map] | rw [List.length_cons] | rw [List.length_nil] | rw [List.length_take] | rw [List.length_drop])) <;> omega); ((repeat' (first | rw [List.length_append] | rw [List.length_map] | rw [List.length_cons] | rw [List.length_nil] | rw [List.length_take] | rw [List.length_drop])) <;> omega)) | (refine a_condP rfl (fun hc => ?_) (fun hc => ?_)) <;> (try (exfalso; omega)))
    refine ⟨(i + 1, _), [], hlt, by show l.length - (i + 1) < l.length - i; omega, rfl, ⟨sle_i hi1, sle_i rfl, sle_sl rfl, sle_own, True.intro⟩, HLe.cons 6 rfl (HOLe.row ?_) .nil⟩
    rw [hst, List.map_append]; rfl
  · have hie : i = l.length := by omega
    subst hie
    rw [List.take_length]
    repeat' (first | refine Awp.seq ?_ | refine Awp.region ?_ | (refine Ops.nil ?_; show Awp _ _ _ _ _) | (refine Awp.exit ?_; show Awp _ _ _ _ _) | (refine Awp.ret ?_; show endK _ _ _ _ _) | (refine o_calm rfl TtOk rfl rfl rfl ?_ (fun _ => ?_); exact nd) | (refine a_condP rfl (fun hc => ?_) (fun hc => ?_)) <;> (try (exfalso; omega)))
    refine end_tmp rfl rfl rfl [6] [] (CLe.fz ?_) .nil ⟨rfl, rfl⟩ _ (.inl rfl)
    exact .head _
end Go.Proofs.YtcmgpkibjdbonaaGreat
set_option maxHeartbeats 8000000
set_option maxRecDepth 100000
namespace Go.Proofs.YtcmgpkibjdbonaaGreat
open Go Go.RowKit
def itmC_ (x : Itm) : List Value := Value.int .i64 x.n :: (x.l.map cellB ++ (x.s.map cellB ++ [Value.int .i64 x.t]))
def eqI (x y : Itm) : Bool := x.n == y.n && (x.l == y.l && (x.s == y.s && x.t == y.t))
theorem eqI_iff {x y : Itm} : eqI x y = true ↔ x = y := by
  obtain ⟨n, l, s, t⟩ := x
  obtain ⟨n2, l2, s2, t2⟩ := y
  unfold eqI
  simp only [Bool.and_eq_true, beq_iff_eq, Itm.mk.injEq]
theorem itm_cells {w : World} {F : Nat → Prop} {x : Itm} {v : Value} (h : repV w F x.R v) : x.ok ∧ v = .agg (itmC_ x).toArray := by
  obtain ⟨cs, hc, he⟩ := h
  simp only [Itm.R, labA, repC, repL] at hc
  obtain ⟨c0, cr, rfl, rfl, c1, c2, rfl, ⟨h1, h2⟩, c3, c4, rfl, ⟨h3, h4⟩, c5, c6, rfl, rfl, rfl⟩ := hc
  have e1 := bytes_cells x.l c1 h2
  have e2 := bytes_cells x.s c3 h4
  subst e1
  subst e2
  exact ⟨⟨by simpa using h1, by simpa using h3⟩, he⟩
theorem itm_eq0 (x y : Itm) (hx : x.ok) (hy : y.ok) (w : World) : (Op.equalIn 10000 62 (.agg (itmC_ x).toArray) (.agg (itmC_ y).toArray)).run Tryz.prog w = .ok (eqI x y) w := by
  have hS : Tryz.prog.underlying 62 = some (.struct (Tryz.prog.fieldsOf 62)) := by kernel_rfl
  have hh : Tryz.prog.stoodInHeld 62 = false := by kernel_rfl
  have hi : Tryz.prog.underlying 3 = some (.int .i64) := by kernel_rfl
  have hk : Tryz.prog.plainKey 3 = true := by kernel_rfl
  have hu8 : Tryz.prog.underlying 5 = some (.int .u8) := by kernel_rfl
  have hk8 : Tryz.prog.plainKey 5 = true := by kernel_rfl
  have hl : Tryz.prog.underlying 44 = some (.array 32 5) := by kernel_rfl
  have hsz := (tget_ok TtOk (show tget Tt 44 = some _ from rfl)).sizeRun w
  have hag : (isAgg 44).run Tryz.prog w = .ok true w := by
    unfold isAgg; simp only [Sem.run_bind, run_underlying hl, Result.andThen_ok, Sem.run_pure]
  have p0 : ∀ (z : Itm), (part 3 (itmC_ z).toArray 0).run Tryz.prog w = .ok (.int .i64 z.n) w := fun z => run_part_plain w hk rfl
  have pA : ∀ (z : Itm), z.ok → (part 44 (itmC_ z).toArray 1).run Tryz.prog w = .ok (.agg (z.l.map cellB).toArray) w := fun z hz => by
    have hx : ((itmC_ z).toArray.extract 1 (1 + 32)) = (z.l.map cellB).toArray := by
      rw [List.extract_toArray]
      congr 1
      unfold itmC_ List.extract
      rw [List.drop_succ_cons, List.drop_zero, show 1 + 32 - 1 = 32 from rfl, List.take_append_of_le_length (by rw [List.length_map, hz.1]; decide), List.take_of_length_le (by rw [List.length_map, hz.1]; decide)]
    unfold part
    simp only [Sem.run_bind, hag, Result.andThen_ok, if_true, hsz, Sem.run_pure]
    exact congrArg (fun q => Result.ok (Value.agg q) w) hx
  have pB : ∀ (z : Itm), z.ok → (part 44 (itmC_ z).toArray 33).run Tryz.prog w = .ok (.agg (z.s.map cellB).toArray) w := fun z hz => by
    have hx : ((itmC_ z).toArray.extract 33 (33 + 32)) = (z.s.map cellB).toArray := by
      rw [List.extract_toArray]
      congr 1
      unfold itmC_ List.extract
      rw [List.drop_succ_cons, List.drop_append_of_le_length (by rw [List.length_map, hz.1]; decide), List.drop_of_length_le (by rw [List.length_map, hz.1]; decide), List.nil_append, List.take_append_of_le_length (by rw [List.length_map, hz.2]; decide), List.take_of_length_le (by rw [List.length_map, hz.2]; decide)]
    unfold part
    simp only [Sem.run_bind, hag, Result.andThen_ok, if_true, hsz, Sem.run_pure]
    exact congrArg (fun q => Result.ok (Value.agg q) w) hx
  have pC : ∀ (z : Itm), z.ok → (part 3 (itmC_ z).toArray 65).run Tryz.prog w = .ok (.int .i64 z.t) w := fun z hz => run_part_plain w hk (by
    unfold itmC_
    rw [List.getElem?_toArray, List.getElem?_cons_succ, List.getElem?_append_right (by rw [List.length_map, hz.1]; decide), List.getElem?_append_right (by rw [List.length_map, List.length_map, hz.1, hz.2]; decide), List.length_map, List.length_map, hz.1, hz.2]; rfl)
  have p3 := fun a b : Int => run_equalIn_int (P := Tryz.prog) w 9998 3 .i64 .i64 a b hi
  have p4 : ∀ a b : List UInt8, a.length = 32 → b.length = 32 → (Op.equalIn (9998 + 1) 44 (.agg (a.map cellB).toArray) (.agg (b.map cellB).toArray)).run Tryz.prog w = .ok (a == b) w := fun a b ha hb => by
    obtain ⟨ie, hie, hies, _⟩ := (tget_ok TtOk (show tget Tt 5 = some _ from rfl)).inf
    have hco : Tryz.prog.cellsOf 5 = 1 := by unfold Program.cellsOf; rw [hie]; exact hies
    have h1 := run_equalIn_array (P := Tryz.prog) w 9998 (a.map cellB).toArray (b.map cellB).toArray hl hie
    have h2 := eqItems_bytes (P := Tryz.prog) (w := w) hu8 hk8 9997 a b (List.range 32) (fun i hi => by have := List.mem_range.1 hi; omega)
    rw [all_range_eq a b 32 ha hb] at h2
    rw [hco] at h1
    rw [h1]
    exact h2
  rw [run_equalIn_struct (P := Tryz.prog) w 9999 _ _ _ hS hh]
  unfold eqI
  simp only [Program.fieldsOf, Tryz.underlying62]
  simp only [Op.eqFields]
  rw [if_pos (by decide)]
  rw [Sem.run_bind, p0 x, Result.andThen_ok, Sem.run_bind, p0 y, Result.andThen_ok, Sem.run_bind, p3, Result.andThen_ok]
  generalize (x.n == y.n) = q0
  cases q0
  · simp only [Bool.not_false, if_true, Sem.run_pure, Bool.false_and]
    try rfl
  simp only [Bool.not_true, Bool.false_eq_true, if_false]
  rw [if_pos (by decide)]
  rw [Sem.run_bind, pA x hx, Result.andThen_ok, Sem.run_bind, pA y hy, Result.andThen_ok, Sem.run_bind, p4 _ _ hx.1 hy.1, Result.andThen_ok]
  generalize (x.l == y.l) = q
  cases q
  · simp only [Bool.not_false, if_true, Sem.run_pure, Bool.false_and]
    try rfl
  · simp only [Bool.not_true, Bool.false_eq_true, if_false]
    rw [if_pos (by decide)]
    rw [Sem.run_bind, pB x hx, Result.andThen_ok, Sem.run_bind, pB y hy, Result.andThen_ok, Sem.run_bind, p4 _ _ hx.2 hy.2, Result.andThen_ok]
    generalize (x.s == y.s) = r
    cases r
    · simp only [Bool.not_false, if_true, Sem.run_pure, Bool.false_and]
      try rfl
    · simp only [Bool.not_true, Bool.false_eq_true, if_false]
      rw [if_pos (by decide)]
      rw [Sem.run_bind, pC x hx, Result.andThen_ok, Sem.run_bind, pC y hy, Result.andThen_ok, Sem.run_bind, p3, Result.andThen_ok]
      generalize (x.t == y.t) = z
      cases z <;> rfl
theorem itm_neq (x y : Itm) (hx : x.ok) (hy : y.ok) (w : World) : (binOp .neq 62 (.agg (itmC_ x).toArray) (.agg (itmC_ y).toArray)).run Tryz.prog w = .ok (.bool (!(eqI x y))) w := by
  rw [run_neq_struct, itm_eq0 x y hx hy]; rfl
section
variable {m : OM} {C : Ctx} {ops : Array Oper} {l : List Oper} {K : St → Prop} {n : Nat} {sl : List (Nat × AV)} {hp : List (Nat × HO)} {d : Nat} {ty : Nat} {pos : String} {aft : Array Edge} {gd : Option (Nat × Bool)}
theorem o_neItm (hw : gval ops ⟨n, sl, hp⟩ gd = gwant gd) {u : Nat} {x y : Operand} {p q : Itm} (hx : ev ⟨n, sl, hp⟩ x = p.R) (hy : ev ⟨n, sl, hp⟩ y = q.R) (hd : Nat.blt d n = true)
    (h : Ops m Tryz.prog C ops l ⟨n, (d, .b (!(eqI p q))) :: sl, hp⟩ K) : Ops m Tryz.prog C ops (⟨some d, .binOp .neq 62 x y u, ty, pos, aft, gd⟩ :: l) ⟨n, sl, hp⟩ K := by
  refine Ops.by (d := some d) hw none okc_none hd rfl (fun ac w hs => ?_) h
  have Ex := ev_rep hs x
  have Ey := ev_rep hs y
  rw [hx] at Ex
  rw [hy] at Ey
  obtain ⟨l1, Ex⟩ := itm_cells Ex
  obtain ⟨l2, Ey⟩ := itm_cells Ey
  refine ⟨_, repV_b.2 rfl, fun w' _ => ?_⟩
  have hgd := run_eqGuard_agg (P := Tryz.prog) w' .neq 62 x y (itmC_ p).toArray (itmC_ q).toArray (by kernel_rfl)
  simp only [execOp, Ex, Ey, Sem.run_bind, hgd, itm_neq p q l1 l2, Result.andThen_ok, Sem.run_pure]
end
end Go.Proofs.YtcmgpkibjdbonaaGreat
set_option maxHeartbeats 8000000
set_option maxRecDepth 100000
namespace Go.Proofs.YtcmgpkibjdbonaaGreat
open Go Go.RowKit
section
variable {m : OM} {P : Program} {T : List (Nat × TI)} {C : Ctx} {ops : Array Oper} {l : List Oper} {K : St → Prop} {n : Nat} {sl : List (Nat × AV)} {hp : List (Nat × HO)} {d : Nat} {ty : Nat} {pos : String} {aft : Array Edge} {gd : Option (Nat × Bool)}
/-- != on arrays of bytes. -/
theorem o_neArr8 (hT : TTOk P T) (hw : gval ops ⟨n, sl, hp⟩ gd = gwant gd) {t u e k : Nat} {x y : Operand} {l1 l2 : List UInt8} {sz0 by0 by1 : Nat} {z0 z1 : AV}
    (hx : ev ⟨n, sl, hp⟩ x = .arr 1 k (l1.map byA)) (hy : ev ⟨n, sl, hp⟩ y = .arr 1 k (l2.map byA)) (ht : tget T t = some ⟨.array k e, sz0, by0, z0⟩) (he : tget T e = some ⟨.int .u8, 1, by1, z1⟩) (hd : Nat.blt d n = true) (hg : P.eqGuardType P.depth t = false)
    (h : Ops m P C ops l ⟨n, (d, .b (!(l1 == l2))) :: sl, hp⟩ K) : Ops m P C ops (⟨some d, .binOp .neq t x y u, ty, pos, aft, gd⟩ :: l) ⟨n, sl, hp⟩ K := by
  refine Ops.by (d := some d) hw none okc_none hd rfl (fun a w hs => ?_) h
  have Ex := ev_rep hs x
  have Ey := ev_rep hs y
  rw [hx] at Ex
  rw [hy] at Ey
  obtain ⟨c1, hc1, Ex⟩ := Ex
  obtain ⟨c2, hc2, Ey⟩ := Ey
  have Ex : a.eval x = .agg c1.toArray := Ex
  have Ey : a.eval y = .agg c2.toArray := Ey
  simp only [repC, List.length_map] at hc1 hc2
  have q1 := bytes_cells l1 c1 hc1.2
  have q2 := bytes_cells l2 c2 hc2.2
  have hu := tk_array (tget_ok hT ht)
  have hue := tk_int (tget_ok hT he)
  obtain ⟨ie, hie, hies, _⟩ := (tget_ok hT he).inf
  have hpk : P.plainKey e = true := by unfold Program.plainKey; rw [hue]
  have hco : P.cellsOf e = 1 := by unfold Program.cellsOf; rw [hie]; exact hies
  refine ⟨_, repV_b.2 rfl, fun w' _ => ?_⟩
  have h1 := run_equalIn_array (P := P) w' 9999 c1.toArray c2.toArray hu hie
  rw [hco, q1, q2, eqItems_bytes hue hpk 9998 l1 l2 (List.range k) (fun i hi => by have := List.mem_range.1 hi; omega), all_range_eq l1 l2 k hc1.1 hc2.1] at h1
  have hgd := run_eqGuard_agg (P := P) w' .neq t x y c1.toArray c2.toArray hg
  have hr := run_neq_struct (P := P) w' t c1.toArray c2.toArray
  rw [q1, q2] at hr hgd
  rw [show (10000 : Nat) = 9999 + 1 from rfl, h1] at hr
  simp only [execOp, Ex, Ey, q1, q2, Sem.run_bind, hgd, hr, Result.andThen_ok, Sem.run_pure]
end
end Go.Proofs.YtcmgpkibjdbonaaGreat
set_option maxHeartbeats 8000000
set_option maxRecDepth 100000
namespace Go.Proofs.YtcmgpkibjdbonaaGreat
open Go Go.RowKit
end Go.Proofs.YtcmgpkibjdbonaaGreat
