/- ref16.Sorted, Of, some by rules; law16: Told, Leaves. -/
import Derived.Test.YtcmgpkibjdbonaaGreatR5Z
import Derived.Test.YtcmgpkibjdbonaaGreatSL7Z
import Derived.Test.YtcmgpkibjdbonaaGreatSR4Z
import Derived.Test.YtcmgpkibjdbonaaGreatC1
set_option maxHeartbeats 8000000
set_option maxRecDepth 100000
namespace Go.Proofs.YtcmgpkibjdbonaaGreat
open Go Go.RowKit
/-- What is still to come of an insertion. -/
def insT (x : Itm) (done : Bool) (l : List Itm) : List Itm := if done = true then l else insS (ltCI ordI) x l
theorem rsorted_spec (l : List Itm) (hl : l.length ≤ 100000) (hok : ∀ x ∈ l, x.ok) : Spec Tryz.prog 157 [.sl 66 (l.map Itm.R)] [] (fun v os => v = .sl 66 ((srtI l).map Itm.R) ∧ os = []) := by
  refine spec_of TtOk [] Tryz.func157 rfl Tryz.ntmps157 (by kernel_rfl) rfl rfl (fun C => ?_) rfl
  repeat' (first | refine Awp.seq ?_ | refine Awp.block ?_ | refine Awp.region ?_ | refine Ops.nil (nqA ?_) | refine o_len rfl TtOk rfl rfl rfl (fun _ => ?_) | (refine o_calm rfl TtOk rfl rfl rfl ?_ (fun _ => ?_); exact nd) | refine o_buildSlice (d := 10) TtOk rfl rfl rfl rfl rfl rfl rfl rfl rfl rfl rfl nq1 (fun v10 => ?_))
  refine Awp.loop (fun q : Nat × Value => ⟨52, [(13, .i .i64 q.1), (12, .i .i64 l.length), (11, .sl 66 (l.map Itm.R)), (3, .own 10 q.2)], [(10, .row q.2 62 66 ((srtI (l.take q.1)).map Itm.R))]⟩) (fun q => q.1 ≤ l.length) (fun q => l.length - q.1) [] (0, v10) (Nat.zero_le _) ?_ ?_
  · exact ⟨rfl, ⟨sle_i rfl, sle_i rfl, sle_sl rfl, sle_own, True.intro⟩, HLe.cons 10 rfl (HOLe.refl _) .nil⟩
  rintro ⟨i, v⟩ hi
  dsimp only at hi ⊢
  by_cases hlt : i < l.length
  · have hi1 : ((i : Int) + 1 = ((i + 1 : Nat) : Int)) := by omega
    have hss : srtI (l.take (i + 1)) = insS (ltCI ordI) l[i] (srtI (l.take i)) := sortS_succ l i hlt
    have hx := hok _ (List.getElem_mem hlt)
    have hO : ∀ y ∈ srtI (l.take i), y.ok := fun y hy => hok y (List.mem_of_mem_take (srtI_mem.1 hy))
    have hol : (srtI (l.take i)).length = i := by rw [srtI_len, List.length_take]; omega
    generalize srtI (l.take i) = O at hss hO hol ⊢
    obtain ⟨T, hT⟩ : ∃ T, insS (ltCI ordI) l[i] O = T := ⟨_, rfl⟩
    rw [hT] at hss
    repeat' (first | (refine o_freezeR (xs := O.map Itm.R) 10 3 rfl rfl rfl ?_) | refine Awp.seq ?_ | refine Awp.block ?_ | refine Awp.region ?_ | refine Ops.nil (nqA ?_) | refine Awp.skip (nqA ?_) | refine o_len rfl TtOk rfl rfl rfl (fun _ => ?_) | (refine o_calm rfl TtOk rfl rfl rfl ?_ (fun _ => ?_); exact nd) | refine o_alloc (d := 5) rfl TtOk rfl rfl rfl (fun b5 => ?_) | refine o_store TtOk rfl rfl rfl rfl rfl rfl rfl ⟨rfl, rfl⟩ rfl rfl rfl rfl rfl ?_ | (refine o_index rfl TtOk rfl rfl rfl rfl rfl rfl ?_ (getq_nat ?_) ?_; omega; omega) | refine o_buildSlice (d := 17) TtOk rfl rfl rfl rfl rfl rfl rfl rfl rfl rfl rfl nq1 (fun v17 => ?_) | (refine a_condP rfl (fun hc => ?_) (fun hc => ?_)) <;> (try (exfalso; omega)))
    refine Awp.loop (fun q : Nat × Bool × Value × List Itm => ⟨52, [(20, .i .i64 q.1), (19, .i .i64 O.length), (18, .sl 66 (O.map Itm.R)), (6, .own 17 q.2.2.1), (7, .b q.2.1), (5, .ptr 5 b5 [] 0), (13, .i .i64 i), (12, .i .i64 l.length), (11, .sl 66 (l.map Itm.R))], [(17, .row q.2.2.1 62 66 (q.2.2.2.map Itm.R)), (5, .var b5 (l[i]).R)]⟩) (fun q => q.1 ≤ O.length ∧ (q.2.1 = false → q.2.2.2.length ≤ q.1) ∧ q.2.2.2.length ≤ q.1 + 1 ∧ q.2.2.2 ++ insT l[i] q.2.1 (O.drop q.1) = T) (fun q => O.length - q.1) [] (0, false, v17, []) ⟨Nat.zero_le _, fun _ => Nat.zero_le _, Nat.zero_le _, hT⟩ ?_ ?_
    · exact ⟨rfl, ⟨sle_i rfl, sle_i rfl, sle_sl rfl, sle_own, sle_b rfl, sle_ptr, sle_i rfl, sle_i rfl, sle_sl rfl, True.intro⟩, HLe.cons 17 rfl (HOLe.refl _) (HLe.cons 5 rfl (HOLe.refl _) .nil)⟩
    clear hT
    rintro ⟨j, dn, u, N⟩ ⟨hj, hN0, hNl, hst⟩
    dsimp only at hj hN0 hNl hst ⊢
    by_cases hjl : j < O.length
    · have hj1 : ((j : Int) + 1 = ((j + 1 : Nat) : Int)) := by omega
      rw [List.drop_eq_getElem_cons hjl] at hst
      cases dn
      · have hN0 := hN0 rfl
        have ho := rorder_spec l[i].l O[j].l hx.1 (hO _ (List.getElem_mem hjl)).1
        have hst : N ++ (if decide (cmpS l[i].l O[j].l < 0) = true then l[i] :: O[j] :: O.drop (j + 1) else O[j] :: insS (ltCI ordI) l[i] (O.drop (j + 1))) = T := hst
        have hcc := cmpS_cases l[i].l O[j].l
        generalize cmpS l[i].l O[j].l = c at ho hst hcc
        by_cases hc1 : c = -1
        · rw [if_pos (decide_eq_true (by omega))] at hst
          repeat' (first | refine Awp.seq ?_ | refine Awp.block ?_ | refine Awp.region ?_ | refine Ops.nil (nqA ?_) | refine Ops.nil (nqX ?_) | refine Awp.skip (nqA ?_) | (refine o_add rfl rfl rfl rfl ?_ ?_; omega) | (refine o_calm rfl TtOk rfl rfl rfl ?_ (fun _ => ?_); exact nd) | refine o_alloc (d := 9) rfl TtOk rfl rfl rfl (fun b9 => ?_) | refine o_store TtOk rfl rfl rfl rfl rfl rfl rfl ⟨rfl, rfl⟩ rfl rfl rfl rfl rfl ?_ | (refine o_index rfl TtOk rfl rfl rfl rfl rfl rfl ?_ (getq_nat ?_) ?_; omega; omega) | refine o_buildSlice TtOk rfl rfl rfl rfl rfl rfl rfl rfl rfl rfl rfl nq1 (fun _ => ?_) | (refine o_append TtOk rfl rfl rfl rfl rfl rfl rfl rfl rfl (by first | exact True.intro | exact rfl) rfl rfl (fun _ => rfl) ?_ ?_ (fun _ => ?_); ((repeat' (first | rw [List.length_append] | rw [List.length_map] | rw [List.length_cons] | rw [List.length_nil] | rw [List.length_take] | rw [List.length_drop])) <;> omega); ((repeat' (first | rw [List.length_append] | rw [List.length_map] | rw [List.length_cons] | rw [List.length_nil] | rw [List.length_take] | rw [List.length_drop])) <;> omega)) | (refine a_condP rfl (fun hc => ?_) (fun hc => ?_)) <;> (try (exfalso; omega)) | refine o_callE rfl (ho) ⟨nqS, nqS, True.intro⟩ rfl ?_)
          exact ⟨(j + 1, true, _, (N ++ [l[i]]) ++ [O[j]]), [], ⟨hjl, fun h => by first | exact absurd (show true = false from h) (by decide) | (simp only [List.length_append, List.length_cons, List.length_nil]; omega), by simp only [List.length_append, List.length_cons, List.length_nil]; omega, by rw [← hst]; simp [insT]⟩, by show O.length - (j + 1) < O.length - j; omega, rfl, ⟨sle_i hj1, sle_i rfl, sle_sl rfl, sle_own, sle_b rfl, sle_ptr, sle_i rfl, sle_i rfl, sle_sl rfl, True.intro⟩, HLe.cons 17 rfl (HOLe.row (by rw [List.map_append, List.map_append]; rfl)) (HLe.cons 5 rfl (HOLe.refl _) .nil)⟩
        · rw [if_neg (by rw [decide_eq_true_eq]; omega)] at hst
          repeat' (first | refine Awp.seq ?_ | refine Awp.block ?_ | refine Awp.region ?_ | refine Ops.nil (nqA ?_) | refine Ops.nil (nqX ?_) | refine Awp.skip (nqA ?_) | (refine o_add rfl rfl rfl rfl ?_ ?_; omega) | (refine o_calm rfl TtOk rfl rfl rfl ?_ (fun _ => ?_); exact nd) | refine o_alloc (d := 9) rfl TtOk rfl rfl rfl (fun b9 => ?_) | refine o_store TtOk rfl rfl rfl rfl rfl rfl rfl ⟨rfl, rfl⟩ rfl rfl rfl rfl rfl ?_ | (refine o_index rfl TtOk rfl rfl rfl rfl rfl rfl ?_ (getq_nat ?_) ?_; omega; omega) | refine o_buildSlice TtOk rfl rfl rfl rfl rfl rfl rfl rfl rfl rfl rfl nq1 (fun _ => ?_) | (refine o_append TtOk rfl rfl rfl rfl rfl rfl rfl rfl rfl (by first | exact True.intro | exact rfl) rfl rfl (fun _ => rfl) ?_ ?_ (fun _ => ?_); ((repeat' (first | rw [List.length_append] | rw [List.length_map] | rw [List.length_cons] | rw [List.length_nil] | rw [List.length_take] | rw [List.length_drop])) <;> omega); ((repeat' (first | rw [List.length_append] | rw [List.length_map] | rw [List.length_cons] | rw [List.length_nil] | rw [List.length_take] | rw [List.length_drop])) <;> omega)) | (refine a_condP rfl (fun hc => ?_) (fun hc => ?_)) <;> (try (exfalso; omega)) | refine o_callE rfl (ho) ⟨nqS, nqS, True.intro⟩ rfl ?_)
          exact ⟨(j + 1, false, _, N ++ [O[j]]), [], ⟨hjl, fun h => by first | exact absurd (show true = false from h) (by decide) | (simp only [List.length_append, List.length_cons, List.length_nil]; omega), by simp only [List.length_append, List.length_cons, List.length_nil]; omega, by rw [← hst]; simp [insT]⟩, by show O.length - (j + 1) < O.length - j; omega, rfl, ⟨sle_i hj1, sle_i rfl, sle_sl rfl, sle_own, sle_b rfl, sle_ptr, sle_i rfl, sle_i rfl, sle_sl rfl, True.intro⟩, HLe.cons 17 rfl (HOLe.row (by rw [List.map_append]; rfl)) (HLe.cons 5 rfl (HOLe.refl _) .nil)⟩
      · repeat' (first | refine Awp.seq ?_ | refine Awp.block ?_ | refine Awp.region ?_ | refine Ops.nil (nqA ?_) | refine Ops.nil (nqX ?_) | refine Awp.skip (nqA ?_) | refine o_noT rfl rfl rfl ?_ | (refine o_add rfl rfl rfl rfl ?_ ?_; omega) | (refine o_calm rfl TtOk rfl rfl rfl ?_ (fun _ => ?_); exact nd) | refine o_alloc (d := 9) rfl TtOk rfl rfl rfl (fun b9 => ?_) | refine o_store TtOk rfl rfl rfl rfl rfl rfl rfl ⟨rfl, rfl⟩ rfl rfl rfl rfl rfl ?_ | (refine o_index rfl TtOk rfl rfl rfl rfl rfl rfl ?_ (getq_nat ?_) ?_; omega; omega) | refine o_buildSlice TtOk rfl rfl rfl rfl rfl rfl rfl rfl rfl rfl rfl nq1 (fun _ => ?_) | (refine o_append TtOk rfl rfl rfl rfl rfl rfl rfl rfl rfl (by first | exact True.intro | exact rfl) rfl rfl (fun _ => rfl) ?_ ?_ (fun _ => ?_); ((repeat' (first | rw [List.length_append] | rw [List.length_map] | rw [List.length_cons] | rw [List.length_nil] | rw [List.length_take] | rw [List.length_drop])) <;> omega); ((repeat' (first | rw [List.length_append] | rw [List.length_map] | rw [List.length_cons] | rw [List.length_nil] | rw [List.length_take] | rw [List.length_drop])) <;> omega)) | refine a_condF rfl ?_ | (refine a_condP rfl (fun hc => ?_) (fun hc => ?_)) <;> (try (exfalso; omega)))
        exact ⟨(j + 1, true, _, N ++ [O[j]]), [], ⟨hjl, fun h => by first | exact absurd (show true = false from h) (by decide) | (simp only [List.length_append, List.length_cons, List.length_nil]; omega), by simp only [List.length_append, List.length_cons, List.length_nil]; omega, by rw [← hst]; simp [insT]⟩, by show O.length - (j + 1) < O.length - j; omega, rfl, ⟨sle_i hj1, sle_i rfl, sle_sl rfl, sle_own, sle_b rfl, sle_ptr, sle_i rfl, sle_i rfl, sle_sl rfl, True.intro⟩, HLe.cons 17 rfl (HOLe.row (by rw [List.map_append]; rfl)) (HLe.cons 5 rfl (HOLe.refl _) .nil)⟩
    · have hje : j = O.length := by omega
      subst hje
      rw [List.drop_length] at hst
      cases dn
      · have hst : N ++ [l[i]] = T := hst
        repeat' (first | refine Awp.seq ?_ | refine Awp.region ?_ | refine Ops.nil (nqA ?_) | refine Ops.nil (nqX ?_) | refine Awp.exit (nqA ?_) | (refine o_add rfl rfl rfl rfl ?_ ?_; omega) | (refine o_calm rfl TtOk rfl rfl rfl ?_ (fun _ => ?_); exact nd) | refine o_buildSlice TtOk rfl rfl rfl rfl rfl rfl rfl rfl rfl rfl rfl nq1 (fun _ => ?_) | (refine o_append TtOk rfl rfl rfl rfl rfl rfl rfl rfl rfl (by first | exact True.intro | exact rfl) rfl rfl (fun _ => rfl) ?_ ?_ (fun _ => ?_); ((repeat' (first | rw [List.length_append] | rw [List.length_map] | rw [List.length_cons] | rw [List.length_nil] | rw [List.length_take] | rw [List.length_drop])) <;> omega); ((repeat' (first | rw [List.length_append] | rw [List.length_map] | rw [List.length_cons] | rw [List.length_nil] | rw [List.length_take] | rw [List.length_drop])) <;> omega)) | refine a_condT rfl ?_ | (refine a_condP rfl (fun hc => ?_) (fun hc => ?_)) <;> (try (exfalso; omega)))
        exact ⟨(i + 1, _), [], hlt, by show l.length - (i + 1) < l.length - i; omega, rfl, ⟨sle_i hi1, sle_i rfl, sle_sl rfl, sle_own, True.intro⟩, HLe.cons 17 rfl (HOLe.row (by rw [hss, ← hst, List.map_append]; rfl)) .nil⟩
      · have hst : N ++ [] = T := hst
        rw [List.append_nil] at hst
        repeat' (first | refine Awp.seq ?_ | refine Awp.region ?_ | refine Ops.nil (nqA ?_) | refine Ops.nil (nqX ?_) | refine Awp.skip (nqA ?_) | refine Awp.exit (nqA ?_) | (refine o_add rfl rfl rfl rfl ?_ ?_; omega) | (refine o_calm rfl TtOk rfl rfl rfl ?_ (fun _ => ?_); exact nd) | refine a_condF rfl ?_ | (refine a_condP rfl (fun hc => ?_) (fun hc => ?_)) <;> (try (exfalso; omega)))
        exact ⟨(i + 1, _), [], hlt, by show l.length - (i + 1) < l.length - i; omega, rfl, ⟨sle_i hi1, sle_i rfl, sle_sl rfl, sle_own, True.intro⟩, HLe.cons 17 rfl (HOLe.row (by rw [hss, ← hst])) .nil⟩
  · have hie : i = l.length := by omega
    subst hie
    rw [List.take_length]
    generalize srtI l = O
    repeat' (first | refine Awp.seq ?_ | refine Awp.region ?_ | refine Ops.nil (nqA ?_) | refine Awp.exit (nqA ?_) | refine Awp.ret (nqE ?_) | (refine o_calm rfl TtOk rfl rfl rfl ?_ (fun _ => ?_); exact nd) | (refine a_condP rfl (fun hc => ?_) (fun hc => ?_)) <;> (try (exfalso; omega)))
    refine end_tmp rfl rfl rfl [10] [] (CLe.fz ?_) .nil ⟨rfl, rfl⟩ _ (.inl rfl)
    exact .head _
theorem rof_spec (l : List Lef) (hl : l.length ≤ 100000) (hok : ∀ x ∈ l, x.ok) : Spec Tryz.prog 59 [.sl 65 (l.map Lef.A)] [] (fun v os => v = .sl 66 ((itmsL l).map Itm.R) ∧ os = []) := by
  refine spec_of TtOk [] Tryz.func59 rfl Tryz.ntmps59 (by kernel_rfl) rfl rfl (fun C => ?_) rfl
  repeat' (first | refine Awp.seq ?_ | refine Awp.block ?_ | refine Awp.region ?_ | refine Ops.nil (nqA ?_) | refine o_len rfl TtOk rfl rfl rfl (fun _ => ?_) | (refine o_calm rfl TtOk rfl rfl rfl ?_ (fun _ => ?_); exact nd) | refine o_buildSlice (d := 6) TtOk rfl rfl rfl rfl rfl rfl rfl rfl rfl rfl rfl nq1 (fun v6 => ?_))
  refine Awp.loop (fun q : Nat × Value => ⟨21, [(9, .i .i64 q.1), (8, .i .i64 l.length), (7, .sl 65 (l.map Lef.A)), (3, .own 6 q.2)], [(6, .row q.2 62 66 (((l.map leafI).take q.1).map Itm.R))]⟩) (fun q => q.1 ≤ l.length) (fun q => l.length - q.1) [] (0, v6) (Nat.zero_le _) ?_ ?_
  · exact ⟨rfl, ⟨sle_i rfl, sle_i rfl, sle_sl rfl, sle_own, True.intro⟩, HLe.cons 6 rfl (HOLe.refl _) .nil⟩
  rintro ⟨i, v⟩ hi
  dsimp only at hi ⊢
  have hml : (l.map leafI).length = l.length := List.length_map ..
  by_cases hlt : i < l.length
  · have h1 := rleaf_spec l[i] (hok _ (List.getElem_mem hlt))
    have hi1 : ((i : Int) + 1 = ((i + 1 : Nat) : Int)) := by omega
    have hst : (l.map leafI).take (i + 1) = (l.map leafI).take i ++ [leafI l[i]] := by rw [List.take_succ_eq_append_getElem (by omega), List.getElem_map]
    have hln : ((l.map leafI).take i).length = i := by rw [List.length_take]; omega
    generalize (l.map leafI).take i = T at hst hln ⊢
    repeat' (first | refine Awp.seq ?_ | refine Awp.block ?_ | refine Awp.region ?_ | refine Ops.nil (nqA ?_) | refine Ops.nil (nqX ?_) | refine Awp.skip (nqA ?_) | (refine o_add rfl rfl rfl rfl ?_ ?_; omega) | (refine o_calm rfl TtOk rfl rfl rfl ?_ (fun _ => ?_); exact nd) | refine o_alloc (d := 5) rfl TtOk rfl rfl rfl (fun b5 => ?_) | refine o_store TtOk rfl rfl rfl rfl rfl rfl rfl ⟨rfl, rfl⟩ rfl rfl rfl rfl rfl ?_ | (refine o_index rfl TtOk rfl rfl rfl rfl rfl rfl ?_ (getq_nat ?_) ?_; omega; omega) | refine o_buildSlice TtOk rfl rfl rfl rfl rfl rfl rfl rfl rfl rfl rfl nq1 (fun _ => ?_) | (refine o_append TtOk rfl rfl rfl rfl rfl rfl rfl rfl rfl (by first | exact True.intro | exact rfl) rfl rfl (fun _ => rfl) ?_ ?_ (fun _ => ?_); ((repeat' (first | rw [List.length_append] | rw [List.length_map] | rw [List.length_cons] | rw [List.length_nil] | rw [List.length_take] | rw [List.length_drop])) <;> omega); ((repeat' (first | rw [List.length_append] | rw [List.length_map] | rw [List.length_cons] | rw [List.length_nil] | rw [List.length_take] | rw [List.length_drop])) <;> omega)) | (refine a_condP rfl (fun hc => ?_) (fun hc => ?_)) <;> (try (exfalso; omega)) | refine o_callE rfl (h1) ⟨nqS, True.intro⟩ rfl ?_)
    refine ⟨(i + 1, _), [], hlt, by show l.length - (i + 1) < l.length - i; omega, rfl, ⟨sle_i hi1, sle_i rfl, sle_sl rfl, sle_own, True.intro⟩, HLe.cons 6 rfl (HOLe.row ?_) .nil⟩
    rw [hst, List.map_append]; rfl
  · have hie : i = l.length := by omega
    subst hie
    rw [List.take_of_length_le (by omega)]
    have h2 := rsorted_spec (l.map leafI) (by omega) (fun x hx => by
      obtain ⟨y, hy, rfl⟩ := List.mem_map.1 hx
      exact leafI_ok y (hok y hy))
    have hit : srtI (l.map leafI) = itmsL l := rfl
    rw [hit] at h2
    generalize l.map leafI = T at h2 ⊢
    generalize itmsL l = R at h2 ⊢
    repeat' (first | (refine o_freezeR 6 3 rfl rfl rfl ?_) | refine Awp.seq ?_ | refine Awp.region ?_ | refine Ops.nil (nqA ?_) | refine Awp.exit (nqA ?_) | refine Awp.ret (nqE ?_) | (refine o_calm rfl TtOk rfl rfl rfl ?_ (fun _ => ?_); exact nd) | (refine a_condP rfl (fun hc => ?_) (fun hc => ?_)) <;> (try (exfalso; omega)) | refine o_callE rfl (h2) ⟨nqS, True.intro⟩ rfl ?_)
    exact nq2
theorem told16_spec (l : List Itm) (n : Nat) (_hl : l.length ≤ 100000) (hn : n ≤ 100000) (hln : l.length ≤ n) : Spec Tryz.prog 71 [.sl 66 (l.map Itm.A), .i .i64 n] [] (fun v os => v = .sl 66 (l.map Itm.R) ∧ os = []) := by
  refine spec_of TtOk [] Tryz.func71 rfl Tryz.ntmps71 (by kernel_rfl) rfl rfl (fun C => ?_) rfl
  repeat' (first | refine Awp.seq ?_ | refine Awp.block ?_ | refine Awp.region ?_ | refine Ops.nil (nqA ?_) | (refine o_calm rfl TtOk rfl rfl rfl ?_ (fun _ => ?_); exact nd) | refine o_buildSlice (d := 7) TtOk rfl rfl rfl rfl rfl rfl rfl rfl rfl rfl rfl nq1 (fun v7 => ?_))
  refine Awp.loop (fun q : Nat × Value => ⟨28, [(6, .i .i64 q.1), (1, .i .i64 n), (0, .sl 66 (l.map Itm.A)), (5, .own 7 q.2)], [(7, .row q.2 62 66 ((l.take q.1).map Itm.R))]⟩) (fun q => q.1 ≤ l.length) (fun q => l.length - q.1) [] (0, v7) (Nat.zero_le _) ?_ ?_
  · exact ⟨rfl, ⟨sle_i rfl, sle_i rfl, sle_sl rfl, sle_own, True.intro⟩, HLe.cons 7 rfl (HOLe.refl _) .nil⟩
  rintro ⟨i, v⟩ hi
  dsimp only at hi ⊢
  by_cases hlt : i < l.length
  · have h1 := told15_spec l[i]
    have hi1 : ((i : Int) + 1 = ((i + 1 : Nat) : Int)) := by omega
    have hst : l.take (i + 1) = l.take i ++ [l[i]] := List.take_succ_eq_append_getElem hlt
    have hln : (l.take i).length = i := by rw [List.length_take]; omega
    generalize l.take i = T at hst hln ⊢
    repeat' (first | refine Awp.seq ?_ | refine Awp.block ?_ | refine Awp.region ?_ | refine Ops.nil (nqA ?_) | refine Ops.nil (nqX ?_) | refine Awp.skip (nqA ?_) | (refine o_add rfl rfl rfl rfl ?_ ?_; omega) | refine o_len rfl TtOk rfl rfl rfl (fun _ => ?_) | (refine o_calm rfl TtOk rfl rfl rfl ?_ (fun _ => ?_); exact nd) | (refine o_index rfl TtOk rfl rfl rfl rfl rfl rfl ?_ (getq_nat ?_) ?_; omega; omega) | refine o_buildSlice TtOk rfl rfl rfl rfl rfl rfl rfl rfl rfl rfl rfl nq1 (fun _ => ?_) | (refine o_append TtOk rfl rfl rfl rfl rfl rfl rfl rfl rfl (by first | exact True.intro | exact rfl) rfl rfl (fun _ => rfl) ?_ ?_ (fun _ => ?_); ((repeat' (first | rw [List.length_append] | rw [List.length_map] | rw [List.length_cons] | rw [List.length_nil] | rw [List.length_take] | rw [List.length_drop])) <;> omega); ((repeat' (first | rw [List.length_append] | rw [List.length_map] | rw [List.length_cons] | rw [List.length_nil] | rw [List.length_take] | rw [List.length_drop])) <;> omega)) | (fail_if_success (refine o_isLit rfl (by first | exact .inl rfl | exact .inr rfl) ?_)); (refine o_splitP rfl rfl (fun hc => ?_) (fun hc => ?_) <;> try (exfalso; omega)) | (refine a_condP rfl (fun hc => ?_) (fun hc => ?_)) <;> (try (exfalso; omega)) | refine o_callE rfl (h1) ⟨nqS, True.intro⟩ rfl ?_)
    refine ⟨(i + 1, _), [], hlt, by show l.length - (i + 1) < l.length - i; omega, rfl, ⟨sle_i hi1, sle_i rfl, sle_sl rfl, sle_own, True.intro⟩, HLe.cons 7 rfl (HOLe.row ?_) .nil⟩
    rw [hst, List.map_append]; rfl
  · have hie : i = l.length := by omega
    subst hie
    rw [List.take_length]
    repeat' (first | refine Awp.seq ?_ | refine Awp.region ?_ | refine Ops.nil (nqA ?_) | refine Awp.exit (nqA ?_) | refine Awp.ret (nqE ?_) | refine o_noT rfl rfl rfl ?_ | refine o_len rfl TtOk rfl rfl rfl (fun _ => ?_) | (refine o_calm rfl TtOk rfl rfl rfl ?_ (fun _ => ?_); exact nd) | (fail_if_success (refine o_isLit rfl (by first | exact .inl rfl | exact .inr rfl) ?_)); (refine o_splitP rfl rfl (fun hc => ?_) (fun hc => ?_) <;> try (exfalso; omega)) | refine a_condF rfl ?_)
    all_goals
      refine end_tmp rfl rfl rfl [7] [] (CLe.fz ?_) .nil ⟨rfl, rfl⟩ _ (.inl rfl)
      exact .head _
theorem leaves16_spec (l : List Lef) (hl : l.length ≤ 100000) : Spec Tryz.prog 12 [.sl 65 (l.map Lef.A)] [] (fun v os => v = .sl 65 (l.map Lef.A) ∧ os = []) := by
  refine spec_of TtOk [] Tryz.func12 rfl Tryz.ntmps12 (by kernel_rfl) rfl rfl (fun C => ?_) rfl
  repeat' (first | refine Awp.seq ?_ | refine Awp.block ?_ | refine Awp.region ?_ | refine Ops.nil (nqA ?_) | refine o_len rfl TtOk rfl rfl rfl (fun _ => ?_) | (refine o_calm rfl TtOk rfl rfl rfl ?_ (fun _ => ?_); exact nd) | refine o_buildSlice (d := 6) TtOk rfl rfl rfl rfl rfl rfl rfl rfl rfl rfl rfl nq1 (fun v6 => ?_))
  refine Awp.loop (fun q : Nat × Value => ⟨19, [(9, .i .i64 q.1), (8, .i .i64 l.length), (7, .sl 65 (l.map Lef.A)), (3, .own 6 q.2)], [(6, .row q.2 58 65 ((l.take q.1).map Lef.A))]⟩) (fun q => q.1 ≤ l.length) (fun q => l.length - q.1) [] (0, v6) (Nat.zero_le _) ?_ ?_
  · exact ⟨rfl, ⟨sle_i rfl, sle_i rfl, sle_sl rfl, sle_own, True.intro⟩, HLe.cons 6 rfl (HOLe.refl _) .nil⟩
  rintro ⟨i, v⟩ hi
  dsimp only at hi ⊢
  by_cases hlt : i < l.length
  · have hi1 : ((i : Int) + 1 = ((i + 1 : Nat) : Int)) := by omega
    have hst : l.take (i + 1) = l.take i ++ [l[i]] := List.take_succ_eq_append_getElem hlt
    have hln : (l.take i).length = i := by rw [List.length_take]; omega
    generalize l.take i = T at hst hln ⊢
    repeat' (first | refine Awp.seq ?_ | refine Awp.block ?_ | refine Awp.region ?_ | refine Ops.nil (nqA ?_) | refine Ops.nil (nqX ?_) | refine Awp.skip (nqA ?_) | (refine o_add rfl rfl rfl rfl ?_ ?_; omega) | (refine o_calm rfl TtOk rfl rfl rfl ?_ (fun _ => ?_); exact nd) | refine o_alloc (d := 5) rfl TtOk rfl rfl rfl (fun b5 => ?_) | refine o_store TtOk rfl rfl rfl rfl rfl rfl rfl ⟨rfl, rfl⟩ rfl rfl rfl rfl rfl ?_ | (refine o_index rfl TtOk rfl rfl rfl rfl rfl rfl ?_ (getq_nat ?_) ?_; omega; omega) | refine o_buildSlice TtOk rfl rfl rfl rfl rfl rfl rfl rfl rfl rfl rfl nq1 (fun _ => ?_) | (refine o_append TtOk rfl rfl rfl rfl rfl rfl rfl rfl rfl (by first | exact True.intro | exact rfl) rfl rfl (fun _ => rfl) ?_ ?_ (fun _ => ?_); ((repeat' (first | rw [List.length_append] | rw [List.length_map] | rw [List.length_cons] | rw [List.length_nil] | rw [List.length_take] | rw [List.length_drop])) <;> omega); ((repeat' (first | rw [List.length_append] | rw [List.length_map] | rw [List.length_cons] | rw [List.length_nil] | rw [List.length_take] | rw [List.length_drop])) <;> omega)) | (refine a_condP rfl (fun hc => ?_) (fun hc => ?_)) <;> (try (exfalso; omega)))
    refine ⟨(i + 1, _), [], hlt, by show l.length - (i + 1) < l.length - i; omega, rfl, ⟨sle_i hi1, sle_i rfl, sle_sl rfl, sle_own, True.intro⟩, HLe.cons 6 rfl (HOLe.row ?_) .nil⟩
    rw [hst, List.map_append]; rfl
  · have hie : i = l.length := by omega
    subst hie
    rw [List.take_length]
    repeat' (first | refine Awp.seq ?_ | refine Awp.region ?_ | refine Ops.nil (nqA ?_) | refine Awp.exit (nqA ?_) | refine Awp.ret (nqE ?_) | (refine o_calm rfl TtOk rfl rfl rfl ?_ (fun _ => ?_); exact nd) | (refine a_condP rfl (fun hc => ?_) (fun hc => ?_)) <;> (try (exfalso; omega)))
    refine end_tmp rfl rfl rfl [6] [] (CLe.fz ?_) .nil ⟨rfl, rfl⟩ _ (.inl rfl)
    exact .head _
end Go.Proofs.YtcmgpkibjdbonaaGreat
set_option maxHeartbeats 8000000
set_option maxRecDepth 100000
namespace Go.Proofs.YtcmgpkibjdbonaaGreat
open Go Go.RowKit
def itmC_ (x : Itm) : List Value := Value.int .i64 x.n :: (x.l.map cellB ++ (x.s.map cellB ++ [Value.int .i64 x.t]))
def eqI (x y : Itm) : Bool := x.n == y.n && (x.l == y.l && (x.s == y.s && x.t == y.t))
section
variable {m : OM} {C : Ctx} {ops : Array Oper} {l : List Oper} {K : St → Prop} {n : Nat} {sl : List (Nat × AV)} {hp : List (Nat × HO)} {d : Nat} {ty : Nat} {pos : String} {aft : Array Edge} {gd : Option (Nat × Bool)}
end
end Go.Proofs.YtcmgpkibjdbonaaGreat
set_option maxHeartbeats 8000000
set_option maxRecDepth 100000
namespace Go.Proofs.YtcmgpkibjdbonaaGreat
open Go Go.RowKit
section
variable {m : OM} {P : Program} {T : List (Nat × TI)} {C : Ctx} {ops : Array Oper} {l : List Oper} {K : St → Prop} {n : Nat} {sl : List (Nat × AV)} {hp : List (Nat × HO)} {d : Nat} {ty : Nat} {pos : String} {aft : Array Edge} {gd : Option (Nat × Bool)}
/-- != on arrays of bytes. -/
theorem o_neArr8 (hT : TTOk P T) (hw : gval ops ⟨n, sl, hp⟩ gd = gwant gd) {t u e k : Nat} {x y : Operand} {l1 l2 : List UInt8} {sz0 by0 by1 : Nat} {z0 z1 : AV}
    (hx : ev ⟨n, sl, hp⟩ x = .arr 1 k (l1.map byA)) (hy : ev ⟨n, sl, hp⟩ y = .arr 1 k (l2.map byA)) (ht : tget T t = some ⟨.array k e, sz0, by0, z0⟩) (he : tget T e = some ⟨.int .u8, 1, by1, z1⟩) (hd : Nat.blt d n = true) (hg : P.eqGuardType P.depth t = false)
    (h : Ops m P C ops l ⟨n, (d, .b (!(l1 == l2))) :: sl, hp⟩ K) : Ops m P C ops (⟨some d, .binOp .neq t x y u, ty, pos, aft, gd⟩ :: l) ⟨n, sl, hp⟩ K := by
  refine Ops.by (d := some d) hw none okc_none hd rfl (fun a w hs => ?_) h
  have Ex := ev_rep hs x
  have Ey := ev_rep hs y
  rw [hx] at Ex
  rw [hy] at Ey
  obtain ⟨c1, hc1, Ex⟩ := Ex
  obtain ⟨c2, hc2, Ey⟩ := Ey
  have Ex : a.eval x = .agg c1.toArray := Ex
  have Ey : a.eval y = .agg c2.toArray := Ey
  simp only [repC, List.length_map] at hc1 hc2
  have q1 := bytes_cells l1 c1 hc1.2
  have q2 := bytes_cells l2 c2 hc2.2
  have hu := tk_array (tget_ok hT ht)
  have hue := tk_int (tget_ok hT he)
  obtain ⟨ie, hie, hies, _⟩ := (tget_ok hT he).inf
  have hpk : P.plainKey e = true := by unfold Program.plainKey; rw [hue]
  have hco : P.cellsOf e = 1 := by unfold Program.cellsOf; rw [hie]; exact hies
  refine ⟨_, repV_b.2 rfl, fun w' _ => ?_⟩
  have h1 := run_equalIn_array (P := P) w' 9999 c1.toArray c2.toArray hu hie
  rw [hco, q1, q2, eqItems_bytes hue hpk 9998 l1 l2 (List.range k) (fun i hi => by have := List.mem_range.1 hi; omega), all_range_eq l1 l2 k hc1.1 hc2.1] at h1
  have hgd := run_eqGuard_agg (P := P) w' .neq t x y c1.toArray c2.toArray hg
  have hr := run_neq_struct (P := P) w' t c1.toArray c2.toArray
  rw [q1, q2] at hr hgd
  rw [show (10000 : Nat) = 9999 + 1 from rfl, h1] at hr
  simp only [execOp, Ex, Ey, q1, q2, Sem.run_bind, hgd, hr, Result.andThen_ok, Sem.run_pure]
end
end Go.Proofs.YtcmgpkibjdbonaaGreat
set_option maxHeartbeats 8000000
set_option maxRecDepth 100000
namespace Go.Proofs.YtcmgpkibjdbonaaGreat
open Go Go.RowKit
end Go.Proofs.YtcmgpkibjdbonaaGreat
set_option maxHeartbeats 16000000
set_option maxRecDepth 100000
namespace Go.Proofs.YtcmgpkibjdbonaaGreat
open Go Go.RowKit
theorem good_parts {p : Pfx} (h : goodP p = true) : 0 ≤ p.n ∧ p.n ≤ 256 ∧ cutL p.l p.n.toNat = p.l := by
  unfold goodP at h
  simp only [Bool.and_eq_true, decide_eq_true_eq, beq_iff_eq] at h
  exact ⟨h.1, h.2.1, h.2.2⟩
theorem good_cut {l : List UInt8} (hl : l.length = 32) {n : Nat} (hn : n ≤ 256) : goodP ⟨(n : Nat), cutL l n⟩ = true := by
  unfold goodP
  have h2 : cutL (cutL l n) n = cutL l n := cut_eq (cutL_len l n hl hn) hl hn (fun i hi => by rw [cut_bit l hl n i hn, if_pos hi])
  have e : (((n : Nat) : Int)).toNat = n := Int.toNat_natCast n
  show (decide (0 ≤ ((n : Nat) : Int)) && (decide (((n : Nat) : Int) ≤ 256) && (cutL (cutL l n) ((n : Nat) : Int).toNat == cutL l n))) = true
  rw [e, h2, beq_self_eq_true, decide_eq_true (by omega), decide_eq_true (by omega)]; rfl
theorem join_good {l : List Itm} (h0 : 0 < l.length) (hr : RiseI l) (hok : ∀ x ∈ l, x.ok) (hg : ∀ x ∈ l, goodI x = true) : goodP (joinF l.length l).p = true := by
  obtain ⟨a, b⟩ := join_pfx l.length l h0 (Nat.le_refl _) hr hok
  by_cases h1 : l.length = 1
  · rw [a h1]
    have := hg _ (List.getElem_mem h0)
    unfold goodI at this
    simp only [Bool.and_eq_true] at this
    exact this.1
  · obtain ⟨b1, b2⟩ := b (by omega)
    have hc := (spl_ok hr hok (by omega)).1
    show goodP ⟨(joinF l.length l).n, (joinF l.length l).l⟩ = true
    rw [b1, b2]
    exact good_cut (hok _ (List.getElem_mem h0)).1 (by omega)
def covI : Nat → List (List UInt8) → List Itm → List Itm × List Itm
  | 0, _, _ => ([], [])
  | k + 1, ls, l => if l = [] then ([], []) else if ls.any (hasP (joinF l.length l).p) = false then ([joinF l.length l], []) else if l.length = 1 then ([], l)
    else ((covI k ls (l.take (splI l))).1 ++ (covI k ls (l.drop (splI l))).1, (covI k ls (l.take (splI l))).2 ++ (covI k ls (l.drop (splI l))).2)
end Go.Proofs.YtcmgpkibjdbonaaGreat
set_option maxHeartbeats 16000000
set_option maxRecDepth 100000
namespace Go.Proofs.YtcmgpkibjdbonaaGreat
open Go Go.RowKit
theorem filter_leafI (z : Itm) (l : List Lef) : (l.map leafI).filter (eqv (ltCI ordI) z) = (l.filter (eqv (ltCL ordL) ⟨z.l, [], 0⟩)).map leafI := by
  rw [List.filter_map]
  rfl
theorem itms_srt (l : List Lef) : itmsL (srtL l) = itmsL l := by
  refine (sortS_of woI (sortS_srt woI _) ?_)
  refine CE.trans (fun z => ?_) (sortS_ce woI _)
  rw [filter_leafI, filter_leafI, (sortS_ce woL l) ⟨z.l, [], 0⟩]; rfl
theorem itms_map (l : List Lef) : itmsL l = (srtL l).map leafI := by
  rw [← itms_srt]
  refine sortS_id woI ?_
  unfold Srt
  rw [List.pairwise_map]
  exact sortS_srt woL l
theorem openF_mem : ∀ (k : Nat) (ls : List (List UInt8)) (l : List Lef), ∀ x ∈ (openF k ls l).2, x ∈ l
  | 0, ls, l, x, h => by cases h
  | k + 1, ls, l, x, h => by
    unfold openF at h
    by_cases hn : l = []
    · rw [if_pos hn] at h; cases h
    rw [if_neg hn] at h
    by_cases hh : ls.any (hasP (joinF l.length (l.map leafI)).p) = false
    · rw [if_pos hh] at h; cases h
    rw [if_neg hh] at h
    by_cases h1 : l.length = 1
    · rw [if_pos h1] at h; exact h
    rw [if_neg h1] at h
    rcases List.mem_append.1 h with h | h
    · exact List.mem_of_mem_take (openF_mem k ls _ x h)
    · exact List.mem_of_mem_drop (openF_mem k ls _ x h)
end Go.Proofs.YtcmgpkibjdbonaaGreat
set_option maxHeartbeats 16000000
set_option maxRecDepth 100000
namespace Go.Proofs.YtcmgpkibjdbonaaGreat
open Go Go.RowKit
structure Stp where
  same : List Itm
  old : List Lef
  new : List Lef
def Stp.A (s : Stp) : AV := .agg [.sl 66 (s.same.map Itm.A), .sl 65 (s.old.map Lef.A), .sl 65 (s.new.map Lef.A)]
def Stp.R (s : Stp) : AV := .agg [.sl 66 (s.same.map Itm.R), .sl 65 (s.old.map Lef.A), .sl 65 (s.new.map Lef.A)]
structure Stp.ok (s : Stp) : Prop where
  same : ∀ x ∈ s.same, x.ok
  old : ∀ x ∈ s.old, x.ok
  new : ∀ x ∈ s.new, x.ok
/-- The items of parts and leaves, by rising prefixes. -/
def topU (same : List Itm) (l : List Lef) : List Itm := srtI (same ++ itmsL l)
/-- Does a step lead from one sum to another one: the error. -/
def stE (fr to : List UInt8) (s : Stp) : Int :=
  if 500 < s.old.length ∨ 500 < s.new.length then 2
  else if s.same.length = 1 ∧ s.old.length = 0 ∧ 0 < s.new.length then 3
  else if chkI (topU s.same s.old) ≠ 0 then chkI (topU s.same s.old)
  else if chkI (topU s.same s.new) ≠ 0 then chkI (topU s.same s.new)
  else if topS (topU s.same s.old) = fr ∧ topS (topU s.same s.new) = to then 0 else 11
theorem itmsL_len (l : List Lef) : (itmsL l).length = l.length := by unfold itmsL; rw [srtI_len, List.length_map]
theorem itmsL_ok {l : List Lef} (h : ∀ x ∈ l, x.ok) : ∀ x ∈ itmsL l, x.ok := fun x hx => by
  obtain ⟨y, hy, rfl⟩ := List.mem_map.1 (srtI_mem.1 hx)
  exact leafI_ok y (h y hy)
theorem topU_ok {same : List Itm} {l : List Lef} (hs : ∀ x ∈ same, x.ok) (h : ∀ x ∈ l, x.ok) : ∀ x ∈ topU same l, x.ok := fun x hx => by
  rcases List.mem_append.1 (srtI_mem.1 hx) with hx | hx
  · exact hs x hx
  · exact itmsL_ok h x hx
theorem topU_len (same : List Itm) (l : List Lef) : (topU same l).length = same.length + l.length := by unfold topU; rw [srtI_len, List.length_append, itmsL_len]
theorem fl_two {α : Type} (a b : List α) : [a, b].flatten = a ++ b := by simp
theorem fl_one {α : Type} (a : List α) : [a].flatten = a := by simp
theorem slabels_spec (l : List Lef) (hl : l.length ≤ 100000) : Spec Tryz.prog 49 [.sl 1 [.sl 65 (l.map Lef.A)]] [] (fun v os => v = .sl 32 ((l.map Lef.l).map labA) ∧ os = []) := by
  refine spec_of TtOk [] Tryz.func49 rfl Tryz.ntmps49 (by kernel_rfl) rfl rfl (fun C => ?_) rfl
  have h1 : Spec Tryz.prog 150 [.sl 1 [.sl 65 (l.map Lef.A)]] [] (fun v os => v = .sl 65 (l.map Lef.A) ∧ os = []) := by
    have := concatL_spec [l] (show 1 ≤ 100000 by decide) (by rw [fl_one]; exact hl)
    rw [fl_one] at this
    exact this
  repeat' (first | refine Awp.seq ?_ | refine Awp.block ?_ | refine Awp.region ?_ | refine Ops.nil (nqA ?_) | refine o_len rfl TtOk rfl rfl rfl (fun _ => ?_) | (refine o_calm rfl TtOk rfl rfl rfl ?_ (fun _ => ?_); exact nd) | refine o_callE rfl (h1) ⟨nqS, True.intro⟩ rfl ?_)
  refine Awp.loop (fun q : Nat × Value => ⟨20, [(9, .i .i64 q.1), (8, .i .i64 l.length), (7, .sl 65 (l.map Lef.A)), (3, .own 17 q.2)], [(17, .row q.2 44 32 (((l.take q.1).map Lef.l).map labA))]⟩) (fun q => q.1 ≤ l.length) (fun q => l.length - q.1) [] (0, .slice none 0 0) (Nat.zero_le _) ?_ ?_
  · exact ⟨rfl, ⟨sle_i rfl, sle_i rfl, sle_sl rfl, sle_nilown, True.intro⟩, HLe.none .nil⟩
  rintro ⟨i, v⟩ hi
  dsimp only at hi ⊢
  by_cases hlt : i < l.length
  · have hi1 : ((i : Int) + 1 = ((i + 1 : Nat) : Int)) := by omega
    have hst : (l.take (i + 1)).map Lef.l = (l.take i).map Lef.l ++ [l[i].l] := by rw [List.take_succ_eq_append_getElem hlt, List.map_append]; rfl
    have hln : ((l.take i).map Lef.l).length ≤ 100000 := by rw [List.length_map, List.length_take]; omega
    clear h1
    generalize (l.take i).map Lef.l = a at *
    repeat' (first | refine Awp.seq ?_ | refine Awp.block ?_ | refine Awp.region ?_ | refine Ops.nil (nqA ?_) | refine Ops.nil (nqX ?_) | refine Awp.skip (nqA ?_) | (refine o_add rfl rfl rfl rfl ?_ ?_; omega) | (refine o_calm rfl TtOk rfl rfl rfl ?_ (fun _ => ?_); exact nd) | refine o_alloc (d := 5) rfl TtOk rfl rfl rfl (fun b5 => ?_) | refine o_store TtOk rfl rfl rfl rfl rfl rfl rfl ⟨rfl, rfl⟩ rfl rfl rfl rfl rfl ?_ | (refine o_index rfl TtOk rfl rfl rfl rfl rfl rfl ?_ (getq_nat ?_) ?_; omega; omega) | refine o_buildSlice TtOk rfl rfl rfl rfl rfl rfl rfl rfl rfl rfl rfl nq1 (fun _ => ?_) | (refine o_append TtOk rfl rfl rfl rfl rfl rfl rfl rfl rfl (by first | exact True.intro | exact rfl) rfl rfl (fun _ => rfl) ?_ ?_ (fun _ => ?_); ((repeat' (first | rw [List.length_append] | rw [List.length_map] | rw [List.length_cons] | rw [List.length_nil] | rw [List.length_take] | rw [List.length_drop])) <;> omega); ((repeat' (first | rw [List.length_append] | rw [List.length_map] | rw [List.length_cons] | rw [List.length_nil] | rw [List.length_take] | rw [List.length_drop])) <;> omega)) | (refine a_condP rfl (fun hc => ?_) (fun hc => ?_)) <;> (try (exfalso; omega)))
    all_goals exact ⟨(i + 1, _), [], hlt, by show l.length - (i + 1) < l.length - i; omega, rfl, ⟨sle_i hi1, sle_i rfl, sle_sl rfl, sle_own, True.intro⟩, HLe.cons 17 rfl (HOLe.row (by rw [hst, List.map_append]; rfl)) .nil⟩
  · have hie : i = l.length := by omega
    subst hie
    rw [List.take_length]
    repeat' (first | refine Awp.seq ?_ | refine Awp.region ?_ | refine Ops.nil (nqA ?_) | refine Awp.exit (nqA ?_) | refine Awp.ret (nqE ?_) | (refine o_calm rfl TtOk rfl rfl rfl ?_ (fun _ => ?_); exact nd) | (refine a_condP rfl (fun hc => ?_) (fun hc => ?_)) <;> (try (exfalso; omega)))
    all_goals
      refine end_tmp rfl rfl rfl [17] [] (CLe.fz ?_) .nil ⟨rfl, rfl⟩ _ (.inl rfl)
      exact .head _
theorem top19_spec (same : List Itm) (l : List Lef) (hs : same.length ≤ 50000) (hl : l.length ≤ 50000) (hok : ∀ x ∈ same, x.ok) (hlo : ∀ x ∈ l, x.ok) : Spec Tryz.prog 58 [.sl 66 (same.map Itm.A), .sl 65 (l.map Lef.A)] [] (fun v os => v = .tup [labA (topS (topU same l)), .i .i64 (chkI (topU same l))] ∧ os = []) := by
  refine spec_of TtOk [] Tryz.func58 rfl Tryz.ntmps58 (by kernel_rfl) rfl rfl (fun C => ?_) rfl
  have h1 := of_spec l (by omega) hlo
  have hlen : (same ++ itmsL l).length ≤ 100000 := by rw [List.length_append, itmsL_len]; omega
  have h2 : Spec Tryz.prog 156 [.sl 1 [.sl 66 (same.map Itm.A), .sl 66 ((itmsL l).map Itm.A)]] [] (fun v os => v = .sl 66 ((same ++ itmsL l).map Itm.A) ∧ os = []) := by
    have := concatI_spec [same, itmsL l] (show 2 ≤ 100000 by decide) (by rw [fl_two]; exact hlen)
    rw [fl_two] at this
    exact this
  have h3 := sorted_spec (same ++ itmsL l) hlen
  have h4 := top_spec (topU same l) (by rw [topU_len]; omega) (topU_ok hok hlo)
  rw [show srtI (same ++ itmsL l) = topU same l from rfl] at h3
  have ht := topS_len (topU same l) (topU_ok hok hlo)
  generalize topS (topU same l) = ts at *
  generalize topU same l = U at *
  generalize same ++ itmsL l = V at *
  generalize itmsL l = I at *
  repeat' (first | (refine o_freezeR 9 9 rfl rfl rfl ?_) | refine Awp.seq ?_ | refine Awp.region ?_ | refine Ops.nil (nqA ?_) | refine Awp.ret (nqE ?_) | (refine o_calm rfl TtOk rfl rfl rfl ?_ (fun _ => ?_); exact nd) | refine o_alloc (d := 4) rfl TtOk rfl rfl rfl (fun b4 => ?_) | refine o_store TtOk rfl rfl rfl rfl rfl rfl rfl ⟨rfl, rfl⟩ rfl rfl rfl rfl rfl ?_ | refine o_buildSlice (d := 9) TtOk rfl rfl rfl rfl rfl rfl rfl rfl rfl rfl rfl nq1 (fun v9 => ?_) | refine o_callE rfl (h1) ⟨nqS, True.intro⟩ rfl ?_ | refine o_callE rfl (h2) ⟨nqS, True.intro⟩ rfl ?_ | refine o_callE rfl (h3) ⟨nqS, True.intro⟩ rfl ?_ | refine o_callE rfl (h4) ⟨nqS, True.intro⟩ rfl ?_)
  all_goals
    refine end_all [] [] (.tup [labA ts, .i .i64 (chkI U)]) rfl ?_ ?_ (rle_tup2 (CLe.of_eq rfl) (CLe.of_eq rfl) rfl rfl) .nil ⟨rfl, rfl⟩ _ (.inl rfl)
    · exact nq1
    · exact ⟨trivial, trivial, trivial⟩
theorem scheck_spec (fr to : List UInt8) (s : Stp) (hs : s.same.length ≤ 50000) (ho : s.old.length ≤ 50000) (hn : s.new.length ≤ 50000) (hok : s.ok) (hf : fr.length = 32) (ht : to.length = 32) : Spec Tryz.prog 28 [labA fr, labA to, s.A] [] (fun v os => v = .i .i64 (stE fr to s) ∧ os = []) := by
  obtain ⟨same, old, new⟩ := s
  obtain ⟨o1, o2, o3⟩ := hok
  dsimp only at hs ho hn o1 o2 o3
  have h1 := top19_spec same old hs ho o1 o2
  have h2 := top19_spec same new hs hn o1 o3
  have hE : stE fr to ⟨same, old, new⟩ = (if 500 < old.length ∨ 500 < new.length then 2 else if same.length = 1 ∧ old.length = 0 ∧ 0 < new.length then 3 else if chkI (topU same old) ≠ 0 then chkI (topU same old) else if chkI (topU same new) ≠ 0 then chkI (topU same new) else if topS (topU same old) = fr ∧ topS (topU same new) = to then 0 else 11) := rfl
  rw [hE]
  clear hE
  show Spec Tryz.prog 28 [labA fr, labA to, .agg [.sl 66 (same.map Itm.A), .sl 65 (old.map Lef.A), .sl 65 (new.map Lef.A)]] [] _
  generalize topS (topU same old) = t1 at *
  generalize topS (topU same new) = t2 at *
  generalize chkI (topU same old) = c1 at *
  generalize chkI (topU same new) = c2 at *
  refine spec_of TtOk [] Tryz.func28 rfl Tryz.ntmps28 (by kernel_rfl) rfl rfl (fun C => ?_) rfl
  by_cases hb : 500 < old.length ∨ 500 < new.length
  · rw [if_pos hb]
    repeat' (first | refine Awp.seq ?_ | refine Awp.region ?_ | refine Ops.nil (nqA ?_) | refine Awp.ret (nqE ?_) | refine o_noF rfl rfl rfl ?_ | refine o_len rfl TtOk rfl rfl rfl (fun _ => ?_) | (refine o_calm rfl TtOk rfl rfl rfl ?_ (fun _ => ?_); exact nd) | refine o_box (d := 3) rfl rfl rfl rfl (fun b3 => ?_) | refine o_box (d := 4) rfl rfl rfl rfl (fun b4 => ?_) | refine o_box (d := 5) rfl rfl rfl rfl (fun b5 => ?_) | (fail_if_success (refine o_isLit rfl (by first | exact .inl rfl | exact .inr rfl) ?_)); (refine o_splitP rfl rfl (fun hc => ?_) (fun hc => ?_) <;> try (exfalso; omega)) | refine a_condT rfl ?_ | (refine a_condP rfl (fun hc => ?_) (fun hc => ?_)) <;> (try (exfalso; omega)))
    all_goals exact nq2
  rw [if_neg hb]
  by_cases h3 : same.length = 1 ∧ old.length = 0 ∧ 0 < new.length
  · rw [if_pos h3]
    repeat' (first | refine Awp.seq ?_ | refine Awp.region ?_ | refine Ops.nil (nqA ?_) | refine Awp.skip (nqA ?_) | refine Awp.ret (nqE ?_) | refine o_len rfl TtOk rfl rfl rfl (fun _ => ?_) | (refine o_calm rfl TtOk rfl rfl rfl ?_ (fun _ => ?_); exact nd) | refine o_box (d := 3) rfl rfl rfl rfl (fun b3 => ?_) | refine o_box (d := 4) rfl rfl rfl rfl (fun b4 => ?_) | refine o_box (d := 5) rfl rfl rfl rfl (fun b5 => ?_) | (fail_if_success (refine o_isLit rfl (by first | exact .inl rfl | exact .inr rfl) ?_)); (refine o_splitP rfl rfl (fun hc => ?_) (fun hc => ?_) <;> try (exfalso; omega)) | (refine a_condP rfl (fun hc => ?_) (fun hc => ?_)) <;> (try (exfalso; omega)))
    all_goals exact nq2
  rw [if_neg h3]
  by_cases hc1 : c1 ≠ 0
  · rw [if_pos hc1]
    clear h2
    repeat' (first | refine Awp.seq ?_ | refine Awp.region ?_ | refine Ops.nil (nqA ?_) | refine Awp.skip (nqA ?_) | refine Awp.ret (nqE ?_) | refine o_noT rfl rfl rfl ?_ | refine o_len rfl TtOk rfl rfl rfl (fun _ => ?_) | (refine o_calm rfl TtOk rfl rfl rfl ?_ (fun _ => ?_); exact nd) | refine o_alloc (d := 7) rfl TtOk rfl rfl rfl (fun b7 => ?_) | refine o_box (d := 3) rfl rfl rfl rfl (fun b3 => ?_) | refine o_box (d := 4) rfl rfl rfl rfl (fun b4 => ?_) | refine o_box (d := 5) rfl rfl rfl rfl (fun b5 => ?_) | refine o_store TtOk rfl rfl rfl rfl rfl rfl rfl ⟨rfl, rfl⟩ rfl rfl rfl rfl rfl ?_ | (fail_if_success (refine o_isLit rfl (by first | exact .inl rfl | exact .inr rfl) ?_)); (refine o_splitP rfl rfl (fun hc => ?_) (fun hc => ?_) <;> try (exfalso; omega)) | refine a_condF rfl ?_ | (refine a_condP rfl (fun hc => ?_) (fun hc => ?_)) <;> (try (exfalso; omega)) | (refine a_condN rfl (fun hc => ?_) (fun hc => ?_)) <;> (try (exfalso; omega)) | refine o_callE rfl (h1) ⟨nqS, nqS, True.intro⟩ rfl ?_)
    all_goals exact nq2
  rw [if_neg hc1]
  have hc1 := Decidable.not_not.1 hc1
  subst hc1
  by_cases hc2 : c2 ≠ 0
  · rw [if_pos hc2]
    repeat' (first | refine Awp.seq ?_ | refine Awp.region ?_ | refine Ops.nil (nqA ?_) | refine Awp.skip (nqA ?_) | refine Awp.ret (nqE ?_) | refine o_noT rfl rfl rfl ?_ | refine o_len rfl TtOk rfl rfl rfl (fun _ => ?_) | (refine o_calm rfl TtOk rfl rfl rfl ?_ (fun _ => ?_); exact nd) | refine o_alloc (d := 7) rfl TtOk rfl rfl rfl (fun b7 => ?_) | refine o_alloc (d := 9) rfl TtOk rfl rfl rfl (fun b9 => ?_) | refine o_box (d := 3) rfl rfl rfl rfl (fun b3 => ?_) | refine o_box (d := 4) rfl rfl rfl rfl (fun b4 => ?_) | refine o_box (d := 5) rfl rfl rfl rfl (fun b5 => ?_) | refine o_store TtOk rfl rfl rfl rfl rfl rfl rfl ⟨rfl, rfl⟩ rfl rfl rfl rfl rfl ?_ | (fail_if_success (refine o_isLit rfl (by first | exact .inl rfl | exact .inr rfl) ?_)); (refine o_splitP rfl rfl (fun hc => ?_) (fun hc => ?_) <;> try (exfalso; omega)) | refine a_condF rfl ?_ | (refine a_condP rfl (fun hc => ?_) (fun hc => ?_)) <;> (try (exfalso; omega)) | (refine a_condN rfl (fun hc => ?_) (fun hc => ?_)) <;> (try (exfalso; omega)) | refine o_callE rfl (h1) ⟨nqS, nqS, True.intro⟩ rfl ?_ | refine o_callE rfl (h2) ⟨nqS, nqS, True.intro⟩ rfl ?_)
    all_goals exact nq2
  rw [if_neg hc2]
  have hc2 := Decidable.not_not.1 hc2
  subst hc2
  have hx : (!(fr == fr)) = false := by rw [beq_self_eq_true]; rfl
  have hy : (!(to == to)) = false := by rw [beq_self_eq_true]; rfl
  by_cases e1 : t1 = fr
  · subst e1
    by_cases e2 : t2 = to
    · subst e2
      rw [if_pos ⟨rfl, rfl⟩]
      repeat' (first | refine Awp.seq ?_ | refine Awp.region ?_ | refine Ops.nil (nqA ?_) | refine Awp.skip (nqA ?_) | refine Awp.ret (nqE ?_) | refine o_noT rfl rfl rfl ?_ | refine o_len rfl TtOk rfl rfl rfl (fun _ => ?_) | (refine o_calm rfl TtOk rfl rfl rfl ?_ (fun _ => ?_); exact nd) | refine o_alloc (d := 7) rfl TtOk rfl rfl rfl (fun b7 => ?_) | refine o_alloc (d := 9) rfl TtOk rfl rfl rfl (fun b9 => ?_) | refine o_box (d := 3) rfl rfl rfl rfl (fun b3 => ?_) | refine o_box (d := 4) rfl rfl rfl rfl (fun b4 => ?_) | refine o_box (d := 5) rfl rfl rfl rfl (fun b5 => ?_) | refine o_store TtOk rfl rfl rfl rfl rfl rfl rfl ⟨rfl, rfl⟩ rfl rfl rfl rfl rfl ?_ | (fail_if_success (refine o_isLit rfl (by first | exact .inl rfl | exact .inr rfl) ?_)); (refine o_splitP rfl rfl (fun hc => ?_) (fun hc => ?_) <;> try (exfalso; omega)) | refine a_condF rfl ?_ | (refine a_condP rfl (fun hc => ?_) (fun hc => ?_)) <;> (try (exfalso; omega)) | (refine o_neArr8 TtOk rfl rfl rfl rfl rfl rfl (by kernel_rfl) ?_; first | rw [hx] | rw [hy]) | refine o_callE rfl (h1) ⟨nqS, nqS, True.intro⟩ rfl ?_ | refine o_callE rfl (h2) ⟨nqS, nqS, True.intro⟩ rfl ?_)
      all_goals exact nq2
    · rw [if_neg (fun h => e2 h.2)]
      have hz : (!(t2 == to)) = true := by rw [beq_eq_false_iff_ne.2 e2]; rfl
      repeat' (first | refine Awp.seq ?_ | refine Awp.region ?_ | refine Ops.nil (nqA ?_) | refine Awp.skip (nqA ?_) | refine Awp.ret (nqE ?_) | refine o_noT rfl rfl rfl ?_ | refine o_len rfl TtOk rfl rfl rfl (fun _ => ?_) | (refine o_calm rfl TtOk rfl rfl rfl ?_ (fun _ => ?_); exact nd) | refine o_alloc (d := 7) rfl TtOk rfl rfl rfl (fun b7 => ?_) | refine o_alloc (d := 9) rfl TtOk rfl rfl rfl (fun b9 => ?_) | refine o_box (d := 3) rfl rfl rfl rfl (fun b3 => ?_) | refine o_box (d := 4) rfl rfl rfl rfl (fun b4 => ?_) | refine o_box (d := 5) rfl rfl rfl rfl (fun b5 => ?_) | refine o_store TtOk rfl rfl rfl rfl rfl rfl rfl ⟨rfl, rfl⟩ rfl rfl rfl rfl rfl ?_ | (fail_if_success (refine o_isLit rfl (by first | exact .inl rfl | exact .inr rfl) ?_)); (refine o_splitP rfl rfl (fun hc => ?_) (fun hc => ?_) <;> try (exfalso; omega)) | refine a_condT rfl ?_ | refine a_condF rfl ?_ | (refine a_condP rfl (fun hc => ?_) (fun hc => ?_)) <;> (try (exfalso; omega)) | (refine o_neArr8 TtOk rfl rfl rfl rfl rfl rfl (by kernel_rfl) ?_; first | rw [hz] | rw [hx]) | refine o_callE rfl (h1) ⟨nqS, nqS, True.intro⟩ rfl ?_ | refine o_callE rfl (h2) ⟨nqS, nqS, True.intro⟩ rfl ?_)
      all_goals exact nq2
  · rw [if_neg (fun h => e1 h.1)]
    have hz : (!(t1 == fr)) = true := by rw [beq_eq_false_iff_ne.2 e1]; rfl
    repeat' (first | refine Awp.seq ?_ | refine Awp.region ?_ | refine Ops.nil (nqA ?_) | refine Awp.skip (nqA ?_) | refine Awp.ret (nqE ?_) | refine o_noT rfl rfl rfl ?_ | refine o_noF rfl rfl rfl ?_ | refine o_len rfl TtOk rfl rfl rfl (fun _ => ?_) | (refine o_calm rfl TtOk rfl rfl rfl ?_ (fun _ => ?_); exact nd) | refine o_alloc (d := 7) rfl TtOk rfl rfl rfl (fun b7 => ?_) | refine o_alloc (d := 9) rfl TtOk rfl rfl rfl (fun b9 => ?_) | refine o_box (d := 3) rfl rfl rfl rfl (fun b3 => ?_) | refine o_box (d := 4) rfl rfl rfl rfl (fun b4 => ?_) | refine o_box (d := 5) rfl rfl rfl rfl (fun b5 => ?_) | refine o_store TtOk rfl rfl rfl rfl rfl rfl rfl ⟨rfl, rfl⟩ rfl rfl rfl rfl rfl ?_ | (fail_if_success (refine o_isLit rfl (by first | exact .inl rfl | exact .inr rfl) ?_)); (refine o_splitP rfl rfl (fun hc => ?_) (fun hc => ?_) <;> try (exfalso; omega)) | refine a_condT rfl ?_ | refine a_condF rfl ?_ | (refine a_condP rfl (fun hc => ?_) (fun hc => ?_)) <;> (try (exfalso; omega)) | (refine o_neArr8 TtOk rfl rfl rfl rfl rfl rfl (by kernel_rfl) ?_; rw [hz]) | refine o_callE rfl (h1) ⟨nqS, nqS, True.intro⟩ rfl ?_ | refine o_callE rfl (h2) ⟨nqS, nqS, True.intro⟩ rfl ?_)
    all_goals exact nq2
end Go.Proofs.YtcmgpkibjdbonaaGreat
