/- slices.Grow of nil, slices.Concat: items, leaves, labels. By rules. Printed by genc.py. -/
import Derived.Test.YtcmgpkibjdbonaaGreatV16Z
import Derived.Test.YtcmgpkibjdbonaaGreatSA4Z
set_option maxHeartbeats 8000000
set_option maxRecDepth 100000
namespace Go.Proofs.YtcmgpkibjdbonaaGreat
open Go Go.RowKit
def iAl (sz : Nat) {α : Type} (f : α → AV) (l : List α) : AV := .sl sz (l.map f)
theorem sum_take {α : Type} (ls : List (List α)) {i : Nat} (h : i < ls.length) : (ls.take (i + 1)).flatten = (ls.take i).flatten ++ ls[i] := by
  rw [List.take_succ_eq_append_getElem h, List.flatten_append]
  simp
theorem take_fl_le {α : Type} (ls : List (List α)) (i : Nat) : (ls.take i).flatten.length ≤ ls.flatten.length := by
  have h : (ls.take i ++ ls.drop i).flatten = ls.flatten := by rw [List.take_append_drop]
  rw [← h, List.flatten_append, List.length_append]; omega
theorem growI_spec (n : Nat) (hn : n ≤ 1000000) : Spec Tryz.prog 214 [.nil, .i .i64 n] [] (fun r os => ∃ v, r = .own 0 v ∧ os = [.row v 50 66 []]) := by
  refine spec_of TtOk [] Tryz.func214 rfl Tryz.ntmps214 (by kernel_rfl) rfl rfl (fun C => ?_) rfl
  by_cases h0 : n = 0
  · subst h0
    repeat' (first | refine Awp.seq ?_ | refine Awp.region ?_ | refine Ops.nil (nqA ?_) | refine Awp.skip (nqA ?_) | refine Awp.ret (nqE ?_) | (refine o_sub rfl rfl rfl rfl ?_ ?_; omega) | (refine o_calm rfl TtOk rfl rfl rfl ?_ (fun _ => ?_); exact nd) | refine a_condF rfl ?_ | (refine o_capNil TtOk rfl rfl rfl rfl ?_))
    all_goals exact end_tmp rfl rfl rfl [] [(0, _)] (CLe.nilown (k := 0)) (.none .nil) ⟨_, rfl, rfl⟩ _ (.inl rfl)
  · repeat' (first | (refine o_appendZ TtOk rfl rfl rfl rfl rfl rfl rfl rfl rfl rfl n (by omega) (by omega) ?_ (by omega) (fun bG cG => ?_); omega) | refine Awp.seq ?_ | refine Awp.region ?_ | refine Ops.nil (nqA ?_) | refine Awp.skip (nqA ?_) | refine Awp.ret (nqE ?_) | (refine o_sub rfl rfl rfl rfl ?_ ?_; omega) | (refine o_calm rfl TtOk rfl rfl rfl ?_ (fun _ => ?_); exact nd) | refine a_condF rfl ?_ | (refine a_condP rfl (fun hc => ?_) (fun hc => ?_)) <;> (try (exfalso; omega)) | (refine o_capNil TtOk rfl rfl rfl rfl ?_) | (refine o_sliceNil TtOk rfl rfl rfl rfl rfl rfl ?_) | (refine o_cut0 TtOk rfl rfl rfl rfl rfl rfl ?_))
    all_goals exact end_tmp rfl rfl rfl [] [(0, _)] CLe.own (HLe.cons 22 rfl (HOLe.refl _) .nil) ⟨_, rfl, rfl⟩ _ (.inl rfl)
theorem concatI_spec (ls : List (List (Itm))) (hl : ls.length ≤ 100000) (hn : ls.flatten.length ≤ 100000) : Spec Tryz.prog 156 [.sl 1 (ls.map (iAl 66 Itm.A))] [] (fun v os => v = .sl 66 (ls.flatten.map Itm.A) ∧ os = []) := by
  refine spec_of TtOk [] Tryz.func156 rfl Tryz.ntmps156 (by kernel_rfl) rfl rfl (fun C => ?_) rfl
  have hfl := take_fl_le ls
  repeat' (first | refine Awp.seq ?_ | refine Awp.block ?_ | refine Awp.region ?_ | refine Ops.nil (nqA ?_) | refine o_len rfl TtOk rfl rfl rfl (fun _ => ?_) | (refine o_calm rfl TtOk rfl rfl rfl ?_ (fun _ => ?_); exact nd))
  refine Awp.loop (fun i : Nat => ⟨36, [(11, .i .i64 i), (10, .i .i64 ls.length), (9, .sl 1 (ls.map (iAl 66 Itm.A))), (3, .i .i64 (ls.take i).flatten.length), (0, .sl 1 (ls.map (iAl 66 Itm.A)))], []⟩) (fun i => i ≤ ls.length) (fun i => ls.length - i) [] 0 (Nat.zero_le _) ?_ ?_
  · exact ⟨rfl, ⟨sle_i rfl, sle_i rfl, sle_sl rfl, sle_i rfl, sle_sl rfl, True.intro⟩, .nil⟩
  intro i hi
  by_cases hlt : i < ls.length
  · have hi1 : ((i : Int) + 1 = ((i + 1 : Nat) : Int)) := by omega
    have hst := sum_take ls hlt
    have h2 := hfl (i + 1)
    have hs2 : ((ls.take i).flatten.length : Int) + (ls[i].length : Int) = (((ls.take (i + 1)).flatten.length : Nat) : Int) := by rw [hst, List.length_append]; omega
    rw [hst, List.length_append] at h2
    have hA : iAl 66 Itm.A ls[i] = .sl 66 (ls[i].map Itm.A) := rfl
    clear hst hfl
    generalize (ls.take i).flatten.length = a at *
    repeat' (first | refine Awp.seq ?_ | refine Awp.block ?_ | refine Awp.region ?_ | refine Ops.nil (nqA ?_) | refine Ops.nil (nqX ?_) | refine Awp.skip (nqA ?_) | (refine o_add rfl rfl rfl rfl ?_ ?_; omega) | refine o_len rfl TtOk rfl rfl rfl (fun _ => ?_) | (refine o_calm rfl TtOk rfl rfl rfl ?_ (fun _ => ?_); exact nd) | (refine o_index rfl TtOk rfl rfl rfl rfl rfl rfl ?_ (getq_nat ?_) ?_; omega; omega) | refine a_condF rfl ?_ | (refine a_condP rfl (fun hc => ?_) (fun hc => ?_)) <;> (try (exfalso; omega)))
    all_goals exact ⟨i + 1, [], hlt, by omega, rfl, ⟨sle_i hi1, sle_i rfl, sle_sl rfl, sle_i hs2, sle_sl rfl, True.intro⟩, .nil⟩
  have hie : i = ls.length := by omega
  subst hie
  rw [List.take_length]
  have hg := growI_spec ls.flatten.length (by omega)
  repeat' (first | refine Awp.seq ?_ | refine Awp.block ?_ | refine Awp.region ?_ | refine Ops.nil (nqA ?_) | refine Awp.exit (nqA ?_) | refine o_len rfl TtOk rfl rfl rfl (fun _ => ?_) | (refine o_calm rfl TtOk rfl rfl rfl ?_ (fun _ => ?_); exact nd) | (refine a_condP rfl (fun hc => ?_) (fun hc => ?_)) <;> (try (exfalso; omega)) | (refine o_callR rfl hg ⟨nqS, nqS, True.intro⟩ rfl (fun vR => ?_)))
  refine Awp.loop (fun q : Nat × Value => ⟨36, [(27, .i .i64 q.1), (26, .i .i64 ls.length), (25, .sl 1 (ls.map (iAl 66 Itm.A))), (6, .own 24 q.2)], [(24, .row q.2 50 66 ((ls.take q.1).flatten.map Itm.A))]⟩) (fun q => q.1 ≤ ls.length) (fun q => ls.length - q.1) [] (0, vR) (Nat.zero_le _) ?_ ?_
  · exact ⟨rfl, ⟨sle_i rfl, sle_i rfl, sle_sl rfl, sle_own, True.intro⟩, HLe.cons 24 rfl (HOLe.refl _) .nil⟩
  rintro ⟨i, v⟩ hi
  dsimp only at hi ⊢
  by_cases hlt : i < ls.length
  · have hi1 : ((i : Int) + 1 = ((i + 1 : Nat) : Int)) := by omega
    have hst := sum_take ls hlt
    have h2 := hfl (i + 1)
    rw [hst, List.length_append] at h2
    clear hfl hg
    generalize (ls.take i).flatten = a at *
    repeat' (first | refine Awp.seq ?_ | refine Awp.block ?_ | refine Awp.region ?_ | refine Ops.nil (nqA ?_) | refine Ops.nil (nqX ?_) | refine Awp.skip (nqA ?_) | (refine o_add rfl rfl rfl rfl ?_ ?_; omega) | (refine o_calm rfl TtOk rfl rfl rfl ?_ (fun _ => ?_); exact nd) | (refine o_index rfl TtOk rfl rfl rfl rfl rfl rfl ?_ (getq_nat ?_) ?_; omega; omega) | (refine o_append TtOk rfl rfl rfl rfl rfl rfl rfl rfl rfl (by first | exact True.intro | exact rfl) rfl rfl (fun _ => rfl) ?_ ?_ (fun _ => ?_); ((repeat' (first | rw [List.length_append] | rw [List.length_map] | rw [List.length_cons] | rw [List.length_nil] | rw [List.length_take] | rw [List.length_drop])) <;> omega); ((repeat' (first | rw [List.length_append] | rw [List.length_map] | rw [List.length_cons] | rw [List.length_nil] | rw [List.length_take] | rw [List.length_drop])) <;> omega)) | (refine a_condP rfl (fun hc => ?_) (fun hc => ?_)) <;> (try (exfalso; omega)))
    all_goals exact ⟨(i + 1, _), [], hlt, by show ls.length - (i + 1) < ls.length - i; omega, rfl, ⟨sle_i hi1, sle_i rfl, sle_sl rfl, sle_own, True.intro⟩, HLe.cons 24 rfl (HOLe.row (by rw [hst, List.map_append])) .nil⟩
  · have hie : i = ls.length := by omega
    subst hie
    rw [List.take_length]
    repeat' (first | refine Awp.seq ?_ | refine Awp.region ?_ | refine Ops.nil (nqA ?_) | refine Awp.exit (nqA ?_) | refine Awp.ret (nqE ?_) | (refine o_calm rfl TtOk rfl rfl rfl ?_ (fun _ => ?_); exact nd) | (refine a_condP rfl (fun hc => ?_) (fun hc => ?_)) <;> (try (exfalso; omega)))
    all_goals
      refine end_tmp rfl rfl rfl [24] [] (CLe.fz ?_) .nil ⟨rfl, rfl⟩ _ (.inl rfl)
      exact .head _
theorem growL_spec (n : Nat) (hn : n ≤ 1000000) : Spec Tryz.prog 207 [.nil, .i .i64 n] [] (fun r os => ∃ v, r = .own 0 v ∧ os = [.row v 46 65 []]) := by
  refine spec_of TtOk [] Tryz.func207 rfl Tryz.ntmps207 (by kernel_rfl) rfl rfl (fun C => ?_) rfl
  by_cases h0 : n = 0
  · subst h0
    repeat' (first | refine Awp.seq ?_ | refine Awp.region ?_ | refine Ops.nil (nqA ?_) | refine Awp.skip (nqA ?_) | refine Awp.ret (nqE ?_) | (refine o_sub rfl rfl rfl rfl ?_ ?_; omega) | (refine o_calm rfl TtOk rfl rfl rfl ?_ (fun _ => ?_); exact nd) | refine a_condF rfl ?_ | (refine o_capNil TtOk rfl rfl rfl rfl ?_))
    all_goals exact end_tmp rfl rfl rfl [] [(0, _)] (CLe.nilown (k := 0)) (.none .nil) ⟨_, rfl, rfl⟩ _ (.inl rfl)
  · repeat' (first | (refine o_appendZ TtOk rfl rfl rfl rfl rfl rfl rfl rfl rfl rfl n (by omega) (by omega) ?_ (by omega) (fun bG cG => ?_); omega) | refine Awp.seq ?_ | refine Awp.region ?_ | refine Ops.nil (nqA ?_) | refine Awp.skip (nqA ?_) | refine Awp.ret (nqE ?_) | (refine o_sub rfl rfl rfl rfl ?_ ?_; omega) | (refine o_calm rfl TtOk rfl rfl rfl ?_ (fun _ => ?_); exact nd) | refine a_condF rfl ?_ | (refine a_condP rfl (fun hc => ?_) (fun hc => ?_)) <;> (try (exfalso; omega)) | (refine o_capNil TtOk rfl rfl rfl rfl ?_) | (refine o_sliceNil TtOk rfl rfl rfl rfl rfl rfl ?_) | (refine o_cut0 TtOk rfl rfl rfl rfl rfl rfl ?_))
    all_goals exact end_tmp rfl rfl rfl [] [(0, _)] CLe.own (HLe.cons 22 rfl (HOLe.refl _) .nil) ⟨_, rfl, rfl⟩ _ (.inl rfl)
theorem concatL_spec (ls : List (List (Lef))) (hl : ls.length ≤ 100000) (hn : ls.flatten.length ≤ 100000) : Spec Tryz.prog 150 [.sl 1 (ls.map (iAl 65 Lef.A))] [] (fun v os => v = .sl 65 (ls.flatten.map Lef.A) ∧ os = []) := by
  refine spec_of TtOk [] Tryz.func150 rfl Tryz.ntmps150 (by kernel_rfl) rfl rfl (fun C => ?_) rfl
  have hfl := take_fl_le ls
  repeat' (first | refine Awp.seq ?_ | refine Awp.block ?_ | refine Awp.region ?_ | refine Ops.nil (nqA ?_) | refine o_len rfl TtOk rfl rfl rfl (fun _ => ?_) | (refine o_calm rfl TtOk rfl rfl rfl ?_ (fun _ => ?_); exact nd))
  refine Awp.loop (fun i : Nat => ⟨36, [(11, .i .i64 i), (10, .i .i64 ls.length), (9, .sl 1 (ls.map (iAl 65 Lef.A))), (3, .i .i64 (ls.take i).flatten.length), (0, .sl 1 (ls.map (iAl 65 Lef.A)))], []⟩) (fun i => i ≤ ls.length) (fun i => ls.length - i) [] 0 (Nat.zero_le _) ?_ ?_
  · exact ⟨rfl, ⟨sle_i rfl, sle_i rfl, sle_sl rfl, sle_i rfl, sle_sl rfl, True.intro⟩, .nil⟩
  intro i hi
  by_cases hlt : i < ls.length
  · have hi1 : ((i : Int) + 1 = ((i + 1 : Nat) : Int)) := by omega
    have hst := sum_take ls hlt
    have h2 := hfl (i + 1)
    have hs2 : ((ls.take i).flatten.length : Int) + (ls[i].length : Int) = (((ls.take (i + 1)).flatten.length : Nat) : Int) := by rw [hst, List.length_append]; omega
    rw [hst, List.length_append] at h2
    have hA : iAl 65 Lef.A ls[i] = .sl 65 (ls[i].map Lef.A) := rfl
    clear hst hfl
    generalize (ls.take i).flatten.length = a at *
    repeat' (first | refine Awp.seq ?_ | refine Awp.block ?_ | refine Awp.region ?_ | refine Ops.nil (nqA ?_) | refine Ops.nil (nqX ?_) | refine Awp.skip (nqA ?_) | (refine o_add rfl rfl rfl rfl ?_ ?_; omega) | refine o_len rfl TtOk rfl rfl rfl (fun _ => ?_) | (refine o_calm rfl TtOk rfl rfl rfl ?_ (fun _ => ?_); exact nd) | (refine o_index rfl TtOk rfl rfl rfl rfl rfl rfl ?_ (getq_nat ?_) ?_; omega; omega) | refine a_condF rfl ?_ | (refine a_condP rfl (fun hc => ?_) (fun hc => ?_)) <;> (try (exfalso; omega)))
    all_goals exact ⟨i + 1, [], hlt, by omega, rfl, ⟨sle_i hi1, sle_i rfl, sle_sl rfl, sle_i hs2, sle_sl rfl, True.intro⟩, .nil⟩
  have hie : i = ls.length := by omega
  subst hie
  rw [List.take_length]
  have hg := growL_spec ls.flatten.length (by omega)
  repeat' (first | refine Awp.seq ?_ | refine Awp.block ?_ | refine Awp.region ?_ | refine Ops.nil (nqA ?_) | refine Awp.exit (nqA ?_) | refine o_len rfl TtOk rfl rfl rfl (fun _ => ?_) | (refine o_calm rfl TtOk rfl rfl rfl ?_ (fun _ => ?_); exact nd) | (refine a_condP rfl (fun hc => ?_) (fun hc => ?_)) <;> (try (exfalso; omega)) | (refine o_callR rfl hg ⟨nqS, nqS, True.intro⟩ rfl (fun vR => ?_)))
  refine Awp.loop (fun q : Nat × Value => ⟨36, [(27, .i .i64 q.1), (26, .i .i64 ls.length), (25, .sl 1 (ls.map (iAl 65 Lef.A))), (6, .own 24 q.2)], [(24, .row q.2 46 65 ((ls.take q.1).flatten.map Lef.A))]⟩) (fun q => q.1 ≤ ls.length) (fun q => ls.length - q.1) [] (0, vR) (Nat.zero_le _) ?_ ?_
  · exact ⟨rfl, ⟨sle_i rfl, sle_i rfl, sle_sl rfl, sle_own, True.intro⟩, HLe.cons 24 rfl (HOLe.refl _) .nil⟩
  rintro ⟨i, v⟩ hi
  dsimp only at hi ⊢
  by_cases hlt : i < ls.length
  · have hi1 : ((i : Int) + 1 = ((i + 1 : Nat) : Int)) := by omega
    have hst := sum_take ls hlt
    have h2 := hfl (i + 1)
    rw [hst, List.length_append] at h2
    clear hfl hg
    generalize (ls.take i).flatten = a at *
    repeat' (first | refine Awp.seq ?_ | refine Awp.block ?_ | refine Awp.region ?_ | refine Ops.nil (nqA ?_) | refine Ops.nil (nqX ?_) | refine Awp.skip (nqA ?_) | (refine o_add rfl rfl rfl rfl ?_ ?_; omega) | (refine o_calm rfl TtOk rfl rfl rfl ?_ (fun _ => ?_); exact nd) | (refine o_index rfl TtOk rfl rfl rfl rfl rfl rfl ?_ (getq_nat ?_) ?_; omega; omega) | (refine o_append TtOk rfl rfl rfl rfl rfl rfl rfl rfl rfl (by first | exact True.intro | exact rfl) rfl rfl (fun _ => rfl) ?_ ?_ (fun _ => ?_); ((repeat' (first | rw [List.length_append] | rw [List.length_map] | rw [List.length_cons] | rw [List.length_nil] | rw [List.length_take] | rw [List.length_drop])) <;> omega); ((repeat' (first | rw [List.length_append] | rw [List.length_map] | rw [List.length_cons] | rw [List.length_nil] | rw [List.length_take] | rw [List.length_drop])) <;> omega)) | (refine a_condP rfl (fun hc => ?_) (fun hc => ?_)) <;> (try (exfalso; omega)))
    all_goals exact ⟨(i + 1, _), [], hlt, by show ls.length - (i + 1) < ls.length - i; omega, rfl, ⟨sle_i hi1, sle_i rfl, sle_sl rfl, sle_own, True.intro⟩, HLe.cons 24 rfl (HOLe.row (by rw [hst, List.map_append])) .nil⟩
  · have hie : i = ls.length := by omega
    subst hie
    rw [List.take_length]
    repeat' (first | refine Awp.seq ?_ | refine Awp.region ?_ | refine Ops.nil (nqA ?_) | refine Awp.exit (nqA ?_) | refine Awp.ret (nqE ?_) | (refine o_calm rfl TtOk rfl rfl rfl ?_ (fun _ => ?_); exact nd) | (refine a_condP rfl (fun hc => ?_) (fun hc => ?_)) <;> (try (exfalso; omega)))
    all_goals
      refine end_tmp rfl rfl rfl [24] [] (CLe.fz ?_) .nil ⟨rfl, rfl⟩ _ (.inl rfl)
      exact .head _
theorem growB_spec (n : Nat) (hn : n ≤ 1000000) : Spec Tryz.prog 149 [.nil, .i .i64 n] [] (fun r os => ∃ v, r = .own 0 v ∧ os = [.row v 44 32 []]) := by
  refine spec_of TtOk [] Tryz.func149 rfl Tryz.ntmps149 (by kernel_rfl) rfl rfl (fun C => ?_) rfl
  by_cases h0 : n = 0
  · subst h0
    repeat' (first | refine Awp.seq ?_ | refine Awp.region ?_ | refine Ops.nil (nqA ?_) | refine Awp.skip (nqA ?_) | refine Awp.ret (nqE ?_) | (refine o_sub rfl rfl rfl rfl ?_ ?_; omega) | (refine o_calm rfl TtOk rfl rfl rfl ?_ (fun _ => ?_); exact nd) | refine a_condF rfl ?_ | (refine o_capNil TtOk rfl rfl rfl rfl ?_))
    all_goals exact end_tmp rfl rfl rfl [] [(0, _)] (CLe.nilown (k := 0)) (.none .nil) ⟨_, rfl, rfl⟩ _ (.inl rfl)
  · repeat' (first | (refine o_appendZ TtOk rfl rfl rfl rfl rfl rfl rfl rfl rfl rfl n (by omega) (by omega) ?_ (by omega) (fun bG cG => ?_); omega) | refine Awp.seq ?_ | refine Awp.region ?_ | refine Ops.nil (nqA ?_) | refine Awp.skip (nqA ?_) | refine Awp.ret (nqE ?_) | (refine o_sub rfl rfl rfl rfl ?_ ?_; omega) | (refine o_calm rfl TtOk rfl rfl rfl ?_ (fun _ => ?_); exact nd) | refine a_condF rfl ?_ | (refine a_condP rfl (fun hc => ?_) (fun hc => ?_)) <;> (try (exfalso; omega)) | (refine o_capNil TtOk rfl rfl rfl rfl ?_) | (refine o_sliceNil TtOk rfl rfl rfl rfl rfl rfl ?_) | (refine o_cut0 TtOk rfl rfl rfl rfl rfl rfl ?_))
    all_goals exact end_tmp rfl rfl rfl [] [(0, _)] CLe.own (HLe.cons 22 rfl (HOLe.refl _) .nil) ⟨_, rfl, rfl⟩ _ (.inl rfl)
theorem concatB_spec (ls : List (List (List UInt8))) (hl : ls.length ≤ 100000) (hn : ls.flatten.length ≤ 100000) : Spec Tryz.prog 48 [.sl 1 (ls.map (iAl 32 labA))] [] (fun v os => v = .sl 32 (ls.flatten.map labA) ∧ os = []) := by
  refine spec_of TtOk [] Tryz.func48 rfl Tryz.ntmps48 (by kernel_rfl) rfl rfl (fun C => ?_) rfl
  have hfl := take_fl_le ls
  repeat' (first | refine Awp.seq ?_ | refine Awp.block ?_ | refine Awp.region ?_ | refine Ops.nil (nqA ?_) | refine o_len rfl TtOk rfl rfl rfl (fun _ => ?_) | (refine o_calm rfl TtOk rfl rfl rfl ?_ (fun _ => ?_); exact nd))
  refine Awp.loop (fun i : Nat => ⟨36, [(11, .i .i64 i), (10, .i .i64 ls.length), (9, .sl 1 (ls.map (iAl 32 labA))), (3, .i .i64 (ls.take i).flatten.length), (0, .sl 1 (ls.map (iAl 32 labA)))], []⟩) (fun i => i ≤ ls.length) (fun i => ls.length - i) [] 0 (Nat.zero_le _) ?_ ?_
  · exact ⟨rfl, ⟨sle_i rfl, sle_i rfl, sle_sl rfl, sle_i rfl, sle_sl rfl, True.intro⟩, .nil⟩
  intro i hi
  by_cases hlt : i < ls.length
  · have hi1 : ((i : Int) + 1 = ((i + 1 : Nat) : Int)) := by omega
    have hst := sum_take ls hlt
    have h2 := hfl (i + 1)
    have hs2 : ((ls.take i).flatten.length : Int) + (ls[i].length : Int) = (((ls.take (i + 1)).flatten.length : Nat) : Int) := by rw [hst, List.length_append]; omega
    rw [hst, List.length_append] at h2
    have hA : iAl 32 labA ls[i] = .sl 32 (ls[i].map labA) := rfl
    clear hst hfl
    generalize (ls.take i).flatten.length = a at *
    repeat' (first | refine Awp.seq ?_ | refine Awp.block ?_ | refine Awp.region ?_ | refine Ops.nil (nqA ?_) | refine Ops.nil (nqX ?_) | refine Awp.skip (nqA ?_) | (refine o_add rfl rfl rfl rfl ?_ ?_; omega) | refine o_len rfl TtOk rfl rfl rfl (fun _ => ?_) | (refine o_calm rfl TtOk rfl rfl rfl ?_ (fun _ => ?_); exact nd) | (refine o_index rfl TtOk rfl rfl rfl rfl rfl rfl ?_ (getq_nat ?_) ?_; omega; omega) | refine a_condF rfl ?_ | (refine a_condP rfl (fun hc => ?_) (fun hc => ?_)) <;> (try (exfalso; omega)))
    all_goals exact ⟨i + 1, [], hlt, by omega, rfl, ⟨sle_i hi1, sle_i rfl, sle_sl rfl, sle_i hs2, sle_sl rfl, True.intro⟩, .nil⟩
  have hie : i = ls.length := by omega
  subst hie
  rw [List.take_length]
  have hg := growB_spec ls.flatten.length (by omega)
  repeat' (first | refine Awp.seq ?_ | refine Awp.block ?_ | refine Awp.region ?_ | refine Ops.nil (nqA ?_) | refine Awp.exit (nqA ?_) | refine o_len rfl TtOk rfl rfl rfl (fun _ => ?_) | (refine o_calm rfl TtOk rfl rfl rfl ?_ (fun _ => ?_); exact nd) | (refine a_condP rfl (fun hc => ?_) (fun hc => ?_)) <;> (try (exfalso; omega)) | (refine o_callR rfl hg ⟨nqS, nqS, True.intro⟩ rfl (fun vR => ?_)))
  refine Awp.loop (fun q : Nat × Value => ⟨36, [(27, .i .i64 q.1), (26, .i .i64 ls.length), (25, .sl 1 (ls.map (iAl 32 labA))), (6, .own 24 q.2)], [(24, .row q.2 44 32 ((ls.take q.1).flatten.map labA))]⟩) (fun q => q.1 ≤ ls.length) (fun q => ls.length - q.1) [] (0, vR) (Nat.zero_le _) ?_ ?_
  · exact ⟨rfl, ⟨sle_i rfl, sle_i rfl, sle_sl rfl, sle_own, True.intro⟩, HLe.cons 24 rfl (HOLe.refl _) .nil⟩
  rintro ⟨i, v⟩ hi
  dsimp only at hi ⊢
  by_cases hlt : i < ls.length
  · have hi1 : ((i : Int) + 1 = ((i + 1 : Nat) : Int)) := by omega
    have hst := sum_take ls hlt
    have h2 := hfl (i + 1)
    rw [hst, List.length_append] at h2
    clear hfl hg
    generalize (ls.take i).flatten = a at *
    repeat' (first | refine Awp.seq ?_ | refine Awp.block ?_ | refine Awp.region ?_ | refine Ops.nil (nqA ?_) | refine Ops.nil (nqX ?_) | refine Awp.skip (nqA ?_) | (refine o_add rfl rfl rfl rfl ?_ ?_; omega) | (refine o_calm rfl TtOk rfl rfl rfl ?_ (fun _ => ?_); exact nd) | (refine o_index rfl TtOk rfl rfl rfl rfl rfl rfl ?_ (getq_nat ?_) ?_; omega; omega) | (refine o_append TtOk rfl rfl rfl rfl rfl rfl rfl rfl rfl (by first | exact True.intro | exact rfl) rfl rfl (fun _ => rfl) ?_ ?_ (fun _ => ?_); ((repeat' (first | rw [List.length_append] | rw [List.length_map] | rw [List.length_cons] | rw [List.length_nil] | rw [List.length_take] | rw [List.length_drop])) <;> omega); ((repeat' (first | rw [List.length_append] | rw [List.length_map] | rw [List.length_cons] | rw [List.length_nil] | rw [List.length_take] | rw [List.length_drop])) <;> omega)) | (refine a_condP rfl (fun hc => ?_) (fun hc => ?_)) <;> (try (exfalso; omega)))
    all_goals exact ⟨(i + 1, _), [], hlt, by show ls.length - (i + 1) < ls.length - i; omega, rfl, ⟨sle_i hi1, sle_i rfl, sle_sl rfl, sle_own, True.intro⟩, HLe.cons 24 rfl (HOLe.row (by rw [hst, List.map_append])) .nil⟩
  · have hie : i = ls.length := by omega
    subst hie
    rw [List.take_length]
    repeat' (first | refine Awp.seq ?_ | refine Awp.region ?_ | refine Ops.nil (nqA ?_) | refine Awp.exit (nqA ?_) | refine Awp.ret (nqE ?_) | (refine o_calm rfl TtOk rfl rfl rfl ?_ (fun _ => ?_); exact nd) | (refine a_condP rfl (fun hc => ?_) (fun hc => ?_)) <;> (try (exfalso; omega)))
    all_goals
      refine end_tmp rfl rfl rfl [24] [] (CLe.fz ?_) .nil ⟨rfl, rfl⟩ _ (.inl rfl)
      exact .head _
end Go.Proofs.YtcmgpkibjdbonaaGreat
