/- law11.LevelApplies by rules. -/
import Derived.Test.YtnmnhnlebkebfaaAP2
import Derived.Test.YtnmnhnlebkebfaaL14
import Derived.Test.YtnmnhnlebkebfaaLB4
import Derived.Test.YtnmnhnlebkebfaaV22
set_option maxHeartbeats 8000000
set_option maxRecDepth 100000
namespace Go.Proofs.Ytnmnhnlebkebfaa
open Go Go.RowKit
theorem applyF_len (s : Stt) (gone : List Int) (fresh : List Fl) (log : Int) : (applyF s gone fresh log).1.fs.length ≤ s.fs.length + fresh.length := by
  unfold applyF
  split
  · exact Nat.zero_le _
  · split
    · exact Nat.zero_le _
    · split
      · exact Nat.zero_le _
      · split
        · exact Nat.zero_le _
        · show (sortS (ltC ordF) (keptF s.fs gone ++ fresh)).length ≤ _
          rw [sortS_len wo_order, List.length_append]
          have := keptF_len s.fs gone
          omega
theorem levelApplies_spec (s : Stt) (gone : List Int) (fresh : List Fl) (log : Int) (hl : s.fs.length ≤ 9223372036854775807) (hg : gone.length ≤ 9223372036854775807) (hf : fresh.length ≤ 9223372036854775807) :
    Spec Try.prog 5 [eSt s, .sl 1 (gone.map (AV.i .i64)), .sl 5 (fresh.map eF), .i .i64 log] [] (fun v os => v = .b true ∧ os = []) := by
  refine spec_of TtOk [] Try.func5 rfl Try.ntmps5 (by kernel_rfl) rfl rfl (fun C => ?_) rfl
  have ho := of_spec11 s hl
  have hfi := files_spec fresh hf 20 (by decide)
  have hl2 : (of11 s).fs.length ≤ 40 := files11_len _ _
  have hf2 : (files11 fresh 20).length ≤ 20 := files11_len _ _
  generalize of11 s = t at ho hl2
  generalize files11 fresh 20 = fr at hfi hf2
  have ht := told_spec t (by omega)
  have hts := tolds_spec fr (by omega)
  have haw := awake11_spec
  have key : ∀ (G : List Int) (X : List AV), X = G.map (AV.i .i64) → G.length ≤ 40 → ∃ r : Stt × Int, r.1.fs.length ≤ 60 ∧
      Spec Try.prog 21 [eSt t, .sl 1 X, .sl 5 (fr.map eF), .i .i64 log] [] (fun v os => v = .tup [eSt r.1, .i .i64 r.2] ∧ os = []) ∧
      Spec Try.prog 22 [eSt t, .sl 1 X, .sl 5 (fr.map eF), .i .i64 log] [] (fun v os => v = .tup [eSt r.1, .i .i64 r.2] ∧ os = []) := by
    rintro G X rfl hG
    exact ⟨applyF t G fr log, Nat.le_trans (applyF_len _ _ _ _) (by omega), apply_spec t G fr log (by omega) (by omega) (by omega), rapply_spec t G fr log (by omega) (by omega) (by omega)⟩
  have hgl : (gone.map (AV.i .i64)).length = gone.length := List.length_map ..
  by_cases h40 : 40 < gone.length
  · obtain ⟨r, hr, ha, hra⟩ := key ((gone.take 40).drop 0) _ rfl (by rw [List.drop_zero, List.length_take]; omega)
    obtain ⟨u, e⟩ := r
    have ht2 := told_spec u (by have : u.fs.length ≤ 60 := hr; omega)
    have hsm := rsame11_spec u (by have : u.fs.length ≤ 60 := hr; omega)
    have e1 : (e == e) = true := beq_self_eq_true _
    dsimp only at ha hra
    repeat' (first
      | (exact absurd (hc.symm.trans e1) (by decide))
      | refine Awp.seq ?_
      | refine Awp.region ?_
      | (refine Ops.nil ?_; show Awp _ _ _ _ _)
      | (refine Ops.nil ?_; show Exists _)
      | (refine Ops.nil ?_; show endK _ _ _ _ _)
      | (refine Awp.skip ?_; show Awp _ _ _ _ _)
      | (refine Awp.skip ?_; show endK _ _ _ _ _)
      | (refine Awp.skip ?_; show Exists _)
      | (refine Awp.ret ?_; show endK _ _ _ _ _)
      | refine o_noT rfl rfl rfl ?_
      | refine o_noU rfl rfl rfl ?_
      | refine o_noF rfl rfl rfl ?_
      | refine o_len rfl TtOk rfl rfl rfl (fun _ => ?_)
      | refine o_lenOwn rfl TtOk rfl rfl rfl rfl (fun _ => ?_)
      | (refine o_calm rfl TtOk rfl rfl rfl ?_ (fun _ => ?_); first | exact True.intro | exact ⟨rfl, rfl, rfl, rfl⟩ | exact ⟨rfl, True.intro⟩ | exact ⟨rfl, rfl⟩ | exact ⟨rfl, rfl, rfl⟩ | exact rfl | exact ⟨fun h0 => by cases h0, rfl⟩ | exact (fun h0 => by cases h0) | exact ⟨rfl, by omega⟩ | exact ⟨Nat.succ_ne_zero _, rfl⟩ | omega)
      | refine o_alloc (d := 9) rfl TtOk rfl rfl rfl (fun b9 => ?_)
      | refine o_alloc (d := 11) rfl TtOk rfl rfl rfl (fun b11 => ?_)
      | refine o_box (d := 4) rfl rfl rfl rfl (fun b4 => ?_)
      | refine o_store TtOk rfl rfl rfl rfl rfl rfl rfl ⟨rfl, rfl⟩ rfl rfl rfl rfl rfl ?_
      | refine o_buildSlice TtOk rfl rfl rfl rfl rfl rfl rfl rfl rfl rfl rfl (by repeat' (first | exact True.intro | exact rfl | refine ⟨?_, ?_⟩)) (fun _ => ?_)
      | (refine o_append TtOk rfl rfl rfl rfl rfl rfl rfl rfl rfl (by first | exact True.intro | exact rfl) rfl rfl (fun _ => rfl) ?_ ?_ (fun _ => ?_); (simp only [List.length_map, List.length_cons, List.length_nil, List.length_append, List.length_take, List.length_drop]; omega); (simp only [List.length_map, List.length_cons, List.length_nil, List.length_append, List.length_take, List.length_drop]; omega))
      | (refine o_appendStr TtOk rfl rfl rfl rfl rfl rfl rfl rfl rfl (fun _ => rfl) ?_ (fun _ => ?_); (simp only [List.length_map, List.length_cons, List.length_nil, List.length_append, List.length_take, List.length_drop]; omega))
      | refine o_sliceCp TtOk rfl rfl rfl rfl rfl rfl ?_
      | refine o_eqNil TtOk rfl rfl rfl rfl rfl ?_
      | refine o_eqArr8 TtOk rfl rfl rfl rfl rfl rfl (by kernel_rfl) ?_
      | (fail_if_success (refine o_isLit rfl (by first | exact .inl rfl | exact .inr rfl) ?_)); (refine o_splitP rfl rfl (fun hc => ?_) (fun hc => ?_) <;> try (exfalso; omega))
      | (fail_if_success (refine o_isLit rfl (by first | exact .inl rfl | exact .inr rfl) ?_)); (refine o_splitI rfl rfl (fun hc => ?_) (fun hc => ?_) <;> try (exfalso; omega))
      | (fail_if_success (refine o_isLit rfl (by first | exact .inl rfl | exact .inr rfl) ?_)); (refine o_splitN rfl rfl (fun hc => ?_) (fun hc => ?_) <;> try (exfalso; omega))
      | (fail_if_success (refine o_isLit rfl (by first | exact .inl rfl | exact .inr rfl) ?_)); (refine o_split rfl rfl (fun hc => ?_) (fun hc => ?_))
      | refine a_condT rfl ?_
      | refine a_condF rfl ?_
      | (refine a_condP rfl (fun hc => ?_) (fun hc => ?_)) <;> (try (exfalso; omega))
      | (refine a_condI rfl (fun hc => ?_) (fun hc => ?_)) <;> (try (exfalso; omega))
      | (refine a_condN rfl (fun hc => ?_) (fun hc => ?_)) <;> (try (exfalso; omega))
      | (refine Awp.cond rfl (fun hc => ?_) (fun hc => ?_))
      | (refine Ops.nil ?_; show AnyT _ _ _ _ _ _ _ _ _ _)
      | refine a_anyT 5 [24, 9] [] [24, 9] (by kernel_rfl) (by kernel_rfl) (n := 13) (listed := [false, false, false, false, false, false, false, false, false, false, false, false, false].toArray) rfl (by kernel_rfl) ?_
      | refine t_path (n := 13) (listed := [false, false, false, false, false, false, false, false, false, false, false, false, false].toArray) [2, 4, 5, 0] 9 [true, false, true, false, true, true, false, false, false, false, false, false, false] (by kernel_rfl) rfl rfl rfl (by kernel_rfl) ?_
      | refine t_two (n := 9) (listed := [true, false, true, false, true, true, false, false, false, false, false, false, false].toArray) 1 10 [true, true, true, false, true, true, false, false, false, false, false, false, false] [true, false, true, false, true, true, false, false, false, false, true, false, false] rfl (by kernel_rfl) rfl rfl (by kernel_rfl) (by kernel_rfl) ?_ ?_
      | refine t_two (n := 8) (listed := [true, true, true, false, true, true, false, false, false, false, false, false, false].toArray) 3 10 [true, true, true, true, true, true, false, false, false, false, false, false, false] [true, true, true, false, true, true, false, false, false, false, true, false, false] rfl (by kernel_rfl) rfl rfl (by kernel_rfl) (by kernel_rfl) ?_ ?_
      | refine t_two (n := 7) (listed := [true, true, true, true, true, true, false, false, false, false, false, false, false].toArray) 6 10 [true, true, true, true, true, true, true, false, false, false, false, false, false] [true, true, true, true, true, true, false, false, false, false, true, false, false] rfl (by kernel_rfl) rfl rfl (by kernel_rfl) (by kernel_rfl) ?_ ?_
      | refine t_path (n := 6) (listed := [true, true, true, true, true, true, true, false, false, false, false, false, false].toArray) [7, 8, 9, 10, 11, 12] 0 [true, true, true, true, true, true, true, true, true, true, true, true, true] (by kernel_rfl) rfl rfl rfl (by kernel_rfl) ?_
      | refine t_fin (n := 0) (listed := [true, true, true, true, true, true, true, true, true, true, true, true, true].toArray) (by kernel_rfl) ?_
      | refine t_path (n := 6) (listed := [true, true, true, true, true, true, false, false, false, false, true, false, false].toArray) [6, 7, 8, 9, 11, 12] 0 [true, true, true, true, true, true, true, true, true, true, true, true, true] (by kernel_rfl) rfl rfl rfl (by kernel_rfl) ?_
      | refine t_path (n := 7) (listed := [true, true, true, false, true, true, false, false, false, false, true, false, false].toArray) [3, 6, 7, 8, 9, 11, 12] 0 [true, true, true, true, true, true, true, true, true, true, true, true, true] (by kernel_rfl) rfl rfl rfl (by kernel_rfl) ?_
      | refine t_path (n := 8) (listed := [true, false, true, false, true, true, false, false, false, false, true, false, false].toArray) [1, 3, 6, 7, 8, 9, 11, 12] 0 [true, true, true, true, true, true, true, true, true, true, true, true, true] (by kernel_rfl) rfl rfl rfl (by kernel_rfl) ?_
      | refine a_any 7 [] [] [] [0, 1, 2, 3, 4, 5, 6, 7, 9, 8, 10, 11, 12] (by kernel_rfl) (by kernel_rfl) (by kernel_rfl) rfl rfl rfl ?_
      | (refine o_freezeR 24 26 rfl rfl rfl ?_)
      | (refine o_sliceSl TtOk rfl 0 40 rfl rfl rfl rfl rfl bnd_none (bnd_some rfl rfl) (by omega) (by omega) ?_)
      | (refine o_call0 rfl (ho) ⟨SLe.of_eq rfl, True.intro⟩ rfl ?_; rintro _ _ ⟨rfl, rfl⟩; refine ⟨rfl, ?_⟩)
      | (refine o_call0 rfl (hfi) ⟨SLe.of_eq rfl, SLe.of_eq rfl, True.intro⟩ rfl ?_; rintro _ _ ⟨rfl, rfl⟩; refine ⟨rfl, ?_⟩)
      | (refine o_call0 rfl (ht) ⟨SLe.of_eq rfl, True.intro⟩ rfl ?_; rintro _ _ ⟨rfl, rfl⟩; refine ⟨rfl, ?_⟩)
      | (refine o_call0 rfl (hts) ⟨SLe.of_eq rfl, True.intro⟩ rfl ?_; rintro _ _ ⟨rfl, rfl⟩; refine ⟨rfl, ?_⟩)
      | (refine o_call0 rfl (ha) ⟨SLe.of_eq rfl, SLe.of_eq rfl, SLe.of_eq rfl, SLe.of_eq rfl, True.intro⟩ rfl ?_; rintro _ _ ⟨rfl, rfl⟩; refine ⟨rfl, ?_⟩)
      | (refine o_call0 rfl (hra) ⟨SLe.of_eq rfl, SLe.of_eq rfl, SLe.of_eq rfl, SLe.of_eq rfl, True.intro⟩ rfl ?_; rintro _ _ ⟨rfl, rfl⟩; refine ⟨rfl, ?_⟩)
      | (refine o_call0 rfl (haw) True.intro rfl ?_; rintro _ _ ⟨rfl, rfl⟩; refine ⟨rfl, ?_⟩)
      | (refine o_call0 rfl (ht2) ⟨SLe.of_eq rfl, True.intro⟩ rfl ?_; rintro _ _ ⟨rfl, rfl⟩; refine ⟨rfl, ?_⟩)
      | (refine o_call0 rfl (hsm) ⟨SLe.of_eq rfl, SLe.of_eq rfl, True.intro⟩ rfl ?_; rintro _ _ ⟨rfl, rfl⟩; refine ⟨rfl, ?_⟩))
    all_goals first | exact end_tmp rfl rfl rfl [] [] (CLe.of_eq rfl) .nil ⟨rfl, rfl⟩ _ (.inl rfl) | exact absurd rfl hc | (trace_state; sorry)
  · obtain ⟨r, hr, ha, hra⟩ := key gone (gone.map (AV.i .i64)) rfl (by omega)
    obtain ⟨u, e⟩ := r
    have ht2 := told_spec u (by have : u.fs.length ≤ 60 := hr; omega)
    have hsm := rsame11_spec u (by have : u.fs.length ≤ 60 := hr; omega)
    have e1 : (e == e) = true := beq_self_eq_true _
    dsimp only at ha hra
    rw [← hgl] at h40
    generalize gone.map (AV.i .i64) = X at *
    repeat' (first
      | (exact absurd (hc.symm.trans e1) (by decide))
      | refine Awp.seq ?_
      | refine Awp.region ?_
      | (refine Ops.nil ?_; show Awp _ _ _ _ _)
      | (refine Ops.nil ?_; show Exists _)
      | (refine Ops.nil ?_; show endK _ _ _ _ _)
      | (refine Awp.skip ?_; show Awp _ _ _ _ _)
      | (refine Awp.skip ?_; show endK _ _ _ _ _)
      | (refine Awp.skip ?_; show Exists _)
      | (refine Awp.ret ?_; show endK _ _ _ _ _)
      | refine o_noT rfl rfl rfl ?_
      | refine o_noU rfl rfl rfl ?_
      | refine o_noF rfl rfl rfl ?_
      | refine o_len rfl TtOk rfl rfl rfl (fun _ => ?_)
      | refine o_lenOwn rfl TtOk rfl rfl rfl rfl (fun _ => ?_)
      | (refine o_calm rfl TtOk rfl rfl rfl ?_ (fun _ => ?_); first | exact True.intro | exact ⟨rfl, rfl, rfl, rfl⟩ | exact ⟨rfl, True.intro⟩ | exact ⟨rfl, rfl⟩ | exact ⟨rfl, rfl, rfl⟩ | exact rfl | exact ⟨fun h0 => by cases h0, rfl⟩ | exact (fun h0 => by cases h0) | exact ⟨rfl, by omega⟩ | exact ⟨Nat.succ_ne_zero _, rfl⟩ | omega)
      | refine o_alloc (d := 9) rfl TtOk rfl rfl rfl (fun b9 => ?_)
      | refine o_alloc (d := 11) rfl TtOk rfl rfl rfl (fun b11 => ?_)
      | refine o_box (d := 4) rfl rfl rfl rfl (fun b4 => ?_)
      | refine o_store TtOk rfl rfl rfl rfl rfl rfl rfl ⟨rfl, rfl⟩ rfl rfl rfl rfl rfl ?_
      | refine o_buildSlice TtOk rfl rfl rfl rfl rfl rfl rfl rfl rfl rfl rfl (by repeat' (first | exact True.intro | exact rfl | refine ⟨?_, ?_⟩)) (fun _ => ?_)
      | (refine o_append TtOk rfl rfl rfl rfl rfl rfl rfl rfl rfl (by first | exact True.intro | exact rfl) rfl rfl (fun _ => rfl) ?_ ?_ (fun _ => ?_); (simp only [List.length_map, List.length_cons, List.length_nil, List.length_append, List.length_take, List.length_drop]; omega); (simp only [List.length_map, List.length_cons, List.length_nil, List.length_append, List.length_take, List.length_drop]; omega))
      | (refine o_appendStr TtOk rfl rfl rfl rfl rfl rfl rfl rfl rfl (fun _ => rfl) ?_ (fun _ => ?_); (simp only [List.length_map, List.length_cons, List.length_nil, List.length_append, List.length_take, List.length_drop]; omega))
      | refine o_sliceCp TtOk rfl rfl rfl rfl rfl rfl ?_
      | refine o_eqNil TtOk rfl rfl rfl rfl rfl ?_
      | refine o_eqArr8 TtOk rfl rfl rfl rfl rfl rfl (by kernel_rfl) ?_
      | (fail_if_success (refine o_isLit rfl (by first | exact .inl rfl | exact .inr rfl) ?_)); (refine o_splitP rfl rfl (fun hc => ?_) (fun hc => ?_) <;> try (exfalso; omega))
      | (fail_if_success (refine o_isLit rfl (by first | exact .inl rfl | exact .inr rfl) ?_)); (refine o_splitI rfl rfl (fun hc => ?_) (fun hc => ?_) <;> try (exfalso; omega))
      | (fail_if_success (refine o_isLit rfl (by first | exact .inl rfl | exact .inr rfl) ?_)); (refine o_splitN rfl rfl (fun hc => ?_) (fun hc => ?_) <;> try (exfalso; omega))
      | (fail_if_success (refine o_isLit rfl (by first | exact .inl rfl | exact .inr rfl) ?_)); (refine o_split rfl rfl (fun hc => ?_) (fun hc => ?_))
      | refine a_condT rfl ?_
      | refine a_condF rfl ?_
      | (refine a_condP rfl (fun hc => ?_) (fun hc => ?_)) <;> (try (exfalso; omega))
      | (refine a_condI rfl (fun hc => ?_) (fun hc => ?_)) <;> (try (exfalso; omega))
      | (refine a_condN rfl (fun hc => ?_) (fun hc => ?_)) <;> (try (exfalso; omega))
      | (refine Awp.cond rfl (fun hc => ?_) (fun hc => ?_))
      | (refine Ops.nil ?_; show AnyT _ _ _ _ _ _ _ _ _ _)
      | refine a_anyT 5 [24, 9] [] [24, 9] (by kernel_rfl) (by kernel_rfl) (n := 13) (listed := [false, false, false, false, false, false, false, false, false, false, false, false, false].toArray) rfl (by kernel_rfl) ?_
      | refine t_path (n := 13) (listed := [false, false, false, false, false, false, false, false, false, false, false, false, false].toArray) [2, 4, 5, 0] 9 [true, false, true, false, true, true, false, false, false, false, false, false, false] (by kernel_rfl) rfl rfl rfl (by kernel_rfl) ?_
      | refine t_two (n := 9) (listed := [true, false, true, false, true, true, false, false, false, false, false, false, false].toArray) 1 10 [true, true, true, false, true, true, false, false, false, false, false, false, false] [true, false, true, false, true, true, false, false, false, false, true, false, false] rfl (by kernel_rfl) rfl rfl (by kernel_rfl) (by kernel_rfl) ?_ ?_
      | refine t_two (n := 8) (listed := [true, true, true, false, true, true, false, false, false, false, false, false, false].toArray) 3 10 [true, true, true, true, true, true, false, false, false, false, false, false, false] [true, true, true, false, true, true, false, false, false, false, true, false, false] rfl (by kernel_rfl) rfl rfl (by kernel_rfl) (by kernel_rfl) ?_ ?_
      | refine t_two (n := 7) (listed := [true, true, true, true, true, true, false, false, false, false, false, false, false].toArray) 6 10 [true, true, true, true, true, true, true, false, false, false, false, false, false] [true, true, true, true, true, true, false, false, false, false, true, false, false] rfl (by kernel_rfl) rfl rfl (by kernel_rfl) (by kernel_rfl) ?_ ?_
      | refine t_path (n := 6) (listed := [true, true, true, true, true, true, true, false, false, false, false, false, false].toArray) [7, 8, 9, 10, 11, 12] 0 [true, true, true, true, true, true, true, true, true, true, true, true, true] (by kernel_rfl) rfl rfl rfl (by kernel_rfl) ?_
      | refine t_fin (n := 0) (listed := [true, true, true, true, true, true, true, true, true, true, true, true, true].toArray) (by kernel_rfl) ?_
      | refine t_path (n := 6) (listed := [true, true, true, true, true, true, false, false, false, false, true, false, false].toArray) [6, 7, 8, 9, 11, 12] 0 [true, true, true, true, true, true, true, true, true, true, true, true, true] (by kernel_rfl) rfl rfl rfl (by kernel_rfl) ?_
      | refine t_path (n := 7) (listed := [true, true, true, false, true, true, false, false, false, false, true, false, false].toArray) [3, 6, 7, 8, 9, 11, 12] 0 [true, true, true, true, true, true, true, true, true, true, true, true, true] (by kernel_rfl) rfl rfl rfl (by kernel_rfl) ?_
      | refine t_path (n := 8) (listed := [true, false, true, false, true, true, false, false, false, false, true, false, false].toArray) [1, 3, 6, 7, 8, 9, 11, 12] 0 [true, true, true, true, true, true, true, true, true, true, true, true, true] (by kernel_rfl) rfl rfl rfl (by kernel_rfl) ?_
      | refine a_any 7 [] [] [] [0, 1, 2, 3, 4, 5, 6, 7, 9, 8, 10, 11, 12] (by kernel_rfl) (by kernel_rfl) (by kernel_rfl) rfl rfl rfl ?_
      | (refine o_freezeR 24 26 rfl rfl rfl ?_)
      | (refine o_call0 rfl (ho) ⟨SLe.of_eq rfl, True.intro⟩ rfl ?_; rintro _ _ ⟨rfl, rfl⟩; refine ⟨rfl, ?_⟩)
      | (refine o_call0 rfl (hfi) ⟨SLe.of_eq rfl, SLe.of_eq rfl, True.intro⟩ rfl ?_; rintro _ _ ⟨rfl, rfl⟩; refine ⟨rfl, ?_⟩)
      | (refine o_call0 rfl (ht) ⟨SLe.of_eq rfl, True.intro⟩ rfl ?_; rintro _ _ ⟨rfl, rfl⟩; refine ⟨rfl, ?_⟩)
      | (refine o_call0 rfl (hts) ⟨SLe.of_eq rfl, True.intro⟩ rfl ?_; rintro _ _ ⟨rfl, rfl⟩; refine ⟨rfl, ?_⟩)
      | (refine o_call0 rfl (ha) ⟨SLe.of_eq rfl, SLe.of_eq rfl, SLe.of_eq rfl, SLe.of_eq rfl, True.intro⟩ rfl ?_; rintro _ _ ⟨rfl, rfl⟩; refine ⟨rfl, ?_⟩)
      | (refine o_call0 rfl (hra) ⟨SLe.of_eq rfl, SLe.of_eq rfl, SLe.of_eq rfl, SLe.of_eq rfl, True.intro⟩ rfl ?_; rintro _ _ ⟨rfl, rfl⟩; refine ⟨rfl, ?_⟩)
      | (refine o_call0 rfl (haw) True.intro rfl ?_; rintro _ _ ⟨rfl, rfl⟩; refine ⟨rfl, ?_⟩)
      | (refine o_call0 rfl (ht2) ⟨SLe.of_eq rfl, True.intro⟩ rfl ?_; rintro _ _ ⟨rfl, rfl⟩; refine ⟨rfl, ?_⟩)
      | (refine o_call0 rfl (hsm) ⟨SLe.of_eq rfl, SLe.of_eq rfl, True.intro⟩ rfl ?_; rintro _ _ ⟨rfl, rfl⟩; refine ⟨rfl, ?_⟩))
    all_goals first | exact end_tmp rfl rfl rfl [] [] (CLe.of_eq rfl) .nil ⟨rfl, rfl⟩ _ (.inl rfl) | exact absurd rfl hc | (trace_state; sorry)
end Go.Proofs.Ytnmnhnlebkebfaa
