/- law11.LevelPicks by rules. -/
import Derived.Test.YtnmnhnlebkebfaaL14
import Derived.Test.YtnmnhnlebkebfaaL10
import Derived.Test.YtnmnhnlebkebfaaL12
set_option maxHeartbeats 8000000
set_option maxRecDepth 100000
namespace Go.Proofs.Ytnmnhnlebkebfaa
open Go Go.RowKit
theorem wholeFrom_ok (fs : List Fl) (h : fs.length ≤ 1000) : ∀ (k : Nat) (n : Int), 0 ≤ n → n + k ≤ 4 → jbOk (wholeFrom fs k n).1
  | 0, _, _, _ => jbOk_z
  | k + 1, n, h0, h1 => by
    rw [wholeFrom]
    split
    · exact jbOk_job _ _ _ h (Nat.le_trans (atF_len _ _) h) ⟨h0, by omega⟩
    · exact wholeFrom_ok fs h k (n + 1) (by omega) (by omega)
theorem wholeF_ok (s : Stt) (h : s.fs.length ≤ 1000) : jbOk (wholeF s).1 := by
  unfold wholeF
  split
  · exact jbOk_z
  · exact wholeFrom_ok _ h _ _ (by decide) (by decide)
theorem levelPicks_spec (s : Stt) (cnt size : Int) (hl : s.fs.length ≤ 9223372036854775807) (hlv : ∀ f ∈ s.fs, f.lev ≤ 9223372036854775807) :
    Spec Try.prog 4 [eSt s, .agg [.i .i64 cnt, .i .i64 size]] [] (fun v os => v = .b true ∧ os = []) := by
  refine spec_of TtOk [] Try.func4 rfl Try.ntmps4 (by kernel_rfl) rfl rfl (fun C => ?_) rfl
  have ho := of_spec11 s hl
  have hl2 : (of11 s).fs.length ≤ 1000 := Nat.le_trans (files11_len _ _) (by decide)
  have hlv2 : ∀ f ∈ (of11 s).fs, f.lev ≤ 9223372036854775807 := fun f hf => by
    obtain ⟨x, hx, rfl⟩ := List.mem_map.1 (show f ∈ (s.fs.take 40).map cutFl from hf)
    exact hlv x (List.mem_of_mem_take hx)
  generalize of11 s = t at ho hl2 hlv2
  have ht := told_spec t hl2
  have h1 := pick_spec t cnt size hl2
  have h2 := rpick_spec t cnt size hl2
  have h3 := whole_spec t hl2
  have h4 := rwhole_spec t hl2
  have ok1 := pickF_ok t cnt size hl2
  have ok2 := wholeF_ok t hl2
  generalize pickF t cnt size = p at h1 h2 ok1
  generalize wholeF t = w at h3 h4 ok2
  obtain ⟨j, ok⟩ := p
  obtain ⟨jw, okw⟩ := w
  have ok1 : jbOk j := ok1
  have ok2 : jbOk jw := ok2
  have l1 := last_spec t j hl2 (by have := ok1.1; omega) (by have := ok1.2.1; omega) ⟨by have := ok1.2.2.1; omega, by have := ok1.2.2.2; omega⟩
  have l2 := rlast_spec t j hl2 (by have := ok1.1; omega) (by have := ok1.2.1; omega) ⟨by have := ok1.2.2.1; omega, by have := ok1.2.2.2; omega⟩ hlv2
  have l3 := last_spec t jw hl2 (by have := ok2.1; omega) (by have := ok2.2.1; omega) ⟨by have := ok2.2.2.1; omega, by have := ok2.2.2.2; omega⟩
  have l4 := rlast_spec t jw hl2 (by have := ok2.1; omega) (by have := ok2.2.1; omega) ⟨by have := ok2.2.2.1; omega, by have := ok2.2.2.2; omega⟩ hlv2
  have s1 := same11_spec j ok1.1 ok1.2.1
  have s2 := same11_spec jw ok2.1 ok2.2.1
  generalize lastF t.fs j = la at l1 l2
  generalize lastF t.fs jw = lb at l3 l4
  have haw := awake11_spec
  have e1 : (la == la) = true := beq_self_eq_true _
  have e2 : (!(ok == ok)) = false := by rw [beq_self_eq_true]; rfl
  have e3 : (!(okw == okw)) = false := by rw [beq_self_eq_true]; rfl
  repeat' (first
    | (exact absurd (hc.symm.trans e3) (by decide))
    | (exact absurd (hc.symm.trans e2) (by decide))
    | (exact absurd (hc.symm.trans e1) (by decide))
    | refine Awp.seq ?_
    | refine Awp.region ?_
    | (refine Ops.nil ?_; show Awp _ _ _ _ _)
    | (refine Ops.nil ?_; show Exists _)
    | (refine Ops.nil ?_; show endK _ _ _ _ _)
    | (refine Awp.skip ?_; show Awp _ _ _ _ _)
    | (refine Awp.skip ?_; show endK _ _ _ _ _)
    | (refine Awp.skip ?_; show Exists _)
    | (refine Awp.ret ?_; show endK _ _ _ _ _)
    | refine o_noT rfl rfl rfl ?_
    | refine o_noU rfl rfl rfl ?_
    | refine o_noF rfl rfl rfl ?_
    | (refine o_calm rfl TtOk rfl rfl rfl ?_ (fun _ => ?_); first | exact True.intro | exact ⟨rfl, rfl, rfl, rfl⟩ | exact ⟨rfl, True.intro⟩ | exact ⟨rfl, rfl⟩ | exact ⟨rfl, rfl, rfl⟩ | exact rfl | exact ⟨fun h0 => by cases h0, rfl⟩ | exact (fun h0 => by cases h0) | exact ⟨rfl, by omega⟩ | exact ⟨Nat.succ_ne_zero _, rfl⟩ | omega)
    | refine o_alloc (d := 5) rfl TtOk rfl rfl rfl (fun b5 => ?_)
    | refine o_alloc (d := 7) rfl TtOk rfl rfl rfl (fun b7 => ?_)
    | refine o_alloc (d := 9) rfl TtOk rfl rfl rfl (fun b9 => ?_)
    | refine o_alloc (d := 11) rfl TtOk rfl rfl rfl (fun b11 => ?_)
    | refine o_box (d := 2) rfl rfl rfl rfl (fun b2 => ?_)
    | refine o_box (d := 3) rfl rfl rfl rfl (fun b3 => ?_)
    | refine o_store TtOk rfl rfl rfl rfl rfl rfl rfl ⟨rfl, rfl⟩ rfl rfl rfl rfl rfl ?_
    | refine o_eqNil TtOk rfl rfl rfl rfl rfl ?_
    | refine o_eqArr8 TtOk rfl rfl rfl rfl rfl rfl (by kernel_rfl) ?_
    | (fail_if_success (refine o_isLit rfl (by first | exact .inl rfl | exact .inr rfl) ?_)); (refine o_splitP rfl rfl (fun hc => ?_) (fun hc => ?_) <;> try (exfalso; omega))
    | (fail_if_success (refine o_isLit rfl (by first | exact .inl rfl | exact .inr rfl) ?_)); (refine o_splitI rfl rfl (fun hc => ?_) (fun hc => ?_) <;> try (exfalso; omega))
    | (fail_if_success (refine o_isLit rfl (by first | exact .inl rfl | exact .inr rfl) ?_)); (refine o_splitN rfl rfl (fun hc => ?_) (fun hc => ?_) <;> try (exfalso; omega))
    | (fail_if_success (refine o_isLit rfl (by first | exact .inl rfl | exact .inr rfl) ?_)); (refine o_split rfl rfl (fun hc => ?_) (fun hc => ?_))
    | refine a_condT rfl ?_
    | refine a_condF rfl ?_
    | (refine a_condP rfl (fun hc => ?_) (fun hc => ?_)) <;> (try (exfalso; omega))
    | (refine a_condI rfl (fun hc => ?_) (fun hc => ?_)) <;> (try (exfalso; omega))
    | (refine a_condN rfl (fun hc => ?_) (fun hc => ?_)) <;> (try (exfalso; omega))
    | (refine Awp.cond rfl (fun hc => ?_) (fun hc => ?_))
    | (refine Ops.nil ?_; show AnyT _ _ _ _ _ _ _ _ _ _)
    | refine a_anyT 3 [7] [22] [7] (by kernel_rfl) (by kernel_rfl) (n := 13) (listed := [false, false, false, false, false, false, false, false, false, false, false, false, false].toArray) rfl (by kernel_rfl) ?_
    | refine t_path (n := 13) (listed := [false, false, false, false, false, false, false, false, false, false, false, false, false].toArray) [2, 4, 0, 3, 5] 8 [true, false, true, true, true, true, false, false, false, false, false, false, false] (by kernel_rfl) rfl rfl rfl (by kernel_rfl) ?_
    | refine t_two (n := 8) (listed := [true, false, true, true, true, true, false, false, false, false, false, false, false].toArray) 1 10 [true, true, true, true, true, true, false, false, false, false, false, false, false] [true, false, true, true, true, true, false, false, false, false, true, false, false] rfl (by kernel_rfl) rfl rfl (by kernel_rfl) (by kernel_rfl) ?_ ?_
    | refine t_two (n := 7) (listed := [true, true, true, true, true, true, false, false, false, false, false, false, false].toArray) 6 10 [true, true, true, true, true, true, true, false, false, false, false, false, false] [true, true, true, true, true, true, false, false, false, false, true, false, false] rfl (by kernel_rfl) rfl rfl (by kernel_rfl) (by kernel_rfl) ?_ ?_
    | refine t_path (n := 6) (listed := [true, true, true, true, true, true, true, false, false, false, false, false, false].toArray) [7, 8, 9, 10, 11, 12] 0 [true, true, true, true, true, true, true, true, true, true, true, true, true] (by kernel_rfl) rfl rfl rfl (by kernel_rfl) ?_
    | refine t_fin (n := 0) (listed := [true, true, true, true, true, true, true, true, true, true, true, true, true].toArray) (by kernel_rfl) ?_
    | refine t_path (n := 6) (listed := [true, true, true, true, true, true, false, false, false, false, true, false, false].toArray) [6, 7, 8, 9, 11, 12] 0 [true, true, true, true, true, true, true, true, true, true, true, true, true] (by kernel_rfl) rfl rfl rfl (by kernel_rfl) ?_
    | refine t_path (n := 7) (listed := [true, false, true, true, true, true, false, false, false, false, true, false, false].toArray) [1, 6, 7, 8, 9, 11, 12] 0 [true, true, true, true, true, true, true, true, true, true, true, true, true] (by kernel_rfl) rfl rfl rfl (by kernel_rfl) ?_
    | refine a_any 8 [] [] [] [0, 1, 3, 5, 2, 4, 6, 7, 8, 9, 10, 12, 14, 11, 13, 15, 16, 17, 18] (by kernel_rfl) (by kernel_rfl) (by kernel_rfl) rfl rfl rfl ?_
    | (refine o_call0 rfl (ho) ⟨SLe.of_eq rfl, True.intro⟩ rfl ?_; rintro _ _ ⟨rfl, rfl⟩; refine ⟨rfl, ?_⟩)
    | (refine o_call0 rfl (ht) ⟨SLe.of_eq rfl, True.intro⟩ rfl ?_; rintro _ _ ⟨rfl, rfl⟩; refine ⟨rfl, ?_⟩)
    | (refine o_call0 rfl (h1) ⟨SLe.of_eq rfl, SLe.of_eq rfl, True.intro⟩ rfl ?_; rintro _ _ ⟨rfl, rfl⟩; refine ⟨rfl, ?_⟩)
    | (refine o_call0 rfl (h2) ⟨SLe.of_eq rfl, SLe.of_eq rfl, SLe.of_eq rfl, True.intro⟩ rfl ?_; rintro _ _ ⟨rfl, rfl⟩; refine ⟨rfl, ?_⟩)
    | (refine o_call0 rfl (h3) ⟨SLe.of_eq rfl, True.intro⟩ rfl ?_; rintro _ _ ⟨rfl, rfl⟩; refine ⟨rfl, ?_⟩)
    | (refine o_call0 rfl (h4) ⟨SLe.of_eq rfl, True.intro⟩ rfl ?_; rintro _ _ ⟨rfl, rfl⟩; refine ⟨rfl, ?_⟩)
    | (refine o_call0 rfl (l1) ⟨SLe.of_eq rfl, SLe.of_eq rfl, True.intro⟩ rfl ?_; rintro _ _ ⟨rfl, rfl⟩; refine ⟨rfl, ?_⟩)
    | (refine o_call0 rfl (l2) ⟨SLe.of_eq rfl, SLe.of_eq rfl, True.intro⟩ rfl ?_; rintro _ _ ⟨rfl, rfl⟩; refine ⟨rfl, ?_⟩)
    | (refine o_call0 rfl (l3) ⟨SLe.of_eq rfl, SLe.of_eq rfl, True.intro⟩ rfl ?_; rintro _ _ ⟨rfl, rfl⟩; refine ⟨rfl, ?_⟩)
    | (refine o_call0 rfl (l4) ⟨SLe.of_eq rfl, SLe.of_eq rfl, True.intro⟩ rfl ?_; rintro _ _ ⟨rfl, rfl⟩; refine ⟨rfl, ?_⟩)
    | (refine o_call0 rfl (s1) ⟨SLe.of_eq rfl, SLe.of_eq rfl, True.intro⟩ rfl ?_; rintro _ _ ⟨rfl, rfl⟩; refine ⟨rfl, ?_⟩)
    | (refine o_call0 rfl (s2) ⟨SLe.of_eq rfl, SLe.of_eq rfl, True.intro⟩ rfl ?_; rintro _ _ ⟨rfl, rfl⟩; refine ⟨rfl, ?_⟩)
    | (refine o_call0 rfl (haw) True.intro rfl ?_; rintro _ _ ⟨rfl, rfl⟩; refine ⟨rfl, ?_⟩))
  all_goals first | exact end_tmp rfl rfl rfl [] [] (CLe.of_eq rfl) .nil ⟨congrArg AV.b (beq_self_eq_true _), rfl⟩ _ (.inl rfl) | exact absurd rfl hc | trace_state
end Go.Proofs.Ytnmnhnlebkebfaa
