/- slices.Contains of leaves, step.Inserts by rules. -/
import Derived.Test.YtcmgpkibjdbonaaG14Z
import Derived.Test.YtcmgpkibjdbonaaLF2Z
import Derived.Test.YtcmgpkibjdbonaaPS3Z
set_option maxHeartbeats 16000000
set_option maxRecDepth 100000
namespace Go.Proofs.Ytcmgpkibjdbonaa
open Go Go.RowKit
theorem idxL_spec (l : List Lef) (g : Lef) (hl : l.length ≤ 100000) : Spec Try.prog 183 [.sl 65 (l.map Lef.A), g.A] [] (fun v os => v = .i .i64 (if l.any (fun y => eqLf g y) = true then (l.findIdx (fun y => eqLf g y) : Nat) else -1) ∧ os = []) := by
  refine spec_of TtOk [] Try.func183 rfl Try.ntmps183 (by kernel_rfl) rfl rfl (fun C => ?_) rfl
  repeat' (first | refine Awp.seq ?_ | refine Awp.block ?_ | refine Awp.region ?_ | (refine Ops.nil ?_; show Awp _ _ _ _ _) | refine o_len rfl TtOk rfl rfl rfl (fun _ => ?_) | (refine o_calm rfl TtOk rfl rfl rfl ?_ (fun _ => ?_); first | exact True.intro | exact ⟨rfl, rfl, rfl, rfl⟩ | exact ⟨rfl, True.intro⟩ | exact ⟨rfl, rfl⟩ | exact ⟨rfl, rfl, rfl⟩ | exact rfl | exact ⟨fun h0 => by cases h0, rfl⟩ | exact (fun h0 => by cases h0) | exact ⟨rfl, by omega⟩ | exact ⟨Nat.succ_ne_zero _, rfl⟩ | omega) | refine o_box (d := 3) rfl rfl rfl rfl (fun b3 => ?_))
  refine Awp.loop (fun q : Nat => ⟨19, [(8, .i .i64 q), (7, .i .i64 l.length), (6, .sl 65 (l.map Lef.A)), (0, .sl 65 (l.map Lef.A)), (3, .ptr 3 b3 [] 0)], [(3, .var b3 g.A)]⟩) (fun q => q ≤ l.length ∧ ∀ j (h : j < l.length), j < q → eqLf g l[j] = false) (fun q => l.length - q) [] 0 ⟨Nat.zero_le _, fun _ _ h => absurd h (Nat.not_lt_zero _)⟩ ?_ ?_
  · exact ⟨rfl, ⟨sle_i rfl, sle_i rfl, sle_sl rfl, sle_sl rfl, sle_ptr, True.intro⟩, HLe.cons 3 rfl (HOLe.refl _) .nil⟩
  rintro i ⟨hi, hno⟩
  by_cases hlt : i < l.length
  · have hi1 : ((i : Int) + 1 = ((i + 1 : Nat) : Int)) := by omega
    obtain ⟨q, hq⟩ : ∃ q, eqLf g l[i] = q := ⟨_, rfl⟩
    cases q with
    | true =>
      repeat' (first | refine Awp.seq ?_ | refine Awp.block ?_ | refine Awp.region ?_ | (refine Ops.nil ?_; show Awp _ _ _ _ _) | (refine Awp.skip ?_; show Awp _ _ _ _ _) | (refine Awp.ret ?_; show endK _ _ _ _ _) | (refine o_calm rfl TtOk rfl rfl rfl ?_ (fun _ => ?_); first | exact True.intro | exact ⟨rfl, rfl, rfl, rfl⟩ | exact ⟨rfl, True.intro⟩ | exact ⟨rfl, rfl⟩ | exact ⟨rfl, rfl, rfl⟩ | exact rfl | exact ⟨fun h0 => by cases h0, rfl⟩ | exact (fun h0 => by cases h0) | exact ⟨rfl, by omega⟩ | exact ⟨Nat.succ_ne_zero _, rfl⟩ | omega) | (refine o_index rfl TtOk rfl rfl rfl rfl rfl rfl ?_ (getq_nat ?_) ?_; omega; omega) | refine a_condT rfl ?_ | (refine a_condP rfl (fun hc => ?_) (fun hc => ?_)) <;> (try (exfalso; omega)) | refine a_any 4 [] [] [] [1, 2, 3, 0, 4, 5] (by kernel_rfl) (by kernel_rfl) (by kernel_rfl) rfl rfl rfl ?_ | (refine o_eqLefN (p := g) (q := l[i]) rfl rfl rfl rfl ?_; rw [hq]))
      have hm : l.any (fun y => eqLf g y) = true := List.any_eq_true.2 ⟨l[i], List.getElem_mem _, hq⟩
      have hx : l.findIdx (fun y => eqLf g y) = i := by
        rw [List.findIdx_eq hlt]
        exact ⟨hq, fun j hj => hno j (by omega) hj⟩
      refine end_tmp rfl rfl rfl [] [] (CLe.of_eq ?_) .nil ⟨rfl, rfl⟩ _ (.inl rfl)
      rw [if_pos hm, hx]; rfl
    | false =>
      repeat' (first | refine Awp.seq ?_ | refine Awp.block ?_ | refine Awp.region ?_ | (refine Ops.nil ?_; show Awp _ _ _ _ _) | (refine Ops.nil ?_; show Exists _) | (refine Awp.skip ?_; show Awp _ _ _ _ _) | (refine o_add rfl rfl rfl rfl ?_ ?_; omega) | (refine o_calm rfl TtOk rfl rfl rfl ?_ (fun _ => ?_); first | exact True.intro | exact ⟨rfl, rfl, rfl, rfl⟩ | exact ⟨rfl, True.intro⟩ | exact ⟨rfl, rfl⟩ | exact ⟨rfl, rfl, rfl⟩ | exact rfl | exact ⟨fun h0 => by cases h0, rfl⟩ | exact (fun h0 => by cases h0) | exact ⟨rfl, by omega⟩ | exact ⟨Nat.succ_ne_zero _, rfl⟩ | omega) | (refine o_index rfl TtOk rfl rfl rfl rfl rfl rfl ?_ (getq_nat ?_) ?_; omega; omega) | refine a_condF rfl ?_ | (refine a_condP rfl (fun hc => ?_) (fun hc => ?_)) <;> (try (exfalso; omega)) | refine a_any 4 [] [] [] [1, 2, 3, 0, 4, 5] (by kernel_rfl) (by kernel_rfl) (by kernel_rfl) rfl rfl rfl ?_ | (refine o_eqLefN (p := g) (q := l[i]) rfl rfl rfl rfl ?_; rw [hq]))
      exact ⟨i + 1, [], ⟨hlt, fun j h hj => by
        rcases Nat.lt_succ_iff_lt_or_eq.1 hj with h2 | rfl
        · exact hno j h h2
        · exact hq⟩, by show l.length - (i + 1) < l.length - i; omega, rfl, ⟨sle_i hi1, sle_i rfl, sle_sl rfl, sle_sl rfl, sle_ptr, True.intro⟩, HLe.cons 3 rfl (HOLe.refl _) .nil⟩
  · have hm : ¬ l.any (fun y => eqLf g y) = true := by
      intro h
      obtain ⟨x, hx, hxp⟩ := List.any_eq_true.1 h
      obtain ⟨j, hj, rfl⟩ := List.getElem_of_mem hx
      rw [hno j hj (by omega)] at hxp; cases hxp
    rw [if_neg hm]
    repeat' (first | refine Awp.seq ?_ | refine Awp.region ?_ | (refine Ops.nil ?_; show Awp _ _ _ _ _) | (refine Awp.exit ?_; show Awp _ _ _ _ _) | (refine Awp.ret ?_; show endK _ _ _ _ _) | (refine o_calm rfl TtOk rfl rfl rfl ?_ (fun _ => ?_); first | exact True.intro | exact ⟨rfl, rfl, rfl, rfl⟩ | exact ⟨rfl, True.intro⟩ | exact ⟨rfl, rfl⟩ | exact ⟨rfl, rfl, rfl⟩ | exact rfl | exact ⟨fun h0 => by cases h0, rfl⟩ | exact (fun h0 => by cases h0) | exact ⟨rfl, by omega⟩ | exact ⟨Nat.succ_ne_zero _, rfl⟩ | omega) | (refine a_condP rfl (fun hc => ?_) (fun hc => ?_)) <;> (try (exfalso; omega)))
    exact end_tmp rfl rfl rfl [] [] (CLe.of_eq rfl) .nil ⟨rfl, rfl⟩ _ (.inl rfl)
theorem conL_spec (l : List Lef) (g : Lef) (hl : l.length ≤ 100000) : Spec Try.prog 148 [.sl 65 (l.map Lef.A), g.A] [] (fun v os => v = .b (l.any (fun y => eqLf g y)) ∧ os = []) := by
  refine spec_of TtOk [] Try.func148 rfl Try.ntmps148 (by kernel_rfl) rfl rfl (fun C => ?_) rfl
  have h1 := idxL_spec l g hl
  cases hm : l.any (fun y => eqLf g y) with
  | true =>
    rw [if_pos hm] at h1
    generalize l.findIdx (fun y => eqLf g y) = i at h1
    repeat' (first | refine Awp.seq ?_ | refine Awp.region ?_ | (refine Ops.nil ?_; show Awp _ _ _ _ _) | (refine Awp.ret ?_; show endK _ _ _ _ _) | (refine o_calm rfl TtOk rfl rfl rfl ?_ (fun _ => ?_); first | exact True.intro | exact ⟨rfl, rfl, rfl, rfl⟩ | exact ⟨rfl, True.intro⟩ | exact ⟨rfl, rfl⟩ | exact ⟨rfl, rfl, rfl⟩ | exact rfl | exact ⟨fun h0 => by cases h0, rfl⟩ | exact (fun h0 => by cases h0) | exact ⟨rfl, by omega⟩ | exact ⟨Nat.succ_ne_zero _, rfl⟩ | omega) | refine o_box (d := 3) rfl rfl rfl rfl (fun b3 => ?_) | (refine o_call0 rfl (h1) ⟨SLe.of_eq rfl, SLe.of_eq rfl, True.intro⟩ rfl ?_; rintro _ _ ⟨rfl, rfl⟩; refine ⟨rfl, ?_⟩))
    refine end_tmp rfl rfl rfl [] [] (CLe.of_eq ?_) .nil ⟨rfl, rfl⟩ _ (.inl rfl)
    exact congrArg AV.b (decide_eq_true (by omega))
  | false =>
    rw [if_neg (by rw [hm]; decide)] at h1
    repeat' (first | refine Awp.seq ?_ | refine Awp.region ?_ | (refine Ops.nil ?_; show Awp _ _ _ _ _) | (refine Awp.ret ?_; show endK _ _ _ _ _) | (refine o_calm rfl TtOk rfl rfl rfl ?_ (fun _ => ?_); first | exact True.intro | exact ⟨rfl, rfl, rfl, rfl⟩ | exact ⟨rfl, True.intro⟩ | exact ⟨rfl, rfl⟩ | exact ⟨rfl, rfl, rfl⟩ | exact rfl | exact ⟨fun h0 => by cases h0, rfl⟩ | exact (fun h0 => by cases h0) | exact ⟨rfl, by omega⟩ | exact ⟨Nat.succ_ne_zero _, rfl⟩ | omega) | refine o_box (d := 3) rfl rfl rfl rfl (fun b3 => ?_) | (refine o_call0 rfl (h1) ⟨SLe.of_eq rfl, SLe.of_eq rfl, True.intro⟩ rfl ?_; rintro _ _ ⟨rfl, rfl⟩; refine ⟨rfl, ?_⟩))
    exact end_tmp rfl rfl rfl [] [] (CLe.of_eq rfl) .nil ⟨rfl, rfl⟩ _ (.inl rfl)
def insN (s : Stp) (ep : Int) (x : Lef) : Bool := s.old.any (fun y => eqLf x y) || x.t == ep
def insF (s : Stp) (ep : Int) : Bool := s.old.all (fun x => s.new.any (fun y => eqLf x y)) && s.new.all (insN s ep)
theorem sins_spec (s : Stp) (ep : Int) (ho : s.old.length ≤ 100000) (hn : s.new.length ≤ 100000) : Spec Try.prog 83 [s.A, .i .i64 ep] [] (fun v os => v = .b (insF s ep) ∧ os = []) := by
  obtain ⟨same, old, new⟩ := s
  dsimp only at ho hn
  obtain ⟨W, hW⟩ : ∃ W, insF ⟨same, old, new⟩ ep = W := ⟨_, rfl⟩
  rw [hW]
  have hW : (old.all (fun x => new.any (fun y => eqLf x y)) && new.all (insN ⟨same, old, new⟩ ep)) = W := hW
  have hN : ∀ x, insN ⟨same, old, new⟩ ep x = (old.any (fun y => eqLf x y) || x.t == ep) := fun _ => rfl
  generalize insN ⟨same, old, new⟩ ep = nf at *
  show Spec Try.prog 83 [.agg [.sl 66 (same.map Itm.A), .sl 65 (old.map Lef.A), .sl 65 (new.map Lef.A)], .i .i64 ep] [] _
  refine spec_of TtOk [] Try.func83 rfl Try.ntmps83 (by kernel_rfl) rfl rfl (fun C => ?_) rfl
  repeat' (first | refine Awp.seq ?_ | refine Awp.block ?_ | refine Awp.region ?_ | (refine Ops.nil ?_; show Awp _ _ _ _ _) | refine o_len rfl TtOk rfl rfl rfl (fun _ => ?_) | (refine o_calm rfl TtOk rfl rfl rfl ?_ (fun _ => ?_); first | exact True.intro | exact ⟨rfl, rfl, rfl, rfl⟩ | exact ⟨rfl, True.intro⟩ | exact ⟨rfl, rfl⟩ | exact ⟨rfl, rfl, rfl⟩ | exact rfl | exact ⟨fun h0 => by cases h0, rfl⟩ | exact (fun h0 => by cases h0) | exact ⟨rfl, by omega⟩ | exact ⟨Nat.succ_ne_zero _, rfl⟩ | omega) | refine o_box (d := 2) rfl rfl rfl rfl (fun b2 => ?_))
  refine Awp.loop (fun i : Nat => ⟨41, [(12, .i .i64 i), (11, .i .i64 old.length), (10, .sl 65 (old.map Lef.A)), (2, .ptr 2 b2 [] 0), (1, .i .i64 ep)], [(2, .var b2 (.agg [.sl 66 (same.map Itm.A), .sl 65 (old.map Lef.A), .sl 65 (new.map Lef.A)]))]⟩) (fun i => i ≤ old.length ∧ ∀ j (h : j < old.length), j < i → new.any (fun y => eqLf old[j] y) = true) (fun i => old.length - i) [] 0 ⟨Nat.zero_le _, fun _ _ h => absurd h (Nat.not_lt_zero _)⟩ ?_ ?_
  · exact ⟨rfl, ⟨sle_i rfl, sle_i rfl, sle_sl rfl, sle_ptr, sle_i rfl, True.intro⟩, HLe.cons 2 rfl (HOLe.refl _) .nil⟩
  rintro i ⟨hi, hin⟩
  by_cases hlt : i < old.length
  · have hi1 : ((i : Int) + 1 = ((i + 1 : Nat) : Int)) := by omega
    have hcn := conL_spec new old[i] hn
    cases ha : new.any (fun y => eqLf old[i] y) with
    | true =>
      rw [ha] at hcn
      repeat' (first | refine Awp.seq ?_ | refine Awp.block ?_ | refine Awp.region ?_ | (refine Ops.nil ?_; show Awp _ _ _ _ _) | (refine Ops.nil ?_; show Exists _) | (refine Awp.skip ?_; show Awp _ _ _ _ _) | (refine o_add rfl rfl rfl rfl ?_ ?_; omega) | (refine o_calm rfl TtOk rfl rfl rfl ?_ (fun _ => ?_); first | exact True.intro | exact ⟨rfl, rfl, rfl, rfl⟩ | exact ⟨rfl, True.intro⟩ | exact ⟨rfl, rfl⟩ | exact ⟨rfl, rfl, rfl⟩ | exact rfl | exact ⟨fun h0 => by cases h0, rfl⟩ | exact (fun h0 => by cases h0) | exact ⟨rfl, by omega⟩ | exact ⟨Nat.succ_ne_zero _, rfl⟩ | omega) | refine o_alloc (d := 6) rfl TtOk rfl rfl rfl (fun b6 => ?_) | refine o_store TtOk rfl rfl rfl rfl rfl rfl rfl ⟨rfl, rfl⟩ rfl rfl rfl rfl rfl ?_ | (refine o_index rfl TtOk rfl rfl rfl rfl rfl rfl ?_ (getq_nat ?_) ?_; omega; omega) | refine a_condF rfl ?_ | (refine a_condP rfl (fun hc => ?_) (fun hc => ?_)) <;> (try (exfalso; omega)) | (refine o_call0 rfl (hcn) ⟨SLe.of_eq rfl, SLe.of_eq rfl, True.intro⟩ rfl ?_; rintro _ _ ⟨rfl, rfl⟩; refine ⟨rfl, ?_⟩))
      all_goals
        exact ⟨i + 1, [], ⟨hlt, fun j h hj => by
          rcases Nat.lt_succ_iff_lt_or_eq.1 hj with h2 | rfl
          · exact hin j h h2
          · exact ha⟩, by omega, rfl, ⟨sle_i hi1, sle_i rfl, sle_sl rfl, sle_ptr, sle_i rfl, True.intro⟩, HLe.cons 2 rfl (HOLe.refl _) .nil⟩
    | false =>
      rw [ha] at hcn
      have hal : old.all (fun x => new.any (fun y => eqLf x y)) = false := by
        rw [List.all_eq_false]
        exact ⟨old[i], List.getElem_mem hlt, by rw [ha]; decide⟩
      rw [hal, Bool.false_and] at hW
      subst hW
      repeat' (first | refine Awp.seq ?_ | refine Awp.block ?_ | refine Awp.region ?_ | (refine Ops.nil ?_; show Awp _ _ _ _ _) | (refine Awp.skip ?_; show Awp _ _ _ _ _) | (refine Awp.ret ?_; show endK _ _ _ _ _) | (refine o_calm rfl TtOk rfl rfl rfl ?_ (fun _ => ?_); first | exact True.intro | exact ⟨rfl, rfl, rfl, rfl⟩ | exact ⟨rfl, True.intro⟩ | exact ⟨rfl, rfl⟩ | exact ⟨rfl, rfl, rfl⟩ | exact rfl | exact ⟨fun h0 => by cases h0, rfl⟩ | exact (fun h0 => by cases h0) | exact ⟨rfl, by omega⟩ | exact ⟨Nat.succ_ne_zero _, rfl⟩ | omega) | refine o_alloc (d := 6) rfl TtOk rfl rfl rfl (fun b6 => ?_) | refine o_store TtOk rfl rfl rfl rfl rfl rfl rfl ⟨rfl, rfl⟩ rfl rfl rfl rfl rfl ?_ | (refine o_index rfl TtOk rfl rfl rfl rfl rfl rfl ?_ (getq_nat ?_) ?_; omega; omega) | refine a_condT rfl ?_ | (refine a_condP rfl (fun hc => ?_) (fun hc => ?_)) <;> (try (exfalso; omega)) | (refine o_call0 rfl (hcn) ⟨SLe.of_eq rfl, SLe.of_eq rfl, True.intro⟩ rfl ?_; rintro _ _ ⟨rfl, rfl⟩; refine ⟨rfl, ?_⟩))
      all_goals exact end_tmp rfl rfl rfl [] [] (CLe.of_eq rfl) .nil ⟨rfl, rfl⟩ _ (.inl rfl)
  have hie : i = old.length := by omega
  have hal : old.all (fun x => new.any (fun y => eqLf x y)) = true := by
    rw [List.all_eq_true]
    intro g hgm
    obtain ⟨j, hj, rfl⟩ := List.getElem_of_mem hgm
    exact hin j hj (by omega)
  rw [hal, Bool.true_and] at hW
  clear hin hal
  subst hie
  repeat' (first | refine Awp.seq ?_ | refine Awp.block ?_ | refine Awp.region ?_ | (refine Ops.nil ?_; show Awp _ _ _ _ _) | (refine Awp.exit ?_; show Awp _ _ _ _ _) | refine o_len rfl TtOk rfl rfl rfl (fun _ => ?_) | (refine o_calm rfl TtOk rfl rfl rfl ?_ (fun _ => ?_); first | exact True.intro | exact ⟨rfl, rfl, rfl, rfl⟩ | exact ⟨rfl, True.intro⟩ | exact ⟨rfl, rfl⟩ | exact ⟨rfl, rfl, rfl⟩ | exact rfl | exact ⟨fun h0 => by cases h0, rfl⟩ | exact (fun h0 => by cases h0) | exact ⟨rfl, by omega⟩ | exact ⟨Nat.succ_ne_zero _, rfl⟩ | omega) | (refine a_condP rfl (fun hc => ?_) (fun hc => ?_)) <;> (try (exfalso; omega)))
  refine Awp.loop (fun i : Nat => ⟨41, [(25, .i .i64 i), (24, .i .i64 new.length), (23, .sl 65 (new.map Lef.A)), (2, .ptr 2 b2 [] 0), (1, .i .i64 ep)], [(2, .var b2 (.agg [.sl 66 (same.map Itm.A), .sl 65 (old.map Lef.A), .sl 65 (new.map Lef.A)]))]⟩) (fun i => i ≤ new.length ∧ ∀ j (h : j < new.length), j < i → nf new[j] = true) (fun i => new.length - i) [] 0 ⟨Nat.zero_le _, fun _ _ h => absurd h (Nat.not_lt_zero _)⟩ ?_ ?_
  · exact ⟨rfl, ⟨sle_i rfl, sle_i rfl, sle_sl rfl, sle_ptr, sle_i rfl, True.intro⟩, HLe.cons 2 rfl (HOLe.refl _) .nil⟩
  rintro i ⟨hi, hin⟩
  by_cases hlt : i < new.length
  · have hi1 : ((i : Int) + 1 = ((i + 1 : Nat) : Int)) := by omega
    have hcn := conL_spec old new[i] ho
    have hNi := hN new[i]
    have hnx : nf new[i] = true → ∀ j (h : j < new.length), j < i + 1 → nf new[j] = true := fun hx j h hj => by
      rcases Nat.lt_succ_iff_lt_or_eq.1 hj with h2 | rfl
      · exact hin j h h2
      · exact hx
    generalize old.any (fun y => eqLf new[i] y) = a at hcn hNi
    cases a with
    | true =>
      rw [Bool.true_or] at hNi
      repeat' (first | refine Awp.seq ?_ | refine Awp.block ?_ | refine Awp.region ?_ | (refine Ops.nil ?_; show Awp _ _ _ _ _) | (refine Ops.nil ?_; show Exists _) | (refine Awp.skip ?_; show Awp _ _ _ _ _) | refine o_offT rfl rfl rfl (by first | exact .inl rfl | exact .inr rfl) ?_ | (refine o_add rfl rfl rfl rfl ?_ ?_; omega) | (refine o_calm rfl TtOk rfl rfl rfl ?_ (fun _ => ?_); first | exact True.intro | exact ⟨rfl, rfl, rfl, rfl⟩ | exact ⟨rfl, True.intro⟩ | exact ⟨rfl, rfl⟩ | exact ⟨rfl, rfl, rfl⟩ | exact rfl | exact ⟨fun h0 => by cases h0, rfl⟩ | exact (fun h0 => by cases h0) | exact ⟨rfl, by omega⟩ | exact ⟨Nat.succ_ne_zero _, rfl⟩ | omega) | refine o_alloc (d := 8) rfl TtOk rfl rfl rfl (fun b8 => ?_) | refine o_store TtOk rfl rfl rfl rfl rfl rfl rfl ⟨rfl, rfl⟩ rfl rfl rfl rfl rfl ?_ | (refine o_index rfl TtOk rfl rfl rfl rfl rfl rfl ?_ (getq_nat ?_) ?_; omega; omega) | refine a_condF rfl ?_ | (refine a_condP rfl (fun hc => ?_) (fun hc => ?_)) <;> (try (exfalso; omega)) | (refine o_call0 rfl (hcn) ⟨SLe.of_eq rfl, SLe.of_eq rfl, True.intro⟩ rfl ?_; rintro _ _ ⟨rfl, rfl⟩; refine ⟨rfl, ?_⟩))
      all_goals exact ⟨i + 1, [], ⟨hlt, hnx hNi⟩, by omega, rfl, ⟨sle_i hi1, sle_i rfl, sle_sl rfl, sle_ptr, sle_i rfl, True.intro⟩, HLe.cons 2 rfl (HOLe.refl _) .nil⟩
    | false =>
      rw [Bool.false_or] at hNi
      by_cases he : new[i].t = ep
      · have hx : nf new[i] = true := by rw [hNi, he]; exact beq_self_eq_true _
        repeat' (first | refine Awp.seq ?_ | refine Awp.block ?_ | refine Awp.region ?_ | (refine Ops.nil ?_; show Awp _ _ _ _ _) | (refine Ops.nil ?_; show Exists _) | (refine Awp.skip ?_; show Awp _ _ _ _ _) | (refine o_add rfl rfl rfl rfl ?_ ?_; omega) | (refine o_calm rfl TtOk rfl rfl rfl ?_ (fun _ => ?_); first | exact True.intro | exact ⟨rfl, rfl, rfl, rfl⟩ | exact ⟨rfl, True.intro⟩ | exact ⟨rfl, rfl⟩ | exact ⟨rfl, rfl, rfl⟩ | exact rfl | exact ⟨fun h0 => by cases h0, rfl⟩ | exact (fun h0 => by cases h0) | exact ⟨rfl, by omega⟩ | exact ⟨Nat.succ_ne_zero _, rfl⟩ | omega) | refine o_alloc (d := 8) rfl TtOk rfl rfl rfl (fun b8 => ?_) | refine o_store TtOk rfl rfl rfl rfl rfl rfl rfl ⟨rfl, rfl⟩ rfl rfl rfl rfl rfl ?_ | (refine o_index rfl TtOk rfl rfl rfl rfl rfl rfl ?_ (getq_nat ?_) ?_; omega; omega) | (refine a_condP rfl (fun hc => ?_) (fun hc => ?_)) <;> (try (exfalso; omega)) | (refine a_condN rfl (fun hc => ?_) (fun hc => ?_)) <;> (try (exfalso; omega)) | (refine o_call0 rfl (hcn) ⟨SLe.of_eq rfl, SLe.of_eq rfl, True.intro⟩ rfl ?_; rintro _ _ ⟨rfl, rfl⟩; refine ⟨rfl, ?_⟩))
        all_goals exact ⟨i + 1, [], ⟨hlt, hnx hx⟩, by omega, rfl, ⟨sle_i hi1, sle_i rfl, sle_sl rfl, sle_ptr, sle_i rfl, True.intro⟩, HLe.cons 2 rfl (HOLe.refl _) .nil⟩
      · have hx : nf new[i] = false := by rw [hNi]; exact beq_eq_false_iff_ne.2 he
        have hal : new.all nf = false := by
          rw [List.all_eq_false]
          exact ⟨new[i], List.getElem_mem hlt, by rw [hx]; decide⟩
        rw [hal] at hW
        subst hW
        repeat' (first | refine Awp.seq ?_ | refine Awp.block ?_ | refine Awp.region ?_ | (refine Ops.nil ?_; show Awp _ _ _ _ _) | (refine Awp.skip ?_; show Awp _ _ _ _ _) | (refine Awp.ret ?_; show endK _ _ _ _ _) | (refine o_calm rfl TtOk rfl rfl rfl ?_ (fun _ => ?_); first | exact True.intro | exact ⟨rfl, rfl, rfl, rfl⟩ | exact ⟨rfl, True.intro⟩ | exact ⟨rfl, rfl⟩ | exact ⟨rfl, rfl, rfl⟩ | exact rfl | exact ⟨fun h0 => by cases h0, rfl⟩ | exact (fun h0 => by cases h0) | exact ⟨rfl, by omega⟩ | exact ⟨Nat.succ_ne_zero _, rfl⟩ | omega) | refine o_alloc (d := 8) rfl TtOk rfl rfl rfl (fun b8 => ?_) | refine o_store TtOk rfl rfl rfl rfl rfl rfl rfl ⟨rfl, rfl⟩ rfl rfl rfl rfl rfl ?_ | (refine o_index rfl TtOk rfl rfl rfl rfl rfl rfl ?_ (getq_nat ?_) ?_; omega; omega) | (refine a_condP rfl (fun hc => ?_) (fun hc => ?_)) <;> (try (exfalso; omega)) | (refine a_condN rfl (fun hc => ?_) (fun hc => ?_)) <;> (try (exfalso; omega)) | (refine o_call0 rfl (hcn) ⟨SLe.of_eq rfl, SLe.of_eq rfl, True.intro⟩ rfl ?_; rintro _ _ ⟨rfl, rfl⟩; refine ⟨rfl, ?_⟩))
        all_goals exact end_tmp rfl rfl rfl [] [] (CLe.of_eq rfl) .nil ⟨rfl, rfl⟩ _ (.inl rfl)
  · have hal : new.all nf = true := by
      rw [List.all_eq_true]
      intro g hgm
      obtain ⟨j, hj, rfl⟩ := List.getElem_of_mem hgm
      exact hin j hj (by omega)
    rw [hal] at hW
    subst hW
    repeat' (first | refine Awp.seq ?_ | refine Awp.region ?_ | (refine Ops.nil ?_; show Awp _ _ _ _ _) | (refine Awp.exit ?_; show Awp _ _ _ _ _) | (refine Awp.ret ?_; show endK _ _ _ _ _) | (refine o_calm rfl TtOk rfl rfl rfl ?_ (fun _ => ?_); first | exact True.intro | exact ⟨rfl, rfl, rfl, rfl⟩ | exact ⟨rfl, True.intro⟩ | exact ⟨rfl, rfl⟩ | exact ⟨rfl, rfl, rfl⟩ | exact rfl | exact ⟨fun h0 => by cases h0, rfl⟩ | exact (fun h0 => by cases h0) | exact ⟨rfl, by omega⟩ | exact ⟨Nat.succ_ne_zero _, rfl⟩ | omega) | (refine a_condP rfl (fun hc => ?_) (fun hc => ?_)) <;> (try (exfalso; omega)))
    all_goals exact end_tmp rfl rfl rfl [] [] (CLe.of_eq rfl) .nil ⟨rfl, rfl⟩ _ (.inl rfl)
end Go.Proofs.Ytcmgpkibjdbonaa
set_option maxHeartbeats 16000000
set_option maxRecDepth 100000
namespace Go.Proofs.Ytcmgpkibjdbonaa
open Go Go.RowKit
def awB19 : Lef := ⟨labC 128, List.replicate 32 0, 4⟩
def awa19 : List Lef := [lef0]
def awb19 : List Lef := [awB19]
theorem aw19_e : (smk awa19 [] awb19).2 = 0 := by decide +kernel
theorem aw19_s : (smk awa19 [] awb19).1.same.length = 0 := by decide +kernel
theorem aw19_o : (smk awa19 [] awb19).1.old.length = 1 := by decide +kernel
theorem aw19_n : (smk awa19 [] awb19).1.new.length = 2 := by decide +kernel
theorem aw19_4 : insF (smk awa19 [] awb19).1 4 = true := by decide +kernel
theorem aw19_5 : insF (smk awa19 [] awb19).1 5 = false := by decide +kernel
theorem aw19_oka : ∀ x ∈ awa19, x.ok := fun x hx => by rw [List.mem_singleton.1 hx]; exact ⟨rfl, rfl⟩
theorem aw19_okb : ∀ x ∈ awb19, x.ok := fun x hx => by rw [List.mem_singleton.1 hx]; exact ⟨rfl, rfl⟩
theorem awake19_spec : Spec Try.prog 24 [] [] (fun v os => v = .b true ∧ os = []) := by
  have k1 := smake_spec awa19 [] awb19 (by decide) (Nat.zero_le _) (by decide) aw19_oka (fun x hx => by cases hx) aw19_okb
  have hl := mk_leads (gone := []) aw19_oka (fun x hx => by cases hx) aw19_okb (by decide) (by decide) aw19_e
  have hokM : ∀ x ∈ awa19 ++ awb19, x.ok := fun x hx => by
    rcases List.mem_append.1 hx with hx | hx
    · exact aw19_oka x hx
    · exact aw19_okb x hx
  have k2 := of_spec awa19 (by decide) aw19_oka
  have k3 := top_spec (itmsL awa19) (by rw [itmsL_len]; decide) (itmsL_ok aw19_oka)
  have k4 := of_spec (awa19 ++ awb19) (by decide) hokM
  have k5 := top_spec (itmsL (awa19 ++ awb19)) (by rw [itmsL_len]; decide) (itmsL_ok hokM)
  obtain ⟨l1, Sm, Ol, Nw, l2, l3⟩ := hl
  have hb := l3.beh
  have ht := l3.taken (by decide) (by decide)
  rw [beh_nil] at hb ht
  rw [hb] at k5
  rw [show chkI (itmsL awa19) = 0 from l1] at k3
  have hs := aw19_s
  have ho := aw19_o
  have hn := aw19_n
  have h4 := aw19_4
  have h5 := aw19_5
  rw [aw19_e] at k1
  rw [l2] at k1 hs ho hn h4 h5
  dsimp only at hs ho hn
  have oks : (⟨Sm, Ol, Nw⟩ : Stp).ok := ⟨l3.okS, fun x hx => aw19_oka x (l3.inO x hx), l3.okN⟩
  have k6 := scheck_spec (topS (itmsL awa19)) (topS (itmsL (awa19 ++ awb19))) ⟨Sm, Ol, Nw⟩ (by show Sm.length ≤ 50000; omega) (by show Ol.length ≤ 50000; omega) (by show Nw.length ≤ 50000; omega) oks (topS_len _ (itmsL_ok aw19_oka)) (topS_len _ (itmsL_ok hokM))
  rw [ht] at k6
  have k7 := sins_spec ⟨Sm, Ol, Nw⟩ 4 (by show Ol.length ≤ 100000; omega) (by show Nw.length ≤ 100000; omega)
  have k8 := sins_spec ⟨Sm, Ol, Nw⟩ 5 (by show Ol.length ≤ 100000; omega) (by show Nw.length ≤ 100000; omega)
  rw [h4] at k7
  rw [h5] at k8
  have hA : (⟨Sm, Ol, Nw⟩ : Stp).A = .agg [.sl 66 (Sm.map Itm.A), .sl 65 (Ol.map Lef.A), .sl 65 (Nw.map Lef.A)] := rfl
  rw [hA] at k1 k6 k7 k8
  clear l1 l2 l3 hb ht h4 h5 oks hA hokM
  generalize topS (itmsL awa19) = t1 at *
  generalize topS (itmsL (awa19 ++ awb19)) = t2 at *
  generalize itmsL awa19 = I1 at *
  generalize itmsL (awa19 ++ awb19) = I2 at *
  have m1 : awa19.map Lef.A = [.agg [labA (List.replicate 32 0), labA (List.replicate 32 0), .i .i64 0]] := rfl
  have m2 : awb19.map Lef.A = [.agg [labA (labC 128), labA (List.replicate 32 0), .i .i64 4]] := rfl
  have m3 : (awa19 ++ awb19).map Lef.A = [.agg [labA (List.replicate 32 0), labA (List.replicate 32 0), .i .i64 0], .agg [labA (labC 128), labA (List.replicate 32 0), .i .i64 4]] := rfl
  rw [m1, m2] at k1
  rw [m1] at k2
  rw [m3] at k4
  refine spec_of TtOk [] Try.func24 rfl Try.ntmps24 (by kernel_rfl) rfl rfl (fun C => ?_) rfl
  repeat' (first | (refine o_freezeR 30 30 rfl rfl rfl ?_) | (refine o_freezeR 22 22 rfl rfl rfl ?_) | (refine o_freezeR 16 16 rfl rfl rfl ?_) | (refine o_freezeR 14 14 rfl rfl rfl ?_) | refine Awp.seq ?_ | refine Awp.region ?_ | (refine Ops.nil ?_; show Awp _ _ _ _ _) | (refine Awp.ret ?_; show endK _ _ _ _ _) | refine o_len rfl TtOk rfl rfl rfl (fun _ => ?_) | (refine o_calm rfl TtOk rfl rfl rfl ?_ (fun _ => ?_); first | exact True.intro | exact ⟨rfl, rfl, rfl, rfl⟩ | exact ⟨rfl, True.intro⟩ | exact ⟨rfl, rfl⟩ | exact ⟨rfl, rfl, rfl⟩ | exact rfl | exact ⟨fun h0 => by cases h0, rfl⟩ | exact (fun h0 => by cases h0) | exact ⟨rfl, by omega⟩ | exact ⟨Nat.succ_ne_zero _, rfl⟩ | omega) | refine o_alloc (d := 1) rfl TtOk rfl rfl rfl (fun b1 => ?_) | refine o_alloc (d := 2) rfl TtOk rfl rfl rfl (fun b2 => ?_) | refine o_alloc (d := 3) rfl TtOk rfl rfl rfl (fun b3 => ?_) | refine o_alloc (d := 5) rfl TtOk rfl rfl rfl (fun b5 => ?_) | refine o_alloc (d := 7) rfl TtOk rfl rfl rfl (fun b7 => ?_) | refine o_store TtOk rfl rfl rfl rfl rfl rfl rfl ⟨rfl, rfl⟩ rfl rfl rfl rfl rfl ?_ | refine o_build TtOk rfl rfl rfl rfl rfl rfl (by repeat' (first | exact True.intro | exact rfl | refine ⟨?_, ?_⟩)) ?_ | refine o_buildSlice TtOk rfl rfl rfl rfl rfl rfl rfl rfl rfl rfl rfl (by repeat' (first | exact True.intro | exact rfl | refine ⟨?_, ?_⟩)) (fun _ => ?_) | (fail_if_success (refine o_isLit rfl (by first | exact .inl rfl | exact .inr rfl) ?_)); (refine o_splitP rfl rfl (fun hc => ?_) (fun hc => ?_) <;> try (exfalso; omega)) | (refine o_buildArr TtOk rfl ((labC 128).map byA) rfl rfl rfl (by kernel_rfl) rfl rfl ?_) | (refine o_call0 rfl k1 ⟨SLe.of_eq rfl, sle_nilsl, SLe.of_eq rfl, True.intro⟩ rfl ?_; rintro _ _ ⟨rfl, rfl⟩; refine ⟨rfl, ?_⟩) | (refine o_call0 rfl (k2) ⟨SLe.of_eq rfl, True.intro⟩ rfl ?_; rintro _ _ ⟨rfl, rfl⟩; refine ⟨rfl, ?_⟩) | (refine o_call0 rfl (k3) ⟨SLe.of_eq rfl, True.intro⟩ rfl ?_; rintro _ _ ⟨rfl, rfl⟩; refine ⟨rfl, ?_⟩) | (refine o_call0 rfl (k4) ⟨SLe.of_eq rfl, True.intro⟩ rfl ?_; rintro _ _ ⟨rfl, rfl⟩; refine ⟨rfl, ?_⟩) | (refine o_call0 rfl (k5) ⟨SLe.of_eq rfl, True.intro⟩ rfl ?_; rintro _ _ ⟨rfl, rfl⟩; refine ⟨rfl, ?_⟩) | (refine o_call0 rfl (k6) ⟨SLe.of_eq rfl, SLe.of_eq rfl, SLe.of_eq rfl, True.intro⟩ rfl ?_; rintro _ _ ⟨rfl, rfl⟩; refine ⟨rfl, ?_⟩) | (refine o_call0 rfl (k7) ⟨SLe.of_eq rfl, SLe.of_eq rfl, True.intro⟩ rfl ?_; rintro _ _ ⟨rfl, rfl⟩; refine ⟨rfl, ?_⟩) | (refine o_call0 rfl (k8) ⟨SLe.of_eq rfl, SLe.of_eq rfl, True.intro⟩ rfl ?_; rintro _ _ ⟨rfl, rfl⟩; refine ⟨rfl, ?_⟩))
  all_goals exact end_tmp rfl rfl rfl [] [] (CLe.of_eq rfl) .nil ⟨rfl, rfl⟩ _ (.inl rfl)
end Go.Proofs.Ytcmgpkibjdbonaa
set_option maxHeartbeats 16000000
set_option maxRecDepth 100000
namespace Go.Proofs.Ytcmgpkibjdbonaa
open Go Go.RowKit
end Go.Proofs.Ytcmgpkibjdbonaa
