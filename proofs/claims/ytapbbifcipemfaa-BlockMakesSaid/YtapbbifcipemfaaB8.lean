/- law09.BlockMakes by rules. -/
import Derived.Test.YtapbbifcipemfaaB7
set_option maxHeartbeats 8000000
namespace Go.Proofs.Ytapbbifcipemfaa
open Go Go.RowKit
theorem bmakes_spec (l : List Etr) (hl : l.length ≤ 9223372036854775807) : Spec Try.prog 6 [.sl 3 (l.map eA)] [] (fun v os => v = .b true ∧ os = []) := by
  refine spec_of TtOk [] Try.func6 rfl Try.ntmps6 (by kernel_rfl) rfl rfl (fun C => ?_) rfl
  have hfw := few9_spec l hl 270 (by decide)
  have hfl := few9_len l 270
  have hfm := few9_mem l 270
  generalize few9 l 270 = L at hfw hfl hfm
  have hmk := bmake_spec L (by omega) hfm
  have hrm := rmake9_spec L (by omega) hfm
  have hb : ∀ e ∈ L, e.k.length ≤ 1000000000000 ∧ e.v.length ≤ 1000000000000 := fun e he => ⟨Nat.le_trans (hfm e he).1 (by decide), Nat.le_trans (hfm e he).2 (by decide)⟩
  have hck := check_spec9 L (by omega) hb
  have hrc := rcheck9_spec L (by omega) hb
  generalize make9 L = q at hmk hrm
  obtain ⟨qs, qe⟩ := q
  dsimp only at hmk hrm
  generalize checkN L = c at hck hrc
  repeat' (first
    | refine Awp.seq ?_
    | refine Awp.region ?_
    | (refine Ops.nil ?_; show Awp _ _ _ _ _)
    | (refine Ops.nil ?_; show Exists _)
    | (refine Ops.nil ?_; show endK _ _ _ _ _)
    | (refine Awp.ret ?_; show endK _ _ _ _ _)
    | refine o_noT rfl rfl rfl ?_
    | refine o_noU rfl rfl rfl ?_
    | refine o_noF rfl rfl rfl ?_
    | (refine o_calm rfl TtOk rfl rfl rfl ?_ (fun _ => ?_); first | exact True.intro | exact ⟨rfl, rfl, rfl, rfl⟩ | exact ⟨rfl, True.intro⟩ | exact ⟨rfl, rfl⟩ | exact ⟨rfl, rfl, rfl⟩ | exact rfl | exact ⟨fun h0 => by cases h0, rfl⟩ | exact (fun h0 => by cases h0) | exact ⟨rfl, by omega⟩ | exact ⟨Nat.succ_ne_zero _, rfl⟩ | omega)
    | refine o_eqNil TtOk rfl rfl rfl rfl rfl ?_
    | refine o_eqArr8 TtOk rfl rfl rfl rfl rfl rfl (by kernel_rfl) ?_
    | (fail_if_success (refine o_isLit rfl (by first | exact .inl rfl | exact .inr rfl) ?_)); (refine o_splitP rfl rfl (fun hc => ?_) (fun hc => ?_) <;> try (exfalso; omega))
    | (fail_if_success (refine o_isLit rfl (by first | exact .inl rfl | exact .inr rfl) ?_)); (refine o_splitI rfl rfl (fun hc => ?_) (fun hc => ?_) <;> try (exfalso; omega))
    | (fail_if_success (refine o_isLit rfl (by first | exact .inl rfl | exact .inr rfl) ?_)); (refine o_splitN rfl rfl (fun hc => ?_) (fun hc => ?_) <;> try (exfalso; omega))
    | (fail_if_success (refine o_isLit rfl (by first | exact .inl rfl | exact .inr rfl) ?_)); (refine o_split rfl rfl (fun hc => ?_) (fun hc => ?_))
    | (refine o_call0 rfl (hfw) ⟨SLe.of_eq rfl, SLe.of_eq rfl, True.intro⟩ rfl ?_; rintro _ _ ⟨rfl, rfl⟩; refine ⟨rfl, ?_⟩)
    | (refine o_call0 rfl (hmk) ⟨SLe.of_eq rfl, True.intro⟩ rfl ?_; rintro _ _ ⟨rfl, rfl⟩; refine ⟨rfl, ?_⟩)
    | (refine o_call0 rfl (hrm) ⟨SLe.of_eq rfl, True.intro⟩ rfl ?_; rintro _ _ ⟨rfl, rfl⟩; refine ⟨rfl, ?_⟩)
    | (refine o_call0 rfl (hck) ⟨SLe.of_eq rfl, True.intro⟩ rfl ?_; rintro _ _ ⟨rfl, rfl⟩; refine ⟨rfl, ?_⟩)
    | (refine o_call0 rfl (hrc) ⟨SLe.of_eq rfl, True.intro⟩ rfl ?_; rintro _ _ ⟨rfl, rfl⟩; refine ⟨rfl, ?_⟩)
    | (refine o_call0 rfl (bawake_spec) True.intro rfl ?_; rintro _ _ ⟨rfl, rfl⟩; refine ⟨rfl, ?_⟩))
  · refine end_tmp rfl rfl rfl [] [] (CLe.of_eq ?_) .nil ⟨rfl, rfl⟩ _ (.inl rfl)
    show AV.b (qe == qe) = AV.b true
    rw [beq_self_eq_true]
  · rw [beq_self_eq_true] at hc; cases hc
  all_goals exact absurd rfl hc
end Go.Proofs.Ytapbbifcipemfaa
