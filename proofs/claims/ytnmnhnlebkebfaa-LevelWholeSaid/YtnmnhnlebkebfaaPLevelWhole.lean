/- law11.LevelWhole returns true: jobs of all of a level end with all tables on one. For every input, no condition. -/
import Derived.Test.YtnmnhnlebkebfaaRows
import Derived.Test.YtnmnhnlebkebfaaLW3
import Derived.Test.YtnmnhnlebkebfaaSh
import Derived.ProofKit
import Derived.OpenShut
import Derived.ShutString
import Derived.ChangeOld
namespace Go.Proofs.Ytnmnhnlebkebfaa.levelWholeDone
open Go.ChangeShapes Go.WideShapes Go.ChangeAt Go.RowKit

theorem own : ownKnob Try.prog.godebug = none := by kernel_rfl
theorem laidOut : laidOutB Try.prog = true := by kernel_rfl
theorem has_file {x : AV} (h : has (.agg [.i .i64, .i .i64, .i .i64, .s, .s]) x) : ∃ e : Fl, x = eF e ∧ e.lev ≤ 9223372036854775807 := by
  obtain ⟨xs, rfl, y0, ys, rfl, h0, y1, ys, rfl, h1, y2, ys, rfl, h2, y3, ys, rfl, h3, y4, ys, rfl, h4, rfl⟩ := h
  obtain ⟨n, rfl, _⟩ := has_int h0
  obtain ⟨l, rfl, hl⟩ := has_int h1
  obtain ⟨z, rfl, _⟩ := has_int h2
  obtain ⟨a, rfl, _⟩ := has_str h3
  obtain ⟨b, rfl, _⟩ := has_str h4
  exact ⟨⟨n, l, z, a, b⟩, rfl, hl.2⟩
theorem has_state {x : AV} (h : has (.agg [.i .i64, .i .i64, .sl 5 (.agg [.i .i64, .i .i64, .i .i64, .s, .s])]) x) : ∃ s : Stt, x = eSt s ∧ s.fs.length ≤ 9223372036854775807 ∧ ∀ f ∈ s.fs, f.lev ≤ 9223372036854775807 := by
  obtain ⟨xs, rfl, y0, ys, rfl, h0, y1, ys, rfl, h1, y2, ys, rfl, h2, rfl⟩ := h
  obtain ⟨n, rfl, _⟩ := has_int h0
  obtain ⟨l, rfl, _⟩ := has_int h1
  obtain ⟨fs, rfl, hl, hp⟩ := has_slice (f := eF) (fun x hx => has_file hx) h2
  exact ⟨⟨n, l, fs⟩, rfl, hl, hp⟩
set_option maxRecDepth 100000 in
theorem lifted (os : Os) (started : os.Started) (H : Type) (enc : TypeId × Value → H) :
    ReturnsInHanded {} Try.checked os 6 .any (Rows.levelWholeSpec.pre6 enc Try.prog Try.f6 Rows.levelWholeRow.domain false) (Rows.levelWholeSpec.post enc Try.prog Try.f6 false true false false) := by
  refine returnsInHanded_of_change (C := Try.checked) own started (by kernel_rfl) Try.func6
    (ChangeSpec.witness6 (enc := enc) (C := Try.checked) false ⟨#[], #[.agg #[.int .i64 0, .int .i64 0, .slice none 0 0]], []⟩ 8 (by kernel_rfl) (by kernel_rfl) (by kernel_rfl) (by kernel_rfl)) ?_
  intro W base args ds gs before hval0 hW _ _
  have hval : ∀ (j : Nat) t v, Try.f6.params[j]? = some t → args[j]? = some v → Value.okWide Try.prog W .any base t v := hval0
  have hW' := hW
  obtain ⟨p, q, hA0, hV, rfl, hfz, hnd⟩ := hW
  have hA : DataW.TrodAll enc Try.prog W 0 (fun _ => true) true Try.f6.params.toList args.toList ds p := hA0
  rw [Try.params6] at hA hval
  obtain ⟨v0, vs0, d0, ds0, p0, q0, hargs, rfl, rfl, h0, r0⟩ := trodAll_cons hA
  obtain ⟨rfl, rfl, rfl⟩ := trodAll_nil r0
  obtain rfl : args = #[v0] := by cases args; simp_all
  obtain ⟨rfl, rfl⟩ := trodVars_none hV
  have k0 := h0
  have lt0 : ∀ x ∈ p0, x.block < W.heap.size := by obtain ⟨m, hm⟩ := k0; exact DataW.trod_lt m _ _ _ hm
  obtain ⟨a0, s0, m0⟩ := open_val TtOk 9 (sh := .agg [.i .i64, .i .i64, .sl 5 (.agg [.i .i64, .i .i64, .i .i64, .s, .s])]) rfl (hval 0 24 v0 rfl rfl) h0
  obtain ⟨s, rfl, hl, hlv⟩ := has_state s0
  clear hA0 hval0
  refine (law_run (levelWhole_spec s hl) (repVs_cons m0 repVs_nil)).mono fun e W' ⟨he, bel⟩ => ?_
  subst he
  exact ⟨_, rfl, _, _, _, [], _, [], hW', trodAll_mk1 (shut_bool Try.underlying4 _), (trodAll_cons_mk (Below.trod laidOut (by kernel_rfl) (of_decide_eq_true (by kernel_rfl)) k0 bel lt0) trodAll_mk0), rfl, bel.frame _, fun h => by cases h⟩

theorem over : Rows.levelWholeRow.holds Try.pinned (OpenSpec.ofChange Rows.levelWholeSpec) :=
  OpenClaim.holds_of_wide 6 Try.f6 rfl rfl rfl rfl rfl rfl rfl ⟨rfl, rfl, rfl, rfl, rfl⟩ rfl rfl rfl rfl rfl (by kernel_rfl) Try.func6 (by kernel_rfl)
    (of_decide_eq_true (by kernel_rfl)) (by unfold Func.isWrapper; first | (rw [if_pos (by decide +kernel)]; kernel_rfl) | (rw [if_neg (by decide +kernel)]; exact ⟨rfl, rfl⟩))
    (fun os started H enc _ => lifted os started H enc)

theorem proved : Rows.LevelWholeSaid := over
end Go.Proofs.Ytnmnhnlebkebfaa.levelWholeDone
