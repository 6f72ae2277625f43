/- law11.LevelApplies returns true: tables go and come. For every input, no condition. -/
import Derived.Test.YtnmnhnlebkebfaaRows
import Derived.Test.YtnmnhnlebkebfaaLA
import Derived.Test.YtnmnhnlebkebfaaShZ
import Derived.ProofKit
import Derived.OpenShut
import Derived.ShutString
import Derived.ChangeOld
namespace Go.Proofs.Ytnmnhnlebkebfaa.levelAppliesDone
open Go.ChangeShapes Go.WideShapes Go.ChangeAt Go.RowKit

theorem own : ownKnob Try.prog.godebug = none := by kernel_rfl
theorem laidOut : laidOutB Try.prog = true := by kernel_rfl
theorem has_file {x : AV} (h : has (.agg [.i .i64, .i .i64, .i .i64, .s, .s]) x) : ∃ e : Fl, x = eF e ∧ e.lev ≤ 9223372036854775807 := by
  obtain ⟨xs, rfl, y0, ys, rfl, h0, y1, ys, rfl, h1, y2, ys, rfl, h2, y3, ys, rfl, h3, y4, ys, rfl, h4, rfl⟩ := h
  obtain ⟨n, rfl, _⟩ := has_int h0
  obtain ⟨l, rfl, hl⟩ := has_int h1
  obtain ⟨z, rfl, _⟩ := has_int h2
  obtain ⟨a, rfl, _⟩ := has_str h3
  obtain ⟨b, rfl, _⟩ := has_str h4
  exact ⟨⟨n, l, z, a, b⟩, rfl, hl.2⟩
theorem has_state {x : AV} (h : has (.agg [.i .i64, .i .i64, .sl 5 (.agg [.i .i64, .i .i64, .i .i64, .s, .s])]) x) : ∃ s : Stt, x = eSt s ∧ s.fs.length ≤ 9223372036854775807 ∧ ∀ f ∈ s.fs, f.lev ≤ 9223372036854775807 := by
  obtain ⟨xs, rfl, y0, ys, rfl, h0, y1, ys, rfl, h1, y2, ys, rfl, h2, rfl⟩ := h
  obtain ⟨n, rfl, _⟩ := has_int h0
  obtain ⟨l, rfl, _⟩ := has_int h1
  obtain ⟨fs, rfl, hl, hp⟩ := has_slice (f := eF) (fun x hx => has_file hx) h2
  exact ⟨⟨n, l, fs⟩, rfl, hl, hp⟩
set_option maxRecDepth 100000 in
theorem lifted (os : Os) (started : os.Started) (H : Type) (enc : TypeId × Value → H) :
    ReturnsInHanded {} Try.checked os 5 .any (Rows.levelAppliesSpec.pre6 enc Try.prog Try.f5 Rows.levelAppliesRow.domain false) (Rows.levelAppliesSpec.post enc Try.prog Try.f5 false true false false) := by
  refine returnsInHanded_of_change (C := Try.checked) own started (by kernel_rfl) Try.func5
    (ChangeSpec.witness6 (enc := enc) (C := Try.checked) false ⟨#[], #[.agg #[.int .i64 0, .int .i64 0, .slice none 0 0], .slice none 0 0, .slice none 0 0, .int .i64 0], []⟩ 8 (by kernel_rfl) (by kernel_rfl) (by kernel_rfl) (by kernel_rfl)) ?_
  intro W base args ds gs before hval0 hW _ _
  have hval : ∀ (j : Nat) t v, Try.f5.params[j]? = some t → args[j]? = some v → Value.okWide Try.prog W .any base t v := hval0
  have hW' := hW
  obtain ⟨p, q, hA0, hV, rfl, hfz, hnd⟩ := hW
  have hA : DataW.TrodAll enc Try.prog W 0 (fun _ => true) true Try.f5.params.toList args.toList ds p := hA0
  rw [Try.params5] at hA hval
  obtain ⟨v0, vs0, d0, ds0, p0, q0, hargs, rfl, rfl, h0, r0⟩ := trodAll_cons hA
  obtain ⟨v1, vs1, d1, ds1, p1, q1, rfl, rfl, rfl, h1, r1⟩ := trodAll_cons r0
  obtain ⟨v2, vs2, d2, ds2, p2, q2, rfl, rfl, rfl, h2, r2⟩ := trodAll_cons r1
  obtain ⟨v3, vs3, d3, ds3, p3, q3, rfl, rfl, rfl, h3, r3⟩ := trodAll_cons r2
  obtain ⟨rfl, rfl, rfl⟩ := trodAll_nil r3
  obtain rfl : args = #[v0, v1, v2, v3] := by cases args; simp_all
  obtain ⟨rfl, rfl⟩ := trodVars_none hV
  have k0 := h0
  have lt0 : ∀ x ∈ p0, x.block < W.heap.size := by obtain ⟨m, hm⟩ := k0; exact DataW.trod_lt m _ _ _ hm
  have k1 := h1
  have lt1 : ∀ x ∈ p1, x.block < W.heap.size := by obtain ⟨m, hm⟩ := k1; exact DataW.trod_lt m _ _ _ hm
  have k2 := h2
  have lt2 : ∀ x ∈ p2, x.block < W.heap.size := by obtain ⟨m, hm⟩ := k2; exact DataW.trod_lt m _ _ _ hm
  have k3 := h3
  have lt3 : ∀ x ∈ p3, x.block < W.heap.size := by obtain ⟨m, hm⟩ := k3; exact DataW.trod_lt m _ _ _ hm
  obtain ⟨a0, s0, m0⟩ := open_val TtOk 9 (sh := .agg [.i .i64, .i .i64, .sl 5 (.agg [.i .i64, .i .i64, .i .i64, .s, .s])]) rfl (hval 0 24 v0 rfl rfl) h0
  obtain ⟨a1, s1, m1⟩ := open_val TtOk 9 (sh := .sl 1 (.i .i64)) rfl (hval 1 28 v1 rfl rfl) h1
  obtain ⟨a2, s2, m2⟩ := open_val TtOk 9 (sh := .sl 5 (.agg [.i .i64, .i .i64, .i .i64, .s, .s])) rfl (hval 2 22 v2 rfl rfl) h2
  obtain ⟨a3, s3, m3⟩ := open_val TtOk 9 (sh := .i .i64) rfl (hval 3 3 v3 rfl rfl) h3
  obtain ⟨s, rfl, hl, hlv⟩ := has_state s0
  obtain ⟨gone, rfl, hg, _⟩ := has_slice (f := AV.i .i64) (fun x hx => has_int hx) s1
  obtain ⟨fresh, rfl, hf, _⟩ := has_slice (f := eF) (fun x hx => has_file hx) s2
  obtain ⟨log, rfl, _⟩ := has_int s3
  clear hA0 hval0
  refine (law_run (levelApplies_spec s gone fresh log hl hg hf) (repVs_cons m0 (repVs_cons m1 (repVs_cons m2 (repVs_cons m3 repVs_nil))))).mono fun e W' ⟨he, bel⟩ => ?_
  subst he
  exact ⟨_, rfl, _, _, _, [], _, [], hW', trodAll_mk1 (shut_bool Try.underlying4 _), (trodAll_cons_mk (Below.trod laidOut (by kernel_rfl) (of_decide_eq_true (by kernel_rfl)) k0 bel lt0) (trodAll_cons_mk (Below.trod laidOut (by kernel_rfl) (of_decide_eq_true (by kernel_rfl)) k1 bel lt1) (trodAll_cons_mk (Below.trod laidOut (by kernel_rfl) (of_decide_eq_true (by kernel_rfl)) k2 bel lt2) (trodAll_cons_mk (Below.trod laidOut (by kernel_rfl) (of_decide_eq_true (by kernel_rfl)) k3 bel lt3) trodAll_mk0)))), rfl, bel.frame _, fun h => by cases h⟩

theorem over : Rows.levelAppliesRow.holds Try.pinned (OpenSpec.ofChange Rows.levelAppliesSpec) :=
  OpenClaim.holds_of_wide 5 Try.f5 rfl rfl rfl rfl rfl rfl rfl ⟨rfl, rfl, rfl, rfl, rfl⟩ rfl rfl rfl rfl rfl (by kernel_rfl) Try.func5 (by kernel_rfl)
    (of_decide_eq_true (by kernel_rfl)) (by unfold Func.isWrapper; first | (rw [if_pos (by decide +kernel)]; kernel_rfl) | (rw [if_neg (by decide +kernel)]; exact ⟨rfl, rfl⟩))
    (fun os started H enc _ => lifted os started H enc)

theorem proved : Rows.LevelAppliesSaid := over
end Go.Proofs.Ytnmnhnlebkebfaa.levelAppliesDone
