/- law19.StepLabels returns true: what was superseded long enough is buried and dropped by steps that say so. For every input, no condition. -/
import Derived.Test.YtcmgpkibjdbonaaRows
import Derived.Test.YtcmgpkibjdbonaaLS1
import Derived.Test.YtcmgpkibjdbonaaSh
import Derived.ProofKit
import Derived.OpenShut
import Derived.ShutString
import Derived.ChangeOld
namespace Go.Proofs.Ytcmgpkibjdbonaa.stepLabelsDone
open Go.ChangeShapes Go.WideShapes Go.ChangeAt Go.RowKit

theorem own : ownKnob Try.prog.godebug = none := by kernel_rfl
theorem laidOut : laidOutB Try.prog = true := by kernel_rfl
theorem has_lab {x : AV} (h : has (.arr 1 32 (.i .u8)) x) : ∃ l : List UInt8, x = labA l ∧ l.length = 32 := by
  obtain ⟨l, rfl, hl⟩ := has_bytes h
  exact ⟨l, rfl, hl⟩
theorem has_leaf {x : AV} (h : has (.agg [.arr 1 32 (.i .u8), .arr 1 32 (.i .u8), .i .i64]) x) : ∃ e : Lef, x = e.A ∧ e.ok := by
  obtain ⟨xs, rfl, y0, ys, rfl, h0, y1, ys, rfl, h1, y2, ys, rfl, h2, rfl⟩ := h
  obtain ⟨l, rfl, hl⟩ := has_lab h0
  obtain ⟨v, rfl, hv⟩ := has_lab h1
  obtain ⟨t, rfl, _⟩ := has_int h2
  exact ⟨⟨l, v, t⟩, rfl, hl, hv⟩
theorem has_item {x : AV} (h : has (.agg [.agg [.i .i64, .arr 1 32 (.i .u8)], .arr 1 32 (.i .u8), .i .i64]) x) : ∃ e : Itm, x = e.A ∧ e.ok := by
  obtain ⟨xs, rfl, y0, ys, rfl, ⟨zs, rfl, z0, us, rfl, g0, z1, us, rfl, g1, rfl⟩, y1, ys, rfl, h1, y2, ys, rfl, h2, rfl⟩ := h
  obtain ⟨n, rfl, _⟩ := has_int g0
  obtain ⟨l, rfl, hl⟩ := has_lab g1
  obtain ⟨s, rfl, hs⟩ := has_lab h1
  obtain ⟨t, rfl, _⟩ := has_int h2
  exact ⟨⟨n, l, s, t⟩, rfl, hl, hs⟩
set_option maxRecDepth 100000 in
theorem lifted (os : Os) (started : os.Started) (H : Type) (enc : TypeId × Value → H) :
    ReturnsInHanded {} Try.checked os 6 .any (Rows.stepLabelsSpec.pre6 enc Try.prog Try.f6 Rows.stepLabelsRow.domain false) (Rows.stepLabelsSpec.post enc Try.prog Try.f6 false true false false) := by
  refine returnsInHanded_of_change (C := Try.checked) own started (by kernel_rfl) Try.func6
    (ChangeSpec.witness6 (enc := enc) (C := Try.checked) false ⟨#[], #[.slice none 0 0, .agg (Array.replicate 32 (.int .u8 0)), .agg (Array.replicate 32 (.int .u8 0)), .int .i64 0, .int .i64 0, .int .i64 0, .int .i64 0], []⟩ 8 (by kernel_rfl) (by kernel_rfl) (by kernel_rfl) (by kernel_rfl)) ?_
  intro W base args ds gs before hval0 hW _ _
  have hval : ∀ (j : Nat) t v, Try.f6.params[j]? = some t → args[j]? = some v → Value.okWide Try.prog W .any base t v := hval0
  have hW' := hW
  obtain ⟨p, q, hA0, hV, rfl, hfz, hnd⟩ := hW
  have hA : DataW.TrodAll enc Try.prog W 0 (fun _ => true) true Try.f6.params.toList args.toList ds p := hA0
  rw [Try.params6] at hA hval
  obtain ⟨v0, vs0, d0, ds0, p0, q0, hargs, rfl, rfl, h0, r0⟩ := trodAll_cons hA
  obtain ⟨v1, vs1, d1, ds1, p1, q1, rfl, rfl, rfl, h1, r1⟩ := trodAll_cons r0
  obtain ⟨v2, vs2, d2, ds2, p2, q2, rfl, rfl, rfl, h2, r2⟩ := trodAll_cons r1
  obtain ⟨v3, vs3, d3, ds3, p3, q3, rfl, rfl, rfl, h3, r3⟩ := trodAll_cons r2
  obtain ⟨v4, vs4, d4, ds4, p4, q4, rfl, rfl, rfl, h4, r4⟩ := trodAll_cons r3
  obtain ⟨v5, vs5, d5, ds5, p5, q5, rfl, rfl, rfl, h5, r5⟩ := trodAll_cons r4
  obtain ⟨v6, vs6, d6, ds6, p6, q6, rfl, rfl, rfl, h6, r6⟩ := trodAll_cons r5
  obtain ⟨rfl, rfl, rfl⟩ := trodAll_nil r6
  obtain rfl : args = #[v0, v1, v2, v3, v4, v5, v6] := by cases args; simp_all
  obtain ⟨rfl, rfl⟩ := trodVars_none hV
  have k0 := h0
  have lt0 : ∀ x ∈ p0, x.block < W.heap.size := by obtain ⟨m, hm⟩ := k0; exact DataW.trod_lt m _ _ _ hm
  have k1 := h1
  have lt1 : ∀ x ∈ p1, x.block < W.heap.size := by obtain ⟨m, hm⟩ := k1; exact DataW.trod_lt m _ _ _ hm
  have k2 := h2
  have lt2 : ∀ x ∈ p2, x.block < W.heap.size := by obtain ⟨m, hm⟩ := k2; exact DataW.trod_lt m _ _ _ hm
  have k3 := h3
  have lt3 : ∀ x ∈ p3, x.block < W.heap.size := by obtain ⟨m, hm⟩ := k3; exact DataW.trod_lt m _ _ _ hm
  have k4 := h4
  have lt4 : ∀ x ∈ p4, x.block < W.heap.size := by obtain ⟨m, hm⟩ := k4; exact DataW.trod_lt m _ _ _ hm
  have k5 := h5
  have lt5 : ∀ x ∈ p5, x.block < W.heap.size := by obtain ⟨m, hm⟩ := k5; exact DataW.trod_lt m _ _ _ hm
  have k6 := h6
  have lt6 : ∀ x ∈ p6, x.block < W.heap.size := by obtain ⟨m, hm⟩ := k6; exact DataW.trod_lt m _ _ _ hm
  obtain ⟨a0, s0, m0⟩ := open_val TtOk 9 (sh := .sl 65 (.agg [.arr 1 32 (.i .u8), .arr 1 32 (.i .u8), .i .i64])) rfl (hval 0 22 v0 rfl rfl) h0
  obtain ⟨a1, s1, m1⟩ := open_val TtOk 9 (sh := .arr 1 32 (.i .u8)) rfl (hval 1 24 v1 rfl rfl) h1
  obtain ⟨a2, s2, m2⟩ := open_val TtOk 9 (sh := .arr 1 32 (.i .u8)) rfl (hval 2 24 v2 rfl rfl) h2
  obtain ⟨a3, s3, m3⟩ := open_val TtOk 9 (sh := .i .i64) rfl (hval 3 3 v3 rfl rfl) h3
  obtain ⟨a4, s4, m4⟩ := open_val TtOk 9 (sh := .i .i64) rfl (hval 4 3 v4 rfl rfl) h4
  obtain ⟨a5, s5, m5⟩ := open_val TtOk 9 (sh := .i .i64) rfl (hval 5 3 v5 rfl rfl) h5
  obtain ⟨a6, s6, m6⟩ := open_val TtOk 9 (sh := .i .i64) rfl (hval 6 3 v6 rfl rfl) h6
  obtain ⟨l, rfl, hl, okl⟩ := has_slice (f := Lef.A) (fun x hx => has_leaf hx) s0
  obtain ⟨sd, rfl, hsd⟩ := has_lab s1
  obtain ⟨vl, rfl, hvl⟩ := has_lab s2
  obtain ⟨n3, rfl, _⟩ := has_int s3
  obtain ⟨n4, rfl, _⟩ := has_int s4
  obtain ⟨n5, rfl, _⟩ := has_int s5
  obtain ⟨n6, rfl, _⟩ := has_int s6
  clear hA0 hval0
  refine (law_run (stepLabels_spec l sd vl n3 n4 n5 n6 hl okl hsd hvl) (repVs_cons m0 (repVs_cons m1 (repVs_cons m2 (repVs_cons m3 (repVs_cons m4 (repVs_cons m5 (repVs_cons m6 repVs_nil)))))))).mono fun e W' ⟨he, bel⟩ => ?_
  subst he
  exact ⟨_, rfl, _, _, _, [], _, [], hW', trodAll_mk1 (shut_bool Try.underlying4 _), (trodAll_cons_mk (Below.trod laidOut (by kernel_rfl) (of_decide_eq_true (by kernel_rfl)) k0 bel lt0) (trodAll_cons_mk (Below.trod laidOut (by kernel_rfl) (of_decide_eq_true (by kernel_rfl)) k1 bel lt1) (trodAll_cons_mk (Below.trod laidOut (by kernel_rfl) (of_decide_eq_true (by kernel_rfl)) k2 bel lt2) (trodAll_cons_mk (Below.trod laidOut (by kernel_rfl) (of_decide_eq_true (by kernel_rfl)) k3 bel lt3) (trodAll_cons_mk (Below.trod laidOut (by kernel_rfl) (of_decide_eq_true (by kernel_rfl)) k4 bel lt4) (trodAll_cons_mk (Below.trod laidOut (by kernel_rfl) (of_decide_eq_true (by kernel_rfl)) k5 bel lt5) (trodAll_cons_mk (Below.trod laidOut (by kernel_rfl) (of_decide_eq_true (by kernel_rfl)) k6 bel lt6) trodAll_mk0))))))), rfl, bel.frame _, fun h => by cases h⟩

theorem over : Rows.stepLabelsRow.holds Try.pinned (OpenSpec.ofChange Rows.stepLabelsSpec) :=
  OpenClaim.holds_of_wide 6 Try.f6 rfl rfl rfl rfl rfl rfl rfl ⟨rfl, rfl, rfl, rfl, rfl⟩ rfl rfl rfl rfl rfl (by kernel_rfl) Try.func6 (by kernel_rfl)
    (of_decide_eq_true (by kernel_rfl)) (by unfold Func.isWrapper; first | (rw [if_pos (by decide +kernel)]; kernel_rfl) | (rw [if_neg (by decide +kernel)]; exact ⟨rfl, rfl⟩))
    (fun os started H enc _ => lifted os started H enc)

theorem proved : Rows.StepLabelsSaid := over
end Go.Proofs.Ytcmgpkibjdbonaa.stepLabelsDone
