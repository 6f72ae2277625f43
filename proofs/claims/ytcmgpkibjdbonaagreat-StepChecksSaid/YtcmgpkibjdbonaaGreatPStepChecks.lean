/- law19.StepChecks returns true: any step is taken or refused, and told what it does, as the page says. For every input, no condition. -/
import Derived.Test.YtcmgpkibjdbonaaGreatRows
import Derived.Test.YtcmgpkibjdbonaaGreatSU1Z
import Derived.ProofKit
import Derived.OpenShut
import Derived.ShutString
import Derived.ChangeOld
namespace Go.Proofs.YtcmgpkibjdbonaaGreat.stepChecksDone
open Go.ChangeShapes Go.WideShapes Go.ChangeAt Go.RowKit

theorem own : ownKnob Tryz.prog.godebug = none := by kernel_rfl
theorem laidOut : laidOutB Tryz.prog = true := by kernel_rfl
theorem has_lab {x : AV} (h : has (.arr 1 32 (.i .u8)) x) : ∃ l : List UInt8, x = labA l ∧ l.length = 32 := by
  obtain ⟨l, rfl, hl⟩ := has_bytes h
  exact ⟨l, rfl, hl⟩
theorem has_leaf {x : AV} (h : has (.agg [.arr 1 32 (.i .u8), .arr 1 32 (.i .u8), .i .i64]) x) : ∃ e : Lef, x = e.A ∧ e.ok := by
  obtain ⟨xs, rfl, y0, ys, rfl, h0, y1, ys, rfl, h1, y2, ys, rfl, h2, rfl⟩ := h
  obtain ⟨l, rfl, hl⟩ := has_lab h0
  obtain ⟨v, rfl, hv⟩ := has_lab h1
  obtain ⟨t, rfl, _⟩ := has_int h2
  exact ⟨⟨l, v, t⟩, rfl, hl, hv⟩
theorem has_item {x : AV} (h : has (.agg [.agg [.i .i64, .arr 1 32 (.i .u8)], .arr 1 32 (.i .u8), .i .i64]) x) : ∃ e : Itm, x = e.A ∧ e.ok := by
  obtain ⟨xs, rfl, y0, ys, rfl, ⟨zs, rfl, z0, us, rfl, g0, z1, us, rfl, g1, rfl⟩, y1, ys, rfl, h1, y2, ys, rfl, h2, rfl⟩ := h
  obtain ⟨n, rfl, _⟩ := has_int g0
  obtain ⟨l, rfl, hl⟩ := has_lab g1
  obtain ⟨s, rfl, hs⟩ := has_lab h1
  obtain ⟨t, rfl, _⟩ := has_int h2
  exact ⟨⟨n, l, s, t⟩, rfl, hl, hs⟩
theorem has_step {x : AV} (h : has (.agg [.sl 66 (.agg [.agg [.i .i64, .arr 1 32 (.i .u8)], .arr 1 32 (.i .u8), .i .i64]), .sl 65 (.agg [.arr 1 32 (.i .u8), .arr 1 32 (.i .u8), .i .i64]), .sl 65 (.agg [.arr 1 32 (.i .u8), .arr 1 32 (.i .u8), .i .i64])]) x) : ∃ p : Stp, x = p.A ∧ p.ok ∧ p.same.length ≤ 9223372036854775807 ∧ p.old.length ≤ 9223372036854775807 ∧ p.new.length ≤ 9223372036854775807 := by
  obtain ⟨xs, rfl, y0, ys, rfl, h0, y1, ys, rfl, h1, y2, ys, rfl, h2, rfl⟩ := h
  obtain ⟨l, rfl, hl, okl⟩ := has_slice (f := Itm.A) (fun x hx => has_item hx) h0
  obtain ⟨m, rfl, hm, okm⟩ := has_slice (f := Lef.A) (fun x hx => has_leaf hx) h1
  obtain ⟨n, rfl, hn, okn⟩ := has_slice (f := Lef.A) (fun x hx => has_leaf hx) h2
  exact ⟨⟨l, m, n⟩, rfl, ⟨okl, okm, okn⟩, hl, hm, hn⟩
set_option maxRecDepth 100000 in
theorem lifted (os : Os) (started : os.Started) (H : Type) (enc : TypeId × Value → H) :
    ReturnsInHanded {} Tryz.checked os 5 .any (Rows.stepChecksSpec.pre6 enc Tryz.prog Tryz.f5 Rows.stepChecksRow.domain false) (Rows.stepChecksSpec.post enc Tryz.prog Tryz.f5 false true false false) := by
  refine returnsInHanded_of_change (C := Tryz.checked) own started (by kernel_rfl) Tryz.func5
    (ChangeSpec.witness6 (enc := enc) (C := Tryz.checked) false ⟨#[], #[.agg (Array.replicate 32 (.int .u8 0)), .agg (Array.replicate 32 (.int .u8 0)), .agg #[.slice none 0 0, .slice none 0 0, .slice none 0 0], .slice none 0 0, .int .i64 0, .int .i64 0], []⟩ 8 (by kernel_rfl) (by kernel_rfl) (by kernel_rfl) (by kernel_rfl)) ?_
  intro W base args ds gs before hval0 hW _ _
  have hval : ∀ (j : Nat) t v, Tryz.f5.params[j]? = some t → args[j]? = some v → Value.okWide Tryz.prog W .any base t v := hval0
  have hW' := hW
  obtain ⟨p, q, hA0, hV, rfl, hfz, hnd⟩ := hW
  have hA : DataW.TrodAll enc Tryz.prog W 0 (fun _ => true) true Tryz.f5.params.toList args.toList ds p := hA0
  rw [Tryz.params5] at hA hval
  obtain ⟨v0, vs0, d0, ds0, p0, q0, hargs, rfl, rfl, h0, r0⟩ := trodAll_cons hA
  obtain ⟨v1, vs1, d1, ds1, p1, q1, rfl, rfl, rfl, h1, r1⟩ := trodAll_cons r0
  obtain ⟨v2, vs2, d2, ds2, p2, q2, rfl, rfl, rfl, h2, r2⟩ := trodAll_cons r1
  obtain ⟨v3, vs3, d3, ds3, p3, q3, rfl, rfl, rfl, h3, r3⟩ := trodAll_cons r2
  obtain ⟨v4, vs4, d4, ds4, p4, q4, rfl, rfl, rfl, h4, r4⟩ := trodAll_cons r3
  obtain ⟨v5, vs5, d5, ds5, p5, q5, rfl, rfl, rfl, h5, r5⟩ := trodAll_cons r4
  obtain ⟨rfl, rfl, rfl⟩ := trodAll_nil r5
  obtain rfl : args = #[v0, v1, v2, v3, v4, v5] := by cases args; simp_all
  obtain ⟨rfl, rfl⟩ := trodVars_none hV
  have k0 := h0
  have lt0 : ∀ x ∈ p0, x.block < W.heap.size := by obtain ⟨m, hm⟩ := k0; exact DataW.trod_lt m _ _ _ hm
  have k1 := h1
  have lt1 : ∀ x ∈ p1, x.block < W.heap.size := by obtain ⟨m, hm⟩ := k1; exact DataW.trod_lt m _ _ _ hm
  have k2 := h2
  have lt2 : ∀ x ∈ p2, x.block < W.heap.size := by obtain ⟨m, hm⟩ := k2; exact DataW.trod_lt m _ _ _ hm
  have k3 := h3
  have lt3 : ∀ x ∈ p3, x.block < W.heap.size := by obtain ⟨m, hm⟩ := k3; exact DataW.trod_lt m _ _ _ hm
  have k4 := h4
  have lt4 : ∀ x ∈ p4, x.block < W.heap.size := by obtain ⟨m, hm⟩ := k4; exact DataW.trod_lt m _ _ _ hm
  have k5 := h5
  have lt5 : ∀ x ∈ p5, x.block < W.heap.size := by obtain ⟨m, hm⟩ := k5; exact DataW.trod_lt m _ _ _ hm
  obtain ⟨a0, s0, m0⟩ := open_val TtOk 9 (sh := .arr 1 32 (.i .u8)) rfl (hval 0 44 v0 rfl rfl) h0
  obtain ⟨a1, s1, m1⟩ := open_val TtOk 9 (sh := .arr 1 32 (.i .u8)) rfl (hval 1 44 v1 rfl rfl) h1
  obtain ⟨a2, s2, m2⟩ := open_val TtOk 9 (sh := .agg [.sl 66 (.agg [.agg [.i .i64, .arr 1 32 (.i .u8)], .arr 1 32 (.i .u8), .i .i64]), .sl 65 (.agg [.arr 1 32 (.i .u8), .arr 1 32 (.i .u8), .i .i64]), .sl 65 (.agg [.arr 1 32 (.i .u8), .arr 1 32 (.i .u8), .i .i64])]) rfl (hval 2 28 v2 rfl rfl) h2
  obtain ⟨a3, s3, m3⟩ := open_val TtOk 9 (sh := .sl 32 (.arr 1 32 (.i .u8))) rfl (hval 3 23 v3 rfl rfl) h3
  obtain ⟨a4, s4, m4⟩ := open_val TtOk 9 (sh := .i .i64) rfl (hval 4 3 v4 rfl rfl) h4
  obtain ⟨a5, s5, m5⟩ := open_val TtOk 9 (sh := .i .i64) rfl (hval 5 3 v5 rfl rfl) h5
  obtain ⟨fr, rfl, h1⟩ := has_lab s0
  obtain ⟨to, rfl, h2⟩ := has_lab s1
  obtain ⟨s, rfl, oks, u1, u2, u3⟩ := has_step s2
  obtain ⟨g, rfl, hg, okg⟩ := has_slice (f := labA) (fun x hx => has_lab hx) s3
  obtain ⟨n4, rfl, _⟩ := has_int s4
  obtain ⟨n5, rfl, _⟩ := has_int s5
  clear hA0 hval0
  refine (law_run (stepChecks_spec fr to s g n4 n5 h1 h2 u1 u2 u3 oks hg okg) (repVs_cons m0 (repVs_cons m1 (repVs_cons m2 (repVs_cons m3 (repVs_cons m4 (repVs_cons m5 repVs_nil))))))).mono fun e W' ⟨he, bel⟩ => ?_
  subst he
  exact ⟨_, rfl, _, _, _, [], _, [], hW', trodAll_mk1 (shut_bool Tryz.underlying4 _), (trodAll_cons_mk (Below.trod laidOut (by kernel_rfl) (of_decide_eq_true (by kernel_rfl)) k0 bel lt0) (trodAll_cons_mk (Below.trod laidOut (by kernel_rfl) (of_decide_eq_true (by kernel_rfl)) k1 bel lt1) (trodAll_cons_mk (Below.trod laidOut (by kernel_rfl) (of_decide_eq_true (by kernel_rfl)) k2 bel lt2) (trodAll_cons_mk (Below.trod laidOut (by kernel_rfl) (of_decide_eq_true (by kernel_rfl)) k3 bel lt3) (trodAll_cons_mk (Below.trod laidOut (by kernel_rfl) (of_decide_eq_true (by kernel_rfl)) k4 bel lt4) (trodAll_cons_mk (Below.trod laidOut (by kernel_rfl) (of_decide_eq_true (by kernel_rfl)) k5 bel lt5) trodAll_mk0)))))), rfl, bel.frame _, fun h => by cases h⟩

theorem over : Rows.stepChecksRow.holds Tryz.pinned (OpenSpec.ofChange Rows.stepChecksSpec) :=
  OpenClaim.holds_of_wide 5 Tryz.f5 rfl rfl rfl rfl rfl rfl rfl ⟨rfl, rfl, rfl, rfl, rfl⟩ rfl rfl rfl rfl rfl (by kernel_rfl) Tryz.func5 (by kernel_rfl)
    (of_decide_eq_true (by kernel_rfl)) (by unfold Func.isWrapper; first | (rw [if_pos (by decide +kernel)]; kernel_rfl) | (rw [if_neg (by decide +kernel)]; exact ⟨rfl, rfl⟩))
    (fun os started H enc _ => lifted os started H enc)

theorem proved : Rows.StepChecksSaid := over
end Go.Proofs.YtcmgpkibjdbonaaGreat.stepChecksDone
