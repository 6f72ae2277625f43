/- law18.ProofChecks returns true: any proof is taken or refused as the page says. For every input, no condition. -/
import Derived.Test.YtcmgpkibjdbonaaGreatRows
import Derived.Test.YtcmgpkibjdbonaaGreatPM4Z
import Derived.ProofKit
import Derived.OpenShut
import Derived.ShutString
import Derived.ChangeOld
namespace Go.Proofs.YtcmgpkibjdbonaaGreat.proofChecksDone
open Go.ChangeShapes Go.WideShapes Go.ChangeAt Go.RowKit

theorem own : ownKnob Tryz.prog.godebug = none := by kernel_rfl
theorem laidOut : laidOutB Tryz.prog = true := by kernel_rfl
theorem has_lab {x : AV} (h : has (.arr 1 32 (.i .u8)) x) : ∃ l : List UInt8, x = labA l ∧ l.length = 32 := by
  obtain ⟨l, rfl, hl⟩ := has_bytes h
  exact ⟨l, rfl, hl⟩
theorem has_leaf {x : AV} (h : has (.agg [.arr 1 32 (.i .u8), .arr 1 32 (.i .u8), .i .i64]) x) : ∃ e : Lef, x = e.A ∧ e.ok := by
  obtain ⟨xs, rfl, y0, ys, rfl, h0, y1, ys, rfl, h1, y2, ys, rfl, h2, rfl⟩ := h
  obtain ⟨l, rfl, hl⟩ := has_lab h0
  obtain ⟨v, rfl, hv⟩ := has_lab h1
  obtain ⟨t, rfl, _⟩ := has_int h2
  exact ⟨⟨l, v, t⟩, rfl, hl, hv⟩
theorem has_item {x : AV} (h : has (.agg [.agg [.i .i64, .arr 1 32 (.i .u8)], .arr 1 32 (.i .u8), .i .i64]) x) : ∃ e : Itm, x = e.A ∧ e.ok := by
  obtain ⟨xs, rfl, y0, ys, rfl, ⟨zs, rfl, z0, us, rfl, g0, z1, us, rfl, g1, rfl⟩, y1, ys, rfl, h1, y2, ys, rfl, h2, rfl⟩ := h
  obtain ⟨n, rfl, _⟩ := has_int g0
  obtain ⟨l, rfl, hl⟩ := has_lab g1
  obtain ⟨s, rfl, hs⟩ := has_lab h1
  obtain ⟨t, rfl, _⟩ := has_int h2
  exact ⟨⟨n, l, s, t⟩, rfl, hl, hs⟩
theorem has_prf {x : AV} (h : has (.agg [.i .i64, .agg [.arr 1 32 (.i .u8), .arr 1 32 (.i .u8), .i .i64], .agg [.agg [.agg [.i .i64, .arr 1 32 (.i .u8)], .arr 1 32 (.i .u8), .i .i64], .agg [.agg [.i .i64, .arr 1 32 (.i .u8)], .arr 1 32 (.i .u8), .i .i64]], .sl 66 (.agg [.agg [.i .i64, .arr 1 32 (.i .u8)], .arr 1 32 (.i .u8), .i .i64])]) x) : ∃ p : Prf, x = p.A ∧ p.ok ∧ p.path.length ≤ 9223372036854775807 := by
  obtain ⟨xs, rfl, y0, ys, rfl, h0, y1, ys, rfl, h1, y2, ys, rfl, ⟨zs, rfl, z0, us, rfl, g0, z1, us, rfl, g1, rfl⟩, y3, ys, rfl, h3, rfl⟩ := h
  obtain ⟨e, rfl, _⟩ := has_int h0
  obtain ⟨lf, rfl, hlf⟩ := has_leaf h1
  obtain ⟨a, rfl, ha⟩ := has_item g0
  obtain ⟨b, rfl, hb⟩ := has_item g1
  obtain ⟨l, rfl, hl, okl⟩ := has_slice (f := Itm.A) (fun x hx => has_item hx) h3
  exact ⟨⟨e, lf, a, b, l⟩, rfl, ⟨hlf, ha, hb, okl⟩, hl⟩
set_option maxRecDepth 100000 in
theorem lifted (os : Os) (started : os.Started) (H : Type) (enc : TypeId × Value → H) :
    ReturnsInHanded {} Tryz.checked os 4 .any (Rows.proofChecksSpec.pre6 enc Tryz.prog Tryz.f4 Rows.proofChecksRow.domain false) (Rows.proofChecksSpec.post enc Tryz.prog Tryz.f4 false true false false) := by
  refine returnsInHanded_of_change (C := Tryz.checked) own started (by kernel_rfl) Tryz.func4
    (ChangeSpec.witness6 (enc := enc) (C := Tryz.checked) false ⟨#[], #[.agg (Array.replicate 32 (.int .u8 0)), .agg (Array.replicate 32 (.int .u8 0)), .agg (#[.int .i64 0] ++ Array.replicate 64 (.int .u8 0) ++ #[.int .i64 0] ++ (#[.int .i64 0] ++ Array.replicate 64 (.int .u8 0) ++ #[.int .i64 0]) ++ (#[.int .i64 0] ++ Array.replicate 64 (.int .u8 0) ++ #[.int .i64 0]) ++ #[.slice none 0 0]), .slice none 0 0], []⟩ 8 (by kernel_rfl) (by kernel_rfl) (by kernel_rfl) (by kernel_rfl)) ?_
  intro W base args ds gs before hval0 hW _ _
  have hval : ∀ (j : Nat) t v, Tryz.f4.params[j]? = some t → args[j]? = some v → Value.okWide Tryz.prog W .any base t v := hval0
  have hW' := hW
  obtain ⟨p, q, hA0, hV, rfl, hfz, hnd⟩ := hW
  have hA : DataW.TrodAll enc Tryz.prog W 0 (fun _ => true) true Tryz.f4.params.toList args.toList ds p := hA0
  rw [Tryz.params4] at hA hval
  obtain ⟨v0, vs0, d0, ds0, p0, q0, hargs, rfl, rfl, h0, r0⟩ := trodAll_cons hA
  obtain ⟨v1, vs1, d1, ds1, p1, q1, rfl, rfl, rfl, h1, r1⟩ := trodAll_cons r0
  obtain ⟨v2, vs2, d2, ds2, p2, q2, rfl, rfl, rfl, h2, r2⟩ := trodAll_cons r1
  obtain ⟨v3, vs3, d3, ds3, p3, q3, rfl, rfl, rfl, h3, r3⟩ := trodAll_cons r2
  obtain ⟨rfl, rfl, rfl⟩ := trodAll_nil r3
  obtain rfl : args = #[v0, v1, v2, v3] := by cases args; simp_all
  obtain ⟨rfl, rfl⟩ := trodVars_none hV
  have k0 := h0
  have lt0 : ∀ x ∈ p0, x.block < W.heap.size := by obtain ⟨m, hm⟩ := k0; exact DataW.trod_lt m _ _ _ hm
  have k1 := h1
  have lt1 : ∀ x ∈ p1, x.block < W.heap.size := by obtain ⟨m, hm⟩ := k1; exact DataW.trod_lt m _ _ _ hm
  have k2 := h2
  have lt2 : ∀ x ∈ p2, x.block < W.heap.size := by obtain ⟨m, hm⟩ := k2; exact DataW.trod_lt m _ _ _ hm
  have k3 := h3
  have lt3 : ∀ x ∈ p3, x.block < W.heap.size := by obtain ⟨m, hm⟩ := k3; exact DataW.trod_lt m _ _ _ hm
  obtain ⟨a0, s0, m0⟩ := open_val TtOk 9 (sh := .arr 1 32 (.i .u8)) rfl (hval 0 44 v0 rfl rfl) h0
  obtain ⟨a1, s1, m1⟩ := open_val TtOk 9 (sh := .arr 1 32 (.i .u8)) rfl (hval 1 44 v1 rfl rfl) h1
  obtain ⟨a2, s2, m2⟩ := open_val TtOk 9 (sh := .agg [.i .i64, .agg [.arr 1 32 (.i .u8), .arr 1 32 (.i .u8), .i .i64], .agg [.agg [.agg [.i .i64, .arr 1 32 (.i .u8)], .arr 1 32 (.i .u8), .i .i64], .agg [.agg [.i .i64, .arr 1 32 (.i .u8)], .arr 1 32 (.i .u8), .i .i64]], .sl 66 (.agg [.agg [.i .i64, .arr 1 32 (.i .u8)], .arr 1 32 (.i .u8), .i .i64])]) rfl (hval 2 54 v2 rfl rfl) h2
  obtain ⟨a3, s3, m3⟩ := open_val TtOk 9 (sh := .sl 65 (.agg [.arr 1 32 (.i .u8), .arr 1 32 (.i .u8), .i .i64])) rfl (hval 3 22 v3 rfl rfl) h3
  obtain ⟨top, rfl, htop⟩ := has_lab s0
  obtain ⟨lb, rfl, hlb⟩ := has_lab s1
  obtain ⟨p, rfl, okp, hp⟩ := has_prf s2
  obtain ⟨l, rfl, hl, okl⟩ := has_slice (f := Lef.A) (fun x hx => has_leaf hx) s3
  clear hA0 hval0
  refine (law_run (proofChecks_spec top lb p l hp hl okl htop hlb okp) (repVs_cons m0 (repVs_cons m1 (repVs_cons m2 (repVs_cons m3 repVs_nil))))).mono fun e W' ⟨he, bel⟩ => ?_
  subst he
  exact ⟨_, rfl, _, _, _, [], _, [], hW', trodAll_mk1 (shut_bool Tryz.underlying4 _), (trodAll_cons_mk (Below.trod laidOut (by kernel_rfl) (of_decide_eq_true (by kernel_rfl)) k0 bel lt0) (trodAll_cons_mk (Below.trod laidOut (by kernel_rfl) (of_decide_eq_true (by kernel_rfl)) k1 bel lt1) (trodAll_cons_mk (Below.trod laidOut (by kernel_rfl) (of_decide_eq_true (by kernel_rfl)) k2 bel lt2) (trodAll_cons_mk (Below.trod laidOut (by kernel_rfl) (of_decide_eq_true (by kernel_rfl)) k3 bel lt3) trodAll_mk0)))), rfl, bel.frame _, fun h => by cases h⟩

theorem over : Rows.proofChecksRow.holds Tryz.pinned (OpenSpec.ofChange Rows.proofChecksSpec) :=
  OpenClaim.holds_of_wide 4 Tryz.f4 rfl rfl rfl rfl rfl rfl rfl ⟨rfl, rfl, rfl, rfl, rfl⟩ rfl rfl rfl rfl rfl (by kernel_rfl) Tryz.func4 (by kernel_rfl)
    (of_decide_eq_true (by kernel_rfl)) (by unfold Func.isWrapper; first | (rw [if_pos (by decide +kernel)]; kernel_rfl) | (rw [if_neg (by decide +kernel)]; exact ⟨rfl, rfl⟩))
    (fun os started H enc _ => lifted os started H enc)

theorem proved : Rows.ProofChecksSaid := over
end Go.Proofs.YtcmgpkibjdbonaaGreat.proofChecksDone
