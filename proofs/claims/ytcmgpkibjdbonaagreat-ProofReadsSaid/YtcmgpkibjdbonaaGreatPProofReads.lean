/- law18.ProofReads returns true: any bytes are read as the proof that they are. For every input, no condition. -/
import Derived.Test.YtcmgpkibjdbonaaGreatRows
import Derived.Test.YtcmgpkibjdbonaaGreatZQ3Z
import Derived.ProofKit
import Derived.OpenShut
import Derived.ShutString
import Derived.ChangeOld
namespace Go.Proofs.YtcmgpkibjdbonaaGreat.proofReadsDone
open Go.ChangeShapes Go.WideShapes Go.ChangeAt Go.RowKit

theorem own : ownKnob Tryz.prog.godebug = none := by kernel_rfl
theorem laidOut : laidOutB Tryz.prog = true := by kernel_rfl
theorem has_lab {x : AV} (h : has (.arr 1 32 (.i .u8)) x) : ∃ l : List UInt8, x = labA l ∧ l.length = 32 := by
  obtain ⟨l, rfl, hl⟩ := has_bytes h
  exact ⟨l, rfl, hl⟩
theorem has_leaf {x : AV} (h : has (.agg [.arr 1 32 (.i .u8), .arr 1 32 (.i .u8), .i .i64]) x) : ∃ e : Lef, x = e.A ∧ e.ok := by
  obtain ⟨xs, rfl, y0, ys, rfl, h0, y1, ys, rfl, h1, y2, ys, rfl, h2, rfl⟩ := h
  obtain ⟨l, rfl, hl⟩ := has_lab h0
  obtain ⟨v, rfl, hv⟩ := has_lab h1
  obtain ⟨t, rfl, _⟩ := has_int h2
  exact ⟨⟨l, v, t⟩, rfl, hl, hv⟩
theorem has_item {x : AV} (h : has (.agg [.agg [.i .i64, .arr 1 32 (.i .u8)], .arr 1 32 (.i .u8), .i .i64]) x) : ∃ e : Itm, x = e.A ∧ e.ok := by
  obtain ⟨xs, rfl, y0, ys, rfl, ⟨zs, rfl, z0, us, rfl, g0, z1, us, rfl, g1, rfl⟩, y1, ys, rfl, h1, y2, ys, rfl, h2, rfl⟩ := h
  obtain ⟨n, rfl, _⟩ := has_int g0
  obtain ⟨l, rfl, hl⟩ := has_lab g1
  obtain ⟨s, rfl, hs⟩ := has_lab h1
  obtain ⟨t, rfl, _⟩ := has_int h2
  exact ⟨⟨n, l, s, t⟩, rfl, hl, hs⟩
theorem has_prf {x : AV} (h : has (.agg [.i .i64, .agg [.arr 1 32 (.i .u8), .arr 1 32 (.i .u8), .i .i64], .agg [.agg [.agg [.i .i64, .arr 1 32 (.i .u8)], .arr 1 32 (.i .u8), .i .i64], .agg [.agg [.i .i64, .arr 1 32 (.i .u8)], .arr 1 32 (.i .u8), .i .i64]], .sl 66 (.agg [.agg [.i .i64, .arr 1 32 (.i .u8)], .arr 1 32 (.i .u8), .i .i64])]) x) : ∃ p : Prf, x = p.A ∧ p.ok ∧ p.path.length ≤ 9223372036854775807 ∧ p.e < 9223372036854775808 := by
  obtain ⟨xs, rfl, y0, ys, rfl, h0, y1, ys, rfl, h1, y2, ys, rfl, ⟨zs, rfl, z0, us, rfl, g0, z1, us, rfl, g1, rfl⟩, y3, ys, rfl, h3, rfl⟩ := h
  obtain ⟨e, rfl, _, he⟩ := has_int h0
  obtain ⟨lf, rfl, hlf⟩ := has_leaf h1
  obtain ⟨a, rfl, ha⟩ := has_item g0
  obtain ⟨b, rfl, hb⟩ := has_item g1
  obtain ⟨l, rfl, hl, okl⟩ := has_slice (f := Itm.A) (fun x hx => has_item hx) h3
  exact ⟨⟨e, lf, a, b, l⟩, rfl, ⟨hlf, ha, hb, okl⟩, hl, by show e < 9223372036854775808; omega⟩
set_option maxRecDepth 100000 in
theorem lifted (os : Os) (started : os.Started) (H : Type) (enc : TypeId × Value → H) :
    ReturnsInHanded {} Tryz.checked os 7 .any (Rows.proofReadsSpec.pre6 enc Tryz.prog Tryz.f7 Rows.proofReadsRow.domain false) (Rows.proofReadsSpec.post enc Tryz.prog Tryz.f7 false true false false) := by
  refine returnsInHanded_of_change (C := Tryz.checked) own started (by kernel_rfl) Tryz.func7
    (ChangeSpec.witness6 (enc := enc) (C := Tryz.checked) false ⟨#[], #[.string ByteArray.empty, .agg (#[.int .i64 0] ++ Array.replicate 64 (.int .u8 0) ++ #[.int .i64 0] ++ (#[.int .i64 0] ++ Array.replicate 64 (.int .u8 0) ++ #[.int .i64 0]) ++ (#[.int .i64 0] ++ Array.replicate 64 (.int .u8 0) ++ #[.int .i64 0]) ++ #[.slice none 0 0])], []⟩ 8 (by kernel_rfl) (by kernel_rfl) (by kernel_rfl) (by kernel_rfl)) ?_
  intro W base args ds gs before hval0 hW _ _
  have hval : ∀ (j : Nat) t v, Tryz.f7.params[j]? = some t → args[j]? = some v → Value.okWide Tryz.prog W .any base t v := hval0
  have hW' := hW
  obtain ⟨p, q, hA0, hV, rfl, hfz, hnd⟩ := hW
  have hA : DataW.TrodAll enc Tryz.prog W 0 (fun _ => true) true Tryz.f7.params.toList args.toList ds p := hA0
  rw [Tryz.params7] at hA hval
  obtain ⟨v0, vs0, d0, ds0, p0, q0, hargs, rfl, rfl, h0, r0⟩ := trodAll_cons hA
  obtain ⟨v1, vs1, d1, ds1, p1, q1, rfl, rfl, rfl, h1, r1⟩ := trodAll_cons r0
  obtain ⟨rfl, rfl, rfl⟩ := trodAll_nil r1
  obtain rfl : args = #[v0, v1] := by cases args; simp_all
  obtain ⟨rfl, rfl⟩ := trodVars_none hV
  have k0 := h0
  have lt0 : ∀ x ∈ p0, x.block < W.heap.size := by obtain ⟨m, hm⟩ := k0; exact DataW.trod_lt m _ _ _ hm
  have k1 := h1
  have lt1 : ∀ x ∈ p1, x.block < W.heap.size := by obtain ⟨m, hm⟩ := k1; exact DataW.trod_lt m _ _ _ hm
  obtain ⟨a0, s0, m0⟩ := open_val TtOk 9 (sh := .s) rfl (hval 0 9 v0 rfl rfl) h0
  obtain ⟨a1, s1, m1⟩ := open_val TtOk 9 (sh := .agg [.i .i64, .agg [.arr 1 32 (.i .u8), .arr 1 32 (.i .u8), .i .i64], .agg [.agg [.agg [.i .i64, .arr 1 32 (.i .u8)], .arr 1 32 (.i .u8), .i .i64], .agg [.agg [.i .i64, .arr 1 32 (.i .u8)], .arr 1 32 (.i .u8), .i .i64]], .sl 66 (.agg [.agg [.i .i64, .arr 1 32 (.i .u8)], .arr 1 32 (.i .u8), .i .i64])]) rfl (hval 1 54 v1 rfl rfl) h1
  obtain ⟨s, rfl, hs⟩ := has_str s0
  obtain ⟨p, rfl, okp, hp, hep⟩ := has_prf s1
  clear hA0 hval0
  refine (law_run (proofReads_spec s p hs hp okp hep) (repVs_cons m0 (repVs_cons m1 repVs_nil))).mono fun e W' ⟨he, bel⟩ => ?_
  subst he
  exact ⟨_, rfl, _, _, _, [], _, [], hW', trodAll_mk1 (shut_bool Tryz.underlying4 _), (trodAll_cons_mk (Below.trod laidOut (by kernel_rfl) (of_decide_eq_true (by kernel_rfl)) k0 bel lt0) (trodAll_cons_mk (Below.trod laidOut (by kernel_rfl) (of_decide_eq_true (by kernel_rfl)) k1 bel lt1) trodAll_mk0)), rfl, bel.frame _, fun h => by cases h⟩

theorem over : Rows.proofReadsRow.holds Tryz.pinned (OpenSpec.ofChange Rows.proofReadsSpec) :=
  OpenClaim.holds_of_wide 7 Tryz.f7 rfl rfl rfl rfl rfl rfl rfl ⟨rfl, rfl, rfl, rfl, rfl⟩ rfl rfl rfl rfl rfl (by kernel_rfl) Tryz.func7 (by kernel_rfl)
    (of_decide_eq_true (by kernel_rfl)) (by unfold Func.isWrapper; first | (rw [if_pos (by decide +kernel)]; kernel_rfl) | (rw [if_neg (by decide +kernel)]; exact ⟨rfl, rfl⟩))
    (fun os started H enc _ => lifted os started H enc)

theorem proved : Rows.ProofReadsSaid := over
end Go.Proofs.YtcmgpkibjdbonaaGreat.proofReadsDone
