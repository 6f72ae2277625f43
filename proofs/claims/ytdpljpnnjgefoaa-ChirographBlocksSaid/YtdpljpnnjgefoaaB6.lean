/- Entries compared. -/
import Derived.Test.YtdpljpnnjgefoaaKWZ
import Derived.Laws.StructEq
set_option maxHeartbeats 8000000
namespace Go.Proofs.Ytdpljpnnjgefoaa
open Go Go.RowKit
def entEq (x y : Etr) : Bool := x.k == y.k && (x.v == y.v && x.g == y.g)
theorem entEq_iff {x y : Etr} : entEq x y = true ↔ x = y := by
  cases x; cases y; simp [entEq]
theorem byl (l : List UInt8) : (bytesOf l).toList = l := ByteArray.toList_eq _
theorem ent_neq (x y : Etr) (w : World) : (binOp .neq 27 (.agg #[.string (bytesOf x.k), .string (bytesOf x.v), .bool x.g]) (.agg #[.string (bytesOf y.k), .string (bytesOf y.v), .bool y.g])).run Try.prog w = .ok (.bool (!entEq x y)) w := by
  have hS : Try.prog.underlying 27 = some (.struct (Try.prog.fieldsOf 27)) := by kernel_rfl
  have hh : Try.prog.stoodInHeld 27 = false := by kernel_rfl
  rw [run_neq_struct, run_equalIn_agg w 9999 _ _ _ hS hh]
  simp only [Program.fieldsOf, Try.underlying27]
  simp [go_sem, entEq]
  simp only [byl]
  by_cases h1 : x.k = y.k <;> by_cases h2 : x.v = y.v <;> by_cases h3 : x.g = y.g <;> simp [h1, h2, h3]
theorem eA_rep {w : World} {F : Nat → Prop} {x : Etr} {v : Value} (h : repV w F (eA x) v) : v = .agg #[.string (bytesOf x.k), .string (bytesOf x.v), .bool x.g] := by
  obtain ⟨cs, hc, he⟩ := h
  simp only [eA, repC, repL] at hc
  obtain ⟨c1, c2, rfl, ⟨rfl, _⟩, c3, c4, rfl, ⟨rfl, _⟩, c5, c6, rfl, rfl, rfl⟩ := hc
  rw [he]; rfl
section
variable {m : OM} {C : Ctx} {ops : Array Oper} {l : List Oper} {K : St → Prop} {n : Nat} {sl : List (Nat × AV)} {hp : List (Nat × HO)} {d : Nat} {ty : Nat} {pos : String} {aft : Array Edge} {gd : Option (Nat × Bool)}
theorem o_neqEnt (hw : gval ops ⟨n, sl, hp⟩ gd = gwant gd) {u : Nat} {x y : Operand} (p q : Etr) (hx : ev ⟨n, sl, hp⟩ x = eA p) (hy : ev ⟨n, sl, hp⟩ y = eA q) (hd : Nat.blt d n = true)
    (h : Ops m Try.prog C ops l ⟨n, (d, .b (!entEq p q)) :: sl, hp⟩ K) : Ops m Try.prog C ops (⟨some d, .binOp .neq 27 x y u, ty, pos, aft, gd⟩ :: l) ⟨n, sl, hp⟩ K := by
  refine Ops.by (d := some d) hw none okc_none hd rfl (fun a w hs => ?_) h
  have Ex := ev_rep hs x
  have Ey := ev_rep hs y
  rw [hx] at Ex
  rw [hy] at Ey
  have Ex := eA_rep Ex
  have Ey := eA_rep Ey
  refine ⟨_, repV_b.2 rfl, fun w' _ => ?_⟩
  have hgd := run_eqGuard_agg (P := Try.prog) w' .neq 27 x y #[.string (bytesOf p.k), .string (bytesOf p.v), .bool p.g] #[.string (bytesOf q.k), .string (bytesOf q.v), .bool q.g] (by kernel_rfl)
  simp only [execOp, Ex, Ey, Sem.run_bind, hgd, ent_neq, Result.andThen_ok, Sem.run_pure]
end
end Go.Proofs.Ytdpljpnnjgefoaa
