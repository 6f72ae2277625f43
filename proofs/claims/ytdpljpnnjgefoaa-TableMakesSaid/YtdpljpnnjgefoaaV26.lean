/- A slice cut with a most: s[lo:hi:max]. -/
import Derived.Test.YtdpljpnnjgefoaaV22
import Derived.Lib.SliceRun
import Derived.Test.YtdpljpnnjgefoaaV16
namespace Go.Proofs.Ytdpljpnnjgefoaa
open Go Go.RowKit
section
variable {m : OM} {P : Program} {T : List (Nat × TI)} {C : Ctx} {ops : Array Oper} {l : List Oper} {K : St → Prop} {n : Nat} {sl : List (Nat × AV)} {hp : List (Nat × HO)} {d : Nat} {ty : Nat} {pos : String} {aft : Array Edge} {gd : Option (Nat × Bool)}
theorem o_eqNilCp (hT : TTOk P T) (hw : gval ops ⟨n, sl, hp⟩ gd = gwant gd) {t u e : Nat} {x y : Operand} {c : AV} {sz0 by0 : Nat} {z0 : AV}
    (hx : ev ⟨n, sl, hp⟩ x = .cp c) (hy : ev ⟨n, sl, hp⟩ y = .nilp) (ht : tget T t = some ⟨.ptr e, sz0, by0, z0⟩) (hd : Nat.blt d n = true)
    (h : Ops m P C ops l ⟨n, (d, .b false) :: sl, hp⟩ K) : Ops m P C ops (⟨some d, .binOp .eql t x y u, ty, pos, aft, gd⟩ :: l) ⟨n, sl, hp⟩ K := by
  refine Ops.by (d := some d) hw none okc_none hd rfl (fun a w hs => ?_) h
  have Ex := ev_rep hs x
  have Ey := ev_rep hs y
  rw [hx, repV_cp] at Ex
  obtain ⟨b, off, vs, Ex, _, _, _⟩ := Ex
  rw [hy] at Ey
  obtain ⟨c2, hc2, Ey⟩ := Ey
  simp only [repC] at hc2
  subst hc2
  have hu : P.underlying t = some (.pointer e) := by
    obtain ⟨ds, hds, hk⟩ := (tget_ok hT ht).desc
    cases ds <;> simp [kOf] at hk; subst hk; exact hds
  have hp2 : P.underlying t = some (.pointer (P.pointee t)) := by
    rw [hu]; simp [Program.pointee, hu]
  refine ⟨.bool false, repV_b.2 rfl, fun w' _ => ?_⟩
  have hr := run_eql_pointer_nil (P := P) (w := w') t (some ⟨b, off, none⟩) hp2
  have Ey : a.eval y = .pointer none := Ey
  have hg : (eqGuard .eql t x y (.pointer (some ⟨b, off, none⟩)) (.pointer none)).run P w' = .ok () w' := by simp [eqGuard]
  simp only [execOp, Ex, Ey, Sem.run_bind, hg, hr, Result.andThen_ok, Sem.run_pure]
  rfl
end
end Go.Proofs.Ytdpljpnnjgefoaa
