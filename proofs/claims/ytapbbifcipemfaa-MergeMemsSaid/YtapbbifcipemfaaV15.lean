/- Array views: l[:] of a variable, and of memory that nobody writes. No program in sight. -/
import Derived.Test.YtapbbifcipemfaaV14
namespace Go.Proofs.Ytapbbifcipemfaa
open Go Go.RowKit

section
variable {P : Program} {T : List (Nat × TI)} {w : World}
theorem sliceArr_run {t n e : Nat} (hu : P.underlying t = some (.array n e)) {ie : TypeInfo} (hie : P.info? e = some ie) (b off : Nat) (hn : n ≤ maxLen) : (Instr.sliceAt t (.pointer (some ⟨b, off, none⟩)) none none none).run P w = .ok (.slice (some ⟨b, off, none⟩) n n) w := by
  unfold Instr.sliceAt
  simp [run_underlying hu, Instr.sureAddr, Instr.sliceBounds, sizeOf, typeInfo, hie, Addr.add]
end
section
variable {m : OM} {P : Program} {T : List (Nat × TI)} {C : Ctx} {S : St} {a : Act} {w : World} {ops : Array Oper} {l : List Oper} {K : St → Prop} {d : Nat} {ty : Nat} {pos : String} {aft : Array Edge} {gd : Option (Nat × Bool)}
/-- l[:] of an array in memory that nobody writes: a slice. -/
theorem Ops.sliceCp (hT : TTOk P T) (hw : gval ops S gd = gwant gd) {t : Nat} {x : Operand} {sz : Nat} {xs : List AV} {mlen e sz0 by_ : Nat} {z : AV} {te : TI}
    (hx : ev S x = .cp (.arr sz mlen xs)) (ht : tget T t = some ⟨.array mlen e, sz0, by_, z⟩) (he : tget T e = some te) (hd : Nat.blt d S.n = true) (hn : mlen ≤ 9223372036854775807)
    (h : Ops m P C ops l (S.put d (.sl sz xs)) K) : Ops m P C ops (⟨some d, .slice t x none none none, ty, pos, aft, gd⟩ :: l) S K := by
  refine Ops.by (d := some d) hw none okc_none hd rfl (fun a w hs => ?_) h
  have Ex := ev_rep hs x
  rw [hx, repV_cp] at Ex
  obtain ⟨b, off, vs, e1, hF, hrep, hat⟩ := Ex
  simp only [repC] at hrep
  obtain ⟨ie, hie, _, _⟩ := (tget_ok hT he).inf
  refine ⟨.slice (some ⟨b, off, none⟩) mlen mlen, repV_sl.2 ⟨some ⟨b, off, none⟩, mlen, by rw [hrep.1], by omega, by unfold maxLen; omega, fun _ => ⟨b, off, rfl, hF, repA_row hF xs vs off hrep.2 hat⟩⟩, fun w' _ => ?_⟩
  have hr := sliceArr_run (P := P) (w := w') (tk_array (tget_ok hT ht)) hie b off (by unfold maxLen; omega)
  simp only [execOp, e1, Option.map_none, Sem.run_bind, hr, Result.andThen_ok, Sem.run_pure]
end
section
variable {P : Program} {C : Ctx} {S : St} {a : Act} {w : World} {K : Exit → St → Prop}
end
section
variable {m : OM} {P : Program} {T : List (Nat × TI)} {C : Ctx} {ops : Array Oper} {l : List Oper} {K : St → Prop} {n : Nat} {sl : List (Nat × AV)} {hp : List (Nat × HO)} {d : Nat} {ty : Nat} {pos : String} {aft : Array Edge} {gd : Option (Nat × Bool)}
theorem o_sliceCp (hT : TTOk P T) (hw : gval ops ⟨n, sl, hp⟩ gd = gwant gd) {t : Nat} {x : Operand} {sz : Nat} {xs : List AV} {mlen e sz0 by_ : Nat} {z : AV} {te : TI}
    (hx : ev ⟨n, sl, hp⟩ x = .cp (.arr sz mlen xs)) (ht : tget T t = some ⟨.array mlen e, sz0, by_, z⟩) (he : tget T e = some te) (hd : Nat.blt d n = true) (hn : Nat.ble mlen 1000000 = true)
    (h : Ops m P C ops l ⟨n, (d, .sl sz xs) :: sl, hp⟩ K) : Ops m P C ops (⟨some d, .slice t x none none none, ty, pos, aft, gd⟩ :: l) ⟨n, sl, hp⟩ K :=
  Ops.sliceCp hT hw hx ht he hd (Nat.le_trans (Nat.le_of_ble_eq_true hn) (by decide)) h
end
section
variable {m : OM} {P : Program} {T : List (Nat × TI)} {C : Ctx} {S : St} {a : Act} {w : World} {ops : Array Oper} {l : List Oper} {K : St → Prop} {d : Nat} {ty : Nat} {pos : String} {aft : Array Edge} {gd : Option (Nat × Bool)}
end
section
variable {m : OM} {P : Program} {T : List (Nat × TI)} {C : Ctx} {ops : Array Oper} {l : List Oper} {K : St → Prop} {n : Nat} {sl : List (Nat × AV)} {hp : List (Nat × HO)} {d : Nat} {ty : Nat} {pos : String} {aft : Array Edge} {gd : Option (Nat × Bool)}
end
def labA (l : List UInt8) : AV := .arr 1 32 (l.map byA)
end Go.Proofs.Ytapbbifcipemfaa
