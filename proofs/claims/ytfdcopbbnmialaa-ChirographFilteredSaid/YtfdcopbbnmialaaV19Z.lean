/- Calls through a function value that is known (in the text's order). No program in sight. -/
import Derived.Test.YtfdcopbbnmialaaV18
import Derived.Lib.SliceRun
import Derived.Test.YtfdcopbbnmialaaV14Z
import Derived.DeepKeys3
namespace Go.Proofs.Ytfdcopbbnmialaa
open Go Go.RowKit
section
variable {P : Program} {T : List (Nat × TI)} {C : Ctx} {ops : Array Oper} {l : List Oper} {K : St → Prop} {S : St} {d : Option Tmp} {ty : Nat} {pos : String} {aft : Array Edge} {gd : Option (Nat × Bool)}
end
end Go.Proofs.Ytfdcopbbnmialaa
namespace Go.Proofs.Ytfdcopbbnmialaa
open Go Go.RowKit

def setB (w : World) (b : Nat) (o : Obj) : World := { w with heap := w.heap.setIfInBounds b o }
/-! Sets: maps to true. -/
def setO (l : List Value) : Obj := .map (l.zipIdx.map (fun p => (⟨p.1, .bool true, p.2⟩ : MapEntry))).toArray l.length
/-- A kind of key that is told by looking. -/
structure KeyK (α : Type) [BEq α] (v : α → Value) (desc : TypeDesc) : Prop where
  now : ∀ a b, Instr.sameNow desc (v a) (v b) = some (a == b)
  plain : ∀ (P : Program) (w : World) (e : Bool) (t : TypeId) a, P.underlying t = some desc → (Instr.checkKey e 10000 t (v a)).run P w = .ok () w
def vI (n : Int) : Value := .int .i64 n
def vS (s : List UInt8) : Value := .string (bytesOf s)
theorem bytesOf_inj {a b : List UInt8} (h : bytesOf a = bytesOf b) : a = b := by
  have := congrArg (fun x => x.data.toList) h
  simpa [bytesOf] using this
theorem keyS : KeyK (List UInt8) vS .string where
  now a b := by
    unfold vS
    simp only [Instr.sameNow]
    congr 1
    show ((bytesOf a).data == (bytesOf b).data) = _
    by_cases hab : a = b
    · subst hab; simp
    · have h1 : (a == b) = false := by simpa using hab
      rw [h1]
      cases hq : ((bytesOf a).data == (bytesOf b).data) with
      | false => rfl
      | true => exact absurd (by simpa [bytesOf] using hq) hab
  plain P w e t a h := by unfold Instr.checkKey; simp [underlying, Sem.run_bind, vS, h, show (program).run P w = .ok P w from rfl, Sem.run_pure, Result.andThen_ok]
section
variable {α : Type} [BEq α] [LawfulBEq α] {v : α → Value} {desc : TypeDesc}
variable {P : Program} {w : World} {b : Nat} {t kt et : TypeId}
end
theorem Mod.setB_ {w : World} {b : Nat} {S : Nat → Prop} (hS : S b) (o : Obj) : Mod S w (setB w b o) :=
  ⟨rfl, rfl, rfl, by simp [setB], fun k _ hn => by
    have hne : b ≠ k := fun h => hn (h ▸ hS)
    show (w.heap.setIfInBounds b o)[k]? = _
    rw [Array.getElem?_setIfInBounds_ne hne]⟩
section
variable {m : OM} {P : Program} {T : List (Nat × TI)} {C : Ctx} {ops : Array Oper} {l : List Oper} {K : St → Prop} {n : Nat} {sl : List (Nat × AV)} {hp : List (Nat × HO)} {d : Nat} {ty : Nat} {pos : String} {aft : Array Edge} {gd : Option (Nat × Bool)}
theorem map_desc (hT : TTOk P T) {t kt et sz by_ : Nat} {z : AV} (ht : tget T t = some ⟨.map kt et, sz, by_, z⟩) : P.underlying t = some (.map kt et) := by
  obtain ⟨dd, h1, h2⟩ := (tget_ok hT ht).desc
  have h2 : kOf dd = .map kt et := h2
  cases dd <;> simp only [kOf] at h2 <;> first | (cases h2; rw [h1]) | cases h2
theorem o_makeMap (hw : gval ops ⟨n, sl, hp⟩ gd = gwant gd) {t : Nat} (hd : Nat.blt d n = true)
    (h : ∀ b, Ops m P C ops l ⟨n, (d, .own d (.map (some b))) :: sl, (d, .obj b (setO [])) :: hp⟩ K) : Ops m P C ops (⟨some d, .makeMap t none, ty, pos, aft, gd⟩ :: l) ⟨n, sl, hp⟩ K := by
  refine Ops.eff hw [] oke_nil rfl fun a w hs => ?_
  have hm : Mod None_ w (w.alloc (setO [])) := (Mod.refl _ w).alloc _
  refine ⟨.map (some w.heap.size), w.alloc (setO []), ⟨n, sl, (d, .obj w.heap.size (setO [])) :: hp⟩, .own d (.map (some w.heap.size)), ?_, ?_, hd, repV_own.2 ⟨rfl, rfl⟩, Eff.new hm (fun b hb => Nat.le_of_eq (List.mem_singleton.1 hb).symm), h _⟩
  · simp [execOp, Instr.makeMap, newObj, Sem.run, setO]
  · refine hs.new d _ hm ?_ (fun b hb => ?_)
    · show (w.alloc (setO [])).heap[w.heap.size]? = _
      exact (MapKept.heap_alloc w _).1
    · have : w.heap.size = b := (List.mem_singleton.1 hb).symm
      subst this
      simp
section
variable {α : Type} [BEq α] [LawfulBEq α] {v : α → Value} {desc : TypeDesc}
end
/-! Functions with what they hold. -/
def isOne : AV → Bool
  | .agg _ | .arr .. | .tup _ => false
  | _ => true
end
end Go.Proofs.Ytfdcopbbnmialaa
namespace Go.Proofs.Ytfdcopbbnmialaa
open Go Go.RowKit
section
variable {P : Program} {C : Ctx} {ops : Array Oper} {l : List Oper} {K : St → Prop} {n : Nat} {sl : List (Nat × AV)} {hp : List (Nat × HO)}
end
end Go.Proofs.Ytfdcopbbnmialaa
namespace Go.Proofs.Ytfdcopbbnmialaa
open Go Go.RowKit
section
variable {P : Program} {C : Ctx} {S : St} {a : Act} {w : World} {K : Exit → St → Prop}
end
section
variable {m : OM} {P : Program} {C : Ctx} {ops : Array Oper} {o : Oper} {l : List Oper} {K : St → Prop} {n : Nat} {sl : List (Nat × AV)} {hp : List (Nat × HO)}
end
end Go.Proofs.Ytfdcopbbnmialaa
namespace Go.Proofs.Ytfdcopbbnmialaa
open Go Go.RowKit
section
variable {m : OM} {P : Program} {T : List (Nat × TI)} {C : Ctx} {ops : Array Oper} {l : List Oper} {K : St → Prop} {n : Nat} {sl : List (Nat × AV)} {hp : List (Nat × HO)} {d : Nat} {ty : Nat} {pos : String} {aft : Array Edge} {gd : Option (Nat × Bool)}
/-- A slice that may be nil: only if it has no element. -/
theorem o_eqNilSl (hT : TTOk P T) (hw : gval ops ⟨n, sl, hp⟩ gd = gwant gd) {t u e sz : Nat} {x y : Operand} {xs : List AV} {sz0 by0 : Nat} {z0 : AV}
    (hx : ev ⟨n, sl, hp⟩ x = .sl sz xs) (hy : ev ⟨n, sl, hp⟩ y = .nil) (ht : tget T t = some ⟨.slice e, sz0, by0, z0⟩) (hd : Nat.blt d n = true)
    (h : ∀ c : Bool, (c = true → xs = []) → Ops .text P C ops l ⟨n, (d, .b c) :: sl, hp⟩ K) : Ops .text P C ops (⟨some d, .binOp .eql t x y u, ty, pos, aft, gd⟩ :: l) ⟨n, sl, hp⟩ K := by
  refine ⟨fun Q E a w hs hK => ?_⟩
  have hw2 := wanted_of (d := some d) (op := .binOp .eql t x y u) (ty := ty) (pos := pos) (aft := aft) hs hw
  intro he
  show wpList P ops Q (_ :: l) a w
  have Ex := ev_rep hs x
  have Ey := ev_rep hs y
  rw [hx, repV_sl] at Ex
  rw [hy, repV_nil] at Ey
  obtain ⟨A, cap, e1, h1, h2, h3⟩ := Ex
  have hu := tk_slice (tget_ok hT ht)
  refine wpList_of_wp hw2 ?_
  have hr := Lib.run_eql_slice_nil (P := P) w t e A xs.length cap 0 0 hu
  have hg : (eqGuard .eql t x y (.slice A xs.length cap) (.slice none 0 0)).run P w = .ok () w := by simp [eqGuard]
  unfold Oper.wp
  simp only [execOp, e1, Ey, Sem.run_bind, hg, hr, Result.andThen_ok, Sem.run_pure]
  refine (h A.isNone (fun hA => ?_)).out Q E _ w (hs.put (blt_lt hd) (repV_b.2 rfl)) hK he
  rcases Classical.em (xs = []) with h0 | h0
  · exact h0
  · obtain ⟨b, off, rfl, _⟩ := h3 h0
    cases hA
end
end Go.Proofs.Ytfdcopbbnmialaa
namespace Go.Proofs.Ytfdcopbbnmialaa
open Go Go.RowKit
section
variable {m : OM} {P : Program} {T : List (Nat × TI)} {C : Ctx} {ops : Array Oper} {l : List Oper} {K : St → Prop} {n : Nat} {sl : List (Nat × AV)} {hp : List (Nat × HO)} {d : Nat} {ty : Nat} {pos : String} {aft : Array Edge} {gd : Option (Nat × Bool)}
end
end Go.Proofs.Ytfdcopbbnmialaa
namespace Go.Proofs.Ytfdcopbbnmialaa
open Go Go.RowKit
def setL (ps : List (Nat × AV)) (zs : List AV) : List AV := ps.foldl (fun c q => c.set q.1 q.2) zs
def okA (sz mlen : Nat) (ps : List (Nat × AV)) : Bool := ps.all (fun q => Nat.blt q.1 mlen && q.2.isVal && Nat.beq (sizeA q.2) sz)
section
variable {P : Program} {T : List (Nat × TI)} {w : World} {F : Nat → Prop}
end
section
variable {m : OM} {P : Program} {T : List (Nat × TI)} {C : Ctx} {ops : Array Oper} {l : List Oper} {K : St → Prop} {n : Nat} {sl : List (Nat × AV)} {hp : List (Nat × HO)} {d : Nat} {ty : Nat} {pos : String} {aft : Array Edge} {gd : Option (Nat × Bool)}
end
end Go.Proofs.Ytfdcopbbnmialaa
namespace Go.Proofs.Ytfdcopbbnmialaa
open Go Go.RowKit
section
variable {m : OM} {P : Program} {T : List (Nat × TI)} {C : Ctx} {ops : Array Oper} {l : List Oper} {K : St → Prop} {n : Nat} {sl : List (Nat × AV)} {hp : List (Nat × HO)} {d : Nat} {ty : Nat} {pos : String} {aft : Array Edge} {gd : Option (Nat × Bool)}
end
end Go.Proofs.Ytfdcopbbnmialaa
namespace Go.Proofs.Ytfdcopbbnmialaa
open Go Go.RowKit
section
variable {P : Program} {C : Ctx} {S : St}
end
/-! Labels as keys. -/
def vL (l : List UInt8) : Value := .agg (l.map fun c => Value.int .u8 (c.toNat : Int)).toArray
section
variable {P : Program} (w : World)
structure LabK (P : Program) (kt : TypeId) (k : Nat) : Prop where
  ex : ∃ e ie, P.underlying kt = some (.array k e) ∧ P.underlying e = some (.int .u8) ∧ P.info? e = some ie ∧ P.cellsOf e = 1
def entL (j : Nat) (l : List (List UInt8)) : List MapEntry := ((l.map vL).zipIdx j).map (fun p => (⟨p.1, .bool true, p.2⟩ : MapEntry))
def addK (l : List (List UInt8)) (a : List UInt8) : List (List UInt8) := if l.contains a = true then l else l ++ [a]
/-- The map while a new entry has no value yet; the entry's stamp. -/
def entO (l : List (List UInt8)) (a : List UInt8) : Obj := if l.contains a = true then setO (l.map vL) else .map ((entL 0 l).toArray.push ⟨vL a, .bool false, l.length⟩) (l.length + 1)
theorem getObj_run {b : Nat} {es : Array MapEntry} {c : Nat} (hb : w.heap[b]? = some (.map es c)) : (getObj b).run P w = .ok (.map es c) w := by unfold getObj; simp [Sem.run, hb]
theorem setObj_run {b : Nat} {es es' : Array MapEntry} {c c' : Nat} (hb : w.heap[b]? = some (.map es c)) : (setObj b (.map es' c')).run P w = .ok () (setB w b (.map es' c')) := by
  simp only [setObj, Sem.run, hb]
  rfl
variable {b : Nat} {t kt et : TypeId} {k : Nat}
end
section
variable {m : OM} {P : Program} {T : List (Nat × TI)} {C : Ctx} {ops : Array Oper} {l : List Oper} {K : St → Prop} {n : Nat} {sl : List (Nat × AV)} {hp : List (Nat × HO)} {d : Nat} {ty : Nat} {pos : String} {aft : Array Edge} {gd : Option (Nat × Bool)}
end
end Go.Proofs.Ytfdcopbbnmialaa
