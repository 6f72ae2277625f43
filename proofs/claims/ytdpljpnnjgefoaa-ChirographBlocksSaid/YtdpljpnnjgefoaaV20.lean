/- Maps that a function makes and owns; functions with what they hold; calls of them. No program in sight. -/
import Derived.Test.YtdpljpnnjgefoaaV19
namespace Go.Proofs.Ytdpljpnnjgefoaa
open Go Go.RowKit

def setB (w : World) (b : Nat) (o : Obj) : World := { w with heap := w.heap.setIfInBounds b o }
/-! Sets: maps to true. -/
def setO (l : List Value) : Obj := .map (l.zipIdx.map (fun p => (⟨p.1, .bool true, p.2⟩ : MapEntry))).toArray l.length
/-- A kind of key that is told by looking. -/
structure KeyK (α : Type) [BEq α] (v : α → Value) (desc : TypeDesc) : Prop where
  now : ∀ a b, Instr.sameNow desc (v a) (v b) = some (a == b)
  plain : ∀ (P : Program) (w : World) (e : Bool) (t : TypeId) a, P.underlying t = some desc → (Instr.checkKey e 10000 t (v a)).run P w = .ok () w
def vI (n : Int) : Value := .int .i64 n
def vS (s : List UInt8) : Value := .string (bytesOf s)
section
variable {α : Type} [BEq α] [LawfulBEq α] {v : α → Value} {desc : TypeDesc}
variable {P : Program} {w : World} {b : Nat} {t kt et : TypeId}
end
section
variable {m : OM} {P : Program} {T : List (Nat × TI)} {C : Ctx} {ops : Array Oper} {l : List Oper} {K : St → Prop} {n : Nat} {sl : List (Nat × AV)} {hp : List (Nat × HO)} {d : Nat} {ty : Nat} {pos : String} {aft : Array Edge} {gd : Option (Nat × Bool)}
section
variable {α : Type} [BEq α] [LawfulBEq α] {v : α → Value} {desc : TypeDesc}
end
/-! Functions with what they hold. -/
def isOne : AV → Bool
  | .agg _ | .arr .. | .tup _ => false
  | _ => true
end
end Go.Proofs.Ytdpljpnnjgefoaa
