/- Calls on objects, named by the pointer that is handed. No program in sight. -/
import Derived.Test.YtnmnhnlebkebfaaV16
namespace Go.Proofs.Ytnmnhnlebkebfaa
open Go Go.RowKit
section
variable {m : OM} {P : Program} {T : List (Nat × TI)} {C : Ctx} {ops : Array Oper} {l : List Oper} {K : St → Prop} {n : Nat} {sl : List (Nat × AV)} {hp : List (Nat × HO)} {d : Nat} {ty : Nat} {pos : String} {aft : Array Edge} {gd : Option (Nat × Bool)}
end
end Go.Proofs.Ytnmnhnlebkebfaa
