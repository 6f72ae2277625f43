/- Calls through a function value that is known (in the text's order). No program in sight. -/
import Derived.Test.YtnmnhnlebkebfaaV18
namespace Go.Proofs.Ytnmnhnlebkebfaa
open Go Go.RowKit
section
variable {P : Program} {T : List (Nat × TI)} {C : Ctx} {ops : Array Oper} {l : List Oper} {K : St → Prop} {S : St} {d : Option Tmp} {ty : Nat} {pos : String} {aft : Array Edge} {gd : Option (Nat × Bool)}
end
end Go.Proofs.Ytnmnhnlebkebfaa
