/- A slice compared with nil; a cut of an owned row whose value nobody uses. -/
import Derived.Test.YtdpljpnnjgefoaaV22
import Derived.Lib.SliceRun
namespace Go.Proofs.Ytdpljpnnjgefoaa
open Go Go.RowKit
section
variable {m : OM} {P : Program} {T : List (Nat × TI)} {C : Ctx} {ops : Array Oper} {l : List Oper} {K : St → Prop} {n : Nat} {sl : List (Nat × AV)} {hp : List (Nat × HO)} {d : Nat} {ty : Nat} {pos : String} {aft : Array Edge} {gd : Option (Nat × Bool)}
end
end Go.Proofs.Ytdpljpnnjgefoaa
