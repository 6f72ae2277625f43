/- Entries compared. -/
import Derived.Test.YtdpljpnnjgefoaaB1
import Derived.Laws.StructEq
set_option maxHeartbeats 8000000
namespace Go.Proofs.Ytdpljpnnjgefoaa
open Go Go.RowKit
def entEq (x y : Etr) : Bool := x.k == y.k && (x.v == y.v && x.g == y.g)
section
variable {m : OM} {C : Ctx} {ops : Array Oper} {l : List Oper} {K : St → Prop} {n : Nat} {sl : List (Nat × AV)} {hp : List (Nat × HO)} {d : Nat} {ty : Nat} {pos : String} {aft : Array Edge} {gd : Option (Nat × Bool)}
end
end Go.Proofs.Ytdpljpnnjgefoaa
