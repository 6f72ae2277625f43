/- More on function values: a variable that is not written any more, in the midst of a region. No program in sight. -/
import Derived.Test.YtdpljpnnjgefoaaV20
namespace Go.Proofs.Ytdpljpnnjgefoaa
open Go Go.RowKit
section
variable {P : Program} {C : Ctx} {ops : Array Oper} {l : List Oper} {K : St → Prop} {n : Nat} {sl : List (Nat × AV)} {hp : List (Nat × HO)}
end
end Go.Proofs.Ytdpljpnnjgefoaa
