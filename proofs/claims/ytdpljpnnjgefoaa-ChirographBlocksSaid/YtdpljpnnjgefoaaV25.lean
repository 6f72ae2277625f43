/- An array built of its parts. -/
import Derived.Test.YtdpljpnnjgefoaaV24
namespace Go.Proofs.Ytdpljpnnjgefoaa
open Go Go.RowKit
def setL (ps : List (Nat × AV)) (zs : List AV) : List AV := ps.foldl (fun c q => c.set q.1 q.2) zs
def okA (sz mlen : Nat) (ps : List (Nat × AV)) : Bool := ps.all (fun q => Nat.blt q.1 mlen && q.2.isVal && Nat.beq (sizeA q.2) sz)
section
variable {P : Program} {T : List (Nat × TI)} {w : World} {F : Nat → Prop}
end
section
variable {m : OM} {P : Program} {T : List (Nat × TI)} {C : Ctx} {ops : Array Oper} {l : List Oper} {K : St → Prop} {n : Nat} {sl : List (Nat × AV)} {hp : List (Nat × HO)} {d : Nat} {ty : Nat} {pos : String} {aft : Array Edge} {gd : Option (Nat × Bool)}
end
end Go.Proofs.Ytdpljpnnjgefoaa
