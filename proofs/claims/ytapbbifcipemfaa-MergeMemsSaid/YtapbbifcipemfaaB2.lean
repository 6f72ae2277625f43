/- block.Check, ref09.Check by rules. -/
import Derived.Test.YtapbbifcipemfaaB1
import Derived.Test.YtapbbifcipemfaaV18
set_option maxHeartbeats 8000000
namespace Go.Proofs.Ytapbbifcipemfaa
open Go Go.RowKit
def chkE (prev : Option (List UInt8)) (x : Etr) : Int :=
  if x.k.length = 0 ∨ (x.g = true ∧ 0 < x.v.length) then 3 else if 100 < x.k.length ∨ 4000 < x.v.length then 2 else match prev with
    | none => 0
    | some p => if Op.bytesLess p x.k = true then 0 else 3
def chkL : Option (List UInt8) → List Etr → Int
  | _, [] => 0
  | p, x :: r => if chkE p x ≠ 0 then chkE p x else chkL (some x.k) r
def checkN (l : List Etr) : Int := if 256 < l.length then 2 else chkL none l
def prevAt (l : List Etr) : Nat → Option (List UInt8)
  | 0 => none
  | m + 1 => (l[m]?).map (·.k)
end Go.Proofs.Ytapbbifcipemfaa
