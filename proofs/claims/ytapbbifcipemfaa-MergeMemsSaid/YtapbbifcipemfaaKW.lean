/- code.Writer by rules: fail, Number, Text, Flag, Done. -/
import Derived.Test.YtapbbifcipemfaaV16
import Derived.Test.YtapbbifcipemfaaTypes
set_option maxHeartbeats 4000000
namespace Go.Proofs.Ytapbbifcipemfaa
open Go Go.RowKit

/-- What a Writer holds: its bytes, its first error. -/
structure WS where
  bs : List UInt8
  e : Int
def WS.fail (s : WS) (x : Int) : WS := if s.e = 0 then { s with e := x } else s
def WS.put (s : WS) (l : List UInt8) : WS := { s with bs := s.bs ++ l }
def digits (n : Nat) : List UInt8 := if n = 0 then [] else digits (n / 256) ++ [UInt8.ofNat n]
termination_by n
decreasing_by omega
def numBytes (n : Nat) : List UInt8 := UInt8.ofNat (digits n).length :: digits n
def WS.number (s : WS) (n : Int) : WS := if n < 0 then s.fail 1 else s.put (numBytes n.toNat)

def wrA (v : Value) (s : WS) : AV := .agg [.own 1 v, .i .i64 s.e]
def wrO (b : Nat) (v : Value) (s : WS) : List HO := [.var b (wrA v s), .row v 5 1 (s.bs.map byA)]
end Go.Proofs.Ytapbbifcipemfaa
