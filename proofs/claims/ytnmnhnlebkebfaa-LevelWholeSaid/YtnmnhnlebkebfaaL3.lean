/- ref11.Ahead, number, key, Check by rules. -/
import Derived.Test.YtnmnhnlebkebfaaL2
set_option maxHeartbeats 8000000
set_option maxRecDepth 100000
namespace Go.Proofs.Ytnmnhnlebkebfaa
open Go Go.RowKit
def numOk (n : Int) : Bool := decide (0 ≤ n ∧ n ≤ 1073741824)
end Go.Proofs.Ytnmnhnlebkebfaa
