/- law08.BloomMakes by rules. -/
import Derived.Test.YtapbbifcipemfaaKH9
set_option maxHeartbeats 4000000
namespace Go.Proofs.Ytapbbifcipemfaa
open Go Go.RowKit
theorem sameB_self (p : Int) (b : List Bool) : sameB p p b b = true := by unfold sameB; simp
theorem pOf_le {e : Nat} (h : e ≤ 32) : pOf e ≤ 22 := by unfold pOf; split <;> omega
theorem nbOf_le {n e : Nat} (h : n ≤ 300) (he : e ≤ 32) : nbOf n e ≤ 2000 := by
  unfold nbOf
  have : n * e ≤ 300 * 32 := Nat.mul_le_mul h he
  omega
end Go.Proofs.Ytapbbifcipemfaa
