/- Entries that are right have rising keys. No program in sight. -/
import Derived.Test.YtapbbifcipemfaaB13
import Derived.Test.YtapbbifcipemfaaB2
namespace Go.Proofs.Ytapbbifcipemfaa
open Go Go.RowKit
theorem rise_lt {l : List Etr} (h : l.Pairwise (fun a b => Op.bytesLess a.k b.k = true)) (i j : Nat) (hi : i < l.length) (hj : j < l.length) (hij : i < j) : Op.bytesLess l[i].k l[j].k = true :=
  List.pairwise_iff_getElem.1 h i j hi hj hij
theorem rise_mono {l : List Etr} (h : l.Pairwise (fun a b => Op.bytesLess a.k b.k = true)) (k : List UInt8) (i j : Nat) (hi : i < l.length) (hj : j < l.length) (hij : i ≤ j) (hk : Op.bytesLess l[j].k k = true) : Op.bytesLess l[i].k k = true := by
  rcases Nat.lt_or_eq_of_le hij with h1 | h1
  · exact less_trans (rise_lt h i j hi hj h1) hk
  · subst h1; exact hk
end Go.Proofs.Ytapbbifcipemfaa
