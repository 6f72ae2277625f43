/- ref08.Same, ref08.Of by rules. -/
import Derived.Test.YtapbbifcipemfaaKH3
set_option maxHeartbeats 4000000
namespace Go.Proofs.Ytapbbifcipemfaa
open Go Go.RowKit
def sameB (p q : Int) (a b : List Bool) : Bool := decide (p = q) && decide (a = b)
theorem take_eq_succ {a b : List Bool} {k : Nat} (ha : k < a.length) (hb : k < b.length) (h : a.take k = b.take k) (he : a[k] = b[k]) : a.take (k + 1) = b.take (k + 1) := by
  rw [List.take_succ_eq_append_getElem ha, List.take_succ_eq_append_getElem hb, h, he]
theorem bit_is (c : UInt8) (j : Nat) (hj : j < 8) : ∃ h : j < (bitsOf [c]).length, (bitsI .and .u8 ((c.toNat : Int).fdiv (2 ^ (min (j : Int).toNat (IntKind.bits .u8)))) 1 == 1) = (bitsOf [c])[j] := by
  have hl : j < (bitsOf [c]).length := by rw [bitsOf_len]; simpa using hj
  refine ⟨hl, ?_⟩
  have h1 := bit_test c j
  rw [show ((j : Int) % 8) = j by omega] at h1
  rw [h1]
  have h2 := bitsOf_get [c] j
  rw [List.getElem?_eq_getElem hl, Nat.div_eq_of_lt hj, Nat.mod_eq_of_lt hj] at h2
  rw [Option.some.inj h2, Nat.mod_eq_of_lt hj]
  show _ = c.toNat.testBit j
  cases c.toNat.testBit j <;> rfl
end Go.Proofs.Ytapbbifcipemfaa
