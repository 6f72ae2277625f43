/- What wrapped operations on 64 bits and on bytes are on naturals. No program in sight. -/
import Derived.Test.YtapbbifcipemfaaV18
set_option maxHeartbeats 4000000
namespace Go.Proofs.Ytapbbifcipemfaa
open Go Go.RowKit
theorem fdiv_pow (n k : Nat) : (n : Int).fdiv (2 ^ k) = ((n / 2 ^ k : Nat) : Int) := by
  rw [show (2 : Int) ^ k = ((2 ^ k : Nat) : Int) by rw [Int.natCast_pow]; rfl, Int.ofNat_fdiv]
theorem shr64 (n : Nat) {k : Nat} (hk : k ≤ 64) : (n : Int).fdiv (2 ^ (min ((k : Int)).toNat (IntKind.bits .u64))) = ((n / 2 ^ k : Nat) : Int) := by
  rw [show min ((k : Int)).toNat (IntKind.bits .u64) = k by rw [show IntKind.bits .u64 = 64 from rfl]; omega, fdiv_pow]
theorem wrapmid (i j : Nat) (h : i + j < 1000000) : IntKind.i64.wrap ((IntKind.u64.wrap ((i : Int) + j)).fdiv (2 ^ (min (Int.toNat 1) (IntKind.bits .u64)))) = (((i + j) / 2 : Nat) : Int) := by
  have e1 : IntKind.u64.wrap ((i : Int) + j) = ((i + j : Nat) : Int) := by
    rw [IntWalk.u64_in _ (by omega)]; omega
  have e2 := shr64 (i + j) (k := 1) (by decide)
  rw [e1, show (Int.toNat 1) = ((1 : Nat) : Int).toNat from rfl, e2, wrap64 _ (by omega)]
end Go.Proofs.Ytapbbifcipemfaa
