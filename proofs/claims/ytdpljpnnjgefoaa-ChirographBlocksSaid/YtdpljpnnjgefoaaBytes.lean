/- Bytes in memory: []byte of a string and back, append of a string, copy. -/
import Derived.Test.YtdpljpnnjgefoaaProg
import Derived.Test.YtdpljpnnjgefoaaBase2Z
import Derived.Lib.ConvBytes
import Derived.Lib.AppendStr
import Derived.Laws.IdiomStrings
import Derived.Laws.BytesArg
import Derived.Laws.BitsAllLaws
import Derived.Laws.BitsLemmas
namespace Go.Proofs.Ytdpljpnnjgefoaa
open Go.RowKit

def byC (c : UInt8) : List Value := [.int .u8 (c.toNat : Int)]
theorem ofInt_i64 (a : Nat) (ha : a < 9223372036854775808) : (BitVec.ofInt 64 (a : Int)).toNat = a := by
  rw [BitVec.ofInt_natCast, BitVec.toNat_ofNat]; exact Nat.mod_eq_of_lt (by omega)
theorem i64_or_nat (a b : Nat) (ha : a < 9223372036854775808) (hb : b < 9223372036854775808) : bits .or .i64 (a : Int) (b : Int) = ((a ||| b : Nat) : Int) := by
  have hx : a ||| b < 2 ^ 63 := Nat.or_lt_two_pow (by omega) (by omega)
  show IntKind.i64.wrap ((BitVec.ofInt 64 (a : Int) ||| BitVec.ofInt 64 (b : Int)).toNat : Int) = _
  rw [BitVec.toNat_or, ofInt_i64 a ha, ofInt_i64 b hb, IntKind.wrap_i64]
  omega
/-- 'n<<8 | c'. -/
theorem or_byte (x c : Nat) (hc : c < 256) (hx : 256 * x + c < 9223372036854775808) : bits .or .i64 ((x : Int) * 256) (c : Int) = ((256 * x + c : Nat) : Int) := by
  have h1 : ((x : Int) * 256) = ((256 * x : Nat) : Int) := by omega
  rw [h1, i64_or_nat _ _ (by omega) (by omega), ← Nat.two_pow_add_eq_or_of_lt (i := 8) (by omega)]
end Go.Proofs.Ytdpljpnnjgefoaa
