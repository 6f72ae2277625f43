/- The cyclic sum: by a table, bit by bit: one and the same. No program in sight. -/
import Derived.Test.YtnmnhnlebkebfaaHW
set_option maxHeartbeats 4000000
namespace Go.Proofs.Ytnmnhnlebkebfaa
open Go Go.RowKit
def crcStep (c : Nat) : Nat := (c / 2) ^^^ (if c % 2 = 1 then 3988292384 else 0)
def crcN : Nat → Nat → Nat
  | 0, c => c
  | k + 1, c => crcN k (crcStep c)
theorem crcN_succ : ∀ (k c : Nat), crcN (k + 1) c = crcStep (crcN k c)
  | 0, _ => rfl
  | k + 1, c => crcN_succ k (crcStep c)
theorem crcStep_lt {c : Nat} (h : c < 4294967296) : crcStep c < 4294967296 := by
  unfold crcStep
  exact Nat.xor_lt_two_pow (n := 32) (by omega) (by split <;> decide)
theorem crcN_lt : ∀ (k : Nat) {c : Nat}, c < 4294967296 → crcN k c < 4294967296
  | 0, _, h => h
  | k + 1, _, h => crcN_lt k (crcStep_lt h)
theorem xor_half (x y : Nat) : (x ^^^ y) / 2 = (x / 2) ^^^ (y / 2) := by
  apply Nat.eq_of_testBit_eq
  intro i
  rw [Nat.testBit_xor, ← Nat.testBit_succ, ← Nat.testBit_succ, ← Nat.testBit_succ, Nat.testBit_xor]
theorem xor_par (x y : Nat) : (x ^^^ y) % 2 = (x % 2 + y % 2) % 2 := by
  have h := Nat.testBit_xor x y 0
  simp only [Nat.testBit_zero] at h
  rcases Nat.mod_two_eq_zero_or_one x with h1 | h1 <;> rcases Nat.mod_two_eq_zero_or_one y with h2 | h2 <;> rcases Nat.mod_two_eq_zero_or_one (x ^^^ y) with h3 | h3 <;> rw [h1, h2, h3] at h <;> rw [h1, h2, h3] <;> simp at h
theorem crcStep_xor (x y : Nat) : crcStep (x ^^^ y) = crcStep x ^^^ crcStep y := by
  unfold crcStep
  rw [xor_half, xor_par]
  have e : ∀ a b c d : Nat, (a ^^^ b) ^^^ (c ^^^ d) = (a ^^^ c) ^^^ (b ^^^ d) := fun a b c d => by
    rw [Nat.xor_assoc, Nat.xor_assoc, ← Nat.xor_assoc b c d, Nat.xor_comm b c, Nat.xor_assoc c b d]
  rw [e (x / 2) _ (y / 2) _]
  congr 1
  rcases Nat.mod_two_eq_zero_or_one x with h1 | h1 <;> rcases Nat.mod_two_eq_zero_or_one y with h2 | h2 <;> rw [h1, h2] <;> decide
theorem crcN_xor : ∀ (k x y : Nat), crcN k (x ^^^ y) = crcN k x ^^^ crcN k y
  | 0, _, _ => rfl
  | k + 1, x, y => by show crcN k (crcStep (x ^^^ y)) = crcN k (crcStep x) ^^^ crcN k (crcStep y); rw [crcStep_xor, crcN_xor k]
theorem crcStep_even (z : Nat) : crcStep (2 * z) = z := by
  unfold crcStep
  rw [if_neg (by omega), Nat.xor_zero]; omega
theorem crc8_shift (z : Nat) : crcN 8 (256 * z) = z := by
  have h : ∀ (k z : Nat), crcN k (2 ^ k * z) = z := by
    intro k
    induction k with
    | zero => intro z; simp [crcN]
    | succ k ih =>
      intro z
      show crcN k (crcStep (2 ^ (k + 1) * z)) = z
      rw [Nat.pow_succ, Nat.mul_comm (2 ^ k) 2, Nat.mul_assoc, crcStep_even, ih]
  exact h 8 z
theorem split_xor (x : Nat) : x = (x % 256) ^^^ (256 * (x / 256)) := by
  apply Nat.eq_of_testBit_eq
  intro i
  rw [Nat.testBit_xor, show (256 : Nat) = 2 ^ 8 from rfl, Nat.testBit_mod_two_pow, Nat.testBit_two_pow_mul, Nat.testBit_div_two_pow]
  by_cases h : i < 8
  · simp [h, show ¬ 8 ≤ i by omega]
  · simp [h, show 8 ≤ i by omega, Nat.sub_add_cancel (show 8 ≤ i by omega)]
theorem crc8_split (x : Nat) : crcN 8 x = crcN 8 (x % 256) ^^^ (x / 256) := by
  conv => lhs; rw [split_xor x, crcN_xor, crc8_shift]
/-- A byte's step: the table's way. -/
def crcByte (c : Nat) (b : UInt8) : Nat := crcN 8 (c ^^^ b.toNat)
theorem crcByte_lt {c : Nat} (h : c < 4294967296) (b : UInt8) : crcByte c b < 4294967296 := crcN_lt 8 (Nat.xor_lt_two_pow (n := 32) h (Nat.lt_trans b.toNat_lt (by decide)))
theorem crcByte_table (c : Nat) (b : UInt8) : crcN 8 ((c % 256) ^^^ b.toNat) ^^^ (c / 256) = crcByte c b := by
  unfold crcByte
  rw [crc8_split (c ^^^ b.toNat)]
  have hb := b.toNat_lt
  have e1 : (c ^^^ b.toNat) % 256 = (c % 256) ^^^ b.toNat := by
    apply Nat.eq_of_testBit_eq
    intro i
    rw [show (256 : Nat) = 2 ^ 8 from rfl, Nat.testBit_mod_two_pow, Nat.testBit_xor, Nat.testBit_xor, Nat.testBit_mod_two_pow]
    by_cases h : i < 8
    · simp [h]
    · have : b.toNat.testBit i = false := Nat.testBit_lt_two_pow (Nat.lt_of_lt_of_le hb (show 2 ^ 8 ≤ 2 ^ _ from Nat.pow_le_pow_right (by decide) (by omega)))
      simp [h, this]
  have e2 : (c ^^^ b.toNat) / 256 = c / 256 := by
    apply Nat.eq_of_testBit_eq
    intro i
    rw [show (256 : Nat) = 2 ^ 8 from rfl, Nat.testBit_div_two_pow, Nat.testBit_xor, Nat.testBit_div_two_pow]
    have : b.toNat.testBit (i + 8) = false := Nat.testBit_lt_two_pow (Nat.lt_of_lt_of_le hb (show 2 ^ 8 ≤ 2 ^ _ from Nat.pow_le_pow_right (by decide) (by omega)))
    rw [this, Bool.xor_false]
  rw [e1, e2]
/-- The document's way: bit k of the byte is taken in at step k. -/
def crcBits (b : Nat) : Nat → Nat → Nat
  | 0, c => c
  | k + 1, c => (crcBits b k c / 2) ^^^ (if (crcBits b k c ^^^ (b / 2 ^ k)) % 2 = 1 then 3988292384 else 0)
theorem crcBits_eq (b c : Nat) : ∀ k, crcBits b k c ^^^ (b / 2 ^ k) = crcN k (c ^^^ b)
  | 0 => by simp [crcBits, crcN]
  | k + 1 => by
    rw [crcN_succ, ← crcBits_eq b c k]
    show ((crcBits b k c / 2) ^^^ _) ^^^ (b / 2 ^ (k + 1)) = crcStep _
    unfold crcStep
    rw [xor_half, show b / 2 ^ (k + 1) = b / 2 ^ k / 2 by rw [Nat.pow_succ, Nat.div_div_eq_div_mul], Nat.xor_assoc, Nat.xor_comm _ (b / 2 ^ k / 2), ← Nat.xor_assoc]
theorem crcBits_byte (c : Nat) (b : UInt8) : crcBits b.toNat 8 c = crcByte c b := by
  have h := crcBits_eq b.toNat c 8
  rw [show b.toNat / 2 ^ 8 = 0 from Nat.div_eq_of_lt b.toNat_lt, Nat.xor_zero] at h
  exact h
theorem crcBits_lt (b : Nat) {c : Nat} (h : c < 4294967296) : ∀ k, crcBits b k c < 4294967296
  | 0 => h
  | k + 1 => Nat.xor_lt_two_pow (n := 32) (by have := crcBits_lt b h k; omega) (by split <;> decide)
def crcLoop (s : List UInt8) : Nat := s.foldl crcByte 4294967295
theorem crcLoop_succ (s : List UInt8) (k : Nat) (h : k < s.length) : crcLoop (s.take (k + 1)) = crcByte (crcLoop (s.take k)) (s[k]'h) := by
  unfold crcLoop; rw [List.take_succ_eq_append_getElem h, List.foldl_append, List.foldl_cons, List.foldl_nil]
theorem crcLoop_lt (s : List UInt8) : crcLoop s < 4294967296 := by
  unfold crcLoop
  have : ∀ (s : List UInt8) (h : Nat), h < 4294967296 → s.foldl crcByte h < 4294967296 := by
    intro s
    induction s with
    | nil => intro h hh; exact hh
    | cons c s ih => intro h hh; exact ih _ (crcByte_lt hh c)
  exact this s _ (by decide)
def crc (s : List UInt8) : Nat := 4294967295 - crcLoop s
theorem crc_lt (s : List UInt8) : crc s < 4294967296 := by unfold crc; omega
/-- Four bytes. -/
def four (x : Nat) : List UInt8 := [UInt8.ofNat (x / 16777216), UInt8.ofNat (x / 65536), UInt8.ofNat (x / 256), UInt8.ofNat x]
def sealHead (n : Nat) : List UInt8 := [94, UInt8.ofNat (n / 65536), UInt8.ofNat (n / 256), UInt8.ofNat n]
def sealWrap (s : List UInt8) : List UInt8 := sealHead s.length ++ four (crc (sealHead s.length ++ s)) ++ s
theorem uwrap32 (n : Nat) : IntKind.u32.wrap (n : Int) = ((n % 4294967296 : Nat) : Int) := by rw [Int.natCast_emod]; rfl
theorem uwrap32_lt {n : Nat} (h : n < 4294967296) : IntKind.u32.wrap (n : Int) = (n : Int) := by rw [uwrap32, Nat.mod_eq_of_lt h]
theorem xor32 {x y : Nat} (hx : x < 4294967296) (hy : y < 4294967296) : bitsI .xor .u32 (x : Int) (y : Int) = ((x ^^^ y : Nat) : Int) := by
  have hl : x ^^^ y < 4294967296 := Nat.xor_lt_two_pow (n := 32) hx hy
  show IntKind.u32.wrap _ = _
  rw [ofInt_nat, ofInt_nat, BitVec.toNat_xor, BitVec.toNat_ofNat, BitVec.toNat_ofNat, show (2 ^ IntKind.u32.bits : Nat) = 4294967296 from rfl, Nat.mod_eq_of_lt hx, Nat.mod_eq_of_lt hy, uwrap32_lt hl]
theorem and32 {x y : Nat} (hx : x < 4294967296) (hy : y < 4294967296) : bitsI .and .u32 (x : Int) (y : Int) = ((x &&& y : Nat) : Int) := by
  have hl : x &&& y < 4294967296 := Nat.lt_of_le_of_lt Nat.and_le_left hx
  show IntKind.u32.wrap _ = _
  rw [ofInt_nat, ofInt_nat, BitVec.toNat_and, BitVec.toNat_ofNat, BitVec.toNat_ofNat, show (2 ^ IntKind.u32.bits : Nat) = 4294967296 from rfl, Nat.mod_eq_of_lt hx, Nat.mod_eq_of_lt hy, uwrap32_lt hl]
theorem or32 {x y : Nat} (hx : x < 4294967296) (hy : y < 4294967296) : bitsI .or .u32 (x : Int) (y : Int) = ((x ||| y : Nat) : Int) := by
  have hl : x ||| y < 4294967296 := Nat.or_lt_two_pow (n := 32) hx hy
  show IntKind.u32.wrap _ = _
  rw [ofInt_nat, ofInt_nat, BitVec.toNat_or, BitVec.toNat_ofNat, BitVec.toNat_ofNat, show (2 ^ IntKind.u32.bits : Nat) = 4294967296 from rfl, Nat.mod_eq_of_lt hx, Nat.mod_eq_of_lt hy, uwrap32_lt hl]
theorem xor8 {x y : Nat} (hx : x < 256) (hy : y < 256) : bitsI .xor .u8 (x : Int) (y : Int) = ((x ^^^ y : Nat) : Int) := by
  have hl : x ^^^ y < 256 := Nat.xor_lt_two_pow (n := 8) hx hy
  show IntKind.u8.wrap _ = _
  rw [ofInt_nat, ofInt_nat, BitVec.toNat_xor, BitVec.toNat_ofNat, BitVec.toNat_ofNat, show (2 ^ IntKind.u8.bits : Nat) = 256 from rfl, Nat.mod_eq_of_lt hx, Nat.mod_eq_of_lt hy, bwrap_nat, Nat.mod_eq_of_lt hl]
theorem shr32 (n : Nat) {k : Nat} (hk : k ≤ 32) : (n : Int).fdiv (2 ^ (min ((k : Int)).toNat (IntKind.bits .u32))) = ((n / 2 ^ k : Nat) : Int) := by
  rw [show min ((k : Int)).toNat (IntKind.bits .u32) = k by rw [show IntKind.bits .u32 = 32 from rfl]; omega, fdiv_pow]
end Go.Proofs.Ytnmnhnlebkebfaa
