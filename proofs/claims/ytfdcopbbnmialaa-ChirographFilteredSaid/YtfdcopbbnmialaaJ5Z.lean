/- What an append and a sync leave is a disk. No program in sight. -/
import Derived.Test.YtfdcopbbnmialaaDK4
import Derived.Test.YtfdcopbbnmialaaV18
set_option maxHeartbeats 4000000
namespace Go.Proofs.Ytfdcopbbnmialaa
open Go Go.RowKit
theorem get_none {D : Dsk} {nm : List UInt8} (h : D.get nm = none) : nm ∉ D.fs.map (·.nm) := fun hm => by
  obtain ⟨f, hf, hn⟩ := List.mem_map.1 hm
  exact absurd (beq_iff_eq.2 hn) (List.find?_eq_none.1 h f hf)
theorem nd_split {l s r : List Fil} {f : Fil} (hst : l = s ++ f :: r) (nd : (l.map (·.nm)).Nodup) : (∀ g ∈ s, g.nm ≠ f.nm) ∧ (∀ g ∈ r, g.nm ≠ f.nm) := by
  subst hst
  rw [List.map_append, List.map_cons] at nd
  have h1 := List.nodup_append.1 nd
  refine ⟨fun g hg he => h1.2.2 g.nm (List.mem_map.2 ⟨g, hg, rfl⟩) f.nm (List.mem_cons_self ..) he, fun g hg he => (List.nodup_cons.1 h1.2.1).1 (List.mem_map.2 ⟨g, hg, he⟩)⟩
theorem map_split {l s r : List Fil} {f : Fil} {u : Fil → Fil} (hst : l = s ++ f :: r) (nd : (l.map (·.nm)).Nodup) : l.map (fun g => if g.nm = f.nm then u g else g) = s ++ u f :: r := by
  obtain ⟨h1, h2⟩ := nd_split hst nd
  rw [hst, List.map_append, List.map_cons, if_pos rfl, map_id_of (fun g hg => if_neg (h1 g hg)), map_id_of (fun g hg => if_neg (h2 g hg))]
theorem app_cases {D : Dsk} {nm b : List UInt8} {q : Nat} (ok : D.ok) (hE : appE D nm b ≠ 10 ∨ D.dead = false) (h : ¬ (D.dead = true ∨ goodN nm = false ∨ D.room - (D.used : Int) < b.length ∨ (D.get nm = none ∧ 4096 ≤ D.fs.length))) :
    (D.get nm = none ∧ appF D.fs D.clk q nm b = D.fs ++ [⟨nm, q, D.clk, b, 0⟩]) ∨ ∃ s f r, D.get nm = some f ∧ f.nm = nm ∧ D.fs = s ++ f :: r ∧ appF D.fs D.clk q nm b = s ++ ⟨f.nm, f.blk, f.born, f.b ++ b, f.sure⟩ :: r := by
  cases hg : D.get nm with
  | none =>
    refine .inl ⟨rfl, ?_⟩
    have hg2 : D.fs.find? (fun f => f.nm == nm) = none := hg
    unfold appF
    rw [hg2]
  | some f =>
    obtain ⟨hm, rfl⟩ := get_mem hg
    obtain ⟨s, r, hst⟩ := List.append_of_mem hm
    refine .inr ⟨s, f, r, rfl, rfl, hst, ?_⟩
    have hg2 : D.fs.find? (fun g => g.nm == f.nm) = some f := hg
    unfold appF
    rw [hg2]
    exact map_split (u := fun g => ⟨g.nm, g.blk, g.born, g.b ++ b, g.sure⟩) hst ok.nd
theorem usedF_app (a b : List Fil) : usedF (a ++ b) = usedF a + usedF b := by unfold usedF; rw [List.map_append, List.sum_append]
theorem appD_ok {D : Dsk} {nm b : List UInt8} {q : Nat} (ok : D.ok) : (appD D nm b q).ok ∧ (appD D nm b q).used ≤ max D.used 1099511627776 ∧ (appD D nm b q).room = D.room ∧ (appD D nm b q).used ≤ D.used + b.length ∧ (appD D nm b q).fs.length ≤ D.fs.length + 1 := by
  unfold appD
  by_cases hc : D.dead = true ∨ goodN nm = false ∨ D.room - (D.used : Int) < b.length ∨ (D.get nm = none ∧ 4096 ≤ D.fs.length)
  · rw [if_pos hc]; exact ⟨ok, by omega, rfl, by omega, by omega⟩
  rw [if_neg hc]
  have hd : D.dead = false := by cases h : D.dead with | false => rfl | true => exact absurd (.inl h) hc
  have hgd : goodN nm = true := by cases h : goodN nm with | true => rfl | false => exact absurd (.inr (.inl h)) hc
  have hrm : (D.used : Int) + b.length ≤ D.room := by
    by_cases h : D.room - (D.used : Int) < b.length
    · exact absurd (.inr (.inr (.inl h))) hc
    · omega
  have hro := ok.room
  have hnl : nm.length ≤ 100 := by unfold goodN at hgd; simp at hgd; exact hgd.2
  rcases app_cases (q := q) ok (.inr hd) hc with ⟨hg, hf⟩ | ⟨s, f, r, hg, hn, hst, hf⟩
  · have hu : usedF (D.fs ++ [⟨nm, q, D.clk, b, 0⟩]) = D.used + b.length := by rw [usedF_app]; rfl
    rw [hf, if_pos hg]
    refine ⟨⟨?_, ?_, ?_, ?_, ?_, hro⟩, ?_, rfl, ?_, ?_⟩
    · show (List.map Fil.nm (D.fs ++ [_])).Nodup
      rw [List.map_append]
      exact List.nodup_append.2 ⟨ok.nd, List.nodup_cons.2 ⟨by simp, List.nodup_nil⟩, fun a ha c hcm he => by
        rw [List.mem_singleton.1 hcm] at he; subst he; exact get_none hg ha⟩
    · show (List.map Fil.born (D.fs ++ [_])).Nodup
      rw [List.map_append]
      exact List.nodup_append.2 ⟨ok.bn, List.nodup_cons.2 ⟨by simp, List.nodup_nil⟩, fun a ha c hcm he => by
        rw [List.mem_singleton.1 hcm] at he; subst he
        obtain ⟨g, hgm, hgb⟩ := List.mem_map.1 ha
        have := ok.lt g hgm
        have hgb : g.born = D.clk := hgb
        omega⟩
    · intro g hgm
      show g.born < D.clk + 1
      rcases List.mem_append.1 hgm with h | h
      · exact Nat.lt_succ_of_lt (ok.lt g h)
      · rw [List.mem_singleton.1 h]; exact Nat.lt_succ_self _
    · intro g hgm
      rcases List.mem_append.1 hgm with h | h
      · exact ok.nl g h
      · rw [List.mem_singleton.1 h]; exact hnl
    · intro g hgm
      rcases List.mem_append.1 hgm with h | h
      · exact ok.su g h
      · rw [List.mem_singleton.1 h]; exact Nat.zero_le _
    · show usedF _ ≤ _
      rw [hu]; omega
    · show usedF _ ≤ _
      rw [hu]; exact Nat.le_refl _
    · show (D.fs ++ [_]).length ≤ _
      rw [List.length_append]; exact Nat.le_refl _
  · have hu : usedF (s ++ (⟨f.nm, f.blk, f.born, f.b ++ b, f.sure⟩ : Fil) :: r) = D.used + b.length := by
      unfold Dsk.used
      rw [hst, usedF_app, usedF_app, usedF_cons, usedF_cons, List.length_append]; omega
    rw [hf, if_neg (by rw [hg]; exact fun h => by cases h)]
    have hnm : (s ++ (⟨f.nm, f.blk, f.born, f.b ++ b, f.sure⟩ : Fil) :: r).map (·.nm) = D.fs.map (·.nm) := by rw [hst, List.map_append, List.map_append]; rfl
    have hbn : (s ++ (⟨f.nm, f.blk, f.born, f.b ++ b, f.sure⟩ : Fil) :: r).map (·.born) = D.fs.map (·.born) := by rw [hst, List.map_append, List.map_append]; rfl
    have hall : ∀ g ∈ (s ++ (⟨f.nm, f.blk, f.born, f.b ++ b, f.sure⟩ : Fil) :: r), g.born < D.clk ∧ g.nm.length ≤ 100 ∧ g.sure ≤ g.b.length := by
      intro g hgm
      have hof : ∀ g ∈ D.fs, g.born < D.clk ∧ g.nm.length ≤ 100 ∧ g.sure ≤ g.b.length := fun g h => ⟨ok.lt g h, ok.nl g h, ok.su g h⟩
      rw [hst] at hof
      rcases List.mem_append.1 hgm with h | h
      · exact hof g (List.mem_append_left _ h)
      rcases List.mem_cons.1 h with h | h
      · have := hof f (List.mem_append_right _ (List.mem_cons_self ..))
        subst h
        refine ⟨this.1, this.2.1, ?_⟩
        show f.sure ≤ (f.b ++ b).length
        rw [List.length_append]; omega
      · exact hof g (List.mem_append_right _ (List.mem_cons_of_mem _ h))
    refine ⟨⟨?_, ?_, fun g hg => (hall g hg).1, fun g hg => (hall g hg).2.1, fun g hg => (hall g hg).2.2, hro⟩, ?_, rfl, ?_, ?_⟩
    · show (List.map _ _).Nodup
      rw [hnm]; exact ok.nd
    · show (List.map _ _).Nodup
      rw [hbn]; exact ok.bn
    · show usedF _ ≤ _
      rw [hu]; omega
    · show usedF _ ≤ _
      rw [hu]; exact Nat.le_refl _
    · show (s ++ _ :: r).length ≤ _
      rw [hst, List.length_append, List.length_append, List.length_cons, List.length_cons]; omega
end Go.Proofs.Ytfdcopbbnmialaa
set_option maxHeartbeats 4000000
namespace Go.Proofs.Ytfdcopbbnmialaa
open Go Go.RowKit
theorem uwrap_nat (n : Nat) : IntKind.u64.wrap (n : Int) = ((n % 18446744073709551616 : Nat) : Int) := by rw [Int.natCast_emod]; rfl
theorem uwrap_lt {n : Nat} (h : n < 18446744073709551616) : IntKind.u64.wrap (n : Int) = (n : Int) := by rw [uwrap_nat, Nat.mod_eq_of_lt h]
theorem bwrap_nat (n : Nat) : IntKind.u8.wrap (n : Int) = ((n % 256 : Nat) : Int) := by rw [Int.natCast_emod]; rfl
theorem iwrap_lt {n : Nat} (h : n < 9223372036854775808) : IntKind.i64.wrap (n : Int) = (n : Int) := by
  show (if _ then _ else _) = _
  have h1 : (n : Int) % (2 ^ IntKind.i64.bits : Int) = n := Int.emod_eq_of_lt (by omega) (by show (n : Int) < 18446744073709551616; omega)
  simp only [h1]
  rw [if_neg]
  rw [Bool.and_eq_true]
  rintro ⟨_, h2⟩
  rw [decide_eq_true_eq] at h2
  have : (9223372036854775808 : Int) ≤ n := h2
  omega
theorem ofInt_nat (w n : Nat) : BitVec.ofInt w (n : Int) = BitVec.ofNat w n := BitVec.ofInt_natCast w n
theorem xor64 {x y : Nat} (hx : x < 18446744073709551616) (hy : y < 18446744073709551616) : bitsI .xor .u64 (x : Int) (y : Int) = ((x ^^^ y : Nat) : Int) := by
  have hl : x ^^^ y < 18446744073709551616 := Nat.xor_lt_two_pow (n := 64) hx hy
  show IntKind.u64.wrap _ = _
  rw [ofInt_nat, ofInt_nat, BitVec.toNat_xor, BitVec.toNat_ofNat, BitVec.toNat_ofNat, show (2 ^ IntKind.u64.bits : Nat) = 18446744073709551616 from rfl, Nat.mod_eq_of_lt hx, Nat.mod_eq_of_lt hy, uwrap_lt hl]
theorem or64 {x y : Nat} (hx : x < 18446744073709551616) (hy : y < 18446744073709551616) : bitsI .or .u64 (x : Int) (y : Int) = ((x ||| y : Nat) : Int) := by
  have hl : x ||| y < 18446744073709551616 := Nat.or_lt_two_pow (n := 64) hx hy
  show IntKind.u64.wrap _ = _
  rw [ofInt_nat, ofInt_nat, BitVec.toNat_or, BitVec.toNat_ofNat, BitVec.toNat_ofNat, show (2 ^ IntKind.u64.bits : Nat) = 18446744073709551616 from rfl, Nat.mod_eq_of_lt hx, Nat.mod_eq_of_lt hy, uwrap_lt hl]
theorem or8 {x y : Nat} (hx : x < 256) (hy : y < 256) : bitsI .or .u8 (x : Int) (y : Int) = ((x ||| y : Nat) : Int) := by
  have hl : x ||| y < 256 := Nat.or_lt_two_pow (n := 8) hx hy
  show IntKind.u8.wrap _ = _
  rw [ofInt_nat, ofInt_nat, BitVec.toNat_or, BitVec.toNat_ofNat, BitVec.toNat_ofNat, show (2 ^ IntKind.u8.bits : Nat) = 256 from rfl, Nat.mod_eq_of_lt hx, Nat.mod_eq_of_lt hy, bwrap_nat, Nat.mod_eq_of_lt hl]
theorem and8 {x y : Nat} (hx : x < 256) (hy : y < 256) : bitsI .and .u8 (x : Int) (y : Int) = ((x &&& y : Nat) : Int) := by
  have hl : x &&& y < 256 := Nat.lt_of_le_of_lt Nat.and_le_left hx
  show IntKind.u8.wrap _ = _
  rw [ofInt_nat, ofInt_nat, BitVec.toNat_and, BitVec.toNat_ofNat, BitVec.toNat_ofNat, show (2 ^ IntKind.u8.bits : Nat) = 256 from rfl, Nat.mod_eq_of_lt hx, Nat.mod_eq_of_lt hy, bwrap_nat, Nat.mod_eq_of_lt hl]
theorem fdiv_pow (n k : Nat) : (n : Int).fdiv (2 ^ k) = ((n / 2 ^ k : Nat) : Int) := by
  rw [show (2 : Int) ^ k = ((2 ^ k : Nat) : Int) by rw [Int.natCast_pow]; rfl, Int.ofNat_fdiv]
theorem shr64 (n : Nat) {k : Nat} (hk : k ≤ 64) : (n : Int).fdiv (2 ^ (min ((k : Int)).toNat (IntKind.bits .u64))) = ((n / 2 ^ k : Nat) : Int) := by
  rw [show min ((k : Int)).toNat (IntKind.bits .u64) = k by rw [show IntKind.bits .u64 = 64 from rfl]; omega, fdiv_pow]
end Go.Proofs.Ytfdcopbbnmialaa
set_option maxHeartbeats 4000000
namespace Go.Proofs.Ytfdcopbbnmialaa
open Go Go.RowKit
def crcStep (c : Nat) : Nat := (c / 2) ^^^ (if c % 2 = 1 then 3988292384 else 0)
def crcN : Nat → Nat → Nat
  | 0, c => c
  | k + 1, c => crcN k (crcStep c)
theorem crcN_succ : ∀ (k c : Nat), crcN (k + 1) c = crcStep (crcN k c)
  | 0, _ => rfl
  | k + 1, c => crcN_succ k (crcStep c)
theorem crcStep_lt {c : Nat} (h : c < 4294967296) : crcStep c < 4294967296 := by
  unfold crcStep
  exact Nat.xor_lt_two_pow (n := 32) (by omega) (by split <;> decide)
theorem crcN_lt : ∀ (k : Nat) {c : Nat}, c < 4294967296 → crcN k c < 4294967296
  | 0, _, h => h
  | k + 1, _, h => crcN_lt k (crcStep_lt h)
theorem xor_half (x y : Nat) : (x ^^^ y) / 2 = (x / 2) ^^^ (y / 2) := by
  apply Nat.eq_of_testBit_eq
  intro i
  rw [Nat.testBit_xor, ← Nat.testBit_succ, ← Nat.testBit_succ, ← Nat.testBit_succ, Nat.testBit_xor]
theorem xor_par (x y : Nat) : (x ^^^ y) % 2 = (x % 2 + y % 2) % 2 := by
  have h := Nat.testBit_xor x y 0
  simp only [Nat.testBit_zero] at h
  rcases Nat.mod_two_eq_zero_or_one x with h1 | h1 <;> rcases Nat.mod_two_eq_zero_or_one y with h2 | h2 <;> rcases Nat.mod_two_eq_zero_or_one (x ^^^ y) with h3 | h3 <;> rw [h1, h2, h3] at h <;> rw [h1, h2, h3] <;> simp at h
theorem crcStep_xor (x y : Nat) : crcStep (x ^^^ y) = crcStep x ^^^ crcStep y := by
  unfold crcStep
  rw [xor_half, xor_par]
  have e : ∀ a b c d : Nat, (a ^^^ b) ^^^ (c ^^^ d) = (a ^^^ c) ^^^ (b ^^^ d) := fun a b c d => by
    rw [Nat.xor_assoc, Nat.xor_assoc, ← Nat.xor_assoc b c d, Nat.xor_comm b c, Nat.xor_assoc c b d]
  rw [e (x / 2) _ (y / 2) _]
  congr 1
  rcases Nat.mod_two_eq_zero_or_one x with h1 | h1 <;> rcases Nat.mod_two_eq_zero_or_one y with h2 | h2 <;> rw [h1, h2] <;> decide
theorem crcN_xor : ∀ (k x y : Nat), crcN k (x ^^^ y) = crcN k x ^^^ crcN k y
  | 0, _, _ => rfl
  | k + 1, x, y => by show crcN k (crcStep (x ^^^ y)) = crcN k (crcStep x) ^^^ crcN k (crcStep y); rw [crcStep_xor, crcN_xor k]
theorem crcStep_even (z : Nat) : crcStep (2 * z) = z := by
  unfold crcStep
  rw [if_neg (by omega), Nat.xor_zero]; omega
theorem crc8_shift (z : Nat) : crcN 8 (256 * z) = z := by
  have h : ∀ (k z : Nat), crcN k (2 ^ k * z) = z := by
    intro k
    induction k with
    | zero => intro z; simp [crcN]
    | succ k ih =>
      intro z
      show crcN k (crcStep (2 ^ (k + 1) * z)) = z
      rw [Nat.pow_succ, Nat.mul_comm (2 ^ k) 2, Nat.mul_assoc, crcStep_even, ih]
  exact h 8 z
theorem split_xor (x : Nat) : x = (x % 256) ^^^ (256 * (x / 256)) := by
  apply Nat.eq_of_testBit_eq
  intro i
  rw [Nat.testBit_xor, show (256 : Nat) = 2 ^ 8 from rfl, Nat.testBit_mod_two_pow, Nat.testBit_two_pow_mul, Nat.testBit_div_two_pow]
  by_cases h : i < 8
  · simp [h, show ¬ 8 ≤ i by omega]
  · simp [h, show 8 ≤ i by omega, Nat.sub_add_cancel (show 8 ≤ i by omega)]
theorem crc8_split (x : Nat) : crcN 8 x = crcN 8 (x % 256) ^^^ (x / 256) := by
  conv => lhs; rw [split_xor x, crcN_xor, crc8_shift]
/-- A byte's step: the table's way. -/
def crcByte (c : Nat) (b : UInt8) : Nat := crcN 8 (c ^^^ b.toNat)
theorem crcByte_lt {c : Nat} (h : c < 4294967296) (b : UInt8) : crcByte c b < 4294967296 := crcN_lt 8 (Nat.xor_lt_two_pow (n := 32) h (Nat.lt_trans b.toNat_lt (by decide)))
theorem crcByte_table (c : Nat) (b : UInt8) : crcN 8 ((c % 256) ^^^ b.toNat) ^^^ (c / 256) = crcByte c b := by
  unfold crcByte
  rw [crc8_split (c ^^^ b.toNat)]
  have hb := b.toNat_lt
  have e1 : (c ^^^ b.toNat) % 256 = (c % 256) ^^^ b.toNat := by
    apply Nat.eq_of_testBit_eq
    intro i
    rw [show (256 : Nat) = 2 ^ 8 from rfl, Nat.testBit_mod_two_pow, Nat.testBit_xor, Nat.testBit_xor, Nat.testBit_mod_two_pow]
    by_cases h : i < 8
    · simp [h]
    · have : b.toNat.testBit i = false := Nat.testBit_lt_two_pow (Nat.lt_of_lt_of_le hb (show 2 ^ 8 ≤ 2 ^ _ from Nat.pow_le_pow_right (by decide) (by omega)))
      simp [h, this]
  have e2 : (c ^^^ b.toNat) / 256 = c / 256 := by
    apply Nat.eq_of_testBit_eq
    intro i
    rw [show (256 : Nat) = 2 ^ 8 from rfl, Nat.testBit_div_two_pow, Nat.testBit_xor, Nat.testBit_div_two_pow]
    have : b.toNat.testBit (i + 8) = false := Nat.testBit_lt_two_pow (Nat.lt_of_lt_of_le hb (show 2 ^ 8 ≤ 2 ^ _ from Nat.pow_le_pow_right (by decide) (by omega)))
    rw [this, Bool.xor_false]
  rw [e1, e2]
/-- The document's way: bit k of the byte is taken in at step k. -/
def crcBits (b : Nat) : Nat → Nat → Nat
  | 0, c => c
  | k + 1, c => (crcBits b k c / 2) ^^^ (if (crcBits b k c ^^^ (b / 2 ^ k)) % 2 = 1 then 3988292384 else 0)
def crcLoop (s : List UInt8) : Nat := s.foldl crcByte 4294967295
theorem crcLoop_succ (s : List UInt8) (k : Nat) (h : k < s.length) : crcLoop (s.take (k + 1)) = crcByte (crcLoop (s.take k)) (s[k]'h) := by
  unfold crcLoop; rw [List.take_succ_eq_append_getElem h, List.foldl_append, List.foldl_cons, List.foldl_nil]
theorem crcLoop_lt (s : List UInt8) : crcLoop s < 4294967296 := by
  unfold crcLoop
  have : ∀ (s : List UInt8) (h : Nat), h < 4294967296 → s.foldl crcByte h < 4294967296 := by
    intro s
    induction s with
    | nil => intro h hh; exact hh
    | cons c s ih => intro h hh; exact ih _ (crcByte_lt hh c)
  exact this s _ (by decide)
def crc (s : List UInt8) : Nat := 4294967295 - crcLoop s
theorem crc_lt (s : List UInt8) : crc s < 4294967296 := by unfold crc; omega
/-- Four bytes. -/
def four (x : Nat) : List UInt8 := [UInt8.ofNat (x / 16777216), UInt8.ofNat (x / 65536), UInt8.ofNat (x / 256), UInt8.ofNat x]
def sealHead (n : Nat) : List UInt8 := [94, UInt8.ofNat (n / 65536), UInt8.ofNat (n / 256), UInt8.ofNat n]
def sealWrap (s : List UInt8) : List UInt8 := sealHead s.length ++ four (crc (sealHead s.length ++ s)) ++ s
theorem uwrap32 (n : Nat) : IntKind.u32.wrap (n : Int) = ((n % 4294967296 : Nat) : Int) := by rw [Int.natCast_emod]; rfl
theorem uwrap32_lt {n : Nat} (h : n < 4294967296) : IntKind.u32.wrap (n : Int) = (n : Int) := by rw [uwrap32, Nat.mod_eq_of_lt h]
theorem xor32 {x y : Nat} (hx : x < 4294967296) (hy : y < 4294967296) : bitsI .xor .u32 (x : Int) (y : Int) = ((x ^^^ y : Nat) : Int) := by
  have hl : x ^^^ y < 4294967296 := Nat.xor_lt_two_pow (n := 32) hx hy
  show IntKind.u32.wrap _ = _
  rw [ofInt_nat, ofInt_nat, BitVec.toNat_xor, BitVec.toNat_ofNat, BitVec.toNat_ofNat, show (2 ^ IntKind.u32.bits : Nat) = 4294967296 from rfl, Nat.mod_eq_of_lt hx, Nat.mod_eq_of_lt hy, uwrap32_lt hl]
theorem and32 {x y : Nat} (hx : x < 4294967296) (hy : y < 4294967296) : bitsI .and .u32 (x : Int) (y : Int) = ((x &&& y : Nat) : Int) := by
  have hl : x &&& y < 4294967296 := Nat.lt_of_le_of_lt Nat.and_le_left hx
  show IntKind.u32.wrap _ = _
  rw [ofInt_nat, ofInt_nat, BitVec.toNat_and, BitVec.toNat_ofNat, BitVec.toNat_ofNat, show (2 ^ IntKind.u32.bits : Nat) = 4294967296 from rfl, Nat.mod_eq_of_lt hx, Nat.mod_eq_of_lt hy, uwrap32_lt hl]
theorem or32 {x y : Nat} (hx : x < 4294967296) (hy : y < 4294967296) : bitsI .or .u32 (x : Int) (y : Int) = ((x ||| y : Nat) : Int) := by
  have hl : x ||| y < 4294967296 := Nat.or_lt_two_pow (n := 32) hx hy
  show IntKind.u32.wrap _ = _
  rw [ofInt_nat, ofInt_nat, BitVec.toNat_or, BitVec.toNat_ofNat, BitVec.toNat_ofNat, show (2 ^ IntKind.u32.bits : Nat) = 4294967296 from rfl, Nat.mod_eq_of_lt hx, Nat.mod_eq_of_lt hy, uwrap32_lt hl]
theorem xor8 {x y : Nat} (hx : x < 256) (hy : y < 256) : bitsI .xor .u8 (x : Int) (y : Int) = ((x ^^^ y : Nat) : Int) := by
  have hl : x ^^^ y < 256 := Nat.xor_lt_two_pow (n := 8) hx hy
  show IntKind.u8.wrap _ = _
  rw [ofInt_nat, ofInt_nat, BitVec.toNat_xor, BitVec.toNat_ofNat, BitVec.toNat_ofNat, show (2 ^ IntKind.u8.bits : Nat) = 256 from rfl, Nat.mod_eq_of_lt hx, Nat.mod_eq_of_lt hy, bwrap_nat, Nat.mod_eq_of_lt hl]
theorem shr32 (n : Nat) {k : Nat} (hk : k ≤ 32) : (n : Int).fdiv (2 ^ (min ((k : Int)).toNat (IntKind.bits .u32))) = ((n / 2 ^ k : Nat) : Int) := by
  rw [show min ((k : Int)).toNat (IntKind.bits .u32) = k by rw [show IntKind.bits .u32 = 32 from rfl]; omega, fdiv_pow]
end Go.Proofs.Ytfdcopbbnmialaa
