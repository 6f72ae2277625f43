/- Filters as plain Lean: bits, places, making, asking. No program in sight. -/
import Derived.Test.YtfdcopbbnmialaaV18
import Derived.Test.YtfdcopbbnmialaaDK8Z
set_option maxHeartbeats 4000000
namespace Go.Proofs.Ytfdcopbbnmialaa
open Go Go.RowKit

/-- A byte with a bit set. -/
def orBit (c : UInt8) (k : Nat) : UInt8 := UInt8.ofNat (c.toNat ||| 2 ^ k)
theorem orBit_lt (c : UInt8) {k : Nat} (hk : k < 8) : c.toNat ||| 2 ^ k < 256 :=
  Nat.or_lt_two_pow (n := 8) c.toNat_lt (Nat.pow_lt_pow_right (by decide) hk)
theorem orBit_test (c : UInt8) {k : Nat} (hk : k < 8) (j : Nat) : (orBit c k).toNat.testBit j = (c.toNat.testBit j || decide (k = j)) := by
  unfold orBit
  rw [UInt8.toNat_ofNat', Nat.mod_eq_of_lt (orBit_lt c hk), Nat.testBit_or, Nat.testBit_two_pow]
/-- Bytes as bits. -/
def bitsOf (b : List UInt8) : List Bool := b.flatMap (fun c => (List.range 8).map (fun k => c.toNat.testBit k))
theorem bitsOf_nil : bitsOf [] = [] := rfl
theorem bitsOf_cons (c : UInt8) (b : List UInt8) : bitsOf (c :: b) = (List.range 8).map (fun k => c.toNat.testBit k) ++ bitsOf b := by simp [bitsOf]
theorem bitsOf_len : ∀ b : List UInt8, (bitsOf b).length = 8 * b.length
  | [] => rfl
  | c :: b => by rw [bitsOf_cons, List.length_append, bitsOf_len b, List.length_map, List.length_range, List.length_cons]; omega
theorem bitsOf_get : ∀ (b : List UInt8) (p : Nat), (bitsOf b)[p]? = (b[p / 8]?).map (fun c => c.toNat.testBit (p % 8))
  | [], p => by simp [bitsOf_nil]
  | c :: b, p => by
    rw [bitsOf_cons]
    by_cases hp : p < 8
    · rw [List.getElem?_append_left (by simpa using hp), List.getElem?_map, List.getElem?_range hp, Nat.div_eq_of_lt hp, Nat.mod_eq_of_lt hp]; rfl
    · rw [List.getElem?_append_right (by simp; omega), List.length_map, List.length_range, bitsOf_get b (p - 8)]
      rw [show p / 8 = (p - 8) / 8 + 1 by omega, List.getElem?_cons_succ, show (p - 8) % 8 = p % 8 by omega]
/-- Bytes with a bit set. -/
def setBit (b : List UInt8) (p : Nat) : List UInt8 := b.set (p / 8) (orBit (b.getD (p / 8) 0) (p % 8))
theorem setBit_len (b : List UInt8) (p : Nat) : (setBit b p).length = b.length := by simp [setBit]
theorem setBit_bits (b : List UInt8) (p : Nat) : bitsOf (setBit b p) = (bitsOf b).set p true := by
  apply List.ext_getElem?
  intro j
  rw [bitsOf_get, setBit, List.getElem?_set, List.getElem?_set, bitsOf_get]
  by_cases hd : p / 8 = j / 8
  · rw [if_pos hd]
    by_cases hl : p / 8 < b.length
    · rw [if_pos hl, Option.map_some, orBit_test _ (Nat.mod_lt _ (by decide)), ← hd, List.getElem?_eq_getElem hl]
      rw [List.getD_eq_getElem?_getD, List.getElem?_eq_getElem hl]
      by_cases hj : p = j
      · rw [if_pos hj, if_pos (by rw [bitsOf_len]; omega)]
        subst hj; simp
      · rw [if_neg hj]
        have : ¬ p % 8 = j % 8 := by omega
        simp [this]
    · rw [if_neg hl]
      have hn : b[j / 8]? = none := List.getElem?_eq_none (by omega)
      rw [hn]
      by_cases hj : p = j
      · rw [if_pos hj, if_neg (by rw [bitsOf_len]; omega)]; rfl
      · rw [if_neg hj]
  · rw [if_neg hd, if_neg (by intro h; exact hd (by rw [h]))]
def setBits (b : List UInt8) (ps : List Nat) : List UInt8 := ps.foldl setBit b
theorem setBits_len (ps : List Nat) : ∀ b : List UInt8, (setBits b ps).length = b.length := by
  induction ps with
  | nil => intro b; rfl
  | cons p ps ih => intro b; exact (ih (setBit b p)).trans (setBit_len b p)
/-- A key's places. -/
def oddUp (g : Nat) : Nat := if g % 2 = 0 then g + 1 else g
def placeN (H i n : Nat) : Nat := ((H + i * oddUp (H / 4294967296)) % 18446744073709551616) % n
def placesN (H p n : Nat) : List Nat := (List.range p).map (fun i => placeN H i n)
theorem placesN_len (H p n : Nat) : (placesN H p n).length = p := by simp [placesN]
theorem placesN_lt {H p n : Nat} (hn : 0 < n) : ∀ x ∈ placesN H p n, x < n := by
  intro x hx
  obtain ⟨i, _, rfl⟩ := List.mem_map.1 hx
  exact Nat.mod_lt _ hn
theorem placesN_succ (H p n : Nat) : placesN H (p + 1) n = placesN H p n ++ [placeN H p n] := by simp [placesN, List.range_succ]
/-- The step of the document's way: x and g, i times. -/
def walkN (H : Nat) : Nat → Nat
  | 0 => H
  | k + 1 => (walkN H k + oddUp (H / 4294967296)) % 18446744073709551616
theorem or_one (g : Nat) : g ||| 1 = oddUp g := by
  apply Nat.eq_of_testBit_eq
  intro i
  rw [Nat.testBit_or]
  unfold oddUp
  cases i with
  | zero =>
    split
    · rename_i h; simp [Nat.testBit_zero]; omega
    · rename_i h; simp [Nat.testBit_zero]; omega
  | succ i =>
    rw [Nat.testBit_succ, Nat.testBit_succ, Nat.testBit_succ]
    split
    · rename_i h; rw [show (g + 1) / 2 = g / 2 by omega]; simp
    · simp
/-- The filter of keys' hashes. -/
def mkBits (p : Nat) (Hs : List Nat) (b : List UInt8) : List UInt8 := Hs.foldl (fun b H => setBits b (placesN H p (8 * b.length))) b
theorem mkBits_len (p : Nat) (Hs : List Nat) : ∀ b, (mkBits p Hs b).length = b.length := by
  induction Hs with
  | nil => intro b; rfl
  | cons H Hs ih => intro b; exact (ih _).trans (setBits_len _ _)
/-- The document's way: bits. -/
def putBits (b : List Bool) (ps : List Nat) : List Bool := ps.foldl (fun b p => b.set p true) b
def mkB (p n : Nat) (Hs : List Nat) (b : List Bool) : List Bool := Hs.foldl (fun b H => putBits b (placesN H p n)) b
theorem setBits_bits (ps : List Nat) : ∀ b : List UInt8, bitsOf (setBits b ps) = putBits (bitsOf b) ps := by
  induction ps with
  | nil => intro b; rfl
  | cons p ps ih =>
    intro b
    show bitsOf (setBits (setBit b p) ps) = putBits ((bitsOf b).set p true) ps
    rw [ih, setBit_bits]
theorem mkBits_bits (p : Nat) (Hs : List Nat) : ∀ b : List UInt8, bitsOf (mkBits p Hs b) = mkB p (8 * b.length) Hs (bitsOf b) := by
  induction Hs with
  | nil => intro b; rfl
  | cons H Hs ih =>
    intro b
    show bitsOf (mkBits p Hs (setBits b _)) = mkB p _ Hs (putBits (bitsOf b) _)
    rw [ih, setBits_bits, setBits_len]
theorem bitsOf_zero (n : Nat) : bitsOf (List.replicate n 0) = List.replicate (8 * n) false := by
  induction n with
  | zero => rfl
  | succ n ih =>
    rw [List.replicate_succ, bitsOf_cons, ih, show 8 * (n + 1) = 8 + 8 * n by omega, ← List.replicate_append_replicate]
    congr 1
/-- Is a key's place set everywhere? -/
def mayN (p : Nat) (b : List Bool) (H : Nat) : Bool := (placesN H p b.length).all (fun x => b.getD x true)
theorem putBits_iff (ps : List Nat) : ∀ (b : List Bool) (x : Nat), (putBits b ps).getD x true = (b.getD x true || decide (x ∈ ps)) := by
  induction ps with
  | nil => intro b x; simp [putBits]
  | cons p ps ih =>
    intro b x
    show (putBits (b.set p true) ps).getD x true = _
    rw [ih, List.getD_eq_getElem?_getD, List.getElem?_set, List.getD_eq_getElem?_getD]
    by_cases hp : p = x
    · subst hp
      rw [if_pos rfl]
      by_cases hl : p < b.length
      · rw [if_pos hl]; simp
      · rw [if_neg hl]; simp
    · rw [if_neg hp]
      simp [List.mem_cons, show ¬ x = p from fun h => hp h.symm]
theorem mkB_iff (p n : Nat) (Hs : List Nat) : ∀ (b : List Bool) (x : Nat), (mkB p n Hs b).getD x true = (b.getD x true || Hs.any (fun H => decide (x ∈ placesN H p n))) := by
  induction Hs with
  | nil => intro b x; simp [mkB]
  | cons H Hs ih =>
    intro b x
    show (mkB p n Hs (putBits b _)).getD x true = _
    rw [ih, putBits_iff, List.any_cons, Bool.or_assoc]
end Go.Proofs.Ytfdcopbbnmialaa
set_option maxHeartbeats 4000000
namespace Go.Proofs.Ytfdcopbbnmialaa
open Go Go.RowKit
theorem div32 (H : Nat) : (H : Int).fdiv (2 ^ (min (Int.toNat 32) (IntKind.bits .u64))) = ((H / 4294967296 : Nat) : Int) := shr64 H (k := 32) (by decide)
theorem div32_lt {H : Nat} (h : H < 18446744073709551616) : H / 4294967296 < 4294967296 := by omega
/-- A filter's read-only form. -/
def flA (p : Int) (b : List UInt8) : AV := .agg [.i .i64 p, .sl 1 (b.map byA)]
def ptA (x : Nat) : AV := .i .i64 x
theorem plc_eq {H i n : Nat} (hH : H < 18446744073709551616) (hi : i ≤ 1000000000000) : ∀ z : Int, z = n → (IntKind.u64.wrap ((H : Int) + IntKind.u64.wrap (IntKind.u64.wrap (i : Int) * bitsI .or .u64 ((H : Int).fdiv (2 ^ (min (Int.toNat 32) (IntKind.bits .u64)))) 1))).tmod z = (placeN H i n : Nat) := by
  rintro _ rfl
  have hg := div32_lt hH
  have ho : H / 4294967296 ||| 1 = oddUp (H / 4294967296) := or_one _
  rw [div32, uwrap_lt (n := i) (by omega), show (1 : Int) = ((1 : Nat) : Int) from rfl, or64 (by omega) (by decide), ho, ← Int.natCast_mul, uwrap_nat, ← Int.natCast_add, uwrap_nat, Nat.add_mod_mod, Int.tmod_eq_emod_of_nonneg (by omega), ← Int.natCast_emod]
  rfl
theorem places_spec (p : Nat) (b s : List UInt8) (hs : s.length ≤ 1000000000000) (hp : p ≤ 1000000) (hb : 0 < b.length) (hb2 : b.length ≤ 1000000000) : Spec Try.prog 23 [flA (p : Nat) b, .s s] [] (fun v os => ∃ r, v = .own 0 r ∧ os = [.row r 3 1 ((placesN (hashN s) p (8 * b.length)).map ptA)]) := by
  refine spec_of TtOk [] Try.func23 rfl Try.ntmps23 (by kernel_rfl) rfl rfl (fun C => ?_) rfl
  unfold flA
  have hH := hashN_lt s
  repeat' (first | refine Awp.seq ?_ | refine Awp.block ?_ | refine Awp.region ?_ | (refine Ops.nil ?_; show Awp _ _ _ _ _) | (refine o_mul rfl rfl rfl rfl ?_ ?_; omega) | refine o_len rfl TtOk rfl rfl rfl (fun _ => ?_) | (refine o_calm rfl TtOk rfl rfl rfl ?_ (fun _ => ?_); first | exact True.intro | exact ⟨rfl, rfl, rfl, rfl⟩ | exact ⟨rfl, True.intro⟩ | exact ⟨rfl, rfl⟩ | exact ⟨rfl, rfl, rfl⟩ | exact rfl | exact ⟨fun h0 => by cases h0, rfl⟩ | exact (fun h0 => by cases h0) | exact ⟨rfl, by omega⟩ | exact ⟨Nat.succ_ne_zero _, rfl⟩ | omega) | refine o_box rfl rfl rfl rfl (fun bB => ?_) | refine a_any 1 [] [] [] [0, 2, 3, 4, 5, 6, 1, 7, 8] (by kernel_rfl) (by kernel_rfl) (by kernel_rfl) rfl rfl rfl ?_ | (refine o_call0 rfl (hash_spec _ (by assumption)) ⟨SLe.of_eq rfl, True.intro⟩ rfl ?_; rintro _ _ ⟨rfl, rfl⟩; refine ⟨rfl, ?_⟩))
  have hsz := uwrap_lt (n := 8 * b.length) (by omega)
  have hsz2 : IntKind.u64.wrap (8 * (b.length : Int)) = ((8 * b.length : Nat) : Int) := by rw [← hsz, Int.natCast_mul]; rfl
  have hpl := fun k (hk : k ≤ 1000000000000) => plc_eq (n := 8 * b.length) hH hk _ hsz2
  have hlt : ∀ k, placeN (hashN s) k (8 * b.length) < 8 * b.length := fun k => Nat.mod_lt _ (by omega)
  have hsu := fun k => placesN_succ (hashN s) k (8 * b.length)
  refine Awp.loop (fun q : Nat × Value => ⟨37, [(18, .i .i64 q.1), (17, .i .i64 p), (7, .own 7 q.2), (6, .i .u64 (IntKind.u64.wrap (8 * b.length))), (5, .i .u64 (hashN s : Nat))], [(7, .row q.2 3 1 ((placesN (hashN s) q.1 (8 * b.length)).map ptA))]⟩) (fun q => q.1 ≤ p) (fun q => p - q.1) [] (0, .slice none 0 0) (Nat.zero_le _) ?_ ?_
  · refine ⟨rfl, ⟨sle_i rfl, sle_i rfl, sle_nilown, sle_i rfl, sle_i rfl, True.intro⟩, ?_⟩
    exact HLe.none .nil
  rintro ⟨k, v⟩ hk
  dsimp only at hk ⊢
  have hplk := hpl k (by omega)
  have hltk := hlt k
  have hsuk := hsu k
  have hlen := placesN_len (hashN s) k (8 * b.length)
  have hpe : k = p → placesN (hashN s) p (8 * b.length) = placesN (hashN s) k (8 * b.length) := fun h => by rw [h]
  generalize placesN (hashN s) k (8 * b.length) = ps at hsuk hlen hpe ⊢
  generalize hashN s = H at hplk hltk hsuk hpe ⊢
  repeat' (first | refine Awp.seq ?_ | refine Awp.block ?_ | refine Awp.region ?_ | (refine Ops.nil ?_; show Awp _ _ _ _ _) | (refine Ops.nil ?_; show Exists _) | (refine Awp.skip ?_; show Awp _ _ _ _ _) | (refine Awp.exit ?_; show Awp _ _ _ _ _) | (refine Awp.ret ?_; show endK _ _ _ _ _) | (refine o_add rfl rfl rfl rfl ?_ ?_; omega) | (refine o_calm rfl TtOk rfl rfl rfl ?_ (fun _ => ?_); first | exact True.intro | exact ⟨rfl, rfl, rfl, rfl⟩ | exact ⟨rfl, True.intro⟩ | exact ⟨rfl, rfl⟩ | exact ⟨rfl, rfl, rfl⟩ | exact rfl | exact ⟨fun h0 => by cases h0, rfl⟩ | exact (fun h0 => by cases h0) | exact ⟨rfl, by omega⟩ | exact ⟨Nat.succ_ne_zero _, rfl⟩ | omega) | refine o_buildSlice TtOk rfl rfl rfl rfl rfl rfl rfl rfl rfl rfl rfl (by repeat' (first | exact True.intro | exact rfl | refine ⟨?_, ?_⟩)) (fun _ => ?_) | (refine o_append TtOk rfl rfl rfl rfl rfl rfl rfl rfl rfl (by first | exact True.intro | exact rfl) rfl rfl (fun _ => rfl) ?_ ?_ (fun _ => ?_); ((repeat' (first | rw [List.length_append] | rw [List.length_map] | rw [List.length_cons] | rw [List.length_nil] | rw [List.length_take] | rw [List.length_drop])) <;> omega); ((repeat' (first | rw [List.length_append] | rw [List.length_map] | rw [List.length_cons] | rw [List.length_nil] | rw [List.length_take] | rw [List.length_drop])) <;> omega)) | (refine a_condP rfl (fun hc => ?_) (fun hc => ?_)) <;> (try (exfalso; omega)))
  · refine ⟨(k + 1, _), [], by show k + 1 ≤ p; omega, by show p - (k + 1) < p - k; omega, rfl, ⟨sle_i (by omega), sle_i rfl, sle_own, sle_i rfl, sle_i rfl, True.intro⟩, HLe.cons 7 rfl ?_ .nil⟩
    show HOLe _ (HO.row _ _ _ (List.map ptA ps ++ [AV.i .i64 (IntKind.i64.wrap _)])) _
    rw [hplk, iwrap_lt (by omega), hsuk, List.map_append]
    exact HOLe.refl _
  · have hkp : k = p := by omega
    have hps : placesN H p (8 * b.length) = ps := hpe hkp
    refine end_tmp (r := .own 0 v) rfl rfl rfl [] [(0, .row v 3 1 (ps.map ptA))] CLe.own (HLe.cons 7 rfl (HOLe.refl _) .nil) ⟨v, rfl, by rw [hps]; rfl⟩ _ (.inl rfl)
end Go.Proofs.Ytfdcopbbnmialaa
