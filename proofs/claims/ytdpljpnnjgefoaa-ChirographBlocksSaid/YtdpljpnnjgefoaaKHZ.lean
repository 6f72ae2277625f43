/- bloom.hash, ref08.Hash by rules. -/
import Derived.Test.YtdpljpnnjgefoaaB2Z
import Derived.Test.YtdpljpnnjgefoaaTypes
import Derived.Test.YtdpljpnnjgefoaaV18
set_option maxHeartbeats 4000000
namespace Go.Proofs.Ytdpljpnnjgefoaa
open Go Go.RowKit

def hRound (h : Nat) (c : UInt8) : Nat := ((h ^^^ c.toNat) * 1099511628211) % 18446744073709551616
def hMid (h : Nat) : Nat := ((h ^^^ (h / 2 ^ 29)) * 13787848793156543929) % 18446744073709551616
def hFin (h : Nat) : Nat := hMid h ^^^ (hMid h / 2 ^ 32)
def hLoop (s : List UInt8) : Nat := s.foldl hRound 14695981039346656037
def hashN (s : List UInt8) : Nat := hFin (hLoop s)
theorem hLoop_succ (s : List UInt8) (k : Nat) (h : k < s.length) : hLoop (s.take (k + 1)) = hRound (hLoop (s.take k)) (s[k]'h) := by
  unfold hLoop; rw [List.take_succ_eq_append_getElem h, List.foldl_append, List.foldl_cons, List.foldl_nil]
theorem hRound_lt (h : Nat) (c : UInt8) : hRound h c < 18446744073709551616 := Nat.mod_lt _ (by decide)
theorem hLoop_lt (s : List UInt8) : hLoop s < 18446744073709551616 := by
  unfold hLoop
  have : ∀ (s : List UInt8) (h : Nat), h < 18446744073709551616 → s.foldl hRound h < 18446744073709551616 := by
    intro s
    induction s with
    | nil => intro h hh; exact hh
    | cons c s ih => intro h _; exact ih _ (hRound_lt h c)
  exact this s _ (by decide)
theorem hMid_lt (h : Nat) : hMid h < 18446744073709551616 := Nat.mod_lt _ (by decide)
theorem div_lt64 {n k : Nat} (h : n < 18446744073709551616) : n / 2 ^ k < 18446744073709551616 := Nat.lt_of_le_of_lt (Nat.div_le_self _ _) h
theorem hashN_lt (s : List UInt8) : hashN s < 18446744073709551616 := Nat.xor_lt_two_pow (n := 64) (hMid_lt _) (div_lt64 (hMid_lt _))
theorem round_eq {h : Nat} (hh : h < 18446744073709551616) (c : UInt8) : IntKind.u64.wrap (bitsI .xor .u64 (h : Int) (IntKind.u64.wrap (c.toNat : Int)) * 1099511628211) = (hRound h c : Int) := by
  have hc := c.toNat_lt
  rw [uwrap_lt (by omega), xor64 hh (by omega), show ((h ^^^ c.toNat : Nat) : Int) * 1099511628211 = (((h ^^^ c.toNat) * 1099511628211 : Nat) : Int) by rw [Int.natCast_mul]; rfl, uwrap_nat]; rfl
theorem mid_eq {h : Nat} (hh : h < 18446744073709551616) : IntKind.u64.wrap (bitsI .xor .u64 (h : Int) ((h : Int).fdiv (2 ^ (min (Int.toNat 29) (IntKind.bits .u64)))) * 13787848793156543929) = (hMid h : Int) := by
  have e : (h : Int).fdiv (2 ^ (min (Int.toNat 29) (IntKind.bits .u64))) = ((h / 2 ^ 29 : Nat) : Int) := shr64 h (k := 29) (by decide)
  rw [e, xor64 hh (div_lt64 hh), show ((h ^^^ (h / 2 ^ 29) : Nat) : Int) * 13787848793156543929 = (((h ^^^ (h / 2 ^ 29)) * 13787848793156543929 : Nat) : Int) by rw [Int.natCast_mul]; rfl, uwrap_nat]; rfl
theorem fin_eq {h : Nat} (hh : h < 18446744073709551616) : bitsI .xor .u64 (h : Int) ((h : Int).fdiv (2 ^ (min (Int.toNat 32) (IntKind.bits .u64)))) = ((h ^^^ (h / 2 ^ 32) : Nat) : Int) := by
  have e : (h : Int).fdiv (2 ^ (min (Int.toNat 32) (IntKind.bits .u64))) = ((h / 2 ^ 32 : Nat) : Int) := shr64 h (k := 32) (by decide)
  rw [e, xor64 hh (div_lt64 hh)]
theorem hash_spec (s : List UInt8) (hs : s.length ≤ 1000000000000) : Spec Try.prog 68 [.s s] [] (fun v os => v = .i .u64 (hashN s : Nat) ∧ os = []) := by
  refine spec_of TtOk [] Try.func68 rfl Try.ntmps68 (by kernel_rfl) rfl rfl (fun C => ?_) rfl
  repeat' (first | refine Awp.seq ?_ | refine Awp.block ?_ | refine Awp.region ?_ | (refine Ops.nil ?_; show Awp _ _ _ _ _) | (refine Ops.nil ?_; show Exists _) | (refine Ops.nil ?_; show endK _ _ _ _ _) | (refine Awp.skip ?_; show Awp _ _ _ _ _) | (refine Awp.skip ?_; show endK _ _ _ _ _) | (refine Awp.skip ?_; show Exists _) | (refine Awp.exit ?_; show Awp _ _ _ _ _) | (refine Awp.exit ?_; show Exists _) | (refine Awp.exit ?_; show endK _ _ _ _ _) | (refine Awp.ret ?_; show endK _ _ _ _ _) | (refine o_add rfl rfl rfl rfl ?_ ?_; omega) | (refine o_mul rfl rfl rfl rfl ?_ ?_; omega) | refine o_len rfl TtOk rfl rfl rfl (fun _ => ?_) | refine o_lenOwn rfl TtOk rfl rfl rfl rfl (fun _ => ?_) | refine o_convB rfl TtOk rfl rfl rfl rfl ?_ | (refine o_conv64 rfl TtOk rfl rfl rfl rfl ?_ ?_; omega) | (refine o_calm rfl TtOk rfl rfl rfl ?_ (fun _ => ?_); first | exact True.intro | exact ⟨rfl, rfl, rfl, rfl⟩ | exact ⟨rfl, True.intro⟩ | exact ⟨rfl, rfl⟩ | exact ⟨rfl, rfl, rfl⟩ | exact rfl | exact ⟨fun h0 => by cases h0, rfl⟩ | exact (fun h0 => by cases h0) | exact ⟨rfl, by omega⟩ | exact ⟨Nat.succ_ne_zero _, rfl⟩ | omega) | (refine o_index rfl TtOk rfl rfl rfl rfl rfl rfl ?_ (getq_nat ?_) ?_; omega; omega) | (refine o_indexOwn TtOk rfl rfl rfl rfl rfl rfl rfl rfl _ rfl ?_ (fun bO hbO => ?_); (simp only [List.length_map]; omega)) | (refine o_loadRow TtOk rfl rfl rfl rfl rfl (by assumption) (getq_map (List.getElem?_eq_getElem ?_)) rfl rfl (by first | exact Nat.add_zero _ | rfl) ⟨rfl, rfl⟩ ?_; omega) | (refine o_calm rfl TtOk rfl rfl rfl ?_ (fun _ => ?_); (show List.length _ + List.length _ ≤ 9223372036854775807; (try simp only [List.length_append, List.length_cons, List.length_nil]); omega)) | (refine o_storeRow TtOk rfl rfl rfl rfl rfl rfl (by assumption) (getq_map (List.getElem?_eq_getElem ?_)) rfl rfl (by first | exact Nat.add_zero _ | rfl) ⟨rfl, rfl⟩ rfl rfl ?_; omega) | refine o_toBytes TtOk rfl rfl rfl rfl rfl rfl ?_ | refine a_condT rfl ?_ | refine a_condF rfl ?_ | (refine a_condP rfl (fun hc => ?_) (fun hc => ?_)) <;> (try (exfalso; omega)) | (refine a_condI rfl (fun hc => ?_) (fun hc => ?_)) <;> (try (exfalso; omega)) | (refine a_condN rfl (fun hc => ?_) (fun hc => ?_)) <;> (try (exfalso; omega)) | (refine Awp.cond rfl (fun hc => ?_) (fun hc => ?_)) | refine o_toString TtOk rfl rfl rfl rfl rfl (by first | exact True.intro | exact rfl) rfl rfl rfl rfl ?_)
  refine Awp.loop (fun (k : Nat) => ⟨29, [(3, .i .u64 (hLoop (s.take k) : Nat)), (9, .i .i64 k), (8, .i .i64 s.length), (7, .sl 1 (s.map byA))], []⟩) (fun k => k ≤ s.length) (fun k => s.length - k) [] 0 (Nat.zero_le _) ?_ ?_
  · refine ⟨rfl, ?_, ?_⟩ <;> repeat' (first | exact True.intro | refine sle_i ?_ | refine sle_s ?_ | refine sle_b ?_ | refine sle_sl ?_ | exact sle_ptr | exact sle_own | exact sle_nilown | exact SLe.any | exact HLe.nil | exact HOLe.refl _ | refine HLe.same rfl ?_ ?_ | refine HLe.none ?_ | refine HOLe.row ?_ | refine HOLe.var ?_ | exact CLe.refl _ | exact CLe.own | exact CLe.ptr | exact CLe.nilown | refine CLe.agg ?_ | refine CLeL.cons ?_ ?_ | exact CLeL.nil | with_reducible rfl | refine ⟨?_, ?_⟩ | exact SLe.of_eq rfl)
    all_goals rfl
  rintro k hk
  have hst := fun hlt => round_eq (hLoop_lt (s.take k)) (s[k]'hlt)
  have hst2 : ∀ hlt : k < s.length, hRound (hLoop (s.take k)) (s[k]'hlt) = hLoop (s.take (k + 1)) := fun hlt => (hLoop_succ s k hlt).symm
  have hend : k = s.length → hLoop (s.take k) = hLoop s := fun h => by rw [h, List.take_length]
  generalize hLoop (s.take k) = h at hst hst2 hend ⊢
  repeat' (first | refine Awp.seq ?_ | refine Awp.block ?_ | refine Awp.region ?_ | (refine Ops.nil ?_; show Awp _ _ _ _ _) | (refine Ops.nil ?_; show Exists _) | (refine Ops.nil ?_; show endK _ _ _ _ _) | (refine Awp.skip ?_; show Awp _ _ _ _ _) | (refine Awp.skip ?_; show endK _ _ _ _ _) | (refine Awp.skip ?_; show Exists _) | (refine Awp.exit ?_; show Awp _ _ _ _ _) | (refine Awp.exit ?_; show Exists _) | (refine Awp.exit ?_; show endK _ _ _ _ _) | (refine Awp.ret ?_; show endK _ _ _ _ _) | (refine o_add rfl rfl rfl rfl ?_ ?_; omega) | (refine o_mul rfl rfl rfl rfl ?_ ?_; omega) | refine o_len rfl TtOk rfl rfl rfl (fun _ => ?_) | refine o_lenOwn rfl TtOk rfl rfl rfl rfl (fun _ => ?_) | refine o_convB rfl TtOk rfl rfl rfl rfl ?_ | (refine o_conv64 rfl TtOk rfl rfl rfl rfl ?_ ?_; omega) | (refine o_calm rfl TtOk rfl rfl rfl ?_ (fun _ => ?_); first | exact True.intro | exact ⟨rfl, rfl, rfl, rfl⟩ | exact ⟨rfl, True.intro⟩ | exact ⟨rfl, rfl⟩ | exact ⟨rfl, rfl, rfl⟩ | exact rfl | exact ⟨fun h0 => by cases h0, rfl⟩ | exact (fun h0 => by cases h0) | exact ⟨rfl, by omega⟩ | exact ⟨Nat.succ_ne_zero _, rfl⟩ | omega) | (refine o_index rfl TtOk rfl rfl rfl rfl rfl rfl ?_ (getq_nat ?_) ?_; omega; omega) | (refine o_indexOwn TtOk rfl rfl rfl rfl rfl rfl rfl rfl _ rfl ?_ (fun bO hbO => ?_); (simp only [List.length_map]; omega)) | (refine o_loadRow TtOk rfl rfl rfl rfl rfl (by assumption) (getq_map (List.getElem?_eq_getElem ?_)) rfl rfl (by first | exact Nat.add_zero _ | rfl) ⟨rfl, rfl⟩ ?_; omega) | (refine o_calm rfl TtOk rfl rfl rfl ?_ (fun _ => ?_); (show List.length _ + List.length _ ≤ 9223372036854775807; (try simp only [List.length_append, List.length_cons, List.length_nil]); omega)) | (refine o_storeRow TtOk rfl rfl rfl rfl rfl rfl (by assumption) (getq_map (List.getElem?_eq_getElem ?_)) rfl rfl (by first | exact Nat.add_zero _ | rfl) ⟨rfl, rfl⟩ rfl rfl ?_; omega) | refine o_toBytes TtOk rfl rfl rfl rfl rfl rfl ?_ | refine a_condT rfl ?_ | refine a_condF rfl ?_ | (refine a_condP rfl (fun hc => ?_) (fun hc => ?_)) <;> (try (exfalso; omega)) | (refine a_condI rfl (fun hc => ?_) (fun hc => ?_)) <;> (try (exfalso; omega)) | (refine a_condN rfl (fun hc => ?_) (fun hc => ?_)) <;> (try (exfalso; omega)) | (refine Awp.cond rfl (fun hc => ?_) (fun hc => ?_)) | refine o_toString TtOk rfl rfl rfl rfl rfl (by first | exact True.intro | exact rfl) rfl rfl rfl rfl ?_)
  · have hlt' : k < s.length := by omega
    refine ⟨k + 1, [], hlt', by omega, ?_⟩
    refine ⟨rfl, ?_, ?_⟩ <;> repeat' (first | exact True.intro | refine sle_i ?_ | refine sle_s ?_ | refine sle_b ?_ | refine sle_sl ?_ | exact sle_ptr | exact sle_own | exact sle_nilown | exact SLe.any | exact HLe.nil | exact HOLe.refl _ | refine HLe.same rfl ?_ ?_ | refine HLe.none ?_ | refine HOLe.row ?_ | refine HOLe.var ?_ | exact CLe.refl _ | exact CLe.own | exact CLe.ptr | exact CLe.nilown | refine CLe.agg ?_ | refine CLeL.cons ?_ ?_ | exact CLeL.nil | with_reducible rfl | refine ⟨?_, ?_⟩ | exact SLe.of_eq rfl)
    all_goals first | exact (hst hlt').trans (congrArg _ (hst2 hlt')) | omega
  · have hkk : k = s.length := by omega
    refine end_tmp rfl rfl rfl [] [] (CLe.of_eq ?_) .nil ⟨rfl, rfl⟩ _ (.inl rfl)
    have h1 := mid_eq (hLoop_lt s)
    have h2 := fin_eq (hMid_lt (hLoop s))
    rw [← h1] at h2
    rw [hend hkk]
    exact congrArg (AV.i .u64) h2
end Go.Proofs.Ytdpljpnnjgefoaa
set_option maxHeartbeats 4000000
namespace Go.Proofs.Ytdpljpnnjgefoaa
open Go Go.RowKit

/-- A byte with a bit set. -/
def orBit (c : UInt8) (k : Nat) : UInt8 := UInt8.ofNat (c.toNat ||| 2 ^ k)
theorem orBit_lt (c : UInt8) {k : Nat} (hk : k < 8) : c.toNat ||| 2 ^ k < 256 :=
  Nat.or_lt_two_pow (n := 8) c.toNat_lt (Nat.pow_lt_pow_right (by decide) hk)
theorem orBit_test (c : UInt8) {k : Nat} (hk : k < 8) (j : Nat) : (orBit c k).toNat.testBit j = (c.toNat.testBit j || decide (k = j)) := by
  unfold orBit
  rw [UInt8.toNat_ofNat', Nat.mod_eq_of_lt (orBit_lt c hk), Nat.testBit_or, Nat.testBit_two_pow]
/-- Bytes as bits. -/
def bitsOf (b : List UInt8) : List Bool := b.flatMap (fun c => (List.range 8).map (fun k => c.toNat.testBit k))
theorem bitsOf_nil : bitsOf [] = [] := rfl
theorem bitsOf_cons (c : UInt8) (b : List UInt8) : bitsOf (c :: b) = (List.range 8).map (fun k => c.toNat.testBit k) ++ bitsOf b := by simp [bitsOf]
theorem bitsOf_len : ∀ b : List UInt8, (bitsOf b).length = 8 * b.length
  | [] => rfl
  | c :: b => by rw [bitsOf_cons, List.length_append, bitsOf_len b, List.length_map, List.length_range, List.length_cons]; omega
theorem bitsOf_get : ∀ (b : List UInt8) (p : Nat), (bitsOf b)[p]? = (b[p / 8]?).map (fun c => c.toNat.testBit (p % 8))
  | [], p => by simp [bitsOf_nil]
  | c :: b, p => by
    rw [bitsOf_cons]
    by_cases hp : p < 8
    · rw [List.getElem?_append_left (by simpa using hp), List.getElem?_map, List.getElem?_range hp, Nat.div_eq_of_lt hp, Nat.mod_eq_of_lt hp]; rfl
    · rw [List.getElem?_append_right (by simp; omega), List.length_map, List.length_range, bitsOf_get b (p - 8)]
      rw [show p / 8 = (p - 8) / 8 + 1 by omega, List.getElem?_cons_succ, show (p - 8) % 8 = p % 8 by omega]
/-- Bytes with a bit set. -/
def setBit (b : List UInt8) (p : Nat) : List UInt8 := b.set (p / 8) (orBit (b.getD (p / 8) 0) (p % 8))
theorem setBit_len (b : List UInt8) (p : Nat) : (setBit b p).length = b.length := by simp [setBit]
theorem setBit_bits (b : List UInt8) (p : Nat) : bitsOf (setBit b p) = (bitsOf b).set p true := by
  apply List.ext_getElem?
  intro j
  rw [bitsOf_get, setBit, List.getElem?_set, List.getElem?_set, bitsOf_get]
  by_cases hd : p / 8 = j / 8
  · rw [if_pos hd]
    by_cases hl : p / 8 < b.length
    · rw [if_pos hl, Option.map_some, orBit_test _ (Nat.mod_lt _ (by decide)), ← hd, List.getElem?_eq_getElem hl]
      rw [List.getD_eq_getElem?_getD, List.getElem?_eq_getElem hl]
      by_cases hj : p = j
      · rw [if_pos hj, if_pos (by rw [bitsOf_len]; omega)]
        subst hj; simp
      · rw [if_neg hj]
        have : ¬ p % 8 = j % 8 := by omega
        simp [this]
    · rw [if_neg hl]
      have hn : b[j / 8]? = none := List.getElem?_eq_none (by omega)
      rw [hn]
      by_cases hj : p = j
      · rw [if_pos hj, if_neg (by rw [bitsOf_len]; omega)]; rfl
      · rw [if_neg hj]
  · rw [if_neg hd, if_neg (by intro h; exact hd (by rw [h]))]
def setBits (b : List UInt8) (ps : List Nat) : List UInt8 := ps.foldl setBit b
theorem setBits_len (ps : List Nat) : ∀ b : List UInt8, (setBits b ps).length = b.length := by
  induction ps with
  | nil => intro b; rfl
  | cons p ps ih => intro b; exact (ih (setBit b p)).trans (setBit_len b p)
/-- A key's places. -/
def oddUp (g : Nat) : Nat := if g % 2 = 0 then g + 1 else g
def placeN (H i n : Nat) : Nat := ((H + i * oddUp (H / 4294967296)) % 18446744073709551616) % n
def placesN (H p n : Nat) : List Nat := (List.range p).map (fun i => placeN H i n)
theorem placesN_len (H p n : Nat) : (placesN H p n).length = p := by simp [placesN]
theorem placesN_lt {H p n : Nat} (hn : 0 < n) : ∀ x ∈ placesN H p n, x < n := by
  intro x hx
  obtain ⟨i, _, rfl⟩ := List.mem_map.1 hx
  exact Nat.mod_lt _ hn
theorem placesN_succ (H p n : Nat) : placesN H (p + 1) n = placesN H p n ++ [placeN H p n] := by simp [placesN, List.range_succ]
/-- The step of the document's way: x and g, i times. -/
def walkN (H : Nat) : Nat → Nat
  | 0 => H
  | k + 1 => (walkN H k + oddUp (H / 4294967296)) % 18446744073709551616
theorem or_one (g : Nat) : g ||| 1 = oddUp g := by
  apply Nat.eq_of_testBit_eq
  intro i
  rw [Nat.testBit_or]
  unfold oddUp
  cases i with
  | zero =>
    split
    · rename_i h; simp [Nat.testBit_zero]; omega
    · rename_i h; simp [Nat.testBit_zero]; omega
  | succ i =>
    rw [Nat.testBit_succ, Nat.testBit_succ, Nat.testBit_succ]
    split
    · rename_i h; rw [show (g + 1) / 2 = g / 2 by omega]; simp
    · simp
/-- The filter of keys' hashes. -/
def mkBits (p : Nat) (Hs : List Nat) (b : List UInt8) : List UInt8 := Hs.foldl (fun b H => setBits b (placesN H p (8 * b.length))) b
theorem mkBits_len (p : Nat) (Hs : List Nat) : ∀ b, (mkBits p Hs b).length = b.length := by
  induction Hs with
  | nil => intro b; rfl
  | cons H Hs ih => intro b; exact (ih _).trans (setBits_len _ _)
/-- The document's way: bits. -/
def putBits (b : List Bool) (ps : List Nat) : List Bool := ps.foldl (fun b p => b.set p true) b
def mkB (p n : Nat) (Hs : List Nat) (b : List Bool) : List Bool := Hs.foldl (fun b H => putBits b (placesN H p n)) b
theorem setBits_bits (ps : List Nat) : ∀ b : List UInt8, bitsOf (setBits b ps) = putBits (bitsOf b) ps := by
  induction ps with
  | nil => intro b; rfl
  | cons p ps ih =>
    intro b
    show bitsOf (setBits (setBit b p) ps) = putBits ((bitsOf b).set p true) ps
    rw [ih, setBit_bits]
theorem mkBits_bits (p : Nat) (Hs : List Nat) : ∀ b : List UInt8, bitsOf (mkBits p Hs b) = mkB p (8 * b.length) Hs (bitsOf b) := by
  induction Hs with
  | nil => intro b; rfl
  | cons H Hs ih =>
    intro b
    show bitsOf (mkBits p Hs (setBits b _)) = mkB p _ Hs (putBits (bitsOf b) _)
    rw [ih, setBits_bits, setBits_len]
theorem bitsOf_zero (n : Nat) : bitsOf (List.replicate n 0) = List.replicate (8 * n) false := by
  induction n with
  | zero => rfl
  | succ n ih =>
    rw [List.replicate_succ, bitsOf_cons, ih, show 8 * (n + 1) = 8 + 8 * n by omega, ← List.replicate_append_replicate]
    congr 1
/-- Is a key's place set everywhere? -/
def mayN (p : Nat) (b : List Bool) (H : Nat) : Bool := (placesN H p b.length).all (fun x => b.getD x true)
theorem putBits_iff (ps : List Nat) : ∀ (b : List Bool) (x : Nat), (putBits b ps).getD x true = (b.getD x true || decide (x ∈ ps)) := by
  induction ps with
  | nil => intro b x; simp [putBits]
  | cons p ps ih =>
    intro b x
    show (putBits (b.set p true) ps).getD x true = _
    rw [ih, List.getD_eq_getElem?_getD, List.getElem?_set, List.getD_eq_getElem?_getD]
    by_cases hp : p = x
    · subst hp
      rw [if_pos rfl]
      by_cases hl : p < b.length
      · rw [if_pos hl]; simp
      · rw [if_neg hl]; simp
    · rw [if_neg hp]
      simp [List.mem_cons, show ¬ x = p from fun h => hp h.symm]
theorem mkB_iff (p n : Nat) (Hs : List Nat) : ∀ (b : List Bool) (x : Nat), (mkB p n Hs b).getD x true = (b.getD x true || Hs.any (fun H => decide (x ∈ placesN H p n))) := by
  induction Hs with
  | nil => intro b x; simp [mkB]
  | cons H Hs ih =>
    intro b x
    show (mkB p n Hs (putBits b _)).getD x true = _
    rw [ih, putBits_iff, List.any_cons, Bool.or_assoc]
end Go.Proofs.Ytdpljpnnjgefoaa
set_option maxHeartbeats 4000000
namespace Go.Proofs.Ytdpljpnnjgefoaa
open Go Go.RowKit
theorem div32 (H : Nat) : (H : Int).fdiv (2 ^ (min (Int.toNat 32) (IntKind.bits .u64))) = ((H / 4294967296 : Nat) : Int) := shr64 H (k := 32) (by decide)
theorem div32_lt {H : Nat} (h : H < 18446744073709551616) : H / 4294967296 < 4294967296 := by omega
/-- A filter's read-only form. -/
def flA (p : Int) (b : List UInt8) : AV := .agg [.i .i64 p, .sl 1 (b.map byA)]
def ptA (x : Nat) : AV := .i .i64 x
theorem plc_eq {H i n : Nat} (hH : H < 18446744073709551616) (hi : i ≤ 1000000000000) : ∀ z : Int, z = n → (IntKind.u64.wrap ((H : Int) + IntKind.u64.wrap (IntKind.u64.wrap (i : Int) * bitsI .or .u64 ((H : Int).fdiv (2 ^ (min (Int.toNat 32) (IntKind.bits .u64)))) 1))).tmod z = (placeN H i n : Nat) := by
  rintro _ rfl
  have hg := div32_lt hH
  have ho : H / 4294967296 ||| 1 = oddUp (H / 4294967296) := or_one _
  rw [div32, uwrap_lt (n := i) (by omega), show (1 : Int) = ((1 : Nat) : Int) from rfl, or64 (by omega) (by decide), ho, ← Int.natCast_mul, uwrap_nat, ← Int.natCast_add, uwrap_nat, Nat.add_mod_mod, Int.tmod_eq_emod_of_nonneg (by omega), ← Int.natCast_emod]
  rfl
theorem places_spec (p : Nat) (b s : List UInt8) (hs : s.length ≤ 1000000000000) (hp : p ≤ 1000000) (hb : 0 < b.length) (hb2 : b.length ≤ 1000000000) : Spec Try.prog 53 [flA (p : Nat) b, .s s] [] (fun v os => ∃ r, v = .own 0 r ∧ os = [.row r 3 1 ((placesN (hashN s) p (8 * b.length)).map ptA)]) := by
  refine spec_of TtOk [] Try.func53 rfl Try.ntmps53 (by kernel_rfl) rfl rfl (fun C => ?_) rfl
  unfold flA
  have hH := hashN_lt s
  repeat' (first | refine Awp.seq ?_ | refine Awp.block ?_ | refine Awp.region ?_ | (refine Ops.nil ?_; show Awp _ _ _ _ _) | (refine Ops.nil ?_; show Exists _) | (refine Ops.nil ?_; show endK _ _ _ _ _) | (refine Awp.skip ?_; show Awp _ _ _ _ _) | (refine Awp.skip ?_; show endK _ _ _ _ _) | (refine Awp.skip ?_; show Exists _) | (refine Awp.exit ?_; show Awp _ _ _ _ _) | (refine Awp.exit ?_; show Exists _) | (refine Awp.exit ?_; show endK _ _ _ _ _) | (refine Awp.ret ?_; show endK _ _ _ _ _) | (refine o_add rfl rfl rfl rfl ?_ ?_; omega) | (refine o_mul rfl rfl rfl rfl ?_ ?_; omega) | (refine o_rem rfl rfl rfl rfl ?_ ?_ ?_; omega; omega) | refine o_len rfl TtOk rfl rfl rfl (fun _ => ?_) | refine o_lenOwn rfl TtOk rfl rfl rfl rfl (fun _ => ?_) | refine o_convB rfl TtOk rfl rfl rfl rfl ?_ | (refine o_conv64 rfl TtOk rfl rfl rfl rfl ?_ ?_; omega) | (refine o_calm rfl TtOk rfl rfl rfl ?_ (fun _ => ?_); first | exact True.intro | exact ⟨rfl, rfl, rfl, rfl⟩ | exact ⟨rfl, True.intro⟩ | exact ⟨rfl, rfl⟩ | exact ⟨rfl, rfl, rfl⟩ | exact rfl | exact ⟨fun h0 => by cases h0, rfl⟩ | exact (fun h0 => by cases h0) | exact ⟨rfl, by omega⟩ | exact ⟨Nat.succ_ne_zero _, rfl⟩ | omega) | refine o_box rfl rfl rfl rfl (fun bB => ?_) | (refine o_calm rfl TtOk rfl rfl rfl ?_ (fun _ => ?_); (show List.length _ + List.length _ ≤ 9223372036854775807; (try simp only [List.length_append, List.length_cons, List.length_nil]); omega)) | refine o_buildSlice TtOk rfl rfl rfl rfl rfl rfl rfl rfl rfl rfl rfl (by repeat' (first | exact True.intro | exact rfl | refine ⟨?_, ?_⟩)) (fun _ => ?_) | (refine o_append TtOk rfl rfl rfl rfl rfl rfl rfl rfl rfl (by first | exact True.intro | exact rfl) rfl rfl (fun _ => rfl) ?_ ?_ (fun _ => ?_); (simp only [List.length_map, List.length_cons, List.length_nil, List.length_append, List.length_take, List.length_drop]; omega); (simp only [List.length_map, List.length_cons, List.length_nil, List.length_append, List.length_take, List.length_drop]; omega)) | (refine o_appendStr TtOk rfl rfl rfl rfl rfl rfl rfl rfl rfl (fun _ => rfl) ?_ (fun _ => ?_); (simp only [List.length_map, List.length_cons, List.length_nil, List.length_append, List.length_take, List.length_drop]; omega)) | refine o_toBytes TtOk rfl rfl rfl rfl rfl rfl ?_ | refine a_condT rfl ?_ | refine a_condF rfl ?_ | (refine a_condP rfl (fun hc => ?_) (fun hc => ?_)) <;> (try (exfalso; omega)) | (refine a_condI rfl (fun hc => ?_) (fun hc => ?_)) <;> (try (exfalso; omega)) | (refine a_condN rfl (fun hc => ?_) (fun hc => ?_)) <;> (try (exfalso; omega)) | (refine Awp.cond rfl (fun hc => ?_) (fun hc => ?_)) | refine o_toString TtOk rfl rfl rfl rfl rfl (by first | exact True.intro | exact rfl) rfl rfl rfl rfl ?_ | refine a_any 1 [] [] [] [0, 2, 3, 4, 5, 6, 1, 7, 8] (by kernel_rfl) (by kernel_rfl) (by kernel_rfl) rfl rfl rfl ?_ | (refine o_call0 rfl (hash_spec _ (by assumption)) ⟨SLe.of_eq rfl, True.intro⟩ rfl ?_; rintro _ _ ⟨rfl, rfl⟩; refine ⟨rfl, ?_⟩))
  have hsz := uwrap_lt (n := 8 * b.length) (by omega)
  have hsz2 : IntKind.u64.wrap (8 * (b.length : Int)) = ((8 * b.length : Nat) : Int) := by rw [← hsz, Int.natCast_mul]; rfl
  have hpl := fun k (hk : k ≤ 1000000000000) => plc_eq (n := 8 * b.length) hH hk _ hsz2
  have hlt : ∀ k, placeN (hashN s) k (8 * b.length) < 8 * b.length := fun k => Nat.mod_lt _ (by omega)
  have hsu := fun k => placesN_succ (hashN s) k (8 * b.length)
  refine Awp.loop (fun q : Nat × Value => ⟨37, [(18, .i .i64 q.1), (17, .i .i64 p), (7, .own 7 q.2), (6, .i .u64 (IntKind.u64.wrap (8 * b.length))), (5, .i .u64 (hashN s : Nat))], [(7, .row q.2 3 1 ((placesN (hashN s) q.1 (8 * b.length)).map ptA))]⟩) (fun q => q.1 ≤ p) (fun q => p - q.1) [] (0, .slice none 0 0) (Nat.zero_le _) ?_ ?_
  · refine ⟨rfl, ⟨sle_i rfl, sle_i rfl, sle_nilown, sle_i rfl, sle_i rfl, True.intro⟩, ?_⟩
    exact HLe.none .nil
  rintro ⟨k, v⟩ hk
  dsimp only at hk ⊢
  have hplk := hpl k (by omega)
  have hltk := hlt k
  have hsuk := hsu k
  have hlen := placesN_len (hashN s) k (8 * b.length)
  have hpe : k = p → placesN (hashN s) p (8 * b.length) = placesN (hashN s) k (8 * b.length) := fun h => by rw [h]
  generalize placesN (hashN s) k (8 * b.length) = ps at hsuk hlen hpe ⊢
  generalize hashN s = H at hplk hltk hsuk hpe ⊢
  repeat' (first | refine Awp.seq ?_ | refine Awp.block ?_ | refine Awp.region ?_ | (refine Ops.nil ?_; show Awp _ _ _ _ _) | (refine Ops.nil ?_; show Exists _) | (refine Ops.nil ?_; show endK _ _ _ _ _) | (refine Awp.skip ?_; show Awp _ _ _ _ _) | (refine Awp.skip ?_; show endK _ _ _ _ _) | (refine Awp.skip ?_; show Exists _) | (refine Awp.exit ?_; show Awp _ _ _ _ _) | (refine Awp.exit ?_; show Exists _) | (refine Awp.exit ?_; show endK _ _ _ _ _) | (refine Awp.ret ?_; show endK _ _ _ _ _) | (refine o_add rfl rfl rfl rfl ?_ ?_; omega) | (refine o_mul rfl rfl rfl rfl ?_ ?_; omega) | (refine o_rem rfl rfl rfl rfl ?_ ?_ ?_; omega; omega) | refine o_len rfl TtOk rfl rfl rfl (fun _ => ?_) | refine o_lenOwn rfl TtOk rfl rfl rfl rfl (fun _ => ?_) | refine o_convB rfl TtOk rfl rfl rfl rfl ?_ | (refine o_calm rfl TtOk rfl rfl rfl ?_ (fun _ => ?_); first | exact True.intro | exact ⟨rfl, rfl, rfl, rfl⟩ | exact ⟨rfl, True.intro⟩ | exact ⟨rfl, rfl⟩ | exact ⟨rfl, rfl, rfl⟩ | exact rfl | exact ⟨fun h0 => by cases h0, rfl⟩ | exact (fun h0 => by cases h0) | exact ⟨rfl, by omega⟩ | exact ⟨Nat.succ_ne_zero _, rfl⟩ | omega) | refine o_box rfl rfl rfl rfl (fun _ => ?_) | (refine o_calm rfl TtOk rfl rfl rfl ?_ (fun _ => ?_); (show List.length _ + List.length _ ≤ 9223372036854775807; (try simp only [List.length_append, List.length_cons, List.length_nil]); omega)) | refine o_buildSlice TtOk rfl rfl rfl rfl rfl rfl rfl rfl rfl rfl rfl (by repeat' (first | exact True.intro | exact rfl | refine ⟨?_, ?_⟩)) (fun _ => ?_) | (refine o_append TtOk rfl rfl rfl rfl rfl rfl rfl rfl rfl (by first | exact True.intro | exact rfl) rfl rfl (fun _ => rfl) ?_ ?_ (fun _ => ?_); (simp only [List.length_map, List.length_cons, List.length_nil, List.length_append, List.length_take, List.length_drop]; omega); (simp only [List.length_map, List.length_cons, List.length_nil, List.length_append, List.length_take, List.length_drop]; omega)) | (refine o_appendStr TtOk rfl rfl rfl rfl rfl rfl rfl rfl rfl (fun _ => rfl) ?_ (fun _ => ?_); (simp only [List.length_map, List.length_cons, List.length_nil, List.length_append, List.length_take, List.length_drop]; omega)) | refine o_toBytes TtOk rfl rfl rfl rfl rfl rfl ?_ | refine a_condT rfl ?_ | refine a_condF rfl ?_ | (refine a_condP rfl (fun hc => ?_) (fun hc => ?_)) <;> (try (exfalso; omega)) | (refine a_condI rfl (fun hc => ?_) (fun hc => ?_)) <;> (try (exfalso; omega)) | (refine a_condN rfl (fun hc => ?_) (fun hc => ?_)) <;> (try (exfalso; omega)) | (refine Awp.cond rfl (fun hc => ?_) (fun hc => ?_)) | refine o_toString TtOk rfl rfl rfl rfl rfl (by first | exact True.intro | exact rfl) rfl rfl rfl rfl ?_ | refine a_any 1 [] [] [] [0, 2, 3, 4, 5, 6, 1, 7, 8] (by kernel_rfl) (by kernel_rfl) (by kernel_rfl) rfl rfl rfl ?_ | (refine o_call0 rfl (hash_spec _ (by assumption)) ⟨SLe.of_eq rfl, True.intro⟩ rfl ?_; rintro _ _ ⟨rfl, rfl⟩; refine ⟨rfl, ?_⟩))
  · refine ⟨(k + 1, _), [], by show k + 1 ≤ p; omega, by show p - (k + 1) < p - k; omega, rfl, ⟨sle_i (by omega), sle_i rfl, sle_own, sle_i rfl, sle_i rfl, True.intro⟩, HLe.cons 7 rfl ?_ .nil⟩
    show HOLe _ (HO.row _ _ _ (List.map ptA ps ++ [AV.i .i64 (IntKind.i64.wrap _)])) _
    rw [hplk, iwrap_lt (by omega), hsuk, List.map_append]
    exact HOLe.refl _
  · have hkp : k = p := by omega
    have hps : placesN H p (8 * b.length) = ps := hpe hkp
    refine end_tmp (r := .own 0 v) rfl rfl rfl [] [(0, .row v 3 1 (ps.map ptA))] CLe.own (HLe.cons 7 rfl (HOLe.refl _) .nil) ⟨v, rfl, by rw [hps]; rfl⟩ _ (.inl rfl)
end Go.Proofs.Ytdpljpnnjgefoaa
set_option maxHeartbeats 4000000
namespace Go.Proofs.Ytdpljpnnjgefoaa
open Go Go.RowKit
def goodB (p : Int) (n : Nat) : Bool := decide (1 ≤ p) && (decide (p ≤ 16) && (decide (1 ≤ n) && decide (n ≤ 65536)))
theorem goodB_iff {p : Int} {n : Nat} : goodB p n = true ↔ 1 ≤ p ∧ p ≤ 16 ∧ 1 ≤ n ∧ n ≤ 65536 := by unfold goodB; simp
theorem goodB_neg {p : Int} {n : Nat} (h : ¬ (1 ≤ p ∧ p ≤ 16 ∧ 1 ≤ n ∧ n ≤ 65536)) : goodB p n = false := by
  cases hg : goodB p n
  · rfl
  · exact absurd (goodB_iff.1 hg) h
def blA (x : Bool) : AV := .b x
def rfA (p : Int) (b : List Bool) : AV := .agg [.i .i64 p, .sl 1 (b.map blA)]
theorem good_spec (p : Int) (b : List UInt8) (hb : b.length ≤ 1000000000000) : Spec Try.prog 54 [flA p b] [] (fun v os => v = .b (goodB p (bitsOf b).length) ∧ os = []) := by
  refine spec_of TtOk [] Try.func54 rfl Try.ntmps54 (by kernel_rfl) rfl rfl (fun C => ?_) rfl
  unfold flA
  rw [bitsOf_len]
  repeat' (first | refine Awp.seq ?_ | refine Awp.region ?_ | (refine Ops.nil ?_; show Awp _ _ _ _ _) | (refine Ops.nil ?_; show Exists _) | (refine Ops.nil ?_; show endK _ _ _ _ _) | (refine Awp.ret ?_; show endK _ _ _ _ _) | refine o_offT rfl rfl rfl (by first | exact .inl rfl | exact .inr rfl) ?_ | refine o_offU rfl rfl rfl (by first | exact .inl rfl | exact .inr rfl) ?_ | refine o_offF rfl rfl rfl (by first | exact .inl rfl | exact .inr rfl) ?_ | refine o_len rfl TtOk rfl rfl rfl (fun _ => ?_) | refine o_lenOwn rfl TtOk rfl rfl rfl rfl (fun _ => ?_) | (refine o_calm rfl TtOk rfl rfl rfl ?_ (fun _ => ?_); first | exact True.intro | exact ⟨rfl, rfl, rfl, rfl⟩ | exact ⟨rfl, True.intro⟩ | exact ⟨rfl, rfl⟩ | exact ⟨rfl, rfl, rfl⟩ | exact rfl | exact ⟨fun h0 => by cases h0, rfl⟩ | exact (fun h0 => by cases h0) | exact ⟨rfl, by omega⟩ | exact ⟨Nat.succ_ne_zero _, rfl⟩ | omega) | refine o_box rfl rfl rfl rfl (fun bB => ?_) | (fail_if_success (refine o_isLit rfl (by first | exact .inl rfl | exact .inr rfl) ?_)); (refine o_splitP rfl rfl (fun hc => ?_) (fun hc => ?_) <;> try (exfalso; omega)) | (fail_if_success (refine o_isLit rfl (by first | exact .inl rfl | exact .inr rfl) ?_)); (refine o_splitI rfl rfl (fun hc => ?_) (fun hc => ?_) <;> try (exfalso; omega)) | (fail_if_success (refine o_isLit rfl (by first | exact .inl rfl | exact .inr rfl) ?_)); (refine o_splitN rfl rfl (fun hc => ?_) (fun hc => ?_) <;> try (exfalso; omega)) | (fail_if_success (refine o_isLit rfl (by first | exact .inl rfl | exact .inr rfl) ?_)); (refine o_split rfl rfl (fun hc => ?_) (fun hc => ?_)))
  all_goals refine end_tmp rfl rfl rfl [] [] (CLe.of_eq ?_) .nil ⟨rfl, rfl⟩ _ (.inl rfl)
  all_goals refine congrArg AV.b ?_
  all_goals first | exact (goodB_neg (by omega)).symm | (rw [Bool.eq_iff_iff, decide_eq_true_eq, goodB_iff]; omega)
/-- What a bit of a byte says. -/
theorem bit_test (c : UInt8) (x : Nat) : (bitsI .and .u8 ((c.toNat : Int).fdiv (2 ^ (min ((x : Int) % 8).toNat (IntKind.bits .u8)))) 1) = if c.toNat.testBit (x % 8) then 1 else 0 := by
  have hc := c.toNat_lt
  have hk : min ((x : Int) % 8).toNat (IntKind.bits .u8) = x % 8 := by rw [show IntKind.bits .u8 = 8 from rfl]; omega
  have hl : c.toNat / 2 ^ (x % 8) < 256 := Nat.lt_of_le_of_lt (Nat.div_le_self _ _) hc
  rw [hk, fdiv_pow, show (1 : Int) = ((1 : Nat) : Int) from rfl, and8 hl (by decide), Nat.and_one_is_mod, Nat.testBit_eq_decide_div_mod_eq]
  have := Nat.mod_lt (c.toNat / 2 ^ (x % 8)) (show 2 > 0 by decide)
  by_cases h : c.toNat / 2 ^ (x % 8) % 2 = 1
  · rw [if_pos (by rw [decide_eq_true_eq]; exact h), h]
  · rw [if_neg (by rw [decide_eq_true_eq]; exact h)]; omega
theorem bitsOf_at (b : List UInt8) (x : Nat) (h : x / 8 < b.length) : (bitsOf b).getD x true = (b[x / 8]'h).toNat.testBit (x % 8) := by
  rw [List.getD_eq_getElem?_getD, bitsOf_get, List.getElem?_eq_getElem h]; rfl
/-- May a key be there? -/
def mayB (p : Int) (b : List Bool) (H : Nat) : Bool := !(goodB p b.length) || (placesN H p.toNat b.length).all (fun x => b.getD x true)
theorem all_take_succ {α : Type} (f : α → Bool) (l : List α) (k : Nat) (x : α) (hx : l[k]? = some x) : (l.take (k + 1)).all f = ((l.take k).all f && f x) := by
  rw [List.take_add_one, hx]; simp
theorem all_false_at {α : Type} (f : α → Bool) (l : List α) (k : Nat) (x : α) (hx : l[k]? = some x) (h : f x = false) : l.all f = false := by
  rw [List.all_eq_false]
  exact ⟨x, List.mem_of_getElem? hx, by rw [h]; decide⟩
theorem may_spec (p : Int) (b s : List UInt8) (hs : s.length ≤ 1000000000000) (hb : b.length ≤ 1000000000) : Spec Try.prog 49 [flA p b, .s s] [] (fun v os => v = .b (mayB p (bitsOf b) (hashN s)) ∧ os = []) := by
  refine spec_of TtOk [] Try.func49 rfl Try.ntmps49 (by kernel_rfl) rfl rfl (fun C => ?_) rfl
  have hgd := good_spec p b (by omega)
  have hm : mayB p (bitsOf b) (hashN s) = (!(goodB p (bitsOf b).length) || (placesN (hashN s) p.toNat (bitsOf b).length).all (fun x => (bitsOf b).getD x true)) := rfl
  cases hg : goodB p (bitsOf b).length
  · rw [hg] at hgd hm
    rw [hm]
    unfold flA at hgd ⊢
    repeat' (first | refine Awp.seq ?_ | refine Awp.block ?_ | refine Awp.region ?_ | (refine Ops.nil ?_; show Awp _ _ _ _ _) | (refine Ops.nil ?_; show Exists _) | (refine Ops.nil ?_; show endK _ _ _ _ _) | (refine Awp.skip ?_; show Awp _ _ _ _ _) | (refine Awp.skip ?_; show endK _ _ _ _ _) | (refine Awp.skip ?_; show Exists _) | (refine Awp.exit ?_; show Awp _ _ _ _ _) | (refine Awp.exit ?_; show Exists _) | (refine Awp.exit ?_; show endK _ _ _ _ _) | (refine Awp.ret ?_; show endK _ _ _ _ _) | (refine o_add rfl rfl rfl rfl ?_ ?_; omega) | (refine o_quo rfl rfl rfl rfl ?_ ?_ ?_; omega; omega) | (refine o_rem rfl rfl rfl rfl ?_ ?_ ?_; omega; omega) | refine o_len rfl TtOk rfl rfl rfl (fun _ => ?_) | refine o_lenOwn rfl TtOk rfl rfl rfl rfl (fun _ => ?_) | (refine o_calm rfl TtOk rfl rfl rfl ?_ (fun _ => ?_); first | exact True.intro | exact ⟨rfl, rfl, rfl, rfl⟩ | exact ⟨rfl, True.intro⟩ | exact ⟨rfl, rfl⟩ | exact ⟨rfl, rfl, rfl⟩ | exact rfl | exact ⟨fun h0 => by cases h0, rfl⟩ | exact (fun h0 => by cases h0) | exact ⟨rfl, by omega⟩ | exact ⟨Nat.succ_ne_zero _, rfl⟩ | omega) | refine o_box rfl rfl rfl rfl (fun bB => ?_) | (refine o_index rfl TtOk rfl rfl rfl rfl rfl rfl ?_ (getq_nat ?_) ?_; omega; omega) | (refine o_indexOwn TtOk rfl rfl rfl rfl rfl rfl rfl rfl _ rfl ?_ (fun bO hbO => ?_); (simp only [List.length_map]; omega)) | (refine o_loadRow TtOk rfl rfl rfl rfl rfl (by assumption) (getq_map (List.getElem?_eq_getElem ?_)) rfl rfl (by first | exact Nat.add_zero _ | rfl) ⟨rfl, rfl⟩ ?_; omega) | (refine o_calm rfl TtOk rfl rfl rfl ?_ (fun _ => ?_); (show List.length _ + List.length _ ≤ 9223372036854775807; (try simp only [List.length_append, List.length_cons, List.length_nil]); omega)) | (refine o_storeRow TtOk rfl rfl rfl rfl rfl rfl (by assumption) (getq_map (List.getElem?_eq_getElem ?_)) rfl rfl (by first | exact Nat.add_zero _ | rfl) ⟨rfl, rfl⟩ rfl rfl ?_; omega) | refine o_eqNil TtOk rfl rfl rfl rfl rfl ?_ | refine o_eqArr8 TtOk rfl rfl rfl rfl rfl rfl (by kernel_rfl) ?_ | refine a_condT rfl ?_ | refine a_condF rfl ?_ | (refine a_condP rfl (fun hc => ?_) (fun hc => ?_)) <;> (try (exfalso; omega)) | (refine a_condI rfl (fun hc => ?_) (fun hc => ?_)) <;> (try (exfalso; omega)) | (refine a_condN rfl (fun hc => ?_) (fun hc => ?_)) <;> (try (exfalso; omega)) | (refine Awp.cond rfl (fun hc => ?_) (fun hc => ?_)) | (refine o_call0 rfl hgd ⟨SLe.of_eq rfl, True.intro⟩ rfl ?_; rintro _ _ ⟨rfl, rfl⟩; refine ⟨rfl, ?_⟩))
    exact end_tmp rfl rfl rfl [] [] (CLe.of_eq rfl) .nil ⟨rfl, rfl⟩ _ (.inl rfl)
  · rw [hg] at hgd hm
    rw [bitsOf_len] at hm
    rw [bitsOf_len, goodB_iff] at hg
    obtain ⟨p, rfl⟩ := Int.eq_ofNat_of_zero_le (show 0 ≤ p by omega)
    have hpl := places_spec p b s hs (by omega) (by omega) (by omega)
    rw [hm]
    unfold flA at hgd hpl ⊢
    repeat' (first | refine Awp.seq ?_ | refine Awp.block ?_ | refine Awp.region ?_ | (refine Ops.nil ?_; show Awp _ _ _ _ _) | (refine Ops.nil ?_; show Exists _) | (refine Ops.nil ?_; show endK _ _ _ _ _) | (refine Awp.skip ?_; show Awp _ _ _ _ _) | (refine Awp.skip ?_; show endK _ _ _ _ _) | (refine Awp.skip ?_; show Exists _) | (refine Awp.exit ?_; show Awp _ _ _ _ _) | (refine Awp.exit ?_; show Exists _) | (refine Awp.exit ?_; show endK _ _ _ _ _) | (refine Awp.ret ?_; show endK _ _ _ _ _) | (refine o_add rfl rfl rfl rfl ?_ ?_; omega) | (refine o_quo rfl rfl rfl rfl ?_ ?_ ?_; omega; omega) | (refine o_rem rfl rfl rfl rfl ?_ ?_ ?_; omega; omega) | refine o_len rfl TtOk rfl rfl rfl (fun _ => ?_) | refine o_lenOwn rfl TtOk rfl rfl rfl rfl (fun _ => ?_) | (refine o_calm rfl TtOk rfl rfl rfl ?_ (fun _ => ?_); first | exact True.intro | exact ⟨rfl, rfl, rfl, rfl⟩ | exact ⟨rfl, True.intro⟩ | exact ⟨rfl, rfl⟩ | exact ⟨rfl, rfl, rfl⟩ | exact rfl | exact ⟨fun h0 => by cases h0, rfl⟩ | exact (fun h0 => by cases h0) | exact ⟨rfl, by omega⟩ | exact ⟨Nat.succ_ne_zero _, rfl⟩ | omega) | refine o_box rfl rfl rfl rfl (fun bB => ?_) | (refine o_index rfl TtOk rfl rfl rfl rfl rfl rfl ?_ (getq_nat ?_) ?_; omega; omega) | (refine o_indexOwn TtOk rfl rfl rfl rfl rfl rfl rfl rfl _ rfl ?_ (fun bO hbO => ?_); (simp only [List.length_map]; omega)) | (refine o_loadRow TtOk rfl rfl rfl rfl rfl (by assumption) (getq_map (List.getElem?_eq_getElem ?_)) rfl rfl (by first | exact Nat.add_zero _ | rfl) ⟨rfl, rfl⟩ ?_; omega) | (refine o_calm rfl TtOk rfl rfl rfl ?_ (fun _ => ?_); (show List.length _ + List.length _ ≤ 9223372036854775807; (try simp only [List.length_append, List.length_cons, List.length_nil]); omega)) | (refine o_storeRow TtOk rfl rfl rfl rfl rfl rfl (by assumption) (getq_map (List.getElem?_eq_getElem ?_)) rfl rfl (by first | exact Nat.add_zero _ | rfl) ⟨rfl, rfl⟩ rfl rfl ?_; omega) | refine o_eqNil TtOk rfl rfl rfl rfl rfl ?_ | refine o_eqArr8 TtOk rfl rfl rfl rfl rfl rfl (by kernel_rfl) ?_ | refine a_condT rfl ?_ | refine a_condF rfl ?_ | (refine a_condP rfl (fun hc => ?_) (fun hc => ?_)) <;> (try (exfalso; omega)) | (refine a_condI rfl (fun hc => ?_) (fun hc => ?_)) <;> (try (exfalso; omega)) | (refine a_condN rfl (fun hc => ?_) (fun hc => ?_)) <;> (try (exfalso; omega)) | (refine Awp.cond rfl (fun hc => ?_) (fun hc => ?_)) | (refine o_call0 rfl hgd ⟨SLe.of_eq rfl, True.intro⟩ rfl ?_; rintro _ _ ⟨rfl, rfl⟩; refine ⟨rfl, ?_⟩) | (refine o_callR rfl hpl ⟨SLe.of_eq rfl, SLe.of_eq rfl, True.intro⟩ rfl (fun vR => ?_)))
    have hps : ∀ x ∈ placesN (hashN s) p (8 * b.length), x < 8 * b.length := placesN_lt (by omega)
    have hpn := placesN_len (hashN s) p (8 * b.length)
    rw [show Int.toNat (p : Int) = p from rfl]
    generalize placesN (hashN s) p (8 * b.length) = ps at hps hpn ⊢
    refine Awp.loop (fun k : Nat => ⟨30, [(14, .i .i64 k), (13, .i .i64 ps.length), (12, .sl 1 (ps.map ptA)), (2, .ptr 2 bB [] 0)], [(2, .var bB (.agg [.i .i64 p, .sl 1 (b.map byA)]))]⟩) (fun k => k ≤ ps.length ∧ (ps.take k).all (fun x => (bitsOf b).getD x true) = true) (fun k => ps.length - k) [12] 0 ⟨Nat.zero_le _, rfl⟩ ?_ ?_
    · exact ⟨rfl, ⟨sle_i rfl, sle_i rfl, SLe.of_cle (CLe.fz (.head _)) rfl, sle_ptr, True.intro⟩, HLe.same rfl (HOLe.refl _) .nil⟩
    rintro k ⟨hk, hall⟩
    by_cases hlt : k < ps.length
    · have hx := hps _ (List.getElem_mem hlt)
      have hx8 : ps[k] / 8 < b.length := by omega
      have hbt := bit_test (b[ps[k] / 8]) ps[k]
      have hat := bitsOf_at b ps[k] hx8
      have hsu := all_take_succ (fun x => (bitsOf b).getD x true) ps k ps[k] (List.getElem?_eq_getElem hlt)
      have hfa := all_false_at (fun x => (bitsOf b).getD x true) ps k ps[k] (List.getElem?_eq_getElem hlt)
      have hz : bitsI .and .u8 ((b[ps[k] / 8].toNat : Int).fdiv (2 ^ (min ((ps[k] : Int) % 8).toNat (IntKind.bits .u8)))) 1 = 0 → (bitsOf b).getD ps[k] true = false := by
        rw [hbt, hat]; cases b[ps[k] / 8].toNat.testBit (ps[k] % 8) <;> simp
      have hnz : ¬ bitsI .and .u8 ((b[ps[k] / 8].toNat : Int).fdiv (2 ^ (min ((ps[k] : Int) % 8).toNat (IntKind.bits .u8)))) 1 = 0 → (bitsOf b).getD ps[k] true = true := by
        rw [hbt, hat]; cases b[ps[k] / 8].toNat.testBit (ps[k] % 8) <;> simp
      clear hbt hat
      repeat' (first | refine Awp.seq ?_ | refine Awp.block ?_ | refine Awp.region ?_ | (refine Ops.nil ?_; show Awp _ _ _ _ _) | (refine Ops.nil ?_; show Exists _) | (refine Ops.nil ?_; show endK _ _ _ _ _) | (refine Awp.skip ?_; show Awp _ _ _ _ _) | (refine Awp.skip ?_; show endK _ _ _ _ _) | (refine Awp.skip ?_; show Exists _) | (refine Awp.exit ?_; show Awp _ _ _ _ _) | (refine Awp.exit ?_; show Exists _) | (refine Awp.exit ?_; show endK _ _ _ _ _) | (refine Awp.ret ?_; show endK _ _ _ _ _) | (refine o_add rfl rfl rfl rfl ?_ ?_; omega) | (refine o_quo rfl rfl rfl rfl ?_ ?_ ?_; omega; omega) | (refine o_rem rfl rfl rfl rfl ?_ ?_ ?_; omega; omega) | refine o_len rfl TtOk rfl rfl rfl (fun _ => ?_) | refine o_lenOwn rfl TtOk rfl rfl rfl rfl (fun _ => ?_) | (refine o_calm rfl TtOk rfl rfl rfl ?_ (fun _ => ?_); first | exact True.intro | exact ⟨rfl, rfl, rfl, rfl⟩ | exact ⟨rfl, True.intro⟩ | exact ⟨rfl, rfl⟩ | exact ⟨rfl, rfl, rfl⟩ | exact rfl | exact ⟨fun h0 => by cases h0, rfl⟩ | exact (fun h0 => by cases h0) | exact ⟨rfl, by omega⟩ | exact ⟨Nat.succ_ne_zero _, rfl⟩ | omega) | refine o_box rfl rfl rfl rfl (fun _ => ?_) | (refine o_index rfl TtOk rfl rfl rfl rfl rfl rfl ?_ (getq_nat ?_) ?_; omega; omega) | (refine o_indexOwn TtOk rfl rfl rfl rfl rfl rfl rfl rfl _ rfl ?_ (fun bO hbO => ?_); (simp only [List.length_map]; omega)) | (refine o_loadRow TtOk rfl rfl rfl rfl rfl (by assumption) (getq_map (List.getElem?_eq_getElem ?_)) rfl rfl (by first | exact Nat.add_zero _ | rfl) ⟨rfl, rfl⟩ ?_; omega) | (refine o_calm rfl TtOk rfl rfl rfl ?_ (fun _ => ?_); (show List.length _ + List.length _ ≤ 9223372036854775807; (try simp only [List.length_append, List.length_cons, List.length_nil]); omega)) | (refine o_storeRow TtOk rfl rfl rfl rfl rfl rfl (by assumption) (getq_map (List.getElem?_eq_getElem ?_)) rfl rfl (by first | exact Nat.add_zero _ | rfl) ⟨rfl, rfl⟩ rfl rfl ?_; omega) | refine o_eqNil TtOk rfl rfl rfl rfl rfl ?_ | refine o_eqArr8 TtOk rfl rfl rfl rfl rfl rfl (by kernel_rfl) ?_ | refine a_condT rfl ?_ | refine a_condF rfl ?_ | (refine a_condP rfl (fun hc => ?_) (fun hc => ?_)) <;> (try (exfalso; omega)) | (refine a_condI rfl (fun hc => ?_) (fun hc => ?_)) <;> (try (exfalso; omega)) | (refine a_condN rfl (fun hc => ?_) (fun hc => ?_)) <;> (try (exfalso; omega)) | (refine Awp.cond rfl (fun hc => ?_) (fun hc => ?_)))
      · refine end_tmp rfl rfl rfl [] [] (CLe.of_eq ?_) .nil ⟨rfl, rfl⟩ _ (.inl rfl)
        rw [hfa (hz hc)]; rfl
      · refine ⟨k + 1, [], ⟨hlt, by rw [hsu, hall, hnz hc]; rfl⟩, by omega, ?_⟩
        refine ⟨rfl, ?_, ?_⟩ <;> repeat' (first | exact True.intro | refine sle_i ?_ | refine sle_s ?_ | refine sle_b ?_ | refine sle_sl ?_ | exact sle_ptr | exact sle_own | exact sle_nilown | exact SLe.any | exact HLe.nil | exact HOLe.refl _ | refine HLe.same rfl ?_ ?_ | refine HLe.none ?_ | refine HOLe.row ?_ | refine HOLe.var ?_ | exact CLe.refl _ | exact CLe.own | exact CLe.ptr | exact CLe.nilown | refine CLe.agg ?_ | refine CLeL.cons ?_ ?_ | exact CLeL.nil | with_reducible rfl | refine ⟨?_, ?_⟩ | exact SLe.of_eq rfl)
        all_goals first | rfl | omega
    · have hkl : k = ps.length := by omega
      rw [hkl, List.take_length] at hall
      repeat' (first | refine Awp.seq ?_ | refine Awp.block ?_ | refine Awp.region ?_ | (refine Ops.nil ?_; show Awp _ _ _ _ _) | (refine Ops.nil ?_; show Exists _) | (refine Ops.nil ?_; show endK _ _ _ _ _) | (refine Awp.skip ?_; show Awp _ _ _ _ _) | (refine Awp.skip ?_; show endK _ _ _ _ _) | (refine Awp.skip ?_; show Exists _) | (refine Awp.exit ?_; show Awp _ _ _ _ _) | (refine Awp.exit ?_; show Exists _) | (refine Awp.exit ?_; show endK _ _ _ _ _) | (refine Awp.ret ?_; show endK _ _ _ _ _) | (refine o_add rfl rfl rfl rfl ?_ ?_; omega) | (refine o_quo rfl rfl rfl rfl ?_ ?_ ?_; omega; omega) | (refine o_rem rfl rfl rfl rfl ?_ ?_ ?_; omega; omega) | refine o_len rfl TtOk rfl rfl rfl (fun _ => ?_) | refine o_lenOwn rfl TtOk rfl rfl rfl rfl (fun _ => ?_) | (refine o_calm rfl TtOk rfl rfl rfl ?_ (fun _ => ?_); first | exact True.intro | exact ⟨rfl, rfl, rfl, rfl⟩ | exact ⟨rfl, True.intro⟩ | exact ⟨rfl, rfl⟩ | exact ⟨rfl, rfl, rfl⟩ | exact rfl | exact ⟨fun h0 => by cases h0, rfl⟩ | exact (fun h0 => by cases h0) | exact ⟨rfl, by omega⟩ | exact ⟨Nat.succ_ne_zero _, rfl⟩ | omega) | refine o_box rfl rfl rfl rfl (fun _ => ?_) | (refine o_index rfl TtOk rfl rfl rfl rfl rfl rfl ?_ (getq_nat ?_) ?_; omega; omega) | (refine o_indexOwn TtOk rfl rfl rfl rfl rfl rfl rfl rfl _ rfl ?_ (fun bO hbO => ?_); (simp only [List.length_map]; omega)) | (refine o_loadRow TtOk rfl rfl rfl rfl rfl (by assumption) (getq_map (List.getElem?_eq_getElem ?_)) rfl rfl (by first | exact Nat.add_zero _ | rfl) ⟨rfl, rfl⟩ ?_; omega) | (refine o_calm rfl TtOk rfl rfl rfl ?_ (fun _ => ?_); (show List.length _ + List.length _ ≤ 9223372036854775807; (try simp only [List.length_append, List.length_cons, List.length_nil]); omega)) | (refine o_storeRow TtOk rfl rfl rfl rfl rfl rfl (by assumption) (getq_map (List.getElem?_eq_getElem ?_)) rfl rfl (by first | exact Nat.add_zero _ | rfl) ⟨rfl, rfl⟩ rfl rfl ?_; omega) | refine o_eqNil TtOk rfl rfl rfl rfl rfl ?_ | refine o_eqArr8 TtOk rfl rfl rfl rfl rfl rfl (by kernel_rfl) ?_ | refine a_condT rfl ?_ | refine a_condF rfl ?_ | (refine a_condP rfl (fun hc => ?_) (fun hc => ?_)) <;> (try (exfalso; omega)) | (refine a_condI rfl (fun hc => ?_) (fun hc => ?_)) <;> (try (exfalso; omega)) | (refine a_condN rfl (fun hc => ?_) (fun hc => ?_)) <;> (try (exfalso; omega)) | (refine Awp.cond rfl (fun hc => ?_) (fun hc => ?_)))
      refine end_tmp rfl rfl rfl [] [] (CLe.of_eq ?_) .nil ⟨rfl, rfl⟩ _ (.inl rfl)
      rw [hall]; rfl
end Go.Proofs.Ytdpljpnnjgefoaa
set_option maxHeartbeats 4000000
namespace Go.Proofs.Ytdpljpnnjgefoaa
open Go Go.RowKit
def sameB (p q : Int) (a b : List Bool) : Bool := decide (p = q) && decide (a = b)
end Go.Proofs.Ytdpljpnnjgefoaa
