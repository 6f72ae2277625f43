/- bloom.hash, ref08.Hash by rules. -/
import Derived.Test.YtdpljpnnjgefoaaB2Z
import Derived.Test.YtdpljpnnjgefoaaTypes
import Derived.Test.YtdpljpnnjgefoaaV18
set_option maxHeartbeats 4000000
namespace Go.Proofs.Ytdpljpnnjgefoaa
open Go Go.RowKit

def hRound (h : Nat) (c : UInt8) : Nat := ((h ^^^ c.toNat) * 1099511628211) % 18446744073709551616
def hMid (h : Nat) : Nat := ((h ^^^ (h / 2 ^ 29)) * 13787848793156543929) % 18446744073709551616
def hFin (h : Nat) : Nat := hMid h ^^^ (hMid h / 2 ^ 32)
def hLoop (s : List UInt8) : Nat := s.foldl hRound 14695981039346656037
def hashN (s : List UInt8) : Nat := hFin (hLoop s)
theorem hLoop_succ (s : List UInt8) (k : Nat) (h : k < s.length) : hLoop (s.take (k + 1)) = hRound (hLoop (s.take k)) (s[k]'h) := by
  unfold hLoop; rw [List.take_succ_eq_append_getElem h, List.foldl_append, List.foldl_cons, List.foldl_nil]
theorem hRound_lt (h : Nat) (c : UInt8) : hRound h c < 18446744073709551616 := Nat.mod_lt _ (by decide)
theorem hLoop_lt (s : List UInt8) : hLoop s < 18446744073709551616 := by
  unfold hLoop
  have : ∀ (s : List UInt8) (h : Nat), h < 18446744073709551616 → s.foldl hRound h < 18446744073709551616 := by
    intro s
    induction s with
    | nil => intro h hh; exact hh
    | cons c s ih => intro h _; exact ih _ (hRound_lt h c)
  exact this s _ (by decide)
theorem hMid_lt (h : Nat) : hMid h < 18446744073709551616 := Nat.mod_lt _ (by decide)
theorem div_lt64 {n k : Nat} (h : n < 18446744073709551616) : n / 2 ^ k < 18446744073709551616 := Nat.lt_of_le_of_lt (Nat.div_le_self _ _) h
theorem hashN_lt (s : List UInt8) : hashN s < 18446744073709551616 := Nat.xor_lt_two_pow (n := 64) (hMid_lt _) (div_lt64 (hMid_lt _))
theorem round_eq {h : Nat} (hh : h < 18446744073709551616) (c : UInt8) : IntKind.u64.wrap (bitsI .xor .u64 (h : Int) (IntKind.u64.wrap (c.toNat : Int)) * 1099511628211) = (hRound h c : Int) := by
  have hc := c.toNat_lt
  rw [uwrap_lt (by omega), xor64 hh (by omega), show ((h ^^^ c.toNat : Nat) : Int) * 1099511628211 = (((h ^^^ c.toNat) * 1099511628211 : Nat) : Int) by rw [Int.natCast_mul]; rfl, uwrap_nat]; rfl
theorem mid_eq {h : Nat} (hh : h < 18446744073709551616) : IntKind.u64.wrap (bitsI .xor .u64 (h : Int) ((h : Int).fdiv (2 ^ (min (Int.toNat 29) (IntKind.bits .u64)))) * 13787848793156543929) = (hMid h : Int) := by
  have e : (h : Int).fdiv (2 ^ (min (Int.toNat 29) (IntKind.bits .u64))) = ((h / 2 ^ 29 : Nat) : Int) := shr64 h (k := 29) (by decide)
  rw [e, xor64 hh (div_lt64 hh), show ((h ^^^ (h / 2 ^ 29) : Nat) : Int) * 13787848793156543929 = (((h ^^^ (h / 2 ^ 29)) * 13787848793156543929 : Nat) : Int) by rw [Int.natCast_mul]; rfl, uwrap_nat]; rfl
theorem fin_eq {h : Nat} (hh : h < 18446744073709551616) : bitsI .xor .u64 (h : Int) ((h : Int).fdiv (2 ^ (min (Int.toNat 32) (IntKind.bits .u64)))) = ((h ^^^ (h / 2 ^ 32) : Nat) : Int) := by
  have e : (h : Int).fdiv (2 ^ (min (Int.toNat 32) (IntKind.bits .u64))) = ((h / 2 ^ 32 : Nat) : Int) := shr64 h (k := 32) (by decide)
  rw [e, xor64 hh (div_lt64 hh)]
theorem hash_spec (s : List UInt8) (hs : s.length ≤ 1000000000000) : Spec Try.prog 68 [.s s] [] (fun v os => v = .i .u64 (hashN s : Nat) ∧ os = []) := by
  refine spec_of TtOk [] Try.func68 rfl Try.ntmps68 (by kernel_rfl) rfl rfl (fun C => ?_) rfl
  repeat' (first | refine Awp.seq ?_ | refine Awp.block ?_ | refine Awp.region ?_ | (refine Ops.nil ?_; show Awp _ _ _ _ _) | (refine Ops.nil ?_; show Exists _) | (refine Ops.nil ?_; show endK _ _ _ _ _) | (refine Awp.skip ?_; show Awp _ _ _ _ _) | (refine Awp.skip ?_; show endK _ _ _ _ _) | (refine Awp.skip ?_; show Exists _) | (refine Awp.exit ?_; show Awp _ _ _ _ _) | (refine Awp.exit ?_; show Exists _) | (refine Awp.exit ?_; show endK _ _ _ _ _) | (refine Awp.ret ?_; show endK _ _ _ _ _) | (refine o_add rfl rfl rfl rfl ?_ ?_; omega) | (refine o_mul rfl rfl rfl rfl ?_ ?_; omega) | refine o_len rfl TtOk rfl rfl rfl (fun _ => ?_) | refine o_lenOwn rfl TtOk rfl rfl rfl rfl (fun _ => ?_) | refine o_convB rfl TtOk rfl rfl rfl rfl ?_ | (refine o_conv64 rfl TtOk rfl rfl rfl rfl ?_ ?_; omega) | (refine o_calm rfl TtOk rfl rfl rfl ?_ (fun _ => ?_); first | exact True.intro | exact ⟨rfl, rfl, rfl, rfl⟩ | exact ⟨rfl, True.intro⟩ | exact ⟨rfl, rfl⟩ | exact ⟨rfl, rfl, rfl⟩ | exact rfl | exact ⟨fun h0 => by cases h0, rfl⟩ | exact (fun h0 => by cases h0) | exact ⟨rfl, by omega⟩ | exact ⟨Nat.succ_ne_zero _, rfl⟩ | omega) | (refine o_index rfl TtOk rfl rfl rfl rfl rfl rfl ?_ (getq_nat ?_) ?_; omega; omega) | (refine o_indexOwn TtOk rfl rfl rfl rfl rfl rfl rfl rfl _ rfl ?_ (fun bO hbO => ?_); (simp only [List.length_map]; omega)) | (refine o_loadRow TtOk rfl rfl rfl rfl rfl (by assumption) (getq_map (List.getElem?_eq_getElem ?_)) rfl rfl (by first | exact Nat.add_zero _ | rfl) ⟨rfl, rfl⟩ ?_; omega) | (refine o_calm rfl TtOk rfl rfl rfl ?_ (fun _ => ?_); (show List.length _ + List.length _ ≤ 9223372036854775807; (try simp only [List.length_append, List.length_cons, List.length_nil]); omega)) | (refine o_storeRow TtOk rfl rfl rfl rfl rfl rfl (by assumption) (getq_map (List.getElem?_eq_getElem ?_)) rfl rfl (by first | exact Nat.add_zero _ | rfl) ⟨rfl, rfl⟩ rfl rfl ?_; omega) | refine o_toBytes TtOk rfl rfl rfl rfl rfl rfl ?_ | refine a_condT rfl ?_ | refine a_condF rfl ?_ | (refine a_condP rfl (fun hc => ?_) (fun hc => ?_)) <;> (try (exfalso; omega)) | (refine a_condI rfl (fun hc => ?_) (fun hc => ?_)) <;> (try (exfalso; omega)) | (refine a_condN rfl (fun hc => ?_) (fun hc => ?_)) <;> (try (exfalso; omega)) | (refine Awp.cond rfl (fun hc => ?_) (fun hc => ?_)) | refine o_toString TtOk rfl rfl rfl rfl rfl (by first | exact True.intro | exact rfl) rfl rfl rfl rfl ?_)
  refine Awp.loop (fun (k : Nat) => ⟨29, [(3, .i .u64 (hLoop (s.take k) : Nat)), (9, .i .i64 k), (8, .i .i64 s.length), (7, .sl 1 (s.map byA))], []⟩) (fun k => k ≤ s.length) (fun k => s.length - k) [] 0 (Nat.zero_le _) ?_ ?_
  · refine ⟨rfl, ?_, ?_⟩ <;> repeat' (first | exact True.intro | refine sle_i ?_ | refine sle_s ?_ | refine sle_b ?_ | refine sle_sl ?_ | exact sle_ptr | exact sle_own | exact sle_nilown | exact SLe.any | exact HLe.nil | exact HOLe.refl _ | refine HLe.same rfl ?_ ?_ | refine HLe.none ?_ | refine HOLe.row ?_ | refine HOLe.var ?_ | exact CLe.refl _ | exact CLe.own | exact CLe.ptr | exact CLe.nilown | refine CLe.agg ?_ | refine CLeL.cons ?_ ?_ | exact CLeL.nil | with_reducible rfl | refine ⟨?_, ?_⟩ | exact SLe.of_eq rfl)
    all_goals rfl
  rintro k hk
  have hst := fun hlt => round_eq (hLoop_lt (s.take k)) (s[k]'hlt)
  have hst2 : ∀ hlt : k < s.length, hRound (hLoop (s.take k)) (s[k]'hlt) = hLoop (s.take (k + 1)) := fun hlt => (hLoop_succ s k hlt).symm
  have hend : k = s.length → hLoop (s.take k) = hLoop s := fun h => by rw [h, List.take_length]
  generalize hLoop (s.take k) = h at hst hst2 hend ⊢
  repeat' (first | refine Awp.seq ?_ | refine Awp.block ?_ | refine Awp.region ?_ | (refine Ops.nil ?_; show Awp _ _ _ _ _) | (refine Ops.nil ?_; show Exists _) | (refine Ops.nil ?_; show endK _ _ _ _ _) | (refine Awp.skip ?_; show Awp _ _ _ _ _) | (refine Awp.skip ?_; show endK _ _ _ _ _) | (refine Awp.skip ?_; show Exists _) | (refine Awp.exit ?_; show Awp _ _ _ _ _) | (refine Awp.exit ?_; show Exists _) | (refine Awp.exit ?_; show endK _ _ _ _ _) | (refine Awp.ret ?_; show endK _ _ _ _ _) | (refine o_add rfl rfl rfl rfl ?_ ?_; omega) | (refine o_mul rfl rfl rfl rfl ?_ ?_; omega) | refine o_len rfl TtOk rfl rfl rfl (fun _ => ?_) | refine o_lenOwn rfl TtOk rfl rfl rfl rfl (fun _ => ?_) | refine o_convB rfl TtOk rfl rfl rfl rfl ?_ | (refine o_conv64 rfl TtOk rfl rfl rfl rfl ?_ ?_; omega) | (refine o_calm rfl TtOk rfl rfl rfl ?_ (fun _ => ?_); first | exact True.intro | exact ⟨rfl, rfl, rfl, rfl⟩ | exact ⟨rfl, True.intro⟩ | exact ⟨rfl, rfl⟩ | exact ⟨rfl, rfl, rfl⟩ | exact rfl | exact ⟨fun h0 => by cases h0, rfl⟩ | exact (fun h0 => by cases h0) | exact ⟨rfl, by omega⟩ | exact ⟨Nat.succ_ne_zero _, rfl⟩ | omega) | (refine o_index rfl TtOk rfl rfl rfl rfl rfl rfl ?_ (getq_nat ?_) ?_; omega; omega) | (refine o_indexOwn TtOk rfl rfl rfl rfl rfl rfl rfl rfl _ rfl ?_ (fun bO hbO => ?_); (simp only [List.length_map]; omega)) | (refine o_loadRow TtOk rfl rfl rfl rfl rfl (by assumption) (getq_map (List.getElem?_eq_getElem ?_)) rfl rfl (by first | exact Nat.add_zero _ | rfl) ⟨rfl, rfl⟩ ?_; omega) | (refine o_calm rfl TtOk rfl rfl rfl ?_ (fun _ => ?_); (show List.length _ + List.length _ ≤ 9223372036854775807; (try simp only [List.length_append, List.length_cons, List.length_nil]); omega)) | (refine o_storeRow TtOk rfl rfl rfl rfl rfl rfl (by assumption) (getq_map (List.getElem?_eq_getElem ?_)) rfl rfl (by first | exact Nat.add_zero _ | rfl) ⟨rfl, rfl⟩ rfl rfl ?_; omega) | refine o_toBytes TtOk rfl rfl rfl rfl rfl rfl ?_ | refine a_condT rfl ?_ | refine a_condF rfl ?_ | (refine a_condP rfl (fun hc => ?_) (fun hc => ?_)) <;> (try (exfalso; omega)) | (refine a_condI rfl (fun hc => ?_) (fun hc => ?_)) <;> (try (exfalso; omega)) | (refine a_condN rfl (fun hc => ?_) (fun hc => ?_)) <;> (try (exfalso; omega)) | (refine Awp.cond rfl (fun hc => ?_) (fun hc => ?_)) | refine o_toString TtOk rfl rfl rfl rfl rfl (by first | exact True.intro | exact rfl) rfl rfl rfl rfl ?_)
  · have hlt' : k < s.length := by omega
    refine ⟨k + 1, [], hlt', by omega, ?_⟩
    refine ⟨rfl, ?_, ?_⟩ <;> repeat' (first | exact True.intro | refine sle_i ?_ | refine sle_s ?_ | refine sle_b ?_ | refine sle_sl ?_ | exact sle_ptr | exact sle_own | exact sle_nilown | exact SLe.any | exact HLe.nil | exact HOLe.refl _ | refine HLe.same rfl ?_ ?_ | refine HLe.none ?_ | refine HOLe.row ?_ | refine HOLe.var ?_ | exact CLe.refl _ | exact CLe.own | exact CLe.ptr | exact CLe.nilown | refine CLe.agg ?_ | refine CLeL.cons ?_ ?_ | exact CLeL.nil | with_reducible rfl | refine ⟨?_, ?_⟩ | exact SLe.of_eq rfl)
    all_goals first | exact (hst hlt').trans (congrArg _ (hst2 hlt')) | omega
  · have hkk : k = s.length := by omega
    refine end_tmp rfl rfl rfl [] [] (CLe.of_eq ?_) .nil ⟨rfl, rfl⟩ _ (.inl rfl)
    have h1 := mid_eq (hLoop_lt s)
    have h2 := fin_eq (hMid_lt (hLoop s))
    rw [← h1] at h2
    rw [hend hkk]
    exact congrArg (AV.i .u64) h2
theorem rhash_spec (s : List UInt8) (hs : s.length ≤ 1000000000000) : Spec Try.prog 73 [.s s] [] (fun v os => v = .i .u64 (hashN s : Nat) ∧ os = []) := by
  refine spec_of TtOk [] Try.func73 rfl Try.ntmps73 (by kernel_rfl) rfl rfl (fun C => ?_) rfl
  repeat' (first | refine Awp.seq ?_ | refine Awp.block ?_ | refine Awp.region ?_ | (refine Ops.nil ?_; show Awp _ _ _ _ _) | (refine Ops.nil ?_; show Exists _) | (refine Ops.nil ?_; show endK _ _ _ _ _) | (refine Awp.skip ?_; show Awp _ _ _ _ _) | (refine Awp.skip ?_; show endK _ _ _ _ _) | (refine Awp.skip ?_; show Exists _) | (refine Awp.exit ?_; show Awp _ _ _ _ _) | (refine Awp.exit ?_; show Exists _) | (refine Awp.exit ?_; show endK _ _ _ _ _) | (refine Awp.ret ?_; show endK _ _ _ _ _) | (refine o_add rfl rfl rfl rfl ?_ ?_; omega) | (refine o_mul rfl rfl rfl rfl ?_ ?_; omega) | refine o_len rfl TtOk rfl rfl rfl (fun _ => ?_) | refine o_lenOwn rfl TtOk rfl rfl rfl rfl (fun _ => ?_) | refine o_convB rfl TtOk rfl rfl rfl rfl ?_ | (refine o_conv64 rfl TtOk rfl rfl rfl rfl ?_ ?_; omega) | (refine o_calm rfl TtOk rfl rfl rfl ?_ (fun _ => ?_); first | exact True.intro | exact ⟨rfl, rfl, rfl, rfl⟩ | exact ⟨rfl, True.intro⟩ | exact ⟨rfl, rfl⟩ | exact ⟨rfl, rfl, rfl⟩ | exact rfl | exact ⟨fun h0 => by cases h0, rfl⟩ | exact (fun h0 => by cases h0) | exact ⟨rfl, by omega⟩ | exact ⟨Nat.succ_ne_zero _, rfl⟩ | omega) | (refine o_indexStr TtOk rfl rfl rfl rfl rfl ?_ (getq_nat ?_) ?_; omega; omega) | (refine o_calm rfl TtOk rfl rfl rfl ?_ (fun _ => ?_); (show List.length _ + List.length _ ≤ 9223372036854775807; (try simp only [List.length_append, List.length_cons, List.length_nil]); omega)) | refine o_toBytes TtOk rfl rfl rfl rfl rfl rfl ?_ | refine a_condT rfl ?_ | refine a_condF rfl ?_ | (refine a_condP rfl (fun hc => ?_) (fun hc => ?_)) <;> (try (exfalso; omega)) | (refine a_condI rfl (fun hc => ?_) (fun hc => ?_)) <;> (try (exfalso; omega)) | (refine a_condN rfl (fun hc => ?_) (fun hc => ?_)) <;> (try (exfalso; omega)) | (refine Awp.cond rfl (fun hc => ?_) (fun hc => ?_)) | refine o_toString TtOk rfl rfl rfl rfl rfl (by first | exact True.intro | exact rfl) rfl rfl rfl rfl ?_)
  refine Awp.loop (fun (k : Nat) => ⟨29, [(3, .i .u64 (hLoop (s.take k) : Nat)), (4, .i .i64 k), (0, .s s)], []⟩) (fun k => k ≤ s.length) (fun k => s.length - k) [] 0 (Nat.zero_le _) ?_ ?_
  · refine ⟨rfl, ?_, ?_⟩ <;> repeat' (first | exact True.intro | refine sle_i ?_ | refine sle_s ?_ | refine sle_b ?_ | refine sle_sl ?_ | exact sle_ptr | exact sle_own | exact sle_nilown | exact SLe.any | exact HLe.nil | exact HOLe.refl _ | refine HLe.same rfl ?_ ?_ | refine HLe.none ?_ | refine HOLe.row ?_ | refine HOLe.var ?_ | exact CLe.refl _ | exact CLe.own | exact CLe.ptr | exact CLe.nilown | refine CLe.agg ?_ | refine CLeL.cons ?_ ?_ | exact CLeL.nil | with_reducible rfl | refine ⟨?_, ?_⟩ | exact SLe.of_eq rfl)
    all_goals rfl
  rintro k hk
  have hst := fun hlt => round_eq (hLoop_lt (s.take k)) (s[k]'hlt)
  have hst2 : ∀ hlt : k < s.length, hRound (hLoop (s.take k)) (s[k]'hlt) = hLoop (s.take (k + 1)) := fun hlt => (hLoop_succ s k hlt).symm
  have hend : k = s.length → hLoop (s.take k) = hLoop s := fun h => by rw [h, List.take_length]
  generalize hLoop (s.take k) = h at hst hst2 hend ⊢
  repeat' (first | refine Awp.seq ?_ | refine Awp.block ?_ | refine Awp.region ?_ | (refine Ops.nil ?_; show Awp _ _ _ _ _) | (refine Ops.nil ?_; show Exists _) | (refine Ops.nil ?_; show endK _ _ _ _ _) | (refine Awp.skip ?_; show Awp _ _ _ _ _) | (refine Awp.skip ?_; show endK _ _ _ _ _) | (refine Awp.skip ?_; show Exists _) | (refine Awp.exit ?_; show Awp _ _ _ _ _) | (refine Awp.exit ?_; show Exists _) | (refine Awp.exit ?_; show endK _ _ _ _ _) | (refine Awp.ret ?_; show endK _ _ _ _ _) | (refine o_add rfl rfl rfl rfl ?_ ?_; omega) | (refine o_mul rfl rfl rfl rfl ?_ ?_; omega) | refine o_len rfl TtOk rfl rfl rfl (fun _ => ?_) | refine o_lenOwn rfl TtOk rfl rfl rfl rfl (fun _ => ?_) | refine o_convB rfl TtOk rfl rfl rfl rfl ?_ | (refine o_conv64 rfl TtOk rfl rfl rfl rfl ?_ ?_; omega) | (refine o_calm rfl TtOk rfl rfl rfl ?_ (fun _ => ?_); first | exact True.intro | exact ⟨rfl, rfl, rfl, rfl⟩ | exact ⟨rfl, True.intro⟩ | exact ⟨rfl, rfl⟩ | exact ⟨rfl, rfl, rfl⟩ | exact rfl | exact ⟨fun h0 => by cases h0, rfl⟩ | exact (fun h0 => by cases h0) | exact ⟨rfl, by omega⟩ | exact ⟨Nat.succ_ne_zero _, rfl⟩ | omega) | (refine o_indexStr TtOk rfl rfl rfl rfl rfl ?_ (getq_nat ?_) ?_; omega; omega) | (refine o_calm rfl TtOk rfl rfl rfl ?_ (fun _ => ?_); (show List.length _ + List.length _ ≤ 9223372036854775807; (try simp only [List.length_append, List.length_cons, List.length_nil]); omega)) | refine o_toBytes TtOk rfl rfl rfl rfl rfl rfl ?_ | refine a_condT rfl ?_ | refine a_condF rfl ?_ | (refine a_condP rfl (fun hc => ?_) (fun hc => ?_)) <;> (try (exfalso; omega)) | (refine a_condI rfl (fun hc => ?_) (fun hc => ?_)) <;> (try (exfalso; omega)) | (refine a_condN rfl (fun hc => ?_) (fun hc => ?_)) <;> (try (exfalso; omega)) | (refine Awp.cond rfl (fun hc => ?_) (fun hc => ?_)) | refine o_toString TtOk rfl rfl rfl rfl rfl (by first | exact True.intro | exact rfl) rfl rfl rfl rfl ?_)
  · have hlt' : k < s.length := by omega
    refine ⟨k + 1, [], hlt', by omega, ?_⟩
    refine ⟨rfl, ?_, ?_⟩ <;> repeat' (first | exact True.intro | refine sle_i ?_ | refine sle_s ?_ | refine sle_b ?_ | refine sle_sl ?_ | exact sle_ptr | exact sle_own | exact sle_nilown | exact SLe.any | exact HLe.nil | exact HOLe.refl _ | refine HLe.same rfl ?_ ?_ | refine HLe.none ?_ | refine HOLe.row ?_ | refine HOLe.var ?_ | exact CLe.refl _ | exact CLe.own | exact CLe.ptr | exact CLe.nilown | refine CLe.agg ?_ | refine CLeL.cons ?_ ?_ | exact CLeL.nil | with_reducible rfl | refine ⟨?_, ?_⟩ | exact SLe.of_eq rfl)
    all_goals first | exact (hst hlt').trans (congrArg _ (hst2 hlt')) | omega
  · have hkk : k = s.length := by omega
    refine end_tmp rfl rfl rfl [] [] (CLe.of_eq ?_) .nil ⟨rfl, rfl⟩ _ (.inl rfl)
    have h1 := mid_eq (hLoop_lt s)
    have h2 := fin_eq (hMid_lt (hLoop s))
    rw [← h1] at h2
    rw [hend hkk]
    exact congrArg (AV.i .u64) h2
end Go.Proofs.Ytdpljpnnjgefoaa
set_option maxHeartbeats 4000000
namespace Go.Proofs.Ytdpljpnnjgefoaa
open Go Go.RowKit

/-- A byte with a bit set. -/
def orBit (c : UInt8) (k : Nat) : UInt8 := UInt8.ofNat (c.toNat ||| 2 ^ k)
theorem orBit_lt (c : UInt8) {k : Nat} (hk : k < 8) : c.toNat ||| 2 ^ k < 256 :=
  Nat.or_lt_two_pow (n := 8) c.toNat_lt (Nat.pow_lt_pow_right (by decide) hk)
theorem orBit_test (c : UInt8) {k : Nat} (hk : k < 8) (j : Nat) : (orBit c k).toNat.testBit j = (c.toNat.testBit j || decide (k = j)) := by
  unfold orBit
  rw [UInt8.toNat_ofNat', Nat.mod_eq_of_lt (orBit_lt c hk), Nat.testBit_or, Nat.testBit_two_pow]
/-- Bytes as bits. -/
def bitsOf (b : List UInt8) : List Bool := b.flatMap (fun c => (List.range 8).map (fun k => c.toNat.testBit k))
theorem bitsOf_nil : bitsOf [] = [] := rfl
theorem bitsOf_cons (c : UInt8) (b : List UInt8) : bitsOf (c :: b) = (List.range 8).map (fun k => c.toNat.testBit k) ++ bitsOf b := by simp [bitsOf]
theorem bitsOf_len : ∀ b : List UInt8, (bitsOf b).length = 8 * b.length
  | [] => rfl
  | c :: b => by rw [bitsOf_cons, List.length_append, bitsOf_len b, List.length_map, List.length_range, List.length_cons]; omega
theorem bitsOf_get : ∀ (b : List UInt8) (p : Nat), (bitsOf b)[p]? = (b[p / 8]?).map (fun c => c.toNat.testBit (p % 8))
  | [], p => by simp [bitsOf_nil]
  | c :: b, p => by
    rw [bitsOf_cons]
    by_cases hp : p < 8
    · rw [List.getElem?_append_left (by simpa using hp), List.getElem?_map, List.getElem?_range hp, Nat.div_eq_of_lt hp, Nat.mod_eq_of_lt hp]; rfl
    · rw [List.getElem?_append_right (by simp; omega), List.length_map, List.length_range, bitsOf_get b (p - 8)]
      rw [show p / 8 = (p - 8) / 8 + 1 by omega, List.getElem?_cons_succ, show (p - 8) % 8 = p % 8 by omega]
/-- Bytes with a bit set. -/
def setBit (b : List UInt8) (p : Nat) : List UInt8 := b.set (p / 8) (orBit (b.getD (p / 8) 0) (p % 8))
theorem setBit_len (b : List UInt8) (p : Nat) : (setBit b p).length = b.length := by simp [setBit]
theorem setBit_bits (b : List UInt8) (p : Nat) : bitsOf (setBit b p) = (bitsOf b).set p true := by
  apply List.ext_getElem?
  intro j
  rw [bitsOf_get, setBit, List.getElem?_set, List.getElem?_set, bitsOf_get]
  by_cases hd : p / 8 = j / 8
  · rw [if_pos hd]
    by_cases hl : p / 8 < b.length
    · rw [if_pos hl, Option.map_some, orBit_test _ (Nat.mod_lt _ (by decide)), ← hd, List.getElem?_eq_getElem hl]
      rw [List.getD_eq_getElem?_getD, List.getElem?_eq_getElem hl]
      by_cases hj : p = j
      · rw [if_pos hj, if_pos (by rw [bitsOf_len]; omega)]
        subst hj; simp
      · rw [if_neg hj]
        have : ¬ p % 8 = j % 8 := by omega
        simp [this]
    · rw [if_neg hl]
      have hn : b[j / 8]? = none := List.getElem?_eq_none (by omega)
      rw [hn]
      by_cases hj : p = j
      · rw [if_pos hj, if_neg (by rw [bitsOf_len]; omega)]; rfl
      · rw [if_neg hj]
  · rw [if_neg hd, if_neg (by intro h; exact hd (by rw [h]))]
def setBits (b : List UInt8) (ps : List Nat) : List UInt8 := ps.foldl setBit b
theorem setBits_len (ps : List Nat) : ∀ b : List UInt8, (setBits b ps).length = b.length := by
  induction ps with
  | nil => intro b; rfl
  | cons p ps ih => intro b; exact (ih (setBit b p)).trans (setBit_len b p)
/-- A key's places. -/
def oddUp (g : Nat) : Nat := if g % 2 = 0 then g + 1 else g
def placeN (H i n : Nat) : Nat := ((H + i * oddUp (H / 4294967296)) % 18446744073709551616) % n
def placesN (H p n : Nat) : List Nat := (List.range p).map (fun i => placeN H i n)
theorem placesN_len (H p n : Nat) : (placesN H p n).length = p := by simp [placesN]
theorem placesN_lt {H p n : Nat} (hn : 0 < n) : ∀ x ∈ placesN H p n, x < n := by
  intro x hx
  obtain ⟨i, _, rfl⟩ := List.mem_map.1 hx
  exact Nat.mod_lt _ hn
theorem placesN_succ (H p n : Nat) : placesN H (p + 1) n = placesN H p n ++ [placeN H p n] := by simp [placesN, List.range_succ]
/-- The step of the document's way: x and g, i times. -/
def walkN (H : Nat) : Nat → Nat
  | 0 => H
  | k + 1 => (walkN H k + oddUp (H / 4294967296)) % 18446744073709551616
theorem walkN_eq {H : Nat} (hH : H < 18446744073709551616) : ∀ i, walkN H i = (H + i * oddUp (H / 4294967296)) % 18446744073709551616
  | 0 => by simp [walkN, Nat.mod_eq_of_lt hH]
  | i + 1 => by rw [walkN, walkN_eq hH i, Nat.mod_add_mod, Nat.succ_mul]; congr 1; omega
theorem or_one (g : Nat) : g ||| 1 = oddUp g := by
  apply Nat.eq_of_testBit_eq
  intro i
  rw [Nat.testBit_or]
  unfold oddUp
  cases i with
  | zero =>
    split
    · rename_i h; simp [Nat.testBit_zero]; omega
    · rename_i h; simp [Nat.testBit_zero]; omega
  | succ i =>
    rw [Nat.testBit_succ, Nat.testBit_succ, Nat.testBit_succ]
    split
    · rename_i h; rw [show (g + 1) / 2 = g / 2 by omega]; simp
    · simp
/-- The filter of keys' hashes. -/
def mkBits (p : Nat) (Hs : List Nat) (b : List UInt8) : List UInt8 := Hs.foldl (fun b H => setBits b (placesN H p (8 * b.length))) b
theorem mkBits_len (p : Nat) (Hs : List Nat) : ∀ b, (mkBits p Hs b).length = b.length := by
  induction Hs with
  | nil => intro b; rfl
  | cons H Hs ih => intro b; exact (ih _).trans (setBits_len _ _)
/-- The document's way: bits. -/
def putBits (b : List Bool) (ps : List Nat) : List Bool := ps.foldl (fun b p => b.set p true) b
theorem putBits_len (ps : List Nat) : ∀ b : List Bool, (putBits b ps).length = b.length := by
  induction ps with
  | nil => intro b; rfl
  | cons p ps ih => intro b; exact (ih _).trans (by simp)
def mkB (p n : Nat) (Hs : List Nat) (b : List Bool) : List Bool := Hs.foldl (fun b H => putBits b (placesN H p n)) b
theorem mkB_len (p n : Nat) (Hs : List Nat) : ∀ b, (mkB p n Hs b).length = b.length := by
  induction Hs with
  | nil => intro b; rfl
  | cons H Hs ih => intro b; exact (ih _).trans (putBits_len _ _)
theorem setBits_bits (ps : List Nat) : ∀ b : List UInt8, bitsOf (setBits b ps) = putBits (bitsOf b) ps := by
  induction ps with
  | nil => intro b; rfl
  | cons p ps ih =>
    intro b
    show bitsOf (setBits (setBit b p) ps) = putBits ((bitsOf b).set p true) ps
    rw [ih, setBit_bits]
theorem mkBits_bits (p : Nat) (Hs : List Nat) : ∀ b : List UInt8, bitsOf (mkBits p Hs b) = mkB p (8 * b.length) Hs (bitsOf b) := by
  induction Hs with
  | nil => intro b; rfl
  | cons H Hs ih =>
    intro b
    show bitsOf (mkBits p Hs (setBits b _)) = mkB p _ Hs (putBits (bitsOf b) _)
    rw [ih, setBits_bits, setBits_len]
theorem bitsOf_zero (n : Nat) : bitsOf (List.replicate n 0) = List.replicate (8 * n) false := by
  induction n with
  | zero => rfl
  | succ n ih =>
    rw [List.replicate_succ, bitsOf_cons, ih, show 8 * (n + 1) = 8 + 8 * n by omega, ← List.replicate_append_replicate]
    congr 1
/-- Is a key's place set everywhere? -/
def mayN (p : Nat) (b : List Bool) (H : Nat) : Bool := (placesN H p b.length).all (fun x => b.getD x true)
theorem putBits_iff (ps : List Nat) : ∀ (b : List Bool) (x : Nat), (putBits b ps).getD x true = (b.getD x true || decide (x ∈ ps)) := by
  induction ps with
  | nil => intro b x; simp [putBits]
  | cons p ps ih =>
    intro b x
    show (putBits (b.set p true) ps).getD x true = _
    rw [ih, List.getD_eq_getElem?_getD, List.getElem?_set, List.getD_eq_getElem?_getD]
    by_cases hp : p = x
    · subst hp
      rw [if_pos rfl]
      by_cases hl : p < b.length
      · rw [if_pos hl]; simp
      · rw [if_neg hl]; simp
    · rw [if_neg hp]
      simp [List.mem_cons, show ¬ x = p from fun h => hp h.symm]
theorem mkB_iff (p n : Nat) (Hs : List Nat) : ∀ (b : List Bool) (x : Nat), (mkB p n Hs b).getD x true = (b.getD x true || Hs.any (fun H => decide (x ∈ placesN H p n))) := by
  induction Hs with
  | nil => intro b x; simp [mkB]
  | cons H Hs ih =>
    intro b x
    show (mkB p n Hs (putBits b _)).getD x true = _
    rw [ih, putBits_iff, List.any_cons, Bool.or_assoc]
end Go.Proofs.Ytdpljpnnjgefoaa
