/- bloom.hash, ref08.Hash by rules. -/
import Derived.Test.YtapbbifcipemfaaHW
import Derived.Test.YtapbbifcipemfaaTypes
set_option maxHeartbeats 4000000
namespace Go.Proofs.Ytapbbifcipemfaa
open Go Go.RowKit

def hRound (h : Nat) (c : UInt8) : Nat := ((h ^^^ c.toNat) * 1099511628211) % 18446744073709551616
def hMid (h : Nat) : Nat := ((h ^^^ (h / 2 ^ 29)) * 13787848793156543929) % 18446744073709551616
def hFin (h : Nat) : Nat := hMid h ^^^ (hMid h / 2 ^ 32)
def hLoop (s : List UInt8) : Nat := s.foldl hRound 14695981039346656037
def hashN (s : List UInt8) : Nat := hFin (hLoop s)
theorem hLoop_succ (s : List UInt8) (k : Nat) (h : k < s.length) : hLoop (s.take (k + 1)) = hRound (hLoop (s.take k)) (s[k]'h) := by
  unfold hLoop; rw [List.take_succ_eq_append_getElem h, List.foldl_append, List.foldl_cons, List.foldl_nil]
theorem hRound_lt (h : Nat) (c : UInt8) : hRound h c < 18446744073709551616 := Nat.mod_lt _ (by decide)
theorem hLoop_lt (s : List UInt8) : hLoop s < 18446744073709551616 := by
  unfold hLoop
  have : ∀ (s : List UInt8) (h : Nat), h < 18446744073709551616 → s.foldl hRound h < 18446744073709551616 := by
    intro s
    induction s with
    | nil => intro h hh; exact hh
    | cons c s ih => intro h _; exact ih _ (hRound_lt h c)
  exact this s _ (by decide)
theorem hMid_lt (h : Nat) : hMid h < 18446744073709551616 := Nat.mod_lt _ (by decide)
theorem div_lt64 {n k : Nat} (h : n < 18446744073709551616) : n / 2 ^ k < 18446744073709551616 := Nat.lt_of_le_of_lt (Nat.div_le_self _ _) h
theorem hashN_lt (s : List UInt8) : hashN s < 18446744073709551616 := Nat.xor_lt_two_pow (n := 64) (hMid_lt _) (div_lt64 (hMid_lt _))
theorem round_eq {h : Nat} (hh : h < 18446744073709551616) (c : UInt8) : IntKind.u64.wrap (bitsI .xor .u64 (h : Int) (IntKind.u64.wrap (c.toNat : Int)) * 1099511628211) = (hRound h c : Int) := by
  have hc := c.toNat_lt
  rw [uwrap_lt (by omega), xor64 hh (by omega), show ((h ^^^ c.toNat : Nat) : Int) * 1099511628211 = (((h ^^^ c.toNat) * 1099511628211 : Nat) : Int) by rw [Int.natCast_mul]; rfl, uwrap_nat]; rfl
theorem mid_eq {h : Nat} (hh : h < 18446744073709551616) : IntKind.u64.wrap (bitsI .xor .u64 (h : Int) ((h : Int).fdiv (2 ^ (min (Int.toNat 29) (IntKind.bits .u64)))) * 13787848793156543929) = (hMid h : Int) := by
  have e : (h : Int).fdiv (2 ^ (min (Int.toNat 29) (IntKind.bits .u64))) = ((h / 2 ^ 29 : Nat) : Int) := shr64 h (k := 29) (by decide)
  rw [e, xor64 hh (div_lt64 hh), show ((h ^^^ (h / 2 ^ 29) : Nat) : Int) * 13787848793156543929 = (((h ^^^ (h / 2 ^ 29)) * 13787848793156543929 : Nat) : Int) by rw [Int.natCast_mul]; rfl, uwrap_nat]; rfl
theorem fin_eq {h : Nat} (hh : h < 18446744073709551616) : bitsI .xor .u64 (h : Int) ((h : Int).fdiv (2 ^ (min (Int.toNat 32) (IntKind.bits .u64)))) = ((h ^^^ (h / 2 ^ 32) : Nat) : Int) := by
  have e : (h : Int).fdiv (2 ^ (min (Int.toNat 32) (IntKind.bits .u64))) = ((h / 2 ^ 32 : Nat) : Int) := shr64 h (k := 32) (by decide)
  rw [e, xor64 hh (div_lt64 hh)]
theorem hash_spec (s : List UInt8) (hs : s.length ≤ 1000000000000) : Spec Try.prog 74 [.s s] [] (fun v os => v = .i .u64 (hashN s : Nat) ∧ os = []) := by
  refine spec_of TtOk [] Try.func74 rfl Try.ntmps74 (by kernel_rfl) rfl rfl (fun C => ?_) rfl
  repeat' (first
    | refine Awp.seq ?_
    | refine Awp.block ?_
    | refine Awp.region ?_
    | (refine Ops.nil ?_; show Awp _ _ _ _ _)
    | (refine Ops.nil ?_; show Exists _)
    | (refine Ops.nil ?_; show endK _ _ _ _ _)
    | (refine Awp.skip ?_; show Awp _ _ _ _ _)
    | (refine Awp.skip ?_; show endK _ _ _ _ _)
    | (refine Awp.skip ?_; show Exists _)
    | (refine Awp.exit ?_; show Awp _ _ _ _ _)
    | (refine Awp.exit ?_; show Exists _)
    | (refine Awp.exit ?_; show endK _ _ _ _ _)
    | (refine Awp.ret ?_; show endK _ _ _ _ _)
    | (refine o_add rfl rfl rfl rfl ?_ ?_; omega)
    | (refine o_mul rfl rfl rfl rfl ?_ ?_; omega)
    | refine o_len rfl TtOk rfl rfl rfl (fun _ => ?_)
    | refine o_lenOwn rfl TtOk rfl rfl rfl rfl (fun _ => ?_)
    | refine o_convB rfl TtOk rfl rfl rfl rfl ?_
    | (refine o_conv64 rfl TtOk rfl rfl rfl rfl ?_ ?_; omega)
    | (refine o_calm rfl TtOk rfl rfl rfl ?_ (fun _ => ?_); first | exact True.intro | exact ⟨rfl, rfl, rfl, rfl⟩ | exact ⟨rfl, True.intro⟩ | exact ⟨rfl, rfl⟩ | exact ⟨rfl, rfl, rfl⟩ | exact rfl | exact ⟨fun h0 => by cases h0, rfl⟩ | exact (fun h0 => by cases h0) | exact ⟨rfl, by omega⟩ | exact ⟨Nat.succ_ne_zero _, rfl⟩ | omega)
    | (refine o_index rfl TtOk rfl rfl rfl rfl rfl rfl ?_ (getq_nat ?_) ?_; omega; omega)
    | (refine o_indexOwn TtOk rfl rfl rfl rfl rfl rfl rfl rfl _ rfl ?_ (fun bO hbO => ?_); (simp only [List.length_map]; omega))
    | (refine o_loadRow TtOk rfl rfl rfl rfl rfl (by assumption) (getq_map (List.getElem?_eq_getElem ?_)) rfl rfl (by first | exact Nat.add_zero _ | rfl) ⟨rfl, rfl⟩ ?_; omega)
    | (refine o_calm rfl TtOk rfl rfl rfl ?_ (fun _ => ?_); (show List.length _ + List.length _ ≤ 9223372036854775807; (try simp only [List.length_append, List.length_cons, List.length_nil]); omega))
    | (refine o_storeRow TtOk rfl rfl rfl rfl rfl rfl (by assumption) (getq_map (List.getElem?_eq_getElem ?_)) rfl rfl (by first | exact Nat.add_zero _ | rfl) ⟨rfl, rfl⟩ rfl rfl ?_; omega)
    | refine o_toBytes TtOk rfl rfl rfl rfl rfl rfl ?_
    | refine a_condT rfl ?_
    | refine a_condF rfl ?_
    | (refine a_condP rfl (fun hc => ?_) (fun hc => ?_)) <;> (try (exfalso; omega))
    | (refine a_condI rfl (fun hc => ?_) (fun hc => ?_)) <;> (try (exfalso; omega))
    | (refine a_condN rfl (fun hc => ?_) (fun hc => ?_)) <;> (try (exfalso; omega))
    | (refine Awp.cond rfl (fun hc => ?_) (fun hc => ?_))
    | refine o_toString TtOk rfl rfl rfl rfl rfl (by first | exact True.intro | exact rfl) rfl rfl rfl rfl ?_)
  refine Awp.loop (fun (k : Nat) => ⟨29, [(3, .i .u64 (hLoop (s.take k) : Nat)), (9, .i .i64 k), (8, .i .i64 s.length), (7, .sl 1 (s.map byA))], []⟩) (fun k => k ≤ s.length) (fun k => s.length - k) [] 0 (Nat.zero_le _) ?_ ?_
  · refine ⟨rfl, ?_, ?_⟩ <;> repeat' (first
      | exact True.intro
      | refine sle_i ?_
      | refine sle_s ?_
      | refine sle_b ?_
      | refine sle_sl ?_
      | exact sle_ptr
      | exact sle_own
      | exact sle_nilown
      | exact SLe.any
      | exact HLe.nil
      | exact HOLe.refl _
      | refine HLe.same rfl ?_ ?_
      | refine HLe.none ?_
      | refine HOLe.row ?_
      | refine HOLe.var ?_
      | exact CLe.refl _
      | exact CLe.own
      | exact CLe.ptr
      | exact CLe.nilown
      | refine CLe.agg ?_
      | refine CLeL.cons ?_ ?_
      | exact CLeL.nil
      | with_reducible rfl
      | refine ⟨?_, ?_⟩
      | exact SLe.of_eq rfl)
    all_goals rfl
  rintro k hk
  have hst := fun hlt => round_eq (hLoop_lt (s.take k)) (s[k]'hlt)
  have hst2 : ∀ hlt : k < s.length, hRound (hLoop (s.take k)) (s[k]'hlt) = hLoop (s.take (k + 1)) := fun hlt => (hLoop_succ s k hlt).symm
  have hend : k = s.length → hLoop (s.take k) = hLoop s := fun h => by rw [h, List.take_length]
  generalize hLoop (s.take k) = h at hst hst2 hend ⊢
  repeat' (first
    | refine Awp.seq ?_
    | refine Awp.block ?_
    | refine Awp.region ?_
    | (refine Ops.nil ?_; show Awp _ _ _ _ _)
    | (refine Ops.nil ?_; show Exists _)
    | (refine Ops.nil ?_; show endK _ _ _ _ _)
    | (refine Awp.skip ?_; show Awp _ _ _ _ _)
    | (refine Awp.skip ?_; show endK _ _ _ _ _)
    | (refine Awp.skip ?_; show Exists _)
    | (refine Awp.exit ?_; show Awp _ _ _ _ _)
    | (refine Awp.exit ?_; show Exists _)
    | (refine Awp.exit ?_; show endK _ _ _ _ _)
    | (refine Awp.ret ?_; show endK _ _ _ _ _)
    | (refine o_add rfl rfl rfl rfl ?_ ?_; omega)
    | (refine o_mul rfl rfl rfl rfl ?_ ?_; omega)
    | refine o_len rfl TtOk rfl rfl rfl (fun _ => ?_)
    | refine o_lenOwn rfl TtOk rfl rfl rfl rfl (fun _ => ?_)
    | refine o_convB rfl TtOk rfl rfl rfl rfl ?_
    | (refine o_conv64 rfl TtOk rfl rfl rfl rfl ?_ ?_; omega)
    | (refine o_calm rfl TtOk rfl rfl rfl ?_ (fun _ => ?_); first | exact True.intro | exact ⟨rfl, rfl, rfl, rfl⟩ | exact ⟨rfl, True.intro⟩ | exact ⟨rfl, rfl⟩ | exact ⟨rfl, rfl, rfl⟩ | exact rfl | exact ⟨fun h0 => by cases h0, rfl⟩ | exact (fun h0 => by cases h0) | exact ⟨rfl, by omega⟩ | exact ⟨Nat.succ_ne_zero _, rfl⟩ | omega)
    | (refine o_index rfl TtOk rfl rfl rfl rfl rfl rfl ?_ (getq_nat ?_) ?_; omega; omega)
    | (refine o_indexOwn TtOk rfl rfl rfl rfl rfl rfl rfl rfl _ rfl ?_ (fun bO hbO => ?_); (simp only [List.length_map]; omega))
    | (refine o_loadRow TtOk rfl rfl rfl rfl rfl (by assumption) (getq_map (List.getElem?_eq_getElem ?_)) rfl rfl (by first | exact Nat.add_zero _ | rfl) ⟨rfl, rfl⟩ ?_; omega)
    | (refine o_calm rfl TtOk rfl rfl rfl ?_ (fun _ => ?_); (show List.length _ + List.length _ ≤ 9223372036854775807; (try simp only [List.length_append, List.length_cons, List.length_nil]); omega))
    | (refine o_storeRow TtOk rfl rfl rfl rfl rfl rfl (by assumption) (getq_map (List.getElem?_eq_getElem ?_)) rfl rfl (by first | exact Nat.add_zero _ | rfl) ⟨rfl, rfl⟩ rfl rfl ?_; omega)
    | refine o_toBytes TtOk rfl rfl rfl rfl rfl rfl ?_
    | refine a_condT rfl ?_
    | refine a_condF rfl ?_
    | (refine a_condP rfl (fun hc => ?_) (fun hc => ?_)) <;> (try (exfalso; omega))
    | (refine a_condI rfl (fun hc => ?_) (fun hc => ?_)) <;> (try (exfalso; omega))
    | (refine a_condN rfl (fun hc => ?_) (fun hc => ?_)) <;> (try (exfalso; omega))
    | (refine Awp.cond rfl (fun hc => ?_) (fun hc => ?_))
    | refine o_toString TtOk rfl rfl rfl rfl rfl (by first | exact True.intro | exact rfl) rfl rfl rfl rfl ?_)
  · have hlt' : k < s.length := by omega
    refine ⟨k + 1, [], hlt', by omega, ?_⟩
    refine ⟨rfl, ?_, ?_⟩ <;> repeat' (first
      | exact True.intro
      | refine sle_i ?_
      | refine sle_s ?_
      | refine sle_b ?_
      | refine sle_sl ?_
      | exact sle_ptr
      | exact sle_own
      | exact sle_nilown
      | exact SLe.any
      | exact HLe.nil
      | exact HOLe.refl _
      | refine HLe.same rfl ?_ ?_
      | refine HLe.none ?_
      | refine HOLe.row ?_
      | refine HOLe.var ?_
      | exact CLe.refl _
      | exact CLe.own
      | exact CLe.ptr
      | exact CLe.nilown
      | refine CLe.agg ?_
      | refine CLeL.cons ?_ ?_
      | exact CLeL.nil
      | with_reducible rfl
      | refine ⟨?_, ?_⟩
      | exact SLe.of_eq rfl)
    all_goals first | exact (hst hlt').trans (congrArg _ (hst2 hlt')) | omega
  · have hkk : k = s.length := by omega
    refine end_tmp rfl rfl rfl [] [] (CLe.of_eq ?_) .nil ⟨rfl, rfl⟩ _ (.inl rfl)
    have h1 := mid_eq (hLoop_lt s)
    have h2 := fin_eq (hMid_lt (hLoop s))
    rw [← h1] at h2
    rw [hend hkk]
    exact congrArg (AV.i .u64) h2
end Go.Proofs.Ytapbbifcipemfaa
