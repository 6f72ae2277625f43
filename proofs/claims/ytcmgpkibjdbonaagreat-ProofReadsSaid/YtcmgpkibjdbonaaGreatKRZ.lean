/- code.Reader by rules: take, fail. -/
import Derived.Test.YtcmgpkibjdbonaaGreatV13Z
import Derived.Test.YtcmgpkibjdbonaaGreatTypesZ
import Derived.Test.YtcmgpkibjdbonaaGreatProg
import Derived.Test.YtcmgpkibjdbonaaGreatBase2Z
import Derived.Lib.ConvBytes
import Derived.Lib.AppendStr
import Derived.Laws.IdiomStrings
import Derived.Laws.BytesArg
import Derived.Laws.BitsAllLaws
import Derived.Laws.BitsLemmas
set_option maxHeartbeats 4000000
namespace Go.Proofs.YtcmgpkibjdbonaaGreat
open Go Go.RowKit

/-- What a Reader holds. -/
structure RS where
  s : List UInt8
  p : Nat
  e : Int
def RS.ok (r : RS) : Prop := r.p ≤ r.s.length ∧ r.s.length ≤ 9223372036854775807
def rdA (r : RS) : AV := .agg [.s r.s, .i .i64 r.p, .i .i64 r.e]
def RS.take (r : RS) (n : Nat) : List UInt8 × RS :=
  if r.e ≠ 0 then ([], r) else if r.s.length - r.p < n then ([], ⟨r.s, r.p, 5⟩) else ((r.s.drop r.p).take n, ⟨r.s, r.p + n, 0⟩)
def RS.fail (r : RS) (x : Int) : RS := if r.e = 0 then ⟨r.s, r.p, x⟩ else r
theorem rfail_spec (b : Nat) (x : Int) (r : RS) : Spec Tryz.prog 192 [.ptr 0 b [] 0, .i .i64 x] [.var b (rdA r)] (fun v os => v = .tup [] ∧ os = [.var b (rdA (r.fail x))]) := by
  refine spec_of TtOk [(0, .var b (rdA r))] Tryz.func192 rfl Tryz.ntmps192 (by kernel_rfl) rfl rfl (fun C => ?_) rfl
  repeat' (first | refine Awp.seq ?_ | refine Awp.region ?_ | refine Ops.nil (nqA ?_) | refine Ops.nil (nqE ?_) | refine Awp.skip (nqE ?_) | (refine o_calm rfl TtOk rfl rfl rfl ?_ (fun _ => ?_); exact nd) | refine o_store TtOk rfl rfl rfl rfl rfl rfl rfl ⟨rfl, rfl⟩ rfl rfl rfl rfl rfl ?_ | (refine a_condP rfl (fun hc => ?_) (fun hc => ?_)) <;> (try (exfalso; omega)))
  · refine end_none rfl [] _ (HLe.same (k := 0) rfl (HOLe.refl _) .nil) ⟨rfl, ?_⟩ _ (by first | exact .inl rfl | exact .inr rfl)
    unfold RS.fail; rw [if_pos hc]; rfl
  · refine end_none rfl [] _ (HLe.same (k := 0) rfl (HOLe.refl _) .nil) ⟨rfl, ?_⟩ _ (by first | exact .inl rfl | exact .inr rfl)
    unfold RS.fail; rw [if_neg hc]; rfl
theorem rtake_spec (b : Nat) (n : Nat) (r : RS) (hok : r.ok) : Spec Tryz.prog 193 [.ptr 0 b [] 0, .i .i64 n] [.var b (rdA r)] (fun v os => v = .s (r.take n).1 ∧ os = [.var b (rdA (r.take n).2)]) := by
  obtain ⟨h1, h2⟩ := hok
  refine spec_of TtOk [(0, .var b (rdA r))] Tryz.func193 rfl Tryz.ntmps193 (by kernel_rfl) rfl rfl (fun C => ?_) rfl
  repeat' (first | refine Awp.seq ?_ | refine Awp.region ?_ | refine Ops.nil (nqA ?_) | refine Awp.skip (nqA ?_) | refine Awp.ret (nqE ?_) | refine o_offT rfl rfl rfl (by first | exact .inl rfl | exact .inr rfl) ?_ | (refine o_add rfl rfl rfl rfl ?_ ?_; omega) | (refine o_sub rfl rfl rfl rfl ?_ ?_; omega) | (refine o_calm rfl TtOk rfl rfl rfl ?_ (fun _ => ?_); exact nd) | refine o_store TtOk rfl rfl rfl rfl rfl rfl rfl ⟨rfl, rfl⟩ rfl rfl rfl rfl rfl ?_ | (fail_if_success (refine o_isLit rfl (by first | exact .inl rfl | exact .inr rfl) ?_)); (refine o_splitP rfl rfl (fun hc => ?_) (fun hc => ?_) <;> try (exfalso; omega)) | refine a_condT rfl ?_ | refine a_condF rfl ?_ | (refine a_condP rfl (fun hc => ?_) (fun hc => ?_)) <;> (try (exfalso; omega)) | (refine a_condN rfl (fun hc => ?_) (fun hc => ?_)) <;> (try (exfalso; omega)) | refine a_any 1 [] [] [] [0, 1, 2, 3, 4, 5, 6, 7, 8, 9, 12, 13, 14, 10, 11, 15, 16, 17, 18] (by kernel_rfl) (by kernel_rfl) (by kernel_rfl) rfl rfl rfl ?_ | refine a_any 6 [] [] [] [0, 1, 2, 4, 5, 6, 8, 10, 11, 12, 3, 7, 9, 13, 14, 15] (by kernel_rfl) (by kernel_rfl) (by kernel_rfl) rfl rfl rfl ?_)
  · have ht : r.take n = ([], ⟨r.s, r.p, 5⟩) := by unfold RS.take; rw [if_neg (by omega), if_pos (by omega)]
    refine end_tmp rfl rfl rfl [] [(0, _)] (CLe.of_eq (by rw [ht]; rfl)) (HLe.same rfl (HOLe.refl _) .nil) ⟨rfl, by rw [ht]; rfl⟩ _ (.inl rfl)
  · refine o_sliceStr TtOk rfl r.p (r.p + n) rfl rfl rfl (bnd_some rfl (by omega)) (bnd_some rfl (by omega)) (by omega) (by omega) ?_
    repeat' (first | refine Ops.nil (nqA ?_) | refine Awp.ret (nqE ?_) | (refine o_calm rfl TtOk rfl rfl rfl ?_ (fun _ => ?_); exact nd))
    have ht : r.take n = ((r.s.drop r.p).take n, ⟨r.s, r.p + n, 0⟩) := by unfold RS.take; rw [if_neg (by omega), if_neg (by omega)]
    refine end_tmp rfl rfl rfl [] [(0, _)] (CLe.of_eq ?_) (HLe.same rfl (HOLe.refl _) .nil) ⟨rfl, ?_⟩ _ (.inl rfl)
    · rw [ht]; show AV.s ((r.s.take (r.p+n)).drop r.p) = AV.s ((r.s.drop r.p).take n); rw [List.drop_take, Nat.add_sub_cancel_left]
    · rw [ht]; show [HO.var b (.agg [.s r.s, .i .i64 (r.p + n), .i .i64 r.e])] = [HO.var b (.agg [.s r.s, .i .i64 ((r.p + n : Nat) : Int), .i .i64 0])]; rw [Int.natCast_add, hc]
  · have ht : r.take n = ([], r) := by unfold RS.take; rw [if_pos hc]
    refine end_tmp rfl rfl rfl [] [(0, _)] (CLe.of_eq (by rw [ht]; rfl)) (HLe.same rfl (HOLe.refl _) .nil) ⟨rfl, by rw [ht]; rfl⟩ _ (.inl rfl)
theorem RS.ok_take {r : RS} (h : r.ok) (n : Nat) : (r.take n).2.ok := by
  unfold RS.take; split
  · exact h
  · split
    · exact h
    · exact ⟨by show r.p + n ≤ r.s.length; have := h.1; omega, h.2⟩
theorem RS.ok_fail {r : RS} (h : r.ok) (x : Int) : (r.fail x).ok := by unfold RS.fail; split <;> exact h
end Go.Proofs.YtcmgpkibjdbonaaGreat
namespace Go.Proofs.YtcmgpkibjdbonaaGreat
open Go.RowKit

def byC (c : UInt8) : List Value := [.int .u8 (c.toNat : Int)]
theorem ofInt_i64 (a : Nat) (ha : a < 9223372036854775808) : (BitVec.ofInt 64 (a : Int)).toNat = a := by
  rw [BitVec.ofInt_natCast, BitVec.toNat_ofNat]; exact Nat.mod_eq_of_lt (by omega)
theorem i64_or_nat (a b : Nat) (ha : a < 9223372036854775808) (hb : b < 9223372036854775808) : bits .or .i64 (a : Int) (b : Int) = ((a ||| b : Nat) : Int) := by
  have hx : a ||| b < 2 ^ 63 := Nat.or_lt_two_pow (by omega) (by omega)
  show IntKind.i64.wrap ((BitVec.ofInt 64 (a : Int) ||| BitVec.ofInt 64 (b : Int)).toNat : Int) = _
  rw [BitVec.toNat_or, ofInt_i64 a ha, ofInt_i64 b hb, IntKind.wrap_i64]
  omega
/-- 'n<<8 | c'. -/
theorem or_byte (x c : Nat) (hc : c < 256) (hx : 256 * x + c < 9223372036854775808) : bits .or .i64 ((x : Int) * 256) (c : Int) = ((256 * x + c : Nat) : Int) := by
  have h1 : ((x : Int) * 256) = ((256 * x : Nat) : Int) := by omega
  rw [h1, i64_or_nat _ _ (by omega) (by omega), ← Nat.two_pow_add_eq_or_of_lt (i := 8) (by omega)]
end Go.Proofs.YtcmgpkibjdbonaaGreat
set_option maxHeartbeats 4000000
namespace Go.Proofs.YtcmgpkibjdbonaaGreat
open Go Go.RowKit

def be (l : List UInt8) : Nat := l.foldl (fun n c => 256 * n + c.toNat) 0
def badNum (sz : Nat) (l : List UInt8) : Bool := match l with
  | [] => false
  | c :: _ => c.toNat == 0 || sz == 8 && decide (127 < c.toNat)
theorem be_snoc (l : List UInt8) (c : UInt8) : be (l ++ [c]) = 256 * be l + c.toNat := by simp [be, List.foldl_append]
theorem be_acc (l : List UInt8) : ∀ a, l.foldl (fun n c => 256 * n + c.toNat) a = a * 256 ^ l.length + be l := by
  induction l with
  | nil => intro a; simp [be]
  | cons c l ih =>
    intro a
    have h0 := ih c.toNat
    simp only [be, List.foldl_cons, Nat.mul_zero, Nat.zero_add] at h0 ⊢
    rw [ih, h0, List.length_cons, Nat.pow_succ, Nat.add_mul]
    simp only [be]
    rw [show 256 * a * 256 ^ l.length = a * (256 ^ l.length * 256) by rw [Nat.mul_comm 256 a, Nat.mul_assoc, Nat.mul_comm 256]]
    omega
theorem be_cons (c : UInt8) (l : List UInt8) : be (c :: l) = c.toNat * 256 ^ l.length + be l := by
  have := be_acc l c.toNat
  simpa [be] using this
theorem be_lt (l : List UInt8) : be l < 256 ^ l.length := by
  induction l with
  | nil => simp [be]
  | cons c l ih =>
    rw [be_cons, List.length_cons, Nat.pow_succ]
    have h1 : c.toNat + 1 ≤ 256 := c.toNat_lt
    have h2 := Nat.mul_le_mul_right (256 ^ l.length) h1
    rw [Nat.add_mul, Nat.one_mul] at h2
    rw [Nat.mul_comm (256 ^ l.length) 256]
    omega
theorem be_take_le (l : List UInt8) (k : Nat) : be (l.take k) ≤ be l := by
  conv => rhs; rw [← List.take_append_drop k l]
  have : be (l.take k ++ l.drop k) = be (l.take k) * 256 ^ (l.drop k).length + be (l.drop k) := by
    unfold be; rw [List.foldl_append]; exact be_acc _ _
  rw [this]
  have := Nat.le_mul_of_pos_right (be (l.take k)) (Nat.pow_pos (n := (l.drop k).length) (by omega : 0 < 256))
  omega
/-- What is read as a number fits. -/
theorem be_fits {sz : Nat} {l : List UInt8} (hl : l.length ≤ sz) (h8 : sz ≤ 8) (hb : badNum sz l = false) : be l < 9223372036854775808 := by
  rcases l with _ | ⟨c, l⟩
  · simp [be]
  · have h1 := be_lt (c :: l)
    by_cases h : (c :: l).length ≤ 7
    · have : 256 ^ (c :: l).length ≤ 256 ^ 7 := Nat.pow_le_pow_right (by omega) h
      omega
    · have hl8 : l.length = 7 := by simp at hl h; omega
      have hsz : sz = 8 := by simp at hl h; omega
      rw [be_cons, hl8]
      have h2 := be_lt l
      rw [hl8] at h2
      simp [badNum, hsz] at hb
      have := hb.2
      omega
def hd0 (l : List UInt8) : Nat := (l.headD 0).toNat
def RS.number (r : RS) : Nat × RS :=
  if (r.take 1).1 = [] then (0, (r.take 1).2) else
  if 8 < hd0 (r.take 1).1 then (0, (r.take 1).2.fail 4) else
  if badNum (hd0 (r.take 1).1) ((r.take 1).2.take (hd0 (r.take 1).1)).1 then (0, ((r.take 1).2.take (hd0 (r.take 1).1)).2.fail 4)
  else (be ((r.take 1).2.take (hd0 (r.take 1).1)).1, ((r.take 1).2.take (hd0 (r.take 1).1)).2)
theorem RS.ok_number {r : RS} (h : r.ok) : r.number.2.ok := by
  unfold RS.number
  split
  · exact ok_take h 1
  · split
    · exact ok_fail (ok_take h 1) 4
    · split
      · exact ok_fail (ok_take (ok_take h 1) _) 4
      · exact ok_take (ok_take h 1) _
theorem take_len (r : RS) (n : Nat) : (r.take n).1.length ≤ n := by
  unfold RS.take
  split
  · exact Nat.zero_le _
  · split
    · exact Nat.zero_le _
    · show ((r.s.drop r.p).take n).length ≤ n
      rw [List.length_take]; omega
theorem number_fits {r : RS} : r.number.1 < 9223372036854775808 := by
  unfold RS.number
  split
  · exact (by decide : 0 < 9223372036854775808)
  · split
    · exact (by decide : 0 < 9223372036854775808)
    · split
      · exact (by decide : 0 < 9223372036854775808)
      · rename_i h1 h2 h3
        exact be_fits (take_len _ _) (by omega) (by simpa using h3)
/-- A byte laid behind a number that has room. -/
theorem or_low (n : Nat) (c : UInt8) (hn : 256 * n + c.toNat < 9223372036854775808) : bitsI .or .i64 (IntKind.wrap .i64 ((n : Int) * 2 ^ (min (Int.toNat 8) (IntKind.bits .i64)))) (c.toNat : Int) = ((256 * n + c.toNat : Nat) : Int) := by
  have h1 : (n : Int) * 2 ^ (min (Int.toNat 8) (IntKind.bits .i64)) = (n : Int) * 256 := by rw [show (2 : Int) ^ (min (Int.toNat 8) (IntKind.bits .i64)) = 256 from rfl]
  rw [h1, wrap64 _ (by omega)]
  exact or_byte n c.toNat (c.toNat_lt) hn

theorem be_take_succ (l : List UInt8) (k : Nat) (h : k < l.length) : be (l.take (k + 1)) = 256 * be (l.take k) + (l[k]'h).toNat := by
  rw [List.take_succ_eq_append_getElem h, be_snoc]
theorem badNum_at (t : List UInt8) (k : Nat) (hk : k < t.length) (h0 : (k : Int) = 0) (sz : Nat) : badNum sz t = ((t[k]'hk).toNat == 0 || sz == 8 && decide (127 < (t[k]'hk).toNat)) := by
  have : k = 0 := by omega
  subst this
  cases t with
  | nil => simp at hk
  | cons c l => rfl
theorem be_round {sz : Nat} {t : List UInt8} (hlen : t.length ≤ sz) (h8 : sz ≤ 8) (hb : badNum sz t = false) (k : Nat) (hk : k < t.length) : bitsI .or .i64 (IntKind.wrap .i64 ((be (t.take k) : Nat) * 2 ^ (min (Int.toNat 8) (IntKind.bits .i64)))) ((t[k]'hk).toNat : Int) = ((be (t.take (k + 1)) : Nat) : Int) := by
  have h1 := be_fits hlen h8 hb
  have h2 := be_take_le t (k + 1)
  rw [be_take_succ t k hk] at h2 ⊢
  exact or_low _ _ (by omega)
theorem rnumber_spec (b : Nat) (r : RS) (hok : r.ok) : Spec Tryz.prog 113 [.ptr 0 b [] 0] [.var b (rdA r)] (fun v os => v = .i .i64 (r.number.1 : Nat) ∧ os = [.var b (rdA r.number.2)]) := by
  refine spec_of TtOk [(0, .var b (rdA r))] Tryz.func113 rfl Tryz.ntmps113 (by kernel_rfl) rfl rfl (fun C => ?_) rfl
  repeat' (first | refine Awp.seq ?_ | refine Awp.region ?_ | refine Ops.nil (nqA ?_) | (refine o_calm rfl TtOk rfl rfl rfl ?_ (fun _ => ?_); exact nd))
  refine o_call [] [0] [0] rfl (rtake_spec b 1 r hok) ⟨sle_ptr, sle_i rfl, True.intro⟩ rfl ⟨HOLe.refl _, True.intro⟩ rfl rfl ?_
  rintro v os' ⟨rfl, rfl⟩; refine ⟨_, rfl, rfl, ?_⟩
  repeat' (first | refine Awp.seq ?_ | refine Awp.region ?_ | refine Ops.nil (nqA ?_) | refine Awp.skip (nqA ?_) | refine Awp.ret (nqE ?_) | (refine o_calm rfl TtOk rfl rfl rfl ?_ (fun _ => ?_); exact nd) | (refine Awp.cond rfl (fun hc => ?_) (fun hc => ?_)))
  · have h0 : (r.take 1).1 = [] := by simpa using hc
    refine end_tmp rfl rfl rfl [] [(0, _)] (CLe.of_eq ?_) (HLe.same rfl (HOLe.refl _) .nil) ⟨rfl, ?_⟩ _ (.inl rfl)
    · unfold RS.number; rw [if_pos h0]; rfl
    · unfold RS.number; rw [if_pos h0]; rfl
  · have h0 : ¬ (r.take 1).1 = [] := by simpa using hc
    obtain ⟨c0, hc0⟩ : ∃ c0, (r.take 1).1[Int.toNat 0]? = some c0 := by
      cases hq : (r.take 1).1 with
      | nil => exact absurd hq h0
      | cons a l => exact ⟨a, rfl⟩
    have hd : hd0 (r.take 1).1 = c0.toNat := by
      cases hq : (r.take 1).1 with
      | nil => exact absurd hq h0
      | cons a l => rw [hq] at hc0; simp at hc0; rw [← hc0]; rfl
    refine o_indexStr TtOk rfl rfl rfl rfl rfl (by omega) hc0 ?_
    repeat' (first | refine Awp.seq ?_ | refine Awp.region ?_ | refine Ops.nil (nqA ?_) | refine Awp.skip (nqA ?_) | refine o_convB rfl TtOk rfl rfl rfl rfl ?_ | (refine o_calm rfl TtOk rfl rfl rfl ?_ (fun _ => ?_); exact nd) | (refine a_condP rfl (fun hc => ?_) (fun hc => ?_)) <;> (try (exfalso; omega)))
    · refine o_call [] [0] [0] rfl (rfail_spec b 4 _) ⟨sle_ptr, sle_i rfl, True.intro⟩ rfl ⟨HOLe.refl _, True.intro⟩ rfl rfl ?_
      rintro v os' ⟨rfl, rfl⟩; refine ⟨_, rfl, rfl, ?_⟩
      repeat' (first | refine Awp.seq ?_ | refine Awp.region ?_ | refine Ops.nil (nqA ?_) | refine Awp.ret (nqE ?_) | (refine o_calm rfl TtOk rfl rfl rfl ?_ (fun _ => ?_); exact nd))
      have hn : r.number = (0, (r.take 1).2.fail 4) := by unfold RS.number; rw [if_neg h0, if_pos (by omega)]
      exact end_tmp rfl rfl rfl [] [(0, _)] (CLe.of_eq (by rw [hn]; rfl)) (HLe.same rfl (HOLe.refl _) .nil) ⟨rfl, by rw [hn]; rfl⟩ _ (.inl rfl)
    · have hok1 := RS.ok_take hok 1
      refine o_call [] [0] [0] rfl (rtake_spec b c0.toNat _ hok1) ⟨sle_ptr, sle_i rfl, True.intro⟩ rfl ⟨HOLe.refl _, True.intro⟩ rfl rfl ?_
      rintro v os' ⟨rfl, rfl⟩; refine ⟨_, rfl, rfl, ?_⟩
      have hn0 : r.number = if badNum c0.toNat ((r.take 1).2.take c0.toNat).1 then (0, ((r.take 1).2.take c0.toNat).2.fail 4) else (be ((r.take 1).2.take c0.toNat).1, ((r.take 1).2.take c0.toNat).2) := by
        unfold RS.number; rw [if_neg h0, if_neg (by omega), hd]
      have hlen := take_len (r.take 1).2 c0.toNat
      generalize ((r.take 1).2.take c0.toNat).2 = r2 at hn0 ⊢
      generalize ((r.take 1).2.take c0.toNat).1 = t at hn0 hlen ⊢
      repeat' (first | refine Awp.block ?_ | refine Ops.nil (nqA ?_) | refine o_len rfl TtOk rfl rfl rfl (fun _ => ?_) | (refine o_calm rfl TtOk rfl rfl rfl ?_ (fun _ => ?_); exact nd) | refine o_toBytes TtOk rfl rfl rfl rfl rfl rfl ?_)
      refine Awp.loop (fun k : Nat => ⟨52, [(24, .i .i64 k), (23, .i .i64 t.length), (22, .sl 1 (t.map byA)), (5, .i .i64 (be (t.take k) : Nat)), (4, .i .i64 c0.toNat), (0, .ptr 0 b [] 0)], [(0, .var b (rdA r2))]⟩) (fun k => k ≤ t.length ∧ (0 < k → badNum c0.toNat t = false)) (fun k => t.length - k) [] 0 ⟨by omega, fun h => absurd h (by omega)⟩ ?_ ?_
      · refine ⟨rfl, ?_, ?_⟩ <;> repeat' (first | exact True.intro | refine sle_i ?_ | refine sle_sl ?_ | exact sle_ptr | exact HLe.nil | exact HOLe.refl _ | refine HLe.same rfl ?_ ?_ | with_reducible rfl | refine ⟨?_, ?_⟩ | fail)
        all_goals rfl
      rintro k ⟨hk, hbad⟩
      repeat' (first | refine Awp.seq ?_ | refine Awp.block ?_ | refine Awp.region ?_ | refine Ops.nil (nqA ?_) | refine Ops.nil (nqX ?_) | refine Awp.skip (nqA ?_) | refine Awp.exit (nqA ?_) | refine Awp.ret (nqE ?_) | refine o_offT rfl rfl rfl (by first | exact .inl rfl | exact .inr rfl) ?_ | refine o_offU rfl rfl rfl (by first | exact .inl rfl | exact .inr rfl) ?_ | refine o_offF rfl rfl rfl (by first | exact .inl rfl | exact .inr rfl) ?_ | (refine o_add rfl rfl rfl rfl ?_ ?_; omega) | refine o_convB rfl TtOk rfl rfl rfl rfl ?_ | (refine o_calm rfl TtOk rfl rfl rfl ?_ (fun _ => ?_); exact nd) | (refine o_index rfl TtOk rfl rfl rfl rfl rfl rfl ?_ (getq_nat ?_) ?_; omega; omega) | (fail_if_success (refine o_isLit rfl (by first | exact .inl rfl | exact .inr rfl) ?_)); (refine o_splitP rfl rfl (fun hc => ?_) (fun hc => ?_) <;> try (exfalso; omega)) | refine a_condT rfl ?_ | refine a_condF rfl ?_ | (refine a_condP rfl (fun hc => ?_) (fun hc => ?_)) <;> (try (exfalso; omega)))
      · refine o_call [] [0] [0] rfl (rfail_spec b 4 _) ⟨sle_ptr, sle_i rfl, True.intro⟩ rfl ⟨HOLe.refl _, True.intro⟩ rfl rfl ?_
        rintro v os' ⟨rfl, rfl⟩; refine ⟨_, rfl, rfl, ?_⟩
        repeat' (first | refine Awp.seq ?_ | refine Awp.region ?_ | refine Ops.nil (nqA ?_) | refine Awp.ret (nqE ?_) | (refine o_calm rfl TtOk rfl rfl rfl ?_ (fun _ => ?_); exact nd))
        have hn : r.number = (0, r2.fail 4) := by rw [hn0, if_pos (by rw [badNum_at t k (by omega) (by omega)]; simp; omega)]
        exact end_tmp rfl rfl rfl [] [(0, _)] (CLe.of_eq (by rw [hn]; rfl)) (HLe.same rfl (HOLe.refl _) .nil) ⟨rfl, by rw [hn]; rfl⟩ _ (.inl rfl)
      · refine o_call [] [0] [0] rfl (rfail_spec b 4 _) ⟨sle_ptr, sle_i rfl, True.intro⟩ rfl ⟨HOLe.refl _, True.intro⟩ rfl rfl ?_
        rintro v os' ⟨rfl, rfl⟩; refine ⟨_, rfl, rfl, ?_⟩
        repeat' (first | refine Awp.seq ?_ | refine Awp.region ?_ | refine Ops.nil (nqA ?_) | refine Awp.ret (nqE ?_) | (refine o_calm rfl TtOk rfl rfl rfl ?_ (fun _ => ?_); exact nd))
        have hn : r.number = (0, r2.fail 4) := by rw [hn0, if_pos (by rw [badNum_at t k (by omega) (by omega)]; simp; omega)]
        exact end_tmp rfl rfl rfl [] [(0, _)] (CLe.of_eq (by rw [hn]; rfl)) (HLe.same rfl (HOLe.refl _) .nil) ⟨rfl, by rw [hn]; rfl⟩ _ (.inl rfl)
      · have hb : badNum c0.toNat t = false := by rw [badNum_at t k (by omega) (by omega)]; simp; omega
        refine ⟨k + 1, [], ⟨by omega, fun _ => hb⟩, by omega, ?_⟩
        refine ⟨rfl, ?_, ?_⟩ <;> repeat' (first | exact True.intro | refine sle_i ?_ | refine sle_sl ?_ | exact sle_ptr | exact HLe.nil | exact HOLe.refl _ | refine HLe.same rfl ?_ ?_ | with_reducible rfl | refine ⟨?_, ?_⟩ | fail)
        all_goals first | omega | exact be_round hlen (by omega) hb k (by omega)
      · have hb : badNum c0.toNat t = false := by rw [badNum_at t k (by omega) (by omega)]; simp; omega
        refine ⟨k + 1, [], ⟨by omega, fun _ => hb⟩, by omega, ?_⟩
        refine ⟨rfl, ?_, ?_⟩ <;> repeat' (first | exact True.intro | refine sle_i ?_ | refine sle_sl ?_ | exact sle_ptr | exact HLe.nil | exact HOLe.refl _ | refine HLe.same rfl ?_ ?_ | with_reducible rfl | refine ⟨?_, ?_⟩ | fail)
        all_goals first | omega | exact be_round hlen (by omega) hb k (by omega)
      · have hb : badNum c0.toNat t = false := hbad (by omega)
        refine ⟨k + 1, [], ⟨by omega, fun _ => hb⟩, by omega, ?_⟩
        refine ⟨rfl, ?_, ?_⟩ <;> repeat' (first | exact True.intro | refine sle_i ?_ | refine sle_sl ?_ | exact sle_ptr | exact HLe.nil | exact HOLe.refl _ | refine HLe.same rfl ?_ ?_ | with_reducible rfl | refine ⟨?_, ?_⟩ | fail)
        all_goals first | omega | exact be_round hlen (by omega) hb k (by omega)
      · have hk' : k = t.length := by omega
        have hb : badNum c0.toNat t = false := by
          by_cases hz : t.length = 0
          · cases t with
            | nil => rfl
            | cons c l => simp at hz
          · exact hbad (by omega)
        have hn : r.number = (be t, r2) := by rw [hn0, if_neg (by rw [hb]; decide)]
        exact end_tmp rfl rfl rfl [] [(0, _)] (CLe.of_eq (by rw [hn, hk', List.take_length]; rfl)) (HLe.same rfl (HOLe.refl _) .nil) ⟨rfl, by rw [hn]; rfl⟩ _ (.inl rfl)
end Go.Proofs.YtcmgpkibjdbonaaGreat
