/- code.Reader by rules: Number, Below, Text, Flag, Left, Done, Open. -/
import Derived.Test.YtcmgpkibjdbonaaGreatGFZ
set_option maxHeartbeats 4000000
namespace Go.Proofs.YtcmgpkibjdbonaaGreat
open Go Go.RowKit

def be (l : List UInt8) : Nat := l.foldl (fun n c => 256 * n + c.toNat) 0
def badNum (sz : Nat) (l : List UInt8) : Bool := match l with
  | [] => false
  | c :: _ => c.toNat == 0 || sz == 8 && decide (127 < c.toNat)
theorem be_snoc (l : List UInt8) (c : UInt8) : be (l ++ [c]) = 256 * be l + c.toNat := by simp [be, List.foldl_append]
theorem be_acc (l : List UInt8) : ∀ a, l.foldl (fun n c => 256 * n + c.toNat) a = a * 256 ^ l.length + be l := by
  induction l with
  | nil => intro a; simp [be]
  | cons c l ih =>
    intro a
    have h0 := ih c.toNat
    simp only [be, List.foldl_cons, Nat.mul_zero, Nat.zero_add] at h0 ⊢
    rw [ih, h0, List.length_cons, Nat.pow_succ, Nat.add_mul]
    simp only [be]
    rw [show 256 * a * 256 ^ l.length = a * (256 ^ l.length * 256) by rw [Nat.mul_comm 256 a, Nat.mul_assoc, Nat.mul_comm 256]]
    omega
theorem be_cons (c : UInt8) (l : List UInt8) : be (c :: l) = c.toNat * 256 ^ l.length + be l := by
  have := be_acc l c.toNat
  simpa [be] using this
theorem be_lt (l : List UInt8) : be l < 256 ^ l.length := by
  induction l with
  | nil => simp [be]
  | cons c l ih =>
    rw [be_cons, List.length_cons, Nat.pow_succ]
    have h1 : c.toNat + 1 ≤ 256 := c.toNat_lt
    have h2 := Nat.mul_le_mul_right (256 ^ l.length) h1
    rw [Nat.add_mul, Nat.one_mul] at h2
    rw [Nat.mul_comm (256 ^ l.length) 256]
    omega
theorem be_take_le (l : List UInt8) (k : Nat) : be (l.take k) ≤ be l := by
  conv => rhs; rw [← List.take_append_drop k l]
  have : be (l.take k ++ l.drop k) = be (l.take k) * 256 ^ (l.drop k).length + be (l.drop k) := by
    unfold be; rw [List.foldl_append]; exact be_acc _ _
  rw [this]
  have := Nat.le_mul_of_pos_right (be (l.take k)) (Nat.pow_pos (n := (l.drop k).length) (by omega : 0 < 256))
  omega
/-- What is read as a number fits. -/
theorem be_fits {sz : Nat} {l : List UInt8} (hl : l.length ≤ sz) (h8 : sz ≤ 8) (hb : badNum sz l = false) : be l < 9223372036854775808 := by
  rcases l with _ | ⟨c, l⟩
  · simp [be]
  · have h1 := be_lt (c :: l)
    by_cases h : (c :: l).length ≤ 7
    · have : 256 ^ (c :: l).length ≤ 256 ^ 7 := Nat.pow_le_pow_right (by omega) h
      omega
    · have hl8 : l.length = 7 := by simp at hl h; omega
      have hsz : sz = 8 := by simp at hl h; omega
      rw [be_cons, hl8]
      have h2 := be_lt l
      rw [hl8] at h2
      simp [badNum, hsz] at hb
      have := hb.2
      omega
def hd0 (l : List UInt8) : Nat := (l.headD 0).toNat
def RS.number (r : RS) : Nat × RS :=
  if (r.take 1).1 = [] then (0, (r.take 1).2) else
  if 8 < hd0 (r.take 1).1 then (0, (r.take 1).2.fail 4) else
  if badNum (hd0 (r.take 1).1) ((r.take 1).2.take (hd0 (r.take 1).1)).1 then (0, ((r.take 1).2.take (hd0 (r.take 1).1)).2.fail 4)
  else (be ((r.take 1).2.take (hd0 (r.take 1).1)).1, ((r.take 1).2.take (hd0 (r.take 1).1)).2)
theorem RS.ok_number {r : RS} (h : r.ok) : r.number.2.ok := by
  unfold RS.number
  split
  · exact ok_take h 1
  · split
    · exact ok_fail (ok_take h 1) 4
    · split
      · exact ok_fail (ok_take (ok_take h 1) _) 4
      · exact ok_take (ok_take h 1) _
theorem take_len (r : RS) (n : Nat) : (r.take n).1.length ≤ n := by
  unfold RS.take
  split
  · exact Nat.zero_le _
  · split
    · exact Nat.zero_le _
    · show ((r.s.drop r.p).take n).length ≤ n
      rw [List.length_take]; omega
theorem number_fits {r : RS} : r.number.1 < 9223372036854775808 := by
  unfold RS.number
  split
  · exact (by decide : 0 < 9223372036854775808)
  · split
    · exact (by decide : 0 < 9223372036854775808)
    · split
      · exact (by decide : 0 < 9223372036854775808)
      · rename_i h1 h2 h3
        exact be_fits (take_len _ _) (by omega) (by simpa using h3)
/-- A byte laid behind a number that has room. -/
theorem or_low (n : Nat) (c : UInt8) (hn : 256 * n + c.toNat < 9223372036854775808) : bitsI .or .i64 (IntKind.wrap .i64 ((n : Int) * 2 ^ (min (Int.toNat 8) (IntKind.bits .i64)))) (c.toNat : Int) = ((256 * n + c.toNat : Nat) : Int) := by
  have h1 : (n : Int) * 2 ^ (min (Int.toNat 8) (IntKind.bits .i64)) = (n : Int) * 256 := by rw [show (2 : Int) ^ (min (Int.toNat 8) (IntKind.bits .i64)) = 256 from rfl]
  rw [h1, wrap64 _ (by omega)]
  exact or_byte n c.toNat (c.toNat_lt) hn

theorem be_take_succ (l : List UInt8) (k : Nat) (h : k < l.length) : be (l.take (k + 1)) = 256 * be (l.take k) + (l[k]'h).toNat := by
  rw [List.take_succ_eq_append_getElem h, be_snoc]
theorem badNum_at (t : List UInt8) (k : Nat) (hk : k < t.length) (h0 : (k : Int) = 0) (sz : Nat) : badNum sz t = ((t[k]'hk).toNat == 0 || sz == 8 && decide (127 < (t[k]'hk).toNat)) := by
  have : k = 0 := by omega
  subst this
  cases t with
  | nil => simp at hk
  | cons c l => rfl
theorem be_round {sz : Nat} {t : List UInt8} (hlen : t.length ≤ sz) (h8 : sz ≤ 8) (hb : badNum sz t = false) (k : Nat) (hk : k < t.length) : bitsI .or .i64 (IntKind.wrap .i64 ((be (t.take k) : Nat) * 2 ^ (min (Int.toNat 8) (IntKind.bits .i64)))) ((t[k]'hk).toNat : Int) = ((be (t.take (k + 1)) : Nat) : Int) := by
  have h1 := be_fits hlen h8 hb
  have h2 := be_take_le t (k + 1)
  rw [be_take_succ t k hk] at h2 ⊢
  exact or_low _ _ (by omega)
theorem rnumber_spec (b : Nat) (r : RS) (hok : r.ok) : Spec Tryz.prog 113 [.ptr 0 b [] 0] [.var b (rdA r)] (fun v os => v = .i .i64 (r.number.1 : Nat) ∧ os = [.var b (rdA r.number.2)]) := by
  refine spec_of TtOk [(0, .var b (rdA r))] Tryz.func113 rfl Tryz.ntmps113 (by kernel_rfl) rfl rfl (fun C => ?_) rfl
  repeat' (first | refine Awp.seq ?_ | refine Awp.region ?_ | (refine Ops.nil ?_; show Awp _ _ _ _ _) | (refine o_calm rfl TtOk rfl rfl rfl ?_ (fun _ => ?_); exact nd))
  refine o_call [] [0] [0] rfl (rtake_spec b 1 r hok) ⟨sle_ptr, sle_i rfl, True.intro⟩ rfl ⟨HOLe.refl _, True.intro⟩ rfl rfl ?_
  rintro v os' ⟨rfl, rfl⟩; refine ⟨_, rfl, rfl, ?_⟩
  repeat' (first | refine Awp.seq ?_ | refine Awp.region ?_ | (refine Ops.nil ?_; show Awp _ _ _ _ _) | (refine Awp.skip ?_; show Awp _ _ _ _ _) | (refine Awp.ret ?_; show endK _ _ _ _ _) | (refine o_calm rfl TtOk rfl rfl rfl ?_ (fun _ => ?_); exact nd) | (refine Awp.cond rfl (fun hc => ?_) (fun hc => ?_)))
  · have h0 : (r.take 1).1 = [] := by simpa using hc
    refine end_tmp rfl rfl rfl [] [(0, _)] (CLe.of_eq ?_) (HLe.same rfl (HOLe.refl _) .nil) ⟨rfl, ?_⟩ _ (.inl rfl)
    · unfold RS.number; rw [if_pos h0]; rfl
    · unfold RS.number; rw [if_pos h0]; rfl
  · have h0 : ¬ (r.take 1).1 = [] := by simpa using hc
    obtain ⟨c0, hc0⟩ : ∃ c0, (r.take 1).1[Int.toNat 0]? = some c0 := by
      cases hq : (r.take 1).1 with
      | nil => exact absurd hq h0
      | cons a l => exact ⟨a, rfl⟩
    have hd : hd0 (r.take 1).1 = c0.toNat := by
      cases hq : (r.take 1).1 with
      | nil => exact absurd hq h0
      | cons a l => rw [hq] at hc0; simp at hc0; rw [← hc0]; rfl
    refine o_indexStr TtOk rfl rfl rfl rfl rfl (by omega) hc0 ?_
    repeat' (first | refine Awp.seq ?_ | refine Awp.region ?_ | (refine Ops.nil ?_; show Awp _ _ _ _ _) | (refine Awp.skip ?_; show Awp _ _ _ _ _) | refine o_convB rfl TtOk rfl rfl rfl rfl ?_ | (refine o_calm rfl TtOk rfl rfl rfl ?_ (fun _ => ?_); exact nd) | (refine a_condP rfl (fun hc => ?_) (fun hc => ?_)) <;> (try (exfalso; omega)))
    · refine o_call [] [0] [0] rfl (rfail_spec b 4 _) ⟨sle_ptr, sle_i rfl, True.intro⟩ rfl ⟨HOLe.refl _, True.intro⟩ rfl rfl ?_
      rintro v os' ⟨rfl, rfl⟩; refine ⟨_, rfl, rfl, ?_⟩
      repeat' (first | refine Awp.seq ?_ | refine Awp.region ?_ | (refine Ops.nil ?_; show Awp _ _ _ _ _) | (refine Awp.ret ?_; show endK _ _ _ _ _) | (refine o_calm rfl TtOk rfl rfl rfl ?_ (fun _ => ?_); exact nd))
      have hn : r.number = (0, (r.take 1).2.fail 4) := by unfold RS.number; rw [if_neg h0, if_pos (by omega)]
      exact end_tmp rfl rfl rfl [] [(0, _)] (CLe.of_eq (by rw [hn]; rfl)) (HLe.same rfl (HOLe.refl _) .nil) ⟨rfl, by rw [hn]; rfl⟩ _ (.inl rfl)
    · have hok1 := RS.ok_take hok 1
      refine o_call [] [0] [0] rfl (rtake_spec b c0.toNat _ hok1) ⟨sle_ptr, sle_i rfl, True.intro⟩ rfl ⟨HOLe.refl _, True.intro⟩ rfl rfl ?_
      rintro v os' ⟨rfl, rfl⟩; refine ⟨_, rfl, rfl, ?_⟩
      have hn0 : r.number = if badNum c0.toNat ((r.take 1).2.take c0.toNat).1 then (0, ((r.take 1).2.take c0.toNat).2.fail 4) else (be ((r.take 1).2.take c0.toNat).1, ((r.take 1).2.take c0.toNat).2) := by
        unfold RS.number; rw [if_neg h0, if_neg (by omega), hd]
      have hlen := take_len (r.take 1).2 c0.toNat
      generalize ((r.take 1).2.take c0.toNat).2 = r2 at hn0 ⊢
      generalize ((r.take 1).2.take c0.toNat).1 = t at hn0 hlen ⊢
      repeat' (first | refine Awp.block ?_ | (refine Ops.nil ?_; show Awp _ _ _ _ _) | refine o_len rfl TtOk rfl rfl rfl (fun _ => ?_) | (refine o_calm rfl TtOk rfl rfl rfl ?_ (fun _ => ?_); exact nd) | refine o_toBytes TtOk rfl rfl rfl rfl rfl rfl ?_)
      refine Awp.loop (fun k : Nat => ⟨52, [(24, .i .i64 k), (23, .i .i64 t.length), (22, .sl 1 (t.map byA)), (5, .i .i64 (be (t.take k) : Nat)), (4, .i .i64 c0.toNat), (0, .ptr 0 b [] 0)], [(0, .var b (rdA r2))]⟩) (fun k => k ≤ t.length ∧ (0 < k → badNum c0.toNat t = false)) (fun k => t.length - k) [] 0 ⟨by omega, fun h => absurd h (by omega)⟩ ?_ ?_
      · refine ⟨rfl, ?_, ?_⟩ <;> repeat' (first | exact True.intro | refine sle_i ?_ | refine sle_sl ?_ | exact sle_ptr | exact HLe.nil | exact HOLe.refl _ | refine HLe.same rfl ?_ ?_ | with_reducible rfl | refine ⟨?_, ?_⟩ | fail)
        all_goals rfl
      rintro k ⟨hk, hbad⟩
      repeat' (first | refine Awp.seq ?_ | refine Awp.block ?_ | refine Awp.region ?_ | (refine Ops.nil ?_; show Awp _ _ _ _ _) | (refine Ops.nil ?_; show Exists _) | (refine Awp.skip ?_; show Awp _ _ _ _ _) | (refine Awp.exit ?_; show Awp _ _ _ _ _) | (refine Awp.ret ?_; show endK _ _ _ _ _) | refine o_offT rfl rfl rfl (by first | exact .inl rfl | exact .inr rfl) ?_ | refine o_offU rfl rfl rfl (by first | exact .inl rfl | exact .inr rfl) ?_ | refine o_offF rfl rfl rfl (by first | exact .inl rfl | exact .inr rfl) ?_ | (refine o_add rfl rfl rfl rfl ?_ ?_; omega) | refine o_convB rfl TtOk rfl rfl rfl rfl ?_ | (refine o_calm rfl TtOk rfl rfl rfl ?_ (fun _ => ?_); exact nd) | (refine o_index rfl TtOk rfl rfl rfl rfl rfl rfl ?_ (getq_nat ?_) ?_; omega; omega) | (fail_if_success (refine o_isLit rfl (by first | exact .inl rfl | exact .inr rfl) ?_)); (refine o_splitP rfl rfl (fun hc => ?_) (fun hc => ?_) <;> try (exfalso; omega)) | refine a_condT rfl ?_ | refine a_condF rfl ?_ | (refine a_condP rfl (fun hc => ?_) (fun hc => ?_)) <;> (try (exfalso; omega)))
      · refine o_call [] [0] [0] rfl (rfail_spec b 4 _) ⟨sle_ptr, sle_i rfl, True.intro⟩ rfl ⟨HOLe.refl _, True.intro⟩ rfl rfl ?_
        rintro v os' ⟨rfl, rfl⟩; refine ⟨_, rfl, rfl, ?_⟩
        repeat' (first | refine Awp.seq ?_ | refine Awp.region ?_ | (refine Ops.nil ?_; show Awp _ _ _ _ _) | (refine Awp.ret ?_; show endK _ _ _ _ _) | (refine o_calm rfl TtOk rfl rfl rfl ?_ (fun _ => ?_); exact nd))
        have hn : r.number = (0, r2.fail 4) := by rw [hn0, if_pos (by rw [badNum_at t k (by omega) (by omega)]; simp; omega)]
        exact end_tmp rfl rfl rfl [] [(0, _)] (CLe.of_eq (by rw [hn]; rfl)) (HLe.same rfl (HOLe.refl _) .nil) ⟨rfl, by rw [hn]; rfl⟩ _ (.inl rfl)
      · refine o_call [] [0] [0] rfl (rfail_spec b 4 _) ⟨sle_ptr, sle_i rfl, True.intro⟩ rfl ⟨HOLe.refl _, True.intro⟩ rfl rfl ?_
        rintro v os' ⟨rfl, rfl⟩; refine ⟨_, rfl, rfl, ?_⟩
        repeat' (first | refine Awp.seq ?_ | refine Awp.region ?_ | (refine Ops.nil ?_; show Awp _ _ _ _ _) | (refine Awp.ret ?_; show endK _ _ _ _ _) | (refine o_calm rfl TtOk rfl rfl rfl ?_ (fun _ => ?_); exact nd))
        have hn : r.number = (0, r2.fail 4) := by rw [hn0, if_pos (by rw [badNum_at t k (by omega) (by omega)]; simp; omega)]
        exact end_tmp rfl rfl rfl [] [(0, _)] (CLe.of_eq (by rw [hn]; rfl)) (HLe.same rfl (HOLe.refl _) .nil) ⟨rfl, by rw [hn]; rfl⟩ _ (.inl rfl)
      · have hb : badNum c0.toNat t = false := by rw [badNum_at t k (by omega) (by omega)]; simp; omega
        refine ⟨k + 1, [], ⟨by omega, fun _ => hb⟩, by omega, ?_⟩
        refine ⟨rfl, ?_, ?_⟩ <;> repeat' (first | exact True.intro | refine sle_i ?_ | refine sle_sl ?_ | exact sle_ptr | exact HLe.nil | exact HOLe.refl _ | refine HLe.same rfl ?_ ?_ | with_reducible rfl | refine ⟨?_, ?_⟩ | fail)
        all_goals first | omega | exact be_round hlen (by omega) hb k (by omega)
      · have hb : badNum c0.toNat t = false := by rw [badNum_at t k (by omega) (by omega)]; simp; omega
        refine ⟨k + 1, [], ⟨by omega, fun _ => hb⟩, by omega, ?_⟩
        refine ⟨rfl, ?_, ?_⟩ <;> repeat' (first | exact True.intro | refine sle_i ?_ | refine sle_sl ?_ | exact sle_ptr | exact HLe.nil | exact HOLe.refl _ | refine HLe.same rfl ?_ ?_ | with_reducible rfl | refine ⟨?_, ?_⟩ | fail)
        all_goals first | omega | exact be_round hlen (by omega) hb k (by omega)
      · have hb : badNum c0.toNat t = false := hbad (by omega)
        refine ⟨k + 1, [], ⟨by omega, fun _ => hb⟩, by omega, ?_⟩
        refine ⟨rfl, ?_, ?_⟩ <;> repeat' (first | exact True.intro | refine sle_i ?_ | refine sle_sl ?_ | exact sle_ptr | exact HLe.nil | exact HOLe.refl _ | refine HLe.same rfl ?_ ?_ | with_reducible rfl | refine ⟨?_, ?_⟩ | fail)
        all_goals first | omega | exact be_round hlen (by omega) hb k (by omega)
      · have hk' : k = t.length := by omega
        have hb : badNum c0.toNat t = false := by
          by_cases hz : t.length = 0
          · cases t with
            | nil => rfl
            | cons c l => simp at hz
          · exact hbad (by omega)
        have hn : r.number = (be t, r2) := by rw [hn0, if_neg (by rw [hb]; decide)]
        exact end_tmp rfl rfl rfl [] [(0, _)] (CLe.of_eq (by rw [hn, hk', List.take_length]; rfl)) (HLe.same rfl (HOLe.refl _) .nil) ⟨rfl, by rw [hn]; rfl⟩ _ (.inl rfl)
end Go.Proofs.YtcmgpkibjdbonaaGreat
set_option maxHeartbeats 4000000
namespace Go.Proofs.YtcmgpkibjdbonaaGreat
open Go Go.RowKit

def RS.big (r : RS) (n : Nat) : RS := if r.e = 0 ∧ 65536 < n then r.fail 2 else r
def RS.text (r : RS) : List UInt8 × RS := (r.number.2.big r.number.1).take r.number.1
def RS.below (r : RS) (most : Int) : Nat × RS := if most ≤ (r.number.1 : Int) then (0, r.number.2.fail 2) else r.number
def RS.flag (r : RS) : Bool × RS :=
  if Op.bytesLess (r.take 1).1 [1] || (r.take 1).1 == [1] then ((r.take 1).1 == [1], (r.take 1).2) else (false, (r.take 1).2.fail 4)
def RS.done (r : RS) : Int := if r.e = 0 ∧ r.p < r.s.length then 3 else r.e
def RS.open (s : List UInt8) : RS := ⟨s, 0, if 65536 < s.length then 2 else 0⟩
theorem RS.ok_open {s : List UInt8} (h : s.length ≤ 9223372036854775807) : (RS.open s).ok := ⟨Nat.zero_le _, h⟩
theorem RS.ok_below {r : RS} (h : r.ok) (m : Int) : (r.below m).2.ok := by
  unfold RS.below; split
  · exact RS.ok_fail (RS.ok_number h) _
  · exact RS.ok_number h
theorem rbelow_spec (b : Nat) (most : Int) (r : RS) (hok : r.ok) : Spec Tryz.prog 112 [.ptr 0 b [] 0, .i .i64 most] [.var b (rdA r)] (fun v os => v = .i .i64 ((r.below most).1 : Nat) ∧ os = [.var b (rdA (r.below most).2)]) := by
  refine spec_of TtOk [(0, .var b (rdA r))] Tryz.func112 rfl Tryz.ntmps112 (by kernel_rfl) rfl rfl (fun C => ?_) rfl
  repeat' (first | refine Awp.seq ?_ | refine Awp.region ?_ | (refine Ops.nil ?_; show Awp _ _ _ _ _) | (refine o_calm rfl TtOk rfl rfl rfl ?_ (fun _ => ?_); exact nd))
  refine o_call [] [0] [0] rfl (rnumber_spec b r hok) ⟨sle_ptr, True.intro⟩ rfl ⟨HOLe.refl _, True.intro⟩ rfl rfl ?_
  rintro v os' ⟨rfl, rfl⟩; refine ⟨_, rfl, rfl, ?_⟩
  repeat' (first | refine Awp.seq ?_ | refine Awp.region ?_ | (refine Ops.nil ?_; show Awp _ _ _ _ _) | (refine Awp.skip ?_; show Awp _ _ _ _ _) | (refine Awp.ret ?_; show endK _ _ _ _ _) | (refine o_calm rfl TtOk rfl rfl rfl ?_ (fun _ => ?_); exact nd) | (refine a_condP rfl (fun hc => ?_) (fun hc => ?_)) <;> (try (exfalso; omega)))
  · refine o_call [] [0] [0] rfl (rfail_spec b 2 _) ⟨sle_ptr, sle_i rfl, True.intro⟩ rfl ⟨HOLe.refl _, True.intro⟩ rfl rfl ?_
    rintro v os' ⟨rfl, rfl⟩; refine ⟨_, rfl, rfl, ?_⟩
    repeat' (first | refine Awp.seq ?_ | refine Awp.region ?_ | (refine Ops.nil ?_; show Awp _ _ _ _ _) | (refine Awp.ret ?_; show endK _ _ _ _ _) | (refine o_calm rfl TtOk rfl rfl rfl ?_ (fun _ => ?_); exact nd))
    have hn : r.below most = (0, r.number.2.fail 2) := by unfold RS.below; rw [if_pos hc]
    exact end_tmp rfl rfl rfl [] [(0, _)] (CLe.of_eq (by rw [hn]; rfl)) (HLe.same rfl (HOLe.refl _) .nil) ⟨rfl, by rw [hn]; rfl⟩ _ (.inl rfl)
  · have hn : r.below most = r.number := by unfold RS.below; rw [if_neg hc]
    exact end_tmp rfl rfl rfl [] [(0, _)] (CLe.of_eq (by rw [hn]; rfl)) (HLe.same rfl (HOLe.refl _) .nil) ⟨rfl, by rw [hn]; rfl⟩ _ (.inl rfl)
theorem rdone_spec (b : Nat) (r : RS) : Spec Tryz.prog 115 [.ptr 0 b [] 0] [.var b (rdA r)] (fun v os => v = .i .i64 r.done ∧ os = [.var b (rdA r)]) := by
  refine spec_of TtOk [(0, .var b (rdA r))] Tryz.func115 rfl Tryz.ntmps115 (by kernel_rfl) rfl rfl (fun C => ?_) rfl
  repeat' (first | refine Awp.seq ?_ | refine Awp.region ?_ | (refine Ops.nil ?_; show Awp _ _ _ _ _) | (refine Awp.skip ?_; show Awp _ _ _ _ _) | (refine Awp.ret ?_; show endK _ _ _ _ _) | refine o_offT rfl rfl rfl (by first | exact .inl rfl | exact .inr rfl) ?_ | (refine o_calm rfl TtOk rfl rfl rfl ?_ (fun _ => ?_); exact nd) | (fail_if_success (refine o_isLit rfl (by first | exact .inl rfl | exact .inr rfl) ?_)); (refine o_splitP rfl rfl (fun hc => ?_) (fun hc => ?_) <;> try (exfalso; omega)) | refine a_condF rfl ?_ | (refine a_condP rfl (fun hc => ?_) (fun hc => ?_)) <;> (try (exfalso; omega)) | refine a_any 1 [] [] [] [0, 1, 2, 3, 4, 5, 6, 7, 8, 10, 11, 12, 9, 13, 14, 15, 16] (by kernel_rfl) (by kernel_rfl) (by kernel_rfl) rfl rfl rfl ?_)
  · have hn : r.done = 3 := by unfold RS.done; rw [if_pos (by omega)]
    exact end_tmp rfl rfl rfl [] [(0, _)] (CLe.of_eq (by rw [hn]; rfl)) (HLe.same rfl (HOLe.refl _) .nil) ⟨rfl, rfl⟩ _ (.inl rfl)
  all_goals
    have hn : r.done = r.e := by unfold RS.done; rw [if_neg (by omega)]
    exact end_tmp rfl rfl rfl [] [(0, _)] (CLe.of_eq (by rw [hn]; rfl)) (HLe.same rfl (HOLe.refl _) .nil) ⟨rfl, rfl⟩ _ (.inl rfl)
theorem ropen_spec (s : List UInt8) : Spec Tryz.prog 111 [.s s] [] (fun v os => ∃ b, v = .ptr 0 b [] 0 ∧ os = [.var b (rdA (RS.open s))]) := by
  refine spec_of TtOk [] Tryz.func111 rfl Tryz.ntmps111 (by kernel_rfl) rfl rfl (fun C => ?_) rfl
  repeat' (first | refine Awp.seq ?_ | refine Awp.region ?_ | (refine Ops.nil ?_; show Awp _ _ _ _ _) | (refine Awp.skip ?_; show Awp _ _ _ _ _) | (refine Awp.ret ?_; show endK _ _ _ _ _) | (refine o_calm rfl TtOk rfl rfl rfl ?_ (fun _ => ?_); exact nd) | refine o_box rfl rfl rfl rfl (fun _ => ?_) | refine o_store TtOk rfl rfl rfl rfl rfl rfl rfl ⟨rfl, rfl⟩ rfl rfl rfl rfl rfl ?_ | refine o_build TtOk rfl rfl rfl rfl rfl rfl (by repeat' (first | exact True.intro | exact rfl | refine ⟨?_, ?_⟩)) ?_ | (refine a_condP rfl (fun hc => ?_) (fun hc => ?_)) <;> (try (exfalso; omega)))
  · have hn : RS.open s = ⟨s, 0, 2⟩ := by unfold RS.open; rw [if_pos (by omega)]
    exact end_tmp rfl rfl rfl [] [(6, _)] (r := .ptr 0 _ [] 0) CLe.ptr (HLe.same rfl (HOLe.refl _) .nil) ⟨_, rfl, by rw [hn]; rfl⟩ _ (.inl rfl)
  · have hn : RS.open s = ⟨s, 0, 0⟩ := by unfold RS.open; rw [if_neg (by omega)]
    exact end_tmp rfl rfl rfl [] [(6, _)] (r := .ptr 0 _ [] 0) CLe.ptr (HLe.same rfl (HOLe.refl _) .nil) ⟨_, rfl, by rw [hn]; rfl⟩ _ (.inl rfl)
end Go.Proofs.YtcmgpkibjdbonaaGreat
set_option maxHeartbeats 4000000
namespace Go.Proofs.YtcmgpkibjdbonaaGreat
open Go Go.RowKit

theorem cfail_spec (x : Int) (r : RS) : Spec Tryz.prog 122 [rdA r, .i .i64 x] [] (fun v os => v = rdA (r.fail x) ∧ os = []) := by
  refine spec_of TtOk [] Tryz.func122 rfl Tryz.ntmps122 (by kernel_rfl) rfl rfl (fun C => ?_) rfl
  repeat' (first | refine Awp.seq ?_ | refine Awp.region ?_ | (refine Ops.nil ?_; show Awp _ _ _ _ _) | (refine Ops.nil ?_; show Exists _) | (refine Ops.nil ?_; show endK _ _ _ _ _) | (refine Awp.skip ?_; show Awp _ _ _ _ _) | (refine Awp.skip ?_; show endK _ _ _ _ _) | (refine Awp.skip ?_; show Exists _) | (refine Awp.ret ?_; show endK _ _ _ _ _) | (refine o_calm rfl TtOk rfl rfl rfl ?_ (fun _ => ?_); exact nd) | refine o_alloc rfl TtOk rfl rfl rfl (fun bA => ?_) | refine o_box rfl rfl rfl rfl (fun _ => ?_) | refine o_store TtOk rfl rfl rfl rfl rfl rfl rfl ⟨rfl, rfl⟩ rfl rfl rfl rfl rfl ?_ | refine o_eqNil TtOk rfl rfl rfl rfl rfl ?_ | refine o_eqArr8 TtOk rfl rfl rfl rfl rfl rfl (by kernel_rfl) ?_ | refine a_condT rfl ?_ | refine a_condF rfl ?_ | (refine a_condP rfl (fun hc => ?_) (fun hc => ?_)) <;> (try (exfalso; omega)) | (refine a_condI rfl (fun hc => ?_) (fun hc => ?_)) <;> (try (exfalso; omega)) | (refine a_condN rfl (fun hc => ?_) (fun hc => ?_)) <;> (try (exfalso; omega)) | (refine Awp.cond rfl (fun hc => ?_) (fun hc => ?_)))
  · have hn : r.fail x = ⟨r.s, r.p, x⟩ := by unfold RS.fail; rw [if_pos hc]
    refine end_all [] [] (rdA (r.fail x)) rfl ?_ ?_ (rle_one (CLe.of_eq (by rw [hn]; rfl)) rfl) .nil ⟨rfl, rfl⟩ _ (.inl rfl)
    · repeat' (first | exact True.intro | exact rfl | refine ⟨?_, ?_⟩)
    · exact ⟨trivial, trivial⟩
  · have hn : r.fail x = r := by unfold RS.fail; rw [if_neg hc]
    refine end_all [] [] (rdA (r.fail x)) rfl ?_ ?_ (rle_one (CLe.of_eq (by rw [hn]; rfl)) rfl) .nil ⟨rfl, rfl⟩ _ (.inl rfl)
    · repeat' (first | exact True.intro | exact rfl | refine ⟨?_, ?_⟩)
    · exact ⟨trivial, trivial⟩
theorem copen_spec (s : List UInt8) : Spec Tryz.prog 119 [.s s] [] (fun v os => v = rdA (RS.open s) ∧ os = []) := by
  refine spec_of TtOk [] Tryz.func119 rfl Tryz.ntmps119 (by kernel_rfl) rfl rfl (fun C => ?_) rfl
  repeat' (first | refine Awp.seq ?_ | refine Awp.region ?_ | (refine Ops.nil ?_; show Awp _ _ _ _ _) | (refine Ops.nil ?_; show Exists _) | (refine Ops.nil ?_; show endK _ _ _ _ _) | (refine Awp.skip ?_; show Awp _ _ _ _ _) | (refine Awp.skip ?_; show endK _ _ _ _ _) | (refine Awp.skip ?_; show Exists _) | (refine Awp.ret ?_; show endK _ _ _ _ _) | refine o_len rfl TtOk rfl rfl rfl (fun _ => ?_) | refine o_lenOwn rfl TtOk rfl rfl rfl rfl (fun _ => ?_) | (refine o_calm rfl TtOk rfl rfl rfl ?_ (fun _ => ?_); exact nd) | refine o_alloc rfl TtOk rfl rfl rfl (fun bA => ?_) | refine o_store TtOk rfl rfl rfl rfl rfl rfl rfl ⟨rfl, rfl⟩ rfl rfl rfl rfl rfl ?_ | refine o_build TtOk rfl rfl rfl rfl rfl rfl (by repeat' (first | exact True.intro | exact rfl | refine ⟨?_, ?_⟩)) ?_ | refine o_buildArr0 TtOk rfl rfl rfl rfl ?_ | refine a_condT rfl ?_ | refine a_condF rfl ?_ | (refine a_condP rfl (fun hc => ?_) (fun hc => ?_)) <;> (try (exfalso; omega)) | (refine a_condI rfl (fun hc => ?_) (fun hc => ?_)) <;> (try (exfalso; omega)) | (refine a_condN rfl (fun hc => ?_) (fun hc => ?_)) <;> (try (exfalso; omega)) | (refine Awp.cond rfl (fun hc => ?_) (fun hc => ?_)))
  · have hn : RS.open s = ⟨s, 0, 2⟩ := by unfold RS.open; rw [if_pos (by omega)]
    refine end_all [] [] (rdA (RS.open s)) rfl ?_ ?_ (rle_one (CLe.of_eq (by rw [hn]; rfl)) rfl) .nil ⟨rfl, rfl⟩ _ (.inl rfl)
    · repeat' (first | exact True.intro | exact rfl | refine ⟨?_, ?_⟩)
    · exact ⟨trivial, trivial⟩
  · have hn : RS.open s = ⟨s, 0, 0⟩ := by unfold RS.open; rw [if_neg (by omega)]
    refine end_all [] [] (rdA (RS.open s)) rfl ?_ ?_ (rle_one (CLe.of_eq (by rw [hn]; rfl)) rfl) .nil ⟨rfl, rfl⟩ _ (.inl rfl)
    · repeat' (first | exact True.intro | exact rfl | refine ⟨?_, ?_⟩)
    · exact ⟨trivial, trivial⟩
theorem ctake_spec (n : Nat) (r : RS) (hok : r.ok) : Spec Tryz.prog 194 [rdA r, .i .i64 n] [] (fun v os => v = .tup [rdA (r.take n).2, .s (r.take n).1] ∧ os = []) := by
  obtain ⟨h1, h2⟩ := hok
  refine spec_of TtOk [] Tryz.func194 rfl Tryz.ntmps194 (by kernel_rfl) rfl rfl (fun C => ?_) rfl
  repeat' (first | refine Awp.seq ?_ | refine Awp.region ?_ | (refine Ops.nil ?_; show Awp _ _ _ _ _) | (refine Ops.nil ?_; show Exists _) | (refine Ops.nil ?_; show endK _ _ _ _ _) | (refine Awp.skip ?_; show Awp _ _ _ _ _) | (refine Awp.skip ?_; show endK _ _ _ _ _) | (refine Awp.skip ?_; show Exists _) | (refine Awp.ret ?_; show endK _ _ _ _ _) | refine o_offT rfl rfl rfl (by first | exact .inl rfl | exact .inr rfl) ?_ | refine o_offU rfl rfl rfl (by first | exact .inl rfl | exact .inr rfl) ?_ | refine o_offF rfl rfl rfl (by first | exact .inl rfl | exact .inr rfl) ?_ | (refine o_add rfl rfl rfl rfl ?_ ?_; omega) | (refine o_sub rfl rfl rfl rfl ?_ ?_; omega) | refine o_len rfl TtOk rfl rfl rfl (fun _ => ?_) | refine o_lenOwn rfl TtOk rfl rfl rfl rfl (fun _ => ?_) | (refine o_calm rfl TtOk rfl rfl rfl ?_ (fun _ => ?_); exact nd) | refine o_alloc rfl TtOk rfl rfl rfl (fun bA => ?_) | refine o_box rfl rfl rfl rfl (fun _ => ?_) | refine o_store TtOk rfl rfl rfl rfl rfl rfl rfl ⟨rfl, rfl⟩ rfl rfl rfl rfl rfl ?_ | (refine o_calm rfl TtOk rfl rfl rfl ?_ (fun _ => ?_); (show List.length _ + List.length _ ≤ 9223372036854775807; (repeat' (first | rw [List.length_append] | rw [List.length_map] | rw [List.length_cons] | rw [List.length_nil] | rw [List.length_take] | rw [List.length_drop])) <;> omega)) | refine o_sliceCp TtOk rfl rfl rfl rfl rfl rfl ?_ | refine o_eqNil TtOk rfl rfl rfl rfl rfl ?_ | refine o_eqArr8 TtOk rfl rfl rfl rfl rfl rfl (by kernel_rfl) ?_ | (fail_if_success (refine o_isLit rfl (by first | exact .inl rfl | exact .inr rfl) ?_)); (refine o_splitP rfl rfl (fun hc => ?_) (fun hc => ?_) <;> try (exfalso; omega)) | (fail_if_success (refine o_isLit rfl (by first | exact .inl rfl | exact .inr rfl) ?_)); (refine o_splitI rfl rfl (fun hc => ?_) (fun hc => ?_) <;> try (exfalso; omega)) | (fail_if_success (refine o_isLit rfl (by first | exact .inl rfl | exact .inr rfl) ?_)); (refine o_splitN rfl rfl (fun hc => ?_) (fun hc => ?_) <;> try (exfalso; omega)) | (fail_if_success (refine o_isLit rfl (by first | exact .inl rfl | exact .inr rfl) ?_)); (refine o_split rfl rfl (fun hc => ?_) (fun hc => ?_)) | refine a_condT rfl ?_ | refine a_condF rfl ?_ | (refine a_condP rfl (fun hc => ?_) (fun hc => ?_)) <;> (try (exfalso; omega)) | (refine a_condI rfl (fun hc => ?_) (fun hc => ?_)) <;> (try (exfalso; omega)) | (refine a_condN rfl (fun hc => ?_) (fun hc => ?_)) <;> (try (exfalso; omega)) | (refine Awp.cond rfl (fun hc => ?_) (fun hc => ?_)))
  · have hn : r.take n = ([], ⟨r.s, r.p, 5⟩) := by unfold RS.take; rw [if_neg (by omega), if_pos (by omega)]
    refine end_all [] [] (.tup [rdA (r.take n).2, .s (r.take n).1]) rfl ?_ ?_ (rle_tup2 (CLe.of_eq (by rw [hn]; rfl)) (CLe.of_eq (by rw [hn]; rfl)) rfl rfl) .nil ⟨rfl, rfl⟩ _ (.inl rfl)
    · repeat' (first | exact True.intro | exact rfl | refine ⟨?_, ?_⟩)
    · exact ⟨trivial, trivial, trivial⟩
  · refine o_sliceStr TtOk rfl r.p (r.p + n) rfl rfl rfl (bnd_some rfl (by omega)) (bnd_some rfl (by omega)) (by omega) (by omega) ?_
    repeat' (first | refine Awp.seq ?_ | refine Awp.region ?_ | (refine Ops.nil ?_; show Awp _ _ _ _ _) | (refine Ops.nil ?_; show Exists _) | (refine Ops.nil ?_; show endK _ _ _ _ _) | (refine Awp.skip ?_; show Awp _ _ _ _ _) | (refine Awp.skip ?_; show endK _ _ _ _ _) | (refine Awp.skip ?_; show Exists _) | (refine Awp.ret ?_; show endK _ _ _ _ _) | refine o_offT rfl rfl rfl (by first | exact .inl rfl | exact .inr rfl) ?_ | refine o_offU rfl rfl rfl (by first | exact .inl rfl | exact .inr rfl) ?_ | refine o_offF rfl rfl rfl (by first | exact .inl rfl | exact .inr rfl) ?_ | (refine o_add rfl rfl rfl rfl ?_ ?_; omega) | (refine o_sub rfl rfl rfl rfl ?_ ?_; omega) | refine o_len rfl TtOk rfl rfl rfl (fun _ => ?_) | refine o_lenOwn rfl TtOk rfl rfl rfl rfl (fun _ => ?_) | (refine o_calm rfl TtOk rfl rfl rfl ?_ (fun _ => ?_); exact nd) | refine o_alloc rfl TtOk rfl rfl rfl (fun bA => ?_) | refine o_box rfl rfl rfl rfl (fun _ => ?_) | refine o_store TtOk rfl rfl rfl rfl rfl rfl rfl ⟨rfl, rfl⟩ rfl rfl rfl rfl rfl ?_ | (refine o_calm rfl TtOk rfl rfl rfl ?_ (fun _ => ?_); (show List.length _ + List.length _ ≤ 9223372036854775807; (repeat' (first | rw [List.length_append] | rw [List.length_map] | rw [List.length_cons] | rw [List.length_nil] | rw [List.length_take] | rw [List.length_drop])) <;> omega)) | refine o_sliceCp TtOk rfl rfl rfl rfl rfl rfl ?_ | refine o_eqNil TtOk rfl rfl rfl rfl rfl ?_ | refine o_eqArr8 TtOk rfl rfl rfl rfl rfl rfl (by kernel_rfl) ?_ | (fail_if_success (refine o_isLit rfl (by first | exact .inl rfl | exact .inr rfl) ?_)); (refine o_splitP rfl rfl (fun hc => ?_) (fun hc => ?_) <;> try (exfalso; omega)) | (fail_if_success (refine o_isLit rfl (by first | exact .inl rfl | exact .inr rfl) ?_)); (refine o_splitI rfl rfl (fun hc => ?_) (fun hc => ?_) <;> try (exfalso; omega)) | (fail_if_success (refine o_isLit rfl (by first | exact .inl rfl | exact .inr rfl) ?_)); (refine o_splitN rfl rfl (fun hc => ?_) (fun hc => ?_) <;> try (exfalso; omega)) | (fail_if_success (refine o_isLit rfl (by first | exact .inl rfl | exact .inr rfl) ?_)); (refine o_split rfl rfl (fun hc => ?_) (fun hc => ?_)) | refine a_condT rfl ?_ | refine a_condF rfl ?_ | (refine a_condP rfl (fun hc => ?_) (fun hc => ?_)) <;> (try (exfalso; omega)) | (refine a_condI rfl (fun hc => ?_) (fun hc => ?_)) <;> (try (exfalso; omega)) | (refine a_condN rfl (fun hc => ?_) (fun hc => ?_)) <;> (try (exfalso; omega)) | (refine Awp.cond rfl (fun hc => ?_) (fun hc => ?_)))
    have hn : r.take n = ((r.s.drop r.p).take n, ⟨r.s, r.p + n, 0⟩) := by unfold RS.take; rw [if_neg (by omega), if_neg (by omega)]
    refine end_all [] [] (.tup [rdA (r.take n).2, .s (r.take n).1]) rfl ?_ ?_ (rle_tup2 (CLe.of_eq ?_) (CLe.of_eq ?_) rfl rfl) .nil ⟨rfl, rfl⟩ _ (.inl rfl)
    · repeat' (first | exact True.intro | exact rfl | refine ⟨?_, ?_⟩)
    · exact ⟨trivial, trivial, trivial⟩
    · rw [hn]; show AV.agg [.s r.s, .i .i64 (r.p + n), .i .i64 r.e] = AV.agg [.s r.s, .i .i64 ((r.p + n : Nat) : Int), .i .i64 0]; rw [Int.natCast_add, hc]
    · rw [hn]; show AV.s ((r.s.take (r.p+n)).drop r.p) = AV.s ((r.s.drop r.p).take n); rw [List.drop_take, Nat.add_sub_cancel_left]
  · have hn : r.take n = ([], r) := by unfold RS.take; rw [if_pos hc]
    refine end_all [] [] (.tup [rdA (r.take n).2, .s (r.take n).1]) rfl ?_ ?_ (rle_tup2 (CLe.of_eq (by rw [hn]; rfl)) (CLe.of_eq (by rw [hn]; rfl)) rfl rfl) .nil ⟨rfl, rfl⟩ _ (.inl rfl)
    · repeat' (first | exact True.intro | exact rfl | refine ⟨?_, ?_⟩)
    · exact ⟨trivial, trivial, trivial⟩
end Go.Proofs.YtcmgpkibjdbonaaGreat
set_option maxHeartbeats 8000000
namespace Go.Proofs.YtcmgpkibjdbonaaGreat
open Go Go.RowKit

theorem take_nil {r : RS} (hok : r.ok) {n : Nat} (hn : 0 < n) : (r.take n).1 = [] ↔ (r.take n).2.e ≠ 0 := by
  obtain ⟨h1, h2⟩ := hok
  unfold RS.take
  split
  · rename_i h; exact ⟨fun _ => h, fun _ => rfl⟩
  · split
    · exact ⟨fun _ => by show (5 : Int) ≠ 0; decide, fun _ => rfl⟩
    · refine ⟨fun h => ?_, fun h => absurd rfl h⟩
      have : ((r.s.drop r.p).take n).length = 0 := by rw [show (r.s.drop r.p).take n = [] from h]; rfl
      rw [List.length_take, List.length_drop] at this
      omega
theorem cdone_spec (r : RS) (hok : r.ok) : Spec Tryz.prog 124 [rdA r] [] (fun v os => v = .i .i64 r.done ∧ os = []) := by
  obtain ⟨h1, h2⟩ := hok
  refine spec_of TtOk [] Tryz.func124 rfl Tryz.ntmps124 (by kernel_rfl) rfl rfl (fun C => ?_) rfl
  repeat' (first | refine Awp.seq ?_ | refine Awp.region ?_ | (refine Ops.nil ?_; show Awp _ _ _ _ _) | (refine Ops.nil ?_; show Exists _) | (refine Ops.nil ?_; show endK _ _ _ _ _) | (refine Awp.skip ?_; show Awp _ _ _ _ _) | (refine Awp.skip ?_; show endK _ _ _ _ _) | (refine Awp.skip ?_; show Exists _) | (refine Awp.ret ?_; show endK _ _ _ _ _) | refine o_offT rfl rfl rfl (by first | exact .inl rfl | exact .inr rfl) ?_ | refine o_offU rfl rfl rfl (by first | exact .inl rfl | exact .inr rfl) ?_ | refine o_offF rfl rfl rfl (by first | exact .inl rfl | exact .inr rfl) ?_ | refine o_len rfl TtOk rfl rfl rfl (fun _ => ?_) | refine o_lenOwn rfl TtOk rfl rfl rfl rfl (fun _ => ?_) | (refine o_calm rfl TtOk rfl rfl rfl ?_ (fun _ => ?_); exact nd) | refine o_box rfl rfl rfl rfl (fun _ => ?_) | refine o_eqNil TtOk rfl rfl rfl rfl rfl ?_ | refine o_eqArr8 TtOk rfl rfl rfl rfl rfl rfl (by kernel_rfl) ?_ | (fail_if_success (refine o_isLit rfl (by first | exact .inl rfl | exact .inr rfl) ?_)); (refine o_splitP rfl rfl (fun hc => ?_) (fun hc => ?_) <;> try (exfalso; omega)) | (fail_if_success (refine o_isLit rfl (by first | exact .inl rfl | exact .inr rfl) ?_)); (refine o_splitI rfl rfl (fun hc => ?_) (fun hc => ?_) <;> try (exfalso; omega)) | (fail_if_success (refine o_isLit rfl (by first | exact .inl rfl | exact .inr rfl) ?_)); (refine o_splitN rfl rfl (fun hc => ?_) (fun hc => ?_) <;> try (exfalso; omega)) | (fail_if_success (refine o_isLit rfl (by first | exact .inl rfl | exact .inr rfl) ?_)); (refine o_split rfl rfl (fun hc => ?_) (fun hc => ?_)) | refine a_condT rfl ?_ | refine a_condF rfl ?_ | (refine a_condP rfl (fun hc => ?_) (fun hc => ?_)) <;> (try (exfalso; omega)) | (refine a_condI rfl (fun hc => ?_) (fun hc => ?_)) <;> (try (exfalso; omega)) | (refine a_condN rfl (fun hc => ?_) (fun hc => ?_)) <;> (try (exfalso; omega)) | (refine Awp.cond rfl (fun hc => ?_) (fun hc => ?_)))
  · have hn : r.done = 3 := by unfold RS.done; rw [if_pos (by omega)]
    exact end_tmp rfl rfl rfl [] [] (CLe.of_eq (by rw [hn]; rfl)) .nil ⟨rfl, rfl⟩ _ (.inl rfl)
  all_goals
    have hn : r.done = r.e := by unfold RS.done; rw [if_neg (by omega)]
    exact end_tmp rfl rfl rfl [] [] (CLe.of_eq (by rw [hn]; rfl)) .nil ⟨rfl, rfl⟩ _ (.inl rfl)
end Go.Proofs.YtcmgpkibjdbonaaGreat
