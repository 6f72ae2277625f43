/- code.Reader.Number, Text, Below, Flag, Left, Done and code.Open walked. -/
import Derived.Test.YtcnkmfmdadmaaaaCodeR
import Derived.Test.YtcnkmfmdadmaaaaBytes
namespace Go.Proofs.Ytcnkmfmdadmaaaa
open Go.RowKit

def be (l : List UInt8) : Nat := l.foldl (fun n c => 256 * n + c.toNat) 0
def byte0 (s : ByteArray) : Nat := (s.data.toList.headD 0).toNat
def badNum (sz : Nat) (l : List UInt8) : Bool := match l with
  | [] => false
  | c :: _ => c.toNat == 0 || sz == 8 && decide (127 < c.toNat)
def RS.number (r : RS) : Nat × RS :=
  if (r.take 1).1.size = 0 then (0, (r.take 1).2) else
  if 8 < byte0 (r.take 1).1 then (0, (r.take 1).2.fail 4) else
  if badNum (byte0 (r.take 1).1) ((r.take 1).2.take (byte0 (r.take 1).1)).1.data.toList then (0, ((r.take 1).2.take (byte0 (r.take 1).1)).2.fail 4)
  else (be ((r.take 1).2.take (byte0 (r.take 1).1)).1.data.toList, ((r.take 1).2.take (byte0 (r.take 1).1)).2)
theorem RS.ok_number {r : RS} (h : r.ok) : r.number.2.ok := by
  unfold RS.number
  split
  · exact ok_take h 1
  · split
    · exact ok_fail (ok_take h 1) 4
    · split
      · exact ok_fail (ok_take (ok_take h 1) _) 4
      · exact ok_take (ok_take h 1) _
theorem take_size (r : RS) (n : Nat) : (r.take n).1.size ≤ n := by
  unfold RS.take
  split
  · exact Nat.zero_le _
  · split
    · exact Nat.zero_le _
    · show (r.s.extract r.p (r.p + n)).size ≤ n
      rw [ByteArray.size_extract]; omega
theorem be_snoc (l : List UInt8) (c : UInt8) : be (l ++ [c]) = 256 * be l + c.toNat := by simp [be, List.foldl_append]
theorem be_acc (l : List UInt8) : ∀ a, l.foldl (fun n c => 256 * n + c.toNat) a = a * 256 ^ l.length + be l := by
  induction l with
  | nil => intro a; simp [be]
  | cons c l ih =>
    intro a
    have h0 := ih c.toNat
    simp only [be, List.foldl_cons, Nat.mul_zero, Nat.zero_add] at h0 ⊢
    rw [ih, h0, List.length_cons, Nat.pow_succ, Nat.add_mul]
    simp only [be]
    rw [show 256 * a * 256 ^ l.length = a * (256 ^ l.length * 256) by rw [Nat.mul_comm 256 a, Nat.mul_assoc, Nat.mul_comm 256]]
    omega
theorem be_cons (c : UInt8) (l : List UInt8) : be (c :: l) = c.toNat * 256 ^ l.length + be l := by
  have := be_acc l c.toNat
  simpa [be] using this
theorem be_lt (l : List UInt8) : be l < 256 ^ l.length := by
  induction l with
  | nil => simp [be]
  | cons c l ih =>
    rw [be_cons, List.length_cons, Nat.pow_succ]
    have h1 : c.toNat + 1 ≤ 256 := c.toNat_lt
    have h2 := Nat.mul_le_mul_right (256 ^ l.length) h1
    rw [Nat.add_mul, Nat.one_mul] at h2
    rw [Nat.mul_comm (256 ^ l.length) 256]
    omega
theorem be_take_le (l : List UInt8) (k : Nat) : be (l.take k) ≤ be l := by
  conv => rhs; rw [← List.take_append_drop k l]
  have : be (l.take k ++ l.drop k) = be (l.take k) * 256 ^ (l.drop k).length + be (l.drop k) := by
    unfold be; rw [List.foldl_append]; exact be_acc _ _
  rw [this]
  have := Nat.le_mul_of_pos_right (be (l.take k)) (Nat.pow_pos (n := (l.drop k).length) (by omega : 0 < 256))
  omega
/-- What is read as a number fits. -/
theorem be_fits {sz : Nat} {l : List UInt8} (hl : l.length ≤ sz) (h8 : sz ≤ 8) (hb : badNum sz l = false) : be l < 9223372036854775808 := by
  rcases l with _ | ⟨c, l⟩
  · simp [be]
  · have h1 := be_lt (c :: l)
    by_cases h : (c :: l).length ≤ 7
    · have : 256 ^ (c :: l).length ≤ 256 ^ 7 := Nat.pow_le_pow_right (by omega) h
      omega
    · have hl8 : l.length = 7 := by simp at hl h; omega
      have hsz : sz = 8 := by simp at hl h; omega
      rw [be_cons, hl8]
      have h2 := be_lt l
      rw [hl8] at h2
      simp [badNum, hsz] at hb
      have := hb.2
      omega
theorem badNum_cons (sz : Nat) (c : UInt8) (l : List UInt8) : badNum sz (c :: l) = (c.toNat == 0 || sz == 8 && decide (127 < c.toNat)) := rfl
theorem byte0_eq (s : ByteArray) (h : 0 < s.size) : (s[0]'h).toNat = byte0 s := by
  obtain ⟨⟨l⟩⟩ := s
  cases l with
  | nil => simp [ByteArray.size] at h
  | cons c l => rfl
theorem empty_of_size {s : ByteArray} (h : s.size = 0) : s.toList.isEmpty = true := by
  rw [ByteArray.toList_eq]; rw [size_eq] at h; rw [List.eq_nil_of_length_eq_zero h]; rfl
theorem nonempty_of_size {s : ByteArray} (h : 0 < s.size) : s.toList.isEmpty = false := by
  rw [ByteArray.toList_eq]; rw [size_eq] at h
  cases hl : s.data.toList with
  | nil => rw [hl] at h; simp at h
  | cons c l => rfl
theorem byte0_lt (s : ByteArray) : byte0 s < 256 := UInt8.toNat_lt _

set_option maxRecDepth 100000 in
set_option maxHeartbeats 1000000 in
theorem rnumber_any (b : Nat) (r : RS) (hok : r.ok) (w : World) (hr : IsR w b r) :
    Calls Try.prog 29 #[.pointer (some ⟨b, 0, none⟩)] w fun e w' => e = .returned (.int .i64 (r.number.1 : Nat)) ∧ IsR w' b r.number.2 ∧ Mod (fun k => k = b) w w' := by
  obtain ⟨res, hres⟩ : ∃ res, res = r.number := ⟨_, rfl⟩
  rw [← hres]
  unfold RS.number at hres
  have hok1 := RS.ok_take hok 1
  have hbl := hr.lt
  go_enter Try.func29, Try.ntmps29
  have HR := Lib.hid hres; clear hres
  go_wp2_with fail
  refine (rtake_any b 1 (by omega) r hok w hr).mono ?_
  rintro e w1 ⟨rfl, hr1, hm1⟩
  rw [show Int.toNat 1 = 1 from rfl] at hr1 ⊢
  have hres := HR.out; clear HR
  generalize (r.take 1).2 = r1 at hr1 hok1 hres
  generalize (r.take 1).1 = s1 at hres ⊢
  have hbl1 := hr1.lt
  by_cases hz : s1.size = 0
  · rw [if_pos hz] at hres
    subst hres
    have hz' := empty_of_size hz
    clear hz
    go_wp2
    go_ret
    exact ⟨rfl, hr1, hm1⟩
  · rw [if_neg hz] at hres
    have hp : 0 < s1.size := by omega
    have hne := nonempty_of_size hp
    have hb0 := byte0_eq s1 hp
    have hb1 := byte0_lt s1
    generalize byte0 s1 = sz at hb0 hb1 hres
    have HB0 := Lib.hid (show ((s1[0]'hp).toNat : Int) = (sz : Int) by rw [hb0])
    have hbb : ((s1[0]'hp).toNat : Int) < 256 := by rw [hb0]; omega
    have hbn : (0 : Int) ≤ ((s1[0]'hp).toNat : Int) := by omega
    clear hb0 hz
    by_cases h8 : 8 < sz
    · rw [if_pos h8] at hres
      subst hres
      have h8' : (8 : Int) < ((s1[0]'hp).toNat : Int) := by rw [HB0.out]; omega
      go_wp2_with fail
      refine (rfail_any b 4 r1 w1 hr1).mono ?_
      rintro e w2 ⟨rfl, hr2, hm2⟩
      go_wp2
      go_ret
      exact ⟨rfl, hr2, hm1.trans hm2⟩
    · rw [if_neg h8] at hres
      have h8' : ((s1[0]'hp).toNat : Int) ≤ 8 := by rw [HB0.out]; omega
      have htk := take_size r1 sz
      have HR := Lib.hid hres; clear hres
      go_wp2_with fail
      rw [HB0.out]
      refine (rtake_any b (sz : Int) (by omega) r1 hok1 w1 hr1).mono ?_
      rintro e w2 ⟨rfl, hr2, hm2⟩
      rw [Int.toNat_natCast] at hr2 ⊢
      have hres := HR.out; clear HR
      have hok2 := RS.ok_take hok1 sz
      generalize (r1.take sz).2 = r2 at hr2 hres hok2
      generalize (r1.take sz).1 = t at hres htk ⊢
      have hm12 := hm1.trans hm2
      have hconv := run_bytes t w2
      have hb3 := bytes_below w2 5 t
      have hsl := bytes_sl w2 5 t
      have hr3 := hr2.below hb3
      have hm3 : Mod (fun k => k = b) w (Lib.bytesWorld w2 5 t) := hm12.trans (Mod.of_below hb3)
      rw [size_eq] at htk hconv
      generalize t.data.toList = l at hres htk hsl hconv
      generalize Lib.bytesWorld w2 5 t = w3 at hconv hb3 hsl hr3 hm3
      have hcap : ∃ c, grownCap w2 l.length 0 5 = c := ⟨_, rfl⟩
      obtain ⟨cp, hcp⟩ := hcap
      rw [hcp] at hconv
      clear hcp hr1 hr2 hm1 hm2 hb3
      by_cases hbad : badNum sz l = true
      · rw [if_pos hbad] at hres
        subst hres
        rcases l with _ | ⟨c, l⟩
        · simp [badNum] at hbad
        rw [badNum_cons] at hbad
        have hc := hsl.at_ (k := 0) (by simp)
        obtain ⟨b1, o1, hA, hF, hcell⟩ := hc
        injection hA with hA; injection hA with e1 e2; subst e1; subst e2
        have hc0 := hcell 0 _ rfl
        simp only [List.getElem_cons_zero] at hc0
        have hor : (((c.toNat : Int) == 0) = true) ∨ (((c.toNat : Int) == 0) = false ∧ ((sz : Int) == 8) = true ∧ (127 : Int) < (c.toNat : Int)) := by
          simp at hbad ⊢; omega
        have hpos : (0 : Int) < ((l.length : Nat) : Int) + 1 := by omega
        have hlen : ((l.length : Nat) : Int) + 1 ≤ 256 := by simp at htk; omega
        clear hbad hcell
        rcases hor with hz0 | ⟨hz0, hz1, hz2⟩
        all_goals
          go_wp2_with fail
          refine wp_loop_once ?_
          go_wp2_with fail
          refine (rfail_any b 4 r2 w3 hr3).mono ?_
          rintro e w4 ⟨rfl, hr4, hm4⟩
          go_wp2
          go_ret
          exact ⟨rfl, hr4, hm3.trans hm4⟩
      · rw [if_neg hbad] at hres
        subst hres
        have hbad' : badNum sz l = false := by simpa using hbad
        have hfit := be_fits htk (by omega) hbad'
        have hl8 : l.length ≤ 8 := by omega
        have hfst : ∀ (h : 0 < l.length), (((l[0]'h).toNat : Int) == 0) = false ∧ ((((sz : Int) == 8) = false) ∨ ((sz : Int) == 8) = true ∧ decide ((127 : Int) < ((l[0]'h).toNat : Int)) = false) := by
          intro h
          rcases l with _ | ⟨c, l⟩
          · simp at h
          · rw [badNum_cons] at hbad'
            simp at hbad' ⊢
            omega
        have HFST := Lib.hid hfst
        have HFIT := Lib.hid hfit
        have HTK := Lib.hid htk
        clear hfst hbad hbad' hfit htk
        go_wp2_with fail
        go_loop [5, 24] (fun n i => ∃ k : Nat, k ≤ l.length ∧ i = .int .i64 k ∧ n = .int .i64 (be (l.take k) : Nat)) (fun _ i => l.length - (intOf i).toNat)
        case atStart => exact ⟨0, Nat.zero_le _, rfl, rfl⟩
        case round =>
          obtain ⟨k, hk, rfl, rfl⟩ := hrel
          by_cases hlt : k < l.length
          · obtain ⟨b1, o1, hA, hF, hcell⟩ := hsl.at_ hlt
            injection hA with hA; injection hA with e1 e2; subst e1; subst e2
            have hc0 := hcell 0 _ rfl
            rw [show 0 + k * 1 + 0 = k by omega] at hc0
            clear hcell
            have hsn : be (l.take (k + 1)) = 256 * be (l.take k) + (l[k]).toNat := by rw [List.take_succ_eq_append_getElem hlt, be_snoc]
            have hle : be (l.take (k + 1)) ≤ be l := be_take_le l (k + 1)
            rw [hsn] at hle
            have hxb : 256 * be (l.take k) + (l[k]).toNat < 9223372036854775808 := by have := HFIT.out; omega
            have hcb := (l[k]).toNat_lt
            have HSN := Lib.hid hsn
            clear hsn hle
            generalize be (l.take k) = x at HSN hxb
            have hor : (((k : Int) == 0) = false) ∨ (((k : Int) == 0) = true ∧ (((l[k]).toNat : Int) == 0) = false ∧ ((((sz : Int) == 8) = false) ∨ ((sz : Int) == 8) = true ∧ decide ((127 : Int) < ((l[k]).toNat : Int)) = false)) := by
              rcases k with _ | k
              · exact .inr ⟨rfl, HFST.out hlt⟩
              · exact .inl (by simp; omega)
            generalize l[k] = c at HSN hxb hc0 hcb hor
            have hxi : ((x : Nat) : Int) < 36028797018963968 := by omega
            have hci : ((c.toNat : Nat) : Int) < 256 := by omega
            rcases hor with g0 | ⟨g0, g1, g2 | ⟨g2, g3⟩⟩
            all_goals
              go_wp2
              go_round
              case rel => exact ⟨k + 1, by omega, by go_num, by rw [HSN.out, or_byte x _ hcb hxb]⟩
              case measure => simp [intOf] <;> omega
          · have hx : l.take k = l := List.take_of_length_le (by omega)
            rw [hx]
            go_wp2
            go_ret
            exact ⟨rfl, hr3, hm3⟩
end Go.Proofs.Ytcnkmfmdadmaaaa
