/- code.Reader.Text, Below, Flag, Left, Done and code.Open walked. -/
import Derived.Test.YtcnkmfmdadmaaaaCodeR2
namespace Go.Proofs.Ytcnkmfmdadmaaaa
open Go.RowKit

def RS.big (r : RS) (n : Nat) : RS := if r.e = 0 ∧ 65536 < n then r.fail 2 else r
def RS.text (r : RS) : ByteArray × RS := (r.number.2.big r.number.1).take r.number.1
def RS.below (r : RS) (most : Int) : Nat × RS := if most ≤ (r.number.1 : Int) then (0, r.number.2.fail 2) else r.number
def one1 : ByteArray := ⟨#[1]⟩
def RS.flag (r : RS) : Bool × RS :=
  if Op.bytesLess (r.take 1).1.toList one1.toList || (r.take 1).1.toList == one1.toList then ((r.take 1).1.toList == one1.toList, (r.take 1).2) else (false, (r.take 1).2.fail 4)
def RS.done (r : RS) : Int := if r.e = 0 ∧ r.p < r.s.size then 3 else r.e
def RS.open (s : ByteArray) : RS := ⟨s, 0, if 65536 < s.size then 2 else 0⟩
theorem RS.ok_open {s : ByteArray} (h : s.size ≤ maxLen) : (RS.open s).ok := ⟨Nat.zero_le _, h⟩
theorem RS.ok_big {r : RS} (h : r.ok) (n : Nat) : (r.big n).ok := by unfold RS.big; split <;> first | exact RS.ok_fail h _ | exact h
theorem RS.ok_text {r : RS} (h : r.ok) : r.text.2.ok := RS.ok_take (RS.ok_big (RS.ok_number h) _) _
theorem RS.ok_below {r : RS} (h : r.ok) (m : Int) : (r.below m).2.ok := by
  unfold RS.below; split
  · exact RS.ok_fail (RS.ok_number h) _
  · exact RS.ok_number h
theorem RS.ok_flag {r : RS} (h : r.ok) : r.flag.2.ok := by
  unfold RS.flag; split
  · exact RS.ok_take h 1
  · exact RS.ok_fail (RS.ok_take h 1) _
theorem number_fits {r : RS} : r.number.1 < 9223372036854775808 := by
  unfold RS.number
  split
  · omega
  · split
    · omega
    · split
      · omega
      · rename_i h1 h2 h3
        exact be_fits (by rw [← size_eq]; exact take_size _ _) (by omega) (by simpa using h3)

set_option maxRecDepth 100000 in
theorem rtext_any (b : Nat) (r : RS) (hok : r.ok) (w : World) (hr : IsR w b r) :
    Calls Try.prog 30 #[.pointer (some ⟨b, 0, none⟩)] w fun e w' => e = .returned (.string r.text.1) ∧ IsR w' b r.text.2 ∧ Mod (fun k => k = b) w w' := by
  obtain ⟨res, hres⟩ : ∃ res, res = r.text := ⟨_, rfl⟩
  rw [← hres]
  unfold RS.text at hres
  have hok1 := RS.ok_number hok
  have hfit := number_fits (r := r)
  go_enter Try.func30, Try.ntmps30
  have HR := Lib.hid hres; clear hres
  go_wp2_with fail
  refine (rnumber_any b r hok w hr).mono ?_
  rintro e w1 ⟨rfl, hr1, hm1⟩
  have hres := HR.out; clear HR
  generalize r.number.2 = r1 at hr1 hok1 hres
  generalize r.number.1 = n at hres hfit ⊢
  obtain ⟨h0, h1, h2⟩ := hr1.cells
  by_cases hb : r1.e = 0 ∧ 65536 < n
  · have hbig : r1.big n = r1.fail 2 := by unfold RS.big; rw [if_pos hb]
    rw [hbig] at hres
    have HR := Lib.hid hres; clear hres hbig
    obtain ⟨he, hn⟩ := hb
    have he' : (r1.e == 0) = true := by simpa using he
    have hn' : (65536 : Int) < (n : Int) := by omega
    have hok2 := RS.ok_fail hok1 2
    clear he h0 h1
    go_wp2_with fail
    refine (rfail_any b 2 r1 w1 hr1).mono ?_
    rintro e w2 ⟨rfl, hr2, hm2⟩
    go_wp2_with fail
    refine (rtake_any b (n : Int) (by omega) (r1.fail 2) hok2 w2 hr2).mono ?_
    rintro e w3 ⟨rfl, hr3, hm3⟩
    rw [Int.toNat_natCast] at hr3 ⊢
    go_wp2
    go_ret
    exact ⟨by rw [HR.out]; rfl, by rw [HR.out]; exact hr3, (hm1.trans hm2).trans hm3⟩
  · have hbig : r1.big n = r1 := by unfold RS.big; rw [if_neg hb]
    rw [hbig] at hres
    have HR := Lib.hid hres; clear hres hbig
    have hor : (r1.e == 0) = false ∨ (r1.e == 0) = true ∧ (n : Int) ≤ 65536 := by simp; omega
    clear hb h0 h1
    rcases hor with g1 | ⟨g1, g2⟩
    all_goals
      go_wp2_with fail
      refine (rtake_any b (n : Int) (by omega) r1 hok1 w1 hr1).mono ?_
      rintro e w3 ⟨rfl, hr3, hm3⟩
      rw [Int.toNat_natCast] at hr3 ⊢
      go_wp2
      go_ret
      exact ⟨by rw [HR.out]; rfl, by rw [HR.out]; exact hr3, hm1.trans hm3⟩

theorem rbelow_any (b : Nat) (most : Int) (r : RS) (hok : r.ok) (w : World) (hr : IsR w b r) :
    Calls Try.prog 58 #[.pointer (some ⟨b, 0, none⟩), .int .i64 most] w fun e w' => e = .returned (.int .i64 ((r.below most).1 : Nat)) ∧ IsR w' b (r.below most).2 ∧ Mod (fun k => k = b) w w' := by
  obtain ⟨res, hres⟩ : ∃ res, res = r.below most := ⟨_, rfl⟩
  rw [← hres]
  unfold RS.below at hres
  have hfit := number_fits (r := r)
  by_cases hm : most ≤ (r.number.1 : Int)
  · rw [if_pos hm] at hres; subst hres
    go_enter Try.func58, Try.ntmps58
    go_wp2_with fail
    refine (rnumber_any b r hok w hr).mono ?_
    rintro e w1 ⟨rfl, hr1, hm1⟩
    go_wp2_with fail
    refine (rfail_any b 2 _ w1 hr1).mono ?_
    rintro e w2 ⟨rfl, hr2, hm2⟩
    go_wp2
    go_ret
    exact ⟨rfl, hr2, hm1.trans hm2⟩
  · rw [if_neg hm] at hres
    have HR := Lib.hid hres; clear hres
    go_enter Try.func58, Try.ntmps58
    go_wp2_with fail
    refine (rnumber_any b r hok w hr).mono ?_
    rintro e w1 ⟨rfl, hr1, hm1⟩
    go_wp2
    go_ret
    exact ⟨by rw [HR.out]; rfl, by rw [HR.out]; exact hr1, hm1⟩

theorem rflag_any (b : Nat) (r : RS) (hok : r.ok) (w : World) (hr : IsR w b r) :
    Calls Try.prog 56 #[.pointer (some ⟨b, 0, none⟩)] w fun e w' => e = .returned (.bool r.flag.1) ∧ IsR w' b r.flag.2 ∧ Mod (fun k => k = b) w w' := by
  obtain ⟨res, hres⟩ : ∃ res, res = r.flag := ⟨_, rfl⟩
  rw [← hres]
  unfold RS.flag at hres
  go_enter Try.func56, Try.ntmps56
  have HR := Lib.hid hres; clear hres
  go_wp2_with fail
  refine (rtake_any b 1 (by omega) r hok w hr).mono ?_
  rintro e w1 ⟨rfl, hr1, hm1⟩
  rw [show Int.toNat 1 = 1 from rfl] at hr1 ⊢
  have hres := HR.out; clear HR
  generalize (r.take 1).2 = r1 at hr1 hres
  generalize (r.take 1).1 = s at hres ⊢
  rw [show one1.toList = [1] from ByteArray.toList_eq _] at hres
  cases hc : (Op.bytesLess s.toList [1] || s.toList == [1]) with
  | true =>
    rw [hc, if_pos rfl] at hres; subst hres
    go_wp2
    go_ret
    exact ⟨rfl, hr1, hm1⟩
  | false =>
    rw [hc, if_neg (by simp)] at hres; subst hres
    go_wp2_with fail
    refine (rfail_any b 4 r1 w1 hr1).mono ?_
    rintro e w2 ⟨rfl, hr2, hm2⟩
    go_wp2
    go_ret
    exact ⟨rfl, hr2, hm1.trans hm2⟩

theorem rleft_any (b : Nat) (r : RS) (hok : r.ok) (w : World) (hr : IsR w b r) :
    Calls Try.prog 59 #[.pointer (some ⟨b, 0, none⟩)] w fun e w' => e = .returned (.int .i64 ((r.s.size - r.p : Nat) : Int)) ∧ Below w.heap.size w w' := by
  obtain ⟨hp, hs⟩ := hok
  unfold maxLen at hs
  obtain ⟨h0, h1, h2⟩ := hr.cells
  have hi : ((r.s.size - r.p : Nat) : Int) = (r.s.size : Int) - (r.p : Int) := by omega
  have hw : IntKind.i64.wrap ((r.s.size : Int) - (r.p : Int)) = (r.s.size : Int) - (r.p : Int) := IntWalk.i64_in _ (by omega)
  rw [hi]
  clear hi hp hs h2
  go_enter Try.func59, Try.ntmps59
  go_wp2
  go_quiet (fail)
  go_wp2
  go_ret
  exact ⟨rfl, below_drewN (Below.refl _ _) _⟩

theorem rdone_any (b : Nat) (r : RS) (w : World) (hr : IsR w b r) :
    Calls Try.prog 31 #[.pointer (some ⟨b, 0, none⟩)] w fun e w' => e = .returned (.int .i64 r.done) ∧ Below w.heap.size w w' := by
  obtain ⟨h0, h1, h2⟩ := hr.cells
  by_cases he : r.e = 0
  · have he' : (r.e == 0) = true := by simpa using he
    by_cases hp : r.p < r.s.size
    · have hd : r.done = 3 := by unfold RS.done; rw [if_pos ⟨he, hp⟩]
      have HD := Lib.hid hd
      have hp' : (r.p : Int) < (r.s.size : Int) := by omega
      clear hd he hp
      go_enter Try.func31, Try.ntmps31
      go_wp2
      go_quiet (fail)
      go_wp2
      go_ret
      exact ⟨by rw [HD.out]; rfl, below_drewN (Below.refl _ _) _⟩
    · have hd : r.done = r.e := by unfold RS.done; rw [if_neg (fun h => hp h.2)]
      have HD := Lib.hid hd
      have hp' : decide (r.p < r.s.size) = false := by simp; omega
      clear hd he hp
      go_enter Try.func31, Try.ntmps31
      go_wp2
      go_quiet (fail)
      go_wp2
      go_ret
      exact ⟨by rw [HD.out]; rfl, below_drewN (Below.refl _ _) _⟩
  · have hd : r.done = r.e := by unfold RS.done; rw [if_neg (fun h => he h.1)]
    have HD := Lib.hid hd
    have he' : (r.e == 0) = false := by simpa using he
    clear hd he
    go_enter Try.func31, Try.ntmps31
    go_wp2
    go_quiet (fail)
    go_wp2
    go_ret
    exact ⟨by rw [HD.out]; rfl, below_drewN (Below.refl _ _) _⟩

theorem ropen_any (s : ByteArray) (w : World) :
    Calls Try.prog 28 #[.string s] w fun e w' => e = .returned (.pointer (some ⟨w.heap.size, 0, none⟩)) ∧ IsR w' w.heap.size (RS.open s) ∧ Below w.heap.size w w' := by
  by_cases hz : 65536 < s.size
  · have HO := Lib.hid (show RS.open s = ⟨s, 0, 2⟩ by simp [RS.open, hz])
    have hz' : (65536 : Int) < (s.size : Int) := by omega
    clear hz
    go_enter Try.func28, Try.ntmps28
    go_wp2
    go_ret
    exact ⟨rfl, by rw [HO.out]; exact Blk.new _ _ _, (Below.refl _ _).alloc (Nat.le_refl _) _⟩
  · have HO := Lib.hid (show RS.open s = ⟨s, 0, 0⟩ by simp [RS.open, hz])
    have hz' : (s.size : Int) ≤ 65536 := by omega
    clear hz
    go_enter Try.func28, Try.ntmps28
    go_wp2
    go_ret
    exact ⟨rfl, by rw [HO.out]; exact Blk.new _ _ _, (Below.refl _ _).alloc (Nat.le_refl _) _⟩
end Go.Proofs.Ytcnkmfmdadmaaaa
