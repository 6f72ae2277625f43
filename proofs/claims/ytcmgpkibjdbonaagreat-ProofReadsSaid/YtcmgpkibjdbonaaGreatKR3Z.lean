/- code.Reader by rules: Below, Text, Flag, Left, Done, Open. -/
import Derived.Test.YtcmgpkibjdbonaaGreatKRZ
set_option maxHeartbeats 4000000
namespace Go.Proofs.YtcmgpkibjdbonaaGreat
open Go Go.RowKit

def RS.big (r : RS) (n : Nat) : RS := if r.e = 0 ∧ 65536 < n then r.fail 2 else r
def RS.text (r : RS) : List UInt8 × RS := (r.number.2.big r.number.1).take r.number.1
def RS.below (r : RS) (most : Int) : Nat × RS := if most ≤ (r.number.1 : Int) then (0, r.number.2.fail 2) else r.number
def RS.flag (r : RS) : Bool × RS :=
  if Op.bytesLess (r.take 1).1 [1] || (r.take 1).1 == [1] then ((r.take 1).1 == [1], (r.take 1).2) else (false, (r.take 1).2.fail 4)
def RS.done (r : RS) : Int := if r.e = 0 ∧ r.p < r.s.length then 3 else r.e
def RS.open (s : List UInt8) : RS := ⟨s, 0, if 65536 < s.length then 2 else 0⟩
theorem RS.ok_open {s : List UInt8} (h : s.length ≤ 9223372036854775807) : (RS.open s).ok := ⟨Nat.zero_le _, h⟩
theorem RS.ok_big {r : RS} (h : r.ok) (n : Nat) : (r.big n).ok := by unfold RS.big; split <;> first | exact RS.ok_fail h _ | exact h
theorem RS.ok_text {r : RS} (h : r.ok) : r.text.2.ok := RS.ok_take (RS.ok_big (RS.ok_number h) _) _
theorem RS.ok_below {r : RS} (h : r.ok) (m : Int) : (r.below m).2.ok := by
  unfold RS.below; split
  · exact RS.ok_fail (RS.ok_number h) _
  · exact RS.ok_number h
theorem RS.ok_flag {r : RS} (h : r.ok) : r.flag.2.ok := by
  unfold RS.flag; split
  · exact RS.ok_take h _
  · exact RS.ok_fail (RS.ok_take h _) _
theorem rbelow_spec (b : Nat) (most : Int) (r : RS) (hok : r.ok) : Spec Tryz.prog 112 [.ptr 0 b [] 0, .i .i64 most] [.var b (rdA r)] (fun v os => v = .i .i64 ((r.below most).1 : Nat) ∧ os = [.var b (rdA (r.below most).2)]) := by
  refine spec_of TtOk [(0, .var b (rdA r))] Tryz.func112 rfl Tryz.ntmps112 (by kernel_rfl) rfl rfl (fun C => ?_) rfl
  repeat' (first | refine Awp.seq ?_ | refine Awp.region ?_ | refine Ops.nil (nqA ?_) | (refine o_calm rfl TtOk rfl rfl rfl ?_ (fun _ => ?_); exact nd))
  refine o_call [] [0] [0] rfl (rnumber_spec b r hok) ⟨sle_ptr, True.intro⟩ rfl ⟨HOLe.refl _, True.intro⟩ rfl rfl ?_
  rintro v os' ⟨rfl, rfl⟩; refine ⟨_, rfl, rfl, ?_⟩
  repeat' (first | refine Awp.seq ?_ | refine Awp.region ?_ | refine Ops.nil (nqA ?_) | refine Awp.skip (nqA ?_) | refine Awp.ret (nqE ?_) | (refine o_calm rfl TtOk rfl rfl rfl ?_ (fun _ => ?_); exact nd) | (refine a_condP rfl (fun hc => ?_) (fun hc => ?_)) <;> (try (exfalso; omega)))
  · refine o_call [] [0] [0] rfl (rfail_spec b 2 _) ⟨sle_ptr, sle_i rfl, True.intro⟩ rfl ⟨HOLe.refl _, True.intro⟩ rfl rfl ?_
    rintro v os' ⟨rfl, rfl⟩; refine ⟨_, rfl, rfl, ?_⟩
    repeat' (first | refine Awp.seq ?_ | refine Awp.region ?_ | refine Ops.nil (nqA ?_) | refine Awp.ret (nqE ?_) | (refine o_calm rfl TtOk rfl rfl rfl ?_ (fun _ => ?_); exact nd))
    have hn : r.below most = (0, r.number.2.fail 2) := by unfold RS.below; rw [if_pos hc]
    exact end_tmp rfl rfl rfl [] [(0, _)] (CLe.of_eq (by rw [hn]; rfl)) (HLe.same rfl (HOLe.refl _) .nil) ⟨rfl, by rw [hn]; rfl⟩ _ (.inl rfl)
  · have hn : r.below most = r.number := by unfold RS.below; rw [if_neg hc]
    exact end_tmp rfl rfl rfl [] [(0, _)] (CLe.of_eq (by rw [hn]; rfl)) (HLe.same rfl (HOLe.refl _) .nil) ⟨rfl, by rw [hn]; rfl⟩ _ (.inl rfl)
theorem rtext_spec (b : Nat) (r : RS) (hok : r.ok) : Spec Tryz.prog 132 [.ptr 0 b [] 0] [.var b (rdA r)] (fun v os => v = .s r.text.1 ∧ os = [.var b (rdA r.text.2)]) := by
  refine spec_of TtOk [(0, .var b (rdA r))] Tryz.func132 rfl Tryz.ntmps132 (by kernel_rfl) rfl rfl (fun C => ?_) rfl
  repeat' (first | refine Awp.seq ?_ | refine Awp.region ?_ | refine Ops.nil (nqA ?_) | (refine o_calm rfl TtOk rfl rfl rfl ?_ (fun _ => ?_); exact nd))
  refine o_call [] [0] [0] rfl (rnumber_spec b r hok) ⟨sle_ptr, True.intro⟩ rfl ⟨HOLe.refl _, True.intro⟩ rfl rfl ?_
  rintro v os' ⟨rfl, rfl⟩; refine ⟨_, rfl, rfl, ?_⟩
  have hok1 := RS.ok_number hok
  have ht : r.text = (r.number.2.big r.number.1).take r.number.1 := rfl
  generalize r.number = q at hok1 ht ⊢
  obtain ⟨n, r1⟩ := q
  dsimp only at hok1 ht ⊢
  repeat' (first | refine Awp.seq ?_ | refine Awp.region ?_ | refine Ops.nil (nqA ?_) | refine Awp.skip (nqA ?_) | refine o_offT rfl rfl rfl (by first | exact .inl rfl | exact .inr rfl) ?_ | (refine o_calm rfl TtOk rfl rfl rfl ?_ (fun _ => ?_); exact nd) | (fail_if_success (refine o_isLit rfl (by first | exact .inl rfl | exact .inr rfl) ?_)); (refine o_splitP rfl rfl (fun hc => ?_) (fun hc => ?_) <;> try (exfalso; omega)) | refine a_condF rfl ?_ | (refine a_condP rfl (fun hc => ?_) (fun hc => ?_)) <;> (try (exfalso; omega)))
  · refine o_call [] [0] [0] rfl (rfail_spec b 2 _) ⟨sle_ptr, sle_i rfl, True.intro⟩ rfl ⟨HOLe.refl _, True.intro⟩ rfl rfl ?_
    rintro v os' ⟨rfl, rfl⟩; refine ⟨_, rfl, rfl, ?_⟩
    repeat' (first | refine Awp.seq ?_ | refine Awp.region ?_ | refine Ops.nil (nqA ?_) | (refine o_calm rfl TtOk rfl rfl rfl ?_ (fun _ => ?_); exact nd))
    refine o_call [] [0] [0] rfl (rtake_spec b n _ (RS.ok_fail hok1 2)) ⟨sle_ptr, sle_i rfl, True.intro⟩ rfl ⟨HOLe.refl _, True.intro⟩ rfl rfl ?_
    rintro v os' ⟨rfl, rfl⟩; refine ⟨_, rfl, rfl, ?_⟩
    repeat' (first | refine Ops.nil (nqA ?_) | refine Awp.ret (nqE ?_) | (refine o_calm rfl TtOk rfl rfl rfl ?_ (fun _ => ?_); exact nd))
    have hb : r1.big n = r1.fail 2 := by unfold RS.big; rw [if_pos (by omega)]
    rw [hb] at ht
    exact end_tmp rfl rfl rfl [] [(0, _)] (CLe.of_eq (by rw [ht]; rfl)) (HLe.same rfl (HOLe.refl _) .nil) ⟨rfl, by rw [ht]; rfl⟩ _ (.inl rfl)
  all_goals
    refine o_call [] [0] [0] rfl (rtake_spec b n _ hok1) ⟨sle_ptr, sle_i rfl, True.intro⟩ rfl ⟨HOLe.refl _, True.intro⟩ rfl rfl ?_
    rintro v os' ⟨rfl, rfl⟩; refine ⟨_, rfl, rfl, ?_⟩
    repeat' (first | refine Ops.nil (nqA ?_) | refine Awp.ret (nqE ?_) | (refine o_calm rfl TtOk rfl rfl rfl ?_ (fun _ => ?_); exact nd))
    have hb : r1.big n = r1 := by unfold RS.big; rw [if_neg (by omega)]
    rw [hb] at ht
    exact end_tmp rfl rfl rfl [] [(0, _)] (CLe.of_eq (by rw [ht]; rfl)) (HLe.same rfl (HOLe.refl _) .nil) ⟨rfl, by rw [ht]; rfl⟩ _ (.inl rfl)
theorem rflag_spec (b : Nat) (r : RS) (hok : r.ok) : Spec Tryz.prog 199 [.ptr 0 b [] 0] [.var b (rdA r)] (fun v os => v = .b r.flag.1 ∧ os = [.var b (rdA r.flag.2)]) := by
  refine spec_of TtOk [(0, .var b (rdA r))] Tryz.func199 rfl Tryz.ntmps199 (by kernel_rfl) rfl rfl (fun C => ?_) rfl
  repeat' (first | refine Awp.seq ?_ | refine Awp.region ?_ | refine Ops.nil (nqA ?_) | (refine o_calm rfl TtOk rfl rfl rfl ?_ (fun _ => ?_); exact nd))
  refine o_call [] [0] [0] rfl (rtake_spec b 1 r hok) ⟨sle_ptr, sle_i rfl, True.intro⟩ rfl ⟨HOLe.refl _, True.intro⟩ rfl rfl ?_
  rintro v os' ⟨rfl, rfl⟩; refine ⟨_, rfl, rfl, ?_⟩
  repeat' (first | refine Awp.seq ?_ | refine Awp.region ?_ | refine Ops.nil (nqA ?_) | refine Awp.skip (nqA ?_) | refine Awp.ret (nqE ?_) | (refine o_calm rfl TtOk rfl rfl rfl ?_ (fun _ => ?_); exact nd) | (refine Awp.cond rfl (fun hc => ?_) (fun hc => ?_)))
  · refine o_call [] [0] [0] rfl (rfail_spec b 4 _) ⟨sle_ptr, sle_i rfl, True.intro⟩ rfl ⟨HOLe.refl _, True.intro⟩ rfl rfl ?_
    rintro v os' ⟨rfl, rfl⟩; refine ⟨_, rfl, rfl, ?_⟩
    repeat' (first | refine Awp.seq ?_ | refine Awp.region ?_ | refine Ops.nil (nqA ?_) | refine Awp.ret (nqE ?_) | (refine o_calm rfl TtOk rfl rfl rfl ?_ (fun _ => ?_); exact nd))
    have hn : r.flag = (false, (r.take 1).2.fail 4) := by unfold RS.flag; rw [if_neg (by simpa using hc)]
    exact end_tmp rfl rfl rfl [] [(0, _)] (CLe.of_eq (by rw [hn]; rfl)) (HLe.same rfl (HOLe.refl _) .nil) ⟨rfl, by rw [hn]; rfl⟩ _ (.inl rfl)
  · have hn : r.flag = ((r.take 1).1 == [1], (r.take 1).2) := by unfold RS.flag; rw [if_pos (by simpa only [Bool.not_eq_false'] using hc)]
    exact end_tmp rfl rfl rfl [] [(0, _)] (CLe.of_eq (by rw [hn]; rfl)) (HLe.same rfl (HOLe.refl _) .nil) ⟨rfl, by rw [hn]; rfl⟩ _ (.inl rfl)
theorem rdone_spec (b : Nat) (r : RS) : Spec Tryz.prog 115 [.ptr 0 b [] 0] [.var b (rdA r)] (fun v os => v = .i .i64 r.done ∧ os = [.var b (rdA r)]) := by
  refine spec_of TtOk [(0, .var b (rdA r))] Tryz.func115 rfl Tryz.ntmps115 (by kernel_rfl) rfl rfl (fun C => ?_) rfl
  repeat' (first | refine Awp.seq ?_ | refine Awp.region ?_ | refine Ops.nil (nqA ?_) | refine Awp.skip (nqA ?_) | refine Awp.ret (nqE ?_) | refine o_offT rfl rfl rfl (by first | exact .inl rfl | exact .inr rfl) ?_ | (refine o_calm rfl TtOk rfl rfl rfl ?_ (fun _ => ?_); exact nd) | (fail_if_success (refine o_isLit rfl (by first | exact .inl rfl | exact .inr rfl) ?_)); (refine o_splitP rfl rfl (fun hc => ?_) (fun hc => ?_) <;> try (exfalso; omega)) | refine a_condF rfl ?_ | (refine a_condP rfl (fun hc => ?_) (fun hc => ?_)) <;> (try (exfalso; omega)) | refine a_any 1 [] [] [] [0, 1, 2, 3, 4, 5, 6, 7, 8, 10, 11, 12, 9, 13, 14, 15, 16] (by kernel_rfl) (by kernel_rfl) (by kernel_rfl) rfl rfl rfl ?_)
  · have hn : r.done = 3 := by unfold RS.done; rw [if_pos (by omega)]
    exact end_tmp rfl rfl rfl [] [(0, _)] (CLe.of_eq (by rw [hn]; rfl)) (HLe.same rfl (HOLe.refl _) .nil) ⟨rfl, rfl⟩ _ (.inl rfl)
  all_goals
    have hn : r.done = r.e := by unfold RS.done; rw [if_neg (by omega)]
    exact end_tmp rfl rfl rfl [] [(0, _)] (CLe.of_eq (by rw [hn]; rfl)) (HLe.same rfl (HOLe.refl _) .nil) ⟨rfl, rfl⟩ _ (.inl rfl)
theorem ropen_spec (s : List UInt8) : Spec Tryz.prog 111 [.s s] [] (fun v os => ∃ b, v = .ptr 0 b [] 0 ∧ os = [.var b (rdA (RS.open s))]) := by
  refine spec_of TtOk [] Tryz.func111 rfl Tryz.ntmps111 (by kernel_rfl) rfl rfl (fun C => ?_) rfl
  repeat' (first | refine Awp.seq ?_ | refine Awp.region ?_ | refine Ops.nil (nqA ?_) | refine Awp.skip (nqA ?_) | refine Awp.ret (nqE ?_) | (refine o_calm rfl TtOk rfl rfl rfl ?_ (fun _ => ?_); exact nd) | refine o_box rfl rfl rfl rfl (fun _ => ?_) | refine o_store TtOk rfl rfl rfl rfl rfl rfl rfl ⟨rfl, rfl⟩ rfl rfl rfl rfl rfl ?_ | refine o_build TtOk rfl rfl rfl rfl rfl rfl nq1 ?_ | (refine a_condP rfl (fun hc => ?_) (fun hc => ?_)) <;> (try (exfalso; omega)))
  · have hn : RS.open s = ⟨s, 0, 2⟩ := by unfold RS.open; rw [if_pos (by omega)]
    exact end_tmp rfl rfl rfl [] [(6, _)] (r := .ptr 0 _ [] 0) CLe.ptr (HLe.same rfl (HOLe.refl _) .nil) ⟨_, rfl, by rw [hn]; rfl⟩ _ (.inl rfl)
  · have hn : RS.open s = ⟨s, 0, 0⟩ := by unfold RS.open; rw [if_neg (by omega)]
    exact end_tmp rfl rfl rfl [] [(6, _)] (r := .ptr 0 _ [] 0) CLe.ptr (HLe.same rfl (HOLe.refl _) .nil) ⟨_, rfl, by rw [hn]; rfl⟩ _ (.inl rfl)
theorem text_len (r : RS) : r.text.1.length ≤ 65536 := by
  unfold RS.text RS.big
  split
  · rename_i h
    unfold RS.take RS.fail
    rw [if_pos h.1, if_pos (show (2 : Int) ≠ 0 by decide)]; exact Nat.zero_le _
  · rename_i h
    unfold RS.take
    split
    · exact Nat.zero_le _
    · split
      · exact Nat.zero_le _
      · rename_i h1 h2
        rw [List.length_take]
        have : ¬ 65536 < r.number.1 := fun h3 => h ⟨by omega, h3⟩
        omega
end Go.Proofs.YtcmgpkibjdbonaaGreat
set_option maxHeartbeats 4000000
namespace Go.Proofs.YtcmgpkibjdbonaaGreat
open Go Go.RowKit

theorem cfail_spec (x : Int) (r : RS) : Spec Tryz.prog 122 [rdA r, .i .i64 x] [] (fun v os => v = rdA (r.fail x) ∧ os = []) := by
  refine spec_of TtOk [] Tryz.func122 rfl Tryz.ntmps122 (by kernel_rfl) rfl rfl (fun C => ?_) rfl
  repeat' (first | refine Awp.seq ?_ | refine Awp.region ?_ | refine Ops.nil (nqA ?_) | refine Ops.nil (nqX ?_) | refine Ops.nil (nqE ?_) | refine Awp.skip (nqA ?_) | refine Awp.skip (nqE ?_) | refine Awp.skip (nqX ?_) | refine Awp.ret (nqE ?_) | (refine o_calm rfl TtOk rfl rfl rfl ?_ (fun _ => ?_); exact nd) | refine o_alloc rfl TtOk rfl rfl rfl (fun bA => ?_) | refine o_box rfl rfl rfl rfl (fun _ => ?_) | refine o_store TtOk rfl rfl rfl rfl rfl rfl rfl ⟨rfl, rfl⟩ rfl rfl rfl rfl rfl ?_ | refine o_eqNil TtOk rfl rfl rfl rfl rfl ?_ | refine o_eqArr8 TtOk rfl rfl rfl rfl rfl rfl (by kernel_rfl) ?_ | refine a_condT rfl ?_ | refine a_condF rfl ?_ | (refine a_condP rfl (fun hc => ?_) (fun hc => ?_)) <;> (try (exfalso; omega)) | (refine a_condI rfl (fun hc => ?_) (fun hc => ?_)) <;> (try (exfalso; omega)) | (refine a_condN rfl (fun hc => ?_) (fun hc => ?_)) <;> (try (exfalso; omega)) | (refine Awp.cond rfl (fun hc => ?_) (fun hc => ?_)))
  · have hn : r.fail x = ⟨r.s, r.p, x⟩ := by unfold RS.fail; rw [if_pos hc]
    refine end_all [] [] (rdA (r.fail x)) rfl ?_ ?_ (rle_one (CLe.of_eq (by rw [hn]; rfl)) rfl) .nil ⟨rfl, rfl⟩ _ (.inl rfl)
    · exact nq1
    · exact ⟨trivial, trivial⟩
  · have hn : r.fail x = r := by unfold RS.fail; rw [if_neg hc]
    refine end_all [] [] (rdA (r.fail x)) rfl ?_ ?_ (rle_one (CLe.of_eq (by rw [hn]; rfl)) rfl) .nil ⟨rfl, rfl⟩ _ (.inl rfl)
    · exact nq1
    · exact ⟨trivial, trivial⟩
theorem copen_spec (s : List UInt8) : Spec Tryz.prog 119 [.s s] [] (fun v os => v = rdA (RS.open s) ∧ os = []) := by
  refine spec_of TtOk [] Tryz.func119 rfl Tryz.ntmps119 (by kernel_rfl) rfl rfl (fun C => ?_) rfl
  repeat' (first | refine Awp.seq ?_ | refine Awp.region ?_ | refine Ops.nil (nqA ?_) | refine Ops.nil (nqX ?_) | refine Ops.nil (nqE ?_) | refine Awp.skip (nqA ?_) | refine Awp.skip (nqE ?_) | refine Awp.skip (nqX ?_) | refine Awp.ret (nqE ?_) | refine o_len rfl TtOk rfl rfl rfl (fun _ => ?_) | refine o_lenOwn rfl TtOk rfl rfl rfl rfl (fun _ => ?_) | (refine o_calm rfl TtOk rfl rfl rfl ?_ (fun _ => ?_); exact nd) | refine o_alloc rfl TtOk rfl rfl rfl (fun bA => ?_) | refine o_store TtOk rfl rfl rfl rfl rfl rfl rfl ⟨rfl, rfl⟩ rfl rfl rfl rfl rfl ?_ | refine o_build TtOk rfl rfl rfl rfl rfl rfl nq1 ?_ | refine o_buildArr0 TtOk rfl rfl rfl rfl ?_ | refine a_condT rfl ?_ | refine a_condF rfl ?_ | (refine a_condP rfl (fun hc => ?_) (fun hc => ?_)) <;> (try (exfalso; omega)) | (refine a_condI rfl (fun hc => ?_) (fun hc => ?_)) <;> (try (exfalso; omega)) | (refine a_condN rfl (fun hc => ?_) (fun hc => ?_)) <;> (try (exfalso; omega)) | (refine Awp.cond rfl (fun hc => ?_) (fun hc => ?_)))
  · have hn : RS.open s = ⟨s, 0, 2⟩ := by unfold RS.open; rw [if_pos (by omega)]
    refine end_all [] [] (rdA (RS.open s)) rfl ?_ ?_ (rle_one (CLe.of_eq (by rw [hn]; rfl)) rfl) .nil ⟨rfl, rfl⟩ _ (.inl rfl)
    · exact nq1
    · exact ⟨trivial, trivial⟩
  · have hn : RS.open s = ⟨s, 0, 0⟩ := by unfold RS.open; rw [if_neg (by omega)]
    refine end_all [] [] (rdA (RS.open s)) rfl ?_ ?_ (rle_one (CLe.of_eq (by rw [hn]; rfl)) rfl) .nil ⟨rfl, rfl⟩ _ (.inl rfl)
    · exact nq1
    · exact ⟨trivial, trivial⟩
theorem ctake_spec (n : Nat) (r : RS) (hok : r.ok) : Spec Tryz.prog 194 [rdA r, .i .i64 n] [] (fun v os => v = .tup [rdA (r.take n).2, .s (r.take n).1] ∧ os = []) := by
  obtain ⟨h1, h2⟩ := hok
  refine spec_of TtOk [] Tryz.func194 rfl Tryz.ntmps194 (by kernel_rfl) rfl rfl (fun C => ?_) rfl
  repeat' (first | refine Awp.seq ?_ | refine Awp.region ?_ | refine Ops.nil (nqA ?_) | refine Ops.nil (nqX ?_) | refine Ops.nil (nqE ?_) | refine Awp.skip (nqA ?_) | refine Awp.skip (nqE ?_) | refine Awp.skip (nqX ?_) | refine Awp.ret (nqE ?_) | refine o_offT rfl rfl rfl (by first | exact .inl rfl | exact .inr rfl) ?_ | refine o_offU rfl rfl rfl (by first | exact .inl rfl | exact .inr rfl) ?_ | refine o_offF rfl rfl rfl (by first | exact .inl rfl | exact .inr rfl) ?_ | (refine o_add rfl rfl rfl rfl ?_ ?_; omega) | (refine o_sub rfl rfl rfl rfl ?_ ?_; omega) | refine o_len rfl TtOk rfl rfl rfl (fun _ => ?_) | refine o_lenOwn rfl TtOk rfl rfl rfl rfl (fun _ => ?_) | (refine o_calm rfl TtOk rfl rfl rfl ?_ (fun _ => ?_); exact nd) | refine o_alloc rfl TtOk rfl rfl rfl (fun bA => ?_) | refine o_box rfl rfl rfl rfl (fun _ => ?_) | refine o_store TtOk rfl rfl rfl rfl rfl rfl rfl ⟨rfl, rfl⟩ rfl rfl rfl rfl rfl ?_ | (refine o_calm rfl TtOk rfl rfl rfl ?_ (fun _ => ?_); (show List.length _ + List.length _ ≤ 9223372036854775807; (repeat' (first | rw [List.length_append] | rw [List.length_map] | rw [List.length_cons] | rw [List.length_nil] | rw [List.length_take] | rw [List.length_drop])) <;> omega)) | refine o_sliceCp TtOk rfl rfl rfl rfl rfl rfl ?_ | refine o_eqNil TtOk rfl rfl rfl rfl rfl ?_ | refine o_eqArr8 TtOk rfl rfl rfl rfl rfl rfl (by kernel_rfl) ?_ | (fail_if_success (refine o_isLit rfl (by first | exact .inl rfl | exact .inr rfl) ?_)); (refine o_splitP rfl rfl (fun hc => ?_) (fun hc => ?_) <;> try (exfalso; omega)) | (fail_if_success (refine o_isLit rfl (by first | exact .inl rfl | exact .inr rfl) ?_)); (refine o_splitI rfl rfl (fun hc => ?_) (fun hc => ?_) <;> try (exfalso; omega)) | (fail_if_success (refine o_isLit rfl (by first | exact .inl rfl | exact .inr rfl) ?_)); (refine o_splitN rfl rfl (fun hc => ?_) (fun hc => ?_) <;> try (exfalso; omega)) | (fail_if_success (refine o_isLit rfl (by first | exact .inl rfl | exact .inr rfl) ?_)); (refine o_split rfl rfl (fun hc => ?_) (fun hc => ?_)) | refine a_condT rfl ?_ | refine a_condF rfl ?_ | (refine a_condP rfl (fun hc => ?_) (fun hc => ?_)) <;> (try (exfalso; omega)) | (refine a_condI rfl (fun hc => ?_) (fun hc => ?_)) <;> (try (exfalso; omega)) | (refine a_condN rfl (fun hc => ?_) (fun hc => ?_)) <;> (try (exfalso; omega)) | (refine Awp.cond rfl (fun hc => ?_) (fun hc => ?_)))
  · have hn : r.take n = ([], ⟨r.s, r.p, 5⟩) := by unfold RS.take; rw [if_neg (by omega), if_pos (by omega)]
    refine end_all [] [] (.tup [rdA (r.take n).2, .s (r.take n).1]) rfl ?_ ?_ (rle_tup2 (CLe.of_eq (by rw [hn]; rfl)) (CLe.of_eq (by rw [hn]; rfl)) rfl rfl) .nil ⟨rfl, rfl⟩ _ (.inl rfl)
    · exact nq1
    · exact ⟨trivial, trivial, trivial⟩
  · refine o_sliceStr TtOk rfl r.p (r.p + n) rfl rfl rfl (bnd_some rfl (by omega)) (bnd_some rfl (by omega)) (by omega) (by omega) ?_
    repeat' (first | refine Awp.seq ?_ | refine Awp.region ?_ | refine Ops.nil (nqA ?_) | refine Ops.nil (nqX ?_) | refine Ops.nil (nqE ?_) | refine Awp.skip (nqA ?_) | refine Awp.skip (nqE ?_) | refine Awp.skip (nqX ?_) | refine Awp.ret (nqE ?_) | refine o_offT rfl rfl rfl (by first | exact .inl rfl | exact .inr rfl) ?_ | refine o_offU rfl rfl rfl (by first | exact .inl rfl | exact .inr rfl) ?_ | refine o_offF rfl rfl rfl (by first | exact .inl rfl | exact .inr rfl) ?_ | (refine o_add rfl rfl rfl rfl ?_ ?_; omega) | (refine o_sub rfl rfl rfl rfl ?_ ?_; omega) | refine o_len rfl TtOk rfl rfl rfl (fun _ => ?_) | refine o_lenOwn rfl TtOk rfl rfl rfl rfl (fun _ => ?_) | (refine o_calm rfl TtOk rfl rfl rfl ?_ (fun _ => ?_); exact nd) | refine o_alloc rfl TtOk rfl rfl rfl (fun bA => ?_) | refine o_box rfl rfl rfl rfl (fun _ => ?_) | refine o_store TtOk rfl rfl rfl rfl rfl rfl rfl ⟨rfl, rfl⟩ rfl rfl rfl rfl rfl ?_ | (refine o_calm rfl TtOk rfl rfl rfl ?_ (fun _ => ?_); (show List.length _ + List.length _ ≤ 9223372036854775807; (repeat' (first | rw [List.length_append] | rw [List.length_map] | rw [List.length_cons] | rw [List.length_nil] | rw [List.length_take] | rw [List.length_drop])) <;> omega)) | refine o_sliceCp TtOk rfl rfl rfl rfl rfl rfl ?_ | refine o_eqNil TtOk rfl rfl rfl rfl rfl ?_ | refine o_eqArr8 TtOk rfl rfl rfl rfl rfl rfl (by kernel_rfl) ?_ | (fail_if_success (refine o_isLit rfl (by first | exact .inl rfl | exact .inr rfl) ?_)); (refine o_splitP rfl rfl (fun hc => ?_) (fun hc => ?_) <;> try (exfalso; omega)) | (fail_if_success (refine o_isLit rfl (by first | exact .inl rfl | exact .inr rfl) ?_)); (refine o_splitI rfl rfl (fun hc => ?_) (fun hc => ?_) <;> try (exfalso; omega)) | (fail_if_success (refine o_isLit rfl (by first | exact .inl rfl | exact .inr rfl) ?_)); (refine o_splitN rfl rfl (fun hc => ?_) (fun hc => ?_) <;> try (exfalso; omega)) | (fail_if_success (refine o_isLit rfl (by first | exact .inl rfl | exact .inr rfl) ?_)); (refine o_split rfl rfl (fun hc => ?_) (fun hc => ?_)) | refine a_condT rfl ?_ | refine a_condF rfl ?_ | (refine a_condP rfl (fun hc => ?_) (fun hc => ?_)) <;> (try (exfalso; omega)) | (refine a_condI rfl (fun hc => ?_) (fun hc => ?_)) <;> (try (exfalso; omega)) | (refine a_condN rfl (fun hc => ?_) (fun hc => ?_)) <;> (try (exfalso; omega)) | (refine Awp.cond rfl (fun hc => ?_) (fun hc => ?_)))
    have hn : r.take n = ((r.s.drop r.p).take n, ⟨r.s, r.p + n, 0⟩) := by unfold RS.take; rw [if_neg (by omega), if_neg (by omega)]
    refine end_all [] [] (.tup [rdA (r.take n).2, .s (r.take n).1]) rfl ?_ ?_ (rle_tup2 (CLe.of_eq ?_) (CLe.of_eq ?_) rfl rfl) .nil ⟨rfl, rfl⟩ _ (.inl rfl)
    · exact nq1
    · exact ⟨trivial, trivial, trivial⟩
    · rw [hn]; show AV.agg [.s r.s, .i .i64 (r.p + n), .i .i64 r.e] = AV.agg [.s r.s, .i .i64 ((r.p + n : Nat) : Int), .i .i64 0]; rw [Int.natCast_add, hc]
    · rw [hn]; show AV.s ((r.s.take (r.p+n)).drop r.p) = AV.s ((r.s.drop r.p).take n); rw [List.drop_take, Nat.add_sub_cancel_left]
  · have hn : r.take n = ([], r) := by unfold RS.take; rw [if_pos hc]
    refine end_all [] [] (.tup [rdA (r.take n).2, .s (r.take n).1]) rfl ?_ ?_ (rle_tup2 (CLe.of_eq (by rw [hn]; rfl)) (CLe.of_eq (by rw [hn]; rfl)) rfl rfl) .nil ⟨rfl, rfl⟩ _ (.inl rfl)
    · exact nq1
    · exact ⟨trivial, trivial, trivial⟩
end Go.Proofs.YtcmgpkibjdbonaaGreat
set_option maxHeartbeats 8000000
namespace Go.Proofs.YtcmgpkibjdbonaaGreat
open Go Go.RowKit

theorem take_nil {r : RS} (hok : r.ok) {n : Nat} (hn : 0 < n) : (r.take n).1 = [] ↔ (r.take n).2.e ≠ 0 := by
  obtain ⟨h1, h2⟩ := hok
  unfold RS.take
  split
  · rename_i h; exact ⟨fun _ => h, fun _ => rfl⟩
  · split
    · exact ⟨fun _ => by show (5 : Int) ≠ 0; decide, fun _ => rfl⟩
    · refine ⟨fun h => ?_, fun h => absurd rfl h⟩
      have : ((r.s.drop r.p).take n).length = 0 := by rw [show (r.s.drop r.p).take n = [] from h]; rfl
      rw [List.length_take, List.length_drop] at this
      omega
theorem cdone_spec (r : RS) (hok : r.ok) : Spec Tryz.prog 124 [rdA r] [] (fun v os => v = .i .i64 r.done ∧ os = []) := by
  obtain ⟨h1, h2⟩ := hok
  refine spec_of TtOk [] Tryz.func124 rfl Tryz.ntmps124 (by kernel_rfl) rfl rfl (fun C => ?_) rfl
  repeat' (first | refine Awp.seq ?_ | refine Awp.region ?_ | refine Ops.nil (nqA ?_) | refine Ops.nil (nqX ?_) | refine Ops.nil (nqE ?_) | refine Awp.skip (nqA ?_) | refine Awp.skip (nqE ?_) | refine Awp.skip (nqX ?_) | refine Awp.ret (nqE ?_) | refine o_offT rfl rfl rfl (by first | exact .inl rfl | exact .inr rfl) ?_ | refine o_offU rfl rfl rfl (by first | exact .inl rfl | exact .inr rfl) ?_ | refine o_offF rfl rfl rfl (by first | exact .inl rfl | exact .inr rfl) ?_ | refine o_len rfl TtOk rfl rfl rfl (fun _ => ?_) | refine o_lenOwn rfl TtOk rfl rfl rfl rfl (fun _ => ?_) | (refine o_calm rfl TtOk rfl rfl rfl ?_ (fun _ => ?_); exact nd) | refine o_box rfl rfl rfl rfl (fun _ => ?_) | refine o_eqNil TtOk rfl rfl rfl rfl rfl ?_ | refine o_eqArr8 TtOk rfl rfl rfl rfl rfl rfl (by kernel_rfl) ?_ | (fail_if_success (refine o_isLit rfl (by first | exact .inl rfl | exact .inr rfl) ?_)); (refine o_splitP rfl rfl (fun hc => ?_) (fun hc => ?_) <;> try (exfalso; omega)) | (fail_if_success (refine o_isLit rfl (by first | exact .inl rfl | exact .inr rfl) ?_)); (refine o_splitI rfl rfl (fun hc => ?_) (fun hc => ?_) <;> try (exfalso; omega)) | (fail_if_success (refine o_isLit rfl (by first | exact .inl rfl | exact .inr rfl) ?_)); (refine o_splitN rfl rfl (fun hc => ?_) (fun hc => ?_) <;> try (exfalso; omega)) | (fail_if_success (refine o_isLit rfl (by first | exact .inl rfl | exact .inr rfl) ?_)); (refine o_split rfl rfl (fun hc => ?_) (fun hc => ?_)) | refine a_condT rfl ?_ | refine a_condF rfl ?_ | (refine a_condP rfl (fun hc => ?_) (fun hc => ?_)) <;> (try (exfalso; omega)) | (refine a_condI rfl (fun hc => ?_) (fun hc => ?_)) <;> (try (exfalso; omega)) | (refine a_condN rfl (fun hc => ?_) (fun hc => ?_)) <;> (try (exfalso; omega)) | (refine Awp.cond rfl (fun hc => ?_) (fun hc => ?_)))
  · have hn : r.done = 3 := by unfold RS.done; rw [if_pos (by omega)]
    exact end_tmp rfl rfl rfl [] [] (CLe.of_eq (by rw [hn]; rfl)) .nil ⟨rfl, rfl⟩ _ (.inl rfl)
  all_goals
    have hn : r.done = r.e := by unfold RS.done; rw [if_neg (by omega)]
    exact end_tmp rfl rfl rfl [] [] (CLe.of_eq (by rw [hn]; rfl)) .nil ⟨rfl, rfl⟩ _ (.inl rfl)
theorem flag_byte (c : UInt8) : (Op.bytesLess [c] [1] || [c] == [1]) = decide (c.toNat ≤ 1) ∧ ([c] == [(1 : UInt8)]) = ((c.toNat : Int) == 1) := by
  have h : ∀ n : Fin 256, (Op.bytesLess [UInt8.ofNat n.val] [1] || [UInt8.ofNat n.val] == [1]) = decide ((UInt8.ofNat n.val).toNat ≤ 1) ∧ ([UInt8.ofNat n.val] == [(1 : UInt8)]) = (((UInt8.ofNat n.val).toNat : Int) == 1) := by decide +kernel
  have := h ⟨c.toNat, c.toNat_lt⟩
  rwa [show UInt8.ofNat (⟨c.toNat, c.toNat_lt⟩ : Fin 256).val = c by simp] at this
theorem cflag_spec (r : RS) (hok : r.ok) : Spec Tryz.prog 201 [rdA r] [] (fun v os => v = .tup [rdA r.flag.2, .b r.flag.1] ∧ os = []) := by
  refine spec_of TtOk [] Tryz.func201 rfl Tryz.ntmps201 (by kernel_rfl) rfl rfl (fun C => ?_) rfl
  repeat' (first | refine Awp.seq ?_ | refine Awp.region ?_ | refine Ops.nil (nqA ?_) | refine Ops.nil (nqX ?_) | refine Ops.nil (nqE ?_) | refine Awp.skip (nqA ?_) | refine Awp.skip (nqE ?_) | refine Awp.skip (nqX ?_) | refine Awp.ret (nqE ?_) | (refine o_calm rfl TtOk rfl rfl rfl ?_ (fun _ => ?_); exact nd) | refine o_alloc rfl TtOk rfl rfl rfl (fun bA => ?_) | refine o_box rfl rfl rfl rfl (fun _ => ?_) | refine o_store TtOk rfl rfl rfl rfl rfl rfl rfl ⟨rfl, rfl⟩ rfl rfl rfl rfl rfl ?_ | (refine o_indexStr TtOk rfl rfl rfl rfl rfl ?_ (getq_nat ?_) ?_; omega; omega) | refine o_eqNil TtOk rfl rfl rfl rfl rfl ?_ | refine o_eqArr8 TtOk rfl rfl rfl rfl rfl rfl (by kernel_rfl) ?_ | refine a_condT rfl ?_ | refine a_condF rfl ?_ | (refine a_condP rfl (fun hc => ?_) (fun hc => ?_)) <;> (try (exfalso; omega)) | (refine a_condI rfl (fun hc => ?_) (fun hc => ?_)) <;> (try (exfalso; omega)) | (refine a_condN rfl (fun hc => ?_) (fun hc => ?_)) <;> (try (exfalso; omega)) | (refine Awp.cond rfl (fun hc => ?_) (fun hc => ?_)) | refine a_any 6 [2] [19] [] [1, 2, 3, 0, 4, 5] (by kernel_rfl) (by kernel_rfl) (by kernel_rfl) rfl rfl rfl ?_)
  refine o_call0 rfl (ctake_spec 1 r hok) ⟨nqS, sle_i rfl, True.intro⟩ rfl ?_
  rintro v os' ⟨rfl, rfl⟩; refine ⟨rfl, ?_⟩
  have hnil := take_nil hok (n := 1) (by decide)
  have hok1 := RS.ok_take hok 1
  have hlen := take_len r 1
  have hfl : r.flag = if Op.bytesLess (r.take 1).1 [1] || (r.take 1).1 == [1] then ((r.take 1).1 == [1], (r.take 1).2) else (false, (r.take 1).2.fail 4) := rfl
  generalize (r.take 1).1 = t at hnil hlen hfl ⊢
  generalize (r.take 1).2 = r1 at hnil hfl hok1 ⊢
  repeat' (first | refine Awp.seq ?_ | refine Awp.region ?_ | refine Ops.nil (nqA ?_) | refine Ops.nil (nqX ?_) | refine Ops.nil (nqE ?_) | refine Awp.skip (nqA ?_) | refine Awp.skip (nqE ?_) | refine Awp.skip (nqX ?_) | refine Awp.ret (nqE ?_) | (refine o_calm rfl TtOk rfl rfl rfl ?_ (fun _ => ?_); exact nd) | refine o_alloc rfl TtOk rfl rfl rfl (fun bA => ?_) | refine o_box rfl rfl rfl rfl (fun _ => ?_) | refine o_store TtOk rfl rfl rfl rfl rfl rfl rfl ⟨rfl, rfl⟩ rfl rfl rfl rfl rfl ?_ | (refine o_indexStr TtOk rfl rfl rfl rfl rfl ?_ (getq_nat ?_) ?_; omega; omega) | refine o_eqNil TtOk rfl rfl rfl rfl rfl ?_ | refine o_eqArr8 TtOk rfl rfl rfl rfl rfl rfl (by kernel_rfl) ?_ | refine a_condT rfl ?_ | refine a_condF rfl ?_ | (refine a_condP rfl (fun hc => ?_) (fun hc => ?_)) <;> (try (exfalso; omega)) | (refine a_condI rfl (fun hc => ?_) (fun hc => ?_)) <;> (try (exfalso; omega)) | (refine a_condN rfl (fun hc => ?_) (fun hc => ?_)) <;> (try (exfalso; omega)) | (refine Awp.cond rfl (fun hc => ?_) (fun hc => ?_)) | refine a_any 6 [2] [19] [] [1, 2, 3, 0, 4, 5] (by kernel_rfl) (by kernel_rfl) (by kernel_rfl) rfl rfl rfl ?_)
  · have ht : t = [] := hnil.2 hc
    have hn : r.flag = (false, r1) := by
      rw [hfl, ht]; rfl
    refine end_all [] [] (.tup [rdA r.flag.2, .b r.flag.1]) rfl ?_ ?_ (rle_tup2 (CLe.of_eq (by rw [hn]; rfl)) (CLe.of_eq (by rw [hn]; rfl)) rfl rfl) .nil ⟨rfl, rfl⟩ _ (.inl rfl)
    · exact nq1
    · exact ⟨trivial, trivial, trivial⟩
  · obtain ⟨c, rfl⟩ : ∃ c, t = [c] := by
      match t, hnil, hlen with
      | [], hnil, _ => exact absurd hc (hnil.1 rfl)
      | [c], _, _ => exact ⟨c, rfl⟩
      | _ :: _ :: _, _, hlen => simp at hlen
    have hfb := flag_byte c
    rw [hfb.1, hfb.2] at hfl
    refine o_indexStr TtOk rfl (c := c) rfl rfl rfl rfl (by omega) rfl ?_
    repeat' (first | refine Awp.seq ?_ | refine Awp.region ?_ | refine Ops.nil (nqA ?_) | refine Ops.nil (nqX ?_) | refine Ops.nil (nqE ?_) | refine Awp.skip (nqA ?_) | refine Awp.skip (nqE ?_) | refine Awp.skip (nqX ?_) | refine Awp.ret (nqE ?_) | (refine o_calm rfl TtOk rfl rfl rfl ?_ (fun _ => ?_); exact nd) | refine o_alloc rfl TtOk rfl rfl rfl (fun bA => ?_) | refine o_box rfl rfl rfl rfl (fun _ => ?_) | refine o_store TtOk rfl rfl rfl rfl rfl rfl rfl ⟨rfl, rfl⟩ rfl rfl rfl rfl rfl ?_ | (refine o_indexStr TtOk rfl rfl rfl rfl rfl ?_ (getq_nat ?_) ?_; omega; omega) | refine o_eqNil TtOk rfl rfl rfl rfl rfl ?_ | refine o_eqArr8 TtOk rfl rfl rfl rfl rfl rfl (by kernel_rfl) ?_ | refine a_condT rfl ?_ | refine a_condF rfl ?_ | (refine a_condP rfl (fun hc => ?_) (fun hc => ?_)) <;> (try (exfalso; omega)) | (refine a_condI rfl (fun hc => ?_) (fun hc => ?_)) <;> (try (exfalso; omega)) | (refine a_condN rfl (fun hc => ?_) (fun hc => ?_)) <;> (try (exfalso; omega)) | (refine Awp.cond rfl (fun hc => ?_) (fun hc => ?_)) | refine a_any 6 [2] [19] [] [1, 2, 3, 0, 4, 5] (by kernel_rfl) (by kernel_rfl) (by kernel_rfl) rfl rfl rfl ?_)
    · refine o_call0 rfl (cfail_spec 4 r1) ⟨nqS, sle_i rfl, True.intro⟩ rfl ?_
      rintro v os' ⟨rfl, rfl⟩; refine ⟨rfl, ?_⟩
      have hn : r.flag = (false, r1.fail 4) := by rw [hfl, if_neg (by simp; omega)]
      generalize r1.fail 4 = r2 at hn ⊢
      repeat' (first | refine Awp.seq ?_ | refine Awp.region ?_ | refine Ops.nil (nqA ?_) | refine Ops.nil (nqX ?_) | refine Ops.nil (nqE ?_) | refine Awp.skip (nqA ?_) | refine Awp.skip (nqE ?_) | refine Awp.skip (nqX ?_) | refine Awp.ret (nqE ?_) | (refine o_calm rfl TtOk rfl rfl rfl ?_ (fun _ => ?_); exact nd) | refine o_alloc rfl TtOk rfl rfl rfl (fun bA => ?_) | refine o_box rfl rfl rfl rfl (fun _ => ?_) | refine o_store TtOk rfl rfl rfl rfl rfl rfl rfl ⟨rfl, rfl⟩ rfl rfl rfl rfl rfl ?_ | (refine o_indexStr TtOk rfl rfl rfl rfl rfl ?_ (getq_nat ?_) ?_; omega; omega) | refine o_eqNil TtOk rfl rfl rfl rfl rfl ?_ | refine o_eqArr8 TtOk rfl rfl rfl rfl rfl rfl (by kernel_rfl) ?_ | refine a_condT rfl ?_ | refine a_condF rfl ?_ | (refine a_condP rfl (fun hc => ?_) (fun hc => ?_)) <;> (try (exfalso; omega)) | (refine a_condI rfl (fun hc => ?_) (fun hc => ?_)) <;> (try (exfalso; omega)) | (refine a_condN rfl (fun hc => ?_) (fun hc => ?_)) <;> (try (exfalso; omega)) | (refine Awp.cond rfl (fun hc => ?_) (fun hc => ?_)) | refine a_any 6 [2] [19] [] [1, 2, 3, 0, 4, 5] (by kernel_rfl) (by kernel_rfl) (by kernel_rfl) rfl rfl rfl ?_)
      refine end_all [] [] (.tup [rdA r.flag.2, .b r.flag.1]) rfl ?_ ?_ (rle_tup2 (CLe.of_eq (by rw [hn]; rfl)) (CLe.of_eq (by rw [hn]; rfl)) rfl rfl) .nil ⟨rfl, rfl⟩ _ (.inl rfl)
      · exact nq1
      · exact ⟨trivial, trivial, trivial⟩
    · refine o_indexStr TtOk rfl (c := c) rfl rfl rfl rfl (by omega) rfl ?_
      repeat' (first | refine Awp.seq ?_ | refine Awp.region ?_ | refine Ops.nil (nqA ?_) | refine Ops.nil (nqX ?_) | refine Ops.nil (nqE ?_) | refine Awp.skip (nqA ?_) | refine Awp.skip (nqE ?_) | refine Awp.skip (nqX ?_) | refine Awp.ret (nqE ?_) | (refine o_calm rfl TtOk rfl rfl rfl ?_ (fun _ => ?_); exact nd) | refine o_alloc rfl TtOk rfl rfl rfl (fun bA => ?_) | refine o_box rfl rfl rfl rfl (fun _ => ?_) | refine o_store TtOk rfl rfl rfl rfl rfl rfl rfl ⟨rfl, rfl⟩ rfl rfl rfl rfl rfl ?_ | (refine o_indexStr TtOk rfl rfl rfl rfl rfl ?_ (getq_nat ?_) ?_; omega; omega) | refine o_eqNil TtOk rfl rfl rfl rfl rfl ?_ | refine o_eqArr8 TtOk rfl rfl rfl rfl rfl rfl (by kernel_rfl) ?_ | refine a_condT rfl ?_ | refine a_condF rfl ?_ | (refine a_condP rfl (fun hc => ?_) (fun hc => ?_)) <;> (try (exfalso; omega)) | (refine a_condI rfl (fun hc => ?_) (fun hc => ?_)) <;> (try (exfalso; omega)) | (refine a_condN rfl (fun hc => ?_) (fun hc => ?_)) <;> (try (exfalso; omega)) | (refine Awp.cond rfl (fun hc => ?_) (fun hc => ?_)) | refine a_any 6 [2] [19] [] [1, 2, 3, 0, 4, 5] (by kernel_rfl) (by kernel_rfl) (by kernel_rfl) rfl rfl rfl ?_)
      have hn : r.flag = ((c.toNat : Int) == 1, r1) := by rw [hfl, if_pos (by simp; omega)]
      refine end_all [] [] (.tup [rdA r.flag.2, .b r.flag.1]) rfl ?_ ?_ (rle_tup2 (CLe.of_eq (by rw [hn]; rfl)) (CLe.of_eq (by rw [hn]; rfl)) rfl rfl) .nil ⟨rfl, rfl⟩ _ (.inl rfl)
      · exact nq1
      · exact ⟨trivial, trivial, trivial⟩
end Go.Proofs.YtcmgpkibjdbonaaGreat
