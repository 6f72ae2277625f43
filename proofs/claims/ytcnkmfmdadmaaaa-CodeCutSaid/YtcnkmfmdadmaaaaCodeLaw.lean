/- What a Writer writes, a Reader reads: in plain Lean. -/
import Derived.Test.YtcnkmfmdadmaaaaCodeAw
namespace Go.Proofs.Ytcnkmfmdadmaaaa
open Go.RowKit

def RS.rest (r : RS) : List UInt8 := r.s.data.toList.drop r.p
theorem RS.rest_len (r : RS) : r.rest.length = r.s.size - r.p := by unfold RS.rest; rw [List.length_drop, ← size_eq]
theorem extract_list (s : ByteArray) (i n : Nat) : s.extract i (i + n) = ⟨((s.data.toList.drop i).take n).toArray⟩ := by
  have h : (s.extract i (i + n)).data = ((s.data.toList.drop i).take n).toArray := by
    rw [ByteArray.data_extract]
    apply Array.ext'
    rw [Array.toList_extract]
    simp
  cases hx : s.extract i (i + n) with
  | mk d => rw [hx] at h; rw [← h]
theorem RS.take_ok (r : RS) (he : r.e = 0) (n : Nat) (h : n ≤ r.rest.length) : r.take n = (⟨(r.rest.take n).toArray⟩, ⟨r.s, r.p + n, 0⟩) := by
  rw [RS.rest_len] at h
  unfold RS.take
  rw [if_neg (by simpa using he), if_neg (by omega), extract_list]
  cases r; simp at he; subst he; rfl
theorem RS.take_short (r : RS) (he : r.e = 0) (n : Nat) (h : r.rest.length < n) : r.take n = (⟨#[]⟩, ⟨r.s, r.p, 5⟩) := by
  rw [RS.rest_len] at h
  unfold RS.take
  rw [if_neg (by simpa using he), if_pos h]
theorem RS.take_bad (r : RS) (he : r.e ≠ 0) (n : Nat) : r.take n = (⟨#[]⟩, r) := by unfold RS.take; rw [if_pos he]
theorem RS.rest_step (s : ByteArray) (p n : Nat) (e : Int) : (RS.mk s (p + n) e).rest = (RS.mk s p 0).rest.drop n := by unfold RS.rest; rw [List.drop_drop]
theorem RS.number_bad (r : RS) (he : r.e ≠ 0) : r.number = (0, r) := by
  unfold RS.number; rw [RS.take_bad r he]; rfl
theorem RS.text_bad (r : RS) (he : r.e ≠ 0) : r.text = (⟨#[]⟩, r) := by
  unfold RS.text; rw [RS.number_bad r he]
  unfold RS.big
  rw [if_neg (fun h => he h.1), RS.take_bad r he]

theorem be_digits (n : Nat) : be (digits n) = n := by
  induction n using Nat.strongRecOn with
  | _ n ih =>
    by_cases h : n = 0
    · subst h; rw [digits_zero]; rfl
    · rw [digits_pos h, be_snoc, ih (n / 256) (by omega), UInt8.toNat_ofNat']; omega
theorem digits_head (n : Nat) (h : n ≠ 0) : ∃ c l, digits n = c :: l ∧ c.toNat ≠ 0 := by
  induction n using Nat.strongRecOn with
  | _ n ih =>
    rw [digits_pos h]
    by_cases h0 : n / 256 = 0
    · rw [h0, digits_zero]; exact ⟨_, [], rfl, by rw [UInt8.toNat_ofNat']; omega⟩
    · obtain ⟨c, l, e, hc⟩ := ih (n / 256) (by omega) h0
      rw [e]; exact ⟨c, l ++ [_], rfl, hc⟩
theorem be_ge (c : UInt8) (l : List UInt8) : c.toNat * 256 ^ l.length ≤ be (c :: l) := by
  rw [be_cons]; omega
theorem badNum_digits (n : Nat) (hn : n < 9223372036854775808) : badNum (digits n).length (digits n) = false := by
  by_cases h : n = 0
  · subst h; rw [digits_zero]; rfl
  · obtain ⟨c, l, e, hc⟩ := digits_head n h
    have hb := be_ge c l
    rw [← e, be_digits] at hb
    rw [e]
    unfold badNum
    simp only [Bool.or_eq_false_iff, beq_eq_false_iff_ne, Bool.and_eq_false_imp, beq_iff_eq, decide_eq_false_iff_not, Nat.not_lt]
    refine ⟨hc, fun h8 => ?_⟩
    have hl : l.length = 7 := by simp at h8; omega
    rw [hl] at hb
    omega
theorem numBytes_cons (n : Nat) (hn : n < 9223372036854775808) : ∃ c, numBytes n = c :: digits n ∧ c.toNat = (digits n).length := ⟨_, rfl, by
  have := digits_le 8 n (by omega)
  rw [UInt8.toNat_ofNat']; omega⟩
theorem RS.number_reads (r : RS) (he : r.e = 0) (n : Nat) (hn : n < 9223372036854775808) (t : List UInt8) (h : r.rest = numBytes n ++ t) : r.number = (n, ⟨r.s, r.p + (numBytes n).length, 0⟩) := by
  obtain ⟨c, hc, hcl⟩ := numBytes_cons n hn
  have h8 := digits_le 8 n (by omega)
  rw [hc] at h
  have h1 : r.take 1 = (⟨#[c]⟩, ⟨r.s, r.p + 1, 0⟩) := by rw [RS.take_ok r he 1 (by rw [h]; simp), h]; rfl
  have hr : (RS.mk r.s (r.p + 1) 0).rest = digits n ++ t := by
    rw [RS.rest_step]; show r.rest.drop 1 = _; rw [h]; rfl
  have h2 : (RS.mk r.s (r.p + 1) 0).take c.toNat = (⟨(digits n).toArray⟩, ⟨r.s, r.p + 1 + (digits n).length, 0⟩) := by
    rw [hcl, RS.take_ok _ rfl _ (by rw [hr]; simp), hr, List.take_left]
  unfold RS.number
  rw [h1]
  have hb0 : byte0 ⟨#[c]⟩ = c.toNat := rfl
  simp only [hb0]
  rw [if_neg (by show ¬ (1 = 0); omega), if_neg (by omega), h2]
  simp only []
  rw [if_neg (by rw [hcl, badNum_digits n hn]; simp), be_digits, hc, List.length_cons]
  rw [show r.p + 1 + (digits n).length = r.p + ((digits n).length + 1) by omega]
theorem RS.number_short (r : RS) (he : r.e = 0) (n : Nat) (hn : n < 9223372036854775808) (t : List UInt8) (ht : t ≠ []) (h : r.rest ++ t = numBytes n) : r.number.2.e = 5 := by
  obtain ⟨c, hc, hcl⟩ := numBytes_cons n hn
  have h8 := digits_le 8 n (by omega)
  rw [hc] at h
  have htp : 0 < t.length := List.length_pos_iff.2 ht
  rcases hl : r.rest with _ | ⟨x, l⟩
  · have h1 : r.take 1 = (⟨#[]⟩, ⟨r.s, r.p, 5⟩) := RS.take_short r he 1 (by rw [hl]; simp)
    unfold RS.number
    rw [h1]; rfl
  · rw [hl] at h
    injection h with hx hlt
    subst hx
    have h1 : r.take 1 = (⟨#[x]⟩, ⟨r.s, r.p + 1, 0⟩) := by rw [RS.take_ok r he 1 (by rw [hl]; simp), hl]; rfl
    have hr : (RS.mk r.s (r.p + 1) 0).rest = l := by
      rw [RS.rest_step]; show r.rest.drop 1 = _; rw [hl]; rfl
    have h2 : (RS.mk r.s (r.p + 1) 0).take x.toNat = (⟨#[]⟩, ⟨r.s, r.p + 1, 5⟩) := by
      have h3 := congrArg List.length hlt
      rw [show l.append t = l ++ t from rfl, List.length_append] at h3
      exact RS.take_short _ rfl _ (by rw [hr]; omega)
    unfold RS.number
    rw [h1]
    have hb0 : byte0 ⟨#[x]⟩ = x.toNat := rfl
    simp only [hb0]
    rw [if_neg (by show ¬ (1 = 0); omega), if_neg (by omega), h2]
    rfl

/-- The bytes of a text. -/
def textBytes (s : ByteArray) : List UInt8 := numBytes s.size ++ s.data.toList
theorem RS.text_reads (r : RS) (he : r.e = 0) (s : ByteArray) (hs : s.size ≤ 65536) (t : List UInt8) (h : r.rest = textBytes s ++ t) : r.text = (s, ⟨r.s, r.p + (textBytes s).length, 0⟩) := by
  unfold textBytes at h ⊢
  rw [List.append_assoc] at h
  have h1 := RS.number_reads r he s.size (by omega) _ h
  have hr : (RS.mk r.s (r.p + (numBytes s.size).length) 0).rest = s.data.toList ++ t := by
    rw [RS.rest_step]; show r.rest.drop _ = _; rw [h, List.drop_left]
  have h2 : (RS.mk r.s (r.p + (numBytes s.size).length) 0).take s.size = (⟨(s.data.toList).toArray⟩, ⟨r.s, r.p + (numBytes s.size).length + s.size, 0⟩) := by
    rw [RS.take_ok _ rfl _ (by rw [hr, List.length_append, ← size_eq]; omega), hr, size_eq, List.take_left]
  unfold RS.text RS.big
  rw [h1]
  simp only []
  rw [if_neg (by omega), h2, List.length_append, ← size_eq, Nat.add_assoc]
theorem RS.text_short (r : RS) (he : r.e = 0) (s : ByteArray) (hs : s.size ≤ 65536) (t : List UInt8) (ht : t ≠ []) (h : r.rest ++ t = textBytes s) : r.text.2.e = 5 := by
  unfold textBytes at h
  have htp : 0 < t.length := List.length_pos_iff.2 ht
  rcases Nat.lt_or_ge r.rest.length (numBytes s.size).length with hlt | hge
  · -- within the length
    have hx : r.rest ++ (numBytes s.size).drop r.rest.length = numBytes s.size := by
      have h1 := congrArg (List.take r.rest.length) h
      rw [List.take_left, List.take_append_of_le_length (by omega)] at h1
      rw [h1, List.length_take, Nat.min_eq_left (by omega)]
      exact List.take_append_drop _ _
    have h1 := RS.number_short r he s.size (by omega) _ (by intro e; have := congrArg List.length e; rw [List.length_drop] at this; simp at this; omega) hx
    unfold RS.text RS.big
    rw [if_neg (by rw [h1]; simp), RS.take_bad _ (by rw [h1]; simp)]
    exact h1
  · have hx : r.rest = numBytes s.size ++ r.rest.drop (numBytes s.size).length := by
      have h1 := congrArg (List.take (numBytes s.size).length) h
      rw [List.take_left, List.take_append_of_le_length hge] at h1
      rw [← h1, List.length_take, Nat.min_eq_left hge]
      exact (List.take_append_drop _ _).symm
    have h1 := RS.number_reads r he s.size (by omega) _ hx
    have hr : (RS.mk r.s (r.p + (numBytes s.size).length) 0).rest = r.rest.drop (numBytes s.size).length := RS.rest_step _ _ _ _
    have h2 : (RS.mk r.s (r.p + (numBytes s.size).length) 0).take s.size = (⟨#[]⟩, ⟨r.s, r.p + (numBytes s.size).length, 5⟩) := by
      refine RS.take_short _ rfl _ ?_
      have h3 := congrArg List.length h
      rw [List.length_append, List.length_append, ← size_eq] at h3
      rw [hr, List.length_drop]; omega
    unfold RS.text RS.big
    rw [h1]
    simp only []
    rw [if_neg (by omega), h2]
/-- A number and a text, cut short. -/
theorem cut_reads (n : Nat) (hn : n < 9223372036854775808) (s : ByteArray) (hs : s.size ≤ 65536) (r : RS) (he : r.e = 0) (t : List UInt8) (ht : t ≠ []) (h : r.rest ++ t = numBytes n ++ textBytes s) : r.number.2.text.2.e = 5 := by
  have htp : 0 < t.length := List.length_pos_iff.2 ht
  rcases Nat.lt_or_ge r.rest.length (numBytes n).length with hlt | hge
  · have hx : r.rest ++ (numBytes n).drop r.rest.length = numBytes n := by
      have h1 := congrArg (List.take r.rest.length) h
      rw [List.take_left, List.take_append_of_le_length (by omega)] at h1
      rw [h1, List.length_take, Nat.min_eq_left (by omega)]
      exact List.take_append_drop _ _
    have h1 := RS.number_short r he n hn _ (by intro e; have := congrArg List.length e; rw [List.length_drop] at this; simp at this; omega) hx
    rw [RS.text_bad _ (by rw [h1]; simp)]
    exact h1
  · have hx : r.rest = numBytes n ++ r.rest.drop (numBytes n).length := by
      have h1 := congrArg (List.take (numBytes n).length) h
      rw [List.take_left, List.take_append_of_le_length hge] at h1
      rw [← h1, List.length_take, Nat.min_eq_left hge]
      exact (List.take_append_drop _ _).symm
    rw [RS.number_reads r he n hn _ hx]
    have hr : (RS.mk r.s (r.p + (numBytes n).length) 0).rest = r.rest.drop (numBytes n).length := RS.rest_step _ _ _ _
    refine RS.text_short _ rfl s hs t ht ?_
    rw [hr]
    have h1 := congrArg (List.drop (numBytes n).length) h
    rwa [List.drop_left, List.drop_append_of_le_length hge] at h1
theorem RS.done_of (r : RS) (h : r.e = 5) : r.done = 5 := by unfold RS.done; rw [if_neg (by rw [h]; simp), h]
end Go.Proofs.Ytcnkmfmdadmaaaa
