/- law02.few and ref02's Open, Fail, Take by rules. -/
import Derived.Test.YtdpljpnnjgefoaaKR2Z
import Derived.Test.YtdpljpnnjgefoaaV15
import Derived.Test.YtdpljpnnjgefoaaKWZ
set_option maxHeartbeats 4000000
namespace Go.Proofs.Ytdpljpnnjgefoaa
open Go Go.RowKit

end Go.Proofs.Ytdpljpnnjgefoaa
set_option maxHeartbeats 8000000
namespace Go.Proofs.Ytdpljpnnjgefoaa
open Go Go.RowKit

end Go.Proofs.Ytdpljpnnjgefoaa
set_option maxHeartbeats 16000000
namespace Go.Proofs.Ytdpljpnnjgefoaa
open Go Go.RowKit

end Go.Proofs.Ytdpljpnnjgefoaa
set_option maxHeartbeats 16000000
namespace Go.Proofs.Ytdpljpnnjgefoaa
open Go Go.RowKit

def RS.label (r : RS) : List UInt8 × RS := ((r.take 32).1 ++ List.replicate (32 - (r.take 32).1.length) 0, (r.take 32).2)
end Go.Proofs.Ytdpljpnnjgefoaa
namespace Go.Proofs.Ytdpljpnnjgefoaa
open Go Go.RowKit

structure Thg where
  k : Int
  n : Int
  s : List UInt8
  l : List UInt8
def thA (t : Thg) : AV := .agg [.i .i64 t.k, .i .i64 t.n, .s t.s, labA t.l]
def RS.rest (r : RS) : List UInt8 := r.s.drop r.p
theorem RS.rest_len (r : RS) : r.rest.length = r.s.length - r.p := by unfold RS.rest; rw [List.length_drop]
theorem RS.take_ok (r : RS) (he : r.e = 0) (n : Nat) (h : n ≤ r.rest.length) : r.take n = (r.rest.take n, ⟨r.s, r.p + n, 0⟩) := by
  rw [RS.rest_len] at h
  unfold RS.take RS.rest
  rw [if_neg (by simpa using he), if_neg (by omega)]
theorem RS.rest_step (s : List UInt8) (p n : Nat) (e : Int) : (RS.mk s (p + n) e).rest = (RS.mk s p 0).rest.drop n := by unfold RS.rest; rw [List.drop_drop]
theorem be_digits (n : Nat) : be (digits n) = n := by
  induction n using Nat.strongRecOn with
  | _ n ih =>
    by_cases h : n = 0
    · subst h; rw [digits_zero]; rfl
    · rw [digits_pos h, be_snoc, ih (n / 256) (by omega), UInt8.toNat_ofNat']; omega
theorem digits_head (n : Nat) (h : n ≠ 0) : ∃ c l, digits n = c :: l ∧ c.toNat ≠ 0 := by
  induction n using Nat.strongRecOn with
  | _ n ih =>
    rw [digits_pos h]
    by_cases h0 : n / 256 = 0
    · rw [h0, digits_zero]; exact ⟨_, [], rfl, by rw [UInt8.toNat_ofNat']; omega⟩
    · obtain ⟨c, l, e, hc⟩ := ih (n / 256) (by omega) h0
      rw [e]; exact ⟨c, l ++ [_], rfl, hc⟩
theorem be_ge (c : UInt8) (l : List UInt8) : c.toNat * 256 ^ l.length ≤ be (c :: l) := by
  rw [be_cons]; omega
theorem badNum_digits (n : Nat) (hn : n < 9223372036854775808) : badNum (digits n).length (digits n) = false := by
  by_cases h : n = 0
  · subst h; rw [digits_zero]; rfl
  · obtain ⟨c, l, e, hc⟩ := digits_head n h
    have hb := be_ge c l
    rw [← e, be_digits] at hb
    rw [e]
    unfold badNum
    simp only [Bool.or_eq_false_iff, beq_eq_false_iff_ne, Bool.and_eq_false_imp, beq_iff_eq, decide_eq_false_iff_not, Nat.not_lt]
    refine ⟨hc, fun h8 => ?_⟩
    have hl : l.length = 7 := by simp at h8; omega
    rw [hl] at hb
    omega
theorem numBytes_cons (n : Nat) (hn : n < 9223372036854775808) : ∃ c, numBytes n = c :: digits n ∧ c.toNat = (digits n).length := ⟨_, rfl, by
  have := digits_le 8 n (by omega)
  rw [UInt8.toNat_ofNat']; omega⟩
theorem RS.number_reads (r : RS) (he : r.e = 0) (n : Nat) (hn : n < 9223372036854775808) (t : List UInt8) (h : r.rest = numBytes n ++ t) : r.number = (n, ⟨r.s, r.p + (numBytes n).length, 0⟩) := by
  obtain ⟨c, hc, hcl⟩ := numBytes_cons n hn
  have h8 := digits_le 8 n (by omega)
  rw [hc] at h
  have h1 : r.take 1 = ([c], ⟨r.s, r.p + 1, 0⟩) := by rw [RS.take_ok r he 1 (by rw [h]; simp), h]; rfl
  have hr : (RS.mk r.s (r.p + 1) 0).rest = digits n ++ t := by
    rw [RS.rest_step]; show r.rest.drop 1 = _; rw [h]; rfl
  have h2 : (RS.mk r.s (r.p + 1) 0).take c.toNat = (digits n, ⟨r.s, r.p + 1 + (digits n).length, 0⟩) := by
    rw [hcl, RS.take_ok _ rfl _ (by rw [hr]; simp), hr, List.take_left]
  unfold RS.number
  rw [h1]
  have hb0 : hd0 [c] = c.toNat := rfl
  simp only [hb0]
  rw [if_neg (by simp), if_neg (by omega), h2]
  simp only []
  rw [if_neg (by rw [hcl, badNum_digits n hn]; simp), be_digits, hc, List.length_cons]
  rw [show r.p + 1 + (digits n).length = r.p + ((digits n).length + 1) by omega]
def textBytes (s : List UInt8) : List UInt8 := numBytes s.length ++ s
theorem RS.text_reads (r : RS) (he : r.e = 0) (s : List UInt8) (hs : s.length ≤ 65536) (t : List UInt8) (h : r.rest = textBytes s ++ t) : r.text = (s, ⟨r.s, r.p + (textBytes s).length, 0⟩) := by
  unfold textBytes at h ⊢
  rw [List.append_assoc] at h
  have h1 := RS.number_reads r he s.length (by omega) _ h
  have hr : (RS.mk r.s (r.p + (numBytes s.length).length) 0).rest = s ++ t := by
    rw [RS.rest_step]; show r.rest.drop _ = _; rw [h, List.drop_left]
  have h2 : (RS.mk r.s (r.p + (numBytes s.length).length) 0).take s.length = (s, ⟨r.s, r.p + (numBytes s.length).length + s.length, 0⟩) := by
    rw [RS.take_ok _ rfl _ (by rw [hr, List.length_append]; omega), hr, List.take_left]
  unfold RS.text RS.big
  rw [h1]
  simp only []
  rw [if_neg (by omega), h2, List.length_append, Nat.add_assoc]
theorem RS.flag_reads (r : RS) (he : r.e = 0) (c : Bool) (t : List UInt8) (h : r.rest = (if c then 1 else 0) :: t) : r.flag = (c, ⟨r.s, r.p + 1, 0⟩) := by
  unfold RS.flag
  rw [RS.take_ok r he 1 (by rw [h]; simp), h]
  cases c <;> rfl
/-! One spelling. -/
/-- The bytes of a thing. -/
def tBytes (t : Thg) : List UInt8 := if t.k = 1 then numBytes t.n.toNat else if t.k = 2 then textBytes t.s else if t.k = 3 then t.l else if t.k = 4 then [if 0 < t.n then 1 else 0] else []
def WS.thing (w : WS) (t : Thg) : WS := if t.k = 1 then w.number t.n else if t.k = 2 then w.text t.s else if t.k = 3 then w.put t.l else if t.k = 4 then w.put [if 0 < t.n then 1 else 0] else w
def WS.things (w : WS) (l : List Thg) : WS := l.foldl WS.thing w
/-- What is written without a fault. -/
def tOk (t : Thg) : Prop := (t.k = 1 → 0 ≤ t.n) ∧ (t.k = 2 → t.s.length ≤ 65536)
end Go.Proofs.Ytdpljpnnjgefoaa
