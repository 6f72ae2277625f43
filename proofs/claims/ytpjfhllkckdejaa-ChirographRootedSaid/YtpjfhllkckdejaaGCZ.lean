/- Trees of rising items: where they part, and their prefixes. No program in sight. -/
import Derived.Test.YtpjfhllkckdejaaSI7Z
import Derived.Test.YtpjfhllkckdejaaG6Z
import Derived.Test.YtpjfhllkckdejaaSA4
import Derived.Test.YtpjfhllkckdejaaV26Z
set_option maxHeartbeats 4000000
namespace Go.Proofs.Ytpjfhllkckdejaa
open Go Go.RowKit
theorem clr_test (c : UInt8) (k p : Nat) (_hk : k ≤ 8) (_hp : p < 8) : (clr c k).toNat.testBit p = (decide (8 - k ≤ p) && c.toNat.testBit p) := by
  have hl : c.toNat / 2 ^ (8 - k) * 2 ^ (8 - k) < 256 := Nat.lt_of_le_of_lt (Nat.div_mul_le_self _ _) c.toNat_lt
  have : (clr c k).toNat = c.toNat / 2 ^ (8 - k) * 2 ^ (8 - k) := by
    unfold clr
    rw [UInt8.toNat_ofNat']
    exact Nat.mod_eq_of_lt hl
  rw [this, Nat.testBit_mul_two_pow]
  by_cases h : 8 - k ≤ p
  · rw [decide_eq_true h, Nat.testBit_div_two_pow]
    congr 2; omega
  · rw [decide_eq_false h]; rfl
theorem bitL_def (l : List UInt8) (i : Nat) : bitL l i = ((l.getD (i / 8) 0).toNat.testBit (7 - i % 8)).toNat := bitL_test _ _
theorem cut_bit (l : List UInt8) (hl : l.length = 32) (n i : Nat) (hn : n ≤ 256) : bitL (cutL l n) i = if i < n then bitL l i else 0 := by
  have hp : ∀ j, (cutP l n).getD j 0 = if j < n / 8 then l.getD j 0 else 0 := fun j => by
    unfold cutP
    rw [List.getD_eq_getElem?_getD, List.getElem?_append, List.length_take, List.getElem?_take, List.getElem?_replicate]
    by_cases hj : j < n / 8
    · rw [if_pos hj, if_pos (by omega), if_pos hj, List.getD_eq_getElem?_getD]
    · rw [if_neg hj, if_neg (by omega)]
      split <;> rfl
  rw [bitL_def, bitL_def]
  unfold cutL
  by_cases h8 : n % 8 = 0
  · rw [if_pos h8, hp]
    by_cases hi : i < n
    · rw [if_pos hi, if_pos (by omega)]
    · rw [if_neg hi, if_neg (by omega)]
      show (Nat.testBit 0 _).toNat = 0
      rw [Nat.zero_testBit]; rfl
  · rw [if_neg h8]
    have hs : ((cutP l n).set (n / 8) (clr (l.getD (n / 8) 0) (n % 8))).getD (i / 8) 0 = if i / 8 = n / 8 then clr (l.getD (n / 8) 0) (n % 8) else (cutP l n).getD (i / 8) 0 := by
      rw [List.getD_eq_getElem?_getD, List.getElem?_set, List.getD_eq_getElem?_getD]
      have hlen := cutP_len l n hl hn
      by_cases he : n / 8 = i / 8
      · rw [if_pos he, if_pos he.symm, if_pos (by omega)]; rfl
      · rw [if_neg he, if_neg (fun h => he h.symm), List.getD_eq_getElem?_getD]
    rw [hs]
    by_cases he : i / 8 = n / 8
    · rw [if_pos he, clr_test _ _ _ (by omega) (by omega), he]
      by_cases hi : i < n
      · rw [if_pos hi, decide_eq_true (by omega), Bool.true_and]
      · rw [if_neg hi, decide_eq_false (by omega)]; rfl
    · rw [if_neg he, hp]
      by_cases hi : i < n
      · rw [if_pos hi, if_pos (by omega)]
      · rw [if_neg hi, if_neg (by omega)]
        show (Nat.testBit 0 _).toNat = 0
        rw [Nat.zero_testBit]; rfl
theorem cut_eq {a b : List UInt8} (ha : a.length = 32) (hb : b.length = 32) {n : Nat} (hn : n ≤ 256) (h : ∀ i, i < n → bitL a i = bitL b i) : cutL a n = cutL b n :=
  bits_eq (cutL_len _ _ ha hn) (cutL_len _ _ hb hn) (fun i _ => by
    rw [cut_bit a ha n i hn, cut_bit b hb n i hn]
    by_cases hi : i < n
    · rw [if_pos hi, if_pos hi, h i hi]
    · rw [if_neg hi, if_neg hi])
/-- What lies between two has their common bits. -/
theorem between {a b c : List UInt8} (ha : a.length = 32) (hb : b.length = 32) (hc : c.length = 32) (h : cmpS a b < 0) (k : cmpS b c < 0) : ∀ i, i < comL a c → bitL b i = bitL a i := by
  obtain ⟨a1, a2, a3⟩ := cmp_lt ha hb h
  obtain ⟨b1, b2, b3⟩ := cmp_lt hb hc k
  have hac := (com_bits a c (by omega)).2.1
  have hab := (com_bits a b (by omega)).2.1
  have hbc := (com_bits b c (by omega)).2.1
  have hge : comL a c ≤ comL a b := by
    rcases Nat.lt_or_ge (comL a b) (comL a c) with hlt | hge
    · exfalso
      have e1 := hac _ hlt
      rcases Nat.lt_trichotomy (comL a b) (comL b c) with h1 | h1 | h1
      · have e2 := hbc _ h1
        rw [a2] at e1; rw [a3, ← e1] at e2; cases e2
      · rw [← h1] at b2; rw [a3] at b2; cases b2
      · have e3 := hab _ h1
        have e4 := hac _ (Nat.lt_trans h1 hlt)
        rw [b2] at e3; rw [e3, b3] at e4; cases e4
    · exact hge
  exact fun i hi => (hab i (Nat.lt_of_lt_of_le hi hge)).symm
theorem frk_eq {l : List Itm} (h : 0 < l.length) : frkI l = comL l[0].l (l[l.length - 1]'(by omega)).l := by unfold frkI; rw [headD_get h, lastD_get h]
theorem rise_bits {l : List Itm} (hr : RiseI l) (hok : ∀ x ∈ l, x.ok) (h0 : 0 < l.length) (j : Nat) (hj : j < l.length) : ∀ i, i < frkI l → bitL l[j].l i = bitL l[0].l i := by
  intro i hi
  rw [frk_eq h0] at hi
  have o0 := (hok _ (List.getElem_mem h0)).1
  have oj := (hok _ (List.getElem_mem hj)).1
  have ol := (hok _ (List.getElem_mem (show l.length - 1 < l.length by omega))).1
  rcases Nat.eq_zero_or_pos j with rfl | hp
  · rfl
  · rcases Nat.lt_or_ge j (l.length - 1) with h1 | h1
    · exact between o0 oj ol (rise_lt hr hp hj) (rise_lt hr h1 (by omega)) i hi
    · have : j = l.length - 1 := by omega
      subst this
      exact ((com_bits _ _ (by omega)).2.1 i hi).symm
theorem spl_lo {l : List Itm} (j : Nat) (hj : j < splI l) (hl : j < l.length) : bitL l[j].l (frkI l) = 0 := by
  have hj : j < l.findIdx (fun x : Itm => bitL x.l (frkI l) == 1) := hj
  have h := List.not_of_lt_findIdx hj
  rcases bitL_or l[j].l (frkI l) with h1 | h1
  · exact h1
  · rw [h1] at h; exact absurd h (by decide)
theorem spl_hi {l : List Itm} (hr : RiseI l) (hok : ∀ x ∈ l, x.ok) (h2 : 2 ≤ l.length) (j : Nat) (hj : splI l ≤ j) (hl : j < l.length) : bitL l[j].l (frkI l) = 1 := by
  obtain ⟨c1, c2, c3, c4⟩ := spl_ok hr hok h2
  have hs : bitL (l[splI l]'c3).l (frkI l) = 1 := by
    have c5 : l.findIdx (fun x : Itm => bitL x.l (frkI l) == 1) < l.length := c3
    have h6 := List.findIdx_getElem (w := c5)
    exact beq_iff_eq.1 h6
  rcases Nat.eq_or_lt_of_le hj with rfl | hlt
  · exact hs
  · have hc := rise_lt hr hlt hl
    obtain ⟨d1, d2, d3⟩ := cmp_lt (hok _ (List.getElem_mem c3)).1 (hok _ (List.getElem_mem hl)).1 hc
    have hge : frkI l ≤ comL (l[splI l]'c3).l l[j].l := (com_ge (hok _ (List.getElem_mem c3)).1 (hok _ (List.getElem_mem hl)).1 (by omega)).2 (fun i hi => by
      rw [rise_bits hr hok (by omega) _ c3 i hi, rise_bits hr hok (by omega) _ hl i hi])
    rcases Nat.eq_or_lt_of_le hge with he | hlt2
    · rw [← he] at d2; rw [hs] at d2; cases d2
    · rw [← (com_bits _ _ (by rw [(hok _ (List.getElem_mem c3)).1, (hok _ (List.getElem_mem hl)).1])).2.1 _ hlt2]; exact hs
theorem com_is {a b : List UInt8} (ha : a.length = 32) (hb : b.length = 32) {n : Nat} (hn : n < 256) (h : ∀ i, i < n → bitL a i = bitL b i) (hd : bitL a n ≠ bitL b n) : comL a b = n := by
  have h1 := (com_ge ha hb (Nat.le_of_lt hn)).2 h
  rcases Nat.eq_or_lt_of_le h1 with he | hlt
  · exact he.symm
  · exact absurd ((com_bits a b (by omega)).2.1 _ hlt) hd
end Go.Proofs.Ytpjfhllkckdejaa
set_option maxHeartbeats 8000000
set_option maxRecDepth 100000
namespace Go.Proofs.Ytpjfhllkckdejaa
open Go Go.RowKit
def bitOn (l : List UInt8) (i : Nat) : List UInt8 := l.set (i / 8) (UInt8.ofNat ((l.getD (i / 8) 0).toNat + 2 ^ (7 - i % 8)))
end Go.Proofs.Ytpjfhllkckdejaa
set_option maxHeartbeats 8000000
set_option maxRecDepth 100000
namespace Go.Proofs.Ytpjfhllkckdejaa
open Go Go.RowKit
end Go.Proofs.Ytpjfhllkckdejaa
set_option maxHeartbeats 4000000
namespace Go.Proofs.Ytpjfhllkckdejaa
open Go Go.RowKit
def okW (x : Int) : Prop := 0 ≤ x ∧ x < 4294967296
def bvW (x : Int) : BitVec 32 := BitVec.ofInt 32 x
def ivW (v : BitVec 32) : Int := ((v.toNat : Nat) : Int)
def be4R (a b c d : UInt8) : Int := w32 (w32 (w32 (shl32 (w32 (w32 (a.toNat : Int) * 1)) 24 + shl32 (w32 (w32 (b.toNat : Int) * 1)) 16) + shl32 (w32 (w32 (c.toNat : Int) * 1)) 8) + w32 (d.toNat : Int))
def rnR (v : V8) (k w : Int) : V8 :=
  let p := w32 (w32 (w32 (w32 (v.h + xorI (xorI (rotr v.e 6) (rotr v.e 11)) (rotr v.e 25)) + orI (andI v.e v.f) (andI (w32 (4294967295 - v.e)) v.g)) + k) + w)
  ⟨w32 (w32 (p + xorI (xorI (rotr v.a 2) (rotr v.a 13)) (rotr v.a 22)) + orI (orI (andI v.a v.b) (andI v.a v.c)) (andI v.b v.c)), v.a, v.b, v.c, w32 (v.d + p), v.e, v.f, v.g⟩
def V8.okE (v : V8) : Prop := okW v.e ∧ okW v.d ∧ okW v.c ∧ okW v.b ∧ okW v.a
structure V8.ok (v : V8) : Prop where
  a : okW v.a
  b : okW v.b
  c : okW v.c
  d : okW v.d
  e : okW v.e
end Go.Proofs.Ytpjfhllkckdejaa
set_option maxHeartbeats 16000000
set_option maxRecDepth 100000
namespace Go.Proofs.Ytpjfhllkckdejaa
open Go Go.RowKit
section
variable {m : OM} {P : Program} {T : List (Nat × TI)} {C : Ctx} {ops : Array Oper} {l : List Oper} {K : St → Prop} {n : Nat} {sl : List (Nat × AV)} {hp : List (Nat × HO)} {d : Nat} {ty : Nat} {pos : String} {aft : Array Edge} {gd : Option (Nat × Bool)}
end
end Go.Proofs.Ytpjfhllkckdejaa
set_option maxHeartbeats 16000000
set_option maxRecDepth 100000
namespace Go.Proofs.Ytpjfhllkckdejaa
open Go Go.RowKit
end Go.Proofs.Ytpjfhllkckdejaa
set_option maxHeartbeats 32000000
set_option maxRecDepth 100000
namespace Go.Proofs.Ytpjfhllkckdejaa
open Go Go.RowKit
end Go.Proofs.Ytpjfhllkckdejaa
set_option maxHeartbeats 8000000
set_option maxRecDepth 100000
namespace Go.Proofs.Ytpjfhllkckdejaa
open Go Go.RowKit
/-- An item as the document's. -/
def Itm.R (x : Itm) : AV := .agg [.i .i64 x.n, labA x.l, labA x.s, .i .i64 x.t]
def egt (U : Nat) : Nat → List UInt8
  | 0 => []
  | i + 1 => UInt8.ofNat (U / 256 ^ i % 256) :: egt U i
def u64N (n : Int) : Nat := (IntKind.u64.wrap n).toNat
def overR (a b : Itm) : Bool := decide (a.n ≤ b.n) && decide ((comL a.l b.l : Nat) ≥ a.n)
end Go.Proofs.Ytpjfhllkckdejaa
set_option maxHeartbeats 8000000
set_option maxRecDepth 100000
namespace Go.Proofs.Ytpjfhllkckdejaa
open Go Go.RowKit
theorem com_mono {a b c : List UInt8} (ha : a.length = 32) (hb : b.length = 32) (hc : c.length = 32) (h : cmpS a b < 0) (k : cmpS b c < 0) : comL a c ≤ comL a b :=
  (com_ge ha hb (comL_256 ha)).2 (fun i hi => (between ha hb hc h k i hi).symm)
/-- The least that is in common with the first one, of so many. -/
def minC (l : List Itm) (i : Nat) : Nat := if i = 0 then 256 else comL (l.headD default).l ((l.getD (i - 1) default).l)
theorem filt_lo {l : List Itm} (hr : RiseI l) (hok : ∀ x ∈ l, x.ok) (h2 : 2 ≤ l.length) : l.filter (fun x => bitL x.l (frkI l) == 0) = l.take (splI l) ∧ l.filter (fun x => !(bitL x.l (frkI l) == 0)) = l.drop (splI l) := by
  obtain ⟨c1, c2, c3, c4⟩ := spl_ok hr hok h2
  have hlo : ∀ x ∈ l.take (splI l), bitL x.l (frkI l) = 0 := fun x hx => by
    obtain ⟨j, hj, rfl⟩ := List.getElem_of_mem hx
    rw [List.length_take] at hj
    rw [List.getElem_take]
    exact spl_lo j (by omega) (by omega)
  have hhi : ∀ x ∈ l.drop (splI l), bitL x.l (frkI l) = 1 := fun x hx => by
    obtain ⟨j, hj, rfl⟩ := List.getElem_of_mem hx
    rw [List.length_drop] at hj
    rw [List.getElem_drop]
    exact spl_hi hr hok h2 _ (by omega) (by omega)
  generalize frkI l = n at *
  generalize splI l = s at *
  have e : l = l.take s ++ l.drop s := (List.take_append_drop s l).symm
  constructor
  · conv => lhs; rw [e]
    rw [List.filter_append, List.filter_eq_self.2 (fun x hx => by rw [hlo x hx]; rfl), List.filter_eq_nil_iff.2 (fun x hx => by rw [hhi x hx]; decide), List.append_nil]
  · conv => lhs; rw [e]
    rw [List.filter_append, List.filter_eq_nil_iff.2 (fun x hx => by rw [hlo x hx]; decide), List.filter_eq_self.2 (fun x hx => by rw [hhi x hx]; rfl), List.nil_append]
end Go.Proofs.Ytpjfhllkckdejaa
set_option maxHeartbeats 4000000
namespace Go.Proofs.Ytpjfhllkckdejaa
open Go Go.RowKit
theorem perm_short {α : Type} {a b : List α} (h : a.Perm b) (hl : b.length ≤ 1) : a = b := by
  match b, hl with
  | [], _ => exact List.perm_nil.1 h
  | [x], _ => exact List.perm_singleton.1 h
end Go.Proofs.Ytpjfhllkckdejaa
set_option maxHeartbeats 4000000
namespace Go.Proofs.Ytpjfhllkckdejaa
open Go Go.RowKit
def lo (d : Nat) (l : List Itm) : List Itm := l.filter (fun x => bitL x.l d == 0)
def hi (d : Nat) (l : List Itm) : List Itm := l.filter (fun x => !(bitL x.l d == 0))
def trJ : Nat → Nat → List Itm → Itm
  | 0, _, l => if l.length ≤ 1 then l.headD default else default
  | f + 1, d, l => if l.length ≤ 1 then l.headD default else if lo d l = [] then trJ f (d + 1) l else if hi d l = [] then trJ f (d + 1) l else innI (trJ f (d + 1) (lo d l)) (trJ f (d + 1) (hi d l))
theorem perm_head {l l' : List Itm} (h : l.Perm l') (h1 : l.length ≤ 1) : l.headD default = l'.headD default := by
  rw [perm_short h (by rw [← h.length_eq]; exact h1)]
theorem perm_nil_iff {l l' : List Itm} (h : l.Perm l') : l = [] ↔ l' = [] := ⟨fun e => by subst e; exact List.perm_nil.1 h.symm, fun e => by subst e; exact List.perm_nil.1 h⟩
theorem trJ_perm : ∀ (f d : Nat) (l l' : List Itm), l.Perm l' → trJ f d l = trJ f d l'
  | 0, d, l, l', h => by
    unfold trJ
    rw [← h.length_eq]
    split
    · rename_i h1; exact perm_head h h1
    · rfl
  | f + 1, d, l, l', h => by
    have h0 : (lo d l).Perm (lo d l') := h.filter _
    have h1 : (hi d l).Perm (hi d l') := h.filter _
    unfold trJ
    rw [← h.length_eq]
    split
    · rename_i h1; exact perm_head h h1
    · by_cases e0 : lo d l = []
      · rw [if_pos e0, if_pos ((perm_nil_iff h0).1 e0)]; exact trJ_perm f _ _ _ h
      · rw [if_neg e0, if_neg (fun e => e0 ((perm_nil_iff h0).2 e))]
        by_cases e1 : hi d l = []
        · rw [if_pos e1, if_pos ((perm_nil_iff h1).1 e1)]; exact trJ_perm f _ _ _ h
        · rw [if_neg e1, if_neg (fun e => e1 ((perm_nil_iff h1).2 e)), trJ_perm f _ _ _ h0, trJ_perm f _ _ _ h1]
theorem joinF_fuel : ∀ (k k' : Nat) (l : List Itm), l ≠ [] → l.length ≤ k → l.length ≤ k' → RiseI l → (∀ x ∈ l, x.ok) → joinF k l = joinF k' l
  | 0, _, l, hn, hk, _, _, _ => absurd (List.length_eq_zero_iff.1 (by omega)) hn
  | _ + 1, 0, l, hn, _, hk, _, _ => absurd (List.length_eq_zero_iff.1 (by omega)) hn
  | k + 1, k' + 1, l, hn, h1, h2, hr, hok => by
    unfold joinF
    by_cases hl : l.length = 1
    · rw [if_pos hl, if_pos hl]
    rw [if_neg hl, if_neg hl]
    have hp : 0 < l.length := List.length_pos_iff.2 hn
    obtain ⟨_, s1, s2, _⟩ := spl_ok hr hok (by omega)
    rw [joinF_fuel k k' _ (take_ne s1 s2) (by rw [List.length_take]; omega) (by rw [List.length_take]; omega) (hr.sublist (List.take_sublist ..)) (fun x hx => hok x (List.mem_of_mem_take hx)),
      joinF_fuel k k' _ (drop_ne s2) (by rw [List.length_drop]; omega) (by rw [List.length_drop]; omega) (hr.sublist (List.drop_sublist ..)) (fun x hx => hok x (List.mem_of_mem_drop hx))]
theorem frk_ge {l : List Itm} (hok : ∀ x ∈ l, x.ok) (h0 : 0 < l.length) {d : Nat} (hd : d ≤ 256) (h : ∀ x ∈ l, ∀ i, i < d → bitL x.l i = bitL l[0].l i) : d ≤ frkI l := by
  rw [frk_eq h0]
  have hm := List.getElem_mem (show l.length - 1 < l.length by omega)
  exact (com_ge (hok _ (List.getElem_mem h0)).1 (hok _ hm).1 hd).2 (fun i hi => (h _ hm i hi).symm)
theorem all_lo {l : List Itm} {d : Nat} (h : ∀ x ∈ l, bitL x.l d = 0) : lo d l = l ∧ hi d l = [] :=
  ⟨List.filter_eq_self.2 (fun x hx => by rw [h x hx]; rfl), List.filter_eq_nil_iff.2 (fun x hx => by rw [h x hx]; decide)⟩
theorem all_hi {l : List Itm} {d : Nat} (h : ∀ x ∈ l, bitL x.l d = 1) : hi d l = l ∧ lo d l = [] :=
  ⟨List.filter_eq_self.2 (fun x hx => by rw [h x hx]; rfl), List.filter_eq_nil_iff.2 (fun x hx => by rw [h x hx]; decide)⟩
theorem trJ_join : ∀ (f d : Nat) (l : List Itm) (h0 : 0 < l.length), d + f = 256 → RiseI l → (∀ x ∈ l, x.ok) → (∀ x ∈ l, ∀ i, i < d → bitL x.l i = bitL l[0].l i) → trJ f d l = joinF l.length l
  | 0, d, l, h0, hd, hr, hok, hb => by
    have hf := frk_ge hok h0 (d := d) (by omega) hb
    have h1 : l.length ≤ 1 := by
      rcases Nat.lt_or_ge 1 l.length with h | h
      · have := (spl_ok hr hok (by omega)).1; omega
      · exact h
    obtain ⟨k, hk⟩ : ∃ k, l.length = k + 1 := ⟨l.length - 1, by omega⟩
    unfold trJ
    rw [if_pos h1, hk]
    unfold joinF
    rw [if_pos (by omega)]
  | f + 1, d, l, h0, hd, hr, hok, hb => by
    obtain ⟨k, hk⟩ : ∃ k, l.length = k + 1 := ⟨l.length - 1, by omega⟩
    by_cases h1 : l.length ≤ 1
    · unfold trJ
      rw [if_pos h1, hk]
      unfold joinF
      rw [if_pos (by omega)]
    have hf := frk_ge hok h0 (d := d) (by omega) hb
    rcases Nat.eq_or_lt_of_le hf with he | hlt
    · obtain ⟨f1, f2⟩ := filt_lo hr hok (by omega)
      obtain ⟨c1, c2, c3, _⟩ := spl_ok hr hok (by omega)
      have hA : lo d l = l.take (splI l) := by unfold lo; rw [he]; exact f1
      have hB : hi d l = l.drop (splI l) := by unfold hi; rw [he]; exact f2
      have k1 : ∀ x ∈ l.take (splI l), x.ok := fun x hx => hok x (List.mem_of_mem_take hx)
      have k2 : ∀ x ∈ l.drop (splI l), x.ok := fun x hx => hok x (List.mem_of_mem_drop hx)
      have r1 : RiseI (l.take (splI l)) := hr.sublist (List.take_sublist ..)
      have r2 : RiseI (l.drop (splI l)) := hr.sublist (List.drop_sublist ..)
      have n1 := take_ne c2 c3
      have n2 := drop_ne c3
      have p1 : 0 < (l.take (splI l)).length := List.length_pos_iff.2 n1
      have p2 : 0 < (l.drop (splI l)).length := List.length_pos_iff.2 n2
      have bA : ∀ x ∈ l.take (splI l), bitL x.l d = 0 := fun x hx => by
        rw [← hA] at hx
        exact beq_iff_eq.1 (List.mem_filter.1 hx).2
      have bB : ∀ x ∈ l.drop (splI l), bitL x.l d = 1 := fun x hx => by
        rw [← hB] at hx
        have h2 := (List.mem_filter.1 hx).2
        rcases bitL_or x.l d with h3 | h3
        · rw [h3] at h2; exact absurd h2 (by decide)
        · exact h3
      have hbA : ∀ x ∈ l.take (splI l), ∀ i, i < d + 1 → bitL x.l i = bitL (l.take (splI l))[0].l i := fun x hx i hi => by
        rcases Nat.lt_or_ge i d with h3 | h3
        · rw [hb x (List.mem_of_mem_take hx) i h3, hb _ (List.mem_of_mem_take (List.getElem_mem p1)) i h3]
        · have : i = d := by omega
          subst this
          rw [bA x hx, bA _ (List.getElem_mem p1)]
      have hbB : ∀ x ∈ l.drop (splI l), ∀ i, i < d + 1 → bitL x.l i = bitL (l.drop (splI l))[0].l i := fun x hx i hi => by
        rcases Nat.lt_or_ge i d with h3 | h3
        · rw [hb x (List.mem_of_mem_drop hx) i h3, hb _ (List.mem_of_mem_drop (List.getElem_mem p2)) i h3]
        · have : i = d := by omega
          subst this
          rw [bB x hx, bB _ (List.getElem_mem p2)]
      unfold trJ
      rw [if_neg h1, hA, hB, if_neg n1, if_neg n2, trJ_join f (d + 1) _ p1 (by omega) r1 k1 hbA, trJ_join f (d + 1) _ p2 (by omega) r2 k2 hbB]
      have hj : joinF l.length l = innI (joinF k (l.take (splI l))) (joinF k (l.drop (splI l))) := by
        rw [hk]
        show (if l.length = 1 then _ else _) = _
        rw [if_neg (by omega)]
      rw [hj, joinF_fuel k _ _ n1 (by rw [List.length_take]; omega) (Nat.le_refl _) r1 k1, joinF_fuel k _ _ n2 (by rw [List.length_drop]; omega) (Nat.le_refl _) r2 k2]
    · have hsame : ∀ x ∈ l, bitL x.l d = bitL l[0].l d := fun x hx => by
        obtain ⟨j, hj, rfl⟩ := List.getElem_of_mem hx
        exact rise_bits hr hok h0 j hj d hlt
      have hb2 : ∀ x ∈ l, ∀ i, i < d + 1 → bitL x.l i = bitL l[0].l i := fun x hx i hi => by
        rcases Nat.lt_or_ge i d with h3 | h3
        · exact hb x hx i h3
        · have : i = d := by omega
          subst this; exact hsame x hx
      have ih := trJ_join f (d + 1) l h0 (by omega) hr hok hb2
      have hne : l ≠ [] := List.length_pos_iff.1 h0
      unfold trJ
      rw [if_neg h1]
      rcases bitL_or l[0].l d with h3 | h3
      · obtain ⟨e1, e2⟩ := all_lo (d := d) (fun x hx => by rw [hsame x hx, h3])
        rw [e1, if_neg hne, if_pos e2]; exact ih
      · obtain ⟨e1, e2⟩ := all_hi (d := d) (fun x hx => by rw [hsame x hx, h3])
        rw [if_pos e2]; exact ih
theorem app_ne {α : Type} {B X : List α} (h : B ≠ []) : B ++ X ≠ [] := fun e => h (List.append_eq_nil_iff.1 e).1
/-- A part in the place of what is below it. -/
theorem trJ_coll : ∀ (f d : Nat) (p : Itm) (B X : List Itm), d + f = 256 → p.n ≤ 256 → B ≠ [] → (∀ b ∈ B, ∀ i : Nat, (i : Int) < p.n → bitL b.l i = bitL p.l i) → (∀ f' d' : Nat, d' + f' = 256 → (d' : Int) ≤ p.n → trJ f' d' B = p) → (∀ x ∈ X, ∃ i : Nat, (i : Int) < p.n ∧ bitL x.l i ≠ bitL p.l i) → (∀ x ∈ X, ∀ i, i < d → bitL x.l i = bitL p.l i) → (d : Int) ≤ p.n → trJ f d (p :: X) = trJ f d (B ++ X)
  | f, d, p, B, [], hd, _, _, _, hB, _, _, hdn => by
    rw [List.append_nil, hB f d hd hdn]
    cases f <;> (unfold trJ; rw [if_pos (by simp)]; rfl)
  | 0, d, p, B, x :: X, hd, hp, _, _, _, hX, hag, _ => by
    obtain ⟨i, hi, hne⟩ := hX x (List.mem_cons_self ..)
    exact absurd (hag x (List.mem_cons_self ..) i (by omega)) hne
  | f + 1, d, p, B, x :: X, hd, hp, hBn, hBa, hB, hX, hag, hdn => by
    have hdp : (d : Int) < p.n := by
      obtain ⟨i, hi, hne⟩ := hX x (List.mem_cons_self ..)
      rcases Nat.lt_or_ge i d with h | h
      · exact absurd (hag x (List.mem_cons_self ..) i h) hne
      · omega
    generalize hY : x :: X = Y at *
    have hYn : Y ≠ [] := by rw [← hY]; exact List.cons_ne_nil _ _
    have hYl : 0 < Y.length := List.length_pos_iff.2 hYn
    have hBl : 0 < B.length := List.length_pos_iff.2 hBn
    have ext : ∀ Z : List Itm, (∀ z ∈ Z, z ∈ Y) → (∀ z ∈ Z, bitL z.l d = bitL p.l d) → trJ f (d + 1) (p :: Z) = trJ f (d + 1) (B ++ Z) := fun Z hZ hZb =>
      trJ_coll f (d + 1) p B Z (by omega) hp hBn hBa hB (fun z hz => hX z (hZ z hz)) (fun z hz i hi => by
        rcases Nat.lt_or_ge i d with h3 | h3
        · exact hag z (hZ z hz) i h3
        · have : i = d := by omega
          subst this; exact hZb z hz) (by omega)
    have l1 : ¬ (p :: Y).length ≤ 1 := by rw [List.length_cons]; omega
    have l2 : ¬ (B ++ Y).length ≤ 1 := by rw [List.length_append]; omega
    have hlY : ∀ z ∈ lo d Y, z ∈ Y ∧ bitL z.l d = 0 := fun z hz => ⟨(List.mem_filter.1 hz).1, beq_iff_eq.1 (List.mem_filter.1 hz).2⟩
    have hhY : ∀ z ∈ hi d Y, z ∈ Y ∧ bitL z.l d = 1 := fun z hz => ⟨(List.mem_filter.1 hz).1, by
      have h2 := (List.mem_filter.1 hz).2
      rcases bitL_or z.l d with h3 | h3
      · rw [h3] at h2; exact absurd h2 (by decide)
      · exact h3⟩
    have e1 : trJ (f + 1) d (p :: Y) = if lo d (p :: Y) = [] then trJ f (d + 1) (p :: Y) else if hi d (p :: Y) = [] then trJ f (d + 1) (p :: Y) else innI (trJ f (d + 1) (lo d (p :: Y))) (trJ f (d + 1) (hi d (p :: Y))) := if_neg l1
    have e2 : trJ (f + 1) d (B ++ Y) = if lo d (B ++ Y) = [] then trJ f (d + 1) (B ++ Y) else if hi d (B ++ Y) = [] then trJ f (d + 1) (B ++ Y) else innI (trJ f (d + 1) (lo d (B ++ Y))) (trJ f (d + 1) (hi d (B ++ Y))) := if_neg l2
    have a1 : lo d (B ++ Y) = lo d B ++ lo d Y := List.filter_append ..
    have a2 : hi d (B ++ Y) = hi d B ++ hi d Y := List.filter_append ..
    rw [e1, e2, a1, a2]
    rcases bitL_or p.l d with h3 | h3
    · obtain ⟨b1, b2⟩ := all_lo (l := B) (d := d) (fun b hb => by rw [hBa b hb d hdp, h3])
      have c1 : lo d (p :: Y) = p :: lo d Y := List.filter_cons_of_pos (by rw [h3]; rfl)
      have c2 : hi d (p :: Y) = hi d Y := List.filter_cons_of_neg (by rw [h3]; decide)
      rw [b1, b2, c1, c2, List.nil_append, if_neg (List.cons_ne_nil _ _), if_neg (app_ne hBn)]
      by_cases hn : hi d Y = []
      · rw [if_pos hn, if_pos hn]
        refine ext Y (fun z hz => hz) (fun z hz => ?_)
        rcases bitL_or z.l d with h4 | h4
        · rw [h4, h3]
        · have : z ∈ hi d Y := List.mem_filter.2 ⟨hz, by rw [h4]; rfl⟩
          rw [hn] at this; cases this
      · rw [if_neg hn, if_neg hn, ext (lo d Y) (fun z hz => (hlY z hz).1) (fun z hz => by rw [(hlY z hz).2, h3])]
    · obtain ⟨b1, b2⟩ := all_hi (l := B) (d := d) (fun b hb => by rw [hBa b hb d hdp, h3])
      have c1 : hi d (p :: Y) = p :: hi d Y := List.filter_cons_of_pos (by rw [h3]; rfl)
      have c2 : lo d (p :: Y) = lo d Y := List.filter_cons_of_neg (by rw [h3]; decide)
      rw [b1, b2, c1, c2, List.nil_append, if_neg (List.cons_ne_nil _ _), if_neg (app_ne hBn)]
      by_cases hn : lo d Y = []
      · rw [if_pos hn, if_pos hn]
        refine ext Y (fun z hz => hz) (fun z hz => ?_)
        rcases bitL_or z.l d with h4 | h4
        · have : z ∈ lo d Y := List.mem_filter.2 ⟨hz, by rw [h4]; rfl⟩
          rw [hn] at this; cases this
        · rw [h4, h3]
      · rw [if_neg hn, if_neg hn, ext (hi d Y) (fun z hz => (hhY z hz).1) (fun z hz => by rw [(hhY z hz).2, h3])]
end Go.Proofs.Ytpjfhllkckdejaa
