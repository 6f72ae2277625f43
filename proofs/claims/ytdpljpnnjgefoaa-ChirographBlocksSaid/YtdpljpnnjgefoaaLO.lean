/- The order of strings, and places in rising lists. No program in sight. -/
import Derived.Test.YtdpljpnnjgefoaaV1Z
namespace Go.Proofs.Ytdpljpnnjgefoaa
open Go Go.RowKit
theorem less_irr (a : List UInt8) : Op.bytesLess a a = false := by
  induction a with
  | nil => rfl
  | cons x a ih => simp [Op.bytesLess, ih, UInt8.lt_irrefl]
theorem less_trans {a b c : List UInt8} (h : Op.bytesLess a b = true) (k : Op.bytesLess b c = true) : Op.bytesLess a c = true := by
  induction a generalizing b c with
  | nil => cases b <;> cases c <;> simp_all [Op.bytesLess]
  | cons x a ih =>
    cases b with
    | nil => simp [Op.bytesLess] at h
    | cons y b => cases c with
      | nil => simp [Op.bytesLess] at k
      | cons z c =>
        simp only [Op.bytesLess, Bool.or_eq_true, Bool.and_eq_true, decide_eq_true_eq, beq_iff_eq] at h k ⊢
        rcases h with h | ⟨rfl, h⟩
        · rcases k with k | ⟨rfl, k⟩
          · exact .inl (UInt8.lt_trans h k)
          · exact .inl h
        · rcases k with k | ⟨rfl, k⟩
          · exact .inl k
          · exact .inr ⟨rfl, ih h k⟩
theorem less_tri (a b : List UInt8) : Op.bytesLess a b = true ∨ a = b ∨ Op.bytesLess b a = true := by
  induction a generalizing b with
  | nil => cases b <;> simp [Op.bytesLess]
  | cons x a ih =>
    cases b with
    | nil => simp [Op.bytesLess]
    | cons y b =>
      simp only [Op.bytesLess, Bool.or_eq_true, Bool.and_eq_true, decide_eq_true_eq, beq_iff_eq, List.cons.injEq]
      rcases UInt8.lt_or_lt_of_ne (a := x) (b := y) |> fun f => (Classical.em (x = y)).elim (fun e => Or.inr e) (fun e => Or.inl (f e)) with (h | h) | rfl
      · exact .inl (.inl h)
      · exact .inr (.inr (.inl h))
      · rcases ih b with h | rfl | h
        · exact .inl (.inr ⟨rfl, h⟩)
        · exact .inr (.inl ⟨rfl, rfl⟩)
        · exact .inr (.inr (.inr ⟨rfl, h⟩))
theorem less_asymm {a b : List UInt8} (h : Op.bytesLess a b = true) : Op.bytesLess b a = false := by
  cases hb : Op.bytesLess b a
  · rfl
  · have := less_trans h hb
    rw [less_irr] at this
    exact absurd this (by decide)
theorem less_ge {a b c : List UInt8} (h : Op.bytesLess a b = true) (k : Op.bytesLess c b = false) : Op.bytesLess a c = true := by
  rcases less_tri a c with h1 | rfl | h1
  · exact h1
  · rw [h] at k; exact absurd k (by decide)
  · rw [less_trans h1 h] at k; exact absurd k (by decide)
/-- -1, 0 or 1. -/
def cmpS (a b : List UInt8) : Int := if Op.bytesLess a b = true then -1 else if Op.bytesLess b a = true then 1 else 0
theorem cmpS_lt {a b : List UInt8} (h : Op.bytesLess a b = true) : cmpS a b = -1 := by unfold cmpS; rw [if_pos h]
theorem cmpS_gt {a b : List UInt8} (h : Op.bytesLess b a = true) : cmpS a b = 1 := by
  unfold cmpS; rw [if_neg (by rw [less_asymm h]; decide), if_pos h]
theorem cmpS_eq (a : List UInt8) : cmpS a a = 0 := by unfold cmpS; rw [less_irr]; rfl
theorem cmpS_neg {a b : List UInt8} : cmpS a b < 0 ↔ Op.bytesLess a b = true := by
  rcases less_tri a b with h | rfl | h
  · rw [cmpS_lt h]; exact ⟨fun _ => h, fun _ => by decide⟩
  · rw [cmpS_eq, less_irr]; decide
  · rw [cmpS_gt h, less_asymm h]; decide
/-- The place of the first key that isn't below k, in a list of rising keys. -/
theorem count_place {α : Type} (f : α → Bool) (l : List α) (p : Nat) (hp : p ≤ l.length) (h1 : ∀ i (h : i < l.length), i < p → f l[i] = true) (h2 : ∀ i (h : i < l.length), p ≤ i → f l[i] = false) : l.countP f = p := by
  induction l generalizing p with
  | nil => have h0 : p = 0 := Nat.le_zero.1 hp
           subst h0; rfl
  | cons x l ih =>
    rcases p with _ | p
    · rw [List.countP_eq_zero]
      intro y hy
      obtain ⟨i, hi, rfl⟩ := List.getElem_of_mem hy
      rw [h2 i hi (Nat.zero_le _)]; decide
    · rw [List.countP_cons, ih p (Nat.le_of_succ_le_succ hp) (fun i h hi => h1 (i + 1) (Nat.succ_lt_succ h) (Nat.succ_lt_succ hi)) (fun i h hi => h2 (i + 1) (Nat.succ_lt_succ h) (Nat.succ_le_succ hi)), if_pos (show f x = true from h1 0 (Nat.zero_lt_succ _) (Nat.zero_lt_succ _))]
end Go.Proofs.Ytdpljpnnjgefoaa
