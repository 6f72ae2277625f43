/- The plain law of entries in memory: what is put stands where it belongs, what it costs, what is found. -/
import Derived.Test.YtapbbifcipemfaaB13
import Derived.Test.YtapbbifcipemfaaBO
set_option maxHeartbeats 4000000
namespace Go.Proofs.Ytapbbifcipemfaa
open Go Go.RowKit
def nrmE (x : Etr) : Etr := if x.g then ⟨x.k, [], x.g⟩ else x
def Rise (l : List Etr) : Prop := l.Pairwise (fun a b => Op.bytesLess a.k b.k = true)
def insC (x : Etr) : List Etr → List Etr
  | [] => [x]
  | y :: r => if Op.bytesLess y.k x.k = true then y :: insC x r else if y.k = x.k then x :: r else x :: y :: r
theorem mem_insC {x z : Etr} : ∀ {l : List Etr}, z ∈ insC x l → z = x ∨ z ∈ l
  | [], h => by simpa [insC] using h
  | y :: r, h => by
    unfold insC at h
    split at h
    · rcases List.mem_cons.1 h with h | h
      · exact .inr (by simp [h])
      · rcases mem_insC h with h | h
        · exact .inl h
        · exact .inr (by simp [h])
    · split at h
      · rcases List.mem_cons.1 h with h | h
        · exact .inl h
        · exact .inr (by simp [h])
      · rcases List.mem_cons.1 h with h | h
        · exact .inl h
        · exact .inr h
theorem gt_of {a b : List UInt8} (h : ¬ Op.bytesLess a b = true) (hn : ¬ a = b) : Op.bytesLess b a = true := by
  rcases less_tri a b with k | k | k
  · exact absurd k h
  · exact absurd k hn
  · exact k
theorem insC_rise {x : Etr} : ∀ {l : List Etr}, Rise l → Rise (insC x l)
  | [], _ => by unfold insC; exact List.pairwise_singleton _ _
  | y :: r, h => by
    obtain ⟨h1, h2⟩ := List.pairwise_cons.1 h
    unfold insC
    split
    · rename_i hl
      refine List.pairwise_cons.2 ⟨fun z hz => ?_, insC_rise h2⟩
      rcases mem_insC hz with rfl | hz
      · exact hl
      · exact h1 z hz
    · rename_i hl
      split
      · rename_i he
        exact List.pairwise_cons.2 ⟨fun z hz => he ▸ h1 z hz, h2⟩
      · rename_i he
        have hg := gt_of hl he
        refine List.pairwise_cons.2 ⟨fun z hz => ?_, h⟩
        rcases List.mem_cons.1 hz with rfl | hz
        · exact hg
        · exact less_trans hg (h1 z hz)
theorem insC_len {x : Etr} : ∀ {l : List Etr}, (insC x l).length ≤ l.length + 1
  | [] => by simp [insC]
  | y :: r => by
    unfold insC
    split
    · have := insC_len (x := x) (l := r); simp only [List.length_cons]; omega
    · split <;> simp
/-! Where it belongs. -/
theorem plc_cons (y : Etr) (r : List Etr) (k : List UInt8) : plc (y :: r) k = (if Op.bytesLess y.k k = true then 1 else 0) + plc r k := by
  unfold plc; rw [List.countP_cons]; omega
theorem plc_none {r : List Etr} {k : List UInt8} (h : ∀ z ∈ r, ¬ Op.bytesLess z.k k = true) : plc r k = 0 := by
  unfold plc; rw [List.countP_eq_zero]; exact h
theorem tail_not {y : Etr} {r : List Etr} {k : List UInt8} (h : Rise (y :: r)) (hl : ¬ Op.bytesLess y.k k = true) : ∀ z ∈ r, ¬ Op.bytesLess z.k k = true := fun z hz hk =>
  hl (less_trans ((List.pairwise_cons.1 h).1 z hz) hk)
def insE (l : List Etr) (x : Etr) : List Etr := if fndB l x.k (plc l x.k) = true then l.set (plc l x.k) x else l.take (plc l x.k) ++ x :: l.drop (plc l x.k)
theorem fndB_succ (y : Etr) (r : List Etr) (k : List UInt8) (p : Nat) : fndB (y :: r) k (p + 1) = fndB r k p := by unfold fndB; rw [List.getElem?_cons_succ]
theorem fndE_succ (y : Etr) (r : List Etr) (k : List UInt8) (p : Nat) : fndE (y :: r) k (p + 1) = fndE r k p := by unfold fndE; rw [List.getElem?_cons_succ]
theorem insE_C {x : Etr} : ∀ {l : List Etr}, Rise l → insE l x = insC x l
  | [], _ => rfl
  | y :: r, h => by
    have h2 := (List.pairwise_cons.1 h).2
    have ih := insE_C (x := x) h2
    unfold insC
    by_cases hl : Op.bytesLess y.k x.k = true
    · rw [if_pos hl, ← ih]
      unfold insE
      rw [plc_cons, if_pos hl, Nat.add_comm, fndB_succ]
      split
      · rfl
      · rfl
    · rw [if_neg hl]
      unfold insE
      rw [plc_cons, if_neg hl, plc_none (tail_not h hl)]
      by_cases he : y.k = x.k
      · rw [if_pos he]
        have : fndB (y :: r) x.k (0 + 0) = true := by unfold fndB; simp [he]
        rw [if_pos this]; rfl
      · rw [if_neg he]
        have : ¬ fndB (y :: r) x.k (0 + 0) = true := by unfold fndB; simp [he]
        rw [if_neg this]; rfl
/-! As the document puts it. -/
def rputL (x : Etr) : List Etr → Bool → List Etr
  | [], d => if d then [] else [x]
  | y :: r, d => (if (!d && !Op.bytesLess y.k x.k) = true then [x] else []) ++ ((if y.k = x.k then [] else [y]) ++ rputL x r (d || !Op.bytesLess y.k x.k))
theorem rputL_true {x : Etr} : ∀ {l : List Etr}, (∀ z ∈ l, z.k ≠ x.k) → rputL x l true = l
  | [], _ => rfl
  | y :: r, h => by
    unfold rputL
    rw [if_neg (h y (by simp)), Bool.true_or, rputL_true fun z hz => h z (by simp [hz])]; rfl
theorem rput_C {x : Etr} : ∀ {l : List Etr}, Rise l → rputL x l false = insC x l
  | [], _ => rfl
  | y :: r, h => by
    have h2 := (List.pairwise_cons.1 h).2
    have ih := rput_C (x := x) h2
    unfold rputL insC
    by_cases hl : Op.bytesLess y.k x.k = true
    · have hne : y.k ≠ x.k := fun e => by rw [e, less_irr] at hl; cases hl
      rw [hl, if_neg hne, if_pos rfl]
      show y :: rputL x r false = _
      rw [ih]
    · have hne : ∀ z ∈ r, z.k ≠ x.k := fun z hz e => by
        have h3 := (List.pairwise_cons.1 h).1 z hz
        rw [e] at h3; exact hl h3
      rw [Bool.not_eq_true] at hl
      rw [hl, if_pos (by rfl), if_neg (show ¬ false = true by decide)]
      show [x] ++ ((if y.k = x.k then [] else [y]) ++ rputL x r true) = _
      rw [rputL_true hne]
      split <;> rfl
theorem rputL_len (x : Etr) : ∀ (l : List Etr) (d : Bool), (rputL x l d).length ≤ l.length + (if d then 0 else 1)
  | [], d => by cases d <;> simp [rputL]
  | y :: r, d => by
    have := rputL_len x r (d || !Op.bytesLess y.k x.k)
    unfold rputL
    rw [List.length_append, List.length_append, List.length_cons]
    have h2 : (if y.k = x.k then ([] : List Etr) else [y]).length ≤ 1 := by split <;> simp
    cases d
    · cases hb : Op.bytesLess y.k x.k <;> rw [hb] at this <;> simp at this ⊢ <;> omega
    · simp at this ⊢; omega
/-! What it costs. -/
def cstE (x : Etr) : Nat := x.k.length + x.v.length + 8
def cstL : List Etr → Nat
  | [] => 0
  | x :: r => cstE x + cstL r
theorem cstL_app : ∀ (a b : List Etr), cstL (a ++ b) = cstL a + cstL b
  | [], b => by simp [cstL]
  | x :: a, b => by rw [List.cons_append, cstL, cstL, cstL_app a b]; omega
theorem cstL_set : ∀ (l : List Etr) (i : Nat) (h : i < l.length) (x : Etr), cstL (l.set i x) + cstE l[i] = cstL l + cstE x
  | y :: r, 0, _, x => by simp [cstL]; omega
  | y :: r, i + 1, h, x => by
    have := cstL_set r i (by simpa using h) x
    rw [List.set_cons_succ, cstL, cstL, List.getElem_cons_succ]; omega
def small (x : Etr) : Prop := x.k.length ≤ 5000 ∧ x.v.length ≤ 5000
theorem cstE_le {x : Etr} (h : small x) : cstE x ≤ 10008 := by unfold small at h; unfold cstE; omega
theorem cstL_le : ∀ {l : List Etr}, (∀ x ∈ l, small x) → cstL l ≤ l.length * 10008
  | [], _ => by simp [cstL]
  | x :: r, h => by
    have h1 := cstE_le (h x (by simp))
    have h2 := cstL_le (l := r) fun y hy => h y (by simp [hy])
    rw [cstL, List.length_cons]; omega
theorem cstL_ins_new (l : List Etr) (p : Nat) (x : Etr) : cstL (l.take p ++ x :: l.drop p) = cstL l + cstE x := by
  have h : cstL l = cstL (l.take p) + cstL (l.drop p) := by rw [← cstL_app, List.take_append_drop]
  rw [cstL_app, cstL, h]; omega
/-! What is found. -/
def rfnd (l : List Etr) (k : List UInt8) : Etr × Bool := match l.find? (fun x => x.k == k) with | some x => (x, true) | none => (zEtr, false)
theorem rfnd_eq {k : List UInt8} : ∀ {l : List Etr}, Rise l → rfnd l k = (fndE l k (plc l k), fndB l k (plc l k))
  | [], _ => rfl
  | y :: r, h => by
    have h2 := (List.pairwise_cons.1 h).2
    have ih := rfnd_eq (k := k) h2
    unfold rfnd at ih ⊢
    rw [plc_cons]
    by_cases hl : Op.bytesLess y.k k = true
    · have hne : (y.k == k) = false := beq_eq_false_iff_ne.2 fun e => by rw [e, less_irr] at hl; cases hl
      rw [if_pos hl, Nat.add_comm, fndB_succ, fndE_succ, List.find?_cons, hne]
      exact ih
    · rw [if_neg hl, plc_none (tail_not h hl)]
      by_cases he : y.k = k
      · have hb : (y.k == k) = true := by rw [he]; exact beq_self_eq_true _
        rw [List.find?_cons, hb]
        unfold fndE fndB; simp [he]
      · have hb : (y.k == k) = false := beq_eq_false_iff_ne.2 he
        have hno : r.find? (fun x => x.k == k) = none := by
          rw [List.find?_eq_none]
          intro z hz hk
          have h3 := (List.pairwise_cons.1 h).1 z hz
          rw [show z.k = k by simpa using hk] at h3
          exact hl h3
        rw [List.find?_cons, hb, hno]
        unfold fndE fndB; simp [hb, he]
end Go.Proofs.Ytapbbifcipemfaa
