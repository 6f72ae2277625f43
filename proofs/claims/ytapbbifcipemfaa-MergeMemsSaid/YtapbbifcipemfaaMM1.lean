/- The plain law of merging entries (Etr): what merge.Lists computes is what puts of all come to. -/
import Derived.Test.YtapbbifcipemfaaME1
set_option maxHeartbeats 4000000
namespace Go.Proofs.Ytapbbifcipemfaa
open Go Go.RowKit
namespace Mg
def kLt (a b : List UInt8) : Bool := Op.bytesLess a b
def kEq (a b : List UInt8) : Bool := a == b
theorem kLt_irrefl (a : List UInt8) : kLt a a = false := less_irr _
theorem kLt_trans {a b c : List UInt8} (h : kLt a b = true) (k : kLt b c = true) : kLt a c = true := less_trans h k
theorem kLt_tri (a b : List UInt8) : kLt a b = true ∨ a = b ∨ kLt b a = true := less_tri a b
theorem kEq_iff {a b : List UInt8} : kEq a b = true ↔ a = b := by unfold kEq; exact beq_iff_eq
theorem kEq_false {a b : List UInt8} : kEq a b = false ↔ a ≠ b := by rw [← Bool.not_eq_true, kEq_iff]
theorem kLt_asymm {a b : List UInt8} (h : kLt a b = true) : kLt b a = false := by
  cases hb : kLt b a with
  | false => rfl
  | true => have := kLt_trans h hb; rw [kLt_irrefl] at this; cases this
theorem kLt_ne {a b : List UInt8} (h : kLt a b = true) : a ≠ b := by rintro rfl; rw [kLt_irrefl] at h; cases h
theorem not_kLt {a b : List UInt8} (h : kLt a b = false) : a = b ∨ kLt b a = true := by
  rcases kLt_tri a b with h1 | h1 | h1
  · rw [h] at h1; cases h1
  · exact .inl h1
  · exact .inr h1
def Sorted (l : List Etr) : Prop := l.Pairwise fun a b => kLt a.k b.k = true
theorem Sorted.k_inj {l : List Etr} (h : Sorted l) {a b : Etr} (ha : a ∈ l) (hb : b ∈ l) (hk : a.k = b.k) : a = b := by
  induction l with
  | nil => cases ha
  | cons x l ih =>
    obtain ⟨h1, h2⟩ := List.pairwise_cons.1 h
    rcases List.mem_cons.1 ha with e1 | ha1
    · rcases List.mem_cons.1 hb with e2 | hb1
      · rw [e1, e2]
      · subst e1; exact (kLt_ne (h1 _ hb1) hk).elim
    · rcases List.mem_cons.1 hb with e2 | hb1
      · subst e2; exact (kLt_ne (h1 _ ha1) hk.symm).elim
      · exact ih h2 ha1 hb1
theorem sorted_ext {a b : List Etr} (ha : Sorted a) (hb : Sorted b) (h : ∀ e, e ∈ a ↔ e ∈ b) : a = b := by
  induction a generalizing b with
  | nil => cases b with
    | nil => rfl
    | cons y b => have := (h y).2 (by simp); cases this
  | cons x a ih =>
    cases b with
    | nil => have := (h x).1 (by simp); cases this
    | cons y b =>
      obtain ⟨h1, h2⟩ := List.pairwise_cons.1 ha
      obtain ⟨h3, h4⟩ := List.pairwise_cons.1 hb
      have hxy : x = y := by
        rcases List.mem_cons.1 ((h x).1 (by simp)) with e | hx
        · exact e
        · rcases List.mem_cons.1 ((h y).2 (by simp)) with e | hy
          · exact e.symm
          · have := kLt_asymm (h1 _ hy); rw [h3 _ hx] at this; cases this
      subst hxy
      congr 1
      refine ih h2 h4 fun e => ⟨fun he => ?_, fun he => ?_⟩
      · rcases List.mem_cons.1 ((h e).1 (by simp [he])) with rfl | h5
        · exact (kLt_ne (h1 _ he) rfl).elim
        · exact h5
      · rcases List.mem_cons.1 ((h e).2 (by simp [he])) with rfl | h5
        · exact (kLt_ne (h3 _ he) rfl).elim
        · exact h5


def put (l : List Etr) (x : Etr) : List Etr := rputL x l false
theorem mem_rput_true (x : Etr) (l : List Etr) (e : Etr) : e ∈ rputL x l true ↔ e ∈ l ∧ e.k ≠ x.k := by
  induction l with
  | nil => simp [rputL]
  | cons y l ih =>
    unfold rputL
    rw [List.mem_append, List.mem_append, Bool.true_or, ih]
    simp only [Bool.not_true, Bool.false_and, Bool.false_eq_true, if_false, List.not_mem_nil, false_or, List.mem_cons]
    by_cases hk : y.k = x.k
    · rw [if_pos hk]
      exact ⟨fun h => h.elim (fun h => (by cases h)) (fun ⟨h1, h2⟩ => ⟨.inr h1, h2⟩), fun ⟨h1, h2⟩ => .inr ⟨h1.resolve_left (fun e => h2 (e ▸ hk)), h2⟩⟩
    · rw [if_neg hk]
      exact ⟨fun h => h.elim (fun e => by rw [List.mem_singleton.1 e]; exact ⟨.inl rfl, hk⟩) (fun ⟨h1, h2⟩ => ⟨.inr h1, h2⟩), fun ⟨h1, h2⟩ => h1.elim (fun e => .inl (List.mem_singleton.2 e)) (fun h => .inr ⟨h, h2⟩)⟩
theorem mem_put (x : Etr) (l : List Etr) (e : Etr) : e ∈ put l x ↔ e = x ∨ e ∈ l ∧ e.k ≠ x.k := by
  unfold put
  induction l with
  | nil => simp [rputL]
  | cons y l ih =>
    unfold rputL
    rw [List.mem_append, List.mem_append, List.mem_cons]
    by_cases hl : Op.bytesLess y.k x.k = true
    · have hne : y.k ≠ x.k := kLt_ne hl
      rw [hl, if_neg hne]
      simp only [Bool.not_true, Bool.and_false, Bool.false_eq_true, if_false, List.not_mem_nil, false_or, Bool.or_self, ih, List.mem_singleton]
      constructor
      · rintro (e1 | e1 | ⟨h1, h2⟩)
        · exact .inr ⟨.inl e1, e1 ▸ hne⟩
        · exact .inl e1
        · exact .inr ⟨.inr h1, h2⟩
      · rintro (e1 | ⟨e1 | h1, h2⟩)
        · exact .inr (.inl e1)
        · exact .inl e1
        · exact .inr (.inr ⟨h1, h2⟩)
    · rw [Bool.not_eq_true] at hl
      rw [hl]
      simp only [Bool.not_false, Bool.and_self, if_true, Bool.or_true, mem_rput_true, List.mem_singleton]
      by_cases hk : y.k = x.k
      · rw [if_pos hk]
        exact ⟨fun h => h.elim .inl (fun h => h.elim (fun h => by cases h) (fun ⟨h1, h2⟩ => .inr ⟨.inr h1, h2⟩)), fun h => h.elim .inl (fun ⟨h1, h2⟩ => .inr (.inr ⟨h1.resolve_left (fun e => h2 (e ▸ hk)), h2⟩))⟩
      · rw [if_neg hk]
        constructor
        · rintro (e1 | e1 | ⟨h1, h2⟩)
          · exact .inl e1
          · rw [List.mem_singleton.1 e1]; exact .inr ⟨.inl rfl, hk⟩
          · exact .inr ⟨.inr h1, h2⟩
        · rintro (e1 | ⟨e1 | h1, h2⟩)
          · exact .inl e1
          · exact .inr (.inl (List.mem_singleton.2 e1))
          · exact .inr (.inr ⟨h1, h2⟩)
theorem sorted_put (x : Etr) (l : List Etr) (h : Sorted l) : Sorted (put l x) := by
  unfold put; rw [rput_C h]; exact insC_rise h
def refAll : List (List Etr) → List Etr
  | [] => []
  | l :: ls => l.foldl put (refAll ls)
def total (ls : List (List Etr)) : Nat := (ls.map List.length).sum
def refLists (ls : List (List Etr)) (drop : Bool) : List Etr := (refAll ls).filter fun e => !drop || !e.g
def leastTo (cl : List (List Etr)) : Nat → Option Nat
  | 0 => none
  | k + 1 => match cl[k]? with
    | some (x :: _) => match leastTo cl k with
      | none => some k
      | some j => match cl[j]? with
        | some (y :: _) => if kLt x.k y.k then some k else some j
        | _ => some j
    | _ => leastTo cl k
def leastI : Option Nat → Int
  | none => -1
  | some j => j
theorem leastTo_spec (cl : List (List Etr)) (k : Nat) : ∀ j, leastTo cl k = some j → j < k ∧ ∃ y ys, cl[j]? = some (y :: ys) := by
  induction k with
  | zero => intro j h; simp [leastTo] at h
  | succ k ih =>
    intro j h
    unfold leastTo at h
    split at h
    · rename_i x xs hx
      split at h
      · injection h with h; subst h; exact ⟨by omega, _, _, hx⟩
      · rename_i j' hj'
        obtain ⟨h1, y, ys, h2⟩ := ih j' hj'
        rw [h2] at h
        simp only at h
        split at h
        · injection h with h; subst h; exact ⟨by omega, _, _, hx⟩
        · injection h with h; subst h; exact ⟨by omega, _, _, h2⟩
    · obtain ⟨h1, h2⟩ := ih j h; exact ⟨by omega, h2⟩

def mLoop (drop : Bool) : Nat → List (List Etr) → Option (List UInt8) → List Etr
  | 0, _, _ => []
  | f + 1, cl, last => match leastTo cl cl.length with
    | none => []
    | some i => match cl[i]? with
      | some (x :: xs) => if last.any (fun s => kEq x.k s) then mLoop drop f (cl.set i xs) last
          else (if !drop || !x.g then [x] else []) ++ mLoop drop f (cl.set i xs) (some x.k)
      | _ => []
def mLists (ls : List (List Etr)) (drop : Bool) : List Etr := mLoop drop (total ls) ls none

theorem total_set (cl : List (List Etr)) (i : Nat) (x : Etr) (xs : List Etr) (h : cl[i]? = some (x :: xs)) : total cl = total (cl.set i xs) + 1 := by
  induction cl generalizing i with
  | nil => simp at h
  | cons l cl ih =>
    cases i with
    | zero => simp at h; subst h; simp [total]; omega
    | succ i => have := ih i (by simpa using h); simp only [List.set_cons_succ, total, List.map_cons, List.sum_cons] at *; omega
theorem mLoop_none {drop : Bool} {f : Nat} {cl : List (List Etr)} {last : Option (List UInt8)} (h : leastTo cl cl.length = none) : mLoop drop f cl last = [] := by
  cases f with
  | zero => rfl
  | succ f => simp [mLoop, h]
theorem mLoop_some {drop : Bool} {cl : List (List Etr)} {last : Option (List UInt8)} {i : Nat} {x : Etr} {xs : List Etr} (h : leastTo cl cl.length = some i) (hi : cl[i]? = some (x :: xs)) :
    mLoop drop (total cl) cl last = if last.any (fun s => kEq x.k s) then mLoop drop (total (cl.set i xs)) (cl.set i xs) last
          else (if !drop || !x.g then [x] else []) ++ mLoop drop (total (cl.set i xs)) (cl.set i xs) (some x.k) := by
  rw [total_set cl i x xs hi]
  simp only [mLoop, h, hi]
theorem mLoop_len (drop : Bool) (f : Nat) (cl : List (List Etr)) (last : Option (List UInt8)) : (mLoop drop f cl last).length ≤ f := by
  induction f generalizing cl last with
  | zero => simp [mLoop]
  | succ f ih =>
    unfold mLoop
    split
    · simp
    · split
      · split
        · exact Nat.le_succ_of_le (ih _ _)
        · rename_i i _ _ x xs _ _
          have := ih (cl.set i xs) (some x.k)
          rw [List.length_append]
          split <;> simp <;> omega
      · simp

theorem sorted_foldl_put (l : List Etr) : ∀ all, Sorted all → Sorted (l.foldl put all) := by
  induction l with
  | nil => intro all h; exact h
  | cons x l ih => intro all h; exact ih _ (sorted_put x all h)
theorem mem_foldl_put (l : List Etr) (hl : Sorted l) : ∀ all e, e ∈ l.foldl put all ↔ e ∈ l ∨ e ∈ all ∧ ∀ y ∈ l, e.k ≠ y.k := by
  induction l with
  | nil => intro all e; simp
  | cons x l ih =>
    obtain ⟨h1, h2⟩ := List.pairwise_cons.1 hl
    intro all e
    rw [List.foldl_cons, ih h2, mem_put]
    simp only [List.mem_cons, forall_eq_or_imp]
    constructor
    · rintro (h | ⟨rfl | ⟨h3, h4⟩, h5⟩)
      · exact .inl (.inr h)
      · exact .inl (.inl rfl)
      · exact .inr ⟨h3, h4, h5⟩
    · rintro ((rfl | h) | ⟨h3, h4, h5⟩)
      · exact .inr ⟨.inl rfl, fun y hy e => kLt_ne (h1 y hy) e⟩
      · exact .inl h
      · exact .inr ⟨.inr ⟨h3, h4⟩, h5⟩
theorem sorted_refAll (ls : List (List Etr)) : Sorted (refAll ls) := by
  induction ls with
  | nil => simp [refAll, Sorted]
  | cons l ls ih => exact sorted_foldl_put l _ ih
def AllSorted (ls : List (List Etr)) : Prop := ∀ l ∈ ls, Sorted l
theorem mem_refAll_cons (l : List Etr) (ls : List (List Etr)) (hl : Sorted l) (e : Etr) : e ∈ refAll (l :: ls) ↔ e ∈ l ∨ e ∈ refAll ls ∧ ∀ y ∈ l, e.k ≠ y.k := mem_foldl_put l hl _ e
theorem mem_refAll_some (ls : List (List Etr)) (h : AllSorted ls) (e : Etr) (he : e ∈ refAll ls) : ∃ l ∈ ls, e ∈ l := by
  induction ls with
  | nil => simp [refAll] at he
  | cons l ls ih =>
    rcases (mem_refAll_cons l ls (h l (by simp)) e).1 he with h1 | ⟨h1, _⟩
    · exact ⟨l, by simp, h1⟩
    · obtain ⟨l', h2, h3⟩ := ih (fun l hl => h l (by simp [hl])) h1
      exact ⟨l', by simp [h2], h3⟩

/-- Taking the head of one list away changes nothing but at its key. -/
theorem refAll_set (cl : List (List Etr)) (h : AllSorted cl) (i : Nat) (x : Etr) (xs : List Etr) (hi : cl[i]? = some (x :: xs)) (e : Etr) (he : e.k ≠ x.k) : e ∈ refAll cl ↔ e ∈ refAll (cl.set i xs) := by
  induction cl generalizing i with
  | nil => simp at hi
  | cons l cl ih =>
    have hl := h l (by simp)
    cases i with
    | zero =>
      simp at hi; subst hi
      rw [List.set_cons_zero, mem_refAll_cons _ _ hl, mem_refAll_cons _ _ (List.pairwise_cons.1 hl).2]
      simp only [List.mem_cons, forall_eq_or_imp]
      constructor
      · rintro ((rfl | h1) | ⟨h1, h2, h3⟩)
        · exact (he rfl).elim
        · exact .inl h1
        · exact .inr ⟨h1, h3⟩
      · rintro (h1 | ⟨h1, h2⟩)
        · exact .inl (.inr h1)
        · exact .inr ⟨h1, he, h2⟩
    | succ i =>
      rw [List.set_cons_succ, mem_refAll_cons _ _ hl, mem_refAll_cons _ _ hl, ih (fun l hl => h l (by simp [hl])) i (by simpa using hi)]
theorem allSorted_set {cl : List (List Etr)} (h : AllSorted cl) (i : Nat) (x : Etr) (xs : List Etr) (hi : cl[i]? = some (x :: xs)) : AllSorted (cl.set i xs) := by
  intro l hl
  rcases List.mem_or_eq_of_mem_set hl with h1 | rfl
  · exact h l h1
  · exact (List.pairwise_cons.1 (h (x :: l) (List.mem_of_getElem? hi))).2
/-- What least finds: the first of the least keys. -/
theorem leastTo_none {cl : List (List Etr)} {k : Nat} (h : leastTo cl k = none) : ∀ j, j < k → ∀ y ys, cl[j]? ≠ some (y :: ys) := by
  induction k with
  | zero => intro j hj; omega
  | succ k ih =>
    intro j hj y ys hy
    unfold leastTo at h
    split at h
    · split at h
      · cases h
      · split at h
        · split at h <;> cases h
        · cases h
    · rename_i hk
      rcases Nat.lt_or_ge j k with h1 | h1
      · exact ih h j h1 y ys hy
      · have : j = k := by omega
        subst this; exact hk y ys hy
theorem leastTo_least {cl : List (List Etr)} {k i : Nat} (h : leastTo cl k = some i) : ∀ x xs, cl[i]? = some (x :: xs) → ∀ j, j < k → ∀ y ys, cl[j]? = some (y :: ys) →
    (kLt y.k x.k = false) ∧ (j < i → kLt x.k y.k = true) := by
  induction k generalizing i with
  | zero => intro x xs _ j hj; omega
  | succ k ih =>
    intro x xs hx j hj y ys hy
    unfold leastTo at h
    split at h
    · rename_i z zs hz
      split at h
      · rename_i hn
        injection h with h; subst h
        rw [hz] at hx; injection hx with hx; injection hx with hx1 hx2; subst hx1
        rcases Nat.lt_or_ge j k with h1 | h1
        · exact (leastTo_none hn j h1 y ys hy).elim
        · have : j = k := by omega
          subst this
          rw [hz] at hy; injection hy with hy; injection hy with hy1 _; subst hy1
          exact ⟨kLt_irrefl _, fun h => by omega⟩
      · rename_i i' hi'
        obtain ⟨hik, a, as', ha⟩ := leastTo_spec cl k i' hi'
        rw [ha] at h
        simp only at h
        split at h
        · rename_i hlt
          injection h with h; subst h
          rw [hz] at hx; injection hx with hx; injection hx with hx1 _; subst hx1
          rcases Nat.lt_or_ge j k with h1 | h1
          · obtain ⟨h2, h3⟩ := ih hi' a as' ha j h1 y ys hy
            have h4 : kLt z.k y.k = true := by
              rcases not_kLt h2 with e | e
              · rw [e]; exact hlt
              · exact kLt_trans hlt e
            exact ⟨kLt_asymm h4, fun _ => h4⟩
          · have : j = k := by omega
            subst this
            rw [hz] at hy; injection hy with hy; injection hy with hy1 _; subst hy1
            exact ⟨kLt_irrefl _, fun h => by omega⟩
        · rename_i hlt
          injection h with h; subst h
          rcases Nat.lt_or_ge j k with h1 | h1
          · exact ih hi' x xs hx j h1 y ys hy
          · have : j = k := by omega
            subst this
            rw [hz] at hy; injection hy with hy; injection hy with hy1 _; subst hy1
            rw [ha] at hx; injection hx with hx; injection hx with hx1 _; subst hx1
            exact ⟨by simpa using hlt, fun h => by omega⟩
    · rename_i hk
      rcases Nat.lt_or_ge j k with h1 | h1
      · exact ih h x xs hx j h1 y ys hy
      · have : j = k := by omega
        subst this; exact (hk y ys hy).elim
theorem refAll_nil {cl : List (List Etr)} (h : ∀ l ∈ cl, l = []) : refAll cl = [] := by
  induction cl with
  | nil => rfl
  | cons l cl ih =>
    have h1 := h l (by simp); subst h1
    have := ih (fun l hl => h l (by simp [hl]))
    simpa [refAll] using this
theorem mem_refAll_first {cl : List (List Etr)} (h : AllSorted cl) {i : Nat} {x : Etr} {xs : List Etr} (hi : cl[i]? = some (x :: xs)) (hf : ∀ j, j < i → ∀ l, cl[j]? = some l → ∀ y ∈ l, x.k ≠ y.k) : x ∈ refAll cl := by
  induction cl generalizing i with
  | nil => simp at hi
  | cons l cl ih =>
    rw [mem_refAll_cons l cl (h l (by simp))]
    cases i with
    | zero => simp at hi; subst hi; exact .inl (by simp)
    | succ i => exact .inr ⟨ih (fun l hl => h l (by simp [hl])) (i := i) (by simpa using hi) (fun j hj l hl y hy => hf (j + 1) (by omega) l (by simpa using hl) y hy), fun y hy => hf 0 (by omega) l (by simp) y hy⟩
/-- The head of what is left, and the rest. -/
theorem refAll_least {cl : List (List Etr)} (h : AllSorted cl) {i : Nat} {x : Etr} {xs : List Etr} (hl : leastTo cl cl.length = some i) (hi : cl[i]? = some (x :: xs)) :
    refAll cl = x :: (refAll (cl.set i xs)).filter (fun e => !kEq e.k x.k) := by
  have hls := leastTo_least hl x xs hi
  have hmin : ∀ e ∈ refAll cl, kLt e.k x.k = false := by
    intro e he
    obtain ⟨l, hlm, hel⟩ := mem_refAll_some cl h e he
    obtain ⟨j, hj⟩ := List.mem_iff_getElem?.1 hlm
    cases l with
    | nil => cases hel
    | cons y ys =>
      have hjl : j < cl.length := (List.getElem?_eq_some_iff.1 hj).1
      have h1 := (hls j hjl y ys hj).1
      rcases List.mem_cons.1 hel with rfl | hel
      · exact h1
      · have h2 := (List.pairwise_cons.1 (h _ hlm)).1 e hel
        rcases not_kLt h1 with e1 | e1
        · rw [e1] at h2; exact kLt_asymm h2
        · exact kLt_asymm (kLt_trans e1 h2)
  have hx : x ∈ refAll cl := by
    refine mem_refAll_first h hi fun j hj l hlj y hy => ?_
    cases l with
    | nil => cases hy
    | cons z zs =>
      have hjl : j < cl.length := (List.getElem?_eq_some_iff.1 hlj).1
      have h1 := (hls j hjl z zs hlj).2 hj
      rcases List.mem_cons.1 hy with rfl | hy
      · exact kLt_ne h1
      · exact kLt_ne (kLt_trans h1 ((List.pairwise_cons.1 (h _ (List.mem_of_getElem? hlj))).1 y hy))
  refine sorted_ext (sorted_refAll cl) ?_ fun e => ?_
  · refine List.pairwise_cons.2 ⟨fun e he => ?_, (sorted_refAll _).filter _⟩
    rw [List.mem_filter] at he
    have hne : e.k ≠ x.k := kEq_false.1 (by simpa using he.2)
    have := hmin e ((refAll_set cl h i x xs hi e hne).2 he.1)
    exact (not_kLt this).resolve_left hne
  · rw [List.mem_cons, List.mem_filter]
    constructor
    · intro he
      by_cases hk : e.k = x.k
      · exact .inl ((sorted_refAll cl).k_inj he hx hk)
      · exact .inr ⟨(refAll_set cl h i x xs hi e hk).1 he, by simp [kEq_false.2 hk]⟩
    · rintro (rfl | ⟨h1, h2⟩)
      · exact hx
      · exact (refAll_set cl h i x xs hi e (kEq_false.1 (by simpa using h2))).2 h1
theorem mem_total {ls : List (List Etr)} {l : List Etr} (h : l ∈ ls) : l.length ≤ total ls := by
  induction ls with
  | nil => cases h
  | cons a ls ih =>
    simp only [total, List.map_cons, List.sum_cons] at *
    rcases List.mem_cons.1 h with e | h
    · subst e; omega
    · have := ih h; omega
theorem filter_key_cons (x : Etr) (r : List Etr) : (x :: r.filter (fun e => !kEq e.k x.k)).filter (fun e => !kEq e.k x.k) = r.filter (fun e => !kEq e.k x.k) := by
  rw [List.filter_cons, if_neg (by simp [kEq_iff.2 rfl]), List.filter_filter]
  simp
theorem mLoop_eq (drop : Bool) : ∀ (n : Nat) (cl : List (List Etr)) (last : Option (List UInt8)), total cl = n → AllSorted cl → (∀ s, last = some s → ∀ l ∈ cl, ∀ e ∈ l, kLt e.k s = false) →
    mLoop drop n cl last = ((refAll cl).filter fun e => !last.any (kEq e.k)).filter fun e => !drop || !e.g := by
  intro n
  induction n with
  | zero =>
    intro cl last ht hs hb
    have : ∀ l ∈ cl, l = [] := by
      intro l hl
      have h0 : l.length ≤ total cl := by
        exact mem_total hl
      exact List.eq_nil_of_length_eq_zero (by omega)
    rw [refAll_nil this]; rfl
  | succ n ih =>
    intro cl last ht hs hb
    rcases hl : leastTo cl cl.length with _ | i
    · have : ∀ l ∈ cl, l = [] := by
        intro l hlm
        obtain ⟨j, hj⟩ := List.mem_iff_getElem?.1 hlm
        cases l with
        | nil => rfl
        | cons y ys => exact (leastTo_none hl j (List.getElem?_eq_some_iff.1 hj).1 y ys hj).elim
      rw [refAll_nil this]; simp [mLoop, hl]
    · obtain ⟨hil, x, xs, hi⟩ := leastTo_spec cl _ i hl
      have hts := total_set cl i x xs hi
      have hs' := allSorted_set hs i x xs hi
      have hxl : (x :: xs) ∈ cl := List.mem_of_getElem? hi
      have hsub : ∀ l ∈ cl.set i xs, ∀ e ∈ l, ∃ l' ∈ cl, e ∈ l' := by
        intro l hl e he
        rcases List.mem_or_eq_of_mem_set hl with h1 | rfl
        · exact ⟨l, h1, he⟩
        · exact ⟨x :: l, hxl, by simp [he]⟩
      have hrl := refAll_least hs hl hi
      simp only [mLoop, hl, hi]
      cases hd : last.any (fun s => kEq x.k s) with
      | true =>
        obtain ⟨s, rfl, hks⟩ : ∃ s, last = some s ∧ kEq x.k s = true := by
          cases last with
          | none => simp at hd
          | some s => exact ⟨s, rfl, by simpa using hd⟩
        have hks' := kEq_iff.1 hks; subst hks'
        rw [if_pos rfl, ih _ _ (by omega) hs' (fun s hs l hl e he => by obtain ⟨l', h1, h2⟩ := hsub l hl e he; exact hb s hs l' h1 e h2), hrl]
        congr 1
        exact (filter_key_cons x _).symm
      | false =>
        rw [if_neg (by simp)]
        have hbig : ∀ e ∈ refAll cl, last.any (kEq e.k) = false := by
          intro e he
          cases last with
          | none => rfl
          | some s =>
            have h1 : kEq x.k s = false := by simpa using hd
            have h2 := hb s rfl _ hxl x (by simp)
            have h3 : kLt s x.k = true := (not_kLt h2).resolve_left (kEq_false.1 h1)
            rw [hrl] at he
            have h4 : kLt s e.k = true := by
              rcases List.mem_cons.1 he with rfl | he
              · exact h3
              · have := sorted_refAll cl
                rw [hrl] at this
                exact kLt_trans h3 ((List.pairwise_cons.1 this).1 e he)
            have : e.k ≠ s := fun e1 => kLt_ne h4 e1.symm
            simpa using kEq_false.2 this
        have hf : (refAll cl).filter (fun e => !last.any (kEq e.k)) = refAll cl := by
          rw [List.filter_eq_self]; intro e he; simp [hbig e he]
        rw [hf, hrl, ih _ _ (by omega) hs' (fun s hs l hlm e he => by
          injection hs with hs; subst hs
          rcases List.mem_or_eq_of_mem_set hlm with h1 | rfl
          · obtain ⟨j, hj⟩ := List.mem_iff_getElem?.1 h1
            cases l with
            | nil => cases he
            | cons y ys =>
              have h2 := (leastTo_least hl x xs hi j (List.getElem?_eq_some_iff.1 hj).1 y ys hj).1
              rcases List.mem_cons.1 he with rfl | he
              · exact h2
              · have h3 := (List.pairwise_cons.1 (hs' _ hlm)).1 e he
                rcases not_kLt h2 with e1 | e1
                · rw [e1] at h3; exact kLt_asymm h3
                · exact kLt_asymm (kLt_trans e1 h3)
          · exact kLt_asymm ((List.pairwise_cons.1 (hs _ hxl)).1 e he))]
        rw [List.filter_cons]
        cases hk : (!drop || !x.g) <;> simp
theorem mLists_eq (ls : List (List Etr)) (drop : Bool) (h : AllSorted ls) : mLists ls drop = refLists ls drop := by
  unfold mLists refLists
  rw [mLoop_eq drop _ ls none rfl h (fun s hs => by cases hs)]
  simp
theorem mLists_len (ls : List (List Etr)) (drop : Bool) : (mLists ls drop).length ≤ total ls := mLoop_len _ _ _ _
end Mg
end Go.Proofs.Ytapbbifcipemfaa
