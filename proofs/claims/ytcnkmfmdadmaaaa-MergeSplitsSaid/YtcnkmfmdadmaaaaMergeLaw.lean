/- The plain law of merging: what merge.Lists computes is what ref12.Lists computes, on rising lists. -/
import Derived.Test.YtcnkmfmdadmaaaaMLists
namespace Go.Proofs.Ytcnkmfmdadmaaaa

/-! The order of keys. -/
theorem bytesLess_irrefl (a : List UInt8) : Op.bytesLess a a = false := by
  induction a with
  | nil => rfl
  | cons x a ih => simp [Op.bytesLess, ih, UInt8.lt_irrefl]
theorem bytesLess_trans {a b c : List UInt8} (h : Op.bytesLess a b = true) (k : Op.bytesLess b c = true) : Op.bytesLess a c = true := by
  induction a generalizing b c with
  | nil => cases b <;> cases c <;> simp_all [Op.bytesLess]
  | cons x a ih =>
    cases b with
    | nil => simp [Op.bytesLess] at h
    | cons y b => cases c with
      | nil => simp [Op.bytesLess] at k
      | cons z c =>
        simp only [Op.bytesLess, Bool.or_eq_true, Bool.and_eq_true, decide_eq_true_eq, beq_iff_eq] at h k ⊢
        rcases h with h | ⟨rfl, h⟩
        · rcases k with k | ⟨rfl, k⟩
          · exact .inl (UInt8.lt_trans h k)
          · exact .inl h
        · rcases k with k | ⟨rfl, k⟩
          · exact .inl k
          · exact .inr ⟨rfl, ih h k⟩
theorem bytesLess_tri (a b : List UInt8) : Op.bytesLess a b = true ∨ a = b ∨ Op.bytesLess b a = true := by
  induction a generalizing b with
  | nil => cases b <;> simp [Op.bytesLess]
  | cons x a ih =>
    cases b with
    | nil => simp [Op.bytesLess]
    | cons y b =>
      simp only [Op.bytesLess, Bool.or_eq_true, Bool.and_eq_true, decide_eq_true_eq, beq_iff_eq, List.cons.injEq]
      rcases UInt8.lt_or_lt_of_ne (a := x) (b := y) |> fun f => (Classical.em (x = y)).elim (fun e => Or.inr e) (fun e => Or.inl (f e)) with (h | h) | rfl
      · exact .inl (.inl h)
      · exact .inr (.inr (.inl h))
      · rcases ih b with h | rfl | h
        · exact .inl (.inr ⟨rfl, h⟩)
        · exact .inr (.inl ⟨rfl, rfl⟩)
        · exact .inr (.inr (.inr ⟨rfl, h⟩))
theorem toList_inj {a b : ByteArray} (h : a.toList = b.toList) : a = b := by
  rw [ByteArray.toList_eq, ByteArray.toList_eq] at h
  obtain ⟨⟨x⟩⟩ := a; obtain ⟨⟨y⟩⟩ := b
  simp at h; subst h; rfl
theorem kLt_irrefl (a : ByteArray) : kLt a a = false := bytesLess_irrefl _
theorem kLt_trans {a b c : ByteArray} (h : kLt a b = true) (k : kLt b c = true) : kLt a c = true := bytesLess_trans h k
theorem kLt_tri (a b : ByteArray) : kLt a b = true ∨ a = b ∨ kLt b a = true := by
  rcases bytesLess_tri a.toList b.toList with h | h | h
  · exact .inl h
  · exact .inr (.inl (toList_inj h))
  · exact .inr (.inr h)
theorem kEq_iff {a b : ByteArray} : kEq a b = true ↔ a = b := by
  unfold kEq
  constructor
  · intro h; exact toList_inj (by simpa using h)
  · rintro rfl; simp
theorem kEq_false {a b : ByteArray} : kEq a b = false ↔ a ≠ b := by
  rw [← Bool.not_eq_true, kEq_iff]
theorem kLt_asymm {a b : ByteArray} (h : kLt a b = true) : kLt b a = false := by
  cases hb : kLt b a with
  | false => rfl
  | true => have := kLt_trans h hb; rw [kLt_irrefl] at this; cases this
theorem kLt_ne {a b : ByteArray} (h : kLt a b = true) : a ≠ b := by rintro rfl; rw [kLt_irrefl] at h; cases h
theorem not_kLt {a b : ByteArray} (h : kLt a b = false) : a = b ∨ kLt b a = true := by
  rcases kLt_tri a b with h1 | h1 | h1
  · rw [h] at h1; cases h1
  · exact .inl h1
  · exact .inr h1

def Sorted (l : List Ent) : Prop := l.Pairwise fun a b => kLt a.key b.key = true
theorem Sorted.key_inj {l : List Ent} (h : Sorted l) {a b : Ent} (ha : a ∈ l) (hb : b ∈ l) (hk : a.key = b.key) : a = b := by
  induction l with
  | nil => cases ha
  | cons x l ih =>
    obtain ⟨h1, h2⟩ := List.pairwise_cons.1 h
    rcases List.mem_cons.1 ha with e1 | ha1
    · rcases List.mem_cons.1 hb with e2 | hb1
      · rw [e1, e2]
      · subst e1; exact (kLt_ne (h1 _ hb1) hk).elim
    · rcases List.mem_cons.1 hb with e2 | hb1
      · subst e2; exact (kLt_ne (h1 _ ha1) hk.symm).elim
      · exact ih h2 ha1 hb1
theorem sorted_ext {a b : List Ent} (ha : Sorted a) (hb : Sorted b) (h : ∀ e, e ∈ a ↔ e ∈ b) : a = b := by
  induction a generalizing b with
  | nil => cases b with
    | nil => rfl
    | cons y b => have := (h y).2 (by simp); cases this
  | cons x a ih =>
    cases b with
    | nil => have := (h x).1 (by simp); cases this
    | cons y b =>
      obtain ⟨h1, h2⟩ := List.pairwise_cons.1 ha
      obtain ⟨h3, h4⟩ := List.pairwise_cons.1 hb
      have hxy : x = y := by
        rcases List.mem_cons.1 ((h x).1 (by simp)) with e | hx
        · exact e
        · rcases List.mem_cons.1 ((h y).2 (by simp)) with e | hy
          · exact e.symm
          · have := kLt_asymm (h1 _ hy); rw [h3 _ hx] at this; cases this
      subst hxy
      congr 1
      refine ih h2 h4 fun e => ⟨fun he => ?_, fun he => ?_⟩
      · rcases List.mem_cons.1 ((h e).1 (by simp [he])) with rfl | h5
        · exact (kLt_ne (h1 _ he) rfl).elim
        · exact h5
      · rcases List.mem_cons.1 ((h e).2 (by simp [he])) with rfl | h5
        · exact (kLt_ne (h3 _ he) rfl).elim
        · exact h5

/-! put -/
theorem mem_putLoop_true (x : Ent) (l : List Ent) (e : Ent) : e ∈ putLoop x l true ↔ e ∈ l ∧ e.key ≠ x.key := by
  induction l with
  | nil => simp [putLoop]
  | cons y l ih =>
    simp only [putLoop, Bool.not_true, Bool.false_and, Bool.true_or, List.mem_append, ih]
    cases hk : kEq y.key x.key with
    | true =>
      have hy := kEq_iff.1 hk
      simp only [Bool.not_true, Bool.false_eq_true, if_false, List.not_mem_nil, false_or, List.mem_cons]
      exact ⟨fun ⟨h1, h2⟩ => ⟨.inr h1, h2⟩, fun ⟨h1, h2⟩ => ⟨h1.resolve_left (fun e => h2 (e ▸ hy)), h2⟩⟩
    | false =>
      have hy := kEq_false.1 hk
      simp only [Bool.not_false, if_true, List.mem_cons, List.not_mem_nil, or_false, Bool.false_eq_true, if_false, false_or]
      exact ⟨fun h => h.elim (fun e => ⟨.inl e, e ▸ hy⟩) (fun ⟨h1, h2⟩ => ⟨.inr h1, h2⟩), fun ⟨h1, h2⟩ => h1.elim .inl (fun h => .inr ⟨h, h2⟩)⟩
theorem mem_put (x : Ent) (l : List Ent) (e : Ent) : e ∈ put l x ↔ e = x ∨ e ∈ l ∧ e.key ≠ x.key := by
  unfold put
  induction l with
  | nil => simp [putLoop]
  | cons y l ih =>
    simp only [putLoop, Bool.not_false, Bool.true_and, Bool.false_or, List.mem_append]
    cases hl : kLt y.key x.key with
    | true =>
      have hne : y.key ≠ x.key := kLt_ne hl
      simp only [Bool.not_true, Bool.false_eq_true, if_false, List.not_mem_nil, false_or, ih, kEq_false.2 hne, Bool.not_false, if_true, List.mem_cons, or_false]
      constructor
      · rintro (e1 | e1 | ⟨h1, h2⟩)
        · exact .inr ⟨.inl e1, e1 ▸ hne⟩
        · exact .inl e1
        · exact .inr ⟨.inr h1, h2⟩
      · rintro (e1 | ⟨e1 | h1, h2⟩)
        · exact .inr (.inl e1)
        · exact .inl e1
        · exact .inr (.inr ⟨h1, h2⟩)
    | false =>
      simp only [Bool.not_false, if_true, List.mem_cons, List.not_mem_nil, or_false, mem_putLoop_true]
      cases hk : kEq y.key x.key with
      | true =>
        have hy := kEq_iff.1 hk
        simp only [Bool.not_true, Bool.false_eq_true, if_false, List.not_mem_nil, false_or]
        exact ⟨fun h => h.elim .inl (fun ⟨h1, h2⟩ => .inr ⟨.inr h1, h2⟩), fun h => h.elim .inl (fun ⟨h1, h2⟩ => .inr ⟨h1.resolve_left (fun e => h2 (e ▸ hy)), h2⟩)⟩
      | false =>
        have hy := kEq_false.1 hk
        simp only [Bool.not_false, if_true, List.mem_cons, List.not_mem_nil, or_false]
        constructor
        · rintro (e1 | e1 | ⟨h1, h2⟩)
          · exact .inl e1
          · exact .inr ⟨.inl e1, e1 ▸ hy⟩
          · exact .inr ⟨.inr h1, h2⟩
        · rintro (e1 | ⟨e1 | h1, h2⟩)
          · exact .inl e1
          · exact .inr (.inl e1)
          · exact .inr (.inr ⟨h1, h2⟩)
theorem sorted_putLoop_true (x : Ent) (l : List Ent) (h : Sorted l) : Sorted (putLoop x l true) := by
  induction l with
  | nil => simp [putLoop, Sorted]
  | cons y l ih =>
    obtain ⟨h1, h2⟩ := List.pairwise_cons.1 h
    simp only [putLoop, Bool.not_true, Bool.false_and, Bool.true_or]
    cases hk : kEq y.key x.key with
    | true => simpa using ih h2
    | false => simp; exact List.pairwise_cons.2 ⟨fun z hz => h1 _ ((mem_putLoop_true x l z).1 hz).1, ih h2⟩
theorem sorted_put (x : Ent) (l : List Ent) (h : Sorted l) : Sorted (put l x) := by
  unfold put
  induction l with
  | nil => simp [putLoop, Sorted]
  | cons y l ih =>
    obtain ⟨h1, h2⟩ := List.pairwise_cons.1 h
    simp only [putLoop, Bool.not_false, Bool.true_and, Bool.false_or]
    cases hl : kLt y.key x.key with
    | true =>
      simp [kEq_false.2 (kLt_ne hl)]
      refine List.pairwise_cons.2 ⟨fun z hz => ?_, ih h2⟩
      rcases (mem_put x l z).1 hz with rfl | ⟨h3, _⟩
      · exact hl
      · exact h1 _ h3
    | false =>
      have hle := not_kLt hl
      have hx : ∀ z ∈ l, kLt x.key z.key = true := fun z hz => by
        rcases hle with e | e
        · rw [← e]; exact h1 _ hz
        · exact kLt_trans e (h1 _ hz)
      cases hk : kEq y.key x.key with
      | true => simp; exact List.pairwise_cons.2 ⟨fun z hz => hx z ((mem_putLoop_true x l z).1 hz).1, sorted_putLoop_true x l h2⟩
      | false =>
        simp
        have hxy : kLt x.key y.key = true := hle.resolve_left (kEq_false.1 hk)
        exact List.pairwise_cons.2 ⟨fun z hz => by
          rcases List.mem_cons.1 hz with rfl | hz
          · exact hxy
          · exact hx z ((mem_putLoop_true x l z).1 hz).1, List.pairwise_cons.2 ⟨fun z hz => h1 _ ((mem_putLoop_true x l z).1 hz).1, sorted_putLoop_true x l h2⟩⟩
theorem sorted_foldl_put (l : List Ent) : ∀ all, Sorted all → Sorted (l.foldl put all) := by
  induction l with
  | nil => intro all h; exact h
  | cons x l ih => intro all h; exact ih _ (sorted_put x all h)
theorem mem_foldl_put (l : List Ent) (hl : Sorted l) : ∀ all e, e ∈ l.foldl put all ↔ e ∈ l ∨ e ∈ all ∧ ∀ y ∈ l, e.key ≠ y.key := by
  induction l with
  | nil => intro all e; simp
  | cons x l ih =>
    obtain ⟨h1, h2⟩ := List.pairwise_cons.1 hl
    intro all e
    rw [List.foldl_cons, ih h2, mem_put]
    simp only [List.mem_cons, forall_eq_or_imp]
    constructor
    · rintro (h | ⟨rfl | ⟨h3, h4⟩, h5⟩)
      · exact .inl (.inr h)
      · exact .inl (.inl rfl)
      · exact .inr ⟨h3, h4, h5⟩
    · rintro ((rfl | h) | ⟨h3, h4, h5⟩)
      · exact .inr ⟨.inl rfl, fun y hy e => kLt_ne (h1 y hy) e⟩
      · exact .inl h
      · exact .inr ⟨.inr ⟨h3, h4⟩, h5⟩
theorem sorted_refAll (ls : List (List Ent)) : Sorted (refAll ls) := by
  induction ls with
  | nil => simp [refAll, Sorted]
  | cons l ls ih => exact sorted_foldl_put l _ ih
def AllSorted (ls : List (List Ent)) : Prop := ∀ l ∈ ls, Sorted l
theorem mem_refAll_cons (l : List Ent) (ls : List (List Ent)) (hl : Sorted l) (e : Ent) : e ∈ refAll (l :: ls) ↔ e ∈ l ∨ e ∈ refAll ls ∧ ∀ y ∈ l, e.key ≠ y.key := mem_foldl_put l hl _ e
theorem mem_refAll_some (ls : List (List Ent)) (h : AllSorted ls) (e : Ent) (he : e ∈ refAll ls) : ∃ l ∈ ls, e ∈ l := by
  induction ls with
  | nil => simp [refAll] at he
  | cons l ls ih =>
    rcases (mem_refAll_cons l ls (h l (by simp)) e).1 he with h1 | ⟨h1, _⟩
    · exact ⟨l, by simp, h1⟩
    · obtain ⟨l', h2, h3⟩ := ih (fun l hl => h l (by simp [hl])) h1
      exact ⟨l', by simp [h2], h3⟩

/-- Taking the head of one list away changes nothing but at its key. -/
theorem refAll_set (cl : List (List Ent)) (h : AllSorted cl) (i : Nat) (x : Ent) (xs : List Ent) (hi : cl[i]? = some (x :: xs)) (e : Ent) (he : e.key ≠ x.key) : e ∈ refAll cl ↔ e ∈ refAll (cl.set i xs) := by
  induction cl generalizing i with
  | nil => simp at hi
  | cons l cl ih =>
    have hl := h l (by simp)
    cases i with
    | zero =>
      simp at hi; subst hi
      rw [List.set_cons_zero, mem_refAll_cons _ _ hl, mem_refAll_cons _ _ (List.pairwise_cons.1 hl).2]
      simp only [List.mem_cons, forall_eq_or_imp]
      constructor
      · rintro ((rfl | h1) | ⟨h1, h2, h3⟩)
        · exact (he rfl).elim
        · exact .inl h1
        · exact .inr ⟨h1, h3⟩
      · rintro (h1 | ⟨h1, h2⟩)
        · exact .inl (.inr h1)
        · exact .inr ⟨h1, he, h2⟩
    | succ i =>
      rw [List.set_cons_succ, mem_refAll_cons _ _ hl, mem_refAll_cons _ _ hl, ih (fun l hl => h l (by simp [hl])) i (by simpa using hi)]
theorem allSorted_set {cl : List (List Ent)} (h : AllSorted cl) (i : Nat) (x : Ent) (xs : List Ent) (hi : cl[i]? = some (x :: xs)) : AllSorted (cl.set i xs) := by
  intro l hl
  rcases List.mem_or_eq_of_mem_set hl with h1 | rfl
  · exact h l h1
  · exact (List.pairwise_cons.1 (h (x :: l) (List.mem_of_getElem? hi))).2
/-- What least finds: the first of the least keys. -/
theorem leastTo_none {cl : List (List Ent)} {k : Nat} (h : leastTo cl k = none) : ∀ j, j < k → ∀ y ys, cl[j]? ≠ some (y :: ys) := by
  induction k with
  | zero => intro j hj; omega
  | succ k ih =>
    intro j hj y ys hy
    unfold leastTo at h
    split at h
    · split at h
      · cases h
      · split at h
        · split at h <;> cases h
        · cases h
    · rename_i hk
      rcases Nat.lt_or_ge j k with h1 | h1
      · exact ih h j h1 y ys hy
      · have : j = k := by omega
        subst this; exact hk y ys hy
theorem leastTo_least {cl : List (List Ent)} {k i : Nat} (h : leastTo cl k = some i) : ∀ x xs, cl[i]? = some (x :: xs) → ∀ j, j < k → ∀ y ys, cl[j]? = some (y :: ys) →
    (kLt y.key x.key = false) ∧ (j < i → kLt x.key y.key = true) := by
  induction k generalizing i with
  | zero => intro x xs _ j hj; omega
  | succ k ih =>
    intro x xs hx j hj y ys hy
    unfold leastTo at h
    split at h
    · rename_i z zs hz
      split at h
      · rename_i hn
        injection h with h; subst h
        rw [hz] at hx; injection hx with hx; injection hx with hx1 hx2; subst hx1
        rcases Nat.lt_or_ge j k with h1 | h1
        · exact (leastTo_none hn j h1 y ys hy).elim
        · have : j = k := by omega
          subst this
          rw [hz] at hy; injection hy with hy; injection hy with hy1 _; subst hy1
          exact ⟨kLt_irrefl _, fun h => by omega⟩
      · rename_i i' hi'
        obtain ⟨hik, a, as', ha⟩ := leastTo_spec cl k i' hi'
        rw [ha] at h
        simp only at h
        split at h
        · rename_i hlt
          injection h with h; subst h
          rw [hz] at hx; injection hx with hx; injection hx with hx1 _; subst hx1
          rcases Nat.lt_or_ge j k with h1 | h1
          · obtain ⟨h2, h3⟩ := ih hi' a as' ha j h1 y ys hy
            have h4 : kLt z.key y.key = true := by
              rcases not_kLt h2 with e | e
              · rw [e]; exact hlt
              · exact kLt_trans hlt e
            exact ⟨kLt_asymm h4, fun _ => h4⟩
          · have : j = k := by omega
            subst this
            rw [hz] at hy; injection hy with hy; injection hy with hy1 _; subst hy1
            exact ⟨kLt_irrefl _, fun h => by omega⟩
        · rename_i hlt
          injection h with h; subst h
          rcases Nat.lt_or_ge j k with h1 | h1
          · exact ih hi' x xs hx j h1 y ys hy
          · have : j = k := by omega
            subst this
            rw [hz] at hy; injection hy with hy; injection hy with hy1 _; subst hy1
            rw [ha] at hx; injection hx with hx; injection hx with hx1 _; subst hx1
            exact ⟨by simpa using hlt, fun h => by omega⟩
    · rename_i hk
      rcases Nat.lt_or_ge j k with h1 | h1
      · exact ih h x xs hx j h1 y ys hy
      · have : j = k := by omega
        subst this; exact (hk y ys hy).elim
theorem refAll_nil {cl : List (List Ent)} (h : ∀ l ∈ cl, l = []) : refAll cl = [] := by
  induction cl with
  | nil => rfl
  | cons l cl ih =>
    have h1 := h l (by simp); subst h1
    have := ih (fun l hl => h l (by simp [hl]))
    simpa [refAll] using this
theorem mem_refAll_first {cl : List (List Ent)} (h : AllSorted cl) {i : Nat} {x : Ent} {xs : List Ent} (hi : cl[i]? = some (x :: xs)) (hf : ∀ j, j < i → ∀ l, cl[j]? = some l → ∀ y ∈ l, x.key ≠ y.key) : x ∈ refAll cl := by
  induction cl generalizing i with
  | nil => simp at hi
  | cons l cl ih =>
    rw [mem_refAll_cons l cl (h l (by simp))]
    cases i with
    | zero => simp at hi; subst hi; exact .inl (by simp)
    | succ i => exact .inr ⟨ih (fun l hl => h l (by simp [hl])) (i := i) (by simpa using hi) (fun j hj l hl y hy => hf (j + 1) (by omega) l (by simpa using hl) y hy), fun y hy => hf 0 (by omega) l (by simp) y hy⟩
/-- The head of what is left, and the rest. -/
theorem refAll_least {cl : List (List Ent)} (h : AllSorted cl) {i : Nat} {x : Ent} {xs : List Ent} (hl : leastTo cl cl.length = some i) (hi : cl[i]? = some (x :: xs)) :
    refAll cl = x :: (refAll (cl.set i xs)).filter (fun e => !kEq e.key x.key) := by
  have hls := leastTo_least hl x xs hi
  have hmin : ∀ e ∈ refAll cl, kLt e.key x.key = false := by
    intro e he
    obtain ⟨l, hlm, hel⟩ := mem_refAll_some cl h e he
    obtain ⟨j, hj⟩ := List.mem_iff_getElem?.1 hlm
    cases l with
    | nil => cases hel
    | cons y ys =>
      have hjl : j < cl.length := (List.getElem?_eq_some_iff.1 hj).1
      have h1 := (hls j hjl y ys hj).1
      rcases List.mem_cons.1 hel with rfl | hel
      · exact h1
      · have h2 := (List.pairwise_cons.1 (h _ hlm)).1 e hel
        rcases not_kLt h1 with e1 | e1
        · rw [e1] at h2; exact kLt_asymm h2
        · exact kLt_asymm (kLt_trans e1 h2)
  have hx : x ∈ refAll cl := by
    refine mem_refAll_first h hi fun j hj l hlj y hy => ?_
    cases l with
    | nil => cases hy
    | cons z zs =>
      have hjl : j < cl.length := (List.getElem?_eq_some_iff.1 hlj).1
      have h1 := (hls j hjl z zs hlj).2 hj
      rcases List.mem_cons.1 hy with rfl | hy
      · exact kLt_ne h1
      · exact kLt_ne (kLt_trans h1 ((List.pairwise_cons.1 (h _ (List.mem_of_getElem? hlj))).1 y hy))
  refine sorted_ext (sorted_refAll cl) ?_ fun e => ?_
  · refine List.pairwise_cons.2 ⟨fun e he => ?_, (sorted_refAll _).filter _⟩
    rw [List.mem_filter] at he
    have hne : e.key ≠ x.key := kEq_false.1 (by simpa using he.2)
    have := hmin e ((refAll_set cl h i x xs hi e hne).2 he.1)
    exact (not_kLt this).resolve_left hne
  · rw [List.mem_cons, List.mem_filter]
    constructor
    · intro he
      by_cases hk : e.key = x.key
      · exact .inl ((sorted_refAll cl).key_inj he hx hk)
      · exact .inr ⟨(refAll_set cl h i x xs hi e hk).1 he, by simp [kEq_false.2 hk]⟩
    · rintro (rfl | ⟨h1, h2⟩)
      · exact hx
      · exact (refAll_set cl h i x xs hi e (kEq_false.1 (by simpa using h2))).2 h1
theorem mem_total {ls : List (List Ent)} {l : List Ent} (h : l ∈ ls) : l.length ≤ total ls := by
  induction ls with
  | nil => cases h
  | cons a ls ih =>
    simp only [total, List.map_cons, List.sum_cons] at *
    rcases List.mem_cons.1 h with e | h
    · subst e; omega
    · have := ih h; omega
theorem filter_key_cons (x : Ent) (r : List Ent) : (x :: r.filter (fun e => !kEq e.key x.key)).filter (fun e => !kEq e.key x.key) = r.filter (fun e => !kEq e.key x.key) := by
  rw [List.filter_cons, if_neg (by simp [kEq_iff.2 rfl]), List.filter_filter]
  simp
theorem mLoop_eq (drop : Bool) : ∀ (n : Nat) (cl : List (List Ent)) (last : Option ByteArray), total cl = n → AllSorted cl → (∀ s, last = some s → ∀ l ∈ cl, ∀ e ∈ l, kLt e.key s = false) →
    mLoop drop n cl last = ((refAll cl).filter fun e => !last.any (kEq e.key)).filter fun e => !drop || !e.gone := by
  intro n
  induction n with
  | zero =>
    intro cl last ht hs hb
    have : ∀ l ∈ cl, l = [] := by
      intro l hl
      have h0 : l.length ≤ total cl := by
        exact mem_total hl
      exact List.eq_nil_of_length_eq_zero (by omega)
    rw [refAll_nil this]; rfl
  | succ n ih =>
    intro cl last ht hs hb
    rcases hl : leastTo cl cl.length with _ | i
    · have : ∀ l ∈ cl, l = [] := by
        intro l hlm
        obtain ⟨j, hj⟩ := List.mem_iff_getElem?.1 hlm
        cases l with
        | nil => rfl
        | cons y ys => exact (leastTo_none hl j (List.getElem?_eq_some_iff.1 hj).1 y ys hj).elim
      rw [refAll_nil this]; simp [mLoop, hl]
    · obtain ⟨hil, x, xs, hi⟩ := leastTo_spec cl _ i hl
      have hts := total_set cl i x xs hi
      have hs' := allSorted_set hs i x xs hi
      have hxl : (x :: xs) ∈ cl := List.mem_of_getElem? hi
      have hsub : ∀ l ∈ cl.set i xs, ∀ e ∈ l, ∃ l' ∈ cl, e ∈ l' := by
        intro l hl e he
        rcases List.mem_or_eq_of_mem_set hl with h1 | rfl
        · exact ⟨l, h1, he⟩
        · exact ⟨x :: l, hxl, by simp [he]⟩
      have hrl := refAll_least hs hl hi
      simp only [mLoop, hl, hi]
      cases hd : last.any (fun s => kEq x.key s) with
      | true =>
        obtain ⟨s, rfl, hks⟩ : ∃ s, last = some s ∧ kEq x.key s = true := by
          cases last with
          | none => simp at hd
          | some s => exact ⟨s, rfl, by simpa using hd⟩
        have hks' := kEq_iff.1 hks; subst hks'
        rw [if_pos rfl, ih _ _ (by omega) hs' (fun s hs l hl e he => by obtain ⟨l', h1, h2⟩ := hsub l hl e he; exact hb s hs l' h1 e h2), hrl]
        congr 1
        exact (filter_key_cons x _).symm
      | false =>
        rw [if_neg (by simp)]
        have hbig : ∀ e ∈ refAll cl, last.any (kEq e.key) = false := by
          intro e he
          cases last with
          | none => rfl
          | some s =>
            have h1 : kEq x.key s = false := by simpa using hd
            have h2 := hb s rfl _ hxl x (by simp)
            have h3 : kLt s x.key = true := (not_kLt h2).resolve_left (kEq_false.1 h1)
            rw [hrl] at he
            have h4 : kLt s e.key = true := by
              rcases List.mem_cons.1 he with rfl | he
              · exact h3
              · have := sorted_refAll cl
                rw [hrl] at this
                exact kLt_trans h3 ((List.pairwise_cons.1 this).1 e he)
            have : e.key ≠ s := fun e1 => kLt_ne h4 e1.symm
            simpa using kEq_false.2 this
        have hf : (refAll cl).filter (fun e => !last.any (kEq e.key)) = refAll cl := by
          rw [List.filter_eq_self]; intro e he; simp [hbig e he]
        rw [hf, hrl, ih _ _ (by omega) hs' (fun s hs l hlm e he => by
          injection hs with hs; subst hs
          rcases List.mem_or_eq_of_mem_set hlm with h1 | rfl
          · obtain ⟨j, hj⟩ := List.mem_iff_getElem?.1 h1
            cases l with
            | nil => cases he
            | cons y ys =>
              have h2 := (leastTo_least hl x xs hi j (List.getElem?_eq_some_iff.1 hj).1 y ys hj).1
              rcases List.mem_cons.1 he with rfl | he
              · exact h2
              · have h3 := (List.pairwise_cons.1 (hs' _ hlm)).1 e he
                rcases not_kLt h2 with e1 | e1
                · rw [e1] at h3; exact kLt_asymm h3
                · exact kLt_asymm (kLt_trans e1 h3)
          · exact kLt_asymm ((List.pairwise_cons.1 (hs _ hxl)).1 e he))]
        rw [List.filter_cons]
        cases hk : (!drop || !x.gone) <;> simp
theorem mLists_eq (ls : List (List Ent)) (drop : Bool) (h : AllSorted ls) : mLists ls drop = refLists ls drop := by
  unfold mLists refLists
  rw [mLoop_eq drop _ ls none rfl h (fun s hs => by cases hs)]
  simp
theorem mem_refAll_append (xs ys : List (List Ent)) (h : AllSorted xs) (e : Ent) : e ∈ refAll (xs ++ ys) ↔ e ∈ refAll xs ∨ e ∈ refAll ys ∧ ∀ y ∈ refAll xs, e.key ≠ y.key := by
  induction xs with
  | nil => simp [refAll]
  | cons l xs ih =>
    have hl := h l (by simp)
    rw [List.cons_append, mem_refAll_cons _ _ hl, mem_refAll_cons _ _ hl, ih (fun l hl => h l (by simp [hl]))]
    constructor
    · rintro (h1 | ⟨h1 | ⟨h1, h2⟩, h3⟩)
      · exact .inl (.inl h1)
      · exact .inl (.inr ⟨h1, h3⟩)
      · refine .inr ⟨h1, fun y hy => ?_⟩
        rcases (mem_refAll_cons _ _ hl y).1 hy with h4 | ⟨h4, _⟩
        · exact h3 y h4
        · exact h2 y h4
    · rintro ((h1 | ⟨h1, h2⟩) | ⟨h1, h2⟩)
      · exact .inl h1
      · exact .inr ⟨.inl h1, h2⟩
      · have h3 : ∀ y ∈ l, e.key ≠ y.key := fun y hy => h2 y ((mem_refAll_cons _ _ hl y).2 (.inl hy))
        refine .inr ⟨.inr ⟨h1, fun y hy he => ?_⟩, h3⟩
        by_cases hk : ∀ z ∈ l, y.key ≠ z.key
        · exact h2 y ((mem_refAll_cons _ _ hl y).2 (.inr ⟨hy, hk⟩)) he
        · simp only [Classical.not_forall] at hk
          obtain ⟨z, hz, hkz⟩ := hk
          exact h3 z hz (he.trans (Classical.not_not.1 hkz))
theorem refLists_sorted (ls : List (List Ent)) (drop : Bool) : Sorted (refLists ls drop) := (sorted_refAll ls).filter _
theorem mem_refLists (ls : List (List Ent)) (drop : Bool) (e : Ent) : e ∈ refLists ls drop ↔ e ∈ refAll ls ∧ (!drop || !e.gone) = true := by
  unfold refLists; rw [List.mem_filter]
theorem merge_twice (ls : List (List Ent)) (h : AllSorted ls) (c : Nat) (drop : Bool) : mLists [mLists (ls.take c) false, mLists (ls.drop c) drop] drop = mLists ls drop := by
  have h1 : AllSorted (ls.take c) := fun l hl => h l (List.mem_of_mem_take hl)
  have h2 : AllSorted (ls.drop c) := fun l hl => h l (List.mem_of_mem_drop hl)
  rw [mLists_eq _ false h1, mLists_eq _ drop h2, mLists_eq ls drop h]
  have h3 : AllSorted [refLists (ls.take c) false, refLists (ls.drop c) drop] := by
    intro l hl
    simp at hl
    rcases hl with rfl | rfl <;> exact refLists_sorted _ _
  rw [mLists_eq _ drop h3]
  refine sorted_ext (refLists_sorted _ _) (refLists_sorted _ _) fun e => ?_
  rw [mem_refLists, mem_refLists]
  conv => rhs; rw [← List.take_append_drop c ls, mem_refAll_append _ _ h1]
  rw [mem_refAll_cons _ _ (refLists_sorted _ _), mem_refAll_cons _ _ (refLists_sorted _ _)]
  have hn : e ∉ refAll [] := by simp [refAll]
  have hm : ∀ y, y ∈ refLists (ls.take c) false ↔ y ∈ refAll (ls.take c) := fun y => by rw [mem_refLists]; simp
  simp only [hm, mem_refLists, hn, false_and, or_false]
  constructor
  · rintro ⟨h4 | ⟨⟨h4, _⟩, h5⟩, h6⟩
    · exact ⟨.inl h4, h6⟩
    · exact ⟨.inr ⟨h4, h5⟩, h6⟩
  · rintro ⟨h4 | ⟨h4, h5⟩, h6⟩
    · exact ⟨.inl h4, h6⟩
    · exact ⟨.inr ⟨⟨h4, h6⟩, h5⟩, h6⟩
theorem mLists_len (ls : List (List Ent)) (drop : Bool) : (mLists ls drop).length ≤ total ls := mLoop_len _ _ _ _
theorem entEq_refl (x : Ent) : entEq x x = true := by simp [entEq]
theorem sameB_refl (l : List Ent) : sameB l l = true := by
  induction l with
  | nil => rfl
  | cons x l ih => simp [sameB, entEq_refl, ih]
theorem entEq_iff {x y : Ent} : entEq x y = true ↔ x = y := by
  constructor
  · intro h
    simp [entEq] at h
    cases x; cases y
    obtain ⟨h1, h2, h3⟩ := h
    have := toList_inj h1; have := toList_inj h2
    simp_all
  · rintro rfl; exact entEq_refl x
end Go.Proofs.Ytcnkmfmdadmaaaa
