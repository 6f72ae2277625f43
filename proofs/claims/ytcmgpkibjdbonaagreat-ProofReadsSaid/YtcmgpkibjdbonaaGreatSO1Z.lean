/- Stable sorting, in plain Lean: what stays of the order of equals; what is sorted so is one list. -/
import Derived.Test.YtcmgpkibjdbonaaGreatV1Z
import Derived.Test.YtcmgpkibjdbonaaGreatG6Z
import Derived.Test.YtcmgpkibjdbonaaGreatV17Z
namespace Go.Proofs.YtcmgpkibjdbonaaGreat
open Go Go.RowKit
/-- A weak order. -/
structure WO {α : Type} (lt : α → α → Bool) : Prop where
  irr : ∀ x, lt x x = false
  asym : ∀ x y, lt x y = true → lt y x = false
  trans : ∀ x y z, lt x y = true → lt y z = true → lt x z = true
  neg : ∀ x y z, lt x y = false → lt y z = false → lt x z = false
section
variable {α : Type} {lt : α → α → Bool}
def eqv (lt : α → α → Bool) (x y : α) : Bool := !(lt x y) && !(lt y x)
/-- Equals keep their order. -/
def CE (lt : α → α → Bool) (l l' : List α) : Prop := ∀ z, l.filter (eqv lt z) = l'.filter (eqv lt z)
def Srt (lt : α → α → Bool) (l : List α) : Prop := l.Pairwise (fun x y => lt y x = false)
theorem CE.refl (l : List α) : CE lt l l := fun _ => rfl
theorem CE.symm {l l' : List α} (h : CE lt l l') : CE lt l' l := fun z => (h z).symm
theorem CE.trans {a b c : List α} (h : CE lt a b) (k : CE lt b c) : CE lt a c := fun z => (h z).trans (k z)
theorem CE.app {a b c d : List α} (h : CE lt a b) (k : CE lt c d) : CE lt (a ++ c) (b ++ d) := fun z => by rw [List.filter_append, List.filter_append, h z, k z]
theorem CE.mid {a b : List α} (p s : List α) (h : CE lt a b) : CE lt (p ++ a ++ s) (p ++ b ++ s) := ((CE.refl p).app h).app (CE.refl s)
theorem eqv_self (W : WO lt) (x : α) : eqv lt x x = true := by unfold eqv; rw [W.irr]; rfl
theorem CE.mem (W : WO lt) {a b : List α} (h : CE lt a b) {x : α} (hx : x ∈ a) : x ∈ b := by
  have : x ∈ a.filter (eqv lt x) := List.mem_filter.2 ⟨hx, eqv_self W x⟩
  rw [h x] at this
  exact (List.mem_filter.1 this).1
theorem CE.swap (W : WO lt) (u v : List α) (h : ∀ x ∈ u, ∀ y ∈ v, lt y x = true) : CE lt (u ++ v) (v ++ u) := by
  intro z
  rw [List.filter_append, List.filter_append]
  by_cases hu : u.filter (eqv lt z) = []
  · rw [hu, List.nil_append, List.append_nil]
  · have hv : v.filter (eqv lt z) = [] := by
      rw [List.filter_eq_nil_iff]
      intro y hy hzy
      obtain ⟨x, hx⟩ := List.exists_mem_of_ne_nil _ hu
      obtain ⟨hx1, hzx⟩ := List.mem_filter.1 hx
      have hyx := h x hx1 y hy
      simp only [eqv, Bool.and_eq_true, Bool.not_eq_true'] at hzx hzy
      rw [W.neg y z x hzy.2 hzx.1] at hyx; cases hyx
    rw [hv, List.nil_append, List.append_nil]
theorem Srt.app {a b : List α} (h1 : Srt lt a) (h2 : Srt lt b) (h : ∀ x ∈ a, ∀ y ∈ b, lt y x = false) : Srt lt (a ++ b) := List.pairwise_append.2 ⟨h1, h2, h⟩
/-- What is sorted and has the equals in their order is one list. -/
theorem srt_one (W : WO lt) : ∀ (a b : List α), Srt lt a → Srt lt b → CE lt a b → a = b
  | [], [], _, _, _ => rfl
  | [], y :: b, _, _, h => by have := (CE.mem W h.symm (x := y) (by simp)); cases this
  | x :: a, [], _, _, h => by have := (CE.mem W h (x := x) (by simp)); cases this
  | x :: a, y :: b, ha, hb, h => by
    have hxm := CE.mem W h (x := x) (by simp)
    have hym := CE.mem W h.symm (x := y) (by simp)
    have h1 : lt x y = false := by
      rcases List.mem_cons.1 hxm with rfl | hm
      · exact W.irr _
      · exact (List.pairwise_cons.1 hb).1 x hm
    have h2 : lt y x = false := by
      rcases List.mem_cons.1 hym with rfl | hm
      · exact W.irr _
      · exact (List.pairwise_cons.1 ha).1 y hm
    have e1 : eqv lt x y = true := by unfold eqv; rw [h1, h2]; rfl
    have hx := h x
    rw [List.filter_cons, List.filter_cons, if_pos (eqv_self W x), if_pos e1] at hx
    have hxy : x = y := (List.cons.inj hx).1
    subst hxy
    have ht : CE lt a b := fun z => by
      have hz := h z
      rw [List.filter_cons, List.filter_cons] at hz
      by_cases hc : eqv lt z x = true
      · rw [if_pos hc, if_pos hc] at hz; exact (List.cons.inj hz).2
      · rw [if_neg hc, if_neg hc] at hz; exact hz
    rw [srt_one W a b (List.pairwise_cons.1 ha).2 (List.pairwise_cons.1 hb).2 ht]
/-- Put behind its equals. -/
def insS (lt : α → α → Bool) (x : α) : List α → List α
  | [] => [x]
  | y :: r => if lt x y = true then x :: y :: r else y :: insS lt x r
def sortS (lt : α → α → Bool) (l : List α) : List α := l.foldl (fun a x => insS lt x a) []
theorem insS_mem {x z : α} : ∀ {l : List α}, z ∈ insS lt x l → z = x ∨ z ∈ l
  | [], h => .inl (List.mem_singleton.1 h)
  | y :: r, h => by
    unfold insS at h
    split at h
    · rcases List.mem_cons.1 h with rfl | h
      · exact .inl rfl
      · exact .inr h
    · rcases List.mem_cons.1 h with rfl | h
      · exact .inr (by simp)
      · rcases insS_mem h with h | h
        · exact .inl h
        · exact .inr (List.mem_cons_of_mem _ h)
theorem insS_srt (W : WO lt) (x : α) : ∀ (l : List α), Srt lt l → Srt lt (insS lt x l)
  | [], _ => List.pairwise_singleton _ _
  | y :: r, h => by
    obtain ⟨h1, h2⟩ := List.pairwise_cons.1 h
    unfold insS
    split
    · rename_i hc
      refine List.pairwise_cons.2 ⟨fun z hz => ?_, h⟩
      rcases List.mem_cons.1 hz with rfl | hz
      · exact W.asym _ _ hc
      · cases hzx : lt z x with
        | false => rfl
        | true => exact absurd (h1 z hz) (by rw [W.trans z x y hzx hc]; decide)
    · rename_i hc
      refine List.pairwise_cons.2 ⟨fun z hz => ?_, insS_srt W x r h2⟩
      rcases insS_mem hz with rfl | hz
      · simpa using hc
      · exact h1 z hz
theorem insS_ce (W : WO lt) (x : α) : ∀ (l : List α), Srt lt l → CE lt (l ++ [x]) (insS lt x l)
  | [], _ => CE.refl _
  | y :: r, h => by
    obtain ⟨h1, h2⟩ := List.pairwise_cons.1 h
    unfold insS
    split
    · rename_i hc
      refine CE.swap W (y :: r) [x] (fun z hz q hq => ?_)
      rw [List.mem_singleton.1 hq]
      rcases List.mem_cons.1 hz with rfl | hz
      · exact hc
      · cases hxz : lt x z with
        | true => rfl
        | false => rw [W.neg x z y hxz (h1 z hz)] at hc; cases hc
    · exact (CE.refl [y]).app (insS_ce W x r h2)
theorem sortS_go (W : WO lt) : ∀ (l a : List α), Srt lt a → Srt lt (l.foldl (fun a x => insS lt x a) a) ∧ CE lt (a ++ l) (l.foldl (fun a x => insS lt x a) a)
  | [], a, h => ⟨h, by rw [List.append_nil]; exact CE.refl a⟩
  | x :: l, a, h => by
    obtain ⟨i1, i2⟩ := sortS_go W l (insS lt x a) (insS_srt W x a h)
    refine ⟨i1, CE.trans ?_ i2⟩
    have := (insS_ce W x a h).app (CE.refl (lt := lt) l)
    rw [List.append_assoc] at this
    exact this
theorem sortS_srt (W : WO lt) (l : List α) : Srt lt (sortS lt l) := (sortS_go W l [] List.Pairwise.nil).1
theorem sortS_ce (W : WO lt) (l : List α) : CE lt l (sortS lt l) := (sortS_go W l [] List.Pairwise.nil).2
theorem sortS_of (W : WO lt) {l a : List α} (h1 : Srt lt a) (h2 : CE lt l a) : a = sortS lt l := srt_one W _ _ h1 (sortS_srt W l) (h2.symm.trans (sortS_ce W l))
/-! Cuts of sorted lists. -/
theorem srt_low (W : WO lt) {u : List α} {k : Nat} (h : Srt lt u) (hk : k < u.length) {x : α} (hx : lt u[k] x = true) : ∀ y ∈ u.take (k + 1), lt y x = true := by
  intro y hy
  obtain ⟨i, hi, rfl⟩ := List.getElem_of_mem hy
  rw [List.getElem_take]
  rw [List.length_take] at hi
  rcases Nat.lt_or_ge i k with h1 | h1
  · have := List.pairwise_iff_getElem.1 h i k (by omega) hk h1
    cases hyx : lt u[i] x with
    | true => rfl
    | false => rw [W.neg u[k] u[i] x this hyx] at hx; cases hx
  · have : i = k := by omega
    subst this; exact hx
theorem srt_high (W : WO lt) {u : List α} {k : Nat} (h : Srt lt u) (hk : k < u.length) {x : α} (hx : lt u[k] x = false) : ∀ y ∈ u.drop k, lt y x = false := by
  intro y hy
  obtain ⟨i, hi, rfl⟩ := List.getElem_of_mem hy
  rw [List.getElem_drop]
  rw [List.length_drop] at hi
  rcases Nat.eq_zero_or_pos i with h1 | h1
  · subst h1; exact hx
  · have := List.pairwise_iff_getElem.1 h k (k + i) hk (by omega) (by omega)
    exact W.neg _ _ _ this hx
theorem srt_low' (W : WO lt) {u : List α} {k : Nat} (h : Srt lt u) (hk : k < u.length) {x : α} (hx : lt x u[k] = false) : ∀ y ∈ u.take (k + 1), lt x y = false := by
  intro y hy
  obtain ⟨i, hi, rfl⟩ := List.getElem_of_mem hy
  rw [List.getElem_take]
  rw [List.length_take] at hi
  rcases Nat.lt_or_ge i k with h1 | h1
  · have := List.pairwise_iff_getElem.1 h i k (by omega) hk h1
    exact W.neg _ _ _ hx this
  · have : i = k := by omega
    subst this; exact hx
theorem srt_high' (W : WO lt) {u : List α} {k : Nat} (h : Srt lt u) (hk : k < u.length) {x : α} (hx : lt x u[k] = true) : ∀ y ∈ u.drop k, lt x y = true := by
  intro y hy
  obtain ⟨i, hi, rfl⟩ := List.getElem_of_mem hy
  rw [List.getElem_drop]
  rw [List.length_drop] at hi
  rcases Nat.eq_zero_or_pos i with h1 | h1
  · subst h1; exact hx
  · have := List.pairwise_iff_getElem.1 h k (k + i) hk (by omega) (by omega)
    cases hxy : lt x u[k + i] with
    | true => rfl
    | false => rw [W.neg x _ _ hxy this] at hx; cases hx
theorem Srt.take {l : List α} (h : Srt lt l) (n : Nat) : Srt lt (l.take n) := List.Pairwise.sublist (List.take_sublist n l) h
theorem Srt.drop {l : List α} (h : Srt lt l) (n : Nat) : Srt lt (l.drop n) := List.Pairwise.sublist (List.drop_sublist n l) h
/-- One element and a sorted row. -/
theorem merge_one_l (W : WO lt) {x : α} {v : List α} {k : Nat} (h : Srt lt v) (hk : k ≤ v.length) (h1 : k = 0 ∨ ∃ (h : k - 1 < v.length), lt v[k - 1] x = true) (h2 : k = v.length ∨ ∃ (h : k < v.length), lt v[k] x = false) :
    Srt lt (v.take k ++ [x] ++ v.drop k) ∧ CE lt ([x] ++ v) (v.take k ++ [x] ++ v.drop k) := by
  have hlow : ∀ y ∈ v.take k, lt y x = true := by
    rcases h1 with rfl | ⟨hb, hl⟩
    · intro y hy; cases hy
    · rcases Nat.eq_zero_or_pos k with h0 | h0
      · subst h0; intro y hy; cases hy
      · have := srt_low W h hb hl
        rwa [show k - 1 + 1 = k by omega] at this
  have hhigh : ∀ y ∈ v.drop k, lt y x = false := by
    rcases h2 with rfl | ⟨hb, hl⟩
    · intro y hy; rw [List.drop_length] at hy; cases hy
    · exact srt_high W h hb hl
  refine ⟨Srt.app (Srt.app (h.take k) (List.pairwise_singleton _ _) (fun y hy z hz => ?_)) (h.drop k) (fun y hy z hz => ?_), ?_⟩
  · rw [List.mem_singleton.1 hz]; exact W.asym _ _ (hlow y hy)
  · rcases List.mem_append.1 hy with hy | hy
    · have hp := h
      rw [← List.take_append_drop k v] at hp
      exact (List.pairwise_append.1 hp).2.2 y hy z hz
    · rw [List.mem_singleton.1 hy]; exact hhigh z hz
  · have := (CE.swap W [x] (v.take k) (fun a ha b hb => by rw [List.mem_singleton.1 ha]; exact hlow b hb)).app (CE.refl (lt := lt) (v.drop k))
    rw [List.append_assoc, List.take_append_drop] at this
    exact this
theorem merge_one_r (W : WO lt) {x : α} {u : List α} {k : Nat} (h : Srt lt u) (hk : k ≤ u.length) (h1 : k = 0 ∨ ∃ (h : k - 1 < u.length), lt x u[k - 1] = false) (h2 : k = u.length ∨ ∃ (h : k < u.length), lt x u[k] = true) :
    Srt lt (u.take k ++ [x] ++ u.drop k) ∧ CE lt (u ++ [x]) (u.take k ++ [x] ++ u.drop k) := by
  have hlow : ∀ y ∈ u.take k, lt x y = false := by
    rcases h1 with rfl | ⟨hb, hl⟩
    · intro y hy; cases hy
    · rcases Nat.eq_zero_or_pos k with h0 | h0
      · subst h0; intro y hy; cases hy
      · have := srt_low' W h hb hl
        rwa [show k - 1 + 1 = k by omega] at this
  have hhigh : ∀ y ∈ u.drop k, lt x y = true := by
    rcases h2 with rfl | ⟨hb, hl⟩
    · intro y hy; rw [List.drop_length] at hy; cases hy
    · exact srt_high' W h hb hl
  refine ⟨Srt.app (Srt.app (h.take k) (List.pairwise_singleton _ _) (fun y hy z hz => ?_)) (h.drop k) (fun y hy z hz => ?_), ?_⟩
  · rw [List.mem_singleton.1 hz]; exact hlow y hy
  · rcases List.mem_append.1 hy with hy | hy
    · have hp := h
      rw [← List.take_append_drop k u] at hp
      exact (List.pairwise_append.1 hp).2.2 y hy z hz
    · rw [List.mem_singleton.1 hy]; exact W.asym _ _ (hhigh z hz)
  · have := (CE.refl (lt := lt) (u.take k)).app (CE.swap W (u.drop k) [x] (fun a ha b hb => by rw [List.mem_singleton.1 hb]; exact hhigh a ha))
    rw [← List.append_assoc, List.take_append_drop, ← List.append_assoc] at this
    exact this
/-- Two halves, merged each by itself. -/
theorem merge_halves (W : WO lt) {u1 u2 v1 v2 w1 w2 : List α} (hu : Srt lt (u1 ++ u2)) (hv : Srt lt (v1 ++ v2)) (h1 : ∀ x ∈ u2, ∀ y ∈ v1, lt y x = true) (h2 : ∀ x ∈ u1, ∀ y ∈ v2, lt y x = false)
    (s1 : Srt lt w1) (c1 : CE lt (u1 ++ v1) w1) (s2 : Srt lt w2) (c2 : CE lt (u2 ++ v2) w2) : Srt lt (w1 ++ w2) ∧ CE lt ((u1 ++ u2) ++ (v1 ++ v2)) (w1 ++ w2) := by
  have hu3 := (List.pairwise_append.1 hu).2.2
  have hv3 := (List.pairwise_append.1 hv).2.2
  refine ⟨Srt.app s1 s2 (fun x hx y hy => ?_), ?_⟩
  · have hx := CE.mem W c1.symm hx
    have hy := CE.mem W c2.symm hy
    rcases List.mem_append.1 hx with hx | hx <;> rcases List.mem_append.1 hy with hy | hy
    · exact hu3 x hx y hy
    · exact h2 x hx y hy
    · exact W.asym _ _ (h1 y hy x hx)
    · exact hv3 x hx y hy
  · have a := CE.mid (lt := lt) u1 v2 (CE.swap W u2 v1 (fun x hx y hy => h1 x hx y hy))
    have b := c1.app c2
    refine CE.trans ?_ (CE.trans a ?_)
    · rw [show (u1 ++ u2) ++ (v1 ++ v2) = u1 ++ (u2 ++ v1) ++ v2 by simp only [List.append_assoc]]; exact CE.refl _
    · rw [show u1 ++ (v1 ++ u2) ++ v2 = (u1 ++ v1) ++ (u2 ++ v2) by simp only [List.append_assoc]]; exact b
end
theorem set_mid {α : Type} (p : List α) (x y : α) (s : List α) : (p ++ x :: s).set p.length y = p ++ y :: s := by
  rw [List.set_append_right _ _ (Nat.le_refl _), Nat.sub_self, List.set_cons_zero]
theorem get_mid {α : Type} (p : List α) (x : α) (s : List α) : (p ++ x :: s)[p.length]? = some x := by
  rw [List.getElem?_append_right (Nat.le_refl _), Nat.sub_self]; rfl
end Go.Proofs.YtcmgpkibjdbonaaGreat
set_option maxHeartbeats 16000000
set_option maxRecDepth 100000
namespace Go.Proofs.YtcmgpkibjdbonaaGreat
open Go Go.RowKit
theorem swap_at {α : Type} (P : List α) (x : α) (Q : List α) (y : α) (R : List α) : ((P ++ x :: (Q ++ y :: R)).set P.length y).set (P ++ x :: Q).length x = P ++ y :: (Q ++ x :: R) := by
  rw [set_mid]
  have h : P ++ y :: (Q ++ y :: R) = (P ++ y :: Q) ++ y :: R := by simp
  rw [h, show (P ++ x :: Q).length = (P ++ y :: Q).length by simp, set_mid]
  simp
theorem swap_get {α : Type} (P : List α) (x : α) (Q : List α) (y : α) (R : List α) : (P ++ x :: (Q ++ y :: R))[P.length]? = some x ∧ (P ++ x :: (Q ++ y :: R))[(P ++ x :: Q).length]? = some y := by
  refine ⟨get_mid _ _ _, ?_⟩
  rw [show P ++ x :: (Q ++ y :: R) = (P ++ x :: Q) ++ y :: R by simp]
  exact get_mid _ _ _
theorem swap_at' {α : Type} (P : List α) (x : α) (Q : List α) (y : α) (R : List α) : ((P ++ x :: (Q ++ y :: R)).set (P ++ x :: Q).length x).set P.length y = P ++ y :: (Q ++ x :: R) := by
  have hne : (P ++ x :: Q).length ≠ P.length := by simp only [List.length_append, List.length_cons]; omega
  rw [List.set_comm _ _ hne, swap_at]
theorem insS_at {α : Type} {lt : α → α → Bool} {x : α} : ∀ (S1 S2 : List α), (∀ s ∈ S1, lt x s = false) → (∀ s ∈ S2, lt x s = true) → insS lt x (S1 ++ S2) = S1 ++ x :: S2
  | [], [], _, _ => rfl
  | [], y :: r, _, h => by
    show insS lt x (y :: r) = _
    unfold insS; rw [if_pos (h y (by simp))]; rfl
  | y :: r, S2, h, k => by
    show insS lt x (y :: (r ++ S2)) = _
    unfold insS
    rw [if_neg (by rw [h y (by simp)]; decide), insS_at r S2 (fun s hs => h s (List.mem_cons_of_mem _ hs)) k]; rfl
theorem sortS_succ {α : Type} {lt : α → α → Bool} (l : List α) (k : Nat) (h : k < l.length) : sortS lt (l.take (k + 1)) = insS lt l[k] (sortS lt (l.take k)) := by
  unfold sortS; rw [List.take_succ_eq_append_getElem h, List.foldl_append]; rfl
theorem sortS_len {α : Type} {lt : α → α → Bool} (_W : WO lt) (l : List α) : (sortS lt l).length = l.length := by
  have h : ∀ (x : α) (a : List α), (insS lt x a).length = a.length + 1 := fun x a => by
    induction a with
    | nil => rfl
    | cons y r ih => unfold insS; split <;> simp [ih]
  have h2 : ∀ (l a : List α), (l.foldl (fun a x => insS lt x a) a).length = a.length + l.length := fun l => by
    induction l with
    | nil => intro a; rfl
    | cons x l ih => intro a; rw [List.foldl_cons, ih, h, List.length_cons]; omega
  unfold sortS; rw [h2]; simp
theorem get_U {α : Type} (A U V D : List α) (k : Nat) (h : k < U.length) : (A ++ U ++ V ++ D)[A.length + k]? = some U[k] := by
  rw [List.append_assoc, List.append_assoc, List.getElem?_append_right (by omega), List.getElem?_append_left (by omega), List.getElem?_eq_getElem (by omega)]
  congr 2; omega
theorem get_V {α : Type} (A U V D : List α) (k : Nat) (h : k < V.length) : (A ++ U ++ V ++ D)[A.length + U.length + k]? = some V[k] := by
  have h1 : (A ++ U).length = A.length + U.length := List.length_append
  rw [List.append_assoc (A ++ U), List.getElem?_append_right (by omega), List.getElem?_append_left (by omega), List.getElem?_eq_getElem (by omega)]
  congr 2; omega
theorem sym_cross {α : Type} {lt : α → α → Bool} (W : WO lt) {U V : List α} (sU : Srt lt U) (sV : Srt lt V) {k l : Nat} (_hk : k ≤ U.length) (_hl : l ≤ V.length)
    (hA : k = 0 ∨ l = V.length ∨ ∃ (h1 : k - 1 < U.length) (h2 : l < V.length), lt V[l] U[k - 1] = false) (hB : k = U.length ∨ l = 0 ∨ ∃ (h1 : k < U.length) (h2 : l - 1 < V.length), lt V[l - 1] U[k] = true) :
    (∀ x ∈ U.drop k, ∀ y ∈ V.take l, lt y x = true) ∧ (∀ x ∈ U.take k, ∀ y ∈ V.drop l, lt y x = false) := by
  constructor
  · rcases hB with h | h | ⟨h1, h2, h3⟩
    · rw [h, List.drop_length]; intro x hx; cases hx
    · rw [h]; intro x _ y hy; cases hy
    · intro x hx y hy
      have hl0 : l ≠ 0 := fun h => by rw [h] at hy; cases hy
      have hy2 := srt_low W sV h2 h3 y (by rw [show l - 1 + 1 = l by omega]; exact hy)
      have hx2 : lt x U[k] = false := srt_high W sU h1 (W.irr _) x hx
      cases hyx : lt y x with
      | true => rfl
      | false => rw [W.neg y x _ hyx hx2] at hy2; cases hy2
  · rcases hA with h | h | ⟨h1, h2, h3⟩
    · rw [h]; intro x hx; cases hx
    · rw [h, List.drop_length]; intro x _ y hy; cases hy
    · intro x hx y hy
      have hk0 : k ≠ 0 := fun h => by rw [h] at hx; cases hx
      have hy2 := srt_high W sV h2 h3 y hy
      have hx2 : lt U[k - 1] x = false := srt_low' W sU h1 (W.irr _) x (by rw [show k - 1 + 1 = k by omega]; exact hx)
      exact W.neg _ _ _ hy2 hx2
theorem sortS_id {α : Type} {lt : α → α → Bool} (W : WO lt) {l : List α} (h : Srt lt l) : sortS lt l = l := (sortS_of W h (CE.refl l)).symm
def Bk {α : Type} (lt : α → α → Bool) (bs : Nat) (l : List α) : Prop := ∀ k, Srt lt ((l.drop (k * bs)).take bs)
theorem Bk.nil {α : Type} {lt : α → α → Bool} (bs : Nat) : Bk lt bs [] := fun k => by rw [List.drop_nil, List.take_nil]; exact List.Pairwise.nil
theorem Bk.app {α : Type} {lt : α → α → Bool} {bs k : Nat} {P Q : List α} (h : Bk lt bs P) (hP : P.length = k * bs) (hQ : Srt lt Q) : Bk lt bs (P ++ Q) := by
  intro i
  by_cases hi : i < k
  · have h1 : (i + 1) * bs ≤ k * bs := Nat.mul_le_mul_right _ hi
    rw [Nat.add_mul, Nat.one_mul] at h1
    rw [List.drop_append_of_le_length (by omega), List.take_append_of_le_length (by rw [List.length_drop]; omega)]
    exact h i
  · have h1 : k * bs ≤ i * bs := Nat.mul_le_mul_right _ (by omega)
    rw [List.drop_append, List.drop_eq_nil_iff.2 (by omega), List.nil_append]
    exact (hQ.drop _).take _
theorem Bk.drop {α : Type} {lt : α → α → Bool} {bs : Nat} {R : List α} (h : Bk lt bs R) (j : Nat) : Bk lt bs (R.drop (j * bs)) := fun k => by
  rw [List.drop_drop, ← Nat.add_mul]; exact h _
end Go.Proofs.YtcmgpkibjdbonaaGreat
set_option maxHeartbeats 16000000
set_option maxRecDepth 100000
namespace Go.Proofs.YtcmgpkibjdbonaaGreat
open Go Go.RowKit
theorem swapRange_specI (v : Value) (gf : Fn) (gc : List AV) (A X B Y D : List Itm) (hX : X.length = Y.length) (hl : (A ++ X ++ B ++ Y ++ D).length ≤ 100000) :
    Spec Tryz.prog 226 [.own 0 v, .i .i64 (A.length : Nat), .i .i64 ((A ++ X ++ B).length : Nat), .i .i64 (X.length : Nat), .fn gf gc] [.row v 50 66 ((A ++ X ++ B ++ Y ++ D).map Itm.A)]
      (fun r os => r = .tup [] ∧ os = [.row v 50 66 ((A ++ Y ++ B ++ X ++ D).map Itm.A)]) := by
  refine spec_of TtOk [(0, .row v 50 66 ((A ++ X ++ B ++ Y ++ D).map Itm.A))] Tryz.func226 rfl Tryz.ntmps226 (by kernel_rfl) rfl rfl (fun C => ?_) rfl
  repeat' (first | refine Awp.seq ?_ | refine Awp.block ?_ | refine Awp.region ?_ | refine Ops.nil (nqA ?_) | (refine o_calm rfl TtOk rfl rfl rfl ?_ (fun _ => ?_); exact nd))
  refine Awp.loop (fun q : Nat => ⟨38, [(10, .i .i64 q), (0, .own 0 v), (1, .i .i64 (A.length : Nat)), (2, .i .i64 ((A ++ X ++ B).length : Nat)), (3, .i .i64 (X.length : Nat)), (4, .fn gf gc)], [(0, .row v 50 66 ((A ++ Y.take q ++ X.drop q ++ B ++ X.take q ++ Y.drop q ++ D).map Itm.A))]⟩) (fun q => q ≤ X.length) (fun q => X.length - q) [] 0 (Nat.zero_le _) ?_ ?_
  · refine ⟨rfl, ⟨sle_i rfl, sle_own, sle_i rfl, sle_i rfl, sle_i rfl, nqS, True.intro⟩, HLe.cons 0 rfl (HOLe.row ?_) .nil⟩
    simp
  intro k hk
  by_cases hlt : k < X.length
  · have hky : k < Y.length := by omega
    have e0 : A ++ Y.take k ++ X.drop k ++ B ++ X.take k ++ Y.drop k ++ D = (A ++ Y.take k) ++ X[k] :: ((X.drop (k + 1) ++ B ++ X.take k) ++ Y[k] :: (Y.drop (k + 1) ++ D)) := by
      rw [List.drop_eq_getElem_cons hlt, List.drop_eq_getElem_cons hky]; simp only [List.append_assoc, List.cons_append]
    have e1 : A ++ Y.take (k + 1) ++ X.drop (k + 1) ++ B ++ X.take (k + 1) ++ Y.drop (k + 1) ++ D = (A ++ Y.take k) ++ Y[k] :: ((X.drop (k + 1) ++ B ++ X.take k) ++ X[k] :: (Y.drop (k + 1) ++ D)) := by
      rw [List.take_succ_eq_append_getElem hlt, List.take_succ_eq_append_getElem hky]; simp only [List.append_assoc, List.cons_append, List.nil_append]
    have e2 := swap_at (A ++ Y.take k) X[k] (X.drop (k + 1) ++ B ++ X.take k) Y[k] (Y.drop (k + 1) ++ D)
    obtain ⟨e3, e4⟩ := swap_get (A ++ Y.take k) X[k] (X.drop (k + 1) ++ B ++ X.take k) Y[k] (Y.drop (k + 1) ++ D)
    rw [← e0] at e2 e3 e4
    rw [← e1] at e2
    generalize hL' : A ++ Y.take (k + 1) ++ X.drop (k + 1) ++ B ++ X.take (k + 1) ++ Y.drop (k + 1) ++ D = L' at e2
    have hll : (A ++ Y.take k ++ X.drop k ++ B ++ X.take k ++ Y.drop k ++ D).length = A.length + X.length + B.length + Y.length + D.length := by
      simp only [List.length_append, List.length_take, List.length_drop]; omega
    have h1 : (A ++ Y.take k).length = A.length + k := by simp only [List.length_append, List.length_take]; omega
    have h2 : ((A ++ Y.take k) ++ X[k] :: (X.drop (k + 1) ++ B ++ X.take k)).length = A.length + X.length + B.length + k := by simp only [List.length_append, List.length_take, List.length_drop, List.length_cons]; omega
    have h3 : (A ++ X ++ B).length = A.length + X.length + B.length := by simp only [List.length_append]
    have h4 : (A ++ X ++ B ++ Y ++ D).length = A.length + X.length + B.length + Y.length + D.length := by simp only [List.length_append]
    generalize A ++ Y.take k ++ X.drop k ++ B ++ X.take k ++ Y.drop k ++ D = L at e2 e3 e4 hll ⊢
    generalize X[k] = x at e2 e3 e4 h2
    generalize Y[k] = y at e2 e3 e4
    generalize (A ++ Y.take k).length = i1 at e2 e3 h1
    generalize ((A ++ Y.take k) ++ x :: (X.drop (k + 1) ++ B ++ X.take k)).length = i2 at e2 e4 h2
    generalize (A ++ X ++ B).length = bb at h3 ⊢
    have hne : i1 ≠ i2 := by omega
    repeat' (first | (refine o_storeRow TtOk rfl rfl rfl rfl rfl rfl (by assumption) ((List.getElem?_set_ne hne).trans (getq_map e4)) rfl rfl (by first | exact Nat.add_zero _ | rfl) ⟨rfl, rfl⟩ rfl rfl ?_) | (refine o_storeRow TtOk rfl rfl rfl rfl rfl rfl (by assumption) (getq_map e3) rfl rfl (by first | exact Nat.add_zero _ | rfl) ⟨rfl, rfl⟩ rfl rfl ?_) | (refine o_loadRow TtOk rfl rfl rfl rfl rfl (by assumption) (getq_map e4) rfl rfl (by first | exact Nat.add_zero _ | rfl) ⟨rfl, rfl⟩ ?_) | (refine o_loadRow TtOk rfl rfl rfl rfl rfl (by assumption) (getq_map e3) rfl rfl (by first | exact Nat.add_zero _ | rfl) ⟨rfl, rfl⟩ ?_) | (refine o_indexOwn TtOk rfl rfl rfl rfl rfl rfl rfl rfl i2 ?_ ?_ (fun bO hbO => ?_); omega; ((repeat' (first | rw [List.length_map] | rw [List.length_set])) <;> omega)) | (refine o_indexOwn TtOk rfl rfl rfl rfl rfl rfl rfl rfl i1 ?_ ?_ (fun bO hbO => ?_); omega; ((repeat' (first | rw [List.length_map] | rw [List.length_set])) <;> omega)) | refine Awp.seq ?_ | refine Awp.block ?_ | refine Awp.region ?_ | refine Ops.nil (nqA ?_) | refine Ops.nil (nqX ?_) | refine Awp.skip (nqA ?_) | (refine o_add rfl rfl rfl rfl ?_ ?_; omega) | (refine o_calm rfl TtOk rfl rfl rfl ?_ (fun _ => ?_); exact nd) | (refine a_condP rfl (fun hc => ?_) (fun hc => ?_)) <;> (try (exfalso; omega)) | refine a_any 3 [0] [29, 35] [] [0, 1, 2, 3, 4, 5, 6, 7, 8, 9, 10, 11, 12, 14, 15, 16, 17, 18, 13, 19, 20, 21, 22, 23] (by kernel_rfl) (by kernel_rfl) (by kernel_rfl) rfl rfl rfl ?_)
    refine ⟨k + 1, [], hlt, by show X.length - (k + 1) < X.length - k; omega, rfl, ⟨sle_i rfl, sle_own, sle_i rfl, sle_i rfl, sle_i rfl, nqS, True.intro⟩, HLe.cons 0 rfl (HOLe.row ?_) .nil⟩
    rw [hL', ← e2, List.map_set, List.map_set]; rfl
  · have hkx : k = X.length := by omega
    have e0 : A ++ Y.take k ++ X.drop k ++ B ++ X.take k ++ Y.drop k ++ D = A ++ Y ++ B ++ X ++ D := by
      rw [hkx, List.drop_length, List.take_length, hX, List.drop_length, List.take_length]; simp only [List.append_assoc, List.nil_append]
    rw [e0]
    generalize A ++ Y ++ B ++ X ++ D = L
    generalize (A ++ X ++ B).length = bb
    repeat' (first | refine Awp.seq ?_ | refine Awp.region ?_ | refine Ops.nil (nqA ?_) | refine Awp.exit (nqE ?_) | (refine o_calm rfl TtOk rfl rfl rfl ?_ (fun _ => ?_); exact nd) | (refine a_condP rfl (fun hc => ?_) (fun hc => ?_)) <;> (try (exfalso; omega)))
    exact end_none rfl [] [(0, _)] (HLe.cons 0 rfl (HOLe.refl _) .nil) ⟨rfl, rfl⟩ _ (.inr rfl)
theorem rotate_specI (v : Value) (gf : Fn) (gc : List AV) (A U V D : List Itm) (hU : 0 < U.length) (hV : 0 < V.length) (hl : (A ++ U ++ V ++ D).length ≤ 100000) :
    Spec Tryz.prog 225 [.own 0 v, .i .i64 (A.length : Nat), .i .i64 ((A ++ U).length : Nat), .i .i64 ((A ++ U ++ V).length : Nat), .fn gf gc] [.row v 50 66 ((A ++ U ++ V ++ D).map Itm.A)]
      (fun r os => r = .tup [] ∧ os = [.row v 50 66 ((A ++ V ++ U ++ D).map Itm.A)]) := by
  refine spec_of TtOk [(0, .row v 50 66 ((A ++ U ++ V ++ D).map Itm.A))] Tryz.func225 rfl Tryz.ntmps225 (by kernel_rfl) rfl rfl (fun C => ?_) rfl
  have h1 : (A ++ U).length = A.length + U.length := List.length_append
  have h2 : (A ++ U ++ V).length = A.length + U.length + V.length := by simp only [List.length_append]
  have h0 : (A ++ U ++ V ++ D).length = A.length + U.length + V.length + D.length := by simp only [List.length_append]
  obtain ⟨T, hT⟩ : ∃ T, A ++ V ++ U ++ D = T := ⟨_, rfl⟩
  rw [hT]
  generalize hmm : (A ++ U).length = m at h1 ⊢
  generalize (A ++ U ++ V).length = bb at h2 ⊢
  repeat' (first | refine Awp.seq ?_ | refine Awp.block ?_ | refine Awp.region ?_ | refine Ops.nil (nqA ?_) | (refine o_sub rfl rfl rfl rfl ?_ ?_; omega) | (refine o_calm rfl TtOk rfl rfl rfl ?_ (fun _ => ?_); exact nd))
  refine Awp.loop (fun q : List Itm × List Itm × List Itm × List Itm => ⟨58, [(10, .i .i64 (q.2.1.length : Nat)), (11, .i .i64 (q.2.2.1.length : Nat)), (0, .own 0 v), (2, .i .i64 m), (4, .fn gf gc)], [(0, .row v 50 66 ((q.1 ++ q.2.1 ++ q.2.2.1 ++ q.2.2.2).map Itm.A))]⟩)
    (fun q => 0 < q.2.1.length ∧ 0 < q.2.2.1.length ∧ q.1.length + q.2.1.length = m ∧ q.1 ++ q.2.2.1 ++ q.2.1 ++ q.2.2.2 = T ∧ (q.1 ++ q.2.1 ++ q.2.2.1 ++ q.2.2.2).length ≤ 100000) (fun q => q.2.1.length + q.2.2.1.length) [] (A, U, V, D) ⟨hU, hV, h1.symm, hT, hl⟩ ?_ ?_
  · exact ⟨rfl, ⟨sle_i (by show _ = ((U.length : Nat) : Int); omega), sle_i (by show _ = ((V.length : Nat) : Int); omega), sle_own, sle_i rfl, nqS, True.intro⟩, HLe.cons 0 rfl (HOLe.refl _) .nil⟩
  rintro ⟨P, X, Y, S⟩ ⟨hx, hy, hm, hg, hl3⟩
  dsimp only at hx hy hm hg hl3 ⊢
  have h4 : (P ++ X ++ Y ++ S).length = P.length + X.length + Y.length + S.length := by simp only [List.length_append]
  by_cases hgt : Y.length < X.length
  · have e1 : X.take Y.length ++ X.drop Y.length = X := List.take_append_drop _ _
    have hx1 : (X.take Y.length).length = Y.length := by rw [List.length_take]; omega
    have hx2 : (X.drop Y.length).length = X.length - Y.length := List.length_drop
    generalize X.take Y.length = X1 at e1 hx1
    generalize X.drop Y.length = X2 at e1 hx2
    subst e1
    have hxl : (X1 ++ X2).length = X1.length + X2.length := List.length_append
    have e2 : P ++ (X1 ++ X2) ++ Y ++ S = P ++ X1 ++ X2 ++ Y ++ S := by simp only [List.append_assoc]
    rw [e2] at hl3 h4 ⊢
    rw [hxl] at hx hm hgt hx2 h4 ⊢
    have hsw := swapRange_specI v gf gc P X1 X2 Y S hx1 hl3
    have hpl : (P ++ X1 ++ X2).length = m := by simp only [List.length_append]; omega
    rw [hpl, hx1] at hsw
    have e3 : P ++ Y ++ X2 ++ X1 ++ S = (P ++ Y) ++ X2 ++ X1 ++ S := rfl
    rw [e3] at hsw
    repeat' (first | refine Awp.seq ?_ | refine Awp.block ?_ | refine Awp.region ?_ | refine Ops.nil (nqA ?_) | refine Ops.nil (nqX ?_) | refine Awp.skip (nqA ?_) | (refine o_sub rfl rfl rfl rfl ?_ ?_; omega) | (refine o_calm rfl TtOk rfl rfl rfl ?_ (fun _ => ?_); exact nd) | (refine a_condP rfl (fun hc => ?_) (fun hc => ?_)) <;> (try (exfalso; omega)) | (refine a_condN rfl (fun hc => ?_) (fun hc => ?_)) <;> (try (exfalso; omega)) | (refine o_call [] [0] [0] rfl hsw ⟨sle_own, sle_i (by omega), sle_i (by omega), sle_i (by omega), nqS, True.intro⟩ rfl ⟨HOLe.refl _, True.intro⟩ rfl rfl ?_; rintro _ _ ⟨rfl, rfl⟩; refine ⟨_, rfl, rfl, ?_⟩))
    refine ⟨(P ++ Y, X2, X1, S), [], ⟨by show 0 < X2.length; omega, by show 0 < X1.length; omega, by show (P ++ Y).length + X2.length = m; rw [List.length_append]; omega, by rw [← hg]; simp only [List.append_assoc], by show ((P ++ Y) ++ X2 ++ X1 ++ S).length ≤ _; simp only [List.length_append] at hl3 ⊢; omega⟩, by show X2.length + X1.length < X1.length + X2.length + Y.length; omega, rfl, ⟨sle_i (by show _ = ((X2.length : Nat) : Int); omega), sle_i (by show _ = ((X1.length : Nat) : Int); omega), sle_own, sle_i rfl, nqS, True.intro⟩, HLe.cons 0 rfl (HOLe.refl _) .nil⟩
  by_cases hlt : X.length < Y.length
  · have e1 : Y.take (Y.length - X.length) ++ Y.drop (Y.length - X.length) = Y := List.take_append_drop _ _
    have hy1 : (Y.take (Y.length - X.length)).length = Y.length - X.length := by rw [List.length_take]; omega
    have hy2 : (Y.drop (Y.length - X.length)).length = X.length := by rw [List.length_drop]; omega
    generalize Y.take (Y.length - X.length) = Y1 at e1 hy1
    generalize Y.drop (Y.length - X.length) = Y2 at e1 hy2
    subst e1
    have hyl : (Y1 ++ Y2).length = Y1.length + Y2.length := List.length_append
    have e2 : P ++ X ++ (Y1 ++ Y2) ++ S = P ++ X ++ Y1 ++ Y2 ++ S := by simp only [List.append_assoc]
    rw [e2] at hl3 h4 ⊢
    rw [hyl] at hy hlt hgt hy1 h4 ⊢
    have hsw := swapRange_specI v gf gc P X Y1 Y2 S hy2.symm hl3
    have hpl : ((P ++ X ++ Y1).length : Int) = (m : Int) + Y1.length := by simp only [List.length_append]; omega
    rw [hpl] at hsw
    have e3 : P ++ Y2 ++ Y1 ++ X ++ S = P ++ Y2 ++ Y1 ++ (X ++ S) := by simp only [List.append_assoc]
    rw [e3] at hsw
    repeat' (first | refine Awp.seq ?_ | refine Awp.block ?_ | refine Awp.region ?_ | refine Ops.nil (nqA ?_) | refine Ops.nil (nqX ?_) | refine Awp.skip (nqA ?_) | (refine o_add rfl rfl rfl rfl ?_ ?_; omega) | (refine o_sub rfl rfl rfl rfl ?_ ?_; omega) | (refine o_calm rfl TtOk rfl rfl rfl ?_ (fun _ => ?_); exact nd) | (refine a_condP rfl (fun hc => ?_) (fun hc => ?_)) <;> (try (exfalso; omega)) | (refine a_condN rfl (fun hc => ?_) (fun hc => ?_)) <;> (try (exfalso; omega)) | (refine o_call [] [0] [0] rfl hsw ⟨sle_own, sle_i (by omega), sle_i (by omega), sle_i (by omega), nqS, True.intro⟩ rfl ⟨HOLe.refl _, True.intro⟩ rfl rfl ?_; rintro _ _ ⟨rfl, rfl⟩; refine ⟨_, rfl, rfl, ?_⟩))
    refine ⟨(P, Y2, Y1, X ++ S), [], ⟨by show 0 < Y2.length; omega, by show 0 < Y1.length; omega, by show P.length + Y2.length = m; omega, by rw [← hg]; simp only [List.append_assoc], by show (P ++ Y2 ++ Y1 ++ (X ++ S)).length ≤ _; simp only [List.length_append] at hl3 ⊢; omega⟩, by show Y2.length + Y1.length < X.length + (Y1.length + Y2.length); omega, rfl, ⟨sle_i (by show _ = ((Y2.length : Nat) : Int); omega), sle_i (by show _ = ((Y1.length : Nat) : Int); omega), sle_own, sle_i rfl, nqS, True.intro⟩, HLe.cons 0 rfl (HOLe.refl _) .nil⟩
  · have hxy : X.length = Y.length := by omega
    have hsw := swapRange_specI v gf gc P X [] Y S hxy (by rw [List.append_nil]; exact hl3)
    rw [List.append_nil, List.append_nil] at hsw
    have hpl : (P ++ X).length = m := by rw [List.length_append]; omega
    rw [hpl, hg] at hsw
    repeat' (first | refine Awp.seq ?_ | refine Awp.region ?_ | refine Ops.nil (nqA ?_) | refine Ops.nil (nqE ?_) | refine Awp.exit (nqA ?_) | (refine o_sub rfl rfl rfl rfl ?_ ?_; omega) | (refine o_calm rfl TtOk rfl rfl rfl ?_ (fun _ => ?_); exact nd) | (refine a_condN rfl (fun hc => ?_) (fun hc => ?_)) <;> (try (exfalso; omega)) | (refine o_call [] [0] [0] rfl hsw ⟨sle_own, sle_i (by omega), sle_i (by omega), sle_i (by omega), nqS, True.intro⟩ rfl ⟨HOLe.refl _, True.intro⟩ rfl rfl ?_; rintro _ _ ⟨rfl, rfl⟩; refine ⟨_, rfl, rfl, ?_⟩))
    exact end_none rfl [] [(0, _)] (HLe.cons 0 rfl (HOLe.refl _) .nil) ⟨rfl, rfl⟩ _ (.inr rfl)
end Go.Proofs.YtcmgpkibjdbonaaGreat
set_option maxHeartbeats 16000000
set_option maxRecDepth 100000
namespace Go.Proofs.YtcmgpkibjdbonaaGreat
open Go Go.RowKit
def ltCI (cmp : Itm → Itm → Int) (x y : Itm) : Bool := decide (cmp x y < 0)
theorem isort_specI (v : Value) (f : Nat) (gc : List AV) (ho : gc.all isOne = true) (cmp : Itm → Itm → Int) (hcmp : ∀ x y, Spec Tryz.prog f ([Itm.A x, Itm.A y] ++ gc) [] (fun v os => v = .i .i64 (cmp x y) ∧ os = [])) (W : WO (ltCI cmp)) (A X D : List Itm) (hl : (A ++ X ++ D).length ≤ 100000) :
    Spec Tryz.prog 223 [.own 0 v, .i .i64 (A.length : Nat), .i .i64 ((A ++ X).length : Nat), .fn (.func f) gc] [.row v 50 66 ((A ++ X ++ D).map Itm.A)]
      (fun r os => r = .tup [] ∧ os = [.row v 50 66 ((A ++ sortS (ltCI cmp) X ++ D).map Itm.A)]) := by
  refine spec_of TtOk [(0, .row v 50 66 ((A ++ X ++ D).map Itm.A))] Tryz.func223 rfl Tryz.ntmps223 (by kernel_rfl) rfl rfl (fun C => ?_) rfl
  have hb : (A ++ X).length = A.length + X.length := List.length_append
  have hl0 : (A ++ X ++ D).length = A.length + X.length + D.length := by simp only [List.length_append]
  generalize (A ++ X).length = b at hb ⊢
  repeat' (first | refine Awp.seq ?_ | refine Awp.block ?_ | refine Awp.region ?_ | refine Ops.nil (nqA ?_) | (refine o_add rfl rfl rfl rfl ?_ ?_; omega) | (refine o_calm rfl TtOk rfl rfl rfl ?_ (fun _ => ?_); exact nd))
  refine Awp.loop (fun q : Nat => ⟨53, [(8, .i .i64 ((A.length + q : Nat) : Int)), (0, .own 0 v), (1, .i .i64 (A.length : Nat)), (2, .i .i64 b), (3, .fn (.func f) gc)], [(0, .row v 50 66 ((A ++ sortS (ltCI cmp) (X.take q) ++ X.drop q ++ D).map Itm.A))]⟩) (fun q => 1 ≤ q ∧ q ≤ max 1 X.length) (fun q => X.length + 1 - q) [] 1 ⟨Nat.le_refl _, by omega⟩ ?_ ?_
  · have e1 : sortS (ltCI cmp) (X.take 1) = X.take 1 := by
      cases X with
      | nil => rfl
      | cons x l => rfl
    refine ⟨rfl, ⟨sle_i (by omega), sle_own, sle_i rfl, sle_i rfl, nqS, True.intro⟩, HLe.cons 0 rfl (HOLe.row ?_) .nil⟩
    have e2 : A ++ X.take 1 ++ X.drop 1 = A ++ X := by rw [List.append_assoc, List.take_append_drop]
    rw [e1, e2]
  rintro k ⟨hk1, hk⟩
  by_cases hlt : k < X.length
  · have hss := sortS_srt W (X.take k)
    have hsu := sortS_succ (lt := ltCI cmp) X k hlt
    have hsl := sortS_len W (X.take k)
    rw [List.length_take] at hsl
    have e0 : A ++ sortS (ltCI cmp) (X.take k) ++ X.drop k ++ D = A ++ sortS (ltCI cmp) (X.take k) ++ X[k] :: ([] ++ (X.drop (k + 1) ++ D)) := by
      rw [List.drop_eq_getElem_cons hlt]; simp only [List.append_assoc, List.cons_append, List.nil_append]
    rw [e0]
    have e9 : A ++ sortS (ltCI cmp) (X.take (k + 1)) ++ X.drop (k + 1) ++ D = A ++ insS (ltCI cmp) X[k] (sortS (ltCI cmp) (X.take k)) ++ (X.drop (k + 1) ++ D) := by
      rw [hsu]; simp only [List.append_assoc]
    have hR : (X.drop (k + 1) ++ D).length = X.length - (k + 1) + D.length := by rw [List.length_append, List.length_drop]
    obtain ⟨T, hT⟩ : ∃ T, A ++ sortS (ltCI cmp) (X.take (k + 1)) ++ X.drop (k + 1) ++ D = T := ⟨_, rfl⟩
    rw [hT] at e9
    have hk2 : min k X.length = k := by omega
    rw [hk2] at hsl
    generalize sortS (ltCI cmp) (X.take k) = S at hss hsl e9 ⊢
    generalize X[k] = x at e9 ⊢
    generalize X.drop (k + 1) ++ D = R at hR e9 ⊢
    repeat' (first | refine Awp.seq ?_ | refine Awp.block ?_ | refine Awp.region ?_ | refine Ops.nil (nqA ?_) | refine Awp.skip (nqA ?_) | (refine o_calm rfl TtOk rfl rfl rfl ?_ (fun _ => ?_); exact nd) | (refine a_condP rfl (fun hc => ?_) (fun hc => ?_)) <;> (try (exfalso; omega)))
    refine Awp.loop (fun q : List Itm × List Itm => ⟨53, [(9, .i .i64 ((A.length + q.1.length : Nat) : Int)), (8, .i .i64 ((A.length + k : Nat) : Int)), (0, .own 0 v), (1, .i .i64 (A.length : Nat)), (2, .i .i64 b), (3, .fn (.func f) gc)], [(0, .row v 50 66 ((A ++ q.1 ++ x :: (q.2 ++ R)).map Itm.A))]⟩) (fun q => q.1 ++ q.2 = S ∧ ∀ s ∈ q.2, ltCI cmp x s = true) (fun q => q.1.length) [] (S, []) ⟨List.append_nil _, fun s hs => by cases hs⟩ ?_ ?_
    · exact ⟨rfl, ⟨sle_i (by show _ = ((A.length + S.length : Nat) : Int); omega), sle_i rfl, sle_own, sle_i rfl, sle_i rfl, nqS, True.intro⟩, HLe.cons 0 rfl (HOLe.refl _) .nil⟩
    rintro ⟨S1, S2⟩ ⟨hS, hS2⟩
    dsimp only at hS hS2 ⊢
    have hSl : S1.length + S2.length = S.length := by rw [← hS, List.length_append]
    rcases List.eq_nil_or_concat S1 with h1 | ⟨S0, y, h1⟩
    · subst h1
      have hi := insS_at (lt := ltCI cmp) (x := x) [] S2 (fun s hs => by cases hs) hS2
      have hT2 : A ++ [] ++ x :: (S2 ++ R) = T := by rw [e9, ← hS, hi]; simp only [List.append_assoc, List.cons_append, List.nil_append]
      rw [hT2]
      have hnil : ([] : List Itm).length = 0 := rfl
      repeat' (first | refine Awp.seq ?_ | refine Awp.region ?_ | refine Ops.nil (nqA ?_) | refine Ops.nil (nqX ?_) | refine Awp.exit (nqA ?_) | refine o_noT rfl rfl rfl ?_ | (refine o_add rfl rfl rfl rfl ?_ ?_; omega) | (refine o_calm rfl TtOk rfl rfl rfl ?_ (fun _ => ?_); exact nd) | (fail_if_success (refine o_isLit rfl (by first | exact .inl rfl | exact .inr rfl) ?_)); (refine o_splitP rfl rfl (fun hc => ?_) (fun hc => ?_) <;> try (exfalso; omega)) | refine a_condF rfl ?_ | refine a_any 4 [] [] [] [0, 1, 2, 3, 4, 5, 6, 7, 9, 10, 11, 12, 8, 13, 14, 15, 16] (by kernel_rfl) (by kernel_rfl) (by kernel_rfl) rfl rfl rfl ?_)
      refine ⟨k + 1, [], ⟨by omega, by omega⟩, by omega, rfl, ⟨sle_i (by omega), sle_own, sle_i rfl, sle_i rfl, nqS, True.intro⟩, HLe.cons 0 rfl (HOLe.row ?_) .nil⟩
      rw [hT]
    · rw [List.concat_eq_append] at h1
      subst h1
      have hlen0 : (S0 ++ [y]).length = S0.length + 1 := by simp
      have e0 : A ++ (S0 ++ [y]) ++ x :: (S2 ++ R) = (A ++ S0) ++ y :: ([] ++ x :: (S2 ++ R)) := by simp only [List.append_assoc, List.cons_append, List.nil_append]
      have e2 := swap_at' (A ++ S0) y [] x (S2 ++ R)
      obtain ⟨e3, e4⟩ := swap_get (A ++ S0) y [] x (S2 ++ R)
      have hL2 : (A ++ S0) ++ x :: ([] ++ y :: (S2 ++ R)) = A ++ S0 ++ x :: ((y :: S2) ++ R) := by simp only [List.append_assoc, List.cons_append, List.nil_append]
      rw [hL2] at e2
      rw [← e0] at e2 e3 e4
      have i1e : (A ++ S0).length = A.length + S0.length := List.length_append
      have i2e : ((A ++ S0) ++ y :: []).length = A.length + S0.length + 1 := by simp only [List.length_append, List.length_cons, List.length_nil]
      have hll : (A ++ (S0 ++ [y]) ++ x :: (S2 ++ R)).length = A.length + S0.length + 1 + (S2.length + R.length + 1) := by simp only [List.length_append, List.length_cons, List.length_nil]; omega
      have hcx := hcmp x y
      have hlt2 : ltCI cmp x y = decide (cmp x y < 0) := rfl
      generalize (A ++ S0).length = i1 at i1e e2 e3
      generalize ((A ++ S0) ++ y :: []).length = i2 at i2e e2 e4
      obtain ⟨L, hL⟩ : ∃ L, A ++ (S0 ++ [y]) ++ x :: (S2 ++ R) = L := ⟨_, rfl⟩
      rw [hL] at e2 e3 e4 hll ⊢
      have hne : i2 ≠ i1 := by omega
      generalize hcv : cmp x y = cv at hcx hlt2
      repeat' (first | (refine o_storeRow TtOk rfl rfl rfl rfl rfl rfl (by assumption) ((List.getElem?_set_ne hne).trans (getq_map e3)) rfl rfl (by first | exact Nat.add_zero _ | rfl) ⟨rfl, rfl⟩ rfl rfl ?_) | (refine o_storeRow TtOk rfl rfl rfl rfl rfl rfl (by assumption) (getq_map e4) rfl rfl (by first | exact Nat.add_zero _ | rfl) ⟨rfl, rfl⟩ rfl rfl ?_) | (refine o_loadRow TtOk rfl rfl rfl rfl rfl (by assumption) (getq_map e4) rfl rfl (by first | exact Nat.add_zero _ | rfl) ⟨rfl, rfl⟩ ?_) | (refine o_loadRow TtOk rfl rfl rfl rfl rfl (by assumption) (getq_map e3) rfl rfl (by first | exact Nat.add_zero _ | rfl) ⟨rfl, rfl⟩ ?_) | (refine o_indexOwn TtOk rfl rfl rfl rfl rfl rfl rfl rfl i2 ?_ ?_ (fun bO hbO => ?_); omega; ((repeat' (first | rw [List.length_map] | rw [List.length_set])) <;> omega)) | (refine o_indexOwn TtOk rfl rfl rfl rfl rfl rfl rfl rfl i1 ?_ ?_ (fun bO hbO => ?_); omega; ((repeat' (first | rw [List.length_map] | rw [List.length_set])) <;> omega)) | refine Awp.seq ?_ | refine Awp.block ?_ | refine Awp.region ?_ | refine Ops.nil (nqA ?_) | refine Ops.nil (nqX ?_) | refine Awp.skip (nqA ?_) | refine Awp.exit (nqA ?_) | (refine o_add rfl rfl rfl rfl ?_ ?_; omega) | (refine o_sub rfl rfl rfl rfl ?_ ?_; omega) | (refine o_calm rfl TtOk rfl rfl rfl ?_ (fun _ => ?_); exact nd) | (fail_if_success (refine o_isLit rfl (by first | exact .inl rfl | exact .inr rfl) ?_)); (refine o_splitP rfl rfl (fun hc => ?_) (fun hc => ?_) <;> try (exfalso; omega)) | (refine a_condP rfl (fun hc => ?_) (fun hc => ?_)) <;> (try (exfalso; omega)) | refine a_any 4 [] [] [] [0, 1, 2, 3, 4, 5, 6, 7, 9, 10, 11, 12, 8, 13, 14, 15, 16] (by kernel_rfl) (by kernel_rfl) (by kernel_rfl) rfl rfl rfl ?_ | refine a_any 6 [0] [46, 50] [] [0, 1, 2, 3, 4, 5, 6, 7, 8, 10, 11, 12, 9, 13, 14, 15, 16, 17] (by kernel_rfl) (by kernel_rfl) (by kernel_rfl) rfl rfl rfl ?_ | (refine o_callClo rfl rfl ho hcx ⟨nqS, nqS, argsLe_self _⟩ rfl rfl ?_; rintro _ _ ⟨rfl, rfl⟩; refine ⟨rfl, ?_⟩))
      · have hxy : ltCI cmp x y = true := by rw [hlt2]; exact decide_eq_true (by assumption)
        refine ⟨(S0, y :: S2), [], ⟨by rw [← hS]; simp only [List.append_assoc, List.cons_append, List.nil_append], fun s hs => ?_⟩, by show S0.length < (S0 ++ [y]).length; omega, rfl, ⟨sle_i (by show _ = ((A.length + S0.length : Nat) : Int); omega), sle_i rfl, sle_own, sle_i rfl, sle_i rfl, nqS, True.intro⟩, HLe.cons 0 rfl (HOLe.row ?_) .nil⟩
        · rcases List.mem_cons.1 hs with rfl | hs
          · exact hxy
          · exact hS2 s hs
        · show _ = List.map Itm.A (A ++ S0 ++ x :: ((y :: S2) ++ R))
          rw [← e2, List.map_set, List.map_set]; rfl
      · have hxy : ltCI cmp x y = false := by rw [hlt2]; exact decide_eq_false (by assumption)
        have hS1 : Srt (ltCI cmp) (S0 ++ [y]) := by rw [← hS] at hss; exact (List.pairwise_append.1 hss).1
        have hall : ∀ s ∈ S0 ++ [y], ltCI cmp x s = false := fun s hs => by
          rcases List.mem_append.1 hs with hs | hs
          · exact W.neg x y s hxy ((List.pairwise_append.1 hS1).2.2 s hs y (by simp))
          · rw [List.mem_singleton.1 hs]; exact hxy
        have hi := insS_at (lt := ltCI cmp) (x := x) (S0 ++ [y]) S2 hall hS2
        have hT2 : L = T := by rw [e9, ← hS, hi, ← hL]; simp only [List.append_assoc, List.cons_append, List.nil_append]
        refine ⟨k + 1, [], ⟨by omega, by omega⟩, by omega, rfl, ⟨sle_i (by omega), sle_own, sle_i rfl, sle_i rfl, nqS, True.intro⟩, HLe.cons 0 rfl (HOLe.row ?_) .nil⟩
        rw [hT, hT2]
  · have e0 : A ++ sortS (ltCI cmp) (X.take k) ++ X.drop k ++ D = A ++ sortS (ltCI cmp) X ++ D := by
      rw [List.take_of_length_le (by omega), List.drop_eq_nil_iff.2 (by omega), List.append_nil]
    rw [e0]
    generalize A ++ sortS (ltCI cmp) X ++ D = L
    repeat' (first | refine Awp.seq ?_ | refine Awp.region ?_ | refine Ops.nil (nqA ?_) | refine Awp.exit (nqE ?_) | (refine o_calm rfl TtOk rfl rfl rfl ?_ (fun _ => ?_); exact nd) | (refine a_condP rfl (fun hc => ?_) (fun hc => ?_)) <;> (try (exfalso; omega)))
    exact end_none rfl [] [(0, _)] (HLe.cons 0 rfl (HOLe.refl _) .nil) ⟨rfl, rfl⟩ _ (.inr rfl)
end Go.Proofs.YtcmgpkibjdbonaaGreat
