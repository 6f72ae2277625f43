/- Words for memory used by all walks of this claim: what a call leaves alone (Mod), whole blocks (Blk), slices that read as lists (Sl), rows of the call's own (Own). No program in sight. -/
import Derived.WalkKit
import Derived.RegionTactic
import Derived.Deep.QuietTactic
import Derived.BigQuiet
import Derived.WalkSpells
import Derived.WalkLawsBesides
import Derived.Lib.Hide
import Derived.Outline
import Derived.Deep.LoopGhost
import Derived.Deep.Cut
import Derived.Deep.Draws
import Derived.Deep.AppendLies
import Derived.Maps.AppendAt
import Derived.StillTailTactics
import Derived.Deep.RegionHeld3
import Derived.Deep.DeepMust
namespace Go.Proofs.Ytnmnhnlebkebfaa
open Go.RowKit

/-- Blocks outside S are as they were; nothing has gone. -/
structure Mod (S : Nat → Prop) (w w' : World) : Prop where
  os : w'.os = w.os
  tape : w'.tape = w.tape
  output : w'.output = w.output
  size : w.heap.size ≤ w'.heap.size
  block : ∀ k, k < w.heap.size → ¬ S k → w'.heap[k]? = w.heap[k]?

def None_ : Nat → Prop := fun _ => False

section
variable {S T : Nat → Prop} {w w' a b c : World}
theorem Mod.refl (S : Nat → Prop) (w : World) : Mod S w w := ⟨rfl, rfl, rfl, Nat.le_refl _, fun _ _ _ => rfl⟩
theorem Mod.one (w : World) (b : Nat) : Mod (fun k => k = b) w w := Mod.refl _ w
theorem Mod.set1 {b : Nat} (h : Mod (fun k => k = b) a w) (i : Nat) (u : Value) : Mod (fun k => k = b) a (w.setCell ⟨b, i, none⟩ u) :=
  ⟨h.os, h.tape, h.output, by simpa [World.setCell] using h.size, fun k hk hn => (Below.heap_setCell w ⟨b, i, none⟩ u k hn).trans (h.block k hk hn)⟩
theorem Mod.trans_ (h : Mod S a b) (k : Mod T b c) (hs : ∀ i, i < a.heap.size → T i → S i) : Mod S a c :=
  ⟨k.os.trans h.os, k.tape.trans h.tape, k.output.trans h.output, Nat.le_trans h.size k.size,
   fun i hi hn => (k.block i (Nat.lt_of_lt_of_le hi h.size) (fun ht => hn (hs i hi ht))).trans (h.block i hi hn)⟩
theorem Mod.trans (h : Mod S a b) (k : Mod S b c) : Mod S a c := h.trans_ k (fun _ _ x => x)
theorem Mod.mono (h : Mod S a b) (hs : ∀ i, i < a.heap.size → S i → T i) : Mod T a b :=
  ⟨h.os, h.tape, h.output, h.size, fun i hi hn => h.block i hi (fun x => hn (hs i hi x))⟩
theorem Mod.drew (h : Mod S a w) : Mod S a w.drew := ⟨h.os, h.tape, h.output, h.size, h.block⟩
theorem Mod.drewN (h : Mod S a w) (n : Nat) : Mod S a (w.drewN n) := ⟨h.os, h.tape, h.output, h.size, h.block⟩
theorem Mod.alloc (h : Mod S a w) (o : Obj) : Mod S a (w.alloc o) :=
  ⟨h.os, h.tape, h.output, Nat.le_trans h.size (by simp), fun i hi hn => (Below.heap_alloc w o i (Nat.lt_of_lt_of_le hi h.size)).trans (h.block i hi hn)⟩
theorem Mod.setCell (h : Mod S a w) {p : Addr} (hp : p.block < a.heap.size → S p.block) (u : Value) : Mod S a (w.setCell p u) :=
  ⟨h.os, h.tape, h.output, by simpa [World.setCell] using h.size, fun i hi hn => (Below.heap_setCell w p u i (by
    rintro rfl
    exact hn (hp hi))).trans (h.block i hi hn)⟩
theorem Mod.grown {row : Option Nat} (h : Mod S a w) (hg : w.grownBy w' row) (hr : ∀ k, row = some k → k < a.heap.size → S k) : Mod S a w' :=
  ⟨hg.os.trans h.os, hg.tape.trans h.tape, hg.output.trans h.output, Nat.le_trans h.size hg.size,
   fun i hi hn => (hg.block i (Nat.lt_of_lt_of_le hi h.size) (fun e => hn (hr i e.symm hi))).trans (h.block i hi hn)⟩
theorem Mod.of_below (h : Below w.heap.size w w') : Mod S w w' := ⟨h.os, h.tape, h.output, h.size, fun k hk _ => h.block k hk⟩
theorem Mod.to_below (h : Mod S w w') {B : Nat} (hS : ∀ k, k < B → ¬ S k) (hB : B ≤ w.heap.size) : Below B w w' :=
  ⟨h.os, h.tape, h.output, h.size, fun k hk => h.block k (Nat.lt_of_lt_of_le hk hB) (hS k hk)⟩
theorem Mod.cell (h : Mod S w w') {p : Addr} (hp : p.block < w.heap.size) (hn : ¬ S p.block) : w'.cell? p = w.cell? p := World.cell?_of_block (h.block p.block hp hn)
theorem Mod.frozen (h : Mod S w w') {p : Addr} (hp : p.block < w.heap.size) (hn : ¬ S p.block) : w'.frozen? p = w.frozen? p := World.frozen?_of_block (h.block p.block hp hn)
theorem Mod.cell_some (h : Mod S w w') {p : Addr} {v : Value} (hv : w.cell? p = some v) (hn : ¬ S p.block) : w'.cell? p = some v :=
  (h.cell (World.block_lt_of_cell? w p hv) hn).trans hv
theorem cell_alloc {w : World} {p : Addr} {v : Value} (h : w.cell? p = some v) (o : Obj) : (w.alloc o).cell? p = some v :=
  (World.cell?_alloc_lt w o p (World.block_lt_of_cell? w p h)).trans h
theorem Own.far_ {k g : Nat} {v : Value} (h : ∀ j, v.ownBlock = some j → g ≤ j ∧ j < k) : some k ≠ v.ownBlock := by
  intro e; have := h k e.symm; omega
theorem below_drewN {B : Nat} (h : Below B a w) (n : Nat) : Below B a (w.drewN n) := ⟨h.os, h.tape, h.output, h.size, h.block⟩
end

/-- Block g is just the cells cs of element type t, none frozen. -/
def Blk (w : World) (g : Nat) (t : TypeId) (cs : Array Value) : Prop := w.heap[g]? = some (.cells cs t (0, 0))
section
variable {w w' : World} {g : Nat} {t : TypeId} {cs : Array Value} {S : Nat → Prop}
theorem Blk.lt (h : Blk w g t cs) : g < w.heap.size := by
  rcases Nat.lt_or_ge g w.heap.size with hlt | hge
  · exact hlt
  · unfold Blk at h; rw [Array.getElem?_eq_none hge] at h; cases h
theorem Blk.cell (h : Blk w g t cs) (i : Nat) : w.cell? ⟨g, i, none⟩ = cs[i]? := cell_of_row w g i cs t (0, 0) h
theorem Blk.frozen (h : Blk w g t cs) (i : Nat) : w.frozen? ⟨g, i, none⟩ = false := by
  unfold Blk at h
  simp [World.frozen?, h]
theorem Blk.new (w : World) (t : TypeId) (cs : Array Value) : Blk (w.alloc (.cells cs t)) w.heap.size t cs := heap_alloc_new w _
theorem Blk.new_ {w : World} {g : Nat} {t : TypeId} {cs : Array Value} (h : g = w.heap.size) : Blk (w.alloc (.cells cs t)) g t cs := by subst h; exact Blk.new w t cs
theorem Blk.drew (h : Blk w g t cs) : Blk w.drew g t cs := h
theorem Blk.drewN (h : Blk w g t cs) (n : Nat) : Blk (w.drewN n) g t cs := h
theorem Blk.alloc (h : Blk w g t cs) (o : Obj) : Blk (w.alloc o) g t cs := (Below.heap_alloc w o g h.lt).trans h
theorem Blk.set_ (h : Blk w g t cs) (i : Nat) (u : Value) : Blk (w.setCell ⟨g, i, none⟩ u) g t (cs.setIfInBounds i u) := by
  unfold Blk at h ⊢
  simp [World.setCell, Array.getElem?_modify, h]
theorem Blk.far (h : Blk w g t cs) {p : Addr} (hp : g ≠ p.block) (u : Value) : Blk (w.setCell p u) g t cs := (Below.heap_setCell w p u g hp).trans h
theorem Blk.below {B : Nat} (h : Blk w g t cs) (hb : Below B w w') (hg : g < B) : Blk w' g t cs := (hb.block g hg).trans h
theorem Blk.grown {row : Option Nat} (h : Blk w g t cs) (hb : w.grownBy w' row) (hg : some g ≠ row) : Blk w' g t cs := (hb.block g h.lt hg).trans h
theorem Blk.mod (h : Blk w g t cs) (hb : Mod S w w') (hg : ¬ S g) : Blk w' g t cs := (hb.block g h.lt hg).trans h
end

/-! Lists of things of a fixed number of cells each. -/
section
variable {α : Type} {enc : α → List Value} {size : Nat}
theorem flat_length (he : ∀ x, (enc x).length = size) (xs : List α) : (xs.flatMap enc).length = xs.length * size := by
  induction xs with
  | nil => simp
  | cons x xs ih => simp [he, ih, Nat.add_mul, Nat.add_comm]
theorem flat_get (he : ∀ x, (enc x).length = size) (xs : List α) (k j : Nat) (hj : j < size) : (xs.flatMap enc)[k * size + j]? = (xs[k]?).bind fun x => (enc x)[j]? := by
  induction xs generalizing k with
  | nil => simp
  | cons x xs ih =>
    cases k with
    | zero => simp [List.getElem?_append_left, he, hj]
    | succ k =>
      rw [List.flatMap_cons, List.getElem?_append_right (by rw [he, Nat.add_mul]; omega), he, show (k + 1) * size + j - size = k * size + j by rw [Nat.add_mul]; omega, ih]
      simp
end

/-- The slice at address A holds xs, each as the cells that enc gives; its block is among F. -/
def SlA {α : Type} (w : World) (F : Nat → Prop) (enc : α → List Value) (size : Nat) (A : Option Addr) (xs : List α) : Prop :=
  xs ≠ [] → ∃ b off, A = some ⟨b, off, none⟩ ∧ F b ∧ ∀ (k : Nat) x, xs[k]? = some x → ∀ j u, (enc x)[j]? = some u → w.cell? ⟨b, off + k * size + j, none⟩ = some u

/-- A slice value that reads as xs. -/
def Sl {α : Type} (w : World) (F : Nat → Prop) (enc : α → List Value) (size : Nat) (v : Value) (xs : List α) : Prop :=
  ∃ A cap, v = .slice A xs.length cap ∧ xs.length ≤ cap ∧ cap ≤ maxLen ∧ SlA w F enc size A xs

section
variable {α : Type} {enc : α → List Value} {size : Nat} {w w' : World} {F G S : Nat → Prop} {A : Option Addr} {v : Value} {xs : List α}
theorem SlA.nil : SlA w F enc size A [] := fun h => (h rfl).elim
theorem SlA.at_ (h : SlA w F enc size A xs) {k : Nat} (hk : k < xs.length) : ∃ b off, A = some ⟨b, off, none⟩ ∧ F b ∧ ∀ j u, (enc xs[k])[j]? = some u → w.cell? ⟨b, off + k * size + j, none⟩ = some u := by
  obtain ⟨b, off, hA, hF, hc⟩ := h (by rintro rfl; simp at hk)
  exact ⟨b, off, hA, hF, hc k _ (List.getElem?_eq_getElem hk)⟩
theorem SlA.lt_ (h : SlA w F enc size A xs) (hx : xs ≠ []) (he : ∀ x, 0 < (enc x).length) {b off : Nat} (hA : A = some ⟨b, off, none⟩) : b < w.heap.size := by
  obtain ⟨b', off', hA', hb, hc⟩ := h hx
  rw [hA] at hA'; injection hA' with hA'; injection hA' with h1 h2; subst h1
  cases xs with
  | nil => exact (hx rfl).elim
  | cons x xs =>
    have := World.block_lt_of_cell? w _ (hc 0 x rfl 0 _ (List.getElem?_eq_getElem (he x)))
    exact this
theorem SlA.imp (h : SlA w F enc size A xs) (hF : ∀ k, F k → G k) : SlA w G enc size A xs := by
  intro hx
  obtain ⟨b, off, hA, hb, hc⟩ := h hx
  exact ⟨b, off, hA, hF b hb, hc⟩
theorem SlA.here (h : SlA w F enc size A xs) (he : ∀ x, 0 < (enc x).length) : SlA w (fun g => g < w.heap.size) enc size A xs := by
  intro hx
  obtain ⟨b, off, hA, hb, hc⟩ := h hx
  exact ⟨b, off, hA, SlA.lt_ h hx he hA, hc⟩
theorem SlA.belowB {B : Nat} (h : SlA w (fun g => g < B) enc size A xs) (hm : Below B w w') : SlA w' (fun g => g < B) enc size A xs := by
  intro hx
  obtain ⟨b, off, hA, hb, hc⟩ := h hx
  exact ⟨b, off, hA, hb, fun k x hk j u hu => (hm.cell (p := ⟨b, _, none⟩) hb).trans (hc k x hk j u hu)⟩
/-- All that lies in the world is kept by a call that leaves old blocks alone. -/
theorem SlA.below (h : SlA w F enc size A xs) (hm : Below w.heap.size w w') : SlA w' F enc size A xs := by
  intro hx
  obtain ⟨b, off, hA, hb, hc⟩ := h hx
  exact ⟨b, off, hA, hb, fun k x hk j u hu => (Mod.of_below (S := None_) hm).cell_some (hc k x hk j u hu) (fun h => h)⟩
theorem SlA.mod (h : SlA w F enc size A xs) (hm : Mod S w w') (hF : ∀ k, F k → ¬ S k) : SlA w' F enc size A xs := by
  intro hx
  obtain ⟨b, off, hA, hb, hc⟩ := h hx
  exact ⟨b, off, hA, hb, fun k x hk j u hu => hm.cell_some (hc k x hk j u hu) (hF b hb)⟩
theorem Sl.below (h : Sl w F enc size v xs) (hm : Below w.heap.size w w') : Sl w' F enc size v xs := by
  obtain ⟨A, cap, hv, h1, h2, hs⟩ := h
  exact ⟨A, cap, hv, h1, h2, hs.below hm⟩
theorem Sl.mod (h : Sl w F enc size v xs) (hm : Mod S w w') (hF : ∀ k, F k → ¬ S k) : Sl w' F enc size v xs := by
  obtain ⟨A, cap, hv, h1, h2, hs⟩ := h
  exact ⟨A, cap, hv, h1, h2, hs.mod hm hF⟩
theorem Sl.here (h : Sl w F enc size v xs) (he : ∀ x, 0 < (enc x).length) : Sl w (fun g => g < w.heap.size) enc size v xs := by
  obtain ⟨A, cap, hv, h1, h2, hs⟩ := h
  exact ⟨A, cap, hv, h1, h2, hs.here he⟩
theorem Sl.belowB {B : Nat} (h : Sl w (fun g => g < B) enc size v xs) (hm : Below B w w') : Sl w' (fun g => g < B) enc size v xs := by
  obtain ⟨A, cap, hv, h1, h2, hs⟩ := h
  exact ⟨A, cap, hv, h1, h2, hs.belowB hm⟩
theorem Sl.imp (h : Sl w F enc size v xs) (hF : ∀ k, F k → G k) : Sl w G enc size v xs := by
  obtain ⟨A, cap, hv, h1, h2, hs⟩ := h
  exact ⟨A, cap, hv, h1, h2, hs.imp hF⟩
theorem Sl.len (h : Sl w F enc size v xs) : xs.length ≤ maxLen := by
  obtain ⟨A, cap, hv, h1, h2, hs⟩ := h
  exact Nat.le_trans h1 h2
theorem Sl.nil (w : World) (F : Nat → Prop) (enc : α → List Value) (size : Nat) : Sl w F enc size (.slice none 0 0) [] := ⟨none, 0, rfl, Nat.le_refl _, Nat.zero_le _, SlA.nil⟩
/-- A cut s[i:j]. -/
theorem SlA.cut (h : SlA w F enc size A xs) {i j cap : Nat} (hij : i ≤ j) (hj : j ≤ xs.length) (hc : xs.length ≤ cap) :
    SlA w F enc size (if cap = i then A else A.map (·.add (i * size))) ((xs.drop i).take (j - i)) := by
  intro hx
  have hne : (xs.drop i).take (j - i) ≠ [] := hx
  have hlt : i < j := by
    rcases Nat.lt_or_ge i j with h1 | h1
    · exact h1
    · exfalso; apply hne; rw [show j - i = 0 by omega]; rfl
  obtain ⟨b, off, hA, hb, hcell⟩ := h (by rintro rfl; simp at hj; omega)
  subst hA
  refine ⟨b, off + i * size, ?_, hb, ?_⟩
  · rw [if_neg (by omega)]
    simp [Addr.add]
  · intro k x hk q u hu
    have hk' : xs[i + k]? = some x := by
      rw [List.getElem?_take] at hk
      split at hk
      · rwa [List.getElem?_drop] at hk
      · cases hk
    have := hcell (i + k) x hk' q u hu
    rw [show off + i * size + k * size + q = off + (i + k) * size + q by rw [Nat.add_mul]; omega]
    exact this
end

/-! Rows of the call's own. -/
def Own {α : Type} (w : World) (B : Nat) (e : TypeId) (enc : α → List Value) (size : Nat) (v : Value) (xs : List α) : Prop :=
  w.ownsRow B e size v xs.length (xs.flatMap enc)

section
variable {α : Type} {enc : α → List Value} {size : Nat} {w w' : World} {F G S : Nat → Prop} {B : Nat} {e : TypeId} {v : Value} {xs : List α}
theorem Own.nil (w : World) (B : Nat) (e : TypeId) (enc : α → List Value) (size : Nat) : Own w B e enc size (.slice none 0 0) [] := World.ownsRow_nil w B e size
theorem Own.made (w : World) (cur : Array Value) (cap : Nat) {B : Nat} (e : TypeId) (enc : α → List Value) (size : Nat) (hb : B ≤ w.heap.size) (hm : cap ≤ maxLen) (hs : cur.size = cap * size) :
    Own (w.alloc (.cells cur e)) B e enc size (.slice (some ⟨w.heap.size, 0, none⟩) 0 cap) [] := World.ownsRow_made w cur cap hb hm hs
theorem Own.empty (w : World) {B : Nat} (e : TypeId) (enc : α → List Value) (size : Nat) (hb : B ≤ w.heap.size) :
    Own (w.alloc (.cells #[] e)) B e enc size (.slice (some ⟨w.heap.size, 0, none⟩) 0 0) [] := World.ownsRow_made w #[] 0 hb (Nat.zero_le _) (by simp)
theorem Own.lt (h : Own w B e enc size v xs) : ∀ k, v.ownBlock = some k → B ≤ k ∧ k < w.heap.size := World.ownsRow.lt h
theorem Own.mod (h : Own w B e enc size v xs) (hm : Mod S w w') (hv : ∀ k, v.ownBlock = some k → ¬ S k) : Own w' B e enc size v xs := by
  refine ⟨h.1, ?_⟩
  rcases h.2 with hn | ⟨g, cap, cur, rfl, hb, hgg, rest⟩
  · exact .inl hn
  · refine .inr ⟨g, cap, cur, rfl, hb, ?_, rest⟩
    rw [hm.block g (Array.getElem?_eq_some_iff.1 hgg).1 (hv g rfl)]
    exact hgg
theorem Own.below (h : Own w B e enc size v xs) (hm : Below w.heap.size w w') : Own w' B e enc size v xs := h.mod (Mod.of_below (S := None_) hm) (fun _ _ h => h)
theorem Own.base (h : Own w B e enc size v xs) {B' : Nat} (hB : B' ≤ B) : Own w B' e enc size v xs := by
  refine ⟨h.1, ?_⟩
  rcases h.2 with hn | ⟨g, cap, cur, hv, hb, rest⟩
  · exact .inl hn
  · exact .inr ⟨g, cap, cur, hv, Nat.le_trans hB hb, rest⟩
theorem Own.alloc (h : Own w B e enc size v xs) (o : Obj) : Own (w.alloc o) B e enc size v xs := World.ownsRow.alloc h o
theorem Own.drewN (h : Own w B e enc size v xs) (n : Nat) : Own (w.drewN n) B e enc size v xs := h
theorem Own.drew (h : Own w B e enc size v xs) : Own w.drew B e enc size v xs := h
theorem Own.sl (h : Own w B e enc size v xs) (he : ∀ x, (enc x).length = size) : Sl w (fun k => v.ownBlock = some k) enc size v xs := by
  rcases h.2 with ⟨rfl, h0⟩ | ⟨g, cap, cur, rfl, hb, hgg, hn, hm, hsz, ht⟩
  · have : xs = [] := List.eq_nil_of_length_eq_zero h0
    subst this
    exact Sl.nil _ _ _ _
  · refine ⟨_, cap, rfl, hn, hm, fun hx => ⟨g, 0, rfl, rfl, fun k x hk j u hu => ?_⟩⟩
    have hj : j < size := by
      have := (List.getElem?_eq_some_iff.1 hu).1
      rwa [he] at this
    have hfl : (xs.flatMap enc)[k * size + j]? = some u := by rw [flat_get he _ _ _ hj, hk]; exact hu
    have := World.ownsRow.cells (v := .slice (some ⟨g, 0, none⟩) xs.length cap) h (g := g) rfl (k * size + j) u hfl
    rw [show ((⟨g, 0, none⟩ : Addr).add (k * size + j)) = ⟨g, k * size + j, none⟩ by unfold Addr.add; split <;> simp_all] at this
    simpa [Nat.zero_add] using this
end

theorem flat_set {α : Type} {enc : α → List Value} {size : Nat} (he : ∀ x, (enc x).length = size) (xs : List α) (k j : Nat) (hk : k < xs.length) (hj : j < size) (u : Value) (x' : α) (hx : enc x' = (enc xs[k]).set j u) :
    (xs.flatMap enc).set (k * size + j) u = (xs.set k x').flatMap enc := by
  induction xs generalizing k with
  | nil => simp at hk
  | cons x xs ih =>
    cases k with
    | zero =>
      simp only [List.flatMap_cons, Nat.zero_mul, Nat.zero_add, List.set_cons_zero, List.getElem_cons_zero] at hx ⊢
      rw [List.set_append_left _ _ (by rw [he]; exact hj), hx]
    | succ k =>
      simp only [List.flatMap_cons, List.set_cons_succ, List.getElem_cons_succ, List.length_cons] at hx hk ⊢
      rw [List.set_append_right _ _ (by rw [he, Nat.add_mul]; omega), he, show (k + 1) * size + j - size = k * size + j by rw [Nat.add_mul]; omega, ih k (by omega) hx]
section
variable {α : Type} {enc : α → List Value} {size : Nat} {w w' : World} {B : Nat} {e : TypeId} {v : Value} {xs : List α}
theorem Own.form (h : Own w B e enc size v xs) (hx : xs ≠ []) : ∃ g cap cur, v = .slice (some ⟨g, 0, none⟩) xs.length cap ∧ B ≤ g ∧ w.heap[g]? = some (.cells cur e (0, 0)) ∧ xs.length ≤ cap ∧ cap ≤ maxLen ∧ cur.size = cap * size ∧ cur.toList.take (xs.length * size) = xs.flatMap enc := by
  rcases h.2 with ⟨_, h0⟩ | ⟨g, cap, cur, hv, hb, rest⟩
  · exact (hx (List.eq_nil_of_length_eq_zero h0)).elim
  · exact ⟨g, cap, cur, hv, hb, rest⟩
/-- A store into cell j of element k. -/
theorem Own.set_ (h : Own w B e enc size v xs) (he : ∀ x, (enc x).length = size) {g : Nat} (hg : v.ownBlock = some g) (k j : Nat) (hk : k < xs.length) (hj : j < size) (u : Value) (x' : α) (hx : enc x' = (enc xs[k]).set j u) :
    Own (w.setCell ⟨g, k * size + j, none⟩ u) B e enc size v (xs.set k x') := by
  have hne : xs ≠ [] := by rintro rfl; simp at hk
  obtain ⟨g', cap, cur, rfl, hb, hh, hn, hm, hs, ht⟩ := h.form hne
  have : g' = g := by simpa [Value.ownBlock] using hg
  subst this
  refine ⟨by rw [List.length_set, flat_length he, List.length_set], .inr ⟨g', cap, cur.setIfInBounds (k * size + j) u, by rw [List.length_set], hb, ?_, by rw [List.length_set]; exact hn, hm, by simpa using hs, ?_⟩⟩
  · simp [World.setCell, Array.getElem?_modify, hh]
  · rw [List.length_set, Array.toList_setIfInBounds, List.take_set, ht]
    exact flat_set he xs k j hk hj u x' hx
theorem Own.at_ {g n cap : Nat} (h : Own w B e enc size (.slice (some ⟨g, 0, none⟩) n cap) xs) (he : ∀ x, (enc x).length = size) {k j : Nat} {u : Value} (hk : k < xs.length) (hu : (enc xs[k])[j]? = some u) : w.cell? ⟨g, k * size + j, none⟩ = some u := by
  have hj : j < size := by
    have := (List.getElem?_eq_some_iff.1 hu).1
    rwa [he] at this
  have hfl : (xs.flatMap enc)[k * size + j]? = some u := by rw [flat_get he _ _ _ hj, List.getElem?_eq_getElem hk]; exact hu
  have := World.ownsRow.cells h (g := g) rfl (k * size + j) u hfl
  rw [show ((⟨g, 0, none⟩ : Addr).add (k * size + j)) = ⟨g, k * size + j, none⟩ by unfold Addr.add; split <;> simp_all] at this
  exact this
theorem Own.slA {g n cap : Nat} (h : Own w B e enc size (.slice (some ⟨g, 0, none⟩) n cap) xs) (he : ∀ x, (enc x).length = size) : SlA w (fun _ => True) enc size (some ⟨g, 0, none⟩) xs := fun _ =>
  ⟨g, 0, rfl, trivial, fun k x hk j u hu => by
    obtain ⟨hk', hx⟩ := List.getElem?_eq_some_iff.1 hk
    rw [← hx] at hu
    rw [Nat.zero_add]
    exact h.at_ he hk' hu⟩
theorem Own.frozen {g n cap : Nat} (h : Own w B e enc size (.slice (some ⟨g, 0, none⟩) n cap) xs) (i : Nat) : w.frozen? ⟨g, i, none⟩ = false := by
  rcases h.2 with ⟨hv, _⟩ | ⟨g', c', cur, hv, hb, hgg, rest⟩
  · cases hv
  · injection hv with e1; injection e1 with e1; injection e1 with e1; subst e1
    exact Blk.frozen (t := e) (cs := cur) hgg i
theorem Own.far (h : Own w B e enc size v xs) {p : Addr} (hp : v.ownBlock ≠ some p.block) (u : Value) : Own (w.setCell p u) B e enc size v xs := by
  refine ⟨h.1, ?_⟩
  rcases h.2 with hn | ⟨g, cap, cur, rfl, hb, hgg, rest⟩
  · exact .inl hn
  · exact .inr ⟨g, cap, cur, rfl, hb, by rw [Below.heap_setCell _ _ _ _ (by intro e; apply hp; rw [← e]; rfl)]; exact hgg, rest⟩
theorem Own.ne_ {β : Type} {enc' : β → List Value} {size' : Nat} {B' : Nat} {e' : TypeId} {v' : Value} {ys : List β} (h : Own w B e enc size v xs) (h' : Own w B' e' enc' size' v' ys) (hne : e ≠ e') : ∀ g, v.ownBlock = some g → v'.ownBlock ≠ some g := by
  intro g hg hg'
  rcases h.2 with ⟨rfl, _⟩ | ⟨g1, c1, cur1, rfl, _, h1, _⟩
  · simp [Value.ownBlock] at hg
  · rcases h'.2 with ⟨rfl, _⟩ | ⟨g2, c2, cur2, rfl, _, h2, _⟩
    · simp [Value.ownBlock] at hg'
    · simp [Value.ownBlock] at hg hg'
      subst hg; subst hg'
      rw [h1] at h2; injection h2 with h2; injection h2 with _ h3
      exact hne h3
theorem Own.grown {row : Option Nat} (h : Own w B e enc size v xs) (hg : w.grownBy w' row) (hv : v.ownBlock = none ∨ v.ownBlock ≠ row) : Own w' B e enc size v xs := World.ownsRow.kept h hg hv
end
/-- A slice value, as a thing of one cell. -/
structure SV where
  A : Option Addr
  n : Nat
  cap : Nat
def SV.val (s : SV) : Value := .slice s.A s.n s.cap
def svC (s : SV) : List Value := [s.val]
theorem svC_length (s : SV) : (svC s).length = 1 := rfl
theorem svC_one (s : SV) : ∀ u ∈ svC s, u.oneCell' = true := by
  intro u hu; simp [svC] at hu; subst hu; rfl
/-- What the program's tables say of a slice type t of elements e. -/
structure Elem (P : Program) (t e : TypeId) (size bytes : Nat) : Prop where
  ut : P.underlying t = some (.slice e)
  info : ∃ i z, P.info? e = some i ∧ i.zero = some z ∧ i.size = size ∧ i.bytes = bytes ∧ z.cells.size = size
  pos : 0 < size

/-- The one test that gives Elem by the kernel. -/
def elemOk (P : Program) (e : TypeId) (size bytes : Nat) : Bool :=
  match P.info? e with
  | some i => match i.zero with
    | some z => i.size == size && i.bytes == bytes && z.cells.size == size && decide (0 < size)
    | none => false
  | none => false
theorem elem_of {P : Program} {t e : TypeId} {size bytes : Nat} (ht : P.underlying t = some (.slice e)) (h : elemOk P e size bytes = true) : Elem P t e size bytes := by
  unfold elemOk at h
  split at h
  · rename_i i hi
    split at h
    · rename_i z hz
      simp at h
      exact ⟨ht, ⟨i, z, hi, hz, h.1.1.1, h.1.1.2, h.1.2⟩, h.2⟩
    · cases h
  · cases h

section
variable {P : Program} {α : Type} {enc : α → List Value} {size bytes : Nat} {w : World} {B : Nat} {t e : TypeId} {v : Value} {xs ys : List α}
/-- append of some cells that lie at an address. -/
theorem wp_app {o : Oper} {a : Act} {K : Act → World → Prop} {Q : Exit → Act → World → Prop} (s x : Operand)
    (ho : o.op = .call { callee := .builtin .append, args := #[s, x], argTypes := #[t, t] })
    (hE : Elem P t e size bytes) (he : ∀ x, (enc x).length = size)
    (v : Value) (xs : List α) (hs : a.eval s = v) (hown : Own w B e enc size v xs)
    (ad : Addr) (m c : Nat) (ys : List α) (hx : a.eval x = .slice (some ad) m c) (hm : m = ys.length)
    (hnews : ∀ j u, (ys.flatMap enc)[j]? = some u → w.cell? (ad.add j) = some u) (h1 : ∀ y ∈ ys, ∀ u ∈ enc y, u.oneCell' = true)
    (hbytes : (xs.length + ys.length) * bytes ≤ 140737488355328) (h63 : xs.length + ys.length ≤ maxLen) (hbase : B ≤ w.heap.size)
    (h : ∀ v' w', Own w' B e enc size v' (xs ++ ys) → w.grownBy w' v.ownBlock → (v'.ownBlock = v.ownBlock ∨ v'.ownBlock = some w.heap.size) → K (a.put o.dst v') w') : o.wp P a w K Q := by
  obtain ⟨i, z, hi, hz, hz1, hz2, hz3⟩ := hE.info
  subst hm
  obtain ⟨v', w', hrun, h2, h3, _, h5⟩ := run_append_own_at (P := P) w B t o.type e i z size bytes hE.ut hi hz hz1 hz2 hz3 hE.pos v xs.length (xs.flatMap enc) hown ad ys.length c (ys.flatMap enc) (flat_length he ys) hnews (by
    intro u hu
    obtain ⟨y, hy, hu⟩ := List.mem_flatMap.1 hu
    exact h1 y hy u hu) h63 hbytes hbase
  unfold Oper.wp execOp
  simp only [ho, resolve, invoke, builtin, Sem.run_bind, Sem.run_pure, Result.andThen_ok, List.map_toArray, List.map_cons, List.map_nil, hs, hx, hrun]
  refine h v' w' ?_ h3 h5
  unfold Own
  rw [List.length_append, List.flatMap_append]
  exact h2
/-- append of ONE thing, whose cells were just laid in a new block. -/
theorem wp_app1 {o : Oper} {a : Act} {K : Act → World → Prop} {Q : Exit → Act → World → Prop} (s x : Operand)
    (ho : o.op = .call { callee := .builtin .append, args := #[s, x], argTypes := #[t, t] })
    (hE : Elem P t e size bytes) (he : ∀ x, (enc x).length = size) (h1 : ∀ y, ∀ u ∈ enc y, u.oneCell' = true)
    {v : Value} {xs : List α} (hs : a.eval s = v) (hown : Own w B e enc size v xs)
    {g : Nat} (c : Nat) (y : α) (hx : a.eval x = .slice (some ⟨g, 0, none⟩) 1 c)
    {cs : Array Value} {t' : TypeId} (hnew : Blk w g t' cs) (hcs : cs.toList = enc y)
    (N : Nat) (hlen : xs.length < N) (hN : N * bytes ≤ 140737488355328) (h63 : N ≤ maxLen) (hbase : B ≤ w.heap.size)
    (h : ∀ v' w', Own w' B e enc size v' (xs ++ [y]) → w.grownBy w' v.ownBlock → (v'.ownBlock = v.ownBlock ∨ v'.ownBlock = some w.heap.size) → K (a.put o.dst v') w') : o.wp P a w K Q := by
  refine wp_app s x ho hE he v xs hs hown ⟨g, 0, none⟩ 1 c [y] hx rfl ?_ (fun y _ => h1 y) ?_ (by simp only [List.length_singleton]; omega) hbase h
  · intro j u hj
    rw [List.flatMap_cons, List.flatMap_nil, List.append_nil] at hj
    have : w.cell? ⟨g, j, none⟩ = some u := by rw [hnew.cell j, ← Array.getElem?_toList, hcs]; exact hj
    rw [show ((⟨g, 0, none⟩ : Addr).add j) = ⟨g, j, none⟩ by unfold Addr.add; split <;> simp_all]
    exact this
  · simp only [List.length_singleton]
    exact Nat.le_trans (Nat.mul_le_mul_right bytes (by omega)) hN
theorem wpList_app1 {ops : Array Oper} {rest : List Oper} {o : Oper} {a : Act} {Q : Exit → Act → World → Prop} (hgd : o.guard = none) (s x : Operand)
    (ho : o.op = .call { callee := .builtin .append, args := #[s, x], argTypes := #[t, t] })
    (hE : Elem P t e size bytes) (he : ∀ x, (enc x).length = size) (h1 : ∀ y, ∀ u ∈ enc y, u.oneCell' = true)
    {v : Value} {xs : List α} (hs : a.eval s = v) (hown : Own w B e enc size v xs)
    {g : Nat} (c : Nat) (y : α) (hx : a.eval x = .slice (some ⟨g, 0, none⟩) 1 c)
    {cs : Array Value} {t' : TypeId} (hnew : Blk w g t' cs) (hcs : cs.toList = enc y)
    (N : Nat) (hlen : xs.length < N) (hN : N * bytes ≤ 140737488355328) (h63 : N ≤ maxLen) (hbase : B ≤ w.heap.size)
    (h : ∀ v' w', Own w' B e enc size v' (xs ++ [y]) → w.grownBy w' v.ownBlock → (v'.ownBlock = v.ownBlock ∨ v'.ownBlock = some w.heap.size) → wpList P ops Q rest (a.put o.dst v') w') : wpList P ops Q (o :: rest) a w :=
  wpList_plain hgd fun _ hK => wp_app1 s x ho hE he h1 hs hown c y hx hnew hcs N hlen hN h63 hbase fun v' w' h2 h3 h4 => hK _ _ (h v' w' h2 h3 h4)
theorem step_app1 {ops : Array Oper} {o : Oper} {a : Act} {K : Act → World → Prop} {Q : Exit → Act → World → Prop} {E : Prop} (hgd : o.guard = none) (s x : Operand)
    (ho : o.op = .call { callee := .builtin .append, args := #[s, x], argTypes := #[t, t] })
    (hE : Elem P t e size bytes) (he : ∀ x, (enc x).length = size) (h1 : ∀ y, ∀ u ∈ enc y, u.oneCell' = true)
    {v : Value} {xs : List α} (hs : a.eval s = v) (hown : Own w B e enc size v xs)
    {g : Nat} (c : Nat) (y : α) (hx : a.eval x = .slice (some ⟨g, 0, none⟩) 1 c)
    {cs : Array Value} {t' : TypeId} (hnew : Blk w g t' cs) (hcs : cs.toList = enc y)
    (N : Nat) (hlen : xs.length < N) (hN : N * bytes ≤ 140737488355328) (h63 : N ≤ maxLen) (hbase : B ≤ w.heap.size)
    (h : ∀ v' w', Own w' B e enc size v' (xs ++ [y]) → w.grownBy w' v.ownBlock → (v'.ownBlock = v.ownBlock ∨ v'.ownBlock = some w.heap.size) → K (a.put o.dst v') w') :
    if Region.wanted o (yielded ops a.tmps) = true then Oper.wp P o a w K Q else E := by
  have hw : Region.wanted o (yielded ops a.tmps) = true := by simp [Region.wanted, hgd]
  rw [if_pos hw]
  exact wp_app1 s x ho hE he h1 hs hown c y hx hnew hcs N hlen hN h63 hbase h
end

section
variable {P : Program} {ops : Array Oper}
/-- A region that draws its order: n operations that only read, or call what only reads; then the rest in the text's order. -/
theorem wp_still {id : Nat} {Q : Exit → Act → World → Prop} {a : Act} {w : World} {l : List Oper} (n : Nat) (hm : P.follows .mixedOrders = true) (hB : Region.lexTailB .any l.toArray n = true)
    (h : wpStill P l.toArray w.drew (fun a' => wpList P l.toArray Q (l.drop n) a' w.drew) (l.take n) a) : (Code.region id l.toArray true).wp P Q a w :=
  wp_region_still_tail n hm hB h
end
/-- Where a cut s[i:..] of a slice begins. -/
def cutA (A : Option Addr) (cap i size : Nat) : Option Addr := if cap = i then A else A.map (·.add (i * size))
theorem run_cut_lo {P : Program} {t e : TypeId} {size bytes : Nat} (hE : Elem P t e size bytes) (A : Option Addr) (n cap i : Nat) (hi : i ≤ n) (w : World) :
    (Instr.slice t (.slice A n cap) (some (.int .i64 (i : Nat))) none none).run P w = .ok (.slice (cutA A cap i size) (n - i) (cap - i)) w := by
  obtain ⟨j, z, hj, hz, hz1, hz2, hz3⟩ := hE.info
  simp [Instr.slice, Instr.sliceBounds, Instr.sliceBound, asIntOf, run_underlying hE.ut, sizeOf, typeInfo, hj, hz1, cutA]
  intro h; omega
theorem run_cut_hi {P : Program} {t e : TypeId} {size bytes : Nat} (hE : Elem P t e size bytes) (A : Option Addr) (n cap i : Nat) (hi : i ≤ cap) (w : World) :
    (Instr.slice t (.slice A n cap) none (some (.int .i64 (i : Nat))) none).run P w = .ok (.slice A i cap) w := by
  obtain ⟨j, z, hj, hz, hz1, hz2, hz3⟩ := hE.info
  have h0 : ∀ a : Addr, a.add 0 = a := fun a => by simp [Addr.add]
  simp [Instr.slice, Instr.sliceBounds, Instr.sliceBound, asIntOf, run_underlying hE.ut, sizeOf, typeInfo, hj, h0]
  intro h; omega
theorem SlA.take {α : Type} {enc : α → List Value} {size : Nat} {w : World} {F : Nat → Prop} {A : Option Addr} {xs : List α} (h : SlA w F enc size A xs) (c : Nat) : SlA w F enc size A (xs.take c) := by
  intro hx
  obtain ⟨b, off, hA, hF, hc⟩ := h (by rintro rfl; simp at hx)
  refine ⟨b, off, hA, hF, fun k x hk => ?_⟩
  rw [List.getElem?_take] at hk
  split at hk
  · exact hc k x hk
  · cases hk
theorem SlA.drop {α : Type} {enc : α → List Value} {size : Nat} {w : World} {F : Nat → Prop} {A : Option Addr} {xs : List α} (h : SlA w F enc size A xs) {c cap : Nat} (hc : c ≤ xs.length) (hcap : xs.length ≤ cap) : SlA w F enc size (cutA A cap c size) (xs.drop c) := by
  have := h.cut (i := c) (j := xs.length) (cap := cap) hc (Nat.le_refl _) hcap
  rw [List.take_of_length_le (by simp)] at this
  exact this
theorem run_cut1 {P : Program} {t e : TypeId} {size bytes : Nat} (hE : Elem P t e size bytes) (A : Option Addr) (n cap : Nat) (w : World) :
    (Instr.slice t (.slice A (n + 1) cap) (some (.int .i64 1)) none none).run P w = .ok (.slice (cutA A cap 1 size) n (cap - 1)) w := run_cut_lo hE A (n + 1) cap 1 (by omega) w
theorem wrapN (n : Nat) (h : n ≤ 9223372036854775807) : IntKind.i64.wrap (n : Int) = n := IntWalk.i64_in _ (by omega)
theorem foldl_take_succ {α β : Type} (f : β → α → β) (b : β) (l : List α) (k : Nat) (h : k < l.length) : (l.take (k + 1)).foldl f b = f ((l.take k).foldl f b) l[k] := by
  rw [List.take_succ_eq_append_getElem h, List.foldl_append]; rfl
/-- Three cells at the head of a block. -/
def At3 (w : World) (b : Nat) (x y z : Value) : Prop := w.cell? ⟨b, 0, none⟩ = some x ∧ w.cell? ⟨b, 1, none⟩ = some y ∧ w.cell? ⟨b, 2, none⟩ = some z
section
variable {w w' : World} {b : Nat} {x y z : Value} {S : Nat → Prop}
theorem At3.lt (h : At3 w b x y z) : b < w.heap.size := World.block_lt_of_cell? w _ h.1
theorem At3.new (w : World) (t : TypeId) (x y z : Value) : At3 (w.alloc (.cells #[x, y, z] t)) w.heap.size x y z :=
  ⟨(Blk.new w t #[x, y, z]).cell 0, (Blk.new w t #[x, y, z]).cell 1, (Blk.new w t #[x, y, z]).cell 2⟩
theorem Blk.at3 {w : World} {g : Nat} {t : TypeId} {x y z : Value} (h : Blk w g t #[x, y, z]) : At3 w g x y z := ⟨h.cell 0, h.cell 1, h.cell 2⟩
theorem At3.alloc (h : At3 w b x y z) (o : Obj) : At3 (w.alloc o) b x y z := ⟨cell_alloc h.1 o, cell_alloc h.2.1 o, cell_alloc h.2.2 o⟩
theorem At3.drew (h : At3 w b x y z) : At3 w.drew b x y z := h
theorem At3.drewN (h : At3 w b x y z) (n : Nat) : At3 (w.drewN n) b x y z := h
theorem At3.mod (h : At3 w b x y z) (hm : Mod S w w') (hb : ¬ S b) : At3 w' b x y z := ⟨hm.cell_some h.1 hb, hm.cell_some h.2.1 hb, hm.cell_some h.2.2 hb⟩
theorem At3.below {B : Nat} (h : At3 w b x y z) (hm : Below B w w') (hb : b < B) : At3 w' b x y z :=
  ⟨(hm.cell (p := ⟨b, 0, none⟩) hb).trans h.1, (hm.cell (p := ⟨b, 1, none⟩) hb).trans h.2.1, (hm.cell (p := ⟨b, 2, none⟩) hb).trans h.2.2⟩
theorem At3.far (h : At3 w b x y z) {p : Addr} (hp : p.block ≠ b) (u : Value) : At3 (w.setCell p u) b x y z :=
  have hq : ∀ i, (w.setCell p u).cell? ⟨b, i, none⟩ = w.cell? ⟨b, i, none⟩ := fun _ => World.cell?_of_block (Below.heap_setCell w p u b (Ne.symm hp))
  ⟨(hq 0).trans h.1, (hq 1).trans h.2.1, (hq 2).trans h.2.2⟩
theorem At3.grown {row : Option Nat} (h : At3 w b x y z) (hg : w.grownBy w' row) (hb : some b ≠ row) : At3 w' b x y z := ⟨hg.cell h.1 hb, hg.cell h.2.1 hb, hg.cell h.2.2 hb⟩
end
theorem run_mk {P : Program} {t e : TypeId} {size bytes : Nat} (hE : Elem P t e size bytes) (kl kc : IntKind) (n c : Nat) (hnc : n ≤ c) (hbytes : bytes * c ≤ 281474976710656) (h63 : c ≤ 9223372036854775807) :
    ∃ cs : Array Value, cs.size = c * size ∧ ∀ W : World, (Instr.makeSlice t (.int kl (n : Int)) (.int kc (c : Int))).run P W = .ok (.slice (some ⟨W.heap.size, 0, none⟩) n c) (W.alloc (.cells cs e)) := by
  obtain ⟨i, z, hi, hz, hz1, hz2, hz3⟩ := hE.info
  refine ⟨madeCells z.cells (c * i.size), by rw [size_madeCells, hz1], fun W => ?_⟩
  have hb : (i.bytes : Int) * (c : Int) ≤ 281474976710656 := by
    have h : ((i.bytes * c : Nat) : Int) ≤ 281474976710656 := by rw [hz2]; omega
    rwa [Int.natCast_mul] at h
  have hr := run_make (P := P) W t e i z hE.ut hi hz kl kc n c (by omega) (by omega) hb (by omega)
  simp only [Int.toNat_natCast] at hr
  exact hr
theorem run_mk0 {P : Program} {t e : TypeId} {size bytes : Nat} (hE : Elem P t e size bytes) (kl kc : IntKind) (c : Nat) (hbytes : bytes * c ≤ 281474976710656) (h63 : c ≤ 9223372036854775807) :
    ∃ cs : Array Value, cs.size = c * size ∧ ∀ W : World, (Instr.makeSlice t (.int kl 0) (.int kc (c : Int))).run P W = .ok (.slice (some ⟨W.heap.size, 0, none⟩) 0 c) (W.alloc (.cells cs e)) := run_mk hE kl kc 0 c (Nat.zero_le _) hbytes h63
theorem SlA.of_blk {α : Type} {enc : α → List Value} {size : Nat} {w : World} {g : Nat} {t : TypeId} {cs : Array Value} {xs : List α} (hb : Blk w g t cs) (he : ∀ x, (enc x).length = size) (hc : cs.toList = xs.flatMap enc) :
    SlA w (fun k => k = g) enc size (some ⟨g, 0, none⟩) xs := fun _ =>
  ⟨g, 0, rfl, rfl, fun k x hk j u hu => by
    have hj : j < size := by
      have := (List.getElem?_eq_some_iff.1 hu).1
      rwa [he] at this
    rw [Nat.zero_add, hb.cell, ← Array.getElem?_toList, hc, flat_get he _ _ _ hj, hk]
    exact hu⟩
theorem Sl.of_blk {α : Type} {enc : α → List Value} {size : Nat} {w : World} {g : Nat} {t : TypeId} {cs : Array Value} {xs : List α} (hb : Blk w g t cs) (he : ∀ x, (enc x).length = size) (hc : cs.toList = xs.flatMap enc) {n cap : Nat} (hl : xs.length = n) (hn : n ≤ cap) (hm : cap ≤ maxLen) :
    Sl w (fun k => k = g) enc size (.slice (some ⟨g, 0, none⟩) n cap) xs := by
  subst hl; exact ⟨_, cap, rfl, hn, hm, SlA.of_blk hb he hc⟩
/-- What a slice of slices holds is kept while the outer slice is appended to. -/
theorem Sl.app {α : Type} {enc : α → List Value} {size : Nat} {w w' : World} {B : Nat} {o o' v : Value} {xs : List α} (h : Sl w (fun g => B ≤ g ∧ o.ownBlock ≠ some g) enc size v xs) (he : ∀ x, 0 < (enc x).length)
    (hg : w.grownBy w' o.ownBlock) (hv : o'.ownBlock = o.ownBlock ∨ o'.ownBlock = some w.heap.size) : Sl w' (fun g => B ≤ g ∧ o'.ownBlock ≠ some g) enc size v xs := by
  obtain ⟨A, cap, rfl, h1, h2, hs⟩ := h
  refine ⟨A, cap, rfl, h1, h2, fun hx => ?_⟩
  have hlt := fun b off hA => SlA.lt_ hs hx he (b := b) (off := off) hA
  obtain ⟨b, off, hA, ⟨hB, hb⟩, hc⟩ := hs hx
  have hm : Mod (fun k => o.ownBlock = some k) w w' := (Mod.refl _ w).grown hg (fun k hk _ => hk)
  refine ⟨b, off, hA, ⟨hB, ?_⟩, fun k x hk j u hu => hm.cell_some (hc k x hk j u hu) hb⟩
  rcases hv with hv | hv
  · rw [hv]; exact hb
  · rw [hv]; intro e; injection e with e; have := hlt b off hA; omega
theorem keep_true {d g : Bool} (h : (!d || !g) = true) : d = false ∨ d = true ∧ g = false := by cases d <;> cases g <;> simp_all
theorem keep_false {d g : Bool} (h : (!d || !g) = false) : d = true ∧ g = true := by cases d <;> cases g <;> simp_all
/-- A new block of three cells. -/
theorem new3 (w : World) (t : TypeId) (x y z : Value) : ∀ w1, w1 = w.alloc (.cells #[x, y, z] t) → w1.cell? ⟨w.heap.size, 0, none⟩ = some x ∧ w1.cell? ⟨w.heap.size, 1, none⟩ = some y ∧ w1.cell? ⟨w.heap.size, 2, none⟩ = some z ∧ Mod None_ w w1 ∧ w.heap.size < w1.heap.size := by
  rintro w1 rfl
  have h := Blk.new w t #[x, y, z]
  exact ⟨h.cell 0, h.cell 1, h.cell 2, (Mod.refl _ _).alloc _, by simp⟩
end Go.Proofs.Ytnmnhnlebkebfaa
