/- Words for memory used by all walks of this claim: what a call leaves alone (Mod), whole blocks (Blk), slices that read as lists (Sl), rows of the call's own (Own). No program in sight. -/
import Derived.WalkKit
import Derived.RegionTactic
import Derived.Deep.QuietTactic
import Derived.BigQuiet
import Derived.WalkSpells
import Derived.WalkLawsBesides
import Derived.Lib.Hide
import Derived.Outline
import Derived.Deep.LoopGhost
import Derived.Deep.Cut
import Derived.Deep.Draws
import Derived.Deep.AppendLies
import Derived.Maps.AppendAt
import Derived.StillTailTactics
import Derived.Deep.RegionHeld3
import Derived.Deep.DeepMust
namespace Go.Proofs.Ytfdcopbbnmialaa
open Go.RowKit

/-- Blocks outside S are as they were; nothing has gone. -/
structure Mod (S : Nat → Prop) (w w' : World) : Prop where
  os : w'.os = w.os
  tape : w'.tape = w.tape
  output : w'.output = w.output
  size : w.heap.size ≤ w'.heap.size
  block : ∀ k, k < w.heap.size → ¬ S k → w'.heap[k]? = w.heap[k]?

def None_ : Nat → Prop := fun _ => False

section
variable {S T : Nat → Prop} {w w' a b c : World}
theorem Mod.refl (S : Nat → Prop) (w : World) : Mod S w w := ⟨rfl, rfl, rfl, Nat.le_refl _, fun _ _ _ => rfl⟩
theorem Mod.one (w : World) (b : Nat) : Mod (fun k => k = b) w w := Mod.refl _ w
theorem Mod.trans_ (h : Mod S a b) (k : Mod T b c) (hs : ∀ i, i < a.heap.size → T i → S i) : Mod S a c :=
  ⟨k.os.trans h.os, k.tape.trans h.tape, k.output.trans h.output, Nat.le_trans h.size k.size,
   fun i hi hn => (k.block i (Nat.lt_of_lt_of_le hi h.size) (fun ht => hn (hs i hi ht))).trans (h.block i hi hn)⟩
theorem Mod.trans (h : Mod S a b) (k : Mod S b c) : Mod S a c := h.trans_ k (fun _ _ x => x)
theorem Mod.mono (h : Mod S a b) (hs : ∀ i, i < a.heap.size → S i → T i) : Mod T a b :=
  ⟨h.os, h.tape, h.output, h.size, fun i hi hn => h.block i hi (fun x => hn (hs i hi x))⟩
theorem Mod.drew (h : Mod S a w) : Mod S a w.drew := ⟨h.os, h.tape, h.output, h.size, h.block⟩
theorem Mod.alloc (h : Mod S a w) (o : Obj) : Mod S a (w.alloc o) :=
  ⟨h.os, h.tape, h.output, Nat.le_trans h.size (by simp), fun i hi hn => (Below.heap_alloc w o i (Nat.lt_of_lt_of_le hi h.size)).trans (h.block i hi hn)⟩
theorem Mod.setCell (h : Mod S a w) {p : Addr} (hp : p.block < a.heap.size → S p.block) (u : Value) : Mod S a (w.setCell p u) :=
  ⟨h.os, h.tape, h.output, by simpa [World.setCell] using h.size, fun i hi hn => (Below.heap_setCell w p u i (by
    rintro rfl
    exact hn (hp hi))).trans (h.block i hi hn)⟩
theorem Mod.grown {row : Option Nat} (h : Mod S a w) (hg : w.grownBy w' row) (hr : ∀ k, row = some k → k < a.heap.size → S k) : Mod S a w' :=
  ⟨hg.os.trans h.os, hg.tape.trans h.tape, hg.output.trans h.output, Nat.le_trans h.size hg.size,
   fun i hi hn => (hg.block i (Nat.lt_of_lt_of_le hi h.size) (fun e => hn (hr i e.symm hi))).trans (h.block i hi hn)⟩
theorem Mod.of_below (h : Below w.heap.size w w') : Mod S w w' := ⟨h.os, h.tape, h.output, h.size, fun k hk _ => h.block k hk⟩
theorem Mod.to_below (h : Mod S w w') {B : Nat} (hS : ∀ k, k < B → ¬ S k) (hB : B ≤ w.heap.size) : Below B w w' :=
  ⟨h.os, h.tape, h.output, h.size, fun k hk => h.block k (Nat.lt_of_lt_of_le hk hB) (hS k hk)⟩
theorem Mod.cell (h : Mod S w w') {p : Addr} (hp : p.block < w.heap.size) (hn : ¬ S p.block) : w'.cell? p = w.cell? p := World.cell?_of_block (h.block p.block hp hn)
theorem Mod.frozen (h : Mod S w w') {p : Addr} (hp : p.block < w.heap.size) (hn : ¬ S p.block) : w'.frozen? p = w.frozen? p := World.frozen?_of_block (h.block p.block hp hn)
theorem Mod.cell_some (h : Mod S w w') {p : Addr} {v : Value} (hv : w.cell? p = some v) (hn : ¬ S p.block) : w'.cell? p = some v :=
  (h.cell (World.block_lt_of_cell? w p hv) hn).trans hv
theorem cell_alloc {w : World} {p : Addr} {v : Value} (h : w.cell? p = some v) (o : Obj) : (w.alloc o).cell? p = some v :=
  (World.cell?_alloc_lt w o p (World.block_lt_of_cell? w p h)).trans h
end

/-- Block g is just the cells cs of element type t, none frozen. -/
def Blk (w : World) (g : Nat) (t : TypeId) (cs : Array Value) : Prop := w.heap[g]? = some (.cells cs t (0, 0))
section
variable {w w' : World} {g : Nat} {t : TypeId} {cs : Array Value} {S : Nat → Prop}
theorem Blk.lt (h : Blk w g t cs) : g < w.heap.size := by
  rcases Nat.lt_or_ge g w.heap.size with hlt | hge
  · exact hlt
  · unfold Blk at h; rw [Array.getElem?_eq_none hge] at h; cases h
theorem Blk.cell (h : Blk w g t cs) (i : Nat) : w.cell? ⟨g, i, none⟩ = cs[i]? := cell_of_row w g i cs t (0, 0) h
theorem Blk.frozen (h : Blk w g t cs) (i : Nat) : w.frozen? ⟨g, i, none⟩ = false := by
  unfold Blk at h
  simp [World.frozen?, h]
theorem Blk.new (w : World) (t : TypeId) (cs : Array Value) : Blk (w.alloc (.cells cs t)) w.heap.size t cs := heap_alloc_new w _
theorem Blk.drew (h : Blk w g t cs) : Blk w.drew g t cs := h
theorem Blk.alloc (h : Blk w g t cs) (o : Obj) : Blk (w.alloc o) g t cs := (Below.heap_alloc w o g h.lt).trans h
theorem Blk.set_ (h : Blk w g t cs) (i : Nat) (u : Value) : Blk (w.setCell ⟨g, i, none⟩ u) g t (cs.setIfInBounds i u) := by
  unfold Blk at h ⊢
  simp [World.setCell, Array.getElem?_modify, h]
theorem Blk.below {B : Nat} (h : Blk w g t cs) (hb : Below B w w') (hg : g < B) : Blk w' g t cs := (hb.block g hg).trans h
theorem Blk.grown {row : Option Nat} (h : Blk w g t cs) (hb : w.grownBy w' row) (hg : some g ≠ row) : Blk w' g t cs := (hb.block g h.lt hg).trans h
theorem Blk.mod (h : Blk w g t cs) (hb : Mod S w w') (hg : ¬ S g) : Blk w' g t cs := (hb.block g h.lt hg).trans h
end

/-! Lists of things of a fixed number of cells each. -/
section
variable {α : Type} {enc : α → List Value} {size : Nat}
theorem flat_length (he : ∀ x, (enc x).length = size) (xs : List α) : (xs.flatMap enc).length = xs.length * size := by
  induction xs with
  | nil => simp
  | cons x xs ih => simp [he, ih, Nat.add_mul, Nat.add_comm]
theorem flat_get (he : ∀ x, (enc x).length = size) (xs : List α) (k j : Nat) (hj : j < size) : (xs.flatMap enc)[k * size + j]? = (xs[k]?).bind fun x => (enc x)[j]? := by
  induction xs generalizing k with
  | nil => simp
  | cons x xs ih =>
    cases k with
    | zero => simp [List.getElem?_append_left, he, hj]
    | succ k =>
      rw [List.flatMap_cons, List.getElem?_append_right (by rw [he, Nat.add_mul]; omega), he, show (k + 1) * size + j - size = k * size + j by rw [Nat.add_mul]; omega, ih]
      simp
end

/-- The slice at address A holds xs, each as the cells that enc gives; its block is among F. -/
def SlA {α : Type} (w : World) (F : Nat → Prop) (enc : α → List Value) (size : Nat) (A : Option Addr) (xs : List α) : Prop :=
  xs ≠ [] → ∃ b off, A = some ⟨b, off, none⟩ ∧ F b ∧ ∀ (k : Nat) x, xs[k]? = some x → ∀ j u, (enc x)[j]? = some u → w.cell? ⟨b, off + k * size + j, none⟩ = some u

/-- A slice value that reads as xs. -/
def Sl {α : Type} (w : World) (F : Nat → Prop) (enc : α → List Value) (size : Nat) (v : Value) (xs : List α) : Prop :=
  ∃ A cap, v = .slice A xs.length cap ∧ xs.length ≤ cap ∧ cap ≤ maxLen ∧ SlA w F enc size A xs

section
variable {α : Type} {enc : α → List Value} {size : Nat} {w w' : World} {F G S : Nat → Prop} {A : Option Addr} {v : Value} {xs : List α}
theorem SlA.nil : SlA w F enc size A [] := fun h => (h rfl).elim
theorem SlA.lt_ (h : SlA w F enc size A xs) (hx : xs ≠ []) (he : ∀ x, 0 < (enc x).length) {b off : Nat} (hA : A = some ⟨b, off, none⟩) : b < w.heap.size := by
  obtain ⟨b', off', hA', hb, hc⟩ := h hx
  rw [hA] at hA'; injection hA' with hA'; injection hA' with h1 h2; subst h1
  cases xs with
  | nil => exact (hx rfl).elim
  | cons x xs =>
    have := World.block_lt_of_cell? w _ (hc 0 x rfl 0 _ (List.getElem?_eq_getElem (he x)))
    exact this
theorem SlA.imp (h : SlA w F enc size A xs) (hF : ∀ k, F k → G k) : SlA w G enc size A xs := by
  intro hx
  obtain ⟨b, off, hA, hb, hc⟩ := h hx
  exact ⟨b, off, hA, hF b hb, hc⟩
theorem SlA.here (h : SlA w F enc size A xs) (he : ∀ x, 0 < (enc x).length) : SlA w (fun g => g < w.heap.size) enc size A xs := by
  intro hx
  obtain ⟨b, off, hA, hb, hc⟩ := h hx
  exact ⟨b, off, hA, SlA.lt_ h hx he hA, hc⟩
/-- All that lies in the world is kept by a call that leaves old blocks alone. -/
theorem SlA.below (h : SlA w F enc size A xs) (hm : Below w.heap.size w w') : SlA w' F enc size A xs := by
  intro hx
  obtain ⟨b, off, hA, hb, hc⟩ := h hx
  exact ⟨b, off, hA, hb, fun k x hk j u hu => (Mod.of_below (S := None_) hm).cell_some (hc k x hk j u hu) (fun h => h)⟩
theorem SlA.mod (h : SlA w F enc size A xs) (hm : Mod S w w') (hF : ∀ k, F k → ¬ S k) : SlA w' F enc size A xs := by
  intro hx
  obtain ⟨b, off, hA, hb, hc⟩ := h hx
  exact ⟨b, off, hA, hb, fun k x hk j u hu => hm.cell_some (hc k x hk j u hu) (hF b hb)⟩
theorem Sl.below (h : Sl w F enc size v xs) (hm : Below w.heap.size w w') : Sl w' F enc size v xs := by
  obtain ⟨A, cap, hv, h1, h2, hs⟩ := h
  exact ⟨A, cap, hv, h1, h2, hs.below hm⟩
theorem Sl.mod (h : Sl w F enc size v xs) (hm : Mod S w w') (hF : ∀ k, F k → ¬ S k) : Sl w' F enc size v xs := by
  obtain ⟨A, cap, hv, h1, h2, hs⟩ := h
  exact ⟨A, cap, hv, h1, h2, hs.mod hm hF⟩
theorem Sl.here (h : Sl w F enc size v xs) (he : ∀ x, 0 < (enc x).length) : Sl w (fun g => g < w.heap.size) enc size v xs := by
  obtain ⟨A, cap, hv, h1, h2, hs⟩ := h
  exact ⟨A, cap, hv, h1, h2, hs.here he⟩
theorem Sl.imp (h : Sl w F enc size v xs) (hF : ∀ k, F k → G k) : Sl w G enc size v xs := by
  obtain ⟨A, cap, hv, h1, h2, hs⟩ := h
  exact ⟨A, cap, hv, h1, h2, hs.imp hF⟩
theorem Sl.len (h : Sl w F enc size v xs) : xs.length ≤ maxLen := by
  obtain ⟨A, cap, hv, h1, h2, hs⟩ := h
  exact Nat.le_trans h1 h2
theorem Sl.nil (w : World) (F : Nat → Prop) (enc : α → List Value) (size : Nat) : Sl w F enc size (.slice none 0 0) [] := ⟨none, 0, rfl, Nat.le_refl _, Nat.zero_le _, SlA.nil⟩
/-- A cut s[i:j]. -/
theorem SlA.cut (h : SlA w F enc size A xs) {i j cap : Nat} (hij : i ≤ j) (hj : j ≤ xs.length) (hc : xs.length ≤ cap) :
    SlA w F enc size (if cap = i then A else A.map (·.add (i * size))) ((xs.drop i).take (j - i)) := by
  intro hx
  have hne : (xs.drop i).take (j - i) ≠ [] := hx
  have hlt : i < j := by
    rcases Nat.lt_or_ge i j with h1 | h1
    · exact h1
    · exfalso; apply hne; rw [show j - i = 0 by omega]; rfl
  obtain ⟨b, off, hA, hb, hcell⟩ := h (by rintro rfl; simp at hj; omega)
  subst hA
  refine ⟨b, off + i * size, ?_, hb, ?_⟩
  · rw [if_neg (by omega)]
    simp [Addr.add]
  · intro k x hk q u hu
    have hk' : xs[i + k]? = some x := by
      rw [List.getElem?_take] at hk
      split at hk
      · rwa [List.getElem?_drop] at hk
      · cases hk
    have := hcell (i + k) x hk' q u hu
    rw [show off + i * size + k * size + q = off + (i + k) * size + q by rw [Nat.add_mul]; omega]
    exact this
end

/-! Rows of the call's own. -/
def Own {α : Type} (w : World) (B : Nat) (e : TypeId) (enc : α → List Value) (size : Nat) (v : Value) (xs : List α) : Prop :=
  w.ownsRow B e size v xs.length (xs.flatMap enc)

section
variable {α : Type} {enc : α → List Value} {size : Nat} {w w' : World} {F G S : Nat → Prop} {B : Nat} {e : TypeId} {v : Value} {xs : List α}
theorem Own.nil (w : World) (B : Nat) (e : TypeId) (enc : α → List Value) (size : Nat) : Own w B e enc size (.slice none 0 0) [] := World.ownsRow_nil w B e size
theorem Own.made (w : World) (cur : Array Value) (cap : Nat) {B : Nat} (e : TypeId) (enc : α → List Value) (size : Nat) (hb : B ≤ w.heap.size) (hm : cap ≤ maxLen) (hs : cur.size = cap * size) :
    Own (w.alloc (.cells cur e)) B e enc size (.slice (some ⟨w.heap.size, 0, none⟩) 0 cap) [] := World.ownsRow_made w cur cap hb hm hs
theorem Own.empty (w : World) {B : Nat} (e : TypeId) (enc : α → List Value) (size : Nat) (hb : B ≤ w.heap.size) :
    Own (w.alloc (.cells #[] e)) B e enc size (.slice (some ⟨w.heap.size, 0, none⟩) 0 0) [] := World.ownsRow_made w #[] 0 hb (Nat.zero_le _) (by simp)
theorem Own.lt (h : Own w B e enc size v xs) : ∀ k, v.ownBlock = some k → B ≤ k ∧ k < w.heap.size := World.ownsRow.lt h
theorem Own.mod (h : Own w B e enc size v xs) (hm : Mod S w w') (hv : ∀ k, v.ownBlock = some k → ¬ S k) : Own w' B e enc size v xs := by
  refine ⟨h.1, ?_⟩
  rcases h.2 with hn | ⟨g, cap, cur, rfl, hb, hgg, rest⟩
  · exact .inl hn
  · refine .inr ⟨g, cap, cur, rfl, hb, ?_, rest⟩
    rw [hm.block g (Array.getElem?_eq_some_iff.1 hgg).1 (hv g rfl)]
    exact hgg
theorem Own.below (h : Own w B e enc size v xs) (hm : Below w.heap.size w w') : Own w' B e enc size v xs := h.mod (Mod.of_below (S := None_) hm) (fun _ _ h => h)
theorem Own.base (h : Own w B e enc size v xs) {B' : Nat} (hB : B' ≤ B) : Own w B' e enc size v xs := by
  refine ⟨h.1, ?_⟩
  rcases h.2 with hn | ⟨g, cap, cur, hv, hb, rest⟩
  · exact .inl hn
  · exact .inr ⟨g, cap, cur, hv, Nat.le_trans hB hb, rest⟩
theorem Own.alloc (h : Own w B e enc size v xs) (o : Obj) : Own (w.alloc o) B e enc size v xs := World.ownsRow.alloc h o
theorem Own.drew (h : Own w B e enc size v xs) : Own w.drew B e enc size v xs := h
theorem Own.sl (h : Own w B e enc size v xs) (he : ∀ x, (enc x).length = size) : Sl w (fun k => v.ownBlock = some k) enc size v xs := by
  rcases h.2 with ⟨rfl, h0⟩ | ⟨g, cap, cur, rfl, hb, hgg, hn, hm, hsz, ht⟩
  · have : xs = [] := List.eq_nil_of_length_eq_zero h0
    subst this
    exact Sl.nil _ _ _ _
  · refine ⟨_, cap, rfl, hn, hm, fun hx => ⟨g, 0, rfl, rfl, fun k x hk j u hu => ?_⟩⟩
    have hj : j < size := by
      have := (List.getElem?_eq_some_iff.1 hu).1
      rwa [he] at this
    have hfl : (xs.flatMap enc)[k * size + j]? = some u := by rw [flat_get he _ _ _ hj, hk]; exact hu
    have := World.ownsRow.cells (v := .slice (some ⟨g, 0, none⟩) xs.length cap) h (g := g) rfl (k * size + j) u hfl
    rw [show ((⟨g, 0, none⟩ : Addr).add (k * size + j)) = ⟨g, k * size + j, none⟩ by unfold Addr.add; split <;> simp_all] at this
    simpa [Nat.zero_add] using this
end

theorem flat_set {α : Type} {enc : α → List Value} {size : Nat} (he : ∀ x, (enc x).length = size) (xs : List α) (k j : Nat) (hk : k < xs.length) (hj : j < size) (u : Value) (x' : α) (hx : enc x' = (enc xs[k]).set j u) :
    (xs.flatMap enc).set (k * size + j) u = (xs.set k x').flatMap enc := by
  induction xs generalizing k with
  | nil => simp at hk
  | cons x xs ih =>
    cases k with
    | zero =>
      simp only [List.flatMap_cons, Nat.zero_mul, Nat.zero_add, List.set_cons_zero, List.getElem_cons_zero] at hx ⊢
      rw [List.set_append_left _ _ (by rw [he]; exact hj), hx]
    | succ k =>
      simp only [List.flatMap_cons, List.set_cons_succ, List.getElem_cons_succ, List.length_cons] at hx hk ⊢
      rw [List.set_append_right _ _ (by rw [he, Nat.add_mul]; omega), he, show (k + 1) * size + j - size = k * size + j by rw [Nat.add_mul]; omega, ih k (by omega) hx]
section
variable {α : Type} {enc : α → List Value} {size : Nat} {w w' : World} {B : Nat} {e : TypeId} {v : Value} {xs : List α}
theorem Own.form (h : Own w B e enc size v xs) (hx : xs ≠ []) : ∃ g cap cur, v = .slice (some ⟨g, 0, none⟩) xs.length cap ∧ B ≤ g ∧ w.heap[g]? = some (.cells cur e (0, 0)) ∧ xs.length ≤ cap ∧ cap ≤ maxLen ∧ cur.size = cap * size ∧ cur.toList.take (xs.length * size) = xs.flatMap enc := by
  rcases h.2 with ⟨_, h0⟩ | ⟨g, cap, cur, hv, hb, rest⟩
  · exact (hx (List.eq_nil_of_length_eq_zero h0)).elim
  · exact ⟨g, cap, cur, hv, hb, rest⟩
/-- A store into cell j of element k. -/
theorem Own.set_ (h : Own w B e enc size v xs) (he : ∀ x, (enc x).length = size) {g : Nat} (hg : v.ownBlock = some g) (k j : Nat) (hk : k < xs.length) (hj : j < size) (u : Value) (x' : α) (hx : enc x' = (enc xs[k]).set j u) :
    Own (w.setCell ⟨g, k * size + j, none⟩ u) B e enc size v (xs.set k x') := by
  have hne : xs ≠ [] := by rintro rfl; simp at hk
  obtain ⟨g', cap, cur, rfl, hb, hh, hn, hm, hs, ht⟩ := h.form hne
  have : g' = g := by simpa [Value.ownBlock] using hg
  subst this
  refine ⟨by rw [List.length_set, flat_length he, List.length_set], .inr ⟨g', cap, cur.setIfInBounds (k * size + j) u, by rw [List.length_set], hb, ?_, by rw [List.length_set]; exact hn, hm, by simpa using hs, ?_⟩⟩
  · simp [World.setCell, Array.getElem?_modify, hh]
  · rw [List.length_set, Array.toList_setIfInBounds, List.take_set, ht]
    exact flat_set he xs k j hk hj u x' hx
theorem Own.frozen {g n cap : Nat} (h : Own w B e enc size (.slice (some ⟨g, 0, none⟩) n cap) xs) (i : Nat) : w.frozen? ⟨g, i, none⟩ = false := by
  rcases h.2 with ⟨hv, _⟩ | ⟨g', c', cur, hv, hb, hgg, rest⟩
  · cases hv
  · injection hv with e1; injection e1 with e1; injection e1 with e1; subst e1
    exact Blk.frozen (t := e) (cs := cur) hgg i
theorem Own.grown {row : Option Nat} (h : Own w B e enc size v xs) (hg : w.grownBy w' row) (hv : v.ownBlock = none ∨ v.ownBlock ≠ row) : Own w' B e enc size v xs := World.ownsRow.kept h hg hv
end
/-- A slice value, as a thing of one cell. -/
structure SV where
  A : Option Addr
  n : Nat
  cap : Nat
def SV.val (s : SV) : Value := .slice s.A s.n s.cap
def svC (s : SV) : List Value := [s.val]
/-- What the program's tables say of a slice type t of elements e. -/
structure Elem (P : Program) (t e : TypeId) (size bytes : Nat) : Prop where
  ut : P.underlying t = some (.slice e)
  info : ∃ i z, P.info? e = some i ∧ i.zero = some z ∧ i.size = size ∧ i.bytes = bytes ∧ z.cells.size = size
  pos : 0 < size

/-- The one test that gives Elem by the kernel. -/
def elemOk (P : Program) (e : TypeId) (size bytes : Nat) : Bool :=
  match P.info? e with
  | some i => match i.zero with
    | some z => i.size == size && i.bytes == bytes && z.cells.size == size && decide (0 < size)
    | none => false
  | none => false
section
variable {P : Program} {α : Type} {enc : α → List Value} {size bytes : Nat} {w : World} {B : Nat} {t e : TypeId} {v : Value} {xs ys : List α}
end

section
variable {P : Program} {ops : Array Oper}
end
/-- Where a cut s[i:..] of a slice begins. -/
def cutA (A : Option Addr) (cap i size : Nat) : Option Addr := if cap = i then A else A.map (·.add (i * size))
theorem SlA.take {α : Type} {enc : α → List Value} {size : Nat} {w : World} {F : Nat → Prop} {A : Option Addr} {xs : List α} (h : SlA w F enc size A xs) (c : Nat) : SlA w F enc size A (xs.take c) := by
  intro hx
  obtain ⟨b, off, hA, hF, hc⟩ := h (by rintro rfl; simp at hx)
  refine ⟨b, off, hA, hF, fun k x hk => ?_⟩
  rw [List.getElem?_take] at hk
  split at hk
  · exact hc k x hk
  · cases hk
theorem SlA.drop {α : Type} {enc : α → List Value} {size : Nat} {w : World} {F : Nat → Prop} {A : Option Addr} {xs : List α} (h : SlA w F enc size A xs) {c cap : Nat} (hc : c ≤ xs.length) (hcap : xs.length ≤ cap) : SlA w F enc size (cutA A cap c size) (xs.drop c) := by
  have := h.cut (i := c) (j := xs.length) (cap := cap) hc (Nat.le_refl _) hcap
  rw [List.take_of_length_le (by simp)] at this
  exact this
/-- Three cells at the head of a block. -/
def At3 (w : World) (b : Nat) (x y z : Value) : Prop := w.cell? ⟨b, 0, none⟩ = some x ∧ w.cell? ⟨b, 1, none⟩ = some y ∧ w.cell? ⟨b, 2, none⟩ = some z
section
variable {w w' : World} {b : Nat} {x y z : Value} {S : Nat → Prop}
theorem At3.lt (h : At3 w b x y z) : b < w.heap.size := World.block_lt_of_cell? w _ h.1
theorem At3.new (w : World) (t : TypeId) (x y z : Value) : At3 (w.alloc (.cells #[x, y, z] t)) w.heap.size x y z :=
  ⟨(Blk.new w t #[x, y, z]).cell 0, (Blk.new w t #[x, y, z]).cell 1, (Blk.new w t #[x, y, z]).cell 2⟩
theorem At3.alloc (h : At3 w b x y z) (o : Obj) : At3 (w.alloc o) b x y z := ⟨cell_alloc h.1 o, cell_alloc h.2.1 o, cell_alloc h.2.2 o⟩
theorem At3.drew (h : At3 w b x y z) : At3 w.drew b x y z := h
theorem At3.mod (h : At3 w b x y z) (hm : Mod S w w') (hb : ¬ S b) : At3 w' b x y z := ⟨hm.cell_some h.1 hb, hm.cell_some h.2.1 hb, hm.cell_some h.2.2 hb⟩
theorem At3.below {B : Nat} (h : At3 w b x y z) (hm : Below B w w') (hb : b < B) : At3 w' b x y z :=
  ⟨(hm.cell (p := ⟨b, 0, none⟩) hb).trans h.1, (hm.cell (p := ⟨b, 1, none⟩) hb).trans h.2.1, (hm.cell (p := ⟨b, 2, none⟩) hb).trans h.2.2⟩
theorem At3.grown {row : Option Nat} (h : At3 w b x y z) (hg : w.grownBy w' row) (hb : some b ≠ row) : At3 w' b x y z := ⟨hg.cell h.1 hb, hg.cell h.2.1 hb, hg.cell h.2.2 hb⟩
end
end Go.Proofs.Ytfdcopbbnmialaa
