/- States: what the slots of a frame and the blocks that a function owns hold; how they move. No program in sight. -/
import Derived.Test.YtfdcopbbnmialaaV1
import Derived.Test.YtfdcopbbnmialaaBase
namespace Go.Proofs.Ytfdcopbbnmialaa
open Go Go.RowKit

/-- What holds of several blocks that are owned together, for all worlds that have them alike. -/
structure GX (bs : List Nat) where
  P : World → (Nat → Prop) → Prop
  mono : ∀ {w w' : World} {F F' : Nat → Prop}, (∀ b, F b → F' b) → (∀ b, F b → w'.heap[b]? = w.heap[b]?) → (∀ b ∈ bs, w'.heap[b]? = w.heap[b]?) → P w F → P w' F'
/-- A block that the function owns: a variable, or the row behind a slice; several blocks together. -/
inductive HO where
  | var (b : Nat) (c : AV)
  | row (v : Value) (e : TypeId) (sz : Nat) (xs : List AV)
  | obj (b : Nat) (o : Obj)
  | grp (bs : List Nat) (X : GX bs)
def HO.blk : HO → List Nat
  | .var b _ => [b]
  | .row v _ _ _ => v.ownBlock.toList
  | .obj b _ => [b]
  | .grp bs _ => bs
theorem row_blk {v : Value} {e : TypeId} {sz : Nat} {xs : List AV} {b : Nat} (h : v.ownBlock = some b) : b ∈ HO.blk (.row v e sz xs) := by
  show b ∈ v.ownBlock.toList
  rw [h]; simp
theorem blk_row {v : Value} {e : TypeId} {sz : Nat} {xs : List AV} {b : Nat} (h : b ∈ HO.blk (.row v e sz xs)) : v.ownBlock = some b := by
  have h : b ∈ v.ownBlock.toList := h
  simpa using h
def HOk (w : World) (F : Nat → Prop) : HO → Prop
  | .var b c => ∃ t cs, Blk w b t cs ∧ repC w F c cs.toList
  | .row v e sz xs => ∃ cells, repA w F sz xs cells ∧ w.ownsRow 0 e sz v xs.length cells
  | .obj b o => w.heap[b]? = some o
  | .grp bs X => bs.Nodup ∧ (∀ b ∈ bs, b < w.heap.size) ∧ X.P w F
def lookD : List (Nat × AV) → Nat → AV
  | [], _ => .any
  | (k, x) :: r, i => bif Nat.beq k i then x else lookD r i
def hget : List (Nat × HO) → Nat → Option HO
  | [], _ => none
  | (k, x) :: r, i => bif Nat.beq k i then some x else hget r i
def hset : List (Nat × HO) → Nat → HO → List (Nat × HO)
  | [], _, _ => []
  | (k, x) :: r, i, y => bif Nat.beq k i then (k, y) :: r else (k, x) :: hset r i y
def blks (H : List (Nat × HO)) : List Nat := H.flatMap (·.2.blk)
structure St where
  n : Nat
  slots : List (Nat × AV)
  heap : List (Nat × HO)
def St.slot (S : St) (i : Nat) : AV := lookD S.slots i
def St.put (S : St) (d : Nat) (x : AV) : St := ⟨S.n, (d, x) :: S.slots, S.heap⟩
/-- What holds of a function's run from its call on: the world then, what it may read for good, what it was handed to own. -/
structure Ctx where
  w0 : World
  F0 : Nat → Prop
  O0 : Nat → Prop
/-- The blocks that nobody writes. -/
def Fz (C : Ctx) (H : List (Nat × HO)) (w : World) : Nat → Prop := fun b => b < w.heap.size ∧ b ∉ blks H ∧ (C.F0 b ∨ C.w0.heap.size ≤ b ∨ C.O0 b)
structure Sat (C : Ctx) (S : St) (a : Act) (w : World) : Prop where
  n : a.tmps.size = S.n
  df : a.defers = []
  slots : ∀ i, repV w (Fz C S.heap w) (S.slot i) (a.tmps.getD i undef)
  heap : ∀ p ∈ S.heap, HOk w (Fz C S.heap w) p.2
  nd : (blks S.heap).Nodup
  lt : ∀ b ∈ blks S.heap, b < w.heap.size ∧ (C.w0.heap.size ≤ b ∨ C.O0 b)
  mod : Mod C.O0 C.w0 w

theorem lookD_put (S : St) (d i : Nat) (x : AV) : (S.put d x).slot i = if d = i then x else S.slot i := by
  unfold St.put St.slot
  simp only [lookD]
  by_cases h : d = i
  · subst h; simp [Nat.beq_refl]
  · rw [if_neg h]; cases hb : Nat.beq d i with
    | true => exact absurd (Nat.eq_of_beq_eq_true hb) h
    | false => rfl
theorem hget_split : ∀ {H : List (Nat × HO)} {k : Nat} {x : HO}, hget H k = some x → ∃ pre k' post, H = pre ++ (k', x) :: post ∧ ∀ y, hset H k y = pre ++ (k', y) :: post
  | (k', x') :: r, k, x, h => by
    unfold hget at h
    cases hb : Nat.beq k' k with
    | true =>
      rw [hb] at h
      simp only [cond_true, Option.some.injEq] at h
      subst h
      exact ⟨[], k', r, rfl, fun y => by unfold hset; rw [hb]; rfl⟩
    | false =>
      rw [hb] at h
      obtain ⟨pre, q, post, e1, e2⟩ := hget_split (H := r) (by simpa using h)
      exact ⟨(k', x') :: pre, q, post, by rw [e1]; rfl, fun y => by unfold hset; rw [hb]; simp only [cond_false, e2, List.cons_append]⟩
theorem hget_key : ∀ {H : List (Nat × HO)} {k : Nat} {x : HO}, hget H k = some x → ∃ pre post, H = pre ++ (k, x) :: post
  | (k', x') :: r, k, x, h => by
    unfold hget at h
    cases hb : Nat.beq k' k with
    | true =>
      rw [hb] at h
      simp only [cond_true, Option.some.injEq] at h
      subst h
      have := Nat.eq_of_beq_eq_true hb
      subst this
      exact ⟨[], r, rfl⟩
    | false =>
      rw [hb] at h
      obtain ⟨pre, post, e1⟩ := hget_key (H := r) (by simpa using h)
      exact ⟨(k', x') :: pre, post, by rw [e1]; rfl⟩
theorem blks_append (H1 H2 : List (Nat × HO)) : blks (H1 ++ H2) = blks H1 ++ blks H2 := by unfold blks; rw [List.flatMap_append]
theorem blks_cons (p : Nat × HO) (H : List (Nat × HO)) : blks (p :: H) = p.2.blk ++ blks H := by
  unfold blks
  rw [List.flatMap_cons]

theorem blks_hset {H : List (Nat × HO)} {k : Nat} {x : HO} (hg : hget H k = some x) (y : HO) (h : y.blk = x.blk) : blks (hset H k y) = blks H := by
  obtain ⟨pr, q, po, g1, g2⟩ := hget_split hg
  rw [g2 y, g1, blks_append, blks_append, blks_cons, blks_cons]
  show _ ++ (y.blk ++ _) = _ ++ (x.blk ++ _)
  rw [h]
theorem blk_mem {H : List (Nat × HO)} {k : Nat} {x : HO} (hg : hget H k = some x) {b : Nat} (h : b ∈ x.blk) : b ∈ blks H := by
  obtain ⟨pr, q, po, g1, g2⟩ := hget_split hg
  rw [g1, blks_append, blks_cons]
  simp [h]
section
variable {C : Ctx} {S : St} {a : Act} {w w' : World}
theorem Sat.getHeap (h : Sat C S a w) {k : Nat} {x : HO} (hk : hget S.heap k = some x) : HOk w (Fz C S.heap w) x := by
  obtain ⟨pre, q, post, e1, _⟩ := hget_split hk
  exact h.heap (q, x) (by rw [e1]; simp)
theorem Sat.put (h : Sat C S a w) {d : Nat} {x : AV} {v : Value} (hd : d < S.n) (hv : repV w (Fz C S.heap w) x v) : Sat C (S.put d x) (a.put (some d) v) w where
  n := by show (a.tmps.setIfInBounds d v).size = _; rw [Array.size_setIfInBounds]; exact h.n
  df := h.df
  slots := fun i => by
    rw [lookD_put]
    show repV w _ _ ((a.tmps.setIfInBounds d v).getD i undef)
    by_cases hi : d = i
    · subst hi
      rw [if_pos rfl]
      have : (a.tmps.setIfInBounds d v).getD d undef = v := by
        rw [Array.getD_eq_getD_getElem?, Array.getElem?_setIfInBounds_self_of_lt (by rw [h.n]; exact hd)]; rfl
      rw [this]; exact hv
    · rw [if_neg hi]
      have : (a.tmps.setIfInBounds d v).getD i undef = a.tmps.getD i undef := by
        rw [Array.getD_eq_getD_getElem?, Array.getD_eq_getD_getElem?, Array.getElem?_setIfInBounds_ne hi]
      rw [this]; exact h.slots i
  heap := h.heap
  nd := h.nd
  lt := h.lt
  mod := h.mod
/-- The world moves: some of the owned blocks are written, others come. -/
theorem Sat.move (h : Sat C S a w) (H' : List (Nat × HO)) (T : Nat → Prop) (hm : Mod T w w') (hT : ∀ b, b < w.heap.size → T b → b ∈ blks S.heap)
    (hnd : (blks H').Nodup) (hlt : ∀ b ∈ blks H', b < w'.heap.size ∧ (b ∈ blks S.heap ∨ w.heap.size ≤ b))
    (hH : ∀ p ∈ H', HOk w' (Fz C H' w') p.2) : Sat C ⟨S.n, S.slots, H'⟩ a w' where
  n := h.n
  df := h.df
  slots := fun i => repV_mono (fun b hb => ⟨Nat.lt_of_lt_of_le hb.1 hm.size, fun hin => by
      rcases (hlt b hin).2 with h1 | h1
      · exact hb.2.1 h1
      · exact absurd hb.1 (Nat.not_lt.2 h1), hb.2.2⟩) (fun b hb => hm.block b hb.1 (fun ht => hb.2.1 (hT b hb.1 ht))) _ _ (h.slots i)
  heap := hH
  nd := hnd
  lt := fun b hb => ⟨(hlt b hb).1, by
    rcases (hlt b hb).2 with h1 | h1
    · exact (h.lt b h1).2
    · exact .inl (Nat.le_trans h.mod.size h1)⟩
  mod := h.mod.trans_ (T := fun b => b ∈ blks S.heap) ⟨hm.os, hm.tape, hm.output, hm.size, fun k hk hn => hm.block k hk (fun ht => hn (hT k hk ht))⟩ (fun b hb hin => by
    rcases (h.lt b hin).2 with h1 | h1
    · omega
    · exact h1)
/-- What is no longer owned, and what is still: the cells of things that nobody wrote. -/
theorem Sat.keepC (_h : Sat C S a w) {H' : List (Nat × HO)} {T : Nat → Prop} (hm : Mod T w w') (hT : ∀ b, b < w.heap.size → T b → b ∈ blks S.heap)
    (hlt : ∀ b ∈ blks H', b < w'.heap.size ∧ (b ∈ blks S.heap ∨ w.heap.size ≤ b)) (x : AV) (cs : List Value) (hx : repC w (Fz C S.heap w) x cs) : repC w' (Fz C H' w') x cs :=
  repC_mono (fun b hb => ⟨Nat.lt_of_lt_of_le hb.1 hm.size, fun hin => by
      rcases (hlt b hin).2 with h1 | h1
      · exact hb.2.1 h1
      · exact absurd hb.1 (Nat.not_lt.2 h1), hb.2.2⟩) (fun b hb => hm.block b hb.1 (fun ht => hb.2.1 (hT b hb.1 ht))) x cs hx
theorem Sat.keepA (_h : Sat C S a w) {H' : List (Nat × HO)} {T : Nat → Prop} (hm : Mod T w w') (hT : ∀ b, b < w.heap.size → T b → b ∈ blks S.heap)
    (hlt : ∀ b ∈ blks H', b < w'.heap.size ∧ (b ∈ blks S.heap ∨ w.heap.size ≤ b)) (sz : Nat) (x : List AV) (cs : List Value) (hx : repA w (Fz C S.heap w) sz x cs) : repA w' (Fz C H' w') sz x cs :=
  repA_mono (fun b hb => ⟨Nat.lt_of_lt_of_le hb.1 hm.size, fun hin => by
      rcases (hlt b hin).2 with h1 | h1
      · exact hb.2.1 h1
      · exact absurd hb.1 (Nat.not_lt.2 h1), hb.2.2⟩) (fun b hb => hm.block b hb.1 (fun ht => hb.2.1 (hT b hb.1 ht))) sz x cs hx
/-- An owned thing that is not written. -/
theorem Sat.keepHO (h : Sat C S a w) {H' : List (Nat × HO)} {T : Nat → Prop} (hm : Mod T w w') (hT : ∀ b, b < w.heap.size → T b → b ∈ blks S.heap)
    (hlt : ∀ b ∈ blks H', b < w'.heap.size ∧ (b ∈ blks S.heap ∨ w.heap.size ≤ b)) {x : HO} (hx : HOk w (Fz C S.heap w) x) (hb : ∀ b, b ∈ x.blk → ¬ T b) : HOk w' (Fz C H' w') x := by
  cases x with
  | var b c =>
    obtain ⟨t, cs, h1, h2⟩ := hx
    exact ⟨t, cs, h1.mod hm (hb b (List.mem_singleton.2 rfl)), h.keepC hm hT hlt _ _ h2⟩
  | row v e sz xs =>
    obtain ⟨cells, h1, h2⟩ := hx
    refine ⟨cells, h.keepA hm hT hlt _ _ _ h1, h2.1, ?_⟩
    rcases h2.2 with hn | ⟨g, cap, cur, rfl, hg, hgg, rest⟩
    · exact .inl hn
    · refine .inr ⟨g, cap, cur, rfl, hg, ?_, rest⟩
      rw [hm.block g (Array.getElem?_eq_some_iff.1 hgg).1 (hb g (List.mem_singleton.2 rfl))]
      exact hgg
  | obj b o =>
    have hx : w.heap[b]? = some o := hx
    exact (hm.block b (Array.getElem?_eq_some_iff.1 hx).1 (hb b (List.mem_singleton.2 rfl))).trans hx
  | grp bs X =>
    refine ⟨hx.1, fun b hbb => Nat.lt_of_lt_of_le (hx.2.1 b hbb) hm.size, X.mono (fun b hb => ⟨Nat.lt_of_lt_of_le hb.1 hm.size, fun hin => by
      rcases (hlt b hin).2 with h1 | h1
      · exact hb.2.1 h1
      · exact absurd hb.1 (Nat.not_lt.2 h1), hb.2.2⟩) (fun b hb => hm.block b hb.1 (fun ht => hb.2.1 (hT b hb.1 ht))) (fun b hbb => hm.block b (hx.2.1 b hbb) (hb b hbb)) hx.2.2⟩
theorem HOk_nd {w : World} {F : Nat → Prop} {x : HO} (h : HOk w F x) : x.blk.Nodup := by
  cases x with
  | var b c => show [b].Nodup; simp
  | row v e sz xs => show (v.ownBlock.toList).Nodup; cases v.ownBlock <;> simp
  | obj b o => show [b].Nodup; simp
  | grp bs X => exact h.1
/-- A new block. -/
theorem Sat.new (h : Sat C S a w) (k : Nat) (x : HO) (hm : Mod None_ w w') (hx : HOk w' (Fz C ((k, x) :: S.heap) w') x) (hb : ∀ b, b ∈ x.blk → b < w'.heap.size ∧ w.heap.size ≤ b) :
    Sat C ⟨S.n, S.slots, (k, x) :: S.heap⟩ a w' := by
  have hlt : ∀ b ∈ blks ((k, x) :: S.heap), b < w'.heap.size ∧ (b ∈ blks S.heap ∨ w.heap.size ≤ b) := by
    intro b hin
    rw [blks_cons] at hin
    rcases List.mem_append.1 hin with h1 | h1
    · have h2 := hb b (by simpa using h1)
      exact ⟨h2.1, .inr h2.2⟩
    · exact ⟨Nat.lt_of_lt_of_le (h.lt b h1).1 hm.size, .inl h1⟩
  refine h.move _ None_ hm (fun _ _ hf => hf.elim) ?_ hlt ?_
  · rw [blks_cons]
    exact List.nodup_append.2 ⟨HOk_nd hx, h.nd, fun a ha b hbb he => by subst he; have := (h.lt a hbb).1; have := (hb a ha).2; omega⟩
  · intro p hp
    rcases List.mem_cons.1 hp with rfl | hp
    · exact hx
    · exact h.keepHO hm (fun _ _ hf => hf.elim) hlt (h.heap p hp) (fun _ _ hf => hf)
/-- An owned block is written, or gives way to another one. -/
theorem Sat.swap (h : Sat C S a w) {k : Nat} {x : HO} (hk : hget S.heap k = some x) (y : HO) (hm : Mod (fun b => b ∈ x.blk) w w')
    (hy : HOk w' (Fz C (hset S.heap k y) w') y) (hb : ∀ b, b ∈ y.blk → b < w'.heap.size ∧ (b ∈ x.blk ∨ w.heap.size ≤ b)) :
    Sat C ⟨S.n, S.slots, hset S.heap k y⟩ a w' := by
  obtain ⟨pre, q, post, e1, e2⟩ := hget_split hk
  have e2 := e2 y
  have hT : ∀ b, b < w.heap.size → b ∈ x.blk → b ∈ blks S.heap := fun b _ hb => by
    rw [e1, blks_append, blks_cons]; simp [hb]
  have hlt : ∀ b ∈ blks (hset S.heap k y), b < w'.heap.size ∧ (b ∈ blks S.heap ∨ w.heap.size ≤ b) := by
    intro b hin
    rw [e2, blks_append, blks_cons] at hin
    rcases List.mem_append.1 hin with h1 | h1
    · have : b ∈ blks S.heap := by rw [e1, blks_append]; exact List.mem_append.2 (.inl h1)
      exact ⟨Nat.lt_of_lt_of_le (h.lt b this).1 hm.size, .inl this⟩
    · rcases List.mem_append.1 h1 with h1 | h1
      · have h2 := hb b (by simpa using h1)
        refine ⟨h2.1, ?_⟩
        rcases h2.2 with h3 | h3
        · rcases Nat.lt_or_ge b w.heap.size with h4 | h4
          · exact .inl (hT b h4 h3)
          · exact .inr h4
        · exact .inr h3
      · have : b ∈ blks S.heap := by rw [e1, blks_append, blks_cons]; simp [h1]
        exact ⟨Nat.lt_of_lt_of_le (h.lt b this).1 hm.size, .inl this⟩
  have hnd := h.nd
  rw [e1, blks_append, blks_cons] at hnd
  have hin : ∀ b, b ∈ blks pre ∨ b ∈ blks post → b < w.heap.size ∧ b ∉ x.blk := by
    intro b hb
    have h1 : b ∈ blks S.heap := by rw [e1, blks_append, blks_cons]; rcases hb with h | h <;> simp [h]
    refine ⟨(h.lt b h1).1, fun he => ?_⟩
    simp only [List.nodup_append] at hnd
    rcases hb with h | h
    · exact hnd.2.2 b h b (List.mem_append_left _ he) rfl
    · exact hnd.2.1.2.2 b he b h rfl
  refine h.move _ _ hm hT ?_ hlt ?_
  · rw [e2, blks_append, blks_cons]
    have h1 : (blks pre ++ blks post).Nodup := by
      refine hnd.sublist (List.Sublist.append (List.Sublist.refl _) ?_)
      exact List.sublist_append_right _ _
    have h2 : ∀ c, c ∈ blks pre ∨ c ∈ blks post → c ∉ y.blk := fun c hc he => by
      have h3 := hin c hc
      rcases (hb c he).2 with h4 | h4
      · exact h3.2 h4
      · omega
    simp only [List.nodup_append] at h1 ⊢
    refine ⟨h1.1, ⟨HOk_nd hy, h1.2.1, fun c hc d hd he => ?_⟩, fun c hc d hd he => ?_⟩
    · subst he; exact h2 c (.inr hd) hc
    · subst he
      rcases List.mem_append.1 hd with hd | hd
      · exact h2 c (.inl hc) hd
      · exact h1.2.2 c hc c hd rfl
  · intro p hp
    rw [e2] at hp
    rcases List.mem_append.1 hp with h1 | h1
    · refine h.keepHO hm hT hlt (h.heap p (by rw [e1]; simp [h1])) (fun b hb he => ?_)
      have : b ∈ blks pre := List.mem_flatMap.2 ⟨p, h1, hb⟩
      exact (hin b (.inl this)).2 he
    · rcases List.mem_cons.1 h1 with rfl | h1
      · exact hy
      · refine h.keepHO hm hT hlt (h.heap p (by rw [e1]; simp [h1])) (fun b hb he => ?_)
        have : b ∈ blks post := List.mem_flatMap.2 ⟨p, h1, hb⟩
        exact (hin b (.inr this)).2 he
end
end Go.Proofs.Ytfdcopbbnmialaa
