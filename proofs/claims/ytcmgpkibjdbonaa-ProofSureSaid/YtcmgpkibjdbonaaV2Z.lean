/- States: what the slots of a frame and the blocks that a function owns hold; how they move. No program in sight. -/
import Derived.Test.YtcmgpkibjdbonaaV1Z
import Derived.Laws.Concat
import Derived.BigFrame
import Derived.BigCall
import Derived.Laws.Small
namespace Go.Proofs.Ytcmgpkibjdbonaa
open Go Go.RowKit

/-- A block that the function owns: a variable, or the row behind a slice. -/
inductive HO where
  | var (b : Nat) (c : AV)
  | row (v : Value) (e : TypeId) (sz : Nat) (xs : List AV)
  | obj (b : Nat) (o : Obj)
def HO.blk : HO → Option Nat
  | .var b _ => some b
  | .row v _ _ _ => v.ownBlock
  | .obj b _ => some b
def HOk (w : World) (F : Nat → Prop) : HO → Prop
  | .var b c => ∃ t cs, Blk w b t cs ∧ repC w F c cs.toList
  | .row v e sz xs => ∃ cells, repA w F sz xs cells ∧ w.ownsRow 0 e sz v xs.length cells
  | .obj b o => w.heap[b]? = some o
def lookD : List (Nat × AV) → Nat → AV
  | [], _ => .any
  | (k, x) :: r, i => bif Nat.beq k i then x else lookD r i
def hget : List (Nat × HO) → Nat → Option HO
  | [], _ => none
  | (k, x) :: r, i => bif Nat.beq k i then some x else hget r i
def hset : List (Nat × HO) → Nat → HO → List (Nat × HO)
  | [], _, _ => []
  | (k, x) :: r, i, y => bif Nat.beq k i then (k, y) :: r else (k, x) :: hset r i y
def blks (H : List (Nat × HO)) : List Nat := H.filterMap (·.2.blk)
structure St where
  n : Nat
  slots : List (Nat × AV)
  heap : List (Nat × HO)
def St.slot (S : St) (i : Nat) : AV := lookD S.slots i
def St.put (S : St) (d : Nat) (x : AV) : St := ⟨S.n, (d, x) :: S.slots, S.heap⟩
/-- What holds of a function's run from its call on: the world then, what it may read for good, what it was handed to own. -/
structure Ctx where
  w0 : World
  F0 : Nat → Prop
  O0 : Nat → Prop
/-- The blocks that nobody writes. -/
def Fz (C : Ctx) (H : List (Nat × HO)) (w : World) : Nat → Prop := fun b => b < w.heap.size ∧ b ∉ blks H ∧ (C.F0 b ∨ C.w0.heap.size ≤ b ∨ C.O0 b)
structure Sat (C : Ctx) (S : St) (a : Act) (w : World) : Prop where
  n : a.tmps.size = S.n
  df : a.defers = []
  slots : ∀ i, repV w (Fz C S.heap w) (S.slot i) (a.tmps.getD i undef)
  heap : ∀ p ∈ S.heap, HOk w (Fz C S.heap w) p.2
  nd : (blks S.heap).Nodup
  lt : ∀ b ∈ blks S.heap, b < w.heap.size ∧ (C.w0.heap.size ≤ b ∨ C.O0 b)
  mod : Mod C.O0 C.w0 w

theorem lookD_put (S : St) (d i : Nat) (x : AV) : (S.put d x).slot i = if d = i then x else S.slot i := by
  unfold St.put St.slot
  simp only [lookD]
  by_cases h : d = i
  · subst h; simp [Nat.beq_refl]
  · rw [if_neg h]; cases hb : Nat.beq d i with
    | true => exact absurd (Nat.eq_of_beq_eq_true hb) h
    | false => rfl
theorem hget_split : ∀ {H : List (Nat × HO)} {k : Nat} {x : HO}, hget H k = some x → ∃ pre k' post, H = pre ++ (k', x) :: post ∧ ∀ y, hset H k y = pre ++ (k', y) :: post
  | (k', x') :: r, k, x, h => by
    unfold hget at h
    cases hb : Nat.beq k' k with
    | true =>
      rw [hb] at h
      simp only [cond_true, Option.some.injEq] at h
      subst h
      exact ⟨[], k', r, rfl, fun y => by unfold hset; rw [hb]; rfl⟩
    | false =>
      rw [hb] at h
      obtain ⟨pre, q, post, e1, e2⟩ := hget_split (H := r) (by simpa using h)
      exact ⟨(k', x') :: pre, q, post, by rw [e1]; rfl, fun y => by unfold hset; rw [hb]; simp only [cond_false, e2, List.cons_append]⟩
theorem hget_key : ∀ {H : List (Nat × HO)} {k : Nat} {x : HO}, hget H k = some x → ∃ pre post, H = pre ++ (k, x) :: post
  | (k', x') :: r, k, x, h => by
    unfold hget at h
    cases hb : Nat.beq k' k with
    | true =>
      rw [hb] at h
      simp only [cond_true, Option.some.injEq] at h
      subst h
      have := Nat.eq_of_beq_eq_true hb
      subst this
      exact ⟨[], r, rfl⟩
    | false =>
      rw [hb] at h
      obtain ⟨pre, post, e1⟩ := hget_key (H := r) (by simpa using h)
      exact ⟨(k', x') :: pre, post, by rw [e1]; rfl⟩
theorem blks_append (H1 H2 : List (Nat × HO)) : blks (H1 ++ H2) = blks H1 ++ blks H2 := by unfold blks; rw [List.filterMap_append]
theorem blks_cons (p : Nat × HO) (H : List (Nat × HO)) : blks (p :: H) = p.2.blk.toList ++ blks H := by
  unfold blks
  rw [List.filterMap_cons]
  cases h : p.2.blk <;> rfl

theorem blks_hset {H : List (Nat × HO)} {k : Nat} {x : HO} (hg : hget H k = some x) (y : HO) (h : y.blk = x.blk) : blks (hset H k y) = blks H := by
  obtain ⟨pr, q, po, g1, g2⟩ := hget_split hg
  rw [g2 y, g1, blks_append, blks_append, blks_cons, blks_cons]
  show _ ++ (y.blk.toList ++ _) = _ ++ (x.blk.toList ++ _)
  rw [h]
theorem blk_mem {H : List (Nat × HO)} {k : Nat} {x : HO} (hg : hget H k = some x) {b : Nat} (h : x.blk = some b) : b ∈ blks H := by
  obtain ⟨pr, q, po, g1, g2⟩ := hget_split hg
  rw [g1, blks_append, blks_cons]
  simp [h]
section
variable {C : Ctx} {S : St} {a : Act} {w w' : World}
theorem Sat.getHeap (h : Sat C S a w) {k : Nat} {x : HO} (hk : hget S.heap k = some x) : HOk w (Fz C S.heap w) x := by
  obtain ⟨pre, q, post, e1, _⟩ := hget_split hk
  exact h.heap (q, x) (by rw [e1]; simp)
theorem Sat.put (h : Sat C S a w) {d : Nat} {x : AV} {v : Value} (hd : d < S.n) (hv : repV w (Fz C S.heap w) x v) : Sat C (S.put d x) (a.put (some d) v) w where
  n := by show (a.tmps.setIfInBounds d v).size = _; rw [Array.size_setIfInBounds]; exact h.n
  df := h.df
  slots := fun i => by
    rw [lookD_put]
    show repV w _ _ ((a.tmps.setIfInBounds d v).getD i undef)
    by_cases hi : d = i
    · subst hi
      rw [if_pos rfl]
      have : (a.tmps.setIfInBounds d v).getD d undef = v := by
        rw [Array.getD_eq_getD_getElem?, Array.getElem?_setIfInBounds_self_of_lt (by rw [h.n]; exact hd)]; rfl
      rw [this]; exact hv
    · rw [if_neg hi]
      have : (a.tmps.setIfInBounds d v).getD i undef = a.tmps.getD i undef := by
        rw [Array.getD_eq_getD_getElem?, Array.getD_eq_getD_getElem?, Array.getElem?_setIfInBounds_ne hi]
      rw [this]; exact h.slots i
  heap := h.heap
  nd := h.nd
  lt := h.lt
  mod := h.mod
/-- The world moves: some of the owned blocks are written, others come. -/
theorem Sat.move (h : Sat C S a w) (H' : List (Nat × HO)) (T : Nat → Prop) (hm : Mod T w w') (hT : ∀ b, b < w.heap.size → T b → b ∈ blks S.heap)
    (hnd : (blks H').Nodup) (hlt : ∀ b ∈ blks H', b < w'.heap.size ∧ (b ∈ blks S.heap ∨ w.heap.size ≤ b))
    (hH : ∀ p ∈ H', HOk w' (Fz C H' w') p.2) : Sat C ⟨S.n, S.slots, H'⟩ a w' where
  n := h.n
  df := h.df
  slots := fun i => repV_mono (fun b hb => ⟨Nat.lt_of_lt_of_le hb.1 hm.size, fun hin => by
      rcases (hlt b hin).2 with h1 | h1
      · exact hb.2.1 h1
      · exact absurd hb.1 (Nat.not_lt.2 h1), hb.2.2⟩) (fun b hb => hm.block b hb.1 (fun ht => hb.2.1 (hT b hb.1 ht))) _ _ (h.slots i)
  heap := hH
  nd := hnd
  lt := fun b hb => ⟨(hlt b hb).1, by
    rcases (hlt b hb).2 with h1 | h1
    · exact (h.lt b h1).2
    · exact .inl (Nat.le_trans h.mod.size h1)⟩
  mod := h.mod.trans_ (T := fun b => b ∈ blks S.heap) ⟨hm.os, hm.tape, hm.output, hm.size, fun k hk hn => hm.block k hk (fun ht => hn (hT k hk ht))⟩ (fun b hb hin => by
    rcases (h.lt b hin).2 with h1 | h1
    · omega
    · exact h1)
/-- What is no longer owned, and what is still: the cells of things that nobody wrote. -/
theorem Sat.keepC (_h : Sat C S a w) {H' : List (Nat × HO)} {T : Nat → Prop} (hm : Mod T w w') (hT : ∀ b, b < w.heap.size → T b → b ∈ blks S.heap)
    (hlt : ∀ b ∈ blks H', b < w'.heap.size ∧ (b ∈ blks S.heap ∨ w.heap.size ≤ b)) (x : AV) (cs : List Value) (hx : repC w (Fz C S.heap w) x cs) : repC w' (Fz C H' w') x cs :=
  repC_mono (fun b hb => ⟨Nat.lt_of_lt_of_le hb.1 hm.size, fun hin => by
      rcases (hlt b hin).2 with h1 | h1
      · exact hb.2.1 h1
      · exact absurd hb.1 (Nat.not_lt.2 h1), hb.2.2⟩) (fun b hb => hm.block b hb.1 (fun ht => hb.2.1 (hT b hb.1 ht))) x cs hx
theorem Sat.keepA (_h : Sat C S a w) {H' : List (Nat × HO)} {T : Nat → Prop} (hm : Mod T w w') (hT : ∀ b, b < w.heap.size → T b → b ∈ blks S.heap)
    (hlt : ∀ b ∈ blks H', b < w'.heap.size ∧ (b ∈ blks S.heap ∨ w.heap.size ≤ b)) (sz : Nat) (x : List AV) (cs : List Value) (hx : repA w (Fz C S.heap w) sz x cs) : repA w' (Fz C H' w') sz x cs :=
  repA_mono (fun b hb => ⟨Nat.lt_of_lt_of_le hb.1 hm.size, fun hin => by
      rcases (hlt b hin).2 with h1 | h1
      · exact hb.2.1 h1
      · exact absurd hb.1 (Nat.not_lt.2 h1), hb.2.2⟩) (fun b hb => hm.block b hb.1 (fun ht => hb.2.1 (hT b hb.1 ht))) sz x cs hx
/-- An owned thing that is not written. -/
theorem Sat.keepHO (h : Sat C S a w) {H' : List (Nat × HO)} {T : Nat → Prop} (hm : Mod T w w') (hT : ∀ b, b < w.heap.size → T b → b ∈ blks S.heap)
    (hlt : ∀ b ∈ blks H', b < w'.heap.size ∧ (b ∈ blks S.heap ∨ w.heap.size ≤ b)) {x : HO} (hx : HOk w (Fz C S.heap w) x) (hb : ∀ b, x.blk = some b → ¬ T b) : HOk w' (Fz C H' w') x := by
  cases x with
  | var b c =>
    obtain ⟨t, cs, h1, h2⟩ := hx
    exact ⟨t, cs, h1.mod hm (hb b rfl), h.keepC hm hT hlt _ _ h2⟩
  | row v e sz xs =>
    obtain ⟨cells, h1, h2⟩ := hx
    refine ⟨cells, h.keepA hm hT hlt _ _ _ h1, h2.1, ?_⟩
    rcases h2.2 with hn | ⟨g, cap, cur, rfl, hg, hgg, rest⟩
    · exact .inl hn
    · refine .inr ⟨g, cap, cur, rfl, hg, ?_, rest⟩
      rw [hm.block g (Array.getElem?_eq_some_iff.1 hgg).1 (hb g rfl)]
      exact hgg
  | obj b o =>
    have hx : w.heap[b]? = some o := hx
    exact (hm.block b (Array.getElem?_eq_some_iff.1 hx).1 (hb b rfl)).trans hx
/-- A new block. -/
theorem Sat.new (h : Sat C S a w) (k : Nat) (x : HO) (hm : Mod None_ w w') (hx : HOk w' (Fz C ((k, x) :: S.heap) w') x) (hb : ∀ b, x.blk = some b → b < w'.heap.size ∧ w.heap.size ≤ b) :
    Sat C ⟨S.n, S.slots, (k, x) :: S.heap⟩ a w' := by
  have hlt : ∀ b ∈ blks ((k, x) :: S.heap), b < w'.heap.size ∧ (b ∈ blks S.heap ∨ w.heap.size ≤ b) := by
    intro b hin
    rw [blks_cons] at hin
    rcases List.mem_append.1 hin with h1 | h1
    · have h2 := hb b (by simpa using h1)
      exact ⟨h2.1, .inr h2.2⟩
    · exact ⟨Nat.lt_of_lt_of_le (h.lt b h1).1 hm.size, .inl h1⟩
  refine h.move _ None_ hm (fun _ _ hf => hf.elim) ?_ hlt ?_
  · rw [blks_cons]
    cases hq : x.blk with
    | none => exact h.nd
    | some b =>
      exact List.nodup_cons.2 ⟨fun hin => by have := (h.lt b hin).1; have := (hb b hq).2; omega, h.nd⟩
  · intro p hp
    rcases List.mem_cons.1 hp with rfl | hp
    · exact hx
    · exact h.keepHO hm (fun _ _ hf => hf.elim) hlt (h.heap p hp) (fun _ _ hf => hf)
/-- An owned block is written, or gives way to another one. -/
theorem Sat.swap (h : Sat C S a w) {k : Nat} {x : HO} (hk : hget S.heap k = some x) (y : HO) (hm : Mod (fun b => x.blk = some b) w w')
    (hy : HOk w' (Fz C (hset S.heap k y) w') y) (hb : ∀ b, y.blk = some b → b < w'.heap.size ∧ (x.blk = some b ∨ w.heap.size ≤ b)) :
    Sat C ⟨S.n, S.slots, hset S.heap k y⟩ a w' := by
  obtain ⟨pre, q, post, e1, e2⟩ := hget_split hk
  have e2 := e2 y
  have hT : ∀ b, b < w.heap.size → x.blk = some b → b ∈ blks S.heap := fun b _ hb => by
    rw [e1, blks_append, blks_cons]; simp [hb]
  have hlt : ∀ b ∈ blks (hset S.heap k y), b < w'.heap.size ∧ (b ∈ blks S.heap ∨ w.heap.size ≤ b) := by
    intro b hin
    rw [e2, blks_append, blks_cons] at hin
    rcases List.mem_append.1 hin with h1 | h1
    · have : b ∈ blks S.heap := by rw [e1, blks_append]; exact List.mem_append.2 (.inl h1)
      exact ⟨Nat.lt_of_lt_of_le (h.lt b this).1 hm.size, .inl this⟩
    · rcases List.mem_append.1 h1 with h1 | h1
      · have h2 := hb b (by simpa using h1)
        refine ⟨h2.1, ?_⟩
        rcases h2.2 with h3 | h3
        · rcases Nat.lt_or_ge b w.heap.size with h4 | h4
          · exact .inl (hT b h4 h3)
          · exact .inr h4
        · exact .inr h3
      · have : b ∈ blks S.heap := by rw [e1, blks_append, blks_cons]; simp [h1]
        exact ⟨Nat.lt_of_lt_of_le (h.lt b this).1 hm.size, .inl this⟩
  have hnd := h.nd
  rw [e1, blks_append, blks_cons] at hnd
  have hin : ∀ b, b ∈ blks pre ∨ b ∈ blks post → b < w.heap.size ∧ x.blk ≠ some b := by
    intro b hb
    have h1 : b ∈ blks S.heap := by rw [e1, blks_append, blks_cons]; rcases hb with h | h <;> simp [h]
    refine ⟨(h.lt b h1).1, fun he => ?_⟩
    rw [he] at hnd
    simp only [Option.toList_some, List.singleton_append, List.nodup_append, List.nodup_cons] at hnd
    rcases hb with h | h
    · exact hnd.2.2 b h b (by simp) rfl
    · exact hnd.2.1.1 h
  refine h.move _ _ hm hT ?_ hlt ?_
  · rw [e2, blks_append, blks_cons]
    have h1 : (blks pre ++ blks post).Nodup := by
      refine hnd.sublist (List.Sublist.append (List.Sublist.refl _) ?_)
      exact List.sublist_append_right _ _
    cases hq : y.blk with
    | none => simpa using h1
    | some b =>
      have h2 : ∀ c, c ∈ blks pre ∨ c ∈ blks post → c ≠ b := fun c hc he => by
        subst he
        have h3 := hin c hc
        rcases (hb c hq).2 with h4 | h4
        · exact h3.2 h4
        · omega
      simp only [Option.toList_some, List.singleton_append, List.nodup_append, List.nodup_cons] at h1 ⊢
      refine ⟨h1.1, ⟨fun h => h2 b (.inr h) rfl, h1.2.1⟩, fun c hc d hd => ?_⟩
      rcases List.mem_cons.1 hd with rfl | hd
      · exact h2 c (.inl hc)
      · exact h1.2.2 c hc d hd
  · intro p hp
    rw [e2] at hp
    rcases List.mem_append.1 hp with h1 | h1
    · refine h.keepHO hm hT hlt (h.heap p (by rw [e1]; simp [h1])) (fun b hb he => ?_)
      have : b ∈ blks pre := List.mem_filterMap.2 ⟨p, h1, hb⟩
      exact (hin b (.inl this)).2 he
    · rcases List.mem_cons.1 h1 with rfl | h1
      · exact hy
      · refine h.keepHO hm hT hlt (h.heap p (by rw [e1]; simp [h1])) (fun b hb he => ?_)
        have : b ∈ blks post := List.mem_filterMap.2 ⟨p, h1, hb⟩
        exact (hin b (.inr this)).2 he
end
end Go.Proofs.Ytcmgpkibjdbonaa
namespace Go.Proofs.Ytcmgpkibjdbonaa
open Go Go.RowKit

/-! What is known of types. -/
inductive TK where
  | bool | int (k : IntKind) | string | slice (e : Nat) | ptr (e : Nat) | struct (fs : List (Nat × Nat)) | array (n e : Nat) | iface | func | map (k e : Nat) | other
def kOf : TypeDesc → TK
  | .bool => .bool
  | .int k => .int k
  | .string => .string
  | .slice e => .slice e
  | .pointer e => .ptr e
  | .struct fs => .struct (fs.toList.map fun f => (f.offset, f.type))
  | .array n e => .array n e
  | .interface _ => .iface
  | .func _ _ _ => .func
  | .map k e => .map k e
  | _ => .other
def TK.isAgg : TK → Bool
  | .struct _ | .array _ _ => true
  | _ => false
structure TI where
  k : TK
  sz : Nat
  bytes : Nat
  zero : AV
mutual
def flatZ : AV → Option (List Value)
  | .b x => some [.bool x]
  | .i k n => some [.int k n]
  | .s [] => some [.string ⟨#[]⟩]
  | .nil => some [.slice none 0 0]
  | .nilp => some [.pointer none]
  | .nilf => some [.nilFunc]
  | .nili => some [.nilIface]
  | .agg fs => flatZs fs
  | .arr sz n xs => if xs.length = n ∧ xs.all (fun x => sizeA x == sz) = true then flatZs xs else none
  | _ => none
def flatZs : List AV → Option (List Value)
  | [] => some []
  | x :: xs => match flatZ x, flatZs xs with
    | some a, some b => some (a ++ b)
    | _, _ => none
end
structure TOk (P : Program) (t : Nat) (ti : TI) : Prop where
  info : (P.info? t).map (fun i => (i.size, i.bytes)) = some (ti.sz, ti.bytes)
  kind : (P.underlying t).map kOf = some ti.k
  zero : ti.zero = .any ∨ ∃ cs, flatZ ti.zero = some cs ∧ (P.info? t).bind (·.zero) = some (ofCells ti.zero cs)
def tget : List (Nat × TI) → Nat → Option TI
  | [], _ => none
  | (k, x) :: r, i => bif Nat.beq k i then some x else tget r i
def TTOk (P : Program) (T : List (Nat × TI)) : Prop := ∀ p ∈ T, TOk P p.1 p.2
theorem tget_ok {P : Program} {T : List (Nat × TI)} (h : TTOk P T) {t : Nat} {ti : TI} (hg : tget T t = some ti) : TOk P t ti := by
  induction T with
  | nil => simp [tget] at hg
  | cons p r ih =>
    obtain ⟨k, x⟩ := p
    unfold tget at hg
    cases hb : Nat.beq k t with
    | true =>
      rw [hb] at hg
      simp only [cond_true, Option.some.injEq] at hg
      subst hg
      have : k = t := Nat.eq_of_beq_eq_true hb
      subst this
      exact h (k, x) (by simp)
    | false =>
      rw [hb] at hg
      exact ih (fun p hp => h p (by simp [hp])) (by simpa using hg)
theorem TOk.desc {P : Program} {t : Nat} {ti : TI} (h : TOk P t ti) : ∃ d, P.underlying t = some d ∧ kOf d = ti.k := by
  have := h.kind
  cases hu : P.underlying t with
  | none => rw [hu] at this; cases this
  | some d => rw [hu] at this; exact ⟨d, rfl, by simpa using this⟩
theorem TOk.inf {P : Program} {t : Nat} {ti : TI} (h : TOk P t ti) : ∃ i, P.info? t = some i ∧ i.size = ti.sz ∧ i.bytes = ti.bytes := by
  have := h.info
  cases hu : P.info? t with
  | none => rw [hu] at this; cases this
  | some d => rw [hu] at this; simp at this; exact ⟨d, rfl, this.1, this.2⟩

/-! Values of constants and operands. -/
def ofConst : Value → AV
  | .bool b => .b b
  | .int k n => .i k n
  | .string s => if s.size ≤ 65536 then .s s.data.toList else .any
  | .slice none 0 0 => .nil
  | .pointer none => .nilp
  | .nilFunc => .nilf
  | .nilIface => .nili
  | _ => .any
def ev (S : St) : Operand → AV
  | .tmp t => S.slot t
  | .const v => ofConst v
  | .func f => .fn (.func f) []
  | .global _ => .any
section
variable {w : World} {F : Nat → Prop} {v : Value}
theorem repV_b {x : Bool} : repV w F (.b x) v ↔ v = .bool x := by simp [repV, repC, ofCells, AV.isAgg]
theorem repV_i {k : IntKind} {n : Int} : repV w F (.i k n) v ↔ v = .int k n := by simp [repV, repC, ofCells, AV.isAgg]
theorem repV_s {x : List UInt8} : repV w F (.s x) v ↔ v = .string (bytesOf x) ∧ x.length ≤ maxLen := by
  simp only [repV, repC, ofCells, AV.isAgg]
  constructor
  · rintro ⟨cs, ⟨rfl, h⟩, hv⟩; exact ⟨by simpa using hv, h⟩
  · rintro ⟨rfl, h⟩; exact ⟨_, ⟨rfl, h⟩, by simp⟩
theorem repV_nil : repV w F .nil v ↔ v = .slice none 0 0 := by simp [repV, repC, ofCells, AV.isAgg]
theorem repV_nilp : repV w F .nilp v ↔ v = .pointer none := by simp [repV, repC, ofCells, AV.isAgg]
theorem repV_ptr {k b : Nat} {p : List Nat} {o : Nat} : repV w F (.ptr k b p o) v ↔ v = .pointer (some ⟨b, o, none⟩) := by simp [repV, repC, ofCells, AV.isAgg]
theorem repV_own {k : Nat} {u : Value} : repV w F (.own k u) v ↔ v = u ∧ u.oneCell' = true := by
  simp only [repV, repC, ofCells, AV.isAgg]
  constructor
  · rintro ⟨cs, ⟨rfl, h⟩, hv⟩; exact ⟨by simpa using hv, h⟩
  · rintro ⟨rfl, h⟩; exact ⟨_, ⟨rfl, h⟩, by simp⟩
theorem repV_vw {k b : Nat} {p : List Nat} {st o n c : Nat} : repV w F (.vw k b p st o n c) v ↔ v = .slice (some ⟨b, o, none⟩) n c ∧ n ≤ c ∧ c ≤ maxLen := by
  simp only [repV, repC, ofCells, AV.isAgg]
  constructor
  · rintro ⟨cs, ⟨rfl, h⟩, hv⟩; exact ⟨by simpa using hv, h⟩
  · rintro ⟨rfl, h⟩; exact ⟨_, ⟨rfl, h⟩, by simp⟩
theorem repV_nilf : repV w F .nilf v ↔ v = .nilFunc := by simp [repV, repC, ofCells, AV.isAgg]
theorem repV_nili : repV w F .nili v ↔ v = .nilIface := by simp [repV, repC, ofCells, AV.isAgg]
theorem repV_sl {sz : Nat} {xs : List AV} : repV w F (.sl sz xs) v ↔ ∃ A cap, v = .slice A xs.length cap ∧ xs.length ≤ cap ∧ cap ≤ maxLen ∧ (xs ≠ [] → ∃ b off, A = some ⟨b, off, none⟩ ∧ F b ∧ repRow w F b off sz xs) := by
  simp only [repV, repC, ofCells, AV.isAgg]
  constructor
  · rintro ⟨cs, ⟨A, cap, rfl, h⟩, hv⟩; exact ⟨A, cap, by simpa using hv, h⟩
  · rintro ⟨A, cap, rfl, h⟩; exact ⟨_, ⟨A, cap, rfl, h⟩, by simp⟩
theorem repV_agg {fs : List AV} : repV w F (.agg fs) v ↔ ∃ cs, v = .agg cs ∧ repL w F fs cs.toList := by
  simp only [repV, repC, ofCells, AV.isAgg]
  constructor
  · rintro ⟨cs, h, hv⟩; exact ⟨cs.toArray, by simpa using hv, by simpa using h⟩
  · rintro ⟨cs, rfl, h⟩; exact ⟨_, h, by simp⟩
theorem repV_cp {x : AV} : repV w F (.cp x) v ↔ ∃ b off vs, v = .pointer (some ⟨b, off, none⟩) ∧ F b ∧ repC w F x vs ∧ w.rangeAt b off vs := by
  simp only [repV, repC, ofCells, AV.isAgg]
  constructor
  · rintro ⟨cs, ⟨b, off, vs, rfl, h⟩, hv⟩; exact ⟨b, off, vs, by simpa using hv, h⟩
  · rintro ⟨b, off, vs, rfl, h⟩; exact ⟨_, ⟨b, off, vs, rfl, h⟩, by simp⟩
theorem bytesOf_data (s : ByteArray) : bytesOf s.data.toList = s := by cases s; rfl
theorem ofConst_rep (u : Value) : repV w F (ofConst u) u := by
  unfold ofConst
  split
  · exact repV_b.2 rfl
  · exact repV_i.2 rfl
  · split
    · rename_i s h
      exact repV_s.2 ⟨by rw [bytesOf_data], by rw [show s.data.toList.length = s.size from by cases s; rfl]; unfold maxLen; omega⟩
    · exact True.intro
  · exact repV_nil.2 rfl
  · exact repV_nilp.2 rfl
  · exact repV_nilf.2 rfl
  · exact repV_nili.2 rfl
  · exact True.intro
end
theorem ev_rep {C : Ctx} {S : St} {a : Act} {w : World} (h : Sat C S a w) (x : Operand) : repV w (Fz C S.heap w) (ev S x) (a.eval x) := by
  cases x with
  | tmp t => exact h.slots t
  | const v => exact ofConst_rep v
  | global g => exact True.intro
  | func f =>
    show repV w _ (.fn (.func f) []) (.func (.func f) #[] #[])
    simp [repV, repC, repL, ofCells, AV.isAgg]

/-! The evaluation. -/
structure CV where
  need : Prop
  gain : Prop
  rd : Option (Option Nat)
  val : AV
def CV.pure (x : AV) : Option CV := some ⟨True, True, none, x⟩
/-- The same, the value looked at first. -/
def CV.val_ (x : AV) : Option CV :=
  match x with
  | .any => CV.pure .any
  | .b t => CV.pure (.b t)
  | .i k n => CV.pure (.i k n)
  | .s x => CV.pure (.s x)
  | .sl sz xs => CV.pure (.sl sz xs)
  | .nil => CV.pure .nil
  | .agg fs => CV.pure (.agg fs)
  | .arr sz n xs => CV.pure (.arr sz n xs)
  | .ptr k b p o => CV.pure (.ptr k b p o)
  | .nilp => CV.pure .nilp
  | .own k v => CV.pure (.own k v)
  | .vw k b p st o n c => CV.pure (.vw k b p st o n c)
  | .cp a => CV.pure (.cp a)
  | .fn f c => CV.pure (.fn f c)
  | .nilf => CV.pure .nilf
  | .ifc t a => CV.pure (.ifc t a)
  | .nili => CV.pure .nili
  | .tup xs => CV.pure (.tup xs)
theorem CV.val_eq (x : AV) : CV.val_ x = CV.pure x := by cases x <;> rfl
def bitsI (op : BinOp) (k : IntKind) (x y : Int) : Int :=
  match op with
  | .and => k.wrap (BitVec.ofInt k.bits x &&& BitVec.ofInt k.bits y).toNat
  | .or => k.wrap (BitVec.ofInt k.bits x ||| BitVec.ofInt k.bits y).toNat
  | .xor => k.wrap (BitVec.ofInt k.bits x ^^^ BitVec.ofInt k.bits y).toNat
  | _ => k.wrap (BitVec.ofInt k.bits x &&& ~~~BitVec.ofInt k.bits y).toNat
def cvInt (op : BinOp) (k : IntKind) (a b : Int) : Option CV :=
  match op with
  | .add => CV.pure (.i k (k.wrap (a + b)))
  | .sub => CV.pure (.i k (k.wrap (a - b)))
  | .mul => CV.pure (.i k (k.wrap (a * b)))
  | .quo => some ⟨b ≠ 0, True, none, .i k (k.wrap (a.tdiv b))⟩
  | .rem => some ⟨b ≠ 0, True, none, .i k (a.tmod b)⟩
  | .and => CV.pure (.i k (bitsI .and k a b))
  | .or => CV.pure (.i k (bitsI .or k a b))
  | .xor => CV.pure (.i k (bitsI .xor k a b))
  | .andNot => CV.pure (.i k (bitsI .andNot k a b))
  | .eql => CV.pure (.b (a == b))
  | .neq => CV.pure (.b (a != b))
  | .lss => CV.pure (.b (decide (a < b)))
  | .leq => CV.pure (.b (decide (a ≤ b)))
  | .gtr => CV.pure (.b (decide (b < a)))
  | .geq => CV.pure (.b (decide (b ≤ a)))
  | _ => none
def cvStr (op : BinOp) (a b : List UInt8) : Option CV :=
  match op with
  | .add => some ⟨a.length + b.length ≤ maxLen, True, none, .s (a ++ b)⟩
  | .eql => CV.pure (.b (a == b))
  | .neq => CV.pure (.b (!(a == b)))
  | .lss => CV.pure (.b (Op.bytesLess a b))
  | .leq => CV.pure (.b (Op.bytesLess a b || a == b))
  | .gtr => CV.pure (.b (!(Op.bytesLess a b || a == b)))
  | .geq => CV.pure (.b (!Op.bytesLess a b))
  | _ => none
def cvBin (T : List (Nat × TI)) (op : BinOp) (t : Nat) : AV → AV → Option CV
  | .i k a, .i k' b =>
    match op with
    | .shl => some ⟨0 ≤ b, True, none, .i k (k.wrap (a * 2 ^ (min b.toNat k.bits)))⟩
    | .shr => some ⟨0 ≤ b, True, none, .i k (a.fdiv (2 ^ (min b.toNat k.bits)))⟩
    | _ => match cvInt op k a b with
      | some ⟨p, g, rd, v⟩ => some ⟨k = k' ∧ p, g, rd, v⟩
      | none => none
  | .s a, .s b => cvStr op a b
  | .b a, .b b =>
    match tget T t with
    | some ⟨.bool, _, _, _⟩ => match op with
      | .eql => CV.pure (.b (a == b))
      | .neq => CV.pure (.b (!(a == b)))
      | _ => none
    | _ => none
  | _, _ => none
def fits (ti : TI) (y : AV) : Prop := ti.sz = sizeA y ∧ ti.k.isAgg = y.isAgg
def cvLoad (T : List (Nat × TI)) (H : List (Nat × HO)) (t : Nat) : AV → Option CV
  | .ptr key b path off =>
    match tget T t with
    | some ti => match hget H key with
      | some (.var b' c) => match subAt path c with
        | some (o, y) => some ⟨b' = b ∧ o = off ∧ fits ti y, True, some (some key), y⟩
        | none => none
      | _ => none
    | none => none
  | .cp y =>
    match tget T t with
    | some ti => some ⟨fits ti y, True, some none, y⟩
    | none => none
  | _ => none
def cvFieldAddr (T : List (Nat × TI)) (s f : Nat) : AV → Option CV
  | .ptr key b path off =>
    match tget T s with
    | some ⟨.struct fs, _, _, _⟩ => match fs[f]? with
      | some (o, ft) => match tget T ft with
        | some ti => some ⟨ti.sz ≠ 0, True, none, .ptr key b (path ++ [f]) (off + o)⟩
        | none => none
      | none => none
    | _ => none
  | .cp (.agg xs) =>
    match tget T s with
    | some ⟨.struct fs, _, _, _⟩ => match fs[f]? with
      | some (o, ft) => match tget T ft with
        | some ti => match xs[f]? with
          | some y => some ⟨ti.sz ≠ 0 ∧ offL xs f = o, True, none, .cp y⟩
          | none => none
        | none => none
      | none => none
    | _ => none
  | _ => none
def cvField (T : List (Nat × TI)) (s f : Nat) : AV → Option CV
  | .agg xs =>
    match tget T s with
    | some ⟨.struct fs, _, _, _⟩ => match fs[f]? with
      | some (o, ft) => match tget T ft with
        | some ti => match xs[f]? with
          | some y => some ⟨offL xs f = o ∧ fits ti y, True, none, y⟩
          | none => none
        | none => none
      | none => none
    | _ => none
  | _ => none
def cvLen (T : List (Nat × TI)) (H : List (Nat × HO)) (t : Nat) (x : AV) : Option CV :=
  match tget T t with
  | some ⟨.string, _, _, _⟩ => match x with
    | .s x => some ⟨True, x.length ≤ 9223372036854775807, none, .i .i64 x.length⟩
    | _ => none
  | some ⟨.slice _, _, _, _⟩ => match x with
    | .sl _ xs => some ⟨True, xs.length ≤ 9223372036854775807, none, .i .i64 xs.length⟩
    | .nil => CV.pure (.i .i64 0)
    | .vw _ _ _ _ _ n _ => CV.pure (.i .i64 n)
    | .own k v => match hget H k with
      | some (.row v' _ _ xs) => some ⟨v' = v, xs.length ≤ 9223372036854775807, none, .i .i64 xs.length⟩
      | _ => none
    | _ => none
  | some ⟨.array n _, _, _, _⟩ => CV.pure (.i .i64 n)
  | _ => none
def cvConv (T : List (Nat × TI)) (s d : Nat) : AV → Option CV
  | .i _ n => match tget T s, tget T d with
    | some _, some ⟨.int k, _, _, _⟩ => CV.pure (.i k (k.wrap n))
    | _, _ => none
  | .s x => match tget T s, tget T d with
    | some _, some ⟨.string, _, _, _⟩ => CV.pure (.s x)
    | _, _ => none
  | _ => none
def cv (T : List (Nat × TI)) (H : List (Nat × HO)) (e : Operand → AV) : Op → Option CV
  | .move x | .assign x => CV.val_ (e x)
  | .pick c a b => match e c with
    | .b true => CV.val_ (e a)
    | .b false => CV.val_ (e b)
    | _ => none
  | .load t x => cvLoad T H t (e x)
  | .fieldAddr s x f => cvFieldAddr T s f (e x)
  | .field s x f => cvField T s f (e x)
  | .nilCheck x => match e x with
    | .ptr k b p o => CV.pure (.ptr k b p o)
    | .cp y => CV.pure (.cp y)
    | _ => none
  | .binOp op t x y _ => cvBin T op t (e x) (e y)
  | .unOp op _ x => match op, e x with
    | .not, .b t => CV.pure (.b (!t))
    | .neg, .i k n => CV.pure (.i k (k.wrap (0 - n)))
    | .xor, .i k n => CV.pure (.i k (bitsI .xor k (if k.signed then -1 else k.max) n))
    | _, _ => none
  | .convert s d x => cvConv T s d (e x)
  | .extract t i => match e t with
    | .tup xs => match xs[i]? with
      | some x => CV.val_ x
      | none => none
    | _ => none
  | .call ⟨.builtin .len, args, ats⟩ => match args[0]?, ats[0]? with
    | some x, some t => cvLen T H t (e x)
    | _, _ => none
  | .call ⟨.builtin .max, args, _⟩ => match args.toList with
    | [x, y] => match e x, e y with
      | .i k a, .i _ b => CV.pure (.i k (if b > a then b else a))
      | .s a, .s b => CV.pure (.s (if (!Op.bytesLess a b) then a else b))
      | _, _ => none
    | _ => none
  | .call ⟨.builtin .min, args, _⟩ => match args.toList with
    | [x, y] => match e x, e y with
      | .i k a, .i _ b => CV.pure (.i k (if b < a then b else a))
      | .s a, .s b => CV.pure (.s (if (Op.bytesLess a b || a == b) then a else b))
      | _, _ => none
    | _ => none
  | _ => none
def Reads (C : Ctx) (H : List (Nat × HO)) (w w' : World) : Option (Option Nat) → Prop
  | none => True
  | some (some k) => ∀ x b, hget H k = some x → x.blk = some b → w'.heap[b]? = w.heap[b]?
  | some none => ∀ b, Fz C H w b → w'.heap[b]? = w.heap[b]?
end Go.Proofs.Ytcmgpkibjdbonaa
namespace Go.Proofs.Ytcmgpkibjdbonaa
open Go Go.RowKit

section
variable {P : Program} {T : List (Nat × TI)} {w : World}
theorem TOk.sizeRun {t : Nat} {ti : TI} (h : TOk P t ti) (w : World) : (sizeOf t).run P w = .ok ti.sz w := by
  obtain ⟨i, hi, h1, _⟩ := h.inf
  simp [sizeOf, typeInfo, hi, h1]
theorem TOk.aggRun {t : Nat} {ti : TI} (h : TOk P t ti) (w : World) : (isAgg t).run P w = .ok ti.k.isAgg w := by
  obtain ⟨d, hd, hk⟩ := h.desc
  unfold isAgg
  rw [Sem.run_bind, run_underlying hd w, ← hk]
  cases d <;> simp [kOf, TK.isAgg]
theorem isRow_isAgg {d : TypeDesc} : d.isRow = (kOf d).isAgg := by cases d <;> rfl
theorem flat_one {w : World} {F : Nat → Prop} {y : AV} {cs : List Value} (h : repC w F y cs) (hy : y.isAgg = false) : ∃ u, cs = [u] := by
  have := repC_size y cs h
  cases y <;> simp [AV.isAgg] at hy <;> simp only [sizeA] at this <;> first
    | exact List.length_eq_one_iff.1 this
    | simp only [repC] at h
/-- A load of what lies at an address. -/
theorem load_run {t : Nat} {ti : TI} (h : TOk P t ti) {F : Nat → Prop} {y : AV} (hf : fits ti y) {b o : Nat} {vs : List Value} (hr : repC w F y vs) (w' : World) (hv : w'.rangeAt b o vs) :
    (Instr.loadAt t (.pointer (some ⟨b, o, none⟩))).run P w' = .ok (ofCells y vs) w' := by
  have hsz := repC_size y vs hr
  cases hy : y.isAgg with
  | true =>
    obtain ⟨d, hd, hk⟩ := h.desc
    obtain ⟨i, hi, h1, _⟩ := h.inf
    rw [run_loadAt_mid w' b o t vs d hv hd (by rw [isRow_isAgg, hk, hf.2, hy]) (by rw [hi]; simp [h1, hf.1, hsz])]
    simp [ofCells, hy]
  | false =>
    obtain ⟨u, rfl⟩ := flat_one hr hy
    have hc : w'.cell? ⟨b, o, none⟩ = some u := by have := hv 0 u rfl; simpa using this
    simp only [Instr.loadAt, Instr.sureAddr, Sem.run_bind, Sem.run_pure, Result.andThen_ok]
    unfold loadVar
    rw [Sem.run_bind, h.aggRun, hf.2, hy]
    simp [load, Sem.run, hc, ofCells, hy]
theorem part_run {t : Nat} {ti : TI} (h : TOk P t ti) {F : Nat → Prop} {y : AV} (hf : fits ti y) {pre vs post : List Value} (hr : repC w F y vs) (w' : World) :
    (part t (pre ++ vs ++ post).toArray pre.length).run P w' = .ok (ofCells y vs) w' := by
  have hsz := repC_size y vs hr
  unfold part
  rw [Sem.run_bind, h.aggRun, hf.2]
  cases hy : y.isAgg with
  | true =>
    simp only [Result.andThen_ok, if_true, Sem.run_bind, h.sizeRun, Sem.run_pure, ofCells, hy]
    congr 2
    apply Array.ext'
    rw [Array.toList_extract, hf.1, ← hsz]
    simp
  | false =>
    obtain ⟨u, rfl⟩ := flat_one hr hy
    simp [ofCells, hy]
end

section
variable {P : Program} {T : List (Nat × TI)} {C : Ctx} {H : List (Nat × HO)} {w : World} {F : Nat → Prop}
theorem binOp_int_run (op : BinOp) (t : Nat) (k : IntKind) (a b : Int) (r : CV) (h : cvInt op k a b = some r) (hn : r.need) (x y : Operand) :
    ∃ u, repV w F r.val u ∧ r.gain ∧ r.rd = none ∧ ∀ w', ((do eqGuard op t x y (.int k a) (.int k b); binOp op t (.int k a) (.int k b) : Sem Value)).run P w' = .ok u w' := by
  cases op <;> simp only [cvInt, CV.pure, Option.some.injEq, reduceCtorEq] at h <;> subst h <;> simp only at hn ⊢ <;> first
    | (refine ⟨_, repV_b.2 rfl, trivial, trivial, fun w' => ?_⟩; simp [eqGuard, binOp, Op.intCmp]; done)
    | (refine ⟨_, repV_i.2 rfl, trivial, trivial, fun w' => ?_⟩; simp [eqGuard, binOp, Op.intArith]; done)
    | (refine ⟨_, repV_i.2 rfl, trivial, trivial, fun w' => ?_⟩; simp [eqGuard, binOp, Op.intDiv, hn]; done)
    | (refine ⟨_, repV_i.2 rfl, trivial, trivial, fun w' => ?_⟩; simp [eqGuard, binOp, Op.intBits, bitsI]; done)
theorem binOp_str_run (op : BinOp) (t : Nat) (a b : List UInt8) (r : CV) (h : cvStr op a b = some r) (hn : r.need) (x y : Operand) :
    ∃ u, repV w F r.val u ∧ r.gain ∧ r.rd = none ∧ ∀ w', ((do eqGuard op t x y (.string (bytesOf a)) (.string (bytesOf b)); binOp op t (.string (bytesOf a)) (.string (bytesOf b)) : Sem Value)).run P w' = .ok u w' := by
  have e1 : ∀ l : List UInt8, (bytesOf l).toList = l := fun l => ByteArray.toList_eq _
  have e2 : ∀ l : List UInt8, (bytesOf l).size = l.length := fun l => rfl
  have e3 : bytesOf a ++ bytesOf b = bytesOf (a ++ b) := by
    have h : (bytesOf a ++ bytesOf b).data = (bytesOf (a ++ b)).data := by
      rw [ByteArray.data_append]; simp [bytesOf]
    cases hx : bytesOf a ++ bytesOf b; rw [hx] at h; cases hy : bytesOf (a ++ b); rw [hy] at h; simp at h; rw [h]
  cases op <;> simp only [cvStr, CV.pure, Option.some.injEq, reduceCtorEq] at h <;> subst h <;> simp only at hn ⊢ <;> first
    | (refine ⟨_, repV_b.2 rfl, trivial, trivial, fun w' => ?_⟩; simp [eqGuard, binOp, Op.stringOp, e1]; done)
    | skip
  refine ⟨_, repV_s.2 ⟨rfl, by simpa using hn⟩, trivial, trivial, fun w' => ?_⟩
  have h1 := run_string_add_sum (P := P) (w := w') (bytesOf a) (bytesOf b) (by rw [e2, e2]; unfold maxLen at hn; exact hn)
  rw [e3] at h1
  simp [eqGuard, binOp, h1]
theorem binOp_bool_run (hT : TTOk P T) (op : BinOp) (t : Nat) (a b : Bool) (r : CV) (h : cvBin T op t (.b a) (.b b) = some r) (x y : Operand) :
    ∃ u, repV w F r.val u ∧ r.gain ∧ r.rd = none ∧ ∀ w', ((do eqGuard op t x y (.bool a) (.bool b); binOp op t (.bool a) (.bool b) : Sem Value)).run P w' = .ok u w' := by
  simp only [cvBin] at h
  split at h
  · rename_i sz by_ z ht
    obtain ⟨d, hd, hk⟩ := (tget_ok hT ht).desc
    have hd2 : d = .bool := by cases d <;> simp [kOf] at hk; rfl
    subst hd2
    cases op <;> simp only [CV.pure, Option.some.injEq, reduceCtorEq] at h <;> subst h
    · refine ⟨_, repV_b.2 rfl, trivial, rfl, fun w' => ?_⟩
      have h1 := run_equal_bool w' t a b hd
      have h2 : (eqGuard .eql t x y (.bool a) (.bool b)).run P w' = .ok () w' := by simp [eqGuard]
      rw [Sem.run_bind, h2]
      simp only [Result.andThen_ok, binOp, Sem.run_bind, h1]
      rfl
    · refine ⟨_, repV_b.2 rfl, trivial, rfl, fun w' => ?_⟩
      have h1 := run_equal_bool w' t a b hd
      have h2 : (eqGuard .neq t x y (.bool a) (.bool b)).run P w' = .ok () w' := by simp [eqGuard]
      rw [Sem.run_bind, h2]
      simp only [Result.andThen_ok, binOp, Sem.run_bind, h1]
      rfl
  · cases h
theorem binOp_run (hT : TTOk P T) (op : BinOp) (t : Nat) (A B : AV) (r : CV) (h : cvBin T op t A B = some r) (hn : r.need) (x y : Operand) (u v : Value) (hu : repV w F A u) (hv : repV w F B v) :
    ∃ z, repV w F r.val z ∧ r.gain ∧ r.rd = none ∧ ∀ w', ((do eqGuard op t x y u v; binOp op t u v : Sem Value)).run P w' = .ok z w' := by
  have h0 := h
  unfold cvBin at h
  split at h
  · rename_i k a k' b
    rw [repV_i] at hu hv
    subst hu; subst hv
    split at h
    · simp only [Option.some.injEq] at h; subst h
      simp only at hn
      refine ⟨_, repV_i.2 rfl, trivial, rfl, fun w' => ?_⟩
      have : ¬ b < 0 := by omega
      simp [eqGuard, binOp, Op.shift, this]
    · simp only [Option.some.injEq] at h; subst h
      simp only at hn
      refine ⟨_, repV_i.2 rfl, trivial, rfl, fun w' => ?_⟩
      have : ¬ b < 0 := by omega
      simp [eqGuard, binOp, Op.shift, this]
    · split at h
      · rename_i p g rd v hr
        simp only [Option.some.injEq] at h; subst h
        simp only at hn
        obtain ⟨rfl, hn⟩ := hn
        exact binOp_int_run op t k a b ⟨p, g, rd, v⟩ hr hn x y
      · cases h
  · rename_i a b
    rw [repV_s] at hu hv
    obtain ⟨rfl, _⟩ := hu; obtain ⟨rfl, _⟩ := hv
    exact binOp_str_run op t a b r h hn x y
  · rename_i a b
    rw [repV_b] at hu hv
    subst hu; subst hv
    exact binOp_bool_run hT op t a b r h0 x y
  · cases h
theorem fieldAt_run {s f : Nat} {fs : List (Nat × Nat)} {sz by_ : Nat} {z : AV} (h : TOk P s ⟨.struct fs, sz, by_, z⟩) {o ft : Nat} (hf : fs[f]? = some (o, ft)) {ti : TI} (ht : TOk P ft ti) (hz : ti.sz ≠ 0) (b off : Nat) (w' : World) :
    (Instr.fieldAt s (.pointer (some ⟨b, off, none⟩)) f).run P w' = .ok (.pointer (some ⟨b, off + o, none⟩)) w' := by
  obtain ⟨d, hd, hk⟩ := h.desc
  cases d <;> simp [kOf] at hk
  rename_i fields
  subst hk
  rw [List.getElem?_map] at hf
  cases hq : fields.toList[f]? with
  | none => rw [hq] at hf; cases hf
  | some fl =>
    rw [hq] at hf
    simp only [Option.map_some, Option.some.injEq, Prod.mk.injEq] at hf
    obtain ⟨rfl, rfl⟩ := hf
    have hq' : fields[f]? = some fl := by rw [← Array.getElem?_toList]; exact hq
    simp [Instr.fieldAt, run_underlying hd, hq', Instr.sureAddr, fieldPlace, ht.sizeRun, hz, Addr.add]
    try (intro h0; rw [h0])
theorem field_run {s f : Nat} {fs : List (Nat × Nat)} {sz by_ : Nat} {z : AV} (h : TOk P s ⟨.struct fs, sz, by_, z⟩) {o ft : Nat} (hf : fs[f]? = some (o, ft)) {ti : TI} (ht : TOk P ft ti) {y : AV} (hfit : fits ti y)
    {pre vs post : List Value} (hr : repC w F y vs) (ho : pre.length = o) (w' : World) :
    (Instr.field s (.agg (pre ++ vs ++ post).toArray) f).run P w' = .ok (ofCells y vs) w' := by
  obtain ⟨d, hd, hk⟩ := h.desc
  cases d <;> simp [kOf] at hk
  rename_i fields
  subst hk
  rw [List.getElem?_map] at hf
  cases hq : fields.toList[f]? with
  | none => rw [hq] at hf; cases hf
  | some fl =>
    rw [hq] at hf
    simp only [Option.map_some, Option.some.injEq, Prod.mk.injEq] at hf
    obtain ⟨rfl, rfl⟩ := hf
    have hq' : fields[f]? = some fl := by rw [← Array.getElem?_toList]; exact hq
    have hp := part_run ht hfit hr w' (pre := pre) (post := post)
    rw [ho] at hp
    simp only [Instr.field, Sem.run_bind, run_underlying hd, Result.andThen_ok, hq', asAgg, Sem.run_pure, hp]
theorem tk_string {t : Nat} {sz by_ : Nat} {z : AV} (h : TOk P t ⟨.string, sz, by_, z⟩) : P.underlying t = some .string := by
  obtain ⟨d, hd, hk⟩ := h.desc
  cases d <;> simp [kOf] at hk; exact hd
theorem tk_slice {t e : Nat} {sz by_ : Nat} {z : AV} (h : TOk P t ⟨.slice e, sz, by_, z⟩) : P.underlying t = some (.slice e) := by
  obtain ⟨d, hd, hk⟩ := h.desc
  cases d <;> simp [kOf] at hk; subst hk; exact hd
theorem tk_array {t n e : Nat} {sz by_ : Nat} {z : AV} (h : TOk P t ⟨.array n e, sz, by_, z⟩) : P.underlying t = some (.array n e) := by
  obtain ⟨d, hd, hk⟩ := h.desc
  cases d <;> simp [kOf] at hk; obtain ⟨rfl, rfl⟩ := hk; exact hd
theorem tk_int {t : Nat} {k : IntKind} {sz by_ : Nat} {z : AV} (h : TOk P t ⟨.int k, sz, by_, z⟩) : P.underlying t = some (.int k) := by
  obtain ⟨d, hd, hk⟩ := h.desc
  cases d <;> simp [kOf] at hk; subst hk; exact hd
end
/-- What a step that leaves the world as it is comes to. -/
def Steps1 (P : Program) (C : Ctx) (H : List (Nat × HO)) (w : World) (ρ : Operand → Value) (o : Oper) (r : CV) : Prop :=
  r.gain ∧ ∃ v, repV w (Fz C H w) r.val v ∧ ∀ w', Reads C H w w' r.rd → (execOp ρ o).run P w' = .ok (.value v) w'
section
variable {P : Program} {T : List (Nat × TI)} {C : Ctx} {S : St} {a : Act} {w : World}
theorem cv_load (hT : TTOk P T) (hs : Sat C S a w) {t : Nat} {A : AV} {r : CV} (h : cvLoad T S.heap t A = some r) (hn : r.need) {v : Value} (hv : repV w (Fz C S.heap w) A v) :
    r.gain ∧ ∃ u, repV w (Fz C S.heap w) r.val u ∧ ∀ w', Reads C S.heap w w' r.rd → (Instr.loadAt t v).run P w' = .ok u w' := by
  unfold cvLoad at h
  split at h
  · rename_i key b path off
    split at h
    · rename_i ti ht
      split at h
      · rename_i b' c hg
        split at h
        · rename_i o y hy
          simp only [Option.some.injEq] at h; subst h
          simp only at hn ⊢
          obtain ⟨rfl, rfl, hf⟩ := hn
          rw [repV_ptr] at hv; subst hv
          obtain ⟨t2, cs, hb, hc⟩ := hs.getHeap hg
          obtain ⟨pre, mid, post, e1, e2, e3, _⟩ := sub_split path c _ o y hc hy
          refine ⟨trivial, _, repV_mk e3, fun w' hr => load_run (tget_ok hT ht) hf e3 w' ?_⟩
          have hr : w'.heap[b']? = w.heap[b']? := hr _ b' hg rfl
          intro j u hj
          have hblk : Blk w' b' t2 cs := by unfold Blk; rw [hr]; exact hb
          rw [hblk.cell, ← Array.getElem?_toList, e1, ← e2]
          have hjl := (List.getElem?_eq_some_iff.1 hj).1
          rw [List.append_assoc, List.getElem?_append_right (by omega), Nat.add_sub_cancel_left, List.getElem?_append_left hjl]
          exact hj
        · cases h
      · cases h
    · cases h
  · rename_i y
    split at h
    · rename_i ti ht
      simp only [Option.some.injEq] at h; subst h
      simp only at hn ⊢
      rw [repV_cp] at hv
      obtain ⟨b, off, vs, rfl, hb, hc, hra⟩ := hv
      refine ⟨trivial, _, repV_mk hc, fun w' hr => load_run (tget_ok hT ht) hn hc w' ?_⟩
      have hr : ∀ b, Fz C S.heap w b → w'.heap[b]? = w.heap[b]? := hr
      exact rangeAt_of hra (hr b hb)
    · cases h
  · cases h
theorem cv_fieldAddr (hT : TTOk P T) {s f : Nat} {A : AV} {r : CV} (h : cvFieldAddr T s f A = some r) (hn : r.need) {F : Nat → Prop} {v : Value} (hv : repV w F A v) :
    r.gain ∧ r.rd = none ∧ ∃ u, repV w F r.val u ∧ ∀ w', (Instr.fieldAt s v f).run P w' = .ok u w' := by
  unfold cvFieldAddr at h
  split at h
  · rename_i key b path off
    split at h
    · rename_i fs sz by_ z hs
      split at h
      · rename_i o ft hf
        split at h
        · rename_i ti ht
          simp only [Option.some.injEq] at h; subst h
          simp only at hn ⊢
          rw [repV_ptr] at hv; subst hv
          exact ⟨trivial, trivial, _, repV_ptr.2 rfl, fun w' => fieldAt_run (tget_ok hT hs) hf (tget_ok hT ht) hn b off w'⟩
        · cases h
      · cases h
    · cases h
  · rename_i xs
    split at h
    · rename_i fs sz by_ z hs
      split at h
      · rename_i o ft hf
        split at h
        · rename_i ti ht
          split at h
          · rename_i y hy
            simp only [Option.some.injEq] at h; subst h
            simp only at hn ⊢
            obtain ⟨hz, rfl⟩ := hn
            rw [repV_cp] at hv
            obtain ⟨b, off, vs, rfl, hb, hc, hra⟩ := hv
            simp only [repC] at hc
            obtain ⟨pre, mid, post, e1, e2, e3, _⟩ := repL_at xs f y vs hc hy
            refine ⟨trivial, trivial, _, repV_cp.2 ⟨b, off + offL xs f, mid, rfl, hb, e3, ?_⟩, fun w' => fieldAt_run (tget_ok hT hs) hf (tget_ok hT ht) hz b off w'⟩
            intro j u hj
            have hjl := (List.getElem?_eq_some_iff.1 hj).1
            have := hra (offL xs f + j) u (by rw [e1, ← e2, List.append_assoc, List.getElem?_append_right (by omega), Nat.add_sub_cancel_left, List.getElem?_append_left hjl]; exact hj)
            rw [← Nat.add_assoc] at this; exact this
          · cases h
        · cases h
      · cases h
    · cases h
  · cases h
theorem cv_field (hT : TTOk P T) {s f : Nat} {A : AV} {r : CV} (h : cvField T s f A = some r) (hn : r.need) {F : Nat → Prop} {v : Value} (hv : repV w F A v) :
    r.gain ∧ r.rd = none ∧ ∃ u, repV w F r.val u ∧ ∀ w', (Instr.field s v f).run P w' = .ok u w' := by
  unfold cvField at h
  split at h
  · rename_i xs
    split at h
    · rename_i fs sz by_ z hs
      split at h
      · rename_i o ft hf
        split at h
        · rename_i ti ht
          split at h
          · rename_i y hy
            simp only [Option.some.injEq] at h; subst h
            simp only at hn ⊢
            obtain ⟨rfl, hfit⟩ := hn
            rw [repV_agg] at hv
            obtain ⟨cs, rfl, hc⟩ := hv
            obtain ⟨pre, mid, post, e1, e2, e3, _⟩ := repL_at xs f y _ hc hy
            refine ⟨trivial, trivial, _, repV_mk e3, fun w' => ?_⟩
            have := field_run (tget_ok hT hs) hf (tget_ok hT ht) hfit e3 e2 w' (post := post)
            rw [← e1] at this
            simpa using this
          · cases h
        · cases h
      · cases h
    · cases h
  · cases h
theorem own_len {F : Nat → Prop} {v : Value} {e sz : Nat} {xs : List AV} (h : HOk w F (.row v e sz xs)) : ∃ A cap, v = .slice A xs.length cap ∧ xs.length ≤ cap ∧ cap ≤ maxLen := by
  obtain ⟨cells, h1, h2⟩ := h
  rcases h2.2 with ⟨rfl, h0⟩ | ⟨g, cap, cur, rfl, _, _, h3, h4, _⟩
  · exact ⟨none, 0, by rw [h0], by omega, Nat.zero_le _⟩
  · exact ⟨_, cap, rfl, h3, h4⟩
theorem cv_len (hT : TTOk P T) (hs : Sat C S a w) {t : Nat} {A : AV} {r : CV} (h : cvLen T S.heap t A = some r) (hn : r.need) {v : Value} (hv : repV w (Fz C S.heap w) A v) (ats : Array Nat) (hat : ats[0]? = some t) (ty : Nat) (vs : Array Value) (hvs : vs[0]? = some v) :
    r.gain ∧ r.rd = none ∧ ∃ u, repV w (Fz C S.heap w) r.val u ∧ ∀ w', (Builtin.len_ ats ty vs).run P w' = .ok u w' := by
  unfold cvLen at h
  split at h
  · rename_i sz by_ z ht
    have hu := tk_string (tget_ok hT ht)
    split at h
    · rename_i x
      simp only [Option.some.injEq] at h; subst h
      rw [repV_s] at hv; obtain ⟨rfl, hm⟩ := hv
      unfold maxLen at hm
      refine ⟨hm, rfl, _, repV_i.2 rfl, fun w' => ?_⟩
      simp only [Builtin.len_, hat, hvs, Sem.run_bind, run_underlying hu, Result.andThen_ok, Sem.run_pure, goInt]
      rfl
    · cases h
  · rename_i e sz by_ z ht
    have hu := tk_slice (tget_ok hT ht)
    split at h
    · rename_i sz2 xs
      simp only [Option.some.injEq] at h; subst h
      rw [repV_sl] at hv
      obtain ⟨A, cap, rfl, h1, h2, _⟩ := hv
      refine ⟨by unfold maxLen at h2; exact Nat.le_trans h1 h2, rfl, _, repV_i.2 rfl, fun w' => ?_⟩
      simp only [Builtin.len_, hat, hvs, Sem.run_bind, run_underlying hu, Result.andThen_ok, Sem.run_pure, goInt]
    · simp only [CV.pure, Option.some.injEq] at h; subst h
      rw [repV_nil] at hv; subst hv
      refine ⟨trivial, rfl, _, repV_i.2 rfl, fun w' => ?_⟩
      simp only [Builtin.len_, hat, hvs, Sem.run_bind, run_underlying hu, Result.andThen_ok, Sem.run_pure, goInt]
      rfl
    · simp only [CV.pure, Option.some.injEq] at h; subst h
      rw [repV_vw] at hv; obtain ⟨rfl, _⟩ := hv
      refine ⟨trivial, rfl, _, repV_i.2 rfl, fun w' => ?_⟩
      simp only [Builtin.len_, hat, hvs, Sem.run_bind, run_underlying hu, Result.andThen_ok, Sem.run_pure, goInt]
    · rename_i k v0
      split at h
      · rename_i v' e' sz' xs hg
        simp only [Option.some.injEq] at h; subst h
        simp only at hn; subst hn
        rw [repV_own] at hv; obtain ⟨rfl, _⟩ := hv
        obtain ⟨A, cap, rfl, h1, h2⟩ := own_len (hs.getHeap hg)
        refine ⟨by unfold maxLen at h2; exact Nat.le_trans h1 h2, rfl, _, repV_i.2 rfl, fun w' => ?_⟩
        simp only [Builtin.len_, hat, hvs, Sem.run_bind, run_underlying hu, Result.andThen_ok, Sem.run_pure, goInt]
      · cases h
    · cases h
  · rename_i n e sz by_ z ht
    have hu := tk_array (tget_ok hT ht)
    simp only [CV.pure, Option.some.injEq] at h; subst h
    refine ⟨trivial, rfl, _, repV_i.2 rfl, fun w' => ?_⟩
    simp only [Builtin.len_, hat, hvs, Sem.run_bind, run_underlying hu, Result.andThen_ok, Sem.run_pure, goInt]
  · cases h
theorem cv_conv (hT : TTOk P T) {s d : Nat} {A : AV} {r : CV} (h : cvConv T s d A = some r) {F : Nat → Prop} {v : Value} (hv : repV w F A v) :
    r.gain ∧ r.rd = none ∧ ∃ u, repV w F r.val u ∧ ∀ w', (convert s d v).run P w' = .ok u w' := by
  unfold cvConv at h
  split at h
  · rename_i k n
    split at h
    · rename_i ti k2 sz by_ z h1 h2
      simp only [CV.pure, Option.some.injEq] at h; subst h
      rw [repV_i] at hv; subst hv
      obtain ⟨ds, hds, _⟩ := (tget_ok hT h1).desc
      refine ⟨trivial, rfl, _, repV_i.2 rfl, fun w' => ?_⟩
      simp only [convert, Sem.run_bind, run_underlying hds, Result.andThen_ok, run_underlying (tk_int (tget_ok hT h2)), Conv.intToInt, Sem.run_pure]
    · cases h
  · rename_i x
    split at h
    · rename_i ti sz by_ z h1 h2
      simp only [CV.pure, Option.some.injEq] at h; subst h
      have hv0 := hv
      rw [repV_s] at hv; obtain ⟨rfl, hm⟩ := hv
      obtain ⟨ds, hds, _⟩ := (tget_ok hT h1).desc
      refine ⟨trivial, rfl, _, hv0, fun w' => ?_⟩
      simp only [convert, Sem.run_bind, run_underlying hds, Result.andThen_ok, run_underlying (tk_string (tget_ok hT h2)), Sem.run_pure]
    · cases h
  · cases h
end
end Go.Proofs.Ytcmgpkibjdbonaa
namespace Go.Proofs.Ytcmgpkibjdbonaa
open Go Go.RowKit

section
variable {P : Program} {T : List (Nat × TI)} {C : Ctx} {S : St} {a : Act} {w : World}
theorem eval_get {xs : Array Operand} {i : Nat} {x : Operand} (h : xs[i]? = some x) (ρ : Operand → Value) : (xs.map ρ)[i]? = some (ρ x) := by
  rw [Array.getElem?_map, h]; rfl
theorem repV_tup {F : Nat → Prop} {xs : List AV} {v : Value} {i : Nat} {x : AV} (h : repV w F (.tup xs) v) (hx : xs[i]? = some x) : ∃ vs u, v = .tuple vs ∧ vs[i]? = some u ∧ repV w F x u := by
  obtain ⟨vs, rfl, hl, hc⟩ := h
  have hi := (List.getElem?_eq_some_iff.1 hx).1
  refine ⟨vs.toArray, vs[i], rfl, by rw [List.getElem?_toArray, List.getElem?_eq_getElem], ?_⟩
  rcases hc i x vs[i] hx (List.getElem?_eq_getElem (by omega)) with rfl | ⟨cs, h1, h2⟩
  · exact True.intro
  · rw [h2]; exact repV_mk h1
theorem cv_sound (hT : TTOk P T) (hs : Sat C S a w) (dst : Option Tmp) (op : Op) (ty : Nat) (pos : String) (aft : Array Edge) (gd : Option (Nat × Bool)) {r : CV} (h : cv T S.heap (ev S) op = some r) (hn : r.need) :
    Steps1 P C S.heap w a.eval ⟨dst, op, ty, pos, aft, gd⟩ r := by
  have E : ∀ x, repV w (Fz C S.heap w) (ev S x) (a.eval x) := ev_rep hs
  unfold cv at h
  split at h
  · rename_i x
    simp only [CV.val_eq, CV.pure, Option.some.injEq] at h; subst h
    exact ⟨trivial, _, E x, fun w' _ => rfl⟩
  · rename_i x
    simp only [CV.val_eq, CV.pure, Option.some.injEq] at h; subst h
    exact ⟨trivial, _, E x, fun w' _ => rfl⟩
  · rename_i c x y
    have Ec := E c
    split at h
    · rename_i hc
      simp only [CV.val_eq, CV.pure, Option.some.injEq] at h; subst h
      rw [hc, repV_b] at Ec
      exact ⟨trivial, _, E x, fun w' _ => by simp [execOp, Ec, asBool]⟩
    · rename_i hc
      simp only [CV.val_eq, CV.pure, Option.some.injEq] at h; subst h
      rw [hc, repV_b] at Ec
      exact ⟨trivial, _, E y, fun w' _ => by simp [execOp, Ec, asBool]⟩
    · cases h
  · rename_i t x
    obtain ⟨h1, u, h2, h3⟩ := cv_load hT hs h hn (E x)
    exact ⟨h1, u, h2, fun w' hr => by simp only [execOp, Sem.run_bind, h3 w' hr, Result.andThen_ok, Sem.run_pure]⟩
  · rename_i s x f
    obtain ⟨h1, h0, u, h2, h3⟩ := cv_fieldAddr hT h hn (E x)
    exact ⟨h1, u, h2, fun w' _ => by simp only [execOp, Sem.run_bind, h3 w', Result.andThen_ok, Sem.run_pure]⟩
  · rename_i s x f
    obtain ⟨h1, h0, u, h2, h3⟩ := cv_field hT h hn (E x)
    exact ⟨h1, u, h2, fun w' _ => by simp only [execOp, Sem.run_bind, h3 w', Result.andThen_ok, Sem.run_pure]⟩
  · rename_i x
    have Ex := E x
    split at h
    · rename_i k b p o hx
      simp only [CV.pure, Option.some.injEq] at h; subst h
      have Ex0 := Ex
      rw [hx, repV_ptr] at Ex
      rw [hx] at Ex0
      exact ⟨trivial, _, Ex0, fun w' _ => by simp [execOp, Ex]⟩
    · rename_i y hx
      simp only [CV.pure, Option.some.injEq] at h; subst h
      have Ex0 := Ex
      rw [hx, repV_cp] at Ex
      rw [hx] at Ex0
      obtain ⟨b, off, vs, he, _⟩ := Ex
      exact ⟨trivial, _, Ex0, fun w' _ => by simp [execOp, he]⟩
    · cases h
  · rename_i o t x y yt
    obtain ⟨z, h1, h2, h0, h3⟩ := binOp_run hT o t _ _ r h hn x y _ _ (E x) (E y)
    refine ⟨h2, z, h1, fun w' _ => ?_⟩
    have := h3 w'
    show ((do pure (Next.value (← (do eqGuard o t x y (a.eval x) (a.eval y); binOp o t (a.eval x) (a.eval y))))) : Sem Next).run P w' = _
    rw [Sem.run_bind, this]; rfl
  · rename_i o t x
    have Ex := E x
    split at h
    · rename_i b hx
      simp only [CV.pure, Option.some.injEq] at h; subst h
      rw [hx, repV_b] at Ex
      exact ⟨trivial, _, repV_b.2 rfl, fun w' _ => by simp [execOp, Ex, Op.unary]⟩
    · rename_i k n hx
      simp only [CV.pure, Option.some.injEq] at h; subst h
      rw [hx, repV_i] at Ex
      exact ⟨trivial, _, repV_i.2 rfl, fun w' _ => by simp [execOp, Ex, Op.unary, Op.intArith]⟩
    · rename_i k n hx
      simp only [CV.pure, Option.some.injEq] at h; subst h
      rw [hx, repV_i] at Ex
      exact ⟨trivial, _, repV_i.2 rfl, fun w' _ => by simp [execOp, Ex, Op.unary, Op.intBits, bitsI]⟩
    · cases h
  · rename_i s d x
    obtain ⟨h1, h0, u, h2, h3⟩ := cv_conv hT h (E x)
    exact ⟨h1, u, h2, fun w' _ => by simp only [execOp, Sem.run_bind, h3 w', Result.andThen_ok, Sem.run_pure]⟩
  · rename_i t i
    have Et := E t
    split at h
    · rename_i xs hx
      split at h
      · rename_i x hi
        simp only [CV.val_eq, CV.pure, Option.some.injEq] at h; subst h
        rw [hx] at Et
        obtain ⟨vs, u, e1, e2, e3⟩ := repV_tup Et hi
        exact ⟨trivial, _, e3, fun w' _ => by simp [execOp, e1, Instr.extract, e2]⟩
      · cases h
    · cases h
  · rename_i args ats
    split at h
    · rename_i x t hx ht
      obtain ⟨h1, h0, u, h2, h3⟩ := cv_len hT hs h hn (E x) ats ht ty (args.map a.eval) (eval_get hx _)
      exact ⟨h1, u, h2, fun w' _ => by simp only [execOp, resolve, invoke, builtin, Sem.run_bind, Sem.run_pure, Result.andThen_ok, h3 w']⟩
    · cases h
  · rename_i args ats
    split at h
    · rename_i x y hxy
      obtain rfl : args = #[x, y] := by rw [← Array.toArray_toList (xs := args), hxy]
      have Ex := E x; have Ey := E y
      split at h
      · rename_i k p k' q hx hy
        simp only [CV.pure, Option.some.injEq] at h; subst h
        rw [hx, repV_i] at Ex; rw [hy, repV_i] at Ey
        exact ⟨trivial, _, repV_i.2 rfl, fun w' _ => by simp [execOp, resolve, invoke, builtin, Builtin.max_, Ex, Ey, Builtin.max2]⟩
      · rename_i p q hx hy
        simp only [CV.pure, Option.some.injEq] at h; subst h
        rw [hx, repV_s] at Ex; rw [hy, repV_s] at Ey
        refine ⟨trivial, .string (bytesOf (if (!Op.bytesLess p q) then p else q)), repV_s.2 ⟨rfl, by split <;> first | exact Ex.2 | exact Ey.2⟩, fun w' _ => ?_⟩
        have e1 : ∀ l : List UInt8, (bytesOf l).toList = l := fun l => ByteArray.toList_eq _
        cases hb : Op.bytesLess p q <;> simp [execOp, resolve, invoke, builtin, Builtin.max_, Ex.1, Ey.1, Builtin.max2, Op.stringOp, e1, asBool, hb]
      · cases h
    · cases h
  · rename_i args ats
    split at h
    · rename_i x y hxy
      obtain rfl : args = #[x, y] := by rw [← Array.toArray_toList (xs := args), hxy]
      have Ex := E x; have Ey := E y
      split at h
      · rename_i k p k' q hx hy
        simp only [CV.pure, Option.some.injEq] at h; subst h
        rw [hx, repV_i] at Ex; rw [hy, repV_i] at Ey
        exact ⟨trivial, _, repV_i.2 rfl, fun w' _ => by simp [execOp, resolve, invoke, builtin, Builtin.min_, Ex, Ey, Builtin.min2]⟩
      · rename_i p q hx hy
        simp only [CV.pure, Option.some.injEq] at h; subst h
        rw [hx, repV_s] at Ex; rw [hy, repV_s] at Ey
        refine ⟨trivial, .string (bytesOf (if (Op.bytesLess p q || p == q) then p else q)), repV_s.2 ⟨rfl, by split <;> first | exact Ex.2 | exact Ey.2⟩, fun w' _ => ?_⟩
        have e1 : ∀ l : List UInt8, (bytesOf l).toList = l := fun l => ByteArray.toList_eq _
        cases hb : (Op.bytesLess p q || p == q) <;> simp only [execOp, resolve, invoke, builtin, Builtin.min_, List.map_toArray, List.map_cons, List.map_nil, Ex.1, Ey.1, List.foldlM_cons, List.foldlM_nil, Builtin.min2, Op.stringOp, e1, asBool, hb, Sem.run_bind, Sem.run_pure, Result.andThen_ok] <;> simp
      · cases h
    · cases h
  · cases h
end
/-- Operations that make or write memory, or run code. -/
def effOp (P : Program) : Op → Bool
  | .move _ | .assign _ | .pick _ _ _ | .load _ _ | .fieldAddr _ _ _ | .field _ _ _ | .indexAddr _ _ _ | .index _ _ _ | .nilCheck _ | .binOp _ _ _ _ _ | .unOp _ _ _ | .extract _ _ | .slice _ _ _ _ _ | .build _ _ | .makeInterface _ _ | .makeFunc _ _ _ | .typeAssert _ _ _ _ => false
  | .convert _ dst _ => match P.underlying dst with
    | some (.slice _) => true
    | _ => false
  | .call ⟨.builtin .len, _, _⟩ | .call ⟨.builtin .cap, _, _⟩ | .call ⟨.builtin .max, _, _⟩ | .call ⟨.builtin .min, _, _⟩ => false
  | _ => true
theorem cv_calm {P : Program} {T : List (Nat × TI)} (hT : TTOk P T) {H : List (Nat × HO)} {e : Operand → AV} {op : Op} {r : CV} (h : cv T H e op = some r) : effOp P op = false := by
  unfold cv at h
  split at h <;> first
    | rfl
    | skip
  · rename_i s d x
    unfold cvConv at h
    split at h
    · split at h
      · rename_i h1 h2
        simp [effOp, tk_int (tget_ok hT h2)]
      · cases h
    · split at h
      · rename_i h1 h2
        simp [effOp, tk_string (tget_ok hT h2)]
      · cases h
    · cases h
  · cases h
end Go.Proofs.Ytcmgpkibjdbonaa
