/- Rules: code. No program in sight. -/
import Derived.Test.YtfdcopbbnmialaaBase2Z
import Derived.Deep.LoopGhost
namespace Go.Proofs.Ytfdcopbbnmialaa
open Go Go.RowKit

structure Awp (P : Program) (C : Ctx) (c : Code) (S : St) (K : Exit → St → Prop) : Prop where
  out : ∀ a w, Sat C S a w → c.wp P (fun e a' w' => ∃ S', K e S' ∧ Sat C S' a' w') a w
def thenK (h : St → Prop) (K : Exit → St → Prop) : Exit → St → Prop
  | .normal, S => h S
  | e, S => K e S
def blockK (id : Nat) (K : Exit → St → Prop) : Exit → St → Prop
  | .exit id', S => bif Nat.beq id' id then K .normal S else K (.exit id') S
  | e, S => K e S

/-! What may be forgotten, and what may be given up: a row that is owned no longer is read-only from then on. -/
abbrev Fr := List (Value × Nat × List AV)
def FrOk (fr : Fr) (w : World) (F : Nat → Prop) : Prop := ∀ z ∈ fr, repC w F (.sl z.2.1 z.2.2) [z.1]
def CLe (fr : Fr) (x y : AV) : Prop := (∀ w F cs, FrOk fr w F → repC w F x cs → repC w F y cs) ∧ x.isAgg = y.isAgg
def CLeL (fr : Fr) (x y : List AV) : Prop := ∀ w F cs, FrOk fr w F → repL w F x cs → repL w F y cs
def SLe (fr : Fr) (x y : AV) : Prop := ∀ w F v, FrOk fr w F → repV w F x v → repV w F y v
def HOLe (fr : Fr) (x y : HO) : Prop := (∀ w F, FrOk fr w F → HOk w F x → HOk w F y) ∧ y.blk = x.blk
section
variable {fr : Fr}
theorem CLe.refl (x : AV) : CLe fr x x := ⟨fun _ _ _ _ h => h, rfl⟩
theorem CLe.of_eq {x y : AV} (h : x = y) : CLe fr x y := h ▸ CLe.refl x
theorem CLe.ptr {k k' b : Nat} {p p' : List Nat} {o : Nat} : CLe fr (.ptr k b p o) (.ptr k' b p' o) := ⟨fun _ _ _ _ h => h, rfl⟩
theorem CLe.own {k k' : Nat} {v : Value} : CLe fr (.own k v) (.own k' v) := ⟨fun _ _ _ _ h => h, rfl⟩
theorem CLe.nilown {k : Nat} : CLe fr .nil (.own k (.slice none 0 0)) := ⟨fun _ _ _ _ h => by simp only [repC] at h ⊢; exact ⟨h, rfl⟩, rfl⟩
theorem CLe.nilsl {sz : Nat} : CLe fr .nil (.sl sz []) := ⟨fun _ _ _ _ h => by simp only [repC] at h ⊢; exact ⟨none, 0, h, Nat.le_refl _, Nat.zero_le _, fun h => absurd rfl h⟩, rfl⟩
theorem CLe.fz {k : Nat} {v : Value} {sz : Nat} {xs : List AV} (h : (v, sz, xs) ∈ fr) : CLe fr (.own k v) (.sl sz xs) := ⟨fun w F cs hf h1 => by
  simp only [repC] at h1
  rw [h1.1]; exact hf _ h, rfl⟩
theorem CLeL.nil : CLeL fr [] [] := fun _ _ _ _ h => h
theorem CLeL.cons {x y : AV} {xs ys : List AV} (h : CLe fr x y) (hs : CLeL fr xs ys) : CLeL fr (x :: xs) (y :: ys) := fun w F cs hf h1 => by
  simp only [repL] at h1 ⊢
  obtain ⟨c1, c2, e, h2, h3⟩ := h1
  exact ⟨c1, c2, e, h.1 w F c1 hf h2, hs w F c2 hf h3⟩
theorem CLe.agg {fs gs : List AV} (h : CLeL fr fs gs) : CLe fr (.agg fs) (.agg gs) := ⟨fun w F cs hf h1 => by simp only [repC] at h1 ⊢; exact h w F cs hf h1, rfl⟩
theorem SLe.any {x : AV} : SLe fr x .any := fun _ _ _ _ _ => True.intro
theorem SLe.of_eq {x y : AV} (h : x = y) : SLe fr x y := h ▸ fun _ _ _ _ h => h
theorem SLe.of_cle {x y : AV} (h : CLe fr x y) (hx : x.isVal = true) : SLe fr x y := fun w F v hf hv => by
  obtain ⟨cs, h1, h2⟩ := repV_cells hx hv
  have h3 := h.1 w F cs hf h1
  have h4 : v = ofCells y cs := by rw [h2]; unfold ofCells; rw [h.2]
  rw [h4]; exact repV_mk h3
theorem HOLe.refl (x : HO) : HOLe fr x x := ⟨fun _ _ _ h => h, rfl⟩
theorem HOLe.var {b : Nat} {c c' : AV} (h : CLe fr c c') : HOLe fr (.var b c) (.var b c') := ⟨fun w F hf h1 => by
  obtain ⟨t, cs, h2, h3⟩ := h1; exact ⟨t, cs, h2, h.1 w F _ hf h3⟩, rfl⟩
theorem HOLe.row {v : Value} {e sz : Nat} {xs ys : List AV} (h : xs = ys) : HOLe fr (.row v e sz xs) (.row v e sz ys) := h ▸ HOLe.refl _
end
def slotsLe (fr : Fr) (S : St) : List (Nat × AV) → Prop
  | [] => True
  | (i, y) :: r => SLe fr (S.slot i) y ∧ slotsLe fr S r
def hdel : List (Nat × HO) → Nat → List (Nat × HO)
  | [], _ => []
  | (k, x) :: r, i => bif Nat.beq k i then r else (k, x) :: hdel r i
def oblks (os : List HO) : List Nat := os.flatMap HO.blk
theorem HOk_lt {w : World} {F : Nat → Prop} {x : HO} (h : HOk w F x) : ∀ b ∈ x.blk, b < w.heap.size := by
  cases x with
  | var b c =>
    obtain ⟨t, cs, h1, _⟩ := h
    intro b' hb'
    have e : b' = b := List.mem_singleton.1 hb'
    subst e; exact h1.lt
  | row v e sz xs =>
    obtain ⟨cells, _, h2⟩ := h
    exact fun b hb => (World.ownsRow.lt h2 b (blk_row hb)).2
  | obj b o =>
    intro b' hb'
    have e : b' = b := List.mem_singleton.1 hb'
    subst e
    exact (Array.getElem?_eq_some_iff.1 h).1
  | grp bs X => exact h.2.1
/-- A thing that is owned, in a world that has its blocks alike. -/
theorem HOk_same {w w' : World} {F F' : Nat → Prop} (hF : ∀ b, F b → F' b) (hw : ∀ b, F b → w'.heap[b]? = w.heap[b]?) {x : HO} (hb : ∀ b ∈ x.blk, w'.heap[b]? = w.heap[b]?) (h : HOk w F x) : HOk w' F' x := by
  have hlt := HOk_lt h
  cases x with
  | var b c =>
    obtain ⟨t, cs, h1, h2⟩ := h
    refine ⟨t, cs, ?_, repC_mono hF hw _ _ h2⟩
    unfold Blk; rw [hb b (List.mem_singleton.2 rfl)]; exact h1
  | row v e sz xs =>
    obtain ⟨cells, h1, h2⟩ := h
    refine ⟨cells, repA_mono hF hw _ _ _ h1, h2.1, ?_⟩
    rcases h2.2 with hn | ⟨g, cap, cur, rfl, hg, hgg, rest⟩
    · exact .inl hn
    · refine .inr ⟨g, cap, cur, rfl, hg, ?_, rest⟩
      rw [hb g (row_blk rfl)]; exact hgg
  | obj b o => exact (hb b (List.mem_singleton.2 rfl)).trans h
  | grp bs X =>
    refine ⟨h.1, fun b hbb => ?_, X.mono hF hw hb h.2.2⟩
    have h1 := hb b hbb
    rw [Array.getElem?_eq_getElem (hlt b hbb)] at h1
    exact (Array.getElem?_eq_some_iff.1 h1).1
/-- Things that are owned, told as one. -/
def gxL (os : List HO) : GX (oblks os) := ⟨fun w F => ∀ o ∈ os, HOk w F o, fun hF hw hb h o ho => HOk_same hF hw (fun b hbb => hb b (List.mem_flatMap.2 ⟨o, ho, hbb⟩)) (h o ho)⟩
def grpL (os : List HO) : HO := .grp (oblks os) (gxL os)
theorem hdel_split : ∀ {H : List (Nat × HO)} {k : Nat} {x : HO}, hget H k = some x → ∃ pre k' post, H = pre ++ (k', x) :: post ∧ hdel H k = pre ++ post
  | (k', x') :: r, k, x, h => by
    unfold hget at h
    cases hb : Nat.beq k' k with
    | true =>
      rw [hb] at h
      simp only [cond_true, Option.some.injEq] at h
      subst h
      exact ⟨[], k', r, rfl, by unfold hdel; rw [hb]; rfl⟩
    | false =>
      rw [hb] at h
      obtain ⟨pre, q, post, e1, e2⟩ := hdel_split (H := r) (by simpa using h)
      exact ⟨(k', x') :: pre, q, post, by rw [e1]; rfl, by unfold hdel; rw [hb]; simp only [cond_false, e2, List.cons_append]⟩
theorem hdel_blks {H : List (Nat × HO)} {k : Nat} {x : HO} (hg : hget H k = some x) : (∀ b ∈ blks (hdel H k), b ∈ blks H) ∧ ((blks H).Nodup → (blks (hdel H k)).Nodup ∧ ∀ b, b ∈ x.blk → b ∉ blks (hdel H k)) ∧ ∀ p ∈ hdel H k, p ∈ H := by
  obtain ⟨pre, q, post, e1, e2⟩ := hdel_split hg
  rw [e2]
  refine ⟨fun b hb => ?_, fun hn => ?_, fun p hp => ?_⟩
  · rw [blks_append] at hb; rw [e1, blks_append, blks_cons]
    rcases List.mem_append.1 hb with hb | hb <;> simp [hb]
  · rw [e1, blks_append, blks_cons] at hn
    refine ⟨?_, fun b hb hin => ?_⟩
    · rw [blks_append]
      exact hn.sublist (List.Sublist.append (List.Sublist.refl _) (List.sublist_append_right _ _))
    · rw [blks_append] at hin
      have hxb2 : b ∈ ((q, x) : Nat × HO).2.blk := hb
      simp only [List.nodup_append] at hn
      rcases List.mem_append.1 hin with h6 | h6
      · exact hn.2.2 b h6 b (List.mem_append_left _ hxb2) rfl
      · exact hn.2.1.2.2 b hxb2 b h6 rfl
  · rw [e1]
    rcases List.mem_append.1 hp with hp | hp <;> simp [hp]
/-- What is handed over: the blocks at these keys, and what is kept. -/
def taken : List (Nat × HO) → List Nat → Option (List HO × List (Nat × HO))
  | H, [] => some ([], H)
  | H, k :: r => match hget H k with
    | some x => match taken (hdel H k) r with
      | some (xs, H') => some (x :: xs, H')
      | none => none
    | none => none
def hosLe (fr : Fr) : List HO → List HO → Prop
  | [], [] => True
  | x :: xs, y :: ys => HOLe fr x y ∧ hosLe fr xs ys
  | _, _ => False
theorem taken_spec : ∀ {ks : List Nat} {H : List (Nat × HO)} {os : List HO} {H' : List (Nat × HO)}, taken H ks = some (os, H') → (blks H).Nodup →
    (oblks os ++ blks H').Nodup ∧ (∀ b, b ∈ oblks os ++ blks H' → b ∈ blks H) ∧ (∀ o ∈ os, ∃ p ∈ H, p.1 ∈ ks ∧ p.2 = o) ∧ (∀ p ∈ H', p ∈ H)
  | [], H, os, H', h, hn => by
    simp only [taken, Option.some.injEq, Prod.mk.injEq] at h
    obtain ⟨rfl, rfl⟩ := h
    exact ⟨by simpa [oblks] using hn, fun b hb => by simpa [oblks] using hb, fun o ho => by simp at ho, fun p hp => hp⟩
  | k :: ks, H, os, H', h, hn => by
    simp only [taken] at h
    cases hg : hget H k with
    | none => simp [hg] at h
    | some x =>
      simp only [hg] at h
      cases ht : taken (hdel H k) ks with
      | none => simp [ht] at h
      | some q =>
        obtain ⟨xs, H2⟩ := q
        simp only [ht, Option.some.injEq, Prod.mk.injEq] at h
        obtain ⟨rfl, rfl⟩ := h
        obtain ⟨j1, j2, j3⟩ := hdel_blks hg
        obtain ⟨i1, i2, i3, i4⟩ := taken_spec ht (j2 hn).1
        obtain ⟨pre, post, e1⟩ := hget_key hg
        refine ⟨?_, fun b hb => ?_, fun o ho => ?_, fun p hp => j3 p (i4 p hp)⟩
        · rw [show oblks (x :: xs) = x.blk ++ oblks xs from by unfold oblks; rw [List.flatMap_cons], List.append_assoc]
          have hxn : x.blk.Nodup := by
            rw [e1, blks_append, blks_cons] at hn
            exact hn.sublist ((List.sublist_append_left x.blk (blks post)).trans (List.sublist_append_right _ _))
          exact List.nodup_append.2 ⟨hxn, i1, fun b hb c hc he => by subst he; exact (j2 hn).2 b hb (i2 b hc)⟩
        · rcases List.mem_append.1 hb with hb | hb
          · unfold oblks at hb
            obtain ⟨o, ho, hob⟩ := List.mem_flatMap.1 hb
            rcases List.mem_cons.1 ho with rfl | ho
            · exact blk_mem hg hob
            · exact j1 b (i2 b (List.mem_append.2 (.inl (List.mem_flatMap.2 ⟨o, ho, hob⟩))))
          · exact j1 b (i2 b (List.mem_append.2 (.inr hb)))
        · rcases List.mem_cons.1 ho with rfl | ho
          · exact ⟨(k, o), by rw [e1]; simp, by simp, rfl⟩
          · obtain ⟨p, hp, hk, he⟩ := i3 o ho
            exact ⟨p, j3 p hp, List.mem_cons_of_mem _ hk, he⟩
theorem hosLe_spec {fr : Fr} {w : World} {F : Nat → Prop} (hf : FrOk fr w F) : ∀ {xs ys : List HO}, hosLe fr xs ys → oblks ys = oblks xs ∧ ((∀ o ∈ xs, HOk w F o) → ∀ o ∈ ys, HOk w F o)
  | [], [], _ => ⟨rfl, fun h => h⟩
  | x :: xs, y :: ys, h => by
    obtain ⟨i1, i2⟩ := hosLe_spec hf h.2
    refine ⟨?_, fun hx o ho => ?_⟩
    · unfold oblks at i1 ⊢
      rw [List.flatMap_cons, List.flatMap_cons, h.1.2, i1]
    · rcases List.mem_cons.1 ho with rfl | ho
      · exact h.1.1 w F hf (hx x (by simp))
      · exact i2 (fun o ho => hx o (by simp [ho])) o ho
  | x :: xs, [], h => h.elim
  | [], y :: ys, h => h.elim
theorem taken_sub : ∀ {ks : List Nat} {H : List (Nat × HO)} {os : List HO} {H' : List (Nat × HO)}, taken H ks = some (os, H') → (∀ b, b ∈ oblks os ++ blks H' → b ∈ blks H) ∧ ∀ p ∈ H', p ∈ H
  | [], H, os, H', h => by
    simp only [taken, Option.some.injEq, Prod.mk.injEq] at h
    obtain ⟨rfl, rfl⟩ := h
    exact ⟨fun b hb => by simpa [oblks] using hb, fun p hp => hp⟩
  | k :: ks, H, os, H', h => by
    simp only [taken] at h
    cases hg : hget H k with
    | none => simp [hg] at h
    | some x =>
      simp only [hg] at h
      cases ht : taken (hdel H k) ks with
      | none => simp [ht] at h
      | some q =>
        obtain ⟨xs, H2⟩ := q
        simp only [ht, Option.some.injEq, Prod.mk.injEq] at h
        obtain ⟨rfl, rfl⟩ := h
        obtain ⟨j1, j2, j3⟩ := hdel_blks hg
        obtain ⟨i2, i4⟩ := taken_sub ht
        refine ⟨fun b hb => ?_, fun p hp => j3 p (i4 p hp)⟩
        rcases List.mem_append.1 hb with hb | hb
        · unfold oblks at hb
          obtain ⟨o, ho, hob⟩ := List.mem_flatMap.1 hb
          rcases List.mem_cons.1 ho with rfl | ho
          · exact blk_mem hg hob
          · exact j1 b (i2 b (List.mem_append.2 (.inl (List.mem_flatMap.2 ⟨o, ho, hob⟩))))
        · exact j1 b (i2 b (List.mem_append.2 (.inr hb)))
theorem hosLe_blks {fr : Fr} : ∀ {xs ys : List HO}, hosLe fr xs ys → oblks ys = oblks xs
  | [], [], _ => rfl
  | x :: xs, y :: ys, h => by
    have i1 := hosLe_blks h.2
    unfold oblks at i1 ⊢
    rw [List.flatMap_cons, List.flatMap_cons, h.1.2, i1]
  | x :: xs, [], h => h.elim
  | [], y :: ys, h => h.elim
theorem oblks_cons (x : HO) (os : List HO) : oblks (x :: os) = x.blk ++ oblks os := by unfold oblks; rw [List.flatMap_cons]
theorem oblks_perm {os os' : List HO} (h : os.Perm os') : (oblks os).Perm (oblks os') := h.flatMap_right _
theorem grpL_ok {w : World} {F : Nat → Prop} {os : List HO} (h : HOk w F (grpL os)) : ∀ o ∈ os, HOk w F o := h.2.2
theorem hdel_perm {H : List (Nat × HO)} {k : Nat} {x : HO} (hg : hget H k = some x) : (blks H).Perm (x.blk ++ blks (hdel H k)) := by
  obtain ⟨pre, q, post, e1, e2⟩ := hdel_split hg
  rw [e2, e1, blks_append, blks_append, blks_cons]
  show (blks pre ++ (x.blk ++ blks post)).Perm (x.blk ++ (blks pre ++ blks post))
  rw [← List.append_assoc, ← List.append_assoc]
  exact List.Perm.append_right _ List.perm_append_comm
inductive HLe (fr : Fr) : List (Nat × HO) → List (Nat × HO) → Prop
  | nil {H} : HLe fr H []
  | cons {H : List (Nat × HO)} (k : Nat) {k' x y r} (hg : hget H k = some x) (h : HOLe fr x y) (hr : HLe fr (hdel H k) r) : HLe fr H ((k', y) :: r)
  | none {H : List (Nat × HO)} {k' e sz r} (hr : HLe fr H r) : HLe fr H ((k', .row (.slice Option.none 0 0) e sz []) :: r)
  | grp {H : List (Nat × HO)} (ks : List Nat) {k' os H' ys r} (ht : taken H ks = some (os, H')) (ho : hosLe fr os ys) (hr : HLe fr H' r) : HLe fr H ((k', grpL ys) :: r)
  | push {H : List (Nat × HO)} (k1 k : Nat) {k' x o os rest r} (h1 : hget H k1 = some x) (h : HOLe fr x o) (hg : hget (hdel H k1) k = some (grpL rest)) (hos : os.Perm (o :: rest)) (hr : HLe fr (hdel (hdel H k1) k) r) : HLe fr H ((k', grpL os) :: r)
theorem HLe.spec {fr : Fr} {H H' : List (Nat × HO)} (h : HLe fr H H') : (∀ b ∈ blks H', b ∈ blks H) ∧ ((blks H).Nodup → (blks H').Nodup) ∧ ∀ w F, FrOk fr w F → (blks H).Nodup → (∀ p ∈ H, HOk w F p.2) → ∀ p ∈ H', HOk w F p.2 := by
  induction h with
  | nil => exact ⟨fun (b : Nat) (hb : b ∈ []) => absurd hb (by simp), fun _ => List.nodup_nil, fun _ _ _ _ _ p hp => absurd hp (by simp)⟩
  | @cons H k k' x y r hg h hr ih =>
    obtain ⟨i1, i2, i3⟩ := ih
    obtain ⟨j1, j2, j3⟩ := hdel_blks hg
    refine ⟨fun b hb => ?_, fun hn => ?_, fun w F hf hnn hall p hp => ?_⟩
    · rw [blks_cons] at hb
      rcases List.mem_append.1 hb with hb | hb
      · have hb : b ∈ y.blk := by simpa using hb
        rw [h.2] at hb
        exact blk_mem hg hb
      · exact j1 b (i1 b hb)
    · rw [blks_cons]
      have hxn : x.blk.Nodup := by
        obtain ⟨pre, q, post, e1, _⟩ := hget_split hg
        rw [e1, blks_append, blks_cons] at hn
        exact hn.sublist ((List.sublist_append_left x.blk (blks post)).trans (List.sublist_append_right _ _))
      refine List.nodup_append.2 ⟨by show y.blk.Nodup; rw [h.2]; exact hxn, i2 (j2 hn).1, fun b hb c hc he => ?_⟩
      subst he
      have hb : b ∈ y.blk := hb
      rw [h.2] at hb
      exact (j2 hn).2 b hb (i1 b hc)
    · rcases List.mem_cons.1 hp with rfl | hp
      · obtain ⟨pre, q, post, e1, _⟩ := hget_split hg
        exact h.1 w F hf (hall (q, x) (by rw [e1]; simp))
      · exact i3 w F hf (j2 hnn).1 (fun p hp => hall p (j3 p hp)) p hp
  | @none H k' e sz r hr ih =>
    obtain ⟨i1, i2, i3⟩ := ih
    have hb : blks ((k', HO.row (.slice Option.none 0 0) e sz []) :: r) = blks r := by rw [blks_cons]; rfl
    rw [hb]
    refine ⟨i1, i2, fun w F hf hnn hall p hp => ?_⟩
    rcases List.mem_cons.1 hp with rfl | hp
    · exact ⟨[], by simp only [repA], by simp, .inl ⟨rfl, rfl⟩⟩
    · exact i3 w F hf hnn hall p hp
  | @grp H ks k' os H' ys r ht ho hr ih =>
    obtain ⟨i1, i2, i3⟩ := ih
    have hoe : oblks ys = oblks os := hosLe_blks ho
    have hbl : ∀ b, b ∈ blks ((k', grpL ys) :: r) → b ∈ oblks os ∨ b ∈ blks r := fun b hb => by
      rw [blks_cons] at hb
      rcases List.mem_append.1 hb with hb | hb
      · left; rw [← hoe]; exact hb
      · exact .inr hb
    refine ⟨fun b hb => ?_, fun hn => ?_, fun w F hf hnn hall p hp => ?_⟩
    · have ts := taken_sub ht
      rcases hbl b hb with hb | hb
      · exact ts.1 b (List.mem_append_left _ hb)
      · exact ts.1 b (List.mem_append_right _ (i1 b hb))
    · obtain ⟨t1, t2, t3, t4⟩ := taken_spec ht hn
      obtain ⟨n1, n2, n3⟩ := List.nodup_append.1 t1
      rw [blks_cons]
      refine List.nodup_append.2 ⟨by show (oblks ys).Nodup; rw [hoe]; exact n1, i2 n2, fun b hb c hc he => ?_⟩
      have hb : b ∈ oblks ys := hb
      rw [hoe] at hb
      exact n3 b hb c (i1 c hc) he
    · obtain ⟨t1, t2, t3, t4⟩ := taken_spec ht hnn
      obtain ⟨n1, n2, n3⟩ := List.nodup_append.1 t1
      rcases List.mem_cons.1 hp with rfl | hp
      · have hys := (hosLe_spec hf ho).2 (fun o ho => by
          obtain ⟨p, hp, _, he⟩ := t3 o ho
          rw [← he]; exact hall p hp)
        refine ⟨by rw [hoe]; exact n1, fun b hb => ?_, hys⟩
        obtain ⟨o, hoo, hbo⟩ := List.mem_flatMap.1 hb
        exact HOk_lt (hys o hoo) b hbo
      · exact i3 w F hf n2 (fun p hp => hall p (t4 p hp)) p hp
  | @push H k1 k k' x o os rest r h1 h hg hos hr ih =>
    obtain ⟨i1, i2, i3⟩ := ih
    have pa : (blks H).Perm ((o.blk ++ oblks rest) ++ blks (hdel (hdel H k1) k)) := by
      rw [h.2, List.append_assoc]
      exact (hdel_perm h1).trans (List.Perm.append_left _ (hdel_perm hg))
    have po : (oblks os).Perm (o.blk ++ oblks rest) := by
      have := oblks_perm hos
      rw [oblks_cons] at this
      exact this
    refine ⟨fun b hb => ?_, fun hn => ?_, fun w F hf hnn hall p hp => ?_⟩
    · rw [blks_cons] at hb
      rcases List.mem_append.1 hb with hb | hb
      · exact pa.mem_iff.2 (List.mem_append_left _ (po.mem_iff.1 hb))
      · exact pa.mem_iff.2 (List.mem_append_right _ (i1 b hb))
    · obtain ⟨n1, n2, n3⟩ := List.nodup_append.1 (pa.nodup_iff.1 hn)
      rw [blks_cons]
      exact List.nodup_append.2 ⟨po.nodup_iff.2 n1, i2 n2, fun b hb c hc he => n3 b (po.mem_iff.1 hb) c (i1 c hc) he⟩
    · obtain ⟨n1, n2, n3⟩ := List.nodup_append.1 (pa.nodup_iff.1 hnn)
      obtain ⟨pre, post, e1⟩ := hget_key h1
      obtain ⟨pre2, post2, e2⟩ := hget_key hg
      have ho := h.1 w F hf (hall (k1, x) (by rw [e1]; simp))
      have hgo := grpL_ok (hall (k, grpL rest) ((hdel_blks h1).2.2 _ (by rw [e2]; simp)))
      rcases List.mem_cons.1 hp with rfl | hp
      · have hall2 : ∀ y ∈ os, HOk w F y := fun y hy => by
          rcases List.mem_cons.1 (hos.mem_iff.1 hy) with rfl | hy
          · exact ho
          · exact hgo y hy
        refine ⟨po.nodup_iff.2 n1, fun b hb => ?_, hall2⟩
        obtain ⟨y, hy, hby⟩ := List.mem_flatMap.1 hb
        exact HOk_lt (hall2 y hy) b hby
      · exact i3 w F hf n2 (fun p hp => hall p ((hdel_blks h1).2.2 p ((hdel_blks hg).2.2 p hp))) p hp
/-- The rows that are given up, and what is owned still. -/
def fzs : List (Nat × HO) → List Nat → Fr
  | _, [] => []
  | H, k :: r => match hget H k with
    | some (.row v _ sz xs) => (v, sz, xs) :: fzs (hdel H k) r
    | _ => fzs H r
def hdels : List (Nat × HO) → List Nat → List (Nat × HO)
  | H, [] => H
  | H, k :: r => match hget H k with
    | some (.row _ _ _ _) => hdels (hdel H k) r
    | _ => hdels H r
structure Le (ks : List Nat) (S S' : St) : Prop where
  n : S.n = S'.n
  slots : slotsLe (fzs S.heap ks) S S'.slots
  heap : HLe (fzs S.heap ks) (hdels S.heap ks) S'.heap
theorem repA_row {w : World} {F : Nat → Prop} {b sz : Nat} (hF : F b) : ∀ (xs : List AV) (cs : List Value) (off : Nat), repA w F sz xs cs → w.rangeAt b off cs → repRow w F b off sz xs
  | [], _, _, _, _ => by simp only [repRow]
  | x :: xs, cs, off, h, hr => by
    simp only [repA] at h
    obtain ⟨c1, c2, rfl, h2, h3, h4⟩ := h
    simp only [repRow]
    refine ⟨⟨c1, h2, h3, fun j u hj => hr j u ?_⟩, repA_row hF xs c2 (off + sz) h4 (fun j u hj => ?_)⟩
    · rw [List.getElem?_append_left (List.getElem?_eq_some_iff.1 hj).1]; exact hj
    · have := hr (sz + j) u (by rw [List.getElem?_append_right (by omega), h3, Nat.add_sub_cancel_left]; exact hj)
      rwa [← Nat.add_assoc] at this
theorem row_sl {w : World} {F : Nat → Prop} {v : Value} {e sz : Nat} {xs : List AV} (h : HOk w F (.row v e sz xs)) (hF : ∀ b, v.ownBlock = some b → F b) : repC w F (.sl sz xs) [v] := by
  obtain ⟨cells, h1, h2, h3⟩ := h
  simp only [repC]
  rcases h3 with ⟨rfl, h0⟩ | ⟨g, cap, cur, rfl, _, hg, h4, h5, h6, h7⟩
  · have : xs = [] := List.eq_nil_of_length_eq_zero h0
    subst this
    exact ⟨none, 0, rfl, Nat.le_refl _, Nat.zero_le _, fun h => absurd rfl h⟩
  · refine ⟨_, cap, rfl, h4, h5, fun _ => ⟨g, 0, rfl, hF g rfl, repA_row (hF g rfl) xs cells 0 h1 (fun j u hj => ?_)⟩⟩
    have hb : Blk w g e cur := hg
    rw [hb.cell, ← Array.getElem?_toList]
    rw [← h7, List.getElem?_take] at hj
    split at hj
    · rw [Nat.zero_add]; exact hj
    · cases hj
section
variable {P : Program} {T : List (Nat × TI)} {C : Ctx} {S S' : St} {a : Act} {w : World} {ops : Array Oper} {l : List Oper} {K : Exit → St → Prop}
theorem slotsLe_get {fr : Fr} {w : World} {F : Nat → Prop} {a : Act} (hf : FrOk fr w F) (hs : ∀ i, repV w F (S.slot i) (a.tmps.getD i undef)) : ∀ (L : List (Nat × AV)), slotsLe fr S L → ∀ i, repV w F (lookD L i) (a.tmps.getD i undef)
  | [], _, i => True.intro
  | (j, y) :: r, h, i => by
    unfold lookD
    cases hb : Nat.beq j i with
    | true =>
      have : j = i := Nat.eq_of_beq_eq_true hb
      subst this
      exact h.1 w F _ hf (hs j)
    | false => exact slotsLe_get hf hs r h.2 i
theorem HOk_mono {F F' : Nat → Prop} (hF : ∀ b, F b → F' b) {x : HO} (h : HOk w F x) : HOk w F' x := by
  cases x with
  | var b c => obtain ⟨t, cs, k1, k2⟩ := h; exact ⟨t, cs, k1, repC_mono hF (fun _ _ => rfl) _ _ k2⟩
  | row v e sz xs => obtain ⟨cells, k1, k2⟩ := h; exact ⟨cells, repA_mono hF (fun _ _ => rfl) _ _ _ k1, k2⟩
  | obj b o => exact h
  | grp bs X => exact ⟨h.1, h.2.1, X.mono hF (fun _ _ => rfl) (fun _ _ => rfl) h.2.2⟩
/-- One row given up. -/
theorem Sat.del (h : Sat C S a w) {k : Nat} {x : HO} (hg : hget S.heap k = some x) : Sat C ⟨S.n, S.slots, hdel S.heap k⟩ a w := by
  obtain ⟨j1, j2, j3⟩ := hdel_blks hg
  have hF : ∀ b, Fz C S.heap w b → Fz C (hdel S.heap k) w b := fun b hb => ⟨hb.1, fun hin => hb.2.1 (j1 b hin), hb.2.2⟩
  exact ⟨h.n, h.df, fun i => repV_mono hF (fun _ _ => rfl) _ _ (h.slots i), fun p hp => HOk_mono hF (h.heap p (j3 p hp)), (j2 h.nd).1, fun b hb => h.lt b (j1 b hb), h.mod⟩
theorem Sat.dels : ∀ (ks : List Nat) {S : St}, Sat C S a w → Sat C ⟨S.n, S.slots, hdels S.heap ks⟩ a w ∧ FrOk (fzs S.heap ks) w (Fz C (hdels S.heap ks) w)
  | [], S, h => ⟨h, fun z hz => absurd hz (by simp [fzs])⟩
  | k :: r, S, h => by
    unfold hdels fzs
    split
    · rename_i v e sz xs hg
      have h1 := h.del hg
      obtain ⟨h2, h3⟩ := Sat.dels r h1
      refine ⟨h2, fun z hz => ?_⟩
      rcases List.mem_cons.1 hz with rfl | hz
      · obtain ⟨j1, j2, j3⟩ := hdel_blks hg
        have hrow := h.getHeap hg
        -- what is owned at the end is among what is owned behind the first step
        have hsub : ∀ b, b ∈ blks (hdels (hdel S.heap k) r) → b ∈ blks (hdel S.heap k) := by
          have : ∀ (r : List Nat) (H : List (Nat × HO)) b, b ∈ blks (hdels H r) → b ∈ blks H := by
            intro r
            induction r with
            | nil => exact fun H b hb => hb
            | cons k r ih =>
              intro H b hb
              unfold hdels at hb
              split at hb
              · rename_i hg2
                exact (hdel_blks hg2).1 b (ih _ b hb)
              · exact ih _ b hb
          exact this r _
        have hF : ∀ b, Fz C S.heap w b → Fz C (hdels (hdel S.heap k) r) w b := fun b hb => ⟨hb.1, fun hin => hb.2.1 (j1 b (hsub b hin)), hb.2.2⟩
        refine row_sl (e := e) (HOk_mono hF hrow) (fun b hb => ?_)
        have hb := row_blk (e := e) (sz := sz) (xs := xs) hb
        have hmem : b ∈ blks S.heap := blk_mem hg hb
        exact ⟨(h.lt b hmem).1, fun hin => (j2 h.nd).2 b hb (hsub b hin), .inr (h.lt b hmem).2⟩
      · exact h3 z hz
    · exact Sat.dels r h
theorem Sat.weaken {ks : List Nat} (h : Sat C S a w) (hle : Le ks S S') : Sat C S' a w := by
  obtain ⟨h0, hf⟩ := Sat.dels ks h
  obtain ⟨h1, h2, h3⟩ := hle.heap.spec
  have hF : ∀ b, Fz C (hdels S.heap ks) w b → Fz C S'.heap w b := fun b hb => ⟨hb.1, fun hin => hb.2.1 (h1 b hin), hb.2.2⟩
  refine ⟨h.n.trans hle.n, h.df, fun i => ?_, fun p hp => ?_, h2 h0.nd, fun b hb => h0.lt b (h1 b hb), h.mod⟩
  · exact repV_mono hF (fun _ _ => rfl) _ _ (slotsLe_get (S := S) hf h0.slots S'.slots hle.slots i)
  · exact HOk_mono hF (h3 w _ hf h0.nd h0.heap p hp)
theorem Awp.weaken {c : Code} (ks : List Nat) (hle : Le ks S S') (h : Awp P C c S' K) : Awp P C c S K := ⟨fun a w hs => h.out a w (hs.weaken hle)⟩
theorem Ops.weaken {K : St → Prop} (ks : List Nat) (hle : Le ks S S') (h : Ops .text P C ops l S' K) : Ops .text P C ops l S K := ⟨fun Q E a w hs hK => h.out Q E a w (hs.weaken hle) hK⟩
theorem Awp.seq {x y : Code} (h : Awp P C x S (thenK (fun S' => Awp P C y S' K) K)) : Awp P C (.seq x y) S K := ⟨fun a w hs => by
  refine wp_seq (wp_mono (h.out a w hs) fun e a' w' ⟨S', h1, h2⟩ => ?_)
  cases e with
  | normal => exact h1.out a' w' h2
  | _ => exact ⟨S', h1, h2⟩⟩
theorem Awp.skip (h : K .normal S) : Awp P C .skip S K := ⟨fun _ _ hs => wp_skip ⟨S, h, hs⟩⟩
theorem Awp.exit {id : Nat} (h : K (.exit id) S) : Awp P C (.exit id) S K := ⟨fun _ _ hs => wp_exit ⟨S, h, hs⟩⟩
theorem Awp.ret (h : K .ret S) : Awp P C .ret S K := ⟨fun _ _ hs => wp_ret ⟨S, h, hs⟩⟩
theorem Awp.block {id : Nat} {c : Code} (h : Awp P C c S (blockK id K)) : Awp P C (.block id c) S K := ⟨fun a w hs => by
  refine wp_block (wp_mono (h.out a w hs) fun e a' w' ⟨S', h1, h2⟩ => ?_)
  cases e with
  | exit id' =>
    simp only [blockK] at h1
    unfold Exit.inBlock
    by_cases hid : id' = id
    · subst hid
      simp only [Nat.beq_refl, cond_true] at h1
      simp only [if_true]
      exact ⟨S', h1, h2⟩
    · have : Nat.beq id' id = false := by
        cases hb : Nat.beq id' id with
        | true => exact absurd (Nat.eq_of_beq_eq_true hb) hid
        | false => rfl
      rw [this] at h1
      simp only [hid, if_false]
      exact ⟨S', h1, h2⟩
  | _ => exact ⟨S', h1, h2⟩⟩
theorem Awp.cond {c : Operand} {x y : Code} {t : Bool} (hc : ev S c = .b t) (h1 : t = true → Awp P C x S K) (h2 : t = false → Awp P C y S K) : Awp P C (.cond c x y) S K := ⟨fun a w hs => by
  have Ec := ev_rep hs c
  rw [hc, repV_b] at Ec
  exact wp_cond_split Ec (fun ht => (h1 ht).out a w hs) (fun ht => (h2 ht).out a w hs)⟩
theorem Awp.region {id : Nat} {l : List Oper} (h : Ops .text P C l.toArray l S (K .normal)) : Awp P C (.region id l.toArray false) S K := ⟨fun a w hs =>
  wp_region_lit (h.out (fun e a' w' => ∃ S', K e S' ∧ Sat C S' a' w') (fun _ a' w' => ∃ S', K .normal S' ∧ Sat C S' a' w') a w hs (fun S' _a' _w' h1 h2 => ⟨S', h1, h2⟩) (fun _ _ _ h => h))⟩
theorem Sat.drew (h : Sat C S a w) : Sat C S a { w with drawn := w.drawn + 1 } := by
  have hm : Mod None_ w { w with drawn := w.drawn + 1 } := ⟨rfl, rfl, rfl, Nat.le_refl _, fun _ _ _ => rfl⟩
  exact h.move S.heap None_ hm (fun _ _ hf => hf.elim) h.nd (fun b hb => ⟨(h.lt b hb).1, .inl hb⟩) (fun p hp => h.keepHO hm (fun _ _ hf => hf.elim) (fun b hb => ⟨(h.lt b hb).1, .inl hb⟩) (h.heap p hp) (fun _ _ hf => hf))
/-- A region that draws its order: gone through in an order of mine that stands for all. -/
theorem Awp.regionAny {id : Nat} {ops : Array Oper} {l : List Oper} (tk so qs is : List Nat) (hm : P.follows .mixedOrders = true) (hp : okPerm P ops so qs is (Array.replicate ops.size false) = true) (hns : Region.noSelect ops = true) (hl : is.map (fun i => ops[i]?) = l.map some) (hn : is.length = ops.size)
    (h : Ops (.any tk so qs) P C ops l S (K .normal)) : Awp P C (.region id ops true) S K := ⟨fun a w hs => by
  refine wp_mono (wp_region_any (Q := fun e a' w' => e = .normal ∧ ∃ S', K .normal S' ∧ Sat C S' a' w') hm (wpAny_of_R (qs := qs) _ _ (tbl S.heap tk) _ _ ?_)) (fun e a' w' ⟨he, h⟩ => by subst he; exact h)
  have hq := okPerm_part is _ hp
  have h5 := h.out (fun e a' w' => e = .normal ∧ ∃ S', K .normal S' ∧ Sat C S' a' w') (fun _ a' w' => ∃ S', K .normal S' ∧ Sat C S' a' w') a _ hs.drew (fun S' a' w' h1 h2 => ⟨S', h1, h2⟩) is _ 0 hq.1 hns hl (fun c a w hq => by cases hq.1) (fun G a w he => ⟨hq.2, rfl, he⟩)
  rw [Nat.zero_add, hn] at h5
  exact h5⟩
/-- All orders from here on, told as a tree: a part of the way that stands for all, or two that may come next. -/
structure AnyT (P : Program) (C : Ctx) (ops : Array Oper) (tk so qs : List Nat) (n : Nat) (listed : Array Bool) (S : St) (K : St → Prop) : Prop where
  out : ∀ (Q : Exit → Act → World → Prop) (a : Act) (w : World), Sat C S a w → Region.noSelect ops = true → (∀ c a w, ¬ Q (.panic c) a w) → (∀ S' a' w', K S' → Sat C S' a' w' → Q .normal a' w') → wpAnyR P ops qs Q n listed (tbl S.heap tk) a w
theorem AnyT.path {ops : Array Oper} {l : List Oper} {tk so qs : List Nat} {n n' : Nat} {listed listed' : Array Bool} {S : St} {K : St → Prop} (is : List Nat) (hp : okPermP P ops so qs is listed = true) (hl : is.map (fun i => ops[i]?) = l.map some) (hn : n = n' + is.length) (he : listAfter is listed = listed')
    (h : Ops (.any tk so qs) P C ops l S (fun S' => AnyT P C ops tk so qs n' listed' S' K)) : AnyT P C ops tk so qs n listed S K := by
  subst hn; subst he
  exact ⟨fun Q a w hs f2 hQ hK => h.out Q (fun G a' w' => wpAnyR P ops qs Q n' (listAfter is listed) G a' w') a w hs (fun S' a' w' h1 h2 => h1.out Q a' w' h2 f2 hQ hK) is listed n' hp f2 hl hQ (fun _ _ _ h => h)⟩
theorem AnyT.fin {ops : Array Oper} {tk so qs : List Nat} {n : Nat} {listed : Array Bool} {S : St} {K : St → Prop} (hr : Region.ready .any ops listed = []) (h : K S) : AnyT P C ops tk so qs n listed S K := by
  refine ⟨fun Q a w hs f2 hQ hK => ?_⟩
  cases n with
  | zero => exact ⟨hr, hK _ _ _ h hs⟩
  | succ n => exact ⟨fun _ => hK _ _ _ h hs, fun i hi => by rw [hr] at hi; cases hi⟩
theorem AnyT.two {ops : Array Oper} {o1 o2 : Oper} {tk so qs : List Nat} {n : Nat} {listed : Array Bool} {S : St} {K : St → Prop} (i1 i2 : Nat) (hr : Region.ready .any ops listed = [i1, i2]) (h1 : ops[i1]? = some o1) (h2 : ops[i2]? = some o2)
    (k1 : Ops (.one tk so qs) P C ops [o1] S (fun S' => AnyT P C ops tk so qs n (listed.setIfInBounds i1 true) S' K)) (k2 : Ops (.one tk so qs) P C ops [o2] S (fun S' => AnyT P C ops tk so qs n (listed.setIfInBounds i2 true) S' K)) : AnyT P C ops tk so qs (n + 1) listed S K := by
  refine ⟨fun Q a w hs f2 hQ hK => ⟨fun h => (by rw [hr] at h; cases h), fun i hi => ?_⟩⟩
  rw [hr] at hi
  simp only [List.mem_cons, List.not_mem_nil, or_false] at hi
  rcases hi with rfl | rfl
  · exact k1.out Q (fun G a' w' => wpAnyR P ops qs Q n (listed.setIfInBounds i true) G a' w') a w hs (fun S' a' w' h1 h2 => h1.out Q a' w' h2 f2 hQ hK) i h1
  · exact k2.out Q (fun G a' w' => wpAnyR P ops qs Q n (listed.setIfInBounds i true) G a' w') a w hs (fun S' a' w' h1 h2 => h1.out Q a' w' h2 f2 hQ hK) i h2
theorem Awp.regionT {id : Nat} {ops : Array Oper} (tk so qs : List Nat) (hm : P.follows .mixedOrders = true) (hns : Region.noSelect ops = true)
    (h : AnyT P C ops tk so qs ops.size (Array.replicate ops.size false) S (K .normal)) : Awp P C (.region id ops true) S K := ⟨fun a w hs => by
  refine wp_mono (wp_region_any (Q := fun e a' w' => e = .normal ∧ ∃ S', K .normal S' ∧ Sat C S' a' w') hm (wpAny_of_R (qs := qs) _ _ (tbl S.heap tk) _ _ ?_)) (fun e a' w' ⟨he, h⟩ => by subst he; exact h)
  exact h.out (fun e a' w' => e = .normal ∧ ∃ S', K .normal S' ∧ Sat C S' a' w') a _ hs.drew hns (fun c a w hq => by cases hq.1) (fun S' a' w' h1 h2 => ⟨rfl, S', h1, h2⟩)⟩
theorem Awp.loop {c : Code} {X : Type} (mk : X → St) (inv : X → Prop) (μ : X → Nat) (ks0 : List Nat) (x0 : X) (h0 : inv x0) (hle : Le ks0 S (mk x0))
    (round : ∀ x, inv x → Awp P C c (mk x) (thenK (fun S' => ∃ x' ks, inv x' ∧ μ x' < μ x ∧ Le ks S' (mk x')) K)) : Awp P C (.loop c) S K := by
  refine ⟨fun a w hs => ?_⟩
  refine wp_loop_ghost (fun n a w => ∃ x, μ x = n ∧ inv x ∧ Sat C (mk x) a w) (μ x0) ⟨x0, rfl, h0, hs.weaken hle⟩ ?_
  rintro n a w ⟨x, rfl, hx, hs⟩
  refine wp_mono ((round x hx).out a w hs) fun e a' w' ⟨S', h1, h2⟩ => ?_
  cases e with
  | normal =>
    obtain ⟨x', ks, i1, i2, i3⟩ := h1
    exact ⟨μ x', i2, x', rfl, i1, h2.weaken i3⟩
  | _ => exact ⟨S', h1, h2⟩
end
end Go.Proofs.Ytfdcopbbnmialaa
