/- ref11.Apply by rules. -/
import Derived.Test.YtnmnhnlebkebfaaAP1
import Derived.Test.YtnmnhnlebkebfaaL15
import Derived.Test.YtnmnhnlebkebfaaL9Z
set_option maxHeartbeats 16000000
set_option maxRecDepth 100000
namespace Go.Proofs.Ytnmnhnlebkebfaa
open Go Go.RowKit
theorem ltC_ahead (x y : Fl) : ltC ordF x y = aheadF x y := by
  unfold ltC
  cases h : aheadF x y with
  | true => exact decide_eq_true ((ordF_ahead x y).2 h)
  | false => exact decide_eq_false (fun n => by rw [(ordF_ahead x y).1 n] at h; cases h)
/-- What is built while a file is put among others. -/
def Bld (x : Fl) (L : List Fl) (j : Nat) (done : Bool) (out : List Fl) : Prop :=
  (done = false ∧ out = L.take j ∧ ∀ y ∈ L.take j, aheadF x y = false) ∨ (done = true ∧ out = insS (ltC ordF) x (L.take j) ∧ ∃ y ∈ L.take j, aheadF x y = true)
theorem Bld.len {x : Fl} {L : List Fl} {j : Nat} {out : List Fl} {done : Bool} (b : Bld x L j done out) : out.length ≤ L.length + 1 := by
  rcases b with ⟨_, h2, _⟩ | ⟨_, h2, _⟩
  · rw [h2, List.length_take]; omega
  · have h : ∀ (x : Fl) (a : List Fl), (insS (ltC ordF) x a).length = a.length + 1 := fun x a => by
      induction a with
      | nil => rfl
      | cons y r ih => unfold insS; split <;> simp [ih]
    rw [h2, h, List.length_take]; omega
end Go.Proofs.Ytnmnhnlebkebfaa
set_option maxHeartbeats 8000000
set_option maxRecDepth 100000
namespace Go.Proofs.Ytnmnhnlebkebfaa
open Go Go.RowKit
theorem lt_of_le_lt {a b c : List UInt8} (h : leS a b) (k : Op.bytesLess b c = true) : Op.bytesLess a c = true := by
  rcases less_tri a c with h1 | rfl | h1
  · exact h1
  · unfold leS at h; rw [h] at k; cases k
  · have := less_trans k h1
    unfold leS at h; rw [h] at this; cases this
theorem lt_of_lt_le {a b c : List UInt8} (h : Op.bytesLess a b = true) (k : leS b c) : Op.bytesLess a c = true := less_ge h k
def gdF (next : Int) (f : Fl) : Prop := ¬ argF next f ∧ keyOk f.first = true ∧ keyOk f.last = true ∧ leS f.first f.last
def relF (a f : Fl) : Prop := aheadF a f = true ∧ (a.lev = f.lev → 0 < f.lev → Op.bytesLess a.last f.first = true)
structure GS (next : Int) (l : List Fl) : Prop where
  good : ∀ f ∈ l, gdF next f
  nums : l.Pairwise (fun a b => a.num ≠ b.num)
  rel : l.Pairwise relF
theorem ahead_trans {a b c : Fl} (h : aheadF a b = true) (k : aheadF b c = true) : aheadF a c = true := by
  rw [← ltC_ahead] at *; exact wo_order.trans a b c h k
theorem ahead_lev {a b : Fl} (h : aheadF a b = true) : a.lev ≤ b.lev := by
  unfold aheadF at h
  split at h
  · have := of_decide_eq_true h; omega
  · omega
theorem relF_trans {next : Int} {a b c : Fl} (hb : gdF next b) (h : relF a b) (k : relF b c) : relF a c := by
  refine ⟨ahead_trans h.1 k.1, fun e p => ?_⟩
  have h1 := ahead_lev h.1
  have h2 := ahead_lev k.1
  have := h.2 (by omega) (by omega)
  have := k.2 (by omega) p
  exact less_trans (lt_of_lt_le ‹Op.bytesLess a.last b.first = true› hb.2.2.2) this
theorem fcode_zero {next : Int} {pre : List Fl} {f : Fl} : fcode next pre f = 0 ↔ ¬ argF next f ∧ ¬ frmF pre f ∧ seqF pre f = 0 := by
  by_cases h1 : argF next f
  · rw [fcode_arg h1]; exact ⟨fun h => (by cases h), fun h => absurd h1 h.1⟩
  · by_cases h2 : frmF pre f
    · rw [fcode_frm h1 h2]; exact ⟨fun h => (by cases h), fun h => absurd h2 h.2.1⟩
    · rw [fcode_seq h1 h2]; exact ⟨fun h => ⟨h1, h2, h⟩, fun h => h.2.2⟩
theorem frmF_not {next : Int} {pre : List Fl} {f : Fl} (h1 : ¬ argF next f) : ¬ frmF pre f ↔ gdF next f ∧ ∀ p ∈ pre, p.num ≠ f.num := by
  unfold frmF gdF leS
  constructor
  · intro h
    refine ⟨⟨h1, ?_, ?_, ?_⟩, fun p hp he => h (.inr (.inr (.inr ?_)))⟩
    · cases hk : keyOk f.first with
      | true => rfl
      | false => exact absurd (.inl hk) h
    · cases hk : keyOk f.last with
      | true => rfl
      | false => exact absurd (.inr (.inl hk)) h
    · cases hk : Op.bytesLess f.last f.first with
      | false => rfl
      | true => exact absurd (.inr (.inr (.inl hk))) h
    · rw [List.contains_iff_mem, List.mem_map]; exact ⟨p, hp, he⟩
  · rintro ⟨⟨_, h2, h3, h4⟩, h5⟩ (h | h | h | h)
    · rw [h2] at h; cases h
    · rw [h3] at h; cases h
    · rw [h4] at h; cases h
    · rw [List.contains_iff_mem, List.mem_map] at h
      obtain ⟨p, hp, he⟩ := h
      exact h5 p hp he
theorem afterF_not {a f : Fl} : ¬ afterF a f ↔ relF a f := by
  unfold afterF relF
  constructor
  · intro h
    refine ⟨?_, fun e p => ?_⟩
    · cases hk : aheadF a f with
      | true => rfl
      | false => exact absurd (.inl hk) h
    · cases hk : Op.bytesLess a.last f.first with
      | true => rfl
      | false => exact absurd (.inr ⟨e, p, hk⟩) h
  · rintro ⟨h1, h2⟩ (h | ⟨e, p, h⟩)
    · rw [h1] at h; cases h
    · rw [h2 e p] at h; cases h
theorem seqF_of {pre : List Fl} {f : Fl} : seqF pre f = 0 ↔ ∀ a, pre.getLast? = some a → relF a f := by
  unfold seqF
  cases hg : pre.getLast? with
  | none => exact ⟨fun _ a h => (by cases h), fun _ => rfl⟩
  | some a =>
    by_cases h : afterF a f
    · simp only [if_pos h]
      exact ⟨fun h => (by cases h), fun k => absurd h (afterF_not.2 (k a rfl))⟩
    · refine ⟨fun _ b hb => (by cases hb; exact afterF_not.1 h), fun _ => ?_⟩
      show (if afterF a f then (3 : Int) else 0) = 0
      rw [if_neg h]
theorem GS.snoc {next : Int} {pre : List Fl} {f : Fl} (h : GS next pre) (hf : fcode next pre f = 0) : GS next (pre ++ [f]) := by
  obtain ⟨h1, h2, h3⟩ := fcode_zero.1 hf
  obtain ⟨g1, g2⟩ := (frmF_not h1).1 h2
  refine ⟨fun x hx => ?_, List.pairwise_append.2 ⟨h.nums, List.pairwise_singleton _ _, fun a ha b hb => ?_⟩, List.pairwise_append.2 ⟨h.rel, List.pairwise_singleton _ _, fun a ha b hb => ?_⟩⟩
  · rcases List.mem_append.1 hx with hx | hx
    · exact h.good x hx
    · rw [List.mem_singleton.1 hx]; exact g1
  · rw [List.mem_singleton.1 hb]; exact g2 a ha
  · rw [List.mem_singleton.1 hb]
    have hne : pre ≠ [] := fun h0 => by rw [h0] at ha; cases ha
    have hl := seqF_of.1 h3 _ (List.getLast?_eq_some_getLast hne)
    have hsp : pre = pre.dropLast ++ [pre.getLast hne] := (List.dropLast_concat_getLast hne).symm
    have hr := h.rel
    rw [hsp] at hr ha
    rcases List.mem_append.1 ha with ha | ha
    · exact relF_trans (h.good _ (List.getLast_mem hne)) ((List.pairwise_append.1 hr).2.2 a ha _ (by simp)) hl
    · rw [List.mem_singleton.1 ha]; exact hl
theorem lgo_iff {next : Int} : ∀ (l pre : List Fl), GS next pre → (lgo next pre l = 0 ↔ GS next (pre ++ l))
  | [], pre, h => by rw [List.append_nil]; exact ⟨fun _ => h, fun _ => rfl⟩
  | f :: r, pre, h => by
    rw [lgo]
    by_cases hc : fcode next pre f = 0
    · rw [if_neg (fun n => n hc), lgo_iff r (pre ++ [f]) (h.snoc hc), List.append_assoc]; rfl
    · rw [if_pos hc]
      refine ⟨fun h => absurd h hc, fun g => absurd ?_ hc⟩
      have gf := g.good f (by simp)
      refine fcode_zero.2 ⟨gf.1, (frmF_not gf.1).2 ⟨gf, fun p hp => (List.pairwise_append.1 g.nums).2.2 p hp f (by simp)⟩, seqF_of.2 fun a ha => (List.pairwise_append.1 g.rel).2.2 a ?_ f (by simp)⟩
      exact List.mem_of_getLast? ha
theorem GS.nil {next : Int} : GS next [] := ⟨fun _ h => (by cases h), .nil, .nil⟩
theorem lcheck_iff {s : Stt} : lcheck s = 0 ↔ ¬ headBad s ∧ s.fs.length ≤ 1000 ∧ GS s.next s.fs := by
  unfold lcheck
  by_cases h1 : headBad s
  · rw [if_pos h1]; exact ⟨fun h => (by cases h), fun h => absurd h1 h.1⟩
  · rw [if_neg h1]
    by_cases h2 : 1000 < s.fs.length
    · rw [if_pos h2]; exact ⟨fun h => (by cases h), fun h => absurd h.2.1 (by omega)⟩
    · rw [if_neg h2, lgo_iff _ _ GS.nil]; exact ⟨fun h => ⟨h1, by omega, h⟩, fun h => h.2.2⟩
/-! What is sorted. -/
theorem insS_perm {α : Type} {lt : α → α → Bool} (x : α) : ∀ (l : List α), (insS lt x l).Perm (x :: l)
  | [] => .refl _
  | y :: r => by
    unfold insS
    split
    · exact .refl _
    · exact (List.Perm.cons y (insS_perm x r)).trans (List.Perm.swap x y r)
theorem sortS_perm {α : Type} {lt : α → α → Bool} (l : List α) : (sortS lt l).Perm l := by
  have h : ∀ (l a : List α), (l.foldl (fun a x => insS lt x a) a).Perm (a ++ l) := fun l => by
    induction l with
    | nil => intro a; rw [List.append_nil]; exact .refl _
    | cons x l ih =>
      intro a
      refine (ih (insS lt x a)).trans ?_
      refine ((insS_perm x a).append_right l).trans ?_
      exact (List.perm_middle (l₁ := a) (l₂ := l) (a := x)).symm
  exact h l []
def disF (a b : Fl) : Prop := a.lev = b.lev → 0 < a.lev → Op.bytesLess a.last b.first = true ∨ Op.bytesLess b.last a.first = true
theorem disF_symm {a b : Fl} (h : disF a b) : disF b a := fun e p => (h e.symm (e ▸ p)).symm
theorem disF_rel {a b : Fl} (h : relF a b) : disF a b := fun e p => .inl (h.2 e (e ▸ p))
/-- What has got other numbers and doesn't meet is right when it is sorted. -/
theorem GS.sort {next : Int} {l : List Fl} (hg : ∀ f ∈ l, gdF next f) (hn : l.Pairwise (fun a b => a.num ≠ b.num)) (hd : l.Pairwise disF) : GS next (sortS (ltC ordF) l) := by
  have hp := sortS_perm (lt := ltC ordF) l
  have g1 : ∀ f ∈ sortS (ltC ordF) l, gdF next f := fun f hf => hg f (hp.mem_iff.1 hf)
  have g2 : (sortS (ltC ordF) l).Pairwise (fun a b => a.num ≠ b.num) := (hp.pairwise_iff (fun h => Ne.symm h)).2 hn
  have g3 : (sortS (ltC ordF) l).Pairwise disF := (hp.pairwise_iff (fun h => disF_symm h)).2 hd
  refine ⟨g1, g2, ?_⟩
  have g4 := sortS_srt wo_order l
  have g5 := List.pairwise_iff_getElem.1 g4
  rw [List.pairwise_iff_getElem] at g2 g3 ⊢
  intro i j hi hj hij
  have a1 := g2 i j hi hj hij
  have a2 := g3 i j hi hj hij
  have a3 := g5 i j hi hj hij
  have b1 := g1 _ (List.getElem_mem hi)
  have b2 := g1 _ (List.getElem_mem hj)
  generalize (sortS (ltC ordF) l)[i] = x at a1 a2 a3 b1 ⊢
  generalize (sortS (ltC ordF) l)[j] = y at a1 a2 a3 b2 ⊢
  rw [ltC_ahead] at a3
  have arg1 := b1.1
  unfold argF at arg1
  have key : x.lev = y.lev → 0 < x.lev → Op.bytesLess x.last y.first = true := fun e p => by
    unfold aheadF at a3
    rw [if_neg (by omega), if_neg (by omega)] at a3
    rcases a2 e p with h | h
    · exact h
    · have := lt_of_lt_le h (leS_trans a3 b2.2.2.2)
      rw [less_irr] at this; cases this
  refine ⟨?_, fun e p => key e (by omega)⟩
  unfold aheadF at a3 ⊢
  by_cases hl : x.lev = y.lev
  · rw [if_neg (by omega)] at a3
    rw [if_neg (by omega)]
    by_cases h0 : x.lev = 0
    · rw [if_pos (by omega)] at a3
      rw [if_pos h0]
      have := of_decide_eq_false a3
      exact decide_eq_true (by omega)
    · rw [if_neg h0]
      exact lt_of_le_lt b1.2.2.2 (key hl (by omega))
  · rw [if_pos (by omega)] at a3
    rw [if_pos hl]
    have := of_decide_eq_false a3
    exact decide_eq_true (by omega)
/-! The table that takes the place of others. -/
def hullStep (o x : Fl) : Fl := { o with first := if o.first = [] ∨ Op.bytesLess x.first o.first = true then x.first else o.first, last := maxS o.last x.last }
theorem hullStep_twice (o x : Fl) : hullStep (hullStep o x) x = hullStep o x := by
  have h1 : (if (if o.first = [] ∨ Op.bytesLess x.first o.first = true then x.first else o.first) = [] ∨ Op.bytesLess x.first (if o.first = [] ∨ Op.bytesLess x.first o.first = true then x.first else o.first) = true then x.first else (if o.first = [] ∨ Op.bytesLess x.first o.first = true then x.first else o.first)) = (if o.first = [] ∨ Op.bytesLess x.first o.first = true then x.first else o.first) := by
    by_cases h : o.first = [] ∨ Op.bytesLess x.first o.first = true
    · rw [if_pos h]; split <;> rfl
    · rw [if_neg h, if_neg h]
  have h2 : maxS (maxS o.last x.last) x.last = maxS o.last x.last := by
    unfold maxS
    by_cases h : Op.bytesLess o.last x.last = true
    · rw [if_pos h, less_irr]; rfl
    · rw [if_neg h, if_neg h]
  unfold hullStep
  simp only [h1, h2]
def hullF (n lev : Int) (l : List Fl) : Fl := l.foldl hullStep ⟨n, lev, 0, [], []⟩
def goneF (fs : List Fl) (gone : List Int) : List Fl := fs.filter (fun f => gone.contains f.num)
structure HullOf (o : Fl) (S : List Fl) : Prop where
  low : ∀ x ∈ S, leS o.first x.first ∧ leS x.last o.last
  is : (S = [] ∧ o.first = [] ∧ o.last = []) ∨ (∃ t ∈ S, o.first = t.first) ∧ ∃ t ∈ S, o.last = t.last
theorem hull_go : ∀ (l S : List Fl) (o : Fl), (∀ x ∈ S ++ l, x.first ≠ []) → HullOf o S → HullOf (l.foldl hullStep o) (S ++ l)
  | [], S, o, _, h => by rw [List.append_nil]; exact h
  | x :: l, S, o, hne, h => by
    have e : S ++ x :: l = (S ++ [x]) ++ l := by rw [List.append_assoc]; rfl
    rw [e] at hne ⊢
    rw [List.foldl_cons]
    refine hull_go l (S ++ [x]) _ hne ⟨fun y hy => ?_, .inr ?_⟩
    · have hfx : leS (hullStep o x).first x.first ∧ leS x.last (hullStep o x).last := by
        refine ⟨?_, maxS_r _ _⟩
        show leS (if o.first = [] ∨ Op.bytesLess x.first o.first = true then x.first else o.first) _
        split
        · exact leS_refl _
        · rename_i hc
          unfold leS
          cases hb : Op.bytesLess x.first o.first with
          | false => rfl
          | true => exact absurd (.inr hb) hc
      have hfo : o.first ≠ [] → leS (hullStep o x).first o.first := fun hn => by
        show leS (if o.first = [] ∨ Op.bytesLess x.first o.first = true then x.first else o.first) _
        split
        · rename_i hc
          rcases hc with hc | hc
          · exact absurd hc hn
          · exact less_asymm hc
        · exact leS_refl _
      rcases List.mem_append.1 hy with hy | hy
      · have h2 := h.low y hy
        refine ⟨?_, leS_trans h2.2 (maxS_l _ _)⟩
        rcases h.is with ⟨h0, _⟩ | ⟨⟨t, ht, e1⟩, _⟩
        · rw [h0] at hy; cases hy
        · exact leS_trans (hfo (by rw [e1]; exact hne t (by simp [ht]))) h2.1
      · rw [List.mem_singleton.1 hy]; exact hfx
    · refine ⟨?_, ?_⟩
      · show ∃ t ∈ S ++ [x], (if o.first = [] ∨ Op.bytesLess x.first o.first = true then x.first else o.first) = t.first
        split
        · exact ⟨x, by simp, rfl⟩
        · rename_i hc
          rcases h.is with ⟨_, h0, _⟩ | ⟨⟨t, ht, e1⟩, _⟩
          · exact absurd (.inl h0) hc
          · exact ⟨t, by simp [ht], e1⟩
      · show ∃ t ∈ S ++ [x], maxS o.last x.last = t.last
        unfold maxS
        split
        · exact ⟨x, by simp, rfl⟩
        · rename_i hc
          rcases h.is with ⟨_, _, h0⟩ | ⟨_, ⟨t, ht, e1⟩⟩
          · refine ⟨x, by simp, ?_⟩
            rw [h0] at hc ⊢
            rcases less_tri [] x.last with h | h | h
            · exact absurd h hc
            · exact h
            · unfold Op.bytesLess at h; simp at h
          · exact ⟨t, by simp [ht], e1⟩
theorem hull_of {n lev : Int} {l : List Fl} (h : ∀ x ∈ l, x.first ≠ []) : HullOf (hullF n lev l) l := hull_go l [] _ h ⟨fun x hx => (by cases hx), .inl ⟨rfl, rfl, rfl⟩⟩
theorem hull_num (n lev : Int) (l : List Fl) : (hullF n lev l).num = n ∧ (hullF n lev l).lev = lev ∧ (hullF n lev l).size = 0 := by
  have h : ∀ (l : List Fl) (o : Fl), (l.foldl hullStep o).num = o.num ∧ (l.foldl hullStep o).lev = o.lev ∧ (l.foldl hullStep o).size = o.size := fun l => by
    induction l with
    | nil => exact fun o => ⟨rfl, rfl, rfl⟩
    | cons x l ih => exact fun o => by rw [List.foldl_cons]; exact ih (hullStep o x)
  exact h l _
theorem key_ne {s : List UInt8} (h : keyOk s = true) : s ≠ [] := by
  rintro rfl
  unfold keyOk at h; simp at h
end Go.Proofs.Ytnmnhnlebkebfaa
