/- The order of the leaves doesn't matter to the sorted items. No program in sight. -/
import Derived.Test.YtcmgpkibjdbonaaGreatG10Z
import Derived.Test.YtcmgpkibjdbonaaGreatR5Z
import Derived.Test.YtcmgpkibjdbonaaGreatR6Z
set_option maxHeartbeats 4000000
namespace Go.Proofs.YtcmgpkibjdbonaaGreat
open Go Go.RowKit
theorem short_filter {α : Type} {R : α → α → Prop} {p : α → Bool} (hn : ∀ x y, p x = true → p y = true → ¬ R x y) : ∀ {l : List α}, l.Pairwise R → (l.filter p).length ≤ 1 := by
  intro l h
  have h2 := h.filter p
  have h3 : ∀ x ∈ l.filter p, p x = true := fun x hx => (List.mem_filter.1 hx).2
  generalize l.filter p = q at h2 h3
  match q, h2, h3 with
  | [], _, _ => exact Nat.zero_le _
  | [x], _, _ => exact Nat.le_refl _
  | x :: y :: r, h2, h3 => exact absurd ((List.pairwise_cons.1 h2).1 y (by simp)) (hn x y (h3 x (by simp)) (h3 y (by simp)))
theorem perm_short {α : Type} {a b : List α} (h : a.Perm b) (hl : b.length ≤ 1) : a = b := by
  match b, hl with
  | [], _ => exact List.perm_nil.1 h
  | [x], _ => exact List.perm_singleton.1 h
theorem eqvI {x y : Itm} (h : eqv (ltCI ordI) x y = true) : x.l = y.l := by
  unfold eqv at h
  simp only [Bool.and_eq_true, Bool.not_eq_true'] at h
  have h1 : ¬ cmpS x.l y.l < 0 := of_decide_eq_false h.1
  have h2 : ¬ cmpS y.l x.l < 0 := of_decide_eq_false h.2
  rcases less_tri x.l y.l with k | k | k
  · exact absurd (cmpS_neg.2 k) h1
  · exact k
  · exact absurd (cmpS_neg.2 k) h2
/-- What rises when sorted is sorted to one list, in whatever order it came. -/
theorem srt_perm {a b : List Itm} (h : a.Perm b) (hr : RiseI (srtI b)) : srtI a = srtI b := by
  refine (sortS_of woI (sortS_srt woI b) ?_).symm
  refine CE.trans (fun z => ?_) (sortS_ce woI b)
  refine perm_short (h.filter _) ?_
  have hc : b.filter (eqv (ltCI ordI) z) = (srtI b).filter (eqv (ltCI ordI) z) := sortS_ce woI b z
  rw [hc]
  exact short_filter (fun x y hx hy hxy => by
    have e1 := eqvI hx
    have e2 := eqvI hy
    rw [← e1, ← e2, cmpS_eq] at hxy
    omega) hr
theorem itms_perm {a b : List Lef} (h : a.Perm b) (hc : chkI (itmsL b) = 0) : itmsL a = itmsL b := srt_perm (h.map leafI) (chkI_rise hc).2.1
theorem top_perm {a b : List Lef} (h : a.Perm b) : (chkI (itmsL a) = 0 ↔ chkI (itmsL b) = 0) ∧ topS (itmsL a) = topS (itmsL b) := by
  have h1 : chkI (itmsL a) = 0 ↔ chkI (itmsL b) = 0 := ⟨fun hc => by rw [itms_perm h.symm hc]; exact hc, fun hc => by rw [itms_perm h hc]; exact hc⟩
  refine ⟨h1, ?_⟩
  by_cases hc : chkI (itmsL b) = 0
  · rw [itms_perm h hc]
  · unfold topS
    rw [if_pos hc, if_pos (fun h => hc (h1.1 h))]
end Go.Proofs.YtcmgpkibjdbonaaGreat
set_option maxHeartbeats 4000000
namespace Go.Proofs.YtcmgpkibjdbonaaGreat
open Go Go.RowKit
def lo (d : Nat) (l : List Itm) : List Itm := l.filter (fun x => bitL x.l d == 0)
def hi (d : Nat) (l : List Itm) : List Itm := l.filter (fun x => !(bitL x.l d == 0))
def trJ : Nat → Nat → List Itm → Itm
  | 0, _, l => if l.length ≤ 1 then l.headD default else default
  | f + 1, d, l => if l.length ≤ 1 then l.headD default else if lo d l = [] then trJ f (d + 1) l else if hi d l = [] then trJ f (d + 1) l else innI (trJ f (d + 1) (lo d l)) (trJ f (d + 1) (hi d l))
theorem perm_head {l l' : List Itm} (h : l.Perm l') (h1 : l.length ≤ 1) : l.headD default = l'.headD default := by
  rw [perm_short h (by rw [← h.length_eq]; exact h1)]
theorem perm_nil_iff {l l' : List Itm} (h : l.Perm l') : l = [] ↔ l' = [] := ⟨fun e => by subst e; exact List.perm_nil.1 h.symm, fun e => by subst e; exact List.perm_nil.1 h⟩
theorem trJ_perm : ∀ (f d : Nat) (l l' : List Itm), l.Perm l' → trJ f d l = trJ f d l'
  | 0, d, l, l', h => by
    unfold trJ
    rw [← h.length_eq]
    split
    · rename_i h1; exact perm_head h h1
    · rfl
  | f + 1, d, l, l', h => by
    have h0 : (lo d l).Perm (lo d l') := h.filter _
    have h1 : (hi d l).Perm (hi d l') := h.filter _
    unfold trJ
    rw [← h.length_eq]
    split
    · rename_i h1; exact perm_head h h1
    · by_cases e0 : lo d l = []
      · rw [if_pos e0, if_pos ((perm_nil_iff h0).1 e0)]; exact trJ_perm f _ _ _ h
      · rw [if_neg e0, if_neg (fun e => e0 ((perm_nil_iff h0).2 e))]
        by_cases e1 : hi d l = []
        · rw [if_pos e1, if_pos ((perm_nil_iff h1).1 e1)]; exact trJ_perm f _ _ _ h
        · rw [if_neg e1, if_neg (fun e => e1 ((perm_nil_iff h1).2 e)), trJ_perm f _ _ _ h0, trJ_perm f _ _ _ h1]
theorem joinF_fuel : ∀ (k k' : Nat) (l : List Itm), l ≠ [] → l.length ≤ k → l.length ≤ k' → RiseI l → (∀ x ∈ l, x.ok) → joinF k l = joinF k' l
  | 0, _, l, hn, hk, _, _, _ => absurd (List.length_eq_zero_iff.1 (by omega)) hn
  | _ + 1, 0, l, hn, _, hk, _, _ => absurd (List.length_eq_zero_iff.1 (by omega)) hn
  | k + 1, k' + 1, l, hn, h1, h2, hr, hok => by
    unfold joinF
    by_cases hl : l.length = 1
    · rw [if_pos hl, if_pos hl]
    rw [if_neg hl, if_neg hl]
    have hp : 0 < l.length := List.length_pos_iff.2 hn
    obtain ⟨_, s1, s2, _⟩ := spl_ok hr hok (by omega)
    rw [joinF_fuel k k' _ (take_ne s1 s2) (by rw [List.length_take]; omega) (by rw [List.length_take]; omega) (hr.sublist (List.take_sublist ..)) (fun x hx => hok x (List.mem_of_mem_take hx)),
      joinF_fuel k k' _ (drop_ne s2) (by rw [List.length_drop]; omega) (by rw [List.length_drop]; omega) (hr.sublist (List.drop_sublist ..)) (fun x hx => hok x (List.mem_of_mem_drop hx))]
theorem frk_ge {l : List Itm} (hok : ∀ x ∈ l, x.ok) (h0 : 0 < l.length) {d : Nat} (hd : d ≤ 256) (h : ∀ x ∈ l, ∀ i, i < d → bitL x.l i = bitL l[0].l i) : d ≤ frkI l := by
  rw [frk_eq h0]
  have hm := List.getElem_mem (show l.length - 1 < l.length by omega)
  exact (com_ge (hok _ (List.getElem_mem h0)).1 (hok _ hm).1 hd).2 (fun i hi => (h _ hm i hi).symm)
theorem all_lo {l : List Itm} {d : Nat} (h : ∀ x ∈ l, bitL x.l d = 0) : lo d l = l ∧ hi d l = [] :=
  ⟨List.filter_eq_self.2 (fun x hx => by rw [h x hx]; rfl), List.filter_eq_nil_iff.2 (fun x hx => by rw [h x hx]; decide)⟩
theorem all_hi {l : List Itm} {d : Nat} (h : ∀ x ∈ l, bitL x.l d = 1) : hi d l = l ∧ lo d l = [] :=
  ⟨List.filter_eq_self.2 (fun x hx => by rw [h x hx]; rfl), List.filter_eq_nil_iff.2 (fun x hx => by rw [h x hx]; decide)⟩
theorem trJ_join : ∀ (f d : Nat) (l : List Itm) (h0 : 0 < l.length), d + f = 256 → RiseI l → (∀ x ∈ l, x.ok) → (∀ x ∈ l, ∀ i, i < d → bitL x.l i = bitL l[0].l i) → trJ f d l = joinF l.length l
  | 0, d, l, h0, hd, hr, hok, hb => by
    have hf := frk_ge hok h0 (d := d) (by omega) hb
    have h1 : l.length ≤ 1 := by
      rcases Nat.lt_or_ge 1 l.length with h | h
      · have := (spl_ok hr hok (by omega)).1; omega
      · exact h
    obtain ⟨k, hk⟩ : ∃ k, l.length = k + 1 := ⟨l.length - 1, by omega⟩
    unfold trJ
    rw [if_pos h1, hk]
    unfold joinF
    rw [if_pos (by omega)]
  | f + 1, d, l, h0, hd, hr, hok, hb => by
    obtain ⟨k, hk⟩ : ∃ k, l.length = k + 1 := ⟨l.length - 1, by omega⟩
    by_cases h1 : l.length ≤ 1
    · unfold trJ
      rw [if_pos h1, hk]
      unfold joinF
      rw [if_pos (by omega)]
    have hf := frk_ge hok h0 (d := d) (by omega) hb
    rcases Nat.eq_or_lt_of_le hf with he | hlt
    · obtain ⟨f1, f2⟩ := filt_lo hr hok (by omega)
      obtain ⟨c1, c2, c3, _⟩ := spl_ok hr hok (by omega)
      have hA : lo d l = l.take (splI l) := by unfold lo; rw [he]; exact f1
      have hB : hi d l = l.drop (splI l) := by unfold hi; rw [he]; exact f2
      have k1 : ∀ x ∈ l.take (splI l), x.ok := fun x hx => hok x (List.mem_of_mem_take hx)
      have k2 : ∀ x ∈ l.drop (splI l), x.ok := fun x hx => hok x (List.mem_of_mem_drop hx)
      have r1 : RiseI (l.take (splI l)) := hr.sublist (List.take_sublist ..)
      have r2 : RiseI (l.drop (splI l)) := hr.sublist (List.drop_sublist ..)
      have n1 := take_ne c2 c3
      have n2 := drop_ne c3
      have p1 : 0 < (l.take (splI l)).length := List.length_pos_iff.2 n1
      have p2 : 0 < (l.drop (splI l)).length := List.length_pos_iff.2 n2
      have bA : ∀ x ∈ l.take (splI l), bitL x.l d = 0 := fun x hx => by
        rw [← hA] at hx
        exact beq_iff_eq.1 (List.mem_filter.1 hx).2
      have bB : ∀ x ∈ l.drop (splI l), bitL x.l d = 1 := fun x hx => by
        rw [← hB] at hx
        have h2 := (List.mem_filter.1 hx).2
        rcases bitL_or x.l d with h3 | h3
        · rw [h3] at h2; exact absurd h2 (by decide)
        · exact h3
      have hbA : ∀ x ∈ l.take (splI l), ∀ i, i < d + 1 → bitL x.l i = bitL (l.take (splI l))[0].l i := fun x hx i hi => by
        rcases Nat.lt_or_ge i d with h3 | h3
        · rw [hb x (List.mem_of_mem_take hx) i h3, hb _ (List.mem_of_mem_take (List.getElem_mem p1)) i h3]
        · have : i = d := by omega
          subst this
          rw [bA x hx, bA _ (List.getElem_mem p1)]
      have hbB : ∀ x ∈ l.drop (splI l), ∀ i, i < d + 1 → bitL x.l i = bitL (l.drop (splI l))[0].l i := fun x hx i hi => by
        rcases Nat.lt_or_ge i d with h3 | h3
        · rw [hb x (List.mem_of_mem_drop hx) i h3, hb _ (List.mem_of_mem_drop (List.getElem_mem p2)) i h3]
        · have : i = d := by omega
          subst this
          rw [bB x hx, bB _ (List.getElem_mem p2)]
      unfold trJ
      rw [if_neg h1, hA, hB, if_neg n1, if_neg n2, trJ_join f (d + 1) _ p1 (by omega) r1 k1 hbA, trJ_join f (d + 1) _ p2 (by omega) r2 k2 hbB]
      have hj : joinF l.length l = innI (joinF k (l.take (splI l))) (joinF k (l.drop (splI l))) := by
        rw [hk]
        show (if l.length = 1 then _ else _) = _
        rw [if_neg (by omega)]
      rw [hj, joinF_fuel k _ _ n1 (by rw [List.length_take]; omega) (Nat.le_refl _) r1 k1, joinF_fuel k _ _ n2 (by rw [List.length_drop]; omega) (Nat.le_refl _) r2 k2]
    · have hsame : ∀ x ∈ l, bitL x.l d = bitL l[0].l d := fun x hx => by
        obtain ⟨j, hj, rfl⟩ := List.getElem_of_mem hx
        exact rise_bits hr hok h0 j hj d hlt
      have hb2 : ∀ x ∈ l, ∀ i, i < d + 1 → bitL x.l i = bitL l[0].l i := fun x hx i hi => by
        rcases Nat.lt_or_ge i d with h3 | h3
        · exact hb x hx i h3
        · have : i = d := by omega
          subst this; exact hsame x hx
      have ih := trJ_join f (d + 1) l h0 (by omega) hr hok hb2
      have hne : l ≠ [] := List.length_pos_iff.1 h0
      unfold trJ
      rw [if_neg h1]
      rcases bitL_or l[0].l d with h3 | h3
      · obtain ⟨e1, e2⟩ := all_lo (d := d) (fun x hx => by rw [hsame x hx, h3])
        rw [e1, if_neg hne, if_pos e2]; exact ih
      · obtain ⟨e1, e2⟩ := all_hi (d := d) (fun x hx => by rw [hsame x hx, h3])
        rw [if_pos e2]; exact ih
theorem app_ne {α : Type} {B X : List α} (h : B ≠ []) : B ++ X ≠ [] := fun e => h (List.append_eq_nil_iff.1 e).1
/-- A part in the place of what is below it. -/
theorem trJ_coll : ∀ (f d : Nat) (p : Itm) (B X : List Itm), d + f = 256 → p.n ≤ 256 → B ≠ [] → (∀ b ∈ B, ∀ i : Nat, (i : Int) < p.n → bitL b.l i = bitL p.l i) → (∀ f' d' : Nat, d' + f' = 256 → (d' : Int) ≤ p.n → trJ f' d' B = p) → (∀ x ∈ X, ∃ i : Nat, (i : Int) < p.n ∧ bitL x.l i ≠ bitL p.l i) → (∀ x ∈ X, ∀ i, i < d → bitL x.l i = bitL p.l i) → (d : Int) ≤ p.n → trJ f d (p :: X) = trJ f d (B ++ X)
  | f, d, p, B, [], hd, _, _, _, hB, _, _, hdn => by
    rw [List.append_nil, hB f d hd hdn]
    cases f <;> (unfold trJ; rw [if_pos (by simp)]; rfl)
  | 0, d, p, B, x :: X, hd, hp, _, _, _, hX, hag, _ => by
    obtain ⟨i, hi, hne⟩ := hX x (List.mem_cons_self ..)
    exact absurd (hag x (List.mem_cons_self ..) i (by omega)) hne
  | f + 1, d, p, B, x :: X, hd, hp, hBn, hBa, hB, hX, hag, hdn => by
    have hdp : (d : Int) < p.n := by
      obtain ⟨i, hi, hne⟩ := hX x (List.mem_cons_self ..)
      rcases Nat.lt_or_ge i d with h | h
      · exact absurd (hag x (List.mem_cons_self ..) i h) hne
      · omega
    generalize hY : x :: X = Y at *
    have hYn : Y ≠ [] := by rw [← hY]; exact List.cons_ne_nil _ _
    have hYl : 0 < Y.length := List.length_pos_iff.2 hYn
    have hBl : 0 < B.length := List.length_pos_iff.2 hBn
    have ext : ∀ Z : List Itm, (∀ z ∈ Z, z ∈ Y) → (∀ z ∈ Z, bitL z.l d = bitL p.l d) → trJ f (d + 1) (p :: Z) = trJ f (d + 1) (B ++ Z) := fun Z hZ hZb =>
      trJ_coll f (d + 1) p B Z (by omega) hp hBn hBa hB (fun z hz => hX z (hZ z hz)) (fun z hz i hi => by
        rcases Nat.lt_or_ge i d with h3 | h3
        · exact hag z (hZ z hz) i h3
        · have : i = d := by omega
          subst this; exact hZb z hz) (by omega)
    have l1 : ¬ (p :: Y).length ≤ 1 := by rw [List.length_cons]; omega
    have l2 : ¬ (B ++ Y).length ≤ 1 := by rw [List.length_append]; omega
    have hlY : ∀ z ∈ lo d Y, z ∈ Y ∧ bitL z.l d = 0 := fun z hz => ⟨(List.mem_filter.1 hz).1, beq_iff_eq.1 (List.mem_filter.1 hz).2⟩
    have hhY : ∀ z ∈ hi d Y, z ∈ Y ∧ bitL z.l d = 1 := fun z hz => ⟨(List.mem_filter.1 hz).1, by
      have h2 := (List.mem_filter.1 hz).2
      rcases bitL_or z.l d with h3 | h3
      · rw [h3] at h2; exact absurd h2 (by decide)
      · exact h3⟩
    have e1 : trJ (f + 1) d (p :: Y) = if lo d (p :: Y) = [] then trJ f (d + 1) (p :: Y) else if hi d (p :: Y) = [] then trJ f (d + 1) (p :: Y) else innI (trJ f (d + 1) (lo d (p :: Y))) (trJ f (d + 1) (hi d (p :: Y))) := if_neg l1
    have e2 : trJ (f + 1) d (B ++ Y) = if lo d (B ++ Y) = [] then trJ f (d + 1) (B ++ Y) else if hi d (B ++ Y) = [] then trJ f (d + 1) (B ++ Y) else innI (trJ f (d + 1) (lo d (B ++ Y))) (trJ f (d + 1) (hi d (B ++ Y))) := if_neg l2
    have a1 : lo d (B ++ Y) = lo d B ++ lo d Y := List.filter_append ..
    have a2 : hi d (B ++ Y) = hi d B ++ hi d Y := List.filter_append ..
    rw [e1, e2, a1, a2]
    rcases bitL_or p.l d with h3 | h3
    · obtain ⟨b1, b2⟩ := all_lo (l := B) (d := d) (fun b hb => by rw [hBa b hb d hdp, h3])
      have c1 : lo d (p :: Y) = p :: lo d Y := List.filter_cons_of_pos (by rw [h3]; rfl)
      have c2 : hi d (p :: Y) = hi d Y := List.filter_cons_of_neg (by rw [h3]; decide)
      rw [b1, b2, c1, c2, List.nil_append, if_neg (List.cons_ne_nil _ _), if_neg (app_ne hBn)]
      by_cases hn : hi d Y = []
      · rw [if_pos hn, if_pos hn]
        refine ext Y (fun z hz => hz) (fun z hz => ?_)
        rcases bitL_or z.l d with h4 | h4
        · rw [h4, h3]
        · have : z ∈ hi d Y := List.mem_filter.2 ⟨hz, by rw [h4]; rfl⟩
          rw [hn] at this; cases this
      · rw [if_neg hn, if_neg hn, ext (lo d Y) (fun z hz => (hlY z hz).1) (fun z hz => by rw [(hlY z hz).2, h3])]
    · obtain ⟨b1, b2⟩ := all_hi (l := B) (d := d) (fun b hb => by rw [hBa b hb d hdp, h3])
      have c1 : hi d (p :: Y) = p :: hi d Y := List.filter_cons_of_pos (by rw [h3]; rfl)
      have c2 : lo d (p :: Y) = lo d Y := List.filter_cons_of_neg (by rw [h3]; decide)
      rw [b1, b2, c1, c2, List.nil_append, if_neg (List.cons_ne_nil _ _), if_neg (app_ne hBn)]
      by_cases hn : lo d Y = []
      · rw [if_pos hn, if_pos hn]
        refine ext Y (fun z hz => hz) (fun z hz => ?_)
        rcases bitL_or z.l d with h4 | h4
        · have : z ∈ lo d Y := List.mem_filter.2 ⟨hz, by rw [h4]; rfl⟩
          rw [hn] at this; cases this
        · rw [h4, h3]
      · rw [if_neg hn, if_neg hn, ext (hi d Y) (fun z hz => (hhY z hz).1) (fun z hz => by rw [(hhY z hz).2, h3])]
end Go.Proofs.YtcmgpkibjdbonaaGreat
set_option maxHeartbeats 4000000
namespace Go.Proofs.YtcmgpkibjdbonaaGreat
open Go Go.RowKit
theorem insS_perm {α : Type} {lt : α → α → Bool} (x : α) : ∀ l : List α, (insS lt x l).Perm (x :: l)
  | [] => List.Perm.refl _
  | y :: r => by
    unfold insS
    split
    · exact List.Perm.refl _
    · exact ((insS_perm x r).cons y).trans (List.Perm.swap x y r)
theorem sortS_perm {α : Type} {lt : α → α → Bool} (l : List α) : (sortS lt l).Perm l := by
  have h : ∀ (l a : List α), (l.foldl (fun a x => insS lt x a) a).Perm (a ++ l) := by
    intro l
    induction l with
    | nil => intro a; rw [List.append_nil]; exact List.Perm.refl _
    | cons x r ih =>
      intro a
      rw [List.foldl_cons]
      refine (ih _).trans ?_
      refine ((insS_perm x a).append_right r).trans ?_
      exact List.perm_middle.symm
  exact h l []
theorem srtI_perm (l : List Itm) : (srtI l).Perm l := sortS_perm l
theorem srtL_perm (l : List Lef) : (srtL l).Perm l := sortS_perm l
/-- Neither is over the other. -/
def Anti (a b : Itm) : Prop := ((comL a.l b.l : Nat) : Int) < a.n ∧ ((comL a.l b.l : Nat) : Int) < b.n
theorem Anti.symm {a b : Itm} (h : Anti a b) : Anti b a := by
  unfold Anti at h ⊢
  rw [com_comm]; exact ⟨h.2, h.1⟩
theorem good_n {x : Itm} (h : goodI x = true) : 0 ≤ x.n ∧ x.n ≤ 256 := by
  unfold goodI at h
  simp only [Bool.and_eq_true] at h
  obtain ⟨a, b, _⟩ := good_parts h.1
  exact ⟨a, b⟩
theorem anti_bad {a x : Itm} (h : Anti a x) (hc : cmpS a.l x.l < 0) : badI a x = false := by
  unfold badI overP hasP
  have e1 : decide (a.p.n ≤ (comL a.p.l x.p.l : Nat)) = false := decide_eq_false (by have := h.1; show ¬ a.n ≤ _; show ¬ a.n ≤ ((comL a.l x.l : Nat) : Int); omega)
  have e2 : decide (x.p.n ≤ (comL x.p.l a.p.l : Nat)) = false := decide_eq_false (by have := h.symm.1; show ¬ x.n ≤ ((comL x.l a.l : Nat) : Int); omega)
  rw [e1, e2, decide_eq_false (show ¬ (0 ≤ cmpS a.l x.l) by omega)]
  simp
theorem chkL_zero : ∀ (l : List Itm) (a : Itm), (∀ x ∈ l, goodI x = true) → (a :: l).Pairwise Anti → RiseI (a :: l) → chkL (some a) l = 0
  | [], _, _, _, _ => rfl
  | x :: r, a, hg, ha, hr => by
    show (if goodI x = true then (if badI a x = true then 3 else chkL (some x) r) else 1) = 0
    rw [if_pos (hg x (List.mem_cons_self ..)), if_neg (by rw [anti_bad ((List.pairwise_cons.1 ha).1 x (List.mem_cons_self ..)) ((List.pairwise_cons.1 hr).1 x (List.mem_cons_self ..))]; decide)]
    exact chkL_zero r x (fun y hy => hg y (List.mem_cons_of_mem _ hy)) (List.pairwise_cons.1 ha).2 (List.pairwise_cons.1 hr).2
theorem chkI_zero {l : List Itm} (hl : l.length ≤ 2000) (hg : ∀ x ∈ l, goodI x = true) (ha : l.Pairwise Anti) (hr : RiseI l) : chkI l = 0 := by
  unfold chkI
  rw [if_neg (by omega)]
  cases l with
  | nil => rfl
  | cons x r =>
    show (if goodI x = true then chkL (some x) r else 1) = 0
    rw [if_pos (hg x (List.mem_cons_self ..))]
    exact chkL_zero r x (fun y hy => hg y (List.mem_cons_of_mem _ hy)) ha hr
theorem anti_rise {l : List Itm} (hg : ∀ x ∈ l, goodI x = true) (hok : ∀ x ∈ l, x.ok) (ha : l.Pairwise Anti) : RiseI (srtI l) ∧ (srtI l).Pairwise Anti := by
  have h1 : (srtI l).Pairwise Anti := (List.Perm.pairwise_iff (fun h => Anti.symm h) (srtI_perm l)).2 ha
  refine ⟨?_, h1⟩
  have h2 : Srt (ltCI ordI) (srtI l) := sortS_srt woI l
  have h3 := h1.and h2
  refine List.Pairwise.imp_of_mem (fun {x y} hx hy h => ?_) h3
  obtain ⟨ha, hs⟩ := h
  have hs : decide (cmpS y.l x.l < 0) = false := hs
  have hs := of_decide_eq_false hs
  rcases less_tri x.l y.l with k | k | k
  · exact cmpS_neg.2 k
  · exfalso
    have hn := (good_n (hg x (srtI_mem.1 hx))).2
    have ho := (hok x (srtI_mem.1 hx)).1
    have h1 := ha.1
    rw [← k, com_self, ho] at h1
    omega
  · exact absurd (cmpS_neg.2 k) hs
theorem chk_anti {l : List Itm} (hl : l.length ≤ 2000) (hg : ∀ x ∈ l, goodI x = true) (hok : ∀ x ∈ l, x.ok) (ha : l.Pairwise Anti) : chkI (srtI l) = 0 := by
  obtain ⟨h1, h2⟩ := anti_rise hg hok ha
  exact chkI_zero (by rw [srtI_len]; exact hl) (fun x hx => hg x (srtI_mem.1 hx)) h2 h1
theorem top_trJ {l : List Itm} (hok : ∀ x ∈ l, x.ok) (hc : chkI (srtI l) = 0) : topS (srtI l) = if l = [] then shaN [18] else (trJ 256 0 l).s := by
  unfold topS
  rw [if_neg (fun h => h hc)]
  have hp := srtI_perm l
  by_cases hn : l = []
  · rw [if_pos hn, if_pos ((perm_nil_iff hp).2 hn)]
  · have hn2 : srtI l ≠ [] := fun h => hn ((perm_nil_iff hp).1 h)
    rw [if_neg hn, if_neg hn2, ← trJ_perm 256 0 _ _ hp, trJ_join 256 0 (srtI l) (List.length_pos_iff.2 hn2) rfl (chkI_rise hc).2.1 (fun x hx => hok x (srtI_mem.1 hx)) (fun x _ i hi => absurd hi (Nat.not_lt_zero _))]
def openB : Nat → List (List UInt8) → List Lef → List (Itm × List Lef)
  | 0, _, _ => []
  | k + 1, ls, l => if l = [] then [] else if ls.any (hasP (joinF l.length (l.map leafI)).p) = false then [(joinF l.length (l.map leafI), l)] else if l.length = 1 then []
    else openB k ls (l.take (splI (l.map leafI))) ++ openB k ls (l.drop (splI (l.map leafI)))
theorem openB_fst : ∀ (k : Nat) (ls : List (List UInt8)) (l : List Lef), (openB k ls l).map (·.1) = (openF k ls l).1
  | 0, _, _ => rfl
  | k + 1, ls, l => by
    unfold openB openF
    by_cases hn : l = []
    · rw [if_pos hn, if_pos hn]; rfl
    rw [if_neg hn, if_neg hn]
    by_cases hh : ls.any (hasP (joinF l.length (l.map leafI)).p) = false
    · rw [if_pos hh, if_pos hh]; rfl
    rw [if_neg hh, if_neg hh]
    by_cases h1 : l.length = 1
    · rw [if_pos h1, if_pos h1]; rfl
    rw [if_neg h1, if_neg h1, List.map_append, openB_fst k ls _, openB_fst k ls _]
structure BlkL (ls : List (List UInt8)) (l : List Lef) (q : Itm × List Lef) : Prop where
  ne : q.2 ≠ []
  sub : ∀ y ∈ q.2, y ∈ l
  rise : RiseI (q.2.map leafI)
  eq : q.1 = joinF q.2.length (q.2.map leafI)
  out : ∀ x ∈ ls, ((comL q.1.l x : Nat) : Int) < q.1.n
def SepB (a b : Itm × List Lef) : Prop := ((comL a.1.l b.1.l : Nat) : Int) < a.1.n ∧ ((comL a.1.l b.1.l : Nat) : Int) < b.1.n ∧ (∀ y ∈ b.2, ((comL a.1.l y.l : Nat) : Int) < a.1.n) ∧ (∀ y ∈ a.2, ((comL b.1.l y.l : Nat) : Int) < b.1.n) ∧ cmpS a.1.l b.1.l < 0
structure JoinB (p : Itm) (B : List Itm) : Prop where
  ge : 0 ≤ p.n
  le : p.n ≤ 256
  ok : p.ok
  agree : ∀ b ∈ B, ∀ i : Nat, (i : Int) < p.n → bitL b.l i = bitL p.l i
  good : (∀ b ∈ B, goodI b = true) → goodP p.p = true
  tr : ∀ f' d' : Nat, d' + f' = 256 → (d' : Int) ≤ p.n → trJ f' d' B = p
theorem join_B {B : List Itm} (h0 : 0 < B.length) (hr : RiseI B) (hok : ∀ x ∈ B, x.ok) (h256 : ∀ x ∈ B, 0 ≤ x.n ∧ x.n ≤ 256) : JoinB (joinF B.length B) B := by
  have hjo := joinF_ok B.length B (List.length_pos_iff.1 h0) (Nat.le_refl _) hr hok
  obtain ⟨a, b⟩ := join_pfx B.length B h0 (Nat.le_refl _) hr hok
  have hle : (joinF B.length B).n ≤ 256 := by
    by_cases h1 : B.length = 1
    · rw [a h1]; exact (h256 _ (List.getElem_mem h0)).2
    · rw [(b (by omega)).1]; have := (spl_ok hr hok (by omega)).1; omega
  have hge : 0 ≤ (joinF B.length B).n := by
    by_cases h1 : B.length = 1
    · rw [a h1]; exact (h256 _ (List.getElem_mem h0)).1
    · rw [(b (by omega)).1]; omega
  have hag : ∀ x ∈ B, ∀ i : Nat, (i : Int) < (joinF B.length B).n → bitL x.l i = bitL (joinF B.length B).l i := fun x hx i hi => by
    obtain ⟨j, hj, rfl⟩ := List.getElem_of_mem hx
    by_cases h1 : B.length = 1
    · rw [a h1]
      have : j = 0 := by omega
      subst this; rfl
    · obtain ⟨b1, b2⟩ := b (by omega)
      have hf := (spl_ok hr hok (by omega)).1
      rw [b1] at hi
      rw [b2, cut_bit _ (hok _ (List.getElem_mem h0)).1 _ _ (by omega), if_pos (by omega)]
      exact rise_bits hr hok h0 j hj i (by omega)
  refine ⟨hge, hle, hjo, hag, fun hg => join_good h0 hr hok hg, fun f d hd hdn => ?_⟩
  refine trJ_join f d B h0 hd hr hok (fun x hx i hi => ?_)
  rw [hag x hx i (by omega), hag _ (List.getElem_mem h0) i (by omega)]
theorem com_le_ne {a b : List UInt8} (ha : a.length = 32) (hb : b.length = 32) {n : Nat} (h : bitL a n ≠ bitL b n) : comL a b ≤ n := by
  rcases Nat.lt_or_ge n (comL a b) with h1 | h1
  · exact absurd ((com_bits a b (by omega)).2.1 n h1) h
  · exact h1
theorem blk_join {ls : List (List UInt8)} {l : List Lef} {q : Itm × List Lef} (h : BlkL ls l q) (hok : ∀ x ∈ l, x.ok) : JoinB q.1 (q.2.map leafI) := by
  have h0 : 0 < (q.2.map leafI).length := by rw [List.length_map]; exact List.length_pos_iff.2 h.ne
  have := join_B h0 h.rise (fun x hx => by
    obtain ⟨y, hy, rfl⟩ := List.mem_map.1 hx
    exact leafI_ok y (hok y (h.sub y hy))) (fun x hx => by
    obtain ⟨y, hy, rfl⟩ := List.mem_map.1 hx
    exact (show (0 : Int) ≤ 256 ∧ (256 : Int) ≤ 256 from ⟨by decide, by decide⟩))
  rw [List.length_map] at this
  rw [h.eq]; exact this
/-- Of a block all of whose leaves have some bits in common, one further. -/
theorem blk_deep {ls : List (List UInt8)} {l : List Lef} {q : Itm × List Lef} (h : BlkL ls l q) (hok : ∀ x ∈ l, x.ok) {n : Nat} (hn : n < 256) (hb : ∀ x ∈ l, ∀ y ∈ l, ∀ i, i ≤ n → bitL x.l i = bitL y.l i) : ((n : Nat) : Int) < q.1.n ∧ ∀ y ∈ l, bitL q.1.l n = bitL y.l n := by
  have h0 : 0 < (q.2.map leafI).length := by rw [List.length_map]; exact List.length_pos_iff.2 h.ne
  have hokB : ∀ x ∈ q.2.map leafI, x.ok := fun x hx => by
    obtain ⟨y, hy, rfl⟩ := List.mem_map.1 hx
    exact leafI_ok y (hok y (h.sub y hy))
  have hlt : ((n : Nat) : Int) < q.1.n := by
    obtain ⟨a, b⟩ := join_pfx _ (q.2.map leafI) h0 (Nat.le_refl _) h.rise hokB
    rw [List.length_map] at a b
    rw [h.eq]
    by_cases h1 : q.2.length = 1
    · rw [a h1, List.getElem_map]; show ((n : Nat) : Int) < 256; omega
    · have h2 : 2 ≤ q.2.length := by have := List.length_pos_iff.2 h.ne; omega
      rw [(b h2).1]
      have := frk_gt hokB h0 hn (fun x hx i hi => by
        obtain ⟨y, hy, rfl⟩ := List.mem_map.1 hx
        rw [List.getElem_map]
        exact hb y (h.sub y hy) _ (h.sub _ (List.getElem_mem _)) i hi)
      omega
  refine ⟨hlt, fun y hy => ?_⟩
  obtain ⟨z, zs, hz⟩ := List.exists_cons_of_ne_nil h.ne
  have hzm : z ∈ q.2 := by rw [hz]; exact List.mem_cons_self ..
  rw [← (blk_join h hok).agree (leafI z) (List.mem_map_of_mem hzm) n hlt]
  exact hb z (h.sub z hzm) y hy n (Nat.le_refl _)
theorem BlkL.up {ls : List (List UInt8)} {l l' : List Lef} {q : Itm × List Lef} (h : BlkL ls l q) (hs : ∀ x ∈ l, x ∈ l') : BlkL ls l' q := ⟨h.ne, fun y hy => hs y (h.sub y hy), h.rise, h.eq, h.out⟩
theorem cov_all (ls : List (List UInt8)) (hls : ∀ x ∈ ls, x.length = 32) : ∀ (k : Nat) (l : List Lef), l.length ≤ k → RiseI (l.map leafI) → (∀ x ∈ l, x.ok) → (∀ x ∈ l, goodI (leafI x) = true) →
    (∀ q ∈ openB k ls l, BlkL ls l q) ∧ (openB k ls l).Pairwise SepB ∧ (openB k ls l).flatMap (·.2) = l.filter (fun x => !(ls.contains x.l)) ∧ (openF k ls l).2 = l.filter (fun x => ls.contains x.l) := by
  intro k
  induction k with
  | zero =>
    intro l hk _ _ _
    have hn : l = [] := List.length_eq_zero_iff.1 (by omega)
    subst hn
    exact ⟨fun q hq => (by cases hq), List.Pairwise.nil, rfl, rfl⟩
  | succ k ih =>
    intro l hk hr hok hg
    unfold openB openF
    by_cases hn : l = []
    · subst hn
      rw [if_pos rfl, if_pos rfl]
      exact ⟨fun q hq => (by cases hq), List.Pairwise.nil, rfl, rfl⟩
    rw [if_neg hn, if_neg hn]
    have hp : 0 < l.length := List.length_pos_iff.2 hn
    have hml : (l.map leafI).length = l.length := List.length_map ..
    have hok2 : ∀ x ∈ l.map leafI, x.ok := fun x hx => by
      obtain ⟨y, hy, rfl⟩ := List.mem_map.1 hx
      exact leafI_ok y (hok y hy)
    have hg2 : ∀ x ∈ l.map leafI, goodI x = true := fun x hx => by
      obtain ⟨y, hy, rfl⟩ := List.mem_map.1 hx
      exact hg y hy
    by_cases hh : ls.any (hasP (joinF l.length (l.map leafI)).p) = false
    · rw [if_pos hh, if_pos hh]
      have hj := join_B (B := l.map leafI) (by omega) hr hok2 (fun x hx => by
        obtain ⟨y, hy, rfl⟩ := List.mem_map.1 hx
        exact (show (0 : Int) ≤ 256 ∧ (256 : Int) ≤ 256 from ⟨by decide, by decide⟩))
      rw [hml] at hj
      have hgp := hj.good hg2
      have hout : ∀ x ∈ ls, ((comL (joinF l.length (l.map leafI)).l x : Nat) : Int) < (joinF l.length (l.map leafI)).n := fun x hx => by
        have h1 := List.any_eq_false.1 hh x hx
        unfold hasP at h1
        rw [hgp, Bool.true_and] at h1
        have h1 : ¬ ((joinF l.length (l.map leafI)).n ≤ ((comL (joinF l.length (l.map leafI)).l x : Nat) : Int)) := fun h => h1 (decide_eq_true h)
        omega
      have hno : ∀ y ∈ l, ls.contains y.l = false := fun y hy => by
        rcases hb : ls.contains y.l with _ | _
        · rfl
        · have hm : y.l ∈ ls := List.contains_iff_mem.1 hb
          have h1 := hout _ hm
          have h2 := (com_ge hj.ok.1 (hok y hy).1 (n := (joinF l.length (l.map leafI)).n.toNat) (by have := hj.le; omega)).2 (fun i hi => (hj.agree (leafI y) (List.mem_map_of_mem hy) i (by omega)).symm)
          omega
      refine ⟨fun q hq => ?_, List.pairwise_singleton _ _, ?_, ?_⟩
      · rw [List.mem_singleton.1 hq]
        exact ⟨hn, fun y hy => hy, hr, rfl, hout⟩
      · rw [List.flatMap_cons, List.flatMap_nil, List.append_nil]
        exact (List.filter_eq_self.2 (fun y hy => by rw [hno y hy]; rfl)).symm
      · exact (List.filter_eq_nil_iff.2 (fun y hy => by rw [hno y hy]; decide)).symm
    rw [if_neg hh, if_neg hh]
    by_cases h1 : l.length = 1
    · rw [if_pos h1, if_pos h1]
      obtain ⟨y, rfl⟩ := List.length_eq_one_iff.1 h1
      have hy : ls.contains y.l = true := by
        have h2 : ls.any (hasP (joinF [y].length ([y].map leafI)).p) = true := by revert hh; cases ls.any _ <;> simp
        obtain ⟨x, hx, h3⟩ := List.any_eq_true.1 h2
        have hjy : joinF [y].length ([y].map leafI) = leafI y := rfl
        rw [hjy] at h3
        unfold hasP at h3
        simp only [Bool.and_eq_true, decide_eq_true_eq] at h3
        have h4 : (256 : Int) ≤ ((comL y.l x : Nat) : Int) := h3.2
        have hyl := (hok y (List.mem_cons_self ..)).1
        have hxl := hls x hx
        have h5 := (com_bits y.l x (by omega)).2.2.2 (by have := comL_256 (b := x) hyl; omega)
        rw [h5]
        exact List.contains_iff_mem.2 hx
      refine ⟨fun q hq => (by cases hq), List.Pairwise.nil, ?_, ?_⟩
      · show [] = List.filter (fun x : Lef => !(ls.contains x.l)) [y]
        simp only [List.filter, hy, Bool.not_true]
      · show [y] = List.filter (fun x : Lef => ls.contains x.l) [y]
        simp only [List.filter, hy]
    rw [if_neg h1, if_neg h1]
    obtain ⟨c1, c2, c3, c4⟩ := spl_ok hr hok2 (by omega)
    rw [hml] at c3
    obtain ⟨a1, a2, a3, a4⟩ := ih (l.take (splI (l.map leafI))) (by rw [List.length_take]; omega) (by rw [List.map_take]; exact hr.sublist (List.take_sublist ..)) (fun x hx => hok x (List.mem_of_mem_take hx)) (fun x hx => hg x (List.mem_of_mem_take hx))
    obtain ⟨b1, b2, b3, b4⟩ := ih (l.drop (splI (l.map leafI))) (by rw [List.length_drop]; omega) (by rw [List.map_drop]; exact hr.sublist (List.drop_sublist ..)) (fun x hx => hok x (List.mem_of_mem_drop hx)) (fun x hx => hg x (List.mem_of_mem_drop hx))
    have bA : ∀ x ∈ l.take (splI (l.map leafI)), ∀ i, i < frkI (l.map leafI) → bitL x.l i = bitL (l[0]'hp).l i := fun x hx i hi => by
      obtain ⟨j, hj, he⟩ := List.getElem_of_mem (List.mem_of_mem_take hx)
      have := rise_bits hr hok2 (by omega) j (by omega) i hi
      rw [List.getElem_map, List.getElem_map, he] at this
      exact this
    have bB : ∀ x ∈ l.drop (splI (l.map leafI)), ∀ i, i < frkI (l.map leafI) → bitL x.l i = bitL (l[0]'hp).l i := fun x hx i hi => by
      obtain ⟨j, hj, he⟩ := List.getElem_of_mem (List.mem_of_mem_drop hx)
      have := rise_bits hr hok2 (by omega) j (by omega) i hi
      rw [List.getElem_map, List.getElem_map, he] at this
      exact this
    have zA : ∀ x ∈ l.take (splI (l.map leafI)), bitL x.l (frkI (l.map leafI)) = 0 := fun x hx => by
      obtain ⟨j, hj, he⟩ := List.getElem_of_mem hx
      rw [List.length_take] at hj
      rw [List.getElem_take] at he
      have := spl_lo (l := l.map leafI) j (by omega) (by omega)
      rw [List.getElem_map, he] at this
      exact this
    have zB : ∀ x ∈ l.drop (splI (l.map leafI)), bitL x.l (frkI (l.map leafI)) = 1 := fun x hx => by
      obtain ⟨j, hj, he⟩ := List.getElem_of_mem hx
      rw [List.length_drop] at hj
      rw [List.getElem_drop] at he
      have := spl_hi hr hok2 (by omega) (splI (l.map leafI) + j) (by omega) (by omega)
      rw [List.getElem_map, he] at this
      exact this
    have oA : ∀ x ∈ l.take (splI (l.map leafI)), x.ok := fun x hx => hok x (List.mem_of_mem_take hx)
    have oB : ∀ x ∈ l.drop (splI (l.map leafI)), x.ok := fun x hx => hok x (List.mem_of_mem_drop hx)
    have hsub : l.take (splI (l.map leafI)) ++ l.drop (splI (l.map leafI)) = l := List.take_append_drop ..
    refine ⟨fun q hq => ?_, List.pairwise_append.2 ⟨a2, b2, fun a ha b hb => ?_⟩, ?_, ?_⟩
    · rcases List.mem_append.1 hq with h | h
      · exact (a1 q h).up (fun x hx => List.mem_of_mem_take hx)
      · exact (b1 q h).up (fun x hx => List.mem_of_mem_drop hx)
    · have ka := a1 a ha
      have kb := b1 b hb
      obtain ⟨na, va⟩ := blk_deep ka oA c1 (fun x hx y hy i hi => by
        rcases Nat.lt_or_ge i (frkI (l.map leafI)) with h3 | h3
        · rw [bA x hx i h3, bA y hy i h3]
        · have : i = frkI (l.map leafI) := by omega
          subst this; rw [zA x hx, zA y hy])
      obtain ⟨nb, vb⟩ := blk_deep kb oB c1 (fun x hx y hy i hi => by
        rcases Nat.lt_or_ge i (frkI (l.map leafI)) with h3 | h3
        · rw [bB x hx i h3, bB y hy i h3]
        · have : i = frkI (l.map leafI) := by omega
          subst this; rw [zB x hx, zB y hy])
      obtain ⟨ya, hya⟩ := List.exists_mem_of_ne_nil _ ka.ne
      obtain ⟨yb, hyb⟩ := List.exists_mem_of_ne_nil _ kb.ne
      have ea : bitL a.1.l (frkI (l.map leafI)) = 0 := by rw [va ya (ka.sub ya hya), zA ya (ka.sub ya hya)]
      have eb : bitL b.1.l (frkI (l.map leafI)) = 1 := by rw [vb yb (kb.sub yb hyb), zB yb (kb.sub yb hyb)]
      have lA := (blk_join ka oA).ok.1
      have lB := (blk_join kb oB).ok.1
      have hab := com_le_ne lA lB (n := frkI (l.map leafI)) (by rw [ea, eb]; decide)
      have hlow : ∀ i, i < frkI (l.map leafI) → bitL a.1.l i = bitL b.1.l i := fun i hi => by
        rw [← (blk_join ka oA).agree (leafI ya) (List.mem_map_of_mem hya) i (by omega), ← (blk_join kb oB).agree (leafI yb) (List.mem_map_of_mem hyb) i (by omega)]
        show bitL ya.l i = bitL yb.l i
        rw [bA ya (ka.sub ya hya) i hi, bB yb (kb.sub yb hyb) i hi]
      have hcom := com_is lA lB c1 hlow (by rw [ea, eb]; decide)
      refine ⟨by omega, by omega, fun y hy => ?_, fun y hy => ?_, lt_cmp lA lB (by rw [hcom]; exact c1) (by rw [hcom]; exact ea)⟩
      · have := com_le_ne lA (oB y (kb.sub y hy)).1 (n := frkI (l.map leafI)) (by rw [ea, zB y (kb.sub y hy)]; decide)
        omega
      · have := com_le_ne lB (oA y (ka.sub y hy)).1 (n := frkI (l.map leafI)) (by rw [eb, zA y (ka.sub y hy)]; decide)
        omega
    · rw [List.flatMap_append, a3, b3, ← List.filter_append, hsub]
    · show (openF k ls (l.take _)).2 ++ (openF k ls (l.drop _)).2 = _
      rw [a4, b4, ← List.filter_append, hsub]
theorem trJ_blocks : ∀ (r : List (Itm × List Lef)) (X : List Itm), (∀ q ∈ r, q.2 ≠ [] ∧ JoinB q.1 (q.2.map leafI)) → r.Pairwise SepB → (∀ q ∈ r, ∀ x ∈ X, x.ok ∧ ((comL q.1.l x.l : Nat) : Int) < q.1.n) → (∀ q ∈ r, ∀ y ∈ q.2, y.ok) → trJ 256 0 (r.map (·.1) ++ X) = trJ 256 0 ((r.flatMap (·.2)).map leafI ++ X)
  | [], X, _, _, _, _ => rfl
  | q :: r, X, hj, hs, hX, hok => by
    obtain ⟨hne, hJ⟩ := hj q (List.mem_cons_self ..)
    obtain ⟨s1, s2⟩ := List.pairwise_cons.1 hs
    have hd : ∀ x : Itm, x.ok → ((comL q.1.l x.l : Nat) : Int) < q.1.n → ∃ i : Nat, (i : Int) < q.1.n ∧ bitL x.l i ≠ bitL q.1.l i := fun x hx h => by
      refine ⟨_, h, fun he => ?_⟩
      have hle := hJ.le
      exact (com_bits q.1.l x.l (by rw [hJ.ok.1, hx.1])).2.2.1 (by rw [hJ.ok.1]; omega) he.symm
    have h1 : trJ 256 0 (q.1 :: (r.map (·.1) ++ X)) = trJ 256 0 (q.2.map leafI ++ (r.map (·.1) ++ X)) := by
      refine trJ_coll 256 0 q.1 (q.2.map leafI) _ rfl hJ.le (fun h => hne (List.map_eq_nil_iff.1 h)) hJ.agree hJ.tr (fun x hx => ?_) (fun x _ i hi => absurd hi (Nat.not_lt_zero _)) ?_
      · rcases List.mem_append.1 hx with h | h
        · obtain ⟨q', hq', rfl⟩ := List.mem_map.1 h
          exact hd _ (hj q' (List.mem_cons_of_mem _ hq')).2.ok (s1 q' hq').1
        · obtain ⟨o, c⟩ := hX q (List.mem_cons_self ..) x h
          exact hd x o c
      · exact hJ.ge
    have h2 : (q.2.map leafI ++ (r.map (·.1) ++ X)).Perm (r.map (·.1) ++ (q.2.map leafI ++ X)) := by
      rw [← List.append_assoc, ← List.append_assoc]
      exact List.perm_append_comm.append_right X
    have h3 := trJ_blocks r (q.2.map leafI ++ X) (fun q' hq' => hj q' (List.mem_cons_of_mem _ hq')) s2 (fun q' hq' x hx => by
      rcases List.mem_append.1 hx with h | h
      · obtain ⟨y, hy, rfl⟩ := List.mem_map.1 h
        exact ⟨leafI_ok y (hok q (List.mem_cons_self ..) y hy), (s1 q' hq').2.2.2.1 y hy⟩
      · exact hX q' (List.mem_cons_of_mem _ hq') x h) (fun q' hq' => hok q' (List.mem_cons_of_mem _ hq'))
    have h4 : ((r.flatMap (·.2)).map leafI ++ (q.2.map leafI ++ X)).Perm (((q :: r).flatMap (·.2)).map leafI ++ X) := by
      rw [List.flatMap_cons, List.map_append, ← List.append_assoc]
      exact List.perm_append_comm.append_right X
    rw [List.map_cons, List.cons_append, h1, trJ_perm _ _ _ _ h2, h3, trJ_perm _ _ _ _ h4]
end Go.Proofs.YtcmgpkibjdbonaaGreat
