/- Tables in plain Lean: what groups that rise say of any key, of any range. No program in sight. -/
import Derived.Test.YtdpljpnnjgefoaaT6Z
import Derived.Test.YtdpljpnnjgefoaaBPZ
import Derived.Test.YtdpljpnnjgefoaaT9
set_option maxHeartbeats 4000000
set_option maxRecDepth 100000
namespace Go.Proofs.Ytdpljpnnjgefoaa
open Go Go.RowKit
def Up (l : List Etr) : Prop := l.Pairwise (fun a b => Op.bytesLess a.k b.k = true)
theorem up_cut {l : List Etr} (h : Up l) (k : List UInt8) : l.take (plc l k) = l.filter (fun x => Op.bytesLess x.k k) ∧ l.drop (plc l k) = l.filter (fun x => !Op.bytesLess x.k k) := by
  induction l with
  | nil => exact ⟨rfl, rfl⟩
  | cons x l ih =>
    obtain ⟨h1, h2⟩ := List.pairwise_cons.1 h
    obtain ⟨i1, i2⟩ := ih h2
    have hp : plc (x :: l) k = plc l k + if Op.bytesLess x.k k = true then 1 else 0 := List.countP_cons
    rw [hp]
    cases hx : Op.bytesLess x.k k
    · have h0 : ∀ y ∈ l, Op.bytesLess y.k k = false := fun y hy => by
        cases hy2 : Op.bytesLess y.k k
        · rfl
        · rw [less_trans (h1 y hy) hy2] at hx; exact absurd hx (by decide)
      have h00 : plc l k = 0 := by
        unfold plc; rw [List.countP_eq_zero]
        intro y hy hyk; rw [h0 y hy] at hyk; exact absurd hyk (by decide)
      rw [if_neg (by decide), h00, Nat.add_zero, List.take_zero, List.drop_zero, List.filter_cons_of_neg (by rw [hx]; decide), List.filter_cons_of_pos (by rw [hx]; rfl)]
      rw [h00] at i1 i2
      rw [← i1, ← i2]; exact ⟨rfl, rfl⟩
    · rw [if_pos rfl, List.take_succ_cons, List.drop_succ_cons, i1, i2, List.filter_cons_of_pos (by exact hx), List.filter_cons_of_neg (by rw [hx]; decide)]
      exact ⟨rfl, rfl⟩
theorem up_first {l : List Etr} (h : Up l) (hl : 0 < l.length) : ∀ x ∈ l, Op.bytesLess x.k (hdK l) = false := by
  intro x hx
  obtain ⟨i, hi, rfl⟩ := List.mem_iff_getElem.1 hx
  rw [hdK_eq hl]
  rcases Nat.lt_or_eq_of_le (Nat.zero_le i) with h1 | h1
  · exact less_asymm (rise_lt h 0 i hl hi h1)
  · subst h1; exact less_irr _
theorem up_last {l : List Etr} (h : Up l) (hl : 0 < l.length) : ∀ x ∈ l, Op.bytesLess (lsK l) x.k = false := by
  intro x hx
  obtain ⟨i, hi, rfl⟩ := List.mem_iff_getElem.1 hx
  have h2 : l.length - 1 < l.length := by omega
  rw [lsK_eq h2]
  rcases Nat.lt_or_ge i (l.length - 1) with h1 | h1
  · exact less_asymm (rise_lt h i _ hi h2 h1)
  · have : i = l.length - 1 := by omega
    subst this; exact less_irr _
/-- Not above and above: below. -/
theorem le_less {a b c : List UInt8} (h : Op.bytesLess b a = false) (k : Op.bytesLess b c = true) : Op.bytesLess a c = true := by
  rcases less_tri a b with h1 | rfl | h1
  · exact less_trans h1 k
  · exact k
  · rw [h] at h1; exact absurd h1 (by decide)
theorem less_le {a b c : List UInt8} (h : Op.bytesLess a b = true) (k : Op.bytesLess c b = false) : Op.bytesLess a c = true := less_ge h k
/-- What comes to what in a chain of groups. -/
def Chn : List UInt8 → List (List Etr) → Prop
  | _, [] => True
  | a, g :: r => Op.bytesLess a (hdK g) = true ∧ Chn (lsK g) r
theorem chn_up : ∀ (G : List (List Etr)) (a : List UInt8), (∀ g ∈ G, 0 < g.length ∧ Up g) → Chn a G → Up G.flatten ∧ ∀ x ∈ G.flatten, Op.bytesLess a x.k = true
  | [], _, _, _ => ⟨.nil, fun x hx => by cases hx⟩
  | g :: r, a, hg, hc => by
    obtain ⟨c1, c2⟩ := hc
    obtain ⟨g1, g2⟩ := hg g (List.mem_cons_self ..)
    obtain ⟨i1, i2⟩ := chn_up r (lsK g) (fun h hh => hg h (List.mem_cons_of_mem _ hh)) c2
    rw [List.flatten_cons]
    have hlt : ∀ x ∈ g, ∀ y ∈ r.flatten, Op.bytesLess x.k y.k = true := fun x hx y hy => le_less (up_last g2 g1 x hx) (i2 y hy)
    refine ⟨List.pairwise_append.2 ⟨g2, i1, hlt⟩, fun x hx => ?_⟩
    rcases List.mem_append.1 hx with hx | hx
    · exact less_le c1 (up_first g2 g1 x hx)
    · have hm : g[0] ∈ g := List.getElem_mem g1
      exact less_trans (less_le c1 (up_first g2 g1 _ hm)) (hlt _ hm x hx)
def look (l : List Etr) (k : List UInt8) : Option Etr := l.find? (fun x => x.k == k)
theorem look_none {l : List Etr} {k : List UInt8} (h : ∀ x ∈ l, x.k ≠ k) : look l k = none := List.find?_eq_none.2 (fun x hx hk => h x hx (eq_of_beq hk))
theorem look_at {l : List Etr} (h : Up l) (i : Nat) (hi : i < l.length) : look l l[i].k = some l[i] := by
  cases hf : look l l[i].k with
  | none => exact absurd (List.find?_eq_none.1 hf l[i] (List.getElem_mem hi)) (by simp)
  | some y =>
    have hy := List.mem_of_find?_eq_some hf
    have hk : y.k = l[i].k := eq_of_beq (List.find?_some (p := fun x : Etr => x.k == l[i].k) hf)
    obtain ⟨j, hj, rfl⟩ := List.mem_iff_getElem.1 hy
    rcases Nat.lt_trichotomy i j with h1 | h1 | h1
    · have := rise_lt h i j hi hj h1
      rw [hk, less_irr] at this; exact absurd this (by decide)
    · subst h1; rfl
    · have := rise_lt h j i hj hi h1
      rw [hk, less_irr] at this; exact absurd this (by decide)
theorem fnd_look {g : List Etr} (h : Up g) (k : List UInt8) : (fndE g k (plc g k), fndB g k (plc g k)) = ((look g k).getD zEtr, (look g k).isSome) := by
  by_cases he : ∃ i, ∃ hi : i < g.length, g[i].k = k
  · obtain ⟨i, hi, rfl⟩ := he
    rw [look_at h i hi, plc_self h i hi]
    have hE : fndE g g[i].k i = if g[i].k == g[i].k then g[i] else zEtr := by unfold fndE; rw [List.getElem?_eq_getElem hi]
    have hB : fndB g g[i].k i = (g[i].k == g[i].k) := by unfold fndB; rw [List.getElem?_eq_getElem hi]
    rw [hE, hB, if_pos (beq_self_eq_true _), beq_self_eq_true]; rfl
  · have hn : ∀ x ∈ g, x.k ≠ k := fun x hx hk => by
      obtain ⟨i, hi, rfl⟩ := List.mem_iff_getElem.1 hx
      exact he ⟨i, hi, hk⟩
    rw [look_none hn]
    by_cases hp : plc g k < g.length
    · have hne := hn _ (List.getElem_mem hp)
      have hb : (g[plc g k].k == k) = false := by
        cases hb : g[plc g k].k == k
        · rfl
        · exact absurd (eq_of_beq hb) hne
      have hE : fndE g k (plc g k) = if g[plc g k].k == k then g[plc g k] else zEtr := by unfold fndE; rw [List.getElem?_eq_getElem hp]
      have hB : fndB g k (plc g k) = (g[plc g k].k == k) := by unfold fndB; rw [List.getElem?_eq_getElem hp]
      rw [hE, hB, hb]; rfl
    · have hE : fndE g k (plc g k) = zEtr := by unfold fndE; rw [List.getElem?_eq_none (by omega)]
      have hB : fndB g k (plc g k) = false := by unfold fndB; rw [List.getElem?_eq_none (by omega)]
      rw [hE, hB]; rfl
theorem leK_iff {a b : List UInt8} : leK a b = true ↔ Op.bytesLess b a = false := by
  unfold leK
  rcases less_tri a b with h | rfl | h
  · rw [h, less_asymm h]; simp
  · rw [less_irr]; simp
  · rw [h, less_asymm h]
    constructor
    · intro h2
      have h2 : (a == b) = true := h2
      have := eq_of_beq h2
      subst this
      rw [less_irr] at h; exact absurd h (by decide)
    · intro h2; exact absurd h2 (by decide)
theorem tbGet_look : ∀ (G : List (List Etr)) (a k : List UInt8), (∀ g ∈ G, 0 < g.length ∧ Up g) → Chn a G → tbGet G k = ((look G.flatten k).getD zEtr, (look G.flatten k).isSome)
  | [], _, _, _, _ => rfl
  | g :: r, a, k, hg, hc => by
    obtain ⟨c1, c2⟩ := hc
    obtain ⟨g1, g2⟩ := hg g (List.mem_cons_self ..)
    have hr := fun h hh => hg h (List.mem_cons_of_mem g hh)
    obtain ⟨i1, i2⟩ := chn_up r (lsK g) hr c2
    have ha : look (g :: r).flatten k = (look g k).or (look r.flatten k) := by unfold look; rw [List.flatten_cons, List.find?_append]
    rw [ha]
    unfold tbGet
    cases hl : leK k (lsK g)
    · rw [if_neg (by decide), tbGet_look r (lsK g) k hr c2]
      have hn : look g k = none := look_none (fun x hx hk => by
        have h1 := up_last g2 g1 x hx
        rw [hk] at h1
        rw [leK_iff.2 h1] at hl; exact absurd hl (by decide))
      rw [hn]; rfl
    · rw [if_pos rfl, fnd_look g2 k]
      have hn : look r.flatten k = none := look_none (fun x hx hk => by
        have h1 := i2 x hx
        rw [hk, leK_iff.1 hl] at h1; exact absurd h1 (by decide))
      rw [hn, Option.or_none]
def within (f t : List UInt8) (x : Etr) : Bool := !Op.bytesLess x.k f && (decide (t.length = 0) || Op.bytesLess x.k t)
theorem filter_none {l : List Etr} {p : Etr → Bool} (h : ∀ x ∈ l, p x = false) : l.filter p = [] := List.filter_eq_nil_iff.2 (fun x hx hp => by rw [h x hx] at hp; exact absurd hp (by decide))
theorem tbRange_filter : ∀ (G : List (List Etr)) (a f t : List UInt8), (∀ g ∈ G, 0 < g.length ∧ Up g) → Chn a G → tbRange G f t = G.flatten.filter (within f t)
  | [], _, _, _, _, _ => rfl
  | g :: r, a, f, t, hg, hc => by
    obtain ⟨c1, c2⟩ := hc
    obtain ⟨g1, g2⟩ := hg g (List.mem_cons_self ..)
    have hr := fun h hh => hg h (List.mem_cons_of_mem g hh)
    obtain ⟨i1, i2⟩ := chn_up r (lsK g) hr c2
    have ih := tbRange_filter r (lsK g) f t hr c2
    rw [List.flatten_cons, List.filter_append]
    unfold tbRange
    cases hl : Op.bytesLess (lsK g) f
    · rw [if_neg (by decide), ih]
      have hd := (up_cut g2 f).2
      have hup : Up (g.drop (plc g f)) := g2.sublist (List.drop_sublist _ _)
      rw [hd] at hup ⊢
      by_cases ht : t.length = 0
      · rw [if_pos ht]
        have : g.filter (fun x => !Op.bytesLess x.k f) = g.filter (within f t) := List.filter_congr (fun x _ => by unfold within; rw [decide_eq_true ht]; simp)
        rw [this]
      · rw [if_neg ht]
        have h3 := (up_cut hup t).1
        have h4 := (up_cut hup t).2
        rw [h3, List.filter_filter]
        have h5 : g.filter (fun x => Op.bytesLess x.k t && !Op.bytesLess x.k f) = g.filter (within f t) := List.filter_congr (fun x _ => by unfold within; rw [decide_eq_false ht, Bool.false_or, Bool.and_comm])
        rw [h5]
        split
        · rename_i hp
          have hm := List.getElem_mem (l := (g.filter (fun x => !Op.bytesLess x.k f)).drop (plc (g.filter (fun x => !Op.bytesLess x.k f)) t)) (n := 0) (by rw [List.length_drop]; omega)
          generalize ((g.filter (fun x => !Op.bytesLess x.k f)).drop (plc (g.filter (fun x => !Op.bytesLess x.k f)) t))[0]'(by rw [List.length_drop]; omega) = y at hm
          rw [h4] at hm
          obtain ⟨hm1, hm2⟩ := List.mem_filter.1 hm
          have hm3 := (List.mem_filter.1 hm1).1
          have hyt : Op.bytesLess y.k t = false := by simpa using hm2
          have hn : r.flatten.filter (within f t) = [] := filter_none (fun x hx => by
            have h6 : Op.bytesLess y.k x.k = true := le_less (up_last g2 g1 y hm3) (i2 x hx)
            have h7 : Op.bytesLess x.k t = false := by
              cases h8 : Op.bytesLess x.k t
              · rfl
              · rw [less_trans h6 h8] at hyt; exact absurd hyt (by decide)
            unfold within; rw [h7, decide_eq_false ht]; simp)
          rw [hn, List.append_nil]
        · rfl
    · rw [if_pos rfl, ih]
      have hn : g.filter (within f t) = [] := filter_none (fun x hx => by
        have := le_less (up_last g2 g1 x hx) hl
        unfold within; rw [this]; rfl)
      rw [hn]; rfl
theorem filter_meet : ∀ (l : List Etr), Up l → ∀ (f m t : List UInt8), m.length ≠ 0 → Op.bytesLess m f = false → (t.length = 0 ∨ Op.bytesLess t m = false) → l.filter (within f m) ++ l.filter (within m t) = l.filter (within f t)
  | [], _, _, _, _, _, _, _ => rfl
  | x :: l, h, f, m, t, hm, hf, ht => by
    obtain ⟨h1, h2⟩ := List.pairwise_cons.1 h
    have ih := filter_meet l h2 f m t hm hf ht
    cases hxm : Op.bytesLess x.k m
    · -- from m on
      have hxf : Op.bytesLess x.k f = false := by
        cases hx : Op.bytesLess x.k f
        · rfl
        · rw [less_ge hx hf] at hxm; exact absurd hxm (by decide)
      have hn : (x :: l).filter (within f m) = [] := filter_none (fun y hy => by
        have : Op.bytesLess y.k m = false := by
          rcases List.mem_cons.1 hy with rfl | hy
          · exact hxm
          · cases hy2 : Op.bytesLess y.k m
            · rfl
            · rw [less_trans (h1 y hy) hy2] at hxm; exact absurd hxm (by decide)
        unfold within; rw [this, decide_eq_false hm]; simp)
      rw [hn, List.nil_append]
      refine List.filter_congr (fun y hy => ?_)
      have a1 : Op.bytesLess y.k m = false ∧ Op.bytesLess y.k f = false := by
        rcases List.mem_cons.1 hy with rfl | hy
        · exact ⟨hxm, hxf⟩
        · refine ⟨?_, ?_⟩
          · cases hy2 : Op.bytesLess y.k m
            · rfl
            · rw [less_trans (h1 y hy) hy2] at hxm; exact absurd hxm (by decide)
          · cases hy2 : Op.bytesLess y.k f
            · rfl
            · rw [less_trans (h1 y hy) hy2] at hxf; exact absurd hxf (by decide)
      unfold within; rw [a1.1, a1.2]
    · have hxt : (decide (t.length = 0) || Op.bytesLess x.k t) = true := by
        rcases ht with ht | ht
        · rw [decide_eq_true ht]; rfl
        · rw [less_ge hxm ht]; simp
      have e1 : within f m x = !Op.bytesLess x.k f := by unfold within; rw [hxm]; simp
      have e2 : within m t x = false := by unfold within; rw [hxm]; rfl
      have e3 : within f t x = !Op.bytesLess x.k f := by unfold within; rw [hxt]; simp
      cases hxf : Op.bytesLess x.k f
      · rw [hxf] at e1 e3
        rw [List.filter_cons_of_pos (by rw [e1]; rfl), List.filter_cons_of_neg (by rw [e2]; decide), List.filter_cons_of_pos (by rw [e3]; rfl), List.cons_append, ih]
      · rw [hxf] at e1 e3
        rw [List.filter_cons_of_neg (by rw [e1]; decide), List.filter_cons_of_neg (by rw [e2]; decide), List.filter_cons_of_neg (by rw [e3]; decide), ih]
theorem filter_all (l : List Etr) : l.filter (within [] []) = l := by
  refine List.filter_eq_self.2 (fun x _ => ?_)
  unfold within
  have : Op.bytesLess x.k [] = false := by cases x.k <;> rfl
  rw [this]; rfl
end Go.Proofs.Ytdpljpnnjgefoaa
set_option maxHeartbeats 4000000
set_option maxRecDepth 100000
namespace Go.Proofs.Ytdpljpnnjgefoaa
open Go Go.RowKit
def blkB (g : List Etr) : List UInt8 := sealWrap (textN g g.length)
def blkG (G : List (List Etr)) : List UInt8 := (G.map blkB).flatten
def prtG : List (List Etr) → Nat → List Part
  | [], _ => []
  | g :: r, o => ⟨o, lsK g⟩ :: prtG r (o + (blkB g).length)
theorem blkB_pos (g : List Etr) : 0 < (blkB g).length := by unfold blkB; rw [sealWrap_len]; omega
theorem make9_ok {g : List Etr} (h : (make9 g).2 = 0) : checkN g = 0 ∧ (textN g g.length).length ≤ 65536 ∧ (make9 g).1 = blkB g := by
  unfold make9 at h ⊢
  split at h
  · rename_i h1; exact absurd h h1
  · rename_i h1
    split at h
    · exact absurd h (by decide)
    · rename_i h2
      rw [if_neg h1, if_neg h2]
      exact ⟨Classical.byContradiction h1, by omega, rfl⟩
theorem blkG_cons (g : List Etr) (r : List (List Etr)) : blkG (g :: r) = blkB g ++ blkG r := rfl
theorem blkG_app (a b : List (List Etr)) : blkG (a ++ b) = blkG a ++ blkG b := by unfold blkG; rw [List.map_append, List.flatten_append]
theorem psB_cons (p : Part) (r : List Part) : psB (p :: r) = pB p ++ psB r := rfl
theorem tblk_inv : ∀ (G : List (List Etr)) (idx text last : List UInt8), (tblk G idx text last).2 = 0 → (tblk G idx text last).1.1 = idx ++ psB (prtG G text.length) ∧ (tblk G idx text last).1.2 = text ++ blkG G ∧ (∀ g ∈ G, checkN g = 0 ∧ (textN g g.length).length ≤ 65536) ∧ Chn last G
  | [], idx, text, last, _ => ⟨(List.append_nil _).symm, (List.append_nil _).symm, fun g hg => (by cases hg), trivial⟩
  | g :: r, idx, text, last, h => by
    unfold tblk at h ⊢
    by_cases h1 : (make9 g).2 ≠ 0
    · rw [if_pos h1] at h; exact absurd h h1
    · rw [if_neg h1] at h ⊢
      by_cases h2 : leK (hdK g) last = true
      · rw [if_pos h2] at h; exact absurd h (by decide)
      · rw [if_neg h2] at h ⊢
        obtain ⟨c1, c2, c3⟩ := make9_ok (Classical.byContradiction h1)
        obtain ⟨i1, i2, i3, i4⟩ := tblk_inv r _ _ _ h
        refine ⟨?_, ?_, fun x hx => ?_, ?_, i4⟩
        · rw [i1, c3]
          show _ = idx ++ (pB ⟨text.length, lsK g⟩ ++ psB (prtG r (text.length + (blkB g).length)))
          rw [List.length_append, List.append_assoc]; rfl
        · rw [i2, c3, blkG_cons, List.append_assoc]
        · rcases List.mem_cons.1 hx with rfl | hx
          · exact ⟨c1, c2⟩
          · exact i3 x hx
        · cases hb : Op.bytesLess last (hdK g)
          · exact absurd (leK_iff.2 hb) h2
          · rfl
structure Made (l : List Etr) (s : List UInt8) (G : List (List Etr)) : Prop where
  flat : G.flatten = l
  pos : 0 < l.length
  few : G.length ≤ l.length
  hs : s = tout l (numBytes G.length ++ psB (prtG G 0)) (blkG G)
  ok : ∀ g ∈ G, checkN g = 0 ∧ (textN g g.length).length ≤ 65536
  sz : ∀ g ∈ G, 0 < g.length ∧ g.length ≤ 256
  chn : Chn [] G
theorem tmk_made (l : List Etr) (size : Int) (h : (tmk l size).2 = 0) : Made l (tmk l size).1 (grp size l [] 0) := by
  unfold tmk at h ⊢
  by_cases h1 : size < 1 ∨ 16384 < size
  · rw [if_pos h1] at h; exact absurd h (by decide)
  rw [if_neg h1] at h ⊢
  by_cases h2 : l.length = 0
  · rw [if_pos h2] at h; exact absurd h (by decide)
  rw [if_neg h2] at h ⊢
  by_cases h3 : (tblk (grp size l [] 0) (numBytes (grp size l [] 0).length) [] []).2 ≠ 0
  · rw [if_pos h3] at h; exact absurd h h3
  rw [if_neg h3]
  obtain ⟨i1, i2, i3, i4⟩ := tblk_inv _ _ _ _ (Classical.byContradiction h3)
  refine ⟨grp_flat size l [] 0 (by omega), by omega, grp_len size l [] 0, ?_, i3, fun g hg => ?_, i4⟩
  · rw [i1, i2]; rfl
  · obtain ⟨a, b, _⟩ := grp_mem size l [] 0 (by decide) g hg
    exact ⟨a, b⟩
theorem tmk_bad (l : List Etr) (size : Int) (h : (tmk l size).2 ≠ 0) : (tmk l size).1 = [] := by
  unfold tmk at h ⊢
  split
  · rfl
  · rename_i h1
    rw [if_neg h1] at h
    split
    · rfl
    · rename_i h2
      rw [if_neg h2] at h
      split
      · rfl
      · rename_i h3
        rw [if_neg h3] at h; exact absurd rfl h
theorem prtG_len : ∀ (G : List (List Etr)) (o : Nat), (prtG G o).length = G.length
  | [], _ => rfl
  | g :: r, o => by unfold prtG; rw [List.length_cons, List.length_cons, prtG_len r]
theorem prtG_at : ∀ (G : List (List Etr)) (o i : Nat) (h : i < G.length) (h2 : i < (prtG G o).length), (prtG G o)[i] = ⟨o + (blkG (G.take i)).length, lsK G[i]⟩
  | g :: r, o, 0, _, _ => rfl
  | g :: r, o, i + 1, h, h2 => by
    have e : (prtG (g :: r) o)[i + 1] = (prtG r (o + (blkB g).length))[i]'(by rw [prtG_len]; exact Nat.lt_of_succ_lt_succ h) := rfl
    rw [e, prtG_at r _ i (Nat.lt_of_succ_lt_succ h)]
    rw [List.take_succ_cons, blkG_cons, List.length_append, Nat.add_assoc]; rfl
theorem made_up {l : List Etr} {s : List UInt8} {G : List (List Etr)} (h : Made l s G) : ∀ g ∈ G, 0 < g.length ∧ Up g := fun g hg => ⟨(h.sz g hg).1, checkN_rise (h.ok g hg).1⟩
theorem chn_at : ∀ (G : List (List Etr)) (a : List UInt8), Chn a G → ∀ i (h : i + 1 < G.length), Op.bytesLess (lsK G[i]) (hdK G[i + 1]) = true
  | g :: g2 :: r, a, hc, 0, h => hc.2.1
  | g :: r, a, hc, i + 1, h => chn_at r (lsK g) hc.2 i (Nat.lt_of_succ_lt_succ h)
theorem lsK_mem {g : List Etr} (h : 0 < g.length) : ∃ x ∈ g, x.k = lsK g := by
  have h2 : g.length - 1 < g.length := by omega
  exact ⟨_, List.getElem_mem h2, (lsK_eq h2).symm⟩
theorem blkG_len (G : List (List Etr)) (h : ∀ g ∈ G, (textN g g.length).length ≤ 65536) : (blkG G).length ≤ 65544 * G.length := by
  induction G with
  | nil => exact Nat.le_refl _
  | cons g r ih =>
    have h1 := h g (List.mem_cons_self ..)
    have h2 := ih (fun x hx => h x (List.mem_cons_of_mem _ hx))
    have h3 : (blkB g).length = 8 + (textN g g.length).length := sealWrap_len _
    rw [blkG_cons, List.length_append, List.length_cons]; omega
theorem psB_len (ps : List Part) (h : ∀ p ∈ ps, p.a < 9223372036854775808 ∧ p.l.length ≤ 110) : (psB ps).length ≤ 128 * ps.length := by
  induction ps with
  | nil => exact Nat.le_refl _
  | cons p r ih =>
    obtain ⟨h1, h1'⟩ := h p (List.mem_cons_self ..)
    have h2 := ih (fun x hx => h x (List.mem_cons_of_mem _ hx))
    have h3 := numBytes_len p.a h1
    have h4 := txB_len p.l (by omega)
    rw [psB_cons, List.length_append, List.length_cons]
    unfold pB
    rw [List.length_append]; omega
theorem blkG_lt (G : List (List Etr)) (i : Nat) (h : i < G.length) : (blkG (G.take i)).length < (blkG G).length := by
  have e : G = G.take i ++ (G[i] :: G.drop (i + 1)) := by rw [← List.drop_eq_getElem_cons h, List.take_append_drop]
  have := blkB_pos G[i]
  have e2 : blkG G = blkG (G.take i) ++ (blkB G[i] ++ blkG (G.drop (i + 1))) := by
    conv => lhs; rw [e]
    rw [blkG_app, blkG_cons]
  rw [e2, List.length_append, List.length_append]; omega
theorem made_ps {l : List Etr} {s : List UInt8} {G : List (List Etr)} (h : Made l s G) (hl : l.length ≤ 300) (hm : ∀ e ∈ l, e.k.length ≤ 110 ∧ e.v.length ≤ 4010) : PsOk (prtG G 0) (blkG G).length ∧ (∀ p ∈ prtG G 0, p.a < (blkG G).length ∧ p.l.length ≤ 110) := by
  have hlen := prtG_len G 0
  have hup := made_up h
  have hpos : 0 < G.length := by
    rcases Nat.eq_zero_or_pos G.length with h0 | h0
    · have hG := List.length_eq_zero_iff.1 h0
      have := h.flat
      have hp := h.pos
      rw [← this, hG] at hp; cases hp
    · exact h0
  have hmg : ∀ g ∈ G, ∀ e ∈ g, e.k.length ≤ 110 ∧ e.v.length ≤ 4010 := fun g hg e he => hm e (by rw [← h.flat]; exact List.mem_flatten.2 ⟨g, hg, he⟩)
  have hlt : ∀ p ∈ prtG G 0, p.a < (blkG G).length ∧ p.l.length ≤ 110 := fun p hp => by
    obtain ⟨i, hi, rfl⟩ := List.mem_iff_getElem.1 hp
    have hi2 : i < G.length := by omega
    rw [prtG_at G 0 i hi2 hi]
    have := blkG_lt G i hi2
    exact ⟨by show 0 + _ < _; omega, lsK_len _ (hmg _ (List.getElem_mem hi2))⟩
  refine ⟨⟨by omega, by have := h.few; omega, fun h0 => ?_, fun i hi h0 => ?_, fun p hp => ?_⟩, hlt⟩
  · rw [prtG_at G 0 0 hpos h0]; rfl
  · have hi2 : i < G.length := by omega
    rw [prtG_at G 0 i hi2 hi, prtG_at G 0 (i - 1) (by omega) (by omega)]
    have hi3 : i - 1 + 1 < G.length := by omega
    have hc := chn_at G [] h.chn (i - 1) hi3
    have e : G[i - 1 + 1] = G[i] := by congr 1; omega
    rw [e] at hc
    obtain ⟨g1, g2⟩ := hup _ (List.getElem_mem hi2)
    refine ⟨?_, ?_⟩
    · have e2 : G.take i = G.take (i - 1) ++ [G[i - 1]] := by
        have := List.take_succ_eq_append_getElem (l := G) (i := i - 1) (by omega)
        rw [← this]; congr 1; omega
      show 0 + (blkG (G.take (i - 1))).length < 0 + (blkG (G.take i)).length
      rw [e2, blkG_app, List.length_append]
      have := blkB_pos G[i - 1]
      show _ < 0 + (_ + (blkB G[i - 1] ++ []).length)
      rw [List.append_nil]; omega
    · obtain ⟨x, hx, hxk⟩ := lsK_mem g1
      have := up_first g2 g1 x hx
      rw [hxk] at this
      exact less_le hc this
  · obtain ⟨a, b⟩ := hlt p hp
    exact ⟨a, by omega⟩
def madeT (l : List Etr) (G : List (List Etr)) (s : List UInt8) : Tab := tbT l (prtG G 0) s
theorem made_tab {l : List Etr} {s : List UInt8} {G : List (List Etr)} (h : Made l s G) (hl : l.length ≤ 300) (hm : ∀ e ∈ l, e.k.length ≤ 110 ∧ e.v.length ≤ 4010) :
    TabOk (madeT l G s) G ∧ (blkG G).length ≤ 90000000 ∧ (numBytes (prtG G 0).length ++ psB (prtG G 0)).length ≤ 65536 ∧ s.length ≤ 100000000 := by
  obtain ⟨hps, hlt⟩ := made_ps h hl hm
  have hlen := prtG_len G 0
  have hfew := h.few
  have hmg : ∀ g ∈ G, ∀ e ∈ g, e.k.length ≤ 110 ∧ e.v.length ≤ 4010 := fun g hg e he => hm e (by rw [← h.flat]; exact List.mem_flatten.2 ⟨g, hg, he⟩)
  have hbl := blkG_len G (fun g hg => (h.ok g hg).2)
  have hpl := psB_len (prtG G 0) (fun p hp => ⟨by have := (hlt p hp).1; omega, (hlt p hp).2⟩)
  have hnl := numBytes_len (prtG G 0).length (by omega)
  have hil : (numBytes (prtG G 0).length ++ psB (prtG G 0)).length ≤ 65536 := by rw [List.length_append]; omega
  have hfl := footB_len l (blkG G) hl hm (by omega)
  have hsl : s.length ≤ 100000000 := by
    have e := congrArg List.length h.hs
    unfold tout at e
    rw [← hlen] at e
    rw [List.length_append, List.length_append, List.length_append, sealWrap_len, sealWrap_len, show (three _).length = 3 from rfl] at e
    omega
  refine ⟨⟨hlen, by omega, hsl, ?_, fun i hi hi2 => ?_, fun g hg => ⟨(h.sz g hg).1, (h.sz g hg).2, (made_up h g hg).2⟩, hmg⟩, by omega, hil, hsl⟩
  · show (mkF (keyL l) 10).length ≤ 1000000000
    rw [mkF_len]
    have : (keyL l).length = l.length := List.length_map ..
    unfold nbOf; omega
  · have hp : (madeT l G s).parts[i] = ⟨0 + (blkG (G.take i)).length, lsK G[i]⟩ := prtG_at G 0 i hi hi2
    rw [hp]
    have e : G = G.take i ++ (G[i] :: G.drop (i + 1)) := by rw [← List.drop_eq_getElem_cons hi, List.take_append_drop]
    have e2 : blkG G = blkG (G.take i) ++ (blkB G[i] ++ blkG (G.drop (i + 1))) := by
      conv => lhs; rw [e]
      rw [blkG_app, blkG_cons]
    obtain ⟨o1, o2⟩ := h.ok _ (List.getElem_mem hi)
    have hsd : ∃ more, s = blkG (G.take i) ++ (blkB G[i] ++ more) := by
      have h3 := h.hs
      unfold tout at h3
      rw [e2] at h3
      simp only [List.append_assoc] at h3
      exact ⟨_, h3⟩
    obtain ⟨more, hsd⟩ := hsd
    refine ⟨?_, ⟨8 + (textN G[i] G[i].length).length, ?_⟩, rfl⟩
    · show 0 + (blkG (G.take i)).length ≤ s.length
      rw [hsd, List.length_append]; omega
    · show bread (s.drop (0 + (blkG (G.take i)).length)) = _
      rw [hsd, Nat.zero_add, List.drop_left]
      exact bread_back G[i] o1 o2 more
end Go.Proofs.Ytdpljpnnjgefoaa
set_option maxHeartbeats 16000000
set_option maxRecDepth 100000
namespace Go.Proofs.Ytdpljpnnjgefoaa
open Go Go.RowKit
theorem made_ups {l : List Etr} {s : List UInt8} {G : List (List Etr)} (h : Made l s G) : Up l := by
  have := (chn_up G [] (made_up h) h.chn).1
  rw [h.flat] at this; exact this
theorem made_in {l : List Etr} {s : List UInt8} {G : List (List Etr)} (h : Made l s G) (i : Nat) (hi : i < l.length) : tbGetF (madeT l G s) G l[i].k = (l[i], true) := by
  have hmy : mayB ((madeT l G s).fp : Nat) (bitsOf (madeT l G s).fb) (hashN l[i].k) = true := may_has (keyL l) 10 l[i].k (List.mem_map.2 ⟨_, List.getElem_mem hi, rfl⟩)
  unfold tbGetF
  rw [if_pos hmy, tbGet_look G [] l[i].k (made_up h) h.chn, h.flat, look_at (made_ups h) i hi]; rfl
theorem made_has {l : List Etr} {s : List UInt8} {G : List (List Etr)} (h : Made l s G) (k : List UInt8) : (tbGetF (madeT l G s) G k).2 = l.any (fun x => x.k == k) := by
  by_cases he : ∃ i, ∃ hi : i < l.length, l[i].k = k
  · obtain ⟨i, hi, rfl⟩ := he
    rw [made_in h i hi]
    exact (List.any_eq_true.2 ⟨l[i], List.getElem_mem hi, beq_self_eq_true l[i].k⟩).symm
  · have hn : ∀ x ∈ l, x.k ≠ k := fun x hx hk => by
      obtain ⟨i, hi, rfl⟩ := List.mem_iff_getElem.1 hx
      exact he ⟨i, hi, hk⟩
    have ha : l.any (fun x => x.k == k) = false := by
      rw [List.any_eq_false]
      intro x hx hk
      exact hn x hx (eq_of_beq hk)
    rw [ha]
    unfold tbGetF
    split
    · rw [tbGet_look G [] k (made_up h) h.chn, h.flat, look_none hn]; rfl
    · rfl
theorem made_range {l : List Etr} {s : List UInt8} {G : List (List Etr)} (h : Made l s G) (f t : List UInt8) : tbRange G f t = l.filter (within f t) := by
  rw [tbRange_filter G [] f t (made_up h) h.chn, h.flat]
theorem lsK_app (a g : List Etr) (h : 0 < g.length) : lsK (a ++ g) = lsK g := by
  have h1 : (a ++ g).length - 1 < (a ++ g).length := by rw [List.length_append]; omega
  have h2 : g.length - 1 < g.length := by omega
  rw [lsK_eq h1, lsK_eq h2]
  have e : (a ++ g).length - 1 = a.length + (g.length - 1) := by rw [List.length_append]; omega
  simp only [e]
  rw [List.getElem_append_right (by omega)]
  simp only [Nat.add_sub_cancel_left]
theorem made_last {l : List Etr} {s : List UInt8} {G : List (List Etr)} (h : Made l s G) : ∃ h2 : (madeT l G s).parts.length - 1 < (madeT l G s).parts.length, ((madeT l G s).parts[(madeT l G s).parts.length - 1]).l = lsK l := by
  have hlen := prtG_len G 0
  have hpos : 0 < G.length := by
    rcases Nat.eq_zero_or_pos G.length with h0 | h0
    · have hG := List.length_eq_zero_iff.1 h0
      have := h.flat
      have hp := h.pos
      rw [← this, hG] at hp; cases hp
    · exact h0
  have h2 : (madeT l G s).parts.length - 1 < (madeT l G s).parts.length := by
    show (prtG G 0).length - 1 < (prtG G 0).length; omega
  refine ⟨h2, ?_⟩
  have h3 : (madeT l G s).parts.length - 1 < G.length := by show (prtG G 0).length - 1 < _; omega
  have h4 : (madeT l G s).parts[(madeT l G s).parts.length - 1] = ⟨0 + (blkG (G.take ((madeT l G s).parts.length - 1))).length, lsK G[(madeT l G s).parts.length - 1]⟩ := prtG_at G 0 _ h3 h2
  rw [h4]
  have e1 : (madeT l G s).parts.length - 1 = G.length - 1 := by show (prtG G 0).length - 1 = _; omega
  have e2 : G = G.take (G.length - 1) ++ [G[G.length - 1]] := by
    have := List.take_succ_eq_append_getElem (l := G) (i := G.length - 1) (by omega)
    rw [← this, List.take_of_length_le (by omega)]
  have e3 : l = (G.take (G.length - 1)).flatten ++ G[G.length - 1] := by
    have := h.flat
    rw [e2, List.flatten_append] at this
    rw [← this]; simp
  have e4 : G[(madeT l G s).parts.length - 1] = G[G.length - 1] := by congr 1
  show lsK G[(madeT l G s).parts.length - 1] = lsK l
  rw [e4]
  conv => rhs; rw [e3]
  exact (lsK_app _ _ (h.sz _ (List.getElem_mem _)).1).symm
theorem made_open {l : List Etr} {s : List UInt8} {G : List (List Etr)} (h : Made l s G) (hl : l.length ≤ 300) (hm : ∀ e ∈ l, e.k.length ≤ 110 ∧ e.v.length ≤ 4010) :
    Spec Try.prog 11 [.s s] [] (fun v os => v = .tup [.cp (tabA (madeT l G s)), .i .i64 0] ∧ os = []) := by
  obtain ⟨_, h1, h2, _⟩ := made_tab h hl hm
  have hps := (made_ps h hl hm).1
  have hlen := prtG_len G 0
  exact topen_spec l (blkG G) (prtG G 0) hl hm h1 hps (by have := h.few; omega) h2 s (by rw [hlen]; exact h.hs)
def oneE : List Etr := [⟨[97], [49], false⟩]
theorem one_made : (tmk oneE 100).2 = 0 := by
  have hg : grp 100 oneE [] 0 = [oneE] := by rfl
  have hck : checkN oneE = 0 := by rfl
  have htl := textN_len oneE (by decide) (by decide) oneE.length (Nat.le_refl _)
  have h9 : make9 oneE = (sealWrap (textN oneE oneE.length), 0) := by
    unfold make9; rw [if_neg (fun h => h hck), if_neg (by have : oneE.length = 1 := rfl; omega)]
  unfold tmk
  rw [if_neg (by decide), if_neg (by decide), hg]
  have ht : (tblk [oneE] (numBytes [oneE].length) [] []).2 = 0 := by
    unfold tblk
    rw [h9, if_neg (fun h => h rfl), if_neg (by decide)]; rfl
  rw [if_neg (fun h => h ht)]
theorem tawake_spec : Spec Try.prog 15 [] [] (fun v os => v = .b true ∧ os = []) := by
  refine spec_of TtOk [] Try.func15 rfl Try.ntmps15 (by kernel_rfl) rfl rfl (fun C => ?_) rfl
  have hmk := tmake_spec oneE 100 (by decide) (by decide)
  have hmd := tmk_made oneE 100 one_made
  rw [one_made] at hmk
  generalize (tmk oneE 100).1 = s at hmk hmd
  generalize grp 100 oneE [] 0 = G at hmd
  have hop := made_open hmd (by decide) (by decide)
  have hgt := tget_spec (made_tab hmd (by decide) (by decide)).1 [97] (by decide)
  have hin := made_in hmd 0 (by decide)
  rw [show tbGetF (madeT oneE G s) G [97] = (oneE[0], true) from hin] at hgt
  obtain ⟨hl1, hl2⟩ := made_last hmd
  have hls := tlast_spec (madeT oneE G s) hl1
  rw [hl2] at hls
  have hfs := tfirst_spec (madeT oneE G s)
  have hct := tcount_spec (madeT oneE G s)
  have e1 : (madeT oneE G s).first = [97] := rfl
  have e2 : (madeT oneE G s).count = 1 := rfl
  have e3 : lsK oneE = [97] := rfl
  rw [e1] at hfs
  rw [e2] at hct
  rw [e3] at hls
  dsimp only at hgt
  generalize madeT oneE G s = T at hop hgt hls hfs hct
  repeat' (first | (refine o_freezeR 10 10 rfl rfl rfl ?_) | refine Awp.seq ?_ | refine Awp.region ?_ | (refine Ops.nil ?_; show Awp _ _ _ _ _) | (refine Ops.nil ?_; show Exists _) | (refine Ops.nil ?_; show endK _ _ _ _ _) | (refine Awp.skip ?_; show Awp _ _ _ _ _) | (refine Awp.skip ?_; show endK _ _ _ _ _) | (refine Awp.skip ?_; show Exists _) | (refine Awp.ret ?_; show endK _ _ _ _ _) | refine o_offT rfl rfl rfl (by first | exact .inl rfl | exact .inr rfl) ?_ | refine o_offU rfl rfl rfl (by first | exact .inl rfl | exact .inr rfl) ?_ | refine o_offF rfl rfl rfl (by first | exact .inl rfl | exact .inr rfl) ?_ | (refine o_calm rfl TtOk rfl rfl rfl ?_ (fun _ => ?_); first | exact True.intro | exact ⟨rfl, rfl, rfl, rfl⟩ | exact ⟨rfl, True.intro⟩ | exact ⟨rfl, rfl⟩ | exact ⟨rfl, rfl, rfl⟩ | exact rfl | exact ⟨fun h0 => by cases h0, rfl⟩ | exact (fun h0 => by cases h0) | exact ⟨rfl, by omega⟩ | exact ⟨Nat.succ_ne_zero _, rfl⟩ | omega) | refine o_alloc rfl TtOk rfl rfl rfl (fun bA => ?_) | refine o_store TtOk rfl rfl rfl rfl rfl rfl rfl ⟨rfl, rfl⟩ rfl rfl rfl rfl rfl ?_ | refine o_build TtOk rfl rfl rfl rfl rfl rfl (by repeat' (first | exact True.intro | exact rfl | refine ⟨?_, ?_⟩)) ?_ | refine o_buildArr0 TtOk rfl rfl rfl rfl ?_ | refine o_buildSlice TtOk rfl rfl rfl rfl rfl rfl rfl rfl rfl rfl rfl (by repeat' (first | exact True.intro | exact rfl | refine ⟨?_, ?_⟩)) (fun _ => ?_) | refine o_eqNil TtOk rfl rfl rfl rfl rfl ?_ | refine o_eqArr8 TtOk rfl rfl rfl rfl rfl rfl (by kernel_rfl) ?_ | (fail_if_success (refine o_isLit rfl (by first | exact .inl rfl | exact .inr rfl) ?_)); (refine o_splitP rfl rfl (fun hc => ?_) (fun hc => ?_) <;> try (exfalso; omega)) | (fail_if_success (refine o_isLit rfl (by first | exact .inl rfl | exact .inr rfl) ?_)); (refine o_splitI rfl rfl (fun hc => ?_) (fun hc => ?_) <;> try (exfalso; omega)) | (fail_if_success (refine o_isLit rfl (by first | exact .inl rfl | exact .inr rfl) ?_)); (refine o_splitN rfl rfl (fun hc => ?_) (fun hc => ?_) <;> try (exfalso; omega)) | (fail_if_success (refine o_isLit rfl (by first | exact .inl rfl | exact .inr rfl) ?_)); (refine o_split rfl rfl (fun hc => ?_) (fun hc => ?_)) | refine a_condT rfl ?_ | refine a_condF rfl ?_ | (refine a_condP rfl (fun hc => ?_) (fun hc => ?_)) <;> (try (exfalso; omega)) | (refine a_condI rfl (fun hc => ?_) (fun hc => ?_)) <;> (try (exfalso; omega)) | (refine a_condN rfl (fun hc => ?_) (fun hc => ?_)) <;> (try (exfalso; omega)) | (refine Awp.cond rfl (fun hc => ?_) (fun hc => ?_)) | (refine o_eqNilCp TtOk rfl rfl rfl rfl rfl ?_) | (refine o_call0 rfl (hmk) ⟨SLe.of_eq rfl, SLe.of_eq rfl, True.intro⟩ rfl ?_; rintro _ _ ⟨rfl, rfl⟩; refine ⟨rfl, ?_⟩) | (refine o_call0 rfl (hop) ⟨SLe.of_eq rfl, True.intro⟩ rfl ?_; rintro _ _ ⟨rfl, rfl⟩; refine ⟨rfl, ?_⟩) | (refine o_call0 rfl (hgt) ⟨SLe.of_eq rfl, SLe.of_eq rfl, True.intro⟩ rfl ?_; rintro _ _ ⟨rfl, rfl⟩; refine ⟨rfl, ?_⟩) | (refine o_call0 rfl (hfs) ⟨SLe.of_eq rfl, True.intro⟩ rfl ?_; rintro _ _ ⟨rfl, rfl⟩; refine ⟨rfl, ?_⟩) | (refine o_call0 rfl (hls) ⟨SLe.of_eq rfl, True.intro⟩ rfl ?_; rintro _ _ ⟨rfl, rfl⟩; refine ⟨rfl, ?_⟩) | (refine o_call0 rfl (hct) ⟨SLe.of_eq rfl, True.intro⟩ rfl ?_; rintro _ _ ⟨rfl, rfl⟩; refine ⟨rfl, ?_⟩))
  exact end_tmp rfl rfl rfl [] [] (CLe.of_eq rfl) .nil ⟨rfl, rfl⟩ _ (.inl rfl)
end Go.Proofs.Ytdpljpnnjgefoaa
