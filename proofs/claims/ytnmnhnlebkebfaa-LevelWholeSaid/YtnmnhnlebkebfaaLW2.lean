/- The plain law of LevelWhole, its rounds: each job of a whole level ends in a state that is right, a level deeper. -/
import Derived.Test.YtnmnhnlebkebfaaAP2Z
set_option maxHeartbeats 8000000
set_option maxRecDepth 100000
namespace Go.Proofs.Ytnmnhnlebkebfaa
open Go Go.RowKit
theorem wholeFrom_true (fs : List Fl) : ∀ (k : Nat) (n : Int) (j : Jb), wholeFrom fs k n = (j, true) → ∃ n', n ≤ n' ∧ n' < n + k ∧ wOk fs n' = true ∧ j = jobF fs n' (atF fs n') ∧ ∀ i, n ≤ i → i < n' → wOk fs i = false
  | 0, _, _, h => by cases h
  | k + 1, n, j, h => by
    rw [wholeFrom] at h
    by_cases hc : wOk fs n = true
    · rw [if_pos hc] at h
      exact ⟨n, Int.le_refl _, by omega, hc, (congrArg Prod.fst h).symm, fun i h1 h2 => by omega⟩
    · rw [if_neg hc] at h
      obtain ⟨n', h1, h2, h3, h4, h5⟩ := wholeFrom_true fs k (n + 1) j h
      refine ⟨n', by omega, by omega, h3, h4, fun i i1 i2 => ?_⟩
      rcases Int.lt_or_le n i with h | h
      · exact h5 i (by omega) i2
      · have : i = n := by omega
        subst this; simpa using hc
theorem wholeFrom_false (fs : List Fl) : ∀ (k : Nat) (n : Int), (wholeFrom fs k n).2 = false → ∀ i, n ≤ i → i < n + k → wOk fs i = false
  | 0, _, _ => fun i h1 h2 => by omega
  | k + 1, n, h => by
    rw [wholeFrom] at h
    by_cases hc : wOk fs n = true
    · rw [if_pos hc] at h; cases h
    · rw [if_neg hc] at h
      intro i h1 h2
      rcases Int.lt_or_le n i with h' | h'
      · exact wholeFrom_false fs k (n + 1) h i (by omega) (by omega)
      · have : i = n := by omega
        subst this; simpa using hc
theorem atF_mem {fs : List Fl} {n : Int} {f : Fl} : f ∈ atF fs n ↔ f ∈ fs ∧ f.lev = n := by
  unfold atF; rw [List.mem_filter]; simp
theorem belowF_mem {fs : List Fl} {n : Int} {f : Fl} : f ∈ belowF fs n ↔ f ∈ fs ∧ n < f.lev := by
  unfold belowF; rw [List.mem_filter]; simp
theorem wOk_iff {fs : List Fl} {n : Int} : wOk fs n = true ↔ (∃ f ∈ fs, f.lev = n) ∧ (n = 0 ∨ ∃ f ∈ fs, n < f.lev) := by
  unfold wOk
  rw [decide_eq_true_iff, List.length_pos_iff_exists_mem, List.length_pos_iff_exists_mem]
  simp only [atF_mem, belowF_mem]
theorem lev_of {s : Stt} (h : lcheck s = 0) : ∀ f ∈ s.fs, 0 ≤ f.lev ∧ f.lev ≤ 3 := fun f hf => by
  have := ((lcheck_iff.1 h).2.2.good f hf).1
  unfold argF at this
  omega
/-- Where no job is left all stand on one level below 0. -/
theorem whole_end {s : Stt} (h : lcheck s = 0) (hw : (wholeF s).2 = false) : ∀ f ∈ s.fs, f.lev ≠ 0 ∧ ∀ g ∈ s.fs, f.lev = g.lev := by
  unfold wholeF at hw
  rw [if_neg (by omega)] at hw
  have key := wholeFrom_false _ 3 0 hw
  have hno : ∀ i, 0 ≤ i → i < 3 → ¬ ((∃ f ∈ s.fs, f.lev = i) ∧ (i = 0 ∨ ∃ f ∈ s.fs, i < f.lev)) := fun i h1 h2 hh => by
    rw [← wOk_iff, key i h1 (by omega)] at hh; cases hh
  intro f hf
  have lf := lev_of h f hf
  refine ⟨fun h0 => hno 0 (by omega) (by omega) ⟨⟨f, hf, h0⟩, .inl rfl⟩, fun g hg => ?_⟩
  have lg := lev_of h g hg
  rcases Int.lt_trichotomy f.lev g.lev with h1 | h1 | h1
  · exact absurd ⟨⟨f, hf, rfl⟩, .inr ⟨g, hg, h1⟩⟩ (hno f.lev (by omega) (by omega))
  · exact h1
  · exact absurd ⟨⟨g, hg, rfl⟩, .inr ⟨f, hf, h1⟩⟩ (hno g.lev (by omega) (by omega))
theorem whole_round {s : Stt} (h : lcheck s = 0) (hn : s.next ≤ 600000000) {j : Jb} (hw : wholeF s = (j, true)) (m : Int) (hm0 : 0 ≤ m) (hm : ∀ f ∈ s.fs, m ≤ f.lev) :
    ∃ s', applyF s (j.fr ++ j.to) [hullF s.next (j.lev + 1) (goneF s.fs (j.fr ++ j.to))] s.log = (s', 0) ∧ lcheck s' = 0 ∧ s'.next = s.next + 1 ∧ s'.fs.length ≤ s.fs.length ∧ (∀ f ∈ s'.fs, m + 1 ≤ f.lev) ∧ m ≤ 2 ∧ 0 ≤ j.lev ∧ j.lev ≤ 2 := by
  obtain ⟨hh, hlen, hgs⟩ := lcheck_iff.1 h
  unfold wholeF at hw
  rw [if_neg (by omega)] at hw
  obtain ⟨n, n1, n2, hok, rfl, hfirst⟩ := wholeFrom_true _ _ _ _ hw
  obtain ⟨⟨f0, hf0, hl0⟩, hbelow⟩ := wOk_iff.1 hok
  have hmn : m ≤ n := hl0 ▸ hm f0 hf0
  have hu := lcheck_nums h
  unfold headBad at hh
  have hJ : (jobF s.fs n (atF s.fs n)).lev = n := rfl
  rw [hJ]
  -- who goes
  have hgone : ∀ g ∈ s.fs, g.num ∈ (jobF s.fs n (atF s.fs n)).fr ++ (jobF s.fs n (atF s.fs n)).to ↔ (g.lev = n ∨ g.lev = n + 1 ∧ meetsF (spanH (atF s.fs n)) g = true) := fun g hg => by
    have e1 : (jobF s.fs n (atF s.fs n)).fr = (atF s.fs n).map Fl.num := rfl
    have e2 : (jobF s.fs n (atF s.fs n)).to = ((atF s.fs (n + 1)).filter (meetsF (spanH (atF s.fs n)))).map Fl.num := rfl
    rw [e1, e2, List.mem_append, List.mem_map, List.mem_map]
    constructor
    · rintro (⟨x, hx, he⟩ | ⟨x, hx, he⟩)
      · obtain ⟨x1, x2⟩ := atF_mem.1 hx
        have := hu x x1 g hg he; subst this; exact .inl x2
      · obtain ⟨x1, x2⟩ := List.mem_filter.1 hx
        obtain ⟨x3, x4⟩ := atF_mem.1 x1
        have := hu x x3 g hg he; subst this; exact .inr ⟨x4, x2⟩
    · rintro (h1 | ⟨h1, h2⟩)
      · exact .inl ⟨g, atF_mem.2 ⟨hg, h1⟩, rfl⟩
      · exact .inr ⟨g, List.mem_filter.2 ⟨atF_mem.2 ⟨hg, h1⟩, h2⟩, rfl⟩
  have hin : ∀ a ∈ (jobF s.fs n (atF s.fs n)).fr ++ (jobF s.fs n (atF s.fs n)).to, hasN s.fs a = true := fun a ha => by
    unfold hasN
    rw [List.any_eq_true]
    have e1 : (jobF s.fs n (atF s.fs n)).fr = (atF s.fs n).map Fl.num := rfl
    have e2 : (jobF s.fs n (atF s.fs n)).to = ((atF s.fs (n + 1)).filter (meetsF (spanH (atF s.fs n)))).map Fl.num := rfl
    rw [e1, e2, List.mem_append, List.mem_map, List.mem_map] at ha
    rcases ha with ⟨x, hx, he⟩ | ⟨x, hx, he⟩
    · exact ⟨x, (atF_mem.1 hx).1, by simpa using he⟩
    · exact ⟨x, (atF_mem.1 (List.mem_filter.1 hx).1).1, by simpa using he⟩
  generalize (jobF s.fs n (atF s.fs n)).fr ++ (jobF s.fs n (atF s.fs n)).to = G at hgone hin
  have hgm : ∀ g, g ∈ goneF s.fs G ↔ g ∈ s.fs ∧ (g.lev = n ∨ g.lev = n + 1 ∧ meetsF (spanH (atF s.fs n)) g = true) := fun g => by
    unfold goneF
    rw [List.mem_filter, List.contains_iff_mem]
    exact ⟨fun ⟨a, b⟩ => ⟨a, (hgone g a).1 b⟩, fun ⟨a, b⟩ => ⟨a, (hgone g a).2 b⟩⟩
  have hkm : ∀ g, g ∈ keptF s.fs G ↔ g ∈ s.fs ∧ ¬ (g.lev = n ∨ g.lev = n + 1 ∧ meetsF (spanH (atF s.fs n)) g = true) := fun g => by
    unfold keptF
    rw [List.mem_filter]
    have e : (!G.contains g.num) = true ↔ ¬ g.num ∈ G := by simp
    rw [e]
    exact ⟨fun ⟨a, b⟩ => ⟨a, fun c => b ((hgone g a).2 c)⟩, fun ⟨a, b⟩ => ⟨a, fun c => b ((hgone g a).1 c)⟩⟩
  -- the new table
  have hH := hull_of (n := s.next) (lev := n + 1) (l := goneF s.fs G) (fun x hx => key_ne (hgs.good x ((hgm x).1 hx).1).2.1)
  obtain ⟨q1, q2, q3⟩ := hull_num s.next (n + 1) (goneF s.fs G)
  generalize hullF s.next (n + 1) (goneF s.fs G) = f at hH q1 q2 q3
  obtain ⟨⟨t1, ht1, e1⟩, ⟨t2, ht2, e2⟩⟩ : (∃ t ∈ goneF s.fs G, f.first = t.first) ∧ ∃ t ∈ goneF s.fs G, f.last = t.last := by
    rcases hH.is with ⟨h0, _⟩ | h1
    · have := (hgm f0).2 ⟨hf0, .inl hl0⟩
      rw [h0] at this; cases this
    · exact h1
  have g1 := (hgm t1).1 ht1
  have g2 := (hgm t2).1 ht2
  have fgood : gdF (s.next + 1) f := by
    refine ⟨?_, by rw [e1]; exact (hgs.good t1 g1.1).2.1, by rw [e2]; exact (hgs.good t2 g2.1).2.2.1, ?_⟩
    · unfold argF; omega
    · have a1 := (hH.low t1 ht1).2
      rw [e1]
      exact leS_trans (hgs.good t1 g1.1).2.2.2 a1
  -- what stays
  have hdis : ∀ g ∈ keptF s.fs G, disF g f := fun g hg e p => by
    obtain ⟨k1, k2⟩ := (hkm g).1 hg
    rw [q2] at e
    have hlg : g.lev = n + 1 := e
    have nm : meetsF (spanH (atF s.fs n)) g = false := by
      cases hb : meetsF (spanH (atF s.fs n)) g with
      | false => rfl
      | true => exact absurd (.inr ⟨hlg, hb⟩) k2
    have gg := (hgs.good g k1).2.2.2
    have hpd : ∀ t ∈ s.fs, t.lev = n + 1 → t.num ≠ g.num → disF g t := fun t ht hlt hne => by
      have hall : ∀ a ∈ s.fs, ∀ b ∈ s.fs, a.num ≠ b.num → disF a b := by
        have hp : s.fs.Pairwise disF := hgs.rel.imp (fun h => disF_rel h)
        intro a ha b hb hab
        obtain ⟨i, hi, rfl⟩ := List.getElem_of_mem ha
        obtain ⟨k, hk, rfl⟩ := List.getElem_of_mem hb
        rcases Nat.lt_trichotomy i k with h | h | h
        · exact List.pairwise_iff_getElem.1 hp i k hi hk h
        · subst h; exact absurd rfl hab
        · exact disF_symm (List.pairwise_iff_getElem.1 hp k i hk hi h)
      exact hall g k1 t ht (Ne.symm hne)
    have ngone : ∀ t ∈ goneF s.fs G, t.num ≠ g.num := fun t ht he => by
      have := hu t ((hgm t).1 ht).1 g k1 he
      subst this
      exact k2 ((hgm t).1 ht).2
    unfold meetsF at nm
    have hsp := spanH_cov (atF s.fs n)
    generalize spanH (atF s.fs n) = sp at *
    cases hb1 : Op.bytesLess sp.last g.first with
    | true =>
      refine .inr ?_
      rw [e2]
      rcases g2.2 with hl | ⟨hl, hm2⟩
      · exact lt_of_le_lt (hsp t2 (atF_mem.2 ⟨g2.1, hl⟩)).2 hb1
      · rcases hpd t2 g2.1 hl (ngone t2 ht2) (hlg.trans hl.symm) (by omega) with h | h
        · exfalso
          unfold meetsF at hm2
          simp only [Bool.and_eq_true, Bool.not_eq_true'] at hm2
          have := lt_of_le_lt gg (lt_of_lt_le h hm2.1)
          have := less_trans this hb1
          rw [less_irr] at this; cases this
        · exact h
    | false =>
      rw [hb1] at nm
      have hb2 : Op.bytesLess g.last sp.first = true := by simpa using nm
      refine .inl ?_
      rw [e1]
      rcases g1.2 with hl | ⟨hl, hm2⟩
      · exact lt_of_lt_le hb2 (hsp t1 (atF_mem.2 ⟨g1.1, hl⟩)).1
      · rcases hpd t1 g1.1 hl (ngone t1 ht1) (hlg.trans hl.symm) (by omega) with h | h
        · exact h
        · exfalso
          unfold meetsF at hm2
          simp only [Bool.and_eq_true, Bool.not_eq_true'] at hm2
          have := lt_of_lt_le (lt_of_lt_le h gg) (leS_refl _)
          have := less_trans this hb2
          have := lt_of_lt_le this hm2.2
          rw [less_irr] at this; cases this
  have hsub : (keptF s.fs G).Sublist s.fs := List.filter_sublist
  have hGS : GS (s.next + 1) (sortS (ltC ordF) (keptF s.fs G ++ [f])) := by
    refine GS.sort (fun x hx => ?_) (List.pairwise_append.2 ⟨hgs.nums.sublist hsub, List.pairwise_singleton _ _, fun a ha b hb => ?_⟩) (List.pairwise_append.2 ⟨(hgs.rel.imp (fun h => disF_rel h)).sublist hsub, List.pairwise_singleton _ _, fun a ha b hb => ?_⟩)
    · rcases List.mem_append.1 hx with hx | hx
      · have := hgs.good x (hsub.subset hx)
        refine ⟨?_, this.2⟩
        have := this.1
        unfold argF at this ⊢
        omega
      · rw [List.mem_singleton.1 hx]; exact fgood
    · rw [List.mem_singleton.1 hb, q1]
      have := (hgs.good a (hsub.subset ha)).1
      unfold argF at this
      omega
    · rw [List.mem_singleton.1 hb]; exact hdis a ha
  have hklen : (keptF s.fs G).length < s.fs.length := by
    unfold keptF
    rw [List.length_filter_lt_length_iff_exists]
    refine ⟨f0, hf0, ?_⟩
    have := (hgone f0 hf0).2 (.inl hl0)
    simpa using this
  have hslen : (sortS (ltC ordF) (keptF s.fs G ++ [f])).length ≤ s.fs.length := by
    rw [sortS_len wo_order, List.length_append]
    have : [f].length = 1 := rfl
    omega
  have hnext : nextF s.next [f] = s.next + 1 := by
    show (if f.num + 1 > s.next then f.num + 1 else s.next) = _
    rw [q1, if_pos (by omega)]
  have hout : outF s G [f] s.log = ⟨s.next + 1, s.log, sortS (ltC ordF) (keptF s.fs G ++ [f])⟩ := by
    unfold outF; rw [hnext]
  have hck : lcheck ⟨s.next + 1, s.log, sortS (ltC ordF) (keptF s.fs G ++ [f])⟩ = 0 :=
    lcheck_iff.2 ⟨by unfold headBad; dsimp only; omega, by dsimp only; omega, hGS⟩
  refine ⟨⟨s.next + 1, s.log, sortS (ltC ordF) (keptF s.fs G ++ [f])⟩, ?_, hck, rfl, hslen, fun x hx => ?_, by omega, n1, by omega⟩
  · unfold applyF
    rw [if_neg (by omega), if_neg (fun hc => hc hin), if_neg, hout, if_neg (by omega)]
    rintro ⟨x, hx, hb⟩
    rw [List.mem_singleton.1 hx] at hb
    unfold badN at hb
    omega
  · rcases List.mem_append.1 (((sortS_perm (lt := ltC ordF) (keptF s.fs G ++ [f])).mem_iff).1 hx) with hx | hx
    · obtain ⟨x1, x2⟩ := (hkm x).1 hx
      have := hm x x1
      rcases Int.lt_or_le m x.lev with h' | h'
      · omega
      · exfalso
        have hxm : x.lev = m := by omega
        rcases Int.lt_or_le m n with hmn' | hmn'
        · have e3 := hfirst m hm0 hmn'
          have e4 : wOk s.fs m = true := wOk_iff.2 ⟨⟨x, x1, hxm⟩, .inr ⟨f0, hf0, by omega⟩⟩
          rw [e3] at e4; cases e4
        · exact x2 (.inl (by omega))
    · rw [List.mem_singleton.1 hx, q2]; omega
end Go.Proofs.Ytnmnhnlebkebfaa
