/- The plain law of LevelCovers; law11.LevelCovers by rules. -/
import Derived.Test.YtnmnhnlebkebfaaL14
set_option maxHeartbeats 8000000
set_option maxRecDepth 100000
namespace Go.Proofs.Ytnmnhnlebkebfaa
open Go Go.RowKit
def leS (a b : List UInt8) : Prop := Op.bytesLess b a = false
theorem leS_refl (a : List UInt8) : leS a a := less_irr a
theorem leS_trans {a b c : List UInt8} (h : leS a b) (k : leS b c) : leS a c := by
  unfold leS at *
  cases hb : Op.bytesLess c a with
  | false => rfl
  | true =>
    rcases less_tri a b with h1 | rfl | h1
    · rw [less_trans hb h1] at k; exact absurd k (by decide)
    · rw [hb] at k; exact absurd k (by decide)
    · rw [h1] at h; exact absurd h (by decide)
theorem minS_l (a b : List UInt8) : leS (minS a b) a := by
  unfold minS; split
  · rename_i h; exact less_asymm h
  · exact leS_refl a
theorem minS_r (a b : List UInt8) : leS (minS a b) b := by
  unfold minS; split
  · exact leS_refl b
  · rename_i h; unfold leS; simpa using h
theorem maxS_l (a b : List UInt8) : leS a (maxS a b) := by
  unfold maxS; split
  · rename_i h; exact less_asymm h
  · exact leS_refl a
theorem maxS_r (a b : List UInt8) : leS b (maxS a b) := by
  unfold maxS; split
  · exact leS_refl b
  · rename_i h; unfold leS; simpa using h
theorem spanG_cov (l : List Fl) : ∀ (o : Fl), leS (spanG o l).first o.first ∧ leS o.last (spanG o l).last ∧ ∀ f ∈ l, leS (spanG o l).first f.first ∧ leS f.last (spanG o l).last := by
  induction l with
  | nil => exact fun o => ⟨leS_refl _, leS_refl _, fun f hf => by cases hf⟩
  | cons x l ih =>
    intro o
    obtain ⟨h1, h2, h3⟩ := ih (spanStep o x)
    have e : spanG o (x :: l) = spanG (spanStep o x) l := rfl
    rw [e]
    refine ⟨leS_trans h1 (minS_l _ _), leS_trans (maxS_l _ _) h2, fun f hf => ?_⟩
    rcases List.mem_cons.1 hf with rfl | hf
    · exact ⟨leS_trans h1 (minS_r _ _), leS_trans (maxS_r _ _) h2⟩
    · exact h3 f hf
theorem spanH_cov (l : List Fl) : ∀ f ∈ l, leS (spanH l).first f.first ∧ leS f.last (spanH l).last := by
  cases l with
  | nil => exact fun f hf => by cases hf
  | cons x l => exact (spanG_cov (x :: l) x).2.2
/-- The numbers of a state that is right are all different. -/
theorem lgo_nums (next : Int) : ∀ (l pre : List Fl), lgo next pre l = 0 → (∀ f ∈ l, ∀ g ∈ pre, g.num ≠ f.num) ∧ (∀ f ∈ l, ∀ g ∈ l, f.num = g.num → f = g)
  | [], _, _ => ⟨fun f hf => (by cases hf), fun f hf => (by cases hf)⟩
  | x :: l, pre, h => by
    rw [lgo] at h
    by_cases hc : fcode next pre x = 0
    · rw [if_neg (fun n => n hc)] at h
      obtain ⟨i1, i2⟩ := lgo_nums next l _ h
      have hnf : ¬ frmF pre x := fun hf => by
        by_cases ha : argF next x
        · rw [fcode_arg ha] at hc; cases hc
        · rw [fcode_frm ha hf] at hc; cases hc
      have hx : ∀ g ∈ pre, g.num ≠ x.num := fun g hg he => hnf (.inr (.inr (.inr (by
        rw [List.contains_iff_mem, List.mem_map]; exact ⟨g, hg, he⟩))))
      refine ⟨fun f hf g hg => ?_, fun f hf g hg he => ?_⟩
      · rcases List.mem_cons.1 hf with rfl | hf
        · exact hx g hg
        · exact i1 f hf g (List.mem_append.2 (.inl hg))
      · rcases List.mem_cons.1 hf with ef | hf' <;> rcases List.mem_cons.1 hg with eg | hg'
        · rw [ef, eg]
        · exact absurd he (i1 g hg' f (by rw [ef]; simp))
        · exact absurd he.symm (i1 f hf' g (by rw [eg]; simp))
        · exact i2 f hf' g hg' he
    · rw [if_pos hc] at h
      exact absurd h hc
theorem lcheck_nums {s : Stt} (h : lcheck s = 0) : ∀ f ∈ s.fs, ∀ g ∈ s.fs, f.num = g.num → f = g := by
  unfold lcheck at h
  split at h
  · cases h
  · split at h
    · cases h
    · exact (lgo_nums _ _ _ h).2
def covF (key : List UInt8) (f : Fl) : Prop := leS f.first key ∧ leS key f.last
/-- What a job of a right state lacks. -/
theorem job_cov {s : Stt} (h : lcheck s = 0) {n : Int} {l : List Fl} (hl : ∀ x ∈ l, x ∈ atF s.fs n) (h0 : n = 0 → l = atF s.fs 0) {key : List UInt8} {g f : Fl} (hg : g ∈ s.fs) (hf : f ∈ s.fs)
    (cg : covF key g) (cf : covF key f) (ing : g.num ∈ (jobF s.fs n l).fr ++ (jobF s.fs n l).to) (lg : g.lev = n) (nf : f.num ∉ (jobF s.fs n l).fr ++ (jobF s.fs n l).to) (lf : f.lev = n + 1 ∨ f.lev = 0 ∧ n = 0) : False := by
  have hu := lcheck_nums h
  have hgl : g ∈ l := by
    rcases List.mem_append.1 ing with hi | hi
    · obtain ⟨x, hx, hxe⟩ := List.mem_map.1 (show g.num ∈ l.map Fl.num from hi)
      have := hu x (List.mem_filter.1 (hl x hx)).1 g hg hxe
      rw [← this]; exact hx
    · obtain ⟨x, hx, hxe⟩ := List.mem_map.1 (show g.num ∈ ((atF s.fs (n + 1)).filter (meetsF (spanH l))).map Fl.num from hi)
      have hx2 := (List.mem_filter.1 hx).1
      have := hu x (List.mem_filter.1 hx2).1 g hg hxe
      subst this
      have := (List.mem_filter.1 hx2).2
      simp at this
      omega
  rcases lf with hlf | ⟨hlf, hn0⟩
  · have hfa : f ∈ atF s.fs (n + 1) := List.mem_filter.2 ⟨hf, by simpa using hlf⟩
    have hsp := spanH_cov l g hgl
    have hm : meetsF (spanH l) f = true := by
      unfold meetsF
      have e1 : Op.bytesLess (spanH l).last f.first = false := leS_trans cf.1 (leS_trans cg.2 hsp.2)
      have e2 : Op.bytesLess f.last (spanH l).first = false := leS_trans hsp.1 (leS_trans cg.1 cf.2)
      rw [e1, e2]; rfl
    exact nf (List.mem_append.2 (.inr (List.mem_map.2 ⟨f, List.mem_filter.2 ⟨hfa, hm⟩, rfl⟩)))
  · subst hn0
    have hfl : f ∈ l := by
      rw [h0 rfl]; exact List.mem_filter.2 ⟨hf, by simpa using hlf⟩
    exact nf (List.mem_append.2 (.inl (List.mem_map.2 ⟨f, hfl, rfl⟩)))
theorem minG_mem (l : List Fl) : ∀ (o : Fl), minG o l = o ∨ minG o l ∈ l := by
  induction l with
  | nil => exact fun o => .inl rfl
  | cons x l ih =>
    intro o
    have e : minG o (x :: l) = minG (minStep o x) l := rfl
    rw [e]
    rcases ih (minStep o x) with h | h
    · rw [h]; unfold minStep; split
      · exact .inr (by simp)
      · exact .inl rfl
    · exact .inr (List.mem_cons_of_mem _ h)
theorem minH_mem (l : List Fl) (h : 0 < l.length) : minH l ∈ l := by
  cases l with
  | nil => exact absurd h (Nat.lt_irrefl _)
  | cons x l =>
    rcases minG_mem (x :: l) x with h | h
    · show minG x (x :: l) ∈ _; rw [h]; simp
    · exact h
/-- A job that was picked is of files of its level. -/
def jobOf (s : Stt) (j : Jb) : Prop := lcheck s = 0 ∧ ∃ n l, j = jobF s.fs n l ∧ (∀ x ∈ l, x ∈ atF s.fs n) ∧ (n = 0 → l = atF s.fs 0)
theorem pickFrom_job (s : Stt) (h : lcheck s = 0) (size : Int) (hs : 1 ≤ size) : ∀ (k : Nat) (n : Int), 1 ≤ n → (pickFrom s.fs size k n).2 = true → jobOf s (pickFrom s.fs size k n).1
  | 0, _, _, h2 => by cases h2
  | k + 1, n, hn, h2 => by
    rw [pickFrom] at h2 ⊢
    by_cases hc : (if n = 2 then 8 * size else size) < sumF (atF s.fs n)
    · rw [if_pos hc] at h2 ⊢
      have h0 : 0 < (atF s.fs n).length := by
        rcases Nat.eq_zero_or_pos (atF s.fs n).length with h | h
        · have : atF s.fs n = [] := List.length_eq_zero_iff.1 h
          rw [this] at hc
          have : sumF [] = 0 := rfl
          split at hc <;> omega
        · exact h
      exact ⟨h, n, [minH (atF s.fs n)], rfl, fun x hx => by rw [List.mem_singleton.1 hx]; exact minH_mem _ h0, fun h => by omega⟩
    · rw [if_neg hc] at h2 ⊢
      exact pickFrom_job s h size hs k (n + 1) (by omega) h2
theorem pickF_job (s : Stt) (cnt size : Int) (h2 : (pickF s cnt size).2 = true) : jobOf s (pickF s cnt size).1 := by
  unfold pickF at h2 ⊢
  by_cases hb : pickBad (lcheck s) cnt size
  · rw [if_pos hb] at h2; cases h2
  · rw [if_neg hb] at h2 ⊢
    unfold pickBad at hb
    by_cases hc : cnt ≤ ((atF s.fs 0).length : Nat)
    · rw [if_pos hc] at h2 ⊢
      exact ⟨by omega, 0, atF s.fs 0, rfl, fun x hx => hx, fun _ => rfl⟩
    · rw [if_neg hc] at h2 ⊢
      exact pickFrom_job s (by omega) size (by omega) 2 1 (by decide) h2
end Go.Proofs.Ytnmnhnlebkebfaa
