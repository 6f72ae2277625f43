/- The plain law of LevelCovers; law11.LevelCovers by rules. -/
import Derived.Test.YtnmnhnlebkebfaaL14
set_option maxHeartbeats 8000000
set_option maxRecDepth 100000
namespace Go.Proofs.Ytnmnhnlebkebfaa
open Go Go.RowKit
def leS (a b : List UInt8) : Prop := Op.bytesLess b a = false
theorem leS_refl (a : List UInt8) : leS a a := less_irr a
theorem leS_trans {a b c : List UInt8} (h : leS a b) (k : leS b c) : leS a c := by
  unfold leS at *
  cases hb : Op.bytesLess c a with
  | false => rfl
  | true =>
    rcases less_tri a b with h1 | rfl | h1
    · rw [less_trans hb h1] at k; exact absurd k (by decide)
    · rw [hb] at k; exact absurd k (by decide)
    · rw [h1] at h; exact absurd h (by decide)
theorem minS_l (a b : List UInt8) : leS (minS a b) a := by
  unfold minS; split
  · rename_i h; exact less_asymm h
  · exact leS_refl a
theorem minS_r (a b : List UInt8) : leS (minS a b) b := by
  unfold minS; split
  · exact leS_refl b
  · rename_i h; unfold leS; simpa using h
theorem maxS_l (a b : List UInt8) : leS a (maxS a b) := by
  unfold maxS; split
  · rename_i h; exact less_asymm h
  · exact leS_refl a
theorem maxS_r (a b : List UInt8) : leS b (maxS a b) := by
  unfold maxS; split
  · exact leS_refl b
  · rename_i h; unfold leS; simpa using h
theorem spanG_cov (l : List Fl) : ∀ (o : Fl), leS (spanG o l).first o.first ∧ leS o.last (spanG o l).last ∧ ∀ f ∈ l, leS (spanG o l).first f.first ∧ leS f.last (spanG o l).last := by
  induction l with
  | nil => exact fun o => ⟨leS_refl _, leS_refl _, fun f hf => by cases hf⟩
  | cons x l ih =>
    intro o
    obtain ⟨h1, h2, h3⟩ := ih (spanStep o x)
    have e : spanG o (x :: l) = spanG (spanStep o x) l := rfl
    rw [e]
    refine ⟨leS_trans h1 (minS_l _ _), leS_trans (maxS_l _ _) h2, fun f hf => ?_⟩
    rcases List.mem_cons.1 hf with rfl | hf
    · exact ⟨leS_trans h1 (minS_r _ _), leS_trans (maxS_r _ _) h2⟩
    · exact h3 f hf
theorem spanH_cov (l : List Fl) : ∀ f ∈ l, leS (spanH l).first f.first ∧ leS f.last (spanH l).last := by
  cases l with
  | nil => exact fun f hf => by cases hf
  | cons x l => exact (spanG_cov (x :: l) x).2.2
/-- The numbers of a state that is right are all different. -/
theorem lgo_nums (next : Int) : ∀ (l pre : List Fl), lgo next pre l = 0 → (∀ f ∈ l, ∀ g ∈ pre, g.num ≠ f.num) ∧ (∀ f ∈ l, ∀ g ∈ l, f.num = g.num → f = g)
  | [], _, _ => ⟨fun f hf => (by cases hf), fun f hf => (by cases hf)⟩
  | x :: l, pre, h => by
    rw [lgo] at h
    by_cases hc : fcode next pre x = 0
    · rw [if_neg (fun n => n hc)] at h
      obtain ⟨i1, i2⟩ := lgo_nums next l _ h
      have hnf : ¬ frmF pre x := fun hf => by
        by_cases ha : argF next x
        · rw [fcode_arg ha] at hc; cases hc
        · rw [fcode_frm ha hf] at hc; cases hc
      have hx : ∀ g ∈ pre, g.num ≠ x.num := fun g hg he => hnf (.inr (.inr (.inr (by
        rw [List.contains_iff_mem, List.mem_map]; exact ⟨g, hg, he⟩))))
      refine ⟨fun f hf g hg => ?_, fun f hf g hg he => ?_⟩
      · rcases List.mem_cons.1 hf with rfl | hf
        · exact hx g hg
        · exact i1 f hf g (List.mem_append.2 (.inl hg))
      · rcases List.mem_cons.1 hf with ef | hf' <;> rcases List.mem_cons.1 hg with eg | hg'
        · rw [ef, eg]
        · exact absurd he (i1 g hg' f (by rw [ef]; simp))
        · exact absurd he.symm (i1 f hf' g (by rw [eg]; simp))
        · exact i2 f hf' g hg' he
    · rw [if_pos hc] at h
      exact absurd h hc
theorem lcheck_nums {s : Stt} (h : lcheck s = 0) : ∀ f ∈ s.fs, ∀ g ∈ s.fs, f.num = g.num → f = g := by
  unfold lcheck at h
  split at h
  · cases h
  · split at h
    · cases h
    · exact (lgo_nums _ _ _ h).2
def covF (key : List UInt8) (f : Fl) : Prop := leS f.first key ∧ leS key f.last
/-- A job that was picked is of files of its level. -/
def jobOf (s : Stt) (j : Jb) : Prop := lcheck s = 0 ∧ ∃ n l, j = jobF s.fs n l ∧ (∀ x ∈ l, x ∈ atF s.fs n) ∧ (n = 0 → l = atF s.fs 0)
end Go.Proofs.Ytnmnhnlebkebfaa
