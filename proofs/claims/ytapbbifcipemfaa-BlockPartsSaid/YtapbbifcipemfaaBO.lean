/- Entries that are right have rising keys. No program in sight. -/
import Derived.Test.YtapbbifcipemfaaB13
import Derived.Test.YtapbbifcipemfaaB2
namespace Go.Proofs.Ytapbbifcipemfaa
open Go Go.RowKit
theorem chkL_rise : ∀ (p : Option (List UInt8)) (l : List Etr), chkL p l = 0 → (∀ q, p = some q → ∀ x ∈ l, Op.bytesLess q x.k = true) ∧ l.Pairwise (fun a b => Op.bytesLess a.k b.k = true)
  | p, [], _ => ⟨fun _ _ x hx => (by cases hx), .nil⟩
  | p, y :: r, h => by
    unfold chkL at h
    split at h
    · rename_i h1; exact absurd h h1
    · rename_i h1
      obtain ⟨i1, i2⟩ := chkL_rise _ r h
      have i1 := i1 _ rfl
      refine ⟨fun q hq x hx => ?_, List.pairwise_cons.2 ⟨i1, i2⟩⟩
      subst hq
      have hy : Op.bytesLess q y.k = true := by
        have h2 : chkE (some q) y = 0 := Classical.byContradiction fun h => h1 h
        unfold chkE at h2
        split at h2
        · exact absurd h2 (by decide)
        · split at h2
          · exact absurd h2 (by decide)
          · dsimp only at h2
            split at h2
            · assumption
            · exact absurd h2 (by decide)
      rcases List.mem_cons.1 hx with rfl | hx
      · exact hy
      · exact less_trans hy (i1 x hx)
theorem checkN_rise {l : List Etr} (h : checkN l = 0) : l.Pairwise (fun a b => Op.bytesLess a.k b.k = true) := by
  unfold checkN at h
  split at h
  · exact absurd h (by decide)
  · exact (chkL_rise _ l h).2
theorem rise_lt {l : List Etr} (h : l.Pairwise (fun a b => Op.bytesLess a.k b.k = true)) (i j : Nat) (hi : i < l.length) (hj : j < l.length) (hij : i < j) : Op.bytesLess l[i].k l[j].k = true :=
  List.pairwise_iff_getElem.1 h i j hi hj hij
theorem rise_mono {l : List Etr} (h : l.Pairwise (fun a b => Op.bytesLess a.k b.k = true)) (k : List UInt8) (i j : Nat) (hi : i < l.length) (hj : j < l.length) (hij : i ≤ j) (hk : Op.bytesLess l[j].k k = true) : Op.bytesLess l[i].k k = true := by
  rcases Nat.lt_or_eq_of_le hij with h1 | h1
  · exact less_trans (rise_lt h i j hi hj h1) hk
  · subst h1; exact hk
/-- The place of an entry's own key. -/
theorem plc_self {l : List Etr} (h : l.Pairwise (fun a b => Op.bytesLess a.k b.k = true)) (i : Nat) (hi : i < l.length) : plc l l[i].k = i := by
  refine count_place _ l i (Nat.le_of_lt hi) (fun j hj hji => rise_lt h j i hj hi hji) (fun j hj hij => ?_)
  rcases Nat.lt_or_eq_of_le hij with h1 | h1
  · exact less_asymm (rise_lt h i j hi hj h1)
  · subst h1; exact less_irr _
/-- What is ahead of a key's place is below it. -/
theorem plc_lt {l : List Etr} (h : l.Pairwise (fun a b => Op.bytesLess a.k b.k = true)) (k : List UInt8) (i : Nat) (hi : i < l.length) : Op.bytesLess l[i].k k = decide (i < plc l k) := by
  induction l generalizing i with
  | nil => cases hi
  | cons x l ih =>
    obtain ⟨h1, h2⟩ := List.pairwise_cons.1 h
    have hp : plc (x :: l) k = plc l k + if Op.bytesLess x.k k = true then 1 else 0 := List.countP_cons
    rw [hp]
    cases hx : Op.bytesLess x.k k
    · have h0 : plc l k = 0 := by
        unfold plc; rw [List.countP_eq_zero]
        intro y hy hyk
        rw [less_trans (h1 y hy) hyk] at hx; exact absurd hx (by decide)
      rw [h0, if_neg (by decide)]
      rcases i with _ | i
      · exact hx
      · cases hy : Op.bytesLess (x :: l)[i + 1].k k
        · rfl
        · rw [less_trans (h1 _ (List.getElem_mem (Nat.lt_of_succ_lt_succ hi))) hy] at hx; exact absurd hx (by decide)
    · rw [if_pos rfl]
      rcases i with _ | i
      · show Op.bytesLess x.k k = _
        rw [hx]; exact (decide_eq_true (Nat.succ_pos _)).symm
      · show Op.bytesLess (l[i]'(Nat.lt_of_succ_lt_succ hi)).k k = _
        rw [ih h2 i (Nat.lt_of_succ_lt_succ hi)]
        exact decide_eq_decide.2 ⟨Nat.succ_lt_succ, Nat.lt_of_succ_lt_succ⟩
end Go.Proofs.Ytapbbifcipemfaa
