/- How the arguments of a statement are opened: slices of anything, entries. -/
import Derived.Test.YtcnkmfmdadmaaaaBase
import Derived.ProofKit
import Derived.Deep.Slices
import Derived.Deep.Fields
namespace Go.Proofs.Ytcnkmfmdadmaaaa
open Go.ChangeShapes Go.WideShapes Go.Deep Go.RowKit

section
variable {H : Type} {enc : TypeId × Value → H} {P : Program} {w : World}
theorem open_sl {α : Type} (en : α → List Value) {size : Nat} (Q : α → Prop) {t e : TypeId} (ht : P.underlying t = some (.slice e)) (hc : P.cellsOf e = size) (hen : ∀ y, (en y).length = size) (hpos : 0 < size)
    (hel : ∀ fuel cs x, DataW.trod enc P w 0 (fun _ => true) true fuel e cs = some x → ∃ y, cs = en y ∧ Q y)
    {fuel : Nat} {cs : List Value} {x : DataW H × List MemPlace} (h : DataW.trod enc P w 0 (fun _ => true) true fuel t cs = some x) :
    ∃ A cap ys, cs = [.slice A ys.length cap] ∧ ys.length ≤ cap ∧ cap ≤ maxLen ∧ SlA w (fun _ => True) en size A ys ∧ ∀ y ∈ ys, Q y := by
  rcases open_slice ht h with ⟨h0, _⟩ | ⟨a, len, cap, m, n, D, Pl, hcs, hb, hl, hm, hmm, hx, hi⟩
  · exact ⟨none, 0, [], h0, Nat.le_refl _, Nat.zero_le _, SlA.nil, fun y hy => by cases hy⟩
  · have hmc : m = cap := by rw [hmm, if_pos rfl]
    have hel' : ∀ i : Fin len, ∃ y, w.cells? 0 (a.add (i.1 * size)) size = some (en y) ∧ Q y := by
      intro i
      obtain ⟨cs', hc', ht'⟩ := hi i.1 (by omega)
      rw [hc] at hc'
      obtain ⟨y, rfl, hq⟩ := hel _ _ _ ht'
      exact ⟨y, hc', hq⟩
    let ys := List.ofFn fun i : Fin len => Classical.choose (hel' i)
    have hyl : ys.length = len := List.length_ofFn
    have hyg : ∀ (i : Nat) (hi : i < ys.length), ys[i] = Classical.choose (hel' ⟨i, by omega⟩) := fun i hi => List.getElem_ofFn hi
    refine ⟨some a, cap, ys, by rw [hcs, hyl], by omega, hm, fun hne => ?_, fun y hy => ?_⟩
    · have cells : ∀ (k : Nat) y, ys[k]? = some y → ∀ j u, (en y)[j]? = some u → w.cell? ((a.add (k * size)).add j) = some u := by
        intro k y hk j u hu
        obtain ⟨hk', hy⟩ := List.getElem?_eq_some_iff.1 hk
        rw [hyg k hk'] at hy
        obtain ⟨h1, h2⟩ := Classical.choose_spec (hel' ⟨k, by omega⟩)
        rw [hy] at h1
        obtain ⟨_, _, h3⟩ := World.cells?_some h1
        have hj : j < size := by have := (List.getElem?_eq_some_iff.1 hu).1; rwa [hen] at this
        rw [h3 j hj]; exact hu
      have hspot : a.spot = none := by
        have h0 : 0 < ys.length := List.length_pos_iff.2 hne
        have hu : (en ys[0])[0]? = some ((en ys[0])[0]'(by rw [hen]; omega)) := List.getElem?_eq_getElem (by rw [hen]; omega)
        have := cells 0 ys[0] (List.getElem?_eq_getElem h0) 0 _ hu
        have := World.cell?_spot this
        simpa [Addr.add] using this
      obtain ⟨b, off, sp⟩ := a
      simp only at hspot
      subst hspot
      refine ⟨b, off, rfl, trivial, fun k y hk j u hu => ?_⟩
      have := cells k y hk j u hu
      rw [show ((⟨b, off, none⟩ : Addr).add (k * size)).add j = ⟨b, off + k * size + j, none⟩ by
        unfold Addr.add; split <;> split <;> simp_all] at this
      exact this
    · obtain ⟨i, hi', rfl⟩ := List.mem_iff_getElem.1 hy
      rw [hyg i hi']
      exact (Classical.choose_spec (hel' ⟨i, by omega⟩)).2
end
end Go.Proofs.Ytcnkmfmdadmaaaa
