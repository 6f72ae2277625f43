/- append of a slice that came in: nil, empty or not. No program in sight. -/
import Derived.Test.YtapbbifcipemfaaBase
namespace Go.Proofs.Ytapbbifcipemfaa
open Go.RowKit

section
variable {P : Program} {α : Type} {enc : α → List Value} {size bytes : Nat} {w : World} {B : Nat} {t e : TypeId} {v : Value} {xs ys : List α}
end
theorem Sl.step {α : Type} {enc : α → List Value} {size : Nat} {w w' : World} {F G S : Nat → Prop} {v : Value} {xs : List α} (h : Sl w F enc size v xs) (he : ∀ x, 0 < (enc x).length) (hm : Mod S w w') (hF : ∀ k, F k → ¬ S k) (hG : ∀ k, F k → k < w.heap.size → G k) : Sl w' G enc size v xs := by
  obtain ⟨A, cap, rfl, h1, h2, hs⟩ := h
  refine ⟨A, cap, rfl, h1, h2, fun hx => ?_⟩
  have hlt := fun b off hA => SlA.lt_ hs hx he (b := b) (off := off) hA
  obtain ⟨b, off, hA, hB, hc⟩ := hs hx
  exact ⟨b, off, hA, hG b hB (hlt b off hA), fun k x hk j u hu => hm.cell_some (hc k x hk j u hu) (hF b hB)⟩
end Go.Proofs.Ytapbbifcipemfaa
