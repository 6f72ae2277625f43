/- Arguments that are lists of entries, and lists of these. -/
import Derived.Test.YtcnkmfmdadmaaaaOpen
import Derived.Test.YtcnkmfmdadmaaaaLL
namespace Go.Proofs.Ytcnkmfmdadmaaaa
open Go.ChangeShapes Go.WideShapes Go.Deep Go.RowKit

theorem list3 {α : Type} {l : List α} (h : l.length = 3) : ∃ a b c, l = [a, b, c] := by
  match l, h with
  | [a, b, c], _ => exact ⟨a, b, c, rfl⟩
section
variable {H : Type} {enc : TypeId × Value → H} {w : World}
theorem open_ent {fuel : Nat} {cs : List Value} {x : DataW H × List MemPlace} (h : DataW.trod enc Try.prog w 0 (fun _ => true) true fuel 31 cs = some x) : ∃ y : Ent, cs = entC y ∧ y.key.size ≤ maxLen ∧ y.val.size ≤ maxLen := by
  obtain ⟨xs, n, rfl, hx, hcl, hxl, hf⟩ := DataW.trod_struct Try.underlying31 h
  have hc : cs.length = 3 := hcl.trans (by kernel_rfl)
  obtain ⟨c0, c1, c2, rfl⟩ := list3 hc
  clear hcl
  have hxl' : xs.length = 3 := hxl
  have f0 : DataW.trod enc Try.prog w 0 (fun _ => true) true n 9 (([c0, c1, c2].drop 0).take (Try.prog.cellsOf 9)) = xs[0]? := hf 0 _ rfl
  have f1 : DataW.trod enc Try.prog w 0 (fun _ => true) true n 9 (([c0, c1, c2].drop 1).take (Try.prog.cellsOf 9)) = xs[1]? := hf 1 _ rfl
  have f2 : DataW.trod enc Try.prog w 0 (fun _ => true) true n 4 (([c0, c1, c2].drop 2).take (Try.prog.cellsOf 4)) = xs[2]? := hf 2 _ rfl
  have o9 : Try.prog.cellsOf 9 = 1 := by kernel_rfl
  have o4 : Try.prog.cellsOf 4 = 1 := by kernel_rfl
  simp only [o9, o4, List.drop_zero, List.drop_succ_cons, List.take_succ_cons, List.take_zero] at f0 f1 f2
  rw [List.getElem?_eq_getElem (by omega)] at f0 f1 f2
  obtain ⟨s0, e0, _, h0⟩ := DataW.trod_string Try.underlying9 f0
  obtain ⟨s1, e1, _, h1⟩ := DataW.trod_string Try.underlying9 f1
  obtain ⟨s2, e2, _⟩ := DataW.trod_bool Try.underlying4 f2
  injection e0 with e0; injection e1 with e1; injection e2 with e2
  subst e0; subst e1; subst e2
  exact ⟨⟨s0, s1, s2⟩, rfl, h0, h1⟩
theorem open_ents {fuel : Nat} {cs : List Value} {x : DataW H × List MemPlace} (h : DataW.trod enc Try.prog w 0 (fun _ => true) true fuel 23 cs = some x) :
    ∃ A cap ys, cs = [.slice A ys.length cap] ∧ ys.length ≤ cap ∧ cap ≤ maxLen ∧ EntA w (fun _ => True) A ys := by
  obtain ⟨A, cap, ys, h1, h2, h3, h4, _⟩ := open_sl entC (size := 3) (fun _ => True) Try.underlying23 (by kernel_rfl) entC_length (by omega) (fun fuel cs x h => by
    obtain ⟨y, hy, _⟩ := open_ent h; exact ⟨y, hy, trivial⟩) h
  exact ⟨A, cap, ys, h1, h2, h3, h4⟩
theorem open_ll {fuel : Nat} {cs : List Value} {x : DataW H × List MemPlace} (h : DataW.trod enc Try.prog w 0 (fun _ => true) true fuel 22 cs = some x) :
    ∃ A cap ls, cs = [.slice A ls.length cap] ∧ ls.length ≤ cap ∧ cap ≤ maxLen ∧ LL w (fun _ => True) (fun _ => True) A ls := by
  obtain ⟨A, cap, ys, h1, h2, h3, h4, h5⟩ := open_sl (α := SV × List Ent) (fun y => svC y.1) (size := 1) (fun y => EntS w (fun _ => True) y.1.val y.2) Try.underlying22 (by kernel_rfl) (fun y => svC_length y.1) (by omega) (fun fuel cs x h => by
    obtain ⟨A, cap, ys, g1, g2, g3, g4⟩ := open_ents h
    exact ⟨(⟨A, ys.length, cap⟩, ys), g1, A, cap, rfl, g2, g3, g4⟩) h
  refine ⟨A, cap, ys.map (·.2), by simpa using h1, by simpa using h2, h3, ys.map (·.1), by simp, ?_, ?_⟩
  · intro hne
    obtain ⟨b, off, hA, hF, hc⟩ := h4 (by rintro rfl; simp at hne)
    refine ⟨b, off, hA, hF, fun k v hk j u hu => ?_⟩
    rw [List.getElem?_map] at hk
    obtain ⟨y, hy, rfl⟩ := Option.map_eq_some_iff.1 hk
    exact hc k y hy j u hu
  · intro i v l hv hl
    rw [List.getElem?_map] at hv hl
    obtain ⟨y, hy, rfl⟩ := Option.map_eq_some_iff.1 hv
    rw [hy] at hl
    simp at hl; subst hl
    exact h5 y (List.mem_of_getElem? hy)
end
end Go.Proofs.Ytcnkmfmdadmaaaa
