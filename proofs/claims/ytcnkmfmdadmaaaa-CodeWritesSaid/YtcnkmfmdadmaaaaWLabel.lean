/- code.Writer.Label walked. -/
import Derived.Test.YtcnkmfmdadmaaaaThing
import Derived.Deep.RegionLaw
namespace Go.Proofs.Ytcnkmfmdadmaaaa
open Go.RowKit
section
variable {α : Type} {enc : α → List Value} {size bytes : Nat} {P : Program} {t e : TypeId} {B : Nat} {w : World}
theorem step_appS {ops : Array Oper} {o : Oper} {a : Act} {K : Act → World → Prop} {Q : Exit → Act → World → Prop} {E : Prop} (hgd : o.guard = none) (s x : Operand)
    (ho : o.op = .call { callee := .builtin .append, args := #[s, x], argTypes := #[t, t] })
    (hE : Elem P t e size bytes) (he : ∀ x, (enc x).length = size) (h1 : ∀ y, ∀ u ∈ enc y, u.oneCell' = true)
    {v : Value} {xs : List α} (hs : a.eval s = v) (hown : Own w B e enc size v xs)
    {A : Option Addr} {n c : Nat} (ys : List α) (hx : a.eval x = .slice A n c) (hn : n = ys.length) {F : Nat → Prop} (hsl : SlA w F enc size A ys)
    (N : Nat) (hlen : xs.length + ys.length ≤ N) (hN : N * bytes ≤ 140737488355328) (h63 : N ≤ maxLen) (hbase : B ≤ w.heap.size)
    (h : ∀ v' w', Own w' B e enc size v' (xs ++ ys) → w.grownBy w' v.ownBlock → (v'.ownBlock = v.ownBlock ∨ v'.ownBlock = some w.heap.size) → K (a.put o.dst v') w') :
    if Region.wanted o (yielded ops a.tmps) = true then Oper.wp P o a w K Q else E := by
  have hw : Region.wanted o (yielded ops a.tmps) = true := by simp [Region.wanted, hgd]
  rw [if_pos hw]
  exact wp_appS s x ho hE he h1 hs hown ys hx hn hsl N hlen hN h63 hbase h
end
set_option maxHeartbeats 800000 in
set_option maxRecDepth 100000 in
theorem wlabel_any (b : Nat) (x : Lab) (v : Value) (s : WS) (hs : s.bs.length ≤ 900000000000) (w : World) (hw : IsW w b v s) :
    Calls Try.prog 46 #[.pointer (some ⟨b, 0, none⟩), .agg (labC x).toArray] w fun e w' => e = .returned (.tuple #[]) ∧ WTo w w' b v (s.put x.l) := by
  have hE := Lib.hid byElem
  have hw1 : IsW (w.alloc (.cells (labC x).toArray 73)) b v s := hw.below ((Below.refl _ _).alloc (Nat.le_refl _) _)
  have hb1 : Below w.heap.size w (w.alloc (.cells (labC x).toArray 73)) := (Below.refl _ _).alloc (Nat.le_refl _) _
  have hsl : SlA (w.alloc (.cells (labC x).toArray 73)) (fun k => k = w.heap.size) byC 1 (some ⟨w.heap.size, 0, none⟩) x.l := SlA.of_blk (Blk.new w 73 _) byC_length rfl
  have HL : Box ((labC x).toArray.size = 32) := Box.mk (labC_length x)
  have hlen : s.bs.length + x.l.length ≤ 2000000000000 := by rw [x.h]; omega
  have HN := Box.mk x.h
  have hxl : ∀ y : List UInt8, Box (y.length = 32) → Box (32 = y.length) := fun y h => Box.mk h.out.symm
  generalize (labC x).toArray = L at hw1 hb1 hsl HL ⊢
  generalize x.l = l at hsl hlen HN ⊢
  have HN2 := hxl _ HN
  clear hxl
  go_enter Try.func46, Try.ntmps46
  go_wp2_with (fail)
  generalize w.alloc (.cells L 73) = w1 at hw1 hb1 hsl ⊢
  obtain ⟨h0, h1⟩ := hw1.cells
  have hfz := hw1.1.frozen 0
  go_region_law (refine step_appS (by rfl) (.tmp 8) (.tmp 9) (by rfl) hE.out byC_length byC_one (v := v) (by rfl) (by exact hw1.drew.2.1) (A := some ⟨w.heap.size, 0, none⟩) (n := 32) (c := 32) l (by rfl) HN2.out (by exact hsl) 2000000000000 hlen (by omega) (by unfold maxLen; omega) (by simp) ?_; intro v' w3 ho3 hg3 hv3; obtain ⟨A3, c3, hv', -, -, -⟩ := ho3.sl byC_length; generalize (s.bs ++ l).length = n4 at hv'; subst hv'; have hcell := (hw1.drew.grown_cells hg3).cell 0; have hfz3 := (hw1.drew.grown_cells hg3).frozen 0; simp only [List.getElem?_toArray, List.getElem?_cons_zero] at hcell)
  all_goals
    have W3 : WTo w (w3.setCell ⟨b, 0, none⟩ (.slice A3 n4 c3)) b v ⟨s.bs ++ l, s.e⟩ := WTo.ahead (hb1.drew) (WTo.put hw1.drew hg3 ho3 hv3)
    go_end0
    exact ⟨rfl, W3⟩
end Go.Proofs.Ytcnkmfmdadmaaaa
