/- law02's reference: Text, Flag; code.Writer.Flag. -/
import Derived.Test.YtcnkmfmdadmaaaaRef02
namespace Go.Proofs.Ytcnkmfmdadmaaaa
open Go.RowKit
theorem bytesOf_data (s : ByteArray) : bytesOf s.data.toList = s := by cases s; rfl
set_option maxRecDepth 100000 in
theorem refText_any (s : ByteArray) (hs : s.size ≤ 8388608) (w : World) :
    Calls Try.prog 45 #[.string s] w fun e w' => e = .returned (.string (bytesOf (numBytes s.size ++ s.data.toList))) ∧ Below w.heap.size w w' := by
  have hs1 : ((bytesOf (numBytes s.size)).size : Int) ≤ 8388608 := by rw [bytesOf_size]; have := digits_le 8 s.size (by omega); unfold numBytes; rw [List.length_cons]; omega
  have hs2 : (s.size : Int) ≤ 8388608 := by omega
  have HR := Box.mk (bytesOf_app (numBytes s.size) s.data.toList)
  rw [bytesOf_data] at HR
  go_enter Try.func45, Try.ntmps45
  go_wp2_with fail
  refine (refNumber_any s.size (by omega) w).mono ?_
  rintro e w1 ⟨rfl, h1⟩
  go_wp2
  go_ret
  exact ⟨congrArg (fun x => Ending.returned (Value.string x)) HR.out, h1⟩
theorem refFlag_any (c : Bool) (w : World) :
    Calls Try.prog 49 #[.bool c] w fun e w' => e = .returned (.string (bytesOf [if c then 1 else 0])) ∧ Below w.heap.size w w' := by
  cases c
  all_goals
    go_enter Try.func49, Try.ntmps49
    go_wp2
    go_ret
    exact ⟨rfl, Below.refl _ _⟩

set_option maxHeartbeats 400000 in
set_option maxRecDepth 100000 in
theorem wflag_any (b : Nat) (c : Bool) (v : Value) (s : WS) (hs : s.bs.length ≤ 900000000000) (w : World) (hw : IsW w b v s) :
    Calls Try.prog 48 #[.pointer (some ⟨b, 0, none⟩), .bool c] w fun e w' => e = .returned (.tuple #[]) ∧ WTo w w' b v (s.put [if c then 1 else 0]) := by
  obtain ⟨h0, h1⟩ := hw.cells
  have hE := Lib.hid byElem
  have hwa : ∀ o, IsW (w.alloc o) b v s := fun o => hw.below ((Below.refl _ _).alloc (Nat.le_refl _) o)
  have hlen : s.bs.length < 2000000000000 := by omega
  cases c
  case' false => obtain ⟨y, hy⟩ : ∃ y, y = (0 : UInt8) := ⟨_, rfl⟩
  case' true => obtain ⟨y, hy⟩ : ∃ y, y = (1 : UInt8) := ⟨_, rfl⟩
  all_goals
    go_enter Try.func48, Try.ntmps48
    go_wp2_with (at_builtin; refine wpList_app1 (by rfl) (.tmp 10) (.tmp 12) (by rfl) hE.out byC_length byC_one (by rfl) (by exact (hwa _).2.1) (g := w.heap.size) 1 y (by rfl) (by exact Blk.new_ (by simp)) (by rw [hy]; rfl) 2000000000000 hlen (by omega) (by unfold maxLen; omega) (by simp) ?_; intro v' w3 ho3 hg3 hv3; obtain ⟨A3, c3, hv', -, -, -⟩ := ho3.sl byC_length; generalize (s.bs ++ [y]).length = n3 at hv'; subst hv'; have hc3 := (hwa _).grown_cells hg3; have hcell := hc3.cell 0; have hfz := hc3.frozen 0; simp only [List.getElem?_toArray, List.getElem?_cons_zero] at hcell)
    have W1 : WTo w (w3.setCell ⟨b, 0, none⟩ (.slice A3 n3 c3)) b v ⟨s.bs ++ [y], s.e⟩ := WTo.ahead ((Below.refl _ _).alloc (Nat.le_refl _) _) (WTo.put (hwa _) hg3 ho3 hv3)
    go_end0
    rw [hy] at W1
    exact ⟨rfl, W1⟩
end Go.Proofs.Ytcnkmfmdadmaaaa
