/- law02's things: how they lie in memory; law02.few, code.Writer.Label, ref02.Label walked. -/
import Derived.Test.YtcnkmfmdadmaaaaRef02b
import Derived.Test.YtcnkmfmdadmaaaaEnt
namespace Go.Proofs.Ytcnkmfmdadmaaaa
open Go.RowKit

/-- A label's bytes. -/
structure Lab where
  l : List UInt8
  h : l.length = 32
def labC (x : Lab) : List Value := x.l.flatMap byC
theorem flat_byC_len (l : List UInt8) : (l.flatMap byC).length = l.length := by rw [flat_byC, List.length_map]
theorem labC_length (x : Lab) : (labC x).length = 32 := by unfold labC; rw [flat_byC_len, x.h]
theorem labC_one (x : Lab) : ∀ u ∈ labC x, u.oneCell' = true := by
  intro u hu
  obtain ⟨c, _, hc⟩ := List.mem_flatMap.1 hu
  exact byC_one c u hc
/-- What law02 writes and reads. -/
structure Th where
  k : Int
  n : Int
  s : ByteArray
  lab : Lab
  hn : n < 9223372036854775808
  hs : s.size ≤ maxLen
def thC (x : Th) : List Value := .int .i64 x.k :: .int .i64 x.n :: .string x.s :: labC x.lab
theorem thC_length (x : Th) : (thC x).length = 35 := by unfold thC; simp [labC_length]
theorem thC_one (x : Th) : ∀ u ∈ thC x, u.oneCell' = true := by
  intro u hu
  unfold thC at hu
  rcases List.mem_cons.1 hu with rfl | hu
  · rfl
  rcases List.mem_cons.1 hu with rfl | hu
  · rfl
  rcases List.mem_cons.1 hu with rfl | hu
  · rfl
  · exact labC_one _ u hu
theorem thElem : Elem Try.prog 70 75 35 64 := elem_of Try.underlying70 (by kernel_rfl)

theorem strN (w : World) (x : Lab) : (convert 37 9 (.slice (some ⟨w.heap.size, 0, none⟩) 32 32)).run Try.prog (w.alloc (.cells (labC x).toArray 73)) = .ok (.string (bytesOf x.l)) (w.alloc (.cells (labC x).toArray 73)) :=
  run_str (l := x.l) (SlA.of_blk (Blk.new w 73 _) byC_length rfl) x.h.symm
set_option maxRecDepth 100000 in
theorem refLabel_any (x : Lab) (w : World) :
    Calls Try.prog 47 #[.agg (labC x).toArray] w fun e w' => e = .returned (.string (bytesOf x.l)) ∧ Below w.heap.size w w' := by
  have hst := strN w x
  have HL : Box ((labC x).toArray.size = 32) := Box.mk (labC_length x)
  generalize (labC x).toArray = L at hst HL ⊢
  go_enter Try.func47, Try.ntmps47
  go_wp2
  go_ret
  exact ⟨rfl, (Below.refl _ _).alloc (Nat.le_refl _) _⟩

set_option maxHeartbeats 800000 in
set_option maxRecDepth 100000 in
theorem few02_any (A : Option Addr) (cap : Nat) (l : List Th) (F : Nat → Prop) (w : World) (hs : SlA w F thC 35 A l) (hc : l.length ≤ cap) (hm : l.length ≤ maxLen) :
    Calls Try.prog 43 #[.slice A l.length cap, .int .i64 40] w fun e w' => ∃ v, e = .returned v ∧ Own w' w.heap.size 75 thC 35 v (l.take 40) ∧ Below w.heap.size w w' := by
  have hE := Lib.hid thElem
  by_cases hb : 40 < l.length
  · have hcut := run_cut_hi thElem A l.length cap 40 (by omega) w
    have hlen : (40 : Nat) = (l.take 40).length := by rw [List.length_take]; omega
    have HLn := Box.mk hlen
    have hb' : (40 : Int) < (l.length : Int) := by omega
    have hst := hs.take 40
    clear hlen hb hm
    rw [show (((40 : Nat) : Int)) = 40 from rfl] at hcut
    go_enter Try.func43, Try.ntmps43
    go_wp2_with (at_builtin; refine wpList_appS (by rfl) (.tmp 12) (.tmp 13) (by rfl) hE.out thC_length thC_one (xs := []) (by rfl) (by exact Own.empty _ _ _ _ (Nat.le_refl _)) (A := A) (n := 40) (c := cap) (l.take 40) (by rfl) HLn.out (by exact hst.below ((Below.refl _ _).alloc (Nat.le_refl _) _)) 1000 (by rw [← HLn.out]; simp) (by omega) (by unfold maxLen; omega) (by simp) ?_; intro v3 w3 ho3 hg3 hv3)
    go_ret
    exact ⟨_, rfl, ho3, ((Below.refl _ _).alloc (Nat.le_refl _) _).grown hg3 (by simp) (fun k hk => by have h : w.heap.size = k := Option.some.inj hk; omega)⟩
  · have hb' : (l.length : Int) ≤ 40 := by omega
    have htk : l.take 40 = l := List.take_of_length_le (by omega)
    have HB := Box.mk (show l.length ≤ 40 by omega)
    rw [htk]
    clear hb hm htk
    go_enter Try.func43, Try.ntmps43
    go_wp2_with (at_builtin; refine wpList_appS (by rfl) (.tmp 12) (.tmp 13) (by rfl) hE.out thC_length thC_one (xs := []) (by rfl) (by exact Own.empty _ _ _ _ (Nat.le_refl _)) (A := A) (n := l.length) (c := cap) l (by rfl) rfl (by exact hs.below ((Below.refl _ _).alloc (Nat.le_refl _) _)) 1000 (by have := HB.out; simp; omega) (by omega) (by unfold maxLen; omega) (by simp) ?_; intro v3 w3 ho3 hg3 hv3)
    go_ret
    exact ⟨_, rfl, ho3, ((Below.refl _ _).alloc (Nat.le_refl _) _).grown hg3 (by simp) (fun k hk => by have h : w.heap.size = k := Option.some.inj hk; omega)⟩
end Go.Proofs.Ytcnkmfmdadmaaaa
