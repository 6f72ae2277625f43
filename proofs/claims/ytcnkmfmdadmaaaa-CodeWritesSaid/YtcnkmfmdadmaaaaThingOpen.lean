/- Arguments that are lists of law02's things. -/
import Derived.Test.YtcnkmfmdadmaaaaOpen
import Derived.Test.YtcnkmfmdadmaaaaThing
import Derived.OpenShut
namespace Go.Proofs.Ytcnkmfmdadmaaaa
open Go.ChangeShapes Go.WideShapes Go.Deep Go.RowKit
section
variable {H : Type} {enc : TypeId × Value → H} {w : World}
theorem open_label {fuel : Nat} {cs : List Value} {x : DataW H × List MemPlace} (h : DataW.trod enc Try.prog w 0 (fun _ => true) true fuel 73 cs = some x) : ∃ y : Lab, cs = labC y := by
  obtain ⟨xs, m, rfl, hx, hcl, hxl, hf⟩ := DataW.trod_array Try.underlying73 h
  have hc : cs.length = 32 := hcl.trans (by kernel_rfl)
  have o5 : Try.prog.cellsOf 5 = 1 := by kernel_rfl
  rw [o5] at hf
  have key : ∀ i, i < 32 → ∃ c : UInt8, cs[i]? = some (.int .u8 (c.toNat : Int)) := by
    intro i hi
    have hfi := hf i hi
    rw [Nat.mul_one, List.getElem?_eq_getElem (by omega)] at hfi
    obtain ⟨n, e, _, hw⟩ := DataW.trod_int Try.underlying5 hfi
    simp [Lit.wf, IntKind.min, IntKind.max, IntKind.signed, IntKind.bits] at hw
    refine ⟨UInt8.ofNat n.toNat, ?_⟩
    have h1 : cs[i]? = ((cs.drop i).take 1)[0]? := by rw [List.getElem?_take_of_lt (by omega), List.getElem?_drop, Nat.add_zero]
    rw [h1, e]
    show some (Value.int IntKind.u8 n) = _
    rw [UInt8.toNat_ofNat', show ((n.toNat % 2 ^ 8 : Nat) : Int) = n by omega]
  have hex : ∃ l : List UInt8, l.length = 32 ∧ ∀ i (hi : i < 32), ∃ c, l[i]? = some c ∧ cs[i]? = some (.int .u8 (c.toNat : Int)) := by
    refine ⟨List.ofFn fun i : Fin 32 => Classical.choose (key i.1 i.2), List.length_ofFn, fun i hi => ⟨Classical.choose (key i hi), ?_, Classical.choose_spec (key i hi)⟩⟩
    rw [List.getElem?_eq_getElem (by rw [List.length_ofFn]; exact hi), List.getElem_ofFn]
  obtain ⟨l, hl, hg⟩ := hex
  refine ⟨⟨l, hl⟩, ?_⟩
  unfold labC
  rw [flat_byC]
  apply List.ext_getElem?
  intro i
  rw [List.getElem?_map]
  show cs[i]? = Option.map _ l[i]?
  by_cases hi : i < 32
  · obtain ⟨c, h1, h2⟩ := hg i hi
    rw [h1, h2]; rfl
  · rw [List.getElem?_eq_none (by omega), List.getElem?_eq_none (by omega)]; rfl
theorem open_thing {fuel : Nat} {cs : List Value} {x : DataW H × List MemPlace} (h : DataW.trod enc Try.prog w 0 (fun _ => true) true fuel 75 cs = some x) : ∃ y : Th, cs = thC y := by
  obtain ⟨xs, n, rfl, hx, hcl, hxl, hf⟩ := DataW.trod_struct Try.underlying75 h
  have hc : cs.length = 35 := hcl.trans (by kernel_rfl)
  clear hcl
  have hxl' : xs.length = 4 := hxl
  rcases cs with _ | ⟨c0, _ | ⟨c1, _ | ⟨c2, r⟩⟩⟩
  · simp at hc
  · simp at hc
  · simp at hc
  have hr : r.length = 32 := by simp at hc; omega
  have f0 : DataW.trod enc Try.prog w 0 (fun _ => true) true n 3 (((c0 :: c1 :: c2 :: r).drop 0).take (Try.prog.cellsOf 3)) = xs[0]? := hf 0 _ rfl
  have f1 : DataW.trod enc Try.prog w 0 (fun _ => true) true n 3 (((c0 :: c1 :: c2 :: r).drop 1).take (Try.prog.cellsOf 3)) = xs[1]? := hf 1 _ rfl
  have f2 : DataW.trod enc Try.prog w 0 (fun _ => true) true n 9 (((c0 :: c1 :: c2 :: r).drop 2).take (Try.prog.cellsOf 9)) = xs[2]? := hf 2 _ rfl
  have f3 : DataW.trod enc Try.prog w 0 (fun _ => true) true n 73 (((c0 :: c1 :: c2 :: r).drop 3).take (Try.prog.cellsOf 73)) = xs[3]? := hf 3 _ rfl
  have o3 : Try.prog.cellsOf 3 = 1 := by kernel_rfl
  have o9 : Try.prog.cellsOf 9 = 1 := by kernel_rfl
  have ol : Try.prog.cellsOf 73 = 32 := by kernel_rfl
  rw [o3] at f0 f1
  rw [o9] at f2
  rw [ol] at f3
  simp only [List.drop_zero, List.drop_succ_cons, List.take_succ_cons, List.take_zero] at f0 f1 f2
  rw [show ((c0 :: c1 :: c2 :: r).drop 3).take 32 = r from by rw [List.drop_succ_cons, List.drop_succ_cons, List.drop_succ_cons, List.drop_zero]; exact List.take_of_length_le (by omega)] at f3
  rw [List.getElem?_eq_getElem (by omega)] at f0 f1 f2 f3
  obtain ⟨k, e0, _, h0⟩ := DataW.trod_int Try.underlying3 f0
  obtain ⟨m, e1, _, h1⟩ := DataW.trod_int Try.underlying3 f1
  obtain ⟨s, e2, _, h2⟩ := DataW.trod_string Try.underlying9 f2
  obtain ⟨y, e3⟩ := open_label f3
  injection e0 with e0; injection e1 with e1; injection e2 with e2
  subst e0; subst e1; subst e2; subst e3
  simp [Lit.wf, IntKind.min, IntKind.max, IntKind.signed, IntKind.bits] at h1
  exact ⟨⟨k, m, s, y, by omega, h2⟩, rfl⟩
theorem open_things {fuel : Nat} {cs : List Value} {x : DataW H × List MemPlace} (h : DataW.trod enc Try.prog w 0 (fun _ => true) true fuel 70 cs = some x) :
    ∃ A cap ys, cs = [.slice A ys.length cap] ∧ ys.length ≤ cap ∧ cap ≤ maxLen ∧ SlA w (fun _ => True) thC 35 A ys := by
  obtain ⟨A, cap, ys, h1, h2, h3, h4, _⟩ := open_sl thC (size := 35) (fun _ => True) Try.underlying70 (by kernel_rfl) thC_length (by omega) (fun fuel cs x h => by
    obtain ⟨y, hy⟩ := open_thing h; exact ⟨y, hy, trivial⟩) h
  exact ⟨A, cap, ys, h1, h2, h3, h4⟩
end
end Go.Proofs.Ytcnkmfmdadmaaaa
