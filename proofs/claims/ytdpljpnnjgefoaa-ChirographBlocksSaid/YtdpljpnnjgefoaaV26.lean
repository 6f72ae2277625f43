/- A slice cut with a most: s[lo:hi:max]. -/
import Derived.Test.YtdpljpnnjgefoaaV22
import Derived.Lib.SliceRun
import Derived.Test.YtdpljpnnjgefoaaV16
namespace Go.Proofs.Ytdpljpnnjgefoaa
open Go Go.RowKit
theorem slice_bounds_run3 {P : Program} (isS : Bool) (len cap : Nat) (lo hi mx : Option Value) (n m q : Nat) (hlo : lo = none ∧ n = 0 ∨ ∃ k, lo = some (.int k (n : Int))) (hhi : ∃ k, hi = some (.int k (m : Int))) (hmx : ∃ k, mx = some (.int k (q : Int))) (hnm : n ≤ m) (hmq : m ≤ q) (hq : q ≤ cap) (w' : World) :
    (Instr.sliceBounds isS len cap lo hi mx).run P w' = .ok (n, m, q) w' := by
  have h1 : (n : Int) ≤ (m : Int) := by omega
  have h2 : (m : Int) ≤ (q : Int) := by omega
  have h3 : (q : Int) ≤ (cap : Int) := by omega
  obtain ⟨k3, rfl⟩ := hmx
  obtain ⟨k', rfl⟩ := hhi
  rcases hlo with ⟨rfl, rfl⟩ | ⟨k, rfl⟩ <;> simp [Instr.sliceBounds, Instr.sliceBound, asIntOf, Sem.run_bind, Sem.run_pure, h1, h2, h3, hnm, hmq]
section
variable {m : OM} {P : Program} {T : List (Nat × TI)} {C : Ctx} {ops : Array Oper} {l : List Oper} {K : St → Prop} {n : Nat} {sl : List (Nat × AV)} {hp : List (Nat × HO)} {d : Nat} {ty : Nat} {pos : String} {aft : Array Edge} {gd : Option (Nat × Bool)}
theorem o_sliceMax (hT : TTOk P T) (hw : gval ops ⟨n, sl, hp⟩ gd = gwant gd) {t : Nat} {x mx hi : Operand} {lo : Option Operand} {sz : Nat} {α : Type} {f : α → AV} {xs : List α} (i j q : Nat) {e sz0 by_ : Nat} {z : AV} {te : TI} {kq kh : IntKind} {iq ih : Int}
    (hx : ev ⟨n, sl, hp⟩ x = .sl sz (xs.map f)) (ht : tget T t = some ⟨.slice e, sz0, by_, z⟩) (he : tget T e = some te) (hsz : te.sz = sz) (hd : Nat.blt d n = true) (hlo : bndB ⟨n, sl, hp⟩ lo 0 i) (hhi : ev ⟨n, sl, hp⟩ hi = .i kh ih) (hih : ih = j) (hmx : ev ⟨n, sl, hp⟩ mx = .i kq iq) (hiq : iq = q) (hij : i ≤ j) (hjq : j ≤ q) (hq : q ≤ xs.length)
    (h : Ops m P C ops l ⟨n, (d, .sl sz (((xs.take j).drop i).map f)) :: sl, hp⟩ K) : Ops m P C ops (⟨some d, .slice t x lo (some hi) (some mx), ty, pos, aft, gd⟩ :: l) ⟨n, sl, hp⟩ K := by
  subst hiq; subst hih
  rw [List.map_drop, List.map_take] at h
  refine Ops.by (d := some d) hw none okc_none hd rfl (fun a w hs => ?_) h
  have Ex := ev_rep hs x
  rw [hx, repV_sl] at Ex
  obtain ⟨A, cap, e1, h1, h2, h3⟩ := Ex
  have hxl : (xs.map f).length = xs.length := List.length_map ..
  generalize xs.map f = ys at *
  have hl : ((ys.take j).drop i).length = j - i := by rw [List.length_drop, List.length_take]; omega
  have hhv : ∃ k, (some hi).map a.eval = some (.int k (j : Int)) := by
    have := ev_rep hs hi
    rw [hhi, repV_i] at this
    exact ⟨kh, by rw [Option.map_some, this]⟩
  have hmv : ∃ k, (some mx).map a.eval = some (.int k (q : Int)) := by
    have := ev_rep hs mx
    rw [hmx, repV_i] at this
    exact ⟨kq, by rw [Option.map_some, this]⟩
  refine ⟨.slice (if q = i then A else A.map (·.add (i * sz))) (j - i) (q - i), repV_sl.2 ⟨_, q - i, by rw [hl], by omega, by omega, fun hne => ?_⟩, fun w' _ => ?_⟩
  · have hlt : i < j := by
      rcases Nat.lt_or_ge i j with h | h
      · exact h
      · exfalso; apply hne; apply List.eq_nil_of_length_eq_zero; omega
    obtain ⟨b, off, rfl, hF, hr⟩ := h3 (by rintro rfl; simp at hxl; omega)
    refine ⟨b, off + i * sz, ?_, hF, repRow_drop i (repRow_take j hr)⟩
    rw [if_neg (by omega)]
    simp [Addr.add]
  · have hb := slice_bounds_run3 (P := P) true ys.length cap _ _ _ i j q (bndB_rep hs hlo) hhv hmv hij hjq (by omega) w'
    have hu := tk_slice (tget_ok hT ht)
    have hsz' := (tget_ok hT he).sizeRun w'
    rw [hsz] at hsz'
    simp only [execOp, e1, Instr.sliceAt, Instr.slice, Sem.run_bind, run_underlying hu, Result.andThen_ok, hb, hsz', Sem.run_pure]
theorem o_eqNilCp (hT : TTOk P T) (hw : gval ops ⟨n, sl, hp⟩ gd = gwant gd) {t u e : Nat} {x y : Operand} {c : AV} {sz0 by0 : Nat} {z0 : AV}
    (hx : ev ⟨n, sl, hp⟩ x = .cp c) (hy : ev ⟨n, sl, hp⟩ y = .nilp) (ht : tget T t = some ⟨.ptr e, sz0, by0, z0⟩) (hd : Nat.blt d n = true)
    (h : Ops m P C ops l ⟨n, (d, .b false) :: sl, hp⟩ K) : Ops m P C ops (⟨some d, .binOp .eql t x y u, ty, pos, aft, gd⟩ :: l) ⟨n, sl, hp⟩ K := by
  refine Ops.by (d := some d) hw none okc_none hd rfl (fun a w hs => ?_) h
  have Ex := ev_rep hs x
  have Ey := ev_rep hs y
  rw [hx, repV_cp] at Ex
  obtain ⟨b, off, vs, Ex, _, _, _⟩ := Ex
  rw [hy] at Ey
  obtain ⟨c2, hc2, Ey⟩ := Ey
  simp only [repC] at hc2
  subst hc2
  have hu : P.underlying t = some (.pointer e) := by
    obtain ⟨ds, hds, hk⟩ := (tget_ok hT ht).desc
    cases ds <;> simp [kOf] at hk; subst hk; exact hds
  have hp2 : P.underlying t = some (.pointer (P.pointee t)) := by
    rw [hu]; simp [Program.pointee, hu]
  refine ⟨.bool false, repV_b.2 rfl, fun w' _ => ?_⟩
  have hr := run_eql_pointer_nil (P := P) (w := w') t (some ⟨b, off, none⟩) hp2
  have Ey : a.eval y = .pointer none := Ey
  have hg : (eqGuard .eql t x y (.pointer (some ⟨b, off, none⟩)) (.pointer none)).run P w' = .ok () w' := by simp [eqGuard]
  simp only [execOp, Ex, Ey, Sem.run_bind, hg, hr, Result.andThen_ok, Sem.run_pure]
  rfl
end
end Go.Proofs.Ytdpljpnnjgefoaa
