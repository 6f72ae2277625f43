/- A slice compared with nil; a cut of an owned row whose value nobody uses. -/
import Derived.Test.YtapbbifcipemfaaV22
import Derived.Lib.SliceRun
namespace Go.Proofs.Ytapbbifcipemfaa
open Go Go.RowKit
section
variable {m : OM} {P : Program} {T : List (Nat × TI)} {C : Ctx} {ops : Array Oper} {l : List Oper} {K : St → Prop} {n : Nat} {sl : List (Nat × AV)} {hp : List (Nat × HO)} {d : Nat} {ty : Nat} {pos : String} {aft : Array Edge} {gd : Option (Nat × Bool)}
/-- A slice that may be nil: only if it has no element. -/
theorem o_eqNilSl (hT : TTOk P T) (hw : gval ops ⟨n, sl, hp⟩ gd = gwant gd) {t u e sz : Nat} {x y : Operand} {xs : List AV} {sz0 by0 : Nat} {z0 : AV}
    (hx : ev ⟨n, sl, hp⟩ x = .sl sz xs) (hy : ev ⟨n, sl, hp⟩ y = .nil) (ht : tget T t = some ⟨.slice e, sz0, by0, z0⟩) (hd : Nat.blt d n = true)
    (h : ∀ c : Bool, (c = true → xs = []) → Ops .text P C ops l ⟨n, (d, .b c) :: sl, hp⟩ K) : Ops .text P C ops (⟨some d, .binOp .eql t x y u, ty, pos, aft, gd⟩ :: l) ⟨n, sl, hp⟩ K := by
  refine ⟨fun Q E a w hs hK => ?_⟩
  have hw2 := wanted_of (d := some d) (op := .binOp .eql t x y u) (ty := ty) (pos := pos) (aft := aft) hs hw
  intro he
  show wpList P ops Q (_ :: l) a w
  have Ex := ev_rep hs x
  have Ey := ev_rep hs y
  rw [hx, repV_sl] at Ex
  rw [hy, repV_nil] at Ey
  obtain ⟨A, cap, e1, h1, h2, h3⟩ := Ex
  have hu := tk_slice (tget_ok hT ht)
  refine wpList_of_wp hw2 ?_
  have hr := Lib.run_eql_slice_nil (P := P) w t e A xs.length cap 0 0 hu
  have hg : (eqGuard .eql t x y (.slice A xs.length cap) (.slice none 0 0)).run P w = .ok () w := by simp [eqGuard]
  unfold Oper.wp
  simp only [execOp, e1, Ey, Sem.run_bind, hg, hr, Result.andThen_ok, Sem.run_pure]
  refine (h A.isNone (fun hA => ?_)).out Q E _ w (hs.put (blt_lt hd) (repV_b.2 rfl)) hK he
  rcases Classical.em (xs = []) with h0 | h0
  · exact h0
  · obtain ⟨b, off, rfl, _⟩ := h3 h0
    cases hA
/-- A cut of an owned row; what comes of it is not used. -/
theorem o_sliceOwnAny (hT : TTOk P T) (hw : gval ops ⟨n, sl, hp⟩ gd = gwant gd) {t : Nat} {x : Operand} {lo hi : Option Operand} {k : Nat} {v : Value} {ee sz : Nat} {xs : List AV} (i j : Nat) {e sz0 by_ : Nat} {z : AV} {te : TI}
    (hx : ev ⟨n, sl, hp⟩ x = .own k v) (hg : hget hp k = some (.row v ee sz xs)) (hlo : bndB ⟨n, sl, hp⟩ lo 0 i) (hhi : bndB ⟨n, sl, hp⟩ hi xs.length j) (ht : tget T t = some ⟨.slice e, sz0, by_, z⟩) (he : tget T e = some te)
    (hd : Nat.blt d n = true) (hij : i ≤ j) (hj : j ≤ xs.length) (h : Ops m P C ops l ⟨n, (d, .any) :: sl, hp⟩ K) : Ops m P C ops (⟨some d, .slice t x lo hi none, ty, pos, aft, gd⟩ :: l) ⟨n, sl, hp⟩ K := by
  refine Ops.by (d := some d) hw none okc_none hd rfl (fun a w hs => ?_) h
  have Ex := ev_rep hs x
  rw [hx, repV_own] at Ex
  obtain ⟨A, cap, e1, hcap⟩ : ∃ A cap, v = .slice A xs.length cap ∧ xs.length ≤ cap := by
    obtain ⟨cells, h1, h2⟩ := hs.getHeap hg
    rcases h2.2 with ⟨rfl, h0⟩ | ⟨g, cap, cur, rfl, _, _, h3, _⟩
    · exact ⟨none, 0, by rw [h0], by rw [h0]; exact Nat.le_refl _⟩
    · exact ⟨_, cap, rfl, h3⟩
  subst e1
  refine ⟨.slice (if cap = i then A else A.map (·.add (i * te.sz))) (j - i) (cap - i), (by unfold repV; exact True.intro), fun w' _ => ?_⟩
  have hb := slice_bounds_run (P := P) true xs.length cap _ _ i j (bndB_rep hs hlo) (bndB_rep hs hhi) hij (by omega) w'
  have hu := tk_slice (tget_ok hT ht)
  have hsz' := (tget_ok hT he).sizeRun w'
  simp only [execOp, Ex.1, Instr.sliceAt, Instr.slice, Sem.run_bind, run_underlying hu, Result.andThen_ok, Option.map_none, hb, hsz', Sem.run_pure]
end
end Go.Proofs.Ytapbbifcipemfaa
