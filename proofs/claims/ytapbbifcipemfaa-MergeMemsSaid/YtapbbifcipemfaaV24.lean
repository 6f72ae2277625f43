/- make of a slice without elements, with room for n. -/
import Derived.Test.YtapbbifcipemfaaV23
namespace Go.Proofs.Ytapbbifcipemfaa
open Go Go.RowKit
section
variable {m : OM} {P : Program} {T : List (Nat × TI)} {C : Ctx} {ops : Array Oper} {l : List Oper} {K : St → Prop} {n : Nat} {sl : List (Nat × AV)} {hp : List (Nat × HO)} {d : Nat} {ty : Nat} {pos : String} {aft : Array Edge} {gd : Option (Nat × Bool)}
theorem o_makeCap (hT : TTOk P T) (hw : gval ops ⟨n, sl, hp⟩ gd = gwant gd) {t e sz0 by0 : Nat} {z0 : AV} {tk : TK} {sz bs : Nat} {z : AV} {x y : Operand} {kl kc : IntKind} {a b : Int}
    (ht : tget T t = some ⟨.slice e, sz0, by0, z0⟩) (he : tget T e = some ⟨tk, sz, bs, z⟩) (hz : z.isVal = true) (hsz : sizeA z = sz) (hpos : Nat.blt 0 sz = true)
    (hx : ev ⟨n, sl, hp⟩ x = .i kl a) (hy : ev ⟨n, sl, hp⟩ y = .i kc b) (hd : Nat.blt d n = true) (len : Nat) (ha : a = 0) (hb : b = len) (hlen : bs * len ≤ 281474976710656) (hlen2 : len ≤ 9223372036854775807)
    (h : ∀ v', Ops m P C ops l ⟨n, (d, .own d v') :: sl, (d, .row v' e sz []) :: hp⟩ K) : Ops m P C ops (⟨some d, .makeSlice t x y, ty, pos, aft, gd⟩ :: l) ⟨n, sl, hp⟩ K := by
  subst ha; subst hb
  have hpos := blt_lt hpos
  refine Ops.eff hw [] oke_nil rfl fun a w hs => ?_
  have hE := elem_tt hT ht he hz hsz hpos
  have Ex := ev_rep hs x; have Ey := ev_rep hs y
  rw [hx, repV_i] at Ex; rw [hy, repV_i] at Ey
  rcases (tget_ok hT he).zero with h0 | ⟨cs, h1, h2⟩
  · have h0 : z = .any := h0
    rw [h0] at hz; cases hz
  have hrep : repC w (Fz C hp w) z cs := flatZ_rep z cs h1
  have hcs : cs.length = sz := by rw [repC_size _ _ hrep, hsz]
  obtain ⟨i, zv, hi, hzv, hz1, hz2, hz3⟩ := hE.info
  have hzv2 : zv = ofCells z cs := by rw [hi] at h2; simp only [Option.bind_some, hzv, Option.some.injEq] at h2; exact h2
  have hb : (i.bytes : Int) * (len : Int) ≤ 281474976710656 := by
    have h : ((i.bytes * len : Nat) : Int) ≤ 281474976710656 := by rw [hz2]; omega
    rwa [Int.natCast_mul] at h
  have hrun := run_make (P := P) w t e i zv hE.ut hi hzv kl kc (0 : Int) (len : Int) (by omega) (by omega) hb (by omega)
  simp only [Int.toNat_natCast] at hrun
  have hcells : zv.cells = cs.toArray := by rw [hzv2]; exact ofCells_cells hrep
  rw [hcells, hz1, ← hcs] at hrun
  have hrow : (w.alloc (.cells (madeCells cs.toArray (len * cs.length)) e)).ownsRow 0 e sz (.slice (some ⟨w.heap.size, 0, none⟩) 0 len) 0 [] := by
    refine ⟨by simp, .inr ⟨w.heap.size, len, madeCells cs.toArray (len * cs.length), rfl, Nat.zero_le _, Blk.new w e _, Nat.zero_le _, by unfold maxLen; omega, by rw [size_madeCells, hcs], by simp⟩⟩
  refine ⟨_, _, _, .own d (.slice (some ⟨w.heap.size, 0, none⟩) 0 len), ?_, hs.newRow (S := ⟨n, sl, hp⟩) d ((Mod.refl _ w).alloc _) (xs := []) (cells := []) (by simp [repA]) hrow (fun b hb => ?_), hd, repV_own.2 ⟨rfl, rfl⟩, Eff.new (S := ⟨n, sl, hp⟩) ((Mod.refl _ w).alloc _) (fun b hb => by simp [HO.blk, Value.ownBlock] at hb; omega), h _⟩
  · simp only [execOp, Ex, Ey, Sem.run_bind, hrun, Result.andThen_ok, Sem.run_pure]
    rfl
  · simp [Value.ownBlock] at hb; omega
end
end Go.Proofs.Ytapbbifcipemfaa
