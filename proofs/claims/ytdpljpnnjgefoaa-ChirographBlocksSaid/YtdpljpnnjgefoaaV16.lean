/- == on pointers and nil. No program in sight. -/
import Derived.Test.YtdpljpnnjgefoaaV15
import Derived.Laws.Pointers
import Derived.ChangeKeysEq
import Derived.Laws.StructEq
namespace Go.Proofs.Ytdpljpnnjgefoaa
open Go Go.RowKit

section
variable {m : OM} {P : Program} {T : List (Nat × TI)} {C : Ctx} {ops : Array Oper} {l : List Oper} {K : St → Prop} {n : Nat} {sl : List (Nat × AV)} {hp : List (Nat × HO)} {d : Nat} {ty : Nat} {pos : String} {aft : Array Edge} {gd : Option (Nat × Bool)}
theorem o_eqNil (hT : TTOk P T) (hw : gval ops ⟨n, sl, hp⟩ gd = gwant gd) {t u e : Nat} {x y : Operand} {key b off : Nat} {path : List Nat} {sz0 by0 : Nat} {z0 : AV}
    (hx : ev ⟨n, sl, hp⟩ x = .ptr key b path off) (hy : ev ⟨n, sl, hp⟩ y = .nilp) (ht : tget T t = some ⟨.ptr e, sz0, by0, z0⟩) (hd : Nat.blt d n = true)
    (h : Ops m P C ops l ⟨n, (d, .b false) :: sl, hp⟩ K) : Ops m P C ops (⟨some d, .binOp .eql t x y u, ty, pos, aft, gd⟩ :: l) ⟨n, sl, hp⟩ K := by
  refine Ops.by (d := some d) hw none okc_none hd rfl (fun a w hs => ?_) h
  have Ex := ev_rep hs x
  have Ey := ev_rep hs y
  rw [hx, repV_ptr] at Ex
  rw [hy] at Ey
  obtain ⟨c2, hc2, Ey⟩ := Ey
  simp only [repC] at hc2
  subst hc2
  have hu : P.underlying t = some (.pointer e) := by
    obtain ⟨ds, hds, hk⟩ := (tget_ok hT ht).desc
    cases ds <;> simp [kOf] at hk; subst hk; exact hds
  have hp2 : P.underlying t = some (.pointer (P.pointee t)) := by
    rw [hu]; simp [Program.pointee, hu]
  refine ⟨.bool false, repV_b.2 rfl, fun w' _ => ?_⟩
  have hr := run_eql_pointer_nil (P := P) (w := w') t (some ⟨b, off, none⟩) hp2
  have Ey : a.eval y = .pointer none := Ey
  have hg : (eqGuard .eql t x y (.pointer (some ⟨b, off, none⟩)) (.pointer none)).run P w' = .ok () w' := by simp [eqGuard]
  simp only [execOp, Ex, Ey, Sem.run_bind, hg, hr, Result.andThen_ok, Sem.run_pure]
  rfl
end
section
variable {P : Program} {w : World}
theorem eqItems_bytes {e : Nat} (he : P.underlying e = some (.int .u8)) (hk : P.plainKey e = true) (d : Nat) (l1 l2 : List UInt8) : ∀ (is : List Nat), (∀ i ∈ is, i < l1.length ∧ i < l2.length) →
    (Op.eqItems (d + 1) e 1 (l1.map fun c => Value.int .u8 (c.toNat : Int)).toArray (l2.map fun c => Value.int .u8 (c.toNat : Int)).toArray is).run P w = .ok (is.all fun i => l1[i]? == l2[i]?) w
  | [], _ => by simp [Op.eqItems]
  | i :: is, h => by
    obtain ⟨h1, h2⟩ := h i (by simp)
    have ih := eqItems_bytes he hk d l1 l2 is (fun j hj => h j (by simp [hj]))
    have p1 := run_part_plain (P := P) w hk (xs := (l1.map fun c => Value.int .u8 (c.toNat : Int)).toArray) (off := i * 1) (v := .int .u8 (l1[i].toNat : Int)) (by simp [h1])
    have p2 := run_part_plain (P := P) w hk (xs := (l2.map fun c => Value.int .u8 (c.toNat : Int)).toArray) (off := i * 1) (v := .int .u8 (l2[i].toNat : Int)) (by simp [h2])
    have p3 := run_equalIn_int (P := P) w d e .u8 .u8 (l1[i].toNat : Int) (l2[i].toNat : Int) he
    simp only [Op.eqItems, Sem.run_bind, p1, p2, p3, Result.andThen_ok, List.all_cons]
    have hb : (l1[i]? == l2[i]?) = ((l1[i].toNat : Int) == (l2[i].toNat : Int)) := by
      rw [List.getElem?_eq_getElem h1, List.getElem?_eq_getElem h2]
      by_cases hc : l1[i] = l2[i]
      · simp [hc]
      · have : ¬ ((l1[i].toNat : Int) = (l2[i].toNat : Int)) := fun hq => hc (UInt8.toNat_inj.1 (by omega))
        rw [beq_false_of_ne this, beq_false_of_ne (show some l1[i] ≠ some l2[i] by simpa using hc)]
    rw [hb]
    cases ((l1[i].toNat : Int) == (l2[i].toNat : Int))
    · simp
    · simpa using ih
end
section
variable {P : Program} {w : World}
theorem all_range_eq (l1 l2 : List UInt8) (n : Nat) (h1 : l1.length = n) (h2 : l2.length = n) : ((List.range n).all fun i => l1[i]? == l2[i]?) = (l1 == l2) := by
  by_cases h : l1 = l2
  · subst h; simp
  · have hne : ∃ i, i < n ∧ l1[i]? ≠ l2[i]? := by
      apply Classical.byContradiction
      intro hno
      apply h
      apply List.ext_getElem?
      intro i
      apply Classical.byContradiction
      intro hi
      by_cases hin : i < n
      · exact hno ⟨i, hin, hi⟩
      · rw [List.getElem?_eq_none (by omega), List.getElem?_eq_none (by omega)] at hi; exact hi rfl
    obtain ⟨i, hin, hi⟩ := hne
    rw [beq_false_of_ne h, List.all_eq_false]
    exact ⟨i, List.mem_range.2 hin, by simpa using hi⟩
end
section
variable {m : OM} {P : Program} {T : List (Nat × TI)} {C : Ctx} {ops : Array Oper} {l : List Oper} {K : St → Prop} {n : Nat} {sl : List (Nat × AV)} {hp : List (Nat × HO)} {d : Nat} {ty : Nat} {pos : String} {aft : Array Edge} {gd : Option (Nat × Bool)}
/-- == on arrays of bytes. -/
theorem o_eqArr8 (hT : TTOk P T) (hw : gval ops ⟨n, sl, hp⟩ gd = gwant gd) {t u e k : Nat} {x y : Operand} {l1 l2 : List UInt8} {sz0 by0 by1 : Nat} {z0 z1 : AV}
    (hx : ev ⟨n, sl, hp⟩ x = .arr 1 k (l1.map byA)) (hy : ev ⟨n, sl, hp⟩ y = .arr 1 k (l2.map byA)) (ht : tget T t = some ⟨.array k e, sz0, by0, z0⟩) (he : tget T e = some ⟨.int .u8, 1, by1, z1⟩) (hd : Nat.blt d n = true) (hg : P.eqGuardType P.depth t = false)
    (h : Ops m P C ops l ⟨n, (d, .b (l1 == l2)) :: sl, hp⟩ K) : Ops m P C ops (⟨some d, .binOp .eql t x y u, ty, pos, aft, gd⟩ :: l) ⟨n, sl, hp⟩ K := by
  refine Ops.by (d := some d) hw none okc_none hd rfl (fun a w hs => ?_) h
  have Ex := ev_rep hs x
  have Ey := ev_rep hs y
  rw [hx] at Ex
  rw [hy] at Ey
  obtain ⟨c1, hc1, Ex⟩ := Ex
  obtain ⟨c2, hc2, Ey⟩ := Ey
  have Ex : a.eval x = .agg c1.toArray := Ex
  have Ey : a.eval y = .agg c2.toArray := Ey
  simp only [repC, List.length_map] at hc1 hc2
  have hbytes : ∀ (l : List UInt8) (cs : List Value), repA w (Fz C hp w) 1 (l.map byA) cs → cs = l.map fun c => Value.int .u8 (c.toNat : Int) := by
    intro l
    induction l with
    | nil => intro cs h; simpa only [List.map_nil, repA] using h
    | cons c l ih =>
      intro cs h
      simp only [List.map_cons, repA] at h
      obtain ⟨a1, a2, rfl, h3, _, h4⟩ := h
      simp only [byA, repC] at h3
      rw [h3, ih _ h4]; rfl
  have q1 := hbytes l1 c1 hc1.2
  have q2 := hbytes l2 c2 hc2.2
  have hu := tk_array (tget_ok hT ht)
  have hue := tk_int (tget_ok hT he)
  obtain ⟨ie, hie, hies, _⟩ := (tget_ok hT he).inf
  have hpk : P.plainKey e = true := by unfold Program.plainKey; rw [hue]
  have hco : P.cellsOf e = 1 := by unfold Program.cellsOf; rw [hie]; exact hies
  refine ⟨_, repV_b.2 rfl, fun w' _ => ?_⟩
  have h1 := run_equalIn_array (P := P) w' 9999 c1.toArray c2.toArray hu hie
  rw [hco, q1, q2, eqItems_bytes hue hpk 9998 l1 l2 (List.range k) (fun i hi => by have := List.mem_range.1 hi; omega), all_range_eq l1 l2 k hc1.1 hc2.1] at h1
  have hgd := run_eqGuard_agg (P := P) w' .eql t x y c1.toArray c2.toArray hg
  have hr := run_eql_struct (P := P) w' t c1.toArray c2.toArray
  rw [q1, q2] at hr hgd
  rw [show (10000 : Nat) = 9999 + 1 from rfl, h1] at hr
  simp only [execOp, Ex, Ey, q1, q2, Sem.run_bind, hgd, hr, Result.andThen_ok, Sem.run_pure]
end
section
variable {P : Program} {C : Ctx} {S : St} {K : Exit → St → Prop}
end
end Go.Proofs.Ytdpljpnnjgefoaa
