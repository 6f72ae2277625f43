/- Array views: l[:] of a variable, and of memory that nobody writes. No program in sight. -/
import Derived.Test.YtpjfhllkckdejaaV13Z
import Derived.Laws.Pointers
import Derived.ChangeKeysEq
import Derived.Laws.StructEq
namespace Go.Proofs.Ytpjfhllkckdejaa
open Go Go.RowKit

section
variable {P : Program} {T : List (Nat × TI)} {w : World}
theorem sliceArr_run {t n e : Nat} (hu : P.underlying t = some (.array n e)) {ie : TypeInfo} (hie : P.info? e = some ie) (b off : Nat) (_hn : n ≤ maxLen) : (Instr.sliceAt t (.pointer (some ⟨b, off, none⟩)) none none none).run P w = .ok (.slice (some ⟨b, off, none⟩) n n) w := by
  unfold Instr.sliceAt
  simp [run_underlying hu, Instr.sureAddr, Instr.sliceBounds, sizeOf, typeInfo, hie, Addr.add]
end
section
variable {m : OM} {P : Program} {T : List (Nat × TI)} {C : Ctx} {S : St} {a : Act} {w : World} {ops : Array Oper} {l : List Oper} {K : St → Prop} {d : Nat} {ty : Nat} {pos : String} {aft : Array Edge} {gd : Option (Nat × Bool)}
/-- l[:] of an array variable: a view. -/
theorem Ops.sliceVw (hT : TTOk P T) (hw : gval ops S gd = gwant gd) {t : Nat} {x : Operand} {key b off : Nat} {path : List Nat} {mlen e sz0 by_ : Nat} {z : AV} {te : TI}
    (hx : ev S x = .ptr key b path off) (ht : tget T t = some ⟨.array mlen e, sz0, by_, z⟩) (he : tget T e = some te) (hd : Nat.blt d S.n = true) (hn : mlen ≤ 9223372036854775807)
    (h : Ops m P C ops l (S.put d (.vw key b path 0 off mlen mlen)) K) : Ops m P C ops (⟨some d, .slice t x none none none, ty, pos, aft, gd⟩ :: l) S K := by
  refine Ops.by (d := some d) hw none okc_none hd rfl (fun a w hs => ?_) h
  have Ex := ev_rep hs x
  rw [hx, repV_ptr] at Ex
  obtain ⟨ie, hie, _, _⟩ := (tget_ok hT he).inf
  refine ⟨_, repV_vw.2 ⟨rfl, Nat.le_refl _, by unfold maxLen; omega⟩, fun w' _ => ?_⟩
  have hr := sliceArr_run (P := P) (w := w') (tk_array (tget_ok hT ht)) hie b off (by unfold maxLen; omega)
  simp only [execOp, Ex, Option.map_none, Sem.run_bind, hr, Result.andThen_ok, Sem.run_pure]
/-- l[:] of an array in memory that nobody writes: a slice. -/
theorem Ops.sliceCp (hT : TTOk P T) (hw : gval ops S gd = gwant gd) {t : Nat} {x : Operand} {sz : Nat} {xs : List AV} {mlen e sz0 by_ : Nat} {z : AV} {te : TI}
    (hx : ev S x = .cp (.arr sz mlen xs)) (ht : tget T t = some ⟨.array mlen e, sz0, by_, z⟩) (he : tget T e = some te) (hd : Nat.blt d S.n = true) (hn : mlen ≤ 9223372036854775807)
    (h : Ops m P C ops l (S.put d (.sl sz xs)) K) : Ops m P C ops (⟨some d, .slice t x none none none, ty, pos, aft, gd⟩ :: l) S K := by
  refine Ops.by (d := some d) hw none okc_none hd rfl (fun a w hs => ?_) h
  have Ex := ev_rep hs x
  rw [hx, repV_cp] at Ex
  obtain ⟨b, off, vs, e1, hF, hrep, hat⟩ := Ex
  simp only [repC] at hrep
  obtain ⟨ie, hie, _, _⟩ := (tget_ok hT he).inf
  refine ⟨.slice (some ⟨b, off, none⟩) mlen mlen, repV_sl.2 ⟨some ⟨b, off, none⟩, mlen, by rw [hrep.1], by omega, by unfold maxLen; omega, fun _ => ⟨b, off, rfl, hF, repA_row hF xs vs off hrep.2 hat⟩⟩, fun w' _ => ?_⟩
  have hr := sliceArr_run (P := P) (w := w') (tk_array (tget_ok hT ht)) hie b off (by unfold maxLen; omega)
  simp only [execOp, e1, Option.map_none, Sem.run_bind, hr, Result.andThen_ok, Sem.run_pure]
end
section
variable {P : Program} {C : Ctx} {S : St} {a : Act} {w : World} {K : Exit → St → Prop}
/-- A variable that is not written any more becomes memory that nobody writes. -/
theorem Sat.freezeV (h : Sat C S a w) {k d b : Nat} {c : AV} (hg : hget S.heap k = some (.var b c)) (hd : S.slot d = .ptr k b [] 0) : Sat C ⟨S.n, (d, .cp c) :: S.slots, hdel S.heap k⟩ a w := by
  obtain ⟨j1, j2, j3⟩ := hdel_blks hg
  have h1 := h.del hg
  have hb : b ∈ blks S.heap := blk_mem hg rfl
  have hnb : b ∉ blks (hdel S.heap k) := (j2 h.nd).2 b rfl
  have hF : ∀ b, Fz C S.heap w b → Fz C (hdel S.heap k) w b := fun b hb => ⟨hb.1, fun hin => hb.2.1 (j1 b hin), hb.2.2⟩
  refine ⟨h1.n, h1.df, fun i => ?_, h1.heap, h1.nd, h1.lt, h1.mod⟩
  have hslot : (⟨S.n, (d, AV.cp c) :: S.slots, hdel S.heap k⟩ : St).slot i = if d = i then .cp c else S.slot i := lookD_put ⟨S.n, S.slots, hdel S.heap k⟩ d i (.cp c)
  rw [hslot]
  by_cases hi : d = i
  · subst hi
    rw [if_pos rfl]
    have hs := h.slots d
    rw [hd, repV_ptr] at hs
    obtain ⟨t, cs, hB, hc⟩ := h.getHeap hg
    rw [hs]
    exact repV_cp.2 ⟨b, 0, cs.toList, rfl, ⟨(h.lt b hb).1, hnb, .inr (h.lt b hb).2⟩, repC_mono hF (fun _ _ => rfl) _ _ hc, fun j u hu => by
      rw [Nat.zero_add, hB.cell]
      simpa using hu⟩
  · rw [if_neg hi]; exact h1.slots i
theorem a_freezeV {cc : Code} {n : Nat} {sl : List (Nat × AV)} {hp hp' : List (Nat × HO)} (k d : Nat) {b : Nat} {c : AV} (hg : hget hp k = some (.var b c)) (hd : lookD sl d = .ptr k b [] 0) (hh : hdel hp k = hp')
    (h : Awp P C cc ⟨n, (d, .cp c) :: sl, hp'⟩ K) : Awp P C cc ⟨n, sl, hp⟩ K := by
  subst hh
  exact ⟨fun a w hs => h.out a w (hs.freezeV (S := ⟨n, sl, hp⟩) hg hd)⟩
end
section
variable {m : OM} {P : Program} {T : List (Nat × TI)} {C : Ctx} {ops : Array Oper} {l : List Oper} {K : St → Prop} {n : Nat} {sl : List (Nat × AV)} {hp : List (Nat × HO)} {d : Nat} {ty : Nat} {pos : String} {aft : Array Edge} {gd : Option (Nat × Bool)}
theorem o_sliceCp (hT : TTOk P T) (hw : gval ops ⟨n, sl, hp⟩ gd = gwant gd) {t : Nat} {x : Operand} {sz : Nat} {xs : List AV} {mlen e sz0 by_ : Nat} {z : AV} {te : TI}
    (hx : ev ⟨n, sl, hp⟩ x = .cp (.arr sz mlen xs)) (ht : tget T t = some ⟨.array mlen e, sz0, by_, z⟩) (he : tget T e = some te) (hd : Nat.blt d n = true) (hn : Nat.ble mlen 1000000 = true)
    (h : Ops m P C ops l ⟨n, (d, .sl sz xs) :: sl, hp⟩ K) : Ops m P C ops (⟨some d, .slice t x none none none, ty, pos, aft, gd⟩ :: l) ⟨n, sl, hp⟩ K :=
  Ops.sliceCp hT hw hx ht he hd (Nat.le_trans (Nat.le_of_ble_eq_true hn) (by decide)) h
theorem o_sliceVw (hT : TTOk P T) (hw : gval ops ⟨n, sl, hp⟩ gd = gwant gd) {t : Nat} {x : Operand} {key b off : Nat} {path : List Nat} {mlen e sz0 by_ : Nat} {z : AV} {te : TI}
    (hx : ev ⟨n, sl, hp⟩ x = .ptr key b path off) (ht : tget T t = some ⟨.array mlen e, sz0, by_, z⟩) (he : tget T e = some te) (hd : Nat.blt d n = true) (hn : Nat.ble mlen 1000000 = true)
    (h : Ops m P C ops l ⟨n, (d, .vw key b path 0 off mlen mlen) :: sl, hp⟩ K) : Ops m P C ops (⟨some d, .slice t x none none none, ty, pos, aft, gd⟩ :: l) ⟨n, sl, hp⟩ K :=
  Ops.sliceVw hT hw hx ht he hd (Nat.le_trans (Nat.le_of_ble_eq_true hn) (by decide)) h
end
section
variable {m : OM} {P : Program} {T : List (Nat × TI)} {C : Ctx} {S : St} {a : Act} {w : World} {ops : Array Oper} {l : List Oper} {K : St → Prop} {d : Nat} {ty : Nat} {pos : String} {aft : Array Edge} {gd : Option (Nat × Bool)}
theorem repA_drop1 {F : Nat → Prop} : ∀ (k : Nat) (xs : List AV) (cs : List Value), repA w F 1 xs cs → repA w F 1 (xs.drop k) (cs.drop k)
  | 0, xs, cs, h => by simpa using h
  | k + 1, [], cs, h => by simp only [repA] at h; subst h; simp only [List.drop_nil, repA]
  | k + 1, x :: xs, cs, h => by
    simp only [repA] at h
    obtain ⟨c1, c2, rfl, _, hl, h2⟩ := h
    obtain ⟨u, rfl⟩ := List.length_eq_one_iff.1 hl
    simpa using repA_drop1 k xs c2 h2
theorem setRow_mod (w : World) (b : Nat) (cs : Array Value) : Mod (fun b' => b' = b) w (w.setRow b cs) := by
  refine ⟨rfl, rfl, rfl, by rw [setRow_size]; exact Nat.le_refl _, fun k hk hn => ?_⟩
  unfold World.setRow
  simp only [Array.getElem?_modify]
  rw [if_neg (fun e => hn e.symm)]
/-- copy of a string into an array variable. -/
theorem Ops.copyStr (hT : TTOk P T) (hw : gval ops S gd = gwant gd) {x y : Operand} {t ts e n sz0 by0 by1 : Nat} {z0 z1 : AV} {k1 : TK} {key b : Nat} {xs : List AV} {s : List UInt8}
    (ht : tget T t = some ⟨.slice e, sz0, by0, z0⟩) (he : tget T e = some ⟨k1, 1, by1, z1⟩) (hx : ev S x = .vw key b [] 0 0 n n) (hy : ev S y = .s s) (hg : hget S.heap key = some (.var b (.arr 1 n xs))) (hle : s.length ≤ n)
    (hd : Nat.blt d S.n = true) (hm : m.oke (some d) [key] = true)
    (h : Ops m P C ops l ⟨S.n, (d, .i .i64 s.length) :: S.slots, hset S.heap key (.var b (.arr 1 n (s.map byA ++ xs.drop s.length)))⟩ K) : Ops m P C ops (⟨some d, .call ⟨.builtin .copy, #[x, y], #[t, ts]⟩, ty, pos, aft, gd⟩ :: l) S K := by
  refine Ops.eff hw [key] hm rfl fun a w hs => ?_
  have Ex := ev_rep hs x
  rw [hx, repV_vw] at Ex
  have Ey := ev_rep hs y
  rw [hy, repV_s] at Ey
  obtain ⟨t2, cs, hb, hc⟩ := hs.getHeap hg
  simp only [repC] at hc
  have hcs : cs.size = n := by have := repA_size 1 xs _ hc.2; rw [Array.length_toList] at this; omega
  have hcl : (Lib.strCells (bytesOf s)).length = s.length := Lib.strCells_length _
  have hst := run_storeCells_at P b 0 t2 (Lib.strCells (bytesOf s)) 0 cs w hb (by rw [hcl, hcs]; omega) (Lib.strCells_oneCell _)
  have hf := Lib.run_firstCells_string (P := P) w 1 (bytesOf s)
  have hsz := (tget_ok hT he).sizeRun w
  have hmin : Nat.min (bytesOf s).size n = (bytesOf s).size := Nat.min_eq_left hle
  simp only [Nat.add_zero, Nat.zero_add, List.take_zero, List.nil_append, hcl] at hst
  generalize hw2 : w.setRow b (Lib.strCells (bytesOf s) ++ cs.toList.drop s.length).toArray = w2 at hst
  have hmod : Mod (fun b' => HO.blk (.var b (.arr 1 n xs)) = some b') w w2 := by
    rw [← hw2]
    exact (setRow_mod w b _).mono (fun _ _ h => by rw [h]; rfl)
  have hB : Blk w2 b t2 (Lib.strCells (bytesOf s) ++ cs.toList.drop s.length).toArray := by rw [← hw2]; exact setRow_heap w b cs _ t2 (0, 0) hb
  have hlt := (hs.lt b (blk_mem hg rfl)).1
  refine ⟨.int .i64 s.length, w2, ⟨S.n, S.slots, hset S.heap key (.var b (.arr 1 n (s.map byA ++ xs.drop s.length)))⟩, .i .i64 s.length, ?_, ?_, hd, repV_i.2 rfl, Eff.swap hg hmod (fun _ h => .inl h), h⟩
  · simp only [execOp, resolve, invoke, builtin, Sem.run_bind, Sem.run_pure, Result.andThen_ok, List.map_toArray, List.map_cons, List.map_nil, Ex.1, Ey.1]
    unfold Builtin.copy_
    simp [run_underlying (tk_slice (tget_ok hT ht)), Builtin.lenOf, hmin, hsz, hf, hst, goInt]
    rfl
  · refine hs.swap hg (.var b (.arr 1 n (s.map byA ++ xs.drop s.length))) hmod ⟨t2, _, hB, ?_⟩ (fun b' hb' => ?_)
    · have hF : ∀ b', Fz C S.heap w b' → Fz C (hset S.heap key (.var b (.arr 1 n (s.map byA ++ xs.drop s.length)))) w2 b' := fun b' hb' =>
        ⟨Nat.lt_of_lt_of_le hb'.1 hmod.size, by rw [blks_hset hg (.var b (.arr 1 n (s.map byA ++ xs.drop s.length))) rfl]; exact hb'.2.1, hb'.2.2⟩
      have hW : ∀ b', Fz C S.heap w b' → w2.heap[b']? = w.heap[b']? := fun b' hb' => hmod.block b' hb'.1 (fun he => hb'.2.1 (blk_mem hg he))
      refine repC_mono hF hW (.arr 1 n (s.map byA ++ xs.drop s.length)) _ ?_
      simp only [repC]
      exact ⟨by rw [List.length_append, List.length_map, List.length_drop]; omega, repA_append (repA_bytes s) (repA_drop1 _ _ _ hc.2)⟩
    · have : b = b' := by simpa [HO.blk] using hb'
      subst this
      exact ⟨by have := hmod.size; omega, .inl rfl⟩
end
section
variable {m : OM} {P : Program} {T : List (Nat × TI)} {C : Ctx} {ops : Array Oper} {l : List Oper} {K : St → Prop} {n : Nat} {sl : List (Nat × AV)} {hp : List (Nat × HO)} {d : Nat} {ty : Nat} {pos : String} {aft : Array Edge} {gd : Option (Nat × Bool)}
theorem o_copyStr (hT : TTOk P T) (hw : gval ops ⟨n, sl, hp⟩ gd = gwant gd) {x y : Operand} {t ts e k sz0 by0 by1 : Nat} {z0 z1 : AV} {k1 : TK} {key b : Nat} {xs : List AV} {s : List UInt8} {hp' : List (Nat × HO)}
    (ht : tget T t = some ⟨.slice e, sz0, by0, z0⟩) (he : tget T e = some ⟨k1, 1, by1, z1⟩) (hx : ev ⟨n, sl, hp⟩ x = .vw key b [] 0 0 k k) (hy : ev ⟨n, sl, hp⟩ y = .s s) (hg : hget hp key = some (.var b (.arr 1 k xs)))
    (hd : Nat.blt d n = true) (hm : m.oke (some d) [key] = true) (hle : s.length ≤ k) (hh : hset hp key (.var b (.arr 1 k (s.map byA ++ xs.drop s.length))) = hp')
    (h : Ops m P C ops l ⟨n, (d, .i .i64 s.length) :: sl, hp'⟩ K) : Ops m P C ops (⟨some d, .call ⟨.builtin .copy, #[x, y], #[t, ts]⟩, ty, pos, aft, gd⟩ :: l) ⟨n, sl, hp⟩ K := by
  subst hh
  exact Ops.copyStr hT hw ht he hx hy hg hle hd hm h
end
def labA (l : List UInt8) : AV := .arr 1 32 (l.map byA)
end Go.Proofs.Ytpjfhllkckdejaa
namespace Go.Proofs.Ytpjfhllkckdejaa
open Go Go.RowKit

section
variable {m : OM} {P : Program} {T : List (Nat × TI)} {C : Ctx} {ops : Array Oper} {l : List Oper} {K : St → Prop} {n : Nat} {sl : List (Nat × AV)} {hp : List (Nat × HO)} {d : Nat} {ty : Nat} {pos : String} {aft : Array Edge} {gd : Option (Nat × Bool)}
theorem o_eqNil (hT : TTOk P T) (hw : gval ops ⟨n, sl, hp⟩ gd = gwant gd) {t u e : Nat} {x y : Operand} {key b off : Nat} {path : List Nat} {sz0 by0 : Nat} {z0 : AV}
    (hx : ev ⟨n, sl, hp⟩ x = .ptr key b path off) (hy : ev ⟨n, sl, hp⟩ y = .nilp) (ht : tget T t = some ⟨.ptr e, sz0, by0, z0⟩) (hd : Nat.blt d n = true)
    (h : Ops m P C ops l ⟨n, (d, .b false) :: sl, hp⟩ K) : Ops m P C ops (⟨some d, .binOp .eql t x y u, ty, pos, aft, gd⟩ :: l) ⟨n, sl, hp⟩ K := by
  refine Ops.by (d := some d) hw none okc_none hd rfl (fun a w hs => ?_) h
  have Ex := ev_rep hs x
  have Ey := ev_rep hs y
  rw [hx, repV_ptr] at Ex
  rw [hy] at Ey
  obtain ⟨c2, hc2, Ey⟩ := Ey
  simp only [repC] at hc2
  subst hc2
  have hu : P.underlying t = some (.pointer e) := by
    obtain ⟨ds, hds, hk⟩ := (tget_ok hT ht).desc
    cases ds <;> simp [kOf] at hk; subst hk; exact hds
  have hp2 : P.underlying t = some (.pointer (P.pointee t)) := by
    rw [hu]; simp [Program.pointee, hu]
  refine ⟨.bool false, repV_b.2 rfl, fun w' _ => ?_⟩
  have hr := run_eql_pointer_nil (P := P) (w := w') t (some ⟨b, off, none⟩) hp2
  have Ey : a.eval y = .pointer none := Ey
  have hg : (eqGuard .eql t x y (.pointer (some ⟨b, off, none⟩)) (.pointer none)).run P w' = .ok () w' := by simp [eqGuard]
  simp only [execOp, Ex, Ey, Sem.run_bind, hg, hr, Result.andThen_ok, Sem.run_pure]
  rfl
end
section
variable {P : Program} {w : World}
theorem eqItems_bytes {e : Nat} (he : P.underlying e = some (.int .u8)) (hk : P.plainKey e = true) (d : Nat) (l1 l2 : List UInt8) : ∀ (is : List Nat), (∀ i ∈ is, i < l1.length ∧ i < l2.length) →
    (Op.eqItems (d + 1) e 1 (l1.map fun c => Value.int .u8 (c.toNat : Int)).toArray (l2.map fun c => Value.int .u8 (c.toNat : Int)).toArray is).run P w = .ok (is.all fun i => l1[i]? == l2[i]?) w
  | [], _ => by simp [Op.eqItems]
  | i :: is, h => by
    obtain ⟨h1, h2⟩ := h i (by simp)
    have ih := eqItems_bytes he hk d l1 l2 is (fun j hj => h j (by simp [hj]))
    have p1 := run_part_plain (P := P) w hk (xs := (l1.map fun c => Value.int .u8 (c.toNat : Int)).toArray) (off := i * 1) (v := .int .u8 (l1[i].toNat : Int)) (by simp [h1])
    have p2 := run_part_plain (P := P) w hk (xs := (l2.map fun c => Value.int .u8 (c.toNat : Int)).toArray) (off := i * 1) (v := .int .u8 (l2[i].toNat : Int)) (by simp [h2])
    have p3 := run_equalIn_int (P := P) w d e .u8 .u8 (l1[i].toNat : Int) (l2[i].toNat : Int) he
    simp only [Op.eqItems, Sem.run_bind, p1, p2, p3, Result.andThen_ok, List.all_cons]
    have hb : (l1[i]? == l2[i]?) = ((l1[i].toNat : Int) == (l2[i].toNat : Int)) := by
      rw [List.getElem?_eq_getElem h1, List.getElem?_eq_getElem h2]
      by_cases hc : l1[i] = l2[i]
      · simp [hc]
      · have : ¬ ((l1[i].toNat : Int) = (l2[i].toNat : Int)) := fun hq => hc (UInt8.toNat_inj.1 (by omega))
        rw [beq_false_of_ne this, beq_false_of_ne (show some l1[i] ≠ some l2[i] by simpa using hc)]
    rw [hb]
    cases ((l1[i].toNat : Int) == (l2[i].toNat : Int))
    · simp
    · simpa using ih
end
section
variable {P : Program} {w : World}
theorem all_range_eq (l1 l2 : List UInt8) (n : Nat) (h1 : l1.length = n) (h2 : l2.length = n) : ((List.range n).all fun i => l1[i]? == l2[i]?) = (l1 == l2) := by
  by_cases h : l1 = l2
  · subst h; simp
  · have hne : ∃ i, i < n ∧ l1[i]? ≠ l2[i]? := by
      apply Classical.byContradiction
      intro hno
      apply h
      apply List.ext_getElem?
      intro i
      apply Classical.byContradiction
      intro hi
      by_cases hin : i < n
      · exact hno ⟨i, hin, hi⟩
      · rw [List.getElem?_eq_none (by omega), List.getElem?_eq_none (by omega)] at hi; exact hi rfl
    obtain ⟨i, hin, hi⟩ := hne
    rw [beq_false_of_ne h, List.all_eq_false]
    exact ⟨i, List.mem_range.2 hin, by simpa using hi⟩
end
section
variable {m : OM} {P : Program} {T : List (Nat × TI)} {C : Ctx} {ops : Array Oper} {l : List Oper} {K : St → Prop} {n : Nat} {sl : List (Nat × AV)} {hp : List (Nat × HO)} {d : Nat} {ty : Nat} {pos : String} {aft : Array Edge} {gd : Option (Nat × Bool)}
/-- == on arrays of bytes. -/
theorem o_eqArr8 (hT : TTOk P T) (hw : gval ops ⟨n, sl, hp⟩ gd = gwant gd) {t u e k : Nat} {x y : Operand} {l1 l2 : List UInt8} {sz0 by0 by1 : Nat} {z0 z1 : AV}
    (hx : ev ⟨n, sl, hp⟩ x = .arr 1 k (l1.map byA)) (hy : ev ⟨n, sl, hp⟩ y = .arr 1 k (l2.map byA)) (ht : tget T t = some ⟨.array k e, sz0, by0, z0⟩) (he : tget T e = some ⟨.int .u8, 1, by1, z1⟩) (hd : Nat.blt d n = true) (hg : P.eqGuardType P.depth t = false)
    (h : Ops m P C ops l ⟨n, (d, .b (l1 == l2)) :: sl, hp⟩ K) : Ops m P C ops (⟨some d, .binOp .eql t x y u, ty, pos, aft, gd⟩ :: l) ⟨n, sl, hp⟩ K := by
  refine Ops.by (d := some d) hw none okc_none hd rfl (fun a w hs => ?_) h
  have Ex := ev_rep hs x
  have Ey := ev_rep hs y
  rw [hx] at Ex
  rw [hy] at Ey
  obtain ⟨c1, hc1, Ex⟩ := Ex
  obtain ⟨c2, hc2, Ey⟩ := Ey
  have Ex : a.eval x = .agg c1.toArray := Ex
  have Ey : a.eval y = .agg c2.toArray := Ey
  simp only [repC, List.length_map] at hc1 hc2
  have hbytes : ∀ (l : List UInt8) (cs : List Value), repA w (Fz C hp w) 1 (l.map byA) cs → cs = l.map fun c => Value.int .u8 (c.toNat : Int) := by
    intro l
    induction l with
    | nil => intro cs h; simpa only [List.map_nil, repA] using h
    | cons c l ih =>
      intro cs h
      simp only [List.map_cons, repA] at h
      obtain ⟨a1, a2, rfl, h3, _, h4⟩ := h
      simp only [byA, repC] at h3
      rw [h3, ih _ h4]; rfl
  have q1 := hbytes l1 c1 hc1.2
  have q2 := hbytes l2 c2 hc2.2
  have hu := tk_array (tget_ok hT ht)
  have hue := tk_int (tget_ok hT he)
  obtain ⟨ie, hie, hies, _⟩ := (tget_ok hT he).inf
  have hpk : P.plainKey e = true := by unfold Program.plainKey; rw [hue]
  have hco : P.cellsOf e = 1 := by unfold Program.cellsOf; rw [hie]; exact hies
  refine ⟨_, repV_b.2 rfl, fun w' _ => ?_⟩
  have h1 := run_equalIn_array (P := P) w' 9999 c1.toArray c2.toArray hu hie
  rw [hco, q1, q2, eqItems_bytes hue hpk 9998 l1 l2 (List.range k) (fun i hi => by have := List.mem_range.1 hi; omega), all_range_eq l1 l2 k hc1.1 hc2.1] at h1
  have hgd := run_eqGuard_agg (P := P) w' .eql t x y c1.toArray c2.toArray hg
  have hr := run_eql_struct (P := P) w' t c1.toArray c2.toArray
  rw [q1, q2] at hr hgd
  rw [show (10000 : Nat) = 9999 + 1 from rfl, h1] at hr
  simp only [execOp, Ex, Ey, q1, q2, Sem.run_bind, hgd, hr, Result.andThen_ok, Sem.run_pure]
end
section
variable {P : Program} {C : Ctx} {S : St} {K : Exit → St → Prop}
end
end Go.Proofs.Ytpjfhllkckdejaa
