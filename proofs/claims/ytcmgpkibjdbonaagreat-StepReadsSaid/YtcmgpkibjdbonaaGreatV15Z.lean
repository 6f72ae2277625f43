/- Array views: l[:] of a variable, and of memory that nobody writes. No program in sight. -/
import Derived.Test.YtcmgpkibjdbonaaGreatV13Z
import Derived.Laws.Pointers
import Derived.ChangeKeysEq
import Derived.Laws.StructEq
namespace Go.Proofs.YtcmgpkibjdbonaaGreat
open Go Go.RowKit

section
variable {P : Program} {T : List (Nat × TI)} {w : World}
theorem sliceArr_run {t n e : Nat} (hu : P.underlying t = some (.array n e)) {ie : TypeInfo} (hie : P.info? e = some ie) (b off : Nat) (_hn : n ≤ maxLen) : (Instr.sliceAt t (.pointer (some ⟨b, off, none⟩)) none none none).run P w = .ok (.slice (some ⟨b, off, none⟩) n n) w := by
  unfold Instr.sliceAt
  simp [run_underlying hu, Instr.sureAddr, Instr.sliceBounds, sizeOf, typeInfo, hie, Addr.add]
end
section
variable {m : OM} {P : Program} {T : List (Nat × TI)} {C : Ctx} {S : St} {a : Act} {w : World} {ops : Array Oper} {l : List Oper} {K : St → Prop} {d : Nat} {ty : Nat} {pos : String} {aft : Array Edge} {gd : Option (Nat × Bool)}
/-- l[:] of an array variable: a view. -/
theorem Ops.sliceVw (hT : TTOk P T) (hw : gval ops S gd = gwant gd) {t : Nat} {x : Operand} {key b off : Nat} {path : List Nat} {mlen e sz0 by_ : Nat} {z : AV} {te : TI}
    (hx : ev S x = .ptr key b path off) (ht : tget T t = some ⟨.array mlen e, sz0, by_, z⟩) (he : tget T e = some te) (hd : Nat.blt d S.n = true) (hn : mlen ≤ 9223372036854775807)
    (h : Ops m P C ops l (S.put d (.vw key b path 0 off mlen mlen)) K) : Ops m P C ops (⟨some d, .slice t x none none none, ty, pos, aft, gd⟩ :: l) S K := by
  refine Ops.by (d := some d) hw none okc_none hd rfl (fun a w hs => ?_) h
  have Ex := ev_rep hs x
  rw [hx, repV_ptr] at Ex
  obtain ⟨ie, hie, _, _⟩ := (tget_ok hT he).inf
  refine ⟨_, repV_vw.2 ⟨rfl, Nat.le_refl _, by unfold maxLen; omega⟩, fun w' _ => ?_⟩
  have hr := sliceArr_run (P := P) (w := w') (tk_array (tget_ok hT ht)) hie b off (by unfold maxLen; omega)
  simp only [execOp, Ex, Option.map_none, Sem.run_bind, hr, Result.andThen_ok, Sem.run_pure]
/-- l[:] of an array in memory that nobody writes: a slice. -/
theorem Ops.sliceCp (hT : TTOk P T) (hw : gval ops S gd = gwant gd) {t : Nat} {x : Operand} {sz : Nat} {xs : List AV} {mlen e sz0 by_ : Nat} {z : AV} {te : TI}
    (hx : ev S x = .cp (.arr sz mlen xs)) (ht : tget T t = some ⟨.array mlen e, sz0, by_, z⟩) (he : tget T e = some te) (hd : Nat.blt d S.n = true) (hn : mlen ≤ 9223372036854775807)
    (h : Ops m P C ops l (S.put d (.sl sz xs)) K) : Ops m P C ops (⟨some d, .slice t x none none none, ty, pos, aft, gd⟩ :: l) S K := by
  refine Ops.by (d := some d) hw none okc_none hd rfl (fun a w hs => ?_) h
  have Ex := ev_rep hs x
  rw [hx, repV_cp] at Ex
  obtain ⟨b, off, vs, e1, hF, hrep, hat⟩ := Ex
  simp only [repC] at hrep
  obtain ⟨ie, hie, _, _⟩ := (tget_ok hT he).inf
  refine ⟨.slice (some ⟨b, off, none⟩) mlen mlen, repV_sl.2 ⟨some ⟨b, off, none⟩, mlen, by rw [hrep.1], by omega, by unfold maxLen; omega, fun _ => ⟨b, off, rfl, hF, repA_row hF xs vs off hrep.2 hat⟩⟩, fun w' _ => ?_⟩
  have hr := sliceArr_run (P := P) (w := w') (tk_array (tget_ok hT ht)) hie b off (by unfold maxLen; omega)
  simp only [execOp, e1, Option.map_none, Sem.run_bind, hr, Result.andThen_ok, Sem.run_pure]
end
section
variable {P : Program} {C : Ctx} {S : St} {a : Act} {w : World} {K : Exit → St → Prop}
/-- A variable that is not written any more becomes memory that nobody writes. -/
theorem Sat.freezeV (h : Sat C S a w) {k d b : Nat} {c : AV} (hg : hget S.heap k = some (.var b c)) (hd : S.slot d = .ptr k b [] 0) : Sat C ⟨S.n, (d, .cp c) :: S.slots, hdel S.heap k⟩ a w := by
  obtain ⟨j1, j2, j3⟩ := hdel_blks hg
  have h1 := h.del hg
  have hb : b ∈ blks S.heap := blk_mem hg rfl
  have hnb : b ∉ blks (hdel S.heap k) := (j2 h.nd).2 b rfl
  have hF : ∀ b, Fz C S.heap w b → Fz C (hdel S.heap k) w b := fun b hb => ⟨hb.1, fun hin => hb.2.1 (j1 b hin), hb.2.2⟩
  refine ⟨h1.n, h1.df, fun i => ?_, h1.heap, h1.nd, h1.lt, h1.mod⟩
  have hslot : (⟨S.n, (d, AV.cp c) :: S.slots, hdel S.heap k⟩ : St).slot i = if d = i then .cp c else S.slot i := lookD_put ⟨S.n, S.slots, hdel S.heap k⟩ d i (.cp c)
  rw [hslot]
  by_cases hi : d = i
  · subst hi
    rw [if_pos rfl]
    have hs := h.slots d
    rw [hd, repV_ptr] at hs
    obtain ⟨t, cs, hB, hc⟩ := h.getHeap hg
    rw [hs]
    exact repV_cp.2 ⟨b, 0, cs.toList, rfl, ⟨(h.lt b hb).1, hnb, .inr (h.lt b hb).2⟩, repC_mono hF (fun _ _ => rfl) _ _ hc, fun j u hu => by
      rw [Nat.zero_add, hB.cell]
      simpa using hu⟩
  · rw [if_neg hi]; exact h1.slots i
theorem a_freezeV {cc : Code} {n : Nat} {sl : List (Nat × AV)} {hp hp' : List (Nat × HO)} (k d : Nat) {b : Nat} {c : AV} (hg : hget hp k = some (.var b c)) (hd : lookD sl d = .ptr k b [] 0) (hh : hdel hp k = hp')
    (h : Awp P C cc ⟨n, (d, .cp c) :: sl, hp'⟩ K) : Awp P C cc ⟨n, sl, hp⟩ K := by
  subst hh
  exact ⟨fun a w hs => h.out a w (hs.freezeV (S := ⟨n, sl, hp⟩) hg hd)⟩
end
section
variable {m : OM} {P : Program} {T : List (Nat × TI)} {C : Ctx} {ops : Array Oper} {l : List Oper} {K : St → Prop} {n : Nat} {sl : List (Nat × AV)} {hp : List (Nat × HO)} {d : Nat} {ty : Nat} {pos : String} {aft : Array Edge} {gd : Option (Nat × Bool)}
theorem o_sliceCp (hT : TTOk P T) (hw : gval ops ⟨n, sl, hp⟩ gd = gwant gd) {t : Nat} {x : Operand} {sz : Nat} {xs : List AV} {mlen e sz0 by_ : Nat} {z : AV} {te : TI}
    (hx : ev ⟨n, sl, hp⟩ x = .cp (.arr sz mlen xs)) (ht : tget T t = some ⟨.array mlen e, sz0, by_, z⟩) (he : tget T e = some te) (hd : Nat.blt d n = true) (hn : Nat.ble mlen 1000000 = true)
    (h : Ops m P C ops l ⟨n, (d, .sl sz xs) :: sl, hp⟩ K) : Ops m P C ops (⟨some d, .slice t x none none none, ty, pos, aft, gd⟩ :: l) ⟨n, sl, hp⟩ K :=
  Ops.sliceCp hT hw hx ht he hd (Nat.le_trans (Nat.le_of_ble_eq_true hn) (by decide)) h
theorem o_sliceVw (hT : TTOk P T) (hw : gval ops ⟨n, sl, hp⟩ gd = gwant gd) {t : Nat} {x : Operand} {key b off : Nat} {path : List Nat} {mlen e sz0 by_ : Nat} {z : AV} {te : TI}
    (hx : ev ⟨n, sl, hp⟩ x = .ptr key b path off) (ht : tget T t = some ⟨.array mlen e, sz0, by_, z⟩) (he : tget T e = some te) (hd : Nat.blt d n = true) (hn : Nat.ble mlen 1000000 = true)
    (h : Ops m P C ops l ⟨n, (d, .vw key b path 0 off mlen mlen) :: sl, hp⟩ K) : Ops m P C ops (⟨some d, .slice t x none none none, ty, pos, aft, gd⟩ :: l) ⟨n, sl, hp⟩ K :=
  Ops.sliceVw hT hw hx ht he hd (Nat.le_trans (Nat.le_of_ble_eq_true hn) (by decide)) h
end
section
variable {m : OM} {P : Program} {T : List (Nat × TI)} {C : Ctx} {S : St} {a : Act} {w : World} {ops : Array Oper} {l : List Oper} {K : St → Prop} {d : Nat} {ty : Nat} {pos : String} {aft : Array Edge} {gd : Option (Nat × Bool)}
theorem repA_drop1 {F : Nat → Prop} : ∀ (k : Nat) (xs : List AV) (cs : List Value), repA w F 1 xs cs → repA w F 1 (xs.drop k) (cs.drop k)
  | 0, xs, cs, h => by simpa using h
  | k + 1, [], cs, h => by simp only [repA] at h; subst h; simp only [List.drop_nil, repA]
  | k + 1, x :: xs, cs, h => by
    simp only [repA] at h
    obtain ⟨c1, c2, rfl, _, hl, h2⟩ := h
    obtain ⟨u, rfl⟩ := List.length_eq_one_iff.1 hl
    simpa using repA_drop1 k xs c2 h2
theorem setRow_mod (w : World) (b : Nat) (cs : Array Value) : Mod (fun b' => b' = b) w (w.setRow b cs) := by
  refine ⟨rfl, rfl, rfl, by rw [setRow_size]; exact Nat.le_refl _, fun k hk hn => ?_⟩
  unfold World.setRow
  simp only [Array.getElem?_modify]
  rw [if_neg (fun e => hn e.symm)]
/-- copy of a string into an array variable. -/
theorem Ops.copyStr (hT : TTOk P T) (hw : gval ops S gd = gwant gd) {x y : Operand} {t ts e n sz0 by0 by1 : Nat} {z0 z1 : AV} {k1 : TK} {key b : Nat} {xs : List AV} {s : List UInt8}
    (ht : tget T t = some ⟨.slice e, sz0, by0, z0⟩) (he : tget T e = some ⟨k1, 1, by1, z1⟩) (hx : ev S x = .vw key b [] 0 0 n n) (hy : ev S y = .s s) (hg : hget S.heap key = some (.var b (.arr 1 n xs))) (hle : s.length ≤ n)
    (hd : Nat.blt d S.n = true) (hm : m.oke (some d) [key] = true)
    (h : Ops m P C ops l ⟨S.n, (d, .i .i64 s.length) :: S.slots, hset S.heap key (.var b (.arr 1 n (s.map byA ++ xs.drop s.length)))⟩ K) : Ops m P C ops (⟨some d, .call ⟨.builtin .copy, #[x, y], #[t, ts]⟩, ty, pos, aft, gd⟩ :: l) S K := by
  refine Ops.eff hw [key] hm rfl fun a w hs => ?_
  have Ex := ev_rep hs x
  rw [hx, repV_vw] at Ex
  have Ey := ev_rep hs y
  rw [hy, repV_s] at Ey
  obtain ⟨t2, cs, hb, hc⟩ := hs.getHeap hg
  simp only [repC] at hc
  have hcs : cs.size = n := by have := repA_size 1 xs _ hc.2; rw [Array.length_toList] at this; omega
  have hcl : (Lib.strCells (bytesOf s)).length = s.length := Lib.strCells_length _
  have hst := run_storeCells_at P b 0 t2 (Lib.strCells (bytesOf s)) 0 cs w hb (by rw [hcl, hcs]; omega) (Lib.strCells_oneCell _)
  have hf := Lib.run_firstCells_string (P := P) w 1 (bytesOf s)
  have hsz := (tget_ok hT he).sizeRun w
  have hmin : Nat.min (bytesOf s).size n = (bytesOf s).size := Nat.min_eq_left hle
  simp only [Nat.add_zero, Nat.zero_add, List.take_zero, List.nil_append, hcl] at hst
  generalize hw2 : w.setRow b (Lib.strCells (bytesOf s) ++ cs.toList.drop s.length).toArray = w2 at hst
  have hmod : Mod (fun b' => HO.blk (.var b (.arr 1 n xs)) = some b') w w2 := by
    rw [← hw2]
    exact (setRow_mod w b _).mono (fun _ _ h => by rw [h]; rfl)
  have hB : Blk w2 b t2 (Lib.strCells (bytesOf s) ++ cs.toList.drop s.length).toArray := by rw [← hw2]; exact setRow_heap w b cs _ t2 (0, 0) hb
  have hlt := (hs.lt b (blk_mem hg rfl)).1
  refine ⟨.int .i64 s.length, w2, ⟨S.n, S.slots, hset S.heap key (.var b (.arr 1 n (s.map byA ++ xs.drop s.length)))⟩, .i .i64 s.length, ?_, ?_, hd, repV_i.2 rfl, Eff.swap hg hmod (fun _ h => .inl h), h⟩
  · simp only [execOp, resolve, invoke, builtin, Sem.run_bind, Sem.run_pure, Result.andThen_ok, List.map_toArray, List.map_cons, List.map_nil, Ex.1, Ey.1]
    unfold Builtin.copy_
    simp [run_underlying (tk_slice (tget_ok hT ht)), Builtin.lenOf, hmin, hsz, hf, hst, goInt]
    rfl
  · refine hs.swap hg (.var b (.arr 1 n (s.map byA ++ xs.drop s.length))) hmod ⟨t2, _, hB, ?_⟩ (fun b' hb' => ?_)
    · have hF : ∀ b', Fz C S.heap w b' → Fz C (hset S.heap key (.var b (.arr 1 n (s.map byA ++ xs.drop s.length)))) w2 b' := fun b' hb' =>
        ⟨Nat.lt_of_lt_of_le hb'.1 hmod.size, by rw [blks_hset hg (.var b (.arr 1 n (s.map byA ++ xs.drop s.length))) rfl]; exact hb'.2.1, hb'.2.2⟩
      have hW : ∀ b', Fz C S.heap w b' → w2.heap[b']? = w.heap[b']? := fun b' hb' => hmod.block b' hb'.1 (fun he => hb'.2.1 (blk_mem hg he))
      refine repC_mono hF hW (.arr 1 n (s.map byA ++ xs.drop s.length)) _ ?_
      simp only [repC]
      exact ⟨by rw [List.length_append, List.length_map, List.length_drop]; omega, repA_append (repA_bytes s) (repA_drop1 _ _ _ hc.2)⟩
    · have : b = b' := by simpa [HO.blk] using hb'
      subst this
      exact ⟨by have := hmod.size; omega, .inl rfl⟩
end
section
variable {m : OM} {P : Program} {T : List (Nat × TI)} {C : Ctx} {ops : Array Oper} {l : List Oper} {K : St → Prop} {n : Nat} {sl : List (Nat × AV)} {hp : List (Nat × HO)} {d : Nat} {ty : Nat} {pos : String} {aft : Array Edge} {gd : Option (Nat × Bool)}
theorem o_copyStr (hT : TTOk P T) (hw : gval ops ⟨n, sl, hp⟩ gd = gwant gd) {x y : Operand} {t ts e k sz0 by0 by1 : Nat} {z0 z1 : AV} {k1 : TK} {key b : Nat} {xs : List AV} {s : List UInt8} {hp' : List (Nat × HO)}
    (ht : tget T t = some ⟨.slice e, sz0, by0, z0⟩) (he : tget T e = some ⟨k1, 1, by1, z1⟩) (hx : ev ⟨n, sl, hp⟩ x = .vw key b [] 0 0 k k) (hy : ev ⟨n, sl, hp⟩ y = .s s) (hg : hget hp key = some (.var b (.arr 1 k xs)))
    (hd : Nat.blt d n = true) (hm : m.oke (some d) [key] = true) (hle : s.length ≤ k) (hh : hset hp key (.var b (.arr 1 k (s.map byA ++ xs.drop s.length))) = hp')
    (h : Ops m P C ops l ⟨n, (d, .i .i64 s.length) :: sl, hp'⟩ K) : Ops m P C ops (⟨some d, .call ⟨.builtin .copy, #[x, y], #[t, ts]⟩, ty, pos, aft, gd⟩ :: l) ⟨n, sl, hp⟩ K := by
  subst hh
  exact Ops.copyStr hT hw ht he hx hy hg hle hd hm h
end
def labA (l : List UInt8) : AV := .arr 1 32 (l.map byA)
end Go.Proofs.YtcmgpkibjdbonaaGreat
namespace Go.Proofs.YtcmgpkibjdbonaaGreat
open Go Go.RowKit

section
variable {m : OM} {P : Program} {T : List (Nat × TI)} {C : Ctx} {ops : Array Oper} {l : List Oper} {K : St → Prop} {n : Nat} {sl : List (Nat × AV)} {hp : List (Nat × HO)} {d : Nat} {ty : Nat} {pos : String} {aft : Array Edge} {gd : Option (Nat × Bool)}
theorem o_eqNil (hT : TTOk P T) (hw : gval ops ⟨n, sl, hp⟩ gd = gwant gd) {t u e : Nat} {x y : Operand} {key b off : Nat} {path : List Nat} {sz0 by0 : Nat} {z0 : AV}
    (hx : ev ⟨n, sl, hp⟩ x = .ptr key b path off) (hy : ev ⟨n, sl, hp⟩ y = .nilp) (ht : tget T t = some ⟨.ptr e, sz0, by0, z0⟩) (hd : Nat.blt d n = true)
    (h : Ops m P C ops l ⟨n, (d, .b false) :: sl, hp⟩ K) : Ops m P C ops (⟨some d, .binOp .eql t x y u, ty, pos, aft, gd⟩ :: l) ⟨n, sl, hp⟩ K := by
  refine Ops.by (d := some d) hw none okc_none hd rfl (fun a w hs => ?_) h
  have Ex := ev_rep hs x
  have Ey := ev_rep hs y
  rw [hx, repV_ptr] at Ex
  rw [hy] at Ey
  obtain ⟨c2, hc2, Ey⟩ := Ey
  simp only [repC] at hc2
  subst hc2
  have hu : P.underlying t = some (.pointer e) := by
    obtain ⟨ds, hds, hk⟩ := (tget_ok hT ht).desc
    cases ds <;> simp [kOf] at hk; subst hk; exact hds
  have hp2 : P.underlying t = some (.pointer (P.pointee t)) := by
    rw [hu]; simp [Program.pointee, hu]
  refine ⟨.bool false, repV_b.2 rfl, fun w' _ => ?_⟩
  have hr := run_eql_pointer_nil (P := P) (w := w') t (some ⟨b, off, none⟩) hp2
  have Ey : a.eval y = .pointer none := Ey
  have hg : (eqGuard .eql t x y (.pointer (some ⟨b, off, none⟩)) (.pointer none)).run P w' = .ok () w' := by simp [eqGuard]
  simp only [execOp, Ex, Ey, Sem.run_bind, hg, hr, Result.andThen_ok, Sem.run_pure]
  rfl
end
section
variable {P : Program} {w : World}
theorem eqItems_bytes {e : Nat} (he : P.underlying e = some (.int .u8)) (hk : P.plainKey e = true) (d : Nat) (l1 l2 : List UInt8) : ∀ (is : List Nat), (∀ i ∈ is, i < l1.length ∧ i < l2.length) →
    (Op.eqItems (d + 1) e 1 (l1.map fun c => Value.int .u8 (c.toNat : Int)).toArray (l2.map fun c => Value.int .u8 (c.toNat : Int)).toArray is).run P w = .ok (is.all fun i => l1[i]? == l2[i]?) w
  | [], _ => by simp [Op.eqItems]
  | i :: is, h => by
    obtain ⟨h1, h2⟩ := h i (by simp)
    have ih := eqItems_bytes he hk d l1 l2 is (fun j hj => h j (by simp [hj]))
    have p1 := run_part_plain (P := P) w hk (xs := (l1.map fun c => Value.int .u8 (c.toNat : Int)).toArray) (off := i * 1) (v := .int .u8 (l1[i].toNat : Int)) (by simp [h1])
    have p2 := run_part_plain (P := P) w hk (xs := (l2.map fun c => Value.int .u8 (c.toNat : Int)).toArray) (off := i * 1) (v := .int .u8 (l2[i].toNat : Int)) (by simp [h2])
    have p3 := run_equalIn_int (P := P) w d e .u8 .u8 (l1[i].toNat : Int) (l2[i].toNat : Int) he
    simp only [Op.eqItems, Sem.run_bind, p1, p2, p3, Result.andThen_ok, List.all_cons]
    have hb : (l1[i]? == l2[i]?) = ((l1[i].toNat : Int) == (l2[i].toNat : Int)) := by
      rw [List.getElem?_eq_getElem h1, List.getElem?_eq_getElem h2]
      by_cases hc : l1[i] = l2[i]
      · simp [hc]
      · have : ¬ ((l1[i].toNat : Int) = (l2[i].toNat : Int)) := fun hq => hc (UInt8.toNat_inj.1 (by omega))
        rw [beq_false_of_ne this, beq_false_of_ne (show some l1[i] ≠ some l2[i] by simpa using hc)]
    rw [hb]
    cases ((l1[i].toNat : Int) == (l2[i].toNat : Int))
    · simp
    · simpa using ih
end
section
variable {P : Program} {w : World}
theorem all_range_eq (l1 l2 : List UInt8) (n : Nat) (h1 : l1.length = n) (h2 : l2.length = n) : ((List.range n).all fun i => l1[i]? == l2[i]?) = (l1 == l2) := by
  by_cases h : l1 = l2
  · subst h; simp
  · have hne : ∃ i, i < n ∧ l1[i]? ≠ l2[i]? := by
      apply Classical.byContradiction
      intro hno
      apply h
      apply List.ext_getElem?
      intro i
      apply Classical.byContradiction
      intro hi
      by_cases hin : i < n
      · exact hno ⟨i, hin, hi⟩
      · rw [List.getElem?_eq_none (by omega), List.getElem?_eq_none (by omega)] at hi; exact hi rfl
    obtain ⟨i, hin, hi⟩ := hne
    rw [beq_false_of_ne h, List.all_eq_false]
    exact ⟨i, List.mem_range.2 hin, by simpa using hi⟩
end
section
variable {m : OM} {P : Program} {T : List (Nat × TI)} {C : Ctx} {ops : Array Oper} {l : List Oper} {K : St → Prop} {n : Nat} {sl : List (Nat × AV)} {hp : List (Nat × HO)} {d : Nat} {ty : Nat} {pos : String} {aft : Array Edge} {gd : Option (Nat × Bool)}
/-- == on arrays of bytes. -/
theorem o_eqArr8 (hT : TTOk P T) (hw : gval ops ⟨n, sl, hp⟩ gd = gwant gd) {t u e k : Nat} {x y : Operand} {l1 l2 : List UInt8} {sz0 by0 by1 : Nat} {z0 z1 : AV}
    (hx : ev ⟨n, sl, hp⟩ x = .arr 1 k (l1.map byA)) (hy : ev ⟨n, sl, hp⟩ y = .arr 1 k (l2.map byA)) (ht : tget T t = some ⟨.array k e, sz0, by0, z0⟩) (he : tget T e = some ⟨.int .u8, 1, by1, z1⟩) (hd : Nat.blt d n = true) (hg : P.eqGuardType P.depth t = false)
    (h : Ops m P C ops l ⟨n, (d, .b (l1 == l2)) :: sl, hp⟩ K) : Ops m P C ops (⟨some d, .binOp .eql t x y u, ty, pos, aft, gd⟩ :: l) ⟨n, sl, hp⟩ K := by
  refine Ops.by (d := some d) hw none okc_none hd rfl (fun a w hs => ?_) h
  have Ex := ev_rep hs x
  have Ey := ev_rep hs y
  rw [hx] at Ex
  rw [hy] at Ey
  obtain ⟨c1, hc1, Ex⟩ := Ex
  obtain ⟨c2, hc2, Ey⟩ := Ey
  have Ex : a.eval x = .agg c1.toArray := Ex
  have Ey : a.eval y = .agg c2.toArray := Ey
  simp only [repC, List.length_map] at hc1 hc2
  have hbytes : ∀ (l : List UInt8) (cs : List Value), repA w (Fz C hp w) 1 (l.map byA) cs → cs = l.map fun c => Value.int .u8 (c.toNat : Int) := by
    intro l
    induction l with
    | nil => intro cs h; simpa only [List.map_nil, repA] using h
    | cons c l ih =>
      intro cs h
      simp only [List.map_cons, repA] at h
      obtain ⟨a1, a2, rfl, h3, _, h4⟩ := h
      simp only [byA, repC] at h3
      rw [h3, ih _ h4]; rfl
  have q1 := hbytes l1 c1 hc1.2
  have q2 := hbytes l2 c2 hc2.2
  have hu := tk_array (tget_ok hT ht)
  have hue := tk_int (tget_ok hT he)
  obtain ⟨ie, hie, hies, _⟩ := (tget_ok hT he).inf
  have hpk : P.plainKey e = true := by unfold Program.plainKey; rw [hue]
  have hco : P.cellsOf e = 1 := by unfold Program.cellsOf; rw [hie]; exact hies
  refine ⟨_, repV_b.2 rfl, fun w' _ => ?_⟩
  have h1 := run_equalIn_array (P := P) w' 9999 c1.toArray c2.toArray hu hie
  rw [hco, q1, q2, eqItems_bytes hue hpk 9998 l1 l2 (List.range k) (fun i hi => by have := List.mem_range.1 hi; omega), all_range_eq l1 l2 k hc1.1 hc2.1] at h1
  have hgd := run_eqGuard_agg (P := P) w' .eql t x y c1.toArray c2.toArray hg
  have hr := run_eql_struct (P := P) w' t c1.toArray c2.toArray
  rw [q1, q2] at hr hgd
  rw [show (10000 : Nat) = 9999 + 1 from rfl, h1] at hr
  simp only [execOp, Ex, Ey, q1, q2, Sem.run_bind, hgd, hr, Result.andThen_ok, Sem.run_pure]
end
section
variable {P : Program} {C : Ctx} {S : St} {K : Exit → St → Prop}
/-- Two pieces of code one behind the other, with what holds between them told. -/
theorem Awp.seqI {x y : Code} {X : Type} (mk : X → St) (inv : X → Prop) (h1 : Awp P C x S (thenK (fun S' => ∃ x' ks, inv x' ∧ Le ks S' (mk x')) K)) (h2 : ∀ x', inv x' → Awp P C y (mk x') K) : Awp P C (.seq x y) S K := by
  refine Awp.seq ⟨fun a w hs => ?_⟩
  refine wp_mono (h1.out a w hs) (fun e a' w' ⟨S', hk, hs'⟩ => ⟨S', ?_, hs'⟩)
  cases e with
  | normal =>
    obtain ⟨x', ks, hi, hle⟩ := hk
    exact Awp.weaken ks hle (h2 x' hi)
  | _ => exact hk
end
end Go.Proofs.YtcmgpkibjdbonaaGreat
namespace Go.Proofs.YtcmgpkibjdbonaaGreat
open Go Go.RowKit
section
variable {m : OM} {P : Program} {T : List (Nat × TI)} {C : Ctx} {ops : Array Oper} {l : List Oper} {K : St → Prop} {n : Nat} {sl : List (Nat × AV)} {hp : List (Nat × HO)} {d : Nat} {ty : Nat} {pos : String} {aft : Array Edge} {gd : Option (Nat × Bool)}
/-- A contract whose result is seen as something else. -/
theorem Spec.le {f : FuncId} {args : List AV} {os : List HO} {R R' : AV → List HO → Prop} (h : Spec P f args os R) (hr : ∀ r os', R r os' → ∃ r', SLe [] r r' ∧ R' r' os') : Spec P f args os R' :=
  ⟨h.fn, fun w vals F h1 h2 h3 => (h.run w vals F h1 h2 h3).mono fun e w' ⟨v, r, os', e1, e2, e3, e4, e5, e6⟩ => by
    obtain ⟨r', hle, hr'⟩ := hr r os' e2
    exact ⟨v, r', os', e1, hr', e3, e4, e5, hle w' _ v (fun z hz => by cases hz) e6⟩⟩
/-- A call that is handed one object, by its pointer, and gives it back. -/
theorem o_callP (hw : gval ops ⟨n, sl, hp⟩ gd = gwant gd) {f : FuncId} {args : Array Operand} {ats : Array TypeId} {as_ : List AV} {x0 : Operand} {xs : List Operand} {key b : Nat} {ho o : HO} {H1 : List (Nat × HO)} {R : AV → List HO → Prop}
    (_hx0 : args.toList = x0 :: xs) (_hk : ev ⟨n, sl, hp⟩ x0 = .ptr key b [] 0) (htk : taken hp [key] = some ([ho], H1))
    (hspec : Spec P f as_ [o] R) (hargs : argsLe [] (args.toList.map (ev ⟨n, sl, hp⟩)) as_) (hos : HOLe [] ho o) (hd : Nat.blt d n = true) (hm : m.oke (some d) [key] = true)
    (h : ∀ r os', R r os' → ∃ o', os' = [o'] ∧ ∃ H2, forceL ((key, o') :: H1) = some H2 ∧ Ops m P C ops l ⟨n, (d, r) :: sl, H2⟩ K) :
    Ops m P C ops (⟨some d, .call ⟨.value (.func f), args, ats⟩, ty, pos, aft, gd⟩ :: l) ⟨n, sl, hp⟩ K :=
  o_call [] [key] [key] hw hspec hargs htk ⟨hos, trivial⟩ hd hm (fun r os' hr => by
    obtain ⟨o', rfl, H2, h1, h2⟩ := h r os' hr
    exact ⟨H2, h1, rfl, h2⟩)
/-- A call that is handed an object and the row that it holds. -/
theorem o_callPR (hw : gval ops ⟨n, sl, hp⟩ gd = gwant gd) {f : FuncId} {args : Array Operand} {ats : Array TypeId} {as_ : List AV} {x0 : Operand} {xs : List Operand} {key b k2 : Nat} {v : Value} {fs : List AV} {ho ho2 o o2 : HO} {H1 : List (Nat × HO)} {R : AV → List HO → Prop}
    (_hx0 : args.toList = x0 :: xs) (_hk : ev ⟨n, sl, hp⟩ x0 = .ptr key b [] 0) (_hg : hget hp key = some (.var b (.agg (.own k2 v :: fs)))) (htk : taken hp [key, k2] = some ([ho, ho2], H1))
    (hspec : Spec P f as_ [o, o2] R) (hargs : argsLe [] (args.toList.map (ev ⟨n, sl, hp⟩)) as_) (hos : HOLe [] ho o) (hos2 : HOLe [] ho2 o2) (hd : Nat.blt d n = true) (hm : m.oke (some d) [key, k2] = true)
    (h : ∀ r os', R r os' → ∃ o' o2', os' = [o', o2'] ∧ ∃ H2, forceL ((key, o') :: (k2, o2') :: H1) = some H2 ∧ Ops m P C ops l ⟨n, (d, r) :: sl, H2⟩ K) :
    Ops m P C ops (⟨some d, .call ⟨.value (.func f), args, ats⟩, ty, pos, aft, gd⟩ :: l) ⟨n, sl, hp⟩ K :=
  o_call [] [key, k2] [key, k2] hw hspec hargs htk ⟨hos, hos2, trivial⟩ hd hm (fun r os' hr => by
    obtain ⟨o', o2', rfl, H2, h1, h2⟩ := h r os' hr
    exact ⟨H2, h1, rfl, h2⟩)
/-- A call that makes an object and gives a pointer to it. -/
theorem o_callN (hw : gval ops ⟨n, sl, hp⟩ gd = gwant gd) {f : FuncId} {args : Array Operand} {ats : Array TypeId} {as_ : List AV} {c : AV}
    (hspec : Spec P f as_ [] (fun v os => ∃ b, v = .ptr 0 b [] 0 ∧ os = [.var b c])) (hargs : argsLe [] (args.toList.map (ev ⟨n, sl, hp⟩)) as_) (hd : Nat.blt d n = true)
    (h : ∀ b, Ops m P C ops l ⟨n, (d, .ptr d b [] 0) :: sl, (d, .var b c) :: hp⟩ K) :
    Ops m P C ops (⟨some d, .call ⟨.value (.func f), args, ats⟩, ty, pos, aft, gd⟩ :: l) ⟨n, sl, hp⟩ K :=
  Ops.call hw [] [] [d] (hspec.le (R' := fun v os => ∃ b, v = .ptr d b [] 0 ∧ os = [.var b c]) (fun r os' ⟨b, h1, h2⟩ => ⟨.ptr d b [] 0, h1 ▸ sle_ptr, b, rfl, h2⟩)) hargs rfl trivial hd oke_nil (fun r os' hr => by
    obtain ⟨b, rfl, rfl⟩ := hr
    exact ⟨rfl, h b⟩)
end
end Go.Proofs.YtcmgpkibjdbonaaGreat
namespace Go.Proofs.YtcmgpkibjdbonaaGreat
open Go Go.RowKit

mutual
/-- A thing that reaches no memory but what it owns. -/
def flatA : AV → Bool
  | .any | .b _ | .i _ _ | .s _ | .nil | .nilp | .nilf | .nili | .ptr .. | .own .. | .vw .. => true
  | .sl _ xs => xs.isEmpty
  | .agg fs => flatAs fs
  | .arr _ _ xs => flatAs xs
  | .cp _ => false
  | .fn _ caps => flatAs caps
  | .ifc _ a => flatA a
  | .tup xs => flatAs xs
def flatAs : List AV → Bool
  | [] => true
  | x :: xs => flatA x && flatAs xs
end
section
variable {w : World} {F F' : Nat → Prop}
mutual
theorem repC_flat : ∀ (a : AV) (cs : List Value), flatA a = true → repC w F a cs → repC w F' a cs
  | .any, _, _, h => h
  | .b _, _, _, h => h
  | .i _ _, _, _, h => h
  | .s _, _, _, h => h
  | .sl sz xs, cs, hf, h => by
    simp only [flatA, List.isEmpty_iff] at hf
    subst hf
    simp only [repC] at h ⊢
    obtain ⟨A, cap, h1, h2, h3, _⟩ := h
    exact ⟨A, cap, h1, h2, h3, fun hx => absurd rfl hx⟩
  | .nil, _, _, h => h
  | .agg fs, cs, hf, h => by simp only [flatA] at hf; simp only [repC] at h ⊢; exact repL_flat fs cs hf h
  | .arr sz n xs, cs, hf, h => by simp only [flatA] at hf; simp only [repC] at h ⊢; exact ⟨h.1, repA_flat sz xs cs hf h.2⟩
  | .ptr _ _ _ _, _, _, h => h
  | .nilp, _, _, h => h
  | .own _ _, _, _, h => h
  | .vw _ _ _ _ _ _ _, _, _, h => h
  | .cp a, cs, hf, h => by simp [flatA] at hf
  | .fn f caps, cs, hf, h => by
    simp only [flatA] at hf
    simp only [repC] at h ⊢
    obtain ⟨vs, h1, h2⟩ := h
    exact ⟨vs, h1, repL_flat caps _ hf h2⟩
  | .nilf, _, _, h => h
  | .ifc t a, cs, hf, h => by
    simp only [flatA] at hf
    simp only [repC] at h ⊢
    obtain ⟨vs, h1, h2⟩ := h
    exact ⟨vs, h1, repC_flat a _ hf h2⟩
  | .nili, _, _, h => h
  | .tup _, _, _, h => h
theorem repL_flat : ∀ (xs : List AV) (cs : List Value), flatAs xs = true → repL w F xs cs → repL w F' xs cs
  | [], _, _, h => h
  | x :: xs, cs, hf, h => by
    simp only [flatAs, Bool.and_eq_true] at hf
    simp only [repL] at h ⊢
    obtain ⟨c1, c2, h1, h2, h3⟩ := h
    exact ⟨c1, c2, h1, repC_flat x c1 hf.1 h2, repL_flat xs c2 hf.2 h3⟩
theorem repA_flat (sz : Nat) : ∀ (xs : List AV) (cs : List Value), flatAs xs = true → repA w F sz xs cs → repA w F' sz xs cs
  | [], _, _, h => h
  | x :: xs, cs, hf, h => by
    simp only [flatAs, Bool.and_eq_true] at hf
    simp only [repA] at h ⊢
    obtain ⟨c1, c2, h1, h2, h3, h4⟩ := h
    exact ⟨c1, c2, h1, repC_flat x c1 hf.1 h2, h3, repA_flat sz xs c2 hf.2 h4⟩
end
def flatHO : HO → Bool
  | .var _ c => flatA c
  | .row _ _ _ xs => flatAs xs
  | .obj _ _ => true
end
section
variable {m : OM} {P : Program} {T : List (Nat × TI)} {C : Ctx} {S : St} {ops : Array Oper} {l : List Oper} {K : St → Prop}
end
mutual
/-- The rows that a value names. -/
def ownK : AV → List Nat
  | .own k _ => [k]
  | .agg fs => ownKs fs
  | _ => []
def ownKs : List AV → List Nat
  | [] => []
  | x :: xs => ownK x ++ ownKs xs
end
section
variable {m : OM} {P : Program} {T : List (Nat × TI)} {C : Ctx} {ops : Array Oper} {l : List Oper} {K : St → Prop} {n : Nat} {sl : List (Nat × AV)} {hp : List (Nat × HO)} {d : Nat} {ty : Nat} {pos : String} {aft : Array Edge} {gd : Option (Nat × Bool)}
/-- The same, what comes back may reach read-only memory: no row is lent. -/
theorem o_callR (hw : gval ops ⟨n, sl, hp⟩ gd = gwant gd) {f : FuncId} {args : Array Operand} {ats : Array TypeId} {as_ : List AV} {e sz : Nat} {xs : List AV}
    (hspec : Spec P f as_ [] (fun r os => ∃ v, r = .own 0 v ∧ os = [.row v e sz xs])) (hargs : argsLe [] (args.toList.map (ev ⟨n, sl, hp⟩)) as_) (hd : Nat.blt d n = true)
    (h : ∀ v, Ops m P C ops l ⟨n, (d, .own d v) :: sl, (d, .row v e sz xs) :: hp⟩ K) :
    Ops m P C ops (⟨some d, .call ⟨.value (.func f), args, ats⟩, ty, pos, aft, gd⟩ :: l) ⟨n, sl, hp⟩ K :=
  Ops.call hw [] [] [d] (hspec.le (R' := fun r os => ∃ v, r = .own d v ∧ os = [.row v e sz xs]) (fun r os' ⟨v, h1, h2⟩ => ⟨.own d v, h1 ▸ sle_own, v, rfl, h2⟩)) hargs rfl trivial hd oke_nil (fun r os' hr => by
    obtain ⟨v, rfl, rfl⟩ := hr
    exact ⟨rfl, h v⟩)
/-- What is not wanted, calls and writes in regions that draw their order among it. -/
theorem o_noT {op : Op} {j : Nat} {dj : Nat} (hj : (ops[j]?).bind (·.dst) = some dj) (hc : lookD sl dj = .b false) (hd : Nat.blt d n = true)
    (h1 : Ops m P C ops l ⟨n, (d, .tup []) :: sl, hp⟩ K) : Ops m P C ops (⟨some d, op, ty, pos, aft, some (j, true)⟩ :: l) ⟨n, sl, hp⟩ K :=
  Ops.gdOff hj hc rfl hd h1
theorem o_noF {op : Op} {j : Nat} {dj : Nat} (hj : (ops[j]?).bind (·.dst) = some dj) (hc : lookD sl dj = .b true) (hd : Nat.blt d n = true)
    (h1 : Ops m P C ops l ⟨n, (d, .tup []) :: sl, hp⟩ K) : Ops m P C ops (⟨some d, op, ty, pos, aft, some (j, false)⟩ :: l) ⟨n, sl, hp⟩ K :=
  Ops.gdOff hj hc rfl hd h1
end
end Go.Proofs.YtcmgpkibjdbonaaGreat
namespace Go.Proofs.YtcmgpkibjdbonaaGreat
open Go Go.RowKit
section
variable {P : Program} {T : List (Nat × TI)} {C : Ctx} {ops : Array Oper} {l : List Oper} {K : St → Prop} {S : St} {d : Option Tmp} {ty : Nat} {pos : String} {aft : Array Edge} {gd : Option (Nat × Bool)}
end
end Go.Proofs.YtcmgpkibjdbonaaGreat
