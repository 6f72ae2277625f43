/- More rules: conversions to int, append of a string. No program in sight. -/
import Derived.Test.YtfdcopbbnmialaaV13
import Derived.Lib.AppendStr
import Derived.Laws.Pointers
import Derived.ChangeKeysEq
import Derived.Laws.StructEq
namespace Go.Proofs.Ytfdcopbbnmialaa
open Go Go.RowKit

section
variable {m : OM} {P : Program} {T : List (Nat × TI)} {C : Ctx} {ops : Array Oper} {l : List Oper} {K : St → Prop} {n : Nat} {sl : List (Nat × AV)} {hp : List (Nat × HO)} {d : Nat} {ty : Nat} {pos : String} {aft : Array Edge} {gd : Option (Nat × Bool)}
theorem o_conv64 (hw : gval ops ⟨n, sl, hp⟩ gd = gwant gd) (hT : TTOk P T) {s t : Nat} {x : Operand} {kk : IntKind} {a : Int} {k1 : TI} {sz1 by1 : Nat} {z1 : AV} (hx : ev ⟨n, sl, hp⟩ x = .i kk a) (h1 : tget T s = some k1) (h2 : tget T t = some ⟨.int .i64, sz1, by1, z1⟩)
    (hd : Nat.blt d n = true) (hr : -9223372036854775808 ≤ a ∧ a ≤ 9223372036854775807) (h : Ops m P C ops l ⟨n, (d, .i .i64 a) :: sl, hp⟩ K) : Ops m P C ops (⟨some d, .convert s t x, ty, pos, aft, gd⟩ :: l) ⟨n, sl, hp⟩ K := by
  refine Ops.calm hT hw (x := .i .i64 a) (need := True) (gain := True) (rd := none) ?_ okc_none hd trivial (fun _ => h)
  simp only [cv, hx, cvConv, h1, h2, CV.pure, wrap64 _ hr]
theorem o_convB (hw : gval ops ⟨n, sl, hp⟩ gd = gwant gd) (hT : TTOk P T) {s t : Nat} {x : Operand} {kk : IntKind} {c : UInt8} {k1 : TI} {sz1 by1 : Nat} {z1 : AV} (hx : ev ⟨n, sl, hp⟩ x = .i kk (c.toNat : Int)) (h1 : tget T s = some k1) (h2 : tget T t = some ⟨.int .i64, sz1, by1, z1⟩)
    (hd : Nat.blt d n = true) (h : Ops m P C ops l ⟨n, (d, .i .i64 (c.toNat : Int)) :: sl, hp⟩ K) : Ops m P C ops (⟨some d, .convert s t x, ty, pos, aft, gd⟩ :: l) ⟨n, sl, hp⟩ K := by
  have hc := c.toNat_lt
  exact o_conv64 hw hT hx h1 h2 hd (by omega) h
end
section
variable {m : OM} {P : Program} {T : List (Nat × TI)} {C : Ctx} {S : St} {a : Act} {w : World} {ops : Array Oper} {l : List Oper} {K : St → Prop} {d : Nat} {ty : Nat} {pos : String} {aft : Array Edge} {gd : Option (Nat × Bool)}
theorem repA_bytes {F : Nat → Prop} (s : List UInt8) : repA w F 1 (s.map byA) (Lib.strCells (bytesOf s)) := by
  have h : Lib.strCells (bytesOf s) = s.map fun c => Value.int .u8 (c.toNat : Int) := rfl
  rw [h]
  clear h
  induction s with
  | nil => simp only [List.map_nil, repA]
  | cons c s ih =>
    simp only [List.map_cons, repA]
    exact ⟨[.int .u8 c.toNat], _, rfl, by simp only [byA, repC], rfl, ih⟩
theorem appendStr_run {t ts e : Nat} {i : TypeInfo} (ut : P.underlying t = some (.slice e)) (us : P.underlying ts = some .string) (hi : P.info? e = some i) (hz : i.zero = some (.int .u8 0)) (hz1 : i.size = 1) (hz2 : i.bytes = 1) (ty : Nat) {v : Value} {n : Nat} {xs : List Value} (hown : w.ownsRow 0 e 1 v n xs) (s : ByteArray) (hlen : n + s.size ≤ 140737488355328) :
    ∃ v' w', (Builtin.append_ #[t, ts] ty #[v, .string s]).run P w = .ok v' w' ∧ w'.ownsRow 0 e 1 v' (n + s.size) (xs ++ Lib.strCells s) ∧ w.grownBy w' v.ownBlock ∧ (v'.ownBlock = v.ownBlock ∨ v'.ownBlock = some w.heap.size) := by
  have hm : n + s.size ≤ maxLen := by unfold maxLen; omega
  obtain ⟨v', w', hr, h2, h3, h4⟩ := Lib.run_append_own_string (P := P) w 0 t ts ty e i ut us hi hz hz1 hz2 v n xs hown s hm hlen (Nat.zero_le _)
  refine ⟨v', w', hr, h2, h3, ?_⟩
  have hxl : xs.length = n := by simpa using hown.1
  rcases hown.2 with ⟨rfl, h0⟩ | ⟨g, cap, cur, rfl, _, hg, hnc, hcm, hcs, htake⟩
  · by_cases hs : s.size = 0
    · exact .inl (by rw [h4.2 ⟨rfl, hs⟩])
    · have hr2 := run_append_nil_string (P := P) w t ts ty e i (.int .u8 0) ut us hi hz s (by omega) (by omega) (by rw [hz2]; omega)
      rw [hr2] at hr; injection hr with e1 e2
      exact .inr (by rw [← e1]; rfl)
  · by_cases hroom : n + s.size ≤ cap
    · have hr2 := Lib.run_append_room_string (P := P) w t ts ty e i ut us hi hz1 g n cap cur hg s hroom (by rw [hcs]; omega)
      rw [hr2] at hr; injection hr with e1 e2
      exact .inl (by rw [← e1]; rfl)
    · have holds : ∀ j u, xs[j]? = some u → w.cell? ((⟨g, 0, none⟩ : Addr).add j) = some u := World.ownsRow.cells hown (g := g) rfl
      have hr2 := Lib.run_append_grow_string (P := P) w t ts ty e i (.int .u8 0) ut us hi hz ⟨g, 0, none⟩ n cap xs (by rw [hz1]; omega) holds s (by omega) (by omega) (growslice_fits (by omega) (by rw [hz2]; omega))
      rw [hr2] at hr; injection hr with e1 e2
      exact .inr (by rw [← e1]; rfl)
/-- append of a string's bytes onto a row. -/
theorem Ops.appendStr (hT : TTOk P T) (hw : gval ops S gd = gwant gd) {x y : Operand} {t ts e sz0 by0 sz1 by1 : Nat} {z0 z1 : AV} {k : Nat} {v : Value} {xs : List AV} {s : List UInt8}
    (ht : tget T t = some ⟨.slice e, sz0, by0, z0⟩) (hts : tget T ts = some ⟨.string, sz1, by1, z1⟩) (he : tget T e = some ⟨.int .u8, 1, 1, .i .u8 0⟩)
    (hx : ev S x = .own k v) (hg : hget S.heap k = some (.row v e 1 xs)) (hy : ev S y = .s s)
    (hd : Nat.blt d S.n = true) (hm : m.oke (some d) [k] = true) (hlen : xs.length + s.length ≤ 140737488355328)
    (h : ∀ v', Ops m P C ops l ⟨S.n, (d, .own k v') :: S.slots, hset S.heap k (.row v' e 1 (xs ++ s.map byA))⟩ K) : Ops m P C ops (⟨some d, .call ⟨.builtin .append, #[x, y], #[t, ts]⟩, ty, pos, aft, gd⟩ :: l) S K := by
  refine Ops.eff hw [k] hm rfl fun a w hs => ?_
  obtain ⟨i, hi, h2, h3⟩ := (tget_ok hT he).inf
  have hz : i.zero = some (.int .u8 0) := by
    rcases (tget_ok hT he).zero with h0 | ⟨cs, h4, h5⟩
    · cases h0
    · rw [hi] at h5
      simp only [flatZ, Option.some.injEq] at h4
      subst h4
      exact h5
  have Ex := ev_rep hs x
  rw [hx, repV_own] at Ex
  have Ey := ev_rep hs y
  rw [hy, repV_s] at Ey
  obtain ⟨cells, h5, h6⟩ := hs.getHeap hg
  obtain ⟨v', w', r1, r2, r3, r4⟩ := appendStr_run (tk_slice (tget_ok hT ht)) (tk_string (tget_ok hT hts)) hi hz h2 h3 ty h6 (bytesOf s) hlen
  have hsz : xs.length + (bytesOf s).size = (xs ++ s.map byA).length := by rw [List.length_append, List.length_map]; rfl
  rw [hsz] at r2
  refine ⟨v', w', _, .own k v', ?_, hs.grown hg r3 (repA_append h5 (repA_bytes s)) r2 r4, hd, repV_own.2 ⟨rfl, own_one r2⟩, Eff.swap hg ((Mod.refl _ w).grown r3 (fun k hk _ => row_blk hk)) (fun b hb => by
    have hb : v'.ownBlock = some b := blk_row hb
    rcases r4 with h | h
    · rw [h] at hb; exact .inl (row_blk hb)
    · rw [h] at hb; injection hb with hb; exact .inr (by omega)), h v'⟩
  simp only [execOp, resolve, invoke, builtin, Sem.run_bind, Sem.run_pure, Result.andThen_ok, List.map_toArray, List.map_cons, List.map_nil, Ex.1, Ey.1, r1]
end
section
variable {m : OM} {P : Program} {T : List (Nat × TI)} {C : Ctx} {ops : Array Oper} {l : List Oper} {K : St → Prop} {n : Nat} {sl : List (Nat × AV)} {hp : List (Nat × HO)} {d : Nat} {ty : Nat} {pos : String} {aft : Array Edge} {gd : Option (Nat × Bool)}
theorem o_appendStr (hT : TTOk P T) (hw : gval ops ⟨n, sl, hp⟩ gd = gwant gd) {x y : Operand} {t ts e sz0 by0 sz1 by1 : Nat} {z0 z1 : AV} {k : Nat} {v : Value} {xs : List AV} {s : List UInt8} {hp' : Value → List (Nat × HO)}
    (ht : tget T t = some ⟨.slice e, sz0, by0, z0⟩) (hts : tget T ts = some ⟨.string, sz1, by1, z1⟩) (he : tget T e = some ⟨.int .u8, 1, 1, .i .u8 0⟩)
    (hx : ev ⟨n, sl, hp⟩ x = .own k v) (hg : hget hp k = some (.row v e 1 xs)) (hy : ev ⟨n, sl, hp⟩ y = .s s)
    (hd : Nat.blt d n = true) (hm : m.oke (some d) [k] = true) (hh : ∀ v', forceL (hset hp k (.row v' e 1 (xs ++ s.map byA))) = some (hp' v')) (hlen : xs.length + s.length ≤ 140737488355328)
    (h : ∀ v', Ops m P C ops l ⟨n, (d, .own k v') :: sl, hp' v'⟩ K) : Ops m P C ops (⟨some d, .call ⟨.builtin .append, #[x, y], #[t, ts]⟩, ty, pos, aft, gd⟩ :: l) ⟨n, sl, hp⟩ K :=
  Ops.appendStr hT hw ht hts he hx hg hy hd hm hlen (fun v' => by
    have := h v'
    rw [← forceL_eq _ _ (hh v')] at this
    exact this)
theorem o_indexArr (hT : TTOk P T) (hw : gval ops ⟨n, sl, hp⟩ gd = gwant gd) {t : Nat} {x ix : Operand} {key b : Nat} {i : Int} {kk : IntKind} {mlen e sz0 by_ : Nat} {z : AV} {te : TI}
    (hx : ev ⟨n, sl, hp⟩ x = .ptr key b [] 0) (hi : ev ⟨n, sl, hp⟩ ix = .i kk i) (ht : tget T t = some ⟨.array mlen e, sz0, by_, z⟩) (he : tget T e = some te)
    (hd : Nat.blt d n = true) (j : Nat) (hj : i = j) (hn : j < mlen) (h : Ops m P C ops l ⟨n, (d, .ptr key b [j] (j * te.sz)) :: sl, hp⟩ K) : Ops m P C ops (⟨some d, .indexAddr t x ix, ty, pos, aft, gd⟩ :: l) ⟨n, sl, hp⟩ K := by
  subst hj
  refine Ops.indexArr hT hw hx hi ht he hd (by omega) (by omega) ?_
  simp only [List.nil_append, Nat.zero_add, Int.toNat_natCast]
  exact h
/-- A store into an element of an array variable. -/
theorem o_storeArr (hT : TTOk P T) (hw : gval ops ⟨n, sl, hp⟩ gd = gwant gd) {t : Nat} {x y : Operand} {u : AV} {key b off j sz mlen : Nat} {xs : List AV} {old : AV} {ti : TI} {hp' : List (Nat × HO)}
    (hx : ev ⟨n, sl, hp⟩ x = .ptr key b [j] off) (ht : tget T t = some ti) (hg : hget hp key = some (.var b (.arr sz mlen xs))) (ho : j * sz = off) (hu : ev ⟨n, sl, hp⟩ y = u) (hf : fits ti u) (hy : u.isVal = true) (hm : m.oke none [key] = true)
    (hj : xs[j]? = some old) (hold : sizeA old = ti.sz)
    (hh : hset hp key (.var b (.arr sz mlen (xs.set j u))) = hp') (h : Ops m P C ops l ⟨n, sl, hp'⟩ K) : Ops m P C ops (⟨none, .store t x y, ty, pos, aft, gd⟩ :: l) ⟨n, sl, hp⟩ K := by
  subst hu
  refine Ops.store hT hw hx ht hg (o := off) (old := old) ?_ rfl hf hold hy hm ?_
  · simp only [subAt, hj, Nat.add_zero, ho]
  · subst hh; exact h
/-- Says that a guard's value is known. -/
theorem o_isLit {dd : Option Tmp} {op : Op} {j : Nat} {g : Bool} {dj : Nat} (_hj : (ops[j]?).bind (·.dst) = some dj) (_hc : lookD sl dj = .b true ∨ lookD sl dj = .b false) (h : Ops m P C ops (⟨dd, op, ty, pos, aft, some (j, g)⟩ :: l) ⟨n, sl, hp⟩ K) :
    Ops m P C ops (⟨dd, op, ty, pos, aft, some (j, g)⟩ :: l) ⟨n, sl, hp⟩ K := h
end
end Go.Proofs.Ytfdcopbbnmialaa
namespace Go.Proofs.Ytfdcopbbnmialaa
open Go Go.RowKit

section
variable {P : Program} {T : List (Nat × TI)} {w : World}
end
section
variable {m : OM} {P : Program} {T : List (Nat × TI)} {C : Ctx} {S : St} {a : Act} {w : World} {ops : Array Oper} {l : List Oper} {K : St → Prop} {d : Nat} {ty : Nat} {pos : String} {aft : Array Edge} {gd : Option (Nat × Bool)}
end
section
variable {P : Program} {C : Ctx} {S : St} {a : Act} {w : World} {K : Exit → St → Prop}
end
section
variable {m : OM} {P : Program} {T : List (Nat × TI)} {C : Ctx} {ops : Array Oper} {l : List Oper} {K : St → Prop} {n : Nat} {sl : List (Nat × AV)} {hp : List (Nat × HO)} {d : Nat} {ty : Nat} {pos : String} {aft : Array Edge} {gd : Option (Nat × Bool)}
end
section
variable {m : OM} {P : Program} {T : List (Nat × TI)} {C : Ctx} {S : St} {a : Act} {w : World} {ops : Array Oper} {l : List Oper} {K : St → Prop} {d : Nat} {ty : Nat} {pos : String} {aft : Array Edge} {gd : Option (Nat × Bool)}
end
section
variable {m : OM} {P : Program} {T : List (Nat × TI)} {C : Ctx} {ops : Array Oper} {l : List Oper} {K : St → Prop} {n : Nat} {sl : List (Nat × AV)} {hp : List (Nat × HO)} {d : Nat} {ty : Nat} {pos : String} {aft : Array Edge} {gd : Option (Nat × Bool)}
end
def labA (l : List UInt8) : AV := .arr 1 32 (l.map byA)
end Go.Proofs.Ytfdcopbbnmialaa
namespace Go.Proofs.Ytfdcopbbnmialaa
open Go Go.RowKit

section
variable {m : OM} {P : Program} {T : List (Nat × TI)} {C : Ctx} {ops : Array Oper} {l : List Oper} {K : St → Prop} {n : Nat} {sl : List (Nat × AV)} {hp : List (Nat × HO)} {d : Nat} {ty : Nat} {pos : String} {aft : Array Edge} {gd : Option (Nat × Bool)}
theorem o_eqNil (hT : TTOk P T) (hw : gval ops ⟨n, sl, hp⟩ gd = gwant gd) {t u e : Nat} {x y : Operand} {key b off : Nat} {path : List Nat} {sz0 by0 : Nat} {z0 : AV}
    (hx : ev ⟨n, sl, hp⟩ x = .ptr key b path off) (hy : ev ⟨n, sl, hp⟩ y = .nilp) (ht : tget T t = some ⟨.ptr e, sz0, by0, z0⟩) (hd : Nat.blt d n = true)
    (h : Ops m P C ops l ⟨n, (d, .b false) :: sl, hp⟩ K) : Ops m P C ops (⟨some d, .binOp .eql t x y u, ty, pos, aft, gd⟩ :: l) ⟨n, sl, hp⟩ K := by
  refine Ops.by (d := some d) hw none okc_none hd rfl (fun a w hs => ?_) h
  have Ex := ev_rep hs x
  have Ey := ev_rep hs y
  rw [hx, repV_ptr] at Ex
  rw [hy] at Ey
  obtain ⟨c2, hc2, Ey⟩ := Ey
  simp only [repC] at hc2
  subst hc2
  have hu : P.underlying t = some (.pointer e) := by
    obtain ⟨ds, hds, hk⟩ := (tget_ok hT ht).desc
    cases ds <;> simp [kOf] at hk; subst hk; exact hds
  have hp2 : P.underlying t = some (.pointer (P.pointee t)) := by
    rw [hu]; simp [Program.pointee, hu]
  refine ⟨.bool false, repV_b.2 rfl, fun w' _ => ?_⟩
  have hr := run_eql_pointer_nil (P := P) (w := w') t (some ⟨b, off, none⟩) hp2
  have Ey : a.eval y = .pointer none := Ey
  have hg : (eqGuard .eql t x y (.pointer (some ⟨b, off, none⟩)) (.pointer none)).run P w' = .ok () w' := by simp [eqGuard]
  simp only [execOp, Ex, Ey, Sem.run_bind, hg, hr, Result.andThen_ok, Sem.run_pure]
  rfl
end
section
variable {P : Program} {w : World}
end
section
variable {P : Program} {w : World}
end
section
variable {m : OM} {P : Program} {T : List (Nat × TI)} {C : Ctx} {ops : Array Oper} {l : List Oper} {K : St → Prop} {n : Nat} {sl : List (Nat × AV)} {hp : List (Nat × HO)} {d : Nat} {ty : Nat} {pos : String} {aft : Array Edge} {gd : Option (Nat × Bool)}
end
section
variable {P : Program} {C : Ctx} {S : St} {K : Exit → St → Prop}
end
end Go.Proofs.Ytfdcopbbnmialaa
namespace Go.Proofs.Ytfdcopbbnmialaa
open Go Go.RowKit
section
variable {m : OM} {P : Program} {T : List (Nat × TI)} {C : Ctx} {ops : Array Oper} {l : List Oper} {K : St → Prop} {n : Nat} {sl : List (Nat × AV)} {hp : List (Nat × HO)} {d : Nat} {ty : Nat} {pos : String} {aft : Array Edge} {gd : Option (Nat × Bool)}
/-- A contract whose result is seen as something else. -/
theorem Spec.le {f : FuncId} {args : List AV} {os : List HO} {R R' : AV → List HO → Prop} (h : Spec P f args os R) (hr : ∀ r os', R r os' → ∃ r', SLe [] r r' ∧ R' r' os') : Spec P f args os R' :=
  ⟨h.fn, fun w vals F h1 h2 h3 => (h.run w vals F h1 h2 h3).mono fun e w' ⟨v, r, os', e1, e2, e3, e4, e5, e6⟩ => by
    obtain ⟨r', hle, hr'⟩ := hr r os' e2
    exact ⟨v, r', os', e1, hr', e3, e4, e5, hle w' _ v (fun z hz => by cases hz) e6⟩⟩
end
end Go.Proofs.Ytfdcopbbnmialaa
