/- Maps that a function makes and owns; functions with what they hold; calls of them. No program in sight. -/
import Derived.Test.YtnmnhnlebkebfaaV19
namespace Go.Proofs.Ytnmnhnlebkebfaa
open Go Go.RowKit

def setB (w : World) (b : Nat) (o : Obj) : World := { w with heap := w.heap.setIfInBounds b o }
/-! Sets: maps to true. -/
def setO (l : List Value) : Obj := .map (l.zipIdx.map (fun p => (⟨p.1, .bool true, p.2⟩ : MapEntry))).toArray l.length
/-- A kind of key that is told by looking. -/
structure KeyK (α : Type) [BEq α] (v : α → Value) (desc : TypeDesc) : Prop where
  now : ∀ a b, Instr.sameNow desc (v a) (v b) = some (a == b)
  plain : ∀ (P : Program) (w : World) (e : Bool) (t : TypeId) a, P.underlying t = some desc → (Instr.checkKey e 10000 t (v a)).run P w = .ok () w
def vI (n : Int) : Value := .int .i64 n
def vS (s : List UInt8) : Value := .string (bytesOf s)
theorem keyI : KeyK Int vI (.int .i64) where
  now a b := by simp [Instr.sameNow, vI]
  plain P w e t a h := by unfold Instr.checkKey; simp [underlying, Sem.run_bind, vI, h, show (program).run P w = .ok P w from rfl, Sem.run_pure, Result.andThen_ok]
section
variable {α : Type} [BEq α] [LawfulBEq α] {v : α → Value} {desc : TypeDesc}
theorem findNow_set (hk : KeyK α v desc) (k : α) : ∀ (l : List α) (j i : Nat),
    (l.contains k = true → ∃ q, Instr.findNow desc (v k) (((l.map v).zipIdx j).map (fun p => (⟨p.1, .bool true, p.2⟩ : MapEntry))) i = some (some (q, .bool true))) ∧
    (l.contains k = false → Instr.findNow desc (v k) (((l.map v).zipIdx j).map (fun p => (⟨p.1, .bool true, p.2⟩ : MapEntry))) i = some none)
  | [], j, i => ⟨fun h => by simp at h, fun _ => rfl⟩
  | x :: l, j, i => by
    have ih := findNow_set hk k l (j + 1) (i + 1)
    simp only [List.map_cons, List.zipIdx_cons, Instr.findNow, hk.now k x]
    cases hkx : (k == x) with
    | true => exact ⟨fun _ => ⟨i, rfl⟩, fun h => by simp [List.contains_cons, hkx] at h⟩
    | false =>
      refine ⟨fun h => ih.1 ?_, fun h => ih.2 ?_⟩
      · simpa [List.contains_cons, hkx] using h
      · simpa [List.contains_cons, hkx] using h
variable {P : Program} {w : World} {b : Nat} {t kt et : TypeId}
theorem lookup_set (hk : KeyK α v desc) (l : List α) (k : α) (hb : w.heap[b]? = some (setO (l.map v))) (ht : P.underlying t = some (.map kt et)) (hkt : P.underlying kt = some desc) (hz : (zeroValue et).run P w = .ok (.bool false) w) :
    (Instr.lookup t (.map (some b)) (v k) false).run P w = .ok (.bool (l.contains k)) w := by
  have h1 := findNow_set hk k l 0 0
  unfold Instr.lookup
  simp only [underlying, Sem.run_bind, show (program).run P w = .ok P w from rfl, Result.andThen_ok, ht, Sem.run_pure]
  have hg : (getObj b).run P w = .ok (setO (l.map v)) w := by unfold getObj; simp [Sem.run, hb, setO]
  rw [hg]
  have hck : ∀ e, (Instr.checkKey e 10000 kt (v k)).run P w = .ok () w := fun e => hk.plain P w e kt k hkt
  simp only [Result.andThen_ok, setO, Sem.run_bind, Sem.run_pure, hck]
  unfold Instr.findKey
  simp only [underlying, Sem.run_bind, show (program).run P w = .ok P w from rfl, Result.andThen_ok, hkt, Sem.run_pure]
  cases hc : l.contains k with
  | true =>
    obtain ⟨q, h2⟩ := h1.1 hc
    rw [h2]
    simp [Sem.run_pure]
  | false =>
    rw [h1.2 hc]
    simp [Sem.run_pure, Sem.run_bind, hz]
theorem update_set (hk : KeyK α v desc) (l : List α) (k : α) (hb : w.heap[b]? = some (setO (l.map v))) (ht : P.underlying t = some (.map kt et)) (hkt : P.underlying kt = some desc) (hn : l.contains k = false) :
    (Instr.mapUpdate t (.map (some b)) (v k) (.bool true)).run P w = .ok () (setB w b (setO ((l ++ [k]).map v))) := by
  have h1 := (findNow_set hk k l 0 0).2 hn
  unfold Instr.mapUpdate
  simp only [underlying, Sem.run_bind, show (program).run P w = .ok P w from rfl, Result.andThen_ok, ht, Sem.run_pure]
  have hg : (getObj b).run P w = .ok (setO (l.map v)) w := by unfold getObj; simp [Sem.run, hb, setO]
  rw [hg]
  have hck : ∀ e, (Instr.checkKey e 10000 kt (v k)).run P w = .ok () w := fun e => hk.plain P w e kt k hkt
  simp only [Result.andThen_ok, setO, Sem.run_bind, Sem.run_pure, hck]
  unfold Instr.findKey
  simp only [underlying, Sem.run_bind, show (program).run P w = .ok P w from rfl, Result.andThen_ok, hkt, Sem.run_pure, h1]
  have e1 : (((l.map v).zipIdx.map (fun p => (⟨p.1, .bool true, p.2⟩ : MapEntry))).toArray.push ⟨v k, .bool true, (l.map v).length⟩) = ((((l ++ [k]).map v).zipIdx).map (fun p => (⟨p.1, .bool true, p.2⟩ : MapEntry))).toArray := by
    simp [List.zipIdx_append]
  have e2 : (l.map v).length + 1 = ((l ++ [k]).map v).length := by simp
  rw [e1, e2]
  have hlt := (Array.getElem?_eq_some_iff.1 hb).1
  have hbo : w.heap[b]? = some (.map (List.map (fun p => (⟨p.1, .bool true, p.2⟩ : MapEntry)) (List.map v l).zipIdx).toArray (List.map v l).length) := hb
  simp only [setObj, Sem.run, hbo]
  rfl
end
theorem Mod.setB_ {w : World} {b : Nat} {S : Nat → Prop} (hS : S b) (o : Obj) : Mod S w (setB w b o) :=
  ⟨rfl, rfl, rfl, by simp [setB], fun k _ hn => by
    have hne : b ≠ k := fun h => hn (h ▸ hS)
    show (w.heap.setIfInBounds b o)[k]? = _
    rw [Array.getElem?_setIfInBounds_ne hne]⟩
section
variable {m : OM} {P : Program} {T : List (Nat × TI)} {C : Ctx} {ops : Array Oper} {l : List Oper} {K : St → Prop} {n : Nat} {sl : List (Nat × AV)} {hp : List (Nat × HO)} {d : Nat} {ty : Nat} {pos : String} {aft : Array Edge} {gd : Option (Nat × Bool)}
theorem map_desc (hT : TTOk P T) {t kt et sz by_ : Nat} {z : AV} (ht : tget T t = some ⟨.map kt et, sz, by_, z⟩) : P.underlying t = some (.map kt et) := by
  obtain ⟨dd, h1, h2⟩ := (tget_ok hT ht).desc
  have h2 : kOf dd = .map kt et := h2
  cases dd <;> simp only [kOf] at h2 <;> first | (cases h2; rw [h1]) | cases h2
theorem bool_zero (hT : TTOk P T) {t sz by_ : Nat} (ht : tget T t = some ⟨.bool, sz, by_, .b false⟩) (w : World) : (zeroValue t).run P w = .ok (.bool false) w := by
  rcases (tget_ok hT ht).zero with h0 | ⟨cs, h1, h2⟩
  · cases h0
  · have h1 : cs = [.bool false] := by simpa [flatZ] using h1.symm
    subst h1
    cases hi : P.info? t with
    | none => rw [hi] at h2; cases h2
    | some i =>
      rw [hi] at h2
      have h2 : i.zero = some (.bool false) := by simpa [ofCells, AV.isAgg] using h2
      simp [zeroValue, typeInfo, hi, h2, Sem.run]
theorem o_makeMap (hw : gval ops ⟨n, sl, hp⟩ gd = gwant gd) {t : Nat} (hd : Nat.blt d n = true)
    (h : ∀ b, Ops m P C ops l ⟨n, (d, .own d (.map (some b))) :: sl, (d, .obj b (setO [])) :: hp⟩ K) : Ops m P C ops (⟨some d, .makeMap t none, ty, pos, aft, gd⟩ :: l) ⟨n, sl, hp⟩ K := by
  refine Ops.eff hw [] oke_nil rfl fun a w hs => ?_
  have hm : Mod None_ w (w.alloc (setO [])) := (Mod.refl _ w).alloc _
  refine ⟨.map (some w.heap.size), w.alloc (setO []), ⟨n, sl, (d, .obj w.heap.size (setO [])) :: hp⟩, .own d (.map (some w.heap.size)), ?_, ?_, hd, repV_own.2 ⟨rfl, rfl⟩, Eff.new hm (fun b hb => Nat.le_of_eq (by simpa [HO.blk] using hb)), h _⟩
  · simp [execOp, Instr.makeMap, newObj, Sem.run, setO]
  · refine hs.new d _ hm ?_ (fun b hb => ?_)
    · show (w.alloc (setO [])).heap[w.heap.size]? = _
      exact (MapKept.heap_alloc w _).1
    · have : w.heap.size = b := by simpa [HO.blk] using hb
      subst this
      simp
section
variable {α : Type} [BEq α] [LawfulBEq α] {v : α → Value} {desc : TypeDesc}
theorem o_lookupSet (hT : TTOk P T) (hk : KeyK α v desc) (hw : gval ops ⟨n, sl, hp⟩ gd = gwant gd) {t kt et sz by_ sz1 by1 k b : Nat} {z : AV} {x ix : Operand} (xs : List α) (y : α)
    (ht : tget T t = some ⟨.map kt et, sz, by_, z⟩) (hkt : P.underlying kt = some desc) (het : tget T et = some ⟨.bool, sz1, by1, .b false⟩)
    (hx : ev ⟨n, sl, hp⟩ x = .own k (.map (some b))) (hg : hget hp k = some (.obj b (setO (xs.map v)))) (hy : ∀ (w : World) (F : Nat → Prop) u, repV w F (ev ⟨n, sl, hp⟩ ix) u → u = v y)
    (hd : Nat.blt d n = true) (h : Ops m P C ops l ⟨n, (d, .b (xs.contains y)) :: sl, hp⟩ K) : Ops m P C ops (⟨some d, .lookup t x ix false, ty, pos, aft, gd⟩ :: l) ⟨n, sl, hp⟩ K := by
  refine Ops.eff hw [] oke_nil rfl fun a w hs => ⟨.bool (xs.contains y), w, _, .b (xs.contains y), ?_, hs, hd, repV_b.2 rfl, Eff.same (Mod.refl _ w), h⟩
  have Ex := ev_rep hs x
  rw [hx, repV_own] at Ex
  have Ey := hy _ _ _ (ev_rep hs ix)
  have hb : w.heap[b]? = some (setO (xs.map v)) := hs.getHeap hg
  have := lookup_set hk xs y hb (map_desc hT ht) hkt (bool_zero hT het w)
  simp only [execOp, Ex.1, Ey, Sem.run_bind, this, Result.andThen_ok, Sem.run_pure]
theorem o_updateSet (hT : TTOk P T) (hk : KeyK α v desc) (hw : gval ops ⟨n, sl, hp⟩ gd = gwant gd) {t kt et sz by_ k b : Nat} {z : AV} {x ix y : Operand} (xs : List α) (u : α)
    (ht : tget T t = some ⟨.map kt et, sz, by_, z⟩) (hkt : P.underlying kt = some desc)
    (hx : ev ⟨n, sl, hp⟩ x = .own k (.map (some b))) (hg : hget hp k = some (.obj b (setO (xs.map v)))) (hi : ∀ (w : World) (F : Nat → Prop) q, repV w F (ev ⟨n, sl, hp⟩ ix) q → q = v u) (hy : ev ⟨n, sl, hp⟩ y = .b true)
    {hp' : List (Nat × HO)} (hm : m.oke none [k] = true) (hh : forceL (hset hp k (.obj b (setO ((xs ++ [u]).map v)))) = some hp') (hn : xs.contains u = false) (h : Ops m P C ops l ⟨n, sl, hp'⟩ K) : Ops m P C ops (⟨none, .mapUpdate t x ix y, ty, pos, aft, gd⟩ :: l) ⟨n, sl, hp⟩ K := by
  have hh := forceL_eq _ _ hh
  subst hh
  refine Ops.effS hw [k] hm rfl fun a w hs => ?_
  have Ex := ev_rep hs x
  rw [hx, repV_own] at Ex
  have Ei := hi _ _ _ (ev_rep hs ix)
  have Ey := ev_rep hs y
  rw [hy, repV_b] at Ey
  have hb : w.heap[b]? = some (setO (xs.map v)) := hs.getHeap hg
  have hlt := (Array.getElem?_eq_some_iff.1 hb).1
  have hrun := update_set hk xs u hb (map_desc hT ht) hkt hn
  have hm0 : Mod (fun b' => HO.blk (.obj b (setO (xs.map v))) = some b') w (setB w b (setO ((xs ++ [u]).map v))) := Mod.setB_ (S := fun b' => HO.blk (.obj b (setO (xs.map v))) = some b') rfl _
  refine ⟨_, ⟨n, sl, hset hp k (.obj b (setO ((xs ++ [u]).map v)))⟩, ?_, hs.swap hg (.obj b (setO ((xs ++ [u]).map v))) hm0 ?_ (fun b' hb' => ?_), Eff.swap hg hm0 (fun _ h => .inl h), h⟩
  · simp only [execOp, Ex.1, Ei, Ey, Sem.run_bind, hrun, Result.andThen_ok, Sem.run_pure]
  · show (w.heap.setIfInBounds b _)[b]? = _
    rw [Array.getElem?_setIfInBounds_self_of_lt hlt]
  · have : b = b' := by simpa [HO.blk] using hb'
    subst this
    exact ⟨by simpa [setB] using hlt, .inl rfl⟩
end
/-! Functions with what they hold. -/
def isOne : AV → Bool
  | .agg _ | .arr .. | .tup _ => false
  | _ => true
theorem one_rep {w : World} {F : Nat → Prop} {x : AV} {v : Value} (hx : isOne x = true) (h : x.isVal = true) (hv : repV w F x v) : repC w F x [v] := by
  obtain ⟨cs, h1, h2⟩ := repV_cells h hv
  have hag : x.isAgg = false := by cases x <;> simp [isOne, AV.isAgg] at hx ⊢
  obtain ⟨u, rfl⟩ := flat_one h1 hag
  unfold ofCells at h2
  rw [hag] at h2
  simp at h2
  rw [h2]; exact h1
theorem o_makeFunc1 (hw : gval ops ⟨n, sl, hp⟩ gd = gwant gd) {f : Fn} {c1 : Operand} {x1 : AV} (h1 : ev ⟨n, sl, hp⟩ c1 = x1) (o1 : isOne x1 = true) (i1 : x1.isVal = true) (hd : Nat.blt d n = true)
    (h : Ops m P C ops l ⟨n, (d, .fn f [x1]) :: sl, hp⟩ K) : Ops m P C ops (⟨some d, .makeFunc f #[] #[c1], ty, pos, aft, gd⟩ :: l) ⟨n, sl, hp⟩ K := by
  refine Ops.by hw none okc_none hd rfl (fun a w hs => ⟨.func f #[] #[a.eval c1], ?_, fun w' _ => ?_⟩) h
  · have e1 := ev_rep hs c1
    rw [h1] at e1
    refine ⟨[.func f #[] #[a.eval c1]], ?_, rfl⟩
    simp only [repC]
    exact ⟨_, rfl, by simp only [repL]; exact ⟨[a.eval c1], [], rfl, one_rep o1 i1 e1, rfl⟩⟩
  · simp [execOp, Instr.makeFunc, Sem.run]
theorem repL_vs {w : World} {F : Nat → Prop} : ∀ (xs : List AV) (cs : List Value), xs.all isOne = true → repL w F xs cs → repVs w F xs cs
  | [], cs, _, h => by
    simp only [repL] at h
    subst h
    exact ⟨rfl, fun i x v hx => by simp at hx⟩
  | x :: xs, cs, h0, h => by
    simp only [repL] at h
    obtain ⟨c1, c2, rfl, h1, h2⟩ := h
    simp only [List.all_cons, Bool.and_eq_true] at h0
    have hag : x.isAgg = false := by cases x <;> simp [isOne, AV.isAgg] at h0 ⊢
    obtain ⟨u, rfl⟩ := flat_one h1 hag
    obtain ⟨i1, i2⟩ := repL_vs xs c2 h0.2 h2
    refine ⟨by simp [i1], fun i y v hy hv => ?_⟩
    cases i with
    | zero =>
      simp at hy hv
      subst hy; subst hv
      have := repV_mk h1
      unfold ofCells at this
      rw [hag] at this
      exact this
    | succ i => exact i2 i y v (by simpa using hy) (by simpa using hv)
theorem execOp_clo (a : Act) {dd : Option Tmp} {c : Operand} {f : FuncId} {vs : Array Value} (hc : a.eval c = .func (.func f) #[] vs) (args : Array Operand) (ats : Array TypeId) :
    execOp a.eval ⟨dd, .call ⟨.value c, args, ats⟩, ty, pos, aft, gd⟩ = callFunc f (#[] ++ args.map a.eval ++ vs) := by
  unfold execOp
  simp only [resolve, hc, Deferred.ofValue]
  rfl
/-- A call of a function value by contract: what it holds stands behind the arguments. -/
theorem o_callClo (hw : gval ops ⟨n, sl, hp⟩ gd = gwant gd) {c : Operand} {f : FuncId} {args : Array Operand} {ats : Array TypeId} {caps as : List AV} {R : AV → List HO → Prop} (hc : ev ⟨n, sl, hp⟩ c = .fn (.func f) caps) (ho : caps.all isOne = true)
    (hspec : Spec P f as [] R) (hargs : argsLe [] (args.toList.map (ev ⟨n, sl, hp⟩) ++ caps) as) (hd : Nat.blt d n = true) (heff : effOp P (.call ⟨.value c, args, ats⟩) = true)
    (h : ∀ r os', R r os' → os' = [] ∧ Ops m P C ops l ⟨n, (d, r) :: sl, hp⟩ K) :
    Ops m P C ops (⟨some d, .call ⟨.value c, args, ats⟩, ty, pos, aft, gd⟩ :: l) ⟨n, sl, hp⟩ K :=
  Ops.callG hw heff (args.toList.map (ev ⟨n, sl, hp⟩) ++ caps) (fun a w hs => by
    have Ec := ev_rep hs c
    rw [hc] at Ec
    obtain ⟨cs, e1, e2⟩ := Ec
    simp only [repC] at e1
    obtain ⟨vs, rfl, hv⟩ := e1
    have hev : a.eval c = .func (.func f) #[] vs := e2
    obtain ⟨k1, k2⟩ := repL_vs caps vs.toList ho hv
    refine ⟨args.toList.map a.eval ++ vs.toList, ⟨by simp [k1], fun i x v hx hv2 => ?_⟩, ?_⟩
    · rcases Nat.lt_or_ge i args.toList.length with hi | hi
      · rw [List.getElem?_append_left (by simpa using hi), List.getElem?_map] at hx hv2
        cases hq : args.toList[i]? with
        | none => rw [hq] at hx; cases hx
        | some o =>
          rw [hq] at hx hv2
          simp only [Option.map_some, Option.some.injEq] at hx hv2
          subst hx; subst hv2
          exact ev_rep hs o
      · rw [List.getElem?_append_right (by simpa using hi)] at hx hv2
        exact k2 _ x v (by simpa using hx) (by simpa using hv2)
    · rw [execOp_clo a hev args ats]
      congr 1
      apply Array.ext'
      simp [Array.toList_map]) [] [] [] hspec hargs rfl trivial hd oke_nil (fun r os' hr => by
    obtain ⟨rfl, h1⟩ := h r os' hr
    exact ⟨rfl, h1⟩)
end
end Go.Proofs.Ytnmnhnlebkebfaa
