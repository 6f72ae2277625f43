/- The rules in the shape in which the proofs take them. No program in sight. -/
import Derived.Test.YtfdcopbbnmialaaV9
namespace Go.Proofs.Ytfdcopbbnmialaa
open Go Go.RowKit

/-! Values and lists looked at through and through. -/
def forceL {α : Type} : List α → Option (List α)
  | [] => some []
  | x :: r => match forceL r with
    | some r' => some (x :: r')
    | none => none
theorem forceL_eq {α : Type} : ∀ (l l' : List α), forceL l = some l' → l = l'
  | [], l', h => by simp [forceL] at h; exact h.symm
  | x :: r, l', h => by
    unfold forceL at h
    cases hr : forceL r with
    | none => rw [hr] at h; cases h
    | some r' =>
      rw [hr] at h
      simp only [Option.some.injEq] at h
      rw [← h, forceL_eq r r' hr]
mutual
def forceA : AV → Option AV
  | .any => some .any
  | .b t => some (.b t)
  | .i k n => some (.i k n)
  | .s x => some (.s x)
  | .sl sz xs => some (.sl sz xs)
  | .nil => some .nil
  | .agg fs => match forceAs fs with
    | some gs => some (.agg gs)
    | none => none
  | .arr sz n xs => some (.arr sz n xs)
  | .ptr k b p o => some (.ptr k b p o)
  | .nilp => some .nilp
  | .own k v => some (.own k v)
  | .vw k b p st o n c => some (.vw k b p st o n c)
  | .cp a => some (.cp a)
  | .fn f c => some (.fn f c)
  | .nilf => some .nilf
  | .ifc t a => some (.ifc t a)
  | .nili => some .nili
  | .tup xs => some (.tup xs)
def forceAs : List AV → Option (List AV)
  | [] => some []
  | x :: r => match forceA x, forceAs r with
    | some x', some r' => some (x' :: r')
    | _, _ => none
end
mutual
theorem forceA_eq : ∀ (a b : AV), forceA a = some b → a = b
  | .agg fs, b, h => by
    simp only [forceA] at h
    cases hf : forceAs fs with
    | none => rw [hf] at h; cases h
    | some gs =>
      rw [hf] at h
      simp only [Option.some.injEq] at h
      rw [← h, forceAs_eq fs gs hf]
  | .any, b, h => by simpa [forceA] using h
  | .b _, b, h => by simpa [forceA] using h
  | .i _ _, b, h => by simpa [forceA] using h
  | .s _, b, h => by simpa [forceA] using h
  | .sl _ _, b, h => by simpa [forceA] using h
  | .nil, b, h => by simpa [forceA] using h
  | .arr _ _ _, b, h => by simpa [forceA] using h
  | .ptr _ _ _ _, b, h => by simpa [forceA] using h
  | .nilp, b, h => by simpa [forceA] using h
  | .own _ _, b, h => by simpa [forceA] using h
  | .vw _ _ _ _ _ _ _, b, h => by simpa [forceA] using h
  | .cp _, b, h => by simpa [forceA] using h
  | .fn _ _, b, h => by simpa [forceA] using h
  | .nilf, b, h => by simpa [forceA] using h
  | .ifc _ _, b, h => by simpa [forceA] using h
  | .nili, b, h => by simpa [forceA] using h
  | .tup _, b, h => by simpa [forceA] using h
theorem forceAs_eq : ∀ (l l' : List AV), forceAs l = some l' → l = l'
  | [], l', h => by simpa [forceAs] using h
  | x :: r, l', h => by
    simp only [forceAs] at h
    cases hx : forceA x with
    | none => simp [hx] at h
    | some x' => cases hr : forceAs r with
      | none => simp [hx, hr] at h
      | some r' =>
        simp only [hx, hr, Option.some.injEq] at h
        rw [← h, forceA_eq x x' hx, forceAs_eq r r' hr]
end
section
variable {m : OM} {P : Program} {T : List (Nat × TI)} {C : Ctx} {ops : Array Oper} {l : List Oper} {K : St → Prop} {n : Nat} {sl : List (Nat × AV)} {hp : List (Nat × HO)} {d : Nat} {ty : Nat} {pos : String} {aft : Array Edge}
theorem o_calm {gd : Option (Nat × Bool)} (hw : gval ops ⟨n, sl, hp⟩ gd = gwant gd) (hT : TTOk P T) {op : Op} {need gain : Prop} {rd : Option (Option Nat)} {x : AV}
    (hc : cv T hp (ev ⟨n, sl, hp⟩) op = some ⟨need, gain, rd, x⟩) (hm : m.okc (some d) rd = true) (hd : Nat.blt d n = true) (hn : need) (h : gain → Ops m P C ops l ⟨n, (d, x) :: sl, hp⟩ K) : Ops m P C ops (⟨some d, op, ty, pos, aft, gd⟩ :: l) ⟨n, sl, hp⟩ K :=
  Ops.calm hT hw hc hm hd hn h
theorem wrap64 (x : Int) (h : -9223372036854775808 ≤ x ∧ x ≤ 9223372036854775807) : IntKind.i64.wrap x = x := IntWalk.i64_in x h
theorem o_add {gd : Option (Nat × Bool)} (hw : gval ops ⟨n, sl, hp⟩ gd = gwant gd) {x y : Operand} {t t' : Nat} {a b : Int} (hx : ev ⟨n, sl, hp⟩ x = .i .i64 a) (hy : ev ⟨n, sl, hp⟩ y = .i .i64 b) (hd : Nat.blt d n = true) (hr : -9223372036854775808 ≤ a + b ∧ a + b ≤ 9223372036854775807)
    (h : Ops m P C ops l ⟨n, (d, .i .i64 (a + b)) :: sl, hp⟩ K) : Ops m P C ops (⟨some d, .binOp .add t x y t', ty, pos, aft, gd⟩ :: l) ⟨n, sl, hp⟩ K := by
  refine Ops.calm (T := []) (fun p hp => by cases hp) hw (x := .i .i64 (a + b)) (need := IntKind.i64 = IntKind.i64 ∧ True) (gain := True) (rd := none) ?_ okc_none hd ⟨rfl, trivial⟩ (fun _ => h)
  simp only [cv, hx, hy, cvBin, cvInt, CV.pure, wrap64 _ hr]
theorem o_sub {gd : Option (Nat × Bool)} (hw : gval ops ⟨n, sl, hp⟩ gd = gwant gd) {x y : Operand} {t t' : Nat} {a b : Int} (hx : ev ⟨n, sl, hp⟩ x = .i .i64 a) (hy : ev ⟨n, sl, hp⟩ y = .i .i64 b) (hd : Nat.blt d n = true) (hr : -9223372036854775808 ≤ a - b ∧ a - b ≤ 9223372036854775807)
    (h : Ops m P C ops l ⟨n, (d, .i .i64 (a - b)) :: sl, hp⟩ K) : Ops m P C ops (⟨some d, .binOp .sub t x y t', ty, pos, aft, gd⟩ :: l) ⟨n, sl, hp⟩ K := by
  refine Ops.calm (T := []) (fun p hp => by cases hp) hw (x := .i .i64 (a - b)) (need := IntKind.i64 = IntKind.i64 ∧ True) (gain := True) (rd := none) ?_ okc_none hd ⟨rfl, trivial⟩ (fun _ => h)
  simp only [cv, hx, hy, cvBin, cvInt, CV.pure, wrap64 _ hr]
theorem o_mul {gd : Option (Nat × Bool)} (hw : gval ops ⟨n, sl, hp⟩ gd = gwant gd) {x y : Operand} {t t' : Nat} {a b : Int} (hx : ev ⟨n, sl, hp⟩ x = .i .i64 a) (hy : ev ⟨n, sl, hp⟩ y = .i .i64 b) (hd : Nat.blt d n = true) (hr : -9223372036854775808 ≤ a * b ∧ a * b ≤ 9223372036854775807)
    (h : Ops m P C ops l ⟨n, (d, .i .i64 (a * b)) :: sl, hp⟩ K) : Ops m P C ops (⟨some d, .binOp .mul t x y t', ty, pos, aft, gd⟩ :: l) ⟨n, sl, hp⟩ K := by
  refine Ops.calm (T := []) (fun p hp => by cases hp) hw (x := .i .i64 (a * b)) (need := IntKind.i64 = IntKind.i64 ∧ True) (gain := True) (rd := none) ?_ okc_none hd ⟨rfl, trivial⟩ (fun _ => h)
  simp only [cv, hx, hy, cvBin, cvInt, CV.pure, wrap64 _ hr]
theorem o_quo {gd : Option (Nat × Bool)} (hw : gval ops ⟨n, sl, hp⟩ gd = gwant gd) {x y : Operand} {t t' : Nat} {a b : Int} (hx : ev ⟨n, sl, hp⟩ x = .i .i64 a) (hy : ev ⟨n, sl, hp⟩ y = .i .i64 b) (hd : Nat.blt d n = true) (ha : 0 ≤ a ∧ a ≤ 9223372036854775807) (hb : 0 < b)
    (h : Ops m P C ops l ⟨n, (d, .i .i64 (a / b)) :: sl, hp⟩ K) : Ops m P C ops (⟨some d, .binOp .quo t x y t', ty, pos, aft, gd⟩ :: l) ⟨n, sl, hp⟩ K := by
  have h1 : a.tdiv b = a / b := Int.tdiv_eq_ediv_of_nonneg ha.1
  have h2 : 0 ≤ a / b := Int.ediv_nonneg ha.1 (by omega)
  have h3 : a / b ≤ a := Int.ediv_le_self b ha.1
  refine Ops.calm (T := []) (fun p hp => by cases hp) hw (x := .i .i64 (a / b)) (need := IntKind.i64 = IntKind.i64 ∧ b ≠ 0) (gain := True) (rd := none) ?_ okc_none hd ⟨rfl, by omega⟩ (fun _ => h)
  simp only [cv, hx, hy, cvBin, cvInt, h1, wrap64 (a / b) (by omega)]
theorem o_rem {gd : Option (Nat × Bool)} (hw : gval ops ⟨n, sl, hp⟩ gd = gwant gd) {x y : Operand} {t t' : Nat} {a b : Int} (hx : ev ⟨n, sl, hp⟩ x = .i .i64 a) (hy : ev ⟨n, sl, hp⟩ y = .i .i64 b) (hd : Nat.blt d n = true) (ha : 0 ≤ a) (hb : 0 < b)
    (h : Ops m P C ops l ⟨n, (d, .i .i64 (a % b)) :: sl, hp⟩ K) : Ops m P C ops (⟨some d, .binOp .rem t x y t', ty, pos, aft, gd⟩ :: l) ⟨n, sl, hp⟩ K := by
  have h1 : a.tmod b = a % b := Int.tmod_eq_emod_of_nonneg ha
  refine Ops.calm (T := []) (fun p hp => by cases hp) hw (x := .i .i64 (a % b)) (need := IntKind.i64 = IntKind.i64 ∧ b ≠ 0) (gain := True) (rd := none) ?_ okc_none hd ⟨rfl, by omega⟩ (fun _ => h)
  simp only [cv, hx, hy, cvBin, cvInt, h1]
theorem o_len {gd : Option (Nat × Bool)} (hw : gval ops ⟨n, sl, hp⟩ gd = gwant gd) (hT : TTOk P T) {α : Type} {f : α → AV} {xs : List α} {x : Operand} {t e sz0 sz by_ : Nat} {z : AV} (ht : tget T t = some ⟨.slice e, sz0, by_, z⟩) (hx : ev ⟨n, sl, hp⟩ x = .sl sz (xs.map f)) (hd : Nat.blt d n = true)
    (h : xs.length ≤ 9223372036854775807 → Ops m P C ops l ⟨n, (d, .i .i64 xs.length) :: sl, hp⟩ K) : Ops m P C ops (⟨some d, .call ⟨.builtin .len, #[x], #[t]⟩, ty, pos, aft, gd⟩ :: l) ⟨n, sl, hp⟩ K := by
  refine Ops.calm hT hw (x := .i .i64 xs.length) (need := True) (gain := xs.length ≤ 9223372036854775807) (rd := none) ?_ okc_none hd trivial h
  simp [cv, cvLen, ht, hx]
theorem o_lenOwn {gd : Option (Nat × Bool)} (hw : gval ops ⟨n, sl, hp⟩ gd = gwant gd) (hT : TTOk P T) {α : Type} {f : α → AV} {xs : List α} {x : Operand} {t e e' sz0 sz by_ k : Nat} {v : Value} {z : AV} (ht : tget T t = some ⟨.slice e, sz0, by_, z⟩) (hx : ev ⟨n, sl, hp⟩ x = .own k v) (hg : hget hp k = some (.row v e' sz (xs.map f))) (hd : Nat.blt d n = true)
    (h : xs.length ≤ 9223372036854775807 → Ops m P C ops l ⟨n, (d, .i .i64 xs.length) :: sl, hp⟩ K) : Ops m P C ops (⟨some d, .call ⟨.builtin .len, #[x], #[t]⟩, ty, pos, aft, gd⟩ :: l) ⟨n, sl, hp⟩ K := by
  refine Ops.calm hT hw (x := .i .i64 xs.length) (need := v = v) (gain := xs.length ≤ 9223372036854775807) (rd := none) ?_ okc_none hd rfl h
  simp [cv, cvLen, ht, hx, hg]
theorem o_offT {op : Op} {j : Nat} {dj : Nat} (hj : (ops[j]?).bind (·.dst) = some dj) (hc : lookD sl dj = .b false) (hd : Nat.blt d n = true) (_hcalm : m = .text ∨ effOp P op = false)
    (h1 : Ops m P C ops l ⟨n, (d, .tup []) :: sl, hp⟩ K) : Ops m P C ops (⟨some d, op, ty, pos, aft, some (j, true)⟩ :: l) ⟨n, sl, hp⟩ K :=
  Ops.gdOff hj hc rfl hd h1
theorem o_know {c : Bool} {dj : Nat} (hc : lookD sl dj = .b c) (h : ∀ b, c = b → Ops m P C ops l ⟨n, (dj, .b b) :: sl, hp⟩ K) : Ops m P C ops l ⟨n, sl, hp⟩ K := by
  refine ⟨fun Q E a w hs hK => ?_⟩
  refine (h c rfl).out Q E a w ?_ hK
  refine ⟨hs.n, hs.df, fun i => ?_, hs.heap, hs.nd, hs.lt, hs.mod⟩
  show repV w _ (lookD ((dj, .b c) :: sl) i) _
  unfold lookD
  cases hb : Nat.beq dj i with
  | true =>
    have := Nat.eq_of_beq_eq_true hb
    subst this
    have h2 := hs.slots dj
    have h3 : (⟨n, sl, hp⟩ : St).slot dj = .b c := hc
    rw [h3] at h2
    exact h2
  | false => exact hs.slots i
theorem o_split {op : Op} {j : Nat} {g : Bool} {dj : Nat} {dd : Option Tmp} {c : Bool} (_hj : (ops[j]?).bind (·.dst) = some dj) (hc : lookD sl dj = .b c)
    (h1 : c = true → Ops m P C ops (⟨dd, op, ty, pos, aft, some (j, g)⟩ :: l) ⟨n, (dj, .b true) :: sl, hp⟩ K) (h2 : c = false → Ops m P C ops (⟨dd, op, ty, pos, aft, some (j, g)⟩ :: l) ⟨n, (dj, .b false) :: sl, hp⟩ K) :
    Ops m P C ops (⟨dd, op, ty, pos, aft, some (j, g)⟩ :: l) ⟨n, sl, hp⟩ K :=
  o_know hc fun b hb => match b, hb with | true, hb => h1 hb | false, hb => h2 hb
theorem o_splitP {op : Op} {j : Nat} {g : Bool} {dj : Nat} {dd : Option Tmp} {p : Prop} [Decidable p] (hj : (ops[j]?).bind (·.dst) = some dj) (hc : lookD sl dj = .b (decide p))
    (h1 : p → Ops m P C ops (⟨dd, op, ty, pos, aft, some (j, g)⟩ :: l) ⟨n, (dj, .b true) :: sl, hp⟩ K) (h2 : ¬ p → Ops m P C ops (⟨dd, op, ty, pos, aft, some (j, g)⟩ :: l) ⟨n, (dj, .b false) :: sl, hp⟩ K) :
    Ops m P C ops (⟨dd, op, ty, pos, aft, some (j, g)⟩ :: l) ⟨n, sl, hp⟩ K :=
  o_split hj hc (fun h => h1 (of_decide_eq_true h)) (fun h => h2 (of_decide_eq_false h))
theorem getq_map {α β : Type} {f : α → β} {xs : List α} {k : Nat} {x : α} (h : xs[k]? = some x) : (xs.map f)[k]? = some (f x) := by rw [List.getElem?_map, h]; rfl
theorem getq_nat {α : Type} {xs : List α} {k : Nat} (h : k < xs.length) : xs[((k : Nat) : Int).toNat]? = some xs[k] := by rw [Int.toNat_natCast]; exact List.getElem?_eq_getElem h
theorem o_index {gd : Option (Nat × Bool)} (hw : gval ops ⟨n, sl, hp⟩ gd = gwant gd) (hT : TTOk P T) {α : Type} {f : α → AV} {xs : List α} {t : Nat} {x ix : Operand} {sz : Nat} {y : α} {i : Int} {kk : IntKind} {e sz0 by_ : Nat} {z : AV} {te : TI}
    (hx : ev ⟨n, sl, hp⟩ x = .sl sz (xs.map f)) (hi : ev ⟨n, sl, hp⟩ ix = .i kk i) (ht : tget T t = some ⟨.slice e, sz0, by_, z⟩) (he : tget T e = some te) (hsz : te.sz = sz)
    (hd : Nat.blt d n = true) (h0 : 0 ≤ i) (hy : xs[i.toNat]? = some y) (h : Ops m P C ops l ⟨n, (d, .cp (f y)) :: sl, hp⟩ K) : Ops m P C ops (⟨some d, .indexAddr t x ix, ty, pos, aft, gd⟩ :: l) ⟨n, sl, hp⟩ K :=
  Ops.indexSl hT hw hx hi ht he hsz hd h0 (getq_map hy) h
theorem o_alloc {gd : Option (Nat × Bool)} (hw : gval ops ⟨n, sl, hp⟩ gd = gwant gd) (hT : TTOk P T) {t : Nat} {k : TK} {sz by_ : Nat} {z : AV} (ht : tget T t = some ⟨k, sz, by_, z⟩) (hz : z.isVal = true)
    (hd : Nat.blt d n = true) (h : ∀ b, Ops m P C ops l ⟨n, (d, .ptr d b [] 0) :: sl, (d, .var b z) :: hp⟩ K) : Ops m P C ops (⟨some d, .alloc t, ty, pos, aft, gd⟩ :: l) ⟨n, sl, hp⟩ K := Ops.alloc hT hw ht hz hd h
theorem o_box {gd : Option (Nat × Bool)} (hw : gval ops ⟨n, sl, hp⟩ gd = gwant gd) {t : Nat} {x : Operand} {y : AV} (hx : ev ⟨n, sl, hp⟩ x = y) (hy : y.isVal = true)
    (hd : Nat.blt d n = true) (h : ∀ b, Ops m P C ops l ⟨n, (d, .ptr d b [] 0) :: sl, (d, .var b y) :: hp⟩ K) : Ops m P C ops (⟨some d, .box t x, ty, pos, aft, gd⟩ :: l) ⟨n, sl, hp⟩ K := by
  subst hx; exact Ops.box hw hy hd h
theorem o_store {gd : Option (Nat × Bool)} (hT : TTOk P T) (hw : gval ops ⟨n, sl, hp⟩ gd = gwant gd) {t : Nat} {x y : Operand} {u c' : AV} {key b off o : Nat} {path : List Nat} {c old : AV} {ti : TI} {hp' : List (Nat × HO)}
    (hx : ev ⟨n, sl, hp⟩ x = .ptr key b path off) (ht : tget T t = some ti) (hg : hget hp key = some (.var b c)) (hsub : subAt path c = some (o, old)) (ho : o = off) (hu : CV.val_ (ev ⟨n, sl, hp⟩ y) = CV.pure u) (hf : fits ti u) (hold : sizeA old = ti.sz) (hy : u.isVal = true) (hm : m.oke none [key] = true)
    (hc' : forceA (updAt path c u) = some c') (hh : forceL (hset hp key (.var b c')) = some hp') (h : Ops m P C ops l ⟨n, sl, hp'⟩ K) : Ops m P C ops (⟨none, .store t x y, ty, pos, aft, gd⟩ :: l) ⟨n, sl, hp⟩ K := by
  rw [CV.val_eq] at hu
  have hu : ev ⟨n, sl, hp⟩ y = u := by simpa [CV.pure] using hu
  subst hu
  have hc' := forceA_eq _ _ hc'
  have hh := forceL_eq _ _ hh
  subst hc'
  exact Ops.store hT hw hx ht hg hsub ho hf hold hy hm (by rw [hh]; exact h)
/-- A call by contract. -/
theorem o_call {gd : Option (Nat × Bool)} (fz pass ks : List Nat) (hw : gval ops ⟨n, sl, hp⟩ gd = gwant gd) {f : FuncId} {args : Array Operand} {ats : Array TypeId} {as_ : List AV} {os0 os : List HO} {H1 : List (Nat × HO)} {R : AV → List HO → Prop}
    (hspec : Spec P f as_ os R) (hargs : argsLe (fzs hp fz) (args.toList.map (ev ⟨n, sl, hp⟩)) as_) (htk : taken (hdels hp fz) pass = some (os0, H1)) (hos : hosLe (fzs hp fz) os0 os) (hd : Nat.blt d n = true) (hm : m.oke (some d) pass = true)
    (h : ∀ r os', R r os' → ∃ H2, forceL (ks.zip os' ++ H1) = some H2 ∧ ks.length = os'.length ∧ Ops m P C ops l ⟨n, (d, r) :: sl, H2⟩ K) :
    Ops m P C ops (⟨some d, .call ⟨.value (.func f), args, ats⟩, ty, pos, aft, gd⟩ :: l) ⟨n, sl, hp⟩ K :=
  Ops.call hw fz pass ks hspec hargs htk hos hd hm (fun r os' hr => by
    obtain ⟨H2, h1, h2, h3⟩ := h r os' hr
    have h1 := forceL_eq _ _ h1
    exact ⟨h2, by rw [← h1] at h3; exact h3⟩)
/-- A call that is handed no block and gives none back. -/
theorem o_call0 {gd : Option (Nat × Bool)} (hw : gval ops ⟨n, sl, hp⟩ gd = gwant gd) {f : FuncId} {args : Array Operand} {ats : Array TypeId} {as_ : List AV} {R : AV → List HO → Prop}
    (hspec : Spec P f as_ [] R) (hargs : argsLe [] (args.toList.map (ev ⟨n, sl, hp⟩)) as_) (hd : Nat.blt d n = true)
    (h : ∀ r os', R r os' → os' = [] ∧ Ops m P C ops l ⟨n, (d, r) :: sl, hp⟩ K) :
    Ops m P C ops (⟨some d, .call ⟨.value (.func f), args, ats⟩, ty, pos, aft, gd⟩ :: l) ⟨n, sl, hp⟩ K :=
  Ops.call hw [] [] [] hspec hargs rfl trivial hd oke_nil (fun r os' hr => by
    obtain ⟨rfl, h1⟩ := h r os' hr
    exact ⟨rfl, h1⟩)
end
section
variable {fr : Fr} {w : World}
theorem sle_i {k : IntKind} {a b : Int} (h : a = b) : SLe fr (.i k a) (.i k b) := SLe.of_eq (by rw [h])
theorem sle_s {a b : List UInt8} (h : a = b) : SLe fr (.s a) (.s b) := SLe.of_eq (by rw [h])
theorem sle_sl {sz : Nat} {a b : List AV} (h : a = b) : SLe fr (.sl sz a) (.sl sz b) := SLe.of_eq (by rw [h])
theorem sle_ptr {k k' b : Nat} {p p' : List Nat} {o : Nat} : SLe fr (.ptr k b p o) (.ptr k' b p' o) := SLe.of_cle CLe.ptr rfl
theorem sle_own {k k' : Nat} {v : Value} : SLe fr (.own k v) (.own k' v) := SLe.of_cle CLe.own rfl
theorem sle_nilown {k : Nat} : SLe fr .nil (.own k (.slice none 0 0)) := SLe.of_cle CLe.nilown rfl
theorem sle_nilsl {sz : Nat} : SLe fr .nil (.sl sz []) := SLe.of_cle CLe.nilsl rfl
theorem HLe.same {H : List (Nat × HO)} {k : Nat} {x y r} (hg : hget H k = some x) (h : HOLe fr x y) (hr : HLe fr (hdel H k) r) : HLe fr H ((k, y) :: r) := .cons k hg h hr
end
section
variable {P : Program} {T : List (Nat × TI)} {C : Ctx} {K : Exit → St → Prop} {S : St}
theorem map_filterMap {α β : Type} (f : α → Option β) : ∀ (l : List α), (l.filterMap f).length = l.length → l.map f = (l.filterMap f).map some
  | [], _ => rfl
  | x :: l, h => by
    cases hx : f x with
    | none =>
      rw [List.filterMap_cons_none hx] at h
      have := List.length_filterMap_le f l
      simp at h; omega
    | some y =>
      rw [List.filterMap_cons_some hx] at h ⊢
      rw [List.map_cons, List.map_cons, hx, map_filterMap f l (by simpa using h)]
/-- A region that draws its order; id: its number; tk: what is written in it; is: my order. -/
theorem a_any {ops : Array Oper} {l : List Oper} (id : Nat) (tk so qs is : List Nat) (hm : P.follows .mixedOrders = true) (hp : okPerm P ops so qs is (Array.replicate ops.size false) = true) (hns : Region.noSelect ops = true) (hl : forceL (is.filterMap (fun i => ops[i]?)) = some l) (hn : is.length = ops.size) (hll : l.length = is.length)
    (h : Ops (.any tk so qs) P C ops l S (K .normal)) : Awp P C (.region id ops true) S K := by
  have := forceL_eq _ _ hl
  subst this
  exact Awp.regionAny tk so qs is hm hp hns (map_filterMap _ is hll) hn h
/-- A region that draws its order, told as a tree of orders. -/
theorem a_anyT {ops : Array Oper} (id : Nat) (tk so qs : List Nat) (hm : P.follows .mixedOrders = true) (hns : Region.noSelect ops = true) {n : Nat} {listed : Array Bool} (hn : ops.size = n) (hl : Array.replicate ops.size false = listed)
    (h : AnyT P C ops tk so qs n listed S (K .normal)) : Awp P C (.region id ops true) S K := by
  subst hn; subst hl; exact Awp.regionT tk so qs hm hns h
theorem t_path {ops : Array Oper} {l : List Oper} {tk so qs : List Nat} {n : Nat} {listed : Array Bool} {S : St} {K : St → Prop} (is : List Nat) (n' : Nat) (listed' : List Bool) (hp : okPermP P ops so qs is listed = true) (hl : forceL (is.filterMap (fun i => ops[i]?)) = some l) (hll : l.length = is.length) (hn : n = n' + is.length) (he : listAfter is listed = listed'.toArray)
    (h : Ops (.any tk so qs) P C ops l S (fun S' => AnyT P C ops tk so qs n' listed'.toArray S' K)) : AnyT P C ops tk so qs n listed S K := by
  have := forceL_eq _ _ hl
  subst this
  exact AnyT.path is hp (map_filterMap _ is hll) hn he h
theorem t_fin {ops : Array Oper} {tk so qs : List Nat} {n : Nat} {listed : Array Bool} {S : St} {K : St → Prop} (hr : Region.ready .any ops listed = []) (h : K S) : AnyT P C ops tk so qs n listed S K := AnyT.fin hr h
theorem t_two {ops : Array Oper} {o1 o2 : Oper} {tk so qs : List Nat} {n n' : Nat} {listed : Array Bool} {S : St} {K : St → Prop} (i1 i2 : Nat) (l1 l2 : List Bool) (hn : n = n' + 1) (hr : Region.ready .any ops listed = [i1, i2]) (h1 : ops[i1]? = some o1) (h2 : ops[i2]? = some o2) (e1 : listed.setIfInBounds i1 true = l1.toArray) (e2 : listed.setIfInBounds i2 true = l2.toArray)
    (k1 : Ops (.one tk so qs) P C ops [o1] S (fun S' => AnyT P C ops tk so qs n' l1.toArray S' K)) (k2 : Ops (.one tk so qs) P C ops [o2] S (fun S' => AnyT P C ops tk so qs n' l2.toArray S' K)) : AnyT P C ops tk so qs n listed S K := by
  subst hn
  rw [← e1] at k1
  rw [← e2] at k2
  exact AnyT.two i1 i2 hr h1 h2 k1 k2
theorem a_condP {c : Operand} {x y : Code} {p : Prop} [Decidable p] (hc : ev S c = .b (decide p)) (h1 : p → Awp P C x S K) (h2 : ¬ p → Awp P C y S K) : Awp P C (.cond c x y) S K :=
  Awp.cond hc (fun h => h1 (of_decide_eq_true h)) (fun h => h2 (of_decide_eq_false h))
theorem a_condN {c : Operand} {x y : Code} {a b : Int} (hc : ev S c = .b (a != b)) (h1 : ¬ a = b → Awp P C x S K) (h2 : a = b → Awp P C y S K) : Awp P C (.cond c x y) S K :=
  Awp.cond hc (fun h => h1 (by simpa using h)) (fun h => h2 (by simpa using h))
theorem a_condT {c : Operand} {x y : Code} (hc : ev S c = .b true) (h1 : Awp P C x S K) : Awp P C (.cond c x y) S K := Awp.cond hc (fun _ => h1) (fun h => by cases h)
theorem a_condF {c : Operand} {x y : Code} (hc : ev S c = .b false) (h2 : Awp P C y S K) : Awp P C (.cond c x y) S K := Awp.cond hc (fun h => by cases h) (fun _ => h2)
def endK (T : List (Nat × TI)) (fn : Func) (R : AV → List HO → Prop) : Exit → St → Prop := fun e S' => retK T fn R e S' ∧ ∀ xs p, resAll T S' fn.results.toList = some (p, xs) → noTup xs
theorem spec_of (hT : TTOk P T) {f : FuncId} {fn : Func} {c : Code} {args : List AV} {R : AV → List HO → Prop} {n : Nat} (os : List (Nat × HO)) {sl : List (Nat × AV)} (hf : P.funcs[f]? = some fn) (hb : fn.body = some c) (hn : fn.ntmps = n) (hname : (fn.name == "runtime.NumGoroutine") = false) (hargs : Nat.ble args.length n = true) (hsl : slotsOf 0 args = sl)
    (h : ∀ C, Awp P C c ⟨n, sl, os⟩ (endK T fn R)) {os' : List HO} (hos : os.map (·.2) = os') : Spec P f args os' R := by
  subst hsl; subst hos
  exact Spec.intro hT hf hb hn hname (Nat.le_of_ble_eq_true hargs) h
/-- One result, a value as it stands. -/
theorem end_tmp {fn : Func} {R : AV → List HO → Prop} {t : Nat} {x r : AV} (hr : fn.results.toList = [.tmp t]) (hx : S.slot t = x) (hx2 : x.isVal = true) (ks : List Nat) (os' : List (Nat × HO)) (hle : CLe (fzs S.heap ks) x r) (hh : HLe (fzs S.heap ks) (hdels S.heap ks) os') (h : R r (os'.map (·.2))) (e : Exit) (he : e = .ret ∨ e = .normal) : endK T fn R e S := by
  have h1 : resAll T S fn.results.toList = some (True ∧ True, [x]) := by rw [hr]; simp only [resAll, resOne, hx]
  have h2 : ∀ xs p, resAll T S fn.results.toList = some (p, xs) → noTup xs := fun xs p hq => by
    rw [h1] at hq
    simp only [Option.some.injEq, Prod.mk.injEq] at hq
    rw [← hq.2]
    refine ⟨?_, trivial⟩
    cases x <;> simp [AV.isVal] at hx2 <;> trivial
  rcases he with rfl | rfl <;> exact ⟨⟨ks, _, _, r, os', h1, ⟨trivial, trivial⟩, RLe.slot (SLe.of_cle hle hx2), hh, h⟩, h2⟩
theorem end_none {fn : Func} {R : AV → List HO → Prop} (hr : fn.results.toList = []) (ks : List Nat) (os' : List (Nat × HO)) (hh : HLe (fzs S.heap ks) (hdels S.heap ks) os') (h : R (.tup []) (os'.map (·.2))) (e : Exit) (he : e = .ret ∨ e = .normal) : endK T fn R e S := by
  have h1 : resAll T S fn.results.toList = some (True, []) := by rw [hr]; rfl
  have h2 : ∀ xs p, resAll T S fn.results.toList = some (p, xs) → noTup xs := fun xs p hq => by
    rw [h1] at hq
    simp only [Option.some.injEq, Prod.mk.injEq] at hq
    rw [← hq.2]; trivial
  rcases he with rfl | rfl <;> exact ⟨⟨ks, _, _, .tup [], os', h1, trivial, fun _ _ _ _ h => h, hh, h⟩, h2⟩
/-- The results in general: what they are (rs), and what is told of them. -/
theorem end_all {fn : Func} {R : AV → List HO → Prop} {p : Prop} {rs : List AV} (ks : List Nat) (os' : List (Nat × HO)) (r : AV) (hr : resAll T S fn.results.toList = some (p, rs)) (hp : p) (hn : noTup rs) (hle : RLe (fzs S.heap ks) (single rs) r) (hh : HLe (fzs S.heap ks) (hdels S.heap ks) os') (h : R r (os'.map (·.2))) (e : Exit) (he : e = .ret ∨ e = .normal) : endK T fn R e S := by
  have h2 : ∀ xs q, resAll T S fn.results.toList = some (q, xs) → noTup xs := fun xs q hq => by
    rw [hr] at hq
    simp only [Option.some.injEq, Prod.mk.injEq] at hq
    rw [← hq.2]; exact hn
  rcases he with rfl | rfl <;> exact ⟨⟨ks, _, _, r, os', hr, hp, hle, hh, h⟩, h2⟩
theorem rle_tup2 {fr : Fr} {a b c d : AV} (h1 : CLe fr a c) (h2 : CLe fr b d) (ha : a.isVal = true) (hb : b.isVal = true) : RLe fr (single [a, b]) (.tup [c, d]) :=
  RLe.tup (xs := [a, b]) (ys := [c, d]) rfl (fun i x y hx hy => by
    match i with
    | 0 => simp at hx hy; subst hx; subst hy; exact .inr ⟨ha, h1⟩
    | 1 => simp at hx hy; subst hx; subst hy; exact .inr ⟨hb, h2⟩
    | i + 2 => simp at hx)
theorem rle_one {fr : Fr} {a c : AV} (h1 : CLe fr a c) (ha : a.isVal = true) : RLe fr (single [a]) c := SLe.of_cle h1 ha
end
end Go.Proofs.Ytfdcopbbnmialaa
