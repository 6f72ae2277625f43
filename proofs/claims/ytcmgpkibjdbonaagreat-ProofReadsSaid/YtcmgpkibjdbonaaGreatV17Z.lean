/- Calls on objects, named by the pointer that is handed. No program in sight. -/
import Derived.Test.YtcmgpkibjdbonaaGreatV13Z
import Derived.Lib.SliceRun
namespace Go.Proofs.YtcmgpkibjdbonaaGreat
open Go Go.RowKit
section
variable {m : OM} {P : Program} {T : List (Nat × TI)} {C : Ctx} {ops : Array Oper} {l : List Oper} {K : St → Prop} {n : Nat} {sl : List (Nat × AV)} {hp : List (Nat × HO)} {d : Nat} {ty : Nat} {pos : String} {aft : Array Edge} {gd : Option (Nat × Bool)}
/-- A contract whose result is seen as something else. -/
theorem Spec.le {f : FuncId} {args : List AV} {os : List HO} {R R' : AV → List HO → Prop} (h : Spec P f args os R) (hr : ∀ r os', R r os' → ∃ r', SLe [] r r' ∧ R' r' os') : Spec P f args os R' :=
  ⟨h.fn, fun w vals F h1 h2 h3 => (h.run w vals F h1 h2 h3).mono fun e w' ⟨v, r, os', e1, e2, e3, e4, e5, e6⟩ => by
    obtain ⟨r', hle, hr'⟩ := hr r os' e2
    exact ⟨v, r', os', e1, hr', e3, e4, e5, hle w' _ v (fun z hz => by cases hz) e6⟩⟩
/-- A call that is handed one object, by its pointer, and gives it back. -/
theorem o_callP (hw : gval ops ⟨n, sl, hp⟩ gd = gwant gd) {f : FuncId} {args : Array Operand} {ats : Array TypeId} {as_ : List AV} {x0 : Operand} {xs : List Operand} {key b : Nat} {ho o : HO} {H1 : List (Nat × HO)} {R : AV → List HO → Prop}
    (_hx0 : args.toList = x0 :: xs) (_hk : ev ⟨n, sl, hp⟩ x0 = .ptr key b [] 0) (htk : taken hp [key] = some ([ho], H1))
    (hspec : Spec P f as_ [o] R) (hargs : argsLe [] (args.toList.map (ev ⟨n, sl, hp⟩)) as_) (hos : HOLe [] ho o) (hd : Nat.blt d n = true) (hm : m.oke (some d) [key] = true)
    (h : ∀ r os', R r os' → ∃ o', os' = [o'] ∧ ∃ H2, forceL ((key, o') :: H1) = some H2 ∧ Ops m P C ops l ⟨n, (d, r) :: sl, H2⟩ K) :
    Ops m P C ops (⟨some d, .call ⟨.value (.func f), args, ats⟩, ty, pos, aft, gd⟩ :: l) ⟨n, sl, hp⟩ K :=
  o_call [] [key] [key] hw hspec hargs htk ⟨hos, trivial⟩ hd hm (fun r os' hr => by
    obtain ⟨o', rfl, H2, h1, h2⟩ := h r os' hr
    exact ⟨H2, h1, rfl, h2⟩)
/-- A call that is handed an object and the row that it holds. -/
theorem o_callPR (hw : gval ops ⟨n, sl, hp⟩ gd = gwant gd) {f : FuncId} {args : Array Operand} {ats : Array TypeId} {as_ : List AV} {x0 : Operand} {xs : List Operand} {key b k2 : Nat} {v : Value} {fs : List AV} {ho ho2 o o2 : HO} {H1 : List (Nat × HO)} {R : AV → List HO → Prop}
    (_hx0 : args.toList = x0 :: xs) (_hk : ev ⟨n, sl, hp⟩ x0 = .ptr key b [] 0) (_hg : hget hp key = some (.var b (.agg (.own k2 v :: fs)))) (htk : taken hp [key, k2] = some ([ho, ho2], H1))
    (hspec : Spec P f as_ [o, o2] R) (hargs : argsLe [] (args.toList.map (ev ⟨n, sl, hp⟩)) as_) (hos : HOLe [] ho o) (hos2 : HOLe [] ho2 o2) (hd : Nat.blt d n = true) (hm : m.oke (some d) [key, k2] = true)
    (h : ∀ r os', R r os' → ∃ o' o2', os' = [o', o2'] ∧ ∃ H2, forceL ((key, o') :: (k2, o2') :: H1) = some H2 ∧ Ops m P C ops l ⟨n, (d, r) :: sl, H2⟩ K) :
    Ops m P C ops (⟨some d, .call ⟨.value (.func f), args, ats⟩, ty, pos, aft, gd⟩ :: l) ⟨n, sl, hp⟩ K :=
  o_call [] [key, k2] [key, k2] hw hspec hargs htk ⟨hos, hos2, trivial⟩ hd hm (fun r os' hr => by
    obtain ⟨o', o2', rfl, H2, h1, h2⟩ := h r os' hr
    exact ⟨H2, h1, rfl, h2⟩)
/-- A call that makes an object and gives a pointer to it. -/
theorem o_callN (hw : gval ops ⟨n, sl, hp⟩ gd = gwant gd) {f : FuncId} {args : Array Operand} {ats : Array TypeId} {as_ : List AV} {c : AV}
    (hspec : Spec P f as_ [] (fun v os => ∃ b, v = .ptr 0 b [] 0 ∧ os = [.var b c])) (hargs : argsLe [] (args.toList.map (ev ⟨n, sl, hp⟩)) as_) (hd : Nat.blt d n = true)
    (h : ∀ b, Ops m P C ops l ⟨n, (d, .ptr d b [] 0) :: sl, (d, .var b c) :: hp⟩ K) :
    Ops m P C ops (⟨some d, .call ⟨.value (.func f), args, ats⟩, ty, pos, aft, gd⟩ :: l) ⟨n, sl, hp⟩ K :=
  Ops.call hw [] [] [d] (hspec.le (R' := fun v os => ∃ b, v = .ptr d b [] 0 ∧ os = [.var b c]) (fun r os' ⟨b, h1, h2⟩ => ⟨.ptr d b [] 0, h1 ▸ sle_ptr, b, rfl, h2⟩)) hargs rfl trivial hd oke_nil (fun r os' hr => by
    obtain ⟨b, rfl, rfl⟩ := hr
    exact ⟨rfl, h b⟩)
end
end Go.Proofs.YtcmgpkibjdbonaaGreat
namespace Go.Proofs.YtcmgpkibjdbonaaGreat
open Go Go.RowKit

mutual
/-- A thing that reaches no memory but what it owns. -/
def flatA : AV → Bool
  | .any | .b _ | .i _ _ | .s _ | .nil | .nilp | .nilf | .nili | .ptr .. | .own .. | .vw .. => true
  | .sl _ xs => xs.isEmpty
  | .agg fs => flatAs fs
  | .arr _ _ xs => flatAs xs
  | .cp _ => false
  | .fn _ caps => flatAs caps
  | .ifc _ a => flatA a
  | .tup xs => flatAs xs
def flatAs : List AV → Bool
  | [] => true
  | x :: xs => flatA x && flatAs xs
end
section
variable {w : World} {F F' : Nat → Prop}
mutual
theorem repC_flat : ∀ (a : AV) (cs : List Value), flatA a = true → repC w F a cs → repC w F' a cs
  | .any, _, _, h => h
  | .b _, _, _, h => h
  | .i _ _, _, _, h => h
  | .s _, _, _, h => h
  | .sl sz xs, cs, hf, h => by
    simp only [flatA, List.isEmpty_iff] at hf
    subst hf
    simp only [repC] at h ⊢
    obtain ⟨A, cap, h1, h2, h3, _⟩ := h
    exact ⟨A, cap, h1, h2, h3, fun hx => absurd rfl hx⟩
  | .nil, _, _, h => h
  | .agg fs, cs, hf, h => by simp only [flatA] at hf; simp only [repC] at h ⊢; exact repL_flat fs cs hf h
  | .arr sz n xs, cs, hf, h => by simp only [flatA] at hf; simp only [repC] at h ⊢; exact ⟨h.1, repA_flat sz xs cs hf h.2⟩
  | .ptr _ _ _ _, _, _, h => h
  | .nilp, _, _, h => h
  | .own _ _, _, _, h => h
  | .vw _ _ _ _ _ _ _, _, _, h => h
  | .cp a, cs, hf, h => by simp [flatA] at hf
  | .fn f caps, cs, hf, h => by
    simp only [flatA] at hf
    simp only [repC] at h ⊢
    obtain ⟨vs, h1, h2⟩ := h
    exact ⟨vs, h1, repL_flat caps _ hf h2⟩
  | .nilf, _, _, h => h
  | .ifc t a, cs, hf, h => by
    simp only [flatA] at hf
    simp only [repC] at h ⊢
    obtain ⟨vs, h1, h2⟩ := h
    exact ⟨vs, h1, repC_flat a _ hf h2⟩
  | .nili, _, _, h => h
  | .tup _, _, _, h => h
theorem repL_flat : ∀ (xs : List AV) (cs : List Value), flatAs xs = true → repL w F xs cs → repL w F' xs cs
  | [], _, _, h => h
  | x :: xs, cs, hf, h => by
    simp only [flatAs, Bool.and_eq_true] at hf
    simp only [repL] at h ⊢
    obtain ⟨c1, c2, h1, h2, h3⟩ := h
    exact ⟨c1, c2, h1, repC_flat x c1 hf.1 h2, repL_flat xs c2 hf.2 h3⟩
theorem repA_flat (sz : Nat) : ∀ (xs : List AV) (cs : List Value), flatAs xs = true → repA w F sz xs cs → repA w F' sz xs cs
  | [], _, _, h => h
  | x :: xs, cs, hf, h => by
    simp only [flatAs, Bool.and_eq_true] at hf
    simp only [repA] at h ⊢
    obtain ⟨c1, c2, h1, h2, h3, h4⟩ := h
    exact ⟨c1, c2, h1, repC_flat x c1 hf.1 h2, h3, repA_flat sz xs c2 hf.2 h4⟩
end
def flatHO : HO → Bool
  | .var _ c => flatA c
  | .row _ _ _ xs => flatAs xs
  | .obj _ _ => true
end
section
variable {m : OM} {P : Program} {T : List (Nat × TI)} {C : Ctx} {S : St} {ops : Array Oper} {l : List Oper} {K : St → Prop}
end
mutual
/-- The rows that a value names. -/
def ownK : AV → List Nat
  | .own k _ => [k]
  | .agg fs => ownKs fs
  | _ => []
def ownKs : List AV → List Nat
  | [] => []
  | x :: xs => ownK x ++ ownKs xs
end
section
variable {m : OM} {P : Program} {T : List (Nat × TI)} {C : Ctx} {ops : Array Oper} {l : List Oper} {K : St → Prop} {n : Nat} {sl : List (Nat × AV)} {hp : List (Nat × HO)} {d : Nat} {ty : Nat} {pos : String} {aft : Array Edge} {gd : Option (Nat × Bool)}
/-- The same, what comes back may reach read-only memory: no row is lent. -/
theorem o_callR (hw : gval ops ⟨n, sl, hp⟩ gd = gwant gd) {f : FuncId} {args : Array Operand} {ats : Array TypeId} {as_ : List AV} {e sz : Nat} {xs : List AV}
    (hspec : Spec P f as_ [] (fun r os => ∃ v, r = .own 0 v ∧ os = [.row v e sz xs])) (hargs : argsLe [] (args.toList.map (ev ⟨n, sl, hp⟩)) as_) (hd : Nat.blt d n = true)
    (h : ∀ v, Ops m P C ops l ⟨n, (d, .own d v) :: sl, (d, .row v e sz xs) :: hp⟩ K) :
    Ops m P C ops (⟨some d, .call ⟨.value (.func f), args, ats⟩, ty, pos, aft, gd⟩ :: l) ⟨n, sl, hp⟩ K :=
  Ops.call hw [] [] [d] (hspec.le (R' := fun r os => ∃ v, r = .own d v ∧ os = [.row v e sz xs]) (fun r os' ⟨v, h1, h2⟩ => ⟨.own d v, h1 ▸ sle_own, v, rfl, h2⟩)) hargs rfl trivial hd oke_nil (fun r os' hr => by
    obtain ⟨v, rfl, rfl⟩ := hr
    exact ⟨rfl, h v⟩)
/-- What is not wanted, calls and writes in regions that draw their order among it. -/
theorem o_noT {op : Op} {j : Nat} {dj : Nat} (hj : (ops[j]?).bind (·.dst) = some dj) (hc : lookD sl dj = .b false) (hd : Nat.blt d n = true)
    (h1 : Ops m P C ops l ⟨n, (d, .tup []) :: sl, hp⟩ K) : Ops m P C ops (⟨some d, op, ty, pos, aft, some (j, true)⟩ :: l) ⟨n, sl, hp⟩ K :=
  Ops.gdOff hj hc rfl hd h1
theorem o_noF {op : Op} {j : Nat} {dj : Nat} (hj : (ops[j]?).bind (·.dst) = some dj) (hc : lookD sl dj = .b true) (hd : Nat.blt d n = true)
    (h1 : Ops m P C ops l ⟨n, (d, .tup []) :: sl, hp⟩ K) : Ops m P C ops (⟨some d, op, ty, pos, aft, some (j, false)⟩ :: l) ⟨n, sl, hp⟩ K :=
  Ops.gdOff hj hc rfl hd h1
end
end Go.Proofs.YtcmgpkibjdbonaaGreat
namespace Go.Proofs.YtcmgpkibjdbonaaGreat
open Go Go.RowKit
section
variable {P : Program} {T : List (Nat × TI)} {C : Ctx} {ops : Array Oper} {l : List Oper} {K : St → Prop} {S : St} {d : Option Tmp} {ty : Nat} {pos : String} {aft : Array Edge} {gd : Option (Nat × Bool)}
end
end Go.Proofs.YtcmgpkibjdbonaaGreat
namespace Go.Proofs.YtcmgpkibjdbonaaGreat
open Go Go.RowKit

def setB (w : World) (b : Nat) (o : Obj) : World := { w with heap := w.heap.setIfInBounds b o }
/-! Sets: maps to true. -/
def setO (l : List Value) : Obj := .map (l.zipIdx.map (fun p => (⟨p.1, .bool true, p.2⟩ : MapEntry))).toArray l.length
/-- A kind of key that is told by looking. -/
structure KeyK (α : Type) [BEq α] (v : α → Value) (desc : TypeDesc) : Prop where
  now : ∀ a b, Instr.sameNow desc (v a) (v b) = some (a == b)
  plain : ∀ (P : Program) (w : World) (e : Bool) (t : TypeId) a, P.underlying t = some desc → (Instr.checkKey e 10000 t (v a)).run P w = .ok () w
def vI (n : Int) : Value := .int .i64 n
def vS (s : List UInt8) : Value := .string (bytesOf s)
section
variable {α : Type} [BEq α] [LawfulBEq α] {v : α → Value} {desc : TypeDesc}
variable {P : Program} {w : World} {b : Nat} {t kt et : TypeId}
end
section
variable {m : OM} {P : Program} {T : List (Nat × TI)} {C : Ctx} {ops : Array Oper} {l : List Oper} {K : St → Prop} {n : Nat} {sl : List (Nat × AV)} {hp : List (Nat × HO)} {d : Nat} {ty : Nat} {pos : String} {aft : Array Edge} {gd : Option (Nat × Bool)}
section
variable {α : Type} [BEq α] [LawfulBEq α] {v : α → Value} {desc : TypeDesc}
end
/-! Functions with what they hold. -/
def isOne : AV → Bool
  | .agg _ | .arr .. | .tup _ => false
  | _ => true
theorem one_rep {w : World} {F : Nat → Prop} {x : AV} {v : Value} (hx : isOne x = true) (h : x.isVal = true) (hv : repV w F x v) : repC w F x [v] := by
  obtain ⟨cs, h1, h2⟩ := repV_cells h hv
  have hag : x.isAgg = false := by cases x <;> simp [isOne, AV.isAgg] at hx ⊢
  obtain ⟨u, rfl⟩ := flat_one h1 hag
  unfold ofCells at h2
  rw [hag] at h2
  simp at h2
  rw [h2]; exact h1
theorem o_makeFunc1 (hw : gval ops ⟨n, sl, hp⟩ gd = gwant gd) {f : Fn} {c1 : Operand} {x1 : AV} (h1 : ev ⟨n, sl, hp⟩ c1 = x1) (o1 : isOne x1 = true) (i1 : x1.isVal = true) (hd : Nat.blt d n = true)
    (h : Ops m P C ops l ⟨n, (d, .fn f [x1]) :: sl, hp⟩ K) : Ops m P C ops (⟨some d, .makeFunc f #[] #[c1], ty, pos, aft, gd⟩ :: l) ⟨n, sl, hp⟩ K := by
  refine Ops.by hw none okc_none hd rfl (fun a w hs => ⟨.func f #[] #[a.eval c1], ?_, fun w' _ => ?_⟩) h
  · have e1 := ev_rep hs c1
    rw [h1] at e1
    refine ⟨[.func f #[] #[a.eval c1]], ?_, rfl⟩
    simp only [repC]
    exact ⟨_, rfl, by simp only [repL]; exact ⟨[a.eval c1], [], rfl, one_rep o1 i1 e1, rfl⟩⟩
  · simp [execOp, Instr.makeFunc, Sem.run]
theorem repL_vs {w : World} {F : Nat → Prop} : ∀ (xs : List AV) (cs : List Value), xs.all isOne = true → repL w F xs cs → repVs w F xs cs
  | [], cs, _, h => by
    simp only [repL] at h
    subst h
    exact ⟨rfl, fun i x v hx => by simp at hx⟩
  | x :: xs, cs, h0, h => by
    simp only [repL] at h
    obtain ⟨c1, c2, rfl, h1, h2⟩ := h
    simp only [List.all_cons, Bool.and_eq_true] at h0
    have hag : x.isAgg = false := by cases x <;> simp [isOne, AV.isAgg] at h0 ⊢
    obtain ⟨u, rfl⟩ := flat_one h1 hag
    obtain ⟨i1, i2⟩ := repL_vs xs c2 h0.2 h2
    refine ⟨by simp [i1], fun i y v hy hv => ?_⟩
    cases i with
    | zero =>
      simp at hy hv
      subst hy; subst hv
      have := repV_mk h1
      unfold ofCells at this
      rw [hag] at this
      exact this
    | succ i => exact i2 i y v (by simpa using hy) (by simpa using hv)
theorem execOp_clo (a : Act) {dd : Option Tmp} {c : Operand} {f : FuncId} {vs : Array Value} (hc : a.eval c = .func (.func f) #[] vs) (args : Array Operand) (ats : Array TypeId) :
    execOp a.eval ⟨dd, .call ⟨.value c, args, ats⟩, ty, pos, aft, gd⟩ = callFunc f (#[] ++ args.map a.eval ++ vs) := by
  unfold execOp
  simp only [resolve, hc, Deferred.ofValue]
  rfl
/-- A call of a function value by contract: what it holds stands behind the arguments. -/
theorem o_callClo (hw : gval ops ⟨n, sl, hp⟩ gd = gwant gd) {c : Operand} {f : FuncId} {args : Array Operand} {ats : Array TypeId} {caps as_ : List AV} {R : AV → List HO → Prop} (hc : ev ⟨n, sl, hp⟩ c = .fn (.func f) caps) (ho : caps.all isOne = true)
    (hspec : Spec P f as_ [] R) (hargs : argsLe [] (args.toList.map (ev ⟨n, sl, hp⟩) ++ caps) as_) (hd : Nat.blt d n = true) (heff : effOp P (.call ⟨.value c, args, ats⟩) = true)
    (h : ∀ r os', R r os' → os' = [] ∧ Ops m P C ops l ⟨n, (d, r) :: sl, hp⟩ K) :
    Ops m P C ops (⟨some d, .call ⟨.value c, args, ats⟩, ty, pos, aft, gd⟩ :: l) ⟨n, sl, hp⟩ K :=
  Ops.callG hw heff (args.toList.map (ev ⟨n, sl, hp⟩) ++ caps) (fun a w hs => by
    have Ec := ev_rep hs c
    rw [hc] at Ec
    obtain ⟨cs, e1, e2⟩ := Ec
    simp only [repC] at e1
    obtain ⟨vs, rfl, hv⟩ := e1
    have hev : a.eval c = .func (.func f) #[] vs := e2
    obtain ⟨k1, k2⟩ := repL_vs caps vs.toList ho hv
    refine ⟨args.toList.map a.eval ++ vs.toList, ⟨by simp [k1], fun i x v hx hv2 => ?_⟩, ?_⟩
    · rcases Nat.lt_or_ge i args.toList.length with hi | hi
      · rw [List.getElem?_append_left (by simpa using hi), List.getElem?_map] at hx hv2
        cases hq : args.toList[i]? with
        | none => rw [hq] at hx; cases hx
        | some o =>
          rw [hq] at hx hv2
          simp only [Option.map_some, Option.some.injEq] at hx hv2
          subst hx; subst hv2
          exact ev_rep hs o
      · rw [List.getElem?_append_right (by simpa using hi)] at hx hv2
        exact k2 _ x v (by simpa using hx) (by simpa using hv2)
    · rw [execOp_clo a hev args ats]
      congr 1
      apply Array.ext'
      simp [Array.toList_map]) [] [] [] hspec hargs rfl trivial hd oke_nil (fun r os' hr => by
    obtain ⟨rfl, h1⟩ := h r os' hr
    exact ⟨rfl, h1⟩)
end
end Go.Proofs.YtcmgpkibjdbonaaGreat
namespace Go.Proofs.YtcmgpkibjdbonaaGreat
open Go Go.RowKit
section
variable {P : Program} {C : Ctx} {ops : Array Oper} {l : List Oper} {K : St → Prop} {n : Nat} {sl : List (Nat × AV)} {hp : List (Nat × HO)}
theorem argsLe_self {fr : Fr} : ∀ xs : List AV, argsLe fr xs xs
  | [] => True.intro
  | _ :: xs => ⟨nqS, argsLe_self xs⟩
end
end Go.Proofs.YtcmgpkibjdbonaaGreat
namespace Go.Proofs.YtcmgpkibjdbonaaGreat
open Go Go.RowKit
section
variable {P : Program} {C : Ctx} {S : St} {a : Act} {w : World} {K : Exit → St → Prop}
theorem Sat.freezeR (h : Sat C S a w) {k d e sz : Nat} {v : Value} {xs : List AV} (hg : hget S.heap k = some (.row v e sz xs)) (hd : S.slot d = .own k v) : Sat C ⟨S.n, (d, .sl sz xs) :: S.slots, hdel S.heap k⟩ a w := by
  obtain ⟨j1, j2, j3⟩ := hdel_blks hg
  have h1 := h.del hg
  have hF : ∀ b, Fz C S.heap w b → Fz C (hdel S.heap k) w b := fun b hb => ⟨hb.1, fun hin => hb.2.1 (j1 b hin), hb.2.2⟩
  refine ⟨h1.n, h1.df, fun i => ?_, h1.heap, h1.nd, h1.lt, h1.mod⟩
  have hslot : (⟨S.n, (d, AV.sl sz xs) :: S.slots, hdel S.heap k⟩ : St).slot i = if d = i then .sl sz xs else S.slot i := lookD_put ⟨S.n, S.slots, hdel S.heap k⟩ d i (.sl sz xs)
  rw [hslot]
  by_cases hi : d = i
  · subst hi
    rw [if_pos rfl]
    have hs := h.slots d
    rw [hd, repV_own] at hs
    have hr := h.getHeap hg
    have hx := row_sl (HOk_mono hF hr) (fun b hb => ⟨(h.lt b (blk_mem hg hb)).1, (j2 h.nd).2 b hb, .inr (h.lt b (blk_mem hg hb)).2⟩)
    rw [hs.1]
    exact repV_mk hx
  · rw [if_neg hi]; exact h1.slots i
end
theorem ExtQ.small {q : Bool} {G H G' : Nat → Prop} {w w' : World} (hs : ∀ b, G b → H b) (h : ExtQ q G w G' w') : ExtQ q H w G' w' :=
  ⟨h.size, fun b hb hc => h.same b hb (hc.imp id (fun n g => n (hs b g))), fun b hb hg => hs b (h.sub b hb hg)⟩
theorem wpAnyR_small {P : Program} {ops : Array Oper} {qs : List Nat} {Q : Exit → Act → World → Prop} : ∀ (n : Nat) (listed : Array Bool) (G H : Nat → Prop) (a : Act) (w : World), (∀ b, G b → H b) → wpAnyR P ops qs Q n listed G a w → wpAnyR P ops qs Q n listed H a w
  | 0, _, _, _, _, _, _, h => h
  | _n + 1, _listed, _G, _H, _a, _w, hs, h => ⟨h.1, fun i hi => wpOp_mono (fun _a' _w' ⟨G', h1, h2⟩ => ⟨G', h1.small hs, h2⟩) (h.2 i hi)⟩
theorem OM.wp_small {m : OM} {P : Program} {ops : Array Oper} {Q : Exit → Act → World → Prop} {E : (Nat → Prop) → Act → World → Prop} {o : Oper} {l : List Oper} {H H' : List (Nat × HO)} {a : Act} {w : World} (hs : ∀ tk b, tbl H' tk b → tbl H tk b) (h : m.wp P ops Q E (o :: l) H' a w) : m.wp P ops Q E (o :: l) H a w := by
  cases m with
  | text => exact h
  | any tk so qs => exact fun is listed n h1 h2 h3 h4 h5 => wpAnyR_small _ _ _ _ _ _ (hs tk) (h is listed n h1 h2 h3 h4 h5)
  | one tk so qs =>
    cases l with
    | nil => exact fun i hi => wpOp_mono (fun a' w' ⟨G', h1, h2⟩ => ⟨G', h1.small (hs tk), h2⟩) (h i hi)
    | cons o' l' => exact True.intro
section
variable {m : OM} {P : Program} {C : Ctx} {ops : Array Oper} {o : Oper} {l : List Oper} {K : St → Prop} {n : Nat} {sl : List (Nat × AV)} {hp : List (Nat × HO)}
theorem o_freezeR {hp' : List (Nat × HO)} (k d : Nat) {e sz : Nat} {v : Value} {xs : List AV} (hg : hget hp k = some (.row v e sz xs)) (hd : lookD sl d = .own k v) (hh : hdel hp k = hp')
    (h : Ops m P C ops (o :: l) ⟨n, (d, .sl sz xs) :: sl, hp'⟩ K) : Ops m P C ops (o :: l) ⟨n, sl, hp⟩ K := by
  subst hh
  refine ⟨fun Q E a w hs hK => OM.wp_small (fun tk b hb => ?_) (h.out Q E a w (hs.freezeR (S := ⟨n, sl, hp⟩) hg hd) hK)⟩
  obtain ⟨p, h1, h2, h3⟩ := hb
  exact ⟨p, (hdel_blks hg).2.2 p h1, h2, h3⟩
end
end Go.Proofs.YtcmgpkibjdbonaaGreat
namespace Go.Proofs.YtcmgpkibjdbonaaGreat
open Go Go.RowKit
section
variable {m : OM} {P : Program} {T : List (Nat × TI)} {C : Ctx} {ops : Array Oper} {l : List Oper} {K : St → Prop} {n : Nat} {sl : List (Nat × AV)} {hp : List (Nat × HO)} {d : Nat} {ty : Nat} {pos : String} {aft : Array Edge} {gd : Option (Nat × Bool)}
/-- A slice that may be nil: only if it has no element. -/
theorem o_eqNilSl (hT : TTOk P T) (hw : gval ops ⟨n, sl, hp⟩ gd = gwant gd) {t u e sz : Nat} {x y : Operand} {xs : List AV} {sz0 by0 : Nat} {z0 : AV}
    (hx : ev ⟨n, sl, hp⟩ x = .sl sz xs) (hy : ev ⟨n, sl, hp⟩ y = .nil) (ht : tget T t = some ⟨.slice e, sz0, by0, z0⟩) (hd : Nat.blt d n = true)
    (h : ∀ c : Bool, (c = true → xs = []) → Ops .text P C ops l ⟨n, (d, .b c) :: sl, hp⟩ K) : Ops .text P C ops (⟨some d, .binOp .eql t x y u, ty, pos, aft, gd⟩ :: l) ⟨n, sl, hp⟩ K := by
  refine ⟨fun Q E a w hs hK => ?_⟩
  have hw2 := wanted_of (d := some d) (op := .binOp .eql t x y u) (ty := ty) (pos := pos) (aft := aft) hs hw
  intro he
  show wpList P ops Q (_ :: l) a w
  have Ex := ev_rep hs x
  have Ey := ev_rep hs y
  rw [hx, repV_sl] at Ex
  rw [hy, repV_nil] at Ey
  obtain ⟨A, cap, e1, h1, h2, h3⟩ := Ex
  have hu := tk_slice (tget_ok hT ht)
  refine wpList_of_wp hw2 ?_
  have hr := Lib.run_eql_slice_nil (P := P) w t e A xs.length cap 0 0 hu
  have hg : (eqGuard .eql t x y (.slice A xs.length cap) (.slice none 0 0)).run P w = .ok () w := by simp [eqGuard]
  unfold Oper.wp
  simp only [execOp, e1, Ey, Sem.run_bind, hg, hr, Result.andThen_ok, Sem.run_pure]
  refine (h A.isNone (fun hA => ?_)).out Q E _ w (hs.put (blt_lt hd) (repV_b.2 rfl)) hK he
  rcases Classical.em (xs = []) with h0 | h0
  · exact h0
  · obtain ⟨b, off, rfl, _⟩ := h3 h0
    cases hA
end
end Go.Proofs.YtcmgpkibjdbonaaGreat
namespace Go.Proofs.YtcmgpkibjdbonaaGreat
open Go Go.RowKit
section
variable {m : OM} {P : Program} {T : List (Nat × TI)} {C : Ctx} {ops : Array Oper} {l : List Oper} {K : St → Prop} {n : Nat} {sl : List (Nat × AV)} {hp : List (Nat × HO)} {d : Nat} {ty : Nat} {pos : String} {aft : Array Edge} {gd : Option (Nat × Bool)}
end
end Go.Proofs.YtcmgpkibjdbonaaGreat
namespace Go.Proofs.YtcmgpkibjdbonaaGreat
open Go Go.RowKit
def setL (ps : List (Nat × AV)) (zs : List AV) : List AV := ps.foldl (fun c q => c.set q.1 q.2) zs
def okA (sz mlen : Nat) (ps : List (Nat × AV)) : Bool := ps.all (fun q => Nat.blt q.1 mlen && q.2.isVal && Nat.beq (sizeA q.2) sz)
section
variable {P : Program} {T : List (Nat × TI)} {w : World} {F : Nat → Prop}
theorem bldA_fill (sz : Nat) : ∀ (ps : List (Nat × AV)) (vs : List (Nat × Value)) (cur : List AV) (cs : List Value), repA w F sz cur cs → okA sz cur.length ps = true → ps.length = vs.length →
    (∀ (i : Nat) x v, ps[i]? = some x → vs[i]? = some v → x.1 = v.1 ∧ repV w F x.2 v.2) → ∃ cs', Instr.fill (fun i => some (i * sz, sz)) cs.toArray vs = some cs'.toArray ∧ repA w F sz (setL ps cur) cs' ∧ (setL ps cur).length = cur.length
  | [], [], cur, cs, hc, _, _, _ => ⟨cs, rfl, hc, rfl⟩
  | [], v :: vs, cur, cs, _, _, hl, _ => by simp at hl
  | x :: ps, [], cur, cs, _, _, hl, _ => by simp at hl
  | (i, y) :: ps, (i', v) :: vs, cur, cs, hc, hok, hl, hv => by
    obtain ⟨hi, hy⟩ := hv 0 (i, y) (i', v) rfl rfl
    simp only at hi hy
    subst hi
    unfold okA at hok
    rw [List.all_cons, Bool.and_eq_true, Bool.and_eq_true, Bool.and_eq_true] at hok
    obtain ⟨⟨⟨k1, k2⟩, k3⟩, k4⟩ := hok
    have k1 : i < cur.length := by rwa [Nat.blt_eq] at k1
    have k3 : sizeA y = sz := Nat.eq_of_beq_eq_true k3
    obtain ⟨ys, hys, hvy⟩ := repV_cells k2 hy
    obtain ⟨pre, mid, post, e1, e2, e3, e5, e4⟩ := repA_at sz cur i _ cs hc (List.getElem?_eq_getElem k1)
    have hyl : ys.length = mid.length := by rw [repC_size _ _ hys, e5]; exact k3
    have hcells := ofCells_cells hys
    have hfold := fold_set' ys mid pre post [] hyl
    simp only [List.length_nil, List.append_nil] at hfold
    have hsl : (cur.set i y).length = cur.length := List.length_set
    obtain ⟨cs', f1, f2, f3⟩ := bldA_fill sz ps vs (cur.set i y) (pre ++ ys ++ post) (e4 y ys hys (by rw [hyl]; exact e5)) (by rw [hsl]; exact k4) (by simpa using hl) (fun j x u hx hu => hv (j + 1) x u (by simpa using hx) (by simpa using hu))
    refine ⟨cs', ?_, f2, f3.trans hsl⟩
    have hsize : v.cells.size = sz := by rw [hvy, hcells, List.size_toArray, hyl, e5]
    have hcl : cs.length = pre.length + mid.length + post.length := by rw [e1]; simp; omega
    unfold Instr.fill
    simp only
    rw [if_neg (by simp [hsize, hcl]; omega), ← f1]
    congr 1
    rw [hvy, hcells, ← e2, e1, ← Array.foldl_toList, Array.toList_zipIdx]
    exact hfold
end
section
variable {m : OM} {P : Program} {T : List (Nat × TI)} {C : Ctx} {ops : Array Oper} {l : List Oper} {K : St → Prop} {n : Nat} {sl : List (Nat × AV)} {hp : List (Nat × HO)} {d : Nat} {ty : Nat} {pos : String} {aft : Array Edge} {gd : Option (Nat × Bool)}
theorem o_buildArr (hT : TTOk P T) (hw : gval ops ⟨n, sl, hp⟩ gd = gwant gd) {t mlen e sz by_ sz2 : Nat} {xs : List AV} {te : TI} {parts : Array (Nat × Operand)} (res : List AV) (ht : tget T t = some ⟨.array mlen e, sz, by_, .arr sz2 mlen xs⟩) (he : tget T e = some te) (hsz : te.sz = sz2)
    (hok : okA sz2 mlen (parts.toList.map fun q => (q.1, ev ⟨n, sl, hp⟩ q.2)) = true) (hres : setL (parts.toList.map fun q => (q.1, ev ⟨n, sl, hp⟩ q.2)) xs = res) (hd : Nat.blt d n = true)
    (h : Ops m P C ops l ⟨n, (d, .arr sz2 mlen res) :: sl, hp⟩ K) : Ops m P C ops (⟨some d, .build t parts, ty, pos, aft, gd⟩ :: l) ⟨n, sl, hp⟩ K := by
  subst hres
  refine Ops.by (d := some d) hw none okc_none hd rfl (fun a w hs => ?_) h
  have h0 := tget_ok hT ht
  rcases h0.zero with hz | ⟨cs, h1, h2⟩
  · cases hz
  · obtain ⟨it, hit, _, _⟩ := h0.inf
    obtain ⟨ie, hie, hes, _⟩ := (tget_ok hT he).inf
    rw [hit] at h2
    have hzv : it.zero = some (ofCells (.arr sz2 mlen xs) cs) := h2
    have hrep : repC w (Fz C hp w) (.arr sz2 mlen xs) cs := flatZ_rep _ cs h1
    have hzc : (ofCells (.arr sz2 mlen xs) cs).cells = cs.toArray := ofCells_cells hrep
    simp only [repC] at hrep
    obtain ⟨cs', g1, g2, g3⟩ := bldA_fill sz2 _ ((parts.map fun (i, x) => (i, a.eval x)).toList) xs cs hrep.2 (by rw [hrep.1]; exact hok) (by simp) (fun i x v hx hv => by
      rw [Array.toList_map, List.getElem?_map] at hv
      rw [List.getElem?_map] at hx
      cases hq : parts.toList[i]? with
      | none => rw [hq] at hx; cases hx
      | some q =>
        rw [hq] at hx hv
        simp only [Option.map_some, Option.some.injEq] at hx hv
        subst hx; subst hv
        exact ⟨rfl, ev_rep hs q.2⟩)
    refine ⟨.agg cs'.toArray, ⟨cs', by simp only [repC]; exact ⟨by rw [g3]; exact hrep.1, g2⟩, rfl⟩, fun w' _ => ?_⟩
    have hbuilt : P.built t (parts.map fun (i, x) => (i, a.eval x)).toList = some cs'.toArray := by
      unfold Program.built
      rw [hit, tk_array h0]
      simp only [hzv, hie, hzc]
      rw [hes, hsz]
      exact g1
    have := run_build (P := P) w' t _ _ hbuilt
    simp only [execOp, Sem.run_bind, this, Result.andThen_ok, Sem.run_pure]
end
end Go.Proofs.YtcmgpkibjdbonaaGreat
