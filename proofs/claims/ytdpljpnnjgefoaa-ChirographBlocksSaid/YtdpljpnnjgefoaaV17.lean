/- Calls on objects, named by the pointer that is handed. No program in sight. -/
import Derived.Test.YtdpljpnnjgefoaaV16
namespace Go.Proofs.Ytdpljpnnjgefoaa
open Go Go.RowKit
section
variable {m : OM} {P : Program} {T : List (Nat × TI)} {C : Ctx} {ops : Array Oper} {l : List Oper} {K : St → Prop} {n : Nat} {sl : List (Nat × AV)} {hp : List (Nat × HO)} {d : Nat} {ty : Nat} {pos : String} {aft : Array Edge} {gd : Option (Nat × Bool)}
/-- A contract whose result is seen as something else. -/
theorem Spec.le {f : FuncId} {args : List AV} {os : List HO} {R R' : AV → List HO → Prop} (h : Spec P f args os R) (hr : ∀ r os', R r os' → ∃ r', SLe [] r r' ∧ R' r' os') : Spec P f args os R' :=
  ⟨h.fn, fun w vals F h1 h2 h3 => (h.run w vals F h1 h2 h3).mono fun e w' ⟨v, r, os', e1, e2, e3, e4, e5, e6⟩ => by
    obtain ⟨r', hle, hr'⟩ := hr r os' e2
    exact ⟨v, r', os', e1, hr', e3, e4, e5, hle w' _ v (fun z hz => by cases hz) e6⟩⟩
/-- A call that is handed one object, by its pointer, and gives it back. -/
theorem o_callP (hw : gval ops ⟨n, sl, hp⟩ gd = gwant gd) {f : FuncId} {args : Array Operand} {ats : Array TypeId} {as : List AV} {x0 : Operand} {xs : List Operand} {key b : Nat} {ho o : HO} {H1 : List (Nat × HO)} {R : AV → List HO → Prop}
    (hx0 : args.toList = x0 :: xs) (hk : ev ⟨n, sl, hp⟩ x0 = .ptr key b [] 0) (htk : taken hp [key] = some ([ho], H1))
    (hspec : Spec P f as [o] R) (hargs : argsLe [] (args.toList.map (ev ⟨n, sl, hp⟩)) as) (hos : HOLe [] ho o) (hd : Nat.blt d n = true) (hm : m.oke (some d) [key] = true)
    (h : ∀ r os', R r os' → ∃ o', os' = [o'] ∧ ∃ H2, forceL ((key, o') :: H1) = some H2 ∧ Ops m P C ops l ⟨n, (d, r) :: sl, H2⟩ K) :
    Ops m P C ops (⟨some d, .call ⟨.value (.func f), args, ats⟩, ty, pos, aft, gd⟩ :: l) ⟨n, sl, hp⟩ K :=
  o_call [] [key] [key] hw hspec hargs htk ⟨hos, trivial⟩ hd hm (fun r os' hr => by
    obtain ⟨o', rfl, H2, h1, h2⟩ := h r os' hr
    exact ⟨H2, h1, rfl, h2⟩)
/-- A call that is handed an object and the row that it holds. -/
theorem o_callPR (hw : gval ops ⟨n, sl, hp⟩ gd = gwant gd) {f : FuncId} {args : Array Operand} {ats : Array TypeId} {as : List AV} {x0 : Operand} {xs : List Operand} {key b k2 : Nat} {v : Value} {fs : List AV} {ho ho2 o o2 : HO} {H1 : List (Nat × HO)} {R : AV → List HO → Prop}
    (hx0 : args.toList = x0 :: xs) (hk : ev ⟨n, sl, hp⟩ x0 = .ptr key b [] 0) (hg : hget hp key = some (.var b (.agg (.own k2 v :: fs)))) (htk : taken hp [key, k2] = some ([ho, ho2], H1))
    (hspec : Spec P f as [o, o2] R) (hargs : argsLe [] (args.toList.map (ev ⟨n, sl, hp⟩)) as) (hos : HOLe [] ho o) (hos2 : HOLe [] ho2 o2) (hd : Nat.blt d n = true) (hm : m.oke (some d) [key, k2] = true)
    (h : ∀ r os', R r os' → ∃ o' o2', os' = [o', o2'] ∧ ∃ H2, forceL ((key, o') :: (k2, o2') :: H1) = some H2 ∧ Ops m P C ops l ⟨n, (d, r) :: sl, H2⟩ K) :
    Ops m P C ops (⟨some d, .call ⟨.value (.func f), args, ats⟩, ty, pos, aft, gd⟩ :: l) ⟨n, sl, hp⟩ K :=
  o_call [] [key, k2] [key, k2] hw hspec hargs htk ⟨hos, hos2, trivial⟩ hd hm (fun r os' hr => by
    obtain ⟨o', o2', rfl, H2, h1, h2⟩ := h r os' hr
    exact ⟨H2, h1, rfl, h2⟩)
/-- A call that makes an object and gives a pointer to it. -/
theorem o_callN (hw : gval ops ⟨n, sl, hp⟩ gd = gwant gd) {f : FuncId} {args : Array Operand} {ats : Array TypeId} {as : List AV} {c : AV}
    (hspec : Spec P f as [] (fun v os => ∃ b, v = .ptr 0 b [] 0 ∧ os = [.var b c])) (hargs : argsLe [] (args.toList.map (ev ⟨n, sl, hp⟩)) as) (hd : Nat.blt d n = true)
    (h : ∀ b, Ops m P C ops l ⟨n, (d, .ptr d b [] 0) :: sl, (d, .var b c) :: hp⟩ K) :
    Ops m P C ops (⟨some d, .call ⟨.value (.func f), args, ats⟩, ty, pos, aft, gd⟩ :: l) ⟨n, sl, hp⟩ K :=
  Ops.call hw [] [] [d] (hspec.le (R' := fun v os => ∃ b, v = .ptr d b [] 0 ∧ os = [.var b c]) (fun r os' ⟨b, h1, h2⟩ => ⟨.ptr d b [] 0, h1 ▸ sle_ptr, b, rfl, h2⟩)) hargs rfl trivial hd oke_nil (fun r os' hr => by
    obtain ⟨b, rfl, rfl⟩ := hr
    exact ⟨rfl, h b⟩)
end
end Go.Proofs.Ytdpljpnnjgefoaa
