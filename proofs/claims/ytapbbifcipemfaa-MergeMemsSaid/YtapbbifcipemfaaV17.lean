/- Calls on objects, named by the pointer that is handed. No program in sight. -/
import Derived.Test.YtapbbifcipemfaaV16
namespace Go.Proofs.Ytapbbifcipemfaa
open Go Go.RowKit
section
variable {m : OM} {P : Program} {T : List (Nat × TI)} {C : Ctx} {ops : Array Oper} {l : List Oper} {K : St → Prop} {n : Nat} {sl : List (Nat × AV)} {hp : List (Nat × HO)} {d : Nat} {ty : Nat} {pos : String} {aft : Array Edge} {gd : Option (Nat × Bool)}
/-- A contract whose result is seen as something else. -/
theorem Spec.le {f : FuncId} {args : List AV} {os : List HO} {R R' : AV → List HO → Prop} (h : Spec P f args os R) (hr : ∀ r os', R r os' → ∃ r', SLe [] r r' ∧ R' r' os') : Spec P f args os R' :=
  ⟨h.fn, fun w vals F h1 h2 h3 => (h.run w vals F h1 h2 h3).mono fun e w' ⟨v, r, os', e1, e2, e3, e4, e5, e6⟩ => by
    obtain ⟨r', hle, hr'⟩ := hr r os' e2
    exact ⟨v, r', os', e1, hr', e3, e4, e5, hle w' _ v (fun z hz => by cases hz) e6⟩⟩
/-- A call that is handed one object, by its pointer, and gives it back. -/
theorem o_callP (hw : gval ops ⟨n, sl, hp⟩ gd = gwant gd) {f : FuncId} {args : Array Operand} {ats : Array TypeId} {as : List AV} {x0 : Operand} {xs : List Operand} {key b : Nat} {ho o : HO} {H1 : List (Nat × HO)} {R : AV → List HO → Prop}
    (hx0 : args.toList = x0 :: xs) (hk : ev ⟨n, sl, hp⟩ x0 = .ptr key b [] 0) (htk : taken hp [key] = some ([ho], H1))
    (hspec : Spec P f as [o] R) (hargs : argsLe [] (args.toList.map (ev ⟨n, sl, hp⟩)) as) (hos : HOLe [] ho o) (hd : Nat.blt d n = true) (hm : m.oke (some d) [key] = true)
    (h : ∀ r os', R r os' → ∃ o', os' = [o'] ∧ ∃ H2, forceL ((key, o') :: H1) = some H2 ∧ Ops m P C ops l ⟨n, (d, r) :: sl, H2⟩ K) :
    Ops m P C ops (⟨some d, .call ⟨.value (.func f), args, ats⟩, ty, pos, aft, gd⟩ :: l) ⟨n, sl, hp⟩ K :=
  o_call [] [key] [key] hw hspec hargs htk ⟨hos, trivial⟩ hd hm (fun r os' hr => by
    obtain ⟨o', rfl, H2, h1, h2⟩ := h r os' hr
    exact ⟨H2, h1, rfl, h2⟩)
end
end Go.Proofs.Ytapbbifcipemfaa
