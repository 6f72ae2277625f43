/- Calls through a function value that is known (in the text's order). No program in sight. -/
import Derived.Test.YtdpljpnnjgefoaaV18
namespace Go.Proofs.Ytdpljpnnjgefoaa
open Go Go.RowKit
section
variable {P : Program} {T : List (Nat × TI)} {C : Ctx} {ops : Array Oper} {l : List Oper} {K : St → Prop} {S : St} {d : Option Tmp} {ty : Nat} {pos : String} {aft : Array Edge} {gd : Option (Nat × Bool)}
theorem execOp_fn (a : Act) {c : Operand} {f : FuncId} (hc : a.eval c = .func (.func f) #[] #[]) (args : Array Operand) (ats : Array TypeId) :
    execOp a.eval ⟨d, .call ⟨.value c, args, ats⟩, ty, pos, aft, gd⟩ = callFunc f (#[] ++ args.map a.eval ++ #[]) := by
  unfold execOp
  simp only [resolve, hc, Deferred.ofValue]
  rfl
theorem o_callFn {c : Operand} {f : FuncId} {args : Array Operand} {ats : Array TypeId} (hx : ev S c = .fn (.func f) []) (h : Ops .text P C ops (⟨d, .call ⟨.value (.func f), args, ats⟩, ty, pos, aft, gd⟩ :: l) S K) :
    Ops .text P C ops (⟨d, .call ⟨.value c, args, ats⟩, ty, pos, aft, gd⟩ :: l) S K := by
  refine ⟨fun Q E a w hs hK => ?_⟩
  intro he
  have h1 := h.out Q E a w hs hK he
  have Ex := ev_rep hs c
  rw [hx] at Ex
  obtain ⟨cs, hc, he⟩ := Ex
  simp only [repC, repL] at hc
  obtain ⟨vs, rfl, hv⟩ := hc
  have hvs : vs = #[] := by
    apply Array.ext'
    simpa using hv
  subst hvs
  have hev : a.eval c = .func (.func f) #[] #[] := he
  have e1 := execOp_fn (d := d) (ty := ty) (pos := pos) (aft := aft) (gd := gd) a hev args ats
  have e2 := execOp_call_go a d f args ats ty pos aft gd
  show wpList P ops Q (_ :: l) a w
  have h1 : wpList P ops Q (_ :: l) a w := h1
  unfold wpList at h1 ⊢
  unfold Oper.wp Oper.asks at h1 ⊢
  rw [e1]
  rw [e2] at h1
  exact h1
end
end Go.Proofs.Ytdpljpnnjgefoaa
