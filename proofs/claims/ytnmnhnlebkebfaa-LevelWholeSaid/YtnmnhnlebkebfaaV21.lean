/- More on function values: a variable that is not written any more, in the midst of a region. No program in sight. -/
import Derived.Test.YtnmnhnlebkebfaaV20
namespace Go.Proofs.Ytnmnhnlebkebfaa
open Go Go.RowKit
section
variable {P : Program} {C : Ctx} {ops : Array Oper} {l : List Oper} {K : St → Prop} {n : Nat} {sl : List (Nat × AV)} {hp : List (Nat × HO)}
theorem o_freezeV {hp' : List (Nat × HO)} (k d : Nat) {b : Nat} {c : AV} (hg : hget hp k = some (.var b c)) (hd : lookD sl d = .ptr k b [] 0) (hh : hdel hp k = hp')
    (h : Ops .text P C ops l ⟨n, (d, .cp c) :: sl, hp'⟩ K) : Ops .text P C ops l ⟨n, sl, hp⟩ K := by
  subst hh
  exact ⟨fun Q E a w hs hK => h.out Q E a w (hs.freezeV (S := ⟨n, sl, hp⟩) hg hd) hK⟩
theorem argsLe_self {fr : Fr} : ∀ xs : List AV, argsLe fr xs xs
  | [] => True.intro
  | _ :: xs => ⟨SLe.of_eq rfl, argsLe_self xs⟩
end
end Go.Proofs.Ytnmnhnlebkebfaa
