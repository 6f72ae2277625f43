/- One theorem of all operations that leave the world as it is; steps through a list of operations. No program in sight. -/
import Derived.Test.YtfdcopbbnmialaaV4
namespace Go.Proofs.Ytfdcopbbnmialaa
open Go Go.RowKit

section
variable {P : Program} {T : List (Nat × TI)} {C : Ctx} {S : St} {a : Act} {w : World}
theorem eval_get {xs : Array Operand} {i : Nat} {x : Operand} (h : xs[i]? = some x) (ρ : Operand → Value) : (xs.map ρ)[i]? = some (ρ x) := by
  rw [Array.getElem?_map, h]; rfl
theorem repV_tup {F : Nat → Prop} {xs : List AV} {v : Value} {i : Nat} {x : AV} (h : repV w F (.tup xs) v) (hx : xs[i]? = some x) : ∃ vs u, v = .tuple vs ∧ vs[i]? = some u ∧ repV w F x u := by
  obtain ⟨vs, rfl, hl, hc⟩ := h
  have hi := (List.getElem?_eq_some_iff.1 hx).1
  refine ⟨vs.toArray, vs[i], rfl, by rw [List.getElem?_toArray, List.getElem?_eq_getElem], ?_⟩
  rcases hc i x vs[i] hx (List.getElem?_eq_getElem (by omega)) with rfl | ⟨cs, h1, h2⟩
  · exact True.intro
  · rw [h2]; exact repV_mk h1
theorem cv_sound (hT : TTOk P T) (hs : Sat C S a w) (dst : Option Tmp) (op : Op) (ty : Nat) (pos : String) (aft : Array Edge) (gd : Option (Nat × Bool)) {r : CV} (h : cv T S.heap (ev S) op = some r) (hn : r.need) :
    Steps1 P C S.heap w a.eval ⟨dst, op, ty, pos, aft, gd⟩ r := by
  have E : ∀ x, repV w (Fz C S.heap w) (ev S x) (a.eval x) := ev_rep hs
  unfold cv at h
  split at h
  · rename_i x
    simp only [CV.val_eq, CV.pure, Option.some.injEq] at h; subst h
    exact ⟨trivial, _, E x, fun w' _ => rfl⟩
  · rename_i x
    simp only [CV.val_eq, CV.pure, Option.some.injEq] at h; subst h
    exact ⟨trivial, _, E x, fun w' _ => rfl⟩
  · rename_i c x y
    have Ec := E c
    split at h
    · rename_i hc
      simp only [CV.val_eq, CV.pure, Option.some.injEq] at h; subst h
      rw [hc, repV_b] at Ec
      exact ⟨trivial, _, E x, fun w' _ => by simp [execOp, Ec, asBool]⟩
    · rename_i hc
      simp only [CV.val_eq, CV.pure, Option.some.injEq] at h; subst h
      rw [hc, repV_b] at Ec
      exact ⟨trivial, _, E y, fun w' _ => by simp [execOp, Ec, asBool]⟩
    · cases h
  · rename_i t x
    obtain ⟨h1, u, h2, h3⟩ := cv_load hT hs h hn (E x)
    exact ⟨h1, u, h2, fun w' hr => by simp only [execOp, Sem.run_bind, h3 w' hr, Result.andThen_ok, Sem.run_pure]⟩
  · rename_i s x f
    obtain ⟨h1, h0, u, h2, h3⟩ := cv_fieldAddr hT h hn (E x)
    exact ⟨h1, u, h2, fun w' _ => by simp only [execOp, Sem.run_bind, h3 w', Result.andThen_ok, Sem.run_pure]⟩
  · rename_i s x f
    obtain ⟨h1, h0, u, h2, h3⟩ := cv_field hT h hn (E x)
    exact ⟨h1, u, h2, fun w' _ => by simp only [execOp, Sem.run_bind, h3 w', Result.andThen_ok, Sem.run_pure]⟩
  · rename_i x
    have Ex := E x
    split at h
    · rename_i k b p o hx
      simp only [CV.pure, Option.some.injEq] at h; subst h
      have Ex0 := Ex
      rw [hx, repV_ptr] at Ex
      rw [hx] at Ex0
      exact ⟨trivial, _, Ex0, fun w' _ => by simp [execOp, Ex]⟩
    · rename_i y hx
      simp only [CV.pure, Option.some.injEq] at h; subst h
      have Ex0 := Ex
      rw [hx, repV_cp] at Ex
      rw [hx] at Ex0
      obtain ⟨b, off, vs, he, _⟩ := Ex
      exact ⟨trivial, _, Ex0, fun w' _ => by simp [execOp, he]⟩
    · cases h
  · rename_i o t x y yt
    obtain ⟨z, h1, h2, h0, h3⟩ := binOp_run hT o t _ _ r h hn x y _ _ (E x) (E y)
    refine ⟨h2, z, h1, fun w' _ => ?_⟩
    have := h3 w'
    show ((do pure (Next.value (← (do eqGuard o t x y (a.eval x) (a.eval y); binOp o t (a.eval x) (a.eval y))))) : Sem Next).run P w' = _
    rw [Sem.run_bind, this]; rfl
  · rename_i o t x
    have Ex := E x
    split at h
    · rename_i b hx
      simp only [CV.pure, Option.some.injEq] at h; subst h
      rw [hx, repV_b] at Ex
      exact ⟨trivial, _, repV_b.2 rfl, fun w' _ => by simp [execOp, Ex, Op.unary]⟩
    · rename_i k n hx
      simp only [CV.pure, Option.some.injEq] at h; subst h
      rw [hx, repV_i] at Ex
      exact ⟨trivial, _, repV_i.2 rfl, fun w' _ => by simp [execOp, Ex, Op.unary, Op.intArith]⟩
    · rename_i k n hx
      simp only [CV.pure, Option.some.injEq] at h; subst h
      rw [hx, repV_i] at Ex
      exact ⟨trivial, _, repV_i.2 rfl, fun w' _ => by simp [execOp, Ex, Op.unary, Op.intBits, bitsI]⟩
    · cases h
  · rename_i s d x
    obtain ⟨h1, h0, u, h2, h3⟩ := cv_conv hT h (E x)
    exact ⟨h1, u, h2, fun w' _ => by simp only [execOp, Sem.run_bind, h3 w', Result.andThen_ok, Sem.run_pure]⟩
  · rename_i t i
    have Et := E t
    split at h
    · rename_i xs hx
      split at h
      · rename_i x hi
        simp only [CV.val_eq, CV.pure, Option.some.injEq] at h; subst h
        rw [hx] at Et
        obtain ⟨vs, u, e1, e2, e3⟩ := repV_tup Et hi
        exact ⟨trivial, _, e3, fun w' _ => by simp [execOp, e1, Instr.extract, e2]⟩
      · cases h
    · cases h
  · rename_i args ats
    split at h
    · rename_i x t hx ht
      obtain ⟨h1, h0, u, h2, h3⟩ := cv_len hT hs h hn (E x) ats ht ty (args.map a.eval) (eval_get hx _)
      exact ⟨h1, u, h2, fun w' _ => by simp only [execOp, resolve, invoke, builtin, Sem.run_bind, Sem.run_pure, Result.andThen_ok, h3 w']⟩
    · cases h
  · rename_i args ats
    split at h
    · rename_i x y hxy
      obtain rfl : args = #[x, y] := by rw [← Array.toArray_toList (xs := args), hxy]
      have Ex := E x; have Ey := E y
      split at h
      · rename_i k p k' q hx hy
        simp only [CV.pure, Option.some.injEq] at h; subst h
        rw [hx, repV_i] at Ex; rw [hy, repV_i] at Ey
        exact ⟨trivial, _, repV_i.2 rfl, fun w' _ => by simp [execOp, resolve, invoke, builtin, Builtin.max_, Ex, Ey, Builtin.max2]⟩
      · rename_i p q hx hy
        simp only [CV.pure, Option.some.injEq] at h; subst h
        rw [hx, repV_s] at Ex; rw [hy, repV_s] at Ey
        refine ⟨trivial, .string (bytesOf (if (!Op.bytesLess p q) then p else q)), repV_s.2 ⟨rfl, by split <;> first | exact Ex.2 | exact Ey.2⟩, fun w' _ => ?_⟩
        have e1 : ∀ l : List UInt8, (bytesOf l).toList = l := fun l => ByteArray.toList_eq _
        cases hb : Op.bytesLess p q <;> simp [execOp, resolve, invoke, builtin, Builtin.max_, Ex.1, Ey.1, Builtin.max2, Op.stringOp, e1, asBool, hb]
      · cases h
    · cases h
  · rename_i args ats
    split at h
    · rename_i x y hxy
      obtain rfl : args = #[x, y] := by rw [← Array.toArray_toList (xs := args), hxy]
      have Ex := E x; have Ey := E y
      split at h
      · rename_i k p k' q hx hy
        simp only [CV.pure, Option.some.injEq] at h; subst h
        rw [hx, repV_i] at Ex; rw [hy, repV_i] at Ey
        exact ⟨trivial, _, repV_i.2 rfl, fun w' _ => by simp [execOp, resolve, invoke, builtin, Builtin.min_, Ex, Ey, Builtin.min2]⟩
      · rename_i p q hx hy
        simp only [CV.pure, Option.some.injEq] at h; subst h
        rw [hx, repV_s] at Ex; rw [hy, repV_s] at Ey
        refine ⟨trivial, .string (bytesOf (if (Op.bytesLess p q || p == q) then p else q)), repV_s.2 ⟨rfl, by split <;> first | exact Ex.2 | exact Ey.2⟩, fun w' _ => ?_⟩
        have e1 : ∀ l : List UInt8, (bytesOf l).toList = l := fun l => ByteArray.toList_eq _
        cases hb : (Op.bytesLess p q || p == q) <;> simp only [execOp, resolve, invoke, builtin, Builtin.min_, List.map_toArray, List.map_cons, List.map_nil, Ex.1, Ey.1, List.foldlM_cons, List.foldlM_nil, Builtin.min2, Op.stringOp, e1, asBool, hb, Sem.run_bind, Sem.run_pure, Result.andThen_ok] <;> simp
      · cases h
    · cases h
  · cases h
end
/-- Operations that make or write memory, or run code. -/
def effOp (P : Program) : Op → Bool
  | .move _ | .assign _ | .pick _ _ _ | .load _ _ | .fieldAddr _ _ _ | .field _ _ _ | .indexAddr _ _ _ | .index _ _ _ | .nilCheck _ | .binOp _ _ _ _ _ | .unOp _ _ _ | .extract _ _ | .slice _ _ _ _ _ | .build _ _ | .makeInterface _ _ | .makeFunc _ _ _ | .typeAssert _ _ _ _ => false
  | .convert _ dst _ => match P.underlying dst with
    | some (.slice _) => true
    | _ => false
  | .call ⟨.builtin .len, _, _⟩ | .call ⟨.builtin .cap, _, _⟩ | .call ⟨.builtin .max, _, _⟩ | .call ⟨.builtin .min, _, _⟩ => false
  | _ => true
theorem cv_calm {P : Program} {T : List (Nat × TI)} (hT : TTOk P T) {H : List (Nat × HO)} {e : Operand → AV} {op : Op} {r : CV} (h : cv T H e op = some r) : effOp P op = false := by
  unfold cv at h
  split at h <;> first
    | rfl
    | skip
  · rename_i s d x
    unfold cvConv at h
    split at h
    · split at h
      · rename_i h1 h2
        simp [effOp, tk_int (tget_ok hT h2)]
      · cases h
    · split at h
      · rename_i h1 h2
        simp [effOp, tk_string (tget_ok hT h2)]
      · cases h
    · cases h
  · cases h
end Go.Proofs.Ytfdcopbbnmialaa
