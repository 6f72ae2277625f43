/- append of a slice that came in: nil, empty or not. No program in sight. -/
import Derived.Test.YtnmnhnlebkebfaaBase
namespace Go.Proofs.Ytnmnhnlebkebfaa
open Go.RowKit

section
variable {P : Program} {α : Type} {enc : α → List Value} {size bytes : Nat} {w : World} {B : Nat} {t e : TypeId} {v : Value} {xs ys : List α}
theorem run_app_none (hE : Elem P t e size bytes) (ty : TypeId) (hown : Own w B e enc size v xs) (c : Nat) : (Builtin.append_ #[t, t] ty #[v, .slice none 0 c]).run P w = .ok v w := by
  obtain ⟨i, z, hi, hz, hz1, hz2, hz3⟩ := hE.info
  rcases hown.2 with ⟨rfl, h0⟩ | ⟨g, cap, cur, rfl, _, _, hnc, _⟩
  · rw [h0] at *
    simp [Builtin.append_, run_underlying hE.ut, sizeOf, typeInfo, hi, Builtin.lenOf, Builtin.firstCells]
  · simp [Builtin.append_, run_underlying hE.ut, sizeOf, typeInfo, hi, Builtin.lenOf, Builtin.firstCells, hnc, storeCells]
theorem wp_appS {o : Oper} {a : Act} {K : Act → World → Prop} {Q : Exit → Act → World → Prop} (s x : Operand)
    (ho : o.op = .call { callee := .builtin .append, args := #[s, x], argTypes := #[t, t] })
    (hE : Elem P t e size bytes) (he : ∀ x, (enc x).length = size) (h1 : ∀ y, ∀ u ∈ enc y, u.oneCell' = true)
    {v : Value} {xs : List α} (hs : a.eval s = v) (hown : Own w B e enc size v xs)
    {A : Option Addr} {n c : Nat} (ys : List α) (hx : a.eval x = .slice A n c) (hn : n = ys.length) {F : Nat → Prop} (hsl : SlA w F enc size A ys)
    (N : Nat) (hlen : xs.length + ys.length ≤ N) (hN : N * bytes ≤ 140737488355328) (h63 : N ≤ maxLen) (hbase : B ≤ w.heap.size)
    (h : ∀ v' w', Own w' B e enc size v' (xs ++ ys) → w.grownBy w' v.ownBlock → (v'.ownBlock = v.ownBlock ∨ v'.ownBlock = some w.heap.size) → K (a.put o.dst v') w') : o.wp P a w K Q := by
  rcases A with _ | ad
  · have hys : ys = [] := by
      rcases ys with _ | ⟨y, ys⟩
      · rfl
      · obtain ⟨b, off, hA, _⟩ := hsl (by simp); cases hA
    subst hys
    simp at hn; subst hn
    unfold Oper.wp execOp
    simp only [ho, resolve, invoke, builtin, Sem.run_bind, Sem.run_pure, Result.andThen_ok, List.map_toArray, List.map_cons, List.map_nil, hs, hx, run_app_none hE o.type hown c]
    exact h v w (by simpa using hown) (World.grownBy.refl w _) (.inl rfl)
  · refine wp_app s x ho hE he v xs hs hown ad n c ys hx hn ?_ (fun y _ => h1 y) (Nat.le_trans (Nat.mul_le_mul_right bytes hlen) hN) (by omega) hbase h
    intro j u hj
    have hjl := (List.getElem?_eq_some_iff.1 hj).1
    rw [flat_length he] at hjl
    have hne : ys ≠ [] := by rintro rfl; simp at hjl
    obtain ⟨b, off, hA, _, hc⟩ := hsl hne
    injection hA with hA; subst hA
    have hp := hE.pos
    have hq : j / size < ys.length := Nat.div_lt_of_lt_mul (by rw [Nat.mul_comm]; exact hjl)
    have hjd : j / size * size + j % size = j := by rw [Nat.mul_comm]; exact Nat.div_add_mod j size
    have hr := Nat.mod_lt j hp
    rw [← hjd, flat_get he ys _ _ hr, List.getElem?_eq_getElem hq] at hj
    have := hc (j / size) _ (List.getElem?_eq_getElem hq) (j % size) u hj
    rw [show ((⟨b, off, none⟩ : Addr).add j) = ⟨b, off + j, none⟩ by unfold Addr.add; split <;> simp_all]
    rw [show off + j / size * size + j % size = off + j by omega] at this
    exact this
theorem wpList_appS {ops : Array Oper} {rest : List Oper} {o : Oper} {a : Act} {Q : Exit → Act → World → Prop} (hgd : o.guard = none) (s x : Operand)
    (ho : o.op = .call { callee := .builtin .append, args := #[s, x], argTypes := #[t, t] })
    (hE : Elem P t e size bytes) (he : ∀ x, (enc x).length = size) (h1 : ∀ y, ∀ u ∈ enc y, u.oneCell' = true)
    {v : Value} {xs : List α} (hs : a.eval s = v) (hown : Own w B e enc size v xs)
    {A : Option Addr} {n c : Nat} (ys : List α) (hx : a.eval x = .slice A n c) (hn : n = ys.length) {F : Nat → Prop} (hsl : SlA w F enc size A ys)
    (N : Nat) (hlen : xs.length + ys.length ≤ N) (hN : N * bytes ≤ 140737488355328) (h63 : N ≤ maxLen) (hbase : B ≤ w.heap.size)
    (h : ∀ v' w', Own w' B e enc size v' (xs ++ ys) → w.grownBy w' v.ownBlock → (v'.ownBlock = v.ownBlock ∨ v'.ownBlock = some w.heap.size) → wpList P ops Q rest (a.put o.dst v') w') : wpList P ops Q (o :: rest) a w :=
  wpList_plain hgd fun _ hK => wp_appS s x ho hE he h1 hs hown ys hx hn hsl N hlen hN h63 hbase fun v' w' h2 h3 h4 => hK _ _ (h v' w' h2 h3 h4)
end
/-- A cut s[i:j]. -/
theorem run_cut {P : Program} {t e : TypeId} {size bytes : Nat} (hE : Elem P t e size bytes) (A : Option Addr) (n cap i j : Nat) (hij : i ≤ j) (hj : j ≤ cap) (w : World) :
    (Instr.slice t (.slice A n cap) (some (.int .i64 (i : Nat))) (some (.int .i64 (j : Nat))) none).run P w = .ok (.slice (cutA A cap i size) (j - i) (cap - i)) w := by
  obtain ⟨q, z, hq, hz, hz1, hz2, hz3⟩ := hE.info
  simp [Instr.slice, Instr.sliceBounds, Instr.sliceBound, asIntOf, run_underlying hE.ut, sizeOf, typeInfo, hq, hz1, cutA]
  rw [if_pos hj]
  simp
  intro h; omega
theorem SlA.cut_ {α : Type} {enc : α → List Value} {size : Nat} {w : World} {F : Nat → Prop} {A : Option Addr} {xs : List α} (h : SlA w F enc size A xs) {i j cap : Nat} (hij : i ≤ j) (hj : j ≤ xs.length) (hc : xs.length ≤ cap) :
    SlA w F enc size (cutA A cap i size) ((xs.drop i).take (j - i)) := h.cut hij hj hc
theorem Sl.step {α : Type} {enc : α → List Value} {size : Nat} {w w' : World} {F G S : Nat → Prop} {v : Value} {xs : List α} (h : Sl w F enc size v xs) (he : ∀ x, 0 < (enc x).length) (hm : Mod S w w') (hF : ∀ k, F k → ¬ S k) (hG : ∀ k, F k → k < w.heap.size → G k) : Sl w' G enc size v xs := by
  obtain ⟨A, cap, rfl, h1, h2, hs⟩ := h
  refine ⟨A, cap, rfl, h1, h2, fun hx => ?_⟩
  have hlt := fun b off hA => SlA.lt_ hs hx he (b := b) (off := off) hA
  obtain ⟨b, off, hA, hB, hc⟩ := hs hx
  exact ⟨b, off, hA, hG b hB (hlt b off hA), fun k x hk j u hu => hm.cell_some (hc k x hk j u hu) (hF b hB)⟩
end Go.Proofs.Ytnmnhnlebkebfaa
