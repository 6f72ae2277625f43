/- A struct of many cells copied into a new block. -/
import Derived.Test.YtcnkmfmdadmaaaaWLabel
import Derived.Deep.MidRow
namespace Go.Proofs.Ytcnkmfmdadmaaaa
open Go.RowKit
def setAll (arr : Array Value) : Nat → List Value → Array Value
  | _, [] => arr
  | o, v :: r => setAll (arr.setIfInBounds o v) (o + 1) r
theorem setAll_get : ∀ (vs : List Value) (arr : Array Value) (o i : Nat), o + vs.length ≤ arr.size → (setAll arr o vs)[i]? = if o ≤ i ∧ i < o + vs.length then vs[i - o]? else arr[i]?
  | [], arr, o, i, _ => by
    show arr[i]? = _
    rw [if_neg]; simp only [List.length_nil]; omega
  | v :: r, arr, o, i, h => by
    simp only [List.length_cons] at h ⊢
    show (setAll (arr.setIfInBounds o v) (o + 1) r)[i]? = _
    rw [setAll_get r _ (o + 1) i (by rw [Array.size_setIfInBounds]; omega)]
    by_cases h1 : o + 1 ≤ i ∧ i < o + 1 + r.length
    · rw [if_pos h1, if_pos (by omega), show i - o = (i - (o + 1)) + 1 by omega, List.getElem?_cons_succ]
    · rw [if_neg h1]
      by_cases h2 : i = o
      · subst h2
        rw [if_pos (by omega), Nat.sub_self, Array.getElem?_setIfInBounds, if_pos rfl, if_pos (by omega)]; rfl
      · rw [if_neg (by omega), Array.getElem?_setIfInBounds, if_neg (by omega)]
theorem setAll_all (vs : List Value) (arr : Array Value) (h : arr.size = vs.length) : setAll arr 0 vs = vs.toArray := by
  apply Array.ext_getElem?
  intro i
  rw [setAll_get vs arr 0 i (by omega)]
  by_cases hi : i < vs.length
  · rw [if_pos (by omega), Nat.sub_zero, List.getElem?_toArray]
  · rw [if_neg (by omega), Array.getElem?_eq_none (by omega), List.getElem?_toArray, List.getElem?_eq_none (by omega)]
theorem Blk.setCells {g : Nat} {t : TypeId} : ∀ (vs : List Value) (o : Nat) {w : World} {arr : Array Value}, Blk w g t arr → Blk (w.setCells g o vs) g t (setAll arr o vs)
  | [], _, _, _, h => h
  | v :: r, o, _, _, h => Blk.setCells r (o + 1) (h.set_ o v)
theorem Mod.setCells {S : Nat → Prop} {a : World} {g : Nat} (hS : g < a.heap.size → S g) : ∀ (vs : List Value) (o : Nat) {w : World}, Mod S a w → Mod S a (w.setCells g o vs)
  | [], _, _, h => h
  | v :: r, o, _, h => Mod.setCells hS r (o + 1) (h.setCell hS v)
/-- A new block, then a whole value stored into it. -/
theorem alloc_set (w : World) (t : TypeId) (z : Array Value) (vs : List Value) (h : z.size = vs.length) :
    Blk ((w.alloc (.cells z t)).setCells w.heap.size 0 vs) w.heap.size t vs.toArray ∧ Below w.heap.size w ((w.alloc (.cells z t)).setCells w.heap.size 0 vs) := by
  have h1 := Blk.setCells vs 0 (Blk.new w t z)
  rw [setAll_all vs z h] at h1
  refine ⟨h1, ?_⟩
  have h2 : Mod None_ w ((w.alloc (.cells z t)).setCells w.heap.size 0 vs) := Mod.setCells (fun h => absurd h (Nat.lt_irrefl _)) vs 0 ((Mod.refl _ w).alloc _)
  exact h2.to_below (fun _ _ h => h) (Nat.le_refl _)
theorem there_new (w : World) (t : TypeId) (z : Array Value) : (w.alloc (.cells z t)).there w.heap.size 0 z.size := by
  intro j hj
  rw [Nat.zero_add]
  refine ⟨?_, (Blk.new w t z).frozen j⟩
  rw [(Blk.new w t z).cell j, Array.getElem?_eq_getElem hj]; rfl
theorem SlA.range {α : Type} {enc : α → List Value} {size : Nat} {w : World} {F : Nat → Prop} {A : Option Addr} {xs : List α} (h : SlA w F enc size A xs) {k : Nat} (hk : k < xs.length) :
    ∃ b off, A = some ⟨b, off, none⟩ ∧ F b ∧ w.rangeAt b (off + k * size) (enc xs[k]) := by
  obtain ⟨b, off, h1, h2, h3⟩ := h.at_ hk
  exact ⟨b, off, h1, h2, fun j u hu => h3 j u hu⟩
theorem Blk.range {w : World} {g : Nat} {t : TypeId} {cs : List Value} (h : Blk w g t cs.toArray) (o : Nat) (vs : List Value) (hv : ∀ j u, vs[j]? = some u → cs[o + j]? = some u) : w.rangeAt g o vs := by
  intro j u hu
  rw [h.cell, List.getElem?_toArray]
  exact hv j u hu
theorem wpList_store_new {P : Program} {ops : Array Oper} {rest : List Oper} {o : Oper} {a : Act} {w : World} {Q : Exit → Act → World → Prop} (hgd : o.guard = none) (ty : TypeId) (x y : Operand) (ho : o.op = .store ty x y)
    (g : Nat) (vs : List Value) (hx : a.eval x = .pointer (some ⟨g, 0, none⟩)) (hy : a.eval y = .agg vs.toArray) {z : Array Value} {t : TypeId} (hblk : Blk w g t z) (hz : z.size = vs.length)
    (hi : (P.info? ty).map (·.size) = some vs.length) (h1 : ∀ v ∈ vs, v.oneCell' = true) {w0 : World} {B : Nat} (hb : Below B w0 w) (hB : B ≤ g)
    (h : ∀ w', Blk w' g t vs.toArray → Below B w0 w' → wpList P ops Q rest (a.put o.dst undef) w') : wpList P ops Q (o :: rest) a w := by
  refine wpList_store_mid hgd ty x y ho g 0 vs.toArray hx hy ?_ (by rw [hi, List.size_toArray]) (all_oneCell_toArray h1) ?_
  · intro j hj
    rw [List.size_toArray] at hj
    rw [Nat.zero_add]
    refine ⟨?_, hblk.frozen j⟩
    rw [hblk.cell j, Array.getElem?_eq_getElem (by omega)]; rfl
  · have hb2 := Blk.setCells vs 0 hblk
    rw [setAll_all vs z hz] at hb2
    have hm : Mod (fun k => k = g) w (w.setCells g 0 vs) := Mod.setCells (S := fun k => k = g) (fun _ => rfl) vs 0 (Mod.refl _ w)
    exact h _ hb2 (hb.trans (hm.to_below (fun k hk h => by omega) (Nat.le_trans hB (Nat.le_of_lt hblk.lt))))
theorem wpList_strAdd {ops : Array Oper} {rest : List Oper} {o : Oper} {a : Act} {w : World} {Q : Exit → Act → World → Prop} (hgd : o.guard = none) (t t' : TypeId) (x y : Operand) (ho : o.op = .binOp .add t x y t')
    (l m : List UInt8) (hx : a.eval x = .string (bytesOf l)) (hy : a.eval y = .string (bytesOf m)) (h1 : l.length ≤ 4000000) (h2 : m.length ≤ 4000000)
    (h : wpList Try.prog ops Q rest (a.put o.dst (.string (bytesOf (l ++ m)))) w) : wpList Try.prog ops Q (o :: rest) a w := by
  refine wpList_plain hgd fun K hK => ?_
  have hr := run_string_add (P := Try.prog) w (bytesOf l) (bytesOf m) (by rw [bytesOf_size]; omega) (by rw [bytesOf_size]; omega)
  rw [bytesOf_app] at hr
  unfold Oper.wp execOp
  simp only [ho, hx, hy, binOp_string_add, eqGuard_add, Sem.run_bind, Sem.run_pure, hr, Result.andThen_ok]
  exact hK _ _ h
end Go.Proofs.Ytcnkmfmdadmaaaa
