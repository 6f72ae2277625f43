/- append of a slice that came in: nil, empty or not. No program in sight. -/
import Derived.Test.YtfdcopbbnmialaaBase
import Derived.Test.YtfdcopbbnmialaaV6
import Derived.Laws.MakeOwn
namespace Go.Proofs.Ytfdcopbbnmialaa
open Go.RowKit

section
variable {P : Program} {α : Type} {enc : α → List Value} {size bytes : Nat} {w : World} {B : Nat} {t e : TypeId} {v : Value} {xs ys : List α}
end
theorem Sl.step {α : Type} {enc : α → List Value} {size : Nat} {w w' : World} {F G S : Nat → Prop} {v : Value} {xs : List α} (h : Sl w F enc size v xs) (he : ∀ x, 0 < (enc x).length) (hm : Mod S w w') (hF : ∀ k, F k → ¬ S k) (hG : ∀ k, F k → k < w.heap.size → G k) : Sl w' G enc size v xs := by
  obtain ⟨A, cap, rfl, h1, h2, hs⟩ := h
  refine ⟨A, cap, rfl, h1, h2, fun hx => ?_⟩
  have hlt := fun b off hA => SlA.lt_ hs hx he (b := b) (off := off) hA
  obtain ⟨b, off, hA, hB, hc⟩ := hs hx
  exact ⟨b, off, hA, hG b hB (hlt b off hA), fun k x hk j u hu => hm.cell_some (hc k x hk j u hu) (hF b hB)⟩
end Go.Proofs.Ytfdcopbbnmialaa
namespace Go.Proofs.Ytfdcopbbnmialaa
open Go Go.RowKit

def setAll (arr : Array Value) : Nat → List Value → Array Value
  | _, [] => arr
  | o, v :: r => setAll (arr.setIfInBounds o v) (o + 1) r
theorem setAll_get : ∀ (vs : List Value) (arr : Array Value) (o i : Nat), o + vs.length ≤ arr.size → (setAll arr o vs)[i]? = if o ≤ i ∧ i < o + vs.length then vs[i - o]? else arr[i]?
  | [], arr, o, i, _ => by
    show arr[i]? = _
    rw [if_neg]; simp only [List.length_nil]; omega
  | v :: r, arr, o, i, h => by
    simp only [List.length_cons] at h ⊢
    show (setAll (arr.setIfInBounds o v) (o + 1) r)[i]? = _
    rw [setAll_get r _ (o + 1) i (by rw [Array.size_setIfInBounds]; omega)]
    by_cases h1 : o + 1 ≤ i ∧ i < o + 1 + r.length
    · rw [if_pos h1, if_pos (by omega), show i - o = (i - (o + 1)) + 1 by omega, List.getElem?_cons_succ]
    · rw [if_neg h1]
      by_cases h2 : i = o
      · subst h2
        rw [if_pos (by omega), Nat.sub_self, Array.getElem?_setIfInBounds, if_pos rfl, if_pos (by omega)]; rfl
      · rw [if_neg (by omega), Array.getElem?_setIfInBounds, if_neg (by omega)]
theorem Blk.setCells {g : Nat} {t : TypeId} : ∀ (vs : List Value) (o : Nat) {w : World} {arr : Array Value}, Blk w g t arr → Blk (w.setCells g o vs) g t (setAll arr o vs)
  | [], _, _, _, h => h
  | v :: r, o, _, _, h => Blk.setCells r (o + 1) (h.set_ o v)
theorem Mod.setCells {S : Nat → Prop} {a : World} {g : Nat} (hS : g < a.heap.size → S g) : ∀ (vs : List Value) (o : Nat) {w : World}, Mod S a w → Mod S a (w.setCells g o vs)
  | [], _, _, h => h
  | v :: r, o, _, h => Mod.setCells hS r (o + 1) (h.setCell hS v)
def AV.isVal : AV → Bool
  | .any | .tup _ => false
  | _ => true
section
variable {m : OM} {P : Program} {T : List (Nat × TI)} {C : Ctx} {S : St} {a : Act} {w : World} {ops : Array Oper} {l : List Oper} {K : St → Prop} {F : Nat → Prop}
mutual
theorem flatZ_rep : ∀ (z : AV) (cs : List Value), flatZ z = some cs → repC w F z cs
  | .b x, cs, h => by simp only [flatZ, Option.some.injEq] at h; subst h; simp only [repC]
  | .i k n, cs, h => by simp only [flatZ, Option.some.injEq] at h; subst h; simp only [repC]
  | .s [], cs, h => by simp only [flatZ, Option.some.injEq] at h; subst h; simp only [repC]; exact ⟨rfl, Nat.zero_le _⟩
  | .s (c :: r), cs, h => by simp [flatZ] at h
  | .nil, cs, h => by simp only [flatZ, Option.some.injEq] at h; subst h; simp only [repC]
  | .nilp, cs, h => by simp only [flatZ, Option.some.injEq] at h; subst h; simp only [repC]
  | .nilf, cs, h => by simp only [flatZ, Option.some.injEq] at h; subst h; simp only [repC]
  | .nili, cs, h => by simp only [flatZ, Option.some.injEq] at h; subst h; simp only [repC]
  | .agg fs, cs, h => by simp only [flatZ] at h; simp only [repC]; exact flatZs_rep fs cs h
  | .arr sz n xs, cs, h => by
    simp only [flatZ] at h
    split at h
    · rename_i hc
      simp only [repC]
      exact ⟨hc.1, flatZs_repA sz xs cs h (fun x hx => by have := List.all_eq_true.1 hc.2 x hx; simpa using this)⟩
    · cases h
  | .any, cs, h => by simp [flatZ] at h
  | .sl _ _, cs, h => by simp [flatZ] at h
  | .ptr _ _ _ _, cs, h => by simp [flatZ] at h
  | .own _ _, cs, h => by simp [flatZ] at h
  | .vw _ _ _ _ _ _ _, cs, h => by simp [flatZ] at h
  | .cp _, cs, h => by simp [flatZ] at h
  | .fn _ _, cs, h => by simp [flatZ] at h
  | .ifc _ _, cs, h => by simp [flatZ] at h
  | .tup _, cs, h => by simp [flatZ] at h
theorem flatZs_rep : ∀ (zs : List AV) (cs : List Value), flatZs zs = some cs → repL w F zs cs
  | [], cs, h => by simp only [flatZs, Option.some.injEq] at h; subst h; simp only [repL]
  | z :: zs, cs, h => by
    simp only [flatZs] at h
    cases h1 : flatZ z with
    | none => simp [h1] at h
    | some c1 => cases h2 : flatZs zs with
      | none => simp [h1, h2] at h
      | some c2 =>
        simp only [h1, h2, Option.some.injEq] at h
        subst h
        simp only [repL]
        exact ⟨c1, c2, rfl, flatZ_rep z c1 h1, flatZs_rep zs c2 h2⟩
theorem flatZs_repA (sz : Nat) : ∀ (zs : List AV) (cs : List Value), flatZs zs = some cs → (∀ x ∈ zs, sizeA x = sz) → repA w F sz zs cs
  | [], cs, h, _ => by simp only [flatZs, Option.some.injEq] at h; subst h; simp only [repA]
  | z :: zs, cs, h, hz => by
    simp only [flatZs] at h
    cases h1 : flatZ z with
    | none => simp [h1] at h
    | some c1 => cases h2 : flatZs zs with
      | none => simp [h1, h2] at h
      | some c2 =>
        simp only [h1, h2, Option.some.injEq] at h
        subst h
        have h3 := flatZ_rep z c1 h1
        simp only [repA]
        exact ⟨c1, c2, rfl, h3, by rw [repC_size z c1 h3]; exact hz z (by simp), flatZs_repA sz zs c2 h2 (fun x hx => hz x (by simp [hx]))⟩
end
theorem ofCells_cells {x : AV} {cs : List Value} (h : repC w F x cs) : (ofCells x cs).cells = cs.toArray := by
  cases hx : x.isAgg with
  | true => simp [ofCells, hx, Value.cells]
  | false =>
    obtain ⟨u, rfl⟩ := flat_one h hx
    have := repC_one x _ h u (by simp)
    simp only [ofCells, hx, Bool.false_eq_true, if_false, List.headD_cons]
    cases u <;> simp_all [Value.oneCell', Value.cells]
theorem repV_cells {x : AV} {v : Value} (hx : x.isVal = true) (h : repV w F x v) : ∃ cs, repC w F x cs ∧ v = ofCells x cs := by
  cases x <;> simp [AV.isVal] at hx <;> exact h
theorem oke_nil {m : OM} {d : Option Tmp} : m.oke d [] = true := by cases m <;> simp [OM.oke]
theorem Eff.new {S : St} {w w' : World} {k n : Nat} {sl : List (Nat × AV)} {x : HO} (hm : Mod None_ w w') (hb : ∀ b, b ∈ x.blk → w.heap.size ≤ b) : Eff S w ⟨n, sl, (k, x) :: S.heap⟩ w' [] :=
  ⟨hm.mono (fun _ _ h => h.elim), fun tk _ b hlt ⟨p, hp, hk, hpb⟩ => by
    rcases List.mem_cons.1 hp with rfl | hp
    · have := hb b hpb; omega
    · exact ⟨p, hp, hk, hpb⟩⟩
theorem Eff.same {S : St} {w w' : World} {n : Nat} {sl : List (Nat × AV)} (hm : Mod None_ w w') : Eff S w ⟨n, sl, S.heap⟩ w' [] :=
  ⟨hm.mono (fun _ _ h => h.elim), fun _ _ _ _ h => h⟩
theorem Eff.swap {S : St} {w w' : World} {k n : Nat} {sl : List (Nat × AV)} {x y : HO} (hg : hget S.heap k = some x) (hm : Mod (fun b => b ∈ x.blk) w w') (hb : ∀ b, b ∈ y.blk → b ∈ x.blk ∨ w.heap.size ≤ b) : Eff S w ⟨n, sl, hset S.heap k y⟩ w' [k] := by
  obtain ⟨pre, post, e1⟩ := hget_key hg
  have hin : (k, x) ∈ S.heap := by rw [e1]; simp
  refine ⟨hm.mono (fun b _ h => ⟨(k, x), hin, by simp, h⟩), fun tk hk b hlt ⟨p, hp, hpk, hpb⟩ => ?_⟩
  have hsub : ∀ (H : List (Nat × HO)) p, p ∈ hset H k y → p ∈ H ∨ (p = (k, y)) := by
    intro H
    induction H with
    | nil => intro p hp; simp [hset] at hp
    | cons q r ih =>
      obtain ⟨q1, q2⟩ := q
      intro p hp
      unfold hset at hp
      cases hbq : Nat.beq q1 k with
      | true =>
        rw [hbq] at hp
        have := Nat.eq_of_beq_eq_true hbq
        subst this
        rcases List.mem_cons.1 hp with rfl | hp
        · exact .inr rfl
        · exact .inl (List.mem_cons_of_mem _ hp)
      | false =>
        rw [hbq] at hp
        rcases List.mem_cons.1 hp with rfl | hp
        · exact .inl (by simp)
        · rcases ih p hp with h | h
          · exact .inl (List.mem_cons_of_mem _ h)
          · exact .inr h
  rcases hsub _ p hp with h | rfl
  · exact ⟨p, h, hpk, hpb⟩
  · rcases hb b hpb with h | h
    · exact ⟨(k, x), hin, hpk, h⟩
    · omega
theorem Sat.newVar (hs : Sat C S a w) (k : Nat) (x : AV) (cs : List Value) (t : TypeId) (hx : repC w (Fz C S.heap w) x cs) :
    Sat C ⟨S.n, S.slots, (k, .var w.heap.size x) :: S.heap⟩ a (w.alloc (.cells cs.toArray t)) := by
  have hm : Mod None_ w (w.alloc (.cells cs.toArray t)) := (Mod.refl _ w).alloc _
  refine hs.new k _ hm ⟨t, cs.toArray, Blk.new w t _, ?_⟩ (fun b hb => ?_)
  · refine hs.keepC hm (fun _ _ hf => hf.elim) (fun b hin => ?_) _ _ (by simpa using hx)
    rw [blks_cons] at hin
    rcases List.mem_append.1 hin with h1 | h1
    · have : b = w.heap.size := by simp [HO.blk] at h1; exact h1
      subst this
      exact ⟨by simp, .inr (Nat.le_refl _)⟩
    · exact ⟨Nat.lt_of_lt_of_le (hs.lt b h1).1 hm.size, .inl h1⟩
  · have : w.heap.size = b := (List.mem_singleton.1 hb).symm
    subst this
    simp
theorem Ops.alloc (hT : TTOk P T) {d : Nat} {ty : Nat} {pos : String} {aft : Array Edge} {gd : Option (Nat × Bool)} (hw : gval ops S gd = gwant gd) {t : Nat} {k : TK} {sz by_ : Nat} {z : AV} (ht : tget T t = some ⟨k, sz, by_, z⟩) (hz : z.isVal = true)
    (hd : Nat.blt d S.n = true) (h : ∀ b, Ops m P C ops l ⟨S.n, (d, .ptr d b [] 0) :: S.slots, (d, .var b z) :: S.heap⟩ K) : Ops m P C ops (⟨some d, .alloc t, ty, pos, aft, gd⟩ :: l) S K := by
  refine Ops.eff hw [] oke_nil rfl fun a w hs => ?_
  rcases (tget_ok hT ht).zero with h0 | ⟨cs, h1, h2⟩
  · have h0 : z = .any := h0
    rw [h0] at hz; cases hz
  · have hrep : ∀ {w F}, repC w F z cs := fun {w F} => flatZ_rep z cs h1
    cases hi : P.info? t with
    | none => rw [hi] at h2; cases h2
    | some i =>
      rw [hi] at h2
      have hz2 : i.zero = some (ofCells z cs) := h2
      refine ⟨.pointer (some ⟨w.heap.size, 0, none⟩), w.alloc (.cells cs.toArray t), _, .ptr d w.heap.size [] 0, ?_, hs.newVar d z cs t hrep, hd, repV_ptr.2 rfl, Eff.new ((Mod.refl _ w).alloc _) (fun b hb => Nat.le_of_eq (List.mem_singleton.1 hb).symm), h _⟩
      have hcells := ofCells_cells (w := w) (F := fun _ => True) (hrep (w := w))
      simp [execOp, Instr.alloc, zeroValue, typeInfo, hi, hz2, newVar, newRow, newObj, Sem.run, hcells]
theorem Ops.box {d : Nat} {ty : Nat} {pos : String} {aft : Array Edge} {gd : Option (Nat × Bool)} (hw : gval ops S gd = gwant gd) {t : Nat} {x : Operand} (hx : (ev S x).isVal = true)
    (hd : Nat.blt d S.n = true) (h : ∀ b, Ops m P C ops l ⟨S.n, (d, .ptr d b [] 0) :: S.slots, (d, .var b (ev S x)) :: S.heap⟩ K) : Ops m P C ops (⟨some d, .box t x, ty, pos, aft, gd⟩ :: l) S K := by
  refine Ops.eff hw [] oke_nil rfl fun a w hs => ?_
  obtain ⟨cs, hc, hv⟩ := repV_cells hx (ev_rep hs x)
  refine ⟨.pointer (some ⟨w.heap.size, 0, none⟩), w.alloc (.cells cs.toArray t), _, .ptr d w.heap.size [] 0, ?_, hs.newVar d _ cs t hc, hd, repV_ptr.2 rfl, Eff.new ((Mod.refl _ w).alloc _) (fun b hb => by
    have : w.heap.size = b := (List.mem_singleton.1 hb).symm
    omega), h _⟩
  have hcells := ofCells_cells hc
  simp [execOp, Instr.box, hv, newVar, newRow, newObj, Sem.run, hcells]
theorem setCells_eq (w : World) {g : Nat} {t : TypeId} {arr : Array Value} (o : Nat) (vs : List Value) (hb : Blk w g t arr) (ho : o + vs.length ≤ arr.size) :
    Blk (w.setCells g o vs) g t (arr.toList.take o ++ vs ++ arr.toList.drop (o + vs.length)).toArray := by
  have h1 := Blk.setCells vs o hb
  have : setAll arr o vs = (arr.toList.take o ++ vs ++ arr.toList.drop (o + vs.length)).toArray := by
    apply Array.ext_getElem?
    intro i
    rw [setAll_get vs arr o i ho, show (arr.toList.take o ++ vs ++ arr.toList.drop (o + vs.length)).toArray[i]? = (arr.toList.take o ++ vs ++ arr.toList.drop (o + vs.length))[i]? from List.getElem?_toArray]
    have hl : (arr.toList.take o).length = o := by rw [List.length_take, Array.length_toList]; omega
    by_cases h2 : o ≤ i ∧ i < o + vs.length
    · rw [if_pos h2, List.append_assoc, List.getElem?_append_right (by omega), hl, List.getElem?_append_left (by omega)]
    · rw [if_neg h2]
      by_cases h3 : i < o
      · rw [List.append_assoc, List.getElem?_append_left (by omega), List.getElem?_take, if_pos h3, Array.getElem?_toList]
      · rw [List.getElem?_append_right (by rw [List.length_append, hl]; omega), List.getElem?_drop, List.length_append, hl, Array.getElem?_toList]
        congr 1; omega
  rw [this] at h1
  exact h1
theorem storeAt_run {t : Nat} {ti : TI} (h : TOk P t ti) {y : AV} (hf : fits ti y) {ys : List Value} (hy : repC w F y ys) {b o : Nat} (ht : w.there b o ys.length) :
    (Instr.storeAt t (.pointer (some ⟨b, o, none⟩)) (ofCells y ys)).run P w = .ok () (w.setCells b o ys) := by
  have hcells := ofCells_cells hy
  have hsz := repC_size y ys hy
  have := run_storeCells_cells (P := P) b o ys 0 w (fun j hj => (ht j hj).1) (fun j hj => (ht j hj).2) (repC_one y ys hy)
  simp only [Nat.add_zero] at this
  simp only [Instr.storeAt, Instr.sureAddr, Sem.run_bind, Sem.run_pure, Result.andThen_ok, storeVar, h.sizeRun, hcells]
  rw [if_neg (by simp [hsz, hf.1])]
  exact this
theorem there_blk {g : Nat} {t : TypeId} {arr : Array Value} (hb : Blk w g t arr) {o n : Nat} (h : o + n ≤ arr.size) : w.there g o n := by
  intro j hj
  refine ⟨?_, hb.frozen _⟩
  rw [hb.cell, Array.getElem?_eq_getElem (by omega)]; rfl
/-- A store into a variable, or into a part of it. -/
theorem Ops.store (hT : TTOk P T) {ty : Nat} {pos : String} {aft : Array Edge} {gd : Option (Nat × Bool)} (hw : gval ops S gd = gwant gd) {t : Nat} {x y : Operand} {key b off o : Nat} {path : List Nat} {c old : AV} {ti : TI}
    (hx : ev S x = .ptr key b path off) (ht : tget T t = some ti) (hg : hget S.heap key = some (.var b c)) (hsub : subAt path c = some (o, old)) (ho : o = off) (hf : fits ti (ev S y)) (hold : sizeA old = ti.sz) (hy : (ev S y).isVal = true) (hm : m.oke none [key] = true)
    (h : Ops m P C ops l ⟨S.n, S.slots, hset S.heap key (.var b (updAt path c (ev S y)))⟩ K) : Ops m P C ops (⟨none, .store t x y, ty, pos, aft, gd⟩ :: l) S K := by
  subst ho
  refine Ops.effS hw [key] hm rfl fun a w hs => ?_
  have Ex := ev_rep hs x
  rw [hx, repV_ptr] at Ex
  obtain ⟨ys, hc, hv⟩ := repV_cells hy (ev_rep hs y)
  obtain ⟨t2, cs, hb, hcs⟩ := hs.getHeap hg
  obtain ⟨pre, mid, post, e1, e2, e3, e4⟩ := sub_split path c _ o old hcs hsub
  have hl : ys.length = mid.length := by rw [repC_size _ _ hc, repC_size _ _ e3, hold, hf.1]
  have hcl : cs.toList.length = pre.length + mid.length + post.length := by rw [e1]; simp; omega
  rw [Array.length_toList] at hcl
  have hle : o + ys.length ≤ cs.size := by omega
  have hm0 : Mod (fun b' => b' ∈ HO.blk (.var b c)) w (w.setCells b o ys) := Mod.setCells (S := fun b' => b' ∈ HO.blk (.var b c)) (fun _ => List.mem_singleton.2 rfl) ys o (Mod.refl _ w)
  refine ⟨w.setCells b o ys, ⟨S.n, S.slots, hset S.heap key (.var b (updAt path c (ev S y)))⟩, ?_, ?_, Eff.swap hg hm0 (fun _ h => .inl h), h⟩
  · have := storeAt_run (P := P) (tget_ok hT ht) hf hc (b := b) (o := o) (there_blk hb hle)
    simp only [execOp, Ex, hv, Sem.run_bind, this, Result.andThen_ok, Sem.run_pure]
  · have hm : Mod (fun b' => b' ∈ HO.blk (.var b c)) w (w.setCells b o ys) := Mod.setCells (S := fun b' => b' ∈ HO.blk (.var b c)) (fun _ => List.mem_singleton.2 rfl) ys o (Mod.refl _ w)
    have hlt := (hs.lt b (blk_mem hg (List.mem_singleton.2 rfl))).1
    refine hs.swap hg (.var b (updAt path c (ev S y))) hm ⟨t2, _, setCells_eq w o ys hb hle, ?_⟩ (fun b' hb' => ?_)
    · have h5 := e4 (ev S y) ys hc hl
      have hq : pre ++ ys ++ post = cs.toList.take o ++ ys ++ cs.toList.drop (o + ys.length) := by
        rw [e1, ← e2, List.append_assoc pre mid post, List.take_left, hl, ← List.append_assoc pre mid post, ← List.length_append, List.drop_left]
      rw [hq] at h5
      have hF : ∀ b', Fz C S.heap w b' → Fz C (hset S.heap key (.var b (updAt path c (ev S y)))) (w.setCells b o ys) b' := fun b' hb' =>
        ⟨Nat.lt_of_lt_of_le hb'.1 hm.size, by rw [blks_hset hg (.var b (updAt path c (ev S y))) rfl]; exact hb'.2.1, hb'.2.2⟩
      have hW : ∀ b', Fz C S.heap w b' → (w.setCells b o ys).heap[b']? = w.heap[b']? := fun b' hb' => hm.block b' hb'.1 (fun he => hb'.2.1 (blk_mem hg he))
      exact repC_mono hF hW _ _ (by simpa using h5)
    · have : b = b' := (List.mem_singleton.1 hb').symm
      subst this
      exact ⟨by have := hm.size; omega, .inl (List.mem_singleton.2 rfl)⟩
end
end Go.Proofs.Ytfdcopbbnmialaa
