/- append of a slice that came in: nil, empty or not. No program in sight. -/
import Derived.Test.YtcmgpkibjdbonaaGreatV1Z
import Derived.Test.YtcmgpkibjdbonaaGreatV6
import Derived.Laws.MakeOwn
import Derived.Deep.LoopGhost
namespace Go.Proofs.YtcmgpkibjdbonaaGreat
open Go.RowKit

section
variable {P : Program} {α : Type} {enc : α → List Value} {size bytes : Nat} {w : World} {B : Nat} {t e : TypeId} {v : Value} {xs ys : List α}
end
theorem Sl.step {α : Type} {enc : α → List Value} {size : Nat} {w w' : World} {F G S : Nat → Prop} {v : Value} {xs : List α} (h : Sl w F enc size v xs) (he : ∀ x, 0 < (enc x).length) (hm : Mod S w w') (hF : ∀ k, F k → ¬ S k) (hG : ∀ k, F k → k < w.heap.size → G k) : Sl w' G enc size v xs := by
  obtain ⟨A, cap, rfl, h1, h2, hs⟩ := h
  refine ⟨A, cap, rfl, h1, h2, fun hx => ?_⟩
  have hlt := fun b off hA => SlA.lt_ hs hx he (b := b) (off := off) hA
  obtain ⟨b, off, hA, hB, hc⟩ := hs hx
  exact ⟨b, off, hA, hG b hB (hlt b off hA), fun k x hk j u hu => hm.cell_some (hc k x hk j u hu) (hF b hB)⟩
end Go.Proofs.YtcmgpkibjdbonaaGreat
namespace Go.Proofs.YtcmgpkibjdbonaaGreat
open Go Go.RowKit

def setAll (arr : Array Value) : Nat → List Value → Array Value
  | _, [] => arr
  | o, v :: r => setAll (arr.setIfInBounds o v) (o + 1) r
theorem setAll_get : ∀ (vs : List Value) (arr : Array Value) (o i : Nat), o + vs.length ≤ arr.size → (setAll arr o vs)[i]? = if o ≤ i ∧ i < o + vs.length then vs[i - o]? else arr[i]?
  | [], arr, o, i, _ => by
    show arr[i]? = _
    rw [if_neg]; simp only [List.length_nil]; omega
  | v :: r, arr, o, i, h => by
    simp only [List.length_cons] at h ⊢
    show (setAll (arr.setIfInBounds o v) (o + 1) r)[i]? = _
    rw [setAll_get r _ (o + 1) i (by rw [Array.size_setIfInBounds]; omega)]
    by_cases h1 : o + 1 ≤ i ∧ i < o + 1 + r.length
    · rw [if_pos h1, if_pos (by omega), show i - o = (i - (o + 1)) + 1 by omega, List.getElem?_cons_succ]
    · rw [if_neg h1]
      by_cases h2 : i = o
      · subst h2
        rw [if_pos (by omega), Nat.sub_self, Array.getElem?_setIfInBounds, if_pos rfl, if_pos (by omega)]; rfl
      · rw [if_neg (by omega), Array.getElem?_setIfInBounds, if_neg (by omega)]
theorem Blk.setCells {g : Nat} {t : TypeId} : ∀ (vs : List Value) (o : Nat) {w : World} {arr : Array Value}, Blk w g t arr → Blk (w.setCells g o vs) g t (setAll arr o vs)
  | [], _, _, _, h => h
  | v :: r, o, _, _, h => Blk.setCells r (o + 1) (h.set_ o v)
theorem Mod.setCells {S : Nat → Prop} {a : World} {g : Nat} (hS : g < a.heap.size → S g) : ∀ (vs : List Value) (o : Nat) {w : World}, Mod S a w → Mod S a (w.setCells g o vs)
  | [], _, _, h => h
  | v :: r, o, _, h => Mod.setCells hS r (o + 1) (h.setCell hS v)
def AV.isVal : AV → Bool
  | .any | .tup _ => false
  | _ => true
section
variable {m : OM} {P : Program} {T : List (Nat × TI)} {C : Ctx} {S : St} {a : Act} {w : World} {ops : Array Oper} {l : List Oper} {K : St → Prop} {F : Nat → Prop}
mutual
theorem flatZ_rep : ∀ (z : AV) (cs : List Value), flatZ z = some cs → repC w F z cs
  | .b x, cs, h => by simp only [flatZ, Option.some.injEq] at h; subst h; simp only [repC]
  | .i k n, cs, h => by simp only [flatZ, Option.some.injEq] at h; subst h; simp only [repC]
  | .s [], cs, h => by simp only [flatZ, Option.some.injEq] at h; subst h; simp only [repC]; exact ⟨rfl, Nat.zero_le _⟩
  | .s (c :: r), cs, h => by simp [flatZ] at h
  | .nil, cs, h => by simp only [flatZ, Option.some.injEq] at h; subst h; simp only [repC]
  | .nilp, cs, h => by simp only [flatZ, Option.some.injEq] at h; subst h; simp only [repC]
  | .nilf, cs, h => by simp only [flatZ, Option.some.injEq] at h; subst h; simp only [repC]
  | .nili, cs, h => by simp only [flatZ, Option.some.injEq] at h; subst h; simp only [repC]
  | .agg fs, cs, h => by simp only [flatZ] at h; simp only [repC]; exact flatZs_rep fs cs h
  | .arr sz n xs, cs, h => by
    simp only [flatZ] at h
    split at h
    · rename_i hc
      simp only [repC]
      exact ⟨hc.1, flatZs_repA sz xs cs h (fun x hx => by have := List.all_eq_true.1 hc.2 x hx; simpa using this)⟩
    · cases h
  | .any, cs, h => by simp [flatZ] at h
  | .sl _ _, cs, h => by simp [flatZ] at h
  | .ptr _ _ _ _, cs, h => by simp [flatZ] at h
  | .own _ _, cs, h => by simp [flatZ] at h
  | .vw _ _ _ _ _ _ _, cs, h => by simp [flatZ] at h
  | .cp _, cs, h => by simp [flatZ] at h
  | .fn _ _, cs, h => by simp [flatZ] at h
  | .ifc _ _, cs, h => by simp [flatZ] at h
  | .tup _, cs, h => by simp [flatZ] at h
theorem flatZs_rep : ∀ (zs : List AV) (cs : List Value), flatZs zs = some cs → repL w F zs cs
  | [], cs, h => by simp only [flatZs, Option.some.injEq] at h; subst h; simp only [repL]
  | z :: zs, cs, h => by
    simp only [flatZs] at h
    cases h1 : flatZ z with
    | none => simp [h1] at h
    | some c1 => cases h2 : flatZs zs with
      | none => simp [h1, h2] at h
      | some c2 =>
        simp only [h1, h2, Option.some.injEq] at h
        subst h
        simp only [repL]
        exact ⟨c1, c2, rfl, flatZ_rep z c1 h1, flatZs_rep zs c2 h2⟩
theorem flatZs_repA (sz : Nat) : ∀ (zs : List AV) (cs : List Value), flatZs zs = some cs → (∀ x ∈ zs, sizeA x = sz) → repA w F sz zs cs
  | [], cs, h, _ => by simp only [flatZs, Option.some.injEq] at h; subst h; simp only [repA]
  | z :: zs, cs, h, hz => by
    simp only [flatZs] at h
    cases h1 : flatZ z with
    | none => simp [h1] at h
    | some c1 => cases h2 : flatZs zs with
      | none => simp [h1, h2] at h
      | some c2 =>
        simp only [h1, h2, Option.some.injEq] at h
        subst h
        have h3 := flatZ_rep z c1 h1
        simp only [repA]
        exact ⟨c1, c2, rfl, h3, by rw [repC_size z c1 h3]; exact hz z (by simp), flatZs_repA sz zs c2 h2 (fun x hx => hz x (by simp [hx]))⟩
end
theorem ofCells_cells {x : AV} {cs : List Value} (h : repC w F x cs) : (ofCells x cs).cells = cs.toArray := by
  cases hx : x.isAgg with
  | true => simp [ofCells, hx, Value.cells]
  | false =>
    obtain ⟨u, rfl⟩ := flat_one h hx
    have := repC_one x _ h u (by simp)
    simp only [ofCells, hx, Bool.false_eq_true, if_false, List.headD_cons]
    cases u <;> simp_all [Value.oneCell', Value.cells]
theorem repV_cells {x : AV} {v : Value} (hx : x.isVal = true) (h : repV w F x v) : ∃ cs, repC w F x cs ∧ v = ofCells x cs := by
  cases x <;> simp [AV.isVal] at hx <;> exact h
theorem oke_nil {m : OM} {d : Option Tmp} : m.oke d [] = true := by cases m <;> simp [OM.oke]
theorem Eff.new {S : St} {w w' : World} {k n : Nat} {sl : List (Nat × AV)} {x : HO} (hm : Mod None_ w w') (hb : ∀ b, x.blk = some b → w.heap.size ≤ b) : Eff S w ⟨n, sl, (k, x) :: S.heap⟩ w' [] :=
  ⟨hm.mono (fun _ _ h => h.elim), fun tk _ b hlt ⟨p, hp, hk, hpb⟩ => by
    rcases List.mem_cons.1 hp with rfl | hp
    · have := hb b hpb; omega
    · exact ⟨p, hp, hk, hpb⟩⟩
theorem Eff.same {S : St} {w w' : World} {n : Nat} {sl : List (Nat × AV)} (hm : Mod None_ w w') : Eff S w ⟨n, sl, S.heap⟩ w' [] :=
  ⟨hm.mono (fun _ _ h => h.elim), fun _ _ _ _ h => h⟩
theorem Eff.swap {S : St} {w w' : World} {k n : Nat} {sl : List (Nat × AV)} {x y : HO} (hg : hget S.heap k = some x) (hm : Mod (fun b => x.blk = some b) w w') (hb : ∀ b, y.blk = some b → x.blk = some b ∨ w.heap.size ≤ b) : Eff S w ⟨n, sl, hset S.heap k y⟩ w' [k] := by
  obtain ⟨pre, post, e1⟩ := hget_key hg
  have hin : (k, x) ∈ S.heap := by rw [e1]; simp
  refine ⟨hm.mono (fun b _ h => ⟨(k, x), hin, by simp, h⟩), fun tk hk b hlt ⟨p, hp, hpk, hpb⟩ => ?_⟩
  have hsub : ∀ (H : List (Nat × HO)) p, p ∈ hset H k y → p ∈ H ∨ (p = (k, y)) := by
    intro H
    induction H with
    | nil => intro p hp; simp [hset] at hp
    | cons q r ih =>
      obtain ⟨q1, q2⟩ := q
      intro p hp
      unfold hset at hp
      cases hbq : Nat.beq q1 k with
      | true =>
        rw [hbq] at hp
        have := Nat.eq_of_beq_eq_true hbq
        subst this
        rcases List.mem_cons.1 hp with rfl | hp
        · exact .inr rfl
        · exact .inl (List.mem_cons_of_mem _ hp)
      | false =>
        rw [hbq] at hp
        rcases List.mem_cons.1 hp with rfl | hp
        · exact .inl (by simp)
        · rcases ih p hp with h | h
          · exact .inl (List.mem_cons_of_mem _ h)
          · exact .inr h
  rcases hsub _ p hp with h | rfl
  · exact ⟨p, h, hpk, hpb⟩
  · rcases hb b hpb with h | h
    · exact ⟨(k, x), hin, hpk, h⟩
    · omega
theorem Sat.newVar (hs : Sat C S a w) (k : Nat) (x : AV) (cs : List Value) (t : TypeId) (hx : repC w (Fz C S.heap w) x cs) :
    Sat C ⟨S.n, S.slots, (k, .var w.heap.size x) :: S.heap⟩ a (w.alloc (.cells cs.toArray t)) := by
  have hm : Mod None_ w (w.alloc (.cells cs.toArray t)) := (Mod.refl _ w).alloc _
  refine hs.new k _ hm ⟨t, cs.toArray, Blk.new w t _, ?_⟩ (fun b hb => ?_)
  · refine hs.keepC hm (fun _ _ hf => hf.elim) (fun b hin => ?_) _ _ (by simpa using hx)
    rw [blks_cons] at hin
    rcases List.mem_append.1 hin with h1 | h1
    · have : b = w.heap.size := by simp [HO.blk] at h1; exact h1
      subst this
      exact ⟨by simp, .inr (Nat.le_refl _)⟩
    · exact ⟨Nat.lt_of_lt_of_le (hs.lt b h1).1 hm.size, .inl h1⟩
  · have : w.heap.size = b := by simpa [HO.blk] using hb
    subst this
    simp
theorem Ops.alloc (hT : TTOk P T) {d : Nat} {ty : Nat} {pos : String} {aft : Array Edge} {gd : Option (Nat × Bool)} (hw : gval ops S gd = gwant gd) {t : Nat} {k : TK} {sz by_ : Nat} {z : AV} (ht : tget T t = some ⟨k, sz, by_, z⟩) (hz : z.isVal = true)
    (hd : Nat.blt d S.n = true) (h : ∀ b, Ops m P C ops l ⟨S.n, (d, .ptr d b [] 0) :: S.slots, (d, .var b z) :: S.heap⟩ K) : Ops m P C ops (⟨some d, .alloc t, ty, pos, aft, gd⟩ :: l) S K := by
  refine Ops.eff hw [] oke_nil rfl fun a w hs => ?_
  rcases (tget_ok hT ht).zero with h0 | ⟨cs, h1, h2⟩
  · have h0 : z = .any := h0
    rw [h0] at hz; cases hz
  · have hrep : ∀ {w F}, repC w F z cs := fun {w F} => flatZ_rep z cs h1
    cases hi : P.info? t with
    | none => rw [hi] at h2; cases h2
    | some i =>
      rw [hi] at h2
      have hz2 : i.zero = some (ofCells z cs) := h2
      refine ⟨.pointer (some ⟨w.heap.size, 0, none⟩), w.alloc (.cells cs.toArray t), _, .ptr d w.heap.size [] 0, ?_, hs.newVar d z cs t hrep, hd, repV_ptr.2 rfl, Eff.new ((Mod.refl _ w).alloc _) (fun b hb => Nat.le_of_eq (by simpa [HO.blk] using hb)), h _⟩
      have hcells := ofCells_cells (w := w) (F := fun _ => True) (hrep (w := w))
      simp [execOp, Instr.alloc, zeroValue, typeInfo, hi, hz2, newVar, newRow, newObj, Sem.run, hcells]
theorem Ops.box {d : Nat} {ty : Nat} {pos : String} {aft : Array Edge} {gd : Option (Nat × Bool)} (hw : gval ops S gd = gwant gd) {t : Nat} {x : Operand} (hx : (ev S x).isVal = true)
    (hd : Nat.blt d S.n = true) (h : ∀ b, Ops m P C ops l ⟨S.n, (d, .ptr d b [] 0) :: S.slots, (d, .var b (ev S x)) :: S.heap⟩ K) : Ops m P C ops (⟨some d, .box t x, ty, pos, aft, gd⟩ :: l) S K := by
  refine Ops.eff hw [] oke_nil rfl fun a w hs => ?_
  obtain ⟨cs, hc, hv⟩ := repV_cells hx (ev_rep hs x)
  refine ⟨.pointer (some ⟨w.heap.size, 0, none⟩), w.alloc (.cells cs.toArray t), _, .ptr d w.heap.size [] 0, ?_, hs.newVar d _ cs t hc, hd, repV_ptr.2 rfl, Eff.new ((Mod.refl _ w).alloc _) (fun b hb => by
    have : w.heap.size = b := by simpa [HO.blk] using hb
    omega), h _⟩
  have hcells := ofCells_cells hc
  simp [execOp, Instr.box, hv, newVar, newRow, newObj, Sem.run, hcells]
theorem setCells_eq (w : World) {g : Nat} {t : TypeId} {arr : Array Value} (o : Nat) (vs : List Value) (hb : Blk w g t arr) (ho : o + vs.length ≤ arr.size) :
    Blk (w.setCells g o vs) g t (arr.toList.take o ++ vs ++ arr.toList.drop (o + vs.length)).toArray := by
  have h1 := Blk.setCells vs o hb
  have : setAll arr o vs = (arr.toList.take o ++ vs ++ arr.toList.drop (o + vs.length)).toArray := by
    apply Array.ext_getElem?
    intro i
    rw [setAll_get vs arr o i ho, show (arr.toList.take o ++ vs ++ arr.toList.drop (o + vs.length)).toArray[i]? = (arr.toList.take o ++ vs ++ arr.toList.drop (o + vs.length))[i]? from List.getElem?_toArray]
    have hl : (arr.toList.take o).length = o := by rw [List.length_take, Array.length_toList]; omega
    by_cases h2 : o ≤ i ∧ i < o + vs.length
    · rw [if_pos h2, List.append_assoc, List.getElem?_append_right (by omega), hl, List.getElem?_append_left (by omega)]
    · rw [if_neg h2]
      by_cases h3 : i < o
      · rw [List.append_assoc, List.getElem?_append_left (by omega), List.getElem?_take, if_pos h3, Array.getElem?_toList]
      · rw [List.getElem?_append_right (by rw [List.length_append, hl]; omega), List.getElem?_drop, List.length_append, hl, Array.getElem?_toList]
        congr 1; omega
  rw [this] at h1
  exact h1
theorem storeAt_run {t : Nat} {ti : TI} (h : TOk P t ti) {y : AV} (hf : fits ti y) {ys : List Value} (hy : repC w F y ys) {b o : Nat} (ht : w.there b o ys.length) :
    (Instr.storeAt t (.pointer (some ⟨b, o, none⟩)) (ofCells y ys)).run P w = .ok () (w.setCells b o ys) := by
  have hcells := ofCells_cells hy
  have hsz := repC_size y ys hy
  have := run_storeCells_cells (P := P) b o ys 0 w (fun j hj => (ht j hj).1) (fun j hj => (ht j hj).2) (repC_one y ys hy)
  simp only [Nat.add_zero] at this
  simp only [Instr.storeAt, Instr.sureAddr, Sem.run_bind, Sem.run_pure, Result.andThen_ok, storeVar, h.sizeRun, hcells]
  rw [if_neg (by simp [hsz, hf.1])]
  exact this
theorem there_blk {g : Nat} {t : TypeId} {arr : Array Value} (hb : Blk w g t arr) {o n : Nat} (h : o + n ≤ arr.size) : w.there g o n := by
  intro j hj
  refine ⟨?_, hb.frozen _⟩
  rw [hb.cell, Array.getElem?_eq_getElem (by omega)]; rfl
/-- A store into a variable, or into a part of it. -/
theorem Ops.store (hT : TTOk P T) {ty : Nat} {pos : String} {aft : Array Edge} {gd : Option (Nat × Bool)} (hw : gval ops S gd = gwant gd) {t : Nat} {x y : Operand} {key b off o : Nat} {path : List Nat} {c old : AV} {ti : TI}
    (hx : ev S x = .ptr key b path off) (ht : tget T t = some ti) (hg : hget S.heap key = some (.var b c)) (hsub : subAt path c = some (o, old)) (ho : o = off) (hf : fits ti (ev S y)) (hold : sizeA old = ti.sz) (hy : (ev S y).isVal = true) (hm : m.oke none [key] = true)
    (h : Ops m P C ops l ⟨S.n, S.slots, hset S.heap key (.var b (updAt path c (ev S y)))⟩ K) : Ops m P C ops (⟨none, .store t x y, ty, pos, aft, gd⟩ :: l) S K := by
  subst ho
  refine Ops.effS hw [key] hm rfl fun a w hs => ?_
  have Ex := ev_rep hs x
  rw [hx, repV_ptr] at Ex
  obtain ⟨ys, hc, hv⟩ := repV_cells hy (ev_rep hs y)
  obtain ⟨t2, cs, hb, hcs⟩ := hs.getHeap hg
  obtain ⟨pre, mid, post, e1, e2, e3, e4⟩ := sub_split path c _ o old hcs hsub
  have hl : ys.length = mid.length := by rw [repC_size _ _ hc, repC_size _ _ e3, hold, hf.1]
  have hcl : cs.toList.length = pre.length + mid.length + post.length := by rw [e1]; simp; omega
  rw [Array.length_toList] at hcl
  have hle : o + ys.length ≤ cs.size := by omega
  have hm0 : Mod (fun b' => HO.blk (.var b c) = some b') w (w.setCells b o ys) := Mod.setCells (S := fun b' => HO.blk (.var b c) = some b') (fun _ => rfl) ys o (Mod.refl _ w)
  refine ⟨w.setCells b o ys, ⟨S.n, S.slots, hset S.heap key (.var b (updAt path c (ev S y)))⟩, ?_, ?_, Eff.swap hg hm0 (fun _ h => .inl h), h⟩
  · have := storeAt_run (P := P) (tget_ok hT ht) hf hc (b := b) (o := o) (there_blk hb hle)
    simp only [execOp, Ex, hv, Sem.run_bind, this, Result.andThen_ok, Sem.run_pure]
  · have hm : Mod (fun b' => HO.blk (.var b c) = some b') w (w.setCells b o ys) := Mod.setCells (S := fun b' => HO.blk (.var b c) = some b') (fun _ => rfl) ys o (Mod.refl _ w)
    have hlt := (hs.lt b (blk_mem hg rfl)).1
    refine hs.swap hg (.var b (updAt path c (ev S y))) hm ⟨t2, _, setCells_eq w o ys hb hle, ?_⟩ (fun b' hb' => ?_)
    · have h5 := e4 (ev S y) ys hc hl
      have hq : pre ++ ys ++ post = cs.toList.take o ++ ys ++ cs.toList.drop (o + ys.length) := by
        rw [e1, ← e2, List.append_assoc pre mid post, List.take_left, hl, ← List.append_assoc pre mid post, ← List.length_append, List.drop_left]
      rw [hq] at h5
      have hF : ∀ b', Fz C S.heap w b' → Fz C (hset S.heap key (.var b (updAt path c (ev S y)))) (w.setCells b o ys) b' := fun b' hb' =>
        ⟨Nat.lt_of_lt_of_le hb'.1 hm.size, by rw [blks_hset hg (.var b (updAt path c (ev S y))) rfl]; exact hb'.2.1, hb'.2.2⟩
      have hW : ∀ b', Fz C S.heap w b' → (w.setCells b o ys).heap[b']? = w.heap[b']? := fun b' hb' => hm.block b' hb'.1 (fun he => hb'.2.1 (blk_mem hg he))
      exact repC_mono hF hW _ _ (by simpa using h5)
    · have : b = b' := by simpa [HO.blk] using hb'
      subst this
      exact ⟨by have := hm.size; omega, .inl rfl⟩
end
end Go.Proofs.YtcmgpkibjdbonaaGreat
namespace Go.Proofs.YtcmgpkibjdbonaaGreat
open Go Go.RowKit

structure Awp (P : Program) (C : Ctx) (c : Code) (S : St) (K : Exit → St → Prop) : Prop where
  out : ∀ a w, Sat C S a w → c.wp P (fun e a' w' => ∃ S', K e S' ∧ Sat C S' a' w') a w
def thenK (h : St → Prop) (K : Exit → St → Prop) : Exit → St → Prop
  | .normal, S => h S
  | e, S => K e S
def blockK (id : Nat) (K : Exit → St → Prop) : Exit → St → Prop
  | .exit id', S => bif Nat.beq id' id then K .normal S else K (.exit id') S
  | e, S => K e S

/-! What may be forgotten, and what may be given up: a row that is owned no longer is read-only from then on. -/
abbrev Fr := List (Value × Nat × List AV)
def FrOk (fr : Fr) (w : World) (F : Nat → Prop) : Prop := ∀ z ∈ fr, repC w F (.sl z.2.1 z.2.2) [z.1]
def CLe (fr : Fr) (x y : AV) : Prop := (∀ w F cs, FrOk fr w F → repC w F x cs → repC w F y cs) ∧ x.isAgg = y.isAgg
def CLeL (fr : Fr) (x y : List AV) : Prop := ∀ w F cs, FrOk fr w F → repL w F x cs → repL w F y cs
def SLe (fr : Fr) (x y : AV) : Prop := ∀ w F v, FrOk fr w F → repV w F x v → repV w F y v
def HOLe (fr : Fr) (x y : HO) : Prop := (∀ w F, FrOk fr w F → HOk w F x → HOk w F y) ∧ y.blk = x.blk
section
variable {fr : Fr}
theorem CLe.refl (x : AV) : CLe fr x x := ⟨fun _ _ _ _ h => h, rfl⟩
theorem CLe.of_eq {x y : AV} (h : x = y) : CLe fr x y := h ▸ CLe.refl x
theorem CLe.ptr {k k' b : Nat} {p p' : List Nat} {o : Nat} : CLe fr (.ptr k b p o) (.ptr k' b p' o) := ⟨fun _ _ _ _ h => h, rfl⟩
theorem CLe.own {k k' : Nat} {v : Value} : CLe fr (.own k v) (.own k' v) := ⟨fun _ _ _ _ h => h, rfl⟩
theorem CLe.nilown {k : Nat} : CLe fr .nil (.own k (.slice none 0 0)) := ⟨fun _ _ _ _ h => by simp only [repC] at h ⊢; exact ⟨h, rfl⟩, rfl⟩
theorem CLe.nilsl {sz : Nat} : CLe fr .nil (.sl sz []) := ⟨fun _ _ _ _ h => by simp only [repC] at h ⊢; exact ⟨none, 0, h, Nat.le_refl _, Nat.zero_le _, fun h => absurd rfl h⟩, rfl⟩
theorem CLe.fz {k : Nat} {v : Value} {sz : Nat} {xs : List AV} (h : (v, sz, xs) ∈ fr) : CLe fr (.own k v) (.sl sz xs) := ⟨fun w F cs hf h1 => by
  simp only [repC] at h1
  rw [h1.1]; exact hf _ h, rfl⟩
theorem CLeL.nil : CLeL fr [] [] := fun _ _ _ _ h => h
theorem CLeL.cons {x y : AV} {xs ys : List AV} (h : CLe fr x y) (hs : CLeL fr xs ys) : CLeL fr (x :: xs) (y :: ys) := fun w F cs hf h1 => by
  simp only [repL] at h1 ⊢
  obtain ⟨c1, c2, e, h2, h3⟩ := h1
  exact ⟨c1, c2, e, h.1 w F c1 hf h2, hs w F c2 hf h3⟩
theorem CLe.agg {fs gs : List AV} (h : CLeL fr fs gs) : CLe fr (.agg fs) (.agg gs) := ⟨fun w F cs hf h1 => by simp only [repC] at h1 ⊢; exact h w F cs hf h1, rfl⟩
theorem SLe.any {x : AV} : SLe fr x .any := fun _ _ _ _ _ => True.intro
theorem SLe.of_eq {x y : AV} (h : x = y) : SLe fr x y := h ▸ fun _ _ _ _ h => h
theorem SLe.of_cle {x y : AV} (h : CLe fr x y) (hx : x.isVal = true) : SLe fr x y := fun w F v hf hv => by
  obtain ⟨cs, h1, h2⟩ := repV_cells hx hv
  have h3 := h.1 w F cs hf h1
  have h4 : v = ofCells y cs := by rw [h2]; unfold ofCells; rw [h.2]
  rw [h4]; exact repV_mk h3
theorem HOLe.refl (x : HO) : HOLe fr x x := ⟨fun _ _ _ h => h, rfl⟩
theorem HOLe.var {b : Nat} {c c' : AV} (h : CLe fr c c') : HOLe fr (.var b c) (.var b c') := ⟨fun w F hf h1 => by
  obtain ⟨t, cs, h2, h3⟩ := h1; exact ⟨t, cs, h2, h.1 w F _ hf h3⟩, rfl⟩
theorem HOLe.row {v : Value} {e sz : Nat} {xs ys : List AV} (h : xs = ys) : HOLe fr (.row v e sz xs) (.row v e sz ys) := h ▸ HOLe.refl _
end
def slotsLe (fr : Fr) (S : St) : List (Nat × AV) → Prop
  | [] => True
  | (i, y) :: r => SLe fr (S.slot i) y ∧ slotsLe fr S r
def hdel : List (Nat × HO) → Nat → List (Nat × HO)
  | [], _ => []
  | (k, x) :: r, i => bif Nat.beq k i then r else (k, x) :: hdel r i
inductive HLe (fr : Fr) : List (Nat × HO) → List (Nat × HO) → Prop
  | nil {H} : HLe fr H []
  | cons {H : List (Nat × HO)} (k : Nat) {k' x y r} (hg : hget H k = some x) (h : HOLe fr x y) (hr : HLe fr (hdel H k) r) : HLe fr H ((k', y) :: r)
  | none {H : List (Nat × HO)} {k' e sz r} (hr : HLe fr H r) : HLe fr H ((k', .row (.slice Option.none 0 0) e sz []) :: r)
theorem hdel_split : ∀ {H : List (Nat × HO)} {k : Nat} {x : HO}, hget H k = some x → ∃ pre k' post, H = pre ++ (k', x) :: post ∧ hdel H k = pre ++ post
  | (k', x') :: r, k, x, h => by
    unfold hget at h
    cases hb : Nat.beq k' k with
    | true =>
      rw [hb] at h
      simp only [cond_true, Option.some.injEq] at h
      subst h
      exact ⟨[], k', r, rfl, by unfold hdel; rw [hb]; rfl⟩
    | false =>
      rw [hb] at h
      obtain ⟨pre, q, post, e1, e2⟩ := hdel_split (H := r) (by simpa using h)
      exact ⟨(k', x') :: pre, q, post, by rw [e1]; rfl, by unfold hdel; rw [hb]; simp only [cond_false, e2, List.cons_append]⟩
theorem hdel_blks {H : List (Nat × HO)} {k : Nat} {x : HO} (hg : hget H k = some x) : (∀ b ∈ blks (hdel H k), b ∈ blks H) ∧ ((blks H).Nodup → (blks (hdel H k)).Nodup ∧ ∀ b, x.blk = some b → b ∉ blks (hdel H k)) ∧ ∀ p ∈ hdel H k, p ∈ H := by
  obtain ⟨pre, q, post, e1, e2⟩ := hdel_split hg
  rw [e2]
  refine ⟨fun b hb => ?_, fun hn => ?_, fun p hp => ?_⟩
  · rw [blks_append] at hb; rw [e1, blks_append, blks_cons]
    rcases List.mem_append.1 hb with hb | hb <;> simp [hb]
  · rw [e1, blks_append, blks_cons] at hn
    refine ⟨?_, fun b hb hin => ?_⟩
    · rw [blks_append]
      exact hn.sublist (List.Sublist.append (List.Sublist.refl _) (List.sublist_append_right _ _))
    · rw [blks_append] at hin
      have hxb2 : ((q, x) : Nat × HO).2.blk = some b := hb
      rw [hxb2] at hn
      simp only [Option.toList_some, List.singleton_append, List.nodup_append, List.nodup_cons] at hn
      rcases List.mem_append.1 hin with h6 | h6
      · exact hn.2.2 b h6 b (by simp) rfl
      · exact hn.2.1.1 h6
  · rw [e1]
    rcases List.mem_append.1 hp with hp | hp <;> simp [hp]
theorem HLe.spec {fr : Fr} {H H' : List (Nat × HO)} (h : HLe fr H H') : (∀ b ∈ blks H', b ∈ blks H) ∧ ((blks H).Nodup → (blks H').Nodup) ∧ ∀ w F, FrOk fr w F → (∀ p ∈ H, HOk w F p.2) → ∀ p ∈ H', HOk w F p.2 := by
  induction h with
  | nil => exact ⟨fun (b : Nat) (hb : b ∈ []) => absurd hb (by simp), fun _ => List.nodup_nil, fun _ _ _ _ p hp => absurd hp (by simp)⟩
  | @cons H k k' x y r hg h hr ih =>
    obtain ⟨i1, i2, i3⟩ := ih
    obtain ⟨j1, j2, j3⟩ := hdel_blks hg
    refine ⟨fun b hb => ?_, fun hn => ?_, fun w F hf hall p hp => ?_⟩
    · rw [blks_cons] at hb
      rcases List.mem_append.1 hb with hb | hb
      · have hb : y.blk = some b := by simpa using hb
        rw [h.2] at hb
        exact blk_mem hg hb
      · exact j1 b (i1 b hb)
    · rw [blks_cons]
      cases hq : y.blk with
      | none => exact i2 (j2 hn).1
      | some b => exact List.nodup_cons.2 ⟨fun hin => (j2 hn).2 b (by rw [← h.2]; exact hq) (i1 b hin), i2 (j2 hn).1⟩
    · rcases List.mem_cons.1 hp with rfl | hp
      · obtain ⟨pre, q, post, e1, _⟩ := hget_split hg
        exact h.1 w F hf (hall (q, x) (by rw [e1]; simp))
      · exact i3 w F hf (fun p hp => hall p (j3 p hp)) p hp
  | @none H k' e sz r hr ih =>
    obtain ⟨i1, i2, i3⟩ := ih
    have hb : blks ((k', HO.row (.slice Option.none 0 0) e sz []) :: r) = blks r := by rw [blks_cons]; rfl
    rw [hb]
    refine ⟨i1, i2, fun w F hf hall p hp => ?_⟩
    rcases List.mem_cons.1 hp with rfl | hp
    · exact ⟨[], by simp only [repA], by simp, .inl ⟨rfl, rfl⟩⟩
    · exact i3 w F hf hall p hp
/-- The rows that are given up, and what is owned still. -/
def fzs : List (Nat × HO) → List Nat → Fr
  | _, [] => []
  | H, k :: r => match hget H k with
    | some (.row v _ sz xs) => (v, sz, xs) :: fzs (hdel H k) r
    | _ => fzs H r
def hdels : List (Nat × HO) → List Nat → List (Nat × HO)
  | H, [] => H
  | H, k :: r => match hget H k with
    | some (.row _ _ _ _) => hdels (hdel H k) r
    | _ => hdels H r
structure Le (ks : List Nat) (S S' : St) : Prop where
  n : S.n = S'.n
  slots : slotsLe (fzs S.heap ks) S S'.slots
  heap : HLe (fzs S.heap ks) (hdels S.heap ks) S'.heap
theorem repA_row {w : World} {F : Nat → Prop} {b sz : Nat} (hF : F b) : ∀ (xs : List AV) (cs : List Value) (off : Nat), repA w F sz xs cs → w.rangeAt b off cs → repRow w F b off sz xs
  | [], _, _, _, _ => by simp only [repRow]
  | x :: xs, cs, off, h, hr => by
    simp only [repA] at h
    obtain ⟨c1, c2, rfl, h2, h3, h4⟩ := h
    simp only [repRow]
    refine ⟨⟨c1, h2, h3, fun j u hj => hr j u ?_⟩, repA_row hF xs c2 (off + sz) h4 (fun j u hj => ?_)⟩
    · rw [List.getElem?_append_left (List.getElem?_eq_some_iff.1 hj).1]; exact hj
    · have := hr (sz + j) u (by rw [List.getElem?_append_right (by omega), h3, Nat.add_sub_cancel_left]; exact hj)
      rwa [← Nat.add_assoc] at this
theorem row_sl {w : World} {F : Nat → Prop} {v : Value} {e sz : Nat} {xs : List AV} (h : HOk w F (.row v e sz xs)) (hF : ∀ b, v.ownBlock = some b → F b) : repC w F (.sl sz xs) [v] := by
  obtain ⟨cells, h1, h2, h3⟩ := h
  simp only [repC]
  rcases h3 with ⟨rfl, h0⟩ | ⟨g, cap, cur, rfl, _, hg, h4, h5, h6, h7⟩
  · have : xs = [] := List.eq_nil_of_length_eq_zero h0
    subst this
    exact ⟨none, 0, rfl, Nat.le_refl _, Nat.zero_le _, fun h => absurd rfl h⟩
  · refine ⟨_, cap, rfl, h4, h5, fun _ => ⟨g, 0, rfl, hF g rfl, repA_row (hF g rfl) xs cells 0 h1 (fun j u hj => ?_)⟩⟩
    have hb : Blk w g e cur := hg
    rw [hb.cell, ← Array.getElem?_toList]
    rw [← h7, List.getElem?_take] at hj
    split at hj
    · rw [Nat.zero_add]; exact hj
    · cases hj
section
variable {P : Program} {T : List (Nat × TI)} {C : Ctx} {S S' : St} {a : Act} {w : World} {ops : Array Oper} {l : List Oper} {K : Exit → St → Prop}
theorem slotsLe_get {fr : Fr} {w : World} {F : Nat → Prop} {a : Act} (hf : FrOk fr w F) (hs : ∀ i, repV w F (S.slot i) (a.tmps.getD i undef)) : ∀ (L : List (Nat × AV)), slotsLe fr S L → ∀ i, repV w F (lookD L i) (a.tmps.getD i undef)
  | [], _, i => True.intro
  | (j, y) :: r, h, i => by
    unfold lookD
    cases hb : Nat.beq j i with
    | true =>
      have : j = i := Nat.eq_of_beq_eq_true hb
      subst this
      exact h.1 w F _ hf (hs j)
    | false => exact slotsLe_get hf hs r h.2 i
theorem HOk_mono {F F' : Nat → Prop} (hF : ∀ b, F b → F' b) {x : HO} (h : HOk w F x) : HOk w F' x := by
  cases x with
  | var b c => obtain ⟨t, cs, k1, k2⟩ := h; exact ⟨t, cs, k1, repC_mono hF (fun _ _ => rfl) _ _ k2⟩
  | row v e sz xs => obtain ⟨cells, k1, k2⟩ := h; exact ⟨cells, repA_mono hF (fun _ _ => rfl) _ _ _ k1, k2⟩
  | obj b o => exact h
/-- One row given up. -/
theorem Sat.del (h : Sat C S a w) {k : Nat} {x : HO} (hg : hget S.heap k = some x) : Sat C ⟨S.n, S.slots, hdel S.heap k⟩ a w := by
  obtain ⟨j1, j2, j3⟩ := hdel_blks hg
  have hF : ∀ b, Fz C S.heap w b → Fz C (hdel S.heap k) w b := fun b hb => ⟨hb.1, fun hin => hb.2.1 (j1 b hin), hb.2.2⟩
  exact ⟨h.n, h.df, fun i => repV_mono hF (fun _ _ => rfl) _ _ (h.slots i), fun p hp => HOk_mono hF (h.heap p (j3 p hp)), (j2 h.nd).1, fun b hb => h.lt b (j1 b hb), h.mod⟩
theorem Sat.dels : ∀ (ks : List Nat) {S : St}, Sat C S a w → Sat C ⟨S.n, S.slots, hdels S.heap ks⟩ a w ∧ FrOk (fzs S.heap ks) w (Fz C (hdels S.heap ks) w)
  | [], S, h => ⟨h, fun z hz => absurd hz (by simp [fzs])⟩
  | k :: r, S, h => by
    unfold hdels fzs
    split
    · rename_i v e sz xs hg
      have h1 := h.del hg
      obtain ⟨h2, h3⟩ := Sat.dels r h1
      refine ⟨h2, fun z hz => ?_⟩
      rcases List.mem_cons.1 hz with rfl | hz
      · obtain ⟨j1, j2, j3⟩ := hdel_blks hg
        have hrow := h.getHeap hg
        -- what is owned at the end is among what is owned behind the first step
        have hsub : ∀ b, b ∈ blks (hdels (hdel S.heap k) r) → b ∈ blks (hdel S.heap k) := by
          have : ∀ (r : List Nat) (H : List (Nat × HO)) b, b ∈ blks (hdels H r) → b ∈ blks H := by
            intro r
            induction r with
            | nil => exact fun H b hb => hb
            | cons k r ih =>
              intro H b hb
              unfold hdels at hb
              split at hb
              · rename_i hg2
                exact (hdel_blks hg2).1 b (ih _ b hb)
              · exact ih _ b hb
          exact this r _
        have hF : ∀ b, Fz C S.heap w b → Fz C (hdels (hdel S.heap k) r) w b := fun b hb => ⟨hb.1, fun hin => hb.2.1 (j1 b (hsub b hin)), hb.2.2⟩
        refine row_sl (e := e) (HOk_mono hF hrow) (fun b hb => ?_)
        have hmem : b ∈ blks S.heap := blk_mem hg hb
        exact ⟨(h.lt b hmem).1, fun hin => (j2 h.nd).2 b hb (hsub b hin), .inr (h.lt b hmem).2⟩
      · exact h3 z hz
    · exact Sat.dels r h
theorem Sat.weaken {ks : List Nat} (h : Sat C S a w) (hle : Le ks S S') : Sat C S' a w := by
  obtain ⟨h0, hf⟩ := Sat.dels ks h
  obtain ⟨h1, h2, h3⟩ := hle.heap.spec
  have hF : ∀ b, Fz C (hdels S.heap ks) w b → Fz C S'.heap w b := fun b hb => ⟨hb.1, fun hin => hb.2.1 (h1 b hin), hb.2.2⟩
  refine ⟨h.n.trans hle.n, h.df, fun i => ?_, fun p hp => ?_, h2 h0.nd, fun b hb => h0.lt b (h1 b hb), h.mod⟩
  · exact repV_mono hF (fun _ _ => rfl) _ _ (slotsLe_get (S := S) hf h0.slots S'.slots hle.slots i)
  · exact HOk_mono hF (h3 w _ hf h0.heap p hp)
theorem Awp.weaken {c : Code} (ks : List Nat) (hle : Le ks S S') (h : Awp P C c S' K) : Awp P C c S K := ⟨fun a w hs => h.out a w (hs.weaken hle)⟩
theorem Ops.weaken {K : St → Prop} (ks : List Nat) (hle : Le ks S S') (h : Ops .text P C ops l S' K) : Ops .text P C ops l S K := ⟨fun Q E a w hs hK => h.out Q E a w (hs.weaken hle) hK⟩
theorem Awp.seq {x y : Code} (h : Awp P C x S (thenK (fun S' => Awp P C y S' K) K)) : Awp P C (.seq x y) S K := ⟨fun a w hs => by
  refine wp_seq (wp_mono (h.out a w hs) fun e a' w' ⟨S', h1, h2⟩ => ?_)
  cases e with
  | normal => exact h1.out a' w' h2
  | _ => exact ⟨S', h1, h2⟩⟩
theorem Awp.skip (h : K .normal S) : Awp P C .skip S K := ⟨fun _ _ hs => wp_skip ⟨S, h, hs⟩⟩
theorem Awp.exit {id : Nat} (h : K (.exit id) S) : Awp P C (.exit id) S K := ⟨fun _ _ hs => wp_exit ⟨S, h, hs⟩⟩
theorem Awp.ret (h : K .ret S) : Awp P C .ret S K := ⟨fun _ _ hs => wp_ret ⟨S, h, hs⟩⟩
theorem Awp.block {id : Nat} {c : Code} (h : Awp P C c S (blockK id K)) : Awp P C (.block id c) S K := ⟨fun a w hs => by
  refine wp_block (wp_mono (h.out a w hs) fun e a' w' ⟨S', h1, h2⟩ => ?_)
  cases e with
  | exit id' =>
    simp only [blockK] at h1
    unfold Exit.inBlock
    by_cases hid : id' = id
    · subst hid
      simp only [Nat.beq_refl, cond_true] at h1
      simp only [if_true]
      exact ⟨S', h1, h2⟩
    · have : Nat.beq id' id = false := by
        cases hb : Nat.beq id' id with
        | true => exact absurd (Nat.eq_of_beq_eq_true hb) hid
        | false => rfl
      rw [this] at h1
      simp only [hid, if_false]
      exact ⟨S', h1, h2⟩
  | _ => exact ⟨S', h1, h2⟩⟩
theorem Awp.cond {c : Operand} {x y : Code} {t : Bool} (hc : ev S c = .b t) (h1 : t = true → Awp P C x S K) (h2 : t = false → Awp P C y S K) : Awp P C (.cond c x y) S K := ⟨fun a w hs => by
  have Ec := ev_rep hs c
  rw [hc, repV_b] at Ec
  exact wp_cond_split Ec (fun ht => (h1 ht).out a w hs) (fun ht => (h2 ht).out a w hs)⟩
theorem Awp.region {id : Nat} {l : List Oper} (h : Ops .text P C l.toArray l S (K .normal)) : Awp P C (.region id l.toArray false) S K := ⟨fun a w hs =>
  wp_region_lit (h.out (fun e a' w' => ∃ S', K e S' ∧ Sat C S' a' w') (fun _ a' w' => ∃ S', K .normal S' ∧ Sat C S' a' w') a w hs (fun S' _a' _w' h1 h2 => ⟨S', h1, h2⟩) (fun _ _ _ h => h))⟩
theorem Sat.drew (h : Sat C S a w) : Sat C S a { w with drawn := w.drawn + 1 } := by
  have hm : Mod None_ w { w with drawn := w.drawn + 1 } := ⟨rfl, rfl, rfl, Nat.le_refl _, fun _ _ _ => rfl⟩
  exact h.move S.heap None_ hm (fun _ _ hf => hf.elim) h.nd (fun b hb => ⟨(h.lt b hb).1, .inl hb⟩) (fun p hp => h.keepHO hm (fun _ _ hf => hf.elim) (fun b hb => ⟨(h.lt b hb).1, .inl hb⟩) (h.heap p hp) (fun _ _ hf => hf))
/-- A region that draws its order: gone through in an order of mine that stands for all. -/
theorem Awp.regionAny {id : Nat} {ops : Array Oper} {l : List Oper} (tk so qs is : List Nat) (hm : P.follows .mixedOrders = true) (hp : okPerm P ops so qs is (Array.replicate ops.size false) = true) (hns : Region.noSelect ops = true) (hl : is.map (fun i => ops[i]?) = l.map some) (hn : is.length = ops.size)
    (h : Ops (.any tk so qs) P C ops l S (K .normal)) : Awp P C (.region id ops true) S K := ⟨fun a w hs => by
  refine wp_mono (wp_region_any (Q := fun e a' w' => e = .normal ∧ ∃ S', K .normal S' ∧ Sat C S' a' w') hm (wpAny_of_R (qs := qs) _ _ (tbl S.heap tk) _ _ ?_)) (fun e a' w' ⟨he, h⟩ => by subst he; exact h)
  have hq := okPerm_part is _ hp
  have h5 := h.out (fun e a' w' => e = .normal ∧ ∃ S', K .normal S' ∧ Sat C S' a' w') (fun _ a' w' => ∃ S', K .normal S' ∧ Sat C S' a' w') a _ hs.drew (fun S' a' w' h1 h2 => ⟨S', h1, h2⟩) is _ 0 hq.1 hns hl (fun c a w hq => by cases hq.1) (fun G a w he => ⟨hq.2, rfl, he⟩)
  rw [Nat.zero_add, hn] at h5
  exact h5⟩
/-- All orders from here on, told as a tree: a part of the way that stands for all, or two that may come next. -/
structure AnyT (P : Program) (C : Ctx) (ops : Array Oper) (tk so qs : List Nat) (n : Nat) (listed : Array Bool) (S : St) (K : St → Prop) : Prop where
  out : ∀ (Q : Exit → Act → World → Prop) (a : Act) (w : World), Sat C S a w → Region.noSelect ops = true → (∀ c a w, ¬ Q (.panic c) a w) → (∀ S' a' w', K S' → Sat C S' a' w' → Q .normal a' w') → wpAnyR P ops qs Q n listed (tbl S.heap tk) a w
theorem AnyT.path {ops : Array Oper} {l : List Oper} {tk so qs : List Nat} {n n' : Nat} {listed listed' : Array Bool} {S : St} {K : St → Prop} (is : List Nat) (hp : okPermP P ops so qs is listed = true) (hl : is.map (fun i => ops[i]?) = l.map some) (hn : n = n' + is.length) (he : listAfter is listed = listed')
    (h : Ops (.any tk so qs) P C ops l S (fun S' => AnyT P C ops tk so qs n' listed' S' K)) : AnyT P C ops tk so qs n listed S K := by
  subst hn; subst he
  exact ⟨fun Q a w hs f2 hQ hK => h.out Q (fun G a' w' => wpAnyR P ops qs Q n' (listAfter is listed) G a' w') a w hs (fun S' a' w' h1 h2 => h1.out Q a' w' h2 f2 hQ hK) is listed n' hp f2 hl hQ (fun _ _ _ h => h)⟩
theorem AnyT.fin {ops : Array Oper} {tk so qs : List Nat} {n : Nat} {listed : Array Bool} {S : St} {K : St → Prop} (hr : Region.ready .any ops listed = []) (h : K S) : AnyT P C ops tk so qs n listed S K := by
  refine ⟨fun Q a w hs f2 hQ hK => ?_⟩
  cases n with
  | zero => exact ⟨hr, hK _ _ _ h hs⟩
  | succ n => exact ⟨fun _ => hK _ _ _ h hs, fun i hi => by rw [hr] at hi; cases hi⟩
theorem AnyT.two {ops : Array Oper} {o1 o2 : Oper} {tk so qs : List Nat} {n : Nat} {listed : Array Bool} {S : St} {K : St → Prop} (i1 i2 : Nat) (hr : Region.ready .any ops listed = [i1, i2]) (h1 : ops[i1]? = some o1) (h2 : ops[i2]? = some o2)
    (k1 : Ops (.one tk so qs) P C ops [o1] S (fun S' => AnyT P C ops tk so qs n (listed.setIfInBounds i1 true) S' K)) (k2 : Ops (.one tk so qs) P C ops [o2] S (fun S' => AnyT P C ops tk so qs n (listed.setIfInBounds i2 true) S' K)) : AnyT P C ops tk so qs (n + 1) listed S K := by
  refine ⟨fun Q a w hs f2 hQ hK => ⟨fun h => (by rw [hr] at h; cases h), fun i hi => ?_⟩⟩
  rw [hr] at hi
  simp only [List.mem_cons, List.not_mem_nil, or_false] at hi
  rcases hi with rfl | rfl
  · exact k1.out Q (fun G a' w' => wpAnyR P ops qs Q n (listed.setIfInBounds i true) G a' w') a w hs (fun S' a' w' h1 h2 => h1.out Q a' w' h2 f2 hQ hK) i h1
  · exact k2.out Q (fun G a' w' => wpAnyR P ops qs Q n (listed.setIfInBounds i true) G a' w') a w hs (fun S' a' w' h1 h2 => h1.out Q a' w' h2 f2 hQ hK) i h2
theorem Awp.regionT {id : Nat} {ops : Array Oper} (tk so qs : List Nat) (hm : P.follows .mixedOrders = true) (hns : Region.noSelect ops = true)
    (h : AnyT P C ops tk so qs ops.size (Array.replicate ops.size false) S (K .normal)) : Awp P C (.region id ops true) S K := ⟨fun a w hs => by
  refine wp_mono (wp_region_any (Q := fun e a' w' => e = .normal ∧ ∃ S', K .normal S' ∧ Sat C S' a' w') hm (wpAny_of_R (qs := qs) _ _ (tbl S.heap tk) _ _ ?_)) (fun e a' w' ⟨he, h⟩ => by subst he; exact h)
  exact h.out (fun e a' w' => e = .normal ∧ ∃ S', K .normal S' ∧ Sat C S' a' w') a _ hs.drew hns (fun c a w hq => by cases hq.1) (fun S' a' w' h1 h2 => ⟨rfl, S', h1, h2⟩)⟩
theorem Awp.loop {c : Code} {X : Type} (mk : X → St) (inv : X → Prop) (μ : X → Nat) (ks0 : List Nat) (x0 : X) (h0 : inv x0) (hle : Le ks0 S (mk x0))
    (round : ∀ x, inv x → Awp P C c (mk x) (thenK (fun S' => ∃ x' ks, inv x' ∧ μ x' < μ x ∧ Le ks S' (mk x')) K)) : Awp P C (.loop c) S K := by
  refine ⟨fun a w hs => ?_⟩
  refine wp_loop_ghost (fun n a w => ∃ x, μ x = n ∧ inv x ∧ Sat C (mk x) a w) (μ x0) ⟨x0, rfl, h0, hs.weaken hle⟩ ?_
  rintro n a w ⟨x, rfl, hx, hs⟩
  refine wp_mono ((round x hx).out a w hs) fun e a' w' ⟨S', h1, h2⟩ => ?_
  cases e with
  | normal =>
    obtain ⟨x', ks, i1, i2, i3⟩ := h1
    exact ⟨μ x', i2, x', rfl, i1, h2.weaken i3⟩
  | _ => exact ⟨S', h1, h2⟩
end
end Go.Proofs.YtcmgpkibjdbonaaGreat
