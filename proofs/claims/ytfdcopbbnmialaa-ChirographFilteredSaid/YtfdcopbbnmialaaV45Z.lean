/- A range over a map from texts to pointers. No program in sight. -/
import Derived.Test.YtfdcopbbnmialaaV43Z
import Derived.Maps.RangeRun
namespace Go.Proofs.Ytfdcopbbnmialaa
open Go Go.RowKit

/-- The iterator over a map, behind the entries that were met. -/
def itO (b c : Nat) (vis : List PE) : Obj := .mapIter (some b) c (vis.map (·.2.2)).toArray c
section
variable {m : OM} {P : Program} {T : List (Nat × TI)} {C : Ctx} {ops : Array Oper} {l : List Oper} {K : St → Prop} {n : Nat} {sl : List (Nat × AV)} {hp : List (Nat × HO)} {d : Nat} {ty : Nat} {pos : String} {aft : Array Edge} {gd : Option (Nat × Bool)}
theorem o_rangeP (hT : TTOk P T) (hw : gval ops ⟨n, sl, hp⟩ gd = gwant gd) {t kt et sz by_ k b c : Nat} {z : AV} {x : Operand} {es : List PE}
    (ht : tget T t = some ⟨.map kt et, sz, by_, z⟩) (hx : ev ⟨n, sl, hp⟩ x = .own k (.map (some b))) (hg : hget hp k = some (.obj b (mpO es c))) (hd : Nat.blt d n = true)
    (h : ∀ r, Ops m P C ops l ⟨n, (d, .ptr d r [] 0) :: sl, (d, .obj r (itO b c [])) :: hp⟩ K) : Ops m P C ops (⟨some d, .range t x, ty, pos, aft, gd⟩ :: l) ⟨n, sl, hp⟩ K := by
  refine Ops.eff hw [] oke_nil rfl fun a w hs => ?_
  have Ex := ev_rep hs x
  rw [hx, repV_own] at Ex
  have hb : w.heap[b]? = some (mpO es c) := hs.getHeap hg
  unfold mpO at hb
  have hrun := run_range_map (P := P) w t kt et b _ c (map_desc hT ht) hb
  have hm : Mod None_ w (w.alloc (itO b c [])) := (Mod.refl _ w).alloc _
  refine ⟨.pointer (some ⟨w.heap.size, 0, none⟩), w.alloc (itO b c []), ⟨n, sl, (d, .obj w.heap.size (itO b c [])) :: hp⟩, .ptr d w.heap.size [] 0, ?_, ?_, hd, repV_ptr.2 rfl, Eff.new hm (fun b hb => Nat.le_of_eq (List.mem_singleton.1 hb).symm), h _⟩
  · simp only [execOp, Ex.1, Sem.run_bind, hrun, Result.andThen_ok, Sem.run_pure]
    rfl
  · refine hs.new d _ hm ?_ (fun b hb => ?_)
    · show (w.alloc (itO b c [])).heap[w.heap.size]? = _
      exact (MapKept.heap_alloc w _).1
    · have : w.heap.size = b := (List.mem_singleton.1 hb).symm
      subst this
      simp
theorem left_P {es vis : List PE} {x : MapEntry} (h : x ∈ (leftOf (es.map entP).toArray (vis.map (·.2.2)).toArray).toList) : ∃ e ∈ es, entP e = x ∧ e.2.2 ∉ vis.map (·.2.2) := by
  unfold leftOf at h
  simp only [Array.toList_filter, List.mem_filter, List.mem_map] at h
  obtain ⟨⟨e, he, rfl⟩, h2⟩ := h
  refine ⟨e, he, rfl, fun hin => ?_⟩
  have : (vis.map (·.2.2)).toArray.contains (entP e).born = true := by
    simpa [Array.contains_iff_mem, entP] using hin
  rw [this] at h2
  cases h2
theorem none_P {es vis : List PE} (h : (leftOf (es.map entP).toArray (vis.map (·.2.2)).toArray).size = 0) : ∀ e ∈ es, e.2.2 ∈ vis.map (·.2.2) := fun e he => by
  refine Decidable.byContradiction (fun hn => ?_)
  have hm : entP e ∈ (leftOf (es.map entP).toArray (vis.map (·.2.2)).toArray).toList := by
    unfold leftOf
    simp only [Array.toList_filter, List.mem_filter, List.mem_map]
    refine ⟨⟨e, he, rfl⟩, ?_⟩
    have : (vis.map (·.2.2)).toArray.contains (entP e).born = false := by
      rw [Bool.eq_false_iff]
      intro hc
      exact hn (by simpa [Array.contains_iff_mem, entP] using hc)
    rw [this]; rfl
  have : (leftOf (es.map entP).toArray (vis.map (·.2.2)).toArray).toList = [] := List.eq_nil_of_length_eq_zero (by simpa using h)
  rw [this] at hm
  cases hm
theorem o_nextP (kf : Nat) (hw : gval ops ⟨n, sl, hp⟩ gd = gwant gd) {ki km r b c : Nat} {it : Operand} {es vis : List PE} {hp' : PE → List (Nat × HO)}
    (hx : ev ⟨n, sl, hp⟩ it = .ptr ki r [] 0) (hg : hget hp ki = some (.obj r (itO b c vis))) (hgm : hget hp km = some (.obj b (mpO es c))) (hold : ∀ e ∈ es, e.2.2 < c) (hkl : ∀ e ∈ es, e.1.length ≤ maxLen) (hd : Nat.blt d n = true) (hm : m.oke (some d) [ki] = true)
    (hh : ∀ e, forceL (hset hp ki (.obj r (itO b c (vis ++ [e])))) = some (hp' e))
    (h0 : (∀ e ∈ es, e.2.2 ∈ vis.map (·.2.2)) → Ops m P C ops l ⟨n, (d, .tup [.b false]) :: sl, hp⟩ K)
    (h1 : ∀ e ∈ es, e.2.2 ∉ vis.map (·.2.2) → Ops m P C ops l ⟨n, (d, .tup [.b true, .s e.1, .ptr kf e.2.1 [] 0]) :: sl, hp' e⟩ K) : Ops m P C ops (⟨some d, .next it false, ty, pos, aft, gd⟩ :: l) ⟨n, sl, hp⟩ K := by
  refine Ops.eff hw [ki] hm rfl fun a w hs => ?_
  have Ex := ev_rep hs it
  rw [hx, repV_ptr] at Ex
  have hr : w.heap[r]? = some (itO b c vis) := hs.getHeap hg
  have hb : w.heap[b]? = some (mpO es c) := hs.getHeap hgm
  have hlt := (Array.getElem?_eq_some_iff.1 hr).1
  unfold itO at hr
  unfold mpO at hb
  rcases run_next_at (P := P) w ty r b c c _ _ c hr hb (fun x hx => by
    simp only [List.mem_map] at hx
    obtain ⟨e, he, rfl⟩ := hx
    exact hold e he) (Nat.le_refl _) with ⟨hz, hrun⟩ | ⟨x, hxe, w1, hal, hrun⟩
  · refine ⟨.tuple #[.bool false], w, ⟨n, sl, hp⟩, .tup [.b false], ?_, hs, hd, ?_, ⟨Mod.refl _ w, fun _ _ _ _ h => h⟩, h0 (none_P hz)⟩
    · simp only [execOp, Ex, Sem.run_bind, hrun, Result.andThen_ok, Sem.run_pure]
    · refine ⟨[.bool false], rfl, rfl, fun i x v hx hv => ?_⟩
      rcases i with _ | i
      · simp only [List.getElem?_cons_zero, Option.some.injEq] at hx hv
        subst hx; subst hv
        exact .inr ⟨[.bool false], by simp [repC], rfl⟩
      · simp at hx
  · obtain ⟨e, he, rfl, hnv⟩ := left_P hxe
    have hseen : ((vis.map (·.2.2)).toArray.push (entP e).born) = ((vis ++ [e]).map (·.2.2)).toArray := by simp [entP]
    rw [hseen] at hrun
    have hm0 : Mod (fun b' => b' ∈ HO.blk (.obj r (itO b c vis))) w (setB w1 r (itO b c (vis ++ [e]))) := by
      have h2 : Mod (fun b' => b' ∈ HO.blk (.obj r (itO b c vis))) w w1 := by
        rcases hal with rfl | rfl
        · exact Mod.refl _ _
        · exact (Mod.refl _ w).drew
      exact h2.trans (Mod.setB_ (S := fun b' => b' ∈ HO.blk (.obj r (itO b c vis))) (List.mem_singleton.2 rfl) _)
    have hlt1 : r < w1.heap.size := by rcases hal with rfl | rfl <;> exact hlt
    refine ⟨.tuple #[.bool true, vS e.1, pV e.2.1], setB w1 r (itO b c (vis ++ [e])), ⟨n, sl, hset hp ki (.obj r (itO b c (vis ++ [e])))⟩, .tup [.b true, .s e.1, .ptr kf e.2.1 [] 0], ?_, hs.swap hg (.obj r (itO b c (vis ++ [e]))) hm0 ?_ (fun b' hb' => ?_), hd, ?_, Eff.swap hg hm0 (fun _ h => .inl h), ?_⟩
    · simp only [execOp, Ex, Sem.run_bind, hrun, Result.andThen_ok, Sem.run_pure]
      rfl
    · show (w1.heap.setIfInBounds r _)[r]? = _
      rw [Array.getElem?_setIfInBounds_self_of_lt hlt1]
    · have : r = b' := (List.mem_singleton.1 hb').symm
      subst this
      exact ⟨by simpa [setB] using hlt1, .inl (List.mem_singleton.2 rfl)⟩
    · refine ⟨[.bool true, vS e.1, pV e.2.1], rfl, rfl, fun i x v hx hv => ?_⟩
      rcases i with _ | _ | _ | i
      · simp only [List.getElem?_cons_zero, Option.some.injEq] at hx hv
        subst hx; subst hv
        exact .inr ⟨[.bool true], by simp [repC], rfl⟩
      · simp only [List.getElem?_cons_succ, List.getElem?_cons_zero, Option.some.injEq] at hx hv
        subst hx; subst hv
        exact .inr ⟨[vS e.1], by simp only [repC]; exact ⟨rfl, hkl e he⟩, rfl⟩
      · simp only [List.getElem?_cons_succ, List.getElem?_cons_zero, Option.some.injEq] at hx hv
        subst hx; subst hv
        exact .inr ⟨[pV e.2.1], by simp only [repC]; rfl, rfl⟩
      · simp at hx
    · have := h1 e he hnv
      rw [← forceL_eq _ _ (hh e)] at this
      exact this
theorem o_entryP (kf : Nat) (hw : gval ops ⟨n, sl, hp⟩ gd = gwant gd) {ki km r b c : Nat} {it : Operand} {es vis : List PE} {e : PE}
    (hx : ev ⟨n, sl, hp⟩ it = .ptr ki r [] 0) (hg : hget hp ki = some (.obj r (itO b c (vis ++ [e])))) (hgm : hget hp km = some (.obj b (mpO es c))) (he : e ∈ es) (hnd : (es.map (·.2.2)).Nodup) (hkl : ∀ e ∈ es, e.1.length ≤ maxLen) (hd : Nat.blt d n = true)
    (h : Ops m P C ops l ⟨n, (d, .tup [.s e.1, .ptr kf e.2.1 [] 0]) :: sl, hp⟩ K) : Ops m P C ops (⟨some d, .entry it, ty, pos, aft, gd⟩ :: l) ⟨n, sl, hp⟩ K := by
  refine Ops.eff hw [] oke_nil rfl fun a w hs => ?_
  have Ex := ev_rep hs it
  rw [hx, repV_ptr] at Ex
  have hr : w.heap[r]? = some (itO b c (vis ++ [e])) := hs.getHeap hg
  have hb : w.heap[b]? = some (mpO es c) := hs.getHeap hgm
  have hseen : ((vis ++ [e]).map (·.2.2)).toArray = ((vis.map (·.2.2)).toArray.push (entP e).born) := by simp [entP]
  unfold itO at hr
  rw [hseen] at hr
  unfold mpO at hb
  have hn2 : (((es.map entP).toArray.toList).map (·.born)).Nodup := by
    have : ((es.map entP).toArray.toList).map (·.born) = es.map (·.2.2) := by simp [entP, Function.comp_def]
    rw [this]; exact hnd
  have hrun := run_entry_at (P := P) w r b c _ _ c (entP e) hr hb (by simpa using ⟨_, _, _, he, rfl⟩) hn2
  refine ⟨.tuple #[vS e.1, pV e.2.1], w, _, .tup [.s e.1, .ptr kf e.2.1 [] 0], ?_, hs, hd, ?_, Eff.same (Mod.refl _ w), h⟩
  · simp only [execOp, Ex, Sem.run_bind, hrun, Result.andThen_ok, Sem.run_pure]
    rfl
  · refine ⟨[vS e.1, pV e.2.1], rfl, rfl, fun i x v hx hv => ?_⟩
    rcases i with _ | _ | i
    · simp only [List.getElem?_cons_zero, Option.some.injEq] at hx hv
      subst hx; subst hv
      exact .inr ⟨[vS e.1], by simp only [repC]; exact ⟨rfl, hkl e he⟩, rfl⟩
    · simp only [List.getElem?_cons_succ, List.getElem?_cons_zero, Option.some.injEq] at hx hv
      subst hx; subst hv
      exact .inr ⟨[pV e.2.1], by simp only [repC]; rfl, rfl⟩
    · simp at hx
end
end Go.Proofs.Ytfdcopbbnmialaa
set_option maxHeartbeats 4000000
namespace Go.Proofs.Ytfdcopbbnmialaa
open Go Go.RowKit
/-- A file: its name, its block, when it was born; its bytes, how many are sure. -/
structure Fil where
  nm : List UInt8
  blk : Nat
  born : Nat
  b : List UInt8
  sure : Nat
structure Dsk where
  room : Int
  fuse : Int
  dead : Bool
  fs : List Fil
  clk : Nat
def Fil.e (f : Fil) : PE := (f.nm, f.blk, f.born)
def Dsk.es (D : Dsk) : List PE := D.fs.map Fil.e
def Fil.O (f : Fil) : HO := .var f.blk (.agg [.sl 1 (f.b.map byA), .i .i64 f.sure])
def dskV (bm : Nat) (D : Dsk) : AV := .agg [.i .i64 D.room, .own 1 (.map (some bm)), .i .i64 D.fuse, .b D.dead]
/-- What a disk is in memory: its variable, its map, its files. -/
def dskL (bd bm : Nat) (D : Dsk) : List HO := [.var bd (dskV bm D), .obj bm (mpO D.es D.clk), grpL (D.fs.map Fil.O)]
structure Dsk.ok (D : Dsk) : Prop where
  nd : (D.fs.map (·.nm)).Nodup
  bn : (D.fs.map (·.born)).Nodup
  lt : ∀ f ∈ D.fs, f.born < D.clk
  nl : ∀ f ∈ D.fs, f.nm.length ≤ 100
  su : ∀ f ∈ D.fs, f.sure ≤ f.b.length
  room : 0 ≤ D.room ∧ D.room ≤ 1099511627776
def usedF (l : List Fil) : Nat := (l.map (·.b.length)).sum
def Dsk.used (D : Dsk) : Nat := usedF D.fs
def Dsk.get (D : Dsk) (nm : List UInt8) : Option Fil := D.fs.find? (fun f => f.nm == nm)
theorem fnd_find (nm : List UInt8) : ∀ (l : List Fil) (i : Nat), (fndP nm (l.map Fil.e) i).map (·.2) = (l.find? (fun f => f.nm == nm)).map (·.blk)
  | [], _ => rfl
  | f :: r, i => by
    rw [List.map_cons, List.find?_cons]
    unfold fndP
    show ((if nm = f.nm then some (i, f.blk) else fndP nm (r.map Fil.e) (i + 1)).map (·.2)) = _
    by_cases h : nm = f.nm
    · rw [if_pos h, beq_iff_eq.2 h.symm]; rfl
    · rw [if_neg h, beq_eq_false_iff_ne.2 (fun e => h e.symm)]
      exact fnd_find nm r (i + 1)
theorem blkP_get (D : Dsk) (nm : List UInt8) : blkP nm D.es = (D.get nm).map (·.blk) := fnd_find nm D.fs 0
theorem get_mem {D : Dsk} {nm : List UInt8} {f : Fil} (h : D.get nm = some f) : f ∈ D.fs ∧ f.nm = nm := by
  have h1 := List.mem_of_find?_eq_some h
  have h2 := List.find?_some h
  exact ⟨h1, beq_iff_eq.1 h2⟩
/-- A file behind another one of its name. -/
def putF (l : List Fil) (nm : List UInt8) (g : Fil → Fil) : List Fil := l.map (fun f => if f.nm = nm then g f else f)
theorem usedF_perm {l l' : List Fil} (h : l.Perm l') : usedF l = usedF l' := (h.map _).sum_nat
theorem usedF_cons (f : Fil) (l : List Fil) : usedF (f :: l) = f.b.length + usedF l := by unfold usedF; rw [List.map_cons, List.sum_cons]
theorem fs_pull {D : Dsk} {q l : List Fil} (hq : (q ++ l).Perm D.fs) (_bn : (D.fs.map (·.born)).Nodup) {e : PE} (he : e ∈ D.es) (hv : e.2.2 ∉ (q.map Fil.e).map (·.2.2)) : ∃ f l', f.e = e ∧ l.Perm (f :: l') ∧ D.fs.Perm (f :: (q ++ l')) := by
  obtain ⟨f, hf, rfl⟩ := List.mem_map.1 he
  have hnq : f ∉ q := fun h => hv (by rw [List.map_map]; exact List.mem_map.2 ⟨f, h, rfl⟩)
  have hl : f ∈ l := by
    rcases List.mem_append.1 (hq.mem_iff.2 hf) with h | h
    · exact absurd h hnq
    · exact h
  obtain ⟨s, t, rfl⟩ := List.append_of_mem hl
  have h1 : (s ++ f :: t).Perm (f :: (s ++ t)) := List.perm_middle
  refine ⟨f, s ++ t, rfl, h1, hq.symm.trans ?_⟩
  refine ((List.Perm.refl q).append h1).trans ?_
  exact List.perm_middle
theorem fs_all {D : Dsk} {q l : List Fil} (hq : (q ++ l).Perm D.fs) (bn : (D.fs.map (·.born)).Nodup) (h : ∀ e ∈ D.es, e.2.2 ∈ (q.map Fil.e).map (·.2.2)) : l = [] := by
  cases l with
  | nil => rfl
  | cons f l =>
    exfalso
    have hf : f ∈ D.fs := hq.mem_iff.1 (List.mem_append_right _ (List.mem_cons_self ..))
    have h1 := h f.e (List.mem_map.2 ⟨f, hf, rfl⟩)
    rw [List.map_map] at h1
    obtain ⟨g, hg, he⟩ := List.mem_map.1 h1
    have hnd := (hq.map (·.born)).nodup_iff.2 bn
    rw [List.map_append, List.map_cons] at hnd
    have he : g.born = f.born := he
    exact (List.nodup_append.1 hnd).2.2 g.born (List.mem_map.2 ⟨g, hg, rfl⟩) f.born (List.mem_cons_self ..) he
end Go.Proofs.Ytfdcopbbnmialaa
