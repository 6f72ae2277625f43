/- Things owned together are taken apart and put together; maps from texts to pointers. No program in sight. -/
import Derived.Test.YtfdcopbbnmialaaV19Z
namespace Go.Proofs.Ytfdcopbbnmialaa
open Go Go.RowKit

section
variable {P : Program} {C : Ctx} {S : St} {a : Act} {w : World} {K : Exit → St → Prop}
/-- What is owned, told otherwise. -/
theorem Sat.regroup (h : Sat C S a w) (H : List (Nat × HO)) (hp : (blks H).Perm (blks S.heap)) (hk : ∀ w F, (∀ p ∈ S.heap, HOk w F p.2) → ∀ p ∈ H, HOk w F p.2) : Sat C ⟨S.n, S.slots, H⟩ a w := by
  have hF : ∀ b, Fz C S.heap w b → Fz C H w b := fun b hb => ⟨hb.1, fun hin => hb.2.1 (hp.mem_iff.1 hin), hb.2.2⟩
  exact ⟨h.n, h.df, fun i => repV_mono hF (fun _ _ => rfl) _ _ (h.slots i), fun p hp2 => HOk_mono hF (hk w _ h.heap p hp2), hp.nodup_iff.2 h.nd, fun b hb => h.lt b (hp.mem_iff.1 hb), h.mod⟩
theorem Awp.regroup {c : Code} (H : List (Nat × HO)) (hp : (blks H).Perm (blks S.heap)) (hk : ∀ w F, (∀ p ∈ S.heap, HOk w F p.2) → ∀ p ∈ H, HOk w F p.2) (h : Awp P C c ⟨S.n, S.slots, H⟩ K) : Awp P C c S K := ⟨fun a w hs => h.out a w (hs.regroup H hp hk)⟩
theorem blks_cons2 (k : Nat) (x : HO) (H : List (Nat × HO)) : blks ((k, x) :: H) = x.blk ++ blks H := blks_cons _ _
theorem ok_grpL {w : World} {F : Nat → Prop} {os : List HO} (hn : (oblks os).Nodup) (h : ∀ o ∈ os, HOk w F o) : HOk w F (grpL os) := ⟨hn, fun b hb => by
  obtain ⟨o, ho, hbo⟩ := List.mem_flatMap.1 hb
  exact HOk_lt (h o ho) b hbo, h⟩
/-- One thing of a group is taken out. -/
theorem Sat.pull {n : Nat} {sl : List (Nat × AV)} {hp hp' : List (Nat × HO)} (k k1 : Nat) {os : List HO} {o : HO} {rest : List HO} (hg : hget hp k = some (grpL os)) (hos : os.Perm (o :: rest)) (hs : Sat C ⟨n, sl, hp⟩ a w) (hh : (k1, o) :: (k, grpL rest) :: hdel hp k = hp') : Sat C ⟨n, sl, hp'⟩ a w := by
  subst hh
  have hpm : (blks ((k1, o) :: (k, grpL rest) :: hdel hp k)).Perm (blks hp) := by
    rw [blks_cons2, blks_cons2, ← List.append_assoc]
    refine List.Perm.trans (List.Perm.append_right _ ?_) (hdel_perm hg).symm
    have := oblks_perm hos
    rw [oblks_cons] at this
    exact this.symm
  have hn : (oblks rest).Nodup := by
    have h1 := hpm.nodup_iff.2 hs.nd
    rw [blks_cons2, blks_cons2] at h1
    exact (List.nodup_append.1 (List.nodup_append.1 h1).2.1).1
  refine Sat.regroup (S := ⟨n, sl, hp⟩) hs _ hpm (fun w F hall p hp2 => ?_)
  obtain ⟨pre, post, e1⟩ := hget_key hg
  have hgo := grpL_ok (hall (k, grpL os) (by show (k, grpL os) ∈ hp; rw [e1]; simp))
  rcases List.mem_cons.1 hp2 with rfl | hp2
  · exact hgo o (hos.mem_iff.2 (List.mem_cons_self ..))
  rcases List.mem_cons.1 hp2 with rfl | hp2
  · exact ok_grpL hn (fun x hx => hgo x (hos.mem_iff.2 (List.mem_cons_of_mem _ hx)))
  · exact hall p ((hdel_blks hg).2.2 p hp2)
/-- One thing is put into a group. -/
theorem Sat.push {n : Nat} {sl : List (Nat × AV)} {hp hp' : List (Nat × HO)} (k k1 : Nat) {os : List HO} {o : HO} {rest : List HO} (h1 : hget hp k1 = some o) (hg : hget (hdel hp k1) k = some (grpL rest)) (hos : os.Perm (o :: rest)) (hs : Sat C ⟨n, sl, hp⟩ a w) (hh : (k, grpL os) :: hdel (hdel hp k1) k = hp') : Sat C ⟨n, sl, hp'⟩ a w := by
  subst hh
  have hpm : (blks ((k, grpL os) :: hdel (hdel hp k1) k)).Perm (blks hp) := by
    rw [blks_cons2]
    refine List.Perm.trans ?_ (hdel_perm h1).symm
    refine List.Perm.trans ?_ (List.Perm.append_left _ (hdel_perm hg).symm)
    rw [← List.append_assoc]
    refine List.Perm.append_right _ ?_
    have := oblks_perm hos
    rw [oblks_cons] at this
    exact this
  have hn : (oblks os).Nodup := by
    have h2 := hpm.nodup_iff.2 hs.nd
    rw [blks_cons2] at h2
    exact (List.nodup_append.1 h2).1
  refine Sat.regroup (S := ⟨n, sl, hp⟩) hs _ hpm (fun w F hall p hp2 => ?_)
  obtain ⟨pre, post, e1⟩ := hget_key h1
  obtain ⟨pre2, post2, e2⟩ := hget_key hg
  have hgo := grpL_ok (hall (k, grpL rest) ((hdel_blks h1).2.2 _ (by rw [e2]; simp)))
  rcases List.mem_cons.1 hp2 with rfl | hp2
  · refine ok_grpL hn (fun x hx => ?_)
    rcases List.mem_cons.1 (hos.mem_iff.1 hx) with rfl | hx
    · exact hall (k1, x) (by show (k1, x) ∈ hp; rw [e1]; simp)
    · exact hgo x hx
  · exact hall p ((hdel_blks h1).2.2 p ((hdel_blks hg).2.2 p hp2))
theorem Awp.pull {c : Code} {n : Nat} {sl : List (Nat × AV)} {hp hp' : List (Nat × HO)} (k k1 : Nat) {os : List HO} {o : HO} {rest : List HO} (hg : hget hp k = some (grpL os)) (hos : os.Perm (o :: rest)) (hh : (k1, o) :: (k, grpL rest) :: hdel hp k = hp') (h : Awp P C c ⟨n, sl, hp'⟩ K) : Awp P C c ⟨n, sl, hp⟩ K :=
  ⟨fun a w hs => h.out a w (Sat.pull k k1 hg hos hs hh)⟩
theorem Awp.push {c : Code} {n : Nat} {sl : List (Nat × AV)} {hp hp' : List (Nat × HO)} (k k1 : Nat) {os : List HO} {o : HO} {rest : List HO} (h1 : hget hp k1 = some o) (hg : hget (hdel hp k1) k = some (grpL rest)) (hos : os.Perm (o :: rest)) (hh : (k, grpL os) :: hdel (hdel hp k1) k = hp') (h : Awp P C c ⟨n, sl, hp'⟩ K) : Awp P C c ⟨n, sl, hp⟩ K :=
  ⟨fun a w hs => h.out a w (Sat.push k k1 h1 hg hos hs hh)⟩
theorem Ops.pull {ops : Array Oper} {l : List Oper} {K : St → Prop} {n : Nat} {sl : List (Nat × AV)} {hp hp' : List (Nat × HO)} (k k1 : Nat) {os : List HO} {o : HO} {rest : List HO} (hg : hget hp k = some (grpL os)) (hos : os.Perm (o :: rest)) (hh : (k1, o) :: (k, grpL rest) :: hdel hp k = hp') (h : Ops .text P C ops l ⟨n, sl, hp'⟩ K) : Ops .text P C ops l ⟨n, sl, hp⟩ K :=
  ⟨fun Q E a w hs hK => h.out Q E a w (Sat.pull k k1 hg hos hs hh) hK⟩
theorem Ops.push {ops : Array Oper} {l : List Oper} {K : St → Prop} {n : Nat} {sl : List (Nat × AV)} {hp hp' : List (Nat × HO)} (k k1 : Nat) {os : List HO} {o : HO} {rest : List HO} (h1 : hget hp k1 = some o) (hg : hget (hdel hp k1) k = some (grpL rest)) (hos : os.Perm (o :: rest)) (hh : (k, grpL os) :: hdel (hdel hp k1) k = hp') (h : Ops .text P C ops l ⟨n, sl, hp'⟩ K) : Ops .text P C ops l ⟨n, sl, hp⟩ K :=
  ⟨fun Q E a w hs hK => h.out Q E a w (Sat.push k k1 h1 hg hos hs hh) hK⟩
end
end Go.Proofs.Ytfdcopbbnmialaa
namespace Go.Proofs.Ytfdcopbbnmialaa
open Go Go.RowKit

/-- An entry: the key, the block that is pointed to, when it was born. -/
abbrev PE := List UInt8 × Nat × Nat
def pV (b : Nat) : Value := .pointer (some ⟨b, 0, none⟩)
def entP (e : PE) : MapEntry := ⟨vS e.1, pV e.2.1, e.2.2⟩
def mpO (es : List PE) (c : Nat) : Obj := .map (es.map entP).toArray c
/-- Where a key is: its place, its block. -/
def fndP (k : List UInt8) : List PE → Nat → Option (Nat × Nat)
  | [], _ => none
  | e :: r, i => if k = e.1 then some (i, e.2.1) else fndP k r (i + 1)
def blkP (k : List UInt8) (es : List PE) : Option Nat := (fndP k es 0).map (·.2)
theorem findNow_P (k : List UInt8) : ∀ (es : List PE) (i : Nat), Instr.findNow .string (vS k) (es.map entP) i = some ((fndP k es i).map (fun q => (q.1, pV q.2)))
  | [], _ => rfl
  | e :: r, i => by
    have h := keyS.now k e.1
    rw [List.map_cons]
    unfold Instr.findNow fndP
    show (match Instr.sameNow .string (vS k) (vS e.1) with | some true => some (some (i, pV e.2.1)) | some false => Instr.findNow .string (vS k) (r.map entP) (i + 1) | none => none) = _
    rw [h]
    by_cases hk : k = e.1
    · rw [if_pos hk, beq_iff_eq.2 hk]; rfl
    · rw [if_neg hk, beq_eq_false_iff_ne.2 hk]
      exact findNow_P k r (i + 1)
section
variable {P : Program} {w : World} {b c : Nat} {t kt et : TypeId} {es : List PE}
theorem findKey_P (k : List UInt8) (hkt : P.underlying kt = some .string) : (Instr.findKey kt (vS k) (es.map entP).toArray.toList).run P w = .ok ((fndP k es 0).map (fun q => (q.1, pV q.2))) w := by
  unfold Instr.findKey
  simp only [Sem.run_bind, run_underlying hkt, Result.andThen_ok]
  rw [findNow_P]
  rfl
theorem lookup_P (k : List UInt8) (hb : w.heap[b]? = some (mpO es c)) (ht : P.underlying t = some (.map kt et)) (hkt : P.underlying kt = some .string) (hz : (zeroValue et).run P w = .ok (.pointer none) w) :
    (Instr.lookup t (.map (some b)) (vS k) false).run P w = .ok (match blkP k es with | some q => pV q | none => .pointer none) w := by
  have hck : ∀ e, (Instr.checkKey e 10000 kt (vS k)).run P w = .ok () w := fun e => keyS.plain P w e kt k hkt
  unfold Instr.lookup
  unfold mpO at hb
  simp only [Sem.run_bind, run_underlying ht, Result.andThen_ok, Sem.run_pure, getObj_run w hb, hck, findKey_P k hkt]
  unfold blkP
  cases fndP k es 0 with
  | none => simp [hz]
  | some q => simp [Sem.run_pure]
theorem update_P (k : List UInt8) (q : Nat) (hb : w.heap[b]? = some (mpO es c)) (ht : P.underlying t = some (.map kt et)) (hkt : P.underlying kt = some .string) (hn : blkP k es = none) :
    (Instr.mapUpdate t (.map (some b)) (vS k) (pV q)).run P w = .ok () (setB w b (mpO (es ++ [(k, q, c)]) (c + 1))) := by
  have hck : ∀ e, (Instr.checkKey e 10000 kt (vS k)).run P w = .ok () w := fun e => keyS.plain P w e kt k hkt
  have hf : fndP k es 0 = none := by
    unfold blkP at hn
    cases h : fndP k es 0 with
    | none => rfl
    | some q => rw [h] at hn; cases hn
  unfold Instr.mapUpdate
  unfold mpO at hb
  simp only [Sem.run_bind, run_underlying ht, Result.andThen_ok, getObj_run w hb, hck, findKey_P k hkt, hf, Option.map_none, setObj_run w hb]
  congr 2
  unfold mpO
  rw [List.map_append]
  simp [entP]
theorem ptr_zero {T : List (Nat × TI)} (hT : TTOk P T) {t sz by_ : Nat} {e : Nat} (ht : tget T t = some ⟨.ptr e, sz, by_, .nilp⟩) (w : World) : (zeroValue t).run P w = .ok (.pointer none) w := by
  rcases (tget_ok hT ht).zero with h0 | ⟨cs, h1, h2⟩
  · cases h0
  · have h1 : cs = [.pointer none] := by simpa [flatZ] using h1.symm
    subst h1
    cases hi : P.info? t with
    | none => rw [hi] at h2; cases h2
    | some i =>
      rw [hi] at h2
      have h2 : i.zero = some (.pointer none) := by simpa [ofCells, AV.isAgg] using h2
      simp [zeroValue, typeInfo, hi, h2]
end
section
variable {m : OM} {P : Program} {T : List (Nat × TI)} {C : Ctx} {ops : Array Oper} {l : List Oper} {K : St → Prop} {n : Nat} {sl : List (Nat × AV)} {hp : List (Nat × HO)} {d : Nat} {ty : Nat} {pos : String} {aft : Array Edge} {gd : Option (Nat × Bool)}
theorem str_val {w : World} {F : Nat → Prop} {s : List UInt8} {u : Value} (h : repV w F (.s s) u) : u = vS s := by
  rw [repV_s] at h; exact h.1
/-- What a key is mapped to. -/
def pqA (kf : Nat) : Option Nat → AV
  | some q => .ptr kf q [] 0
  | none => .nilp
theorem o_lookupP (kf : Nat) (hT : TTOk P T) (hw : gval ops ⟨n, sl, hp⟩ gd = gwant gd) {t kt et e sz by_ sz1 by1 sz2 by2 k b c : Nat} {z z2 : AV} {x ix : Operand} {es : List PE} {s : List UInt8} {r : AV}
    (ht : tget T t = some ⟨.map kt et, sz, by_, z⟩) (hkt : tget T kt = some ⟨.string, sz2, by2, z2⟩) (het : tget T et = some ⟨.ptr e, sz1, by1, .nilp⟩)
    (hx : ev ⟨n, sl, hp⟩ x = .own k (.map (some b))) (hg : hget hp k = some (.obj b (mpO es c))) (hy : ev ⟨n, sl, hp⟩ ix = .s s) (hr : pqA kf (blkP s es) = r)
    (hd : Nat.blt d n = true) (h : Ops m P C ops l ⟨n, (d, r) :: sl, hp⟩ K) : Ops m P C ops (⟨some d, .lookup t x ix false, ty, pos, aft, gd⟩ :: l) ⟨n, sl, hp⟩ K := by
  subst hr
  refine Ops.eff hw [] oke_nil rfl fun a w hs => ⟨(match blkP s es with | some q => pV q | none => .pointer none), w, _, pqA kf (blkP s es), ?_, hs, hd, ?_, Eff.same (Mod.refl _ w), h⟩
  · have Ex := ev_rep hs x
    rw [hx, repV_own] at Ex
    have Ey := ev_rep hs ix
    rw [hy] at Ey
    have Ey := str_val Ey
    have hb : w.heap[b]? = some (mpO es c) := hs.getHeap hg
    have := lookup_P s hb (map_desc hT ht) (tk_string (tget_ok hT hkt)) (ptr_zero hT het w)
    simp only [execOp, Ex.1, Ey, Sem.run_bind, this, Result.andThen_ok, Sem.run_pure]
  · cases blkP s es with
    | none => exact repV_nilp.2 rfl
    | some q => exact repV_ptr.2 rfl
theorem o_updateP (hT : TTOk P T) (hw : gval ops ⟨n, sl, hp⟩ gd = gwant gd) {t kt et sz by_ sz2 by2 k b c kf q : Nat} {z z2 : AV} {x ix y : Operand} {es : List PE} {s : List UInt8}
    (ht : tget T t = some ⟨.map kt et, sz, by_, z⟩) (hkt : tget T kt = some ⟨.string, sz2, by2, z2⟩)
    (hx : ev ⟨n, sl, hp⟩ x = .own k (.map (some b))) (hg : hget hp k = some (.obj b (mpO es c))) (hi : ev ⟨n, sl, hp⟩ ix = .s s) (hy : ev ⟨n, sl, hp⟩ y = .ptr kf q [] 0) (hn : blkP s es = none)
    {hp' : List (Nat × HO)} (hm : m.oke none [k] = true) (hh : forceL (hset hp k (.obj b (mpO (es ++ [(s, q, c)]) (c + 1)))) = some hp') (h : Ops m P C ops l ⟨n, sl, hp'⟩ K) : Ops m P C ops (⟨none, .mapUpdate t x ix y, ty, pos, aft, gd⟩ :: l) ⟨n, sl, hp⟩ K := by
  have hh := forceL_eq _ _ hh
  subst hh
  refine Ops.effS hw [k] hm rfl fun a w hs => ?_
  have Ex := ev_rep hs x
  rw [hx, repV_own] at Ex
  have Ei := ev_rep hs ix
  rw [hi] at Ei
  have Ei := str_val Ei
  have Ey := ev_rep hs y
  rw [hy, repV_ptr] at Ey
  have hb : w.heap[b]? = some (mpO es c) := hs.getHeap hg
  have hlt := (Array.getElem?_eq_some_iff.1 hb).1
  have hrun := update_P s q hb (map_desc hT ht) (tk_string (tget_ok hT hkt)) hn
  have hm0 : Mod (fun b' => b' ∈ HO.blk (.obj b (mpO es c))) w (setB w b (mpO (es ++ [(s, q, c)]) (c + 1))) := Mod.setB_ (S := fun b' => b' ∈ HO.blk (.obj b (mpO es c))) (List.mem_singleton.2 rfl) _
  refine ⟨_, ⟨n, sl, hset hp k (.obj b (mpO (es ++ [(s, q, c)]) (c + 1)))⟩, ?_, hs.swap hg (.obj b (mpO (es ++ [(s, q, c)]) (c + 1))) hm0 ?_ (fun b' hb' => ?_), Eff.swap hg hm0 (fun _ h => .inl h), h⟩
  · have hrun : (Instr.mapUpdate t (.map (some b)) (vS s) (.pointer (some ⟨q, 0, none⟩))).run P w = .ok () (setB w b (mpO (es ++ [(s, q, c)]) (c + 1))) := hrun
    simp only [execOp, Ex.1, Ei, Ey, Sem.run_bind, hrun, Result.andThen_ok, Sem.run_pure]
  · show (w.heap.setIfInBounds b _)[b]? = _
    rw [Array.getElem?_setIfInBounds_self_of_lt hlt]
  · have : b = b' := (List.mem_singleton.1 hb').symm
    subst this
    exact ⟨by simpa [setB] using hlt, .inl (List.mem_singleton.2 rfl)⟩
theorem o_lenP (hT : TTOk P T) (hw : gval ops ⟨n, sl, hp⟩ gd = gwant gd) {t kt et sz by_ k b c : Nat} {z : AV} {x : Operand} {es : List PE}
    (ht : tget T t = some ⟨.map kt et, sz, by_, z⟩) (hx : ev ⟨n, sl, hp⟩ x = .own k (.map (some b))) (hg : hget hp k = some (.obj b (mpO es c))) (hm : m.okc (some d) (some (some k)) = true)
    (hd : Nat.blt d n = true) (h : Ops m P C ops l ⟨n, (d, .i .i64 es.length) :: sl, hp⟩ K) : Ops m P C ops (⟨some d, .call ⟨.builtin .len, #[x], #[t]⟩, ty, pos, aft, gd⟩ :: l) ⟨n, sl, hp⟩ K := by
  refine Ops.by (d := some d) hw (some (some k)) hm hd rfl (fun a w hs => ?_) h
  have Ex := ev_rep hs x
  rw [hx, repV_own] at Ex
  have hb : w.heap[b]? = some (mpO es c) := hs.getHeap hg
  refine ⟨.int .i64 es.length, repV_i.2 rfl, fun w' hr => ?_⟩
  have hb' : w'.heap[b]? = some (mpO es c) := (hr _ b hg (List.mem_singleton.2 rfl)).trans hb
  unfold mpO at hb'
  simp [execOp, resolve, invoke, builtin, Sem.run_bind, Sem.run_pure, Ex.1, Builtin.len_, run_underlying (map_desc hT ht), getObj_run w' hb', goInt]
end
end Go.Proofs.Ytfdcopbbnmialaa
