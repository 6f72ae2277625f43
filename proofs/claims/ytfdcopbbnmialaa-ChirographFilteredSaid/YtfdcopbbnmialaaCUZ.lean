/- law03.Cut, ref02.Number, Text, Flag by rules: for chapters that do not use the filters. -/
import Derived.Test.YtfdcopbbnmialaaKWZ
import Derived.Test.YtfdcopbbnmialaaV19Z
import Derived.Lib.FrozenHead
set_option maxHeartbeats 4000000
namespace Go.Proofs.Ytfdcopbbnmialaa
open Go Go.RowKit
def txB (t : List UInt8) : List UInt8 := numBytes t.length ++ t
theorem cut_spec (s : List UInt8) (n : Nat) (hn : n ≤ 1000000000000) : Spec Try.prog 7 [.s s, .i .i64 n] [] (fun v os => v = .s (s.take n) ∧ os = []) := by
  refine spec_of TtOk [] Try.func7 rfl Try.ntmps7 (by kernel_rfl) rfl rfl (fun C => ?_) rfl
  repeat' (first | refine Awp.seq ?_ | refine Awp.region ?_ | (refine Ops.nil ?_; show Awp _ _ _ _ _) | (refine Awp.skip ?_; show Awp _ _ _ _ _) | (refine Awp.ret ?_; show endK _ _ _ _ _) | (refine o_calm rfl TtOk rfl rfl rfl ?_ (fun _ => ?_); first | exact True.intro | exact ⟨rfl, rfl, rfl, rfl⟩ | exact ⟨rfl, True.intro⟩ | exact ⟨rfl, rfl⟩ | exact ⟨rfl, rfl, rfl⟩ | exact rfl | exact ⟨fun h0 => by cases h0, rfl⟩ | exact (fun h0 => by cases h0) | exact ⟨rfl, by omega⟩ | exact ⟨Nat.succ_ne_zero _, rfl⟩ | omega) | (refine a_condP rfl (fun hc => ?_) (fun hc => ?_)) <;> (try (exfalso; omega)))
  · refine o_sliceStr TtOk rfl 0 n rfl rfl rfl bnd_none (bnd_some rfl rfl) (by omega) (by omega) ?_
    repeat' (first | (refine Ops.nil ?_; show Awp _ _ _ _ _) | (refine Awp.ret ?_; show endK _ _ _ _ _) | (refine o_calm rfl TtOk rfl rfl rfl ?_ (fun _ => ?_); first | exact True.intro | exact ⟨rfl, rfl, rfl, rfl⟩ | exact ⟨rfl, True.intro⟩ | exact ⟨rfl, rfl⟩ | exact ⟨rfl, rfl, rfl⟩ | exact rfl | exact ⟨fun h0 => by cases h0, rfl⟩ | exact (fun h0 => by cases h0) | exact ⟨rfl, by omega⟩ | exact ⟨Nat.succ_ne_zero _, rfl⟩ | omega))
    exact end_tmp rfl rfl rfl [] [] (CLe.of_eq rfl) .nil ⟨rfl, rfl⟩ _ (.inl rfl)
  · refine end_tmp rfl rfl rfl [] [] (CLe.of_eq ?_) .nil ⟨rfl, rfl⟩ _ (.inl rfl)
    rw [List.take_of_length_le (by omega)]; rfl
end Go.Proofs.Ytfdcopbbnmialaa
set_option maxHeartbeats 4000000
namespace Go.Proofs.Ytfdcopbbnmialaa
open Go Go.RowKit
def cellB (c : UInt8) : Value := .int .u8 (c.toNat : Int)
/-- The slice v holds the bytes xs, at the head of the object o of the block b. -/
def MRow (v : Value) (o : Obj) (e : TypeId) (b : Nat) (xs : List UInt8) : Prop :=
  ∃ cur fz cap, v = .slice (some ⟨b, 0, none⟩) xs.length cap ∧ o = .cells cur e fz ∧ (cur.size ≤ fz.1 ∨ fz.2 = 0) ∧ xs.length ≤ cap ∧ cap ≤ maxLen ∧ cur.size = cap ∧ cur.toList.take xs.length = xs.map cellB
section
variable {P : Program} (w : World)
end
section
variable {P : Program} {w : World}
end
section
variable {m : OM} {P : Program} {T : List (Nat × TI)} {C : Ctx} {ops : Array Oper} {l : List Oper} {K : St → Prop} {n : Nat} {sl : List (Nat × AV)} {hp : List (Nat × HO)} {d : Nat} {ty : Nat} {pos : String} {aft : Array Edge} {gd : Option (Nat × Bool)}
theorem o_lenM (hT : TTOk P T) (hw : gval ops ⟨n, sl, hp⟩ gd = gwant gd) {x : Operand} {t e k b : Nat} {v : Value} {o : Obj} {e' : TypeId} {xs : List UInt8} {sz0 by0 : Nat} {z0 : AV} (hx : ev ⟨n, sl, hp⟩ x = .own k v) (hM : MRow v o e' b xs)
    (ht : tget T t = some ⟨.slice e, sz0, by0, z0⟩) (hd : Nat.blt d n = true) (h : Ops m P C ops l ⟨n, (d, .i .i64 xs.length) :: sl, hp⟩ K) : Ops m P C ops (⟨some d, .call ⟨.builtin .len, #[x], #[t]⟩, ty, pos, aft, gd⟩ :: l) ⟨n, sl, hp⟩ K := by
  refine Ops.by (d := some d) hw none okc_none hd rfl (fun a w hs => ?_) h
  have Ex := ev_rep hs x
  rw [hx, repV_own] at Ex
  obtain ⟨cur, fz, cap, rfl, _⟩ := hM
  refine ⟨.int .i64 xs.length, repV_i.2 rfl, fun w' _ => ?_⟩
  simp [execOp, resolve, invoke, builtin, Sem.run_bind, Sem.run_pure, Ex.1, Builtin.len_, run_underlying (tk_slice (tget_ok hT ht))]
  rfl
end
theorem Sat.freezeM {C : Ctx} {S : St} {a : Act} {w : World} (h : Sat C S a w) {k d e b : Nat} {v : Value} {o : Obj} {xs : List UInt8} (hM : MRow v o e b xs) (hg : hget S.heap k = some (.obj b o)) (hd : S.slot d = .own k v) : Sat C ⟨S.n, (d, .sl 1 (xs.map byA)) :: S.slots, hdel S.heap k⟩ a w := by
  obtain ⟨j1, j2, j3⟩ := hdel_blks hg
  have h1 := h.del hg
  refine ⟨h1.n, h1.df, fun i => ?_, h1.heap, h1.nd, h1.lt, h1.mod⟩
  have hslot : (⟨S.n, (d, AV.sl 1 (xs.map byA)) :: S.slots, hdel S.heap k⟩ : St).slot i = if d = i then .sl 1 (xs.map byA) else S.slot i := lookD_put ⟨S.n, S.slots, hdel S.heap k⟩ d i (.sl 1 (xs.map byA))
  rw [hslot]
  by_cases hi : d = i
  · subst hi
    rw [if_pos rfl]
    have hs := h.slots d
    rw [hd, repV_own] at hs
    have hr : w.heap[b]? = some o := h.getHeap hg
    rw [hs.1]
    obtain ⟨cur, fz, cap, rfl, rfl, g1, g2, g3, g4, g5⟩ := hM
    have hF : Fz C (hdel S.heap k) w b := ⟨(h.lt b (blk_mem hg (List.mem_singleton.2 rfl))).1, (j2 h.nd).2 b (List.mem_singleton.2 rfl), .inr (h.lt b (blk_mem hg (List.mem_singleton.2 rfl))).2⟩
    refine repV_sl.2 ⟨_, cap, by rw [List.length_map], by rw [List.length_map]; exact g2, g3, fun _ => ⟨b, 0, rfl, hF, repRow_bytes xs 0 (fun j c hj => ?_)⟩⟩
    rw [Nat.zero_add, cell_of_row w b j cur e fz hr]
    have hjl := (List.getElem?_eq_some_iff.1 hj).1
    have h6 : (cur.toList.take xs.length)[j]? = some (cellB c) := by rw [g5, List.getElem?_map, hj]; rfl
    rw [List.getElem?_take, if_pos hjl, Array.getElem?_toList] at h6
    exact h6
  · rw [if_neg hi]; exact h1.slots i
section
variable {m : OM} {P : Program} {C : Ctx} {ops : Array Oper} {o : Oper} {l : List Oper} {K : St → Prop} {n : Nat} {sl : List (Nat × AV)} {hp : List (Nat × HO)}
theorem a_freezeM {cc : Code} {K : Exit → St → Prop} {hp' : List (Nat × HO)} (k d : Nat) {e b : Nat} {v : Value} {ob : Obj} {xs : List UInt8} (hM : MRow v ob e b xs) (hg : hget hp k = some (.obj b ob)) (hd : lookD sl d = .own k v) (hh : hdel hp k = hp')
    (h : Awp P C cc ⟨n, (d, .sl 1 (xs.map byA)) :: sl, hp'⟩ K) : Awp P C cc ⟨n, sl, hp⟩ K := by
  subst hh
  exact ⟨fun a w hs => h.out a w (hs.freezeM (S := ⟨n, sl, hp⟩) hM hg hd)⟩
end
end Go.Proofs.Ytfdcopbbnmialaa
set_option maxHeartbeats 4000000
namespace Go.Proofs.Ytfdcopbbnmialaa
open Go Go.RowKit
section
variable {m : OM} {P : Program} {T : List (Nat × TI)} {C : Ctx} {ops : Array Oper} {l : List Oper} {K : St → Prop} {n : Nat} {sl : List (Nat × AV)} {hp : List (Nat × HO)} {d : Nat} {ty : Nat} {pos : String} {aft : Array Edge} {gd : Option (Nat × Bool)}
/-- A row of bytes, converted to its own type: it bears a mark from then on. -/
theorem o_convM (hT : TTOk P T) (hw : gval ops ⟨n, sl, hp⟩ gd = gwant gd) {t e e0 k : Nat} {x : Operand} {v : Value} {zs : List AV} (xs : List UInt8) {sz0 by0 sz1 by1 : Nat} {z0 z1 : AV} {hp' : Nat → Obj → List (Nat × HO)}
    (hx : ev ⟨n, sl, hp⟩ x = .own k v) (hg : hget hp k = some (.row v e0 1 zs)) (hzs : zs = xs.map byA) (hpos : Nat.blt 0 xs.length = true) (h1 : tget T t = some ⟨.slice e, sz0, by0, z0⟩) (h2 : tget T e = some ⟨.int .u8, sz1, by1, z1⟩)
    (hd : Nat.blt d n = true) (hm : m.oke (some d) [k] = true) (hh : ∀ b' o', hset hp k (.obj b' o') = hp' b' o')
    (h : ∀ b o, MRow v o e0 b xs → Ops m P C ops l ⟨n, (d, .own k v) :: sl, hp' b o⟩ K) : Ops m P C ops (⟨some d, .convert t t x, ty, pos, aft, gd⟩ :: l) ⟨n, sl, hp⟩ K := by
  subst hzs
  refine Ops.eff hw [k] hm (by simp [effOp, tk_slice (tget_ok hT h1)]) fun a w hs => ?_
  have Ex := ev_rep hs x
  rw [hx, repV_own] at Ex
  have hrow := hs.getHeap hg
  have hpos := blt_lt hpos
  obtain ⟨b, hb⟩ : ∃ b, v.ownBlock = some b := by
    obtain ⟨cells, g1, g2⟩ := hrow
    rcases g2.2 with ⟨rfl, h0'⟩ | ⟨g, cap, cur, rfl, _⟩
    · rw [List.length_map] at h0'; omega
    · exact ⟨g, rfl⟩
  obtain ⟨cells, cap, cur, g1, hv, g3, g4, g5, g6, g7⟩ := row_block hrow hb
  rw [List.length_map] at hv g4 g7
  subst hv
  have hcells := bytes_cells xs cells g1
  rw [Nat.mul_one] at g6 g7
  have hlt : b < w.heap.size := g3.lt
  have hge : w.heap[b] = .cells cur e0 (0, 0) := (Array.getElem?_eq_some_iff.1 g3).2
  have hsh : w.shape? b = some (e0, cur.size) := by
    unfold World.shape?
    rw [g3]
  have hnew : (w.freeze ⟨b, cur.size, none⟩ 1).heap[b]? = some (.cells cur e0 (cur.size, cur.size + 1)) := by
    unfold World.freeze
    rw [if_neg (by decide)]
    simp only []
    rw [Array.getElem?_eq_getElem (by simpa using hlt), Array.getElem_modify]
    simp [hge]
  have hmod : Mod (fun b1 => b1 ∈ HO.blk (.row (.slice (some ⟨b, 0, none⟩) xs.length cap) e0 1 (xs.map byA))) w (w.freeze ⟨b, cur.size, none⟩ 1) := by
    refine ⟨?_, ?_, ?_, ?_, fun q _ hq => ?_⟩
    · unfold World.freeze; rfl
    · unfold World.freeze; rfl
    · unfold World.freeze; rfl
    · unfold World.freeze; simp
    · have : q ≠ b := fun he => hq (by subst he; exact row_blk hb)
      unfold World.freeze
      rw [if_neg (by decide)]
      simp [Array.getElem?_modify, Ne.symm this]
  have hM : MRow (.slice (some ⟨b, 0, none⟩) xs.length cap) (.cells cur e0 (cur.size, cur.size + 1)) e0 b xs :=
    ⟨cur, _, cap, rfl, rfl, .inl (Nat.le_refl _), g4, g5, g6, by rw [g7, hcells]; rfl⟩
  have hrun : (convert t t (.slice (some ⟨b, 0, none⟩) xs.length cap)).run P w = .ok (.slice (some ⟨b, 0, none⟩) xs.length cap) (w.freeze ⟨b, cur.size, none⟩ 1) := by
    simp only [convert, Sem.run_bind, run_underlying (tk_slice (tget_ok hT h1)), run_underlying (tk_int (tget_ok hT h2)), Result.andThen_ok, beq_self_eq_true, markStringish, run_shape, hsh, run_freeze, Sem.run_pure]
  refine ⟨_, _, ⟨n, sl, hset hp k (.obj b (.cells cur e0 (cur.size, cur.size + 1)))⟩, .own k (.slice (some ⟨b, 0, none⟩) xs.length cap), ?_, hs.swap hg (.obj b _) hmod hnew (fun b1 hb1 => ?_), hd, repV_own.2 ⟨rfl, Ex.2⟩, Eff.swap hg hmod (fun b1 hb1 => ?_), by rw [hh]; exact h _ _ hM⟩
  · simp only [execOp, Ex.1, Sem.run_bind, hrun, Result.andThen_ok, Sem.run_pure]
  · have hb2 : b = b1 := (List.mem_singleton.1 hb1).symm
    subst hb2
    exact ⟨by have := hmod.size; omega, .inl (row_blk hb)⟩
  · have hb2 : b = b1 := (List.mem_singleton.1 hb1).symm
    subst hb2
    exact .inl (row_blk hb)
/-- The address of an element of a marked row. -/
theorem o_indexM (hT : TTOk P T) (hw : gval ops ⟨n, sl, hp⟩ gd = gwant gd) {t : Nat} {x ix : Operand} {k b : Nat} {v : Value} {o : Obj} {e0 : TypeId} {xs : List UInt8} {i : Int} {kk : IntKind} {e sz0 by_ : Nat} {z : AV} {te : TI}
    (hx : ev ⟨n, sl, hp⟩ x = .own k v) (hM : MRow v o e0 b xs) (hi : ev ⟨n, sl, hp⟩ ix = .i kk i) (ht : tget T t = some ⟨.slice e, sz0, by_, z⟩) (he : tget T e = some te) (hsz : te.sz = 1)
    (hd : Nat.blt d n = true) (j : Nat) (hj : i = j) (hn : j < xs.length) (h : Ops m P C ops l ⟨n, (d, .ptr k b [j] j) :: sl, hp⟩ K) : Ops m P C ops (⟨some d, .indexAddr t x ix, ty, pos, aft, gd⟩ :: l) ⟨n, sl, hp⟩ K := by
  subst hj
  refine Ops.by (d := some d) hw none okc_none hd rfl (fun a w hs => ?_) h
  have Ex := ev_rep hs x; have Ei := ev_rep hs ix
  rw [hx, repV_own] at Ex
  rw [hi, repV_i] at Ei
  obtain ⟨cur, fz, cap, rfl, rfl, g1, g2, g3, g4, g5⟩ := hM
  refine ⟨_, repV_ptr.2 rfl, fun w' _ => ?_⟩
  have := indexAt_slice_run (P := P) (tget_ok hT ht) (tget_ok hT he) b 0 xs.length cap (j : Int) kk (by omega) (by omega) w'
  rw [Nat.zero_add, hsz, Nat.mul_one] at this
  simp only [execOp, Ex.1, Ei, Sem.run_bind, this, Result.andThen_ok, Sem.run_pure]
  rfl
/-- A byte stored into a marked row. -/
theorem o_storeM (hT : TTOk P T) (hw : gval ops ⟨n, sl, hp⟩ gd = gwant gd) {t : Nat} {x y : Operand} {k b j off sz1 by1 : Nat} {z1 : AV} {v : Value} {o : Obj} {e0 : TypeId} {xs : List UInt8} {c : UInt8} {u : AV} {hp' : Obj → List (Nat × HO)}
    (hx : ev ⟨n, sl, hp⟩ x = .ptr k b [j] off) (ho : j = off) (hM : MRow v o e0 b xs) (hg : hget hp k = some (.obj b o)) (ht : tget T t = some ⟨.int .u8, sz1, by1, z1⟩) (hs1 : sz1 = 1) (hy : ev ⟨n, sl, hp⟩ y = u) (hu : u = byA c) (hj : j < xs.length)
    (hm : m.oke none [k] = true) (hh : ∀ o', hset hp k (.obj b o') = hp' o')
    (h : ∀ o', MRow v o' e0 b (xs.set j c) → Ops m P C ops l ⟨n, sl, hp' o'⟩ K) : Ops m P C ops (⟨none, .store t x y, ty, pos, aft, gd⟩ :: l) ⟨n, sl, hp⟩ K := by
  subst hs1; subst ho; subst hu
  refine Ops.effS hw [k] hm rfl fun a w hs => ?_
  have Ex := ev_rep hs x
  have Ey := ev_rep hs y
  rw [hx, repV_ptr] at Ex
  rw [hy, show byA c = AV.i .u8 (c.toNat : Int) from rfl, repV_i] at Ey
  have hob : w.heap[b]? = some o := hs.getHeap hg
  obtain ⟨cur, fz, cap, hv, rfl, g1, g2, g3, g4, g5⟩ := hM
  have hbl := (Array.getElem?_eq_some_iff.1 hob).1
  have hthere : w.there b j 1 := by
    intro i hi
    have : i = 0 := by omega
    subst this
    refine ⟨?_, ?_⟩
    · rw [Nat.add_zero, cell_of_row w b j cur e0 fz hob, Array.getElem?_eq_getElem (by omega)]; rfl
    · obtain ⟨lo, hi'⟩ := fz
      simp only [World.frozen?, hob, Bool.and_eq_false_iff, decide_eq_false_iff_not, Nat.add_zero]
      simp only at g1
      omega
  have hrc : repC w (Fz C hp w) (byA c) [cellB c] := by
    unfold byA
    simp only [repC]; rfl
  have hst := storeAt_run (P := P) (tget_ok hT ht) (y := byA c) ⟨rfl, rfl⟩ hrc (b := b) (o := j) hthere
  have hsetc : w.setCells b j [cellB c] = w.setRow b (cur.setIfInBounds j (cellB c)) := by
    show (w.setCell ⟨b, j, none⟩ (cellB c)) = _
    exact setCell_eq_setRow w b j cur e0 fz (cellB c) hob
  have hnew := setRow_heap w b cur (cur.setIfInBounds j (cellB c)) e0 fz hob
  have hmod : Mod (fun b1 => b1 ∈ HO.blk (.obj b (.cells cur e0 fz))) w (w.setRow b (cur.setIfInBounds j (cellB c))) :=
    ⟨rfl, rfl, rfl, by simp, fun q _ hq => setRow_other w b q _ (fun he => hq (by subst he; exact List.mem_singleton.2 rfl))⟩
  have hM' : MRow v (.cells (cur.setIfInBounds j (cellB c)) e0 fz) e0 b (xs.set j c) := by
    refine ⟨_, fz, cap, by rw [List.length_set]; exact hv, rfl, by rw [Array.size_setIfInBounds]; exact g1, by rw [List.length_set]; exact g2, g3, by rw [Array.size_setIfInBounds]; exact g4, ?_⟩
    rw [List.length_set, Array.toList_setIfInBounds, List.take_set, g5, List.map_set]
  refine ⟨_, ⟨n, sl, hset hp k (.obj b (.cells (cur.setIfInBounds j (cellB c)) e0 fz))⟩, ?_, hs.swap hg (.obj b _) hmod hnew (fun b1 hb1 => ?_), Eff.swap hg hmod (fun b1 hb1 => .inl hb1), by rw [hh]; exact h _ hM'⟩
  · rw [hsetc] at hst
    have hst : (Instr.storeAt t (.pointer (some ⟨b, j, none⟩)) (cellB c)).run P w = .ok () (w.setRow b (cur.setIfInBounds j (cellB c))) := hst
    simp only [execOp, Ex, Ey, Sem.run_bind]
    rw [show Value.int .u8 (c.toNat : Int) = cellB c from rfl, hst]
    simp only [Result.andThen_ok, Sem.run_pure]
  · have hb2 : b = b1 := (List.mem_singleton.1 hb1).symm
    subst hb2
    exact ⟨by have := hmod.size; omega, .inl (List.mem_singleton.2 rfl)⟩
end
end Go.Proofs.Ytfdcopbbnmialaa
