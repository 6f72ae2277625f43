/- Bytes out of a string that are appended to: a row with a mark. -/
import Derived.Test.YtcmgpkibjdbonaaGreatV17Z
import Derived.Lib.FrozenHead
import Derived.Test.YtcmgpkibjdbonaaGreatV26Z
import Derived.Laws.StructEq
import Derived.Test.YtcmgpkibjdbonaaGreatSA2
set_option maxHeartbeats 4000000
namespace Go.Proofs.YtcmgpkibjdbonaaGreat
open Go Go.RowKit
def cellB (c : UInt8) : Value := .int .u8 (c.toNat : Int)
/-- The slice v holds the bytes xs, at the head of the object o of the block b. -/
def MRow (v : Value) (o : Obj) (e : TypeId) (b : Nat) (xs : List UInt8) : Prop :=
  ∃ cur fz cap, v = .slice (some ⟨b, 0, none⟩) xs.length cap ∧ o = .cells cur e fz ∧ (cur.size ≤ fz.1 ∨ fz.2 = 0) ∧ xs.length ≤ cap ∧ cap ≤ maxLen ∧ cur.size = cap ∧ cur.toList.take xs.length = xs.map cellB
theorem set_take (l : List Value) (v : Value) (rest : List Value) (k : Nat) (h : k < l.length) :
    (l.set k v).take (k + 1) ++ rest ++ (l.set k v).drop (k + 1 + rest.length) = l.take k ++ v :: rest ++ l.drop (k + (v :: rest).length) := by
  have e : l.set k v = l.take k ++ v :: l.drop (k + 1) := by rw [List.set_eq_take_append_cons_drop, if_pos h]
  have hl : (l.take k).length = k := by rw [List.length_take]; omega
  have e1 : (l.take k ++ v :: l.drop (k + 1)).take (k + 1) = l.take k ++ [v] := by
    rw [List.take_append, hl, show k + 1 - k = 1 by omega, List.take_of_length_le (by omega)]; rfl
  have e2 : (l.take k ++ v :: l.drop (k + 1)).drop (k + 1 + rest.length) = l.drop (k + (v :: rest).length) := by
    rw [List.drop_append, hl, List.drop_eq_nil_of_le (by omega), show k + 1 + rest.length - k = rest.length + 1 by omega, List.drop_succ_cons, List.drop_drop, List.length_cons, List.nil_append]
    congr 1; omega
  rw [e, e1, e2, List.append_assoc, List.append_assoc, List.append_assoc]; rfl
theorem storeMark (P : Program) (g o : Nat) (t : TypeId) (fz : Nat × Nat) : ∀ (vs : List Value) (i : Nat) (cur : Array Value) (w : World), w.heap[g]? = some (.cells cur t fz) → (cur.size ≤ fz.1 ∨ fz.2 = 0) → o + i + vs.length ≤ cur.size → (∀ v ∈ vs, v.oneCell' = true) →
    (storeCells ⟨g, o, none⟩ vs i).run P w = .ok () (w.setRow g (cur.toList.take (o + i) ++ vs ++ cur.toList.drop (o + i + vs.length)).toArray)
  | [], i, cur, w, hg, _, _, _ => by
    simp only [storeCells, List.append_nil, List.length_nil, Nat.add_zero, List.take_append_drop, Array.toArray_toList]
    rw [setRow_self w g cur t fz hg]; rfl
  | v :: rest, i, cur, w, hg, hz, hl, h1 => by
    rw [List.length_cons] at hl
    have hi : o + i < cur.size := by omega
    have hadd : (⟨g, o, none⟩ : Addr).add i = ⟨g, o + i, none⟩ := by unfold Addr.add; split <;> simp_all
    have hcell : w.cell? ⟨g, o + i, none⟩ = some cur[o + i] := by simp [World.cell?, hg, hi]
    have hfro : w.frozen? ⟨g, o + i, none⟩ = false := by
      obtain ⟨lo, hi'⟩ := fz
      simp only [World.frozen?, hg, Bool.and_eq_false_iff, decide_eq_false_iff_not]
      simp only at hz
      omega
    have hst : (store ((⟨g, o, none⟩ : Addr).add i) v).run P w = .ok () (w.setRow g (cur.setIfInBounds (o + i) v)) := by
      rw [hadd, run_store P w _ v _ (h1 v (by simp)), hcell]
      simp [hfro, setCell_eq_setRow w g (o + i) cur t fz v hg]
    have ih := storeMark P g o t fz rest (i + 1) (cur.setIfInBounds (o + i) v) (w.setRow g (cur.setIfInBounds (o + i) v)) (setRow_heap w g cur _ t _ hg) (by rw [Array.size_setIfInBounds]; exact hz) (by rw [Array.size_setIfInBounds]; omega) (fun x hx => h1 x (by simp [hx]))
    simp only [storeCells, Sem.run_bind, hst, Result.andThen_ok, ih, setRow_setRow]
    congr 3
    rw [Array.toList_setIfInBounds]
    have hi2 : o + i < cur.toList.length := by rw [Array.length_toList]; exact hi
    exact set_take cur.toList v rest (o + i) hi2
section
variable {P : Program} (w : World)
theorem append_room_mark (t ty e : TypeId) (i : TypeInfo) (ht : P.underlying t = some (.slice e)) (hi : P.info? e = some i) (h1s : i.size = 1)
    (g sLen sCap : Nat) (cur : Array Value) (fz : Nat × Nat) (hg : w.heap[g]? = some (.cells cur e fz)) (hz : cur.size ≤ fz.1 ∨ fz.2 = 0)
    (a : Addr) (m c : Nat) (news : List Value) (hl : news.length = m) (hnews : ∀ j u, news[j]? = some u → w.cell? (a.add j) = some u) (h1 : ∀ u ∈ news, u.oneCell' = true)
    (hroom : sLen + m ≤ sCap) (hfit : sLen + news.length ≤ cur.size) :
    (Builtin.append_ #[t, t] ty #[.slice (some ⟨g, 0, none⟩) sLen sCap, .slice (some a) m c]).run P w =
      .ok (.slice (some ⟨g, 0, none⟩) (sLen + m) sCap) (w.setRow g (cur.toList.take sLen ++ news ++ cur.toList.drop (sLen + news.length)).toArray) := by
  have hf := run_firstCells_some (P := P) w i.size m a m c news (by rw [h1s, hl, Nat.mul_one]) hnews
  have hst := storeMark P g (sLen * i.size) e fz news 0 cur w hg hz (by rw [h1s]; simpa using hfit) h1
  rw [h1s] at hst hf
  simp only [Nat.add_zero, Nat.mul_one] at hst
  simp [Builtin.append_, run_underlying ht, sizeOf, typeInfo, hi, h1s, Builtin.lenOf, hroom, hf, Addr.add_lit, hst]
end
section
variable {P : Program} {w : World}
theorem mrow_append {t e by_ : Nat} (hE : Elem P t e 1 by_) (ty : Nat) {v : Value} {o : Obj} {b : Nat} {xs ys : List UInt8} (hM : MRow v o e b xs) (hb : w.heap[b]? = some o) (A : Option Addr) (c : Nat) (_hy : 0 < ys.length)
    (hA : ∃ b2 off, A = some ⟨b2, off, none⟩ ∧ w.rangeAt b2 off (ys.map cellB)) (hlen : (xs.length + ys.length) * by_ ≤ 140737488355328) (hlen2 : xs.length + ys.length ≤ 9223372036854775807) :
    ∃ v' o' b' w', (Builtin.append_ #[t, t] ty #[v, .slice A ys.length c]).run P w = .ok v' w' ∧ MRow v' o' e b' (xs ++ ys) ∧ w'.heap[b']? = some o' ∧ v'.oneCell' = true ∧ (b' = b ∨ b' = w.heap.size) ∧ b' < w'.heap.size ∧ Mod (fun k => k = b) w w' := by
  obtain ⟨i, z, hi, hz, hz1, hz2, hz3⟩ := hE.info
  obtain ⟨cur, fz, cap, rfl, rfl, h1, h2, h3, h4, h5⟩ := hM
  obtain ⟨b2, off, rfl, hr⟩ := hA
  have hnl : (ys.map cellB).length = ys.length := List.length_map ..
  have hnews : ∀ j u, (ys.map cellB)[j]? = some u → w.cell? ((⟨b2, off, none⟩ : Addr).add j) = some u := fun j u hj => by
    have hadd : (⟨b2, off, none⟩ : Addr).add j = ⟨b2, off + j, none⟩ := by unfold Addr.add; split <;> simp_all
    rw [hadd]; exact hr j u hj
  have hone : ∀ u ∈ ys.map cellB, u.oneCell' = true := fun u hu => by
    obtain ⟨q, _, rfl⟩ := List.mem_map.1 hu; rfl
  have hbl := (Array.getElem?_eq_some_iff.1 hb).1
  have hct : cur.toList.length = cap := by rw [Array.length_toList, h4]
  by_cases hroom : xs.length + ys.length ≤ cap
  · have hrun := append_room_mark (P := P) w t ty e i hE.ut hi hz1 b xs.length cap cur fz hb h1 ⟨b2, off, none⟩ ys.length c (ys.map cellB) hnl hnews hone hroom (by rw [hnl, h4]; exact hroom)
    refine ⟨_, _, b, _, hrun, ⟨_, fz, cap, by rw [List.length_append], rfl, ?_, by rw [List.length_append]; exact hroom, h3, ?_, ?_⟩, setRow_heap w b cur _ e fz hb, rfl, .inl rfl, by simpa using hbl, ?_⟩
    · rcases h1 with h1 | h1
      · refine .inl ?_
        simp only [List.size_toArray, List.length_append, List.length_take, List.length_drop, hct, hnl]
        omega
      · exact .inr h1
    · simp only [List.size_toArray, List.length_append, List.length_take, List.length_drop, hct, hnl]; omega
    · show List.take (xs ++ ys).length (cur.toList.take xs.length ++ ys.map cellB ++ cur.toList.drop (xs.length + (ys.map cellB).length)) = _
      rw [h5, List.map_append, ← List.map_append, List.take_append_of_le_length (by rw [List.length_map]; exact Nat.le_refl _), List.take_of_length_le (by rw [List.length_map]; exact Nat.le_refl _)]
    · exact ⟨rfl, rfl, rfl, by simp, fun k _ hk => setRow_other w b k _ hk⟩
  · have holds : ∀ j u, (xs.map cellB)[j]? = some u → w.cell? ((⟨b, 0, none⟩ : Addr).add j) = some u := fun j u hj => by
      have hadd : (⟨b, 0, none⟩ : Addr).add j = ⟨b, j, none⟩ := by unfold Addr.add; split <;> simp_all
      rw [hadd, cell_of_row w b j cur e fz hb]
      rw [← h5, List.getElem?_take] at hj
      split at hj
      · simpa using hj
      · cases hj
    have hrun := run_append_grow (P := P) w t ty e i z hE.ut hi hz ⟨b, 0, none⟩ xs.length cap (xs.map cellB) (by rw [hz1, List.length_map, Nat.mul_one]) holds ⟨b2, off, none⟩ ys.length c (ys.map cellB) (by rw [hz1, hnl, Nat.mul_one]) hnews (by omega) (by omega) (by rw [hz2]; exact growslice_fits (by omega) hlen)
    have hge := grownCap_ge w (xs.length + ys.length) cap e
    have hcm : grownCap w (xs.length + ys.length) cap e ≤ maxLen := grownCap_le_maxLen w (xs.length + ys.length) cap e (by unfold maxLen; omega)
    refine ⟨_, _, w.heap.size, _, hrun, ⟨_, (0, 0), grownCap w (xs.length + ys.length) cap e, by rw [List.length_append], rfl, .inr rfl, by rw [List.length_append]; exact hge, hcm, ?_, ?_⟩, heap_alloc_new w.drew _, rfl, .inr rfl, ?_, ?_⟩
    · simp only [Array.size_append, List.size_toArray, size_zeroCells, hz3, hnl, List.length_map]; omega
    · simp only [Array.toList_append, List.length_append]
      rw [List.map_append, ← List.length_append, show (xs ++ ys).length = (xs.map cellB ++ ys.map cellB).length by simp]
      exact List.take_left
    · have : (w.drew.alloc (.cells (xs.map cellB |>.toArray) e)).heap.size = w.heap.size + 1 := by simp
      simp
    · exact ((Mod.refl _ w).drew).alloc _
end
section
variable {m : OM} {P : Program} {T : List (Nat × TI)} {C : Ctx} {ops : Array Oper} {l : List Oper} {K : St → Prop} {n : Nat} {sl : List (Nat × AV)} {hp : List (Nat × HO)} {d : Nat} {ty : Nat} {pos : String} {aft : Array Edge} {gd : Option (Nat × Bool)}
theorem o_toBytesM (hT : TTOk P T) (hw : gval ops ⟨n, sl, hp⟩ gd = gwant gd) {src dst e : Nat} {x : Operand} {s : List UInt8} {k1 : TI} {sz0 by0 : Nat} {z0 : AV} {sz1 by1 : Nat} {z1 : AV}
    (hx : ev ⟨n, sl, hp⟩ x = .s s) (h1 : tget T src = some k1) (h2 : tget T dst = some ⟨.slice e, sz0, by0, z0⟩) (h3 : tget T e = some ⟨.int .u8, sz1, by1, z1⟩)
    (hd : Nat.blt d n = true) (h : ∀ v b o, MRow v o e b s → Ops m P C ops l ⟨n, (d, .own d v) :: sl, (d, .obj b o) :: hp⟩ K) : Ops m P C ops (⟨some d, .convert src dst x, ty, pos, aft, gd⟩ :: l) ⟨n, sl, hp⟩ K := by
  refine Ops.eff hw [] oke_nil (by simp [effOp, tk_slice (tget_ok hT h2)]) fun a w hs => ?_
  have Ex := ev_rep hs x
  rw [hx, repV_s] at Ex
  obtain ⟨ds, hds, _⟩ := (tget_ok hT h1).desc
  have hrun := Lib.run_convert_string_bytes (P := P) w src dst e (bytesOf s) hds (tk_slice (tget_ok hT h2)) (tk_int (tget_ok hT h3))
  have hm : Mod None_ w (Lib.bytesWorld w e (bytesOf s)) := Mod.of_below ⟨rfl, rfl, rfl, by rw [Lib.bytesWorld_size]; omega, fun k hk => Lib.bytesWorld_at_old w e (bytesOf s) k hk⟩
  have hcap : s.length ≤ grownCap w (bytesOf s).size 0 e ∧ grownCap w (bytesOf s).size 0 e ≤ maxLen :=
    ⟨grownCap_ge w (bytesOf s).size 0 e, grownCap_le_maxLen w (bytesOf s).size 0 e Ex.2⟩
  have hnew := Lib.bytesWorld_at_new w e (bytesOf s)
  have hsz : (Lib.bytesCells w e (bytesOf s)).size = grownCap w (bytesOf s).size 0 e := by
    unfold Lib.bytesCells
    rw [Array.size_append, Array.size_map, Array.size_replicate]
    have h8 : s.length ≤ grownCap w s.length 0 e := grownCap_ge w s.length 0 e
    show s.length + (grownCap w s.length 0 e - s.length) = grownCap w s.length 0 e
    omega
  have hmr : MRow (.slice (some ⟨w.heap.size, 0, none⟩) s.length (grownCap w (bytesOf s).size 0 e)) (.cells (Lib.bytesCells w e (bytesOf s)) e ((Lib.bytesCells w e (bytesOf s)).size, (Lib.bytesCells w e (bytesOf s)).size + 1)) e w.heap.size s := by
    refine ⟨_, _, _, rfl, rfl, .inl (Nat.le_refl _), hcap.1, hcap.2, hsz, ?_⟩
    unfold Lib.bytesCells
    rw [Array.toList_append, Array.toList_map]
    show List.take s.length (List.map _ s ++ _) = _
    rw [List.take_append_of_le_length (by rw [List.length_map]; exact Nat.le_refl _), List.take_of_length_le (by rw [List.length_map]; exact Nat.le_refl _)]; rfl
  refine ⟨.slice (some ⟨w.heap.size, 0, none⟩) s.length (grownCap w (bytesOf s).size 0 e), Lib.bytesWorld w e (bytesOf s), ⟨n, sl, (d, .obj w.heap.size _) :: hp⟩, .own d _, ?_, hs.new d _ hm hnew (fun b hb => ?_), hd, repV_own.2 ⟨rfl, rfl⟩, Eff.new hm (fun b hb => Nat.le_of_eq (by simpa [HO.blk] using hb)), h _ _ _ hmr⟩
  · simp only [execOp, Ex.1, Sem.run_bind, hrun, Result.andThen_ok, Sem.run_pure]; rfl
  · have : w.heap.size = b := by simpa [HO.blk] using hb
    subst this
    rw [Lib.bytesWorld_size]
    exact ⟨by omega, Nat.le_refl _⟩
theorem o_lenM (hT : TTOk P T) (hw : gval ops ⟨n, sl, hp⟩ gd = gwant gd) {x : Operand} {t e k b : Nat} {v : Value} {o : Obj} {e' : TypeId} {xs : List UInt8} {sz0 by0 : Nat} {z0 : AV} (hx : ev ⟨n, sl, hp⟩ x = .own k v) (hM : MRow v o e' b xs)
    (ht : tget T t = some ⟨.slice e, sz0, by0, z0⟩) (hd : Nat.blt d n = true) (h : Ops m P C ops l ⟨n, (d, .i .i64 xs.length) :: sl, hp⟩ K) : Ops m P C ops (⟨some d, .call ⟨.builtin .len, #[x], #[t]⟩, ty, pos, aft, gd⟩ :: l) ⟨n, sl, hp⟩ K := by
  refine Ops.by (d := some d) hw none okc_none hd rfl (fun a w hs => ?_) h
  have Ex := ev_rep hs x
  rw [hx, repV_own] at Ex
  obtain ⟨cur, fz, cap, rfl, _⟩ := hM
  refine ⟨.int .i64 xs.length, repV_i.2 rfl, fun w' _ => ?_⟩
  simp [execOp, resolve, invoke, builtin, Sem.run_bind, Sem.run_pure, Ex.1, Builtin.len_, run_underlying (tk_slice (tget_ok hT ht))]
  rfl
theorem o_appendM (hT : TTOk P T) (hw : gval ops ⟨n, sl, hp⟩ gd = gwant gd) {x y : Operand} {t e k b sz0 by0 bs sz1 : Nat} {z0 z1 : AV} {tk : TK} {v : Value} {o : Obj} {xs ys : List UInt8} {zs : List AV} {p : Prop} {hp' : Nat → Obj → List (Nat × HO)}
    (hM : MRow v o e b xs) (ht : tget T t = some ⟨.slice e, sz0, by0, z0⟩) (he : tget T e = some ⟨tk, sz1, bs, z1⟩) (hz : z1.isVal = true) (hsz : sizeA z1 = sz1) (hs1 : sz1 = 1)
    (hx : ev ⟨n, sl, hp⟩ x = .own k v) (hg : hget hp k = some (.obj b o)) (hy : srcOf hp (ev ⟨n, sl, hp⟩ y) = some (p, 1, zs)) (hp0 : p) (hzs : zs = ys.map byA) (hyl : 0 < ys.length)
    (hd : Nat.blt d n = true) (hm : m.oke (some d) [k] = true) (hlen : (xs.length + ys.length) * bs ≤ 140737488355328) (hlen2 : xs.length + ys.length ≤ 9223372036854775807) (hh : ∀ b' o', hset hp k (.obj b' o') = hp' b' o')
    (h : ∀ v' b' o', MRow v' o' e b' (xs ++ ys) → Ops m P C ops l ⟨n, (d, .own k v') :: sl, hp' b' o'⟩ K) : Ops m P C ops (⟨some d, .call ⟨.builtin .append, #[x, y], #[t, t]⟩, ty, pos, aft, gd⟩ :: l) ⟨n, sl, hp⟩ K := by
  subst hs1; subst hzs
  refine Ops.eff hw [k] hm rfl fun a w hs => ?_
  have hE := elem_tt hT ht he hz hsz (by decide)
  have Ex := ev_rep hs x
  rw [hx, repV_own] at Ex
  obtain ⟨A, c, news, hv, h1, h2, h3, h4⟩ := srcOf_rep hs hy hp0 (ev_rep hs y)
  have hnews := bytes_cells ys news h3
  subst hnews
  rw [List.length_map] at hv h4
  have hob : w.heap[b]? = some o := hs.getHeap hg
  obtain ⟨v', o', b', w', r1, r2, r3, r4, r5, r6, r7⟩ := mrow_append hE ty hM hob A c hyl (h4 (by omega)) hlen hlen2
  have hmod : Mod (fun b1 => HO.blk (.obj b o) = some b1) w w' := r7.mono (fun k _ hk => by show some b = some k; rw [hk])
  refine ⟨v', w', ⟨n, sl, hset hp k (.obj b' o')⟩, .own k v', ?_, hs.swap hg (.obj b' o') hmod r3 (fun b1 hb1 => ?_), hd, repV_own.2 ⟨rfl, r4⟩, Eff.swap hg hmod (fun b1 hb1 => ?_), by rw [hh]; exact h v' b' o' r2⟩
  · simp only [execOp, resolve, invoke, builtin, Sem.run_bind, Sem.run_pure, Result.andThen_ok, List.map_toArray, List.map_cons, List.map_nil, Ex.1, hv, r1]
  · have hb2 : b' = b1 := by simpa [HO.blk] using hb1
    subst hb2
    refine ⟨r6, ?_⟩
    rcases r5 with r5 | r5
    · exact .inl (by show some b = some b'; rw [r5])
    · exact .inr (by omega)
  · have hb2 : b' = b1 := by simpa [HO.blk] using hb1
    subst hb2
    rcases r5 with r5 | r5
    · exact .inl (by show some b = some b'; rw [r5])
    · exact .inr (by omega)
end
theorem Sat.freezeM {C : Ctx} {S : St} {a : Act} {w : World} (h : Sat C S a w) {k d e b : Nat} {v : Value} {o : Obj} {xs : List UInt8} (hM : MRow v o e b xs) (hg : hget S.heap k = some (.obj b o)) (hd : S.slot d = .own k v) : Sat C ⟨S.n, (d, .sl 1 (xs.map byA)) :: S.slots, hdel S.heap k⟩ a w := by
  obtain ⟨j1, j2, j3⟩ := hdel_blks hg
  have h1 := h.del hg
  refine ⟨h1.n, h1.df, fun i => ?_, h1.heap, h1.nd, h1.lt, h1.mod⟩
  have hslot : (⟨S.n, (d, AV.sl 1 (xs.map byA)) :: S.slots, hdel S.heap k⟩ : St).slot i = if d = i then .sl 1 (xs.map byA) else S.slot i := lookD_put ⟨S.n, S.slots, hdel S.heap k⟩ d i (.sl 1 (xs.map byA))
  rw [hslot]
  by_cases hi : d = i
  · subst hi
    rw [if_pos rfl]
    have hs := h.slots d
    rw [hd, repV_own] at hs
    have hr : w.heap[b]? = some o := h.getHeap hg
    rw [hs.1]
    obtain ⟨cur, fz, cap, rfl, rfl, g1, g2, g3, g4, g5⟩ := hM
    have hF : Fz C (hdel S.heap k) w b := ⟨(h.lt b (blk_mem hg rfl)).1, (j2 h.nd).2 b rfl, .inr (h.lt b (blk_mem hg rfl)).2⟩
    refine repV_sl.2 ⟨_, cap, by rw [List.length_map], by rw [List.length_map]; exact g2, g3, fun _ => ⟨b, 0, rfl, hF, repRow_bytes xs 0 (fun j c hj => ?_)⟩⟩
    rw [Nat.zero_add, cell_of_row w b j cur e fz hr]
    have hjl := (List.getElem?_eq_some_iff.1 hj).1
    have h6 : (cur.toList.take xs.length)[j]? = some (cellB c) := by rw [g5, List.getElem?_map, hj]; rfl
    rw [List.getElem?_take, if_pos hjl, Array.getElem?_toList] at h6
    exact h6
  · rw [if_neg hi]; exact h1.slots i
section
variable {m : OM} {P : Program} {C : Ctx} {ops : Array Oper} {o : Oper} {l : List Oper} {K : St → Prop} {n : Nat} {sl : List (Nat × AV)} {hp : List (Nat × HO)}
theorem a_freezeM {cc : Code} {K : Exit → St → Prop} {hp' : List (Nat × HO)} (k d : Nat) {e b : Nat} {v : Value} {ob : Obj} {xs : List UInt8} (hM : MRow v ob e b xs) (hg : hget hp k = some (.obj b ob)) (hd : lookD sl d = .own k v) (hh : hdel hp k = hp')
    (h : Awp P C cc ⟨n, (d, .sl 1 (xs.map byA)) :: sl, hp'⟩ K) : Awp P C cc ⟨n, sl, hp⟩ K := by
  subst hh
  exact ⟨fun a w hs => h.out a w (hs.freezeM (S := ⟨n, sl, hp⟩) hM hg hd)⟩
end
end Go.Proofs.YtcmgpkibjdbonaaGreat
set_option maxHeartbeats 8000000
set_option maxRecDepth 100000
namespace Go.Proofs.YtcmgpkibjdbonaaGreat
open Go Go.RowKit
structure Pfx where
  n : Int
  l : List UInt8
def Pfx.A (p : Pfx) : AV := pfxA p.n p.l
def Pfx.ok (p : Pfx) : Prop := p.l.length = 32
def goodP (p : Pfx) : Bool := decide (0 ≤ p.n) && (decide (p.n ≤ 256) && (cutL p.l p.n.toNat == p.l))
def hasP (p : Pfx) (l : List UInt8) : Bool := goodP p && decide (p.n ≤ (comL p.l l : Nat))
def overP (p q : Pfx) : Bool := goodP q && (decide (p.n ≤ q.n) && hasP p q.l)
theorem pfx_cells {w : World} {F : Nat → Prop} {n : Int} {l : List UInt8} {v : Value} (h : repV w F (pfxA n l) v) : l.length = 32 ∧ v = .agg (Value.int .i64 n :: l.map cellB).toArray := by
  obtain ⟨cs, hc, he⟩ := h
  simp only [pfxA, labA, repC, repL] at hc
  obtain ⟨c1, c2, rfl, rfl, c3, c4, rfl, ⟨h1, h2⟩, rfl⟩ := hc
  have := bytes_cells l c3 h2
  subst this
  rw [he, List.append_nil]
  exact ⟨by simpa using h1, rfl⟩
theorem pfx_eql (n m : Int) (a b : List UInt8) (ha : a.length = 32) (hb : b.length = 32) (w : World) : (binOp .eql 48 (.agg (Value.int .i64 n :: a.map cellB).toArray) (.agg (Value.int .i64 m :: b.map cellB).toArray)).run Tryz.prog w = .ok (.bool (n == m && a == b)) w := by
  have hS : Tryz.prog.underlying 48 = some (.struct (Tryz.prog.fieldsOf 48)) := by kernel_rfl
  have hh : Tryz.prog.stoodInHeld 48 = false := by kernel_rfl
  have hi : Tryz.prog.underlying 3 = some (.int .i64) := by kernel_rfl
  have hk : Tryz.prog.plainKey 3 = true := by kernel_rfl
  have hu8 : Tryz.prog.underlying 5 = some (.int .u8) := by kernel_rfl
  have hk8 : Tryz.prog.plainKey 5 = true := by kernel_rfl
  have hl : Tryz.prog.underlying 44 = some (.array 32 5) := by kernel_rfl
  have p1 : ∀ (z : Int) (l : List UInt8), (part 3 (Value.int .i64 z :: l.map cellB).toArray 0).run Tryz.prog w = .ok (.int .i64 z) w := fun z l => run_part_plain w hk rfl
  have p2 : ∀ (z : Int) (l : List UInt8), l.length = 32 → (part 44 (Value.int .i64 z :: l.map cellB).toArray 1).run Tryz.prog w = .ok (.agg (l.map cellB).toArray) w := fun z l hl2 => by
    have hsz := (tget_ok TtOk (show tget Tt 44 = some _ from rfl)).sizeRun w
    have hag : (isAgg 44).run Tryz.prog w = .ok true w := by
      unfold isAgg; simp only [Sem.run_bind, run_underlying hl, Result.andThen_ok, Sem.run_pure]
    have hx : ((Value.int .i64 z :: l.map cellB).toArray.extract 1 (1 + 32)) = (l.map cellB).toArray := by
      rw [List.extract_toArray]
      congr 1
      show ((l.map cellB).take 32) = _
      rw [List.take_of_length_le (by rw [List.length_map]; omega)]
    unfold part
    simp only [Sem.run_bind, hag, Result.andThen_ok, if_true, hsz, Sem.run_pure]
    rw [show (1 : Nat) + 32 = 1 + 32 from rfl] at hx
    exact congrArg (fun q => Result.ok (Value.agg q) w) hx
  have p3 := run_equalIn_int (P := Tryz.prog) w 9998 3 .i64 .i64 n m hi
  have p4 : (Op.equalIn (9998 + 1) 44 (.agg (a.map cellB).toArray) (.agg (b.map cellB).toArray)).run Tryz.prog w = .ok (a == b) w := by
    obtain ⟨ie, hie, hies, _⟩ := (tget_ok TtOk (show tget Tt 5 = some _ from rfl)).inf
    have hco : Tryz.prog.cellsOf 5 = 1 := by unfold Program.cellsOf; rw [hie]; exact hies
    have h1 := run_equalIn_array (P := Tryz.prog) w 9998 (a.map cellB).toArray (b.map cellB).toArray hl hie
    have h2 := eqItems_bytes (P := Tryz.prog) (w := w) hu8 hk8 9997 a b (List.range 32) (fun i hi => by have := List.mem_range.1 hi; omega)
    rw [all_range_eq a b 32 ha hb] at h2
    rw [hco] at h1
    rw [h1]
    exact h2
  rw [run_eql_struct, run_equalIn_struct (P := Tryz.prog) w 9999 _ _ _ hS hh]
  simp only [Program.fieldsOf, Tryz.underlying48]
  simp only [Op.eqFields]
  rw [if_pos (by decide)]
  simp only [Sem.run_bind, p1, Result.andThen_ok]
  rw [p3]
  generalize (n == m) = q
  cases q
  · simp only [Result.andThen_ok, Bool.not_false, if_true, Sem.run_pure, Bool.false_and]
  · simp only [Result.andThen_ok, Bool.not_true, Bool.false_eq_true, if_false]
    rw [if_pos (by decide)]
    rw [Sem.run_bind, p2 n a ha, Result.andThen_ok, Sem.run_bind, p2 m b hb, Result.andThen_ok, Sem.run_bind, p4, Result.andThen_ok]
    generalize (a == b) = r
    cases r
    · rfl
    · rfl
section
variable {m : OM} {C : Ctx} {ops : Array Oper} {l : List Oper} {K : St → Prop} {n : Nat} {sl : List (Nat × AV)} {hp : List (Nat × HO)} {d : Nat} {ty : Nat} {pos : String} {aft : Array Edge} {gd : Option (Nat × Bool)}
theorem o_eqPfx (hw : gval ops ⟨n, sl, hp⟩ gd = gwant gd) {u : Nat} {x y : Operand} {p q : Int} {a b : List UInt8} (hx : ev ⟨n, sl, hp⟩ x = pfxA p a) (hy : ev ⟨n, sl, hp⟩ y = pfxA q b) (hd : Nat.blt d n = true)
    (h : Ops m Tryz.prog C ops l ⟨n, (d, .b (p == q && a == b)) :: sl, hp⟩ K) : Ops m Tryz.prog C ops (⟨some d, .binOp .eql 48 x y u, ty, pos, aft, gd⟩ :: l) ⟨n, sl, hp⟩ K := by
  refine Ops.by (d := some d) hw none okc_none hd rfl (fun ac w hs => ?_) h
  have Ex := ev_rep hs x
  have Ey := ev_rep hs y
  rw [hx] at Ex
  rw [hy] at Ey
  obtain ⟨l1, Ex⟩ := pfx_cells Ex
  obtain ⟨l2, Ey⟩ := pfx_cells Ey
  refine ⟨_, repV_b.2 rfl, fun w' _ => ?_⟩
  have hgd := run_eqGuard_agg (P := Tryz.prog) w' .eql 48 x y (Value.int .i64 p :: a.map cellB).toArray (Value.int .i64 q :: b.map cellB).toArray (by kernel_rfl)
  simp only [execOp, Ex, Ey, Sem.run_bind, hgd, pfx_eql p q a b l1 l2, Result.andThen_ok, Sem.run_pure]
end
theorem bgood_spec (p : Pfx) (hp : p.ok) : Spec Tryz.prog 173 [p.A] [] (fun v os => v = .b (goodP p) ∧ os = []) := by
  obtain ⟨n, l⟩ := p
  show Spec Tryz.prog 173 [pfxA n l] [] _
  refine spec_of TtOk [] Tryz.func173 rfl Tryz.ntmps173 (by kernel_rfl) rfl rfl (fun C => ?_) rfl
  have hl : l.length = 32 := hp
  have hcu := bcut_spec l hl n
  by_cases hn : 0 ≤ n ∧ n ≤ 256
  · have hcl : clamp n = n.toNat := by unfold clamp; omega
    have hnn : ((n.toNat : Nat) : Int) = n := by omega
    rw [hcl, hnn] at hcu
    have hg : goodP ⟨n, l⟩ = (cutL l n.toNat == l) := by unfold goodP; rw [decide_eq_true hn.1, decide_eq_true hn.2]; rfl
    rw [hg]
    generalize cutL l n.toNat = c at hcu
    repeat' (first | refine Awp.seq ?_ | refine Awp.region ?_ | refine Ops.nil (nqA ?_) | refine Awp.ret (nqE ?_) | (refine o_calm rfl TtOk rfl rfl rfl ?_ (fun _ => ?_); exact nd) | refine o_box (d := 1) rfl rfl rfl rfl (fun b1 => ?_) | (fail_if_success (refine o_isLit rfl (by first | exact .inl rfl | exact .inr rfl) ?_)); (refine o_splitP rfl rfl (fun hc => ?_) (fun hc => ?_) <;> try (exfalso; omega)) | refine a_any 1 [] [] [] [0, 1, 2, 3, 4, 5, 6, 7, 8, 9, 11, 10, 12, 14, 13, 15, 16, 17] (by kernel_rfl) (by kernel_rfl) (by kernel_rfl) rfl rfl rfl ?_ | (refine o_eqPfx rfl rfl rfl rfl ?_) | refine o_callE rfl (hcu) ⟨nqS, nqS, True.intro⟩ rfl ?_)
    refine end_tmp rfl rfl rfl [] [] (CLe.of_eq ?_) .nil ⟨rfl, rfl⟩ _ (.inl rfl)
    refine congrArg AV.b ?_
    show (n == n && c == l) = (c == l)
    rw [beq_self_eq_true, Bool.true_and]
  · have hg : goodP ⟨n, l⟩ = false := by
      unfold goodP
      by_cases h0 : 0 ≤ n
      · rw [decide_eq_true h0, decide_eq_false (by show ¬ n ≤ 256; omega)]; rfl
      · rw [decide_eq_false (by show ¬ 0 ≤ n; omega)]; rfl
    rw [hg]
    repeat' (first | refine Awp.seq ?_ | refine Awp.region ?_ | refine Ops.nil (nqA ?_) | refine Awp.ret (nqE ?_) | refine o_noT rfl rfl rfl ?_ | (refine o_calm rfl TtOk rfl rfl rfl ?_ (fun _ => ?_); exact nd) | refine o_box (d := 1) rfl rfl rfl rfl (fun b1 => ?_) | (fail_if_success (refine o_isLit rfl (by first | exact .inl rfl | exact .inr rfl) ?_)); (refine o_splitP rfl rfl (fun hc => ?_) (fun hc => ?_) <;> try (exfalso; omega)) | refine a_any 1 [] [] [] [0, 1, 2, 3, 4, 5, 6, 7, 8, 9, 11, 10, 12, 14, 13, 15, 16, 17] (by kernel_rfl) (by kernel_rfl) (by kernel_rfl) rfl rfl rfl ?_)
    all_goals exact nq2
theorem bhas_spec (n : Int) (pl l : List UInt8) (hp : pl.length = 32) (hl : l.length = 32) : Spec Tryz.prog 84 [pfxA n pl, labA l] [] (fun v os => v = .b (hasP ⟨n, pl⟩ l) ∧ os = []) := by
  refine spec_of TtOk [] Tryz.func84 rfl Tryz.ntmps84 (by kernel_rfl) rfl rfl (fun C => ?_) rfl
  have hg := bgood_spec ⟨n, pl⟩ hp
  have hc := bcommon_spec pl l hp hl
  have hh : hasP ⟨n, pl⟩ l = (goodP ⟨n, pl⟩ && decide (n ≤ (comL pl l : Nat))) := rfl
  rw [hh]
  have hA : (Pfx.A ⟨n, pl⟩) = pfxA n pl := rfl
  rw [hA] at hg
  generalize goodP ⟨n, pl⟩ = g at hg
  generalize comL pl l = c at hc
  cases g
  · repeat' (first | refine Awp.seq ?_ | refine Awp.region ?_ | refine Ops.nil (nqA ?_) | refine Awp.ret (nqE ?_) | refine o_noT rfl rfl rfl ?_ | (refine o_calm rfl TtOk rfl rfl rfl ?_ (fun _ => ?_); exact nd) | refine o_box (d := 2) rfl rfl rfl rfl (fun b2 => ?_) | refine o_box (d := 3) rfl rfl rfl rfl (fun b3 => ?_) | refine a_any 1 [] [] [] [0, 1, 2, 3, 7, 4, 5, 8, 6, 9, 10, 11] (by kernel_rfl) (by kernel_rfl) (by kernel_rfl) rfl rfl rfl ?_ | refine o_callE rfl (hg) ⟨nqS, True.intro⟩ rfl ?_)
    exact nq2
  · repeat' (first | refine Awp.seq ?_ | refine Awp.region ?_ | refine Ops.nil (nqA ?_) | refine Awp.ret (nqE ?_) | (refine o_calm rfl TtOk rfl rfl rfl ?_ (fun _ => ?_); exact nd) | refine o_box (d := 2) rfl rfl rfl rfl (fun b2 => ?_) | refine o_box (d := 3) rfl rfl rfl rfl (fun b3 => ?_) | refine a_any 1 [] [] [] [0, 1, 2, 3, 7, 4, 5, 8, 6, 9, 10, 11] (by kernel_rfl) (by kernel_rfl) (by kernel_rfl) rfl rfl rfl ?_ | refine o_callE rfl (hg) ⟨nqS, True.intro⟩ rfl ?_ | refine o_callE rfl (hc) ⟨nqS, nqS, True.intro⟩ rfl ?_)
    exact nq2
theorem bover_spec (p q : Pfx) (hp : p.ok) (hq : q.ok) : Spec Tryz.prog 168 [p.A, q.A] [] (fun v os => v = .b (overP p q) ∧ os = []) := by
  obtain ⟨n, pl⟩ := p
  obtain ⟨m, ql⟩ := q
  show Spec Tryz.prog 168 [pfxA n pl, pfxA m ql] [] _
  refine spec_of TtOk [] Tryz.func168 rfl Tryz.ntmps168 (by kernel_rfl) rfl rfl (fun C => ?_) rfl
  have hg := bgood_spec ⟨m, ql⟩ hq
  have hh := bhas_spec n pl ql hp hq
  have ho : overP ⟨n, pl⟩ ⟨m, ql⟩ = (goodP ⟨m, ql⟩ && (decide (n ≤ m) && hasP ⟨n, pl⟩ ql)) := rfl
  rw [ho]
  have hA : (Pfx.A ⟨m, ql⟩) = pfxA m ql := rfl
  rw [hA] at hg
  generalize goodP ⟨m, ql⟩ = g at hg
  generalize hasP ⟨n, pl⟩ ql = h at hh
  cases g
  · repeat' (first | refine Awp.seq ?_ | refine Awp.region ?_ | refine Ops.nil (nqA ?_) | refine Awp.ret (nqE ?_) | refine o_noT rfl rfl rfl ?_ | (refine o_calm rfl TtOk rfl rfl rfl ?_ (fun _ => ?_); exact nd) | refine o_box (d := 2) rfl rfl rfl rfl (fun b2 => ?_) | refine o_box (d := 3) rfl rfl rfl rfl (fun b3 => ?_) | refine o_callE rfl (hg) ⟨nqS, True.intro⟩ rfl ?_)
    exact nq2
  · by_cases hnm : n ≤ m
    · rw [decide_eq_true hnm]
      repeat' (first | refine Awp.seq ?_ | refine Awp.region ?_ | refine Ops.nil (nqA ?_) | refine Awp.ret (nqE ?_) | (refine o_calm rfl TtOk rfl rfl rfl ?_ (fun _ => ?_); exact nd) | refine o_box (d := 2) rfl rfl rfl rfl (fun b2 => ?_) | refine o_box (d := 3) rfl rfl rfl rfl (fun b3 => ?_) | (fail_if_success (refine o_isLit rfl (by first | exact .inl rfl | exact .inr rfl) ?_)); (refine o_splitP rfl rfl (fun hc => ?_) (fun hc => ?_) <;> try (exfalso; omega)) | refine o_callE rfl (hg) ⟨nqS, True.intro⟩ rfl ?_ | refine o_callE rfl (hh) ⟨nqS, nqS, True.intro⟩ rfl ?_)
      exact nq2
    · rw [decide_eq_false hnm]
      repeat' (first | refine Awp.seq ?_ | refine Awp.region ?_ | refine Ops.nil (nqA ?_) | refine Awp.ret (nqE ?_) | refine o_noT rfl rfl rfl ?_ | (refine o_calm rfl TtOk rfl rfl rfl ?_ (fun _ => ?_); exact nd) | refine o_box (d := 2) rfl rfl rfl rfl (fun b2 => ?_) | refine o_box (d := 3) rfl rfl rfl rfl (fun b3 => ?_) | (fail_if_success (refine o_isLit rfl (by first | exact .inl rfl | exact .inr rfl) ?_)); (refine o_splitP rfl rfl (fun hc => ?_) (fun hc => ?_) <;> try (exfalso; omega)) | refine o_callE rfl (hg) ⟨nqS, True.intro⟩ rfl ?_)
      exact nq2
end Go.Proofs.YtcmgpkibjdbonaaGreat
set_option maxHeartbeats 16000000
set_option maxRecDepth 100000
namespace Go.Proofs.YtcmgpkibjdbonaaGreat
open Go Go.RowKit
def ksC : List Int := [1116352408, 1899447441, 3049323471, 3921009573, 961987163, 1508970993, 2453635748, 2870763221, 3624381080, 310598401, 607225278, 1426881987, 1925078388, 2162078206, 2614888103, 3248222580, 3835390401, 4022224774, 264347078, 604807628, 770255983, 1249150122, 1555081692, 1996064986, 2554220882, 2821834349, 2952996808, 3210313671, 3336571891, 3584528711, 113926993, 338241895, 666307205, 773529912, 1294757372, 1396182291, 1695183700, 1986661051, 2177026350, 2456956037, 2730485921, 2820302411, 3259730800, 3345764771, 3516065817, 3600352804, 4094571909, 275423344, 430227734, 506948616, 659060556, 883997877, 958139571, 1322822218, 1537002063, 1747873779, 1955562222, 2024104815, 2227730452, 2361852424, 2428436474, 2756734187, 3204031479, 3329325298]
def ivC : V8 := ⟨1779033703, 3144134277, 1013904242, 2773480762, 1359893119, 2600822924, 528734635, 1541459225⟩
theorem steps_spec : Spec Tryz.prog 181 [] [] (fun v os => v = .arr 1 64 (ksC.map uI) ∧ os = []) := by
  refine spec_of TtOk [] Tryz.func181 rfl Tryz.ntmps181 (by kernel_rfl) rfl rfl (fun C => ?_) rfl
  obtain ⟨ks, hks⟩ : ∃ ks, ks = ksC.map uI := ⟨_, rfl⟩
  rw [← hks]
  refine Awp.seq ?_
  repeat' (first | refine Awp.region ?_ | refine Ops.nil (nqA ?_) | refine o_alloc rfl TtOk rfl rfl rfl (fun bA => ?_))
  refine Awp.seq ?_
  refine Awp.region ?_
  refine o_buildArr TtOk rfl ks rfl rfl rfl (by kernel_rfl) (by rw [hks]; kernel_rfl) rfl ?_
  clear hks
  repeat' (first | refine Ops.nil (nqA ?_) | refine Awp.ret (nqE ?_) | refine o_store TtOk rfl rfl rfl rfl rfl rfl rfl ⟨rfl, rfl⟩ rfl rfl rfl rfl rfl ?_)
  refine end_all [] [] (.arr 1 64 ks) rfl ?_ ?_ (rle_one (CLe.refl _) rfl) .nil ⟨rfl, rfl⟩ _ (.inl rfl)
  · exact nq1
  · exact ⟨trivial, trivial⟩
end Go.Proofs.YtcmgpkibjdbonaaGreat
