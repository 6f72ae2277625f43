/- Rules: rows read and written by index; make; bytes and strings; structs built. No program in sight. -/
import Derived.Test.YtfdcopbbnmialaaV11
namespace Go.Proofs.Ytfdcopbbnmialaa
open Go Go.RowKit

def byA (c : UInt8) : AV := .i .u8 (c.toNat : Int)
section
variable {m : OM} {P : Program} {T : List (Nat × TI)} {C : Ctx} {S : St} {a : Act} {w : World} {F : Nat → Prop} {ops : Array Oper} {l : List Oper} {K : St → Prop} {d : Nat} {ty : Nat} {pos : String} {aft : Array Edge}
theorem Ops.indexOwn (hT : TTOk P T) {gd : Option (Nat × Bool)} (hw : gval ops S gd = gwant gd) {t : Nat} {x ix : Operand} {k : Nat} {v : Value} {e0 sz : Nat} {xs : List AV} {n : Int} {kk : IntKind} {e sz0 by_ : Nat} {z : AV} {te : TI}
    (hx : ev S x = .own k v) (hg : hget S.heap k = some (.row v e0 sz xs)) (hi : ev S ix = .i kk n) (ht : tget T t = some ⟨.slice e, sz0, by_, z⟩) (he : tget T e = some te) (hsz : te.sz = sz)
    (hd : Nat.blt d S.n = true) (h0 : 0 ≤ n) (hn : n < xs.length) (h : ∀ b, v.ownBlock = some b → Ops m P C ops l (S.put d (.ptr k b [n.toNat] (n.toNat * sz))) K) : Ops m P C ops (⟨some d, .indexAddr t x ix, ty, pos, aft, gd⟩ :: l) S K := by
  refine ⟨fun Q E a w hs hK => ?_⟩
  have hrow := hs.getHeap hg
  have hob : ∃ b, v.ownBlock = some b := by
    obtain ⟨cells, h1, h2⟩ := hrow
    rcases h2.2 with ⟨rfl, h0'⟩ | ⟨g, cap, cur, rfl, _⟩
    · omega
    · exact ⟨g, rfl⟩
  obtain ⟨b, hb⟩ := hob
  refine (Ops.by (d := some d) hw none okc_none hd rfl (fun a w hs => ?_) (h b hb)).out Q E a w hs hK
  have Ex := ev_rep hs x; have Ei := ev_rep hs ix
  rw [hx, repV_own] at Ex
  rw [hi, repV_i] at Ei
  obtain ⟨cells, h1, h2⟩ := hs.getHeap hg
  rcases h2.2 with ⟨rfl, h0'⟩ | ⟨g, cap, cur, rfl, _, hgg, h3, h4, h5, h6⟩
  · omega
  · have hgb : g = b := by simpa [Value.ownBlock] using hb
    subst hgb
    refine ⟨_, repV_ptr.2 rfl, fun w' _ => ?_⟩
    have := indexAt_slice_run (tget_ok hT ht) (tget_ok hT he) g 0 xs.length cap n kk h0 hn w'
    rw [Nat.zero_add, hsz] at this
    simp only [execOp, Ex.1, Ei, Sem.run_bind, this, Result.andThen_ok, Sem.run_pure]
theorem row_block {v : Value} {e sz : Nat} {xs : List AV} {b : Nat} (h : HOk w F (.row v e sz xs)) (hb : v.ownBlock = some b) : ∃ cells cap cur, repA w F sz xs cells ∧ v = .slice (some ⟨b, 0, none⟩) xs.length cap ∧ Blk w b e cur ∧ xs.length ≤ cap ∧ cap ≤ maxLen ∧ cur.size = cap * sz ∧ cur.toList.take (xs.length * sz) = cells := by
  obtain ⟨cells, h1, h2⟩ := h
  rcases h2.2 with ⟨rfl, h0⟩ | ⟨g, cap, cur, rfl, _, hgg, h3, h4, h5, h6⟩
  · simp [Value.ownBlock] at hb
  · simp [Value.ownBlock] at hb; subst hb
    exact ⟨cells, cap, cur, h1, rfl, hgg, h3, h4, h5, h6⟩
theorem Ops.loadRow (hT : TTOk P T) {gd : Option (Nat × Bool)} (hw : gval ops S gd = gwant gd) {t : Nat} {x : Operand} {k b i off o : Nat} {path : List Nat} {v : Value} {e sz : Nat} {xs : List AV} {x0 y : AV} {ti : TI}
    (hx : ev S x = .ptr k b (i :: path) off) (hg : hget S.heap k = some (.row v e sz xs)) (hb : v.ownBlock = some b) (hi : xs[i]? = some x0) (hsub : subAt path x0 = some (o, y)) (ho : i * sz + o = off) (ht : tget T t = some ti) (hf : fits ti y)
    (hm : m.okc (some d) (some (some k)) = true) (hd : Nat.blt d S.n = true) (h : Ops m P C ops l (S.put d y) K) : Ops m P C ops (⟨some d, .load t x, ty, pos, aft, gd⟩ :: l) S K := by
  refine Ops.by (d := some d) hw (some (some k)) hm hd rfl (fun a w hs => ?_) h
  have Ex := ev_rep hs x
  rw [hx, repV_ptr] at Ex
  obtain ⟨cells, cap, cur, h1, h2, h3, h4, h5, h6, h7⟩ := row_block (hs.getHeap hg) hb
  obtain ⟨pre, mid, post, e1, e2, e3, e4, _⟩ := repA_at sz xs i x0 cells h1 hi
  obtain ⟨pre2, mid2, post2, f1, f2, f3, _⟩ := sub_split path x0 mid o y e3 hsub
  refine ⟨_, repV_mk f3, fun w' hrd => ?_⟩
  have hrd : w'.heap[b]? = w.heap[b]? := hrd _ b hg (row_blk hb)
  have hr : w.rangeAt b off mid2 := by
    intro j u hj
    have hjl := (List.getElem?_eq_some_iff.1 hj).1
    rw [h3.cell, ← Array.getElem?_toList]
    have : cells[off + j]? = some u := by
      rw [e1, f1, ← ho]
      rw [List.append_assoc, List.getElem?_append_right (by omega), e2, show i * sz + o + j - i * sz = o + j by omega]
      rw [List.append_assoc, List.append_assoc, List.getElem?_append_right (by omega), f2, Nat.add_sub_cancel_left, List.getElem?_append_left hjl]
      exact hj
    rw [← h7, List.getElem?_take] at this
    split at this
    · exact this
    · cases this
  have := load_run (P := P) (tget_ok hT ht) hf f3 w' (rangeAt_of hr hrd)
  simp only [execOp, Ex, Sem.run_bind, this, Result.andThen_ok, Sem.run_pure]
theorem Ops.storeRow (hT : TTOk P T) {gd : Option (Nat × Bool)} (hw : gval ops S gd = gwant gd) {t : Nat} {x y : Operand} {k b i off o : Nat} {path : List Nat} {v : Value} {e sz : Nat} {xs : List AV} {x0 old : AV} {ti : TI}
    (hx : ev S x = .ptr k b (i :: path) off) (hg : hget S.heap k = some (.row v e sz xs)) (hb : v.ownBlock = some b) (hi : xs[i]? = some x0) (hsub : subAt path x0 = some (o, old)) (ho : i * sz + o = off) (ht : tget T t = some ti) (hf : fits ti (ev S y)) (hold : sizeA old = ti.sz) (hy : (ev S y).isVal = true) (hmk : m.oke none [k] = true)
    (h : Ops m P C ops l ⟨S.n, S.slots, hset S.heap k (.row v e sz (xs.set i (updAt path x0 (ev S y))))⟩ K) : Ops m P C ops (⟨none, .store t x y, ty, pos, aft, gd⟩ :: l) S K := by
  refine Ops.effS hw [k] hmk rfl fun a w hs => ?_
  have Ex := ev_rep hs x
  rw [hx, repV_ptr] at Ex
  obtain ⟨ys, hc, hv⟩ := repV_cells hy (ev_rep hs y)
  obtain ⟨cells, cap, cur, h1, h2, h3, h4, h5, h6, h7⟩ := row_block (hs.getHeap hg) hb
  obtain ⟨pre, mid, post, e1, e2, e3, e4, e5⟩ := repA_at sz xs i x0 cells h1 hi
  obtain ⟨pre2, mid2, post2, f1, f2, f3, f4⟩ := sub_split path x0 mid o old e3 hsub
  have hl : ys.length = mid2.length := by rw [repC_size _ _ hc, repC_size _ _ f3, hold, hf.1]
  have hcl := repA_size sz xs cells h1
  have hcl2 : cells.length = pre.length + (pre2.length + mid2.length + post2.length) + post.length := by rw [e1, f1]; simp; omega
  have hle0 : off + ys.length ≤ cells.length := by omega
  have hcc : xs.length * sz ≤ cap * sz := Nat.mul_le_mul_right sz h4
  have hle : off + ys.length ≤ cur.size := by omega
  have hcur : cur.toList = cells ++ cur.toList.drop (xs.length * sz) := by rw [← h7]; exact (List.take_append_drop _ _).symm
  have hm : Mod (fun b' => b' ∈ HO.blk (.row v e sz xs)) w (w.setCells b off ys) := Mod.setCells (S := fun b' => b' ∈ HO.blk (.row v e sz xs)) (fun _ => row_blk hb) ys off (Mod.refl _ w)
  refine ⟨w.setCells b off ys, _, ?_, ?_, Eff.swap hg (y := .row v e sz (xs.set i (updAt path x0 (ev S y)))) hm (fun _ h => .inl h), h⟩
  · have := storeAt_run (P := P) (tget_ok hT ht) hf hc (b := b) (o := off) (there_blk h3 hle)
    simp only [execOp, Ex, hv, Sem.run_bind, this, Result.andThen_ok, Sem.run_pure]
  · have hset' : hget S.heap k = some (.row v e sz xs) := hg
    refine hs.swap hset' (.row v e sz (xs.set i (updAt path x0 (ev S y)))) hm ⟨pre ++ (pre2 ++ ys ++ post2) ++ post, ?_, ?_⟩ (fun b' hb' => ?_)
    · have g1 := e5 _ _ (f4 (ev S y) ys hc hl) (by rw [← e4, f1]; simp [hl])
      refine repA_mono (F := Fz C S.heap w) (fun b' hb' => ⟨Nat.lt_of_lt_of_le hb'.1 hm.size, by rw [blks_hset hg (.row v e sz (xs.set i (updAt path x0 (ev S y)))) rfl]; exact hb'.2.1, hb'.2.2⟩) (fun b' hb' => hm.block b' hb'.1 (fun he => hb'.2.1 (blk_mem hg he))) _ _ _ g1
    · have hlen : (pre ++ (pre2 ++ ys ++ post2) ++ post).length = cells.length := by rw [hcl2]; simp [hl]; omega
      have hb2 := setCells_eq w off ys h3 hle
      refine ⟨by rw [hlen, hcl, List.length_set], .inr ⟨b, cap, _, by rw [List.length_set]; exact h2, Nat.zero_le _, hb2, by rw [List.length_set]; exact h4, h5, ?_, ?_⟩⟩
      · rw [← h6]; simp; omega
      · rw [List.length_set, ← hcl]
        have hoff : off = pre.length + pre2.length := by omega
        simp only []
        rw [hcur]
        have t1 : (cells ++ cur.toList.drop (xs.length * sz)).take off = pre ++ pre2 := by
          rw [e1, f1, hoff, ← List.length_append]
          rw [show pre ++ (pre2 ++ mid2 ++ post2) ++ post ++ cur.toList.drop (xs.length * sz) = (pre ++ pre2) ++ (mid2 ++ (post2 ++ (post ++ cur.toList.drop (xs.length * sz)))) by simp, List.take_left]
        have t2 : (cells ++ cur.toList.drop (xs.length * sz)).drop (off + ys.length) = post2 ++ (post ++ cur.toList.drop (xs.length * sz)) := by
          rw [e1, f1, hoff, hl, ← List.length_append, ← List.length_append]
          rw [show pre ++ (pre2 ++ mid2 ++ post2) ++ post ++ cur.toList.drop (xs.length * sz) = (pre ++ pre2 ++ mid2) ++ (post2 ++ (post ++ cur.toList.drop (xs.length * sz))) by simp, List.drop_left]
        rw [t1, t2, show pre ++ pre2 ++ ys ++ (post2 ++ (post ++ cur.toList.drop (xs.length * sz))) = (pre ++ (pre2 ++ ys ++ post2) ++ post) ++ cur.toList.drop (xs.length * sz) by simp, ← hlen, List.take_left]
    · have hb' : v.ownBlock = some b' := blk_row hb'
      have : b' = b := by rw [hb] at hb'; injection hb' with h; exact h.symm
      subst this
      exact ⟨by have := h3.lt; have := hm.size; omega, .inl (row_blk hb)⟩
/-- make of a slice of n zero values. -/
theorem repA_replicate {sz : Nat} {z : AV} {cs : List Value} (hz : repC w F z cs) (hl : cs.length = sz) : ∀ n, repA w F sz (List.replicate n z) ((List.replicate n cs).flatten)
  | 0 => by simp [repA]
  | n + 1 => by
    rw [List.replicate_succ, List.replicate_succ, List.flatten_cons]
    simp only [repA]
    exact ⟨cs, _, rfl, hz, hl, repA_replicate hz hl n⟩
theorem made_eq (cs : List Value) (n : Nat) (hp : 0 < cs.length) : (madeCells cs.toArray (n * cs.length)).toList = (List.replicate n cs).flatten := by
  apply List.ext_getElem?
  intro k
  have hfl : ∀ n, ((List.replicate n cs).flatten).length = n * cs.length := by
    intro n
    induction n with
    | zero => simp
    | succ n ih => rw [List.replicate_succ, List.flatten_cons, List.length_append, ih, Nat.add_mul]; omega
  have hget : ∀ n k, k < n * cs.length → ((List.replicate n cs).flatten)[k]? = cs[k % cs.length]? := by
    intro n
    induction n with
    | zero => intro k hk; omega
    | succ n ih =>
      intro k hk
      rw [List.replicate_succ, List.flatten_cons]
      by_cases h : k < cs.length
      · rw [List.getElem?_append_left h, Nat.mod_eq_of_lt h]
      · rw [List.getElem?_append_right (by omega), ih (k - cs.length) (by rw [Nat.add_mul] at hk; omega)]
        rw [Nat.mod_eq_sub_mod (a := k) (by omega)]
  have hsz : (madeCells cs.toArray (n * cs.length)).size = n * cs.length := size_madeCells _ _
  by_cases hk : k < n * cs.length
  · rw [hget n k hk]
    unfold madeCells
    rw [Array.getElem?_toList, Array.getElem?_map]
    have : (Array.range (n * cs.length))[k]? = some k := by simp [hk]
    rw [this]
    have hm : k % cs.length < cs.length := Nat.mod_lt _ hp
    simp [hm]
  · rw [List.getElem?_eq_none (by rw [Array.length_toList, hsz]; omega), List.getElem?_eq_none (by rw [hfl]; omega)]
theorem Ops.makeSlice (hT : TTOk P T) {gd : Option (Nat × Bool)} (hw : gval ops S gd = gwant gd) {t e sz0 by0 : Nat} {z0 : AV} {tk : TK} {sz bs : Nat} {z : AV} {x y : Operand} {kl kc : IntKind} {n : Nat}
    (ht : tget T t = some ⟨.slice e, sz0, by0, z0⟩) (he : tget T e = some ⟨tk, sz, bs, z⟩) (hz : z.isVal = true) (hsz : sizeA z = sz) (hpos : 0 < sz)
    (hx : ev S x = .i kl (n : Int)) (hy : ev S y = .i kc (n : Int)) (hlen : bs * n ≤ 281474976710656) (hlen2 : n ≤ 9223372036854775807)
    (hd : Nat.blt d S.n = true) (h : ∀ v', Ops m P C ops l ⟨S.n, (d, .own d v') :: S.slots, (d, .row v' e sz (List.replicate n z)) :: S.heap⟩ K) : Ops m P C ops (⟨some d, .makeSlice t x y, ty, pos, aft, gd⟩ :: l) S K := by
  refine Ops.eff hw [] oke_nil rfl fun a w hs => ?_
  have hE := elem_tt hT ht he hz hsz hpos
  have Ex := ev_rep hs x; have Ey := ev_rep hs y
  rw [hx, repV_i] at Ex; rw [hy, repV_i] at Ey
  rcases (tget_ok hT he).zero with h0 | ⟨cs, h1, h2⟩
  · have h0 : z = .any := h0
    rw [h0] at hz; cases hz
  have hrep : repC w (Fz C S.heap w) z cs := flatZ_rep z cs h1
  have hcs : cs.length = sz := by rw [repC_size _ _ hrep, hsz]
  obtain ⟨i, zv, hi, hzv, hz1, hz2, hz3⟩ := hE.info
  have hzv2 : zv = ofCells z cs := by rw [hi] at h2; simp only [Option.bind_some, hzv, Option.some.injEq] at h2; exact h2
  have hb : (i.bytes : Int) * (n : Int) ≤ 281474976710656 := by
    have h : ((i.bytes * n : Nat) : Int) ≤ 281474976710656 := by rw [hz2]; omega
    rwa [Int.natCast_mul] at h
  have hrun := run_make (P := P) w t e i zv hE.ut hi hzv kl kc (n : Int) (n : Int) (by omega) (by omega) hb (by omega)
  simp only [Int.toNat_natCast] at hrun
  have hcells : zv.cells = cs.toArray := by rw [hzv2]; exact ofCells_cells hrep
  rw [hcells, hz1, ← hcs] at hrun
  have hmade := made_eq cs n (by omega)
  have hfl := repA_size sz _ _ (repA_replicate (w := w) (F := Fz C S.heap w) hrep hcs n)
  rw [List.length_replicate] at hfl
  have hrow : (w.alloc (.cells (madeCells cs.toArray (n * cs.length)) e)).ownsRow 0 e sz (.slice (some ⟨w.heap.size, 0, none⟩) n n) n ((List.replicate n cs).flatten) := by
    refine ⟨hfl, .inr ⟨w.heap.size, n, madeCells cs.toArray (n * cs.length), rfl, Nat.zero_le _, Blk.new w e _, by omega, by unfold maxLen; omega, by rw [size_madeCells, hcs], ?_⟩⟩
    rw [hmade, List.take_of_length_le (by omega)]
  refine ⟨_, _, _, .own d (.slice (some ⟨w.heap.size, 0, none⟩) n n), ?_, hs.newRow d ((Mod.refl _ w).alloc _) (repA_replicate hrep hcs n) (by rw [List.length_replicate]; exact hrow) (fun b hb => ?_), hd, repV_own.2 ⟨rfl, rfl⟩, Eff.new ((Mod.refl _ w).alloc _) (fun b hb => by simp [HO.blk, Value.ownBlock] at hb; omega), h _⟩
  · simp only [execOp, Ex, Ey, Sem.run_bind, hrun, Result.andThen_ok, Sem.run_pure]
  · simp [Value.ownBlock] at hb; omega
theorem repRow_bytes {b : Nat} : ∀ (l : List UInt8) (off : Nat), (∀ j c, l[j]? = some c → w.cell? ⟨b, off + j, none⟩ = some (.int .u8 (c.toNat : Int))) → repRow w F b off 1 (l.map byA)
  | [], _, _ => by simp [repRow]
  | c :: l, off, h => by
    rw [List.map_cons]
    simp only [repRow]
    refine ⟨⟨[.int .u8 (c.toNat : Int)], by simp [byA, repC], rfl, fun j u hj => ?_⟩, repRow_bytes l (off + 1) (fun j c' hc => ?_)⟩
    · cases j with
      | zero => simp at hj; subst hj; exact h 0 c rfl
      | succ j => simp at hj
    · have := h (j + 1) c' (by simpa using hc)
      rwa [show off + (j + 1) = off + 1 + j by omega] at this
theorem bytes_cells {sz : Nat} : ∀ (l : List UInt8) (cells : List Value), repA w F sz (l.map byA) cells → cells = l.map fun c => Value.int .u8 (c.toNat : Int)
  | [], cells, h => by simp only [List.map_nil, repA] at h; simpa using h
  | c :: l, cells, h => by
    rw [List.map_cons] at h
    simp only [repA, byA, repC] at h
    obtain ⟨c1, c2, rfl, rfl, _, h4⟩ := h
    rw [bytes_cells l c2 h4]; rfl
/-- []byte(s): read-only from the beginning. -/
theorem Ops.toBytes (hT : TTOk P T) {gd : Option (Nat × Bool)} (hw : gval ops S gd = gwant gd) {src dst e : Nat} {x : Operand} {s : List UInt8} {k1 : TI} {sz0 by0 : Nat} {z0 : AV} {sz1 by1 : Nat} {z1 : AV}
    (hx : ev S x = .s s) (h1 : tget T src = some k1) (h2 : tget T dst = some ⟨.slice e, sz0, by0, z0⟩) (h3 : tget T e = some ⟨.int .u8, sz1, by1, z1⟩)
    (hd : Nat.blt d S.n = true) (h : Ops m P C ops l (S.put d (.sl 1 (s.map byA))) K) : Ops m P C ops (⟨some d, .convert src dst x, ty, pos, aft, gd⟩ :: l) S K := by
  refine Ops.eff hw [] oke_nil (by simp [effOp, tk_slice (tget_ok hT h2)]) fun a w hs => ?_
  have Ex := ev_rep hs x
  rw [hx, repV_s] at Ex
  obtain ⟨ds, hds, _⟩ := (tget_ok hT h1).desc
  have hrun := Lib.run_convert_string_bytes (P := P) w src dst e (bytesOf s) hds (tk_slice (tget_ok hT h2)) (tk_int (tget_ok hT h3))
  have hm : Mod None_ w (Lib.bytesWorld w e (bytesOf s)) := Mod.of_below ⟨rfl, rfl, rfl, by rw [Lib.bytesWorld_size]; omega, fun k hk => Lib.bytesWorld_at_old w e (bytesOf s) k hk⟩
  have hs2 : Sat C ⟨S.n, S.slots, S.heap⟩ a (Lib.bytesWorld w e (bytesOf s)) :=
    hs.move S.heap None_ hm (fun _ _ hf => hf.elim) hs.nd (fun b hb => ⟨Nat.lt_of_lt_of_le (hs.lt b hb).1 hm.size, .inl hb⟩) (fun p hp => hs.keepHO hm (fun _ _ hf => hf.elim) (fun b hb => ⟨Nat.lt_of_lt_of_le (hs.lt b hb).1 hm.size, .inl hb⟩) (hs.heap p hp) (fun _ _ hf => hf))
  refine ⟨.slice (some ⟨w.heap.size, 0, none⟩) (bytesOf s).size (grownCap w (bytesOf s).size 0 e), Lib.bytesWorld w e (bytesOf s), S, .sl 1 (s.map byA), ?_, hs2, hd, ?_, Eff.same hm, h⟩
  · simp only [execOp, Ex.1, Sem.run_bind, hrun, Result.andThen_ok, Sem.run_pure]
  · rw [repV_sl]
    have hcap : s.length ≤ grownCap w (bytesOf s).size 0 e ∧ grownCap w (bytesOf s).size 0 e ≤ maxLen := by
      have h63 : (bytesOf s).size < 9223372036854775808 := by have := Ex.2; unfold maxLen at this; show s.length < _; omega
      unfold grownCap Question.cut
      have : (2 : Nat) ^ 63 = 9223372036854775808 := by decide
      have h5 := Nat.mod_lt (w.tape w.drawn (.appendCap (bytesOf s).size 0 e)) (show 0 < 2 ^ 63 - (bytesOf s).size by omega)
      have h6 : (bytesOf s).size = s.length := rfl
      simp only []
      constructor
      · omega
      · unfold maxLen; omega
    refine ⟨_, grownCap w (bytesOf s).size 0 e, by rw [List.length_map]; rfl, by rw [List.length_map]; exact hcap.1, hcap.2, fun _ => ⟨w.heap.size, 0, rfl, ⟨by rw [Lib.bytesWorld_size]; omega, fun hin => ?_, .inr (.inl hs.mod.size)⟩, ?_⟩⟩
    · have := (hs.lt _ hin).1; omega
    · refine repRow_bytes s 0 (fun j c hj => ?_)
      have hjl := (List.getElem?_eq_some_iff.1 hj).1
      rw [Nat.zero_add, Lib.bytesWorld_cell w e (bytesOf s) j hjl]
      simp [bytesOf, hj, List.getD]
/-- What is read when the cells of a slice are. -/
def rdOf : AV → Option (Option Nat)
  | .own k _ => some (some k)
  | _ => some none
theorem srcOf_rep' (hs : Sat C S a w) {x : AV} {p : Prop} {sz : Nat} {xs : List AV} (h : srcOf S.heap x = some (p, sz, xs)) (hp : p) {v : Value} (hv : repV w (Fz C S.heap w) x v) :
    ∃ A c cells, v = .slice A xs.length c ∧ xs.length ≤ c ∧ c ≤ maxLen ∧ repA w (Fz C S.heap w) sz xs cells ∧ (xs.length ≠ 0 → ∃ b off, A = some ⟨b, off, none⟩ ∧ w.rangeAt b off cells) ∧
      ∀ w', Reads C S.heap w w' (rdOf x) → ∀ b off, A = some ⟨b, off, none⟩ → w'.rangeAt b off cells := by
  unfold srcOf at h
  split at h
  · rename_i sz' xs'
    simp only [Option.some.injEq, Prod.mk.injEq] at h
    obtain ⟨_, rfl, rfl⟩ := h
    rw [repV_sl] at hv
    obtain ⟨A, cap, rfl, h1, h2, h3⟩ := hv
    rcases xs' with _ | ⟨y, ys⟩
    · exact ⟨A, cap, [], rfl, h1, h2, by simp only [repA], fun h => absurd rfl h, fun w' _ b off _ j u hj => by simp at hj⟩
    · obtain ⟨b, off, rfl, hF, hr⟩ := h3 (by simp)
      obtain ⟨cs, h4, h5⟩ := repRow_cells hr
      exact ⟨_, cap, cs, rfl, h1, h2, h4, fun _ => ⟨b, off, rfl, h5⟩, fun w' hR b' off' he => by
        injection he with he; injection he with e1 e2; subst e1; subst e2
        exact rangeAt_of h5 (hR b hF)⟩
  · rename_i k v0
    split at h
    · rename_i v' e' sz' xs' hg
      simp only [Option.some.injEq, Prod.mk.injEq] at h
      obtain ⟨rfl, rfl, rfl⟩ := h
      subst hp
      rw [repV_own] at hv
      obtain ⟨rfl, _⟩ := hv
      obtain ⟨cells, h1, h2⟩ := hs.getHeap hg
      rcases h2.2 with ⟨rfl, h0⟩ | ⟨g, cap, cur, rfl, _, hgg, h3, h4, h5, h6⟩
      · exact ⟨none, 0, cells, by rw [h0], by omega, Nat.zero_le _, h1, fun h => absurd h0 h, fun _ _ _ _ he => by cases he⟩
      · have hra : w.rangeAt g 0 cells := fun j u hj => by
          have hb : Blk w g e' cur := hgg
          rw [hb.cell, ← Array.getElem?_toList, Nat.zero_add]
          rw [← h6, List.getElem?_take] at hj
          split at hj
          · exact hj
          · cases hj
        refine ⟨_, cap, cells, rfl, h3, h4, h1, fun _ => ⟨g, 0, rfl, hra⟩, fun w' hR b' off' he => ?_⟩
        injection he with he; injection he with e1 e2; subst e1; subst e2
        exact rangeAt_of hra (hR _ g hg (row_blk rfl))
    · cases h
  · cases h
/-- string(b). -/
theorem Ops.toString (hT : TTOk P T) {gd : Option (Nat × Bool)} (hw : gval ops S gd = gwant gd) {src dst e : Nat} {x : Operand} {s : List UInt8} {p : Prop} {sz0 by0 : Nat} {z0 : AV} {sz1 by1 : Nat} {z1 : AV} {sz2 by2 : Nat} {z2 : AV}
    (hx : srcOf S.heap (ev S x) = some (p, 1, s.map byA)) (hp : p) (h1 : tget T src = some ⟨.slice e, sz0, by0, z0⟩) (h2 : tget T dst = some ⟨.string, sz2, by2, z2⟩) (h3 : tget T e = some ⟨.int .u8, sz1, by1, z1⟩)
    (rd : Option (Option Nat)) (hrd : rdOf (ev S x) = rd) (hm : m.okc (some d) rd = true) (hd : Nat.blt d S.n = true) (h : Ops m P C ops l (S.put d (.s s)) K) : Ops m P C ops (⟨some d, .convert src dst x, ty, pos, aft, gd⟩ :: l) S K := by
  refine Ops.by (d := some d) hw rd hm hd (by simp [effOp, tk_string (tget_ok hT h2)]) (fun a w hs => ?_) h
  obtain ⟨A, c, cells, hv, g1, g2, g3, g4, g5⟩ := srcOf_rep' hs hx hp (ev_rep hs x)
  rw [List.length_map] at hv g1 g4
  have hcells := bytes_cells s cells g3
  refine ⟨_, repV_s.2 ⟨rfl, by omega⟩, fun w' hR => ?_⟩
  rw [← hrd] at hR
  have hsl := tk_slice (tget_ok hT h1)
  have hst := tk_string (tget_ok hT h2)
  have hu8 := tk_int (tget_ok hT h3)
  have hrun : (convert src dst (.slice A s.length c)).run P w' = .ok (.string (bytesOf s)) w' := by
    rcases A with _ | ad
    · have h0 : s = [] := by
        rcases s with _ | ⟨q, s⟩
        · rfl
        · obtain ⟨b, off, h5, _⟩ := g4 (by simp); cases h5
      subst h0
      exact run_convert_bytes_nil w' src e hsl hu8 _ _ dst hst
    · refine run_convert_bytes_back w' src dst e ad c s hsl hu8 hst fun j hj => ?_
      obtain ⟨b, off, h5, h6⟩ := g4 (by omega)
      have h5' := h5
      injection h5' with h5'; subst h5'
      rw [Addr.add_mid]
      exact g5 w' hR b off h5 j _ (by rw [hcells, List.getElem?_map, List.getElem?_eq_getElem hj]; rfl)
  simp only [execOp, hv, Sem.run_bind, hrun, Result.andThen_ok, Sem.run_pure]
end
/-! Structs built. -/
def bld (T : List (Nat × TI)) (fs : List (Nat × Nat)) : List (Nat × AV) → List AV → Option (Prop × List AV)
  | [], cur => some (True, cur)
  | (i, y) :: r, cur => match fs[i]? with
    | some (o, ft) => match tget T ft with
      | some ti => match cur[i]? with
        | some old => match bld T fs r (cur.set i y) with
          | some (p, res) => some ((offL cur i = o ∧ ti.sz = sizeA old ∧ ti.sz = sizeA y ∧ y.isVal = true) ∧ p, res)
          | none => none
        | none => none
      | none => none
    | none => none
section
variable {m : OM} {P : Program} {T : List (Nat × TI)} {C : Ctx} {S : St} {a : Act} {w : World} {F : Nat → Prop} {ops : Array Oper} {l : List Oper} {K : St → Prop} {d : Nat} {ty : Nat} {pos : String} {aft : Array Edge}
theorem fold_set' : ∀ (ys mid pre post : List Value) (done : List Value), ys.length = mid.length →
    (ys.zipIdx done.length).foldl (fun (cs : Array Value) (x : Value × Nat) => cs.setIfInBounds (pre.length + x.2) x.1) (pre ++ done ++ mid ++ post).toArray = (pre ++ done ++ ys ++ post).toArray
  | [], mid, pre, post, done, h => by
    have : mid = [] := List.eq_nil_of_length_eq_zero (by simpa using h.symm)
    subst this; simp
  | y :: ys, [], pre, post, done, h => by simp at h
  | y :: ys, m :: mid, pre, post, done, h => by
    rw [List.zipIdx_cons, List.foldl_cons]
    have h1 : (pre ++ done ++ (m :: mid) ++ post).toArray.setIfInBounds (pre.length + done.length) y = (pre ++ (done ++ [y]) ++ mid ++ post).toArray := by
      apply Array.ext'
      rw [Array.toList_setIfInBounds]
      simp only [List.append_assoc]
      rw [List.set_append_right _ _ (by omega), show pre.length + done.length - pre.length = done.length by omega, List.set_append_right _ _ (by omega), Nat.sub_self]
      simp
    have ih := fold_set' ys mid pre post (done ++ [y]) (by simpa using h)
    rw [List.length_append, List.length_singleton] at ih
    rw [h1, ih]
    simp
theorem bld_fill {fields : Array Field} {places : List (Nat × Nat)} (hpl : fields.toList.mapM (fun f => (P.info? f.type).map fun i => (f.offset, i.size)) = some places) (hT : TTOk P T) :
    ∀ (ps : List (Nat × AV)) (vs : List (Nat × Value)) (cur res : List AV) (p : Prop) (cs : List Value), bld T (fields.toList.map fun f => (f.offset, f.type)) ps cur = some (p, res) → p → repL w F cur cs →
      ps.length = vs.length → (∀ (i : Nat) x v, ps[i]? = some x → vs[i]? = some v → x.1 = v.1 ∧ repV w F x.2 v.2) → ∃ cs', Instr.fill (places.toArray[·]?) cs.toArray vs = some cs'.toArray ∧ repL w F res cs'
  | [], [], cur, res, p, cs, h, hp, hc, _, _ => by
    simp only [bld, Option.some.injEq, Prod.mk.injEq] at h
    obtain ⟨_, rfl⟩ := h
    exact ⟨cs, rfl, hc⟩
  | [], v :: vs, cur, res, p, cs, h, hp, hc, hl, _ => by simp at hl
  | x :: ps, [], cur, res, p, cs, h, hp, hc, hl, _ => by simp at hl
  | (i, y) :: ps, (i', v) :: vs, cur, res, p, cs, h, hp, hc, hl, hv => by
    obtain ⟨hi, hy⟩ := hv 0 (i, y) (i', v) rfl rfl
    simp only at hi hy
    subst hi
    simp only [bld] at h
    cases h1 : (fields.toList.map fun f => (f.offset, f.type))[i]? with
    | none => simp [h1] at h
    | some q =>
      obtain ⟨o, ft⟩ := q
      cases h2 : tget T ft with
      | none => simp [h1, h2] at h
      | some ti =>
        cases h3 : cur[i]? with
        | none => simp [h1, h2, h3] at h
        | some old =>
          cases h4 : bld T (fields.toList.map fun f => (f.offset, f.type)) ps (cur.set i y) with
          | none => simp [h1, h2, h3, h4] at h
          | some q2 =>
            obtain ⟨p2, res2⟩ := q2
            simp only [h1, h2, h3, h4, Option.some.injEq, Prod.mk.injEq] at h
            obtain ⟨rfl, rfl⟩ := h
            obtain ⟨⟨k1, k2, k3, k4⟩, k5⟩ := hp
            obtain ⟨ys, hys, hvy⟩ := repV_cells k4 hy
            obtain ⟨pre, mid, post, e1, e2, e3, e4⟩ := repL_at cur i old cs hc h3
            have hcells := ofCells_cells hys
            have hyl : ys.length = mid.length := by rw [repC_size _ _ hys, repC_size _ _ e3]; omega
            rw [List.getElem?_map] at h1
            cases hq : fields.toList[i]? with
            | none => rw [hq] at h1; cases h1
            | some fl =>
              rw [hq] at h1
              simp only [Option.map_some, Option.some.injEq, Prod.mk.injEq] at h1
              obtain ⟨rfl, rfl⟩ := h1
              obtain ⟨inf, hinf, hs1, _⟩ := (tget_ok hT h2).inf
              have hplace : places[i]? = some (fl.offset, ti.sz) := by
                have : ∀ (fl' : List Field) (pl : List (Nat × Nat)), fl'.mapM (fun f => (P.info? f.type).map fun i => (f.offset, i.size)) = some pl → ∀ (j : Nat) f, fl'[j]? = some f → ∃ inf, P.info? f.type = some inf ∧ pl[j]? = some (f.offset, inf.size) := by
                  intro fl'
                  induction fl' with
                  | nil => intro pl _ j f hf; simp at hf
                  | cons g gs ih =>
                    intro pl hpl j f hf
                    simp only [List.mapM_cons, Option.bind_eq_bind, Option.pure_def] at hpl
                    cases hgi : P.info? g.type with
                    | none => simp [hgi] at hpl
                    | some gi =>
                      cases hr : gs.mapM (fun f => (P.info? f.type).map fun i => (f.offset, i.size)) with
                      | none => simp [hgi, hr] at hpl
                      | some rest =>
                        simp [hgi, hr] at hpl
                        subst hpl
                        cases j with
                        | zero => simp at hf; subst hf; exact ⟨gi, hgi, rfl⟩
                        | succ j => exact ih rest hr j f (by simpa using hf)
                obtain ⟨inf2, g1, g2⟩ := this _ _ hpl i fl hq
                rw [hinf] at g1; injection g1 with g1; subst g1
                rw [g2, hs1]
              have hfold := fold_set' ys mid pre post [] hyl
              simp only [List.length_nil, List.append_nil] at hfold
              obtain ⟨cs', f1, f2⟩ := bld_fill hpl hT ps vs (cur.set i y) res2 p2 (pre ++ ys ++ post) h4 k5 (e4 y ys hys) (by simpa using hl) (fun j x u hx hu => hv (j + 1) x u (by simpa using hx) (by simpa using hu))
              refine ⟨cs', ?_, f2⟩
              have hsize : v.cells.size = ti.sz := by rw [hvy, hcells, List.size_toArray, repC_size _ _ hys]; exact k3.symm
              have hcl : cs.length = pre.length + mid.length + post.length := by rw [e1]; simp; omega
              have hoff : fl.offset = pre.length := by rw [← k1, e2]
              unfold Instr.fill
              have hpa : places.toArray[i]? = some (fl.offset, ti.sz) := by rw [List.getElem?_toArray]; exact hplace
              rw [hpa]
              simp only
              rw [if_neg (by simp [hsize, hcl, hoff]; have := repC_size _ _ e3; omega)]
              rw [← f1]
              congr 1
              rw [hvy, hcells, hoff, e1, ← Array.foldl_toList, Array.toList_zipIdx]
              exact hfold
/-- A struct built of its parts. -/
theorem Ops.build (hT : TTOk P T) {gd : Option (Nat × Bool)} (hw : gval ops S gd = gwant gd) {t : Nat} {fs : List (Nat × Nat)} {sz by_ : Nat} {zs res : List AV} {parts : Array (Nat × Operand)} {p : Prop}
    (ht : tget T t = some ⟨.struct fs, sz, by_, .agg zs⟩) (hb : bld T fs (parts.toList.map fun q => (q.1, ev S q.2)) zs = some (p, res)) (hp : p) (hall : ∀ q ∈ fs, (tget T q.2).isSome = true)
    (hd : Nat.blt d S.n = true) (h : Ops m P C ops l (S.put d (.agg res)) K) : Ops m P C ops (⟨some d, .build t parts, ty, pos, aft, gd⟩ :: l) S K := by
  refine Ops.by (d := some d) hw none okc_none hd rfl (fun a w hs => ?_) h
  have h0 := tget_ok hT ht
  obtain ⟨ds, hds, hk⟩ := h0.desc
  cases ds <;> simp [kOf] at hk
  rename_i fields
  subst hk
  rcases h0.zero with hz | ⟨cs, h1, h2⟩
  · cases hz
  · obtain ⟨it, hit, _, _⟩ := h0.inf
    rw [hit] at h2
    have hzv : it.zero = some (ofCells (.agg zs) cs) := h2
    have hrep : repC w (Fz C S.heap w) (.agg zs) cs := flatZ_rep _ cs h1
    have hzc : (ofCells (.agg zs) cs).cells = cs.toArray := ofCells_cells hrep
    have hpl : ∃ places, fields.toList.mapM (fun f => (P.info? f.type).map fun i => (f.offset, i.size)) = some places := by
      have : ∀ fl : List Field, (∀ f ∈ fl, (tget T f.type).isSome = true) → ∃ pl, fl.mapM (fun f => (P.info? f.type).map fun i => (f.offset, i.size)) = some pl := by
        intro fl
        induction fl with
        | nil => exact fun _ => ⟨[], rfl⟩
        | cons g gs ih =>
          intro hg
          obtain ⟨pl, hpl⟩ := ih (fun f hf => hg f (by simp [hf]))
          cases hq : tget T g.type with
          | none => have := hg g (by simp); rw [hq] at this; cases this
          | some ti =>
            obtain ⟨inf, hinf, _⟩ := (tget_ok hT hq).inf
            exact ⟨(g.offset, inf.size) :: pl, by simp [List.mapM_cons, hinf, hpl]⟩
      exact this _ (fun f hf => hall (f.offset, f.type) (List.mem_map.2 ⟨f, hf, rfl⟩))
    obtain ⟨places, hpl⟩ := hpl
    simp only [repC] at hrep
    obtain ⟨cs', g1, g2⟩ := bld_fill hpl hT _ ((parts.map fun (i, x) => (i, a.eval x)).toList) zs res p cs hb hp hrep (by simp) (fun i x v hx hv => by
      rw [Array.toList_map, List.getElem?_map] at hv
      rw [List.getElem?_map] at hx
      cases hq : parts.toList[i]? with
      | none => rw [hq] at hx; cases hx
      | some q =>
        rw [hq] at hx hv
        simp only [Option.map_some, Option.some.injEq] at hx hv
        subst hx; subst hv
        exact ⟨rfl, ev_rep hs q.2⟩)
    refine ⟨.agg cs'.toArray, repV_agg.2 ⟨cs'.toArray, rfl, by simpa using g2⟩, fun w' _ => ?_⟩
    have hbuilt : P.built t (parts.map fun (i, x) => (i, a.eval x)).toList = some cs'.toArray := by
      unfold Program.built
      rw [hit, hds]
      simp only [hzv, hpl, hzc]
      exact g1
    have := run_build (P := P) w' t _ _ hbuilt
    simp only [execOp, Sem.run_bind, this, Result.andThen_ok, Sem.run_pure]
end
end Go.Proofs.Ytfdcopbbnmialaa
