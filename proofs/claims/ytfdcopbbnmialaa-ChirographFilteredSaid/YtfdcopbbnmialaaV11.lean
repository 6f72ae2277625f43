/- Rules: rows behind slices that the function owns: made, appended to, read, written; bytes and strings. No program in sight. -/
import Derived.Test.YtfdcopbbnmialaaV10
import Derived.Great.FillDense
import Derived.Lib.ConvBytes
import Derived.Lib.AppendStr
import Derived.Laws.IdiomStrings
import Derived.Laws.BytesArg
namespace Go.Proofs.Ytfdcopbbnmialaa
open Go Go.RowKit

section
variable {P : Program} {T : List (Nat × TI)} {C : Ctx} {S : St} {a : Act} {w : World} {F : Nat → Prop}
theorem elem_tt (hT : TTOk P T) {t e sz0 by0 : Nat} {z0 : AV} {k : TK} {sz bs : Nat} {z : AV} (ht : tget T t = some ⟨.slice e, sz0, by0, z0⟩) (he : tget T e = some ⟨k, sz, bs, z⟩) (hz : z.isVal = true) (hsz : sizeA z = sz) (hp : 0 < sz) : Elem P t e sz bs := by
  have h1 := tget_ok hT he
  refine ⟨tk_slice (tget_ok hT ht), ?_, hp⟩
  obtain ⟨i, hi, h2, h3⟩ := h1.inf
  rcases h1.zero with h0 | ⟨cs, h4, h5⟩
  · have h0 : z = .any := h0
    rw [h0] at hz; cases hz
  · rw [hi] at h5
    have hr : repC default (fun _ => True) z cs := flatZ_rep z cs h4
    exact ⟨i, _, hi, h5, h2, h3, by rw [show (ofCells z cs).cells = cs.toArray from ofCells_cells hr]; simp only [List.size_toArray]; rw [repC_size z cs hr]; exact hsz⟩
/-- append of cells that lie somewhere, or nowhere if there are none. -/
theorem append_run {t e sz bs : Nat} (hE : Elem P t e sz bs) (ty : Nat) {v : Value} {n : Nat} {xs : List Value} (hown : w.ownsRow 0 e sz v n xs) (A : Option Addr) (m c : Nat) (news : List Value) (hl : news.length = m * sz)
    (hA : m ≠ 0 → ∃ b off, A = some ⟨b, off, none⟩ ∧ w.rangeAt b off news) (h1 : ∀ u ∈ news, u.oneCell' = true) (h63 : n + m ≤ maxLen) (hbytes : (n + m) * bs ≤ 140737488355328) :
    ∃ v' w', (Builtin.append_ #[t, t] ty #[v, .slice A m c]).run P w = .ok v' w' ∧ w'.ownsRow 0 e sz v' (n + m) (xs ++ news) ∧ w.grownBy w' v.ownBlock ∧ (v'.ownBlock = v.ownBlock ∨ v'.ownBlock = some w.heap.size) := by
  obtain ⟨i, z, hi, hz, hz1, hz2, hz3⟩ := hE.info
  rcases A with _ | ad
  · have hm : m = 0 := by
      rcases Nat.eq_zero_or_pos m with h | h
      · exact h
      · obtain ⟨b, off, h2, _⟩ := hA (by omega); cases h2
    subst hm
    have : news = [] := List.eq_nil_of_length_eq_zero (by rw [hl]; simp)
    subst this
    refine ⟨v, w, ?_, by simpa using hown, World.grownBy.refl w _, .inl rfl⟩
    rcases hown.2 with ⟨rfl, h0⟩ | ⟨g, cap, cur, rfl, _, _, hnc, _⟩
    · simp [Builtin.append_, run_underlying hE.ut, sizeOf, typeInfo, hi, Builtin.lenOf, Builtin.firstCells]
    · simp [Builtin.append_, run_underlying hE.ut, sizeOf, typeInfo, hi, Builtin.lenOf, Builtin.firstCells, hnc, storeCells]
  · obtain ⟨v', w', hrun, h2, h3, _, h5⟩ := run_append_own_at (P := P) w 0 t ty e i z sz bs hE.ut hi hz hz1 hz2 hz3 hE.pos v n xs hown ad m c news hl (fun j u hj => by
      have hjl := (List.getElem?_eq_some_iff.1 hj).1
      obtain ⟨b, off, hb, hr⟩ := hA (by rintro rfl; rw [hl] at hjl; simp at hjl)
      injection hb with hb; subst hb
      rw [Addr.add_mid]; exact hr j u hj) h1 h63 hbytes (Nat.zero_le _)
    exact ⟨v', w', hrun, h2, h3, h5⟩
theorem repA_append {sz : Nat} : ∀ {xs ys : List AV} {c1 c2 : List Value}, repA w F sz xs c1 → repA w F sz ys c2 → repA w F sz (xs ++ ys) (c1 ++ c2)
  | [], ys, c1, c2, h1, h2 => by simp only [repA] at h1; subst h1; simpa using h2
  | x :: xs, ys, c1, c2, h1, h2 => by
    simp only [repA] at h1
    obtain ⟨d1, d2, rfl, h3, h4, h5⟩ := h1
    rw [List.cons_append, List.append_assoc]
    simp only [repA]
    exact ⟨d1, _, rfl, h3, h4, repA_append h5 h2⟩
theorem repRow_cells {b sz : Nat} : ∀ {xs : List AV} {off : Nat}, repRow w F b off sz xs → ∃ cs, repA w F sz xs cs ∧ w.rangeAt b off cs
  | [], off, _ => ⟨[], by simp only [repA], fun j u hj => by simp at hj⟩
  | x :: xs, off, h => by
    simp only [repRow] at h
    obtain ⟨⟨c1, h1, h2, h3⟩, h4⟩ := h
    obtain ⟨c2, h5, h6⟩ := repRow_cells h4
    refine ⟨c1 ++ c2, by simp only [repA]; exact ⟨c1, c2, rfl, h1, h2, h5⟩, fun j u hj => ?_⟩
    by_cases hjl : j < c1.length
    · rw [List.getElem?_append_left hjl] at hj; exact h3 j u hj
    · rw [List.getElem?_append_right (by omega)] at hj
      have := h6 (j - c1.length) u hj
      rwa [show off + sz + (j - c1.length) = off + j by omega] at this
/-- The world behind an append, and what is owned then. -/
theorem Sat.grown (hs : Sat C S a w) {k : Nat} {v v' : Value} {e e' sz : Nat} {xs xs' : List AV} {w' : World} {cells' : List Value} (hg : hget S.heap k = some (.row v e sz xs)) (hgr : w.grownBy w' v.ownBlock)
    (hrep : repA w (Fz C S.heap w) sz xs' cells') (hown : w'.ownsRow 0 e' sz v' xs'.length cells') (hv : v'.ownBlock = v.ownBlock ∨ v'.ownBlock = some w.heap.size) :
    Sat C ⟨S.n, S.slots, hset S.heap k (.row v' e' sz xs')⟩ a w' := by
  have hm : Mod (fun b => b ∈ HO.blk (.row v e sz xs)) w w' := (Mod.refl _ w).grown hgr (fun k hk _ => row_blk hk)
  have hlt' : ∀ b, v'.ownBlock = some b → b < w'.heap.size := fun b hb => (World.ownsRow.lt hown b hb).2
  refine hs.swap hg _ hm ⟨cells', ?_, hown⟩ (fun b hb => ?_)
  · refine repA_mono (F := Fz C S.heap w) (fun b hb => ⟨Nat.lt_of_lt_of_le hb.1 hgr.size, fun hin => ?_, hb.2.2⟩) (fun b hb => hm.block b hb.1 (fun he => hb.2.1 (blk_mem hg he))) _ _ _ hrep
    obtain ⟨pre, q, post, e1, e2⟩ := hget_split hg
    rw [e2, blks_append, blks_cons] at hin
    rcases List.mem_append.1 hin with h | h
    · exact hb.2.1 (by rw [e1, blks_append]; exact List.mem_append.2 (.inl h))
    · rcases List.mem_append.1 h with h | h
      · have h : v'.ownBlock = some b := blk_row h
        rcases hv with h2 | h2
        · rw [h2] at h; exact hb.2.1 (blk_mem hg (row_blk h))
        · rw [h2] at h; injection h with h; have := hb.1; omega
      · exact hb.2.1 (by rw [e1, blks_append, blks_cons]; simp [h])
  · have hb : v'.ownBlock = some b := blk_row hb
    refine ⟨hlt' b hb, ?_⟩
    rcases hv with h2 | h2
    · rw [h2] at hb; exact .inl (row_blk hb)
    · rw [h2] at hb; injection hb with hb; exact .inr (by omega)
/-- A new row. -/
theorem Sat.newRow (hs : Sat C S a w) (k : Nat) {v : Value} {e sz : Nat} {xs : List AV} {w' : World} {cells : List Value} (hm : Mod None_ w w') (hrep : repA w (Fz C S.heap w) sz xs cells) (hown : w'.ownsRow 0 e sz v xs.length cells) (hv : ∀ b, v.ownBlock = some b → w.heap.size ≤ b) :
    Sat C ⟨S.n, S.slots, (k, .row v e sz xs) :: S.heap⟩ a w' := by
  have hlt : ∀ b, v.ownBlock = some b → b < w'.heap.size := fun b hb => (World.ownsRow.lt hown b hb).2
  refine hs.new k _ hm ⟨cells, ?_, hown⟩ (fun b hb => ⟨hlt b (blk_row hb), hv b (blk_row hb)⟩)
  refine repA_mono (F := Fz C S.heap w) (fun b hb => ⟨Nat.lt_of_lt_of_le hb.1 hm.size, fun hin => ?_, hb.2.2⟩) (fun b hb => hm.block b hb.1 (fun hf => hf)) _ _ _ hrep
  rw [blks_cons] at hin
  rcases List.mem_append.1 hin with h | h
  · have := hv b (blk_row h)
    have := hb.1; omega
  · exact hb.2.1 h
theorem own_one {v : Value} {e sz n : Nat} {xs : List Value} (h : w.ownsRow 0 e sz v n xs) : v.oneCell' = true := by
  rcases h.2 with ⟨rfl, _⟩ | ⟨g, cap, cur, rfl, _⟩ <;> rfl
end
/-- The cells that a slice value has, if it is one that can be read. -/
def srcOf (H : List (Nat × HO)) : AV → Option (Prop × Nat × List AV)
  | .sl sz xs => some (True, sz, xs)
  | .own k v => match hget H k with
    | some (.row v' _ sz xs) => some (v' = v, sz, xs)
    | _ => none
  | _ => none
section
variable {m : OM} {P : Program} {T : List (Nat × TI)} {C : Ctx} {S : St} {a : Act} {w : World} {ops : Array Oper} {l : List Oper} {K : St → Prop} {d : Nat} {ty : Nat} {pos : String} {aft : Array Edge}
theorem srcOf_rep (hs : Sat C S a w) {x : AV} {p : Prop} {sz : Nat} {xs : List AV} (h : srcOf S.heap x = some (p, sz, xs)) (hp : p) {v : Value} (hv : repV w (Fz C S.heap w) x v) :
    ∃ A c cells, v = .slice A xs.length c ∧ xs.length ≤ c ∧ c ≤ maxLen ∧ repA w (Fz C S.heap w) sz xs cells ∧ (xs.length ≠ 0 → ∃ b off, A = some ⟨b, off, none⟩ ∧ w.rangeAt b off cells) := by
  unfold srcOf at h
  split at h
  · rename_i sz' xs'
    simp only [Option.some.injEq, Prod.mk.injEq] at h
    obtain ⟨_, rfl, rfl⟩ := h
    rw [repV_sl] at hv
    obtain ⟨A, cap, rfl, h1, h2, h3⟩ := hv
    rcases xs' with _ | ⟨y, ys⟩
    · exact ⟨A, cap, [], rfl, h1, h2, by simp only [repA], fun h => absurd rfl h⟩
    · obtain ⟨b, off, rfl, _, hr⟩ := h3 (by simp)
      obtain ⟨cs, h4, h5⟩ := repRow_cells hr
      exact ⟨_, cap, cs, rfl, h1, h2, h4, fun _ => ⟨b, off, rfl, h5⟩⟩
  · rename_i k v0
    split at h
    · rename_i v' e' sz' xs' hg
      simp only [Option.some.injEq, Prod.mk.injEq] at h
      obtain ⟨rfl, rfl, rfl⟩ := h
      subst hp
      rw [repV_own] at hv
      obtain ⟨rfl, _⟩ := hv
      obtain ⟨cells, h1, h2⟩ := hs.getHeap hg
      have hrow := h2
      rcases h2.2 with ⟨rfl, h0⟩ | ⟨g, cap, cur, rfl, _, hgg, h3, h4, h5, h6⟩
      · exact ⟨none, 0, cells, by rw [h0], by omega, Nat.zero_le _, h1, fun h => absurd h0 h⟩
      · refine ⟨_, cap, cells, rfl, h3, h4, h1, fun _ => ⟨g, 0, rfl, fun j u hj => ?_⟩⟩
        have hb : Blk w g e' cur := hgg
        rw [hb.cell, ← Array.getElem?_toList, Nat.zero_add]
        rw [← h6, List.getElem?_take] at hj
        split at hj
        · exact hj
        · cases hj
    · cases h
  · cases h
/-- append onto a row that the function owns. -/
theorem Ops.append (hT : TTOk P T) {gd : Option (Nat × Bool)} (hw : gval ops S gd = gwant gd) {x y : Operand} {t e sz0 by0 : Nat} {z0 : AV} {tk : TK} {sz bs : Nat} {z : AV} {k : Nat} {v : Value} {xs ys : List AV} {p : Prop}
    (ht : tget T t = some ⟨.slice e, sz0, by0, z0⟩) (he : tget T e = some ⟨tk, sz, bs, z⟩) (hz : z.isVal = true) (hsz : sizeA z = sz) (hpos : 0 < sz)
    (hx : ev S x = .own k v) (hg : hget S.heap k = some (.row v e sz xs)) (hy : srcOf S.heap (ev S y) = some (p, sz, ys)) (hp : p)
    (hd : Nat.blt d S.n = true) (hm : m.oke (some d) [k] = true) (hlen : (xs.length + ys.length) * bs ≤ 140737488355328) (hlen2 : xs.length + ys.length ≤ 9223372036854775807)
    (h : ∀ v', Ops m P C ops l ⟨S.n, (d, .own k v') :: S.slots, hset S.heap k (.row v' e sz (xs ++ ys))⟩ K) : Ops m P C ops (⟨some d, .call ⟨.builtin .append, #[x, y], #[t, t]⟩, ty, pos, aft, gd⟩ :: l) S K := by
  refine Ops.eff hw [k] hm rfl fun a w hs => ?_
  have hE := elem_tt hT ht he hz hsz hpos
  have Ex := ev_rep hs x
  rw [hx, repV_own] at Ex
  obtain ⟨A, c, news, hv, h1, h2, h3, h4⟩ := srcOf_rep hs hy hp (ev_rep hs y)
  obtain ⟨cells, h5, h6⟩ := hs.getHeap hg
  have hnl : news.length = ys.length * sz := repA_size sz ys news h3
  obtain ⟨v', w', r1, r2, r3, r4⟩ := append_run hE ty h6 A ys.length c news hnl h4 (repA_one sz ys news h3) (by unfold maxLen; omega) hlen
  rw [← List.length_append] at r2
  refine ⟨v', w', _, .own k v', ?_, hs.grown hg r3 (repA_append h5 h3) r2 r4, hd, repV_own.2 ⟨rfl, own_one r2⟩, Eff.swap hg ((Mod.refl _ w).grown r3 (fun k hk _ => row_blk hk)) (fun b hb => by
    have hb : v'.ownBlock = some b := blk_row hb
    rcases r4 with h | h
    · rw [h] at hb; exact .inl (row_blk hb)
    · rw [h] at hb; injection hb with hb; exact .inr (by omega)), h v'⟩
  simp only [execOp, resolve, invoke, builtin, Sem.run_bind, Sem.run_pure, Result.andThen_ok, List.map_toArray, List.map_cons, List.map_nil, Ex.1, hv, r1]
/-- The parts of a literal, in order. -/
def partsOf (S : St) : Nat → List (Nat × Operand) → Option (List AV)
  | _, [] => some []
  | i, (j, x) :: r => bif Nat.beq i j then match partsOf S (i + 1) r with
    | some xs => some (ev S x :: xs)
    | none => none
    else none
def allSz (sz : Nat) : List AV → Prop
  | [] => True
  | x :: xs => (sizeA x = sz ∧ x.isVal = true) ∧ allSz sz xs
theorem partsOf_rep (hs : Sat C S a w) {sz : Nat} : ∀ (ps : List (Nat × Operand)) (i : Nat) (xs : List AV), partsOf S i ps = some xs → allSz sz xs →
    ∃ vs : List Value, ps.map (fun p => (p.1, a.eval p.2)) = (vs.zipIdx i).map (fun x => (x.2, x.1)) ∧ vs.length = xs.length ∧ ∃ cells, repA w (Fz C S.heap w) sz xs cells ∧ (∀ v ∈ vs, v.cells.size = sz) ∧ cells = vs.flatMap (fun v => v.cells.toList)
  | [], i, xs, h, _ => by
    simp only [partsOf, Option.some.injEq] at h; subst h
    exact ⟨[], rfl, rfl, [], by simp only [repA], fun v hv => by simp at hv, rfl⟩
  | (j, x) :: r, i, xs, h, hall => by
    simp only [partsOf] at h
    cases hb : Nat.beq i j with
    | false => rw [hb] at h; simp at h
    | true =>
      rw [hb] at h
      have hij := Nat.eq_of_beq_eq_true hb
      subst hij
      cases hr : partsOf S (i + 1) r with
      | none => rw [hr] at h; simp at h
      | some ys =>
        rw [hr] at h
        simp only [cond_true, Option.some.injEq] at h
        subst h
        obtain ⟨vs, h1, h2, cells, h3, h4, h5⟩ := partsOf_rep hs r (i + 1) ys hr hall.2
        obtain ⟨cs, c1, c2⟩ := repV_cells hall.1.2 (ev_rep hs x)
        have hcells := ofCells_cells c1
        have hsz : cs.length = sz := by rw [repC_size _ _ c1]; exact hall.1.1
        refine ⟨a.eval x :: vs, by simp [h1], by simp [h2], cs ++ cells, by simp only [repA]; exact ⟨cs, cells, rfl, c1, hsz, h3⟩, fun v hv => ?_, by rw [List.flatMap_cons, c2, hcells, h5]⟩
        rcases List.mem_cons.1 hv with rfl | hv
        · rw [c2, hcells]; simpa using hsz
        · exact h4 v hv
theorem fill_all {sz : Nat} (hp : 0 < sz) (vs : List Value) (cells : Array Value) (hv : ∀ v ∈ vs, v.cells.size = sz) (hc : cells.size = vs.length * sz) :
    Instr.fill (fun i => some (i * sz, sz)) cells ((vs.zipIdx 0).map fun x => (x.2, x.1)) = some (vs.flatMap (fun v => v.cells.toList)).toArray := by
  obtain ⟨r, h1, h2, h3⟩ := Go.Great.fill_dense hp vs 0 cells hv (by rw [Nat.zero_add]; omega)
  simp only [Nat.zero_add, Nat.zero_mul] at h3
  rw [h1]
  congr 1
  apply Array.ext_getElem?
  intro k
  rw [h3 k]
  have hfl : (vs.flatMap (fun v => v.cells.toList)).length = vs.length * sz := by
    have : ∀ (l : List Value), (∀ v ∈ l, v.cells.size = sz) → (l.flatMap (fun v => v.cells.toList)).length = l.length * sz := by
      intro l
      induction l with
      | nil => intro _; simp
      | cons y ys ih => intro h; rw [List.flatMap_cons, List.length_append, ih (fun v hv => h v (by simp [hv])), Array.length_toList, h y (by simp), List.length_cons, Nat.add_mul]; omega
    exact this vs hv
  rw [show (vs.flatMap (fun v => v.cells.toList)).toArray[k]? = (vs.flatMap (fun v => v.cells.toList))[k]? from List.getElem?_toArray]
  by_cases hk : k < vs.length * sz
  · rw [if_pos (by omega), Nat.sub_zero]
    have hget : ∀ (l : List Value), (∀ v ∈ l, v.cells.size = sz) → ∀ (q j : Nat), j < sz → (l.flatMap (fun v => v.cells.toList))[q * sz + j]? = (l[q]?).bind fun v => v.cells[j]? := by
      intro l
      induction l with
      | nil => intro _ q j _; simp
      | cons y ys ih =>
        intro h q j hj
        have hy := h y (by simp)
        cases q with
        | zero => simp [List.getElem?_append_left, hy, hj, ← Array.getElem?_toList]
        | succ q =>
          rw [List.flatMap_cons, List.getElem?_append_right (by rw [Array.length_toList, hy, Nat.add_mul]; omega), Array.length_toList, hy, show (q + 1) * sz + j - sz = q * sz + j by rw [Nat.add_mul]; omega, ih (fun v hv => h v (by simp [hv])) q j hj]
          simp
    have hq := hget vs hv (k / sz) (k % sz) (Nat.mod_lt _ hp)
    rw [show k / sz * sz + k % sz = k by rw [Nat.mul_comm]; exact Nat.div_add_mod k sz] at hq
    rw [hq]
  · rw [if_neg (by omega), Array.getElem?_eq_none (by omega), List.getElem?_eq_none (by omega)]
/-- A slice literal: a new row. -/
theorem Ops.buildSlice (hT : TTOk P T) {gd : Option (Nat × Bool)} (hw : gval ops S gd = gwant gd) {t e sz0 by0 : Nat} {z0 : AV} {tk : TK} {sz bs : Nat} {z : AV} {n : Nat} {parts : Array (Nat × Operand)} {xs : List AV}
    (ht : tget T t = some ⟨.slice e, sz0, by0, z0⟩) (he : tget T e = some ⟨tk, sz, bs, z⟩) (hz : z.isVal = true) (hsz : sizeA z = sz) (hpos : 0 < sz)
    (hp : partsOf S 0 parts.toList = some xs) (hn : xs.length = n) (hall : allSz sz xs) (hle : n * sz ≤ 16777216)
    (hd : Nat.blt d S.n = true) (h : ∀ v', Ops m P C ops l ⟨S.n, (d, .own d v') :: S.slots, (d, .row v' e sz xs) :: S.heap⟩ K) : Ops m P C ops (⟨some d, .buildSlice t n parts, ty, pos, aft, gd⟩ :: l) S K := by
  refine Ops.eff hw [] oke_nil rfl fun a w hs => ?_
  obtain ⟨vs, h1, h2, cells, h3, h4, h5⟩ := partsOf_rep hs parts.toList 0 xs hp hall
  have hE := elem_tt hT ht he hz hsz hpos
  obtain ⟨i, zv, hi, hzv, hz1, hz2, hz3⟩ := hE.info
  have hcl := repA_size sz xs cells h3
  have hrun : (Instr.buildSlice t n (parts.map fun (i, x) => (i, a.eval x))).run P w = .ok (.slice (some ⟨w.heap.size, 0, none⟩) n n) (w.alloc (.cells cells.toArray e)) := by
    have hparts : (parts.map fun (i, x) => (i, a.eval x)).toList = (vs.zipIdx 0).map fun x => (x.2, x.1) := by rw [Array.toList_map]; exact h1
    have hfill : ∀ arr : Array Value, arr.size = n * sz → Instr.fill (fun i => some (i * sz, sz)) arr ((vs.zipIdx 0).map fun x => (x.2, x.1)) = some cells.toArray := fun arr harr => by
      rw [fill_all hpos vs arr h4 (by rw [harr, h2, hn]), h5]
    unfold Instr.buildSlice
    rw [Sem.run_bind, run_underlying hE.ut]
    simp only [Result.andThen_ok, Sem.run_bind, (tget_ok hT he).sizeRun]
    rw [if_neg (by omega)]
    by_cases h0 : n * sz = 0
    · have hf := hfill ((Array.range 0).map fun x => (#[] : Array Value)[x % (#[] : Array Value).size]!) (by simp [h0])
      simp only [h0, if_true, Sem.run_bind, Sem.run_pure, Result.andThen_ok, hparts]
      rw [hf]
      simp [newRow, newObj, Sem.run]
    · have hzr : (zeroValue e).run P w = .ok zv w := by simp [zeroValue, typeInfo, hi, hzv]
      have hf := hfill ((Array.range (n * sz)).map fun x => zv.cells[x % zv.cells.size]!) (by simp)
      simp only [h0, if_false, Sem.run_bind, hzr, Sem.run_pure, Result.andThen_ok, hparts]
      rw [hf]
      simp [newRow, newObj, Sem.run]
  have hrow : (w.alloc (.cells cells.toArray e)).ownsRow 0 e sz (.slice (some ⟨w.heap.size, 0, none⟩) n n) xs.length cells := by
    refine ⟨hcl, .inr ⟨w.heap.size, n, cells.toArray, by rw [hn], Nat.zero_le _, Blk.new w e _, by omega, ?_, by simp [hcl, hn], ?_⟩⟩
    · have : n ≤ n * sz := Nat.le_mul_of_pos_right n hpos
      unfold maxLen; omega
    · rw [List.take_of_length_le (by simp [hcl])]
  refine ⟨_, w.alloc (.cells cells.toArray e), _, .own d (.slice (some ⟨w.heap.size, 0, none⟩) n n), ?_, hs.newRow d ((Mod.refl _ w).alloc _) h3 (by rw [hn] at hrow ⊢; exact hrow) (fun b hb => ?_), hd, repV_own.2 ⟨rfl, rfl⟩, Eff.new ((Mod.refl _ w).alloc _) (fun b hb => by simp [HO.blk, Value.ownBlock] at hb; omega), h _⟩
  · simp only [execOp, Sem.run_bind, hrun, Result.andThen_ok, Sem.run_pure]
  · simp [Value.ownBlock] at hb; omega
end
end Go.Proofs.Ytfdcopbbnmialaa
