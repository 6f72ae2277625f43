/- Equality of leaves, and that they are unlike: the program's and the document's. -/
import Derived.Test.YtcmgpkibjdbonaaGreatSL7Z
import Derived.Test.YtcmgpkibjdbonaaGreatR6Z
import Derived.Test.YtcmgpkibjdbonaaGreatLF1Z
import Derived.Test.YtcmgpkibjdbonaaGreatPF4Z
set_option maxHeartbeats 8000000
set_option maxRecDepth 100000
namespace Go.Proofs.YtcmgpkibjdbonaaGreat
open Go Go.RowKit
def eqLf (x y : Lef) : Bool := x.l == y.l && (x.v == y.v && x.t == y.t)
theorem lefN_eq0 (x y : Lef) (hx : x.ok) (hy : y.ok) (w : World) : (Op.equalIn 10000 46 (.agg (lefC_ x).toArray) (.agg (lefC_ y).toArray)).run Tryz.prog w = .ok (eqLf x y) w := by
  have hS : Tryz.prog.underlying 46 = some (.struct (Tryz.prog.fieldsOf 46)) := by kernel_rfl
  have hh : Tryz.prog.stoodInHeld 46 = false := by kernel_rfl
  have hi : Tryz.prog.underlying 3 = some (.int .i64) := by kernel_rfl
  have hk : Tryz.prog.plainKey 3 = true := by kernel_rfl
  have hu8 : Tryz.prog.underlying 5 = some (.int .u8) := by kernel_rfl
  have hk8 : Tryz.prog.plainKey 5 = true := by kernel_rfl
  have hl : Tryz.prog.underlying 44 = some (.array 32 5) := by kernel_rfl
  have hsz := (tget_ok TtOk (show tget Tt 44 = some _ from rfl)).sizeRun w
  have hag : (isAgg 44).run Tryz.prog w = .ok true w := by
    unfold isAgg; simp only [Sem.run_bind, run_underlying hl, Result.andThen_ok, Sem.run_pure]
  have pA : ∀ (z : Lef), z.ok → (part 44 (lefC_ z).toArray 0).run Tryz.prog w = .ok (.agg (z.l.map cellB).toArray) w := fun z hz => by
    have hx : ((lefC_ z).toArray.extract 0 (0 + 32)) = (z.l.map cellB).toArray := by
      rw [List.extract_toArray]
      congr 1
      unfold lefC_ List.extract
      rw [List.drop_zero, List.take_append_of_le_length (by rw [List.length_map, hz.1]; decide), List.take_of_length_le (by rw [List.length_map, hz.1]; decide)]
    unfold part
    simp only [Sem.run_bind, hag, Result.andThen_ok, if_true, hsz, Sem.run_pure]
    exact congrArg (fun q => Result.ok (Value.agg q) w) hx
  have pB : ∀ (z : Lef), z.ok → (part 44 (lefC_ z).toArray 32).run Tryz.prog w = .ok (.agg (z.v.map cellB).toArray) w := fun z hz => by
    have hx : ((lefC_ z).toArray.extract 32 (32 + 32)) = (z.v.map cellB).toArray := by
      rw [List.extract_toArray]
      congr 1
      unfold lefC_ List.extract
      rw [List.drop_append_of_le_length (by rw [List.length_map, hz.1]; decide), List.drop_of_length_le (by rw [List.length_map, hz.1]; decide), List.nil_append, List.take_append_of_le_length (by rw [List.length_map, hz.2]; decide), List.take_of_length_le (by rw [List.length_map, hz.2]; decide)]
    unfold part
    simp only [Sem.run_bind, hag, Result.andThen_ok, if_true, hsz, Sem.run_pure]
    exact congrArg (fun q => Result.ok (Value.agg q) w) hx
  have pC : ∀ (z : Lef), z.ok → (part 3 (lefC_ z).toArray 64).run Tryz.prog w = .ok (.int .i64 z.t) w := fun z hz => run_part_plain w hk (by
    unfold lefC_
    rw [List.getElem?_toArray, List.getElem?_append_right (by rw [List.length_map, hz.1]; decide), List.getElem?_append_right (by rw [List.length_map, List.length_map, hz.1, hz.2]; decide), List.length_map, List.length_map, hz.1, hz.2]; rfl)
  have p3 := run_equalIn_int (P := Tryz.prog) w 9998 3 .i64 .i64 x.t y.t hi
  have p4 : ∀ a b : List UInt8, a.length = 32 → b.length = 32 → (Op.equalIn (9998 + 1) 44 (.agg (a.map cellB).toArray) (.agg (b.map cellB).toArray)).run Tryz.prog w = .ok (a == b) w := fun a b ha hb => by
    obtain ⟨ie, hie, hies, _⟩ := (tget_ok TtOk (show tget Tt 5 = some _ from rfl)).inf
    have hco : Tryz.prog.cellsOf 5 = 1 := by unfold Program.cellsOf; rw [hie]; exact hies
    have h1 := run_equalIn_array (P := Tryz.prog) w 9998 (a.map cellB).toArray (b.map cellB).toArray hl hie
    have h2 := eqItems_bytes (P := Tryz.prog) (w := w) hu8 hk8 9997 a b (List.range 32) (fun i hi => by have := List.mem_range.1 hi; omega)
    rw [all_range_eq a b 32 ha hb] at h2
    rw [hco] at h1
    rw [h1]
    exact h2
  unfold eqLf
  rw [run_equalIn_struct (P := Tryz.prog) w 9999 _ _ _ hS hh]
  simp only [Program.fieldsOf, Tryz.underlying46]
  simp only [Op.eqFields]
  rw [if_pos (by decide)]
  rw [Sem.run_bind, pA x hx, Result.andThen_ok, Sem.run_bind, pA y hy, Result.andThen_ok, Sem.run_bind, p4 _ _ hx.1 hy.1, Result.andThen_ok]
  generalize (x.l == y.l) = q
  cases q
  · simp only [Bool.not_false, if_true, Sem.run_pure, Bool.false_and]
    try rfl
  · simp only [Bool.not_true, Bool.false_eq_true, if_false]
    rw [if_pos (by decide)]
    rw [Sem.run_bind, pB x hx, Result.andThen_ok, Sem.run_bind, pB y hy, Result.andThen_ok, Sem.run_bind, p4 _ _ hx.2 hy.2, Result.andThen_ok]
    generalize (x.v == y.v) = r
    cases r
    · simp only [Bool.not_false, if_true, Sem.run_pure, Bool.false_and]
      try rfl
    · simp only [Bool.not_true, Bool.false_eq_true, if_false]
      rw [if_pos (by decide)]
      rw [Sem.run_bind, pC x hx, Result.andThen_ok, Sem.run_bind, pC y hy, Result.andThen_ok, Sem.run_bind, p3, Result.andThen_ok]
      generalize (x.t == y.t) = z
      cases z <;> rfl
theorem lefN_eql (x y : Lef) (hx : x.ok) (hy : y.ok) (w : World) : (binOp .eql 46 (.agg (lefC_ x).toArray) (.agg (lefC_ y).toArray)).run Tryz.prog w = .ok (.bool (eqLf x y)) w := by
  rw [run_eql_struct, lefN_eq0 x y hx hy]; rfl
theorem lefN_neq (x y : Lef) (hx : x.ok) (hy : y.ok) (w : World) : (binOp .neq 46 (.agg (lefC_ x).toArray) (.agg (lefC_ y).toArray)).run Tryz.prog w = .ok (.bool (!(eqLf x y))) w := by
  rw [run_neq_struct, lefN_eq0 x y hx hy]; rfl
section
variable {m : OM} {C : Ctx} {ops : Array Oper} {l : List Oper} {K : St → Prop} {n : Nat} {sl : List (Nat × AV)} {hp : List (Nat × HO)} {d : Nat} {ty : Nat} {pos : String} {aft : Array Edge} {gd : Option (Nat × Bool)}
theorem o_eqLefN (hw : gval ops ⟨n, sl, hp⟩ gd = gwant gd) {u : Nat} {x y : Operand} {p q : Lef} (hx : ev ⟨n, sl, hp⟩ x = p.A) (hy : ev ⟨n, sl, hp⟩ y = q.A) (hd : Nat.blt d n = true)
    (h : Ops m Tryz.prog C ops l ⟨n, (d, .b (eqLf p q)) :: sl, hp⟩ K) : Ops m Tryz.prog C ops (⟨some d, .binOp .eql 46 x y u, ty, pos, aft, gd⟩ :: l) ⟨n, sl, hp⟩ K := by
  refine Ops.by (d := some d) hw none okc_none hd rfl (fun ac w hs => ?_) h
  have Ex := ev_rep hs x
  have Ey := ev_rep hs y
  rw [hx] at Ex
  rw [hy] at Ey
  obtain ⟨l1, Ex⟩ := lef_cells Ex
  obtain ⟨l2, Ey⟩ := lef_cells Ey
  refine ⟨_, repV_b.2 rfl, fun w' _ => ?_⟩
  have hgd := run_eqGuard_agg (P := Tryz.prog) w' .eql 46 x y (lefC_ p).toArray (lefC_ q).toArray (by kernel_rfl)
  simp only [execOp, Ex, Ey, Sem.run_bind, hgd, lefN_eql p q l1 l2, Result.andThen_ok, Sem.run_pure]
theorem o_neLefN (hw : gval ops ⟨n, sl, hp⟩ gd = gwant gd) {u : Nat} {x y : Operand} {p q : Lef} (hx : ev ⟨n, sl, hp⟩ x = p.A) (hy : ev ⟨n, sl, hp⟩ y = q.A) (hd : Nat.blt d n = true)
    (h : Ops m Tryz.prog C ops l ⟨n, (d, .b (!eqLf p q)) :: sl, hp⟩ K) : Ops m Tryz.prog C ops (⟨some d, .binOp .neq 46 x y u, ty, pos, aft, gd⟩ :: l) ⟨n, sl, hp⟩ K := by
  refine Ops.by (d := some d) hw none okc_none hd rfl (fun ac w hs => ?_) h
  have Ex := ev_rep hs x
  have Ey := ev_rep hs y
  rw [hx] at Ex
  rw [hy] at Ey
  obtain ⟨l1, Ex⟩ := lef_cells Ex
  obtain ⟨l2, Ey⟩ := lef_cells Ey
  refine ⟨_, repV_b.2 rfl, fun w' _ => ?_⟩
  have hgd := run_eqGuard_agg (P := Tryz.prog) w' .neq 46 x y (lefC_ p).toArray (lefC_ q).toArray (by kernel_rfl)
  simp only [execOp, Ex, Ey, Sem.run_bind, hgd, lefN_neq p q l1 l2, Result.andThen_ok, Sem.run_pure]
end
theorem lefR_eq0 (x y : Lef) (hx : x.ok) (hy : y.ok) (w : World) : (Op.equalIn 10000 58 (.agg (lefC_ x).toArray) (.agg (lefC_ y).toArray)).run Tryz.prog w = .ok (eqLf x y) w := by
  have hS : Tryz.prog.underlying 58 = some (.struct (Tryz.prog.fieldsOf 58)) := by kernel_rfl
  have hh : Tryz.prog.stoodInHeld 58 = false := by kernel_rfl
  have hi : Tryz.prog.underlying 3 = some (.int .i64) := by kernel_rfl
  have hk : Tryz.prog.plainKey 3 = true := by kernel_rfl
  have hu8 : Tryz.prog.underlying 5 = some (.int .u8) := by kernel_rfl
  have hk8 : Tryz.prog.plainKey 5 = true := by kernel_rfl
  have hl : Tryz.prog.underlying 44 = some (.array 32 5) := by kernel_rfl
  have hsz := (tget_ok TtOk (show tget Tt 44 = some _ from rfl)).sizeRun w
  have hag : (isAgg 44).run Tryz.prog w = .ok true w := by
    unfold isAgg; simp only [Sem.run_bind, run_underlying hl, Result.andThen_ok, Sem.run_pure]
  have pA : ∀ (z : Lef), z.ok → (part 44 (lefC_ z).toArray 0).run Tryz.prog w = .ok (.agg (z.l.map cellB).toArray) w := fun z hz => by
    have hx : ((lefC_ z).toArray.extract 0 (0 + 32)) = (z.l.map cellB).toArray := by
      rw [List.extract_toArray]
      congr 1
      unfold lefC_ List.extract
      rw [List.drop_zero, List.take_append_of_le_length (by rw [List.length_map, hz.1]; decide), List.take_of_length_le (by rw [List.length_map, hz.1]; decide)]
    unfold part
    simp only [Sem.run_bind, hag, Result.andThen_ok, if_true, hsz, Sem.run_pure]
    exact congrArg (fun q => Result.ok (Value.agg q) w) hx
  have pB : ∀ (z : Lef), z.ok → (part 44 (lefC_ z).toArray 32).run Tryz.prog w = .ok (.agg (z.v.map cellB).toArray) w := fun z hz => by
    have hx : ((lefC_ z).toArray.extract 32 (32 + 32)) = (z.v.map cellB).toArray := by
      rw [List.extract_toArray]
      congr 1
      unfold lefC_ List.extract
      rw [List.drop_append_of_le_length (by rw [List.length_map, hz.1]; decide), List.drop_of_length_le (by rw [List.length_map, hz.1]; decide), List.nil_append, List.take_append_of_le_length (by rw [List.length_map, hz.2]; decide), List.take_of_length_le (by rw [List.length_map, hz.2]; decide)]
    unfold part
    simp only [Sem.run_bind, hag, Result.andThen_ok, if_true, hsz, Sem.run_pure]
    exact congrArg (fun q => Result.ok (Value.agg q) w) hx
  have pC : ∀ (z : Lef), z.ok → (part 3 (lefC_ z).toArray 64).run Tryz.prog w = .ok (.int .i64 z.t) w := fun z hz => run_part_plain w hk (by
    unfold lefC_
    rw [List.getElem?_toArray, List.getElem?_append_right (by rw [List.length_map, hz.1]; decide), List.getElem?_append_right (by rw [List.length_map, List.length_map, hz.1, hz.2]; decide), List.length_map, List.length_map, hz.1, hz.2]; rfl)
  have p3 := run_equalIn_int (P := Tryz.prog) w 9998 3 .i64 .i64 x.t y.t hi
  have p4 : ∀ a b : List UInt8, a.length = 32 → b.length = 32 → (Op.equalIn (9998 + 1) 44 (.agg (a.map cellB).toArray) (.agg (b.map cellB).toArray)).run Tryz.prog w = .ok (a == b) w := fun a b ha hb => by
    obtain ⟨ie, hie, hies, _⟩ := (tget_ok TtOk (show tget Tt 5 = some _ from rfl)).inf
    have hco : Tryz.prog.cellsOf 5 = 1 := by unfold Program.cellsOf; rw [hie]; exact hies
    have h1 := run_equalIn_array (P := Tryz.prog) w 9998 (a.map cellB).toArray (b.map cellB).toArray hl hie
    have h2 := eqItems_bytes (P := Tryz.prog) (w := w) hu8 hk8 9997 a b (List.range 32) (fun i hi => by have := List.mem_range.1 hi; omega)
    rw [all_range_eq a b 32 ha hb] at h2
    rw [hco] at h1
    rw [h1]
    exact h2
  unfold eqLf
  rw [run_equalIn_struct (P := Tryz.prog) w 9999 _ _ _ hS hh]
  simp only [Program.fieldsOf, Tryz.underlying58]
  simp only [Op.eqFields]
  rw [if_pos (by decide)]
  rw [Sem.run_bind, pA x hx, Result.andThen_ok, Sem.run_bind, pA y hy, Result.andThen_ok, Sem.run_bind, p4 _ _ hx.1 hy.1, Result.andThen_ok]
  generalize (x.l == y.l) = q
  cases q
  · simp only [Bool.not_false, if_true, Sem.run_pure, Bool.false_and]
    try rfl
  · simp only [Bool.not_true, Bool.false_eq_true, if_false]
    rw [if_pos (by decide)]
    rw [Sem.run_bind, pB x hx, Result.andThen_ok, Sem.run_bind, pB y hy, Result.andThen_ok, Sem.run_bind, p4 _ _ hx.2 hy.2, Result.andThen_ok]
    generalize (x.v == y.v) = r
    cases r
    · simp only [Bool.not_false, if_true, Sem.run_pure, Bool.false_and]
      try rfl
    · simp only [Bool.not_true, Bool.false_eq_true, if_false]
      rw [if_pos (by decide)]
      rw [Sem.run_bind, pC x hx, Result.andThen_ok, Sem.run_bind, pC y hy, Result.andThen_ok, Sem.run_bind, p3, Result.andThen_ok]
      generalize (x.t == y.t) = z
      cases z <;> rfl
theorem lefR_eql (x y : Lef) (hx : x.ok) (hy : y.ok) (w : World) : (binOp .eql 58 (.agg (lefC_ x).toArray) (.agg (lefC_ y).toArray)).run Tryz.prog w = .ok (.bool (eqLf x y)) w := by
  rw [run_eql_struct, lefR_eq0 x y hx hy]; rfl
theorem lefR_neq (x y : Lef) (hx : x.ok) (hy : y.ok) (w : World) : (binOp .neq 58 (.agg (lefC_ x).toArray) (.agg (lefC_ y).toArray)).run Tryz.prog w = .ok (.bool (!(eqLf x y))) w := by
  rw [run_neq_struct, lefR_eq0 x y hx hy]; rfl
section
variable {m : OM} {C : Ctx} {ops : Array Oper} {l : List Oper} {K : St → Prop} {n : Nat} {sl : List (Nat × AV)} {hp : List (Nat × HO)} {d : Nat} {ty : Nat} {pos : String} {aft : Array Edge} {gd : Option (Nat × Bool)}
theorem o_eqLefR (hw : gval ops ⟨n, sl, hp⟩ gd = gwant gd) {u : Nat} {x y : Operand} {p q : Lef} (hx : ev ⟨n, sl, hp⟩ x = p.A) (hy : ev ⟨n, sl, hp⟩ y = q.A) (hd : Nat.blt d n = true)
    (h : Ops m Tryz.prog C ops l ⟨n, (d, .b (eqLf p q)) :: sl, hp⟩ K) : Ops m Tryz.prog C ops (⟨some d, .binOp .eql 58 x y u, ty, pos, aft, gd⟩ :: l) ⟨n, sl, hp⟩ K := by
  refine Ops.by (d := some d) hw none okc_none hd rfl (fun ac w hs => ?_) h
  have Ex := ev_rep hs x
  have Ey := ev_rep hs y
  rw [hx] at Ex
  rw [hy] at Ey
  obtain ⟨l1, Ex⟩ := lef_cells Ex
  obtain ⟨l2, Ey⟩ := lef_cells Ey
  refine ⟨_, repV_b.2 rfl, fun w' _ => ?_⟩
  have hgd := run_eqGuard_agg (P := Tryz.prog) w' .eql 58 x y (lefC_ p).toArray (lefC_ q).toArray (by kernel_rfl)
  simp only [execOp, Ex, Ey, Sem.run_bind, hgd, lefR_eql p q l1 l2, Result.andThen_ok, Sem.run_pure]
theorem o_neLefR (hw : gval ops ⟨n, sl, hp⟩ gd = gwant gd) {u : Nat} {x y : Operand} {p q : Lef} (hx : ev ⟨n, sl, hp⟩ x = p.A) (hy : ev ⟨n, sl, hp⟩ y = q.A) (hd : Nat.blt d n = true)
    (h : Ops m Tryz.prog C ops l ⟨n, (d, .b (!eqLf p q)) :: sl, hp⟩ K) : Ops m Tryz.prog C ops (⟨some d, .binOp .neq 58 x y u, ty, pos, aft, gd⟩ :: l) ⟨n, sl, hp⟩ K := by
  refine Ops.by (d := some d) hw none okc_none hd rfl (fun ac w hs => ?_) h
  have Ex := ev_rep hs x
  have Ey := ev_rep hs y
  rw [hx] at Ex
  rw [hy] at Ey
  obtain ⟨l1, Ex⟩ := lef_cells Ex
  obtain ⟨l2, Ey⟩ := lef_cells Ey
  refine ⟨_, repV_b.2 rfl, fun w' _ => ?_⟩
  have hgd := run_eqGuard_agg (P := Tryz.prog) w' .neq 58 x y (lefC_ p).toArray (lefC_ q).toArray (by kernel_rfl)
  simp only [execOp, Ex, Ey, Sem.run_bind, hgd, lefR_neq p q l1 l2, Result.andThen_ok, Sem.run_pure]
end
end Go.Proofs.YtcmgpkibjdbonaaGreat
set_option maxHeartbeats 16000000
set_option maxRecDepth 100000
namespace Go.Proofs.YtcmgpkibjdbonaaGreat
open Go Go.RowKit
/-- Was a seed superseded so many epochs ago? -/
def supE (l : List Lef) (s : List UInt8) (ep ag : Int) : Bool := (hasLf l (frL s) && hasLf l (stL s)) && (((fndL l (stL s)).v == markL) && decide (ag ≤ ep - (fndL l (stL s)).t))
theorem fnd_t {l : List Lef} (h : ∀ x ∈ l, 0 ≤ x.t ∧ x.t ≤ 1073741824) (g : List UInt8) : 0 ≤ (fndL l g).t ∧ (fndL l g).t ≤ 1073741824 := by
  unfold fndL
  cases hf : l.find? (fun y => y.l == g) with
  | none => exact ⟨Int.le_refl _, by show (0 : Int) ≤ 1073741824; decide⟩
  | some x => exact h x (List.mem_of_find?_eq_some hf)
theorem superseded_spec (l : List Lef) (s : List UInt8) (ep ag : Int) (hl : l.length ≤ 100000) (hs : s.length = 32) (ht : ∀ x ∈ l, 0 ≤ x.t ∧ x.t ≤ 1073741824) (he : 0 ≤ ep ∧ ep ≤ 1073741824) : Spec Tryz.prog 103 [.sl 65 (l.map Lef.A), labA s, .i .i64 ep, .i .i64 ag] [] (fun v os => v = .tup [(fndL l (frL s)).A, .b (supE l s ep ag)] ∧ os = []) := by
  have h1 := lfresh_spec s hs
  have h2 := lstale_spec s hs
  have h3 := sfind_spec l (frL s) hl
  have h4 := sfind_spec l (stL s) hl
  have h5 := lmark_spec
  have htt := fnd_t ht (stL s)
  unfold supE
  generalize frL s = g1 at *
  generalize stL s = g2 at *
  generalize fndL l g1 = f at *
  generalize fndL l g2 = m at *
  generalize hasLf l g1 = A at *
  generalize hasLf l g2 = B at *
  generalize markL = mk at *
  generalize hq : (m.v == mk) = q at *
  refine spec_of TtOk [] Tryz.func103 rfl Tryz.ntmps103 (by kernel_rfl) rfl rfl (fun C => ?_) rfl
  cases A with
  | false =>
    repeat' (first | refine Awp.seq ?_ | refine Awp.region ?_ | refine Ops.nil (nqA ?_) | refine Awp.ret (nqE ?_) | refine o_noT rfl rfl rfl ?_ | (refine o_calm rfl TtOk rfl rfl rfl ?_ (fun _ => ?_); exact nd) | refine o_alloc (d := 8) rfl TtOk rfl rfl rfl (fun b8 => ?_) | refine o_alloc (d := 10) rfl TtOk rfl rfl rfl (fun b10 => ?_) | refine o_alloc (d := 12) rfl TtOk rfl rfl rfl (fun b12 => ?_) | refine o_box (d := 5) rfl rfl rfl rfl (fun b5 => ?_) | refine o_store TtOk rfl rfl rfl rfl rfl rfl rfl ⟨rfl, rfl⟩ rfl rfl rfl rfl rfl ?_ | refine a_any 3 [8] [28, 35] [36] [1, 2, 3, 4, 5, 6, 0, 7, 8, 9, 10, 11, 12, 13, 16, 14, 15, 17, 18, 19, 20] (by kernel_rfl) (by kernel_rfl) (by kernel_rfl) rfl rfl rfl ?_ | refine o_callE rfl (h1) ⟨nqS, True.intro⟩ rfl ?_ | refine o_callE rfl (h2) ⟨nqS, True.intro⟩ rfl ?_ | refine o_callE rfl (h3) ⟨nqS, nqS, True.intro⟩ rfl ?_ | refine o_callE rfl (h4) ⟨nqS, nqS, True.intro⟩ rfl ?_)
    all_goals
      refine end_all [] [] (.tup [f.A, .b false]) rfl ?_ ?_ (rle_tup2 (CLe.of_eq rfl) (CLe.of_eq rfl) rfl rfl) .nil ⟨rfl, rfl⟩ _ (.inl rfl)
      · exact nq1
      · exact ⟨trivial, trivial, trivial⟩
  | true =>
    cases B with
    | false =>
      repeat' (first | refine Awp.seq ?_ | refine Awp.region ?_ | refine Ops.nil (nqA ?_) | refine Awp.ret (nqE ?_) | refine o_noT rfl rfl rfl ?_ | (refine o_calm rfl TtOk rfl rfl rfl ?_ (fun _ => ?_); exact nd) | refine o_alloc (d := 8) rfl TtOk rfl rfl rfl (fun b8 => ?_) | refine o_alloc (d := 10) rfl TtOk rfl rfl rfl (fun b10 => ?_) | refine o_alloc (d := 12) rfl TtOk rfl rfl rfl (fun b12 => ?_) | refine o_box (d := 5) rfl rfl rfl rfl (fun b5 => ?_) | refine o_store TtOk rfl rfl rfl rfl rfl rfl rfl ⟨rfl, rfl⟩ rfl rfl rfl rfl rfl ?_ | refine a_any 3 [8] [28, 35] [36] [1, 2, 3, 4, 5, 6, 0, 7, 8, 9, 10, 11, 12, 13, 16, 14, 15, 17, 18, 19, 20] (by kernel_rfl) (by kernel_rfl) (by kernel_rfl) rfl rfl rfl ?_ | refine o_callE rfl (h1) ⟨nqS, True.intro⟩ rfl ?_ | refine o_callE rfl (h2) ⟨nqS, True.intro⟩ rfl ?_ | refine o_callE rfl (h3) ⟨nqS, nqS, True.intro⟩ rfl ?_ | refine o_callE rfl (h4) ⟨nqS, nqS, True.intro⟩ rfl ?_)
      all_goals
        refine end_all [] [] (.tup [f.A, .b false]) rfl ?_ ?_ (rle_tup2 (CLe.of_eq rfl) (CLe.of_eq rfl) rfl rfl) .nil ⟨rfl, rfl⟩ _ (.inl rfl)
        · exact nq1
        · exact ⟨trivial, trivial, trivial⟩
    | true =>
      cases q with
      | false =>
        repeat' (first | (rw [hq]) | refine Awp.seq ?_ | refine Awp.region ?_ | refine Ops.nil (nqA ?_) | refine Awp.ret (nqE ?_) | refine o_noT rfl rfl rfl ?_ | (refine o_calm rfl TtOk rfl rfl rfl ?_ (fun _ => ?_); exact nd) | refine o_alloc (d := 8) rfl TtOk rfl rfl rfl (fun b8 => ?_) | refine o_alloc (d := 10) rfl TtOk rfl rfl rfl (fun b10 => ?_) | refine o_alloc (d := 12) rfl TtOk rfl rfl rfl (fun b12 => ?_) | refine o_box (d := 5) rfl rfl rfl rfl (fun b5 => ?_) | refine o_store TtOk rfl rfl rfl rfl rfl rfl rfl ⟨rfl, rfl⟩ rfl rfl rfl rfl rfl ?_ | refine o_eqArr8 TtOk rfl rfl rfl rfl rfl rfl (by kernel_rfl) ?_ | refine a_any 3 [8] [28, 35] [36] [1, 2, 3, 4, 5, 6, 0, 7, 8, 9, 10, 11, 12, 13, 16, 14, 15, 17, 18, 19, 20] (by kernel_rfl) (by kernel_rfl) (by kernel_rfl) rfl rfl rfl ?_ | refine o_callE rfl (h1) ⟨nqS, True.intro⟩ rfl ?_ | refine o_callE rfl (h2) ⟨nqS, True.intro⟩ rfl ?_ | refine o_callE rfl (h3) ⟨nqS, nqS, True.intro⟩ rfl ?_ | refine o_callE rfl (h4) ⟨nqS, nqS, True.intro⟩ rfl ?_ | (refine o_call0 rfl (h5) True.intro rfl ?_; rintro _ _ ⟨rfl, rfl⟩; refine ⟨rfl, ?_⟩))
        all_goals
          refine end_all [] [] (.tup [f.A, .b false]) rfl ?_ ?_ (rle_tup2 (CLe.of_eq rfl) (CLe.of_eq rfl) rfl rfl) .nil ⟨rfl, rfl⟩ _ (.inl rfl)
          · exact nq1
          · exact ⟨trivial, trivial, trivial⟩
      | true =>
        repeat' (first | (rw [hq]) | refine Awp.seq ?_ | refine Awp.region ?_ | refine Ops.nil (nqA ?_) | refine Awp.ret (nqE ?_) | (refine o_sub rfl rfl rfl rfl ?_ ?_; omega) | (refine o_calm rfl TtOk rfl rfl rfl ?_ (fun _ => ?_); exact nd) | refine o_alloc (d := 8) rfl TtOk rfl rfl rfl (fun b8 => ?_) | refine o_alloc (d := 10) rfl TtOk rfl rfl rfl (fun b10 => ?_) | refine o_alloc (d := 12) rfl TtOk rfl rfl rfl (fun b12 => ?_) | refine o_box (d := 5) rfl rfl rfl rfl (fun b5 => ?_) | refine o_store TtOk rfl rfl rfl rfl rfl rfl rfl ⟨rfl, rfl⟩ rfl rfl rfl rfl rfl ?_ | refine o_eqArr8 TtOk rfl rfl rfl rfl rfl rfl (by kernel_rfl) ?_ | refine a_any 3 [8] [28, 35] [36] [1, 2, 3, 4, 5, 6, 0, 7, 8, 9, 10, 11, 12, 13, 16, 14, 15, 17, 18, 19, 20] (by kernel_rfl) (by kernel_rfl) (by kernel_rfl) rfl rfl rfl ?_ | refine o_callE rfl (h1) ⟨nqS, True.intro⟩ rfl ?_ | refine o_callE rfl (h2) ⟨nqS, True.intro⟩ rfl ?_ | refine o_callE rfl (h3) ⟨nqS, nqS, True.intro⟩ rfl ?_ | refine o_callE rfl (h4) ⟨nqS, nqS, True.intro⟩ rfl ?_ | (refine o_call0 rfl (h5) True.intro rfl ?_; rintro _ _ ⟨rfl, rfl⟩; refine ⟨rfl, ?_⟩))
        all_goals
          refine end_all [] [] (.tup [f.A, .b (decide (ag ≤ ep - m.t))]) rfl ?_ ?_ (rle_tup2 (CLe.of_eq rfl) (CLe.of_eq rfl) rfl rfl) .nil ⟨rfl, rfl⟩ _ (.inl rfl)
          · exact nq1
          · exact ⟨trivial, trivial, trivial⟩
def mineL (seeds : List (List UInt8)) : List (List UInt8) := seeds.foldl (fun m s => addK (addK m (frL s)) (stL s)) []
theorem mine_step (seeds : List (List UInt8)) {i : Nat} (h : i < seeds.length) : mineL (seeds.take (i + 1)) = addK (addK (mineL (seeds.take i)) (frL seeds[i])) (stL seeds[i]) := by
  unfold mineL
  rw [List.take_succ_eq_append_getElem h, List.foldl_append]; rfl
theorem mine_len (seeds : List (List UInt8)) : ∀ x ∈ mineL seeds, x.length = 32 := by
  unfold mineL
  suffices h : ∀ (s m : List (List UInt8)), (∀ x ∈ m, x.length = 32) → ∀ x ∈ s.foldl (fun m s => addK (addK m (frL s)) (stL s)) m, x.length = 32 from h seeds [] (fun x hx => by cases hx)
  intro s
  induction s with
  | nil => intro m hm; exact hm
  | cons a r ih => intro m hm; exact ih _ (addK_len (addK_len hm (frL_len a)) (stL_len a))
theorem mine_has (seeds : List (List UInt8)) (g : List UInt8) : (mineL seeds).contains g = seeds.any (fun s => g == frL s || g == stL s) := by
  unfold mineL
  suffices h : ∀ (s m : List (List UInt8)), (s.foldl (fun m s => addK (addK m (frL s)) (stL s)) m).contains g = (m.contains g || s.any (fun s => g == frL s || g == stL s)) by
    rw [h seeds []]; rfl
  intro s
  induction s with
  | nil => intro m; simp
  | cons a r ih =>
    intro m
    rw [List.foldl_cons, ih, addK_mem, addK_mem, List.any_cons, Bool.or_assoc, Bool.or_assoc, Bool.or_assoc]
/-- Has each leaf a label of one of these seeds? -/
def thE (l : List Lef) (seeds : List (List UInt8)) : Bool := l.all (fun x => seeds.any (fun s => x.l == frL s || x.l == stL s))
theorem theirs_spec (l : List Lef) (seeds : List (List UInt8)) (hl : l.length ≤ 100000) (hs : seeds.length ≤ 100000) (hso : ∀ x ∈ seeds, x.length = 32) : Spec Tryz.prog 102 [.sl 65 (l.map Lef.A), .sl 32 (seeds.map labA)] [] (fun v os => v = .b (thE l seeds) ∧ os = []) := by
  refine spec_of TtOk [] Tryz.func102 rfl Tryz.ntmps102 (by kernel_rfl) rfl rfl (fun C => ?_) rfl
  repeat' (first | refine Awp.seq ?_ | refine Awp.block ?_ | refine Awp.region ?_ | refine Ops.nil (nqA ?_) | refine o_len rfl TtOk rfl rfl rfl (fun _ => ?_) | (refine o_calm rfl TtOk rfl rfl rfl ?_ (fun _ => ?_); exact nd) | (refine o_makeMap rfl rfl (fun bm => ?_)))
  refine Awp.loop (fun i : Nat => ⟨38, [(13, .i .i64 i), (12, .i .i64 seeds.length), (11, .sl 32 (seeds.map labA)), (5, .own 10 (.map (some bm))), (0, .sl 65 (l.map Lef.A))], [(10, .obj bm (setO ((mineL (seeds.take i)).map vL)))]⟩) (fun i => i ≤ seeds.length) (fun i => seeds.length - i) [] 0 (Nat.zero_le _) ?_ ?_
  · exact ⟨rfl, ⟨sle_i rfl, sle_i rfl, sle_sl rfl, sle_own, sle_sl rfl, True.intro⟩, HLe.cons 10 rfl (HOLe.refl _) .nil⟩
  intro i hi
  by_cases hlt : i < seeds.length
  · have hi1 : ((i : Int) + 1 = ((i + 1 : Nat) : Int)) := by omega
    have h1 := lfresh_spec seeds[i] (hso _ (List.getElem_mem hlt))
    have h2 := lstale_spec seeds[i] (hso _ (List.getElem_mem hlt))
    have hst := mine_step seeds hlt
    have hM := mine_len (seeds.take i)
    have hM2 := addK_len hM (frL_len seeds[i])
    generalize mineL (seeds.take i) = M at *
    generalize frL seeds[i] = g1 at *
    generalize stL seeds[i] = g2 at *
    repeat' (first | refine Awp.seq ?_ | refine Awp.block ?_ | refine Awp.region ?_ | refine Ops.nil (nqA ?_) | refine Ops.nil (nqX ?_) | refine Awp.skip (nqA ?_) | (refine o_add rfl rfl rfl rfl ?_ ?_; omega) | (refine o_calm rfl TtOk rfl rfl rfl ?_ (fun _ => ?_); exact nd) | refine o_alloc (d := 7) rfl TtOk rfl rfl rfl (fun b7 => ?_) | refine o_store TtOk rfl rfl rfl rfl rfl rfl rfl ⟨rfl, rfl⟩ rfl rfl rfl rfl rfl ?_ | (refine o_index rfl TtOk rfl rfl rfl rfl rfl rfl ?_ (getq_nat ?_) ?_; omega; omega) | (refine a_condP rfl (fun hc => ?_) (fun hc => ?_)) <;> (try (exfalso; omega)) | refine a_any 5 [10] [18, 21] [19, 22] [0, 3, 1, 4, 2, 5, 6, 7, 8, 9] (by kernel_rfl) (by kernel_rfl) (by kernel_rfl) rfl rfl rfl ?_ | (refine o_entryLab TtOk rfl M hM g1 rfl rfl rfl rfl rfl rfl rfl rfl rfl rfl ?_) | (refine o_entryStoreLab rfl M g1 rfl rfl rfl rfl rfl rfl ?_) | (refine o_updateLab TtOk rfl (addK M g1) hM2 g2 rfl rfl rfl rfl rfl rfl rfl rfl rfl ?_) | refine o_callE rfl (h1) ⟨nqS, True.intro⟩ rfl ?_ | refine o_callE rfl (h2) ⟨nqS, True.intro⟩ rfl ?_)
    all_goals exact ⟨i + 1, [], hlt, by show seeds.length - (i + 1) < seeds.length - i; omega, rfl, ⟨sle_i hi1, sle_i rfl, sle_sl rfl, sle_own, sle_sl rfl, True.intro⟩, HLe.cons 10 rfl (by rw [hst]; exact HOLe.refl _) .nil⟩
  · have hie : i = seeds.length := by omega
    subst hie
    rw [List.take_length]
    have hM := mine_len seeds
    have hmh := mine_has seeds
    have hE : thE l seeds = l.all (fun x => (mineL seeds).contains x.l) := by unfold thE; congr 1; funext x; exact (hmh x.l).symm
    rw [hE]
    clear hmh hE
    generalize mineL seeds = M at *
    repeat' (first | refine Awp.seq ?_ | refine Awp.block ?_ | refine Awp.region ?_ | refine Ops.nil (nqA ?_) | refine Awp.exit (nqA ?_) | refine o_len rfl TtOk rfl rfl rfl (fun _ => ?_) | (refine o_calm rfl TtOk rfl rfl rfl ?_ (fun _ => ?_); exact nd) | (refine a_condP rfl (fun hc => ?_) (fun hc => ?_)) <;> (try (exfalso; omega)))
    refine Awp.loop (fun j : Nat => ⟨38, [(28, .i .i64 j), (27, .i .i64 l.length), (26, .sl 65 (l.map Lef.A)), (5, .own 10 (.map (some bm)))], [(10, .obj bm (setO (M.map vL)))]⟩) (fun j => j ≤ l.length ∧ ∀ i (h : i < l.length), i < j → M.contains l[i].l = true) (fun j => l.length - j) [] 0 ⟨Nat.zero_le _, fun i _ h => absurd h (Nat.not_lt_zero _)⟩ ?_ ?_
    · exact ⟨rfl, ⟨sle_i rfl, sle_i rfl, sle_sl rfl, sle_own, True.intro⟩, HLe.cons 10 rfl (HOLe.refl _) .nil⟩
    rintro j ⟨hj, hall⟩
    by_cases hjl : j < l.length
    · have hj1 : ((j : Int) + 1 = ((j + 1 : Nat) : Int)) := by omega
      cases hq : M.contains l[j].l with
      | true =>
        repeat' (first | (rw [hq]) | refine Awp.seq ?_ | refine Awp.block ?_ | refine Awp.region ?_ | refine Ops.nil (nqA ?_) | refine Ops.nil (nqX ?_) | refine Awp.skip (nqA ?_) | (refine o_add rfl rfl rfl rfl ?_ ?_; omega) | (refine o_calm rfl TtOk rfl rfl rfl ?_ (fun _ => ?_); exact nd) | refine o_alloc (d := 9) rfl TtOk rfl rfl rfl (fun b9 => ?_) | refine o_store TtOk rfl rfl rfl rfl rfl rfl rfl ⟨rfl, rfl⟩ rfl rfl rfl rfl rfl ?_ | (refine o_index rfl TtOk rfl rfl rfl rfl rfl rfl ?_ (getq_nat ?_) ?_; omega; omega) | refine a_condF rfl ?_ | (refine a_condP rfl (fun hc => ?_) (fun hc => ?_)) <;> (try (exfalso; omega)) | (refine o_lookupLab TtOk rfl M hM l[j].l rfl rfl rfl rfl rfl rfl rfl rfl ?_))
        all_goals exact ⟨j + 1, [], ⟨hjl, fun i h hi => by
          rcases Nat.lt_succ_iff_lt_or_eq.1 hi with h2 | rfl
          · exact hall i h h2
          · exact hq⟩, by show l.length - (j + 1) < l.length - j; omega, rfl, ⟨sle_i hj1, sle_i rfl, sle_sl rfl, sle_own, True.intro⟩, HLe.cons 10 rfl (HOLe.refl _) .nil⟩
      | false =>
        have hT : l.all (fun x => M.contains x.l) = false := by
          rw [List.all_eq_false]
          exact ⟨l[j], List.getElem_mem _, by rw [hq]; decide⟩
        rw [hT]
        repeat' (first | (rw [hq]) | refine Awp.seq ?_ | refine Awp.block ?_ | refine Awp.region ?_ | refine Ops.nil (nqA ?_) | refine Awp.skip (nqA ?_) | refine Awp.ret (nqE ?_) | (refine o_calm rfl TtOk rfl rfl rfl ?_ (fun _ => ?_); exact nd) | refine o_alloc (d := 9) rfl TtOk rfl rfl rfl (fun b9 => ?_) | refine o_store TtOk rfl rfl rfl rfl rfl rfl rfl ⟨rfl, rfl⟩ rfl rfl rfl rfl rfl ?_ | (refine o_index rfl TtOk rfl rfl rfl rfl rfl rfl ?_ (getq_nat ?_) ?_; omega; omega) | refine a_condT rfl ?_ | (refine a_condP rfl (fun hc => ?_) (fun hc => ?_)) <;> (try (exfalso; omega)) | (refine o_lookupLab TtOk rfl M hM l[j].l rfl rfl rfl rfl rfl rfl rfl rfl ?_))
        all_goals exact nq2
    · have hT : l.all (fun x => M.contains x.l) = true := List.all_eq_true.2 (fun x hx => by
        obtain ⟨i, hi, rfl⟩ := List.getElem_of_mem hx
        exact hall i hi (by omega))
      rw [hT]
      repeat' (first | refine Awp.seq ?_ | refine Awp.region ?_ | refine Ops.nil (nqA ?_) | refine Awp.exit (nqA ?_) | refine Awp.ret (nqE ?_) | (refine o_calm rfl TtOk rfl rfl rfl ?_ (fun _ => ?_); exact nd) | (refine a_condP rfl (fun hc => ?_) (fun hc => ?_)) <;> (try (exfalso; omega)))
      exact nq2
end Go.Proofs.YtcmgpkibjdbonaaGreat
