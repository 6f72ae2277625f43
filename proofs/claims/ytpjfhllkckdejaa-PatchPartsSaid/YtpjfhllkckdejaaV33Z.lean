/- Equality of the document's items: a length, two labels, a time. -/
import Derived.Test.YtpjfhllkckdejaaG14Z
import Derived.Test.YtpjfhllkckdejaaSR4Z
import Derived.Test.YtpjfhllkckdejaaR5Z
import Derived.Test.YtpjfhllkckdejaaR6
import Derived.Test.YtpjfhllkckdejaaV9
import Derived.ProofKit
import Derived.OpenShut
import Derived.Deep.Slices
import Derived.ChangeOld
set_option maxHeartbeats 8000000
set_option maxRecDepth 100000
namespace Go.Proofs.Ytpjfhllkckdejaa
open Go Go.RowKit
def itmC_ (x : Itm) : List Value := Value.int .i64 x.n :: (x.l.map cellB ++ (x.s.map cellB ++ [Value.int .i64 x.t]))
def eqI (x y : Itm) : Bool := x.n == y.n && (x.l == y.l && (x.s == y.s && x.t == y.t))
theorem eqI_iff {x y : Itm} : eqI x y = true ↔ x = y := by
  obtain ⟨n, l, s, t⟩ := x
  obtain ⟨n2, l2, s2, t2⟩ := y
  unfold eqI
  simp only [Bool.and_eq_true, beq_iff_eq, Itm.mk.injEq]
theorem itm_cells {w : World} {F : Nat → Prop} {x : Itm} {v : Value} (h : repV w F x.R v) : x.ok ∧ v = .agg (itmC_ x).toArray := by
  obtain ⟨cs, hc, he⟩ := h
  simp only [Itm.R, labA, repC, repL] at hc
  obtain ⟨c0, cr, rfl, rfl, c1, c2, rfl, ⟨h1, h2⟩, c3, c4, rfl, ⟨h3, h4⟩, c5, c6, rfl, rfl, rfl⟩ := hc
  have e1 := bytes_cells x.l c1 h2
  have e2 := bytes_cells x.s c3 h4
  subst e1
  subst e2
  exact ⟨⟨by simpa using h1, by simpa using h3⟩, he⟩
theorem itm_eq0 (x y : Itm) (hx : x.ok) (hy : y.ok) (w : World) : (Op.equalIn 10000 73 (.agg (itmC_ x).toArray) (.agg (itmC_ y).toArray)).run Try.prog w = .ok (eqI x y) w := by
  have hS : Try.prog.underlying 73 = some (.struct (Try.prog.fieldsOf 73)) := by kernel_rfl
  have hh : Try.prog.stoodInHeld 73 = false := by kernel_rfl
  have hi : Try.prog.underlying 3 = some (.int .i64) := by kernel_rfl
  have hk : Try.prog.plainKey 3 = true := by kernel_rfl
  have hu8 : Try.prog.underlying 5 = some (.int .u8) := by kernel_rfl
  have hk8 : Try.prog.plainKey 5 = true := by kernel_rfl
  have hl : Try.prog.underlying 24 = some (.array 32 5) := by kernel_rfl
  have hsz := (tget_ok TtOk (show tget Tt 24 = some _ from rfl)).sizeRun w
  have hag : (isAgg 24).run Try.prog w = .ok true w := by
    unfold isAgg; simp only [Sem.run_bind, run_underlying hl, Result.andThen_ok, Sem.run_pure]
  have p0 : ∀ (z : Itm), (part 3 (itmC_ z).toArray 0).run Try.prog w = .ok (.int .i64 z.n) w := fun z => run_part_plain w hk rfl
  have pA : ∀ (z : Itm), z.ok → (part 24 (itmC_ z).toArray 1).run Try.prog w = .ok (.agg (z.l.map cellB).toArray) w := fun z hz => by
    have hx : ((itmC_ z).toArray.extract 1 (1 + 32)) = (z.l.map cellB).toArray := by
      rw [List.extract_toArray]
      congr 1
      unfold itmC_ List.extract
      rw [List.drop_succ_cons, List.drop_zero, show 1 + 32 - 1 = 32 from rfl, List.take_append_of_le_length (by rw [List.length_map, hz.1]; decide), List.take_of_length_le (by rw [List.length_map, hz.1]; decide)]
    unfold part
    simp only [Sem.run_bind, hag, Result.andThen_ok, if_true, hsz, Sem.run_pure]
    exact congrArg (fun q => Result.ok (Value.agg q) w) hx
  have pB : ∀ (z : Itm), z.ok → (part 24 (itmC_ z).toArray 33).run Try.prog w = .ok (.agg (z.s.map cellB).toArray) w := fun z hz => by
    have hx : ((itmC_ z).toArray.extract 33 (33 + 32)) = (z.s.map cellB).toArray := by
      rw [List.extract_toArray]
      congr 1
      unfold itmC_ List.extract
      rw [List.drop_succ_cons, List.drop_append_of_le_length (by rw [List.length_map, hz.1]; decide), List.drop_of_length_le (by rw [List.length_map, hz.1]; decide), List.nil_append, List.take_append_of_le_length (by rw [List.length_map, hz.2]; decide), List.take_of_length_le (by rw [List.length_map, hz.2]; decide)]
    unfold part
    simp only [Sem.run_bind, hag, Result.andThen_ok, if_true, hsz, Sem.run_pure]
    exact congrArg (fun q => Result.ok (Value.agg q) w) hx
  have pC : ∀ (z : Itm), z.ok → (part 3 (itmC_ z).toArray 65).run Try.prog w = .ok (.int .i64 z.t) w := fun z hz => run_part_plain w hk (by
    unfold itmC_
    rw [List.getElem?_toArray, List.getElem?_cons_succ, List.getElem?_append_right (by rw [List.length_map, hz.1]; decide), List.getElem?_append_right (by rw [List.length_map, List.length_map, hz.1, hz.2]; decide), List.length_map, List.length_map, hz.1, hz.2]; rfl)
  have p3 := fun a b : Int => run_equalIn_int (P := Try.prog) w 9998 3 .i64 .i64 a b hi
  have p4 : ∀ a b : List UInt8, a.length = 32 → b.length = 32 → (Op.equalIn (9998 + 1) 24 (.agg (a.map cellB).toArray) (.agg (b.map cellB).toArray)).run Try.prog w = .ok (a == b) w := fun a b ha hb => by
    obtain ⟨ie, hie, hies, _⟩ := (tget_ok TtOk (show tget Tt 5 = some _ from rfl)).inf
    have hco : Try.prog.cellsOf 5 = 1 := by unfold Program.cellsOf; rw [hie]; exact hies
    have h1 := run_equalIn_array (P := Try.prog) w 9998 (a.map cellB).toArray (b.map cellB).toArray hl hie
    have h2 := eqItems_bytes (P := Try.prog) (w := w) hu8 hk8 9997 a b (List.range 32) (fun i hi => by have := List.mem_range.1 hi; omega)
    rw [all_range_eq a b 32 ha hb] at h2
    rw [hco] at h1
    rw [h1]
    exact h2
  rw [run_equalIn_struct (P := Try.prog) w 9999 _ _ _ hS hh]
  unfold eqI
  simp only [Program.fieldsOf, Try.underlying73]
  simp only [Op.eqFields]
  rw [if_pos (by decide)]
  rw [Sem.run_bind, p0 x, Result.andThen_ok, Sem.run_bind, p0 y, Result.andThen_ok, Sem.run_bind, p3, Result.andThen_ok]
  generalize (x.n == y.n) = q0
  cases q0
  · simp only [Bool.not_false, if_true, Sem.run_pure, Bool.false_and]
    try rfl
  simp only [Bool.not_true, Bool.false_eq_true, if_false]
  rw [if_pos (by decide)]
  rw [Sem.run_bind, pA x hx, Result.andThen_ok, Sem.run_bind, pA y hy, Result.andThen_ok, Sem.run_bind, p4 _ _ hx.1 hy.1, Result.andThen_ok]
  generalize (x.l == y.l) = q
  cases q
  · simp only [Bool.not_false, if_true, Sem.run_pure, Bool.false_and]
    try rfl
  · simp only [Bool.not_true, Bool.false_eq_true, if_false]
    rw [if_pos (by decide)]
    rw [Sem.run_bind, pB x hx, Result.andThen_ok, Sem.run_bind, pB y hy, Result.andThen_ok, Sem.run_bind, p4 _ _ hx.2 hy.2, Result.andThen_ok]
    generalize (x.s == y.s) = r
    cases r
    · simp only [Bool.not_false, if_true, Sem.run_pure, Bool.false_and]
      try rfl
    · simp only [Bool.not_true, Bool.false_eq_true, if_false]
      rw [if_pos (by decide)]
      rw [Sem.run_bind, pC x hx, Result.andThen_ok, Sem.run_bind, pC y hy, Result.andThen_ok, Sem.run_bind, p3, Result.andThen_ok]
      generalize (x.t == y.t) = z
      cases z <;> rfl
theorem itm_neq (x y : Itm) (hx : x.ok) (hy : y.ok) (w : World) : (binOp .neq 73 (.agg (itmC_ x).toArray) (.agg (itmC_ y).toArray)).run Try.prog w = .ok (.bool (!(eqI x y))) w := by
  rw [run_neq_struct, itm_eq0 x y hx hy]; rfl
section
variable {m : OM} {C : Ctx} {ops : Array Oper} {l : List Oper} {K : St → Prop} {n : Nat} {sl : List (Nat × AV)} {hp : List (Nat × HO)} {d : Nat} {ty : Nat} {pos : String} {aft : Array Edge} {gd : Option (Nat × Bool)}
theorem o_neItm (hw : gval ops ⟨n, sl, hp⟩ gd = gwant gd) {u : Nat} {x y : Operand} {p q : Itm} (hx : ev ⟨n, sl, hp⟩ x = p.R) (hy : ev ⟨n, sl, hp⟩ y = q.R) (hd : Nat.blt d n = true)
    (h : Ops m Try.prog C ops l ⟨n, (d, .b (!(eqI p q))) :: sl, hp⟩ K) : Ops m Try.prog C ops (⟨some d, .binOp .neq 73 x y u, ty, pos, aft, gd⟩ :: l) ⟨n, sl, hp⟩ K := by
  refine Ops.by (d := some d) hw none okc_none hd rfl (fun ac w hs => ?_) h
  have Ex := ev_rep hs x
  have Ey := ev_rep hs y
  rw [hx] at Ex
  rw [hy] at Ey
  obtain ⟨l1, Ex⟩ := itm_cells Ex
  obtain ⟨l2, Ey⟩ := itm_cells Ey
  refine ⟨_, repV_b.2 rfl, fun w' _ => ?_⟩
  have hgd := run_eqGuard_agg (P := Try.prog) w' .neq 73 x y (itmC_ p).toArray (itmC_ q).toArray (by kernel_rfl)
  simp only [execOp, Ex, Ey, Sem.run_bind, hgd, itm_neq p q l1 l2, Result.andThen_ok, Sem.run_pure]
end
end Go.Proofs.Ytpjfhllkckdejaa
set_option maxHeartbeats 8000000
set_option maxRecDepth 100000
namespace Go.Proofs.Ytpjfhllkckdejaa
open Go Go.RowKit
section
variable {m : OM} {P : Program} {T : List (Nat × TI)} {C : Ctx} {ops : Array Oper} {l : List Oper} {K : St → Prop} {n : Nat} {sl : List (Nat × AV)} {hp : List (Nat × HO)} {d : Nat} {ty : Nat} {pos : String} {aft : Array Edge} {gd : Option (Nat × Bool)}
/-- != on arrays of bytes. -/
theorem o_neArr8 (hT : TTOk P T) (hw : gval ops ⟨n, sl, hp⟩ gd = gwant gd) {t u e k : Nat} {x y : Operand} {l1 l2 : List UInt8} {sz0 by0 by1 : Nat} {z0 z1 : AV}
    (hx : ev ⟨n, sl, hp⟩ x = .arr 1 k (l1.map byA)) (hy : ev ⟨n, sl, hp⟩ y = .arr 1 k (l2.map byA)) (ht : tget T t = some ⟨.array k e, sz0, by0, z0⟩) (he : tget T e = some ⟨.int .u8, 1, by1, z1⟩) (hd : Nat.blt d n = true) (hg : P.eqGuardType P.depth t = false)
    (h : Ops m P C ops l ⟨n, (d, .b (!(l1 == l2))) :: sl, hp⟩ K) : Ops m P C ops (⟨some d, .binOp .neq t x y u, ty, pos, aft, gd⟩ :: l) ⟨n, sl, hp⟩ K := by
  refine Ops.by (d := some d) hw none okc_none hd rfl (fun a w hs => ?_) h
  have Ex := ev_rep hs x
  have Ey := ev_rep hs y
  rw [hx] at Ex
  rw [hy] at Ey
  obtain ⟨c1, hc1, Ex⟩ := Ex
  obtain ⟨c2, hc2, Ey⟩ := Ey
  have Ex : a.eval x = .agg c1.toArray := Ex
  have Ey : a.eval y = .agg c2.toArray := Ey
  simp only [repC, List.length_map] at hc1 hc2
  have q1 := bytes_cells l1 c1 hc1.2
  have q2 := bytes_cells l2 c2 hc2.2
  have hu := tk_array (tget_ok hT ht)
  have hue := tk_int (tget_ok hT he)
  obtain ⟨ie, hie, hies, _⟩ := (tget_ok hT he).inf
  have hpk : P.plainKey e = true := by unfold Program.plainKey; rw [hue]
  have hco : P.cellsOf e = 1 := by unfold Program.cellsOf; rw [hie]; exact hies
  refine ⟨_, repV_b.2 rfl, fun w' _ => ?_⟩
  have h1 := run_equalIn_array (P := P) w' 9999 c1.toArray c2.toArray hu hie
  rw [hco, q1, q2, eqItems_bytes hue hpk 9998 l1 l2 (List.range k) (fun i hi => by have := List.mem_range.1 hi; omega), all_range_eq l1 l2 k hc1.1 hc2.1] at h1
  have hgd := run_eqGuard_agg (P := P) w' .neq t x y c1.toArray c2.toArray hg
  have hr := run_neq_struct (P := P) w' t c1.toArray c2.toArray
  rw [q1, q2] at hr hgd
  rw [show (10000 : Nat) = 9999 + 1 from rfl, h1] at hr
  simp only [execOp, Ex, Ey, q1, q2, Sem.run_bind, hgd, hr, Result.andThen_ok, Sem.run_pure]
end
end Go.Proofs.Ytpjfhllkckdejaa
set_option maxHeartbeats 8000000
set_option maxRecDepth 100000
namespace Go.Proofs.Ytpjfhllkckdejaa
open Go Go.RowKit
theorem same16_spec (l : List Itm) (hl : l.length ≤ 100000) : Spec Try.prog 26 [.sl 66 (l.map Itm.A), .sl 66 (l.map Itm.R)] [] (fun v os => v = .i .i64 0 ∧ os = []) := by
  refine spec_of TtOk [] Try.func26 rfl Try.ntmps26 (by kernel_rfl) rfl rfl (fun C => ?_) rfl
  repeat' (first | refine Awp.seq ?_ | refine Awp.block ?_ | refine Awp.region ?_ | (refine Ops.nil ?_; show Awp _ _ _ _ _) | (refine Awp.skip ?_; show Awp _ _ _ _ _) | refine o_len rfl TtOk rfl rfl rfl (fun _ => ?_) | (refine o_calm rfl TtOk rfl rfl rfl ?_ (fun _ => ?_); first | exact True.intro | exact ⟨rfl, rfl, rfl, rfl⟩ | exact ⟨rfl, True.intro⟩ | exact ⟨rfl, rfl⟩ | exact ⟨rfl, rfl, rfl⟩ | exact rfl | exact ⟨fun h0 => by cases h0, rfl⟩ | exact (fun h0 => by cases h0) | exact ⟨rfl, by omega⟩ | exact ⟨Nat.succ_ne_zero _, rfl⟩ | omega) | (refine a_condN rfl (fun hc => ?_) (fun hc => ?_)) <;> (try (exfalso; omega)))
  refine Awp.loop (fun i : Nat => ⟨27, [(13, .i .i64 i), (12, .i .i64 l.length), (0, .sl 66 (l.map Itm.A)), (1, .sl 66 (l.map Itm.R))], []⟩) (fun i => i ≤ l.length) (fun i => l.length - i) [] 0 (Nat.zero_le _) ?_ ?_
  · exact ⟨rfl, ⟨sle_i rfl, sle_i rfl, sle_sl rfl, sle_sl rfl, True.intro⟩, .nil⟩
  intro i hi
  by_cases hlt : i < l.length
  · have h1 := told15_spec l[i]
    have hi1 : ((i : Int) + 1 = ((i + 1 : Nat) : Int)) := by omega
    have hq : (!(eqI l[i] l[i])) = false := by rw [eqI_iff.2 rfl]; rfl
    repeat' (first | (refine o_neItm rfl (p := l[i]) (q := l[i]) rfl rfl rfl ?_; rw [hq]) | refine Awp.seq ?_ | refine Awp.block ?_ | refine Awp.region ?_ | (refine Ops.nil ?_; show Awp _ _ _ _ _) | (refine Ops.nil ?_; show Exists _) | (refine Awp.skip ?_; show Awp _ _ _ _ _) | (refine o_add rfl rfl rfl rfl ?_ ?_; omega) | (refine o_calm rfl TtOk rfl rfl rfl ?_ (fun _ => ?_); first | exact True.intro | exact ⟨rfl, rfl, rfl, rfl⟩ | exact ⟨rfl, True.intro⟩ | exact ⟨rfl, rfl⟩ | exact ⟨rfl, rfl, rfl⟩ | exact rfl | exact ⟨fun h0 => by cases h0, rfl⟩ | exact (fun h0 => by cases h0) | exact ⟨rfl, by omega⟩ | exact ⟨Nat.succ_ne_zero _, rfl⟩ | omega) | (refine o_index rfl TtOk rfl rfl rfl rfl rfl rfl ?_ (getq_nat ?_) ?_; omega; omega) | refine a_condF rfl ?_ | (refine a_condP rfl (fun hc => ?_) (fun hc => ?_)) <;> (try (exfalso; omega)) | refine a_any 6 [] [] [] [0, 1, 2, 5, 6, 7, 3, 8, 4, 9] (by kernel_rfl) (by kernel_rfl) (by kernel_rfl) rfl rfl rfl ?_ | (refine o_call0 rfl (h1) ⟨SLe.of_eq rfl, True.intro⟩ rfl ?_; rintro _ _ ⟨rfl, rfl⟩; refine ⟨rfl, ?_⟩))
    exact ⟨i + 1, [], hlt, by omega, rfl, ⟨sle_i hi1, sle_i rfl, sle_sl rfl, sle_sl rfl, True.intro⟩, .nil⟩
  · have hie : i = l.length := by omega
    subst hie
    repeat' (first | refine Awp.seq ?_ | refine Awp.region ?_ | (refine Ops.nil ?_; show Awp _ _ _ _ _) | (refine Awp.exit ?_; show Awp _ _ _ _ _) | (refine Awp.ret ?_; show endK _ _ _ _ _) | (refine o_calm rfl TtOk rfl rfl rfl ?_ (fun _ => ?_); first | exact True.intro | exact ⟨rfl, rfl, rfl, rfl⟩ | exact ⟨rfl, True.intro⟩ | exact ⟨rfl, rfl⟩ | exact ⟨rfl, rfl, rfl⟩ | exact rfl | exact ⟨fun h0 => by cases h0, rfl⟩ | exact (fun h0 => by cases h0) | exact ⟨rfl, by omega⟩ | exact ⟨Nat.succ_ne_zero _, rfl⟩ | omega) | (refine a_condP rfl (fun hc => ?_) (fun hc => ?_)) <;> (try (exfalso; omega)))
    exact end_tmp rfl rfl rfl [] [] (CLe.of_eq rfl) .nil ⟨rfl, rfl⟩ _ (.inl rfl)
theorem patchTops_spec (l : List Itm) (hl : l.length ≤ 9223372036854775807) (hok : ∀ x ∈ l, x.ok) : Spec Try.prog 4 [.sl 66 (l.map Itm.A)] [] (fun v os => v = .b true ∧ os = []) := by
  refine spec_of TtOk [] Try.func4 rfl Try.ntmps4 (by kernel_rfl) rfl rfl (fun C => ?_) rfl
  refine Awp.seq ?_
  repeat' (first | refine Awp.region ?_ | (refine Ops.nil ?_; show Awp _ _ _ _ _) | (refine o_calm rfl TtOk rfl rfl rfl ?_ (fun _ => ?_); first | exact True.intro | exact ⟨rfl, rfl, rfl, rfl⟩ | exact ⟨rfl, True.intro⟩ | exact ⟨rfl, rfl⟩ | exact ⟨rfl, rfl, rfl⟩ | exact rfl | exact ⟨fun h0 => by cases h0, rfl⟩ | exact (fun h0 => by cases h0) | exact ⟨rfl, by omega⟩ | exact ⟨Nat.succ_ne_zero _, rfl⟩ | omega))
  refine Awp.seqI (fun _ : Unit => ⟨59, [(0, .sl 66 ((l.take 60).map Itm.A))], []⟩) (fun _ => True) ?_ ?_
  · by_cases h60 : 60 < l.length
    · repeat' (first | refine Awp.seq ?_ | refine Awp.region ?_ | (refine Ops.nil ?_; show Awp _ _ _ _ _) | (refine Ops.nil ?_; show Exists _) | refine o_len rfl TtOk rfl rfl rfl (fun _ => ?_) | (refine o_calm rfl TtOk rfl rfl rfl ?_ (fun _ => ?_); first | exact True.intro | exact ⟨rfl, rfl, rfl, rfl⟩ | exact ⟨rfl, True.intro⟩ | exact ⟨rfl, rfl⟩ | exact ⟨rfl, rfl, rfl⟩ | exact rfl | exact ⟨fun h0 => by cases h0, rfl⟩ | exact (fun h0 => by cases h0) | exact ⟨rfl, by omega⟩ | exact ⟨Nat.succ_ne_zero _, rfl⟩ | omega) | (refine a_condP rfl (fun hc => ?_) (fun hc => ?_)) <;> (try (exfalso; omega)) | (refine o_sliceSl TtOk rfl 0 60 rfl rfl rfl rfl rfl bnd_none (bnd_some rfl rfl) (by omega) (by omega) ?_))
      exact ⟨(), [], trivial, rfl, ⟨sle_sl rfl, True.intro⟩, .nil⟩
    · rw [List.take_of_length_le (by omega)]
      repeat' (first | refine Awp.seq ?_ | refine Awp.region ?_ | (refine Ops.nil ?_; show Awp _ _ _ _ _) | (refine Awp.skip ?_; show Exists _) | refine o_len rfl TtOk rfl rfl rfl (fun _ => ?_) | (refine o_calm rfl TtOk rfl rfl rfl ?_ (fun _ => ?_); first | exact True.intro | exact ⟨rfl, rfl, rfl, rfl⟩ | exact ⟨rfl, True.intro⟩ | exact ⟨rfl, rfl⟩ | exact ⟨rfl, rfl, rfl⟩ | exact rfl | exact ⟨fun h0 => by cases h0, rfl⟩ | exact (fun h0 => by cases h0) | exact ⟨rfl, by omega⟩ | exact ⟨Nat.succ_ne_zero _, rfl⟩ | omega) | (refine a_condP rfl (fun hc => ?_) (fun hc => ?_)) <;> (try (exfalso; omega)))
      exact ⟨(), [], trivial, rfl, ⟨sle_sl rfl, True.intro⟩, .nil⟩
  rintro ⟨⟩ -
  have hok1 : ∀ x ∈ l.take 60, x.ok := fun x hx => hok x (List.mem_of_mem_take hx)
  have hll : (l.take 60).length ≤ 60 := by rw [List.length_take]; omega
  generalize l.take 60 = L at hok1 hll
  have h1 := told16_spec L 60 (by omega) (by decide) hll
  have h2 := rcheckI_spec L (by omega) hok1
  have h3 := top_spec L (by omega) hok1
  have h4 := awake16_spec
  have h5 := pcheck_spec L (by omega) hok1
  have h6 := fun hc => rtop_spec L (by omega) hok1 hc
  have h7 := sorted_spec L (by omega)
  have h8 := rsorted_spec L (by omega) hok1
  have h9 := same16_spec (srtI L) (by rw [srtI_len]; omega)
  have hz : chkI L ≠ 0 → topS L = z32 := fun h => if_pos h
  generalize srtI L = M at h7 h8 h9
  generalize topS L = s at h3 h6 hz
  generalize chkI L = c at h2 h3 h5 h6 hz
  by_cases hc : c = 0
  · have g6 := h6 hc
    clear h6 hz
    have hss : (!(s == s)) = false := by rw [beq_self_eq_true]; rfl
    subst hc
    repeat' (first | refine Awp.seq ?_ | refine Awp.region ?_ | (refine Ops.nil ?_; show Awp _ _ _ _ _) | (refine Awp.skip ?_; show Awp _ _ _ _ _) | (refine Awp.ret ?_; show endK _ _ _ _ _) | refine o_noT rfl rfl rfl ?_ | (refine o_calm rfl TtOk rfl rfl rfl ?_ (fun _ => ?_); first | exact True.intro | exact ⟨rfl, rfl, rfl, rfl⟩ | exact ⟨rfl, True.intro⟩ | exact ⟨rfl, rfl⟩ | exact ⟨rfl, rfl, rfl⟩ | exact rfl | exact ⟨fun h0 => by cases h0, rfl⟩ | exact (fun h0 => by cases h0) | exact ⟨rfl, by omega⟩ | exact ⟨Nat.succ_ne_zero _, rfl⟩ | omega) | refine o_alloc (d := 5) rfl TtOk rfl rfl rfl (fun b5 => ?_) | refine o_store TtOk rfl rfl rfl rfl rfl rfl rfl ⟨rfl, rfl⟩ rfl rfl rfl rfl rfl ?_ | refine a_condF rfl ?_ | (refine a_any 6 [] [] [] [0, 1, 2, 3, 5, 4, 6, 7, 8, 9, 10, 11, 12, 13, 14, 15, 16, 18, 17, 19, 20, 21, 22, 23, 24, 25, 26, 28, 27, 29, 30, 31] (by kernel_rfl) (by kernel_rfl) (by kernel_rfl) rfl rfl rfl ?_; (try dsimp only [List.getElem_toArray, List.getElem_cons_zero, List.getElem_cons_succ])) | (refine o_neArr8 TtOk rfl rfl rfl rfl rfl rfl (by kernel_rfl) ?_; rw [hss]) | (refine o_call0 rfl (h1) ⟨SLe.of_eq rfl, SLe.of_eq rfl, True.intro⟩ rfl ?_; rintro _ _ ⟨rfl, rfl⟩; refine ⟨rfl, ?_⟩) | (refine o_call0 rfl (h2) ⟨SLe.of_eq rfl, True.intro⟩ rfl ?_; rintro _ _ ⟨rfl, rfl⟩; refine ⟨rfl, ?_⟩) | (refine o_call0 rfl (h3) ⟨SLe.of_eq rfl, True.intro⟩ rfl ?_; rintro _ _ ⟨rfl, rfl⟩; refine ⟨rfl, ?_⟩) | (refine o_call0 rfl (h4) True.intro rfl ?_; rintro _ _ ⟨rfl, rfl⟩; refine ⟨rfl, ?_⟩) | (refine o_call0 rfl (h5) ⟨SLe.of_eq rfl, True.intro⟩ rfl ?_; rintro _ _ ⟨rfl, rfl⟩; refine ⟨rfl, ?_⟩) | (refine o_call0 rfl (g6) ⟨SLe.of_eq rfl, True.intro⟩ rfl ?_; rintro _ _ ⟨rfl, rfl⟩; refine ⟨rfl, ?_⟩) | (refine o_call0 rfl (h7) ⟨SLe.of_eq rfl, True.intro⟩ rfl ?_; rintro _ _ ⟨rfl, rfl⟩; refine ⟨rfl, ?_⟩) | (refine o_call0 rfl (h8) ⟨SLe.of_eq rfl, True.intro⟩ rfl ?_; rintro _ _ ⟨rfl, rfl⟩; refine ⟨rfl, ?_⟩) | (refine o_call0 rfl (h9) ⟨SLe.of_eq rfl, SLe.of_eq rfl, True.intro⟩ rfl ?_; rintro _ _ ⟨rfl, rfl⟩; refine ⟨rfl, ?_⟩))
    all_goals exact end_tmp rfl rfl rfl [] [] (CLe.of_eq rfl) .nil ⟨rfl, rfl⟩ _ (.inl rfl)
  · have hs := hz hc
    subst hs
    clear hz h6
    have hc2 : (c != c) = false := by simp
    have hc3 : (c == 0) = false := beq_eq_false_iff_ne.2 hc
    have hc4 : (c != 0) = true := by rw [bne, hc3]; rfl
    have hss : (!(z32 == z32)) = false := by rw [beq_self_eq_true]; rfl
    have hzz : AV.arr 1 32 (List.replicate 32 (AV.i .u8 0)) = labA z32 := rfl
    generalize z32 = s at h3 hss hzz
    repeat' (first | (rw [hzz]) | (rw [hc4]) | (rw [hc3]) | (rw [hc2]) | refine Awp.seq ?_ | refine Awp.region ?_ | (refine Ops.nil ?_; show Awp _ _ _ _ _) | (refine Awp.skip ?_; show Awp _ _ _ _ _) | (refine Awp.ret ?_; show endK _ _ _ _ _) | refine o_noT rfl rfl rfl ?_ | (refine o_calm rfl TtOk rfl rfl rfl ?_ (fun _ => ?_); first | exact True.intro | exact ⟨rfl, rfl, rfl, rfl⟩ | exact ⟨rfl, True.intro⟩ | exact ⟨rfl, rfl⟩ | exact ⟨rfl, rfl, rfl⟩ | exact rfl | exact ⟨fun h0 => by cases h0, rfl⟩ | exact (fun h0 => by cases h0) | exact ⟨rfl, by omega⟩ | exact ⟨Nat.succ_ne_zero _, rfl⟩ | omega) | refine o_alloc (d := 5) rfl TtOk rfl rfl rfl (fun b5 => ?_) | refine o_store TtOk rfl rfl rfl rfl rfl rfl rfl ⟨rfl, rfl⟩ rfl rfl rfl rfl rfl ?_ | refine o_buildArr0 TtOk rfl rfl rfl rfl ?_ | refine a_condF rfl ?_ | (refine a_any 6 [] [] [] [0, 1, 2, 3, 5, 4, 6, 7, 8, 9, 10, 11, 12, 13, 14, 15, 16, 18, 17, 19, 20, 21, 22, 23, 24, 25, 26, 28, 27, 29, 30, 31] (by kernel_rfl) (by kernel_rfl) (by kernel_rfl) rfl rfl rfl ?_; (try dsimp only [List.getElem_toArray, List.getElem_cons_zero, List.getElem_cons_succ])) | (refine o_neArr8 TtOk rfl rfl rfl rfl rfl rfl (by kernel_rfl) ?_; rw [hss]) | (refine o_call0 rfl (h1) ⟨SLe.of_eq rfl, SLe.of_eq rfl, True.intro⟩ rfl ?_; rintro _ _ ⟨rfl, rfl⟩; refine ⟨rfl, ?_⟩) | (refine o_call0 rfl (h2) ⟨SLe.of_eq rfl, True.intro⟩ rfl ?_; rintro _ _ ⟨rfl, rfl⟩; refine ⟨rfl, ?_⟩) | (refine o_call0 rfl (h3) ⟨SLe.of_eq rfl, True.intro⟩ rfl ?_; rintro _ _ ⟨rfl, rfl⟩; refine ⟨rfl, ?_⟩) | (refine o_call0 rfl (h4) True.intro rfl ?_; rintro _ _ ⟨rfl, rfl⟩; refine ⟨rfl, ?_⟩) | (refine o_call0 rfl (h5) ⟨SLe.of_eq rfl, True.intro⟩ rfl ?_; rintro _ _ ⟨rfl, rfl⟩; refine ⟨rfl, ?_⟩) | (refine o_call0 rfl (h7) ⟨SLe.of_eq rfl, True.intro⟩ rfl ?_; rintro _ _ ⟨rfl, rfl⟩; refine ⟨rfl, ?_⟩) | (refine o_call0 rfl (h8) ⟨SLe.of_eq rfl, True.intro⟩ rfl ?_; rintro _ _ ⟨rfl, rfl⟩; refine ⟨rfl, ?_⟩) | (refine o_call0 rfl (h9) ⟨SLe.of_eq rfl, SLe.of_eq rfl, True.intro⟩ rfl ?_; rintro _ _ ⟨rfl, rfl⟩; refine ⟨rfl, ?_⟩))
    all_goals exact end_tmp rfl rfl rfl [] [] (CLe.of_eq rfl) .nil ⟨rfl, rfl⟩ _ (.inl rfl)
end Go.Proofs.Ytpjfhllkckdejaa
namespace Go.Proofs.Ytpjfhllkckdejaa
open Go Go.RowKit Go.ChangeShapes Go.WideShapes Go.Deep

/-- A type's shape. -/
inductive Sh where
  | b | i (k : IntKind) | s | sl (sz : Nat) (e : Sh) | agg (fs : List Sh) | arr (sz n : Nat) (e : Sh)
mutual
def has : Sh → AV → Prop
  | .b, a => ∃ x, a = .b x
  | .i k, a => ∃ n, a = .i k n ∧ k.min ≤ n ∧ n ≤ k.max
  | .s, a => ∃ x, a = .s x ∧ x.length ≤ 9223372036854775807
  | .sl sz e, a => ∃ xs, a = .sl sz xs ∧ xs.length ≤ 9223372036854775807 ∧ ∀ x ∈ xs, has e x
  | .agg fs, a => ∃ xs, a = .agg xs ∧ hasL fs xs
  | .arr sz n e, a => ∃ xs, a = .arr sz n xs ∧ xs.length = n ∧ ∀ x ∈ xs, has e x
def hasL : List Sh → List AV → Prop
  | [], xs => xs = []
  | f :: fs, xs => ∃ y ys, xs = y :: ys ∧ has f y ∧ hasL fs ys
end
def shFields (T : List (Nat × TI)) (rec : Nat → Option Sh) : Nat → List (Nat × Nat) → Option (List Sh)
  | _, [] => some []
  | off, (o, ft) :: r => match tget T ft, rec ft, shFields T rec (off + ((tget T ft).map (·.sz)).getD 0) r with
    | some _, some sc, some rs => bif Nat.beq o off then some (sc :: rs) else none
    | _, _, _ => none
def endF (T : List (Nat × TI)) : Nat → List (Nat × Nat) → Nat
  | off, [] => off
  | off, (_, ft) :: r => endF T (off + ((tget T ft).map (·.sz)).getD 0) r
def shOf (T : List (Nat × TI)) : Nat → Nat → Option Sh
  | 0, _ => none
  | fuel + 1, t => match tget T t with
    | some ⟨.bool, _, _, _⟩ => some .b
    | some ⟨.int k, _, _, _⟩ => some (.i k)
    | some ⟨.string, _, _, _⟩ => some .s
    | some ⟨.slice e, _, _, _⟩ => match tget T e, shOf T fuel e with
      | some te, some sc => bif Nat.blt 0 te.sz then some (.sl te.sz sc) else none
      | _, _ => none
    | some ⟨.struct fs, sz, _, _⟩ => match shFields T (shOf T fuel) 0 fs with
      | some ss => bif Nat.beq (endF T 0 fs) sz then some (.agg ss) else none
      | none => none
    | some ⟨.array n e, sz, _, _⟩ => match tget T e, shOf T fuel e with
      | some te, some sc => bif Nat.beq sz (n * te.sz) then some (.arr te.sz n sc) else none
      | _, _ => none
    | _ => none
theorem choose_list {α : Type} {n : Nat} {p : Nat → α → Prop} (h : ∀ i, i < n → ∃ x, p i x) : ∃ l : List α, l.length = n ∧ ∀ i (hi : i < l.length), p i l[i] := by
  induction n with
  | zero => exact ⟨[], rfl, fun i hi => by simp at hi⟩
  | succ n ih =>
    obtain ⟨l, hl, hp⟩ := ih (fun i hi => h i (by omega))
    obtain ⟨x, hx⟩ := h n (by omega)
    refine ⟨l ++ [x], by simp [hl], fun i hi => ?_⟩
    by_cases h1 : i < l.length
    · rw [List.getElem_append_left h1]; exact hp i h1
    · have : i = l.length := by simp at hi; omega
      subst this
      rw [List.getElem_append_right (by omega)]
      simp only [Nat.sub_self, List.getElem_cons_zero]
      rw [hl]; exact hx
section
variable {H : Type} {enc : TypeId × Value → H} {P : Program} {w : World} {T : List (Nat × TI)}
theorem TOk.cellsOf {t : Nat} {ti : TI} (h : TOk P t ti) : P.cellsOf t = ti.sz := by
  obtain ⟨i, h1, h2, _⟩ := h.inf
  unfold Program.cellsOf; rw [h1]; simpa using h2
theorem repA_mk {F : Nat → Prop} {sz : Nat} : ∀ (xs : List AV) (cs : List Value), cs.length = xs.length * sz → (∀ i (hi : i < xs.length), repC w F xs[i] ((cs.drop (i * sz)).take sz)) → repA w F sz xs cs
  | [], cs, hl, _ => by simp only [repA]; simpa using hl
  | x :: xs, cs, hl, h => by
    simp only [repA]
    rw [List.length_cons, Nat.add_mul] at hl
    refine ⟨cs.take sz, cs.drop sz, (List.take_append_drop _ _).symm, by have h0 := h 0 (Nat.succ_pos _); rw [Nat.zero_mul, List.drop_zero] at h0; exact h0, by rw [List.length_take]; omega, repA_mk xs _ (by rw [List.length_drop]; omega) (fun i hi => ?_)⟩
    have := h (i + 1) (by simp; omega)
    rw [List.getElem_cons_succ] at this
    rw [List.drop_drop, show sz + i * sz = (i + 1) * sz by rw [Nat.add_mul]; omega]
    exact this
theorem repRow_mk {F : Nat → Prop} {sz b : Nat} : ∀ (xs : List AV) (off : Nat), (∀ i (hi : i < xs.length), ∃ cs, repC w F xs[i] cs ∧ cs.length = sz ∧ w.rangeAt b (off + i * sz) cs) → repRow w F b off sz xs
  | [], _, _ => trivial
  | x :: xs, off, h => by
    simp only [repRow]
    refine ⟨by have h0 := h 0 (Nat.succ_pos _); rw [Nat.zero_mul, Nat.add_zero] at h0; exact h0, repRow_mk xs _ (fun i hi => ?_)⟩
    obtain ⟨cs, h1, h2, h3⟩ := h (i + 1) (by simp; omega)
    rw [List.getElem_cons_succ] at h1
    exact ⟨cs, h1, h2, by rw [show off + sz + i * sz = off + (i + 1) * sz by rw [Nat.add_mul]; omega]; exact h3⟩
theorem open_fields (hT : TTOk P T) {rec : Nat → Option Sh} {n : Nat} {F : Nat → Prop}
    (ih : ∀ t sh, rec t = some sh → ∀ (cs : List Value) (x : DataW H × List MemPlace), DataW.trod enc P w 0 (fun _ => true) true n t cs = some x → ∃ a, has sh a ∧ repC w F a cs) :
    ∀ (fs : List (Nat × Nat)) (off : Nat) (ss : List Sh) (cs : List Value), shFields T rec off fs = some ss → cs.length = endF T off fs →
      (∀ (i : Nat) o ft, fs[i]? = some (o, ft) → ∃ x, DataW.trod enc P w 0 (fun _ => true) true n ft ((cs.drop o).take (P.cellsOf ft)) = some x) → ∃ xs, hasL ss xs ∧ repL w F xs (cs.drop off)
  | [], off, ss, cs, h, hl, _ => by
    simp only [shFields, Option.some.injEq] at h
    subst h
    refine ⟨[], rfl, ?_⟩
    simp only [repL, endF] at hl ⊢
    exact List.drop_eq_nil_of_le (by omega)
  | (o, ft) :: r, off, ss, cs, h, hl, hx => by
    simp only [shFields] at h
    split at h
    case h_2 => cases h
    rename_i ti sc rs h1 h2 h3
    cases hb : Nat.beq o off with
    | false => rw [hb] at h; cases h
    | true =>
      rw [hb] at h
      simp only [cond_true, Option.some.injEq] at h
      subst h
      have := Nat.eq_of_beq_eq_true hb
      subst this
      rw [h1] at h3
      simp only [endF, h1] at hl
      simp only [Option.map_some, Option.getD_some] at h3 hl
      obtain ⟨x, hx0⟩ := hx 0 o ft rfl
      rw [(tget_ok hT h1).cellsOf] at hx0
      obtain ⟨a, ha, hc⟩ := ih ft sc h2 _ _ hx0
      obtain ⟨xs, hxs, hr⟩ := open_fields hT ih r (o + ti.sz) rs cs h3 hl (fun i o' ft' hi => hx (i + 1) o' ft' hi)
      refine ⟨a :: xs, ⟨a, xs, rfl, ha, hxs⟩, ?_⟩
      simp only [repL]
      refine ⟨_, _, ?_, hc, hr⟩
      rw [← List.drop_drop, List.take_append_drop]
theorem open_sh (hT : TTOk P T) : ∀ (fuel : Nat) (t : Nat) (sh : Sh), shOf T fuel t = some sh → ∀ (f : Nat) (cs : List Value) (x : DataW H × List MemPlace), DataW.trod enc P w 0 (fun _ => true) true f t cs = some x →
    ∃ a, has sh a ∧ repC w (fun b => b < w.heap.size) a cs
  | 0, t, sh, h, _, _, _, _ => by cases h
  | fuel + 1, t, sh, h, f, cs, x, hx => by
    unfold shOf at h
    cases ht : tget T t with
    | none => rw [ht] at h; cases h
    | some ti =>
      rw [ht] at h
      have hok := tget_ok hT ht
      obtain ⟨d, hd, hk⟩ := hok.desc
      obtain ⟨k, sz, by_, z⟩ := ti
      cases k <;> first | (simp only [Option.some.injEq] at h; subst h) | skip
      case bool =>
        have hd' : P.underlying t = some .bool := by rw [hd]; cases d <;> first | rfl | cases hk
        obtain ⟨c, e0, _⟩ := DataW.trod_bool hd' hx
        exact ⟨.b c, ⟨c, rfl⟩, by simpa [repC] using e0⟩
      case int k =>
        obtain ⟨c, e0, _, hw⟩ := DataW.trod_int (tk_int hok) hx
        refine ⟨.i k c, ⟨c, rfl, ?_⟩, by simpa [repC] using e0⟩
        simpa [Lit.wf] using hw
      case string =>
        obtain ⟨c, e0, _, hw⟩ := DataW.trod_string (tk_string hok) hx
        refine ⟨.s c.data.toList, ⟨_, rfl, by unfold maxLen at hw; simpa using hw⟩, ?_⟩
        simp only [repC]
        exact ⟨by rw [bytesOf_data]; exact e0, by simpa using hw⟩
      case slice e =>
        simp only at h
        split at h
        case h_2 => cases h
        rename_i te sc h1 h2
        cases hp : Nat.blt 0 te.sz with
        | false => rw [hp] at h; cases h
        | true =>
          rw [hp] at h
          simp only [cond_true, Option.some.injEq] at h
          subst h
          have hpos : 0 < te.sz := Nat.le_of_ble_eq_true hp
          have hc := (tget_ok hT h1).cellsOf
          rcases open_slice (tk_slice hok) hx with ⟨h0, _⟩ | ⟨a, len, cap, m, n, D, Pl, hcs, hb, hl, hm, hmm, hx', hi⟩
          · refine ⟨.sl te.sz [], ⟨[], rfl, by simp, by simp⟩, ?_⟩
            simp only [repC]
            exact ⟨none, 0, h0, Nat.le_refl _, Nat.zero_le _, fun h => absurd rfl h⟩
          · have hmc : m = cap := by rw [hmm, if_pos rfl]
            obtain ⟨ys, hyl, hyp⟩ := choose_list (n := len) (p := fun i y => ∃ cs', w.cells? 0 (a.add (i * te.sz)) te.sz = some cs' ∧ has sc y ∧ repC w (fun b => b < w.heap.size) y cs') (fun i hi' => by
              obtain ⟨cs', hc', ht'⟩ := hi i (by omega)
              rw [hc] at hc'
              obtain ⟨y, h3, h4⟩ := open_sh hT fuel e sc h2 n cs' _ ht'
              exact ⟨y, cs', hc', h3, h4⟩)
            have hspot : len ≠ 0 → a.spot = none ∧ a.block < w.heap.size := by
              intro hne
              obtain ⟨cs', hc', _⟩ := hyp 0 (by omega)
              obtain ⟨_, h3, h4⟩ := World.cells?_some hc'
              have h5 := h4 0 hpos
              rw [List.getElem?_eq_getElem (by omega)] at h5
              exact ⟨by simpa [Addr.add] using World.cell?_spot h5, by simpa [Addr.add] using World.block_lt_of_cell? w _ h5⟩
            refine ⟨.sl te.sz ys, ⟨ys, rfl, by unfold maxLen at hm; omega, fun y hy => ?_⟩, ?_⟩
            · obtain ⟨i, hi', rfl⟩ := List.mem_iff_getElem.1 hy
              obtain ⟨_, _, h3, _⟩ := hyp i hi'
              exact h3
            · simp only [repC]
              refine ⟨some a, cap, by rw [hcs, hyl], by omega, hm, fun hne => ?_⟩
              have hne' : len ≠ 0 := by rw [← hyl]; simpa using hne
              obtain ⟨hs1, hs2⟩ := hspot hne'
              obtain ⟨b, off, sp⟩ := a
              simp only at hs1 hs2
              subst hs1
              refine ⟨b, off, rfl, hs2, repRow_mk _ _ (fun i hi' => ?_)⟩
              obtain ⟨cs', hc', _, h4⟩ := hyp i hi'
              obtain ⟨_, h5, h6⟩ := World.cells?_some hc'
              refine ⟨cs', h4, h5, fun j u hu => ?_⟩
              have hj : j < te.sz := by rw [← h5]; exact (List.getElem?_eq_some_iff.1 hu).1
              have := h6 j hj
              rw [Addr.add_mid, Addr.add_mid] at this
              rw [this]; exact hu
      case struct fs =>
        simp only at h
        split at h
        case h_2 => cases h
        rename_i ss h1
        cases hp : Nat.beq (endF T 0 fs) sz with
        | false => rw [hp] at h; cases h
        | true =>
          rw [hp] at h
          simp only [cond_true, Option.some.injEq] at h
          subst h
          have hsz := Nat.eq_of_beq_eq_true hp
          obtain ⟨fs0, hd', hfs⟩ : ∃ fs0, P.underlying t = some (.struct fs0) ∧ fs = fs0.toList.map fun f => (f.offset, f.type) := by
            cases d <;> first | cases hk | skip
            exact ⟨_, hd, rfl⟩
          obtain ⟨xs, n, _, _, hcl, hxl, hf⟩ := DataW.trod_struct hd' hx
          rw [hok.cellsOf] at hcl
          obtain ⟨ys, hys, hr⟩ := open_fields (enc := enc) (w := w) hT (n := n) (F := fun b => b < w.heap.size) (fun t sh h cs x hx => open_sh hT fuel t sh h n cs x hx) fs 0 ss cs h1 (by rw [hcl]; exact hsz.symm) (fun i o ft hi => by
            subst hfs
            rw [List.getElem?_map] at hi
            cases hg : fs0.toList[i]? with
            | none => rw [hg] at hi; cases hi
            | some fd =>
              rw [hg] at hi
              simp only [Option.map_some, Option.some.injEq, Prod.mk.injEq] at hi
              obtain ⟨rfl, rfl⟩ := hi
              rw [Array.getElem?_toList] at hg
              have h3 := hf i fd hg
              have h4 : i < xs.length := by rw [hxl]; exact (Array.getElem?_eq_some_iff.1 hg).1
              rw [List.getElem?_eq_getElem h4] at h3
              exact ⟨_, h3⟩)
          refine ⟨.agg ys, ⟨ys, rfl, hys⟩, ?_⟩
          simp only [repC]
          exact hr
      case array n e =>
        simp only at h
        split at h
        case h_2 => cases h
        rename_i te sc h1 h2
        cases hp : Nat.beq sz (n * te.sz) with
        | false => rw [hp] at h; cases h
        | true =>
          rw [hp] at h
          simp only [cond_true, Option.some.injEq] at h
          subst h
          have hsz := Nat.eq_of_beq_eq_true hp
          have hc := (tget_ok hT h1).cellsOf
          obtain ⟨xs, m, _, _, hcl, hxl, hf⟩ := DataW.trod_array (tk_array hok) hx
          rw [hok.cellsOf] at hcl
          rw [hc] at hf
          obtain ⟨ys, hyl, hyp⟩ := choose_list (n := n) (p := fun i y => has sc y ∧ repC w (fun b => b < w.heap.size) y ((cs.drop (i * te.sz)).take te.sz)) (fun i hi' => by
            have h3 := hf i hi'
            rw [List.getElem?_eq_getElem (by omega)] at h3
            exact open_sh hT fuel e sc h2 m _ _ h3)
          refine ⟨.arr te.sz n ys, ⟨ys, rfl, hyl, fun y hy => ?_⟩, ?_⟩
          · obtain ⟨i, hi', rfl⟩ := List.mem_iff_getElem.1 hy
            exact (hyp i hi').1
          · simp only [repC]
            exact ⟨hyl, repA_mk _ _ (by rw [hyl, hcl]; exact hsz) (fun i hi' => (hyp i hi').2)⟩
      all_goals cases h
theorem open_val (hT : TTOk P T) (fuel : Nat) {t : Nat} {sh : Sh} (hs : shOf T fuel t = some sh) {base : Nat} {v : Value} {d : DataW H} {p : List MemPlace} (hv : Value.okWide P w .any base t v) (h : DataW.Trod enc P w 0 (fun _ => true) true t v d p) :
    ∃ a, has sh a ∧ repV w (fun b => b < w.heap.size) a v := by
  obtain ⟨f, hf⟩ := h
  obtain ⟨a, ha, hc⟩ := open_sh hT fuel t sh hs f _ _ hf
  refine ⟨a, ha, ?_⟩
  have key : v = ofCells a v.cells.toList := by
    cases fuel with
    | zero => cases hs
    | succ fuel =>
      unfold shOf at hs
      cases ht : tget T t with
      | none => rw [ht] at hs; cases hs
      | some ti =>
        rw [ht] at hs
        have hok := tget_ok hT ht
        obtain ⟨dd, hd, hk⟩ := hok.desc
        obtain ⟨k, sz, by_, z⟩ := ti
        cases k <;> first | (simp only [Option.some.injEq] at hs; subst hs) | skip
        case bool =>
          have hd' : P.underlying t = some .bool := by rw [hd]; cases dd <;> first | rfl | cases hk
          obtain ⟨c, rfl⟩ := okWide_bool hd' hv
          obtain ⟨x, rfl⟩ := ha; rfl
        case int k =>
          obtain ⟨k', c, rfl⟩ := okWide_int (tk_int hok) hv
          obtain ⟨x, rfl, _⟩ := ha; rfl
        case string =>
          obtain ⟨c, rfl⟩ := okWide_string (tk_string hok) hv
          obtain ⟨x, rfl, _⟩ := ha; rfl
        case slice e =>
          obtain ⟨c, _, _, rfl⟩ := okWide_slice (tk_slice hok) hv
          simp only at hs
          split at hs
          case h_2 => cases hs
          rename_i te sc h1 h2
          cases hp : Nat.blt 0 te.sz with
          | false => rw [hp] at hs; cases hs
          | true =>
            rw [hp] at hs
            simp only [cond_true, Option.some.injEq] at hs
            subst hs
            obtain ⟨x, rfl, _⟩ := ha; rfl
        case struct fs =>
          obtain ⟨fs0, hd'⟩ : ∃ fs0, P.underlying t = some (.struct fs0) := by
            cases dd <;> first | cases hk | skip
            exact ⟨_, hd⟩
          obtain ⟨cs, rfl, _⟩ := okWide_struct hd' hv
          simp only at hs
          split at hs
          case h_2 => cases hs
          cases hp : Nat.beq (endF T 0 fs) sz with
          | false => rw [hp] at hs; cases hs
          | true =>
            rw [hp] at hs
            simp only [cond_true, Option.some.injEq] at hs
            subst hs
            obtain ⟨x, rfl, _⟩ := ha; rfl
        case array n e =>
          have hcs : ∃ cs, v = .agg cs := by
            have h := hv
            simp only [Value.okWide, tk_array hok] at h
            obtain ⟨cs, h1, _⟩ := h
            exact ⟨cs, h1⟩
          obtain ⟨cs, rfl⟩ := hcs
          simp only at hs
          split at hs
          case h_2 => cases hs
          rename_i te sc h1 h2
          cases hp : Nat.beq sz (n * te.sz) with
          | false => rw [hp] at hs; cases hs
          | true =>
            rw [hp] at hs
            simp only [cond_true, Option.some.injEq] at hs
            subst hs
            obtain ⟨x, rfl, _⟩ := ha; rfl
        all_goals cases hs
  rw [key]
  exact repV_mk hc
/-- A law that is proved true by rules returns true, and leaves all that was there as it was. -/
theorem law_run {f : FuncId} {args : List AV} (h : Spec P f args [] (fun v os => v = .b true ∧ os = [])) {vals : List Value} (hr : repVs w (fun b => b < w.heap.size) args vals) :
    Calls P f vals.toArray w fun e w' => e = .returned (.bool true) ∧ Below w.heap.size w w' := by
  refine (h.run w vals (fun b => b < w.heap.size) (fun b hb => ⟨hb, by simp [oblks]⟩) ⟨fun o ho => (by cases ho), List.nodup_nil, fun b hb => (by cases hb)⟩ hr).mono ?_
  rintro e w' ⟨v, r, os', rfl, ⟨rfl, rfl⟩, hm, _, _, hv⟩
  obtain ⟨cs, hc, rfl⟩ := hv
  simp only [repC] at hc
  subst hc
  exact ⟨rfl, hm.to_below (fun k _ hk => by simp [oblks] at hk) (Nat.le_refl _)⟩
theorem repVs_nil {F : Nat → Prop} : repVs w F [] [] := ⟨rfl, fun i x v h => by simp at h⟩
theorem repVs_cons {F : Nat → Prop} {a : AV} {v : Value} {avs : List AV} {vs : List Value} (h : repV w F a v) (hs : repVs w F avs vs) : repVs w F (a :: avs) (v :: vs) :=
  ⟨by simp [hs.1], fun i x u hx hu => by
    cases i with
    | zero =>
      simp only [List.getElem?_cons_zero, Option.some.injEq] at hx hu
      subst hx; subst hu; exact h
    | succ i => exact hs.2 i x u (by simpa using hx) (by simpa using hu)⟩
end
/-! What a shape says, in the words of a law. -/
theorem has_list {α : Type} {f : α → AV} {Q : α → Prop} {e : Sh} (he : ∀ x, has e x → ∃ t, x = f t ∧ Q t) : ∀ {xs : List AV}, (∀ x ∈ xs, has e x) → ∃ l : List α, xs = l.map f ∧ ∀ t ∈ l, Q t
  | [], _ => ⟨[], rfl, by simp⟩
  | x :: xs, h => by
    obtain ⟨t, rfl, hq⟩ := he x (h x (by simp))
    obtain ⟨l, rfl, hl⟩ := has_list he (xs := xs) (fun y hy => h y (by simp [hy]))
    exact ⟨t :: l, rfl, fun y hy => by
      rcases List.mem_cons.1 hy with rfl | hy
      · exact hq
      · exact hl y hy⟩
theorem has_slice {α : Type} {f : α → AV} {Q : α → Prop} {sz : Nat} {e : Sh} (he : ∀ x, has e x → ∃ t, x = f t ∧ Q t) {a : AV} (h : has (.sl sz e) a) : ∃ l : List α, a = .sl sz (l.map f) ∧ l.length ≤ 9223372036854775807 ∧ ∀ t ∈ l, Q t := by
  obtain ⟨xs, rfl, h1, h2⟩ := h
  obtain ⟨l, rfl, hl⟩ := has_list he h2
  exact ⟨l, rfl, by simpa using h1, hl⟩
theorem has_int {a : AV} (h : has (.i .i64) a) : ∃ n : Int, a = .i .i64 n ∧ -9223372036854775808 ≤ n ∧ n ≤ 9223372036854775807 := by
  obtain ⟨n, rfl, h1, h2⟩ := h
  exact ⟨n, rfl, by simpa [IntKind.min, IntKind.signed, IntKind.bits] using h1, by simpa [IntKind.max, IntKind.signed, IntKind.bits] using h2⟩
theorem has_byte {a : AV} (h : has (.i .u8) a) : ∃ c : UInt8, a = .i .u8 (c.toNat : Int) ∧ True := by
  obtain ⟨n, rfl, h1, h2⟩ := h
  simp [IntKind.min, IntKind.max, IntKind.signed, IntKind.bits] at h1 h2
  refine ⟨UInt8.ofNat n.toNat, ?_, trivial⟩
  rw [UInt8.toNat_ofNat', show ((n.toNat % 2 ^ 8 : Nat) : Int) = n by omega]
theorem has_bytes {sz k : Nat} {a : AV} (h : has (.arr sz k (.i .u8)) a) : ∃ l : List UInt8, a = .arr sz k (l.map fun c => .i .u8 (c.toNat : Int)) ∧ l.length = k := by
  obtain ⟨xs, rfl, h1, h2⟩ := h
  obtain ⟨l, rfl, _⟩ := has_list (f := fun c : UInt8 => AV.i .u8 (c.toNat : Int)) (fun x hx => has_byte hx) h2
  exact ⟨l, rfl, by simpa using h1⟩
end Go.Proofs.Ytpjfhllkckdejaa
