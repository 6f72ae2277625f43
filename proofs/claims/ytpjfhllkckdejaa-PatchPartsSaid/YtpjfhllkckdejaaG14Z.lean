/- law16: Few, few by rules. -/
import Derived.Test.YtpjfhllkckdejaaSL7Z
import Derived.Test.YtpjfhllkckdejaaG5Z
import Derived.Test.YtpjfhllkckdejaaG10Z
set_option maxHeartbeats 8000000
set_option maxRecDepth 100000
namespace Go.Proofs.Ytpjfhllkckdejaa
open Go Go.RowKit
theorem few_spec (l : List Lef) (n : Nat) (hl : l.length ≤ 9223372036854775807) (hn : n ≤ 1000) :
    Spec Try.prog 13 [.sl 65 (l.map Lef.A), .i .i64 n] [] (fun r os => ∃ v, r = .own 0 v ∧ os = [.row v 38 65 ((l.take n).map Lef.A)]) := by
  refine spec_of TtOk [] Try.func13 rfl Try.ntmps13 (by kernel_rfl) rfl rfl (fun C => ?_) rfl
  by_cases h : n < l.length
  · have hln : (l.take n).length = n := by rw [List.length_take]; omega
    repeat' (first | refine Awp.seq ?_ | refine Awp.region ?_ | (refine Ops.nil ?_; show Awp _ _ _ _ _) | (refine Awp.ret ?_; show endK _ _ _ _ _) | refine o_len rfl TtOk rfl rfl rfl (fun _ => ?_) | (refine o_calm rfl TtOk rfl rfl rfl ?_ (fun _ => ?_); first | exact True.intro | exact ⟨rfl, rfl, rfl, rfl⟩ | exact ⟨rfl, True.intro⟩ | exact ⟨rfl, rfl⟩ | exact ⟨rfl, rfl, rfl⟩ | exact rfl | exact ⟨fun h0 => by cases h0, rfl⟩ | exact (fun h0 => by cases h0) | exact ⟨rfl, by omega⟩ | exact ⟨Nat.succ_ne_zero _, rfl⟩ | omega) | refine o_buildSlice TtOk rfl rfl rfl rfl rfl rfl rfl rfl rfl rfl rfl (by repeat' (first | exact True.intro | exact rfl | refine ⟨?_, ?_⟩)) (fun _ => ?_) | (refine o_append TtOk rfl rfl rfl rfl rfl rfl rfl rfl rfl (by first | exact True.intro | exact rfl) rfl rfl (fun _ => rfl) ?_ ?_ (fun _ => ?_); ((repeat' (first | rw [List.length_append] | rw [List.length_map] | rw [List.length_cons] | rw [List.length_nil] | rw [List.length_take] | rw [List.length_drop])) <;> omega); ((repeat' (first | rw [List.length_append] | rw [List.length_map] | rw [List.length_cons] | rw [List.length_nil] | rw [List.length_take] | rw [List.length_drop])) <;> omega)) | (refine a_condP rfl (fun hc => ?_) (fun hc => ?_)) <;> (try (exfalso; omega)) | (refine o_sliceSl TtOk rfl 0 n rfl rfl rfl rfl rfl bnd_none (bnd_some rfl rfl) (by omega) (by omega) ?_))
    exact end_tmp rfl rfl rfl [] [(0, _)] CLe.own (HLe.cons 12 rfl (HOLe.refl _) .nil) ⟨_, rfl, rfl⟩ _ (.inl rfl)
  · rw [List.take_of_length_le (by omega)]
    repeat' (first | refine Awp.seq ?_ | refine Awp.region ?_ | (refine Ops.nil ?_; show Awp _ _ _ _ _) | (refine Awp.skip ?_; show Awp _ _ _ _ _) | (refine Awp.ret ?_; show endK _ _ _ _ _) | refine o_len rfl TtOk rfl rfl rfl (fun _ => ?_) | (refine o_calm rfl TtOk rfl rfl rfl ?_ (fun _ => ?_); first | exact True.intro | exact ⟨rfl, rfl, rfl, rfl⟩ | exact ⟨rfl, True.intro⟩ | exact ⟨rfl, rfl⟩ | exact ⟨rfl, rfl, rfl⟩ | exact rfl | exact ⟨fun h0 => by cases h0, rfl⟩ | exact (fun h0 => by cases h0) | exact ⟨rfl, by omega⟩ | exact ⟨Nat.succ_ne_zero _, rfl⟩ | omega) | refine o_buildSlice TtOk rfl rfl rfl rfl rfl rfl rfl rfl rfl rfl rfl (by repeat' (first | exact True.intro | exact rfl | refine ⟨?_, ?_⟩)) (fun _ => ?_) | (refine o_append TtOk rfl rfl rfl rfl rfl rfl rfl rfl rfl (by first | exact True.intro | exact rfl) rfl rfl (fun _ => rfl) ?_ ?_ (fun _ => ?_); ((repeat' (first | rw [List.length_append] | rw [List.length_map] | rw [List.length_cons] | rw [List.length_nil] | rw [List.length_take] | rw [List.length_drop])) <;> omega); ((repeat' (first | rw [List.length_append] | rw [List.length_map] | rw [List.length_cons] | rw [List.length_nil] | rw [List.length_take] | rw [List.length_drop])) <;> omega)) | (refine a_condP rfl (fun hc => ?_) (fun hc => ?_)) <;> (try (exfalso; omega)))
    exact end_tmp rfl rfl rfl [] [(0, _)] CLe.own (HLe.cons 12 rfl (HOLe.refl _) .nil) ⟨_, rfl, rfl⟩ _ (.inl rfl)
theorem fewb_spec (l : List (List UInt8)) (hl : l.length ≤ 9223372036854775807) :
    Spec Try.prog 29 [.sl 32 (l.map labA)] [] (fun r os => r = .sl 32 ((l.take 40).map labA) ∧ os = []) := by
  refine spec_of TtOk [] Try.func29 rfl Try.ntmps29 (by kernel_rfl) rfl rfl (fun C => ?_) rfl
  by_cases h : 40 < l.length
  · have hln : (l.take 40).length = 40 := by rw [List.length_take]; omega
    repeat' (first | refine Awp.seq ?_ | refine Awp.region ?_ | (refine Ops.nil ?_; show Awp _ _ _ _ _) | (refine Awp.ret ?_; show endK _ _ _ _ _) | refine o_len rfl TtOk rfl rfl rfl (fun _ => ?_) | (refine o_calm rfl TtOk rfl rfl rfl ?_ (fun _ => ?_); first | exact True.intro | exact ⟨rfl, rfl, rfl, rfl⟩ | exact ⟨rfl, True.intro⟩ | exact ⟨rfl, rfl⟩ | exact ⟨rfl, rfl, rfl⟩ | exact rfl | exact ⟨fun h0 => by cases h0, rfl⟩ | exact (fun h0 => by cases h0) | exact ⟨rfl, by omega⟩ | exact ⟨Nat.succ_ne_zero _, rfl⟩ | omega) | refine o_buildSlice TtOk rfl rfl rfl rfl rfl rfl rfl rfl rfl rfl rfl (by repeat' (first | exact True.intro | exact rfl | refine ⟨?_, ?_⟩)) (fun _ => ?_) | (refine o_append TtOk rfl rfl rfl rfl rfl rfl rfl rfl rfl (by first | exact True.intro | exact rfl) rfl rfl (fun _ => rfl) ?_ ?_ (fun _ => ?_); ((repeat' (first | rw [List.length_append] | rw [List.length_map] | rw [List.length_cons] | rw [List.length_nil] | rw [List.length_take] | rw [List.length_drop])) <;> omega); ((repeat' (first | rw [List.length_append] | rw [List.length_map] | rw [List.length_cons] | rw [List.length_nil] | rw [List.length_take] | rw [List.length_drop])) <;> omega)) | (refine a_condP rfl (fun hc => ?_) (fun hc => ?_)) <;> (try (exfalso; omega)) | (refine o_sliceSl TtOk rfl 0 40 rfl rfl rfl rfl rfl bnd_none (bnd_some rfl rfl) (by omega) (by omega) ?_))
    refine end_tmp rfl rfl rfl [8] [] (CLe.fz ?_) .nil ⟨rfl, rfl⟩ _ (.inl rfl)
    exact .head _
  · rw [List.take_of_length_le (by omega)]
    repeat' (first | refine Awp.seq ?_ | refine Awp.region ?_ | (refine Ops.nil ?_; show Awp _ _ _ _ _) | (refine Awp.skip ?_; show Awp _ _ _ _ _) | (refine Awp.ret ?_; show endK _ _ _ _ _) | refine o_len rfl TtOk rfl rfl rfl (fun _ => ?_) | (refine o_calm rfl TtOk rfl rfl rfl ?_ (fun _ => ?_); first | exact True.intro | exact ⟨rfl, rfl, rfl, rfl⟩ | exact ⟨rfl, True.intro⟩ | exact ⟨rfl, rfl⟩ | exact ⟨rfl, rfl, rfl⟩ | exact rfl | exact ⟨fun h0 => by cases h0, rfl⟩ | exact (fun h0 => by cases h0) | exact ⟨rfl, by omega⟩ | exact ⟨Nat.succ_ne_zero _, rfl⟩ | omega) | refine o_buildSlice TtOk rfl rfl rfl rfl rfl rfl rfl rfl rfl rfl rfl (by repeat' (first | exact True.intro | exact rfl | refine ⟨?_, ?_⟩)) (fun _ => ?_) | (refine o_append TtOk rfl rfl rfl rfl rfl rfl rfl rfl rfl (by first | exact True.intro | exact rfl) rfl rfl (fun _ => rfl) ?_ ?_ (fun _ => ?_); ((repeat' (first | rw [List.length_append] | rw [List.length_map] | rw [List.length_cons] | rw [List.length_nil] | rw [List.length_take] | rw [List.length_drop])) <;> omega); ((repeat' (first | rw [List.length_append] | rw [List.length_map] | rw [List.length_cons] | rw [List.length_nil] | rw [List.length_take] | rw [List.length_drop])) <;> omega)) | (refine a_condP rfl (fun hc => ?_) (fun hc => ?_)) <;> (try (exfalso; omega)))
    refine end_tmp rfl rfl rfl [8] [] (CLe.fz ?_) .nil ⟨rfl, rfl⟩ _ (.inl rfl)
    exact .head _
end Go.Proofs.Ytpjfhllkckdejaa
set_option maxHeartbeats 8000000
set_option maxRecDepth 100000
namespace Go.Proofs.Ytpjfhllkckdejaa
open Go Go.RowKit
def lefC_ (x : Lef) : List Value := x.l.map cellB ++ (x.v.map cellB ++ [Value.int .i64 x.t])
theorem lef_cells {w : World} {F : Nat → Prop} {x : Lef} {v : Value} (h : repV w F x.A v) : x.ok ∧ v = .agg (lefC_ x).toArray := by
  obtain ⟨cs, hc, he⟩ := h
  simp only [Lef.A, labA, repC, repL] at hc
  obtain ⟨c1, c2, rfl, ⟨h1, h2⟩, c3, c4, rfl, ⟨h3, h4⟩, c5, c6, rfl, rfl, rfl⟩ := hc
  have e1 := bytes_cells x.l c1 h2
  have e2 := bytes_cells x.v c3 h4
  subst e1
  subst e2
  exact ⟨⟨by simpa using h1, by simpa using h3⟩, he⟩
theorem lef_eql (x y : Lef) (hx : x.ok) (hy : y.ok) (w : World) : (binOp .eql 38 (.agg (lefC_ x).toArray) (.agg (lefC_ y).toArray)).run Try.prog w = .ok (.bool (x.l == y.l && (x.v == y.v && x.t == y.t))) w := by
  have hS : Try.prog.underlying 38 = some (.struct (Try.prog.fieldsOf 38)) := by kernel_rfl
  have hh : Try.prog.stoodInHeld 38 = false := by kernel_rfl
  have hi : Try.prog.underlying 3 = some (.int .i64) := by kernel_rfl
  have hk : Try.prog.plainKey 3 = true := by kernel_rfl
  have hu8 : Try.prog.underlying 5 = some (.int .u8) := by kernel_rfl
  have hk8 : Try.prog.plainKey 5 = true := by kernel_rfl
  have hl : Try.prog.underlying 24 = some (.array 32 5) := by kernel_rfl
  have hsz := (tget_ok TtOk (show tget Tt 24 = some _ from rfl)).sizeRun w
  have hag : (isAgg 24).run Try.prog w = .ok true w := by
    unfold isAgg; simp only [Sem.run_bind, run_underlying hl, Result.andThen_ok, Sem.run_pure]
  have pA : ∀ (z : Lef), z.ok → (part 24 (lefC_ z).toArray 0).run Try.prog w = .ok (.agg (z.l.map cellB).toArray) w := fun z hz => by
    have hx : ((lefC_ z).toArray.extract 0 (0 + 32)) = (z.l.map cellB).toArray := by
      rw [List.extract_toArray]
      congr 1
      unfold lefC_ List.extract
      rw [List.drop_zero, List.take_append_of_le_length (by rw [List.length_map, hz.1]; decide), List.take_of_length_le (by rw [List.length_map, hz.1]; decide)]
    unfold part
    simp only [Sem.run_bind, hag, Result.andThen_ok, if_true, hsz, Sem.run_pure]
    exact congrArg (fun q => Result.ok (Value.agg q) w) hx
  have pB : ∀ (z : Lef), z.ok → (part 24 (lefC_ z).toArray 32).run Try.prog w = .ok (.agg (z.v.map cellB).toArray) w := fun z hz => by
    have hx : ((lefC_ z).toArray.extract 32 (32 + 32)) = (z.v.map cellB).toArray := by
      rw [List.extract_toArray]
      congr 1
      unfold lefC_ List.extract
      rw [List.drop_append_of_le_length (by rw [List.length_map, hz.1]; decide), List.drop_of_length_le (by rw [List.length_map, hz.1]; decide), List.nil_append, List.take_append_of_le_length (by rw [List.length_map, hz.2]; decide), List.take_of_length_le (by rw [List.length_map, hz.2]; decide)]
    unfold part
    simp only [Sem.run_bind, hag, Result.andThen_ok, if_true, hsz, Sem.run_pure]
    exact congrArg (fun q => Result.ok (Value.agg q) w) hx
  have pC : ∀ (z : Lef), z.ok → (part 3 (lefC_ z).toArray 64).run Try.prog w = .ok (.int .i64 z.t) w := fun z hz => run_part_plain w hk (by
    unfold lefC_
    rw [List.getElem?_toArray, List.getElem?_append_right (by rw [List.length_map, hz.1]; decide), List.getElem?_append_right (by rw [List.length_map, List.length_map, hz.1, hz.2]; decide), List.length_map, List.length_map, hz.1, hz.2]; rfl)
  have p3 := run_equalIn_int (P := Try.prog) w 9998 3 .i64 .i64 x.t y.t hi
  have p4 : ∀ a b : List UInt8, a.length = 32 → b.length = 32 → (Op.equalIn (9998 + 1) 24 (.agg (a.map cellB).toArray) (.agg (b.map cellB).toArray)).run Try.prog w = .ok (a == b) w := fun a b ha hb => by
    obtain ⟨ie, hie, hies, _⟩ := (tget_ok TtOk (show tget Tt 5 = some _ from rfl)).inf
    have hco : Try.prog.cellsOf 5 = 1 := by unfold Program.cellsOf; rw [hie]; exact hies
    have h1 := run_equalIn_array (P := Try.prog) w 9998 (a.map cellB).toArray (b.map cellB).toArray hl hie
    have h2 := eqItems_bytes (P := Try.prog) (w := w) hu8 hk8 9997 a b (List.range 32) (fun i hi => by have := List.mem_range.1 hi; omega)
    rw [all_range_eq a b 32 ha hb] at h2
    rw [hco] at h1
    rw [h1]
    exact h2
  rw [run_eql_struct, run_equalIn_struct (P := Try.prog) w 9999 _ _ _ hS hh]
  simp only [Program.fieldsOf, Try.underlying38]
  simp only [Op.eqFields]
  rw [if_pos (by decide)]
  rw [Sem.run_bind, pA x hx, Result.andThen_ok, Sem.run_bind, pA y hy, Result.andThen_ok, Sem.run_bind, p4 _ _ hx.1 hy.1, Result.andThen_ok]
  generalize (x.l == y.l) = q
  cases q
  · simp only [Bool.not_false, if_true, Sem.run_pure, Bool.false_and]
    try rfl
  · simp only [Bool.not_true, Bool.false_eq_true, if_false]
    rw [if_pos (by decide)]
    rw [Sem.run_bind, pB x hx, Result.andThen_ok, Sem.run_bind, pB y hy, Result.andThen_ok, Sem.run_bind, p4 _ _ hx.2 hy.2, Result.andThen_ok]
    generalize (x.v == y.v) = r
    cases r
    · simp only [Bool.not_false, if_true, Sem.run_pure, Bool.false_and]
      try rfl
    · simp only [Bool.not_true, Bool.false_eq_true, if_false]
      rw [if_pos (by decide)]
      rw [Sem.run_bind, pC x hx, Result.andThen_ok, Sem.run_bind, pC y hy, Result.andThen_ok, Sem.run_bind, p3, Result.andThen_ok]
      generalize (x.t == y.t) = z
      cases z <;> rfl
section
variable {m : OM} {C : Ctx} {ops : Array Oper} {l : List Oper} {K : St → Prop} {n : Nat} {sl : List (Nat × AV)} {hp : List (Nat × HO)} {d : Nat} {ty : Nat} {pos : String} {aft : Array Edge} {gd : Option (Nat × Bool)}
theorem o_eqLef (hw : gval ops ⟨n, sl, hp⟩ gd = gwant gd) {u : Nat} {x y : Operand} {p q : Lef} (hx : ev ⟨n, sl, hp⟩ x = p.A) (hy : ev ⟨n, sl, hp⟩ y = q.A) (hd : Nat.blt d n = true)
    (h : Ops m Try.prog C ops l ⟨n, (d, .b (p.l == q.l && (p.v == q.v && p.t == q.t))) :: sl, hp⟩ K) : Ops m Try.prog C ops (⟨some d, .binOp .eql 38 x y u, ty, pos, aft, gd⟩ :: l) ⟨n, sl, hp⟩ K := by
  refine Ops.by (d := some d) hw none okc_none hd rfl (fun ac w hs => ?_) h
  have Ex := ev_rep hs x
  have Ey := ev_rep hs y
  rw [hx] at Ex
  rw [hy] at Ey
  obtain ⟨l1, Ex⟩ := lef_cells Ex
  obtain ⟨l2, Ey⟩ := lef_cells Ey
  refine ⟨_, repV_b.2 rfl, fun w' _ => ?_⟩
  have hgd := run_eqGuard_agg (P := Try.prog) w' .eql 38 x y (lefC_ p).toArray (lefC_ q).toArray (by kernel_rfl)
  simp only [execOp, Ex, Ey, Sem.run_bind, hgd, lef_eql p q l1 l2, Result.andThen_ok, Sem.run_pure]
end
end Go.Proofs.Ytpjfhllkckdejaa
set_option maxHeartbeats 8000000
set_option maxRecDepth 100000
namespace Go.Proofs.Ytpjfhllkckdejaa
open Go Go.RowKit
def labC (c : UInt8) : List UInt8 := c :: List.replicate 31 0
def lefC (c : UInt8) : Lef := ⟨labC c, List.replicate 32 0, 0⟩
def awL : List Lef := [lefC 0, lefC 64, lefC 128]
theorem awE : cvE awL = 0 := by decide +kernel
theorem awI : (cvI awL [labC 128]).map Itm.n = [1] := by decide +kernel
theorem awT : (cvT awL [labC 128]).map (fun x => (x.l, x.v, x.t)) = [(labC 128, List.replicate 32 0, 0)] := by decide +kernel
theorem awTop : chkI [] = 0 ∧ topS [] = shaN [18] := ⟨rfl, rfl⟩
theorem awake16_spec : Spec Try.prog 23 [] [] (fun v os => v = .b true ∧ os = []) := by
  refine spec_of TtOk [] Try.func23 rfl Try.ntmps23 (by kernel_rfl) rfl rfl (fun C => ?_) rfl
  have h1 := cover_spec awL [labC 128] (by decide) (fun x hx => by
    rcases List.mem_cons.1 hx with rfl | hx
    · exact ⟨rfl, rfl⟩
    · rcases List.mem_cons.1 hx with rfl | hx
      · exact ⟨rfl, rfl⟩
      · have := List.mem_singleton.1 hx; subst this; exact ⟨rfl, rfl⟩) (by decide) (fun x hx => by have := List.mem_singleton.1 hx; subst this; rfl)
  rw [awE] at h1
  have a1 := awI
  have a2 := awT
  generalize cvI awL [labC 128] = X at h1 a1
  generalize cvT awL [labC 128] = Y at h1 a2
  have hX : X.length = 1 := by have := congrArg List.length a1; rwa [List.length_map] at this
  have hY : Y.length = 1 := by have := congrArg List.length a2; rwa [List.length_map] at this
  have hx0 : 0 < X.length := by omega
  have hy0 : 0 < Y.length := by omega
  have hxn : X[0].n = 1 := by
    have h : (X.map Itm.n)[0]? = some 1 := by rw [a1]; rfl
    rw [List.getElem?_map, List.getElem?_eq_getElem hx0] at h
    exact Option.some.inj h
  have hyl : Y[0] = lefC 128 := by
    have h : (Y.map (fun x => (x.l, x.v, x.t)))[0]? = some (labC 128, List.replicate 32 0, 0) := by rw [a2]; rfl
    rw [List.getElem?_map, List.getElem?_eq_getElem hy0] at h
    have h := Option.some.inj h
    simp only [Prod.mk.injEq] at h
    obtain ⟨e1, e2, e3⟩ := h
    show Y[0] = ⟨_, _, _⟩
    rw [← e1, ← e2, ← e3]
  have hq : (Y[0].l == (lefC 128).l && (Y[0].v == (lefC 128).v && Y[0].t == (lefC 128).t)) = true := by rw [hyl, beq_self_eq_true, beq_self_eq_true, beq_self_eq_true]; rfl
  clear a1 a2 hyl
  have h2 := top_spec [] (by decide) (fun x hx => by cases hx)
  rw [awTop.1, awTop.2] at h2
  have h3 := nempty_spec
  generalize shaN [18] = s at h2 h3
  have h4 := count_spec 3 (by decide) (by decide)
  have h5 : max (0 : Int) (2 * 3 - 1) = 5 := by decide
  rw [h5] at h4
  repeat' (first | (rw [hxn]) | (refine o_freezeR 16 16 rfl rfl rfl ?_) | (refine o_freezeR 12 1 rfl rfl rfl ?_) | refine Awp.seq ?_ | refine Awp.region ?_ | (refine Ops.nil ?_; show Awp _ _ _ _ _) | (refine Awp.ret ?_; show endK _ _ _ _ _) | refine o_noT rfl rfl rfl ?_ | refine o_len rfl TtOk rfl rfl rfl (fun _ => ?_) | (refine o_calm rfl TtOk rfl rfl rfl ?_ (fun _ => ?_); first | exact True.intro | exact ⟨rfl, rfl, rfl, rfl⟩ | exact ⟨rfl, True.intro⟩ | exact ⟨rfl, rfl⟩ | exact ⟨rfl, rfl, rfl⟩ | exact rfl | exact ⟨fun h0 => by cases h0, rfl⟩ | exact (fun h0 => by cases h0) | exact ⟨rfl, by omega⟩ | exact ⟨Nat.succ_ne_zero _, rfl⟩ | omega) | refine o_alloc (d := 5) rfl TtOk rfl rfl rfl (fun b5 => ?_) | refine o_store TtOk rfl rfl rfl rfl rfl rfl rfl ⟨rfl, rfl⟩ rfl rfl rfl rfl rfl ?_ | (refine o_index rfl TtOk rfl rfl rfl rfl rfl rfl ?_ (getq_nat ?_) ?_; omega; omega) | refine o_build TtOk rfl rfl rfl rfl rfl rfl (by repeat' (first | exact True.intro | exact rfl | refine ⟨?_, ?_⟩)) ?_ | refine o_buildSlice TtOk rfl rfl rfl rfl rfl rfl rfl rfl rfl rfl rfl (by repeat' (first | exact True.intro | exact rfl | refine ⟨?_, ?_⟩)) (fun _ => ?_) | refine o_eqArr8 TtOk rfl rfl rfl rfl rfl rfl (by kernel_rfl) ?_ | (fail_if_success (refine o_isLit rfl (by first | exact .inl rfl | exact .inr rfl) ?_)); (refine o_splitP rfl rfl (fun hc => ?_) (fun hc => ?_) <;> try (exfalso; omega)) | (fail_if_success (refine o_isLit rfl (by first | exact .inl rfl | exact .inr rfl) ?_)); (refine o_split rfl rfl (fun hc => ?_) (fun hc => ?_)) | (refine a_any 4 [] [] [] [0, 1, 2, 3, 4, 5, 6, 7, 8, 9, 10, 11, 12, 13, 14, 15, 16, 17, 18, 19, 20, 21, 22, 24, 25, 23, 26, 27, 28, 29, 30, 31, 32, 33, 34, 35, 36, 37, 38, 39, 40, 41, 42] (by kernel_rfl) (by kernel_rfl) (by kernel_rfl) rfl rfl rfl ?_; (try dsimp only [List.getElem_toArray, List.getElem_cons_zero, List.getElem_cons_succ])) | (refine o_index (xs := awL) (f := Lef.A) rfl TtOk rfl rfl rfl rfl rfl rfl (by decide) (getq_as 2 rfl (by decide)) ?_) | (refine o_eqLef rfl (p := Y[0]) (q := lefC 128) rfl rfl rfl ?_; rw [hq]) | (refine o_call0 rfl h2 ⟨sle_nilsl, True.intro⟩ rfl ?_; rintro _ _ ⟨rfl, rfl⟩; refine ⟨rfl, ?_⟩) | (refine o_buildArr TtOk rfl ((labC 64).map byA) rfl rfl rfl (by kernel_rfl) rfl rfl ?_) | (refine o_buildArr TtOk rfl ((labC 128).map byA) rfl rfl rfl (by kernel_rfl) rfl rfl ?_) | (refine o_call0 rfl (h1) ⟨SLe.of_eq rfl, SLe.of_eq rfl, True.intro⟩ rfl ?_; rintro _ _ ⟨rfl, rfl⟩; refine ⟨rfl, ?_⟩) | (refine o_call0 rfl (h3) True.intro rfl ?_; rintro _ _ ⟨rfl, rfl⟩; refine ⟨rfl, ?_⟩) | (refine o_call0 rfl (h4) ⟨SLe.of_eq rfl, True.intro⟩ rfl ?_; rintro _ _ ⟨rfl, rfl⟩; refine ⟨rfl, ?_⟩))
  all_goals first
    | exact end_tmp rfl rfl rfl [] [] (CLe.of_eq rfl) .nil ⟨rfl, rfl⟩ _ (.inl rfl)
    | (exfalso; have hc2 : (s == s) = false := by assumption
       rw [beq_self_eq_true] at hc2; exact Bool.noConfusion hc2)
    | (exfalso; have hc2 : ¬ (s == s) = true := by assumption
       exact hc2 (beq_self_eq_true s))
end Go.Proofs.Ytpjfhllkckdejaa
set_option maxHeartbeats 8000000
set_option maxRecDepth 100000
namespace Go.Proofs.Ytpjfhllkckdejaa
open Go Go.RowKit
theorem rbit_spec (l : List UInt8) (hl : l.length = 32) (i : Nat) (hi : i < 256) : Spec Try.prog 78 [labA l, .i .i64 i] [] (fun v os => v = .i .i64 (bitL l i : Nat) ∧ os = []) := by
  refine spec_of TtOk [] Try.func78 rfl Try.ntmps78 (by kernel_rfl) rfl rfl (fun C => ?_) rfl
  have hg := lab_get (l := l) (i := i / 8) (by omega)
  have hb : bitL l i = ((l.getD (i / 8) 0).toNat / 2 ^ (7 - i % 8)) % 2 := rfl
  rw [hb]
  generalize l.getD (i / 8) 0 = c at hg ⊢
  have hc8 := c.toNat_lt
  repeat' (first | refine Awp.seq ?_ | refine Awp.block ?_ | refine Awp.region ?_ | (refine Ops.nil ?_; show Awp _ _ _ _ _) | (refine Awp.skip ?_; show Awp _ _ _ _ _) | (refine o_quo rfl rfl rfl rfl ?_ ?_ ?_; omega; omega) | (refine o_rem rfl rfl rfl rfl ?_ ?_ ?_; omega; omega) | refine o_convB rfl TtOk rfl rfl rfl rfl ?_ | (refine o_calm rfl TtOk rfl rfl rfl ?_ (fun _ => ?_); first | exact True.intro | exact ⟨rfl, rfl, rfl, rfl⟩ | exact ⟨rfl, True.intro⟩ | exact ⟨rfl, rfl⟩ | exact ⟨rfl, rfl, rfl⟩ | exact rfl | exact ⟨fun h0 => by cases h0, rfl⟩ | exact (fun h0 => by cases h0) | exact ⟨rfl, by omega⟩ | exact ⟨Nat.succ_ne_zero _, rfl⟩ | omega) | refine o_box (d := 2) rfl rfl rfl rfl (fun b2 => ?_) | (refine a_condP rfl (fun hc => ?_) (fun hc => ?_)) <;> (try (exfalso; omega)) | (refine o_indexArr TtOk rfl rfl rfl rfl rfl rfl (i/8) rfl (by omega) ?_) | (refine o_loadAt TtOk rfl rfl rfl rfl (sub_arr hg) (by first | exact Nat.add_zero _ | rfl) ⟨rfl, rfl⟩ rfl rfl ?_))
  refine Awp.loop (fun j : Nat => ⟨28, [(6, .i .i64 ((i % 8 + j : Nat) : Int)), (5, .i .i64 ((c.toNat / 2 ^ j : Nat) : Int))], []⟩) (fun j => i % 8 + j ≤ 7) (fun j => 7 - j) [] 0 (by omega) ?_ ?_
  · exact ⟨rfl, ⟨sle_i (by omega), sle_i (by rw [Nat.pow_zero, Nat.div_one]), True.intro⟩, .nil⟩
  intro j hj
  have hs : c.toNat / 2 ^ (j + 1) = c.toNat / 2 ^ j / 2 := by rw [Nat.pow_succ, Nat.div_div_eq_div_mul]
  have hle : c.toNat / 2 ^ j < 256 := Nat.lt_of_le_of_lt (Nat.div_le_self _ _) hc8
  by_cases hj7 : i % 8 + j < 7
  · generalize c.toNat / 2 ^ j = x at hs hle ⊢
    repeat' (first | refine Awp.seq ?_ | refine Awp.block ?_ | refine Awp.region ?_ | (refine Ops.nil ?_; show Awp _ _ _ _ _) | (refine Ops.nil ?_; show Exists _) | (refine Awp.skip ?_; show Awp _ _ _ _ _) | (refine o_add rfl rfl rfl rfl ?_ ?_; omega) | (refine o_quo rfl rfl rfl rfl ?_ ?_ ?_; omega; omega) | (refine o_calm rfl TtOk rfl rfl rfl ?_ (fun _ => ?_); first | exact True.intro | exact ⟨rfl, rfl, rfl, rfl⟩ | exact ⟨rfl, True.intro⟩ | exact ⟨rfl, rfl⟩ | exact ⟨rfl, rfl, rfl⟩ | exact rfl | exact ⟨fun h0 => by cases h0, rfl⟩ | exact (fun h0 => by cases h0) | exact ⟨rfl, by omega⟩ | exact ⟨Nat.succ_ne_zero _, rfl⟩ | omega) | (refine a_condP rfl (fun hc => ?_) (fun hc => ?_)) <;> (try (exfalso; omega)))
    exact ⟨j + 1, [], by omega, by omega, rfl, ⟨sle_i (by omega), sle_i (by rw [hs]; omega), True.intro⟩, .nil⟩
  · have hje : 7 - i % 8 = j := by omega
    rw [hje]
    generalize c.toNat / 2 ^ j = x at hs hle ⊢
    repeat' (first | refine Awp.seq ?_ | refine Awp.region ?_ | (refine Ops.nil ?_; show Awp _ _ _ _ _) | (refine Awp.exit ?_; show Awp _ _ _ _ _) | (refine Awp.ret ?_; show endK _ _ _ _ _) | (refine o_rem rfl rfl rfl rfl ?_ ?_ ?_; omega; omega) | (refine o_calm rfl TtOk rfl rfl rfl ?_ (fun _ => ?_); first | exact True.intro | exact ⟨rfl, rfl, rfl, rfl⟩ | exact ⟨rfl, True.intro⟩ | exact ⟨rfl, rfl⟩ | exact ⟨rfl, rfl, rfl⟩ | exact rfl | exact ⟨fun h0 => by cases h0, rfl⟩ | exact (fun h0 => by cases h0) | exact ⟨rfl, by omega⟩ | exact ⟨Nat.succ_ne_zero _, rfl⟩ | omega) | (refine a_condP rfl (fun hc => ?_) (fun hc => ?_)) <;> (try (exfalso; omega)))
    refine end_tmp rfl rfl rfl [] [] (CLe.of_eq ?_) .nil ⟨rfl, rfl⟩ _ (.inl rfl)
    exact congrArg (AV.i .i64) (by omega)
theorem com_step {a b : List UInt8} (ha : a.length = 32) (hb : b.length = 32) {n : Nat} (hn : n ≤ comL a b) (h256 : n < 256) : n < comL a b ↔ bitL a n = bitL b n := by
  obtain ⟨h1, h2, h3, h4⟩ := com_bits a b (by omega)
  constructor
  · exact fun h => h2 n h
  · intro h
    rcases Nat.lt_or_ge n (comL a b) with h5 | h5
    · exact h5
    · have : n = comL a b := by omega
      subst this
      exact absurd h (h3 (by omega))
theorem rcommon_spec (a b : List UInt8) (ha : a.length = 32) (hb : b.length = 32) : Spec Try.prog 91 [labA a, labA b] [] (fun v os => v = .i .i64 (comL a b : Nat) ∧ os = []) := by
  refine spec_of TtOk [] Try.func91 rfl Try.ntmps91 (by kernel_rfl) rfl rfl (fun C => ?_) rfl
  have hc256 := comL_256 (b := b) ha
  repeat' (first | refine Awp.seq ?_ | refine Awp.block ?_ | refine Awp.region ?_ | (refine Ops.nil ?_; show Awp _ _ _ _ _) | (refine o_calm rfl TtOk rfl rfl rfl ?_ (fun _ => ?_); first | exact True.intro | exact ⟨rfl, rfl, rfl, rfl⟩ | exact ⟨rfl, True.intro⟩ | exact ⟨rfl, rfl⟩ | exact ⟨rfl, rfl, rfl⟩ | exact rfl | exact ⟨fun h0 => by cases h0, rfl⟩ | exact (fun h0 => by cases h0) | exact ⟨rfl, by omega⟩ | exact ⟨Nat.succ_ne_zero _, rfl⟩ | omega) | refine o_box (d := 2) rfl rfl rfl rfl (fun b2 => ?_) | refine o_box (d := 3) rfl rfl rfl rfl (fun b3 => ?_))
  refine Awp.loop (fun n : Nat => ⟨20, [(5, .i .i64 n), (2, .ptr 2 b2 [] 0), (3, .ptr 3 b3 [] 0)], [(2, .var b2 (labA a)), (3, .var b3 (labA b))]⟩) (fun n => n ≤ comL a b) (fun n => 256 - n) [] 0 (Nat.zero_le _) ?_ ?_
  · exact ⟨rfl, ⟨sle_i rfl, sle_ptr, sle_ptr, True.intro⟩, HLe.cons 2 rfl (HOLe.refl _) (HLe.cons 3 rfl (HOLe.refl _) .nil)⟩
  intro n hn
  by_cases h256 : n < 256
  · have h1 := rbit_spec a ha n h256
    have h2 := rbit_spec b hb n h256
    have hs := com_step ha hb hn h256
    by_cases hlt : n < comL a b
    · have he := hs.1 hlt
      rw [he] at h1
      generalize bitL b n = x at h1 h2
      have hxx : ((x : Nat) : Int) = (x : Int) := rfl
      repeat' (first | refine Awp.seq ?_ | refine Awp.block ?_ | refine Awp.region ?_ | (refine Ops.nil ?_; show Awp _ _ _ _ _) | (refine Ops.nil ?_; show Exists _) | (refine Awp.skip ?_; show Awp _ _ _ _ _) | (refine o_add rfl rfl rfl rfl ?_ ?_; omega) | (refine o_calm rfl TtOk rfl rfl rfl ?_ (fun _ => ?_); first | exact True.intro | exact ⟨rfl, rfl, rfl, rfl⟩ | exact ⟨rfl, True.intro⟩ | exact ⟨rfl, rfl⟩ | exact ⟨rfl, rfl, rfl⟩ | exact rfl | exact ⟨fun h0 => by cases h0, rfl⟩ | exact (fun h0 => by cases h0) | exact ⟨rfl, by omega⟩ | exact ⟨Nat.succ_ne_zero _, rfl⟩ | omega) | (fail_if_success (refine o_isLit rfl (by first | exact .inl rfl | exact .inr rfl) ?_)); (refine o_splitP rfl rfl (fun hc => ?_) (fun hc => ?_) <;> try (exfalso; omega)) | (refine a_condP rfl (fun hc => ?_) (fun hc => ?_)) <;> (try (exfalso; omega)) | refine a_any 2 [] [] [] [0, 1, 2, 4, 7, 3, 6, 5, 8, 9, 10] (by kernel_rfl) (by kernel_rfl) (by kernel_rfl) rfl rfl rfl ?_ | (refine o_call0 rfl (h1) ⟨SLe.of_eq rfl, SLe.of_eq rfl, True.intro⟩ rfl ?_; rintro _ _ ⟨rfl, rfl⟩; refine ⟨rfl, ?_⟩) | (refine o_call0 rfl (h2) ⟨SLe.of_eq rfl, SLe.of_eq rfl, True.intro⟩ rfl ?_; rintro _ _ ⟨rfl, rfl⟩; refine ⟨rfl, ?_⟩))
      all_goals first
        | exact ⟨n + 1, [], hlt, by omega, rfl, ⟨sle_i (by omega), sle_ptr, sle_ptr, True.intro⟩, HLe.cons 2 rfl (HOLe.refl _) (HLe.cons 3 rfl (HOLe.refl _) .nil)⟩
        | skip
    · have hne : ¬ bitL a n = bitL b n := fun h => hlt (hs.2 h)
      have hne2 : n = comL a b := by omega
      rw [← hne2]
      generalize bitL a n = x at h1 hne
      generalize bitL b n = y at h2 hne
      repeat' (first | refine Awp.seq ?_ | refine Awp.region ?_ | (refine Ops.nil ?_; show Awp _ _ _ _ _) | (refine Awp.exit ?_; show Awp _ _ _ _ _) | (refine Awp.ret ?_; show endK _ _ _ _ _) | (refine o_calm rfl TtOk rfl rfl rfl ?_ (fun _ => ?_); first | exact True.intro | exact ⟨rfl, rfl, rfl, rfl⟩ | exact ⟨rfl, True.intro⟩ | exact ⟨rfl, rfl⟩ | exact ⟨rfl, rfl, rfl⟩ | exact rfl | exact ⟨fun h0 => by cases h0, rfl⟩ | exact (fun h0 => by cases h0) | exact ⟨rfl, by omega⟩ | exact ⟨Nat.succ_ne_zero _, rfl⟩ | omega) | (fail_if_success (refine o_isLit rfl (by first | exact .inl rfl | exact .inr rfl) ?_)); (refine o_splitP rfl rfl (fun hc => ?_) (fun hc => ?_) <;> try (exfalso; omega)) | (refine a_condP rfl (fun hc => ?_) (fun hc => ?_)) <;> (try (exfalso; omega)) | refine a_any 2 [] [] [] [0, 1, 2, 4, 7, 3, 6, 5, 8, 9, 10] (by kernel_rfl) (by kernel_rfl) (by kernel_rfl) rfl rfl rfl ?_ | (refine o_call0 rfl (h1) ⟨SLe.of_eq rfl, SLe.of_eq rfl, True.intro⟩ rfl ?_; rintro _ _ ⟨rfl, rfl⟩; refine ⟨rfl, ?_⟩) | (refine o_call0 rfl (h2) ⟨SLe.of_eq rfl, SLe.of_eq rfl, True.intro⟩ rfl ?_; rintro _ _ ⟨rfl, rfl⟩; refine ⟨rfl, ?_⟩))
      all_goals first
        | exact end_tmp rfl rfl rfl [] [] (CLe.of_eq rfl) .nil ⟨rfl, rfl⟩ _ (.inl rfl)
        | skip
  · have hne2 : n = comL a b := by omega
    rw [← hne2]
    repeat' (first | refine Awp.seq ?_ | refine Awp.region ?_ | (refine Ops.nil ?_; show Awp _ _ _ _ _) | (refine Awp.exit ?_; show Awp _ _ _ _ _) | (refine Awp.ret ?_; show endK _ _ _ _ _) | refine o_noT rfl rfl rfl ?_ | (refine o_calm rfl TtOk rfl rfl rfl ?_ (fun _ => ?_); first | exact True.intro | exact ⟨rfl, rfl, rfl, rfl⟩ | exact ⟨rfl, True.intro⟩ | exact ⟨rfl, rfl⟩ | exact ⟨rfl, rfl, rfl⟩ | exact rfl | exact ⟨fun h0 => by cases h0, rfl⟩ | exact (fun h0 => by cases h0) | exact ⟨rfl, by omega⟩ | exact ⟨Nat.succ_ne_zero _, rfl⟩ | omega) | (fail_if_success (refine o_isLit rfl (by first | exact .inl rfl | exact .inr rfl) ?_)); (refine o_splitP rfl rfl (fun hc => ?_) (fun hc => ?_) <;> try (exfalso; omega)) | refine a_condF rfl ?_ | refine a_any 2 [] [] [] [0, 1, 2, 4, 7, 3, 6, 5, 8, 9, 10] (by kernel_rfl) (by kernel_rfl) (by kernel_rfl) rfl rfl rfl ?_)
    all_goals exact end_tmp rfl rfl rfl [] [] (CLe.of_eq rfl) .nil ⟨rfl, rfl⟩ _ (.inl rfl)
theorem ord_bits {a b : List UInt8} (ha : a.length = 32) (hb : b.length = 32) (h : comL a b < 256) : cmpS a b = 2 * (bitL a (comL a b) : Nat) - 1 := by
  have hl := less_bits a b (by omega) (by omega)
  rcases bitL_or a (comL a b) with h0 | h0
  · rw [h0, cmpS_lt (hl.2 h0)]; rfl
  · rw [h0]
    have hn : ¬ Op.bytesLess a b = true := fun h => by rw [hl.1 h] at h0; cases h0
    rcases less_tri a b with k | k | k
    · exact absurd k hn
    · subst k; rw [com_self] at h; omega
    · rw [cmpS_gt k]; rfl
theorem rorder_spec (a b : List UInt8) (ha : a.length = 32) (hb : b.length = 32) : Spec Try.prog 59 [labA a, labA b] [] (fun v os => v = .i .i64 (cmpS a b) ∧ os = []) := by
  refine spec_of TtOk [] Try.func59 rfl Try.ntmps59 (by kernel_rfl) rfl rfl (fun C => ?_) rfl
  have hc256 := comL_256 (b := b) ha
  have h1 := rcommon_spec a b ha hb
  by_cases hlt : comL a b < 256
  · have h2 := rbit_spec a ha _ hlt
    rw [ord_bits ha hb hlt]
    have hx := bitL_or a (comL a b)
    generalize bitL a (comL a b) = x at h2 hx
    generalize comL a b = n at h1 h2 hlt
    repeat' (first | refine Awp.seq ?_ | refine Awp.region ?_ | (refine Ops.nil ?_; show Awp _ _ _ _ _) | (refine Awp.skip ?_; show Awp _ _ _ _ _) | (refine Awp.ret ?_; show endK _ _ _ _ _) | (refine o_sub rfl rfl rfl rfl ?_ ?_; omega) | (refine o_mul rfl rfl rfl rfl ?_ ?_; omega) | (refine o_calm rfl TtOk rfl rfl rfl ?_ (fun _ => ?_); first | exact True.intro | exact ⟨rfl, rfl, rfl, rfl⟩ | exact ⟨rfl, True.intro⟩ | exact ⟨rfl, rfl⟩ | exact ⟨rfl, rfl, rfl⟩ | exact rfl | exact ⟨fun h0 => by cases h0, rfl⟩ | exact (fun h0 => by cases h0) | exact ⟨rfl, by omega⟩ | exact ⟨Nat.succ_ne_zero _, rfl⟩ | omega) | refine o_box (d := 2) rfl rfl rfl rfl (fun b2 => ?_) | refine o_box (d := 3) rfl rfl rfl rfl (fun b3 => ?_) | (refine a_condP rfl (fun hc => ?_) (fun hc => ?_)) <;> (try (exfalso; omega)) | (refine o_call0 rfl (h1) ⟨SLe.of_eq rfl, SLe.of_eq rfl, True.intro⟩ rfl ?_; rintro _ _ ⟨rfl, rfl⟩; refine ⟨rfl, ?_⟩) | (refine o_call0 rfl (h2) ⟨SLe.of_eq rfl, SLe.of_eq rfl, True.intro⟩ rfl ?_; rintro _ _ ⟨rfl, rfl⟩; refine ⟨rfl, ?_⟩))
    exact end_tmp rfl rfl rfl [] [] (CLe.of_eq rfl) .nil ⟨rfl, rfl⟩ _ (.inl rfl)
  · have he : comL a b = 256 := by omega
    have hab : a = b := (com_bits a b (by omega)).2.2.2 (by omega)
    subst hab
    rw [cmpS_eq]
    rw [he] at h1
    repeat' (first | refine Awp.seq ?_ | refine Awp.region ?_ | (refine Ops.nil ?_; show Awp _ _ _ _ _) | (refine Awp.ret ?_; show endK _ _ _ _ _) | (refine o_calm rfl TtOk rfl rfl rfl ?_ (fun _ => ?_); first | exact True.intro | exact ⟨rfl, rfl, rfl, rfl⟩ | exact ⟨rfl, True.intro⟩ | exact ⟨rfl, rfl⟩ | exact ⟨rfl, rfl, rfl⟩ | exact rfl | exact ⟨fun h0 => by cases h0, rfl⟩ | exact (fun h0 => by cases h0) | exact ⟨rfl, by omega⟩ | exact ⟨Nat.succ_ne_zero _, rfl⟩ | omega) | refine o_box (d := 2) rfl rfl rfl rfl (fun b2 => ?_) | refine o_box (d := 3) rfl rfl rfl rfl (fun b3 => ?_) | refine a_condT rfl ?_ | (refine o_call0 rfl (h1) ⟨SLe.of_eq rfl, SLe.of_eq rfl, True.intro⟩ rfl ?_; rintro _ _ ⟨rfl, rfl⟩; refine ⟨rfl, ?_⟩))
    exact end_tmp rfl rfl rfl [] [] (CLe.of_eq rfl) .nil ⟨rfl, rfl⟩ _ (.inl rfl)
def bitOn (l : List UInt8) (i : Nat) : List UInt8 := l.set (i / 8) (UInt8.ofNat ((l.getD (i / 8) 0).toNat + 2 ^ (7 - i % 8)))
theorem setb_facts : ∀ (c : Fin 256) (p : Fin 8), c.val.testBit p.val = false → c.val + 2 ^ p.val < 256 ∧ ∀ q : Fin 8, (c.val + 2 ^ p.val).testBit q.val = (decide (q.val = p.val) || c.val.testBit q.val) := by decide +kernel
theorem bitOn_len (l : List UInt8) (i : Nat) : (bitOn l i).length = l.length := List.length_set ..
theorem bitL_zero_test {l : List UInt8} {i : Nat} (h : bitL l i = 0) : (l.getD (i / 8) 0).toNat.testBit (7 - i % 8) = false := by
  rw [bitL_def] at h
  cases hb : (l.getD (i / 8) 0).toNat.testBit (7 - i % 8)
  · rfl
  · rw [hb] at h; cases h
theorem bitOn_bit (l : List UInt8) (hl : l.length = 32) (i : Nat) (hi : i < 256) (h0 : bitL l i = 0) (j : Nat) (_hj : j < 256) : bitL (bitOn l i) j = if j = i then 1 else bitL l j := by
  have ht := bitL_zero_test h0
  rw [bitL_def, bitL_def]
  unfold bitOn
  have hs : (l.set (i / 8) (UInt8.ofNat ((l.getD (i / 8) 0).toNat + 2 ^ (7 - i % 8)))).getD (j / 8) 0 = if j / 8 = i / 8 then UInt8.ofNat ((l.getD (i / 8) 0).toNat + 2 ^ (7 - i % 8)) else l.getD (j / 8) 0 := by
    rw [List.getD_eq_getElem?_getD, List.getElem?_set, List.getD_eq_getElem?_getD]
    by_cases he : i / 8 = j / 8
    · rw [if_pos he, if_pos he.symm, if_pos (by omega)]; rfl
    · rw [if_neg he, if_neg (fun h => he h.symm), List.getD_eq_getElem?_getD]
  rw [hs]
  obtain ⟨f1, f2⟩ := setb_facts ⟨(l.getD (i / 8) 0).toNat, UInt8.toNat_lt _⟩ ⟨7 - i % 8, by omega⟩ ht
  have f2 := f2 ⟨7 - j % 8, by omega⟩
  dsimp only at f1 f2
  by_cases he : j / 8 = i / 8
  · rw [if_pos he, UInt8.toNat_ofNat', Nat.mod_eq_of_lt f1, f2, he]
    by_cases hji : j = i
    · rw [if_pos hji, decide_eq_true (by omega)]; rfl
    · rw [if_neg hji, decide_eq_false (by omega)]; rfl
  · rw [if_neg he, if_neg (fun h => he (by rw [h]))]
theorem cut_succ (l : List UInt8) (hl : l.length = 32) (i : Nat) (hi : i < 256) : cutL l (i + 1) = if bitL l i = 1 then bitOn (cutL l i) i else cutL l i := by
  have hc := cutL_len l i hl (by omega)
  have hz : bitL (cutL l i) i = 0 := by rw [cut_bit l hl i i (by omega), if_neg (by omega)]
  refine bits_eq (cutL_len l _ hl (by omega)) (by
    split
    · rw [bitOn_len]; exact hc
    · exact hc) (fun j hj => ?_)
  rw [cut_bit l hl _ j (by omega)]
  by_cases h1 : bitL l i = 1
  · rw [if_pos h1, bitOn_bit _ hc i hi hz j hj, cut_bit l hl i j (by omega)]
    by_cases hji : j = i
    · subst hji; rw [if_pos (by omega), if_pos rfl, h1]
    · rw [if_neg hji]
      by_cases hlt : j < i
      · rw [if_pos hlt, if_pos (by omega)]
      · rw [if_neg hlt, if_neg (by omega)]
  · rw [if_neg h1, cut_bit l hl i j (by omega)]
    by_cases hji : j = i
    · subst hji
      rw [if_pos (by omega), if_neg (by omega)]
      rcases bitL_or l j with h | h
      · exact h
      · exact absurd h h1
    · by_cases hlt : j < i
      · rw [if_pos hlt, if_pos (by omega)]
      · rw [if_neg hlt, if_neg (by omega)]
theorem rset_spec (l : List UInt8) (hl : l.length = 32) (i : Nat) (hi : i < 256) (h0 : bitL l i = 0) : Spec Try.prog 113 [labA l, .i .i64 i] [] (fun v os => v = labA (bitOn l i) ∧ os = []) := by
  refine spec_of TtOk [] Try.func113 rfl Try.ntmps113 (by kernel_rfl) rfl rfl (fun C => ?_) rfl
  have h1 := rbit_spec l hl i hi
  rw [h0] at h1
  have hg := lab_get (l := l) (i := i / 8) (by omega)
  have hset : bitOn l i = l.set (i / 8) (UInt8.ofNat ((l.getD (i / 8) 0).toNat + 2 ^ (7 - i % 8))) := rfl
  rw [hset]
  generalize l.getD (i / 8) 0 = c at hg
  have hc8 := c.toNat_lt
  repeat' (first | refine Awp.seq ?_ | refine Awp.block ?_ | refine Awp.region ?_ | (refine Ops.nil ?_; show Awp _ _ _ _ _) | (refine o_rem rfl rfl rfl rfl ?_ ?_ ?_; omega; omega) | (refine o_calm rfl TtOk rfl rfl rfl ?_ (fun _ => ?_); first | exact True.intro | exact ⟨rfl, rfl, rfl, rfl⟩ | exact ⟨rfl, True.intro⟩ | exact ⟨rfl, rfl⟩ | exact ⟨rfl, rfl, rfl⟩ | exact rfl | exact ⟨fun h0 => by cases h0, rfl⟩ | exact (fun h0 => by cases h0) | exact ⟨rfl, by omega⟩ | exact ⟨Nat.succ_ne_zero _, rfl⟩ | omega) | refine o_alloc (d := 4) rfl TtOk rfl rfl rfl (fun b4 => ?_) | refine o_box (d := 2) rfl rfl rfl rfl (fun b2 => ?_))
  refine Awp.loop (fun j : Nat => ⟨27, [(6, .i .i64 ((i % 8 + j : Nat) : Int)), (5, .i .u8 ((2 ^ j : Nat) : Int)), (1, .i .i64 i), (2, .ptr 2 b2 [] 0), (4, .ptr 4 b4 [] 0)], [(2, .var b2 (labA l)), (4, .var b4 (.arr 1 32 (List.replicate 32 (.i .u8 0))))]⟩) (fun j => i % 8 + j ≤ 7) (fun j => 7 - j) [] 0 (by omega) ?_ ?_
  · exact ⟨rfl, ⟨sle_i (by omega), sle_i rfl, sle_i rfl, sle_ptr, sle_ptr, True.intro⟩, HLe.cons 2 rfl (HOLe.refl _) (HLe.cons 4 rfl (HOLe.refl _) .nil)⟩
  intro j hj
  by_cases hj7 : i % 8 + j < 7
  · have hw : IntKind.u8.wrap (2 * ((2 ^ j : Nat) : Int)) = ((2 ^ (j + 1) : Nat) : Int) := by
      have hp : 2 ^ j ≤ 2 ^ 6 := Nat.pow_le_pow_right (by decide) (by omega)
      rw [show 2 * ((2 ^ j : Nat) : Int) = ((2 ^ j * 2 : Nat) : Int) by omega, bwrap_nat, Nat.pow_succ]
      rw [Nat.mod_eq_of_lt (by omega)]
    generalize hp : ((2 ^ j : Nat) : Int) = x at hw ⊢
    repeat' (first | (rw [hw]) | refine Awp.seq ?_ | refine Awp.block ?_ | refine Awp.region ?_ | (refine Ops.nil ?_; show Awp _ _ _ _ _) | (refine Ops.nil ?_; show Exists _) | (refine Awp.skip ?_; show Awp _ _ _ _ _) | (refine o_add rfl rfl rfl rfl ?_ ?_; omega) | (refine o_calm rfl TtOk rfl rfl rfl ?_ (fun _ => ?_); first | exact True.intro | exact ⟨rfl, rfl, rfl, rfl⟩ | exact ⟨rfl, True.intro⟩ | exact ⟨rfl, rfl⟩ | exact ⟨rfl, rfl, rfl⟩ | exact rfl | exact ⟨fun h0 => by cases h0, rfl⟩ | exact (fun h0 => by cases h0) | exact ⟨rfl, by omega⟩ | exact ⟨Nat.succ_ne_zero _, rfl⟩ | omega) | (refine a_condP rfl (fun hc => ?_) (fun hc => ?_)) <;> (try (exfalso; omega)))
    exact ⟨j + 1, [], by omega, by omega, rfl, ⟨sle_i (by omega), sle_i rfl, sle_i rfl, sle_ptr, sle_ptr, True.intro⟩, HLe.cons 2 rfl (HOLe.refl _) (HLe.cons 4 rfl (HOLe.refl _) .nil)⟩
  · have hje : 7 - i % 8 = j := by omega
    rw [hje]
    have hb : AV.i .u8 (IntKind.u8.wrap ((c.toNat : Int) + ((2 ^ j : Nat) : Int))) = byA (UInt8.ofNat (c.toNat + 2 ^ j)) := by
      rw [show (c.toNat : Int) + ((2 ^ j : Nat) : Int) = ((c.toNat + 2 ^ j : Nat) : Int) by omega, byA_nt]
    generalize UInt8.ofNat (c.toNat + 2 ^ j) = d at hb ⊢
    generalize ((2 ^ j : Nat) : Int) = x at hb ⊢
    repeat' (first | (rw [hb]) | refine Awp.seq ?_ | refine Awp.region ?_ | (refine Ops.nil ?_; show Awp _ _ _ _ _) | (refine Awp.exit ?_; show Awp _ _ _ _ _) | (refine Awp.ret ?_; show endK _ _ _ _ _) | (refine o_quo rfl rfl rfl rfl ?_ ?_ ?_; omega; omega) | (refine o_calm rfl TtOk rfl rfl rfl ?_ (fun _ => ?_); first | exact True.intro | exact ⟨rfl, rfl, rfl, rfl⟩ | exact ⟨rfl, True.intro⟩ | exact ⟨rfl, rfl⟩ | exact ⟨rfl, rfl, rfl⟩ | exact rfl | exact ⟨fun h0 => by cases h0, rfl⟩ | exact (fun h0 => by cases h0) | exact ⟨rfl, by omega⟩ | exact ⟨Nat.succ_ne_zero _, rfl⟩ | omega) | refine o_store TtOk rfl rfl rfl rfl rfl rfl rfl ⟨rfl, rfl⟩ rfl rfl rfl rfl rfl ?_ | refine a_condT rfl ?_ | (refine a_condP rfl (fun hc => ?_) (fun hc => ?_)) <;> (try (exfalso; omega)) | (refine o_indexArr TtOk rfl rfl rfl rfl rfl rfl (i/8) rfl (by omega) ?_) | (refine o_loadAt TtOk rfl rfl rfl rfl (sub_arr hg) (by first | exact Nat.add_zero _ | rfl) ⟨rfl, rfl⟩ rfl rfl ?_) | (refine o_storeArr TtOk rfl rfl rfl rfl rfl rfl ⟨rfl, rfl⟩ rfl rfl hg rfl rfl ?_) | (refine o_call0 rfl (h1) ⟨SLe.of_eq rfl, SLe.of_eq rfl, True.intro⟩ rfl ?_; rintro _ _ ⟨rfl, rfl⟩; refine ⟨rfl, ?_⟩))
    have hq : AV.arr 1 32 ((l.map byA).set (i / 8) (byA d)) = labA (l.set (i / 8) d) := by unfold labA; rw [List.map_set]
    refine end_all [] [] (labA (l.set (i / 8) d)) rfl ?_ ?_ (rle_one (CLe.of_eq hq) rfl) .nil ⟨rfl, rfl⟩ _ (.inl rfl)
    · repeat' (first | exact True.intro | exact rfl | refine ⟨?_, ?_⟩)
    · exact ⟨trivial, trivial⟩
theorem cut_zero (l : List UInt8) : cutL l 0 = List.replicate 32 0 := by unfold cutL cutP; rw [if_pos rfl]; rfl
theorem rcut_spec (l : List UInt8) (hl : l.length = 32) (n : Int) : Spec Try.prog 103 [labA l, .i .i64 n] [] (fun v os => v = labA (cutL l (clamp n)) ∧ os = []) := by
  refine spec_of TtOk [] Try.func103 rfl Try.ntmps103 (by kernel_rfl) rfl rfl (fun C => ?_) rfl
  obtain ⟨m, hm⟩ : ∃ m, clamp n = m := ⟨_, rfl⟩
  have hm1 : m ≤ 256 := by rw [← hm]; unfold clamp; omega
  have hm2 : ∀ i : Nat, i < m ↔ ((i : Int) < n ∧ (i : Int) < 256) := fun i => by rw [← hm]; unfold clamp; omega
  rw [hm]
  repeat' (first | refine Awp.seq ?_ | refine Awp.block ?_ | refine Awp.region ?_ | (refine Ops.nil ?_; show Awp _ _ _ _ _) | (refine o_calm rfl TtOk rfl rfl rfl ?_ (fun _ => ?_); first | exact True.intro | exact ⟨rfl, rfl, rfl, rfl⟩ | exact ⟨rfl, True.intro⟩ | exact ⟨rfl, rfl⟩ | exact ⟨rfl, rfl, rfl⟩ | exact rfl | exact ⟨fun h0 => by cases h0, rfl⟩ | exact (fun h0 => by cases h0) | exact ⟨rfl, by omega⟩ | exact ⟨Nat.succ_ne_zero _, rfl⟩ | omega) | refine o_alloc (d := 4) rfl TtOk rfl rfl rfl (fun b4 => ?_) | refine o_alloc (d := 5) rfl TtOk rfl rfl rfl (fun b5 => ?_) | refine o_box (d := 2) rfl rfl rfl rfl (fun b2 => ?_) | refine o_store TtOk rfl rfl rfl rfl rfl rfl rfl ⟨rfl, rfl⟩ rfl rfl rfl rfl rfl ?_ | refine o_buildArr0 TtOk rfl rfl rfl rfl ?_)
  refine Awp.loop (fun i : Nat => ⟨25, [(6, .i .i64 i), (1, .i .i64 n), (2, .ptr 2 b2 [] 0), (4, .ptr 4 b4 [] 0), (5, .ptr 5 b5 [] 0)], [(2, .var b2 (labA l)), (4, .var b4 (.arr 1 32 (List.replicate 32 (.i .u8 0)))), (5, .var b5 (labA (cutL l i)))]⟩) (fun i => i ≤ m) (fun i => m - i) [] 0 (Nat.zero_le _) ?_ ?_
  · exact ⟨rfl, ⟨sle_i rfl, sle_i rfl, sle_ptr, sle_ptr, sle_ptr, True.intro⟩, HLe.cons 2 rfl (HOLe.refl _) (HLe.cons 4 rfl (HOLe.refl _) (HLe.cons 5 rfl (HOLe.var (CLe.of_eq (by rw [cut_zero]; rfl))) .nil))⟩
  intro i hi
  by_cases hlt : i < m
  · obtain ⟨g1, g2⟩ := (hm2 i).1 hlt
    have hc := cutL_len l i hl (by omega)
    have hz : bitL (cutL l i) i = 0 := by rw [cut_bit l hl i i (by omega), if_neg (by omega)]
    have h1 := rbit_spec l hl i (by omega)
    have h2 := rset_spec (cutL l i) hc i (by omega) hz
    have hs := cut_succ l hl i (by omega)
    have hi1 : ((i : Int) + 1 = ((i + 1 : Nat) : Int)) := by omega
    clear hz hc
    generalize cutL l i = c at h2 hs ⊢
    generalize bitOn c i = d at h2 hs ⊢
    have hb := bitL_or l i
    generalize bitL l i = b at h1 hs hb
    rcases hb with rfl | rfl
    · rw [if_neg (by decide)] at hs
      subst hs
      repeat' (first | refine Awp.seq ?_ | refine Awp.block ?_ | refine Awp.region ?_ | (refine Ops.nil ?_; show Awp _ _ _ _ _) | (refine Ops.nil ?_; show Exists _) | (refine Awp.skip ?_; show Awp _ _ _ _ _) | (refine o_add rfl rfl rfl rfl ?_ ?_; omega) | (refine o_calm rfl TtOk rfl rfl rfl ?_ (fun _ => ?_); first | exact True.intro | exact ⟨rfl, rfl, rfl, rfl⟩ | exact ⟨rfl, True.intro⟩ | exact ⟨rfl, rfl⟩ | exact ⟨rfl, rfl, rfl⟩ | exact rfl | exact ⟨fun h0 => by cases h0, rfl⟩ | exact (fun h0 => by cases h0) | exact ⟨rfl, by omega⟩ | exact ⟨Nat.succ_ne_zero _, rfl⟩ | omega) | (fail_if_success (refine o_isLit rfl (by first | exact .inl rfl | exact .inr rfl) ?_)); (refine o_splitP rfl rfl (fun hc => ?_) (fun hc => ?_) <;> try (exfalso; omega)) | refine a_condF rfl ?_ | (refine a_condP rfl (fun hc => ?_) (fun hc => ?_)) <;> (try (exfalso; omega)) | (refine o_call0 rfl (h1) ⟨SLe.of_eq rfl, SLe.of_eq rfl, True.intro⟩ rfl ?_; rintro _ _ ⟨rfl, rfl⟩; refine ⟨rfl, ?_⟩))
      exact ⟨i + 1, [], hlt, by omega, rfl, ⟨sle_i hi1, sle_i rfl, sle_ptr, sle_ptr, sle_ptr, True.intro⟩, HLe.cons 2 rfl (HOLe.refl _) (HLe.cons 4 rfl (HOLe.refl _) (HLe.cons 5 rfl (HOLe.var (CLe.of_eq rfl)) .nil))⟩
    · rw [if_pos rfl] at hs
      subst hs
      repeat' (first | refine Awp.seq ?_ | refine Awp.block ?_ | refine Awp.region ?_ | (refine Ops.nil ?_; show Awp _ _ _ _ _) | (refine Ops.nil ?_; show Exists _) | (refine Awp.skip ?_; show Awp _ _ _ _ _) | (refine o_add rfl rfl rfl rfl ?_ ?_; omega) | (refine o_calm rfl TtOk rfl rfl rfl ?_ (fun _ => ?_); first | exact True.intro | exact ⟨rfl, rfl, rfl, rfl⟩ | exact ⟨rfl, True.intro⟩ | exact ⟨rfl, rfl⟩ | exact ⟨rfl, rfl, rfl⟩ | exact rfl | exact ⟨fun h0 => by cases h0, rfl⟩ | exact (fun h0 => by cases h0) | exact ⟨rfl, by omega⟩ | exact ⟨Nat.succ_ne_zero _, rfl⟩ | omega) | refine o_store TtOk rfl rfl rfl rfl rfl rfl rfl ⟨rfl, rfl⟩ rfl rfl rfl rfl rfl ?_ | (fail_if_success (refine o_isLit rfl (by first | exact .inl rfl | exact .inr rfl) ?_)); (refine o_splitP rfl rfl (fun hc => ?_) (fun hc => ?_) <;> try (exfalso; omega)) | refine a_condT rfl ?_ | (refine a_condP rfl (fun hc => ?_) (fun hc => ?_)) <;> (try (exfalso; omega)) | (refine o_call0 rfl (h1) ⟨SLe.of_eq rfl, SLe.of_eq rfl, True.intro⟩ rfl ?_; rintro _ _ ⟨rfl, rfl⟩; refine ⟨rfl, ?_⟩) | (refine o_call0 rfl (h2) ⟨SLe.of_eq rfl, SLe.of_eq rfl, True.intro⟩ rfl ?_; rintro _ _ ⟨rfl, rfl⟩; refine ⟨rfl, ?_⟩))
      exact ⟨i + 1, [], hlt, by omega, rfl, ⟨sle_i hi1, sle_i rfl, sle_ptr, sle_ptr, sle_ptr, True.intro⟩, HLe.cons 2 rfl (HOLe.refl _) (HLe.cons 4 rfl (HOLe.refl _) (HLe.cons 5 rfl (HOLe.var (CLe.of_eq rfl)) .nil))⟩
  · have hie : i = m := by omega
    have hnn : ¬ ((i : Int) < n ∧ (i : Int) < 256) := fun h => hlt ((hm2 i).2 h)
    subst hie
    generalize cutL l i = c
    repeat' (first | refine Awp.seq ?_ | refine Awp.region ?_ | (refine Ops.nil ?_; show Awp _ _ _ _ _) | (refine Awp.exit ?_; show Awp _ _ _ _ _) | (refine Awp.ret ?_; show endK _ _ _ _ _) | refine o_noT rfl rfl rfl ?_ | (refine o_calm rfl TtOk rfl rfl rfl ?_ (fun _ => ?_); first | exact True.intro | exact ⟨rfl, rfl, rfl, rfl⟩ | exact ⟨rfl, True.intro⟩ | exact ⟨rfl, rfl⟩ | exact ⟨rfl, rfl, rfl⟩ | exact rfl | exact ⟨fun h0 => by cases h0, rfl⟩ | exact (fun h0 => by cases h0) | exact ⟨rfl, by omega⟩ | exact ⟨Nat.succ_ne_zero _, rfl⟩ | omega) | refine o_store TtOk rfl rfl rfl rfl rfl rfl rfl ⟨rfl, rfl⟩ rfl rfl rfl rfl rfl ?_ | (fail_if_success (refine o_isLit rfl (by first | exact .inl rfl | exact .inr rfl) ?_)); (refine o_splitP rfl rfl (fun hc => ?_) (fun hc => ?_) <;> try (exfalso; omega)) | refine a_condF rfl ?_ | (refine a_condP rfl (fun hc => ?_) (fun hc => ?_)) <;> (try (exfalso; omega)))
    all_goals
      refine end_all [] [] (labA c) rfl ?_ ?_ (rle_one (CLe.of_eq rfl) rfl) .nil ⟨rfl, rfl⟩ _ (.inl rfl)
      · repeat' (first | exact True.intro | exact rfl | refine ⟨?_, ?_⟩)
      · exact ⟨trivial, trivial⟩
theorem rgood1_spec (n : Int) (l : List UInt8) (hl : l.length = 32) : Spec Try.prog 90 [.i .i64 n, labA l] [] (fun v os => v = .b (goodP ⟨n, l⟩) ∧ os = []) := by
  refine spec_of TtOk [] Try.func90 rfl Try.ntmps90 (by kernel_rfl) rfl rfl (fun C => ?_) rfl
  have hcu := rcut_spec l hl n
  by_cases hn : 0 ≤ n ∧ n ≤ 256
  · have hcl : clamp n = n.toNat := by unfold clamp; omega
    rw [hcl] at hcu
    have hg : goodP ⟨n, l⟩ = (cutL l n.toNat == l) := by unfold goodP; rw [decide_eq_true hn.1, decide_eq_true hn.2]; rfl
    rw [hg]
    generalize cutL l n.toNat = c at hcu
    repeat' (first | refine Awp.seq ?_ | refine Awp.region ?_ | (refine Ops.nil ?_; show Awp _ _ _ _ _) | (refine Awp.ret ?_; show endK _ _ _ _ _) | (refine o_calm rfl TtOk rfl rfl rfl ?_ (fun _ => ?_); first | exact True.intro | exact ⟨rfl, rfl, rfl, rfl⟩ | exact ⟨rfl, True.intro⟩ | exact ⟨rfl, rfl⟩ | exact ⟨rfl, rfl, rfl⟩ | exact rfl | exact ⟨fun h0 => by cases h0, rfl⟩ | exact (fun h0 => by cases h0) | exact ⟨rfl, by omega⟩ | exact ⟨Nat.succ_ne_zero _, rfl⟩ | omega) | refine o_box (d := 3) rfl rfl rfl rfl (fun b3 => ?_) | refine o_eqArr8 TtOk rfl rfl rfl rfl rfl rfl (by kernel_rfl) ?_ | (fail_if_success (refine o_isLit rfl (by first | exact .inl rfl | exact .inr rfl) ?_)); (refine o_splitP rfl rfl (fun hc => ?_) (fun hc => ?_) <;> try (exfalso; omega)) | refine a_any 1 [] [] [] [0, 1, 2, 3, 4, 5, 6, 8, 7, 10, 9, 11, 12, 13] (by kernel_rfl) (by kernel_rfl) (by kernel_rfl) rfl rfl rfl ?_ | (refine o_call0 rfl (hcu) ⟨SLe.of_eq rfl, SLe.of_eq rfl, True.intro⟩ rfl ?_; rintro _ _ ⟨rfl, rfl⟩; refine ⟨rfl, ?_⟩))
    exact end_tmp rfl rfl rfl [] [] (CLe.of_eq rfl) .nil ⟨rfl, rfl⟩ _ (.inl rfl)
  · have hg : goodP ⟨n, l⟩ = false := by
      unfold goodP
      by_cases h0 : 0 ≤ n
      · rw [decide_eq_true h0, decide_eq_false (by show ¬ n ≤ 256; omega)]; rfl
      · rw [decide_eq_false (by show ¬ 0 ≤ n; omega)]; rfl
    rw [hg]
    repeat' (first | refine Awp.seq ?_ | refine Awp.region ?_ | (refine Ops.nil ?_; show Awp _ _ _ _ _) | (refine Awp.ret ?_; show endK _ _ _ _ _) | refine o_noT rfl rfl rfl ?_ | (refine o_calm rfl TtOk rfl rfl rfl ?_ (fun _ => ?_); first | exact True.intro | exact ⟨rfl, rfl, rfl, rfl⟩ | exact ⟨rfl, True.intro⟩ | exact ⟨rfl, rfl⟩ | exact ⟨rfl, rfl, rfl⟩ | exact rfl | exact ⟨fun h0 => by cases h0, rfl⟩ | exact (fun h0 => by cases h0) | exact ⟨rfl, by omega⟩ | exact ⟨Nat.succ_ne_zero _, rfl⟩ | omega) | refine o_box (d := 3) rfl rfl rfl rfl (fun b3 => ?_) | (fail_if_success (refine o_isLit rfl (by first | exact .inl rfl | exact .inr rfl) ?_)); (refine o_splitP rfl rfl (fun hc => ?_) (fun hc => ?_) <;> try (exfalso; omega)) | refine a_any 1 [] [] [] [0, 1, 2, 3, 4, 5, 6, 8, 7, 10, 9, 11, 12, 13] (by kernel_rfl) (by kernel_rfl) (by kernel_rfl) rfl rfl rfl ?_)
    all_goals exact end_tmp rfl rfl rfl [] [] (CLe.of_eq rfl) .nil ⟨rfl, rfl⟩ _ (.inl rfl)
end Go.Proofs.Ytpjfhllkckdejaa
