/- The document's sides, has, Make (chapter 18) by rules. -/
import Derived.Test.YtcmgpkibjdbonaaPF2Z
import Derived.Test.YtcmgpkibjdbonaaGRZ
import Derived.Test.YtcmgpkibjdbonaaV31Z
import Derived.Test.YtcmgpkibjdbonaaPF5
import Derived.Test.YtcmgpkibjdbonaaN2
import Derived.Test.YtcmgpkibjdbonaaPF1Z
set_option maxHeartbeats 16000000
set_option maxRecDepth 100000
namespace Go.Proofs.Ytcmgpkibjdbonaa
open Go Go.RowKit
end Go.Proofs.Ytcmgpkibjdbonaa
set_option maxHeartbeats 8000000
set_option maxRecDepth 100000
namespace Go.Proofs.Ytcmgpkibjdbonaa
open Go Go.RowKit
def eqLf (x y : Lef) : Bool := x.l == y.l && (x.v == y.v && x.t == y.t)
theorem eqLf_iff {x y : Lef} : eqLf x y = true ↔ x = y := by
  unfold eqLf
  simp only [Bool.and_eq_true, beq_iff_eq]
  obtain ⟨a, b, c⟩ := x
  obtain ⟨d, e, f⟩ := y
  simp
theorem eqLf_self (x : Lef) : eqLf x x = true := eqLf_iff.2 rfl
theorem eqI_self (x : Itm) : eqI x x = true := eqI_iff.2 rfl
section
variable {m : OM} {C : Ctx} {ops : Array Oper} {l : List Oper} {K : St → Prop} {n : Nat} {sl : List (Nat × AV)} {hp : List (Nat × HO)} {d : Nat} {ty : Nat} {pos : String} {aft : Array Edge} {gd : Option (Nat × Bool)}
end
theorem lefR_eq0 (x y : Lef) (hx : x.ok) (hy : y.ok) (w : World) : (Op.equalIn 10000 47 (.agg (lefC_ x).toArray) (.agg (lefC_ y).toArray)).run Try.prog w = .ok (eqLf x y) w := by
  have hS : Try.prog.underlying 47 = some (.struct (Try.prog.fieldsOf 47)) := by kernel_rfl
  have hh : Try.prog.stoodInHeld 47 = false := by kernel_rfl
  have hi : Try.prog.underlying 3 = some (.int .i64) := by kernel_rfl
  have hk : Try.prog.plainKey 3 = true := by kernel_rfl
  have hu8 : Try.prog.underlying 5 = some (.int .u8) := by kernel_rfl
  have hk8 : Try.prog.plainKey 5 = true := by kernel_rfl
  have hl : Try.prog.underlying 24 = some (.array 32 5) := by kernel_rfl
  have hsz := (tget_ok TtOk (show tget Tt 24 = some _ from rfl)).sizeRun w
  have hag : (isAgg 24).run Try.prog w = .ok true w := by
    unfold isAgg; simp only [Sem.run_bind, run_underlying hl, Result.andThen_ok, Sem.run_pure]
  have pA : ∀ (z : Lef), z.ok → (part 24 (lefC_ z).toArray 0).run Try.prog w = .ok (.agg (z.l.map cellB).toArray) w := fun z hz => by
    have hx : ((lefC_ z).toArray.extract 0 (0 + 32)) = (z.l.map cellB).toArray := by
      rw [List.extract_toArray]
      congr 1
      unfold lefC_ List.extract
      rw [List.drop_zero, List.take_append_of_le_length (by rw [List.length_map, hz.1]; decide), List.take_of_length_le (by rw [List.length_map, hz.1]; decide)]
    unfold part
    simp only [Sem.run_bind, hag, Result.andThen_ok, if_true, hsz, Sem.run_pure]
    exact congrArg (fun q => Result.ok (Value.agg q) w) hx
  have pB : ∀ (z : Lef), z.ok → (part 24 (lefC_ z).toArray 32).run Try.prog w = .ok (.agg (z.v.map cellB).toArray) w := fun z hz => by
    have hx : ((lefC_ z).toArray.extract 32 (32 + 32)) = (z.v.map cellB).toArray := by
      rw [List.extract_toArray]
      congr 1
      unfold lefC_ List.extract
      rw [List.drop_append_of_le_length (by rw [List.length_map, hz.1]; decide), List.drop_of_length_le (by rw [List.length_map, hz.1]; decide), List.nil_append, List.take_append_of_le_length (by rw [List.length_map, hz.2]; decide), List.take_of_length_le (by rw [List.length_map, hz.2]; decide)]
    unfold part
    simp only [Sem.run_bind, hag, Result.andThen_ok, if_true, hsz, Sem.run_pure]
    exact congrArg (fun q => Result.ok (Value.agg q) w) hx
  have pC : ∀ (z : Lef), z.ok → (part 3 (lefC_ z).toArray 64).run Try.prog w = .ok (.int .i64 z.t) w := fun z hz => run_part_plain w hk (by
    unfold lefC_
    rw [List.getElem?_toArray, List.getElem?_append_right (by rw [List.length_map, hz.1]; decide), List.getElem?_append_right (by rw [List.length_map, List.length_map, hz.1, hz.2]; decide), List.length_map, List.length_map, hz.1, hz.2]; rfl)
  have p3 := run_equalIn_int (P := Try.prog) w 9998 3 .i64 .i64 x.t y.t hi
  have p4 : ∀ a b : List UInt8, a.length = 32 → b.length = 32 → (Op.equalIn (9998 + 1) 24 (.agg (a.map cellB).toArray) (.agg (b.map cellB).toArray)).run Try.prog w = .ok (a == b) w := fun a b ha hb => by
    obtain ⟨ie, hie, hies, _⟩ := (tget_ok TtOk (show tget Tt 5 = some _ from rfl)).inf
    have hco : Try.prog.cellsOf 5 = 1 := by unfold Program.cellsOf; rw [hie]; exact hies
    have h1 := run_equalIn_array (P := Try.prog) w 9998 (a.map cellB).toArray (b.map cellB).toArray hl hie
    have h2 := eqItems_bytes (P := Try.prog) (w := w) hu8 hk8 9997 a b (List.range 32) (fun i hi => by have := List.mem_range.1 hi; omega)
    rw [all_range_eq a b 32 ha hb] at h2
    rw [hco] at h1
    rw [h1]
    exact h2
  unfold eqLf
  rw [run_equalIn_struct (P := Try.prog) w 9999 _ _ _ hS hh]
  simp only [Program.fieldsOf, Try.underlying47]
  simp only [Op.eqFields]
  rw [if_pos (by decide)]
  rw [Sem.run_bind, pA x hx, Result.andThen_ok, Sem.run_bind, pA y hy, Result.andThen_ok, Sem.run_bind, p4 _ _ hx.1 hy.1, Result.andThen_ok]
  generalize (x.l == y.l) = q
  cases q
  · simp only [Bool.not_false, if_true, Sem.run_pure, Bool.false_and]
    try rfl
  · simp only [Bool.not_true, Bool.false_eq_true, if_false]
    rw [if_pos (by decide)]
    rw [Sem.run_bind, pB x hx, Result.andThen_ok, Sem.run_bind, pB y hy, Result.andThen_ok, Sem.run_bind, p4 _ _ hx.2 hy.2, Result.andThen_ok]
    generalize (x.v == y.v) = r
    cases r
    · simp only [Bool.not_false, if_true, Sem.run_pure, Bool.false_and]
      try rfl
    · simp only [Bool.not_true, Bool.false_eq_true, if_false]
      rw [if_pos (by decide)]
      rw [Sem.run_bind, pC x hx, Result.andThen_ok, Sem.run_bind, pC y hy, Result.andThen_ok, Sem.run_bind, p3, Result.andThen_ok]
      generalize (x.t == y.t) = z
      cases z <;> rfl
theorem lefR_neq (x y : Lef) (hx : x.ok) (hy : y.ok) (w : World) : (binOp .neq 47 (.agg (lefC_ x).toArray) (.agg (lefC_ y).toArray)).run Try.prog w = .ok (.bool (!(eqLf x y))) w := by
  rw [run_neq_struct, lefR_eq0 x y hx hy]; rfl
section
variable {m : OM} {C : Ctx} {ops : Array Oper} {l : List Oper} {K : St → Prop} {n : Nat} {sl : List (Nat × AV)} {hp : List (Nat × HO)} {d : Nat} {ty : Nat} {pos : String} {aft : Array Edge} {gd : Option (Nat × Bool)}
theorem o_neLefR (hw : gval ops ⟨n, sl, hp⟩ gd = gwant gd) {u : Nat} {x y : Operand} {p q : Lef} (hx : ev ⟨n, sl, hp⟩ x = p.A) (hy : ev ⟨n, sl, hp⟩ y = q.A) (hd : Nat.blt d n = true)
    (h : Ops m Try.prog C ops l ⟨n, (d, .b (!eqLf p q)) :: sl, hp⟩ K) : Ops m Try.prog C ops (⟨some d, .binOp .neq 47 x y u, ty, pos, aft, gd⟩ :: l) ⟨n, sl, hp⟩ K := by
  refine Ops.by (d := some d) hw none okc_none hd rfl (fun ac w hs => ?_) h
  have Ex := ev_rep hs x
  have Ey := ev_rep hs y
  rw [hx] at Ex
  rw [hy] at Ey
  obtain ⟨l1, Ex⟩ := lef_cells Ex
  obtain ⟨l2, Ey⟩ := lef_cells Ey
  refine ⟨_, repV_b.2 rfl, fun w' _ => ?_⟩
  have hgd := run_eqGuard_agg (P := Try.prog) w' .neq 47 x y (lefC_ p).toArray (lefC_ q).toArray (by kernel_rfl)
  simp only [execOp, Ex, Ey, Sem.run_bind, hgd, lefR_neq p q l1 l2, Result.andThen_ok, Sem.run_pure]
end
end Go.Proofs.Ytcmgpkibjdbonaa
set_option maxHeartbeats 16000000
set_option maxRecDepth 100000
namespace Go.Proofs.Ytcmgpkibjdbonaa
open Go Go.RowKit
theorem same18_spec (p : Prf) : Spec Try.prog 17 [p.R, p.R] [] (fun v os => v = .b true ∧ os = []) := by
  obtain ⟨e, lf, a, b, path⟩ := p
  show Spec Try.prog 17 [.agg [.i .i64 e, lf.A, a.R, b.R, .sl 66 (path.map Itm.R)], .agg [.i .i64 e, lf.A, a.R, b.R, .sl 66 (path.map Itm.R)]] [] _
  have q1 : (!(eqLf lf lf)) = false := by rw [eqLf_self]; rfl
  have q2 : (!(eqI a a)) = false := by rw [eqI_self]; rfl
  have q3 : (!(eqI b b)) = false := by rw [eqI_self]; rfl
  have qp : ∀ (i : Nat) (h : i < path.length), (!(eqI path[i] path[i])) = false := fun i h => by rw [eqI_self]; rfl
  refine spec_of TtOk [] Try.func17 rfl Try.ntmps17 (by kernel_rfl) rfl rfl (fun C => ?_) rfl
  repeat' (first | refine Awp.seq ?_ | refine Awp.block ?_ | refine Awp.region ?_ | (refine Ops.nil ?_; show Awp _ _ _ _ _) | (refine Awp.skip ?_; show Awp _ _ _ _ _) | refine o_len rfl TtOk rfl rfl rfl (fun _ => ?_) | (refine o_calm rfl TtOk rfl rfl rfl ?_ (fun _ => ?_); first | exact True.intro | exact ⟨rfl, rfl, rfl, rfl⟩ | exact ⟨rfl, True.intro⟩ | exact ⟨rfl, rfl⟩ | exact ⟨rfl, rfl, rfl⟩ | exact rfl | exact ⟨fun h0 => by cases h0, rfl⟩ | exact (fun h0 => by cases h0) | exact ⟨rfl, by omega⟩ | exact ⟨Nat.succ_ne_zero _, rfl⟩ | omega) | refine o_box (d := 2) rfl rfl rfl rfl (fun b2 => ?_) | refine o_box (d := 3) rfl rfl rfl rfl (fun b3 => ?_) | (fail_if_success (refine o_isLit rfl (by first | exact .inl rfl | exact .inr rfl) ?_)); (refine o_splitN rfl rfl (fun hc => ?_) (fun hc => ?_) <;> try (exfalso; omega)) | (refine a_condN rfl (fun hc => ?_) (fun hc => ?_)) <;> (try (exfalso; omega)) | (refine o_neLefR rfl rfl rfl rfl ?_; rw [q1]) | (refine o_neItm rfl rfl rfl rfl ?_; first | rw [q2] | rw [q3]))
  refine Awp.loop (fun i : Nat => ⟨59, [(44, .i .i64 i), (43, .i .i64 path.length), (2, .ptr 2 b2 [] 0), (3, .ptr 3 b3 [] 0)], [(2, .var b2 (.agg [.i .i64 e, lf.A, a.R, b.R, .sl 66 (path.map Itm.R)])), (3, .var b3 (.agg [.i .i64 e, lf.A, a.R, b.R, .sl 66 (path.map Itm.R)]))]⟩) (fun i => i ≤ path.length) (fun i => path.length - i) [] 0 (Nat.zero_le _) ?_ ?_
  · exact ⟨rfl, ⟨sle_i rfl, sle_i rfl, sle_ptr, sle_ptr, True.intro⟩, HLe.cons 2 rfl (HOLe.refl _) (HLe.cons 3 rfl (HOLe.refl _) .nil)⟩
  intro i hi
  by_cases hlt : i < path.length
  · have hi1 : ((i : Int) + 1 = ((i + 1 : Nat) : Int)) := by omega
    have qi := qp i hlt
    repeat' (first | refine Awp.seq ?_ | refine Awp.block ?_ | refine Awp.region ?_ | (refine Ops.nil ?_; show Awp _ _ _ _ _) | (refine Ops.nil ?_; show Exists _) | (refine Awp.skip ?_; show Awp _ _ _ _ _) | (refine o_add rfl rfl rfl rfl ?_ ?_; omega) | (refine o_calm rfl TtOk rfl rfl rfl ?_ (fun _ => ?_); first | exact True.intro | exact ⟨rfl, rfl, rfl, rfl⟩ | exact ⟨rfl, True.intro⟩ | exact ⟨rfl, rfl⟩ | exact ⟨rfl, rfl, rfl⟩ | exact rfl | exact ⟨fun h0 => by cases h0, rfl⟩ | exact (fun h0 => by cases h0) | exact ⟨rfl, by omega⟩ | exact ⟨Nat.succ_ne_zero _, rfl⟩ | omega) | (refine o_index rfl TtOk rfl rfl rfl rfl rfl rfl ?_ (getq_nat ?_) ?_; omega; omega) | refine a_condF rfl ?_ | (refine a_condP rfl (fun hc => ?_) (fun hc => ?_)) <;> (try (exfalso; omega)) | refine a_any 6 [] [] [] [0, 2, 5, 7, 1, 3, 4, 6, 8, 9, 10] (by kernel_rfl) (by kernel_rfl) (by kernel_rfl) rfl rfl rfl ?_ | (refine o_neItm rfl rfl rfl rfl ?_; rw [qi]))
    exact ⟨i + 1, [], hlt, by omega, rfl, ⟨sle_i hi1, sle_i rfl, sle_ptr, sle_ptr, True.intro⟩, HLe.cons 2 rfl (HOLe.refl _) (HLe.cons 3 rfl (HOLe.refl _) .nil)⟩
  · repeat' (first | refine Awp.seq ?_ | refine Awp.region ?_ | (refine Ops.nil ?_; show Awp _ _ _ _ _) | (refine Awp.exit ?_; show Awp _ _ _ _ _) | (refine Awp.ret ?_; show endK _ _ _ _ _) | (refine o_calm rfl TtOk rfl rfl rfl ?_ (fun _ => ?_); first | exact True.intro | exact ⟨rfl, rfl, rfl, rfl⟩ | exact ⟨rfl, True.intro⟩ | exact ⟨rfl, rfl⟩ | exact ⟨rfl, rfl, rfl⟩ | exact rfl | exact ⟨fun h0 => by cases h0, rfl⟩ | exact (fun h0 => by cases h0) | exact ⟨rfl, by omega⟩ | exact ⟨Nat.succ_ne_zero _, rfl⟩ | omega) | (refine a_condP rfl (fun hc => ?_) (fun hc => ?_)) <;> (try (exfalso; omega)))
    exact end_tmp rfl rfl rfl [] [] (CLe.of_eq rfl) .nil ⟨rfl, rfl⟩ _ (.inl rfl)
theorem told18_spec (p : Prf) (hl : p.path.length ≤ 300) : Spec Try.prog 18 [p.A] [] (fun v os => v = p.R ∧ os = []) := by
  obtain ⟨e, lf, a, b, path⟩ := p
  dsimp only at hl
  have h1 := told15_spec a
  have h2 := told15_spec b
  have h3 := told16_spec path 300 (by omega) (by decide) hl
  show Spec Try.prog 18 [.agg [.i .i64 e, lf.A, .agg [a.A, b.A], .sl 66 (path.map Itm.A)]] [] (fun v os => v = .agg [.i .i64 e, lf.A, a.R, b.R, .sl 66 (path.map Itm.R)] ∧ os = [])
  refine spec_of TtOk [] Try.func18 rfl Try.ntmps18 (by kernel_rfl) rfl rfl (fun C => ?_) rfl
  repeat' (first | refine Awp.seq ?_ | refine Awp.region ?_ | (refine Ops.nil ?_; show Awp _ _ _ _ _) | (refine Awp.ret ?_; show endK _ _ _ _ _) | (refine o_calm rfl TtOk rfl rfl rfl ?_ (fun _ => ?_); first | exact True.intro | exact ⟨rfl, rfl, rfl, rfl⟩ | exact ⟨rfl, True.intro⟩ | exact ⟨rfl, rfl⟩ | exact ⟨rfl, rfl, rfl⟩ | exact rfl | exact ⟨fun h0 => by cases h0, rfl⟩ | exact (fun h0 => by cases h0) | exact ⟨rfl, by omega⟩ | exact ⟨Nat.succ_ne_zero _, rfl⟩ | omega) | refine o_alloc (d := 2) rfl TtOk rfl rfl rfl (fun b2 => ?_) | refine o_box (d := 1) rfl rfl rfl rfl (fun b1 => ?_) | refine o_store TtOk rfl rfl rfl rfl rfl rfl rfl ⟨rfl, rfl⟩ rfl rfl rfl rfl rfl ?_ | refine o_build TtOk rfl rfl rfl rfl rfl rfl (by repeat' (first | exact True.intro | exact rfl | refine ⟨?_, ?_⟩)) ?_ | refine a_any 1 [2] [4, 6, 9, 13, 16] [10, 14, 17] [0, 2, 4, 5, 8, 9, 12, 1, 3, 6, 10, 13, 7, 11, 14, 15, 16] (by kernel_rfl) (by kernel_rfl) (by kernel_rfl) rfl rfl rfl ?_ | (refine o_call0 rfl (h1) ⟨SLe.of_eq rfl, True.intro⟩ rfl ?_; rintro _ _ ⟨rfl, rfl⟩; refine ⟨rfl, ?_⟩) | (refine o_call0 rfl (h2) ⟨SLe.of_eq rfl, True.intro⟩ rfl ?_; rintro _ _ ⟨rfl, rfl⟩; refine ⟨rfl, ?_⟩) | (refine o_call0 rfl (h3) ⟨SLe.of_eq rfl, SLe.of_eq rfl, True.intro⟩ rfl ?_; rintro _ _ ⟨rfl, rfl⟩; refine ⟨rfl, ?_⟩))
  refine end_all [] [] (.agg [.i .i64 e, lf.A, a.R, b.R, .sl 66 (path.map Itm.R)]) rfl ?_ ?_ (rle_one (CLe.of_eq rfl) rfl) .nil ⟨rfl, rfl⟩ _ (.inl rfl)
  · repeat' (first | exact True.intro | exact rfl | refine ⟨?_, ?_⟩)
  · exact ⟨trivial, trivial⟩
def cutP18 (p : Prf) : Prf := ⟨p.e, p.lf, p.a, p.b, p.path.take 300⟩
theorem cutP_ok {p : Prf} (h : p.ok) : (cutP18 p).ok ∧ (cutP18 p).path.length ≤ 300 := ⟨⟨h.lf, h.a, h.b, fun x hx => h.path x (List.mem_of_mem_take hx)⟩, by show (p.path.take 300).length ≤ 300; rw [List.length_take]; omega⟩
theorem cut18_spec (p : Prf) (hl : p.path.length ≤ 9223372036854775807) : Spec Try.prog 26 [p.A] [] (fun v os => v = (cutP18 p).A ∧ os = []) := by
  obtain ⟨e, lf, a, b, path⟩ := p
  dsimp only at hl
  unfold cutP18
  show Spec Try.prog 26 [.agg [.i .i64 e, lf.A, .agg [a.A, b.A], .sl 66 (path.map Itm.A)]] [] (fun v os => v = .agg [.i .i64 e, lf.A, .agg [a.A, b.A], .sl 66 ((path.take 300).map Itm.A)] ∧ os = [])
  refine spec_of TtOk [] Try.func26 rfl Try.ntmps26 (by kernel_rfl) rfl rfl (fun C => ?_) rfl
  by_cases h : 300 < path.length
  · repeat' (first | refine Awp.seq ?_ | refine Awp.region ?_ | (refine Ops.nil ?_; show Awp _ _ _ _ _) | (refine Awp.ret ?_; show endK _ _ _ _ _) | refine o_len rfl TtOk rfl rfl rfl (fun _ => ?_) | (refine o_calm rfl TtOk rfl rfl rfl ?_ (fun _ => ?_); first | exact True.intro | exact ⟨rfl, rfl, rfl, rfl⟩ | exact ⟨rfl, True.intro⟩ | exact ⟨rfl, rfl⟩ | exact ⟨rfl, rfl, rfl⟩ | exact rfl | exact ⟨fun h0 => by cases h0, rfl⟩ | exact (fun h0 => by cases h0) | exact ⟨rfl, by omega⟩ | exact ⟨Nat.succ_ne_zero _, rfl⟩ | omega) | refine o_alloc (d := 2) rfl TtOk rfl rfl rfl (fun b2 => ?_) | refine o_box (d := 1) rfl rfl rfl rfl (fun b1 => ?_) | refine o_store TtOk rfl rfl rfl rfl rfl rfl rfl ⟨rfl, rfl⟩ rfl rfl rfl rfl rfl ?_ | (refine a_condP rfl (fun hc => ?_) (fun hc => ?_)) <;> (try (exfalso; omega)) | (refine o_sliceSl TtOk rfl 0 300 rfl rfl rfl rfl rfl bnd_none (bnd_some rfl rfl) (by omega) (by omega) ?_; rw [List.drop_zero]))
    refine end_all [] [] (.agg [.i .i64 e, lf.A, .agg [a.A, b.A], .sl 66 ((path.take 300).map Itm.A)]) rfl ?_ ?_ (rle_one (CLe.of_eq rfl) rfl) .nil ⟨rfl, rfl⟩ _ (.inl rfl)
    · repeat' (first | exact True.intro | exact rfl | refine ⟨?_, ?_⟩)
    · exact ⟨trivial, trivial⟩
  · rw [List.take_of_length_le (by omega)]
    repeat' (first | refine Awp.seq ?_ | refine Awp.region ?_ | (refine Ops.nil ?_; show Awp _ _ _ _ _) | (refine Awp.skip ?_; show Awp _ _ _ _ _) | (refine Awp.ret ?_; show endK _ _ _ _ _) | refine o_len rfl TtOk rfl rfl rfl (fun _ => ?_) | (refine o_calm rfl TtOk rfl rfl rfl ?_ (fun _ => ?_); first | exact True.intro | exact ⟨rfl, rfl, rfl, rfl⟩ | exact ⟨rfl, True.intro⟩ | exact ⟨rfl, rfl⟩ | exact ⟨rfl, rfl, rfl⟩ | exact rfl | exact ⟨fun h0 => by cases h0, rfl⟩ | exact (fun h0 => by cases h0) | exact ⟨rfl, by omega⟩ | exact ⟨Nat.succ_ne_zero _, rfl⟩ | omega) | refine o_alloc (d := 2) rfl TtOk rfl rfl rfl (fun b2 => ?_) | refine o_box (d := 1) rfl rfl rfl rfl (fun b1 => ?_) | refine o_store TtOk rfl rfl rfl rfl rfl rfl rfl ⟨rfl, rfl⟩ rfl rfl rfl rfl rfl ?_ | (refine a_condP rfl (fun hc => ?_) (fun hc => ?_)) <;> (try (exfalso; omega)))
    refine end_all [] [] (.agg [.i .i64 e, lf.A, .agg [a.A, b.A], .sl 66 (path.map Itm.A)]) rfl ?_ ?_ (rle_one (CLe.of_eq rfl) rfl) .nil ⟨rfl, rfl⟩ _ (.inl rfl)
    · repeat' (first | exact True.intro | exact rfl | refine ⟨?_, ?_⟩)
    · exact ⟨trivial, trivial⟩
theorem mk_chk {L : List Lef} (lb : List UInt8) (hok : ∀ x ∈ L, x.ok) (hl : L.length ≤ 200) (hc : mkE L = 0) : chkE (mkP L lb) (topS (itmsL L)) lb = 0 := by
  obtain ⟨a, b, _⟩ := mk_taken lb hok hl hc
  unfold chkE
  rw [a, if_neg (show ¬ ((0 : Int) ≠ 0) from fun h => h rfl), b, if_pos rfl]
def awF18 : Lef := ⟨labC 64, List.replicate 32 0, 5⟩
def awL18 : List Lef := [lefC 0, awF18, lefC 128]
theorem awE18 : mkE awL18 = 0 := by decide +kernel
theorem awP18 : (mkP awL18 (labC 64)).path.length = 2 := by decide +kernel
theorem awOk18 : ∀ x ∈ awL18, x.ok := fun x hx => by
  rcases List.mem_cons.1 hx with rfl | hx
  · exact ⟨rfl, rfl⟩
  rcases List.mem_cons.1 hx with rfl | hx
  · exact ⟨rfl, rfl⟩
  rw [List.mem_singleton.1 hx]; exact ⟨rfl, rfl⟩
theorem awN18 : ∀ x ∈ awL18, x.l ≠ labC 192 := by decide +kernel
theorem awake18_spec : Spec Try.prog 16 [] [] (fun v os => v = .b true ∧ os = []) := by
  obtain ⟨_, _, a3, a4, a5, a6⟩ := mk_taken (L := awL18) (labC 64) awOk18 (by decide) awE18
  obtain ⟨_, _, b3, b4, b5, b6⟩ := mk_taken (L := awL18) (labC 192) awOk18 (by decide) awE18
  have c1 := mk_chk (L := awL18) (labC 64) awOk18 (by decide) awE18
  have c2 := mk_chk (L := awL18) (labC 192) awOk18 (by decide) awE18
  obtain ⟨d1, d2⟩ := a3 awF18 (List.mem_cons_of_mem _ (List.mem_cons_self ..)) rfl
  have e1 : chkB (mkP awL18 (labC 64)) (labC 64) = true := by unfold chkB; rw [d1, d2]; rfl
  have e2 : chkB (mkP awL18 (labC 192)) (labC 192) = false := by
    unfold chkB
    by_cases h : (mkP awL18 (labC 192)).e = 1
    · rw [beq_eq_false_iff_ne.2 (awN18 _ (b4 h)), Bool.and_false]
    · rw [beq_eq_false_iff_ne.2 h, Bool.false_and]
  have hio : ∀ x ∈ itmsL awL18, x.ok := fun x hx => by
    obtain ⟨y, hy, rfl⟩ := List.mem_map.1 (srtI_mem.1 hx)
    exact leafI_ok y (awOk18 y hy)
  have k0 := of_spec awL18 (by decide) awOk18
  have k1 := top_spec (itmsL awL18) (by unfold itmsL; rw [srtI_len, List.length_map]; decide) hio
  rw [show chkI (itmsL awL18) = 0 from awE18] at k1
  have htl := topS_len (itmsL awL18) hio
  have k2 := pmake_spec awL18 (labC 64) (by decide) awOk18 rfl
  have k3 := prcheck_spec (topS (itmsL awL18)) (labC 64) (mkP awL18 (labC 64)) a5 (by omega) htl rfl
  have k4 := pmake_spec awL18 (labC 192) (by decide) awOk18 rfl
  have k5 := prcheck_spec (topS (itmsL awL18)) (labC 192) (mkP awL18 (labC 192)) b5 (by omega) htl rfl
  rw [awE18] at k2 k4
  unfold chkL_ chkO at k3 k5
  rw [c1, if_pos rfl, if_pos rfl, e1, if_pos rfl, d2] at k3
  rw [c2, if_pos rfl, if_pos rfl, e2, if_neg (by decide)] at k5
  have hpl := awP18
  have hlA : awL18.map Lef.A = [lef0.A, .agg [labA (labC 64), labA (List.replicate 32 0), .i .i64 5], .agg [labA (labC 128), labA (List.replicate 32 0), .i .i64 0]] := rfl
  rw [hlA] at k0 k2 k4
  clear a3 a4 a5 a6 b3 b4 b5 b6 c1 c2 d1 d2 e1 e2 hio hlA
  generalize topS (itmsL awL18) = top at *
  generalize itmsL awL18 = I at *
  generalize mkP awL18 (labC 192) = q at *
  generalize mkP awL18 (labC 64) = p at *
  obtain ⟨e, lf, a, b, path⟩ := p
  dsimp only at hpl
  have hpA : Prf.A ⟨e, lf, a, b, path⟩ = .agg [.i .i64 e, lf.A, .agg [a.A, b.A], .sl 66 (path.map Itm.A)] := rfl
  rw [hpA] at k2 k3
  have hfA : awF18.A = .agg [labA (labC 64), labA (List.replicate 32 0), .i .i64 5] := rfl
  rw [hfA] at k3
  refine spec_of TtOk [] Try.func16 rfl Try.ntmps16 (by kernel_rfl) rfl rfl (fun C => ?_) rfl
  repeat' (first | (refine o_freezeR 19 1 rfl rfl rfl ?_) | refine Awp.seq ?_ | refine Awp.region ?_ | (refine Ops.nil ?_; show Awp _ _ _ _ _) | (refine Awp.ret ?_; show endK _ _ _ _ _) | refine o_len rfl TtOk rfl rfl rfl (fun _ => ?_) | (refine o_calm rfl TtOk rfl rfl rfl ?_ (fun _ => ?_); first | exact True.intro | exact ⟨rfl, rfl, rfl, rfl⟩ | exact ⟨rfl, True.intro⟩ | exact ⟨rfl, rfl⟩ | exact ⟨rfl, rfl, rfl⟩ | exact rfl | exact ⟨fun h0 => by cases h0, rfl⟩ | exact (fun h0 => by cases h0) | exact ⟨rfl, by omega⟩ | exact ⟨Nat.succ_ne_zero _, rfl⟩ | omega) | refine o_alloc (d := 2) rfl TtOk rfl rfl rfl (fun b2 => ?_) | refine o_alloc (d := 4) rfl TtOk rfl rfl rfl (fun b4 => ?_) | refine o_alloc (d := 6) rfl TtOk rfl rfl rfl (fun b6 => ?_) | refine o_alloc (d := 9) rfl TtOk rfl rfl rfl (fun b9 => ?_) | refine o_alloc (d := 11) rfl TtOk rfl rfl rfl (fun b11 => ?_) | refine o_store TtOk rfl rfl rfl rfl rfl rfl rfl ⟨rfl, rfl⟩ rfl rfl rfl rfl rfl ?_ | refine o_build TtOk rfl rfl rfl rfl rfl rfl (by repeat' (first | exact True.intro | exact rfl | refine ⟨?_, ?_⟩)) ?_ | refine o_buildSlice TtOk rfl rfl rfl rfl rfl rfl rfl rfl rfl rfl rfl (by repeat' (first | exact True.intro | exact rfl | refine ⟨?_, ?_⟩)) (fun _ => ?_) | (fail_if_success (refine o_isLit rfl (by first | exact .inl rfl | exact .inr rfl) ?_)); (refine o_splitP rfl rfl (fun hc => ?_) (fun hc => ?_) <;> try (exfalso; omega)) | (refine o_buildArr TtOk rfl ((labC 64).map byA) rfl rfl rfl (by kernel_rfl) rfl rfl ?_) | (refine o_buildArr TtOk rfl ((labC 128).map byA) rfl rfl rfl (by kernel_rfl) rfl rfl ?_) | (refine o_buildArr TtOk rfl ((labC 192).map byA) rfl rfl rfl (by kernel_rfl) rfl rfl ?_) | (refine o_call0 rfl (k0) ⟨SLe.of_eq rfl, True.intro⟩ rfl ?_; rintro _ _ ⟨rfl, rfl⟩; refine ⟨rfl, ?_⟩) | (refine o_call0 rfl (k1) ⟨SLe.of_eq rfl, True.intro⟩ rfl ?_; rintro _ _ ⟨rfl, rfl⟩; refine ⟨rfl, ?_⟩) | (refine o_call0 rfl (k2) ⟨SLe.of_eq rfl, SLe.of_eq rfl, True.intro⟩ rfl ?_; rintro _ _ ⟨rfl, rfl⟩; refine ⟨rfl, ?_⟩) | (refine o_call0 rfl (k3) ⟨SLe.of_eq rfl, SLe.of_eq rfl, SLe.of_eq rfl, True.intro⟩ rfl ?_; rintro _ _ ⟨rfl, rfl⟩; refine ⟨rfl, ?_⟩) | (refine o_call0 rfl (k4) ⟨SLe.of_eq rfl, SLe.of_eq rfl, True.intro⟩ rfl ?_; rintro _ _ ⟨rfl, rfl⟩; refine ⟨rfl, ?_⟩) | (refine o_call0 rfl (k5) ⟨SLe.of_eq rfl, SLe.of_eq rfl, SLe.of_eq rfl, True.intro⟩ rfl ?_; rintro _ _ ⟨rfl, rfl⟩; refine ⟨rfl, ?_⟩))
  all_goals exact end_tmp rfl rfl rfl [] [] (CLe.of_eq rfl) .nil ⟨rfl, rfl⟩ _ (.inl rfl)
end Go.Proofs.Ytcmgpkibjdbonaa
set_option maxHeartbeats 4000000
namespace Go.Proofs.Ytcmgpkibjdbonaa
open Go Go.RowKit
/-- A reader that is well, with this still to come. -/
structure RS.at_ (r : RS) (t : List UInt8) : Prop where
  e : r.e = 0
  rest : r.rest = t
theorem at_step {s : List UInt8} {p n : Nat} {e : Int} {L t : List UInt8} (h : (RS.mk s p e).rest = L ++ t) (hn : n = L.length) : (RS.mk s (p + n) 0).at_ t := ⟨rfl, by
  rw [RS.rest_step]
  have h : s.drop p = L ++ t := h
  show (s.drop p).drop n = t
  rw [h, hn, List.drop_append_of_le_length (Nat.le_refl _), List.drop_length, List.nil_append]⟩
theorem at_num {r : RS} {n : Nat} {t : List UInt8} (hn : n < 9223372036854775808) (h : r.at_ (numBytes n ++ t)) : r.number.1 = n ∧ r.number.2.at_ t := by
  rw [RS.number_reads r h.e n hn t h.rest]
  obtain ⟨s, p, e⟩ := r
  exact ⟨rfl, at_step h.rest rfl⟩
theorem at_lab {r : RS} {l t : List UInt8} (hl : l.length = 32) (h : r.at_ (l ++ t)) : r.label.1 = l ∧ r.label.2.at_ t := by
  rw [RS.label_reads r h.e l hl t h.rest]
  obtain ⟨s, p, e⟩ := r
  exact ⟨rfl, at_step h.rest hl.symm⟩
theorem at_flag {r : RS} {c : Bool} {t : List UInt8} (h : r.at_ ((if c then 1 else 0) :: t)) : r.flag.1 = c ∧ r.flag.2.at_ t := by
  rw [RS.flag_reads r h.e c t h.rest]
  obtain ⟨s, p, e⟩ := r
  exact ⟨rfl, at_step (L := [if c then 1 else 0]) h.rest rfl⟩
theorem at_open {s : List UInt8} (h : s.length ≤ 65536) : (RS.open s).at_ s := by
  unfold RS.open
  rw [if_neg (by omega)]
  exact ⟨rfl, by unfold RS.rest; rw [List.drop_zero]⟩
theorem at_done {r : RS} (h : r.at_ []) : r.done = 0 := by
  unfold RS.done
  have h2 : r.s.length - r.p = 0 := by rw [← RS.rest_len, h.rest]; rfl
  rw [if_neg (by omega)]
  exact h.e
theorem put_num {s : WS} {n : Int} (h : 0 ≤ n) : s.number n = s.put (numBytes n.toNat) := by unfold WS.number; rw [if_neg (by omega)]
/-- An item's bytes. -/
def itmBy (x : Itm) : List UInt8 := ((numBytes x.n.toNat ++ x.l) ++ x.s) ++ numBytes x.t.toNat
def lefBy (x : Lef) : List UInt8 := (x.l ++ x.v) ++ numBytes x.t.toNat
theorem WS.itm_put {s : WS} {x : Itm} (hn : 0 ≤ x.n) (ht : 0 ≤ x.t) : s.itm x = s.put (itmBy x) := by
  unfold WS.itm
  rw [put_num hn, put_num ht]
  unfold WS.put itmBy
  simp only [List.append_assoc]
theorem WS.lef_put {s : WS} {x : Lef} (ht : 0 ≤ x.t) : s.lef x = s.put (lefBy x) := by
  unfold WS.lef
  rw [put_num ht]
  unfold WS.put lefBy
  simp only [List.append_assoc]
theorem itmBy_len {x : Itm} (hx : x.ok) (hn : x.n < 9223372036854775808) (ht : x.t < 9223372036854775808) (h0 : 0 ≤ x.n) (h1 : 0 ≤ x.t) : (itmBy x).length ≤ 82 := by
  have := WS.len_itm ⟨[], 0⟩ x hx hn ht
  rw [WS.itm_put h0 h1, WS.len_put] at this
  have e : (WS.mk [] 0).bs.length = 0 := rfl
  omega
theorem lefBy_len {x : Lef} (hx : x.ok) (ht : x.t < 9223372036854775808) (h1 : 0 ≤ x.t) : (lefBy x).length ≤ 73 := by
  have := WS.len_lef ⟨[], 0⟩ x hx ht
  rw [WS.lef_put h1, WS.len_put] at this
  have e : (WS.mk [] 0).bs.length = 0 := rfl
  omega
theorem at_itm {r : RS} {x : Itm} {t : List UInt8} (hx : x.ok) (hn : 0 ≤ x.n ∧ x.n < 9223372036854775808) (ht : 0 ≤ x.t ∧ x.t < 9223372036854775808) (h : r.at_ (itmBy x ++ t)) : r.itm.1 = x ∧ r.itm.2.at_ t := by
  unfold itmBy at h
  rw [List.append_assoc, List.append_assoc, List.append_assoc] at h
  obtain ⟨a1, a2⟩ := at_num (by omega) h
  obtain ⟨b1, b2⟩ := at_lab hx.1 a2
  obtain ⟨c1, c2⟩ := at_lab hx.2 b2
  obtain ⟨d1, d2⟩ := at_num (by omega) c2
  refine ⟨?_, d2⟩
  obtain ⟨n, l, s, tt⟩ := x
  show Itm.mk _ _ _ _ = _
  rw [a1, b1, c1, d1]
  dsimp only at hn ht ⊢
  rw [Int.toNat_of_nonneg hn.1, Int.toNat_of_nonneg ht.1]
theorem at_lef {r : RS} {x : Lef} {t : List UInt8} (hx : x.ok) (ht : 0 ≤ x.t ∧ x.t < 9223372036854775808) (h : r.at_ (lefBy x ++ t)) : r.lef.1 = x ∧ r.lef.2.at_ t := by
  unfold lefBy at h
  rw [List.append_assoc, List.append_assoc] at h
  obtain ⟨b1, b2⟩ := at_lab hx.1 h
  obtain ⟨c1, c2⟩ := at_lab hx.2 b2
  obtain ⟨d1, d2⟩ := at_num (by omega) c2
  refine ⟨?_, d2⟩
  obtain ⟨l, v, tt⟩ := x
  show Lef.mk _ _ _ = _
  rw [b1, c1, d1]
  dsimp only at ht ⊢
  rw [Int.toNat_of_nonneg ht.1]
theorem chkLf_t {x : Lef} (h : chkLf x = 0) : 0 ≤ x.t ∧ x.t ≤ 1073741824 := by unfold chkLf at h; split at h <;> omega
theorem lf_by {x : Lef} (hx : x.ok) (h : chkLf x = 0) : lfBy x = (0 :: lefBy x, 0) := by
  have ht := chkLf_t h
  have hl := lefBy_len hx (by omega) ht.1
  unfold lfBy lfW
  rw [if_neg (fun hh => hh h), WS.lef_put ht.1]
  have e : (w0.put [0]).put (lefBy x) = ⟨0 :: lefBy x, 0⟩ := rfl
  rw [e]
  unfold WS.done
  rw [if_neg (fun hh => hh rfl), if_neg (by rw [List.length_cons]; omega)]
theorem lf_back {x : Lef} (hx : x.ok) (h : chkLf x = 0) : nodRd (lfBy x).1 = (.lf x, 0) := by
  have ht := chkLf_t h
  rw [lf_by hx h]
  have hl := lefBy_len hx (by omega) ht.1
  have a0 := at_open (s := 0 :: lefBy x) (by rw [List.length_cons]; omega)
  have hq : (0 :: lefBy x : List UInt8) = (if false = true then 1 else 0) :: (lefBy x ++ []) := by rw [List.append_nil]; rfl
  generalize hs : (0 :: lefBy x : List UInt8) = s at a0 hq
  have a0 : (RS.open s).at_ ((if false = true then 1 else 0) :: (lefBy x ++ [])) := by rw [← hq]; exact a0
  obtain ⟨b1, b2⟩ := at_flag a0
  obtain ⟨c1, c2⟩ := at_lef hx ⟨ht.1, by omega⟩ b2
  have hR : nodR s = (.lf x, (RS.open s).flag.2.lef.2) := by
    unfold nodR
    dsimp only
    rw [if_neg (show ¬ (RS.open s).flag.1 = true by rw [b1]; decide), c1]
  unfold nodRd
  rw [hR]
  dsimp only
  rw [if_neg (fun hh => hh (at_done c2)), if_neg (fun hh => hh h)]
theorem in_by {x y : Itm} (hx : x.ok) (hy : y.ok) (h : chkN x y = 0) : inBy x y = (1 :: (itmBy x ++ itmBy y), 0) ∧ nodRd (inBy x y).1 = (.inn x y, 0) := by
  have hg : goodI x = true ∧ goodI y = true := by
    unfold chkN at h
    by_cases hg : goodI x = true ∧ goodI y = true
    · exact hg
    · rw [if_neg hg] at h; cases h
  have bnd : ∀ z : Itm, goodI z = true → 0 ≤ z.n ∧ z.n ≤ 256 ∧ 0 ≤ z.t ∧ z.t ≤ 1073741824 := fun z gz => by
    unfold goodI goodP at gz
    simp only [Bool.and_eq_true, decide_eq_true_eq] at gz
    exact ⟨gz.1.1, gz.1.2.1, gz.2.1, gz.2.2⟩
  obtain ⟨x1, x2, x3, x4⟩ := bnd x hg.1
  obtain ⟨y1, y2, y3, y4⟩ := bnd y hg.2
  have lx := itmBy_len hx (by omega) (by omega) x1 x3
  have ly := itmBy_len hy (by omega) (by omega) y1 y3
  have e1 : inBy x y = (1 :: (itmBy x ++ itmBy y), 0) := by
    unfold inBy inW
    rw [if_neg (fun hh => hh h), WS.itm_put x1 x3, WS.itm_put y1 y3]
    have e : ((w0.put [1]).put (itmBy x)).put (itmBy y) = ⟨1 :: (itmBy x ++ itmBy y), 0⟩ := rfl
    rw [e]
    unfold WS.done
    rw [if_neg (fun hh => hh rfl), if_neg (by rw [List.length_cons, List.length_append]; omega)]
  refine ⟨e1, ?_⟩
  rw [e1]
  have a0 := at_open (s := 1 :: (itmBy x ++ itmBy y)) (by rw [List.length_cons, List.length_append]; omega)
  have hq : (1 :: (itmBy x ++ itmBy y) : List UInt8) = (if true = true then 1 else 0) :: (itmBy x ++ (itmBy y ++ [])) := by rw [List.append_nil]; rfl
  generalize hs : (1 :: (itmBy x ++ itmBy y) : List UInt8) = s at a0 hq
  have a0 : (RS.open s).at_ ((if true = true then 1 else 0) :: (itmBy x ++ (itmBy y ++ []))) := by rw [← hq]; exact a0
  obtain ⟨b1, b2⟩ := at_flag a0
  obtain ⟨c1, c2⟩ := at_itm hx ⟨x1, by omega⟩ ⟨x3, by omega⟩ b2
  obtain ⟨d1, d2⟩ := at_itm hy ⟨y1, by omega⟩ ⟨y3, by omega⟩ c2
  have hR : nodR s = (.inn x y, (RS.open s).flag.2.itm.2.itm.2) := by
    unfold nodR
    dsimp only
    rw [if_pos b1, c1, d1]
  unfold nodRd
  rw [hR]
  dsimp only
  rw [if_neg (fun hh => hh (at_done d2)), if_neg (fun hh => hh h)]
end Go.Proofs.Ytcmgpkibjdbonaa
set_option maxHeartbeats 4000000
namespace Go.Proofs.Ytcmgpkibjdbonaa
open Go Go.RowKit
section
variable {m : OM} {P : Program} {T : List (Nat × TI)} {C : Ctx} {ops : Array Oper} {l : List Oper} {K : St → Prop} {n : Nat} {sl : List (Nat × AV)} {hp : List (Nat × HO)} {d : Nat} {ty : Nat} {pos : String} {aft : Array Edge} {gd : Option (Nat × Bool)}
theorem is_iface {t sz by_ : Nat} {z : AV} (h : TOk P t ⟨.iface, sz, by_, z⟩) : ∃ want, P.underlying t = some (.interface want) := by
  obtain ⟨dd, h1, h2⟩ := h.desc
  cases dd <;> simp [kOf] at h2
  exact ⟨_, h1⟩
theorem o_neNilI (hT : TTOk P T) (hw : gval ops ⟨n, sl, hp⟩ gd = gwant gd) {t t' u : Nat} {x : Operand} {y : AV} {sz0 by0 : Nat} {z0 : AV} (hx : ev ⟨n, sl, hp⟩ x = .ifc t' y) (ht : tget T t = some ⟨.iface, sz0, by0, z0⟩) (hd : Nat.blt d n = true)
    (h : Ops m P C ops l ⟨n, (d, .b true) :: sl, hp⟩ K) : Ops m P C ops (⟨some d, .binOp .neq t x (.const .nilIface) u, ty, pos, aft, gd⟩ :: l) ⟨n, sl, hp⟩ K := by
  refine Ops.by (d := some d) hw none okc_none hd rfl (fun a w hs => ?_) h
  have E := ev_rep hs x
  rw [hx] at E
  obtain ⟨_, ⟨vs, rfl, h1⟩, h2⟩ := E
  have h2 : a.eval x = .iface t' (ofCells y vs) := h2
  obtain ⟨want, hu⟩ := is_iface (tget_ok hT ht)
  refine ⟨.bool true, repV_b.2 rfl, fun w' _ => ?_⟩
  have he : (Op.equal t (.iface t' (ofCells y vs)) .nilIface).run P w' = .ok false w' := by
    unfold Op.equal Op.maxDepth Op.equalIn
    simp only [Sem.run_bind, run_underlying hu, Result.andThen_ok]
    rfl
  have hg : (eqGuard .neq t x (.const .nilIface) (.iface t' (ofCells y vs)) .nilIface).run P w' = .ok () w' := by simp [eqGuard]
  have h3 : a.eval (.const .nilIface) = .nilIface := rfl
  simp only [execOp, h2, h3, Sem.run_bind, hg, Result.andThen_ok]
  unfold binOp
  simp [he, Sem.run_pure]
theorem o_neNilI0 (hT : TTOk P T) (hw : gval ops ⟨n, sl, hp⟩ gd = gwant gd) {t u : Nat} {x : Operand} {sz0 by0 : Nat} {z0 : AV} (hx : ev ⟨n, sl, hp⟩ x = .nili) (ht : tget T t = some ⟨.iface, sz0, by0, z0⟩) (hd : Nat.blt d n = true)
    (h : Ops m P C ops l ⟨n, (d, .b false) :: sl, hp⟩ K) : Ops m P C ops (⟨some d, .binOp .neq t x (.const .nilIface) u, ty, pos, aft, gd⟩ :: l) ⟨n, sl, hp⟩ K := by
  refine Ops.by (d := some d) hw none okc_none hd rfl (fun a w hs => ?_) h
  have E := ev_rep hs x
  rw [hx] at E
  have h2 : a.eval x = .nilIface := repV_nili.1 E
  obtain ⟨want, hu⟩ := is_iface (tget_ok hT ht)
  refine ⟨.bool false, repV_b.2 rfl, fun w' _ => ?_⟩
  have he : (Op.equal t .nilIface .nilIface).run P w' = .ok true w' := by
    unfold Op.equal Op.maxDepth Op.equalIn
    simp only [Sem.run_bind, run_underlying hu, Result.andThen_ok]
    rfl
  have hg : (eqGuard .neq t x (.const .nilIface) .nilIface .nilIface).run P w' = .ok () w' := by simp [eqGuard]
  have h3 : a.eval (.const .nilIface) = .nilIface := rfl
  simp only [execOp, h2, h3, Sem.run_bind, hg, Result.andThen_ok]
  unfold binOp
  simp [he, Sem.run_pure]
end
end Go.Proofs.Ytcmgpkibjdbonaa
