/- When a step is made, and that it is taken. No program in sight. -/
import Derived.Test.YtcmgpkibjdbonaaGreatPP2Z
import Derived.Test.YtcmgpkibjdbonaaGreatV31Z
import Derived.Test.YtcmgpkibjdbonaaGreatR2Z
import Derived.Test.YtcmgpkibjdbonaaGreatC2Z
set_option maxHeartbeats 4000000
namespace Go.Proofs.YtcmgpkibjdbonaaGreat
open Go Go.RowKit
theorem Leads.err {L : List Lef} {gone : List (List UInt8)} {fresh : List Lef} {Sm : List Itm} {Ol Nw : List Lef} (h : Leads L gone fresh Sm Ol Nw) (hl : L.length ≤ 400) (hf : fresh.length ≤ 400) (fr to : List UInt8) : stE fr to ⟨Sm, Ol, Nw⟩ = if topS (itmsL L) = fr ∧ topS (itmsL (behL L gone fresh)) = to then 0 else 11 := by
  have a := h.lenO
  have b := h.lenN
  unfold stE
  dsimp only
  rw [if_neg (by omega), if_neg h.form, h.old, if_neg (fun hh => hh rfl), h.new, if_neg (fun hh => hh rfl), h.oldT, h.newT]
theorem Leads.taken {L : List Lef} {gone : List (List UInt8)} {fresh : List Lef} {Sm : List Itm} {Ol Nw : List Lef} (h : Leads L gone fresh Sm Ol Nw) (hl : L.length ≤ 400) (hf : fresh.length ≤ 400) : stE (topS (itmsL L)) (topS (itmsL (behL L gone fresh))) ⟨Sm, Ol, Nw⟩ = 0 := by
  rw [h.err hl hf, if_pos ⟨rfl, rfl⟩]
theorem mkNw_mem {L : List Lef} {cI : List Itm} {cT fresh : List Lef} : ∃ r, mkNw L cI cT fresh = fresh ++ r := by
  unfold mkNw
  split
  · split
    · exact ⟨_, rfl⟩
    · exact ⟨[], (List.append_nil _).symm⟩
  · exact ⟨[], (List.append_nil _).symm⟩
theorem mk_leads {L : List Lef} {gone : List (List UInt8)} {fresh : List Lef} (hok : ∀ x ∈ L, x.ok) (hgo : ∀ x ∈ gone, x.length = 32) (hfo : ∀ x ∈ fresh, x.ok) (hl : L.length ≤ 400) (hfl : fresh.length ≤ 400) (h : (smk L gone fresh).2 = 0) :
    mkE L = 0 ∧ ∃ Sm Ol Nw, (smk L gone fresh).1 = ⟨Sm, Ol, Nw⟩ ∧ Leads L gone fresh Sm Ol Nw := by
  unfold smk at h ⊢
  by_cases hb : 500 < gone.length ∨ 500 < fresh.length
  · rw [if_pos hb] at h; cases h
  rw [if_neg hb] at h ⊢
  by_cases hc : cvE L ≠ 0
  · rw [if_pos hc] at h; exact absurd h hc
  rw [if_neg hc] at h ⊢
  have hcm : mkE L = 0 := by
    have := Decidable.not_not.1 hc
    unfold cvE at this; rw [itms_srt] at this; exact this
  refine ⟨hcm, ?_⟩
  unfold smkF at h ⊢
  by_cases h7 : gone.all (fun g => (cvT L (lbs gone fresh)).any (fun x => x.l == g)) = false
  · rw [if_pos h7] at h; cases h
  rw [if_neg h7] at h ⊢
  by_cases h8 : (cvT L (lbs gone fresh)).all (fun x => gone.any (fun y => x.l == y)) = false
  · rw [if_pos h8] at h; cases h
  rw [if_neg h8] at h ⊢
  unfold smkT at h ⊢
  by_cases ht : chkI (topU (mkSm L (cvI L (lbs gone fresh)) (cvT L (lbs gone fresh)) fresh) (srtL (mkNw L (cvI L (lbs gone fresh)) (cvT L (lbs gone fresh)) fresh))) ≠ 0
  · rw [if_pos ht] at h; exact absurd h ht
  rw [if_neg ht]
  have ht := Decidable.not_not.1 ht
  rw [topU_srt] at ht
  obtain ⟨f1, f2⟩ := fresh_ok ((topU_chk _ _).1.1 ht)
  obtain ⟨r, hr⟩ := mkNw_mem (L := L) (cI := cvI L (lbs gone fresh)) (cT := cvT L (lbs gone fresh)) (fresh := fresh)
  rw [hr] at f1 f2
  exact ⟨_, _, _, rfl, mk_core hok hgo hfo hl hfl hcm (by simpa using h7) (by simpa using h8) (fun x hx => f1 x (List.mem_append.2 (.inl hx))) (List.pairwise_append.1 f2).1⟩
theorem beh_nil (L fresh : List Lef) : behL L [] fresh = L ++ fresh := by
  unfold behL
  rw [List.filter_eq_self.2 (fun x _ => (rfl : notIn [] x = true))]
end Go.Proofs.YtcmgpkibjdbonaaGreat
set_option maxHeartbeats 8000000
set_option maxRecDepth 100000
namespace Go.Proofs.YtcmgpkibjdbonaaGreat
open Go Go.RowKit
def eqLf (x y : Lef) : Bool := x.l == y.l && (x.v == y.v && x.t == y.t)
theorem eqLf_iff {x y : Lef} : eqLf x y = true ↔ x = y := by
  unfold eqLf
  simp only [Bool.and_eq_true, beq_iff_eq]
  obtain ⟨a, b, c⟩ := x
  obtain ⟨d, e, f⟩ := y
  simp
theorem eqLf_self (x : Lef) : eqLf x x = true := eqLf_iff.2 rfl
theorem eqI_self (x : Itm) : eqI x x = true := eqI_iff.2 rfl
theorem lefN_eq0 (x y : Lef) (hx : x.ok) (hy : y.ok) (w : World) : (Op.equalIn 10000 46 (.agg (lefC_ x).toArray) (.agg (lefC_ y).toArray)).run Tryz.prog w = .ok (eqLf x y) w := by
  have hS : Tryz.prog.underlying 46 = some (.struct (Tryz.prog.fieldsOf 46)) := by kernel_rfl
  have hh : Tryz.prog.stoodInHeld 46 = false := by kernel_rfl
  have hi : Tryz.prog.underlying 3 = some (.int .i64) := by kernel_rfl
  have hk : Tryz.prog.plainKey 3 = true := by kernel_rfl
  have hu8 : Tryz.prog.underlying 5 = some (.int .u8) := by kernel_rfl
  have hk8 : Tryz.prog.plainKey 5 = true := by kernel_rfl
  have hl : Tryz.prog.underlying 44 = some (.array 32 5) := by kernel_rfl
  have hsz := (tget_ok TtOk (show tget Tt 44 = some _ from rfl)).sizeRun w
  have hag : (isAgg 44).run Tryz.prog w = .ok true w := by
    unfold isAgg; simp only [Sem.run_bind, run_underlying hl, Result.andThen_ok, Sem.run_pure]
  have pA : ∀ (z : Lef), z.ok → (part 44 (lefC_ z).toArray 0).run Tryz.prog w = .ok (.agg (z.l.map cellB).toArray) w := fun z hz => by
    have hx : ((lefC_ z).toArray.extract 0 (0 + 32)) = (z.l.map cellB).toArray := by
      rw [List.extract_toArray]
      congr 1
      unfold lefC_ List.extract
      rw [List.drop_zero, List.take_append_of_le_length (by rw [List.length_map, hz.1]; decide), List.take_of_length_le (by rw [List.length_map, hz.1]; decide)]
    unfold part
    simp only [Sem.run_bind, hag, Result.andThen_ok, if_true, hsz, Sem.run_pure]
    exact congrArg (fun q => Result.ok (Value.agg q) w) hx
  have pB : ∀ (z : Lef), z.ok → (part 44 (lefC_ z).toArray 32).run Tryz.prog w = .ok (.agg (z.v.map cellB).toArray) w := fun z hz => by
    have hx : ((lefC_ z).toArray.extract 32 (32 + 32)) = (z.v.map cellB).toArray := by
      rw [List.extract_toArray]
      congr 1
      unfold lefC_ List.extract
      rw [List.drop_append_of_le_length (by rw [List.length_map, hz.1]; decide), List.drop_of_length_le (by rw [List.length_map, hz.1]; decide), List.nil_append, List.take_append_of_le_length (by rw [List.length_map, hz.2]; decide), List.take_of_length_le (by rw [List.length_map, hz.2]; decide)]
    unfold part
    simp only [Sem.run_bind, hag, Result.andThen_ok, if_true, hsz, Sem.run_pure]
    exact congrArg (fun q => Result.ok (Value.agg q) w) hx
  have pC : ∀ (z : Lef), z.ok → (part 3 (lefC_ z).toArray 64).run Tryz.prog w = .ok (.int .i64 z.t) w := fun z hz => run_part_plain w hk (by
    unfold lefC_
    rw [List.getElem?_toArray, List.getElem?_append_right (by rw [List.length_map, hz.1]; decide), List.getElem?_append_right (by rw [List.length_map, List.length_map, hz.1, hz.2]; decide), List.length_map, List.length_map, hz.1, hz.2]; rfl)
  have p3 := run_equalIn_int (P := Tryz.prog) w 9998 3 .i64 .i64 x.t y.t hi
  have p4 : ∀ a b : List UInt8, a.length = 32 → b.length = 32 → (Op.equalIn (9998 + 1) 44 (.agg (a.map cellB).toArray) (.agg (b.map cellB).toArray)).run Tryz.prog w = .ok (a == b) w := fun a b ha hb => by
    obtain ⟨ie, hie, hies, _⟩ := (tget_ok TtOk (show tget Tt 5 = some _ from rfl)).inf
    have hco : Tryz.prog.cellsOf 5 = 1 := by unfold Program.cellsOf; rw [hie]; exact hies
    have h1 := run_equalIn_array (P := Tryz.prog) w 9998 (a.map cellB).toArray (b.map cellB).toArray hl hie
    have h2 := eqItems_bytes (P := Tryz.prog) (w := w) hu8 hk8 9997 a b (List.range 32) (fun i hi => by have := List.mem_range.1 hi; omega)
    rw [all_range_eq a b 32 ha hb] at h2
    rw [hco] at h1
    rw [h1]
    exact h2
  unfold eqLf
  rw [run_equalIn_struct (P := Tryz.prog) w 9999 _ _ _ hS hh]
  simp only [Program.fieldsOf, Tryz.underlying46]
  simp only [Op.eqFields]
  rw [if_pos (by decide)]
  rw [Sem.run_bind, pA x hx, Result.andThen_ok, Sem.run_bind, pA y hy, Result.andThen_ok, Sem.run_bind, p4 _ _ hx.1 hy.1, Result.andThen_ok]
  generalize (x.l == y.l) = q
  cases q
  · simp only [Bool.not_false, if_true, Sem.run_pure, Bool.false_and]
    try rfl
  · simp only [Bool.not_true, Bool.false_eq_true, if_false]
    rw [if_pos (by decide)]
    rw [Sem.run_bind, pB x hx, Result.andThen_ok, Sem.run_bind, pB y hy, Result.andThen_ok, Sem.run_bind, p4 _ _ hx.2 hy.2, Result.andThen_ok]
    generalize (x.v == y.v) = r
    cases r
    · simp only [Bool.not_false, if_true, Sem.run_pure, Bool.false_and]
      try rfl
    · simp only [Bool.not_true, Bool.false_eq_true, if_false]
      rw [if_pos (by decide)]
      rw [Sem.run_bind, pC x hx, Result.andThen_ok, Sem.run_bind, pC y hy, Result.andThen_ok, Sem.run_bind, p3, Result.andThen_ok]
      generalize (x.t == y.t) = z
      cases z <;> rfl
theorem lefN_eql (x y : Lef) (hx : x.ok) (hy : y.ok) (w : World) : (binOp .eql 46 (.agg (lefC_ x).toArray) (.agg (lefC_ y).toArray)).run Tryz.prog w = .ok (.bool (eqLf x y)) w := by
  rw [run_eql_struct, lefN_eq0 x y hx hy]; rfl
section
variable {m : OM} {C : Ctx} {ops : Array Oper} {l : List Oper} {K : St → Prop} {n : Nat} {sl : List (Nat × AV)} {hp : List (Nat × HO)} {d : Nat} {ty : Nat} {pos : String} {aft : Array Edge} {gd : Option (Nat × Bool)}
theorem o_eqLefN (hw : gval ops ⟨n, sl, hp⟩ gd = gwant gd) {u : Nat} {x y : Operand} {p q : Lef} (hx : ev ⟨n, sl, hp⟩ x = p.A) (hy : ev ⟨n, sl, hp⟩ y = q.A) (hd : Nat.blt d n = true)
    (h : Ops m Tryz.prog C ops l ⟨n, (d, .b (eqLf p q)) :: sl, hp⟩ K) : Ops m Tryz.prog C ops (⟨some d, .binOp .eql 46 x y u, ty, pos, aft, gd⟩ :: l) ⟨n, sl, hp⟩ K := by
  refine Ops.by (d := some d) hw none okc_none hd rfl (fun ac w hs => ?_) h
  have Ex := ev_rep hs x
  have Ey := ev_rep hs y
  rw [hx] at Ex
  rw [hy] at Ey
  obtain ⟨l1, Ex⟩ := lef_cells Ex
  obtain ⟨l2, Ey⟩ := lef_cells Ey
  refine ⟨_, repV_b.2 rfl, fun w' _ => ?_⟩
  have hgd := run_eqGuard_agg (P := Tryz.prog) w' .eql 46 x y (lefC_ p).toArray (lefC_ q).toArray (by kernel_rfl)
  simp only [execOp, Ex, Ey, Sem.run_bind, hgd, lefN_eql p q l1 l2, Result.andThen_ok, Sem.run_pure]
end
theorem lefR_eq0 (x y : Lef) (hx : x.ok) (hy : y.ok) (w : World) : (Op.equalIn 10000 58 (.agg (lefC_ x).toArray) (.agg (lefC_ y).toArray)).run Tryz.prog w = .ok (eqLf x y) w := by
  have hS : Tryz.prog.underlying 58 = some (.struct (Tryz.prog.fieldsOf 58)) := by kernel_rfl
  have hh : Tryz.prog.stoodInHeld 58 = false := by kernel_rfl
  have hi : Tryz.prog.underlying 3 = some (.int .i64) := by kernel_rfl
  have hk : Tryz.prog.plainKey 3 = true := by kernel_rfl
  have hu8 : Tryz.prog.underlying 5 = some (.int .u8) := by kernel_rfl
  have hk8 : Tryz.prog.plainKey 5 = true := by kernel_rfl
  have hl : Tryz.prog.underlying 44 = some (.array 32 5) := by kernel_rfl
  have hsz := (tget_ok TtOk (show tget Tt 44 = some _ from rfl)).sizeRun w
  have hag : (isAgg 44).run Tryz.prog w = .ok true w := by
    unfold isAgg; simp only [Sem.run_bind, run_underlying hl, Result.andThen_ok, Sem.run_pure]
  have pA : ∀ (z : Lef), z.ok → (part 44 (lefC_ z).toArray 0).run Tryz.prog w = .ok (.agg (z.l.map cellB).toArray) w := fun z hz => by
    have hx : ((lefC_ z).toArray.extract 0 (0 + 32)) = (z.l.map cellB).toArray := by
      rw [List.extract_toArray]
      congr 1
      unfold lefC_ List.extract
      rw [List.drop_zero, List.take_append_of_le_length (by rw [List.length_map, hz.1]; decide), List.take_of_length_le (by rw [List.length_map, hz.1]; decide)]
    unfold part
    simp only [Sem.run_bind, hag, Result.andThen_ok, if_true, hsz, Sem.run_pure]
    exact congrArg (fun q => Result.ok (Value.agg q) w) hx
  have pB : ∀ (z : Lef), z.ok → (part 44 (lefC_ z).toArray 32).run Tryz.prog w = .ok (.agg (z.v.map cellB).toArray) w := fun z hz => by
    have hx : ((lefC_ z).toArray.extract 32 (32 + 32)) = (z.v.map cellB).toArray := by
      rw [List.extract_toArray]
      congr 1
      unfold lefC_ List.extract
      rw [List.drop_append_of_le_length (by rw [List.length_map, hz.1]; decide), List.drop_of_length_le (by rw [List.length_map, hz.1]; decide), List.nil_append, List.take_append_of_le_length (by rw [List.length_map, hz.2]; decide), List.take_of_length_le (by rw [List.length_map, hz.2]; decide)]
    unfold part
    simp only [Sem.run_bind, hag, Result.andThen_ok, if_true, hsz, Sem.run_pure]
    exact congrArg (fun q => Result.ok (Value.agg q) w) hx
  have pC : ∀ (z : Lef), z.ok → (part 3 (lefC_ z).toArray 64).run Tryz.prog w = .ok (.int .i64 z.t) w := fun z hz => run_part_plain w hk (by
    unfold lefC_
    rw [List.getElem?_toArray, List.getElem?_append_right (by rw [List.length_map, hz.1]; decide), List.getElem?_append_right (by rw [List.length_map, List.length_map, hz.1, hz.2]; decide), List.length_map, List.length_map, hz.1, hz.2]; rfl)
  have p3 := run_equalIn_int (P := Tryz.prog) w 9998 3 .i64 .i64 x.t y.t hi
  have p4 : ∀ a b : List UInt8, a.length = 32 → b.length = 32 → (Op.equalIn (9998 + 1) 44 (.agg (a.map cellB).toArray) (.agg (b.map cellB).toArray)).run Tryz.prog w = .ok (a == b) w := fun a b ha hb => by
    obtain ⟨ie, hie, hies, _⟩ := (tget_ok TtOk (show tget Tt 5 = some _ from rfl)).inf
    have hco : Tryz.prog.cellsOf 5 = 1 := by unfold Program.cellsOf; rw [hie]; exact hies
    have h1 := run_equalIn_array (P := Tryz.prog) w 9998 (a.map cellB).toArray (b.map cellB).toArray hl hie
    have h2 := eqItems_bytes (P := Tryz.prog) (w := w) hu8 hk8 9997 a b (List.range 32) (fun i hi => by have := List.mem_range.1 hi; omega)
    rw [all_range_eq a b 32 ha hb] at h2
    rw [hco] at h1
    rw [h1]
    exact h2
  unfold eqLf
  rw [run_equalIn_struct (P := Tryz.prog) w 9999 _ _ _ hS hh]
  simp only [Program.fieldsOf, Tryz.underlying58]
  simp only [Op.eqFields]
  rw [if_pos (by decide)]
  rw [Sem.run_bind, pA x hx, Result.andThen_ok, Sem.run_bind, pA y hy, Result.andThen_ok, Sem.run_bind, p4 _ _ hx.1 hy.1, Result.andThen_ok]
  generalize (x.l == y.l) = q
  cases q
  · simp only [Bool.not_false, if_true, Sem.run_pure, Bool.false_and]
    try rfl
  · simp only [Bool.not_true, Bool.false_eq_true, if_false]
    rw [if_pos (by decide)]
    rw [Sem.run_bind, pB x hx, Result.andThen_ok, Sem.run_bind, pB y hy, Result.andThen_ok, Sem.run_bind, p4 _ _ hx.2 hy.2, Result.andThen_ok]
    generalize (x.v == y.v) = r
    cases r
    · simp only [Bool.not_false, if_true, Sem.run_pure, Bool.false_and]
      try rfl
    · simp only [Bool.not_true, Bool.false_eq_true, if_false]
      rw [if_pos (by decide)]
      rw [Sem.run_bind, pC x hx, Result.andThen_ok, Sem.run_bind, pC y hy, Result.andThen_ok, Sem.run_bind, p3, Result.andThen_ok]
      generalize (x.t == y.t) = z
      cases z <;> rfl
theorem lefR_neq (x y : Lef) (hx : x.ok) (hy : y.ok) (w : World) : (binOp .neq 58 (.agg (lefC_ x).toArray) (.agg (lefC_ y).toArray)).run Tryz.prog w = .ok (.bool (!(eqLf x y))) w := by
  rw [run_neq_struct, lefR_eq0 x y hx hy]; rfl
section
variable {m : OM} {C : Ctx} {ops : Array Oper} {l : List Oper} {K : St → Prop} {n : Nat} {sl : List (Nat × AV)} {hp : List (Nat × HO)} {d : Nat} {ty : Nat} {pos : String} {aft : Array Edge} {gd : Option (Nat × Bool)}
theorem o_neLefR (hw : gval ops ⟨n, sl, hp⟩ gd = gwant gd) {u : Nat} {x y : Operand} {p q : Lef} (hx : ev ⟨n, sl, hp⟩ x = p.A) (hy : ev ⟨n, sl, hp⟩ y = q.A) (hd : Nat.blt d n = true)
    (h : Ops m Tryz.prog C ops l ⟨n, (d, .b (!eqLf p q)) :: sl, hp⟩ K) : Ops m Tryz.prog C ops (⟨some d, .binOp .neq 58 x y u, ty, pos, aft, gd⟩ :: l) ⟨n, sl, hp⟩ K := by
  refine Ops.by (d := some d) hw none okc_none hd rfl (fun ac w hs => ?_) h
  have Ex := ev_rep hs x
  have Ey := ev_rep hs y
  rw [hx] at Ex
  rw [hy] at Ey
  obtain ⟨l1, Ex⟩ := lef_cells Ex
  obtain ⟨l2, Ey⟩ := lef_cells Ey
  refine ⟨_, repV_b.2 rfl, fun w' _ => ?_⟩
  have hgd := run_eqGuard_agg (P := Tryz.prog) w' .neq 58 x y (lefC_ p).toArray (lefC_ q).toArray (by kernel_rfl)
  simp only [execOp, Ex, Ey, Sem.run_bind, hgd, lefR_neq p q l1 l2, Result.andThen_ok, Sem.run_pure]
end
end Go.Proofs.YtcmgpkibjdbonaaGreat
set_option maxHeartbeats 16000000
set_option maxRecDepth 100000
namespace Go.Proofs.YtcmgpkibjdbonaaGreat
open Go Go.RowKit
theorem idxL_spec (l : List Lef) (g : Lef) (hl : l.length ≤ 100000) : Spec Tryz.prog 184 [.sl 65 (l.map Lef.A), g.A] [] (fun v os => v = .i .i64 (if l.any (fun y => eqLf g y) = true then (l.findIdx (fun y => eqLf g y) : Nat) else -1) ∧ os = []) := by
  refine spec_of TtOk [] Tryz.func184 rfl Tryz.ntmps184 (by kernel_rfl) rfl rfl (fun C => ?_) rfl
  repeat' (first | refine Awp.seq ?_ | refine Awp.block ?_ | refine Awp.region ?_ | (refine Ops.nil ?_; show Awp _ _ _ _ _) | refine o_len rfl TtOk rfl rfl rfl (fun _ => ?_) | (refine o_calm rfl TtOk rfl rfl rfl ?_ (fun _ => ?_); exact nd) | refine o_box (d := 3) rfl rfl rfl rfl (fun b3 => ?_))
  refine Awp.loop (fun q : Nat => ⟨19, [(8, .i .i64 q), (7, .i .i64 l.length), (6, .sl 65 (l.map Lef.A)), (0, .sl 65 (l.map Lef.A)), (3, .ptr 3 b3 [] 0)], [(3, .var b3 g.A)]⟩) (fun q => q ≤ l.length ∧ ∀ j (h : j < l.length), j < q → eqLf g l[j] = false) (fun q => l.length - q) [] 0 ⟨Nat.zero_le _, fun _ _ h => absurd h (Nat.not_lt_zero _)⟩ ?_ ?_
  · exact ⟨rfl, ⟨sle_i rfl, sle_i rfl, sle_sl rfl, sle_sl rfl, sle_ptr, True.intro⟩, HLe.cons 3 rfl (HOLe.refl _) .nil⟩
  rintro i ⟨hi, hno⟩
  by_cases hlt : i < l.length
  · have hi1 : ((i : Int) + 1 = ((i + 1 : Nat) : Int)) := by omega
    obtain ⟨q, hq⟩ : ∃ q, eqLf g l[i] = q := ⟨_, rfl⟩
    cases q with
    | true =>
      repeat' (first | refine Awp.seq ?_ | refine Awp.block ?_ | refine Awp.region ?_ | (refine Ops.nil ?_; show Awp _ _ _ _ _) | (refine Awp.skip ?_; show Awp _ _ _ _ _) | (refine Awp.ret ?_; show endK _ _ _ _ _) | (refine o_calm rfl TtOk rfl rfl rfl ?_ (fun _ => ?_); exact nd) | (refine o_index rfl TtOk rfl rfl rfl rfl rfl rfl ?_ (getq_nat ?_) ?_; omega; omega) | refine a_condT rfl ?_ | (refine a_condP rfl (fun hc => ?_) (fun hc => ?_)) <;> (try (exfalso; omega)) | refine a_any 4 [] [] [] [1, 2, 3, 0, 4, 5] (by kernel_rfl) (by kernel_rfl) (by kernel_rfl) rfl rfl rfl ?_ | (refine o_eqLefN (p := g) (q := l[i]) rfl rfl rfl rfl ?_; rw [hq]))
      have hm : l.any (fun y => eqLf g y) = true := List.any_eq_true.2 ⟨l[i], List.getElem_mem _, hq⟩
      have hx : l.findIdx (fun y => eqLf g y) = i := by
        rw [List.findIdx_eq hlt]
        exact ⟨hq, fun j hj => hno j (by omega) hj⟩
      refine end_tmp rfl rfl rfl [] [] (CLe.of_eq ?_) .nil ⟨rfl, rfl⟩ _ (.inl rfl)
      rw [if_pos hm, hx]; rfl
    | false =>
      repeat' (first | refine Awp.seq ?_ | refine Awp.block ?_ | refine Awp.region ?_ | (refine Ops.nil ?_; show Awp _ _ _ _ _) | (refine Ops.nil ?_; show Exists _) | (refine Awp.skip ?_; show Awp _ _ _ _ _) | (refine o_add rfl rfl rfl rfl ?_ ?_; omega) | (refine o_calm rfl TtOk rfl rfl rfl ?_ (fun _ => ?_); exact nd) | (refine o_index rfl TtOk rfl rfl rfl rfl rfl rfl ?_ (getq_nat ?_) ?_; omega; omega) | refine a_condF rfl ?_ | (refine a_condP rfl (fun hc => ?_) (fun hc => ?_)) <;> (try (exfalso; omega)) | refine a_any 4 [] [] [] [1, 2, 3, 0, 4, 5] (by kernel_rfl) (by kernel_rfl) (by kernel_rfl) rfl rfl rfl ?_ | (refine o_eqLefN (p := g) (q := l[i]) rfl rfl rfl rfl ?_; rw [hq]))
      exact ⟨i + 1, [], ⟨hlt, fun j h hj => by
        rcases Nat.lt_succ_iff_lt_or_eq.1 hj with h2 | rfl
        · exact hno j h h2
        · exact hq⟩, by show l.length - (i + 1) < l.length - i; omega, rfl, ⟨sle_i hi1, sle_i rfl, sle_sl rfl, sle_sl rfl, sle_ptr, True.intro⟩, HLe.cons 3 rfl (HOLe.refl _) .nil⟩
  · have hm : ¬ l.any (fun y => eqLf g y) = true := by
      intro h
      obtain ⟨x, hx, hxp⟩ := List.any_eq_true.1 h
      obtain ⟨j, hj, rfl⟩ := List.getElem_of_mem hx
      rw [hno j hj (by omega)] at hxp; cases hxp
    rw [if_neg hm]
    repeat' (first | refine Awp.seq ?_ | refine Awp.region ?_ | (refine Ops.nil ?_; show Awp _ _ _ _ _) | (refine Awp.exit ?_; show Awp _ _ _ _ _) | (refine Awp.ret ?_; show endK _ _ _ _ _) | (refine o_calm rfl TtOk rfl rfl rfl ?_ (fun _ => ?_); exact nd) | (refine a_condP rfl (fun hc => ?_) (fun hc => ?_)) <;> (try (exfalso; omega)))
    exact end_tmp rfl rfl rfl [] [] (CLe.of_eq rfl) .nil ⟨rfl, rfl⟩ _ (.inl rfl)
theorem conL_spec (l : List Lef) (g : Lef) (hl : l.length ≤ 100000) : Spec Tryz.prog 99 [.sl 65 (l.map Lef.A), g.A] [] (fun v os => v = .b (l.any (fun y => eqLf g y)) ∧ os = []) := by
  refine spec_of TtOk [] Tryz.func99 rfl Tryz.ntmps99 (by kernel_rfl) rfl rfl (fun C => ?_) rfl
  have h1 := idxL_spec l g hl
  cases hm : l.any (fun y => eqLf g y) with
  | true =>
    rw [if_pos hm] at h1
    generalize l.findIdx (fun y => eqLf g y) = i at h1
    repeat' (first | refine Awp.seq ?_ | refine Awp.region ?_ | (refine Ops.nil ?_; show Awp _ _ _ _ _) | (refine Awp.ret ?_; show endK _ _ _ _ _) | (refine o_calm rfl TtOk rfl rfl rfl ?_ (fun _ => ?_); exact nd) | refine o_box (d := 3) rfl rfl rfl rfl (fun b3 => ?_) | (refine o_call0 rfl (h1) ⟨SLe.of_eq rfl, SLe.of_eq rfl, True.intro⟩ rfl ?_; rintro _ _ ⟨rfl, rfl⟩; refine ⟨rfl, ?_⟩))
    refine end_tmp rfl rfl rfl [] [] (CLe.of_eq ?_) .nil ⟨rfl, rfl⟩ _ (.inl rfl)
    exact congrArg AV.b (decide_eq_true (by omega))
  | false =>
    rw [if_neg (by rw [hm]; decide)] at h1
    repeat' (first | refine Awp.seq ?_ | refine Awp.region ?_ | (refine Ops.nil ?_; show Awp _ _ _ _ _) | (refine Awp.ret ?_; show endK _ _ _ _ _) | (refine o_calm rfl TtOk rfl rfl rfl ?_ (fun _ => ?_); exact nd) | refine o_box (d := 3) rfl rfl rfl rfl (fun b3 => ?_) | (refine o_call0 rfl (h1) ⟨SLe.of_eq rfl, SLe.of_eq rfl, True.intro⟩ rfl ?_; rintro _ _ ⟨rfl, rfl⟩; refine ⟨rfl, ?_⟩))
    exact end_tmp rfl rfl rfl [] [] (CLe.of_eq rfl) .nil ⟨rfl, rfl⟩ _ (.inl rfl)
def insN (s : Stp) (ep : Int) (x : Lef) : Bool := s.old.any (fun y => eqLf x y) || x.t == ep
def insF (s : Stp) (ep : Int) : Bool := s.old.all (fun x => s.new.any (fun y => eqLf x y)) && s.new.all (insN s ep)
theorem sins_spec (s : Stp) (ep : Int) (ho : s.old.length ≤ 100000) (hn : s.new.length ≤ 100000) : Spec Tryz.prog 30 [s.A, .i .i64 ep] [] (fun v os => v = .b (insF s ep) ∧ os = []) := by
  obtain ⟨same, old, new⟩ := s
  dsimp only at ho hn
  obtain ⟨W, hW⟩ : ∃ W, insF ⟨same, old, new⟩ ep = W := ⟨_, rfl⟩
  rw [hW]
  have hW : (old.all (fun x => new.any (fun y => eqLf x y)) && new.all (insN ⟨same, old, new⟩ ep)) = W := hW
  have hN : ∀ x, insN ⟨same, old, new⟩ ep x = (old.any (fun y => eqLf x y) || x.t == ep) := fun _ => rfl
  generalize insN ⟨same, old, new⟩ ep = nf at *
  show Spec Tryz.prog 30 [.agg [.sl 66 (same.map Itm.A), .sl 65 (old.map Lef.A), .sl 65 (new.map Lef.A)], .i .i64 ep] [] _
  refine spec_of TtOk [] Tryz.func30 rfl Tryz.ntmps30 (by kernel_rfl) rfl rfl (fun C => ?_) rfl
  repeat' (first | refine Awp.seq ?_ | refine Awp.block ?_ | refine Awp.region ?_ | (refine Ops.nil ?_; show Awp _ _ _ _ _) | refine o_len rfl TtOk rfl rfl rfl (fun _ => ?_) | (refine o_calm rfl TtOk rfl rfl rfl ?_ (fun _ => ?_); exact nd) | refine o_box (d := 2) rfl rfl rfl rfl (fun b2 => ?_))
  refine Awp.loop (fun i : Nat => ⟨41, [(12, .i .i64 i), (11, .i .i64 old.length), (10, .sl 65 (old.map Lef.A)), (2, .ptr 2 b2 [] 0), (1, .i .i64 ep)], [(2, .var b2 (.agg [.sl 66 (same.map Itm.A), .sl 65 (old.map Lef.A), .sl 65 (new.map Lef.A)]))]⟩) (fun i => i ≤ old.length ∧ ∀ j (h : j < old.length), j < i → new.any (fun y => eqLf old[j] y) = true) (fun i => old.length - i) [] 0 ⟨Nat.zero_le _, fun _ _ h => absurd h (Nat.not_lt_zero _)⟩ ?_ ?_
  · exact ⟨rfl, ⟨sle_i rfl, sle_i rfl, sle_sl rfl, sle_ptr, sle_i rfl, True.intro⟩, HLe.cons 2 rfl (HOLe.refl _) .nil⟩
  rintro i ⟨hi, hin⟩
  by_cases hlt : i < old.length
  · have hi1 : ((i : Int) + 1 = ((i + 1 : Nat) : Int)) := by omega
    have hcn := conL_spec new old[i] hn
    cases ha : new.any (fun y => eqLf old[i] y) with
    | true =>
      rw [ha] at hcn
      repeat' (first | refine Awp.seq ?_ | refine Awp.block ?_ | refine Awp.region ?_ | (refine Ops.nil ?_; show Awp _ _ _ _ _) | (refine Ops.nil ?_; show Exists _) | (refine Awp.skip ?_; show Awp _ _ _ _ _) | (refine o_add rfl rfl rfl rfl ?_ ?_; omega) | (refine o_calm rfl TtOk rfl rfl rfl ?_ (fun _ => ?_); exact nd) | refine o_alloc (d := 6) rfl TtOk rfl rfl rfl (fun b6 => ?_) | refine o_store TtOk rfl rfl rfl rfl rfl rfl rfl ⟨rfl, rfl⟩ rfl rfl rfl rfl rfl ?_ | (refine o_index rfl TtOk rfl rfl rfl rfl rfl rfl ?_ (getq_nat ?_) ?_; omega; omega) | refine a_condF rfl ?_ | (refine a_condP rfl (fun hc => ?_) (fun hc => ?_)) <;> (try (exfalso; omega)) | (refine o_call0 rfl (hcn) ⟨SLe.of_eq rfl, SLe.of_eq rfl, True.intro⟩ rfl ?_; rintro _ _ ⟨rfl, rfl⟩; refine ⟨rfl, ?_⟩))
      all_goals
        exact ⟨i + 1, [], ⟨hlt, fun j h hj => by
          rcases Nat.lt_succ_iff_lt_or_eq.1 hj with h2 | rfl
          · exact hin j h h2
          · exact ha⟩, by omega, rfl, ⟨sle_i hi1, sle_i rfl, sle_sl rfl, sle_ptr, sle_i rfl, True.intro⟩, HLe.cons 2 rfl (HOLe.refl _) .nil⟩
    | false =>
      rw [ha] at hcn
      have hal : old.all (fun x => new.any (fun y => eqLf x y)) = false := by
        rw [List.all_eq_false]
        exact ⟨old[i], List.getElem_mem hlt, by rw [ha]; decide⟩
      rw [hal, Bool.false_and] at hW
      subst hW
      repeat' (first | refine Awp.seq ?_ | refine Awp.block ?_ | refine Awp.region ?_ | (refine Ops.nil ?_; show Awp _ _ _ _ _) | (refine Awp.skip ?_; show Awp _ _ _ _ _) | (refine Awp.ret ?_; show endK _ _ _ _ _) | (refine o_calm rfl TtOk rfl rfl rfl ?_ (fun _ => ?_); exact nd) | refine o_alloc (d := 6) rfl TtOk rfl rfl rfl (fun b6 => ?_) | refine o_store TtOk rfl rfl rfl rfl rfl rfl rfl ⟨rfl, rfl⟩ rfl rfl rfl rfl rfl ?_ | (refine o_index rfl TtOk rfl rfl rfl rfl rfl rfl ?_ (getq_nat ?_) ?_; omega; omega) | refine a_condT rfl ?_ | (refine a_condP rfl (fun hc => ?_) (fun hc => ?_)) <;> (try (exfalso; omega)) | (refine o_call0 rfl (hcn) ⟨SLe.of_eq rfl, SLe.of_eq rfl, True.intro⟩ rfl ?_; rintro _ _ ⟨rfl, rfl⟩; refine ⟨rfl, ?_⟩))
      all_goals exact end_tmp rfl rfl rfl [] [] (CLe.of_eq rfl) .nil ⟨rfl, rfl⟩ _ (.inl rfl)
  have hie : i = old.length := by omega
  have hal : old.all (fun x => new.any (fun y => eqLf x y)) = true := by
    rw [List.all_eq_true]
    intro g hgm
    obtain ⟨j, hj, rfl⟩ := List.getElem_of_mem hgm
    exact hin j hj (by omega)
  rw [hal, Bool.true_and] at hW
  clear hin hal
  subst hie
  repeat' (first | refine Awp.seq ?_ | refine Awp.block ?_ | refine Awp.region ?_ | (refine Ops.nil ?_; show Awp _ _ _ _ _) | (refine Awp.exit ?_; show Awp _ _ _ _ _) | refine o_len rfl TtOk rfl rfl rfl (fun _ => ?_) | (refine o_calm rfl TtOk rfl rfl rfl ?_ (fun _ => ?_); exact nd) | (refine a_condP rfl (fun hc => ?_) (fun hc => ?_)) <;> (try (exfalso; omega)))
  refine Awp.loop (fun i : Nat => ⟨41, [(25, .i .i64 i), (24, .i .i64 new.length), (23, .sl 65 (new.map Lef.A)), (2, .ptr 2 b2 [] 0), (1, .i .i64 ep)], [(2, .var b2 (.agg [.sl 66 (same.map Itm.A), .sl 65 (old.map Lef.A), .sl 65 (new.map Lef.A)]))]⟩) (fun i => i ≤ new.length ∧ ∀ j (h : j < new.length), j < i → nf new[j] = true) (fun i => new.length - i) [] 0 ⟨Nat.zero_le _, fun _ _ h => absurd h (Nat.not_lt_zero _)⟩ ?_ ?_
  · exact ⟨rfl, ⟨sle_i rfl, sle_i rfl, sle_sl rfl, sle_ptr, sle_i rfl, True.intro⟩, HLe.cons 2 rfl (HOLe.refl _) .nil⟩
  rintro i ⟨hi, hin⟩
  by_cases hlt : i < new.length
  · have hi1 : ((i : Int) + 1 = ((i + 1 : Nat) : Int)) := by omega
    have hcn := conL_spec old new[i] ho
    have hNi := hN new[i]
    have hnx : nf new[i] = true → ∀ j (h : j < new.length), j < i + 1 → nf new[j] = true := fun hx j h hj => by
      rcases Nat.lt_succ_iff_lt_or_eq.1 hj with h2 | rfl
      · exact hin j h h2
      · exact hx
    generalize old.any (fun y => eqLf new[i] y) = a at hcn hNi
    cases a with
    | true =>
      rw [Bool.true_or] at hNi
      repeat' (first | refine Awp.seq ?_ | refine Awp.block ?_ | refine Awp.region ?_ | (refine Ops.nil ?_; show Awp _ _ _ _ _) | (refine Ops.nil ?_; show Exists _) | (refine Awp.skip ?_; show Awp _ _ _ _ _) | refine o_offT rfl rfl rfl (by first | exact .inl rfl | exact .inr rfl) ?_ | (refine o_add rfl rfl rfl rfl ?_ ?_; omega) | (refine o_calm rfl TtOk rfl rfl rfl ?_ (fun _ => ?_); exact nd) | refine o_alloc (d := 8) rfl TtOk rfl rfl rfl (fun b8 => ?_) | refine o_store TtOk rfl rfl rfl rfl rfl rfl rfl ⟨rfl, rfl⟩ rfl rfl rfl rfl rfl ?_ | (refine o_index rfl TtOk rfl rfl rfl rfl rfl rfl ?_ (getq_nat ?_) ?_; omega; omega) | refine a_condF rfl ?_ | (refine a_condP rfl (fun hc => ?_) (fun hc => ?_)) <;> (try (exfalso; omega)) | (refine o_call0 rfl (hcn) ⟨SLe.of_eq rfl, SLe.of_eq rfl, True.intro⟩ rfl ?_; rintro _ _ ⟨rfl, rfl⟩; refine ⟨rfl, ?_⟩))
      all_goals exact ⟨i + 1, [], ⟨hlt, hnx hNi⟩, by omega, rfl, ⟨sle_i hi1, sle_i rfl, sle_sl rfl, sle_ptr, sle_i rfl, True.intro⟩, HLe.cons 2 rfl (HOLe.refl _) .nil⟩
    | false =>
      rw [Bool.false_or] at hNi
      by_cases he : new[i].t = ep
      · have hx : nf new[i] = true := by rw [hNi, he]; exact beq_self_eq_true _
        repeat' (first | refine Awp.seq ?_ | refine Awp.block ?_ | refine Awp.region ?_ | (refine Ops.nil ?_; show Awp _ _ _ _ _) | (refine Ops.nil ?_; show Exists _) | (refine Awp.skip ?_; show Awp _ _ _ _ _) | (refine o_add rfl rfl rfl rfl ?_ ?_; omega) | (refine o_calm rfl TtOk rfl rfl rfl ?_ (fun _ => ?_); exact nd) | refine o_alloc (d := 8) rfl TtOk rfl rfl rfl (fun b8 => ?_) | refine o_store TtOk rfl rfl rfl rfl rfl rfl rfl ⟨rfl, rfl⟩ rfl rfl rfl rfl rfl ?_ | (refine o_index rfl TtOk rfl rfl rfl rfl rfl rfl ?_ (getq_nat ?_) ?_; omega; omega) | (refine a_condP rfl (fun hc => ?_) (fun hc => ?_)) <;> (try (exfalso; omega)) | (refine a_condN rfl (fun hc => ?_) (fun hc => ?_)) <;> (try (exfalso; omega)) | (refine o_call0 rfl (hcn) ⟨SLe.of_eq rfl, SLe.of_eq rfl, True.intro⟩ rfl ?_; rintro _ _ ⟨rfl, rfl⟩; refine ⟨rfl, ?_⟩))
        all_goals exact ⟨i + 1, [], ⟨hlt, hnx hx⟩, by omega, rfl, ⟨sle_i hi1, sle_i rfl, sle_sl rfl, sle_ptr, sle_i rfl, True.intro⟩, HLe.cons 2 rfl (HOLe.refl _) .nil⟩
      · have hx : nf new[i] = false := by rw [hNi]; exact beq_eq_false_iff_ne.2 he
        have hal : new.all nf = false := by
          rw [List.all_eq_false]
          exact ⟨new[i], List.getElem_mem hlt, by rw [hx]; decide⟩
        rw [hal] at hW
        subst hW
        repeat' (first | refine Awp.seq ?_ | refine Awp.block ?_ | refine Awp.region ?_ | (refine Ops.nil ?_; show Awp _ _ _ _ _) | (refine Awp.skip ?_; show Awp _ _ _ _ _) | (refine Awp.ret ?_; show endK _ _ _ _ _) | (refine o_calm rfl TtOk rfl rfl rfl ?_ (fun _ => ?_); exact nd) | refine o_alloc (d := 8) rfl TtOk rfl rfl rfl (fun b8 => ?_) | refine o_store TtOk rfl rfl rfl rfl rfl rfl rfl ⟨rfl, rfl⟩ rfl rfl rfl rfl rfl ?_ | (refine o_index rfl TtOk rfl rfl rfl rfl rfl rfl ?_ (getq_nat ?_) ?_; omega; omega) | (refine a_condP rfl (fun hc => ?_) (fun hc => ?_)) <;> (try (exfalso; omega)) | (refine a_condN rfl (fun hc => ?_) (fun hc => ?_)) <;> (try (exfalso; omega)) | (refine o_call0 rfl (hcn) ⟨SLe.of_eq rfl, SLe.of_eq rfl, True.intro⟩ rfl ?_; rintro _ _ ⟨rfl, rfl⟩; refine ⟨rfl, ?_⟩))
        all_goals exact end_tmp rfl rfl rfl [] [] (CLe.of_eq rfl) .nil ⟨rfl, rfl⟩ _ (.inl rfl)
  · have hal : new.all nf = true := by
      rw [List.all_eq_true]
      intro g hgm
      obtain ⟨j, hj, rfl⟩ := List.getElem_of_mem hgm
      exact hin j hj (by omega)
    rw [hal] at hW
    subst hW
    repeat' (first | refine Awp.seq ?_ | refine Awp.region ?_ | (refine Ops.nil ?_; show Awp _ _ _ _ _) | (refine Awp.exit ?_; show Awp _ _ _ _ _) | (refine Awp.ret ?_; show endK _ _ _ _ _) | (refine o_calm rfl TtOk rfl rfl rfl ?_ (fun _ => ?_); exact nd) | (refine a_condP rfl (fun hc => ?_) (fun hc => ?_)) <;> (try (exfalso; omega)))
    all_goals exact end_tmp rfl rfl rfl [] [] (CLe.of_eq rfl) .nil ⟨rfl, rfl⟩ _ (.inl rfl)
end Go.Proofs.YtcmgpkibjdbonaaGreat
