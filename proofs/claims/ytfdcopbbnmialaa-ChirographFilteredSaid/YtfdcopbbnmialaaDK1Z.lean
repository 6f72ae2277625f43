/- disk.good, deed, Dead by rules. -/
import Derived.Test.YtfdcopbbnmialaaV45Z
import Derived.Test.YtfdcopbbnmialaaTypes
set_option maxHeartbeats 8000000
set_option maxRecDepth 100000
namespace Go.Proofs.Ytfdcopbbnmialaa
open Go Go.RowKit
def goodN (s : List UInt8) : Bool := s != [] && decide (s.length ≤ 100)
theorem dgood_spec (s : List UInt8) (hs : s.length ≤ 9223372036854775807) : Spec Try.prog 29 [.s s] [] (fun v os => v = .b (goodN s) ∧ os = []) := by
  refine spec_of TtOk [] Try.func29 rfl Try.ntmps29 (by kernel_rfl) rfl rfl (fun C => ?_) rfl
  by_cases h0 : s = []
  · have hq : (!(s == (⟨#[]⟩ : ByteArray).data.toList)) = false := by rw [h0]; rfl
    have hg : goodN s = false := by rw [h0]; rfl
    rw [hg]
    repeat' (first | (rw [hq]) | refine Awp.seq ?_ | refine Awp.region ?_ | (refine Ops.nil ?_; show Awp _ _ _ _ _) | (refine Awp.ret ?_; show endK _ _ _ _ _) | refine o_noT rfl rfl rfl ?_ | (refine o_calm rfl TtOk rfl rfl rfl ?_ (fun _ => ?_); first | exact True.intro | exact ⟨rfl, rfl, rfl, rfl⟩ | exact ⟨rfl, True.intro⟩ | exact ⟨rfl, rfl⟩ | exact ⟨rfl, rfl, rfl⟩ | exact rfl | exact ⟨fun h0 => by cases h0, rfl⟩ | exact (fun h0 => by cases h0) | exact ⟨rfl, by omega⟩ | exact ⟨Nat.succ_ne_zero _, rfl⟩ | omega))
    all_goals exact end_tmp rfl rfl rfl [] [] (CLe.of_eq rfl) .nil ⟨rfl, rfl⟩ _ (.inl rfl)
  · have hq : (!(s == (⟨#[]⟩ : ByteArray).data.toList)) = true := by
      rw [show (⟨#[]⟩ : ByteArray).data.toList = ([] : List UInt8) from rfl, beq_eq_false_iff_ne.2 h0]; rfl
    have hg : goodN s = decide ((s.length : Int) ≤ 100) := by
      unfold goodN
      rw [bne_iff_ne.2 h0, Bool.true_and]
      by_cases h1 : s.length ≤ 100
      · rw [decide_eq_true h1, decide_eq_true (by omega)]
      · rw [decide_eq_false h1, decide_eq_false (by omega)]
    rw [hg]
    repeat' (first | (rw [hq]) | refine Awp.seq ?_ | refine Awp.region ?_ | (refine Ops.nil ?_; show Awp _ _ _ _ _) | (refine Awp.ret ?_; show endK _ _ _ _ _) | (refine o_calm rfl TtOk rfl rfl rfl ?_ (fun _ => ?_); first | exact True.intro | exact ⟨rfl, rfl, rfl, rfl⟩ | exact ⟨rfl, True.intro⟩ | exact ⟨rfl, rfl⟩ | exact ⟨rfl, rfl, rfl⟩ | exact rfl | exact ⟨fun h0 => by cases h0, rfl⟩ | exact (fun h0 => by cases h0) | exact ⟨rfl, by omega⟩ | exact ⟨Nat.succ_ne_zero _, rfl⟩ | omega))
    all_goals exact end_tmp rfl rfl rfl [] [] (CLe.of_eq rfl) .nil ⟨rfl, rfl⟩ _ (.inl rfl)
def deedR (fuse : Int) (dead : Bool) : Bool × Int × Int × Bool :=
  if dead = true then (false, 10, fuse, dead) else if fuse = 0 then (true, 10, fuse, true) else if 0 < fuse then (true, 0, fuse - 1, dead) else (true, 0, fuse, dead)
theorem deed_spec (b : Nat) (room fuse : Int) (u : Value) (dead : Bool) (hf : fuse < 9223372036854775808) : Spec Try.prog 31 [.ptr 0 b [] 0] [.var b (.agg [.i .i64 room, .own 1 u, .i .i64 fuse, .b dead])] (fun v os => v = .tup [.b (deedR fuse dead).1, .i .i64 (deedR fuse dead).2.1] ∧ os = [.var b (.agg [.i .i64 room, .own 1 u, .i .i64 (deedR fuse dead).2.2.1, .b (deedR fuse dead).2.2.2])]) := by
  refine spec_of TtOk [(0, .var b (.agg [.i .i64 room, .own 1 u, .i .i64 fuse, .b dead]))] Try.func31 rfl Try.ntmps31 (by kernel_rfl) rfl rfl (fun C => ?_) rfl
  unfold deedR
  cases dead
  case true =>
    rw [if_pos rfl]
    repeat' (first | refine Awp.seq ?_ | refine Awp.block ?_ | refine Awp.region ?_ | (refine Ops.nil ?_; show Awp _ _ _ _ _) | (refine Awp.ret ?_; show endK _ _ _ _ _) | (refine o_calm rfl TtOk rfl rfl rfl ?_ (fun _ => ?_); first | exact True.intro | exact ⟨rfl, rfl, rfl, rfl⟩ | exact ⟨rfl, True.intro⟩ | exact ⟨rfl, rfl⟩ | exact ⟨rfl, rfl, rfl⟩ | exact rfl | exact ⟨fun h0 => by cases h0, rfl⟩ | exact (fun h0 => by cases h0) | exact ⟨rfl, by omega⟩ | exact ⟨Nat.succ_ne_zero _, rfl⟩ | omega) | refine a_condT rfl ?_)
    all_goals
      refine end_all [] [(0, _)] (.tup [.b false, .i .i64 10]) rfl ?_ ?_ (rle_tup2 (CLe.of_eq rfl) (CLe.of_eq rfl) rfl rfl) (HLe.cons 0 rfl (HOLe.refl _) .nil) ⟨rfl, rfl⟩ _ (.inl rfl)
      · repeat' (first | exact True.intro | exact rfl | refine ⟨?_, ?_⟩)
      · exact ⟨trivial, trivial, trivial⟩
  rw [if_neg (by decide)]
  by_cases h0 : fuse = 0
  · rw [if_pos h0]
    repeat' (first | refine Awp.seq ?_ | refine Awp.block ?_ | refine Awp.region ?_ | (refine Ops.nil ?_; show Awp _ _ _ _ _) | (refine Awp.ret ?_; show endK _ _ _ _ _) | (refine o_calm rfl TtOk rfl rfl rfl ?_ (fun _ => ?_); first | exact True.intro | exact ⟨rfl, rfl, rfl, rfl⟩ | exact ⟨rfl, True.intro⟩ | exact ⟨rfl, rfl⟩ | exact ⟨rfl, rfl, rfl⟩ | exact rfl | exact ⟨fun h0 => by cases h0, rfl⟩ | exact (fun h0 => by cases h0) | exact ⟨rfl, by omega⟩ | exact ⟨Nat.succ_ne_zero _, rfl⟩ | omega) | refine o_store TtOk rfl rfl rfl rfl rfl rfl rfl ⟨rfl, rfl⟩ rfl rfl rfl rfl rfl ?_ | refine a_condF rfl ?_ | (refine a_condP rfl (fun hc => ?_) (fun hc => ?_)) <;> (try (exfalso; omega)))
    all_goals
      refine end_all [] [(0, _)] (.tup [.b true, .i .i64 10]) rfl ?_ ?_ (rle_tup2 (CLe.of_eq rfl) (CLe.of_eq rfl) rfl rfl) (HLe.cons 0 rfl (HOLe.refl _) .nil) ⟨rfl, rfl⟩ _ (.inl rfl)
      · repeat' (first | exact True.intro | exact rfl | refine ⟨?_, ?_⟩)
      · exact ⟨trivial, trivial, trivial⟩
  rw [if_neg h0]
  by_cases h1 : 0 < fuse
  · rw [if_pos h1]
    repeat' (first | refine Awp.seq ?_ | refine Awp.block ?_ | refine Awp.region ?_ | (refine Ops.nil ?_; show Awp _ _ _ _ _) | (refine Awp.ret ?_; show endK _ _ _ _ _) | (refine o_sub rfl rfl rfl rfl ?_ ?_; omega) | (refine o_calm rfl TtOk rfl rfl rfl ?_ (fun _ => ?_); first | exact True.intro | exact ⟨rfl, rfl, rfl, rfl⟩ | exact ⟨rfl, True.intro⟩ | exact ⟨rfl, rfl⟩ | exact ⟨rfl, rfl, rfl⟩ | exact rfl | exact ⟨fun h0 => by cases h0, rfl⟩ | exact (fun h0 => by cases h0) | exact ⟨rfl, by omega⟩ | exact ⟨Nat.succ_ne_zero _, rfl⟩ | omega) | refine o_store TtOk rfl rfl rfl rfl rfl rfl rfl ⟨rfl, rfl⟩ rfl rfl rfl rfl rfl ?_ | refine a_condF rfl ?_ | (refine a_condP rfl (fun hc => ?_) (fun hc => ?_)) <;> (try (exfalso; omega)))
    all_goals
      refine end_all [] [(0, _)] (.tup [.b true, .i .i64 0]) rfl ?_ ?_ (rle_tup2 (CLe.of_eq rfl) (CLe.of_eq rfl) rfl rfl) (HLe.cons 0 rfl (HOLe.refl _) .nil) ⟨rfl, rfl⟩ _ (.inl rfl)
      · repeat' (first | exact True.intro | exact rfl | refine ⟨?_, ?_⟩)
      · exact ⟨trivial, trivial, trivial⟩
  · rw [if_neg h1]
    repeat' (first | refine Awp.seq ?_ | refine Awp.block ?_ | refine Awp.region ?_ | (refine Ops.nil ?_; show Awp _ _ _ _ _) | (refine Awp.skip ?_; show Awp _ _ _ _ _) | (refine Awp.ret ?_; show endK _ _ _ _ _) | (refine o_calm rfl TtOk rfl rfl rfl ?_ (fun _ => ?_); first | exact True.intro | exact ⟨rfl, rfl, rfl, rfl⟩ | exact ⟨rfl, True.intro⟩ | exact ⟨rfl, rfl⟩ | exact ⟨rfl, rfl, rfl⟩ | exact rfl | exact ⟨fun h0 => by cases h0, rfl⟩ | exact (fun h0 => by cases h0) | exact ⟨rfl, by omega⟩ | exact ⟨Nat.succ_ne_zero _, rfl⟩ | omega) | refine a_condF rfl ?_ | (refine a_condP rfl (fun hc => ?_) (fun hc => ?_)) <;> (try (exfalso; omega)))
    all_goals
      refine end_all [] [(0, _)] (.tup [.b true, .i .i64 0]) rfl ?_ ?_ (rle_tup2 (CLe.of_eq rfl) (CLe.of_eq rfl) rfl rfl) (HLe.cons 0 rfl (HOLe.refl _) .nil) ⟨rfl, rfl⟩ _ (.inl rfl)
      · repeat' (first | exact True.intro | exact rfl | refine ⟨?_, ?_⟩)
      · exact ⟨trivial, trivial, trivial⟩
end Go.Proofs.Ytfdcopbbnmialaa
set_option maxHeartbeats 8000000
set_option maxRecDepth 100000
namespace Go.Proofs.Ytfdcopbbnmialaa
open Go Go.RowKit
theorem es_lt {D : Dsk} (h : D.ok) : ∀ e ∈ D.es, e.2.2 < D.clk := fun e he => by
  obtain ⟨f, hf, rfl⟩ := List.mem_map.1 he
  exact h.lt f hf
theorem es_nl {D : Dsk} (h : D.ok) : ∀ e ∈ D.es, e.1.length ≤ maxLen := fun e he => by
  obtain ⟨f, hf, rfl⟩ := List.mem_map.1 he
  exact Nat.le_trans (h.nl f hf) (by decide)
theorem es_bn {D : Dsk} (h : D.ok) : (D.es.map (·.2.2)).Nodup := by
  have := h.bn
  unfold Dsk.es
  rw [List.map_map]
  exact this
theorem used_spec (bd bm : Nat) (D : Dsk) (ok : D.ok) (hu : D.used ≤ 4398046511104) : Spec Try.prog 30 [.ptr 0 bd [] 0] (dskL bd bm D) (fun v os => v = .i .i64 (D.used : Nat) ∧ os = dskL bd bm D) := by
  have hold := es_lt ok
  have hkl := es_nl ok
  have hnd := es_bn ok
  show Spec Try.prog 30 [.ptr 0 bd [] 0] [.var bd (.agg [.i .i64 D.room, .own 1 (.map (some bm)), .i .i64 D.fuse, .b D.dead]), .obj bm (mpO D.es D.clk), grpL (D.fs.map Fil.O)] _
  refine spec_of TtOk [(0, .var bd (.agg [.i .i64 D.room, .own 1 (.map (some bm)), .i .i64 D.fuse, .b D.dead])), (1, .obj bm (mpO D.es D.clk)), (2, grpL (D.fs.map Fil.O))] Try.func30 rfl Try.ntmps30 (by kernel_rfl) rfl rfl (fun C => ?_) rfl
  repeat' (first | refine Awp.seq ?_ | refine Awp.block ?_ | refine Awp.region ?_ | (refine Ops.nil ?_; show Awp _ _ _ _ _) | (refine o_calm rfl TtOk rfl rfl rfl ?_ (fun _ => ?_); first | exact True.intro | exact ⟨rfl, rfl, rfl, rfl⟩ | exact ⟨rfl, True.intro⟩ | exact ⟨rfl, rfl⟩ | exact ⟨rfl, rfl, rfl⟩ | exact rfl | exact ⟨fun h0 => by cases h0, rfl⟩ | exact (fun h0 => by cases h0) | exact ⟨rfl, by omega⟩ | exact ⟨Nat.succ_ne_zero _, rfl⟩ | omega) | (refine o_rangeP TtOk rfl rfl rfl rfl rfl (fun r => ?_)))
  refine Awp.loop (fun q : List Fil => ⟨23, [(3, .i .i64 (usedF q : Nat)), (10, .ptr 10 r [] 0)], [(0, .var bd (.agg [.i .i64 D.room, .own 1 (.map (some bm)), .i .i64 D.fuse, .b D.dead])), (1, .obj bm (mpO D.es D.clk)), (2, grpL (D.fs.map Fil.O)), (10, .obj r (itO bm D.clk (q.map Fil.e)))]⟩) (fun q => ∃ l, (q ++ l).Perm D.fs) (fun q => D.fs.length - q.length) [] [] ⟨D.fs, List.Perm.refl _⟩ ?_ ?_
  · exact ⟨rfl, ⟨sle_i rfl, sle_ptr, True.intro⟩, HLe.cons 0 rfl (HOLe.refl _) (HLe.cons 1 rfl (HOLe.refl _) (HLe.cons 2 rfl (HOLe.refl _) (HLe.cons 10 rfl (HOLe.refl _) .nil)))⟩
  rintro q ⟨l, hq⟩
  repeat' (first | refine Awp.seq ?_ | refine Awp.block ?_ | refine Awp.region ?_ | (refine Ops.nil ?_; show Awp _ _ _ _ _) | (refine Awp.skip ?_; show Awp _ _ _ _ _) | (refine Awp.exit ?_; show Awp _ _ _ _ _) | (refine Awp.ret ?_; show endK _ _ _ _ _) | (refine o_calm rfl TtOk rfl rfl rfl ?_ (fun _ => ?_); first | exact True.intro | exact ⟨rfl, rfl, rfl, rfl⟩ | exact ⟨rfl, True.intro⟩ | exact ⟨rfl, rfl⟩ | exact ⟨rfl, rfl, rfl⟩ | exact rfl | exact ⟨fun h0 => by cases h0, rfl⟩ | exact (fun h0 => by cases h0) | exact ⟨rfl, by omega⟩ | exact ⟨Nat.succ_ne_zero _, rfl⟩ | omega) | refine a_condT rfl ?_ | refine a_condF rfl ?_ | (refine o_nextP 3 (km := 1) rfl rfl rfl rfl hold hkl rfl rfl (fun e => rfl) (fun hnone => ?_) (fun e he hnv => ?_)) | (refine o_entryP 3 (km := 1) rfl rfl rfl rfl he hnd hkl rfl ?_))
  · have hl := fs_all hq ok.bn hnone
    subst hl
    rw [List.append_nil] at hq
    have hus : usedF q = D.used := usedF_perm hq
    rw [hus]
    refine end_all [] [(0, _), (1, _), (2, _)] (.i .i64 (D.used : Nat)) rfl ?_ ?_ (rle_one (CLe.of_eq rfl) rfl) (HLe.cons 0 rfl (HOLe.refl _) (HLe.cons 1 rfl (HOLe.refl _) (HLe.cons 2 rfl (HOLe.refl _) .nil))) ⟨rfl, rfl⟩ _ (.inl rfl)
    · repeat' (first | exact True.intro | exact rfl | refine ⟨?_, ?_⟩)
    · exact ⟨trivial, trivial⟩
  obtain ⟨f, l', rfl, hl, hfs⟩ := fs_pull hq ok.bn he hnv
  have hos : (D.fs.map Fil.O).Perm (HO.var f.blk (.agg [.sl 1 (f.b.map byA), .i .i64 f.sure]) :: (q ++ l').map Fil.O) := hfs.map Fil.O
  have hus : D.used = f.b.length + usedF (q ++ l') := by
    have := usedF_perm hfs
    rw [usedF_cons] at this
    exact this
  have hq2 : usedF (q ++ l') = usedF q + usedF l' := by unfold usedF; rw [List.map_append, List.sum_append]
  have hu1 : usedF (q ++ [f]) = usedF q + f.b.length := by unfold usedF; rw [List.map_append, List.sum_append]; rfl
  have hme : (q ++ [f]).map Fil.e = q.map Fil.e ++ [f.e] := by rw [List.map_append]; rfl
  have hlen : D.fs.length = (q ++ l').length + 1 := hfs.length_eq
  rw [List.length_append] at hlen
  refine Ops.pull 2 3 rfl hos rfl ?_
  refine o_calm rfl TtOk rfl rfl rfl ?_ (fun _ => ?_)
  · first | exact True.intro | exact ⟨rfl, rfl, rfl, rfl⟩ | exact ⟨rfl, rfl, rfl⟩ | exact ⟨rfl, rfl⟩ | exact ⟨rfl, True.intro⟩
  refine Ops.push 2 3 rfl rfl hos rfl ?_
  repeat' (first | (refine Ops.nil ?_; show Exists _) | (refine o_add rfl rfl rfl rfl ?_ ?_; omega) | refine o_len rfl TtOk rfl rfl rfl (fun _ => ?_) | (refine o_calm rfl TtOk rfl rfl rfl ?_ (fun _ => ?_); first | exact True.intro | exact ⟨rfl, rfl, rfl, rfl⟩ | exact ⟨rfl, True.intro⟩ | exact ⟨rfl, rfl⟩ | exact ⟨rfl, rfl, rfl⟩ | exact rfl | exact ⟨fun h0 => by cases h0, rfl⟩ | exact (fun h0 => by cases h0) | exact ⟨rfl, by omega⟩ | exact ⟨Nat.succ_ne_zero _, rfl⟩ | omega))
  exact ⟨q ++ [f], [], ⟨l', by
    rw [List.append_assoc]
    exact (List.perm_middle (l₁ := q) (l₂ := l') (a := f)).trans hfs.symm⟩, by show D.fs.length - (q ++ [f]).length < D.fs.length - q.length; rw [List.length_append, List.length_singleton]; omega, rfl, ⟨sle_i (by rw [hu1]; omega), sle_ptr, True.intro⟩, HLe.cons 0 rfl (HOLe.refl _) (HLe.cons 1 rfl (HOLe.refl _) (HLe.cons 2 rfl (HOLe.refl _) (HLe.cons 10 rfl (by show HOLe _ _ (.obj r (itO bm D.clk ((q ++ [f]).map Fil.e))); rw [hme]; exact HOLe.refl _) .nil)))⟩
end Go.Proofs.Ytfdcopbbnmialaa
namespace Go.Proofs.Ytfdcopbbnmialaa
open Go Go.RowKit
section
variable {m : OM} {P : Program} {T : List (Nat × TI)} {C : Ctx} {ops : Array Oper} {l : List Oper} {K : St → Prop} {n : Nat} {sl : List (Nat × AV)} {hp : List (Nat × HO)} {d : Nat} {ty : Nat} {pos : String} {aft : Array Edge} {gd : Option (Nat × Bool)}
theorem ptr_desc (hT : TTOk P T) {t e sz0 by0 : Nat} {z0 : AV} (ht : tget T t = some ⟨.ptr e, sz0, by0, z0⟩) : P.underlying t = some (.pointer (P.pointee t)) := by
  have hu : P.underlying t = some (.pointer e) := by
    obtain ⟨ds, hds, hk⟩ := (tget_ok hT ht).desc
    cases ds <;> simp [kOf] at hk; subst hk; exact hds
  rw [hu]; simp [Program.pointee, hu]
theorem nilp_val {w : World} {F : Nat → Prop} {v : Value} (h : repV w F .nilp v) : v = .pointer none := by
  obtain ⟨c2, hc2, h⟩ := h
  simp only [repC] at hc2
  subst hc2; exact h
/-- What a pointer is: of a thing that may be nil. -/
def ptV : AV → Option Value
  | .ptr _ b _ off => some (.pointer (some ⟨b, off, none⟩))
  | .nilp => some (.pointer none)
  | _ => none
def isNilp : AV → Bool
  | .nilp => true
  | _ => false
theorem pt_val {w : World} {F : Nat → Prop} {x : AV} {v u : Value} (h : repV w F x v) (hx : ptV x = some u) : v = u := by
  cases x <;> simp only [ptV, Option.some.injEq] at hx <;> try cases hx
  · rw [repV_ptr] at h; exact h
  · exact nilp_val h
theorem pt_none {x : AV} {o : Option Addr} (hx : ptV x = some (.pointer o)) : isNilp x = o.isNone := by
  cases x <;> simp only [ptV, Option.some.injEq, Value.pointer.injEq] at hx <;> try cases hx
  · rfl
  · rfl
theorem o_eqNilQ (hT : TTOk P T) (hw : gval ops ⟨n, sl, hp⟩ gd = gwant gd) {t u e : Nat} {x y : Operand} {a0 : AV} {o : Option Addr} {sz0 by0 : Nat} {z0 : AV}
    (hx : ev ⟨n, sl, hp⟩ x = a0) (hp0 : ptV a0 = some (.pointer o)) (hy : ev ⟨n, sl, hp⟩ y = .nilp) (ht : tget T t = some ⟨.ptr e, sz0, by0, z0⟩) (hd : Nat.blt d n = true)
    (h : Ops m P C ops l ⟨n, (d, .b (isNilp a0)) :: sl, hp⟩ K) : Ops m P C ops (⟨some d, .binOp .eql t x y u, ty, pos, aft, gd⟩ :: l) ⟨n, sl, hp⟩ K := by
  refine Ops.by (d := some d) hw none okc_none hd rfl (fun a w hs => ?_) h
  have Ex := ev_rep hs x
  have Ey := ev_rep hs y
  rw [hx] at Ex
  rw [hy] at Ey
  have Ex := pt_val Ex hp0
  have Ey := nilp_val Ey
  refine ⟨.bool (isNilp a0), repV_b.2 rfl, fun w' _ => ?_⟩
  have hr := run_eql_pointer_nil (P := P) (w := w') t o (ptr_desc hT ht)
  have hg : (eqGuard .eql t x y (.pointer o) (.pointer none)).run P w' = .ok () w' := by simp [eqGuard]
  simp only [execOp, Ex, Ey, Sem.run_bind, hg, hr, Result.andThen_ok, Sem.run_pure]
  rw [pt_none hp0]
theorem o_neNilQ (hT : TTOk P T) (hw : gval ops ⟨n, sl, hp⟩ gd = gwant gd) {t u e : Nat} {x y : Operand} {a0 : AV} {o : Option Addr} {sz0 by0 : Nat} {z0 : AV}
    (hx : ev ⟨n, sl, hp⟩ x = a0) (hp0 : ptV a0 = some (.pointer o)) (hy : ev ⟨n, sl, hp⟩ y = .nilp) (ht : tget T t = some ⟨.ptr e, sz0, by0, z0⟩) (hd : Nat.blt d n = true)
    (h : Ops m P C ops l ⟨n, (d, .b (!isNilp a0)) :: sl, hp⟩ K) : Ops m P C ops (⟨some d, .binOp .neq t x y u, ty, pos, aft, gd⟩ :: l) ⟨n, sl, hp⟩ K := by
  refine Ops.by (d := some d) hw none okc_none hd rfl (fun a w hs => ?_) h
  have Ex := ev_rep hs x
  have Ey := ev_rep hs y
  rw [hx] at Ex
  rw [hy] at Ey
  have Ex := pt_val Ex hp0
  have Ey := nilp_val Ey
  refine ⟨.bool (!isNilp a0), repV_b.2 rfl, fun w' _ => ?_⟩
  have hr := run_neq_pointer_nil (P := P) (w := w') t o (ptr_desc hT ht)
  have hg : (eqGuard .neq t x y (.pointer o) (.pointer none)).run P w' = .ok () w' := by simp [eqGuard]
  simp only [execOp, Ex, Ey, Sem.run_bind, hg, hr, Result.andThen_ok, Sem.run_pure]
  rw [pt_none hp0]
end
end Go.Proofs.Ytfdcopbbnmialaa
