/- disk.Dead, New, Sync, Read by rules. -/
import Derived.Test.YtfdcopbbnmialaaDK1Z
import Derived.Test.YtfdcopbbnmialaaDK3
set_option maxHeartbeats 16000000
set_option maxRecDepth 100000
namespace Go.Proofs.Ytfdcopbbnmialaa
open Go Go.RowKit
theorem dead_spec (b : Nat) (room fuse : Int) (u : Value) (dead : Bool) : Spec Try.prog 12 [.ptr 0 b [] 0] [.var b (.agg [.i .i64 room, .own 1 u, .i .i64 fuse, .b dead])] (fun v os => v = .b dead ∧ os = [.var b (.agg [.i .i64 room, .own 1 u, .i .i64 fuse, .b dead])]) := by
  refine spec_of TtOk [(0, .var b (.agg [.i .i64 room, .own 1 u, .i .i64 fuse, .b dead]))] Try.func12 rfl Try.ntmps12 (by kernel_rfl) rfl rfl (fun C => ?_) rfl
  repeat' (first | refine Awp.seq ?_ | refine Awp.region ?_ | (refine Ops.nil ?_; show Awp _ _ _ _ _) | (refine Awp.ret ?_; show endK _ _ _ _ _) | (refine o_calm rfl TtOk rfl rfl rfl ?_ (fun _ => ?_); first | exact True.intro | exact ⟨rfl, rfl, rfl, rfl⟩ | exact ⟨rfl, True.intro⟩ | exact ⟨rfl, rfl⟩ | exact ⟨rfl, rfl, rfl⟩ | exact rfl | exact ⟨fun h0 => by cases h0, rfl⟩ | exact (fun h0 => by cases h0) | exact ⟨rfl, by omega⟩ | exact ⟨Nat.succ_ne_zero _, rfl⟩ | omega))
  exact end_tmp rfl rfl rfl [] [(0, _)] (CLe.of_eq rfl) (HLe.cons 0 rfl (HOLe.refl _) .nil) ⟨rfl, rfl⟩ _ (.inl rfl)
def newD (room : Int) : Dsk := ⟨if 0 > room then 0 else room, -1, false, [], 0⟩
theorem build_dsk (r : Int) (b : Nat) (w : World) : (Instr.build 43 #[(0, .int .i64 r), (1, .map (some b)), (2, .int .i64 (-1))]).run Try.prog w = .ok (.agg #[.int .i64 r, .map (some b), .int .i64 (-1), .bool false]) w := by kernel_rfl
theorem o_buildD {m : OM} {C : Ctx} {ops : Array Oper} {l : List Oper} {K : St → Prop} {n : Nat} {sl : List (Nat × AV)} {hp : List (Nat × HO)} {d : Nat} {ty : Nat} {pos : String} {aft : Array Edge} {gd : Option (Nat × Bool)} (hw : gval ops ⟨n, sl, hp⟩ gd = gwant gd) {x y z : Operand} {r : Int} {k b : Nat}
    (hx : ev ⟨n, sl, hp⟩ x = .i .i64 r) (hy : ev ⟨n, sl, hp⟩ y = .own k (.map (some b))) (hz : ev ⟨n, sl, hp⟩ z = .i .i64 (-1)) (hd : Nat.blt d n = true)
    (h : Ops m Try.prog C ops l ⟨n, (d, .agg [.i .i64 r, .own k (.map (some b)), .i .i64 (-1), .b false]) :: sl, hp⟩ K) : Ops m Try.prog C ops (⟨some d, .build 43 #[(0, x), (1, y), (2, z)], ty, pos, aft, gd⟩ :: l) ⟨n, sl, hp⟩ K := by
  refine Ops.by (d := some d) hw none okc_none hd rfl (fun a w hs => ?_) h
  have Ex := ev_rep hs x
  have Ey := ev_rep hs y
  have Ez := ev_rep hs z
  rw [hx, repV_i] at Ex
  rw [hy, repV_own] at Ey
  rw [hz, repV_i] at Ez
  refine ⟨.agg #[.int .i64 r, .map (some b), .int .i64 (-1), .bool false], ?_, fun w' _ => ?_⟩
  · refine ⟨[.int .i64 r, .map (some b), .int .i64 (-1), .bool false], ?_, rfl⟩
    simp only [repC, repL]
    exact ⟨[_], _, rfl, rfl, [_], _, rfl, ⟨rfl, rfl⟩, [_], _, rfl, rfl, [_], _, rfl, rfl, rfl⟩
  · have hrun := build_dsk r b w'
    simp only [execOp, Sem.run_bind, List.map_toArray, List.map_cons, List.map_nil, Ex, Ey.1, Ez, hrun, Result.andThen_ok, Sem.run_pure]
theorem dnew_spec (room : Int) : Spec Try.prog 4 [.i .i64 room] [] (fun v os => ∃ bd bm, v = .ptr 0 bd [] 0 ∧ os = dskL bd bm (newD room)) := by
  refine spec_of TtOk [] Try.func4 rfl Try.ntmps4 (by kernel_rfl) rfl rfl (fun C => ?_) rfl
  repeat' (first | refine Awp.seq ?_ | refine Awp.region ?_ | (refine Ops.nil ?_; show Awp _ _ _ _ _) | (refine Awp.ret ?_; show endK _ _ _ _ _) | (refine o_calm rfl TtOk rfl rfl rfl ?_ (fun _ => ?_); first | exact True.intro | exact ⟨rfl, rfl, rfl, rfl⟩ | exact ⟨rfl, True.intro⟩ | exact ⟨rfl, rfl⟩ | exact ⟨rfl, rfl, rfl⟩ | exact rfl | exact ⟨fun h0 => by cases h0, rfl⟩ | exact (fun h0 => by cases h0) | exact ⟨rfl, by omega⟩ | exact ⟨Nat.succ_ne_zero _, rfl⟩ | omega) | refine o_box (d := 7) rfl rfl rfl rfl (fun b7 => ?_) | (refine o_makeMap rfl rfl (fun bM => ?_)) | (refine o_buildD rfl rfl rfl rfl rfl ?_))
  all_goals
    refine end_all [] [(0, _), (1, _), (2, _)] (.ptr 0 b7 [] 0) rfl ?_ ?_ (rle_one CLe.ptr rfl) (HLe.cons 7 rfl (HOLe.var (CLe.agg (.cons (CLe.refl _) (.cons CLe.own (.cons (CLe.refl _) (.cons (CLe.refl _) .nil)))))) (HLe.cons 5 rfl (HOLe.refl _) (HLe.grp (ys := []) [] rfl trivial .nil))) ⟨b7, bM, rfl, rfl⟩ _ (.inl rfl)
    · repeat' (first | exact True.intro | exact rfl | refine ⟨?_, ?_⟩)
    · exact ⟨trivial, trivial⟩
def synF (l : List Fil) (nm : List UInt8) : List Fil := l.map (fun f => if f.nm = nm then Fil.mk f.nm f.blk f.born f.b f.b.length else f)
def synE (D : Dsk) (nm : List UInt8) : Int := if D.dead = false ∧ D.get nm = none then 7 else (deedR D.fuse D.dead).2.1
def synD (D : Dsk) (nm : List UInt8) : Dsk :=
  if D.dead = false ∧ D.get nm = none then D
  else ⟨D.room, (deedR D.fuse D.dead).2.2.1, (deedR D.fuse D.dead).2.2.2, if (deedR D.fuse D.dead).2.1 = 0 then synF D.fs nm else D.fs, D.clk⟩
theorem sync_spec (bd bm : Nat) (D : Dsk) (nm : List UInt8) (ok : D.ok) (hu : D.used ≤ 1099511627776) (hn : nm.length ≤ 9223372036854775807) (hf : D.fuse < 9223372036854775808) : Spec Try.prog 19 [.ptr 0 bd [] 0, .s nm] (dskL bd bm D) (fun v os => v = .i .i64 (synE D nm) ∧ os = dskL bd bm (synD D nm)) := by
  have k3 := deed_spec bd D.room D.fuse (.map (some bm)) D.dead hf
  have hget := blkP_get D nm
  have hL : dskL bd bm D = [.var bd (.agg [.i .i64 D.room, .own 1 (.map (some bm)), .i .i64 D.fuse, .b D.dead]), .obj bm (mpO D.es D.clk), grpL (D.fs.map Fil.O)] := rfl
  rw [hL]
  have hE : synE D nm = if D.dead = false ∧ D.get nm = none then 7 else (deedR D.fuse D.dead).2.1 := rfl
  have hD : synD D nm = if D.dead = false ∧ D.get nm = none then D else ⟨D.room, (deedR D.fuse D.dead).2.2.1, (deedR D.fuse D.dead).2.2.2, if (deedR D.fuse D.dead).2.1 = 0 then synF D.fs nm else D.fs, D.clk⟩ := rfl
  have hbg : D.dead = true → deedR D.fuse D.dead = (false, 10, D.fuse, true) := fun h => by unfold deedR; rw [if_pos h, h]
  have hbg2 : D.dead = false → (deedR D.fuse D.dead).1 = true := fun h => by
    unfold deedR
    rw [if_neg (by rw [h]; decide)]
    split
    · rfl
    · split <;> rfl
  generalize hR : deedR D.fuse D.dead = R at *
  obtain ⟨g, e, fu, d2⟩ := R
  dsimp only at hbg2 k3 hE hD
  cases hdd : D.dead
  case true =>
    have hb := hbg hdd
    simp only [Prod.mk.injEq] at hb
    obtain ⟨rfl, rfl, rfl, rfl⟩ := hb
    rw [hdd] at k3 hE hD
    rw [if_neg (fun h => by cases h.1)] at hE hD
    rw [hE]
    have hfin : dskL bd bm (synD D nm) = [.var bd (.agg [.i .i64 D.room, .own 1 (.map (some bm)), .i .i64 D.fuse, .b true]), .obj bm (mpO D.es D.clk), grpL (D.fs.map Fil.O)] := by rw [hD]; rfl
    refine spec_of TtOk [(0, .var bd (.agg [.i .i64 D.room, .own 1 (.map (some bm)), .i .i64 D.fuse, .b true])), (1, .obj bm (mpO D.es D.clk)), (2, grpL (D.fs.map Fil.O))] Try.func19 rfl Try.ntmps19 (by kernel_rfl) rfl rfl (fun C => ?_) rfl
    cases hgt : D.get nm with
    | none =>
      rw [hgt] at hget
      have hlk : pqA 3 (blkP nm D.es) = .nilp := by rw [hget]; rfl
      repeat' (first | refine Awp.seq ?_ | refine Awp.region ?_ | (refine Ops.nil ?_; show Awp _ _ _ _ _) | (refine Awp.skip ?_; show Awp _ _ _ _ _) | (refine Awp.ret ?_; show endK _ _ _ _ _) | refine o_noT rfl rfl rfl ?_ | (refine o_calm rfl TtOk rfl rfl rfl ?_ (fun _ => ?_); first | exact True.intro | exact ⟨rfl, rfl, rfl, rfl⟩ | exact ⟨rfl, True.intro⟩ | exact ⟨rfl, rfl⟩ | exact ⟨rfl, rfl, rfl⟩ | exact rfl | exact ⟨fun h0 => by cases h0, rfl⟩ | exact (fun h0 => by cases h0) | exact ⟨rfl, by omega⟩ | exact ⟨Nat.succ_ne_zero _, rfl⟩ | omega) | refine a_condT rfl ?_ | refine a_condF rfl ?_ | (refine o_lookupP 3 TtOk rfl rfl rfl rfl rfl rfl rfl hlk rfl ?_) | (refine o_call [] [0] [0] rfl k3 ⟨sle_ptr, True.intro⟩ rfl ⟨HOLe.refl _, True.intro⟩ rfl rfl ?_; rintro _ _ ⟨rfl, rfl⟩; refine ⟨_, rfl, rfl, ?_⟩))
      all_goals
        refine end_all [] [(0, _), (1, _), (2, _)] (.i .i64 10) rfl ?_ ?_ (rle_one (CLe.of_eq rfl) rfl) (HLe.cons 0 rfl (HOLe.refl _) (HLe.cons 1 rfl (HOLe.refl _) (HLe.cons 2 rfl (HOLe.refl _) .nil))) ⟨rfl, hfin.symm⟩ _ (.inl rfl)
        · repeat' (first | exact True.intro | exact rfl | refine ⟨?_, ?_⟩)
        · exact ⟨trivial, trivial⟩
    | some f =>
      rw [hgt] at hget
      have hlk : pqA 3 (blkP nm D.es) = .ptr 3 f.blk [] 0 := by rw [hget]; rfl
      repeat' (first | refine Awp.seq ?_ | refine Awp.region ?_ | (refine Ops.nil ?_; show Awp _ _ _ _ _) | (refine Awp.skip ?_; show Awp _ _ _ _ _) | (refine Awp.ret ?_; show endK _ _ _ _ _) | refine o_noT rfl rfl rfl ?_ | (refine o_calm rfl TtOk rfl rfl rfl ?_ (fun _ => ?_); first | exact True.intro | exact ⟨rfl, rfl, rfl, rfl⟩ | exact ⟨rfl, True.intro⟩ | exact ⟨rfl, rfl⟩ | exact ⟨rfl, rfl, rfl⟩ | exact rfl | exact ⟨fun h0 => by cases h0, rfl⟩ | exact (fun h0 => by cases h0) | exact ⟨rfl, by omega⟩ | exact ⟨Nat.succ_ne_zero _, rfl⟩ | omega) | refine a_condT rfl ?_ | refine a_condF rfl ?_ | (refine o_lookupP 3 TtOk rfl rfl rfl rfl rfl rfl rfl hlk rfl ?_) | (refine o_call [] [0] [0] rfl k3 ⟨sle_ptr, True.intro⟩ rfl ⟨HOLe.refl _, True.intro⟩ rfl rfl ?_; rintro _ _ ⟨rfl, rfl⟩; refine ⟨_, rfl, rfl, ?_⟩))
      all_goals
        refine end_all [] [(0, _), (1, _), (2, _)] (.i .i64 10) rfl ?_ ?_ (rle_one (CLe.of_eq rfl) rfl) (HLe.cons 0 rfl (HOLe.refl _) (HLe.cons 1 rfl (HOLe.refl _) (HLe.cons 2 rfl (HOLe.refl _) .nil))) ⟨rfl, hfin.symm⟩ _ (.inl rfl)
        · repeat' (first | exact True.intro | exact rfl | refine ⟨?_, ?_⟩)
        · exact ⟨trivial, trivial⟩
  have hg := hbg2 hdd
  subst hg
  rw [hdd] at k3 hE hD
  refine spec_of TtOk [(0, .var bd (.agg [.i .i64 D.room, .own 1 (.map (some bm)), .i .i64 D.fuse, .b false])), (1, .obj bm (mpO D.es D.clk)), (2, grpL (D.fs.map Fil.O))] Try.func19 rfl Try.ntmps19 (by kernel_rfl) rfl rfl (fun C => ?_) rfl
  cases hgt : D.get nm with
  | none =>
    rw [hgt] at hget
    rw [if_pos ⟨rfl, hgt⟩] at hE hD
    rw [hE]
    have hfin : dskL bd bm (synD D nm) = [.var bd (.agg [.i .i64 D.room, .own 1 (.map (some bm)), .i .i64 D.fuse, .b false]), .obj bm (mpO D.es D.clk), grpL (D.fs.map Fil.O)] := by rw [hD, hL, hdd]
    have hlk : pqA 3 (blkP nm D.es) = .nilp := by rw [hget]; rfl
    repeat' (first | refine Awp.seq ?_ | refine Awp.region ?_ | (refine Ops.nil ?_; show Awp _ _ _ _ _) | (refine Awp.ret ?_; show endK _ _ _ _ _) | (refine o_calm rfl TtOk rfl rfl rfl ?_ (fun _ => ?_); first | exact True.intro | exact ⟨rfl, rfl, rfl, rfl⟩ | exact ⟨rfl, True.intro⟩ | exact ⟨rfl, rfl⟩ | exact ⟨rfl, rfl, rfl⟩ | exact rfl | exact ⟨fun h0 => by cases h0, rfl⟩ | exact (fun h0 => by cases h0) | exact ⟨rfl, by omega⟩ | exact ⟨Nat.succ_ne_zero _, rfl⟩ | omega) | refine a_condT rfl ?_ | (refine o_lookupP 3 TtOk rfl rfl rfl rfl rfl rfl rfl hlk rfl ?_) | (refine o_eqNilQ TtOk rfl rfl rfl rfl rfl rfl ?_))
    all_goals
      refine end_all [] [(0, _), (1, _), (2, _)] (.i .i64 7) rfl ?_ ?_ (rle_one (CLe.of_eq rfl) rfl) (HLe.cons 0 rfl (HOLe.refl _) (HLe.cons 1 rfl (HOLe.refl _) (HLe.cons 2 rfl (HOLe.refl _) .nil))) ⟨rfl, hfin.symm⟩ _ (.inl rfl)
      · repeat' (first | exact True.intro | exact rfl | refine ⟨?_, ?_⟩)
      · exact ⟨trivial, trivial⟩
  | some f =>
    rw [hgt] at hget
    rw [if_neg (fun h => by rw [hgt] at h; cases h.2)] at hE hD
    rw [hE]
    have hlk : pqA 3 (blkP nm D.es) = .ptr 3 f.blk [] 0 := by rw [hget]; rfl
    by_cases he : e = 0
    · subst he
      rw [if_pos rfl] at hD
      obtain ⟨hfm, hfn⟩ := get_mem hgt
      obtain ⟨s, r, hst⟩ := List.append_of_mem hfm
      have hpm : D.fs.Perm (f :: (s ++ r)) := by rw [hst]; exact List.perm_middle
      have hos1 : (D.fs.map Fil.O).Perm (HO.var f.blk (.agg [.sl 1 (f.b.map byA), .i .i64 f.sure]) :: (s ++ r).map Fil.O) := hpm.map Fil.O
      have hne : ∀ x ∈ s ++ r, x.nm ≠ nm := fun x hx he => by
        have hnd := (hpm.map (·.nm)).nodup_iff.1 ok.nd
        rw [List.map_cons, List.nodup_cons] at hnd
        exact hnd.1 (List.mem_map.2 ⟨x, hx, by rw [he, hfn]⟩)
      have hA : synF D.fs nm = s ++ Fil.mk f.nm f.blk f.born f.b f.b.length :: r := by
        unfold synF
        rw [hst, List.map_append, List.map_cons, if_pos hfn, map_id_of (fun x hx => if_neg (hne x (List.mem_append_left _ hx))), map_id_of (fun x hx => if_neg (hne x (List.mem_append_right _ hx)))]
      have hes : (s ++ Fil.mk f.nm f.blk f.born f.b f.b.length :: r).map Fil.e = D.es := by
        unfold Dsk.es
        rw [hst, List.map_append, List.map_append, List.map_cons, List.map_cons]; rfl
      have hfin : dskL bd bm (synD D nm) = [.var bd (.agg [.i .i64 D.room, .own 1 (.map (some bm)), .i .i64 fu, .b d2]), .obj bm (mpO D.es D.clk), grpL ((s ++ Fil.mk f.nm f.blk f.born f.b f.b.length :: r).map Fil.O)] := by
        rw [hD, hA]
        show [_, HO.obj bm (mpO ((s ++ Fil.mk f.nm f.blk f.born f.b f.b.length :: r).map Fil.e) D.clk), _] = _
        rw [hes]; rfl
      have hos2 : ((s ++ Fil.mk f.nm f.blk f.born f.b f.b.length :: r).map Fil.O).Perm (HO.var f.blk (.agg [.sl 1 (f.b.map byA), .i .i64 (f.b.length : Nat)]) :: (s ++ r).map Fil.O) := (List.perm_middle (l₁ := s) (l₂ := r)).map Fil.O
      repeat' (first | refine Awp.seq ?_ | refine Awp.region ?_ | (refine Ops.nil ?_; show Awp _ _ _ _ _) | (refine Awp.skip ?_; show Awp _ _ _ _ _) | (refine o_calm rfl TtOk rfl rfl rfl ?_ (fun _ => ?_); first | exact True.intro | exact ⟨rfl, rfl, rfl, rfl⟩ | exact ⟨rfl, True.intro⟩ | exact ⟨rfl, rfl⟩ | exact ⟨rfl, rfl, rfl⟩ | exact rfl | exact ⟨fun h0 => by cases h0, rfl⟩ | exact (fun h0 => by cases h0) | exact ⟨rfl, by omega⟩ | exact ⟨Nat.succ_ne_zero _, rfl⟩ | omega) | refine o_eqNil TtOk rfl rfl rfl rfl rfl ?_ | refine a_condF rfl ?_ | (refine o_lookupP 3 TtOk rfl rfl rfl rfl rfl rfl rfl hlk rfl ?_) | (refine o_call [] [0] [0] rfl k3 ⟨sle_ptr, True.intro⟩ rfl ⟨HOLe.refl _, True.intro⟩ rfl rfl ?_; rintro _ _ ⟨rfl, rfl⟩; refine ⟨_, rfl, rfl, ?_⟩))
      all_goals
        refine Ops.pull 2 3 rfl hos1 rfl ?_
        repeat' (first | refine Awp.seq ?_ | refine Awp.region ?_ | (refine Ops.nil ?_; show Awp _ _ _ _ _) | (refine Awp.ret ?_; show endK _ _ _ _ _) | refine o_len rfl TtOk rfl rfl rfl (fun _ => ?_) | (refine o_calm rfl TtOk rfl rfl rfl ?_ (fun _ => ?_); first | exact True.intro | exact ⟨rfl, rfl, rfl, rfl⟩ | exact ⟨rfl, True.intro⟩ | exact ⟨rfl, rfl⟩ | exact ⟨rfl, rfl, rfl⟩ | exact rfl | exact ⟨fun h0 => by cases h0, rfl⟩ | exact (fun h0 => by cases h0) | exact ⟨rfl, by omega⟩ | exact ⟨Nat.succ_ne_zero _, rfl⟩ | omega) | refine o_store TtOk rfl rfl rfl rfl rfl rfl rfl ⟨rfl, rfl⟩ rfl rfl rfl rfl rfl ?_)
        refine end_all [] [(0, _), (1, _), (2, _)] (.i .i64 0) rfl ?_ ?_ (rle_one (CLe.of_eq rfl) rfl) (HLe.cons 0 rfl (HOLe.refl _) (HLe.cons 1 rfl (HOLe.refl _) (HLe.push 3 2 rfl (HOLe.refl _) rfl hos2 .nil))) ⟨rfl, hfin.symm⟩ _ (.inl rfl)
        · repeat' (first | exact True.intro | exact rfl | refine ⟨?_, ?_⟩)
        · exact ⟨trivial, trivial⟩
    · rw [if_neg he] at hD
      have hfin : dskL bd bm (synD D nm) = [.var bd (.agg [.i .i64 D.room, .own 1 (.map (some bm)), .i .i64 fu, .b d2]), .obj bm (mpO D.es D.clk), grpL (D.fs.map Fil.O)] := by rw [hD]; rfl
      repeat' (first | refine Awp.seq ?_ | refine Awp.region ?_ | (refine Ops.nil ?_; show Awp _ _ _ _ _) | (refine Awp.skip ?_; show Awp _ _ _ _ _) | (refine Awp.ret ?_; show endK _ _ _ _ _) | (refine o_calm rfl TtOk rfl rfl rfl ?_ (fun _ => ?_); first | exact True.intro | exact ⟨rfl, rfl, rfl, rfl⟩ | exact ⟨rfl, True.intro⟩ | exact ⟨rfl, rfl⟩ | exact ⟨rfl, rfl, rfl⟩ | exact rfl | exact ⟨fun h0 => by cases h0, rfl⟩ | exact (fun h0 => by cases h0) | exact ⟨rfl, by omega⟩ | exact ⟨Nat.succ_ne_zero _, rfl⟩ | omega) | refine o_eqNil TtOk rfl rfl rfl rfl rfl ?_ | refine a_condF rfl ?_ | (refine a_condN rfl (fun hc => ?_) (fun hc => ?_)) <;> (try (exfalso; omega)) | (refine o_lookupP 3 TtOk rfl rfl rfl rfl rfl rfl rfl hlk rfl ?_) | (refine o_call [] [0] [0] rfl k3 ⟨sle_ptr, True.intro⟩ rfl ⟨HOLe.refl _, True.intro⟩ rfl rfl ?_; rintro _ _ ⟨rfl, rfl⟩; refine ⟨_, rfl, rfl, ?_⟩))
      all_goals
        refine end_all [] [(0, _), (1, _), (2, _)] (.i .i64 e) rfl ?_ ?_ (rle_one (CLe.of_eq rfl) rfl) (HLe.cons 0 rfl (HOLe.refl _) (HLe.cons 1 rfl (HOLe.refl _) (HLe.cons 2 rfl (HOLe.refl _) .nil))) ⟨rfl, hfin.symm⟩ _ (.inl rfl)
        · repeat' (first | exact True.intro | exact rfl | refine ⟨?_, ?_⟩)
        · exact ⟨trivial, trivial⟩
def rdE (D : Dsk) (nm : List UInt8) : List UInt8 × Int := if D.dead = true then ([], 10) else match D.get nm with
  | some f => (f.b, 0)
  | none => ([], 7)
theorem dread_spec (bd bm : Nat) (D : Dsk) (nm : List UInt8) (hu : D.used ≤ 1099511627776) (hn : nm.length ≤ 9223372036854775807) : Spec Try.prog 14 [.ptr 0 bd [] 0, .s nm] (dskL bd bm D) (fun v os => v = .tup [.s (rdE D nm).1, .i .i64 (rdE D nm).2] ∧ os = dskL bd bm D) := by
  have hget := blkP_get D nm
  have hL : dskL bd bm D = [.var bd (.agg [.i .i64 D.room, .own 1 (.map (some bm)), .i .i64 D.fuse, .b D.dead]), .obj bm (mpO D.es D.clk), grpL (D.fs.map Fil.O)] := rfl
  rw [hL]
  refine spec_of TtOk [(0, .var bd (.agg [.i .i64 D.room, .own 1 (.map (some bm)), .i .i64 D.fuse, .b D.dead])), (1, .obj bm (mpO D.es D.clk)), (2, grpL (D.fs.map Fil.O))] Try.func14 rfl Try.ntmps14 (by kernel_rfl) rfl rfl (fun C => ?_) rfl
  obtain ⟨W, hW⟩ : ∃ W, rdE D nm = W := ⟨_, rfl⟩
  rw [hW]
  unfold rdE at hW
  generalize hdd : D.dead = dd at *
  cases dd
  case true =>
    rw [if_pos rfl] at hW
    subst hW
    repeat' (first | refine Awp.seq ?_ | refine Awp.region ?_ | (refine Ops.nil ?_; show Awp _ _ _ _ _) | (refine Awp.ret ?_; show endK _ _ _ _ _) | (refine o_calm rfl TtOk rfl rfl rfl ?_ (fun _ => ?_); first | exact True.intro | exact ⟨rfl, rfl, rfl, rfl⟩ | exact ⟨rfl, True.intro⟩ | exact ⟨rfl, rfl⟩ | exact ⟨rfl, rfl, rfl⟩ | exact rfl | exact ⟨fun h0 => by cases h0, rfl⟩ | exact (fun h0 => by cases h0) | exact ⟨rfl, by omega⟩ | exact ⟨Nat.succ_ne_zero _, rfl⟩ | omega) | refine a_condT rfl ?_)
    all_goals
      refine end_all [] [(0, _), (1, _), (2, _)] (.tup [.s [], .i .i64 10]) rfl ?_ ?_ (rle_tup2 (CLe.of_eq rfl) (CLe.of_eq rfl) rfl rfl) (HLe.cons 0 rfl (HOLe.refl _) (HLe.cons 1 rfl (HOLe.refl _) (HLe.cons 2 rfl (HOLe.refl _) .nil))) ⟨rfl, rfl⟩ _ (.inl rfl)
      · repeat' (first | exact True.intro | exact rfl | refine ⟨?_, ?_⟩)
      · exact ⟨trivial, trivial, trivial⟩
  rw [if_neg (by decide)] at hW
  cases hgt : D.get nm with
  | none =>
    rw [hgt] at hget hW
    have hW : (([] : List UInt8), (7 : Int)) = W := hW
    subst hW
    have hlk : pqA 3 (blkP nm D.es) = .nilp := by rw [hget]; rfl
    repeat' (first | refine Awp.seq ?_ | refine Awp.region ?_ | (refine Ops.nil ?_; show Awp _ _ _ _ _) | (refine Awp.skip ?_; show Awp _ _ _ _ _) | (refine Awp.ret ?_; show endK _ _ _ _ _) | (refine o_calm rfl TtOk rfl rfl rfl ?_ (fun _ => ?_); first | exact True.intro | exact ⟨rfl, rfl, rfl, rfl⟩ | exact ⟨rfl, True.intro⟩ | exact ⟨rfl, rfl⟩ | exact ⟨rfl, rfl, rfl⟩ | exact rfl | exact ⟨fun h0 => by cases h0, rfl⟩ | exact (fun h0 => by cases h0) | exact ⟨rfl, by omega⟩ | exact ⟨Nat.succ_ne_zero _, rfl⟩ | omega) | refine a_condF rfl ?_ | (refine o_lookupP 3 TtOk rfl rfl rfl rfl rfl rfl rfl hlk rfl ?_) | (refine o_neNilQ TtOk rfl rfl rfl rfl rfl rfl ?_))
    all_goals
      refine end_all [] [(0, _), (1, _), (2, _)] (.tup [.s [], .i .i64 7]) rfl ?_ ?_ (rle_tup2 (CLe.of_eq rfl) (CLe.of_eq rfl) rfl rfl) (HLe.cons 0 rfl (HOLe.refl _) (HLe.cons 1 rfl (HOLe.refl _) (HLe.cons 2 rfl (HOLe.refl _) .nil))) ⟨rfl, rfl⟩ _ (.inl rfl)
      · repeat' (first | exact True.intro | exact rfl | refine ⟨?_, ?_⟩)
      · exact ⟨trivial, trivial, trivial⟩
  | some f =>
    rw [hgt] at hget hW
    have hW : (f.b, (0 : Int)) = W := hW
    subst hW
    have hlk : pqA 3 (blkP nm D.es) = .ptr 3 f.blk [] 0 := by rw [hget]; rfl
    obtain ⟨hfm, hfn⟩ := get_mem hgt
    obtain ⟨s, r, hst⟩ := List.append_of_mem hfm
    have hpm : D.fs.Perm (f :: (s ++ r)) := by rw [hst]; exact List.perm_middle
    have hul : D.used = f.b.length + usedF (s ++ r) := by
      have := usedF_perm hpm
      rw [usedF_cons] at this
      exact this
    have hbl : f.b.length ≤ 9223372036854775807 := by omega
    have hos1 : (D.fs.map Fil.O).Perm (HO.var f.blk (.agg [.sl 1 (f.b.map byA), .i .i64 f.sure]) :: (s ++ r).map Fil.O) := hpm.map Fil.O
    repeat' (first | refine Awp.seq ?_ | refine Awp.region ?_ | (refine Ops.nil ?_; show Awp _ _ _ _ _) | (refine Awp.skip ?_; show Awp _ _ _ _ _) | (refine o_calm rfl TtOk rfl rfl rfl ?_ (fun _ => ?_); first | exact True.intro | exact ⟨rfl, rfl, rfl, rfl⟩ | exact ⟨rfl, True.intro⟩ | exact ⟨rfl, rfl⟩ | exact ⟨rfl, rfl, rfl⟩ | exact rfl | exact ⟨fun h0 => by cases h0, rfl⟩ | exact (fun h0 => by cases h0) | exact ⟨rfl, by omega⟩ | exact ⟨Nat.succ_ne_zero _, rfl⟩ | omega) | refine a_condT rfl ?_ | refine a_condF rfl ?_ | (refine o_lookupP 3 TtOk rfl rfl rfl rfl rfl rfl rfl hlk rfl ?_) | (refine o_neNilQ TtOk rfl rfl rfl rfl rfl rfl ?_))
    refine Ops.pull 2 3 rfl hos1 rfl ?_
    refine o_calm rfl TtOk rfl rfl rfl ?_ (fun _ => ?_)
    · first | exact True.intro | exact ⟨rfl, rfl, rfl, rfl⟩ | exact ⟨rfl, rfl, rfl⟩ | exact ⟨rfl, rfl⟩ | exact ⟨rfl, True.intro⟩
    refine Ops.push 2 3 rfl rfl hos1 rfl ?_
    repeat' (first | (refine Ops.nil ?_; show Awp _ _ _ _ _) | (refine Awp.ret ?_; show endK _ _ _ _ _) | (refine o_calm rfl TtOk rfl rfl rfl ?_ (fun _ => ?_); first | exact True.intro | exact ⟨rfl, rfl, rfl, rfl⟩ | exact ⟨rfl, True.intro⟩ | exact ⟨rfl, rfl⟩ | exact ⟨rfl, rfl, rfl⟩ | exact rfl | exact ⟨fun h0 => by cases h0, rfl⟩ | exact (fun h0 => by cases h0) | exact ⟨rfl, by omega⟩ | exact ⟨Nat.succ_ne_zero _, rfl⟩ | omega) | refine o_toString TtOk rfl rfl rfl rfl rfl (by first | exact True.intro | exact rfl) rfl rfl rfl rfl ?_)
    all_goals
      refine end_all [] [(0, _), (1, _), (2, _)] (.tup [.s f.b, .i .i64 0]) rfl ?_ ?_ (rle_tup2 (CLe.of_eq rfl) (CLe.of_eq rfl) rfl rfl) (HLe.cons 0 rfl (HOLe.refl _) (HLe.cons 1 rfl (HOLe.refl _) (HLe.cons 2 rfl (HOLe.refl _) .nil))) ⟨rfl, rfl⟩ _ (.inl rfl)
      · repeat' (first | exact True.intro | exact rfl | refine ⟨?_, ?_⟩)
      · exact ⟨trivial, trivial, trivial⟩
end Go.Proofs.Ytfdcopbbnmialaa
