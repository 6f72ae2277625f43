/- ref03.Sum by rules: it is sha.Sum. -/
import Derived.Test.YtcmgpkibjdbonaaGreatR2Z
set_option maxHeartbeats 32000000
set_option maxRecDepth 100000
namespace Go.Proofs.YtcmgpkibjdbonaaGreat
open Go Go.RowKit
theorem mixN_succ (ks : List Int) (Q : List UInt8) (m : Nat) (v : V8) (at_ : Nat) : mixN ks (m + 1) v (Q.drop at_) = mixN ks m (mixV v ((Q.take (at_ + 64)).drop at_) ks) (Q.drop (at_ + 64)) := by
  show mixN ks m (mixV v ((Q.drop at_).take 64) ks) ((Q.drop at_).drop 64) = _
  rw [List.drop_drop, List.drop_take, show at_ + 64 - at_ = 64 by omega]
theorem rsum_spec (s : List UInt8) (hs : s.length ≤ 1000000000) : Spec Tryz.prog 73 [.s s] [] (fun v os => v = labA (shaN s) ∧ os = []) := by
  refine spec_of TtOk [] Tryz.func73 rfl Tryz.ntmps73 (by kernel_rfl) rfl rfl (fun C => ?_) rfl
  have hst := rsteps_spec
  have hbg := rbegin_spec
  have hpd := rpadded_spec s hs
  have hkl : ksC.length = 64 := rfl
  have hio := ivC_ok
  have hS : shaN s = outL (mixN ksC ((padL s).length / 64) ivC (padL s)) 32 := rfl
  rw [hS]
  generalize ksC = ks at hst hkl
  generalize ivC = iv at hbg hio
  obtain ⟨M, hM1, hM2⟩ := padL_len s
  have hMd : (padL s).length / 64 = M := by omega
  rw [hMd]
  generalize padL s = Q at hM1 hpd
  obtain ⟨W, hW⟩ : ∃ W, mixN ks M iv Q = W := ⟨_, rfl⟩
  rw [hW]
  repeat' (first | refine Awp.seq ?_ | refine Awp.block ?_ | refine Awp.region ?_ | refine Ops.nil (nqA ?_) | (refine o_calm rfl TtOk rfl rfl rfl ?_ (fun _ => ?_); exact nd) | refine o_alloc (d := 2) rfl TtOk rfl rfl rfl (fun b2 => ?_) | refine o_alloc (d := 3) rfl TtOk rfl rfl rfl (fun b3 => ?_) | refine o_alloc (d := 4) rfl TtOk rfl rfl rfl (fun b4 => ?_) | refine o_store TtOk rfl rfl rfl rfl rfl rfl rfl ⟨rfl, rfl⟩ rfl rfl rfl rfl rfl ?_ | (refine o_call0 rfl (hst) True.intro rfl ?_; rintro _ _ ⟨rfl, rfl⟩; refine ⟨rfl, ?_⟩) | (refine o_call0 rfl (hbg) True.intro rfl ?_; rintro _ _ ⟨rfl, rfl⟩; refine ⟨rfl, ?_⟩) | refine o_callE rfl (hpd) ⟨nqS, True.intro⟩ rfl ?_)
  refine Awp.loop (fun q : Nat × V8 => ⟨156, [(6, .i .i64 ((64 * q.1 : Nat) : Int)), (5, .sl 1 (Q.map byA)), (2, .ptr 2 b2 [] 0), (3, .ptr 3 b3 [] 0), (4, .ptr 4 b4 [] 0)], [(3, .var b3 (.arr 1 8 (q.2.L.map uI))), (4, .var b4 (.arr 1 64 (ks.map uI))), (2, .var b2 (.arr 1 32 (List.replicate 32 (.i .u8 0))))]⟩)
    (fun q => q.1 ≤ M ∧ q.2.ok ∧ mixN ks (M - q.1) q.2 (Q.drop (64 * q.1)) = W) (fun q => M - q.1) [] (0, iv) ⟨Nat.zero_le _, hio, hW⟩ ?_ ?_
  · exact ⟨rfl, ⟨sle_i rfl, sle_sl rfl, sle_ptr, sle_ptr, sle_ptr, True.intro⟩, HLe.cons 3 rfl (HOLe.refl _) (HLe.cons 4 rfl (HOLe.refl _) (HLe.cons 2 rfl (HOLe.refl _) .nil))⟩
  clear hW hio
  rintro ⟨j, v⟩ ⟨hj, hv, hmx⟩
  dsimp only at hj hv hmx ⊢
  by_cases hjm : j < M
  · obtain ⟨m, hm⟩ : ∃ m, M - j = m + 1 := ⟨M - j - 1, by omega⟩
    rw [hm, mixN_succ] at hmx
    have hwd := rwords_spec ((Q.take (64 * j + 64)).drop (64 * j)) (by rw [List.length_drop, List.length_take]; omega)
    have hwl := wsL_len ((Q.take (64 * j + 64)).drop (64 * j)) 64
    unfold mixV at hmx
    generalize wsL ((Q.take (64 * j + 64)).drop (64 * j)) 64 = X at hwd hwl hmx
    repeat' (first | refine Awp.seq ?_ | refine Awp.block ?_ | refine Awp.region ?_ | refine Ops.nil (nqA ?_) | refine Awp.skip (nqA ?_) | (refine o_add rfl rfl rfl rfl ?_ ?_; omega) | refine o_len rfl TtOk rfl rfl rfl (fun _ => ?_) | (refine o_calm rfl TtOk rfl rfl rfl ?_ (fun _ => ?_); exact nd) | refine o_alloc (d := 7) rfl TtOk rfl rfl rfl (fun b7 => ?_) | refine o_alloc (d := 8) rfl TtOk rfl rfl rfl (fun b8 => ?_) | refine o_store TtOk rfl rfl rfl rfl rfl rfl rfl ⟨rfl, rfl⟩ rfl rfl rfl rfl rfl ?_ | (refine a_condP rfl (fun hc => ?_) (fun hc => ?_)) <;> (try (exfalso; omega)) | (refine o_sliceSl TtOk rfl (64*j) (64*j+64) rfl rfl rfl rfl rfl (bnd_some rfl rfl) (bnd_some rfl (by omega)) (by omega) (by omega) ?_) | refine o_callE rfl (hwd) ⟨nqS, True.intro⟩ rfl ?_)
    refine Awp.loop (fun i : Nat => ⟨156, [(9, .i .i64 i), (6, .i .i64 ((64 * j : Nat) : Int)), (5, .sl 1 (Q.map byA)), (2, .ptr 2 b2 [] 0), (3, .ptr 3 b3 [] 0), (4, .ptr 4 b4 [] 0), (7, .ptr 7 b7 [] 0), (8, .ptr 8 b8 [] 0)], [(8, .var b8 (.arr 1 8 ((rounds v (ks.take i) (X.take i)).L.map uI))), (7, .var b7 (.arr 1 64 (X.map uI))), (3, .var b3 (.arr 1 8 (v.L.map uI))), (4, .var b4 (.arr 1 64 (ks.map uI))), (2, .var b2 (.arr 1 32 (List.replicate 32 (.i .u8 0))))]⟩)
      (fun i => i ≤ 64) (fun i => 64 - i) [] 0 (Nat.zero_le _) ?_ ?_
    · exact ⟨rfl, ⟨sle_i rfl, sle_i rfl, sle_sl rfl, sle_ptr, sle_ptr, sle_ptr, sle_ptr, sle_ptr, True.intro⟩, HLe.cons 8 rfl (HOLe.refl _) (HLe.cons 7 rfl (HOLe.refl _) (HLe.cons 3 rfl (HOLe.refl _) (HLe.cons 4 rfl (HOLe.refl _) (HLe.cons 2 rfl (HOLe.refl _) .nil))))⟩
    clear hwd
    intro i hi
    by_cases hlt : i < 64
    · have hst := rounds_succ v ks X i (by omega) (by omega)
      have gk : (ks.map uI)[i]? = some (uI (ks[i]'(by omega))) := getq_map (List.getElem?_eq_getElem (by omega))
      have gw : (X.map uI)[i]? = some (uI (X[i]'(by omega))) := getq_map (List.getElem?_eq_getElem (by omega))
      have hvk := rounds_ok hv (ks.take i) (X.take i)
      generalize ks[i]'(by omega) = k at hst gk
      generalize X[i]'(by omega) = w at hst gw
      generalize rounds v (ks.take i) (X.take i) = V at hst hvk ⊢
      rw [← rnR_eq V k w hvk.e] at hst
      obtain ⟨a, b', c, d, e, f, g, h⟩ := V
      have t1 := right_spec e 6 (by decide) (by decide)
      have t2 := right_spec e 11 (by decide) (by decide)
      have t3 := right_spec e 25 (by decide) (by decide)
      have t4 := right_spec a 2 (by decide) (by decide)
      have t5 := right_spec a 13 (by decide) (by decide)
      have t6 := right_spec a 22 (by decide) (by decide)
      rw [show (V8.L ⟨a, b', c, d, e, f, g, h⟩).map uI = [uI a, uI b', uI c, uI d, uI e, uI f, uI g, uI h] from rfl]
      repeat' (first | (refine o_or32 TtOk rfl rfl rfl rfl ?_) | (refine o_and32 TtOk rfl rfl rfl rfl ?_) | (refine o_xor32 TtOk rfl rfl rfl rfl ?_) | (refine o_sub32 TtOk rfl rfl rfl rfl ?_) | (refine o_add32 TtOk rfl rfl rfl rfl ?_) | refine Awp.seq ?_ | refine Awp.block ?_ | refine Awp.region ?_ | refine Ops.nil (nqA ?_) | refine Ops.nil (nqX ?_) | refine Awp.skip (nqA ?_) | (refine o_add rfl rfl rfl rfl ?_ ?_; omega) | (refine o_calm rfl TtOk rfl rfl rfl ?_ (fun _ => ?_); exact nd) | refine o_store TtOk rfl rfl rfl rfl rfl rfl rfl ⟨rfl, rfl⟩ rfl rfl rfl rfl rfl ?_ | (refine a_condP rfl (fun hc => ?_) (fun hc => ?_)) <;> (try (exfalso; omega)) | refine a_any 11 [] [] [] [0, 3, 7, 1, 4, 8, 2, 5, 6, 9, 10, 11] (by kernel_rfl) (by kernel_rfl) (by kernel_rfl) rfl rfl rfl ?_ | refine a_any 13 [] [] [] [0, 2, 4, 6, 7, 10, 11, 1, 3, 5, 8, 9, 12, 13, 14] (by kernel_rfl) (by kernel_rfl) (by kernel_rfl) rfl rfl rfl ?_ | refine a_any 14 [] [] [] [0, 3, 7, 1, 4, 8, 2, 5, 6, 9, 10, 11] (by kernel_rfl) (by kernel_rfl) (by kernel_rfl) rfl rfl rfl ?_ | (refine o_indexArr TtOk rfl rfl rfl rfl rfl rfl 0 rfl (by decide) ?_) | (refine o_indexArr TtOk rfl rfl rfl rfl rfl rfl 1 rfl (by decide) ?_) | (refine o_indexArr TtOk rfl rfl rfl rfl rfl rfl 2 rfl (by decide) ?_) | (refine o_indexArr TtOk rfl rfl rfl rfl rfl rfl 3 rfl (by decide) ?_) | (refine o_indexArr TtOk rfl rfl rfl rfl rfl rfl 4 rfl (by decide) ?_) | (refine o_indexArr TtOk rfl rfl rfl rfl rfl rfl 5 rfl (by decide) ?_) | (refine o_indexArr TtOk rfl rfl rfl rfl rfl rfl 6 rfl (by decide) ?_) | (refine o_indexArr TtOk rfl rfl rfl rfl rfl rfl 7 rfl (by decide) ?_) | (refine o_indexArr TtOk rfl rfl rfl rfl rfl rfl i rfl (by omega) ?_) | (refine o_loadAt TtOk rfl rfl rfl rfl (sub_arr gk) (by first | exact Nat.add_zero _ | rfl) ⟨rfl, rfl⟩ rfl rfl ?_) | (refine o_loadAt TtOk rfl rfl rfl rfl (sub_arr gw) (by first | exact Nat.add_zero _ | rfl) ⟨rfl, rfl⟩ rfl rfl ?_) | (refine o_buildArr TtOk rfl ((rnR ⟨a, b', c, d, e, f, g, h⟩ k w).L.map uI) rfl rfl rfl rfl rfl rfl ?_) | refine o_callE rfl (t1) ⟨nqS, nqS, True.intro⟩ rfl ?_ | refine o_callE rfl (t2) ⟨nqS, nqS, True.intro⟩ rfl ?_ | refine o_callE rfl (t3) ⟨nqS, nqS, True.intro⟩ rfl ?_ | refine o_callE rfl (t4) ⟨nqS, nqS, True.intro⟩ rfl ?_ | refine o_callE rfl (t5) ⟨nqS, nqS, True.intro⟩ rfl ?_ | refine o_callE rfl (t6) ⟨nqS, nqS, True.intro⟩ rfl ?_)
      exact ⟨i + 1, [], by omega, by omega, rfl, ⟨sle_i rfl, sle_i rfl, sle_sl rfl, sle_ptr, sle_ptr, sle_ptr, sle_ptr, sle_ptr, True.intro⟩, HLe.cons 8 rfl (HOLe.var (CLe.of_eq (by rw [hst]))) (HLe.cons 7 rfl (HOLe.refl _) (HLe.cons 3 rfl (HOLe.refl _) (HLe.cons 4 rfl (HOLe.refl _) (HLe.cons 2 rfl (HOLe.refl _) .nil))))⟩
    have hi64 : i = 64 := by omega
    have hV : rounds v (ks.take i) (X.take i) = rounds v ks X := by rw [List.take_of_length_le (by omega), List.take_of_length_le (by omega)]
    rw [hV]
    generalize rounds v ks X = V at hmx ⊢
    clear hV
    repeat' (first | refine Awp.seq ?_ | refine Awp.block ?_ | refine Awp.region ?_ | refine Ops.nil (nqA ?_) | refine Awp.exit (nqA ?_) | (refine o_calm rfl TtOk rfl rfl rfl ?_ (fun _ => ?_); exact nd) | (refine a_condP rfl (fun hc => ?_) (fun hc => ?_)) <;> (try (exfalso; omega)))
    refine Awp.loop (fun i : Nat => ⟨156, [(126, .i .i64 i), (6, .i .i64 ((64 * j : Nat) : Int)), (5, .sl 1 (Q.map byA)), (2, .ptr 2 b2 [] 0), (3, .ptr 3 b3 [] 0), (4, .ptr 4 b4 [] 0), (8, .ptr 8 b8 [] 0)], [(3, .var b3 (.arr 1 8 (((addV v V).L.take i ++ v.L.drop i).map uI))), (8, .var b8 (.arr 1 8 (V.L.map uI))), (4, .var b4 (.arr 1 64 (ks.map uI))), (2, .var b2 (.arr 1 32 (List.replicate 32 (.i .u8 0))))]⟩)
      (fun i => i ≤ 8) (fun i => 8 - i) [] 0 (Nat.zero_le _) ?_ ?_
    · exact ⟨rfl, ⟨sle_i rfl, sle_i rfl, sle_sl rfl, sle_ptr, sle_ptr, sle_ptr, sle_ptr, True.intro⟩, HLe.cons 3 rfl (HOLe.refl _) (HLe.cons 8 rfl (HOLe.refl _) (HLe.cons 4 rfl (HOLe.refl _) (HLe.cons 2 rfl (HOLe.refl _) .nil)))⟩
    clear hi64 hlt hi
    clear hc i
    intro i hi
    by_cases hlt : i < 8
    · obtain ⟨p, q, hs2, g0, g1⟩ := td_step (A := (addV v V).L) (B := v.L) (V := V.L) rfl rfl rfl (addV_get v V) i hlt
      generalize (addV v V).L.take i ++ v.L.drop i = Z at hs2 g0 ⊢
      repeat' (first | (refine o_add32 TtOk rfl rfl rfl rfl ?_) | refine Awp.seq ?_ | refine Awp.block ?_ | refine Awp.region ?_ | refine Ops.nil (nqA ?_) | refine Ops.nil (nqX ?_) | refine Awp.skip (nqA ?_) | (refine o_add rfl rfl rfl rfl ?_ ?_; omega) | (refine o_calm rfl TtOk rfl rfl rfl ?_ (fun _ => ?_); exact nd) | (refine a_condP rfl (fun hc => ?_) (fun hc => ?_)) <;> (try (exfalso; omega)) | refine a_any 20 [3] [131, 134] [] [0, 1, 3, 4, 2, 5, 6, 7, 8] (by kernel_rfl) (by kernel_rfl) (by kernel_rfl) rfl rfl rfl ?_ | (refine o_indexArr TtOk rfl rfl rfl rfl rfl rfl i rfl (by omega) ?_) | (refine o_loadAt TtOk rfl rfl rfl rfl (sub_arr g0) (by first | exact Nat.add_zero _ | rfl) ⟨rfl, rfl⟩ rfl rfl ?_) | (refine o_loadAt TtOk rfl rfl rfl rfl (sub_arr g1) (by first | exact Nat.add_zero _ | rfl) ⟨rfl, rfl⟩ rfl rfl ?_) | (refine o_storeArr TtOk rfl rfl rfl rfl rfl rfl ⟨rfl, rfl⟩ rfl rfl g0 rfl rfl ?_))
      exact ⟨i + 1, [], by omega, by omega, rfl, ⟨sle_i rfl, sle_i rfl, sle_sl rfl, sle_ptr, sle_ptr, sle_ptr, sle_ptr, True.intro⟩, HLe.cons 3 rfl (HOLe.var (CLe.of_eq (by rw [hs2, List.map_set]; rfl))) (HLe.cons 8 rfl (HOLe.refl _) (HLe.cons 4 rfl (HOLe.refl _) (HLe.cons 2 rfl (HOLe.refl _) .nil)))⟩
    have hi8 : i = 8 := by omega
    have hZ : (addV v V).L.take i ++ v.L.drop i = (addV v V).L := by rw [List.take_of_length_le (show 8 ≤ i by omega), List.drop_eq_nil_of_le (show 8 ≤ i by omega), List.append_nil]
    rw [hZ]
    repeat' (first | refine Awp.seq ?_ | refine Awp.region ?_ | refine Ops.nil (nqA ?_) | refine Ops.nil (nqX ?_) | refine Awp.exit (nqA ?_) | (refine o_add rfl rfl rfl rfl ?_ ?_; omega) | (refine o_calm rfl TtOk rfl rfl rfl ?_ (fun _ => ?_); exact nd) | (refine a_condP rfl (fun hc => ?_) (fun hc => ?_)) <;> (try (exfalso; omega)))
    exact ⟨(j + 1, addV v V), [], ⟨hjm, addV_ok _ _, by show mixN ks (M - (j + 1)) (addV v V) (Q.drop (64 * (j + 1))) = W; rw [show M - (j + 1) = m by omega, show 64 * (j + 1) = 64 * j + 64 by omega]; exact hmx⟩, by show M - (j + 1) < M - j; omega, rfl, ⟨sle_i (by omega), sle_sl rfl, sle_ptr, sle_ptr, sle_ptr, True.intro⟩, HLe.cons 3 rfl (HOLe.refl _) (HLe.cons 4 rfl (HOLe.refl _) (HLe.cons 2 rfl (HOLe.refl _) .nil))⟩
  · have hmz : M - j = 0 := by omega
    rw [hmz] at hmx
    have hmx : v = W := hmx
    subst hmx
    repeat' (first | refine Awp.seq ?_ | refine Awp.block ?_ | refine Awp.region ?_ | refine Ops.nil (nqA ?_) | refine Awp.exit (nqA ?_) | refine o_len rfl TtOk rfl rfl rfl (fun _ => ?_) | (refine o_calm rfl TtOk rfl rfl rfl ?_ (fun _ => ?_); exact nd) | refine o_alloc (d := 16) rfl TtOk rfl rfl rfl (fun b16 => ?_) | refine o_store TtOk rfl rfl rfl rfl rfl rfl rfl ⟨rfl, rfl⟩ rfl rfl rfl rfl rfl ?_ | refine o_buildArr0 TtOk rfl rfl rfl rfl ?_ | (refine a_condP rfl (fun hc => ?_) (fun hc => ?_)) <;> (try (exfalso; omega)))
    refine Awp.loop (fun i : Nat => ⟨156, [(139, .i .i64 i), (16, .ptr 16 b16 [] 0), (3, .ptr 3 b3 [] 0), (2, .ptr 2 b2 [] 0)], [(16, .var b16 (.arr 1 32 ((outL v i).map byA))), (3, .var b3 (.arr 1 8 (v.L.map uI))), (2, .var b2 (.arr 1 32 (List.replicate 32 (.i .u8 0))))]⟩)
      (fun i => i ≤ 32) (fun i => 32 - i) [] 0 (Nat.zero_le _) ?_ ?_
    · exact ⟨rfl, ⟨sle_i rfl, sle_ptr, sle_ptr, sle_ptr, True.intro⟩, HLe.cons 16 rfl (HOLe.refl _) (HLe.cons 3 rfl (HOLe.refl _) (HLe.cons 2 rfl (HOLe.refl _) .nil))⟩
    intro i hi
    by_cases hlt : i < 32
    · have hset := outL_set v i hlt
      have hol := outL_len v i hi
      have hvl : v.L.length = 8 := rfl
      have g0 : (v.L.map uI)[i / 4]? = some (uI (v.L.getD (i / 4) 0)) := by
        have h4 : i / 4 < v.L.length := by omega
        rw [List.getD_eq_getElem?_getD, List.getElem?_eq_getElem h4]
        exact getq_map (List.getElem?_eq_getElem h4)
      have hob : outB v i = UInt8.ofNat (((v.L.getD (i / 4) 0).fdiv (2 ^ (24 - 8 * (i % 4)))) % 256).toNat := rfl
      generalize v.L.getD (i / 4) 0 = z at g0 hob
      have hst0 : ((outL v i).map byA)[i]? = some (byA ((outL v i)[i]'(by omega))) := getq_map (List.getElem?_eq_getElem (by omega))
      repeat' (first | refine Awp.seq ?_ | refine Awp.block ?_ | refine Awp.region ?_ | refine Ops.nil (nqA ?_) | refine Ops.nil (nqX ?_) | refine Awp.skip (nqA ?_) | (refine o_add rfl rfl rfl rfl ?_ ?_; omega) | (refine o_sub rfl rfl rfl rfl ?_ ?_; omega) | (refine o_mul rfl rfl rfl rfl ?_ ?_; omega) | (refine o_quo rfl rfl rfl rfl ?_ ?_ ?_; omega; omega) | (refine o_rem rfl rfl rfl rfl ?_ ?_ ?_; omega; omega) | (refine o_calm rfl TtOk rfl rfl rfl ?_ (fun _ => ?_); exact nd) | (refine a_condP rfl (fun hc => ?_) (fun hc => ?_)) <;> (try (exfalso; omega)) | (refine o_indexArr TtOk rfl rfl rfl rfl rfl rfl i rfl (by omega) ?_) | (refine o_indexArr TtOk rfl rfl rfl rfl rfl rfl (i/4) rfl (by omega) ?_) | (refine o_loadAt TtOk rfl rfl rfl rfl (sub_arr g0) (by first | exact Nat.add_zero _ | rfl) ⟨rfl, rfl⟩ rfl rfl ?_) | (refine o_storeArr TtOk rfl rfl rfl rfl rfl rfl ⟨rfl, rfl⟩ rfl rfl hst0 rfl rfl ?_))
      have hz : AV.i .u8 (IntKind.u8.wrap (z.fdiv (2 ^ (min (24 - (i : Int) % 4 * 8).toNat (IntKind.bits .u32))))) = byA (outB v i) := by
        rw [show min (24 - (i : Int) % 4 * 8).toNat (IntKind.bits .u32) = 24 - 8 * (i % 4) by rw [show IntKind.bits .u32 = 32 from rfl]; omega, hob, wrapB]
      refine ⟨i + 1, [], by omega, by omega, rfl, ⟨sle_i rfl, sle_ptr, sle_ptr, sle_ptr, True.intro⟩, HLe.cons 16 rfl (HOLe.var (CLe.of_eq ?_)) (HLe.cons 3 rfl (HOLe.refl _) (HLe.cons 2 rfl (HOLe.refl _) .nil))⟩
      show AV.arr 1 32 (((outL v i).map byA).set i (AV.i .u8 (IntKind.u8.wrap (z.fdiv (2 ^ (min (24 - (i : Int) % 4 * 8).toNat (IntKind.bits .u32))))))) = _
      rw [hz, hset, List.map_set]
    · have hie : i = 32 := by omega
      have hoo : outL v i = outL v 32 := by rw [hie]
      rw [hoo]
      clear hie hoo
      generalize outL v 32 = out
      repeat' (first | refine Awp.seq ?_ | refine Awp.region ?_ | refine Ops.nil (nqA ?_) | refine Awp.exit (nqA ?_) | refine Awp.ret (nqE ?_) | (refine o_calm rfl TtOk rfl rfl rfl ?_ (fun _ => ?_); exact nd) | refine o_store TtOk rfl rfl rfl rfl rfl rfl rfl ⟨rfl, rfl⟩ rfl rfl rfl rfl rfl ?_ | (refine a_condP rfl (fun hc => ?_) (fun hc => ?_)) <;> (try (exfalso; omega)))
      refine end_all [] [] (labA out) rfl ?_ ?_ (rle_one (CLe.refl _) rfl) .nil ⟨rfl, rfl⟩ _ (.inl rfl)
      · exact nq1
      · exact ⟨trivial, trivial⟩
end Go.Proofs.YtcmgpkibjdbonaaGreat
