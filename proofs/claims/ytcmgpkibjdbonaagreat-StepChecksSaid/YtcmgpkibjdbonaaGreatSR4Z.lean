/- ref03.Sum by rules: it is sha.Sum. -/
import Derived.Test.YtcmgpkibjdbonaaGreatR2Z
import Derived.Test.YtcmgpkibjdbonaaGreatR1
set_option maxHeartbeats 32000000
set_option maxRecDepth 100000
namespace Go.Proofs.YtcmgpkibjdbonaaGreat
open Go Go.RowKit
theorem mixN_succ (ks : List Int) (Q : List UInt8) (m : Nat) (v : V8) (at_ : Nat) : mixN ks (m + 1) v (Q.drop at_) = mixN ks m (mixV v ((Q.take (at_ + 64)).drop at_) ks) (Q.drop (at_ + 64)) := by
  show mixN ks m (mixV v ((Q.drop at_).take 64) ks) ((Q.drop at_).drop 64) = _
  rw [List.drop_drop, List.drop_take, show at_ + 64 - at_ = 64 by omega]
theorem rsum_spec (s : List UInt8) (hs : s.length ≤ 1000000000) : Spec Tryz.prog 73 [.s s] [] (fun v os => v = labA (shaN s) ∧ os = []) := by
  refine spec_of TtOk [] Tryz.func73 rfl Tryz.ntmps73 (by kernel_rfl) rfl rfl (fun C => ?_) rfl
  have hst := rsteps_spec
  have hbg := rbegin_spec
  have hpd := rpadded_spec s hs
  have hkl : ksC.length = 64 := rfl
  have hio := ivC_ok
  have hS : shaN s = outL (mixN ksC ((padL s).length / 64) ivC (padL s)) 32 := rfl
  rw [hS]
  generalize ksC = ks at hst hkl
  generalize ivC = iv at hbg hio
  obtain ⟨M, hM1, hM2⟩ := padL_len s
  have hMd : (padL s).length / 64 = M := by omega
  rw [hMd]
  generalize padL s = Q at hM1 hpd
  obtain ⟨W, hW⟩ : ∃ W, mixN ks M iv Q = W := ⟨_, rfl⟩
  rw [hW]
  repeat' (first | refine Awp.seq ?_ | refine Awp.block ?_ | refine Awp.region ?_ | refine Ops.nil (nqA ?_) | (refine o_calm rfl TtOk rfl rfl rfl ?_ (fun _ => ?_); exact nd) | refine o_alloc (d := 2) rfl TtOk rfl rfl rfl (fun b2 => ?_) | refine o_alloc (d := 3) rfl TtOk rfl rfl rfl (fun b3 => ?_) | refine o_alloc (d := 4) rfl TtOk rfl rfl rfl (fun b4 => ?_) | refine o_store TtOk rfl rfl rfl rfl rfl rfl rfl ⟨rfl, rfl⟩ rfl rfl rfl rfl rfl ?_ | (refine o_call0 rfl (hst) True.intro rfl ?_; rintro _ _ ⟨rfl, rfl⟩; refine ⟨rfl, ?_⟩) | (refine o_call0 rfl (hbg) True.intro rfl ?_; rintro _ _ ⟨rfl, rfl⟩; refine ⟨rfl, ?_⟩) | refine o_callE rfl (hpd) ⟨nqS, True.intro⟩ rfl ?_)
  refine Awp.loop (fun q : Nat × V8 => ⟨156, [(6, .i .i64 ((64 * q.1 : Nat) : Int)), (5, .sl 1 (Q.map byA)), (2, .ptr 2 b2 [] 0), (3, .ptr 3 b3 [] 0), (4, .ptr 4 b4 [] 0)], [(3, .var b3 (.arr 1 8 (q.2.L.map uI))), (4, .var b4 (.arr 1 64 (ks.map uI))), (2, .var b2 (.arr 1 32 (List.replicate 32 (.i .u8 0))))]⟩)
    (fun q => q.1 ≤ M ∧ q.2.ok ∧ mixN ks (M - q.1) q.2 (Q.drop (64 * q.1)) = W) (fun q => M - q.1) [] (0, iv) ⟨Nat.zero_le _, hio, hW⟩ ?_ ?_
  · exact ⟨rfl, ⟨sle_i rfl, sle_sl rfl, sle_ptr, sle_ptr, sle_ptr, True.intro⟩, HLe.cons 3 rfl (HOLe.refl _) (HLe.cons 4 rfl (HOLe.refl _) (HLe.cons 2 rfl (HOLe.refl _) .nil))⟩
  clear hW hio
  rintro ⟨j, v⟩ ⟨hj, hv, hmx⟩
  dsimp only at hj hv hmx ⊢
  by_cases hjm : j < M
  · obtain ⟨m, hm⟩ : ∃ m, M - j = m + 1 := ⟨M - j - 1, by omega⟩
    rw [hm, mixN_succ] at hmx
    have hwd := rwords_spec ((Q.take (64 * j + 64)).drop (64 * j)) (by rw [List.length_drop, List.length_take]; omega)
    have hwl := wsL_len ((Q.take (64 * j + 64)).drop (64 * j)) 64
    unfold mixV at hmx
    generalize wsL ((Q.take (64 * j + 64)).drop (64 * j)) 64 = X at hwd hwl hmx
    repeat' (first | refine Awp.seq ?_ | refine Awp.block ?_ | refine Awp.region ?_ | refine Ops.nil (nqA ?_) | refine Awp.skip (nqA ?_) | (refine o_add rfl rfl rfl rfl ?_ ?_; omega) | refine o_len rfl TtOk rfl rfl rfl (fun _ => ?_) | (refine o_calm rfl TtOk rfl rfl rfl ?_ (fun _ => ?_); exact nd) | refine o_alloc (d := 7) rfl TtOk rfl rfl rfl (fun b7 => ?_) | refine o_alloc (d := 8) rfl TtOk rfl rfl rfl (fun b8 => ?_) | refine o_store TtOk rfl rfl rfl rfl rfl rfl rfl ⟨rfl, rfl⟩ rfl rfl rfl rfl rfl ?_ | (refine a_condP rfl (fun hc => ?_) (fun hc => ?_)) <;> (try (exfalso; omega)) | (refine o_sliceSl TtOk rfl (64*j) (64*j+64) rfl rfl rfl rfl rfl (bnd_some rfl rfl) (bnd_some rfl (by omega)) (by omega) (by omega) ?_) | refine o_callE rfl (hwd) ⟨nqS, True.intro⟩ rfl ?_)
    refine Awp.loop (fun i : Nat => ⟨156, [(9, .i .i64 i), (6, .i .i64 ((64 * j : Nat) : Int)), (5, .sl 1 (Q.map byA)), (2, .ptr 2 b2 [] 0), (3, .ptr 3 b3 [] 0), (4, .ptr 4 b4 [] 0), (7, .ptr 7 b7 [] 0), (8, .ptr 8 b8 [] 0)], [(8, .var b8 (.arr 1 8 ((rounds v (ks.take i) (X.take i)).L.map uI))), (7, .var b7 (.arr 1 64 (X.map uI))), (3, .var b3 (.arr 1 8 (v.L.map uI))), (4, .var b4 (.arr 1 64 (ks.map uI))), (2, .var b2 (.arr 1 32 (List.replicate 32 (.i .u8 0))))]⟩)
      (fun i => i ≤ 64) (fun i => 64 - i) [] 0 (Nat.zero_le _) ?_ ?_
    · exact ⟨rfl, ⟨sle_i rfl, sle_i rfl, sle_sl rfl, sle_ptr, sle_ptr, sle_ptr, sle_ptr, sle_ptr, True.intro⟩, HLe.cons 8 rfl (HOLe.refl _) (HLe.cons 7 rfl (HOLe.refl _) (HLe.cons 3 rfl (HOLe.refl _) (HLe.cons 4 rfl (HOLe.refl _) (HLe.cons 2 rfl (HOLe.refl _) .nil))))⟩
    clear hwd
    intro i hi
    by_cases hlt : i < 64
    · have hst := rounds_succ v ks X i (by omega) (by omega)
      have gk : (ks.map uI)[i]? = some (uI (ks[i]'(by omega))) := getq_map (List.getElem?_eq_getElem (by omega))
      have gw : (X.map uI)[i]? = some (uI (X[i]'(by omega))) := getq_map (List.getElem?_eq_getElem (by omega))
      have hvk := rounds_ok hv (ks.take i) (X.take i)
      generalize ks[i]'(by omega) = k at hst gk
      generalize X[i]'(by omega) = w at hst gw
      generalize rounds v (ks.take i) (X.take i) = V at hst hvk ⊢
      rw [← rnR_eq V k w hvk.e] at hst
      obtain ⟨a, b', c, d, e, f, g, h⟩ := V
      have t1 := right_spec e 6 (by decide) (by decide)
      have t2 := right_spec e 11 (by decide) (by decide)
      have t3 := right_spec e 25 (by decide) (by decide)
      have t4 := right_spec a 2 (by decide) (by decide)
      have t5 := right_spec a 13 (by decide) (by decide)
      have t6 := right_spec a 22 (by decide) (by decide)
      rw [show (V8.L ⟨a, b', c, d, e, f, g, h⟩).map uI = [uI a, uI b', uI c, uI d, uI e, uI f, uI g, uI h] from rfl]
      repeat' (first | (refine o_or32 TtOk rfl rfl rfl rfl ?_) | (refine o_and32 TtOk rfl rfl rfl rfl ?_) | (refine o_xor32 TtOk rfl rfl rfl rfl ?_) | (refine o_sub32 TtOk rfl rfl rfl rfl ?_) | (refine o_add32 TtOk rfl rfl rfl rfl ?_) | refine Awp.seq ?_ | refine Awp.block ?_ | refine Awp.region ?_ | refine Ops.nil (nqA ?_) | refine Ops.nil (nqX ?_) | refine Awp.skip (nqA ?_) | (refine o_add rfl rfl rfl rfl ?_ ?_; omega) | (refine o_calm rfl TtOk rfl rfl rfl ?_ (fun _ => ?_); exact nd) | refine o_store TtOk rfl rfl rfl rfl rfl rfl rfl ⟨rfl, rfl⟩ rfl rfl rfl rfl rfl ?_ | (refine a_condP rfl (fun hc => ?_) (fun hc => ?_)) <;> (try (exfalso; omega)) | refine a_any 11 [] [] [] [0, 3, 7, 1, 4, 8, 2, 5, 6, 9, 10, 11] (by kernel_rfl) (by kernel_rfl) (by kernel_rfl) rfl rfl rfl ?_ | refine a_any 13 [] [] [] [0, 2, 4, 6, 7, 10, 11, 1, 3, 5, 8, 9, 12, 13, 14] (by kernel_rfl) (by kernel_rfl) (by kernel_rfl) rfl rfl rfl ?_ | refine a_any 14 [] [] [] [0, 3, 7, 1, 4, 8, 2, 5, 6, 9, 10, 11] (by kernel_rfl) (by kernel_rfl) (by kernel_rfl) rfl rfl rfl ?_ | (refine o_indexArr TtOk rfl rfl rfl rfl rfl rfl 0 rfl (by decide) ?_) | (refine o_indexArr TtOk rfl rfl rfl rfl rfl rfl 1 rfl (by decide) ?_) | (refine o_indexArr TtOk rfl rfl rfl rfl rfl rfl 2 rfl (by decide) ?_) | (refine o_indexArr TtOk rfl rfl rfl rfl rfl rfl 3 rfl (by decide) ?_) | (refine o_indexArr TtOk rfl rfl rfl rfl rfl rfl 4 rfl (by decide) ?_) | (refine o_indexArr TtOk rfl rfl rfl rfl rfl rfl 5 rfl (by decide) ?_) | (refine o_indexArr TtOk rfl rfl rfl rfl rfl rfl 6 rfl (by decide) ?_) | (refine o_indexArr TtOk rfl rfl rfl rfl rfl rfl 7 rfl (by decide) ?_) | (refine o_indexArr TtOk rfl rfl rfl rfl rfl rfl i rfl (by omega) ?_) | (refine o_loadAt TtOk rfl rfl rfl rfl (sub_arr gk) (by first | exact Nat.add_zero _ | rfl) ⟨rfl, rfl⟩ rfl rfl ?_) | (refine o_loadAt TtOk rfl rfl rfl rfl (sub_arr gw) (by first | exact Nat.add_zero _ | rfl) ⟨rfl, rfl⟩ rfl rfl ?_) | (refine o_buildArr TtOk rfl ((rnR ⟨a, b', c, d, e, f, g, h⟩ k w).L.map uI) rfl rfl rfl rfl rfl rfl ?_) | refine o_callE rfl (t1) ⟨nqS, nqS, True.intro⟩ rfl ?_ | refine o_callE rfl (t2) ⟨nqS, nqS, True.intro⟩ rfl ?_ | refine o_callE rfl (t3) ⟨nqS, nqS, True.intro⟩ rfl ?_ | refine o_callE rfl (t4) ⟨nqS, nqS, True.intro⟩ rfl ?_ | refine o_callE rfl (t5) ⟨nqS, nqS, True.intro⟩ rfl ?_ | refine o_callE rfl (t6) ⟨nqS, nqS, True.intro⟩ rfl ?_)
      exact ⟨i + 1, [], by omega, by omega, rfl, ⟨sle_i rfl, sle_i rfl, sle_sl rfl, sle_ptr, sle_ptr, sle_ptr, sle_ptr, sle_ptr, True.intro⟩, HLe.cons 8 rfl (HOLe.var (CLe.of_eq (by rw [hst]))) (HLe.cons 7 rfl (HOLe.refl _) (HLe.cons 3 rfl (HOLe.refl _) (HLe.cons 4 rfl (HOLe.refl _) (HLe.cons 2 rfl (HOLe.refl _) .nil))))⟩
    have hi64 : i = 64 := by omega
    have hV : rounds v (ks.take i) (X.take i) = rounds v ks X := by rw [List.take_of_length_le (by omega), List.take_of_length_le (by omega)]
    rw [hV]
    generalize rounds v ks X = V at hmx ⊢
    clear hV
    repeat' (first | refine Awp.seq ?_ | refine Awp.block ?_ | refine Awp.region ?_ | refine Ops.nil (nqA ?_) | refine Awp.exit (nqA ?_) | (refine o_calm rfl TtOk rfl rfl rfl ?_ (fun _ => ?_); exact nd) | (refine a_condP rfl (fun hc => ?_) (fun hc => ?_)) <;> (try (exfalso; omega)))
    refine Awp.loop (fun i : Nat => ⟨156, [(126, .i .i64 i), (6, .i .i64 ((64 * j : Nat) : Int)), (5, .sl 1 (Q.map byA)), (2, .ptr 2 b2 [] 0), (3, .ptr 3 b3 [] 0), (4, .ptr 4 b4 [] 0), (8, .ptr 8 b8 [] 0)], [(3, .var b3 (.arr 1 8 (((addV v V).L.take i ++ v.L.drop i).map uI))), (8, .var b8 (.arr 1 8 (V.L.map uI))), (4, .var b4 (.arr 1 64 (ks.map uI))), (2, .var b2 (.arr 1 32 (List.replicate 32 (.i .u8 0))))]⟩)
      (fun i => i ≤ 8) (fun i => 8 - i) [] 0 (Nat.zero_le _) ?_ ?_
    · exact ⟨rfl, ⟨sle_i rfl, sle_i rfl, sle_sl rfl, sle_ptr, sle_ptr, sle_ptr, sle_ptr, True.intro⟩, HLe.cons 3 rfl (HOLe.refl _) (HLe.cons 8 rfl (HOLe.refl _) (HLe.cons 4 rfl (HOLe.refl _) (HLe.cons 2 rfl (HOLe.refl _) .nil)))⟩
    clear hi64 hlt hi
    clear hc i
    intro i hi
    by_cases hlt : i < 8
    · obtain ⟨p, q, hs2, g0, g1⟩ := td_step (A := (addV v V).L) (B := v.L) (V := V.L) rfl rfl rfl (addV_get v V) i hlt
      generalize (addV v V).L.take i ++ v.L.drop i = Z at hs2 g0 ⊢
      repeat' (first | (refine o_add32 TtOk rfl rfl rfl rfl ?_) | refine Awp.seq ?_ | refine Awp.block ?_ | refine Awp.region ?_ | refine Ops.nil (nqA ?_) | refine Ops.nil (nqX ?_) | refine Awp.skip (nqA ?_) | (refine o_add rfl rfl rfl rfl ?_ ?_; omega) | (refine o_calm rfl TtOk rfl rfl rfl ?_ (fun _ => ?_); exact nd) | (refine a_condP rfl (fun hc => ?_) (fun hc => ?_)) <;> (try (exfalso; omega)) | refine a_any 20 [3] [131, 134] [] [0, 1, 3, 4, 2, 5, 6, 7, 8] (by kernel_rfl) (by kernel_rfl) (by kernel_rfl) rfl rfl rfl ?_ | (refine o_indexArr TtOk rfl rfl rfl rfl rfl rfl i rfl (by omega) ?_) | (refine o_loadAt TtOk rfl rfl rfl rfl (sub_arr g0) (by first | exact Nat.add_zero _ | rfl) ⟨rfl, rfl⟩ rfl rfl ?_) | (refine o_loadAt TtOk rfl rfl rfl rfl (sub_arr g1) (by first | exact Nat.add_zero _ | rfl) ⟨rfl, rfl⟩ rfl rfl ?_) | (refine o_storeArr TtOk rfl rfl rfl rfl rfl rfl ⟨rfl, rfl⟩ rfl rfl g0 rfl rfl ?_))
      exact ⟨i + 1, [], by omega, by omega, rfl, ⟨sle_i rfl, sle_i rfl, sle_sl rfl, sle_ptr, sle_ptr, sle_ptr, sle_ptr, True.intro⟩, HLe.cons 3 rfl (HOLe.var (CLe.of_eq (by rw [hs2, List.map_set]; rfl))) (HLe.cons 8 rfl (HOLe.refl _) (HLe.cons 4 rfl (HOLe.refl _) (HLe.cons 2 rfl (HOLe.refl _) .nil)))⟩
    have hi8 : i = 8 := by omega
    have hZ : (addV v V).L.take i ++ v.L.drop i = (addV v V).L := by rw [List.take_of_length_le (show 8 ≤ i by omega), List.drop_eq_nil_of_le (show 8 ≤ i by omega), List.append_nil]
    rw [hZ]
    repeat' (first | refine Awp.seq ?_ | refine Awp.region ?_ | refine Ops.nil (nqA ?_) | refine Ops.nil (nqX ?_) | refine Awp.exit (nqA ?_) | (refine o_add rfl rfl rfl rfl ?_ ?_; omega) | (refine o_calm rfl TtOk rfl rfl rfl ?_ (fun _ => ?_); exact nd) | (refine a_condP rfl (fun hc => ?_) (fun hc => ?_)) <;> (try (exfalso; omega)))
    exact ⟨(j + 1, addV v V), [], ⟨hjm, addV_ok _ _, by show mixN ks (M - (j + 1)) (addV v V) (Q.drop (64 * (j + 1))) = W; rw [show M - (j + 1) = m by omega, show 64 * (j + 1) = 64 * j + 64 by omega]; exact hmx⟩, by show M - (j + 1) < M - j; omega, rfl, ⟨sle_i (by omega), sle_sl rfl, sle_ptr, sle_ptr, sle_ptr, True.intro⟩, HLe.cons 3 rfl (HOLe.refl _) (HLe.cons 4 rfl (HOLe.refl _) (HLe.cons 2 rfl (HOLe.refl _) .nil))⟩
  · have hmz : M - j = 0 := by omega
    rw [hmz] at hmx
    have hmx : v = W := hmx
    subst hmx
    repeat' (first | refine Awp.seq ?_ | refine Awp.block ?_ | refine Awp.region ?_ | refine Ops.nil (nqA ?_) | refine Awp.exit (nqA ?_) | refine o_len rfl TtOk rfl rfl rfl (fun _ => ?_) | (refine o_calm rfl TtOk rfl rfl rfl ?_ (fun _ => ?_); exact nd) | refine o_alloc (d := 16) rfl TtOk rfl rfl rfl (fun b16 => ?_) | refine o_store TtOk rfl rfl rfl rfl rfl rfl rfl ⟨rfl, rfl⟩ rfl rfl rfl rfl rfl ?_ | refine o_buildArr0 TtOk rfl rfl rfl rfl ?_ | (refine a_condP rfl (fun hc => ?_) (fun hc => ?_)) <;> (try (exfalso; omega)))
    refine Awp.loop (fun i : Nat => ⟨156, [(139, .i .i64 i), (16, .ptr 16 b16 [] 0), (3, .ptr 3 b3 [] 0), (2, .ptr 2 b2 [] 0)], [(16, .var b16 (.arr 1 32 ((outL v i).map byA))), (3, .var b3 (.arr 1 8 (v.L.map uI))), (2, .var b2 (.arr 1 32 (List.replicate 32 (.i .u8 0))))]⟩)
      (fun i => i ≤ 32) (fun i => 32 - i) [] 0 (Nat.zero_le _) ?_ ?_
    · exact ⟨rfl, ⟨sle_i rfl, sle_ptr, sle_ptr, sle_ptr, True.intro⟩, HLe.cons 16 rfl (HOLe.refl _) (HLe.cons 3 rfl (HOLe.refl _) (HLe.cons 2 rfl (HOLe.refl _) .nil))⟩
    intro i hi
    by_cases hlt : i < 32
    · have hset := outL_set v i hlt
      have hol := outL_len v i hi
      have hvl : v.L.length = 8 := rfl
      have g0 : (v.L.map uI)[i / 4]? = some (uI (v.L.getD (i / 4) 0)) := by
        have h4 : i / 4 < v.L.length := by omega
        rw [List.getD_eq_getElem?_getD, List.getElem?_eq_getElem h4]
        exact getq_map (List.getElem?_eq_getElem h4)
      have hob : outB v i = UInt8.ofNat (((v.L.getD (i / 4) 0).fdiv (2 ^ (24 - 8 * (i % 4)))) % 256).toNat := rfl
      generalize v.L.getD (i / 4) 0 = z at g0 hob
      have hst0 : ((outL v i).map byA)[i]? = some (byA ((outL v i)[i]'(by omega))) := getq_map (List.getElem?_eq_getElem (by omega))
      repeat' (first | refine Awp.seq ?_ | refine Awp.block ?_ | refine Awp.region ?_ | refine Ops.nil (nqA ?_) | refine Ops.nil (nqX ?_) | refine Awp.skip (nqA ?_) | (refine o_add rfl rfl rfl rfl ?_ ?_; omega) | (refine o_sub rfl rfl rfl rfl ?_ ?_; omega) | (refine o_mul rfl rfl rfl rfl ?_ ?_; omega) | (refine o_quo rfl rfl rfl rfl ?_ ?_ ?_; omega; omega) | (refine o_rem rfl rfl rfl rfl ?_ ?_ ?_; omega; omega) | (refine o_calm rfl TtOk rfl rfl rfl ?_ (fun _ => ?_); exact nd) | (refine a_condP rfl (fun hc => ?_) (fun hc => ?_)) <;> (try (exfalso; omega)) | (refine o_indexArr TtOk rfl rfl rfl rfl rfl rfl i rfl (by omega) ?_) | (refine o_indexArr TtOk rfl rfl rfl rfl rfl rfl (i/4) rfl (by omega) ?_) | (refine o_loadAt TtOk rfl rfl rfl rfl (sub_arr g0) (by first | exact Nat.add_zero _ | rfl) ⟨rfl, rfl⟩ rfl rfl ?_) | (refine o_storeArr TtOk rfl rfl rfl rfl rfl rfl ⟨rfl, rfl⟩ rfl rfl hst0 rfl rfl ?_))
      have hz : AV.i .u8 (IntKind.u8.wrap (z.fdiv (2 ^ (min (24 - (i : Int) % 4 * 8).toNat (IntKind.bits .u32))))) = byA (outB v i) := by
        rw [show min (24 - (i : Int) % 4 * 8).toNat (IntKind.bits .u32) = 24 - 8 * (i % 4) by rw [show IntKind.bits .u32 = 32 from rfl]; omega, hob, wrapB]
      refine ⟨i + 1, [], by omega, by omega, rfl, ⟨sle_i rfl, sle_ptr, sle_ptr, sle_ptr, True.intro⟩, HLe.cons 16 rfl (HOLe.var (CLe.of_eq ?_)) (HLe.cons 3 rfl (HOLe.refl _) (HLe.cons 2 rfl (HOLe.refl _) .nil))⟩
      show AV.arr 1 32 (((outL v i).map byA).set i (AV.i .u8 (IntKind.u8.wrap (z.fdiv (2 ^ (min (24 - (i : Int) % 4 * 8).toNat (IntKind.bits .u32))))))) = _
      rw [hz, hset, List.map_set]
    · have hie : i = 32 := by omega
      have hoo : outL v i = outL v 32 := by rw [hie]
      rw [hoo]
      clear hie hoo
      generalize outL v 32 = out
      repeat' (first | refine Awp.seq ?_ | refine Awp.region ?_ | refine Ops.nil (nqA ?_) | refine Awp.exit (nqA ?_) | refine Awp.ret (nqE ?_) | (refine o_calm rfl TtOk rfl rfl rfl ?_ (fun _ => ?_); exact nd) | refine o_store TtOk rfl rfl rfl rfl rfl rfl rfl ⟨rfl, rfl⟩ rfl rfl rfl rfl rfl ?_ | (refine a_condP rfl (fun hc => ?_) (fun hc => ?_)) <;> (try (exfalso; omega)))
      refine end_all [] [] (labA out) rfl ?_ ?_ (rle_one (CLe.refl _) rfl) .nil ⟨rfl, rfl⟩ _ (.inl rfl)
      · exact nq1
      · exact ⟨trivial, trivial⟩
end Go.Proofs.YtcmgpkibjdbonaaGreat
set_option maxHeartbeats 8000000
set_option maxRecDepth 100000
namespace Go.Proofs.YtcmgpkibjdbonaaGreat
open Go Go.RowKit
/-- An item as the document's. -/
def Itm.R (x : Itm) : AV := .agg [.i .i64 x.n, labA x.l, labA x.s, .i .i64 x.t]
def egt (U : Nat) : Nat → List UInt8
  | 0 => []
  | i + 1 => UInt8.ofNat (U / 256 ^ i % 256) :: egt U i
def u64N (n : Int) : Nat := (IntKind.u64.wrap n).toNat
theorem u64N_eq (n : Int) : IntKind.u64.wrap n = (u64N n : Nat) := by
  unfold u64N
  have : 0 ≤ IntKind.u64.wrap n := by show 0 ≤ n % 18446744073709551616; omega
  omega
theorem nB_eq (n : Int) (i : Nat) (h : i < 8) : nB n i = UInt8.ofNat (u64N n / 256 ^ (7 - i) % 256) := by
  unfold nB
  rw [u64N_eq, fdiv_pow, show 56 - 8 * i = 8 * (7 - i) by omega, Nat.pow_mul]
  show UInt8.ofNat _ = UInt8.ofNat _
  congr 1
theorem num8_egt (n : Int) : num8 n = egt (u64N n) 8 := by
  unfold num8 nBs
  rw [show List.range 8 = [0, 1, 2, 3, 4, 5, 6, 7] from rfl]
  simp only [List.map_cons, List.map_nil]
  rw [nB_eq n 0 (by decide), nB_eq n 1 (by decide), nB_eq n 2 (by decide), nB_eq n 3 (by decide), nB_eq n 4 (by decide), nB_eq n 5 (by decide), nB_eq n 6 (by decide), nB_eq n 7 (by decide)]
  rfl
theorem egt_len (U : Nat) : ∀ i, (egt U i).length = i
  | 0 => rfl
  | i + 1 => by unfold egt; rw [List.length_cons, egt_len U i]
theorem tmodB (x : Nat) : [AV.i .u8 (IntKind.u8.wrap (Int.tmod (x : Int) 256))] = [UInt8.ofNat (x % 256)].map byA := by
  rw [show Int.tmod (x : Int) 256 = ((x % 256 : Nat) : Int) from rfl, byA_nt]; rfl
theorem tdiv64 (x : Nat) (h : x < 18446744073709551616) : IntKind.u64.wrap (Int.tdiv (x : Int) 256) = ((x / 256 : Nat) : Int) := by
  rw [show Int.tdiv (x : Int) 256 = ((x / 256 : Nat) : Int) from rfl, uwrap_lt (by omega)]
theorem eight_spec (n : Int) : Spec Tryz.prog 175 [.i .i64 n] [] (fun v os => v = .s (num8 n) ∧ os = []) := by
  refine spec_of TtOk [] Tryz.func175 rfl Tryz.ntmps175 (by kernel_rfl) rfl rfl (fun C => ?_) rfl
  rw [num8_egt]
  have hu := u64N_eq n
  have hlt : u64N n < 18446744073709551616 := by
    have : IntKind.u64.wrap n < 18446744073709551616 := by show n % 18446744073709551616 < _; omega
    omega
  generalize u64N n = U at hu hlt ⊢
  repeat' (first | (rw [hu]) | refine Awp.seq ?_ | refine Awp.block ?_ | refine Awp.region ?_ | refine Ops.nil (nqA ?_) | (refine o_calm rfl TtOk rfl rfl rfl ?_ (fun _ => ?_); exact nd))
  refine Awp.loop (fun i : Nat => ⟨22, [(5, .i .i64 i), (4, .i .u64 ((U / 256 ^ i : Nat) : Int)), (3, .s (egt U i))], []⟩) (fun i => i ≤ 8) (fun i => 8 - i) [] 0 (Nat.zero_le _) ?_ ?_
  · exact ⟨rfl, ⟨sle_i rfl, sle_i (by rw [Nat.pow_zero, Nat.div_one]), sle_s rfl, True.intro⟩, .nil⟩
  intro i hi
  have hle : U / 256 ^ i < 18446744073709551616 := Nat.lt_of_le_of_lt (Nat.div_le_self _ _) hlt
  by_cases h8 : i < 8
  · have hq := tdiv64 _ hle
    have hm := tmodB (U / 256 ^ i)
    have hs : egt U (i + 1) = [UInt8.ofNat (U / 256 ^ i % 256)] ++ egt U i := rfl
    have hp : U / 256 ^ (i + 1) = U / 256 ^ i / 256 := by rw [Nat.pow_succ, Nat.div_div_eq_div_mul]
    have hl := egt_len U i
    rw [← hp] at hq
    generalize UInt8.ofNat (U / 256 ^ i % 256) = y at hm hs
    generalize egt U i = E at hs hl ⊢
    generalize ((U / 256 ^ i : Nat) : Int) = z at hq hm ⊢
    repeat' (first | (refine o_toString TtOk rfl rfl rfl rfl rfl (by first | exact True.intro | exact rfl) rfl rfl rfl (s := [y]) hm ?_) | refine Awp.seq ?_ | refine Awp.block ?_ | refine Awp.region ?_ | refine Ops.nil (nqA ?_) | refine Ops.nil (nqX ?_) | refine Awp.skip (nqA ?_) | (refine o_add rfl rfl rfl rfl ?_ ?_; omega) | (refine o_calm rfl TtOk rfl rfl rfl ?_ (fun _ => ?_); exact nd) | (refine o_calm rfl TtOk rfl rfl rfl ?_ (fun _ => ?_); (show List.length _ + List.length _ ≤ 9223372036854775807; (repeat' (first | rw [List.length_append] | rw [List.length_map] | rw [List.length_cons] | rw [List.length_nil] | rw [List.length_take] | rw [List.length_drop])) <;> omega)) | refine o_buildSlice TtOk rfl rfl rfl rfl rfl rfl rfl rfl rfl rfl rfl nq1 (fun _ => ?_) | (refine a_condP rfl (fun hc => ?_) (fun hc => ?_)) <;> (try (exfalso; omega)))
    exact ⟨i + 1, [], by omega, by omega, rfl, ⟨sle_i (by omega), sle_i hq, sle_s (by rw [hs]), True.intro⟩, .nil⟩
  · have hie : i = 8 := by omega
    subst hie
    generalize egt U 8 = E
    repeat' (first | refine Awp.seq ?_ | refine Awp.region ?_ | refine Ops.nil (nqA ?_) | refine Awp.exit (nqA ?_) | refine Awp.ret (nqE ?_) | (refine o_calm rfl TtOk rfl rfl rfl ?_ (fun _ => ?_); exact nd) | refine a_condF rfl ?_)
    exact nq2
theorem rtextI_spec (x : Itm) (hx : x.ok) : Spec Tryz.prog 176 [x.R] [] (fun v os => v = .s (txtI x) ∧ os = []) := by
  obtain ⟨n, l, s, t⟩ := x
  obtain ⟨hl, hs⟩ := hx
  dsimp only at hl hs
  show Spec Tryz.prog 176 [.agg [.i .i64 n, labA l, labA s, .i .i64 t]] [] (fun v os => v = .s (((num8 n ++ l) ++ s) ++ num8 t) ∧ os = [])
  refine spec_of TtOk [] Tryz.func176 rfl Tryz.ntmps176 (by kernel_rfl) rfl rfl (fun C => ?_) rfl
  have h1 := eight_spec n
  have h2 := eight_spec t
  have n1 := num8_len n
  have n2 := num8_len t
  generalize num8 n = a at h1 n1 ⊢
  generalize num8 t = b at h2 n2 ⊢
  repeat' (first | (refine a_freezeV 1 1 rfl rfl rfl ?_) | refine Awp.seq ?_ | refine Awp.region ?_ | refine Ops.nil (nqA ?_) | refine Awp.ret (nqE ?_) | (refine o_calm rfl TtOk rfl rfl rfl ?_ (fun _ => ?_); exact nd) | refine o_box (d := 1) rfl rfl rfl rfl (fun b1 => ?_) | (refine o_calm rfl TtOk rfl rfl rfl ?_ (fun _ => ?_); (show List.length _ + List.length _ ≤ 9223372036854775807; (repeat' (first | rw [List.length_append] | rw [List.length_map] | rw [List.length_cons] | rw [List.length_nil] | rw [List.length_take] | rw [List.length_drop])) <;> omega)) | refine o_sliceCp TtOk rfl rfl rfl rfl rfl rfl ?_ | refine o_toString TtOk rfl rfl rfl rfl rfl (by first | exact True.intro | exact rfl) rfl rfl rfl rfl ?_ | refine a_any 1 [] [] [] [0, 3, 4, 5, 7, 8, 9, 11, 1, 12, 2, 6, 10, 13, 14, 15] (by kernel_rfl) (by kernel_rfl) (by kernel_rfl) rfl rfl rfl ?_ | refine o_callE rfl (h1) ⟨nqS, True.intro⟩ rfl ?_ | refine o_callE rfl (h2) ⟨nqS, True.intro⟩ rfl ?_)
  exact nq2
theorem rleafB_spec (x : Lef) (hx : x.ok) : Spec Tryz.prog 86 [x.A] [] (fun v os => v = .s (leafB x) ∧ os = []) := by
  obtain ⟨l, u, t⟩ := x
  obtain ⟨hl, hu⟩ := hx
  dsimp only at hl hu
  show Spec Tryz.prog 86 [.agg [labA l, labA u, .i .i64 t]] [] (fun v os => v = .s (jnB 16 [l, u, num8 t]) ∧ os = [])
  refine spec_of TtOk [] Tryz.func86 rfl Tryz.ntmps86 (by kernel_rfl) rfl rfl (fun C => ?_) rfl
  have h1 := eight_spec t
  have n1 := num8_len t
  generalize num8 t = a at h1 n1 ⊢
  have h2 := rbytes_spec 16 [l, u, a] (show 3 ≤ 1000 by decide) (fun q hq => by
    rcases List.mem_cons.1 hq with rfl | hq
    · omega
    · rcases List.mem_cons.1 hq with rfl | hq
      · omega
      · have := List.mem_singleton.1 hq; subst this; omega)
  repeat' (first | (refine o_freezeR 12 12 rfl rfl rfl ?_) | (refine a_freezeV 1 1 rfl rfl rfl ?_) | refine Awp.seq ?_ | refine Awp.region ?_ | refine Ops.nil (nqA ?_) | refine Awp.ret (nqE ?_) | (refine o_calm rfl TtOk rfl rfl rfl ?_ (fun _ => ?_); exact nd) | refine o_box (d := 1) rfl rfl rfl rfl (fun b1 => ?_) | refine o_buildSlice TtOk rfl rfl rfl rfl rfl rfl rfl rfl rfl rfl rfl nq1 (fun _ => ?_) | refine o_sliceCp TtOk rfl rfl rfl rfl rfl rfl ?_ | refine o_toString TtOk rfl rfl rfl rfl rfl (by first | exact True.intro | exact rfl) rfl rfl rfl rfl ?_ | refine a_any 1 [] [] [] [0, 1, 2, 3, 4, 5, 6, 7, 8, 9, 10, 11] (by kernel_rfl) (by kernel_rfl) (by kernel_rfl) rfl rfl rfl ?_ | refine o_callE rfl (h1) ⟨nqS, True.intro⟩ rfl ?_ | refine o_callE rfl (h2) ⟨nqS, nqS, True.intro⟩ rfl ?_)
  exact nq2
theorem rinnB_spec (x y : Itm) (hx : x.ok) (hy : y.ok) : Spec Tryz.prog 89 [x.R, y.R] [] (fun v os => v = .s (innB x y) ∧ os = []) := by
  refine spec_of TtOk [] Tryz.func89 rfl Tryz.ntmps89 (by kernel_rfl) rfl rfl (fun C => ?_) rfl
  have h1 := rtextI_spec x hx
  have h2 := rtextI_spec y hy
  have l1 := txtI_len x hx
  have l2 := txtI_len y hy
  have hi : innB x y = jnB 17 [txtI x, txtI y] := rfl
  rw [hi]
  generalize txtI x = a at h1 l1 ⊢
  generalize txtI y = b at h2 l2 ⊢
  have h3 := rbytes_spec 17 [a, b] (show 2 ≤ 1000 by decide) (fun q hq => by
    rcases List.mem_cons.1 hq with rfl | hq
    · omega
    · have := List.mem_singleton.1 hq; subst this; omega)
  repeat' (first | (refine o_freezeR 9 9 rfl rfl rfl ?_) | refine Awp.seq ?_ | refine Awp.region ?_ | refine Ops.nil (nqA ?_) | refine Awp.ret (nqE ?_) | (refine o_calm rfl TtOk rfl rfl rfl ?_ (fun _ => ?_); exact nd) | refine o_box (d := 2) rfl rfl rfl rfl (fun b2 => ?_) | refine o_box (d := 3) rfl rfl rfl rfl (fun b3 => ?_) | refine o_buildSlice TtOk rfl rfl rfl rfl rfl rfl rfl rfl rfl rfl rfl nq1 (fun _ => ?_) | refine a_any 1 [] [] [] [0, 2, 1, 3, 4, 5, 6] (by kernel_rfl) (by kernel_rfl) (by kernel_rfl) rfl rfl rfl ?_ | refine o_callE rfl (h1) ⟨nqS, True.intro⟩ rfl ?_ | refine o_callE rfl (h2) ⟨nqS, True.intro⟩ rfl ?_ | refine o_callE rfl (h3) ⟨nqS, nqS, True.intro⟩ rfl ?_)
  exact nq2
theorem rgood15_spec (x : Itm) (hx : x.ok) : Spec Tryz.prog 121 [x.R] [] (fun v os => v = .b (goodI x) ∧ os = []) := by
  have h1 := rgood1_spec x.n x.l hx.1
  have hg : goodI x = (goodP ⟨x.n, x.l⟩ && (decide (0 ≤ x.t) && decide (x.t ≤ 1073741824))) := rfl
  rw [hg]
  generalize goodP ⟨x.n, x.l⟩ = g at h1
  obtain ⟨n, l, s, t⟩ := x
  dsimp only at h1 ⊢
  show Spec Tryz.prog 121 [.agg [.i .i64 n, labA l, labA s, .i .i64 t]] [] _
  refine spec_of TtOk [] Tryz.func121 rfl Tryz.ntmps121 (by kernel_rfl) rfl rfl (fun C => ?_) rfl
  cases g
  · repeat' (first | refine Awp.seq ?_ | refine Awp.region ?_ | refine Ops.nil (nqA ?_) | refine Awp.ret (nqE ?_) | refine o_noT rfl rfl rfl ?_ | (refine o_calm rfl TtOk rfl rfl rfl ?_ (fun _ => ?_); exact nd) | refine o_box (d := 1) rfl rfl rfl rfl (fun b1 => ?_) | refine o_callE rfl (h1) ⟨nqS, nqS, True.intro⟩ rfl ?_)
    exact nq2
  · by_cases ht : 0 ≤ t
    · rw [decide_eq_true ht]
      repeat' (first | refine Awp.seq ?_ | refine Awp.region ?_ | refine Ops.nil (nqA ?_) | refine Awp.ret (nqE ?_) | (refine o_calm rfl TtOk rfl rfl rfl ?_ (fun _ => ?_); exact nd) | refine o_box (d := 1) rfl rfl rfl rfl (fun b1 => ?_) | (fail_if_success (refine o_isLit rfl (by first | exact .inl rfl | exact .inr rfl) ?_)); (refine o_splitP rfl rfl (fun hc => ?_) (fun hc => ?_) <;> try (exfalso; omega)) | refine o_callE rfl (h1) ⟨nqS, nqS, True.intro⟩ rfl ?_)
      exact nq2
    · rw [decide_eq_false ht]
      repeat' (first | refine Awp.seq ?_ | refine Awp.region ?_ | refine Ops.nil (nqA ?_) | refine Awp.ret (nqE ?_) | refine o_noT rfl rfl rfl ?_ | (refine o_calm rfl TtOk rfl rfl rfl ?_ (fun _ => ?_); exact nd) | refine o_box (d := 1) rfl rfl rfl rfl (fun b1 => ?_) | (fail_if_success (refine o_isLit rfl (by first | exact .inl rfl | exact .inr rfl) ?_)); (refine o_splitP rfl rfl (fun hc => ?_) (fun hc => ?_) <;> try (exfalso; omega)) | refine o_callE rfl (h1) ⟨nqS, nqS, True.intro⟩ rfl ?_)
      exact nq2
def overR (a b : Itm) : Bool := decide (a.n ≤ b.n) && decide ((comL a.l b.l : Nat) ≥ a.n)
theorem rover_spec (x y : Itm) (hx : x.ok) (hy : y.ok) : Spec Tryz.prog 158 [x.R, y.R] [] (fun v os => v = .b (overR x y) ∧ os = []) := by
  have h1 := rcommon_spec x.l y.l hx.1 hy.1
  have ho : overR x y = (decide (x.n ≤ y.n) && decide ((comL x.l y.l : Nat) ≥ x.n)) := rfl
  rw [ho]
  generalize comL x.l y.l = c at h1
  obtain ⟨n, l, s, t⟩ := x
  obtain ⟨n2, l2, s2, t2⟩ := y
  dsimp only at h1 ⊢
  show Spec Tryz.prog 158 [.agg [.i .i64 n, labA l, labA s, .i .i64 t], .agg [.i .i64 n2, labA l2, labA s2, .i .i64 t2]] [] _
  refine spec_of TtOk [] Tryz.func158 rfl Tryz.ntmps158 (by kernel_rfl) rfl rfl (fun C => ?_) rfl
  by_cases hn : n ≤ n2
  · rw [decide_eq_true hn]
    repeat' (first | refine Awp.seq ?_ | refine Awp.region ?_ | refine Ops.nil (nqA ?_) | refine Awp.ret (nqE ?_) | (refine o_calm rfl TtOk rfl rfl rfl ?_ (fun _ => ?_); exact nd) | refine o_box (d := 2) rfl rfl rfl rfl (fun b2 => ?_) | refine o_box (d := 3) rfl rfl rfl rfl (fun b3 => ?_) | (fail_if_success (refine o_isLit rfl (by first | exact .inl rfl | exact .inr rfl) ?_)); (refine o_splitP rfl rfl (fun hc => ?_) (fun hc => ?_) <;> try (exfalso; omega)) | refine a_any 1 [] [] [] [0, 2, 1, 3, 4, 5, 6, 8, 11, 7, 9, 12, 10, 13, 14, 15] (by kernel_rfl) (by kernel_rfl) (by kernel_rfl) rfl rfl rfl ?_ | refine o_callE rfl (h1) ⟨nqS, nqS, True.intro⟩ rfl ?_)
    exact nq2
  · rw [decide_eq_false hn]
    repeat' (first | refine Awp.seq ?_ | refine Awp.region ?_ | refine Ops.nil (nqA ?_) | refine Awp.ret (nqE ?_) | refine o_noT rfl rfl rfl ?_ | (refine o_calm rfl TtOk rfl rfl rfl ?_ (fun _ => ?_); exact nd) | refine o_box (d := 2) rfl rfl rfl rfl (fun b2 => ?_) | refine o_box (d := 3) rfl rfl rfl rfl (fun b3 => ?_) | (fail_if_success (refine o_isLit rfl (by first | exact .inl rfl | exact .inr rfl) ?_)); (refine o_splitP rfl rfl (fun hc => ?_) (fun hc => ?_) <;> try (exfalso; omega)) | refine a_any 1 [] [] [] [0, 2, 1, 3, 4, 5, 6, 8, 11, 7, 9, 12, 10, 13, 14, 15] (by kernel_rfl) (by kernel_rfl) (by kernel_rfl) rfl rfl rfl ?_)
    exact nq2
theorem rinner_spec (x y : Itm) (hx : x.ok) (hy : y.ok) : Spec Tryz.prog 90 [x.R, y.R] [] (fun v os => v = (innI x y).R ∧ os = []) := by
  have h1 := rcommon_spec x.l y.l hx.1 hy.1
  have hcl : clamp ((comL x.l y.l : Nat) : Int) = comL x.l y.l := by have := comL_256 (b := y.l) hx.1; unfold clamp; omega
  have h2 := rcut_spec x.l hx.1 ((comL x.l y.l : Nat) : Int)
  rw [hcl] at h2
  have h3 := rinnB_spec x y hx hy
  have h4 := rsum_spec (innB x y) (by have := innB_len x y hx hy; omega)
  have hA : (innI x y).R = .agg [.i .i64 (comL x.l y.l : Nat), labA (cutL x.l (comL x.l y.l)), labA (shaN (innB x y)), .i .i64 (if y.t > x.t then y.t else x.t)] := rfl
  rw [hA]
  generalize innB x y = b at h3 h4
  generalize shaN b = s at h4
  generalize comL x.l y.l = c at h1 h2
  generalize cutL x.l c = cl at h2
  obtain ⟨n, l, s1, t⟩ := x
  obtain ⟨n2, l2, s2, t2⟩ := y
  dsimp only at h1 h2 ⊢
  have h3 : Spec Tryz.prog 89 [.agg [.i .i64 n, labA l, labA s1, .i .i64 t], .agg [.i .i64 n2, labA l2, labA s2, .i .i64 t2]] [] (fun v os => v = .s b ∧ os = []) := h3
  show Spec Tryz.prog 90 [.agg [.i .i64 n, labA l, labA s1, .i .i64 t], .agg [.i .i64 n2, labA l2, labA s2, .i .i64 t2]] [] _
  refine spec_of TtOk [] Tryz.func90 rfl Tryz.ntmps90 (by kernel_rfl) rfl rfl (fun C => ?_) rfl
  repeat' (first | refine Awp.seq ?_ | refine Awp.region ?_ | refine Ops.nil (nqA ?_) | refine Awp.ret (nqE ?_) | (refine o_calm rfl TtOk rfl rfl rfl ?_ (fun _ => ?_); exact nd) | refine o_alloc (d := 4) rfl TtOk rfl rfl rfl (fun b4 => ?_) | refine o_box (d := 2) rfl rfl rfl rfl (fun b2 => ?_) | refine o_box (d := 3) rfl rfl rfl rfl (fun b3 => ?_) | refine o_store TtOk rfl rfl rfl rfl rfl rfl rfl ⟨rfl, rfl⟩ rfl rfl rfl rfl rfl ?_ | refine o_build TtOk rfl rfl rfl rfl rfl rfl nq1 ?_ | refine a_any 2 [4] [13, 16, 17, 21, 23] [15, 18, 19] [0, 1, 3, 9, 11, 2, 5, 6, 10, 12, 13, 4, 7, 8, 14, 15] (by kernel_rfl) (by kernel_rfl) (by kernel_rfl) rfl rfl rfl ?_ | refine o_callE rfl (h1) ⟨nqS, nqS, True.intro⟩ rfl ?_ | refine o_callE rfl (h2) ⟨nqS, nqS, True.intro⟩ rfl ?_ | refine o_callE rfl (h3) ⟨nqS, nqS, True.intro⟩ rfl ?_ | refine o_callE rfl (h4) ⟨nqS, True.intro⟩ rfl ?_)
  all_goals
    refine end_all [] [] (.agg [.i .i64 (c : Nat), labA cl, labA s, .i .i64 (if t2 > t then t2 else t)]) rfl ?_ ?_ (rle_one (CLe.of_eq rfl) rfl) .nil ⟨rfl, rfl⟩ _ (.inl rfl)
    · exact nq1
    · exact ⟨trivial, trivial⟩
theorem rleaf_spec (x : Lef) (hx : x.ok) : Spec Tryz.prog 87 [x.A] [] (fun v os => v = (leafI x).R ∧ os = []) := by
  have h2 := rleafB_spec x hx
  have h3 := rsum_spec (leafB x) (by have := leafB_len x hx; omega)
  have hA : (leafI x).R = .agg [.i .i64 256, labA x.l, labA (shaN (leafB x)), .i .i64 x.t] := rfl
  rw [hA]
  generalize leafB x = b at h2 h3
  generalize shaN b = s at h3
  obtain ⟨l, u, t⟩ := x
  have h2 : Spec Tryz.prog 86 [.agg [labA l, labA u, .i .i64 t]] [] (fun v os => v = .s b ∧ os = []) := h2
  show Spec Tryz.prog 87 [.agg [labA l, labA u, .i .i64 t]] [] _
  refine spec_of TtOk [] Tryz.func87 rfl Tryz.ntmps87 (by kernel_rfl) rfl rfl (fun C => ?_) rfl
  repeat' (first | refine Awp.seq ?_ | refine Awp.region ?_ | refine Ops.nil (nqA ?_) | refine Awp.ret (nqE ?_) | (refine o_calm rfl TtOk rfl rfl rfl ?_ (fun _ => ?_); exact nd) | refine o_alloc (d := 2) rfl TtOk rfl rfl rfl (fun b2 => ?_) | refine o_box (d := 1) rfl rfl rfl rfl (fun b1 => ?_) | refine o_store TtOk rfl rfl rfl rfl rfl rfl rfl ⟨rfl, rfl⟩ rfl rfl rfl rfl rfl ?_ | refine o_build TtOk rfl rfl rfl rfl rfl rfl nq1 ?_ | refine a_any 1 [2] [4, 5, 9] [6, 7] [0, 5, 1, 2, 6, 3, 4, 7, 8] (by kernel_rfl) (by kernel_rfl) (by kernel_rfl) rfl rfl rfl ?_ | refine o_callE rfl (h2) ⟨nqS, True.intro⟩ rfl ?_ | refine o_callE rfl (h3) ⟨nqS, True.intro⟩ rfl ?_)
  refine end_all [] [] (.agg [.i .i64 256, labA l, labA s, .i .i64 t]) rfl ?_ ?_ (rle_one (CLe.of_eq rfl) rfl) .nil ⟨rfl, rfl⟩ _ (.inl rfl)
  · exact nq1
  · exact ⟨trivial, trivial⟩
theorem told15_spec (x : Itm) : Spec Tryz.prog 74 [x.A] [] (fun v os => v = x.R ∧ os = []) := by
  obtain ⟨n, l, s, t⟩ := x
  show Spec Tryz.prog 74 [.agg [pfxA n l, labA s, .i .i64 t]] [] (fun v os => v = .agg [.i .i64 n, labA l, labA s, .i .i64 t] ∧ os = [])
  refine spec_of TtOk [] Tryz.func74 rfl Tryz.ntmps74 (by kernel_rfl) rfl rfl (fun C => ?_) rfl
  repeat' (first | refine Awp.seq ?_ | refine Awp.region ?_ | refine Ops.nil (nqA ?_) | refine Awp.ret (nqE ?_) | (refine o_calm rfl TtOk rfl rfl rfl ?_ (fun _ => ?_); exact nd) | refine o_alloc (d := 2) rfl TtOk rfl rfl rfl (fun b2 => ?_) | refine o_box (d := 1) rfl rfl rfl rfl (fun b1 => ?_) | refine o_store TtOk rfl rfl rfl rfl rfl rfl rfl ⟨rfl, rfl⟩ rfl rfl rfl rfl rfl ?_ | refine o_build TtOk rfl rfl rfl rfl rfl rfl nq1 ?_)
  refine end_all [] [] (.agg [.i .i64 n, labA l, labA s, .i .i64 t]) rfl ?_ ?_ (rle_one (CLe.of_eq rfl) rfl) .nil ⟨rfl, rfl⟩ _ (.inl rfl)
  · exact nq1
  · exact ⟨trivial, trivial⟩
end Go.Proofs.YtcmgpkibjdbonaaGreat
