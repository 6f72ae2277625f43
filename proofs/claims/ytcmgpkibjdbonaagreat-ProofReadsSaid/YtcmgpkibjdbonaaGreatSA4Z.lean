/- SHA-256: sha.Sum by rules. -/
import Derived.Test.YtcmgpkibjdbonaaGreatV27Z
set_option maxHeartbeats 16000000
set_option maxRecDepth 100000
namespace Go.Proofs.YtcmgpkibjdbonaaGreat
open Go Go.RowKit
def zc (n : Nat) : Nat := (119 - n % 64) % 64
def lenB (n k : Nat) : List UInt8 := (List.range k).map (fun j => UInt8.ofNat (8 * n / 2 ^ (56 - 8 * j)))
theorem lenB_succ (n k : Nat) : lenB n (k + 1) = lenB n k ++ [UInt8.ofNat (8 * n / 2 ^ (56 - 8 * k))] := by unfold lenB; rw [List.range_succ, List.map_append]; rfl
theorem lenB_len (n k : Nat) : (lenB n k).length = k := by simp [lenB]
def padL (s : List UInt8) : List UInt8 := ((s ++ [128]) ++ List.replicate (zc s.length) 0) ++ lenB s.length 8
theorem padL_len (s : List UInt8) : ∃ m, (padL s).length = 64 * m ∧ 64 * m ≤ s.length + 73 := by
  have h : (padL s).length = s.length + 1 + zc s.length + 8 := by
    unfold padL; rw [List.length_append, List.length_append, List.length_append, List.length_replicate, lenB_len]; rfl
  unfold zc at h
  exact ⟨(padL s).length / 64, by omega, by omega⟩
def mixN (ks : List Int) : Nat → V8 → List UInt8 → V8
  | 0, v, _ => v
  | n + 1, v, P => mixN ks n (mixV v (P.take 64) ks) (P.drop 64)
def outB (v : V8) (j : Nat) : UInt8 := UInt8.ofNat (((v.L.getD (j / 4) 0).fdiv (2 ^ (24 - 8 * (j % 4)))) % 256).toNat
def outL (v : V8) (i : Nat) : List UInt8 := (List.range i).map (outB v) ++ List.replicate (32 - i) 0
theorem outL_len (v : V8) (i : Nat) (h : i ≤ 32) : (outL v i).length = 32 := by unfold outL; rw [List.length_append, List.length_map, List.length_range, List.length_replicate]; omega
theorem outL_set (v : V8) (i : Nat) (h : i < 32) : outL v (i + 1) = (outL v i).set i (outB v i) := by
  unfold outL
  have hr : List.replicate (32 - i) (0 : UInt8) = 0 :: List.replicate (32 - (i + 1)) 0 := by rw [show 32 - i = (32 - (i + 1)) + 1 by omega, List.replicate_succ]
  rw [hr, List.range_succ, List.map_append, List.set_append, if_neg (by simp), List.length_map, List.length_range, Nat.sub_self, List.append_assoc]; rfl
def shaN (s : List UInt8) : List UInt8 := outL (mixN ksC ((padL s).length / 64) ivC (padL s)) 32
theorem shaN_len (s : List UInt8) : (shaN s).length = 32 := outL_len _ _ (Nat.le_refl _)
theorem byA_nt (n : Nat) : AV.i .u8 (IntKind.u8.wrap (n : Int)) = byA (UInt8.ofNat n) := by
  show AV.i _ _ = AV.i _ _
  rw [UInt8.toNat_ofNat', show IntKind.u8.wrap (n : Int) = ((n % 256 : Nat) : Int) from by rw [Int.natCast_emod]; rfl]
theorem wrapB (y : Int) : AV.i .u8 (IntKind.u8.wrap y) = byA (UInt8.ofNat (y % 256).toNat) := by
  rw [← byA_nt]
  have h1 := Int.emod_nonneg y (show (256 : Int) ≠ 0 by decide)
  have h2 := Int.emod_lt_of_pos y (show (0 : Int) < 256 by decide)
  rw [show ((y % 256).toNat : Int) = y % 256 by omega]
  show AV.i .u8 (y % 256) = AV.i .u8 (y % 256 % 256)
  rw [Int.emod_emod_of_dvd _ (Int.dvd_refl _)]
theorem lenByte (n k : Nat) (hn : n ≤ 1000000000) (hk : k < 8) : [AV.i .u8 (IntKind.u8.wrap ((IntKind.u64.wrap (8 * IntKind.u64.wrap (n : Int))).fdiv (2 ^ (min (56 - 8 * (k : Int)).toNat (IntKind.bits .u64)))))] = [UInt8.ofNat (8 * n / 2 ^ (56 - 8 * k))].map byA := by
  have e1 : IntKind.u64.wrap (n : Int) = (n : Int) := by show (n : Int) % 18446744073709551616 = n; omega
  have e2 : IntKind.u64.wrap (8 * (n : Int)) = ((8 * n : Nat) : Int) := by show (8 * (n : Int)) % 18446744073709551616 = _; omega
  have e3 : min (56 - 8 * (k : Int)).toNat (IntKind.bits .u64) = 56 - 8 * k := by rw [show IntKind.bits .u64 = 64 from rfl]; omega
  have e4 : (2 : Int) ^ (56 - 8 * k) = ((2 ^ (56 - 8 * k) : Nat) : Int) := by rw [Int.natCast_pow]; rfl
  rw [e1, e2, e3, e4, ← Int.ofNat_fdiv, byA_nt]; rfl
theorem sum_spec (s : List UInt8) (hs : s.length ≤ 1000000000) : Spec Tryz.prog 96 [.s s] [] (fun v os => v = labA (shaN s) ∧ os = []) := by
  refine spec_of TtOk [] Tryz.func96 rfl Tryz.ntmps96 (by kernel_rfl) rfl rfl (fun C => ?_) rfl
  have hst := steps_spec
  have hkl : ksC.length = 64 := rfl
  have hS : shaN s = outL (mixN ksC ((padL s).length / 64) ivC (padL s)) 32 := rfl
  rw [hS]
  generalize ksC = ks at hst hkl
  obtain ⟨iv, hiv⟩ : ∃ iv, iv = ivC := ⟨_, rfl⟩
  rw [← hiv]
  repeat' (first | refine Awp.seq ?_ | refine Awp.region ?_ | refine Ops.nil (nqA ?_) | refine o_alloc (d := 2) rfl TtOk rfl rfl rfl (fun b2 => ?_))
  refine o_buildArr TtOk rfl (iv.L.map uI) rfl rfl rfl (by kernel_rfl) (by rw [hiv]; kernel_rfl) rfl ?_
  have hivS : shaN s = outL (mixN ks ((padL s).length / 64) iv (padL s)) 32 → True := fun _ => trivial
  clear hivS
  repeat' (first | refine Awp.seq ?_ | refine Awp.region ?_ | refine Ops.nil (nqA ?_) | (refine o_calm rfl TtOk rfl rfl rfl ?_ (fun _ => ?_); exact nd) | refine o_alloc (d := 3) rfl TtOk rfl rfl rfl (fun b3 => ?_) | refine o_store TtOk rfl rfl rfl rfl rfl rfl rfl ⟨rfl, rfl⟩ rfl rfl rfl rfl rfl ?_)
  refine o_toBytesM TtOk rfl rfl rfl rfl rfl rfl (fun v11 b11 o11 hM => ?_)
  repeat' (first | refine Awp.seq ?_ | refine Awp.block ?_ | refine Ops.nil (nqA ?_) | (refine o_calm rfl TtOk rfl rfl rfl ?_ (fun _ => ?_); exact nd) | refine o_buildSlice TtOk rfl rfl rfl rfl rfl rfl rfl rfl rfl rfl rfl nq1 (fun _ => ?_) | (refine o_appendM TtOk rfl hM rfl rfl rfl rfl rfl rfl rfl rfl (by first | exact True.intro | exact rfl) (ys:=[128]) rfl (by decide) rfl rfl ?_ ?_ (fun _ _ => rfl) (fun v13 b13 o13 hM2 => ?_); (show (_ + 1) * 1 ≤ _; omega); (show _ + 1 ≤ _; omega)))
  have hsl : (s ++ [128]).length = s.length + 1 := List.length_append
  refine Awp.loop (fun q : Nat × Value × Nat × Obj => ⟨61, [(4, .own 11 q.2.1), (3, .ptr 3 b3 [] 0), (2, .ptr 2 b2 [] 0), (0, .s s)], [(11, .obj q.2.2.1 q.2.2.2), (3, .var b3 (.arr 1 8 (iv.L.map uI))), (2, .var b2 (.arr 1 32 (List.replicate 32 (.i .u8 0))))]⟩)
    (fun q => q.1 ≤ zc s.length ∧ MRow q.2.1 q.2.2.2 5 q.2.2.1 ((s ++ [128]) ++ List.replicate q.1 0)) (fun q => zc s.length - q.1) [] (0, v13, b13, o13) ⟨Nat.zero_le _, by rw [show List.replicate 0 (0 : UInt8) = [] from rfl, List.append_nil]; exact hM2⟩ ?_ ?_
  · exact ⟨rfl, ⟨sle_own, sle_ptr, sle_ptr, sle_s rfl, True.intro⟩, HLe.cons 11 rfl (HOLe.refl _) (HLe.cons 3 rfl (HOLe.refl _) (HLe.cons 2 rfl (HOLe.refl _) .nil))⟩
  rintro ⟨j, v, b, o⟩ ⟨hj, hMj⟩
  dsimp only at hj hMj ⊢
  have hjl : ((s ++ [128]) ++ List.replicate j 0).length = s.length + 1 + j := by rw [List.length_append, hsl, List.length_replicate]
  have hzc : zc s.length = (119 - s.length % 64) % 64 := rfl
  have hrep : (s ++ [128]) ++ List.replicate (j + 1) 0 = ((s ++ [128]) ++ List.replicate j 0) ++ [0] := by rw [List.replicate_succ', ← List.append_assoc]
  by_cases hlt : j < zc s.length
  · generalize (s ++ [128]) ++ List.replicate j 0 = B at hMj hjl hrep
    repeat' (first | refine Awp.seq ?_ | refine Awp.block ?_ | refine Awp.region ?_ | refine Ops.nil (nqA ?_) | refine Ops.nil (nqX ?_) | refine Awp.skip (nqA ?_) | (refine o_rem rfl rfl rfl rfl ?_ ?_ ?_; omega; omega) | (refine o_calm rfl TtOk rfl rfl rfl ?_ (fun _ => ?_); exact nd) | refine o_buildSlice TtOk rfl rfl rfl rfl rfl rfl rfl rfl rfl rfl rfl nq1 (fun _ => ?_) | (refine a_condN rfl (fun hc => ?_) (fun hc => ?_)) <;> (try (exfalso; omega)) | (refine o_lenM TtOk rfl rfl hMj rfl rfl ?_) | (refine o_appendM TtOk rfl hMj rfl rfl rfl rfl rfl rfl rfl rfl (by first | exact True.intro | exact rfl) (ys:=[0]) rfl (by decide) rfl rfl ?_ ?_ (fun _ _ => rfl) (fun v13 b13 o13 hM2 => ?_); (show (_ + 1) * 1 ≤ _; omega); (show _ + 1 ≤ _; omega)))
    exact ⟨(j + 1, v13, b13, o13), [], ⟨hlt, by rw [hrep]; exact hM2⟩, by show zc s.length - (j + 1) < zc s.length - j; omega, rfl, ⟨sle_own, sle_ptr, sle_ptr, sle_s rfl, True.intro⟩, HLe.cons 11 rfl (HOLe.refl _) (HLe.cons 3 rfl (HOLe.refl _) (HLe.cons 2 rfl (HOLe.refl _) .nil))⟩
  · have hje : j = zc s.length := by omega
    have hP : padL s = ((s ++ [128]) ++ List.replicate j 0) ++ lenB s.length 8 := by rw [hje]; rfl
    generalize (s ++ [128]) ++ List.replicate j 0 = B at hMj hjl hP
    repeat' (first | refine Awp.seq ?_ | refine Awp.block ?_ | refine Awp.region ?_ | refine Ops.nil (nqA ?_) | refine Awp.exit (nqA ?_) | (refine o_rem rfl rfl rfl rfl ?_ ?_ ?_; omega; omega) | (refine o_calm rfl TtOk rfl rfl rfl ?_ (fun _ => ?_); exact nd) | (refine a_condN rfl (fun hc => ?_) (fun hc => ?_)) <;> (try (exfalso; omega)) | (refine o_lenM TtOk rfl rfl hMj rfl rfl ?_))
    refine Awp.loop (fun q : Nat × Value × Nat × Obj => ⟨61, [(5, .i .i64 (56 - 8 * (q.1 : Int))), (4, .own 11 q.2.1), (3, .ptr 3 b3 [] 0), (2, .ptr 2 b2 [] 0), (0, .s s)], [(11, .obj q.2.2.1 q.2.2.2), (3, .var b3 (.arr 1 8 (iv.L.map uI))), (2, .var b2 (.arr 1 32 (List.replicate 32 (.i .u8 0))))]⟩)
      (fun q => q.1 ≤ 8 ∧ MRow q.2.1 q.2.2.2 5 q.2.2.1 (B ++ lenB s.length q.1)) (fun q => 8 - q.1) [] (0, v, b, o) ⟨Nat.zero_le _, by rw [show lenB s.length 0 = [] from rfl, List.append_nil]; exact hMj⟩ ?_ ?_
    · exact ⟨rfl, ⟨sle_i rfl, sle_own, sle_ptr, sle_ptr, sle_s rfl, True.intro⟩, HLe.cons 11 rfl (HOLe.refl _) (HLe.cons 3 rfl (HOLe.refl _) (HLe.cons 2 rfl (HOLe.refl _) .nil))⟩
    clear hMj
    rintro ⟨k, v, b, o⟩ ⟨hk, hMk⟩
    dsimp only at hk hMk ⊢
    have hlk := lenB_len s.length k
    have hls := lenB_succ s.length k
    have hBl : (B ++ lenB s.length k).length = B.length + k := by rw [List.length_append, hlk]
    by_cases hk8 : k < 8
    · have hBs : B ++ lenB s.length (k + 1) = (B ++ lenB s.length k) ++ [UInt8.ofNat (8 * s.length / 2 ^ (56 - 8 * k))] := by rw [hls, List.append_assoc]
      generalize B ++ lenB s.length k = B2 at hMk hBl hBs
      have hby := lenByte s.length k hs hk8
      repeat' (first | refine Awp.seq ?_ | refine Awp.block ?_ | refine Awp.region ?_ | refine Ops.nil (nqA ?_) | refine Ops.nil (nqX ?_) | refine Awp.skip (nqA ?_) | (refine o_sub rfl rfl rfl rfl ?_ ?_; omega) | (refine o_calm rfl TtOk rfl rfl rfl ?_ (fun _ => ?_); exact nd) | refine o_buildSlice TtOk rfl rfl rfl rfl rfl rfl rfl rfl rfl rfl rfl nq1 (fun _ => ?_) | (refine a_condP rfl (fun hc => ?_) (fun hc => ?_)) <;> (try (exfalso; omega)) | (refine o_appendM TtOk rfl hMk rfl rfl rfl rfl rfl rfl rfl rfl (by first | exact True.intro | exact rfl) (ys:=[UInt8.ofNat (8*s.length/2^(56-8*k))]) hby (Nat.zero_lt_succ _) rfl rfl ?_ ?_ (fun _ _ => rfl) (fun v13 b13 o13 hM2 => ?_); (show (_ + 1) * 1 ≤ _; omega); (show _ + 1 ≤ _; omega)))
      exact ⟨(k + 1, v13, b13, o13), [], ⟨hk8, by rw [hBs]; exact hM2⟩, by show 8 - (k + 1) < 8 - k; omega, rfl, ⟨sle_i (by omega), sle_own, sle_ptr, sle_ptr, sle_s rfl, True.intro⟩, HLe.cons 11 rfl (HOLe.refl _) (HLe.cons 3 rfl (HOLe.refl _) (HLe.cons 2 rfl (HOLe.refl _) .nil))⟩
    · have hke : k = 8 := by omega
      subst hke
      rw [← hP] at hMk hBl
      repeat' (first | refine Awp.seq ?_ | refine Awp.block ?_ | refine Awp.region ?_ | refine Ops.nil (nqA ?_) | refine Awp.exit (nqA ?_) | (refine o_calm rfl TtOk rfl rfl rfl ?_ (fun _ => ?_); exact nd) | refine o_alloc (d := 6) rfl TtOk rfl rfl rfl (fun b6 => ?_) | refine o_store TtOk rfl rfl rfl rfl rfl rfl rfl ⟨rfl, rfl⟩ rfl rfl rfl rfl rfl ?_ | refine a_condF rfl ?_ | (refine o_call0 rfl (hst) True.intro rfl ?_; rintro _ _ ⟨rfl, rfl⟩; refine ⟨rfl, ?_⟩))
      refine a_freezeM 11 4 hMk rfl rfl rfl ?_
      obtain ⟨M, hM1, hM2⟩ := padL_len s
      have hMd : (padL s).length / 64 = M := by omega
      rw [hMd]
      generalize padL s = Q at hM1 hMk
      obtain ⟨W, hW⟩ : ∃ W, mixN ks M iv Q = W := ⟨_, rfl⟩
      rw [hW]
      refine Awp.loop (fun q : Nat × V8 × List UInt8 => ⟨61, [(4, .sl 1 (q.2.2.map byA)), (6, .ptr 6 b6 [] 0), (3, .ptr 3 b3 [] 0), (2, .ptr 2 b2 [] 0)], [(3, .var b3 (.arr 1 8 (q.2.1.L.map uI))), (6, .var b6 (.arr 1 64 (ks.map uI))), (2, .var b2 (.arr 1 32 (List.replicate 32 (.i .u8 0))))]⟩)
        (fun q => q.1 ≤ M ∧ q.2.2.length = 64 * q.1 ∧ mixN ks q.1 q.2.1 q.2.2 = W) (fun q => q.1) [] (M, iv, Q) ⟨Nat.le_refl _, hM1, hW⟩ ?_ ?_
      · exact ⟨rfl, ⟨sle_sl rfl, sle_ptr, sle_ptr, sle_ptr, True.intro⟩, HLe.cons 3 rfl (HOLe.refl _) (HLe.cons 6 rfl (HOLe.refl _) (HLe.cons 2 rfl (HOLe.refl _) .nil))⟩
      clear hW hM1 hMk hiv
      rintro ⟨m, v8, R⟩ ⟨hm, hRl, hst8⟩
      dsimp only at hm hRl hst8 ⊢
      rcases m with _ | m
      · have hst8 : v8 = W := hst8
        subst hst8
        repeat' (first | refine Awp.seq ?_ | refine Awp.block ?_ | refine Awp.region ?_ | refine Ops.nil (nqA ?_) | refine Awp.exit (nqA ?_) | refine o_len rfl TtOk rfl rfl rfl (fun _ => ?_) | (refine o_calm rfl TtOk rfl rfl rfl ?_ (fun _ => ?_); exact nd) | refine o_alloc (d := 7) rfl TtOk rfl rfl rfl (fun b7 => ?_) | (refine a_condP rfl (fun hc => ?_) (fun hc => ?_)) <;> (try (exfalso; omega)))
        clear hRl hm
        refine Awp.loop (fun i : Nat => ⟨61, [(44, .i .i64 i), (7, .ptr 7 b7 [] 0), (3, .ptr 3 b3 [] 0), (2, .ptr 2 b2 [] 0)], [(7, .var b7 (.arr 1 32 ((outL v8 i).map byA))), (3, .var b3 (.arr 1 8 (v8.L.map uI))), (2, .var b2 (.arr 1 32 (List.replicate 32 (.i .u8 0))))]⟩)
          (fun i => i ≤ 32) (fun i => 32 - i) [] 0 (Nat.zero_le _) ?_ ?_
        · exact ⟨rfl, ⟨sle_i rfl, sle_ptr, sle_ptr, sle_ptr, True.intro⟩, HLe.cons 7 rfl (HOLe.refl _) (HLe.cons 3 rfl (HOLe.refl _) (HLe.cons 2 rfl (HOLe.refl _) .nil))⟩
        intro i hi
        by_cases hlt : i < 32
        · have hset := outL_set v8 i hlt
          have hol := outL_len v8 i hi
          have hvl : v8.L.length = 8 := rfl
          have g0 : (v8.L.map uI)[i / 4]? = some (uI (v8.L.getD (i / 4) 0)) := by
            have h4 : i / 4 < v8.L.length := by omega
            rw [List.getD_eq_getElem?_getD, List.getElem?_eq_getElem h4]
            exact getq_map (List.getElem?_eq_getElem h4)
          have hob : outB v8 i = UInt8.ofNat (((v8.L.getD (i / 4) 0).fdiv (2 ^ (24 - 8 * (i % 4)))) % 256).toNat := rfl
          generalize v8.L.getD (i / 4) 0 = z at g0 hob
          have hst0 : ((outL v8 i).map byA)[i]? = some (byA ((outL v8 i)[i]'(by omega))) := getq_map (List.getElem?_eq_getElem (by omega))
          repeat' (first | refine Awp.seq ?_ | refine Awp.block ?_ | refine Awp.region ?_ | refine Ops.nil (nqA ?_) | refine Ops.nil (nqX ?_) | refine Awp.skip (nqA ?_) | (refine o_add rfl rfl rfl rfl ?_ ?_; omega) | (refine o_sub rfl rfl rfl rfl ?_ ?_; omega) | (refine o_mul rfl rfl rfl rfl ?_ ?_; omega) | (refine o_quo rfl rfl rfl rfl ?_ ?_ ?_; omega; omega) | (refine o_rem rfl rfl rfl rfl ?_ ?_ ?_; omega; omega) | (refine o_calm rfl TtOk rfl rfl rfl ?_ (fun _ => ?_); exact nd) | (refine a_condP rfl (fun hc => ?_) (fun hc => ?_)) <;> (try (exfalso; omega)) | (refine o_indexArr TtOk rfl rfl rfl rfl rfl rfl i rfl (by omega) ?_) | (refine o_indexArr TtOk rfl rfl rfl rfl rfl rfl (i/4) rfl (by omega) ?_) | (refine o_loadAt TtOk rfl rfl rfl rfl (sub_arr g0) (by first | exact Nat.add_zero _ | rfl) ⟨rfl, rfl⟩ rfl rfl ?_) | (refine o_storeArr TtOk rfl rfl rfl rfl rfl rfl ⟨rfl, rfl⟩ rfl rfl hst0 rfl rfl ?_))
          have hz : AV.i .u8 (IntKind.u8.wrap (z.fdiv (2 ^ (min (24 - 8 * ((i : Int) % 4)).toNat (IntKind.bits .u32))))) = byA (outB v8 i) := by
            rw [show min (24 - 8 * ((i : Int) % 4)).toNat (IntKind.bits .u32) = 24 - 8 * (i % 4) by rw [show IntKind.bits .u32 = 32 from rfl]; omega, hob, wrapB]
          refine ⟨i + 1, [], by omega, by omega, rfl, ⟨sle_i rfl, sle_ptr, sle_ptr, sle_ptr, True.intro⟩, HLe.cons 7 rfl (HOLe.var (CLe.of_eq ?_)) (HLe.cons 3 rfl (HOLe.refl _) (HLe.cons 2 rfl (HOLe.refl _) .nil))⟩
          show AV.arr 1 32 (((outL v8 i).map byA).set i (AV.i .u8 (IntKind.u8.wrap (z.fdiv (2 ^ (min (24 - 8 * ((i : Int) % 4)).toNat (IntKind.bits .u32))))))) = _
          rw [hz, hset, List.map_set]
        · have hie : i = 32 := by omega
          have hoo : outL v8 i = outL v8 32 := by rw [hie]
          rw [hoo]
          clear hie hoo
          generalize outL v8 32 = out
          repeat' (first | refine Awp.seq ?_ | refine Awp.region ?_ | refine Ops.nil (nqA ?_) | refine Awp.exit (nqA ?_) | refine Awp.ret (nqE ?_) | (refine o_calm rfl TtOk rfl rfl rfl ?_ (fun _ => ?_); exact nd) | refine o_store TtOk rfl rfl rfl rfl rfl rfl rfl ⟨rfl, rfl⟩ rfl rfl rfl rfl rfl ?_ | (refine a_condP rfl (fun hc => ?_) (fun hc => ?_)) <;> (try (exfalso; omega)))
          refine end_all [] [] (labA out) rfl ?_ ?_ (rle_one (CLe.refl _) rfl) .nil ⟨rfl, rfl⟩ _ (.inl rfl)
          · exact nq1
          · exact ⟨trivial, trivial⟩
      · have hst8 : mixN ks m (mixV v8 (R.take 64) ks) (R.drop 64) = W := hst8
        have hmx := mix_spec b3 b6 v8 (R.take 64) ks hkl (by rw [List.length_take]; omega)
        have h64 : 64 ≤ R.length := by omega
        repeat' (first | refine Awp.seq ?_ | refine Awp.block ?_ | refine Awp.region ?_ | refine Ops.nil (nqA ?_) | refine Ops.nil (nqX ?_) | refine Awp.skip (nqA ?_) | refine o_len rfl TtOk rfl rfl rfl (fun _ => ?_) | (refine o_calm rfl TtOk rfl rfl rfl ?_ (fun _ => ?_); exact nd) | (refine a_condP rfl (fun hc => ?_) (fun hc => ?_)) <;> (try (exfalso; omega)) | (refine o_sliceSl TtOk rfl 0 64 rfl rfl rfl rfl rfl bnd_none (bnd_some rfl rfl) (by omega) h64 ?_; rw [List.drop_zero]) | (refine o_call [] [3, 6] [3, 6] rfl hmx ⟨sle_ptr, nqS, sle_ptr, True.intro⟩ rfl ⟨HOLe.refl _, HOLe.refl _, True.intro⟩ rfl rfl ?_; rintro _ _ ⟨rfl, rfl⟩; refine ⟨_, rfl, rfl, ?_⟩) | (refine o_sliceSl TtOk rfl 64 R.length rfl rfl rfl rfl rfl (bnd_some rfl rfl) bnd_none h64 (Nat.le_refl _) ?_; rw [List.take_length]))
        exact ⟨(m, mixV v8 (R.take 64) ks, R.drop 64), [], ⟨by omega, by rw [List.length_drop]; omega, hst8⟩, Nat.lt_succ_self _, rfl, ⟨sle_sl rfl, sle_ptr, sle_ptr, sle_ptr, True.intro⟩, HLe.cons 3 rfl (HOLe.refl _) (HLe.cons 6 rfl (HOLe.refl _) (HLe.cons 2 rfl (HOLe.refl _) .nil))⟩
end Go.Proofs.YtcmgpkibjdbonaaGreat
set_option maxHeartbeats 8000000
set_option maxRecDepth 100000
namespace Go.Proofs.YtcmgpkibjdbonaaGreat
open Go Go.RowKit
def nB (n : Int) (i : Nat) : UInt8 := UInt8.ofNat (((IntKind.u64.wrap n).fdiv (2 ^ (56 - 8 * i))) % 256).toNat
def nBs (n : Int) (i : Nat) : List UInt8 := (List.range i).map (nB n) ++ List.replicate (8 - i) 0
def num8 (n : Int) : List UInt8 := nBs n 8
theorem nBs_len (n : Int) (i : Nat) (h : i ≤ 8) : (nBs n i).length = 8 := by unfold nBs; rw [List.length_append, List.length_map, List.length_range, List.length_replicate]; omega
theorem nBs_set (n : Int) (i : Nat) (h : i < 8) : nBs n (i + 1) = (nBs n i).set i (nB n i) := by
  unfold nBs
  have hr : List.replicate (8 - i) (0 : UInt8) = 0 :: List.replicate (8 - (i + 1)) 0 := by rw [show 8 - i = (8 - (i + 1)) + 1 by omega, List.replicate_succ]
  rw [hr, List.range_succ, List.map_append, List.set_append, if_neg (by simp), List.length_map, List.length_range, Nat.sub_self, List.append_assoc]; rfl
def lenQ (n : Nat) : List UInt8 := [UInt8.ofNat (n / 16777216), UInt8.ofNat (n / 65536), UInt8.ofNat (n / 256), UInt8.ofNat n]
def jnB (tag : UInt8) (ts : List (List UInt8)) : List UInt8 := [tag] ++ ts.flatMap (fun t => lenQ t.length ++ t)
def sA (s : List UInt8) : AV := .s s
theorem nnumber_spec (n : Int) : Spec Tryz.prog 179 [.i .i64 n] [] (fun v os => v = .s (num8 n) ∧ os = []) := by
  refine spec_of TtOk [] Tryz.func179 rfl Tryz.ntmps179 (by kernel_rfl) rfl rfl (fun C => ?_) rfl
  repeat' (first | refine Awp.seq ?_ | refine Awp.region ?_ | refine Ops.nil (nqA ?_) | (refine o_calm rfl TtOk rfl rfl rfl ?_ (fun _ => ?_); exact nd))
  refine o_makeSlice TtOk rfl rfl rfl rfl rfl rfl rfl rfl rfl 8 rfl rfl (by decide) (by decide) (fun v5 => ?_)
  repeat' (first | refine Awp.seq ?_ | refine Awp.block ?_ | refine Awp.region ?_ | refine Ops.nil (nqA ?_) | (refine o_calm rfl TtOk rfl rfl rfl ?_ (fun _ => ?_); exact nd))
  refine Awp.loop (fun i : Nat => ⟨24, [(8, .i .i64 i), (7, .i .i64 8), (3, .own 5 v5), (0, .i .i64 n)], [(5, .row v5 5 1 ((nBs n i).map byA))]⟩) (fun i => i ≤ 8) (fun i => 8 - i) [] 0 (Nat.zero_le _) ?_ ?_
  · exact ⟨rfl, ⟨sle_i rfl, sle_i rfl, sle_own, sle_i rfl, True.intro⟩, HLe.cons 5 rfl (HOLe.refl _) .nil⟩
  intro i hi
  have hl := nBs_len n i hi
  by_cases hlt : i < 8
  · have hs := nBs_set n i hlt
    have hz : AV.i .u8 (IntKind.u8.wrap ((IntKind.u64.wrap n).fdiv (2 ^ (min (56 - 8 * (i : Int)).toNat (IntKind.bits .u64))))) = byA (nB n i) := by
      rw [show min (56 - 8 * (i : Int)).toNat (IntKind.bits .u64) = 56 - 8 * i by rw [show IntKind.bits .u64 = 64 from rfl]; omega, wrapB]; rfl
    generalize nBs n i = cs at hl hs ⊢
    repeat' (first | refine Awp.seq ?_ | refine Awp.block ?_ | refine Awp.region ?_ | refine Ops.nil (nqA ?_) | refine Ops.nil (nqX ?_) | refine Awp.skip (nqA ?_) | (refine o_add rfl rfl rfl rfl ?_ ?_; omega) | (refine o_sub rfl rfl rfl rfl ?_ ?_; omega) | (refine o_mul rfl rfl rfl rfl ?_ ?_; omega) | (refine o_calm rfl TtOk rfl rfl rfl ?_ (fun _ => ?_); exact nd) | (refine o_indexOwn TtOk rfl rfl rfl rfl rfl rfl rfl rfl _ rfl ?_ (fun bO hbO => ?_); ((repeat' (first | rw [List.length_append] | rw [List.length_map] | rw [List.length_cons] | rw [List.length_nil] | rw [List.length_take] | rw [List.length_drop])) <;> omega)) | (refine o_storeRow TtOk rfl rfl rfl rfl rfl rfl (by assumption) (getq_map (List.getElem?_eq_getElem ?_)) rfl rfl (by first | exact Nat.add_zero _ | rfl) ⟨rfl, rfl⟩ rfl rfl ?_; omega) | (refine a_condP rfl (fun hc => ?_) (fun hc => ?_)) <;> (try (exfalso; omega)))
    refine ⟨i + 1, [], by omega, by omega, rfl, ⟨sle_i rfl, sle_i rfl, sle_own, sle_i rfl, True.intro⟩, HLe.cons 5 rfl (HOLe.row ?_) .nil⟩
    show (cs.map byA).set i (AV.i .u8 (IntKind.u8.wrap ((IntKind.u64.wrap n).fdiv (2 ^ (min (56 - 8 * (i : Int)).toNat (IntKind.bits .u64)))))) = _
    rw [hz, hs, List.map_set]
  · have hie : i = 8 := by omega
    subst hie
    repeat' (first | refine Awp.seq ?_ | refine Awp.region ?_ | refine Ops.nil (nqA ?_) | refine Awp.exit (nqA ?_) | refine Awp.ret (nqE ?_) | (refine o_calm rfl TtOk rfl rfl rfl ?_ (fun _ => ?_); exact nd) | refine a_condF rfl ?_ | refine o_toString TtOk rfl rfl rfl rfl rfl (by first | exact True.intro | exact rfl) rfl rfl rfl rfl ?_)
    exact nq2
theorem lenQ_row (n : Nat) : [AV.i .u8 (IntKind.u8.wrap ((n : Int).fdiv (2 ^ (min (Int.toNat 24) (IntKind.bits .i64))))), AV.i .u8 (IntKind.u8.wrap ((n : Int).fdiv (2 ^ (min (Int.toNat 16) (IntKind.bits .i64))))), AV.i .u8 (IntKind.u8.wrap ((n : Int).fdiv (2 ^ (min (Int.toNat 8) (IntKind.bits .i64))))), AV.i .u8 (IntKind.u8.wrap (n : Int))] = (lenQ n).map byA := by
  have e : ∀ k : Nat, k ≤ 64 → (n : Int).fdiv (2 ^ (min ((k : Int)).toNat (IntKind.bits .i64))) = ((n / 2 ^ k : Nat) : Int) := fun k hk => by
    rw [show min ((k : Int)).toNat (IntKind.bits .i64) = k by rw [show IntKind.bits .i64 = 64 from rfl]; omega, show (2 : Int) ^ k = ((2 ^ k : Nat) : Int) by rw [Int.natCast_pow]; rfl, Int.ofNat_fdiv]
  have e1 := e 24 (by decide)
  have e2 := e 16 (by decide)
  have e3 := e 8 (by decide)
  rw [show (n : Int).fdiv (2 ^ (min (Int.toNat 24) (IntKind.bits .i64))) = _ from e1, show (n : Int).fdiv (2 ^ (min (Int.toNat 16) (IntKind.bits .i64))) = _ from e2, show (n : Int).fdiv (2 ^ (min (Int.toNat 8) (IntKind.bits .i64))) = _ from e3, byA_nt, byA_nt, byA_nt, byA_nt]; rfl
theorem jnB_succ (tag : UInt8) (ts : List (List UInt8)) (i : Nat) (h : i < ts.length) : jnB tag (ts.take (i + 1)) = (jnB tag (ts.take i) ++ lenQ ts[i].length) ++ ts[i] := by
  unfold jnB
  rw [List.take_succ_eq_append_getElem h, List.flatMap_append]
  simp [List.append_assoc]
theorem jnB_len (tag : UInt8) (ts : List (List UInt8)) (h : ∀ t ∈ ts, t.length ≤ 1000000) : (jnB tag ts).length ≤ 1 + 1000004 * ts.length := by
  unfold jnB
  rw [List.length_append]
  show 1 + _ ≤ _
  refine Nat.add_le_add_left ?_ 1
  induction ts with
  | nil => exact Nat.le_refl _
  | cons t r ih =>
    have h1 := h t (List.mem_cons_self ..)
    have h2 := ih (fun x hx => h x (List.mem_cons_of_mem _ hx))
    rw [List.flatMap_cons, List.length_append, List.length_append, List.length_cons]
    have : (lenQ t.length).length = 4 := rfl
    omega
theorem njoined_spec (tag : UInt8) (ts : List (List UInt8)) (hn : ts.length ≤ 1000) (h : ∀ t ∈ ts, t.length ≤ 1000000) : Spec Tryz.prog 178 [byA tag, .sl 1 (ts.map sA)] [] (fun v os => v = .s (jnB tag ts) ∧ os = []) := by
  refine spec_of TtOk [] Tryz.func178 rfl Tryz.ntmps178 (by kernel_rfl) rfl rfl (fun C => ?_) rfl
  repeat' (first | refine Awp.seq ?_ | refine Awp.block ?_ | refine Awp.region ?_ | refine Ops.nil (nqA ?_) | refine o_len rfl TtOk rfl rfl rfl (fun _ => ?_) | (refine o_calm rfl TtOk rfl rfl rfl ?_ (fun _ => ?_); exact nd) | refine o_buildSlice TtOk rfl rfl rfl rfl rfl rfl rfl rfl rfl rfl rfl nq1 (fun _ => ?_))
  rename_i v10 _ _ _ _
  refine Awp.loop (fun q : Nat × Value => ⟨39, [(13, .i .i64 q.1), (12, .i .i64 ts.length), (11, .sl 1 (ts.map sA)), (5, .own 10 q.2)], [(10, .row q.2 5 1 ((jnB tag (ts.take q.1)).map byA))]⟩) (fun q => q.1 ≤ ts.length) (fun q => ts.length - q.1) [] (0, v10) (Nat.zero_le _) ?_ ?_
  · exact ⟨rfl, ⟨sle_i rfl, sle_i rfl, sle_sl rfl, sle_own, True.intro⟩, HLe.cons 10 rfl (HOLe.refl _) .nil⟩
  rintro ⟨i, v⟩ hi
  dsimp only at hi ⊢
  have hjl := jnB_len tag (ts.take i) (fun t ht => h t (List.mem_of_mem_take ht))
  rw [List.length_take] at hjl
  by_cases hlt : i < ts.length
  · have htl := h _ (List.getElem_mem hlt)
    have hs := jnB_succ tag ts i hlt
    have hq := lenQ_row ts[i].length
    have hq4 : (lenQ ts[i].length).length = 4 := rfl
    have hjl : (jnB tag (ts.take i)).length ≤ 2000000000 := by omega
    generalize jnB tag (ts.take i) = J at hs hjl ⊢
    generalize lenQ ts[i].length = Q at hs hq hq4
    repeat' (first | (rw [hq]) | refine Awp.seq ?_ | refine Awp.block ?_ | refine Awp.region ?_ | refine Ops.nil (nqA ?_) | refine Ops.nil (nqX ?_) | refine Awp.skip (nqA ?_) | (refine o_add rfl rfl rfl rfl ?_ ?_; omega) | (refine o_calm rfl TtOk rfl rfl rfl ?_ (fun _ => ?_); exact nd) | (refine o_index rfl TtOk rfl rfl rfl rfl rfl rfl ?_ (getq_nat ?_) ?_; omega; omega) | refine o_buildSlice TtOk rfl rfl rfl rfl rfl rfl rfl rfl rfl rfl rfl nq1 (fun _ => ?_) | (refine o_append TtOk rfl rfl rfl rfl rfl rfl rfl rfl rfl (by first | exact True.intro | exact rfl) rfl rfl (fun _ => rfl) ?_ ?_ (fun _ => ?_); ((repeat' (first | rw [List.length_append] | rw [List.length_map] | rw [List.length_cons] | rw [List.length_nil] | rw [List.length_take] | rw [List.length_drop])) <;> omega); ((repeat' (first | rw [List.length_append] | rw [List.length_map] | rw [List.length_cons] | rw [List.length_nil] | rw [List.length_take] | rw [List.length_drop])) <;> omega)) | (refine o_appendStr TtOk rfl rfl rfl rfl rfl rfl rfl rfl rfl (fun _ => rfl) ?_ (fun _ => ?_); ((repeat' (first | rw [List.length_append] | rw [List.length_map] | rw [List.length_cons] | rw [List.length_nil] | rw [List.length_take] | rw [List.length_drop])) <;> omega)) | (refine a_condP rfl (fun hc => ?_) (fun hc => ?_)) <;> (try (exfalso; omega)))
    refine ⟨(i + 1, _), [], hlt, by show ts.length - (i + 1) < ts.length - i; omega, rfl, ⟨sle_i (by omega), sle_i rfl, sle_sl rfl, sle_own, True.intro⟩, HLe.cons 10 rfl (HOLe.row ?_) .nil⟩
    rw [hs, List.map_append, List.map_append]
  · have hie : i = ts.length := by omega
    subst hie
    rw [List.take_length]
    repeat' (first | refine Awp.seq ?_ | refine Awp.region ?_ | refine Ops.nil (nqA ?_) | refine Awp.exit (nqA ?_) | refine Awp.ret (nqE ?_) | (refine o_calm rfl TtOk rfl rfl rfl ?_ (fun _ => ?_); exact nd) | (refine a_condP rfl (fun hc => ?_) (fun hc => ?_)) <;> (try (exfalso; omega)) | refine o_toString TtOk rfl rfl rfl rfl rfl (by first | exact True.intro | exact rfl) rfl rfl rfl rfl ?_)
    exact nq2
structure Itm where
  n : Int
  l : List UInt8
  s : List UInt8
  t : Int
def Itm.A (x : Itm) : AV := .agg [pfxA x.n x.l, labA x.s, .i .i64 x.t]
def Itm.ok (x : Itm) : Prop := x.l.length = 32 ∧ x.s.length = 32
def txtI (x : Itm) : List UInt8 := ((num8 x.n ++ x.l) ++ x.s) ++ num8 x.t
structure Lef where
  l : List UInt8
  v : List UInt8
  t : Int
def Lef.A (x : Lef) : AV := .agg [labA x.l, labA x.v, .i .i64 x.t]
def Lef.ok (x : Lef) : Prop := x.l.length = 32 ∧ x.v.length = 32
def leafB (x : Lef) : List UInt8 := jnB 16 [x.l, x.v, num8 x.t]
def innB (a b : Itm) : List UInt8 := jnB 17 [txtI a, txtI b]
theorem num8_len (n : Int) : (num8 n).length = 8 := nBs_len n 8 (Nat.le_refl _)
theorem ntext_spec (x : Itm) (hx : x.ok) : Spec Tryz.prog 180 [x.A] [] (fun v os => v = .s (txtI x) ∧ os = []) := by
  obtain ⟨n, l, s, t⟩ := x
  obtain ⟨hl, hs⟩ := hx
  dsimp only at hl hs
  show Spec Tryz.prog 180 [.agg [pfxA n l, labA s, .i .i64 t]] [] (fun v os => v = .s (((num8 n ++ l) ++ s) ++ num8 t) ∧ os = [])
  refine spec_of TtOk [] Tryz.func180 rfl Tryz.ntmps180 (by kernel_rfl) rfl rfl (fun C => ?_) rfl
  have h1 := nnumber_spec n
  have h2 := nnumber_spec t
  have n1 := num8_len n
  have n2 := num8_len t
  generalize num8 n = a at h1 n1 ⊢
  generalize num8 t = b at h2 n2 ⊢
  repeat' (first | (refine a_freezeV 1 1 rfl rfl rfl ?_) | refine Awp.seq ?_ | refine Awp.region ?_ | refine Ops.nil (nqA ?_) | refine Awp.ret (nqE ?_) | (refine o_calm rfl TtOk rfl rfl rfl ?_ (fun _ => ?_); exact nd) | refine o_box (d := 1) rfl rfl rfl rfl (fun b1 => ?_) | (refine o_calm rfl TtOk rfl rfl rfl ?_ (fun _ => ?_); (show List.length _ + List.length _ ≤ 9223372036854775807; (repeat' (first | rw [List.length_append] | rw [List.length_map] | rw [List.length_cons] | rw [List.length_nil] | rw [List.length_take] | rw [List.length_drop])) <;> omega)) | refine o_sliceCp TtOk rfl rfl rfl rfl rfl rfl ?_ | refine o_toString TtOk rfl rfl rfl rfl rfl (by first | exact True.intro | exact rfl) rfl rfl rfl rfl ?_ | refine a_any 1 [] [] [] [0, 1, 4, 5, 6, 7, 9, 10, 11, 13, 2, 14, 3, 8, 12, 15, 16, 17] (by kernel_rfl) (by kernel_rfl) (by kernel_rfl) rfl rfl rfl ?_ | refine o_callE rfl (h1) ⟨nqS, True.intro⟩ rfl ?_ | refine o_callE rfl (h2) ⟨nqS, True.intro⟩ rfl ?_)
  exact nq2
theorem leafB_spec (x : Lef) (hx : x.ok) : Spec Tryz.prog 94 [x.A] [] (fun v os => v = .s (leafB x) ∧ os = []) := by
  obtain ⟨l, u, t⟩ := x
  obtain ⟨hl, hu⟩ := hx
  dsimp only at hl hu
  show Spec Tryz.prog 94 [.agg [labA l, labA u, .i .i64 t]] [] (fun v os => v = .s (jnB 16 [l, u, num8 t]) ∧ os = [])
  refine spec_of TtOk [] Tryz.func94 rfl Tryz.ntmps94 (by kernel_rfl) rfl rfl (fun C => ?_) rfl
  have h1 := nnumber_spec t
  have n1 := num8_len t
  generalize num8 t = a at h1 n1 ⊢
  have h2 := njoined_spec 16 [l, u, a] (show 3 ≤ 1000 by decide) (fun q hq => by
    rcases List.mem_cons.1 hq with rfl | hq
    · omega
    · rcases List.mem_cons.1 hq with rfl | hq
      · omega
      · have := List.mem_singleton.1 hq; subst this; omega)
  repeat' (first | (refine o_freezeR 12 12 rfl rfl rfl ?_) | (refine a_freezeV 1 1 rfl rfl rfl ?_) | refine Awp.seq ?_ | refine Awp.region ?_ | refine Ops.nil (nqA ?_) | refine Awp.ret (nqE ?_) | (refine o_calm rfl TtOk rfl rfl rfl ?_ (fun _ => ?_); exact nd) | refine o_box (d := 1) rfl rfl rfl rfl (fun b1 => ?_) | refine o_buildSlice TtOk rfl rfl rfl rfl rfl rfl rfl rfl rfl rfl rfl nq1 (fun _ => ?_) | refine o_sliceCp TtOk rfl rfl rfl rfl rfl rfl ?_ | refine o_toString TtOk rfl rfl rfl rfl rfl (by first | exact True.intro | exact rfl) rfl rfl rfl rfl ?_ | refine a_any 1 [] [] [] [0, 1, 2, 3, 4, 5, 6, 7, 8, 9, 10, 11] (by kernel_rfl) (by kernel_rfl) (by kernel_rfl) rfl rfl rfl ?_ | refine o_callE rfl (h1) ⟨nqS, True.intro⟩ rfl ?_ | refine o_callE rfl (h2) ⟨nqS, nqS, True.intro⟩ rfl ?_)
  exact nq2
end Go.Proofs.YtcmgpkibjdbonaaGreat
