/- SHA-256: sha.Sum by rules. -/
import Derived.Test.YtcmgpkibjdbonaaV27Z
set_option maxHeartbeats 16000000
set_option maxRecDepth 100000
namespace Go.Proofs.Ytcmgpkibjdbonaa
open Go Go.RowKit
def zc (n : Nat) : Nat := (119 - n % 64) % 64
def lenB (n k : Nat) : List UInt8 := (List.range k).map (fun j => UInt8.ofNat (8 * n / 2 ^ (56 - 8 * j)))
theorem lenB_succ (n k : Nat) : lenB n (k + 1) = lenB n k ++ [UInt8.ofNat (8 * n / 2 ^ (56 - 8 * k))] := by unfold lenB; rw [List.range_succ, List.map_append]; rfl
theorem lenB_len (n k : Nat) : (lenB n k).length = k := by simp [lenB]
def padL (s : List UInt8) : List UInt8 := ((s ++ [128]) ++ List.replicate (zc s.length) 0) ++ lenB s.length 8
theorem padL_len (s : List UInt8) : ∃ m, (padL s).length = 64 * m ∧ 64 * m ≤ s.length + 73 := by
  have h : (padL s).length = s.length + 1 + zc s.length + 8 := by
    unfold padL; rw [List.length_append, List.length_append, List.length_append, List.length_replicate, lenB_len]; rfl
  unfold zc at h
  exact ⟨(padL s).length / 64, by omega, by omega⟩
def mixN (ks : List Int) : Nat → V8 → List UInt8 → V8
  | 0, v, _ => v
  | n + 1, v, P => mixN ks n (mixV v (P.take 64) ks) (P.drop 64)
def outB (v : V8) (j : Nat) : UInt8 := UInt8.ofNat (((v.L.getD (j / 4) 0).fdiv (2 ^ (24 - 8 * (j % 4)))) % 256).toNat
def outL (v : V8) (i : Nat) : List UInt8 := (List.range i).map (outB v) ++ List.replicate (32 - i) 0
theorem outL_len (v : V8) (i : Nat) (h : i ≤ 32) : (outL v i).length = 32 := by unfold outL; rw [List.length_append, List.length_map, List.length_range, List.length_replicate]; omega
theorem outL_set (v : V8) (i : Nat) (h : i < 32) : outL v (i + 1) = (outL v i).set i (outB v i) := by
  unfold outL
  have hr : List.replicate (32 - i) (0 : UInt8) = 0 :: List.replicate (32 - (i + 1)) 0 := by rw [show 32 - i = (32 - (i + 1)) + 1 by omega, List.replicate_succ]
  rw [hr, List.range_succ, List.map_append, List.set_append, if_neg (by simp), List.length_map, List.length_range, Nat.sub_self, List.append_assoc]; rfl
def shaN (s : List UInt8) : List UInt8 := outL (mixN ksC ((padL s).length / 64) ivC (padL s)) 32
theorem shaN_len (s : List UInt8) : (shaN s).length = 32 := outL_len _ _ (Nat.le_refl _)
theorem byA_nt (n : Nat) : AV.i .u8 (IntKind.u8.wrap (n : Int)) = byA (UInt8.ofNat n) := by
  show AV.i _ _ = AV.i _ _
  rw [UInt8.toNat_ofNat', show IntKind.u8.wrap (n : Int) = ((n % 256 : Nat) : Int) from by rw [Int.natCast_emod]; rfl]
theorem wrapB (y : Int) : AV.i .u8 (IntKind.u8.wrap y) = byA (UInt8.ofNat (y % 256).toNat) := by
  rw [← byA_nt]
  have h1 := Int.emod_nonneg y (show (256 : Int) ≠ 0 by decide)
  have h2 := Int.emod_lt_of_pos y (show (0 : Int) < 256 by decide)
  rw [show ((y % 256).toNat : Int) = y % 256 by omega]
  show AV.i .u8 (y % 256) = AV.i .u8 (y % 256 % 256)
  rw [Int.emod_emod_of_dvd _ (Int.dvd_refl _)]
theorem lenByte (n k : Nat) (hn : n ≤ 1000000000) (hk : k < 8) : [AV.i .u8 (IntKind.u8.wrap ((IntKind.u64.wrap (8 * IntKind.u64.wrap (n : Int))).fdiv (2 ^ (min (56 - 8 * (k : Int)).toNat (IntKind.bits .u64)))))] = [UInt8.ofNat (8 * n / 2 ^ (56 - 8 * k))].map byA := by
  have e1 : IntKind.u64.wrap (n : Int) = (n : Int) := by show (n : Int) % 18446744073709551616 = n; omega
  have e2 : IntKind.u64.wrap (8 * (n : Int)) = ((8 * n : Nat) : Int) := by show (8 * (n : Int)) % 18446744073709551616 = _; omega
  have e3 : min (56 - 8 * (k : Int)).toNat (IntKind.bits .u64) = 56 - 8 * k := by rw [show IntKind.bits .u64 = 64 from rfl]; omega
  have e4 : (2 : Int) ^ (56 - 8 * k) = ((2 ^ (56 - 8 * k) : Nat) : Int) := by rw [Int.natCast_pow]; rfl
  rw [e1, e2, e3, e4, ← Int.ofNat_fdiv, byA_nt]; rfl
theorem sum_spec (s : List UInt8) (hs : s.length ≤ 1000000000) : Spec Try.prog 28 [.s s] [] (fun v os => v = labA (shaN s) ∧ os = []) := by
  refine spec_of TtOk [] Try.func28 rfl Try.ntmps28 (by kernel_rfl) rfl rfl (fun C => ?_) rfl
  have hst := steps_spec
  have hkl : ksC.length = 64 := rfl
  have hS : shaN s = outL (mixN ksC ((padL s).length / 64) ivC (padL s)) 32 := rfl
  rw [hS]
  generalize ksC = ks at hst hkl
  obtain ⟨iv, hiv⟩ : ∃ iv, iv = ivC := ⟨_, rfl⟩
  rw [← hiv]
  repeat' (first | refine Awp.seq ?_ | refine Awp.region ?_ | (refine Ops.nil ?_; show Awp _ _ _ _ _) | refine o_alloc (d := 2) rfl TtOk rfl rfl rfl (fun b2 => ?_))
  refine o_buildArr TtOk rfl (iv.L.map uI) rfl rfl rfl (by kernel_rfl) (by rw [hiv]; kernel_rfl) rfl ?_
  have hivS : shaN s = outL (mixN ks ((padL s).length / 64) iv (padL s)) 32 → True := fun _ => trivial
  clear hivS
  repeat' (first | refine Awp.seq ?_ | refine Awp.region ?_ | (refine Ops.nil ?_; show Awp _ _ _ _ _) | (refine o_calm rfl TtOk rfl rfl rfl ?_ (fun _ => ?_); first | exact True.intro | exact ⟨rfl, rfl, rfl, rfl⟩ | exact ⟨rfl, True.intro⟩ | exact ⟨rfl, rfl⟩ | exact ⟨rfl, rfl, rfl⟩ | exact rfl | exact ⟨fun h0 => by cases h0, rfl⟩ | exact (fun h0 => by cases h0) | exact ⟨rfl, by omega⟩ | exact ⟨Nat.succ_ne_zero _, rfl⟩ | omega) | refine o_alloc (d := 3) rfl TtOk rfl rfl rfl (fun b3 => ?_) | refine o_store TtOk rfl rfl rfl rfl rfl rfl rfl ⟨rfl, rfl⟩ rfl rfl rfl rfl rfl ?_)
  refine o_toBytesM TtOk rfl rfl rfl rfl rfl rfl (fun v11 b11 o11 hM => ?_)
  repeat' (first | refine Awp.seq ?_ | refine Awp.block ?_ | (refine Ops.nil ?_; show Awp _ _ _ _ _) | (refine o_calm rfl TtOk rfl rfl rfl ?_ (fun _ => ?_); first | exact True.intro | exact ⟨rfl, rfl, rfl, rfl⟩ | exact ⟨rfl, True.intro⟩ | exact ⟨rfl, rfl⟩ | exact ⟨rfl, rfl, rfl⟩ | exact rfl | exact ⟨fun h0 => by cases h0, rfl⟩ | exact (fun h0 => by cases h0) | exact ⟨rfl, by omega⟩ | exact ⟨Nat.succ_ne_zero _, rfl⟩ | omega) | refine o_buildSlice TtOk rfl rfl rfl rfl rfl rfl rfl rfl rfl rfl rfl (by repeat' (first | exact True.intro | exact rfl | refine ⟨?_, ?_⟩)) (fun _ => ?_) | (refine o_appendM TtOk rfl hM rfl rfl rfl rfl rfl rfl rfl rfl (by first | exact True.intro | exact rfl) (ys:=[128]) rfl (by decide) rfl rfl ?_ ?_ (fun _ _ => rfl) (fun v13 b13 o13 hM2 => ?_); (show (_ + 1) * 1 ≤ _; omega); (show _ + 1 ≤ _; omega)))
  have hsl : (s ++ [128]).length = s.length + 1 := List.length_append
  refine Awp.loop (fun q : Nat × Value × Nat × Obj => ⟨61, [(4, .own 11 q.2.1), (3, .ptr 3 b3 [] 0), (2, .ptr 2 b2 [] 0), (0, .s s)], [(11, .obj q.2.2.1 q.2.2.2), (3, .var b3 (.arr 1 8 (iv.L.map uI))), (2, .var b2 (.arr 1 32 (List.replicate 32 (.i .u8 0))))]⟩)
    (fun q => q.1 ≤ zc s.length ∧ MRow q.2.1 q.2.2.2 5 q.2.2.1 ((s ++ [128]) ++ List.replicate q.1 0)) (fun q => zc s.length - q.1) [] (0, v13, b13, o13) ⟨Nat.zero_le _, by rw [show List.replicate 0 (0 : UInt8) = [] from rfl, List.append_nil]; exact hM2⟩ ?_ ?_
  · exact ⟨rfl, ⟨sle_own, sle_ptr, sle_ptr, sle_s rfl, True.intro⟩, HLe.cons 11 rfl (HOLe.refl _) (HLe.cons 3 rfl (HOLe.refl _) (HLe.cons 2 rfl (HOLe.refl _) .nil))⟩
  rintro ⟨j, v, b, o⟩ ⟨hj, hMj⟩
  dsimp only at hj hMj ⊢
  have hjl : ((s ++ [128]) ++ List.replicate j 0).length = s.length + 1 + j := by rw [List.length_append, hsl, List.length_replicate]
  have hzc : zc s.length = (119 - s.length % 64) % 64 := rfl
  have hrep : (s ++ [128]) ++ List.replicate (j + 1) 0 = ((s ++ [128]) ++ List.replicate j 0) ++ [0] := by rw [List.replicate_succ', ← List.append_assoc]
  by_cases hlt : j < zc s.length
  · generalize (s ++ [128]) ++ List.replicate j 0 = B at hMj hjl hrep
    repeat' (first | refine Awp.seq ?_ | refine Awp.block ?_ | refine Awp.region ?_ | (refine Ops.nil ?_; show Awp _ _ _ _ _) | (refine Ops.nil ?_; show Exists _) | (refine Awp.skip ?_; show Awp _ _ _ _ _) | (refine o_rem rfl rfl rfl rfl ?_ ?_ ?_; omega; omega) | (refine o_calm rfl TtOk rfl rfl rfl ?_ (fun _ => ?_); first | exact True.intro | exact ⟨rfl, rfl, rfl, rfl⟩ | exact ⟨rfl, True.intro⟩ | exact ⟨rfl, rfl⟩ | exact ⟨rfl, rfl, rfl⟩ | exact rfl | exact ⟨fun h0 => by cases h0, rfl⟩ | exact (fun h0 => by cases h0) | exact ⟨rfl, by omega⟩ | exact ⟨Nat.succ_ne_zero _, rfl⟩ | omega) | refine o_buildSlice TtOk rfl rfl rfl rfl rfl rfl rfl rfl rfl rfl rfl (by repeat' (first | exact True.intro | exact rfl | refine ⟨?_, ?_⟩)) (fun _ => ?_) | (refine a_condN rfl (fun hc => ?_) (fun hc => ?_)) <;> (try (exfalso; omega)) | (refine o_lenM TtOk rfl rfl hMj rfl rfl ?_) | (refine o_appendM TtOk rfl hMj rfl rfl rfl rfl rfl rfl rfl rfl (by first | exact True.intro | exact rfl) (ys:=[0]) rfl (by decide) rfl rfl ?_ ?_ (fun _ _ => rfl) (fun v13 b13 o13 hM2 => ?_); (show (_ + 1) * 1 ≤ _; omega); (show _ + 1 ≤ _; omega)))
    exact ⟨(j + 1, v13, b13, o13), [], ⟨hlt, by rw [hrep]; exact hM2⟩, by show zc s.length - (j + 1) < zc s.length - j; omega, rfl, ⟨sle_own, sle_ptr, sle_ptr, sle_s rfl, True.intro⟩, HLe.cons 11 rfl (HOLe.refl _) (HLe.cons 3 rfl (HOLe.refl _) (HLe.cons 2 rfl (HOLe.refl _) .nil))⟩
  · have hje : j = zc s.length := by omega
    have hP : padL s = ((s ++ [128]) ++ List.replicate j 0) ++ lenB s.length 8 := by rw [hje]; rfl
    generalize (s ++ [128]) ++ List.replicate j 0 = B at hMj hjl hP
    repeat' (first | refine Awp.seq ?_ | refine Awp.block ?_ | refine Awp.region ?_ | (refine Ops.nil ?_; show Awp _ _ _ _ _) | (refine Awp.exit ?_; show Awp _ _ _ _ _) | (refine o_rem rfl rfl rfl rfl ?_ ?_ ?_; omega; omega) | (refine o_calm rfl TtOk rfl rfl rfl ?_ (fun _ => ?_); first | exact True.intro | exact ⟨rfl, rfl, rfl, rfl⟩ | exact ⟨rfl, True.intro⟩ | exact ⟨rfl, rfl⟩ | exact ⟨rfl, rfl, rfl⟩ | exact rfl | exact ⟨fun h0 => by cases h0, rfl⟩ | exact (fun h0 => by cases h0) | exact ⟨rfl, by omega⟩ | exact ⟨Nat.succ_ne_zero _, rfl⟩ | omega) | (refine a_condN rfl (fun hc => ?_) (fun hc => ?_)) <;> (try (exfalso; omega)) | (refine o_lenM TtOk rfl rfl hMj rfl rfl ?_))
    refine Awp.loop (fun q : Nat × Value × Nat × Obj => ⟨61, [(5, .i .i64 (56 - 8 * (q.1 : Int))), (4, .own 11 q.2.1), (3, .ptr 3 b3 [] 0), (2, .ptr 2 b2 [] 0), (0, .s s)], [(11, .obj q.2.2.1 q.2.2.2), (3, .var b3 (.arr 1 8 (iv.L.map uI))), (2, .var b2 (.arr 1 32 (List.replicate 32 (.i .u8 0))))]⟩)
      (fun q => q.1 ≤ 8 ∧ MRow q.2.1 q.2.2.2 5 q.2.2.1 (B ++ lenB s.length q.1)) (fun q => 8 - q.1) [] (0, v, b, o) ⟨Nat.zero_le _, by rw [show lenB s.length 0 = [] from rfl, List.append_nil]; exact hMj⟩ ?_ ?_
    · exact ⟨rfl, ⟨sle_i rfl, sle_own, sle_ptr, sle_ptr, sle_s rfl, True.intro⟩, HLe.cons 11 rfl (HOLe.refl _) (HLe.cons 3 rfl (HOLe.refl _) (HLe.cons 2 rfl (HOLe.refl _) .nil))⟩
    clear hMj
    rintro ⟨k, v, b, o⟩ ⟨hk, hMk⟩
    dsimp only at hk hMk ⊢
    have hlk := lenB_len s.length k
    have hls := lenB_succ s.length k
    have hBl : (B ++ lenB s.length k).length = B.length + k := by rw [List.length_append, hlk]
    by_cases hk8 : k < 8
    · have hBs : B ++ lenB s.length (k + 1) = (B ++ lenB s.length k) ++ [UInt8.ofNat (8 * s.length / 2 ^ (56 - 8 * k))] := by rw [hls, List.append_assoc]
      generalize B ++ lenB s.length k = B2 at hMk hBl hBs
      have hby := lenByte s.length k hs hk8
      repeat' (first | refine Awp.seq ?_ | refine Awp.block ?_ | refine Awp.region ?_ | (refine Ops.nil ?_; show Awp _ _ _ _ _) | (refine Ops.nil ?_; show Exists _) | (refine Awp.skip ?_; show Awp _ _ _ _ _) | (refine o_sub rfl rfl rfl rfl ?_ ?_; omega) | (refine o_calm rfl TtOk rfl rfl rfl ?_ (fun _ => ?_); first | exact True.intro | exact ⟨rfl, rfl, rfl, rfl⟩ | exact ⟨rfl, True.intro⟩ | exact ⟨rfl, rfl⟩ | exact ⟨rfl, rfl, rfl⟩ | exact rfl | exact ⟨fun h0 => by cases h0, rfl⟩ | exact (fun h0 => by cases h0) | exact ⟨rfl, by omega⟩ | exact ⟨Nat.succ_ne_zero _, rfl⟩ | omega) | refine o_buildSlice TtOk rfl rfl rfl rfl rfl rfl rfl rfl rfl rfl rfl (by repeat' (first | exact True.intro | exact rfl | refine ⟨?_, ?_⟩)) (fun _ => ?_) | (refine a_condP rfl (fun hc => ?_) (fun hc => ?_)) <;> (try (exfalso; omega)) | (refine o_appendM TtOk rfl hMk rfl rfl rfl rfl rfl rfl rfl rfl (by first | exact True.intro | exact rfl) (ys:=[UInt8.ofNat (8*s.length/2^(56-8*k))]) hby (Nat.zero_lt_succ _) rfl rfl ?_ ?_ (fun _ _ => rfl) (fun v13 b13 o13 hM2 => ?_); (show (_ + 1) * 1 ≤ _; omega); (show _ + 1 ≤ _; omega)))
      exact ⟨(k + 1, v13, b13, o13), [], ⟨hk8, by rw [hBs]; exact hM2⟩, by show 8 - (k + 1) < 8 - k; omega, rfl, ⟨sle_i (by omega), sle_own, sle_ptr, sle_ptr, sle_s rfl, True.intro⟩, HLe.cons 11 rfl (HOLe.refl _) (HLe.cons 3 rfl (HOLe.refl _) (HLe.cons 2 rfl (HOLe.refl _) .nil))⟩
    · have hke : k = 8 := by omega
      subst hke
      rw [← hP] at hMk hBl
      repeat' (first | refine Awp.seq ?_ | refine Awp.block ?_ | refine Awp.region ?_ | (refine Ops.nil ?_; show Awp _ _ _ _ _) | (refine Awp.exit ?_; show Awp _ _ _ _ _) | (refine o_calm rfl TtOk rfl rfl rfl ?_ (fun _ => ?_); first | exact True.intro | exact ⟨rfl, rfl, rfl, rfl⟩ | exact ⟨rfl, True.intro⟩ | exact ⟨rfl, rfl⟩ | exact ⟨rfl, rfl, rfl⟩ | exact rfl | exact ⟨fun h0 => by cases h0, rfl⟩ | exact (fun h0 => by cases h0) | exact ⟨rfl, by omega⟩ | exact ⟨Nat.succ_ne_zero _, rfl⟩ | omega) | refine o_alloc (d := 6) rfl TtOk rfl rfl rfl (fun b6 => ?_) | refine o_store TtOk rfl rfl rfl rfl rfl rfl rfl ⟨rfl, rfl⟩ rfl rfl rfl rfl rfl ?_ | refine a_condF rfl ?_ | (refine o_call0 rfl (hst) True.intro rfl ?_; rintro _ _ ⟨rfl, rfl⟩; refine ⟨rfl, ?_⟩))
      refine a_freezeM 11 4 hMk rfl rfl rfl ?_
      obtain ⟨M, hM1, hM2⟩ := padL_len s
      have hMd : (padL s).length / 64 = M := by omega
      rw [hMd]
      generalize padL s = Q at hM1 hMk
      obtain ⟨W, hW⟩ : ∃ W, mixN ks M iv Q = W := ⟨_, rfl⟩
      rw [hW]
      refine Awp.loop (fun q : Nat × V8 × List UInt8 => ⟨61, [(4, .sl 1 (q.2.2.map byA)), (6, .ptr 6 b6 [] 0), (3, .ptr 3 b3 [] 0), (2, .ptr 2 b2 [] 0)], [(3, .var b3 (.arr 1 8 (q.2.1.L.map uI))), (6, .var b6 (.arr 1 64 (ks.map uI))), (2, .var b2 (.arr 1 32 (List.replicate 32 (.i .u8 0))))]⟩)
        (fun q => q.1 ≤ M ∧ q.2.2.length = 64 * q.1 ∧ mixN ks q.1 q.2.1 q.2.2 = W) (fun q => q.1) [] (M, iv, Q) ⟨Nat.le_refl _, hM1, hW⟩ ?_ ?_
      · exact ⟨rfl, ⟨sle_sl rfl, sle_ptr, sle_ptr, sle_ptr, True.intro⟩, HLe.cons 3 rfl (HOLe.refl _) (HLe.cons 6 rfl (HOLe.refl _) (HLe.cons 2 rfl (HOLe.refl _) .nil))⟩
      clear hW hM1 hMk hiv
      rintro ⟨m, v8, R⟩ ⟨hm, hRl, hst8⟩
      dsimp only at hm hRl hst8 ⊢
      rcases m with _ | m
      · have hst8 : v8 = W := hst8
        subst hst8
        repeat' (first | refine Awp.seq ?_ | refine Awp.block ?_ | refine Awp.region ?_ | (refine Ops.nil ?_; show Awp _ _ _ _ _) | (refine Awp.exit ?_; show Awp _ _ _ _ _) | refine o_len rfl TtOk rfl rfl rfl (fun _ => ?_) | (refine o_calm rfl TtOk rfl rfl rfl ?_ (fun _ => ?_); first | exact True.intro | exact ⟨rfl, rfl, rfl, rfl⟩ | exact ⟨rfl, True.intro⟩ | exact ⟨rfl, rfl⟩ | exact ⟨rfl, rfl, rfl⟩ | exact rfl | exact ⟨fun h0 => by cases h0, rfl⟩ | exact (fun h0 => by cases h0) | exact ⟨rfl, by omega⟩ | exact ⟨Nat.succ_ne_zero _, rfl⟩ | omega) | refine o_alloc (d := 7) rfl TtOk rfl rfl rfl (fun b7 => ?_) | (refine a_condP rfl (fun hc => ?_) (fun hc => ?_)) <;> (try (exfalso; omega)))
        clear hRl hm
        refine Awp.loop (fun i : Nat => ⟨61, [(44, .i .i64 i), (7, .ptr 7 b7 [] 0), (3, .ptr 3 b3 [] 0), (2, .ptr 2 b2 [] 0)], [(7, .var b7 (.arr 1 32 ((outL v8 i).map byA))), (3, .var b3 (.arr 1 8 (v8.L.map uI))), (2, .var b2 (.arr 1 32 (List.replicate 32 (.i .u8 0))))]⟩)
          (fun i => i ≤ 32) (fun i => 32 - i) [] 0 (Nat.zero_le _) ?_ ?_
        · exact ⟨rfl, ⟨sle_i rfl, sle_ptr, sle_ptr, sle_ptr, True.intro⟩, HLe.cons 7 rfl (HOLe.refl _) (HLe.cons 3 rfl (HOLe.refl _) (HLe.cons 2 rfl (HOLe.refl _) .nil))⟩
        intro i hi
        by_cases hlt : i < 32
        · have hset := outL_set v8 i hlt
          have hol := outL_len v8 i hi
          have hvl : v8.L.length = 8 := rfl
          have g0 : (v8.L.map uI)[i / 4]? = some (uI (v8.L.getD (i / 4) 0)) := by
            have h4 : i / 4 < v8.L.length := by omega
            rw [List.getD_eq_getElem?_getD, List.getElem?_eq_getElem h4]
            exact getq_map (List.getElem?_eq_getElem h4)
          have hob : outB v8 i = UInt8.ofNat (((v8.L.getD (i / 4) 0).fdiv (2 ^ (24 - 8 * (i % 4)))) % 256).toNat := rfl
          generalize v8.L.getD (i / 4) 0 = z at g0 hob
          have hst0 : ((outL v8 i).map byA)[i]? = some (byA ((outL v8 i)[i]'(by omega))) := getq_map (List.getElem?_eq_getElem (by omega))
          repeat' (first | refine Awp.seq ?_ | refine Awp.block ?_ | refine Awp.region ?_ | (refine Ops.nil ?_; show Awp _ _ _ _ _) | (refine Ops.nil ?_; show Exists _) | (refine Awp.skip ?_; show Awp _ _ _ _ _) | (refine o_add rfl rfl rfl rfl ?_ ?_; omega) | (refine o_sub rfl rfl rfl rfl ?_ ?_; omega) | (refine o_mul rfl rfl rfl rfl ?_ ?_; omega) | (refine o_quo rfl rfl rfl rfl ?_ ?_ ?_; omega; omega) | (refine o_rem rfl rfl rfl rfl ?_ ?_ ?_; omega; omega) | (refine o_calm rfl TtOk rfl rfl rfl ?_ (fun _ => ?_); first | exact True.intro | exact ⟨rfl, rfl, rfl, rfl⟩ | exact ⟨rfl, True.intro⟩ | exact ⟨rfl, rfl⟩ | exact ⟨rfl, rfl, rfl⟩ | exact rfl | exact ⟨fun h0 => by cases h0, rfl⟩ | exact (fun h0 => by cases h0) | exact ⟨rfl, by omega⟩ | exact ⟨Nat.succ_ne_zero _, rfl⟩ | omega) | (refine a_condP rfl (fun hc => ?_) (fun hc => ?_)) <;> (try (exfalso; omega)) | (refine o_indexArr TtOk rfl rfl rfl rfl rfl rfl i rfl (by omega) ?_) | (refine o_indexArr TtOk rfl rfl rfl rfl rfl rfl (i/4) rfl (by omega) ?_) | (refine o_loadAt TtOk rfl rfl rfl rfl (sub_arr g0) (by first | exact Nat.add_zero _ | rfl) ⟨rfl, rfl⟩ rfl rfl ?_) | (refine o_storeArr TtOk rfl rfl rfl rfl rfl rfl ⟨rfl, rfl⟩ rfl rfl hst0 rfl rfl ?_))
          have hz : AV.i .u8 (IntKind.u8.wrap (z.fdiv (2 ^ (min (24 - 8 * ((i : Int) % 4)).toNat (IntKind.bits .u32))))) = byA (outB v8 i) := by
            rw [show min (24 - 8 * ((i : Int) % 4)).toNat (IntKind.bits .u32) = 24 - 8 * (i % 4) by rw [show IntKind.bits .u32 = 32 from rfl]; omega, hob, wrapB]
          refine ⟨i + 1, [], by omega, by omega, rfl, ⟨sle_i rfl, sle_ptr, sle_ptr, sle_ptr, True.intro⟩, HLe.cons 7 rfl (HOLe.var (CLe.of_eq ?_)) (HLe.cons 3 rfl (HOLe.refl _) (HLe.cons 2 rfl (HOLe.refl _) .nil))⟩
          show AV.arr 1 32 (((outL v8 i).map byA).set i (AV.i .u8 (IntKind.u8.wrap (z.fdiv (2 ^ (min (24 - 8 * ((i : Int) % 4)).toNat (IntKind.bits .u32))))))) = _
          rw [hz, hset, List.map_set]
        · have hie : i = 32 := by omega
          have hoo : outL v8 i = outL v8 32 := by rw [hie]
          rw [hoo]
          clear hie hoo
          generalize outL v8 32 = out
          repeat' (first | refine Awp.seq ?_ | refine Awp.region ?_ | (refine Ops.nil ?_; show Awp _ _ _ _ _) | (refine Awp.exit ?_; show Awp _ _ _ _ _) | (refine Awp.ret ?_; show endK _ _ _ _ _) | (refine o_calm rfl TtOk rfl rfl rfl ?_ (fun _ => ?_); first | exact True.intro | exact ⟨rfl, rfl, rfl, rfl⟩ | exact ⟨rfl, True.intro⟩ | exact ⟨rfl, rfl⟩ | exact ⟨rfl, rfl, rfl⟩ | exact rfl | exact ⟨fun h0 => by cases h0, rfl⟩ | exact (fun h0 => by cases h0) | exact ⟨rfl, by omega⟩ | exact ⟨Nat.succ_ne_zero _, rfl⟩ | omega) | refine o_store TtOk rfl rfl rfl rfl rfl rfl rfl ⟨rfl, rfl⟩ rfl rfl rfl rfl rfl ?_ | (refine a_condP rfl (fun hc => ?_) (fun hc => ?_)) <;> (try (exfalso; omega)))
          refine end_all [] [] (labA out) rfl ?_ ?_ (rle_one (CLe.refl _) rfl) .nil ⟨rfl, rfl⟩ _ (.inl rfl)
          · repeat' (first | exact True.intro | exact rfl | refine ⟨?_, ?_⟩)
          · exact ⟨trivial, trivial⟩
      · have hst8 : mixN ks m (mixV v8 (R.take 64) ks) (R.drop 64) = W := hst8
        have hmx := mix_spec b3 b6 v8 (R.take 64) ks hkl (by rw [List.length_take]; omega)
        have h64 : 64 ≤ R.length := by omega
        repeat' (first | refine Awp.seq ?_ | refine Awp.block ?_ | refine Awp.region ?_ | (refine Ops.nil ?_; show Awp _ _ _ _ _) | (refine Ops.nil ?_; show Exists _) | (refine Awp.skip ?_; show Awp _ _ _ _ _) | refine o_len rfl TtOk rfl rfl rfl (fun _ => ?_) | (refine o_calm rfl TtOk rfl rfl rfl ?_ (fun _ => ?_); first | exact True.intro | exact ⟨rfl, rfl, rfl, rfl⟩ | exact ⟨rfl, True.intro⟩ | exact ⟨rfl, rfl⟩ | exact ⟨rfl, rfl, rfl⟩ | exact rfl | exact ⟨fun h0 => by cases h0, rfl⟩ | exact (fun h0 => by cases h0) | exact ⟨rfl, by omega⟩ | exact ⟨Nat.succ_ne_zero _, rfl⟩ | omega) | (refine a_condP rfl (fun hc => ?_) (fun hc => ?_)) <;> (try (exfalso; omega)) | (refine o_sliceSl TtOk rfl 0 64 rfl rfl rfl rfl rfl bnd_none (bnd_some rfl rfl) (by omega) h64 ?_; rw [List.drop_zero]) | (refine o_call [] [3, 6] [3, 6] rfl hmx ⟨sle_ptr, SLe.of_eq rfl, sle_ptr, True.intro⟩ rfl ⟨HOLe.refl _, HOLe.refl _, True.intro⟩ rfl rfl ?_; rintro _ _ ⟨rfl, rfl⟩; refine ⟨_, rfl, rfl, ?_⟩) | (refine o_sliceSl TtOk rfl 64 R.length rfl rfl rfl rfl rfl (bnd_some rfl rfl) bnd_none h64 (Nat.le_refl _) ?_; rw [List.take_length]))
        exact ⟨(m, mixV v8 (R.take 64) ks, R.drop 64), [], ⟨by omega, by rw [List.length_drop]; omega, hst8⟩, Nat.lt_succ_self _, rfl, ⟨sle_sl rfl, sle_ptr, sle_ptr, sle_ptr, True.intro⟩, HLe.cons 3 rfl (HOLe.refl _) (HLe.cons 6 rfl (HOLe.refl _) (HLe.cons 2 rfl (HOLe.refl _) .nil))⟩
end Go.Proofs.Ytcmgpkibjdbonaa
