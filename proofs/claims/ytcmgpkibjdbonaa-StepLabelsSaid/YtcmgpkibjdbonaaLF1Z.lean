/- sha.Joined of any texts, label.Fresh, Stale, Tomb, Mark by rules. -/
import Derived.Test.YtcmgpkibjdbonaaG5Z
import Derived.Test.YtcmgpkibjdbonaaV42
import Derived.Test.YtcmgpkibjdbonaaV16Z
import Derived.Lib.AppendZeros
set_option maxHeartbeats 16000000
set_option maxRecDepth 100000
namespace Go.Proofs.Ytcmgpkibjdbonaa
open Go Go.RowKit
def shf : Nat → Int
  | 0 => 24
  | 1 => 16
  | 2 => 8
  | 3 => 0
  | _ => -8
theorem shf_fd (n : Nat) (k : Nat) (hk : k ≤ 64) : AV.i .u8 (IntKind.u8.wrap ((n : Int).fdiv (2 ^ (min ((k : Int)).toNat (IntKind.bits .i64))))) = byA (UInt8.ofNat (n / 2 ^ k)) := by
  rw [show min ((k : Int)).toNat (IntKind.bits .i64) = k by rw [show IntKind.bits .i64 = 64 from rfl]; omega, show (2 : Int) ^ k = ((2 ^ k : Nat) : Int) by rw [Int.natCast_pow]; rfl, ← Int.ofNat_fdiv, byA_nt]
theorem shf_row (J : List UInt8) (n k s : Nat) (hs : s ≤ 64) (h : (lenQ n).take (k + 1) = (lenQ n).take k ++ [UInt8.ofNat (n / 2 ^ s)]) : (J ++ (lenQ n).take (k + 1)).map byA = (J ++ (lenQ n).take k).map byA ++ [AV.i .u8 (IntKind.u8.wrap ((n : Int).fdiv (2 ^ (min ((s : Int)).toNat (IntKind.bits .i64)))))] := by
  rw [h, shf_fd n s hs, ← List.append_assoc, List.map_append]; rfl
theorem shf_row0 (J : List UInt8) (n : Nat) : (J ++ (lenQ n).take 1).map byA = (J ++ (lenQ n).take 0).map byA ++ [AV.i .u8 (IntKind.u8.wrap ((n : Int).fdiv (2 ^ (min (Int.toNat 24) (IntKind.bits .i64)))))] := shf_row J n 0 24 (by decide) rfl
theorem shf_row1 (J : List UInt8) (n : Nat) : (J ++ (lenQ n).take 2).map byA = (J ++ (lenQ n).take 1).map byA ++ [AV.i .u8 (IntKind.u8.wrap ((n : Int).fdiv (2 ^ (min (Int.toNat 16) (IntKind.bits .i64)))))] := shf_row J n 1 16 (by decide) rfl
theorem shf_row2 (J : List UInt8) (n : Nat) : (J ++ (lenQ n).take 3).map byA = (J ++ (lenQ n).take 2).map byA ++ [AV.i .u8 (IntKind.u8.wrap ((n : Int).fdiv (2 ^ (min (Int.toNat 8) (IntKind.bits .i64)))))] := shf_row J n 2 8 (by decide) rfl
theorem shf_row3 (J : List UInt8) (n : Nat) : (J ++ (lenQ n).take 4).map byA = (J ++ (lenQ n).take 3).map byA ++ [AV.i .u8 (IntKind.u8.wrap ((n : Int).fdiv (2 ^ (min (Int.toNat 0) (IntKind.bits .i64)))))] := shf_row J n 3 0 (by decide) (by show _ = _ ++ [UInt8.ofNat (n / 1)]; rw [Nat.div_one]; rfl)
theorem sjoin_spec' (tag : UInt8) (ts : List (List UInt8)) (hn : ts.length ≤ 100) (h : ∀ t ∈ ts, t.length ≤ 1000000) : Spec Try.prog 88 [byA tag, .sl 1 (ts.map sA)] [] (fun v os => v = labA (shaN (jnB tag ts)) ∧ os = []) := by
  have hjl := jnB_len tag ts h
  have h1 := sum_spec (jnB tag ts) (by omega)
  generalize shaN (jnB tag ts) = s at h1
  refine spec_of TtOk [] Try.func88 rfl Try.ntmps88 (by kernel_rfl) rfl rfl (fun C => ?_) rfl
  repeat' (first | refine Awp.seq ?_ | refine Awp.block ?_ | refine Awp.region ?_ | (refine Ops.nil ?_; show Awp _ _ _ _ _) | refine o_len rfl TtOk rfl rfl rfl (fun _ => ?_) | (refine o_calm rfl TtOk rfl rfl rfl ?_ (fun _ => ?_); first | exact True.intro | exact ⟨rfl, rfl, rfl, rfl⟩ | exact ⟨rfl, True.intro⟩ | exact ⟨rfl, rfl⟩ | exact ⟨rfl, rfl, rfl⟩ | exact rfl | exact ⟨fun h0 => by cases h0, rfl⟩ | exact (fun h0 => by cases h0) | exact ⟨rfl, by omega⟩ | exact ⟨Nat.succ_ne_zero _, rfl⟩ | omega) | refine o_alloc (d := 4) rfl TtOk rfl rfl rfl (fun b4 => ?_) | refine o_buildSlice (d := 10) TtOk rfl rfl rfl rfl rfl rfl rfl rfl rfl rfl rfl (by repeat' (first | exact True.intro | exact rfl | refine ⟨?_, ?_⟩)) (fun v10 => ?_))
  refine Awp.loop (fun q : Nat × Value => ⟨36, [(13, .i .i64 q.1), (12, .i .i64 ts.length), (11, .sl 1 (ts.map sA)), (5, .own 10 q.2), (4, .ptr 4 b4 [] 0)], [(10, .row q.2 5 1 ((jnB tag (ts.take q.1)).map byA)), (4, .var b4 (.arr 1 32 (List.replicate 32 (.i .u8 0))))]⟩) (fun q => q.1 ≤ ts.length) (fun q => ts.length - q.1) [] (0, v10) (Nat.zero_le _) ?_ ?_
  · exact ⟨rfl, ⟨sle_i rfl, sle_i rfl, sle_sl rfl, sle_own, sle_ptr, True.intro⟩, HLe.cons 10 rfl (HOLe.refl _) (HLe.cons 4 rfl (HOLe.refl _) .nil)⟩
  rintro ⟨i, v⟩ hi
  dsimp only at hi ⊢
  by_cases hlt : i < ts.length
  · have hi1 : ((i : Int) + 1 = ((i + 1 : Nat) : Int)) := by omega
    have hjl := jnB_len tag (ts.take i) (fun t ht => h t (List.mem_of_mem_take ht))
    rw [List.length_take] at hjl
    have htl := h _ (List.getElem_mem hlt)
    have hs := jnB_succ tag ts i hlt
    have hq := lenQ_row ts[i].length
    have hq4 : (lenQ ts[i].length).length = 4 := rfl
    have hjl : (jnB tag (ts.take i)).length ≤ 2000000000 := by omega
    generalize jnB tag (ts.take i) = J at hs hjl ⊢
    clear h1
    repeat' (first | refine Awp.seq ?_ | refine Awp.block ?_ | refine Awp.region ?_ | (refine Ops.nil ?_; show Awp _ _ _ _ _) | (refine Awp.skip ?_; show Awp _ _ _ _ _) | (refine o_calm rfl TtOk rfl rfl rfl ?_ (fun _ => ?_); first | exact True.intro | exact ⟨rfl, rfl, rfl, rfl⟩ | exact ⟨rfl, True.intro⟩ | exact ⟨rfl, rfl⟩ | exact ⟨rfl, rfl, rfl⟩ | exact rfl | exact ⟨fun h0 => by cases h0, rfl⟩ | exact (fun h0 => by cases h0) | exact ⟨rfl, by omega⟩ | exact ⟨Nat.succ_ne_zero _, rfl⟩ | omega) | (refine o_index rfl TtOk rfl rfl rfl rfl rfl rfl ?_ (getq_nat ?_) ?_; omega; omega) | (refine a_condP rfl (fun hc => ?_) (fun hc => ?_)) <;> (try (exfalso; omega)))
    refine Awp.loop (fun q : Nat × Value => ⟨36, [(8, .i .i64 (shf q.1)), (7, .s ts[i]), (13, .i .i64 i), (12, .i .i64 ts.length), (11, .sl 1 (ts.map sA)), (5, .own 10 q.2), (4, .ptr 4 b4 [] 0)], [(10, .row q.2 5 1 ((J ++ (lenQ ts[i].length).take q.1).map byA)), (4, .var b4 (.arr 1 32 (List.replicate 32 (.i .u8 0))))]⟩) (fun q => q.1 ≤ 4) (fun q => 4 - q.1) [] (0, v) (Nat.zero_le _) ?_ ?_
    · exact ⟨rfl, ⟨sle_i rfl, sle_s rfl, sle_i rfl, sle_i rfl, sle_sl rfl, sle_own, sle_ptr, True.intro⟩, HLe.cons 10 rfl (HOLe.row (by rw [List.take_zero, List.append_nil])) (HLe.cons 4 rfl (HOLe.refl _) .nil)⟩
    rintro ⟨k, u⟩ hk
    dsimp only at hk ⊢
    have hk5 : k = 0 ∨ k = 1 ∨ k = 2 ∨ k = 3 ∨ k = 4 := by omega
    rcases hk5 with rfl | rfl | rfl | rfl | rfl
    · have hln : (J ++ (lenQ ts[i].length).take 0).length ≤ 2000000010 := by rw [List.length_append, List.length_take]; omega
      have hR : (J ++ (lenQ ts[i].length).take 1).map byA = (J ++ (lenQ ts[i].length).take 0).map byA ++ [AV.i .u8 (IntKind.u8.wrap ((ts[i].length : Int).fdiv (2 ^ (min (Int.toNat 24) (IntKind.bits .i64)))))] := shf_row0 J ts[i].length
      generalize J ++ (lenQ ts[i].length).take 0 = A at *
      show Awp Try.prog C _ ⟨36, [(8, .i .i64 24), (7, .s ts[i]), (13, .i .i64 i), (12, .i .i64 ts.length), (11, .sl 1 (ts.map sA)), (5, .own 10 u), (4, .ptr 4 b4 [] 0)], [(10, .row u 5 1 (A.map byA)), (4, .var b4 (.arr 1 32 (List.replicate 32 (.i .u8 0))))]⟩ _
      repeat' (first | refine Awp.seq ?_ | refine Awp.block ?_ | refine Awp.region ?_ | (refine Ops.nil ?_; show Awp _ _ _ _ _) | (refine Ops.nil ?_; show Exists _) | (refine Awp.skip ?_; show Awp _ _ _ _ _) | (refine o_sub rfl rfl rfl rfl ?_ ?_; omega) | (refine o_calm rfl TtOk rfl rfl rfl ?_ (fun _ => ?_); first | exact True.intro | exact ⟨rfl, rfl, rfl, rfl⟩ | exact ⟨rfl, True.intro⟩ | exact ⟨rfl, rfl⟩ | exact ⟨rfl, rfl, rfl⟩ | exact rfl | exact ⟨fun h0 => by cases h0, rfl⟩ | exact (fun h0 => by cases h0) | exact ⟨rfl, by omega⟩ | exact ⟨Nat.succ_ne_zero _, rfl⟩ | omega) | refine o_buildSlice TtOk rfl rfl rfl rfl rfl rfl rfl rfl rfl rfl rfl (by repeat' (first | exact True.intro | exact rfl | refine ⟨?_, ?_⟩)) (fun _ => ?_) | (refine o_append TtOk rfl rfl rfl rfl rfl rfl rfl rfl rfl (by first | exact True.intro | exact rfl) rfl rfl (fun _ => rfl) ?_ ?_ (fun _ => ?_); ((repeat' (first | rw [List.length_append] | rw [List.length_map] | rw [List.length_cons] | rw [List.length_nil] | rw [List.length_take] | rw [List.length_drop])) <;> omega); ((repeat' (first | rw [List.length_append] | rw [List.length_map] | rw [List.length_cons] | rw [List.length_nil] | rw [List.length_take] | rw [List.length_drop])) <;> omega)) | refine a_condT rfl ?_)
      all_goals exact ⟨(1, _), [], (by decide : 1 ≤ 4), (by decide : 4 - 1 < 4 - 0), rfl, ⟨sle_i rfl, sle_s rfl, sle_i rfl, sle_i rfl, sle_sl rfl, sle_own, sle_ptr, True.intro⟩, HLe.cons 10 rfl (HOLe.row hR.symm) (HLe.cons 4 rfl (HOLe.refl _) .nil)⟩
    · have hln : (J ++ (lenQ ts[i].length).take 1).length ≤ 2000000010 := by rw [List.length_append, List.length_take]; omega
      have hR : (J ++ (lenQ ts[i].length).take 2).map byA = (J ++ (lenQ ts[i].length).take 1).map byA ++ [AV.i .u8 (IntKind.u8.wrap ((ts[i].length : Int).fdiv (2 ^ (min (Int.toNat 16) (IntKind.bits .i64)))))] := shf_row1 J ts[i].length
      generalize J ++ (lenQ ts[i].length).take 1 = A at *
      show Awp Try.prog C _ ⟨36, [(8, .i .i64 16), (7, .s ts[i]), (13, .i .i64 i), (12, .i .i64 ts.length), (11, .sl 1 (ts.map sA)), (5, .own 10 u), (4, .ptr 4 b4 [] 0)], [(10, .row u 5 1 (A.map byA)), (4, .var b4 (.arr 1 32 (List.replicate 32 (.i .u8 0))))]⟩ _
      repeat' (first | refine Awp.seq ?_ | refine Awp.block ?_ | refine Awp.region ?_ | (refine Ops.nil ?_; show Awp _ _ _ _ _) | (refine Ops.nil ?_; show Exists _) | (refine Awp.skip ?_; show Awp _ _ _ _ _) | (refine o_sub rfl rfl rfl rfl ?_ ?_; omega) | (refine o_calm rfl TtOk rfl rfl rfl ?_ (fun _ => ?_); first | exact True.intro | exact ⟨rfl, rfl, rfl, rfl⟩ | exact ⟨rfl, True.intro⟩ | exact ⟨rfl, rfl⟩ | exact ⟨rfl, rfl, rfl⟩ | exact rfl | exact ⟨fun h0 => by cases h0, rfl⟩ | exact (fun h0 => by cases h0) | exact ⟨rfl, by omega⟩ | exact ⟨Nat.succ_ne_zero _, rfl⟩ | omega) | refine o_buildSlice TtOk rfl rfl rfl rfl rfl rfl rfl rfl rfl rfl rfl (by repeat' (first | exact True.intro | exact rfl | refine ⟨?_, ?_⟩)) (fun _ => ?_) | (refine o_append TtOk rfl rfl rfl rfl rfl rfl rfl rfl rfl (by first | exact True.intro | exact rfl) rfl rfl (fun _ => rfl) ?_ ?_ (fun _ => ?_); ((repeat' (first | rw [List.length_append] | rw [List.length_map] | rw [List.length_cons] | rw [List.length_nil] | rw [List.length_take] | rw [List.length_drop])) <;> omega); ((repeat' (first | rw [List.length_append] | rw [List.length_map] | rw [List.length_cons] | rw [List.length_nil] | rw [List.length_take] | rw [List.length_drop])) <;> omega)) | refine a_condT rfl ?_)
      all_goals exact ⟨(2, _), [], (by decide : 2 ≤ 4), (by decide : 4 - 2 < 4 - 1), rfl, ⟨sle_i rfl, sle_s rfl, sle_i rfl, sle_i rfl, sle_sl rfl, sle_own, sle_ptr, True.intro⟩, HLe.cons 10 rfl (HOLe.row hR.symm) (HLe.cons 4 rfl (HOLe.refl _) .nil)⟩
    · have hln : (J ++ (lenQ ts[i].length).take 2).length ≤ 2000000010 := by rw [List.length_append, List.length_take]; omega
      have hR : (J ++ (lenQ ts[i].length).take 3).map byA = (J ++ (lenQ ts[i].length).take 2).map byA ++ [AV.i .u8 (IntKind.u8.wrap ((ts[i].length : Int).fdiv (2 ^ (min (Int.toNat 8) (IntKind.bits .i64)))))] := shf_row2 J ts[i].length
      generalize J ++ (lenQ ts[i].length).take 2 = A at *
      show Awp Try.prog C _ ⟨36, [(8, .i .i64 8), (7, .s ts[i]), (13, .i .i64 i), (12, .i .i64 ts.length), (11, .sl 1 (ts.map sA)), (5, .own 10 u), (4, .ptr 4 b4 [] 0)], [(10, .row u 5 1 (A.map byA)), (4, .var b4 (.arr 1 32 (List.replicate 32 (.i .u8 0))))]⟩ _
      repeat' (first | refine Awp.seq ?_ | refine Awp.block ?_ | refine Awp.region ?_ | (refine Ops.nil ?_; show Awp _ _ _ _ _) | (refine Ops.nil ?_; show Exists _) | (refine Awp.skip ?_; show Awp _ _ _ _ _) | (refine o_sub rfl rfl rfl rfl ?_ ?_; omega) | (refine o_calm rfl TtOk rfl rfl rfl ?_ (fun _ => ?_); first | exact True.intro | exact ⟨rfl, rfl, rfl, rfl⟩ | exact ⟨rfl, True.intro⟩ | exact ⟨rfl, rfl⟩ | exact ⟨rfl, rfl, rfl⟩ | exact rfl | exact ⟨fun h0 => by cases h0, rfl⟩ | exact (fun h0 => by cases h0) | exact ⟨rfl, by omega⟩ | exact ⟨Nat.succ_ne_zero _, rfl⟩ | omega) | refine o_buildSlice TtOk rfl rfl rfl rfl rfl rfl rfl rfl rfl rfl rfl (by repeat' (first | exact True.intro | exact rfl | refine ⟨?_, ?_⟩)) (fun _ => ?_) | (refine o_append TtOk rfl rfl rfl rfl rfl rfl rfl rfl rfl (by first | exact True.intro | exact rfl) rfl rfl (fun _ => rfl) ?_ ?_ (fun _ => ?_); ((repeat' (first | rw [List.length_append] | rw [List.length_map] | rw [List.length_cons] | rw [List.length_nil] | rw [List.length_take] | rw [List.length_drop])) <;> omega); ((repeat' (first | rw [List.length_append] | rw [List.length_map] | rw [List.length_cons] | rw [List.length_nil] | rw [List.length_take] | rw [List.length_drop])) <;> omega)) | refine a_condT rfl ?_)
      all_goals exact ⟨(3, _), [], (by decide : 3 ≤ 4), (by decide : 4 - 3 < 4 - 2), rfl, ⟨sle_i rfl, sle_s rfl, sle_i rfl, sle_i rfl, sle_sl rfl, sle_own, sle_ptr, True.intro⟩, HLe.cons 10 rfl (HOLe.row hR.symm) (HLe.cons 4 rfl (HOLe.refl _) .nil)⟩
    · have hln : (J ++ (lenQ ts[i].length).take 3).length ≤ 2000000010 := by rw [List.length_append, List.length_take]; omega
      have hR : (J ++ (lenQ ts[i].length).take 4).map byA = (J ++ (lenQ ts[i].length).take 3).map byA ++ [AV.i .u8 (IntKind.u8.wrap ((ts[i].length : Int).fdiv (2 ^ (min (Int.toNat 0) (IntKind.bits .i64)))))] := shf_row3 J ts[i].length
      generalize J ++ (lenQ ts[i].length).take 3 = A at *
      show Awp Try.prog C _ ⟨36, [(8, .i .i64 0), (7, .s ts[i]), (13, .i .i64 i), (12, .i .i64 ts.length), (11, .sl 1 (ts.map sA)), (5, .own 10 u), (4, .ptr 4 b4 [] 0)], [(10, .row u 5 1 (A.map byA)), (4, .var b4 (.arr 1 32 (List.replicate 32 (.i .u8 0))))]⟩ _
      repeat' (first | refine Awp.seq ?_ | refine Awp.block ?_ | refine Awp.region ?_ | (refine Ops.nil ?_; show Awp _ _ _ _ _) | (refine Ops.nil ?_; show Exists _) | (refine Awp.skip ?_; show Awp _ _ _ _ _) | (refine o_sub rfl rfl rfl rfl ?_ ?_; omega) | (refine o_calm rfl TtOk rfl rfl rfl ?_ (fun _ => ?_); first | exact True.intro | exact ⟨rfl, rfl, rfl, rfl⟩ | exact ⟨rfl, True.intro⟩ | exact ⟨rfl, rfl⟩ | exact ⟨rfl, rfl, rfl⟩ | exact rfl | exact ⟨fun h0 => by cases h0, rfl⟩ | exact (fun h0 => by cases h0) | exact ⟨rfl, by omega⟩ | exact ⟨Nat.succ_ne_zero _, rfl⟩ | omega) | refine o_buildSlice TtOk rfl rfl rfl rfl rfl rfl rfl rfl rfl rfl rfl (by repeat' (first | exact True.intro | exact rfl | refine ⟨?_, ?_⟩)) (fun _ => ?_) | (refine o_append TtOk rfl rfl rfl rfl rfl rfl rfl rfl rfl (by first | exact True.intro | exact rfl) rfl rfl (fun _ => rfl) ?_ ?_ (fun _ => ?_); ((repeat' (first | rw [List.length_append] | rw [List.length_map] | rw [List.length_cons] | rw [List.length_nil] | rw [List.length_take] | rw [List.length_drop])) <;> omega); ((repeat' (first | rw [List.length_append] | rw [List.length_map] | rw [List.length_cons] | rw [List.length_nil] | rw [List.length_take] | rw [List.length_drop])) <;> omega)) | refine a_condT rfl ?_)
      all_goals exact ⟨(4, _), [], (by decide : 4 ≤ 4), (by decide : 4 - 4 < 4 - 3), rfl, ⟨sle_i rfl, sle_s rfl, sle_i rfl, sle_i rfl, sle_sl rfl, sle_own, sle_ptr, True.intro⟩, HLe.cons 10 rfl (HOLe.row hR.symm) (HLe.cons 4 rfl (HOLe.refl _) .nil)⟩
    · rw [show (lenQ ts[i].length).take 4 = lenQ ts[i].length from rfl]
      have hln : (J ++ lenQ ts[i].length).length ≤ 2000000010 := by rw [List.length_append, hq4]; omega
      generalize J ++ lenQ ts[i].length = A at *
      show Awp Try.prog C _ ⟨36, [(8, .i .i64 (-8)), (7, .s ts[i]), (13, .i .i64 i), (12, .i .i64 ts.length), (11, .sl 1 (ts.map sA)), (5, .own 10 u), (4, .ptr 4 b4 [] 0)], [(10, .row u 5 1 (A.map byA)), (4, .var b4 (.arr 1 32 (List.replicate 32 (.i .u8 0))))]⟩ _
      repeat' (first | refine Awp.seq ?_ | refine Awp.region ?_ | (refine Ops.nil ?_; show Awp _ _ _ _ _) | (refine Ops.nil ?_; show Exists _) | (refine Awp.exit ?_; show Awp _ _ _ _ _) | (refine o_add rfl rfl rfl rfl ?_ ?_; omega) | (refine o_calm rfl TtOk rfl rfl rfl ?_ (fun _ => ?_); first | exact True.intro | exact ⟨rfl, rfl, rfl, rfl⟩ | exact ⟨rfl, True.intro⟩ | exact ⟨rfl, rfl⟩ | exact ⟨rfl, rfl, rfl⟩ | exact rfl | exact ⟨fun h0 => by cases h0, rfl⟩ | exact (fun h0 => by cases h0) | exact ⟨rfl, by omega⟩ | exact ⟨Nat.succ_ne_zero _, rfl⟩ | omega) | (refine o_appendStr TtOk rfl rfl rfl rfl rfl rfl rfl rfl rfl (fun _ => rfl) ?_ (fun _ => ?_); ((repeat' (first | rw [List.length_append] | rw [List.length_map] | rw [List.length_cons] | rw [List.length_nil] | rw [List.length_take] | rw [List.length_drop])) <;> omega)) | refine a_condF rfl ?_)
      all_goals exact ⟨(i + 1, _), [], hlt, by show ts.length - (i + 1) < ts.length - i; omega, rfl, ⟨sle_i hi1, sle_i rfl, sle_sl rfl, sle_own, sle_ptr, True.intro⟩, HLe.cons 10 rfl (HOLe.row (by rw [hs, List.map_append])) (HLe.cons 4 rfl (HOLe.refl _) .nil)⟩
  · have hie : i = ts.length := by omega
    subst hie
    rw [List.take_length]
    generalize jnB tag ts = J at *
    repeat' (first | refine Awp.seq ?_ | refine Awp.region ?_ | (refine Ops.nil ?_; show Awp _ _ _ _ _) | (refine Awp.exit ?_; show Awp _ _ _ _ _) | (refine Awp.ret ?_; show endK _ _ _ _ _) | (refine o_calm rfl TtOk rfl rfl rfl ?_ (fun _ => ?_); first | exact True.intro | exact ⟨rfl, rfl, rfl, rfl⟩ | exact ⟨rfl, True.intro⟩ | exact ⟨rfl, rfl⟩ | exact ⟨rfl, rfl, rfl⟩ | exact rfl | exact ⟨fun h0 => by cases h0, rfl⟩ | exact (fun h0 => by cases h0) | exact ⟨rfl, by omega⟩ | exact ⟨Nat.succ_ne_zero _, rfl⟩ | omega) | refine o_store TtOk rfl rfl rfl rfl rfl rfl rfl ⟨rfl, rfl⟩ rfl rfl rfl rfl rfl ?_ | (refine a_condP rfl (fun hc => ?_) (fun hc => ?_)) <;> (try (exfalso; omega)) | refine o_toString TtOk rfl rfl rfl rfl rfl (by first | exact True.intro | exact rfl) rfl rfl rfl rfl ?_ | (refine o_call0 rfl (h1) ⟨SLe.of_eq rfl, True.intro⟩ rfl ?_; rintro _ _ ⟨rfl, rfl⟩; refine ⟨rfl, ?_⟩))
    refine end_all [] [] (labA s) rfl ?_ ?_ (rle_one (CLe.of_eq rfl) rfl) .nil ⟨rfl, rfl⟩ _ (.inl rfl)
    · repeat' (first | exact True.intro | exact rfl | refine ⟨?_, ?_⟩)
    · exact ⟨trivial, trivial⟩
end Go.Proofs.Ytcmgpkibjdbonaa
namespace Go.Proofs.Ytcmgpkibjdbonaa
open Go Go.RowKit
section
variable {m : OM} {P : Program} {T : List (Nat × TI)} {C : Ctx} {ops : Array Oper} {l : List Oper} {K : St → Prop} {n : Nat} {sl : List (Nat × AV)} {hp : List (Nat × HO)} {d : Nat} {ty : Nat} {pos : String} {aft : Array Edge} {gd : Option (Nat × Bool)}
theorem o_capNil (hT : TTOk P T) (hw : gval ops ⟨n, sl, hp⟩ gd = gwant gd) {t e sz0 by0 : Nat} {z0 : AV} {x : Operand} (ht : tget T t = some ⟨.slice e, sz0, by0, z0⟩) (hx : ev ⟨n, sl, hp⟩ x = .nil) (hd : Nat.blt d n = true)
    (h : Ops m P C ops l ⟨n, (d, .i .i64 0) :: sl, hp⟩ K) : Ops m P C ops (⟨some d, .call ⟨.builtin .cap, #[x], #[t]⟩, ty, pos, aft, gd⟩ :: l) ⟨n, sl, hp⟩ K := by
  refine Ops.by (d := some d) hw none okc_none hd rfl (fun a w hs => ?_) h
  have Ex := ev_rep hs x
  rw [hx, repV_nil] at Ex
  refine ⟨.int .i64 0, repV_i.2 rfl, fun w' _ => ?_⟩
  have hu := tk_slice (tget_ok hT ht)
  have hu2 : P.underlying t = some (.slice (P.elem t)) := by rw [hu]; simp [Program.elem, hu]
  have hr := run_cap_slice (P := P) (w := w') t ty none 0 0 hu2
  simp only [execOp, resolve, invoke, builtin, Sem.run_bind, Sem.run_pure, Result.andThen_ok, List.map_toArray, List.map_cons, List.map_nil, Ex, hr]
  rfl
theorem o_sliceNil (hT : TTOk P T) (hw : gval ops ⟨n, sl, hp⟩ gd = gwant gd) {t : Nat} {x y : Operand} {e sz0 by_ : Nat} {z : AV} {te : TI} (hx : ev ⟨n, sl, hp⟩ x = .nil) (hy : ev ⟨n, sl, hp⟩ y = .i .i64 0) (ht : tget T t = some ⟨.slice e, sz0, by_, z⟩) (he : tget T e = some te)
    (hd : Nat.blt d n = true) (h : Ops m P C ops l ⟨n, (d, .nil) :: sl, hp⟩ K) : Ops m P C ops (⟨some d, .slice t x none (some y) none, ty, pos, aft, gd⟩ :: l) ⟨n, sl, hp⟩ K := by
  refine Ops.by (d := some d) hw none okc_none hd rfl (fun a w hs => ?_) h
  have Ex := ev_rep hs x
  rw [hx, repV_nil] at Ex
  have Ey := ev_rep hs y
  rw [hy, repV_i] at Ey
  refine ⟨.slice none 0 0, repV_nil.2 rfl, fun w' _ => ?_⟩
  have hb := slice_bounds_run (P := P) true 0 0 none (some (.int .i64 0)) 0 0 (.inl ⟨rfl, rfl⟩) (.inr ⟨.i64, rfl⟩) (Nat.le_refl _) (Nat.le_refl _) w'
  have hu := tk_slice (tget_ok hT ht)
  have hsz' := (tget_ok hT he).sizeRun w'
  simp only [execOp, Ex, Ey, Instr.sliceAt, Instr.slice, Sem.run_bind, run_underlying hu, Result.andThen_ok, Option.map_none, Option.map_some, hb, hsz', Sem.run_pure]
  rfl
/-- append of so many zeros to nil: a new row, of which no element will be used. -/
theorem o_appendZ (hT : TTOk P T) (hw : gval ops ⟨n, sl, hp⟩ gd = gwant gd) {t tn e sz0 by0 sz1 by1 : Nat} {z0 z1 : AV} {tk : TK} {sz bs : Nat} {z : AV} {x y : Operand} {kn kq : IntKind} {a : Int}
    (ht : tget T t = some ⟨.slice e, sz0, by0, z0⟩) (he : tget T e = some ⟨tk, sz, bs, z⟩) (htn : tget T tn = some ⟨.int kn, sz1, by1, z1⟩) (hz : z.isVal = true) (hsz : sizeA z = sz) (hpos : Nat.blt 0 sz = true)
    (hx : ev ⟨n, sl, hp⟩ x = .nil) (hy : ev ⟨n, sl, hp⟩ y = .i kq a) (hd : Nat.blt d n = true) (len : Nat) (hb : a = len) (h0 : 0 < len) (hlen : bs * len ≤ 281474976710656) (hlen2 : len ≤ 9223372036854775807)
    (h : ∀ b c, Ops m P C ops l ⟨n, (d, .own d (.slice (some ⟨b, 0, none⟩) len c)) :: sl, (d, .row (.slice (some ⟨b, 0, none⟩) 0 c) e sz []) :: hp⟩ K) : Ops m P C ops (⟨some d, .call ⟨.builtin .append, #[x, y], #[t, tn]⟩, ty, pos, aft, gd⟩ :: l) ⟨n, sl, hp⟩ K := by
  subst hb
  have hpos := blt_lt hpos
  refine Ops.eff hw [] oke_nil rfl fun a w hs => ?_
  have hE := elem_tt hT ht he hz hsz hpos
  have Ex := ev_rep hs x; have Ey := ev_rep hs y
  rw [hx, repV_nil] at Ex; rw [hy, repV_i] at Ey
  rcases (tget_ok hT he).zero with h0' | ⟨cs, h1, h2⟩
  · have h0' : z = .any := h0'
    rw [h0'] at hz; cases hz
  have hrep : repC w (Fz C hp w) z cs := flatZ_rep z cs h1
  have hcs : cs.length = sz := by rw [repC_size _ _ hrep, hsz]
  obtain ⟨i, zv, hi, hzv, hz1, hz2, hz3⟩ := hE.info
  have hzv2 : zv = ofCells z cs := by rw [hi] at h2; simp only [Option.bind_some, hzv, Option.some.injEq] at h2; exact h2
  have hcells : zv.cells = cs.toArray := by rw [hzv2]; exact ofCells_cells hrep
  have hrun := Lib.run_append_nil_zeros (P := P) w t tn ty e i zv kq kn hE.ut (tk_int (tget_ok hT htn)) hi hzv len h0 (by omega) (by omega) (by rw [hz2, Nat.mul_comm]; exact hlen)
  have hzs : zv.cells.size = sz := by rw [hcells]; simpa using hcs
  have hge := grownCap_ge w len 0 e
  have hle := grownCap_le_maxLen w len 0 e (by unfold maxLen; omega)
  generalize grownCap w len 0 e = G at hrun hge hle
  have hcz : (Builtin.zeroCells zv.cells len ++ Builtin.zeroCells zv.cells (G - len)).size = G * sz := by
    rw [Array.size_append, size_zeroCells, size_zeroCells, hzs, ← Nat.add_mul]
    congr 1; omega
  generalize Builtin.zeroCells zv.cells len ++ Builtin.zeroCells zv.cells (G - len) = cur at hrun hcz
  have hrow : (w.drew.alloc (.cells cur e)).ownsRow 0 e sz (.slice (some ⟨w.heap.size, 0, none⟩) 0 G) 0 [] := by
    refine ⟨by simp, .inr ⟨w.heap.size, G, cur, rfl, Nat.zero_le _, Blk.new w.drew e _, Nat.zero_le _, hle, hcz, by simp⟩⟩
  refine ⟨_, _, _, .own d (.slice (some ⟨w.heap.size, 0, none⟩) len G), ?_, hs.newRow (S := ⟨n, sl, hp⟩) d ((Mod.refl _ w).drew.alloc _) (xs := []) (cells := []) (by simp [repA]) hrow (fun b hb => ?_), hd, repV_own.2 ⟨rfl, rfl⟩, Eff.new (S := ⟨n, sl, hp⟩) ((Mod.refl _ w).drew.alloc _) (fun b hb => by simp [HO.blk, Value.ownBlock] at hb; omega), h _ _⟩
  · simp only [execOp, resolve, invoke, builtin, Sem.run_bind, Sem.run_pure, Result.andThen_ok, List.map_toArray, List.map_cons, List.map_nil, Ex, Ey, hrun]
  · simp [Value.ownBlock] at hb; omega
/-- A cut of a slice whose value is known, to none of its elements. -/
theorem o_cut0 (hT : TTOk P T) (hw : gval ops ⟨n, sl, hp⟩ gd = gwant gd) {t : Nat} {x y : Operand} {k b len c : Nat} {e sz0 by_ : Nat} {z : AV} {te : TI} (hx : ev ⟨n, sl, hp⟩ x = .own k (.slice (some ⟨b, 0, none⟩) len c)) (hy : ev ⟨n, sl, hp⟩ y = .i .i64 0) (ht : tget T t = some ⟨.slice e, sz0, by_, z⟩) (he : tget T e = some te)
    (hd : Nat.blt d n = true) (h : Ops m P C ops l ⟨n, (d, .own k (.slice (some ⟨b, 0, none⟩) 0 c)) :: sl, hp⟩ K) : Ops m P C ops (⟨some d, .slice t x none (some y) none, ty, pos, aft, gd⟩ :: l) ⟨n, sl, hp⟩ K := by
  refine Ops.by (d := some d) hw none okc_none hd rfl (fun a w hs => ?_) h
  have Ex := ev_rep hs x
  rw [hx, repV_own] at Ex
  have Ey := ev_rep hs y
  rw [hy, repV_i] at Ey
  refine ⟨.slice (some ⟨b, 0, none⟩) 0 c, repV_own.2 ⟨rfl, rfl⟩, fun w' _ => ?_⟩
  have hb := slice_bounds_run (P := P) true len c none (some (.int .i64 0)) 0 0 (.inl ⟨rfl, rfl⟩) (.inr ⟨.i64, rfl⟩) (Nat.le_refl _) (Nat.zero_le _) w'
  have hu := tk_slice (tget_ok hT ht)
  have hsz' := (tget_ok hT he).sizeRun w'
  simp only [execOp, Ex.1, Ey, Instr.sliceAt, Instr.slice, Sem.run_bind, run_underlying hu, Result.andThen_ok, Option.map_none, Option.map_some, hb, hsz', Sem.run_pure]
  simp [Addr.add]
end
end Go.Proofs.Ytcmgpkibjdbonaa
