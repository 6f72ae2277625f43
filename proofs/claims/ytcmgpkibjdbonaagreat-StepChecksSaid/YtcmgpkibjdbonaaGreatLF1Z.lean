/- sha.Joined of any texts, label.Fresh, Stale, Tomb, Mark by rules. -/
import Derived.Test.YtcmgpkibjdbonaaGreatG6Z
import Derived.Test.YtcmgpkibjdbonaaGreatPF4Z
import Derived.Test.YtcmgpkibjdbonaaGreatR6Z
import Derived.Test.YtcmgpkibjdbonaaGreatC3Z
import Derived.Test.YtcmgpkibjdbonaaGreatSR4Z
import Derived.Test.YtcmgpkibjdbonaaGreatR2Z
set_option maxHeartbeats 16000000
set_option maxRecDepth 100000
namespace Go.Proofs.YtcmgpkibjdbonaaGreat
open Go Go.RowKit
def shf : Nat → Int
  | 0 => 24
  | 1 => 16
  | 2 => 8
  | 3 => 0
  | _ => -8
theorem shf_fd (n : Nat) (k : Nat) (hk : k ≤ 64) : AV.i .u8 (IntKind.u8.wrap ((n : Int).fdiv (2 ^ (min ((k : Int)).toNat (IntKind.bits .i64))))) = byA (UInt8.ofNat (n / 2 ^ k)) := by
  rw [show min ((k : Int)).toNat (IntKind.bits .i64) = k by rw [show IntKind.bits .i64 = 64 from rfl]; omega, show (2 : Int) ^ k = ((2 ^ k : Nat) : Int) by rw [Int.natCast_pow]; rfl, ← Int.ofNat_fdiv, byA_nt]
theorem shf_row (J : List UInt8) (n k s : Nat) (hs : s ≤ 64) (h : (lenQ n).take (k + 1) = (lenQ n).take k ++ [UInt8.ofNat (n / 2 ^ s)]) : (J ++ (lenQ n).take (k + 1)).map byA = (J ++ (lenQ n).take k).map byA ++ [AV.i .u8 (IntKind.u8.wrap ((n : Int).fdiv (2 ^ (min ((s : Int)).toNat (IntKind.bits .i64)))))] := by
  rw [h, shf_fd n s hs, ← List.append_assoc, List.map_append]; rfl
theorem shf_row0 (J : List UInt8) (n : Nat) : (J ++ (lenQ n).take 1).map byA = (J ++ (lenQ n).take 0).map byA ++ [AV.i .u8 (IntKind.u8.wrap ((n : Int).fdiv (2 ^ (min (Int.toNat 24) (IntKind.bits .i64)))))] := shf_row J n 0 24 (by decide) rfl
theorem shf_row1 (J : List UInt8) (n : Nat) : (J ++ (lenQ n).take 2).map byA = (J ++ (lenQ n).take 1).map byA ++ [AV.i .u8 (IntKind.u8.wrap ((n : Int).fdiv (2 ^ (min (Int.toNat 16) (IntKind.bits .i64)))))] := shf_row J n 1 16 (by decide) rfl
theorem shf_row2 (J : List UInt8) (n : Nat) : (J ++ (lenQ n).take 3).map byA = (J ++ (lenQ n).take 2).map byA ++ [AV.i .u8 (IntKind.u8.wrap ((n : Int).fdiv (2 ^ (min (Int.toNat 8) (IntKind.bits .i64)))))] := shf_row J n 2 8 (by decide) rfl
theorem shf_row3 (J : List UInt8) (n : Nat) : (J ++ (lenQ n).take 4).map byA = (J ++ (lenQ n).take 3).map byA ++ [AV.i .u8 (IntKind.u8.wrap ((n : Int).fdiv (2 ^ (min (Int.toNat 0) (IntKind.bits .i64)))))] := shf_row J n 3 0 (by decide) (by show _ = _ ++ [UInt8.ofNat (n / 1)]; rw [Nat.div_one]; rfl)
theorem sjoin_spec' (tag : UInt8) (ts : List (List UInt8)) (hn : ts.length ≤ 100) (h : ∀ t ∈ ts, t.length ≤ 1000000) : Spec Tryz.prog 161 [byA tag, .sl 1 (ts.map sA)] [] (fun v os => v = labA (shaN (jnB tag ts)) ∧ os = []) := by
  have hjl := jnB_len tag ts h
  have h1 := sum_spec (jnB tag ts) (by omega)
  generalize shaN (jnB tag ts) = s at h1
  refine spec_of TtOk [] Tryz.func161 rfl Tryz.ntmps161 (by kernel_rfl) rfl rfl (fun C => ?_) rfl
  repeat' (first | refine Awp.seq ?_ | refine Awp.block ?_ | refine Awp.region ?_ | refine Ops.nil (nqA ?_) | refine o_len rfl TtOk rfl rfl rfl (fun _ => ?_) | (refine o_calm rfl TtOk rfl rfl rfl ?_ (fun _ => ?_); exact nd) | refine o_alloc (d := 4) rfl TtOk rfl rfl rfl (fun b4 => ?_) | refine o_buildSlice (d := 10) TtOk rfl rfl rfl rfl rfl rfl rfl rfl rfl rfl rfl nq1 (fun v10 => ?_))
  refine Awp.loop (fun q : Nat × Value => ⟨36, [(13, .i .i64 q.1), (12, .i .i64 ts.length), (11, .sl 1 (ts.map sA)), (5, .own 10 q.2), (4, .ptr 4 b4 [] 0)], [(10, .row q.2 5 1 ((jnB tag (ts.take q.1)).map byA)), (4, .var b4 (.arr 1 32 (List.replicate 32 (.i .u8 0))))]⟩) (fun q => q.1 ≤ ts.length) (fun q => ts.length - q.1) [] (0, v10) (Nat.zero_le _) ?_ ?_
  · exact ⟨rfl, ⟨sle_i rfl, sle_i rfl, sle_sl rfl, sle_own, sle_ptr, True.intro⟩, HLe.cons 10 rfl (HOLe.refl _) (HLe.cons 4 rfl (HOLe.refl _) .nil)⟩
  rintro ⟨i, v⟩ hi
  dsimp only at hi ⊢
  by_cases hlt : i < ts.length
  · have hi1 : ((i : Int) + 1 = ((i + 1 : Nat) : Int)) := by omega
    have hjl := jnB_len tag (ts.take i) (fun t ht => h t (List.mem_of_mem_take ht))
    rw [List.length_take] at hjl
    have htl := h _ (List.getElem_mem hlt)
    have hs := jnB_succ tag ts i hlt
    have hq := lenQ_row ts[i].length
    have hq4 : (lenQ ts[i].length).length = 4 := rfl
    have hjl : (jnB tag (ts.take i)).length ≤ 2000000000 := by omega
    generalize jnB tag (ts.take i) = J at hs hjl ⊢
    clear h1
    repeat' (first | refine Awp.seq ?_ | refine Awp.block ?_ | refine Awp.region ?_ | refine Ops.nil (nqA ?_) | refine Awp.skip (nqA ?_) | (refine o_calm rfl TtOk rfl rfl rfl ?_ (fun _ => ?_); exact nd) | (refine o_index rfl TtOk rfl rfl rfl rfl rfl rfl ?_ (getq_nat ?_) ?_; omega; omega) | (refine a_condP rfl (fun hc => ?_) (fun hc => ?_)) <;> (try (exfalso; omega)))
    refine Awp.loop (fun q : Nat × Value => ⟨36, [(8, .i .i64 (shf q.1)), (7, .s ts[i]), (13, .i .i64 i), (12, .i .i64 ts.length), (11, .sl 1 (ts.map sA)), (5, .own 10 q.2), (4, .ptr 4 b4 [] 0)], [(10, .row q.2 5 1 ((J ++ (lenQ ts[i].length).take q.1).map byA)), (4, .var b4 (.arr 1 32 (List.replicate 32 (.i .u8 0))))]⟩) (fun q => q.1 ≤ 4) (fun q => 4 - q.1) [] (0, v) (Nat.zero_le _) ?_ ?_
    · exact ⟨rfl, ⟨sle_i rfl, sle_s rfl, sle_i rfl, sle_i rfl, sle_sl rfl, sle_own, sle_ptr, True.intro⟩, HLe.cons 10 rfl (HOLe.row (by rw [List.take_zero, List.append_nil])) (HLe.cons 4 rfl (HOLe.refl _) .nil)⟩
    rintro ⟨k, u⟩ hk
    dsimp only at hk ⊢
    have hk5 : k = 0 ∨ k = 1 ∨ k = 2 ∨ k = 3 ∨ k = 4 := by omega
    rcases hk5 with rfl | rfl | rfl | rfl | rfl
    · have hln : (J ++ (lenQ ts[i].length).take 0).length ≤ 2000000010 := by rw [List.length_append, List.length_take]; omega
      have hR : (J ++ (lenQ ts[i].length).take 1).map byA = (J ++ (lenQ ts[i].length).take 0).map byA ++ [AV.i .u8 (IntKind.u8.wrap ((ts[i].length : Int).fdiv (2 ^ (min (Int.toNat 24) (IntKind.bits .i64)))))] := shf_row0 J ts[i].length
      generalize J ++ (lenQ ts[i].length).take 0 = A at *
      show Awp Tryz.prog C _ ⟨36, [(8, .i .i64 24), (7, .s ts[i]), (13, .i .i64 i), (12, .i .i64 ts.length), (11, .sl 1 (ts.map sA)), (5, .own 10 u), (4, .ptr 4 b4 [] 0)], [(10, .row u 5 1 (A.map byA)), (4, .var b4 (.arr 1 32 (List.replicate 32 (.i .u8 0))))]⟩ _
      repeat' (first | refine Awp.seq ?_ | refine Awp.block ?_ | refine Awp.region ?_ | refine Ops.nil (nqA ?_) | refine Ops.nil (nqX ?_) | refine Awp.skip (nqA ?_) | (refine o_sub rfl rfl rfl rfl ?_ ?_; omega) | (refine o_calm rfl TtOk rfl rfl rfl ?_ (fun _ => ?_); exact nd) | refine o_buildSlice TtOk rfl rfl rfl rfl rfl rfl rfl rfl rfl rfl rfl nq1 (fun _ => ?_) | (refine o_append TtOk rfl rfl rfl rfl rfl rfl rfl rfl rfl (by first | exact True.intro | exact rfl) rfl rfl (fun _ => rfl) ?_ ?_ (fun _ => ?_); ((repeat' (first | rw [List.length_append] | rw [List.length_map] | rw [List.length_cons] | rw [List.length_nil] | rw [List.length_take] | rw [List.length_drop])) <;> omega); ((repeat' (first | rw [List.length_append] | rw [List.length_map] | rw [List.length_cons] | rw [List.length_nil] | rw [List.length_take] | rw [List.length_drop])) <;> omega)) | refine a_condT rfl ?_)
      all_goals exact ⟨(1, _), [], (by decide : 1 ≤ 4), (by decide : 4 - 1 < 4 - 0), rfl, ⟨sle_i rfl, sle_s rfl, sle_i rfl, sle_i rfl, sle_sl rfl, sle_own, sle_ptr, True.intro⟩, HLe.cons 10 rfl (HOLe.row hR.symm) (HLe.cons 4 rfl (HOLe.refl _) .nil)⟩
    · have hln : (J ++ (lenQ ts[i].length).take 1).length ≤ 2000000010 := by rw [List.length_append, List.length_take]; omega
      have hR : (J ++ (lenQ ts[i].length).take 2).map byA = (J ++ (lenQ ts[i].length).take 1).map byA ++ [AV.i .u8 (IntKind.u8.wrap ((ts[i].length : Int).fdiv (2 ^ (min (Int.toNat 16) (IntKind.bits .i64)))))] := shf_row1 J ts[i].length
      generalize J ++ (lenQ ts[i].length).take 1 = A at *
      show Awp Tryz.prog C _ ⟨36, [(8, .i .i64 16), (7, .s ts[i]), (13, .i .i64 i), (12, .i .i64 ts.length), (11, .sl 1 (ts.map sA)), (5, .own 10 u), (4, .ptr 4 b4 [] 0)], [(10, .row u 5 1 (A.map byA)), (4, .var b4 (.arr 1 32 (List.replicate 32 (.i .u8 0))))]⟩ _
      repeat' (first | refine Awp.seq ?_ | refine Awp.block ?_ | refine Awp.region ?_ | refine Ops.nil (nqA ?_) | refine Ops.nil (nqX ?_) | refine Awp.skip (nqA ?_) | (refine o_sub rfl rfl rfl rfl ?_ ?_; omega) | (refine o_calm rfl TtOk rfl rfl rfl ?_ (fun _ => ?_); exact nd) | refine o_buildSlice TtOk rfl rfl rfl rfl rfl rfl rfl rfl rfl rfl rfl nq1 (fun _ => ?_) | (refine o_append TtOk rfl rfl rfl rfl rfl rfl rfl rfl rfl (by first | exact True.intro | exact rfl) rfl rfl (fun _ => rfl) ?_ ?_ (fun _ => ?_); ((repeat' (first | rw [List.length_append] | rw [List.length_map] | rw [List.length_cons] | rw [List.length_nil] | rw [List.length_take] | rw [List.length_drop])) <;> omega); ((repeat' (first | rw [List.length_append] | rw [List.length_map] | rw [List.length_cons] | rw [List.length_nil] | rw [List.length_take] | rw [List.length_drop])) <;> omega)) | refine a_condT rfl ?_)
      all_goals exact ⟨(2, _), [], (by decide : 2 ≤ 4), (by decide : 4 - 2 < 4 - 1), rfl, ⟨sle_i rfl, sle_s rfl, sle_i rfl, sle_i rfl, sle_sl rfl, sle_own, sle_ptr, True.intro⟩, HLe.cons 10 rfl (HOLe.row hR.symm) (HLe.cons 4 rfl (HOLe.refl _) .nil)⟩
    · have hln : (J ++ (lenQ ts[i].length).take 2).length ≤ 2000000010 := by rw [List.length_append, List.length_take]; omega
      have hR : (J ++ (lenQ ts[i].length).take 3).map byA = (J ++ (lenQ ts[i].length).take 2).map byA ++ [AV.i .u8 (IntKind.u8.wrap ((ts[i].length : Int).fdiv (2 ^ (min (Int.toNat 8) (IntKind.bits .i64)))))] := shf_row2 J ts[i].length
      generalize J ++ (lenQ ts[i].length).take 2 = A at *
      show Awp Tryz.prog C _ ⟨36, [(8, .i .i64 8), (7, .s ts[i]), (13, .i .i64 i), (12, .i .i64 ts.length), (11, .sl 1 (ts.map sA)), (5, .own 10 u), (4, .ptr 4 b4 [] 0)], [(10, .row u 5 1 (A.map byA)), (4, .var b4 (.arr 1 32 (List.replicate 32 (.i .u8 0))))]⟩ _
      repeat' (first | refine Awp.seq ?_ | refine Awp.block ?_ | refine Awp.region ?_ | refine Ops.nil (nqA ?_) | refine Ops.nil (nqX ?_) | refine Awp.skip (nqA ?_) | (refine o_sub rfl rfl rfl rfl ?_ ?_; omega) | (refine o_calm rfl TtOk rfl rfl rfl ?_ (fun _ => ?_); exact nd) | refine o_buildSlice TtOk rfl rfl rfl rfl rfl rfl rfl rfl rfl rfl rfl nq1 (fun _ => ?_) | (refine o_append TtOk rfl rfl rfl rfl rfl rfl rfl rfl rfl (by first | exact True.intro | exact rfl) rfl rfl (fun _ => rfl) ?_ ?_ (fun _ => ?_); ((repeat' (first | rw [List.length_append] | rw [List.length_map] | rw [List.length_cons] | rw [List.length_nil] | rw [List.length_take] | rw [List.length_drop])) <;> omega); ((repeat' (first | rw [List.length_append] | rw [List.length_map] | rw [List.length_cons] | rw [List.length_nil] | rw [List.length_take] | rw [List.length_drop])) <;> omega)) | refine a_condT rfl ?_)
      all_goals exact ⟨(3, _), [], (by decide : 3 ≤ 4), (by decide : 4 - 3 < 4 - 2), rfl, ⟨sle_i rfl, sle_s rfl, sle_i rfl, sle_i rfl, sle_sl rfl, sle_own, sle_ptr, True.intro⟩, HLe.cons 10 rfl (HOLe.row hR.symm) (HLe.cons 4 rfl (HOLe.refl _) .nil)⟩
    · have hln : (J ++ (lenQ ts[i].length).take 3).length ≤ 2000000010 := by rw [List.length_append, List.length_take]; omega
      have hR : (J ++ (lenQ ts[i].length).take 4).map byA = (J ++ (lenQ ts[i].length).take 3).map byA ++ [AV.i .u8 (IntKind.u8.wrap ((ts[i].length : Int).fdiv (2 ^ (min (Int.toNat 0) (IntKind.bits .i64)))))] := shf_row3 J ts[i].length
      generalize J ++ (lenQ ts[i].length).take 3 = A at *
      show Awp Tryz.prog C _ ⟨36, [(8, .i .i64 0), (7, .s ts[i]), (13, .i .i64 i), (12, .i .i64 ts.length), (11, .sl 1 (ts.map sA)), (5, .own 10 u), (4, .ptr 4 b4 [] 0)], [(10, .row u 5 1 (A.map byA)), (4, .var b4 (.arr 1 32 (List.replicate 32 (.i .u8 0))))]⟩ _
      repeat' (first | refine Awp.seq ?_ | refine Awp.block ?_ | refine Awp.region ?_ | refine Ops.nil (nqA ?_) | refine Ops.nil (nqX ?_) | refine Awp.skip (nqA ?_) | (refine o_sub rfl rfl rfl rfl ?_ ?_; omega) | (refine o_calm rfl TtOk rfl rfl rfl ?_ (fun _ => ?_); exact nd) | refine o_buildSlice TtOk rfl rfl rfl rfl rfl rfl rfl rfl rfl rfl rfl nq1 (fun _ => ?_) | (refine o_append TtOk rfl rfl rfl rfl rfl rfl rfl rfl rfl (by first | exact True.intro | exact rfl) rfl rfl (fun _ => rfl) ?_ ?_ (fun _ => ?_); ((repeat' (first | rw [List.length_append] | rw [List.length_map] | rw [List.length_cons] | rw [List.length_nil] | rw [List.length_take] | rw [List.length_drop])) <;> omega); ((repeat' (first | rw [List.length_append] | rw [List.length_map] | rw [List.length_cons] | rw [List.length_nil] | rw [List.length_take] | rw [List.length_drop])) <;> omega)) | refine a_condT rfl ?_)
      all_goals exact ⟨(4, _), [], (by decide : 4 ≤ 4), (by decide : 4 - 4 < 4 - 3), rfl, ⟨sle_i rfl, sle_s rfl, sle_i rfl, sle_i rfl, sle_sl rfl, sle_own, sle_ptr, True.intro⟩, HLe.cons 10 rfl (HOLe.row hR.symm) (HLe.cons 4 rfl (HOLe.refl _) .nil)⟩
    · rw [show (lenQ ts[i].length).take 4 = lenQ ts[i].length from rfl]
      have hln : (J ++ lenQ ts[i].length).length ≤ 2000000010 := by rw [List.length_append, hq4]; omega
      generalize J ++ lenQ ts[i].length = A at *
      show Awp Tryz.prog C _ ⟨36, [(8, .i .i64 (-8)), (7, .s ts[i]), (13, .i .i64 i), (12, .i .i64 ts.length), (11, .sl 1 (ts.map sA)), (5, .own 10 u), (4, .ptr 4 b4 [] 0)], [(10, .row u 5 1 (A.map byA)), (4, .var b4 (.arr 1 32 (List.replicate 32 (.i .u8 0))))]⟩ _
      repeat' (first | refine Awp.seq ?_ | refine Awp.region ?_ | refine Ops.nil (nqA ?_) | refine Ops.nil (nqX ?_) | refine Awp.exit (nqA ?_) | (refine o_add rfl rfl rfl rfl ?_ ?_; omega) | (refine o_calm rfl TtOk rfl rfl rfl ?_ (fun _ => ?_); exact nd) | (refine o_appendStr TtOk rfl rfl rfl rfl rfl rfl rfl rfl rfl (fun _ => rfl) ?_ (fun _ => ?_); ((repeat' (first | rw [List.length_append] | rw [List.length_map] | rw [List.length_cons] | rw [List.length_nil] | rw [List.length_take] | rw [List.length_drop])) <;> omega)) | refine a_condF rfl ?_)
      all_goals exact ⟨(i + 1, _), [], hlt, by show ts.length - (i + 1) < ts.length - i; omega, rfl, ⟨sle_i hi1, sle_i rfl, sle_sl rfl, sle_own, sle_ptr, True.intro⟩, HLe.cons 10 rfl (HOLe.row (by rw [hs, List.map_append])) (HLe.cons 4 rfl (HOLe.refl _) .nil)⟩
  · have hie : i = ts.length := by omega
    subst hie
    rw [List.take_length]
    generalize jnB tag ts = J at *
    repeat' (first | refine Awp.seq ?_ | refine Awp.region ?_ | refine Ops.nil (nqA ?_) | refine Awp.exit (nqA ?_) | refine Awp.ret (nqE ?_) | (refine o_calm rfl TtOk rfl rfl rfl ?_ (fun _ => ?_); exact nd) | refine o_store TtOk rfl rfl rfl rfl rfl rfl rfl ⟨rfl, rfl⟩ rfl rfl rfl rfl rfl ?_ | (refine a_condP rfl (fun hc => ?_) (fun hc => ?_)) <;> (try (exfalso; omega)) | refine o_toString TtOk rfl rfl rfl rfl rfl (by first | exact True.intro | exact rfl) rfl rfl rfl rfl ?_ | refine o_callE rfl (h1) ⟨nqS, True.intro⟩ rfl ?_)
    refine end_all [] [] (labA s) rfl ?_ ?_ (rle_one (CLe.of_eq rfl) rfl) .nil ⟨rfl, rfl⟩ _ (.inl rfl)
    · exact nq1
    · exact ⟨trivial, trivial⟩
end Go.Proofs.YtcmgpkibjdbonaaGreat
set_option maxHeartbeats 16000000
set_option maxRecDepth 100000
namespace Go.Proofs.YtcmgpkibjdbonaaGreat
open Go Go.RowKit
theorem fnd_no {l : List Lef} {g : List UInt8} (h : ∀ i (hi : i < l.length), (l[i].l == g) = false) : fndL l g = lef0 ∧ hasLf l g = false := by
  have hn : ∀ x ∈ l, ¬ (x.l == g) = true := fun x hx => by
    obtain ⟨i, hi, rfl⟩ := List.getElem_of_mem hx
    rw [h i hi]; decide
  refine ⟨?_, ?_⟩
  · unfold fndL
    rw [List.find?_eq_none.2 hn]; rfl
  · unfold hasLf
    rw [List.any_eq_false]; exact hn
theorem fnd_at {l : List Lef} {g : List UInt8} {i : Nat} (hi : i < l.length) (h1 : (l[i].l == g) = true) (h : ∀ j (hj : j < l.length), j < i → (l[j].l == g) = false) : fndL l g = l[i] ∧ hasLf l g = true := by
  refine ⟨?_, List.any_eq_true.2 ⟨l[i], List.getElem_mem hi, h1⟩⟩
  have hf : l.find? (fun y => y.l == g) = some l[i] := List.find?_eq_some_iff_getElem.2 ⟨h1, i, hi, rfl, fun j hj => by
    have := h j (by omega) hj
    simp only [this, Bool.not_false]⟩
  unfold fndL
  rw [hf]; rfl
theorem rfind17_spec (l : List Lef) (g : List UInt8) : Spec Tryz.prog 62 [.sl 65 (l.map Lef.A), labA g] [] (fun v os => v = .tup [(fndL l g).A, .b (hasLf l g)] ∧ os = []) := by
  refine spec_of TtOk [] Tryz.func62 rfl Tryz.ntmps62 (by kernel_rfl) rfl rfl (fun C => ?_) rfl
  repeat' (first | refine Awp.seq ?_ | refine Awp.block ?_ | refine Awp.region ?_ | refine Ops.nil (nqA ?_) | refine o_len rfl TtOk rfl rfl rfl (fun _ => ?_) | (refine o_calm rfl TtOk rfl rfl rfl ?_ (fun _ => ?_); exact nd) | refine o_alloc (d := 4) rfl TtOk rfl rfl rfl (fun b4 => ?_) | refine o_box (d := 3) rfl rfl rfl rfl (fun b3 => ?_))
  refine Awp.loop (fun i : Nat => ⟨21, [(10, .i .i64 i), (9, .i .i64 l.length), (8, .sl 65 (l.map Lef.A)), (4, .ptr 4 b4 [] 0), (3, .ptr 3 b3 [] 0)], [(4, .var b4 (lef0.A)), (3, .var b3 (labA g))]⟩) (fun i => i ≤ l.length ∧ ∀ j (hj : j < l.length), j < i → (l[j].l == g) = false) (fun i => l.length - i) [] 0 ⟨Nat.zero_le _, fun _ _ h => absurd h (Nat.not_lt_zero _)⟩ ?_ ?_
  · exact ⟨rfl, ⟨sle_i rfl, sle_i rfl, sle_sl rfl, sle_ptr, sle_ptr, True.intro⟩, HLe.cons 4 rfl (HOLe.refl _) (HLe.cons 3 rfl (HOLe.refl _) .nil)⟩
  rintro i ⟨hi, hno⟩
  by_cases hlt : i < l.length
  · have hi1 : ((i : Int) + 1 = ((i + 1 : Nat) : Int)) := by omega
    cases hq : (l[i].l == g) with
    | true =>
      obtain ⟨e1, e2⟩ := fnd_at hlt hq hno
      rw [e1, e2]
      repeat' (first | (rw [hq]) | refine Awp.seq ?_ | refine Awp.block ?_ | refine Awp.region ?_ | refine Ops.nil (nqA ?_) | refine Awp.skip (nqA ?_) | refine Awp.ret (nqE ?_) | (refine o_calm rfl TtOk rfl rfl rfl ?_ (fun _ => ?_); exact nd) | refine o_alloc (d := 7) rfl TtOk rfl rfl rfl (fun b7 => ?_) | refine o_store TtOk rfl rfl rfl rfl rfl rfl rfl ⟨rfl, rfl⟩ rfl rfl rfl rfl rfl ?_ | (refine o_index rfl TtOk rfl rfl rfl rfl rfl rfl ?_ (getq_nat ?_) ?_; omega; omega) | refine o_eqArr8 TtOk rfl rfl rfl rfl rfl rfl (by kernel_rfl) ?_ | refine a_condT rfl ?_ | (refine a_condP rfl (fun hc => ?_) (fun hc => ?_)) <;> (try (exfalso; omega)))
      all_goals
        refine end_all [] [] (.tup [l[i].A, .b true]) rfl ?_ ?_ (rle_tup2 (CLe.of_eq rfl) (CLe.of_eq rfl) rfl rfl) .nil ⟨rfl, rfl⟩ _ (.inl rfl)
        · exact nq1
        · exact ⟨trivial, trivial, trivial⟩
    | false =>
      repeat' (first | (rw [hq]) | refine Awp.seq ?_ | refine Awp.block ?_ | refine Awp.region ?_ | refine Ops.nil (nqA ?_) | refine Ops.nil (nqX ?_) | refine Awp.skip (nqA ?_) | (refine o_add rfl rfl rfl rfl ?_ ?_; omega) | (refine o_calm rfl TtOk rfl rfl rfl ?_ (fun _ => ?_); exact nd) | refine o_alloc (d := 7) rfl TtOk rfl rfl rfl (fun b7 => ?_) | refine o_store TtOk rfl rfl rfl rfl rfl rfl rfl ⟨rfl, rfl⟩ rfl rfl rfl rfl rfl ?_ | (refine o_index rfl TtOk rfl rfl rfl rfl rfl rfl ?_ (getq_nat ?_) ?_; omega; omega) | refine o_eqArr8 TtOk rfl rfl rfl rfl rfl rfl (by kernel_rfl) ?_ | refine a_condF rfl ?_ | (refine a_condP rfl (fun hc => ?_) (fun hc => ?_)) <;> (try (exfalso; omega)))
      all_goals exact ⟨i + 1, [], ⟨hlt, fun j hj h => by
        rcases Nat.lt_succ_iff_lt_or_eq.1 h with h2 | rfl
        · exact hno j hj h2
        · exact hq⟩, by show l.length - (i + 1) < l.length - i; omega, rfl, ⟨sle_i hi1, sle_i rfl, sle_sl rfl, sle_ptr, sle_ptr, True.intro⟩, HLe.cons 4 rfl (HOLe.refl _) (HLe.cons 3 rfl (HOLe.refl _) .nil)⟩
  · obtain ⟨e1, e2⟩ := fnd_no (fun j hj => hno j hj (by omega))
    rw [e1, e2]
    repeat' (first | refine Awp.seq ?_ | refine Awp.region ?_ | refine Ops.nil (nqA ?_) | refine Awp.exit (nqA ?_) | refine Awp.ret (nqE ?_) | (refine o_calm rfl TtOk rfl rfl rfl ?_ (fun _ => ?_); exact nd) | refine o_store TtOk rfl rfl rfl rfl rfl rfl rfl ⟨rfl, rfl⟩ rfl rfl rfl rfl rfl ?_ | refine o_build TtOk rfl rfl rfl rfl rfl rfl nq1 ?_ | (refine a_condP rfl (fun hc => ?_) (fun hc => ?_)) <;> (try (exfalso; omega)))
    all_goals
      refine end_all [] [] (.tup [lef0.A, .b false]) rfl ?_ ?_ (rle_tup2 (CLe.of_eq rfl) (CLe.of_eq rfl) rfl rfl) .nil ⟨rfl, rfl⟩ _ (.inl rfl)
      · exact nq1
      · exact ⟨trivial, trivial, trivial⟩
theorem rin19_spec (l : List (List UInt8)) (g : List UInt8) : Spec Tryz.prog 63 [.sl 32 (l.map labA), labA g] [] (fun v os => v = .b (l.any (fun y => g == y)) ∧ os = []) := by
  refine spec_of TtOk [] Tryz.func63 rfl Tryz.ntmps63 (by kernel_rfl) rfl rfl (fun C => ?_) rfl
  repeat' (first | refine Awp.seq ?_ | refine Awp.block ?_ | refine Awp.region ?_ | refine Ops.nil (nqA ?_) | refine o_len rfl TtOk rfl rfl rfl (fun _ => ?_) | (refine o_calm rfl TtOk rfl rfl rfl ?_ (fun _ => ?_); exact nd) | refine o_box (d := 3) rfl rfl rfl rfl (fun b3 => ?_))
  refine Awp.loop (fun i : Nat => ⟨17, [(9, .i .i64 i), (8, .i .i64 l.length), (7, .sl 32 (l.map labA)), (3, .ptr 3 b3 [] 0)], [(3, .var b3 (labA g))]⟩) (fun i => i ≤ l.length ∧ ∀ j (hj : j < l.length), j < i → (l[j] == g) = false) (fun i => l.length - i) [] 0 ⟨Nat.zero_le _, fun _ _ h => absurd h (Nat.not_lt_zero _)⟩ ?_ ?_
  · exact ⟨rfl, ⟨sle_i rfl, sle_i rfl, sle_sl rfl, sle_ptr, True.intro⟩, HLe.cons 3 rfl (HOLe.refl _) .nil⟩
  rintro i ⟨hi, hno⟩
  by_cases hlt : i < l.length
  · have hi1 : ((i : Int) + 1 = ((i + 1 : Nat) : Int)) := by omega
    cases hq : (l[i] == g) with
    | true =>
      have hT : l.any (fun y => g == y) = true := List.any_eq_true.2 ⟨l[i], List.getElem_mem hlt, by rw [BEq.comm]; exact hq⟩
      rw [hT]
      repeat' (first | (rw [hq]) | refine Awp.seq ?_ | refine Awp.block ?_ | refine Awp.region ?_ | refine Ops.nil (nqA ?_) | refine Awp.skip (nqA ?_) | refine Awp.ret (nqE ?_) | (refine o_calm rfl TtOk rfl rfl rfl ?_ (fun _ => ?_); exact nd) | refine o_alloc (d := 6) rfl TtOk rfl rfl rfl (fun b6 => ?_) | refine o_store TtOk rfl rfl rfl rfl rfl rfl rfl ⟨rfl, rfl⟩ rfl rfl rfl rfl rfl ?_ | (refine o_index rfl TtOk rfl rfl rfl rfl rfl rfl ?_ (getq_nat ?_) ?_; omega; omega) | refine o_eqArr8 TtOk rfl rfl rfl rfl rfl rfl (by kernel_rfl) ?_ | refine a_condT rfl ?_ | (refine a_condP rfl (fun hc => ?_) (fun hc => ?_)) <;> (try (exfalso; omega)))
      all_goals exact nq2
    | false =>
      repeat' (first | (rw [hq]) | refine Awp.seq ?_ | refine Awp.block ?_ | refine Awp.region ?_ | refine Ops.nil (nqA ?_) | refine Ops.nil (nqX ?_) | refine Awp.skip (nqA ?_) | (refine o_add rfl rfl rfl rfl ?_ ?_; omega) | (refine o_calm rfl TtOk rfl rfl rfl ?_ (fun _ => ?_); exact nd) | refine o_alloc (d := 6) rfl TtOk rfl rfl rfl (fun b6 => ?_) | refine o_store TtOk rfl rfl rfl rfl rfl rfl rfl ⟨rfl, rfl⟩ rfl rfl rfl rfl rfl ?_ | (refine o_index rfl TtOk rfl rfl rfl rfl rfl rfl ?_ (getq_nat ?_) ?_; omega; omega) | refine o_eqArr8 TtOk rfl rfl rfl rfl rfl rfl (by kernel_rfl) ?_ | refine a_condF rfl ?_ | (refine a_condP rfl (fun hc => ?_) (fun hc => ?_)) <;> (try (exfalso; omega)))
      all_goals exact ⟨i + 1, [], ⟨hlt, fun j hj h => by
        rcases Nat.lt_succ_iff_lt_or_eq.1 h with h2 | rfl
        · exact hno j hj h2
        · exact hq⟩, by show l.length - (i + 1) < l.length - i; omega, rfl, ⟨sle_i hi1, sle_i rfl, sle_sl rfl, sle_ptr, True.intro⟩, HLe.cons 3 rfl (HOLe.refl _) .nil⟩
  · have hT : l.any (fun y => g == y) = false := by
      rw [List.any_eq_false]
      intro x hx
      obtain ⟨j, hj, rfl⟩ := List.getElem_of_mem hx
      have := hno j hj (by omega)
      rw [BEq.comm] at this
      rw [this]; decide
    rw [hT]
    repeat' (first | refine Awp.seq ?_ | refine Awp.region ?_ | refine Ops.nil (nqA ?_) | refine Awp.exit (nqA ?_) | refine Awp.ret (nqE ?_) | (refine o_calm rfl TtOk rfl rfl rfl ?_ (fun _ => ?_); exact nd) | (refine a_condP rfl (fun hc => ?_) (fun hc => ?_)) <;> (try (exfalso; omega)))
    all_goals exact nq2
theorem ritems19_spec (same : List Itm) (l : List Lef) (h1 : same.length ≤ 50000) (h2 : l.length ≤ 50000) (hs : ∀ x ∈ same, x.ok) (hl : ∀ x ∈ l, x.ok) : Spec Tryz.prog 66 [.sl 66 (same.map Itm.R), .sl 65 (l.map Lef.A)] [] (fun v os => v = .sl 66 ((topU same l).map Itm.R) ∧ os = []) := by
  have k1 := rof_spec l (by omega) hl
  have hlen : (same ++ itmsL l).length ≤ 100000 := by rw [List.length_append, itmsL_len]; omega
  have k2 := rsorted_spec (same ++ itmsL l) hlen (fun x hx => by
    rcases List.mem_append.1 hx with hx | hx
    · exact hs x hx
    · exact itmsL_ok hl x hx)
  rw [show srtI (same ++ itmsL l) = topU same l from rfl] at k2
  have hil := itmsL_len l
  generalize topU same l = U at *
  rw [List.map_append] at k2
  generalize itmsL l = I at *
  refine spec_of TtOk [] Tryz.func66 rfl Tryz.ntmps66 (by kernel_rfl) rfl rfl (fun C => ?_) rfl
  repeat' (first | (refine o_freezeR (xs := same.map Itm.R ++ I.map Itm.R) 5 10 rfl rfl rfl ?_) | refine Awp.seq ?_ | refine Awp.region ?_ | refine Ops.nil (nqA ?_) | refine Awp.ret (nqE ?_) | (refine o_calm rfl TtOk rfl rfl rfl ?_ (fun _ => ?_); exact nd) | refine o_buildSlice (d := 5) TtOk rfl rfl rfl rfl rfl rfl rfl rfl rfl rfl rfl nq1 (fun v5 => ?_) | (refine o_append TtOk rfl rfl rfl rfl rfl rfl rfl rfl rfl (by first | exact True.intro | exact rfl) rfl rfl (fun _ => rfl) ?_ ?_ (fun _ => ?_); ((repeat' (first | rw [List.length_append] | rw [List.length_map] | rw [List.length_cons] | rw [List.length_nil] | rw [List.length_take] | rw [List.length_drop])) <;> omega); ((repeat' (first | rw [List.length_append] | rw [List.length_map] | rw [List.length_cons] | rw [List.length_nil] | rw [List.length_take] | rw [List.length_drop])) <;> omega)) | refine o_callE rfl (k1) ⟨nqS, True.intro⟩ rfl ?_ | refine o_callE rfl (k2) ⟨nqS, True.intro⟩ rfl ?_)
  all_goals exact nq2
/-- What is still to come of an insertion of a leaf. -/
def insTL (x : Lef) (done : Bool) (l : List Lef) : List Lef := if done = true then l else insS (ltCL ordL) x l
end Go.Proofs.YtcmgpkibjdbonaaGreat
set_option maxHeartbeats 16000000
set_option maxRecDepth 100000
namespace Go.Proofs.YtcmgpkibjdbonaaGreat
open Go Go.RowKit
def frL (s : List UInt8) : List UInt8 := shaN (jnB 2 [s])
def stL (s : List UInt8) : List UInt8 := shaN (jnB 3 [s])
def tombL : List UInt8 := shaN [5]
def markL : List UInt8 := shaN [6]
theorem frL_len (s : List UInt8) : (frL s).length = 32 := shaN_len _
theorem stL_len (s : List UInt8) : (stL s).length = 32 := shaN_len _
theorem lfresh_spec (s : List UInt8) (hs : s.length = 32) : Spec Tryz.prog 185 [labA s] [] (fun v os => v = labA (frL s) ∧ os = []) := by
  have h1 : Spec Tryz.prog 161 [.i .u8 2, .sl 1 [.s s]] [] (fun v os => v = labA (frL s) ∧ os = []) := sjoin_spec' 2 [s] (show 1 ≤ 100 by decide) (fun t ht => by rw [List.mem_singleton.1 ht]; omega)
  generalize frL s = r at *
  refine spec_of TtOk [] Tryz.func185 rfl Tryz.ntmps185 (by kernel_rfl) rfl rfl (fun C => ?_) rfl
  repeat' (first | (refine o_freezeR 5 5 rfl rfl rfl ?_) | (refine a_freezeV 1 1 rfl rfl rfl ?_) | refine Awp.seq ?_ | refine Awp.region ?_ | refine Ops.nil (nqA ?_) | refine Awp.ret (nqE ?_) | refine o_alloc (d := 2) rfl TtOk rfl rfl rfl (fun b2 => ?_) | refine o_box (d := 1) rfl rfl rfl rfl (fun b1 => ?_) | refine o_store TtOk rfl rfl rfl rfl rfl rfl rfl ⟨rfl, rfl⟩ rfl rfl rfl rfl rfl ?_ | refine o_buildSlice (d := 5) TtOk rfl rfl rfl rfl rfl rfl rfl rfl rfl rfl rfl nq1 (fun v5 => ?_) | refine o_sliceCp TtOk rfl rfl rfl rfl rfl rfl ?_ | refine o_toString TtOk rfl rfl rfl rfl rfl (by first | exact True.intro | exact rfl) rfl rfl rfl rfl ?_ | refine o_callE rfl (h1) ⟨nqS, nqS, True.intro⟩ rfl ?_)
  all_goals
    refine end_all [] [] (labA r) rfl ?_ ?_ (rle_one (CLe.of_eq rfl) rfl) .nil ⟨rfl, rfl⟩ _ (.inl rfl)
    · exact nq1
    · exact ⟨trivial, trivial⟩
theorem lstale_spec (s : List UInt8) (hs : s.length = 32) : Spec Tryz.prog 106 [labA s] [] (fun v os => v = labA (stL s) ∧ os = []) := by
  have h1 : Spec Tryz.prog 161 [.i .u8 3, .sl 1 [.s s]] [] (fun v os => v = labA (stL s) ∧ os = []) := sjoin_spec' 3 [s] (show 1 ≤ 100 by decide) (fun t ht => by rw [List.mem_singleton.1 ht]; omega)
  generalize stL s = r at *
  refine spec_of TtOk [] Tryz.func106 rfl Tryz.ntmps106 (by kernel_rfl) rfl rfl (fun C => ?_) rfl
  repeat' (first | (refine o_freezeR 5 5 rfl rfl rfl ?_) | (refine a_freezeV 1 1 rfl rfl rfl ?_) | refine Awp.seq ?_ | refine Awp.region ?_ | refine Ops.nil (nqA ?_) | refine Awp.ret (nqE ?_) | refine o_alloc (d := 2) rfl TtOk rfl rfl rfl (fun b2 => ?_) | refine o_box (d := 1) rfl rfl rfl rfl (fun b1 => ?_) | refine o_store TtOk rfl rfl rfl rfl rfl rfl rfl ⟨rfl, rfl⟩ rfl rfl rfl rfl rfl ?_ | refine o_buildSlice (d := 5) TtOk rfl rfl rfl rfl rfl rfl rfl rfl rfl rfl rfl nq1 (fun v5 => ?_) | refine o_sliceCp TtOk rfl rfl rfl rfl rfl rfl ?_ | refine o_toString TtOk rfl rfl rfl rfl rfl (by first | exact True.intro | exact rfl) rfl rfl rfl rfl ?_ | refine o_callE rfl (h1) ⟨nqS, nqS, True.intro⟩ rfl ?_)
  all_goals
    refine end_all [] [] (labA r) rfl ?_ ?_ (rle_one (CLe.of_eq rfl) rfl) .nil ⟨rfl, rfl⟩ _ (.inl rfl)
    · exact nq1
    · exact ⟨trivial, trivial⟩
theorem ltomb_spec : Spec Tryz.prog 104 [] [] (fun v os => v = labA tombL ∧ os = []) := by
  have h1 : Spec Tryz.prog 161 [.i .u8 5, .sl 1 []] [] (fun v os => v = labA tombL ∧ os = []) := sjoin0_spec 5
  generalize tombL = r at *
  refine spec_of TtOk [] Tryz.func104 rfl Tryz.ntmps104 (by kernel_rfl) rfl rfl (fun C => ?_) rfl
  repeat' (first | refine Awp.seq ?_ | refine Awp.region ?_ | refine Ops.nil (nqA ?_) | refine Awp.ret (nqE ?_) | refine o_alloc (d := 0) rfl TtOk rfl rfl rfl (fun b0 => ?_) | refine o_store TtOk rfl rfl rfl rfl rfl rfl rfl ⟨rfl, rfl⟩ rfl rfl rfl rfl rfl ?_ | refine o_callE rfl h1 ⟨nqS, sle_nilsl, True.intro⟩ rfl ?_)
  all_goals
    refine end_all [] [] (labA r) rfl ?_ ?_ (rle_one (CLe.of_eq rfl) rfl) .nil ⟨rfl, rfl⟩ _ (.inl rfl)
    · exact nq1
    · exact ⟨trivial, trivial⟩
theorem lmark_spec : Spec Tryz.prog 186 [] [] (fun v os => v = labA markL ∧ os = []) := by
  have h1 : Spec Tryz.prog 161 [.i .u8 6, .sl 1 []] [] (fun v os => v = labA markL ∧ os = []) := sjoin0_spec 6
  generalize markL = r at *
  refine spec_of TtOk [] Tryz.func186 rfl Tryz.ntmps186 (by kernel_rfl) rfl rfl (fun C => ?_) rfl
  repeat' (first | refine Awp.seq ?_ | refine Awp.region ?_ | refine Ops.nil (nqA ?_) | refine Awp.ret (nqE ?_) | refine o_alloc (d := 0) rfl TtOk rfl rfl rfl (fun b0 => ?_) | refine o_store TtOk rfl rfl rfl rfl rfl rfl rfl ⟨rfl, rfl⟩ rfl rfl rfl rfl rfl ?_ | refine o_callE rfl h1 ⟨nqS, sle_nilsl, True.intro⟩ rfl ?_)
  all_goals
    refine end_all [] [] (labA r) rfl ?_ ?_ (rle_one (CLe.of_eq rfl) rfl) .nil ⟨rfl, rfl⟩ _ (.inl rfl)
    · exact nq1
    · exact ⟨trivial, trivial⟩
/-- Does a seed stand there twice? -/
def twcL (l : List (List UInt8)) : Bool := (List.range l.length).any (fun i => (l.take i).any (fun y => l.getD i [] == y))
theorem twice_spec (l : List (List UInt8)) (hl : l.length ≤ 100000) : Spec Tryz.prog 101 [.sl 32 (l.map labA)] [] (fun v os => v = .b (twcL l) ∧ os = []) := by
  refine spec_of TtOk [] Tryz.func101 rfl Tryz.ntmps101 (by kernel_rfl) rfl rfl (fun C => ?_) rfl
  repeat' (first | refine Awp.seq ?_ | refine Awp.block ?_ | refine Awp.region ?_ | refine Ops.nil (nqA ?_) | refine o_len rfl TtOk rfl rfl rfl (fun _ => ?_) | (refine o_calm rfl TtOk rfl rfl rfl ?_ (fun _ => ?_); exact nd))
  refine Awp.loop (fun i : Nat => ⟨18, [(7, .i .i64 i), (6, .i .i64 l.length), (5, .sl 32 (l.map labA)), (0, .sl 32 (l.map labA))], []⟩) (fun i => i ≤ l.length ∧ ∀ j, j < i → (l.take j).any (fun y => l.getD j [] == y) = false) (fun i => l.length - i) [] 0 ⟨Nat.zero_le _, fun j hj => absurd hj (Nat.not_lt_zero _)⟩ ?_ ?_
  · exact ⟨rfl, ⟨sle_i rfl, sle_i rfl, sle_sl rfl, sle_sl rfl, True.intro⟩, .nil⟩
  rintro i ⟨hi, hno⟩
  by_cases hlt : i < l.length
  · have hi1 : ((i : Int) + 1 = ((i + 1 : Nat) : Int)) := by omega
    have hk1 := conB_spec (l.take i) l[i] (by rw [List.length_take]; omega)
    have hg : l.getD i [] = l[i] := by simp [hlt]
    generalize hq : (l.take i).any (fun y => l[i] == y) = q at hk1
    cases q with
    | true =>
      have hT : twcL l = true := List.any_eq_true.2 ⟨i, List.mem_range.2 hlt, by rw [hg]; exact hq⟩
      rw [hT]
      repeat' (first | refine Awp.seq ?_ | refine Awp.block ?_ | refine Awp.region ?_ | refine Ops.nil (nqA ?_) | refine Awp.skip (nqA ?_) | refine Awp.ret (nqE ?_) | (refine o_calm rfl TtOk rfl rfl rfl ?_ (fun _ => ?_); exact nd) | refine o_alloc (d := 4) rfl TtOk rfl rfl rfl (fun b4 => ?_) | refine o_store TtOk rfl rfl rfl rfl rfl rfl rfl ⟨rfl, rfl⟩ rfl rfl rfl rfl rfl ?_ | (refine o_index rfl TtOk rfl rfl rfl rfl rfl rfl ?_ (getq_nat ?_) ?_; omega; omega) | refine a_condT rfl ?_ | (refine a_condP rfl (fun hc => ?_) (fun hc => ?_)) <;> (try (exfalso; omega)) | refine a_any 4 [] [] [] [0, 1, 2, 3, 4] (by kernel_rfl) (by kernel_rfl) (by kernel_rfl) rfl rfl rfl ?_ | (refine o_sliceSl TtOk rfl 0 i rfl rfl rfl rfl rfl bnd_none (bnd_some rfl rfl) (by omega) (by omega) ?_) | refine o_callE rfl (hk1) ⟨nqS, nqS, True.intro⟩ rfl ?_)
      all_goals exact nq2
    | false =>
      repeat' (first | refine Awp.seq ?_ | refine Awp.block ?_ | refine Awp.region ?_ | refine Ops.nil (nqA ?_) | refine Ops.nil (nqX ?_) | refine Awp.skip (nqA ?_) | (refine o_add rfl rfl rfl rfl ?_ ?_; omega) | (refine o_calm rfl TtOk rfl rfl rfl ?_ (fun _ => ?_); exact nd) | refine o_alloc (d := 4) rfl TtOk rfl rfl rfl (fun b4 => ?_) | refine o_store TtOk rfl rfl rfl rfl rfl rfl rfl ⟨rfl, rfl⟩ rfl rfl rfl rfl rfl ?_ | (refine o_index rfl TtOk rfl rfl rfl rfl rfl rfl ?_ (getq_nat ?_) ?_; omega; omega) | refine a_condF rfl ?_ | (refine a_condP rfl (fun hc => ?_) (fun hc => ?_)) <;> (try (exfalso; omega)) | refine a_any 4 [] [] [] [0, 1, 2, 3, 4] (by kernel_rfl) (by kernel_rfl) (by kernel_rfl) rfl rfl rfl ?_ | (refine o_sliceSl TtOk rfl 0 i rfl rfl rfl rfl rfl bnd_none (bnd_some rfl rfl) (by omega) (by omega) ?_) | refine o_callE rfl (hk1) ⟨nqS, nqS, True.intro⟩ rfl ?_)
      all_goals exact ⟨i + 1, [], ⟨hlt, fun j hj => by
        rcases Nat.lt_succ_iff_lt_or_eq.1 hj with h2 | rfl
        · exact hno j h2
        · rw [hg]; exact hq⟩, by show l.length - (i + 1) < l.length - i; omega, rfl, ⟨sle_i hi1, sle_i rfl, sle_sl rfl, sle_sl rfl, True.intro⟩, .nil⟩
  · have hT : twcL l = false := by
      unfold twcL
      rw [List.any_eq_false]
      intro j hj
      rw [hno j (by have := List.mem_range.1 hj; omega)]
      decide
    rw [hT]
    repeat' (first | refine Awp.seq ?_ | refine Awp.region ?_ | refine Ops.nil (nqA ?_) | refine Awp.exit (nqA ?_) | refine Awp.ret (nqE ?_) | (refine o_calm rfl TtOk rfl rfl rfl ?_ (fun _ => ?_); exact nd) | (refine a_condP rfl (fun hc => ?_) (fun hc => ?_)) <;> (try (exfalso; omega)))
    exact nq2
end Go.Proofs.YtcmgpkibjdbonaaGreat
set_option maxHeartbeats 16000000
set_option maxRecDepth 100000
namespace Go.Proofs.YtcmgpkibjdbonaaGreat
open Go Go.RowKit
theorem rbytes14_spec (tag : UInt8) (l : List (List UInt8)) (hl : l.length ≤ 50) (hlo : ∀ x ∈ l, x.length = 32) : Spec Tryz.prog 218 [byA tag, .sl 32 (l.map labA), .sl 1 []] [] (fun v os => v = .s (jnB tag l) ∧ os = []) := by
  have k1 := rbytes_spec tag l (by omega) (fun t ht => by rw [hlo t ht]; decide)
  generalize jnB tag l = W at *
  refine spec_of TtOk [] Tryz.func218 rfl Tryz.ntmps218 (by kernel_rfl) rfl rfl (fun C => ?_) rfl
  repeat' (first | refine Awp.seq ?_ | refine Awp.block ?_ | refine Awp.region ?_ | refine Ops.nil (nqA ?_) | refine o_len rfl TtOk rfl rfl rfl (fun _ => ?_) | (refine o_calm rfl TtOk rfl rfl rfl ?_ (fun _ => ?_); exact nd) | refine o_buildSlice (d := 10) TtOk rfl rfl rfl rfl rfl rfl rfl rfl rfl rfl rfl nq1 (fun v10 => ?_))
  refine Awp.loop (fun q : Nat × Value => ⟨28, [(13, .i .i64 q.1), (12, .i .i64 l.length), (11, .sl 32 (l.map labA)), (7, .own 10 q.2), (0, byA tag), (2, .sl 1 [])], [(10, .row q.2 9 1 ((l.take q.1).map sA))]⟩) (fun q => q.1 ≤ l.length) (fun q => l.length - q.1) [] (0, v10) (Nat.zero_le _) ?_ ?_
  · exact ⟨rfl, ⟨sle_i rfl, sle_i rfl, sle_sl rfl, sle_own, nqS, sle_sl rfl, True.intro⟩, HLe.cons 10 rfl (HOLe.refl _) .nil⟩
  rintro ⟨i, v⟩ hi
  dsimp only at hi ⊢
  by_cases hlt : i < l.length
  · have hi1 : ((i : Int) + 1 = ((i + 1 : Nat) : Int)) := by omega
    have hst : l.take (i + 1) = l.take i ++ [l[i]] := List.take_succ_eq_append_getElem hlt
    have hln : (l.take i).length ≤ 50 := by rw [List.length_take]; omega
    have h32 := hlo _ (List.getElem_mem hlt)
    clear k1
    repeat' (first | (refine a_freezeV 9 9 rfl rfl rfl ?_) | refine Awp.seq ?_ | refine Awp.block ?_ | refine Awp.region ?_ | refine Ops.nil (nqA ?_) | refine Ops.nil (nqX ?_) | refine Awp.skip (nqA ?_) | (refine o_add rfl rfl rfl rfl ?_ ?_; omega) | (refine o_calm rfl TtOk rfl rfl rfl ?_ (fun _ => ?_); exact nd) | refine o_alloc (d := 9) rfl TtOk rfl rfl rfl (fun b9 => ?_) | refine o_store TtOk rfl rfl rfl rfl rfl rfl rfl ⟨rfl, rfl⟩ rfl rfl rfl rfl rfl ?_ | (refine o_index rfl TtOk rfl rfl rfl rfl rfl rfl ?_ (getq_nat ?_) ?_; omega; omega) | refine o_buildSlice (d := 20) TtOk rfl rfl rfl rfl rfl rfl rfl rfl rfl rfl rfl nq1 (fun v20 => ?_) | (refine o_append TtOk rfl rfl rfl rfl rfl rfl rfl rfl rfl (by first | exact True.intro | exact rfl) rfl rfl (fun _ => rfl) ?_ ?_ (fun _ => ?_); ((repeat' (first | rw [List.length_append] | rw [List.length_map] | rw [List.length_cons] | rw [List.length_nil] | rw [List.length_take] | rw [List.length_drop])) <;> omega); ((repeat' (first | rw [List.length_append] | rw [List.length_map] | rw [List.length_cons] | rw [List.length_nil] | rw [List.length_take] | rw [List.length_drop])) <;> omega)) | refine o_sliceCp TtOk rfl rfl rfl rfl rfl rfl ?_ | (refine a_condP rfl (fun hc => ?_) (fun hc => ?_)) <;> (try (exfalso; omega)) | refine o_toString TtOk rfl rfl rfl rfl rfl (by first | exact True.intro | exact rfl) rfl rfl rfl rfl ?_)
    all_goals exact ⟨(i + 1, _), [], hlt, by show l.length - (i + 1) < l.length - i; omega, rfl, ⟨sle_i hi1, sle_i rfl, sle_sl rfl, sle_own, nqS, sle_sl rfl, True.intro⟩, HLe.cons 10 rfl (HOLe.row (by rw [hst, List.map_append]; rfl)) .nil⟩
  · have hie : i = l.length := by omega
    subst hie
    rw [List.take_length]
    repeat' (first | (refine o_freezeR 10 26 rfl rfl rfl ?_) | refine Awp.seq ?_ | refine Awp.region ?_ | refine Ops.nil (nqA ?_) | refine Awp.exit (nqA ?_) | refine Awp.ret (nqE ?_) | (refine o_calm rfl TtOk rfl rfl rfl ?_ (fun _ => ?_); exact nd) | (refine o_append TtOk rfl rfl rfl rfl rfl rfl rfl rfl rfl (by first | exact True.intro | exact rfl) rfl rfl (fun _ => rfl) ?_ ?_ (fun _ => ?_); ((repeat' (first | rw [List.length_append] | rw [List.length_map] | rw [List.length_cons] | rw [List.length_nil] | rw [List.length_take] | rw [List.length_drop])) <;> omega); ((repeat' (first | rw [List.length_append] | rw [List.length_map] | rw [List.length_cons] | rw [List.length_nil] | rw [List.length_take] | rw [List.length_drop])) <;> omega)) | (refine a_condP rfl (fun hc => ?_) (fun hc => ?_)) <;> (try (exfalso; omega)) | refine o_callE rfl (k1) ⟨nqS, sle_sl (List.append_nil _), True.intro⟩ rfl ?_)
    all_goals exact nq2
theorem jnB_len1 (tag : UInt8) (s : List UInt8) (h : s.length = 32) : (jnB tag [s]).length ≤ 1000 := by
  unfold jnB
  show ([tag] ++ ((lenQ s.length ++ s) ++ [])).length ≤ 1000
  have h4 : (lenQ s.length).length = 4 := rfl
  rw [List.length_append, List.length_append, List.length_append, h4, h]
  show 1 + (4 + 32 + 0) ≤ 1000
  decide
theorem rjoined14_spec (tag : UInt8) (l : List (List UInt8)) (hl : l.length ≤ 50) (hlo : ∀ x ∈ l, x.length = 32) (hj : (jnB tag l).length ≤ 1000) : Spec Tryz.prog 191 [byA tag, .sl 32 (l.map labA), .sl 1 []] [] (fun v os => v = labA (shaN (jnB tag l)) ∧ os = []) := by
  have k1 := rbytes14_spec tag l hl hlo
  have k2 := rsum_spec (jnB tag l) (by omega)
  generalize jnB tag l = W at *
  generalize shaN W = r at *
  refine spec_of TtOk [] Tryz.func191 rfl Tryz.ntmps191 (by kernel_rfl) rfl rfl (fun C => ?_) rfl
  repeat' (first | refine Awp.seq ?_ | refine Awp.region ?_ | refine Ops.nil (nqA ?_) | refine Awp.ret (nqE ?_) | (refine o_calm rfl TtOk rfl rfl rfl ?_ (fun _ => ?_); exact nd) | refine o_alloc (d := 6) rfl TtOk rfl rfl rfl (fun b6 => ?_) | refine o_store TtOk rfl rfl rfl rfl rfl rfl rfl ⟨rfl, rfl⟩ rfl rfl rfl rfl rfl ?_ | refine o_callE rfl (k1) ⟨nqS, nqS, nqS, True.intro⟩ rfl ?_ | refine o_callE rfl (k2) ⟨nqS, True.intro⟩ rfl ?_)
  all_goals
    refine end_all [] [] (labA r) rfl ?_ ?_ (rle_one (CLe.of_eq rfl) rfl) .nil ⟨rfl, rfl⟩ _ (.inl rfl)
    · exact nq1
    · exact ⟨trivial, trivial⟩
theorem rfresh14_spec (s : List UInt8) (hs : s.length = 32) : Spec Tryz.prog 188 [labA s] [] (fun v os => v = labA (frL s) ∧ os = []) := by
  have h1 : Spec Tryz.prog 191 [.i .u8 2, .sl 32 [labA s], .sl 1 []] [] (fun v os => v = labA (frL s) ∧ os = []) := rjoined14_spec 2 [s] (show 1 ≤ 50 by decide) (fun t ht => by rw [List.mem_singleton.1 ht]; exact hs) (jnB_len1 _ s hs)
  generalize frL s = r at *
  refine spec_of TtOk [] Tryz.func188 rfl Tryz.ntmps188 (by kernel_rfl) rfl rfl (fun C => ?_) rfl
  repeat' (first | (refine o_freezeR 4 4 rfl rfl rfl ?_) | refine Awp.seq ?_ | refine Awp.region ?_ | refine Ops.nil (nqA ?_) | refine Awp.ret (nqE ?_) | (refine o_calm rfl TtOk rfl rfl rfl ?_ (fun _ => ?_); exact nd) | refine o_alloc (d := 2) rfl TtOk rfl rfl rfl (fun b2 => ?_) | refine o_box (d := 1) rfl rfl rfl rfl (fun b1 => ?_) | refine o_store TtOk rfl rfl rfl rfl rfl rfl rfl ⟨rfl, rfl⟩ rfl rfl rfl rfl rfl ?_ | refine o_buildSlice (d := 4) TtOk rfl rfl rfl rfl rfl rfl rfl rfl rfl rfl rfl nq1 (fun v4 => ?_) | refine o_callE rfl h1 ⟨nqS, nqS, sle_nilsl, True.intro⟩ rfl ?_)
  all_goals
    refine end_all [] [] (labA r) rfl ?_ ?_ (rle_one (CLe.of_eq rfl) rfl) .nil ⟨rfl, rfl⟩ _ (.inl rfl)
    · exact nq1
    · exact ⟨trivial, trivial⟩
theorem rstale14_spec (s : List UInt8) (hs : s.length = 32) : Spec Tryz.prog 189 [labA s] [] (fun v os => v = labA (stL s) ∧ os = []) := by
  have h1 : Spec Tryz.prog 191 [.i .u8 3, .sl 32 [labA s], .sl 1 []] [] (fun v os => v = labA (stL s) ∧ os = []) := rjoined14_spec 3 [s] (show 1 ≤ 50 by decide) (fun t ht => by rw [List.mem_singleton.1 ht]; exact hs) (jnB_len1 _ s hs)
  generalize stL s = r at *
  refine spec_of TtOk [] Tryz.func189 rfl Tryz.ntmps189 (by kernel_rfl) rfl rfl (fun C => ?_) rfl
  repeat' (first | (refine o_freezeR 4 4 rfl rfl rfl ?_) | refine Awp.seq ?_ | refine Awp.region ?_ | refine Ops.nil (nqA ?_) | refine Awp.ret (nqE ?_) | (refine o_calm rfl TtOk rfl rfl rfl ?_ (fun _ => ?_); exact nd) | refine o_alloc (d := 2) rfl TtOk rfl rfl rfl (fun b2 => ?_) | refine o_box (d := 1) rfl rfl rfl rfl (fun b1 => ?_) | refine o_store TtOk rfl rfl rfl rfl rfl rfl rfl ⟨rfl, rfl⟩ rfl rfl rfl rfl rfl ?_ | refine o_buildSlice (d := 4) TtOk rfl rfl rfl rfl rfl rfl rfl rfl rfl rfl rfl nq1 (fun v4 => ?_) | refine o_callE rfl h1 ⟨nqS, nqS, sle_nilsl, True.intro⟩ rfl ?_)
  all_goals
    refine end_all [] [] (labA r) rfl ?_ ?_ (rle_one (CLe.of_eq rfl) rfl) .nil ⟨rfl, rfl⟩ _ (.inl rfl)
    · exact nq1
    · exact ⟨trivial, trivial⟩
theorem rtomb14_spec : Spec Tryz.prog 110 [] [] (fun v os => v = labA tombL ∧ os = []) := by
  have h1 : Spec Tryz.prog 191 [.i .u8 5, .sl 32 [], .sl 1 []] [] (fun v os => v = labA tombL ∧ os = []) := rjoined14_spec 5 [] (show 0 ≤ 50 by decide) (fun t ht => by cases ht) (show 1 ≤ 1000 by decide)
  generalize tombL = r at *
  refine spec_of TtOk [] Tryz.func110 rfl Tryz.ntmps110 (by kernel_rfl) rfl rfl (fun C => ?_) rfl
  repeat' (first | refine Awp.seq ?_ | refine Awp.region ?_ | refine Ops.nil (nqA ?_) | refine Awp.ret (nqE ?_) | refine o_alloc (d := 0) rfl TtOk rfl rfl rfl (fun b0 => ?_) | refine o_store TtOk rfl rfl rfl rfl rfl rfl rfl ⟨rfl, rfl⟩ rfl rfl rfl rfl rfl ?_ | refine o_callE rfl h1 ⟨nqS, sle_nilsl, sle_nilsl, True.intro⟩ rfl ?_)
  all_goals
    refine end_all [] [] (labA r) rfl ?_ ?_ (rle_one (CLe.of_eq rfl) rfl) .nil ⟨rfl, rfl⟩ _ (.inl rfl)
    · exact nq1
    · exact ⟨trivial, trivial⟩
theorem rmark14_spec : Spec Tryz.prog 190 [] [] (fun v os => v = labA markL ∧ os = []) := by
  have h1 : Spec Tryz.prog 191 [.i .u8 6, .sl 32 [], .sl 1 []] [] (fun v os => v = labA markL ∧ os = []) := rjoined14_spec 6 [] (show 0 ≤ 50 by decide) (fun t ht => by cases ht) (show 1 ≤ 1000 by decide)
  generalize markL = r at *
  refine spec_of TtOk [] Tryz.func190 rfl Tryz.ntmps190 (by kernel_rfl) rfl rfl (fun C => ?_) rfl
  repeat' (first | refine Awp.seq ?_ | refine Awp.region ?_ | refine Ops.nil (nqA ?_) | refine Awp.ret (nqE ?_) | refine o_alloc (d := 0) rfl TtOk rfl rfl rfl (fun b0 => ?_) | refine o_store TtOk rfl rfl rfl rfl rfl rfl rfl ⟨rfl, rfl⟩ rfl rfl rfl rfl rfl ?_ | refine o_callE rfl h1 ⟨nqS, sle_nilsl, sle_nilsl, True.intro⟩ rfl ?_)
  all_goals
    refine end_all [] [] (labA r) rfl ?_ ?_ (rle_one (CLe.of_eq rfl) rfl) .nil ⟨rfl, rfl⟩ _ (.inl rfl)
    · exact nq1
    · exact ⟨trivial, trivial⟩
end Go.Proofs.YtcmgpkibjdbonaaGreat
