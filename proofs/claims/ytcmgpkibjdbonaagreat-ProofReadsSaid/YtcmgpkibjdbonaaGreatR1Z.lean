/- ref01: Bit, Common, Order, Set, Cut, Good by rules: the same bits. -/
import Derived.Test.YtcmgpkibjdbonaaGreatG10Z
import Derived.Test.YtcmgpkibjdbonaaGreatG6Z
import Derived.Test.YtcmgpkibjdbonaaGreatSA4Z
import Derived.Test.YtcmgpkibjdbonaaGreatV26Z
set_option maxHeartbeats 8000000
set_option maxRecDepth 100000
namespace Go.Proofs.YtcmgpkibjdbonaaGreat
open Go Go.RowKit
theorem rbit_spec (l : List UInt8) (hl : l.length = 32) (i : Nat) (hi : i < 256) : Spec Tryz.prog 93 [labA l, .i .i64 i] [] (fun v os => v = .i .i64 (bitL l i : Nat) ∧ os = []) := by
  refine spec_of TtOk [] Tryz.func93 rfl Tryz.ntmps93 (by kernel_rfl) rfl rfl (fun C => ?_) rfl
  have hg := lab_get (l := l) (i := i / 8) (by omega)
  have hb : bitL l i = ((l.getD (i / 8) 0).toNat / 2 ^ (7 - i % 8)) % 2 := rfl
  rw [hb]
  generalize l.getD (i / 8) 0 = c at hg ⊢
  have hc8 := c.toNat_lt
  repeat' (first | refine Awp.seq ?_ | refine Awp.block ?_ | refine Awp.region ?_ | refine Ops.nil (nqA ?_) | refine Awp.skip (nqA ?_) | (refine o_quo rfl rfl rfl rfl ?_ ?_ ?_; omega; omega) | (refine o_rem rfl rfl rfl rfl ?_ ?_ ?_; omega; omega) | refine o_convB rfl TtOk rfl rfl rfl rfl ?_ | (refine o_calm rfl TtOk rfl rfl rfl ?_ (fun _ => ?_); exact nd) | refine o_box (d := 2) rfl rfl rfl rfl (fun b2 => ?_) | (refine a_condP rfl (fun hc => ?_) (fun hc => ?_)) <;> (try (exfalso; omega)) | (refine o_indexArr TtOk rfl rfl rfl rfl rfl rfl (i/8) rfl (by omega) ?_) | (refine o_loadAt TtOk rfl rfl rfl rfl (sub_arr hg) (by first | exact Nat.add_zero _ | rfl) ⟨rfl, rfl⟩ rfl rfl ?_))
  refine Awp.loop (fun j : Nat => ⟨28, [(6, .i .i64 ((i % 8 + j : Nat) : Int)), (5, .i .i64 ((c.toNat / 2 ^ j : Nat) : Int))], []⟩) (fun j => i % 8 + j ≤ 7) (fun j => 7 - j) [] 0 (by omega) ?_ ?_
  · exact ⟨rfl, ⟨sle_i (by omega), sle_i (by rw [Nat.pow_zero, Nat.div_one]), True.intro⟩, .nil⟩
  intro j hj
  have hs : c.toNat / 2 ^ (j + 1) = c.toNat / 2 ^ j / 2 := by rw [Nat.pow_succ, Nat.div_div_eq_div_mul]
  have hle : c.toNat / 2 ^ j < 256 := Nat.lt_of_le_of_lt (Nat.div_le_self _ _) hc8
  by_cases hj7 : i % 8 + j < 7
  · generalize c.toNat / 2 ^ j = x at hs hle ⊢
    repeat' (first | refine Awp.seq ?_ | refine Awp.block ?_ | refine Awp.region ?_ | refine Ops.nil (nqA ?_) | refine Ops.nil (nqX ?_) | refine Awp.skip (nqA ?_) | (refine o_add rfl rfl rfl rfl ?_ ?_; omega) | (refine o_quo rfl rfl rfl rfl ?_ ?_ ?_; omega; omega) | (refine o_calm rfl TtOk rfl rfl rfl ?_ (fun _ => ?_); exact nd) | (refine a_condP rfl (fun hc => ?_) (fun hc => ?_)) <;> (try (exfalso; omega)))
    exact ⟨j + 1, [], by omega, by omega, rfl, ⟨sle_i (by omega), sle_i (by rw [hs]; omega), True.intro⟩, .nil⟩
  · have hje : 7 - i % 8 = j := by omega
    rw [hje]
    generalize c.toNat / 2 ^ j = x at hs hle ⊢
    repeat' (first | refine Awp.seq ?_ | refine Awp.region ?_ | refine Ops.nil (nqA ?_) | refine Awp.exit (nqA ?_) | refine Awp.ret (nqE ?_) | (refine o_rem rfl rfl rfl rfl ?_ ?_ ?_; omega; omega) | (refine o_calm rfl TtOk rfl rfl rfl ?_ (fun _ => ?_); exact nd) | (refine a_condP rfl (fun hc => ?_) (fun hc => ?_)) <;> (try (exfalso; omega)))
    refine end_tmp rfl rfl rfl [] [] (CLe.of_eq ?_) .nil ⟨rfl, rfl⟩ _ (.inl rfl)
    exact congrArg (AV.i .i64) (by omega)
theorem com_step {a b : List UInt8} (ha : a.length = 32) (hb : b.length = 32) {n : Nat} (hn : n ≤ comL a b) (h256 : n < 256) : n < comL a b ↔ bitL a n = bitL b n := by
  obtain ⟨h1, h2, h3, h4⟩ := com_bits a b (by omega)
  constructor
  · exact fun h => h2 n h
  · intro h
    rcases Nat.lt_or_ge n (comL a b) with h5 | h5
    · exact h5
    · have : n = comL a b := by omega
      subst this
      exact absurd h (h3 (by omega))
theorem rcommon_spec (a b : List UInt8) (ha : a.length = 32) (hb : b.length = 32) : Spec Tryz.prog 160 [labA a, labA b] [] (fun v os => v = .i .i64 (comL a b : Nat) ∧ os = []) := by
  refine spec_of TtOk [] Tryz.func160 rfl Tryz.ntmps160 (by kernel_rfl) rfl rfl (fun C => ?_) rfl
  have hc256 := comL_256 (b := b) ha
  repeat' (first | refine Awp.seq ?_ | refine Awp.block ?_ | refine Awp.region ?_ | refine Ops.nil (nqA ?_) | (refine o_calm rfl TtOk rfl rfl rfl ?_ (fun _ => ?_); exact nd) | refine o_box (d := 2) rfl rfl rfl rfl (fun b2 => ?_) | refine o_box (d := 3) rfl rfl rfl rfl (fun b3 => ?_))
  refine Awp.loop (fun n : Nat => ⟨20, [(5, .i .i64 n), (2, .ptr 2 b2 [] 0), (3, .ptr 3 b3 [] 0)], [(2, .var b2 (labA a)), (3, .var b3 (labA b))]⟩) (fun n => n ≤ comL a b) (fun n => 256 - n) [] 0 (Nat.zero_le _) ?_ ?_
  · exact ⟨rfl, ⟨sle_i rfl, sle_ptr, sle_ptr, True.intro⟩, HLe.cons 2 rfl (HOLe.refl _) (HLe.cons 3 rfl (HOLe.refl _) .nil)⟩
  intro n hn
  by_cases h256 : n < 256
  · have h1 := rbit_spec a ha n h256
    have h2 := rbit_spec b hb n h256
    have hs := com_step ha hb hn h256
    by_cases hlt : n < comL a b
    · have he := hs.1 hlt
      rw [he] at h1
      generalize bitL b n = x at h1 h2
      have hxx : ((x : Nat) : Int) = (x : Int) := rfl
      repeat' (first | refine Awp.seq ?_ | refine Awp.block ?_ | refine Awp.region ?_ | refine Ops.nil (nqA ?_) | refine Ops.nil (nqX ?_) | refine Awp.skip (nqA ?_) | (refine o_add rfl rfl rfl rfl ?_ ?_; omega) | (refine o_calm rfl TtOk rfl rfl rfl ?_ (fun _ => ?_); exact nd) | (fail_if_success (refine o_isLit rfl (by first | exact .inl rfl | exact .inr rfl) ?_)); (refine o_splitP rfl rfl (fun hc => ?_) (fun hc => ?_) <;> try (exfalso; omega)) | (refine a_condP rfl (fun hc => ?_) (fun hc => ?_)) <;> (try (exfalso; omega)) | refine a_any 2 [] [] [] [0, 1, 2, 4, 7, 3, 6, 5, 8, 9, 10] (by kernel_rfl) (by kernel_rfl) (by kernel_rfl) rfl rfl rfl ?_ | refine o_callE rfl (h1) ⟨nqS, nqS, True.intro⟩ rfl ?_ | refine o_callE rfl (h2) ⟨nqS, nqS, True.intro⟩ rfl ?_)
      all_goals first
        | exact ⟨n + 1, [], hlt, by omega, rfl, ⟨sle_i (by omega), sle_ptr, sle_ptr, True.intro⟩, HLe.cons 2 rfl (HOLe.refl _) (HLe.cons 3 rfl (HOLe.refl _) .nil)⟩
        | skip
    · have hne : ¬ bitL a n = bitL b n := fun h => hlt (hs.2 h)
      have hne2 : n = comL a b := by omega
      rw [← hne2]
      generalize bitL a n = x at h1 hne
      generalize bitL b n = y at h2 hne
      repeat' (first | refine Awp.seq ?_ | refine Awp.region ?_ | refine Ops.nil (nqA ?_) | refine Awp.exit (nqA ?_) | refine Awp.ret (nqE ?_) | (refine o_calm rfl TtOk rfl rfl rfl ?_ (fun _ => ?_); exact nd) | (fail_if_success (refine o_isLit rfl (by first | exact .inl rfl | exact .inr rfl) ?_)); (refine o_splitP rfl rfl (fun hc => ?_) (fun hc => ?_) <;> try (exfalso; omega)) | (refine a_condP rfl (fun hc => ?_) (fun hc => ?_)) <;> (try (exfalso; omega)) | refine a_any 2 [] [] [] [0, 1, 2, 4, 7, 3, 6, 5, 8, 9, 10] (by kernel_rfl) (by kernel_rfl) (by kernel_rfl) rfl rfl rfl ?_ | refine o_callE rfl (h1) ⟨nqS, nqS, True.intro⟩ rfl ?_ | refine o_callE rfl (h2) ⟨nqS, nqS, True.intro⟩ rfl ?_)
      all_goals first
        | exact nq2
        | skip
  · have hne2 : n = comL a b := by omega
    rw [← hne2]
    repeat' (first | refine Awp.seq ?_ | refine Awp.region ?_ | refine Ops.nil (nqA ?_) | refine Awp.exit (nqA ?_) | refine Awp.ret (nqE ?_) | refine o_noT rfl rfl rfl ?_ | (refine o_calm rfl TtOk rfl rfl rfl ?_ (fun _ => ?_); exact nd) | (fail_if_success (refine o_isLit rfl (by first | exact .inl rfl | exact .inr rfl) ?_)); (refine o_splitP rfl rfl (fun hc => ?_) (fun hc => ?_) <;> try (exfalso; omega)) | refine a_condF rfl ?_ | refine a_any 2 [] [] [] [0, 1, 2, 4, 7, 3, 6, 5, 8, 9, 10] (by kernel_rfl) (by kernel_rfl) (by kernel_rfl) rfl rfl rfl ?_)
    all_goals exact nq2
theorem ord_bits {a b : List UInt8} (ha : a.length = 32) (hb : b.length = 32) (h : comL a b < 256) : cmpS a b = 2 * (bitL a (comL a b) : Nat) - 1 := by
  have hl := less_bits a b (by omega) (by omega)
  rcases bitL_or a (comL a b) with h0 | h0
  · rw [h0, cmpS_lt (hl.2 h0)]; rfl
  · rw [h0]
    have hn : ¬ Op.bytesLess a b = true := fun h => by rw [hl.1 h] at h0; cases h0
    rcases less_tri a b with k | k | k
    · exact absurd k hn
    · subst k; rw [com_self] at h; omega
    · rw [cmpS_gt k]; rfl
theorem rorder_spec (a b : List UInt8) (ha : a.length = 32) (hb : b.length = 32) : Spec Tryz.prog 92 [labA a, labA b] [] (fun v os => v = .i .i64 (cmpS a b) ∧ os = []) := by
  refine spec_of TtOk [] Tryz.func92 rfl Tryz.ntmps92 (by kernel_rfl) rfl rfl (fun C => ?_) rfl
  have hc256 := comL_256 (b := b) ha
  have h1 := rcommon_spec a b ha hb
  by_cases hlt : comL a b < 256
  · have h2 := rbit_spec a ha _ hlt
    rw [ord_bits ha hb hlt]
    have hx := bitL_or a (comL a b)
    generalize bitL a (comL a b) = x at h2 hx
    generalize comL a b = n at h1 h2 hlt
    repeat' (first | refine Awp.seq ?_ | refine Awp.region ?_ | refine Ops.nil (nqA ?_) | refine Awp.skip (nqA ?_) | refine Awp.ret (nqE ?_) | (refine o_sub rfl rfl rfl rfl ?_ ?_; omega) | (refine o_mul rfl rfl rfl rfl ?_ ?_; omega) | (refine o_calm rfl TtOk rfl rfl rfl ?_ (fun _ => ?_); exact nd) | refine o_box (d := 2) rfl rfl rfl rfl (fun b2 => ?_) | refine o_box (d := 3) rfl rfl rfl rfl (fun b3 => ?_) | (refine a_condP rfl (fun hc => ?_) (fun hc => ?_)) <;> (try (exfalso; omega)) | refine o_callE rfl (h1) ⟨nqS, nqS, True.intro⟩ rfl ?_ | refine o_callE rfl (h2) ⟨nqS, nqS, True.intro⟩ rfl ?_)
    exact nq2
  · have he : comL a b = 256 := by omega
    have hab : a = b := (com_bits a b (by omega)).2.2.2 (by omega)
    subst hab
    rw [cmpS_eq]
    rw [he] at h1
    repeat' (first | refine Awp.seq ?_ | refine Awp.region ?_ | refine Ops.nil (nqA ?_) | refine Awp.ret (nqE ?_) | (refine o_calm rfl TtOk rfl rfl rfl ?_ (fun _ => ?_); exact nd) | refine o_box (d := 2) rfl rfl rfl rfl (fun b2 => ?_) | refine o_box (d := 3) rfl rfl rfl rfl (fun b3 => ?_) | refine a_condT rfl ?_ | refine o_callE rfl (h1) ⟨nqS, nqS, True.intro⟩ rfl ?_)
    exact nq2
def bitOn (l : List UInt8) (i : Nat) : List UInt8 := l.set (i / 8) (UInt8.ofNat ((l.getD (i / 8) 0).toNat + 2 ^ (7 - i % 8)))
theorem setb_facts : ∀ (c : Fin 256) (p : Fin 8), c.val.testBit p.val = false → c.val + 2 ^ p.val < 256 ∧ ∀ q : Fin 8, (c.val + 2 ^ p.val).testBit q.val = (decide (q.val = p.val) || c.val.testBit q.val) := by decide +kernel
theorem bitOn_len (l : List UInt8) (i : Nat) : (bitOn l i).length = l.length := List.length_set ..
theorem bitL_zero_test {l : List UInt8} {i : Nat} (h : bitL l i = 0) : (l.getD (i / 8) 0).toNat.testBit (7 - i % 8) = false := by
  rw [bitL_def] at h
  cases hb : (l.getD (i / 8) 0).toNat.testBit (7 - i % 8)
  · rfl
  · rw [hb] at h; cases h
theorem bitOn_bit (l : List UInt8) (hl : l.length = 32) (i : Nat) (hi : i < 256) (h0 : bitL l i = 0) (j : Nat) (_hj : j < 256) : bitL (bitOn l i) j = if j = i then 1 else bitL l j := by
  have ht := bitL_zero_test h0
  rw [bitL_def, bitL_def]
  unfold bitOn
  have hs : (l.set (i / 8) (UInt8.ofNat ((l.getD (i / 8) 0).toNat + 2 ^ (7 - i % 8)))).getD (j / 8) 0 = if j / 8 = i / 8 then UInt8.ofNat ((l.getD (i / 8) 0).toNat + 2 ^ (7 - i % 8)) else l.getD (j / 8) 0 := by
    rw [List.getD_eq_getElem?_getD, List.getElem?_set, List.getD_eq_getElem?_getD]
    by_cases he : i / 8 = j / 8
    · rw [if_pos he, if_pos he.symm, if_pos (by omega)]; rfl
    · rw [if_neg he, if_neg (fun h => he h.symm), List.getD_eq_getElem?_getD]
  rw [hs]
  obtain ⟨f1, f2⟩ := setb_facts ⟨(l.getD (i / 8) 0).toNat, UInt8.toNat_lt _⟩ ⟨7 - i % 8, by omega⟩ ht
  have f2 := f2 ⟨7 - j % 8, by omega⟩
  dsimp only at f1 f2
  by_cases he : j / 8 = i / 8
  · rw [if_pos he, UInt8.toNat_ofNat', Nat.mod_eq_of_lt f1, f2, he]
    by_cases hji : j = i
    · rw [if_pos hji, decide_eq_true (by omega)]; rfl
    · rw [if_neg hji, decide_eq_false (by omega)]; rfl
  · rw [if_neg he, if_neg (fun h => he (by rw [h]))]
theorem cut_succ (l : List UInt8) (hl : l.length = 32) (i : Nat) (hi : i < 256) : cutL l (i + 1) = if bitL l i = 1 then bitOn (cutL l i) i else cutL l i := by
  have hc := cutL_len l i hl (by omega)
  have hz : bitL (cutL l i) i = 0 := by rw [cut_bit l hl i i (by omega), if_neg (by omega)]
  refine bits_eq (cutL_len l _ hl (by omega)) (by
    split
    · rw [bitOn_len]; exact hc
    · exact hc) (fun j hj => ?_)
  rw [cut_bit l hl _ j (by omega)]
  by_cases h1 : bitL l i = 1
  · rw [if_pos h1, bitOn_bit _ hc i hi hz j hj, cut_bit l hl i j (by omega)]
    by_cases hji : j = i
    · subst hji; rw [if_pos (by omega), if_pos rfl, h1]
    · rw [if_neg hji]
      by_cases hlt : j < i
      · rw [if_pos hlt, if_pos (by omega)]
      · rw [if_neg hlt, if_neg (by omega)]
  · rw [if_neg h1, cut_bit l hl i j (by omega)]
    by_cases hji : j = i
    · subst hji
      rw [if_pos (by omega), if_neg (by omega)]
      rcases bitL_or l j with h | h
      · exact h
      · exact absurd h h1
    · by_cases hlt : j < i
      · rw [if_pos hlt, if_pos (by omega)]
      · rw [if_neg hlt, if_neg (by omega)]
theorem rset_spec (l : List UInt8) (hl : l.length = 32) (i : Nat) (hi : i < 256) (h0 : bitL l i = 0) : Spec Tryz.prog 216 [labA l, .i .i64 i] [] (fun v os => v = labA (bitOn l i) ∧ os = []) := by
  refine spec_of TtOk [] Tryz.func216 rfl Tryz.ntmps216 (by kernel_rfl) rfl rfl (fun C => ?_) rfl
  have h1 := rbit_spec l hl i hi
  rw [h0] at h1
  have hg := lab_get (l := l) (i := i / 8) (by omega)
  have hset : bitOn l i = l.set (i / 8) (UInt8.ofNat ((l.getD (i / 8) 0).toNat + 2 ^ (7 - i % 8))) := rfl
  rw [hset]
  generalize l.getD (i / 8) 0 = c at hg
  have hc8 := c.toNat_lt
  repeat' (first | refine Awp.seq ?_ | refine Awp.block ?_ | refine Awp.region ?_ | refine Ops.nil (nqA ?_) | (refine o_rem rfl rfl rfl rfl ?_ ?_ ?_; omega; omega) | (refine o_calm rfl TtOk rfl rfl rfl ?_ (fun _ => ?_); exact nd) | refine o_alloc (d := 4) rfl TtOk rfl rfl rfl (fun b4 => ?_) | refine o_box (d := 2) rfl rfl rfl rfl (fun b2 => ?_))
  refine Awp.loop (fun j : Nat => ⟨27, [(6, .i .i64 ((i % 8 + j : Nat) : Int)), (5, .i .u8 ((2 ^ j : Nat) : Int)), (1, .i .i64 i), (2, .ptr 2 b2 [] 0), (4, .ptr 4 b4 [] 0)], [(2, .var b2 (labA l)), (4, .var b4 (.arr 1 32 (List.replicate 32 (.i .u8 0))))]⟩) (fun j => i % 8 + j ≤ 7) (fun j => 7 - j) [] 0 (by omega) ?_ ?_
  · exact ⟨rfl, ⟨sle_i (by omega), sle_i rfl, sle_i rfl, sle_ptr, sle_ptr, True.intro⟩, HLe.cons 2 rfl (HOLe.refl _) (HLe.cons 4 rfl (HOLe.refl _) .nil)⟩
  intro j hj
  by_cases hj7 : i % 8 + j < 7
  · have hw : IntKind.u8.wrap (2 * ((2 ^ j : Nat) : Int)) = ((2 ^ (j + 1) : Nat) : Int) := by
      have hp : 2 ^ j ≤ 2 ^ 6 := Nat.pow_le_pow_right (by decide) (by omega)
      rw [show 2 * ((2 ^ j : Nat) : Int) = ((2 ^ j * 2 : Nat) : Int) by omega, bwrap_nat, Nat.pow_succ]
      rw [Nat.mod_eq_of_lt (by omega)]
    generalize hp : ((2 ^ j : Nat) : Int) = x at hw ⊢
    repeat' (first | (rw [hw]) | refine Awp.seq ?_ | refine Awp.block ?_ | refine Awp.region ?_ | refine Ops.nil (nqA ?_) | refine Ops.nil (nqX ?_) | refine Awp.skip (nqA ?_) | (refine o_add rfl rfl rfl rfl ?_ ?_; omega) | (refine o_calm rfl TtOk rfl rfl rfl ?_ (fun _ => ?_); exact nd) | (refine a_condP rfl (fun hc => ?_) (fun hc => ?_)) <;> (try (exfalso; omega)))
    exact ⟨j + 1, [], by omega, by omega, rfl, ⟨sle_i (by omega), sle_i rfl, sle_i rfl, sle_ptr, sle_ptr, True.intro⟩, HLe.cons 2 rfl (HOLe.refl _) (HLe.cons 4 rfl (HOLe.refl _) .nil)⟩
  · have hje : 7 - i % 8 = j := by omega
    rw [hje]
    have hb : AV.i .u8 (IntKind.u8.wrap ((c.toNat : Int) + ((2 ^ j : Nat) : Int))) = byA (UInt8.ofNat (c.toNat + 2 ^ j)) := by
      rw [show (c.toNat : Int) + ((2 ^ j : Nat) : Int) = ((c.toNat + 2 ^ j : Nat) : Int) by omega, byA_nt]
    generalize UInt8.ofNat (c.toNat + 2 ^ j) = d at hb ⊢
    generalize ((2 ^ j : Nat) : Int) = x at hb ⊢
    repeat' (first | (rw [hb]) | refine Awp.seq ?_ | refine Awp.region ?_ | refine Ops.nil (nqA ?_) | refine Awp.exit (nqA ?_) | refine Awp.ret (nqE ?_) | (refine o_quo rfl rfl rfl rfl ?_ ?_ ?_; omega; omega) | (refine o_calm rfl TtOk rfl rfl rfl ?_ (fun _ => ?_); exact nd) | refine o_store TtOk rfl rfl rfl rfl rfl rfl rfl ⟨rfl, rfl⟩ rfl rfl rfl rfl rfl ?_ | refine a_condT rfl ?_ | (refine a_condP rfl (fun hc => ?_) (fun hc => ?_)) <;> (try (exfalso; omega)) | (refine o_indexArr TtOk rfl rfl rfl rfl rfl rfl (i/8) rfl (by omega) ?_) | (refine o_loadAt TtOk rfl rfl rfl rfl (sub_arr hg) (by first | exact Nat.add_zero _ | rfl) ⟨rfl, rfl⟩ rfl rfl ?_) | (refine o_storeArr TtOk rfl rfl rfl rfl rfl rfl ⟨rfl, rfl⟩ rfl rfl hg rfl rfl ?_) | refine o_callE rfl (h1) ⟨nqS, nqS, True.intro⟩ rfl ?_)
    have hq : AV.arr 1 32 ((l.map byA).set (i / 8) (byA d)) = labA (l.set (i / 8) d) := by unfold labA; rw [List.map_set]
    refine end_all [] [] (labA (l.set (i / 8) d)) rfl ?_ ?_ (rle_one (CLe.of_eq hq) rfl) .nil ⟨rfl, rfl⟩ _ (.inl rfl)
    · exact nq1
    · exact ⟨trivial, trivial⟩
theorem cut_zero (l : List UInt8) : cutL l 0 = List.replicate 32 0 := by unfold cutL cutP; rw [if_pos rfl]; rfl
theorem rcut_spec (l : List UInt8) (hl : l.length = 32) (n : Int) : Spec Tryz.prog 177 [labA l, .i .i64 n] [] (fun v os => v = labA (cutL l (clamp n)) ∧ os = []) := by
  refine spec_of TtOk [] Tryz.func177 rfl Tryz.ntmps177 (by kernel_rfl) rfl rfl (fun C => ?_) rfl
  obtain ⟨m, hm⟩ : ∃ m, clamp n = m := ⟨_, rfl⟩
  have hm1 : m ≤ 256 := by rw [← hm]; unfold clamp; omega
  have hm2 : ∀ i : Nat, i < m ↔ ((i : Int) < n ∧ (i : Int) < 256) := fun i => by rw [← hm]; unfold clamp; omega
  rw [hm]
  repeat' (first | refine Awp.seq ?_ | refine Awp.block ?_ | refine Awp.region ?_ | refine Ops.nil (nqA ?_) | (refine o_calm rfl TtOk rfl rfl rfl ?_ (fun _ => ?_); exact nd) | refine o_alloc (d := 4) rfl TtOk rfl rfl rfl (fun b4 => ?_) | refine o_alloc (d := 5) rfl TtOk rfl rfl rfl (fun b5 => ?_) | refine o_box (d := 2) rfl rfl rfl rfl (fun b2 => ?_) | refine o_store TtOk rfl rfl rfl rfl rfl rfl rfl ⟨rfl, rfl⟩ rfl rfl rfl rfl rfl ?_ | refine o_buildArr0 TtOk rfl rfl rfl rfl ?_)
  refine Awp.loop (fun i : Nat => ⟨25, [(6, .i .i64 i), (1, .i .i64 n), (2, .ptr 2 b2 [] 0), (4, .ptr 4 b4 [] 0), (5, .ptr 5 b5 [] 0)], [(2, .var b2 (labA l)), (4, .var b4 (.arr 1 32 (List.replicate 32 (.i .u8 0)))), (5, .var b5 (labA (cutL l i)))]⟩) (fun i => i ≤ m) (fun i => m - i) [] 0 (Nat.zero_le _) ?_ ?_
  · exact ⟨rfl, ⟨sle_i rfl, sle_i rfl, sle_ptr, sle_ptr, sle_ptr, True.intro⟩, HLe.cons 2 rfl (HOLe.refl _) (HLe.cons 4 rfl (HOLe.refl _) (HLe.cons 5 rfl (HOLe.var (CLe.of_eq (by rw [cut_zero]; rfl))) .nil))⟩
  intro i hi
  by_cases hlt : i < m
  · obtain ⟨g1, g2⟩ := (hm2 i).1 hlt
    have hc := cutL_len l i hl (by omega)
    have hz : bitL (cutL l i) i = 0 := by rw [cut_bit l hl i i (by omega), if_neg (by omega)]
    have h1 := rbit_spec l hl i (by omega)
    have h2 := rset_spec (cutL l i) hc i (by omega) hz
    have hs := cut_succ l hl i (by omega)
    have hi1 : ((i : Int) + 1 = ((i + 1 : Nat) : Int)) := by omega
    clear hz hc
    generalize cutL l i = c at h2 hs ⊢
    generalize bitOn c i = d at h2 hs ⊢
    have hb := bitL_or l i
    generalize bitL l i = b at h1 hs hb
    rcases hb with rfl | rfl
    · rw [if_neg (by decide)] at hs
      subst hs
      repeat' (first | refine Awp.seq ?_ | refine Awp.block ?_ | refine Awp.region ?_ | refine Ops.nil (nqA ?_) | refine Ops.nil (nqX ?_) | refine Awp.skip (nqA ?_) | (refine o_add rfl rfl rfl rfl ?_ ?_; omega) | (refine o_calm rfl TtOk rfl rfl rfl ?_ (fun _ => ?_); exact nd) | (fail_if_success (refine o_isLit rfl (by first | exact .inl rfl | exact .inr rfl) ?_)); (refine o_splitP rfl rfl (fun hc => ?_) (fun hc => ?_) <;> try (exfalso; omega)) | refine a_condF rfl ?_ | (refine a_condP rfl (fun hc => ?_) (fun hc => ?_)) <;> (try (exfalso; omega)) | refine o_callE rfl (h1) ⟨nqS, nqS, True.intro⟩ rfl ?_)
      exact ⟨i + 1, [], hlt, by omega, rfl, ⟨sle_i hi1, sle_i rfl, sle_ptr, sle_ptr, sle_ptr, True.intro⟩, HLe.cons 2 rfl (HOLe.refl _) (HLe.cons 4 rfl (HOLe.refl _) (HLe.cons 5 rfl (HOLe.var (CLe.of_eq rfl)) .nil))⟩
    · rw [if_pos rfl] at hs
      subst hs
      repeat' (first | refine Awp.seq ?_ | refine Awp.block ?_ | refine Awp.region ?_ | refine Ops.nil (nqA ?_) | refine Ops.nil (nqX ?_) | refine Awp.skip (nqA ?_) | (refine o_add rfl rfl rfl rfl ?_ ?_; omega) | (refine o_calm rfl TtOk rfl rfl rfl ?_ (fun _ => ?_); exact nd) | refine o_store TtOk rfl rfl rfl rfl rfl rfl rfl ⟨rfl, rfl⟩ rfl rfl rfl rfl rfl ?_ | (fail_if_success (refine o_isLit rfl (by first | exact .inl rfl | exact .inr rfl) ?_)); (refine o_splitP rfl rfl (fun hc => ?_) (fun hc => ?_) <;> try (exfalso; omega)) | refine a_condT rfl ?_ | (refine a_condP rfl (fun hc => ?_) (fun hc => ?_)) <;> (try (exfalso; omega)) | refine o_callE rfl (h1) ⟨nqS, nqS, True.intro⟩ rfl ?_ | refine o_callE rfl (h2) ⟨nqS, nqS, True.intro⟩ rfl ?_)
      exact ⟨i + 1, [], hlt, by omega, rfl, ⟨sle_i hi1, sle_i rfl, sle_ptr, sle_ptr, sle_ptr, True.intro⟩, HLe.cons 2 rfl (HOLe.refl _) (HLe.cons 4 rfl (HOLe.refl _) (HLe.cons 5 rfl (HOLe.var (CLe.of_eq rfl)) .nil))⟩
  · have hie : i = m := by omega
    have hnn : ¬ ((i : Int) < n ∧ (i : Int) < 256) := fun h => hlt ((hm2 i).2 h)
    subst hie
    generalize cutL l i = c
    repeat' (first | refine Awp.seq ?_ | refine Awp.region ?_ | refine Ops.nil (nqA ?_) | refine Awp.exit (nqA ?_) | refine Awp.ret (nqE ?_) | refine o_noT rfl rfl rfl ?_ | (refine o_calm rfl TtOk rfl rfl rfl ?_ (fun _ => ?_); exact nd) | refine o_store TtOk rfl rfl rfl rfl rfl rfl rfl ⟨rfl, rfl⟩ rfl rfl rfl rfl rfl ?_ | (fail_if_success (refine o_isLit rfl (by first | exact .inl rfl | exact .inr rfl) ?_)); (refine o_splitP rfl rfl (fun hc => ?_) (fun hc => ?_) <;> try (exfalso; omega)) | refine a_condF rfl ?_ | (refine a_condP rfl (fun hc => ?_) (fun hc => ?_)) <;> (try (exfalso; omega)))
    all_goals
      refine end_all [] [] (labA c) rfl ?_ ?_ (rle_one (CLe.of_eq rfl) rfl) .nil ⟨rfl, rfl⟩ _ (.inl rfl)
      · exact nq1
      · exact ⟨trivial, trivial⟩
theorem rgood1_spec (n : Int) (l : List UInt8) (hl : l.length = 32) : Spec Tryz.prog 196 [.i .i64 n, labA l] [] (fun v os => v = .b (goodP ⟨n, l⟩) ∧ os = []) := by
  refine spec_of TtOk [] Tryz.func196 rfl Tryz.ntmps196 (by kernel_rfl) rfl rfl (fun C => ?_) rfl
  have hcu := rcut_spec l hl n
  by_cases hn : 0 ≤ n ∧ n ≤ 256
  · have hcl : clamp n = n.toNat := by unfold clamp; omega
    rw [hcl] at hcu
    have hg : goodP ⟨n, l⟩ = (cutL l n.toNat == l) := by unfold goodP; rw [decide_eq_true hn.1, decide_eq_true hn.2]; rfl
    rw [hg]
    generalize cutL l n.toNat = c at hcu
    repeat' (first | refine Awp.seq ?_ | refine Awp.region ?_ | refine Ops.nil (nqA ?_) | refine Awp.ret (nqE ?_) | (refine o_calm rfl TtOk rfl rfl rfl ?_ (fun _ => ?_); exact nd) | refine o_box (d := 3) rfl rfl rfl rfl (fun b3 => ?_) | refine o_eqArr8 TtOk rfl rfl rfl rfl rfl rfl (by kernel_rfl) ?_ | (fail_if_success (refine o_isLit rfl (by first | exact .inl rfl | exact .inr rfl) ?_)); (refine o_splitP rfl rfl (fun hc => ?_) (fun hc => ?_) <;> try (exfalso; omega)) | refine a_any 1 [] [] [] [0, 1, 2, 3, 4, 5, 6, 8, 7, 10, 9, 11, 12, 13] (by kernel_rfl) (by kernel_rfl) (by kernel_rfl) rfl rfl rfl ?_ | refine o_callE rfl (hcu) ⟨nqS, nqS, True.intro⟩ rfl ?_)
    exact nq2
  · have hg : goodP ⟨n, l⟩ = false := by
      unfold goodP
      by_cases h0 : 0 ≤ n
      · rw [decide_eq_true h0, decide_eq_false (by show ¬ n ≤ 256; omega)]; rfl
      · rw [decide_eq_false (by show ¬ 0 ≤ n; omega)]; rfl
    rw [hg]
    repeat' (first | refine Awp.seq ?_ | refine Awp.region ?_ | refine Ops.nil (nqA ?_) | refine Awp.ret (nqE ?_) | refine o_noT rfl rfl rfl ?_ | (refine o_calm rfl TtOk rfl rfl rfl ?_ (fun _ => ?_); exact nd) | refine o_box (d := 3) rfl rfl rfl rfl (fun b3 => ?_) | (fail_if_success (refine o_isLit rfl (by first | exact .inl rfl | exact .inr rfl) ?_)); (refine o_splitP rfl rfl (fun hc => ?_) (fun hc => ?_) <;> try (exfalso; omega)) | refine a_any 1 [] [] [] [0, 1, 2, 3, 4, 5, 6, 8, 7, 10, 9, 11, 12, 13] (by kernel_rfl) (by kernel_rfl) (by kernel_rfl) rfl rfl rfl ?_)
    all_goals exact nq2
end Go.Proofs.YtcmgpkibjdbonaaGreat
set_option maxHeartbeats 8000000
set_option maxRecDepth 100000
namespace Go.Proofs.YtcmgpkibjdbonaaGreat
open Go Go.RowKit
end Go.Proofs.YtcmgpkibjdbonaaGreat
set_option maxHeartbeats 4000000
namespace Go.Proofs.YtcmgpkibjdbonaaGreat
open Go Go.RowKit
def okW (x : Int) : Prop := 0 ≤ x ∧ x < 4294967296
def bvW (x : Int) : BitVec 32 := BitVec.ofInt 32 x
def ivW (v : BitVec 32) : Int := ((v.toNat : Nat) : Int)
def be4R (a b c d : UInt8) : Int := w32 (w32 (w32 (shl32 (w32 (w32 (a.toNat : Int) * 1)) 24 + shl32 (w32 (w32 (b.toNat : Int) * 1)) 16) + shl32 (w32 (w32 (c.toNat : Int) * 1)) 8) + w32 (d.toNat : Int))
def rnR (v : V8) (k w : Int) : V8 :=
  let p := w32 (w32 (w32 (w32 (v.h + xorI (xorI (rotr v.e 6) (rotr v.e 11)) (rotr v.e 25)) + orI (andI v.e v.f) (andI (w32 (4294967295 - v.e)) v.g)) + k) + w)
  ⟨w32 (w32 (p + xorI (xorI (rotr v.a 2) (rotr v.a 13)) (rotr v.a 22)) + orI (orI (andI v.a v.b) (andI v.a v.c)) (andI v.b v.c)), v.a, v.b, v.c, w32 (v.d + p), v.e, v.f, v.g⟩
def V8.okE (v : V8) : Prop := okW v.e ∧ okW v.d ∧ okW v.c ∧ okW v.b ∧ okW v.a
structure V8.ok (v : V8) : Prop where
  a : okW v.a
  b : okW v.b
  c : okW v.c
  d : okW v.d
  e : okW v.e
end Go.Proofs.YtcmgpkibjdbonaaGreat
set_option maxHeartbeats 16000000
set_option maxRecDepth 100000
namespace Go.Proofs.YtcmgpkibjdbonaaGreat
open Go Go.RowKit
section
variable {m : OM} {P : Program} {T : List (Nat × TI)} {C : Ctx} {ops : Array Oper} {l : List Oper} {K : St → Prop} {n : Nat} {sl : List (Nat × AV)} {hp : List (Nat × HO)} {d : Nat} {ty : Nat} {pos : String} {aft : Array Edge} {gd : Option (Nat × Bool)}
end
end Go.Proofs.YtcmgpkibjdbonaaGreat
set_option maxHeartbeats 16000000
set_option maxRecDepth 100000
namespace Go.Proofs.YtcmgpkibjdbonaaGreat
open Go Go.RowKit
end Go.Proofs.YtcmgpkibjdbonaaGreat
set_option maxHeartbeats 32000000
set_option maxRecDepth 100000
namespace Go.Proofs.YtcmgpkibjdbonaaGreat
open Go Go.RowKit
end Go.Proofs.YtcmgpkibjdbonaaGreat
set_option maxHeartbeats 8000000
set_option maxRecDepth 100000
namespace Go.Proofs.YtcmgpkibjdbonaaGreat
open Go Go.RowKit
/-- An item as the document's. -/
def Itm.R (x : Itm) : AV := .agg [.i .i64 x.n, labA x.l, labA x.s, .i .i64 x.t]
def egt (U : Nat) : Nat → List UInt8
  | 0 => []
  | i + 1 => UInt8.ofNat (U / 256 ^ i % 256) :: egt U i
def u64N (n : Int) : Nat := (IntKind.u64.wrap n).toNat
theorem rgood15_spec (x : Itm) (hx : x.ok) : Spec Tryz.prog 121 [x.R] [] (fun v os => v = .b (goodI x) ∧ os = []) := by
  have h1 := rgood1_spec x.n x.l hx.1
  have hg : goodI x = (goodP ⟨x.n, x.l⟩ && (decide (0 ≤ x.t) && decide (x.t ≤ 1073741824))) := rfl
  rw [hg]
  generalize goodP ⟨x.n, x.l⟩ = g at h1
  obtain ⟨n, l, s, t⟩ := x
  dsimp only at h1 ⊢
  show Spec Tryz.prog 121 [.agg [.i .i64 n, labA l, labA s, .i .i64 t]] [] _
  refine spec_of TtOk [] Tryz.func121 rfl Tryz.ntmps121 (by kernel_rfl) rfl rfl (fun C => ?_) rfl
  cases g
  · repeat' (first | refine Awp.seq ?_ | refine Awp.region ?_ | refine Ops.nil (nqA ?_) | refine Awp.ret (nqE ?_) | refine o_noT rfl rfl rfl ?_ | (refine o_calm rfl TtOk rfl rfl rfl ?_ (fun _ => ?_); exact nd) | refine o_box (d := 1) rfl rfl rfl rfl (fun b1 => ?_) | refine o_callE rfl (h1) ⟨nqS, nqS, True.intro⟩ rfl ?_)
    exact nq2
  · by_cases ht : 0 ≤ t
    · rw [decide_eq_true ht]
      repeat' (first | refine Awp.seq ?_ | refine Awp.region ?_ | refine Ops.nil (nqA ?_) | refine Awp.ret (nqE ?_) | (refine o_calm rfl TtOk rfl rfl rfl ?_ (fun _ => ?_); exact nd) | refine o_box (d := 1) rfl rfl rfl rfl (fun b1 => ?_) | (fail_if_success (refine o_isLit rfl (by first | exact .inl rfl | exact .inr rfl) ?_)); (refine o_splitP rfl rfl (fun hc => ?_) (fun hc => ?_) <;> try (exfalso; omega)) | refine o_callE rfl (h1) ⟨nqS, nqS, True.intro⟩ rfl ?_)
      exact nq2
    · rw [decide_eq_false ht]
      repeat' (first | refine Awp.seq ?_ | refine Awp.region ?_ | refine Ops.nil (nqA ?_) | refine Awp.ret (nqE ?_) | refine o_noT rfl rfl rfl ?_ | (refine o_calm rfl TtOk rfl rfl rfl ?_ (fun _ => ?_); exact nd) | refine o_box (d := 1) rfl rfl rfl rfl (fun b1 => ?_) | (fail_if_success (refine o_isLit rfl (by first | exact .inl rfl | exact .inr rfl) ?_)); (refine o_splitP rfl rfl (fun hc => ?_) (fun hc => ?_) <;> try (exfalso; omega)) | refine o_callE rfl (h1) ⟨nqS, nqS, True.intro⟩ rfl ?_)
      exact nq2
def overR (a b : Itm) : Bool := decide (a.n ≤ b.n) && decide ((comL a.l b.l : Nat) ≥ a.n)
theorem told15_spec (x : Itm) : Spec Tryz.prog 74 [x.A] [] (fun v os => v = x.R ∧ os = []) := by
  obtain ⟨n, l, s, t⟩ := x
  show Spec Tryz.prog 74 [.agg [pfxA n l, labA s, .i .i64 t]] [] (fun v os => v = .agg [.i .i64 n, labA l, labA s, .i .i64 t] ∧ os = [])
  refine spec_of TtOk [] Tryz.func74 rfl Tryz.ntmps74 (by kernel_rfl) rfl rfl (fun C => ?_) rfl
  repeat' (first | refine Awp.seq ?_ | refine Awp.region ?_ | refine Ops.nil (nqA ?_) | refine Awp.ret (nqE ?_) | (refine o_calm rfl TtOk rfl rfl rfl ?_ (fun _ => ?_); exact nd) | refine o_alloc (d := 2) rfl TtOk rfl rfl rfl (fun b2 => ?_) | refine o_box (d := 1) rfl rfl rfl rfl (fun b1 => ?_) | refine o_store TtOk rfl rfl rfl rfl rfl rfl rfl ⟨rfl, rfl⟩ rfl rfl rfl rfl rfl ?_ | refine o_build TtOk rfl rfl rfl rfl rfl rfl nq1 ?_)
  refine end_all [] [] (.agg [.i .i64 n, labA l, labA s, .i .i64 t]) rfl ?_ ?_ (rle_one (CLe.of_eq rfl) rfl) .nil ⟨rfl, rfl⟩ _ (.inl rfl)
  · exact nq1
  · exact ⟨trivial, trivial⟩
end Go.Proofs.YtcmgpkibjdbonaaGreat
set_option maxHeartbeats 8000000
set_option maxRecDepth 100000
namespace Go.Proofs.YtcmgpkibjdbonaaGreat
open Go Go.RowKit
/-- The least that is in common with the first one, of so many. -/
def minC (l : List Itm) (i : Nat) : Nat := if i = 0 then 256 else comL (l.headD default).l ((l.getD (i - 1) default).l)
theorem filt_lo {l : List Itm} (hr : RiseI l) (hok : ∀ x ∈ l, x.ok) (h2 : 2 ≤ l.length) : l.filter (fun x => bitL x.l (frkI l) == 0) = l.take (splI l) ∧ l.filter (fun x => !(bitL x.l (frkI l) == 0)) = l.drop (splI l) := by
  obtain ⟨c1, c2, c3, c4⟩ := spl_ok hr hok h2
  have hlo : ∀ x ∈ l.take (splI l), bitL x.l (frkI l) = 0 := fun x hx => by
    obtain ⟨j, hj, rfl⟩ := List.getElem_of_mem hx
    rw [List.length_take] at hj
    rw [List.getElem_take]
    exact spl_lo j (by omega) (by omega)
  have hhi : ∀ x ∈ l.drop (splI l), bitL x.l (frkI l) = 1 := fun x hx => by
    obtain ⟨j, hj, rfl⟩ := List.getElem_of_mem hx
    rw [List.length_drop] at hj
    rw [List.getElem_drop]
    exact spl_hi hr hok h2 _ (by omega) (by omega)
  generalize frkI l = n at *
  generalize splI l = s at *
  have e : l = l.take s ++ l.drop s := (List.take_append_drop s l).symm
  constructor
  · conv => lhs; rw [e]
    rw [List.filter_append, List.filter_eq_self.2 (fun x hx => by rw [hlo x hx]; rfl), List.filter_eq_nil_iff.2 (fun x hx => by rw [hhi x hx]; decide), List.append_nil]
  · conv => lhs; rw [e]
    rw [List.filter_append, List.filter_eq_nil_iff.2 (fun x hx => by rw [hlo x hx]; decide), List.filter_eq_self.2 (fun x hx => by rw [hhi x hx]; rfl), List.nil_append]
end Go.Proofs.YtcmgpkibjdbonaaGreat
set_option maxHeartbeats 4000000
namespace Go.Proofs.YtcmgpkibjdbonaaGreat
open Go Go.RowKit
end Go.Proofs.YtcmgpkibjdbonaaGreat
set_option maxHeartbeats 4000000
namespace Go.Proofs.YtcmgpkibjdbonaaGreat
open Go Go.RowKit
def lo (d : Nat) (l : List Itm) : List Itm := l.filter (fun x => bitL x.l d == 0)
def hi (d : Nat) (l : List Itm) : List Itm := l.filter (fun x => !(bitL x.l d == 0))
def trJ : Nat → Nat → List Itm → Itm
  | 0, _, l => if l.length ≤ 1 then l.headD default else default
  | f + 1, d, l => if l.length ≤ 1 then l.headD default else if lo d l = [] then trJ f (d + 1) l else if hi d l = [] then trJ f (d + 1) l else innI (trJ f (d + 1) (lo d l)) (trJ f (d + 1) (hi d l))
theorem joinF_fuel : ∀ (k k' : Nat) (l : List Itm), l ≠ [] → l.length ≤ k → l.length ≤ k' → RiseI l → (∀ x ∈ l, x.ok) → joinF k l = joinF k' l
  | 0, _, l, hn, hk, _, _, _ => absurd (List.length_eq_zero_iff.1 (by omega)) hn
  | _ + 1, 0, l, hn, _, hk, _, _ => absurd (List.length_eq_zero_iff.1 (by omega)) hn
  | k + 1, k' + 1, l, hn, h1, h2, hr, hok => by
    unfold joinF
    by_cases hl : l.length = 1
    · rw [if_pos hl, if_pos hl]
    rw [if_neg hl, if_neg hl]
    have hp : 0 < l.length := List.length_pos_iff.2 hn
    obtain ⟨_, s1, s2, _⟩ := spl_ok hr hok (by omega)
    rw [joinF_fuel k k' _ (take_ne s1 s2) (by rw [List.length_take]; omega) (by rw [List.length_take]; omega) (hr.sublist (List.take_sublist ..)) (fun x hx => hok x (List.mem_of_mem_take hx)),
      joinF_fuel k k' _ (drop_ne s2) (by rw [List.length_drop]; omega) (by rw [List.length_drop]; omega) (hr.sublist (List.drop_sublist ..)) (fun x hx => hok x (List.mem_of_mem_drop hx))]
theorem frk_ge {l : List Itm} (hok : ∀ x ∈ l, x.ok) (h0 : 0 < l.length) {d : Nat} (hd : d ≤ 256) (h : ∀ x ∈ l, ∀ i, i < d → bitL x.l i = bitL l[0].l i) : d ≤ frkI l := by
  rw [frk_eq h0]
  have hm := List.getElem_mem (show l.length - 1 < l.length by omega)
  exact (com_ge (hok _ (List.getElem_mem h0)).1 (hok _ hm).1 hd).2 (fun i hi => (h _ hm i hi).symm)
theorem all_lo {l : List Itm} {d : Nat} (h : ∀ x ∈ l, bitL x.l d = 0) : lo d l = l ∧ hi d l = [] :=
  ⟨List.filter_eq_self.2 (fun x hx => by rw [h x hx]; rfl), List.filter_eq_nil_iff.2 (fun x hx => by rw [h x hx]; decide)⟩
theorem all_hi {l : List Itm} {d : Nat} (h : ∀ x ∈ l, bitL x.l d = 1) : hi d l = l ∧ lo d l = [] :=
  ⟨List.filter_eq_self.2 (fun x hx => by rw [h x hx]; rfl), List.filter_eq_nil_iff.2 (fun x hx => by rw [h x hx]; decide)⟩
theorem trJ_join : ∀ (f d : Nat) (l : List Itm) (h0 : 0 < l.length), d + f = 256 → RiseI l → (∀ x ∈ l, x.ok) → (∀ x ∈ l, ∀ i, i < d → bitL x.l i = bitL l[0].l i) → trJ f d l = joinF l.length l
  | 0, d, l, h0, hd, hr, hok, hb => by
    have hf := frk_ge hok h0 (d := d) (by omega) hb
    have h1 : l.length ≤ 1 := by
      rcases Nat.lt_or_ge 1 l.length with h | h
      · have := (spl_ok hr hok (by omega)).1; omega
      · exact h
    obtain ⟨k, hk⟩ : ∃ k, l.length = k + 1 := ⟨l.length - 1, by omega⟩
    unfold trJ
    rw [if_pos h1, hk]
    unfold joinF
    rw [if_pos (by omega)]
  | f + 1, d, l, h0, hd, hr, hok, hb => by
    obtain ⟨k, hk⟩ : ∃ k, l.length = k + 1 := ⟨l.length - 1, by omega⟩
    by_cases h1 : l.length ≤ 1
    · unfold trJ
      rw [if_pos h1, hk]
      unfold joinF
      rw [if_pos (by omega)]
    have hf := frk_ge hok h0 (d := d) (by omega) hb
    rcases Nat.eq_or_lt_of_le hf with he | hlt
    · obtain ⟨f1, f2⟩ := filt_lo hr hok (by omega)
      obtain ⟨c1, c2, c3, _⟩ := spl_ok hr hok (by omega)
      have hA : lo d l = l.take (splI l) := by unfold lo; rw [he]; exact f1
      have hB : hi d l = l.drop (splI l) := by unfold hi; rw [he]; exact f2
      have k1 : ∀ x ∈ l.take (splI l), x.ok := fun x hx => hok x (List.mem_of_mem_take hx)
      have k2 : ∀ x ∈ l.drop (splI l), x.ok := fun x hx => hok x (List.mem_of_mem_drop hx)
      have r1 : RiseI (l.take (splI l)) := hr.sublist (List.take_sublist ..)
      have r2 : RiseI (l.drop (splI l)) := hr.sublist (List.drop_sublist ..)
      have n1 := take_ne c2 c3
      have n2 := drop_ne c3
      have p1 : 0 < (l.take (splI l)).length := List.length_pos_iff.2 n1
      have p2 : 0 < (l.drop (splI l)).length := List.length_pos_iff.2 n2
      have bA : ∀ x ∈ l.take (splI l), bitL x.l d = 0 := fun x hx => by
        rw [← hA] at hx
        exact beq_iff_eq.1 (List.mem_filter.1 hx).2
      have bB : ∀ x ∈ l.drop (splI l), bitL x.l d = 1 := fun x hx => by
        rw [← hB] at hx
        have h2 := (List.mem_filter.1 hx).2
        rcases bitL_or x.l d with h3 | h3
        · rw [h3] at h2; exact absurd h2 (by decide)
        · exact h3
      have hbA : ∀ x ∈ l.take (splI l), ∀ i, i < d + 1 → bitL x.l i = bitL (l.take (splI l))[0].l i := fun x hx i hi => by
        rcases Nat.lt_or_ge i d with h3 | h3
        · rw [hb x (List.mem_of_mem_take hx) i h3, hb _ (List.mem_of_mem_take (List.getElem_mem p1)) i h3]
        · have : i = d := by omega
          subst this
          rw [bA x hx, bA _ (List.getElem_mem p1)]
      have hbB : ∀ x ∈ l.drop (splI l), ∀ i, i < d + 1 → bitL x.l i = bitL (l.drop (splI l))[0].l i := fun x hx i hi => by
        rcases Nat.lt_or_ge i d with h3 | h3
        · rw [hb x (List.mem_of_mem_drop hx) i h3, hb _ (List.mem_of_mem_drop (List.getElem_mem p2)) i h3]
        · have : i = d := by omega
          subst this
          rw [bB x hx, bB _ (List.getElem_mem p2)]
      unfold trJ
      rw [if_neg h1, hA, hB, if_neg n1, if_neg n2, trJ_join f (d + 1) _ p1 (by omega) r1 k1 hbA, trJ_join f (d + 1) _ p2 (by omega) r2 k2 hbB]
      have hj : joinF l.length l = innI (joinF k (l.take (splI l))) (joinF k (l.drop (splI l))) := by
        rw [hk]
        show (if l.length = 1 then _ else _) = _
        rw [if_neg (by omega)]
      rw [hj, joinF_fuel k _ _ n1 (by rw [List.length_take]; omega) (Nat.le_refl _) r1 k1, joinF_fuel k _ _ n2 (by rw [List.length_drop]; omega) (Nat.le_refl _) r2 k2]
    · have hsame : ∀ x ∈ l, bitL x.l d = bitL l[0].l d := fun x hx => by
        obtain ⟨j, hj, rfl⟩ := List.getElem_of_mem hx
        exact rise_bits hr hok h0 j hj d hlt
      have hb2 : ∀ x ∈ l, ∀ i, i < d + 1 → bitL x.l i = bitL l[0].l i := fun x hx i hi => by
        rcases Nat.lt_or_ge i d with h3 | h3
        · exact hb x hx i h3
        · have : i = d := by omega
          subst this; exact hsame x hx
      have ih := trJ_join f (d + 1) l h0 (by omega) hr hok hb2
      have hne : l ≠ [] := List.length_pos_iff.1 h0
      unfold trJ
      rw [if_neg h1]
      rcases bitL_or l[0].l d with h3 | h3
      · obtain ⟨e1, e2⟩ := all_lo (d := d) (fun x hx => by rw [hsame x hx, h3])
        rw [e1, if_neg hne, if_pos e2]; exact ih
      · obtain ⟨e1, e2⟩ := all_hi (d := d) (fun x hx => by rw [hsame x hx, h3])
        rw [if_pos e2]; exact ih
end Go.Proofs.YtcmgpkibjdbonaaGreat
set_option maxHeartbeats 16000000
set_option maxRecDepth 100000
namespace Go.Proofs.YtcmgpkibjdbonaaGreat
open Go Go.RowKit
def openF : Nat → List (List UInt8) → List Lef → List Itm × List Lef
  | 0, _, _ => ([], [])
  | k + 1, ls, l => if l = [] then ([], []) else if ls.any (hasP (joinF l.length (l.map leafI)).p) = false then ([joinF l.length (l.map leafI)], []) else if l.length = 1 then ([], l)
    else ((openF k ls (l.take (splI (l.map leafI)))).1 ++ (openF k ls (l.drop (splI (l.map leafI)))).1, (openF k ls (l.take (splI (l.map leafI)))).2 ++ (openF k ls (l.drop (splI (l.map leafI)))).2)
def cvA (ls : List (List UInt8)) (b1 b2 b3 : Nat) : List AV := [.cp (.sl 32 (ls.map labA)), .ptr 0 b1 [] 0, .ptr 2 b2 [] 0, .ptr 4 b3 [] 0]
def Tf : List (Nat × TI) := [(214, ⟨.func, 1, 8, .nilf⟩)]
end Go.Proofs.YtcmgpkibjdbonaaGreat
