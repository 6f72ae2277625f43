/- Closures that are handed blocks; method values (a bound first argument). -/
import Derived.Test.YtcmgpkibjdbonaaGreatV26Z
import Derived.Test.YtcmgpkibjdbonaaGreatG6Z
set_option maxHeartbeats 4000000
namespace Go.Proofs.YtcmgpkibjdbonaaGreat
open Go Go.RowKit
section
variable {m : OM} {P : Program} {T : List (Nat × TI)} {C : Ctx} {ops : Array Oper} {l : List Oper} {K : St → Prop} {n : Nat} {sl : List (Nat × AV)} {hp : List (Nat × HO)} {d : Nat} {ty : Nat} {pos : String} {aft : Array Edge} {gd : Option (Nat × Bool)}
end
end Go.Proofs.YtcmgpkibjdbonaaGreat
set_option maxHeartbeats 8000000
set_option maxRecDepth 100000
namespace Go.Proofs.YtcmgpkibjdbonaaGreat
open Go Go.RowKit
theorem argsLe_same {fr : Fr} : ∀ xs : List AV, argsLe fr xs xs
  | [] => True.intro
  | _ :: xs => ⟨nqS, argsLe_same xs⟩
theorem ixI_spec (l : List Itm) (f : Nat) (caps : List AV) (ho : caps.all isOne = true) (p : Itm → Bool) (hf : ∀ x ∈ l, Spec Tryz.prog f ([x.A] ++ caps) [] (fun v os => v = .b (p x) ∧ os = [])) (hl : l.length ≤ 100000) :
    Spec Tryz.prog 204 [.sl 66 (l.map Itm.A), .fn (.func f) caps] [] (fun v os => v = .i .i64 (if l.any p = true then (l.findIdx p : Nat) else -1) ∧ os = []) := by
  refine spec_of TtOk [] Tryz.func204 rfl Tryz.ntmps204 (by kernel_rfl) rfl rfl (fun C => ?_) rfl
  repeat' (first | refine Awp.seq ?_ | refine Awp.block ?_ | refine Awp.region ?_ | refine Ops.nil (nqA ?_) | refine o_len rfl TtOk rfl rfl rfl (fun _ => ?_) | (refine o_calm rfl TtOk rfl rfl rfl ?_ (fun _ => ?_); exact nd))
  refine Awp.loop (fun q : Nat => ⟨19, [(8, .i .i64 q), (7, .i .i64 l.length), (0, .sl 66 (l.map Itm.A)), (1, .fn (.func f) caps)], []⟩) (fun q => q ≤ l.length ∧ ∀ j (h : j < l.length), j < q → p l[j] = false) (fun q => l.length - q) [] 0 ⟨Nat.zero_le _, fun _ _ h => absurd h (Nat.not_lt_zero _)⟩ ?_ ?_
  · exact ⟨rfl, ⟨sle_i rfl, sle_i rfl, sle_sl rfl, nqS, True.intro⟩, .nil⟩
  rintro i ⟨hi, hno⟩
  by_cases hlt : i < l.length
  · have hfx := hf l[i] (List.getElem_mem hlt)
    generalize hpb : p l[i] = pb at hfx
    repeat' (first | refine Awp.seq ?_ | refine Awp.block ?_ | refine Awp.region ?_ | refine Ops.nil (nqA ?_) | refine Ops.nil (nqX ?_) | refine Awp.skip (nqA ?_) | refine Awp.ret (nqE ?_) | (refine o_add rfl rfl rfl rfl ?_ ?_; omega) | (refine o_calm rfl TtOk rfl rfl rfl ?_ (fun _ => ?_); exact nd) | (refine o_index rfl TtOk rfl rfl rfl rfl rfl rfl ?_ (getq_nat ?_) ?_; omega; omega) | (refine a_condP rfl (fun hc => ?_) (fun hc => ?_)) <;> (try (exfalso; omega)) | (refine Awp.cond rfl (fun hc => ?_) (fun hc => ?_)) | (refine o_callClo rfl rfl ho hfx ⟨nqS, argsLe_same _⟩ rfl rfl ?_; rintro _ _ ⟨rfl, rfl⟩; refine ⟨rfl, ?_⟩))
    · have hm : l.any p = true := List.any_eq_true.2 ⟨l[i], List.getElem_mem _, by rw [hpb, hc]⟩
      have hx : l.findIdx p = i := by
        rw [List.findIdx_eq hlt]
        exact ⟨by rw [hpb, hc], fun j hj => hno j (by omega) hj⟩
      refine end_tmp rfl rfl rfl [] [] (CLe.of_eq ?_) .nil ⟨rfl, rfl⟩ _ (.inl rfl)
      rw [if_pos hm, hx]; rfl
    · have hcp : pb = false := hc
      exact ⟨i + 1, [], ⟨hlt, fun j h hj => by
        rcases Nat.lt_succ_iff_lt_or_eq.1 hj with h2 | rfl
        · exact hno j h h2
        · rw [hpb, hcp]⟩, by show l.length - (i + 1) < l.length - i; omega, rfl, ⟨sle_i rfl, sle_i rfl, sle_sl rfl, nqS, True.intro⟩, .nil⟩
  · have hm : ¬ l.any p = true := by
      intro h
      obtain ⟨x, hx, hxp⟩ := List.any_eq_true.1 h
      obtain ⟨j, hj, rfl⟩ := List.getElem_of_mem hx
      rw [hno j hj (by omega)] at hxp; cases hxp
    rw [if_neg hm]
    repeat' (first | refine Awp.seq ?_ | refine Awp.region ?_ | refine Ops.nil (nqA ?_) | refine Awp.exit (nqA ?_) | refine Awp.ret (nqE ?_) | (refine o_calm rfl TtOk rfl rfl rfl ?_ (fun _ => ?_); exact nd) | (refine a_condP rfl (fun hc => ?_) (fun hc => ?_)) <;> (try (exfalso; omega)))
    exact nq2
theorem ixL_spec (l : List Lef) (f : Nat) (caps : List AV) (ho : caps.all isOne = true) (p : Lef → Bool) (hf : ∀ x ∈ l, Spec Tryz.prog f ([x.A] ++ caps) [] (fun v os => v = .b (p x) ∧ os = [])) (hl : l.length ≤ 100000) :
    Spec Tryz.prog 147 [.sl 65 (l.map Lef.A), .fn (.func f) caps] [] (fun v os => v = .i .i64 (if l.any p = true then (l.findIdx p : Nat) else -1) ∧ os = []) := by
  refine spec_of TtOk [] Tryz.func147 rfl Tryz.ntmps147 (by kernel_rfl) rfl rfl (fun C => ?_) rfl
  repeat' (first | refine Awp.seq ?_ | refine Awp.block ?_ | refine Awp.region ?_ | refine Ops.nil (nqA ?_) | refine o_len rfl TtOk rfl rfl rfl (fun _ => ?_) | (refine o_calm rfl TtOk rfl rfl rfl ?_ (fun _ => ?_); exact nd))
  refine Awp.loop (fun q : Nat => ⟨19, [(8, .i .i64 q), (7, .i .i64 l.length), (0, .sl 65 (l.map Lef.A)), (1, .fn (.func f) caps)], []⟩) (fun q => q ≤ l.length ∧ ∀ j (h : j < l.length), j < q → p l[j] = false) (fun q => l.length - q) [] 0 ⟨Nat.zero_le _, fun _ _ h => absurd h (Nat.not_lt_zero _)⟩ ?_ ?_
  · exact ⟨rfl, ⟨sle_i rfl, sle_i rfl, sle_sl rfl, nqS, True.intro⟩, .nil⟩
  rintro i ⟨hi, hno⟩
  by_cases hlt : i < l.length
  · have hfx := hf l[i] (List.getElem_mem hlt)
    generalize hpb : p l[i] = pb at hfx
    repeat' (first | refine Awp.seq ?_ | refine Awp.block ?_ | refine Awp.region ?_ | refine Ops.nil (nqA ?_) | refine Ops.nil (nqX ?_) | refine Awp.skip (nqA ?_) | refine Awp.ret (nqE ?_) | (refine o_add rfl rfl rfl rfl ?_ ?_; omega) | (refine o_calm rfl TtOk rfl rfl rfl ?_ (fun _ => ?_); exact nd) | (refine o_index rfl TtOk rfl rfl rfl rfl rfl rfl ?_ (getq_nat ?_) ?_; omega; omega) | (refine a_condP rfl (fun hc => ?_) (fun hc => ?_)) <;> (try (exfalso; omega)) | (refine Awp.cond rfl (fun hc => ?_) (fun hc => ?_)) | (refine o_callClo rfl rfl ho hfx ⟨nqS, argsLe_same _⟩ rfl rfl ?_; rintro _ _ ⟨rfl, rfl⟩; refine ⟨rfl, ?_⟩))
    · have hm : l.any p = true := List.any_eq_true.2 ⟨l[i], List.getElem_mem _, by rw [hpb, hc]⟩
      have hx : l.findIdx p = i := by
        rw [List.findIdx_eq hlt]
        exact ⟨by rw [hpb, hc], fun j hj => hno j (by omega) hj⟩
      refine end_tmp rfl rfl rfl [] [] (CLe.of_eq ?_) .nil ⟨rfl, rfl⟩ _ (.inl rfl)
      rw [if_pos hm, hx]; rfl
    · have hcp : pb = false := hc
      exact ⟨i + 1, [], ⟨hlt, fun j h hj => by
        rcases Nat.lt_succ_iff_lt_or_eq.1 hj with h2 | rfl
        · exact hno j h h2
        · rw [hpb, hcp]⟩, by show l.length - (i + 1) < l.length - i; omega, rfl, ⟨sle_i rfl, sle_i rfl, sle_sl rfl, nqS, True.intro⟩, .nil⟩
  · have hm : ¬ l.any p = true := by
      intro h
      obtain ⟨x, hx, hxp⟩ := List.any_eq_true.1 h
      obtain ⟨j, hj, rfl⟩ := List.getElem_of_mem hx
      rw [hno j hj (by omega)] at hxp; cases hxp
    rw [if_neg hm]
    repeat' (first | refine Awp.seq ?_ | refine Awp.region ?_ | refine Ops.nil (nqA ?_) | refine Awp.exit (nqA ?_) | refine Awp.ret (nqE ?_) | (refine o_calm rfl TtOk rfl rfl rfl ?_ (fun _ => ?_); exact nd) | (refine a_condP rfl (fun hc => ?_) (fun hc => ?_)) <;> (try (exfalso; omega)))
    exact nq2
end Go.Proofs.YtcmgpkibjdbonaaGreat
set_option maxHeartbeats 4000000
namespace Go.Proofs.YtcmgpkibjdbonaaGreat
open Go Go.RowKit
theorem bitL_test (x : Nat) (k : Nat) : (x / 2 ^ k) % 2 = (x.testBit k).toNat := by
  rw [Nat.testBit_eq_decide_div_mod_eq]
  rcases Nat.mod_two_eq_zero_or_one (x / 2 ^ k) with h | h <;> rw [h] <;> rfl
theorem bitL_zero (x : UInt8) (a : List UInt8) (i : Nat) (h : i < 8) : bitL (x :: a) i = (x.toNat.testBit (7 - i)).toNat := by
  unfold bitL
  rw [Nat.div_eq_of_lt h, Nat.mod_eq_of_lt h]
  exact bitL_test _ _
theorem bitL_succ (x : UInt8) (a : List UInt8) (i : Nat) : bitL (x :: a) (8 + i) = bitL a i := by
  unfold bitL
  rw [show (8 + i) / 8 = i / 8 + 1 by omega, show (8 + i) % 8 = i % 8 by omega, List.getD_cons_succ]
theorem bitL_or (a : List UInt8) (i : Nat) : bitL a i = 0 ∨ bitL a i = 1 := Nat.mod_two_eq_zero_or_one _
theorem lz_top : ∀ z : Fin 256, z.val ≠ 0 → lz8 8 z.val ≤ 7 ∧ z.val.testBit (7 - lz8 8 z.val) = true ∧ ∀ j : Fin 8, 7 - lz8 8 z.val < j.val → z.val.testBit j.val = false := by decide +kernel
theorem lz_bits (x y : UInt8) (h : xorB x y ≠ 0) : lz8 8 (xorB x y) ≤ 7 ∧ x.toNat.testBit (7 - lz8 8 (xorB x y)) ≠ y.toNat.testBit (7 - lz8 8 (xorB x y)) ∧ ∀ j, 7 - lz8 8 (xorB x y) < j → x.toNat.testBit j = y.toNat.testBit j := by
  obtain ⟨h1, h2, h3⟩ := lz_top ⟨xorB x y, xorB_lt x y⟩ h
  dsimp only at h1 h2 h3
  generalize lz8 8 (xorB x y) = k at h1 h2 h3
  unfold xorB at h2 h3
  refine ⟨h1, ?_, fun j hj => ?_⟩
  · rw [Nat.testBit_xor] at h2
    intro he
    rw [he, Bool.xor_self] at h2
    cases h2
  · by_cases hj8 : j < 8
    · have := h3 ⟨j, hj8⟩ hj
      rw [Nat.testBit_xor] at this
      revert this
      cases x.toNat.testBit j <;> cases y.toNat.testBit j <;> simp
    · have hx : x.toNat < 2 ^ j := Nat.lt_of_lt_of_le x.toNat_lt (Nat.pow_le_pow_right (by decide) (by omega))
      have hy : y.toNat < 2 ^ j := Nat.lt_of_lt_of_le y.toNat_lt (Nat.pow_le_pow_right (by decide) (by omega))
      rw [Nat.testBit_lt_two_pow hx, Nat.testBit_lt_two_pow hy]
theorem xorB_zero {x y : UInt8} (h : xorB x y = 0) : x = y := by
  have : x.toNat = y.toNat := by
    unfold xorB at h
    refine Nat.eq_of_testBit_eq (fun i => ?_)
    have h2 := congrArg (fun z => Nat.testBit z i) h
    rw [Nat.testBit_xor, Nat.zero_testBit] at h2
    revert h2
    cases x.toNat.testBit i <;> cases y.toNat.testBit i <;> simp
  exact UInt8.toNat_inj.1 this
theorem xorB_self (x : UInt8) : xorB x x = 0 := Nat.xor_self _
/-- What two lists of bytes have in common: the bits ahead are the same, the next one is not. -/
theorem com_bits : ∀ a b : List UInt8, a.length = b.length → comL a b ≤ 8 * a.length ∧ (∀ i, i < comL a b → bitL a i = bitL b i) ∧ (comL a b < 8 * a.length → bitL a (comL a b) ≠ bitL b (comL a b)) ∧ (comL a b = 8 * a.length → a = b)
  | [], [], _ => ⟨Nat.le_refl _, fun i h => absurd h (Nat.not_lt_zero _), fun h => absurd h (Nat.lt_irrefl _), fun _ => rfl⟩
  | [], _ :: _, h => by simp at h
  | _ :: _, [], h => by simp at h
  | x :: a, y :: b, h => by
    obtain ⟨i1, i2, i3, i4⟩ := com_bits a b (by simpa using h)
    by_cases hx : xorB x y = 0
    · have hxy := xorB_zero hx
      subst hxy
      have hc : comL (x :: a) (x :: b) = 8 + comL a b := by show (if xorB x x = 0 then _ else _) = _; rw [if_pos hx]
      rw [hc, List.length_cons]
      refine ⟨by omega, fun i hi => ?_, fun hlt => ?_, fun he => ?_⟩
      · by_cases h8 : i < 8
        · rw [bitL_zero _ _ _ h8, bitL_zero _ _ _ h8]
        · rw [show i = 8 + (i - 8) by omega, bitL_succ, bitL_succ]
          exact i2 _ (by omega)
      · rw [bitL_succ, bitL_succ]
        exact i3 (by omega)
      · rw [i4 (by omega)]
    · have hc : comL (x :: a) (y :: b) = lz8 8 (xorB x y) := by show (if xorB x y = 0 then _ else _) = _; rw [if_neg hx]
      obtain ⟨h1, h2, h3⟩ := lz_bits x y hx
      rw [hc, List.length_cons]
      generalize lz8 8 (xorB x y) = k at h1 h2 h3
      refine ⟨by omega, fun i hi => ?_, fun _ => ?_, fun he => by omega⟩
      · rw [bitL_zero _ _ _ (by omega), bitL_zero _ _ _ (by omega), h3 _ (by omega)]
      · rw [bitL_zero _ _ _ (by omega), bitL_zero _ _ _ (by omega)]
        revert h2
        cases x.toNat.testBit (7 - k) <;> cases y.toNat.testBit (7 - k) <;> simp
theorem lt_tb {n m : Nat} (i : Nat) (hn : n.testBit i = false) (hm : m.testBit i = true) (h : ∀ j, i < j → n.testBit j = m.testBit j) : n < m := by
  have he : n / 2 ^ (i + 1) = m / 2 ^ (i + 1) := Nat.eq_of_testBit_eq (fun j => by rw [Nat.testBit_div_two_pow, Nat.testBit_div_two_pow]; exact h _ (by omega))
  have h1 := bitL_test n i
  have h2 := bitL_test m i
  rw [hn] at h1
  rw [hm] at h2
  have h1 : n / 2 ^ i % 2 = 0 := h1
  have h2 : m / 2 ^ i % 2 = 1 := h2
  rw [Nat.pow_succ, ← Nat.div_div_eq_div_mul, ← Nat.div_div_eq_div_mul] at he
  have hlt : n / 2 ^ i < m / 2 ^ i := by omega
  rcases Nat.lt_or_ge n m with h3 | h3
  · exact h3
  · have := Nat.div_le_div_right (c := 2 ^ i) h3
    omega
theorem less_bits : ∀ a b : List UInt8, a.length = b.length → comL a b < 8 * a.length → (Op.bytesLess a b = true ↔ bitL a (comL a b) = 0)
  | [], [], _, h => absurd h (Nat.not_lt_zero _)
  | [], _ :: _, h, _ => by simp at h
  | _ :: _, [], h, _ => by simp at h
  | x :: a, y :: b, h, hl => by
    have ih := less_bits a b (by simpa using h)
    by_cases hx : xorB x y = 0
    · have hxy := xorB_zero hx
      subst hxy
      have hc : comL (x :: a) (x :: b) = 8 + comL a b := by show (if xorB x x = 0 then _ else _) = _; rw [if_pos hx]
      rw [hc, List.length_cons] at hl
      rw [hc, bitL_succ, ← ih (by omega)]
      simp [Op.bytesLess, UInt8.lt_irrefl]
    · have hc : comL (x :: a) (y :: b) = lz8 8 (xorB x y) := by show (if xorB x y = 0 then _ else _) = _; rw [if_neg hx]
      obtain ⟨h1, h2, h3⟩ := lz_bits x y hx
      rw [hc, bitL_zero _ _ _ (by omega)]
      generalize lz8 8 (xorB x y) = k at h1 h2 h3
      have hne : (x == y) = false := by
        rw [beq_eq_false_iff_ne]
        rintro rfl
        exact hx (xorB_self x)
      simp only [Op.bytesLess, hne, Bool.false_and, Bool.or_false, decide_eq_true_eq, UInt8.lt_iff_toNat_lt]
      cases hb : x.toNat.testBit (7 - k) with
      | false =>
        rw [hb] at h2
        have hy : y.toNat.testBit (7 - k) = true := by cases hq : y.toNat.testBit (7 - k) <;> rw [hq] at h2 <;> simp_all
        exact ⟨fun _ => rfl, fun _ => lt_tb (7 - k) hb hy (fun j hj => h3 j hj)⟩
      | true =>
        rw [hb] at h2
        have hy : y.toNat.testBit (7 - k) = false := by cases hq : y.toNat.testBit (7 - k) <;> rw [hq] at h2 <;> simp_all
        refine ⟨fun hlt => ?_, fun h => absurd h (by decide)⟩
        have := lt_tb (7 - k) hy hb (fun j hj => (h3 j hj).symm)
        omega
theorem com_self : ∀ a : List UInt8, comL a a = 8 * a.length
  | [] => rfl
  | x :: a => by
    show (if xorB x x = 0 then 8 + comL a a else _) = _
    rw [if_pos (xorB_self x), com_self a, List.length_cons]; omega
theorem com_comm : ∀ a b : List UInt8, comL a b = comL b a
  | [], [] => rfl
  | [], _ :: _ => rfl
  | _ :: _, [] => rfl
  | x :: a, y :: b => by
    show (if xorB x y = 0 then 8 + comL a b else lz8 8 (xorB x y)) = (if xorB y x = 0 then 8 + comL b a else lz8 8 (xorB y x))
    rw [com_comm a b, show xorB x y = xorB y x from Nat.xor_comm _ _]
/-- Labels by their bits. -/
theorem bits_eq {a b : List UInt8} (ha : a.length = 32) (hb : b.length = 32) (h : ∀ i, i < 256 → bitL a i = bitL b i) : a = b := by
  obtain ⟨h1, h2, h3, h4⟩ := com_bits a b (by omega)
  rcases Nat.lt_or_ge (comL a b) 256 with hlt | hge
  · exact absurd (h _ hlt) (h3 (by omega))
  · exact h4 (by omega)
/-- The common part is told by the bits. -/
theorem com_ge {a b : List UInt8} (ha : a.length = 32) (hb : b.length = 32) {n : Nat} (hn : n ≤ 256) : n ≤ comL a b ↔ ∀ i, i < n → bitL a i = bitL b i := by
  obtain ⟨h1, h2, h3, h4⟩ := com_bits a b (by omega)
  refine ⟨fun h i hi => h2 i (by omega), fun h => ?_⟩
  rcases Nat.lt_or_ge (comL a b) n with hlt | hge
  · exact absurd (h _ hlt) (h3 (by omega))
  · exact hge
theorem cmp_lt {a b : List UInt8} (ha : a.length = 32) (hb : b.length = 32) (h : cmpS a b < 0) : comL a b < 256 ∧ bitL a (comL a b) = 0 ∧ bitL b (comL a b) = 1 := by
  obtain ⟨h1, h2, h3, h4⟩ := com_bits a b (by omega)
  have hl := cmpS_neg.1 h
  have hlt : comL a b < 256 := by
    rcases Nat.lt_or_ge (comL a b) 256 with hlt | hge
    · exact hlt
    · rw [h4 (by omega), less_irr] at hl; cases hl
  have h5 := (less_bits a b (by omega) (by omega)).1 hl
  have h6 := h3 (by omega)
  refine ⟨hlt, h5, ?_⟩
  rcases bitL_or b (comL a b) with h7 | h7
  · rw [h5, h7] at h6; exact absurd rfl h6
  · exact h7
theorem lt_cmp {a b : List UInt8} (ha : a.length = 32) (hb : b.length = 32) (hc : comL a b < 256) (h : bitL a (comL a b) = 0) : cmpS a b < 0 := cmpS_neg.2 ((less_bits a b (by omega) (by omega)).2 h)
end Go.Proofs.YtcmgpkibjdbonaaGreat
set_option maxHeartbeats 8000000
set_option maxRecDepth 100000
namespace Go.Proofs.YtcmgpkibjdbonaaGreat
open Go Go.RowKit
instance : Inhabited Itm := ⟨⟨0, List.replicate 32 0, List.replicate 32 0, 0⟩⟩
def RiseI (l : List Itm) : Prop := l.Pairwise (fun a b => cmpS a.l b.l < 0)
def frkI (l : List Itm) : Nat := comL (l.headD default).l (l.getLastD default).l
def splI (l : List Itm) : Nat := l.findIdx (fun x => bitL x.l (frkI l) == 1)
def joinF : Nat → List Itm → Itm
  | 0, l => l.headD default
  | k + 1, l => if l.length = 1 then l.headD default else innI (joinF k (l.take (splI l))) (joinF k (l.drop (splI l)))
theorem innI_ok' {x y : Itm} (hx : x.ok) : (innI x y).ok := innI_ok x y hx
theorem headD_get {l : List Itm} (h : 0 < l.length) : l.headD default = l[0] := by cases l with | nil => simp at h | cons x l => rfl
theorem lastD_get {l : List Itm} (h : 0 < l.length) : l.getLastD default = l[l.length - 1]'(by omega) := by
  rw [List.getLastD_eq_getLast?, List.getLast?_eq_getElem?, List.getElem?_eq_getElem (by omega)]; rfl
theorem rise_lt {l : List Itm} (h : RiseI l) {i j : Nat} (hij : i < j) (hj : j < l.length) : cmpS (l[i]'(by omega)).l l[j].l < 0 := List.pairwise_iff_getElem.1 h i j (by omega) hj hij
theorem spl_ok {l : List Itm} (hr : RiseI l) (hok : ∀ x ∈ l, x.ok) (h2 : 2 ≤ l.length) : frkI l < 256 ∧ 0 < splI l ∧ splI l < l.length ∧ l.any (fun x => bitL x.l (frkI l) == 1) = true := by
  have h0 : 0 < l.length := by omega
  have hf : frkI l = comL l[0].l (l[l.length - 1]'(by omega)).l := by unfold frkI; rw [headD_get h0, lastD_get h0]
  obtain ⟨c1, c2, c3⟩ := cmp_lt (hok _ (List.getElem_mem h0)).1 (hok _ (List.getElem_mem (show l.length - 1 < l.length by omega))).1 (rise_lt hr (show 0 < l.length - 1 by omega) (by omega))
  rw [← hf] at c1 c2 c3
  have ha : l.any (fun x => bitL x.l (frkI l) == 1) = true := List.any_eq_true.2 ⟨l[l.length - 1]'(by omega), List.getElem_mem _, by rw [c3]; rfl⟩
  refine ⟨c1, ?_, List.findIdx_lt_length_of_exists (List.any_eq_true.1 ha), ha⟩
  rcases Nat.eq_zero_or_pos (splI l) with hz | hp
  · have h3 : bitL l[0].l (frkI l) ≠ 1 := by rw [c2]; decide
    have h4 : l.findIdx (fun x => bitL x.l (frkI l) == 1) = 0 := hz
    have h5 : (bitL l[0].l (frkI l) == 1) = true := by
      obtain ⟨a, q, rfl⟩ : ∃ a q, l = a :: q := by cases l with | nil => simp at h0 | cons a q => exact ⟨a, q, rfl⟩
      rw [List.findIdx_cons] at h4
      generalize hb : (bitL a.l (frkI (a :: q)) == 1) = b at h4
      cases b
      · cases h4
      · exact hb
    exact absurd (by simpa using h5) h3
  · exact hp
theorem take_ne {l : List Itm} {i : Nat} (hi : 0 < i) (h : i < l.length) : l.take i ≠ [] := fun he => by
  have := congrArg List.length he
  rw [List.length_take, List.length_nil] at this; omega
theorem drop_ne {l : List Itm} {i : Nat} (h : i < l.length) : l.drop i ≠ [] := fun he => by
  have := congrArg List.length he
  rw [List.length_drop, List.length_nil] at this; omega
theorem joinF_ok : ∀ (k : Nat) (l : List Itm), l ≠ [] → l.length ≤ k → RiseI l → (∀ x ∈ l, x.ok) → (joinF k l).ok
  | 0, l, hn, hl, _, _ => absurd (List.length_eq_zero_iff.1 (by omega)) hn
  | k + 1, l, hn, hl, hr, hok => by
    unfold joinF
    split
    · rename_i h1
      rw [headD_get (by omega)]
      exact hok _ (List.getElem_mem _)
    · rename_i h1
      have hp : 0 < l.length := List.length_pos_iff.2 hn
      obtain ⟨_, s1, s2, _⟩ := spl_ok hr hok (by omega)
      refine innI_ok' (joinF_ok k _ (take_ne s1 s2) ?_ (hr.sublist (List.take_sublist ..)) (fun x hx => hok x (List.mem_of_mem_take hx)))
      rw [List.length_take]; omega
theorem join1_spec (n : Nat) (hn : n < 256) (x : Itm) (hx : x.ok) : Spec Tryz.prog 205 ([x.A] ++ [.cp (.i .i64 n)]) [] (fun v os => v = .b (bitL x.l n == 1) ∧ os = []) := by
  have h1 := bit_spec x.l hx.1 n (by omega) (by omega)
  rw [if_pos (by omega), Int.toNat_natCast] at h1
  have hb := bitL_or x.l n
  generalize bitL x.l n = b at h1 hb
  obtain ⟨m, l, s, t⟩ := x
  dsimp only at h1
  show Spec Tryz.prog 205 [.agg [pfxA m l, labA s, .i .i64 t], .cp (.i .i64 n)] [] _
  refine spec_of TtOk [] Tryz.func205 rfl Tryz.ntmps205 (by kernel_rfl) rfl rfl (fun C => ?_) rfl
  repeat' (first | refine Awp.seq ?_ | refine Awp.region ?_ | refine Ops.nil (nqA ?_) | refine Awp.ret (nqE ?_) | (refine o_calm rfl TtOk rfl rfl rfl ?_ (fun _ => ?_); exact nd) | refine o_box (d := 2) rfl rfl rfl rfl (fun b2 => ?_) | refine o_callE rfl (h1) ⟨nqS, nqS, True.intro⟩ rfl ?_)
  refine end_tmp rfl rfl rfl [] [] (CLe.of_eq ?_) .nil ⟨rfl, rfl⟩ _ (.inl rfl)
  refine congrArg AV.b ?_
  rcases hb with rfl | rfl <;> rfl
theorem join_spec : ∀ (k : Nat) (l : List Itm), l ≠ [] → l.length ≤ k → l.length ≤ 100000 → RiseI l → (∀ x ∈ l, x.ok) → Spec Tryz.prog 145 [.sl 66 (l.map Itm.A)] [] (fun v os => v = (joinF k l).A ∧ os = [])
  | 0, l, hn, hl, _, _, _ => absurd (List.length_eq_zero_iff.1 (by omega)) hn
  | k + 1, l, hn, hl, hl2, hr, hok => by
    have hp : 0 < l.length := List.length_pos_iff.2 hn
    unfold joinF
    refine spec_of TtOk [] Tryz.func145 rfl Tryz.ntmps145 (by kernel_rfl) rfl rfl (fun C => ?_) rfl
    by_cases h1 : l.length = 1
    · rw [if_pos h1, headD_get hp]
      repeat' (first | refine Awp.seq ?_ | refine Awp.region ?_ | refine Ops.nil (nqA ?_) | refine Awp.ret (nqE ?_) | refine o_len rfl TtOk rfl rfl rfl (fun _ => ?_) | (refine o_calm rfl TtOk rfl rfl rfl ?_ (fun _ => ?_); exact nd) | refine o_alloc (d := 2) rfl TtOk rfl rfl rfl (fun b2 => ?_) | refine o_store TtOk rfl rfl rfl rfl rfl rfl rfl ⟨rfl, rfl⟩ rfl rfl rfl rfl rfl ?_ | (refine o_index rfl TtOk rfl rfl rfl rfl rfl rfl ?_ (getq_nat ?_) ?_; omega; omega) | (refine a_condP rfl (fun hc => ?_) (fun hc => ?_)) <;> (try (exfalso; omega)))
      refine end_all [] [] (l[0].A) rfl ?_ ?_ (rle_one (CLe.of_eq rfl) rfl) .nil ⟨rfl, rfl⟩ _ (.inl rfl)
      · exact nq1
      · exact ⟨trivial, trivial⟩
    rw [if_neg h1]
    obtain ⟨hf, s1, s2, s3⟩ := spl_ok hr hok (by omega)
    have hj : l.length - 1 < l.length := by omega
    have hcm := bcommon_spec l[0].l l[l.length - 1].l (hok _ (List.getElem_mem hp)).1 (hok _ (List.getElem_mem hj)).1
    have hfe : comL l[0].l l[l.length - 1].l = frkI l := by unfold frkI; rw [headD_get hp, lastD_get hp]
    rw [hfe] at hcm
    have hx := ixI_spec l 205 [.cp (.i .i64 (frkI l : Nat))] rfl (fun x => bitL x.l (frkI l) == 1) (fun x hx => join1_spec _ hf x (hok x hx)) hl2
    rw [if_pos s3] at hx
    have hsp : l.findIdx (fun x => bitL x.l (frkI l) == 1) = splI l := rfl
    rw [hsp] at hx
    have n1 : l.take (splI l) ≠ [] := take_ne s1 s2
    have n2 : l.drop (splI l) ≠ [] := drop_ne s2
    have r1 : RiseI (l.take (splI l)) := hr.sublist (List.take_sublist ..)
    have r2 : RiseI (l.drop (splI l)) := hr.sublist (List.drop_sublist ..)
    have k1 : ∀ x ∈ l.take (splI l), x.ok := fun x hx => hok x (List.mem_of_mem_take hx)
    have k2 : ∀ x ∈ l.drop (splI l), x.ok := fun x hx => hok x (List.mem_of_mem_drop hx)
    have l1 : (l.take (splI l)).length ≤ k := by rw [List.length_take]; omega
    have l2 : (l.drop (splI l)).length ≤ k := by rw [List.length_drop]; omega
    have j1 := join_spec k (l.take (splI l)) n1 l1 (by rw [List.length_take]; omega) r1 k1
    have j2 := join_spec k (l.drop (splI l)) n2 l2 (by rw [List.length_drop]; omega) r2 k2
    have i1 := iitem_spec _ _ (joinF_ok k _ n1 l1 r1 k1) (joinF_ok k _ n2 l2 r2 k2)
    generalize joinF k (l.take (splI l)) = x at j1 i1 ⊢
    generalize joinF k (l.drop (splI l)) = y at j2 i1 ⊢
    clear r1 r2 k1 k2 l1 l2 n1 n2 hsp s3 hfe
    generalize frkI l = c at hcm hx hf
    generalize splI l = i at s1 s2 hx j1 j2
    have ht : l.drop i = (l.take l.length).drop i := by rw [List.take_length]
    rw [ht] at j2
    repeat' (first | (refine a_freezeV 3 3 rfl rfl rfl ?_) | refine Awp.seq ?_ | refine Awp.region ?_ | refine Ops.nil (nqA ?_) | refine Awp.skip (nqA ?_) | refine Awp.ret (nqE ?_) | (refine o_sub rfl rfl rfl rfl ?_ ?_; omega) | refine o_len rfl TtOk rfl rfl rfl (fun _ => ?_) | (refine o_calm rfl TtOk rfl rfl rfl ?_ (fun _ => ?_); exact nd) | refine o_alloc (d := 2) rfl TtOk rfl rfl rfl (fun b2 => ?_) | refine o_alloc (d := 3) rfl TtOk rfl rfl rfl (fun b3 => ?_) | refine o_store TtOk rfl rfl rfl rfl rfl rfl rfl ⟨rfl, rfl⟩ rfl rfl rfl rfl rfl ?_ | (refine o_index rfl TtOk rfl rfl rfl rfl rfl rfl ?_ (getq_nat ?_) ?_; omega; omega) | refine o_build TtOk rfl rfl rfl rfl rfl rfl nq1 ?_ | (refine a_condP rfl (fun hc => ?_) (fun hc => ?_)) <;> (try (exfalso; omega)) | (refine Ops.nil ?_; show AnyT _ _ _ _ _ _ _ _ _ _) | refine a_anyT 3 [3] [15, 23] [3] (by kernel_rfl) (by kernel_rfl) (n := 16) (listed := [false, false, false, false, false, false, false, false, false, false, false, false, false, false, false, false].toArray) rfl (by kernel_rfl) ?_ | refine t_path (n := 16) (listed := [false, false, false, false, false, false, false, false, false, false, false, false, false, false, false, false].toArray) [0, 1, 2, 3, 5, 6, 7, 8, 9, 10, 11, 4, 12] 3 [true, true, true, true, true, true, true, true, true, true, true, true, true, false, false, false] (by kernel_rfl) rfl rfl rfl (by kernel_rfl) ?_ | refine t_two (n := 3) (listed := [true, true, true, true, true, true, true, true, true, true, true, true, true, false, false, false].toArray) 13 14 [true, true, true, true, true, true, true, true, true, true, true, true, true, true, false, false] [true, true, true, true, true, true, true, true, true, true, true, true, true, false, true, false] rfl (by kernel_rfl) rfl rfl (by kernel_rfl) (by kernel_rfl) ?_ ?_ | refine t_path (n := 2) (listed := [true, true, true, true, true, true, true, true, true, true, true, true, true, true, false, false].toArray) [14, 15] 0 [true, true, true, true, true, true, true, true, true, true, true, true, true, true, true, true] (by kernel_rfl) rfl rfl rfl (by kernel_rfl) ?_ | refine t_fin (n := 0) (listed := [true, true, true, true, true, true, true, true, true, true, true, true, true, true, true, true].toArray) (by kernel_rfl) ?_ | refine t_path (n := 2) (listed := [true, true, true, true, true, true, true, true, true, true, true, true, true, false, true, false].toArray) [13, 15] 0 [true, true, true, true, true, true, true, true, true, true, true, true, true, true, true, true] (by kernel_rfl) rfl rfl rfl (by kernel_rfl) ?_ | refine a_any 5 [2] [] [] [0, 1, 2, 4, 5, 6, 3, 7, 8, 9, 10] (by kernel_rfl) (by kernel_rfl) (by kernel_rfl) rfl rfl rfl ?_ | (refine o_makeFunc1 rfl rfl rfl rfl rfl ?_) | (refine o_sliceSl TtOk rfl 0 i rfl rfl rfl rfl rfl bnd_none (bnd_some rfl rfl) (by omega) (by omega) ?_) | (refine o_sliceSl TtOk rfl i l.length rfl rfl rfl rfl rfl (bnd_some rfl rfl) bnd_none (by omega) (by omega) ?_) | (refine o_index rfl TtOk rfl rfl rfl rfl rfl rfl ?_ (getq_as (l.length-1) ?_ hj) ?_; omega; omega) | refine o_callE rfl (hcm) ⟨nqS, nqS, True.intro⟩ rfl ?_ | refine o_callE rfl (hx) ⟨nqS, nqS, True.intro⟩ rfl ?_ | refine o_callE rfl (j1) ⟨nqS, True.intro⟩ rfl ?_ | refine o_callE rfl (j2) ⟨nqS, True.intro⟩ rfl ?_ | refine o_callE rfl (i1) ⟨nqS, True.intro⟩ rfl ?_)
    all_goals
      refine end_all [] [] (innI x y).A rfl ?_ ?_ (rle_one (CLe.of_eq rfl) rfl) .nil ⟨rfl, rfl⟩ _ (.inl rfl)
      · exact nq1
      · exact ⟨trivial, trivial⟩
end Go.Proofs.YtcmgpkibjdbonaaGreat
