/- ref02's ReadText, ReadFlag, Done, ReadNumber by rules. -/
import Derived.Test.YtapbbifcipemfaaKF
set_option maxHeartbeats 8000000
namespace Go.Proofs.Ytapbbifcipemfaa
open Go Go.RowKit

theorem take_nil {r : RS} (hok : r.ok) {n : Nat} (hn : 0 < n) : (r.take n).1 = [] ↔ (r.take n).2.e ≠ 0 := by
  obtain ⟨h1, h2⟩ := hok
  unfold RS.take
  split
  · rename_i h; exact ⟨fun _ => h, fun _ => rfl⟩
  · split
    · exact ⟨fun _ => by show (5 : Int) ≠ 0; decide, fun _ => rfl⟩
    · refine ⟨fun h => ?_, fun h => absurd rfl h⟩
      have : ((r.s.drop r.p).take n).length = 0 := by rw [show (r.s.drop r.p).take n = [] from h]; rfl
      rw [List.length_take, List.length_drop] at this
      omega
theorem cdone_spec (r : RS) (hok : r.ok) : Spec Try.prog 69 [rdA r] [] (fun v os => v = .i .i64 r.done ∧ os = []) := by
  obtain ⟨h1, h2⟩ := hok
  refine spec_of TtOk [] Try.func69 rfl Try.ntmps69 (by kernel_rfl) rfl rfl (fun C => ?_) rfl
  repeat' (first
    | refine Awp.seq ?_
    | refine Awp.region ?_
    | (refine Ops.nil ?_; show Awp _ _ _ _ _)
    | (refine Ops.nil ?_; show Exists _)
    | (refine Ops.nil ?_; show endK _ _ _ _ _)
    | (refine Awp.skip ?_; show Awp _ _ _ _ _)
    | (refine Awp.skip ?_; show endK _ _ _ _ _)
    | (refine Awp.skip ?_; show Exists _)
    | (refine Awp.ret ?_; show endK _ _ _ _ _)
    | refine o_offT rfl rfl rfl (by first | exact .inl rfl | exact .inr rfl) ?_
    | refine o_offU rfl rfl rfl (by first | exact .inl rfl | exact .inr rfl) ?_
    | refine o_offF rfl rfl rfl (by first | exact .inl rfl | exact .inr rfl) ?_
    | refine o_len rfl TtOk rfl rfl rfl (fun _ => ?_)
    | refine o_lenOwn rfl TtOk rfl rfl rfl rfl (fun _ => ?_)
    | (refine o_calm rfl TtOk rfl rfl rfl ?_ (fun _ => ?_); first | exact True.intro | exact ⟨rfl, rfl, rfl, rfl⟩ | exact ⟨rfl, True.intro⟩ | exact ⟨rfl, rfl⟩ | exact ⟨rfl, rfl, rfl⟩ | exact rfl | exact ⟨fun h0 => by cases h0, rfl⟩ | exact (fun h0 => by cases h0) | exact ⟨rfl, by omega⟩ | exact ⟨Nat.succ_ne_zero _, rfl⟩ | omega)
    | refine o_box rfl rfl rfl rfl (fun _ => ?_)
    | refine o_eqNil TtOk rfl rfl rfl rfl rfl ?_
    | refine o_eqArr8 TtOk rfl rfl rfl rfl rfl rfl (by kernel_rfl) ?_
    | (fail_if_success (refine o_isLit rfl (by first | exact .inl rfl | exact .inr rfl) ?_)); (refine o_splitP rfl rfl (fun hc => ?_) (fun hc => ?_) <;> try (exfalso; omega))
    | (fail_if_success (refine o_isLit rfl (by first | exact .inl rfl | exact .inr rfl) ?_)); (refine o_splitI rfl rfl (fun hc => ?_) (fun hc => ?_) <;> try (exfalso; omega))
    | (fail_if_success (refine o_isLit rfl (by first | exact .inl rfl | exact .inr rfl) ?_)); (refine o_splitN rfl rfl (fun hc => ?_) (fun hc => ?_) <;> try (exfalso; omega))
    | (fail_if_success (refine o_isLit rfl (by first | exact .inl rfl | exact .inr rfl) ?_)); (refine o_split rfl rfl (fun hc => ?_) (fun hc => ?_))
    | refine a_condT rfl ?_
    | refine a_condF rfl ?_
    | (refine a_condP rfl (fun hc => ?_) (fun hc => ?_)) <;> (try (exfalso; omega))
    | (refine a_condI rfl (fun hc => ?_) (fun hc => ?_)) <;> (try (exfalso; omega))
    | (refine a_condN rfl (fun hc => ?_) (fun hc => ?_)) <;> (try (exfalso; omega))
    | (refine Awp.cond rfl (fun hc => ?_) (fun hc => ?_)))
  · have hn : r.done = 3 := by unfold RS.done; rw [if_pos (by omega)]
    exact end_tmp rfl rfl rfl [] [] (CLe.of_eq (by rw [hn]; rfl)) .nil ⟨rfl, rfl⟩ _ (.inl rfl)
  all_goals
    have hn : r.done = r.e := by unfold RS.done; rw [if_neg (by omega)]
    exact end_tmp rfl rfl rfl [] [] (CLe.of_eq (by rw [hn]; rfl)) .nil ⟨rfl, rfl⟩ _ (.inl rfl)
theorem flag_byte (c : UInt8) : (Op.bytesLess [c] [1] || [c] == [1]) = decide (c.toNat ≤ 1) ∧ ([c] == [(1 : UInt8)]) = ((c.toNat : Int) == 1) := by
  have h : ∀ n : Fin 256, (Op.bytesLess [UInt8.ofNat n.val] [1] || [UInt8.ofNat n.val] == [1]) = decide ((UInt8.ofNat n.val).toNat ≤ 1) ∧ ([UInt8.ofNat n.val] == [(1 : UInt8)]) = (((UInt8.ofNat n.val).toNat : Int) == 1) := by decide +kernel
  have := h ⟨c.toNat, c.toNat_lt⟩
  rwa [show UInt8.ofNat (⟨c.toNat, c.toNat_lt⟩ : Fin 256).val = c by simp] at this
theorem cflag_spec (r : RS) (hok : r.ok) : Spec Try.prog 67 [rdA r] [] (fun v os => v = .tup [rdA r.flag.2, .b r.flag.1] ∧ os = []) := by
  refine spec_of TtOk [] Try.func67 rfl Try.ntmps67 (by kernel_rfl) rfl rfl (fun C => ?_) rfl
  repeat' (first
    | refine Awp.seq ?_
    | refine Awp.region ?_
    | (refine Ops.nil ?_; show Awp _ _ _ _ _)
    | (refine Ops.nil ?_; show Exists _)
    | (refine Ops.nil ?_; show endK _ _ _ _ _)
    | (refine Awp.skip ?_; show Awp _ _ _ _ _)
    | (refine Awp.skip ?_; show endK _ _ _ _ _)
    | (refine Awp.skip ?_; show Exists _)
    | (refine Awp.ret ?_; show endK _ _ _ _ _)
    | (refine o_calm rfl TtOk rfl rfl rfl ?_ (fun _ => ?_); first | exact True.intro | exact ⟨rfl, rfl, rfl, rfl⟩ | exact ⟨rfl, True.intro⟩ | exact ⟨rfl, rfl⟩ | exact ⟨rfl, rfl, rfl⟩ | exact rfl | exact ⟨fun h0 => by cases h0, rfl⟩ | exact (fun h0 => by cases h0) | exact ⟨rfl, by omega⟩ | exact ⟨Nat.succ_ne_zero _, rfl⟩ | omega)
    | refine o_alloc rfl TtOk rfl rfl rfl (fun bA => ?_)
    | refine o_box rfl rfl rfl rfl (fun _ => ?_)
    | refine o_store TtOk rfl rfl rfl rfl rfl rfl rfl ⟨rfl, rfl⟩ rfl rfl rfl rfl rfl ?_
    | (refine o_indexStr TtOk rfl rfl rfl rfl rfl ?_ (getq_nat ?_) ?_; omega; omega)
    | refine o_eqNil TtOk rfl rfl rfl rfl rfl ?_
    | refine o_eqArr8 TtOk rfl rfl rfl rfl rfl rfl (by kernel_rfl) ?_
    | refine a_condT rfl ?_
    | refine a_condF rfl ?_
    | (refine a_condP rfl (fun hc => ?_) (fun hc => ?_)) <;> (try (exfalso; omega))
    | (refine a_condI rfl (fun hc => ?_) (fun hc => ?_)) <;> (try (exfalso; omega))
    | (refine a_condN rfl (fun hc => ?_) (fun hc => ?_)) <;> (try (exfalso; omega))
    | (refine Awp.cond rfl (fun hc => ?_) (fun hc => ?_))
    | refine a_any 6 [2] [19] [] [1, 2, 3, 0, 4, 5] (by kernel_rfl) (by kernel_rfl) (by kernel_rfl) rfl rfl rfl ?_)
  refine o_call0 rfl (ctake_spec 1 r hok) ⟨SLe.of_eq rfl, sle_i rfl, True.intro⟩ rfl ?_
  rintro v os' ⟨rfl, rfl⟩; refine ⟨rfl, ?_⟩
  have hnil := take_nil hok (n := 1) (by decide)
  have hok1 := RS.ok_take hok 1
  have hlen := take_len r 1
  have hfl : r.flag = if Op.bytesLess (r.take 1).1 [1] || (r.take 1).1 == [1] then ((r.take 1).1 == [1], (r.take 1).2) else (false, (r.take 1).2.fail 4) := rfl
  generalize (r.take 1).1 = t at hnil hlen hfl ⊢
  generalize (r.take 1).2 = r1 at hnil hfl hok1 ⊢
  repeat' (first
    | refine Awp.seq ?_
    | refine Awp.region ?_
    | (refine Ops.nil ?_; show Awp _ _ _ _ _)
    | (refine Ops.nil ?_; show Exists _)
    | (refine Ops.nil ?_; show endK _ _ _ _ _)
    | (refine Awp.skip ?_; show Awp _ _ _ _ _)
    | (refine Awp.skip ?_; show endK _ _ _ _ _)
    | (refine Awp.skip ?_; show Exists _)
    | (refine Awp.ret ?_; show endK _ _ _ _ _)
    | (refine o_calm rfl TtOk rfl rfl rfl ?_ (fun _ => ?_); first | exact True.intro | exact ⟨rfl, rfl, rfl, rfl⟩ | exact ⟨rfl, True.intro⟩ | exact ⟨rfl, rfl⟩ | exact ⟨rfl, rfl, rfl⟩ | exact rfl | exact ⟨fun h0 => by cases h0, rfl⟩ | exact (fun h0 => by cases h0) | exact ⟨rfl, by omega⟩ | exact ⟨Nat.succ_ne_zero _, rfl⟩ | omega)
    | refine o_alloc rfl TtOk rfl rfl rfl (fun bA => ?_)
    | refine o_box rfl rfl rfl rfl (fun _ => ?_)
    | refine o_store TtOk rfl rfl rfl rfl rfl rfl rfl ⟨rfl, rfl⟩ rfl rfl rfl rfl rfl ?_
    | (refine o_indexStr TtOk rfl rfl rfl rfl rfl ?_ (getq_nat ?_) ?_; omega; omega)
    | refine o_eqNil TtOk rfl rfl rfl rfl rfl ?_
    | refine o_eqArr8 TtOk rfl rfl rfl rfl rfl rfl (by kernel_rfl) ?_
    | refine a_condT rfl ?_
    | refine a_condF rfl ?_
    | (refine a_condP rfl (fun hc => ?_) (fun hc => ?_)) <;> (try (exfalso; omega))
    | (refine a_condI rfl (fun hc => ?_) (fun hc => ?_)) <;> (try (exfalso; omega))
    | (refine a_condN rfl (fun hc => ?_) (fun hc => ?_)) <;> (try (exfalso; omega))
    | (refine Awp.cond rfl (fun hc => ?_) (fun hc => ?_))
    | refine a_any 6 [2] [19] [] [1, 2, 3, 0, 4, 5] (by kernel_rfl) (by kernel_rfl) (by kernel_rfl) rfl rfl rfl ?_)
  · have ht : t = [] := hnil.2 hc
    have hn : r.flag = (false, r1) := by
      rw [hfl, ht]; rfl
    refine end_all [] [] (.tup [rdA r.flag.2, .b r.flag.1]) rfl ?_ ?_ (rle_tup2 (CLe.of_eq (by rw [hn]; rfl)) (CLe.of_eq (by rw [hn]; rfl)) rfl rfl) .nil ⟨rfl, rfl⟩ _ (.inl rfl)
    · repeat' (first | exact True.intro | exact rfl | refine ⟨?_, ?_⟩)
    · exact ⟨trivial, trivial, trivial⟩
  · obtain ⟨c, rfl⟩ : ∃ c, t = [c] := by
      match t, hnil, hlen with
      | [], hnil, _ => exact absurd hc (hnil.1 rfl)
      | [c], _, _ => exact ⟨c, rfl⟩
      | _ :: _ :: _, _, hlen => simp at hlen
    have hfb := flag_byte c
    rw [hfb.1, hfb.2] at hfl
    refine o_indexStr TtOk rfl (c := c) rfl rfl rfl rfl (by omega) rfl ?_
    repeat' (first
      | refine Awp.seq ?_
      | refine Awp.region ?_
      | (refine Ops.nil ?_; show Awp _ _ _ _ _)
      | (refine Ops.nil ?_; show Exists _)
      | (refine Ops.nil ?_; show endK _ _ _ _ _)
      | (refine Awp.skip ?_; show Awp _ _ _ _ _)
      | (refine Awp.skip ?_; show endK _ _ _ _ _)
      | (refine Awp.skip ?_; show Exists _)
      | (refine Awp.ret ?_; show endK _ _ _ _ _)
      | (refine o_calm rfl TtOk rfl rfl rfl ?_ (fun _ => ?_); first | exact True.intro | exact ⟨rfl, rfl, rfl, rfl⟩ | exact ⟨rfl, True.intro⟩ | exact ⟨rfl, rfl⟩ | exact ⟨rfl, rfl, rfl⟩ | exact rfl | exact ⟨fun h0 => by cases h0, rfl⟩ | exact (fun h0 => by cases h0) | exact ⟨rfl, by omega⟩ | exact ⟨Nat.succ_ne_zero _, rfl⟩ | omega)
      | refine o_alloc rfl TtOk rfl rfl rfl (fun bA => ?_)
      | refine o_box rfl rfl rfl rfl (fun _ => ?_)
      | refine o_store TtOk rfl rfl rfl rfl rfl rfl rfl ⟨rfl, rfl⟩ rfl rfl rfl rfl rfl ?_
      | (refine o_indexStr TtOk rfl rfl rfl rfl rfl ?_ (getq_nat ?_) ?_; omega; omega)
      | refine o_eqNil TtOk rfl rfl rfl rfl rfl ?_
      | refine o_eqArr8 TtOk rfl rfl rfl rfl rfl rfl (by kernel_rfl) ?_
      | refine a_condT rfl ?_
      | refine a_condF rfl ?_
      | (refine a_condP rfl (fun hc => ?_) (fun hc => ?_)) <;> (try (exfalso; omega))
      | (refine a_condI rfl (fun hc => ?_) (fun hc => ?_)) <;> (try (exfalso; omega))
      | (refine a_condN rfl (fun hc => ?_) (fun hc => ?_)) <;> (try (exfalso; omega))
      | (refine Awp.cond rfl (fun hc => ?_) (fun hc => ?_))
      | refine a_any 6 [2] [19] [] [1, 2, 3, 0, 4, 5] (by kernel_rfl) (by kernel_rfl) (by kernel_rfl) rfl rfl rfl ?_)
    · refine o_call0 rfl (cfail_spec 4 r1) ⟨SLe.of_eq rfl, sle_i rfl, True.intro⟩ rfl ?_
      rintro v os' ⟨rfl, rfl⟩; refine ⟨rfl, ?_⟩
      have hn : r.flag = (false, r1.fail 4) := by rw [hfl, if_neg (by simp; omega)]
      generalize r1.fail 4 = r2 at hn ⊢
      repeat' (first
        | refine Awp.seq ?_
        | refine Awp.region ?_
        | (refine Ops.nil ?_; show Awp _ _ _ _ _)
        | (refine Ops.nil ?_; show Exists _)
        | (refine Ops.nil ?_; show endK _ _ _ _ _)
        | (refine Awp.skip ?_; show Awp _ _ _ _ _)
        | (refine Awp.skip ?_; show endK _ _ _ _ _)
        | (refine Awp.skip ?_; show Exists _)
        | (refine Awp.ret ?_; show endK _ _ _ _ _)
        | (refine o_calm rfl TtOk rfl rfl rfl ?_ (fun _ => ?_); first | exact True.intro | exact ⟨rfl, rfl, rfl, rfl⟩ | exact ⟨rfl, True.intro⟩ | exact ⟨rfl, rfl⟩ | exact ⟨rfl, rfl, rfl⟩ | exact rfl | exact ⟨fun h0 => by cases h0, rfl⟩ | exact (fun h0 => by cases h0) | exact ⟨rfl, by omega⟩ | exact ⟨Nat.succ_ne_zero _, rfl⟩ | omega)
        | refine o_alloc rfl TtOk rfl rfl rfl (fun bA => ?_)
        | refine o_box rfl rfl rfl rfl (fun _ => ?_)
        | refine o_store TtOk rfl rfl rfl rfl rfl rfl rfl ⟨rfl, rfl⟩ rfl rfl rfl rfl rfl ?_
        | (refine o_indexStr TtOk rfl rfl rfl rfl rfl ?_ (getq_nat ?_) ?_; omega; omega)
        | refine o_eqNil TtOk rfl rfl rfl rfl rfl ?_
        | refine o_eqArr8 TtOk rfl rfl rfl rfl rfl rfl (by kernel_rfl) ?_
        | refine a_condT rfl ?_
        | refine a_condF rfl ?_
        | (refine a_condP rfl (fun hc => ?_) (fun hc => ?_)) <;> (try (exfalso; omega))
        | (refine a_condI rfl (fun hc => ?_) (fun hc => ?_)) <;> (try (exfalso; omega))
        | (refine a_condN rfl (fun hc => ?_) (fun hc => ?_)) <;> (try (exfalso; omega))
        | (refine Awp.cond rfl (fun hc => ?_) (fun hc => ?_))
        | refine a_any 6 [2] [19] [] [1, 2, 3, 0, 4, 5] (by kernel_rfl) (by kernel_rfl) (by kernel_rfl) rfl rfl rfl ?_)
      refine end_all [] [] (.tup [rdA r.flag.2, .b r.flag.1]) rfl ?_ ?_ (rle_tup2 (CLe.of_eq (by rw [hn]; rfl)) (CLe.of_eq (by rw [hn]; rfl)) rfl rfl) .nil ⟨rfl, rfl⟩ _ (.inl rfl)
      · repeat' (first | exact True.intro | exact rfl | refine ⟨?_, ?_⟩)
      · exact ⟨trivial, trivial, trivial⟩
    · refine o_indexStr TtOk rfl (c := c) rfl rfl rfl rfl (by omega) rfl ?_
      repeat' (first
        | refine Awp.seq ?_
        | refine Awp.region ?_
        | (refine Ops.nil ?_; show Awp _ _ _ _ _)
        | (refine Ops.nil ?_; show Exists _)
        | (refine Ops.nil ?_; show endK _ _ _ _ _)
        | (refine Awp.skip ?_; show Awp _ _ _ _ _)
        | (refine Awp.skip ?_; show endK _ _ _ _ _)
        | (refine Awp.skip ?_; show Exists _)
        | (refine Awp.ret ?_; show endK _ _ _ _ _)
        | (refine o_calm rfl TtOk rfl rfl rfl ?_ (fun _ => ?_); first | exact True.intro | exact ⟨rfl, rfl, rfl, rfl⟩ | exact ⟨rfl, True.intro⟩ | exact ⟨rfl, rfl⟩ | exact ⟨rfl, rfl, rfl⟩ | exact rfl | exact ⟨fun h0 => by cases h0, rfl⟩ | exact (fun h0 => by cases h0) | exact ⟨rfl, by omega⟩ | exact ⟨Nat.succ_ne_zero _, rfl⟩ | omega)
        | refine o_alloc rfl TtOk rfl rfl rfl (fun bA => ?_)
        | refine o_box rfl rfl rfl rfl (fun _ => ?_)
        | refine o_store TtOk rfl rfl rfl rfl rfl rfl rfl ⟨rfl, rfl⟩ rfl rfl rfl rfl rfl ?_
        | (refine o_indexStr TtOk rfl rfl rfl rfl rfl ?_ (getq_nat ?_) ?_; omega; omega)
        | refine o_eqNil TtOk rfl rfl rfl rfl rfl ?_
        | refine o_eqArr8 TtOk rfl rfl rfl rfl rfl rfl (by kernel_rfl) ?_
        | refine a_condT rfl ?_
        | refine a_condF rfl ?_
        | (refine a_condP rfl (fun hc => ?_) (fun hc => ?_)) <;> (try (exfalso; omega))
        | (refine a_condI rfl (fun hc => ?_) (fun hc => ?_)) <;> (try (exfalso; omega))
        | (refine a_condN rfl (fun hc => ?_) (fun hc => ?_)) <;> (try (exfalso; omega))
        | (refine Awp.cond rfl (fun hc => ?_) (fun hc => ?_))
        | refine a_any 6 [2] [19] [] [1, 2, 3, 0, 4, 5] (by kernel_rfl) (by kernel_rfl) (by kernel_rfl) rfl rfl rfl ?_)
      have hn : r.flag = ((c.toNat : Int) == 1, r1) := by rw [hfl, if_pos (by simp; omega)]
      refine end_all [] [] (.tup [rdA r.flag.2, .b r.flag.1]) rfl ?_ ?_ (rle_tup2 (CLe.of_eq (by rw [hn]; rfl)) (CLe.of_eq (by rw [hn]; rfl)) rfl rfl) .nil ⟨rfl, rfl⟩ _ (.inl rfl)
      · repeat' (first | exact True.intro | exact rfl | refine ⟨?_, ?_⟩)
      · exact ⟨trivial, trivial, trivial⟩
end Go.Proofs.Ytapbbifcipemfaa
