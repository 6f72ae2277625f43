/- law08.BloomMakes by rules. -/
import Derived.Test.YtcnkmfmdadmaaaaKH9
set_option maxHeartbeats 4000000
namespace Go.Proofs.Ytcnkmfmdadmaaaa
open Go Go.RowKit
theorem sameB_self (p : Int) (b : List Bool) : sameB p p b b = true := by unfold sameB; simp
theorem pOf_le {e : Nat} (h : e ≤ 32) : pOf e ≤ 22 := by unfold pOf; split <;> omega
theorem nbOf_le {n e : Nat} (h : n ≤ 300) (he : e ≤ 32) : nbOf n e ≤ 2000 := by
  unfold nbOf
  have : n * e ≤ 300 * 32 := Nat.mul_le_mul h he
  omega
theorem makes_spec (keys : List (List UInt8)) (hl : keys.length ≤ 9223372036854775807) (each : Int) (key : List UInt8) : Spec Try.prog 8 [.sl 1 (keys.map stA), .i .i64 each, .s key] [] (fun v os => v = .b true ∧ os = []) := by
  refine spec_of TtOk [] Try.func8 rfl Try.ntmps8 (by kernel_rfl) rfl rfl (fun C => ?_) rfl
  have hfw := few8_spec keys hl 60 (by decide)
  have hkl := few8_len keys 60
  have hkm := few8_mem keys 60
  have hk12 : ∀ s ∈ few8 keys 60, s.length ≤ 1000000000000 := fun s hs => Nat.le_trans (hkm s hs) (by decide)
  have hct := cut_spec key 300 (by decide)
  have hky : (key.take 300).length ≤ 300 := by rw [List.length_take]; omega
  generalize key.take 300 = ky at hct hky
  generalize few8 keys 60 = ks at hfw hkl hkm hk12
  by_cases hb : each < 1 ∨ 32 < each
  · repeat' (first
      | refine Awp.seq ?_
      | refine Awp.region ?_
      | (refine Ops.nil ?_; show Awp _ _ _ _ _)
      | (refine Ops.nil ?_; show Exists _)
      | (refine Ops.nil ?_; show endK _ _ _ _ _)
      | (refine Awp.skip ?_; show Awp _ _ _ _ _)
      | (refine Awp.skip ?_; show endK _ _ _ _ _)
      | (refine Awp.skip ?_; show Exists _)
      | (refine Awp.ret ?_; show endK _ _ _ _ _)
      | refine o_offT rfl rfl rfl (by first | exact .inl rfl | exact .inr rfl) ?_
      | refine o_offU rfl rfl rfl (by first | exact .inl rfl | exact .inr rfl) ?_
      | refine o_offF rfl rfl rfl (by first | exact .inl rfl | exact .inr rfl) ?_
      | refine o_len rfl TtOk rfl rfl rfl (fun _ => ?_)
      | refine o_lenOwn rfl TtOk rfl rfl rfl rfl (fun _ => ?_)
      | (refine o_calm rfl TtOk rfl rfl rfl ?_ (fun _ => ?_); first | exact True.intro | exact ⟨rfl, rfl, rfl, rfl⟩ | exact ⟨rfl, True.intro⟩ | exact ⟨rfl, rfl⟩ | exact ⟨rfl, rfl, rfl⟩ | exact rfl | exact ⟨fun h0 => by cases h0, rfl⟩ | exact (fun h0 => by cases h0) | exact ⟨rfl, by omega⟩ | exact ⟨Nat.succ_ne_zero _, rfl⟩ | omega)
      | refine o_alloc (d := 7) rfl TtOk rfl rfl rfl (fun b7 => ?_)
      | refine o_alloc (d := 9) rfl TtOk rfl rfl rfl (fun b9 => ?_)
      | refine o_store TtOk rfl rfl rfl rfl rfl rfl rfl ⟨rfl, rfl⟩ rfl rfl rfl rfl rfl ?_
      | refine o_eqNil TtOk rfl rfl rfl rfl rfl ?_
      | refine o_eqArr8 TtOk rfl rfl rfl rfl rfl rfl (by kernel_rfl) ?_
      | (fail_if_success (refine o_isLit rfl (by first | exact .inl rfl | exact .inr rfl) ?_)); (refine o_splitP rfl rfl (fun hc => ?_) (fun hc => ?_) <;> try (exfalso; omega))
      | (fail_if_success (refine o_isLit rfl (by first | exact .inl rfl | exact .inr rfl) ?_)); (refine o_splitI rfl rfl (fun hc => ?_) (fun hc => ?_) <;> try (exfalso; omega))
      | (fail_if_success (refine o_isLit rfl (by first | exact .inl rfl | exact .inr rfl) ?_)); (refine o_splitN rfl rfl (fun hc => ?_) (fun hc => ?_) <;> try (exfalso; omega))
      | (fail_if_success (refine o_isLit rfl (by first | exact .inl rfl | exact .inr rfl) ?_)); (refine o_split rfl rfl (fun hc => ?_) (fun hc => ?_))
      | refine a_condT rfl ?_
      | refine a_condF rfl ?_
      | (refine a_condP rfl (fun hc => ?_) (fun hc => ?_)) <;> (try (exfalso; omega))
      | (refine a_condI rfl (fun hc => ?_) (fun hc => ?_)) <;> (try (exfalso; omega))
      | (refine a_condN rfl (fun hc => ?_) (fun hc => ?_)) <;> (try (exfalso; omega))
      | (refine Awp.cond rfl (fun hc => ?_) (fun hc => ?_))
      | refine a_any 7 [] [] [] [0, 1, 2, 3, 4, 5, 6, 8, 7, 9, 11, 10, 12, 13, 14, 16, 19, 15, 18, 17, 20, 21, 22, 23, 24, 26, 25, 27, 28, 29, 30] (by kernel_rfl) (by kernel_rfl) (by kernel_rfl) rfl rfl rfl ?_
      | (refine o_call0 rfl (hfw) ⟨SLe.of_eq rfl, SLe.of_eq rfl, True.intro⟩ rfl ?_; rintro _ _ ⟨rfl, rfl⟩; refine ⟨rfl, ?_⟩)
      | (refine o_call0 rfl (may_spec _ _ _ (by first | assumption | omega) (by first | assumption | omega)) ⟨SLe.of_eq rfl, SLe.of_eq rfl, True.intro⟩ rfl ?_; rintro _ _ ⟨rfl, rfl⟩; refine ⟨rfl, ?_⟩)
      | (refine o_call0 rfl (good_spec _ _ (by first | assumption | omega)) ⟨SLe.of_eq rfl, True.intro⟩ rfl ?_; rintro _ _ ⟨rfl, rfl⟩; refine ⟨rfl, ?_⟩)
      | (refine o_call0 rfl (make_spec _ _ (by assumption) (by first | assumption | omega) (by assumption)) ⟨SLe.of_eq rfl, SLe.of_eq rfl, True.intro⟩ rfl ?_; rintro _ _ ⟨rfl, rfl⟩; refine ⟨rfl, ?_⟩)
      | (refine o_call0 rfl (make_bad _ _ (by assumption)) ⟨SLe.of_eq rfl, SLe.of_eq rfl, True.intro⟩ rfl ?_; rintro _ _ ⟨rfl, rfl⟩; refine ⟨rfl, ?_⟩)
      | (refine o_call0 rfl (cut_spec _ 100 (by decide)) ⟨SLe.of_eq rfl, SLe.of_eq rfl, True.intro⟩ rfl ?_; rintro _ _ ⟨rfl, rfl⟩; refine ⟨rfl, ?_⟩)
      | (refine o_call0 rfl (cut_spec _ 300 (by decide)) ⟨SLe.of_eq rfl, SLe.of_eq rfl, True.intro⟩ rfl ?_; rintro _ _ ⟨rfl, rfl⟩; refine ⟨rfl, ?_⟩)
      | (refine o_call0 rfl (cut_spec _ 500 (by decide)) ⟨SLe.of_eq rfl, SLe.of_eq rfl, True.intro⟩ rfl ?_; rintro _ _ ⟨rfl, rfl⟩; refine ⟨rfl, ?_⟩)
      | (refine o_call0 rfl (few8_spec _ (by assumption) 60 (by decide)) ⟨SLe.of_eq rfl, SLe.of_eq rfl, True.intro⟩ rfl ?_; rintro _ _ ⟨rfl, rfl⟩; refine ⟨rfl, ?_⟩)
      | (refine o_call0 rfl (few8_spec _ (by assumption) 40 (by decide)) ⟨SLe.of_eq rfl, SLe.of_eq rfl, True.intro⟩ rfl ?_; rintro _ _ ⟨rfl, rfl⟩; refine ⟨rfl, ?_⟩)
      | (refine o_call0 rfl (few8_spec _ (by assumption) 300 (by decide)) ⟨SLe.of_eq rfl, SLe.of_eq rfl, True.intro⟩ rfl ?_; rintro _ _ ⟨rfl, rfl⟩; refine ⟨rfl, ?_⟩)
      | (refine o_call0 rfl (hawake_spec) True.intro rfl ?_; rintro _ _ ⟨rfl, rfl⟩; refine ⟨rfl, ?_⟩)
      | (refine o_call0 rfl (rgood_spec _ _ (by first | assumption | omega)) ⟨SLe.of_eq rfl, True.intro⟩ rfl ?_; rintro _ _ ⟨rfl, rfl⟩; refine ⟨rfl, ?_⟩)
      | (refine o_call0 rfl (rmake_spec _ _ (by assumption) (by first | assumption | omega) (by assumption)) ⟨SLe.of_eq rfl, SLe.of_eq rfl, True.intro⟩ rfl ?_; rintro _ _ ⟨rfl, rfl⟩; refine ⟨rfl, ?_⟩)
      | (refine o_call0 rfl (rmay_spec _ _ _ (by first | assumption | omega) (by first | assumption | omega)) ⟨SLe.of_eq rfl, SLe.of_eq rfl, True.intro⟩ rfl ?_; rintro _ _ ⟨rfl, rfl⟩; refine ⟨rfl, ?_⟩)
      | (refine o_call0 rfl (of_spec _ _ (by first | assumption | omega)) ⟨SLe.of_eq rfl, SLe.of_eq rfl, True.intro⟩ rfl ?_; rintro _ _ ⟨rfl, rfl⟩; refine ⟨rfl, ?_⟩)
      | (refine o_call0 rfl (same_spec _ _ _ _ (by first | assumption | omega) (by first | assumption | omega)) ⟨SLe.of_eq rfl, SLe.of_eq rfl, True.intro⟩ rfl ?_; rintro _ _ ⟨rfl, rfl⟩; refine ⟨rfl, ?_⟩))
    all_goals exact end_tmp rfl rfl rfl [] [] (CLe.of_eq rfl) .nil ⟨rfl, rfl⟩ _ (.inl rfl)
  · obtain ⟨e, rfl⟩ := Int.eq_ofNat_of_zero_le (show 0 ≤ each by omega)
    have he : 1 ≤ e ∧ e ≤ 32 := by omega
    have hmk := make_spec ks e he (by omega) hk12
    have hrm := rmake_spec ks e he (by omega) hk12
    have hF := mkF_len ks e
    have hFl : (mkF ks e).length ≤ 2000 := by rw [hF]; exact nbOf_le (by omega) he.2
    have hp := pOf_le he.2
    generalize mkF ks e = F at hmk hrm hFl
    generalize pOf e = p at hmk hrm hp
    have hof := of_spec p F (by omega)
    have hm1 := may_spec p F ky (by omega) (by omega)
    have hg1 := good_spec p F (by omega)
    have hBl := bitsOf_len F
    generalize bitsOf F = B at hrm hof hm1 hg1 hBl
    have hsm := same_spec p p B B (by omega) (by omega)
    rw [sameB_self] at hsm
    have hm2 := rmay_spec p B ky (by omega) (by omega)
    have hg2 := rgood_spec p B (by omega)
    generalize mayB p B (hashN ky) = m at hm1 hm2
    generalize goodB p B.length = g at hg1 hg2
    unfold flA at hmk hm1 hg1
    unfold rfA at hrm hof hsm hm2 hg2
    repeat' (first
      | refine Awp.seq ?_
      | refine Awp.region ?_
      | (refine Ops.nil ?_; show Awp _ _ _ _ _)
      | (refine Ops.nil ?_; show Exists _)
      | (refine Ops.nil ?_; show endK _ _ _ _ _)
      | (refine Awp.skip ?_; show Awp _ _ _ _ _)
      | (refine Awp.skip ?_; show endK _ _ _ _ _)
      | (refine Awp.skip ?_; show Exists _)
      | (refine Awp.ret ?_; show endK _ _ _ _ _)
      | refine o_offT rfl rfl rfl (by first | exact .inl rfl | exact .inr rfl) ?_
      | refine o_offU rfl rfl rfl (by first | exact .inl rfl | exact .inr rfl) ?_
      | refine o_offF rfl rfl rfl (by first | exact .inl rfl | exact .inr rfl) ?_
      | refine o_len rfl TtOk rfl rfl rfl (fun _ => ?_)
      | refine o_lenOwn rfl TtOk rfl rfl rfl rfl (fun _ => ?_)
      | (refine o_calm rfl TtOk rfl rfl rfl ?_ (fun _ => ?_); first | exact True.intro | exact ⟨rfl, rfl, rfl, rfl⟩ | exact ⟨rfl, True.intro⟩ | exact ⟨rfl, rfl⟩ | exact ⟨rfl, rfl, rfl⟩ | exact rfl | exact ⟨fun h0 => by cases h0, rfl⟩ | exact (fun h0 => by cases h0) | exact ⟨rfl, by omega⟩ | exact ⟨Nat.succ_ne_zero _, rfl⟩ | omega)
      | refine o_alloc (d := 7) rfl TtOk rfl rfl rfl (fun b7 => ?_)
      | refine o_alloc (d := 9) rfl TtOk rfl rfl rfl (fun b9 => ?_)
      | refine o_store TtOk rfl rfl rfl rfl rfl rfl rfl ⟨rfl, rfl⟩ rfl rfl rfl rfl rfl ?_
      | refine o_eqNil TtOk rfl rfl rfl rfl rfl ?_
      | refine o_eqArr8 TtOk rfl rfl rfl rfl rfl rfl (by kernel_rfl) ?_
      | (fail_if_success (refine o_isLit rfl (by first | exact .inl rfl | exact .inr rfl) ?_)); (refine o_splitP rfl rfl (fun hc => ?_) (fun hc => ?_) <;> try (exfalso; omega))
      | (fail_if_success (refine o_isLit rfl (by first | exact .inl rfl | exact .inr rfl) ?_)); (refine o_splitI rfl rfl (fun hc => ?_) (fun hc => ?_) <;> try (exfalso; omega))
      | (fail_if_success (refine o_isLit rfl (by first | exact .inl rfl | exact .inr rfl) ?_)); (refine o_splitN rfl rfl (fun hc => ?_) (fun hc => ?_) <;> try (exfalso; omega))
      | (fail_if_success (refine o_isLit rfl (by first | exact .inl rfl | exact .inr rfl) ?_)); (refine o_split rfl rfl (fun hc => ?_) (fun hc => ?_))
      | refine a_condT rfl ?_
      | refine a_condF rfl ?_
      | (refine a_condP rfl (fun hc => ?_) (fun hc => ?_)) <;> (try (exfalso; omega))
      | (refine a_condI rfl (fun hc => ?_) (fun hc => ?_)) <;> (try (exfalso; omega))
      | (refine a_condN rfl (fun hc => ?_) (fun hc => ?_)) <;> (try (exfalso; omega))
      | (refine Awp.cond rfl (fun hc => ?_) (fun hc => ?_))
      | refine a_any 7 [] [] [] [0, 1, 2, 3, 4, 5, 6, 8, 7, 9, 11, 10, 12, 13, 14, 16, 19, 15, 18, 17, 20, 21, 22, 23, 24, 26, 25, 27, 28, 29, 30] (by kernel_rfl) (by kernel_rfl) (by kernel_rfl) rfl rfl rfl ?_
      | (refine o_call0 rfl (hfw) ⟨SLe.of_eq rfl, SLe.of_eq rfl, True.intro⟩ rfl ?_; rintro _ _ ⟨rfl, rfl⟩; refine ⟨rfl, ?_⟩)
      | (refine o_call0 rfl (hmk) ⟨SLe.of_eq rfl, SLe.of_eq rfl, True.intro⟩ rfl ?_; rintro _ _ ⟨rfl, rfl⟩; refine ⟨rfl, ?_⟩)
      | (refine o_call0 rfl (hrm) ⟨SLe.of_eq rfl, SLe.of_eq rfl, True.intro⟩ rfl ?_; rintro _ _ ⟨rfl, rfl⟩; refine ⟨rfl, ?_⟩)
      | (refine o_call0 rfl (hct) ⟨SLe.of_eq rfl, SLe.of_eq rfl, True.intro⟩ rfl ?_; rintro _ _ ⟨rfl, rfl⟩; refine ⟨rfl, ?_⟩)
      | (refine o_call0 rfl (hof) ⟨SLe.of_eq rfl, SLe.of_eq rfl, True.intro⟩ rfl ?_; rintro _ _ ⟨rfl, rfl⟩; refine ⟨rfl, ?_⟩)
      | (refine o_call0 rfl (hsm) ⟨SLe.of_eq rfl, SLe.of_eq rfl, True.intro⟩ rfl ?_; rintro _ _ ⟨rfl, rfl⟩; refine ⟨rfl, ?_⟩)
      | (refine o_call0 rfl (hm1) ⟨SLe.of_eq rfl, SLe.of_eq rfl, True.intro⟩ rfl ?_; rintro _ _ ⟨rfl, rfl⟩; refine ⟨rfl, ?_⟩)
      | (refine o_call0 rfl (hm2) ⟨SLe.of_eq rfl, SLe.of_eq rfl, True.intro⟩ rfl ?_; rintro _ _ ⟨rfl, rfl⟩; refine ⟨rfl, ?_⟩)
      | (refine o_call0 rfl (hg1) ⟨SLe.of_eq rfl, True.intro⟩ rfl ?_; rintro _ _ ⟨rfl, rfl⟩; refine ⟨rfl, ?_⟩)
      | (refine o_call0 rfl (hg2) ⟨SLe.of_eq rfl, True.intro⟩ rfl ?_; rintro _ _ ⟨rfl, rfl⟩; refine ⟨rfl, ?_⟩)
      | (refine o_call0 rfl (hawake_spec) True.intro rfl ?_; rintro _ _ ⟨rfl, rfl⟩; refine ⟨rfl, ?_⟩))
    · refine end_tmp rfl rfl rfl [] [] (CLe.of_eq ?_) .nil ⟨rfl, rfl⟩ _ (.inl rfl)
      show AV.b (g == g) = AV.b true
      rw [beq_self_eq_true]
    · exact absurd rfl hc
end Go.Proofs.Ytcnkmfmdadmaaaa
