/- law02.CodeOne by rules. -/
import Derived.Test.YtcnkmfmdadmaaaaKP
import Derived.Test.YtcnkmfmdadmaaaaKR4
import Derived.Test.YtcnkmfmdadmaaaaKW3
import Derived.Test.YtcnkmfmdadmaaaaKA
import Derived.Test.YtcnkmfmdadmaaaaV17
set_option maxHeartbeats 16000000
namespace Go.Proofs.Ytcnkmfmdadmaaaa
open Go Go.RowKit

theorem done_zero {r : RS} (h : r.done = 0) : r.e = 0 ∧ r.s.length ≤ r.p := by
  unfold RS.done at h
  by_cases h1 : r.e = 0 ∧ r.p < r.s.length
  · rw [if_pos h1] at h; cases h
  · rw [if_neg h1] at h
    exact ⟨h, by have := fun h2 => h1 ⟨h, h2⟩; omega⟩
theorem open_e {s : List UInt8} (h : (RS.open s).e = 0) : s.length ≤ 65536 := by
  unfold RS.open at h
  by_cases h1 : 65536 < s.length
  · simp only [if_pos h1] at h; cases h
  · omega
theorem open_rest (s : List UInt8) : (RS.open s).rest = s := List.drop_zero
/-- Whole bytes that were read as something are its spelling. -/
theorem one_of {s bs t : List UInt8} {r' : RS} (he : (RS.open s).e = 0) (h : (RS.open s).rest = bs ++ t) (h2 : r' = ⟨(RS.open s).s, (RS.open s).p + bs.length, 0⟩) (hd : r'.done = 0) : (WS.mk bs 0).done = (s, 0) := by
  have h3 := (done_zero hd).2
  rw [h2] at h3
  rw [open_rest] at h
  have h4 : s.length ≤ 0 + bs.length := h3
  have h5 := congrArg List.length h
  rw [List.length_append] at h5
  have h6 : t = [] := List.eq_nil_of_length_eq_zero (by omega)
  rw [h6, List.append_nil] at h
  subst h
  have := open_e he
  unfold WS.done
  rw [if_neg (by simp)]
  simp only []
  rw [if_neg (by omega)]
theorem one_number {s : List UInt8} (hok : (RS.open s).ok) (hd : (RS.open s).number.2.done = 0) : ((WS.mk [] 0).number ((RS.open s).number.1 : Nat)).done = (s, 0) := by
  obtain ⟨he, hf, t, h1, h2⟩ := RS.number_inv hok (done_zero hd).1
  have := one_of he h1 h2 hd
  unfold WS.number
  rw [if_neg (by omega), Int.toNat_natCast]
  exact this
theorem one_text {s : List UInt8} (hok : (RS.open s).ok) (hd : (RS.open s).text.2.done = 0) : ((WS.mk [] 0).text (RS.open s).text.1).done = (s, 0) := by
  obtain ⟨he, hf, t, h1, h2⟩ := RS.text_inv hok (done_zero hd).1
  have := one_of he h1 h2 hd
  unfold WS.text
  rw [if_neg (by omega)]
  unfold WS.number
  rw [if_neg (by omega), Int.toNat_natCast]
  exact this
theorem one_label {s : List UInt8} (hok : (RS.open s).ok) (hd : (RS.open s).label.2.done = 0) : ((WS.mk [] 0).put (RS.open s).label.1).done = (s, 0) := by
  obtain ⟨he, hf, t, h1, h2⟩ := RS.label_inv hok (done_zero hd).1
  exact one_of (bs := (RS.open s).label.1) he h1 (by rw [hf]; exact h2) hd
theorem one_flag {s : List UInt8} (hok : (RS.open s).ok) (hd : (RS.open s).flag.2.done = 0) : ((WS.mk [] 0).put [if (RS.open s).flag.1 = true then 1 else 0]).done = (s, 0) := by
  obtain ⟨he, t, h1, h2⟩ := RS.flag_inv hok (done_zero hd).1
  exact one_of (t := t) he h1 h2 hd
theorem one_spec (s : List UInt8) (hs : s.length ≤ 9223372036854775807) (kind : Int) : Spec Try.prog 13 [.s s, .i .i64 kind] [] (fun v os => v = .b true ∧ os = []) := by
  refine spec_of TtOk [] Try.func13 rfl Try.ntmps13 (by kernel_rfl) rfl rfl (fun C => ?_) rfl
  have hok := RS.ok_open (s := s) hs
  have hnum := number_fits (r := RS.open s)
  have q1 := RS.ok_number hok
  have q2 := RS.ok_text hok
  have q3 : (RS.open s).label.2.ok := RS.ok_take hok 32
  have q4 := RS.ok_flag hok
  have hll : (RS.open s).label.1.length = 32 := by
    have := take_len (RS.open s) 32
    unfold RS.label
    simp only [List.length_append, List.length_replicate]
    omega
  have n1 := one_number hok
  have n2 := one_text hok
  have n3 := one_label hok
  have n4 := one_flag hok
  have h0 : (WS.mk [] 0).bs.length = 0 := rfl
  iterate 3
    refine Awp.seq ?_
    repeat' (first
      | refine Awp.region ?_
      | (refine Ops.nil ?_; show Awp _ _ _ _ _)
      | (refine Ops.nil ?_; show Exists _)
      | (refine Ops.nil ?_; show endK _ _ _ _ _)
      | (refine Awp.skip ?_; show Awp _ _ _ _ _)
      | (refine Awp.skip ?_; show endK _ _ _ _ _)
      | (refine Awp.skip ?_; show Exists _)
      | (refine Awp.ret ?_; show endK _ _ _ _ _)
      | refine o_offT rfl rfl rfl (by first | exact .inl rfl | exact .inr rfl) ?_
      | refine o_offU rfl rfl rfl (by first | exact .inl rfl | exact .inr rfl) ?_
      | refine o_offF rfl rfl rfl (by first | exact .inl rfl | exact .inr rfl) ?_
      | refine o_len rfl TtOk rfl rfl rfl (fun _ => ?_)
      | refine o_lenOwn rfl TtOk rfl rfl rfl rfl (fun _ => ?_)
      | (refine o_calm rfl TtOk rfl rfl rfl ?_ (fun _ => ?_); first | exact True.intro | exact ⟨rfl, rfl, rfl, rfl⟩ | exact ⟨rfl, True.intro⟩ | exact ⟨rfl, rfl⟩ | exact ⟨rfl, rfl, rfl⟩ | exact rfl | exact ⟨fun h0 => by cases h0, rfl⟩ | exact (fun h0 => by cases h0) | omega)
      | refine o_alloc rfl TtOk rfl rfl rfl (fun bA => ?_)
      | refine o_eqNil TtOk rfl rfl rfl rfl rfl ?_
      | refine o_eqArr8 TtOk rfl rfl rfl rfl rfl rfl (by kernel_rfl) ?_
      | (fail_if_success (refine o_isLit rfl (by first | exact .inl rfl | exact .inr rfl) ?_)); (refine o_splitP rfl rfl (fun hc => ?_) (fun hc => ?_) <;> try (exfalso; omega))
      | (fail_if_success (refine o_isLit rfl (by first | exact .inl rfl | exact .inr rfl) ?_)); (refine o_splitI rfl rfl (fun hc => ?_) (fun hc => ?_) <;> try (exfalso; omega))
      | (fail_if_success (refine o_isLit rfl (by first | exact .inl rfl | exact .inr rfl) ?_)); (refine o_splitN rfl rfl (fun hc => ?_) (fun hc => ?_) <;> try (exfalso; omega))
      | (fail_if_success (refine o_isLit rfl (by first | exact .inl rfl | exact .inr rfl) ?_)); (refine o_split rfl rfl (fun hc => ?_) (fun hc => ?_))
      | (refine o_callN rfl (ropen_spec _) ⟨SLe.of_eq rfl, True.intro⟩ rfl (fun bN => ?_))
      | (refine o_callP rfl rfl rfl rfl (rdone_spec _ _) ⟨sle_ptr, True.intro⟩ (HOLe.refl _) rfl rfl ?_; rintro _ _ ⟨rfl, rfl⟩; refine ⟨_, rfl, _, rfl, ?_⟩)
      | (refine o_callP rfl rfl rfl rfl (rflag_spec _ _ (by assumption)) ⟨sle_ptr, True.intro⟩ (HOLe.refl _) rfl rfl ?_; rintro _ _ ⟨rfl, rfl⟩; refine ⟨_, rfl, _, rfl, ?_⟩)
      | (refine o_callP rfl rfl rfl rfl (rlabel_spec _ _ (by assumption)) ⟨sle_ptr, True.intro⟩ (HOLe.refl _) rfl rfl ?_; rintro _ _ ⟨rfl, rfl⟩; refine ⟨_, rfl, _, rfl, ?_⟩)
      | (refine o_callP rfl rfl rfl rfl (rleft_spec _ _ (by assumption)) ⟨sle_ptr, True.intro⟩ (HOLe.refl _) rfl rfl ?_; rintro _ _ ⟨rfl, rfl⟩; refine ⟨_, rfl, _, rfl, ?_⟩)
      | (refine o_callP rfl rfl rfl rfl (rnumber_spec _ _ (by assumption)) ⟨sle_ptr, True.intro⟩ (HOLe.refl _) rfl rfl ?_; rintro _ _ ⟨rfl, rfl⟩; refine ⟨_, rfl, _, rfl, ?_⟩)
      | (refine o_callP rfl rfl rfl rfl (rtext_spec _ _ (by assumption)) ⟨sle_ptr, True.intro⟩ (HOLe.refl _) rfl rfl ?_; rintro _ _ ⟨rfl, rfl⟩; refine ⟨_, rfl, _, rfl, ?_⟩)
      | (refine o_callPR rfl rfl rfl rfl rfl (wdone_spec _ _ _) ⟨sle_ptr, True.intro⟩ (HOLe.refl _) (HOLe.refl _) rfl rfl ?_; rintro _ _ ⟨rfl, wv, rfl⟩; refine ⟨_, _, rfl, _, rfl, ?_⟩)
      | (refine o_callPR rfl rfl rfl rfl rfl (wflag_spec _ _ _ _ (by first | assumption | omega)) ⟨sle_ptr, SLe.of_eq rfl, True.intro⟩ (HOLe.refl _) (HOLe.refl _) rfl rfl ?_; rintro _ _ ⟨rfl, wv, rfl⟩; refine ⟨_, _, rfl, _, rfl, ?_⟩)
      | (refine o_callPR rfl rfl rfl rfl rfl (wlabel_spec _ _ (by assumption) _ _ (by first | assumption | omega)) ⟨sle_ptr, SLe.of_eq rfl, True.intro⟩ (HOLe.refl _) (HOLe.refl _) rfl rfl ?_; rintro _ _ ⟨rfl, wv, rfl⟩; refine ⟨_, _, rfl, _, rfl, ?_⟩)
      | (refine o_callPR rfl rfl rfl rfl rfl (wnumber_spec _ _ (by first | assumption | omega) _ _ (by first | assumption | omega)) ⟨sle_ptr, SLe.of_eq rfl, True.intro⟩ (HOLe.refl _) (HOLe.refl _) rfl rfl ?_; rintro _ _ ⟨rfl, wv, rfl⟩; refine ⟨_, _, rfl, _, rfl, ?_⟩)
      | (refine o_callPR rfl rfl rfl rfl rfl (wtext_spec _ _ _ _ (by first | assumption | omega)) ⟨sle_ptr, SLe.of_eq rfl, True.intro⟩ (HOLe.refl _) (HOLe.refl _) rfl rfl ?_; rintro _ _ ⟨rfl, wv, rfl⟩; refine ⟨_, _, rfl, _, rfl, ?_⟩)
      | (refine o_call0 rfl (awake_spec) True.intro rfl ?_; rintro _ _ ⟨rfl, rfl⟩; refine ⟨rfl, ?_⟩))
  refine Awp.weaken [] (S' := ⟨58, [(0, .s s), (1, .i .i64 kind), (5, .ptr 10 bN [] 0), (6, .ptr 6 bA [] 0)], [(6, .var bA (wrA (.slice none 0 0) ⟨[], 0⟩)), (1, .row (.slice none 0 0) 5 1 []), (10, .var bN (rdA (RS.open s)))]⟩) ⟨rfl, ⟨SLe.of_eq rfl, SLe.of_eq rfl, sle_ptr, sle_ptr, True.intro⟩, HLe.cons 6 rfl (HOLe.var (CLe.agg (.cons CLe.nilown (.cons (CLe.refl _) .nil)))) (.none (HLe.same rfl (HOLe.refl _) .nil))⟩ ?_
  repeat' (first
    | refine Awp.seq ?_
    | refine Awp.block ?_
    | refine Awp.region ?_
    | (refine Ops.nil ?_; show Awp _ _ _ _ _)
    | (refine Ops.nil ?_; show Exists _)
    | (refine Ops.nil ?_; show endK _ _ _ _ _)
    | (refine Awp.skip ?_; show Awp _ _ _ _ _)
    | (refine Awp.skip ?_; show endK _ _ _ _ _)
    | (refine Awp.skip ?_; show Exists _)
    | (refine Awp.ret ?_; show endK _ _ _ _ _)
    | refine o_offT rfl rfl rfl (by first | exact .inl rfl | exact .inr rfl) ?_
    | refine o_offU rfl rfl rfl (by first | exact .inl rfl | exact .inr rfl) ?_
    | refine o_offF rfl rfl rfl (by first | exact .inl rfl | exact .inr rfl) ?_
    | refine o_len rfl TtOk rfl rfl rfl (fun _ => ?_)
    | refine o_lenOwn rfl TtOk rfl rfl rfl rfl (fun _ => ?_)
    | (refine o_calm rfl TtOk rfl rfl rfl ?_ (fun _ => ?_); first | exact True.intro | exact ⟨rfl, rfl, rfl, rfl⟩ | exact ⟨rfl, True.intro⟩ | exact ⟨rfl, rfl⟩ | exact ⟨rfl, rfl, rfl⟩ | exact rfl | exact ⟨fun h0 => by cases h0, rfl⟩ | exact (fun h0 => by cases h0) | omega)
    | refine o_alloc rfl TtOk rfl rfl rfl (fun bA => ?_)
    | refine o_eqNil TtOk rfl rfl rfl rfl rfl ?_
    | refine o_eqArr8 TtOk rfl rfl rfl rfl rfl rfl (by kernel_rfl) ?_
    | (fail_if_success (refine o_isLit rfl (by first | exact .inl rfl | exact .inr rfl) ?_)); (refine o_splitP rfl rfl (fun hc => ?_) (fun hc => ?_) <;> try (exfalso; omega))
    | (fail_if_success (refine o_isLit rfl (by first | exact .inl rfl | exact .inr rfl) ?_)); (refine o_splitI rfl rfl (fun hc => ?_) (fun hc => ?_) <;> try (exfalso; omega))
    | (fail_if_success (refine o_isLit rfl (by first | exact .inl rfl | exact .inr rfl) ?_)); (refine o_splitN rfl rfl (fun hc => ?_) (fun hc => ?_) <;> try (exfalso; omega))
    | (fail_if_success (refine o_isLit rfl (by first | exact .inl rfl | exact .inr rfl) ?_)); (refine o_split rfl rfl (fun hc => ?_) (fun hc => ?_))
    | refine a_condT rfl ?_
    | refine a_condF rfl ?_
    | (refine a_condP rfl (fun hc => ?_) (fun hc => ?_)) <;> (try (exfalso; omega))
    | (refine a_condI rfl (fun hc => ?_) (fun hc => ?_)) <;> (try (exfalso; omega))
    | (refine a_condN rfl (fun hc => ?_) (fun hc => ?_)) <;> (try (exfalso; omega))
    | (refine Awp.cond rfl (fun hc => ?_) (fun hc => ?_))
    | (refine o_callN rfl (ropen_spec _) ⟨SLe.of_eq rfl, True.intro⟩ rfl (fun bN => ?_))
    | (refine o_callP rfl rfl rfl rfl (rdone_spec _ _) ⟨sle_ptr, True.intro⟩ (HOLe.refl _) rfl rfl ?_; rintro _ _ ⟨rfl, rfl⟩; refine ⟨_, rfl, _, rfl, ?_⟩)
    | (refine o_callP rfl rfl rfl rfl (rflag_spec _ _ (by assumption)) ⟨sle_ptr, True.intro⟩ (HOLe.refl _) rfl rfl ?_; rintro _ _ ⟨rfl, rfl⟩; refine ⟨_, rfl, _, rfl, ?_⟩)
    | (refine o_callP rfl rfl rfl rfl (rlabel_spec _ _ (by assumption)) ⟨sle_ptr, True.intro⟩ (HOLe.refl _) rfl rfl ?_; rintro _ _ ⟨rfl, rfl⟩; refine ⟨_, rfl, _, rfl, ?_⟩)
    | (refine o_callP rfl rfl rfl rfl (rleft_spec _ _ (by assumption)) ⟨sle_ptr, True.intro⟩ (HOLe.refl _) rfl rfl ?_; rintro _ _ ⟨rfl, rfl⟩; refine ⟨_, rfl, _, rfl, ?_⟩)
    | (refine o_callP rfl rfl rfl rfl (rnumber_spec _ _ (by assumption)) ⟨sle_ptr, True.intro⟩ (HOLe.refl _) rfl rfl ?_; rintro _ _ ⟨rfl, rfl⟩; refine ⟨_, rfl, _, rfl, ?_⟩)
    | (refine o_callP rfl rfl rfl rfl (rtext_spec _ _ (by assumption)) ⟨sle_ptr, True.intro⟩ (HOLe.refl _) rfl rfl ?_; rintro _ _ ⟨rfl, rfl⟩; refine ⟨_, rfl, _, rfl, ?_⟩)
    | (refine o_callPR rfl rfl rfl rfl rfl (wdone_spec _ _ _) ⟨sle_ptr, True.intro⟩ (HOLe.refl _) (HOLe.refl _) rfl rfl ?_; rintro _ _ ⟨rfl, wv, rfl⟩; refine ⟨_, _, rfl, _, rfl, ?_⟩)
    | (refine o_callPR rfl rfl rfl rfl rfl (wflag_spec _ _ _ _ (by first | assumption | omega)) ⟨sle_ptr, SLe.of_eq rfl, True.intro⟩ (HOLe.refl _) (HOLe.refl _) rfl rfl ?_; rintro _ _ ⟨rfl, wv, rfl⟩; refine ⟨_, _, rfl, _, rfl, ?_⟩)
    | (refine o_callPR rfl rfl rfl rfl rfl (wlabel_spec _ _ (by assumption) _ _ (by first | assumption | omega)) ⟨sle_ptr, SLe.of_eq rfl, True.intro⟩ (HOLe.refl _) (HOLe.refl _) rfl rfl ?_; rintro _ _ ⟨rfl, wv, rfl⟩; refine ⟨_, _, rfl, _, rfl, ?_⟩)
    | (refine o_callPR rfl rfl rfl rfl rfl (wnumber_spec _ _ (by first | assumption | omega) _ _ (by first | assumption | omega)) ⟨sle_ptr, SLe.of_eq rfl, True.intro⟩ (HOLe.refl _) (HOLe.refl _) rfl rfl ?_; rintro _ _ ⟨rfl, wv, rfl⟩; refine ⟨_, _, rfl, _, rfl, ?_⟩)
    | (refine o_callPR rfl rfl rfl rfl rfl (wtext_spec _ _ _ _ (by first | assumption | omega)) ⟨sle_ptr, SLe.of_eq rfl, True.intro⟩ (HOLe.refl _) (HOLe.refl _) rfl rfl ?_; rintro _ _ ⟨rfl, wv, rfl⟩; refine ⟨_, _, rfl, _, rfl, ?_⟩)
    | (refine o_call0 rfl (awake_spec) True.intro rfl ?_; rintro _ _ ⟨rfl, rfl⟩; refine ⟨rfl, ?_⟩))
  all_goals first
    | exact end_tmp rfl rfl rfl [] [] (CLe.refl _) .nil ⟨rfl, rfl⟩ _ (by first | exact .inl rfl | exact .inr rfl)
    | exact end_tmp rfl rfl rfl [] [] (CLe.of_eq (by show AV.b (_ == s) = AV.b true; rw [n1 (by assumption)]; simp)) .nil ⟨rfl, rfl⟩ _ (by first | exact .inl rfl | exact .inr rfl)
    | exact end_tmp rfl rfl rfl [] [] (CLe.of_eq (by show AV.b (_ == s) = AV.b true; rw [n2 (by assumption)]; simp)) .nil ⟨rfl, rfl⟩ _ (by first | exact .inl rfl | exact .inr rfl)
    | exact end_tmp rfl rfl rfl [] [] (CLe.of_eq (by show AV.b (_ == s) = AV.b true; rw [n3 (by assumption)]; simp)) .nil ⟨rfl, rfl⟩ _ (by first | exact .inl rfl | exact .inr rfl)
    | exact end_tmp rfl rfl rfl [] [] (CLe.of_eq (by show AV.b (_ == s) = AV.b true; rw [n4 (by assumption)]; simp)) .nil ⟨rfl, rfl⟩ _ (by first | exact .inl rfl | exact .inr rfl)
    | exact absurd (by rw [n1 (by assumption)]) hc
    | exact absurd (by rw [n2 (by assumption)]) hc
    | exact absurd (by rw [n3 (by assumption)]) hc
    | exact absurd (by rw [n4 (by assumption)]) hc
    | exact end_tmp rfl rfl rfl [] [] (CLe.of_eq (by show AV.b (((s.length : Nat) : Int) - ((0 : Nat) : Int) == ((s.length : Nat) : Int)) = AV.b true; simp)) .nil ⟨rfl, rfl⟩ _ (by first | exact .inl rfl | exact .inr rfl)
end Go.Proofs.Ytcnkmfmdadmaaaa
