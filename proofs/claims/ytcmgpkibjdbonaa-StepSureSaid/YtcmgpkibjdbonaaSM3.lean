/- law19.StepSure by rules. -/
import Derived.Test.YtcmgpkibjdbonaaSU1
set_option maxHeartbeats 16000000
set_option maxRecDepth 100000
namespace Go.Proofs.Ytcmgpkibjdbonaa
open Go Go.RowKit
theorem hld_len {O : List Lef} (okO : ∀ x ∈ O, x.ok) : ∀ (k : Nat) (T : List Itm) (R : List Lef), RiseI T → (∀ x ∈ T, x.ok) → Rsn R → (hld k T O R).1.length ≤ 1000 ∧ (hld k T O R).2.1.length ≤ 1000
  | 0, _, _, _, _, _ => ⟨Nat.zero_le _, Nat.zero_le _⟩
  | k + 1, T, R, hr, hok, hR => by
    unfold hld
    split
    · exact ⟨Nat.zero_le _, Nat.zero_le _⟩
    split
    · split
      · exact ⟨Nat.zero_le _, Nat.zero_le _⟩
      split
      · exact hld_len okO k _ _ (hr.sublist (List.drop_sublist ..)) (fun x hx => hok x (List.mem_of_mem_drop hx)) (hR.drop _)
      · exact hld_len okO k _ _ (hr.sublist (List.take_sublist ..)) (fun x hx => hok x (List.mem_of_mem_take hx)) (hR.take _)
    · exact ⟨tdT_len hr hok okO, rlT_len hR⟩
theorem extP_len {L : List Lef} {s : Stp} (hok : ∀ x ∈ L, x.ok) (hs : s.ok) : (extP L s).1.length ≤ 1000 ∧ (extP L s).2.1.length ≤ 1000 := by
  unfold extP
  split
  · exact ⟨Nat.zero_le _, Nat.zero_le _⟩
  rename_i h
  have h1 : mkE L = 0 := Classical.byContradiction (fun hh => h (.inl hh))
  have h2 : chkI (topU s.same s.old) = 0 := Classical.byContradiction (fun hh => h (.inr hh))
  exact hld_len hs.old _ _ _ (chkI_rise h2).2.1 (topU_ok hs.same hs.old) (rsn_srt hok h1)
theorem stepSure_spec (l : List Lef) (to : List UInt8) (s0 : Stp) (hl : l.length ≤ 9223372036854775807) (h1 : s0.same.length ≤ 9223372036854775807) (h2 : s0.old.length ≤ 9223372036854775807) (h3 : s0.new.length ≤ 9223372036854775807) (okl : ∀ x ∈ l, x.ok) (okt : to.length = 32) (oks : s0.ok) : Spec Try.prog 8 [.sl 65 (l.map Lef.A), labA to, s0.A] [] (fun v os => v = .b true ∧ os = []) := by
  have f1 := few_spec l 20 hl (by decide)
  have n1 : (l.take 20).length ≤ 20 := by rw [List.length_take]; omega
  have o1 : ∀ x ∈ l.take 20, x.ok := fun x hx => okl x (List.mem_of_mem_take hx)
  have f2 := cut19_spec s0 h1 h2 h3
  obtain ⟨ok1, c1, c2, c3⟩ := cutS_ok oks
  have hA0 : s0.A = .agg [.sl 66 (s0.same.map Itm.A), .sl 65 (s0.old.map Lef.A), .sl 65 (s0.new.map Lef.A)] := rfl
  rw [hA0] at f2 ⊢
  clear okl h1 h2 h3 oks hA0
  generalize l.take 20 = L at *
  generalize cutS s0 = s at *
  have k1 := of_spec L (by omega) o1
  have k2 := top_spec (itmsL L) (by rw [itmsL_len]; omega) (itmsL_ok o1)
  have t1 := topS_len _ (itmsL_ok o1)
  have k3 := scheck_spec (topS (itmsL L)) to s (by omega) (by omega) (by omega) ok1 t1 okt
  have k4 := awake19_spec
  have k5 := leaves16_spec L (by omega)
  have k6 := sextract_spec L s (by omega) o1 ok1 (by omega) (by omega)
  obtain ⟨x1, x2⟩ := extP_len (L := L) (s := s) o1 ok1
  have k7 := sum_spec (extP L s).1 (by omega)
  have k8 := sum_spec (extP L s).2.1 (by omega)
  have hE : chkI (itmsL L) = mkE L := rfl
  rw [hE] at k2
  have hsure := fun h1 h2 => step_sure (L := L) (s := s) (to := to) o1 (by omega) ok1 h1 h2
  have k9 := leaves16_spec s.old (by omega)
  have k10 := leaves16_spec s.new (by omega)
  have k11 := behind_spec L s.old s.new (by omega) (by omega) (by omega)
  have hbl : (behL L (s.old.map Lef.l) s.new).length ≤ 80 := by
    unfold behL
    rw [List.length_append]
    have := List.length_filter_le (notIn (s.old.map Lef.l)) L
    omega
  have hbo : ∀ x ∈ behL L (s.old.map Lef.l) s.new, x.ok := fun x hx => by
    rcases List.mem_append.1 hx with hx | hx
    · exact o1 x (List.mem_filter.1 hx).1
    · exact ok1.new x hx
  have k12 := of_spec (behL L (s.old.map Lef.l) s.new) (by omega) hbo
  have k13 := top_spec (itmsL (behL L (s.old.map Lef.l) s.new)) (by rw [itmsL_len]; omega) (itmsL_ok hbo)
  obtain ⟨same, old, new⟩ := s
  dsimp only at k9 k10 k11 k12 k13 c1 c2 c3 hsure hbl
  have hA : Stp.A ⟨same, old, new⟩ = .agg [.sl 66 (same.map Itm.A), .sl 65 (old.map Lef.A), .sl 65 (new.map Lef.A)] := rfl
  rw [hA] at f2 k3 k6
  generalize hB : behL L (old.map Lef.l) new = B at *
  generalize topS (itmsL B) = tb at *
  generalize chkI (itmsL B) = cb at *
  generalize itmsL B = IB at *
  generalize stE (topS (itmsL L)) to ⟨same, old, new⟩ = st at *
  generalize mkE L = e at *
  generalize topS (itmsL L) = x at *
  generalize itmsL L = I1 at *
  generalize hq : extP L ⟨same, old, new⟩ = q at *
  obtain ⟨a, b, c⟩ := q
  dsimp only at k6 k7 k8 x1 x2
  clear hq hA ok1 hbo okt t1 hE x1 x2 hB
  refine spec_of TtOk [] Try.func8 rfl Try.ntmps8 (by kernel_rfl) rfl rfl (fun C => ?_) rfl
  by_cases he : e ≠ 0
  · clear hsure
    repeat' (first | (refine o_freezeR 28 0 rfl rfl rfl ?_) | refine Awp.seq ?_ | refine Awp.region ?_ | (refine Ops.nil ?_; show Awp _ _ _ _ _) | (refine Awp.ret ?_; show endK _ _ _ _ _) | refine o_noF rfl rfl rfl ?_ | (refine o_calm rfl TtOk rfl rfl rfl ?_ (fun _ => ?_); first | exact True.intro | exact ⟨rfl, rfl, rfl, rfl⟩ | exact ⟨rfl, True.intro⟩ | exact ⟨rfl, rfl⟩ | exact ⟨rfl, rfl, rfl⟩ | exact rfl | exact ⟨fun h0 => by cases h0, rfl⟩ | exact (fun h0 => by cases h0) | exact ⟨rfl, by omega⟩ | exact ⟨Nat.succ_ne_zero _, rfl⟩ | omega) | refine o_alloc (d := 7) rfl TtOk rfl rfl rfl (fun b7 => ?_) | refine o_box (d := 4) rfl rfl rfl rfl (fun b4 => ?_) | refine o_box (d := 5) rfl rfl rfl rfl (fun b5 => ?_) | refine o_store TtOk rfl rfl rfl rfl rfl rfl rfl ⟨rfl, rfl⟩ rfl rfl rfl rfl rfl ?_ | (fail_if_success (refine o_isLit rfl (by first | exact .inl rfl | exact .inr rfl) ?_)); (refine o_splitN rfl rfl (fun hc => ?_) (fun hc => ?_) <;> try (exfalso; omega)) | refine a_condT rfl ?_ | (refine o_callR rfl f1 ⟨SLe.of_eq rfl, SLe.of_eq rfl, True.intro⟩ rfl (fun vR1 => ?_)) | (refine o_call0 rfl (f2) ⟨SLe.of_eq rfl, True.intro⟩ rfl ?_; rintro _ _ ⟨rfl, rfl⟩; refine ⟨rfl, ?_⟩) | (refine o_call0 rfl (k1) ⟨SLe.of_eq rfl, True.intro⟩ rfl ?_; rintro _ _ ⟨rfl, rfl⟩; refine ⟨rfl, ?_⟩) | (refine o_call0 rfl (k2) ⟨SLe.of_eq rfl, True.intro⟩ rfl ?_; rintro _ _ ⟨rfl, rfl⟩; refine ⟨rfl, ?_⟩) | (refine o_call0 rfl (k4) True.intro rfl ?_; rintro _ _ ⟨rfl, rfl⟩; refine ⟨rfl, ?_⟩))
    all_goals exact end_tmp rfl rfl rfl [] [] (CLe.of_eq rfl) .nil ⟨rfl, rfl⟩ _ (.inl rfl)
  have he := Decidable.not_not.1 he
  subst he
  by_cases hst : st ≠ 0
  · clear hsure
    repeat' (first | (refine o_freezeR 28 0 rfl rfl rfl ?_) | refine Awp.seq ?_ | refine Awp.region ?_ | (refine Ops.nil ?_; show Awp _ _ _ _ _) | (refine Awp.ret ?_; show endK _ _ _ _ _) | (refine o_calm rfl TtOk rfl rfl rfl ?_ (fun _ => ?_); first | exact True.intro | exact ⟨rfl, rfl, rfl, rfl⟩ | exact ⟨rfl, True.intro⟩ | exact ⟨rfl, rfl⟩ | exact ⟨rfl, rfl, rfl⟩ | exact rfl | exact ⟨fun h0 => by cases h0, rfl⟩ | exact (fun h0 => by cases h0) | exact ⟨rfl, by omega⟩ | exact ⟨Nat.succ_ne_zero _, rfl⟩ | omega) | refine o_alloc (d := 7) rfl TtOk rfl rfl rfl (fun b7 => ?_) | refine o_box (d := 4) rfl rfl rfl rfl (fun b4 => ?_) | refine o_box (d := 5) rfl rfl rfl rfl (fun b5 => ?_) | refine o_store TtOk rfl rfl rfl rfl rfl rfl rfl ⟨rfl, rfl⟩ rfl rfl rfl rfl rfl ?_ | (refine a_condN rfl (fun hc => ?_) (fun hc => ?_)) <;> (try (exfalso; omega)) | (refine o_callR rfl f1 ⟨SLe.of_eq rfl, SLe.of_eq rfl, True.intro⟩ rfl (fun vR1 => ?_)) | (refine o_call0 rfl (f2) ⟨SLe.of_eq rfl, True.intro⟩ rfl ?_; rintro _ _ ⟨rfl, rfl⟩; refine ⟨rfl, ?_⟩) | (refine o_call0 rfl (k1) ⟨SLe.of_eq rfl, True.intro⟩ rfl ?_; rintro _ _ ⟨rfl, rfl⟩; refine ⟨rfl, ?_⟩) | (refine o_call0 rfl (k2) ⟨SLe.of_eq rfl, True.intro⟩ rfl ?_; rintro _ _ ⟨rfl, rfl⟩; refine ⟨rfl, ?_⟩) | (refine o_call0 rfl (k3) ⟨SLe.of_eq rfl, SLe.of_eq rfl, SLe.of_eq rfl, True.intro⟩ rfl ?_; rintro _ _ ⟨rfl, rfl⟩; refine ⟨rfl, ?_⟩) | (refine o_call0 rfl (k4) True.intro rfl ?_; rintro _ _ ⟨rfl, rfl⟩; refine ⟨rfl, ?_⟩))
    all_goals exact end_tmp rfl rfl rfl [] [] (CLe.of_eq rfl) .nil ⟨rfl, rfl⟩ _ (.inl rfl)
  have hst := Decidable.not_not.1 hst
  subst hst
  have hsure := hsure rfl rfl
  repeat' (first | (refine o_freezeR 28 0 rfl rfl rfl ?_) | refine Awp.seq ?_ | refine Awp.block ?_ | refine Awp.region ?_ | (refine Ops.nil ?_; show Awp _ _ _ _ _) | (refine Awp.skip ?_; show Awp _ _ _ _ _) | refine o_len rfl TtOk rfl rfl rfl (fun _ => ?_) | (refine o_calm rfl TtOk rfl rfl rfl ?_ (fun _ => ?_); first | exact True.intro | exact ⟨rfl, rfl, rfl, rfl⟩ | exact ⟨rfl, True.intro⟩ | exact ⟨rfl, rfl⟩ | exact ⟨rfl, rfl, rfl⟩ | exact rfl | exact ⟨fun h0 => by cases h0, rfl⟩ | exact (fun h0 => by cases h0) | exact ⟨rfl, by omega⟩ | exact ⟨Nat.succ_ne_zero _, rfl⟩ | omega) | refine o_alloc (d := 7) rfl TtOk rfl rfl rfl (fun b7 => ?_) | refine o_box (d := 4) rfl rfl rfl rfl (fun b4 => ?_) | refine o_box (d := 5) rfl rfl rfl rfl (fun b5 => ?_) | refine o_store TtOk rfl rfl rfl rfl rfl rfl rfl ⟨rfl, rfl⟩ rfl rfl rfl rfl rfl ?_ | refine a_condF rfl ?_ | (refine o_callR rfl f1 ⟨SLe.of_eq rfl, SLe.of_eq rfl, True.intro⟩ rfl (fun vR1 => ?_)) | (refine o_call0 rfl (f2) ⟨SLe.of_eq rfl, True.intro⟩ rfl ?_; rintro _ _ ⟨rfl, rfl⟩; refine ⟨rfl, ?_⟩) | (refine o_call0 rfl (k1) ⟨SLe.of_eq rfl, True.intro⟩ rfl ?_; rintro _ _ ⟨rfl, rfl⟩; refine ⟨rfl, ?_⟩) | (refine o_call0 rfl (k2) ⟨SLe.of_eq rfl, True.intro⟩ rfl ?_; rintro _ _ ⟨rfl, rfl⟩; refine ⟨rfl, ?_⟩) | (refine o_call0 rfl (k3) ⟨SLe.of_eq rfl, SLe.of_eq rfl, SLe.of_eq rfl, True.intro⟩ rfl ?_; rintro _ _ ⟨rfl, rfl⟩; refine ⟨rfl, ?_⟩) | (refine o_call0 rfl (k5) ⟨SLe.of_eq rfl, True.intro⟩ rfl ?_; rintro _ _ ⟨rfl, rfl⟩; refine ⟨rfl, ?_⟩))
  refine Awp.loop (fun i : Nat => ⟨152, [(52, .i .i64 i), (51, .i .i64 old.length), (50, .sl 65 (old.map Lef.A)), (9, .sl 65 (L.map Lef.A)), (5, .ptr 5 b5 [] 0), (4, .ptr 4 b4 [] 0), (0, .sl 65 (L.map Lef.A))], [(5, .var b5 (.agg [.sl 66 (same.map Itm.A), .sl 65 (old.map Lef.A), .sl 65 (new.map Lef.A)])), (4, .var b4 (labA to))]⟩) (fun i => i ≤ old.length) (fun i => old.length - i) [] 0 (Nat.zero_le _) ?_ ?_
  · exact ⟨rfl, ⟨sle_i rfl, sle_i rfl, sle_sl rfl, sle_sl rfl, sle_ptr, sle_ptr, sle_sl rfl, True.intro⟩, HLe.cons 5 rfl (HOLe.refl _) (HLe.cons 4 rfl (HOLe.refl _) .nil)⟩
  intro i hi
  by_cases hlt : i < old.length
  · have hi1 : ((i : Int) + 1 = ((i + 1 : Nat) : Int)) := by omega
    repeat' (first | refine Awp.seq ?_ | refine Awp.block ?_ | refine Awp.region ?_ | (refine Ops.nil ?_; show Awp _ _ _ _ _) | (refine Awp.skip ?_; show Awp _ _ _ _ _) | refine o_len rfl TtOk rfl rfl rfl (fun _ => ?_) | (refine o_calm rfl TtOk rfl rfl rfl ?_ (fun _ => ?_); first | exact True.intro | exact ⟨rfl, rfl, rfl, rfl⟩ | exact ⟨rfl, True.intro⟩ | exact ⟨rfl, rfl⟩ | exact ⟨rfl, rfl, rfl⟩ | exact rfl | exact ⟨fun h0 => by cases h0, rfl⟩ | exact (fun h0 => by cases h0) | exact ⟨rfl, by omega⟩ | exact ⟨Nat.succ_ne_zero _, rfl⟩ | omega) | refine o_alloc (d := 11) rfl TtOk rfl rfl rfl (fun b11 => ?_) | refine o_store TtOk rfl rfl rfl rfl rfl rfl rfl ⟨rfl, rfl⟩ rfl rfl rfl rfl rfl ?_ | (refine o_index rfl TtOk rfl rfl rfl rfl rfl rfl ?_ (getq_nat ?_) ?_; omega; omega) | (refine a_condP rfl (fun hc => ?_) (fun hc => ?_)) <;> (try (exfalso; omega)))
    refine Awp.loop (fun j : Nat => ⟨152, [(58, .i .i64 j), (57, .i .i64 L.length), (56, .sl 65 (L.map Lef.A)), (12, .b ((L.take j).any (fun y => eqLf old[i] y))), (11, .ptr 11 b11 [] 0), (52, .i .i64 i), (51, .i .i64 old.length), (50, .sl 65 (old.map Lef.A)), (9, .sl 65 (L.map Lef.A)), (5, .ptr 5 b5 [] 0), (4, .ptr 4 b4 [] 0), (0, .sl 65 (L.map Lef.A))], [(11, .var b11 (.agg [labA old[i].l, labA old[i].v, .i .i64 old[i].t])), (5, .var b5 (.agg [.sl 66 (same.map Itm.A), .sl 65 (old.map Lef.A), .sl 65 (new.map Lef.A)])), (4, .var b4 (labA to))]⟩) (fun j => j ≤ L.length) (fun j => L.length - j) [] 0 (Nat.zero_le _) ?_ ?_
    · exact ⟨rfl, ⟨sle_i rfl, sle_i rfl, sle_sl rfl, sle_b rfl, sle_ptr, sle_i rfl, sle_i rfl, sle_sl rfl, sle_sl rfl, sle_ptr, sle_ptr, sle_sl rfl, True.intro⟩, HLe.cons 11 rfl (HOLe.refl _) (HLe.cons 5 rfl (HOLe.refl _) (HLe.cons 4 rfl (HOLe.refl _) .nil))⟩
    intro j hj
    by_cases hjl : j < L.length
    · have hj1 : ((j : Int) + 1 = ((j + 1 : Nat) : Int)) := by omega
      have hs : (L.take (j + 1)).any (fun y => eqLf old[i] y) = ((L.take j).any (fun y => eqLf old[i] y) || eqLf old[i] L[j]) := by
        rw [List.take_succ_eq_append_getElem hjl, List.any_append]; simp
      clear f1 f2 k1 k2 k3 k4 k5 k6 k7 k8 k9 k10 k11 k12 k13 hsure
      cases hst : (L.take j).any (fun y => eqLf old[i] y) with
      | true =>
        rw [hst] at hs
        repeat' (first | refine Awp.seq ?_ | refine Awp.block ?_ | refine Awp.region ?_ | (refine Ops.nil ?_; show Awp _ _ _ _ _) | (refine Ops.nil ?_; show Exists _) | (refine Awp.skip ?_; show Awp _ _ _ _ _) | refine o_noF rfl rfl rfl ?_ | (refine o_add rfl rfl rfl rfl ?_ ?_; omega) | (refine o_calm rfl TtOk rfl rfl rfl ?_ (fun _ => ?_); first | exact True.intro | exact ⟨rfl, rfl, rfl, rfl⟩ | exact ⟨rfl, True.intro⟩ | exact ⟨rfl, rfl⟩ | exact ⟨rfl, rfl, rfl⟩ | exact rfl | exact ⟨fun h0 => by cases h0, rfl⟩ | exact (fun h0 => by cases h0) | exact ⟨rfl, by omega⟩ | exact ⟨Nat.succ_ne_zero _, rfl⟩ | omega) | refine o_alloc (d := 14) rfl TtOk rfl rfl rfl (fun b14 => ?_) | refine o_store TtOk rfl rfl rfl rfl rfl rfl rfl ⟨rfl, rfl⟩ rfl rfl rfl rfl rfl ?_ | (refine o_index rfl TtOk rfl rfl rfl rfl rfl rfl ?_ (getq_nat ?_) ?_; omega; omega) | (refine a_condP rfl (fun hc => ?_) (fun hc => ?_)) <;> (try (exfalso; omega)))
        all_goals exact ⟨j + 1, [], hjl, by show L.length - (j + 1) < L.length - j; omega, rfl, ⟨sle_i hj1, sle_i rfl, sle_sl rfl, sle_b (by rw [hs]; rfl), sle_ptr, sle_i rfl, sle_i rfl, sle_sl rfl, sle_sl rfl, sle_ptr, sle_ptr, sle_sl rfl, True.intro⟩, HLe.cons 11 rfl (HOLe.refl _) (HLe.cons 5 rfl (HOLe.refl _) (HLe.cons 4 rfl (HOLe.refl _) .nil))⟩
      | false =>
        rw [hst] at hs
        repeat' (first | refine Awp.seq ?_ | refine Awp.block ?_ | refine Awp.region ?_ | (refine Ops.nil ?_; show Awp _ _ _ _ _) | (refine Ops.nil ?_; show Exists _) | (refine Awp.skip ?_; show Awp _ _ _ _ _) | (refine o_add rfl rfl rfl rfl ?_ ?_; omega) | (refine o_calm rfl TtOk rfl rfl rfl ?_ (fun _ => ?_); first | exact True.intro | exact ⟨rfl, rfl, rfl, rfl⟩ | exact ⟨rfl, True.intro⟩ | exact ⟨rfl, rfl⟩ | exact ⟨rfl, rfl, rfl⟩ | exact rfl | exact ⟨fun h0 => by cases h0, rfl⟩ | exact (fun h0 => by cases h0) | exact ⟨rfl, by omega⟩ | exact ⟨Nat.succ_ne_zero _, rfl⟩ | omega) | refine o_alloc (d := 14) rfl TtOk rfl rfl rfl (fun b14 => ?_) | refine o_store TtOk rfl rfl rfl rfl rfl rfl rfl ⟨rfl, rfl⟩ rfl rfl rfl rfl rfl ?_ | (refine o_index rfl TtOk rfl rfl rfl rfl rfl rfl ?_ (getq_nat ?_) ?_; omega; omega) | (refine a_condP rfl (fun hc => ?_) (fun hc => ?_)) <;> (try (exfalso; omega)) | (refine o_eqLefN (p := old[i]) (q := L[j]) rfl rfl rfl rfl ?_))
        all_goals exact ⟨j + 1, [], hjl, by show L.length - (j + 1) < L.length - j; omega, rfl, ⟨sle_i hj1, sle_i rfl, sle_sl rfl, sle_b (by rw [hs]; rfl), sle_ptr, sle_i rfl, sle_i rfl, sle_sl rfl, sle_sl rfl, sle_ptr, sle_ptr, sle_sl rfl, True.intro⟩, HLe.cons 11 rfl (HOLe.refl _) (HLe.cons 5 rfl (HOLe.refl _) (HLe.cons 4 rfl (HOLe.refl _) .nil))⟩
    · have hje : j = L.length := by omega
      subst hje
      rw [List.take_length]
      clear f1 f2 k1 k2 k3 k5 k9 k10 k11 k12 k13
      cases hst : L.any (fun y => eqLf old[i] y) with
      | true =>
        repeat' (first | refine Awp.seq ?_ | refine Awp.region ?_ | (refine Ops.nil ?_; show Awp _ _ _ _ _) | (refine Ops.nil ?_; show Exists _) | (refine Awp.skip ?_; show Awp _ _ _ _ _) | (refine Awp.exit ?_; show Awp _ _ _ _ _) | (refine o_add rfl rfl rfl rfl ?_ ?_; omega) | (refine o_calm rfl TtOk rfl rfl rfl ?_ (fun _ => ?_); first | exact True.intro | exact ⟨rfl, rfl, rfl, rfl⟩ | exact ⟨rfl, True.intro⟩ | exact ⟨rfl, rfl⟩ | exact ⟨rfl, rfl, rfl⟩ | exact rfl | exact ⟨fun h0 => by cases h0, rfl⟩ | exact (fun h0 => by cases h0) | exact ⟨rfl, by omega⟩ | exact ⟨Nat.succ_ne_zero _, rfl⟩ | omega) | refine a_condF rfl ?_ | (refine a_condP rfl (fun hc => ?_) (fun hc => ?_)) <;> (try (exfalso; omega)))
        all_goals exact ⟨i + 1, [], hlt, by show old.length - (i + 1) < old.length - i; omega, rfl, ⟨sle_i hi1, sle_i rfl, sle_sl rfl, sle_sl rfl, sle_ptr, sle_ptr, sle_sl rfl, True.intro⟩, HLe.cons 5 rfl (HOLe.refl _) (HLe.cons 4 rfl (HOLe.refl _) .nil)⟩
      | false =>
        have hC : Clh (a, b, c) := by
          rcases hsure with h | ⟨h, -⟩
          · exact h
          · have := List.any_eq_false.1 hst _ (h old[i] (List.getElem_mem hlt))
            exact absurd (eqLf_self _) this
        obtain ⟨hc, hne, hsum⟩ := hC
        dsimp only at hc hne hsum
        subst hc
        rw [hsum] at k7
        have hq3 : (!(a == b)) = true := by rw [beq_eq_false_iff_ne.2 hne]; rfl
        have hq4 : (shaN b == shaN b) = true := beq_self_eq_true _
        clear hsum hne hsure
        generalize shaN b = sb at *
        repeat' (first | (rw [hq4]) | (rw [hq3]) | refine Awp.seq ?_ | refine Awp.region ?_ | (refine Ops.nil ?_; show Awp _ _ _ _ _) | (refine Awp.exit ?_; show Awp _ _ _ _ _) | (refine Awp.ret ?_; show endK _ _ _ _ _) | (refine o_calm rfl TtOk rfl rfl rfl ?_ (fun _ => ?_); first | exact True.intro | exact ⟨rfl, rfl, rfl, rfl⟩ | exact ⟨rfl, True.intro⟩ | exact ⟨rfl, rfl⟩ | exact ⟨rfl, rfl, rfl⟩ | exact rfl | exact ⟨fun h0 => by cases h0, rfl⟩ | exact (fun h0 => by cases h0) | exact ⟨rfl, by omega⟩ | exact ⟨Nat.succ_ne_zero _, rfl⟩ | omega) | refine o_eqArr8 TtOk rfl rfl rfl rfl rfl rfl (by kernel_rfl) ?_ | refine a_condT rfl ?_ | (refine a_condP rfl (fun hc => ?_) (fun hc => ?_)) <;> (try (exfalso; omega)) | (refine o_call0 rfl (k4) True.intro rfl ?_; rintro _ _ ⟨rfl, rfl⟩; refine ⟨rfl, ?_⟩) | (refine o_call0 rfl (k6) ⟨SLe.of_eq rfl, SLe.of_eq rfl, True.intro⟩ rfl ?_; rintro _ _ ⟨rfl, rfl⟩; refine ⟨rfl, ?_⟩) | (refine o_call0 rfl (k7) ⟨SLe.of_eq rfl, True.intro⟩ rfl ?_; rintro _ _ ⟨rfl, rfl⟩; refine ⟨rfl, ?_⟩) | (refine o_call0 rfl (k8) ⟨SLe.of_eq rfl, True.intro⟩ rfl ?_; rintro _ _ ⟨rfl, rfl⟩; refine ⟨rfl, ?_⟩))
        all_goals exact end_tmp rfl rfl rfl [] [] (CLe.of_eq rfl) .nil ⟨rfl, rfl⟩ _ (.inl rfl)
  · have hie : i = old.length := by omega
    subst hie
    clear f1 f2 k1 k2 k3 k5
    repeat' (first | refine Awp.seq ?_ | refine Awp.block ?_ | refine Awp.region ?_ | (refine Ops.nil ?_; show Awp _ _ _ _ _) | (refine Awp.exit ?_; show Awp _ _ _ _ _) | refine o_len rfl TtOk rfl rfl rfl (fun _ => ?_) | (refine o_calm rfl TtOk rfl rfl rfl ?_ (fun _ => ?_); first | exact True.intro | exact ⟨rfl, rfl, rfl, rfl⟩ | exact ⟨rfl, True.intro⟩ | exact ⟨rfl, rfl⟩ | exact ⟨rfl, rfl, rfl⟩ | exact rfl | exact ⟨fun h0 => by cases h0, rfl⟩ | exact (fun h0 => by cases h0) | exact ⟨rfl, by omega⟩ | exact ⟨Nat.succ_ne_zero _, rfl⟩ | omega) | refine o_buildSlice (d := 103) TtOk rfl rfl rfl rfl rfl rfl rfl rfl rfl rfl rfl (by repeat' (first | exact True.intro | exact rfl | refine ⟨?_, ?_⟩)) (fun v103 => ?_) | (refine a_condP rfl (fun hc => ?_) (fun hc => ?_)) <;> (try (exfalso; omega)) | refine a_any 20 [] [] [] [0, 1, 4, 2, 5, 3, 6, 7, 8] (by kernel_rfl) (by kernel_rfl) (by kernel_rfl) rfl rfl rfl ?_ | (refine o_call0 rfl (k9) ⟨SLe.of_eq rfl, True.intro⟩ rfl ?_; rintro _ _ ⟨rfl, rfl⟩; refine ⟨rfl, ?_⟩) | (refine o_call0 rfl (k10) ⟨SLe.of_eq rfl, True.intro⟩ rfl ?_; rintro _ _ ⟨rfl, rfl⟩; refine ⟨rfl, ?_⟩) | (refine o_call0 rfl (k11) ⟨SLe.of_eq rfl, SLe.of_eq rfl, SLe.of_eq rfl, True.intro⟩ rfl ?_; rintro _ _ ⟨rfl, rfl⟩; refine ⟨rfl, ?_⟩))
    refine Awp.loop (fun q : Nat × Value => ⟨152, [(106, .i .i64 q.1), (105, .i .i64 B.length), (104, .sl 65 (B.map Lef.A)), (19, .own 103 q.2), (5, .ptr 5 b5 [] 0), (4, .ptr 4 b4 [] 0), (0, .sl 65 (L.map Lef.A))], [(103, .row q.2 29 65 ((B.take q.1).map Lef.A)), (5, .var b5 (.agg [.sl 66 (same.map Itm.A), .sl 65 (old.map Lef.A), .sl 65 (new.map Lef.A)])), (4, .var b4 (labA to))]⟩) (fun q => q.1 ≤ B.length) (fun q => B.length - q.1) [] (0, v103) (Nat.zero_le _) ?_ ?_
    · exact ⟨rfl, ⟨sle_i rfl, sle_i rfl, sle_sl rfl, sle_own, sle_ptr, sle_ptr, sle_sl rfl, True.intro⟩, HLe.cons 103 rfl (HOLe.refl _) (HLe.cons 5 rfl (HOLe.refl _) (HLe.cons 4 rfl (HOLe.refl _) .nil))⟩
    rintro ⟨k, v⟩ hk
    dsimp only at hk ⊢
    by_cases hkl : k < B.length
    · have hk1 : ((k : Int) + 1 = ((k + 1 : Nat) : Int)) := by omega
      have hs : B.take (k + 1) = B.take k ++ [B[k]] := List.take_succ_eq_append_getElem hkl
      have hln : (B.take k).length ≤ 80 := by rw [List.length_take]; omega
      clear k4 k6 k7 k8 k9 k10 k11 k12 k13 hsure
      repeat' (first | refine Awp.seq ?_ | refine Awp.block ?_ | refine Awp.region ?_ | (refine Ops.nil ?_; show Awp _ _ _ _ _) | (refine Ops.nil ?_; show Exists _) | (refine Awp.skip ?_; show Awp _ _ _ _ _) | (refine o_add rfl rfl rfl rfl ?_ ?_; omega) | (refine o_calm rfl TtOk rfl rfl rfl ?_ (fun _ => ?_); first | exact True.intro | exact ⟨rfl, rfl, rfl, rfl⟩ | exact ⟨rfl, True.intro⟩ | exact ⟨rfl, rfl⟩ | exact ⟨rfl, rfl, rfl⟩ | exact rfl | exact ⟨fun h0 => by cases h0, rfl⟩ | exact (fun h0 => by cases h0) | exact ⟨rfl, by omega⟩ | exact ⟨Nat.succ_ne_zero _, rfl⟩ | omega) | refine o_alloc (d := 21) rfl TtOk rfl rfl rfl (fun b21 => ?_) | refine o_store TtOk rfl rfl rfl rfl rfl rfl rfl ⟨rfl, rfl⟩ rfl rfl rfl rfl rfl ?_ | (refine o_index rfl TtOk rfl rfl rfl rfl rfl rfl ?_ (getq_nat ?_) ?_; omega; omega) | refine o_buildSlice (d := 112) TtOk rfl rfl rfl rfl rfl rfl rfl rfl rfl rfl rfl (by repeat' (first | exact True.intro | exact rfl | refine ⟨?_, ?_⟩)) (fun v112 => ?_) | (refine o_append TtOk rfl rfl rfl rfl rfl rfl rfl rfl rfl (by first | exact True.intro | exact rfl) rfl rfl (fun _ => rfl) ?_ ?_ (fun _ => ?_); ((repeat' (first | rw [List.length_append] | rw [List.length_map] | rw [List.length_cons] | rw [List.length_nil] | rw [List.length_take] | rw [List.length_drop])) <;> omega); ((repeat' (first | rw [List.length_append] | rw [List.length_map] | rw [List.length_cons] | rw [List.length_nil] | rw [List.length_take] | rw [List.length_drop])) <;> omega)) | (refine a_condP rfl (fun hc => ?_) (fun hc => ?_)) <;> (try (exfalso; omega)))
      all_goals exact ⟨(k + 1, _), [], hkl, by show B.length - (k + 1) < B.length - k; omega, rfl, ⟨sle_i hk1, sle_i rfl, sle_sl rfl, sle_own, sle_ptr, sle_ptr, sle_sl rfl, True.intro⟩, HLe.cons 103 rfl (HOLe.row (by rw [hs, List.map_append]; rfl)) (HLe.cons 5 rfl (HOLe.refl _) (HLe.cons 4 rfl (HOLe.refl _) .nil))⟩
    · have hke : k = B.length := by omega
      subst hke
      rw [List.take_length]
      by_cases hT : cb = 0 ∧ tb = to
      · obtain ⟨rfl, rfl⟩ := hT
        have hq1 : (tb == tb) = true := beq_self_eq_true _
        clear k6 k7 k8 hsure
        repeat' (first | (rw [hq1]) | (refine o_freezeR 103 19 rfl rfl rfl ?_) | refine Awp.seq ?_ | refine Awp.region ?_ | (refine Ops.nil ?_; show Awp _ _ _ _ _) | (refine Awp.exit ?_; show Awp _ _ _ _ _) | (refine Awp.ret ?_; show endK _ _ _ _ _) | (refine o_calm rfl TtOk rfl rfl rfl ?_ (fun _ => ?_); first | exact True.intro | exact ⟨rfl, rfl, rfl, rfl⟩ | exact ⟨rfl, True.intro⟩ | exact ⟨rfl, rfl⟩ | exact ⟨rfl, rfl, rfl⟩ | exact rfl | exact ⟨fun h0 => by cases h0, rfl⟩ | exact (fun h0 => by cases h0) | exact ⟨rfl, by omega⟩ | exact ⟨Nat.succ_ne_zero _, rfl⟩ | omega) | refine o_alloc (d := 22) rfl TtOk rfl rfl rfl (fun b22 => ?_) | refine o_store TtOk rfl rfl rfl rfl rfl rfl rfl ⟨rfl, rfl⟩ rfl rfl rfl rfl rfl ?_ | refine o_eqArr8 TtOk rfl rfl rfl rfl rfl rfl (by kernel_rfl) ?_ | refine a_condT rfl ?_ | (refine a_condP rfl (fun hc => ?_) (fun hc => ?_)) <;> (try (exfalso; omega)) | (refine o_call0 rfl (k4) True.intro rfl ?_; rintro _ _ ⟨rfl, rfl⟩; refine ⟨rfl, ?_⟩) | (refine o_call0 rfl (k12) ⟨SLe.of_eq rfl, True.intro⟩ rfl ?_; rintro _ _ ⟨rfl, rfl⟩; refine ⟨rfl, ?_⟩) | (refine o_call0 rfl (k13) ⟨SLe.of_eq rfl, True.intro⟩ rfl ?_; rintro _ _ ⟨rfl, rfl⟩; refine ⟨rfl, ?_⟩))
        all_goals exact end_tmp rfl rfl rfl [] [] (CLe.of_eq rfl) .nil ⟨rfl, rfl⟩ _ (.inl rfl)
      · have hC : Clh (a, b, c) := by
          rcases hsure with h | ⟨-, h⟩
          · exact h
          · exact absurd h hT
        obtain ⟨hc, hne, hsum⟩ := hC
        dsimp only at hc hne hsum
        subst hc
        rw [hsum] at k7
        have hq3 : (!(a == b)) = true := by rw [beq_eq_false_iff_ne.2 hne]; rfl
        have hq4 : (shaN b == shaN b) = true := beq_self_eq_true _
        clear hsum hne hsure
        generalize shaN b = sb at *
        by_cases hcb : cb = 0
        · have hq1 : (tb == to) = false := beq_eq_false_iff_ne.2 (fun h => hT ⟨hcb, h⟩)
          subst hcb
          repeat' (first | (rw [hq4]) | (rw [hq3]) | (rw [hq1]) | (refine o_freezeR 103 19 rfl rfl rfl ?_) | refine Awp.seq ?_ | refine Awp.region ?_ | (refine Ops.nil ?_; show Awp _ _ _ _ _) | (refine Awp.skip ?_; show Awp _ _ _ _ _) | (refine Awp.exit ?_; show Awp _ _ _ _ _) | (refine Awp.ret ?_; show endK _ _ _ _ _) | (refine o_calm rfl TtOk rfl rfl rfl ?_ (fun _ => ?_); first | exact True.intro | exact ⟨rfl, rfl, rfl, rfl⟩ | exact ⟨rfl, True.intro⟩ | exact ⟨rfl, rfl⟩ | exact ⟨rfl, rfl, rfl⟩ | exact rfl | exact ⟨fun h0 => by cases h0, rfl⟩ | exact (fun h0 => by cases h0) | exact ⟨rfl, by omega⟩ | exact ⟨Nat.succ_ne_zero _, rfl⟩ | omega) | refine o_alloc (d := 22) rfl TtOk rfl rfl rfl (fun b22 => ?_) | refine o_store TtOk rfl rfl rfl rfl rfl rfl rfl ⟨rfl, rfl⟩ rfl rfl rfl rfl rfl ?_ | refine o_eqArr8 TtOk rfl rfl rfl rfl rfl rfl (by kernel_rfl) ?_ | refine a_condF rfl ?_ | (refine a_condP rfl (fun hc => ?_) (fun hc => ?_)) <;> (try (exfalso; omega)) | (refine o_call0 rfl (k4) True.intro rfl ?_; rintro _ _ ⟨rfl, rfl⟩; refine ⟨rfl, ?_⟩) | (refine o_call0 rfl (k12) ⟨SLe.of_eq rfl, True.intro⟩ rfl ?_; rintro _ _ ⟨rfl, rfl⟩; refine ⟨rfl, ?_⟩) | (refine o_call0 rfl (k13) ⟨SLe.of_eq rfl, True.intro⟩ rfl ?_; rintro _ _ ⟨rfl, rfl⟩; refine ⟨rfl, ?_⟩) | (refine o_call0 rfl (k6) ⟨SLe.of_eq rfl, SLe.of_eq rfl, True.intro⟩ rfl ?_; rintro _ _ ⟨rfl, rfl⟩; refine ⟨rfl, ?_⟩) | (refine o_call0 rfl (k7) ⟨SLe.of_eq rfl, True.intro⟩ rfl ?_; rintro _ _ ⟨rfl, rfl⟩; refine ⟨rfl, ?_⟩) | (refine o_call0 rfl (k8) ⟨SLe.of_eq rfl, True.intro⟩ rfl ?_; rintro _ _ ⟨rfl, rfl⟩; refine ⟨rfl, ?_⟩))
          all_goals exact end_tmp rfl rfl rfl [] [] (CLe.of_eq rfl) .nil ⟨rfl, rfl⟩ _ (.inl rfl)
        · repeat' (first | (rw [hq4]) | (rw [hq3]) | (refine o_freezeR 103 19 rfl rfl rfl ?_) | refine Awp.seq ?_ | refine Awp.region ?_ | (refine Ops.nil ?_; show Awp _ _ _ _ _) | (refine Awp.skip ?_; show Awp _ _ _ _ _) | (refine Awp.exit ?_; show Awp _ _ _ _ _) | (refine Awp.ret ?_; show endK _ _ _ _ _) | refine o_noT rfl rfl rfl ?_ | (refine o_calm rfl TtOk rfl rfl rfl ?_ (fun _ => ?_); first | exact True.intro | exact ⟨rfl, rfl, rfl, rfl⟩ | exact ⟨rfl, True.intro⟩ | exact ⟨rfl, rfl⟩ | exact ⟨rfl, rfl, rfl⟩ | exact rfl | exact ⟨fun h0 => by cases h0, rfl⟩ | exact (fun h0 => by cases h0) | exact ⟨rfl, by omega⟩ | exact ⟨Nat.succ_ne_zero _, rfl⟩ | omega) | refine o_alloc (d := 22) rfl TtOk rfl rfl rfl (fun b22 => ?_) | refine o_store TtOk rfl rfl rfl rfl rfl rfl rfl ⟨rfl, rfl⟩ rfl rfl rfl rfl rfl ?_ | refine o_eqArr8 TtOk rfl rfl rfl rfl rfl rfl (by kernel_rfl) ?_ | (fail_if_success (refine o_isLit rfl (by first | exact .inl rfl | exact .inr rfl) ?_)); (refine o_splitP rfl rfl (fun hc => ?_) (fun hc => ?_) <;> try (exfalso; omega)) | refine a_condF rfl ?_ | (refine a_condP rfl (fun hc => ?_) (fun hc => ?_)) <;> (try (exfalso; omega)) | (refine o_call0 rfl (k4) True.intro rfl ?_; rintro _ _ ⟨rfl, rfl⟩; refine ⟨rfl, ?_⟩) | (refine o_call0 rfl (k12) ⟨SLe.of_eq rfl, True.intro⟩ rfl ?_; rintro _ _ ⟨rfl, rfl⟩; refine ⟨rfl, ?_⟩) | (refine o_call0 rfl (k13) ⟨SLe.of_eq rfl, True.intro⟩ rfl ?_; rintro _ _ ⟨rfl, rfl⟩; refine ⟨rfl, ?_⟩) | (refine o_call0 rfl (k6) ⟨SLe.of_eq rfl, SLe.of_eq rfl, True.intro⟩ rfl ?_; rintro _ _ ⟨rfl, rfl⟩; refine ⟨rfl, ?_⟩) | (refine o_call0 rfl (k7) ⟨SLe.of_eq rfl, True.intro⟩ rfl ?_; rintro _ _ ⟨rfl, rfl⟩; refine ⟨rfl, ?_⟩) | (refine o_call0 rfl (k8) ⟨SLe.of_eq rfl, True.intro⟩ rfl ?_; rintro _ _ ⟨rfl, rfl⟩; refine ⟨rfl, ?_⟩))
          all_goals exact end_tmp rfl rfl rfl [] [] (CLe.of_eq rfl) .nil ⟨rfl, rfl⟩ _ (.inl rfl)
end Go.Proofs.Ytcmgpkibjdbonaa
