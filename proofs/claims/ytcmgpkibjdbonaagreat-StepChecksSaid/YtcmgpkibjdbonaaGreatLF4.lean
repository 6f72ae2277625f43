/- step.Drops, Buries by rules. -/
import Derived.Test.YtcmgpkibjdbonaaGreatV38Z
import Derived.Test.YtcmgpkibjdbonaaGreatZC4Z
set_option maxHeartbeats 16000000
set_option maxRecDepth 100000
namespace Go.Proofs.YtcmgpkibjdbonaaGreat
open Go Go.RowKit
/-- Does a step but take away the tombs and marks of these seeds? -/
def drE (s : Stp) (seeds : List (List UInt8)) (ep ag : Int) : Bool :=
  if s.new.length ≠ 0 ∨ s.old.length ≠ 2 * seeds.length ∨ twcL seeds = true ∨ thE s.old seeds = false then false
  else seeds.all (fun x => supE s.old x ep ag && (fndL s.old (frL x)).v == tombL)
theorem drops_spec (s : Stp) (seeds : List (List UInt8)) (ep ag : Int) (hs : seeds.length ≤ 50000) (hso : ∀ x ∈ seeds, x.length = 32) (hl : s.old.length ≤ 100000) (ht : ∀ x ∈ s.old, 0 ≤ x.t ∧ x.t ≤ 1073741824) (he : 0 ≤ ep ∧ ep ≤ 1073741824) : Spec Tryz.prog 35 [s.A, .sl 32 (seeds.map labA), .i .i64 ep, .i .i64 ag] [] (fun v os => v = .b (drE s seeds ep ag) ∧ os = []) := by
  obtain ⟨same, old, new⟩ := s
  dsimp only at hl ht
  have h1 := twice_spec seeds (by omega)
  have h2 := theirs_spec old seeds hl (by omega) hso
  have hE : drE ⟨same, old, new⟩ seeds ep ag = if new.length ≠ 0 ∨ old.length ≠ 2 * seeds.length ∨ twcL seeds = true ∨ thE old seeds = false then false else seeds.all (fun x => supE old x ep ag && (fndL old (frL x)).v == tombL) := rfl
  rw [hE]
  clear hE
  show Spec Tryz.prog 35 [.agg [.sl 66 (same.map Itm.A), .sl 65 (old.map Lef.A), .sl 65 (new.map Lef.A)], .sl 32 (seeds.map labA), .i .i64 ep, .i .i64 ag] [] _
  generalize twcL seeds = tw at *
  generalize thE old seeds = th at *
  refine spec_of TtOk [] Tryz.func35 rfl Tryz.ntmps35 (by kernel_rfl) rfl rfl (fun C => ?_) rfl
  by_cases hb : new.length ≠ 0 ∨ old.length ≠ 2 * seeds.length ∨ tw = true ∨ th = false
  · rw [if_pos hb]
    cases tw with
    | true =>
      repeat' (first | refine Awp.seq ?_ | refine Awp.region ?_ | refine Ops.nil (nqA ?_) | refine Awp.ret (nqE ?_) | refine o_noF rfl rfl rfl ?_ | (refine o_mul rfl rfl rfl rfl ?_ ?_; omega) | refine o_len rfl TtOk rfl rfl rfl (fun _ => ?_) | (refine o_calm rfl TtOk rfl rfl rfl ?_ (fun _ => ?_); exact nd) | refine o_box (d := 4) rfl rfl rfl rfl (fun b4 => ?_) | (fail_if_success (refine o_isLit rfl (by first | exact .inl rfl | exact .inr rfl) ?_)); (refine o_splitN rfl rfl (fun hc => ?_) (fun hc => ?_) <;> try (exfalso; omega)) | refine a_condT rfl ?_ | refine o_callE rfl (h1) ⟨nqS, True.intro⟩ rfl ?_)
      all_goals exact nq2
    | false =>
      cases th with
      | false =>
        repeat' (first | refine Awp.seq ?_ | refine Awp.region ?_ | refine Ops.nil (nqA ?_) | refine Awp.ret (nqE ?_) | refine o_noF rfl rfl rfl ?_ | (refine o_mul rfl rfl rfl rfl ?_ ?_; omega) | refine o_len rfl TtOk rfl rfl rfl (fun _ => ?_) | (refine o_calm rfl TtOk rfl rfl rfl ?_ (fun _ => ?_); exact nd) | refine o_box (d := 4) rfl rfl rfl rfl (fun b4 => ?_) | (fail_if_success (refine o_isLit rfl (by first | exact .inl rfl | exact .inr rfl) ?_)); (refine o_splitN rfl rfl (fun hc => ?_) (fun hc => ?_) <;> try (exfalso; omega)) | refine a_condT rfl ?_ | refine o_callE rfl (h1) ⟨nqS, True.intro⟩ rfl ?_ | refine o_callE rfl (h2) ⟨nqS, nqS, True.intro⟩ rfl ?_)
        all_goals exact nq2
      | true =>
        have hb : new.length ≠ 0 ∨ old.length ≠ 2 * seeds.length := by
          rcases hb with h | h | h | h
          · exact .inl h
          · exact .inr h
          · cases h
          · cases h
        repeat' (first | refine Awp.seq ?_ | refine Awp.region ?_ | refine Ops.nil (nqA ?_) | refine Awp.ret (nqE ?_) | refine o_noF rfl rfl rfl ?_ | (refine o_mul rfl rfl rfl rfl ?_ ?_; omega) | refine o_len rfl TtOk rfl rfl rfl (fun _ => ?_) | (refine o_calm rfl TtOk rfl rfl rfl ?_ (fun _ => ?_); exact nd) | refine o_box (d := 4) rfl rfl rfl rfl (fun b4 => ?_) | (fail_if_success (refine o_isLit rfl (by first | exact .inl rfl | exact .inr rfl) ?_)); (refine o_splitN rfl rfl (fun hc => ?_) (fun hc => ?_) <;> try (exfalso; omega)) | refine a_condT rfl ?_)
        all_goals exact nq2
  rw [if_neg hb]
  have e1 : new.length = 0 := Decidable.not_not.1 (fun h => hb (.inl h))
  have e2 : old.length = 2 * seeds.length := Decidable.not_not.1 (fun h => hb (.inr (.inl h)))
  have e3 : tw = false := by revert hb; cases tw <;> simp
  have e4 : th = true := by revert hb; cases th <;> simp
  subst e3
  subst e4
  clear hb
  repeat' (first | refine Awp.seq ?_ | refine Awp.block ?_ | refine Awp.region ?_ | refine Ops.nil (nqA ?_) | refine Awp.skip (nqA ?_) | (refine o_mul rfl rfl rfl rfl ?_ ?_; omega) | refine o_len rfl TtOk rfl rfl rfl (fun _ => ?_) | (refine o_calm rfl TtOk rfl rfl rfl ?_ (fun _ => ?_); exact nd) | refine o_box (d := 4) rfl rfl rfl rfl (fun b4 => ?_) | (fail_if_success (refine o_isLit rfl (by first | exact .inl rfl | exact .inr rfl) ?_)); (refine o_splitN rfl rfl (fun hc => ?_) (fun hc => ?_) <;> try (exfalso; omega)) | refine a_condF rfl ?_ | refine o_callE rfl (h1) ⟨nqS, True.intro⟩ rfl ?_ | refine o_callE rfl (h2) ⟨nqS, nqS, True.intro⟩ rfl ?_)
  refine Awp.loop (fun i : Nat => ⟨61, [(39, .i .i64 i), (38, .i .i64 seeds.length), (37, .sl 32 (seeds.map labA)), (4, .ptr 4 b4 [] 0), (2, .i .i64 ep), (3, .i .i64 ag)], [(4, .var b4 (.agg [.sl 66 (same.map Itm.A), .sl 65 (old.map Lef.A), .sl 65 (new.map Lef.A)]))]⟩) (fun i => i ≤ seeds.length ∧ ∀ j (h : j < seeds.length), j < i → (supE old seeds[j] ep ag && (fndL old (frL seeds[j])).v == tombL) = true) (fun i => seeds.length - i) [] 0 ⟨Nat.zero_le _, fun j _ h => absurd h (Nat.not_lt_zero _)⟩ ?_ ?_
  · exact ⟨rfl, ⟨sle_i rfl, sle_i rfl, sle_sl rfl, sle_ptr, sle_i rfl, sle_i rfl, True.intro⟩, HLe.cons 4 rfl (HOLe.refl _) .nil⟩
  clear h1 h2
  rintro i ⟨hi, hall⟩
  by_cases hlt : i < seeds.length
  · have hi1 : ((i : Int) + 1 = ((i + 1 : Nat) : Int)) := by omega
    have k1 := superseded_spec old seeds[i] ep ag hl (hso _ (List.getElem_mem hlt)) ht he
    have k2 := ltomb_spec
    have hT : (supE old seeds[i] ep ag && (fndL old (frL seeds[i])).v == tombL) = false → seeds.all (fun x => supE old x ep ag && (fndL old (frL x)).v == tombL) = false := fun h => by
      rw [List.all_eq_false]
      exact ⟨seeds[i], List.getElem_mem _, by rw [h]; decide⟩
    have hN : (supE old seeds[i] ep ag && (fndL old (frL seeds[i])).v == tombL) = true → ∀ j (h : j < seeds.length), j < i + 1 → (supE old seeds[j] ep ag && (fndL old (frL seeds[j])).v == tombL) = true := fun hh j h hj => by
      rcases Nat.lt_succ_iff_lt_or_eq.1 hj with h2 | rfl
      · exact hall j h h2
      · exact hh
    clear hall
    generalize fndL old (frL seeds[i]) = f at *
    generalize supE old seeds[i] ep ag = q1 at *
    generalize hq2 : (f.v == tombL) = q2 at *
    generalize tombL = tb at *
    cases q1 with
    | false =>
      rw [hT rfl]
      repeat' (first | refine Awp.seq ?_ | refine Awp.block ?_ | refine Awp.region ?_ | refine Ops.nil (nqA ?_) | refine Awp.skip (nqA ?_) | refine Awp.ret (nqE ?_) | refine o_noF rfl rfl rfl ?_ | (refine o_calm rfl TtOk rfl rfl rfl ?_ (fun _ => ?_); exact nd) | refine o_alloc (d := 10) rfl TtOk rfl rfl rfl (fun b10 => ?_) | refine o_alloc (d := 11) rfl TtOk rfl rfl rfl (fun b11 => ?_) | refine o_store TtOk rfl rfl rfl rfl rfl rfl rfl ⟨rfl, rfl⟩ rfl rfl rfl rfl rfl ?_ | (refine o_index rfl TtOk rfl rfl rfl rfl rfl rfl ?_ (getq_nat ?_) ?_; omega; omega) | refine a_condT rfl ?_ | (refine a_condP rfl (fun hc => ?_) (fun hc => ?_)) <;> (try (exfalso; omega)) | refine a_any 7 [] [] [] [0, 1, 2, 3, 4, 5, 6, 7] (by kernel_rfl) (by kernel_rfl) (by kernel_rfl) rfl rfl rfl ?_ | refine o_callE rfl (k1) ⟨nqS, nqS, nqS, nqS, True.intro⟩ rfl ?_)
      all_goals exact nq2
    | true =>
      cases q2 with
      | false =>
        rw [hT rfl]
        have hq3 : (!(f.v == tb)) = true := by rw [hq2]; rfl
        repeat' (first | refine Awp.seq ?_ | refine Awp.block ?_ | refine Awp.region ?_ | refine Ops.nil (nqA ?_) | refine Awp.skip (nqA ?_) | refine Awp.ret (nqE ?_) | (refine o_calm rfl TtOk rfl rfl rfl ?_ (fun _ => ?_); exact nd) | refine o_alloc (d := 10) rfl TtOk rfl rfl rfl (fun b10 => ?_) | refine o_alloc (d := 11) rfl TtOk rfl rfl rfl (fun b11 => ?_) | refine o_store TtOk rfl rfl rfl rfl rfl rfl rfl ⟨rfl, rfl⟩ rfl rfl rfl rfl rfl ?_ | (refine o_index rfl TtOk rfl rfl rfl rfl rfl rfl ?_ (getq_nat ?_) ?_; omega; omega) | refine a_condT rfl ?_ | (refine a_condP rfl (fun hc => ?_) (fun hc => ?_)) <;> (try (exfalso; omega)) | refine a_any 7 [] [] [] [0, 1, 2, 3, 4, 5, 6, 7] (by kernel_rfl) (by kernel_rfl) (by kernel_rfl) rfl rfl rfl ?_ | (refine o_neArr8 TtOk rfl rfl rfl rfl rfl rfl (by kernel_rfl) ?_; rw [hq3]) | refine o_callE rfl (k1) ⟨nqS, nqS, nqS, nqS, True.intro⟩ rfl ?_ | (refine o_call0 rfl (k2) True.intro rfl ?_; rintro _ _ ⟨rfl, rfl⟩; refine ⟨rfl, ?_⟩))
        all_goals exact nq2
      | true =>
        have hN := hN rfl
        have hq3 : (!(f.v == tb)) = false := by rw [hq2]; rfl
        repeat' (first | refine Awp.seq ?_ | refine Awp.block ?_ | refine Awp.region ?_ | refine Ops.nil (nqA ?_) | refine Ops.nil (nqX ?_) | refine Awp.skip (nqA ?_) | (refine o_add rfl rfl rfl rfl ?_ ?_; omega) | (refine o_calm rfl TtOk rfl rfl rfl ?_ (fun _ => ?_); exact nd) | refine o_alloc (d := 10) rfl TtOk rfl rfl rfl (fun b10 => ?_) | refine o_alloc (d := 11) rfl TtOk rfl rfl rfl (fun b11 => ?_) | refine o_store TtOk rfl rfl rfl rfl rfl rfl rfl ⟨rfl, rfl⟩ rfl rfl rfl rfl rfl ?_ | (refine o_index rfl TtOk rfl rfl rfl rfl rfl rfl ?_ (getq_nat ?_) ?_; omega; omega) | refine a_condF rfl ?_ | (refine a_condP rfl (fun hc => ?_) (fun hc => ?_)) <;> (try (exfalso; omega)) | refine a_any 7 [] [] [] [0, 1, 2, 3, 4, 5, 6, 7] (by kernel_rfl) (by kernel_rfl) (by kernel_rfl) rfl rfl rfl ?_ | (refine o_neArr8 TtOk rfl rfl rfl rfl rfl rfl (by kernel_rfl) ?_; rw [hq3]) | refine o_callE rfl (k1) ⟨nqS, nqS, nqS, nqS, True.intro⟩ rfl ?_ | (refine o_call0 rfl (k2) True.intro rfl ?_; rintro _ _ ⟨rfl, rfl⟩; refine ⟨rfl, ?_⟩))
        all_goals exact ⟨i + 1, [], ⟨hlt, hN⟩, by show seeds.length - (i + 1) < seeds.length - i; omega, rfl, ⟨sle_i hi1, sle_i rfl, sle_sl rfl, sle_ptr, sle_i rfl, sle_i rfl, True.intro⟩, HLe.cons 4 rfl (HOLe.refl _) .nil⟩
  · have hT : seeds.all (fun x => supE old x ep ag && (fndL old (frL x)).v == tombL) = true := List.all_eq_true.2 (fun x hx => by
      obtain ⟨i, hi, rfl⟩ := List.getElem_of_mem hx
      exact hall i hi (by omega))
    rw [hT]
    repeat' (first | refine Awp.seq ?_ | refine Awp.region ?_ | refine Ops.nil (nqA ?_) | refine Awp.exit (nqA ?_) | refine Awp.ret (nqE ?_) | (refine o_calm rfl TtOk rfl rfl rfl ?_ (fun _ => ?_); exact nd) | (refine a_condP rfl (fun hc => ?_) (fun hc => ?_)) <;> (try (exfalso; omega)))
    exact nq2
/-- Tombs in the place of the values of one seed. -/
def buO (old new : List Lef) (x : List UInt8) (ep ag : Int) : Bool :=
  (supE old x ep ag && supE new x ep ag) && ((((fndL new (frL x)).v == tombL) && !((fndL old (frL x)).v == tombL)) && (decide ((fndL old (frL x)).t = (fndL new (frL x)).t) && eqLf (fndL old (stL x)) (fndL new (stL x))))
def buE (s : Stp) (seeds : List (List UInt8)) (ep ag : Int) : Bool :=
  if s.old.length ≠ s.new.length ∨ s.old.length ≠ 2 * seeds.length ∨ twcL seeds = true ∨ thE s.old seeds = false ∨ thE s.new seeds = false then false
  else seeds.all (fun x => buO s.old s.new x ep ag)
theorem buries_spec (s : Stp) (seeds : List (List UInt8)) (ep ag : Int) (hs : seeds.length ≤ 50000) (hso : ∀ x ∈ seeds, x.length = 32) (hok : s.ok) (hl : s.old.length ≤ 100000) (hl2 : s.new.length ≤ 100000) (ht : ∀ x ∈ s.old, 0 ≤ x.t ∧ x.t ≤ 1073741824) (ht2 : ∀ x ∈ s.new, 0 ≤ x.t ∧ x.t ≤ 1073741824) (he : 0 ≤ ep ∧ ep ≤ 1073741824) : Spec Tryz.prog 33 [s.A, .sl 32 (seeds.map labA), .i .i64 ep, .i .i64 ag] [] (fun v os => v = .b (buE s seeds ep ag) ∧ os = []) := by
  obtain ⟨same, old, new⟩ := s
  obtain ⟨-, ok1, ok2⟩ := hok
  dsimp only at hl ht hl2 ht2 ok1 ok2
  have h1 := twice_spec seeds (by omega)
  have h2 := theirs_spec old seeds hl (by omega) hso
  have h3 := theirs_spec new seeds hl2 (by omega) hso
  have hE : buE ⟨same, old, new⟩ seeds ep ag = if old.length ≠ new.length ∨ old.length ≠ 2 * seeds.length ∨ twcL seeds = true ∨ thE old seeds = false ∨ thE new seeds = false then false else seeds.all (fun x => buO old new x ep ag) := rfl
  rw [hE]
  clear hE
  show Spec Tryz.prog 33 [.agg [.sl 66 (same.map Itm.A), .sl 65 (old.map Lef.A), .sl 65 (new.map Lef.A)], .sl 32 (seeds.map labA), .i .i64 ep, .i .i64 ag] [] _
  generalize twcL seeds = tw at *
  generalize thE old seeds = th at *
  generalize thE new seeds = tn at *
  refine spec_of TtOk [] Tryz.func33 rfl Tryz.ntmps33 (by kernel_rfl) rfl rfl (fun C => ?_) rfl
  by_cases hb : old.length ≠ new.length ∨ old.length ≠ 2 * seeds.length ∨ tw = true ∨ th = false ∨ tn = false
  · rw [if_pos hb]
    cases tw with
    | true =>
      repeat' (first | refine Awp.seq ?_ | refine Awp.region ?_ | refine Ops.nil (nqA ?_) | refine Awp.ret (nqE ?_) | refine o_noF rfl rfl rfl ?_ | (refine o_mul rfl rfl rfl rfl ?_ ?_; omega) | refine o_len rfl TtOk rfl rfl rfl (fun _ => ?_) | (refine o_calm rfl TtOk rfl rfl rfl ?_ (fun _ => ?_); exact nd) | refine o_box (d := 4) rfl rfl rfl rfl (fun b4 => ?_) | (fail_if_success (refine o_isLit rfl (by first | exact .inl rfl | exact .inr rfl) ?_)); (refine o_splitN rfl rfl (fun hc => ?_) (fun hc => ?_) <;> try (exfalso; omega)) | refine a_condT rfl ?_ | refine o_callE rfl (h1) ⟨nqS, True.intro⟩ rfl ?_)
      all_goals exact nq2
    | false =>
      cases th with
      | false =>
        repeat' (first | refine Awp.seq ?_ | refine Awp.region ?_ | refine Ops.nil (nqA ?_) | refine Awp.ret (nqE ?_) | refine o_noF rfl rfl rfl ?_ | (refine o_mul rfl rfl rfl rfl ?_ ?_; omega) | refine o_len rfl TtOk rfl rfl rfl (fun _ => ?_) | (refine o_calm rfl TtOk rfl rfl rfl ?_ (fun _ => ?_); exact nd) | refine o_box (d := 4) rfl rfl rfl rfl (fun b4 => ?_) | (fail_if_success (refine o_isLit rfl (by first | exact .inl rfl | exact .inr rfl) ?_)); (refine o_splitN rfl rfl (fun hc => ?_) (fun hc => ?_) <;> try (exfalso; omega)) | refine a_condT rfl ?_ | refine o_callE rfl (h1) ⟨nqS, True.intro⟩ rfl ?_ | refine o_callE rfl (h2) ⟨nqS, nqS, True.intro⟩ rfl ?_)
        all_goals exact nq2
      | true =>
        cases tn with
        | false =>
          repeat' (first | refine Awp.seq ?_ | refine Awp.region ?_ | refine Ops.nil (nqA ?_) | refine Awp.ret (nqE ?_) | refine o_noF rfl rfl rfl ?_ | (refine o_mul rfl rfl rfl rfl ?_ ?_; omega) | refine o_len rfl TtOk rfl rfl rfl (fun _ => ?_) | (refine o_calm rfl TtOk rfl rfl rfl ?_ (fun _ => ?_); exact nd) | refine o_box (d := 4) rfl rfl rfl rfl (fun b4 => ?_) | (fail_if_success (refine o_isLit rfl (by first | exact .inl rfl | exact .inr rfl) ?_)); (refine o_splitN rfl rfl (fun hc => ?_) (fun hc => ?_) <;> try (exfalso; omega)) | refine a_condT rfl ?_ | refine o_callE rfl (h1) ⟨nqS, True.intro⟩ rfl ?_ | refine o_callE rfl (h2) ⟨nqS, nqS, True.intro⟩ rfl ?_ | refine o_callE rfl (h3) ⟨nqS, nqS, True.intro⟩ rfl ?_)
          all_goals exact nq2
        | true =>
          have hb : old.length ≠ new.length ∨ old.length ≠ 2 * seeds.length := by
            rcases hb with h | h | h | h | h
            · exact .inl h
            · exact .inr h
            · cases h
            · cases h
            · cases h
          repeat' (first | refine Awp.seq ?_ | refine Awp.region ?_ | refine Ops.nil (nqA ?_) | refine Awp.ret (nqE ?_) | refine o_noF rfl rfl rfl ?_ | (refine o_mul rfl rfl rfl rfl ?_ ?_; omega) | refine o_len rfl TtOk rfl rfl rfl (fun _ => ?_) | (refine o_calm rfl TtOk rfl rfl rfl ?_ (fun _ => ?_); exact nd) | refine o_box (d := 4) rfl rfl rfl rfl (fun b4 => ?_) | (fail_if_success (refine o_isLit rfl (by first | exact .inl rfl | exact .inr rfl) ?_)); (refine o_splitN rfl rfl (fun hc => ?_) (fun hc => ?_) <;> try (exfalso; omega)) | refine a_condT rfl ?_)
          all_goals exact nq2
  rw [if_neg hb]
  have e1 : old.length = new.length := Decidable.not_not.1 (fun h => hb (.inl h))
  have e2 : old.length = 2 * seeds.length := Decidable.not_not.1 (fun h => hb (.inr (.inl h)))
  have e3 : tw = false := by revert hb; cases tw <;> simp
  have e4 : th = true := by revert hb; cases th <;> simp
  have e5 : tn = true := by revert hb; cases tn <;> simp
  subst e3
  subst e4
  subst e5
  clear hb
  repeat' (first | refine Awp.seq ?_ | refine Awp.block ?_ | refine Awp.region ?_ | refine Ops.nil (nqA ?_) | refine Awp.skip (nqA ?_) | (refine o_mul rfl rfl rfl rfl ?_ ?_; omega) | refine o_len rfl TtOk rfl rfl rfl (fun _ => ?_) | (refine o_calm rfl TtOk rfl rfl rfl ?_ (fun _ => ?_); exact nd) | refine o_box (d := 4) rfl rfl rfl rfl (fun b4 => ?_) | (fail_if_success (refine o_isLit rfl (by first | exact .inl rfl | exact .inr rfl) ?_)); (refine o_splitN rfl rfl (fun hc => ?_) (fun hc => ?_) <;> try (exfalso; omega)) | refine a_condF rfl ?_ | refine o_callE rfl (h1) ⟨nqS, True.intro⟩ rfl ?_ | refine o_callE rfl (h2) ⟨nqS, nqS, True.intro⟩ rfl ?_ | refine o_callE rfl (h3) ⟨nqS, nqS, True.intro⟩ rfl ?_)
  refine Awp.loop (fun i : Nat => ⟨122, [(55, .i .i64 i), (54, .i .i64 seeds.length), (53, .sl 32 (seeds.map labA)), (4, .ptr 4 b4 [] 0), (2, .i .i64 ep), (3, .i .i64 ag)], [(4, .var b4 (.agg [.sl 66 (same.map Itm.A), .sl 65 (old.map Lef.A), .sl 65 (new.map Lef.A)]))]⟩) (fun i => i ≤ seeds.length ∧ ∀ j (h : j < seeds.length), j < i → buO old new seeds[j] ep ag = true) (fun i => seeds.length - i) [] 0 ⟨Nat.zero_le _, fun j _ h => absurd h (Nat.not_lt_zero _)⟩ ?_ ?_
  · exact ⟨rfl, ⟨sle_i rfl, sle_i rfl, sle_sl rfl, sle_ptr, sle_i rfl, sle_i rfl, True.intro⟩, HLe.cons 4 rfl (HOLe.refl _) .nil⟩
  clear h1 h2 h3
  rintro i ⟨hi, hall⟩
  by_cases hlt : i < seeds.length
  · have hi1 : ((i : Int) + 1 = ((i + 1 : Nat) : Int)) := by omega
    have hsl := hso _ (List.getElem_mem hlt)
    have k1 := superseded_spec old seeds[i] ep ag hl hsl ht he
    have k2 := superseded_spec new seeds[i] ep ag hl2 hsl ht2 he
    have k3 := ltomb_spec
    have k4 := lstale_spec seeds[i] hsl
    have k5 := sfind_spec old (stL seeds[i]) hl
    have k6 := sfind_spec new (stL seeds[i]) hl2
    have w1 := fnd_t ht (frL seeds[i])
    have w2 := fnd_t ht2 (frL seeds[i])
    have oa := fndL_ok (g := stL seeds[i]) ok1
    have ob := fndL_ok (g := stL seeds[i]) ok2
    obtain ⟨z, hz⟩ : ∃ z, buO old new seeds[i] ep ag = z := ⟨_, rfl⟩
    have hT : z = false → seeds.all (fun x => buO old new x ep ag) = false := fun h => by
      rw [List.all_eq_false]
      exact ⟨seeds[i], List.getElem_mem _, by rw [hz, h]; decide⟩
    have hN : z = true → ∀ j (h : j < seeds.length), j < i + 1 → buO old new seeds[j] ep ag = true := fun hh j h hj => by
      rcases Nat.lt_succ_iff_lt_or_eq.1 hj with h2 | rfl
      · exact hall j h h2
      · rw [hz]; exact hh
    unfold buO at hz
    clear hall
    generalize fndL old (frL seeds[i]) = f at *
    generalize fndL new (frL seeds[i]) = g at *
    generalize fndL old (stL seeds[i]) = a at *
    generalize fndL new (stL seeds[i]) = b at *
    generalize hasLf old (stL seeds[i]) = ha at *
    generalize hasLf new (stL seeds[i]) = hb at *
    generalize supE old seeds[i] ep ag = q1 at *
    generalize supE new seeds[i] ep ag = q2 at *
    generalize hq3 : (g.v == tombL) = q3 at *
    generalize hq4 : (f.v == tombL) = q4 at *
    generalize hq6 : eqLf a b = q6 at *
    have hq7 : (!(eqLf a b)) = !q6 := by rw [hq6]
    have hq5 : (!(g.v == tombL)) = !q3 := by rw [hq3]
    generalize tombL = tb at *
    generalize stL seeds[i] = sg at *
    by_cases hok : q1 = true ∧ q2 = true ∧ q3 = true ∧ q4 = false ∧ f.t = g.t
    · obtain ⟨rfl, rfl, rfl, rfl, hft⟩ := hok
      have hdt : decide (f.t = g.t) = true := decide_eq_true hft
      rw [hdt] at hz
      cases q6 with
      | true =>
        have hN := hN (hz.symm.trans rfl)
        clear hT hz
        have hq7 : (!(eqLf a b)) = false := hq7
        have hq5 : (!(g.v == tb)) = false := hq5
        repeat' (first | (rw [hq4]) | refine Awp.seq ?_ | refine Awp.block ?_ | refine Awp.region ?_ | refine Ops.nil (nqA ?_) | refine Ops.nil (nqX ?_) | refine Awp.skip (nqA ?_) | (refine o_add rfl rfl rfl rfl ?_ ?_; omega) | (refine o_calm rfl TtOk rfl rfl rfl ?_ (fun _ => ?_); exact nd) | refine o_alloc (d := 10) rfl TtOk rfl rfl rfl (fun b10 => ?_) | refine o_alloc (d := 11) rfl TtOk rfl rfl rfl (fun b11 => ?_) | refine o_alloc (d := 13) rfl TtOk rfl rfl rfl (fun b13 => ?_) | refine o_alloc (d := 15) rfl TtOk rfl rfl rfl (fun b15 => ?_) | refine o_alloc (d := 17) rfl TtOk rfl rfl rfl (fun b17 => ?_) | refine o_store TtOk rfl rfl rfl rfl rfl rfl rfl ⟨rfl, rfl⟩ rfl rfl rfl rfl rfl ?_ | (refine o_index rfl TtOk rfl rfl rfl rfl rfl rfl ?_ (getq_nat ?_) ?_; omega; omega) | refine o_eqArr8 TtOk rfl rfl rfl rfl rfl rfl (by kernel_rfl) ?_ | refine a_condF rfl ?_ | (refine a_condP rfl (fun hc => ?_) (fun hc => ?_)) <;> (try (exfalso; omega)) | (refine a_condN rfl (fun hc => ?_) (fun hc => ?_)) <;> (try (exfalso; omega)) | (refine a_any 8 [] [] [] [0, 1, 2, 3, 4, 5, 6, 7, 8, 9, 10, 11, 12, 13, 14, 15, 16, 17, 18, 19, 21, 20, 22, 23, 24] (by kernel_rfl) (by kernel_rfl) (by kernel_rfl) rfl rfl rfl ?_; (try dsimp only [List.getElem_toArray, List.getElem_cons_zero, List.getElem_cons_succ])) | (refine Ops.nil ?_; show AnyT _ _ _ _ _ _ _ _ _ _) | refine a_anyT 10 [15] [105] [15] (by kernel_rfl) (by kernel_rfl) (n := 11) (listed := [false, false, false, false, false, false, false, false, false, false, false].toArray) rfl (by kernel_rfl) ?_ | refine t_path (n := 11) (listed := [false, false, false, false, false, false, false, false, false, false, false].toArray) [0, 1, 2] 8 [true, true, true, false, false, false, false, false, false, false, false] (by kernel_rfl) rfl rfl rfl (by kernel_rfl) ?_ | refine t_two (n := 8) (listed := [true, true, true, false, false, false, false, false, false, false, false].toArray) 3 8 [true, true, true, true, false, false, false, false, false, false, false] [true, true, true, false, false, false, false, false, true, false, false] rfl (by kernel_rfl) rfl rfl (by kernel_rfl) (by kernel_rfl) ?_ ?_ | refine t_two (n := 7) (listed := [true, true, true, true, false, false, false, false, false, false, false].toArray) 4 8 [true, true, true, true, true, false, false, false, false, false, false] [true, true, true, true, false, false, false, false, true, false, false] rfl (by kernel_rfl) rfl rfl (by kernel_rfl) (by kernel_rfl) ?_ ?_ | refine t_path (n := 6) (listed := [true, true, true, true, true, false, false, false, false, false, false].toArray) [5, 6, 7, 8, 9, 10] 0 [true, true, true, true, true, true, true, true, true, true, true] (by kernel_rfl) rfl rfl rfl (by kernel_rfl) ?_ | refine t_fin (n := 0) (listed := [true, true, true, true, true, true, true, true, true, true, true].toArray) (by kernel_rfl) ?_ | refine t_path (n := 6) (listed := [true, true, true, true, false, false, false, false, true, false, false].toArray) [4, 5, 6, 7, 9, 10] 0 [true, true, true, true, true, true, true, true, true, true, true] (by kernel_rfl) rfl rfl rfl (by kernel_rfl) ?_ | refine t_path (n := 7) (listed := [true, true, true, false, false, false, false, false, true, false, false].toArray) [3, 4, 5, 6, 7, 9, 10] 0 [true, true, true, true, true, true, true, true, true, true, true] (by kernel_rfl) rfl rfl rfl (by kernel_rfl) ?_ | refine a_anyT 11 [17] [113] [17] (by kernel_rfl) (by kernel_rfl) (n := 11) (listed := [false, false, false, false, false, false, false, false, false, false, false].toArray) rfl (by kernel_rfl) ?_ | (refine o_neArr8 TtOk rfl rfl rfl rfl rfl rfl (by kernel_rfl) ?_; rw [hq5]) | (refine o_neLefN (p := a) (q := b) rfl rfl rfl rfl ?_; rw [hq7]) | refine o_callE rfl (k1) ⟨nqS, nqS, nqS, nqS, True.intro⟩ rfl ?_ | refine o_callE rfl (k2) ⟨nqS, nqS, nqS, nqS, True.intro⟩ rfl ?_ | (refine o_call0 rfl (k3) True.intro rfl ?_; rintro _ _ ⟨rfl, rfl⟩; refine ⟨rfl, ?_⟩) | refine o_callE rfl (k4) ⟨nqS, True.intro⟩ rfl ?_ | refine o_callE rfl (k5) ⟨nqS, nqS, True.intro⟩ rfl ?_ | refine o_callE rfl (k6) ⟨nqS, nqS, True.intro⟩ rfl ?_)
        all_goals exact ⟨i + 1, [], ⟨hlt, hN⟩, by show seeds.length - (i + 1) < seeds.length - i; omega, rfl, ⟨sle_i hi1, sle_i rfl, sle_sl rfl, sle_ptr, sle_i rfl, sle_i rfl, True.intro⟩, HLe.cons 4 rfl (HOLe.refl _) .nil⟩
      | false =>
        rw [hT (hz.symm.trans rfl)]
        clear hT hN hz
        have hq7 : (!(eqLf a b)) = true := hq7
        have hq5 : (!(g.v == tb)) = false := hq5
        repeat' (first | (rw [hq4]) | refine Awp.seq ?_ | refine Awp.block ?_ | refine Awp.region ?_ | refine Ops.nil (nqA ?_) | refine Awp.skip (nqA ?_) | refine Awp.ret (nqE ?_) | (refine o_calm rfl TtOk rfl rfl rfl ?_ (fun _ => ?_); exact nd) | refine o_alloc (d := 10) rfl TtOk rfl rfl rfl (fun b10 => ?_) | refine o_alloc (d := 11) rfl TtOk rfl rfl rfl (fun b11 => ?_) | refine o_alloc (d := 13) rfl TtOk rfl rfl rfl (fun b13 => ?_) | refine o_alloc (d := 15) rfl TtOk rfl rfl rfl (fun b15 => ?_) | refine o_alloc (d := 17) rfl TtOk rfl rfl rfl (fun b17 => ?_) | refine o_store TtOk rfl rfl rfl rfl rfl rfl rfl ⟨rfl, rfl⟩ rfl rfl rfl rfl rfl ?_ | (refine o_index rfl TtOk rfl rfl rfl rfl rfl rfl ?_ (getq_nat ?_) ?_; omega; omega) | refine o_eqArr8 TtOk rfl rfl rfl rfl rfl rfl (by kernel_rfl) ?_ | refine a_condT rfl ?_ | (refine a_condP rfl (fun hc => ?_) (fun hc => ?_)) <;> (try (exfalso; omega)) | (refine a_condN rfl (fun hc => ?_) (fun hc => ?_)) <;> (try (exfalso; omega)) | (refine a_any 8 [] [] [] [0, 1, 2, 3, 4, 5, 6, 7, 8, 9, 10, 11, 12, 13, 14, 15, 16, 17, 18, 19, 21, 20, 22, 23, 24] (by kernel_rfl) (by kernel_rfl) (by kernel_rfl) rfl rfl rfl ?_; (try dsimp only [List.getElem_toArray, List.getElem_cons_zero, List.getElem_cons_succ])) | (refine Ops.nil ?_; show AnyT _ _ _ _ _ _ _ _ _ _) | refine a_anyT 10 [15] [105] [15] (by kernel_rfl) (by kernel_rfl) (n := 11) (listed := [false, false, false, false, false, false, false, false, false, false, false].toArray) rfl (by kernel_rfl) ?_ | refine t_path (n := 11) (listed := [false, false, false, false, false, false, false, false, false, false, false].toArray) [0, 1, 2] 8 [true, true, true, false, false, false, false, false, false, false, false] (by kernel_rfl) rfl rfl rfl (by kernel_rfl) ?_ | refine t_two (n := 8) (listed := [true, true, true, false, false, false, false, false, false, false, false].toArray) 3 8 [true, true, true, true, false, false, false, false, false, false, false] [true, true, true, false, false, false, false, false, true, false, false] rfl (by kernel_rfl) rfl rfl (by kernel_rfl) (by kernel_rfl) ?_ ?_ | refine t_two (n := 7) (listed := [true, true, true, true, false, false, false, false, false, false, false].toArray) 4 8 [true, true, true, true, true, false, false, false, false, false, false] [true, true, true, true, false, false, false, false, true, false, false] rfl (by kernel_rfl) rfl rfl (by kernel_rfl) (by kernel_rfl) ?_ ?_ | refine t_path (n := 6) (listed := [true, true, true, true, true, false, false, false, false, false, false].toArray) [5, 6, 7, 8, 9, 10] 0 [true, true, true, true, true, true, true, true, true, true, true] (by kernel_rfl) rfl rfl rfl (by kernel_rfl) ?_ | refine t_fin (n := 0) (listed := [true, true, true, true, true, true, true, true, true, true, true].toArray) (by kernel_rfl) ?_ | refine t_path (n := 6) (listed := [true, true, true, true, false, false, false, false, true, false, false].toArray) [4, 5, 6, 7, 9, 10] 0 [true, true, true, true, true, true, true, true, true, true, true] (by kernel_rfl) rfl rfl rfl (by kernel_rfl) ?_ | refine t_path (n := 7) (listed := [true, true, true, false, false, false, false, false, true, false, false].toArray) [3, 4, 5, 6, 7, 9, 10] 0 [true, true, true, true, true, true, true, true, true, true, true] (by kernel_rfl) rfl rfl rfl (by kernel_rfl) ?_ | refine a_anyT 11 [17] [113] [17] (by kernel_rfl) (by kernel_rfl) (n := 11) (listed := [false, false, false, false, false, false, false, false, false, false, false].toArray) rfl (by kernel_rfl) ?_ | (refine o_neArr8 TtOk rfl rfl rfl rfl rfl rfl (by kernel_rfl) ?_; rw [hq5]) | (refine o_neLefN (p := a) (q := b) rfl rfl rfl rfl ?_; rw [hq7]) | refine o_callE rfl (k1) ⟨nqS, nqS, nqS, nqS, True.intro⟩ rfl ?_ | refine o_callE rfl (k2) ⟨nqS, nqS, nqS, nqS, True.intro⟩ rfl ?_ | (refine o_call0 rfl (k3) True.intro rfl ?_; rintro _ _ ⟨rfl, rfl⟩; refine ⟨rfl, ?_⟩) | refine o_callE rfl (k4) ⟨nqS, True.intro⟩ rfl ?_ | refine o_callE rfl (k5) ⟨nqS, nqS, True.intro⟩ rfl ?_ | refine o_callE rfl (k6) ⟨nqS, nqS, True.intro⟩ rfl ?_)
        all_goals exact nq2
    · clear hN
      cases q1 with
      | false =>
        rw [hT (hz.symm.trans rfl)]
        repeat' (first | refine Awp.seq ?_ | refine Awp.block ?_ | refine Awp.region ?_ | refine Ops.nil (nqA ?_) | refine Awp.skip (nqA ?_) | refine Awp.ret (nqE ?_) | refine o_noF rfl rfl rfl ?_ | (refine o_calm rfl TtOk rfl rfl rfl ?_ (fun _ => ?_); exact nd) | refine o_alloc (d := 10) rfl TtOk rfl rfl rfl (fun b10 => ?_) | refine o_alloc (d := 11) rfl TtOk rfl rfl rfl (fun b11 => ?_) | refine o_alloc (d := 13) rfl TtOk rfl rfl rfl (fun b13 => ?_) | refine o_store TtOk rfl rfl rfl rfl rfl rfl rfl ⟨rfl, rfl⟩ rfl rfl rfl rfl rfl ?_ | (refine o_index rfl TtOk rfl rfl rfl rfl rfl rfl ?_ (getq_nat ?_) ?_; omega; omega) | refine a_condT rfl ?_ | (refine a_condP rfl (fun hc => ?_) (fun hc => ?_)) <;> (try (exfalso; omega)) | (refine a_any 8 [] [] [] [0, 1, 2, 3, 4, 5, 6, 7, 8, 9, 10, 11, 12, 13, 14, 15, 16, 17, 18, 19, 21, 20, 22, 23, 24] (by kernel_rfl) (by kernel_rfl) (by kernel_rfl) rfl rfl rfl ?_; (try dsimp only [List.getElem_toArray, List.getElem_cons_zero, List.getElem_cons_succ])) | refine o_callE rfl (k1) ⟨nqS, nqS, nqS, nqS, True.intro⟩ rfl ?_ | refine o_callE rfl (k2) ⟨nqS, nqS, nqS, nqS, True.intro⟩ rfl ?_)
        all_goals exact nq2
      | true =>
        cases q2 with
        | false =>
          rw [hT (hz.symm.trans rfl)]
          repeat' (first | refine Awp.seq ?_ | refine Awp.block ?_ | refine Awp.region ?_ | refine Ops.nil (nqA ?_) | refine Awp.skip (nqA ?_) | refine Awp.ret (nqE ?_) | refine o_noF rfl rfl rfl ?_ | (refine o_calm rfl TtOk rfl rfl rfl ?_ (fun _ => ?_); exact nd) | refine o_alloc (d := 10) rfl TtOk rfl rfl rfl (fun b10 => ?_) | refine o_alloc (d := 11) rfl TtOk rfl rfl rfl (fun b11 => ?_) | refine o_alloc (d := 13) rfl TtOk rfl rfl rfl (fun b13 => ?_) | refine o_store TtOk rfl rfl rfl rfl rfl rfl rfl ⟨rfl, rfl⟩ rfl rfl rfl rfl rfl ?_ | (refine o_index rfl TtOk rfl rfl rfl rfl rfl rfl ?_ (getq_nat ?_) ?_; omega; omega) | refine a_condT rfl ?_ | (refine a_condP rfl (fun hc => ?_) (fun hc => ?_)) <;> (try (exfalso; omega)) | (refine a_any 8 [] [] [] [0, 1, 2, 3, 4, 5, 6, 7, 8, 9, 10, 11, 12, 13, 14, 15, 16, 17, 18, 19, 21, 20, 22, 23, 24] (by kernel_rfl) (by kernel_rfl) (by kernel_rfl) rfl rfl rfl ?_; (try dsimp only [List.getElem_toArray, List.getElem_cons_zero, List.getElem_cons_succ])) | refine o_callE rfl (k1) ⟨nqS, nqS, nqS, nqS, True.intro⟩ rfl ?_ | refine o_callE rfl (k2) ⟨nqS, nqS, nqS, nqS, True.intro⟩ rfl ?_)
          all_goals exact nq2
        | true =>
          cases q3 with
          | false =>
            rw [hT (hz.symm.trans rfl)]
            have hq5 : (!(g.v == tb)) = true := hq5
            repeat' (first | refine Awp.seq ?_ | refine Awp.block ?_ | refine Awp.region ?_ | refine Ops.nil (nqA ?_) | refine Awp.skip (nqA ?_) | refine Awp.ret (nqE ?_) | refine o_noF rfl rfl rfl ?_ | (refine o_calm rfl TtOk rfl rfl rfl ?_ (fun _ => ?_); exact nd) | refine o_alloc (d := 10) rfl TtOk rfl rfl rfl (fun b10 => ?_) | refine o_alloc (d := 11) rfl TtOk rfl rfl rfl (fun b11 => ?_) | refine o_alloc (d := 13) rfl TtOk rfl rfl rfl (fun b13 => ?_) | refine o_store TtOk rfl rfl rfl rfl rfl rfl rfl ⟨rfl, rfl⟩ rfl rfl rfl rfl rfl ?_ | (refine o_index rfl TtOk rfl rfl rfl rfl rfl rfl ?_ (getq_nat ?_) ?_; omega; omega) | refine a_condT rfl ?_ | (refine a_condP rfl (fun hc => ?_) (fun hc => ?_)) <;> (try (exfalso; omega)) | (refine a_any 8 [] [] [] [0, 1, 2, 3, 4, 5, 6, 7, 8, 9, 10, 11, 12, 13, 14, 15, 16, 17, 18, 19, 21, 20, 22, 23, 24] (by kernel_rfl) (by kernel_rfl) (by kernel_rfl) rfl rfl rfl ?_; (try dsimp only [List.getElem_toArray, List.getElem_cons_zero, List.getElem_cons_succ])) | (refine o_neArr8 TtOk rfl rfl rfl rfl rfl rfl (by kernel_rfl) ?_; rw [hq5]) | refine o_callE rfl (k1) ⟨nqS, nqS, nqS, nqS, True.intro⟩ rfl ?_ | refine o_callE rfl (k2) ⟨nqS, nqS, nqS, nqS, True.intro⟩ rfl ?_ | (refine o_call0 rfl (k3) True.intro rfl ?_; rintro _ _ ⟨rfl, rfl⟩; refine ⟨rfl, ?_⟩))
            all_goals exact nq2
          | true =>
            have hq5 : (!(g.v == tb)) = false := hq5
            cases q4 with
            | true =>
              rw [hT (hz.symm.trans rfl)]
              repeat' (first | (rw [hq4]) | refine Awp.seq ?_ | refine Awp.block ?_ | refine Awp.region ?_ | refine Ops.nil (nqA ?_) | refine Awp.skip (nqA ?_) | refine Awp.ret (nqE ?_) | refine o_noF rfl rfl rfl ?_ | (refine o_calm rfl TtOk rfl rfl rfl ?_ (fun _ => ?_); exact nd) | refine o_alloc (d := 10) rfl TtOk rfl rfl rfl (fun b10 => ?_) | refine o_alloc (d := 11) rfl TtOk rfl rfl rfl (fun b11 => ?_) | refine o_alloc (d := 13) rfl TtOk rfl rfl rfl (fun b13 => ?_) | refine o_store TtOk rfl rfl rfl rfl rfl rfl rfl ⟨rfl, rfl⟩ rfl rfl rfl rfl rfl ?_ | (refine o_index rfl TtOk rfl rfl rfl rfl rfl rfl ?_ (getq_nat ?_) ?_; omega; omega) | refine o_eqArr8 TtOk rfl rfl rfl rfl rfl rfl (by kernel_rfl) ?_ | refine a_condT rfl ?_ | (refine a_condP rfl (fun hc => ?_) (fun hc => ?_)) <;> (try (exfalso; omega)) | (refine a_any 8 [] [] [] [0, 1, 2, 3, 4, 5, 6, 7, 8, 9, 10, 11, 12, 13, 14, 15, 16, 17, 18, 19, 21, 20, 22, 23, 24] (by kernel_rfl) (by kernel_rfl) (by kernel_rfl) rfl rfl rfl ?_; (try dsimp only [List.getElem_toArray, List.getElem_cons_zero, List.getElem_cons_succ])) | (refine o_neArr8 TtOk rfl rfl rfl rfl rfl rfl (by kernel_rfl) ?_; rw [hq5]) | refine o_callE rfl (k1) ⟨nqS, nqS, nqS, nqS, True.intro⟩ rfl ?_ | refine o_callE rfl (k2) ⟨nqS, nqS, nqS, nqS, True.intro⟩ rfl ?_ | (refine o_call0 rfl (k3) True.intro rfl ?_; rintro _ _ ⟨rfl, rfl⟩; refine ⟨rfl, ?_⟩))
              all_goals exact nq2
            | false =>
              have hft : ¬ f.t = g.t := fun h => hok ⟨rfl, rfl, rfl, rfl, h⟩
              rw [hT (by rw [← hz, decide_eq_false hft]; rfl)]
              repeat' (first | (rw [hq4]) | refine Awp.seq ?_ | refine Awp.block ?_ | refine Awp.region ?_ | refine Ops.nil (nqA ?_) | refine Awp.skip (nqA ?_) | refine Awp.ret (nqE ?_) | (refine o_calm rfl TtOk rfl rfl rfl ?_ (fun _ => ?_); exact nd) | refine o_alloc (d := 10) rfl TtOk rfl rfl rfl (fun b10 => ?_) | refine o_alloc (d := 11) rfl TtOk rfl rfl rfl (fun b11 => ?_) | refine o_alloc (d := 13) rfl TtOk rfl rfl rfl (fun b13 => ?_) | refine o_store TtOk rfl rfl rfl rfl rfl rfl rfl ⟨rfl, rfl⟩ rfl rfl rfl rfl rfl ?_ | (refine o_index rfl TtOk rfl rfl rfl rfl rfl rfl ?_ (getq_nat ?_) ?_; omega; omega) | refine o_eqArr8 TtOk rfl rfl rfl rfl rfl rfl (by kernel_rfl) ?_ | (refine a_condP rfl (fun hc => ?_) (fun hc => ?_)) <;> (try (exfalso; omega)) | (refine a_condN rfl (fun hc => ?_) (fun hc => ?_)) <;> (try (exfalso; omega)) | (refine a_any 8 [] [] [] [0, 1, 2, 3, 4, 5, 6, 7, 8, 9, 10, 11, 12, 13, 14, 15, 16, 17, 18, 19, 21, 20, 22, 23, 24] (by kernel_rfl) (by kernel_rfl) (by kernel_rfl) rfl rfl rfl ?_; (try dsimp only [List.getElem_toArray, List.getElem_cons_zero, List.getElem_cons_succ])) | (refine o_neArr8 TtOk rfl rfl rfl rfl rfl rfl (by kernel_rfl) ?_; rw [hq5]) | refine o_callE rfl (k1) ⟨nqS, nqS, nqS, nqS, True.intro⟩ rfl ?_ | refine o_callE rfl (k2) ⟨nqS, nqS, nqS, nqS, True.intro⟩ rfl ?_ | (refine o_call0 rfl (k3) True.intro rfl ?_; rintro _ _ ⟨rfl, rfl⟩; refine ⟨rfl, ?_⟩))
              all_goals exact nq2
  · have hT : seeds.all (fun x => buO old new x ep ag) = true := List.all_eq_true.2 (fun x hx => by
      obtain ⟨i, hi, rfl⟩ := List.getElem_of_mem hx
      exact hall i hi (by omega))
    rw [hT]
    repeat' (first | refine Awp.seq ?_ | refine Awp.region ?_ | refine Ops.nil (nqA ?_) | refine Awp.exit (nqA ?_) | refine Awp.ret (nqE ?_) | (refine o_calm rfl TtOk rfl rfl rfl ?_ (fun _ => ?_); exact nd) | (refine a_condP rfl (fun hc => ?_) (fun hc => ?_)) <;> (try (exfalso; omega)))
    exact nq2
end Go.Proofs.YtcmgpkibjdbonaaGreat
