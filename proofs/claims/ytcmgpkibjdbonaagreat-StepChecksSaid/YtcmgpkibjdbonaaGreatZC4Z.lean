/- ref19.unlike, all by rules. -/
import Derived.Test.YtcmgpkibjdbonaaGreatLF1Z
import Derived.Test.YtcmgpkibjdbonaaGreatV38Z
import Derived.Test.YtcmgpkibjdbonaaGreatPF4Z
set_option maxHeartbeats 16000000
set_option maxRecDepth 100000
namespace Go.Proofs.YtcmgpkibjdbonaaGreat
open Go Go.RowKit
theorem runlike19_spec (l : List (List UInt8)) (hl : l.length ≤ 100000) : Spec Tryz.prog 107 [.sl 32 (l.map labA)] [] (fun v os => v = .b (!twcL l) ∧ os = []) := by
  refine spec_of TtOk [] Tryz.func107 rfl Tryz.ntmps107 (by kernel_rfl) rfl rfl (fun C => ?_) rfl
  repeat' (first | refine Awp.seq ?_ | refine Awp.block ?_ | refine Awp.region ?_ | refine Ops.nil (nqA ?_) | refine o_len rfl TtOk rfl rfl rfl (fun _ => ?_) | (refine o_calm rfl TtOk rfl rfl rfl ?_ (fun _ => ?_); exact nd))
  refine Awp.loop (fun i : Nat => ⟨18, [(6, .i .i64 i), (5, .i .i64 l.length), (4, .sl 32 (l.map labA)), (0, .sl 32 (l.map labA))], []⟩) (fun i => i ≤ l.length ∧ ∀ j, j < i → (l.take j).any (fun y => l.getD j [] == y) = false) (fun i => l.length - i) [] 0 ⟨Nat.zero_le _, fun j hj => absurd hj (Nat.not_lt_zero _)⟩ ?_ ?_
  · exact ⟨rfl, ⟨sle_i rfl, sle_i rfl, sle_sl rfl, sle_sl rfl, True.intro⟩, .nil⟩
  rintro i ⟨hi, hno⟩
  by_cases hlt : i < l.length
  · have hi1 : ((i : Int) + 1 = ((i + 1 : Nat) : Int)) := by omega
    have hk1 := rin19_spec (l.take i) l[i]
    have hg : l.getD i [] = l[i] := by simp [hlt]
    generalize hq : (l.take i).any (fun y => l[i] == y) = q at hk1
    cases q with
    | true =>
      have hT : twcL l = true := List.any_eq_true.2 ⟨i, List.mem_range.2 hlt, by rw [hg]; exact hq⟩
      rw [hT]
      repeat' (first | refine Awp.seq ?_ | refine Awp.block ?_ | refine Awp.region ?_ | refine Ops.nil (nqA ?_) | refine Awp.skip (nqA ?_) | refine Awp.ret (nqE ?_) | (refine o_calm rfl TtOk rfl rfl rfl ?_ (fun _ => ?_); exact nd) | (refine o_index rfl TtOk rfl rfl rfl rfl rfl rfl ?_ (getq_nat ?_) ?_; omega; omega) | refine a_condT rfl ?_ | (refine a_condP rfl (fun hc => ?_) (fun hc => ?_)) <;> (try (exfalso; omega)) | refine a_any 4 [] [] [] [0, 1, 2, 3, 4, 5, 6, 7] (by kernel_rfl) (by kernel_rfl) (by kernel_rfl) rfl rfl rfl ?_ | (refine o_sliceSl TtOk rfl 0 i rfl rfl rfl rfl rfl bnd_none (bnd_some rfl rfl) (by omega) (by omega) ?_) | refine o_callE rfl (hk1) ⟨nqS, nqS, True.intro⟩ rfl ?_)
      all_goals exact nq2
    | false =>
      repeat' (first | refine Awp.seq ?_ | refine Awp.block ?_ | refine Awp.region ?_ | refine Ops.nil (nqA ?_) | refine Ops.nil (nqX ?_) | refine Awp.skip (nqA ?_) | (refine o_add rfl rfl rfl rfl ?_ ?_; omega) | (refine o_calm rfl TtOk rfl rfl rfl ?_ (fun _ => ?_); exact nd) | (refine o_index rfl TtOk rfl rfl rfl rfl rfl rfl ?_ (getq_nat ?_) ?_; omega; omega) | refine a_condF rfl ?_ | (refine a_condP rfl (fun hc => ?_) (fun hc => ?_)) <;> (try (exfalso; omega)) | refine a_any 4 [] [] [] [0, 1, 2, 3, 4, 5, 6, 7] (by kernel_rfl) (by kernel_rfl) (by kernel_rfl) rfl rfl rfl ?_ | (refine o_sliceSl TtOk rfl 0 i rfl rfl rfl rfl rfl bnd_none (bnd_some rfl rfl) (by omega) (by omega) ?_) | refine o_callE rfl (hk1) ⟨nqS, nqS, True.intro⟩ rfl ?_)
      all_goals exact ⟨i + 1, [], ⟨hlt, fun j hj => by
        rcases Nat.lt_succ_iff_lt_or_eq.1 hj with h2 | rfl
        · exact hno j h2
        · rw [hg]; exact hq⟩, by show l.length - (i + 1) < l.length - i; omega, rfl, ⟨sle_i hi1, sle_i rfl, sle_sl rfl, sle_sl rfl, True.intro⟩, .nil⟩
  · have hT : twcL l = false := by
      unfold twcL
      rw [List.any_eq_false]
      intro j hj
      rw [hno j (by have := List.mem_range.1 hj; omega)]
      decide
    rw [hT]
    repeat' (first | refine Awp.seq ?_ | refine Awp.region ?_ | refine Ops.nil (nqA ?_) | refine Awp.exit (nqA ?_) | refine Awp.ret (nqE ?_) | (refine o_calm rfl TtOk rfl rfl rfl ?_ (fun _ => ?_); exact nd) | (refine a_condP rfl (fun hc => ?_) (fun hc => ?_)) <;> (try (exfalso; omega)))
    exact nq2
theorem rall19_spec (l : List Lef) (seeds : List (List UInt8)) (hso : ∀ x ∈ seeds, x.length = 32) : Spec Tryz.prog 108 [.sl 65 (l.map Lef.A), .sl 32 (seeds.map labA)] [] (fun v os => v = .b (thE l seeds) ∧ os = []) := by
  refine spec_of TtOk [] Tryz.func108 rfl Tryz.ntmps108 (by kernel_rfl) rfl rfl (fun C => ?_) rfl
  repeat' (first | refine Awp.seq ?_ | refine Awp.block ?_ | refine Awp.region ?_ | refine Ops.nil (nqA ?_) | refine o_len rfl TtOk rfl rfl rfl (fun _ => ?_) | (refine o_calm rfl TtOk rfl rfl rfl ?_ (fun _ => ?_); exact nd))
  refine Awp.loop (fun i : Nat => ⟨41, [(12, .i .i64 i), (11, .i .i64 l.length), (10, .sl 65 (l.map Lef.A)), (1, .sl 32 (seeds.map labA))], []⟩) (fun i => i ≤ l.length ∧ ∀ j (h : j < l.length), j < i → seeds.any (fun s => l[j].l == frL s || l[j].l == stL s) = true) (fun i => l.length - i) [] 0 ⟨Nat.zero_le _, fun _ _ h => absurd h (Nat.not_lt_zero _)⟩ ?_ ?_
  · exact ⟨rfl, ⟨sle_i rfl, sle_i rfl, sle_sl rfl, sle_sl rfl, True.intro⟩, .nil⟩
  rintro i ⟨hi, hno⟩
  by_cases hlt : i < l.length
  · have hi1 : ((i : Int) + 1 = ((i + 1 : Nat) : Int)) := by omega
    have hall : ∀ q, seeds.any (fun s => l[i].l == frL s || l[i].l == stL s) = q → (q = false → thE l seeds = false) := fun q h h2 => by
      unfold thE
      rw [List.all_eq_false]
      exact ⟨l[i], List.getElem_mem hlt, by rw [h, h2]; decide⟩
    repeat' (first | refine Awp.seq ?_ | refine Awp.block ?_ | refine Awp.region ?_ | refine Ops.nil (nqA ?_) | refine Awp.skip (nqA ?_) | refine o_len rfl TtOk rfl rfl rfl (fun _ => ?_) | (refine o_calm rfl TtOk rfl rfl rfl ?_ (fun _ => ?_); exact nd) | refine o_alloc (d := 6) rfl TtOk rfl rfl rfl (fun b6 => ?_) | refine o_store TtOk rfl rfl rfl rfl rfl rfl rfl ⟨rfl, rfl⟩ rfl rfl rfl rfl rfl ?_ | (refine o_index rfl TtOk rfl rfl rfl rfl rfl rfl ?_ (getq_nat ?_) ?_; omega; omega) | (refine a_condP rfl (fun hc => ?_) (fun hc => ?_)) <;> (try (exfalso; omega)))
    refine Awp.loop (fun k : Nat => ⟨41, [(18, .i .i64 k), (17, .i .i64 seeds.length), (16, .sl 32 (seeds.map labA)), (7, .b ((seeds.take k).any (fun s => l[i].l == frL s || l[i].l == stL s))), (6, .ptr 6 b6 [] 0), (12, .i .i64 i), (11, .i .i64 l.length), (10, .sl 65 (l.map Lef.A)), (1, .sl 32 (seeds.map labA))], [(6, .var b6 (.agg [labA l[i].l, labA l[i].v, .i .i64 l[i].t]))]⟩) (fun k => k ≤ seeds.length) (fun k => seeds.length - k) [] 0 (Nat.zero_le _) ?_ ?_
    · exact ⟨rfl, ⟨sle_i rfl, sle_i rfl, sle_sl rfl, nqS, sle_ptr, sle_i rfl, sle_i rfl, sle_sl rfl, sle_sl rfl, True.intro⟩, HLe.cons 6 rfl (HOLe.refl _) .nil⟩
    intro k hk
    by_cases hkt : k < seeds.length
    · have hk1 : ((k : Int) + 1 = ((k + 1 : Nat) : Int)) := by omega
      have h1 := rfresh14_spec seeds[k] (hso _ (List.getElem_mem hkt))
      have h2 := rstale14_spec seeds[k] (hso _ (List.getElem_mem hkt))
      have hst : (seeds.take (k + 1)).any (fun s => l[i].l == frL s || l[i].l == stL s) = ((seeds.take k).any (fun s => l[i].l == frL s || l[i].l == stL s) || (l[i].l == frL seeds[k] || l[i].l == stL seeds[k])) := by
        rw [List.take_succ_eq_append_getElem hkt, List.any_append]
        show _ = (_ || (_ || _))
        rw [List.any_cons, List.any_nil, Bool.or_false]
      generalize (seeds.take k).any (fun s => l[i].l == frL s || l[i].l == stL s) = m at *
      generalize frL seeds[k] = f at *
      generalize stL seeds[k] = g at *
      cases m with
      | true =>
        rw [Bool.true_or] at hst
        repeat' (first | refine Awp.seq ?_ | refine Awp.block ?_ | refine Awp.region ?_ | refine Ops.nil (nqA ?_) | refine Ops.nil (nqX ?_) | refine Awp.skip (nqA ?_) | refine o_noF rfl rfl rfl ?_ | (refine o_add rfl rfl rfl rfl ?_ ?_; omega) | (refine o_calm rfl TtOk rfl rfl rfl ?_ (fun _ => ?_); exact nd) | refine o_alloc (d := 9) rfl TtOk rfl rfl rfl (fun b9 => ?_) | refine o_store TtOk rfl rfl rfl rfl rfl rfl rfl ⟨rfl, rfl⟩ rfl rfl rfl rfl rfl ?_ | (refine o_index rfl TtOk rfl rfl rfl rfl rfl rfl ?_ (getq_nat ?_) ?_; omega; omega) | (refine a_condP rfl (fun hc => ?_) (fun hc => ?_)) <;> (try (exfalso; omega)) | refine a_any 8 [] [] [] [0, 1, 2, 3, 4, 5, 6, 7, 8, 9, 10, 11, 12, 13, 14, 15] (by kernel_rfl) (by kernel_rfl) (by kernel_rfl) rfl rfl rfl ?_)
        all_goals exact ⟨k + 1, [], hkt, by show seeds.length - (k + 1) < seeds.length - k; omega, rfl, ⟨sle_i hk1, sle_i rfl, sle_sl rfl, SLe.of_eq (congrArg AV.b hst.symm), sle_ptr, sle_i rfl, sle_i rfl, sle_sl rfl, sle_sl rfl, True.intro⟩, HLe.cons 6 rfl (HOLe.refl _) .nil⟩
      | false =>
        rw [Bool.false_or] at hst
        cases q1 : (l[i].l == f) with
        | true =>
          rw [q1, Bool.true_or] at hst
          repeat' (first | (rw [q1]) | refine Awp.seq ?_ | refine Awp.block ?_ | refine Awp.region ?_ | refine Ops.nil (nqA ?_) | refine Ops.nil (nqX ?_) | refine Awp.skip (nqA ?_) | refine o_noF rfl rfl rfl ?_ | (refine o_add rfl rfl rfl rfl ?_ ?_; omega) | (refine o_calm rfl TtOk rfl rfl rfl ?_ (fun _ => ?_); exact nd) | refine o_alloc (d := 9) rfl TtOk rfl rfl rfl (fun b9 => ?_) | refine o_store TtOk rfl rfl rfl rfl rfl rfl rfl ⟨rfl, rfl⟩ rfl rfl rfl rfl rfl ?_ | (refine o_index rfl TtOk rfl rfl rfl rfl rfl rfl ?_ (getq_nat ?_) ?_; omega; omega) | refine o_eqArr8 TtOk rfl rfl rfl rfl rfl rfl (by kernel_rfl) ?_ | (refine a_condP rfl (fun hc => ?_) (fun hc => ?_)) <;> (try (exfalso; omega)) | refine a_any 8 [] [] [] [0, 1, 2, 3, 4, 5, 6, 7, 8, 9, 10, 11, 12, 13, 14, 15] (by kernel_rfl) (by kernel_rfl) (by kernel_rfl) rfl rfl rfl ?_ | refine o_callE rfl (h1) ⟨nqS, True.intro⟩ rfl ?_)
          all_goals exact ⟨k + 1, [], hkt, by show seeds.length - (k + 1) < seeds.length - k; omega, rfl, ⟨sle_i hk1, sle_i rfl, sle_sl rfl, SLe.of_eq (congrArg AV.b hst.symm), sle_ptr, sle_i rfl, sle_i rfl, sle_sl rfl, sle_sl rfl, True.intro⟩, HLe.cons 6 rfl (HOLe.refl _) .nil⟩
        | false =>
          rw [q1, Bool.false_or] at hst
          cases q2 : (l[i].l == g) with
          | true =>
            rw [q2] at hst
            repeat' (first | (rw [q2]) | (rw [q1]) | refine Awp.seq ?_ | refine Awp.block ?_ | refine Awp.region ?_ | refine Ops.nil (nqA ?_) | refine Ops.nil (nqX ?_) | refine Awp.skip (nqA ?_) | (refine o_add rfl rfl rfl rfl ?_ ?_; omega) | (refine o_calm rfl TtOk rfl rfl rfl ?_ (fun _ => ?_); exact nd) | refine o_alloc (d := 9) rfl TtOk rfl rfl rfl (fun b9 => ?_) | refine o_store TtOk rfl rfl rfl rfl rfl rfl rfl ⟨rfl, rfl⟩ rfl rfl rfl rfl rfl ?_ | (refine o_index rfl TtOk rfl rfl rfl rfl rfl rfl ?_ (getq_nat ?_) ?_; omega; omega) | refine o_eqArr8 TtOk rfl rfl rfl rfl rfl rfl (by kernel_rfl) ?_ | (refine a_condP rfl (fun hc => ?_) (fun hc => ?_)) <;> (try (exfalso; omega)) | refine a_any 8 [] [] [] [0, 1, 2, 3, 4, 5, 6, 7, 8, 9, 10, 11, 12, 13, 14, 15] (by kernel_rfl) (by kernel_rfl) (by kernel_rfl) rfl rfl rfl ?_ | refine o_callE rfl (h1) ⟨nqS, True.intro⟩ rfl ?_ | refine o_callE rfl (h2) ⟨nqS, True.intro⟩ rfl ?_)
            all_goals exact ⟨k + 1, [], hkt, by show seeds.length - (k + 1) < seeds.length - k; omega, rfl, ⟨sle_i hk1, sle_i rfl, sle_sl rfl, SLe.of_eq (congrArg AV.b hst.symm), sle_ptr, sle_i rfl, sle_i rfl, sle_sl rfl, sle_sl rfl, True.intro⟩, HLe.cons 6 rfl (HOLe.refl _) .nil⟩
          | false =>
            rw [q2] at hst
            repeat' (first | (rw [q2]) | (rw [q1]) | refine Awp.seq ?_ | refine Awp.block ?_ | refine Awp.region ?_ | refine Ops.nil (nqA ?_) | refine Ops.nil (nqX ?_) | refine Awp.skip (nqA ?_) | (refine o_add rfl rfl rfl rfl ?_ ?_; omega) | (refine o_calm rfl TtOk rfl rfl rfl ?_ (fun _ => ?_); exact nd) | refine o_alloc (d := 9) rfl TtOk rfl rfl rfl (fun b9 => ?_) | refine o_store TtOk rfl rfl rfl rfl rfl rfl rfl ⟨rfl, rfl⟩ rfl rfl rfl rfl rfl ?_ | (refine o_index rfl TtOk rfl rfl rfl rfl rfl rfl ?_ (getq_nat ?_) ?_; omega; omega) | refine o_eqArr8 TtOk rfl rfl rfl rfl rfl rfl (by kernel_rfl) ?_ | (refine a_condP rfl (fun hc => ?_) (fun hc => ?_)) <;> (try (exfalso; omega)) | refine a_any 8 [] [] [] [0, 1, 2, 3, 4, 5, 6, 7, 8, 9, 10, 11, 12, 13, 14, 15] (by kernel_rfl) (by kernel_rfl) (by kernel_rfl) rfl rfl rfl ?_ | refine o_callE rfl (h1) ⟨nqS, True.intro⟩ rfl ?_ | refine o_callE rfl (h2) ⟨nqS, True.intro⟩ rfl ?_)
            all_goals exact ⟨k + 1, [], hkt, by show seeds.length - (k + 1) < seeds.length - k; omega, rfl, ⟨sle_i hk1, sle_i rfl, sle_sl rfl, SLe.of_eq (congrArg AV.b hst.symm), sle_ptr, sle_i rfl, sle_i rfl, sle_sl rfl, sle_sl rfl, True.intro⟩, HLe.cons 6 rfl (HOLe.refl _) .nil⟩
    · have hke : k = seeds.length := by omega
      subst hke
      rw [List.take_length]
      generalize hm : seeds.any (fun s => l[i].l == frL s || l[i].l == stL s) = m at *
      cases m with
      | true =>
        repeat' (first | refine Awp.seq ?_ | refine Awp.region ?_ | refine Ops.nil (nqA ?_) | refine Ops.nil (nqX ?_) | refine Awp.skip (nqA ?_) | refine Awp.exit (nqA ?_) | (refine o_add rfl rfl rfl rfl ?_ ?_; omega) | (refine o_calm rfl TtOk rfl rfl rfl ?_ (fun _ => ?_); exact nd) | refine a_condF rfl ?_ | (refine a_condP rfl (fun hc => ?_) (fun hc => ?_)) <;> (try (exfalso; omega)))
        all_goals exact ⟨i + 1, [], ⟨hlt, fun j h hj => by
          rcases Nat.lt_succ_iff_lt_or_eq.1 hj with h2 | rfl
          · exact hno j h h2
          · exact hm⟩, by show l.length - (i + 1) < l.length - i; omega, rfl, ⟨sle_i hi1, sle_i rfl, sle_sl rfl, sle_sl rfl, True.intro⟩, .nil⟩
      | false =>
        rw [hall _ rfl rfl]
        repeat' (first | refine Awp.seq ?_ | refine Awp.region ?_ | refine Ops.nil (nqA ?_) | refine Awp.exit (nqA ?_) | refine Awp.ret (nqE ?_) | (refine o_calm rfl TtOk rfl rfl rfl ?_ (fun _ => ?_); exact nd) | refine a_condT rfl ?_ | (refine a_condP rfl (fun hc => ?_) (fun hc => ?_)) <;> (try (exfalso; omega)))
        all_goals exact nq2
  · have hT : thE l seeds = true := by
      unfold thE
      rw [List.all_eq_true]
      intro x hx
      obtain ⟨j, hj, rfl⟩ := List.getElem_of_mem hx
      exact hno j hj (by omega)
    rw [hT]
    repeat' (first | refine Awp.seq ?_ | refine Awp.region ?_ | refine Ops.nil (nqA ?_) | refine Awp.exit (nqA ?_) | refine Awp.ret (nqE ?_) | (refine o_calm rfl TtOk rfl rfl rfl ?_ (fun _ => ?_); exact nd) | (refine a_condP rfl (fun hc => ?_) (fun hc => ?_)) <;> (try (exfalso; omega)))
    all_goals exact nq2
end Go.Proofs.YtcmgpkibjdbonaaGreat
set_option maxHeartbeats 16000000
set_option maxRecDepth 100000
namespace Go.Proofs.YtcmgpkibjdbonaaGreat
open Go Go.RowKit
theorem rold19_spec (l : List Lef) (s : List UInt8) (ep ag : Int) (hs : s.length = 32) (ht : ∀ x ∈ l, 0 ≤ x.t ∧ x.t ≤ 1073741824) (he : 0 ≤ ep ∧ ep ≤ 1073741824) : Spec Tryz.prog 109 [.sl 65 (l.map Lef.A), labA s, .i .i64 ep, .i .i64 ag] [] (fun v os => v = .tup [(fndL l (frL s)).A, (fndL l (stL s)).A, .b (supE l s ep ag)] ∧ os = []) := by
  have h1 := rfresh14_spec s hs
  have h2 := rstale14_spec s hs
  have h3 := rfind17_spec l (frL s)
  have h4 := rfind17_spec l (stL s)
  have h5 := rmark14_spec
  have h6 := fnd_t ht (stL s)
  obtain ⟨W, hW⟩ : ∃ W, supE l s ep ag = W := ⟨_, rfl⟩
  rw [hW]
  unfold supE at hW
  generalize frL s = f at *
  generalize stL s = g at *
  generalize fndL l f = x at *
  generalize fndL l g = y at *
  generalize hasLf l f = p at *
  generalize hasLf l g = q at *
  generalize markL = mk at *
  have hxA : x.A = .agg [labA x.l, labA x.v, .i .i64 x.t] := rfl
  have hyA : y.A = .agg [labA y.l, labA y.v, .i .i64 y.t] := rfl
  rw [hxA] at h3
  rw [hyA] at h4
  rw [hxA, hyA]
  refine spec_of TtOk [] Tryz.func109 rfl Tryz.ntmps109 (by kernel_rfl) rfl rfl (fun C => ?_) rfl
  cases p with
  | false =>
    have hW : false = W := by rw [← hW, Bool.false_and, Bool.false_and]
    subst hW
    repeat' (first | refine Awp.seq ?_ | refine Awp.region ?_ | refine Ops.nil (nqA ?_) | refine Awp.ret (nqE ?_) | refine o_noT rfl rfl rfl ?_ | (refine o_calm rfl TtOk rfl rfl rfl ?_ (fun _ => ?_); exact nd) | refine o_alloc (d := 8) rfl TtOk rfl rfl rfl (fun b8 => ?_) | refine o_alloc (d := 9) rfl TtOk rfl rfl rfl (fun b9 => ?_) | refine o_alloc (d := 11) rfl TtOk rfl rfl rfl (fun b11 => ?_) | refine o_alloc (d := 13) rfl TtOk rfl rfl rfl (fun b13 => ?_) | refine o_box (d := 5) rfl rfl rfl rfl (fun b5 => ?_) | refine o_store TtOk rfl rfl rfl rfl rfl rfl rfl ⟨rfl, rfl⟩ rfl rfl rfl rfl rfl ?_ | refine a_any 3 [8, 9] [29, 37] [38] [2, 3, 4, 5, 6, 7, 0, 1, 8, 9, 10, 11, 12, 13, 14, 17, 15, 16, 18, 19, 20, 21, 22] (by kernel_rfl) (by kernel_rfl) (by kernel_rfl) rfl rfl rfl ?_ | refine o_callE rfl (h1) ⟨nqS, True.intro⟩ rfl ?_ | refine o_callE rfl (h2) ⟨nqS, True.intro⟩ rfl ?_ | refine o_callE rfl (h3) ⟨nqS, nqS, True.intro⟩ rfl ?_ | refine o_callE rfl (h4) ⟨nqS, nqS, True.intro⟩ rfl ?_)
    all_goals
      refine end_all [] [] (.tup [x.A, y.A, .b false]) rfl ?_ ?_ (rle_tup3c (CLe.of_eq rfl) (CLe.of_eq rfl) (CLe.of_eq rfl) rfl rfl rfl) .nil ⟨rfl, rfl⟩ _ (.inl rfl)
      · exact nq1
      · exact ⟨trivial, trivial, trivial, trivial⟩
  | true =>
    rw [Bool.true_and] at hW
    cases q with
    | false =>
      have hW : false = W := by rw [← hW, Bool.false_and]
      subst hW
      repeat' (first | refine Awp.seq ?_ | refine Awp.region ?_ | refine Ops.nil (nqA ?_) | refine Awp.ret (nqE ?_) | refine o_noT rfl rfl rfl ?_ | (refine o_calm rfl TtOk rfl rfl rfl ?_ (fun _ => ?_); exact nd) | refine o_alloc (d := 8) rfl TtOk rfl rfl rfl (fun b8 => ?_) | refine o_alloc (d := 9) rfl TtOk rfl rfl rfl (fun b9 => ?_) | refine o_alloc (d := 11) rfl TtOk rfl rfl rfl (fun b11 => ?_) | refine o_alloc (d := 13) rfl TtOk rfl rfl rfl (fun b13 => ?_) | refine o_box (d := 5) rfl rfl rfl rfl (fun b5 => ?_) | refine o_store TtOk rfl rfl rfl rfl rfl rfl rfl ⟨rfl, rfl⟩ rfl rfl rfl rfl rfl ?_ | refine a_any 3 [8, 9] [29, 37] [38] [2, 3, 4, 5, 6, 7, 0, 1, 8, 9, 10, 11, 12, 13, 14, 17, 15, 16, 18, 19, 20, 21, 22] (by kernel_rfl) (by kernel_rfl) (by kernel_rfl) rfl rfl rfl ?_ | refine o_callE rfl (h1) ⟨nqS, True.intro⟩ rfl ?_ | refine o_callE rfl (h2) ⟨nqS, True.intro⟩ rfl ?_ | refine o_callE rfl (h3) ⟨nqS, nqS, True.intro⟩ rfl ?_ | refine o_callE rfl (h4) ⟨nqS, nqS, True.intro⟩ rfl ?_)
      all_goals
        refine end_all [] [] (.tup [x.A, y.A, .b false]) rfl ?_ ?_ (rle_tup3c (CLe.of_eq rfl) (CLe.of_eq rfl) (CLe.of_eq rfl) rfl rfl rfl) .nil ⟨rfl, rfl⟩ _ (.inl rfl)
        · exact nq1
        · exact ⟨trivial, trivial, trivial, trivial⟩
    | true =>
      rw [Bool.true_and] at hW
      cases qm : (y.v == mk) with
      | false =>
        have hW : false = W := by rw [← hW, qm, Bool.false_and]
        subst hW
        repeat' (first | (rw [qm]) | refine Awp.seq ?_ | refine Awp.region ?_ | refine Ops.nil (nqA ?_) | refine Awp.ret (nqE ?_) | refine o_noT rfl rfl rfl ?_ | (refine o_calm rfl TtOk rfl rfl rfl ?_ (fun _ => ?_); exact nd) | refine o_alloc (d := 8) rfl TtOk rfl rfl rfl (fun b8 => ?_) | refine o_alloc (d := 9) rfl TtOk rfl rfl rfl (fun b9 => ?_) | refine o_alloc (d := 11) rfl TtOk rfl rfl rfl (fun b11 => ?_) | refine o_alloc (d := 13) rfl TtOk rfl rfl rfl (fun b13 => ?_) | refine o_box (d := 5) rfl rfl rfl rfl (fun b5 => ?_) | refine o_store TtOk rfl rfl rfl rfl rfl rfl rfl ⟨rfl, rfl⟩ rfl rfl rfl rfl rfl ?_ | refine o_eqArr8 TtOk rfl rfl rfl rfl rfl rfl (by kernel_rfl) ?_ | refine a_any 3 [8, 9] [29, 37] [38] [2, 3, 4, 5, 6, 7, 0, 1, 8, 9, 10, 11, 12, 13, 14, 17, 15, 16, 18, 19, 20, 21, 22] (by kernel_rfl) (by kernel_rfl) (by kernel_rfl) rfl rfl rfl ?_ | refine o_callE rfl (h1) ⟨nqS, True.intro⟩ rfl ?_ | refine o_callE rfl (h2) ⟨nqS, True.intro⟩ rfl ?_ | refine o_callE rfl (h3) ⟨nqS, nqS, True.intro⟩ rfl ?_ | refine o_callE rfl (h4) ⟨nqS, nqS, True.intro⟩ rfl ?_ | (refine o_call0 rfl (h5) True.intro rfl ?_; rintro _ _ ⟨rfl, rfl⟩; refine ⟨rfl, ?_⟩))
        all_goals
          refine end_all [] [] (.tup [x.A, y.A, .b false]) rfl ?_ ?_ (rle_tup3c (CLe.of_eq rfl) (CLe.of_eq rfl) (CLe.of_eq rfl) rfl rfl rfl) .nil ⟨rfl, rfl⟩ _ (.inl rfl)
          · exact nq1
          · exact ⟨trivial, trivial, trivial, trivial⟩
      | true =>
        have hW : decide (ag ≤ ep - y.t) = W := by rw [← hW, qm, Bool.true_and]
        subst hW
        repeat' (first | (rw [qm]) | refine Awp.seq ?_ | refine Awp.region ?_ | refine Ops.nil (nqA ?_) | refine Awp.ret (nqE ?_) | (refine o_sub rfl rfl rfl rfl ?_ ?_; omega) | (refine o_calm rfl TtOk rfl rfl rfl ?_ (fun _ => ?_); exact nd) | refine o_alloc (d := 8) rfl TtOk rfl rfl rfl (fun b8 => ?_) | refine o_alloc (d := 9) rfl TtOk rfl rfl rfl (fun b9 => ?_) | refine o_alloc (d := 11) rfl TtOk rfl rfl rfl (fun b11 => ?_) | refine o_alloc (d := 13) rfl TtOk rfl rfl rfl (fun b13 => ?_) | refine o_box (d := 5) rfl rfl rfl rfl (fun b5 => ?_) | refine o_store TtOk rfl rfl rfl rfl rfl rfl rfl ⟨rfl, rfl⟩ rfl rfl rfl rfl rfl ?_ | refine o_eqArr8 TtOk rfl rfl rfl rfl rfl rfl (by kernel_rfl) ?_ | refine a_any 3 [8, 9] [29, 37] [38] [2, 3, 4, 5, 6, 7, 0, 1, 8, 9, 10, 11, 12, 13, 14, 17, 15, 16, 18, 19, 20, 21, 22] (by kernel_rfl) (by kernel_rfl) (by kernel_rfl) rfl rfl rfl ?_ | refine o_callE rfl (h1) ⟨nqS, True.intro⟩ rfl ?_ | refine o_callE rfl (h2) ⟨nqS, True.intro⟩ rfl ?_ | refine o_callE rfl (h3) ⟨nqS, nqS, True.intro⟩ rfl ?_ | refine o_callE rfl (h4) ⟨nqS, nqS, True.intro⟩ rfl ?_ | (refine o_call0 rfl (h5) True.intro rfl ?_; rintro _ _ ⟨rfl, rfl⟩; refine ⟨rfl, ?_⟩))
        all_goals
          refine end_all [] [] (.tup [x.A, y.A, .b (decide (ag ≤ ep - y.t))]) rfl ?_ ?_ (rle_tup3c (CLe.of_eq rfl) (CLe.of_eq rfl) (CLe.of_eq rfl) rfl rfl rfl) .nil ⟨rfl, rfl⟩ _ (.inl rfl)
          · exact nq1
          · exact ⟨trivial, trivial, trivial, trivial⟩
end Go.Proofs.YtcmgpkibjdbonaaGreat
set_option maxHeartbeats 16000000
set_option maxRecDepth 100000
namespace Go.Proofs.YtcmgpkibjdbonaaGreat
open Go Go.RowKit
/-- What is summed of the top of told parts. -/
def tdT (T : List Itm) (O : List Lef) : List UInt8 := if T.length = 0 then [18] else if T.length = 1 then leafB (fndL O (T.headD default).l) else innB (parA T) (parB T)
/-- A part that isn't told. -/
def unT (T : List Itm) (O : List Lef) : Bool := T.length == 1 && (!(hasLf O (T.headD default).l) || decide ((T.headD default).n < 256))
def spR (R : List Lef) : Nat := if 2 ≤ R.length then splI (R.map leafI) else 0
def hld : Nat → List Itm → List Lef → List Lef → List UInt8 × List UInt8 × Bool
  | 0, _, _, _ => ([], [], false)
  | k + 1, T, O, R =>
    if unT T O = true then ([], [], false) else
    if tdT T O = rlT R then
      if T.length < 2 then ([], [], false) else
      if (hld k (T.take (splI T)) O (R.take (spR R))).1 = (hld k (T.take (splI T)) O (R.take (spR R))).2.1 then hld k (T.drop (splI T)) O (R.drop (spR R))
      else hld k (T.take (splI T)) O (R.take (spR R))
    else (tdT T O, rlT R, clsh (tdT T O) (rlT R))
theorem fndL_ok {l : List Lef} {g : List UInt8} (h : ∀ x ∈ l, x.ok) : (fndL l g).ok := by
  unfold fndL
  cases hf : l.find? (fun y => y.l == g) with
  | none => exact ⟨rfl, rfl⟩
  | some x => exact h x (List.mem_of_find?_eq_some hf)
end Go.Proofs.YtcmgpkibjdbonaaGreat
