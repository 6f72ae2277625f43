/- ref19.Check, has, Inserts by rules. -/
import Derived.Test.YtcmgpkibjdbonaaGreatLF1Z
import Derived.Test.YtcmgpkibjdbonaaGreatZC8Z
import Derived.Test.YtcmgpkibjdbonaaGreatR5Z
import Derived.Test.YtcmgpkibjdbonaaGreatR6Z
import Derived.Test.YtcmgpkibjdbonaaGreatV38Z
import Derived.Test.YtcmgpkibjdbonaaGreatGHZ
import Derived.Test.YtcmgpkibjdbonaaGreatC3Z
import Derived.Test.YtcmgpkibjdbonaaGreatPF4Z
set_option maxHeartbeats 16000000
set_option maxRecDepth 100000
namespace Go.Proofs.YtcmgpkibjdbonaaGreat
open Go Go.RowKit
theorem rcheck19_spec (fr to : List UInt8) (s : Stp) (hs : s.same.length ≤ 50000) (ho : s.old.length ≤ 50000) (hn : s.new.length ≤ 50000) (hok : s.ok) : Spec Tryz.prog 29 [labA fr, labA to, s.R] [] (fun v os => v = .i .i64 (stE fr to s) ∧ os = []) := by
  obtain ⟨same, old, new⟩ := s
  obtain ⟨o1, o2, o3⟩ := hok
  dsimp only at hs ho hn o1 o2 o3
  have k1 := ritems19_spec same old hs ho o1 o2
  have k2 := ritems19_spec same new hs hn o1 o3
  have l1 : (topU same old).length ≤ 100000 := by rw [topU_len]; omega
  have l2 : (topU same new).length ≤ 100000 := by rw [topU_len]; omega
  have k3 := rcheckI_spec (topU same old) l1 (topU_ok o1 o2)
  have k4 := rcheckI_spec (topU same new) l2 (topU_ok o1 o3)
  have k5 := rtop_spec (topU same old) l1 (topU_ok o1 o2)
  have k6 := rtop_spec (topU same new) l2 (topU_ok o1 o3)
  have hE : stE fr to ⟨same, old, new⟩ = (if 500 < old.length ∨ 500 < new.length then 2 else if same.length = 1 ∧ old.length = 0 ∧ 0 < new.length then 3 else if chkI (topU same old) ≠ 0 then chkI (topU same old) else if chkI (topU same new) ≠ 0 then chkI (topU same new) else if topS (topU same old) = fr ∧ topS (topU same new) = to then 0 else 11) := rfl
  rw [hE]
  clear hE l1 l2 o1 o2 o3
  show Spec Tryz.prog 29 [labA fr, labA to, .agg [.sl 66 (same.map Itm.R), .sl 65 (old.map Lef.A), .sl 65 (new.map Lef.A)]] [] _
  generalize topU same old = u1 at *
  generalize topU same new = u2 at *
  generalize topS u1 = t1 at *
  generalize topS u2 = t2 at *
  generalize chkI u1 = c1 at *
  generalize chkI u2 = c2 at *
  refine spec_of TtOk [] Tryz.func29 rfl Tryz.ntmps29 (by kernel_rfl) rfl rfl (fun C => ?_) rfl
  by_cases hb : 500 < old.length ∨ 500 < new.length
  · rw [if_pos hb]
    repeat' (first | refine Awp.seq ?_ | refine Awp.region ?_ | refine Ops.nil (nqA ?_) | refine Awp.ret (nqE ?_) | refine o_noF rfl rfl rfl ?_ | refine o_len rfl TtOk rfl rfl rfl (fun _ => ?_) | (refine o_calm rfl TtOk rfl rfl rfl ?_ (fun _ => ?_); exact nd) | refine o_box (d := 3) rfl rfl rfl rfl (fun b3 => ?_) | refine o_box (d := 4) rfl rfl rfl rfl (fun b4 => ?_) | refine o_box (d := 5) rfl rfl rfl rfl (fun b5 => ?_) | (fail_if_success (refine o_isLit rfl (by first | exact .inl rfl | exact .inr rfl) ?_)); (refine o_splitP rfl rfl (fun hc => ?_) (fun hc => ?_) <;> try (exfalso; omega)) | refine a_condT rfl ?_ | (refine a_condP rfl (fun hc => ?_) (fun hc => ?_)) <;> (try (exfalso; omega)))
    all_goals exact nq2
  rw [if_neg hb]
  by_cases h3 : same.length = 1 ∧ old.length = 0 ∧ 0 < new.length
  · rw [if_pos h3]
    repeat' (first | refine Awp.seq ?_ | refine Awp.region ?_ | refine Ops.nil (nqA ?_) | refine Awp.skip (nqA ?_) | refine Awp.ret (nqE ?_) | refine o_len rfl TtOk rfl rfl rfl (fun _ => ?_) | (refine o_calm rfl TtOk rfl rfl rfl ?_ (fun _ => ?_); exact nd) | refine o_box (d := 3) rfl rfl rfl rfl (fun b3 => ?_) | refine o_box (d := 4) rfl rfl rfl rfl (fun b4 => ?_) | refine o_box (d := 5) rfl rfl rfl rfl (fun b5 => ?_) | (fail_if_success (refine o_isLit rfl (by first | exact .inl rfl | exact .inr rfl) ?_)); (refine o_splitP rfl rfl (fun hc => ?_) (fun hc => ?_) <;> try (exfalso; omega)) | (refine a_condP rfl (fun hc => ?_) (fun hc => ?_)) <;> (try (exfalso; omega)))
    all_goals exact nq2
  rw [if_neg h3]
  by_cases hc1 : c1 ≠ 0
  · rw [if_pos hc1]
    clear k5 k6 k4
    repeat' (first | refine Awp.seq ?_ | refine Awp.region ?_ | refine Ops.nil (nqA ?_) | refine Awp.skip (nqA ?_) | refine Awp.ret (nqE ?_) | refine o_noT rfl rfl rfl ?_ | refine o_len rfl TtOk rfl rfl rfl (fun _ => ?_) | (refine o_calm rfl TtOk rfl rfl rfl ?_ (fun _ => ?_); exact nd) | refine o_box (d := 3) rfl rfl rfl rfl (fun b3 => ?_) | refine o_box (d := 4) rfl rfl rfl rfl (fun b4 => ?_) | refine o_box (d := 5) rfl rfl rfl rfl (fun b5 => ?_) | (fail_if_success (refine o_isLit rfl (by first | exact .inl rfl | exact .inr rfl) ?_)); (refine o_splitP rfl rfl (fun hc => ?_) (fun hc => ?_) <;> try (exfalso; omega)) | refine a_condF rfl ?_ | (refine a_condP rfl (fun hc => ?_) (fun hc => ?_)) <;> (try (exfalso; omega)) | (refine a_condN rfl (fun hc => ?_) (fun hc => ?_)) <;> (try (exfalso; omega)) | refine a_any 5 [] [] [] [0, 2, 5, 7, 1, 3, 6, 8, 4, 9, 10, 11] (by kernel_rfl) (by kernel_rfl) (by kernel_rfl) rfl rfl rfl ?_ | refine o_callE rfl (k1) ⟨nqS, nqS, True.intro⟩ rfl ?_ | refine o_callE rfl (k2) ⟨nqS, nqS, True.intro⟩ rfl ?_ | refine o_callE rfl (k3) ⟨nqS, True.intro⟩ rfl ?_)
    all_goals exact nq2
  rw [if_neg hc1]
  have hc1 := Decidable.not_not.1 hc1
  subst hc1
  by_cases hc2 : c2 ≠ 0
  · rw [if_pos hc2]
    clear k5 k6
    repeat' (first | refine Awp.seq ?_ | refine Awp.region ?_ | refine Ops.nil (nqA ?_) | refine Awp.skip (nqA ?_) | refine Awp.ret (nqE ?_) | refine o_noT rfl rfl rfl ?_ | refine o_len rfl TtOk rfl rfl rfl (fun _ => ?_) | (refine o_calm rfl TtOk rfl rfl rfl ?_ (fun _ => ?_); exact nd) | refine o_box (d := 3) rfl rfl rfl rfl (fun b3 => ?_) | refine o_box (d := 4) rfl rfl rfl rfl (fun b4 => ?_) | refine o_box (d := 5) rfl rfl rfl rfl (fun b5 => ?_) | (fail_if_success (refine o_isLit rfl (by first | exact .inl rfl | exact .inr rfl) ?_)); (refine o_splitP rfl rfl (fun hc => ?_) (fun hc => ?_) <;> try (exfalso; omega)) | refine a_condF rfl ?_ | (refine a_condP rfl (fun hc => ?_) (fun hc => ?_)) <;> (try (exfalso; omega)) | (refine a_condN rfl (fun hc => ?_) (fun hc => ?_)) <;> (try (exfalso; omega)) | refine a_any 5 [] [] [] [0, 2, 5, 7, 1, 3, 6, 8, 4, 9, 10, 11] (by kernel_rfl) (by kernel_rfl) (by kernel_rfl) rfl rfl rfl ?_ | refine o_callE rfl (k1) ⟨nqS, nqS, True.intro⟩ rfl ?_ | refine o_callE rfl (k2) ⟨nqS, nqS, True.intro⟩ rfl ?_ | refine o_callE rfl (k3) ⟨nqS, True.intro⟩ rfl ?_ | refine o_callE rfl (k4) ⟨nqS, True.intro⟩ rfl ?_)
    all_goals exact nq2
  rw [if_neg hc2]
  have hc2 := Decidable.not_not.1 hc2
  subst hc2
  have k5 := k5 rfl
  have k6 := k6 rfl
  cases q1 : (t1 == fr) with
  | true =>
    have hx : (!(t1 == fr)) = false := by rw [q1]; rfl
    cases q2 : (t2 == to) with
    | true =>
      have hy : (!(t2 == to)) = false := by rw [q2]; rfl
      rw [if_pos ⟨eq_of_beq q1, eq_of_beq q2⟩]
      repeat' (first | refine Awp.seq ?_ | refine Awp.region ?_ | refine Ops.nil (nqA ?_) | refine Awp.skip (nqA ?_) | refine Awp.ret (nqE ?_) | refine o_noT rfl rfl rfl ?_ | refine o_len rfl TtOk rfl rfl rfl (fun _ => ?_) | (refine o_calm rfl TtOk rfl rfl rfl ?_ (fun _ => ?_); exact nd) | refine o_box (d := 3) rfl rfl rfl rfl (fun b3 => ?_) | refine o_box (d := 4) rfl rfl rfl rfl (fun b4 => ?_) | refine o_box (d := 5) rfl rfl rfl rfl (fun b5 => ?_) | (fail_if_success (refine o_isLit rfl (by first | exact .inl rfl | exact .inr rfl) ?_)); (refine o_splitP rfl rfl (fun hc => ?_) (fun hc => ?_) <;> try (exfalso; omega)) | refine a_condF rfl ?_ | (refine a_condP rfl (fun hc => ?_) (fun hc => ?_)) <;> (try (exfalso; omega)) | refine a_any 5 [] [] [] [0, 2, 5, 7, 1, 3, 6, 8, 4, 9, 10, 11] (by kernel_rfl) (by kernel_rfl) (by kernel_rfl) rfl rfl rfl ?_ | refine a_any 12 [] [] [] [0, 2, 1, 3, 4, 5, 7, 6, 8, 9] (by kernel_rfl) (by kernel_rfl) (by kernel_rfl) rfl rfl rfl ?_ | (refine o_neArr8 TtOk rfl rfl rfl rfl rfl rfl (by kernel_rfl) ?_; first | rw [hx] | rw [hy]) | refine o_callE rfl (k1) ⟨nqS, nqS, True.intro⟩ rfl ?_ | refine o_callE rfl (k2) ⟨nqS, nqS, True.intro⟩ rfl ?_ | refine o_callE rfl (k3) ⟨nqS, True.intro⟩ rfl ?_ | refine o_callE rfl (k4) ⟨nqS, True.intro⟩ rfl ?_ | refine o_callE rfl (k5) ⟨nqS, True.intro⟩ rfl ?_ | refine o_callE rfl (k6) ⟨nqS, True.intro⟩ rfl ?_)
      all_goals exact nq2
    | false =>
      have hy : (!(t2 == to)) = true := by rw [q2]; rfl
      rw [if_neg (fun h => by rw [h.2, beq_self_eq_true] at q2; cases q2)]
      repeat' (first | refine Awp.seq ?_ | refine Awp.region ?_ | refine Ops.nil (nqA ?_) | refine Awp.skip (nqA ?_) | refine Awp.ret (nqE ?_) | refine o_noT rfl rfl rfl ?_ | refine o_len rfl TtOk rfl rfl rfl (fun _ => ?_) | (refine o_calm rfl TtOk rfl rfl rfl ?_ (fun _ => ?_); exact nd) | refine o_box (d := 3) rfl rfl rfl rfl (fun b3 => ?_) | refine o_box (d := 4) rfl rfl rfl rfl (fun b4 => ?_) | refine o_box (d := 5) rfl rfl rfl rfl (fun b5 => ?_) | (fail_if_success (refine o_isLit rfl (by first | exact .inl rfl | exact .inr rfl) ?_)); (refine o_splitP rfl rfl (fun hc => ?_) (fun hc => ?_) <;> try (exfalso; omega)) | refine a_condT rfl ?_ | refine a_condF rfl ?_ | (refine a_condP rfl (fun hc => ?_) (fun hc => ?_)) <;> (try (exfalso; omega)) | refine a_any 5 [] [] [] [0, 2, 5, 7, 1, 3, 6, 8, 4, 9, 10, 11] (by kernel_rfl) (by kernel_rfl) (by kernel_rfl) rfl rfl rfl ?_ | refine a_any 12 [] [] [] [0, 2, 1, 3, 4, 5, 7, 6, 8, 9] (by kernel_rfl) (by kernel_rfl) (by kernel_rfl) rfl rfl rfl ?_ | (refine o_neArr8 TtOk rfl rfl rfl rfl rfl rfl (by kernel_rfl) ?_; first | rw [hx] | rw [hy]) | refine o_callE rfl (k1) ⟨nqS, nqS, True.intro⟩ rfl ?_ | refine o_callE rfl (k2) ⟨nqS, nqS, True.intro⟩ rfl ?_ | refine o_callE rfl (k3) ⟨nqS, True.intro⟩ rfl ?_ | refine o_callE rfl (k4) ⟨nqS, True.intro⟩ rfl ?_ | refine o_callE rfl (k5) ⟨nqS, True.intro⟩ rfl ?_ | refine o_callE rfl (k6) ⟨nqS, True.intro⟩ rfl ?_)
      all_goals exact nq2
  | false =>
    have hx : (!(t1 == fr)) = true := by rw [q1]; rfl
    rw [if_neg (fun h => by rw [h.1, beq_self_eq_true] at q1; cases q1)]
    repeat' (first | refine Awp.seq ?_ | refine Awp.region ?_ | refine Ops.nil (nqA ?_) | refine Awp.skip (nqA ?_) | refine Awp.ret (nqE ?_) | refine o_noT rfl rfl rfl ?_ | refine o_noF rfl rfl rfl ?_ | refine o_len rfl TtOk rfl rfl rfl (fun _ => ?_) | (refine o_calm rfl TtOk rfl rfl rfl ?_ (fun _ => ?_); exact nd) | refine o_box (d := 3) rfl rfl rfl rfl (fun b3 => ?_) | refine o_box (d := 4) rfl rfl rfl rfl (fun b4 => ?_) | refine o_box (d := 5) rfl rfl rfl rfl (fun b5 => ?_) | (fail_if_success (refine o_isLit rfl (by first | exact .inl rfl | exact .inr rfl) ?_)); (refine o_splitP rfl rfl (fun hc => ?_) (fun hc => ?_) <;> try (exfalso; omega)) | refine a_condT rfl ?_ | refine a_condF rfl ?_ | (refine a_condP rfl (fun hc => ?_) (fun hc => ?_)) <;> (try (exfalso; omega)) | refine a_any 5 [] [] [] [0, 2, 5, 7, 1, 3, 6, 8, 4, 9, 10, 11] (by kernel_rfl) (by kernel_rfl) (by kernel_rfl) rfl rfl rfl ?_ | refine a_any 12 [] [] [] [0, 2, 1, 3, 4, 5, 7, 6, 8, 9] (by kernel_rfl) (by kernel_rfl) (by kernel_rfl) rfl rfl rfl ?_ | (refine o_neArr8 TtOk rfl rfl rfl rfl rfl rfl (by kernel_rfl) ?_; first | rw [hx]) | refine o_callE rfl (k1) ⟨nqS, nqS, True.intro⟩ rfl ?_ | refine o_callE rfl (k2) ⟨nqS, nqS, True.intro⟩ rfl ?_ | refine o_callE rfl (k3) ⟨nqS, True.intro⟩ rfl ?_ | refine o_callE rfl (k4) ⟨nqS, True.intro⟩ rfl ?_ | refine o_callE rfl (k5) ⟨nqS, True.intro⟩ rfl ?_)
    all_goals exact nq2
end Go.Proofs.YtcmgpkibjdbonaaGreat
set_option maxHeartbeats 16000000
set_option maxRecDepth 100000
namespace Go.Proofs.YtcmgpkibjdbonaaGreat
open Go Go.RowKit
theorem rhas19_spec (l : List Lef) (x : Lef) : Spec Tryz.prog 100 [.sl 65 (l.map Lef.A), x.A] [] (fun v os => v = .b (l.any (fun y => eqLf x y)) ∧ os = []) := by
  refine spec_of TtOk [] Tryz.func100 rfl Tryz.ntmps100 (by kernel_rfl) rfl rfl (fun C => ?_) rfl
  repeat' (first | refine Awp.seq ?_ | refine Awp.block ?_ | refine Awp.region ?_ | refine Ops.nil (nqA ?_) | refine o_len rfl TtOk rfl rfl rfl (fun _ => ?_) | (refine o_calm rfl TtOk rfl rfl rfl ?_ (fun _ => ?_); exact nd) | refine o_box (d := 3) rfl rfl rfl rfl (fun b3 => ?_))
  refine Awp.loop (fun i : Nat => ⟨17, [(9, .i .i64 i), (8, .i .i64 l.length), (7, .sl 65 (l.map Lef.A)), (3, .ptr 3 b3 [] 0)], [(3, .var b3 x.A)]⟩) (fun i => i ≤ l.length ∧ ∀ j (hj : j < l.length), j < i → eqLf x l[j] = false) (fun i => l.length - i) [] 0 ⟨Nat.zero_le _, fun _ _ h => absurd h (Nat.not_lt_zero _)⟩ ?_ ?_
  · exact ⟨rfl, ⟨sle_i rfl, sle_i rfl, sle_sl rfl, sle_ptr, True.intro⟩, HLe.cons 3 rfl (HOLe.refl _) .nil⟩
  rintro i ⟨hi, hno⟩
  by_cases hlt : i < l.length
  · have hi1 : ((i : Int) + 1 = ((i + 1 : Nat) : Int)) := by omega
    cases hq : eqLf x l[i] with
    | true =>
      have hT : l.any (fun y => eqLf x y) = true := List.any_eq_true.2 ⟨l[i], List.getElem_mem hlt, hq⟩
      rw [hT]
      repeat' (first | refine Awp.seq ?_ | refine Awp.block ?_ | refine Awp.region ?_ | refine Ops.nil (nqA ?_) | refine Awp.skip (nqA ?_) | refine Awp.ret (nqE ?_) | (refine o_calm rfl TtOk rfl rfl rfl ?_ (fun _ => ?_); exact nd) | refine o_alloc (d := 6) rfl TtOk rfl rfl rfl (fun b6 => ?_) | refine o_store TtOk rfl rfl rfl rfl rfl rfl rfl ⟨rfl, rfl⟩ rfl rfl rfl rfl rfl ?_ | (refine o_index rfl TtOk rfl rfl rfl rfl rfl rfl ?_ (getq_nat ?_) ?_; omega; omega) | refine a_condT rfl ?_ | (refine a_condP rfl (fun hc => ?_) (fun hc => ?_)) <;> (try (exfalso; omega)) | (refine o_eqLefR (p := x) (q := l[i]) rfl rfl rfl rfl ?_; rw [hq]))
      all_goals exact nq2
    | false =>
      repeat' (first | refine Awp.seq ?_ | refine Awp.block ?_ | refine Awp.region ?_ | refine Ops.nil (nqA ?_) | refine Ops.nil (nqX ?_) | refine Awp.skip (nqA ?_) | (refine o_add rfl rfl rfl rfl ?_ ?_; omega) | (refine o_calm rfl TtOk rfl rfl rfl ?_ (fun _ => ?_); exact nd) | refine o_alloc (d := 6) rfl TtOk rfl rfl rfl (fun b6 => ?_) | refine o_store TtOk rfl rfl rfl rfl rfl rfl rfl ⟨rfl, rfl⟩ rfl rfl rfl rfl rfl ?_ | (refine o_index rfl TtOk rfl rfl rfl rfl rfl rfl ?_ (getq_nat ?_) ?_; omega; omega) | refine a_condF rfl ?_ | (refine a_condP rfl (fun hc => ?_) (fun hc => ?_)) <;> (try (exfalso; omega)) | (refine o_eqLefR (p := x) (q := l[i]) rfl rfl rfl rfl ?_; rw [hq]))
      all_goals exact ⟨i + 1, [], ⟨hlt, fun j hj h => by
        rcases Nat.lt_succ_iff_lt_or_eq.1 h with h2 | rfl
        · exact hno j hj h2
        · exact hq⟩, by show l.length - (i + 1) < l.length - i; omega, rfl, ⟨sle_i hi1, sle_i rfl, sle_sl rfl, sle_ptr, True.intro⟩, HLe.cons 3 rfl (HOLe.refl _) .nil⟩
  · have hT : l.any (fun y => eqLf x y) = false := by
      rw [List.any_eq_false]
      intro y hy
      obtain ⟨j, hj, rfl⟩ := List.getElem_of_mem hy
      rw [hno j hj (by omega)]; decide
    rw [hT]
    repeat' (first | refine Awp.seq ?_ | refine Awp.region ?_ | refine Ops.nil (nqA ?_) | refine Awp.exit (nqA ?_) | refine Awp.ret (nqE ?_) | (refine o_calm rfl TtOk rfl rfl rfl ?_ (fun _ => ?_); exact nd) | (refine a_condP rfl (fun hc => ?_) (fun hc => ?_)) <;> (try (exfalso; omega)))
    all_goals exact nq2
theorem rins19_spec (s : Stp) (ep : Int) (ho : s.old.length ≤ 100000) (hn : s.new.length ≤ 100000) : Spec Tryz.prog 31 [s.R, .i .i64 ep] [] (fun v os => v = .b (insF s ep) ∧ os = []) := by
  obtain ⟨same, old, new⟩ := s
  dsimp only at ho hn
  obtain ⟨W, hW⟩ : ∃ W, insF ⟨same, old, new⟩ ep = W := ⟨_, rfl⟩
  rw [hW]
  have hW : (old.all (fun x => new.any (fun y => eqLf x y)) && new.all (insN ⟨same, old, new⟩ ep)) = W := hW
  have hN : ∀ x, insN ⟨same, old, new⟩ ep x = (old.any (fun y => eqLf x y) || x.t == ep) := fun _ => rfl
  generalize insN ⟨same, old, new⟩ ep = nf at *
  show Spec Tryz.prog 31 [.agg [.sl 66 (same.map Itm.R), .sl 65 (old.map Lef.A), .sl 65 (new.map Lef.A)], .i .i64 ep] [] _
  refine spec_of TtOk [] Tryz.func31 rfl Tryz.ntmps31 (by kernel_rfl) rfl rfl (fun C => ?_) rfl
  repeat' (first | refine Awp.seq ?_ | refine Awp.block ?_ | refine Awp.region ?_ | refine Ops.nil (nqA ?_) | refine o_len rfl TtOk rfl rfl rfl (fun _ => ?_) | (refine o_calm rfl TtOk rfl rfl rfl ?_ (fun _ => ?_); exact nd) | refine o_box (d := 2) rfl rfl rfl rfl (fun b2 => ?_))
  refine Awp.loop (fun i : Nat => ⟨41, [(12, .i .i64 i), (11, .i .i64 old.length), (10, .sl 65 (old.map Lef.A)), (2, .ptr 2 b2 [] 0), (1, .i .i64 ep)], [(2, .var b2 (.agg [.sl 66 (same.map Itm.R), .sl 65 (old.map Lef.A), .sl 65 (new.map Lef.A)]))]⟩) (fun i => i ≤ old.length ∧ ∀ j (h : j < old.length), j < i → new.any (fun y => eqLf old[j] y) = true) (fun i => old.length - i) [] 0 ⟨Nat.zero_le _, fun _ _ h => absurd h (Nat.not_lt_zero _)⟩ ?_ ?_
  · exact ⟨rfl, ⟨sle_i rfl, sle_i rfl, sle_sl rfl, sle_ptr, sle_i rfl, True.intro⟩, HLe.cons 2 rfl (HOLe.refl _) .nil⟩
  rintro i ⟨hi, hin⟩
  by_cases hlt : i < old.length
  · have hi1 : ((i : Int) + 1 = ((i + 1 : Nat) : Int)) := by omega
    have hcn := rhas19_spec new old[i]
    cases ha : new.any (fun y => eqLf old[i] y) with
    | true =>
      rw [ha] at hcn
      repeat' (first | refine Awp.seq ?_ | refine Awp.block ?_ | refine Awp.region ?_ | refine Ops.nil (nqA ?_) | refine Ops.nil (nqX ?_) | refine Awp.skip (nqA ?_) | (refine o_add rfl rfl rfl rfl ?_ ?_; omega) | (refine o_calm rfl TtOk rfl rfl rfl ?_ (fun _ => ?_); exact nd) | refine o_alloc (d := 6) rfl TtOk rfl rfl rfl (fun b6 => ?_) | refine o_store TtOk rfl rfl rfl rfl rfl rfl rfl ⟨rfl, rfl⟩ rfl rfl rfl rfl rfl ?_ | (refine o_index rfl TtOk rfl rfl rfl rfl rfl rfl ?_ (getq_nat ?_) ?_; omega; omega) | refine a_condF rfl ?_ | (refine a_condP rfl (fun hc => ?_) (fun hc => ?_)) <;> (try (exfalso; omega)) | refine o_callE rfl (hcn) ⟨nqS, nqS, True.intro⟩ rfl ?_)
      all_goals
        exact ⟨i + 1, [], ⟨hlt, fun j h hj => by
          rcases Nat.lt_succ_iff_lt_or_eq.1 hj with h2 | rfl
          · exact hin j h h2
          · exact ha⟩, by omega, rfl, ⟨sle_i hi1, sle_i rfl, sle_sl rfl, sle_ptr, sle_i rfl, True.intro⟩, HLe.cons 2 rfl (HOLe.refl _) .nil⟩
    | false =>
      rw [ha] at hcn
      have hal : old.all (fun x => new.any (fun y => eqLf x y)) = false := by
        rw [List.all_eq_false]
        exact ⟨old[i], List.getElem_mem hlt, by rw [ha]; decide⟩
      rw [hal, Bool.false_and] at hW
      subst hW
      repeat' (first | refine Awp.seq ?_ | refine Awp.block ?_ | refine Awp.region ?_ | refine Ops.nil (nqA ?_) | refine Awp.skip (nqA ?_) | refine Awp.ret (nqE ?_) | (refine o_calm rfl TtOk rfl rfl rfl ?_ (fun _ => ?_); exact nd) | refine o_alloc (d := 6) rfl TtOk rfl rfl rfl (fun b6 => ?_) | refine o_store TtOk rfl rfl rfl rfl rfl rfl rfl ⟨rfl, rfl⟩ rfl rfl rfl rfl rfl ?_ | (refine o_index rfl TtOk rfl rfl rfl rfl rfl rfl ?_ (getq_nat ?_) ?_; omega; omega) | refine a_condT rfl ?_ | (refine a_condP rfl (fun hc => ?_) (fun hc => ?_)) <;> (try (exfalso; omega)) | refine o_callE rfl (hcn) ⟨nqS, nqS, True.intro⟩ rfl ?_)
      all_goals exact nq2
  have hie : i = old.length := by omega
  have hal : old.all (fun x => new.any (fun y => eqLf x y)) = true := by
    rw [List.all_eq_true]
    intro g hgm
    obtain ⟨j, hj, rfl⟩ := List.getElem_of_mem hgm
    exact hin j hj (by omega)
  rw [hal, Bool.true_and] at hW
  clear hin hal
  subst hie
  repeat' (first | refine Awp.seq ?_ | refine Awp.block ?_ | refine Awp.region ?_ | refine Ops.nil (nqA ?_) | refine Awp.exit (nqA ?_) | refine o_len rfl TtOk rfl rfl rfl (fun _ => ?_) | (refine o_calm rfl TtOk rfl rfl rfl ?_ (fun _ => ?_); exact nd) | (refine a_condP rfl (fun hc => ?_) (fun hc => ?_)) <;> (try (exfalso; omega)))
  refine Awp.loop (fun i : Nat => ⟨41, [(25, .i .i64 i), (24, .i .i64 new.length), (23, .sl 65 (new.map Lef.A)), (2, .ptr 2 b2 [] 0), (1, .i .i64 ep)], [(2, .var b2 (.agg [.sl 66 (same.map Itm.R), .sl 65 (old.map Lef.A), .sl 65 (new.map Lef.A)]))]⟩) (fun i => i ≤ new.length ∧ ∀ j (h : j < new.length), j < i → nf new[j] = true) (fun i => new.length - i) [] 0 ⟨Nat.zero_le _, fun _ _ h => absurd h (Nat.not_lt_zero _)⟩ ?_ ?_
  · exact ⟨rfl, ⟨sle_i rfl, sle_i rfl, sle_sl rfl, sle_ptr, sle_i rfl, True.intro⟩, HLe.cons 2 rfl (HOLe.refl _) .nil⟩
  rintro i ⟨hi, hin⟩
  by_cases hlt : i < new.length
  · have hi1 : ((i : Int) + 1 = ((i + 1 : Nat) : Int)) := by omega
    have hcn := rhas19_spec old new[i]
    have hNi := hN new[i]
    have hnx : nf new[i] = true → ∀ j (h : j < new.length), j < i + 1 → nf new[j] = true := fun hx j h hj => by
      rcases Nat.lt_succ_iff_lt_or_eq.1 hj with h2 | rfl
      · exact hin j h h2
      · exact hx
    generalize old.any (fun y => eqLf new[i] y) = a at hcn hNi
    cases a with
    | true =>
      rw [Bool.true_or] at hNi
      repeat' (first | refine Awp.seq ?_ | refine Awp.block ?_ | refine Awp.region ?_ | refine Ops.nil (nqA ?_) | refine Ops.nil (nqX ?_) | refine Awp.skip (nqA ?_) | refine o_offT rfl rfl rfl (by first | exact .inl rfl | exact .inr rfl) ?_ | (refine o_add rfl rfl rfl rfl ?_ ?_; omega) | (refine o_calm rfl TtOk rfl rfl rfl ?_ (fun _ => ?_); exact nd) | refine o_alloc (d := 8) rfl TtOk rfl rfl rfl (fun b8 => ?_) | refine o_store TtOk rfl rfl rfl rfl rfl rfl rfl ⟨rfl, rfl⟩ rfl rfl rfl rfl rfl ?_ | (refine o_index rfl TtOk rfl rfl rfl rfl rfl rfl ?_ (getq_nat ?_) ?_; omega; omega) | refine a_condF rfl ?_ | (refine a_condP rfl (fun hc => ?_) (fun hc => ?_)) <;> (try (exfalso; omega)) | refine o_callE rfl (hcn) ⟨nqS, nqS, True.intro⟩ rfl ?_)
      all_goals exact ⟨i + 1, [], ⟨hlt, hnx hNi⟩, by omega, rfl, ⟨sle_i hi1, sle_i rfl, sle_sl rfl, sle_ptr, sle_i rfl, True.intro⟩, HLe.cons 2 rfl (HOLe.refl _) .nil⟩
    | false =>
      rw [Bool.false_or] at hNi
      by_cases he : new[i].t = ep
      · have hx : nf new[i] = true := by rw [hNi, he]; exact beq_self_eq_true _
        repeat' (first | refine Awp.seq ?_ | refine Awp.block ?_ | refine Awp.region ?_ | refine Ops.nil (nqA ?_) | refine Ops.nil (nqX ?_) | refine Awp.skip (nqA ?_) | (refine o_add rfl rfl rfl rfl ?_ ?_; omega) | (refine o_calm rfl TtOk rfl rfl rfl ?_ (fun _ => ?_); exact nd) | refine o_alloc (d := 8) rfl TtOk rfl rfl rfl (fun b8 => ?_) | refine o_store TtOk rfl rfl rfl rfl rfl rfl rfl ⟨rfl, rfl⟩ rfl rfl rfl rfl rfl ?_ | (refine o_index rfl TtOk rfl rfl rfl rfl rfl rfl ?_ (getq_nat ?_) ?_; omega; omega) | (refine a_condP rfl (fun hc => ?_) (fun hc => ?_)) <;> (try (exfalso; omega)) | (refine a_condN rfl (fun hc => ?_) (fun hc => ?_)) <;> (try (exfalso; omega)) | refine o_callE rfl (hcn) ⟨nqS, nqS, True.intro⟩ rfl ?_)
        all_goals exact ⟨i + 1, [], ⟨hlt, hnx hx⟩, by omega, rfl, ⟨sle_i hi1, sle_i rfl, sle_sl rfl, sle_ptr, sle_i rfl, True.intro⟩, HLe.cons 2 rfl (HOLe.refl _) .nil⟩
      · have hx : nf new[i] = false := by rw [hNi]; exact beq_eq_false_iff_ne.2 he
        have hal : new.all nf = false := by
          rw [List.all_eq_false]
          exact ⟨new[i], List.getElem_mem hlt, by rw [hx]; decide⟩
        rw [hal] at hW
        subst hW
        repeat' (first | refine Awp.seq ?_ | refine Awp.block ?_ | refine Awp.region ?_ | refine Ops.nil (nqA ?_) | refine Awp.skip (nqA ?_) | refine Awp.ret (nqE ?_) | (refine o_calm rfl TtOk rfl rfl rfl ?_ (fun _ => ?_); exact nd) | refine o_alloc (d := 8) rfl TtOk rfl rfl rfl (fun b8 => ?_) | refine o_store TtOk rfl rfl rfl rfl rfl rfl rfl ⟨rfl, rfl⟩ rfl rfl rfl rfl rfl ?_ | (refine o_index rfl TtOk rfl rfl rfl rfl rfl rfl ?_ (getq_nat ?_) ?_; omega; omega) | (refine a_condP rfl (fun hc => ?_) (fun hc => ?_)) <;> (try (exfalso; omega)) | (refine a_condN rfl (fun hc => ?_) (fun hc => ?_)) <;> (try (exfalso; omega)) | refine o_callE rfl (hcn) ⟨nqS, nqS, True.intro⟩ rfl ?_)
        all_goals exact nq2
  · have hal : new.all nf = true := by
      rw [List.all_eq_true]
      intro g hgm
      obtain ⟨j, hj, rfl⟩ := List.getElem_of_mem hgm
      exact hin j hj (by omega)
    rw [hal] at hW
    subst hW
    repeat' (first | refine Awp.seq ?_ | refine Awp.region ?_ | refine Ops.nil (nqA ?_) | refine Awp.exit (nqA ?_) | refine Awp.ret (nqE ?_) | (refine o_calm rfl TtOk rfl rfl rfl ?_ (fun _ => ?_); exact nd) | (refine a_condP rfl (fun hc => ?_) (fun hc => ?_)) <;> (try (exfalso; omega)))
    all_goals exact nq2
end Go.Proofs.YtcmgpkibjdbonaaGreat
set_option maxHeartbeats 4000000
namespace Go.Proofs.YtcmgpkibjdbonaaGreat
open Go Go.RowKit
/-- A reader that is well, with this still to come. -/
structure RS.at_ (r : RS) (t : List UInt8) : Prop where
  e : r.e = 0
  rest : r.rest = t
/-- An item's bytes. -/
def itmBy (x : Itm) : List UInt8 := ((numBytes x.n.toNat ++ x.l) ++ x.s) ++ numBytes x.t.toNat
def lefBy (x : Lef) : List UInt8 := (x.l ++ x.v) ++ numBytes x.t.toNat
end Go.Proofs.YtcmgpkibjdbonaaGreat
set_option maxHeartbeats 4000000
namespace Go.Proofs.YtcmgpkibjdbonaaGreat
open Go Go.RowKit
section
variable {m : OM} {P : Program} {T : List (Nat × TI)} {C : Ctx} {ops : Array Oper} {l : List Oper} {K : St → Prop} {n : Nat} {sl : List (Nat × AV)} {hp : List (Nat × HO)} {d : Nat} {ty : Nat} {pos : String} {aft : Array Edge} {gd : Option (Nat × Bool)}
end
end Go.Proofs.YtcmgpkibjdbonaaGreat
set_option maxHeartbeats 16000000
set_option maxRecDepth 100000
namespace Go.Proofs.YtcmgpkibjdbonaaGreat
open Go Go.RowKit
/-- A proof's bytes: the path's, all of them; the error. -/
def bysL (s : WS) : List Itm → List UInt8 × Int
  | [] => s.done
  | x :: r => if goodI x = true then bysL (s.itm x) r else ([], 1)
def bysT (s : WS) (path : List Itm) : List UInt8 × Int := if 256 < path.length then ([], 2) else bysL (s.number path.length) path
def bysP (p : Prf) : List UInt8 × Int :=
  if p.e = 0 then bysT (w0.number 0) p.path
  else if p.e = 1 then (if (lfBy p.lf).2 ≠ 0 then ([], (lfBy p.lf).2) else bysT ((w0.number 1).text (lfBy p.lf).1) p.path)
  else if p.e = 2 then (if (inBy p.a p.b).2 ≠ 0 then ([], (inBy p.a p.b).2) else bysT ((w0.number 2).text (inBy p.a p.b).1) p.path)
  else ([], 1)
def byN (lf : Lef) (a b : Itm) : Nat → AV
  | 0 => .nili
  | 1 => .ifc 46 lf.A
  | _ => .ifc 52 (.agg [a.A, b.A])
end Go.Proofs.YtcmgpkibjdbonaaGreat
set_option maxHeartbeats 16000000
set_option maxRecDepth 100000
namespace Go.Proofs.YtcmgpkibjdbonaaGreat
open Go Go.RowKit
/-- The rest of a proof's bytes: the path. -/
def rdL (e : Int) (lf : Lef) (a b : Itm) : Nat → List Itm → RS → Prf × Int
  | 0, p, r => if r.done ≠ 0 then (prf0, r.done) else (⟨e, lf, a, b, p⟩, 0)
  | k + 1, p, r => if r.itm.2.done ≠ 0 ∧ r.itm.2.done ≠ 3 then (prf0, r.itm.2.done) else if goodI r.itm.1 = true then rdL e lf a b k (p ++ [r.itm.1]) r.itm.2 else (prf0, 1)
def rdT (e : Int) (lf : Lef) (a b : Itm) (r : RS) : Prf × Int := rdL e lf a b (r.below 257).1 [] (r.below 257).2
/-- What bytes are as a proof; the error. -/
def rdN (e : Nat) (n : Nod) (r : RS) : Prf × Int :=
  match n with
  | .lf x => if e = 1 then rdT 1 x itm0 itm0 r else (prf0, 3)
  | .inn a b => if e = 2 then rdT 2 lef0 a b r else (prf0, 3)
  | .no => (prf0, 3)
def prRd (s : List UInt8) : Prf × Int :=
  let q := (RS.open s).below 3
  if q.1 = 0 then rdT 0 lef0 itm0 itm0 q.2
  else if q.2.text.2.done ≠ 0 ∧ q.2.text.2.done ≠ 3 then (prf0, q.2.text.2.done)
  else if (nodRd q.2.text.1).2 ≠ 0 then (prf0, (nodRd q.2.text.1).2)
  else rdN q.1 (nodRd q.2.text.1).1 q.2.text.2
end Go.Proofs.YtcmgpkibjdbonaaGreat
set_option maxHeartbeats 4000000
namespace Go.Proofs.YtcmgpkibjdbonaaGreat
open Go Go.RowKit
def pathBy (path : List Itm) : List UInt8 := path.flatMap itmBy
/-- A proof whose parts that are not its end's are none. -/
def cleanP (p : Prf) : Prf := ⟨p.e, if p.e = 1 then p.lf else lef0, if p.e = 2 then p.a else itm0, if p.e = 2 then p.b else itm0, p.path⟩
end Go.Proofs.YtcmgpkibjdbonaaGreat
set_option maxHeartbeats 4000000
namespace Go.Proofs.YtcmgpkibjdbonaaGreat
open Go Go.RowKit
def nodBy : Nod → List UInt8
  | .no => []
  | .lf x => 0 :: lefBy x
  | .inn a b => 1 :: (itmBy a ++ itmBy b)
end Go.Proofs.YtcmgpkibjdbonaaGreat
set_option maxHeartbeats 4000000
namespace Go.Proofs.YtcmgpkibjdbonaaGreat
open Go Go.RowKit
/-- Items and leaves behind what was written; none: one isn't good. -/
def wIs : WS → List Itm → Option WS
  | s, [] => some s
  | s, x :: r => if goodI x = true then wIs (s.itm x) r else none
def wLs : WS → List Lef → Option WS
  | s, [] => some s
  | s, x :: r => if chkLf x = 0 then wLs (s.lef x) r else none
def fin19 : Option WS → List UInt8 × Int
  | none => ([], 1)
  | some s => s.done
def bysS (s : Stp) : List UInt8 × Int :=
  if 2000 < s.same.length ∨ 500 < s.old.length ∨ 500 < s.new.length then ([], 2)
  else fin19 ((wIs (w0.number s.same.length) s.same).bind (fun a => (wLs (a.number s.old.length) s.old).bind (fun b => wLs (b.number s.new.length) s.new)))
/-- So many items, leaves; the error; where the reader is then. -/
def rIs : Nat → List Itm → RS → List Itm × Int × RS
  | 0, p, r => (p, 0, r)
  | k + 1, p, r => if r.itm.2.done ≠ 0 ∧ r.itm.2.done ≠ 3 then ([], r.itm.2.done, r.itm.2) else if goodI r.itm.1 = true then rIs k (p ++ [r.itm.1]) r.itm.2 else ([], 1, r.itm.2)
def rLs : Nat → List Lef → RS → List Lef × Int × RS
  | 0, p, r => (p, 0, r)
  | k + 1, p, r => if r.lef.2.done ≠ 0 ∧ r.lef.2.done ≠ 3 then ([], r.lef.2.done, r.lef.2) else if chkLf r.lef.1 = 0 then rLs k (p ++ [r.lef.1]) r.lef.2 else ([], 1, r.lef.2)
def lvs (r : RS) : List Lef × Int × RS := rLs (r.below ((501 : Nat) : Int)).1 [] (r.below ((501 : Nat) : Int)).2

def stC (a : List Itm) (b : List Lef) (c : List Lef × Int × RS) : Stp × Int := if c.2.1 ≠ 0 then (stp0, c.2.1) else if c.2.2.done ≠ 0 then (stp0, c.2.2.done) else (⟨a, b, c.1⟩, 0)
def stB (a : List Itm) (b : List Lef × Int × RS) : Stp × Int := if b.2.1 ≠ 0 then (stp0, b.2.1) else stC a b.1 (lvs b.2.2)
def stA (a : List Itm × Int × RS) : Stp × Int := if a.2.1 ≠ 0 then (stp0, a.2.1) else stB a.1 (lvs a.2.2)
def stRd (s : List UInt8) : Stp × Int := stA (rIs ((RS.open s).below ((2001 : Nat) : Int)).1 [] ((RS.open s).below ((2001 : Nat) : Int)).2)
def lefsBy (l : List Lef) : List UInt8 := l.flatMap lefBy
def stpBy (s : Stp) : List UInt8 := numBytes s.same.length ++ (pathBy s.same ++ (numBytes s.old.length ++ (lefsBy s.old ++ (numBytes s.new.length ++ lefsBy s.new))))
structure StpGd (s : Stp) : Prop where
  l1 : s.same.length ≤ 2000
  l2 : s.old.length ≤ 500
  l3 : s.new.length ≤ 500
  same : ∀ x ∈ s.same, goodI x = true
  old : ∀ x ∈ s.old, chkLf x = 0
  new : ∀ x ∈ s.new, chkLf x = 0
end Go.Proofs.YtcmgpkibjdbonaaGreat
set_option maxHeartbeats 16000000
set_option maxRecDepth 100000
namespace Go.Proofs.YtcmgpkibjdbonaaGreat
open Go Go.RowKit
def wLL : WS → List (List Lef) → Option WS
  | s, [] => some s
  | s, l :: r => (wLs (s.number l.length) l).bind (fun b => wLL b r)
end Go.Proofs.YtcmgpkibjdbonaaGreat
set_option maxHeartbeats 16000000
set_option maxRecDepth 100000
namespace Go.Proofs.YtcmgpkibjdbonaaGreat
open Go Go.RowKit
end Go.Proofs.YtcmgpkibjdbonaaGreat
