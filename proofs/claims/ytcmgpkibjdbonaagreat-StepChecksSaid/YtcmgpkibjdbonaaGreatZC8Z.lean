/- law19.wide by rules. -/
import Derived.Test.YtcmgpkibjdbonaaGreatZC6Z
import Derived.Test.YtcmgpkibjdbonaaGreatR6Z
import Derived.Test.YtcmgpkibjdbonaaGreatV38Z
set_option maxHeartbeats 16000000
set_option maxRecDepth 100000
namespace Go.Proofs.YtcmgpkibjdbonaaGreat
open Go Go.RowKit
def wdP (x : Lef) : Bool := decide (x.t < 0 ∨ 1073741824 < x.t)
def wdN (l : List Lef) : Nat := (l.filter wdP).length
theorem wdN_le (l : List Lef) : wdN l ≤ l.length := List.length_filter_le ..
theorem wdN_succ (l : List Lef) {i : Nat} (h : i < l.length) : wdN (l.take (i + 1)) = wdN (l.take i) + (if wdP l[i] = true then 1 else 0) := by
  unfold wdN
  rw [List.take_succ_eq_append_getElem h, List.filter_append, List.length_append]
  congr 1
  by_cases hw : wdP l[i] = true
  · rw [if_pos hw, List.filter_cons_of_pos hw]; rfl
  · rw [if_neg hw, List.filter_cons_of_neg hw]; rfl
theorem wdN_zero {l : List Lef} (h : wdN l = 0) : ∀ x ∈ l, 0 ≤ x.t ∧ x.t ≤ 1073741824 := fun x hx => by
  have h0 : l.filter wdP = [] := List.length_eq_zero_iff.1 h
  have := List.filter_eq_nil_iff.1 h0 x hx
  have h2 : ¬ (x.t < 0 ∨ 1073741824 < x.t) := fun hh => this (decide_eq_true hh)
  omega
theorem wide19_spec (s : Stp) (h2 : s.old.length ≤ 1000) (h3 : s.new.length ≤ 1000) : Spec Tryz.prog 32 [s.A] [] (fun v os => v = .i .i64 (wdN (s.old ++ s.new) : Nat) ∧ os = []) := by
  obtain ⟨same, old, new⟩ := s
  dsimp only at h2 h3
  show Spec Tryz.prog 32 [.agg [.sl 66 (same.map Itm.A), .sl 65 (old.map Lef.A), .sl 65 (new.map Lef.A)]] [] (fun v os => v = .i .i64 (wdN (old ++ new) : Nat) ∧ os = [])
  have hL : (old ++ new).length ≤ 2000 := by rw [List.length_append]; omega
  have hM : old.map Lef.A ++ new.map Lef.A = (old ++ new).map Lef.A := (List.map_append ..).symm
  have hll : old.length + new.length = (old ++ new).length := (List.length_append ..).symm
  refine spec_of TtOk [] Tryz.func32 rfl Tryz.ntmps32 (by kernel_rfl) rfl rfl (fun C => ?_) rfl
  repeat' (first | refine Awp.seq ?_ | refine Awp.block ?_ | refine Awp.region ?_ | refine Ops.nil (nqA ?_) | (refine o_calm rfl TtOk rfl rfl rfl ?_ (fun _ => ?_); exact nd) | refine o_box (d := 1) rfl rfl rfl rfl (fun b1 => ?_) | refine o_buildSlice (d := 6) TtOk rfl rfl rfl rfl rfl rfl rfl rfl rfl rfl rfl nq1 (fun v6 => ?_) | (refine o_append TtOk rfl rfl rfl rfl rfl rfl rfl rfl rfl (by first | exact True.intro | exact rfl) rfl rfl (fun _ => rfl) ?_ ?_ (fun _ => ?_); ((repeat' (first | rw [List.length_append] | rw [List.length_map] | rw [List.length_cons] | rw [List.length_nil] | rw [List.length_take] | rw [List.length_drop])) <;> omega); ((repeat' (first | rw [List.length_append] | rw [List.length_map] | rw [List.length_cons] | rw [List.length_nil] | rw [List.length_take] | rw [List.length_drop])) <;> omega)) | refine a_any 2 [6] [8] [6] [1, 4, 8, 2, 5, 0, 3, 6, 7] (by kernel_rfl) (by kernel_rfl) (by kernel_rfl) rfl rfl rfl ?_)
  refine Awp.loop (fun i : Nat => ⟨30, [(14, .i .i64 i), (13, .i .i64 (old ++ new).length), (12, .sl 65 ((old ++ new).map Lef.A)), (3, .i .i64 (wdN ((old ++ new).take i) : Nat))], []⟩) (fun i => i ≤ (old ++ new).length) (fun i => (old ++ new).length - i) [6] 0 (Nat.zero_le _) ?_ ?_
  · exact ⟨rfl, ⟨sle_i rfl, sle_i (by rw [List.nil_append, hM, List.length_map]), SLe.of_cle (by rw [← hM]; exact CLe.fz (.head _)) rfl, sle_i rfl, True.intro⟩, .nil⟩
  clear hM hll h2 h3
  generalize old ++ new = l at *
  intro i hi
  by_cases hlt : i < l.length
  · have hi1 : ((i : Int) + 1 = ((i + 1 : Nat) : Int)) := by omega
    have hs := wdN_succ l hlt
    have hle : wdN (l.take i) ≤ 2000 := by
      have := wdN_le (l.take i)
      rw [List.length_take] at this
      omega
    generalize wdN (l.take i) = m at *
    by_cases hw : l[i].t < 0 ∨ 1073741824 < l[i].t
    · rw [if_pos (show wdP l[i] = true from decide_eq_true hw)] at hs
      have hm1 : ((m : Int) + 1 = ((wdN (l.take (i + 1)) : Nat) : Int)) := by omega
      repeat' (first | refine Awp.seq ?_ | refine Awp.block ?_ | refine Awp.region ?_ | refine Ops.nil (nqA ?_) | refine Ops.nil (nqX ?_) | refine Awp.skip (nqA ?_) | refine o_offF rfl rfl rfl (by first | exact .inl rfl | exact .inr rfl) ?_ | (refine o_add rfl rfl rfl rfl ?_ ?_; omega) | (refine o_calm rfl TtOk rfl rfl rfl ?_ (fun _ => ?_); exact nd) | refine o_alloc (d := 5) rfl TtOk rfl rfl rfl (fun b5 => ?_) | refine o_store TtOk rfl rfl rfl rfl rfl rfl rfl ⟨rfl, rfl⟩ rfl rfl rfl rfl rfl ?_ | (refine o_index rfl TtOk rfl rfl rfl rfl rfl rfl ?_ (getq_nat ?_) ?_; omega; omega) | (fail_if_success (refine o_isLit rfl (by first | exact .inl rfl | exact .inr rfl) ?_)); (refine o_splitP rfl rfl (fun hc => ?_) (fun hc => ?_) <;> try (exfalso; omega)) | refine a_condT rfl ?_ | (refine a_condP rfl (fun hc => ?_) (fun hc => ?_)) <;> (try (exfalso; omega)))
      all_goals exact ⟨i + 1, [], hlt, by omega, rfl, ⟨sle_i hi1, sle_i rfl, sle_sl rfl, sle_i hm1, True.intro⟩, .nil⟩
    · rw [if_neg (by unfold wdP; rw [decide_eq_false hw]; decide)] at hs
      have hm1 : ((m : Int) = ((wdN (l.take (i + 1)) : Nat) : Int)) := by omega
      repeat' (first | refine Awp.seq ?_ | refine Awp.block ?_ | refine Awp.region ?_ | refine Ops.nil (nqA ?_) | refine Ops.nil (nqX ?_) | refine Awp.skip (nqA ?_) | (refine o_add rfl rfl rfl rfl ?_ ?_; omega) | (refine o_calm rfl TtOk rfl rfl rfl ?_ (fun _ => ?_); exact nd) | refine o_alloc (d := 5) rfl TtOk rfl rfl rfl (fun b5 => ?_) | refine o_store TtOk rfl rfl rfl rfl rfl rfl rfl ⟨rfl, rfl⟩ rfl rfl rfl rfl rfl ?_ | (refine o_index rfl TtOk rfl rfl rfl rfl rfl rfl ?_ (getq_nat ?_) ?_; omega; omega) | (fail_if_success (refine o_isLit rfl (by first | exact .inl rfl | exact .inr rfl) ?_)); (refine o_splitP rfl rfl (fun hc => ?_) (fun hc => ?_) <;> try (exfalso; omega)) | (refine a_condP rfl (fun hc => ?_) (fun hc => ?_)) <;> (try (exfalso; omega)))
      all_goals exact ⟨i + 1, [], hlt, by omega, rfl, ⟨sle_i hi1, sle_i rfl, sle_sl rfl, sle_i hm1, True.intro⟩, .nil⟩
  · have hie : i = l.length := by omega
    subst hie
    rw [List.take_length]
    repeat' (first | refine Awp.seq ?_ | refine Awp.region ?_ | refine Ops.nil (nqA ?_) | refine Awp.exit (nqA ?_) | refine Awp.ret (nqE ?_) | (refine o_calm rfl TtOk rfl rfl rfl ?_ (fun _ => ?_); exact nd) | (refine a_condP rfl (fun hc => ?_) (fun hc => ?_)) <;> (try (exfalso; omega)))
    all_goals exact nq2
end Go.Proofs.YtcmgpkibjdbonaaGreat
set_option maxHeartbeats 16000000
set_option maxRecDepth 100000
namespace Go.Proofs.YtcmgpkibjdbonaaGreat
open Go Go.RowKit
theorem idxL_spec (l : List Lef) (g : Lef) (hl : l.length ≤ 100000) : Spec Tryz.prog 184 [.sl 65 (l.map Lef.A), g.A] [] (fun v os => v = .i .i64 (if l.any (fun y => eqLf g y) = true then (l.findIdx (fun y => eqLf g y) : Nat) else -1) ∧ os = []) := by
  refine spec_of TtOk [] Tryz.func184 rfl Tryz.ntmps184 (by kernel_rfl) rfl rfl (fun C => ?_) rfl
  repeat' (first | refine Awp.seq ?_ | refine Awp.block ?_ | refine Awp.region ?_ | refine Ops.nil (nqA ?_) | refine o_len rfl TtOk rfl rfl rfl (fun _ => ?_) | (refine o_calm rfl TtOk rfl rfl rfl ?_ (fun _ => ?_); exact nd) | refine o_box (d := 3) rfl rfl rfl rfl (fun b3 => ?_))
  refine Awp.loop (fun q : Nat => ⟨19, [(8, .i .i64 q), (7, .i .i64 l.length), (6, .sl 65 (l.map Lef.A)), (0, .sl 65 (l.map Lef.A)), (3, .ptr 3 b3 [] 0)], [(3, .var b3 g.A)]⟩) (fun q => q ≤ l.length ∧ ∀ j (h : j < l.length), j < q → eqLf g l[j] = false) (fun q => l.length - q) [] 0 ⟨Nat.zero_le _, fun _ _ h => absurd h (Nat.not_lt_zero _)⟩ ?_ ?_
  · exact ⟨rfl, ⟨sle_i rfl, sle_i rfl, sle_sl rfl, sle_sl rfl, sle_ptr, True.intro⟩, HLe.cons 3 rfl (HOLe.refl _) .nil⟩
  rintro i ⟨hi, hno⟩
  by_cases hlt : i < l.length
  · have hi1 : ((i : Int) + 1 = ((i + 1 : Nat) : Int)) := by omega
    obtain ⟨q, hq⟩ : ∃ q, eqLf g l[i] = q := ⟨_, rfl⟩
    cases q with
    | true =>
      repeat' (first | refine Awp.seq ?_ | refine Awp.block ?_ | refine Awp.region ?_ | refine Ops.nil (nqA ?_) | refine Awp.skip (nqA ?_) | refine Awp.ret (nqE ?_) | (refine o_calm rfl TtOk rfl rfl rfl ?_ (fun _ => ?_); exact nd) | (refine o_index rfl TtOk rfl rfl rfl rfl rfl rfl ?_ (getq_nat ?_) ?_; omega; omega) | refine a_condT rfl ?_ | (refine a_condP rfl (fun hc => ?_) (fun hc => ?_)) <;> (try (exfalso; omega)) | refine a_any 4 [] [] [] [1, 2, 3, 0, 4, 5] (by kernel_rfl) (by kernel_rfl) (by kernel_rfl) rfl rfl rfl ?_ | (refine o_eqLefN (p := g) (q := l[i]) rfl rfl rfl rfl ?_; rw [hq]))
      have hm : l.any (fun y => eqLf g y) = true := List.any_eq_true.2 ⟨l[i], List.getElem_mem _, hq⟩
      have hx : l.findIdx (fun y => eqLf g y) = i := by
        rw [List.findIdx_eq hlt]
        exact ⟨hq, fun j hj => hno j (by omega) hj⟩
      refine end_tmp rfl rfl rfl [] [] (CLe.of_eq ?_) .nil ⟨rfl, rfl⟩ _ (.inl rfl)
      rw [if_pos hm, hx]; rfl
    | false =>
      repeat' (first | refine Awp.seq ?_ | refine Awp.block ?_ | refine Awp.region ?_ | refine Ops.nil (nqA ?_) | refine Ops.nil (nqX ?_) | refine Awp.skip (nqA ?_) | (refine o_add rfl rfl rfl rfl ?_ ?_; omega) | (refine o_calm rfl TtOk rfl rfl rfl ?_ (fun _ => ?_); exact nd) | (refine o_index rfl TtOk rfl rfl rfl rfl rfl rfl ?_ (getq_nat ?_) ?_; omega; omega) | refine a_condF rfl ?_ | (refine a_condP rfl (fun hc => ?_) (fun hc => ?_)) <;> (try (exfalso; omega)) | refine a_any 4 [] [] [] [1, 2, 3, 0, 4, 5] (by kernel_rfl) (by kernel_rfl) (by kernel_rfl) rfl rfl rfl ?_ | (refine o_eqLefN (p := g) (q := l[i]) rfl rfl rfl rfl ?_; rw [hq]))
      exact ⟨i + 1, [], ⟨hlt, fun j h hj => by
        rcases Nat.lt_succ_iff_lt_or_eq.1 hj with h2 | rfl
        · exact hno j h h2
        · exact hq⟩, by show l.length - (i + 1) < l.length - i; omega, rfl, ⟨sle_i hi1, sle_i rfl, sle_sl rfl, sle_sl rfl, sle_ptr, True.intro⟩, HLe.cons 3 rfl (HOLe.refl _) .nil⟩
  · have hm : ¬ l.any (fun y => eqLf g y) = true := by
      intro h
      obtain ⟨x, hx, hxp⟩ := List.any_eq_true.1 h
      obtain ⟨j, hj, rfl⟩ := List.getElem_of_mem hx
      rw [hno j hj (by omega)] at hxp; cases hxp
    rw [if_neg hm]
    repeat' (first | refine Awp.seq ?_ | refine Awp.region ?_ | refine Ops.nil (nqA ?_) | refine Awp.exit (nqA ?_) | refine Awp.ret (nqE ?_) | (refine o_calm rfl TtOk rfl rfl rfl ?_ (fun _ => ?_); exact nd) | (refine a_condP rfl (fun hc => ?_) (fun hc => ?_)) <;> (try (exfalso; omega)))
    exact nq2
theorem conL_spec (l : List Lef) (g : Lef) (hl : l.length ≤ 100000) : Spec Tryz.prog 99 [.sl 65 (l.map Lef.A), g.A] [] (fun v os => v = .b (l.any (fun y => eqLf g y)) ∧ os = []) := by
  refine spec_of TtOk [] Tryz.func99 rfl Tryz.ntmps99 (by kernel_rfl) rfl rfl (fun C => ?_) rfl
  have h1 := idxL_spec l g hl
  cases hm : l.any (fun y => eqLf g y) with
  | true =>
    rw [if_pos hm] at h1
    generalize l.findIdx (fun y => eqLf g y) = i at h1
    repeat' (first | refine Awp.seq ?_ | refine Awp.region ?_ | refine Ops.nil (nqA ?_) | refine Awp.ret (nqE ?_) | (refine o_calm rfl TtOk rfl rfl rfl ?_ (fun _ => ?_); exact nd) | refine o_box (d := 3) rfl rfl rfl rfl (fun b3 => ?_) | refine o_callE rfl (h1) ⟨nqS, nqS, True.intro⟩ rfl ?_)
    refine end_tmp rfl rfl rfl [] [] (CLe.of_eq ?_) .nil ⟨rfl, rfl⟩ _ (.inl rfl)
    exact congrArg AV.b (decide_eq_true (by omega))
  | false =>
    rw [if_neg (by rw [hm]; decide)] at h1
    repeat' (first | refine Awp.seq ?_ | refine Awp.region ?_ | refine Ops.nil (nqA ?_) | refine Awp.ret (nqE ?_) | (refine o_calm rfl TtOk rfl rfl rfl ?_ (fun _ => ?_); exact nd) | refine o_box (d := 3) rfl rfl rfl rfl (fun b3 => ?_) | refine o_callE rfl (h1) ⟨nqS, nqS, True.intro⟩ rfl ?_)
    exact nq2
def insN (s : Stp) (ep : Int) (x : Lef) : Bool := s.old.any (fun y => eqLf x y) || x.t == ep
def insF (s : Stp) (ep : Int) : Bool := s.old.all (fun x => s.new.any (fun y => eqLf x y)) && s.new.all (insN s ep)
theorem sins_spec (s : Stp) (ep : Int) (ho : s.old.length ≤ 100000) (hn : s.new.length ≤ 100000) : Spec Tryz.prog 30 [s.A, .i .i64 ep] [] (fun v os => v = .b (insF s ep) ∧ os = []) := by
  obtain ⟨same, old, new⟩ := s
  dsimp only at ho hn
  obtain ⟨W, hW⟩ : ∃ W, insF ⟨same, old, new⟩ ep = W := ⟨_, rfl⟩
  rw [hW]
  have hW : (old.all (fun x => new.any (fun y => eqLf x y)) && new.all (insN ⟨same, old, new⟩ ep)) = W := hW
  have hN : ∀ x, insN ⟨same, old, new⟩ ep x = (old.any (fun y => eqLf x y) || x.t == ep) := fun _ => rfl
  generalize insN ⟨same, old, new⟩ ep = nf at *
  show Spec Tryz.prog 30 [.agg [.sl 66 (same.map Itm.A), .sl 65 (old.map Lef.A), .sl 65 (new.map Lef.A)], .i .i64 ep] [] _
  refine spec_of TtOk [] Tryz.func30 rfl Tryz.ntmps30 (by kernel_rfl) rfl rfl (fun C => ?_) rfl
  repeat' (first | refine Awp.seq ?_ | refine Awp.block ?_ | refine Awp.region ?_ | refine Ops.nil (nqA ?_) | refine o_len rfl TtOk rfl rfl rfl (fun _ => ?_) | (refine o_calm rfl TtOk rfl rfl rfl ?_ (fun _ => ?_); exact nd) | refine o_box (d := 2) rfl rfl rfl rfl (fun b2 => ?_))
  refine Awp.loop (fun i : Nat => ⟨41, [(12, .i .i64 i), (11, .i .i64 old.length), (10, .sl 65 (old.map Lef.A)), (2, .ptr 2 b2 [] 0), (1, .i .i64 ep)], [(2, .var b2 (.agg [.sl 66 (same.map Itm.A), .sl 65 (old.map Lef.A), .sl 65 (new.map Lef.A)]))]⟩) (fun i => i ≤ old.length ∧ ∀ j (h : j < old.length), j < i → new.any (fun y => eqLf old[j] y) = true) (fun i => old.length - i) [] 0 ⟨Nat.zero_le _, fun _ _ h => absurd h (Nat.not_lt_zero _)⟩ ?_ ?_
  · exact ⟨rfl, ⟨sle_i rfl, sle_i rfl, sle_sl rfl, sle_ptr, sle_i rfl, True.intro⟩, HLe.cons 2 rfl (HOLe.refl _) .nil⟩
  rintro i ⟨hi, hin⟩
  by_cases hlt : i < old.length
  · have hi1 : ((i : Int) + 1 = ((i + 1 : Nat) : Int)) := by omega
    have hcn := conL_spec new old[i] hn
    cases ha : new.any (fun y => eqLf old[i] y) with
    | true =>
      rw [ha] at hcn
      repeat' (first | refine Awp.seq ?_ | refine Awp.block ?_ | refine Awp.region ?_ | refine Ops.nil (nqA ?_) | refine Ops.nil (nqX ?_) | refine Awp.skip (nqA ?_) | (refine o_add rfl rfl rfl rfl ?_ ?_; omega) | (refine o_calm rfl TtOk rfl rfl rfl ?_ (fun _ => ?_); exact nd) | refine o_alloc (d := 6) rfl TtOk rfl rfl rfl (fun b6 => ?_) | refine o_store TtOk rfl rfl rfl rfl rfl rfl rfl ⟨rfl, rfl⟩ rfl rfl rfl rfl rfl ?_ | (refine o_index rfl TtOk rfl rfl rfl rfl rfl rfl ?_ (getq_nat ?_) ?_; omega; omega) | refine a_condF rfl ?_ | (refine a_condP rfl (fun hc => ?_) (fun hc => ?_)) <;> (try (exfalso; omega)) | refine o_callE rfl (hcn) ⟨nqS, nqS, True.intro⟩ rfl ?_)
      all_goals
        exact ⟨i + 1, [], ⟨hlt, fun j h hj => by
          rcases Nat.lt_succ_iff_lt_or_eq.1 hj with h2 | rfl
          · exact hin j h h2
          · exact ha⟩, by omega, rfl, ⟨sle_i hi1, sle_i rfl, sle_sl rfl, sle_ptr, sle_i rfl, True.intro⟩, HLe.cons 2 rfl (HOLe.refl _) .nil⟩
    | false =>
      rw [ha] at hcn
      have hal : old.all (fun x => new.any (fun y => eqLf x y)) = false := by
        rw [List.all_eq_false]
        exact ⟨old[i], List.getElem_mem hlt, by rw [ha]; decide⟩
      rw [hal, Bool.false_and] at hW
      subst hW
      repeat' (first | refine Awp.seq ?_ | refine Awp.block ?_ | refine Awp.region ?_ | refine Ops.nil (nqA ?_) | refine Awp.skip (nqA ?_) | refine Awp.ret (nqE ?_) | (refine o_calm rfl TtOk rfl rfl rfl ?_ (fun _ => ?_); exact nd) | refine o_alloc (d := 6) rfl TtOk rfl rfl rfl (fun b6 => ?_) | refine o_store TtOk rfl rfl rfl rfl rfl rfl rfl ⟨rfl, rfl⟩ rfl rfl rfl rfl rfl ?_ | (refine o_index rfl TtOk rfl rfl rfl rfl rfl rfl ?_ (getq_nat ?_) ?_; omega; omega) | refine a_condT rfl ?_ | (refine a_condP rfl (fun hc => ?_) (fun hc => ?_)) <;> (try (exfalso; omega)) | refine o_callE rfl (hcn) ⟨nqS, nqS, True.intro⟩ rfl ?_)
      all_goals exact nq2
  have hie : i = old.length := by omega
  have hal : old.all (fun x => new.any (fun y => eqLf x y)) = true := by
    rw [List.all_eq_true]
    intro g hgm
    obtain ⟨j, hj, rfl⟩ := List.getElem_of_mem hgm
    exact hin j hj (by omega)
  rw [hal, Bool.true_and] at hW
  clear hin hal
  subst hie
  repeat' (first | refine Awp.seq ?_ | refine Awp.block ?_ | refine Awp.region ?_ | refine Ops.nil (nqA ?_) | refine Awp.exit (nqA ?_) | refine o_len rfl TtOk rfl rfl rfl (fun _ => ?_) | (refine o_calm rfl TtOk rfl rfl rfl ?_ (fun _ => ?_); exact nd) | (refine a_condP rfl (fun hc => ?_) (fun hc => ?_)) <;> (try (exfalso; omega)))
  refine Awp.loop (fun i : Nat => ⟨41, [(25, .i .i64 i), (24, .i .i64 new.length), (23, .sl 65 (new.map Lef.A)), (2, .ptr 2 b2 [] 0), (1, .i .i64 ep)], [(2, .var b2 (.agg [.sl 66 (same.map Itm.A), .sl 65 (old.map Lef.A), .sl 65 (new.map Lef.A)]))]⟩) (fun i => i ≤ new.length ∧ ∀ j (h : j < new.length), j < i → nf new[j] = true) (fun i => new.length - i) [] 0 ⟨Nat.zero_le _, fun _ _ h => absurd h (Nat.not_lt_zero _)⟩ ?_ ?_
  · exact ⟨rfl, ⟨sle_i rfl, sle_i rfl, sle_sl rfl, sle_ptr, sle_i rfl, True.intro⟩, HLe.cons 2 rfl (HOLe.refl _) .nil⟩
  rintro i ⟨hi, hin⟩
  by_cases hlt : i < new.length
  · have hi1 : ((i : Int) + 1 = ((i + 1 : Nat) : Int)) := by omega
    have hcn := conL_spec old new[i] ho
    have hNi := hN new[i]
    have hnx : nf new[i] = true → ∀ j (h : j < new.length), j < i + 1 → nf new[j] = true := fun hx j h hj => by
      rcases Nat.lt_succ_iff_lt_or_eq.1 hj with h2 | rfl
      · exact hin j h h2
      · exact hx
    generalize old.any (fun y => eqLf new[i] y) = a at hcn hNi
    cases a with
    | true =>
      rw [Bool.true_or] at hNi
      repeat' (first | refine Awp.seq ?_ | refine Awp.block ?_ | refine Awp.region ?_ | refine Ops.nil (nqA ?_) | refine Ops.nil (nqX ?_) | refine Awp.skip (nqA ?_) | refine o_offT rfl rfl rfl (by first | exact .inl rfl | exact .inr rfl) ?_ | (refine o_add rfl rfl rfl rfl ?_ ?_; omega) | (refine o_calm rfl TtOk rfl rfl rfl ?_ (fun _ => ?_); exact nd) | refine o_alloc (d := 8) rfl TtOk rfl rfl rfl (fun b8 => ?_) | refine o_store TtOk rfl rfl rfl rfl rfl rfl rfl ⟨rfl, rfl⟩ rfl rfl rfl rfl rfl ?_ | (refine o_index rfl TtOk rfl rfl rfl rfl rfl rfl ?_ (getq_nat ?_) ?_; omega; omega) | refine a_condF rfl ?_ | (refine a_condP rfl (fun hc => ?_) (fun hc => ?_)) <;> (try (exfalso; omega)) | refine o_callE rfl (hcn) ⟨nqS, nqS, True.intro⟩ rfl ?_)
      all_goals exact ⟨i + 1, [], ⟨hlt, hnx hNi⟩, by omega, rfl, ⟨sle_i hi1, sle_i rfl, sle_sl rfl, sle_ptr, sle_i rfl, True.intro⟩, HLe.cons 2 rfl (HOLe.refl _) .nil⟩
    | false =>
      rw [Bool.false_or] at hNi
      by_cases he : new[i].t = ep
      · have hx : nf new[i] = true := by rw [hNi, he]; exact beq_self_eq_true _
        repeat' (first | refine Awp.seq ?_ | refine Awp.block ?_ | refine Awp.region ?_ | refine Ops.nil (nqA ?_) | refine Ops.nil (nqX ?_) | refine Awp.skip (nqA ?_) | (refine o_add rfl rfl rfl rfl ?_ ?_; omega) | (refine o_calm rfl TtOk rfl rfl rfl ?_ (fun _ => ?_); exact nd) | refine o_alloc (d := 8) rfl TtOk rfl rfl rfl (fun b8 => ?_) | refine o_store TtOk rfl rfl rfl rfl rfl rfl rfl ⟨rfl, rfl⟩ rfl rfl rfl rfl rfl ?_ | (refine o_index rfl TtOk rfl rfl rfl rfl rfl rfl ?_ (getq_nat ?_) ?_; omega; omega) | (refine a_condP rfl (fun hc => ?_) (fun hc => ?_)) <;> (try (exfalso; omega)) | (refine a_condN rfl (fun hc => ?_) (fun hc => ?_)) <;> (try (exfalso; omega)) | refine o_callE rfl (hcn) ⟨nqS, nqS, True.intro⟩ rfl ?_)
        all_goals exact ⟨i + 1, [], ⟨hlt, hnx hx⟩, by omega, rfl, ⟨sle_i hi1, sle_i rfl, sle_sl rfl, sle_ptr, sle_i rfl, True.intro⟩, HLe.cons 2 rfl (HOLe.refl _) .nil⟩
      · have hx : nf new[i] = false := by rw [hNi]; exact beq_eq_false_iff_ne.2 he
        have hal : new.all nf = false := by
          rw [List.all_eq_false]
          exact ⟨new[i], List.getElem_mem hlt, by rw [hx]; decide⟩
        rw [hal] at hW
        subst hW
        repeat' (first | refine Awp.seq ?_ | refine Awp.block ?_ | refine Awp.region ?_ | refine Ops.nil (nqA ?_) | refine Awp.skip (nqA ?_) | refine Awp.ret (nqE ?_) | (refine o_calm rfl TtOk rfl rfl rfl ?_ (fun _ => ?_); exact nd) | refine o_alloc (d := 8) rfl TtOk rfl rfl rfl (fun b8 => ?_) | refine o_store TtOk rfl rfl rfl rfl rfl rfl rfl ⟨rfl, rfl⟩ rfl rfl rfl rfl rfl ?_ | (refine o_index rfl TtOk rfl rfl rfl rfl rfl rfl ?_ (getq_nat ?_) ?_; omega; omega) | (refine a_condP rfl (fun hc => ?_) (fun hc => ?_)) <;> (try (exfalso; omega)) | (refine a_condN rfl (fun hc => ?_) (fun hc => ?_)) <;> (try (exfalso; omega)) | refine o_callE rfl (hcn) ⟨nqS, nqS, True.intro⟩ rfl ?_)
        all_goals exact nq2
  · have hal : new.all nf = true := by
      rw [List.all_eq_true]
      intro g hgm
      obtain ⟨j, hj, rfl⟩ := List.getElem_of_mem hgm
      exact hin j hj (by omega)
    rw [hal] at hW
    subst hW
    repeat' (first | refine Awp.seq ?_ | refine Awp.region ?_ | refine Ops.nil (nqA ?_) | refine Awp.exit (nqA ?_) | refine Awp.ret (nqE ?_) | (refine o_calm rfl TtOk rfl rfl rfl ?_ (fun _ => ?_); exact nd) | (refine a_condP rfl (fun hc => ?_) (fun hc => ?_)) <;> (try (exfalso; omega)))
    all_goals exact nq2
end Go.Proofs.YtcmgpkibjdbonaaGreat
