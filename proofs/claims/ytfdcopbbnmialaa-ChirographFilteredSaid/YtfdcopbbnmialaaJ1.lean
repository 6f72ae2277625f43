/- strings.CutPrefix of "log-", journal.Name and journal.number by rules. -/
import Derived.Test.YtfdcopbbnmialaaJ2Z
import Derived.Test.YtfdcopbbnmialaaCUZ
set_option maxHeartbeats 16000000
set_option maxRecDepth 100000
namespace Go.Proofs.Ytfdcopbbnmialaa
open Go Go.RowKit
theorem hasp_spec (s p : List UInt8) (hs : s.length ≤ 1000000000000) (hp : p.length ≤ 1000000000000) : Spec Try.prog 53 [.s s, .s p] [] (fun v os => v = .b (decide (s.take p.length = p)) ∧ os = []) := by
  refine spec_of TtOk [] Try.func53 rfl Try.ntmps53 (by kernel_rfl) rfl rfl (fun C => ?_) rfl
  repeat' (first | refine Awp.seq ?_ | refine Awp.region ?_ | (refine Ops.nil ?_; show Awp _ _ _ _ _) | (refine Awp.ret ?_; show endK _ _ _ _ _) | refine o_noT rfl rfl rfl ?_ | (refine o_calm rfl TtOk rfl rfl rfl ?_ (fun _ => ?_); first | exact True.intro | exact ⟨rfl, rfl, rfl, rfl⟩ | exact ⟨rfl, True.intro⟩ | exact ⟨rfl, rfl⟩ | exact ⟨rfl, rfl, rfl⟩ | exact rfl | exact ⟨fun h0 => by cases h0, rfl⟩ | exact (fun h0 => by cases h0) | exact ⟨rfl, by omega⟩ | exact ⟨Nat.succ_ne_zero _, rfl⟩ | omega) | (fail_if_success (refine o_isLit rfl (by first | exact .inl rfl | exact .inr rfl) ?_)); (refine o_splitP rfl rfl (fun hc => ?_) (fun hc => ?_) <;> try (exfalso; omega)) | (refine o_sliceStr TtOk rfl 0 p.length rfl rfl rfl bnd_none (bnd_some rfl rfl) (by omega) (by omega) ?_))
  · refine end_tmp rfl rfl rfl [] [] (CLe.of_eq ?_) .nil ⟨rfl, rfl⟩ _ (.inl rfl)
    refine congrArg AV.b ?_
    rw [List.drop_zero, Bool.eq_iff_iff, beq_iff_eq, decide_eq_true_eq]
  · refine end_tmp rfl rfl rfl [] [] (CLe.of_eq ?_) .nil ⟨rfl, rfl⟩ _ (.inl rfl)
    refine congrArg AV.b (Eq.symm ?_)
    refine decide_eq_false (fun h => ?_)
    have := congrArg List.length h
    rw [List.length_take] at this
    omega
def cutP (s p : List UInt8) : List UInt8 × Bool := if s.take p.length = p then (s.drop p.length, true) else (s, false)
theorem cutpre_spec (s p : List UInt8) (hs : s.length ≤ 1000000000000) (hp : p.length ≤ 1000000000000) : Spec Try.prog 41 [.s s, .s p] [] (fun v os => v = .tup [.s (cutP s p).1, .b (cutP s p).2] ∧ os = []) := by
  have hh := hasp_spec s p hs hp
  refine spec_of TtOk [] Try.func41 rfl Try.ntmps41 (by kernel_rfl) rfl rfl (fun C => ?_) rfl
  by_cases hc : s.take p.length = p
  · have hr : cutP s p = (s.drop p.length, true) := if_pos hc
    rw [hr]
    rw [decide_eq_true hc] at hh
    have hl : p.length ≤ s.length := by have := congrArg List.length hc; rw [List.length_take] at this; omega
    have htk : ((s.take s.length).drop p.length) = s.drop p.length := by rw [List.take_length]
    repeat' (first | refine Awp.seq ?_ | refine Awp.region ?_ | (refine Ops.nil ?_; show Awp _ _ _ _ _) | (refine Awp.skip ?_; show Awp _ _ _ _ _) | (refine Awp.ret ?_; show endK _ _ _ _ _) | (refine o_calm rfl TtOk rfl rfl rfl ?_ (fun _ => ?_); first | exact True.intro | exact ⟨rfl, rfl, rfl, rfl⟩ | exact ⟨rfl, True.intro⟩ | exact ⟨rfl, rfl⟩ | exact ⟨rfl, rfl, rfl⟩ | exact rfl | exact ⟨fun h0 => by cases h0, rfl⟩ | exact (fun h0 => by cases h0) | exact ⟨rfl, by omega⟩ | exact ⟨Nat.succ_ne_zero _, rfl⟩ | omega) | refine a_condF rfl ?_ | (refine o_sliceStr TtOk rfl p.length s.length rfl rfl rfl (bnd_some rfl rfl) bnd_none (by omega) (by omega) ?_) | (refine o_call0 rfl (hh) ⟨SLe.of_eq rfl, SLe.of_eq rfl, True.intro⟩ rfl ?_; rintro _ _ ⟨rfl, rfl⟩; refine ⟨rfl, ?_⟩))
    all_goals
      refine end_all [] [] (.tup [.s (s.drop p.length), .b true]) rfl ?_ ?_ (rle_tup2 (CLe.of_eq (congrArg AV.s htk)) (CLe.of_eq rfl) rfl rfl) .nil ⟨rfl, rfl⟩ _ (.inl rfl)
      · repeat' (first | exact True.intro | exact rfl | refine ⟨?_, ?_⟩)
      · exact ⟨trivial, trivial, trivial⟩
  · have hr : cutP s p = (s, false) := if_neg hc
    rw [hr]
    rw [decide_eq_false hc] at hh
    repeat' (first | refine Awp.seq ?_ | refine Awp.region ?_ | (refine Ops.nil ?_; show Awp _ _ _ _ _) | (refine Awp.ret ?_; show endK _ _ _ _ _) | (refine o_calm rfl TtOk rfl rfl rfl ?_ (fun _ => ?_); first | exact True.intro | exact ⟨rfl, rfl, rfl, rfl⟩ | exact ⟨rfl, True.intro⟩ | exact ⟨rfl, rfl⟩ | exact ⟨rfl, rfl, rfl⟩ | exact rfl | exact ⟨fun h0 => by cases h0, rfl⟩ | exact (fun h0 => by cases h0) | exact ⟨rfl, by omega⟩ | exact ⟨Nat.succ_ne_zero _, rfl⟩ | omega) | refine a_condT rfl ?_ | (refine o_call0 rfl (hh) ⟨SLe.of_eq rfl, SLe.of_eq rfl, True.intro⟩ rfl ?_; rintro _ _ ⟨rfl, rfl⟩; refine ⟨rfl, ?_⟩))
    all_goals
      refine end_all [] [] (.tup [.s s, .b false]) rfl ?_ ?_ (rle_tup2 (CLe.of_eq rfl) (CLe.of_eq rfl) rfl rfl) .nil ⟨rfl, rfl⟩ _ (.inl rfl)
      · repeat' (first | exact True.intro | exact rfl | refine ⟨?_, ?_⟩)
      · exact ⟨trivial, trivial, trivial⟩
theorem scut_spec (s p : List UInt8) (hs : s.length ≤ 1000000000000) (hp : p.length ≤ 1000000000000) : Spec Try.prog 36 [.s s, .s p] [] (fun v os => v = .tup [.s (cutP s p).1, .b (cutP s p).2] ∧ os = []) := by
  have hh := cutpre_spec s p hs hp
  refine spec_of TtOk [] Try.func36 rfl Try.ntmps36 (by kernel_rfl) rfl rfl (fun C => ?_) rfl
  generalize cutP s p = q at *
  repeat' (first | refine Awp.seq ?_ | refine Awp.region ?_ | (refine Ops.nil ?_; show Awp _ _ _ _ _) | (refine Awp.ret ?_; show endK _ _ _ _ _) | (refine o_calm rfl TtOk rfl rfl rfl ?_ (fun _ => ?_); first | exact True.intro | exact ⟨rfl, rfl, rfl, rfl⟩ | exact ⟨rfl, True.intro⟩ | exact ⟨rfl, rfl⟩ | exact ⟨rfl, rfl, rfl⟩ | exact rfl | exact ⟨fun h0 => by cases h0, rfl⟩ | exact (fun h0 => by cases h0) | exact ⟨rfl, by omega⟩ | exact ⟨Nat.succ_ne_zero _, rfl⟩ | omega) | (refine o_call0 rfl (hh) ⟨SLe.of_eq rfl, SLe.of_eq rfl, True.intro⟩ rfl ?_; rintro _ _ ⟨rfl, rfl⟩; refine ⟨rfl, ?_⟩))
  all_goals
    refine end_all [] [] (.tup [.s q.1, .b q.2]) rfl ?_ ?_ (rle_tup2 (CLe.of_eq rfl) (CLe.of_eq rfl) rfl rfl) .nil ⟨rfl, rfl⟩ _ (.inl rfl)
    · repeat' (first | exact True.intro | exact rfl | refine ⟨?_, ?_⟩)
    · exact ⟨trivial, trivial, trivial⟩
def nmRow (j n : Nat) : List UInt8 := logP ++ (List.replicate (10 - j) 48 ++ digT j n)
theorem nmRow_eq {j n : Nat} (hj : j ≤ 10) (h : n < 10 ^ j) : nmRow j n = nameN n := by
  unfold nmRow nameN
  rw [digT_zero 10 j n h hj]
theorem nmRow_len {j n : Nat} (hj : j ≤ 10) : (nmRow j n).length = 14 := by
  unfold nmRow
  rw [List.length_append, List.length_append, List.length_replicate, digT_len, show logP.length = 4 from rfl]; omega
theorem nmRow_set {j n : Nat} (hj : j < 10) : (nmRow j n).set (13 - j) (UInt8.ofNat (48 + n / 10 ^ j % 10)) = nmRow (j + 1) n := by
  have e : nmRow j n = (logP ++ List.replicate (9 - j) 48) ++ 48 :: digT j n := by
    unfold nmRow
    rw [show 10 - j = (9 - j) + 1 by omega, List.replicate_succ', List.append_assoc, List.append_assoc]; rfl
  have hl : (logP ++ List.replicate (9 - j) (48 : UInt8)).length = 13 - j := by
    rw [List.length_append, List.length_replicate, show logP.length = 4 from rfl]; omega
  have hle : (logP ++ List.replicate (9 - j) (48 : UInt8)).length ≤ 13 - j := by omega
  rw [e, List.set_append_right _ _ hle, hl, Nat.sub_self, List.set_cons_zero]
  unfold nmRow
  rw [show 10 - (j + 1) = 9 - j by omega, List.append_assoc]; rfl
theorem name_spec (n : Nat) (hn : n < 10000000000) : Spec Try.prog 15 [.i .i64 n] [] (fun v os => v = .s (nameN n) ∧ os = []) := by
  refine spec_of TtOk [] Try.func15 rfl Try.ntmps15 (by kernel_rfl) rfl rfl (fun C => ?_) rfl
  have h14 : (logP ++ List.replicate 10 (48 : UInt8)).length = 14 := rfl
  repeat' (first | (refine o_buildSlice TtOk rfl rfl rfl rfl rfl rfl rfl rfl rfl rfl rfl (by repeat' (first | exact True.intro | exact rfl | refine ⟨?_, ?_⟩)) (fun vB => ?_)) | refine Awp.seq ?_ | refine Awp.block ?_ | refine Awp.region ?_ | (refine Ops.nil ?_; show Awp _ _ _ _ _) | (refine o_sub rfl rfl rfl rfl ?_ ?_; omega) | (refine o_calm rfl TtOk rfl rfl rfl ?_ (fun _ => ?_); first | exact True.intro | exact ⟨rfl, rfl, rfl, rfl⟩ | exact ⟨rfl, True.intro⟩ | exact ⟨rfl, rfl⟩ | exact ⟨rfl, rfl, rfl⟩ | exact rfl | exact ⟨fun h0 => by cases h0, rfl⟩ | exact (fun h0 => by cases h0) | exact ⟨rfl, by omega⟩ | exact ⟨Nat.succ_ne_zero _, rfl⟩ | omega) | (refine o_convM TtOk rfl (logP ++ List.replicate 10 48) rfl rfl rfl rfl rfl rfl rfl rfl (hp' := fun b' o' => [(5, HO.obj b' o')]) (fun _ _ => rfl) (fun bM oM hM => ?_)) | (refine o_lenM TtOk rfl rfl hM rfl rfl ?_))
  refine Awp.loop (fun q : Nat × Obj => ⟨29, [(4, .i .i64 (13 - (q.1 : Int))), (0, .i .i64 ((n / 10 ^ q.1 : Nat) : Int)), (3, .own 5 vB)], [(5, .obj bM q.2)]⟩) (fun q => q.1 ≤ 10 ∧ MRow vB q.2 5 bM (nmRow q.1 n)) (fun q => 10 - q.1) [] (0, oM) ⟨Nat.zero_le _, hM⟩ ?_ ?_
  · exact ⟨rfl, ⟨sle_i (by rw [h14]; rfl), sle_i (by rw [Nat.pow_zero, Nat.div_one]), sle_own, True.intro⟩, HLe.cons 5 rfl (HOLe.refl _) .nil⟩
  rintro ⟨j, o⟩ ⟨hj, hMj⟩
  dsimp only at hj hMj ⊢
  have hln := nmRow_len (n := n) hj
  by_cases hgo : j < 10 ∧ n / 10 ^ j ≠ 0
  · have hset := nmRow_set (n := n) hgo.1
    have hdd : n / 10 ^ (j + 1) = n / 10 ^ j / 10 := by rw [Nat.pow_succ, Nat.div_div_eq_div_mul]
    have hqn : n / 10 ^ j ≤ n := Nat.div_le_self _ _
    have h0 := hgo.2
    have hj10 := hgo.1
    generalize n / 10 ^ j = q at hset hdd hqn h0 ⊢
    have hbc : AV.i .u8 (IntKind.u8.wrap (48 + (q : Int) % 10)) = byA (UInt8.ofNat (48 + q % 10)) := byA_nat (48 + q % 10)
    repeat' (first | refine Awp.seq ?_ | refine Awp.block ?_ | refine Awp.region ?_ | (refine Ops.nil ?_; show Awp _ _ _ _ _) | (refine Ops.nil ?_; show Exists _) | (refine Awp.skip ?_; show Awp _ _ _ _ _) | (refine o_add rfl rfl rfl rfl ?_ ?_; omega) | (refine o_sub rfl rfl rfl rfl ?_ ?_; omega) | (refine o_quo rfl rfl rfl rfl ?_ ?_ ?_; omega; omega) | (refine o_rem rfl rfl rfl rfl ?_ ?_ ?_; omega; omega) | (refine o_calm rfl TtOk rfl rfl rfl ?_ (fun _ => ?_); first | exact True.intro | exact ⟨rfl, rfl, rfl, rfl⟩ | exact ⟨rfl, True.intro⟩ | exact ⟨rfl, rfl⟩ | exact ⟨rfl, rfl, rfl⟩ | exact rfl | exact ⟨fun h0 => by cases h0, rfl⟩ | exact (fun h0 => by cases h0) | exact ⟨rfl, by omega⟩ | exact ⟨Nat.succ_ne_zero _, rfl⟩ | omega) | (fail_if_success (refine o_isLit rfl (by first | exact .inl rfl | exact .inr rfl) ?_)); (refine o_splitP rfl rfl (fun hc => ?_) (fun hc => ?_) <;> try (exfalso; omega)) | (refine a_condP rfl (fun hc => ?_) (fun hc => ?_)) <;> (try (exfalso; omega)) | (refine o_indexM TtOk rfl rfl hMj rfl rfl rfl rfl rfl (13 - j) ?_ ?_ ?_; omega; omega) | (refine o_storeM TtOk rfl rfl rfl hMj rfl rfl rfl rfl hbc ?_ rfl (hp' := fun o' => [(5, HO.obj bM o')]) (fun _ => rfl) (fun o2 hM2 => ?_); omega))
    rw [hset] at hM2
    exact ⟨(j + 1, o2), [], ⟨by omega, hM2⟩, by show 10 - (j + 1) < 10 - j; omega, rfl, ⟨sle_i (by show (13 - (j : Int) - 1) = 13 - ((j + 1 : Nat) : Int); omega), sle_i (by show ((q : Int) / 10) = ((n / 10 ^ (j + 1) : Nat) : Int); rw [hdd]; rfl), sle_own, True.intro⟩, HLe.cons 5 rfl (HOLe.refl _) .nil⟩
  · have hq : n < 10 ^ j := by
      by_cases hj2 : j < 10
      · have h0 : n / 10 ^ j = 0 := Classical.byContradiction fun h => hgo ⟨hj2, h⟩
        rcases Nat.div_eq_zero_iff.1 h0 with h | h
        · exact absurd h (Nat.pos_iff_ne_zero.1 (Nat.pow_pos (by decide)))
        · exact h
      · have : j = 10 := by omega
        subst this; exact hn
    have hz : n / 10 ^ j = 0 := Nat.div_eq_of_lt hq
    rw [nmRow_eq hj hq] at hMj
    rw [hz]
    refine a_freezeM 5 3 hMj rfl rfl rfl ?_
    repeat' (first | refine Awp.seq ?_ | refine Awp.region ?_ | (refine Ops.nil ?_; show Awp _ _ _ _ _) | (refine Awp.exit ?_; show Awp _ _ _ _ _) | (refine Awp.ret ?_; show endK _ _ _ _ _) | refine o_noT rfl rfl rfl ?_ | (refine o_calm rfl TtOk rfl rfl rfl ?_ (fun _ => ?_); first | exact True.intro | exact ⟨rfl, rfl, rfl, rfl⟩ | exact ⟨rfl, True.intro⟩ | exact ⟨rfl, rfl⟩ | exact ⟨rfl, rfl, rfl⟩ | exact rfl | exact ⟨fun h0 => by cases h0, rfl⟩ | exact (fun h0 => by cases h0) | exact ⟨rfl, by omega⟩ | exact ⟨Nat.succ_ne_zero _, rfl⟩ | omega) | (fail_if_success (refine o_isLit rfl (by first | exact .inl rfl | exact .inr rfl) ?_)); (refine o_splitP rfl rfl (fun hc => ?_) (fun hc => ?_) <;> try (exfalso; omega)) | refine a_condF rfl ?_ | refine o_toString TtOk rfl rfl rfl rfl rfl (by first | exact True.intro | exact rfl) rfl rfl rfl rfl ?_)
    all_goals exact end_tmp rfl rfl rfl [] [] (CLe.of_eq rfl) .nil ⟨rfl, rfl⟩ _ (.inl rfl)
def numI (s : List UInt8) : Int := match numN s with | some n => (n : Int) | none => -1
theorem number_spec (s : List UInt8) (hs : s.length ≤ 1000000) : Spec Try.prog 26 [.s s] [] (fun v os => v = .i .i64 (numI s) ∧ os = []) := by
  have hh := scut_spec s logP (by omega) (by decide)
  refine spec_of TtOk [] Try.func26 rfl Try.ntmps26 (by kernel_rfl) rfl rfl (fun C => ?_) rfl
  generalize hq : cutP s logP = q at hh
  obtain ⟨r, ok⟩ := q
  cases ok
  · have hN : numI s = -1 := by
      unfold numI numN
      rw [if_neg]
      rintro ⟨h, _⟩
      unfold cutP at hq
      rw [if_pos (show s.take logP.length = logP from h)] at hq
      cases hq
    rw [hN]
    have hh : Spec Try.prog 36 [.s s, .s logP] [] (fun v os => v = .tup [.s r, .b false] ∧ os = []) := hh
    repeat' (first | refine Awp.seq ?_ | refine Awp.region ?_ | (refine Ops.nil ?_; show Awp _ _ _ _ _) | (refine Awp.ret ?_; show endK _ _ _ _ _) | refine o_noF rfl rfl rfl ?_ | (refine o_calm rfl TtOk rfl rfl rfl ?_ (fun _ => ?_); first | exact True.intro | exact ⟨rfl, rfl, rfl, rfl⟩ | exact ⟨rfl, True.intro⟩ | exact ⟨rfl, rfl⟩ | exact ⟨rfl, rfl, rfl⟩ | exact rfl | exact ⟨fun h0 => by cases h0, rfl⟩ | exact (fun h0 => by cases h0) | exact ⟨rfl, by omega⟩ | exact ⟨Nat.succ_ne_zero _, rfl⟩ | omega) | refine a_condT rfl ?_ | (refine o_call0 rfl (hh) ⟨SLe.of_eq rfl, SLe.of_eq rfl, True.intro⟩ rfl ?_; rintro _ _ ⟨rfl, rfl⟩; refine ⟨rfl, ?_⟩))
    all_goals exact end_tmp rfl rfl rfl [] [] (CLe.of_eq rfl) .nil ⟨rfl, rfl⟩ _ (.inl rfl)
  have hh : Spec Try.prog 36 [.s s, .s logP] [] (fun v os => v = .tup [.s r, .b true] ∧ os = []) := hh
  have hr : s.take 4 = logP ∧ r = s.drop 4 := by
    unfold cutP at hq
    split at hq
    · next h => exact ⟨h, (congrArg Prod.fst hq).symm⟩
    · cases hq
  have hrl : r.length ≤ 1000000 := by rw [hr.2, List.length_drop]; omega
  by_cases hl : r.length = 10
  case neg =>
    have hN : numI s = -1 := by
      unfold numI numN
      rw [if_neg]
      rintro ⟨_, h⟩
      exact hl (by rw [hr.2]; exact h)
    rw [hN]
    repeat' (first | refine Awp.seq ?_ | refine Awp.region ?_ | (refine Ops.nil ?_; show Awp _ _ _ _ _) | (refine Awp.ret ?_; show endK _ _ _ _ _) | (refine o_calm rfl TtOk rfl rfl rfl ?_ (fun _ => ?_); first | exact True.intro | exact ⟨rfl, rfl, rfl, rfl⟩ | exact ⟨rfl, True.intro⟩ | exact ⟨rfl, rfl⟩ | exact ⟨rfl, rfl, rfl⟩ | exact rfl | exact ⟨fun h0 => by cases h0, rfl⟩ | exact (fun h0 => by cases h0) | exact ⟨rfl, by omega⟩ | exact ⟨Nat.succ_ne_zero _, rfl⟩ | omega) | (refine a_condN rfl (fun hc => ?_) (fun hc => ?_)) <;> (try (exfalso; omega)) | (refine o_call0 rfl (hh) ⟨SLe.of_eq rfl, SLe.of_eq rfl, True.intro⟩ rfl ?_; rintro _ _ ⟨rfl, rfl⟩; refine ⟨rfl, ?_⟩))
    all_goals exact end_tmp rfl rfl rfl [] [] (CLe.of_eq rfl) .nil ⟨rfl, rfl⟩ _ (.inl rfl)
  have hN : numN s = numL r 0 := by
    unfold numN
    rw [if_pos ⟨hr.1, by rw [← hr.2]; exact hl⟩, hr.2]
  repeat' (first | refine Awp.seq ?_ | refine Awp.block ?_ | refine Awp.region ?_ | (refine Ops.nil ?_; show Awp _ _ _ _ _) | (refine Awp.skip ?_; show Awp _ _ _ _ _) | refine o_len rfl TtOk rfl rfl rfl (fun _ => ?_) | (refine o_calm rfl TtOk rfl rfl rfl ?_ (fun _ => ?_); first | exact True.intro | exact ⟨rfl, rfl, rfl, rfl⟩ | exact ⟨rfl, True.intro⟩ | exact ⟨rfl, rfl⟩ | exact ⟨rfl, rfl, rfl⟩ | exact rfl | exact ⟨fun h0 => by cases h0, rfl⟩ | exact (fun h0 => by cases h0) | exact ⟨rfl, by omega⟩ | exact ⟨Nat.succ_ne_zero _, rfl⟩ | omega) | refine o_toBytes TtOk rfl rfl rfl rfl rfl rfl ?_ | (refine a_condN rfl (fun hc => ?_) (fun hc => ?_)) <;> (try (exfalso; omega)) | (refine o_call0 rfl (hh) ⟨SLe.of_eq rfl, SLe.of_eq rfl, True.intro⟩ rfl ?_; rintro _ _ ⟨rfl, rfl⟩; refine ⟨rfl, ?_⟩))
  refine Awp.loop (fun q : Nat × Nat => ⟨41, [(23, .i .i64 q.1), (22, .i .i64 10), (21, .sl 1 (r.map byA)), (5, .i .i64 q.2)], []⟩) (fun q => q.1 ≤ 10 ∧ q.2 < 10 ^ q.1 ∧ numL r 0 = numL (r.drop q.1) q.2) (fun q => 10 - q.1) [] (0, 0) ⟨Nat.zero_le _, by decide, rfl⟩ ?_ ?_
  · exact ⟨rfl, ⟨sle_i rfl, sle_i (by rw [hl]; rfl), sle_sl rfl, sle_i rfl, True.intro⟩, .nil⟩
  rintro ⟨i, acc⟩ ⟨hi, hac, hnl⟩
  dsimp only at hi hac hnl ⊢
  have hpw : (10 : Nat) ^ i ≤ 10 ^ 10 := Nat.pow_le_pow_right (by decide) hi
  have hpc : (10 : Nat) ^ 10 = 10000000000 := by decide
  by_cases hlt : i < r.length
  · have hd := List.drop_eq_getElem_cons hlt
    have hcl := (r[i]).toNat_lt
    have hnx : numL (r.drop i) acc = if (r[i]).toNat < 48 ∨ 57 < (r[i]).toNat then none else numL (r.drop (i + 1)) (10 * acc + ((r[i]).toNat - 48)) := by rw [hd]; rfl
    rw [hnx] at hnl
    by_cases hdg : (r[i]).toNat < 48 ∨ 57 < (r[i]).toNat
    · rw [if_pos hdg] at hnl
      have hI : numI s = -1 := by unfold numI; rw [hN, hnl]
      rw [hI]
      repeat' (first | refine Awp.seq ?_ | refine Awp.block ?_ | refine Awp.region ?_ | (refine Ops.nil ?_; show Awp _ _ _ _ _) | (refine Awp.skip ?_; show Awp _ _ _ _ _) | (refine Awp.ret ?_; show endK _ _ _ _ _) | refine o_noF rfl rfl rfl ?_ | (refine o_calm rfl TtOk rfl rfl rfl ?_ (fun _ => ?_); first | exact True.intro | exact ⟨rfl, rfl, rfl, rfl⟩ | exact ⟨rfl, True.intro⟩ | exact ⟨rfl, rfl⟩ | exact ⟨rfl, rfl, rfl⟩ | exact rfl | exact ⟨fun h0 => by cases h0, rfl⟩ | exact (fun h0 => by cases h0) | exact ⟨rfl, by omega⟩ | exact ⟨Nat.succ_ne_zero _, rfl⟩ | omega) | (refine o_index rfl TtOk rfl rfl rfl rfl rfl rfl ?_ (getq_nat ?_) ?_; omega; omega) | (fail_if_success (refine o_isLit rfl (by first | exact .inl rfl | exact .inr rfl) ?_)); (refine o_splitP rfl rfl (fun hc => ?_) (fun hc => ?_) <;> try (exfalso; omega)) | refine a_condT rfl ?_ | (refine a_condP rfl (fun hc => ?_) (fun hc => ?_)) <;> (try (exfalso; omega)))
      all_goals exact end_tmp rfl rfl rfl [] [] (CLe.of_eq rfl) .nil ⟨rfl, rfl⟩ _ (.inl rfl)
    · rw [if_neg hdg] at hnl
      have hu8 : IntKind.u8.wrap (((r[i]).toNat : Int) - 48) = (((r[i]).toNat - 48 : Nat) : Int) := by
        rw [show IntKind.u8.wrap (((r[i]).toNat : Int) - 48) = (((r[i]).toNat : Int) - 48) % 256 from rfl]; omega
      have hac2 : 10 * acc + ((r[i]).toNat - 48) < 10 ^ (i + 1) := by rw [Nat.pow_succ]; omega
      have hsum : 10 * (acc : Int) + IntKind.u8.wrap (((r[i]).toNat : Int) - 48) = ((10 * acc + ((r[i]).toNat - 48) : Nat) : Int) := by
        rw [hu8]; omega
      repeat' (first | refine Awp.seq ?_ | refine Awp.block ?_ | refine Awp.region ?_ | (refine Ops.nil ?_; show Awp _ _ _ _ _) | (refine Ops.nil ?_; show Exists _) | (refine Awp.skip ?_; show Awp _ _ _ _ _) | (refine o_add rfl rfl rfl rfl ?_ ?_; omega) | (refine o_mul rfl rfl rfl rfl ?_ ?_; omega) | (refine o_conv64 rfl TtOk rfl rfl rfl rfl ?_ ?_; omega) | (refine o_calm rfl TtOk rfl rfl rfl ?_ (fun _ => ?_); first | exact True.intro | exact ⟨rfl, rfl, rfl, rfl⟩ | exact ⟨rfl, True.intro⟩ | exact ⟨rfl, rfl⟩ | exact ⟨rfl, rfl, rfl⟩ | exact rfl | exact ⟨fun h0 => by cases h0, rfl⟩ | exact (fun h0 => by cases h0) | exact ⟨rfl, by omega⟩ | exact ⟨Nat.succ_ne_zero _, rfl⟩ | omega) | (refine o_index rfl TtOk rfl rfl rfl rfl rfl rfl ?_ (getq_nat ?_) ?_; omega; omega) | (fail_if_success (refine o_isLit rfl (by first | exact .inl rfl | exact .inr rfl) ?_)); (refine o_splitP rfl rfl (fun hc => ?_) (fun hc => ?_) <;> try (exfalso; omega)) | (refine a_condP rfl (fun hc => ?_) (fun hc => ?_)) <;> (try (exfalso; omega)))
      exact ⟨(i + 1, 10 * acc + ((r[i]).toNat - 48)), [], ⟨by omega, hac2, hnl⟩, by show 10 - (i + 1) < 10 - i; omega, rfl, ⟨sle_i (by show (i : Int) + 1 = ((i + 1 : Nat) : Int); omega), sle_i rfl, sle_sl rfl, sle_i hsum, True.intro⟩, .nil⟩
  · have hI : numI s = acc := by
      unfold numI
      rw [hN, hnl, List.drop_eq_nil_of_le (by omega)]
      rfl
    rw [hI]
    repeat' (first | refine Awp.seq ?_ | refine Awp.region ?_ | (refine Ops.nil ?_; show Awp _ _ _ _ _) | (refine Awp.exit ?_; show Awp _ _ _ _ _) | (refine Awp.ret ?_; show endK _ _ _ _ _) | (refine o_calm rfl TtOk rfl rfl rfl ?_ (fun _ => ?_); first | exact True.intro | exact ⟨rfl, rfl, rfl, rfl⟩ | exact ⟨rfl, True.intro⟩ | exact ⟨rfl, rfl⟩ | exact ⟨rfl, rfl, rfl⟩ | exact rfl | exact ⟨fun h0 => by cases h0, rfl⟩ | exact (fun h0 => by cases h0) | exact ⟨rfl, by omega⟩ | exact ⟨Nat.succ_ne_zero _, rfl⟩ | omega) | (refine a_condP rfl (fun hc => ?_) (fun hc => ?_)) <;> (try (exfalso; omega)))
    all_goals exact end_tmp rfl rfl rfl [] [] (CLe.of_eq rfl) .nil ⟨rfl, rfl⟩ _ (.inl rfl)
end Go.Proofs.Ytfdcopbbnmialaa
