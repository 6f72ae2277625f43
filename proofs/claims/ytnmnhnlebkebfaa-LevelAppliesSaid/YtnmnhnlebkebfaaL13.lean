/- The statements' own functions of the level chapter by rules: tolds, told, same, SameInts, among, awake. -/
import Derived.Test.YtnmnhnlebkebfaaL11
set_option maxHeartbeats 8000000
set_option maxRecDepth 100000
namespace Go.Proofs.Ytnmnhnlebkebfaa
open Go Go.RowKit
theorem tolds_spec (l : List Fl) (hl : l.length ≤ 1000) : Spec Try.prog 23 [.sl 5 (l.map eF)] [] (fun v os => v = .sl 5 (l.map eF) ∧ os = []) := by
  refine spec_of TtOk [] Try.func23 rfl Try.ntmps23 (by kernel_rfl) rfl rfl (fun C => ?_) rfl
  repeat' (first
    | refine Awp.seq ?_
    | refine Awp.block ?_
    | refine Awp.region ?_
    | (refine Ops.nil ?_; show Awp _ _ _ _ _)
    | (refine Ops.nil ?_; show Exists _)
    | (refine Ops.nil ?_; show endK _ _ _ _ _)
    | (refine Awp.skip ?_; show Awp _ _ _ _ _)
    | (refine Awp.skip ?_; show endK _ _ _ _ _)
    | (refine Awp.skip ?_; show Exists _)
    | (refine Awp.exit ?_; show Awp _ _ _ _ _)
    | (refine Awp.exit ?_; show Exists _)
    | (refine Awp.exit ?_; show endK _ _ _ _ _)
    | (refine Awp.ret ?_; show endK _ _ _ _ _)
    | (refine o_add rfl rfl rfl rfl ?_ ?_; omega)
    | refine o_len rfl TtOk rfl rfl rfl (fun _ => ?_)
    | refine o_lenOwn rfl TtOk rfl rfl rfl rfl (fun _ => ?_)
    | (refine o_calm rfl TtOk rfl rfl rfl ?_ (fun _ => ?_); first | exact True.intro | exact ⟨rfl, rfl, rfl, rfl⟩ | exact ⟨rfl, True.intro⟩ | exact ⟨rfl, rfl⟩ | exact ⟨rfl, rfl, rfl⟩ | exact rfl | exact ⟨fun h0 => by cases h0, rfl⟩ | exact (fun h0 => by cases h0) | exact ⟨rfl, by omega⟩ | exact ⟨Nat.succ_ne_zero _, rfl⟩ | omega)
    | refine o_alloc (d := 5) rfl TtOk rfl rfl rfl (fun b5 => ?_)
    | refine o_store TtOk rfl rfl rfl rfl rfl rfl rfl ⟨rfl, rfl⟩ rfl rfl rfl rfl rfl ?_
    | (refine o_index rfl TtOk rfl rfl rfl rfl rfl rfl ?_ (getq_nat ?_) ?_; omega; omega)
    | (refine o_indexOwn TtOk rfl rfl rfl rfl rfl rfl rfl rfl _ rfl ?_ (fun bO hbO => ?_); (simp only [List.length_map]; omega))
    | (refine o_loadRow TtOk rfl rfl rfl rfl rfl (by assumption) (getq_map (List.getElem?_eq_getElem ?_)) rfl rfl (by first | exact Nat.add_zero _ | rfl) ⟨rfl, rfl⟩ ?_; omega)
    | (refine o_calm rfl TtOk rfl rfl rfl ?_ (fun _ => ?_); (show List.length _ + List.length _ ≤ 9223372036854775807; (try simp only [List.length_append, List.length_cons, List.length_nil]); omega))
    | (refine o_storeRow TtOk rfl rfl rfl rfl rfl rfl (by assumption) (getq_map (List.getElem?_eq_getElem ?_)) rfl rfl (by first | exact Nat.add_zero _ | rfl) ⟨rfl, rfl⟩ rfl rfl ?_; omega)
    | refine o_buildSlice TtOk rfl rfl rfl rfl rfl rfl rfl rfl rfl rfl rfl (by repeat' (first | exact True.intro | exact rfl | refine ⟨?_, ?_⟩)) (fun _ => ?_)
    | (refine o_append TtOk rfl rfl rfl rfl rfl rfl rfl rfl rfl (by first | exact True.intro | exact rfl) rfl rfl (fun _ => rfl) ?_ ?_ (fun _ => ?_); (simp only [List.length_map, List.length_cons, List.length_nil, List.length_append, List.length_take, List.length_drop]; omega); (simp only [List.length_map, List.length_cons, List.length_nil, List.length_append, List.length_take, List.length_drop]; omega))
    | (refine o_appendStr TtOk rfl rfl rfl rfl rfl rfl rfl rfl rfl (fun _ => rfl) ?_ (fun _ => ?_); (simp only [List.length_map, List.length_cons, List.length_nil, List.length_append, List.length_take, List.length_drop]; omega))
    | refine a_condT rfl ?_
    | refine a_condF rfl ?_
    | (refine a_condP rfl (fun hc => ?_) (fun hc => ?_)) <;> (try (exfalso; omega))
    | (refine a_condI rfl (fun hc => ?_) (fun hc => ?_)) <;> (try (exfalso; omega))
    | (refine a_condN rfl (fun hc => ?_) (fun hc => ?_)) <;> (try (exfalso; omega))
    | (refine Awp.cond rfl (fun hc => ?_) (fun hc => ?_)))
  rename_i v6 _ _ _ _
  refine Awp.loop (fun q : Nat × Value => ⟨19, [(9, .i .i64 q.1), (8, .i .i64 l.length), (7, .sl 5 (l.map eF)), (3, .own 6 q.2)], [(6, .row q.2 79 5 ((l.take q.1).map eF))]⟩) (fun q => q.1 ≤ l.length) (fun q => l.length - q.1) [] (0, v6) (Nat.zero_le _) ?_ ?_
  · exact ⟨rfl, ⟨sle_i rfl, sle_i rfl, sle_sl rfl, sle_own, True.intro⟩, HLe.cons 6 rfl (HOLe.refl _) .nil⟩
  rintro ⟨i, v⟩ hi
  dsimp only at hi ⊢
  by_cases hlt : i < l.length
  · have hst : l.take (i + 1) = l.take i ++ [l[i]] := List.take_succ_eq_append_getElem hlt
    have hfl : (l.take i).length = i := by rw [List.length_take]; omega
    generalize l.take i = out at hst hfl ⊢
    repeat' (first
      | refine Awp.seq ?_
      | refine Awp.block ?_
      | refine Awp.region ?_
      | (refine Ops.nil ?_; show Awp _ _ _ _ _)
      | (refine Ops.nil ?_; show Exists _)
      | (refine Ops.nil ?_; show endK _ _ _ _ _)
      | (refine Awp.skip ?_; show Awp _ _ _ _ _)
      | (refine Awp.skip ?_; show endK _ _ _ _ _)
      | (refine Awp.skip ?_; show Exists _)
      | (refine Awp.exit ?_; show Awp _ _ _ _ _)
      | (refine Awp.exit ?_; show Exists _)
      | (refine Awp.exit ?_; show endK _ _ _ _ _)
      | (refine Awp.ret ?_; show endK _ _ _ _ _)
      | (refine o_add rfl rfl rfl rfl ?_ ?_; omega)
      | refine o_len rfl TtOk rfl rfl rfl (fun _ => ?_)
      | refine o_lenOwn rfl TtOk rfl rfl rfl rfl (fun _ => ?_)
      | (refine o_calm rfl TtOk rfl rfl rfl ?_ (fun _ => ?_); first | exact True.intro | exact ⟨rfl, rfl, rfl, rfl⟩ | exact ⟨rfl, True.intro⟩ | exact ⟨rfl, rfl⟩ | exact ⟨rfl, rfl, rfl⟩ | exact rfl | exact ⟨fun h0 => by cases h0, rfl⟩ | exact (fun h0 => by cases h0) | exact ⟨rfl, by omega⟩ | exact ⟨Nat.succ_ne_zero _, rfl⟩ | omega)
      | refine o_alloc (d := 5) rfl TtOk rfl rfl rfl (fun b5 => ?_)
      | refine o_store TtOk rfl rfl rfl rfl rfl rfl rfl ⟨rfl, rfl⟩ rfl rfl rfl rfl rfl ?_
      | (refine o_index rfl TtOk rfl rfl rfl rfl rfl rfl ?_ (getq_nat ?_) ?_; omega; omega)
      | (refine o_indexOwn TtOk rfl rfl rfl rfl rfl rfl rfl rfl _ rfl ?_ (fun bO hbO => ?_); (simp only [List.length_map]; omega))
      | (refine o_loadRow TtOk rfl rfl rfl rfl rfl (by assumption) (getq_map (List.getElem?_eq_getElem ?_)) rfl rfl (by first | exact Nat.add_zero _ | rfl) ⟨rfl, rfl⟩ ?_; omega)
      | (refine o_calm rfl TtOk rfl rfl rfl ?_ (fun _ => ?_); (show List.length _ + List.length _ ≤ 9223372036854775807; (try simp only [List.length_append, List.length_cons, List.length_nil]); omega))
      | (refine o_storeRow TtOk rfl rfl rfl rfl rfl rfl (by assumption) (getq_map (List.getElem?_eq_getElem ?_)) rfl rfl (by first | exact Nat.add_zero _ | rfl) ⟨rfl, rfl⟩ rfl rfl ?_; omega)
      | refine o_buildSlice TtOk rfl rfl rfl rfl rfl rfl rfl rfl rfl rfl rfl (by repeat' (first | exact True.intro | exact rfl | refine ⟨?_, ?_⟩)) (fun _ => ?_)
      | (refine o_append TtOk rfl rfl rfl rfl rfl rfl rfl rfl rfl (by first | exact True.intro | exact rfl) rfl rfl (fun _ => rfl) ?_ ?_ (fun _ => ?_); (simp only [List.length_map, List.length_cons, List.length_nil, List.length_append, List.length_take, List.length_drop]; omega); (simp only [List.length_map, List.length_cons, List.length_nil, List.length_append, List.length_take, List.length_drop]; omega))
      | (refine o_appendStr TtOk rfl rfl rfl rfl rfl rfl rfl rfl rfl (fun _ => rfl) ?_ (fun _ => ?_); (simp only [List.length_map, List.length_cons, List.length_nil, List.length_append, List.length_take, List.length_drop]; omega))
      | refine a_condT rfl ?_
      | refine a_condF rfl ?_
      | (refine a_condP rfl (fun hc => ?_) (fun hc => ?_)) <;> (try (exfalso; omega))
      | (refine a_condI rfl (fun hc => ?_) (fun hc => ?_)) <;> (try (exfalso; omega))
      | (refine a_condN rfl (fun hc => ?_) (fun hc => ?_)) <;> (try (exfalso; omega))
      | (refine Awp.cond rfl (fun hc => ?_) (fun hc => ?_)))
    refine ⟨(i + 1, _), [], by show i + 1 ≤ l.length; omega, by show l.length - (i + 1) < l.length - i; omega, rfl, ⟨sle_i rfl, sle_i rfl, sle_sl rfl, sle_own, True.intro⟩, HLe.cons 6 rfl (HOLe.row ?_) .nil⟩
    rw [hst, List.map_append]; rfl
  · have hil : i = l.length := by omega
    subst hil
    rw [List.take_length]
    repeat' (first
      | refine Awp.seq ?_
      | refine Awp.block ?_
      | refine Awp.region ?_
      | (refine Ops.nil ?_; show Awp _ _ _ _ _)
      | (refine Ops.nil ?_; show Exists _)
      | (refine Ops.nil ?_; show endK _ _ _ _ _)
      | (refine Awp.skip ?_; show Awp _ _ _ _ _)
      | (refine Awp.skip ?_; show endK _ _ _ _ _)
      | (refine Awp.skip ?_; show Exists _)
      | (refine Awp.exit ?_; show Awp _ _ _ _ _)
      | (refine Awp.exit ?_; show Exists _)
      | (refine Awp.exit ?_; show endK _ _ _ _ _)
      | (refine Awp.ret ?_; show endK _ _ _ _ _)
      | (refine o_add rfl rfl rfl rfl ?_ ?_; omega)
      | refine o_len rfl TtOk rfl rfl rfl (fun _ => ?_)
      | refine o_lenOwn rfl TtOk rfl rfl rfl rfl (fun _ => ?_)
      | (refine o_calm rfl TtOk rfl rfl rfl ?_ (fun _ => ?_); first | exact True.intro | exact ⟨rfl, rfl, rfl, rfl⟩ | exact ⟨rfl, True.intro⟩ | exact ⟨rfl, rfl⟩ | exact ⟨rfl, rfl, rfl⟩ | exact rfl | exact ⟨fun h0 => by cases h0, rfl⟩ | exact (fun h0 => by cases h0) | exact ⟨rfl, by omega⟩ | exact ⟨Nat.succ_ne_zero _, rfl⟩ | omega)
      | refine o_alloc (d := 5) rfl TtOk rfl rfl rfl (fun b5 => ?_)
      | refine o_store TtOk rfl rfl rfl rfl rfl rfl rfl ⟨rfl, rfl⟩ rfl rfl rfl rfl rfl ?_
      | (refine o_index rfl TtOk rfl rfl rfl rfl rfl rfl ?_ (getq_nat ?_) ?_; omega; omega)
      | (refine o_indexOwn TtOk rfl rfl rfl rfl rfl rfl rfl rfl _ rfl ?_ (fun bO hbO => ?_); (simp only [List.length_map]; omega))
      | (refine o_loadRow TtOk rfl rfl rfl rfl rfl (by assumption) (getq_map (List.getElem?_eq_getElem ?_)) rfl rfl (by first | exact Nat.add_zero _ | rfl) ⟨rfl, rfl⟩ ?_; omega)
      | (refine o_calm rfl TtOk rfl rfl rfl ?_ (fun _ => ?_); (show List.length _ + List.length _ ≤ 9223372036854775807; (try simp only [List.length_append, List.length_cons, List.length_nil]); omega))
      | (refine o_storeRow TtOk rfl rfl rfl rfl rfl rfl (by assumption) (getq_map (List.getElem?_eq_getElem ?_)) rfl rfl (by first | exact Nat.add_zero _ | rfl) ⟨rfl, rfl⟩ rfl rfl ?_; omega)
      | refine o_buildSlice TtOk rfl rfl rfl rfl rfl rfl rfl rfl rfl rfl rfl (by repeat' (first | exact True.intro | exact rfl | refine ⟨?_, ?_⟩)) (fun _ => ?_)
      | (refine o_append TtOk rfl rfl rfl rfl rfl rfl rfl rfl rfl (by first | exact True.intro | exact rfl) rfl rfl (fun _ => rfl) ?_ ?_ (fun _ => ?_); (simp only [List.length_map, List.length_cons, List.length_nil, List.length_append, List.length_take, List.length_drop]; omega); (simp only [List.length_map, List.length_cons, List.length_nil, List.length_append, List.length_take, List.length_drop]; omega))
      | (refine o_appendStr TtOk rfl rfl rfl rfl rfl rfl rfl rfl rfl (fun _ => rfl) ?_ (fun _ => ?_); (simp only [List.length_map, List.length_cons, List.length_nil, List.length_append, List.length_take, List.length_drop]; omega))
      | refine a_condT rfl ?_
      | refine a_condF rfl ?_
      | (refine a_condP rfl (fun hc => ?_) (fun hc => ?_)) <;> (try (exfalso; omega))
      | (refine a_condI rfl (fun hc => ?_) (fun hc => ?_)) <;> (try (exfalso; omega))
      | (refine a_condN rfl (fun hc => ?_) (fun hc => ?_)) <;> (try (exfalso; omega))
      | (refine Awp.cond rfl (fun hc => ?_) (fun hc => ?_)))
    refine end_tmp rfl rfl rfl [6] [] (CLe.fz ?_) .nil ⟨rfl, rfl⟩ _ (.inl rfl)
    exact .head _
theorem told_spec (s : Stt) (hl : s.fs.length ≤ 1000) : Spec Try.prog 14 [eSt s] [] (fun v os => v = eSt s ∧ os = []) := by
  refine spec_of TtOk [] Try.func14 rfl Try.ntmps14 (by kernel_rfl) rfl rfl (fun C => ?_) rfl
  have h1 := tolds_spec s.fs hl
  unfold eSt
  repeat' (first
    | refine Awp.seq ?_
    | refine Awp.region ?_
    | (refine Ops.nil ?_; show Awp _ _ _ _ _)
    | (refine Ops.nil ?_; show Exists _)
    | (refine Ops.nil ?_; show endK _ _ _ _ _)
    | (refine Awp.ret ?_; show endK _ _ _ _ _)
    | (refine o_calm rfl TtOk rfl rfl rfl ?_ (fun _ => ?_); first | exact True.intro | exact ⟨rfl, rfl, rfl, rfl⟩ | exact ⟨rfl, True.intro⟩ | exact ⟨rfl, rfl⟩ | exact ⟨rfl, rfl, rfl⟩ | exact rfl | exact ⟨fun h0 => by cases h0, rfl⟩ | exact (fun h0 => by cases h0) | exact ⟨rfl, by omega⟩ | exact ⟨Nat.succ_ne_zero _, rfl⟩ | omega)
    | refine o_alloc (d := 2) rfl TtOk rfl rfl rfl (fun b2 => ?_)
    | refine o_box (d := 1) rfl rfl rfl rfl (fun b1 => ?_)
    | refine o_store TtOk rfl rfl rfl rfl rfl rfl rfl ⟨rfl, rfl⟩ rfl rfl rfl rfl rfl ?_
    | refine o_build TtOk rfl rfl rfl rfl rfl rfl (by repeat' (first | exact True.intro | exact rfl | refine ⟨?_, ?_⟩)) ?_
    | refine o_buildArr0 TtOk rfl rfl rfl rfl ?_
    | refine a_any 1 [2] [8] [] [0, 2, 4, 1, 3, 5, 6, 7, 8] (by kernel_rfl) (by kernel_rfl) (by kernel_rfl) rfl rfl rfl ?_
    | (refine o_call0 rfl (h1) ⟨SLe.of_eq rfl, True.intro⟩ rfl ?_; rintro _ _ ⟨rfl, rfl⟩; refine ⟨rfl, ?_⟩))
  refine end_all [] [] (eSt s) rfl ?_ ?_ (RLe.slot (SLe.of_cle (CLe.of_eq rfl) rfl)) .nil ⟨rfl, rfl⟩ _ (.inl rfl)
  all_goals first | exact ⟨trivial, trivial⟩ | trivial | exact ⟨trivial, trivial, trivial⟩ | (repeat' (first | exact True.intro | exact rfl | refine ⟨?_, ?_⟩))
theorem sameInts_spec (a b : List Int) (ha : a.length ≤ 1000) (hb : b.length ≤ 1000) : Spec Try.prog 38 [.sl 1 (a.map (AV.i .i64)), .sl 1 (b.map (AV.i .i64))] [] (fun v os => v = .b (decide (a = b)) ∧ os = []) := by
  refine spec_of TtOk [] Try.func38 rfl Try.ntmps38 (by kernel_rfl) rfl rfl (fun C => ?_) rfl
  by_cases hl : a.length = b.length
  · repeat' (first
      | refine Awp.seq ?_
      | refine Awp.block ?_
      | refine Awp.region ?_
      | (refine Ops.nil ?_; show Awp _ _ _ _ _)
      | (refine Ops.nil ?_; show Exists _)
      | (refine Ops.nil ?_; show endK _ _ _ _ _)
      | (refine Awp.skip ?_; show Awp _ _ _ _ _)
      | (refine Awp.skip ?_; show endK _ _ _ _ _)
      | (refine Awp.skip ?_; show Exists _)
      | (refine Awp.exit ?_; show Awp _ _ _ _ _)
      | (refine Awp.exit ?_; show Exists _)
      | (refine Awp.exit ?_; show endK _ _ _ _ _)
      | (refine Awp.ret ?_; show endK _ _ _ _ _)
      | (refine o_add rfl rfl rfl rfl ?_ ?_; omega)
      | refine o_len rfl TtOk rfl rfl rfl (fun _ => ?_)
      | refine o_lenOwn rfl TtOk rfl rfl rfl rfl (fun _ => ?_)
      | (refine o_calm rfl TtOk rfl rfl rfl ?_ (fun _ => ?_); first | exact True.intro | exact ⟨rfl, rfl, rfl, rfl⟩ | exact ⟨rfl, True.intro⟩ | exact ⟨rfl, rfl⟩ | exact ⟨rfl, rfl, rfl⟩ | exact rfl | exact ⟨fun h0 => by cases h0, rfl⟩ | exact (fun h0 => by cases h0) | exact ⟨rfl, by omega⟩ | exact ⟨Nat.succ_ne_zero _, rfl⟩ | omega)
      | (refine o_index rfl TtOk rfl rfl rfl rfl rfl rfl ?_ (getq_nat ?_) ?_; omega; omega)
      | (refine o_indexOwn TtOk rfl rfl rfl rfl rfl rfl rfl rfl _ rfl ?_ (fun bO hbO => ?_); (simp only [List.length_map]; omega))
      | (refine o_loadRow TtOk rfl rfl rfl rfl rfl (by assumption) (getq_map (List.getElem?_eq_getElem ?_)) rfl rfl (by first | exact Nat.add_zero _ | rfl) ⟨rfl, rfl⟩ ?_; omega)
      | (refine o_calm rfl TtOk rfl rfl rfl ?_ (fun _ => ?_); (show List.length _ + List.length _ ≤ 9223372036854775807; (try simp only [List.length_append, List.length_cons, List.length_nil]); omega))
      | (refine o_storeRow TtOk rfl rfl rfl rfl rfl rfl (by assumption) (getq_map (List.getElem?_eq_getElem ?_)) rfl rfl (by first | exact Nat.add_zero _ | rfl) ⟨rfl, rfl⟩ rfl rfl ?_; omega)
      | refine a_condT rfl ?_
      | refine a_condF rfl ?_
      | (refine a_condP rfl (fun hc => ?_) (fun hc => ?_)) <;> (try (exfalso; omega))
      | (refine a_condI rfl (fun hc => ?_) (fun hc => ?_)) <;> (try (exfalso; omega))
      | (refine a_condN rfl (fun hc => ?_) (fun hc => ?_)) <;> (try (exfalso; omega))
      | (refine Awp.cond rfl (fun hc => ?_) (fun hc => ?_))
      | refine a_any 6 [] [] [] [0, 1, 2, 4, 5, 6, 3, 7, 8] (by kernel_rfl) (by kernel_rfl) (by kernel_rfl) rfl rfl rfl ?_)
    refine Awp.loop (fun q : Nat => ⟨26, [(13, .i .i64 q), (12, .i .i64 a.length), (0, .sl 1 (a.map (AV.i .i64))), (1, .sl 1 (b.map (AV.i .i64)))], []⟩) (fun q => q ≤ a.length ∧ ∀ i (h : i < a.length) (h' : i < b.length), i < q → a[i] = b[i]) (fun q => a.length - q) [] 0 ⟨Nat.zero_le _, fun _ _ _ h => absurd h (Nat.not_lt_zero _)⟩ ?_ ?_
    · exact ⟨rfl, ⟨sle_i rfl, sle_i rfl, sle_sl rfl, sle_sl rfl, True.intro⟩, .nil⟩
    rintro i ⟨hi, hsm⟩
    by_cases hlt : i < a.length
    · have hlt2 : i < b.length := by omega
      repeat' (first
        | refine Awp.seq ?_
        | refine Awp.block ?_
        | refine Awp.region ?_
        | (refine Ops.nil ?_; show Awp _ _ _ _ _)
        | (refine Ops.nil ?_; show Exists _)
        | (refine Ops.nil ?_; show endK _ _ _ _ _)
        | (refine Awp.skip ?_; show Awp _ _ _ _ _)
        | (refine Awp.skip ?_; show endK _ _ _ _ _)
        | (refine Awp.skip ?_; show Exists _)
        | (refine Awp.exit ?_; show Awp _ _ _ _ _)
        | (refine Awp.exit ?_; show Exists _)
        | (refine Awp.exit ?_; show endK _ _ _ _ _)
        | (refine Awp.ret ?_; show endK _ _ _ _ _)
        | (refine o_add rfl rfl rfl rfl ?_ ?_; omega)
        | refine o_len rfl TtOk rfl rfl rfl (fun _ => ?_)
        | refine o_lenOwn rfl TtOk rfl rfl rfl rfl (fun _ => ?_)
        | (refine o_calm rfl TtOk rfl rfl rfl ?_ (fun _ => ?_); first | exact True.intro | exact ⟨rfl, rfl, rfl, rfl⟩ | exact ⟨rfl, True.intro⟩ | exact ⟨rfl, rfl⟩ | exact ⟨rfl, rfl, rfl⟩ | exact rfl | exact ⟨fun h0 => by cases h0, rfl⟩ | exact (fun h0 => by cases h0) | exact ⟨rfl, by omega⟩ | exact ⟨Nat.succ_ne_zero _, rfl⟩ | omega)
        | (refine o_index rfl TtOk rfl rfl rfl rfl rfl rfl ?_ (getq_nat ?_) ?_; omega; omega)
        | (refine o_indexOwn TtOk rfl rfl rfl rfl rfl rfl rfl rfl _ rfl ?_ (fun bO hbO => ?_); (simp only [List.length_map]; omega))
        | (refine o_loadRow TtOk rfl rfl rfl rfl rfl (by assumption) (getq_map (List.getElem?_eq_getElem ?_)) rfl rfl (by first | exact Nat.add_zero _ | rfl) ⟨rfl, rfl⟩ ?_; omega)
        | (refine o_calm rfl TtOk rfl rfl rfl ?_ (fun _ => ?_); (show List.length _ + List.length _ ≤ 9223372036854775807; (try simp only [List.length_append, List.length_cons, List.length_nil]); omega))
        | (refine o_storeRow TtOk rfl rfl rfl rfl rfl rfl (by assumption) (getq_map (List.getElem?_eq_getElem ?_)) rfl rfl (by first | exact Nat.add_zero _ | rfl) ⟨rfl, rfl⟩ rfl rfl ?_; omega)
        | refine a_condT rfl ?_
        | refine a_condF rfl ?_
        | (refine a_condP rfl (fun hc => ?_) (fun hc => ?_)) <;> (try (exfalso; omega))
        | (refine a_condI rfl (fun hc => ?_) (fun hc => ?_)) <;> (try (exfalso; omega))
        | (refine a_condN rfl (fun hc => ?_) (fun hc => ?_)) <;> (try (exfalso; omega))
        | (refine Awp.cond rfl (fun hc => ?_) (fun hc => ?_))
        | refine a_any 6 [] [] [] [0, 1, 2, 4, 5, 6, 3, 7, 8] (by kernel_rfl) (by kernel_rfl) (by kernel_rfl) rfl rfl rfl ?_)
      · have hne : a ≠ b := fun e => by subst e; exact hc rfl
        rw [decide_eq_false hne]
        exact end_tmp rfl rfl rfl [] [] (CLe.of_eq rfl) .nil ⟨rfl, rfl⟩ _ (.inl rfl)
      · exact ⟨i + 1, [], ⟨hlt, fun j h h' hj => by
          rcases Nat.lt_succ_iff_lt_or_eq.1 hj with h2 | h2
          · exact hsm j h h' h2
          · subst h2; exact hc⟩, by show a.length - (i + 1) < a.length - i; omega, rfl, ⟨sle_i rfl, sle_i rfl, sle_sl rfl, sle_sl rfl, True.intro⟩, .nil⟩
    · have he : a = b := List.ext_getElem hl (fun j h h' => hsm j h h' (by omega))
      rw [decide_eq_true he]
      repeat' (first
        | refine Awp.seq ?_
        | refine Awp.block ?_
        | refine Awp.region ?_
        | (refine Ops.nil ?_; show Awp _ _ _ _ _)
        | (refine Ops.nil ?_; show Exists _)
        | (refine Ops.nil ?_; show endK _ _ _ _ _)
        | (refine Awp.skip ?_; show Awp _ _ _ _ _)
        | (refine Awp.skip ?_; show endK _ _ _ _ _)
        | (refine Awp.skip ?_; show Exists _)
        | (refine Awp.exit ?_; show Awp _ _ _ _ _)
        | (refine Awp.exit ?_; show Exists _)
        | (refine Awp.exit ?_; show endK _ _ _ _ _)
        | (refine Awp.ret ?_; show endK _ _ _ _ _)
        | (refine o_add rfl rfl rfl rfl ?_ ?_; omega)
        | refine o_len rfl TtOk rfl rfl rfl (fun _ => ?_)
        | refine o_lenOwn rfl TtOk rfl rfl rfl rfl (fun _ => ?_)
        | (refine o_calm rfl TtOk rfl rfl rfl ?_ (fun _ => ?_); first | exact True.intro | exact ⟨rfl, rfl, rfl, rfl⟩ | exact ⟨rfl, True.intro⟩ | exact ⟨rfl, rfl⟩ | exact ⟨rfl, rfl, rfl⟩ | exact rfl | exact ⟨fun h0 => by cases h0, rfl⟩ | exact (fun h0 => by cases h0) | exact ⟨rfl, by omega⟩ | exact ⟨Nat.succ_ne_zero _, rfl⟩ | omega)
        | (refine o_index rfl TtOk rfl rfl rfl rfl rfl rfl ?_ (getq_nat ?_) ?_; omega; omega)
        | (refine o_indexOwn TtOk rfl rfl rfl rfl rfl rfl rfl rfl _ rfl ?_ (fun bO hbO => ?_); (simp only [List.length_map]; omega))
        | (refine o_loadRow TtOk rfl rfl rfl rfl rfl (by assumption) (getq_map (List.getElem?_eq_getElem ?_)) rfl rfl (by first | exact Nat.add_zero _ | rfl) ⟨rfl, rfl⟩ ?_; omega)
        | (refine o_calm rfl TtOk rfl rfl rfl ?_ (fun _ => ?_); (show List.length _ + List.length _ ≤ 9223372036854775807; (try simp only [List.length_append, List.length_cons, List.length_nil]); omega))
        | (refine o_storeRow TtOk rfl rfl rfl rfl rfl rfl (by assumption) (getq_map (List.getElem?_eq_getElem ?_)) rfl rfl (by first | exact Nat.add_zero _ | rfl) ⟨rfl, rfl⟩ rfl rfl ?_; omega)
        | refine a_condT rfl ?_
        | refine a_condF rfl ?_
        | (refine a_condP rfl (fun hc => ?_) (fun hc => ?_)) <;> (try (exfalso; omega))
        | (refine a_condI rfl (fun hc => ?_) (fun hc => ?_)) <;> (try (exfalso; omega))
        | (refine a_condN rfl (fun hc => ?_) (fun hc => ?_)) <;> (try (exfalso; omega))
        | (refine Awp.cond rfl (fun hc => ?_) (fun hc => ?_))
        | refine a_any 6 [] [] [] [0, 1, 2, 4, 5, 6, 3, 7, 8] (by kernel_rfl) (by kernel_rfl) (by kernel_rfl) rfl rfl rfl ?_)
      exact end_tmp rfl rfl rfl [] [] (CLe.of_eq rfl) .nil ⟨rfl, rfl⟩ _ (.inl rfl)
  · have hne : a ≠ b := fun e => hl (by rw [e])
    rw [decide_eq_false hne]
    repeat' (first
      | refine Awp.seq ?_
      | refine Awp.block ?_
      | refine Awp.region ?_
      | (refine Ops.nil ?_; show Awp _ _ _ _ _)
      | (refine Ops.nil ?_; show Exists _)
      | (refine Ops.nil ?_; show endK _ _ _ _ _)
      | (refine Awp.skip ?_; show Awp _ _ _ _ _)
      | (refine Awp.skip ?_; show endK _ _ _ _ _)
      | (refine Awp.skip ?_; show Exists _)
      | (refine Awp.exit ?_; show Awp _ _ _ _ _)
      | (refine Awp.exit ?_; show Exists _)
      | (refine Awp.exit ?_; show endK _ _ _ _ _)
      | (refine Awp.ret ?_; show endK _ _ _ _ _)
      | (refine o_add rfl rfl rfl rfl ?_ ?_; omega)
      | refine o_len rfl TtOk rfl rfl rfl (fun _ => ?_)
      | refine o_lenOwn rfl TtOk rfl rfl rfl rfl (fun _ => ?_)
      | (refine o_calm rfl TtOk rfl rfl rfl ?_ (fun _ => ?_); first | exact True.intro | exact ⟨rfl, rfl, rfl, rfl⟩ | exact ⟨rfl, True.intro⟩ | exact ⟨rfl, rfl⟩ | exact ⟨rfl, rfl, rfl⟩ | exact rfl | exact ⟨fun h0 => by cases h0, rfl⟩ | exact (fun h0 => by cases h0) | exact ⟨rfl, by omega⟩ | exact ⟨Nat.succ_ne_zero _, rfl⟩ | omega)
      | (refine o_index rfl TtOk rfl rfl rfl rfl rfl rfl ?_ (getq_nat ?_) ?_; omega; omega)
      | (refine o_indexOwn TtOk rfl rfl rfl rfl rfl rfl rfl rfl _ rfl ?_ (fun bO hbO => ?_); (simp only [List.length_map]; omega))
      | (refine o_loadRow TtOk rfl rfl rfl rfl rfl (by assumption) (getq_map (List.getElem?_eq_getElem ?_)) rfl rfl (by first | exact Nat.add_zero _ | rfl) ⟨rfl, rfl⟩ ?_; omega)
      | (refine o_calm rfl TtOk rfl rfl rfl ?_ (fun _ => ?_); (show List.length _ + List.length _ ≤ 9223372036854775807; (try simp only [List.length_append, List.length_cons, List.length_nil]); omega))
      | (refine o_storeRow TtOk rfl rfl rfl rfl rfl rfl (by assumption) (getq_map (List.getElem?_eq_getElem ?_)) rfl rfl (by first | exact Nat.add_zero _ | rfl) ⟨rfl, rfl⟩ rfl rfl ?_; omega)
      | refine a_condT rfl ?_
      | refine a_condF rfl ?_
      | (refine a_condP rfl (fun hc => ?_) (fun hc => ?_)) <;> (try (exfalso; omega))
      | (refine a_condI rfl (fun hc => ?_) (fun hc => ?_)) <;> (try (exfalso; omega))
      | (refine a_condN rfl (fun hc => ?_) (fun hc => ?_)) <;> (try (exfalso; omega))
      | (refine Awp.cond rfl (fun hc => ?_) (fun hc => ?_))
      | refine a_any 6 [] [] [] [0, 1, 2, 4, 5, 6, 3, 7, 8] (by kernel_rfl) (by kernel_rfl) (by kernel_rfl) rfl rfl rfl ?_)
    exact end_tmp rfl rfl rfl [] [] (CLe.of_eq rfl) .nil ⟨rfl, rfl⟩ _ (.inl rfl)
theorem same11_spec (j : Jb) (h1 : j.fr.length ≤ 1000) (h2 : j.to.length ≤ 1000) : Spec Try.prog 17 [eJ j, eJ j] [] (fun v os => v = .b true ∧ os = []) := by
  refine spec_of TtOk [] Try.func17 rfl Try.ntmps17 (by kernel_rfl) rfl rfl (fun C => ?_) rfl
  have e1 := sameInts_spec j.fr j.fr h1 h1
  have e2 := sameInts_spec j.to j.to h2 h2
  rw [decide_eq_true rfl] at e1 e2
  unfold eJ
  repeat' (first
    | refine Awp.seq ?_
    | refine Awp.region ?_
    | (refine Ops.nil ?_; show Awp _ _ _ _ _)
    | (refine Ops.nil ?_; show Exists _)
    | (refine Ops.nil ?_; show endK _ _ _ _ _)
    | (refine Awp.ret ?_; show endK _ _ _ _ _)
    | refine o_offT rfl rfl rfl (by first | exact .inl rfl | exact .inr rfl) ?_
    | refine o_offU rfl rfl rfl (by first | exact .inl rfl | exact .inr rfl) ?_
    | refine o_offF rfl rfl rfl (by first | exact .inl rfl | exact .inr rfl) ?_
    | (refine o_calm rfl TtOk rfl rfl rfl ?_ (fun _ => ?_); first | exact True.intro | exact ⟨rfl, rfl, rfl, rfl⟩ | exact ⟨rfl, True.intro⟩ | exact ⟨rfl, rfl⟩ | exact ⟨rfl, rfl, rfl⟩ | exact rfl | exact ⟨fun h0 => by cases h0, rfl⟩ | exact (fun h0 => by cases h0) | exact ⟨rfl, by omega⟩ | exact ⟨Nat.succ_ne_zero _, rfl⟩ | omega)
    | refine o_box rfl rfl rfl rfl (fun _ => ?_)
    | refine o_eqNil TtOk rfl rfl rfl rfl rfl ?_
    | refine o_eqArr8 TtOk rfl rfl rfl rfl rfl rfl (by kernel_rfl) ?_
    | (fail_if_success (refine o_isLit rfl (by first | exact .inl rfl | exact .inr rfl) ?_)); (refine o_splitP rfl rfl (fun hc => ?_) (fun hc => ?_) <;> try (exfalso; omega))
    | (fail_if_success (refine o_isLit rfl (by first | exact .inl rfl | exact .inr rfl) ?_)); (refine o_splitI rfl rfl (fun hc => ?_) (fun hc => ?_) <;> try (exfalso; omega))
    | (fail_if_success (refine o_isLit rfl (by first | exact .inl rfl | exact .inr rfl) ?_)); (refine o_splitN rfl rfl (fun hc => ?_) (fun hc => ?_) <;> try (exfalso; omega))
    | (fail_if_success (refine o_isLit rfl (by first | exact .inl rfl | exact .inr rfl) ?_)); (refine o_split rfl rfl (fun hc => ?_) (fun hc => ?_))
    | (refine o_call0 rfl (e1) ⟨SLe.of_eq rfl, SLe.of_eq rfl, True.intro⟩ rfl ?_; rintro _ _ ⟨rfl, rfl⟩; refine ⟨rfl, ?_⟩)
    | (refine o_call0 rfl (e2) ⟨SLe.of_eq rfl, SLe.of_eq rfl, True.intro⟩ rfl ?_; rintro _ _ ⟨rfl, rfl⟩; refine ⟨rfl, ?_⟩))
  all_goals exact end_tmp rfl rfl rfl [] [] (CLe.of_eq rfl) .nil ⟨rfl, rfl⟩ _ (.inl rfl)
theorem among_spec (l : List Int) (n : Int) (hl : l.length ≤ 100000) : Spec Try.prog 12 [.sl 1 (l.map (AV.i .i64)), .i .i64 n] [] (fun v os => v = .b (l.contains n) ∧ os = []) := by
  refine spec_of TtOk [] Try.func12 rfl Try.ntmps12 (by kernel_rfl) rfl rfl (fun C => ?_) rfl
  repeat' (first
    | refine Awp.seq ?_
    | refine Awp.block ?_
    | refine Awp.region ?_
    | (refine Ops.nil ?_; show Awp _ _ _ _ _)
    | (refine Ops.nil ?_; show Exists _)
    | (refine Ops.nil ?_; show endK _ _ _ _ _)
    | (refine Awp.skip ?_; show Awp _ _ _ _ _)
    | (refine Awp.skip ?_; show endK _ _ _ _ _)
    | (refine Awp.skip ?_; show Exists _)
    | (refine Awp.exit ?_; show Awp _ _ _ _ _)
    | (refine Awp.exit ?_; show Exists _)
    | (refine Awp.exit ?_; show endK _ _ _ _ _)
    | (refine Awp.ret ?_; show endK _ _ _ _ _)
    | (refine o_add rfl rfl rfl rfl ?_ ?_; omega)
    | refine o_len rfl TtOk rfl rfl rfl (fun _ => ?_)
    | refine o_lenOwn rfl TtOk rfl rfl rfl rfl (fun _ => ?_)
    | (refine o_calm rfl TtOk rfl rfl rfl ?_ (fun _ => ?_); first | exact True.intro | exact ⟨rfl, rfl, rfl, rfl⟩ | exact ⟨rfl, True.intro⟩ | exact ⟨rfl, rfl⟩ | exact ⟨rfl, rfl, rfl⟩ | exact rfl | exact ⟨fun h0 => by cases h0, rfl⟩ | exact (fun h0 => by cases h0) | exact ⟨rfl, by omega⟩ | exact ⟨Nat.succ_ne_zero _, rfl⟩ | omega)
    | (refine o_index rfl TtOk rfl rfl rfl rfl rfl rfl ?_ (getq_nat ?_) ?_; omega; omega)
    | (refine o_indexOwn TtOk rfl rfl rfl rfl rfl rfl rfl rfl _ rfl ?_ (fun bO hbO => ?_); (simp only [List.length_map]; omega))
    | (refine o_loadRow TtOk rfl rfl rfl rfl rfl (by assumption) (getq_map (List.getElem?_eq_getElem ?_)) rfl rfl (by first | exact Nat.add_zero _ | rfl) ⟨rfl, rfl⟩ ?_; omega)
    | (refine o_calm rfl TtOk rfl rfl rfl ?_ (fun _ => ?_); (show List.length _ + List.length _ ≤ 9223372036854775807; (try simp only [List.length_append, List.length_cons, List.length_nil]); omega))
    | (refine o_storeRow TtOk rfl rfl rfl rfl rfl rfl (by assumption) (getq_map (List.getElem?_eq_getElem ?_)) rfl rfl (by first | exact Nat.add_zero _ | rfl) ⟨rfl, rfl⟩ rfl rfl ?_; omega)
    | refine o_eqNil TtOk rfl rfl rfl rfl rfl ?_
    | refine o_eqArr8 TtOk rfl rfl rfl rfl rfl rfl (by kernel_rfl) ?_
    | refine a_condT rfl ?_
    | refine a_condF rfl ?_
    | (refine a_condP rfl (fun hc => ?_) (fun hc => ?_)) <;> (try (exfalso; omega))
    | (refine a_condI rfl (fun hc => ?_) (fun hc => ?_)) <;> (try (exfalso; omega))
    | (refine a_condN rfl (fun hc => ?_) (fun hc => ?_)) <;> (try (exfalso; omega))
    | (refine Awp.cond rfl (fun hc => ?_) (fun hc => ?_)))
  refine Awp.loop (fun q : Nat => ⟨17, [(9, .i .i64 q), (8, .i .i64 l.length), (7, .sl 1 (l.map (AV.i .i64))), (1, .i .i64 n)], []⟩) (fun q => q ≤ l.length ∧ ∀ j (h : j < l.length), j < q → l[j] ≠ n) (fun q => l.length - q) [] 0 ⟨Nat.zero_le _, fun _ _ h => absurd h (Nat.not_lt_zero _)⟩ ?_ ?_
  · exact ⟨rfl, ⟨sle_i rfl, sle_i rfl, sle_sl rfl, sle_i rfl, True.intro⟩, .nil⟩
  rintro i ⟨hi, hno⟩
  by_cases hlt : i < l.length
  · repeat' (first
      | refine Awp.seq ?_
      | refine Awp.block ?_
      | refine Awp.region ?_
      | (refine Ops.nil ?_; show Awp _ _ _ _ _)
      | (refine Ops.nil ?_; show Exists _)
      | (refine Ops.nil ?_; show endK _ _ _ _ _)
      | (refine Awp.skip ?_; show Awp _ _ _ _ _)
      | (refine Awp.skip ?_; show endK _ _ _ _ _)
      | (refine Awp.skip ?_; show Exists _)
      | (refine Awp.exit ?_; show Awp _ _ _ _ _)
      | (refine Awp.exit ?_; show Exists _)
      | (refine Awp.exit ?_; show endK _ _ _ _ _)
      | (refine Awp.ret ?_; show endK _ _ _ _ _)
      | (refine o_add rfl rfl rfl rfl ?_ ?_; omega)
      | refine o_len rfl TtOk rfl rfl rfl (fun _ => ?_)
      | refine o_lenOwn rfl TtOk rfl rfl rfl rfl (fun _ => ?_)
      | (refine o_calm rfl TtOk rfl rfl rfl ?_ (fun _ => ?_); first | exact True.intro | exact ⟨rfl, rfl, rfl, rfl⟩ | exact ⟨rfl, True.intro⟩ | exact ⟨rfl, rfl⟩ | exact ⟨rfl, rfl, rfl⟩ | exact rfl | exact ⟨fun h0 => by cases h0, rfl⟩ | exact (fun h0 => by cases h0) | exact ⟨rfl, by omega⟩ | exact ⟨Nat.succ_ne_zero _, rfl⟩ | omega)
      | (refine o_index rfl TtOk rfl rfl rfl rfl rfl rfl ?_ (getq_nat ?_) ?_; omega; omega)
      | (refine o_indexOwn TtOk rfl rfl rfl rfl rfl rfl rfl rfl _ rfl ?_ (fun bO hbO => ?_); (simp only [List.length_map]; omega))
      | (refine o_loadRow TtOk rfl rfl rfl rfl rfl (by assumption) (getq_map (List.getElem?_eq_getElem ?_)) rfl rfl (by first | exact Nat.add_zero _ | rfl) ⟨rfl, rfl⟩ ?_; omega)
      | (refine o_calm rfl TtOk rfl rfl rfl ?_ (fun _ => ?_); (show List.length _ + List.length _ ≤ 9223372036854775807; (try simp only [List.length_append, List.length_cons, List.length_nil]); omega))
      | (refine o_storeRow TtOk rfl rfl rfl rfl rfl rfl (by assumption) (getq_map (List.getElem?_eq_getElem ?_)) rfl rfl (by first | exact Nat.add_zero _ | rfl) ⟨rfl, rfl⟩ rfl rfl ?_; omega)
      | refine o_eqNil TtOk rfl rfl rfl rfl rfl ?_
      | refine o_eqArr8 TtOk rfl rfl rfl rfl rfl rfl (by kernel_rfl) ?_
      | refine a_condT rfl ?_
      | refine a_condF rfl ?_
      | (refine a_condP rfl (fun hc => ?_) (fun hc => ?_)) <;> (try (exfalso; omega))
      | (refine a_condI rfl (fun hc => ?_) (fun hc => ?_)) <;> (try (exfalso; omega))
      | (refine a_condN rfl (fun hc => ?_) (fun hc => ?_)) <;> (try (exfalso; omega))
      | (refine Awp.cond rfl (fun hc => ?_) (fun hc => ?_)))
    · have hm : l.contains n = true := by rw [List.contains_iff_mem, ← hc]; exact List.getElem_mem _
      rw [hm]
      exact end_tmp rfl rfl rfl [] [] (CLe.of_eq rfl) .nil ⟨rfl, rfl⟩ _ (.inl rfl)
    · exact ⟨i + 1, [], ⟨hlt, fun j h hj => by
        rcases Nat.lt_succ_iff_lt_or_eq.1 hj with h2 | rfl
        · exact hno j h h2
        · exact hc⟩, by show l.length - (i + 1) < l.length - i; omega, rfl, ⟨sle_i rfl, sle_i rfl, sle_sl rfl, sle_i rfl, True.intro⟩, .nil⟩
  · have hm : l.contains n = false := by
      rw [← Bool.not_eq_true, List.contains_iff_mem]
      intro h
      obtain ⟨j, hj, hje⟩ := List.getElem_of_mem h
      exact hno j hj (by omega) hje
    rw [hm]
    repeat' (first
      | refine Awp.seq ?_
      | refine Awp.block ?_
      | refine Awp.region ?_
      | (refine Ops.nil ?_; show Awp _ _ _ _ _)
      | (refine Ops.nil ?_; show Exists _)
      | (refine Ops.nil ?_; show endK _ _ _ _ _)
      | (refine Awp.skip ?_; show Awp _ _ _ _ _)
      | (refine Awp.skip ?_; show endK _ _ _ _ _)
      | (refine Awp.skip ?_; show Exists _)
      | (refine Awp.exit ?_; show Awp _ _ _ _ _)
      | (refine Awp.exit ?_; show Exists _)
      | (refine Awp.exit ?_; show endK _ _ _ _ _)
      | (refine Awp.ret ?_; show endK _ _ _ _ _)
      | (refine o_add rfl rfl rfl rfl ?_ ?_; omega)
      | refine o_len rfl TtOk rfl rfl rfl (fun _ => ?_)
      | refine o_lenOwn rfl TtOk rfl rfl rfl rfl (fun _ => ?_)
      | (refine o_calm rfl TtOk rfl rfl rfl ?_ (fun _ => ?_); first | exact True.intro | exact ⟨rfl, rfl, rfl, rfl⟩ | exact ⟨rfl, True.intro⟩ | exact ⟨rfl, rfl⟩ | exact ⟨rfl, rfl, rfl⟩ | exact rfl | exact ⟨fun h0 => by cases h0, rfl⟩ | exact (fun h0 => by cases h0) | exact ⟨rfl, by omega⟩ | exact ⟨Nat.succ_ne_zero _, rfl⟩ | omega)
      | (refine o_index rfl TtOk rfl rfl rfl rfl rfl rfl ?_ (getq_nat ?_) ?_; omega; omega)
      | (refine o_indexOwn TtOk rfl rfl rfl rfl rfl rfl rfl rfl _ rfl ?_ (fun bO hbO => ?_); (simp only [List.length_map]; omega))
      | (refine o_loadRow TtOk rfl rfl rfl rfl rfl (by assumption) (getq_map (List.getElem?_eq_getElem ?_)) rfl rfl (by first | exact Nat.add_zero _ | rfl) ⟨rfl, rfl⟩ ?_; omega)
      | (refine o_calm rfl TtOk rfl rfl rfl ?_ (fun _ => ?_); (show List.length _ + List.length _ ≤ 9223372036854775807; (try simp only [List.length_append, List.length_cons, List.length_nil]); omega))
      | (refine o_storeRow TtOk rfl rfl rfl rfl rfl rfl (by assumption) (getq_map (List.getElem?_eq_getElem ?_)) rfl rfl (by first | exact Nat.add_zero _ | rfl) ⟨rfl, rfl⟩ rfl rfl ?_; omega)
      | refine o_eqNil TtOk rfl rfl rfl rfl rfl ?_
      | refine o_eqArr8 TtOk rfl rfl rfl rfl rfl rfl (by kernel_rfl) ?_
      | refine a_condT rfl ?_
      | refine a_condF rfl ?_
      | (refine a_condP rfl (fun hc => ?_) (fun hc => ?_)) <;> (try (exfalso; omega))
      | (refine a_condI rfl (fun hc => ?_) (fun hc => ?_)) <;> (try (exfalso; omega))
      | (refine a_condN rfl (fun hc => ?_) (fun hc => ?_)) <;> (try (exfalso; omega))
      | (refine Awp.cond rfl (fun hc => ?_) (fun hc => ?_)))
    exact end_tmp rfl rfl rfl [] [] (CLe.of_eq rfl) .nil ⟨rfl, rfl⟩ _ (.inl rfl)
def awS : Stt := ⟨4, 0, [⟨3, 0, 0, [97], [99]⟩, ⟨2, 0, 0, [98], [102]⟩, ⟨1, 1, 0, [101], [107]⟩]⟩
def awJ : Jb := ⟨0, [3, 2], [1]⟩
theorem aw_pick : pickF awS 2 100 = (awJ, true) := by kernel_rfl
theorem aw_check : lcheck awS = 0 := by kernel_rfl
theorem aw_last : lastF awS.fs awJ = true := by kernel_rfl
theorem awake11_spec : Spec Try.prog 11 [] [] (fun v os => v = .b true ∧ os = []) := by
  refine spec_of TtOk [] Try.func11 rfl Try.ntmps11 (by kernel_rfl) rfl rfl (fun C => ?_) rfl
  have h1 := pick_spec awS 2 100 (by decide)
  rw [aw_pick] at h1
  have h2 := lcheck_spec awS
  rw [aw_check] at h2
  have h3 := last_spec awS awJ (by decide) (by decide) (by decide) (by decide)
  rw [aw_last] at h3
  have h4 := sameInts_spec [3, 2] [3, 2] (by decide) (by decide)
  have h5 := sameInts_spec [1] [1] (by decide) (by decide)
  rw [decide_eq_true rfl] at h4 h5
  repeat' (first
    | refine Awp.seq ?_
    | refine Awp.region ?_
    | (refine Ops.nil ?_; show Awp _ _ _ _ _)
    | (refine Ops.nil ?_; show Exists _)
    | (refine Ops.nil ?_; show endK _ _ _ _ _)
    | (refine Awp.ret ?_; show endK _ _ _ _ _)
    | refine o_offT rfl rfl rfl (by first | exact .inl rfl | exact .inr rfl) ?_
    | refine o_offU rfl rfl rfl (by first | exact .inl rfl | exact .inr rfl) ?_
    | refine o_offF rfl rfl rfl (by first | exact .inl rfl | exact .inr rfl) ?_
    | (refine o_calm rfl TtOk rfl rfl rfl ?_ (fun _ => ?_); first | exact True.intro | exact ⟨rfl, rfl, rfl, rfl⟩ | exact ⟨rfl, True.intro⟩ | exact ⟨rfl, rfl⟩ | exact ⟨rfl, rfl, rfl⟩ | exact rfl | exact ⟨fun h0 => by cases h0, rfl⟩ | exact (fun h0 => by cases h0) | exact ⟨rfl, by omega⟩ | exact ⟨Nat.succ_ne_zero _, rfl⟩ | omega)
    | refine o_alloc (d := 1) rfl TtOk rfl rfl rfl (fun b1 => ?_)
    | refine o_alloc (d := 2) rfl TtOk rfl rfl rfl (fun b2 => ?_)
    | refine o_store TtOk rfl rfl rfl rfl rfl rfl rfl ⟨rfl, rfl⟩ rfl rfl rfl rfl rfl ?_
    | refine o_build TtOk rfl rfl rfl rfl rfl rfl (by repeat' (first | exact True.intro | exact rfl | refine ⟨?_, ?_⟩)) ?_
    | refine o_buildArr0 TtOk rfl rfl rfl rfl ?_
    | refine o_buildSlice TtOk rfl rfl rfl rfl rfl rfl rfl rfl rfl rfl rfl (by repeat' (first | exact True.intro | exact rfl | refine ⟨?_, ?_⟩)) (fun _ => ?_)
    | refine o_eqNil TtOk rfl rfl rfl rfl rfl ?_
    | refine o_eqArr8 TtOk rfl rfl rfl rfl rfl rfl (by kernel_rfl) ?_
    | (fail_if_success (refine o_isLit rfl (by first | exact .inl rfl | exact .inr rfl) ?_)); (refine o_splitP rfl rfl (fun hc => ?_) (fun hc => ?_) <;> try (exfalso; omega))
    | (fail_if_success (refine o_isLit rfl (by first | exact .inl rfl | exact .inr rfl) ?_)); (refine o_splitI rfl rfl (fun hc => ?_) (fun hc => ?_) <;> try (exfalso; omega))
    | (fail_if_success (refine o_isLit rfl (by first | exact .inl rfl | exact .inr rfl) ?_)); (refine o_splitN rfl rfl (fun hc => ?_) (fun hc => ?_) <;> try (exfalso; omega))
    | (fail_if_success (refine o_isLit rfl (by first | exact .inl rfl | exact .inr rfl) ?_)); (refine o_split rfl rfl (fun hc => ?_) (fun hc => ?_)))
  refine Ops.weaken [7] (S' := ⟨43, [(11, .agg [.i .i64 2, .i .i64 100]), (10, eSt awS), (1, .ptr 1 b1 [] 0), (0, .b false)], [(1, .var b1 (eSt awS))]⟩) ⟨rfl, ⟨SLe.of_eq rfl, SLe.of_cle (CLe.agg (.cons (CLe.refl _) (.cons (CLe.refl _) (.cons (CLe.fz (.head _)) .nil)))) rfl, sle_ptr, SLe.of_eq rfl, True.intro⟩, HLe.cons 1 rfl (HOLe.var (CLe.agg (.cons (CLe.refl _) (.cons (CLe.refl _) (.cons (CLe.fz (.head _)) .nil))))) .nil⟩ ?_
  repeat' (first
    | refine Awp.seq ?_
    | refine Awp.region ?_
    | (refine Ops.nil ?_; show Awp _ _ _ _ _)
    | (refine Ops.nil ?_; show Exists _)
    | (refine Ops.nil ?_; show endK _ _ _ _ _)
    | (refine Awp.ret ?_; show endK _ _ _ _ _)
    | refine o_offT rfl rfl rfl (by first | exact .inl rfl | exact .inr rfl) ?_
    | refine o_offU rfl rfl rfl (by first | exact .inl rfl | exact .inr rfl) ?_
    | refine o_offF rfl rfl rfl (by first | exact .inl rfl | exact .inr rfl) ?_
    | (refine o_calm rfl TtOk rfl rfl rfl ?_ (fun _ => ?_); first | exact True.intro | exact ⟨rfl, rfl, rfl, rfl⟩ | exact ⟨rfl, True.intro⟩ | exact ⟨rfl, rfl⟩ | exact ⟨rfl, rfl, rfl⟩ | exact rfl | exact ⟨fun h0 => by cases h0, rfl⟩ | exact (fun h0 => by cases h0) | exact ⟨rfl, by omega⟩ | exact ⟨Nat.succ_ne_zero _, rfl⟩ | omega)
    | refine o_alloc (d := 1) rfl TtOk rfl rfl rfl (fun b1 => ?_)
    | refine o_alloc (d := 2) rfl TtOk rfl rfl rfl (fun b2 => ?_)
    | refine o_store TtOk rfl rfl rfl rfl rfl rfl rfl ⟨rfl, rfl⟩ rfl rfl rfl rfl rfl ?_
    | refine o_build TtOk rfl rfl rfl rfl rfl rfl (by repeat' (first | exact True.intro | exact rfl | refine ⟨?_, ?_⟩)) ?_
    | refine o_buildArr0 TtOk rfl rfl rfl rfl ?_
    | refine o_buildSlice TtOk rfl rfl rfl rfl rfl rfl rfl rfl rfl rfl rfl (by repeat' (first | exact True.intro | exact rfl | refine ⟨?_, ?_⟩)) (fun _ => ?_)
    | refine o_eqNil TtOk rfl rfl rfl rfl rfl ?_
    | refine o_eqArr8 TtOk rfl rfl rfl rfl rfl rfl (by kernel_rfl) ?_
    | (fail_if_success (refine o_isLit rfl (by first | exact .inl rfl | exact .inr rfl) ?_)); (refine o_splitP rfl rfl (fun hc => ?_) (fun hc => ?_) <;> try (exfalso; omega))
    | (fail_if_success (refine o_isLit rfl (by first | exact .inl rfl | exact .inr rfl) ?_)); (refine o_splitI rfl rfl (fun hc => ?_) (fun hc => ?_) <;> try (exfalso; omega))
    | (fail_if_success (refine o_isLit rfl (by first | exact .inl rfl | exact .inr rfl) ?_)); (refine o_splitN rfl rfl (fun hc => ?_) (fun hc => ?_) <;> try (exfalso; omega))
    | (fail_if_success (refine o_isLit rfl (by first | exact .inl rfl | exact .inr rfl) ?_)); (refine o_split rfl rfl (fun hc => ?_) (fun hc => ?_))
    | (refine o_call0 rfl (h1) ⟨SLe.of_eq rfl, SLe.of_eq rfl, True.intro⟩ rfl ?_; rintro _ _ ⟨rfl, rfl⟩; refine ⟨rfl, ?_⟩)
    | (refine o_call0 rfl (h2) ⟨SLe.of_eq rfl, True.intro⟩ rfl ?_; rintro _ _ ⟨rfl, rfl⟩; refine ⟨rfl, ?_⟩)
    | (refine o_call0 rfl (h3) ⟨SLe.of_eq rfl, SLe.of_eq rfl, True.intro⟩ rfl ?_; rintro _ _ ⟨rfl, rfl⟩; refine ⟨rfl, ?_⟩)
    | (refine o_callL rfl (h4) rfl ⟨SLe.of_eq rfl, SLe.of_cle (CLe.fz (.head _)) rfl, True.intro⟩ rfl ?_; rintro _ _ ⟨rfl, rfl⟩; refine ⟨rfl, rfl, ?_⟩)
    | (refine o_callL rfl (h5) rfl ⟨SLe.of_eq rfl, SLe.of_cle (CLe.fz (.head _)) rfl, True.intro⟩ rfl ?_; rintro _ _ ⟨rfl, rfl⟩; refine ⟨rfl, rfl, ?_⟩))
  all_goals exact end_tmp rfl rfl rfl [] [] (CLe.of_eq rfl) .nil ⟨rfl, rfl⟩ _ (.inl rfl)
end Go.Proofs.Ytnmnhnlebkebfaa
