/- ref11.Last, level.Whole, ref11.Whole by rules. -/
import Derived.Test.YtnmnhnlebkebfaaL8
import Derived.Test.YtnmnhnlebkebfaaL3
set_option maxHeartbeats 8000000
set_option maxRecDepth 100000
namespace Go.Proofs.Ytnmnhnlebkebfaa
open Go Go.RowKit
theorem rlast_spec (s : Stt) (j : Jb) (hl : s.fs.length ≤ 1000) (h1 : j.fr.length ≤ 100000) (h2 : j.to.length ≤ 100000) (hj : -10 ≤ j.lev ∧ j.lev ≤ 10) (hlv : ∀ f ∈ s.fs, f.lev ≤ 9223372036854775807) : Spec Try.prog 19 [eSt s, eJ j] [] (fun v os => v = .b (lastF s.fs j) ∧ os = []) := by
  refine spec_of TtOk [] Try.func19 rfl Try.ntmps19 (by kernel_rfl) rfl rfl (fun C => ?_) rfl
  have hla : lastF s.fs j = if (mineF s.fs j).length = 0 then false else !((belowF s.fs (j.lev + 1)).any (meetsF (spanH (mineF s.fs j)))) := rfl
  generalize lastF s.fs j = r at hla ⊢
  unfold eSt eJ at *
  repeat' (first
    | refine Awp.seq ?_
    | refine Awp.block ?_
    | refine Awp.region ?_
    | (refine Ops.nil ?_; show Awp _ _ _ _ _)
    | (refine Ops.nil ?_; show Exists _)
    | (refine Ops.nil ?_; show endK _ _ _ _ _)
    | (refine Awp.skip ?_; show Awp _ _ _ _ _)
    | (refine Awp.skip ?_; show endK _ _ _ _ _)
    | (refine Awp.skip ?_; show Exists _)
    | (refine Awp.exit ?_; show Awp _ _ _ _ _)
    | (refine Awp.exit ?_; show Exists _)
    | (refine Awp.exit ?_; show endK _ _ _ _ _)
    | (refine Awp.ret ?_; show endK _ _ _ _ _)
    | refine o_offT rfl rfl rfl (by first | exact .inl rfl | exact .inr rfl) ?_
    | refine o_offU rfl rfl rfl (by first | exact .inl rfl | exact .inr rfl) ?_
    | refine o_offF rfl rfl rfl (by first | exact .inl rfl | exact .inr rfl) ?_
    | (refine o_add rfl rfl rfl rfl ?_ ?_; omega)
    | (refine o_sub rfl rfl rfl rfl ?_ ?_; omega)
    | refine o_len rfl TtOk rfl rfl rfl (fun _ => ?_)
    | refine o_lenOwn rfl TtOk rfl rfl rfl rfl (fun _ => ?_)
    | (refine o_calm rfl TtOk rfl rfl rfl ?_ (fun _ => ?_); first | exact True.intro | exact ⟨rfl, rfl, rfl, rfl⟩ | exact ⟨rfl, True.intro⟩ | exact ⟨rfl, rfl⟩ | exact ⟨rfl, rfl, rfl⟩ | exact rfl | exact ⟨fun h0 => by cases h0, rfl⟩ | exact (fun h0 => by cases h0) | exact ⟨rfl, by omega⟩ | exact ⟨Nat.succ_ne_zero _, rfl⟩ | omega)
    | refine o_alloc (d := 7) rfl TtOk rfl rfl rfl (fun b7 => ?_)
    | refine o_alloc (d := 9) rfl TtOk rfl rfl rfl (fun b9 => ?_)
    | refine o_box (d := 2) rfl rfl rfl rfl (fun b2 => ?_)
    | refine o_box (d := 3) rfl rfl rfl rfl (fun b3 => ?_)
    | refine o_store TtOk rfl rfl rfl rfl rfl rfl rfl ⟨rfl, rfl⟩ rfl rfl rfl rfl rfl ?_
    | (refine o_index rfl TtOk rfl rfl rfl rfl rfl rfl ?_ (getq_nat ?_) ?_; omega; omega)
    | (refine o_indexOwn TtOk rfl rfl rfl rfl rfl rfl rfl rfl _ rfl ?_ (fun bO hbO => ?_); (simp only [List.length_map]; omega))
    | (refine o_loadRow TtOk rfl rfl rfl rfl rfl (by assumption) (getq_map (List.getElem?_eq_getElem ?_)) rfl rfl (by first | exact Nat.add_zero _ | rfl) ⟨rfl, rfl⟩ ?_; omega)
    | (refine o_calm rfl TtOk rfl rfl rfl ?_ (fun _ => ?_); (show List.length _ + List.length _ ≤ 9223372036854775807; (try simp only [List.length_append, List.length_cons, List.length_nil]); omega))
    | (refine o_storeRow TtOk rfl rfl rfl rfl rfl rfl (by assumption) (getq_map (List.getElem?_eq_getElem ?_)) rfl rfl (by first | exact Nat.add_zero _ | rfl) ⟨rfl, rfl⟩ rfl rfl ?_; omega)
    | refine o_buildSlice TtOk rfl rfl rfl rfl rfl rfl rfl rfl rfl rfl rfl (by repeat' (first | exact True.intro | exact rfl | refine ⟨?_, ?_⟩)) (fun _ => ?_)
    | (refine o_append TtOk rfl rfl rfl rfl rfl rfl rfl rfl rfl (by first | exact True.intro | exact rfl) rfl rfl (fun _ => rfl) ?_ ?_ (fun _ => ?_); (simp only [List.length_map, List.length_cons, List.length_nil, List.length_append, List.length_take, List.length_drop]; omega); (simp only [List.length_map, List.length_cons, List.length_nil, List.length_append, List.length_take, List.length_drop]; omega))
    | (refine o_appendStr TtOk rfl rfl rfl rfl rfl rfl rfl rfl rfl (fun _ => rfl) ?_ (fun _ => ?_); (simp only [List.length_map, List.length_cons, List.length_nil, List.length_append, List.length_take, List.length_drop]; omega))
    | refine o_eqNil TtOk rfl rfl rfl rfl rfl ?_
    | refine o_eqArr8 TtOk rfl rfl rfl rfl rfl rfl (by kernel_rfl) ?_
    | (fail_if_success (refine o_isLit rfl (by first | exact .inl rfl | exact .inr rfl) ?_)); (refine o_splitP rfl rfl (fun hc => ?_) (fun hc => ?_) <;> try (exfalso; omega))
    | (fail_if_success (refine o_isLit rfl (by first | exact .inl rfl | exact .inr rfl) ?_)); (refine o_splitI rfl rfl (fun hc => ?_) (fun hc => ?_) <;> try (exfalso; omega))
    | (fail_if_success (refine o_isLit rfl (by first | exact .inl rfl | exact .inr rfl) ?_)); (refine o_splitN rfl rfl (fun hc => ?_) (fun hc => ?_) <;> try (exfalso; omega))
    | (fail_if_success (refine o_isLit rfl (by first | exact .inl rfl | exact .inr rfl) ?_)); (refine o_split rfl rfl (fun hc => ?_) (fun hc => ?_))
    | refine a_condT rfl ?_
    | refine a_condF rfl ?_
    | (refine a_condP rfl (fun hc => ?_) (fun hc => ?_)) <;> (try (exfalso; omega))
    | (refine a_condI rfl (fun hc => ?_) (fun hc => ?_)) <;> (try (exfalso; omega))
    | (refine a_condN rfl (fun hc => ?_) (fun hc => ?_)) <;> (try (exfalso; omega))
    | (refine Awp.cond rfl (fun hc => ?_) (fun hc => ?_))
    | refine a_any 13 [] [] [] [0, 2, 1, 3, 4, 5, 6, 9, 7, 8, 10, 11, 12, 13, 14, 16, 15, 17, 18] (by kernel_rfl) (by kernel_rfl) (by kernel_rfl) rfl rfl rfl ?_)
  rename_i v10 _ _ _ _ _
  refine Awp.loop (fun q : Nat × Value => ⟨65, [(14, .i .i64 q.1), (13, .i .i64 s.fs.length), (12, .sl 5 (s.fs.map eF)), (5, .own 10 q.2), (2, .ptr 2 b2 [] 0), (3, .ptr 3 b3 [] 0)], [(10, .row q.2 79 5 ((mineF (s.fs.take q.1) j).map eF)), (3, .var b3 (.agg [.i .i64 j.lev, .sl 1 (j.fr.map (AV.i .i64)), .sl 1 (j.to.map (AV.i .i64))])), (2, .var b2 (.agg [.i .i64 s.next, .i .i64 s.log, .sl 5 (s.fs.map eF)]))]⟩) (fun q => q.1 ≤ s.fs.length) (fun q => s.fs.length - q.1) [] (0, v10) (Nat.zero_le _) ?_ ?_
  · exact ⟨rfl, ⟨sle_i rfl, sle_i rfl, sle_sl rfl, sle_own, sle_ptr, sle_ptr, True.intro⟩, HLe.cons 10 rfl (HOLe.refl _) (HLe.cons 3 rfl (HOLe.refl _) (HLe.cons 2 rfl (HOLe.refl _) .nil))⟩
  rintro ⟨i, v⟩ hi
  dsimp only at hi ⊢
  by_cases hlt : i < s.fs.length
  · have hst := mineF_step s.fs j i hlt
    have hfl := mineF_len (s.fs.take i) j
    rw [List.length_take] at hfl
    have hc1 := in_spec j.fr s.fs[i].num h1
    have hc2 := in_spec j.to s.fs[i].num h2
    generalize mineF (s.fs.take i) j = out at hst hfl ⊢
    generalize hb1 : j.fr.contains s.fs[i].num = c1 at hst hc1
    generalize hb2 : j.to.contains s.fs[i].num = c2 at hst hc2
    cases c1 with
    | true =>
      repeat' (first
        | refine Awp.seq ?_
        | refine Awp.block ?_
        | refine Awp.region ?_
        | (refine Ops.nil ?_; show Awp _ _ _ _ _)
        | (refine Ops.nil ?_; show Exists _)
        | (refine Ops.nil ?_; show endK _ _ _ _ _)
        | (refine Awp.skip ?_; show Awp _ _ _ _ _)
        | (refine Awp.skip ?_; show endK _ _ _ _ _)
        | (refine Awp.skip ?_; show Exists _)
        | (refine Awp.exit ?_; show Awp _ _ _ _ _)
        | (refine Awp.exit ?_; show Exists _)
        | (refine Awp.exit ?_; show endK _ _ _ _ _)
        | (refine Awp.ret ?_; show endK _ _ _ _ _)
        | refine o_offT rfl rfl rfl (by first | exact .inl rfl | exact .inr rfl) ?_
        | refine o_offU rfl rfl rfl (by first | exact .inl rfl | exact .inr rfl) ?_
        | refine o_offF rfl rfl rfl (by first | exact .inl rfl | exact .inr rfl) ?_
        | (refine o_add rfl rfl rfl rfl ?_ ?_; omega)
        | (refine o_sub rfl rfl rfl rfl ?_ ?_; omega)
        | refine o_len rfl TtOk rfl rfl rfl (fun _ => ?_)
        | refine o_lenOwn rfl TtOk rfl rfl rfl rfl (fun _ => ?_)
        | (refine o_calm rfl TtOk rfl rfl rfl ?_ (fun _ => ?_); first | exact True.intro | exact ⟨rfl, rfl, rfl, rfl⟩ | exact ⟨rfl, True.intro⟩ | exact ⟨rfl, rfl⟩ | exact ⟨rfl, rfl, rfl⟩ | exact rfl | exact ⟨fun h0 => by cases h0, rfl⟩ | exact (fun h0 => by cases h0) | exact ⟨rfl, by omega⟩ | exact ⟨Nat.succ_ne_zero _, rfl⟩ | omega)
        | refine o_alloc (d := 7) rfl TtOk rfl rfl rfl (fun b7 => ?_)
        | refine o_alloc (d := 9) rfl TtOk rfl rfl rfl (fun b9 => ?_)
        | refine o_box (d := 2) rfl rfl rfl rfl (fun b2 => ?_)
        | refine o_box (d := 3) rfl rfl rfl rfl (fun b3 => ?_)
        | refine o_store TtOk rfl rfl rfl rfl rfl rfl rfl ⟨rfl, rfl⟩ rfl rfl rfl rfl rfl ?_
        | (refine o_index rfl TtOk rfl rfl rfl rfl rfl rfl ?_ (getq_nat ?_) ?_; omega; omega)
        | (refine o_indexOwn TtOk rfl rfl rfl rfl rfl rfl rfl rfl _ rfl ?_ (fun bO hbO => ?_); (simp only [List.length_map]; omega))
        | (refine o_loadRow TtOk rfl rfl rfl rfl rfl (by assumption) (getq_map (List.getElem?_eq_getElem ?_)) rfl rfl (by first | exact Nat.add_zero _ | rfl) ⟨rfl, rfl⟩ ?_; omega)
        | (refine o_calm rfl TtOk rfl rfl rfl ?_ (fun _ => ?_); (show List.length _ + List.length _ ≤ 9223372036854775807; (try simp only [List.length_append, List.length_cons, List.length_nil]); omega))
        | (refine o_storeRow TtOk rfl rfl rfl rfl rfl rfl (by assumption) (getq_map (List.getElem?_eq_getElem ?_)) rfl rfl (by first | exact Nat.add_zero _ | rfl) ⟨rfl, rfl⟩ rfl rfl ?_; omega)
        | refine o_buildSlice TtOk rfl rfl rfl rfl rfl rfl rfl rfl rfl rfl rfl (by repeat' (first | exact True.intro | exact rfl | refine ⟨?_, ?_⟩)) (fun _ => ?_)
        | (refine o_append TtOk rfl rfl rfl rfl rfl rfl rfl rfl rfl (by first | exact True.intro | exact rfl) rfl rfl (fun _ => rfl) ?_ ?_ (fun _ => ?_); (simp only [List.length_map, List.length_cons, List.length_nil, List.length_append, List.length_take, List.length_drop]; omega); (simp only [List.length_map, List.length_cons, List.length_nil, List.length_append, List.length_take, List.length_drop]; omega))
        | (refine o_appendStr TtOk rfl rfl rfl rfl rfl rfl rfl rfl rfl (fun _ => rfl) ?_ (fun _ => ?_); (simp only [List.length_map, List.length_cons, List.length_nil, List.length_append, List.length_take, List.length_drop]; omega))
        | refine o_eqNil TtOk rfl rfl rfl rfl rfl ?_
        | refine o_eqArr8 TtOk rfl rfl rfl rfl rfl rfl (by kernel_rfl) ?_
        | (fail_if_success (refine o_isLit rfl (by first | exact .inl rfl | exact .inr rfl) ?_)); (refine o_splitP rfl rfl (fun hc => ?_) (fun hc => ?_) <;> try (exfalso; omega))
        | (fail_if_success (refine o_isLit rfl (by first | exact .inl rfl | exact .inr rfl) ?_)); (refine o_splitI rfl rfl (fun hc => ?_) (fun hc => ?_) <;> try (exfalso; omega))
        | (fail_if_success (refine o_isLit rfl (by first | exact .inl rfl | exact .inr rfl) ?_)); (refine o_splitN rfl rfl (fun hc => ?_) (fun hc => ?_) <;> try (exfalso; omega))
        | (fail_if_success (refine o_isLit rfl (by first | exact .inl rfl | exact .inr rfl) ?_)); (refine o_split rfl rfl (fun hc => ?_) (fun hc => ?_))
        | refine a_condT rfl ?_
        | refine a_condF rfl ?_
        | (refine a_condP rfl (fun hc => ?_) (fun hc => ?_)) <;> (try (exfalso; omega))
        | (refine a_condI rfl (fun hc => ?_) (fun hc => ?_)) <;> (try (exfalso; omega))
        | (refine a_condN rfl (fun hc => ?_) (fun hc => ?_)) <;> (try (exfalso; omega))
        | (refine Awp.cond rfl (fun hc => ?_) (fun hc => ?_))
        | refine a_any 13 [] [] [] [0, 2, 1, 3, 4, 5, 6, 9, 7, 8, 10, 11, 12, 13, 14, 16, 15, 17, 18] (by kernel_rfl) (by kernel_rfl) (by kernel_rfl) rfl rfl rfl ?_
        | (refine o_call0 rfl (hc1) ⟨SLe.of_eq rfl, SLe.of_eq rfl, True.intro⟩ rfl ?_; rintro _ _ ⟨rfl, rfl⟩; refine ⟨rfl, ?_⟩))
      refine ⟨(i + 1, _), [], by show i + 1 ≤ s.fs.length; omega, by show s.fs.length - (i + 1) < s.fs.length - i; omega, rfl, ⟨sle_i rfl, sle_i rfl, sle_sl rfl, sle_own, sle_ptr, sle_ptr, True.intro⟩, HLe.cons 10 rfl (HOLe.row ?_) (HLe.cons 3 rfl (HOLe.refl _) (HLe.cons 2 rfl (HOLe.refl _) .nil))⟩
      rw [hst, Bool.true_or, if_pos rfl, List.map_append]; rfl
    | false =>
      cases c2 with
      | true =>
        repeat' (first
          | refine Awp.seq ?_
          | refine Awp.block ?_
          | refine Awp.region ?_
          | (refine Ops.nil ?_; show Awp _ _ _ _ _)
          | (refine Ops.nil ?_; show Exists _)
          | (refine Ops.nil ?_; show endK _ _ _ _ _)
          | (refine Awp.skip ?_; show Awp _ _ _ _ _)
          | (refine Awp.skip ?_; show endK _ _ _ _ _)
          | (refine Awp.skip ?_; show Exists _)
          | (refine Awp.exit ?_; show Awp _ _ _ _ _)
          | (refine Awp.exit ?_; show Exists _)
          | (refine Awp.exit ?_; show endK _ _ _ _ _)
          | (refine Awp.ret ?_; show endK _ _ _ _ _)
          | refine o_offT rfl rfl rfl (by first | exact .inl rfl | exact .inr rfl) ?_
          | refine o_offU rfl rfl rfl (by first | exact .inl rfl | exact .inr rfl) ?_
          | refine o_offF rfl rfl rfl (by first | exact .inl rfl | exact .inr rfl) ?_
          | (refine o_add rfl rfl rfl rfl ?_ ?_; omega)
          | (refine o_sub rfl rfl rfl rfl ?_ ?_; omega)
          | refine o_len rfl TtOk rfl rfl rfl (fun _ => ?_)
          | refine o_lenOwn rfl TtOk rfl rfl rfl rfl (fun _ => ?_)
          | (refine o_calm rfl TtOk rfl rfl rfl ?_ (fun _ => ?_); first | exact True.intro | exact ⟨rfl, rfl, rfl, rfl⟩ | exact ⟨rfl, True.intro⟩ | exact ⟨rfl, rfl⟩ | exact ⟨rfl, rfl, rfl⟩ | exact rfl | exact ⟨fun h0 => by cases h0, rfl⟩ | exact (fun h0 => by cases h0) | exact ⟨rfl, by omega⟩ | exact ⟨Nat.succ_ne_zero _, rfl⟩ | omega)
          | refine o_alloc (d := 7) rfl TtOk rfl rfl rfl (fun b7 => ?_)
          | refine o_alloc (d := 9) rfl TtOk rfl rfl rfl (fun b9 => ?_)
          | refine o_box (d := 2) rfl rfl rfl rfl (fun b2 => ?_)
          | refine o_box (d := 3) rfl rfl rfl rfl (fun b3 => ?_)
          | refine o_store TtOk rfl rfl rfl rfl rfl rfl rfl ⟨rfl, rfl⟩ rfl rfl rfl rfl rfl ?_
          | (refine o_index rfl TtOk rfl rfl rfl rfl rfl rfl ?_ (getq_nat ?_) ?_; omega; omega)
          | (refine o_indexOwn TtOk rfl rfl rfl rfl rfl rfl rfl rfl _ rfl ?_ (fun bO hbO => ?_); (simp only [List.length_map]; omega))
          | (refine o_loadRow TtOk rfl rfl rfl rfl rfl (by assumption) (getq_map (List.getElem?_eq_getElem ?_)) rfl rfl (by first | exact Nat.add_zero _ | rfl) ⟨rfl, rfl⟩ ?_; omega)
          | (refine o_calm rfl TtOk rfl rfl rfl ?_ (fun _ => ?_); (show List.length _ + List.length _ ≤ 9223372036854775807; (try simp only [List.length_append, List.length_cons, List.length_nil]); omega))
          | (refine o_storeRow TtOk rfl rfl rfl rfl rfl rfl (by assumption) (getq_map (List.getElem?_eq_getElem ?_)) rfl rfl (by first | exact Nat.add_zero _ | rfl) ⟨rfl, rfl⟩ rfl rfl ?_; omega)
          | refine o_buildSlice TtOk rfl rfl rfl rfl rfl rfl rfl rfl rfl rfl rfl (by repeat' (first | exact True.intro | exact rfl | refine ⟨?_, ?_⟩)) (fun _ => ?_)
          | (refine o_append TtOk rfl rfl rfl rfl rfl rfl rfl rfl rfl (by first | exact True.intro | exact rfl) rfl rfl (fun _ => rfl) ?_ ?_ (fun _ => ?_); (simp only [List.length_map, List.length_cons, List.length_nil, List.length_append, List.length_take, List.length_drop]; omega); (simp only [List.length_map, List.length_cons, List.length_nil, List.length_append, List.length_take, List.length_drop]; omega))
          | (refine o_appendStr TtOk rfl rfl rfl rfl rfl rfl rfl rfl rfl (fun _ => rfl) ?_ (fun _ => ?_); (simp only [List.length_map, List.length_cons, List.length_nil, List.length_append, List.length_take, List.length_drop]; omega))
          | refine o_eqNil TtOk rfl rfl rfl rfl rfl ?_
          | refine o_eqArr8 TtOk rfl rfl rfl rfl rfl rfl (by kernel_rfl) ?_
          | (fail_if_success (refine o_isLit rfl (by first | exact .inl rfl | exact .inr rfl) ?_)); (refine o_splitP rfl rfl (fun hc => ?_) (fun hc => ?_) <;> try (exfalso; omega))
          | (fail_if_success (refine o_isLit rfl (by first | exact .inl rfl | exact .inr rfl) ?_)); (refine o_splitI rfl rfl (fun hc => ?_) (fun hc => ?_) <;> try (exfalso; omega))
          | (fail_if_success (refine o_isLit rfl (by first | exact .inl rfl | exact .inr rfl) ?_)); (refine o_splitN rfl rfl (fun hc => ?_) (fun hc => ?_) <;> try (exfalso; omega))
          | (fail_if_success (refine o_isLit rfl (by first | exact .inl rfl | exact .inr rfl) ?_)); (refine o_split rfl rfl (fun hc => ?_) (fun hc => ?_))
          | refine a_condT rfl ?_
          | refine a_condF rfl ?_
          | (refine a_condP rfl (fun hc => ?_) (fun hc => ?_)) <;> (try (exfalso; omega))
          | (refine a_condI rfl (fun hc => ?_) (fun hc => ?_)) <;> (try (exfalso; omega))
          | (refine a_condN rfl (fun hc => ?_) (fun hc => ?_)) <;> (try (exfalso; omega))
          | (refine Awp.cond rfl (fun hc => ?_) (fun hc => ?_))
          | refine a_any 13 [] [] [] [0, 2, 1, 3, 4, 5, 6, 9, 7, 8, 10, 11, 12, 13, 14, 16, 15, 17, 18] (by kernel_rfl) (by kernel_rfl) (by kernel_rfl) rfl rfl rfl ?_
          | (refine o_call0 rfl (hc1) ⟨SLe.of_eq rfl, SLe.of_eq rfl, True.intro⟩ rfl ?_; rintro _ _ ⟨rfl, rfl⟩; refine ⟨rfl, ?_⟩)
          | (refine o_call0 rfl (hc2) ⟨SLe.of_eq rfl, SLe.of_eq rfl, True.intro⟩ rfl ?_; rintro _ _ ⟨rfl, rfl⟩; refine ⟨rfl, ?_⟩))
        refine ⟨(i + 1, _), [], by show i + 1 ≤ s.fs.length; omega, by show s.fs.length - (i + 1) < s.fs.length - i; omega, rfl, ⟨sle_i rfl, sle_i rfl, sle_sl rfl, sle_own, sle_ptr, sle_ptr, True.intro⟩, HLe.cons 10 rfl (HOLe.row ?_) (HLe.cons 3 rfl (HOLe.refl _) (HLe.cons 2 rfl (HOLe.refl _) .nil))⟩
        rw [hst, Bool.false_or, if_pos rfl, List.map_append]; rfl
      | false =>
        repeat' (first
          | refine Awp.seq ?_
          | refine Awp.block ?_
          | refine Awp.region ?_
          | (refine Ops.nil ?_; show Awp _ _ _ _ _)
          | (refine Ops.nil ?_; show Exists _)
          | (refine Ops.nil ?_; show endK _ _ _ _ _)
          | (refine Awp.skip ?_; show Awp _ _ _ _ _)
          | (refine Awp.skip ?_; show endK _ _ _ _ _)
          | (refine Awp.skip ?_; show Exists _)
          | (refine Awp.exit ?_; show Awp _ _ _ _ _)
          | (refine Awp.exit ?_; show Exists _)
          | (refine Awp.exit ?_; show endK _ _ _ _ _)
          | (refine Awp.ret ?_; show endK _ _ _ _ _)
          | refine o_offT rfl rfl rfl (by first | exact .inl rfl | exact .inr rfl) ?_
          | refine o_offU rfl rfl rfl (by first | exact .inl rfl | exact .inr rfl) ?_
          | refine o_offF rfl rfl rfl (by first | exact .inl rfl | exact .inr rfl) ?_
          | (refine o_add rfl rfl rfl rfl ?_ ?_; omega)
          | (refine o_sub rfl rfl rfl rfl ?_ ?_; omega)
          | refine o_len rfl TtOk rfl rfl rfl (fun _ => ?_)
          | refine o_lenOwn rfl TtOk rfl rfl rfl rfl (fun _ => ?_)
          | (refine o_calm rfl TtOk rfl rfl rfl ?_ (fun _ => ?_); first | exact True.intro | exact ⟨rfl, rfl, rfl, rfl⟩ | exact ⟨rfl, True.intro⟩ | exact ⟨rfl, rfl⟩ | exact ⟨rfl, rfl, rfl⟩ | exact rfl | exact ⟨fun h0 => by cases h0, rfl⟩ | exact (fun h0 => by cases h0) | exact ⟨rfl, by omega⟩ | exact ⟨Nat.succ_ne_zero _, rfl⟩ | omega)
          | refine o_alloc (d := 7) rfl TtOk rfl rfl rfl (fun b7 => ?_)
          | refine o_alloc (d := 9) rfl TtOk rfl rfl rfl (fun b9 => ?_)
          | refine o_box (d := 2) rfl rfl rfl rfl (fun b2 => ?_)
          | refine o_box (d := 3) rfl rfl rfl rfl (fun b3 => ?_)
          | refine o_store TtOk rfl rfl rfl rfl rfl rfl rfl ⟨rfl, rfl⟩ rfl rfl rfl rfl rfl ?_
          | (refine o_index rfl TtOk rfl rfl rfl rfl rfl rfl ?_ (getq_nat ?_) ?_; omega; omega)
          | (refine o_indexOwn TtOk rfl rfl rfl rfl rfl rfl rfl rfl _ rfl ?_ (fun bO hbO => ?_); (simp only [List.length_map]; omega))
          | (refine o_loadRow TtOk rfl rfl rfl rfl rfl (by assumption) (getq_map (List.getElem?_eq_getElem ?_)) rfl rfl (by first | exact Nat.add_zero _ | rfl) ⟨rfl, rfl⟩ ?_; omega)
          | (refine o_calm rfl TtOk rfl rfl rfl ?_ (fun _ => ?_); (show List.length _ + List.length _ ≤ 9223372036854775807; (try simp only [List.length_append, List.length_cons, List.length_nil]); omega))
          | (refine o_storeRow TtOk rfl rfl rfl rfl rfl rfl (by assumption) (getq_map (List.getElem?_eq_getElem ?_)) rfl rfl (by first | exact Nat.add_zero _ | rfl) ⟨rfl, rfl⟩ rfl rfl ?_; omega)
          | refine o_buildSlice TtOk rfl rfl rfl rfl rfl rfl rfl rfl rfl rfl rfl (by repeat' (first | exact True.intro | exact rfl | refine ⟨?_, ?_⟩)) (fun _ => ?_)
          | (refine o_append TtOk rfl rfl rfl rfl rfl rfl rfl rfl rfl (by first | exact True.intro | exact rfl) rfl rfl (fun _ => rfl) ?_ ?_ (fun _ => ?_); (simp only [List.length_map, List.length_cons, List.length_nil, List.length_append, List.length_take, List.length_drop]; omega); (simp only [List.length_map, List.length_cons, List.length_nil, List.length_append, List.length_take, List.length_drop]; omega))
          | (refine o_appendStr TtOk rfl rfl rfl rfl rfl rfl rfl rfl rfl (fun _ => rfl) ?_ (fun _ => ?_); (simp only [List.length_map, List.length_cons, List.length_nil, List.length_append, List.length_take, List.length_drop]; omega))
          | refine o_eqNil TtOk rfl rfl rfl rfl rfl ?_
          | refine o_eqArr8 TtOk rfl rfl rfl rfl rfl rfl (by kernel_rfl) ?_
          | (fail_if_success (refine o_isLit rfl (by first | exact .inl rfl | exact .inr rfl) ?_)); (refine o_splitP rfl rfl (fun hc => ?_) (fun hc => ?_) <;> try (exfalso; omega))
          | (fail_if_success (refine o_isLit rfl (by first | exact .inl rfl | exact .inr rfl) ?_)); (refine o_splitI rfl rfl (fun hc => ?_) (fun hc => ?_) <;> try (exfalso; omega))
          | (fail_if_success (refine o_isLit rfl (by first | exact .inl rfl | exact .inr rfl) ?_)); (refine o_splitN rfl rfl (fun hc => ?_) (fun hc => ?_) <;> try (exfalso; omega))
          | (fail_if_success (refine o_isLit rfl (by first | exact .inl rfl | exact .inr rfl) ?_)); (refine o_split rfl rfl (fun hc => ?_) (fun hc => ?_))
          | refine a_condT rfl ?_
          | refine a_condF rfl ?_
          | (refine a_condP rfl (fun hc => ?_) (fun hc => ?_)) <;> (try (exfalso; omega))
          | (refine a_condI rfl (fun hc => ?_) (fun hc => ?_)) <;> (try (exfalso; omega))
          | (refine a_condN rfl (fun hc => ?_) (fun hc => ?_)) <;> (try (exfalso; omega))
          | (refine Awp.cond rfl (fun hc => ?_) (fun hc => ?_))
          | refine a_any 13 [] [] [] [0, 2, 1, 3, 4, 5, 6, 9, 7, 8, 10, 11, 12, 13, 14, 16, 15, 17, 18] (by kernel_rfl) (by kernel_rfl) (by kernel_rfl) rfl rfl rfl ?_
          | (refine o_call0 rfl (hc1) ⟨SLe.of_eq rfl, SLe.of_eq rfl, True.intro⟩ rfl ?_; rintro _ _ ⟨rfl, rfl⟩; refine ⟨rfl, ?_⟩)
          | (refine o_call0 rfl (hc2) ⟨SLe.of_eq rfl, SLe.of_eq rfl, True.intro⟩ rfl ?_; rintro _ _ ⟨rfl, rfl⟩; refine ⟨rfl, ?_⟩))
        refine ⟨(i + 1, _), [], by show i + 1 ≤ s.fs.length; omega, by show s.fs.length - (i + 1) < s.fs.length - i; omega, rfl, ⟨sle_i rfl, sle_i rfl, sle_sl rfl, sle_own, sle_ptr, sle_ptr, True.intro⟩, HLe.cons 10 rfl (HOLe.row ?_) (HLe.cons 3 rfl (HOLe.refl _) (HLe.cons 2 rfl (HOLe.refl _) .nil))⟩
        rw [hst, Bool.false_or, if_neg (by decide)]
  have hil : i = s.fs.length := by omega
  subst hil
  rw [List.take_length]
  have hfl := mineF_len s.fs j
  generalize mineF s.fs j = mine at hla hfl ⊢
  refine Awp.weaken [10] (S' := ⟨65, [(14, .i .i64 (s.fs.length : Nat)), (13, .i .i64 s.fs.length), (5, .sl 5 (mine.map eF)), (2, .ptr 2 b2 [] 0), (3, .ptr 3 b3 [] 0)], [(3, .var b3 (.agg [.i .i64 j.lev, .sl 1 (j.fr.map (AV.i .i64)), .sl 1 (j.to.map (AV.i .i64))])), (2, .var b2 (.agg [.i .i64 s.next, .i .i64 s.log, .sl 5 (s.fs.map eF)]))]⟩) ⟨rfl, ⟨sle_i rfl, sle_i rfl, SLe.of_cle (CLe.fz (.head _)) rfl, sle_ptr, sle_ptr, True.intro⟩, HLe.cons 3 rfl (HOLe.refl _) (HLe.cons 2 rfl (HOLe.refl _) .nil)⟩ ?_
  by_cases h0 : mine.length = 0
  · rw [if_pos h0] at hla
    subst hla
    repeat' (first
      | refine Awp.seq ?_
      | refine Awp.block ?_
      | refine Awp.region ?_
      | (refine Ops.nil ?_; show Awp _ _ _ _ _)
      | (refine Ops.nil ?_; show Exists _)
      | (refine Ops.nil ?_; show endK _ _ _ _ _)
      | (refine Awp.skip ?_; show Awp _ _ _ _ _)
      | (refine Awp.skip ?_; show endK _ _ _ _ _)
      | (refine Awp.skip ?_; show Exists _)
      | (refine Awp.exit ?_; show Awp _ _ _ _ _)
      | (refine Awp.exit ?_; show Exists _)
      | (refine Awp.exit ?_; show endK _ _ _ _ _)
      | (refine Awp.ret ?_; show endK _ _ _ _ _)
      | refine o_offT rfl rfl rfl (by first | exact .inl rfl | exact .inr rfl) ?_
      | refine o_offU rfl rfl rfl (by first | exact .inl rfl | exact .inr rfl) ?_
      | refine o_offF rfl rfl rfl (by first | exact .inl rfl | exact .inr rfl) ?_
      | (refine o_add rfl rfl rfl rfl ?_ ?_; omega)
      | (refine o_sub rfl rfl rfl rfl ?_ ?_; omega)
      | refine o_len rfl TtOk rfl rfl rfl (fun _ => ?_)
      | refine o_lenOwn rfl TtOk rfl rfl rfl rfl (fun _ => ?_)
      | (refine o_calm rfl TtOk rfl rfl rfl ?_ (fun _ => ?_); first | exact True.intro | exact ⟨rfl, rfl, rfl, rfl⟩ | exact ⟨rfl, True.intro⟩ | exact ⟨rfl, rfl⟩ | exact ⟨rfl, rfl, rfl⟩ | exact rfl | exact ⟨fun h0 => by cases h0, rfl⟩ | exact (fun h0 => by cases h0) | exact ⟨rfl, by omega⟩ | exact ⟨Nat.succ_ne_zero _, rfl⟩ | omega)
      | refine o_alloc (d := 7) rfl TtOk rfl rfl rfl (fun b7 => ?_)
      | refine o_alloc (d := 9) rfl TtOk rfl rfl rfl (fun b9 => ?_)
      | refine o_box (d := 2) rfl rfl rfl rfl (fun b2 => ?_)
      | refine o_box (d := 3) rfl rfl rfl rfl (fun b3 => ?_)
      | refine o_store TtOk rfl rfl rfl rfl rfl rfl rfl ⟨rfl, rfl⟩ rfl rfl rfl rfl rfl ?_
      | (refine o_index rfl TtOk rfl rfl rfl rfl rfl rfl ?_ (getq_nat ?_) ?_; omega; omega)
      | (refine o_indexOwn TtOk rfl rfl rfl rfl rfl rfl rfl rfl _ rfl ?_ (fun bO hbO => ?_); (simp only [List.length_map]; omega))
      | (refine o_loadRow TtOk rfl rfl rfl rfl rfl (by assumption) (getq_map (List.getElem?_eq_getElem ?_)) rfl rfl (by first | exact Nat.add_zero _ | rfl) ⟨rfl, rfl⟩ ?_; omega)
      | (refine o_calm rfl TtOk rfl rfl rfl ?_ (fun _ => ?_); (show List.length _ + List.length _ ≤ 9223372036854775807; (try simp only [List.length_append, List.length_cons, List.length_nil]); omega))
      | (refine o_storeRow TtOk rfl rfl rfl rfl rfl rfl (by assumption) (getq_map (List.getElem?_eq_getElem ?_)) rfl rfl (by first | exact Nat.add_zero _ | rfl) ⟨rfl, rfl⟩ rfl rfl ?_; omega)
      | refine o_buildSlice TtOk rfl rfl rfl rfl rfl rfl rfl rfl rfl rfl rfl (by repeat' (first | exact True.intro | exact rfl | refine ⟨?_, ?_⟩)) (fun _ => ?_)
      | (refine o_append TtOk rfl rfl rfl rfl rfl rfl rfl rfl rfl (by first | exact True.intro | exact rfl) rfl rfl (fun _ => rfl) ?_ ?_ (fun _ => ?_); (simp only [List.length_map, List.length_cons, List.length_nil, List.length_append, List.length_take, List.length_drop]; omega); (simp only [List.length_map, List.length_cons, List.length_nil, List.length_append, List.length_take, List.length_drop]; omega))
      | (refine o_appendStr TtOk rfl rfl rfl rfl rfl rfl rfl rfl rfl (fun _ => rfl) ?_ (fun _ => ?_); (simp only [List.length_map, List.length_cons, List.length_nil, List.length_append, List.length_take, List.length_drop]; omega))
      | refine o_eqNil TtOk rfl rfl rfl rfl rfl ?_
      | refine o_eqArr8 TtOk rfl rfl rfl rfl rfl rfl (by kernel_rfl) ?_
      | (fail_if_success (refine o_isLit rfl (by first | exact .inl rfl | exact .inr rfl) ?_)); (refine o_splitP rfl rfl (fun hc => ?_) (fun hc => ?_) <;> try (exfalso; omega))
      | (fail_if_success (refine o_isLit rfl (by first | exact .inl rfl | exact .inr rfl) ?_)); (refine o_splitI rfl rfl (fun hc => ?_) (fun hc => ?_) <;> try (exfalso; omega))
      | (fail_if_success (refine o_isLit rfl (by first | exact .inl rfl | exact .inr rfl) ?_)); (refine o_splitN rfl rfl (fun hc => ?_) (fun hc => ?_) <;> try (exfalso; omega))
      | (fail_if_success (refine o_isLit rfl (by first | exact .inl rfl | exact .inr rfl) ?_)); (refine o_split rfl rfl (fun hc => ?_) (fun hc => ?_))
      | refine a_condT rfl ?_
      | refine a_condF rfl ?_
      | (refine a_condP rfl (fun hc => ?_) (fun hc => ?_)) <;> (try (exfalso; omega))
      | (refine a_condI rfl (fun hc => ?_) (fun hc => ?_)) <;> (try (exfalso; omega))
      | (refine a_condN rfl (fun hc => ?_) (fun hc => ?_)) <;> (try (exfalso; omega))
      | (refine Awp.cond rfl (fun hc => ?_) (fun hc => ?_))
      | refine a_any 13 [] [] [] [0, 2, 1, 3, 4, 5, 6, 9, 7, 8, 10, 11, 12, 13, 14, 16, 15, 17, 18] (by kernel_rfl) (by kernel_rfl) (by kernel_rfl) rfl rfl rfl ?_)
    exact end_tmp rfl rfl rfl [] [] (CLe.of_eq rfl) .nil ⟨rfl, rfl⟩ _ (.inl rfl)
  rw [if_neg h0, any_below] at hla
  have hsp := rspan_spec mine (by omega) (by omega)
  rw [← spanH_eq mine (by omega)] at hsp
  generalize spanH mine = sp at hla hsp
  repeat' (first
    | refine Awp.seq ?_
    | refine Awp.block ?_
    | refine Awp.region ?_
    | (refine Ops.nil ?_; show Awp _ _ _ _ _)
    | (refine Ops.nil ?_; show Exists _)
    | (refine Ops.nil ?_; show endK _ _ _ _ _)
    | (refine Awp.skip ?_; show Awp _ _ _ _ _)
    | (refine Awp.skip ?_; show endK _ _ _ _ _)
    | (refine Awp.skip ?_; show Exists _)
    | (refine Awp.exit ?_; show Awp _ _ _ _ _)
    | (refine Awp.exit ?_; show Exists _)
    | (refine Awp.exit ?_; show endK _ _ _ _ _)
    | (refine Awp.ret ?_; show endK _ _ _ _ _)
    | refine o_offT rfl rfl rfl (by first | exact .inl rfl | exact .inr rfl) ?_
    | refine o_offU rfl rfl rfl (by first | exact .inl rfl | exact .inr rfl) ?_
    | refine o_offF rfl rfl rfl (by first | exact .inl rfl | exact .inr rfl) ?_
    | (refine o_add rfl rfl rfl rfl ?_ ?_; omega)
    | (refine o_sub rfl rfl rfl rfl ?_ ?_; omega)
    | refine o_len rfl TtOk rfl rfl rfl (fun _ => ?_)
    | refine o_lenOwn rfl TtOk rfl rfl rfl rfl (fun _ => ?_)
    | (refine o_calm rfl TtOk rfl rfl rfl ?_ (fun _ => ?_); first | exact True.intro | exact ⟨rfl, rfl, rfl, rfl⟩ | exact ⟨rfl, True.intro⟩ | exact ⟨rfl, rfl⟩ | exact ⟨rfl, rfl, rfl⟩ | exact rfl | exact ⟨fun h0 => by cases h0, rfl⟩ | exact (fun h0 => by cases h0) | exact ⟨rfl, by omega⟩ | exact ⟨Nat.succ_ne_zero _, rfl⟩ | omega)
    | refine o_alloc (d := 7) rfl TtOk rfl rfl rfl (fun b7 => ?_)
    | refine o_alloc (d := 9) rfl TtOk rfl rfl rfl (fun b9 => ?_)
    | refine o_box (d := 2) rfl rfl rfl rfl (fun b2 => ?_)
    | refine o_box (d := 3) rfl rfl rfl rfl (fun b3 => ?_)
    | refine o_store TtOk rfl rfl rfl rfl rfl rfl rfl ⟨rfl, rfl⟩ rfl rfl rfl rfl rfl ?_
    | (refine o_index rfl TtOk rfl rfl rfl rfl rfl rfl ?_ (getq_nat ?_) ?_; omega; omega)
    | (refine o_indexOwn TtOk rfl rfl rfl rfl rfl rfl rfl rfl _ rfl ?_ (fun bO hbO => ?_); (simp only [List.length_map]; omega))
    | (refine o_loadRow TtOk rfl rfl rfl rfl rfl (by assumption) (getq_map (List.getElem?_eq_getElem ?_)) rfl rfl (by first | exact Nat.add_zero _ | rfl) ⟨rfl, rfl⟩ ?_; omega)
    | (refine o_calm rfl TtOk rfl rfl rfl ?_ (fun _ => ?_); (show List.length _ + List.length _ ≤ 9223372036854775807; (try simp only [List.length_append, List.length_cons, List.length_nil]); omega))
    | (refine o_storeRow TtOk rfl rfl rfl rfl rfl rfl (by assumption) (getq_map (List.getElem?_eq_getElem ?_)) rfl rfl (by first | exact Nat.add_zero _ | rfl) ⟨rfl, rfl⟩ rfl rfl ?_; omega)
    | refine o_buildSlice TtOk rfl rfl rfl rfl rfl rfl rfl rfl rfl rfl rfl (by repeat' (first | exact True.intro | exact rfl | refine ⟨?_, ?_⟩)) (fun _ => ?_)
    | (refine o_append TtOk rfl rfl rfl rfl rfl rfl rfl rfl rfl (by first | exact True.intro | exact rfl) rfl rfl (fun _ => rfl) ?_ ?_ (fun _ => ?_); (simp only [List.length_map, List.length_cons, List.length_nil, List.length_append, List.length_take, List.length_drop]; omega); (simp only [List.length_map, List.length_cons, List.length_nil, List.length_append, List.length_take, List.length_drop]; omega))
    | (refine o_appendStr TtOk rfl rfl rfl rfl rfl rfl rfl rfl rfl (fun _ => rfl) ?_ (fun _ => ?_); (simp only [List.length_map, List.length_cons, List.length_nil, List.length_append, List.length_take, List.length_drop]; omega))
    | refine o_eqNil TtOk rfl rfl rfl rfl rfl ?_
    | refine o_eqArr8 TtOk rfl rfl rfl rfl rfl rfl (by kernel_rfl) ?_
    | (fail_if_success (refine o_isLit rfl (by first | exact .inl rfl | exact .inr rfl) ?_)); (refine o_splitP rfl rfl (fun hc => ?_) (fun hc => ?_) <;> try (exfalso; omega))
    | (fail_if_success (refine o_isLit rfl (by first | exact .inl rfl | exact .inr rfl) ?_)); (refine o_splitI rfl rfl (fun hc => ?_) (fun hc => ?_) <;> try (exfalso; omega))
    | (fail_if_success (refine o_isLit rfl (by first | exact .inl rfl | exact .inr rfl) ?_)); (refine o_splitN rfl rfl (fun hc => ?_) (fun hc => ?_) <;> try (exfalso; omega))
    | (fail_if_success (refine o_isLit rfl (by first | exact .inl rfl | exact .inr rfl) ?_)); (refine o_split rfl rfl (fun hc => ?_) (fun hc => ?_))
    | refine a_condT rfl ?_
    | refine a_condF rfl ?_
    | (refine a_condP rfl (fun hc => ?_) (fun hc => ?_)) <;> (try (exfalso; omega))
    | (refine a_condI rfl (fun hc => ?_) (fun hc => ?_)) <;> (try (exfalso; omega))
    | (refine a_condN rfl (fun hc => ?_) (fun hc => ?_)) <;> (try (exfalso; omega))
    | (refine Awp.cond rfl (fun hc => ?_) (fun hc => ?_))
    | refine a_any 13 [] [] [] [0, 2, 1, 3, 4, 5, 6, 9, 7, 8, 10, 11, 12, 13, 14, 16, 15, 17, 18] (by kernel_rfl) (by kernel_rfl) (by kernel_rfl) rfl rfl rfl ?_)
  refine Awp.loop (fun q : Nat => ⟨65, [(41, .i .i64 q), (40, .i .i64 s.fs.length), (39, .sl 5 (s.fs.map eF)), (5, .sl 5 (mine.map eF)), (3, .ptr 3 b3 [] 0)], [(3, .var b3 (.agg [.i .i64 j.lev, .sl 1 (j.fr.map (AV.i .i64)), .sl 1 (j.to.map (AV.i .i64))]))]⟩) (fun q => q ≤ s.fs.length ∧ ∀ i (h : i < s.fs.length), i < q → (decide (j.lev + 1 < s.fs[i].lev) && meetsF sp s.fs[i]) = false) (fun q => s.fs.length - q) [] 0 ⟨Nat.zero_le _, fun _ _ h => absurd h (Nat.not_lt_zero _)⟩ ?_ ?_
  · exact ⟨rfl, ⟨sle_i rfl, sle_i rfl, sle_sl rfl, sle_sl rfl, sle_ptr, True.intro⟩, HLe.cons 3 rfl (HOLe.refl _) .nil⟩
  rintro i ⟨hi, hno⟩
  by_cases hlt : i < s.fs.length
  · have hm := rmeets_spec sp s.fs[i]
    have hlvi := hlv s.fs[i] (List.getElem_mem hlt)
    generalize hmb : meetsF sp s.fs[i] = mb at hm
    by_cases hd : j.lev + 1 < s.fs[i].lev
    · repeat' (first
        | refine Awp.seq ?_
        | refine Awp.block ?_
        | refine Awp.region ?_
        | (refine Ops.nil ?_; show Awp _ _ _ _ _)
        | (refine Ops.nil ?_; show Exists _)
        | (refine Ops.nil ?_; show endK _ _ _ _ _)
        | (refine Awp.skip ?_; show Awp _ _ _ _ _)
        | (refine Awp.skip ?_; show endK _ _ _ _ _)
        | (refine Awp.skip ?_; show Exists _)
        | (refine Awp.exit ?_; show Awp _ _ _ _ _)
        | (refine Awp.exit ?_; show Exists _)
        | (refine Awp.exit ?_; show endK _ _ _ _ _)
        | (refine Awp.ret ?_; show endK _ _ _ _ _)
        | refine o_noT rfl rfl rfl ?_
        | refine o_noU rfl rfl rfl ?_
        | refine o_noF rfl rfl rfl ?_
        | (refine o_add rfl rfl rfl rfl ?_ ?_; omega)
        | (refine o_sub rfl rfl rfl rfl ?_ ?_; omega)
        | refine o_len rfl TtOk rfl rfl rfl (fun _ => ?_)
        | refine o_lenOwn rfl TtOk rfl rfl rfl rfl (fun _ => ?_)
        | (refine o_calm rfl TtOk rfl rfl rfl ?_ (fun _ => ?_); first | exact True.intro | exact ⟨rfl, rfl, rfl, rfl⟩ | exact ⟨rfl, True.intro⟩ | exact ⟨rfl, rfl⟩ | exact ⟨rfl, rfl, rfl⟩ | exact rfl | exact ⟨fun h0 => by cases h0, rfl⟩ | exact (fun h0 => by cases h0) | exact ⟨rfl, by omega⟩ | exact ⟨Nat.succ_ne_zero _, rfl⟩ | omega)
        | refine o_alloc (d := 7) rfl TtOk rfl rfl rfl (fun b7 => ?_)
        | refine o_alloc (d := 9) rfl TtOk rfl rfl rfl (fun b9 => ?_)
        | refine o_box (d := 2) rfl rfl rfl rfl (fun b2 => ?_)
        | refine o_box (d := 3) rfl rfl rfl rfl (fun b3 => ?_)
        | refine o_store TtOk rfl rfl rfl rfl rfl rfl rfl ⟨rfl, rfl⟩ rfl rfl rfl rfl rfl ?_
        | (refine o_index rfl TtOk rfl rfl rfl rfl rfl rfl ?_ (getq_nat ?_) ?_; omega; omega)
        | (refine o_indexOwn TtOk rfl rfl rfl rfl rfl rfl rfl rfl _ rfl ?_ (fun bO hbO => ?_); (simp only [List.length_map]; omega))
        | (refine o_loadRow TtOk rfl rfl rfl rfl rfl (by assumption) (getq_map (List.getElem?_eq_getElem ?_)) rfl rfl (by first | exact Nat.add_zero _ | rfl) ⟨rfl, rfl⟩ ?_; omega)
        | (refine o_calm rfl TtOk rfl rfl rfl ?_ (fun _ => ?_); (show List.length _ + List.length _ ≤ 9223372036854775807; (try simp only [List.length_append, List.length_cons, List.length_nil]); omega))
        | (refine o_storeRow TtOk rfl rfl rfl rfl rfl rfl (by assumption) (getq_map (List.getElem?_eq_getElem ?_)) rfl rfl (by first | exact Nat.add_zero _ | rfl) ⟨rfl, rfl⟩ rfl rfl ?_; omega)
        | refine o_buildSlice TtOk rfl rfl rfl rfl rfl rfl rfl rfl rfl rfl rfl (by repeat' (first | exact True.intro | exact rfl | refine ⟨?_, ?_⟩)) (fun _ => ?_)
        | (refine o_append TtOk rfl rfl rfl rfl rfl rfl rfl rfl rfl (by first | exact True.intro | exact rfl) rfl rfl (fun _ => rfl) ?_ ?_ (fun _ => ?_); (simp only [List.length_map, List.length_cons, List.length_nil, List.length_append, List.length_take, List.length_drop]; omega); (simp only [List.length_map, List.length_cons, List.length_nil, List.length_append, List.length_take, List.length_drop]; omega))
        | (refine o_appendStr TtOk rfl rfl rfl rfl rfl rfl rfl rfl rfl (fun _ => rfl) ?_ (fun _ => ?_); (simp only [List.length_map, List.length_cons, List.length_nil, List.length_append, List.length_take, List.length_drop]; omega))
        | refine o_eqNil TtOk rfl rfl rfl rfl rfl ?_
        | refine o_eqArr8 TtOk rfl rfl rfl rfl rfl rfl (by kernel_rfl) ?_
        | (fail_if_success (refine o_isLit rfl (by first | exact .inl rfl | exact .inr rfl) ?_)); (refine o_splitP rfl rfl (fun hc => ?_) (fun hc => ?_) <;> try (exfalso; omega))
        | (fail_if_success (refine o_isLit rfl (by first | exact .inl rfl | exact .inr rfl) ?_)); (refine o_splitI rfl rfl (fun hc => ?_) (fun hc => ?_) <;> try (exfalso; omega))
        | (fail_if_success (refine o_isLit rfl (by first | exact .inl rfl | exact .inr rfl) ?_)); (refine o_splitN rfl rfl (fun hc => ?_) (fun hc => ?_) <;> try (exfalso; omega))
        | (fail_if_success (refine o_isLit rfl (by first | exact .inl rfl | exact .inr rfl) ?_)); (refine o_split rfl rfl (fun hc => ?_) (fun hc => ?_))
        | refine a_condT rfl ?_
        | refine a_condF rfl ?_
        | (refine a_condP rfl (fun hc => ?_) (fun hc => ?_)) <;> (try (exfalso; omega))
        | (refine a_condI rfl (fun hc => ?_) (fun hc => ?_)) <;> (try (exfalso; omega))
        | (refine a_condN rfl (fun hc => ?_) (fun hc => ?_)) <;> (try (exfalso; omega))
        | (refine Awp.cond rfl (fun hc => ?_) (fun hc => ?_))
        | refine a_any 13 [] [] [] [0, 2, 1, 3, 4, 5, 6, 9, 7, 8, 10, 11, 12, 13, 14, 16, 15, 17, 18] (by kernel_rfl) (by kernel_rfl) (by kernel_rfl) rfl rfl rfl ?_
        | (refine o_call0 rfl (hsp) ⟨SLe.of_eq rfl, True.intro⟩ rfl ?_; rintro _ _ ⟨rfl, rfl⟩; refine ⟨rfl, ?_⟩)
        | (refine o_call0 rfl (hm) ⟨SLe.of_eq rfl, SLe.of_eq rfl, True.intro⟩ rfl ?_; rintro _ _ ⟨rfl, rfl⟩; refine ⟨rfl, ?_⟩))
      · have han : s.fs.any (fun f => decide (j.lev + 1 < f.lev) && meetsF sp f) = true := List.any_eq_true.2 ⟨s.fs[i], List.getElem_mem _, by
          show (decide (j.lev + 1 < s.fs[i].lev) && meetsF sp s.fs[i]) = true
          rw [decide_eq_true hd, hmb]; exact hc⟩
        rw [han] at hla
        subst hla
        exact end_tmp rfl rfl rfl [] [] (CLe.of_eq rfl) .nil ⟨rfl, rfl⟩ _ (.inl rfl)
      · have hcp : mb = false := hc
        exact ⟨i + 1, [], ⟨hlt, fun i' h hi' => by
          rcases Nat.lt_succ_iff_lt_or_eq.1 hi' with h2 | h2
          · exact hno i' h h2
          · subst h2; rw [hmb, hcp, Bool.and_false]⟩, by show s.fs.length - (i + 1) < s.fs.length - i; omega, rfl, ⟨sle_i rfl, sle_i rfl, sle_sl rfl, sle_sl rfl, sle_ptr, True.intro⟩, HLe.cons 3 rfl (HOLe.refl _) .nil⟩
    · repeat' (first
        | refine Awp.seq ?_
        | refine Awp.block ?_
        | refine Awp.region ?_
        | (refine Ops.nil ?_; show Awp _ _ _ _ _)
        | (refine Ops.nil ?_; show Exists _)
        | (refine Ops.nil ?_; show endK _ _ _ _ _)
        | (refine Awp.skip ?_; show Awp _ _ _ _ _)
        | (refine Awp.skip ?_; show endK _ _ _ _ _)
        | (refine Awp.skip ?_; show Exists _)
        | (refine Awp.exit ?_; show Awp _ _ _ _ _)
        | (refine Awp.exit ?_; show Exists _)
        | (refine Awp.exit ?_; show endK _ _ _ _ _)
        | (refine Awp.ret ?_; show endK _ _ _ _ _)
        | refine o_noT rfl rfl rfl ?_
        | refine o_noU rfl rfl rfl ?_
        | refine o_noF rfl rfl rfl ?_
        | (refine o_add rfl rfl rfl rfl ?_ ?_; omega)
        | (refine o_sub rfl rfl rfl rfl ?_ ?_; omega)
        | refine o_len rfl TtOk rfl rfl rfl (fun _ => ?_)
        | refine o_lenOwn rfl TtOk rfl rfl rfl rfl (fun _ => ?_)
        | (refine o_calm rfl TtOk rfl rfl rfl ?_ (fun _ => ?_); first | exact True.intro | exact ⟨rfl, rfl, rfl, rfl⟩ | exact ⟨rfl, True.intro⟩ | exact ⟨rfl, rfl⟩ | exact ⟨rfl, rfl, rfl⟩ | exact rfl | exact ⟨fun h0 => by cases h0, rfl⟩ | exact (fun h0 => by cases h0) | exact ⟨rfl, by omega⟩ | exact ⟨Nat.succ_ne_zero _, rfl⟩ | omega)
        | refine o_alloc (d := 7) rfl TtOk rfl rfl rfl (fun b7 => ?_)
        | refine o_alloc (d := 9) rfl TtOk rfl rfl rfl (fun b9 => ?_)
        | refine o_box (d := 2) rfl rfl rfl rfl (fun b2 => ?_)
        | refine o_box (d := 3) rfl rfl rfl rfl (fun b3 => ?_)
        | refine o_store TtOk rfl rfl rfl rfl rfl rfl rfl ⟨rfl, rfl⟩ rfl rfl rfl rfl rfl ?_
        | (refine o_index rfl TtOk rfl rfl rfl rfl rfl rfl ?_ (getq_nat ?_) ?_; omega; omega)
        | (refine o_indexOwn TtOk rfl rfl rfl rfl rfl rfl rfl rfl _ rfl ?_ (fun bO hbO => ?_); (simp only [List.length_map]; omega))
        | (refine o_loadRow TtOk rfl rfl rfl rfl rfl (by assumption) (getq_map (List.getElem?_eq_getElem ?_)) rfl rfl (by first | exact Nat.add_zero _ | rfl) ⟨rfl, rfl⟩ ?_; omega)
        | (refine o_calm rfl TtOk rfl rfl rfl ?_ (fun _ => ?_); (show List.length _ + List.length _ ≤ 9223372036854775807; (try simp only [List.length_append, List.length_cons, List.length_nil]); omega))
        | (refine o_storeRow TtOk rfl rfl rfl rfl rfl rfl (by assumption) (getq_map (List.getElem?_eq_getElem ?_)) rfl rfl (by first | exact Nat.add_zero _ | rfl) ⟨rfl, rfl⟩ rfl rfl ?_; omega)
        | refine o_buildSlice TtOk rfl rfl rfl rfl rfl rfl rfl rfl rfl rfl rfl (by repeat' (first | exact True.intro | exact rfl | refine ⟨?_, ?_⟩)) (fun _ => ?_)
        | (refine o_append TtOk rfl rfl rfl rfl rfl rfl rfl rfl rfl (by first | exact True.intro | exact rfl) rfl rfl (fun _ => rfl) ?_ ?_ (fun _ => ?_); (simp only [List.length_map, List.length_cons, List.length_nil, List.length_append, List.length_take, List.length_drop]; omega); (simp only [List.length_map, List.length_cons, List.length_nil, List.length_append, List.length_take, List.length_drop]; omega))
        | (refine o_appendStr TtOk rfl rfl rfl rfl rfl rfl rfl rfl rfl (fun _ => rfl) ?_ (fun _ => ?_); (simp only [List.length_map, List.length_cons, List.length_nil, List.length_append, List.length_take, List.length_drop]; omega))
        | refine o_eqNil TtOk rfl rfl rfl rfl rfl ?_
        | refine o_eqArr8 TtOk rfl rfl rfl rfl rfl rfl (by kernel_rfl) ?_
        | (fail_if_success (refine o_isLit rfl (by first | exact .inl rfl | exact .inr rfl) ?_)); (refine o_splitP rfl rfl (fun hc => ?_) (fun hc => ?_) <;> try (exfalso; omega))
        | (fail_if_success (refine o_isLit rfl (by first | exact .inl rfl | exact .inr rfl) ?_)); (refine o_splitI rfl rfl (fun hc => ?_) (fun hc => ?_) <;> try (exfalso; omega))
        | (fail_if_success (refine o_isLit rfl (by first | exact .inl rfl | exact .inr rfl) ?_)); (refine o_splitN rfl rfl (fun hc => ?_) (fun hc => ?_) <;> try (exfalso; omega))
        | (fail_if_success (refine o_isLit rfl (by first | exact .inl rfl | exact .inr rfl) ?_)); (refine o_split rfl rfl (fun hc => ?_) (fun hc => ?_))
        | refine a_condT rfl ?_
        | refine a_condF rfl ?_
        | (refine a_condP rfl (fun hc => ?_) (fun hc => ?_)) <;> (try (exfalso; omega))
        | (refine a_condI rfl (fun hc => ?_) (fun hc => ?_)) <;> (try (exfalso; omega))
        | (refine a_condN rfl (fun hc => ?_) (fun hc => ?_)) <;> (try (exfalso; omega))
        | (refine Awp.cond rfl (fun hc => ?_) (fun hc => ?_))
        | refine a_any 13 [] [] [] [0, 2, 1, 3, 4, 5, 6, 9, 7, 8, 10, 11, 12, 13, 14, 16, 15, 17, 18] (by kernel_rfl) (by kernel_rfl) (by kernel_rfl) rfl rfl rfl ?_
        | (refine o_call0 rfl (hsp) ⟨SLe.of_eq rfl, True.intro⟩ rfl ?_; rintro _ _ ⟨rfl, rfl⟩; refine ⟨rfl, ?_⟩)
        | (refine o_call0 rfl (hm) ⟨SLe.of_eq rfl, SLe.of_eq rfl, True.intro⟩ rfl ?_; rintro _ _ ⟨rfl, rfl⟩; refine ⟨rfl, ?_⟩))
      all_goals exact ⟨i + 1, [], ⟨hlt, fun i' h hi' => by
          rcases Nat.lt_succ_iff_lt_or_eq.1 hi' with h2 | h2
          · exact hno i' h h2
          · subst h2; rw [decide_eq_false hd, Bool.false_and]⟩, by show s.fs.length - (i + 1) < s.fs.length - i; omega, rfl, ⟨sle_i rfl, sle_i rfl, sle_sl rfl, sle_sl rfl, sle_ptr, True.intro⟩, HLe.cons 3 rfl (HOLe.refl _) .nil⟩
  · have han : s.fs.any (fun f => decide (j.lev + 1 < f.lev) && meetsF sp f) = false := by
      rw [List.any_eq_false]
      intro x hx
      obtain ⟨i', hi', rfl⟩ := List.getElem_of_mem hx
      rw [hno i' hi' (by omega)]; decide
    rw [han] at hla
    subst hla
    repeat' (first
      | refine Awp.seq ?_
      | refine Awp.block ?_
      | refine Awp.region ?_
      | (refine Ops.nil ?_; show Awp _ _ _ _ _)
      | (refine Ops.nil ?_; show Exists _)
      | (refine Ops.nil ?_; show endK _ _ _ _ _)
      | (refine Awp.skip ?_; show Awp _ _ _ _ _)
      | (refine Awp.skip ?_; show endK _ _ _ _ _)
      | (refine Awp.skip ?_; show Exists _)
      | (refine Awp.exit ?_; show Awp _ _ _ _ _)
      | (refine Awp.exit ?_; show Exists _)
      | (refine Awp.exit ?_; show endK _ _ _ _ _)
      | (refine Awp.ret ?_; show endK _ _ _ _ _)
      | refine o_offT rfl rfl rfl (by first | exact .inl rfl | exact .inr rfl) ?_
      | refine o_offU rfl rfl rfl (by first | exact .inl rfl | exact .inr rfl) ?_
      | refine o_offF rfl rfl rfl (by first | exact .inl rfl | exact .inr rfl) ?_
      | (refine o_add rfl rfl rfl rfl ?_ ?_; omega)
      | (refine o_sub rfl rfl rfl rfl ?_ ?_; omega)
      | refine o_len rfl TtOk rfl rfl rfl (fun _ => ?_)
      | refine o_lenOwn rfl TtOk rfl rfl rfl rfl (fun _ => ?_)
      | (refine o_calm rfl TtOk rfl rfl rfl ?_ (fun _ => ?_); first | exact True.intro | exact ⟨rfl, rfl, rfl, rfl⟩ | exact ⟨rfl, True.intro⟩ | exact ⟨rfl, rfl⟩ | exact ⟨rfl, rfl, rfl⟩ | exact rfl | exact ⟨fun h0 => by cases h0, rfl⟩ | exact (fun h0 => by cases h0) | exact ⟨rfl, by omega⟩ | exact ⟨Nat.succ_ne_zero _, rfl⟩ | omega)
      | refine o_alloc (d := 7) rfl TtOk rfl rfl rfl (fun b7 => ?_)
      | refine o_alloc (d := 9) rfl TtOk rfl rfl rfl (fun b9 => ?_)
      | refine o_box (d := 2) rfl rfl rfl rfl (fun b2 => ?_)
      | refine o_box (d := 3) rfl rfl rfl rfl (fun b3 => ?_)
      | refine o_store TtOk rfl rfl rfl rfl rfl rfl rfl ⟨rfl, rfl⟩ rfl rfl rfl rfl rfl ?_
      | (refine o_index rfl TtOk rfl rfl rfl rfl rfl rfl ?_ (getq_nat ?_) ?_; omega; omega)
      | (refine o_indexOwn TtOk rfl rfl rfl rfl rfl rfl rfl rfl _ rfl ?_ (fun bO hbO => ?_); (simp only [List.length_map]; omega))
      | (refine o_loadRow TtOk rfl rfl rfl rfl rfl (by assumption) (getq_map (List.getElem?_eq_getElem ?_)) rfl rfl (by first | exact Nat.add_zero _ | rfl) ⟨rfl, rfl⟩ ?_; omega)
      | (refine o_calm rfl TtOk rfl rfl rfl ?_ (fun _ => ?_); (show List.length _ + List.length _ ≤ 9223372036854775807; (try simp only [List.length_append, List.length_cons, List.length_nil]); omega))
      | (refine o_storeRow TtOk rfl rfl rfl rfl rfl rfl (by assumption) (getq_map (List.getElem?_eq_getElem ?_)) rfl rfl (by first | exact Nat.add_zero _ | rfl) ⟨rfl, rfl⟩ rfl rfl ?_; omega)
      | refine o_buildSlice TtOk rfl rfl rfl rfl rfl rfl rfl rfl rfl rfl rfl (by repeat' (first | exact True.intro | exact rfl | refine ⟨?_, ?_⟩)) (fun _ => ?_)
      | (refine o_append TtOk rfl rfl rfl rfl rfl rfl rfl rfl rfl (by first | exact True.intro | exact rfl) rfl rfl (fun _ => rfl) ?_ ?_ (fun _ => ?_); (simp only [List.length_map, List.length_cons, List.length_nil, List.length_append, List.length_take, List.length_drop]; omega); (simp only [List.length_map, List.length_cons, List.length_nil, List.length_append, List.length_take, List.length_drop]; omega))
      | (refine o_appendStr TtOk rfl rfl rfl rfl rfl rfl rfl rfl rfl (fun _ => rfl) ?_ (fun _ => ?_); (simp only [List.length_map, List.length_cons, List.length_nil, List.length_append, List.length_take, List.length_drop]; omega))
      | refine o_eqNil TtOk rfl rfl rfl rfl rfl ?_
      | refine o_eqArr8 TtOk rfl rfl rfl rfl rfl rfl (by kernel_rfl) ?_
      | (fail_if_success (refine o_isLit rfl (by first | exact .inl rfl | exact .inr rfl) ?_)); (refine o_splitP rfl rfl (fun hc => ?_) (fun hc => ?_) <;> try (exfalso; omega))
      | (fail_if_success (refine o_isLit rfl (by first | exact .inl rfl | exact .inr rfl) ?_)); (refine o_splitI rfl rfl (fun hc => ?_) (fun hc => ?_) <;> try (exfalso; omega))
      | (fail_if_success (refine o_isLit rfl (by first | exact .inl rfl | exact .inr rfl) ?_)); (refine o_splitN rfl rfl (fun hc => ?_) (fun hc => ?_) <;> try (exfalso; omega))
      | (fail_if_success (refine o_isLit rfl (by first | exact .inl rfl | exact .inr rfl) ?_)); (refine o_split rfl rfl (fun hc => ?_) (fun hc => ?_))
      | refine a_condT rfl ?_
      | refine a_condF rfl ?_
      | (refine a_condP rfl (fun hc => ?_) (fun hc => ?_)) <;> (try (exfalso; omega))
      | (refine a_condI rfl (fun hc => ?_) (fun hc => ?_)) <;> (try (exfalso; omega))
      | (refine a_condN rfl (fun hc => ?_) (fun hc => ?_)) <;> (try (exfalso; omega))
      | (refine Awp.cond rfl (fun hc => ?_) (fun hc => ?_))
      | refine a_any 13 [] [] [] [0, 2, 1, 3, 4, 5, 6, 9, 7, 8, 10, 11, 12, 13, 14, 16, 15, 17, 18] (by kernel_rfl) (by kernel_rfl) (by kernel_rfl) rfl rfl rfl ?_)
    exact end_tmp rfl rfl rfl [] [] (CLe.of_eq rfl) .nil ⟨rfl, rfl⟩ _ (.inl rfl)
end Go.Proofs.Ytnmnhnlebkebfaa
