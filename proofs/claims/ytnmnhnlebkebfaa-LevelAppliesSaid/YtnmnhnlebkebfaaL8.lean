/- level.Last, slices.MinFunc at files; ref11.Last by rules. -/
import Derived.Test.YtnmnhnlebkebfaaL7
import Derived.Test.YtnmnhnlebkebfaaV21
set_option maxHeartbeats 8000000
set_option maxRecDepth 100000
namespace Go.Proofs.Ytnmnhnlebkebfaa
open Go Go.RowKit
def inJ (j : Jb) (f : Fl) : Bool := j.fr.contains f.num || j.to.contains f.num
def mineF (l : List Fl) (j : Jb) : List Fl := l.filter (inJ j)
def lastF (l : List Fl) (j : Jb) : Bool := if (mineF l j).length = 0 then false else !((belowF l (j.lev + 1)).any (meetsF (spanH (mineF l j))))
theorem mineF_step (l : List Fl) (j : Jb) (i : Nat) (h : i < l.length) : mineF (l.take (i + 1)) j = if (j.fr.contains l[i].num || j.to.contains l[i].num) = true then mineF (l.take i) j ++ [l[i]] else mineF (l.take i) j := by
  unfold mineF
  rw [List.take_succ_eq_append_getElem h, List.filter_append, List.filter_cons, List.filter_nil]
  by_cases hc : inJ j l[i] = true
  · rw [if_pos hc]; exact (if_pos hc).symm
  · rw [if_neg hc, List.append_nil]; exact (if_neg hc).symm
theorem mineF_len (l : List Fl) (j : Jb) : (mineF l j).length ≤ l.length := List.length_filter_le _ _
theorem any_below (l : List Fl) (m : Int) (p : Fl → Bool) : (belowF l m).any p = l.any (fun f => decide (m < f.lev) && p f) := by
  unfold belowF
  induction l with
  | nil => rfl
  | cons x l ih =>
    rw [List.filter_cons, List.any_cons, ← ih]
    by_cases h : m < x.lev
    · rw [if_pos (by simpa using h), List.any_cons, decide_eq_true h, Bool.true_and]
    · rw [if_neg (by simpa using h), decide_eq_false h, Bool.false_and, Bool.false_or]
theorem last_spec (s : Stt) (j : Jb) (hl : s.fs.length ≤ 1000) (h1 : j.fr.length ≤ 100000) (h2 : j.to.length ≤ 100000) (hj : -10 ≤ j.lev ∧ j.lev ≤ 10) : Spec Try.prog 18 [eSt s, eJ j] [] (fun v os => v = .b (lastF s.fs j) ∧ os = []) := by
  refine spec_of TtOk [] Try.func18 rfl Try.ntmps18 (by kernel_rfl) rfl rfl (fun C => ?_) rfl
  have hbe := below_spec s (j.lev + 1) hl
  have hbl := belowF_len s.fs (j.lev + 1)
  have hla : lastF s.fs j = if (mineF s.fs j).length = 0 then false else !((belowF s.fs (j.lev + 1)).any (meetsF (spanH (mineF s.fs j)))) := rfl
  generalize lastF s.fs j = r at hla ⊢
  unfold eSt eJ at *
  repeat' (first
    | refine Awp.seq ?_
    | refine Awp.block ?_
    | refine Awp.region ?_
    | (refine Ops.nil ?_; show Awp _ _ _ _ _)
    | (refine Ops.nil ?_; show Exists _)
    | (refine Ops.nil ?_; show endK _ _ _ _ _)
    | (refine Awp.skip ?_; show Awp _ _ _ _ _)
    | (refine Awp.skip ?_; show endK _ _ _ _ _)
    | (refine Awp.skip ?_; show Exists _)
    | (refine Awp.exit ?_; show Awp _ _ _ _ _)
    | (refine Awp.exit ?_; show Exists _)
    | (refine Awp.exit ?_; show endK _ _ _ _ _)
    | (refine Awp.ret ?_; show endK _ _ _ _ _)
    | refine o_offT rfl rfl rfl (by first | exact .inl rfl | exact .inr rfl) ?_
    | refine o_offU rfl rfl rfl (by first | exact .inl rfl | exact .inr rfl) ?_
    | refine o_offF rfl rfl rfl (by first | exact .inl rfl | exact .inr rfl) ?_
    | (refine o_add rfl rfl rfl rfl ?_ ?_; omega)
    | refine o_len rfl TtOk rfl rfl rfl (fun _ => ?_)
    | refine o_lenOwn rfl TtOk rfl rfl rfl rfl (fun _ => ?_)
    | (refine o_calm rfl TtOk rfl rfl rfl ?_ (fun _ => ?_); first | exact True.intro | exact ⟨rfl, rfl, rfl, rfl⟩ | exact ⟨rfl, True.intro⟩ | exact ⟨rfl, rfl⟩ | exact ⟨rfl, rfl, rfl⟩ | exact rfl | exact ⟨fun h0 => by cases h0, rfl⟩ | exact (fun h0 => by cases h0) | exact ⟨rfl, by omega⟩ | exact ⟨Nat.succ_ne_zero _, rfl⟩ | omega)
    | refine o_alloc (d := 7) rfl TtOk rfl rfl rfl (fun b7 => ?_)
    | refine o_alloc (d := 8) rfl TtOk rfl rfl rfl (fun b8 => ?_)
    | refine o_box (d := 2) rfl rfl rfl rfl (fun b2 => ?_)
    | refine o_box (d := 3) rfl rfl rfl rfl (fun b3 => ?_)
    | refine o_store TtOk rfl rfl rfl rfl rfl rfl rfl ⟨rfl, rfl⟩ rfl rfl rfl rfl rfl ?_
    | (refine o_index rfl TtOk rfl rfl rfl rfl rfl rfl ?_ (getq_nat ?_) ?_; omega; omega)
    | (refine o_indexOwn TtOk rfl rfl rfl rfl rfl rfl rfl rfl _ rfl ?_ (fun bO hbO => ?_); (simp only [List.length_map]; omega))
    | (refine o_loadRow TtOk rfl rfl rfl rfl rfl (by assumption) (getq_map (List.getElem?_eq_getElem ?_)) rfl rfl (by first | exact Nat.add_zero _ | rfl) ⟨rfl, rfl⟩ ?_; omega)
    | (refine o_calm rfl TtOk rfl rfl rfl ?_ (fun _ => ?_); (show List.length _ + List.length _ ≤ 9223372036854775807; (try simp only [List.length_append, List.length_cons, List.length_nil]); omega))
    | (refine o_storeRow TtOk rfl rfl rfl rfl rfl rfl (by assumption) (getq_map (List.getElem?_eq_getElem ?_)) rfl rfl (by first | exact Nat.add_zero _ | rfl) ⟨rfl, rfl⟩ rfl rfl ?_; omega)
    | refine o_buildSlice TtOk rfl rfl rfl rfl rfl rfl rfl rfl rfl rfl rfl (by repeat' (first | exact True.intro | exact rfl | refine ⟨?_, ?_⟩)) (fun _ => ?_)
    | (refine o_append TtOk rfl rfl rfl rfl rfl rfl rfl rfl rfl (by first | exact True.intro | exact rfl) rfl rfl (fun _ => rfl) ?_ ?_ (fun _ => ?_); (simp only [List.length_map, List.length_cons, List.length_nil, List.length_append, List.length_take, List.length_drop]; omega); (simp only [List.length_map, List.length_cons, List.length_nil, List.length_append, List.length_take, List.length_drop]; omega))
    | (refine o_appendStr TtOk rfl rfl rfl rfl rfl rfl rfl rfl rfl (fun _ => rfl) ?_ (fun _ => ?_); (simp only [List.length_map, List.length_cons, List.length_nil, List.length_append, List.length_take, List.length_drop]; omega))
    | refine o_eqNil TtOk rfl rfl rfl rfl rfl ?_
    | refine o_eqArr8 TtOk rfl rfl rfl rfl rfl rfl (by kernel_rfl) ?_
    | (fail_if_success (refine o_isLit rfl (by first | exact .inl rfl | exact .inr rfl) ?_)); (refine o_splitP rfl rfl (fun hc => ?_) (fun hc => ?_) <;> try (exfalso; omega))
    | (fail_if_success (refine o_isLit rfl (by first | exact .inl rfl | exact .inr rfl) ?_)); (refine o_splitI rfl rfl (fun hc => ?_) (fun hc => ?_) <;> try (exfalso; omega))
    | (fail_if_success (refine o_isLit rfl (by first | exact .inl rfl | exact .inr rfl) ?_)); (refine o_splitN rfl rfl (fun hc => ?_) (fun hc => ?_) <;> try (exfalso; omega))
    | (fail_if_success (refine o_isLit rfl (by first | exact .inl rfl | exact .inr rfl) ?_)); (refine o_split rfl rfl (fun hc => ?_) (fun hc => ?_))
    | refine a_condT rfl ?_
    | refine a_condF rfl ?_
    | (refine a_condP rfl (fun hc => ?_) (fun hc => ?_)) <;> (try (exfalso; omega))
    | (refine a_condI rfl (fun hc => ?_) (fun hc => ?_)) <;> (try (exfalso; omega))
    | (refine a_condN rfl (fun hc => ?_) (fun hc => ?_)) <;> (try (exfalso; omega))
    | (refine Awp.cond rfl (fun hc => ?_) (fun hc => ?_)))
  refine Awp.loop (fun q : Nat × Value => ⟨46, [(12, .i .i64 q.1), (11, .i .i64 s.fs.length), (10, .sl 5 (s.fs.map eF)), (5, .own 31 q.2), (2, .ptr 2 b2 [] 0), (3, .ptr 3 b3 [] 0)], [(31, .row q.2 35 5 ((mineF (s.fs.take q.1) j).map eF)), (3, .var b3 (.agg [.i .i64 j.lev, .sl 1 (j.fr.map (AV.i .i64)), .sl 1 (j.to.map (AV.i .i64))])), (2, .var b2 (.agg [.i .i64 s.next, .i .i64 s.log, .sl 5 (s.fs.map eF)]))]⟩) (fun q => q.1 ≤ s.fs.length) (fun q => s.fs.length - q.1) [] (0, .slice none 0 0) (Nat.zero_le _) ?_ ?_
  · exact ⟨rfl, ⟨sle_i rfl, sle_i rfl, sle_sl rfl, sle_nilown, sle_ptr, sle_ptr, True.intro⟩, .none (HLe.cons 3 rfl (HOLe.refl _) (HLe.cons 2 rfl (HOLe.refl _) .nil))⟩
  rintro ⟨i, v⟩ hi
  dsimp only at hi ⊢
  by_cases hlt : i < s.fs.length
  · have hst := mineF_step s.fs j i hlt
    have hfl := mineF_len (s.fs.take i) j
    rw [List.length_take] at hfl
    have hc1 := contains_spec j.fr s.fs[i].num h1
    have hc2 := contains_spec j.to s.fs[i].num h2
    generalize mineF (s.fs.take i) j = out at hst hfl ⊢
    generalize hb1 : j.fr.contains s.fs[i].num = c1 at hst hc1
    generalize hb2 : j.to.contains s.fs[i].num = c2 at hst hc2
    cases c1 with
    | true =>
      repeat' (first
        | refine Awp.seq ?_
        | refine Awp.block ?_
        | refine Awp.region ?_
        | (refine Ops.nil ?_; show Awp _ _ _ _ _)
        | (refine Ops.nil ?_; show Exists _)
        | (refine Ops.nil ?_; show endK _ _ _ _ _)
        | (refine Awp.skip ?_; show Awp _ _ _ _ _)
        | (refine Awp.skip ?_; show endK _ _ _ _ _)
        | (refine Awp.skip ?_; show Exists _)
        | (refine Awp.exit ?_; show Awp _ _ _ _ _)
        | (refine Awp.exit ?_; show Exists _)
        | (refine Awp.exit ?_; show endK _ _ _ _ _)
        | (refine Awp.ret ?_; show endK _ _ _ _ _)
        | refine o_offT rfl rfl rfl (by first | exact .inl rfl | exact .inr rfl) ?_
        | refine o_offU rfl rfl rfl (by first | exact .inl rfl | exact .inr rfl) ?_
        | refine o_offF rfl rfl rfl (by first | exact .inl rfl | exact .inr rfl) ?_
        | (refine o_add rfl rfl rfl rfl ?_ ?_; omega)
        | refine o_len rfl TtOk rfl rfl rfl (fun _ => ?_)
        | refine o_lenOwn rfl TtOk rfl rfl rfl rfl (fun _ => ?_)
        | (refine o_calm rfl TtOk rfl rfl rfl ?_ (fun _ => ?_); first | exact True.intro | exact ⟨rfl, rfl, rfl, rfl⟩ | exact ⟨rfl, True.intro⟩ | exact ⟨rfl, rfl⟩ | exact ⟨rfl, rfl, rfl⟩ | exact rfl | exact ⟨fun h0 => by cases h0, rfl⟩ | exact (fun h0 => by cases h0) | exact ⟨rfl, by omega⟩ | exact ⟨Nat.succ_ne_zero _, rfl⟩ | omega)
        | refine o_alloc (d := 7) rfl TtOk rfl rfl rfl (fun b7 => ?_)
        | refine o_alloc (d := 8) rfl TtOk rfl rfl rfl (fun b8 => ?_)
        | refine o_box (d := 2) rfl rfl rfl rfl (fun b2 => ?_)
        | refine o_box (d := 3) rfl rfl rfl rfl (fun b3 => ?_)
        | refine o_store TtOk rfl rfl rfl rfl rfl rfl rfl ⟨rfl, rfl⟩ rfl rfl rfl rfl rfl ?_
        | (refine o_index rfl TtOk rfl rfl rfl rfl rfl rfl ?_ (getq_nat ?_) ?_; omega; omega)
        | (refine o_indexOwn TtOk rfl rfl rfl rfl rfl rfl rfl rfl _ rfl ?_ (fun bO hbO => ?_); (simp only [List.length_map]; omega))
        | (refine o_loadRow TtOk rfl rfl rfl rfl rfl (by assumption) (getq_map (List.getElem?_eq_getElem ?_)) rfl rfl (by first | exact Nat.add_zero _ | rfl) ⟨rfl, rfl⟩ ?_; omega)
        | (refine o_calm rfl TtOk rfl rfl rfl ?_ (fun _ => ?_); (show List.length _ + List.length _ ≤ 9223372036854775807; (try simp only [List.length_append, List.length_cons, List.length_nil]); omega))
        | (refine o_storeRow TtOk rfl rfl rfl rfl rfl rfl (by assumption) (getq_map (List.getElem?_eq_getElem ?_)) rfl rfl (by first | exact Nat.add_zero _ | rfl) ⟨rfl, rfl⟩ rfl rfl ?_; omega)
        | refine o_buildSlice TtOk rfl rfl rfl rfl rfl rfl rfl rfl rfl rfl rfl (by repeat' (first | exact True.intro | exact rfl | refine ⟨?_, ?_⟩)) (fun _ => ?_)
        | (refine o_append TtOk rfl rfl rfl rfl rfl rfl rfl rfl rfl (by first | exact True.intro | exact rfl) rfl rfl (fun _ => rfl) ?_ ?_ (fun _ => ?_); (simp only [List.length_map, List.length_cons, List.length_nil, List.length_append, List.length_take, List.length_drop]; omega); (simp only [List.length_map, List.length_cons, List.length_nil, List.length_append, List.length_take, List.length_drop]; omega))
        | (refine o_appendStr TtOk rfl rfl rfl rfl rfl rfl rfl rfl rfl (fun _ => rfl) ?_ (fun _ => ?_); (simp only [List.length_map, List.length_cons, List.length_nil, List.length_append, List.length_take, List.length_drop]; omega))
        | refine o_eqNil TtOk rfl rfl rfl rfl rfl ?_
        | refine o_eqArr8 TtOk rfl rfl rfl rfl rfl rfl (by kernel_rfl) ?_
        | (fail_if_success (refine o_isLit rfl (by first | exact .inl rfl | exact .inr rfl) ?_)); (refine o_splitP rfl rfl (fun hc => ?_) (fun hc => ?_) <;> try (exfalso; omega))
        | (fail_if_success (refine o_isLit rfl (by first | exact .inl rfl | exact .inr rfl) ?_)); (refine o_splitI rfl rfl (fun hc => ?_) (fun hc => ?_) <;> try (exfalso; omega))
        | (fail_if_success (refine o_isLit rfl (by first | exact .inl rfl | exact .inr rfl) ?_)); (refine o_splitN rfl rfl (fun hc => ?_) (fun hc => ?_) <;> try (exfalso; omega))
        | (fail_if_success (refine o_isLit rfl (by first | exact .inl rfl | exact .inr rfl) ?_)); (refine o_split rfl rfl (fun hc => ?_) (fun hc => ?_))
        | refine a_condT rfl ?_
        | refine a_condF rfl ?_
        | (refine a_condP rfl (fun hc => ?_) (fun hc => ?_)) <;> (try (exfalso; omega))
        | (refine a_condI rfl (fun hc => ?_) (fun hc => ?_)) <;> (try (exfalso; omega))
        | (refine a_condN rfl (fun hc => ?_) (fun hc => ?_)) <;> (try (exfalso; omega))
        | (refine Awp.cond rfl (fun hc => ?_) (fun hc => ?_))
        | (refine o_call0 rfl (hc1) ⟨SLe.of_eq rfl, SLe.of_eq rfl, True.intro⟩ rfl ?_; rintro _ _ ⟨rfl, rfl⟩; refine ⟨rfl, ?_⟩))
      refine ⟨(i + 1, _), [], by show i + 1 ≤ s.fs.length; omega, by show s.fs.length - (i + 1) < s.fs.length - i; omega, rfl, ⟨sle_i rfl, sle_i rfl, sle_sl rfl, sle_own, sle_ptr, sle_ptr, True.intro⟩, HLe.cons 31 rfl (HOLe.row ?_) (HLe.cons 3 rfl (HOLe.refl _) (HLe.cons 2 rfl (HOLe.refl _) .nil))⟩
      rw [hst, Bool.true_or, if_pos rfl, List.map_append]; rfl
    | false =>
      cases c2 with
      | true =>
        repeat' (first
          | refine Awp.seq ?_
          | refine Awp.block ?_
          | refine Awp.region ?_
          | (refine Ops.nil ?_; show Awp _ _ _ _ _)
          | (refine Ops.nil ?_; show Exists _)
          | (refine Ops.nil ?_; show endK _ _ _ _ _)
          | (refine Awp.skip ?_; show Awp _ _ _ _ _)
          | (refine Awp.skip ?_; show endK _ _ _ _ _)
          | (refine Awp.skip ?_; show Exists _)
          | (refine Awp.exit ?_; show Awp _ _ _ _ _)
          | (refine Awp.exit ?_; show Exists _)
          | (refine Awp.exit ?_; show endK _ _ _ _ _)
          | (refine Awp.ret ?_; show endK _ _ _ _ _)
          | refine o_offT rfl rfl rfl (by first | exact .inl rfl | exact .inr rfl) ?_
          | refine o_offU rfl rfl rfl (by first | exact .inl rfl | exact .inr rfl) ?_
          | refine o_offF rfl rfl rfl (by first | exact .inl rfl | exact .inr rfl) ?_
          | (refine o_add rfl rfl rfl rfl ?_ ?_; omega)
          | refine o_len rfl TtOk rfl rfl rfl (fun _ => ?_)
          | refine o_lenOwn rfl TtOk rfl rfl rfl rfl (fun _ => ?_)
          | (refine o_calm rfl TtOk rfl rfl rfl ?_ (fun _ => ?_); first | exact True.intro | exact ⟨rfl, rfl, rfl, rfl⟩ | exact ⟨rfl, True.intro⟩ | exact ⟨rfl, rfl⟩ | exact ⟨rfl, rfl, rfl⟩ | exact rfl | exact ⟨fun h0 => by cases h0, rfl⟩ | exact (fun h0 => by cases h0) | exact ⟨rfl, by omega⟩ | exact ⟨Nat.succ_ne_zero _, rfl⟩ | omega)
          | refine o_alloc (d := 7) rfl TtOk rfl rfl rfl (fun b7 => ?_)
          | refine o_alloc (d := 8) rfl TtOk rfl rfl rfl (fun b8 => ?_)
          | refine o_box (d := 2) rfl rfl rfl rfl (fun b2 => ?_)
          | refine o_box (d := 3) rfl rfl rfl rfl (fun b3 => ?_)
          | refine o_store TtOk rfl rfl rfl rfl rfl rfl rfl ⟨rfl, rfl⟩ rfl rfl rfl rfl rfl ?_
          | (refine o_index rfl TtOk rfl rfl rfl rfl rfl rfl ?_ (getq_nat ?_) ?_; omega; omega)
          | (refine o_indexOwn TtOk rfl rfl rfl rfl rfl rfl rfl rfl _ rfl ?_ (fun bO hbO => ?_); (simp only [List.length_map]; omega))
          | (refine o_loadRow TtOk rfl rfl rfl rfl rfl (by assumption) (getq_map (List.getElem?_eq_getElem ?_)) rfl rfl (by first | exact Nat.add_zero _ | rfl) ⟨rfl, rfl⟩ ?_; omega)
          | (refine o_calm rfl TtOk rfl rfl rfl ?_ (fun _ => ?_); (show List.length _ + List.length _ ≤ 9223372036854775807; (try simp only [List.length_append, List.length_cons, List.length_nil]); omega))
          | (refine o_storeRow TtOk rfl rfl rfl rfl rfl rfl (by assumption) (getq_map (List.getElem?_eq_getElem ?_)) rfl rfl (by first | exact Nat.add_zero _ | rfl) ⟨rfl, rfl⟩ rfl rfl ?_; omega)
          | refine o_buildSlice TtOk rfl rfl rfl rfl rfl rfl rfl rfl rfl rfl rfl (by repeat' (first | exact True.intro | exact rfl | refine ⟨?_, ?_⟩)) (fun _ => ?_)
          | (refine o_append TtOk rfl rfl rfl rfl rfl rfl rfl rfl rfl (by first | exact True.intro | exact rfl) rfl rfl (fun _ => rfl) ?_ ?_ (fun _ => ?_); (simp only [List.length_map, List.length_cons, List.length_nil, List.length_append, List.length_take, List.length_drop]; omega); (simp only [List.length_map, List.length_cons, List.length_nil, List.length_append, List.length_take, List.length_drop]; omega))
          | (refine o_appendStr TtOk rfl rfl rfl rfl rfl rfl rfl rfl rfl (fun _ => rfl) ?_ (fun _ => ?_); (simp only [List.length_map, List.length_cons, List.length_nil, List.length_append, List.length_take, List.length_drop]; omega))
          | refine o_eqNil TtOk rfl rfl rfl rfl rfl ?_
          | refine o_eqArr8 TtOk rfl rfl rfl rfl rfl rfl (by kernel_rfl) ?_
          | (fail_if_success (refine o_isLit rfl (by first | exact .inl rfl | exact .inr rfl) ?_)); (refine o_splitP rfl rfl (fun hc => ?_) (fun hc => ?_) <;> try (exfalso; omega))
          | (fail_if_success (refine o_isLit rfl (by first | exact .inl rfl | exact .inr rfl) ?_)); (refine o_splitI rfl rfl (fun hc => ?_) (fun hc => ?_) <;> try (exfalso; omega))
          | (fail_if_success (refine o_isLit rfl (by first | exact .inl rfl | exact .inr rfl) ?_)); (refine o_splitN rfl rfl (fun hc => ?_) (fun hc => ?_) <;> try (exfalso; omega))
          | (fail_if_success (refine o_isLit rfl (by first | exact .inl rfl | exact .inr rfl) ?_)); (refine o_split rfl rfl (fun hc => ?_) (fun hc => ?_))
          | refine a_condT rfl ?_
          | refine a_condF rfl ?_
          | (refine a_condP rfl (fun hc => ?_) (fun hc => ?_)) <;> (try (exfalso; omega))
          | (refine a_condI rfl (fun hc => ?_) (fun hc => ?_)) <;> (try (exfalso; omega))
          | (refine a_condN rfl (fun hc => ?_) (fun hc => ?_)) <;> (try (exfalso; omega))
          | (refine Awp.cond rfl (fun hc => ?_) (fun hc => ?_))
          | (refine o_call0 rfl (hc1) ⟨SLe.of_eq rfl, SLe.of_eq rfl, True.intro⟩ rfl ?_; rintro _ _ ⟨rfl, rfl⟩; refine ⟨rfl, ?_⟩)
          | (refine o_call0 rfl (hc2) ⟨SLe.of_eq rfl, SLe.of_eq rfl, True.intro⟩ rfl ?_; rintro _ _ ⟨rfl, rfl⟩; refine ⟨rfl, ?_⟩))
        refine ⟨(i + 1, _), [], by show i + 1 ≤ s.fs.length; omega, by show s.fs.length - (i + 1) < s.fs.length - i; omega, rfl, ⟨sle_i rfl, sle_i rfl, sle_sl rfl, sle_own, sle_ptr, sle_ptr, True.intro⟩, HLe.cons 31 rfl (HOLe.row ?_) (HLe.cons 3 rfl (HOLe.refl _) (HLe.cons 2 rfl (HOLe.refl _) .nil))⟩
        rw [hst, Bool.false_or, if_pos rfl, List.map_append]; rfl
      | false =>
        repeat' (first
          | refine Awp.seq ?_
          | refine Awp.block ?_
          | refine Awp.region ?_
          | (refine Ops.nil ?_; show Awp _ _ _ _ _)
          | (refine Ops.nil ?_; show Exists _)
          | (refine Ops.nil ?_; show endK _ _ _ _ _)
          | (refine Awp.skip ?_; show Awp _ _ _ _ _)
          | (refine Awp.skip ?_; show endK _ _ _ _ _)
          | (refine Awp.skip ?_; show Exists _)
          | (refine Awp.exit ?_; show Awp _ _ _ _ _)
          | (refine Awp.exit ?_; show Exists _)
          | (refine Awp.exit ?_; show endK _ _ _ _ _)
          | (refine Awp.ret ?_; show endK _ _ _ _ _)
          | refine o_offT rfl rfl rfl (by first | exact .inl rfl | exact .inr rfl) ?_
          | refine o_offU rfl rfl rfl (by first | exact .inl rfl | exact .inr rfl) ?_
          | refine o_offF rfl rfl rfl (by first | exact .inl rfl | exact .inr rfl) ?_
          | (refine o_add rfl rfl rfl rfl ?_ ?_; omega)
          | refine o_len rfl TtOk rfl rfl rfl (fun _ => ?_)
          | refine o_lenOwn rfl TtOk rfl rfl rfl rfl (fun _ => ?_)
          | (refine o_calm rfl TtOk rfl rfl rfl ?_ (fun _ => ?_); first | exact True.intro | exact ⟨rfl, rfl, rfl, rfl⟩ | exact ⟨rfl, True.intro⟩ | exact ⟨rfl, rfl⟩ | exact ⟨rfl, rfl, rfl⟩ | exact rfl | exact ⟨fun h0 => by cases h0, rfl⟩ | exact (fun h0 => by cases h0) | exact ⟨rfl, by omega⟩ | exact ⟨Nat.succ_ne_zero _, rfl⟩ | omega)
          | refine o_alloc (d := 7) rfl TtOk rfl rfl rfl (fun b7 => ?_)
          | refine o_alloc (d := 8) rfl TtOk rfl rfl rfl (fun b8 => ?_)
          | refine o_box (d := 2) rfl rfl rfl rfl (fun b2 => ?_)
          | refine o_box (d := 3) rfl rfl rfl rfl (fun b3 => ?_)
          | refine o_store TtOk rfl rfl rfl rfl rfl rfl rfl ⟨rfl, rfl⟩ rfl rfl rfl rfl rfl ?_
          | (refine o_index rfl TtOk rfl rfl rfl rfl rfl rfl ?_ (getq_nat ?_) ?_; omega; omega)
          | (refine o_indexOwn TtOk rfl rfl rfl rfl rfl rfl rfl rfl _ rfl ?_ (fun bO hbO => ?_); (simp only [List.length_map]; omega))
          | (refine o_loadRow TtOk rfl rfl rfl rfl rfl (by assumption) (getq_map (List.getElem?_eq_getElem ?_)) rfl rfl (by first | exact Nat.add_zero _ | rfl) ⟨rfl, rfl⟩ ?_; omega)
          | (refine o_calm rfl TtOk rfl rfl rfl ?_ (fun _ => ?_); (show List.length _ + List.length _ ≤ 9223372036854775807; (try simp only [List.length_append, List.length_cons, List.length_nil]); omega))
          | (refine o_storeRow TtOk rfl rfl rfl rfl rfl rfl (by assumption) (getq_map (List.getElem?_eq_getElem ?_)) rfl rfl (by first | exact Nat.add_zero _ | rfl) ⟨rfl, rfl⟩ rfl rfl ?_; omega)
          | refine o_buildSlice TtOk rfl rfl rfl rfl rfl rfl rfl rfl rfl rfl rfl (by repeat' (first | exact True.intro | exact rfl | refine ⟨?_, ?_⟩)) (fun _ => ?_)
          | (refine o_append TtOk rfl rfl rfl rfl rfl rfl rfl rfl rfl (by first | exact True.intro | exact rfl) rfl rfl (fun _ => rfl) ?_ ?_ (fun _ => ?_); (simp only [List.length_map, List.length_cons, List.length_nil, List.length_append, List.length_take, List.length_drop]; omega); (simp only [List.length_map, List.length_cons, List.length_nil, List.length_append, List.length_take, List.length_drop]; omega))
          | (refine o_appendStr TtOk rfl rfl rfl rfl rfl rfl rfl rfl rfl (fun _ => rfl) ?_ (fun _ => ?_); (simp only [List.length_map, List.length_cons, List.length_nil, List.length_append, List.length_take, List.length_drop]; omega))
          | refine o_eqNil TtOk rfl rfl rfl rfl rfl ?_
          | refine o_eqArr8 TtOk rfl rfl rfl rfl rfl rfl (by kernel_rfl) ?_
          | (fail_if_success (refine o_isLit rfl (by first | exact .inl rfl | exact .inr rfl) ?_)); (refine o_splitP rfl rfl (fun hc => ?_) (fun hc => ?_) <;> try (exfalso; omega))
          | (fail_if_success (refine o_isLit rfl (by first | exact .inl rfl | exact .inr rfl) ?_)); (refine o_splitI rfl rfl (fun hc => ?_) (fun hc => ?_) <;> try (exfalso; omega))
          | (fail_if_success (refine o_isLit rfl (by first | exact .inl rfl | exact .inr rfl) ?_)); (refine o_splitN rfl rfl (fun hc => ?_) (fun hc => ?_) <;> try (exfalso; omega))
          | (fail_if_success (refine o_isLit rfl (by first | exact .inl rfl | exact .inr rfl) ?_)); (refine o_split rfl rfl (fun hc => ?_) (fun hc => ?_))
          | refine a_condT rfl ?_
          | refine a_condF rfl ?_
          | (refine a_condP rfl (fun hc => ?_) (fun hc => ?_)) <;> (try (exfalso; omega))
          | (refine a_condI rfl (fun hc => ?_) (fun hc => ?_)) <;> (try (exfalso; omega))
          | (refine a_condN rfl (fun hc => ?_) (fun hc => ?_)) <;> (try (exfalso; omega))
          | (refine Awp.cond rfl (fun hc => ?_) (fun hc => ?_))
          | (refine o_call0 rfl (hc1) ⟨SLe.of_eq rfl, SLe.of_eq rfl, True.intro⟩ rfl ?_; rintro _ _ ⟨rfl, rfl⟩; refine ⟨rfl, ?_⟩)
          | (refine o_call0 rfl (hc2) ⟨SLe.of_eq rfl, SLe.of_eq rfl, True.intro⟩ rfl ?_; rintro _ _ ⟨rfl, rfl⟩; refine ⟨rfl, ?_⟩))
        refine ⟨(i + 1, _), [], by show i + 1 ≤ s.fs.length; omega, by show s.fs.length - (i + 1) < s.fs.length - i; omega, rfl, ⟨sle_i rfl, sle_i rfl, sle_sl rfl, sle_own, sle_ptr, sle_ptr, True.intro⟩, HLe.cons 31 rfl (HOLe.row ?_) (HLe.cons 3 rfl (HOLe.refl _) (HLe.cons 2 rfl (HOLe.refl _) .nil))⟩
        rw [hst, Bool.false_or, if_neg (by decide)]
  have hil : i = s.fs.length := by omega
  subst hil
  rw [List.take_length]
  have hfl := mineF_len s.fs j
  generalize mineF s.fs j = mine at hla hfl ⊢
  refine Awp.weaken [31] (S' := ⟨46, [(12, .i .i64 (s.fs.length : Nat)), (11, .i .i64 s.fs.length), (5, .sl 5 (mine.map eF)), (2, .ptr 2 b2 [] 0), (3, .ptr 3 b3 [] 0)], [(3, .var b3 (.agg [.i .i64 j.lev, .sl 1 (j.fr.map (AV.i .i64)), .sl 1 (j.to.map (AV.i .i64))])), (2, .var b2 (.agg [.i .i64 s.next, .i .i64 s.log, .sl 5 (s.fs.map eF)]))]⟩) ⟨rfl, ⟨sle_i rfl, sle_i rfl, SLe.of_cle (CLe.fz (.head _)) rfl, sle_ptr, sle_ptr, True.intro⟩, HLe.cons 3 rfl (HOLe.refl _) (HLe.cons 2 rfl (HOLe.refl _) .nil)⟩ ?_
  by_cases h0 : mine.length = 0
  · rw [if_pos h0] at hla
    subst hla
    repeat' (first
      | refine Awp.seq ?_
      | refine Awp.block ?_
      | refine Awp.region ?_
      | (refine Ops.nil ?_; show Awp _ _ _ _ _)
      | (refine Ops.nil ?_; show Exists _)
      | (refine Ops.nil ?_; show endK _ _ _ _ _)
      | (refine Awp.skip ?_; show Awp _ _ _ _ _)
      | (refine Awp.skip ?_; show endK _ _ _ _ _)
      | (refine Awp.skip ?_; show Exists _)
      | (refine Awp.exit ?_; show Awp _ _ _ _ _)
      | (refine Awp.exit ?_; show Exists _)
      | (refine Awp.exit ?_; show endK _ _ _ _ _)
      | (refine Awp.ret ?_; show endK _ _ _ _ _)
      | refine o_offT rfl rfl rfl (by first | exact .inl rfl | exact .inr rfl) ?_
      | refine o_offU rfl rfl rfl (by first | exact .inl rfl | exact .inr rfl) ?_
      | refine o_offF rfl rfl rfl (by first | exact .inl rfl | exact .inr rfl) ?_
      | (refine o_add rfl rfl rfl rfl ?_ ?_; omega)
      | refine o_len rfl TtOk rfl rfl rfl (fun _ => ?_)
      | refine o_lenOwn rfl TtOk rfl rfl rfl rfl (fun _ => ?_)
      | (refine o_calm rfl TtOk rfl rfl rfl ?_ (fun _ => ?_); first | exact True.intro | exact ⟨rfl, rfl, rfl, rfl⟩ | exact ⟨rfl, True.intro⟩ | exact ⟨rfl, rfl⟩ | exact ⟨rfl, rfl, rfl⟩ | exact rfl | exact ⟨fun h0 => by cases h0, rfl⟩ | exact (fun h0 => by cases h0) | exact ⟨rfl, by omega⟩ | exact ⟨Nat.succ_ne_zero _, rfl⟩ | omega)
      | refine o_alloc (d := 7) rfl TtOk rfl rfl rfl (fun b7 => ?_)
      | refine o_alloc (d := 8) rfl TtOk rfl rfl rfl (fun b8 => ?_)
      | refine o_box (d := 2) rfl rfl rfl rfl (fun b2 => ?_)
      | refine o_box (d := 3) rfl rfl rfl rfl (fun b3 => ?_)
      | refine o_store TtOk rfl rfl rfl rfl rfl rfl rfl ⟨rfl, rfl⟩ rfl rfl rfl rfl rfl ?_
      | (refine o_index rfl TtOk rfl rfl rfl rfl rfl rfl ?_ (getq_nat ?_) ?_; omega; omega)
      | (refine o_indexOwn TtOk rfl rfl rfl rfl rfl rfl rfl rfl _ rfl ?_ (fun bO hbO => ?_); (simp only [List.length_map]; omega))
      | (refine o_loadRow TtOk rfl rfl rfl rfl rfl (by assumption) (getq_map (List.getElem?_eq_getElem ?_)) rfl rfl (by first | exact Nat.add_zero _ | rfl) ⟨rfl, rfl⟩ ?_; omega)
      | (refine o_calm rfl TtOk rfl rfl rfl ?_ (fun _ => ?_); (show List.length _ + List.length _ ≤ 9223372036854775807; (try simp only [List.length_append, List.length_cons, List.length_nil]); omega))
      | (refine o_storeRow TtOk rfl rfl rfl rfl rfl rfl (by assumption) (getq_map (List.getElem?_eq_getElem ?_)) rfl rfl (by first | exact Nat.add_zero _ | rfl) ⟨rfl, rfl⟩ rfl rfl ?_; omega)
      | refine o_buildSlice TtOk rfl rfl rfl rfl rfl rfl rfl rfl rfl rfl rfl (by repeat' (first | exact True.intro | exact rfl | refine ⟨?_, ?_⟩)) (fun _ => ?_)
      | (refine o_append TtOk rfl rfl rfl rfl rfl rfl rfl rfl rfl (by first | exact True.intro | exact rfl) rfl rfl (fun _ => rfl) ?_ ?_ (fun _ => ?_); (simp only [List.length_map, List.length_cons, List.length_nil, List.length_append, List.length_take, List.length_drop]; omega); (simp only [List.length_map, List.length_cons, List.length_nil, List.length_append, List.length_take, List.length_drop]; omega))
      | (refine o_appendStr TtOk rfl rfl rfl rfl rfl rfl rfl rfl rfl (fun _ => rfl) ?_ (fun _ => ?_); (simp only [List.length_map, List.length_cons, List.length_nil, List.length_append, List.length_take, List.length_drop]; omega))
      | refine o_eqNil TtOk rfl rfl rfl rfl rfl ?_
      | refine o_eqArr8 TtOk rfl rfl rfl rfl rfl rfl (by kernel_rfl) ?_
      | (fail_if_success (refine o_isLit rfl (by first | exact .inl rfl | exact .inr rfl) ?_)); (refine o_splitP rfl rfl (fun hc => ?_) (fun hc => ?_) <;> try (exfalso; omega))
      | (fail_if_success (refine o_isLit rfl (by first | exact .inl rfl | exact .inr rfl) ?_)); (refine o_splitI rfl rfl (fun hc => ?_) (fun hc => ?_) <;> try (exfalso; omega))
      | (fail_if_success (refine o_isLit rfl (by first | exact .inl rfl | exact .inr rfl) ?_)); (refine o_splitN rfl rfl (fun hc => ?_) (fun hc => ?_) <;> try (exfalso; omega))
      | (fail_if_success (refine o_isLit rfl (by first | exact .inl rfl | exact .inr rfl) ?_)); (refine o_split rfl rfl (fun hc => ?_) (fun hc => ?_))
      | refine a_condT rfl ?_
      | refine a_condF rfl ?_
      | (refine a_condP rfl (fun hc => ?_) (fun hc => ?_)) <;> (try (exfalso; omega))
      | (refine a_condI rfl (fun hc => ?_) (fun hc => ?_)) <;> (try (exfalso; omega))
      | (refine a_condN rfl (fun hc => ?_) (fun hc => ?_)) <;> (try (exfalso; omega))
      | (refine Awp.cond rfl (fun hc => ?_) (fun hc => ?_)))
    exact end_tmp rfl rfl rfl [] [] (CLe.of_eq rfl) .nil ⟨rfl, rfl⟩ _ (.inl rfl)
  · rw [if_neg h0] at hla
    have hsp := span_spec mine (by omega) (by omega)
    rw [← spanH_eq mine (by omega)] at hsp
    generalize spanH mine = sp at hla hsp
    generalize belowF s.fs (j.lev + 1) = bl at hla hbe hbl
    have hct := ctf_spec bl 45 [.cp (eF sp)] rfl (meetsF sp) (fun x _ => last1_spec x sp) (by omega)
    generalize bl.any (meetsF sp) = an at hla hct
    repeat' (first
      | refine Awp.seq ?_
      | refine Awp.block ?_
      | refine Awp.region ?_
      | (refine Ops.nil ?_; show Awp _ _ _ _ _)
      | (refine Ops.nil ?_; show Exists _)
      | (refine Ops.nil ?_; show endK _ _ _ _ _)
      | (refine Awp.skip ?_; show Awp _ _ _ _ _)
      | (refine Awp.skip ?_; show endK _ _ _ _ _)
      | (refine Awp.skip ?_; show Exists _)
      | (refine Awp.exit ?_; show Awp _ _ _ _ _)
      | (refine Awp.exit ?_; show Exists _)
      | (refine Awp.exit ?_; show endK _ _ _ _ _)
      | (refine Awp.ret ?_; show endK _ _ _ _ _)
      | refine o_offT rfl rfl rfl (by first | exact .inl rfl | exact .inr rfl) ?_
      | refine o_offU rfl rfl rfl (by first | exact .inl rfl | exact .inr rfl) ?_
      | refine o_offF rfl rfl rfl (by first | exact .inl rfl | exact .inr rfl) ?_
      | (refine o_add rfl rfl rfl rfl ?_ ?_; omega)
      | refine o_len rfl TtOk rfl rfl rfl (fun _ => ?_)
      | refine o_lenOwn rfl TtOk rfl rfl rfl rfl (fun _ => ?_)
      | (refine o_calm rfl TtOk rfl rfl rfl ?_ (fun _ => ?_); first | exact True.intro | exact ⟨rfl, rfl, rfl, rfl⟩ | exact ⟨rfl, True.intro⟩ | exact ⟨rfl, rfl⟩ | exact ⟨rfl, rfl, rfl⟩ | exact rfl | exact ⟨fun h0 => by cases h0, rfl⟩ | exact (fun h0 => by cases h0) | exact ⟨rfl, by omega⟩ | exact ⟨Nat.succ_ne_zero _, rfl⟩ | omega)
      | refine o_alloc (d := 7) rfl TtOk rfl rfl rfl (fun b7 => ?_)
      | refine o_alloc (d := 8) rfl TtOk rfl rfl rfl (fun b8 => ?_)
      | refine o_box (d := 2) rfl rfl rfl rfl (fun b2 => ?_)
      | refine o_box (d := 3) rfl rfl rfl rfl (fun b3 => ?_)
      | refine o_store TtOk rfl rfl rfl rfl rfl rfl rfl ⟨rfl, rfl⟩ rfl rfl rfl rfl rfl ?_
      | (refine o_index rfl TtOk rfl rfl rfl rfl rfl rfl ?_ (getq_nat ?_) ?_; omega; omega)
      | (refine o_indexOwn TtOk rfl rfl rfl rfl rfl rfl rfl rfl _ rfl ?_ (fun bO hbO => ?_); (simp only [List.length_map]; omega))
      | (refine o_loadRow TtOk rfl rfl rfl rfl rfl (by assumption) (getq_map (List.getElem?_eq_getElem ?_)) rfl rfl (by first | exact Nat.add_zero _ | rfl) ⟨rfl, rfl⟩ ?_; omega)
      | (refine o_calm rfl TtOk rfl rfl rfl ?_ (fun _ => ?_); (show List.length _ + List.length _ ≤ 9223372036854775807; (try simp only [List.length_append, List.length_cons, List.length_nil]); omega))
      | (refine o_storeRow TtOk rfl rfl rfl rfl rfl rfl (by assumption) (getq_map (List.getElem?_eq_getElem ?_)) rfl rfl (by first | exact Nat.add_zero _ | rfl) ⟨rfl, rfl⟩ rfl rfl ?_; omega)
      | refine o_buildSlice TtOk rfl rfl rfl rfl rfl rfl rfl rfl rfl rfl rfl (by repeat' (first | exact True.intro | exact rfl | refine ⟨?_, ?_⟩)) (fun _ => ?_)
      | (refine o_append TtOk rfl rfl rfl rfl rfl rfl rfl rfl rfl (by first | exact True.intro | exact rfl) rfl rfl (fun _ => rfl) ?_ ?_ (fun _ => ?_); (simp only [List.length_map, List.length_cons, List.length_nil, List.length_append, List.length_take, List.length_drop]; omega); (simp only [List.length_map, List.length_cons, List.length_nil, List.length_append, List.length_take, List.length_drop]; omega))
      | (refine o_appendStr TtOk rfl rfl rfl rfl rfl rfl rfl rfl rfl (fun _ => rfl) ?_ (fun _ => ?_); (simp only [List.length_map, List.length_cons, List.length_nil, List.length_append, List.length_take, List.length_drop]; omega))
      | refine o_eqNil TtOk rfl rfl rfl rfl rfl ?_
      | refine o_eqArr8 TtOk rfl rfl rfl rfl rfl rfl (by kernel_rfl) ?_
      | (fail_if_success (refine o_isLit rfl (by first | exact .inl rfl | exact .inr rfl) ?_)); (refine o_splitP rfl rfl (fun hc => ?_) (fun hc => ?_) <;> try (exfalso; omega))
      | (fail_if_success (refine o_isLit rfl (by first | exact .inl rfl | exact .inr rfl) ?_)); (refine o_splitI rfl rfl (fun hc => ?_) (fun hc => ?_) <;> try (exfalso; omega))
      | (fail_if_success (refine o_isLit rfl (by first | exact .inl rfl | exact .inr rfl) ?_)); (refine o_splitN rfl rfl (fun hc => ?_) (fun hc => ?_) <;> try (exfalso; omega))
      | (fail_if_success (refine o_isLit rfl (by first | exact .inl rfl | exact .inr rfl) ?_)); (refine o_split rfl rfl (fun hc => ?_) (fun hc => ?_))
      | refine a_condT rfl ?_
      | refine a_condF rfl ?_
      | (refine a_condP rfl (fun hc => ?_) (fun hc => ?_)) <;> (try (exfalso; omega))
      | (refine a_condI rfl (fun hc => ?_) (fun hc => ?_)) <;> (try (exfalso; omega))
      | (refine a_condN rfl (fun hc => ?_) (fun hc => ?_)) <;> (try (exfalso; omega))
      | (refine Awp.cond rfl (fun hc => ?_) (fun hc => ?_))
      | (refine o_freezeV 8 8 rfl rfl rfl ?_; refine o_makeFunc1 rfl rfl rfl rfl rfl ?_)
      | (refine o_call0 rfl (hsp) ⟨SLe.of_eq rfl, True.intro⟩ rfl ?_; rintro _ _ ⟨rfl, rfl⟩; refine ⟨rfl, ?_⟩)
      | (refine o_call0 rfl (hbe) ⟨SLe.of_eq rfl, SLe.of_eq rfl, True.intro⟩ rfl ?_; rintro _ _ ⟨rfl, rfl⟩; refine ⟨rfl, ?_⟩)
      | (refine o_call0 rfl (hct) ⟨SLe.of_eq rfl, SLe.of_eq rfl, True.intro⟩ rfl ?_; rintro _ _ ⟨rfl, rfl⟩; refine ⟨rfl, ?_⟩))
    subst hla
    exact end_tmp rfl rfl rfl [] [] (CLe.of_eq rfl) .nil ⟨rfl, rfl⟩ _ (.inl rfl)
def minStep (m x : Fl) : Fl := if x.num < m.num then x else m
def minG (o : Fl) (l : List Fl) : Fl := l.foldl minStep o
theorem minG_step (o : Fl) (l : List Fl) (i : Nat) (h : i < l.length) : minG o (l.take (i + 1)) = minStep (minG o (l.take i)) l[i] := by
  unfold minG
  rw [List.take_succ_eq_append_getElem h, List.foldl_append]; rfl
theorem pick1_spec (a b : Fl) : Spec Try.prog 36 [eF a, eF b] [] (fun v os => v = .i .i64 (cmpI a.num b.num) ∧ os = []) := by
  refine spec_of TtOk [] Try.func36 rfl Try.ntmps36 (by kernel_rfl) rfl rfl (fun C => ?_) rfl
  have h1 := comparei_spec a.num b.num
  generalize cmpI a.num b.num = r at h1 ⊢
  unfold eF
  repeat' (first
    | refine Awp.seq ?_
    | refine Awp.region ?_
    | (refine Ops.nil ?_; show Awp _ _ _ _ _)
    | (refine Ops.nil ?_; show Exists _)
    | (refine Ops.nil ?_; show endK _ _ _ _ _)
    | (refine Awp.ret ?_; show endK _ _ _ _ _)
    | (refine o_calm rfl TtOk rfl rfl rfl ?_ (fun _ => ?_); first | exact True.intro | exact ⟨rfl, rfl, rfl, rfl⟩ | exact ⟨rfl, True.intro⟩ | exact ⟨rfl, rfl⟩ | exact ⟨rfl, rfl, rfl⟩ | exact rfl | exact ⟨fun h0 => by cases h0, rfl⟩ | exact (fun h0 => by cases h0) | exact ⟨rfl, by omega⟩ | exact ⟨Nat.succ_ne_zero _, rfl⟩ | omega)
    | refine o_box rfl rfl rfl rfl (fun _ => ?_)
    | (refine o_call0 rfl (h1) ⟨SLe.of_eq rfl, SLe.of_eq rfl, True.intro⟩ rfl ?_; rintro _ _ ⟨rfl, rfl⟩; refine ⟨rfl, ?_⟩))
  exact end_tmp rfl rfl rfl [] [] (CLe.of_eq rfl) .nil ⟨rfl, rfl⟩ _ (.inl rfl)
theorem minf_spec (l : List Fl) (h0 : 0 < l.length) (hl : l.length ≤ 1000) : Spec Try.prog 35 [.sl 5 (l.map eF), .fn (.func 36) []] [] (fun v os => v = eF (minG l[0] l) ∧ os = []) := by
  refine spec_of TtOk [] Try.func35 rfl Try.ntmps35 (by kernel_rfl) rfl rfl (fun C => ?_) rfl
  repeat' (first
    | refine Awp.seq ?_
    | refine Awp.block ?_
    | refine Awp.region ?_
    | (refine Ops.nil ?_; show Awp _ _ _ _ _)
    | (refine Ops.nil ?_; show Exists _)
    | (refine Ops.nil ?_; show endK _ _ _ _ _)
    | (refine Awp.skip ?_; show Awp _ _ _ _ _)
    | (refine Awp.skip ?_; show endK _ _ _ _ _)
    | (refine Awp.skip ?_; show Exists _)
    | (refine Awp.exit ?_; show Awp _ _ _ _ _)
    | (refine Awp.exit ?_; show Exists _)
    | (refine Awp.exit ?_; show endK _ _ _ _ _)
    | (refine Awp.ret ?_; show endK _ _ _ _ _)
    | (refine o_add rfl rfl rfl rfl ?_ ?_; omega)
    | refine o_len rfl TtOk rfl rfl rfl (fun _ => ?_)
    | refine o_lenOwn rfl TtOk rfl rfl rfl rfl (fun _ => ?_)
    | (refine o_calm rfl TtOk rfl rfl rfl ?_ (fun _ => ?_); first | exact True.intro | exact ⟨rfl, rfl, rfl, rfl⟩ | exact ⟨rfl, True.intro⟩ | exact ⟨rfl, rfl⟩ | exact ⟨rfl, rfl, rfl⟩ | exact rfl | exact ⟨fun h0 => by cases h0, rfl⟩ | exact (fun h0 => by cases h0) | exact ⟨rfl, by omega⟩ | exact ⟨Nat.succ_ne_zero _, rfl⟩ | omega)
    | refine o_alloc (d := 4) rfl TtOk rfl rfl rfl (fun b4 => ?_)
    | refine o_alloc (d := 5) rfl TtOk rfl rfl rfl (fun b5 => ?_)
    | refine o_store TtOk rfl rfl rfl rfl rfl rfl rfl ⟨rfl, rfl⟩ rfl rfl rfl rfl rfl ?_
    | (refine o_index rfl TtOk rfl rfl rfl rfl rfl rfl ?_ (getq_nat ?_) ?_; omega; omega)
    | (refine o_indexOwn TtOk rfl rfl rfl rfl rfl rfl rfl rfl _ rfl ?_ (fun bO hbO => ?_); (simp only [List.length_map]; omega))
    | (refine o_loadRow TtOk rfl rfl rfl rfl rfl (by assumption) (getq_map (List.getElem?_eq_getElem ?_)) rfl rfl (by first | exact Nat.add_zero _ | rfl) ⟨rfl, rfl⟩ ?_; omega)
    | (refine o_calm rfl TtOk rfl rfl rfl ?_ (fun _ => ?_); (show List.length _ + List.length _ ≤ 9223372036854775807; (try simp only [List.length_append, List.length_cons, List.length_nil]); omega))
    | (refine o_storeRow TtOk rfl rfl rfl rfl rfl rfl (by assumption) (getq_map (List.getElem?_eq_getElem ?_)) rfl rfl (by first | exact Nat.add_zero _ | rfl) ⟨rfl, rfl⟩ rfl rfl ?_; omega)
    | refine a_condT rfl ?_
    | refine a_condF rfl ?_
    | (refine a_condP rfl (fun hc => ?_) (fun hc => ?_)) <;> (try (exfalso; omega))
    | (refine a_condI rfl (fun hc => ?_) (fun hc => ?_)) <;> (try (exfalso; omega))
    | (refine a_condN rfl (fun hc => ?_) (fun hc => ?_)) <;> (try (exfalso; omega))
    | (refine Awp.cond rfl (fun hc => ?_) (fun hc => ?_))
    | refine a_any 7 [] [] [] [0, 1, 2, 3, 4, 5, 6, 7] (by kernel_rfl) (by kernel_rfl) (by kernel_rfl) rfl rfl rfl ?_
    | (refine o_index rfl TtOk rfl rfl rfl rfl rfl rfl ?_ (getq_as 0 ?_ h0) ?_; omega; omega))
  refine Awp.loop (fun q : Nat => ⟨33, [(6, .i .i64 q), (5, .ptr 5 b5 [] 0), (4, .ptr 4 b4 [] 0), (0, .sl 5 (l.map eF)), (1, .fn (.func 36) [])], [(5, .var b5 (eF (minG l[0] (l.take q)))), (4, .var b4 (.agg [.i .i64 0, .i .i64 0, .i .i64 0, .s [], .s []]))]⟩) (fun q => 1 ≤ q ∧ q ≤ l.length) (fun q => l.length - q) [] 1 ⟨Nat.le_refl _, h0⟩ ?_ ?_
  · have e1 : minG l[0] (l.take 1) = l[0] := by
      rw [minG_step l[0] l 0 h0]
      show minStep l[0] l[0] = l[0]
      unfold minStep; rw [if_neg (Int.lt_irrefl _)]
    exact ⟨rfl, ⟨sle_i rfl, sle_ptr, sle_ptr, sle_sl rfl, SLe.of_eq rfl, True.intro⟩, HLe.cons 5 rfl (by rw [e1]; exact HOLe.refl _) (HLe.cons 4 rfl (HOLe.refl _) .nil)⟩
  rintro i ⟨hi1, hi⟩
  by_cases hlt : i < l.length
  · have hst := minG_step l[0] l i hlt
    generalize minG l[0] (l.take i) = o at hst ⊢
    have hp1 := pick1_spec l[i] o
    have hneg := @cmpI_neg l[i].num o.num
    generalize cmpI l[i].num o.num = cv at hp1 hneg
    repeat' (first
      | refine Awp.seq ?_
      | refine Awp.block ?_
      | refine Awp.region ?_
      | (refine Ops.nil ?_; show Awp _ _ _ _ _)
      | (refine Ops.nil ?_; show Exists _)
      | (refine Ops.nil ?_; show endK _ _ _ _ _)
      | (refine Awp.skip ?_; show Awp _ _ _ _ _)
      | (refine Awp.skip ?_; show endK _ _ _ _ _)
      | (refine Awp.skip ?_; show Exists _)
      | (refine Awp.exit ?_; show Awp _ _ _ _ _)
      | (refine Awp.exit ?_; show Exists _)
      | (refine Awp.exit ?_; show endK _ _ _ _ _)
      | (refine Awp.ret ?_; show endK _ _ _ _ _)
      | (refine o_add rfl rfl rfl rfl ?_ ?_; omega)
      | refine o_len rfl TtOk rfl rfl rfl (fun _ => ?_)
      | refine o_lenOwn rfl TtOk rfl rfl rfl rfl (fun _ => ?_)
      | (refine o_calm rfl TtOk rfl rfl rfl ?_ (fun _ => ?_); first | exact True.intro | exact ⟨rfl, rfl, rfl, rfl⟩ | exact ⟨rfl, True.intro⟩ | exact ⟨rfl, rfl⟩ | exact ⟨rfl, rfl, rfl⟩ | exact rfl | exact ⟨fun h0 => by cases h0, rfl⟩ | exact (fun h0 => by cases h0) | exact ⟨rfl, by omega⟩ | exact ⟨Nat.succ_ne_zero _, rfl⟩ | omega)
      | refine o_alloc (d := 4) rfl TtOk rfl rfl rfl (fun b4 => ?_)
      | refine o_alloc (d := 5) rfl TtOk rfl rfl rfl (fun b5 => ?_)
      | refine o_store TtOk rfl rfl rfl rfl rfl rfl rfl ⟨rfl, rfl⟩ rfl rfl rfl rfl rfl ?_
      | (refine o_index rfl TtOk rfl rfl rfl rfl rfl rfl ?_ (getq_nat ?_) ?_; omega; omega)
      | (refine o_indexOwn TtOk rfl rfl rfl rfl rfl rfl rfl rfl _ rfl ?_ (fun bO hbO => ?_); (simp only [List.length_map]; omega))
      | (refine o_loadRow TtOk rfl rfl rfl rfl rfl (by assumption) (getq_map (List.getElem?_eq_getElem ?_)) rfl rfl (by first | exact Nat.add_zero _ | rfl) ⟨rfl, rfl⟩ ?_; omega)
      | (refine o_calm rfl TtOk rfl rfl rfl ?_ (fun _ => ?_); (show List.length _ + List.length _ ≤ 9223372036854775807; (try simp only [List.length_append, List.length_cons, List.length_nil]); omega))
      | (refine o_storeRow TtOk rfl rfl rfl rfl rfl rfl (by assumption) (getq_map (List.getElem?_eq_getElem ?_)) rfl rfl (by first | exact Nat.add_zero _ | rfl) ⟨rfl, rfl⟩ rfl rfl ?_; omega)
      | refine a_condT rfl ?_
      | refine a_condF rfl ?_
      | (refine a_condP rfl (fun hc => ?_) (fun hc => ?_)) <;> (try (exfalso; omega))
      | (refine a_condI rfl (fun hc => ?_) (fun hc => ?_)) <;> (try (exfalso; omega))
      | (refine a_condN rfl (fun hc => ?_) (fun hc => ?_)) <;> (try (exfalso; omega))
      | (refine Awp.cond rfl (fun hc => ?_) (fun hc => ?_))
      | refine a_any 7 [5] [24, 25] [] [0, 1, 2, 3, 4, 5, 6, 7] (by kernel_rfl) (by kernel_rfl) (by kernel_rfl) rfl rfl rfl ?_
      | (refine o_callClo rfl rfl rfl hp1 ⟨SLe.of_eq rfl, SLe.of_eq rfl, True.intro⟩ rfl rfl ?_; rintro _ _ ⟨rfl, rfl⟩; refine ⟨rfl, ?_⟩))
    · have hm : minStep o l[i] = l[i] := if_pos (hneg.1 hc)
      exact ⟨i + 1, [], ⟨by omega, hlt⟩, by show l.length - (i + 1) < l.length - i; omega, rfl, ⟨sle_i rfl, sle_ptr, sle_ptr, sle_sl rfl, SLe.of_eq rfl, True.intro⟩, HLe.cons 5 rfl (by rw [hst, hm]; exact HOLe.refl _) (HLe.cons 4 rfl (HOLe.refl _) .nil)⟩
    · have hm : minStep o l[i] = o := if_neg (fun h => hc (hneg.2 h))
      exact ⟨i + 1, [], ⟨by omega, hlt⟩, by show l.length - (i + 1) < l.length - i; omega, rfl, ⟨sle_i rfl, sle_ptr, sle_ptr, sle_sl rfl, SLe.of_eq rfl, True.intro⟩, HLe.cons 5 rfl (by rw [hst, hm]; exact HOLe.refl _) (HLe.cons 4 rfl (HOLe.refl _) .nil)⟩
  · have hil : i = l.length := by omega
    subst hil
    rw [List.take_length]
    generalize minG l[0] l = o
    repeat' (first
      | refine Awp.seq ?_
      | refine Awp.block ?_
      | refine Awp.region ?_
      | (refine Ops.nil ?_; show Awp _ _ _ _ _)
      | (refine Ops.nil ?_; show Exists _)
      | (refine Ops.nil ?_; show endK _ _ _ _ _)
      | (refine Awp.skip ?_; show Awp _ _ _ _ _)
      | (refine Awp.skip ?_; show endK _ _ _ _ _)
      | (refine Awp.skip ?_; show Exists _)
      | (refine Awp.exit ?_; show Awp _ _ _ _ _)
      | (refine Awp.exit ?_; show Exists _)
      | (refine Awp.exit ?_; show endK _ _ _ _ _)
      | (refine Awp.ret ?_; show endK _ _ _ _ _)
      | (refine o_add rfl rfl rfl rfl ?_ ?_; omega)
      | refine o_len rfl TtOk rfl rfl rfl (fun _ => ?_)
      | refine o_lenOwn rfl TtOk rfl rfl rfl rfl (fun _ => ?_)
      | (refine o_calm rfl TtOk rfl rfl rfl ?_ (fun _ => ?_); first | exact True.intro | exact ⟨rfl, rfl, rfl, rfl⟩ | exact ⟨rfl, True.intro⟩ | exact ⟨rfl, rfl⟩ | exact ⟨rfl, rfl, rfl⟩ | exact rfl | exact ⟨fun h0 => by cases h0, rfl⟩ | exact (fun h0 => by cases h0) | exact ⟨rfl, by omega⟩ | exact ⟨Nat.succ_ne_zero _, rfl⟩ | omega)
      | refine o_alloc (d := 4) rfl TtOk rfl rfl rfl (fun b4 => ?_)
      | refine o_alloc (d := 5) rfl TtOk rfl rfl rfl (fun b5 => ?_)
      | refine o_store TtOk rfl rfl rfl rfl rfl rfl rfl ⟨rfl, rfl⟩ rfl rfl rfl rfl rfl ?_
      | (refine o_index rfl TtOk rfl rfl rfl rfl rfl rfl ?_ (getq_nat ?_) ?_; omega; omega)
      | (refine o_indexOwn TtOk rfl rfl rfl rfl rfl rfl rfl rfl _ rfl ?_ (fun bO hbO => ?_); (simp only [List.length_map]; omega))
      | (refine o_loadRow TtOk rfl rfl rfl rfl rfl (by assumption) (getq_map (List.getElem?_eq_getElem ?_)) rfl rfl (by first | exact Nat.add_zero _ | rfl) ⟨rfl, rfl⟩ ?_; omega)
      | (refine o_calm rfl TtOk rfl rfl rfl ?_ (fun _ => ?_); (show List.length _ + List.length _ ≤ 9223372036854775807; (try simp only [List.length_append, List.length_cons, List.length_nil]); omega))
      | (refine o_storeRow TtOk rfl rfl rfl rfl rfl rfl (by assumption) (getq_map (List.getElem?_eq_getElem ?_)) rfl rfl (by first | exact Nat.add_zero _ | rfl) ⟨rfl, rfl⟩ rfl rfl ?_; omega)
      | refine a_condT rfl ?_
      | refine a_condF rfl ?_
      | (refine a_condP rfl (fun hc => ?_) (fun hc => ?_)) <;> (try (exfalso; omega))
      | (refine a_condI rfl (fun hc => ?_) (fun hc => ?_)) <;> (try (exfalso; omega))
      | (refine a_condN rfl (fun hc => ?_) (fun hc => ?_)) <;> (try (exfalso; omega))
      | (refine Awp.cond rfl (fun hc => ?_) (fun hc => ?_))
      | refine a_any 7 [] [] [] [0, 1, 2, 3, 4, 5, 6, 7] (by kernel_rfl) (by kernel_rfl) (by kernel_rfl) rfl rfl rfl ?_)
    refine end_all [] [] (eF o) rfl ?_ ?_ (RLe.slot (SLe.of_cle (CLe.of_eq rfl) rfl)) .nil ⟨rfl, rfl⟩ _ (.inl rfl)
    all_goals first | exact ⟨trivial, trivial⟩ | trivial | exact ⟨trivial, trivial, trivial⟩ | trace_state
end Go.Proofs.Ytnmnhnlebkebfaa
