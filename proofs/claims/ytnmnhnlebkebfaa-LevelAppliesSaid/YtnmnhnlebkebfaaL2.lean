/- level.order, level.key, level.Check by rules. -/
import Derived.Test.YtnmnhnlebkebfaaL1
import Derived.Test.YtnmnhnlebkebfaaCS
set_option maxHeartbeats 8000000
set_option maxRecDepth 100000
namespace Go.Proofs.Ytnmnhnlebkebfaa
open Go Go.RowKit
theorem order_spec (a b : Fl) : Spec Try.prog 52 [eF a, eF b] [] (fun v os => v = .i .i64 (ordF a b) ∧ os = []) := by
  refine spec_of TtOk [] Try.func52 rfl Try.ntmps52 (by kernel_rfl) rfl rfl (fun C => ?_) rfl
  have h1 := comparei_spec a.lev b.lev
  have h2 := comparei_spec b.num a.num
  have h3 := compare_spec a.first b.first
  have h4 := or_spec (cmpI a.lev b.lev) (cmpI b.num a.num)
  have ho : ordF a b = if a.lev ≠ b.lev ∨ a.lev = 0 then (if cmpI a.lev b.lev ≠ 0 then cmpI a.lev b.lev else cmpI b.num a.num) else cmpS a.first b.first := rfl
  generalize ordF a b = r at ho ⊢
  generalize cmpI a.lev b.lev = x at h1 h4 ho
  generalize cmpI b.num a.num = y at h2 h4 ho
  generalize (if x ≠ 0 then x else y) = q at h4 ho
  generalize cmpS a.first b.first = z at h3 ho
  unfold eF
  repeat' (first
    | refine Awp.seq ?_
    | refine Awp.region ?_
    | (refine Ops.nil ?_; show Awp _ _ _ _ _)
    | (refine Ops.nil ?_; show Exists _)
    | (refine Ops.nil ?_; show endK _ _ _ _ _)
    | (refine Awp.skip ?_; show Awp _ _ _ _ _)
    | (refine Awp.skip ?_; show endK _ _ _ _ _)
    | (refine Awp.skip ?_; show Exists _)
    | (refine Awp.ret ?_; show endK _ _ _ _ _)
    | refine o_offT rfl rfl rfl (by first | exact .inl rfl | exact .inr rfl) ?_
    | refine o_offU rfl rfl rfl (by first | exact .inl rfl | exact .inr rfl) ?_
    | refine o_offF rfl rfl rfl (by first | exact .inl rfl | exact .inr rfl) ?_
    | (refine o_calm rfl TtOk rfl rfl rfl ?_ (fun _ => ?_); first | exact True.intro | exact ⟨rfl, rfl, rfl, rfl⟩ | exact ⟨rfl, True.intro⟩ | exact ⟨rfl, rfl⟩ | exact ⟨rfl, rfl, rfl⟩ | exact rfl | exact ⟨fun h0 => by cases h0, rfl⟩ | exact (fun h0 => by cases h0) | exact ⟨rfl, by omega⟩ | exact ⟨Nat.succ_ne_zero _, rfl⟩ | omega)
    | refine o_box rfl rfl rfl rfl (fun _ => ?_)
    | refine o_buildSlice TtOk rfl rfl rfl rfl rfl rfl rfl rfl rfl rfl rfl (by repeat' (first | exact True.intro | exact rfl | refine ⟨?_, ?_⟩)) (fun _ => ?_)
    | refine o_eqNil TtOk rfl rfl rfl rfl rfl ?_
    | refine o_eqArr8 TtOk rfl rfl rfl rfl rfl rfl (by kernel_rfl) ?_
    | (fail_if_success (refine o_isLit rfl (by first | exact .inl rfl | exact .inr rfl) ?_)); (refine o_splitP rfl rfl (fun hc => ?_) (fun hc => ?_) <;> try (exfalso; omega))
    | (fail_if_success (refine o_isLit rfl (by first | exact .inl rfl | exact .inr rfl) ?_)); (refine o_splitI rfl rfl (fun hc => ?_) (fun hc => ?_) <;> try (exfalso; omega))
    | (fail_if_success (refine o_isLit rfl (by first | exact .inl rfl | exact .inr rfl) ?_)); (refine o_splitN rfl rfl (fun hc => ?_) (fun hc => ?_) <;> try (exfalso; omega))
    | (fail_if_success (refine o_isLit rfl (by first | exact .inl rfl | exact .inr rfl) ?_)); (refine o_split rfl rfl (fun hc => ?_) (fun hc => ?_))
    | refine a_condT rfl ?_
    | refine a_condF rfl ?_
    | (refine a_condP rfl (fun hc => ?_) (fun hc => ?_)) <;> (try (exfalso; omega))
    | (refine a_condI rfl (fun hc => ?_) (fun hc => ?_)) <;> (try (exfalso; omega))
    | (refine a_condN rfl (fun hc => ?_) (fun hc => ?_)) <;> (try (exfalso; omega))
    | (refine Awp.cond rfl (fun hc => ?_) (fun hc => ?_))
    | refine a_any 2 [] [] [] [0, 2, 5, 7, 1, 3, 6, 8, 4, 9, 10, 11, 12] (by kernel_rfl) (by kernel_rfl) (by kernel_rfl) rfl rfl rfl ?_
    | (refine o_call0 rfl (h1) ⟨SLe.of_eq rfl, SLe.of_eq rfl, True.intro⟩ rfl ?_; rintro _ _ ⟨rfl, rfl⟩; refine ⟨rfl, ?_⟩)
    | (refine o_call0 rfl (h2) ⟨SLe.of_eq rfl, SLe.of_eq rfl, True.intro⟩ rfl ?_; rintro _ _ ⟨rfl, rfl⟩; refine ⟨rfl, ?_⟩)
    | (refine o_call0 rfl (h3) ⟨SLe.of_eq rfl, SLe.of_eq rfl, True.intro⟩ rfl ?_; rintro _ _ ⟨rfl, rfl⟩; refine ⟨rfl, ?_⟩)
    | (refine o_callL rfl (h4) rfl ⟨SLe.of_cle (CLe.fz (.head _)) rfl, True.intro⟩ rfl ?_; rintro _ _ ⟨rfl, rfl⟩; refine ⟨rfl, rfl, ?_⟩))
  · rw [if_pos (.inl hc)] at ho; subst ho
    exact end_tmp rfl rfl rfl [] [] (CLe.of_eq rfl) .nil ⟨rfl, rfl⟩ _ (.inl rfl)
  · rename_i hc2
    rw [if_pos (.inr (by assumption))] at ho; subst ho
    exact end_tmp rfl rfl rfl [] [] (CLe.of_eq rfl) .nil ⟨rfl, rfl⟩ _ (.inl rfl)
  · rw [if_neg (fun h => h.elim (fun h => h (by assumption)) (by assumption))] at ho; subst ho
    exact end_tmp rfl rfl rfl [] [] (CLe.of_eq rfl) .nil ⟨rfl, rfl⟩ _ (.inl rfl)
theorem key_spec (s : List UInt8) : Spec Try.prog 54 [.s s] [] (fun v os => v = .b (keyOk s) ∧ os = []) := by
  refine spec_of TtOk [] Try.func54 rfl Try.ntmps54 (by kernel_rfl) rfl rfl (fun C => ?_) rfl
  have ho : keyOk s = (!(s == []) && decide (s.length ≤ 100)) := rfl
  have hd : decide ((s.length : Int) ≤ 100) = decide (s.length ≤ 100) := by
    by_cases h : s.length ≤ 100
    · rw [decide_eq_true h, decide_eq_true (by omega)]
    · rw [decide_eq_false h, decide_eq_false (by omega)]
  generalize keyOk s = r at ho ⊢
  repeat' (first
    | refine Awp.seq ?_
    | refine Awp.region ?_
    | (refine Ops.nil ?_; show Awp _ _ _ _ _)
    | (refine Ops.nil ?_; show Exists _)
    | (refine Ops.nil ?_; show endK _ _ _ _ _)
    | (refine Awp.ret ?_; show endK _ _ _ _ _)
    | refine o_offT rfl rfl rfl (by first | exact .inl rfl | exact .inr rfl) ?_
    | refine o_offU rfl rfl rfl (by first | exact .inl rfl | exact .inr rfl) ?_
    | refine o_offF rfl rfl rfl (by first | exact .inl rfl | exact .inr rfl) ?_
    | refine o_len rfl TtOk rfl rfl rfl (fun _ => ?_)
    | refine o_lenOwn rfl TtOk rfl rfl rfl rfl (fun _ => ?_)
    | (refine o_calm rfl TtOk rfl rfl rfl ?_ (fun _ => ?_); first | exact True.intro | exact ⟨rfl, rfl, rfl, rfl⟩ | exact ⟨rfl, True.intro⟩ | exact ⟨rfl, rfl⟩ | exact ⟨rfl, rfl, rfl⟩ | exact rfl | exact ⟨fun h0 => by cases h0, rfl⟩ | exact (fun h0 => by cases h0) | exact ⟨rfl, by omega⟩ | exact ⟨Nat.succ_ne_zero _, rfl⟩ | omega)
    | (fail_if_success (refine o_isLit rfl (by first | exact .inl rfl | exact .inr rfl) ?_)); (refine o_splitP rfl rfl (fun hc => ?_) (fun hc => ?_) <;> try (exfalso; omega))
    | (fail_if_success (refine o_isLit rfl (by first | exact .inl rfl | exact .inr rfl) ?_)); (refine o_splitI rfl rfl (fun hc => ?_) (fun hc => ?_) <;> try (exfalso; omega))
    | (fail_if_success (refine o_isLit rfl (by first | exact .inl rfl | exact .inr rfl) ?_)); (refine o_splitN rfl rfl (fun hc => ?_) (fun hc => ?_) <;> try (exfalso; omega))
    | (fail_if_success (refine o_isLit rfl (by first | exact .inl rfl | exact .inr rfl) ?_)); (refine o_split rfl rfl (fun hc => ?_) (fun hc => ?_)))
  · subst ho
    refine end_tmp rfl rfl rfl [] [] (CLe.of_eq ?_) .nil ⟨rfl, rfl⟩ _ (.inl rfl)
    have hc : (!s == []) = true := hc
    rw [hc, Bool.true_and, ← hd]; rfl
  · have hc : (!s == []) = false := hc
    rw [hc, Bool.false_and] at ho
    subst ho
    exact end_tmp rfl rfl rfl [] [] (CLe.of_eq rfl) .nil ⟨rfl, rfl⟩ _ (.inl rfl)
theorem gtr_less (a b : List UInt8) : (!(Op.bytesLess a b || a == b)) = Op.bytesLess b a := by
  rcases less_tri a b with h | rfl | h
  · rw [h, less_asymm h]; rfl
  · rw [less_irr, beq_self_eq_true]; rfl
  · rw [h, less_asymm h]
    cases hb : (a == b) with
    | false => rfl
    | true =>
      have : a = b := by simpa using hb
      subst this
      rw [less_irr] at h; cases h
theorem fcode_arg {next : Int} {pre : List Fl} {f : Fl} (h : argF next f) : fcode next pre f = 1 := if_pos h
theorem fcode_frm {next : Int} {pre : List Fl} {f : Fl} (h : ¬ argF next f) (h2 : frmF pre f) : fcode next pre f = 3 := by unfold fcode; rw [if_neg h, if_pos h2]
theorem fcode_seq {next : Int} {pre : List Fl} {f : Fl} (h : ¬ argF next f) (h2 : ¬ frmF pre f) : fcode next pre f = seqF pre f := by unfold fcode; rw [if_neg h, if_neg h2]
theorem lcheck_spec (s : Stt) : Spec Try.prog 25 [eSt s] [] (fun v os => v = .i .i64 (lcheck s) ∧ os = []) := by
  refine spec_of TtOk [] Try.func25 rfl Try.ntmps25 (by kernel_rfl) rfl rfl (fun C => ?_) rfl
  have hck : lcheck s = if headBad s then 1 else if 1000 < s.fs.length then 2 else lgo s.next [] s.fs := rfl
  generalize lcheck s = r at hck ⊢
  unfold eSt
  by_cases hh : headBad s
  · rw [if_pos hh] at hck; subst hck; unfold headBad at hh
    repeat' (first
      | refine Awp.seq ?_
      | refine Awp.block ?_
      | refine Awp.region ?_
      | (refine Ops.nil ?_; show Awp _ _ _ _ _)
      | (refine Ops.nil ?_; show Exists _)
      | (refine Ops.nil ?_; show endK _ _ _ _ _)
      | (refine Awp.skip ?_; show Awp _ _ _ _ _)
      | (refine Awp.skip ?_; show endK _ _ _ _ _)
      | (refine Awp.skip ?_; show Exists _)
      | (refine Awp.exit ?_; show Awp _ _ _ _ _)
      | (refine Awp.exit ?_; show Exists _)
      | (refine Awp.exit ?_; show endK _ _ _ _ _)
      | (refine Awp.ret ?_; show endK _ _ _ _ _)
      | refine o_offT rfl rfl rfl (by first | exact .inl rfl | exact .inr rfl) ?_
      | refine o_offU rfl rfl rfl (by first | exact .inl rfl | exact .inr rfl) ?_
      | refine o_offF rfl rfl rfl (by first | exact .inl rfl | exact .inr rfl) ?_
      | (refine o_add rfl rfl rfl rfl ?_ ?_; omega)
      | (refine o_sub rfl rfl rfl rfl ?_ ?_; omega)
      | refine o_len rfl TtOk rfl rfl rfl (fun _ => ?_)
      | refine o_lenOwn rfl TtOk rfl rfl rfl rfl (fun _ => ?_)
      | (refine o_calm rfl TtOk rfl rfl rfl ?_ (fun _ => ?_); first | exact True.intro | exact ⟨rfl, rfl, rfl, rfl⟩ | exact ⟨rfl, True.intro⟩ | exact ⟨rfl, rfl⟩ | exact ⟨rfl, rfl, rfl⟩ | exact rfl | exact ⟨fun h0 => by cases h0, rfl⟩ | exact (fun h0 => by cases h0) | exact ⟨rfl, by omega⟩ | exact ⟨Nat.succ_ne_zero _, rfl⟩ | omega)
      | refine o_alloc (d := 5) rfl TtOk rfl rfl rfl (fun b5 => ?_)
      | refine o_alloc (d := 6) rfl TtOk rfl rfl rfl (fun b6 => ?_)
      | refine o_box (d := 1) rfl rfl rfl rfl (fun b1 => ?_)
      | refine o_store TtOk rfl rfl rfl rfl rfl rfl rfl ⟨rfl, rfl⟩ rfl rfl rfl rfl rfl ?_
      | (refine o_index rfl TtOk rfl rfl rfl rfl rfl rfl ?_ (getq_nat ?_) ?_; omega; omega)
      | (refine o_indexOwn TtOk rfl rfl rfl rfl rfl rfl rfl rfl _ rfl ?_ (fun bO hbO => ?_); (simp only [List.length_map]; omega))
      | (refine o_loadRow TtOk rfl rfl rfl rfl rfl (by assumption) (getq_map (List.getElem?_eq_getElem ?_)) rfl rfl (by first | exact Nat.add_zero _ | rfl) ⟨rfl, rfl⟩ ?_; omega)
      | (refine o_calm rfl TtOk rfl rfl rfl ?_ (fun _ => ?_); (show List.length _ + List.length _ ≤ 9223372036854775807; (try simp only [List.length_append, List.length_cons, List.length_nil]); omega))
      | (refine o_storeRow TtOk rfl rfl rfl rfl rfl rfl (by assumption) (getq_map (List.getElem?_eq_getElem ?_)) rfl rfl (by first | exact Nat.add_zero _ | rfl) ⟨rfl, rfl⟩ rfl rfl ?_; omega)
      | refine o_eqNil TtOk rfl rfl rfl rfl rfl ?_
      | refine o_eqArr8 TtOk rfl rfl rfl rfl rfl rfl (by kernel_rfl) ?_
      | (fail_if_success (refine o_isLit rfl (by first | exact .inl rfl | exact .inr rfl) ?_)); (refine o_splitP rfl rfl (fun hc => ?_) (fun hc => ?_) <;> try (exfalso; omega))
      | (fail_if_success (refine o_isLit rfl (by first | exact .inl rfl | exact .inr rfl) ?_)); (refine o_splitI rfl rfl (fun hc => ?_) (fun hc => ?_) <;> try (exfalso; omega))
      | (fail_if_success (refine o_isLit rfl (by first | exact .inl rfl | exact .inr rfl) ?_)); (refine o_splitN rfl rfl (fun hc => ?_) (fun hc => ?_) <;> try (exfalso; omega))
      | (fail_if_success (refine o_isLit rfl (by first | exact .inl rfl | exact .inr rfl) ?_)); (refine o_split rfl rfl (fun hc => ?_) (fun hc => ?_))
      | refine a_condT rfl ?_
      | refine a_condF rfl ?_
      | (refine a_condP rfl (fun hc => ?_) (fun hc => ?_)) <;> (try (exfalso; omega))
      | (refine a_condI rfl (fun hc => ?_) (fun hc => ?_)) <;> (try (exfalso; omega))
      | (refine a_condN rfl (fun hc => ?_) (fun hc => ?_)) <;> (try (exfalso; omega))
      | (refine Awp.cond rfl (fun hc => ?_) (fun hc => ?_)))
    all_goals exact end_tmp rfl rfl rfl [] [] (CLe.of_eq rfl) .nil ⟨rfl, rfl⟩ _ (.inl rfl)
  rw [if_neg hh] at hck
  unfold headBad at hh
  by_cases hl : 1000 < s.fs.length
  · rw [if_pos hl] at hck; subst hck
    repeat' (first
      | refine Awp.seq ?_
      | refine Awp.block ?_
      | refine Awp.region ?_
      | (refine Ops.nil ?_; show Awp _ _ _ _ _)
      | (refine Ops.nil ?_; show Exists _)
      | (refine Ops.nil ?_; show endK _ _ _ _ _)
      | (refine Awp.skip ?_; show Awp _ _ _ _ _)
      | (refine Awp.skip ?_; show endK _ _ _ _ _)
      | (refine Awp.skip ?_; show Exists _)
      | (refine Awp.exit ?_; show Awp _ _ _ _ _)
      | (refine Awp.exit ?_; show Exists _)
      | (refine Awp.exit ?_; show endK _ _ _ _ _)
      | (refine Awp.ret ?_; show endK _ _ _ _ _)
      | refine o_offT rfl rfl rfl (by first | exact .inl rfl | exact .inr rfl) ?_
      | refine o_offU rfl rfl rfl (by first | exact .inl rfl | exact .inr rfl) ?_
      | refine o_offF rfl rfl rfl (by first | exact .inl rfl | exact .inr rfl) ?_
      | (refine o_add rfl rfl rfl rfl ?_ ?_; omega)
      | (refine o_sub rfl rfl rfl rfl ?_ ?_; omega)
      | refine o_len rfl TtOk rfl rfl rfl (fun _ => ?_)
      | refine o_lenOwn rfl TtOk rfl rfl rfl rfl (fun _ => ?_)
      | (refine o_calm rfl TtOk rfl rfl rfl ?_ (fun _ => ?_); first | exact True.intro | exact ⟨rfl, rfl, rfl, rfl⟩ | exact ⟨rfl, True.intro⟩ | exact ⟨rfl, rfl⟩ | exact ⟨rfl, rfl, rfl⟩ | exact rfl | exact ⟨fun h0 => by cases h0, rfl⟩ | exact (fun h0 => by cases h0) | exact ⟨rfl, by omega⟩ | exact ⟨Nat.succ_ne_zero _, rfl⟩ | omega)
      | refine o_alloc (d := 5) rfl TtOk rfl rfl rfl (fun b5 => ?_)
      | refine o_alloc (d := 6) rfl TtOk rfl rfl rfl (fun b6 => ?_)
      | refine o_box (d := 1) rfl rfl rfl rfl (fun b1 => ?_)
      | refine o_store TtOk rfl rfl rfl rfl rfl rfl rfl ⟨rfl, rfl⟩ rfl rfl rfl rfl rfl ?_
      | (refine o_index rfl TtOk rfl rfl rfl rfl rfl rfl ?_ (getq_nat ?_) ?_; omega; omega)
      | (refine o_indexOwn TtOk rfl rfl rfl rfl rfl rfl rfl rfl _ rfl ?_ (fun bO hbO => ?_); (simp only [List.length_map]; omega))
      | (refine o_loadRow TtOk rfl rfl rfl rfl rfl (by assumption) (getq_map (List.getElem?_eq_getElem ?_)) rfl rfl (by first | exact Nat.add_zero _ | rfl) ⟨rfl, rfl⟩ ?_; omega)
      | (refine o_calm rfl TtOk rfl rfl rfl ?_ (fun _ => ?_); (show List.length _ + List.length _ ≤ 9223372036854775807; (try simp only [List.length_append, List.length_cons, List.length_nil]); omega))
      | (refine o_storeRow TtOk rfl rfl rfl rfl rfl rfl (by assumption) (getq_map (List.getElem?_eq_getElem ?_)) rfl rfl (by first | exact Nat.add_zero _ | rfl) ⟨rfl, rfl⟩ rfl rfl ?_; omega)
      | refine o_eqNil TtOk rfl rfl rfl rfl rfl ?_
      | refine o_eqArr8 TtOk rfl rfl rfl rfl rfl rfl (by kernel_rfl) ?_
      | (fail_if_success (refine o_isLit rfl (by first | exact .inl rfl | exact .inr rfl) ?_)); (refine o_splitP rfl rfl (fun hc => ?_) (fun hc => ?_) <;> try (exfalso; omega))
      | (fail_if_success (refine o_isLit rfl (by first | exact .inl rfl | exact .inr rfl) ?_)); (refine o_splitI rfl rfl (fun hc => ?_) (fun hc => ?_) <;> try (exfalso; omega))
      | (fail_if_success (refine o_isLit rfl (by first | exact .inl rfl | exact .inr rfl) ?_)); (refine o_splitN rfl rfl (fun hc => ?_) (fun hc => ?_) <;> try (exfalso; omega))
      | (fail_if_success (refine o_isLit rfl (by first | exact .inl rfl | exact .inr rfl) ?_)); (refine o_split rfl rfl (fun hc => ?_) (fun hc => ?_))
      | refine a_condT rfl ?_
      | refine a_condF rfl ?_
      | (refine a_condP rfl (fun hc => ?_) (fun hc => ?_)) <;> (try (exfalso; omega))
      | (refine a_condI rfl (fun hc => ?_) (fun hc => ?_)) <;> (try (exfalso; omega))
      | (refine a_condN rfl (fun hc => ?_) (fun hc => ?_)) <;> (try (exfalso; omega))
      | (refine Awp.cond rfl (fun hc => ?_) (fun hc => ?_)))
    all_goals exact end_tmp rfl rfl rfl [] [] (CLe.of_eq rfl) .nil ⟨rfl, rfl⟩ _ (.inl rfl)
  rw [if_neg hl] at hck
  repeat' (first
    | refine Awp.seq ?_
    | refine Awp.block ?_
    | refine Awp.region ?_
    | (refine Ops.nil ?_; show Awp _ _ _ _ _)
    | (refine Ops.nil ?_; show Exists _)
    | (refine Ops.nil ?_; show endK _ _ _ _ _)
    | (refine Awp.skip ?_; show Awp _ _ _ _ _)
    | (refine Awp.skip ?_; show endK _ _ _ _ _)
    | (refine Awp.skip ?_; show Exists _)
    | (refine Awp.exit ?_; show Awp _ _ _ _ _)
    | (refine Awp.exit ?_; show Exists _)
    | (refine Awp.exit ?_; show endK _ _ _ _ _)
    | (refine Awp.ret ?_; show endK _ _ _ _ _)
    | refine o_offT rfl rfl rfl (by first | exact .inl rfl | exact .inr rfl) ?_
    | refine o_offU rfl rfl rfl (by first | exact .inl rfl | exact .inr rfl) ?_
    | refine o_offF rfl rfl rfl (by first | exact .inl rfl | exact .inr rfl) ?_
    | (refine o_add rfl rfl rfl rfl ?_ ?_; omega)
    | (refine o_sub rfl rfl rfl rfl ?_ ?_; omega)
    | refine o_len rfl TtOk rfl rfl rfl (fun _ => ?_)
    | refine o_lenOwn rfl TtOk rfl rfl rfl rfl (fun _ => ?_)
    | (refine o_calm rfl TtOk rfl rfl rfl ?_ (fun _ => ?_); first | exact True.intro | exact ⟨rfl, rfl, rfl, rfl⟩ | exact ⟨rfl, True.intro⟩ | exact ⟨rfl, rfl⟩ | exact ⟨rfl, rfl, rfl⟩ | exact rfl | exact ⟨fun h0 => by cases h0, rfl⟩ | exact (fun h0 => by cases h0) | exact ⟨rfl, by omega⟩ | exact ⟨Nat.succ_ne_zero _, rfl⟩ | omega)
    | refine o_alloc (d := 5) rfl TtOk rfl rfl rfl (fun b5 => ?_)
    | refine o_alloc (d := 6) rfl TtOk rfl rfl rfl (fun b6 => ?_)
    | refine o_box (d := 1) rfl rfl rfl rfl (fun b1 => ?_)
    | refine o_store TtOk rfl rfl rfl rfl rfl rfl rfl ⟨rfl, rfl⟩ rfl rfl rfl rfl rfl ?_
    | (refine o_index rfl TtOk rfl rfl rfl rfl rfl rfl ?_ (getq_nat ?_) ?_; omega; omega)
    | (refine o_indexOwn TtOk rfl rfl rfl rfl rfl rfl rfl rfl _ rfl ?_ (fun bO hbO => ?_); (simp only [List.length_map]; omega))
    | (refine o_loadRow TtOk rfl rfl rfl rfl rfl (by assumption) (getq_map (List.getElem?_eq_getElem ?_)) rfl rfl (by first | exact Nat.add_zero _ | rfl) ⟨rfl, rfl⟩ ?_; omega)
    | (refine o_calm rfl TtOk rfl rfl rfl ?_ (fun _ => ?_); (show List.length _ + List.length _ ≤ 9223372036854775807; (try simp only [List.length_append, List.length_cons, List.length_nil]); omega))
    | (refine o_storeRow TtOk rfl rfl rfl rfl rfl rfl (by assumption) (getq_map (List.getElem?_eq_getElem ?_)) rfl rfl (by first | exact Nat.add_zero _ | rfl) ⟨rfl, rfl⟩ rfl rfl ?_; omega)
    | refine o_eqNil TtOk rfl rfl rfl rfl rfl ?_
    | refine o_eqArr8 TtOk rfl rfl rfl rfl rfl rfl (by kernel_rfl) ?_
    | (fail_if_success (refine o_isLit rfl (by first | exact .inl rfl | exact .inr rfl) ?_)); (refine o_splitP rfl rfl (fun hc => ?_) (fun hc => ?_) <;> try (exfalso; omega))
    | (fail_if_success (refine o_isLit rfl (by first | exact .inl rfl | exact .inr rfl) ?_)); (refine o_splitI rfl rfl (fun hc => ?_) (fun hc => ?_) <;> try (exfalso; omega))
    | (fail_if_success (refine o_isLit rfl (by first | exact .inl rfl | exact .inr rfl) ?_)); (refine o_splitN rfl rfl (fun hc => ?_) (fun hc => ?_) <;> try (exfalso; omega))
    | (fail_if_success (refine o_isLit rfl (by first | exact .inl rfl | exact .inr rfl) ?_)); (refine o_split rfl rfl (fun hc => ?_) (fun hc => ?_))
    | refine a_condT rfl ?_
    | refine a_condF rfl ?_
    | (refine a_condP rfl (fun hc => ?_) (fun hc => ?_)) <;> (try (exfalso; omega))
    | (refine a_condI rfl (fun hc => ?_) (fun hc => ?_)) <;> (try (exfalso; omega))
    | (refine a_condN rfl (fun hc => ?_) (fun hc => ?_)) <;> (try (exfalso; omega))
    | (refine Awp.cond rfl (fun hc => ?_) (fun hc => ?_))
    | (refine o_makeMap rfl rfl (fun bm => ?_)))
  refine Awp.loop (fun q : Nat => ⟨126, [(33, .i .i64 q), (32, .i .i64 s.fs.length), (31, .sl 5 (s.fs.map eF)), (3, .own 29 (.map (some bm))), (1, .ptr 1 b1 [] 0)], [(29, .obj bm (setO (((s.fs.take q).map Fl.num).map vI))), (1, .var b1 (.agg [.i .i64 s.next, .i .i64 s.log, .sl 5 (s.fs.map eF)]))]⟩) (fun q => q ≤ s.fs.length ∧ r = lgo s.next (s.fs.take q) (s.fs.drop q)) (fun q => s.fs.length - q) [] 0 ⟨Nat.zero_le _, hck⟩ ?_ ?_
  · exact ⟨rfl, ⟨sle_i rfl, sle_i rfl, sle_sl rfl, sle_own, sle_ptr, True.intro⟩, HLe.cons 29 rfl (HOLe.refl _) (HLe.cons 1 rfl (HOLe.refl _) .nil)⟩
  rintro k ⟨hk, hr⟩
  by_cases hlt : k < s.fs.length
  · rw [lgo_at _ _ _ hlt] at hr
    have hgt := gtr_less s.fs[k].first s.fs[k].last
    have hk1 := key_spec s.fs[k].first
    have hk2 := key_spec s.fs[k].last
    by_cases hA : argF s.next s.fs[k]
    · rw [fcode_arg hA, if_pos (by decide)] at hr
      subst hr
      unfold argF at hA
      repeat' (first
        | refine Awp.seq ?_
        | refine Awp.block ?_
        | refine Awp.region ?_
        | (refine Ops.nil ?_; show Awp _ _ _ _ _)
        | (refine Ops.nil ?_; show Exists _)
        | (refine Ops.nil ?_; show endK _ _ _ _ _)
        | (refine Awp.skip ?_; show Awp _ _ _ _ _)
        | (refine Awp.skip ?_; show endK _ _ _ _ _)
        | (refine Awp.skip ?_; show Exists _)
        | (refine Awp.exit ?_; show Awp _ _ _ _ _)
        | (refine Awp.exit ?_; show Exists _)
        | (refine Awp.exit ?_; show endK _ _ _ _ _)
        | (refine Awp.ret ?_; show endK _ _ _ _ _)
        | refine o_offT rfl rfl rfl (by first | exact .inl rfl | exact .inr rfl) ?_
        | refine o_offU rfl rfl rfl (by first | exact .inl rfl | exact .inr rfl) ?_
        | refine o_offF rfl rfl rfl (by first | exact .inl rfl | exact .inr rfl) ?_
        | (refine o_add rfl rfl rfl rfl ?_ ?_; omega)
        | (refine o_sub rfl rfl rfl rfl ?_ ?_; omega)
        | refine o_len rfl TtOk rfl rfl rfl (fun _ => ?_)
        | refine o_lenOwn rfl TtOk rfl rfl rfl rfl (fun _ => ?_)
        | (refine o_calm rfl TtOk rfl rfl rfl ?_ (fun _ => ?_); first | exact True.intro | exact ⟨rfl, rfl, rfl, rfl⟩ | exact ⟨rfl, True.intro⟩ | exact ⟨rfl, rfl⟩ | exact ⟨rfl, rfl, rfl⟩ | exact rfl | exact ⟨fun h0 => by cases h0, rfl⟩ | exact (fun h0 => by cases h0) | exact ⟨rfl, by omega⟩ | exact ⟨Nat.succ_ne_zero _, rfl⟩ | omega)
        | refine o_alloc (d := 5) rfl TtOk rfl rfl rfl (fun b5 => ?_)
        | refine o_alloc (d := 6) rfl TtOk rfl rfl rfl (fun b6 => ?_)
        | refine o_box (d := 1) rfl rfl rfl rfl (fun b1 => ?_)
        | refine o_store TtOk rfl rfl rfl rfl rfl rfl rfl ⟨rfl, rfl⟩ rfl rfl rfl rfl rfl ?_
        | (refine o_index rfl TtOk rfl rfl rfl rfl rfl rfl ?_ (getq_nat ?_) ?_; omega; omega)
        | (refine o_indexOwn TtOk rfl rfl rfl rfl rfl rfl rfl rfl _ rfl ?_ (fun bO hbO => ?_); (simp only [List.length_map]; omega))
        | (refine o_loadRow TtOk rfl rfl rfl rfl rfl (by assumption) (getq_map (List.getElem?_eq_getElem ?_)) rfl rfl (by first | exact Nat.add_zero _ | rfl) ⟨rfl, rfl⟩ ?_; omega)
        | (refine o_calm rfl TtOk rfl rfl rfl ?_ (fun _ => ?_); (show List.length _ + List.length _ ≤ 9223372036854775807; (try simp only [List.length_append, List.length_cons, List.length_nil]); omega))
        | (refine o_storeRow TtOk rfl rfl rfl rfl rfl rfl (by assumption) (getq_map (List.getElem?_eq_getElem ?_)) rfl rfl (by first | exact Nat.add_zero _ | rfl) ⟨rfl, rfl⟩ rfl rfl ?_; omega)
        | refine o_eqNil TtOk rfl rfl rfl rfl rfl ?_
        | refine o_eqArr8 TtOk rfl rfl rfl rfl rfl rfl (by kernel_rfl) ?_
        | (fail_if_success (refine o_isLit rfl (by first | exact .inl rfl | exact .inr rfl) ?_)); (refine o_splitP rfl rfl (fun hc => ?_) (fun hc => ?_) <;> try (exfalso; omega))
        | (fail_if_success (refine o_isLit rfl (by first | exact .inl rfl | exact .inr rfl) ?_)); (refine o_splitI rfl rfl (fun hc => ?_) (fun hc => ?_) <;> try (exfalso; omega))
        | (fail_if_success (refine o_isLit rfl (by first | exact .inl rfl | exact .inr rfl) ?_)); (refine o_splitN rfl rfl (fun hc => ?_) (fun hc => ?_) <;> try (exfalso; omega))
        | (fail_if_success (refine o_isLit rfl (by first | exact .inl rfl | exact .inr rfl) ?_)); (refine o_split rfl rfl (fun hc => ?_) (fun hc => ?_))
        | refine a_condT rfl ?_
        | refine a_condF rfl ?_
        | (refine a_condP rfl (fun hc => ?_) (fun hc => ?_)) <;> (try (exfalso; omega))
        | (refine a_condI rfl (fun hc => ?_) (fun hc => ?_)) <;> (try (exfalso; omega))
        | (refine a_condN rfl (fun hc => ?_) (fun hc => ?_)) <;> (try (exfalso; omega))
        | (refine Awp.cond rfl (fun hc => ?_) (fun hc => ?_)))
      all_goals exact end_tmp rfl rfl rfl [] [] (CLe.of_eq rfl) .nil ⟨rfl, rfl⟩ _ (.inl rfl)
    have hA' := hA
    unfold argF at hA'
    by_cases hB : frmF (s.fs.take k) s.fs[k]
    · rw [fcode_frm hA hB, if_pos (by decide)] at hr
      subst hr
      unfold frmF at hB
      cases hf : keyOk s.fs[k].first with
      | false =>
        rw [hf] at hk1
        repeat' (first
          | refine Awp.seq ?_
          | refine Awp.block ?_
          | refine Awp.region ?_
          | (refine Ops.nil ?_; show Awp _ _ _ _ _)
          | (refine Ops.nil ?_; show Exists _)
          | (refine Ops.nil ?_; show endK _ _ _ _ _)
          | (refine Awp.skip ?_; show Awp _ _ _ _ _)
          | (refine Awp.skip ?_; show endK _ _ _ _ _)
          | (refine Awp.skip ?_; show Exists _)
          | (refine Awp.exit ?_; show Awp _ _ _ _ _)
          | (refine Awp.exit ?_; show Exists _)
          | (refine Awp.exit ?_; show endK _ _ _ _ _)
          | (refine Awp.ret ?_; show endK _ _ _ _ _)
          | refine o_offT rfl rfl rfl (by first | exact .inl rfl | exact .inr rfl) ?_
          | refine o_offU rfl rfl rfl (by first | exact .inl rfl | exact .inr rfl) ?_
          | refine o_offF rfl rfl rfl (by first | exact .inl rfl | exact .inr rfl) ?_
          | (refine o_add rfl rfl rfl rfl ?_ ?_; omega)
          | (refine o_sub rfl rfl rfl rfl ?_ ?_; omega)
          | refine o_len rfl TtOk rfl rfl rfl (fun _ => ?_)
          | refine o_lenOwn rfl TtOk rfl rfl rfl rfl (fun _ => ?_)
          | (refine o_calm rfl TtOk rfl rfl rfl ?_ (fun _ => ?_); first | exact True.intro | exact ⟨rfl, rfl, rfl, rfl⟩ | exact ⟨rfl, True.intro⟩ | exact ⟨rfl, rfl⟩ | exact ⟨rfl, rfl, rfl⟩ | exact rfl | exact ⟨fun h0 => by cases h0, rfl⟩ | exact (fun h0 => by cases h0) | exact ⟨rfl, by omega⟩ | exact ⟨Nat.succ_ne_zero _, rfl⟩ | omega)
          | refine o_alloc (d := 5) rfl TtOk rfl rfl rfl (fun b5 => ?_)
          | refine o_alloc (d := 6) rfl TtOk rfl rfl rfl (fun b6 => ?_)
          | refine o_box (d := 1) rfl rfl rfl rfl (fun b1 => ?_)
          | refine o_store TtOk rfl rfl rfl rfl rfl rfl rfl ⟨rfl, rfl⟩ rfl rfl rfl rfl rfl ?_
          | (refine o_index rfl TtOk rfl rfl rfl rfl rfl rfl ?_ (getq_nat ?_) ?_; omega; omega)
          | (refine o_indexOwn TtOk rfl rfl rfl rfl rfl rfl rfl rfl _ rfl ?_ (fun bO hbO => ?_); (simp only [List.length_map]; omega))
          | (refine o_loadRow TtOk rfl rfl rfl rfl rfl (by assumption) (getq_map (List.getElem?_eq_getElem ?_)) rfl rfl (by first | exact Nat.add_zero _ | rfl) ⟨rfl, rfl⟩ ?_; omega)
          | (refine o_calm rfl TtOk rfl rfl rfl ?_ (fun _ => ?_); (show List.length _ + List.length _ ≤ 9223372036854775807; (try simp only [List.length_append, List.length_cons, List.length_nil]); omega))
          | (refine o_storeRow TtOk rfl rfl rfl rfl rfl rfl (by assumption) (getq_map (List.getElem?_eq_getElem ?_)) rfl rfl (by first | exact Nat.add_zero _ | rfl) ⟨rfl, rfl⟩ rfl rfl ?_; omega)
          | refine o_eqNil TtOk rfl rfl rfl rfl rfl ?_
          | refine o_eqArr8 TtOk rfl rfl rfl rfl rfl rfl (by kernel_rfl) ?_
          | (fail_if_success (refine o_isLit rfl (by first | exact .inl rfl | exact .inr rfl) ?_)); (refine o_splitP rfl rfl (fun hc => ?_) (fun hc => ?_) <;> try (exfalso; omega))
          | (fail_if_success (refine o_isLit rfl (by first | exact .inl rfl | exact .inr rfl) ?_)); (refine o_splitI rfl rfl (fun hc => ?_) (fun hc => ?_) <;> try (exfalso; omega))
          | (fail_if_success (refine o_isLit rfl (by first | exact .inl rfl | exact .inr rfl) ?_)); (refine o_splitN rfl rfl (fun hc => ?_) (fun hc => ?_) <;> try (exfalso; omega))
          | (fail_if_success (refine o_isLit rfl (by first | exact .inl rfl | exact .inr rfl) ?_)); (refine o_split rfl rfl (fun hc => ?_) (fun hc => ?_))
          | refine a_condT rfl ?_
          | refine a_condF rfl ?_
          | (refine a_condP rfl (fun hc => ?_) (fun hc => ?_)) <;> (try (exfalso; omega))
          | (refine a_condI rfl (fun hc => ?_) (fun hc => ?_)) <;> (try (exfalso; omega))
          | (refine a_condN rfl (fun hc => ?_) (fun hc => ?_)) <;> (try (exfalso; omega))
          | (refine Awp.cond rfl (fun hc => ?_) (fun hc => ?_))
          | (refine o_call0 rfl (hk1) ⟨SLe.of_eq rfl, True.intro⟩ rfl ?_; rintro _ _ ⟨rfl, rfl⟩; refine ⟨rfl, ?_⟩))
        all_goals exact end_tmp rfl rfl rfl [] [] (CLe.of_eq rfl) .nil ⟨rfl, rfl⟩ _ (.inl rfl)
      | true =>
        rw [hf] at hk1
        cases hg : keyOk s.fs[k].last with
        | false =>
          rw [hg] at hk2
          repeat' (first
            | refine Awp.seq ?_
            | refine Awp.block ?_
            | refine Awp.region ?_
            | (refine Ops.nil ?_; show Awp _ _ _ _ _)
            | (refine Ops.nil ?_; show Exists _)
            | (refine Ops.nil ?_; show endK _ _ _ _ _)
            | (refine Awp.skip ?_; show Awp _ _ _ _ _)
            | (refine Awp.skip ?_; show endK _ _ _ _ _)
            | (refine Awp.skip ?_; show Exists _)
            | (refine Awp.exit ?_; show Awp _ _ _ _ _)
            | (refine Awp.exit ?_; show Exists _)
            | (refine Awp.exit ?_; show endK _ _ _ _ _)
            | (refine Awp.ret ?_; show endK _ _ _ _ _)
            | refine o_offT rfl rfl rfl (by first | exact .inl rfl | exact .inr rfl) ?_
            | refine o_offU rfl rfl rfl (by first | exact .inl rfl | exact .inr rfl) ?_
            | refine o_offF rfl rfl rfl (by first | exact .inl rfl | exact .inr rfl) ?_
            | (refine o_add rfl rfl rfl rfl ?_ ?_; omega)
            | (refine o_sub rfl rfl rfl rfl ?_ ?_; omega)
            | refine o_len rfl TtOk rfl rfl rfl (fun _ => ?_)
            | refine o_lenOwn rfl TtOk rfl rfl rfl rfl (fun _ => ?_)
            | (refine o_calm rfl TtOk rfl rfl rfl ?_ (fun _ => ?_); first | exact True.intro | exact ⟨rfl, rfl, rfl, rfl⟩ | exact ⟨rfl, True.intro⟩ | exact ⟨rfl, rfl⟩ | exact ⟨rfl, rfl, rfl⟩ | exact rfl | exact ⟨fun h0 => by cases h0, rfl⟩ | exact (fun h0 => by cases h0) | exact ⟨rfl, by omega⟩ | exact ⟨Nat.succ_ne_zero _, rfl⟩ | omega)
            | refine o_alloc (d := 5) rfl TtOk rfl rfl rfl (fun b5 => ?_)
            | refine o_alloc (d := 6) rfl TtOk rfl rfl rfl (fun b6 => ?_)
            | refine o_box (d := 1) rfl rfl rfl rfl (fun b1 => ?_)
            | refine o_store TtOk rfl rfl rfl rfl rfl rfl rfl ⟨rfl, rfl⟩ rfl rfl rfl rfl rfl ?_
            | (refine o_index rfl TtOk rfl rfl rfl rfl rfl rfl ?_ (getq_nat ?_) ?_; omega; omega)
            | (refine o_indexOwn TtOk rfl rfl rfl rfl rfl rfl rfl rfl _ rfl ?_ (fun bO hbO => ?_); (simp only [List.length_map]; omega))
            | (refine o_loadRow TtOk rfl rfl rfl rfl rfl (by assumption) (getq_map (List.getElem?_eq_getElem ?_)) rfl rfl (by first | exact Nat.add_zero _ | rfl) ⟨rfl, rfl⟩ ?_; omega)
            | (refine o_calm rfl TtOk rfl rfl rfl ?_ (fun _ => ?_); (show List.length _ + List.length _ ≤ 9223372036854775807; (try simp only [List.length_append, List.length_cons, List.length_nil]); omega))
            | (refine o_storeRow TtOk rfl rfl rfl rfl rfl rfl (by assumption) (getq_map (List.getElem?_eq_getElem ?_)) rfl rfl (by first | exact Nat.add_zero _ | rfl) ⟨rfl, rfl⟩ rfl rfl ?_; omega)
            | refine o_eqNil TtOk rfl rfl rfl rfl rfl ?_
            | refine o_eqArr8 TtOk rfl rfl rfl rfl rfl rfl (by kernel_rfl) ?_
            | (fail_if_success (refine o_isLit rfl (by first | exact .inl rfl | exact .inr rfl) ?_)); (refine o_splitP rfl rfl (fun hc => ?_) (fun hc => ?_) <;> try (exfalso; omega))
            | (fail_if_success (refine o_isLit rfl (by first | exact .inl rfl | exact .inr rfl) ?_)); (refine o_splitI rfl rfl (fun hc => ?_) (fun hc => ?_) <;> try (exfalso; omega))
            | (fail_if_success (refine o_isLit rfl (by first | exact .inl rfl | exact .inr rfl) ?_)); (refine o_splitN rfl rfl (fun hc => ?_) (fun hc => ?_) <;> try (exfalso; omega))
            | (fail_if_success (refine o_isLit rfl (by first | exact .inl rfl | exact .inr rfl) ?_)); (refine o_split rfl rfl (fun hc => ?_) (fun hc => ?_))
            | refine a_condT rfl ?_
            | refine a_condF rfl ?_
            | (refine a_condP rfl (fun hc => ?_) (fun hc => ?_)) <;> (try (exfalso; omega))
            | (refine a_condI rfl (fun hc => ?_) (fun hc => ?_)) <;> (try (exfalso; omega))
            | (refine a_condN rfl (fun hc => ?_) (fun hc => ?_)) <;> (try (exfalso; omega))
            | (refine Awp.cond rfl (fun hc => ?_) (fun hc => ?_))
            | (refine o_call0 rfl (hk1) ⟨SLe.of_eq rfl, True.intro⟩ rfl ?_; rintro _ _ ⟨rfl, rfl⟩; refine ⟨rfl, ?_⟩)
            | (refine o_call0 rfl (hk2) ⟨SLe.of_eq rfl, True.intro⟩ rfl ?_; rintro _ _ ⟨rfl, rfl⟩; refine ⟨rfl, ?_⟩))
          all_goals exact end_tmp rfl rfl rfl [] [] (CLe.of_eq rfl) .nil ⟨rfl, rfl⟩ _ (.inl rfl)
        | true =>
          rw [hg] at hk2
          cases hq : Op.bytesLess s.fs[k].last s.fs[k].first with
          | true =>
            rw [hq] at hgt
            repeat' (first
              | (exact absurd (hc.symm.trans hcn) (by decide))
              | (exact absurd (hc.symm.trans hgt) (by decide))
              | refine Awp.seq ?_
              | refine Awp.block ?_
              | refine Awp.region ?_
              | (refine Ops.nil ?_; show Awp _ _ _ _ _)
              | (refine Ops.nil ?_; show Exists _)
              | (refine Ops.nil ?_; show endK _ _ _ _ _)
              | (refine Awp.skip ?_; show Awp _ _ _ _ _)
              | (refine Awp.skip ?_; show endK _ _ _ _ _)
              | (refine Awp.skip ?_; show Exists _)
              | (refine Awp.exit ?_; show Awp _ _ _ _ _)
              | (refine Awp.exit ?_; show Exists _)
              | (refine Awp.exit ?_; show endK _ _ _ _ _)
              | (refine Awp.ret ?_; show endK _ _ _ _ _)
              | refine o_offT rfl rfl rfl (by first | exact .inl rfl | exact .inr rfl) ?_
              | refine o_offU rfl rfl rfl (by first | exact .inl rfl | exact .inr rfl) ?_
              | refine o_offF rfl rfl rfl (by first | exact .inl rfl | exact .inr rfl) ?_
              | (refine o_add rfl rfl rfl rfl ?_ ?_; omega)
              | (refine o_sub rfl rfl rfl rfl ?_ ?_; omega)
              | refine o_len rfl TtOk rfl rfl rfl (fun _ => ?_)
              | refine o_lenOwn rfl TtOk rfl rfl rfl rfl (fun _ => ?_)
              | (refine o_calm rfl TtOk rfl rfl rfl ?_ (fun _ => ?_); first | exact True.intro | exact ⟨rfl, rfl, rfl, rfl⟩ | exact ⟨rfl, True.intro⟩ | exact ⟨rfl, rfl⟩ | exact ⟨rfl, rfl, rfl⟩ | exact rfl | exact ⟨fun h0 => by cases h0, rfl⟩ | exact (fun h0 => by cases h0) | exact ⟨rfl, by omega⟩ | exact ⟨Nat.succ_ne_zero _, rfl⟩ | omega)
              | refine o_alloc (d := 5) rfl TtOk rfl rfl rfl (fun b5 => ?_)
              | refine o_alloc (d := 6) rfl TtOk rfl rfl rfl (fun b6 => ?_)
              | refine o_box (d := 1) rfl rfl rfl rfl (fun b1 => ?_)
              | refine o_store TtOk rfl rfl rfl rfl rfl rfl rfl ⟨rfl, rfl⟩ rfl rfl rfl rfl rfl ?_
              | (refine o_index rfl TtOk rfl rfl rfl rfl rfl rfl ?_ (getq_nat ?_) ?_; omega; omega)
              | (refine o_indexOwn TtOk rfl rfl rfl rfl rfl rfl rfl rfl _ rfl ?_ (fun bO hbO => ?_); (simp only [List.length_map]; omega))
              | (refine o_loadRow TtOk rfl rfl rfl rfl rfl (by assumption) (getq_map (List.getElem?_eq_getElem ?_)) rfl rfl (by first | exact Nat.add_zero _ | rfl) ⟨rfl, rfl⟩ ?_; omega)
              | (refine o_calm rfl TtOk rfl rfl rfl ?_ (fun _ => ?_); (show List.length _ + List.length _ ≤ 9223372036854775807; (try simp only [List.length_append, List.length_cons, List.length_nil]); omega))
              | (refine o_storeRow TtOk rfl rfl rfl rfl rfl rfl (by assumption) (getq_map (List.getElem?_eq_getElem ?_)) rfl rfl (by first | exact Nat.add_zero _ | rfl) ⟨rfl, rfl⟩ rfl rfl ?_; omega)
              | refine o_eqNil TtOk rfl rfl rfl rfl rfl ?_
              | refine o_eqArr8 TtOk rfl rfl rfl rfl rfl rfl (by kernel_rfl) ?_
              | (fail_if_success (refine o_isLit rfl (by first | exact .inl rfl | exact .inr rfl) ?_)); (refine o_splitP rfl rfl (fun hc => ?_) (fun hc => ?_) <;> try (exfalso; omega))
              | (fail_if_success (refine o_isLit rfl (by first | exact .inl rfl | exact .inr rfl) ?_)); (refine o_splitI rfl rfl (fun hc => ?_) (fun hc => ?_) <;> try (exfalso; omega))
              | (fail_if_success (refine o_isLit rfl (by first | exact .inl rfl | exact .inr rfl) ?_)); (refine o_splitN rfl rfl (fun hc => ?_) (fun hc => ?_) <;> try (exfalso; omega))
              | (fail_if_success (refine o_isLit rfl (by first | exact .inl rfl | exact .inr rfl) ?_)); (refine o_split rfl rfl (fun hc => ?_) (fun hc => ?_))
              | refine a_condT rfl ?_
              | refine a_condF rfl ?_
              | (refine a_condP rfl (fun hc => ?_) (fun hc => ?_)) <;> (try (exfalso; omega))
              | (refine a_condI rfl (fun hc => ?_) (fun hc => ?_)) <;> (try (exfalso; omega))
              | (refine a_condN rfl (fun hc => ?_) (fun hc => ?_)) <;> (try (exfalso; omega))
              | (refine Awp.cond rfl (fun hc => ?_) (fun hc => ?_))
              | (refine o_call0 rfl (hk1) ⟨SLe.of_eq rfl, True.intro⟩ rfl ?_; rintro _ _ ⟨rfl, rfl⟩; refine ⟨rfl, ?_⟩)
              | (refine o_call0 rfl (hk2) ⟨SLe.of_eq rfl, True.intro⟩ rfl ?_; rintro _ _ ⟨rfl, rfl⟩; refine ⟨rfl, ?_⟩))
            all_goals exact end_tmp rfl rfl rfl [] [] (CLe.of_eq rfl) .nil ⟨rfl, rfl⟩ _ (.inl rfl)
          | false =>
            rw [hq] at hgt
            have hcn : ((s.fs.take k).map Fl.num).contains s.fs[k].num = true := by
              rcases hB with h | h | h | h
              · rw [hf] at h; cases h
              · rw [hg] at h; cases h
              · rw [hq] at h; cases h
              · exact h
            repeat' (first
              | (exact absurd (hc.symm.trans hcn) (by decide))
              | (exact absurd (hc.symm.trans hgt) (by decide))
              | refine Awp.seq ?_
              | refine Awp.block ?_
              | refine Awp.region ?_
              | (refine Ops.nil ?_; show Awp _ _ _ _ _)
              | (refine Ops.nil ?_; show Exists _)
              | (refine Ops.nil ?_; show endK _ _ _ _ _)
              | (refine Awp.skip ?_; show Awp _ _ _ _ _)
              | (refine Awp.skip ?_; show endK _ _ _ _ _)
              | (refine Awp.skip ?_; show Exists _)
              | (refine Awp.exit ?_; show Awp _ _ _ _ _)
              | (refine Awp.exit ?_; show Exists _)
              | (refine Awp.exit ?_; show endK _ _ _ _ _)
              | (refine Awp.ret ?_; show endK _ _ _ _ _)
              | refine o_offT rfl rfl rfl (by first | exact .inl rfl | exact .inr rfl) ?_
              | refine o_offU rfl rfl rfl (by first | exact .inl rfl | exact .inr rfl) ?_
              | refine o_offF rfl rfl rfl (by first | exact .inl rfl | exact .inr rfl) ?_
              | (refine o_add rfl rfl rfl rfl ?_ ?_; omega)
              | (refine o_sub rfl rfl rfl rfl ?_ ?_; omega)
              | refine o_len rfl TtOk rfl rfl rfl (fun _ => ?_)
              | refine o_lenOwn rfl TtOk rfl rfl rfl rfl (fun _ => ?_)
              | (refine o_calm rfl TtOk rfl rfl rfl ?_ (fun _ => ?_); first | exact True.intro | exact ⟨rfl, rfl, rfl, rfl⟩ | exact ⟨rfl, True.intro⟩ | exact ⟨rfl, rfl⟩ | exact ⟨rfl, rfl, rfl⟩ | exact rfl | exact ⟨fun h0 => by cases h0, rfl⟩ | exact (fun h0 => by cases h0) | exact ⟨rfl, by omega⟩ | exact ⟨Nat.succ_ne_zero _, rfl⟩ | omega)
              | refine o_alloc (d := 5) rfl TtOk rfl rfl rfl (fun b5 => ?_)
              | refine o_alloc (d := 6) rfl TtOk rfl rfl rfl (fun b6 => ?_)
              | refine o_box (d := 1) rfl rfl rfl rfl (fun b1 => ?_)
              | refine o_store TtOk rfl rfl rfl rfl rfl rfl rfl ⟨rfl, rfl⟩ rfl rfl rfl rfl rfl ?_
              | (refine o_index rfl TtOk rfl rfl rfl rfl rfl rfl ?_ (getq_nat ?_) ?_; omega; omega)
              | (refine o_indexOwn TtOk rfl rfl rfl rfl rfl rfl rfl rfl _ rfl ?_ (fun bO hbO => ?_); (simp only [List.length_map]; omega))
              | (refine o_loadRow TtOk rfl rfl rfl rfl rfl (by assumption) (getq_map (List.getElem?_eq_getElem ?_)) rfl rfl (by first | exact Nat.add_zero _ | rfl) ⟨rfl, rfl⟩ ?_; omega)
              | (refine o_calm rfl TtOk rfl rfl rfl ?_ (fun _ => ?_); (show List.length _ + List.length _ ≤ 9223372036854775807; (try simp only [List.length_append, List.length_cons, List.length_nil]); omega))
              | (refine o_storeRow TtOk rfl rfl rfl rfl rfl rfl (by assumption) (getq_map (List.getElem?_eq_getElem ?_)) rfl rfl (by first | exact Nat.add_zero _ | rfl) ⟨rfl, rfl⟩ rfl rfl ?_; omega)
              | refine o_eqNil TtOk rfl rfl rfl rfl rfl ?_
              | refine o_eqArr8 TtOk rfl rfl rfl rfl rfl rfl (by kernel_rfl) ?_
              | (fail_if_success (refine o_isLit rfl (by first | exact .inl rfl | exact .inr rfl) ?_)); (refine o_splitP rfl rfl (fun hc => ?_) (fun hc => ?_) <;> try (exfalso; omega))
              | (fail_if_success (refine o_isLit rfl (by first | exact .inl rfl | exact .inr rfl) ?_)); (refine o_splitI rfl rfl (fun hc => ?_) (fun hc => ?_) <;> try (exfalso; omega))
              | (fail_if_success (refine o_isLit rfl (by first | exact .inl rfl | exact .inr rfl) ?_)); (refine o_splitN rfl rfl (fun hc => ?_) (fun hc => ?_) <;> try (exfalso; omega))
              | (fail_if_success (refine o_isLit rfl (by first | exact .inl rfl | exact .inr rfl) ?_)); (refine o_split rfl rfl (fun hc => ?_) (fun hc => ?_))
              | refine a_condT rfl ?_
              | refine a_condF rfl ?_
              | (refine a_condP rfl (fun hc => ?_) (fun hc => ?_)) <;> (try (exfalso; omega))
              | (refine a_condI rfl (fun hc => ?_) (fun hc => ?_)) <;> (try (exfalso; omega))
              | (refine a_condN rfl (fun hc => ?_) (fun hc => ?_)) <;> (try (exfalso; omega))
              | (refine Awp.cond rfl (fun hc => ?_) (fun hc => ?_))
              | (refine o_lookupSet TtOk keyI rfl ((s.fs.take k).map Fl.num) s.fs[k].num rfl (by kernel_rfl) rfl rfl rfl (fun w F u hu => ?_) rfl ?_; exact repV_i.1 hu)
              | (refine o_call0 rfl (hk1) ⟨SLe.of_eq rfl, True.intro⟩ rfl ?_; rintro _ _ ⟨rfl, rfl⟩; refine ⟨rfl, ?_⟩)
              | (refine o_call0 rfl (hk2) ⟨SLe.of_eq rfl, True.intro⟩ rfl ?_; rintro _ _ ⟨rfl, rfl⟩; refine ⟨rfl, ?_⟩))
            all_goals exact end_tmp rfl rfl rfl [] [] (CLe.of_eq rfl) .nil ⟨rfl, rfl⟩ _ (.inl rfl)
    · rw [fcode_seq hA hB] at hr
      unfold frmF at hB
      have hf : keyOk s.fs[k].first = true := by
        cases h : keyOk s.fs[k].first
        · exact absurd (.inl h) hB
        · rfl
      have hg : keyOk s.fs[k].last = true := by
        cases h : keyOk s.fs[k].last
        · exact absurd (.inr (.inl h)) hB
        · rfl
      have hq : Op.bytesLess s.fs[k].last s.fs[k].first = false := by
        cases h : Op.bytesLess s.fs[k].last s.fs[k].first
        · rfl
        · exact absurd (.inr (.inr (.inl h))) hB
      have hcn : ((s.fs.take k).map Fl.num).contains s.fs[k].num = false := by
        cases h : ((s.fs.take k).map Fl.num).contains s.fs[k].num
        · rfl
        · exact absurd (.inr (.inr (.inr h))) hB
      rw [hf] at hk1
      rw [hg] at hk2
      rw [hq] at hgt
      have hst : (s.fs.take (k + 1)).map Fl.num = (s.fs.take k).map Fl.num ++ [s.fs[k].num] := by rw [List.take_succ_eq_append_getElem hlt, List.map_append]; rfl
      by_cases hk0 : k = 0
      · have h0 : seqF (s.fs.take k) s.fs[k] = 0 := by
          have : s.fs.take k = [] := by rw [hk0]; rfl
          rw [this]; rfl
        rw [h0, if_neg (fun h => h rfl)] at hr
        repeat' (first
          | (exact absurd (hc.symm.trans hcn) (by decide))
          | (exact absurd (hc.symm.trans hgt) (by decide))
          | refine Awp.seq ?_
          | refine Awp.block ?_
          | refine Awp.region ?_
          | (refine Ops.nil ?_; show Awp _ _ _ _ _)
          | (refine Ops.nil ?_; show Exists _)
          | (refine Ops.nil ?_; show endK _ _ _ _ _)
          | (refine Awp.skip ?_; show Awp _ _ _ _ _)
          | (refine Awp.skip ?_; show endK _ _ _ _ _)
          | (refine Awp.skip ?_; show Exists _)
          | (refine Awp.exit ?_; show Awp _ _ _ _ _)
          | (refine Awp.exit ?_; show Exists _)
          | (refine Awp.exit ?_; show endK _ _ _ _ _)
          | (refine Awp.ret ?_; show endK _ _ _ _ _)
          | refine o_offT rfl rfl rfl (by first | exact .inl rfl | exact .inr rfl) ?_
          | refine o_offU rfl rfl rfl (by first | exact .inl rfl | exact .inr rfl) ?_
          | refine o_offF rfl rfl rfl (by first | exact .inl rfl | exact .inr rfl) ?_
          | (refine o_add rfl rfl rfl rfl ?_ ?_; omega)
          | (refine o_sub rfl rfl rfl rfl ?_ ?_; omega)
          | refine o_len rfl TtOk rfl rfl rfl (fun _ => ?_)
          | refine o_lenOwn rfl TtOk rfl rfl rfl rfl (fun _ => ?_)
          | (refine o_calm rfl TtOk rfl rfl rfl ?_ (fun _ => ?_); first | exact True.intro | exact ⟨rfl, rfl, rfl, rfl⟩ | exact ⟨rfl, True.intro⟩ | exact ⟨rfl, rfl⟩ | exact ⟨rfl, rfl, rfl⟩ | exact rfl | exact ⟨fun h0 => by cases h0, rfl⟩ | exact (fun h0 => by cases h0) | exact ⟨rfl, by omega⟩ | exact ⟨Nat.succ_ne_zero _, rfl⟩ | omega)
          | refine o_alloc (d := 5) rfl TtOk rfl rfl rfl (fun b5 => ?_)
          | refine o_alloc (d := 6) rfl TtOk rfl rfl rfl (fun b6 => ?_)
          | refine o_box (d := 1) rfl rfl rfl rfl (fun b1 => ?_)
          | refine o_store TtOk rfl rfl rfl rfl rfl rfl rfl ⟨rfl, rfl⟩ rfl rfl rfl rfl rfl ?_
          | (refine o_index rfl TtOk rfl rfl rfl rfl rfl rfl ?_ (getq_nat ?_) ?_; omega; omega)
          | (refine o_indexOwn TtOk rfl rfl rfl rfl rfl rfl rfl rfl _ rfl ?_ (fun bO hbO => ?_); (simp only [List.length_map]; omega))
          | (refine o_loadRow TtOk rfl rfl rfl rfl rfl (by assumption) (getq_map (List.getElem?_eq_getElem ?_)) rfl rfl (by first | exact Nat.add_zero _ | rfl) ⟨rfl, rfl⟩ ?_; omega)
          | (refine o_calm rfl TtOk rfl rfl rfl ?_ (fun _ => ?_); (show List.length _ + List.length _ ≤ 9223372036854775807; (try simp only [List.length_append, List.length_cons, List.length_nil]); omega))
          | (refine o_storeRow TtOk rfl rfl rfl rfl rfl rfl (by assumption) (getq_map (List.getElem?_eq_getElem ?_)) rfl rfl (by first | exact Nat.add_zero _ | rfl) ⟨rfl, rfl⟩ rfl rfl ?_; omega)
          | refine o_eqNil TtOk rfl rfl rfl rfl rfl ?_
          | refine o_eqArr8 TtOk rfl rfl rfl rfl rfl rfl (by kernel_rfl) ?_
          | (fail_if_success (refine o_isLit rfl (by first | exact .inl rfl | exact .inr rfl) ?_)); (refine o_splitP rfl rfl (fun hc => ?_) (fun hc => ?_) <;> try (exfalso; omega))
          | (fail_if_success (refine o_isLit rfl (by first | exact .inl rfl | exact .inr rfl) ?_)); (refine o_splitI rfl rfl (fun hc => ?_) (fun hc => ?_) <;> try (exfalso; omega))
          | (fail_if_success (refine o_isLit rfl (by first | exact .inl rfl | exact .inr rfl) ?_)); (refine o_splitN rfl rfl (fun hc => ?_) (fun hc => ?_) <;> try (exfalso; omega))
          | (fail_if_success (refine o_isLit rfl (by first | exact .inl rfl | exact .inr rfl) ?_)); (refine o_split rfl rfl (fun hc => ?_) (fun hc => ?_))
          | refine a_condT rfl ?_
          | refine a_condF rfl ?_
          | (refine a_condP rfl (fun hc => ?_) (fun hc => ?_)) <;> (try (exfalso; omega))
          | (refine a_condI rfl (fun hc => ?_) (fun hc => ?_)) <;> (try (exfalso; omega))
          | (refine a_condN rfl (fun hc => ?_) (fun hc => ?_)) <;> (try (exfalso; omega))
          | (refine Awp.cond rfl (fun hc => ?_) (fun hc => ?_))
          | (refine o_lookupSet TtOk keyI rfl ((s.fs.take k).map Fl.num) s.fs[k].num rfl (by kernel_rfl) rfl rfl rfl (fun w F u hu => ?_) rfl ?_; exact repV_i.1 hu)
          | (refine o_updateSet TtOk keyI rfl ((s.fs.take k).map Fl.num) s.fs[k].num rfl (by kernel_rfl) rfl rfl (fun w F u hu => ?_) rfl rfl rfl hcn ?_; exact repV_i.1 hu)
          | (refine o_call0 rfl (hk1) ⟨SLe.of_eq rfl, True.intro⟩ rfl ?_; rintro _ _ ⟨rfl, rfl⟩; refine ⟨rfl, ?_⟩)
          | (refine o_call0 rfl (hk2) ⟨SLe.of_eq rfl, True.intro⟩ rfl ?_; rintro _ _ ⟨rfl, rfl⟩; refine ⟨rfl, ?_⟩))
        all_goals exact ⟨k + 1, [], ⟨hlt, hr⟩, by show s.fs.length - (k + 1) < s.fs.length - k; omega, rfl, ⟨sle_i rfl, sle_i rfl, sle_sl rfl, sle_own, sle_ptr, True.intro⟩, HLe.cons 29 rfl (by rw [hst]; exact HOLe.refl _) (HLe.cons 1 rfl (HOLe.refl _) .nil)⟩
      · have hlt1 : k - 1 < s.fs.length := by omega
        rw [seqF_succ s.fs k (by omega) hk] at hr
        have hor := order_spec (s.fs[k - 1]'hlt1) s.fs[k]
        have hoa := ordF_ahead (s.fs[k - 1]'hlt1) s.fs[k]
        generalize ordF (s.fs[k - 1]'hlt1) s.fs[k] = o at hor hoa
        by_cases hP : afterF (s.fs[k - 1]'hlt1) s.fs[k]
        · rw [if_pos hP, if_pos (by decide)] at hr
          subst hr
          unfold afterF at hP
          by_cases ho : 0 ≤ o
          · repeat' (first
              | (exact absurd (hc.symm.trans hcn) (by decide))
              | (exact absurd (hc.symm.trans hgt) (by decide))
              | refine Awp.seq ?_
              | refine Awp.block ?_
              | refine Awp.region ?_
              | (refine Ops.nil ?_; show Awp _ _ _ _ _)
              | (refine Ops.nil ?_; show Exists _)
              | (refine Ops.nil ?_; show endK _ _ _ _ _)
              | (refine Awp.skip ?_; show Awp _ _ _ _ _)
              | (refine Awp.skip ?_; show endK _ _ _ _ _)
              | (refine Awp.skip ?_; show Exists _)
              | (refine Awp.exit ?_; show Awp _ _ _ _ _)
              | (refine Awp.exit ?_; show Exists _)
              | (refine Awp.exit ?_; show endK _ _ _ _ _)
              | (refine Awp.ret ?_; show endK _ _ _ _ _)
              | refine o_offT rfl rfl rfl (by first | exact .inl rfl | exact .inr rfl) ?_
              | refine o_offU rfl rfl rfl (by first | exact .inl rfl | exact .inr rfl) ?_
              | refine o_offF rfl rfl rfl (by first | exact .inl rfl | exact .inr rfl) ?_
              | (refine o_add rfl rfl rfl rfl ?_ ?_; omega)
              | (refine o_sub rfl rfl rfl rfl ?_ ?_; omega)
              | refine o_len rfl TtOk rfl rfl rfl (fun _ => ?_)
              | refine o_lenOwn rfl TtOk rfl rfl rfl rfl (fun _ => ?_)
              | (refine o_calm rfl TtOk rfl rfl rfl ?_ (fun _ => ?_); first | exact True.intro | exact ⟨rfl, rfl, rfl, rfl⟩ | exact ⟨rfl, True.intro⟩ | exact ⟨rfl, rfl⟩ | exact ⟨rfl, rfl, rfl⟩ | exact rfl | exact ⟨fun h0 => by cases h0, rfl⟩ | exact (fun h0 => by cases h0) | exact ⟨rfl, by omega⟩ | exact ⟨Nat.succ_ne_zero _, rfl⟩ | omega)
              | refine o_alloc (d := 5) rfl TtOk rfl rfl rfl (fun b5 => ?_)
              | refine o_alloc (d := 6) rfl TtOk rfl rfl rfl (fun b6 => ?_)
              | refine o_box (d := 1) rfl rfl rfl rfl (fun b1 => ?_)
              | refine o_store TtOk rfl rfl rfl rfl rfl rfl rfl ⟨rfl, rfl⟩ rfl rfl rfl rfl rfl ?_
              | (refine o_index rfl TtOk rfl rfl rfl rfl rfl rfl ?_ (getq_nat ?_) ?_; omega; omega)
              | (refine o_indexOwn TtOk rfl rfl rfl rfl rfl rfl rfl rfl _ rfl ?_ (fun bO hbO => ?_); (simp only [List.length_map]; omega))
              | (refine o_loadRow TtOk rfl rfl rfl rfl rfl (by assumption) (getq_map (List.getElem?_eq_getElem ?_)) rfl rfl (by first | exact Nat.add_zero _ | rfl) ⟨rfl, rfl⟩ ?_; omega)
              | (refine o_calm rfl TtOk rfl rfl rfl ?_ (fun _ => ?_); (show List.length _ + List.length _ ≤ 9223372036854775807; (try simp only [List.length_append, List.length_cons, List.length_nil]); omega))
              | (refine o_storeRow TtOk rfl rfl rfl rfl rfl rfl (by assumption) (getq_map (List.getElem?_eq_getElem ?_)) rfl rfl (by first | exact Nat.add_zero _ | rfl) ⟨rfl, rfl⟩ rfl rfl ?_; omega)
              | refine o_eqNil TtOk rfl rfl rfl rfl rfl ?_
              | refine o_eqArr8 TtOk rfl rfl rfl rfl rfl rfl (by kernel_rfl) ?_
              | (fail_if_success (refine o_isLit rfl (by first | exact .inl rfl | exact .inr rfl) ?_)); (refine o_splitP rfl rfl (fun hc => ?_) (fun hc => ?_) <;> try (exfalso; omega))
              | (fail_if_success (refine o_isLit rfl (by first | exact .inl rfl | exact .inr rfl) ?_)); (refine o_splitI rfl rfl (fun hc => ?_) (fun hc => ?_) <;> try (exfalso; omega))
              | (fail_if_success (refine o_isLit rfl (by first | exact .inl rfl | exact .inr rfl) ?_)); (refine o_splitN rfl rfl (fun hc => ?_) (fun hc => ?_) <;> try (exfalso; omega))
              | (fail_if_success (refine o_isLit rfl (by first | exact .inl rfl | exact .inr rfl) ?_)); (refine o_split rfl rfl (fun hc => ?_) (fun hc => ?_))
              | refine a_condT rfl ?_
              | refine a_condF rfl ?_
              | (refine a_condP rfl (fun hc => ?_) (fun hc => ?_)) <;> (try (exfalso; omega))
              | (refine a_condI rfl (fun hc => ?_) (fun hc => ?_)) <;> (try (exfalso; omega))
              | (refine a_condN rfl (fun hc => ?_) (fun hc => ?_)) <;> (try (exfalso; omega))
              | (refine Awp.cond rfl (fun hc => ?_) (fun hc => ?_))
              | (refine o_lookupSet TtOk keyI rfl ((s.fs.take k).map Fl.num) s.fs[k].num rfl (by kernel_rfl) rfl rfl rfl (fun w F u hu => ?_) rfl ?_; exact repV_i.1 hu)
              | (refine o_updateSet TtOk keyI rfl ((s.fs.take k).map Fl.num) s.fs[k].num rfl (by kernel_rfl) rfl rfl (fun w F u hu => ?_) rfl rfl rfl hcn ?_; exact repV_i.1 hu)
              | (refine o_index rfl TtOk rfl rfl rfl rfl rfl rfl ?_ (getq_as (k-1) ?_ hlt1) ?_; omega; omega)
              | (refine o_call0 rfl (hk1) ⟨SLe.of_eq rfl, True.intro⟩ rfl ?_; rintro _ _ ⟨rfl, rfl⟩; refine ⟨rfl, ?_⟩)
              | (refine o_call0 rfl (hk2) ⟨SLe.of_eq rfl, True.intro⟩ rfl ?_; rintro _ _ ⟨rfl, rfl⟩; refine ⟨rfl, ?_⟩)
              | (refine o_call0 rfl (hor) ⟨SLe.of_eq rfl, SLe.of_eq rfl, True.intro⟩ rfl ?_; rintro _ _ ⟨rfl, rfl⟩; refine ⟨rfl, ?_⟩))
            all_goals exact end_tmp rfl rfl rfl [] [] (CLe.of_eq rfl) .nil ⟨rfl, rfl⟩ _ (.inl rfl)
          · have hP : (s.fs[k - 1]'hlt1).lev = s.fs[k].lev ∧ 0 < s.fs[k].lev ∧ Op.bytesLess (s.fs[k - 1]'hlt1).last s.fs[k].first = false := by
              rcases hP with h | h
              · rw [hoa.1 (by omega)] at h; cases h
              · exact h
            obtain ⟨p1, p2, p3⟩ := hP
            have hne : (!Op.bytesLess (s.fs[k - 1]'hlt1).last s.fs[k].first) = true := by rw [p3]; rfl
            repeat' (first
              | (exact absurd (hc.symm.trans hne) (by decide))
              | (exact absurd (hc.symm.trans hcn) (by decide))
              | (exact absurd (hc.symm.trans hgt) (by decide))
              | refine Awp.seq ?_
              | refine Awp.block ?_
              | refine Awp.region ?_
              | (refine Ops.nil ?_; show Awp _ _ _ _ _)
              | (refine Ops.nil ?_; show Exists _)
              | (refine Ops.nil ?_; show endK _ _ _ _ _)
              | (refine Awp.skip ?_; show Awp _ _ _ _ _)
              | (refine Awp.skip ?_; show endK _ _ _ _ _)
              | (refine Awp.skip ?_; show Exists _)
              | (refine Awp.exit ?_; show Awp _ _ _ _ _)
              | (refine Awp.exit ?_; show Exists _)
              | (refine Awp.exit ?_; show endK _ _ _ _ _)
              | (refine Awp.ret ?_; show endK _ _ _ _ _)
              | refine o_offT rfl rfl rfl (by first | exact .inl rfl | exact .inr rfl) ?_
              | refine o_offU rfl rfl rfl (by first | exact .inl rfl | exact .inr rfl) ?_
              | refine o_offF rfl rfl rfl (by first | exact .inl rfl | exact .inr rfl) ?_
              | (refine o_add rfl rfl rfl rfl ?_ ?_; omega)
              | (refine o_sub rfl rfl rfl rfl ?_ ?_; omega)
              | refine o_len rfl TtOk rfl rfl rfl (fun _ => ?_)
              | refine o_lenOwn rfl TtOk rfl rfl rfl rfl (fun _ => ?_)
              | (refine o_calm rfl TtOk rfl rfl rfl ?_ (fun _ => ?_); first | exact True.intro | exact ⟨rfl, rfl, rfl, rfl⟩ | exact ⟨rfl, True.intro⟩ | exact ⟨rfl, rfl⟩ | exact ⟨rfl, rfl, rfl⟩ | exact rfl | exact ⟨fun h0 => by cases h0, rfl⟩ | exact (fun h0 => by cases h0) | exact ⟨rfl, by omega⟩ | exact ⟨Nat.succ_ne_zero _, rfl⟩ | omega)
              | refine o_alloc (d := 5) rfl TtOk rfl rfl rfl (fun b5 => ?_)
              | refine o_alloc (d := 6) rfl TtOk rfl rfl rfl (fun b6 => ?_)
              | refine o_box (d := 1) rfl rfl rfl rfl (fun b1 => ?_)
              | refine o_store TtOk rfl rfl rfl rfl rfl rfl rfl ⟨rfl, rfl⟩ rfl rfl rfl rfl rfl ?_
              | (refine o_index rfl TtOk rfl rfl rfl rfl rfl rfl ?_ (getq_nat ?_) ?_; omega; omega)
              | (refine o_indexOwn TtOk rfl rfl rfl rfl rfl rfl rfl rfl _ rfl ?_ (fun bO hbO => ?_); (simp only [List.length_map]; omega))
              | (refine o_loadRow TtOk rfl rfl rfl rfl rfl (by assumption) (getq_map (List.getElem?_eq_getElem ?_)) rfl rfl (by first | exact Nat.add_zero _ | rfl) ⟨rfl, rfl⟩ ?_; omega)
              | (refine o_calm rfl TtOk rfl rfl rfl ?_ (fun _ => ?_); (show List.length _ + List.length _ ≤ 9223372036854775807; (try simp only [List.length_append, List.length_cons, List.length_nil]); omega))
              | (refine o_storeRow TtOk rfl rfl rfl rfl rfl rfl (by assumption) (getq_map (List.getElem?_eq_getElem ?_)) rfl rfl (by first | exact Nat.add_zero _ | rfl) ⟨rfl, rfl⟩ rfl rfl ?_; omega)
              | refine o_eqNil TtOk rfl rfl rfl rfl rfl ?_
              | refine o_eqArr8 TtOk rfl rfl rfl rfl rfl rfl (by kernel_rfl) ?_
              | (fail_if_success (refine o_isLit rfl (by first | exact .inl rfl | exact .inr rfl) ?_)); (refine o_splitP rfl rfl (fun hc => ?_) (fun hc => ?_) <;> try (exfalso; omega))
              | (fail_if_success (refine o_isLit rfl (by first | exact .inl rfl | exact .inr rfl) ?_)); (refine o_splitI rfl rfl (fun hc => ?_) (fun hc => ?_) <;> try (exfalso; omega))
              | (fail_if_success (refine o_isLit rfl (by first | exact .inl rfl | exact .inr rfl) ?_)); (refine o_splitN rfl rfl (fun hc => ?_) (fun hc => ?_) <;> try (exfalso; omega))
              | (fail_if_success (refine o_isLit rfl (by first | exact .inl rfl | exact .inr rfl) ?_)); (refine o_split rfl rfl (fun hc => ?_) (fun hc => ?_))
              | refine a_condT rfl ?_
              | refine a_condF rfl ?_
              | (refine a_condP rfl (fun hc => ?_) (fun hc => ?_)) <;> (try (exfalso; omega))
              | (refine a_condI rfl (fun hc => ?_) (fun hc => ?_)) <;> (try (exfalso; omega))
              | (refine a_condN rfl (fun hc => ?_) (fun hc => ?_)) <;> (try (exfalso; omega))
              | (refine Awp.cond rfl (fun hc => ?_) (fun hc => ?_))
              | (refine o_lookupSet TtOk keyI rfl ((s.fs.take k).map Fl.num) s.fs[k].num rfl (by kernel_rfl) rfl rfl rfl (fun w F u hu => ?_) rfl ?_; exact repV_i.1 hu)
              | (refine o_updateSet TtOk keyI rfl ((s.fs.take k).map Fl.num) s.fs[k].num rfl (by kernel_rfl) rfl rfl (fun w F u hu => ?_) rfl rfl rfl hcn ?_; exact repV_i.1 hu)
              | (refine o_index rfl TtOk rfl rfl rfl rfl rfl rfl ?_ (getq_as (k-1) ?_ hlt1) ?_; omega; omega)
              | (refine o_call0 rfl (hk1) ⟨SLe.of_eq rfl, True.intro⟩ rfl ?_; rintro _ _ ⟨rfl, rfl⟩; refine ⟨rfl, ?_⟩)
              | (refine o_call0 rfl (hk2) ⟨SLe.of_eq rfl, True.intro⟩ rfl ?_; rintro _ _ ⟨rfl, rfl⟩; refine ⟨rfl, ?_⟩)
              | (refine o_call0 rfl (hor) ⟨SLe.of_eq rfl, SLe.of_eq rfl, True.intro⟩ rfl ?_; rintro _ _ ⟨rfl, rfl⟩; refine ⟨rfl, ?_⟩))
            all_goals exact end_tmp rfl rfl rfl [] [] (CLe.of_eq rfl) .nil ⟨rfl, rfl⟩ _ (.inl rfl)
        · rw [if_neg hP, if_neg (fun h => h rfl)] at hr
          unfold afterF at hP
          have ho : o < 0 := by
            rcases Int.lt_or_le o 0 with h | h
            · exact h
            · exact absurd (.inl (by cases hq2 : aheadF (s.fs[k - 1]'hlt1) s.fs[k]; rfl; exact absurd (hoa.2 hq2) (by omega))) hP
          by_cases p12 : (s.fs[k - 1]'hlt1).lev = s.fs[k].lev ∧ 0 < s.fs[k].lev
          · obtain ⟨p1, p2⟩ := p12
            have hne : (!Op.bytesLess (s.fs[k - 1]'hlt1).last s.fs[k].first) = false := by
              cases h : Op.bytesLess (s.fs[k - 1]'hlt1).last s.fs[k].first
              · exact absurd (.inr ⟨p1, p2, h⟩) hP
              · rfl
            repeat' (first
              | (exact absurd (hc.symm.trans hne) (by decide))
              | (exact absurd (hc.symm.trans hcn) (by decide))
              | (exact absurd (hc.symm.trans hgt) (by decide))
              | refine Awp.seq ?_
              | refine Awp.block ?_
              | refine Awp.region ?_
              | (refine Ops.nil ?_; show Awp _ _ _ _ _)
              | (refine Ops.nil ?_; show Exists _)
              | (refine Ops.nil ?_; show endK _ _ _ _ _)
              | (refine Awp.skip ?_; show Awp _ _ _ _ _)
              | (refine Awp.skip ?_; show endK _ _ _ _ _)
              | (refine Awp.skip ?_; show Exists _)
              | (refine Awp.exit ?_; show Awp _ _ _ _ _)
              | (refine Awp.exit ?_; show Exists _)
              | (refine Awp.exit ?_; show endK _ _ _ _ _)
              | (refine Awp.ret ?_; show endK _ _ _ _ _)
              | refine o_offT rfl rfl rfl (by first | exact .inl rfl | exact .inr rfl) ?_
              | refine o_offU rfl rfl rfl (by first | exact .inl rfl | exact .inr rfl) ?_
              | refine o_offF rfl rfl rfl (by first | exact .inl rfl | exact .inr rfl) ?_
              | (refine o_add rfl rfl rfl rfl ?_ ?_; omega)
              | (refine o_sub rfl rfl rfl rfl ?_ ?_; omega)
              | refine o_len rfl TtOk rfl rfl rfl (fun _ => ?_)
              | refine o_lenOwn rfl TtOk rfl rfl rfl rfl (fun _ => ?_)
              | (refine o_calm rfl TtOk rfl rfl rfl ?_ (fun _ => ?_); first | exact True.intro | exact ⟨rfl, rfl, rfl, rfl⟩ | exact ⟨rfl, True.intro⟩ | exact ⟨rfl, rfl⟩ | exact ⟨rfl, rfl, rfl⟩ | exact rfl | exact ⟨fun h0 => by cases h0, rfl⟩ | exact (fun h0 => by cases h0) | exact ⟨rfl, by omega⟩ | exact ⟨Nat.succ_ne_zero _, rfl⟩ | omega)
              | refine o_alloc (d := 5) rfl TtOk rfl rfl rfl (fun b5 => ?_)
              | refine o_alloc (d := 6) rfl TtOk rfl rfl rfl (fun b6 => ?_)
              | refine o_box (d := 1) rfl rfl rfl rfl (fun b1 => ?_)
              | refine o_store TtOk rfl rfl rfl rfl rfl rfl rfl ⟨rfl, rfl⟩ rfl rfl rfl rfl rfl ?_
              | (refine o_index rfl TtOk rfl rfl rfl rfl rfl rfl ?_ (getq_nat ?_) ?_; omega; omega)
              | (refine o_indexOwn TtOk rfl rfl rfl rfl rfl rfl rfl rfl _ rfl ?_ (fun bO hbO => ?_); (simp only [List.length_map]; omega))
              | (refine o_loadRow TtOk rfl rfl rfl rfl rfl (by assumption) (getq_map (List.getElem?_eq_getElem ?_)) rfl rfl (by first | exact Nat.add_zero _ | rfl) ⟨rfl, rfl⟩ ?_; omega)
              | (refine o_calm rfl TtOk rfl rfl rfl ?_ (fun _ => ?_); (show List.length _ + List.length _ ≤ 9223372036854775807; (try simp only [List.length_append, List.length_cons, List.length_nil]); omega))
              | (refine o_storeRow TtOk rfl rfl rfl rfl rfl rfl (by assumption) (getq_map (List.getElem?_eq_getElem ?_)) rfl rfl (by first | exact Nat.add_zero _ | rfl) ⟨rfl, rfl⟩ rfl rfl ?_; omega)
              | refine o_eqNil TtOk rfl rfl rfl rfl rfl ?_
              | refine o_eqArr8 TtOk rfl rfl rfl rfl rfl rfl (by kernel_rfl) ?_
              | (fail_if_success (refine o_isLit rfl (by first | exact .inl rfl | exact .inr rfl) ?_)); (refine o_splitP rfl rfl (fun hc => ?_) (fun hc => ?_) <;> try (exfalso; omega))
              | (fail_if_success (refine o_isLit rfl (by first | exact .inl rfl | exact .inr rfl) ?_)); (refine o_splitI rfl rfl (fun hc => ?_) (fun hc => ?_) <;> try (exfalso; omega))
              | (fail_if_success (refine o_isLit rfl (by first | exact .inl rfl | exact .inr rfl) ?_)); (refine o_splitN rfl rfl (fun hc => ?_) (fun hc => ?_) <;> try (exfalso; omega))
              | (fail_if_success (refine o_isLit rfl (by first | exact .inl rfl | exact .inr rfl) ?_)); (refine o_split rfl rfl (fun hc => ?_) (fun hc => ?_))
              | refine a_condT rfl ?_
              | refine a_condF rfl ?_
              | (refine a_condP rfl (fun hc => ?_) (fun hc => ?_)) <;> (try (exfalso; omega))
              | (refine a_condI rfl (fun hc => ?_) (fun hc => ?_)) <;> (try (exfalso; omega))
              | (refine a_condN rfl (fun hc => ?_) (fun hc => ?_)) <;> (try (exfalso; omega))
              | (refine Awp.cond rfl (fun hc => ?_) (fun hc => ?_))
              | (refine o_lookupSet TtOk keyI rfl ((s.fs.take k).map Fl.num) s.fs[k].num rfl (by kernel_rfl) rfl rfl rfl (fun w F u hu => ?_) rfl ?_; exact repV_i.1 hu)
              | (refine o_updateSet TtOk keyI rfl ((s.fs.take k).map Fl.num) s.fs[k].num rfl (by kernel_rfl) rfl rfl (fun w F u hu => ?_) rfl rfl rfl hcn ?_; exact repV_i.1 hu)
              | (refine o_index rfl TtOk rfl rfl rfl rfl rfl rfl ?_ (getq_as (k-1) ?_ hlt1) ?_; omega; omega)
              | (refine o_call0 rfl (hk1) ⟨SLe.of_eq rfl, True.intro⟩ rfl ?_; rintro _ _ ⟨rfl, rfl⟩; refine ⟨rfl, ?_⟩)
              | (refine o_call0 rfl (hk2) ⟨SLe.of_eq rfl, True.intro⟩ rfl ?_; rintro _ _ ⟨rfl, rfl⟩; refine ⟨rfl, ?_⟩)
              | (refine o_call0 rfl (hor) ⟨SLe.of_eq rfl, SLe.of_eq rfl, True.intro⟩ rfl ?_; rintro _ _ ⟨rfl, rfl⟩; refine ⟨rfl, ?_⟩))
            all_goals exact ⟨k + 1, [], ⟨hlt, hr⟩, by show s.fs.length - (k + 1) < s.fs.length - k; omega, rfl, ⟨sle_i rfl, sle_i rfl, sle_sl rfl, sle_own, sle_ptr, True.intro⟩, HLe.cons 29 rfl (by rw [hst]; exact HOLe.refl _) (HLe.cons 1 rfl (HOLe.refl _) .nil)⟩
          · repeat' (first
              | (exact absurd (hc.symm.trans hne) (by decide))
              | (exact absurd (hc.symm.trans hcn) (by decide))
              | (exact absurd (hc.symm.trans hgt) (by decide))
              | refine Awp.seq ?_
              | refine Awp.block ?_
              | refine Awp.region ?_
              | (refine Ops.nil ?_; show Awp _ _ _ _ _)
              | (refine Ops.nil ?_; show Exists _)
              | (refine Ops.nil ?_; show endK _ _ _ _ _)
              | (refine Awp.skip ?_; show Awp _ _ _ _ _)
              | (refine Awp.skip ?_; show endK _ _ _ _ _)
              | (refine Awp.skip ?_; show Exists _)
              | (refine Awp.exit ?_; show Awp _ _ _ _ _)
              | (refine Awp.exit ?_; show Exists _)
              | (refine Awp.exit ?_; show endK _ _ _ _ _)
              | (refine Awp.ret ?_; show endK _ _ _ _ _)
              | refine o_offT rfl rfl rfl (by first | exact .inl rfl | exact .inr rfl) ?_
              | refine o_offU rfl rfl rfl (by first | exact .inl rfl | exact .inr rfl) ?_
              | refine o_offF rfl rfl rfl (by first | exact .inl rfl | exact .inr rfl) ?_
              | (refine o_add rfl rfl rfl rfl ?_ ?_; omega)
              | (refine o_sub rfl rfl rfl rfl ?_ ?_; omega)
              | refine o_len rfl TtOk rfl rfl rfl (fun _ => ?_)
              | refine o_lenOwn rfl TtOk rfl rfl rfl rfl (fun _ => ?_)
              | (refine o_calm rfl TtOk rfl rfl rfl ?_ (fun _ => ?_); first | exact True.intro | exact ⟨rfl, rfl, rfl, rfl⟩ | exact ⟨rfl, True.intro⟩ | exact ⟨rfl, rfl⟩ | exact ⟨rfl, rfl, rfl⟩ | exact rfl | exact ⟨fun h0 => by cases h0, rfl⟩ | exact (fun h0 => by cases h0) | exact ⟨rfl, by omega⟩ | exact ⟨Nat.succ_ne_zero _, rfl⟩ | omega)
              | refine o_alloc (d := 5) rfl TtOk rfl rfl rfl (fun b5 => ?_)
              | refine o_alloc (d := 6) rfl TtOk rfl rfl rfl (fun b6 => ?_)
              | refine o_box (d := 1) rfl rfl rfl rfl (fun b1 => ?_)
              | refine o_store TtOk rfl rfl rfl rfl rfl rfl rfl ⟨rfl, rfl⟩ rfl rfl rfl rfl rfl ?_
              | (refine o_index rfl TtOk rfl rfl rfl rfl rfl rfl ?_ (getq_nat ?_) ?_; omega; omega)
              | (refine o_indexOwn TtOk rfl rfl rfl rfl rfl rfl rfl rfl _ rfl ?_ (fun bO hbO => ?_); (simp only [List.length_map]; omega))
              | (refine o_loadRow TtOk rfl rfl rfl rfl rfl (by assumption) (getq_map (List.getElem?_eq_getElem ?_)) rfl rfl (by first | exact Nat.add_zero _ | rfl) ⟨rfl, rfl⟩ ?_; omega)
              | (refine o_calm rfl TtOk rfl rfl rfl ?_ (fun _ => ?_); (show List.length _ + List.length _ ≤ 9223372036854775807; (try simp only [List.length_append, List.length_cons, List.length_nil]); omega))
              | (refine o_storeRow TtOk rfl rfl rfl rfl rfl rfl (by assumption) (getq_map (List.getElem?_eq_getElem ?_)) rfl rfl (by first | exact Nat.add_zero _ | rfl) ⟨rfl, rfl⟩ rfl rfl ?_; omega)
              | refine o_eqNil TtOk rfl rfl rfl rfl rfl ?_
              | refine o_eqArr8 TtOk rfl rfl rfl rfl rfl rfl (by kernel_rfl) ?_
              | (fail_if_success (refine o_isLit rfl (by first | exact .inl rfl | exact .inr rfl) ?_)); (refine o_splitP rfl rfl (fun hc => ?_) (fun hc => ?_) <;> try (exfalso; omega))
              | (fail_if_success (refine o_isLit rfl (by first | exact .inl rfl | exact .inr rfl) ?_)); (refine o_splitI rfl rfl (fun hc => ?_) (fun hc => ?_) <;> try (exfalso; omega))
              | (fail_if_success (refine o_isLit rfl (by first | exact .inl rfl | exact .inr rfl) ?_)); (refine o_splitN rfl rfl (fun hc => ?_) (fun hc => ?_) <;> try (exfalso; omega))
              | (fail_if_success (refine o_isLit rfl (by first | exact .inl rfl | exact .inr rfl) ?_)); (refine o_split rfl rfl (fun hc => ?_) (fun hc => ?_))
              | refine a_condT rfl ?_
              | refine a_condF rfl ?_
              | (refine a_condP rfl (fun hc => ?_) (fun hc => ?_)) <;> (try (exfalso; omega))
              | (refine a_condI rfl (fun hc => ?_) (fun hc => ?_)) <;> (try (exfalso; omega))
              | (refine a_condN rfl (fun hc => ?_) (fun hc => ?_)) <;> (try (exfalso; omega))
              | (refine Awp.cond rfl (fun hc => ?_) (fun hc => ?_))
              | (refine o_lookupSet TtOk keyI rfl ((s.fs.take k).map Fl.num) s.fs[k].num rfl (by kernel_rfl) rfl rfl rfl (fun w F u hu => ?_) rfl ?_; exact repV_i.1 hu)
              | (refine o_updateSet TtOk keyI rfl ((s.fs.take k).map Fl.num) s.fs[k].num rfl (by kernel_rfl) rfl rfl (fun w F u hu => ?_) rfl rfl rfl hcn ?_; exact repV_i.1 hu)
              | (refine o_index rfl TtOk rfl rfl rfl rfl rfl rfl ?_ (getq_as (k-1) ?_ hlt1) ?_; omega; omega)
              | (refine o_call0 rfl (hk1) ⟨SLe.of_eq rfl, True.intro⟩ rfl ?_; rintro _ _ ⟨rfl, rfl⟩; refine ⟨rfl, ?_⟩)
              | (refine o_call0 rfl (hk2) ⟨SLe.of_eq rfl, True.intro⟩ rfl ?_; rintro _ _ ⟨rfl, rfl⟩; refine ⟨rfl, ?_⟩)
              | (refine o_call0 rfl (hor) ⟨SLe.of_eq rfl, SLe.of_eq rfl, True.intro⟩ rfl ?_; rintro _ _ ⟨rfl, rfl⟩; refine ⟨rfl, ?_⟩))
            all_goals exact ⟨k + 1, [], ⟨hlt, hr⟩, by show s.fs.length - (k + 1) < s.fs.length - k; omega, rfl, ⟨sle_i rfl, sle_i rfl, sle_sl rfl, sle_own, sle_ptr, True.intro⟩, HLe.cons 29 rfl (by rw [hst]; exact HOLe.refl _) (HLe.cons 1 rfl (HOLe.refl _) .nil)⟩
  · have hkl : k = s.fs.length := by omega
    subst hkl
    rw [List.drop_length, lgo] at hr
    subst hr
    repeat' (first
      | refine Awp.seq ?_
      | refine Awp.block ?_
      | refine Awp.region ?_
      | (refine Ops.nil ?_; show Awp _ _ _ _ _)
      | (refine Ops.nil ?_; show Exists _)
      | (refine Ops.nil ?_; show endK _ _ _ _ _)
      | (refine Awp.skip ?_; show Awp _ _ _ _ _)
      | (refine Awp.skip ?_; show endK _ _ _ _ _)
      | (refine Awp.skip ?_; show Exists _)
      | (refine Awp.exit ?_; show Awp _ _ _ _ _)
      | (refine Awp.exit ?_; show Exists _)
      | (refine Awp.exit ?_; show endK _ _ _ _ _)
      | (refine Awp.ret ?_; show endK _ _ _ _ _)
      | refine o_offT rfl rfl rfl (by first | exact .inl rfl | exact .inr rfl) ?_
      | refine o_offU rfl rfl rfl (by first | exact .inl rfl | exact .inr rfl) ?_
      | refine o_offF rfl rfl rfl (by first | exact .inl rfl | exact .inr rfl) ?_
      | (refine o_add rfl rfl rfl rfl ?_ ?_; omega)
      | (refine o_sub rfl rfl rfl rfl ?_ ?_; omega)
      | refine o_len rfl TtOk rfl rfl rfl (fun _ => ?_)
      | refine o_lenOwn rfl TtOk rfl rfl rfl rfl (fun _ => ?_)
      | (refine o_calm rfl TtOk rfl rfl rfl ?_ (fun _ => ?_); first | exact True.intro | exact ⟨rfl, rfl, rfl, rfl⟩ | exact ⟨rfl, True.intro⟩ | exact ⟨rfl, rfl⟩ | exact ⟨rfl, rfl, rfl⟩ | exact rfl | exact ⟨fun h0 => by cases h0, rfl⟩ | exact (fun h0 => by cases h0) | exact ⟨rfl, by omega⟩ | exact ⟨Nat.succ_ne_zero _, rfl⟩ | omega)
      | refine o_alloc (d := 5) rfl TtOk rfl rfl rfl (fun b5 => ?_)
      | refine o_alloc (d := 6) rfl TtOk rfl rfl rfl (fun b6 => ?_)
      | refine o_box (d := 1) rfl rfl rfl rfl (fun b1 => ?_)
      | refine o_store TtOk rfl rfl rfl rfl rfl rfl rfl ⟨rfl, rfl⟩ rfl rfl rfl rfl rfl ?_
      | (refine o_index rfl TtOk rfl rfl rfl rfl rfl rfl ?_ (getq_nat ?_) ?_; omega; omega)
      | (refine o_indexOwn TtOk rfl rfl rfl rfl rfl rfl rfl rfl _ rfl ?_ (fun bO hbO => ?_); (simp only [List.length_map]; omega))
      | (refine o_loadRow TtOk rfl rfl rfl rfl rfl (by assumption) (getq_map (List.getElem?_eq_getElem ?_)) rfl rfl (by first | exact Nat.add_zero _ | rfl) ⟨rfl, rfl⟩ ?_; omega)
      | (refine o_calm rfl TtOk rfl rfl rfl ?_ (fun _ => ?_); (show List.length _ + List.length _ ≤ 9223372036854775807; (try simp only [List.length_append, List.length_cons, List.length_nil]); omega))
      | (refine o_storeRow TtOk rfl rfl rfl rfl rfl rfl (by assumption) (getq_map (List.getElem?_eq_getElem ?_)) rfl rfl (by first | exact Nat.add_zero _ | rfl) ⟨rfl, rfl⟩ rfl rfl ?_; omega)
      | refine o_eqNil TtOk rfl rfl rfl rfl rfl ?_
      | refine o_eqArr8 TtOk rfl rfl rfl rfl rfl rfl (by kernel_rfl) ?_
      | (fail_if_success (refine o_isLit rfl (by first | exact .inl rfl | exact .inr rfl) ?_)); (refine o_splitP rfl rfl (fun hc => ?_) (fun hc => ?_) <;> try (exfalso; omega))
      | (fail_if_success (refine o_isLit rfl (by first | exact .inl rfl | exact .inr rfl) ?_)); (refine o_splitI rfl rfl (fun hc => ?_) (fun hc => ?_) <;> try (exfalso; omega))
      | (fail_if_success (refine o_isLit rfl (by first | exact .inl rfl | exact .inr rfl) ?_)); (refine o_splitN rfl rfl (fun hc => ?_) (fun hc => ?_) <;> try (exfalso; omega))
      | (fail_if_success (refine o_isLit rfl (by first | exact .inl rfl | exact .inr rfl) ?_)); (refine o_split rfl rfl (fun hc => ?_) (fun hc => ?_))
      | refine a_condT rfl ?_
      | refine a_condF rfl ?_
      | (refine a_condP rfl (fun hc => ?_) (fun hc => ?_)) <;> (try (exfalso; omega))
      | (refine a_condI rfl (fun hc => ?_) (fun hc => ?_)) <;> (try (exfalso; omega))
      | (refine a_condN rfl (fun hc => ?_) (fun hc => ?_)) <;> (try (exfalso; omega))
      | (refine Awp.cond rfl (fun hc => ?_) (fun hc => ?_)))
    all_goals exact end_tmp rfl rfl rfl [] [] (CLe.of_eq rfl) .nil ⟨rfl, rfl⟩ _ (.inl rfl)
end Go.Proofs.Ytnmnhnlebkebfaa
