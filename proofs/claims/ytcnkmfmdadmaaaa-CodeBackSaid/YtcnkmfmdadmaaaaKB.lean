/- law02.CodeBack by rules. -/
import Derived.Test.YtcnkmfmdadmaaaaKP
import Derived.Test.YtcnkmfmdadmaaaaKR4
import Derived.Test.YtcnkmfmdadmaaaaKW3
import Derived.Test.YtcnkmfmdadmaaaaKA
import Derived.Test.YtcnkmfmdadmaaaaKF
import Derived.Test.YtcnkmfmdadmaaaaV17
set_option maxHeartbeats 16000000
namespace Go.Proofs.Ytcnkmfmdadmaaaa
open Go Go.RowKit

theorem WS.done_bad {w : WS} (h : ¬ w.done.2 = 0) : w.done.1 = [] := by
  unfold WS.done at h ⊢
  split
  · rfl
  · rename_i h1
    rw [if_neg h1] at h
    split
    · rfl
    · rename_i h2; rw [if_neg h2] at h; exact absurd rfl h
theorem WS.done_good {w : WS} (h : w.done.2 = 0) : w.e = 0 ∧ w.bs.length ≤ 65536 ∧ w.done.1 = w.bs := by
  unfold WS.done at h ⊢
  by_cases h1 : w.e ≠ 0
  · rw [if_pos h1] at h; exact absurd h h1
  · rw [if_neg h1] at h ⊢
    by_cases h2 : 65536 < w.bs.length
    · rw [if_pos h2] at h; exact absurd (show (2 : Int) = 0 from h) (by decide)
    · rw [if_neg h2]
      exact ⟨by simpa using h1, by omega, rfl⟩
def RGood (r : RS) (rest : List UInt8) : Prop := r.e = 0 ∧ r.rest = rest ∧ r.ok
theorem RGood.mk {r : RS} {bs rest : List UInt8} (hr : r.ok) (h : r.rest = bs ++ rest) : RGood ⟨r.s, r.p + bs.length, 0⟩ rest := by
  refine ⟨rfl, ?_, ?_, hr.2⟩
  · rw [RS.rest_step]; show r.rest.drop _ = _; rw [h, List.drop_left]
  · have h1 := r.rest_len
    rw [h, List.length_append] at h1
    have := hr.1
    show r.p + bs.length ≤ r.s.length
    omega
theorem thing_reads (t : Thg) (r : RS) (hre : r.e = 0) (hr : r.ok) (hok : tOk t) (hn : t.n < 9223372036854775808) (hl : t.l.length = 32) (rest : List UInt8) (h : r.rest = tBytes t ++ rest) :
    (t.k = 1 → (r.number.1 : Int) = t.n ∧ RGood r.number.2 rest) ∧ (t.k = 2 → r.text.1 = t.s ∧ RGood r.text.2 rest) ∧ (t.k = 3 → r.label.1 = t.l ∧ RGood r.label.2 rest) ∧ (t.k = 4 → r.flag.1 = decide (0 < t.n) ∧ RGood r.flag.2 rest) ∧
    (¬ t.k = 1 → ¬ t.k = 2 → ¬ t.k = 3 → ¬ t.k = 4 → r.rest = rest) := by
  unfold tBytes at h
  refine ⟨fun hk => ?_, fun hk => ?_, fun hk => ?_, fun hk => ?_, fun h1 h2 h3 h4 => ?_⟩
  · rw [if_pos hk] at h
    have h0 := hok.1 hk
    rw [RS.number_reads r hre t.n.toNat (by omega) _ h]
    exact ⟨by show ((t.n.toNat : Nat) : Int) = t.n; omega, RGood.mk hr h⟩
  · rw [if_neg (by rw [hk]; decide), if_pos hk] at h
    rw [RS.text_reads r hre t.s (hok.2 hk) _ h]
    exact ⟨rfl, RGood.mk hr h⟩
  · rw [if_neg (by rw [hk]; decide), if_neg (by rw [hk]; decide), if_pos hk] at h
    rw [RS.label_reads r hre t.l hl _ h]
    exact ⟨rfl, hl ▸ RGood.mk hr h⟩
  · rw [if_neg (by rw [hk]; decide), if_neg (by rw [hk]; decide), if_neg (by rw [hk]; decide), if_pos hk] at h
    rw [RS.flag_reads r hre (decide (0 < t.n)) rest (by rw [h]; simp)]
    exact ⟨rfl, RGood.mk (bs := [_]) hr h⟩
  · rw [if_neg h1, if_neg h2, if_neg h3, if_neg h4] at h
    exact h
theorem back_spec (l : List Thg) (hl : l.length ≤ 9223372036854775807) (hq : ∀ t ∈ l, t.n < 9223372036854775808 ∧ t.l.length = 32) : Spec Try.prog 12 [.sl 35 (l.map thA)] [] (fun v os => v = .b true ∧ os = []) := by
  refine spec_of TtOk [] Try.func12 rfl Try.ntmps12 (by kernel_rfl) rfl rfl (fun C => ?_) rfl
  repeat' (first
    | refine Awp.seq ?_
    | refine Awp.block ?_
    | refine Awp.region ?_
    | (refine Ops.nil ?_; show Awp _ _ _ _ _)
    | (refine Ops.nil ?_; show Exists _)
    | (refine Ops.nil ?_; show endK _ _ _ _ _)
    | (refine Awp.skip ?_; show Awp _ _ _ _ _)
    | (refine Awp.skip ?_; show endK _ _ _ _ _)
    | (refine Awp.skip ?_; show Exists _)
    | (refine Awp.exit ?_; show Awp _ _ _ _ _)
    | (refine Awp.exit ?_; show Exists _)
    | (refine Awp.exit ?_; show endK _ _ _ _ _)
    | (refine Awp.ret ?_; show endK _ _ _ _ _)
    | refine o_offT rfl rfl rfl (by first | exact .inl rfl | exact .inr rfl) ?_
    | refine o_offU rfl rfl rfl (by first | exact .inl rfl | exact .inr rfl) ?_
    | refine o_offF rfl rfl rfl (by first | exact .inl rfl | exact .inr rfl) ?_
    | (refine o_add rfl rfl rfl rfl ?_ ?_; omega)
    | refine o_len rfl TtOk rfl rfl rfl (fun _ => ?_)
    | refine o_lenOwn rfl TtOk rfl rfl rfl rfl (fun _ => ?_)
    | (refine o_calm rfl TtOk rfl rfl rfl ?_ (fun _ => ?_); first | exact True.intro | exact ⟨rfl, rfl, rfl, rfl⟩ | exact ⟨rfl, True.intro⟩ | exact ⟨rfl, rfl⟩ | exact ⟨rfl, rfl, rfl⟩ | exact rfl | exact ⟨fun h0 => by cases h0, rfl⟩ | exact (fun h0 => by cases h0) | omega)
    | refine o_alloc rfl TtOk rfl rfl rfl (fun _ => ?_)
    | refine o_store TtOk rfl rfl rfl rfl rfl rfl rfl ⟨rfl, rfl⟩ rfl rfl rfl rfl rfl ?_
    | (refine o_index rfl TtOk rfl rfl rfl rfl rfl rfl ?_ (getq_nat ?_) ?_; omega; omega)
    | refine o_eqNil TtOk rfl rfl rfl rfl rfl ?_
    | refine o_eqArr8 TtOk rfl rfl rfl rfl rfl rfl (by kernel_rfl) ?_
    | (fail_if_success (refine o_isLit rfl (by first | exact .inl rfl | exact .inr rfl) ?_)); (refine o_splitP rfl rfl (fun hc => ?_) (fun hc => ?_) <;> try (exfalso; omega))
    | (fail_if_success (refine o_isLit rfl (by first | exact .inl rfl | exact .inr rfl) ?_)); (refine o_splitI rfl rfl (fun hc => ?_) (fun hc => ?_) <;> try (exfalso; omega))
    | (fail_if_success (refine o_isLit rfl (by first | exact .inl rfl | exact .inr rfl) ?_)); (refine o_splitN rfl rfl (fun hc => ?_) (fun hc => ?_) <;> try (exfalso; omega))
    | (fail_if_success (refine o_isLit rfl (by first | exact .inl rfl | exact .inr rfl) ?_)); (refine o_split rfl rfl (fun hc => ?_) (fun hc => ?_))
    | refine a_condT rfl ?_
    | refine a_condF rfl ?_
    | (refine a_condP rfl (fun hc => ?_) (fun hc => ?_)) <;> (try (exfalso; omega))
    | (refine a_condI rfl (fun hc => ?_) (fun hc => ?_)) <;> (try (exfalso; omega))
    | (refine a_condN rfl (fun hc => ?_) (fun hc => ?_)) <;> (try (exfalso; omega))
    | (refine Awp.cond rfl (fun hc => ?_) (fun hc => ?_))
    | refine a_any 26 [] [] [] [0, 2, 3, 1, 4, 5] (by kernel_rfl) (by kernel_rfl) (by kernel_rfl) rfl rfl rfl ?_
    | refine a_any 28 [] [] [] [0, 2, 3, 1, 4, 5] (by kernel_rfl) (by kernel_rfl) (by kernel_rfl) rfl rfl rfl ?_
    | refine a_any 30 [] [] [] [0, 2, 3, 1, 4, 5] (by kernel_rfl) (by kernel_rfl) (by kernel_rfl) rfl rfl rfl ?_
    | refine a_any 32 [] [] [] [0, 2, 3, 4, 1, 5, 6] (by kernel_rfl) (by kernel_rfl) (by kernel_rfl) rfl rfl rfl ?_
    | (refine o_callN rfl (ropen_spec _) ⟨SLe.of_eq rfl, True.intro⟩ rfl (fun bN => ?_))
    | (refine o_callP rfl rfl rfl rfl (rdone_spec _ _) ⟨sle_ptr, True.intro⟩ (HOLe.refl _) rfl rfl ?_; rintro _ _ ⟨rfl, rfl⟩; refine ⟨_, rfl, _, rfl, ?_⟩)
    | (refine o_callP rfl rfl rfl rfl (rflag_spec _ _ (by assumption)) ⟨sle_ptr, True.intro⟩ (HOLe.refl _) rfl rfl ?_; rintro _ _ ⟨rfl, rfl⟩; refine ⟨_, rfl, _, rfl, ?_⟩)
    | (refine o_callP rfl rfl rfl rfl (rlabel_spec _ _ (by assumption)) ⟨sle_ptr, True.intro⟩ (HOLe.refl _) rfl rfl ?_; rintro _ _ ⟨rfl, rfl⟩; refine ⟨_, rfl, _, rfl, ?_⟩)
    | (refine o_callP rfl rfl rfl rfl (rleft_spec _ _ (by assumption)) ⟨sle_ptr, True.intro⟩ (HOLe.refl _) rfl rfl ?_; rintro _ _ ⟨rfl, rfl⟩; refine ⟨_, rfl, _, rfl, ?_⟩)
    | (refine o_callP rfl rfl rfl rfl (rnumber_spec _ _ (by assumption)) ⟨sle_ptr, True.intro⟩ (HOLe.refl _) rfl rfl ?_; rintro _ _ ⟨rfl, rfl⟩; refine ⟨_, rfl, _, rfl, ?_⟩)
    | (refine o_callP rfl rfl rfl rfl (rtext_spec _ _ (by assumption)) ⟨sle_ptr, True.intro⟩ (HOLe.refl _) rfl rfl ?_; rintro _ _ ⟨rfl, rfl⟩; refine ⟨_, rfl, _, rfl, ?_⟩)
    | (refine o_callPR rfl rfl rfl rfl rfl (wdone_spec _ _ _) ⟨sle_ptr, True.intro⟩ (HOLe.refl _) (HOLe.refl _) rfl rfl ?_; rintro _ _ ⟨rfl, wv, rfl⟩; refine ⟨_, _, rfl, _, rfl, ?_⟩)
    | (refine o_callPR rfl rfl rfl rfl rfl (wflag_spec _ _ _ _ (by first | assumption | omega)) ⟨sle_ptr, SLe.of_eq rfl, True.intro⟩ (HOLe.refl _) (HOLe.refl _) rfl rfl ?_; rintro _ _ ⟨rfl, wv, rfl⟩; refine ⟨_, _, rfl, _, rfl, ?_⟩)
    | (refine o_callPR rfl rfl rfl rfl rfl (wlabel_spec _ _ (by assumption) _ _ (by first | assumption | omega)) ⟨sle_ptr, SLe.of_eq rfl, True.intro⟩ (HOLe.refl _) (HOLe.refl _) rfl rfl ?_; rintro _ _ ⟨rfl, wv, rfl⟩; refine ⟨_, _, rfl, _, rfl, ?_⟩)
    | (refine o_callPR rfl rfl rfl rfl rfl (wnumber_spec _ _ (by first | assumption | omega) _ _ (by first | assumption | omega)) ⟨sle_ptr, SLe.of_eq rfl, True.intro⟩ (HOLe.refl _) (HOLe.refl _) rfl rfl ?_; rintro _ _ ⟨rfl, wv, rfl⟩; refine ⟨_, _, rfl, _, rfl, ?_⟩)
    | (refine o_callPR rfl rfl rfl rfl rfl (wtext_spec _ _ _ _ (by first | assumption | omega)) ⟨sle_ptr, SLe.of_eq rfl, True.intro⟩ (HOLe.refl _) (HOLe.refl _) rfl rfl ?_; rintro _ _ ⟨rfl, wv, rfl⟩; refine ⟨_, _, rfl, _, rfl, ?_⟩)
    | (refine o_call0 rfl (awake_spec) True.intro rfl ?_; rintro _ _ ⟨rfl, rfl⟩; refine ⟨rfl, ?_⟩))
  rename_i b3 _
  refine o_call [] [] [0] rfl (few_spec thA l 40 (by decide) hl) ⟨sle_sl rfl, sle_i rfl, True.intro⟩ rfl True.intro rfl rfl ?_
  rintro r os' ⟨v, rfl, rfl⟩; refine ⟨_, rfl, rfl, ?_⟩
  have hL : (l.take 40).length ≤ 40 := by rw [List.length_take]; omega
  have hqL : ∀ t ∈ l.take 40, t.n < 9223372036854775808 ∧ t.l.length = 32 := fun t ht => hq t (List.mem_of_mem_take ht)
  generalize l.take 40 = L at hL hqL ⊢
  refine Ops.weaken [0] (S' := ⟨108, [(13, .sl 35 (L.map thA)), (3, .ptr 3 b3 [] 0)], [(3, .var b3 (wrA (.slice none 0 0) ⟨[], 0⟩)), (1, .row (.slice none 0 0) 5 1 [])]⟩) ⟨rfl, ⟨SLe.of_cle (CLe.fz (.head _)) rfl, sle_ptr, True.intro⟩, HLe.cons 3 rfl (HOLe.var (CLe.agg (.cons CLe.nilown (.cons (CLe.refl _) .nil)))) (.none .nil)⟩ ?_
  repeat' (first
    | refine Awp.seq ?_
    | refine Awp.block ?_
    | refine Awp.region ?_
    | (refine Ops.nil ?_; show Awp _ _ _ _ _)
    | (refine Ops.nil ?_; show Exists _)
    | (refine Ops.nil ?_; show endK _ _ _ _ _)
    | (refine Awp.skip ?_; show Awp _ _ _ _ _)
    | (refine Awp.skip ?_; show endK _ _ _ _ _)
    | (refine Awp.skip ?_; show Exists _)
    | (refine Awp.exit ?_; show Awp _ _ _ _ _)
    | (refine Awp.exit ?_; show Exists _)
    | (refine Awp.exit ?_; show endK _ _ _ _ _)
    | (refine Awp.ret ?_; show endK _ _ _ _ _)
    | refine o_offT rfl rfl rfl (by first | exact .inl rfl | exact .inr rfl) ?_
    | refine o_offU rfl rfl rfl (by first | exact .inl rfl | exact .inr rfl) ?_
    | refine o_offF rfl rfl rfl (by first | exact .inl rfl | exact .inr rfl) ?_
    | (refine o_add rfl rfl rfl rfl ?_ ?_; omega)
    | refine o_len rfl TtOk rfl rfl rfl (fun _ => ?_)
    | refine o_lenOwn rfl TtOk rfl rfl rfl rfl (fun _ => ?_)
    | (refine o_calm rfl TtOk rfl rfl rfl ?_ (fun _ => ?_); first | exact True.intro | exact ⟨rfl, rfl, rfl, rfl⟩ | exact ⟨rfl, True.intro⟩ | exact ⟨rfl, rfl⟩ | exact ⟨rfl, rfl, rfl⟩ | exact rfl | exact ⟨fun h0 => by cases h0, rfl⟩ | exact (fun h0 => by cases h0) | omega)
    | refine o_alloc rfl TtOk rfl rfl rfl (fun _ => ?_)
    | refine o_store TtOk rfl rfl rfl rfl rfl rfl rfl ⟨rfl, rfl⟩ rfl rfl rfl rfl rfl ?_
    | (refine o_index rfl TtOk rfl rfl rfl rfl rfl rfl ?_ (getq_nat ?_) ?_; omega; omega)
    | refine o_eqNil TtOk rfl rfl rfl rfl rfl ?_
    | refine o_eqArr8 TtOk rfl rfl rfl rfl rfl rfl (by kernel_rfl) ?_
    | (fail_if_success (refine o_isLit rfl (by first | exact .inl rfl | exact .inr rfl) ?_)); (refine o_splitP rfl rfl (fun hc => ?_) (fun hc => ?_) <;> try (exfalso; omega))
    | (fail_if_success (refine o_isLit rfl (by first | exact .inl rfl | exact .inr rfl) ?_)); (refine o_splitI rfl rfl (fun hc => ?_) (fun hc => ?_) <;> try (exfalso; omega))
    | (fail_if_success (refine o_isLit rfl (by first | exact .inl rfl | exact .inr rfl) ?_)); (refine o_splitN rfl rfl (fun hc => ?_) (fun hc => ?_) <;> try (exfalso; omega))
    | (fail_if_success (refine o_isLit rfl (by first | exact .inl rfl | exact .inr rfl) ?_)); (refine o_split rfl rfl (fun hc => ?_) (fun hc => ?_))
    | refine a_condT rfl ?_
    | refine a_condF rfl ?_
    | (refine a_condP rfl (fun hc => ?_) (fun hc => ?_)) <;> (try (exfalso; omega))
    | (refine a_condI rfl (fun hc => ?_) (fun hc => ?_)) <;> (try (exfalso; omega))
    | (refine a_condN rfl (fun hc => ?_) (fun hc => ?_)) <;> (try (exfalso; omega))
    | (refine Awp.cond rfl (fun hc => ?_) (fun hc => ?_))
    | refine a_any 26 [] [] [] [0, 2, 3, 1, 4, 5] (by kernel_rfl) (by kernel_rfl) (by kernel_rfl) rfl rfl rfl ?_
    | refine a_any 28 [] [] [] [0, 2, 3, 1, 4, 5] (by kernel_rfl) (by kernel_rfl) (by kernel_rfl) rfl rfl rfl ?_
    | refine a_any 30 [] [] [] [0, 2, 3, 1, 4, 5] (by kernel_rfl) (by kernel_rfl) (by kernel_rfl) rfl rfl rfl ?_
    | refine a_any 32 [] [] [] [0, 2, 3, 4, 1, 5, 6] (by kernel_rfl) (by kernel_rfl) (by kernel_rfl) rfl rfl rfl ?_
    | (refine o_callN rfl (ropen_spec _) ⟨SLe.of_eq rfl, True.intro⟩ rfl (fun bN => ?_))
    | (refine o_callP rfl rfl rfl rfl (rdone_spec _ _) ⟨sle_ptr, True.intro⟩ (HOLe.refl _) rfl rfl ?_; rintro _ _ ⟨rfl, rfl⟩; refine ⟨_, rfl, _, rfl, ?_⟩)
    | (refine o_callP rfl rfl rfl rfl (rflag_spec _ _ (by assumption)) ⟨sle_ptr, True.intro⟩ (HOLe.refl _) rfl rfl ?_; rintro _ _ ⟨rfl, rfl⟩; refine ⟨_, rfl, _, rfl, ?_⟩)
    | (refine o_callP rfl rfl rfl rfl (rlabel_spec _ _ (by assumption)) ⟨sle_ptr, True.intro⟩ (HOLe.refl _) rfl rfl ?_; rintro _ _ ⟨rfl, rfl⟩; refine ⟨_, rfl, _, rfl, ?_⟩)
    | (refine o_callP rfl rfl rfl rfl (rleft_spec _ _ (by assumption)) ⟨sle_ptr, True.intro⟩ (HOLe.refl _) rfl rfl ?_; rintro _ _ ⟨rfl, rfl⟩; refine ⟨_, rfl, _, rfl, ?_⟩)
    | (refine o_callP rfl rfl rfl rfl (rnumber_spec _ _ (by assumption)) ⟨sle_ptr, True.intro⟩ (HOLe.refl _) rfl rfl ?_; rintro _ _ ⟨rfl, rfl⟩; refine ⟨_, rfl, _, rfl, ?_⟩)
    | (refine o_callP rfl rfl rfl rfl (rtext_spec _ _ (by assumption)) ⟨sle_ptr, True.intro⟩ (HOLe.refl _) rfl rfl ?_; rintro _ _ ⟨rfl, rfl⟩; refine ⟨_, rfl, _, rfl, ?_⟩)
    | (refine o_callPR rfl rfl rfl rfl rfl (wdone_spec _ _ _) ⟨sle_ptr, True.intro⟩ (HOLe.refl _) (HOLe.refl _) rfl rfl ?_; rintro _ _ ⟨rfl, wv, rfl⟩; refine ⟨_, _, rfl, _, rfl, ?_⟩)
    | (refine o_callPR rfl rfl rfl rfl rfl (wflag_spec _ _ _ _ (by first | assumption | omega)) ⟨sle_ptr, SLe.of_eq rfl, True.intro⟩ (HOLe.refl _) (HOLe.refl _) rfl rfl ?_; rintro _ _ ⟨rfl, wv, rfl⟩; refine ⟨_, _, rfl, _, rfl, ?_⟩)
    | (refine o_callPR rfl rfl rfl rfl rfl (wlabel_spec _ _ (by assumption) _ _ (by first | assumption | omega)) ⟨sle_ptr, SLe.of_eq rfl, True.intro⟩ (HOLe.refl _) (HOLe.refl _) rfl rfl ?_; rintro _ _ ⟨rfl, wv, rfl⟩; refine ⟨_, _, rfl, _, rfl, ?_⟩)
    | (refine o_callPR rfl rfl rfl rfl rfl (wnumber_spec _ _ (by first | assumption | omega) _ _ (by first | assumption | omega)) ⟨sle_ptr, SLe.of_eq rfl, True.intro⟩ (HOLe.refl _) (HOLe.refl _) rfl rfl ?_; rintro _ _ ⟨rfl, wv, rfl⟩; refine ⟨_, _, rfl, _, rfl, ?_⟩)
    | (refine o_callPR rfl rfl rfl rfl rfl (wtext_spec _ _ _ _ (by first | assumption | omega)) ⟨sle_ptr, SLe.of_eq rfl, True.intro⟩ (HOLe.refl _) (HOLe.refl _) rfl rfl ?_; rintro _ _ ⟨rfl, wv, rfl⟩; refine ⟨_, _, rfl, _, rfl, ?_⟩)
    | (refine o_call0 rfl (awake_spec) True.intro rfl ?_; rintro _ _ ⟨rfl, rfl⟩; refine ⟨rfl, ?_⟩))
  have hW : ∀ k, ((⟨[], 0⟩ : WS).things (L.take k)).bs.length ≤ 65545 * 40 := fun k => by
    have h1 := WS.things_len ⟨[], 0⟩ (L.take k) (fun t ht => hqL t (List.mem_of_mem_take ht))
    have h2 : (L.take k).length ≤ 40 := by rw [List.length_take]; omega
    have h3 : (WS.mk [] 0).bs.length = 0 := rfl
    omega
  refine Awp.loop (fun (x : Nat × Value) => ⟨108, [(16, .i .i64 x.1), (15, .i .i64 L.length), (14, .sl 35 (L.map thA)), (0, .sl 35 (L.map thA)), (3, .ptr 3 b3 [] 0)], [(3, .var b3 (wrA x.2 ((⟨[], 0⟩ : WS).things (L.take x.1)))), (1, .row x.2 5 1 (((⟨[], 0⟩ : WS).things (L.take x.1)).bs.map byA))]⟩) (fun x => x.1 ≤ L.length) (fun x => L.length - x.1) [] (0, .slice none 0 0) (Nat.zero_le _) ?_ ?_
  · refine ⟨rfl, ?_, ?_⟩ <;> repeat' (first
      | exact True.intro
      | refine sle_i ?_
      | refine sle_s ?_
      | refine sle_b ?_
      | refine sle_sl ?_
      | exact sle_ptr
      | exact sle_own
      | exact sle_nilown
      | exact SLe.any
      | exact HLe.nil
      | exact HOLe.refl _
      | refine HLe.same rfl ?_ ?_
      | refine HLe.none ?_
      | refine HOLe.row ?_
      | refine HOLe.var ?_
      | exact CLe.refl _
      | exact CLe.own
      | exact CLe.ptr
      | exact CLe.nilown
      | refine CLe.agg ?_
      | refine CLeL.cons ?_ ?_
      | exact CLeL.nil
      | with_reducible rfl
      | refine ⟨?_, ?_⟩
      | exact SLe.of_eq rfl)
    all_goals rfl
  rintro ⟨k, v⟩ hk
  dsimp only at hk ⊢
  have hWk := hW k
  obtain ⟨w, hw⟩ : ∃ w, w = (⟨[], 0⟩ : WS).things (L.take k) := ⟨_, rfl⟩
  rw [← hw] at hWk ⊢
  refine Awp.seq ?_
  repeat' (first
    | refine Awp.region ?_
    | (refine Ops.nil ?_; show Awp _ _ _ _ _)
    | (refine Ops.nil ?_; show Exists _)
    | (refine Ops.nil ?_; show endK _ _ _ _ _)
    | (refine Awp.skip ?_; show Awp _ _ _ _ _)
    | (refine Awp.skip ?_; show endK _ _ _ _ _)
    | (refine Awp.skip ?_; show Exists _)
    | (refine Awp.exit ?_; show Awp _ _ _ _ _)
    | (refine Awp.exit ?_; show Exists _)
    | (refine Awp.exit ?_; show endK _ _ _ _ _)
    | (refine Awp.ret ?_; show endK _ _ _ _ _)
    | refine o_offT rfl rfl rfl (by first | exact .inl rfl | exact .inr rfl) ?_
    | refine o_offU rfl rfl rfl (by first | exact .inl rfl | exact .inr rfl) ?_
    | refine o_offF rfl rfl rfl (by first | exact .inl rfl | exact .inr rfl) ?_
    | (refine o_add rfl rfl rfl rfl ?_ ?_; omega)
    | (refine o_sub rfl rfl rfl rfl ?_ ?_; omega)
    | (refine o_mul rfl rfl rfl rfl ?_ ?_; omega)
    | refine o_len rfl TtOk rfl rfl rfl (fun _ => ?_)
    | refine o_lenOwn rfl TtOk rfl rfl rfl rfl (fun _ => ?_)
    | refine o_convB rfl TtOk rfl rfl rfl rfl ?_
    | (refine o_conv64 rfl TtOk rfl rfl rfl rfl ?_ ?_; omega)
    | (refine o_calm rfl TtOk rfl rfl rfl ?_ (fun _ => ?_); first | exact True.intro | exact ⟨rfl, rfl, rfl, rfl⟩ | exact ⟨rfl, True.intro⟩ | exact ⟨rfl, rfl⟩ | exact ⟨rfl, rfl, rfl⟩ | exact rfl | exact ⟨fun h0 => by cases h0, rfl⟩ | exact (fun h0 => by cases h0) | omega)
    | refine o_alloc rfl TtOk rfl rfl rfl (fun _ => ?_)
    | refine o_box rfl rfl rfl rfl (fun _ => ?_)
    | refine o_store TtOk rfl rfl rfl rfl rfl rfl rfl ⟨rfl, rfl⟩ rfl rfl rfl rfl rfl ?_
    | (refine o_index rfl TtOk rfl rfl rfl rfl rfl rfl ?_ (getq_nat ?_) ?_; omega; omega)
    | refine o_build TtOk rfl rfl rfl rfl rfl rfl (by repeat' (first | exact True.intro | exact rfl | refine ⟨?_, ?_⟩)) ?_
    | refine o_buildArr0 TtOk rfl rfl rfl rfl ?_
    | refine o_buildSlice TtOk rfl rfl rfl rfl rfl rfl rfl rfl rfl rfl rfl (by repeat' (first | exact True.intro | exact rfl | refine ⟨?_, ?_⟩)) (fun _ => ?_)
    | (refine o_append TtOk rfl rfl rfl rfl rfl rfl rfl rfl rfl (by first | exact True.intro | exact rfl) rfl rfl (fun _ => rfl) ?_ ?_ (fun _ => ?_); (simp only [List.length_map, List.length_cons, List.length_nil, List.length_append, List.length_take, List.length_drop]; omega); (simp only [List.length_map, List.length_cons, List.length_nil, List.length_append, List.length_take, List.length_drop]; omega))
    | (refine o_appendStr TtOk rfl rfl rfl rfl rfl rfl rfl rfl rfl (fun _ => rfl) ?_ (fun _ => ?_); (simp only [List.length_map, List.length_cons, List.length_nil, List.length_append, List.length_take, List.length_drop]; omega))
    | refine o_sliceCp TtOk rfl rfl rfl rfl rfl rfl ?_
    | refine o_eqNil TtOk rfl rfl rfl rfl rfl ?_
    | refine o_eqArr8 TtOk rfl rfl rfl rfl rfl rfl (by kernel_rfl) ?_
    | refine o_toBytes TtOk rfl rfl rfl rfl rfl rfl ?_
    | (fail_if_success (refine o_isLit rfl (by first | exact .inl rfl | exact .inr rfl) ?_)); (refine o_splitP rfl rfl (fun hc => ?_) (fun hc => ?_) <;> try (exfalso; omega))
    | (fail_if_success (refine o_isLit rfl (by first | exact .inl rfl | exact .inr rfl) ?_)); (refine o_splitI rfl rfl (fun hc => ?_) (fun hc => ?_) <;> try (exfalso; omega))
    | (fail_if_success (refine o_isLit rfl (by first | exact .inl rfl | exact .inr rfl) ?_)); (refine o_splitN rfl rfl (fun hc => ?_) (fun hc => ?_) <;> try (exfalso; omega))
    | (fail_if_success (refine o_isLit rfl (by first | exact .inl rfl | exact .inr rfl) ?_)); (refine o_split rfl rfl (fun hc => ?_) (fun hc => ?_))
    | refine o_toString TtOk rfl rfl rfl rfl rfl (by first | exact True.intro | exact rfl) rfl rfl rfl rfl ?_)
  refine Awp.seq ?_
  refine a_condP rfl (fun hlt => ?_) (fun hge => ?_)
  · have hlt' : k < L.length := by omega
    have hstep : (⟨[], 0⟩ : WS).things (L.take (k + 1)) = w.thing L[k] := by rw [List.take_succ_eq_append_getElem hlt', WS.things_snoc, hw]
    obtain ⟨hkn, hkl⟩ := hqL _ (List.getElem_mem hlt')
    repeat' (first
      | refine Awp.seq ?_
      | refine Awp.block ?_
      | refine Awp.region ?_
      | (refine Ops.nil ?_; show Awp _ _ _ _ _)
      | (refine Ops.nil ?_; show Exists _)
      | (refine Ops.nil ?_; show endK _ _ _ _ _)
      | (refine Awp.skip ?_; show Awp _ _ _ _ _)
      | (refine Awp.skip ?_; show endK _ _ _ _ _)
      | (refine Awp.skip ?_; show Exists _)
      | (refine Awp.exit ?_; show Awp _ _ _ _ _)
      | (refine Awp.exit ?_; show Exists _)
      | (refine Awp.exit ?_; show endK _ _ _ _ _)
      | (refine Awp.ret ?_; show endK _ _ _ _ _)
      | refine o_offT rfl rfl rfl (by first | exact .inl rfl | exact .inr rfl) ?_
      | refine o_offU rfl rfl rfl (by first | exact .inl rfl | exact .inr rfl) ?_
      | refine o_offF rfl rfl rfl (by first | exact .inl rfl | exact .inr rfl) ?_
      | (refine o_add rfl rfl rfl rfl ?_ ?_; omega)
      | refine o_len rfl TtOk rfl rfl rfl (fun _ => ?_)
      | refine o_lenOwn rfl TtOk rfl rfl rfl rfl (fun _ => ?_)
      | (refine o_calm rfl TtOk rfl rfl rfl ?_ (fun _ => ?_); first | exact True.intro | exact ⟨rfl, rfl, rfl, rfl⟩ | exact ⟨rfl, True.intro⟩ | exact ⟨rfl, rfl⟩ | exact ⟨rfl, rfl, rfl⟩ | exact rfl | exact ⟨fun h0 => by cases h0, rfl⟩ | exact (fun h0 => by cases h0) | omega)
      | refine o_alloc rfl TtOk rfl rfl rfl (fun _ => ?_)
      | refine o_store TtOk rfl rfl rfl rfl rfl rfl rfl ⟨rfl, rfl⟩ rfl rfl rfl rfl rfl ?_
      | (refine o_index rfl TtOk rfl rfl rfl rfl rfl rfl ?_ (getq_nat ?_) ?_; omega; omega)
      | refine o_eqNil TtOk rfl rfl rfl rfl rfl ?_
      | refine o_eqArr8 TtOk rfl rfl rfl rfl rfl rfl (by kernel_rfl) ?_
      | (fail_if_success (refine o_isLit rfl (by first | exact .inl rfl | exact .inr rfl) ?_)); (refine o_splitP rfl rfl (fun hc => ?_) (fun hc => ?_) <;> try (exfalso; omega))
      | (fail_if_success (refine o_isLit rfl (by first | exact .inl rfl | exact .inr rfl) ?_)); (refine o_splitI rfl rfl (fun hc => ?_) (fun hc => ?_) <;> try (exfalso; omega))
      | (fail_if_success (refine o_isLit rfl (by first | exact .inl rfl | exact .inr rfl) ?_)); (refine o_splitN rfl rfl (fun hc => ?_) (fun hc => ?_) <;> try (exfalso; omega))
      | (fail_if_success (refine o_isLit rfl (by first | exact .inl rfl | exact .inr rfl) ?_)); (refine o_split rfl rfl (fun hc => ?_) (fun hc => ?_))
      | refine a_condT rfl ?_
      | refine a_condF rfl ?_
      | (refine a_condP rfl (fun hc => ?_) (fun hc => ?_)) <;> (try (exfalso; omega))
      | (refine a_condI rfl (fun hc => ?_) (fun hc => ?_)) <;> (try (exfalso; omega))
      | (refine a_condN rfl (fun hc => ?_) (fun hc => ?_)) <;> (try (exfalso; omega))
      | (refine Awp.cond rfl (fun hc => ?_) (fun hc => ?_))
      | refine a_any 26 [3, 1] [] [] [0, 2, 3, 1, 4, 5] (by kernel_rfl) (by kernel_rfl) (by kernel_rfl) rfl rfl rfl ?_
      | refine a_any 28 [3, 1] [] [] [0, 2, 3, 1, 4, 5] (by kernel_rfl) (by kernel_rfl) (by kernel_rfl) rfl rfl rfl ?_
      | refine a_any 30 [3, 1] [] [] [0, 2, 3, 1, 4, 5] (by kernel_rfl) (by kernel_rfl) (by kernel_rfl) rfl rfl rfl ?_
      | refine a_any 32 [3, 1] [] [] [0, 2, 3, 4, 1, 5, 6] (by kernel_rfl) (by kernel_rfl) (by kernel_rfl) rfl rfl rfl ?_
      | (refine o_callN rfl (ropen_spec _) ⟨SLe.of_eq rfl, True.intro⟩ rfl (fun bN => ?_))
      | (refine o_callP rfl rfl rfl rfl (rdone_spec _ _) ⟨sle_ptr, True.intro⟩ (HOLe.refl _) rfl rfl ?_; rintro _ _ ⟨rfl, rfl⟩; refine ⟨_, rfl, _, rfl, ?_⟩)
      | (refine o_callP rfl rfl rfl rfl (rflag_spec _ _ (by assumption)) ⟨sle_ptr, True.intro⟩ (HOLe.refl _) rfl rfl ?_; rintro _ _ ⟨rfl, rfl⟩; refine ⟨_, rfl, _, rfl, ?_⟩)
      | (refine o_callP rfl rfl rfl rfl (rlabel_spec _ _ (by assumption)) ⟨sle_ptr, True.intro⟩ (HOLe.refl _) rfl rfl ?_; rintro _ _ ⟨rfl, rfl⟩; refine ⟨_, rfl, _, rfl, ?_⟩)
      | (refine o_callP rfl rfl rfl rfl (rleft_spec _ _ (by assumption)) ⟨sle_ptr, True.intro⟩ (HOLe.refl _) rfl rfl ?_; rintro _ _ ⟨rfl, rfl⟩; refine ⟨_, rfl, _, rfl, ?_⟩)
      | (refine o_callP rfl rfl rfl rfl (rnumber_spec _ _ (by assumption)) ⟨sle_ptr, True.intro⟩ (HOLe.refl _) rfl rfl ?_; rintro _ _ ⟨rfl, rfl⟩; refine ⟨_, rfl, _, rfl, ?_⟩)
      | (refine o_callP rfl rfl rfl rfl (rtext_spec _ _ (by assumption)) ⟨sle_ptr, True.intro⟩ (HOLe.refl _) rfl rfl ?_; rintro _ _ ⟨rfl, rfl⟩; refine ⟨_, rfl, _, rfl, ?_⟩)
      | (refine o_callPR rfl rfl rfl rfl rfl (wdone_spec _ _ _) ⟨sle_ptr, True.intro⟩ (HOLe.refl _) (HOLe.refl _) rfl rfl ?_; rintro _ _ ⟨rfl, wv, rfl⟩; refine ⟨_, _, rfl, _, rfl, ?_⟩)
      | (refine o_callPR rfl rfl rfl rfl rfl (wflag_spec _ _ _ _ (by first | assumption | omega)) ⟨sle_ptr, SLe.of_eq rfl, True.intro⟩ (HOLe.refl _) (HOLe.refl _) rfl rfl ?_; rintro _ _ ⟨rfl, wv, rfl⟩; refine ⟨_, _, rfl, _, rfl, ?_⟩)
      | (refine o_callPR rfl rfl rfl rfl rfl (wlabel_spec _ _ (by assumption) _ _ (by first | assumption | omega)) ⟨sle_ptr, SLe.of_eq rfl, True.intro⟩ (HOLe.refl _) (HOLe.refl _) rfl rfl ?_; rintro _ _ ⟨rfl, wv, rfl⟩; refine ⟨_, _, rfl, _, rfl, ?_⟩)
      | (refine o_callPR rfl rfl rfl rfl rfl (wnumber_spec _ _ (by first | assumption | omega) _ _ (by first | assumption | omega)) ⟨sle_ptr, SLe.of_eq rfl, True.intro⟩ (HOLe.refl _) (HOLe.refl _) rfl rfl ?_; rintro _ _ ⟨rfl, wv, rfl⟩; refine ⟨_, _, rfl, _, rfl, ?_⟩)
      | (refine o_callPR rfl rfl rfl rfl rfl (wtext_spec _ _ _ _ (by first | assumption | omega)) ⟨sle_ptr, SLe.of_eq rfl, True.intro⟩ (HOLe.refl _) (HOLe.refl _) rfl rfl ?_; rintro _ _ ⟨rfl, wv, rfl⟩; refine ⟨_, _, rfl, _, rfl, ?_⟩)
      | (refine o_call0 rfl (awake_spec) True.intro rfl ?_; rintro _ _ ⟨rfl, rfl⟩; refine ⟨rfl, ?_⟩))
    all_goals
      first
        | (have ht : w.thing L[k] = w.number L[k].n := by unfold WS.thing; repeat' (first | rfl | omega | (split <;> try omega))
           refine ⟨(k + 1, wv), [], hlt', by show L.length - (k + 1) < L.length - k; omega, ?_⟩
           dsimp only
           rw [hstep, ht]
           refine ⟨rfl, ?_, ?_⟩ <;> repeat' (first
             | exact True.intro
             | refine sle_i ?_
             | refine sle_s ?_
             | refine sle_b ?_
             | refine sle_sl ?_
             | exact sle_ptr
             | exact sle_own
             | exact sle_nilown
             | exact SLe.any
             | exact HLe.nil
             | exact HOLe.refl _
             | refine HLe.same rfl ?_ ?_
             | refine HLe.none ?_
             | refine HOLe.row ?_
             | refine HOLe.var ?_
             | exact CLe.refl _
             | exact CLe.own
             | exact CLe.ptr
             | exact CLe.nilown
             | refine CLe.agg ?_
             | refine CLeL.cons ?_ ?_
             | exact CLeL.nil
             | with_reducible rfl
             | refine ⟨?_, ?_⟩
             | exact SLe.of_eq rfl)
           all_goals first | rfl | omega)
        | (have ht : w.thing L[k] = w.text L[k].s := by unfold WS.thing; repeat' (first | rfl | omega | (split <;> try omega))
           refine ⟨(k + 1, wv), [], hlt', by show L.length - (k + 1) < L.length - k; omega, ?_⟩
           dsimp only
           rw [hstep, ht]
           refine ⟨rfl, ?_, ?_⟩ <;> repeat' (first
             | exact True.intro
             | refine sle_i ?_
             | refine sle_s ?_
             | refine sle_b ?_
             | refine sle_sl ?_
             | exact sle_ptr
             | exact sle_own
             | exact sle_nilown
             | exact SLe.any
             | exact HLe.nil
             | exact HOLe.refl _
             | refine HLe.same rfl ?_ ?_
             | refine HLe.none ?_
             | refine HOLe.row ?_
             | refine HOLe.var ?_
             | exact CLe.refl _
             | exact CLe.own
             | exact CLe.ptr
             | exact CLe.nilown
             | refine CLe.agg ?_
             | refine CLeL.cons ?_ ?_
             | exact CLeL.nil
             | with_reducible rfl
             | refine ⟨?_, ?_⟩
             | exact SLe.of_eq rfl)
           all_goals first | rfl | omega)
        | (have ht : w.thing L[k] = w.put L[k].l := by unfold WS.thing; repeat' (first | rfl | omega | (split <;> try omega))
           refine ⟨(k + 1, wv), [], hlt', by show L.length - (k + 1) < L.length - k; omega, ?_⟩
           dsimp only
           rw [hstep, ht]
           refine ⟨rfl, ?_, ?_⟩ <;> repeat' (first
             | exact True.intro
             | refine sle_i ?_
             | refine sle_s ?_
             | refine sle_b ?_
             | refine sle_sl ?_
             | exact sle_ptr
             | exact sle_own
             | exact sle_nilown
             | exact SLe.any
             | exact HLe.nil
             | exact HOLe.refl _
             | refine HLe.same rfl ?_ ?_
             | refine HLe.none ?_
             | refine HOLe.row ?_
             | refine HOLe.var ?_
             | exact CLe.refl _
             | exact CLe.own
             | exact CLe.ptr
             | exact CLe.nilown
             | refine CLe.agg ?_
             | refine CLeL.cons ?_ ?_
             | exact CLeL.nil
             | with_reducible rfl
             | refine ⟨?_, ?_⟩
             | exact SLe.of_eq rfl)
           all_goals first | rfl | omega)
        | (have hd : (if decide (0 < L[k].n) = true then (1 : UInt8) else 0) = if 0 < L[k].n then 1 else 0 := by simp
           have ht : w.thing L[k] = w.put [if decide (0 < L[k].n) = true then 1 else 0] := by rw [hd]; unfold WS.thing; repeat' (first | rfl | omega | (split <;> try omega))
           refine ⟨(k + 1, wv), [], hlt', by show L.length - (k + 1) < L.length - k; omega, ?_⟩
           dsimp only
           rw [hstep, ht]
           refine ⟨rfl, ?_, ?_⟩ <;> repeat' (first
             | exact True.intro
             | refine sle_i ?_
             | refine sle_s ?_
             | refine sle_b ?_
             | refine sle_sl ?_
             | exact sle_ptr
             | exact sle_own
             | exact sle_nilown
             | exact SLe.any
             | exact HLe.nil
             | exact HOLe.refl _
             | refine HLe.same rfl ?_ ?_
             | refine HLe.none ?_
             | refine HOLe.row ?_
             | refine HOLe.var ?_
             | exact CLe.refl _
             | exact CLe.own
             | exact CLe.ptr
             | exact CLe.nilown
             | refine CLe.agg ?_
             | refine CLeL.cons ?_ ?_
             | exact CLeL.nil
             | with_reducible rfl
             | refine ⟨?_, ?_⟩
             | exact SLe.of_eq rfl)
           all_goals first | rfl | omega)
        | (have ht : w.thing L[k] = w := by unfold WS.thing; repeat' (first | rfl | omega | (split <;> try omega))
           refine ⟨(k + 1, v), [], hlt', by show L.length - (k + 1) < L.length - k; omega, ?_⟩
           dsimp only
           rw [hstep, ht]
           refine ⟨rfl, ?_, ?_⟩ <;> repeat' (first
             | exact True.intro
             | refine sle_i ?_
             | refine sle_s ?_
             | refine sle_b ?_
             | refine sle_sl ?_
             | exact sle_ptr
             | exact sle_own
             | exact sle_nilown
             | exact SLe.any
             | exact HLe.nil
             | exact HOLe.refl _
             | refine HLe.same rfl ?_ ?_
             | refine HLe.none ?_
             | refine HOLe.row ?_
             | refine HOLe.var ?_
             | exact CLe.refl _
             | exact CLe.own
             | exact CLe.ptr
             | exact CLe.nilown
             | refine CLe.agg ?_
             | refine CLeL.cons ?_ ?_
             | exact CLeL.nil
             | with_reducible rfl
             | refine ⟨?_, ?_⟩
             | exact SLe.of_eq rfl)
           all_goals first | rfl | omega)
  · have hkk : k = L.length := by omega
    subst hkk
    rw [List.take_length] at hw
    repeat' (first
      | refine Awp.seq ?_
      | refine Awp.block ?_
      | refine Awp.region ?_
      | (refine Ops.nil ?_; show Awp _ _ _ _ _)
      | (refine Ops.nil ?_; show Exists _)
      | (refine Ops.nil ?_; show endK _ _ _ _ _)
      | (refine Awp.skip ?_; show Awp _ _ _ _ _)
      | (refine Awp.skip ?_; show endK _ _ _ _ _)
      | (refine Awp.skip ?_; show Exists _)
      | (refine Awp.exit ?_; show Awp _ _ _ _ _)
      | (refine Awp.exit ?_; show Exists _)
      | (refine Awp.exit ?_; show endK _ _ _ _ _)
      | (refine Awp.ret ?_; show endK _ _ _ _ _)
      | refine o_offT rfl rfl rfl (by first | exact .inl rfl | exact .inr rfl) ?_
      | refine o_offU rfl rfl rfl (by first | exact .inl rfl | exact .inr rfl) ?_
      | refine o_offF rfl rfl rfl (by first | exact .inl rfl | exact .inr rfl) ?_
      | (refine o_add rfl rfl rfl rfl ?_ ?_; omega)
      | refine o_len rfl TtOk rfl rfl rfl (fun _ => ?_)
      | refine o_lenOwn rfl TtOk rfl rfl rfl rfl (fun _ => ?_)
      | (refine o_calm rfl TtOk rfl rfl rfl ?_ (fun _ => ?_); first | exact True.intro | exact ⟨rfl, rfl, rfl, rfl⟩ | exact ⟨rfl, True.intro⟩ | exact ⟨rfl, rfl⟩ | exact ⟨rfl, rfl, rfl⟩ | exact rfl | exact ⟨fun h0 => by cases h0, rfl⟩ | exact (fun h0 => by cases h0) | omega)
      | refine o_alloc rfl TtOk rfl rfl rfl (fun _ => ?_)
      | refine o_store TtOk rfl rfl rfl rfl rfl rfl rfl ⟨rfl, rfl⟩ rfl rfl rfl rfl rfl ?_
      | (refine o_index rfl TtOk rfl rfl rfl rfl rfl rfl ?_ (getq_nat ?_) ?_; omega; omega)
      | refine o_eqNil TtOk rfl rfl rfl rfl rfl ?_
      | refine o_eqArr8 TtOk rfl rfl rfl rfl rfl rfl (by kernel_rfl) ?_
      | (fail_if_success (refine o_isLit rfl (by first | exact .inl rfl | exact .inr rfl) ?_)); (refine o_splitP rfl rfl (fun hc => ?_) (fun hc => ?_) <;> try (exfalso; omega))
      | (fail_if_success (refine o_isLit rfl (by first | exact .inl rfl | exact .inr rfl) ?_)); (refine o_splitI rfl rfl (fun hc => ?_) (fun hc => ?_) <;> try (exfalso; omega))
      | (fail_if_success (refine o_isLit rfl (by first | exact .inl rfl | exact .inr rfl) ?_)); (refine o_splitN rfl rfl (fun hc => ?_) (fun hc => ?_) <;> try (exfalso; omega))
      | (fail_if_success (refine o_isLit rfl (by first | exact .inl rfl | exact .inr rfl) ?_)); (refine o_split rfl rfl (fun hc => ?_) (fun hc => ?_))
      | refine a_condT rfl ?_
      | refine a_condF rfl ?_
      | (refine a_condP rfl (fun hc => ?_) (fun hc => ?_)) <;> (try (exfalso; omega))
      | (refine a_condI rfl (fun hc => ?_) (fun hc => ?_)) <;> (try (exfalso; omega))
      | (refine a_condN rfl (fun hc => ?_) (fun hc => ?_)) <;> (try (exfalso; omega))
      | (refine Awp.cond rfl (fun hc => ?_) (fun hc => ?_))
      | refine a_any 26 [3, 1] [] [] [0, 2, 3, 1, 4, 5] (by kernel_rfl) (by kernel_rfl) (by kernel_rfl) rfl rfl rfl ?_
      | refine a_any 28 [3, 1] [] [] [0, 2, 3, 1, 4, 5] (by kernel_rfl) (by kernel_rfl) (by kernel_rfl) rfl rfl rfl ?_
      | refine a_any 30 [3, 1] [] [] [0, 2, 3, 1, 4, 5] (by kernel_rfl) (by kernel_rfl) (by kernel_rfl) rfl rfl rfl ?_
      | refine a_any 32 [3, 1] [] [] [0, 2, 3, 4, 1, 5, 6] (by kernel_rfl) (by kernel_rfl) (by kernel_rfl) rfl rfl rfl ?_
      | (refine o_callN rfl (ropen_spec _) ⟨SLe.of_eq rfl, True.intro⟩ rfl (fun bN => ?_))
      | (refine o_callP rfl rfl rfl rfl (rdone_spec _ _) ⟨sle_ptr, True.intro⟩ (HOLe.refl _) rfl rfl ?_; rintro _ _ ⟨rfl, rfl⟩; refine ⟨_, rfl, _, rfl, ?_⟩)
      | (refine o_callP rfl rfl rfl rfl (rflag_spec _ _ (by assumption)) ⟨sle_ptr, True.intro⟩ (HOLe.refl _) rfl rfl ?_; rintro _ _ ⟨rfl, rfl⟩; refine ⟨_, rfl, _, rfl, ?_⟩)
      | (refine o_callP rfl rfl rfl rfl (rlabel_spec _ _ (by assumption)) ⟨sle_ptr, True.intro⟩ (HOLe.refl _) rfl rfl ?_; rintro _ _ ⟨rfl, rfl⟩; refine ⟨_, rfl, _, rfl, ?_⟩)
      | (refine o_callP rfl rfl rfl rfl (rleft_spec _ _ (by assumption)) ⟨sle_ptr, True.intro⟩ (HOLe.refl _) rfl rfl ?_; rintro _ _ ⟨rfl, rfl⟩; refine ⟨_, rfl, _, rfl, ?_⟩)
      | (refine o_callP rfl rfl rfl rfl (rnumber_spec _ _ (by assumption)) ⟨sle_ptr, True.intro⟩ (HOLe.refl _) rfl rfl ?_; rintro _ _ ⟨rfl, rfl⟩; refine ⟨_, rfl, _, rfl, ?_⟩)
      | (refine o_callP rfl rfl rfl rfl (rtext_spec _ _ (by assumption)) ⟨sle_ptr, True.intro⟩ (HOLe.refl _) rfl rfl ?_; rintro _ _ ⟨rfl, rfl⟩; refine ⟨_, rfl, _, rfl, ?_⟩)
      | (refine o_callPR rfl rfl rfl rfl rfl (wdone_spec _ _ _) ⟨sle_ptr, True.intro⟩ (HOLe.refl _) (HOLe.refl _) rfl rfl ?_; rintro _ _ ⟨rfl, wv, rfl⟩; refine ⟨_, _, rfl, _, rfl, ?_⟩)
      | (refine o_callPR rfl rfl rfl rfl rfl (wflag_spec _ _ _ _ (by first | assumption | omega)) ⟨sle_ptr, SLe.of_eq rfl, True.intro⟩ (HOLe.refl _) (HOLe.refl _) rfl rfl ?_; rintro _ _ ⟨rfl, wv, rfl⟩; refine ⟨_, _, rfl, _, rfl, ?_⟩)
      | (refine o_callPR rfl rfl rfl rfl rfl (wlabel_spec _ _ (by assumption) _ _ (by first | assumption | omega)) ⟨sle_ptr, SLe.of_eq rfl, True.intro⟩ (HOLe.refl _) (HOLe.refl _) rfl rfl ?_; rintro _ _ ⟨rfl, wv, rfl⟩; refine ⟨_, _, rfl, _, rfl, ?_⟩)
      | (refine o_callPR rfl rfl rfl rfl rfl (wnumber_spec _ _ (by first | assumption | omega) _ _ (by first | assumption | omega)) ⟨sle_ptr, SLe.of_eq rfl, True.intro⟩ (HOLe.refl _) (HOLe.refl _) rfl rfl ?_; rintro _ _ ⟨rfl, wv, rfl⟩; refine ⟨_, _, rfl, _, rfl, ?_⟩)
      | (refine o_callPR rfl rfl rfl rfl rfl (wtext_spec _ _ _ _ (by first | assumption | omega)) ⟨sle_ptr, SLe.of_eq rfl, True.intro⟩ (HOLe.refl _) (HOLe.refl _) rfl rfl ?_; rintro _ _ ⟨rfl, wv, rfl⟩; refine ⟨_, _, rfl, _, rfl, ?_⟩)
      | (refine o_call0 rfl (awake_spec) True.intro rfl ?_; rintro _ _ ⟨rfl, rfl⟩; refine ⟨rfl, ?_⟩))
    · have hd1 := WS.done_bad hc
      exact end_tmp rfl rfl rfl [] [] (CLe.of_eq (by rw [hd1]; rfl)) .nil ⟨rfl, rfl⟩ _ (by first | exact .inl rfl | exact .inr rfl)
    · obtain ⟨hwe, hwl, hd1⟩ := WS.done_good hc
      obtain ⟨_, hbs, hall⟩ := WS.things_ok _ _ (hw ▸ hwe)
      rw [← hw] at hbs
      rw [hd1]
      have hok0 := RS.ok_open (s := w.bs) (by omega)
      have hr0 : (RS.open w.bs).e = 0 ∧ (RS.open w.bs).rest = (L.drop 0).flatMap tBytes ∧ (RS.open w.bs).ok := by
        refine ⟨?_, ?_, hok0⟩
        · unfold RS.open; rw [if_neg (by omega)]
        · unfold RS.open RS.rest
          show w.bs.drop 0 = _
          rw [List.drop_zero, List.drop_zero, hbs]; rfl
      generalize RS.open w.bs = r0 at hr0 ⊢
      refine Awp.loop (fun (x : Nat × RS) => ⟨108, [(59, .i .i64 x.1), (58, .i .i64 L.length), (57, .sl 35 (L.map thA)), (8, .ptr 56 bN [] 0)], [(56, .var bN (rdA x.2))]⟩) (fun x => x.1 ≤ L.length ∧ x.2.e = 0 ∧ x.2.rest = (L.drop x.1).flatMap tBytes ∧ x.2.ok) (fun x => L.length - x.1) [] (0, r0) ⟨Nat.zero_le _, hr0⟩ ?_ ?_
      · refine ⟨rfl, ?_, ?_⟩ <;> repeat' (first
          | exact True.intro
          | refine sle_i ?_
          | refine sle_s ?_
          | refine sle_b ?_
          | refine sle_sl ?_
          | exact sle_ptr
          | exact sle_own
          | exact sle_nilown
          | exact SLe.any
          | exact HLe.nil
          | exact HOLe.refl _
          | refine HLe.same rfl ?_ ?_
          | refine HLe.none ?_
          | refine HOLe.row ?_
          | refine HOLe.var ?_
          | exact CLe.refl _
          | exact CLe.own
          | exact CLe.ptr
          | exact CLe.nilown
          | refine CLe.agg ?_
          | refine CLeL.cons ?_ ?_
          | exact CLeL.nil
          | with_reducible rfl
          | refine ⟨?_, ?_⟩
          | exact SLe.of_eq rfl)
        all_goals rfl
      rintro ⟨k, r⟩ ⟨hk, hre, hrr, hr⟩
      dsimp only at hk hre hrr hr ⊢
      refine Awp.seq ?_
      repeat' (first
        | refine Awp.region ?_
        | (refine Ops.nil ?_; show Awp _ _ _ _ _)
        | (refine Ops.nil ?_; show Exists _)
        | (refine Ops.nil ?_; show endK _ _ _ _ _)
        | (refine Awp.skip ?_; show Awp _ _ _ _ _)
        | (refine Awp.skip ?_; show endK _ _ _ _ _)
        | (refine Awp.skip ?_; show Exists _)
        | (refine Awp.exit ?_; show Awp _ _ _ _ _)
        | (refine Awp.exit ?_; show Exists _)
        | (refine Awp.exit ?_; show endK _ _ _ _ _)
        | (refine Awp.ret ?_; show endK _ _ _ _ _)
        | refine o_offT rfl rfl rfl (by first | exact .inl rfl | exact .inr rfl) ?_
        | refine o_offU rfl rfl rfl (by first | exact .inl rfl | exact .inr rfl) ?_
        | refine o_offF rfl rfl rfl (by first | exact .inl rfl | exact .inr rfl) ?_
        | (refine o_add rfl rfl rfl rfl ?_ ?_; omega)
        | (refine o_sub rfl rfl rfl rfl ?_ ?_; omega)
        | (refine o_mul rfl rfl rfl rfl ?_ ?_; omega)
        | refine o_len rfl TtOk rfl rfl rfl (fun _ => ?_)
        | refine o_lenOwn rfl TtOk rfl rfl rfl rfl (fun _ => ?_)
        | refine o_convB rfl TtOk rfl rfl rfl rfl ?_
        | (refine o_conv64 rfl TtOk rfl rfl rfl rfl ?_ ?_; omega)
        | (refine o_calm rfl TtOk rfl rfl rfl ?_ (fun _ => ?_); first | exact True.intro | exact ⟨rfl, rfl, rfl, rfl⟩ | exact ⟨rfl, True.intro⟩ | exact ⟨rfl, rfl⟩ | exact ⟨rfl, rfl, rfl⟩ | exact rfl | exact ⟨fun h0 => by cases h0, rfl⟩ | exact (fun h0 => by cases h0) | omega)
        | refine o_alloc rfl TtOk rfl rfl rfl (fun _ => ?_)
        | refine o_box rfl rfl rfl rfl (fun _ => ?_)
        | refine o_store TtOk rfl rfl rfl rfl rfl rfl rfl ⟨rfl, rfl⟩ rfl rfl rfl rfl rfl ?_
        | (refine o_index rfl TtOk rfl rfl rfl rfl rfl rfl ?_ (getq_nat ?_) ?_; omega; omega)
        | refine o_build TtOk rfl rfl rfl rfl rfl rfl (by repeat' (first | exact True.intro | exact rfl | refine ⟨?_, ?_⟩)) ?_
        | refine o_buildArr0 TtOk rfl rfl rfl rfl ?_
        | refine o_buildSlice TtOk rfl rfl rfl rfl rfl rfl rfl rfl rfl rfl rfl (by repeat' (first | exact True.intro | exact rfl | refine ⟨?_, ?_⟩)) (fun _ => ?_)
        | (refine o_append TtOk rfl rfl rfl rfl rfl rfl rfl rfl rfl (by first | exact True.intro | exact rfl) rfl rfl (fun _ => rfl) ?_ ?_ (fun _ => ?_); (simp only [List.length_map, List.length_cons, List.length_nil, List.length_append, List.length_take, List.length_drop]; omega); (simp only [List.length_map, List.length_cons, List.length_nil, List.length_append, List.length_take, List.length_drop]; omega))
        | (refine o_appendStr TtOk rfl rfl rfl rfl rfl rfl rfl rfl rfl (fun _ => rfl) ?_ (fun _ => ?_); (simp only [List.length_map, List.length_cons, List.length_nil, List.length_append, List.length_take, List.length_drop]; omega))
        | refine o_sliceCp TtOk rfl rfl rfl rfl rfl rfl ?_
        | refine o_eqNil TtOk rfl rfl rfl rfl rfl ?_
        | refine o_eqArr8 TtOk rfl rfl rfl rfl rfl rfl (by kernel_rfl) ?_
        | refine o_toBytes TtOk rfl rfl rfl rfl rfl rfl ?_
        | (fail_if_success (refine o_isLit rfl (by first | exact .inl rfl | exact .inr rfl) ?_)); (refine o_splitP rfl rfl (fun hc => ?_) (fun hc => ?_) <;> try (exfalso; omega))
        | (fail_if_success (refine o_isLit rfl (by first | exact .inl rfl | exact .inr rfl) ?_)); (refine o_splitI rfl rfl (fun hc => ?_) (fun hc => ?_) <;> try (exfalso; omega))
        | (fail_if_success (refine o_isLit rfl (by first | exact .inl rfl | exact .inr rfl) ?_)); (refine o_splitN rfl rfl (fun hc => ?_) (fun hc => ?_) <;> try (exfalso; omega))
        | (fail_if_success (refine o_isLit rfl (by first | exact .inl rfl | exact .inr rfl) ?_)); (refine o_split rfl rfl (fun hc => ?_) (fun hc => ?_))
        | refine o_toString TtOk rfl rfl rfl rfl rfl (by first | exact True.intro | exact rfl) rfl rfl rfl rfl ?_)
      refine Awp.seq ?_
      refine a_condP rfl (fun hlt => ?_) (fun hge => ?_)
      · have hlt' : k < L.length := by omega
        have hrest : r.rest = tBytes L[k] ++ (L.drop (k + 1)).flatMap tBytes := by rw [hrr, List.drop_eq_getElem_cons hlt', List.flatMap_cons]
        obtain ⟨t1, t2, t3, t4, t5⟩ := thing_reads L[k] r hre hr (hall _ (List.getElem_mem hlt')) (hqL _ (List.getElem_mem hlt')).1 (hqL _ (List.getElem_mem hlt')).2 _ hrest
        repeat' (first
          | refine Awp.seq ?_
          | refine Awp.block ?_
          | refine Awp.region ?_
          | (refine Ops.nil ?_; show Awp _ _ _ _ _)
          | (refine Ops.nil ?_; show Exists _)
          | (refine Ops.nil ?_; show endK _ _ _ _ _)
          | (refine Awp.skip ?_; show Awp _ _ _ _ _)
          | (refine Awp.skip ?_; show endK _ _ _ _ _)
          | (refine Awp.skip ?_; show Exists _)
          | (refine Awp.exit ?_; show Awp _ _ _ _ _)
          | (refine Awp.exit ?_; show Exists _)
          | (refine Awp.exit ?_; show endK _ _ _ _ _)
          | (refine Awp.ret ?_; show endK _ _ _ _ _)
          | refine o_offT rfl rfl rfl (by first | exact .inl rfl | exact .inr rfl) ?_
          | refine o_offU rfl rfl rfl (by first | exact .inl rfl | exact .inr rfl) ?_
          | refine o_offF rfl rfl rfl (by first | exact .inl rfl | exact .inr rfl) ?_
          | (refine o_add rfl rfl rfl rfl ?_ ?_; omega)
          | refine o_len rfl TtOk rfl rfl rfl (fun _ => ?_)
          | refine o_lenOwn rfl TtOk rfl rfl rfl rfl (fun _ => ?_)
          | (refine o_calm rfl TtOk rfl rfl rfl ?_ (fun _ => ?_); first | exact True.intro | exact ⟨rfl, rfl, rfl, rfl⟩ | exact ⟨rfl, True.intro⟩ | exact ⟨rfl, rfl⟩ | exact ⟨rfl, rfl, rfl⟩ | exact rfl | exact ⟨fun h0 => by cases h0, rfl⟩ | exact (fun h0 => by cases h0) | omega)
          | refine o_alloc rfl TtOk rfl rfl rfl (fun _ => ?_)
          | refine o_store TtOk rfl rfl rfl rfl rfl rfl rfl ⟨rfl, rfl⟩ rfl rfl rfl rfl rfl ?_
          | (refine o_index rfl TtOk rfl rfl rfl rfl rfl rfl ?_ (getq_nat ?_) ?_; omega; omega)
          | refine o_eqNil TtOk rfl rfl rfl rfl rfl ?_
          | refine o_eqArr8 TtOk rfl rfl rfl rfl rfl rfl (by kernel_rfl) ?_
          | (fail_if_success (refine o_isLit rfl (by first | exact .inl rfl | exact .inr rfl) ?_)); (refine o_splitP rfl rfl (fun hc => ?_) (fun hc => ?_) <;> try (exfalso; omega))
          | (fail_if_success (refine o_isLit rfl (by first | exact .inl rfl | exact .inr rfl) ?_)); (refine o_splitI rfl rfl (fun hc => ?_) (fun hc => ?_) <;> try (exfalso; omega))
          | (fail_if_success (refine o_isLit rfl (by first | exact .inl rfl | exact .inr rfl) ?_)); (refine o_splitN rfl rfl (fun hc => ?_) (fun hc => ?_) <;> try (exfalso; omega))
          | (fail_if_success (refine o_isLit rfl (by first | exact .inl rfl | exact .inr rfl) ?_)); (refine o_split rfl rfl (fun hc => ?_) (fun hc => ?_))
          | refine a_condT rfl ?_
          | refine a_condF rfl ?_
          | (refine a_condP rfl (fun hc => ?_) (fun hc => ?_)) <;> (try (exfalso; omega))
          | (refine a_condI rfl (fun hc => ?_) (fun hc => ?_)) <;> (try (exfalso; omega))
          | (refine a_condN rfl (fun hc => ?_) (fun hc => ?_)) <;> (try (exfalso; omega))
          | (refine Awp.cond rfl (fun hc => ?_) (fun hc => ?_))
          | refine a_any 26 [56] [] [] [0, 2, 3, 1, 4, 5] (by kernel_rfl) (by kernel_rfl) (by kernel_rfl) rfl rfl rfl ?_
          | refine a_any 28 [56] [] [] [0, 2, 3, 1, 4, 5] (by kernel_rfl) (by kernel_rfl) (by kernel_rfl) rfl rfl rfl ?_
          | refine a_any 30 [56] [] [] [0, 2, 3, 1, 4, 5] (by kernel_rfl) (by kernel_rfl) (by kernel_rfl) rfl rfl rfl ?_
          | refine a_any 32 [56] [] [] [0, 2, 3, 4, 1, 5, 6] (by kernel_rfl) (by kernel_rfl) (by kernel_rfl) rfl rfl rfl ?_
          | (refine o_callN rfl (ropen_spec _) ⟨SLe.of_eq rfl, True.intro⟩ rfl (fun bN => ?_))
          | (refine o_callP rfl rfl rfl rfl (rdone_spec _ _) ⟨sle_ptr, True.intro⟩ (HOLe.refl _) rfl rfl ?_; rintro _ _ ⟨rfl, rfl⟩; refine ⟨_, rfl, _, rfl, ?_⟩)
          | (refine o_callP rfl rfl rfl rfl (rflag_spec _ _ (by assumption)) ⟨sle_ptr, True.intro⟩ (HOLe.refl _) rfl rfl ?_; rintro _ _ ⟨rfl, rfl⟩; refine ⟨_, rfl, _, rfl, ?_⟩)
          | (refine o_callP rfl rfl rfl rfl (rlabel_spec _ _ (by assumption)) ⟨sle_ptr, True.intro⟩ (HOLe.refl _) rfl rfl ?_; rintro _ _ ⟨rfl, rfl⟩; refine ⟨_, rfl, _, rfl, ?_⟩)
          | (refine o_callP rfl rfl rfl rfl (rleft_spec _ _ (by assumption)) ⟨sle_ptr, True.intro⟩ (HOLe.refl _) rfl rfl ?_; rintro _ _ ⟨rfl, rfl⟩; refine ⟨_, rfl, _, rfl, ?_⟩)
          | (refine o_callP rfl rfl rfl rfl (rnumber_spec _ _ (by assumption)) ⟨sle_ptr, True.intro⟩ (HOLe.refl _) rfl rfl ?_; rintro _ _ ⟨rfl, rfl⟩; refine ⟨_, rfl, _, rfl, ?_⟩)
          | (refine o_callP rfl rfl rfl rfl (rtext_spec _ _ (by assumption)) ⟨sle_ptr, True.intro⟩ (HOLe.refl _) rfl rfl ?_; rintro _ _ ⟨rfl, rfl⟩; refine ⟨_, rfl, _, rfl, ?_⟩)
          | (refine o_callPR rfl rfl rfl rfl rfl (wdone_spec _ _ _) ⟨sle_ptr, True.intro⟩ (HOLe.refl _) (HOLe.refl _) rfl rfl ?_; rintro _ _ ⟨rfl, wv, rfl⟩; refine ⟨_, _, rfl, _, rfl, ?_⟩)
          | (refine o_callPR rfl rfl rfl rfl rfl (wflag_spec _ _ _ _ (by first | assumption | omega)) ⟨sle_ptr, SLe.of_eq rfl, True.intro⟩ (HOLe.refl _) (HOLe.refl _) rfl rfl ?_; rintro _ _ ⟨rfl, wv, rfl⟩; refine ⟨_, _, rfl, _, rfl, ?_⟩)
          | (refine o_callPR rfl rfl rfl rfl rfl (wlabel_spec _ _ (by assumption) _ _ (by first | assumption | omega)) ⟨sle_ptr, SLe.of_eq rfl, True.intro⟩ (HOLe.refl _) (HOLe.refl _) rfl rfl ?_; rintro _ _ ⟨rfl, wv, rfl⟩; refine ⟨_, _, rfl, _, rfl, ?_⟩)
          | (refine o_callPR rfl rfl rfl rfl rfl (wnumber_spec _ _ (by first | assumption | omega) _ _ (by first | assumption | omega)) ⟨sle_ptr, SLe.of_eq rfl, True.intro⟩ (HOLe.refl _) (HOLe.refl _) rfl rfl ?_; rintro _ _ ⟨rfl, wv, rfl⟩; refine ⟨_, _, rfl, _, rfl, ?_⟩)
          | (refine o_callPR rfl rfl rfl rfl rfl (wtext_spec _ _ _ _ (by first | assumption | omega)) ⟨sle_ptr, SLe.of_eq rfl, True.intro⟩ (HOLe.refl _) (HOLe.refl _) rfl rfl ?_; rintro _ _ ⟨rfl, wv, rfl⟩; refine ⟨_, _, rfl, _, rfl, ?_⟩)
          | (refine o_call0 rfl (awake_spec) True.intro rfl ?_; rintro _ _ ⟨rfl, rfl⟩; refine ⟨rfl, ?_⟩))
        all_goals
          first
            | exact absurd (t1 (by assumption)).1 hc
            | (exfalso; have q := (t2 (by assumption)).1; rw [q] at hc; simp at hc; done)
            | (exfalso; have q := (t3 (by assumption)).1; rw [q] at hc; simp at hc; done)
            | (exfalso; have q := (t4 (by assumption)).1; rw [q] at hc; simp at hc; done)
            | (refine ⟨(k + 1, r.number.2), [], ⟨hlt', (t1 (by assumption)).2⟩, by show L.length - (k + 1) < L.length - k; omega, ?_⟩
               refine ⟨rfl, ?_, ?_⟩ <;> repeat' (first
                 | exact True.intro
                 | refine sle_i ?_
                 | refine sle_s ?_
                 | refine sle_b ?_
                 | refine sle_sl ?_
                 | exact sle_ptr
                 | exact sle_own
                 | exact sle_nilown
                 | exact SLe.any
                 | exact HLe.nil
                 | exact HOLe.refl _
                 | refine HLe.same rfl ?_ ?_
                 | refine HLe.none ?_
                 | refine HOLe.row ?_
                 | refine HOLe.var ?_
                 | exact CLe.refl _
                 | exact CLe.own
                 | exact CLe.ptr
                 | exact CLe.nilown
                 | refine CLe.agg ?_
                 | refine CLeL.cons ?_ ?_
                 | exact CLeL.nil
                 | with_reducible rfl
                 | refine ⟨?_, ?_⟩
                 | exact SLe.of_eq rfl)
               all_goals first | rfl | omega)
            | (refine ⟨(k + 1, r.text.2), [], ⟨hlt', (t2 (by assumption)).2⟩, by show L.length - (k + 1) < L.length - k; omega, ?_⟩
               refine ⟨rfl, ?_, ?_⟩ <;> repeat' (first
                 | exact True.intro
                 | refine sle_i ?_
                 | refine sle_s ?_
                 | refine sle_b ?_
                 | refine sle_sl ?_
                 | exact sle_ptr
                 | exact sle_own
                 | exact sle_nilown
                 | exact SLe.any
                 | exact HLe.nil
                 | exact HOLe.refl _
                 | refine HLe.same rfl ?_ ?_
                 | refine HLe.none ?_
                 | refine HOLe.row ?_
                 | refine HOLe.var ?_
                 | exact CLe.refl _
                 | exact CLe.own
                 | exact CLe.ptr
                 | exact CLe.nilown
                 | refine CLe.agg ?_
                 | refine CLeL.cons ?_ ?_
                 | exact CLeL.nil
                 | with_reducible rfl
                 | refine ⟨?_, ?_⟩
                 | exact SLe.of_eq rfl)
               all_goals first | rfl | omega)
            | (refine ⟨(k + 1, r.label.2), [], ⟨hlt', (t3 (by assumption)).2⟩, by show L.length - (k + 1) < L.length - k; omega, ?_⟩
               refine ⟨rfl, ?_, ?_⟩ <;> repeat' (first
                 | exact True.intro
                 | refine sle_i ?_
                 | refine sle_s ?_
                 | refine sle_b ?_
                 | refine sle_sl ?_
                 | exact sle_ptr
                 | exact sle_own
                 | exact sle_nilown
                 | exact SLe.any
                 | exact HLe.nil
                 | exact HOLe.refl _
                 | refine HLe.same rfl ?_ ?_
                 | refine HLe.none ?_
                 | refine HOLe.row ?_
                 | refine HOLe.var ?_
                 | exact CLe.refl _
                 | exact CLe.own
                 | exact CLe.ptr
                 | exact CLe.nilown
                 | refine CLe.agg ?_
                 | refine CLeL.cons ?_ ?_
                 | exact CLeL.nil
                 | with_reducible rfl
                 | refine ⟨?_, ?_⟩
                 | exact SLe.of_eq rfl)
               all_goals first | rfl | omega)
            | (refine ⟨(k + 1, r.flag.2), [], ⟨hlt', (t4 (by assumption)).2⟩, by show L.length - (k + 1) < L.length - k; omega, ?_⟩
               refine ⟨rfl, ?_, ?_⟩ <;> repeat' (first
                 | exact True.intro
                 | refine sle_i ?_
                 | refine sle_s ?_
                 | refine sle_b ?_
                 | refine sle_sl ?_
                 | exact sle_ptr
                 | exact sle_own
                 | exact sle_nilown
                 | exact SLe.any
                 | exact HLe.nil
                 | exact HOLe.refl _
                 | refine HLe.same rfl ?_ ?_
                 | refine HLe.none ?_
                 | refine HOLe.row ?_
                 | refine HOLe.var ?_
                 | exact CLe.refl _
                 | exact CLe.own
                 | exact CLe.ptr
                 | exact CLe.nilown
                 | refine CLe.agg ?_
                 | refine CLeL.cons ?_ ?_
                 | exact CLeL.nil
                 | with_reducible rfl
                 | refine ⟨?_, ?_⟩
                 | exact SLe.of_eq rfl)
               all_goals first | rfl | omega)
            | (refine ⟨(k + 1, r), [], ⟨hlt', hre, t5 (by assumption) (by assumption) (by assumption) (by assumption), hr⟩, by show L.length - (k + 1) < L.length - k; omega, ?_⟩
               refine ⟨rfl, ?_, ?_⟩ <;> repeat' (first
                 | exact True.intro
                 | refine sle_i ?_
                 | refine sle_s ?_
                 | refine sle_b ?_
                 | refine sle_sl ?_
                 | exact sle_ptr
                 | exact sle_own
                 | exact sle_nilown
                 | exact SLe.any
                 | exact HLe.nil
                 | exact HOLe.refl _
                 | refine HLe.same rfl ?_ ?_
                 | refine HLe.none ?_
                 | refine HOLe.row ?_
                 | refine HOLe.var ?_
                 | exact CLe.refl _
                 | exact CLe.own
                 | exact CLe.ptr
                 | exact CLe.nilown
                 | refine CLe.agg ?_
                 | refine CLeL.cons ?_ ?_
                 | exact CLeL.nil
                 | with_reducible rfl
                 | refine ⟨?_, ?_⟩
                 | exact SLe.of_eq rfl)
               all_goals first | rfl | omega)
      · have hkk : k = L.length := by omega
        subst hkk
        have hp : r.p = r.s.length := by
          have h1 := r.rest_len
          rw [hrr, List.drop_length] at h1
          have h2 := hr.1
          simp at h1; omega
        have hdn : r.done = 0 := by unfold RS.done; rw [if_neg (by omega), hre]
        repeat' (first
          | refine Awp.seq ?_
          | refine Awp.block ?_
          | refine Awp.region ?_
          | (refine Ops.nil ?_; show Awp _ _ _ _ _)
          | (refine Ops.nil ?_; show Exists _)
          | (refine Ops.nil ?_; show endK _ _ _ _ _)
          | (refine Awp.skip ?_; show Awp _ _ _ _ _)
          | (refine Awp.skip ?_; show endK _ _ _ _ _)
          | (refine Awp.skip ?_; show Exists _)
          | (refine Awp.exit ?_; show Awp _ _ _ _ _)
          | (refine Awp.exit ?_; show Exists _)
          | (refine Awp.exit ?_; show endK _ _ _ _ _)
          | (refine Awp.ret ?_; show endK _ _ _ _ _)
          | refine o_offT rfl rfl rfl (by first | exact .inl rfl | exact .inr rfl) ?_
          | refine o_offU rfl rfl rfl (by first | exact .inl rfl | exact .inr rfl) ?_
          | refine o_offF rfl rfl rfl (by first | exact .inl rfl | exact .inr rfl) ?_
          | (refine o_add rfl rfl rfl rfl ?_ ?_; omega)
          | refine o_len rfl TtOk rfl rfl rfl (fun _ => ?_)
          | refine o_lenOwn rfl TtOk rfl rfl rfl rfl (fun _ => ?_)
          | (refine o_calm rfl TtOk rfl rfl rfl ?_ (fun _ => ?_); first | exact True.intro | exact ⟨rfl, rfl, rfl, rfl⟩ | exact ⟨rfl, True.intro⟩ | exact ⟨rfl, rfl⟩ | exact ⟨rfl, rfl, rfl⟩ | exact rfl | exact ⟨fun h0 => by cases h0, rfl⟩ | exact (fun h0 => by cases h0) | omega)
          | refine o_alloc rfl TtOk rfl rfl rfl (fun _ => ?_)
          | refine o_store TtOk rfl rfl rfl rfl rfl rfl rfl ⟨rfl, rfl⟩ rfl rfl rfl rfl rfl ?_
          | (refine o_index rfl TtOk rfl rfl rfl rfl rfl rfl ?_ (getq_nat ?_) ?_; omega; omega)
          | refine o_eqNil TtOk rfl rfl rfl rfl rfl ?_
          | refine o_eqArr8 TtOk rfl rfl rfl rfl rfl rfl (by kernel_rfl) ?_
          | (fail_if_success (refine o_isLit rfl (by first | exact .inl rfl | exact .inr rfl) ?_)); (refine o_splitP rfl rfl (fun hc => ?_) (fun hc => ?_) <;> try (exfalso; omega))
          | (fail_if_success (refine o_isLit rfl (by first | exact .inl rfl | exact .inr rfl) ?_)); (refine o_splitI rfl rfl (fun hc => ?_) (fun hc => ?_) <;> try (exfalso; omega))
          | (fail_if_success (refine o_isLit rfl (by first | exact .inl rfl | exact .inr rfl) ?_)); (refine o_splitN rfl rfl (fun hc => ?_) (fun hc => ?_) <;> try (exfalso; omega))
          | (fail_if_success (refine o_isLit rfl (by first | exact .inl rfl | exact .inr rfl) ?_)); (refine o_split rfl rfl (fun hc => ?_) (fun hc => ?_))
          | refine a_condT rfl ?_
          | refine a_condF rfl ?_
          | (refine a_condP rfl (fun hc => ?_) (fun hc => ?_)) <;> (try (exfalso; omega))
          | (refine a_condI rfl (fun hc => ?_) (fun hc => ?_)) <;> (try (exfalso; omega))
          | (refine a_condN rfl (fun hc => ?_) (fun hc => ?_)) <;> (try (exfalso; omega))
          | (refine Awp.cond rfl (fun hc => ?_) (fun hc => ?_))
          | refine a_any 26 [56] [] [] [0, 2, 3, 1, 4, 5] (by kernel_rfl) (by kernel_rfl) (by kernel_rfl) rfl rfl rfl ?_
          | refine a_any 28 [56] [] [] [0, 2, 3, 1, 4, 5] (by kernel_rfl) (by kernel_rfl) (by kernel_rfl) rfl rfl rfl ?_
          | refine a_any 30 [56] [] [] [0, 2, 3, 1, 4, 5] (by kernel_rfl) (by kernel_rfl) (by kernel_rfl) rfl rfl rfl ?_
          | refine a_any 32 [56] [] [] [0, 2, 3, 4, 1, 5, 6] (by kernel_rfl) (by kernel_rfl) (by kernel_rfl) rfl rfl rfl ?_
          | (refine o_callN rfl (ropen_spec _) ⟨SLe.of_eq rfl, True.intro⟩ rfl (fun bN => ?_))
          | (refine o_callP rfl rfl rfl rfl (rdone_spec _ _) ⟨sle_ptr, True.intro⟩ (HOLe.refl _) rfl rfl ?_; rintro _ _ ⟨rfl, rfl⟩; refine ⟨_, rfl, _, rfl, ?_⟩)
          | (refine o_callP rfl rfl rfl rfl (rflag_spec _ _ (by assumption)) ⟨sle_ptr, True.intro⟩ (HOLe.refl _) rfl rfl ?_; rintro _ _ ⟨rfl, rfl⟩; refine ⟨_, rfl, _, rfl, ?_⟩)
          | (refine o_callP rfl rfl rfl rfl (rlabel_spec _ _ (by assumption)) ⟨sle_ptr, True.intro⟩ (HOLe.refl _) rfl rfl ?_; rintro _ _ ⟨rfl, rfl⟩; refine ⟨_, rfl, _, rfl, ?_⟩)
          | (refine o_callP rfl rfl rfl rfl (rleft_spec _ _ (by assumption)) ⟨sle_ptr, True.intro⟩ (HOLe.refl _) rfl rfl ?_; rintro _ _ ⟨rfl, rfl⟩; refine ⟨_, rfl, _, rfl, ?_⟩)
          | (refine o_callP rfl rfl rfl rfl (rnumber_spec _ _ (by assumption)) ⟨sle_ptr, True.intro⟩ (HOLe.refl _) rfl rfl ?_; rintro _ _ ⟨rfl, rfl⟩; refine ⟨_, rfl, _, rfl, ?_⟩)
          | (refine o_callP rfl rfl rfl rfl (rtext_spec _ _ (by assumption)) ⟨sle_ptr, True.intro⟩ (HOLe.refl _) rfl rfl ?_; rintro _ _ ⟨rfl, rfl⟩; refine ⟨_, rfl, _, rfl, ?_⟩)
          | (refine o_callPR rfl rfl rfl rfl rfl (wdone_spec _ _ _) ⟨sle_ptr, True.intro⟩ (HOLe.refl _) (HOLe.refl _) rfl rfl ?_; rintro _ _ ⟨rfl, wv, rfl⟩; refine ⟨_, _, rfl, _, rfl, ?_⟩)
          | (refine o_callPR rfl rfl rfl rfl rfl (wflag_spec _ _ _ _ (by first | assumption | omega)) ⟨sle_ptr, SLe.of_eq rfl, True.intro⟩ (HOLe.refl _) (HOLe.refl _) rfl rfl ?_; rintro _ _ ⟨rfl, wv, rfl⟩; refine ⟨_, _, rfl, _, rfl, ?_⟩)
          | (refine o_callPR rfl rfl rfl rfl rfl (wlabel_spec _ _ (by assumption) _ _ (by first | assumption | omega)) ⟨sle_ptr, SLe.of_eq rfl, True.intro⟩ (HOLe.refl _) (HOLe.refl _) rfl rfl ?_; rintro _ _ ⟨rfl, wv, rfl⟩; refine ⟨_, _, rfl, _, rfl, ?_⟩)
          | (refine o_callPR rfl rfl rfl rfl rfl (wnumber_spec _ _ (by first | assumption | omega) _ _ (by first | assumption | omega)) ⟨sle_ptr, SLe.of_eq rfl, True.intro⟩ (HOLe.refl _) (HOLe.refl _) rfl rfl ?_; rintro _ _ ⟨rfl, wv, rfl⟩; refine ⟨_, _, rfl, _, rfl, ?_⟩)
          | (refine o_callPR rfl rfl rfl rfl rfl (wtext_spec _ _ _ _ (by first | assumption | omega)) ⟨sle_ptr, SLe.of_eq rfl, True.intro⟩ (HOLe.refl _) (HOLe.refl _) rfl rfl ?_; rintro _ _ ⟨rfl, wv, rfl⟩; refine ⟨_, _, rfl, _, rfl, ?_⟩)
          | (refine o_call0 rfl (awake_spec) True.intro rfl ?_; rintro _ _ ⟨rfl, rfl⟩; refine ⟨rfl, ?_⟩))
        exact end_tmp rfl rfl rfl [] [] (CLe.of_eq (by rw [hp, Int.sub_self]; rfl)) .nil ⟨rfl, rfl⟩ _ (by first | exact .inl rfl | exact .inr rfl)
end Go.Proofs.Ytcnkmfmdadmaaaa
