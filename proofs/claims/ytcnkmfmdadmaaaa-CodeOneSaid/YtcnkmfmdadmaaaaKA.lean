/- law02.awake and law02.few by rules. -/
import Derived.Test.YtcnkmfmdadmaaaaKW2
import Derived.Test.YtcnkmfmdadmaaaaKR3
set_option maxHeartbeats 4000000
namespace Go.Proofs.Ytcnkmfmdadmaaaa
open Go Go.RowKit

def wsA : WS := ((⟨[], 0⟩ : WS).number 300).text [97, 98]
theorem wsA_done : wsA.done = ([2, 1, 44, 1, 2, 97, 98], 0) := by
  have h1 : digits 300 = [1, 44] := by rw [digits_pos (by decide), digits_pos (by decide), digits_zero]; rfl
  have h2 : digits 2 = [2] := by rw [digits_pos (by decide), digits_zero]; rfl
  have h3 : (⟨[], 0⟩ : WS).number 300 = ⟨[2, 1, 44], 0⟩ := by
    unfold WS.number; rw [if_neg (by decide)]; unfold WS.put numBytes; rw [show Int.toNat 300 = 300 from rfl, h1]; rfl
  have h4 : wsA = ⟨[2, 1, 44, 1, 2, 97, 98], 0⟩ := by
    unfold wsA; rw [h3]; unfold WS.text; rw [if_neg (by decide)]
    unfold WS.number; rw [if_neg (by decide)]; unfold WS.put numBytes; rw [show Int.toNat (([97, 98] : List UInt8).length : Int) = 2 from rfl, h2]; rfl
  rw [h4]; rfl
theorem rdA_done : ((RS.open [2, 0, 44]).number).2.done = 4 := by decide
theorem awake_spec : Spec Try.prog 27 [] [] (fun v os => v = .b true ∧ os = []) := by
  refine spec_of TtOk [] Try.func27 rfl Try.ntmps27 (by kernel_rfl) rfl rfl (fun C => ?_) rfl
  repeat' (first
    | refine Awp.seq ?_
    | refine Awp.region ?_
    | (refine Ops.nil ?_; show Awp _ _ _ _ _)
    | (refine Ops.nil ?_; show Exists _)
    | (refine Ops.nil ?_; show endK _ _ _ _ _)
    | (refine Awp.ret ?_; show endK _ _ _ _ _)
    | refine o_offT rfl rfl rfl (by first | exact .inl rfl | exact .inr rfl) ?_
    | refine o_offU rfl rfl rfl (by first | exact .inl rfl | exact .inr rfl) ?_
    | refine o_offF rfl rfl rfl (by first | exact .inl rfl | exact .inr rfl) ?_
    | (refine o_calm rfl TtOk rfl rfl rfl ?_ (fun _ => ?_); first | exact True.intro | exact ⟨rfl, rfl, rfl, rfl⟩ | exact ⟨rfl, True.intro⟩ | exact ⟨rfl, rfl⟩ | exact ⟨rfl, rfl, rfl⟩ | exact rfl | exact ⟨fun h0 => by cases h0, rfl⟩ | exact (fun h0 => by cases h0) | omega)
    | refine o_alloc rfl TtOk rfl rfl rfl (fun _ => ?_)
    | refine o_eqNil TtOk rfl rfl rfl rfl rfl ?_
    | refine o_eqArr8 TtOk rfl rfl rfl rfl rfl rfl (by kernel_rfl) ?_
    | (fail_if_success (refine o_isLit rfl (by first | exact .inl rfl | exact .inr rfl) ?_)); (refine o_splitP rfl rfl (fun hc => ?_) (fun hc => ?_) <;> try (exfalso; omega))
    | (fail_if_success (refine o_isLit rfl (by first | exact .inl rfl | exact .inr rfl) ?_)); (refine o_splitI rfl rfl (fun hc => ?_) (fun hc => ?_) <;> try (exfalso; omega))
    | (fail_if_success (refine o_isLit rfl (by first | exact .inl rfl | exact .inr rfl) ?_)); (refine o_splitN rfl rfl (fun hc => ?_) (fun hc => ?_) <;> try (exfalso; omega))
    | (fail_if_success (refine o_isLit rfl (by first | exact .inl rfl | exact .inr rfl) ?_)); (refine o_split rfl rfl (fun hc => ?_) (fun hc => ?_)))
  rename_i b
  refine Ops.weaken [] (S' := ⟨25, [(1, .ptr 0 b [] 0)], [(0, .var b (wrA (.slice none 0 0) ⟨[], 0⟩)), (1, .row (.slice none 0 0) 5 1 [])]⟩) ?_ ?_
  · refine ⟨rfl, ⟨sle_ptr, True.intro⟩, ?_⟩
    exact HLe.cons 1 rfl (HOLe.var (CLe.agg (.cons CLe.nilown (.cons (CLe.refl _) .nil)))) (.none .nil)
  refine o_call [] [0, 1] [0, 1] rfl (wnumber_spec b 300 (by decide) _ ⟨[], 0⟩ (by decide)) ⟨sle_ptr, sle_i rfl, True.intro⟩ rfl ⟨HOLe.refl _, HOLe.refl _, True.intro⟩ rfl rfl ?_
  rintro r os' ⟨rfl, v', rfl⟩; refine ⟨_, rfl, rfl, ?_⟩
  have hl := WS.len_number ⟨[], 0⟩ 300 (by decide)
  repeat' (first
    | refine Awp.seq ?_
    | refine Awp.region ?_
    | (refine Ops.nil ?_; show Awp _ _ _ _ _)
    | (refine Ops.nil ?_; show Exists _)
    | (refine Ops.nil ?_; show endK _ _ _ _ _)
    | (refine Awp.ret ?_; show endK _ _ _ _ _)
    | refine o_offT rfl rfl rfl (by first | exact .inl rfl | exact .inr rfl) ?_
    | refine o_offU rfl rfl rfl (by first | exact .inl rfl | exact .inr rfl) ?_
    | refine o_offF rfl rfl rfl (by first | exact .inl rfl | exact .inr rfl) ?_
    | (refine o_calm rfl TtOk rfl rfl rfl ?_ (fun _ => ?_); first | exact True.intro | exact ⟨rfl, rfl, rfl, rfl⟩ | exact ⟨rfl, True.intro⟩ | exact ⟨rfl, rfl⟩ | exact ⟨rfl, rfl, rfl⟩ | exact rfl | exact ⟨fun h0 => by cases h0, rfl⟩ | exact (fun h0 => by cases h0) | omega)
    | refine o_alloc rfl TtOk rfl rfl rfl (fun _ => ?_)
    | refine o_eqNil TtOk rfl rfl rfl rfl rfl ?_
    | refine o_eqArr8 TtOk rfl rfl rfl rfl rfl rfl (by kernel_rfl) ?_
    | (fail_if_success (refine o_isLit rfl (by first | exact .inl rfl | exact .inr rfl) ?_)); (refine o_splitP rfl rfl (fun hc => ?_) (fun hc => ?_) <;> try (exfalso; omega))
    | (fail_if_success (refine o_isLit rfl (by first | exact .inl rfl | exact .inr rfl) ?_)); (refine o_splitI rfl rfl (fun hc => ?_) (fun hc => ?_) <;> try (exfalso; omega))
    | (fail_if_success (refine o_isLit rfl (by first | exact .inl rfl | exact .inr rfl) ?_)); (refine o_splitN rfl rfl (fun hc => ?_) (fun hc => ?_) <;> try (exfalso; omega))
    | (fail_if_success (refine o_isLit rfl (by first | exact .inl rfl | exact .inr rfl) ?_)); (refine o_split rfl rfl (fun hc => ?_) (fun hc => ?_)))
  refine o_call [] [0, 1] [0, 1] rfl (wtext_spec b [97, 98] _ ((⟨[], 0⟩ : WS).number 300) (by simp only [List.length_nil] at hl; omega)) ⟨sle_ptr, sle_s rfl, True.intro⟩ rfl ⟨HOLe.refl _, HOLe.refl _, True.intro⟩ rfl rfl ?_
  rintro r os' ⟨rfl, v2, rfl⟩; refine ⟨_, rfl, rfl, ?_⟩
  repeat' (first
    | refine Awp.seq ?_
    | refine Awp.region ?_
    | (refine Ops.nil ?_; show Awp _ _ _ _ _)
    | (refine Ops.nil ?_; show Exists _)
    | (refine Ops.nil ?_; show endK _ _ _ _ _)
    | (refine Awp.ret ?_; show endK _ _ _ _ _)
    | refine o_offT rfl rfl rfl (by first | exact .inl rfl | exact .inr rfl) ?_
    | refine o_offU rfl rfl rfl (by first | exact .inl rfl | exact .inr rfl) ?_
    | refine o_offF rfl rfl rfl (by first | exact .inl rfl | exact .inr rfl) ?_
    | (refine o_calm rfl TtOk rfl rfl rfl ?_ (fun _ => ?_); first | exact True.intro | exact ⟨rfl, rfl, rfl, rfl⟩ | exact ⟨rfl, True.intro⟩ | exact ⟨rfl, rfl⟩ | exact ⟨rfl, rfl, rfl⟩ | exact rfl | exact ⟨fun h0 => by cases h0, rfl⟩ | exact (fun h0 => by cases h0) | omega)
    | refine o_alloc rfl TtOk rfl rfl rfl (fun _ => ?_)
    | refine o_eqNil TtOk rfl rfl rfl rfl rfl ?_
    | refine o_eqArr8 TtOk rfl rfl rfl rfl rfl rfl (by kernel_rfl) ?_
    | (fail_if_success (refine o_isLit rfl (by first | exact .inl rfl | exact .inr rfl) ?_)); (refine o_splitP rfl rfl (fun hc => ?_) (fun hc => ?_) <;> try (exfalso; omega))
    | (fail_if_success (refine o_isLit rfl (by first | exact .inl rfl | exact .inr rfl) ?_)); (refine o_splitI rfl rfl (fun hc => ?_) (fun hc => ?_) <;> try (exfalso; omega))
    | (fail_if_success (refine o_isLit rfl (by first | exact .inl rfl | exact .inr rfl) ?_)); (refine o_splitN rfl rfl (fun hc => ?_) (fun hc => ?_) <;> try (exfalso; omega))
    | (fail_if_success (refine o_isLit rfl (by first | exact .inl rfl | exact .inr rfl) ?_)); (refine o_split rfl rfl (fun hc => ?_) (fun hc => ?_)))
  refine o_call [] [0, 1] [0, 1] rfl (wdone_spec b _ wsA) ⟨sle_ptr, True.intro⟩ rfl ⟨HOLe.refl _, HOLe.refl _, True.intro⟩ rfl rfl ?_
  rintro r os' ⟨rfl, v3, rfl⟩; refine ⟨_, rfl, rfl, ?_⟩
  have hd := wsA_done
  generalize wsA.done = q at hd ⊢
  obtain ⟨s1, e1⟩ := q
  injection hd with hs1 he1
  dsimp only
  refine Ops.weaken [] (S' := ⟨25, [(8, .tup [.s s1, .i .i64 e1])], []⟩) ⟨rfl, ⟨SLe.of_eq rfl, True.intro⟩, .nil⟩ ?_
  repeat' (first
    | refine Awp.seq ?_
    | refine Awp.region ?_
    | (refine Ops.nil ?_; show Awp _ _ _ _ _)
    | (refine Ops.nil ?_; show Exists _)
    | (refine Ops.nil ?_; show endK _ _ _ _ _)
    | (refine Awp.ret ?_; show endK _ _ _ _ _)
    | refine o_offT rfl rfl rfl (by first | exact .inl rfl | exact .inr rfl) ?_
    | refine o_offU rfl rfl rfl (by first | exact .inl rfl | exact .inr rfl) ?_
    | refine o_offF rfl rfl rfl (by first | exact .inl rfl | exact .inr rfl) ?_
    | (refine o_calm rfl TtOk rfl rfl rfl ?_ (fun _ => ?_); first | exact True.intro | exact ⟨rfl, rfl, rfl, rfl⟩ | exact ⟨rfl, True.intro⟩ | exact ⟨rfl, rfl⟩ | exact ⟨rfl, rfl, rfl⟩ | exact rfl | exact ⟨fun h0 => by cases h0, rfl⟩ | exact (fun h0 => by cases h0) | omega)
    | refine o_alloc rfl TtOk rfl rfl rfl (fun _ => ?_)
    | refine o_eqNil TtOk rfl rfl rfl rfl rfl ?_
    | refine o_eqArr8 TtOk rfl rfl rfl rfl rfl rfl (by kernel_rfl) ?_
    | (fail_if_success (refine o_isLit rfl (by first | exact .inl rfl | exact .inr rfl) ?_)); (refine o_splitP rfl rfl (fun hc => ?_) (fun hc => ?_) <;> try (exfalso; omega))
    | (fail_if_success (refine o_isLit rfl (by first | exact .inl rfl | exact .inr rfl) ?_)); (refine o_splitI rfl rfl (fun hc => ?_) (fun hc => ?_) <;> try (exfalso; omega))
    | (fail_if_success (refine o_isLit rfl (by first | exact .inl rfl | exact .inr rfl) ?_)); (refine o_splitN rfl rfl (fun hc => ?_) (fun hc => ?_) <;> try (exfalso; omega))
    | (fail_if_success (refine o_isLit rfl (by first | exact .inl rfl | exact .inr rfl) ?_)); (refine o_split rfl rfl (fun hc => ?_) (fun hc => ?_)))
  obtain ⟨r0, hok0, hdn, hsp⟩ : ∃ r0 : RS, r0.ok ∧ r0.number.2.done = 4 ∧ Spec Try.prog 28 [.s [2, 0, 44]] [] (fun v os => ∃ b, v = .ptr 0 b [] 0 ∧ os = [.var b (rdA r0)]) :=
    ⟨RS.open [2, 0, 44], RS.ok_open (by decide), rdA_done, ropen_spec [2, 0, 44]⟩
  refine o_call [] [] [2] rfl hsp ⟨sle_s rfl, True.intro⟩ rfl True.intro rfl rfl ?_
  rintro r os' ⟨c, rfl, rfl⟩; refine ⟨_, rfl, rfl, ?_⟩
  repeat' (first
    | refine Awp.seq ?_
    | refine Awp.region ?_
    | (refine Ops.nil ?_; show Awp _ _ _ _ _)
    | (refine Ops.nil ?_; show Exists _)
    | (refine Ops.nil ?_; show endK _ _ _ _ _)
    | (refine Awp.ret ?_; show endK _ _ _ _ _)
    | refine o_offT rfl rfl rfl (by first | exact .inl rfl | exact .inr rfl) ?_
    | refine o_offU rfl rfl rfl (by first | exact .inl rfl | exact .inr rfl) ?_
    | refine o_offF rfl rfl rfl (by first | exact .inl rfl | exact .inr rfl) ?_
    | (refine o_calm rfl TtOk rfl rfl rfl ?_ (fun _ => ?_); first | exact True.intro | exact ⟨rfl, rfl, rfl, rfl⟩ | exact ⟨rfl, True.intro⟩ | exact ⟨rfl, rfl⟩ | exact ⟨rfl, rfl, rfl⟩ | exact rfl | exact ⟨fun h0 => by cases h0, rfl⟩ | exact (fun h0 => by cases h0) | omega)
    | refine o_alloc rfl TtOk rfl rfl rfl (fun _ => ?_)
    | refine o_eqNil TtOk rfl rfl rfl rfl rfl ?_
    | refine o_eqArr8 TtOk rfl rfl rfl rfl rfl rfl (by kernel_rfl) ?_
    | (fail_if_success (refine o_isLit rfl (by first | exact .inl rfl | exact .inr rfl) ?_)); (refine o_splitP rfl rfl (fun hc => ?_) (fun hc => ?_) <;> try (exfalso; omega))
    | (fail_if_success (refine o_isLit rfl (by first | exact .inl rfl | exact .inr rfl) ?_)); (refine o_splitI rfl rfl (fun hc => ?_) (fun hc => ?_) <;> try (exfalso; omega))
    | (fail_if_success (refine o_isLit rfl (by first | exact .inl rfl | exact .inr rfl) ?_)); (refine o_splitN rfl rfl (fun hc => ?_) (fun hc => ?_) <;> try (exfalso; omega))
    | (fail_if_success (refine o_isLit rfl (by first | exact .inl rfl | exact .inr rfl) ?_)); (refine o_split rfl rfl (fun hc => ?_) (fun hc => ?_)))
  refine o_call [] [2] [2] rfl (rnumber_spec c _ hok0) ⟨sle_ptr, True.intro⟩ rfl ⟨HOLe.refl _, True.intro⟩ rfl rfl ?_
  rintro r os' ⟨rfl, rfl⟩; refine ⟨_, rfl, rfl, ?_⟩
  generalize r0.number.1 = n1
  generalize r0.number.2 = r1 at hdn ⊢
  refine Ops.nil ?_; show Awp _ _ _ _ _
  repeat' (first | refine Awp.seq ?_ | refine Awp.region ?_)
  iterate 3 (refine o_calm rfl TtOk rfl rfl rfl ?_ (fun _ => ?_); first | exact True.intro | exact ⟨rfl, True.intro⟩)
  refine o_splitI rfl rfl (fun hc => ?_) (fun hc => absurd he1 hc)
  iterate 2 (refine o_calm rfl TtOk rfl rfl rfl ?_ (fun _ => ?_); first | exact True.intro | exact ⟨rfl, True.intro⟩)
  obtain ⟨q, hq⟩ : ∃ q : Bool, q = (s1 == ({ data := #[2, 1, 44, 1, 2, 97, 98] } : ByteArray).data.toList) := ⟨_, rfl⟩
  rw [← hq]
  have hqt : q = true := by rw [hq, hs1]; decide
  repeat' (first
    | refine Awp.seq ?_
    | refine Awp.region ?_
    | (refine Ops.nil ?_; show Awp _ _ _ _ _)
    | (refine Ops.nil ?_; show Exists _)
    | (refine Ops.nil ?_; show endK _ _ _ _ _)
    | (refine Awp.ret ?_; show endK _ _ _ _ _)
    | refine o_offT rfl rfl rfl (by first | exact .inl rfl | exact .inr rfl) ?_
    | refine o_offU rfl rfl rfl (by first | exact .inl rfl | exact .inr rfl) ?_
    | refine o_offF rfl rfl rfl (by first | exact .inl rfl | exact .inr rfl) ?_
    | (refine o_calm rfl TtOk rfl rfl rfl ?_ (fun _ => ?_); first | exact True.intro | exact ⟨rfl, rfl, rfl, rfl⟩ | exact ⟨rfl, True.intro⟩ | exact ⟨rfl, rfl⟩ | exact ⟨rfl, rfl, rfl⟩ | exact rfl | exact ⟨fun h0 => by cases h0, rfl⟩ | exact (fun h0 => by cases h0) | omega)
    | refine o_alloc rfl TtOk rfl rfl rfl (fun _ => ?_)
    | refine o_eqNil TtOk rfl rfl rfl rfl rfl ?_
    | refine o_eqArr8 TtOk rfl rfl rfl rfl rfl rfl (by kernel_rfl) ?_
    | (fail_if_success (refine o_isLit rfl (by first | exact .inl rfl | exact .inr rfl) ?_)); (refine o_splitP rfl rfl (fun hc => ?_) (fun hc => ?_) <;> try (exfalso; omega))
    | (fail_if_success (refine o_isLit rfl (by first | exact .inl rfl | exact .inr rfl) ?_)); (refine o_splitI rfl rfl (fun hc => ?_) (fun hc => ?_) <;> try (exfalso; omega))
    | (fail_if_success (refine o_isLit rfl (by first | exact .inl rfl | exact .inr rfl) ?_)); (refine o_splitN rfl rfl (fun hc => ?_) (fun hc => ?_) <;> try (exfalso; omega))
    | (fail_if_success (refine o_isLit rfl (by first | exact .inl rfl | exact .inr rfl) ?_)); (refine o_split rfl rfl (fun hc => ?_) (fun hc => ?_)))
  · refine o_call [] [2] [2] rfl (rdone_spec c r1) ⟨sle_ptr, True.intro⟩ rfl ⟨HOLe.refl _, True.intro⟩ rfl rfl ?_
    rintro r os' ⟨rfl, rfl⟩; refine ⟨_, rfl, rfl, ?_⟩
    rw [hdn]
    repeat' (first
      | refine Awp.seq ?_
      | refine Awp.region ?_
      | (refine Ops.nil ?_; show Awp _ _ _ _ _)
      | (refine Ops.nil ?_; show Exists _)
      | (refine Ops.nil ?_; show endK _ _ _ _ _)
      | (refine Awp.ret ?_; show endK _ _ _ _ _)
      | refine o_offT rfl rfl rfl (by first | exact .inl rfl | exact .inr rfl) ?_
      | refine o_offU rfl rfl rfl (by first | exact .inl rfl | exact .inr rfl) ?_
      | refine o_offF rfl rfl rfl (by first | exact .inl rfl | exact .inr rfl) ?_
      | (refine o_calm rfl TtOk rfl rfl rfl ?_ (fun _ => ?_); first | exact True.intro | exact ⟨rfl, rfl, rfl, rfl⟩ | exact ⟨rfl, True.intro⟩ | exact ⟨rfl, rfl⟩ | exact ⟨rfl, rfl, rfl⟩ | exact rfl | exact ⟨fun h0 => by cases h0, rfl⟩ | exact (fun h0 => by cases h0) | omega)
      | refine o_alloc rfl TtOk rfl rfl rfl (fun _ => ?_)
      | refine o_eqNil TtOk rfl rfl rfl rfl rfl ?_
      | refine o_eqArr8 TtOk rfl rfl rfl rfl rfl rfl (by kernel_rfl) ?_
      | (fail_if_success (refine o_isLit rfl (by first | exact .inl rfl | exact .inr rfl) ?_)); (refine o_splitP rfl rfl (fun hc => ?_) (fun hc => ?_) <;> try (exfalso; omega))
      | (fail_if_success (refine o_isLit rfl (by first | exact .inl rfl | exact .inr rfl) ?_)); (refine o_splitI rfl rfl (fun hc => ?_) (fun hc => ?_) <;> try (exfalso; omega))
      | (fail_if_success (refine o_isLit rfl (by first | exact .inl rfl | exact .inr rfl) ?_)); (refine o_splitN rfl rfl (fun hc => ?_) (fun hc => ?_) <;> try (exfalso; omega))
      | (fail_if_success (refine o_isLit rfl (by first | exact .inl rfl | exact .inr rfl) ?_)); (refine o_split rfl rfl (fun hc => ?_) (fun hc => ?_)))
    exact end_tmp rfl rfl rfl [] [] (CLe.of_eq rfl) .nil ⟨rfl, rfl⟩ _ (.inl rfl)
  · rw [hqt] at hc; cases hc
end Go.Proofs.Ytcnkmfmdadmaaaa
