/- block.Read by rules. -/
import Derived.Test.YtapbbifcipemfaaB4
import Derived.Test.YtapbbifcipemfaaS3
import Derived.Test.YtapbbifcipemfaaKR3
set_option maxHeartbeats 8000000
set_option maxRecDepth 100000
namespace Go.Proofs.Ytapbbifcipemfaa
open Go Go.RowKit
theorem text_len (r : RS) : r.text.1.length ≤ 65536 := by
  unfold RS.text RS.big
  split
  · rename_i h
    unfold RS.take RS.fail
    rw [if_pos h.1, if_pos (show (2 : Int) ≠ 0 by decide)]; exact Nat.zero_le _
  · rename_i h
    unfold RS.take
    split
    · exact Nat.zero_le _
    · split
      · exact Nat.zero_le _
      · rename_i h1 h2
        rw [List.length_take]
        have : ¬ 65536 < r.number.1 := fun h3 => h ⟨by omega, h3⟩
        omega
theorem sopen_len (s : List UInt8) : (sopen s).1.length ≤ s.length := by
  by_cases h : s.length < 8
  · rw [sopen_short h]; exact Nat.zero_le _
  · obtain ⟨c0, c1, c2, c3, c4, c5, c6, c7, r, rfl⟩ := eight h
    show (if _ then _ else if _ then _ else if _ then _ else _ : List UInt8 × Nat × Int).1.length ≤ _
    split
    · exact Nat.zero_le _
    · split
      · exact Nat.zero_le _
      · split
        · show (r.take _).length ≤ r.length + 8
          rw [List.length_take]; omega
        · exact Nat.zero_le _
/-- An entry's reading: what was read, the reader behind it. -/
def rdE (r : RS) : (Nat × List UInt8 × Bool × List UInt8) × RS :=
  if r.number.2.text.2.flag.1 = true then ((r.number.1, r.number.2.text.1, true, []), r.number.2.text.2.flag.2)
  else ((r.number.1, r.number.2.text.1, false, r.number.2.text.2.flag.2.text.1), r.number.2.text.2.flag.2.text.2)
def bloop : Nat → RS → List UInt8 → List Etr → Option (RS × List Etr)
  | 0, r, _, l => some (r, l)
  | k + 1, r, last, l =>
    if (rdE r).2.done ≠ 0 ∧ (rdE r).2.done ≠ 3 then some ((rdE r).2, l)
    else if last.length < (rdE r).1.1 then none
    else if (rdE r).1.1 ≠ cmn last (last.take (rdE r).1.1 ++ (rdE r).1.2.1) then none
    else bloop k (rdE r).2 (last.take (rdE r).1.1 ++ (rdE r).1.2.1) (l ++ [⟨last.take (rdE r).1.1 ++ (rdE r).1.2.1, (rdE r).1.2.2.2, (rdE r).1.2.2.1⟩])
def bread (s : List UInt8) : List Etr × Nat × Int :=
  if (sopen s).2.2 ≠ 0 then ([], 0, (sopen s).2.2) else
  match bloop ((RS.open (sopen s).1).below 257).1 ((RS.open (sopen s).1).below 257).2 [] [] with
  | none => ([], 0, 3)
  | some (r, l) => if r.done ≠ 0 then ([], 0, r.done) else if checkN l ≠ 0 then ([], 0, checkN l) else (l, (sopen s).2.1, 0)
theorem bread_spec (s : List UInt8) (hs : s.length ≤ 1000000000) : Spec Try.prog 37 [.s s] [] (fun v os => v = .tup [.sl 3 ((bread s).1.map eA), .i .i64 ((bread s).2.1 : Nat), .i .i64 (bread s).2.2] ∧ os = []) := by
  refine spec_of TtOk [] Try.func37 rfl Try.ntmps37 (by kernel_rfl) rfl rfl (fun C => ?_) rfl
  have hso := sopen_spec s hs
  have hbr : bread s = if (sopen s).2.2 ≠ 0 then ([], 0, (sopen s).2.2) else
    match bloop ((RS.open (sopen s).1).below 257).1 ((RS.open (sopen s).1).below 257).2 [] [] with
    | none => ([], 0, 3)
    | some (r, l) => if r.done ≠ 0 then ([], 0, r.done) else if checkN l ≠ 0 then ([], 0, checkN l) else (l, (sopen s).2.1, 0) := rfl
  have hsl : (sopen s).1.length ≤ 1000000000 := Nat.le_trans (sopen_len s) hs
  generalize bread s = out at hbr ⊢
  generalize sopen s = o at hso hbr hsl
  obtain ⟨t, sz, e⟩ := o
  dsimp only at hso hbr hsl
  have hok0 := RS.ok_open (s := t) (by omega)
  have hbw : ((RS.open t).below 257).1 ≤ 256 := by
    unfold RS.below; split
    · exact Nat.zero_le _
    · rename_i h; have h : ¬ (257 : Int) ≤ ((RS.open t).number.1 : Int) := h; omega
  have hokb : ((RS.open t).below 257).2.ok := by
    unfold RS.below; split
    · exact RS.ok_fail (RS.ok_number hok0) _
    · exact RS.ok_number hok0
  repeat' (first
    | refine Awp.seq ?_
    | refine Awp.block ?_
    | refine Awp.region ?_
    | (refine Ops.nil ?_; show Awp _ _ _ _ _)
    | (refine Ops.nil ?_; show Exists _)
    | (refine Ops.nil ?_; show endK _ _ _ _ _)
    | (refine Awp.skip ?_; show Awp _ _ _ _ _)
    | (refine Awp.skip ?_; show endK _ _ _ _ _)
    | (refine Awp.skip ?_; show Exists _)
    | (refine Awp.exit ?_; show Awp _ _ _ _ _)
    | (refine Awp.exit ?_; show Exists _)
    | (refine Awp.exit ?_; show endK _ _ _ _ _)
    | (refine Awp.ret ?_; show endK _ _ _ _ _)
    | refine o_offT rfl rfl rfl (by first | exact .inl rfl | exact .inr rfl) ?_
    | refine o_offU rfl rfl rfl (by first | exact .inl rfl | exact .inr rfl) ?_
    | refine o_offF rfl rfl rfl (by first | exact .inl rfl | exact .inr rfl) ?_
    | (refine o_add rfl rfl rfl rfl ?_ ?_; omega)
    | refine o_len rfl TtOk rfl rfl rfl (fun _ => ?_)
    | refine o_lenOwn rfl TtOk rfl rfl rfl rfl (fun _ => ?_)
    | (refine o_calm rfl TtOk rfl rfl rfl ?_ (fun _ => ?_); first | exact True.intro | exact ⟨rfl, rfl, rfl, rfl⟩ | exact ⟨rfl, True.intro⟩ | exact ⟨rfl, rfl⟩ | exact ⟨rfl, rfl, rfl⟩ | exact rfl | exact ⟨fun h0 => by cases h0, rfl⟩ | exact (fun h0 => by cases h0) | exact ⟨rfl, by omega⟩ | exact ⟨Nat.succ_ne_zero _, rfl⟩ | omega)
    | refine o_alloc (d := 13) rfl TtOk rfl rfl rfl (fun b13 => ?_)
    | refine o_store TtOk rfl rfl rfl rfl rfl rfl rfl ⟨rfl, rfl⟩ rfl rfl rfl rfl rfl ?_
    | (refine o_calm rfl TtOk rfl rfl rfl ?_ (fun _ => ?_); (show List.length _ + List.length _ ≤ 9223372036854775807; (try simp only [List.length_append, List.length_cons, List.length_nil]); omega))
    | refine o_build TtOk rfl rfl rfl rfl rfl rfl (by repeat' (first | exact True.intro | exact rfl | refine ⟨?_, ?_⟩)) ?_
    | refine o_buildArr0 TtOk rfl rfl rfl rfl ?_
    | refine o_buildSlice TtOk rfl rfl rfl rfl rfl rfl rfl rfl rfl rfl rfl (by repeat' (first | exact True.intro | exact rfl | refine ⟨?_, ?_⟩)) (fun _ => ?_)
    | (refine o_append TtOk rfl rfl rfl rfl rfl rfl rfl rfl rfl (by first | exact True.intro | exact rfl) rfl rfl (fun _ => rfl) ?_ ?_ (fun _ => ?_); (simp only [List.length_map, List.length_cons, List.length_nil, List.length_append, List.length_take, List.length_drop]; omega); (simp only [List.length_map, List.length_cons, List.length_nil, List.length_append, List.length_take, List.length_drop]; omega))
    | (refine o_appendStr TtOk rfl rfl rfl rfl rfl rfl rfl rfl rfl (fun _ => rfl) ?_ (fun _ => ?_); (simp only [List.length_map, List.length_cons, List.length_nil, List.length_append, List.length_take, List.length_drop]; omega))
    | refine o_sliceCp TtOk rfl rfl rfl rfl rfl rfl ?_
    | (fail_if_success (refine o_isLit rfl (by first | exact .inl rfl | exact .inr rfl) ?_)); (refine o_splitP rfl rfl (fun hc => ?_) (fun hc => ?_) <;> try (exfalso; omega))
    | (fail_if_success (refine o_isLit rfl (by first | exact .inl rfl | exact .inr rfl) ?_)); (refine o_splitI rfl rfl (fun hc => ?_) (fun hc => ?_) <;> try (exfalso; omega))
    | (fail_if_success (refine o_isLit rfl (by first | exact .inl rfl | exact .inr rfl) ?_)); (refine o_splitN rfl rfl (fun hc => ?_) (fun hc => ?_) <;> try (exfalso; omega))
    | (fail_if_success (refine o_isLit rfl (by first | exact .inl rfl | exact .inr rfl) ?_)); (refine o_split rfl rfl (fun hc => ?_) (fun hc => ?_))
    | refine a_condT rfl ?_
    | refine a_condF rfl ?_
    | (refine a_condP rfl (fun hc => ?_) (fun hc => ?_)) <;> (try (exfalso; omega))
    | (refine a_condI rfl (fun hc => ?_) (fun hc => ?_)) <;> (try (exfalso; omega))
    | (refine a_condN rfl (fun hc => ?_) (fun hc => ?_)) <;> (try (exfalso; omega))
    | (refine Awp.cond rfl (fun hc => ?_) (fun hc => ?_))
    | (refine o_call0 rfl (hso) ⟨SLe.of_eq rfl, True.intro⟩ rfl ?_; rintro _ _ ⟨rfl, rfl⟩; refine ⟨rfl, ?_⟩))
  · rw [if_pos hc] at hbr; subst hbr
    refine end_all [] [] (.tup [.sl 3 [], .i .i64 ((0 : Nat) : Int), .i .i64 e]) rfl ?_ ?_ (rle_tup3 (CLe.nilsl) (CLe.of_eq rfl) (CLe.of_eq rfl) rfl rfl rfl) .nil ⟨rfl, rfl⟩ _ (.inl rfl)
    · repeat' (first | exact True.intro | exact rfl | refine ⟨?_, ?_⟩)
    · exact ⟨trivial, trivial, trivial, trivial⟩
  rw [if_neg (by omega)] at hbr
  repeat' (first
    | refine Awp.seq ?_
    | refine Awp.block ?_
    | refine Awp.region ?_
    | (refine Ops.nil ?_; show Awp _ _ _ _ _)
    | (refine Ops.nil ?_; show Exists _)
    | (refine Ops.nil ?_; show endK _ _ _ _ _)
    | (refine Awp.skip ?_; show Awp _ _ _ _ _)
    | (refine Awp.skip ?_; show endK _ _ _ _ _)
    | (refine Awp.skip ?_; show Exists _)
    | (refine Awp.exit ?_; show Awp _ _ _ _ _)
    | (refine Awp.exit ?_; show Exists _)
    | (refine Awp.exit ?_; show endK _ _ _ _ _)
    | (refine Awp.ret ?_; show endK _ _ _ _ _)
    | refine o_offT rfl rfl rfl (by first | exact .inl rfl | exact .inr rfl) ?_
    | refine o_offU rfl rfl rfl (by first | exact .inl rfl | exact .inr rfl) ?_
    | refine o_offF rfl rfl rfl (by first | exact .inl rfl | exact .inr rfl) ?_
    | (refine o_add rfl rfl rfl rfl ?_ ?_; omega)
    | refine o_len rfl TtOk rfl rfl rfl (fun _ => ?_)
    | refine o_lenOwn rfl TtOk rfl rfl rfl rfl (fun _ => ?_)
    | (refine o_calm rfl TtOk rfl rfl rfl ?_ (fun _ => ?_); first | exact True.intro | exact ⟨rfl, rfl, rfl, rfl⟩ | exact ⟨rfl, True.intro⟩ | exact ⟨rfl, rfl⟩ | exact ⟨rfl, rfl, rfl⟩ | exact rfl | exact ⟨fun h0 => by cases h0, rfl⟩ | exact (fun h0 => by cases h0) | exact ⟨rfl, by omega⟩ | exact ⟨Nat.succ_ne_zero _, rfl⟩ | omega)
    | refine o_alloc (d := 13) rfl TtOk rfl rfl rfl (fun b13 => ?_)
    | refine o_store TtOk rfl rfl rfl rfl rfl rfl rfl ⟨rfl, rfl⟩ rfl rfl rfl rfl rfl ?_
    | (refine o_calm rfl TtOk rfl rfl rfl ?_ (fun _ => ?_); (show List.length _ + List.length _ ≤ 9223372036854775807; (try simp only [List.length_append, List.length_cons, List.length_nil]); omega))
    | refine o_build TtOk rfl rfl rfl rfl rfl rfl (by repeat' (first | exact True.intro | exact rfl | refine ⟨?_, ?_⟩)) ?_
    | refine o_buildArr0 TtOk rfl rfl rfl rfl ?_
    | refine o_buildSlice TtOk rfl rfl rfl rfl rfl rfl rfl rfl rfl rfl rfl (by repeat' (first | exact True.intro | exact rfl | refine ⟨?_, ?_⟩)) (fun _ => ?_)
    | (refine o_append TtOk rfl rfl rfl rfl rfl rfl rfl rfl rfl (by first | exact True.intro | exact rfl) rfl rfl (fun _ => rfl) ?_ ?_ (fun _ => ?_); (simp only [List.length_map, List.length_cons, List.length_nil, List.length_append, List.length_take, List.length_drop]; omega); (simp only [List.length_map, List.length_cons, List.length_nil, List.length_append, List.length_take, List.length_drop]; omega))
    | (refine o_appendStr TtOk rfl rfl rfl rfl rfl rfl rfl rfl rfl (fun _ => rfl) ?_ (fun _ => ?_); (simp only [List.length_map, List.length_cons, List.length_nil, List.length_append, List.length_take, List.length_drop]; omega))
    | refine o_sliceCp TtOk rfl rfl rfl rfl rfl rfl ?_
    | (fail_if_success (refine o_isLit rfl (by first | exact .inl rfl | exact .inr rfl) ?_)); (refine o_splitP rfl rfl (fun hc => ?_) (fun hc => ?_) <;> try (exfalso; omega))
    | (fail_if_success (refine o_isLit rfl (by first | exact .inl rfl | exact .inr rfl) ?_)); (refine o_splitI rfl rfl (fun hc => ?_) (fun hc => ?_) <;> try (exfalso; omega))
    | (fail_if_success (refine o_isLit rfl (by first | exact .inl rfl | exact .inr rfl) ?_)); (refine o_splitN rfl rfl (fun hc => ?_) (fun hc => ?_) <;> try (exfalso; omega))
    | (fail_if_success (refine o_isLit rfl (by first | exact .inl rfl | exact .inr rfl) ?_)); (refine o_split rfl rfl (fun hc => ?_) (fun hc => ?_))
    | refine a_condT rfl ?_
    | refine a_condF rfl ?_
    | (refine a_condP rfl (fun hc => ?_) (fun hc => ?_)) <;> (try (exfalso; omega))
    | (refine a_condI rfl (fun hc => ?_) (fun hc => ?_)) <;> (try (exfalso; omega))
    | (refine a_condN rfl (fun hc => ?_) (fun hc => ?_)) <;> (try (exfalso; omega))
    | (refine Awp.cond rfl (fun hc => ?_) (fun hc => ?_))
    | (refine o_call0 rfl (check_spec9 _ (by first | assumption | omega) (by assumption)) ⟨SLe.of_eq rfl, True.intro⟩ rfl ?_; rintro _ _ ⟨rfl, rfl⟩; refine ⟨rfl, ?_⟩)
    | (refine o_call0 rfl (shared_spec _ _ (by first | assumption | omega) (by first | assumption | omega)) ⟨SLe.of_eq rfl, SLe.of_eq rfl, True.intro⟩ rfl ?_; rintro _ _ ⟨rfl, rfl⟩; refine ⟨rfl, ?_⟩)
    | (refine o_callN rfl (ropen_spec _) ⟨SLe.of_eq rfl, True.intro⟩ rfl (fun bN => ?_))
    | (refine o_callP rfl rfl rfl rfl (rbelow_spec _ _ _ (by assumption)) ⟨sle_ptr, SLe.of_eq rfl, True.intro⟩ (HOLe.refl _) rfl rfl ?_; rintro _ _ ⟨rfl, rfl⟩; refine ⟨_, rfl, _, rfl, ?_⟩)
    | (refine o_callP rfl rfl rfl rfl (rdone_spec _ _) ⟨sle_ptr, True.intro⟩ (HOLe.refl _) rfl rfl ?_; rintro _ _ ⟨rfl, rfl⟩; refine ⟨_, rfl, _, rfl, ?_⟩)
    | (refine o_callP rfl rfl rfl rfl (rflag_spec _ _ (by assumption)) ⟨sle_ptr, True.intro⟩ (HOLe.refl _) rfl rfl ?_; rintro _ _ ⟨rfl, rfl⟩; refine ⟨_, rfl, _, rfl, ?_⟩)
    | (refine o_callP rfl rfl rfl rfl (rnumber_spec _ _ (by assumption)) ⟨sle_ptr, True.intro⟩ (HOLe.refl _) rfl rfl ?_; rintro _ _ ⟨rfl, rfl⟩; refine ⟨_, rfl, _, rfl, ?_⟩)
    | (refine o_callP rfl rfl rfl rfl (rtext_spec _ _ (by assumption)) ⟨sle_ptr, True.intro⟩ (HOLe.refl _) rfl rfl ?_; rintro _ _ ⟨rfl, rfl⟩; refine ⟨_, rfl, _, rfl, ?_⟩)
    | (refine o_call0 rfl (sopen_spec _ (by first | assumption | omega)) ⟨SLe.of_eq rfl, True.intro⟩ rfl ?_; rintro _ _ ⟨rfl, rfl⟩; refine ⟨rfl, ?_⟩))
  generalize ((RS.open t).below 257).1 = c at hbw hbr ⊢
  generalize ((RS.open t).below 257).2 = r0 at hokb hbr ⊢
  obtain ⟨R, hR⟩ : ∃ R, bloop c r0 [] [] = R := ⟨_, rfl⟩
  rw [hR] at hbr
  repeat' (first
    | refine Awp.seq ?_
    | refine Awp.block ?_
    | refine Awp.region ?_
    | (refine Ops.nil ?_; show Awp _ _ _ _ _)
    | (refine Ops.nil ?_; show Exists _)
    | (refine Ops.nil ?_; show endK _ _ _ _ _)
    | (refine Awp.skip ?_; show Awp _ _ _ _ _)
    | (refine Awp.skip ?_; show endK _ _ _ _ _)
    | (refine Awp.skip ?_; show Exists _)
    | (refine Awp.exit ?_; show Awp _ _ _ _ _)
    | (refine Awp.exit ?_; show Exists _)
    | (refine Awp.exit ?_; show endK _ _ _ _ _)
    | (refine Awp.ret ?_; show endK _ _ _ _ _)
    | refine o_offT rfl rfl rfl (by first | exact .inl rfl | exact .inr rfl) ?_
    | refine o_offU rfl rfl rfl (by first | exact .inl rfl | exact .inr rfl) ?_
    | refine o_offF rfl rfl rfl (by first | exact .inl rfl | exact .inr rfl) ?_
    | (refine o_add rfl rfl rfl rfl ?_ ?_; omega)
    | refine o_len rfl TtOk rfl rfl rfl (fun _ => ?_)
    | refine o_lenOwn rfl TtOk rfl rfl rfl rfl (fun _ => ?_)
    | (refine o_calm rfl TtOk rfl rfl rfl ?_ (fun _ => ?_); first | exact True.intro | exact ⟨rfl, rfl, rfl, rfl⟩ | exact ⟨rfl, True.intro⟩ | exact ⟨rfl, rfl⟩ | exact ⟨rfl, rfl, rfl⟩ | exact rfl | exact ⟨fun h0 => by cases h0, rfl⟩ | exact (fun h0 => by cases h0) | exact ⟨rfl, by omega⟩ | exact ⟨Nat.succ_ne_zero _, rfl⟩ | omega)
    | refine o_alloc (d := 13) rfl TtOk rfl rfl rfl (fun b13 => ?_)
    | refine o_store TtOk rfl rfl rfl rfl rfl rfl rfl ⟨rfl, rfl⟩ rfl rfl rfl rfl rfl ?_
    | (refine o_calm rfl TtOk rfl rfl rfl ?_ (fun _ => ?_); (show List.length _ + List.length _ ≤ 9223372036854775807; (try simp only [List.length_append, List.length_cons, List.length_nil]); omega))
    | refine o_build TtOk rfl rfl rfl rfl rfl rfl (by repeat' (first | exact True.intro | exact rfl | refine ⟨?_, ?_⟩)) ?_
    | refine o_buildArr0 TtOk rfl rfl rfl rfl ?_
    | refine o_buildSlice TtOk rfl rfl rfl rfl rfl rfl rfl rfl rfl rfl rfl (by repeat' (first | exact True.intro | exact rfl | refine ⟨?_, ?_⟩)) (fun _ => ?_)
    | (refine o_append TtOk rfl rfl rfl rfl rfl rfl rfl rfl rfl (by first | exact True.intro | exact rfl) rfl rfl (fun _ => rfl) ?_ ?_ (fun _ => ?_); (simp only [List.length_map, List.length_cons, List.length_nil, List.length_append, List.length_take, List.length_drop]; omega); (simp only [List.length_map, List.length_cons, List.length_nil, List.length_append, List.length_take, List.length_drop]; omega))
    | (refine o_appendStr TtOk rfl rfl rfl rfl rfl rfl rfl rfl rfl (fun _ => rfl) ?_ (fun _ => ?_); (simp only [List.length_map, List.length_cons, List.length_nil, List.length_append, List.length_take, List.length_drop]; omega))
    | refine o_sliceCp TtOk rfl rfl rfl rfl rfl rfl ?_
    | (fail_if_success (refine o_isLit rfl (by first | exact .inl rfl | exact .inr rfl) ?_)); (refine o_splitP rfl rfl (fun hc => ?_) (fun hc => ?_) <;> try (exfalso; omega))
    | (fail_if_success (refine o_isLit rfl (by first | exact .inl rfl | exact .inr rfl) ?_)); (refine o_splitI rfl rfl (fun hc => ?_) (fun hc => ?_) <;> try (exfalso; omega))
    | (fail_if_success (refine o_isLit rfl (by first | exact .inl rfl | exact .inr rfl) ?_)); (refine o_splitN rfl rfl (fun hc => ?_) (fun hc => ?_) <;> try (exfalso; omega))
    | (fail_if_success (refine o_isLit rfl (by first | exact .inl rfl | exact .inr rfl) ?_)); (refine o_split rfl rfl (fun hc => ?_) (fun hc => ?_))
    | refine a_condT rfl ?_
    | refine a_condF rfl ?_
    | (refine a_condP rfl (fun hc => ?_) (fun hc => ?_)) <;> (try (exfalso; omega))
    | (refine a_condI rfl (fun hc => ?_) (fun hc => ?_)) <;> (try (exfalso; omega))
    | (refine a_condN rfl (fun hc => ?_) (fun hc => ?_)) <;> (try (exfalso; omega))
    | (refine Awp.cond rfl (fun hc => ?_) (fun hc => ?_)))
  refine Awp.loop (fun q : Nat × RS × List UInt8 × List Etr × Value => ⟨87, [(29, .i .i64 q.1), (28, .i .i64 c), (8, .ptr 26 bN [] 0), (9, .own 9 q.2.2.2.2), (10, .s q.2.2.1), (6, .i .i64 sz)], [(26, .var bN (rdA q.2.1)), (9, .row q.2.2.2.2 42 3 (q.2.2.2.1.map eA))]⟩) (fun q => q.1 ≤ c ∧ bloop (c - q.1) q.2.1 q.2.2.1 q.2.2.2.1 = R ∧ q.2.1.ok ∧ q.2.2.1.length ≤ 65536 * q.1 ∧ q.2.2.2.1.length ≤ q.1 ∧ ∀ e ∈ q.2.2.2.1, e.k.length ≤ 1000000000000 ∧ e.v.length ≤ 1000000000000) (fun q => c - q.1) [] (0, r0, [], [], .slice none 0 0) ⟨Nat.zero_le _, hR, hokb, Nat.le_refl _, Nat.le_refl _, fun e h => by cases h⟩ ?_ ?_
  · exact ⟨rfl, ⟨sle_i rfl, sle_i rfl, sle_ptr, sle_nilown, sle_s rfl, sle_i rfl, True.intro⟩, HLe.cons 26 rfl (HOLe.refl _) (HLe.none .nil)⟩
  rintro ⟨i, r, last, l, v⟩ ⟨hic, hbl, hrok, hll, hln, hlm⟩
  dsimp only at hic hbl hrok hll hln hlm ⊢
  have hckl := check_spec9 l (by omega) hlm
  by_cases hlt : i < c
  · have hst : bloop (c - i) r last l = if (rdE r).2.done ≠ 0 ∧ (rdE r).2.done ≠ 3 then some ((rdE r).2, l)
        else if last.length < (rdE r).1.1 then none
        else if (rdE r).1.1 ≠ cmn last (last.take (rdE r).1.1 ++ (rdE r).1.2.1) then none
        else bloop (c - (i + 1)) (rdE r).2 (last.take (rdE r).1.1 ++ (rdE r).1.2.1) (l ++ [⟨last.take (rdE r).1.1 ++ (rdE r).1.2.1, (rdE r).1.2.2.2, (rdE r).1.2.2.1⟩]) := by
      rw [show c - i = (c - (i + 1)) + 1 by omega]; rfl
    rw [hbl] at hst
    have hE : rdE r = if r.number.2.text.2.flag.1 = true then ((r.number.1, r.number.2.text.1, true, []), r.number.2.text.2.flag.2)
      else ((r.number.1, r.number.2.text.1, false, r.number.2.text.2.flag.2.text.1), r.number.2.text.2.flag.2.text.2) := rfl
    have hN := rnumber_spec bN r hrok
    have ok1 := RS.ok_number hrok
    generalize r.number.1 = n at hN hE
    generalize r.number.2 = r1 at hN ok1 hE
    have hT := rtext_spec bN r1 ok1
    have ok2 := RS.ok_text ok1
    have htl := text_len r1
    generalize r1.text.1 = t1 at hT htl hE
    generalize r1.text.2 = r2 at hT ok2 hE
    have hF := rflag_spec bN r2 ok2
    have ok3 := RS.ok_flag ok2
    generalize r2.flag.2 = r3 at hF ok3 hE
    cases hg : r2.flag.1
    · rw [hg] at hF hE
      rw [if_neg (by decide)] at hE
      have hT2 := rtext_spec bN r3 ok3
      have ok4 := RS.ok_text ok3
      have hvl := text_len r3
      generalize r3.text.1 = v1 at hT2 hvl hE
      generalize r3.text.2 = r4 at hT2 ok4 hE
      rw [hE] at hst
      dsimp only at hst
      have hD := rdone_spec bN r4
      generalize hd : r4.done = d at hD hst
      by_cases hdd : d ≠ 0 ∧ d ≠ 3
      · rw [if_pos hdd] at hst
        subst hst
        have hbr : out = if RS.done r4 ≠ 0 then ([], 0, RS.done r4) else if checkN l ≠ 0 then ([], 0, checkN l) else (l, sz, 0) := hbr
        rw [hd, if_pos hdd.1] at hbr
        subst hbr
        obtain ⟨hd1, hd2⟩ := hdd
        repeat' (first
          | refine Awp.seq ?_
          | refine Awp.block ?_
          | refine Awp.region ?_
          | (refine Ops.nil ?_; show Awp _ _ _ _ _)
          | (refine Ops.nil ?_; show Exists _)
          | (refine Ops.nil ?_; show endK _ _ _ _ _)
          | (refine Awp.skip ?_; show Awp _ _ _ _ _)
          | (refine Awp.skip ?_; show endK _ _ _ _ _)
          | (refine Awp.skip ?_; show Exists _)
          | (refine Awp.exit ?_; show Awp _ _ _ _ _)
          | (refine Awp.exit ?_; show Exists _)
          | (refine Awp.exit ?_; show endK _ _ _ _ _)
          | (refine Awp.ret ?_; show endK _ _ _ _ _)
          | refine o_offT rfl rfl rfl (by first | exact .inl rfl | exact .inr rfl) ?_
          | refine o_offU rfl rfl rfl (by first | exact .inl rfl | exact .inr rfl) ?_
          | refine o_offF rfl rfl rfl (by first | exact .inl rfl | exact .inr rfl) ?_
          | (refine o_add rfl rfl rfl rfl ?_ ?_; omega)
          | refine o_len rfl TtOk rfl rfl rfl (fun _ => ?_)
          | refine o_lenOwn rfl TtOk rfl rfl rfl rfl (fun _ => ?_)
          | (refine o_calm rfl TtOk rfl rfl rfl ?_ (fun _ => ?_); first | exact True.intro | exact ⟨rfl, rfl, rfl, rfl⟩ | exact ⟨rfl, True.intro⟩ | exact ⟨rfl, rfl⟩ | exact ⟨rfl, rfl, rfl⟩ | exact rfl | exact ⟨fun h0 => by cases h0, rfl⟩ | exact (fun h0 => by cases h0) | exact ⟨rfl, by omega⟩ | exact ⟨Nat.succ_ne_zero _, rfl⟩ | omega)
          | refine o_alloc (d := 13) rfl TtOk rfl rfl rfl (fun b13 => ?_)
          | refine o_store TtOk rfl rfl rfl rfl rfl rfl rfl ⟨rfl, rfl⟩ rfl rfl rfl rfl rfl ?_
          | (refine o_calm rfl TtOk rfl rfl rfl ?_ (fun _ => ?_); (show List.length _ + List.length _ ≤ 9223372036854775807; (try simp only [List.length_append, List.length_cons, List.length_nil]); omega))
          | refine o_build TtOk rfl rfl rfl rfl rfl rfl (by repeat' (first | exact True.intro | exact rfl | refine ⟨?_, ?_⟩)) ?_
          | refine o_buildArr0 TtOk rfl rfl rfl rfl ?_
          | refine o_buildSlice TtOk rfl rfl rfl rfl rfl rfl rfl rfl rfl rfl rfl (by repeat' (first | exact True.intro | exact rfl | refine ⟨?_, ?_⟩)) (fun _ => ?_)
          | (refine o_append TtOk rfl rfl rfl rfl rfl rfl rfl rfl rfl (by first | exact True.intro | exact rfl) rfl rfl (fun _ => rfl) ?_ ?_ (fun _ => ?_); (simp only [List.length_map, List.length_cons, List.length_nil, List.length_append, List.length_take, List.length_drop]; omega); (simp only [List.length_map, List.length_cons, List.length_nil, List.length_append, List.length_take, List.length_drop]; omega))
          | (refine o_appendStr TtOk rfl rfl rfl rfl rfl rfl rfl rfl rfl (fun _ => rfl) ?_ (fun _ => ?_); (simp only [List.length_map, List.length_cons, List.length_nil, List.length_append, List.length_take, List.length_drop]; omega))
          | refine o_sliceCp TtOk rfl rfl rfl rfl rfl rfl ?_
          | (fail_if_success (refine o_isLit rfl (by first | exact .inl rfl | exact .inr rfl) ?_)); (refine o_splitP rfl rfl (fun hc => ?_) (fun hc => ?_) <;> try (exfalso; omega))
          | (fail_if_success (refine o_isLit rfl (by first | exact .inl rfl | exact .inr rfl) ?_)); (refine o_splitI rfl rfl (fun hc => ?_) (fun hc => ?_) <;> try (exfalso; omega))
          | (fail_if_success (refine o_isLit rfl (by first | exact .inl rfl | exact .inr rfl) ?_)); (refine o_splitN rfl rfl (fun hc => ?_) (fun hc => ?_) <;> try (exfalso; omega))
          | (fail_if_success (refine o_isLit rfl (by first | exact .inl rfl | exact .inr rfl) ?_)); (refine o_split rfl rfl (fun hc => ?_) (fun hc => ?_))
          | refine a_condT rfl ?_
          | refine a_condF rfl ?_
          | (refine a_condP rfl (fun hc => ?_) (fun hc => ?_)) <;> (try (exfalso; omega))
          | (refine a_condI rfl (fun hc => ?_) (fun hc => ?_)) <;> (try (exfalso; omega))
          | (refine a_condN rfl (fun hc => ?_) (fun hc => ?_)) <;> (try (exfalso; omega))
          | (refine Awp.cond rfl (fun hc => ?_) (fun hc => ?_))
          | (refine o_callP rfl rfl rfl rfl (hN) ⟨sle_ptr, True.intro⟩ (HOLe.refl _) rfl rfl ?_; rintro _ _ ⟨rfl, rfl⟩; refine ⟨_, rfl, _, rfl, ?_⟩)
          | (refine o_callP rfl rfl rfl rfl (hT) ⟨sle_ptr, True.intro⟩ (HOLe.refl _) rfl rfl ?_; rintro _ _ ⟨rfl, rfl⟩; refine ⟨_, rfl, _, rfl, ?_⟩)
          | (refine o_callP rfl rfl rfl rfl (hF) ⟨sle_ptr, True.intro⟩ (HOLe.refl _) rfl rfl ?_; rintro _ _ ⟨rfl, rfl⟩; refine ⟨_, rfl, _, rfl, ?_⟩)
          | (refine o_callP rfl rfl rfl rfl (hT2) ⟨sle_ptr, True.intro⟩ (HOLe.refl _) rfl rfl ?_; rintro _ _ ⟨rfl, rfl⟩; refine ⟨_, rfl, _, rfl, ?_⟩)
          | (refine o_callP rfl rfl rfl rfl (hD) ⟨sle_ptr, True.intro⟩ (HOLe.refl _) rfl rfl ?_; rintro _ _ ⟨rfl, rfl⟩; refine ⟨_, rfl, _, rfl, ?_⟩))
        refine end_all [] [] (.tup [.sl 3 [], .i .i64 ((0 : Nat) : Int), .i .i64 d]) rfl ?_ ?_ (rle_tup3 (CLe.nilsl) (CLe.of_eq rfl) (CLe.of_eq rfl) rfl rfl rfl) .nil ⟨rfl, rfl⟩ _ (.inl rfl)
        · repeat' (first | exact True.intro | exact rfl | refine ⟨?_, ?_⟩)
        · exact ⟨trivial, trivial, trivial, trivial⟩
      · rw [if_neg hdd] at hst
        have hdd2 : d = 0 ∨ d = 3 := by omega
        clear hdd
        by_cases hn : last.length < n
        · rw [if_pos hn] at hst
          subst hst
          have hbr : out = ([], 0, 3) := hbr
          subst hbr
          rcases hdd2 with hd0 | hd0 <;> subst hd0
          all_goals
            repeat' (first
              | refine Awp.seq ?_
              | refine Awp.block ?_
              | refine Awp.region ?_
              | (refine Ops.nil ?_; show Awp _ _ _ _ _)
              | (refine Ops.nil ?_; show Exists _)
              | (refine Ops.nil ?_; show endK _ _ _ _ _)
              | (refine Awp.skip ?_; show Awp _ _ _ _ _)
              | (refine Awp.skip ?_; show endK _ _ _ _ _)
              | (refine Awp.skip ?_; show Exists _)
              | (refine Awp.exit ?_; show Awp _ _ _ _ _)
              | (refine Awp.exit ?_; show Exists _)
              | (refine Awp.exit ?_; show endK _ _ _ _ _)
              | (refine Awp.ret ?_; show endK _ _ _ _ _)
              | refine o_offT rfl rfl rfl (by first | exact .inl rfl | exact .inr rfl) ?_
              | refine o_offU rfl rfl rfl (by first | exact .inl rfl | exact .inr rfl) ?_
              | refine o_offF rfl rfl rfl (by first | exact .inl rfl | exact .inr rfl) ?_
              | (refine o_add rfl rfl rfl rfl ?_ ?_; omega)
              | refine o_len rfl TtOk rfl rfl rfl (fun _ => ?_)
              | refine o_lenOwn rfl TtOk rfl rfl rfl rfl (fun _ => ?_)
              | (refine o_calm rfl TtOk rfl rfl rfl ?_ (fun _ => ?_); first | exact True.intro | exact ⟨rfl, rfl, rfl, rfl⟩ | exact ⟨rfl, True.intro⟩ | exact ⟨rfl, rfl⟩ | exact ⟨rfl, rfl, rfl⟩ | exact rfl | exact ⟨fun h0 => by cases h0, rfl⟩ | exact (fun h0 => by cases h0) | exact ⟨rfl, by omega⟩ | exact ⟨Nat.succ_ne_zero _, rfl⟩ | omega)
              | refine o_alloc (d := 13) rfl TtOk rfl rfl rfl (fun b13 => ?_)
              | refine o_store TtOk rfl rfl rfl rfl rfl rfl rfl ⟨rfl, rfl⟩ rfl rfl rfl rfl rfl ?_
              | (refine o_calm rfl TtOk rfl rfl rfl ?_ (fun _ => ?_); (show List.length _ + List.length _ ≤ 9223372036854775807; (try simp only [List.length_append, List.length_cons, List.length_nil]); omega))
              | refine o_build TtOk rfl rfl rfl rfl rfl rfl (by repeat' (first | exact True.intro | exact rfl | refine ⟨?_, ?_⟩)) ?_
              | refine o_buildArr0 TtOk rfl rfl rfl rfl ?_
              | refine o_buildSlice TtOk rfl rfl rfl rfl rfl rfl rfl rfl rfl rfl rfl (by repeat' (first | exact True.intro | exact rfl | refine ⟨?_, ?_⟩)) (fun _ => ?_)
              | (refine o_append TtOk rfl rfl rfl rfl rfl rfl rfl rfl rfl (by first | exact True.intro | exact rfl) rfl rfl (fun _ => rfl) ?_ ?_ (fun _ => ?_); (simp only [List.length_map, List.length_cons, List.length_nil, List.length_append, List.length_take, List.length_drop]; omega); (simp only [List.length_map, List.length_cons, List.length_nil, List.length_append, List.length_take, List.length_drop]; omega))
              | (refine o_appendStr TtOk rfl rfl rfl rfl rfl rfl rfl rfl rfl (fun _ => rfl) ?_ (fun _ => ?_); (simp only [List.length_map, List.length_cons, List.length_nil, List.length_append, List.length_take, List.length_drop]; omega))
              | refine o_sliceCp TtOk rfl rfl rfl rfl rfl rfl ?_
              | (fail_if_success (refine o_isLit rfl (by first | exact .inl rfl | exact .inr rfl) ?_)); (refine o_splitP rfl rfl (fun hc => ?_) (fun hc => ?_) <;> try (exfalso; omega))
              | (fail_if_success (refine o_isLit rfl (by first | exact .inl rfl | exact .inr rfl) ?_)); (refine o_splitI rfl rfl (fun hc => ?_) (fun hc => ?_) <;> try (exfalso; omega))
              | (fail_if_success (refine o_isLit rfl (by first | exact .inl rfl | exact .inr rfl) ?_)); (refine o_splitN rfl rfl (fun hc => ?_) (fun hc => ?_) <;> try (exfalso; omega))
              | (fail_if_success (refine o_isLit rfl (by first | exact .inl rfl | exact .inr rfl) ?_)); (refine o_split rfl rfl (fun hc => ?_) (fun hc => ?_))
              | refine a_condT rfl ?_
              | refine a_condF rfl ?_
              | (refine a_condP rfl (fun hc => ?_) (fun hc => ?_)) <;> (try (exfalso; omega))
              | (refine a_condI rfl (fun hc => ?_) (fun hc => ?_)) <;> (try (exfalso; omega))
              | (refine a_condN rfl (fun hc => ?_) (fun hc => ?_)) <;> (try (exfalso; omega))
              | (refine Awp.cond rfl (fun hc => ?_) (fun hc => ?_))
              | (refine o_callP rfl rfl rfl rfl (hN) ⟨sle_ptr, True.intro⟩ (HOLe.refl _) rfl rfl ?_; rintro _ _ ⟨rfl, rfl⟩; refine ⟨_, rfl, _, rfl, ?_⟩)
              | (refine o_callP rfl rfl rfl rfl (hT) ⟨sle_ptr, True.intro⟩ (HOLe.refl _) rfl rfl ?_; rintro _ _ ⟨rfl, rfl⟩; refine ⟨_, rfl, _, rfl, ?_⟩)
              | (refine o_callP rfl rfl rfl rfl (hF) ⟨sle_ptr, True.intro⟩ (HOLe.refl _) rfl rfl ?_; rintro _ _ ⟨rfl, rfl⟩; refine ⟨_, rfl, _, rfl, ?_⟩)
              | (refine o_callP rfl rfl rfl rfl (hT2) ⟨sle_ptr, True.intro⟩ (HOLe.refl _) rfl rfl ?_; rintro _ _ ⟨rfl, rfl⟩; refine ⟨_, rfl, _, rfl, ?_⟩)
              | (refine o_callP rfl rfl rfl rfl (hD) ⟨sle_ptr, True.intro⟩ (HOLe.refl _) rfl rfl ?_; rintro _ _ ⟨rfl, rfl⟩; refine ⟨_, rfl, _, rfl, ?_⟩))
          all_goals
            refine end_all [] [] (.tup [.sl 3 [], .i .i64 ((0 : Nat) : Int), .i .i64 3]) rfl ?_ ?_ (rle_tup3 (CLe.nilsl) (CLe.of_eq rfl) (CLe.of_eq rfl) rfl rfl rfl) .nil ⟨rfl, rfl⟩ _ (.inl rfl)
            · repeat' (first | exact True.intro | exact rfl | refine ⟨?_, ?_⟩)
            · exact ⟨trivial, trivial, trivial, trivial⟩
        · rw [if_neg hn] at hst
          have htk : (last.take n).length = n := by rw [List.length_take]; omega
          have hkl : (last.take n ++ t1).length = n + t1.length := by rw [List.length_append, htk]
          have hcm := shared_spec last (last.take n ++ t1) (by omega) (by omega)
          have hadd : (last.take n).length + t1.length ≤ 9223372036854775807 := by omega
          generalize hkey : last.take n ++ t1 = key at hst hcm hkl
          generalize cmn last key = cm at hst hcm
          by_cases hnc : n = cm
          · rw [if_neg (by omega)] at hst
            subst hnc
            rcases hdd2 with hd0 | hd0 <;> subst hd0
            all_goals
              repeat' (first
                | (refine o_calm rfl TtOk rfl rfl rfl hadd (fun _ => ?_); rw [hkey])
                | refine Awp.seq ?_
                | refine Awp.block ?_
                | refine Awp.region ?_
                | (refine Ops.nil ?_; show Awp _ _ _ _ _)
                | (refine Ops.nil ?_; show Exists _)
                | (refine Ops.nil ?_; show endK _ _ _ _ _)
                | (refine Awp.skip ?_; show Awp _ _ _ _ _)
                | (refine Awp.skip ?_; show endK _ _ _ _ _)
                | (refine Awp.skip ?_; show Exists _)
                | (refine Awp.exit ?_; show Awp _ _ _ _ _)
                | (refine Awp.exit ?_; show Exists _)
                | (refine Awp.exit ?_; show endK _ _ _ _ _)
                | (refine Awp.ret ?_; show endK _ _ _ _ _)
                | refine o_offT rfl rfl rfl (by first | exact .inl rfl | exact .inr rfl) ?_
                | refine o_offU rfl rfl rfl (by first | exact .inl rfl | exact .inr rfl) ?_
                | refine o_offF rfl rfl rfl (by first | exact .inl rfl | exact .inr rfl) ?_
                | (refine o_add rfl rfl rfl rfl ?_ ?_; omega)
                | refine o_len rfl TtOk rfl rfl rfl (fun _ => ?_)
                | refine o_lenOwn rfl TtOk rfl rfl rfl rfl (fun _ => ?_)
                | (refine o_calm rfl TtOk rfl rfl rfl ?_ (fun _ => ?_); first | exact True.intro | exact ⟨rfl, rfl, rfl, rfl⟩ | exact ⟨rfl, True.intro⟩ | exact ⟨rfl, rfl⟩ | exact ⟨rfl, rfl, rfl⟩ | exact rfl | exact ⟨fun h0 => by cases h0, rfl⟩ | exact (fun h0 => by cases h0) | exact ⟨rfl, by omega⟩ | exact ⟨Nat.succ_ne_zero _, rfl⟩ | omega)
                | refine o_alloc (d := 13) rfl TtOk rfl rfl rfl (fun b13 => ?_)
                | refine o_store TtOk rfl rfl rfl rfl rfl rfl rfl ⟨rfl, rfl⟩ rfl rfl rfl rfl rfl ?_
                | (refine o_calm rfl TtOk rfl rfl rfl ?_ (fun _ => ?_); (show List.length _ + List.length _ ≤ 9223372036854775807; (try simp only [List.length_append, List.length_cons, List.length_nil]); omega))
                | refine o_build TtOk rfl rfl rfl rfl rfl rfl (by repeat' (first | exact True.intro | exact rfl | refine ⟨?_, ?_⟩)) ?_
                | refine o_buildArr0 TtOk rfl rfl rfl rfl ?_
                | refine o_buildSlice TtOk rfl rfl rfl rfl rfl rfl rfl rfl rfl rfl rfl (by repeat' (first | exact True.intro | exact rfl | refine ⟨?_, ?_⟩)) (fun _ => ?_)
                | (refine o_append TtOk rfl rfl rfl rfl rfl rfl rfl rfl rfl (by first | exact True.intro | exact rfl) rfl rfl (fun _ => rfl) ?_ ?_ (fun _ => ?_); (simp only [List.length_map, List.length_cons, List.length_nil, List.length_append, List.length_take, List.length_drop]; omega); (simp only [List.length_map, List.length_cons, List.length_nil, List.length_append, List.length_take, List.length_drop]; omega))
                | (refine o_appendStr TtOk rfl rfl rfl rfl rfl rfl rfl rfl rfl (fun _ => rfl) ?_ (fun _ => ?_); (simp only [List.length_map, List.length_cons, List.length_nil, List.length_append, List.length_take, List.length_drop]; omega))
                | refine o_sliceCp TtOk rfl rfl rfl rfl rfl rfl ?_
                | (fail_if_success (refine o_isLit rfl (by first | exact .inl rfl | exact .inr rfl) ?_)); (refine o_splitP rfl rfl (fun hc => ?_) (fun hc => ?_) <;> try (exfalso; omega))
                | (fail_if_success (refine o_isLit rfl (by first | exact .inl rfl | exact .inr rfl) ?_)); (refine o_splitI rfl rfl (fun hc => ?_) (fun hc => ?_) <;> try (exfalso; omega))
                | (fail_if_success (refine o_isLit rfl (by first | exact .inl rfl | exact .inr rfl) ?_)); (refine o_splitN rfl rfl (fun hc => ?_) (fun hc => ?_) <;> try (exfalso; omega))
                | (fail_if_success (refine o_isLit rfl (by first | exact .inl rfl | exact .inr rfl) ?_)); (refine o_split rfl rfl (fun hc => ?_) (fun hc => ?_))
                | refine a_condT rfl ?_
                | refine a_condF rfl ?_
                | (refine a_condP rfl (fun hc => ?_) (fun hc => ?_)) <;> (try (exfalso; omega))
                | (refine a_condI rfl (fun hc => ?_) (fun hc => ?_)) <;> (try (exfalso; omega))
                | (refine a_condN rfl (fun hc => ?_) (fun hc => ?_)) <;> (try (exfalso; omega))
                | (refine Awp.cond rfl (fun hc => ?_) (fun hc => ?_))
                | (refine o_sliceStr TtOk rfl 0 n rfl rfl rfl bnd_none (bnd_some rfl rfl) (Nat.zero_le _) (by omega) ?_; rw [List.drop_zero])
                | (refine o_call0 rfl (hcm) ⟨SLe.of_eq rfl, SLe.of_eq rfl, True.intro⟩ rfl ?_; rintro _ _ ⟨rfl, rfl⟩; refine ⟨rfl, ?_⟩)
                | (refine o_callP rfl rfl rfl rfl (hN) ⟨sle_ptr, True.intro⟩ (HOLe.refl _) rfl rfl ?_; rintro _ _ ⟨rfl, rfl⟩; refine ⟨_, rfl, _, rfl, ?_⟩)
                | (refine o_callP rfl rfl rfl rfl (hT) ⟨sle_ptr, True.intro⟩ (HOLe.refl _) rfl rfl ?_; rintro _ _ ⟨rfl, rfl⟩; refine ⟨_, rfl, _, rfl, ?_⟩)
                | (refine o_callP rfl rfl rfl rfl (hF) ⟨sle_ptr, True.intro⟩ (HOLe.refl _) rfl rfl ?_; rintro _ _ ⟨rfl, rfl⟩; refine ⟨_, rfl, _, rfl, ?_⟩)
                | (refine o_callP rfl rfl rfl rfl (hT2) ⟨sle_ptr, True.intro⟩ (HOLe.refl _) rfl rfl ?_; rintro _ _ ⟨rfl, rfl⟩; refine ⟨_, rfl, _, rfl, ?_⟩)
                | (refine o_callP rfl rfl rfl rfl (hD) ⟨sle_ptr, True.intro⟩ (HOLe.refl _) rfl rfl ?_; rintro _ _ ⟨rfl, rfl⟩; refine ⟨_, rfl, _, rfl, ?_⟩))
            all_goals
              refine ⟨(i + 1, r4, key, l ++ [⟨key, v1, false⟩], _), [], ⟨by show i + 1 ≤ c; omega, hst.symm, ok4, by show key.length ≤ 65536 * (i + 1); omega, by show (l ++ [_]).length ≤ i + 1; rw [List.length_append, List.length_singleton]; omega, ?_⟩, by show c - (i + 1) < c - i; omega, rfl, ⟨sle_i (by show (i : Int) + 1 = ((i + 1 : Nat) : Int); omega), sle_i rfl, sle_ptr, sle_own, sle_s rfl, sle_i rfl, True.intro⟩, HLe.cons 26 rfl (HOLe.refl _) (HLe.cons 9 rfl (HOLe.row ?_) .nil)⟩
              · intro e he
                rcases List.mem_append.1 he with h | h
                · exact hlm e h
                · rw [List.mem_singleton.1 h]; exact ⟨by show key.length ≤ _; omega, by show List.length v1 ≤ _; omega⟩
              · rw [List.map_append]; rfl
          · rw [if_pos (by omega)] at hst
            subst hst
            have hbr : out = ([], 0, 3) := hbr
            subst hbr
            rcases hdd2 with hd0 | hd0 <;> subst hd0
            all_goals
              repeat' (first
                | (refine o_calm rfl TtOk rfl rfl rfl hadd (fun _ => ?_); rw [hkey])
                | refine Awp.seq ?_
                | refine Awp.block ?_
                | refine Awp.region ?_
                | (refine Ops.nil ?_; show Awp _ _ _ _ _)
                | (refine Ops.nil ?_; show Exists _)
                | (refine Ops.nil ?_; show endK _ _ _ _ _)
                | (refine Awp.skip ?_; show Awp _ _ _ _ _)
                | (refine Awp.skip ?_; show endK _ _ _ _ _)
                | (refine Awp.skip ?_; show Exists _)
                | (refine Awp.exit ?_; show Awp _ _ _ _ _)
                | (refine Awp.exit ?_; show Exists _)
                | (refine Awp.exit ?_; show endK _ _ _ _ _)
                | (refine Awp.ret ?_; show endK _ _ _ _ _)
                | refine o_offT rfl rfl rfl (by first | exact .inl rfl | exact .inr rfl) ?_
                | refine o_offU rfl rfl rfl (by first | exact .inl rfl | exact .inr rfl) ?_
                | refine o_offF rfl rfl rfl (by first | exact .inl rfl | exact .inr rfl) ?_
                | (refine o_add rfl rfl rfl rfl ?_ ?_; omega)
                | refine o_len rfl TtOk rfl rfl rfl (fun _ => ?_)
                | refine o_lenOwn rfl TtOk rfl rfl rfl rfl (fun _ => ?_)
                | (refine o_calm rfl TtOk rfl rfl rfl ?_ (fun _ => ?_); first | exact True.intro | exact ⟨rfl, rfl, rfl, rfl⟩ | exact ⟨rfl, True.intro⟩ | exact ⟨rfl, rfl⟩ | exact ⟨rfl, rfl, rfl⟩ | exact rfl | exact ⟨fun h0 => by cases h0, rfl⟩ | exact (fun h0 => by cases h0) | exact ⟨rfl, by omega⟩ | exact ⟨Nat.succ_ne_zero _, rfl⟩ | omega)
                | refine o_alloc (d := 13) rfl TtOk rfl rfl rfl (fun b13 => ?_)
                | refine o_store TtOk rfl rfl rfl rfl rfl rfl rfl ⟨rfl, rfl⟩ rfl rfl rfl rfl rfl ?_
                | (refine o_calm rfl TtOk rfl rfl rfl ?_ (fun _ => ?_); (show List.length _ + List.length _ ≤ 9223372036854775807; (try simp only [List.length_append, List.length_cons, List.length_nil]); omega))
                | refine o_build TtOk rfl rfl rfl rfl rfl rfl (by repeat' (first | exact True.intro | exact rfl | refine ⟨?_, ?_⟩)) ?_
                | refine o_buildArr0 TtOk rfl rfl rfl rfl ?_
                | refine o_buildSlice TtOk rfl rfl rfl rfl rfl rfl rfl rfl rfl rfl rfl (by repeat' (first | exact True.intro | exact rfl | refine ⟨?_, ?_⟩)) (fun _ => ?_)
                | (refine o_append TtOk rfl rfl rfl rfl rfl rfl rfl rfl rfl (by first | exact True.intro | exact rfl) rfl rfl (fun _ => rfl) ?_ ?_ (fun _ => ?_); (simp only [List.length_map, List.length_cons, List.length_nil, List.length_append, List.length_take, List.length_drop]; omega); (simp only [List.length_map, List.length_cons, List.length_nil, List.length_append, List.length_take, List.length_drop]; omega))
                | (refine o_appendStr TtOk rfl rfl rfl rfl rfl rfl rfl rfl rfl (fun _ => rfl) ?_ (fun _ => ?_); (simp only [List.length_map, List.length_cons, List.length_nil, List.length_append, List.length_take, List.length_drop]; omega))
                | refine o_sliceCp TtOk rfl rfl rfl rfl rfl rfl ?_
                | (fail_if_success (refine o_isLit rfl (by first | exact .inl rfl | exact .inr rfl) ?_)); (refine o_splitP rfl rfl (fun hc => ?_) (fun hc => ?_) <;> try (exfalso; omega))
                | (fail_if_success (refine o_isLit rfl (by first | exact .inl rfl | exact .inr rfl) ?_)); (refine o_splitI rfl rfl (fun hc => ?_) (fun hc => ?_) <;> try (exfalso; omega))
                | (fail_if_success (refine o_isLit rfl (by first | exact .inl rfl | exact .inr rfl) ?_)); (refine o_splitN rfl rfl (fun hc => ?_) (fun hc => ?_) <;> try (exfalso; omega))
                | (fail_if_success (refine o_isLit rfl (by first | exact .inl rfl | exact .inr rfl) ?_)); (refine o_split rfl rfl (fun hc => ?_) (fun hc => ?_))
                | refine a_condT rfl ?_
                | refine a_condF rfl ?_
                | (refine a_condP rfl (fun hc => ?_) (fun hc => ?_)) <;> (try (exfalso; omega))
                | (refine a_condI rfl (fun hc => ?_) (fun hc => ?_)) <;> (try (exfalso; omega))
                | (refine a_condN rfl (fun hc => ?_) (fun hc => ?_)) <;> (try (exfalso; omega))
                | (refine Awp.cond rfl (fun hc => ?_) (fun hc => ?_))
                | (refine o_sliceStr TtOk rfl 0 n rfl rfl rfl bnd_none (bnd_some rfl rfl) (Nat.zero_le _) (by omega) ?_; rw [List.drop_zero])
                | (refine o_call0 rfl (hcm) ⟨SLe.of_eq rfl, SLe.of_eq rfl, True.intro⟩ rfl ?_; rintro _ _ ⟨rfl, rfl⟩; refine ⟨rfl, ?_⟩)
                | (refine o_callP rfl rfl rfl rfl (hN) ⟨sle_ptr, True.intro⟩ (HOLe.refl _) rfl rfl ?_; rintro _ _ ⟨rfl, rfl⟩; refine ⟨_, rfl, _, rfl, ?_⟩)
                | (refine o_callP rfl rfl rfl rfl (hT) ⟨sle_ptr, True.intro⟩ (HOLe.refl _) rfl rfl ?_; rintro _ _ ⟨rfl, rfl⟩; refine ⟨_, rfl, _, rfl, ?_⟩)
                | (refine o_callP rfl rfl rfl rfl (hF) ⟨sle_ptr, True.intro⟩ (HOLe.refl _) rfl rfl ?_; rintro _ _ ⟨rfl, rfl⟩; refine ⟨_, rfl, _, rfl, ?_⟩)
                | (refine o_callP rfl rfl rfl rfl (hT2) ⟨sle_ptr, True.intro⟩ (HOLe.refl _) rfl rfl ?_; rintro _ _ ⟨rfl, rfl⟩; refine ⟨_, rfl, _, rfl, ?_⟩)
                | (refine o_callP rfl rfl rfl rfl (hD) ⟨sle_ptr, True.intro⟩ (HOLe.refl _) rfl rfl ?_; rintro _ _ ⟨rfl, rfl⟩; refine ⟨_, rfl, _, rfl, ?_⟩))
            all_goals
              refine end_all [] [] (.tup [.sl 3 [], .i .i64 ((0 : Nat) : Int), .i .i64 3]) rfl ?_ ?_ (rle_tup3 (CLe.nilsl) (CLe.of_eq rfl) (CLe.of_eq rfl) rfl rfl rfl) .nil ⟨rfl, rfl⟩ _ (.inl rfl)
              · repeat' (first | exact True.intro | exact rfl | refine ⟨?_, ?_⟩)
              · exact ⟨trivial, trivial, trivial, trivial⟩
    · rw [hg] at hF hE
      rw [if_pos rfl] at hE
      rw [hE] at hst
      dsimp only at hst
      have hD := rdone_spec bN r3
      generalize hd : r3.done = d at hD hst
      by_cases hdd : d ≠ 0 ∧ d ≠ 3
      · rw [if_pos hdd] at hst
        subst hst
        have hbr : out = if RS.done r3 ≠ 0 then ([], 0, RS.done r3) else if checkN l ≠ 0 then ([], 0, checkN l) else (l, sz, 0) := hbr
        rw [hd, if_pos hdd.1] at hbr
        subst hbr
        obtain ⟨hd1, hd2⟩ := hdd
        repeat' (first
          | refine Awp.seq ?_
          | refine Awp.block ?_
          | refine Awp.region ?_
          | (refine Ops.nil ?_; show Awp _ _ _ _ _)
          | (refine Ops.nil ?_; show Exists _)
          | (refine Ops.nil ?_; show endK _ _ _ _ _)
          | (refine Awp.skip ?_; show Awp _ _ _ _ _)
          | (refine Awp.skip ?_; show endK _ _ _ _ _)
          | (refine Awp.skip ?_; show Exists _)
          | (refine Awp.exit ?_; show Awp _ _ _ _ _)
          | (refine Awp.exit ?_; show Exists _)
          | (refine Awp.exit ?_; show endK _ _ _ _ _)
          | (refine Awp.ret ?_; show endK _ _ _ _ _)
          | refine o_offT rfl rfl rfl (by first | exact .inl rfl | exact .inr rfl) ?_
          | refine o_offU rfl rfl rfl (by first | exact .inl rfl | exact .inr rfl) ?_
          | refine o_offF rfl rfl rfl (by first | exact .inl rfl | exact .inr rfl) ?_
          | (refine o_add rfl rfl rfl rfl ?_ ?_; omega)
          | refine o_len rfl TtOk rfl rfl rfl (fun _ => ?_)
          | refine o_lenOwn rfl TtOk rfl rfl rfl rfl (fun _ => ?_)
          | (refine o_calm rfl TtOk rfl rfl rfl ?_ (fun _ => ?_); first | exact True.intro | exact ⟨rfl, rfl, rfl, rfl⟩ | exact ⟨rfl, True.intro⟩ | exact ⟨rfl, rfl⟩ | exact ⟨rfl, rfl, rfl⟩ | exact rfl | exact ⟨fun h0 => by cases h0, rfl⟩ | exact (fun h0 => by cases h0) | exact ⟨rfl, by omega⟩ | exact ⟨Nat.succ_ne_zero _, rfl⟩ | omega)
          | refine o_alloc (d := 13) rfl TtOk rfl rfl rfl (fun b13 => ?_)
          | refine o_store TtOk rfl rfl rfl rfl rfl rfl rfl ⟨rfl, rfl⟩ rfl rfl rfl rfl rfl ?_
          | (refine o_calm rfl TtOk rfl rfl rfl ?_ (fun _ => ?_); (show List.length _ + List.length _ ≤ 9223372036854775807; (try simp only [List.length_append, List.length_cons, List.length_nil]); omega))
          | refine o_build TtOk rfl rfl rfl rfl rfl rfl (by repeat' (first | exact True.intro | exact rfl | refine ⟨?_, ?_⟩)) ?_
          | refine o_buildArr0 TtOk rfl rfl rfl rfl ?_
          | refine o_buildSlice TtOk rfl rfl rfl rfl rfl rfl rfl rfl rfl rfl rfl (by repeat' (first | exact True.intro | exact rfl | refine ⟨?_, ?_⟩)) (fun _ => ?_)
          | (refine o_append TtOk rfl rfl rfl rfl rfl rfl rfl rfl rfl (by first | exact True.intro | exact rfl) rfl rfl (fun _ => rfl) ?_ ?_ (fun _ => ?_); (simp only [List.length_map, List.length_cons, List.length_nil, List.length_append, List.length_take, List.length_drop]; omega); (simp only [List.length_map, List.length_cons, List.length_nil, List.length_append, List.length_take, List.length_drop]; omega))
          | (refine o_appendStr TtOk rfl rfl rfl rfl rfl rfl rfl rfl rfl (fun _ => rfl) ?_ (fun _ => ?_); (simp only [List.length_map, List.length_cons, List.length_nil, List.length_append, List.length_take, List.length_drop]; omega))
          | refine o_sliceCp TtOk rfl rfl rfl rfl rfl rfl ?_
          | (fail_if_success (refine o_isLit rfl (by first | exact .inl rfl | exact .inr rfl) ?_)); (refine o_splitP rfl rfl (fun hc => ?_) (fun hc => ?_) <;> try (exfalso; omega))
          | (fail_if_success (refine o_isLit rfl (by first | exact .inl rfl | exact .inr rfl) ?_)); (refine o_splitI rfl rfl (fun hc => ?_) (fun hc => ?_) <;> try (exfalso; omega))
          | (fail_if_success (refine o_isLit rfl (by first | exact .inl rfl | exact .inr rfl) ?_)); (refine o_splitN rfl rfl (fun hc => ?_) (fun hc => ?_) <;> try (exfalso; omega))
          | (fail_if_success (refine o_isLit rfl (by first | exact .inl rfl | exact .inr rfl) ?_)); (refine o_split rfl rfl (fun hc => ?_) (fun hc => ?_))
          | refine a_condT rfl ?_
          | refine a_condF rfl ?_
          | (refine a_condP rfl (fun hc => ?_) (fun hc => ?_)) <;> (try (exfalso; omega))
          | (refine a_condI rfl (fun hc => ?_) (fun hc => ?_)) <;> (try (exfalso; omega))
          | (refine a_condN rfl (fun hc => ?_) (fun hc => ?_)) <;> (try (exfalso; omega))
          | (refine Awp.cond rfl (fun hc => ?_) (fun hc => ?_))
          | (refine o_callP rfl rfl rfl rfl (hN) ⟨sle_ptr, True.intro⟩ (HOLe.refl _) rfl rfl ?_; rintro _ _ ⟨rfl, rfl⟩; refine ⟨_, rfl, _, rfl, ?_⟩)
          | (refine o_callP rfl rfl rfl rfl (hT) ⟨sle_ptr, True.intro⟩ (HOLe.refl _) rfl rfl ?_; rintro _ _ ⟨rfl, rfl⟩; refine ⟨_, rfl, _, rfl, ?_⟩)
          | (refine o_callP rfl rfl rfl rfl (hF) ⟨sle_ptr, True.intro⟩ (HOLe.refl _) rfl rfl ?_; rintro _ _ ⟨rfl, rfl⟩; refine ⟨_, rfl, _, rfl, ?_⟩)
          | (refine o_callP rfl rfl rfl rfl (hD) ⟨sle_ptr, True.intro⟩ (HOLe.refl _) rfl rfl ?_; rintro _ _ ⟨rfl, rfl⟩; refine ⟨_, rfl, _, rfl, ?_⟩))
        refine end_all [] [] (.tup [.sl 3 [], .i .i64 ((0 : Nat) : Int), .i .i64 d]) rfl ?_ ?_ (rle_tup3 (CLe.nilsl) (CLe.of_eq rfl) (CLe.of_eq rfl) rfl rfl rfl) .nil ⟨rfl, rfl⟩ _ (.inl rfl)
        · repeat' (first | exact True.intro | exact rfl | refine ⟨?_, ?_⟩)
        · exact ⟨trivial, trivial, trivial, trivial⟩
      · rw [if_neg hdd] at hst
        have hdd2 : d = 0 ∨ d = 3 := by omega
        clear hdd
        by_cases hn : last.length < n
        · rw [if_pos hn] at hst
          subst hst
          have hbr : out = ([], 0, 3) := hbr
          subst hbr
          rcases hdd2 with hd0 | hd0 <;> subst hd0
          all_goals
            repeat' (first
              | refine Awp.seq ?_
              | refine Awp.block ?_
              | refine Awp.region ?_
              | (refine Ops.nil ?_; show Awp _ _ _ _ _)
              | (refine Ops.nil ?_; show Exists _)
              | (refine Ops.nil ?_; show endK _ _ _ _ _)
              | (refine Awp.skip ?_; show Awp _ _ _ _ _)
              | (refine Awp.skip ?_; show endK _ _ _ _ _)
              | (refine Awp.skip ?_; show Exists _)
              | (refine Awp.exit ?_; show Awp _ _ _ _ _)
              | (refine Awp.exit ?_; show Exists _)
              | (refine Awp.exit ?_; show endK _ _ _ _ _)
              | (refine Awp.ret ?_; show endK _ _ _ _ _)
              | refine o_offT rfl rfl rfl (by first | exact .inl rfl | exact .inr rfl) ?_
              | refine o_offU rfl rfl rfl (by first | exact .inl rfl | exact .inr rfl) ?_
              | refine o_offF rfl rfl rfl (by first | exact .inl rfl | exact .inr rfl) ?_
              | (refine o_add rfl rfl rfl rfl ?_ ?_; omega)
              | refine o_len rfl TtOk rfl rfl rfl (fun _ => ?_)
              | refine o_lenOwn rfl TtOk rfl rfl rfl rfl (fun _ => ?_)
              | (refine o_calm rfl TtOk rfl rfl rfl ?_ (fun _ => ?_); first | exact True.intro | exact ⟨rfl, rfl, rfl, rfl⟩ | exact ⟨rfl, True.intro⟩ | exact ⟨rfl, rfl⟩ | exact ⟨rfl, rfl, rfl⟩ | exact rfl | exact ⟨fun h0 => by cases h0, rfl⟩ | exact (fun h0 => by cases h0) | exact ⟨rfl, by omega⟩ | exact ⟨Nat.succ_ne_zero _, rfl⟩ | omega)
              | refine o_alloc (d := 13) rfl TtOk rfl rfl rfl (fun b13 => ?_)
              | refine o_store TtOk rfl rfl rfl rfl rfl rfl rfl ⟨rfl, rfl⟩ rfl rfl rfl rfl rfl ?_
              | (refine o_calm rfl TtOk rfl rfl rfl ?_ (fun _ => ?_); (show List.length _ + List.length _ ≤ 9223372036854775807; (try simp only [List.length_append, List.length_cons, List.length_nil]); omega))
              | refine o_build TtOk rfl rfl rfl rfl rfl rfl (by repeat' (first | exact True.intro | exact rfl | refine ⟨?_, ?_⟩)) ?_
              | refine o_buildArr0 TtOk rfl rfl rfl rfl ?_
              | refine o_buildSlice TtOk rfl rfl rfl rfl rfl rfl rfl rfl rfl rfl rfl (by repeat' (first | exact True.intro | exact rfl | refine ⟨?_, ?_⟩)) (fun _ => ?_)
              | (refine o_append TtOk rfl rfl rfl rfl rfl rfl rfl rfl rfl (by first | exact True.intro | exact rfl) rfl rfl (fun _ => rfl) ?_ ?_ (fun _ => ?_); (simp only [List.length_map, List.length_cons, List.length_nil, List.length_append, List.length_take, List.length_drop]; omega); (simp only [List.length_map, List.length_cons, List.length_nil, List.length_append, List.length_take, List.length_drop]; omega))
              | (refine o_appendStr TtOk rfl rfl rfl rfl rfl rfl rfl rfl rfl (fun _ => rfl) ?_ (fun _ => ?_); (simp only [List.length_map, List.length_cons, List.length_nil, List.length_append, List.length_take, List.length_drop]; omega))
              | refine o_sliceCp TtOk rfl rfl rfl rfl rfl rfl ?_
              | (fail_if_success (refine o_isLit rfl (by first | exact .inl rfl | exact .inr rfl) ?_)); (refine o_splitP rfl rfl (fun hc => ?_) (fun hc => ?_) <;> try (exfalso; omega))
              | (fail_if_success (refine o_isLit rfl (by first | exact .inl rfl | exact .inr rfl) ?_)); (refine o_splitI rfl rfl (fun hc => ?_) (fun hc => ?_) <;> try (exfalso; omega))
              | (fail_if_success (refine o_isLit rfl (by first | exact .inl rfl | exact .inr rfl) ?_)); (refine o_splitN rfl rfl (fun hc => ?_) (fun hc => ?_) <;> try (exfalso; omega))
              | (fail_if_success (refine o_isLit rfl (by first | exact .inl rfl | exact .inr rfl) ?_)); (refine o_split rfl rfl (fun hc => ?_) (fun hc => ?_))
              | refine a_condT rfl ?_
              | refine a_condF rfl ?_
              | (refine a_condP rfl (fun hc => ?_) (fun hc => ?_)) <;> (try (exfalso; omega))
              | (refine a_condI rfl (fun hc => ?_) (fun hc => ?_)) <;> (try (exfalso; omega))
              | (refine a_condN rfl (fun hc => ?_) (fun hc => ?_)) <;> (try (exfalso; omega))
              | (refine Awp.cond rfl (fun hc => ?_) (fun hc => ?_))
              | (refine o_callP rfl rfl rfl rfl (hN) ⟨sle_ptr, True.intro⟩ (HOLe.refl _) rfl rfl ?_; rintro _ _ ⟨rfl, rfl⟩; refine ⟨_, rfl, _, rfl, ?_⟩)
              | (refine o_callP rfl rfl rfl rfl (hT) ⟨sle_ptr, True.intro⟩ (HOLe.refl _) rfl rfl ?_; rintro _ _ ⟨rfl, rfl⟩; refine ⟨_, rfl, _, rfl, ?_⟩)
              | (refine o_callP rfl rfl rfl rfl (hF) ⟨sle_ptr, True.intro⟩ (HOLe.refl _) rfl rfl ?_; rintro _ _ ⟨rfl, rfl⟩; refine ⟨_, rfl, _, rfl, ?_⟩)
              | (refine o_callP rfl rfl rfl rfl (hD) ⟨sle_ptr, True.intro⟩ (HOLe.refl _) rfl rfl ?_; rintro _ _ ⟨rfl, rfl⟩; refine ⟨_, rfl, _, rfl, ?_⟩))
          all_goals
            refine end_all [] [] (.tup [.sl 3 [], .i .i64 ((0 : Nat) : Int), .i .i64 3]) rfl ?_ ?_ (rle_tup3 (CLe.nilsl) (CLe.of_eq rfl) (CLe.of_eq rfl) rfl rfl rfl) .nil ⟨rfl, rfl⟩ _ (.inl rfl)
            · repeat' (first | exact True.intro | exact rfl | refine ⟨?_, ?_⟩)
            · exact ⟨trivial, trivial, trivial, trivial⟩
        · rw [if_neg hn] at hst
          have htk : (last.take n).length = n := by rw [List.length_take]; omega
          have hkl : (last.take n ++ t1).length = n + t1.length := by rw [List.length_append, htk]
          have hcm := shared_spec last (last.take n ++ t1) (by omega) (by omega)
          have hadd : (last.take n).length + t1.length ≤ 9223372036854775807 := by omega
          generalize hkey : last.take n ++ t1 = key at hst hcm hkl
          generalize cmn last key = cm at hst hcm
          by_cases hnc : n = cm
          · rw [if_neg (by omega)] at hst
            subst hnc
            rcases hdd2 with hd0 | hd0 <;> subst hd0
            all_goals
              repeat' (first
                | (refine o_calm rfl TtOk rfl rfl rfl hadd (fun _ => ?_); rw [hkey])
                | refine Awp.seq ?_
                | refine Awp.block ?_
                | refine Awp.region ?_
                | (refine Ops.nil ?_; show Awp _ _ _ _ _)
                | (refine Ops.nil ?_; show Exists _)
                | (refine Ops.nil ?_; show endK _ _ _ _ _)
                | (refine Awp.skip ?_; show Awp _ _ _ _ _)
                | (refine Awp.skip ?_; show endK _ _ _ _ _)
                | (refine Awp.skip ?_; show Exists _)
                | (refine Awp.exit ?_; show Awp _ _ _ _ _)
                | (refine Awp.exit ?_; show Exists _)
                | (refine Awp.exit ?_; show endK _ _ _ _ _)
                | (refine Awp.ret ?_; show endK _ _ _ _ _)
                | refine o_offT rfl rfl rfl (by first | exact .inl rfl | exact .inr rfl) ?_
                | refine o_offU rfl rfl rfl (by first | exact .inl rfl | exact .inr rfl) ?_
                | refine o_offF rfl rfl rfl (by first | exact .inl rfl | exact .inr rfl) ?_
                | (refine o_add rfl rfl rfl rfl ?_ ?_; omega)
                | refine o_len rfl TtOk rfl rfl rfl (fun _ => ?_)
                | refine o_lenOwn rfl TtOk rfl rfl rfl rfl (fun _ => ?_)
                | (refine o_calm rfl TtOk rfl rfl rfl ?_ (fun _ => ?_); first | exact True.intro | exact ⟨rfl, rfl, rfl, rfl⟩ | exact ⟨rfl, True.intro⟩ | exact ⟨rfl, rfl⟩ | exact ⟨rfl, rfl, rfl⟩ | exact rfl | exact ⟨fun h0 => by cases h0, rfl⟩ | exact (fun h0 => by cases h0) | exact ⟨rfl, by omega⟩ | exact ⟨Nat.succ_ne_zero _, rfl⟩ | omega)
                | refine o_alloc (d := 13) rfl TtOk rfl rfl rfl (fun b13 => ?_)
                | refine o_store TtOk rfl rfl rfl rfl rfl rfl rfl ⟨rfl, rfl⟩ rfl rfl rfl rfl rfl ?_
                | (refine o_calm rfl TtOk rfl rfl rfl ?_ (fun _ => ?_); (show List.length _ + List.length _ ≤ 9223372036854775807; (try simp only [List.length_append, List.length_cons, List.length_nil]); omega))
                | refine o_build TtOk rfl rfl rfl rfl rfl rfl (by repeat' (first | exact True.intro | exact rfl | refine ⟨?_, ?_⟩)) ?_
                | refine o_buildArr0 TtOk rfl rfl rfl rfl ?_
                | refine o_buildSlice TtOk rfl rfl rfl rfl rfl rfl rfl rfl rfl rfl rfl (by repeat' (first | exact True.intro | exact rfl | refine ⟨?_, ?_⟩)) (fun _ => ?_)
                | (refine o_append TtOk rfl rfl rfl rfl rfl rfl rfl rfl rfl (by first | exact True.intro | exact rfl) rfl rfl (fun _ => rfl) ?_ ?_ (fun _ => ?_); (simp only [List.length_map, List.length_cons, List.length_nil, List.length_append, List.length_take, List.length_drop]; omega); (simp only [List.length_map, List.length_cons, List.length_nil, List.length_append, List.length_take, List.length_drop]; omega))
                | (refine o_appendStr TtOk rfl rfl rfl rfl rfl rfl rfl rfl rfl (fun _ => rfl) ?_ (fun _ => ?_); (simp only [List.length_map, List.length_cons, List.length_nil, List.length_append, List.length_take, List.length_drop]; omega))
                | refine o_sliceCp TtOk rfl rfl rfl rfl rfl rfl ?_
                | (fail_if_success (refine o_isLit rfl (by first | exact .inl rfl | exact .inr rfl) ?_)); (refine o_splitP rfl rfl (fun hc => ?_) (fun hc => ?_) <;> try (exfalso; omega))
                | (fail_if_success (refine o_isLit rfl (by first | exact .inl rfl | exact .inr rfl) ?_)); (refine o_splitI rfl rfl (fun hc => ?_) (fun hc => ?_) <;> try (exfalso; omega))
                | (fail_if_success (refine o_isLit rfl (by first | exact .inl rfl | exact .inr rfl) ?_)); (refine o_splitN rfl rfl (fun hc => ?_) (fun hc => ?_) <;> try (exfalso; omega))
                | (fail_if_success (refine o_isLit rfl (by first | exact .inl rfl | exact .inr rfl) ?_)); (refine o_split rfl rfl (fun hc => ?_) (fun hc => ?_))
                | refine a_condT rfl ?_
                | refine a_condF rfl ?_
                | (refine a_condP rfl (fun hc => ?_) (fun hc => ?_)) <;> (try (exfalso; omega))
                | (refine a_condI rfl (fun hc => ?_) (fun hc => ?_)) <;> (try (exfalso; omega))
                | (refine a_condN rfl (fun hc => ?_) (fun hc => ?_)) <;> (try (exfalso; omega))
                | (refine Awp.cond rfl (fun hc => ?_) (fun hc => ?_))
                | (refine o_sliceStr TtOk rfl 0 n rfl rfl rfl bnd_none (bnd_some rfl rfl) (Nat.zero_le _) (by omega) ?_; rw [List.drop_zero])
                | (refine o_call0 rfl (hcm) ⟨SLe.of_eq rfl, SLe.of_eq rfl, True.intro⟩ rfl ?_; rintro _ _ ⟨rfl, rfl⟩; refine ⟨rfl, ?_⟩)
                | (refine o_callP rfl rfl rfl rfl (hN) ⟨sle_ptr, True.intro⟩ (HOLe.refl _) rfl rfl ?_; rintro _ _ ⟨rfl, rfl⟩; refine ⟨_, rfl, _, rfl, ?_⟩)
                | (refine o_callP rfl rfl rfl rfl (hT) ⟨sle_ptr, True.intro⟩ (HOLe.refl _) rfl rfl ?_; rintro _ _ ⟨rfl, rfl⟩; refine ⟨_, rfl, _, rfl, ?_⟩)
                | (refine o_callP rfl rfl rfl rfl (hF) ⟨sle_ptr, True.intro⟩ (HOLe.refl _) rfl rfl ?_; rintro _ _ ⟨rfl, rfl⟩; refine ⟨_, rfl, _, rfl, ?_⟩)
                | (refine o_callP rfl rfl rfl rfl (hD) ⟨sle_ptr, True.intro⟩ (HOLe.refl _) rfl rfl ?_; rintro _ _ ⟨rfl, rfl⟩; refine ⟨_, rfl, _, rfl, ?_⟩))
            all_goals
              refine ⟨(i + 1, r3, key, l ++ [⟨key, [], true⟩], _), [], ⟨by show i + 1 ≤ c; omega, hst.symm, ok3, by show key.length ≤ 65536 * (i + 1); omega, by show (l ++ [_]).length ≤ i + 1; rw [List.length_append, List.length_singleton]; omega, ?_⟩, by show c - (i + 1) < c - i; omega, rfl, ⟨sle_i (by show (i : Int) + 1 = ((i + 1 : Nat) : Int); omega), sle_i rfl, sle_ptr, sle_own, sle_s rfl, sle_i rfl, True.intro⟩, HLe.cons 26 rfl (HOLe.refl _) (HLe.cons 9 rfl (HOLe.row ?_) .nil)⟩
              · intro e he
                rcases List.mem_append.1 he with h | h
                · exact hlm e h
                · rw [List.mem_singleton.1 h]; exact ⟨by show key.length ≤ _; omega, by show List.length ([] : List UInt8) ≤ _; exact Nat.zero_le _⟩
              · rw [List.map_append]; rfl
          · rw [if_pos (by omega)] at hst
            subst hst
            have hbr : out = ([], 0, 3) := hbr
            subst hbr
            rcases hdd2 with hd0 | hd0 <;> subst hd0
            all_goals
              repeat' (first
                | (refine o_calm rfl TtOk rfl rfl rfl hadd (fun _ => ?_); rw [hkey])
                | refine Awp.seq ?_
                | refine Awp.block ?_
                | refine Awp.region ?_
                | (refine Ops.nil ?_; show Awp _ _ _ _ _)
                | (refine Ops.nil ?_; show Exists _)
                | (refine Ops.nil ?_; show endK _ _ _ _ _)
                | (refine Awp.skip ?_; show Awp _ _ _ _ _)
                | (refine Awp.skip ?_; show endK _ _ _ _ _)
                | (refine Awp.skip ?_; show Exists _)
                | (refine Awp.exit ?_; show Awp _ _ _ _ _)
                | (refine Awp.exit ?_; show Exists _)
                | (refine Awp.exit ?_; show endK _ _ _ _ _)
                | (refine Awp.ret ?_; show endK _ _ _ _ _)
                | refine o_offT rfl rfl rfl (by first | exact .inl rfl | exact .inr rfl) ?_
                | refine o_offU rfl rfl rfl (by first | exact .inl rfl | exact .inr rfl) ?_
                | refine o_offF rfl rfl rfl (by first | exact .inl rfl | exact .inr rfl) ?_
                | (refine o_add rfl rfl rfl rfl ?_ ?_; omega)
                | refine o_len rfl TtOk rfl rfl rfl (fun _ => ?_)
                | refine o_lenOwn rfl TtOk rfl rfl rfl rfl (fun _ => ?_)
                | (refine o_calm rfl TtOk rfl rfl rfl ?_ (fun _ => ?_); first | exact True.intro | exact ⟨rfl, rfl, rfl, rfl⟩ | exact ⟨rfl, True.intro⟩ | exact ⟨rfl, rfl⟩ | exact ⟨rfl, rfl, rfl⟩ | exact rfl | exact ⟨fun h0 => by cases h0, rfl⟩ | exact (fun h0 => by cases h0) | exact ⟨rfl, by omega⟩ | exact ⟨Nat.succ_ne_zero _, rfl⟩ | omega)
                | refine o_alloc (d := 13) rfl TtOk rfl rfl rfl (fun b13 => ?_)
                | refine o_store TtOk rfl rfl rfl rfl rfl rfl rfl ⟨rfl, rfl⟩ rfl rfl rfl rfl rfl ?_
                | (refine o_calm rfl TtOk rfl rfl rfl ?_ (fun _ => ?_); (show List.length _ + List.length _ ≤ 9223372036854775807; (try simp only [List.length_append, List.length_cons, List.length_nil]); omega))
                | refine o_build TtOk rfl rfl rfl rfl rfl rfl (by repeat' (first | exact True.intro | exact rfl | refine ⟨?_, ?_⟩)) ?_
                | refine o_buildArr0 TtOk rfl rfl rfl rfl ?_
                | refine o_buildSlice TtOk rfl rfl rfl rfl rfl rfl rfl rfl rfl rfl rfl (by repeat' (first | exact True.intro | exact rfl | refine ⟨?_, ?_⟩)) (fun _ => ?_)
                | (refine o_append TtOk rfl rfl rfl rfl rfl rfl rfl rfl rfl (by first | exact True.intro | exact rfl) rfl rfl (fun _ => rfl) ?_ ?_ (fun _ => ?_); (simp only [List.length_map, List.length_cons, List.length_nil, List.length_append, List.length_take, List.length_drop]; omega); (simp only [List.length_map, List.length_cons, List.length_nil, List.length_append, List.length_take, List.length_drop]; omega))
                | (refine o_appendStr TtOk rfl rfl rfl rfl rfl rfl rfl rfl rfl (fun _ => rfl) ?_ (fun _ => ?_); (simp only [List.length_map, List.length_cons, List.length_nil, List.length_append, List.length_take, List.length_drop]; omega))
                | refine o_sliceCp TtOk rfl rfl rfl rfl rfl rfl ?_
                | (fail_if_success (refine o_isLit rfl (by first | exact .inl rfl | exact .inr rfl) ?_)); (refine o_splitP rfl rfl (fun hc => ?_) (fun hc => ?_) <;> try (exfalso; omega))
                | (fail_if_success (refine o_isLit rfl (by first | exact .inl rfl | exact .inr rfl) ?_)); (refine o_splitI rfl rfl (fun hc => ?_) (fun hc => ?_) <;> try (exfalso; omega))
                | (fail_if_success (refine o_isLit rfl (by first | exact .inl rfl | exact .inr rfl) ?_)); (refine o_splitN rfl rfl (fun hc => ?_) (fun hc => ?_) <;> try (exfalso; omega))
                | (fail_if_success (refine o_isLit rfl (by first | exact .inl rfl | exact .inr rfl) ?_)); (refine o_split rfl rfl (fun hc => ?_) (fun hc => ?_))
                | refine a_condT rfl ?_
                | refine a_condF rfl ?_
                | (refine a_condP rfl (fun hc => ?_) (fun hc => ?_)) <;> (try (exfalso; omega))
                | (refine a_condI rfl (fun hc => ?_) (fun hc => ?_)) <;> (try (exfalso; omega))
                | (refine a_condN rfl (fun hc => ?_) (fun hc => ?_)) <;> (try (exfalso; omega))
                | (refine Awp.cond rfl (fun hc => ?_) (fun hc => ?_))
                | (refine o_sliceStr TtOk rfl 0 n rfl rfl rfl bnd_none (bnd_some rfl rfl) (Nat.zero_le _) (by omega) ?_; rw [List.drop_zero])
                | (refine o_call0 rfl (hcm) ⟨SLe.of_eq rfl, SLe.of_eq rfl, True.intro⟩ rfl ?_; rintro _ _ ⟨rfl, rfl⟩; refine ⟨rfl, ?_⟩)
                | (refine o_callP rfl rfl rfl rfl (hN) ⟨sle_ptr, True.intro⟩ (HOLe.refl _) rfl rfl ?_; rintro _ _ ⟨rfl, rfl⟩; refine ⟨_, rfl, _, rfl, ?_⟩)
                | (refine o_callP rfl rfl rfl rfl (hT) ⟨sle_ptr, True.intro⟩ (HOLe.refl _) rfl rfl ?_; rintro _ _ ⟨rfl, rfl⟩; refine ⟨_, rfl, _, rfl, ?_⟩)
                | (refine o_callP rfl rfl rfl rfl (hF) ⟨sle_ptr, True.intro⟩ (HOLe.refl _) rfl rfl ?_; rintro _ _ ⟨rfl, rfl⟩; refine ⟨_, rfl, _, rfl, ?_⟩)
                | (refine o_callP rfl rfl rfl rfl (hD) ⟨sle_ptr, True.intro⟩ (HOLe.refl _) rfl rfl ?_; rintro _ _ ⟨rfl, rfl⟩; refine ⟨_, rfl, _, rfl, ?_⟩))
            all_goals
              refine end_all [] [] (.tup [.sl 3 [], .i .i64 ((0 : Nat) : Int), .i .i64 3]) rfl ?_ ?_ (rle_tup3 (CLe.nilsl) (CLe.of_eq rfl) (CLe.of_eq rfl) rfl rfl rfl) .nil ⟨rfl, rfl⟩ _ (.inl rfl)
              · repeat' (first | exact True.intro | exact rfl | refine ⟨?_, ?_⟩)
              · exact ⟨trivial, trivial, trivial, trivial⟩
  · have hic2 : i = c := by omega
    subst hic2
    rw [Nat.sub_self] at hbl
    have hbl : some (r, l) = R := hbl
    subst hbl
    have hD := rdone_spec bN r
    generalize hd : r.done = d at hD
    dsimp only at hbr
    rw [hd] at hbr
    by_cases hd0 : d = 0
    · rw [if_neg (by omega)] at hbr
      subst hd0
      generalize checkN l = ck at hckl hbr
      by_cases hc0 : ck = 0
      · rw [if_neg (by omega)] at hbr
        subst hbr; subst hc0
        repeat' (first
          | refine Awp.seq ?_
          | refine Awp.block ?_
          | refine Awp.region ?_
          | (refine Ops.nil ?_; show Awp _ _ _ _ _)
          | (refine Ops.nil ?_; show Exists _)
          | (refine Ops.nil ?_; show endK _ _ _ _ _)
          | (refine Awp.skip ?_; show Awp _ _ _ _ _)
          | (refine Awp.skip ?_; show endK _ _ _ _ _)
          | (refine Awp.skip ?_; show Exists _)
          | (refine Awp.exit ?_; show Awp _ _ _ _ _)
          | (refine Awp.exit ?_; show Exists _)
          | (refine Awp.exit ?_; show endK _ _ _ _ _)
          | (refine Awp.ret ?_; show endK _ _ _ _ _)
          | refine o_offT rfl rfl rfl (by first | exact .inl rfl | exact .inr rfl) ?_
          | refine o_offU rfl rfl rfl (by first | exact .inl rfl | exact .inr rfl) ?_
          | refine o_offF rfl rfl rfl (by first | exact .inl rfl | exact .inr rfl) ?_
          | (refine o_add rfl rfl rfl rfl ?_ ?_; omega)
          | refine o_len rfl TtOk rfl rfl rfl (fun _ => ?_)
          | refine o_lenOwn rfl TtOk rfl rfl rfl rfl (fun _ => ?_)
          | (refine o_calm rfl TtOk rfl rfl rfl ?_ (fun _ => ?_); first | exact True.intro | exact ⟨rfl, rfl, rfl, rfl⟩ | exact ⟨rfl, True.intro⟩ | exact ⟨rfl, rfl⟩ | exact ⟨rfl, rfl, rfl⟩ | exact rfl | exact ⟨fun h0 => by cases h0, rfl⟩ | exact (fun h0 => by cases h0) | exact ⟨rfl, by omega⟩ | exact ⟨Nat.succ_ne_zero _, rfl⟩ | omega)
          | refine o_alloc (d := 13) rfl TtOk rfl rfl rfl (fun b13 => ?_)
          | refine o_store TtOk rfl rfl rfl rfl rfl rfl rfl ⟨rfl, rfl⟩ rfl rfl rfl rfl rfl ?_
          | (refine o_calm rfl TtOk rfl rfl rfl ?_ (fun _ => ?_); (show List.length _ + List.length _ ≤ 9223372036854775807; (try simp only [List.length_append, List.length_cons, List.length_nil]); omega))
          | refine o_build TtOk rfl rfl rfl rfl rfl rfl (by repeat' (first | exact True.intro | exact rfl | refine ⟨?_, ?_⟩)) ?_
          | refine o_buildArr0 TtOk rfl rfl rfl rfl ?_
          | refine o_buildSlice TtOk rfl rfl rfl rfl rfl rfl rfl rfl rfl rfl rfl (by repeat' (first | exact True.intro | exact rfl | refine ⟨?_, ?_⟩)) (fun _ => ?_)
          | (refine o_append TtOk rfl rfl rfl rfl rfl rfl rfl rfl rfl (by first | exact True.intro | exact rfl) rfl rfl (fun _ => rfl) ?_ ?_ (fun _ => ?_); (simp only [List.length_map, List.length_cons, List.length_nil, List.length_append, List.length_take, List.length_drop]; omega); (simp only [List.length_map, List.length_cons, List.length_nil, List.length_append, List.length_take, List.length_drop]; omega))
          | (refine o_appendStr TtOk rfl rfl rfl rfl rfl rfl rfl rfl rfl (fun _ => rfl) ?_ (fun _ => ?_); (simp only [List.length_map, List.length_cons, List.length_nil, List.length_append, List.length_take, List.length_drop]; omega))
          | refine o_sliceCp TtOk rfl rfl rfl rfl rfl rfl ?_
          | (fail_if_success (refine o_isLit rfl (by first | exact .inl rfl | exact .inr rfl) ?_)); (refine o_splitP rfl rfl (fun hc => ?_) (fun hc => ?_) <;> try (exfalso; omega))
          | (fail_if_success (refine o_isLit rfl (by first | exact .inl rfl | exact .inr rfl) ?_)); (refine o_splitI rfl rfl (fun hc => ?_) (fun hc => ?_) <;> try (exfalso; omega))
          | (fail_if_success (refine o_isLit rfl (by first | exact .inl rfl | exact .inr rfl) ?_)); (refine o_splitN rfl rfl (fun hc => ?_) (fun hc => ?_) <;> try (exfalso; omega))
          | (fail_if_success (refine o_isLit rfl (by first | exact .inl rfl | exact .inr rfl) ?_)); (refine o_split rfl rfl (fun hc => ?_) (fun hc => ?_))
          | refine a_condT rfl ?_
          | refine a_condF rfl ?_
          | (refine a_condP rfl (fun hc => ?_) (fun hc => ?_)) <;> (try (exfalso; omega))
          | (refine a_condI rfl (fun hc => ?_) (fun hc => ?_)) <;> (try (exfalso; omega))
          | (refine a_condN rfl (fun hc => ?_) (fun hc => ?_)) <;> (try (exfalso; omega))
          | (refine Awp.cond rfl (fun hc => ?_) (fun hc => ?_))
          | (refine o_call0 rfl (hckl) ⟨SLe.of_eq rfl, True.intro⟩ rfl ?_; rintro _ _ ⟨rfl, rfl⟩; refine ⟨rfl, ?_⟩)
          | (refine o_callP rfl rfl rfl rfl (hD) ⟨sle_ptr, True.intro⟩ (HOLe.refl _) rfl rfl ?_; rintro _ _ ⟨rfl, rfl⟩; refine ⟨_, rfl, _, rfl, ?_⟩))
        refine Ops.weaken [9] (S' := ⟨87, [(80, .sl 3 (l.map eA)), (9, .sl 3 (l.map eA)), (6, .i .i64 sz)], []⟩) ⟨rfl, ⟨SLe.of_cle (CLe.fz (.head _)) rfl, SLe.of_cle (CLe.fz (.head _)) rfl, sle_i rfl, True.intro⟩, .nil⟩ ?_
        repeat' (first
          | refine Awp.seq ?_
          | refine Awp.block ?_
          | refine Awp.region ?_
          | (refine Ops.nil ?_; show Awp _ _ _ _ _)
          | (refine Ops.nil ?_; show Exists _)
          | (refine Ops.nil ?_; show endK _ _ _ _ _)
          | (refine Awp.skip ?_; show Awp _ _ _ _ _)
          | (refine Awp.skip ?_; show endK _ _ _ _ _)
          | (refine Awp.skip ?_; show Exists _)
          | (refine Awp.exit ?_; show Awp _ _ _ _ _)
          | (refine Awp.exit ?_; show Exists _)
          | (refine Awp.exit ?_; show endK _ _ _ _ _)
          | (refine Awp.ret ?_; show endK _ _ _ _ _)
          | refine o_offT rfl rfl rfl (by first | exact .inl rfl | exact .inr rfl) ?_
          | refine o_offU rfl rfl rfl (by first | exact .inl rfl | exact .inr rfl) ?_
          | refine o_offF rfl rfl rfl (by first | exact .inl rfl | exact .inr rfl) ?_
          | (refine o_add rfl rfl rfl rfl ?_ ?_; omega)
          | refine o_len rfl TtOk rfl rfl rfl (fun _ => ?_)
          | refine o_lenOwn rfl TtOk rfl rfl rfl rfl (fun _ => ?_)
          | (refine o_calm rfl TtOk rfl rfl rfl ?_ (fun _ => ?_); first | exact True.intro | exact ⟨rfl, rfl, rfl, rfl⟩ | exact ⟨rfl, True.intro⟩ | exact ⟨rfl, rfl⟩ | exact ⟨rfl, rfl, rfl⟩ | exact rfl | exact ⟨fun h0 => by cases h0, rfl⟩ | exact (fun h0 => by cases h0) | exact ⟨rfl, by omega⟩ | exact ⟨Nat.succ_ne_zero _, rfl⟩ | omega)
          | refine o_alloc (d := 13) rfl TtOk rfl rfl rfl (fun b13 => ?_)
          | refine o_store TtOk rfl rfl rfl rfl rfl rfl rfl ⟨rfl, rfl⟩ rfl rfl rfl rfl rfl ?_
          | (refine o_calm rfl TtOk rfl rfl rfl ?_ (fun _ => ?_); (show List.length _ + List.length _ ≤ 9223372036854775807; (try simp only [List.length_append, List.length_cons, List.length_nil]); omega))
          | refine o_build TtOk rfl rfl rfl rfl rfl rfl (by repeat' (first | exact True.intro | exact rfl | refine ⟨?_, ?_⟩)) ?_
          | refine o_buildArr0 TtOk rfl rfl rfl rfl ?_
          | refine o_buildSlice TtOk rfl rfl rfl rfl rfl rfl rfl rfl rfl rfl rfl (by repeat' (first | exact True.intro | exact rfl | refine ⟨?_, ?_⟩)) (fun _ => ?_)
          | (refine o_append TtOk rfl rfl rfl rfl rfl rfl rfl rfl rfl (by first | exact True.intro | exact rfl) rfl rfl (fun _ => rfl) ?_ ?_ (fun _ => ?_); (simp only [List.length_map, List.length_cons, List.length_nil, List.length_append, List.length_take, List.length_drop]; omega); (simp only [List.length_map, List.length_cons, List.length_nil, List.length_append, List.length_take, List.length_drop]; omega))
          | (refine o_appendStr TtOk rfl rfl rfl rfl rfl rfl rfl rfl rfl (fun _ => rfl) ?_ (fun _ => ?_); (simp only [List.length_map, List.length_cons, List.length_nil, List.length_append, List.length_take, List.length_drop]; omega))
          | refine o_sliceCp TtOk rfl rfl rfl rfl rfl rfl ?_
          | (fail_if_success (refine o_isLit rfl (by first | exact .inl rfl | exact .inr rfl) ?_)); (refine o_splitP rfl rfl (fun hc => ?_) (fun hc => ?_) <;> try (exfalso; omega))
          | (fail_if_success (refine o_isLit rfl (by first | exact .inl rfl | exact .inr rfl) ?_)); (refine o_splitI rfl rfl (fun hc => ?_) (fun hc => ?_) <;> try (exfalso; omega))
          | (fail_if_success (refine o_isLit rfl (by first | exact .inl rfl | exact .inr rfl) ?_)); (refine o_splitN rfl rfl (fun hc => ?_) (fun hc => ?_) <;> try (exfalso; omega))
          | (fail_if_success (refine o_isLit rfl (by first | exact .inl rfl | exact .inr rfl) ?_)); (refine o_split rfl rfl (fun hc => ?_) (fun hc => ?_))
          | refine a_condT rfl ?_
          | refine a_condF rfl ?_
          | (refine a_condP rfl (fun hc => ?_) (fun hc => ?_)) <;> (try (exfalso; omega))
          | (refine a_condI rfl (fun hc => ?_) (fun hc => ?_)) <;> (try (exfalso; omega))
          | (refine a_condN rfl (fun hc => ?_) (fun hc => ?_)) <;> (try (exfalso; omega))
          | (refine Awp.cond rfl (fun hc => ?_) (fun hc => ?_))
          | (refine o_call0 rfl (hckl) ⟨SLe.of_eq rfl, True.intro⟩ rfl ?_; rintro _ _ ⟨rfl, rfl⟩; refine ⟨rfl, ?_⟩))
        refine end_all [] [] (.tup [.sl 3 (l.map eA), .i .i64 (sz : Int), .i .i64 0]) rfl ?_ ?_ (rle_tup3 (CLe.of_eq rfl) (CLe.of_eq rfl) (CLe.of_eq rfl) rfl rfl rfl) .nil ⟨rfl, rfl⟩ _ (.inl rfl)
        · repeat' (first | exact True.intro | exact rfl | refine ⟨?_, ?_⟩)
        · exact ⟨trivial, trivial, trivial, trivial⟩
      · rw [if_pos hc0] at hbr
        subst hbr
        repeat' (first
          | refine Awp.seq ?_
          | refine Awp.block ?_
          | refine Awp.region ?_
          | (refine Ops.nil ?_; show Awp _ _ _ _ _)
          | (refine Ops.nil ?_; show Exists _)
          | (refine Ops.nil ?_; show endK _ _ _ _ _)
          | (refine Awp.skip ?_; show Awp _ _ _ _ _)
          | (refine Awp.skip ?_; show endK _ _ _ _ _)
          | (refine Awp.skip ?_; show Exists _)
          | (refine Awp.exit ?_; show Awp _ _ _ _ _)
          | (refine Awp.exit ?_; show Exists _)
          | (refine Awp.exit ?_; show endK _ _ _ _ _)
          | (refine Awp.ret ?_; show endK _ _ _ _ _)
          | refine o_offT rfl rfl rfl (by first | exact .inl rfl | exact .inr rfl) ?_
          | refine o_offU rfl rfl rfl (by first | exact .inl rfl | exact .inr rfl) ?_
          | refine o_offF rfl rfl rfl (by first | exact .inl rfl | exact .inr rfl) ?_
          | (refine o_add rfl rfl rfl rfl ?_ ?_; omega)
          | refine o_len rfl TtOk rfl rfl rfl (fun _ => ?_)
          | refine o_lenOwn rfl TtOk rfl rfl rfl rfl (fun _ => ?_)
          | (refine o_calm rfl TtOk rfl rfl rfl ?_ (fun _ => ?_); first | exact True.intro | exact ⟨rfl, rfl, rfl, rfl⟩ | exact ⟨rfl, True.intro⟩ | exact ⟨rfl, rfl⟩ | exact ⟨rfl, rfl, rfl⟩ | exact rfl | exact ⟨fun h0 => by cases h0, rfl⟩ | exact (fun h0 => by cases h0) | exact ⟨rfl, by omega⟩ | exact ⟨Nat.succ_ne_zero _, rfl⟩ | omega)
          | refine o_alloc (d := 13) rfl TtOk rfl rfl rfl (fun b13 => ?_)
          | refine o_store TtOk rfl rfl rfl rfl rfl rfl rfl ⟨rfl, rfl⟩ rfl rfl rfl rfl rfl ?_
          | (refine o_calm rfl TtOk rfl rfl rfl ?_ (fun _ => ?_); (show List.length _ + List.length _ ≤ 9223372036854775807; (try simp only [List.length_append, List.length_cons, List.length_nil]); omega))
          | refine o_build TtOk rfl rfl rfl rfl rfl rfl (by repeat' (first | exact True.intro | exact rfl | refine ⟨?_, ?_⟩)) ?_
          | refine o_buildArr0 TtOk rfl rfl rfl rfl ?_
          | refine o_buildSlice TtOk rfl rfl rfl rfl rfl rfl rfl rfl rfl rfl rfl (by repeat' (first | exact True.intro | exact rfl | refine ⟨?_, ?_⟩)) (fun _ => ?_)
          | (refine o_append TtOk rfl rfl rfl rfl rfl rfl rfl rfl rfl (by first | exact True.intro | exact rfl) rfl rfl (fun _ => rfl) ?_ ?_ (fun _ => ?_); (simp only [List.length_map, List.length_cons, List.length_nil, List.length_append, List.length_take, List.length_drop]; omega); (simp only [List.length_map, List.length_cons, List.length_nil, List.length_append, List.length_take, List.length_drop]; omega))
          | (refine o_appendStr TtOk rfl rfl rfl rfl rfl rfl rfl rfl rfl (fun _ => rfl) ?_ (fun _ => ?_); (simp only [List.length_map, List.length_cons, List.length_nil, List.length_append, List.length_take, List.length_drop]; omega))
          | refine o_sliceCp TtOk rfl rfl rfl rfl rfl rfl ?_
          | (fail_if_success (refine o_isLit rfl (by first | exact .inl rfl | exact .inr rfl) ?_)); (refine o_splitP rfl rfl (fun hc => ?_) (fun hc => ?_) <;> try (exfalso; omega))
          | (fail_if_success (refine o_isLit rfl (by first | exact .inl rfl | exact .inr rfl) ?_)); (refine o_splitI rfl rfl (fun hc => ?_) (fun hc => ?_) <;> try (exfalso; omega))
          | (fail_if_success (refine o_isLit rfl (by first | exact .inl rfl | exact .inr rfl) ?_)); (refine o_splitN rfl rfl (fun hc => ?_) (fun hc => ?_) <;> try (exfalso; omega))
          | (fail_if_success (refine o_isLit rfl (by first | exact .inl rfl | exact .inr rfl) ?_)); (refine o_split rfl rfl (fun hc => ?_) (fun hc => ?_))
          | refine a_condT rfl ?_
          | refine a_condF rfl ?_
          | (refine a_condP rfl (fun hc => ?_) (fun hc => ?_)) <;> (try (exfalso; omega))
          | (refine a_condI rfl (fun hc => ?_) (fun hc => ?_)) <;> (try (exfalso; omega))
          | (refine a_condN rfl (fun hc => ?_) (fun hc => ?_)) <;> (try (exfalso; omega))
          | (refine Awp.cond rfl (fun hc => ?_) (fun hc => ?_))
          | (refine o_call0 rfl (hckl) ⟨SLe.of_eq rfl, True.intro⟩ rfl ?_; rintro _ _ ⟨rfl, rfl⟩; refine ⟨rfl, ?_⟩)
          | (refine o_callP rfl rfl rfl rfl (hD) ⟨sle_ptr, True.intro⟩ (HOLe.refl _) rfl rfl ?_; rintro _ _ ⟨rfl, rfl⟩; refine ⟨_, rfl, _, rfl, ?_⟩))
        refine Ops.weaken [9] (S' := ⟨87, [(80, .sl 3 (l.map eA)), (9, .sl 3 (l.map eA)), (6, .i .i64 sz)], []⟩) ⟨rfl, ⟨SLe.of_cle (CLe.fz (.head _)) rfl, SLe.of_cle (CLe.fz (.head _)) rfl, sle_i rfl, True.intro⟩, .nil⟩ ?_
        repeat' (first
          | refine Awp.seq ?_
          | refine Awp.block ?_
          | refine Awp.region ?_
          | (refine Ops.nil ?_; show Awp _ _ _ _ _)
          | (refine Ops.nil ?_; show Exists _)
          | (refine Ops.nil ?_; show endK _ _ _ _ _)
          | (refine Awp.skip ?_; show Awp _ _ _ _ _)
          | (refine Awp.skip ?_; show endK _ _ _ _ _)
          | (refine Awp.skip ?_; show Exists _)
          | (refine Awp.exit ?_; show Awp _ _ _ _ _)
          | (refine Awp.exit ?_; show Exists _)
          | (refine Awp.exit ?_; show endK _ _ _ _ _)
          | (refine Awp.ret ?_; show endK _ _ _ _ _)
          | refine o_offT rfl rfl rfl (by first | exact .inl rfl | exact .inr rfl) ?_
          | refine o_offU rfl rfl rfl (by first | exact .inl rfl | exact .inr rfl) ?_
          | refine o_offF rfl rfl rfl (by first | exact .inl rfl | exact .inr rfl) ?_
          | (refine o_add rfl rfl rfl rfl ?_ ?_; omega)
          | refine o_len rfl TtOk rfl rfl rfl (fun _ => ?_)
          | refine o_lenOwn rfl TtOk rfl rfl rfl rfl (fun _ => ?_)
          | (refine o_calm rfl TtOk rfl rfl rfl ?_ (fun _ => ?_); first | exact True.intro | exact ⟨rfl, rfl, rfl, rfl⟩ | exact ⟨rfl, True.intro⟩ | exact ⟨rfl, rfl⟩ | exact ⟨rfl, rfl, rfl⟩ | exact rfl | exact ⟨fun h0 => by cases h0, rfl⟩ | exact (fun h0 => by cases h0) | exact ⟨rfl, by omega⟩ | exact ⟨Nat.succ_ne_zero _, rfl⟩ | omega)
          | refine o_alloc (d := 13) rfl TtOk rfl rfl rfl (fun b13 => ?_)
          | refine o_store TtOk rfl rfl rfl rfl rfl rfl rfl ⟨rfl, rfl⟩ rfl rfl rfl rfl rfl ?_
          | (refine o_calm rfl TtOk rfl rfl rfl ?_ (fun _ => ?_); (show List.length _ + List.length _ ≤ 9223372036854775807; (try simp only [List.length_append, List.length_cons, List.length_nil]); omega))
          | refine o_build TtOk rfl rfl rfl rfl rfl rfl (by repeat' (first | exact True.intro | exact rfl | refine ⟨?_, ?_⟩)) ?_
          | refine o_buildArr0 TtOk rfl rfl rfl rfl ?_
          | refine o_buildSlice TtOk rfl rfl rfl rfl rfl rfl rfl rfl rfl rfl rfl (by repeat' (first | exact True.intro | exact rfl | refine ⟨?_, ?_⟩)) (fun _ => ?_)
          | (refine o_append TtOk rfl rfl rfl rfl rfl rfl rfl rfl rfl (by first | exact True.intro | exact rfl) rfl rfl (fun _ => rfl) ?_ ?_ (fun _ => ?_); (simp only [List.length_map, List.length_cons, List.length_nil, List.length_append, List.length_take, List.length_drop]; omega); (simp only [List.length_map, List.length_cons, List.length_nil, List.length_append, List.length_take, List.length_drop]; omega))
          | (refine o_appendStr TtOk rfl rfl rfl rfl rfl rfl rfl rfl rfl (fun _ => rfl) ?_ (fun _ => ?_); (simp only [List.length_map, List.length_cons, List.length_nil, List.length_append, List.length_take, List.length_drop]; omega))
          | refine o_sliceCp TtOk rfl rfl rfl rfl rfl rfl ?_
          | (fail_if_success (refine o_isLit rfl (by first | exact .inl rfl | exact .inr rfl) ?_)); (refine o_splitP rfl rfl (fun hc => ?_) (fun hc => ?_) <;> try (exfalso; omega))
          | (fail_if_success (refine o_isLit rfl (by first | exact .inl rfl | exact .inr rfl) ?_)); (refine o_splitI rfl rfl (fun hc => ?_) (fun hc => ?_) <;> try (exfalso; omega))
          | (fail_if_success (refine o_isLit rfl (by first | exact .inl rfl | exact .inr rfl) ?_)); (refine o_splitN rfl rfl (fun hc => ?_) (fun hc => ?_) <;> try (exfalso; omega))
          | (fail_if_success (refine o_isLit rfl (by first | exact .inl rfl | exact .inr rfl) ?_)); (refine o_split rfl rfl (fun hc => ?_) (fun hc => ?_))
          | refine a_condT rfl ?_
          | refine a_condF rfl ?_
          | (refine a_condP rfl (fun hc => ?_) (fun hc => ?_)) <;> (try (exfalso; omega))
          | (refine a_condI rfl (fun hc => ?_) (fun hc => ?_)) <;> (try (exfalso; omega))
          | (refine a_condN rfl (fun hc => ?_) (fun hc => ?_)) <;> (try (exfalso; omega))
          | (refine Awp.cond rfl (fun hc => ?_) (fun hc => ?_))
          | (refine o_call0 rfl (hckl) ⟨SLe.of_eq rfl, True.intro⟩ rfl ?_; rintro _ _ ⟨rfl, rfl⟩; refine ⟨rfl, ?_⟩))
        refine end_all [] [] (.tup [.sl 3 [], .i .i64 ((0 : Nat) : Int), .i .i64 ck]) rfl ?_ ?_ (rle_tup3 (CLe.nilsl) (CLe.of_eq rfl) (CLe.of_eq rfl) rfl rfl rfl) .nil ⟨rfl, rfl⟩ _ (.inl rfl)
        · repeat' (first | exact True.intro | exact rfl | refine ⟨?_, ?_⟩)
        · exact ⟨trivial, trivial, trivial, trivial⟩
    · rw [if_pos hd0] at hbr
      subst hbr
      repeat' (first
        | refine Awp.seq ?_
        | refine Awp.block ?_
        | refine Awp.region ?_
        | (refine Ops.nil ?_; show Awp _ _ _ _ _)
        | (refine Ops.nil ?_; show Exists _)
        | (refine Ops.nil ?_; show endK _ _ _ _ _)
        | (refine Awp.skip ?_; show Awp _ _ _ _ _)
        | (refine Awp.skip ?_; show endK _ _ _ _ _)
        | (refine Awp.skip ?_; show Exists _)
        | (refine Awp.exit ?_; show Awp _ _ _ _ _)
        | (refine Awp.exit ?_; show Exists _)
        | (refine Awp.exit ?_; show endK _ _ _ _ _)
        | (refine Awp.ret ?_; show endK _ _ _ _ _)
        | refine o_offT rfl rfl rfl (by first | exact .inl rfl | exact .inr rfl) ?_
        | refine o_offU rfl rfl rfl (by first | exact .inl rfl | exact .inr rfl) ?_
        | refine o_offF rfl rfl rfl (by first | exact .inl rfl | exact .inr rfl) ?_
        | (refine o_add rfl rfl rfl rfl ?_ ?_; omega)
        | refine o_len rfl TtOk rfl rfl rfl (fun _ => ?_)
        | refine o_lenOwn rfl TtOk rfl rfl rfl rfl (fun _ => ?_)
        | (refine o_calm rfl TtOk rfl rfl rfl ?_ (fun _ => ?_); first | exact True.intro | exact ⟨rfl, rfl, rfl, rfl⟩ | exact ⟨rfl, True.intro⟩ | exact ⟨rfl, rfl⟩ | exact ⟨rfl, rfl, rfl⟩ | exact rfl | exact ⟨fun h0 => by cases h0, rfl⟩ | exact (fun h0 => by cases h0) | exact ⟨rfl, by omega⟩ | exact ⟨Nat.succ_ne_zero _, rfl⟩ | omega)
        | refine o_alloc (d := 13) rfl TtOk rfl rfl rfl (fun b13 => ?_)
        | refine o_store TtOk rfl rfl rfl rfl rfl rfl rfl ⟨rfl, rfl⟩ rfl rfl rfl rfl rfl ?_
        | (refine o_calm rfl TtOk rfl rfl rfl ?_ (fun _ => ?_); (show List.length _ + List.length _ ≤ 9223372036854775807; (try simp only [List.length_append, List.length_cons, List.length_nil]); omega))
        | refine o_build TtOk rfl rfl rfl rfl rfl rfl (by repeat' (first | exact True.intro | exact rfl | refine ⟨?_, ?_⟩)) ?_
        | refine o_buildArr0 TtOk rfl rfl rfl rfl ?_
        | refine o_buildSlice TtOk rfl rfl rfl rfl rfl rfl rfl rfl rfl rfl rfl (by repeat' (first | exact True.intro | exact rfl | refine ⟨?_, ?_⟩)) (fun _ => ?_)
        | (refine o_append TtOk rfl rfl rfl rfl rfl rfl rfl rfl rfl (by first | exact True.intro | exact rfl) rfl rfl (fun _ => rfl) ?_ ?_ (fun _ => ?_); (simp only [List.length_map, List.length_cons, List.length_nil, List.length_append, List.length_take, List.length_drop]; omega); (simp only [List.length_map, List.length_cons, List.length_nil, List.length_append, List.length_take, List.length_drop]; omega))
        | (refine o_appendStr TtOk rfl rfl rfl rfl rfl rfl rfl rfl rfl (fun _ => rfl) ?_ (fun _ => ?_); (simp only [List.length_map, List.length_cons, List.length_nil, List.length_append, List.length_take, List.length_drop]; omega))
        | refine o_sliceCp TtOk rfl rfl rfl rfl rfl rfl ?_
        | (fail_if_success (refine o_isLit rfl (by first | exact .inl rfl | exact .inr rfl) ?_)); (refine o_splitP rfl rfl (fun hc => ?_) (fun hc => ?_) <;> try (exfalso; omega))
        | (fail_if_success (refine o_isLit rfl (by first | exact .inl rfl | exact .inr rfl) ?_)); (refine o_splitI rfl rfl (fun hc => ?_) (fun hc => ?_) <;> try (exfalso; omega))
        | (fail_if_success (refine o_isLit rfl (by first | exact .inl rfl | exact .inr rfl) ?_)); (refine o_splitN rfl rfl (fun hc => ?_) (fun hc => ?_) <;> try (exfalso; omega))
        | (fail_if_success (refine o_isLit rfl (by first | exact .inl rfl | exact .inr rfl) ?_)); (refine o_split rfl rfl (fun hc => ?_) (fun hc => ?_))
        | refine a_condT rfl ?_
        | refine a_condF rfl ?_
        | (refine a_condP rfl (fun hc => ?_) (fun hc => ?_)) <;> (try (exfalso; omega))
        | (refine a_condI rfl (fun hc => ?_) (fun hc => ?_)) <;> (try (exfalso; omega))
        | (refine a_condN rfl (fun hc => ?_) (fun hc => ?_)) <;> (try (exfalso; omega))
        | (refine Awp.cond rfl (fun hc => ?_) (fun hc => ?_))
        | (refine o_callP rfl rfl rfl rfl (hD) ⟨sle_ptr, True.intro⟩ (HOLe.refl _) rfl rfl ?_; rintro _ _ ⟨rfl, rfl⟩; refine ⟨_, rfl, _, rfl, ?_⟩))
      refine end_all [] [] (.tup [.sl 3 [], .i .i64 ((0 : Nat) : Int), .i .i64 d]) rfl ?_ ?_ (rle_tup3 (CLe.nilsl) (CLe.of_eq rfl) (CLe.of_eq rfl) rfl rfl rfl) .nil ⟨rfl, rfl⟩ _ (.inl rfl)
      · repeat' (first | exact True.intro | exact rfl | refine ⟨?_, ?_⟩)
      · exact ⟨trivial, trivial, trivial, trivial⟩
end Go.Proofs.Ytapbbifcipemfaa
