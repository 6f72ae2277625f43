/- step.labels, top, Check by rules. -/
import Derived.Test.YtcmgpkibjdbonaaGreatC1Z
import Derived.Test.YtcmgpkibjdbonaaGreatR2Z
import Derived.Test.YtcmgpkibjdbonaaGreatG10Z
set_option maxHeartbeats 16000000
set_option maxRecDepth 100000
namespace Go.Proofs.YtcmgpkibjdbonaaGreat
open Go Go.RowKit
structure Stp where
  same : List Itm
  old : List Lef
  new : List Lef
def Stp.A (s : Stp) : AV := .agg [.sl 66 (s.same.map Itm.A), .sl 65 (s.old.map Lef.A), .sl 65 (s.new.map Lef.A)]
def Stp.R (s : Stp) : AV := .agg [.sl 66 (s.same.map Itm.R), .sl 65 (s.old.map Lef.A), .sl 65 (s.new.map Lef.A)]
structure Stp.ok (s : Stp) : Prop where
  same : ∀ x ∈ s.same, x.ok
  old : ∀ x ∈ s.old, x.ok
  new : ∀ x ∈ s.new, x.ok
/-- The items of parts and leaves, by rising prefixes. -/
def topU (same : List Itm) (l : List Lef) : List Itm := srtI (same ++ itmsL l)
/-- Does a step lead from one sum to another one: the error. -/
def stE (fr to : List UInt8) (s : Stp) : Int :=
  if 500 < s.old.length ∨ 500 < s.new.length then 2
  else if s.same.length = 1 ∧ s.old.length = 0 ∧ 0 < s.new.length then 3
  else if chkI (topU s.same s.old) ≠ 0 then chkI (topU s.same s.old)
  else if chkI (topU s.same s.new) ≠ 0 then chkI (topU s.same s.new)
  else if topS (topU s.same s.old) = fr ∧ topS (topU s.same s.new) = to then 0 else 11
theorem itmsL_len (l : List Lef) : (itmsL l).length = l.length := by unfold itmsL; rw [srtI_len, List.length_map]
theorem itmsL_ok {l : List Lef} (h : ∀ x ∈ l, x.ok) : ∀ x ∈ itmsL l, x.ok := fun x hx => by
  obtain ⟨y, hy, rfl⟩ := List.mem_map.1 (srtI_mem.1 hx)
  exact leafI_ok y (h y hy)
theorem topU_ok {same : List Itm} {l : List Lef} (hs : ∀ x ∈ same, x.ok) (h : ∀ x ∈ l, x.ok) : ∀ x ∈ topU same l, x.ok := fun x hx => by
  rcases List.mem_append.1 (srtI_mem.1 hx) with hx | hx
  · exact hs x hx
  · exact itmsL_ok h x hx
theorem topU_len (same : List Itm) (l : List Lef) : (topU same l).length = same.length + l.length := by unfold topU; rw [srtI_len, List.length_append, itmsL_len]
theorem fl_two {α : Type} (a b : List α) : [a, b].flatten = a ++ b := by simp
theorem fl_one {α : Type} (a : List α) : [a].flatten = a := by simp
theorem slabels_spec (l : List Lef) (hl : l.length ≤ 100000) : Spec Tryz.prog 49 [.sl 1 [.sl 65 (l.map Lef.A)]] [] (fun v os => v = .sl 32 ((l.map Lef.l).map labA) ∧ os = []) := by
  refine spec_of TtOk [] Tryz.func49 rfl Tryz.ntmps49 (by kernel_rfl) rfl rfl (fun C => ?_) rfl
  have h1 : Spec Tryz.prog 150 [.sl 1 [.sl 65 (l.map Lef.A)]] [] (fun v os => v = .sl 65 (l.map Lef.A) ∧ os = []) := by
    have := concatL_spec [l] (show 1 ≤ 100000 by decide) (by rw [fl_one]; exact hl)
    rw [fl_one] at this
    exact this
  repeat' (first | refine Awp.seq ?_ | refine Awp.block ?_ | refine Awp.region ?_ | (refine Ops.nil ?_; show Awp _ _ _ _ _) | refine o_len rfl TtOk rfl rfl rfl (fun _ => ?_) | (refine o_calm rfl TtOk rfl rfl rfl ?_ (fun _ => ?_); exact nd) | (refine o_call0 rfl (h1) ⟨SLe.of_eq rfl, True.intro⟩ rfl ?_; rintro _ _ ⟨rfl, rfl⟩; refine ⟨rfl, ?_⟩))
  refine Awp.loop (fun q : Nat × Value => ⟨20, [(9, .i .i64 q.1), (8, .i .i64 l.length), (7, .sl 65 (l.map Lef.A)), (3, .own 17 q.2)], [(17, .row q.2 44 32 (((l.take q.1).map Lef.l).map labA))]⟩) (fun q => q.1 ≤ l.length) (fun q => l.length - q.1) [] (0, .slice none 0 0) (Nat.zero_le _) ?_ ?_
  · exact ⟨rfl, ⟨sle_i rfl, sle_i rfl, sle_sl rfl, sle_nilown, True.intro⟩, HLe.none .nil⟩
  rintro ⟨i, v⟩ hi
  dsimp only at hi ⊢
  by_cases hlt : i < l.length
  · have hi1 : ((i : Int) + 1 = ((i + 1 : Nat) : Int)) := by omega
    have hst : (l.take (i + 1)).map Lef.l = (l.take i).map Lef.l ++ [l[i].l] := by rw [List.take_succ_eq_append_getElem hlt, List.map_append]; rfl
    have hln : ((l.take i).map Lef.l).length ≤ 100000 := by rw [List.length_map, List.length_take]; omega
    clear h1
    generalize (l.take i).map Lef.l = a at *
    repeat' (first | refine Awp.seq ?_ | refine Awp.block ?_ | refine Awp.region ?_ | (refine Ops.nil ?_; show Awp _ _ _ _ _) | (refine Ops.nil ?_; show Exists _) | (refine Awp.skip ?_; show Awp _ _ _ _ _) | (refine o_add rfl rfl rfl rfl ?_ ?_; omega) | (refine o_calm rfl TtOk rfl rfl rfl ?_ (fun _ => ?_); exact nd) | refine o_alloc (d := 5) rfl TtOk rfl rfl rfl (fun b5 => ?_) | refine o_store TtOk rfl rfl rfl rfl rfl rfl rfl ⟨rfl, rfl⟩ rfl rfl rfl rfl rfl ?_ | (refine o_index rfl TtOk rfl rfl rfl rfl rfl rfl ?_ (getq_nat ?_) ?_; omega; omega) | refine o_buildSlice TtOk rfl rfl rfl rfl rfl rfl rfl rfl rfl rfl rfl (by repeat' (first | exact True.intro | exact rfl | refine ⟨?_, ?_⟩)) (fun _ => ?_) | (refine o_append TtOk rfl rfl rfl rfl rfl rfl rfl rfl rfl (by first | exact True.intro | exact rfl) rfl rfl (fun _ => rfl) ?_ ?_ (fun _ => ?_); ((repeat' (first | rw [List.length_append] | rw [List.length_map] | rw [List.length_cons] | rw [List.length_nil] | rw [List.length_take] | rw [List.length_drop])) <;> omega); ((repeat' (first | rw [List.length_append] | rw [List.length_map] | rw [List.length_cons] | rw [List.length_nil] | rw [List.length_take] | rw [List.length_drop])) <;> omega)) | (refine a_condP rfl (fun hc => ?_) (fun hc => ?_)) <;> (try (exfalso; omega)))
    all_goals exact ⟨(i + 1, _), [], hlt, by show l.length - (i + 1) < l.length - i; omega, rfl, ⟨sle_i hi1, sle_i rfl, sle_sl rfl, sle_own, True.intro⟩, HLe.cons 17 rfl (HOLe.row (by rw [hst, List.map_append]; rfl)) .nil⟩
  · have hie : i = l.length := by omega
    subst hie
    rw [List.take_length]
    repeat' (first | refine Awp.seq ?_ | refine Awp.region ?_ | (refine Ops.nil ?_; show Awp _ _ _ _ _) | (refine Awp.exit ?_; show Awp _ _ _ _ _) | (refine Awp.ret ?_; show endK _ _ _ _ _) | (refine o_calm rfl TtOk rfl rfl rfl ?_ (fun _ => ?_); exact nd) | (refine a_condP rfl (fun hc => ?_) (fun hc => ?_)) <;> (try (exfalso; omega)))
    all_goals
      refine end_tmp rfl rfl rfl [17] [] (CLe.fz ?_) .nil ⟨rfl, rfl⟩ _ (.inl rfl)
      exact .head _
theorem top19_spec (same : List Itm) (l : List Lef) (hs : same.length ≤ 50000) (hl : l.length ≤ 50000) (hok : ∀ x ∈ same, x.ok) (hlo : ∀ x ∈ l, x.ok) : Spec Tryz.prog 58 [.sl 66 (same.map Itm.A), .sl 65 (l.map Lef.A)] [] (fun v os => v = .tup [labA (topS (topU same l)), .i .i64 (chkI (topU same l))] ∧ os = []) := by
  refine spec_of TtOk [] Tryz.func58 rfl Tryz.ntmps58 (by kernel_rfl) rfl rfl (fun C => ?_) rfl
  have h1 := of_spec l (by omega) hlo
  have hlen : (same ++ itmsL l).length ≤ 100000 := by rw [List.length_append, itmsL_len]; omega
  have h2 : Spec Tryz.prog 156 [.sl 1 [.sl 66 (same.map Itm.A), .sl 66 ((itmsL l).map Itm.A)]] [] (fun v os => v = .sl 66 ((same ++ itmsL l).map Itm.A) ∧ os = []) := by
    have := concatI_spec [same, itmsL l] (show 2 ≤ 100000 by decide) (by rw [fl_two]; exact hlen)
    rw [fl_two] at this
    exact this
  have h3 := sorted_spec (same ++ itmsL l) hlen
  have h4 := top_spec (topU same l) (by rw [topU_len]; omega) (topU_ok hok hlo)
  rw [show srtI (same ++ itmsL l) = topU same l from rfl] at h3
  have ht := topS_len (topU same l) (topU_ok hok hlo)
  generalize topS (topU same l) = ts at *
  generalize topU same l = U at *
  generalize same ++ itmsL l = V at *
  generalize itmsL l = I at *
  repeat' (first | (refine o_freezeR 9 9 rfl rfl rfl ?_) | refine Awp.seq ?_ | refine Awp.region ?_ | (refine Ops.nil ?_; show Awp _ _ _ _ _) | (refine Awp.ret ?_; show endK _ _ _ _ _) | (refine o_calm rfl TtOk rfl rfl rfl ?_ (fun _ => ?_); exact nd) | refine o_alloc (d := 4) rfl TtOk rfl rfl rfl (fun b4 => ?_) | refine o_store TtOk rfl rfl rfl rfl rfl rfl rfl ⟨rfl, rfl⟩ rfl rfl rfl rfl rfl ?_ | refine o_buildSlice (d := 9) TtOk rfl rfl rfl rfl rfl rfl rfl rfl rfl rfl rfl (by repeat' (first | exact True.intro | exact rfl | refine ⟨?_, ?_⟩)) (fun v9 => ?_) | (refine o_call0 rfl (h1) ⟨SLe.of_eq rfl, True.intro⟩ rfl ?_; rintro _ _ ⟨rfl, rfl⟩; refine ⟨rfl, ?_⟩) | (refine o_call0 rfl (h2) ⟨SLe.of_eq rfl, True.intro⟩ rfl ?_; rintro _ _ ⟨rfl, rfl⟩; refine ⟨rfl, ?_⟩) | (refine o_call0 rfl (h3) ⟨SLe.of_eq rfl, True.intro⟩ rfl ?_; rintro _ _ ⟨rfl, rfl⟩; refine ⟨rfl, ?_⟩) | (refine o_call0 rfl (h4) ⟨SLe.of_eq rfl, True.intro⟩ rfl ?_; rintro _ _ ⟨rfl, rfl⟩; refine ⟨rfl, ?_⟩))
  all_goals
    refine end_all [] [] (.tup [labA ts, .i .i64 (chkI U)]) rfl ?_ ?_ (rle_tup2 (CLe.of_eq rfl) (CLe.of_eq rfl) rfl rfl) .nil ⟨rfl, rfl⟩ _ (.inl rfl)
    · repeat' (first | exact True.intro | exact rfl | refine ⟨?_, ?_⟩)
    · exact ⟨trivial, trivial, trivial⟩
theorem scheck_spec (fr to : List UInt8) (s : Stp) (hs : s.same.length ≤ 50000) (ho : s.old.length ≤ 50000) (hn : s.new.length ≤ 50000) (hok : s.ok) (hf : fr.length = 32) (ht : to.length = 32) : Spec Tryz.prog 28 [labA fr, labA to, s.A] [] (fun v os => v = .i .i64 (stE fr to s) ∧ os = []) := by
  obtain ⟨same, old, new⟩ := s
  obtain ⟨o1, o2, o3⟩ := hok
  dsimp only at hs ho hn o1 o2 o3
  have h1 := top19_spec same old hs ho o1 o2
  have h2 := top19_spec same new hs hn o1 o3
  have hE : stE fr to ⟨same, old, new⟩ = (if 500 < old.length ∨ 500 < new.length then 2 else if same.length = 1 ∧ old.length = 0 ∧ 0 < new.length then 3 else if chkI (topU same old) ≠ 0 then chkI (topU same old) else if chkI (topU same new) ≠ 0 then chkI (topU same new) else if topS (topU same old) = fr ∧ topS (topU same new) = to then 0 else 11) := rfl
  rw [hE]
  clear hE
  show Spec Tryz.prog 28 [labA fr, labA to, .agg [.sl 66 (same.map Itm.A), .sl 65 (old.map Lef.A), .sl 65 (new.map Lef.A)]] [] _
  generalize topS (topU same old) = t1 at *
  generalize topS (topU same new) = t2 at *
  generalize chkI (topU same old) = c1 at *
  generalize chkI (topU same new) = c2 at *
  refine spec_of TtOk [] Tryz.func28 rfl Tryz.ntmps28 (by kernel_rfl) rfl rfl (fun C => ?_) rfl
  by_cases hb : 500 < old.length ∨ 500 < new.length
  · rw [if_pos hb]
    repeat' (first | refine Awp.seq ?_ | refine Awp.region ?_ | (refine Ops.nil ?_; show Awp _ _ _ _ _) | (refine Awp.ret ?_; show endK _ _ _ _ _) | refine o_noF rfl rfl rfl ?_ | refine o_len rfl TtOk rfl rfl rfl (fun _ => ?_) | (refine o_calm rfl TtOk rfl rfl rfl ?_ (fun _ => ?_); exact nd) | refine o_box (d := 3) rfl rfl rfl rfl (fun b3 => ?_) | refine o_box (d := 4) rfl rfl rfl rfl (fun b4 => ?_) | refine o_box (d := 5) rfl rfl rfl rfl (fun b5 => ?_) | (fail_if_success (refine o_isLit rfl (by first | exact .inl rfl | exact .inr rfl) ?_)); (refine o_splitP rfl rfl (fun hc => ?_) (fun hc => ?_) <;> try (exfalso; omega)) | refine a_condT rfl ?_ | (refine a_condP rfl (fun hc => ?_) (fun hc => ?_)) <;> (try (exfalso; omega)))
    all_goals exact end_tmp rfl rfl rfl [] [] (CLe.of_eq rfl) .nil ⟨rfl, rfl⟩ _ (.inl rfl)
  rw [if_neg hb]
  by_cases h3 : same.length = 1 ∧ old.length = 0 ∧ 0 < new.length
  · rw [if_pos h3]
    repeat' (first | refine Awp.seq ?_ | refine Awp.region ?_ | (refine Ops.nil ?_; show Awp _ _ _ _ _) | (refine Awp.skip ?_; show Awp _ _ _ _ _) | (refine Awp.ret ?_; show endK _ _ _ _ _) | refine o_len rfl TtOk rfl rfl rfl (fun _ => ?_) | (refine o_calm rfl TtOk rfl rfl rfl ?_ (fun _ => ?_); exact nd) | refine o_box (d := 3) rfl rfl rfl rfl (fun b3 => ?_) | refine o_box (d := 4) rfl rfl rfl rfl (fun b4 => ?_) | refine o_box (d := 5) rfl rfl rfl rfl (fun b5 => ?_) | (fail_if_success (refine o_isLit rfl (by first | exact .inl rfl | exact .inr rfl) ?_)); (refine o_splitP rfl rfl (fun hc => ?_) (fun hc => ?_) <;> try (exfalso; omega)) | (refine a_condP rfl (fun hc => ?_) (fun hc => ?_)) <;> (try (exfalso; omega)))
    all_goals exact end_tmp rfl rfl rfl [] [] (CLe.of_eq rfl) .nil ⟨rfl, rfl⟩ _ (.inl rfl)
  rw [if_neg h3]
  by_cases hc1 : c1 ≠ 0
  · rw [if_pos hc1]
    clear h2
    repeat' (first | refine Awp.seq ?_ | refine Awp.region ?_ | (refine Ops.nil ?_; show Awp _ _ _ _ _) | (refine Awp.skip ?_; show Awp _ _ _ _ _) | (refine Awp.ret ?_; show endK _ _ _ _ _) | refine o_noT rfl rfl rfl ?_ | refine o_len rfl TtOk rfl rfl rfl (fun _ => ?_) | (refine o_calm rfl TtOk rfl rfl rfl ?_ (fun _ => ?_); exact nd) | refine o_alloc (d := 7) rfl TtOk rfl rfl rfl (fun b7 => ?_) | refine o_box (d := 3) rfl rfl rfl rfl (fun b3 => ?_) | refine o_box (d := 4) rfl rfl rfl rfl (fun b4 => ?_) | refine o_box (d := 5) rfl rfl rfl rfl (fun b5 => ?_) | refine o_store TtOk rfl rfl rfl rfl rfl rfl rfl ⟨rfl, rfl⟩ rfl rfl rfl rfl rfl ?_ | (fail_if_success (refine o_isLit rfl (by first | exact .inl rfl | exact .inr rfl) ?_)); (refine o_splitP rfl rfl (fun hc => ?_) (fun hc => ?_) <;> try (exfalso; omega)) | refine a_condF rfl ?_ | (refine a_condP rfl (fun hc => ?_) (fun hc => ?_)) <;> (try (exfalso; omega)) | (refine a_condN rfl (fun hc => ?_) (fun hc => ?_)) <;> (try (exfalso; omega)) | (refine o_call0 rfl (h1) ⟨SLe.of_eq rfl, SLe.of_eq rfl, True.intro⟩ rfl ?_; rintro _ _ ⟨rfl, rfl⟩; refine ⟨rfl, ?_⟩))
    all_goals exact end_tmp rfl rfl rfl [] [] (CLe.of_eq rfl) .nil ⟨rfl, rfl⟩ _ (.inl rfl)
  rw [if_neg hc1]
  have hc1 := Decidable.not_not.1 hc1
  subst hc1
  by_cases hc2 : c2 ≠ 0
  · rw [if_pos hc2]
    repeat' (first | refine Awp.seq ?_ | refine Awp.region ?_ | (refine Ops.nil ?_; show Awp _ _ _ _ _) | (refine Awp.skip ?_; show Awp _ _ _ _ _) | (refine Awp.ret ?_; show endK _ _ _ _ _) | refine o_noT rfl rfl rfl ?_ | refine o_len rfl TtOk rfl rfl rfl (fun _ => ?_) | (refine o_calm rfl TtOk rfl rfl rfl ?_ (fun _ => ?_); exact nd) | refine o_alloc (d := 7) rfl TtOk rfl rfl rfl (fun b7 => ?_) | refine o_alloc (d := 9) rfl TtOk rfl rfl rfl (fun b9 => ?_) | refine o_box (d := 3) rfl rfl rfl rfl (fun b3 => ?_) | refine o_box (d := 4) rfl rfl rfl rfl (fun b4 => ?_) | refine o_box (d := 5) rfl rfl rfl rfl (fun b5 => ?_) | refine o_store TtOk rfl rfl rfl rfl rfl rfl rfl ⟨rfl, rfl⟩ rfl rfl rfl rfl rfl ?_ | (fail_if_success (refine o_isLit rfl (by first | exact .inl rfl | exact .inr rfl) ?_)); (refine o_splitP rfl rfl (fun hc => ?_) (fun hc => ?_) <;> try (exfalso; omega)) | refine a_condF rfl ?_ | (refine a_condP rfl (fun hc => ?_) (fun hc => ?_)) <;> (try (exfalso; omega)) | (refine a_condN rfl (fun hc => ?_) (fun hc => ?_)) <;> (try (exfalso; omega)) | (refine o_call0 rfl (h1) ⟨SLe.of_eq rfl, SLe.of_eq rfl, True.intro⟩ rfl ?_; rintro _ _ ⟨rfl, rfl⟩; refine ⟨rfl, ?_⟩) | (refine o_call0 rfl (h2) ⟨SLe.of_eq rfl, SLe.of_eq rfl, True.intro⟩ rfl ?_; rintro _ _ ⟨rfl, rfl⟩; refine ⟨rfl, ?_⟩))
    all_goals exact end_tmp rfl rfl rfl [] [] (CLe.of_eq rfl) .nil ⟨rfl, rfl⟩ _ (.inl rfl)
  rw [if_neg hc2]
  have hc2 := Decidable.not_not.1 hc2
  subst hc2
  have hx : (!(fr == fr)) = false := by rw [beq_self_eq_true]; rfl
  have hy : (!(to == to)) = false := by rw [beq_self_eq_true]; rfl
  by_cases e1 : t1 = fr
  · subst e1
    by_cases e2 : t2 = to
    · subst e2
      rw [if_pos ⟨rfl, rfl⟩]
      repeat' (first | refine Awp.seq ?_ | refine Awp.region ?_ | (refine Ops.nil ?_; show Awp _ _ _ _ _) | (refine Awp.skip ?_; show Awp _ _ _ _ _) | (refine Awp.ret ?_; show endK _ _ _ _ _) | refine o_noT rfl rfl rfl ?_ | refine o_len rfl TtOk rfl rfl rfl (fun _ => ?_) | (refine o_calm rfl TtOk rfl rfl rfl ?_ (fun _ => ?_); exact nd) | refine o_alloc (d := 7) rfl TtOk rfl rfl rfl (fun b7 => ?_) | refine o_alloc (d := 9) rfl TtOk rfl rfl rfl (fun b9 => ?_) | refine o_box (d := 3) rfl rfl rfl rfl (fun b3 => ?_) | refine o_box (d := 4) rfl rfl rfl rfl (fun b4 => ?_) | refine o_box (d := 5) rfl rfl rfl rfl (fun b5 => ?_) | refine o_store TtOk rfl rfl rfl rfl rfl rfl rfl ⟨rfl, rfl⟩ rfl rfl rfl rfl rfl ?_ | (fail_if_success (refine o_isLit rfl (by first | exact .inl rfl | exact .inr rfl) ?_)); (refine o_splitP rfl rfl (fun hc => ?_) (fun hc => ?_) <;> try (exfalso; omega)) | refine a_condF rfl ?_ | (refine a_condP rfl (fun hc => ?_) (fun hc => ?_)) <;> (try (exfalso; omega)) | (refine o_neArr8 TtOk rfl rfl rfl rfl rfl rfl (by kernel_rfl) ?_; first | rw [hx] | rw [hy]) | (refine o_call0 rfl (h1) ⟨SLe.of_eq rfl, SLe.of_eq rfl, True.intro⟩ rfl ?_; rintro _ _ ⟨rfl, rfl⟩; refine ⟨rfl, ?_⟩) | (refine o_call0 rfl (h2) ⟨SLe.of_eq rfl, SLe.of_eq rfl, True.intro⟩ rfl ?_; rintro _ _ ⟨rfl, rfl⟩; refine ⟨rfl, ?_⟩))
      all_goals exact end_tmp rfl rfl rfl [] [] (CLe.of_eq rfl) .nil ⟨rfl, rfl⟩ _ (.inl rfl)
    · rw [if_neg (fun h => e2 h.2)]
      have hz : (!(t2 == to)) = true := by rw [beq_eq_false_iff_ne.2 e2]; rfl
      repeat' (first | refine Awp.seq ?_ | refine Awp.region ?_ | (refine Ops.nil ?_; show Awp _ _ _ _ _) | (refine Awp.skip ?_; show Awp _ _ _ _ _) | (refine Awp.ret ?_; show endK _ _ _ _ _) | refine o_noT rfl rfl rfl ?_ | refine o_len rfl TtOk rfl rfl rfl (fun _ => ?_) | (refine o_calm rfl TtOk rfl rfl rfl ?_ (fun _ => ?_); exact nd) | refine o_alloc (d := 7) rfl TtOk rfl rfl rfl (fun b7 => ?_) | refine o_alloc (d := 9) rfl TtOk rfl rfl rfl (fun b9 => ?_) | refine o_box (d := 3) rfl rfl rfl rfl (fun b3 => ?_) | refine o_box (d := 4) rfl rfl rfl rfl (fun b4 => ?_) | refine o_box (d := 5) rfl rfl rfl rfl (fun b5 => ?_) | refine o_store TtOk rfl rfl rfl rfl rfl rfl rfl ⟨rfl, rfl⟩ rfl rfl rfl rfl rfl ?_ | (fail_if_success (refine o_isLit rfl (by first | exact .inl rfl | exact .inr rfl) ?_)); (refine o_splitP rfl rfl (fun hc => ?_) (fun hc => ?_) <;> try (exfalso; omega)) | refine a_condT rfl ?_ | refine a_condF rfl ?_ | (refine a_condP rfl (fun hc => ?_) (fun hc => ?_)) <;> (try (exfalso; omega)) | (refine o_neArr8 TtOk rfl rfl rfl rfl rfl rfl (by kernel_rfl) ?_; first | rw [hz] | rw [hx]) | (refine o_call0 rfl (h1) ⟨SLe.of_eq rfl, SLe.of_eq rfl, True.intro⟩ rfl ?_; rintro _ _ ⟨rfl, rfl⟩; refine ⟨rfl, ?_⟩) | (refine o_call0 rfl (h2) ⟨SLe.of_eq rfl, SLe.of_eq rfl, True.intro⟩ rfl ?_; rintro _ _ ⟨rfl, rfl⟩; refine ⟨rfl, ?_⟩))
      all_goals exact end_tmp rfl rfl rfl [] [] (CLe.of_eq rfl) .nil ⟨rfl, rfl⟩ _ (.inl rfl)
  · rw [if_neg (fun h => e1 h.1)]
    have hz : (!(t1 == fr)) = true := by rw [beq_eq_false_iff_ne.2 e1]; rfl
    repeat' (first | refine Awp.seq ?_ | refine Awp.region ?_ | (refine Ops.nil ?_; show Awp _ _ _ _ _) | (refine Awp.skip ?_; show Awp _ _ _ _ _) | (refine Awp.ret ?_; show endK _ _ _ _ _) | refine o_noT rfl rfl rfl ?_ | refine o_noF rfl rfl rfl ?_ | refine o_len rfl TtOk rfl rfl rfl (fun _ => ?_) | (refine o_calm rfl TtOk rfl rfl rfl ?_ (fun _ => ?_); exact nd) | refine o_alloc (d := 7) rfl TtOk rfl rfl rfl (fun b7 => ?_) | refine o_alloc (d := 9) rfl TtOk rfl rfl rfl (fun b9 => ?_) | refine o_box (d := 3) rfl rfl rfl rfl (fun b3 => ?_) | refine o_box (d := 4) rfl rfl rfl rfl (fun b4 => ?_) | refine o_box (d := 5) rfl rfl rfl rfl (fun b5 => ?_) | refine o_store TtOk rfl rfl rfl rfl rfl rfl rfl ⟨rfl, rfl⟩ rfl rfl rfl rfl rfl ?_ | (fail_if_success (refine o_isLit rfl (by first | exact .inl rfl | exact .inr rfl) ?_)); (refine o_splitP rfl rfl (fun hc => ?_) (fun hc => ?_) <;> try (exfalso; omega)) | refine a_condT rfl ?_ | refine a_condF rfl ?_ | (refine a_condP rfl (fun hc => ?_) (fun hc => ?_)) <;> (try (exfalso; omega)) | (refine o_neArr8 TtOk rfl rfl rfl rfl rfl rfl (by kernel_rfl) ?_; rw [hz]) | (refine o_call0 rfl (h1) ⟨SLe.of_eq rfl, SLe.of_eq rfl, True.intro⟩ rfl ?_; rintro _ _ ⟨rfl, rfl⟩; refine ⟨rfl, ?_⟩) | (refine o_call0 rfl (h2) ⟨SLe.of_eq rfl, SLe.of_eq rfl, True.intro⟩ rfl ?_; rintro _ _ ⟨rfl, rfl⟩; refine ⟨rfl, ?_⟩))
    all_goals exact end_tmp rfl rfl rfl [] [] (CLe.of_eq rfl) .nil ⟨rfl, rfl⟩ _ (.inl rfl)
end Go.Proofs.YtcmgpkibjdbonaaGreat
set_option maxHeartbeats 4000000
namespace Go.Proofs.YtcmgpkibjdbonaaGreat
open Go Go.RowKit
theorem short_filter {α : Type} {R : α → α → Prop} {p : α → Bool} (hn : ∀ x y, p x = true → p y = true → ¬ R x y) : ∀ {l : List α}, l.Pairwise R → (l.filter p).length ≤ 1 := by
  intro l h
  have h2 := h.filter p
  have h3 : ∀ x ∈ l.filter p, p x = true := fun x hx => (List.mem_filter.1 hx).2
  generalize l.filter p = q at h2 h3
  match q, h2, h3 with
  | [], _, _ => exact Nat.zero_le _
  | [x], _, _ => exact Nat.le_refl _
  | x :: y :: r, h2, h3 => exact absurd ((List.pairwise_cons.1 h2).1 y (by simp)) (hn x y (h3 x (by simp)) (h3 y (by simp)))
theorem perm_short {α : Type} {a b : List α} (h : a.Perm b) (hl : b.length ≤ 1) : a = b := by
  match b, hl with
  | [], _ => exact List.perm_nil.1 h
  | [x], _ => exact List.perm_singleton.1 h
theorem eqvI {x y : Itm} (h : eqv (ltCI ordI) x y = true) : x.l = y.l := by
  unfold eqv at h
  simp only [Bool.and_eq_true, Bool.not_eq_true'] at h
  have h1 : ¬ cmpS x.l y.l < 0 := of_decide_eq_false h.1
  have h2 : ¬ cmpS y.l x.l < 0 := of_decide_eq_false h.2
  rcases less_tri x.l y.l with k | k | k
  · exact absurd (cmpS_neg.2 k) h1
  · exact k
  · exact absurd (cmpS_neg.2 k) h2
/-- What rises when sorted is sorted to one list, in whatever order it came. -/
theorem srt_perm {a b : List Itm} (h : a.Perm b) (hr : RiseI (srtI b)) : srtI a = srtI b := by
  refine (sortS_of woI (sortS_srt woI b) ?_).symm
  refine CE.trans (fun z => ?_) (sortS_ce woI b)
  refine perm_short (h.filter _) ?_
  have hc : b.filter (eqv (ltCI ordI) z) = (srtI b).filter (eqv (ltCI ordI) z) := sortS_ce woI b z
  rw [hc]
  exact short_filter (fun x y hx hy hxy => by
    have e1 := eqvI hx
    have e2 := eqvI hy
    rw [← e1, ← e2, cmpS_eq] at hxy
    omega) hr
theorem itms_perm {a b : List Lef} (h : a.Perm b) (hc : chkI (itmsL b) = 0) : itmsL a = itmsL b := srt_perm (h.map leafI) (chkI_rise hc).2.1
theorem top_perm {a b : List Lef} (h : a.Perm b) : (chkI (itmsL a) = 0 ↔ chkI (itmsL b) = 0) ∧ topS (itmsL a) = topS (itmsL b) := by
  have h1 : chkI (itmsL a) = 0 ↔ chkI (itmsL b) = 0 := ⟨fun hc => by rw [itms_perm h.symm hc]; exact hc, fun hc => by rw [itms_perm h hc]; exact hc⟩
  refine ⟨h1, ?_⟩
  by_cases hc : chkI (itmsL b) = 0
  · rw [itms_perm h hc]
  · unfold topS
    rw [if_pos hc, if_pos (fun h => hc (h1.1 h))]
end Go.Proofs.YtcmgpkibjdbonaaGreat
set_option maxHeartbeats 4000000
namespace Go.Proofs.YtcmgpkibjdbonaaGreat
open Go Go.RowKit
def lo (d : Nat) (l : List Itm) : List Itm := l.filter (fun x => bitL x.l d == 0)
def hi (d : Nat) (l : List Itm) : List Itm := l.filter (fun x => !(bitL x.l d == 0))
def trJ : Nat → Nat → List Itm → Itm
  | 0, _, l => if l.length ≤ 1 then l.headD default else default
  | f + 1, d, l => if l.length ≤ 1 then l.headD default else if lo d l = [] then trJ f (d + 1) l else if hi d l = [] then trJ f (d + 1) l else innI (trJ f (d + 1) (lo d l)) (trJ f (d + 1) (hi d l))
theorem perm_head {l l' : List Itm} (h : l.Perm l') (h1 : l.length ≤ 1) : l.headD default = l'.headD default := by
  rw [perm_short h (by rw [← h.length_eq]; exact h1)]
theorem perm_nil_iff {l l' : List Itm} (h : l.Perm l') : l = [] ↔ l' = [] := ⟨fun e => by subst e; exact List.perm_nil.1 h.symm, fun e => by subst e; exact List.perm_nil.1 h⟩
theorem trJ_perm : ∀ (f d : Nat) (l l' : List Itm), l.Perm l' → trJ f d l = trJ f d l'
  | 0, d, l, l', h => by
    unfold trJ
    rw [← h.length_eq]
    split
    · rename_i h1; exact perm_head h h1
    · rfl
  | f + 1, d, l, l', h => by
    have h0 : (lo d l).Perm (lo d l') := h.filter _
    have h1 : (hi d l).Perm (hi d l') := h.filter _
    unfold trJ
    rw [← h.length_eq]
    split
    · rename_i h1; exact perm_head h h1
    · by_cases e0 : lo d l = []
      · rw [if_pos e0, if_pos ((perm_nil_iff h0).1 e0)]; exact trJ_perm f _ _ _ h
      · rw [if_neg e0, if_neg (fun e => e0 ((perm_nil_iff h0).2 e))]
        by_cases e1 : hi d l = []
        · rw [if_pos e1, if_pos ((perm_nil_iff h1).1 e1)]; exact trJ_perm f _ _ _ h
        · rw [if_neg e1, if_neg (fun e => e1 ((perm_nil_iff h1).2 e)), trJ_perm f _ _ _ h0, trJ_perm f _ _ _ h1]
theorem joinF_fuel : ∀ (k k' : Nat) (l : List Itm), l ≠ [] → l.length ≤ k → l.length ≤ k' → RiseI l → (∀ x ∈ l, x.ok) → joinF k l = joinF k' l
  | 0, _, l, hn, hk, _, _, _ => absurd (List.length_eq_zero_iff.1 (by omega)) hn
  | _ + 1, 0, l, hn, _, hk, _, _ => absurd (List.length_eq_zero_iff.1 (by omega)) hn
  | k + 1, k' + 1, l, hn, h1, h2, hr, hok => by
    unfold joinF
    by_cases hl : l.length = 1
    · rw [if_pos hl, if_pos hl]
    rw [if_neg hl, if_neg hl]
    have hp : 0 < l.length := List.length_pos_iff.2 hn
    obtain ⟨_, s1, s2, _⟩ := spl_ok hr hok (by omega)
    rw [joinF_fuel k k' _ (take_ne s1 s2) (by rw [List.length_take]; omega) (by rw [List.length_take]; omega) (hr.sublist (List.take_sublist ..)) (fun x hx => hok x (List.mem_of_mem_take hx)),
      joinF_fuel k k' _ (drop_ne s2) (by rw [List.length_drop]; omega) (by rw [List.length_drop]; omega) (hr.sublist (List.drop_sublist ..)) (fun x hx => hok x (List.mem_of_mem_drop hx))]
theorem frk_ge {l : List Itm} (hok : ∀ x ∈ l, x.ok) (h0 : 0 < l.length) {d : Nat} (hd : d ≤ 256) (h : ∀ x ∈ l, ∀ i, i < d → bitL x.l i = bitL l[0].l i) : d ≤ frkI l := by
  rw [frk_eq h0]
  have hm := List.getElem_mem (show l.length - 1 < l.length by omega)
  exact (com_ge (hok _ (List.getElem_mem h0)).1 (hok _ hm).1 hd).2 (fun i hi => (h _ hm i hi).symm)
theorem all_lo {l : List Itm} {d : Nat} (h : ∀ x ∈ l, bitL x.l d = 0) : lo d l = l ∧ hi d l = [] :=
  ⟨List.filter_eq_self.2 (fun x hx => by rw [h x hx]; rfl), List.filter_eq_nil_iff.2 (fun x hx => by rw [h x hx]; decide)⟩
theorem all_hi {l : List Itm} {d : Nat} (h : ∀ x ∈ l, bitL x.l d = 1) : hi d l = l ∧ lo d l = [] :=
  ⟨List.filter_eq_self.2 (fun x hx => by rw [h x hx]; rfl), List.filter_eq_nil_iff.2 (fun x hx => by rw [h x hx]; decide)⟩
theorem trJ_join : ∀ (f d : Nat) (l : List Itm) (h0 : 0 < l.length), d + f = 256 → RiseI l → (∀ x ∈ l, x.ok) → (∀ x ∈ l, ∀ i, i < d → bitL x.l i = bitL l[0].l i) → trJ f d l = joinF l.length l
  | 0, d, l, h0, hd, hr, hok, hb => by
    have hf := frk_ge hok h0 (d := d) (by omega) hb
    have h1 : l.length ≤ 1 := by
      rcases Nat.lt_or_ge 1 l.length with h | h
      · have := (spl_ok hr hok (by omega)).1; omega
      · exact h
    obtain ⟨k, hk⟩ : ∃ k, l.length = k + 1 := ⟨l.length - 1, by omega⟩
    unfold trJ
    rw [if_pos h1, hk]
    unfold joinF
    rw [if_pos (by omega)]
  | f + 1, d, l, h0, hd, hr, hok, hb => by
    obtain ⟨k, hk⟩ : ∃ k, l.length = k + 1 := ⟨l.length - 1, by omega⟩
    by_cases h1 : l.length ≤ 1
    · unfold trJ
      rw [if_pos h1, hk]
      unfold joinF
      rw [if_pos (by omega)]
    have hf := frk_ge hok h0 (d := d) (by omega) hb
    rcases Nat.eq_or_lt_of_le hf with he | hlt
    · obtain ⟨f1, f2⟩ := filt_lo hr hok (by omega)
      obtain ⟨c1, c2, c3, _⟩ := spl_ok hr hok (by omega)
      have hA : lo d l = l.take (splI l) := by unfold lo; rw [he]; exact f1
      have hB : hi d l = l.drop (splI l) := by unfold hi; rw [he]; exact f2
      have k1 : ∀ x ∈ l.take (splI l), x.ok := fun x hx => hok x (List.mem_of_mem_take hx)
      have k2 : ∀ x ∈ l.drop (splI l), x.ok := fun x hx => hok x (List.mem_of_mem_drop hx)
      have r1 : RiseI (l.take (splI l)) := hr.sublist (List.take_sublist ..)
      have r2 : RiseI (l.drop (splI l)) := hr.sublist (List.drop_sublist ..)
      have n1 := take_ne c2 c3
      have n2 := drop_ne c3
      have p1 : 0 < (l.take (splI l)).length := List.length_pos_iff.2 n1
      have p2 : 0 < (l.drop (splI l)).length := List.length_pos_iff.2 n2
      have bA : ∀ x ∈ l.take (splI l), bitL x.l d = 0 := fun x hx => by
        rw [← hA] at hx
        exact beq_iff_eq.1 (List.mem_filter.1 hx).2
      have bB : ∀ x ∈ l.drop (splI l), bitL x.l d = 1 := fun x hx => by
        rw [← hB] at hx
        have h2 := (List.mem_filter.1 hx).2
        rcases bitL_or x.l d with h3 | h3
        · rw [h3] at h2; exact absurd h2 (by decide)
        · exact h3
      have hbA : ∀ x ∈ l.take (splI l), ∀ i, i < d + 1 → bitL x.l i = bitL (l.take (splI l))[0].l i := fun x hx i hi => by
        rcases Nat.lt_or_ge i d with h3 | h3
        · rw [hb x (List.mem_of_mem_take hx) i h3, hb _ (List.mem_of_mem_take (List.getElem_mem p1)) i h3]
        · have : i = d := by omega
          subst this
          rw [bA x hx, bA _ (List.getElem_mem p1)]
      have hbB : ∀ x ∈ l.drop (splI l), ∀ i, i < d + 1 → bitL x.l i = bitL (l.drop (splI l))[0].l i := fun x hx i hi => by
        rcases Nat.lt_or_ge i d with h3 | h3
        · rw [hb x (List.mem_of_mem_drop hx) i h3, hb _ (List.mem_of_mem_drop (List.getElem_mem p2)) i h3]
        · have : i = d := by omega
          subst this
          rw [bB x hx, bB _ (List.getElem_mem p2)]
      unfold trJ
      rw [if_neg h1, hA, hB, if_neg n1, if_neg n2, trJ_join f (d + 1) _ p1 (by omega) r1 k1 hbA, trJ_join f (d + 1) _ p2 (by omega) r2 k2 hbB]
      have hj : joinF l.length l = innI (joinF k (l.take (splI l))) (joinF k (l.drop (splI l))) := by
        rw [hk]
        show (if l.length = 1 then _ else _) = _
        rw [if_neg (by omega)]
      rw [hj, joinF_fuel k _ _ n1 (by rw [List.length_take]; omega) (Nat.le_refl _) r1 k1, joinF_fuel k _ _ n2 (by rw [List.length_drop]; omega) (Nat.le_refl _) r2 k2]
    · have hsame : ∀ x ∈ l, bitL x.l d = bitL l[0].l d := fun x hx => by
        obtain ⟨j, hj, rfl⟩ := List.getElem_of_mem hx
        exact rise_bits hr hok h0 j hj d hlt
      have hb2 : ∀ x ∈ l, ∀ i, i < d + 1 → bitL x.l i = bitL l[0].l i := fun x hx i hi => by
        rcases Nat.lt_or_ge i d with h3 | h3
        · exact hb x hx i h3
        · have : i = d := by omega
          subst this; exact hsame x hx
      have ih := trJ_join f (d + 1) l h0 (by omega) hr hok hb2
      have hne : l ≠ [] := List.length_pos_iff.1 h0
      unfold trJ
      rw [if_neg h1]
      rcases bitL_or l[0].l d with h3 | h3
      · obtain ⟨e1, e2⟩ := all_lo (d := d) (fun x hx => by rw [hsame x hx, h3])
        rw [e1, if_neg hne, if_pos e2]; exact ih
      · obtain ⟨e1, e2⟩ := all_hi (d := d) (fun x hx => by rw [hsame x hx, h3])
        rw [if_pos e2]; exact ih
theorem app_ne {α : Type} {B X : List α} (h : B ≠ []) : B ++ X ≠ [] := fun e => h (List.append_eq_nil_iff.1 e).1
/-- A part in the place of what is below it. -/
theorem trJ_coll : ∀ (f d : Nat) (p : Itm) (B X : List Itm), d + f = 256 → p.n ≤ 256 → B ≠ [] → (∀ b ∈ B, ∀ i : Nat, (i : Int) < p.n → bitL b.l i = bitL p.l i) → (∀ f' d' : Nat, d' + f' = 256 → (d' : Int) ≤ p.n → trJ f' d' B = p) → (∀ x ∈ X, ∃ i : Nat, (i : Int) < p.n ∧ bitL x.l i ≠ bitL p.l i) → (∀ x ∈ X, ∀ i, i < d → bitL x.l i = bitL p.l i) → (d : Int) ≤ p.n → trJ f d (p :: X) = trJ f d (B ++ X)
  | f, d, p, B, [], hd, _, _, _, hB, _, _, hdn => by
    rw [List.append_nil, hB f d hd hdn]
    cases f <;> (unfold trJ; rw [if_pos (by simp)]; rfl)
  | 0, d, p, B, x :: X, hd, hp, _, _, _, hX, hag, _ => by
    obtain ⟨i, hi, hne⟩ := hX x (List.mem_cons_self ..)
    exact absurd (hag x (List.mem_cons_self ..) i (by omega)) hne
  | f + 1, d, p, B, x :: X, hd, hp, hBn, hBa, hB, hX, hag, hdn => by
    have hdp : (d : Int) < p.n := by
      obtain ⟨i, hi, hne⟩ := hX x (List.mem_cons_self ..)
      rcases Nat.lt_or_ge i d with h | h
      · exact absurd (hag x (List.mem_cons_self ..) i h) hne
      · omega
    generalize hY : x :: X = Y at *
    have hYn : Y ≠ [] := by rw [← hY]; exact List.cons_ne_nil _ _
    have hYl : 0 < Y.length := List.length_pos_iff.2 hYn
    have hBl : 0 < B.length := List.length_pos_iff.2 hBn
    have ext : ∀ Z : List Itm, (∀ z ∈ Z, z ∈ Y) → (∀ z ∈ Z, bitL z.l d = bitL p.l d) → trJ f (d + 1) (p :: Z) = trJ f (d + 1) (B ++ Z) := fun Z hZ hZb =>
      trJ_coll f (d + 1) p B Z (by omega) hp hBn hBa hB (fun z hz => hX z (hZ z hz)) (fun z hz i hi => by
        rcases Nat.lt_or_ge i d with h3 | h3
        · exact hag z (hZ z hz) i h3
        · have : i = d := by omega
          subst this; exact hZb z hz) (by omega)
    have l1 : ¬ (p :: Y).length ≤ 1 := by rw [List.length_cons]; omega
    have l2 : ¬ (B ++ Y).length ≤ 1 := by rw [List.length_append]; omega
    have hlY : ∀ z ∈ lo d Y, z ∈ Y ∧ bitL z.l d = 0 := fun z hz => ⟨(List.mem_filter.1 hz).1, beq_iff_eq.1 (List.mem_filter.1 hz).2⟩
    have hhY : ∀ z ∈ hi d Y, z ∈ Y ∧ bitL z.l d = 1 := fun z hz => ⟨(List.mem_filter.1 hz).1, by
      have h2 := (List.mem_filter.1 hz).2
      rcases bitL_or z.l d with h3 | h3
      · rw [h3] at h2; exact absurd h2 (by decide)
      · exact h3⟩
    have e1 : trJ (f + 1) d (p :: Y) = if lo d (p :: Y) = [] then trJ f (d + 1) (p :: Y) else if hi d (p :: Y) = [] then trJ f (d + 1) (p :: Y) else innI (trJ f (d + 1) (lo d (p :: Y))) (trJ f (d + 1) (hi d (p :: Y))) := if_neg l1
    have e2 : trJ (f + 1) d (B ++ Y) = if lo d (B ++ Y) = [] then trJ f (d + 1) (B ++ Y) else if hi d (B ++ Y) = [] then trJ f (d + 1) (B ++ Y) else innI (trJ f (d + 1) (lo d (B ++ Y))) (trJ f (d + 1) (hi d (B ++ Y))) := if_neg l2
    have a1 : lo d (B ++ Y) = lo d B ++ lo d Y := List.filter_append ..
    have a2 : hi d (B ++ Y) = hi d B ++ hi d Y := List.filter_append ..
    rw [e1, e2, a1, a2]
    rcases bitL_or p.l d with h3 | h3
    · obtain ⟨b1, b2⟩ := all_lo (l := B) (d := d) (fun b hb => by rw [hBa b hb d hdp, h3])
      have c1 : lo d (p :: Y) = p :: lo d Y := List.filter_cons_of_pos (by rw [h3]; rfl)
      have c2 : hi d (p :: Y) = hi d Y := List.filter_cons_of_neg (by rw [h3]; decide)
      rw [b1, b2, c1, c2, List.nil_append, if_neg (List.cons_ne_nil _ _), if_neg (app_ne hBn)]
      by_cases hn : hi d Y = []
      · rw [if_pos hn, if_pos hn]
        refine ext Y (fun z hz => hz) (fun z hz => ?_)
        rcases bitL_or z.l d with h4 | h4
        · rw [h4, h3]
        · have : z ∈ hi d Y := List.mem_filter.2 ⟨hz, by rw [h4]; rfl⟩
          rw [hn] at this; cases this
      · rw [if_neg hn, if_neg hn, ext (lo d Y) (fun z hz => (hlY z hz).1) (fun z hz => by rw [(hlY z hz).2, h3])]
    · obtain ⟨b1, b2⟩ := all_hi (l := B) (d := d) (fun b hb => by rw [hBa b hb d hdp, h3])
      have c1 : hi d (p :: Y) = p :: hi d Y := List.filter_cons_of_pos (by rw [h3]; rfl)
      have c2 : lo d (p :: Y) = lo d Y := List.filter_cons_of_neg (by rw [h3]; decide)
      rw [b1, b2, c1, c2, List.nil_append, if_neg (List.cons_ne_nil _ _), if_neg (app_ne hBn)]
      by_cases hn : lo d Y = []
      · rw [if_pos hn, if_pos hn]
        refine ext Y (fun z hz => hz) (fun z hz => ?_)
        rcases bitL_or z.l d with h4 | h4
        · have : z ∈ lo d Y := List.mem_filter.2 ⟨hz, by rw [h4]; rfl⟩
          rw [hn] at this; cases this
        · rw [h4, h3]
      · rw [if_neg hn, if_neg hn, ext (hi d Y) (fun z hz => (hhY z hz).1) (fun z hz => by rw [(hhY z hz).2, h3])]
end Go.Proofs.YtcmgpkibjdbonaaGreat
