/- step.labels, top, Check by rules. -/
import Derived.Test.YtcmgpkibjdbonaaC1Z
import Derived.Test.YtcmgpkibjdbonaaG14Z
set_option maxHeartbeats 16000000
set_option maxRecDepth 100000
namespace Go.Proofs.Ytcmgpkibjdbonaa
open Go Go.RowKit
structure Stp where
  same : List Itm
  old : List Lef
  new : List Lef
def Stp.A (s : Stp) : AV := .agg [.sl 66 (s.same.map Itm.A), .sl 65 (s.old.map Lef.A), .sl 65 (s.new.map Lef.A)]
def Stp.R (s : Stp) : AV := .agg [.sl 66 (s.same.map Itm.R), .sl 65 (s.old.map Lef.A), .sl 65 (s.new.map Lef.A)]
structure Stp.ok (s : Stp) : Prop where
  same : ∀ x ∈ s.same, x.ok
  old : ∀ x ∈ s.old, x.ok
  new : ∀ x ∈ s.new, x.ok
/-- The items of parts and leaves, by rising prefixes. -/
def topU (same : List Itm) (l : List Lef) : List Itm := srtI (same ++ itmsL l)
/-- Does a step lead from one sum to another one: the error. -/
def stE (fr to : List UInt8) (s : Stp) : Int :=
  if 500 < s.old.length ∨ 500 < s.new.length then 2
  else if s.same.length = 1 ∧ s.old.length = 0 ∧ 0 < s.new.length then 3
  else if chkI (topU s.same s.old) ≠ 0 then chkI (topU s.same s.old)
  else if chkI (topU s.same s.new) ≠ 0 then chkI (topU s.same s.new)
  else if topS (topU s.same s.old) = fr ∧ topS (topU s.same s.new) = to then 0 else 11
theorem itmsL_len (l : List Lef) : (itmsL l).length = l.length := by unfold itmsL; rw [srtI_len, List.length_map]
theorem itmsL_ok {l : List Lef} (h : ∀ x ∈ l, x.ok) : ∀ x ∈ itmsL l, x.ok := fun x hx => by
  obtain ⟨y, hy, rfl⟩ := List.mem_map.1 (srtI_mem.1 hx)
  exact leafI_ok y (h y hy)
theorem topU_ok {same : List Itm} {l : List Lef} (hs : ∀ x ∈ same, x.ok) (h : ∀ x ∈ l, x.ok) : ∀ x ∈ topU same l, x.ok := fun x hx => by
  rcases List.mem_append.1 (srtI_mem.1 hx) with hx | hx
  · exact hs x hx
  · exact itmsL_ok h x hx
theorem topU_len (same : List Itm) (l : List Lef) : (topU same l).length = same.length + l.length := by unfold topU; rw [srtI_len, List.length_append, itmsL_len]
theorem fl_two {α : Type} (a b : List α) : [a, b].flatten = a ++ b := by simp
theorem fl_one {α : Type} (a : List α) : [a].flatten = a := by simp
theorem slabels_spec (l : List Lef) (hl : l.length ≤ 100000) : Spec Try.prog 73 [.sl 1 [.sl 65 (l.map Lef.A)]] [] (fun v os => v = .sl 32 ((l.map Lef.l).map labA) ∧ os = []) := by
  refine spec_of TtOk [] Try.func73 rfl Try.ntmps73 (by kernel_rfl) rfl rfl (fun C => ?_) rfl
  have h1 : Spec Try.prog 144 [.sl 1 [.sl 65 (l.map Lef.A)]] [] (fun v os => v = .sl 65 (l.map Lef.A) ∧ os = []) := by
    have := concatL_spec [l] (show 1 ≤ 100000 by decide) (by rw [fl_one]; exact hl)
    rw [fl_one] at this
    exact this
  repeat' (first | refine Awp.seq ?_ | refine Awp.block ?_ | refine Awp.region ?_ | (refine Ops.nil ?_; show Awp _ _ _ _ _) | refine o_len rfl TtOk rfl rfl rfl (fun _ => ?_) | (refine o_calm rfl TtOk rfl rfl rfl ?_ (fun _ => ?_); first | exact True.intro | exact ⟨rfl, rfl, rfl, rfl⟩ | exact ⟨rfl, True.intro⟩ | exact ⟨rfl, rfl⟩ | exact ⟨rfl, rfl, rfl⟩ | exact rfl | exact ⟨fun h0 => by cases h0, rfl⟩ | exact (fun h0 => by cases h0) | exact ⟨rfl, by omega⟩ | exact ⟨Nat.succ_ne_zero _, rfl⟩ | omega) | (refine o_call0 rfl (h1) ⟨SLe.of_eq rfl, True.intro⟩ rfl ?_; rintro _ _ ⟨rfl, rfl⟩; refine ⟨rfl, ?_⟩))
  refine Awp.loop (fun q : Nat × Value => ⟨20, [(9, .i .i64 q.1), (8, .i .i64 l.length), (7, .sl 65 (l.map Lef.A)), (3, .own 17 q.2)], [(17, .row q.2 24 32 (((l.take q.1).map Lef.l).map labA))]⟩) (fun q => q.1 ≤ l.length) (fun q => l.length - q.1) [] (0, .slice none 0 0) (Nat.zero_le _) ?_ ?_
  · exact ⟨rfl, ⟨sle_i rfl, sle_i rfl, sle_sl rfl, sle_nilown, True.intro⟩, HLe.none .nil⟩
  rintro ⟨i, v⟩ hi
  dsimp only at hi ⊢
  by_cases hlt : i < l.length
  · have hi1 : ((i : Int) + 1 = ((i + 1 : Nat) : Int)) := by omega
    have hst : (l.take (i + 1)).map Lef.l = (l.take i).map Lef.l ++ [l[i].l] := by rw [List.take_succ_eq_append_getElem hlt, List.map_append]; rfl
    have hln : ((l.take i).map Lef.l).length ≤ 100000 := by rw [List.length_map, List.length_take]; omega
    clear h1
    generalize (l.take i).map Lef.l = a at *
    repeat' (first | refine Awp.seq ?_ | refine Awp.block ?_ | refine Awp.region ?_ | (refine Ops.nil ?_; show Awp _ _ _ _ _) | (refine Ops.nil ?_; show Exists _) | (refine Awp.skip ?_; show Awp _ _ _ _ _) | (refine o_add rfl rfl rfl rfl ?_ ?_; omega) | (refine o_calm rfl TtOk rfl rfl rfl ?_ (fun _ => ?_); first | exact True.intro | exact ⟨rfl, rfl, rfl, rfl⟩ | exact ⟨rfl, True.intro⟩ | exact ⟨rfl, rfl⟩ | exact ⟨rfl, rfl, rfl⟩ | exact rfl | exact ⟨fun h0 => by cases h0, rfl⟩ | exact (fun h0 => by cases h0) | exact ⟨rfl, by omega⟩ | exact ⟨Nat.succ_ne_zero _, rfl⟩ | omega) | refine o_alloc (d := 5) rfl TtOk rfl rfl rfl (fun b5 => ?_) | refine o_store TtOk rfl rfl rfl rfl rfl rfl rfl ⟨rfl, rfl⟩ rfl rfl rfl rfl rfl ?_ | (refine o_index rfl TtOk rfl rfl rfl rfl rfl rfl ?_ (getq_nat ?_) ?_; omega; omega) | refine o_buildSlice TtOk rfl rfl rfl rfl rfl rfl rfl rfl rfl rfl rfl (by repeat' (first | exact True.intro | exact rfl | refine ⟨?_, ?_⟩)) (fun _ => ?_) | (refine o_append TtOk rfl rfl rfl rfl rfl rfl rfl rfl rfl (by first | exact True.intro | exact rfl) rfl rfl (fun _ => rfl) ?_ ?_ (fun _ => ?_); ((repeat' (first | rw [List.length_append] | rw [List.length_map] | rw [List.length_cons] | rw [List.length_nil] | rw [List.length_take] | rw [List.length_drop])) <;> omega); ((repeat' (first | rw [List.length_append] | rw [List.length_map] | rw [List.length_cons] | rw [List.length_nil] | rw [List.length_take] | rw [List.length_drop])) <;> omega)) | (refine a_condP rfl (fun hc => ?_) (fun hc => ?_)) <;> (try (exfalso; omega)))
    all_goals exact ⟨(i + 1, _), [], hlt, by show l.length - (i + 1) < l.length - i; omega, rfl, ⟨sle_i hi1, sle_i rfl, sle_sl rfl, sle_own, True.intro⟩, HLe.cons 17 rfl (HOLe.row (by rw [hst, List.map_append]; rfl)) .nil⟩
  · have hie : i = l.length := by omega
    subst hie
    rw [List.take_length]
    repeat' (first | refine Awp.seq ?_ | refine Awp.region ?_ | (refine Ops.nil ?_; show Awp _ _ _ _ _) | (refine Awp.exit ?_; show Awp _ _ _ _ _) | (refine Awp.ret ?_; show endK _ _ _ _ _) | (refine o_calm rfl TtOk rfl rfl rfl ?_ (fun _ => ?_); first | exact True.intro | exact ⟨rfl, rfl, rfl, rfl⟩ | exact ⟨rfl, True.intro⟩ | exact ⟨rfl, rfl⟩ | exact ⟨rfl, rfl, rfl⟩ | exact rfl | exact ⟨fun h0 => by cases h0, rfl⟩ | exact (fun h0 => by cases h0) | exact ⟨rfl, by omega⟩ | exact ⟨Nat.succ_ne_zero _, rfl⟩ | omega) | (refine a_condP rfl (fun hc => ?_) (fun hc => ?_)) <;> (try (exfalso; omega)))
    all_goals
      refine end_tmp rfl rfl rfl [17] [] (CLe.fz ?_) .nil ⟨rfl, rfl⟩ _ (.inl rfl)
      exact .head _
theorem top19_spec (same : List Itm) (l : List Lef) (hs : same.length ≤ 50000) (hl : l.length ≤ 50000) (hok : ∀ x ∈ same, x.ok) (hlo : ∀ x ∈ l, x.ok) : Spec Try.prog 82 [.sl 66 (same.map Itm.A), .sl 65 (l.map Lef.A)] [] (fun v os => v = .tup [labA (topS (topU same l)), .i .i64 (chkI (topU same l))] ∧ os = []) := by
  refine spec_of TtOk [] Try.func82 rfl Try.ntmps82 (by kernel_rfl) rfl rfl (fun C => ?_) rfl
  have h1 := of_spec l (by omega) hlo
  have hlen : (same ++ itmsL l).length ≤ 100000 := by rw [List.length_append, itmsL_len]; omega
  have h2 : Spec Try.prog 97 [.sl 1 [.sl 66 (same.map Itm.A), .sl 66 ((itmsL l).map Itm.A)]] [] (fun v os => v = .sl 66 ((same ++ itmsL l).map Itm.A) ∧ os = []) := by
    have := concatI_spec [same, itmsL l] (show 2 ≤ 100000 by decide) (by rw [fl_two]; exact hlen)
    rw [fl_two] at this
    exact this
  have h3 := sorted_spec (same ++ itmsL l) hlen
  have h4 := top_spec (topU same l) (by rw [topU_len]; omega) (topU_ok hok hlo)
  rw [show srtI (same ++ itmsL l) = topU same l from rfl] at h3
  have ht := topS_len (topU same l) (topU_ok hok hlo)
  generalize topS (topU same l) = ts at *
  generalize topU same l = U at *
  generalize same ++ itmsL l = V at *
  generalize itmsL l = I at *
  repeat' (first | (refine o_freezeR 9 9 rfl rfl rfl ?_) | refine Awp.seq ?_ | refine Awp.region ?_ | (refine Ops.nil ?_; show Awp _ _ _ _ _) | (refine Awp.ret ?_; show endK _ _ _ _ _) | (refine o_calm rfl TtOk rfl rfl rfl ?_ (fun _ => ?_); first | exact True.intro | exact ⟨rfl, rfl, rfl, rfl⟩ | exact ⟨rfl, True.intro⟩ | exact ⟨rfl, rfl⟩ | exact ⟨rfl, rfl, rfl⟩ | exact rfl | exact ⟨fun h0 => by cases h0, rfl⟩ | exact (fun h0 => by cases h0) | exact ⟨rfl, by omega⟩ | exact ⟨Nat.succ_ne_zero _, rfl⟩ | omega) | refine o_alloc (d := 4) rfl TtOk rfl rfl rfl (fun b4 => ?_) | refine o_store TtOk rfl rfl rfl rfl rfl rfl rfl ⟨rfl, rfl⟩ rfl rfl rfl rfl rfl ?_ | refine o_buildSlice (d := 9) TtOk rfl rfl rfl rfl rfl rfl rfl rfl rfl rfl rfl (by repeat' (first | exact True.intro | exact rfl | refine ⟨?_, ?_⟩)) (fun v9 => ?_) | (refine o_call0 rfl (h1) ⟨SLe.of_eq rfl, True.intro⟩ rfl ?_; rintro _ _ ⟨rfl, rfl⟩; refine ⟨rfl, ?_⟩) | (refine o_call0 rfl (h2) ⟨SLe.of_eq rfl, True.intro⟩ rfl ?_; rintro _ _ ⟨rfl, rfl⟩; refine ⟨rfl, ?_⟩) | (refine o_call0 rfl (h3) ⟨SLe.of_eq rfl, True.intro⟩ rfl ?_; rintro _ _ ⟨rfl, rfl⟩; refine ⟨rfl, ?_⟩) | (refine o_call0 rfl (h4) ⟨SLe.of_eq rfl, True.intro⟩ rfl ?_; rintro _ _ ⟨rfl, rfl⟩; refine ⟨rfl, ?_⟩))
  all_goals
    refine end_all [] [] (.tup [labA ts, .i .i64 (chkI U)]) rfl ?_ ?_ (rle_tup2 (CLe.of_eq rfl) (CLe.of_eq rfl) rfl rfl) .nil ⟨rfl, rfl⟩ _ (.inl rfl)
    · repeat' (first | exact True.intro | exact rfl | refine ⟨?_, ?_⟩)
    · exact ⟨trivial, trivial, trivial⟩
theorem scheck_spec (fr to : List UInt8) (s : Stp) (hs : s.same.length ≤ 50000) (ho : s.old.length ≤ 50000) (hn : s.new.length ≤ 50000) (hok : s.ok) (hf : fr.length = 32) (ht : to.length = 32) : Spec Try.prog 25 [labA fr, labA to, s.A] [] (fun v os => v = .i .i64 (stE fr to s) ∧ os = []) := by
  obtain ⟨same, old, new⟩ := s
  obtain ⟨o1, o2, o3⟩ := hok
  dsimp only at hs ho hn o1 o2 o3
  have h1 := top19_spec same old hs ho o1 o2
  have h2 := top19_spec same new hs hn o1 o3
  have hE : stE fr to ⟨same, old, new⟩ = (if 500 < old.length ∨ 500 < new.length then 2 else if same.length = 1 ∧ old.length = 0 ∧ 0 < new.length then 3 else if chkI (topU same old) ≠ 0 then chkI (topU same old) else if chkI (topU same new) ≠ 0 then chkI (topU same new) else if topS (topU same old) = fr ∧ topS (topU same new) = to then 0 else 11) := rfl
  rw [hE]
  clear hE
  show Spec Try.prog 25 [labA fr, labA to, .agg [.sl 66 (same.map Itm.A), .sl 65 (old.map Lef.A), .sl 65 (new.map Lef.A)]] [] _
  generalize topS (topU same old) = t1 at *
  generalize topS (topU same new) = t2 at *
  generalize chkI (topU same old) = c1 at *
  generalize chkI (topU same new) = c2 at *
  refine spec_of TtOk [] Try.func25 rfl Try.ntmps25 (by kernel_rfl) rfl rfl (fun C => ?_) rfl
  by_cases hb : 500 < old.length ∨ 500 < new.length
  · rw [if_pos hb]
    repeat' (first | refine Awp.seq ?_ | refine Awp.region ?_ | (refine Ops.nil ?_; show Awp _ _ _ _ _) | (refine Awp.ret ?_; show endK _ _ _ _ _) | refine o_noF rfl rfl rfl ?_ | refine o_len rfl TtOk rfl rfl rfl (fun _ => ?_) | (refine o_calm rfl TtOk rfl rfl rfl ?_ (fun _ => ?_); first | exact True.intro | exact ⟨rfl, rfl, rfl, rfl⟩ | exact ⟨rfl, True.intro⟩ | exact ⟨rfl, rfl⟩ | exact ⟨rfl, rfl, rfl⟩ | exact rfl | exact ⟨fun h0 => by cases h0, rfl⟩ | exact (fun h0 => by cases h0) | exact ⟨rfl, by omega⟩ | exact ⟨Nat.succ_ne_zero _, rfl⟩ | omega) | refine o_box (d := 3) rfl rfl rfl rfl (fun b3 => ?_) | refine o_box (d := 4) rfl rfl rfl rfl (fun b4 => ?_) | refine o_box (d := 5) rfl rfl rfl rfl (fun b5 => ?_) | (fail_if_success (refine o_isLit rfl (by first | exact .inl rfl | exact .inr rfl) ?_)); (refine o_splitP rfl rfl (fun hc => ?_) (fun hc => ?_) <;> try (exfalso; omega)) | refine a_condT rfl ?_ | (refine a_condP rfl (fun hc => ?_) (fun hc => ?_)) <;> (try (exfalso; omega)))
    all_goals exact end_tmp rfl rfl rfl [] [] (CLe.of_eq rfl) .nil ⟨rfl, rfl⟩ _ (.inl rfl)
  rw [if_neg hb]
  by_cases h3 : same.length = 1 ∧ old.length = 0 ∧ 0 < new.length
  · rw [if_pos h3]
    repeat' (first | refine Awp.seq ?_ | refine Awp.region ?_ | (refine Ops.nil ?_; show Awp _ _ _ _ _) | (refine Awp.skip ?_; show Awp _ _ _ _ _) | (refine Awp.ret ?_; show endK _ _ _ _ _) | refine o_len rfl TtOk rfl rfl rfl (fun _ => ?_) | (refine o_calm rfl TtOk rfl rfl rfl ?_ (fun _ => ?_); first | exact True.intro | exact ⟨rfl, rfl, rfl, rfl⟩ | exact ⟨rfl, True.intro⟩ | exact ⟨rfl, rfl⟩ | exact ⟨rfl, rfl, rfl⟩ | exact rfl | exact ⟨fun h0 => by cases h0, rfl⟩ | exact (fun h0 => by cases h0) | exact ⟨rfl, by omega⟩ | exact ⟨Nat.succ_ne_zero _, rfl⟩ | omega) | refine o_box (d := 3) rfl rfl rfl rfl (fun b3 => ?_) | refine o_box (d := 4) rfl rfl rfl rfl (fun b4 => ?_) | refine o_box (d := 5) rfl rfl rfl rfl (fun b5 => ?_) | (fail_if_success (refine o_isLit rfl (by first | exact .inl rfl | exact .inr rfl) ?_)); (refine o_splitP rfl rfl (fun hc => ?_) (fun hc => ?_) <;> try (exfalso; omega)) | (refine a_condP rfl (fun hc => ?_) (fun hc => ?_)) <;> (try (exfalso; omega)))
    all_goals exact end_tmp rfl rfl rfl [] [] (CLe.of_eq rfl) .nil ⟨rfl, rfl⟩ _ (.inl rfl)
  rw [if_neg h3]
  by_cases hc1 : c1 ≠ 0
  · rw [if_pos hc1]
    clear h2
    repeat' (first | refine Awp.seq ?_ | refine Awp.region ?_ | (refine Ops.nil ?_; show Awp _ _ _ _ _) | (refine Awp.skip ?_; show Awp _ _ _ _ _) | (refine Awp.ret ?_; show endK _ _ _ _ _) | refine o_noT rfl rfl rfl ?_ | refine o_len rfl TtOk rfl rfl rfl (fun _ => ?_) | (refine o_calm rfl TtOk rfl rfl rfl ?_ (fun _ => ?_); first | exact True.intro | exact ⟨rfl, rfl, rfl, rfl⟩ | exact ⟨rfl, True.intro⟩ | exact ⟨rfl, rfl⟩ | exact ⟨rfl, rfl, rfl⟩ | exact rfl | exact ⟨fun h0 => by cases h0, rfl⟩ | exact (fun h0 => by cases h0) | exact ⟨rfl, by omega⟩ | exact ⟨Nat.succ_ne_zero _, rfl⟩ | omega) | refine o_alloc (d := 7) rfl TtOk rfl rfl rfl (fun b7 => ?_) | refine o_box (d := 3) rfl rfl rfl rfl (fun b3 => ?_) | refine o_box (d := 4) rfl rfl rfl rfl (fun b4 => ?_) | refine o_box (d := 5) rfl rfl rfl rfl (fun b5 => ?_) | refine o_store TtOk rfl rfl rfl rfl rfl rfl rfl ⟨rfl, rfl⟩ rfl rfl rfl rfl rfl ?_ | (fail_if_success (refine o_isLit rfl (by first | exact .inl rfl | exact .inr rfl) ?_)); (refine o_splitP rfl rfl (fun hc => ?_) (fun hc => ?_) <;> try (exfalso; omega)) | refine a_condF rfl ?_ | (refine a_condP rfl (fun hc => ?_) (fun hc => ?_)) <;> (try (exfalso; omega)) | (refine a_condN rfl (fun hc => ?_) (fun hc => ?_)) <;> (try (exfalso; omega)) | (refine o_call0 rfl (h1) ⟨SLe.of_eq rfl, SLe.of_eq rfl, True.intro⟩ rfl ?_; rintro _ _ ⟨rfl, rfl⟩; refine ⟨rfl, ?_⟩))
    all_goals exact end_tmp rfl rfl rfl [] [] (CLe.of_eq rfl) .nil ⟨rfl, rfl⟩ _ (.inl rfl)
  rw [if_neg hc1]
  have hc1 := Decidable.not_not.1 hc1
  subst hc1
  by_cases hc2 : c2 ≠ 0
  · rw [if_pos hc2]
    repeat' (first | refine Awp.seq ?_ | refine Awp.region ?_ | (refine Ops.nil ?_; show Awp _ _ _ _ _) | (refine Awp.skip ?_; show Awp _ _ _ _ _) | (refine Awp.ret ?_; show endK _ _ _ _ _) | refine o_noT rfl rfl rfl ?_ | refine o_len rfl TtOk rfl rfl rfl (fun _ => ?_) | (refine o_calm rfl TtOk rfl rfl rfl ?_ (fun _ => ?_); first | exact True.intro | exact ⟨rfl, rfl, rfl, rfl⟩ | exact ⟨rfl, True.intro⟩ | exact ⟨rfl, rfl⟩ | exact ⟨rfl, rfl, rfl⟩ | exact rfl | exact ⟨fun h0 => by cases h0, rfl⟩ | exact (fun h0 => by cases h0) | exact ⟨rfl, by omega⟩ | exact ⟨Nat.succ_ne_zero _, rfl⟩ | omega) | refine o_alloc (d := 7) rfl TtOk rfl rfl rfl (fun b7 => ?_) | refine o_alloc (d := 9) rfl TtOk rfl rfl rfl (fun b9 => ?_) | refine o_box (d := 3) rfl rfl rfl rfl (fun b3 => ?_) | refine o_box (d := 4) rfl rfl rfl rfl (fun b4 => ?_) | refine o_box (d := 5) rfl rfl rfl rfl (fun b5 => ?_) | refine o_store TtOk rfl rfl rfl rfl rfl rfl rfl ⟨rfl, rfl⟩ rfl rfl rfl rfl rfl ?_ | (fail_if_success (refine o_isLit rfl (by first | exact .inl rfl | exact .inr rfl) ?_)); (refine o_splitP rfl rfl (fun hc => ?_) (fun hc => ?_) <;> try (exfalso; omega)) | refine a_condF rfl ?_ | (refine a_condP rfl (fun hc => ?_) (fun hc => ?_)) <;> (try (exfalso; omega)) | (refine a_condN rfl (fun hc => ?_) (fun hc => ?_)) <;> (try (exfalso; omega)) | (refine o_call0 rfl (h1) ⟨SLe.of_eq rfl, SLe.of_eq rfl, True.intro⟩ rfl ?_; rintro _ _ ⟨rfl, rfl⟩; refine ⟨rfl, ?_⟩) | (refine o_call0 rfl (h2) ⟨SLe.of_eq rfl, SLe.of_eq rfl, True.intro⟩ rfl ?_; rintro _ _ ⟨rfl, rfl⟩; refine ⟨rfl, ?_⟩))
    all_goals exact end_tmp rfl rfl rfl [] [] (CLe.of_eq rfl) .nil ⟨rfl, rfl⟩ _ (.inl rfl)
  rw [if_neg hc2]
  have hc2 := Decidable.not_not.1 hc2
  subst hc2
  have hx : (!(fr == fr)) = false := by rw [beq_self_eq_true]; rfl
  have hy : (!(to == to)) = false := by rw [beq_self_eq_true]; rfl
  by_cases e1 : t1 = fr
  · subst e1
    by_cases e2 : t2 = to
    · subst e2
      rw [if_pos ⟨rfl, rfl⟩]
      repeat' (first | refine Awp.seq ?_ | refine Awp.region ?_ | (refine Ops.nil ?_; show Awp _ _ _ _ _) | (refine Awp.skip ?_; show Awp _ _ _ _ _) | (refine Awp.ret ?_; show endK _ _ _ _ _) | refine o_noT rfl rfl rfl ?_ | refine o_len rfl TtOk rfl rfl rfl (fun _ => ?_) | (refine o_calm rfl TtOk rfl rfl rfl ?_ (fun _ => ?_); first | exact True.intro | exact ⟨rfl, rfl, rfl, rfl⟩ | exact ⟨rfl, True.intro⟩ | exact ⟨rfl, rfl⟩ | exact ⟨rfl, rfl, rfl⟩ | exact rfl | exact ⟨fun h0 => by cases h0, rfl⟩ | exact (fun h0 => by cases h0) | exact ⟨rfl, by omega⟩ | exact ⟨Nat.succ_ne_zero _, rfl⟩ | omega) | refine o_alloc (d := 7) rfl TtOk rfl rfl rfl (fun b7 => ?_) | refine o_alloc (d := 9) rfl TtOk rfl rfl rfl (fun b9 => ?_) | refine o_box (d := 3) rfl rfl rfl rfl (fun b3 => ?_) | refine o_box (d := 4) rfl rfl rfl rfl (fun b4 => ?_) | refine o_box (d := 5) rfl rfl rfl rfl (fun b5 => ?_) | refine o_store TtOk rfl rfl rfl rfl rfl rfl rfl ⟨rfl, rfl⟩ rfl rfl rfl rfl rfl ?_ | (fail_if_success (refine o_isLit rfl (by first | exact .inl rfl | exact .inr rfl) ?_)); (refine o_splitP rfl rfl (fun hc => ?_) (fun hc => ?_) <;> try (exfalso; omega)) | refine a_condF rfl ?_ | (refine a_condP rfl (fun hc => ?_) (fun hc => ?_)) <;> (try (exfalso; omega)) | (refine o_neArr8 TtOk rfl rfl rfl rfl rfl rfl (by kernel_rfl) ?_; first | rw [hx] | rw [hy]) | (refine o_call0 rfl (h1) ⟨SLe.of_eq rfl, SLe.of_eq rfl, True.intro⟩ rfl ?_; rintro _ _ ⟨rfl, rfl⟩; refine ⟨rfl, ?_⟩) | (refine o_call0 rfl (h2) ⟨SLe.of_eq rfl, SLe.of_eq rfl, True.intro⟩ rfl ?_; rintro _ _ ⟨rfl, rfl⟩; refine ⟨rfl, ?_⟩))
      all_goals exact end_tmp rfl rfl rfl [] [] (CLe.of_eq rfl) .nil ⟨rfl, rfl⟩ _ (.inl rfl)
    · rw [if_neg (fun h => e2 h.2)]
      have hz : (!(t2 == to)) = true := by rw [beq_eq_false_iff_ne.2 e2]; rfl
      repeat' (first | refine Awp.seq ?_ | refine Awp.region ?_ | (refine Ops.nil ?_; show Awp _ _ _ _ _) | (refine Awp.skip ?_; show Awp _ _ _ _ _) | (refine Awp.ret ?_; show endK _ _ _ _ _) | refine o_noT rfl rfl rfl ?_ | refine o_len rfl TtOk rfl rfl rfl (fun _ => ?_) | (refine o_calm rfl TtOk rfl rfl rfl ?_ (fun _ => ?_); first | exact True.intro | exact ⟨rfl, rfl, rfl, rfl⟩ | exact ⟨rfl, True.intro⟩ | exact ⟨rfl, rfl⟩ | exact ⟨rfl, rfl, rfl⟩ | exact rfl | exact ⟨fun h0 => by cases h0, rfl⟩ | exact (fun h0 => by cases h0) | exact ⟨rfl, by omega⟩ | exact ⟨Nat.succ_ne_zero _, rfl⟩ | omega) | refine o_alloc (d := 7) rfl TtOk rfl rfl rfl (fun b7 => ?_) | refine o_alloc (d := 9) rfl TtOk rfl rfl rfl (fun b9 => ?_) | refine o_box (d := 3) rfl rfl rfl rfl (fun b3 => ?_) | refine o_box (d := 4) rfl rfl rfl rfl (fun b4 => ?_) | refine o_box (d := 5) rfl rfl rfl rfl (fun b5 => ?_) | refine o_store TtOk rfl rfl rfl rfl rfl rfl rfl ⟨rfl, rfl⟩ rfl rfl rfl rfl rfl ?_ | (fail_if_success (refine o_isLit rfl (by first | exact .inl rfl | exact .inr rfl) ?_)); (refine o_splitP rfl rfl (fun hc => ?_) (fun hc => ?_) <;> try (exfalso; omega)) | refine a_condT rfl ?_ | refine a_condF rfl ?_ | (refine a_condP rfl (fun hc => ?_) (fun hc => ?_)) <;> (try (exfalso; omega)) | (refine o_neArr8 TtOk rfl rfl rfl rfl rfl rfl (by kernel_rfl) ?_; first | rw [hz] | rw [hx]) | (refine o_call0 rfl (h1) ⟨SLe.of_eq rfl, SLe.of_eq rfl, True.intro⟩ rfl ?_; rintro _ _ ⟨rfl, rfl⟩; refine ⟨rfl, ?_⟩) | (refine o_call0 rfl (h2) ⟨SLe.of_eq rfl, SLe.of_eq rfl, True.intro⟩ rfl ?_; rintro _ _ ⟨rfl, rfl⟩; refine ⟨rfl, ?_⟩))
      all_goals exact end_tmp rfl rfl rfl [] [] (CLe.of_eq rfl) .nil ⟨rfl, rfl⟩ _ (.inl rfl)
  · rw [if_neg (fun h => e1 h.1)]
    have hz : (!(t1 == fr)) = true := by rw [beq_eq_false_iff_ne.2 e1]; rfl
    repeat' (first | refine Awp.seq ?_ | refine Awp.region ?_ | (refine Ops.nil ?_; show Awp _ _ _ _ _) | (refine Awp.skip ?_; show Awp _ _ _ _ _) | (refine Awp.ret ?_; show endK _ _ _ _ _) | refine o_noT rfl rfl rfl ?_ | refine o_noF rfl rfl rfl ?_ | refine o_len rfl TtOk rfl rfl rfl (fun _ => ?_) | (refine o_calm rfl TtOk rfl rfl rfl ?_ (fun _ => ?_); first | exact True.intro | exact ⟨rfl, rfl, rfl, rfl⟩ | exact ⟨rfl, True.intro⟩ | exact ⟨rfl, rfl⟩ | exact ⟨rfl, rfl, rfl⟩ | exact rfl | exact ⟨fun h0 => by cases h0, rfl⟩ | exact (fun h0 => by cases h0) | exact ⟨rfl, by omega⟩ | exact ⟨Nat.succ_ne_zero _, rfl⟩ | omega) | refine o_alloc (d := 7) rfl TtOk rfl rfl rfl (fun b7 => ?_) | refine o_alloc (d := 9) rfl TtOk rfl rfl rfl (fun b9 => ?_) | refine o_box (d := 3) rfl rfl rfl rfl (fun b3 => ?_) | refine o_box (d := 4) rfl rfl rfl rfl (fun b4 => ?_) | refine o_box (d := 5) rfl rfl rfl rfl (fun b5 => ?_) | refine o_store TtOk rfl rfl rfl rfl rfl rfl rfl ⟨rfl, rfl⟩ rfl rfl rfl rfl rfl ?_ | (fail_if_success (refine o_isLit rfl (by first | exact .inl rfl | exact .inr rfl) ?_)); (refine o_splitP rfl rfl (fun hc => ?_) (fun hc => ?_) <;> try (exfalso; omega)) | refine a_condT rfl ?_ | refine a_condF rfl ?_ | (refine a_condP rfl (fun hc => ?_) (fun hc => ?_)) <;> (try (exfalso; omega)) | (refine o_neArr8 TtOk rfl rfl rfl rfl rfl rfl (by kernel_rfl) ?_; rw [hz]) | (refine o_call0 rfl (h1) ⟨SLe.of_eq rfl, SLe.of_eq rfl, True.intro⟩ rfl ?_; rintro _ _ ⟨rfl, rfl⟩; refine ⟨rfl, ?_⟩) | (refine o_call0 rfl (h2) ⟨SLe.of_eq rfl, SLe.of_eq rfl, True.intro⟩ rfl ?_; rintro _ _ ⟨rfl, rfl⟩; refine ⟨rfl, ?_⟩))
    all_goals exact end_tmp rfl rfl rfl [] [] (CLe.of_eq rfl) .nil ⟨rfl, rfl⟩ _ (.inl rfl)
end Go.Proofs.Ytcmgpkibjdbonaa
