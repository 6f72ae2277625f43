/- ref17.Without, ref19.Behind, law19.Cut by rules. -/
import Derived.Test.YtcmgpkibjdbonaaSM2
import Derived.Test.YtcmgpkibjdbonaaSX3Z
import Derived.Test.YtcmgpkibjdbonaaG14Z
import Derived.Test.YtcmgpkibjdbonaaPP2Z
set_option maxHeartbeats 16000000
set_option maxRecDepth 100000
namespace Go.Proofs.Ytcmgpkibjdbonaa
open Go Go.RowKit
theorem notIn_snoc (G : List (List UInt8)) (g : List UInt8) (y : Lef) : notIn (G ++ [g]) y = (notIn G y && (y.l != g)) := by
  rw [Bool.eq_iff_iff, Bool.and_eq_true, notIn_iff, notIn_iff, bne_iff_ne]
  simp only [List.mem_append, List.mem_singleton, not_or]
def wout (l : List Lef) (g : List UInt8) : List Lef := l.filter (fun y => y.l != g)
theorem wout_step (l : List Lef) (G : List (List UInt8)) (g : List UInt8) : wout (l.filter (notIn G)) g = l.filter (notIn (G ++ [g])) := by
  unfold wout
  rw [List.filter_filter]
  refine List.filter_congr (fun y _ => ?_)
  rw [notIn_snoc, Bool.and_comm]
theorem filt_take {α : Type} (p : α → Bool) (l : List α) {i : Nat} (h : i < l.length) : (l.take (i + 1)).filter p = if p l[i] = true then (l.take i).filter p ++ [l[i]] else (l.take i).filter p := by
  rw [List.take_succ_eq_append_getElem h, List.filter_append]
  by_cases hp : p l[i] = true
  · rw [if_pos hp, List.filter_cons_of_pos hp]; rfl
  · rw [if_neg hp, List.filter_cons_of_neg hp]; exact List.append_nil _
theorem without_spec (l : List Lef) (g : List UInt8) (hl : l.length ≤ 100000) : Spec Try.prog 101 [.sl 65 (l.map Lef.A), labA g] [] (fun r os => ∃ v, r = .own 0 v ∧ os = [.row v 47 65 ((wout l g).map Lef.A)]) := by
  refine spec_of TtOk [] Try.func101 rfl Try.ntmps101 (by kernel_rfl) rfl rfl (fun C => ?_) rfl
  repeat' (first | refine Awp.seq ?_ | refine Awp.block ?_ | refine Awp.region ?_ | (refine Ops.nil ?_; show Awp _ _ _ _ _) | refine o_len rfl TtOk rfl rfl rfl (fun _ => ?_) | (refine o_calm rfl TtOk rfl rfl rfl ?_ (fun _ => ?_); first | exact True.intro | exact ⟨rfl, rfl, rfl, rfl⟩ | exact ⟨rfl, True.intro⟩ | exact ⟨rfl, rfl⟩ | exact ⟨rfl, rfl, rfl⟩ | exact rfl | exact ⟨fun h0 => by cases h0, rfl⟩ | exact (fun h0 => by cases h0) | exact ⟨rfl, by omega⟩ | exact ⟨Nat.succ_ne_zero _, rfl⟩ | omega) | refine o_box (d := 3) rfl rfl rfl rfl (fun b3 => ?_) | refine o_buildSlice (d := 8) TtOk rfl rfl rfl rfl rfl rfl rfl rfl rfl rfl rfl (by repeat' (first | exact True.intro | exact rfl | refine ⟨?_, ?_⟩)) (fun v8 => ?_))
  refine Awp.loop (fun q : Nat × Value => ⟨25, [(11, .i .i64 q.1), (10, .i .i64 l.length), (9, .sl 65 (l.map Lef.A)), (5, .own 8 q.2), (3, .ptr 3 b3 [] 0)], [(8, .row q.2 47 65 (((l.take q.1).filter (fun y => y.l != g)).map Lef.A)), (3, .var b3 (labA g))]⟩) (fun q => q.1 ≤ l.length) (fun q => l.length - q.1) [] (0, v8) (Nat.zero_le _) ?_ ?_
  · exact ⟨rfl, ⟨sle_i rfl, sle_i rfl, sle_sl rfl, sle_own, sle_ptr, True.intro⟩, HLe.cons 8 rfl (HOLe.refl _) (HLe.cons 3 rfl (HOLe.refl _) .nil)⟩
  rintro ⟨i, v⟩ hi
  dsimp only at hi ⊢
  by_cases hlt : i < l.length
  · have hi1 : ((i : Int) + 1 = ((i + 1 : Nat) : Int)) := by omega
    have hst := filt_take (fun y : Lef => y.l != g) l hlt
    have hfl : ((l.take i).filter (fun y : Lef => y.l != g)).length ≤ 100000 := by
      have := List.length_filter_le (fun y : Lef => y.l != g) (l.take i)
      rw [List.length_take] at this
      omega
    generalize (l.take i).filter (fun y : Lef => y.l != g) = a at *
    obtain ⟨q, hq⟩ : ∃ q, (!(l[i].l == g)) = q := ⟨_, rfl⟩
    have hst : (l.take (i + 1)).filter (fun y => y.l != g) = if q = true then a ++ [l[i]] else a := by rw [← hq]; exact hst
    cases q with
    | true =>
      rw [if_pos rfl] at hst
      repeat' (first | refine Awp.seq ?_ | refine Awp.block ?_ | refine Awp.region ?_ | (refine Ops.nil ?_; show Awp _ _ _ _ _) | (refine Ops.nil ?_; show Exists _) | (refine Awp.skip ?_; show Awp _ _ _ _ _) | (refine o_add rfl rfl rfl rfl ?_ ?_; omega) | (refine o_calm rfl TtOk rfl rfl rfl ?_ (fun _ => ?_); first | exact True.intro | exact ⟨rfl, rfl, rfl, rfl⟩ | exact ⟨rfl, True.intro⟩ | exact ⟨rfl, rfl⟩ | exact ⟨rfl, rfl, rfl⟩ | exact rfl | exact ⟨fun h0 => by cases h0, rfl⟩ | exact (fun h0 => by cases h0) | exact ⟨rfl, by omega⟩ | exact ⟨Nat.succ_ne_zero _, rfl⟩ | omega) | refine o_alloc (d := 7) rfl TtOk rfl rfl rfl (fun b7 => ?_) | refine o_store TtOk rfl rfl rfl rfl rfl rfl rfl ⟨rfl, rfl⟩ rfl rfl rfl rfl rfl ?_ | (refine o_index rfl TtOk rfl rfl rfl rfl rfl rfl ?_ (getq_nat ?_) ?_; omega; omega) | refine o_buildSlice TtOk rfl rfl rfl rfl rfl rfl rfl rfl rfl rfl rfl (by repeat' (first | exact True.intro | exact rfl | refine ⟨?_, ?_⟩)) (fun _ => ?_) | (refine o_append TtOk rfl rfl rfl rfl rfl rfl rfl rfl rfl (by first | exact True.intro | exact rfl) rfl rfl (fun _ => rfl) ?_ ?_ (fun _ => ?_); ((repeat' (first | rw [List.length_append] | rw [List.length_map] | rw [List.length_cons] | rw [List.length_nil] | rw [List.length_take] | rw [List.length_drop])) <;> omega); ((repeat' (first | rw [List.length_append] | rw [List.length_map] | rw [List.length_cons] | rw [List.length_nil] | rw [List.length_take] | rw [List.length_drop])) <;> omega)) | refine a_condT rfl ?_ | (refine a_condP rfl (fun hc => ?_) (fun hc => ?_)) <;> (try (exfalso; omega)) | (refine o_neArr8 TtOk rfl rfl rfl rfl rfl rfl (by kernel_rfl) ?_; rw [hq]))
      all_goals exact ⟨(i + 1, _), [], hlt, by show l.length - (i + 1) < l.length - i; omega, rfl, ⟨sle_i hi1, sle_i rfl, sle_sl rfl, sle_own, sle_ptr, True.intro⟩, HLe.cons 8 rfl (HOLe.row (by rw [hst, List.map_append]; rfl)) (HLe.cons 3 rfl (HOLe.refl _) .nil)⟩
    | false =>
      rw [if_neg (by decide)] at hst
      repeat' (first | refine Awp.seq ?_ | refine Awp.block ?_ | refine Awp.region ?_ | (refine Ops.nil ?_; show Awp _ _ _ _ _) | (refine Ops.nil ?_; show Exists _) | (refine Awp.skip ?_; show Awp _ _ _ _ _) | (refine o_add rfl rfl rfl rfl ?_ ?_; omega) | (refine o_calm rfl TtOk rfl rfl rfl ?_ (fun _ => ?_); first | exact True.intro | exact ⟨rfl, rfl, rfl, rfl⟩ | exact ⟨rfl, True.intro⟩ | exact ⟨rfl, rfl⟩ | exact ⟨rfl, rfl, rfl⟩ | exact rfl | exact ⟨fun h0 => by cases h0, rfl⟩ | exact (fun h0 => by cases h0) | exact ⟨rfl, by omega⟩ | exact ⟨Nat.succ_ne_zero _, rfl⟩ | omega) | refine o_alloc (d := 7) rfl TtOk rfl rfl rfl (fun b7 => ?_) | refine o_store TtOk rfl rfl rfl rfl rfl rfl rfl ⟨rfl, rfl⟩ rfl rfl rfl rfl rfl ?_ | (refine o_index rfl TtOk rfl rfl rfl rfl rfl rfl ?_ (getq_nat ?_) ?_; omega; omega) | refine a_condF rfl ?_ | (refine a_condP rfl (fun hc => ?_) (fun hc => ?_)) <;> (try (exfalso; omega)) | (refine o_neArr8 TtOk rfl rfl rfl rfl rfl rfl (by kernel_rfl) ?_; rw [hq]))
      all_goals exact ⟨(i + 1, _), [], hlt, by show l.length - (i + 1) < l.length - i; omega, rfl, ⟨sle_i hi1, sle_i rfl, sle_sl rfl, sle_own, sle_ptr, True.intro⟩, HLe.cons 8 rfl (HOLe.row (by rw [hst])) (HLe.cons 3 rfl (HOLe.refl _) .nil)⟩
  · have hie : i = l.length := by omega
    subst hie
    rw [List.take_length]
    repeat' (first | refine Awp.seq ?_ | refine Awp.region ?_ | (refine Ops.nil ?_; show Awp _ _ _ _ _) | (refine Awp.exit ?_; show Awp _ _ _ _ _) | (refine Awp.ret ?_; show endK _ _ _ _ _) | (refine o_calm rfl TtOk rfl rfl rfl ?_ (fun _ => ?_); first | exact True.intro | exact ⟨rfl, rfl, rfl, rfl⟩ | exact ⟨rfl, True.intro⟩ | exact ⟨rfl, rfl⟩ | exact ⟨rfl, rfl, rfl⟩ | exact rfl | exact ⟨fun h0 => by cases h0, rfl⟩ | exact (fun h0 => by cases h0) | exact ⟨rfl, by omega⟩ | exact ⟨Nat.succ_ne_zero _, rfl⟩ | omega) | (refine a_condP rfl (fun hc => ?_) (fun hc => ?_)) <;> (try (exfalso; omega)))
    exact end_tmp rfl rfl rfl [] [(0, _)] CLe.own (HLe.cons 8 rfl (HOLe.refl _) .nil) ⟨_, rfl, rfl⟩ _ (.inl rfl)
theorem behind_spec (l gone fresh : List Lef) (hl : l.length ≤ 100000) (hg : gone.length ≤ 100000) (hf : fresh.length ≤ 100000) : Spec Try.prog 41 [.sl 65 (l.map Lef.A), .sl 65 (gone.map Lef.A), .sl 65 (fresh.map Lef.A)] [] (fun v os => v = .sl 65 ((behL l (gone.map Lef.l) fresh).map Lef.A) ∧ os = []) := by
  have hw := fun (o : List Lef) (g : List UInt8) (h : o.length ≤ 100000) => without_spec o g h
  have hbe : behL l (gone.map Lef.l) fresh = l.filter (notIn (gone.map Lef.l)) ++ fresh := rfl
  rw [hbe]
  have h0 : l.filter (notIn ((gone.take 0).map Lef.l)) = l := List.filter_eq_self.2 (fun x _ => rfl)
  have hlf : ∀ i, (l.filter (notIn ((gone.take i).map Lef.l))).length ≤ 100000 := fun i => by
    have := List.length_filter_le (notIn ((gone.take i).map Lef.l)) l
    omega
  refine spec_of TtOk [] Try.func41 rfl Try.ntmps41 (by kernel_rfl) rfl rfl (fun C => ?_) rfl
  repeat' (first | refine Awp.seq ?_ | refine Awp.block ?_ | refine Awp.region ?_ | (refine Ops.nil ?_; show Awp _ _ _ _ _) | refine o_len rfl TtOk rfl rfl rfl (fun _ => ?_) | (refine o_calm rfl TtOk rfl rfl rfl ?_ (fun _ => ?_); first | exact True.intro | exact ⟨rfl, rfl, rfl, rfl⟩ | exact ⟨rfl, True.intro⟩ | exact ⟨rfl, rfl⟩ | exact ⟨rfl, rfl, rfl⟩ | exact rfl | exact ⟨fun h0 => by cases h0, rfl⟩ | exact (fun h0 => by cases h0) | exact ⟨rfl, by omega⟩ | exact ⟨Nat.succ_ne_zero _, rfl⟩ | omega) | refine o_buildSlice (d := 10) TtOk rfl rfl rfl rfl rfl rfl rfl rfl rfl rfl rfl (by repeat' (first | exact True.intro | exact rfl | refine ⟨?_, ?_⟩)) (fun v10 => ?_) | (refine o_append TtOk rfl rfl rfl rfl rfl rfl rfl rfl rfl (by first | exact True.intro | exact rfl) rfl rfl (fun _ => rfl) ?_ ?_ (fun _ => ?_); ((repeat' (first | rw [List.length_append] | rw [List.length_map] | rw [List.length_cons] | rw [List.length_nil] | rw [List.length_take] | rw [List.length_drop])) <;> omega); ((repeat' (first | rw [List.length_append] | rw [List.length_map] | rw [List.length_cons] | rw [List.length_nil] | rw [List.length_take] | rw [List.length_drop])) <;> omega)))
  rename_i vA _ _ _ _
  refine Awp.loop (fun q : Bool × Nat × Value => ⟨27, [(15, .i .i64 q.2.1), (14, .i .i64 gone.length), (13, .sl 65 (gone.map Lef.A)), (7, .own (bif q.1 then 22 else 10) q.2.2), (2, .sl 65 (fresh.map Lef.A))], [(bif q.1 then 22 else 10, .row q.2.2 47 65 ((l.filter (notIn ((gone.take q.2.1).map Lef.l))).map Lef.A))]⟩) (fun q => q.2.1 ≤ gone.length) (fun q => gone.length - q.2.1) [] (false, 0, vA) (Nat.zero_le _) ?_ ?_
  · exact ⟨rfl, ⟨sle_i rfl, sle_i rfl, sle_sl rfl, sle_own, sle_sl rfl, True.intro⟩, HLe.cons 10 rfl (HOLe.row (by rw [h0]; rfl)) .nil⟩
  rintro ⟨b, i, v⟩ hi
  dsimp only at hi ⊢
  by_cases hlt : i < gone.length
  · have hi1 : ((i : Int) + 1 = ((i + 1 : Nat) : Int)) := by omega
    have hst : wout (l.filter (notIn ((gone.take i).map Lef.l))) gone[i].l = l.filter (notIn ((gone.take (i + 1)).map Lef.l)) := by
      rw [wout_step, List.take_succ_eq_append_getElem hlt, List.map_append]; rfl
    have hwi := hw (l.filter (notIn ((gone.take i).map Lef.l))) gone[i].l (hlf i)
    rw [hst] at hwi
    clear hst hw h0
    generalize l.filter (notIn ((gone.take i).map Lef.l)) = a at *
    cases b with
    | true =>
      show Awp Try.prog C _ ⟨27, [(15, .i .i64 i), (14, .i .i64 gone.length), (13, .sl 65 (gone.map Lef.A)), (7, .own 22 v), (2, .sl 65 (fresh.map Lef.A))], [(22, .row v 47 65 (a.map Lef.A))]⟩ _
      refine Awp.weaken [22] (S' := ⟨27, [(15, .i .i64 i), (14, .i .i64 gone.length), (13, .sl 65 (gone.map Lef.A)), (7, .sl 65 (a.map Lef.A)), (2, .sl 65 (fresh.map Lef.A))], []⟩) ⟨rfl, ⟨sle_i rfl, sle_i rfl, sle_sl rfl, SLe.of_cle (CLe.fz (.head _)) rfl, sle_sl rfl, True.intro⟩, .nil⟩ ?_
      repeat' (first | refine Awp.seq ?_ | refine Awp.block ?_ | refine Awp.region ?_ | (refine Ops.nil ?_; show Awp _ _ _ _ _) | (refine Ops.nil ?_; show Exists _) | (refine Awp.skip ?_; show Awp _ _ _ _ _) | (refine o_add rfl rfl rfl rfl ?_ ?_; omega) | (refine o_calm rfl TtOk rfl rfl rfl ?_ (fun _ => ?_); first | exact True.intro | exact ⟨rfl, rfl, rfl, rfl⟩ | exact ⟨rfl, True.intro⟩ | exact ⟨rfl, rfl⟩ | exact ⟨rfl, rfl, rfl⟩ | exact rfl | exact ⟨fun h0 => by cases h0, rfl⟩ | exact (fun h0 => by cases h0) | exact ⟨rfl, by omega⟩ | exact ⟨Nat.succ_ne_zero _, rfl⟩ | omega) | refine o_alloc (d := 9) rfl TtOk rfl rfl rfl (fun b9 => ?_) | refine o_store TtOk rfl rfl rfl rfl rfl rfl rfl ⟨rfl, rfl⟩ rfl rfl rfl rfl rfl ?_ | (refine o_index rfl TtOk rfl rfl rfl rfl rfl rfl ?_ (getq_nat ?_) ?_; omega; omega) | (refine a_condP rfl (fun hc => ?_) (fun hc => ?_)) <;> (try (exfalso; omega)) | (refine o_callR rfl hwi ⟨SLe.of_eq rfl, SLe.of_eq rfl, True.intro⟩ rfl (fun vR => ?_)))
      all_goals exact ⟨(true, i + 1, _), [], hlt, by show gone.length - (i + 1) < gone.length - i; omega, rfl, ⟨sle_i hi1, sle_i rfl, sle_sl rfl, sle_own, sle_sl rfl, True.intro⟩, HLe.cons 22 rfl (HOLe.refl _) .nil⟩
    | false =>
      show Awp Try.prog C _ ⟨27, [(15, .i .i64 i), (14, .i .i64 gone.length), (13, .sl 65 (gone.map Lef.A)), (7, .own 10 v), (2, .sl 65 (fresh.map Lef.A))], [(10, .row v 47 65 (a.map Lef.A))]⟩ _
      refine Awp.weaken [10] (S' := ⟨27, [(15, .i .i64 i), (14, .i .i64 gone.length), (13, .sl 65 (gone.map Lef.A)), (7, .sl 65 (a.map Lef.A)), (2, .sl 65 (fresh.map Lef.A))], []⟩) ⟨rfl, ⟨sle_i rfl, sle_i rfl, sle_sl rfl, SLe.of_cle (CLe.fz (.head _)) rfl, sle_sl rfl, True.intro⟩, .nil⟩ ?_
      repeat' (first | refine Awp.seq ?_ | refine Awp.block ?_ | refine Awp.region ?_ | (refine Ops.nil ?_; show Awp _ _ _ _ _) | (refine Ops.nil ?_; show Exists _) | (refine Awp.skip ?_; show Awp _ _ _ _ _) | (refine o_add rfl rfl rfl rfl ?_ ?_; omega) | (refine o_calm rfl TtOk rfl rfl rfl ?_ (fun _ => ?_); first | exact True.intro | exact ⟨rfl, rfl, rfl, rfl⟩ | exact ⟨rfl, True.intro⟩ | exact ⟨rfl, rfl⟩ | exact ⟨rfl, rfl, rfl⟩ | exact rfl | exact ⟨fun h0 => by cases h0, rfl⟩ | exact (fun h0 => by cases h0) | exact ⟨rfl, by omega⟩ | exact ⟨Nat.succ_ne_zero _, rfl⟩ | omega) | refine o_alloc (d := 9) rfl TtOk rfl rfl rfl (fun b9 => ?_) | refine o_store TtOk rfl rfl rfl rfl rfl rfl rfl ⟨rfl, rfl⟩ rfl rfl rfl rfl rfl ?_ | (refine o_index rfl TtOk rfl rfl rfl rfl rfl rfl ?_ (getq_nat ?_) ?_; omega; omega) | (refine a_condP rfl (fun hc => ?_) (fun hc => ?_)) <;> (try (exfalso; omega)) | (refine o_callR rfl hwi ⟨SLe.of_eq rfl, SLe.of_eq rfl, True.intro⟩ rfl (fun vR => ?_)))
      all_goals exact ⟨(true, i + 1, _), [], hlt, by show gone.length - (i + 1) < gone.length - i; omega, rfl, ⟨sle_i hi1, sle_i rfl, sle_sl rfl, sle_own, sle_sl rfl, True.intro⟩, HLe.cons 22 rfl (HOLe.refl _) .nil⟩
  · have hie : i = gone.length := by omega
    subst hie
    have hfi := hlf gone.length
    rw [List.take_length] at hfi ⊢
    clear hw hlf h0 hbe
    generalize l.filter (notIn (gone.map Lef.l)) = a at *
    rw [List.map_append]
    cases b with
    | true =>
      show Awp Try.prog C _ ⟨27, [(15, .i .i64 gone.length), (14, .i .i64 gone.length), (13, .sl 65 (gone.map Lef.A)), (7, .own 22 v), (2, .sl 65 (fresh.map Lef.A))], [(22, .row v 47 65 (a.map Lef.A))]⟩ _
      repeat' (first | refine Awp.seq ?_ | refine Awp.region ?_ | (refine Ops.nil ?_; show Awp _ _ _ _ _) | (refine Awp.exit ?_; show Awp _ _ _ _ _) | (refine Awp.ret ?_; show endK _ _ _ _ _) | (refine o_calm rfl TtOk rfl rfl rfl ?_ (fun _ => ?_); first | exact True.intro | exact ⟨rfl, rfl, rfl, rfl⟩ | exact ⟨rfl, True.intro⟩ | exact ⟨rfl, rfl⟩ | exact ⟨rfl, rfl, rfl⟩ | exact rfl | exact ⟨fun h0 => by cases h0, rfl⟩ | exact (fun h0 => by cases h0) | exact ⟨rfl, by omega⟩ | exact ⟨Nat.succ_ne_zero _, rfl⟩ | omega) | (refine o_append TtOk rfl rfl rfl rfl rfl rfl rfl rfl rfl (by first | exact True.intro | exact rfl) rfl rfl (fun _ => rfl) ?_ ?_ (fun _ => ?_); ((repeat' (first | rw [List.length_append] | rw [List.length_map] | rw [List.length_cons] | rw [List.length_nil] | rw [List.length_take] | rw [List.length_drop])) <;> omega); ((repeat' (first | rw [List.length_append] | rw [List.length_map] | rw [List.length_cons] | rw [List.length_nil] | rw [List.length_take] | rw [List.length_drop])) <;> omega)) | (refine a_condP rfl (fun hc => ?_) (fun hc => ?_)) <;> (try (exfalso; omega)))
      all_goals
        refine end_tmp rfl rfl rfl [22] [] (CLe.fz ?_) .nil ⟨rfl, rfl⟩ _ (.inl rfl)
        exact .head _
    | false =>
      show Awp Try.prog C _ ⟨27, [(15, .i .i64 gone.length), (14, .i .i64 gone.length), (13, .sl 65 (gone.map Lef.A)), (7, .own 10 v), (2, .sl 65 (fresh.map Lef.A))], [(10, .row v 47 65 (a.map Lef.A))]⟩ _
      repeat' (first | refine Awp.seq ?_ | refine Awp.region ?_ | (refine Ops.nil ?_; show Awp _ _ _ _ _) | (refine Awp.exit ?_; show Awp _ _ _ _ _) | (refine Awp.ret ?_; show endK _ _ _ _ _) | (refine o_calm rfl TtOk rfl rfl rfl ?_ (fun _ => ?_); first | exact True.intro | exact ⟨rfl, rfl, rfl, rfl⟩ | exact ⟨rfl, True.intro⟩ | exact ⟨rfl, rfl⟩ | exact ⟨rfl, rfl, rfl⟩ | exact rfl | exact ⟨fun h0 => by cases h0, rfl⟩ | exact (fun h0 => by cases h0) | exact ⟨rfl, by omega⟩ | exact ⟨Nat.succ_ne_zero _, rfl⟩ | omega) | (refine o_append TtOk rfl rfl rfl rfl rfl rfl rfl rfl rfl (by first | exact True.intro | exact rfl) rfl rfl (fun _ => rfl) ?_ ?_ (fun _ => ?_); ((repeat' (first | rw [List.length_append] | rw [List.length_map] | rw [List.length_cons] | rw [List.length_nil] | rw [List.length_take] | rw [List.length_drop])) <;> omega); ((repeat' (first | rw [List.length_append] | rw [List.length_map] | rw [List.length_cons] | rw [List.length_nil] | rw [List.length_take] | rw [List.length_drop])) <;> omega)) | (refine a_condP rfl (fun hc => ?_) (fun hc => ?_)) <;> (try (exfalso; omega)))
      all_goals
        refine end_tmp rfl rfl rfl [10] [] (CLe.fz ?_) .nil ⟨rfl, rfl⟩ _ (.inl rfl)
        exact .head _
def cutS (s : Stp) : Stp := ⟨s.same.take 60, s.old.take 60, s.new.take 60⟩
theorem cutS_ok {s : Stp} (h : s.ok) : (cutS s).ok ∧ (cutS s).same.length ≤ 60 ∧ (cutS s).old.length ≤ 60 ∧ (cutS s).new.length ≤ 60 :=
  ⟨⟨fun x hx => h.same x (List.mem_of_mem_take hx), fun x hx => h.old x (List.mem_of_mem_take hx), fun x hx => h.new x (List.mem_of_mem_take hx)⟩, by show (s.same.take 60).length ≤ 60; rw [List.length_take]; omega, by show (s.old.take 60).length ≤ 60; rw [List.length_take]; omega, by show (s.new.take 60).length ≤ 60; rw [List.length_take]; omega⟩
theorem cut19_spec (s : Stp) (h1 : s.same.length ≤ 9223372036854775807) (h2 : s.old.length ≤ 9223372036854775807) (h3 : s.new.length ≤ 9223372036854775807) : Spec Try.prog 40 [s.A] [] (fun v os => v = (cutS s).A ∧ os = []) := by
  obtain ⟨same, old, new⟩ := s
  dsimp only at h1 h2 h3
  have f1 := few_spec old 60 h2 (by decide)
  have f2 := few_spec new 60 h3 (by decide)
  unfold cutS
  show Spec Try.prog 40 [.agg [.sl 66 (same.map Itm.A), .sl 65 (old.map Lef.A), .sl 65 (new.map Lef.A)]] [] (fun v os => v = .agg [.sl 66 ((same.take 60).map Itm.A), .sl 65 ((old.take 60).map Lef.A), .sl 65 ((new.take 60).map Lef.A)] ∧ os = [])
  refine spec_of TtOk [] Try.func40 rfl Try.ntmps40 (by kernel_rfl) rfl rfl (fun C => ?_) rfl
  by_cases h : 60 < same.length
  · have hln : (same.take 60).length = 60 := by rw [List.length_take]; omega
    repeat' (first | refine Awp.seq ?_ | refine Awp.region ?_ | (refine Ops.nil ?_; show Awp _ _ _ _ _) | (refine Awp.ret ?_; show endK _ _ _ _ _) | refine o_len rfl TtOk rfl rfl rfl (fun _ => ?_) | (refine o_calm rfl TtOk rfl rfl rfl ?_ (fun _ => ?_); first | exact True.intro | exact ⟨rfl, rfl, rfl, rfl⟩ | exact ⟨rfl, True.intro⟩ | exact ⟨rfl, rfl⟩ | exact ⟨rfl, rfl, rfl⟩ | exact rfl | exact ⟨fun h0 => by cases h0, rfl⟩ | exact (fun h0 => by cases h0) | exact ⟨rfl, by omega⟩ | exact ⟨Nat.succ_ne_zero _, rfl⟩ | omega) | refine o_alloc (d := 2) rfl TtOk rfl rfl rfl (fun b2 => ?_) | refine o_box (d := 1) rfl rfl rfl rfl (fun b1 => ?_) | refine o_store TtOk rfl rfl rfl rfl rfl rfl rfl ⟨rfl, rfl⟩ rfl rfl rfl rfl rfl ?_ | refine o_build TtOk rfl rfl rfl rfl rfl rfl (by repeat' (first | exact True.intro | exact rfl | refine ⟨?_, ?_⟩)) ?_ | refine o_buildSlice (d := 11) TtOk rfl rfl rfl rfl rfl rfl rfl rfl rfl rfl rfl (by repeat' (first | exact True.intro | exact rfl | refine ⟨?_, ?_⟩)) (fun v11 => ?_) | (refine o_append TtOk rfl rfl rfl rfl rfl rfl rfl rfl rfl (by first | exact True.intro | exact rfl) rfl rfl (fun _ => rfl) ?_ ?_ (fun _ => ?_); ((repeat' (first | rw [List.length_append] | rw [List.length_map] | rw [List.length_cons] | rw [List.length_nil] | rw [List.length_take] | rw [List.length_drop])) <;> omega); ((repeat' (first | rw [List.length_append] | rw [List.length_map] | rw [List.length_cons] | rw [List.length_nil] | rw [List.length_take] | rw [List.length_drop])) <;> omega)) | (refine a_condP rfl (fun hc => ?_) (fun hc => ?_)) <;> (try (exfalso; omega)) | refine a_any 3 [2, 11] [13] [11, 17, 20] [1, 4, 7, 2, 5, 8, 0, 3, 6, 9, 10, 11] (by kernel_rfl) (by kernel_rfl) (by kernel_rfl) rfl rfl rfl ?_ | (refine o_sliceSl TtOk rfl 0 60 rfl rfl rfl rfl rfl bnd_none (bnd_some rfl rfl) (by omega) (by omega) ?_) | (refine o_callR rfl f1 ⟨SLe.of_eq rfl, SLe.of_eq rfl, True.intro⟩ rfl (fun vR1 => ?_)) | (refine o_callR rfl f2 ⟨SLe.of_eq rfl, SLe.of_eq rfl, True.intro⟩ rfl (fun vR2 => ?_)))
    all_goals
      refine end_all [11, 17, 20] [] (.agg [.sl 66 ((same.take 60).map Itm.A), .sl 65 ((old.take 60).map Lef.A), .sl 65 ((new.take 60).map Lef.A)]) rfl ?_ ?_ (rle_one (CLe.agg (.cons (CLe.fz (.head _)) (.cons (CLe.fz (.tail _ (.head _))) (.cons (CLe.fz (.tail _ (.tail _ (.head _)))) .nil)))) rfl) .nil ⟨rfl, rfl⟩ _ (.inl rfl)
      · repeat' (first | exact True.intro | exact rfl | refine ⟨?_, ?_⟩)
      · exact ⟨trivial, trivial⟩
  · rw [List.take_of_length_le (by omega)]
    repeat' (first | refine Awp.seq ?_ | refine Awp.region ?_ | (refine Ops.nil ?_; show Awp _ _ _ _ _) | (refine Awp.skip ?_; show Awp _ _ _ _ _) | (refine Awp.ret ?_; show endK _ _ _ _ _) | refine o_len rfl TtOk rfl rfl rfl (fun _ => ?_) | (refine o_calm rfl TtOk rfl rfl rfl ?_ (fun _ => ?_); first | exact True.intro | exact ⟨rfl, rfl, rfl, rfl⟩ | exact ⟨rfl, True.intro⟩ | exact ⟨rfl, rfl⟩ | exact ⟨rfl, rfl, rfl⟩ | exact rfl | exact ⟨fun h0 => by cases h0, rfl⟩ | exact (fun h0 => by cases h0) | exact ⟨rfl, by omega⟩ | exact ⟨Nat.succ_ne_zero _, rfl⟩ | omega) | refine o_alloc (d := 2) rfl TtOk rfl rfl rfl (fun b2 => ?_) | refine o_box (d := 1) rfl rfl rfl rfl (fun b1 => ?_) | refine o_store TtOk rfl rfl rfl rfl rfl rfl rfl ⟨rfl, rfl⟩ rfl rfl rfl rfl rfl ?_ | refine o_build TtOk rfl rfl rfl rfl rfl rfl (by repeat' (first | exact True.intro | exact rfl | refine ⟨?_, ?_⟩)) ?_ | refine o_buildSlice (d := 11) TtOk rfl rfl rfl rfl rfl rfl rfl rfl rfl rfl rfl (by repeat' (first | exact True.intro | exact rfl | refine ⟨?_, ?_⟩)) (fun v11 => ?_) | (refine o_append TtOk rfl rfl rfl rfl rfl rfl rfl rfl rfl (by first | exact True.intro | exact rfl) rfl rfl (fun _ => rfl) ?_ ?_ (fun _ => ?_); ((repeat' (first | rw [List.length_append] | rw [List.length_map] | rw [List.length_cons] | rw [List.length_nil] | rw [List.length_take] | rw [List.length_drop])) <;> omega); ((repeat' (first | rw [List.length_append] | rw [List.length_map] | rw [List.length_cons] | rw [List.length_nil] | rw [List.length_take] | rw [List.length_drop])) <;> omega)) | (refine a_condP rfl (fun hc => ?_) (fun hc => ?_)) <;> (try (exfalso; omega)) | refine a_any 3 [2, 11] [13] [11, 17, 20] [1, 4, 7, 2, 5, 8, 0, 3, 6, 9, 10, 11] (by kernel_rfl) (by kernel_rfl) (by kernel_rfl) rfl rfl rfl ?_ | (refine o_callR rfl f1 ⟨SLe.of_eq rfl, SLe.of_eq rfl, True.intro⟩ rfl (fun vR1 => ?_)) | (refine o_callR rfl f2 ⟨SLe.of_eq rfl, SLe.of_eq rfl, True.intro⟩ rfl (fun vR2 => ?_)))
    all_goals
      refine end_all [11, 17, 20] [] (.agg [.sl 66 (same.map Itm.A), .sl 65 ((old.take 60).map Lef.A), .sl 65 ((new.take 60).map Lef.A)]) rfl ?_ ?_ (rle_one (CLe.agg (.cons (CLe.fz (.head _)) (.cons (CLe.fz (.tail _ (.head _))) (.cons (CLe.fz (.tail _ (.tail _ (.head _)))) .nil)))) rfl) .nil ⟨rfl, rfl⟩ _ (.inl rfl)
      · repeat' (first | exact True.intro | exact rfl | refine ⟨?_, ?_⟩)
      · exact ⟨trivial, trivial⟩
end Go.Proofs.Ytcmgpkibjdbonaa
