/- step.leavesOf, Read by rules. -/
import Derived.Test.YtcmgpkibjdbonaaGreatN3Z
set_option maxHeartbeats 16000000
set_option maxRecDepth 100000
namespace Go.Proofs.YtcmgpkibjdbonaaGreat
open Go Go.RowKit
theorem leavesOf_spec (b : Nat) (r : RS) (hok : r.ok) : Spec Tryz.prog 117 [.ptr 0 b [] 0] [.var b (rdA r)] (fun v os => v = .tup [.sl 65 ((lvs r).1.map Lef.A), .i .i64 (lvs r).2.1] ∧ os = [.var b (rdA (lvs r).2.2)]) := by
  obtain ⟨W, hW⟩ : ∃ W, lvs r = W := ⟨_, rfl⟩
  rw [hW]
  unfold lvs at hW
  have k1 := fun b => rbelow_spec b ((501 : Nat) : Int) r hok
  have hn := below_lt r 501 (by decide)
  have o1 := RS.ok_below hok ((501 : Nat) : Int)
  refine spec_of TtOk [(0, .var b (rdA r))] Tryz.func117 rfl Tryz.ntmps117 (by kernel_rfl) rfl rfl (fun C => ?_) rfl
  generalize r.below ((501 : Nat) : Int) = q at *
  obtain ⟨n, r1⟩ := q
  dsimp only at hW hn o1 k1
  repeat' (first | refine Awp.seq ?_ | refine Awp.block ?_ | refine Awp.region ?_ | (refine Ops.nil ?_; show Awp _ _ _ _ _) | (refine o_calm rfl TtOk rfl rfl rfl ?_ (fun _ => ?_); exact nd) | (refine o_callP rfl rfl rfl rfl ((k1 _)) ⟨sle_ptr, SLe.of_eq rfl, True.intro⟩ (HOLe.refl _) rfl rfl ?_; rintro _ _ ⟨rfl, rfl⟩; refine ⟨_, rfl, _, rfl, ?_⟩))
  refine Awp.loop (fun q : Nat × List Lef × RS × Value => ⟨40, [(10, .i .i64 q.1), (9, .i .i64 n), (4, .own 37 q.2.2.2), (0, .ptr 0 b [] 0)], [(0, .var b (rdA q.2.2.1)), (37, .row q.2.2.2 46 65 (q.2.1.map Lef.A))]⟩) (fun q => q.1 ≤ n ∧ q.2.1.length = q.1 ∧ q.2.2.1.ok ∧ rLs (n - q.1) q.2.1 q.2.2.1 = W) (fun q => n - q.1) [] (0, [], r1, .slice none 0 0) ⟨Nat.zero_le _, rfl, o1, hW⟩ ?_ ?_
  · exact ⟨rfl, ⟨sle_i rfl, sle_i rfl, sle_nilown, sle_ptr, True.intro⟩, HLe.cons 0 rfl (HOLe.refl _) (HLe.none .nil)⟩
  clear hW o1 k1 hok
  rintro ⟨i, p, r, v⟩ ⟨hi, hpl, o1, hst⟩
  dsimp only at hi hpl o1 hst ⊢
  by_cases hlt : i < n
  · have hi1 : ((i : Int) + 1 = ((i + 1 : Nat) : Int)) := by omega
    rw [show n - i = (n - (i + 1)) + 1 by omega, rLs] at hst
    have k2 := fun b => rlabel_spec b r o1
    have k3 := fun b => rlabel_spec b _ (RS.ok_label o1)
    have k4 := fun b => rnumber_spec b _ (RS.ok_label (RS.ok_label o1))
    have o5 := ok_lef' o1
    have k6 := fun b => rdone_spec b r.lef.2
    have k7 : Spec Tryz.prog 82 [.ifc 46 r.lef.1.A] [] (fun v os => v = .i .i64 (chkLf r.lef.1) ∧ os = []) := ncheckL_spec r.lef.1
    have hA : r.lef.1.A = .agg [labA r.label.1, labA r.label.2.label.1, .i .i64 (r.label.2.label.2.number.1 : Nat)] := rfl
    have hB : r.lef.2 = r.label.2.label.2.number.2 := rfl
    rw [hA] at k7
    rw [hB] at k6 o5 hst
    generalize r.lef.1 = x at *
    generalize r.label.2.label.2.number = q3 at *
    generalize r.label.2.label = q2 at *
    generalize r.label = q1 at *
    by_cases hd : q3.2.done ≠ 0 ∧ q3.2.done ≠ 3
    · rw [if_pos hd] at hst
      subst hst
      obtain ⟨hd0, hd3⟩ := hd
      generalize q3.2.done = d at *
      repeat' (first | refine Awp.seq ?_ | refine Awp.block ?_ | refine Awp.region ?_ | (refine Ops.nil ?_; show Awp _ _ _ _ _) | (refine Awp.skip ?_; show Awp _ _ _ _ _) | (refine Awp.ret ?_; show endK _ _ _ _ _) | (refine o_calm rfl TtOk rfl rfl rfl ?_ (fun _ => ?_); exact nd) | refine o_alloc (d := 5) rfl TtOk rfl rfl rfl (fun b5 => ?_) | refine o_store TtOk rfl rfl rfl rfl rfl rfl rfl ⟨rfl, rfl⟩ rfl rfl rfl rfl rfl ?_ | refine o_build TtOk rfl rfl rfl rfl rfl rfl (by repeat' (first | exact True.intro | exact rfl | refine ⟨?_, ?_⟩)) ?_ | (fail_if_success (refine o_isLit rfl (by first | exact .inl rfl | exact .inr rfl) ?_)); (refine o_splitN rfl rfl (fun hc => ?_) (fun hc => ?_) <;> try (exfalso; omega)) | (refine a_condP rfl (fun hc => ?_) (fun hc => ?_)) <;> (try (exfalso; omega)) | (refine a_condN rfl (fun hc => ?_) (fun hc => ?_)) <;> (try (exfalso; omega)) | (refine o_callP rfl rfl rfl rfl ((k2 _)) ⟨sle_ptr, True.intro⟩ (HOLe.refl _) rfl rfl ?_; rintro _ _ ⟨rfl, rfl⟩; refine ⟨_, rfl, _, rfl, ?_⟩) | (refine o_callP rfl rfl rfl rfl ((k3 _)) ⟨sle_ptr, True.intro⟩ (HOLe.refl _) rfl rfl ?_; rintro _ _ ⟨rfl, rfl⟩; refine ⟨_, rfl, _, rfl, ?_⟩) | (refine o_callP rfl rfl rfl rfl ((k4 _)) ⟨sle_ptr, True.intro⟩ (HOLe.refl _) rfl rfl ?_; rintro _ _ ⟨rfl, rfl⟩; refine ⟨_, rfl, _, rfl, ?_⟩) | (refine o_callP rfl rfl rfl rfl ((k6 _)) ⟨sle_ptr, True.intro⟩ (HOLe.refl _) rfl rfl ?_; rintro _ _ ⟨rfl, rfl⟩; refine ⟨_, rfl, _, rfl, ?_⟩))
      all_goals
        refine end_all [] [(0, _)] (.tup [.sl 65 [], .i .i64 d]) rfl ?_ ?_ (rle_tup2 CLe.nilsl (CLe.of_eq rfl) rfl rfl) (HLe.cons 0 rfl (HOLe.refl _) .nil) ⟨rfl, rfl⟩ _ (.inl rfl)
        · repeat' (first | exact True.intro | exact rfl | refine ⟨?_, ?_⟩)
        · exact ⟨trivial, trivial, trivial⟩
    rw [if_neg hd] at hst
    have hd : q3.2.done = 0 ∨ q3.2.done = 3 := by
      by_cases c : q3.2.done = 0
      · exact .inl c
      · exact .inr (Decidable.not_not.1 (fun b => hd ⟨c, b⟩))
    generalize q3.2.done = d at *
    by_cases hg : chkLf x = 0
    · rw [if_pos hg] at hst
      rw [hg] at k7
      rcases hd with rfl | rfl
      all_goals
        repeat' (first | refine Awp.seq ?_ | refine Awp.block ?_ | refine Awp.region ?_ | (refine Ops.nil ?_; show Awp _ _ _ _ _) | (refine Ops.nil ?_; show Exists _) | (refine Awp.skip ?_; show Awp _ _ _ _ _) | refine o_offT rfl rfl rfl (by first | exact .inl rfl | exact .inr rfl) ?_ | (refine o_add rfl rfl rfl rfl ?_ ?_; omega) | (refine o_calm rfl TtOk rfl rfl rfl ?_ (fun _ => ?_); exact nd) | refine o_alloc (d := 5) rfl TtOk rfl rfl rfl (fun b5 => ?_) | refine o_store TtOk rfl rfl rfl rfl rfl rfl rfl ⟨rfl, rfl⟩ rfl rfl rfl rfl rfl ?_ | refine o_build TtOk rfl rfl rfl rfl rfl rfl (by repeat' (first | exact True.intro | exact rfl | refine ⟨?_, ?_⟩)) ?_ | refine o_buildSlice (d := 36) TtOk rfl rfl rfl rfl rfl rfl rfl rfl rfl rfl rfl (by repeat' (first | exact True.intro | exact rfl | refine ⟨?_, ?_⟩)) (fun v36 => ?_) | (refine o_append TtOk rfl rfl rfl rfl rfl rfl rfl rfl rfl (by first | exact True.intro | exact rfl) rfl rfl (fun _ => rfl) ?_ ?_ (fun _ => ?_); ((repeat' (first | rw [List.length_append] | rw [List.length_map] | rw [List.length_cons] | rw [List.length_nil] | rw [List.length_take] | rw [List.length_drop])) <;> omega); ((repeat' (first | rw [List.length_append] | rw [List.length_map] | rw [List.length_cons] | rw [List.length_nil] | rw [List.length_take] | rw [List.length_drop])) <;> omega)) | refine a_condF rfl ?_ | (refine a_condP rfl (fun hc => ?_) (fun hc => ?_)) <;> (try (exfalso; omega)) | (refine o_mkIface TtOk rfl rfl rfl rfl rfl rfl ?_) | (refine o_call0 rfl (k7) ⟨SLe.of_eq rfl, True.intro⟩ rfl ?_; rintro _ _ ⟨rfl, rfl⟩; refine ⟨rfl, ?_⟩) | (refine o_callP rfl rfl rfl rfl ((k2 _)) ⟨sle_ptr, True.intro⟩ (HOLe.refl _) rfl rfl ?_; rintro _ _ ⟨rfl, rfl⟩; refine ⟨_, rfl, _, rfl, ?_⟩) | (refine o_callP rfl rfl rfl rfl ((k3 _)) ⟨sle_ptr, True.intro⟩ (HOLe.refl _) rfl rfl ?_; rintro _ _ ⟨rfl, rfl⟩; refine ⟨_, rfl, _, rfl, ?_⟩) | (refine o_callP rfl rfl rfl rfl ((k4 _)) ⟨sle_ptr, True.intro⟩ (HOLe.refl _) rfl rfl ?_; rintro _ _ ⟨rfl, rfl⟩; refine ⟨_, rfl, _, rfl, ?_⟩) | (refine o_callP rfl rfl rfl rfl ((k6 _)) ⟨sle_ptr, True.intro⟩ (HOLe.refl _) rfl rfl ?_; rintro _ _ ⟨rfl, rfl⟩; refine ⟨_, rfl, _, rfl, ?_⟩))
        exact ⟨(i + 1, p ++ [x], q3.2, _), [], ⟨hlt, by show (p ++ [x]).length = i + 1; rw [List.length_append, List.length_singleton, hpl], o5, hst⟩, by show n - (i + 1) < n - i; omega, rfl, ⟨sle_i hi1, sle_i rfl, sle_own, sle_ptr, True.intro⟩, HLe.cons 0 rfl (HOLe.refl _) (HLe.cons 37 rfl (HOLe.row (by rw [List.map_append]; show _ = _ ++ [x.A]; rw [hA]; rfl)) .nil)⟩
    · rw [if_neg hg] at hst
      subst hst
      have hg : chkLf x = 1 := by
        unfold chkLf at hg ⊢
        split
        · rfl
        · rename_i h; rw [if_neg h] at hg; exact absurd rfl hg
      rw [hg] at k7
      rcases hd with rfl | rfl
      all_goals
        repeat' (first | refine Awp.seq ?_ | refine Awp.block ?_ | refine Awp.region ?_ | (refine Ops.nil ?_; show Awp _ _ _ _ _) | (refine Awp.skip ?_; show Awp _ _ _ _ _) | (refine Awp.ret ?_; show endK _ _ _ _ _) | refine o_offT rfl rfl rfl (by first | exact .inl rfl | exact .inr rfl) ?_ | (refine o_calm rfl TtOk rfl rfl rfl ?_ (fun _ => ?_); exact nd) | refine o_alloc (d := 5) rfl TtOk rfl rfl rfl (fun b5 => ?_) | refine o_store TtOk rfl rfl rfl rfl rfl rfl rfl ⟨rfl, rfl⟩ rfl rfl rfl rfl rfl ?_ | refine o_build TtOk rfl rfl rfl rfl rfl rfl (by repeat' (first | exact True.intro | exact rfl | refine ⟨?_, ?_⟩)) ?_ | refine a_condT rfl ?_ | refine a_condF rfl ?_ | (refine a_condP rfl (fun hc => ?_) (fun hc => ?_)) <;> (try (exfalso; omega)) | (refine o_mkIface TtOk rfl rfl rfl rfl rfl rfl ?_) | (refine o_call0 rfl (k7) ⟨SLe.of_eq rfl, True.intro⟩ rfl ?_; rintro _ _ ⟨rfl, rfl⟩; refine ⟨rfl, ?_⟩) | (refine o_callP rfl rfl rfl rfl ((k2 _)) ⟨sle_ptr, True.intro⟩ (HOLe.refl _) rfl rfl ?_; rintro _ _ ⟨rfl, rfl⟩; refine ⟨_, rfl, _, rfl, ?_⟩) | (refine o_callP rfl rfl rfl rfl ((k3 _)) ⟨sle_ptr, True.intro⟩ (HOLe.refl _) rfl rfl ?_; rintro _ _ ⟨rfl, rfl⟩; refine ⟨_, rfl, _, rfl, ?_⟩) | (refine o_callP rfl rfl rfl rfl ((k4 _)) ⟨sle_ptr, True.intro⟩ (HOLe.refl _) rfl rfl ?_; rintro _ _ ⟨rfl, rfl⟩; refine ⟨_, rfl, _, rfl, ?_⟩) | (refine o_callP rfl rfl rfl rfl ((k6 _)) ⟨sle_ptr, True.intro⟩ (HOLe.refl _) rfl rfl ?_; rintro _ _ ⟨rfl, rfl⟩; refine ⟨_, rfl, _, rfl, ?_⟩))
        all_goals
          refine end_all [] [(0, _)] (.tup [.sl 65 [], .i .i64 1]) rfl ?_ ?_ (rle_tup2 CLe.nilsl (CLe.of_eq rfl) rfl rfl) (HLe.cons 0 rfl (HOLe.refl _) .nil) ⟨rfl, rfl⟩ _ (.inl rfl)
          · repeat' (first | exact True.intro | exact rfl | refine ⟨?_, ?_⟩)
          · exact ⟨trivial, trivial, trivial⟩
  · have hie : i = n := by omega
    rw [hie, Nat.sub_self, rLs] at hst
    subst hst
    repeat' (first | refine Awp.seq ?_ | refine Awp.region ?_ | (refine Ops.nil ?_; show Awp _ _ _ _ _) | (refine Awp.exit ?_; show Awp _ _ _ _ _) | (refine Awp.ret ?_; show endK _ _ _ _ _) | (refine o_calm rfl TtOk rfl rfl rfl ?_ (fun _ => ?_); exact nd) | (refine a_condP rfl (fun hc => ?_) (fun hc => ?_)) <;> (try (exfalso; omega)))
    refine end_all [37] [(0, _)] (.tup [.sl 65 (p.map Lef.A), .i .i64 0]) rfl ?_ ?_ (rle_tup2 (CLe.fz (.head _)) (CLe.of_eq rfl) rfl rfl) (HLe.cons 0 rfl (HOLe.refl _) .nil) ⟨rfl, rfl⟩ _ (.inl rfl)
    · repeat' (first | exact True.intro | exact rfl | refine ⟨?_, ?_⟩)
    · exact ⟨trivial, trivial, trivial⟩
theorem sread_spec (s : List UInt8) (hs : s.length ≤ 9223372036854775807) : Spec Tryz.prog 38 [.s s] [] (fun v os => v = .tup [(stRd s).1.A, .i .i64 (stRd s).2] ∧ os = []) := by
  have k0 := ropen_spec s
  have o0 := RS.ok_open hs
  obtain ⟨W, hW⟩ : ∃ W, stRd s = W := ⟨_, rfl⟩
  rw [hW]
  unfold stRd at hW
  have k1 := fun b => rbelow_spec b ((2001 : Nat) : Int) (RS.open s) o0
  have hn := below_lt (RS.open s) 2001 (by decide)
  have o1 := RS.ok_below o0 ((2001 : Nat) : Int)
  refine spec_of TtOk [] Tryz.func38 rfl Tryz.ntmps38 (by kernel_rfl) rfl rfl (fun C => ?_) rfl
  generalize (RS.open s).below ((2001 : Nat) : Int) = q at *
  obtain ⟨n, r1⟩ := q
  dsimp only at hW hn o1 k1
  repeat' (first | refine Awp.seq ?_ | refine Awp.block ?_ | refine Awp.region ?_ | (refine Ops.nil ?_; show Awp _ _ _ _ _) | (refine o_calm rfl TtOk rfl rfl rfl ?_ (fun _ => ?_); exact nd) | refine o_alloc (d := 2) rfl TtOk rfl rfl rfl (fun b2 => ?_) | refine o_alloc (d := 5) rfl TtOk rfl rfl rfl (fun b5 => ?_) | (refine o_callN rfl k0 ⟨SLe.of_eq rfl, True.intro⟩ rfl (fun bN => ?_)) | (refine o_callP rfl rfl rfl rfl ((k1 _)) ⟨sle_ptr, SLe.of_eq rfl, True.intro⟩ (HOLe.refl _) rfl rfl ?_; rintro _ _ ⟨rfl, rfl⟩; refine ⟨_, rfl, _, rfl, ?_⟩))
  refine Awp.loop (fun q : Nat × List Itm × RS × Value => ⟨74, [(14, .i .i64 q.1), (13, .i .i64 n), (4, .ptr 11 bN [] 0), (5, .ptr 5 b5 [] 0), (2, .ptr 2 b2 [] 0)], [(11, .var bN (rdA q.2.2.1)), (5, .var b5 (.agg [.own 44 q.2.2.2, .nil, .nil])), (44, .row q.2.2.2 50 66 (q.2.1.map Itm.A)), (2, .var b2 (.agg [.nil, .nil, .nil]))]⟩) (fun q => q.1 ≤ n ∧ q.2.1.length = q.1 ∧ q.2.2.1.ok ∧ stA (rIs (n - q.1) q.2.1 q.2.2.1) = W) (fun q => n - q.1) [] (0, [], r1, .slice none 0 0) ⟨Nat.zero_le _, rfl, o1, hW⟩ ?_ ?_
  · exact ⟨rfl, ⟨sle_i rfl, sle_i rfl, sle_ptr, sle_ptr, sle_ptr, True.intro⟩, HLe.cons 11 rfl (HOLe.refl _) (HLe.cons 5 rfl (HOLe.var (CLe.agg (.cons CLe.nilown (.cons (CLe.refl _) (.cons (CLe.refl _) .nil))))) (HLe.none (HLe.cons 2 rfl (HOLe.refl _) .nil)))⟩
  clear hW o1 k1 k0 o0
  rintro ⟨i, p, r, v⟩ ⟨hi, hpl, o1, hst⟩
  dsimp only at hi hpl o1 hst ⊢
  by_cases hlt : i < n
  · have hi1 : ((i : Int) + 1 = ((i + 1 : Nat) : Int)) := by omega
    rw [show n - i = (n - (i + 1)) + 1 by omega, rIs] at hst
    have k2 := fun b => rnumber_spec b r o1
    have k3 := fun b => rlabel_spec b _ (RS.ok_number o1)
    have k4 := fun b => rlabel_spec b _ (RS.ok_label (RS.ok_number o1))
    have k5 := fun b => rnumber_spec b _ (RS.ok_label (RS.ok_label (RS.ok_number o1)))
    have o5 := RS.ok_itm o1
    have k6 := fun b => rdone_spec b r.itm.2
    have hxo := itm_ok' r
    have k7 := ngood_spec r.itm.1 hxo
    have hA : r.itm.1.A = .agg [.agg [.i .i64 (r.number.1 : Nat), labA r.number.2.label.1], labA r.number.2.label.2.label.1, .i .i64 (r.number.2.label.2.label.2.number.1 : Nat)] := rfl
    have hB : r.itm.2 = r.number.2.label.2.label.2.number.2 := rfl
    rw [hA] at k7
    rw [hB] at k6 o5 hst
    generalize r.itm.1 = x at *
    generalize r.number.2.label.2.label.2.number = q4 at *
    generalize r.number.2.label.2.label = q3 at *
    generalize r.number.2.label = q2 at *
    generalize r.number = q1 at *
    by_cases hd : q4.2.done ≠ 0 ∧ q4.2.done ≠ 3
    · rw [if_pos hd] at hst
      obtain ⟨hd0, hd3⟩ := hd
      have hst : (stp0, q4.2.done) = W := by rw [← hst]; exact (if_pos hd0).symm
      subst hst
      generalize q4.2.done = d at *
      repeat' (first | refine Awp.seq ?_ | refine Awp.block ?_ | refine Awp.region ?_ | (refine Ops.nil ?_; show Awp _ _ _ _ _) | (refine Awp.skip ?_; show Awp _ _ _ _ _) | (refine Awp.ret ?_; show endK _ _ _ _ _) | (refine o_calm rfl TtOk rfl rfl rfl ?_ (fun _ => ?_); exact nd) | refine o_alloc (d := 6) rfl TtOk rfl rfl rfl (fun b6 => ?_) | refine o_store TtOk rfl rfl rfl rfl rfl rfl rfl ⟨rfl, rfl⟩ rfl rfl rfl rfl rfl ?_ | refine o_build TtOk rfl rfl rfl rfl rfl rfl (by repeat' (first | exact True.intro | exact rfl | refine ⟨?_, ?_⟩)) ?_ | (fail_if_success (refine o_isLit rfl (by first | exact .inl rfl | exact .inr rfl) ?_)); (refine o_splitN rfl rfl (fun hc => ?_) (fun hc => ?_) <;> try (exfalso; omega)) | (refine a_condP rfl (fun hc => ?_) (fun hc => ?_)) <;> (try (exfalso; omega)) | (refine a_condN rfl (fun hc => ?_) (fun hc => ?_)) <;> (try (exfalso; omega)) | (refine o_callP rfl rfl rfl rfl ((k2 _)) ⟨sle_ptr, True.intro⟩ (HOLe.refl _) rfl rfl ?_; rintro _ _ ⟨rfl, rfl⟩; refine ⟨_, rfl, _, rfl, ?_⟩) | (refine o_callP rfl rfl rfl rfl ((k3 _)) ⟨sle_ptr, True.intro⟩ (HOLe.refl _) rfl rfl ?_; rintro _ _ ⟨rfl, rfl⟩; refine ⟨_, rfl, _, rfl, ?_⟩) | (refine o_callP rfl rfl rfl rfl ((k4 _)) ⟨sle_ptr, True.intro⟩ (HOLe.refl _) rfl rfl ?_; rintro _ _ ⟨rfl, rfl⟩; refine ⟨_, rfl, _, rfl, ?_⟩) | (refine o_callP rfl rfl rfl rfl ((k5 _)) ⟨sle_ptr, True.intro⟩ (HOLe.refl _) rfl rfl ?_; rintro _ _ ⟨rfl, rfl⟩; refine ⟨_, rfl, _, rfl, ?_⟩) | (refine o_callP rfl rfl rfl rfl ((k6 _)) ⟨sle_ptr, True.intro⟩ (HOLe.refl _) rfl rfl ?_; rintro _ _ ⟨rfl, rfl⟩; refine ⟨_, rfl, _, rfl, ?_⟩))
      all_goals
        refine end_all [] [] (.tup [stp0.A, .i .i64 d]) rfl ?_ ?_ (rle_tup2 (CLe.agg (.cons CLe.nilsl (.cons CLe.nilsl (.cons CLe.nilsl .nil)))) (CLe.of_eq rfl) rfl rfl) .nil ⟨rfl, rfl⟩ _ (.inl rfl)
        · repeat' (first | exact True.intro | exact rfl | refine ⟨?_, ?_⟩)
        · exact ⟨trivial, trivial, trivial⟩
    rw [if_neg hd] at hst
    have hd : q4.2.done = 0 ∨ q4.2.done = 3 := by
      by_cases c : q4.2.done = 0
      · exact .inl c
      · exact .inr (Decidable.not_not.1 (fun b => hd ⟨c, b⟩))
    generalize q4.2.done = d at *
    by_cases hg : goodI x = true
    · rw [if_pos hg] at hst
      rw [hg] at k7
      rcases hd with rfl | rfl
      all_goals
        repeat' (first | refine Awp.seq ?_ | refine Awp.block ?_ | refine Awp.region ?_ | (refine Ops.nil ?_; show Awp _ _ _ _ _) | (refine Ops.nil ?_; show Exists _) | (refine Awp.skip ?_; show Awp _ _ _ _ _) | refine o_offT rfl rfl rfl (by first | exact .inl rfl | exact .inr rfl) ?_ | (refine o_add rfl rfl rfl rfl ?_ ?_; omega) | (refine o_calm rfl TtOk rfl rfl rfl ?_ (fun _ => ?_); exact nd) | refine o_alloc (d := 6) rfl TtOk rfl rfl rfl (fun b6 => ?_) | refine o_store TtOk rfl rfl rfl rfl rfl rfl rfl ⟨rfl, rfl⟩ rfl rfl rfl rfl rfl ?_ | refine o_build TtOk rfl rfl rfl rfl rfl rfl (by repeat' (first | exact True.intro | exact rfl | refine ⟨?_, ?_⟩)) ?_ | refine o_buildSlice (d := 43) TtOk rfl rfl rfl rfl rfl rfl rfl rfl rfl rfl rfl (by repeat' (first | exact True.intro | exact rfl | refine ⟨?_, ?_⟩)) (fun v43 => ?_) | (refine o_append TtOk rfl rfl rfl rfl rfl rfl rfl rfl rfl (by first | exact True.intro | exact rfl) rfl rfl (fun _ => rfl) ?_ ?_ (fun _ => ?_); ((repeat' (first | rw [List.length_append] | rw [List.length_map] | rw [List.length_cons] | rw [List.length_nil] | rw [List.length_take] | rw [List.length_drop])) <;> omega); ((repeat' (first | rw [List.length_append] | rw [List.length_map] | rw [List.length_cons] | rw [List.length_nil] | rw [List.length_take] | rw [List.length_drop])) <;> omega)) | refine a_condF rfl ?_ | (refine a_condP rfl (fun hc => ?_) (fun hc => ?_)) <;> (try (exfalso; omega)) | (refine o_call0 rfl (k7) ⟨SLe.of_eq rfl, True.intro⟩ rfl ?_; rintro _ _ ⟨rfl, rfl⟩; refine ⟨rfl, ?_⟩) | (refine o_callP rfl rfl rfl rfl ((k2 _)) ⟨sle_ptr, True.intro⟩ (HOLe.refl _) rfl rfl ?_; rintro _ _ ⟨rfl, rfl⟩; refine ⟨_, rfl, _, rfl, ?_⟩) | (refine o_callP rfl rfl rfl rfl ((k3 _)) ⟨sle_ptr, True.intro⟩ (HOLe.refl _) rfl rfl ?_; rintro _ _ ⟨rfl, rfl⟩; refine ⟨_, rfl, _, rfl, ?_⟩) | (refine o_callP rfl rfl rfl rfl ((k4 _)) ⟨sle_ptr, True.intro⟩ (HOLe.refl _) rfl rfl ?_; rintro _ _ ⟨rfl, rfl⟩; refine ⟨_, rfl, _, rfl, ?_⟩) | (refine o_callP rfl rfl rfl rfl ((k5 _)) ⟨sle_ptr, True.intro⟩ (HOLe.refl _) rfl rfl ?_; rintro _ _ ⟨rfl, rfl⟩; refine ⟨_, rfl, _, rfl, ?_⟩) | (refine o_callP rfl rfl rfl rfl ((k6 _)) ⟨sle_ptr, True.intro⟩ (HOLe.refl _) rfl rfl ?_; rintro _ _ ⟨rfl, rfl⟩; refine ⟨_, rfl, _, rfl, ?_⟩))
        exact ⟨(i + 1, p ++ [x], q4.2, _), [], ⟨hlt, by show (p ++ [x]).length = i + 1; rw [List.length_append, List.length_singleton, hpl], o5, hst⟩, by show n - (i + 1) < n - i; omega, rfl, ⟨sle_i hi1, sle_i rfl, sle_ptr, sle_ptr, sle_ptr, True.intro⟩, HLe.cons 11 rfl (HOLe.refl _) (HLe.cons 5 rfl (HOLe.refl _) (HLe.cons 44 rfl (HOLe.row (by rw [List.map_append]; show _ = _ ++ [x.A]; rw [hA]; rfl)) (HLe.cons 2 rfl (HOLe.refl _) .nil)))⟩
    · rw [if_neg hg] at hst
      have hst : (stp0, (1 : Int)) = W := hst
      subst hst
      have hg : goodI x = false := by
        cases q : goodI x with
        | true => exact absurd q hg
        | false => rfl
      rw [hg] at k7
      rcases hd with rfl | rfl
      all_goals
        repeat' (first | refine Awp.seq ?_ | refine Awp.block ?_ | refine Awp.region ?_ | (refine Ops.nil ?_; show Awp _ _ _ _ _) | (refine Awp.skip ?_; show Awp _ _ _ _ _) | (refine Awp.ret ?_; show endK _ _ _ _ _) | refine o_offT rfl rfl rfl (by first | exact .inl rfl | exact .inr rfl) ?_ | (refine o_calm rfl TtOk rfl rfl rfl ?_ (fun _ => ?_); exact nd) | refine o_alloc (d := 6) rfl TtOk rfl rfl rfl (fun b6 => ?_) | refine o_store TtOk rfl rfl rfl rfl rfl rfl rfl ⟨rfl, rfl⟩ rfl rfl rfl rfl rfl ?_ | refine o_build TtOk rfl rfl rfl rfl rfl rfl (by repeat' (first | exact True.intro | exact rfl | refine ⟨?_, ?_⟩)) ?_ | refine a_condT rfl ?_ | refine a_condF rfl ?_ | (refine a_condP rfl (fun hc => ?_) (fun hc => ?_)) <;> (try (exfalso; omega)) | (refine o_call0 rfl (k7) ⟨SLe.of_eq rfl, True.intro⟩ rfl ?_; rintro _ _ ⟨rfl, rfl⟩; refine ⟨rfl, ?_⟩) | (refine o_callP rfl rfl rfl rfl ((k2 _)) ⟨sle_ptr, True.intro⟩ (HOLe.refl _) rfl rfl ?_; rintro _ _ ⟨rfl, rfl⟩; refine ⟨_, rfl, _, rfl, ?_⟩) | (refine o_callP rfl rfl rfl rfl ((k3 _)) ⟨sle_ptr, True.intro⟩ (HOLe.refl _) rfl rfl ?_; rintro _ _ ⟨rfl, rfl⟩; refine ⟨_, rfl, _, rfl, ?_⟩) | (refine o_callP rfl rfl rfl rfl ((k4 _)) ⟨sle_ptr, True.intro⟩ (HOLe.refl _) rfl rfl ?_; rintro _ _ ⟨rfl, rfl⟩; refine ⟨_, rfl, _, rfl, ?_⟩) | (refine o_callP rfl rfl rfl rfl ((k5 _)) ⟨sle_ptr, True.intro⟩ (HOLe.refl _) rfl rfl ?_; rintro _ _ ⟨rfl, rfl⟩; refine ⟨_, rfl, _, rfl, ?_⟩) | (refine o_callP rfl rfl rfl rfl ((k6 _)) ⟨sle_ptr, True.intro⟩ (HOLe.refl _) rfl rfl ?_; rintro _ _ ⟨rfl, rfl⟩; refine ⟨_, rfl, _, rfl, ?_⟩))
        all_goals
          refine end_all [] [] (.tup [stp0.A, .i .i64 1]) rfl ?_ ?_ (rle_tup2 (CLe.agg (.cons CLe.nilsl (.cons CLe.nilsl (.cons CLe.nilsl .nil)))) (CLe.of_eq rfl) rfl rfl) .nil ⟨rfl, rfl⟩ _ (.inl rfl)
          · repeat' (first | exact True.intro | exact rfl | refine ⟨?_, ?_⟩)
          · exact ⟨trivial, trivial, trivial⟩
  have hie : i = n := by omega
  rw [hie, Nat.sub_self, rIs] at hst
  have hst : stB p (lvs r) = W := hst
  have k2 := fun b => leavesOf_spec b r o1
  have o2 := lvs_ok o1
  generalize lvs r = q1 at *
  obtain ⟨old, e1, r2⟩ := q1
  dsimp only at k2 o2
  unfold stB at hst
  dsimp only at hst
  by_cases he1 : e1 ≠ 0
  · rw [if_pos he1] at hst
    subst hst
    repeat' (first | refine Awp.seq ?_ | refine Awp.region ?_ | (refine Ops.nil ?_; show Awp _ _ _ _ _) | (refine Awp.exit ?_; show Awp _ _ _ _ _) | (refine Awp.ret ?_; show endK _ _ _ _ _) | (refine o_calm rfl TtOk rfl rfl rfl ?_ (fun _ => ?_); exact nd) | refine o_store TtOk rfl rfl rfl rfl rfl rfl rfl ⟨rfl, rfl⟩ rfl rfl rfl rfl rfl ?_ | refine o_build TtOk rfl rfl rfl rfl rfl rfl (by repeat' (first | exact True.intro | exact rfl | refine ⟨?_, ?_⟩)) ?_ | (refine a_condP rfl (fun hc => ?_) (fun hc => ?_)) <;> (try (exfalso; omega)) | (refine a_condN rfl (fun hc => ?_) (fun hc => ?_)) <;> (try (exfalso; omega)) | (refine o_callP rfl rfl rfl rfl ((k2 _)) ⟨sle_ptr, True.intro⟩ (HOLe.refl _) rfl rfl ?_; rintro _ _ ⟨rfl, rfl⟩; refine ⟨_, rfl, _, rfl, ?_⟩))
    all_goals
      refine end_all [] [] (.tup [stp0.A, .i .i64 e1]) rfl ?_ ?_ (rle_tup2 (CLe.agg (.cons CLe.nilsl (.cons CLe.nilsl (.cons CLe.nilsl .nil)))) (CLe.of_eq rfl) rfl rfl) .nil ⟨rfl, rfl⟩ _ (.inl rfl)
      · repeat' (first | exact True.intro | exact rfl | refine ⟨?_, ?_⟩)
      · exact ⟨trivial, trivial, trivial⟩
  rw [if_neg he1] at hst
  have he1 := Decidable.not_not.1 he1
  subst he1
  have k3 := fun b => leavesOf_spec b r2 o2
  have o3 := lvs_ok o2
  generalize lvs r2 = q2 at *
  obtain ⟨new, e2, r3⟩ := q2
  dsimp only at k3 o3
  unfold stC at hst
  dsimp only at hst
  by_cases he2 : e2 ≠ 0
  · rw [if_pos he2] at hst
    subst hst
    repeat' (first | refine Awp.seq ?_ | refine Awp.region ?_ | (refine Ops.nil ?_; show Awp _ _ _ _ _) | (refine Awp.skip ?_; show Awp _ _ _ _ _) | (refine Awp.exit ?_; show Awp _ _ _ _ _) | (refine Awp.ret ?_; show endK _ _ _ _ _) | (refine o_calm rfl TtOk rfl rfl rfl ?_ (fun _ => ?_); exact nd) | refine o_store TtOk rfl rfl rfl rfl rfl rfl rfl ⟨rfl, rfl⟩ rfl rfl rfl rfl rfl ?_ | refine o_build TtOk rfl rfl rfl rfl rfl rfl (by repeat' (first | exact True.intro | exact rfl | refine ⟨?_, ?_⟩)) ?_ | refine a_condF rfl ?_ | (refine a_condP rfl (fun hc => ?_) (fun hc => ?_)) <;> (try (exfalso; omega)) | (refine a_condN rfl (fun hc => ?_) (fun hc => ?_)) <;> (try (exfalso; omega)) | (refine o_callP rfl rfl rfl rfl ((k2 _)) ⟨sle_ptr, True.intro⟩ (HOLe.refl _) rfl rfl ?_; rintro _ _ ⟨rfl, rfl⟩; refine ⟨_, rfl, _, rfl, ?_⟩) | (refine o_callP rfl rfl rfl rfl ((k3 _)) ⟨sle_ptr, True.intro⟩ (HOLe.refl _) rfl rfl ?_; rintro _ _ ⟨rfl, rfl⟩; refine ⟨_, rfl, _, rfl, ?_⟩))
    all_goals
      refine end_all [] [] (.tup [stp0.A, .i .i64 e2]) rfl ?_ ?_ (rle_tup2 (CLe.agg (.cons CLe.nilsl (.cons CLe.nilsl (.cons CLe.nilsl .nil)))) (CLe.of_eq rfl) rfl rfl) .nil ⟨rfl, rfl⟩ _ (.inl rfl)
      · repeat' (first | exact True.intro | exact rfl | refine ⟨?_, ?_⟩)
      · exact ⟨trivial, trivial, trivial⟩
  rw [if_neg he2] at hst
  have he2 := Decidable.not_not.1 he2
  subst he2
  have k4 := fun b => rdone_spec b r3
  by_cases hd : r3.done ≠ 0
  · rw [if_pos hd] at hst
    subst hst
    generalize r3.done = d at *
    repeat' (first | refine Awp.seq ?_ | refine Awp.region ?_ | (refine Ops.nil ?_; show Awp _ _ _ _ _) | (refine Awp.skip ?_; show Awp _ _ _ _ _) | (refine Awp.exit ?_; show Awp _ _ _ _ _) | (refine Awp.ret ?_; show endK _ _ _ _ _) | (refine o_calm rfl TtOk rfl rfl rfl ?_ (fun _ => ?_); exact nd) | refine o_store TtOk rfl rfl rfl rfl rfl rfl rfl ⟨rfl, rfl⟩ rfl rfl rfl rfl rfl ?_ | refine o_build TtOk rfl rfl rfl rfl rfl rfl (by repeat' (first | exact True.intro | exact rfl | refine ⟨?_, ?_⟩)) ?_ | refine a_condF rfl ?_ | (refine a_condP rfl (fun hc => ?_) (fun hc => ?_)) <;> (try (exfalso; omega)) | (refine a_condN rfl (fun hc => ?_) (fun hc => ?_)) <;> (try (exfalso; omega)) | (refine o_callP rfl rfl rfl rfl ((k2 _)) ⟨sle_ptr, True.intro⟩ (HOLe.refl _) rfl rfl ?_; rintro _ _ ⟨rfl, rfl⟩; refine ⟨_, rfl, _, rfl, ?_⟩) | (refine o_callP rfl rfl rfl rfl ((k3 _)) ⟨sle_ptr, True.intro⟩ (HOLe.refl _) rfl rfl ?_; rintro _ _ ⟨rfl, rfl⟩; refine ⟨_, rfl, _, rfl, ?_⟩) | (refine o_callP rfl rfl rfl rfl ((k4 _)) ⟨sle_ptr, True.intro⟩ (HOLe.refl _) rfl rfl ?_; rintro _ _ ⟨rfl, rfl⟩; refine ⟨_, rfl, _, rfl, ?_⟩))
    all_goals
      refine end_all [] [] (.tup [stp0.A, .i .i64 d]) rfl ?_ ?_ (rle_tup2 (CLe.agg (.cons CLe.nilsl (.cons CLe.nilsl (.cons CLe.nilsl .nil)))) (CLe.of_eq rfl) rfl rfl) .nil ⟨rfl, rfl⟩ _ (.inl rfl)
      · repeat' (first | exact True.intro | exact rfl | refine ⟨?_, ?_⟩)
      · exact ⟨trivial, trivial, trivial⟩
  rw [if_neg hd] at hst
  have hd := Decidable.not_not.1 hd
  subst hst
  rw [hd] at k4
  repeat' (first | refine Awp.seq ?_ | refine Awp.region ?_ | (refine Ops.nil ?_; show Awp _ _ _ _ _) | (refine Awp.skip ?_; show Awp _ _ _ _ _) | (refine Awp.exit ?_; show Awp _ _ _ _ _) | (refine Awp.ret ?_; show endK _ _ _ _ _) | (refine o_calm rfl TtOk rfl rfl rfl ?_ (fun _ => ?_); exact nd) | refine o_store TtOk rfl rfl rfl rfl rfl rfl rfl ⟨rfl, rfl⟩ rfl rfl rfl rfl rfl ?_ | refine a_condF rfl ?_ | (refine a_condP rfl (fun hc => ?_) (fun hc => ?_)) <;> (try (exfalso; omega)) | (refine o_callP rfl rfl rfl rfl ((k2 _)) ⟨sle_ptr, True.intro⟩ (HOLe.refl _) rfl rfl ?_; rintro _ _ ⟨rfl, rfl⟩; refine ⟨_, rfl, _, rfl, ?_⟩) | (refine o_callP rfl rfl rfl rfl ((k3 _)) ⟨sle_ptr, True.intro⟩ (HOLe.refl _) rfl rfl ?_; rintro _ _ ⟨rfl, rfl⟩; refine ⟨_, rfl, _, rfl, ?_⟩) | (refine o_callP rfl rfl rfl rfl ((k4 _)) ⟨sle_ptr, True.intro⟩ (HOLe.refl _) rfl rfl ?_; rintro _ _ ⟨rfl, rfl⟩; refine ⟨_, rfl, _, rfl, ?_⟩))
  refine end_all [44] [] (.tup [(⟨p, old, new⟩ : Stp).A, .i .i64 0]) rfl ?_ ?_ (rle_tup2 (CLe.agg (.cons (CLe.fz (.head _)) (.cons (CLe.of_eq rfl) (.cons (CLe.of_eq rfl) .nil)))) (CLe.of_eq rfl) rfl rfl) .nil ⟨rfl, rfl⟩ _ (.inl rfl)
  · repeat' (first | exact True.intro | exact rfl | refine ⟨?_, ?_⟩)
  · exact ⟨trivial, trivial, trivial⟩
end Go.Proofs.YtcmgpkibjdbonaaGreat
