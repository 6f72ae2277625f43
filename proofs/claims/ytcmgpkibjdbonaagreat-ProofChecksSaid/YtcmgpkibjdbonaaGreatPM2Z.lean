/- law18.ProofSure by rules. -/
import Derived.Test.YtcmgpkibjdbonaaGreatPR1Z
import Derived.Test.YtcmgpkibjdbonaaGreatPF6
import Derived.Test.YtcmgpkibjdbonaaGreatPP2Z
import Derived.Test.YtcmgpkibjdbonaaGreatV31Z
set_option maxHeartbeats 16000000
set_option maxRecDepth 100000
namespace Go.Proofs.YtcmgpkibjdbonaaGreat
open Go Go.RowKit
theorem Rsn.side {l : List Lef} (h : Rsn l) (lb : List UInt8) : Rsn (sdL l lb) := by
  by_cases h2 : 1 < l.length
  · exact (side_step h (by omega) lb).1
  · unfold sdL; rw [if_neg h2]; exact h
theorem exL_len : ∀ (c : List Nod) (l : List Lef) (lb : List UInt8), (∀ n ∈ c, n.gd) → Rsn l → (exL c l lb).1.length ≤ 1000 ∧ (exL c l lb).2.1.length ≤ 1000
  | [], _, _, _, _ => ⟨Nat.zero_le _, Nat.zero_le _⟩
  | n :: r, l, lb, hg, h => by
    unfold exL
    by_cases he : n.txt = rlT l
    · rw [if_pos he]; exact exL_len r _ lb (fun m hm => hg m (List.mem_cons_of_mem _ hm)) (h.side lb)
    · rw [if_neg he]; exact ⟨nod_txt_len (hg n (List.mem_cons_self ..)), rlT_len h⟩
theorem exP_len {L : List Lef} {p : Prf} {lb : List UInt8} (hok : ∀ x ∈ L, x.ok) (hp : p.ok) : (exP L p lb).1.length ≤ 1000 ∧ (exP L p lb).2.1.length ≤ 1000 := by
  unfold exP
  by_cases hc : (ndsF p lb).2 ≠ 0 ∨ mkE L ≠ 0
  · rw [if_pos hc]; exact ⟨Nat.zero_le _, Nat.zero_le _⟩
  · rw [if_neg hc]
    have h1 : (ndsF p lb).2 = 0 := Decidable.not_not.1 (fun h => hc (.inl h))
    have h2 : mkE L = 0 := Decidable.not_not.1 (fun h => hc (.inr h))
    have hS := rsn_srt hok h2
    unfold exC
    by_cases h0 : (ndsF p lb).1.reverse = []
    · rw [if_pos h0]
      split
      · exact ⟨Nat.zero_le _, Nat.zero_le _⟩
      · exact ⟨by show [18].length ≤ 1000; decide, rlT_len hS⟩
    · rw [if_neg h0]
      refine exL_len _ _ _ (fun n hn => ?_) hS
      rcases nds_chain hp h1 with ⟨_, h, _⟩ | ⟨_, h, _⟩
      · rw [h] at hn; cases hn
      · exact h.all n hn
end Go.Proofs.YtcmgpkibjdbonaaGreat
set_option maxHeartbeats 16000000
set_option maxRecDepth 100000
namespace Go.Proofs.YtcmgpkibjdbonaaGreat
open Go Go.RowKit
theorem com_refl {a : List UInt8} (h : a.length = 32) : comL a a = 256 := by rw [com_self, h]
theorem chkN_R {x y : Itm} (hx : x.ok) : chkN x y = if goodI x = true ∧ goodI y = true then (if x.n ≤ (comL x.l y.l : Nat) ∨ y.n ≤ (comL x.l y.l : Nat) ∨ cmpS x.l y.l ≠ -1 then 3 else 0) else 1 := by
  unfold chkN
  by_cases hg : goodI x = true ∧ goodI y = true
  · rw [if_pos hg, if_pos hg]
    have hn := good_n hg.1
    rcases cmpS_cases x.l y.l with q | q | q
    · by_cases hc : x.n ≤ (comL x.l y.l : Nat) ∨ y.n ≤ (comL x.l y.l : Nat)
      · rw [if_pos (by omega), if_pos (by omega)]
      · rw [if_neg (by omega), if_neg (by omega)]
    · have hl := cmpS_zero.1 q
      have hc := com_refl hx.1
      rw [← hl, hc, if_pos (.inl (by omega)), if_pos (.inl (by omega))]
    · rw [if_pos (.inr (.inr (by omega))), if_pos (.inr (.inr (by omega)))]
  · rw [if_neg hg, if_neg hg]
theorem rchk15_spec (x y : Itm) (hx : x.ok) (hy : y.ok) : Spec Tryz.prog 88 [x.R, y.R] [] (fun v os => v = .i .i64 (chkN x y) ∧ os = []) := by
  have h1 := rgood15_spec x hx
  have h2 := rgood15_spec y hy
  have h3 := rcommon_spec x.l y.l hx.1 hy.1
  have h4 := rorder_spec x.l y.l hx.1 hy.1
  rw [chkN_R hx]
  have ho := cmpS_cases x.l y.l
  have hxR : x.R = .agg [.i .i64 x.n, labA x.l, labA x.s, .i .i64 x.t] := rfl
  have hyR : y.R = .agg [.i .i64 y.n, labA y.l, labA y.s, .i .i64 y.t] := rfl
  rw [hxR] at h1 ⊢
  rw [hyR] at h2 ⊢
  generalize goodI x = a at *
  generalize goodI y = b at *
  generalize comL x.l y.l = n at *
  generalize cmpS x.l y.l = o at *
  refine spec_of TtOk [] Tryz.func88 rfl Tryz.ntmps88 (by kernel_rfl) rfl rfl (fun C => ?_) rfl
  by_cases hab : a = true ∧ b = true
  · rw [if_pos hab]
    obtain ⟨rfl, rfl⟩ := hab
    by_cases hd : x.n ≤ (n : Nat) ∨ y.n ≤ (n : Nat) ∨ o ≠ -1
    · rw [if_pos hd]
      repeat' (first | refine Awp.seq ?_ | refine Awp.region ?_ | refine Ops.nil (nqA ?_) | refine Awp.skip (nqA ?_) | refine Awp.ret (nqE ?_) | refine o_noF rfl rfl rfl ?_ | (refine o_calm rfl TtOk rfl rfl rfl ?_ (fun _ => ?_); exact nd) | refine o_box (d := 2) rfl rfl rfl rfl (fun b2 => ?_) | refine o_box (d := 3) rfl rfl rfl rfl (fun b3 => ?_) | (fail_if_success (refine o_isLit rfl (by first | exact .inl rfl | exact .inr rfl) ?_)); (refine o_splitP rfl rfl (fun hc => ?_) (fun hc => ?_) <;> try (exfalso; omega)) | refine a_condT rfl ?_ | refine a_condF rfl ?_ | (refine a_condN rfl (fun hc => ?_) (fun hc => ?_)) <;> (try (exfalso; omega)) | refine o_callE rfl (h1) ⟨nqS, True.intro⟩ rfl ?_ | refine o_callE rfl (h2) ⟨nqS, True.intro⟩ rfl ?_ | refine o_callE rfl (h3) ⟨nqS, nqS, True.intro⟩ rfl ?_ | refine o_callE rfl (h4) ⟨nqS, nqS, True.intro⟩ rfl ?_)
      all_goals exact nq2
    · rw [if_neg hd]
      repeat' (first | refine Awp.seq ?_ | refine Awp.region ?_ | refine Ops.nil (nqA ?_) | refine Awp.skip (nqA ?_) | refine Awp.ret (nqE ?_) | (refine o_calm rfl TtOk rfl rfl rfl ?_ (fun _ => ?_); exact nd) | refine o_box (d := 2) rfl rfl rfl rfl (fun b2 => ?_) | refine o_box (d := 3) rfl rfl rfl rfl (fun b3 => ?_) | (fail_if_success (refine o_isLit rfl (by first | exact .inl rfl | exact .inr rfl) ?_)); (refine o_splitP rfl rfl (fun hc => ?_) (fun hc => ?_) <;> try (exfalso; omega)) | refine a_condF rfl ?_ | (refine a_condN rfl (fun hc => ?_) (fun hc => ?_)) <;> (try (exfalso; omega)) | refine o_callE rfl (h1) ⟨nqS, True.intro⟩ rfl ?_ | refine o_callE rfl (h2) ⟨nqS, True.intro⟩ rfl ?_ | refine o_callE rfl (h3) ⟨nqS, nqS, True.intro⟩ rfl ?_ | refine o_callE rfl (h4) ⟨nqS, nqS, True.intro⟩ rfl ?_)
      all_goals exact nq2
  · rw [if_neg hab]
    cases a <;> cases b
    case true.true => exact absurd ⟨rfl, rfl⟩ hab
    all_goals
      repeat' (first | refine Awp.seq ?_ | refine Awp.region ?_ | refine Ops.nil (nqA ?_) | refine Awp.ret (nqE ?_) | refine o_noF rfl rfl rfl ?_ | (refine o_calm rfl TtOk rfl rfl rfl ?_ (fun _ => ?_); exact nd) | refine o_box (d := 2) rfl rfl rfl rfl (fun b2 => ?_) | refine o_box (d := 3) rfl rfl rfl rfl (fun b3 => ?_) | refine a_condT rfl ?_ | refine o_callE rfl (h1) ⟨nqS, True.intro⟩ rfl ?_ | refine o_callE rfl (h2) ⟨nqS, True.intro⟩ rfl ?_)
      all_goals exact nq2
theorem innI_good {x y : Itm} (hx : x.ok) : goodP (innI x y).p = true := good_cut hx.1 (comL_256 hx.1)
theorem getq_last {α : Type} (f : α → AV) (pre : List α) (x : α) : ((pre ++ [x]).map f)[pre.length]? = some (f x) := by simp
theorem rnodes18_spec (p : Prf) (hp : p.ok) (hl : p.path.length ≤ 100000) (lb : List UInt8) (hlb : lb.length = 32) : Spec Tryz.prog 23 [p.R, labA lb] [] (fun v os => v = .tup [.sl 1 ((ndsF p lb).1.map (fun n => sA n.txt)), .sl 66 ((ndsF p lb).1.map (fun n => n.itm.R)), .i .i64 (ndsF p lb).2] ∧ os = []) := by
  obtain ⟨e, lf, a, b, path⟩ := p
  obtain ⟨olf, oa, ob, opa⟩ := hp
  dsimp only at olf oa ob opa hl
  have hlf0 : lf.A = .agg [labA lf.l, labA lf.v, .i .i64 lf.t] := rfl
  show Spec Tryz.prog 23 [.agg [.i .i64 e, lf.A, a.R, b.R, .sl 66 (path.map Itm.R)], labA lb] [] _
  obtain ⟨F, hF⟩ : ∃ F, ndsF ⟨e, lf, a, b, path⟩ lb = F := ⟨_, rfl⟩
  rw [hF]
  unfold ndsF at hF
  dsimp only at hF
  refine spec_of TtOk [] Tryz.func23 rfl Tryz.ntmps23 (by kernel_rfl) rfl rfl (fun C => ?_) rfl
  by_cases h256 : 256 < path.length
  · rw [if_pos h256] at hF
    subst hF
    repeat' (first | refine Awp.seq ?_ | refine Awp.region ?_ | refine Ops.nil (nqA ?_) | refine Awp.ret (nqE ?_) | refine o_len rfl TtOk rfl rfl rfl (fun _ => ?_) | (refine o_calm rfl TtOk rfl rfl rfl ?_ (fun _ => ?_); exact nd) | refine o_box (d := 2) rfl rfl rfl rfl (fun b2 => ?_) | refine o_box (d := 3) rfl rfl rfl rfl (fun b3 => ?_) | (refine a_condP rfl (fun hc => ?_) (fun hc => ?_)) <;> (try (exfalso; omega)))
    all_goals
      refine end_all [] [] (.tup [.sl 1 [], .sl 66 [], .i .i64 2]) rfl ?_ ?_ (rle_tup3c CLe.nilsl CLe.nilsl (CLe.of_eq rfl) rfl rfl rfl) .nil ⟨rfl, rfl⟩ _ (.inl rfl)
      · exact nq1
      · exact ⟨trivial, trivial, trivial, trivial⟩
  rw [if_neg h256] at hF
  refine Awp.seq ?_
  repeat' (first | refine Awp.region ?_ | refine Ops.nil (nqA ?_) | (refine o_calm rfl TtOk rfl rfl rfl ?_ (fun _ => ?_); exact nd) | refine o_box (d := 2) rfl rfl rfl rfl (fun b2 => ?_) | refine o_box (d := 3) rfl rfl rfl rfl (fun b3 => ?_))
  refine Awp.seq ?_
  refine Awp.seq ?_
  repeat' (first | refine Awp.region ?_ | refine Ops.nil (nqA ?_) | refine o_len rfl TtOk rfl rfl rfl (fun _ => ?_) | (refine o_calm rfl TtOk rfl rfl rfl ?_ (fun _ => ?_); exact nd))
  refine a_condP rfl (fun hc => absurd hc (by omega)) (fun hc => ?_)
  clear hc
  refine Awp.skip ?_
  show Awp _ _ _ _ _
  refine Awp.seq ?_
  repeat' (first | refine Awp.region ?_ | refine Ops.nil (nqA ?_) | (refine o_calm rfl TtOk rfl rfl rfl ?_ (fun _ => ?_); exact nd) | refine o_buildSlice (d := 21) TtOk rfl rfl rfl rfl rfl rfl rfl rfl rfl rfl rfl nq1 (fun v21 => ?_) | refine o_buildSlice (d := 22) TtOk rfl rfl rfl rfl rfl rfl rfl rfl rfl rfl rfl nq1 (fun v22 => ?_))
  refine Awp.seqI (X := Nod × Value × Value) (fun q => ⟨149, [(7, .own 21 q.2.1), (8, .own 22 q.2.2), (2, .ptr 2 b2 [] 0), (3, .ptr 3 b3 [] 0)], [(21, .row q.2.1 9 1 ([q.1].map (fun n => sA n.txt))), (22, .row q.2.2 62 66 ([q.1].map (fun n => n.itm.R))), (2, .var b2 (.agg [.i .i64 e, lf.A, a.R, b.R, .sl 66 (path.map Itm.R)])), (3, .var b3 (labA lb))]⟩) (fun q => q.1.itm.ok ∧ fin_ [q.1] (upsF q.1.itm path lb) = F) ?_ ?_
  · by_cases he0 : e = 0
    · subst he0
      rw [if_pos rfl] at hF
      by_cases h0 : path.length = 0
      · rw [if_pos h0] at hF
        subst hF
        repeat' (first | refine Awp.seq ?_ | refine Awp.block ?_ | refine Awp.region ?_ | refine Ops.nil (nqA ?_) | refine Awp.skip (nqA ?_) | refine Awp.ret (nqE ?_) | refine o_len rfl TtOk rfl rfl rfl (fun _ => ?_) | (refine o_calm rfl TtOk rfl rfl rfl ?_ (fun _ => ?_); exact nd) | refine a_condT rfl ?_ | (refine a_condP rfl (fun hc => ?_) (fun hc => ?_)) <;> (try (exfalso; omega)))
        all_goals
          refine end_all [21, 22] [] (.tup [.sl 1 [], .sl 66 [], .i .i64 0]) rfl ?_ ?_ (rle_tup3c (CLe.fz (.head _)) (CLe.fz (.tail _ (.head _))) (CLe.of_eq rfl) rfl rfl rfl) .nil ⟨rfl, rfl⟩ _ (.inl rfl)
          · exact nq1
          · exact ⟨trivial, trivial, trivial, trivial⟩
      · rw [if_neg h0] at hF
        subst hF
        repeat' (first | refine Awp.seq ?_ | refine Awp.block ?_ | refine Awp.region ?_ | refine Ops.nil (nqA ?_) | refine Awp.ret (nqE ?_) | refine o_len rfl TtOk rfl rfl rfl (fun _ => ?_) | (refine o_calm rfl TtOk rfl rfl rfl ?_ (fun _ => ?_); exact nd) | refine a_condT rfl ?_ | (refine a_condP rfl (fun hc => ?_) (fun hc => ?_)) <;> (try (exfalso; omega)))
        all_goals
          refine end_all [] [] (.tup [.sl 1 [], .sl 66 [], .i .i64 3]) rfl ?_ ?_ (rle_tup3c CLe.nilsl CLe.nilsl (CLe.of_eq rfl) rfl rfl rfl) .nil ⟨rfl, rfl⟩ _ (.inl rfl)
          · exact nq1
          · exact ⟨trivial, trivial, trivial, trivial⟩
    rw [if_neg he0] at hF
    by_cases he1 : e = 1
    · subst he1
      rw [if_pos rfl] at hF
      have hl1 := rleafB_spec lf olf
      have hl2 := rleaf_spec lf olf
      have hct : chkLf lf = if lf.t < 0 ∨ 1073741824 < lf.t then 1 else 0 := rfl
      rw [hct] at hF
      have okl := leafI_ok lf olf
      by_cases hc1 : lf.t < 0 ∨ 1073741824 < lf.t
      · rw [if_pos hc1, if_pos (by decide)] at hF
        subst hF
        repeat' (first | refine Awp.seq ?_ | refine Awp.block ?_ | refine Awp.region ?_ | refine Ops.nil (nqA ?_) | refine Awp.ret (nqE ?_) | refine o_noF rfl rfl rfl ?_ | (refine o_calm rfl TtOk rfl rfl rfl ?_ (fun _ => ?_); exact nd) | (fail_if_success (refine o_isLit rfl (by first | exact .inl rfl | exact .inr rfl) ?_)); (refine o_splitP rfl rfl (fun hc => ?_) (fun hc => ?_) <;> try (exfalso; omega)) | refine a_condT rfl ?_ | refine a_condF rfl ?_ | (refine a_condP rfl (fun hc => ?_) (fun hc => ?_)) <;> (try (exfalso; omega)))
        all_goals
          refine end_all [] [] (.tup [.sl 1 [], .sl 66 [], .i .i64 1]) rfl ?_ ?_ (rle_tup3c CLe.nilsl CLe.nilsl (CLe.of_eq rfl) rfl rfl rfl) .nil ⟨rfl, rfl⟩ _ (.inl rfl)
          · exact nq1
          · exact ⟨trivial, trivial, trivial, trivial⟩
      · rw [if_neg hc1, if_neg (by decide)] at hF
        repeat' (first | refine Awp.seq ?_ | refine Awp.block ?_ | refine Awp.region ?_ | refine Ops.nil (nqA ?_) | refine Ops.nil (nqX ?_) | refine Awp.skip (nqA ?_) | (refine o_calm rfl TtOk rfl rfl rfl ?_ (fun _ => ?_); exact nd) | refine o_buildSlice TtOk rfl rfl rfl rfl rfl rfl rfl rfl rfl rfl rfl nq1 (fun _ => ?_) | (refine o_append TtOk rfl rfl rfl rfl rfl rfl rfl rfl rfl (by first | exact True.intro | exact rfl) rfl rfl (fun _ => rfl) ?_ ?_ (fun _ => ?_); ((repeat' (first | rw [List.length_append] | rw [List.length_map] | rw [List.length_cons] | rw [List.length_nil] | rw [List.length_take] | rw [List.length_drop])) <;> omega); ((repeat' (first | rw [List.length_append] | rw [List.length_map] | rw [List.length_cons] | rw [List.length_nil] | rw [List.length_take] | rw [List.length_drop])) <;> omega)) | (fail_if_success (refine o_isLit rfl (by first | exact .inl rfl | exact .inr rfl) ?_)); (refine o_splitP rfl rfl (fun hc => ?_) (fun hc => ?_) <;> try (exfalso; omega)) | refine a_condT rfl ?_ | refine a_condF rfl ?_ | (refine a_condP rfl (fun hc => ?_) (fun hc => ?_)) <;> (try (exfalso; omega)) | refine o_callE rfl (hl1) ⟨nqS, True.intro⟩ rfl ?_ | refine o_callE rfl (hl2) ⟨nqS, True.intro⟩ rfl ?_)
        all_goals exact ⟨(.lf lf, _, _), [], ⟨okl, hF⟩, rfl, ⟨sle_own, sle_own, sle_ptr, sle_ptr, True.intro⟩, HLe.cons 21 rfl (HOLe.refl _) (HLe.cons 22 rfl (HOLe.refl _) (HLe.cons 2 rfl (HOLe.refl _) (HLe.cons 3 rfl (HOLe.refl _) .nil)))⟩
    rw [if_neg he1] at hF
    by_cases he2 : e = 2
    · subst he2
      rw [if_pos rfl] at hF
      have hcn := rchk15_spec a b oa ob
      have hi1 := rinnB_spec a b oa ob
      have hi2 := rinner_spec a b oa ob
      have oki := innI_ok a b oa
      have hhs := rhas_spec (innI a b) oki (innI_good oa) lb hlb
      generalize chkN a b = c at *
      by_cases hc1 : c ≠ 0
      · rw [if_pos hc1] at hF
        subst hF
        repeat' (first | refine Awp.seq ?_ | refine Awp.block ?_ | refine Awp.region ?_ | refine Ops.nil (nqA ?_) | refine Awp.ret (nqE ?_) | (refine o_calm rfl TtOk rfl rfl rfl ?_ (fun _ => ?_); exact nd) | refine a_condT rfl ?_ | refine a_condF rfl ?_ | (refine a_condN rfl (fun hc => ?_) (fun hc => ?_)) <;> (try (exfalso; omega)) | refine o_callE rfl (hcn) ⟨nqS, nqS, True.intro⟩ rfl ?_)
        all_goals
          refine end_all [] [] (.tup [.sl 1 [], .sl 66 [], .i .i64 c]) rfl ?_ ?_ (rle_tup3c CLe.nilsl CLe.nilsl (CLe.of_eq rfl) rfl rfl rfl) .nil ⟨rfl, rfl⟩ _ (.inl rfl)
          · exact nq1
          · exact ⟨trivial, trivial, trivial, trivial⟩
      · rw [if_neg hc1] at hF
        have hc1 := Decidable.not_not.1 hc1
        subst hc1
        have hz : (Nod.inn a b).itm = innI a b := rfl
        have hF2 : (if hasP (innI a b).p lb = true then ([], 11) else fin_ [.inn a b] (upsF (Nod.inn a b).itm path lb)) = F := hF
        clear hF
        generalize hasP (innI a b).p lb = hb at *
        cases hb
        · rw [if_neg (by decide)] at hF2
          repeat' (first | refine Awp.seq ?_ | refine Awp.block ?_ | refine Awp.region ?_ | refine Ops.nil (nqA ?_) | refine Awp.skip (nqA ?_) | refine Awp.skip (nqX ?_) | (refine o_calm rfl TtOk rfl rfl rfl ?_ (fun _ => ?_); exact nd) | refine o_buildSlice TtOk rfl rfl rfl rfl rfl rfl rfl rfl rfl rfl rfl nq1 (fun _ => ?_) | (refine o_append TtOk rfl rfl rfl rfl rfl rfl rfl rfl rfl (by first | exact True.intro | exact rfl) rfl rfl (fun _ => rfl) ?_ ?_ (fun _ => ?_); ((repeat' (first | rw [List.length_append] | rw [List.length_map] | rw [List.length_cons] | rw [List.length_nil] | rw [List.length_take] | rw [List.length_drop])) <;> omega); ((repeat' (first | rw [List.length_append] | rw [List.length_map] | rw [List.length_cons] | rw [List.length_nil] | rw [List.length_take] | rw [List.length_drop])) <;> omega)) | refine a_condT rfl ?_ | refine a_condF rfl ?_ | refine a_any 21 [] [] [] [0, 1, 2, 3, 4] (by kernel_rfl) (by kernel_rfl) (by kernel_rfl) rfl rfl rfl ?_ | (refine o_indexOwn TtOk rfl rfl rfl rfl rfl rfl rfl rfl 0 rfl (Nat.zero_lt_one) (fun bO hbO => ?_)) | (refine o_loadRow TtOk rfl rfl rfl rfl rfl (by assumption) rfl rfl rfl (by first | exact Nat.add_zero _ | rfl) ⟨rfl, rfl⟩ ?_) | refine o_callE rfl (hcn) ⟨nqS, nqS, True.intro⟩ rfl ?_ | refine o_callE rfl (hi1) ⟨nqS, nqS, True.intro⟩ rfl ?_ | refine o_callE rfl (hi2) ⟨nqS, nqS, True.intro⟩ rfl ?_ | refine o_callE rfl (hhs) ⟨nqS, nqS, True.intro⟩ rfl ?_)
          all_goals exact ⟨(.inn a b, _, _), [], ⟨oki, hF2⟩, rfl, ⟨sle_own, sle_own, sle_ptr, sle_ptr, True.intro⟩, HLe.cons 21 rfl (HOLe.refl _) (HLe.cons 22 rfl (HOLe.refl _) (HLe.cons 2 rfl (HOLe.refl _) (HLe.cons 3 rfl (HOLe.refl _) .nil)))⟩
        · rw [if_pos rfl] at hF2
          subst hF2
          repeat' (first | refine Awp.seq ?_ | refine Awp.block ?_ | refine Awp.region ?_ | refine Ops.nil (nqA ?_) | refine Awp.skip (nqA ?_) | refine Awp.ret (nqE ?_) | (refine o_calm rfl TtOk rfl rfl rfl ?_ (fun _ => ?_); exact nd) | refine o_buildSlice TtOk rfl rfl rfl rfl rfl rfl rfl rfl rfl rfl rfl nq1 (fun _ => ?_) | (refine o_append TtOk rfl rfl rfl rfl rfl rfl rfl rfl rfl (by first | exact True.intro | exact rfl) rfl rfl (fun _ => rfl) ?_ ?_ (fun _ => ?_); ((repeat' (first | rw [List.length_append] | rw [List.length_map] | rw [List.length_cons] | rw [List.length_nil] | rw [List.length_take] | rw [List.length_drop])) <;> omega); ((repeat' (first | rw [List.length_append] | rw [List.length_map] | rw [List.length_cons] | rw [List.length_nil] | rw [List.length_take] | rw [List.length_drop])) <;> omega)) | refine a_condT rfl ?_ | refine a_condF rfl ?_ | refine a_any 21 [] [] [] [0, 1, 2, 3, 4] (by kernel_rfl) (by kernel_rfl) (by kernel_rfl) rfl rfl rfl ?_ | (refine o_indexOwn TtOk rfl rfl rfl rfl rfl rfl rfl rfl 0 rfl (Nat.zero_lt_one) (fun bO hbO => ?_)) | (refine o_loadRow TtOk rfl rfl rfl rfl rfl (by assumption) rfl rfl rfl (by first | exact Nat.add_zero _ | rfl) ⟨rfl, rfl⟩ ?_) | refine o_callE rfl (hcn) ⟨nqS, nqS, True.intro⟩ rfl ?_ | refine o_callE rfl (hi1) ⟨nqS, nqS, True.intro⟩ rfl ?_ | refine o_callE rfl (hi2) ⟨nqS, nqS, True.intro⟩ rfl ?_ | refine o_callE rfl (hhs) ⟨nqS, nqS, True.intro⟩ rfl ?_)
          all_goals
            refine end_all [] [] (.tup [.sl 1 [], .sl 66 [], .i .i64 11]) rfl ?_ ?_ (rle_tup3c CLe.nilsl CLe.nilsl (CLe.of_eq rfl) rfl rfl rfl) .nil ⟨rfl, rfl⟩ _ (.inl rfl)
            · exact nq1
            · exact ⟨trivial, trivial, trivial, trivial⟩
    · rw [if_neg he2] at hF
      subst hF
      repeat' (first | refine Awp.seq ?_ | refine Awp.block ?_ | refine Awp.region ?_ | refine Ops.nil (nqA ?_) | refine Awp.ret (nqE ?_) | (refine o_calm rfl TtOk rfl rfl rfl ?_ (fun _ => ?_); exact nd) | (refine a_condP rfl (fun hc => ?_) (fun hc => ?_)) <;> (try (exfalso; omega)))
      all_goals
        refine end_all [] [] (.tup [.sl 1 [], .sl 66 [], .i .i64 1]) rfl ?_ ?_ (rle_tup3c CLe.nilsl CLe.nilsl (CLe.of_eq rfl) rfl rfl rfl) .nil ⟨rfl, rfl⟩ _ (.inl rfl)
        · exact nq1
        · exact ⟨trivial, trivial, trivial, trivial⟩
  rintro ⟨n0, v1, v2⟩ ⟨hok, hst⟩
  dsimp only at hok hst ⊢
  clear hF
  repeat' (first | refine Awp.seq ?_ | refine Awp.block ?_ | refine Awp.region ?_ | refine Ops.nil (nqA ?_) | refine o_len rfl TtOk rfl rfl rfl (fun _ => ?_) | (refine o_calm rfl TtOk rfl rfl rfl ?_ (fun _ => ?_); exact nd))
  refine Awp.loop (fun q : Nat × List Nod × Nod × Value × Value => ⟨149, [(91, .i .i64 q.1), (90, .i .i64 path.length), (89, .sl 66 (path.map Itm.R)), (7, .own 21 q.2.2.2.1), (8, .own 22 q.2.2.2.2), (3, .ptr 3 b3 [] 0)], [(21, .row q.2.2.2.1 9 1 ((q.2.1 ++ [q.2.2.1]).map (fun n => sA n.txt))), (22, .row q.2.2.2.2 62 66 ((q.2.1 ++ [q.2.2.1]).map (fun n => n.itm.R))), (3, .var b3 (labA lb))]⟩) (fun q => q.1 ≤ path.length ∧ q.2.1.length = q.1 ∧ q.2.2.1.itm.ok ∧ fin_ (q.2.1 ++ [q.2.2.1]) (upsF q.2.2.1.itm (path.drop q.1) lb) = F) (fun q => path.length - q.1) [] (0, [], n0, v1, v2) ⟨Nat.zero_le _, rfl, hok, hst⟩ ?_ ?_
  · exact ⟨rfl, ⟨sle_i rfl, sle_i rfl, sle_sl rfl, sle_own, sle_own, sle_ptr, True.intro⟩, HLe.cons 21 rfl (HOLe.refl _) (HLe.cons 22 rfl (HOLe.refl _) (HLe.cons 3 rfl (HOLe.refl _) .nil))⟩
  clear hok hst
  rintro ⟨i, acc, n, u, v⟩ ⟨hi, ha, hx, hst⟩
  dsimp only at hi ha hx hst ⊢
  by_cases hlt : i < path.length
  · have oy := opa _ (List.getElem_mem hlt)
    have hor := rorder_spec n.itm.l path[i].l hx.1 oy.1
    obtain ⟨oL, oR⟩ := upLR_ok hx oy
    rw [List.drop_eq_getElem_cons hlt, upsF] at hst
    have hu : upE n.itm path[i] lb = if chkN (upL n.itm path[i]) (upR n.itm path[i]) ≠ 0 then chkN (upL n.itm path[i]) (upR n.itm path[i]) else if hasP (innI (upL n.itm path[i]) (upR n.itm path[i])).p lb = true ∧ bitN lb (comL (upL n.itm path[i]).l (upR n.itm path[i]).l) = bitN n.itm.l (comL (upL n.itm path[i]).l (upR n.itm path[i]).l) then 0 else 11 := rfl
    have ho : (cmpS n.itm.l path[i].l = 1 ∧ upL n.itm path[i] = path[i] ∧ upR n.itm path[i] = n.itm) ∨ (cmpS n.itm.l path[i].l ≠ 1 ∧ upL n.itm path[i] = n.itm ∧ upR n.itm path[i] = path[i]) := by
      unfold upL upR
      rcases cmpS_cases n.itm.l path[i].l with q | q | q
      · rw [q]; exact .inr ⟨by decide, rfl, rfl⟩
      · rw [q]; exact .inr ⟨by decide, rfl, rfl⟩
      · rw [q]; exact .inl ⟨rfl, rfl, rfl⟩
    generalize upE n.itm path[i] lb = U at *
    generalize upL n.itm path[i] = L at *
    generalize upR n.itm path[i] = R at *
    generalize cmpS n.itm.l path[i].l = o at *
    have hck := rchk15_spec _ _ oL oR
    have htx := rinnB_spec _ _ oL oR
    have hin := rinner_spec _ _ oL oR
    have oz := innI_ok L R oL
    have hhs := rhas_spec _ oz (innI_good oL) lb hlb
    have hcf : chkN L R = 0 → comL L.l R.l < 256 := fun h => by
      obtain ⟨g1, _, g3, _⟩ := chkN_good h
      have := good_n g1
      omega
    have hi1 : ((i : Int) + 1 = ((i + 1 : Nat) : Int)) := by omega
    refine Awp.seq ?_
    repeat' (first | refine Awp.region ?_ | refine Ops.nil (nqA ?_) | (refine o_calm rfl TtOk rfl rfl rfl ?_ (fun _ => ?_); exact nd))
    refine Awp.seq ?_
    refine a_condP rfl (fun _ => ?_) (fun h => absurd hlt (by omega))
    refine Awp.skip ?_
    show Awp _ _ _ _ _
    refine Awp.seq ?_
    refine Awp.block ?_
    refine Awp.seq ?_
    repeat' (first | refine Awp.region ?_ | refine Ops.nil (nqA ?_) | (refine o_calm rfl TtOk rfl rfl rfl ?_ (fun _ => ?_); exact nd) | refine o_alloc (d := 11) rfl TtOk rfl rfl rfl (fun b11 => ?_) | refine o_store TtOk rfl rfl rfl rfl rfl rfl rfl ⟨rfl, rfl⟩ rfl rfl rfl rfl rfl ?_ | (refine o_index rfl TtOk rfl rfl rfl rfl rfl rfl ?_ (getq_nat ?_) ?_; omega; omega))
    refine Awp.seq ?_
    repeat' (first | refine Awp.region ?_ | refine Ops.nil (nqA ?_) | (refine o_sub rfl rfl rfl rfl ?_ ?_; omega) | refine o_lenOwn rfl TtOk rfl rfl rfl rfl (fun _ => ?_) | (refine o_calm rfl TtOk rfl rfl rfl ?_ (fun _ => ?_); exact nd) | refine o_alloc (d := 12) rfl TtOk rfl rfl rfl (fun b12 => ?_) | refine o_store TtOk rfl rfl rfl rfl rfl rfl rfl ⟨rfl, rfl⟩ rfl rfl rfl rfl rfl ?_ | (refine o_indexOwn TtOk rfl rfl rfl rfl rfl rfl rfl rfl acc.length ?_ ?_ (fun bO hbO => ?_); (simp only [List.length_append, List.length_map, List.length_singleton]; omega); (simp only [List.length_append, List.length_map, List.length_singleton]; omega)) | (refine o_loadRow TtOk rfl rfl rfl rfl rfl (by assumption) (getq_last (fun n : Nod => n.itm.R) acc n) rfl rfl (by first | exact Nat.add_zero _ | rfl) ⟨rfl, rfl⟩ ?_))
    refine Awp.seqI (X := Nat × Nat) (fun q => ⟨149, [(91, .i .i64 i), (90, .i .i64 path.length), (89, .sl 66 (path.map Itm.R)), (7, .own 21 u), (8, .own 22 v), (3, .ptr 3 b3 [] 0), (11, .ptr 11 b11 [] 0), (12, .ptr 12 b12 [] 0), (13, .ptr 13 q.1 [] 0), (14, .ptr 14 q.2 [] 0)], [(21, .row u 9 1 ((acc ++ [n]).map (fun n => sA n.txt))), (22, .row v 62 66 ((acc ++ [n]).map (fun n => n.itm.R))), (3, .var b3 (labA lb)), (11, .var b11 path[i].R), (12, .var b12 n.itm.R), (13, .var q.1 n.itm.R), (14, .var q.2 path[i].R)]⟩) (fun _ => True) ?_ ?_
    · repeat' (first | (refine o_calm rfl TtOk rfl rfl rfl ?_ (fun _ => ?_); exact nd) | refine o_alloc (d := 13) rfl TtOk rfl rfl rfl (fun b13 => ?_) | refine o_alloc (d := 14) rfl TtOk rfl rfl rfl (fun b14 => ?_) | refine o_store TtOk rfl rfl rfl rfl rfl rfl rfl ⟨rfl, rfl⟩ rfl rfl rfl rfl rfl ?_ | (refine Ops.nil ?_; show AnyT _ _ _ _ _ _ _ _ _ _) | refine a_anyT 27 [13, 14] [101] [13, 14] (by kernel_rfl) (by kernel_rfl) (n := 6) (listed := [false, false, false, false, false, false].toArray) rfl (by kernel_rfl) ?_ | refine t_path (n := 6) (listed := [false, false, false, false, false, false].toArray) [0, 1] 4 [true, true, false, false, false, false] (by kernel_rfl) rfl rfl rfl (by kernel_rfl) ?_ | refine t_two (n := 4) (listed := [true, true, false, false, false, false].toArray) 2 3 [true, true, true, false, false, false] [true, true, false, true, false, false] rfl (by kernel_rfl) rfl rfl (by kernel_rfl) (by kernel_rfl) ?_ ?_ | refine t_path (n := 3) (listed := [true, true, true, false, false, false].toArray) [3, 4, 5] 0 [true, true, true, true, true, true] (by kernel_rfl) rfl rfl rfl (by kernel_rfl) ?_ | refine t_fin (n := 0) (listed := [true, true, true, true, true, true].toArray) (by kernel_rfl) ?_ | refine t_path (n := 3) (listed := [true, true, false, true, false, false].toArray) [2, 4, 5] 0 [true, true, true, true, true, true] (by kernel_rfl) rfl rfl rfl (by kernel_rfl) ?_)
      all_goals exact ⟨(_, _), [], trivial, rfl, ⟨sle_i rfl, sle_i rfl, sle_sl rfl, sle_own, sle_own, sle_ptr, sle_ptr, sle_ptr, sle_ptr, sle_ptr, True.intro⟩, HLe.cons 21 rfl (HOLe.refl _) (HLe.cons 22 rfl (HOLe.refl _) (HLe.cons 3 rfl (HOLe.refl _) (HLe.cons 11 rfl (HOLe.refl _) (HLe.cons 12 rfl (HOLe.refl _) (HLe.cons 13 rfl (HOLe.refl _) (HLe.cons 14 rfl (HOLe.refl _) .nil))))))⟩
    rintro ⟨b13, b14⟩ _
    dsimp only
    refine Awp.seqI (X := Unit) (fun _ => ⟨149, [(91, .i .i64 i), (90, .i .i64 path.length), (89, .sl 66 (path.map Itm.R)), (7, .own 21 u), (8, .own 22 v), (3, .ptr 3 b3 [] 0), (12, .ptr 12 b12 [] 0), (13, .ptr 13 b13 [] 0), (14, .ptr 14 b14 [] 0)], [(21, .row u 9 1 ((acc ++ [n]).map (fun n => sA n.txt))), (22, .row v 62 66 ((acc ++ [n]).map (fun n => n.itm.R))), (3, .var b3 (labA lb)), (12, .var b12 n.itm.R), (13, .var b13 L.R), (14, .var b14 R.R)]⟩) (fun _ => True) ?_ (fun _ _ => ?_)
    · clear hck htx hin hhs hst hu
      rcases ho with ⟨rfl, rfl, rfl⟩ | ⟨ho, rfl, rfl⟩
      all_goals
        repeat' (first | refine Awp.seq ?_ | refine Awp.region ?_ | refine Ops.nil (nqA ?_) | refine Ops.nil (nqX ?_) | refine Awp.skip (nqX ?_) | (refine o_calm rfl TtOk rfl rfl rfl ?_ (fun _ => ?_); exact nd) | refine o_store TtOk rfl rfl rfl rfl rfl rfl rfl ⟨rfl, rfl⟩ rfl rfl rfl rfl rfl ?_ | refine a_condT rfl ?_ | (refine a_condP rfl (fun hc => ?_) (fun hc => ?_)) <;> (try (exfalso; omega)) | refine a_any 29 [13, 14] [109] [] [0, 1, 2, 3] (by kernel_rfl) (by kernel_rfl) (by kernel_rfl) rfl rfl rfl ?_ | refine o_callE rfl (hor) ⟨nqS, nqS, True.intro⟩ rfl ?_)
        all_goals exact ⟨(), [], trivial, rfl, ⟨sle_i rfl, sle_i rfl, sle_sl rfl, sle_own, sle_own, sle_ptr, sle_ptr, sle_ptr, sle_ptr, True.intro⟩, HLe.cons 21 rfl (HOLe.refl _) (HLe.cons 22 rfl (HOLe.refl _) (HLe.cons 3 rfl (HOLe.refl _) (HLe.cons 12 rfl (HOLe.refl _) (HLe.cons 13 rfl (HOLe.refl _) (HLe.cons 14 rfl (HOLe.refl _) .nil)))))⟩
    clear ho hor
    by_cases hE : chkN L R ≠ 0
    · rw [if_pos hE] at hu
      subst hu
      rw [if_pos hE] at hst
      have hF2 : F = ([], chkN L R) := by rw [← hst]; exact if_pos hE
      subst hF2
      clear hcf hst
      generalize chkN L R = E at *
      repeat' (first | refine Awp.seq ?_ | refine Awp.region ?_ | refine Ops.nil (nqA ?_) | refine Awp.ret (nqE ?_) | (refine o_calm rfl TtOk rfl rfl rfl ?_ (fun _ => ?_); exact nd) | (refine a_condN rfl (fun hc => ?_) (fun hc => ?_)) <;> (try (exfalso; omega)) | refine o_callE rfl (hck) ⟨nqS, nqS, True.intro⟩ rfl ?_)
      all_goals
        refine end_all [] [] (.tup [.sl 1 [], .sl 66 [], .i .i64 E]) rfl ?_ ?_ (rle_tup3c CLe.nilsl CLe.nilsl (CLe.of_eq rfl) rfl rfl rfl) .nil ⟨rfl, rfl⟩ _ (.inl rfl)
        · exact nq1
        · exact ⟨trivial, trivial, trivial, trivial⟩
    have hE := Decidable.not_not.1 hE
    rw [hE] at hck hu
    rw [if_neg (by decide)] at hu
    have hcf := hcf hE
    clear hE
    have hb1 := rbit_spec lb hlb _ hcf
    have hb2 := rbit_spec n.itm.l hx.1 _ hcf
    unfold bitN at hu
    rw [if_pos hcf, if_pos hcf] at hu
    have hmp : ∀ (f : Nod → AV), ((acc ++ [n]).map f) ++ [f (Nod.inn L R)] = ((acc ++ [n]) ++ [Nod.inn L R]).map f := fun f => by rw [List.map_append (l₁ := acc ++ [n])]; rfl
    have hr1 : ((acc ++ [n]).map (fun n => sA n.txt)) ++ [sA (innB L R)] = ((acc ++ [n]) ++ [Nod.inn L R]).map (fun n => sA n.txt) := hmp (fun n => sA n.txt)
    have hr2 : ((acc ++ [n]).map (fun n => n.itm.R)) ++ [(innI L R).R] = ((acc ++ [n]) ++ [Nod.inn L R]).map (fun n => n.itm.R) := hmp (fun n => n.itm.R)
    have oz2 : (Nod.inn L R).itm.ok := oz
    have hzi : upsF (innI L R) (path.drop (i + 1)) lb = upsF (Nod.inn L R).itm (path.drop (i + 1)) lb := rfl
    rw [hzi] at hst
    clear hmp hzi
    obtain ⟨m, hm⟩ : ∃ m, Nod.inn L R = m := ⟨_, rfl⟩
    rw [hm] at hst hr1 hr2 oz2
    clear hm
    have hzn : (innI L R).n = ((comL L.l R.l : Nat) : Int) := rfl
    generalize innI L R = z at *
    generalize innB L R = tx at *
    generalize comL L.l R.l = c at *
    obtain ⟨zn, zl, zs, zt⟩ := z
    dsimp only at hzn
    subst hzn
    generalize hasP _ lb = hb at *
    generalize bitL lb c = p1 at *
    generalize bitL n.itm.l c = p2 at *
    by_cases hok : hb = true ∧ p1 = p2
    · rw [if_pos hok] at hu
      subst hu
      rw [if_neg (by decide)] at hst
      obtain ⟨rfl, rfl⟩ := hok
      repeat' (first | refine Awp.seq ?_ | refine Awp.region ?_ | refine Ops.nil (nqA ?_) | refine Ops.nil (nqX ?_) | refine Awp.skip (nqA ?_) | (refine o_add rfl rfl rfl rfl ?_ ?_; omega) | (refine o_calm rfl TtOk rfl rfl rfl ?_ (fun _ => ?_); exact nd) | refine o_alloc (d := 16) rfl TtOk rfl rfl rfl (fun b16 => ?_) | refine o_store TtOk rfl rfl rfl rfl rfl rfl rfl ⟨rfl, rfl⟩ rfl rfl rfl rfl rfl ?_ | refine o_buildSlice TtOk rfl rfl rfl rfl rfl rfl rfl rfl rfl rfl rfl nq1 (fun _ => ?_) | (refine o_append TtOk rfl rfl rfl rfl rfl rfl rfl rfl rfl (by first | exact True.intro | exact rfl) rfl rfl (fun _ => rfl) ?_ ?_ (fun _ => ?_); ((repeat' (first | rw [List.length_append] | rw [List.length_map] | rw [List.length_cons] | rw [List.length_nil] | rw [List.length_take] | rw [List.length_drop])) <;> omega); ((repeat' (first | rw [List.length_append] | rw [List.length_map] | rw [List.length_cons] | rw [List.length_nil] | rw [List.length_take] | rw [List.length_drop])) <;> omega)) | refine a_condF rfl ?_ | (refine a_condN rfl (fun hc => ?_) (fun hc => ?_)) <;> (try (exfalso; omega)) | refine a_any 34 [] [] [] [0, 1, 2, 3, 4, 6, 9, 11, 5, 7, 10, 12, 8, 13, 14, 15] (by kernel_rfl) (by kernel_rfl) (by kernel_rfl) rfl rfl rfl ?_ | refine o_callE rfl (hck) ⟨nqS, nqS, True.intro⟩ rfl ?_ | refine o_callE rfl (hin) ⟨nqS, nqS, True.intro⟩ rfl ?_ | refine o_callE rfl (htx) ⟨nqS, nqS, True.intro⟩ rfl ?_ | refine o_callE rfl (hhs) ⟨nqS, nqS, True.intro⟩ rfl ?_ | refine o_callE rfl (hb1) ⟨nqS, nqS, True.intro⟩ rfl ?_ | refine o_callE rfl (hb2) ⟨nqS, nqS, True.intro⟩ rfl ?_)
      all_goals exact ⟨(i + 1, acc ++ [n], m, _, _), [], ⟨hlt, by show (acc ++ [n]).length = i + 1; rw [List.length_append, List.length_singleton]; omega, oz2, (fin_app _ _ _).trans hst⟩, by show path.length - (i + 1) < path.length - i; omega, rfl, ⟨sle_i hi1, sle_i rfl, sle_sl rfl, sle_own, sle_own, sle_ptr, True.intro⟩, HLe.cons 21 rfl (HOLe.row hr1) (HLe.cons 22 rfl (HOLe.row hr2) (HLe.cons 3 rfl (HOLe.refl _) .nil))⟩
    · rw [if_neg hok] at hu
      subst hu
      rw [if_pos (by decide)] at hst
      have hF2 : F = ([], 11) := by rw [← hst]; exact if_pos (by decide)
      subst hF2
      clear hst hr1 hr2
      cases hb
      · repeat' (first | refine Awp.seq ?_ | refine Awp.region ?_ | refine Ops.nil (nqA ?_) | refine Awp.skip (nqA ?_) | refine Awp.ret (nqE ?_) | refine o_noF rfl rfl rfl ?_ | (refine o_calm rfl TtOk rfl rfl rfl ?_ (fun _ => ?_); exact nd) | refine o_alloc (d := 16) rfl TtOk rfl rfl rfl (fun b16 => ?_) | refine o_store TtOk rfl rfl rfl rfl rfl rfl rfl ⟨rfl, rfl⟩ rfl rfl rfl rfl rfl ?_ | refine a_condT rfl ?_ | refine a_condF rfl ?_ | refine a_any 34 [] [] [] [0, 1, 2, 3, 4, 6, 9, 11, 5, 7, 10, 12, 8, 13, 14, 15] (by kernel_rfl) (by kernel_rfl) (by kernel_rfl) rfl rfl rfl ?_ | refine o_callE rfl (hck) ⟨nqS, nqS, True.intro⟩ rfl ?_ | refine o_callE rfl (hin) ⟨nqS, nqS, True.intro⟩ rfl ?_ | refine o_callE rfl (hhs) ⟨nqS, nqS, True.intro⟩ rfl ?_)
        all_goals
          refine end_all [] [] (.tup [.sl 1 [], .sl 66 [], .i .i64 11]) rfl ?_ ?_ (rle_tup3c CLe.nilsl CLe.nilsl (CLe.of_eq rfl) rfl rfl rfl) .nil ⟨rfl, rfl⟩ _ (.inl rfl)
          · exact nq1
          · exact ⟨trivial, trivial, trivial, trivial⟩
      · have hne : p1 ≠ p2 := fun h => hok ⟨rfl, h⟩
        repeat' (first | refine Awp.seq ?_ | refine Awp.region ?_ | refine Ops.nil (nqA ?_) | refine Awp.skip (nqA ?_) | refine Awp.ret (nqE ?_) | (refine o_calm rfl TtOk rfl rfl rfl ?_ (fun _ => ?_); exact nd) | refine o_alloc (d := 16) rfl TtOk rfl rfl rfl (fun b16 => ?_) | refine o_store TtOk rfl rfl rfl rfl rfl rfl rfl ⟨rfl, rfl⟩ rfl rfl rfl rfl rfl ?_ | refine a_condF rfl ?_ | (refine a_condN rfl (fun hc => ?_) (fun hc => ?_)) <;> (try (exfalso; omega)) | refine a_any 34 [] [] [] [0, 1, 2, 3, 4, 6, 9, 11, 5, 7, 10, 12, 8, 13, 14, 15] (by kernel_rfl) (by kernel_rfl) (by kernel_rfl) rfl rfl rfl ?_ | refine o_callE rfl (hck) ⟨nqS, nqS, True.intro⟩ rfl ?_ | refine o_callE rfl (hin) ⟨nqS, nqS, True.intro⟩ rfl ?_ | refine o_callE rfl (hhs) ⟨nqS, nqS, True.intro⟩ rfl ?_ | refine o_callE rfl (hb1) ⟨nqS, nqS, True.intro⟩ rfl ?_ | refine o_callE rfl (hb2) ⟨nqS, nqS, True.intro⟩ rfl ?_)
        all_goals
          refine end_all [] [] (.tup [.sl 1 [], .sl 66 [], .i .i64 11]) rfl ?_ ?_ (rle_tup3c CLe.nilsl CLe.nilsl (CLe.of_eq rfl) rfl rfl rfl) .nil ⟨rfl, rfl⟩ _ (.inl rfl)
          · exact nq1
          · exact ⟨trivial, trivial, trivial, trivial⟩
  · have hie : i = path.length := by omega
    rw [hie, List.drop_length] at hst
    have hF2 : F = ((acc ++ [n]) ++ [], 0) := hst.symm
    rw [List.append_nil] at hF2
    subst hF2
    repeat' (first | refine Awp.seq ?_ | refine Awp.region ?_ | refine Ops.nil (nqA ?_) | refine Awp.exit (nqA ?_) | refine Awp.ret (nqE ?_) | (refine o_calm rfl TtOk rfl rfl rfl ?_ (fun _ => ?_); exact nd) | (refine a_condP rfl (fun hc => ?_) (fun hc => ?_)) <;> (try (exfalso; omega)))
    refine end_all [21, 22] [] (.tup [.sl 1 ((acc ++ [n]).map (fun n => sA n.txt)), .sl 66 ((acc ++ [n]).map (fun n => n.itm.R)), .i .i64 0]) rfl ?_ ?_ (rle_tup3c (CLe.fz (.head _)) (CLe.fz (.tail _ (.head _))) (CLe.of_eq rfl) rfl rfl rfl) .nil ⟨rfl, rfl⟩ _ (.inl rfl)
    · exact nq1
    · exact ⟨trivial, trivial, trivial, trivial⟩
end Go.Proofs.YtcmgpkibjdbonaaGreat
