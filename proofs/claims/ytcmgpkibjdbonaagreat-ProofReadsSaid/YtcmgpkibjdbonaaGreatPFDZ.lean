/- What proof.Nodes computes. No program in sight. -/
import Derived.Test.YtcmgpkibjdbonaaGreatPF2Z
import Derived.Test.YtcmgpkibjdbonaaGreatN2
import Derived.Test.YtcmgpkibjdbonaaGreatV31Z
import Derived.Test.YtcmgpkibjdbonaaGreatPF1Z
set_option maxHeartbeats 4000000
namespace Go.Proofs.YtcmgpkibjdbonaaGreat
open Go Go.RowKit
/-- The nodes upwards of an item, by the items beside the way. -/
def upsF : Itm → List Itm → List UInt8 → List Nod × Int
  | _, [], _ => ([], 0)
  | x, y :: r, lb => if upE x y lb ≠ 0 then ([], upE x y lb) else (.inn (upL x y) (upR x y) :: (upsF (innI (upL x y) (upR x y)) r lb).1, (upsF (innI (upL x y) (upR x y)) r lb).2)
/-- Nodes ahead of what is still to come. -/
def fin_ (acc : List Nod) (q : List Nod × Int) : List Nod × Int := if q.2 ≠ 0 then ([], q.2) else (acc ++ q.1, 0)
def ndsF (p : Prf) (lb : List UInt8) : List Nod × Int :=
  if 256 < p.path.length then ([], 2)
  else if p.e = 0 then (if p.path.length = 0 then ([], 0) else ([], 3))
  else if p.e = 1 then (if chkLf p.lf ≠ 0 then ([], chkLf p.lf) else fin_ [.lf p.lf] (upsF (leafI p.lf) p.path lb))
  else if p.e = 2 then (if chkN p.a p.b ≠ 0 then ([], chkN p.a p.b) else if hasP (innI p.a p.b).p lb = true then ([], 11) else fin_ [.inn p.a p.b] (upsF (innI p.a p.b) p.path lb))
  else ([], 1)
theorem fin_app (acc : List Nod) (n : Nod) (q : List Nod × Int) : fin_ (acc ++ [n]) q = fin_ acc (n :: q.1, q.2) := by
  unfold fin_
  by_cases h : q.2 ≠ 0
  · rw [if_pos h, if_pos h]
  · rw [if_neg h, if_neg h, List.append_assoc]; rfl
theorem upLR_ok {x y : Itm} (hx : x.ok) (hy : y.ok) : (upL x y).ok ∧ (upR x y).ok := by
  unfold upL upR
  split <;> exact ⟨‹_›, ‹_›⟩
end Go.Proofs.YtcmgpkibjdbonaaGreat
set_option maxHeartbeats 16000000
set_option maxRecDepth 100000
namespace Go.Proofs.YtcmgpkibjdbonaaGreat
open Go Go.RowKit
theorem pnodes_spec (p : Prf) (hp : p.ok) (hl : p.path.length ≤ 100000) (lb : List UInt8) (hlb : lb.length = 32) : Spec Tryz.prog 22 [p.A, labA lb] [] (fun v os => v = .tup [.sl 1 ((ndsF p lb).1.map Nod.A), .i .i64 (ndsF p lb).2] ∧ os = []) := by
  obtain ⟨e, lf, a, b, path⟩ := p
  obtain ⟨olf, oa, ob, opa⟩ := hp
  dsimp only at olf oa ob opa hl
  show Spec Tryz.prog 22 [.agg [.i .i64 e, lf.A, .agg [a.A, b.A], .sl 66 (path.map Itm.A)], labA lb] [] _
  refine spec_of TtOk [] Tryz.func22 rfl Tryz.ntmps22 (by kernel_rfl) rfl rfl (fun C => ?_) rfl
  unfold ndsF
  dsimp only
  have hcl := ncheckL_spec lf
  have hci := ncheckI_spec a b oa ob
  have hli := litem_spec lf olf
  have hii := iitem_spec a b oa ob
  by_cases h256 : 256 < path.length
  · rw [if_pos h256]
    repeat' (first | refine Awp.seq ?_ | refine Awp.region ?_ | refine Ops.nil (nqA ?_) | refine Awp.ret (nqE ?_) | refine o_len rfl TtOk rfl rfl rfl (fun _ => ?_) | (refine o_calm rfl TtOk rfl rfl rfl ?_ (fun _ => ?_); exact nd) | refine o_box (d := 2) rfl rfl rfl rfl (fun b2 => ?_) | refine o_box (d := 3) rfl rfl rfl rfl (fun b3 => ?_) | (refine a_condP rfl (fun hc => ?_) (fun hc => ?_)) <;> (try (exfalso; omega)))
    all_goals
      refine end_all [] [] (.tup [.sl 1 [], .i .i64 2]) rfl ?_ ?_ (rle_tup2 CLe.nilsl (CLe.of_eq rfl) rfl rfl) .nil ⟨rfl, rfl⟩ _ (.inl rfl)
      · exact nq1
      · exact ⟨trivial, trivial, trivial⟩
  rw [if_neg h256]
  by_cases he0 : e = 0
  · subst he0
    rw [if_pos rfl]
    by_cases h0 : path.length = 0
    · rw [if_pos h0]
      repeat' (first | refine Awp.seq ?_ | refine Awp.block ?_ | refine Awp.region ?_ | refine Ops.nil (nqA ?_) | refine Awp.skip (nqA ?_) | refine Awp.ret (nqE ?_) | refine o_len rfl TtOk rfl rfl rfl (fun _ => ?_) | (refine o_calm rfl TtOk rfl rfl rfl ?_ (fun _ => ?_); exact nd) | refine o_alloc (d := 7) rfl TtOk rfl rfl rfl (fun b7 => ?_) | refine o_box (d := 2) rfl rfl rfl rfl (fun b2 => ?_) | refine o_box (d := 3) rfl rfl rfl rfl (fun b3 => ?_) | refine a_condT rfl ?_ | (refine a_condP rfl (fun hc => ?_) (fun hc => ?_)) <;> (try (exfalso; omega)))
      all_goals
        refine end_all [] [] (.tup [.sl 1 [], .i .i64 0]) rfl ?_ ?_ (rle_tup2 CLe.nilsl (CLe.of_eq rfl) rfl rfl) .nil ⟨rfl, rfl⟩ _ (.inl rfl)
        · exact nq1
        · exact ⟨trivial, trivial, trivial⟩
    · rw [if_neg h0]
      repeat' (first | refine Awp.seq ?_ | refine Awp.block ?_ | refine Awp.region ?_ | refine Ops.nil (nqA ?_) | refine Awp.skip (nqA ?_) | refine Awp.ret (nqE ?_) | refine o_len rfl TtOk rfl rfl rfl (fun _ => ?_) | (refine o_calm rfl TtOk rfl rfl rfl ?_ (fun _ => ?_); exact nd) | refine o_alloc (d := 7) rfl TtOk rfl rfl rfl (fun b7 => ?_) | refine o_box (d := 2) rfl rfl rfl rfl (fun b2 => ?_) | refine o_box (d := 3) rfl rfl rfl rfl (fun b3 => ?_) | refine a_condT rfl ?_ | (refine a_condP rfl (fun hc => ?_) (fun hc => ?_)) <;> (try (exfalso; omega)))
      all_goals
        refine end_all [] [] (.tup [.sl 1 [], .i .i64 3]) rfl ?_ ?_ (rle_tup2 CLe.nilsl (CLe.of_eq rfl) rfl rfl) .nil ⟨rfl, rfl⟩ _ (.inl rfl)
        · exact nq1
        · exact ⟨trivial, trivial, trivial⟩
  rw [if_neg he0]
  by_cases he1 : e = 1
  · subst he1
    rw [if_pos rfl]
    generalize chkLf lf = c at hcl ⊢
    by_cases hc : c ≠ 0
    · rw [if_pos hc]
      repeat' (first | refine Awp.seq ?_ | refine Awp.block ?_ | refine Awp.region ?_ | refine Ops.nil (nqA ?_) | refine Awp.skip (nqA ?_) | refine Awp.ret (nqE ?_) | refine o_len rfl TtOk rfl rfl rfl (fun _ => ?_) | (refine o_calm rfl TtOk rfl rfl rfl ?_ (fun _ => ?_); exact nd) | refine o_alloc (d := 7) rfl TtOk rfl rfl rfl (fun b7 => ?_) | refine o_box (d := 2) rfl rfl rfl rfl (fun b2 => ?_) | refine o_box (d := 3) rfl rfl rfl rfl (fun b3 => ?_) | refine a_condT rfl ?_ | refine a_condF rfl ?_ | (refine a_condP rfl (fun hc => ?_) (fun hc => ?_)) <;> (try (exfalso; omega)) | (refine a_condN rfl (fun hc => ?_) (fun hc => ?_)) <;> (try (exfalso; omega)) | (refine o_mkIface TtOk rfl rfl rfl rfl rfl rfl ?_) | refine o_callE rfl (hcl) ⟨nqS, True.intro⟩ rfl ?_)
      all_goals
        refine end_all [] [] (.tup [.sl 1 [], .i .i64 c]) rfl ?_ ?_ (rle_tup2 CLe.nilsl (CLe.of_eq rfl) rfl rfl) .nil ⟨rfl, rfl⟩ _ (.inl rfl)
        · exact nq1
        · exact ⟨trivial, trivial, trivial⟩
    · have hc := Decidable.not_not.1 hc
      subst hc
      rw [if_neg (by decide)]
      repeat' (first | refine Awp.seq ?_ | refine Awp.block ?_ | refine Awp.region ?_ | refine Ops.nil (nqA ?_) | refine Awp.skip (nqA ?_) | refine o_len rfl TtOk rfl rfl rfl (fun _ => ?_) | (refine o_calm rfl TtOk rfl rfl rfl ?_ (fun _ => ?_); exact nd) | refine o_alloc (d := 7) rfl TtOk rfl rfl rfl (fun b7 => ?_) | refine o_box (d := 2) rfl rfl rfl rfl (fun b2 => ?_) | refine o_box (d := 3) rfl rfl rfl rfl (fun b3 => ?_) | refine o_store TtOk rfl rfl rfl rfl rfl rfl rfl ⟨rfl, rfl⟩ rfl rfl rfl rfl rfl ?_ | refine o_buildSlice TtOk rfl rfl rfl rfl rfl rfl rfl rfl rfl rfl rfl nq1 (fun _ => ?_) | refine a_condT rfl ?_ | refine a_condF rfl ?_ | (refine a_condP rfl (fun hc => ?_) (fun hc => ?_)) <;> (try (exfalso; omega)) | refine a_any 15 [7, 39] [37] [39] [0, 1, 6, 2, 3, 7, 4, 5, 8, 9, 10] (by kernel_rfl) (by kernel_rfl) (by kernel_rfl) rfl rfl rfl ?_ | (refine o_appendNil TtOk rfl rfl rfl rfl rfl rfl rfl rfl (by first | exact True.intro | exact rfl) rfl (Nat.le_of_ble_eq_true rfl) (Nat.le_of_ble_eq_true rfl) (fun w40 => ?_)) | (refine o_mkIface TtOk rfl rfl rfl rfl rfl rfl ?_) | refine o_callE rfl (hcl) ⟨nqS, True.intro⟩ rfl ?_ | refine o_callE rfl (hli) ⟨nqS, True.intro⟩ rfl ?_)
      obtain ⟨F, hF⟩ : ∃ F, fin_ [.lf lf] (upsF (leafI lf) path lb) = F := ⟨_, rfl⟩
      rw [hF]
      refine Awp.loop (fun q : Nat × List Nod × Itm × Value => ⟨92, [(69, .i .i64 q.1), (68, .i .i64 path.length), (67, .sl 66 (path.map Itm.A)), (6, .own 40 q.2.2.2), (7, .ptr 7 b7 [] 0), (3, .ptr 3 b3 [] 0)], [(40, .row q.2.2.2 77 1 (q.2.1.map Nod.A)), (7, .var b7 q.2.2.1.A), (3, .var b3 (labA lb))]⟩) (fun q => q.1 ≤ path.length ∧ q.2.1.length = q.1 + 1 ∧ q.2.2.1.ok ∧ fin_ q.2.1 (upsF q.2.2.1 (path.drop q.1) lb) = F) (fun q => path.length - q.1) [] (0, [.lf lf], leafI lf, w40) ⟨Nat.zero_le _, rfl, leafI_ok lf olf, hF⟩ ?_ ?_
      · exact ⟨rfl, ⟨sle_i rfl, sle_i rfl, sle_sl rfl, sle_own, sle_ptr, sle_ptr, True.intro⟩, HLe.cons 40 rfl (HOLe.refl _) (HLe.cons 7 rfl (HOLe.refl _) (HLe.cons 3 rfl (HOLe.refl _) .nil))⟩
      rintro ⟨i, acc, x, v⟩ ⟨hi, ha, hx, hst⟩
      dsimp only at hi ha hx hst ⊢
      by_cases hlt : i < path.length
      · have hup := up_spec x path[i] lb hx (opa _ (List.getElem_mem hlt)) hlb
        obtain ⟨oL, oR⟩ := upLR_ok hx (opa _ (List.getElem_mem hlt))
        have hit := iitem_spec _ _ oL oR
        have oz := innI_ok (upL x path[i]) (upR x path[i]) oL
        have hi1 : ((i : Int) + 1 = ((i + 1 : Nat) : Int)) := by omega
        rw [List.drop_eq_getElem_cons hlt, upsF] at hst
        generalize innI (upL x path[i]) (upR x path[i]) = z at *
        generalize upE x path[i] lb = u at *
        generalize upL x path[i] = l1 at *
        generalize upR x path[i] = l2 at *
        by_cases hu : u ≠ 0
        · rw [if_pos hu] at hst
          have hF2 : F = ([], u) := by rw [← hst]; exact if_pos hu
          rw [hF2]
          repeat' (first | refine Awp.seq ?_ | refine Awp.block ?_ | refine Awp.region ?_ | refine Ops.nil (nqA ?_) | refine Awp.skip (nqA ?_) | refine Awp.ret (nqE ?_) | (refine o_calm rfl TtOk rfl rfl rfl ?_ (fun _ => ?_); exact nd) | refine o_alloc (d := 11) rfl TtOk rfl rfl rfl (fun b11 => ?_) | refine o_alloc (d := 12) rfl TtOk rfl rfl rfl (fun b12 => ?_) | refine o_store TtOk rfl rfl rfl rfl rfl rfl rfl ⟨rfl, rfl⟩ rfl rfl rfl rfl rfl ?_ | (refine o_index rfl TtOk rfl rfl rfl rfl rfl rfl ?_ (getq_nat ?_) ?_; omega; omega) | (refine a_condP rfl (fun hc => ?_) (fun hc => ?_)) <;> (try (exfalso; omega)) | (refine a_condN rfl (fun hc => ?_) (fun hc => ?_)) <;> (try (exfalso; omega)) | refine o_callE rfl (hup) ⟨nqS, nqS, nqS, True.intro⟩ rfl ?_)
          all_goals
            refine end_all [] [] (.tup [.sl 1 [], .i .i64 u]) rfl ?_ ?_ (rle_tup2 CLe.nilsl (CLe.of_eq rfl) rfl rfl) .nil ⟨rfl, rfl⟩ _ (.inl rfl)
            · exact nq1
            · exact ⟨trivial, trivial, trivial⟩
        · have hu := Decidable.not_not.1 hu
          subst hu
          rw [if_neg (by decide)] at hst
          repeat' (first | refine Awp.seq ?_ | refine Awp.block ?_ | refine Awp.region ?_ | refine Ops.nil (nqA ?_) | refine Ops.nil (nqX ?_) | refine Awp.skip (nqA ?_) | (refine o_add rfl rfl rfl rfl ?_ ?_; omega) | (refine o_calm rfl TtOk rfl rfl rfl ?_ (fun _ => ?_); exact nd) | refine o_alloc (d := 11) rfl TtOk rfl rfl rfl (fun b11 => ?_) | refine o_alloc (d := 12) rfl TtOk rfl rfl rfl (fun b12 => ?_) | refine o_store TtOk rfl rfl rfl rfl rfl rfl rfl ⟨rfl, rfl⟩ rfl rfl rfl rfl rfl ?_ | (refine o_index rfl TtOk rfl rfl rfl rfl rfl rfl ?_ (getq_nat ?_) ?_; omega; omega) | refine o_buildSlice TtOk rfl rfl rfl rfl rfl rfl rfl rfl rfl rfl rfl nq1 (fun _ => ?_) | (refine o_append TtOk rfl rfl rfl rfl rfl rfl rfl rfl rfl (by first | exact True.intro | exact rfl) rfl rfl (fun _ => rfl) ?_ ?_ (fun _ => ?_); ((repeat' (first | rw [List.length_append] | rw [List.length_map] | rw [List.length_cons] | rw [List.length_nil] | rw [List.length_take] | rw [List.length_drop])) <;> omega); ((repeat' (first | rw [List.length_append] | rw [List.length_map] | rw [List.length_cons] | rw [List.length_nil] | rw [List.length_take] | rw [List.length_drop])) <;> omega)) | refine a_condF rfl ?_ | (refine a_condP rfl (fun hc => ?_) (fun hc => ?_)) <;> (try (exfalso; omega)) | refine a_any 29 [7, 40] [84] [86] [0, 1, 2, 5, 3, 4, 6, 7, 8] (by kernel_rfl) (by kernel_rfl) (by kernel_rfl) rfl rfl rfl ?_ | (refine o_mkIface TtOk rfl rfl rfl rfl rfl rfl ?_) | refine o_callE rfl (hup) ⟨nqS, nqS, nqS, True.intro⟩ rfl ?_ | refine o_callE rfl (hit) ⟨nqS, True.intro⟩ rfl ?_)
          all_goals
            refine ⟨(i + 1, acc ++ [.inn l1 l2], z, _), [], ⟨by show i + 1 ≤ path.length; omega, by show (acc ++ [Nod.inn l1 l2]).length = i + 1 + 1; rw [List.length_append, List.length_singleton]; omega, oz, (fin_app _ _ _).trans hst⟩, by show path.length - (i + 1) < path.length - i; omega, rfl, ⟨sle_i hi1, sle_i rfl, sle_sl rfl, sle_own, sle_ptr, sle_ptr, True.intro⟩, HLe.cons 40 rfl (HOLe.row ?_) (HLe.cons 7 rfl (HOLe.refl _) (HLe.cons 3 rfl (HOLe.refl _) .nil))⟩
            rw [List.map_append]; rfl
      · have hin : i = path.length := by omega
        rw [hin, List.drop_length] at hst
        have hF2 : F = (acc ++ [], 0) := hst.symm
        rw [hF2, List.append_nil]
        repeat' (first | refine Awp.seq ?_ | refine Awp.region ?_ | refine Ops.nil (nqA ?_) | refine Awp.exit (nqA ?_) | refine Awp.ret (nqE ?_) | (refine o_calm rfl TtOk rfl rfl rfl ?_ (fun _ => ?_); exact nd) | (refine a_condP rfl (fun hc => ?_) (fun hc => ?_)) <;> (try (exfalso; omega)))
        all_goals
          refine end_all [40] [] (.tup [.sl 1 (acc.map Nod.A), .i .i64 0]) rfl ?_ ?_ (rle_tup2 (CLe.fz (.head _)) (CLe.of_eq rfl) rfl rfl) .nil ⟨rfl, rfl⟩ _ (.inl rfl)
          · exact nq1
          · exact ⟨trivial, trivial, trivial⟩
  rw [if_neg he1]
  by_cases he2 : e = 2
  · subst he2
    rw [if_pos rfl]
    generalize chkN a b = c at hci ⊢
    by_cases hc : c ≠ 0
    · rw [if_pos hc]
      repeat' (first | refine Awp.seq ?_ | refine Awp.block ?_ | refine Awp.region ?_ | refine Ops.nil (nqA ?_) | refine Awp.skip (nqA ?_) | refine Awp.ret (nqE ?_) | refine o_len rfl TtOk rfl rfl rfl (fun _ => ?_) | (refine o_calm rfl TtOk rfl rfl rfl ?_ (fun _ => ?_); exact nd) | refine o_alloc (d := 7) rfl TtOk rfl rfl rfl (fun b7 => ?_) | refine o_box (d := 2) rfl rfl rfl rfl (fun b2 => ?_) | refine o_box (d := 3) rfl rfl rfl rfl (fun b3 => ?_) | refine a_condT rfl ?_ | refine a_condF rfl ?_ | (refine a_condP rfl (fun hc => ?_) (fun hc => ?_)) <;> (try (exfalso; omega)) | (refine a_condN rfl (fun hc => ?_) (fun hc => ?_)) <;> (try (exfalso; omega)) | (refine o_mkIface TtOk rfl rfl rfl rfl rfl rfl ?_) | refine o_callE rfl (hci) ⟨nqS, True.intro⟩ rfl ?_)
      all_goals
        refine end_all [] [] (.tup [.sl 1 [], .i .i64 c]) rfl ?_ ?_ (rle_tup2 CLe.nilsl (CLe.of_eq rfl) rfl rfl) .nil ⟨rfl, rfl⟩ _ (.inl rfl)
        · exact nq1
        · exact ⟨trivial, trivial, trivial⟩
    · have hc := Decidable.not_not.1 hc
      subst hc
      rw [if_neg (by decide)]
      have oi := innI_ok a b oa
      generalize innI a b = x0 at *
      have hhs := bhas_spec x0.n x0.l lb oi.1 hlb
      have hP : x0.p = ⟨x0.n, x0.l⟩ := rfl
      rw [hP]
      generalize hasP ⟨x0.n, x0.l⟩ lb = hb at hhs ⊢
      cases hb
      case true =>
        rw [if_pos rfl]
        repeat' (first | refine Awp.seq ?_ | refine Awp.block ?_ | refine Awp.region ?_ | refine Ops.nil (nqA ?_) | refine Awp.skip (nqA ?_) | refine Awp.ret (nqE ?_) | refine o_len rfl TtOk rfl rfl rfl (fun _ => ?_) | (refine o_calm rfl TtOk rfl rfl rfl ?_ (fun _ => ?_); exact nd) | refine o_alloc (d := 7) rfl TtOk rfl rfl rfl (fun b7 => ?_) | refine o_box (d := 2) rfl rfl rfl rfl (fun b2 => ?_) | refine o_box (d := 3) rfl rfl rfl rfl (fun b3 => ?_) | refine o_store TtOk rfl rfl rfl rfl rfl rfl rfl ⟨rfl, rfl⟩ rfl rfl rfl rfl rfl ?_ | refine o_buildSlice TtOk rfl rfl rfl rfl rfl rfl rfl rfl rfl rfl rfl nq1 (fun _ => ?_) | refine a_condT rfl ?_ | refine a_condF rfl ?_ | (refine a_condP rfl (fun hc => ?_) (fun hc => ?_)) <;> (try (exfalso; omega)) | refine a_any 20 [7, 57] [55] [57] [0, 1, 6, 2, 3, 7, 4, 5, 8, 9, 10] (by kernel_rfl) (by kernel_rfl) (by kernel_rfl) rfl rfl rfl ?_ | (refine o_appendNil TtOk rfl rfl rfl rfl rfl rfl rfl rfl (by first | exact True.intro | exact rfl) rfl (Nat.le_of_ble_eq_true rfl) (Nat.le_of_ble_eq_true rfl) (fun w58 => ?_)) | (refine o_mkIface TtOk rfl rfl rfl rfl rfl rfl ?_) | refine o_callE rfl (hci) ⟨nqS, True.intro⟩ rfl ?_ | refine o_callE rfl (hii) ⟨nqS, True.intro⟩ rfl ?_ | refine o_callE rfl (hhs) ⟨nqS, nqS, True.intro⟩ rfl ?_)
        all_goals
          refine end_all [] [] (.tup [.sl 1 [], .i .i64 11]) rfl ?_ ?_ (rle_tup2 CLe.nilsl (CLe.of_eq rfl) rfl rfl) .nil ⟨rfl, rfl⟩ _ (.inl rfl)
          · exact nq1
          · exact ⟨trivial, trivial, trivial⟩
      rw [if_neg (by decide)]
      repeat' (first | refine Awp.seq ?_ | refine Awp.block ?_ | refine Awp.region ?_ | refine Ops.nil (nqA ?_) | refine Awp.skip (nqA ?_) | refine o_len rfl TtOk rfl rfl rfl (fun _ => ?_) | (refine o_calm rfl TtOk rfl rfl rfl ?_ (fun _ => ?_); exact nd) | refine o_alloc (d := 7) rfl TtOk rfl rfl rfl (fun b7 => ?_) | refine o_box (d := 2) rfl rfl rfl rfl (fun b2 => ?_) | refine o_box (d := 3) rfl rfl rfl rfl (fun b3 => ?_) | refine o_store TtOk rfl rfl rfl rfl rfl rfl rfl ⟨rfl, rfl⟩ rfl rfl rfl rfl rfl ?_ | refine o_buildSlice TtOk rfl rfl rfl rfl rfl rfl rfl rfl rfl rfl rfl nq1 (fun _ => ?_) | refine a_condT rfl ?_ | refine a_condF rfl ?_ | (refine a_condP rfl (fun hc => ?_) (fun hc => ?_)) <;> (try (exfalso; omega)) | refine a_any 20 [7, 57] [55] [57] [0, 1, 6, 2, 3, 7, 4, 5, 8, 9, 10] (by kernel_rfl) (by kernel_rfl) (by kernel_rfl) rfl rfl rfl ?_ | (refine o_appendNil TtOk rfl rfl rfl rfl rfl rfl rfl rfl (by first | exact True.intro | exact rfl) rfl (Nat.le_of_ble_eq_true rfl) (Nat.le_of_ble_eq_true rfl) (fun w58 => ?_)) | (refine o_mkIface TtOk rfl rfl rfl rfl rfl rfl ?_) | refine o_callE rfl (hci) ⟨nqS, True.intro⟩ rfl ?_ | refine o_callE rfl (hii) ⟨nqS, True.intro⟩ rfl ?_ | refine o_callE rfl (hhs) ⟨nqS, nqS, True.intro⟩ rfl ?_)
      obtain ⟨F, hF⟩ : ∃ F, fin_ [.inn a b] (upsF (x0) path lb) = F := ⟨_, rfl⟩
      rw [hF]
      refine Awp.loop (fun q : Nat × List Nod × Itm × Value => ⟨92, [(69, .i .i64 q.1), (68, .i .i64 path.length), (67, .sl 66 (path.map Itm.A)), (6, .own 58 q.2.2.2), (7, .ptr 7 b7 [] 0), (3, .ptr 3 b3 [] 0)], [(58, .row q.2.2.2 77 1 (q.2.1.map Nod.A)), (7, .var b7 q.2.2.1.A), (3, .var b3 (labA lb))]⟩) (fun q => q.1 ≤ path.length ∧ q.2.1.length = q.1 + 1 ∧ q.2.2.1.ok ∧ fin_ q.2.1 (upsF q.2.2.1 (path.drop q.1) lb) = F) (fun q => path.length - q.1) [] (0, [.inn a b], x0, w58) ⟨Nat.zero_le _, rfl, oi, hF⟩ ?_ ?_
      · exact ⟨rfl, ⟨sle_i rfl, sle_i rfl, sle_sl rfl, sle_own, sle_ptr, sle_ptr, True.intro⟩, HLe.cons 58 rfl (HOLe.refl _) (HLe.cons 7 rfl (HOLe.refl _) (HLe.cons 3 rfl (HOLe.refl _) .nil))⟩
      rintro ⟨i, acc, x, v⟩ ⟨hi, ha, hx, hst⟩
      dsimp only at hi ha hx hst ⊢
      by_cases hlt : i < path.length
      · have hup := up_spec x path[i] lb hx (opa _ (List.getElem_mem hlt)) hlb
        obtain ⟨oL, oR⟩ := upLR_ok hx (opa _ (List.getElem_mem hlt))
        have hit := iitem_spec _ _ oL oR
        have oz := innI_ok (upL x path[i]) (upR x path[i]) oL
        have hi1 : ((i : Int) + 1 = ((i + 1 : Nat) : Int)) := by omega
        rw [List.drop_eq_getElem_cons hlt, upsF] at hst
        generalize innI (upL x path[i]) (upR x path[i]) = z at *
        generalize upE x path[i] lb = u at *
        generalize upL x path[i] = l1 at *
        generalize upR x path[i] = l2 at *
        by_cases hu : u ≠ 0
        · rw [if_pos hu] at hst
          have hF2 : F = ([], u) := by rw [← hst]; exact if_pos hu
          rw [hF2]
          repeat' (first | refine Awp.seq ?_ | refine Awp.block ?_ | refine Awp.region ?_ | refine Ops.nil (nqA ?_) | refine Awp.skip (nqA ?_) | refine Awp.ret (nqE ?_) | (refine o_calm rfl TtOk rfl rfl rfl ?_ (fun _ => ?_); exact nd) | refine o_alloc (d := 11) rfl TtOk rfl rfl rfl (fun b11 => ?_) | refine o_alloc (d := 12) rfl TtOk rfl rfl rfl (fun b12 => ?_) | refine o_store TtOk rfl rfl rfl rfl rfl rfl rfl ⟨rfl, rfl⟩ rfl rfl rfl rfl rfl ?_ | (refine o_index rfl TtOk rfl rfl rfl rfl rfl rfl ?_ (getq_nat ?_) ?_; omega; omega) | (refine a_condP rfl (fun hc => ?_) (fun hc => ?_)) <;> (try (exfalso; omega)) | (refine a_condN rfl (fun hc => ?_) (fun hc => ?_)) <;> (try (exfalso; omega)) | refine o_callE rfl (hup) ⟨nqS, nqS, nqS, True.intro⟩ rfl ?_)
          all_goals
            refine end_all [] [] (.tup [.sl 1 [], .i .i64 u]) rfl ?_ ?_ (rle_tup2 CLe.nilsl (CLe.of_eq rfl) rfl rfl) .nil ⟨rfl, rfl⟩ _ (.inl rfl)
            · exact nq1
            · exact ⟨trivial, trivial, trivial⟩
        · have hu := Decidable.not_not.1 hu
          subst hu
          rw [if_neg (by decide)] at hst
          repeat' (first | refine Awp.seq ?_ | refine Awp.block ?_ | refine Awp.region ?_ | refine Ops.nil (nqA ?_) | refine Ops.nil (nqX ?_) | refine Awp.skip (nqA ?_) | (refine o_add rfl rfl rfl rfl ?_ ?_; omega) | (refine o_calm rfl TtOk rfl rfl rfl ?_ (fun _ => ?_); exact nd) | refine o_alloc (d := 11) rfl TtOk rfl rfl rfl (fun b11 => ?_) | refine o_alloc (d := 12) rfl TtOk rfl rfl rfl (fun b12 => ?_) | refine o_store TtOk rfl rfl rfl rfl rfl rfl rfl ⟨rfl, rfl⟩ rfl rfl rfl rfl rfl ?_ | (refine o_index rfl TtOk rfl rfl rfl rfl rfl rfl ?_ (getq_nat ?_) ?_; omega; omega) | refine o_buildSlice TtOk rfl rfl rfl rfl rfl rfl rfl rfl rfl rfl rfl nq1 (fun _ => ?_) | (refine o_append TtOk rfl rfl rfl rfl rfl rfl rfl rfl rfl (by first | exact True.intro | exact rfl) rfl rfl (fun _ => rfl) ?_ ?_ (fun _ => ?_); ((repeat' (first | rw [List.length_append] | rw [List.length_map] | rw [List.length_cons] | rw [List.length_nil] | rw [List.length_take] | rw [List.length_drop])) <;> omega); ((repeat' (first | rw [List.length_append] | rw [List.length_map] | rw [List.length_cons] | rw [List.length_nil] | rw [List.length_take] | rw [List.length_drop])) <;> omega)) | refine a_condF rfl ?_ | (refine a_condP rfl (fun hc => ?_) (fun hc => ?_)) <;> (try (exfalso; omega)) | refine a_any 29 [7, 58] [84] [86] [0, 1, 2, 5, 3, 4, 6, 7, 8] (by kernel_rfl) (by kernel_rfl) (by kernel_rfl) rfl rfl rfl ?_ | (refine o_mkIface TtOk rfl rfl rfl rfl rfl rfl ?_) | refine o_callE rfl (hup) ⟨nqS, nqS, nqS, True.intro⟩ rfl ?_ | refine o_callE rfl (hit) ⟨nqS, True.intro⟩ rfl ?_)
          all_goals
            refine ⟨(i + 1, acc ++ [.inn l1 l2], z, _), [], ⟨by show i + 1 ≤ path.length; omega, by show (acc ++ [Nod.inn l1 l2]).length = i + 1 + 1; rw [List.length_append, List.length_singleton]; omega, oz, (fin_app _ _ _).trans hst⟩, by show path.length - (i + 1) < path.length - i; omega, rfl, ⟨sle_i hi1, sle_i rfl, sle_sl rfl, sle_own, sle_ptr, sle_ptr, True.intro⟩, HLe.cons 58 rfl (HOLe.row ?_) (HLe.cons 7 rfl (HOLe.refl _) (HLe.cons 3 rfl (HOLe.refl _) .nil))⟩
            rw [List.map_append]; rfl
      · have hin : i = path.length := by omega
        rw [hin, List.drop_length] at hst
        have hF2 : F = (acc ++ [], 0) := hst.symm
        rw [hF2, List.append_nil]
        repeat' (first | refine Awp.seq ?_ | refine Awp.region ?_ | refine Ops.nil (nqA ?_) | refine Awp.exit (nqA ?_) | refine Awp.ret (nqE ?_) | (refine o_calm rfl TtOk rfl rfl rfl ?_ (fun _ => ?_); exact nd) | (refine a_condP rfl (fun hc => ?_) (fun hc => ?_)) <;> (try (exfalso; omega)))
        all_goals
          refine end_all [58] [] (.tup [.sl 1 (acc.map Nod.A), .i .i64 0]) rfl ?_ ?_ (rle_tup2 (CLe.fz (.head _)) (CLe.of_eq rfl) rfl rfl) .nil ⟨rfl, rfl⟩ _ (.inl rfl)
          · exact nq1
          · exact ⟨trivial, trivial, trivial⟩
  · rw [if_neg he2]
    repeat' (first | refine Awp.seq ?_ | refine Awp.block ?_ | refine Awp.region ?_ | refine Ops.nil (nqA ?_) | refine Awp.skip (nqA ?_) | refine Awp.ret (nqE ?_) | refine o_len rfl TtOk rfl rfl rfl (fun _ => ?_) | (refine o_calm rfl TtOk rfl rfl rfl ?_ (fun _ => ?_); exact nd) | refine o_alloc (d := 7) rfl TtOk rfl rfl rfl (fun b7 => ?_) | refine o_box (d := 2) rfl rfl rfl rfl (fun b2 => ?_) | refine o_box (d := 3) rfl rfl rfl rfl (fun b3 => ?_) | (refine a_condP rfl (fun hc => ?_) (fun hc => ?_)) <;> (try (exfalso; omega)))
    all_goals
      refine end_all [] [] (.tup [.sl 1 [], .i .i64 1]) rfl ?_ ?_ (rle_tup2 CLe.nilsl (CLe.of_eq rfl) rfl rfl) .nil ⟨rfl, rfl⟩ _ (.inl rfl)
      · exact nq1
      · exact ⟨trivial, trivial, trivial⟩
end Go.Proofs.YtcmgpkibjdbonaaGreat
set_option maxHeartbeats 4000000
namespace Go.Proofs.YtcmgpkibjdbonaaGreat
open Go Go.RowKit
structure Fst (G : List Itm) : Prop where
  ok : ∀ x ∈ G, x.ok
  good : ∀ x ∈ G, goodI x = true
  anti : G.Pairwise Anti
  rise : RiseI G
/-- The item that two neighbours are. -/
def nbC (G : List Itm) (i : Nat) : Nat := comL (G.getD i default).l (G.getD (i + 1) default).l
def mrg (G : List Itm) (i : Nat) : List Itm := G.take i ++ innI (G.getD i default) (G.getD (i + 1) default) :: G.drop (i + 2)
end Go.Proofs.YtcmgpkibjdbonaaGreat
