/- ref18.Read by rules. -/
import Derived.Test.YtcmgpkibjdbonaaGreatZQ1Z
set_option maxHeartbeats 16000000
set_option maxRecDepth 100000
namespace Go.Proofs.YtcmgpkibjdbonaaGreat
open Go Go.RowKit
theorem e3_text {r : RS} (h : r.e ≠ 3) : r.text.2.e ≠ 3 := by
  refine e3_take ?_ _
  unfold RS.big
  split
  · exact e3_fail (e3_number h) 2 (by decide)
  · exact e3_number h
theorem rdT_keep {e : Int} {lf : Lef} {a b : Itm} {r : RS} (h : r.e ≠ 0) : rdT e lf a b r = (prf0, r.e) := by
  unfold rdT
  rw [show r.below 257 = (0, r) from keep_below h 257 (by decide)]
  show (if r.done ≠ 0 then (prf0, r.done) else _) = _
  rw [doneE h, if_pos h]
theorem rread18_spec (s : List UInt8) (hs : s.length ≤ 9223372036854775807) : Spec Tryz.prog 43 [.s s] [] (fun v os => v = .tup [(prRd s).1.R, .i .i64 (prRd s).2] ∧ os = []) := by
  obtain ⟨V, hV⟩ : ∃ V, prRd s = V := ⟨_, rfl⟩
  rw [hV]
  unfold prRd at hV
  have k0 := copen_spec s
  have o0 := RS.ok_open hs
  have e0 := e3_open s
  generalize RS.open s = r at *
  have k1 := cnumber_spec r o0
  have o1 := RS.ok_number o0
  have e1 := e3_number e0
  refine spec_of TtOk [] Tryz.func43 rfl Tryz.ntmps43 (by kernel_rfl) rfl rfl (fun C => ?_) rfl
  by_cases hb : 2 < r.number.1
  · have ez := e0_number (r := r) (by omega)
    have hf : (r.number.2.fail 2).e = 2 := by unfold RS.fail; rw [if_pos ez]
    have hV2 : (prf0, 2) = V := by
      rw [show r.below 3 = (0, r.number.2.fail 2) from if_pos (by omega)] at hV
      dsimp only at hV
      rw [if_pos rfl, rdT_keep (by rw [hf]; decide), hf] at hV
      exact hV
    subst hV2
    clear hf hV
    generalize r.number = q at *
    obtain ⟨n, r1⟩ := q
    dsimp only at k1 hb ez
    repeat' (first | refine Awp.seq ?_ | refine Awp.region ?_ | refine Ops.nil (nqA ?_) | refine Awp.ret (nqE ?_) | (refine o_calm rfl TtOk rfl rfl rfl ?_ (fun _ => ?_); exact nd) | refine o_alloc (d := 2) rfl TtOk rfl rfl rfl (fun b2 => ?_) | refine o_alloc (d := 4) rfl TtOk rfl rfl rfl (fun b4 => ?_) | refine o_alloc (d := 5) rfl TtOk rfl rfl rfl (fun b5 => ?_) | refine o_store TtOk rfl rfl rfl rfl rfl rfl rfl ⟨rfl, rfl⟩ rfl rfl rfl rfl rfl ?_ | refine o_build TtOk rfl rfl rfl rfl rfl rfl nq1 ?_ | (fail_if_success (refine o_isLit rfl (by first | exact .inl rfl | exact .inr rfl) ?_)); (refine o_splitP rfl rfl (fun hc => ?_) (fun hc => ?_) <;> try (exfalso; omega)) | (refine a_condP rfl (fun hc => ?_) (fun hc => ?_)) <;> (try (exfalso; omega)) | refine o_callE rfl (k0) ⟨nqS, True.intro⟩ rfl ?_ | refine o_callE rfl (k1) ⟨nqS, True.intro⟩ rfl ?_)
    all_goals
      refine end_all [] [] (.tup [prf0.R, .i .i64 (2)]) rfl ?_ ?_ (rle_tup2 (CLe.agg (.cons (CLe.refl _) (.cons (CLe.refl _) (.cons (CLe.refl _) (.cons (CLe.refl _) (.cons CLe.nilsl .nil)))))) (CLe.of_eq rfl) rfl rfl) .nil ⟨rfl, rfl⟩ _ (.inl rfl)
      · exact nq1
      · exact ⟨trivial, trivial, trivial⟩
  replace hV : (if r.number.1 = 0 then rdT 0 lef0 itm0 itm0 r.number.2
    else if r.number.2.text.2.done ≠ 0 ∧ r.number.2.text.2.done ≠ 3 then (prf0, r.number.2.text.2.done)
    else if (nodRd r.number.2.text.1).2 ≠ 0 then (prf0, (nodRd r.number.2.text.1).2)
    else rdN r.number.1 (nodRd r.number.2.text.1).1 r.number.2.text.2) = V := by
    rw [show r.below 3 = r.number from if_neg (by omega)] at hV
    exact hV
  have en : r.number.1 ≠ 0 → r.number.2.e = 0 := e0_number
  generalize r.number = q at *
  obtain ⟨n1, r1⟩ := q
  dsimp only at hV o1 e1 en k1 hb
  refine Awp.seq ?_
  repeat' (first | refine Awp.region ?_ | refine Ops.nil (nqA ?_) | (refine o_calm rfl TtOk rfl rfl rfl ?_ (fun _ => ?_); exact nd) | refine o_alloc (d := 2) rfl TtOk rfl rfl rfl (fun b2 => ?_))
  refine Awp.seq ?_
  repeat' (first | refine Awp.region ?_ | refine Ops.nil (nqA ?_) | refine o_alloc (d := 4) rfl TtOk rfl rfl rfl (fun b4 => ?_) | refine o_store TtOk rfl rfl rfl rfl rfl rfl rfl ⟨rfl, rfl⟩ rfl rfl rfl rfl rfl ?_ | refine o_build TtOk rfl rfl rfl rfl rfl rfl nq1 ?_)
  refine Awp.seq ?_
  repeat' (first | refine Awp.region ?_ | refine Ops.nil (nqA ?_) | (refine o_calm rfl TtOk rfl rfl rfl ?_ (fun _ => ?_); exact nd) | refine o_alloc (d := 5) rfl TtOk rfl rfl rfl (fun b5 => ?_) | refine o_store TtOk rfl rfl rfl rfl rfl rfl rfl ⟨rfl, rfl⟩ rfl rfl rfl rfl rfl ?_ | refine o_callE rfl (k0) ⟨nqS, True.intro⟩ rfl ?_ | refine o_callE rfl (k1) ⟨nqS, True.intro⟩ rfl ?_)
  refine Awp.seqI (X := Unit) (fun _ => ⟨122, [(4, .ptr 4 b4 [] 0), (5, .ptr 5 b5 [] 0), (2, .ptr 2 b2 [] 0), (6, .i .i64 n1)], [(5, .var b5 (rdA r1)), (4, .var b4 (.agg [.i .i64 0, lef0.A, itm0.R, itm0.R, .nil])), (2, .var b2 (.agg [.i .i64 0, lef0.A, itm0.R, itm0.R, .nil]))]⟩) (fun _ => True) ?_ (fun _ _ => ?_)
  · by_cases hz : r1.e = 0
    all_goals
      repeat' (first | refine Awp.seq ?_ | refine Awp.region ?_ | refine Ops.nil (nqA ?_) | refine Awp.skip (nqX ?_) | refine o_noT rfl rfl rfl ?_ | (refine o_calm rfl TtOk rfl rfl rfl ?_ (fun _ => ?_); exact nd) | (fail_if_success (refine o_isLit rfl (by first | exact .inl rfl | exact .inr rfl) ?_)); (refine o_splitP rfl rfl (fun hc => ?_) (fun hc => ?_) <;> try (exfalso; omega)) | refine a_condF rfl ?_ | (refine a_condP rfl (fun hc => ?_) (fun hc => ?_)) <;> (try (exfalso; omega)))
      all_goals exact ⟨(), [], trivial, rfl, ⟨sle_ptr, sle_ptr, sle_ptr, sle_i rfl, True.intro⟩, HLe.cons 5 rfl (HOLe.refl _) (HLe.cons 4 rfl (HOLe.refl _) (HLe.cons 2 rfl (HOLe.refl _) .nil))⟩
  refine Awp.seq ?_
  repeat' (first | refine Awp.region ?_ | refine Ops.nil (nqA ?_) | (refine o_calm rfl TtOk rfl rfl rfl ?_ (fun _ => ?_); exact nd) | refine o_store TtOk rfl rfl rfl rfl rfl rfl rfl ⟨rfl, rfl⟩ rfl rfl rfl rfl rfl ?_)
  refine Awp.seqI (X := Nat × Lef × Itm × Itm × RS) (fun q => ⟨122, [(4, .ptr 4 b4 [] 0), (5, .ptr 5 b5 [] 0), (2, .ptr 2 b2 [] 0)], [(5, .var b5 (rdA q.2.2.2.2)), (4, .var b4 (.agg [.i .i64 q.1, q.2.1.A, q.2.2.1.R, q.2.2.2.1.R, .nil])), (2, .var b2 (.agg [.i .i64 0, lef0.A, itm0.R, itm0.R, .nil]))]⟩) (fun q => rdT q.1 q.2.1 q.2.2.1 q.2.2.2.1 q.2.2.2.2 = V ∧ q.2.2.2.2.ok ∧ q.2.2.2.2.e ≠ 3) ?_ ?_
  · by_cases hn0 : n1 = 0
    · rw [if_pos hn0] at hV
      subst hn0
      repeat' (first | refine Awp.seq ?_ | refine Awp.region ?_ | refine Ops.nil (nqA ?_) | refine Awp.skip (nqX ?_) | (refine o_calm rfl TtOk rfl rfl rfl ?_ (fun _ => ?_); exact nd) | refine a_condF rfl ?_)
      all_goals exact ⟨(0, lef0, itm0, itm0, r1), [], ⟨hV, o1, e1⟩, rfl, ⟨sle_ptr, sle_ptr, sle_ptr, True.intro⟩, HLe.cons 5 rfl (HOLe.refl _) (HLe.cons 4 rfl (HOLe.refl _) (HLe.cons 2 rfl (HOLe.refl _) .nil))⟩
    rw [if_neg hn0] at hV
    have ez := en hn0
    have k2 := ctext_spec r1 o1
    have o2 := RS.ok_text o1
    have e2 := e3_text e1
    have hdn := e3_done e2
    have htl := text_len r1
    generalize r1.text = q at *
    obtain ⟨t, r2⟩ := q
    dsimp only at hV k2 o2 e2 hdn htl
    by_cases hz : r2.e = 0
    · rw [if_neg (fun h => (hdn.1 h) hz)] at hV
      have k3 := rread15_spec t (by omega)
      have hno := @nodRd_no t
      generalize nodRd t = w at *
      obtain ⟨N, x⟩ := w
      dsimp only at hV k3 hno
      by_cases hx : x ≠ 0
      · rw [if_pos hx] at hV
        subst hV
        repeat' (first | refine Awp.seq ?_ | refine Awp.region ?_ | refine Ops.nil (nqA ?_) | refine Awp.skip (nqA ?_) | refine Awp.ret (nqE ?_) | (refine o_calm rfl TtOk rfl rfl rfl ?_ (fun _ => ?_); exact nd) | refine o_alloc (d := 8) rfl TtOk rfl rfl rfl (fun b8 => ?_) | refine o_alloc (d := 9) rfl TtOk rfl rfl rfl (fun b9 => ?_) | refine o_alloc (d := 10) rfl TtOk rfl rfl rfl (fun b10 => ?_) | refine o_store TtOk rfl rfl rfl rfl rfl rfl rfl ⟨rfl, rfl⟩ rfl rfl rfl rfl rfl ?_ | refine o_build TtOk rfl rfl rfl rfl rfl rfl nq1 ?_ | (refine a_condP rfl (fun hc => ?_) (fun hc => ?_)) <;> (try (exfalso; omega)) | (refine a_condN rfl (fun hc => ?_) (fun hc => ?_)) <;> (try (exfalso; omega)) | refine o_callE rfl (k2) ⟨nqS, True.intro⟩ rfl ?_ | refine o_callE rfl (k3) ⟨nqS, True.intro⟩ rfl ?_)
        all_goals
          refine end_all [] [] (.tup [prf0.R, .i .i64 (x)]) rfl ?_ ?_ (rle_tup2 (CLe.agg (.cons (CLe.refl _) (.cons (CLe.refl _) (.cons (CLe.refl _) (.cons (CLe.refl _) (.cons CLe.nilsl .nil)))))) (CLe.of_eq rfl) rfl rfl) .nil ⟨rfl, rfl⟩ _ (.inl rfl)
          · exact nq1
          · exact ⟨trivial, trivial, trivial⟩
      rw [if_neg hx] at hV
      have hx := Decidable.not_not.1 hx
      subst hx
      cases N with
      | no => exact absurd rfl (hno rfl)
      | lf y =>
        dsimp only [Nod.L15, Nod.a15, Nod.b15, Nod.i15] at k3
        have hyA : y.A = .agg [labA y.l, labA y.v, .i .i64 y.t] := rfl
        rw [hyA] at k3
        have hV : (if n1 = 1 then rdT 1 y itm0 itm0 r2 else (prf0, 3)) = V := hV
        by_cases h1 : n1 = 1
        · rw [if_pos h1] at hV
          subst h1
          repeat' (first | refine Awp.seq ?_ | refine Awp.region ?_ | refine Ops.nil (nqA ?_) | refine Ops.nil (nqX ?_) | refine Awp.skip (nqA ?_) | (refine o_calm rfl TtOk rfl rfl rfl ?_ (fun _ => ?_); exact nd) | refine o_alloc (d := 8) rfl TtOk rfl rfl rfl (fun b8 => ?_) | refine o_alloc (d := 9) rfl TtOk rfl rfl rfl (fun b9 => ?_) | refine o_alloc (d := 10) rfl TtOk rfl rfl rfl (fun b10 => ?_) | refine o_store TtOk rfl rfl rfl rfl rfl rfl rfl ⟨rfl, rfl⟩ rfl rfl rfl rfl rfl ?_ | refine a_condT rfl ?_ | refine a_condF rfl ?_ | (refine a_condN rfl (fun hc => ?_) (fun hc => ?_)) <;> (try (exfalso; omega)) | refine o_callE rfl (k2) ⟨nqS, True.intro⟩ rfl ?_ | refine o_callE rfl (k3) ⟨nqS, True.intro⟩ rfl ?_)
          all_goals exact ⟨(1, y, itm0, itm0, r2), [], ⟨hV, o2, e2⟩, rfl, ⟨sle_ptr, sle_ptr, sle_ptr, True.intro⟩, HLe.cons 5 rfl (HOLe.refl _) (HLe.cons 4 rfl (HOLe.refl _) (HLe.cons 2 rfl (HOLe.refl _) .nil))⟩
        · rw [if_neg h1] at hV
          have h2 : n1 = 2 := by omega
          subst h2
          subst hV
          repeat' (first | refine Awp.seq ?_ | refine Awp.region ?_ | refine Ops.nil (nqA ?_) | refine Awp.skip (nqA ?_) | refine Awp.ret (nqE ?_) | (refine o_calm rfl TtOk rfl rfl rfl ?_ (fun _ => ?_); exact nd) | refine o_alloc (d := 8) rfl TtOk rfl rfl rfl (fun b8 => ?_) | refine o_alloc (d := 9) rfl TtOk rfl rfl rfl (fun b9 => ?_) | refine o_alloc (d := 10) rfl TtOk rfl rfl rfl (fun b10 => ?_) | refine o_store TtOk rfl rfl rfl rfl rfl rfl rfl ⟨rfl, rfl⟩ rfl rfl rfl rfl rfl ?_ | refine o_build TtOk rfl rfl rfl rfl rfl rfl nq1 ?_ | refine a_condT rfl ?_ | refine a_condF rfl ?_ | (refine a_condN rfl (fun hc => ?_) (fun hc => ?_)) <;> (try (exfalso; omega)) | refine o_callE rfl (k2) ⟨nqS, True.intro⟩ rfl ?_ | refine o_callE rfl (k3) ⟨nqS, True.intro⟩ rfl ?_)
          all_goals
            refine end_all [] [] (.tup [prf0.R, .i .i64 (3)]) rfl ?_ ?_ (rle_tup2 (CLe.agg (.cons (CLe.refl _) (.cons (CLe.refl _) (.cons (CLe.refl _) (.cons (CLe.refl _) (.cons CLe.nilsl .nil)))))) (CLe.of_eq rfl) rfl rfl) .nil ⟨rfl, rfl⟩ _ (.inl rfl)
            · exact nq1
            · exact ⟨trivial, trivial, trivial⟩
      | inn a b =>
        dsimp only [Nod.L15, Nod.a15, Nod.b15, Nod.i15] at k3
        have hV : (if n1 = 2 then rdT 2 lef0 a b r2 else (prf0, 3)) = V := hV
        by_cases h1 : n1 = 2
        · rw [if_pos h1] at hV
          subst h1
          repeat' (first | refine Awp.seq ?_ | refine Awp.region ?_ | refine Ops.nil (nqA ?_) | refine Ops.nil (nqX ?_) | refine Awp.skip (nqA ?_) | (refine o_calm rfl TtOk rfl rfl rfl ?_ (fun _ => ?_); exact nd) | refine o_alloc (d := 8) rfl TtOk rfl rfl rfl (fun b8 => ?_) | refine o_alloc (d := 9) rfl TtOk rfl rfl rfl (fun b9 => ?_) | refine o_alloc (d := 10) rfl TtOk rfl rfl rfl (fun b10 => ?_) | refine o_store TtOk rfl rfl rfl rfl rfl rfl rfl ⟨rfl, rfl⟩ rfl rfl rfl rfl rfl ?_ | refine a_condT rfl ?_ | refine a_condF rfl ?_ | (refine a_condN rfl (fun hc => ?_) (fun hc => ?_)) <;> (try (exfalso; omega)) | refine o_callE rfl (k2) ⟨nqS, True.intro⟩ rfl ?_ | refine o_callE rfl (k3) ⟨nqS, True.intro⟩ rfl ?_)
          all_goals exact ⟨(2, lef0, a, b, r2), [], ⟨hV, o2, e2⟩, rfl, ⟨sle_ptr, sle_ptr, sle_ptr, True.intro⟩, HLe.cons 5 rfl (HOLe.refl _) (HLe.cons 4 rfl (HOLe.refl _) (HLe.cons 2 rfl (HOLe.refl _) .nil))⟩
        · rw [if_neg h1] at hV
          have h2 : n1 = 1 := by omega
          subst h2
          subst hV
          repeat' (first | refine Awp.seq ?_ | refine Awp.region ?_ | refine Ops.nil (nqA ?_) | refine Awp.skip (nqA ?_) | refine Awp.ret (nqE ?_) | (refine o_calm rfl TtOk rfl rfl rfl ?_ (fun _ => ?_); exact nd) | refine o_alloc (d := 8) rfl TtOk rfl rfl rfl (fun b8 => ?_) | refine o_alloc (d := 9) rfl TtOk rfl rfl rfl (fun b9 => ?_) | refine o_alloc (d := 10) rfl TtOk rfl rfl rfl (fun b10 => ?_) | refine o_store TtOk rfl rfl rfl rfl rfl rfl rfl ⟨rfl, rfl⟩ rfl rfl rfl rfl rfl ?_ | refine o_build TtOk rfl rfl rfl rfl rfl rfl nq1 ?_ | refine a_condT rfl ?_ | refine a_condF rfl ?_ | (refine a_condN rfl (fun hc => ?_) (fun hc => ?_)) <;> (try (exfalso; omega)) | refine o_callE rfl (k2) ⟨nqS, True.intro⟩ rfl ?_ | refine o_callE rfl (k3) ⟨nqS, True.intro⟩ rfl ?_)
          all_goals
            refine end_all [] [] (.tup [prf0.R, .i .i64 (3)]) rfl ?_ ?_ (rle_tup2 (CLe.agg (.cons (CLe.refl _) (.cons (CLe.refl _) (.cons (CLe.refl _) (.cons (CLe.refl _) (.cons CLe.nilsl .nil)))))) (CLe.of_eq rfl) rfl rfl) .nil ⟨rfl, rfl⟩ _ (.inl rfl)
            · exact nq1
            · exact ⟨trivial, trivial, trivial⟩
    · rw [if_pos (hdn.2 hz), doneE hz] at hV
      subst hV
      repeat' (first | refine Awp.seq ?_ | refine Awp.region ?_ | refine Ops.nil (nqA ?_) | refine Awp.ret (nqE ?_) | (refine o_calm rfl TtOk rfl rfl rfl ?_ (fun _ => ?_); exact nd) | refine o_store TtOk rfl rfl rfl rfl rfl rfl rfl ⟨rfl, rfl⟩ rfl rfl rfl rfl rfl ?_ | refine o_build TtOk rfl rfl rfl rfl rfl rfl nq1 ?_ | (refine a_condP rfl (fun hc => ?_) (fun hc => ?_)) <;> (try (exfalso; omega)) | (refine a_condN rfl (fun hc => ?_) (fun hc => ?_)) <;> (try (exfalso; omega)) | refine a_any 10 [2] [] [] [0, 1, 2, 3, 4] (by kernel_rfl) (by kernel_rfl) (by kernel_rfl) rfl rfl rfl ?_ | refine o_callE rfl (k2) ⟨nqS, True.intro⟩ rfl ?_)
      all_goals
        refine end_all [] [] (.tup [prf0.R, .i .i64 (r2.e)]) rfl ?_ ?_ (rle_tup2 (CLe.agg (.cons (CLe.refl _) (.cons (CLe.refl _) (.cons (CLe.refl _) (.cons (CLe.refl _) (.cons CLe.nilsl .nil)))))) (CLe.of_eq rfl) rfl rfl) .nil ⟨rfl, rfl⟩ _ (.inl rfl)
        · exact nq1
        · exact ⟨trivial, trivial, trivial⟩
  clear hV o1 e1 en hb k0 k1 o0 e0
  rintro ⟨e, lf, a, b, r⟩ ⟨hV, o0, e0⟩
  dsimp only at hV o0 e0 ⊢
  have k1 := cnumber_spec r o0
  have o1 := RS.ok_number o0
  have e1 := e3_number e0
  unfold rdT at hV
  by_cases hb : 256 < r.number.1
  · have ez := e0_number (r := r) (by omega)
    have hf : (r.number.2.fail 2).e = 2 := by unfold RS.fail; rw [if_pos ez]
    have hV2 : (prf0, 2) = V := by
      rw [show r.below 257 = (0, r.number.2.fail 2) from if_pos (by omega)] at hV
      have hV : (if (r.number.2.fail 2).done ≠ 0 then (prf0, (r.number.2.fail 2).done) else (⟨e, lf, a, b, []⟩, 0)) = V := hV
      rw [doneE (by rw [hf]; decide), hf, if_pos (by decide)] at hV
      exact hV
    subst hV2
    clear hf hV
    generalize r.number = q at *
    obtain ⟨n, r1⟩ := q
    dsimp only at k1 hb ez
    repeat' (first | refine Awp.seq ?_ | refine Awp.region ?_ | refine Ops.nil (nqA ?_) | refine Awp.ret (nqE ?_) | (refine o_calm rfl TtOk rfl rfl rfl ?_ (fun _ => ?_); exact nd) | refine o_store TtOk rfl rfl rfl rfl rfl rfl rfl ⟨rfl, rfl⟩ rfl rfl rfl rfl rfl ?_ | refine o_build TtOk rfl rfl rfl rfl rfl rfl nq1 ?_ | (fail_if_success (refine o_isLit rfl (by first | exact .inl rfl | exact .inr rfl) ?_)); (refine o_splitP rfl rfl (fun hc => ?_) (fun hc => ?_) <;> try (exfalso; omega)) | (refine a_condP rfl (fun hc => ?_) (fun hc => ?_)) <;> (try (exfalso; omega)) | refine o_callE rfl (k1) ⟨nqS, True.intro⟩ rfl ?_)
    all_goals
      refine end_all [] [] (.tup [prf0.R, .i .i64 (2)]) rfl ?_ ?_ (rle_tup2 (CLe.agg (.cons (CLe.refl _) (.cons (CLe.refl _) (.cons (CLe.refl _) (.cons (CLe.refl _) (.cons CLe.nilsl .nil)))))) (CLe.of_eq rfl) rfl rfl) .nil ⟨rfl, rfl⟩ _ (.inl rfl)
      · exact nq1
      · exact ⟨trivial, trivial, trivial⟩
  replace hV : rdL e lf a b r.number.1 [] r.number.2 = V := by
    rw [show r.below 257 = r.number from if_neg (by omega)] at hV
    exact hV
  have en : r.number.1 ≠ 0 → r.number.2.e = 0 := e0_number
  generalize r.number = q at *
  obtain ⟨n, r1⟩ := q
  dsimp only at hV o1 e1 en k1 hb
  refine Awp.seq ?_
  repeat' (first | refine Awp.region ?_ | refine Ops.nil (nqA ?_) | (refine o_calm rfl TtOk rfl rfl rfl ?_ (fun _ => ?_); exact nd) | refine o_store TtOk rfl rfl rfl rfl rfl rfl rfl ⟨rfl, rfl⟩ rfl rfl rfl rfl rfl ?_ | refine o_callE rfl (k1) ⟨nqS, True.intro⟩ rfl ?_)
  refine Awp.seqI (X := Unit) (fun _ => ⟨122, [(4, .ptr 4 b4 [] 0), (5, .ptr 5 b5 [] 0), (2, .ptr 2 b2 [] 0), (13, .i .i64 n)], [(5, .var b5 (rdA r1)), (4, .var b4 (.agg [.i .i64 e, lf.A, a.R, b.R, .nil])), (2, .var b2 (.agg [.i .i64 0, lef0.A, itm0.R, itm0.R, .nil]))]⟩) (fun _ => True) ?_ (fun _ _ => ?_)
  · by_cases hz : r1.e = 0
    all_goals
      repeat' (first | refine Awp.seq ?_ | refine Awp.region ?_ | refine Ops.nil (nqA ?_) | refine Awp.skip (nqX ?_) | refine o_noT rfl rfl rfl ?_ | (refine o_calm rfl TtOk rfl rfl rfl ?_ (fun _ => ?_); exact nd) | (fail_if_success (refine o_isLit rfl (by first | exact .inl rfl | exact .inr rfl) ?_)); (refine o_splitP rfl rfl (fun hc => ?_) (fun hc => ?_) <;> try (exfalso; omega)) | refine a_condF rfl ?_ | (refine a_condP rfl (fun hc => ?_) (fun hc => ?_)) <;> (try (exfalso; omega)))
      all_goals exact ⟨(), [], trivial, rfl, ⟨sle_ptr, sle_ptr, sle_ptr, sle_i rfl, True.intro⟩, HLe.cons 5 rfl (HOLe.refl _) (HLe.cons 4 rfl (HOLe.refl _) (HLe.cons 2 rfl (HOLe.refl _) .nil))⟩
  repeat' (first | refine Awp.seq ?_ | refine Awp.block ?_ | refine Awp.region ?_ | refine Ops.nil (nqA ?_) | (refine o_calm rfl TtOk rfl rfl rfl ?_ (fun _ => ?_); exact nd))
  refine Awp.loop (fun q : Nat × List Itm × RS × Value => ⟨122, [(14, .i .i64 q.1), (13, .i .i64 n), (5, .ptr 5 b5 [] 0), (4, .ptr 4 b4 [] 0), (2, .ptr 2 b2 [] 0)], [(5, .var b5 (rdA q.2.2.1)), (4, .var b4 (.agg [.i .i64 e, lf.A, a.R, b.R, .own 113 q.2.2.2])), (113, .row q.2.2.2 62 66 (q.2.1.map Itm.R)), (2, .var b2 (.agg [.i .i64 0, lef0.A, itm0.R, itm0.R, .nil]))]⟩) (fun q => q.1 ≤ n ∧ q.2.1.length = q.1 ∧ q.2.2.1.ok ∧ q.2.2.1.e ≠ 3 ∧ (n ≠ 0 → q.2.2.1.e = 0) ∧ rdL e lf a b (n - q.1) q.2.1 q.2.2.1 = V) (fun q => n - q.1) [] (0, [], r1, .slice none 0 0) ⟨Nat.zero_le _, rfl, o1, e1, en, hV⟩ ?_ ?_
  · exact ⟨rfl, ⟨sle_i rfl, sle_i rfl, sle_ptr, sle_ptr, sle_ptr, True.intro⟩, HLe.cons 5 rfl (HOLe.refl _) (HLe.cons 4 rfl (HOLe.var (CLe.agg (.cons (CLe.refl _) (.cons (CLe.refl _) (.cons (CLe.refl _) (.cons (CLe.refl _) (.cons CLe.nilown .nil))))))) (HLe.none (HLe.cons 2 rfl (HOLe.refl _) .nil)))⟩
  clear hV o1 e1 k1 o0 e0 en
  rintro ⟨i, p, r, v⟩ ⟨hi, hpl, o1, e1, hez, hst⟩
  dsimp only at hi hpl o1 e1 hez hst ⊢
  by_cases hlt : i < n
  · have hi1 : ((i : Int) + 1 = ((i + 1 : Nat) : Int)) := by omega
    have he := hez (by omega)
    rw [show n - i = (n - (i + 1)) + 1 by omega, rdL] at hst
    have k3 := ritem15_spec r o1
    have o2 := RS.ok_itm o1
    have e2 := e3_itm e1
    have hxo := itm_ok' r
    have hdn := e3_done e2
    generalize r.itm = y at *
    obtain ⟨x, r2⟩ := y
    have k5 := rgood15_spec x hxo
    have hxR : x.R = .agg [.i .i64 x.n, labA x.l, labA x.s, .i .i64 x.t] := rfl
    dsimp only at hst k3 o2 e2 hdn
    rw [hxR] at k3 k5
    by_cases hz : r2.e = 0
    · rw [if_neg (fun h => (hdn.1 h) hz)] at hst
      cases hg : goodI x with
      | false =>
        rw [if_neg (by rw [hg]; decide)] at hst
        subst hst
        rw [hg] at k5
        repeat' (first | refine Awp.seq ?_ | refine Awp.block ?_ | refine Awp.region ?_ | refine Ops.nil (nqA ?_) | refine Awp.skip (nqA ?_) | refine Awp.ret (nqE ?_) | (refine o_calm rfl TtOk rfl rfl rfl ?_ (fun _ => ?_); exact nd) | refine o_alloc (d := 15) rfl TtOk rfl rfl rfl (fun b15 => ?_) | refine o_store TtOk rfl rfl rfl rfl rfl rfl rfl ⟨rfl, rfl⟩ rfl rfl rfl rfl rfl ?_ | refine o_build TtOk rfl rfl rfl rfl rfl rfl nq1 ?_ | (fail_if_success (refine o_isLit rfl (by first | exact .inl rfl | exact .inr rfl) ?_)); (refine o_splitP rfl rfl (fun hc => ?_) (fun hc => ?_) <;> try (exfalso; omega)) | refine a_condT rfl ?_ | (refine a_condP rfl (fun hc => ?_) (fun hc => ?_)) <;> (try (exfalso; omega)) | (refine a_condN rfl (fun hc => ?_) (fun hc => ?_)) <;> (try (exfalso; omega)) | refine o_callE rfl (k3) ⟨nqS, True.intro⟩ rfl ?_ | refine o_callE rfl (k5) ⟨nqS, True.intro⟩ rfl ?_)
        all_goals
          refine end_all [] [] (.tup [prf0.R, .i .i64 (1)]) rfl ?_ ?_ (rle_tup2 (CLe.agg (.cons (CLe.refl _) (.cons (CLe.refl _) (.cons (CLe.refl _) (.cons (CLe.refl _) (.cons CLe.nilsl .nil)))))) (CLe.of_eq rfl) rfl rfl) .nil ⟨rfl, rfl⟩ _ (.inl rfl)
          · exact nq1
          · exact ⟨trivial, trivial, trivial⟩
      | true =>
        rw [if_pos hg] at hst
        rw [hg] at k5
        repeat' (first | refine Awp.seq ?_ | refine Awp.block ?_ | refine Awp.region ?_ | refine Ops.nil (nqA ?_) | refine Ops.nil (nqX ?_) | refine Awp.skip (nqA ?_) | (refine o_add rfl rfl rfl rfl ?_ ?_; omega) | (refine o_calm rfl TtOk rfl rfl rfl ?_ (fun _ => ?_); exact nd) | refine o_alloc (d := 15) rfl TtOk rfl rfl rfl (fun b15 => ?_) | refine o_store TtOk rfl rfl rfl rfl rfl rfl rfl ⟨rfl, rfl⟩ rfl rfl rfl rfl rfl ?_ | refine o_build TtOk rfl rfl rfl rfl rfl rfl nq1 ?_ | refine o_buildSlice TtOk rfl rfl rfl rfl rfl rfl rfl rfl rfl rfl rfl nq1 (fun _ => ?_) | (refine o_append TtOk rfl rfl rfl rfl rfl rfl rfl rfl rfl (by first | exact True.intro | exact rfl) rfl rfl (fun _ => rfl) ?_ ?_ (fun _ => ?_); ((repeat' (first | rw [List.length_append] | rw [List.length_map] | rw [List.length_cons] | rw [List.length_nil] | rw [List.length_take] | rw [List.length_drop])) <;> omega); ((repeat' (first | rw [List.length_append] | rw [List.length_map] | rw [List.length_cons] | rw [List.length_nil] | rw [List.length_take] | rw [List.length_drop])) <;> omega)) | (fail_if_success (refine o_isLit rfl (by first | exact .inl rfl | exact .inr rfl) ?_)); (refine o_splitP rfl rfl (fun hc => ?_) (fun hc => ?_) <;> try (exfalso; omega)) | refine a_condF rfl ?_ | (refine a_condP rfl (fun hc => ?_) (fun hc => ?_)) <;> (try (exfalso; omega)) | (refine a_condN rfl (fun hc => ?_) (fun hc => ?_)) <;> (try (exfalso; omega)) | refine o_callE rfl (k3) ⟨nqS, True.intro⟩ rfl ?_ | refine o_callE rfl (k5) ⟨nqS, True.intro⟩ rfl ?_)
        all_goals exact ⟨(i + 1, p ++ [x], r2, _), [], ⟨hlt, by show (p ++ [_]).length = i + 1; rw [List.length_append, List.length_singleton, hpl], o2, e2, fun _ => hz, hst⟩, by show n - (i + 1) < n - i; omega, rfl, ⟨sle_i hi1, sle_i rfl, sle_ptr, sle_ptr, sle_ptr, True.intro⟩, HLe.cons 5 rfl (HOLe.refl _) (HLe.cons 4 rfl (HOLe.refl _) (HLe.cons 113 rfl (HOLe.row (by rw [List.map_append]; rfl)) (HLe.cons 2 rfl (HOLe.refl _) .nil)))⟩
    · rw [if_pos (hdn.2 hz), doneE hz] at hst
      subst hst
      repeat' (first | refine Awp.seq ?_ | refine Awp.block ?_ | refine Awp.region ?_ | refine Ops.nil (nqA ?_) | refine Awp.skip (nqA ?_) | refine Awp.ret (nqE ?_) | (refine o_calm rfl TtOk rfl rfl rfl ?_ (fun _ => ?_); exact nd) | refine o_alloc (d := 15) rfl TtOk rfl rfl rfl (fun b15 => ?_) | refine o_store TtOk rfl rfl rfl rfl rfl rfl rfl ⟨rfl, rfl⟩ rfl rfl rfl rfl rfl ?_ | refine o_build TtOk rfl rfl rfl rfl rfl rfl nq1 ?_ | (fail_if_success (refine o_isLit rfl (by first | exact .inl rfl | exact .inr rfl) ?_)); (refine o_splitP rfl rfl (fun hc => ?_) (fun hc => ?_) <;> try (exfalso; omega)) | (refine a_condP rfl (fun hc => ?_) (fun hc => ?_)) <;> (try (exfalso; omega)) | (refine a_condN rfl (fun hc => ?_) (fun hc => ?_)) <;> (try (exfalso; omega)) | refine a_any 28 [2] [] [] [0, 1, 2, 3, 4] (by kernel_rfl) (by kernel_rfl) (by kernel_rfl) rfl rfl rfl ?_ | refine o_callE rfl (k3) ⟨nqS, True.intro⟩ rfl ?_)
      all_goals
        refine end_all [] [] (.tup [prf0.R, .i .i64 (r2.e)]) rfl ?_ ?_ (rle_tup2 (CLe.agg (.cons (CLe.refl _) (.cons (CLe.refl _) (.cons (CLe.refl _) (.cons (CLe.refl _) (.cons CLe.nilsl .nil)))))) (CLe.of_eq rfl) rfl rfl) .nil ⟨rfl, rfl⟩ _ (.inl rfl)
        · exact nq1
        · exact ⟨trivial, trivial, trivial⟩
  · rw [show n - i = 0 by omega, rdL] at hst
    have k4 := cdone_spec r o1
    generalize r.done = d at *
    by_cases hd : d ≠ 0
    · rw [if_pos hd] at hst
      subst hst
      repeat' (first | refine Awp.seq ?_ | refine Awp.region ?_ | refine Ops.nil (nqA ?_) | refine Awp.exit (nqA ?_) | refine Awp.ret (nqE ?_) | refine o_noT rfl rfl rfl ?_ | (refine o_calm rfl TtOk rfl rfl rfl ?_ (fun _ => ?_); exact nd) | refine o_store TtOk rfl rfl rfl rfl rfl rfl rfl ⟨rfl, rfl⟩ rfl rfl rfl rfl rfl ?_ | refine o_build TtOk rfl rfl rfl rfl rfl rfl nq1 ?_ | (fail_if_success (refine o_isLit rfl (by first | exact .inl rfl | exact .inr rfl) ?_)); (refine o_splitP rfl rfl (fun hc => ?_) (fun hc => ?_) <;> try (exfalso; omega)) | refine a_condF rfl ?_ | (refine a_condN rfl (fun hc => ?_) (fun hc => ?_)) <;> (try (exfalso; omega)) | refine o_callE rfl (k4) ⟨nqS, True.intro⟩ rfl ?_)
      all_goals
        refine end_all [] [] (.tup [prf0.R, .i .i64 (d)]) rfl ?_ ?_ (rle_tup2 (CLe.agg (.cons (CLe.refl _) (.cons (CLe.refl _) (.cons (CLe.refl _) (.cons (CLe.refl _) (.cons CLe.nilsl .nil)))))) (CLe.of_eq rfl) rfl rfl) .nil ⟨rfl, rfl⟩ _ (.inl rfl)
        · exact nq1
        · exact ⟨trivial, trivial, trivial⟩
    · rw [if_neg hd] at hst
      have hd := Decidable.not_not.1 hd
      subst hd
      subst hst
      repeat' (first | refine Awp.seq ?_ | refine Awp.region ?_ | refine Ops.nil (nqA ?_) | refine Awp.skip (nqA ?_) | refine Awp.exit (nqA ?_) | refine Awp.ret (nqE ?_) | refine o_noT rfl rfl rfl ?_ | (refine o_calm rfl TtOk rfl rfl rfl ?_ (fun _ => ?_); exact nd) | refine o_store TtOk rfl rfl rfl rfl rfl rfl rfl ⟨rfl, rfl⟩ rfl rfl rfl rfl rfl ?_ | (fail_if_success (refine o_isLit rfl (by first | exact .inl rfl | exact .inr rfl) ?_)); (refine o_splitP rfl rfl (fun hc => ?_) (fun hc => ?_) <;> try (exfalso; omega)) | refine a_condF rfl ?_ | refine o_callE rfl (k4) ⟨nqS, True.intro⟩ rfl ?_)
      all_goals
        refine end_all [113] [] (.tup [(⟨e, lf, a, b, p⟩ : Prf).R, .i .i64 0]) rfl ?_ ?_ (rle_tup2 (CLe.agg (.cons (CLe.refl _) (.cons (CLe.refl _) (.cons (CLe.refl _) (.cons (CLe.refl _) (.cons (CLe.fz (.head _)) .nil)))))) (CLe.of_eq rfl) rfl rfl) .nil ⟨rfl, rfl⟩ _ (.inl rfl)
        · exact nq1
        · exact ⟨trivial, trivial, trivial⟩
end Go.Proofs.YtcmgpkibjdbonaaGreat
