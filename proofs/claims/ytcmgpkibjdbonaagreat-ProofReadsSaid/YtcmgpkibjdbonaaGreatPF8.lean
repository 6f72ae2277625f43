/- proof.Read by rules. -/
import Derived.Test.YtcmgpkibjdbonaaGreatPF2Z
import Derived.Test.YtcmgpkibjdbonaaGreatN2
set_option maxHeartbeats 16000000
set_option maxRecDepth 100000
namespace Go.Proofs.YtcmgpkibjdbonaaGreat
open Go Go.RowKit
/-- The rest of a proof's bytes: the path. -/
def rdL (e : Int) (lf : Lef) (a b : Itm) : Nat → List Itm → RS → Prf × Int
  | 0, p, r => if r.done ≠ 0 then (prf0, r.done) else (⟨e, lf, a, b, p⟩, 0)
  | k + 1, p, r => if r.itm.2.done ≠ 0 ∧ r.itm.2.done ≠ 3 then (prf0, r.itm.2.done) else if goodI r.itm.1 = true then rdL e lf a b k (p ++ [r.itm.1]) r.itm.2 else (prf0, 1)
def rdT (e : Int) (lf : Lef) (a b : Itm) (r : RS) : Prf × Int := rdL e lf a b (r.below 257).1 [] (r.below 257).2
/-- What bytes are as a proof; the error. -/
def rdN (e : Nat) (n : Nod) (r : RS) : Prf × Int :=
  match n with
  | .lf x => if e = 1 then rdT 1 x itm0 itm0 r else (prf0, 3)
  | .inn a b => if e = 2 then rdT 2 lef0 a b r else (prf0, 3)
  | .no => (prf0, 3)
def prRd (s : List UInt8) : Prf × Int :=
  let q := (RS.open s).below 3
  if q.1 = 0 then rdT 0 lef0 itm0 itm0 q.2
  else if q.2.text.2.done ≠ 0 ∧ q.2.text.2.done ≠ 3 then (prf0, q.2.text.2.done)
  else if (nodRd q.2.text.1).2 ≠ 0 then (prf0, (nodRd q.2.text.1).2)
  else rdN q.1 (nodRd q.2.text.1).1 q.2.text.2
theorem nodRd_ok (s : List UInt8) : (nodRd s).1 = .no ∨ (∃ x, (nodRd s).1 = .lf x ∧ x.ok) ∨ ∃ a b, (nodRd s).1 = .inn a b ∧ a.ok ∧ b.ok := by
  unfold nodRd
  split
  · exact .inl rfl
  split
  · exact .inl rfl
  unfold nodR
  dsimp only
  split
  · exact .inr (.inr ⟨_, _, rfl, itm_ok' _, itm_ok' _⟩)
  · exact .inr (.inl ⟨_, rfl, lef_ok' _⟩)
theorem nodRd_no {s : List UInt8} (h : (nodRd s).2 = 0) : (nodRd s).1 ≠ .no := by
  unfold nodRd at h ⊢
  split at h
  · exact absurd h ‹_›
  · rename_i h1
    split at h
    · exact absurd h ‹_›
    · rename_i h2
      rw [if_neg h1, if_neg h2]
      intro he
      have he : (nodR s).1 = .no := he
      unfold nodR at he
      dsimp only at he
      split at he <;> cases he
theorem below_lt (r : RS) (m : Nat) (hm : 0 < m) : (r.below m).1 < m := by
  unfold RS.below
  split
  · exact hm
  · omega
theorem pread_spec (s : List UInt8) (hs : s.length ≤ 9223372036854775807) : Spec Tryz.prog 42 [.s s] [] (fun v os => v = .tup [(prRd s).1.A, .i .i64 (prRd s).2] ∧ os = []) := by
  have k0 := ropen_spec s
  have o0 := RS.ok_open hs
  have k1 := fun b => rbelow_spec b 3 (RS.open s) o0
  obtain ⟨W, hW⟩ : ∃ W, prRd s = W := ⟨_, rfl⟩
  rw [hW]
  unfold prRd at hW
  dsimp only at hW
  refine spec_of TtOk [] Tryz.func42 rfl Tryz.ntmps42 (by kernel_rfl) rfl rfl (fun C => ?_) rfl
  refine Awp.seq ?_
  repeat' (first | refine Awp.region ?_ | refine Ops.nil (nqA ?_) | (refine o_calm rfl TtOk rfl rfl rfl ?_ (fun _ => ?_); exact nd) | refine o_alloc (d := 2) rfl TtOk rfl rfl rfl (fun b2 => ?_))
  refine Awp.seq ?_
  repeat' (first | refine Awp.region ?_ | refine Ops.nil (nqA ?_) | (refine o_calm rfl TtOk rfl rfl rfl ?_ (fun _ => ?_); exact nd) | (refine o_callN rfl k0 ⟨nqS, True.intro⟩ rfl (fun bN => ?_)))
  refine Awp.seq ?_
  obtain ⟨⟨e, r1⟩, hq⟩ : ∃ q, (RS.open s).below 3 = q := ⟨_, rfl⟩
  have o1 : r1.ok := by have := RS.ok_below o0 3; rw [hq] at this; exact this
  have he3 : e < 3 := by have := below_lt (RS.open s) 3 (by decide); rw [show (RS.open s).below ((3 : Nat) : Int) = (e, r1) from hq] at this; exact this
  rw [hq] at hW k1
  dsimp only at hW k1
  repeat' (first | refine Awp.region ?_ | refine Ops.nil (nqA ?_) | (refine o_calm rfl TtOk rfl rfl rfl ?_ (fun _ => ?_); exact nd) | refine o_alloc (d := 5) rfl TtOk rfl rfl rfl (fun b5 => ?_) | refine o_store TtOk rfl rfl rfl rfl rfl rfl rfl ⟨rfl, rfl⟩ rfl rfl rfl rfl rfl ?_ | refine o_build TtOk rfl rfl rfl rfl rfl rfl nq1 ?_ | (refine o_callP rfl rfl rfl rfl ((k1 _)) ⟨sle_ptr, nqS, True.intro⟩ (HOLe.refl _) rfl rfl ?_; rintro _ _ ⟨rfl, rfl⟩; refine ⟨_, rfl, _, rfl, ?_⟩))
  refine Awp.seqI (X := Int × Lef × Itm × Itm × RS) (fun q => ⟨109, [(4, .ptr 15 bN [] 0), (5, .ptr 5 b5 [] 0), (2, .ptr 2 b2 [] 0)], [(15, .var bN (rdA q.2.2.2.2)), (5, .var b5 (.agg [.i .i64 q.1, q.2.1.A, .agg [q.2.2.1.A, q.2.2.2.1.A], .nil])), (2, .var b2 (.agg [.i .i64 0, lef0.A, .agg [itmZ, itmZ], .nil]))]⟩) (fun q => q.2.2.2.2.ok ∧ rdT q.1 q.2.1 q.2.2.1 q.2.2.2.1 q.2.2.2.2 = W) ?_ ?_
  · clear k0 k1 hq
    by_cases h0 : e = 0
    · subst h0
      rw [if_pos rfl] at hW
      repeat' (first | refine Awp.seq ?_ | refine Awp.region ?_ | refine Ops.nil (nqA ?_) | refine Awp.skip (nqX ?_) | (refine o_calm rfl TtOk rfl rfl rfl ?_ (fun _ => ?_); exact nd) | refine a_condF rfl ?_)
      exact ⟨(0, lef0, itm0, itm0, r1), [], ⟨o1, hW⟩, rfl, ⟨sle_ptr, sle_ptr, sle_ptr, True.intro⟩, HLe.cons 15 rfl (HOLe.refl _) (HLe.cons 5 rfl (HOLe.refl _) (HLe.cons 2 rfl (HOLe.refl _) .nil))⟩
    rw [if_neg h0] at hW
    have h0i : ¬ ((e : Nat) : Int) = 0 := by omega
    have k2 := fun b => rtext_spec b r1 o1
    have o2 := RS.ok_text o1
    have hlt : r1.text.1.length ≤ 9223372036854775807 := by
      have h1 : r1.text.1.length ≤ r1.number.1 := take_len _ _
      have h2 := number_fits (r := r1)
      omega
    have k3 := nodeRead_spec r1.text.1 hlt
    have k4 := fun b => rdone_spec b r1.text.2
    have hnk := nodRd_ok r1.text.1
    have hnn := @nodRd_no r1.text.1
    have hnA : (nodRd r1.text.1).1.A = .nili ∨ ∃ T Y, (nodRd r1.text.1).1.A = .ifc T Y := by
      cases (nodRd r1.text.1).1 with
      | no => exact .inl rfl
      | lf x => exact .inr ⟨_, _, rfl⟩
      | inn u v => exact .inr ⟨_, _, rfl⟩
    generalize nodRd r1.text.1 = nd at *
    generalize r1.text = q2 at *
    obtain ⟨t, r2⟩ := q2
    obtain ⟨nn, nf⟩ := nd
    dsimp only at hW k2 k3 k4 hnk hnn hnA o2
    by_cases hd : r2.done ≠ 0 ∧ r2.done ≠ 3
    · rw [if_pos hd] at hW
      subst hW
      obtain ⟨hd0, hd3⟩ := hd
      generalize r2.done = d at *
      rcases hnA with hnA | ⟨tT, tY, hnA⟩
      all_goals
        rw [hnA] at k3
        repeat' (first | refine Awp.seq ?_ | refine Awp.region ?_ | refine Ops.nil (nqA ?_) | refine Awp.ret (nqE ?_) | (refine o_calm rfl TtOk rfl rfl rfl ?_ (fun _ => ?_); exact nd) | refine o_store TtOk rfl rfl rfl rfl rfl rfl rfl ⟨rfl, rfl⟩ rfl rfl rfl rfl rfl ?_ | refine o_build TtOk rfl rfl rfl rfl rfl rfl nq1 ?_ | (fail_if_success (refine o_isLit rfl (by first | exact .inl rfl | exact .inr rfl) ?_)); (refine o_splitN rfl rfl (fun hc => ?_) (fun hc => ?_) <;> try (exfalso; omega)) | (refine a_condN rfl (fun hc => ?_) (fun hc => ?_)) <;> (try (exfalso; omega)) | refine o_callE rfl (k3) ⟨nqS, True.intro⟩ rfl ?_ | (refine o_callP rfl rfl rfl rfl ((k2 _)) ⟨sle_ptr, True.intro⟩ (HOLe.refl _) rfl rfl ?_; rintro _ _ ⟨rfl, rfl⟩; refine ⟨_, rfl, _, rfl, ?_⟩) | (refine o_callP rfl rfl rfl rfl ((k4 _)) ⟨sle_ptr, True.intro⟩ (HOLe.refl _) rfl rfl ?_; rintro _ _ ⟨rfl, rfl⟩; refine ⟨_, rfl, _, rfl, ?_⟩))
        all_goals
          refine end_all [] [] (.tup [prf0.A, .i .i64 d]) rfl ?_ ?_ (rle_tup2 (CLe.agg (.cons (CLe.refl _) (.cons (CLe.refl _) (.cons (CLe.refl _) (.cons CLe.nilsl .nil))))) (CLe.of_eq rfl) rfl rfl) .nil ⟨rfl, rfl⟩ _ (.inl rfl)
          · exact nq1
          · exact ⟨trivial, trivial, trivial⟩
    rw [if_neg hd] at hW
    have hd : r2.done = 0 ∨ r2.done = 3 := by
      by_cases a : r2.done = 0
      · exact .inl a
      · exact .inr (Decidable.not_not.1 (fun b => hd ⟨a, b⟩))
    have hdd : r2.done ≠ 0 → r2.done = 3 := fun a => hd.elim (fun b => absurd b a) id
    generalize r2.done = d at *
    by_cases hf : nf ≠ 0
    · rw [if_pos hf] at hW
      subst hW
      rcases hnA with hnA | ⟨tT, tY, hnA⟩
      all_goals
        rw [hnA] at k3
        rcases hd with rfl | rfl
        · repeat' (first | refine Awp.seq ?_ | refine Awp.region ?_ | refine Ops.nil (nqA ?_) | refine Awp.skip (nqA ?_) | refine Awp.ret (nqE ?_) | refine o_offT rfl rfl rfl (by first | exact .inl rfl | exact .inr rfl) ?_ | (refine o_calm rfl TtOk rfl rfl rfl ?_ (fun _ => ?_); exact nd) | refine o_store TtOk rfl rfl rfl rfl rfl rfl rfl ⟨rfl, rfl⟩ rfl rfl rfl rfl rfl ?_ | refine o_build TtOk rfl rfl rfl rfl rfl rfl nq1 ?_ | refine a_condF rfl ?_ | (refine a_condN rfl (fun hc => ?_) (fun hc => ?_)) <;> (try (exfalso; omega)) | refine o_callE rfl (k3) ⟨nqS, True.intro⟩ rfl ?_ | (refine o_callP rfl rfl rfl rfl ((k2 _)) ⟨sle_ptr, True.intro⟩ (HOLe.refl _) rfl rfl ?_; rintro _ _ ⟨rfl, rfl⟩; refine ⟨_, rfl, _, rfl, ?_⟩) | (refine o_callP rfl rfl rfl rfl ((k4 _)) ⟨sle_ptr, True.intro⟩ (HOLe.refl _) rfl rfl ?_; rintro _ _ ⟨rfl, rfl⟩; refine ⟨_, rfl, _, rfl, ?_⟩))
          all_goals
            refine end_all [] [] (.tup [prf0.A, .i .i64 nf]) rfl ?_ ?_ (rle_tup2 (CLe.agg (.cons (CLe.refl _) (.cons (CLe.refl _) (.cons (CLe.refl _) (.cons CLe.nilsl .nil))))) (CLe.of_eq rfl) rfl rfl) .nil ⟨rfl, rfl⟩ _ (.inl rfl)
            · exact nq1
            · exact ⟨trivial, trivial, trivial⟩
        · repeat' (first | refine Awp.seq ?_ | refine Awp.region ?_ | refine Ops.nil (nqA ?_) | refine Awp.skip (nqA ?_) | refine Awp.ret (nqE ?_) | (refine o_calm rfl TtOk rfl rfl rfl ?_ (fun _ => ?_); exact nd) | refine o_store TtOk rfl rfl rfl rfl rfl rfl rfl ⟨rfl, rfl⟩ rfl rfl rfl rfl rfl ?_ | refine o_build TtOk rfl rfl rfl rfl rfl rfl nq1 ?_ | refine a_condF rfl ?_ | (refine a_condN rfl (fun hc => ?_) (fun hc => ?_)) <;> (try (exfalso; omega)) | refine o_callE rfl (k3) ⟨nqS, True.intro⟩ rfl ?_ | (refine o_callP rfl rfl rfl rfl ((k2 _)) ⟨sle_ptr, True.intro⟩ (HOLe.refl _) rfl rfl ?_; rintro _ _ ⟨rfl, rfl⟩; refine ⟨_, rfl, _, rfl, ?_⟩) | (refine o_callP rfl rfl rfl rfl ((k4 _)) ⟨sle_ptr, True.intro⟩ (HOLe.refl _) rfl rfl ?_; rintro _ _ ⟨rfl, rfl⟩; refine ⟨_, rfl, _, rfl, ?_⟩))
          all_goals
            refine end_all [] [] (.tup [prf0.A, .i .i64 nf]) rfl ?_ ?_ (rle_tup2 (CLe.agg (.cons (CLe.refl _) (.cons (CLe.refl _) (.cons (CLe.refl _) (.cons CLe.nilsl .nil))))) (CLe.of_eq rfl) rfl rfl) .nil ⟨rfl, rfl⟩ _ (.inl rfl)
            · exact nq1
            · exact ⟨trivial, trivial, trivial⟩
    rw [if_neg hf] at hW
    have hf := Decidable.not_not.1 hf
    subst hf
    have hnn := hnn rfl
    rcases hnk with rfl | ⟨x, rfl, hx⟩ | ⟨u, v, rfl, hu, hv⟩
    · exact absurd rfl hnn
    · have k3 : Spec Tryz.prog 131 [.s t] [] (fun r os => r = .tup [.ifc 46 x.A, .i .i64 0] ∧ os = []) := k3
      have k5 : Spec Tryz.prog 133 [.ifc 46 x.A] [] (fun v os => v = .tup [x.A, .b true] ∧ os = []) := asLeafT_spec x
      have k6 : Spec Tryz.prog 134 [.ifc 46 x.A] [] (fun v os => v = .tup [.agg [itm0.A, itm0.A], .b false] ∧ os = []) := asInnF_spec x
      by_cases h1 : e = 1
      · subst h1
        have hW : (if (1 : Nat) = 1 then rdT 1 x itm0 itm0 r2 else (prf0, 3)) = W := hW
        rw [if_pos rfl] at hW
        rcases hd with rfl | rfl
        · repeat' (first | refine Awp.seq ?_ | refine Awp.region ?_ | refine Ops.nil (nqA ?_) | refine Awp.skip (nqA ?_) | refine Awp.skip (nqX ?_) | refine o_offT rfl rfl rfl (by first | exact .inl rfl | exact .inr rfl) ?_ | (refine o_calm rfl TtOk rfl rfl rfl ?_ (fun _ => ?_); exact nd) | refine o_store TtOk rfl rfl rfl rfl rfl rfl rfl ⟨rfl, rfl⟩ rfl rfl rfl rfl rfl ?_ | refine a_condT rfl ?_ | refine a_condF rfl ?_ | refine o_callE rfl (k3) ⟨nqS, True.intro⟩ rfl ?_ | refine o_callE rfl (k5) ⟨nqS, True.intro⟩ rfl ?_ | refine o_callE rfl (k6) ⟨nqS, True.intro⟩ rfl ?_ | (refine o_callP rfl rfl rfl rfl ((k2 _)) ⟨sle_ptr, True.intro⟩ (HOLe.refl _) rfl rfl ?_; rintro _ _ ⟨rfl, rfl⟩; refine ⟨_, rfl, _, rfl, ?_⟩) | (refine o_callP rfl rfl rfl rfl ((k4 _)) ⟨sle_ptr, True.intro⟩ (HOLe.refl _) rfl rfl ?_; rintro _ _ ⟨rfl, rfl⟩; refine ⟨_, rfl, _, rfl, ?_⟩))
          exact ⟨(1, x, itm0, itm0, r2), [], ⟨o2, hW⟩, rfl, ⟨sle_ptr, sle_ptr, sle_ptr, True.intro⟩, HLe.cons 15 rfl (HOLe.refl _) (HLe.cons 5 rfl (HOLe.refl _) (HLe.cons 2 rfl (HOLe.refl _) .nil))⟩
        · repeat' (first | refine Awp.seq ?_ | refine Awp.region ?_ | refine Ops.nil (nqA ?_) | refine Awp.skip (nqA ?_) | refine Awp.skip (nqX ?_) | (refine o_calm rfl TtOk rfl rfl rfl ?_ (fun _ => ?_); exact nd) | refine o_store TtOk rfl rfl rfl rfl rfl rfl rfl ⟨rfl, rfl⟩ rfl rfl rfl rfl rfl ?_ | refine a_condT rfl ?_ | refine a_condF rfl ?_ | refine o_callE rfl (k3) ⟨nqS, True.intro⟩ rfl ?_ | refine o_callE rfl (k5) ⟨nqS, True.intro⟩ rfl ?_ | refine o_callE rfl (k6) ⟨nqS, True.intro⟩ rfl ?_ | (refine o_callP rfl rfl rfl rfl ((k2 _)) ⟨sle_ptr, True.intro⟩ (HOLe.refl _) rfl rfl ?_; rintro _ _ ⟨rfl, rfl⟩; refine ⟨_, rfl, _, rfl, ?_⟩) | (refine o_callP rfl rfl rfl rfl ((k4 _)) ⟨sle_ptr, True.intro⟩ (HOLe.refl _) rfl rfl ?_; rintro _ _ ⟨rfl, rfl⟩; refine ⟨_, rfl, _, rfl, ?_⟩))
          exact ⟨(1, x, itm0, itm0, r2), [], ⟨o2, hW⟩, rfl, ⟨sle_ptr, sle_ptr, sle_ptr, True.intro⟩, HLe.cons 15 rfl (HOLe.refl _) (HLe.cons 5 rfl (HOLe.refl _) (HLe.cons 2 rfl (HOLe.refl _) .nil))⟩
      · have h2 : e = 2 := by omega
        subst h2
        have hW : (if (2 : Nat) = 1 then rdT 1 x itm0 itm0 r2 else (prf0, 3)) = W := hW
        rw [if_neg (by decide)] at hW
        subst hW
        rcases hd with rfl | rfl
        · repeat' (first | refine Awp.seq ?_ | refine Awp.region ?_ | refine Ops.nil (nqA ?_) | refine Awp.skip (nqA ?_) | refine Awp.ret (nqE ?_) | refine o_offT rfl rfl rfl (by first | exact .inl rfl | exact .inr rfl) ?_ | refine o_offF rfl rfl rfl (by first | exact .inl rfl | exact .inr rfl) ?_ | (refine o_calm rfl TtOk rfl rfl rfl ?_ (fun _ => ?_); exact nd) | refine o_store TtOk rfl rfl rfl rfl rfl rfl rfl ⟨rfl, rfl⟩ rfl rfl rfl rfl rfl ?_ | refine o_build TtOk rfl rfl rfl rfl rfl rfl nq1 ?_ | refine a_condT rfl ?_ | refine a_condF rfl ?_ | refine o_callE rfl (k3) ⟨nqS, True.intro⟩ rfl ?_ | refine o_callE rfl (k5) ⟨nqS, True.intro⟩ rfl ?_ | refine o_callE rfl (k6) ⟨nqS, True.intro⟩ rfl ?_ | (refine o_callP rfl rfl rfl rfl ((k2 _)) ⟨sle_ptr, True.intro⟩ (HOLe.refl _) rfl rfl ?_; rintro _ _ ⟨rfl, rfl⟩; refine ⟨_, rfl, _, rfl, ?_⟩) | (refine o_callP rfl rfl rfl rfl ((k4 _)) ⟨sle_ptr, True.intro⟩ (HOLe.refl _) rfl rfl ?_; rintro _ _ ⟨rfl, rfl⟩; refine ⟨_, rfl, _, rfl, ?_⟩))
          all_goals
            refine end_all [] [] (.tup [prf0.A, .i .i64 3]) rfl ?_ ?_ (rle_tup2 (CLe.agg (.cons (CLe.refl _) (.cons (CLe.refl _) (.cons (CLe.refl _) (.cons CLe.nilsl .nil))))) (CLe.of_eq rfl) rfl rfl) .nil ⟨rfl, rfl⟩ _ (.inl rfl)
            · exact nq1
            · exact ⟨trivial, trivial, trivial⟩
        · repeat' (first | refine Awp.seq ?_ | refine Awp.region ?_ | refine Ops.nil (nqA ?_) | refine Awp.skip (nqA ?_) | refine Awp.ret (nqE ?_) | refine o_offF rfl rfl rfl (by first | exact .inl rfl | exact .inr rfl) ?_ | (refine o_calm rfl TtOk rfl rfl rfl ?_ (fun _ => ?_); exact nd) | refine o_store TtOk rfl rfl rfl rfl rfl rfl rfl ⟨rfl, rfl⟩ rfl rfl rfl rfl rfl ?_ | refine o_build TtOk rfl rfl rfl rfl rfl rfl nq1 ?_ | refine a_condT rfl ?_ | refine a_condF rfl ?_ | refine o_callE rfl (k3) ⟨nqS, True.intro⟩ rfl ?_ | refine o_callE rfl (k5) ⟨nqS, True.intro⟩ rfl ?_ | refine o_callE rfl (k6) ⟨nqS, True.intro⟩ rfl ?_ | (refine o_callP rfl rfl rfl rfl ((k2 _)) ⟨sle_ptr, True.intro⟩ (HOLe.refl _) rfl rfl ?_; rintro _ _ ⟨rfl, rfl⟩; refine ⟨_, rfl, _, rfl, ?_⟩) | (refine o_callP rfl rfl rfl rfl ((k4 _)) ⟨sle_ptr, True.intro⟩ (HOLe.refl _) rfl rfl ?_; rintro _ _ ⟨rfl, rfl⟩; refine ⟨_, rfl, _, rfl, ?_⟩))
          all_goals
            refine end_all [] [] (.tup [prf0.A, .i .i64 3]) rfl ?_ ?_ (rle_tup2 (CLe.agg (.cons (CLe.refl _) (.cons (CLe.refl _) (.cons (CLe.refl _) (.cons CLe.nilsl .nil))))) (CLe.of_eq rfl) rfl rfl) .nil ⟨rfl, rfl⟩ _ (.inl rfl)
            · exact nq1
            · exact ⟨trivial, trivial, trivial⟩
    · have k3 : Spec Tryz.prog 131 [.s t] [] (fun r os => r = .tup [.ifc 52 (.agg [u.A, v.A]), .i .i64 0] ∧ os = []) := k3
      have k5 : Spec Tryz.prog 133 [.ifc 52 (.agg [u.A, v.A])] [] (fun r os => r = .tup [lef0.A, .b false] ∧ os = []) := asLeafF_spec u v
      have k6 : Spec Tryz.prog 134 [.ifc 52 (.agg [u.A, v.A])] [] (fun r os => r = .tup [.agg [u.A, v.A], .b true] ∧ os = []) := asInnT_spec u v
      by_cases h2 : e = 2
      · subst h2
        have hW : (if (2 : Nat) = 2 then rdT 2 lef0 u v r2 else (prf0, 3)) = W := hW
        rw [if_pos rfl] at hW
        rcases hd with rfl | rfl
        · repeat' (first | refine Awp.seq ?_ | refine Awp.region ?_ | refine Ops.nil (nqA ?_) | refine Awp.skip (nqA ?_) | refine Awp.skip (nqX ?_) | refine o_offT rfl rfl rfl (by first | exact .inl rfl | exact .inr rfl) ?_ | (refine o_calm rfl TtOk rfl rfl rfl ?_ (fun _ => ?_); exact nd) | refine o_store TtOk rfl rfl rfl rfl rfl rfl rfl ⟨rfl, rfl⟩ rfl rfl rfl rfl rfl ?_ | refine a_condT rfl ?_ | refine a_condF rfl ?_ | refine o_callE rfl (k3) ⟨nqS, True.intro⟩ rfl ?_ | refine o_callE rfl (k5) ⟨nqS, True.intro⟩ rfl ?_ | refine o_callE rfl (k6) ⟨nqS, True.intro⟩ rfl ?_ | (refine o_callP rfl rfl rfl rfl ((k2 _)) ⟨sle_ptr, True.intro⟩ (HOLe.refl _) rfl rfl ?_; rintro _ _ ⟨rfl, rfl⟩; refine ⟨_, rfl, _, rfl, ?_⟩) | (refine o_callP rfl rfl rfl rfl ((k4 _)) ⟨sle_ptr, True.intro⟩ (HOLe.refl _) rfl rfl ?_; rintro _ _ ⟨rfl, rfl⟩; refine ⟨_, rfl, _, rfl, ?_⟩))
          exact ⟨(2, lef0, u, v, r2), [], ⟨o2, hW⟩, rfl, ⟨sle_ptr, sle_ptr, sle_ptr, True.intro⟩, HLe.cons 15 rfl (HOLe.refl _) (HLe.cons 5 rfl (HOLe.refl _) (HLe.cons 2 rfl (HOLe.refl _) .nil))⟩
        · repeat' (first | refine Awp.seq ?_ | refine Awp.region ?_ | refine Ops.nil (nqA ?_) | refine Awp.skip (nqA ?_) | refine Awp.skip (nqX ?_) | (refine o_calm rfl TtOk rfl rfl rfl ?_ (fun _ => ?_); exact nd) | refine o_store TtOk rfl rfl rfl rfl rfl rfl rfl ⟨rfl, rfl⟩ rfl rfl rfl rfl rfl ?_ | refine a_condT rfl ?_ | refine a_condF rfl ?_ | refine o_callE rfl (k3) ⟨nqS, True.intro⟩ rfl ?_ | refine o_callE rfl (k5) ⟨nqS, True.intro⟩ rfl ?_ | refine o_callE rfl (k6) ⟨nqS, True.intro⟩ rfl ?_ | (refine o_callP rfl rfl rfl rfl ((k2 _)) ⟨sle_ptr, True.intro⟩ (HOLe.refl _) rfl rfl ?_; rintro _ _ ⟨rfl, rfl⟩; refine ⟨_, rfl, _, rfl, ?_⟩) | (refine o_callP rfl rfl rfl rfl ((k4 _)) ⟨sle_ptr, True.intro⟩ (HOLe.refl _) rfl rfl ?_; rintro _ _ ⟨rfl, rfl⟩; refine ⟨_, rfl, _, rfl, ?_⟩))
          exact ⟨(2, lef0, u, v, r2), [], ⟨o2, hW⟩, rfl, ⟨sle_ptr, sle_ptr, sle_ptr, True.intro⟩, HLe.cons 15 rfl (HOLe.refl _) (HLe.cons 5 rfl (HOLe.refl _) (HLe.cons 2 rfl (HOLe.refl _) .nil))⟩
      · have h1 : e = 1 := by omega
        subst h1
        have hW : (if (1 : Nat) = 2 then rdT 2 lef0 u v r2 else (prf0, 3)) = W := hW
        rw [if_neg (by decide)] at hW
        subst hW
        rcases hd with rfl | rfl
        · repeat' (first | refine Awp.seq ?_ | refine Awp.region ?_ | refine Ops.nil (nqA ?_) | refine Awp.skip (nqA ?_) | refine Awp.ret (nqE ?_) | refine o_offT rfl rfl rfl (by first | exact .inl rfl | exact .inr rfl) ?_ | refine o_offF rfl rfl rfl (by first | exact .inl rfl | exact .inr rfl) ?_ | (refine o_calm rfl TtOk rfl rfl rfl ?_ (fun _ => ?_); exact nd) | refine o_store TtOk rfl rfl rfl rfl rfl rfl rfl ⟨rfl, rfl⟩ rfl rfl rfl rfl rfl ?_ | refine o_build TtOk rfl rfl rfl rfl rfl rfl nq1 ?_ | refine a_condT rfl ?_ | refine a_condF rfl ?_ | refine o_callE rfl (k3) ⟨nqS, True.intro⟩ rfl ?_ | refine o_callE rfl (k5) ⟨nqS, True.intro⟩ rfl ?_ | refine o_callE rfl (k6) ⟨nqS, True.intro⟩ rfl ?_ | (refine o_callP rfl rfl rfl rfl ((k2 _)) ⟨sle_ptr, True.intro⟩ (HOLe.refl _) rfl rfl ?_; rintro _ _ ⟨rfl, rfl⟩; refine ⟨_, rfl, _, rfl, ?_⟩) | (refine o_callP rfl rfl rfl rfl ((k4 _)) ⟨sle_ptr, True.intro⟩ (HOLe.refl _) rfl rfl ?_; rintro _ _ ⟨rfl, rfl⟩; refine ⟨_, rfl, _, rfl, ?_⟩))
          all_goals
            refine end_all [] [] (.tup [prf0.A, .i .i64 3]) rfl ?_ ?_ (rle_tup2 (CLe.agg (.cons (CLe.refl _) (.cons (CLe.refl _) (.cons (CLe.refl _) (.cons CLe.nilsl .nil))))) (CLe.of_eq rfl) rfl rfl) .nil ⟨rfl, rfl⟩ _ (.inl rfl)
            · exact nq1
            · exact ⟨trivial, trivial, trivial⟩
        · repeat' (first | refine Awp.seq ?_ | refine Awp.region ?_ | refine Ops.nil (nqA ?_) | refine Awp.skip (nqA ?_) | refine Awp.ret (nqE ?_) | refine o_offF rfl rfl rfl (by first | exact .inl rfl | exact .inr rfl) ?_ | (refine o_calm rfl TtOk rfl rfl rfl ?_ (fun _ => ?_); exact nd) | refine o_store TtOk rfl rfl rfl rfl rfl rfl rfl ⟨rfl, rfl⟩ rfl rfl rfl rfl rfl ?_ | refine o_build TtOk rfl rfl rfl rfl rfl rfl nq1 ?_ | refine a_condT rfl ?_ | refine a_condF rfl ?_ | refine o_callE rfl (k3) ⟨nqS, True.intro⟩ rfl ?_ | refine o_callE rfl (k5) ⟨nqS, True.intro⟩ rfl ?_ | refine o_callE rfl (k6) ⟨nqS, True.intro⟩ rfl ?_ | (refine o_callP rfl rfl rfl rfl ((k2 _)) ⟨sle_ptr, True.intro⟩ (HOLe.refl _) rfl rfl ?_; rintro _ _ ⟨rfl, rfl⟩; refine ⟨_, rfl, _, rfl, ?_⟩) | (refine o_callP rfl rfl rfl rfl ((k4 _)) ⟨sle_ptr, True.intro⟩ (HOLe.refl _) rfl rfl ?_; rintro _ _ ⟨rfl, rfl⟩; refine ⟨_, rfl, _, rfl, ?_⟩))
          all_goals
            refine end_all [] [] (.tup [prf0.A, .i .i64 3]) rfl ?_ ?_ (rle_tup2 (CLe.agg (.cons (CLe.refl _) (.cons (CLe.refl _) (.cons (CLe.refl _) (.cons CLe.nilsl .nil))))) (CLe.of_eq rfl) rfl rfl) .nil ⟨rfl, rfl⟩ _ (.inl rfl)
            · exact nq1
            · exact ⟨trivial, trivial, trivial⟩
  clear hW k0 k1 hq he3 o0 o1
  rintro ⟨e2, lf, a, b, r⟩ ⟨o1, hW⟩
  dsimp only at o1 hW ⊢
  unfold rdT at hW
  have k1 := fun b => rbelow_spec b 257 r o1
  have hn := below_lt r 257 (by decide)
  rw [show ((257 : Nat) : Int) = 257 from rfl] at hn
  have o2 := RS.ok_below o1 257
  generalize r.below 257 = q at *
  obtain ⟨n, r2⟩ := q
  dsimp only at hW hn o2 k1
  clear o1
  repeat' (first | refine Awp.seq ?_ | refine Awp.block ?_ | refine Awp.region ?_ | refine Ops.nil (nqA ?_) | (refine o_calm rfl TtOk rfl rfl rfl ?_ (fun _ => ?_); exact nd) | (refine o_callP rfl rfl rfl rfl ((k1 _)) ⟨sle_ptr, nqS, True.intro⟩ (HOLe.refl _) rfl rfl ?_; rintro _ _ ⟨rfl, rfl⟩; refine ⟨_, rfl, _, rfl, ?_⟩))
  refine Awp.loop (fun q : Nat × List Itm × RS × Value => ⟨109, [(69, .i .i64 q.1), (68, .i .i64 n), (4, .ptr 15 bN [] 0), (5, .ptr 5 b5 [] 0), (2, .ptr 2 b2 [] 0)], [(15, .var bN (rdA q.2.2.1)), (5, .var b5 (.agg [.i .i64 e2, lf.A, .agg [a.A, b.A], .own 99 q.2.2.2])), (99, .row q.2.2.2 50 66 (q.2.1.map Itm.A)), (2, .var b2 (.agg [.i .i64 0, lef0.A, .agg [itmZ, itmZ], .nil]))]⟩) (fun q => q.1 ≤ n ∧ q.2.1.length = q.1 ∧ q.2.2.1.ok ∧ rdL e2 lf a b (n - q.1) q.2.1 q.2.2.1 = W) (fun q => n - q.1) [] (0, [], r2, .slice none 0 0) ⟨Nat.zero_le _, rfl, o2, hW⟩ ?_ ?_
  · exact ⟨rfl, ⟨sle_i rfl, sle_i rfl, sle_ptr, sle_ptr, sle_ptr, True.intro⟩, HLe.cons 15 rfl (HOLe.refl _) (HLe.cons 5 rfl (HOLe.var (CLe.agg (.cons (CLe.of_eq rfl) (.cons (CLe.of_eq rfl) (.cons (CLe.of_eq rfl) (.cons CLe.nilown .nil)))))) (HLe.none (HLe.cons 2 rfl (HOLe.refl _) .nil)))⟩
  clear hW o2 k1
  rintro ⟨i, p, r, v⟩ ⟨hi, hpl, o1, hst⟩
  dsimp only at hi hpl o1 hst ⊢
  by_cases hlt : i < n
  · have hi1 : ((i : Int) + 1 = ((i + 1 : Nat) : Int)) := by omega
    rw [show n - i = (n - (i + 1)) + 1 by omega, rdL] at hst
    have k2 := fun b => rnumber_spec b r o1
    have k3 := fun b => rlabel_spec b _ (RS.ok_number o1)
    have k4 := fun b => rlabel_spec b _ (RS.ok_label (RS.ok_number o1))
    have k5 := fun b => rnumber_spec b _ (RS.ok_label (RS.ok_label (RS.ok_number o1)))
    have o5 := RS.ok_itm o1
    have k6 := fun b => rdone_spec b r.itm.2
    have hxo := itm_ok' r
    have k7 := ngood_spec r.itm.1 hxo
    have hA : r.itm.1.A = .agg [.agg [.i .i64 (r.number.1 : Nat), labA r.number.2.label.1], labA r.number.2.label.2.label.1, .i .i64 (r.number.2.label.2.label.2.number.1 : Nat)] := rfl
    have hB : r.itm.2 = r.number.2.label.2.label.2.number.2 := rfl
    rw [hA] at k7
    rw [hB] at k6 o5 hst
    generalize r.itm.1 = x at *
    generalize r.number.2.label.2.label.2.number = q4 at *
    generalize r.number.2.label.2.label = q3 at *
    generalize r.number.2.label = q2 at *
    generalize r.number = q1 at *
    by_cases hd : q4.2.done ≠ 0 ∧ q4.2.done ≠ 3
    · rw [if_pos hd] at hst
      subst hst
      obtain ⟨hd0, hd3⟩ := hd
      generalize q4.2.done = d at *
      repeat' (first | refine Awp.seq ?_ | refine Awp.block ?_ | refine Awp.region ?_ | refine Ops.nil (nqA ?_) | refine Awp.skip (nqA ?_) | refine Awp.ret (nqE ?_) | (refine o_calm rfl TtOk rfl rfl rfl ?_ (fun _ => ?_); exact nd) | refine o_alloc (d := 11) rfl TtOk rfl rfl rfl (fun b11 => ?_) | refine o_store TtOk rfl rfl rfl rfl rfl rfl rfl ⟨rfl, rfl⟩ rfl rfl rfl rfl rfl ?_ | refine o_build TtOk rfl rfl rfl rfl rfl rfl nq1 ?_ | (fail_if_success (refine o_isLit rfl (by first | exact .inl rfl | exact .inr rfl) ?_)); (refine o_splitN rfl rfl (fun hc => ?_) (fun hc => ?_) <;> try (exfalso; omega)) | (refine a_condP rfl (fun hc => ?_) (fun hc => ?_)) <;> (try (exfalso; omega)) | (refine a_condN rfl (fun hc => ?_) (fun hc => ?_)) <;> (try (exfalso; omega)) | (refine o_callP rfl rfl rfl rfl ((k2 _)) ⟨sle_ptr, True.intro⟩ (HOLe.refl _) rfl rfl ?_; rintro _ _ ⟨rfl, rfl⟩; refine ⟨_, rfl, _, rfl, ?_⟩) | (refine o_callP rfl rfl rfl rfl ((k3 _)) ⟨sle_ptr, True.intro⟩ (HOLe.refl _) rfl rfl ?_; rintro _ _ ⟨rfl, rfl⟩; refine ⟨_, rfl, _, rfl, ?_⟩) | (refine o_callP rfl rfl rfl rfl ((k4 _)) ⟨sle_ptr, True.intro⟩ (HOLe.refl _) rfl rfl ?_; rintro _ _ ⟨rfl, rfl⟩; refine ⟨_, rfl, _, rfl, ?_⟩) | (refine o_callP rfl rfl rfl rfl ((k5 _)) ⟨sle_ptr, True.intro⟩ (HOLe.refl _) rfl rfl ?_; rintro _ _ ⟨rfl, rfl⟩; refine ⟨_, rfl, _, rfl, ?_⟩) | (refine o_callP rfl rfl rfl rfl ((k6 _)) ⟨sle_ptr, True.intro⟩ (HOLe.refl _) rfl rfl ?_; rintro _ _ ⟨rfl, rfl⟩; refine ⟨_, rfl, _, rfl, ?_⟩))
      all_goals
        refine end_all [] [] (.tup [prf0.A, .i .i64 d]) rfl ?_ ?_ (rle_tup2 (CLe.agg (.cons (CLe.refl _) (.cons (CLe.refl _) (.cons (CLe.refl _) (.cons CLe.nilsl .nil))))) (CLe.of_eq rfl) rfl rfl) .nil ⟨rfl, rfl⟩ _ (.inl rfl)
        · exact nq1
        · exact ⟨trivial, trivial, trivial⟩
    rw [if_neg hd] at hst
    have hd : q4.2.done = 0 ∨ q4.2.done = 3 := by
      by_cases c : q4.2.done = 0
      · exact .inl c
      · exact .inr (Decidable.not_not.1 (fun b => hd ⟨c, b⟩))
    generalize q4.2.done = d at *
    by_cases hg : goodI x = true
    · rw [if_pos hg] at hst
      rw [hg] at k7
      rcases hd with rfl | rfl
      all_goals
        repeat' (first | refine Awp.seq ?_ | refine Awp.block ?_ | refine Awp.region ?_ | refine Ops.nil (nqA ?_) | refine Ops.nil (nqX ?_) | refine Awp.skip (nqA ?_) | refine o_offT rfl rfl rfl (by first | exact .inl rfl | exact .inr rfl) ?_ | (refine o_add rfl rfl rfl rfl ?_ ?_; omega) | (refine o_calm rfl TtOk rfl rfl rfl ?_ (fun _ => ?_); exact nd) | refine o_alloc (d := 11) rfl TtOk rfl rfl rfl (fun b11 => ?_) | refine o_store TtOk rfl rfl rfl rfl rfl rfl rfl ⟨rfl, rfl⟩ rfl rfl rfl rfl rfl ?_ | refine o_build TtOk rfl rfl rfl rfl rfl rfl nq1 ?_ | refine o_buildSlice TtOk rfl rfl rfl rfl rfl rfl rfl rfl rfl rfl rfl nq1 (fun _ => ?_) | (refine o_append TtOk rfl rfl rfl rfl rfl rfl rfl rfl rfl (by first | exact True.intro | exact rfl) rfl rfl (fun _ => rfl) ?_ ?_ (fun _ => ?_); ((repeat' (first | rw [List.length_append] | rw [List.length_map] | rw [List.length_cons] | rw [List.length_nil] | rw [List.length_take] | rw [List.length_drop])) <;> omega); ((repeat' (first | rw [List.length_append] | rw [List.length_map] | rw [List.length_cons] | rw [List.length_nil] | rw [List.length_take] | rw [List.length_drop])) <;> omega)) | refine a_condF rfl ?_ | (refine a_condP rfl (fun hc => ?_) (fun hc => ?_)) <;> (try (exfalso; omega)) | refine o_callE rfl (k7) ⟨nqS, True.intro⟩ rfl ?_ | (refine o_callP rfl rfl rfl rfl ((k2 _)) ⟨sle_ptr, True.intro⟩ (HOLe.refl _) rfl rfl ?_; rintro _ _ ⟨rfl, rfl⟩; refine ⟨_, rfl, _, rfl, ?_⟩) | (refine o_callP rfl rfl rfl rfl ((k3 _)) ⟨sle_ptr, True.intro⟩ (HOLe.refl _) rfl rfl ?_; rintro _ _ ⟨rfl, rfl⟩; refine ⟨_, rfl, _, rfl, ?_⟩) | (refine o_callP rfl rfl rfl rfl ((k4 _)) ⟨sle_ptr, True.intro⟩ (HOLe.refl _) rfl rfl ?_; rintro _ _ ⟨rfl, rfl⟩; refine ⟨_, rfl, _, rfl, ?_⟩) | (refine o_callP rfl rfl rfl rfl ((k5 _)) ⟨sle_ptr, True.intro⟩ (HOLe.refl _) rfl rfl ?_; rintro _ _ ⟨rfl, rfl⟩; refine ⟨_, rfl, _, rfl, ?_⟩) | (refine o_callP rfl rfl rfl rfl ((k6 _)) ⟨sle_ptr, True.intro⟩ (HOLe.refl _) rfl rfl ?_; rintro _ _ ⟨rfl, rfl⟩; refine ⟨_, rfl, _, rfl, ?_⟩))
        exact ⟨(i + 1, p ++ [x], q4.2, _), [], ⟨hlt, by show (p ++ [x]).length = i + 1; rw [List.length_append, List.length_singleton, hpl], o5, hst⟩, by show n - (i + 1) < n - i; omega, rfl, ⟨sle_i hi1, sle_i rfl, sle_ptr, sle_ptr, sle_ptr, True.intro⟩, HLe.cons 15 rfl (HOLe.refl _) (HLe.cons 5 rfl (HOLe.refl _) (HLe.cons 99 rfl (HOLe.row (by rw [List.map_append]; show _ = _ ++ [x.A]; rw [hA]; rfl)) (HLe.cons 2 rfl (HOLe.refl _) .nil)))⟩
    · rw [if_neg hg] at hst
      subst hst
      have hg : goodI x = false := by
        cases q : goodI x with
        | true => exact absurd q hg
        | false => rfl
      rw [hg] at k7
      rcases hd with rfl | rfl
      all_goals
        repeat' (first | refine Awp.seq ?_ | refine Awp.block ?_ | refine Awp.region ?_ | refine Ops.nil (nqA ?_) | refine Awp.skip (nqA ?_) | refine Awp.ret (nqE ?_) | refine o_offT rfl rfl rfl (by first | exact .inl rfl | exact .inr rfl) ?_ | (refine o_calm rfl TtOk rfl rfl rfl ?_ (fun _ => ?_); exact nd) | refine o_alloc (d := 11) rfl TtOk rfl rfl rfl (fun b11 => ?_) | refine o_store TtOk rfl rfl rfl rfl rfl rfl rfl ⟨rfl, rfl⟩ rfl rfl rfl rfl rfl ?_ | refine o_build TtOk rfl rfl rfl rfl rfl rfl nq1 ?_ | refine a_condT rfl ?_ | refine a_condF rfl ?_ | (refine a_condP rfl (fun hc => ?_) (fun hc => ?_)) <;> (try (exfalso; omega)) | refine o_callE rfl (k7) ⟨nqS, True.intro⟩ rfl ?_ | (refine o_callP rfl rfl rfl rfl ((k2 _)) ⟨sle_ptr, True.intro⟩ (HOLe.refl _) rfl rfl ?_; rintro _ _ ⟨rfl, rfl⟩; refine ⟨_, rfl, _, rfl, ?_⟩) | (refine o_callP rfl rfl rfl rfl ((k3 _)) ⟨sle_ptr, True.intro⟩ (HOLe.refl _) rfl rfl ?_; rintro _ _ ⟨rfl, rfl⟩; refine ⟨_, rfl, _, rfl, ?_⟩) | (refine o_callP rfl rfl rfl rfl ((k4 _)) ⟨sle_ptr, True.intro⟩ (HOLe.refl _) rfl rfl ?_; rintro _ _ ⟨rfl, rfl⟩; refine ⟨_, rfl, _, rfl, ?_⟩) | (refine o_callP rfl rfl rfl rfl ((k5 _)) ⟨sle_ptr, True.intro⟩ (HOLe.refl _) rfl rfl ?_; rintro _ _ ⟨rfl, rfl⟩; refine ⟨_, rfl, _, rfl, ?_⟩) | (refine o_callP rfl rfl rfl rfl ((k6 _)) ⟨sle_ptr, True.intro⟩ (HOLe.refl _) rfl rfl ?_; rintro _ _ ⟨rfl, rfl⟩; refine ⟨_, rfl, _, rfl, ?_⟩))
        all_goals
          refine end_all [] [] (.tup [prf0.A, .i .i64 1]) rfl ?_ ?_ (rle_tup2 (CLe.agg (.cons (CLe.refl _) (.cons (CLe.refl _) (.cons (CLe.refl _) (.cons CLe.nilsl .nil))))) (CLe.of_eq rfl) rfl rfl) .nil ⟨rfl, rfl⟩ _ (.inl rfl)
          · exact nq1
          · exact ⟨trivial, trivial, trivial⟩
  · have hie : i = n := by omega
    rw [hie, Nat.sub_self, rdL] at hst
    have k6 := fun b => rdone_spec b r
    by_cases hd : r.done ≠ 0
    · rw [if_pos hd] at hst
      subst hst
      generalize r.done = d at *
      repeat' (first | refine Awp.seq ?_ | refine Awp.region ?_ | refine Ops.nil (nqA ?_) | refine Awp.exit (nqA ?_) | refine Awp.ret (nqE ?_) | (refine o_calm rfl TtOk rfl rfl rfl ?_ (fun _ => ?_); exact nd) | refine o_store TtOk rfl rfl rfl rfl rfl rfl rfl ⟨rfl, rfl⟩ rfl rfl rfl rfl rfl ?_ | refine o_build TtOk rfl rfl rfl rfl rfl rfl nq1 ?_ | (refine a_condP rfl (fun hc => ?_) (fun hc => ?_)) <;> (try (exfalso; omega)) | (refine a_condN rfl (fun hc => ?_) (fun hc => ?_)) <;> (try (exfalso; omega)) | (refine o_callP rfl rfl rfl rfl ((k6 _)) ⟨sle_ptr, True.intro⟩ (HOLe.refl _) rfl rfl ?_; rintro _ _ ⟨rfl, rfl⟩; refine ⟨_, rfl, _, rfl, ?_⟩))
      all_goals
        refine end_all [] [] (.tup [prf0.A, .i .i64 d]) rfl ?_ ?_ (rle_tup2 (CLe.agg (.cons (CLe.refl _) (.cons (CLe.refl _) (.cons (CLe.refl _) (.cons CLe.nilsl .nil))))) (CLe.of_eq rfl) rfl rfl) .nil ⟨rfl, rfl⟩ _ (.inl rfl)
        · exact nq1
        · exact ⟨trivial, trivial, trivial⟩
    · rw [if_neg hd] at hst
      have hd := Decidable.not_not.1 hd
      subst hst
      rw [hd] at k6
      repeat' (first | refine Awp.seq ?_ | refine Awp.region ?_ | refine Ops.nil (nqA ?_) | refine Awp.skip (nqA ?_) | refine Awp.exit (nqA ?_) | refine Awp.ret (nqE ?_) | (refine o_calm rfl TtOk rfl rfl rfl ?_ (fun _ => ?_); exact nd) | refine o_store TtOk rfl rfl rfl rfl rfl rfl rfl ⟨rfl, rfl⟩ rfl rfl rfl rfl rfl ?_ | refine a_condF rfl ?_ | (refine a_condP rfl (fun hc => ?_) (fun hc => ?_)) <;> (try (exfalso; omega)) | (refine o_callP rfl rfl rfl rfl ((k6 _)) ⟨sle_ptr, True.intro⟩ (HOLe.refl _) rfl rfl ?_; rintro _ _ ⟨rfl, rfl⟩; refine ⟨_, rfl, _, rfl, ?_⟩))
      refine end_all [99] [] (.tup [(⟨e2, lf, a, b, p⟩ : Prf).A, .i .i64 0]) rfl ?_ ?_ (rle_tup2 (CLe.agg (.cons (CLe.of_eq rfl) (.cons (CLe.of_eq rfl) (.cons (CLe.of_eq rfl) (.cons (CLe.fz (.head _)) .nil))))) (CLe.of_eq rfl) rfl rfl) .nil ⟨rfl, rfl⟩ _ (.inl rfl)
      · exact nq1
      · exact ⟨trivial, trivial, trivial⟩
end Go.Proofs.YtcmgpkibjdbonaaGreat
