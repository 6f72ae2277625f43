/- ref15.Read by rules. -/
import Derived.Test.YtcmgpkibjdbonaaGreatPP4Z
import Derived.Test.YtcmgpkibjdbonaaGreatPF8
import Derived.Test.YtcmgpkibjdbonaaGreatKF3
set_option maxHeartbeats 16000000
set_option maxRecDepth 100000
namespace Go.Proofs.YtcmgpkibjdbonaaGreat
open Go Go.RowKit
def Nod.L15 : Nod → Lef
  | .lf x => x
  | _ => lef0
def Nod.a15 : Nod → Itm
  | .inn a _ => a
  | _ => itm0
def Nod.b15 : Nod → Itm
  | .inn _ b => b
  | _ => itm0
def Nod.i15 : Nod → Bool
  | .inn _ _ => true
  | _ => false
theorem rle_tup5 {fr : Fr} {a b c d e a' b' c' d' e' : AV} (h1 : CLe fr a a') (h2 : CLe fr b b') (h3 : CLe fr c c') (h4 : CLe fr d d') (h5 : CLe fr e e') (ha : a.isVal = true) (hb : b.isVal = true) (hc : c.isVal = true) (hd : d.isVal = true) (he : e.isVal = true) : RLe fr (single [a, b, c, d, e]) (.tup [a', b', c', d', e']) :=
  RLe.tup (xs := [a, b, c, d, e]) (ys := [a', b', c', d', e']) rfl (fun i x y hx hy => by
    match i with
    | 0 => simp at hx hy; subst hx; subst hy; exact .inr ⟨ha, h1⟩
    | 1 => simp at hx hy; subst hx; subst hy; exact .inr ⟨hb, h2⟩
    | 2 => simp at hx hy; subst hx; subst hy; exact .inr ⟨hc, h3⟩
    | 3 => simp at hx hy; subst hx; subst hy; exact .inr ⟨hd, h4⟩
    | 4 => simp at hx hy; subst hx; subst hy; exact .inr ⟨he, h5⟩
    | k + 5 => simp at hx)
theorem rread15_spec (s : List UInt8) (hs : s.length ≤ 9223372036854775807) : Spec Tryz.prog 136 [.s s] [] (fun v os => v = .tup [(nodRd s).1.L15.A, (nodRd s).1.a15.R, (nodRd s).1.b15.R, .b (nodRd s).1.i15, .i .i64 (nodRd s).2] ∧ os = []) := by
  obtain ⟨V, hV⟩ : ∃ V, nodRd s = V := ⟨_, rfl⟩
  rw [hV]
  unfold nodRd nodR at hV
  have k0 := copen_spec s
  have o0 := RS.ok_open hs
  generalize RS.open s = r at *
  have k1 := cflag_spec r o0
  have o1 := RS.ok_flag o0
  generalize r.flag = f at *
  obtain ⟨fl, r1⟩ := f
  dsimp only at hV k1 o1
  refine spec_of TtOk [] Tryz.func136 rfl Tryz.ntmps136 (by kernel_rfl) rfl rfl (fun C => ?_) rfl
  cases fl
  case true =>
    rw [if_pos rfl] at hV
    have k2 := ritem15_spec r1 o1
    have o2 := RS.ok_itm o1
    have ox := itm_ok' r1
    generalize r1.itm = q at *
    obtain ⟨x, r2⟩ := q
    dsimp only at k2 o2 ox hV
    have k3 := ritem15_spec r2 o2
    have o3 := RS.ok_itm o2
    have oz := itm_ok' r2
    generalize r2.itm = q at *
    obtain ⟨z, r3⟩ := q
    dsimp only at k3 o3 oz hV
    have k4 := cdone_spec r3 o3
    have k5 := rchk15_spec x z ox oz
    generalize r3.done = d at *
    have hck : (Nod.inn x z).chk = chkN x z := rfl
    rw [hck] at hV
    generalize chkN x z = c at *
    by_cases hd : d ≠ 0
    · rw [if_pos hd] at hV
      subst hV
      repeat' (first | refine Awp.seq ?_ | refine Awp.region ?_ | refine Ops.nil (nqA ?_) | refine Awp.ret (nqE ?_) | (refine o_calm rfl TtOk rfl rfl rfl ?_ (fun _ => ?_); exact nd) | refine o_alloc (d := 2) rfl TtOk rfl rfl rfl (fun b2 => ?_) | refine o_alloc (d := 3) rfl TtOk rfl rfl rfl (fun b3 => ?_) | refine o_alloc (d := 4) rfl TtOk rfl rfl rfl (fun b4 => ?_) | refine o_alloc (d := 7) rfl TtOk rfl rfl rfl (fun b7 => ?_) | refine o_alloc (d := 9) rfl TtOk rfl rfl rfl (fun b9 => ?_) | refine o_alloc (d := 10) rfl TtOk rfl rfl rfl (fun b10 => ?_) | refine o_alloc (d := 11) rfl TtOk rfl rfl rfl (fun b11 => ?_) | refine o_store TtOk rfl rfl rfl rfl rfl rfl rfl ⟨rfl, rfl⟩ rfl rfl rfl rfl rfl ?_ | refine o_build TtOk rfl rfl rfl rfl rfl rfl nq1 ?_ | refine a_condT rfl ?_ | (refine a_condN rfl (fun hc => ?_) (fun hc => ?_)) <;> (try (exfalso; omega)) | refine o_callE rfl (k0) ⟨nqS, True.intro⟩ rfl ?_ | refine o_callE rfl (k1) ⟨nqS, True.intro⟩ rfl ?_ | refine o_callE rfl (k2) ⟨nqS, True.intro⟩ rfl ?_ | refine o_callE rfl (k3) ⟨nqS, True.intro⟩ rfl ?_ | refine o_callE rfl (k4) ⟨nqS, True.intro⟩ rfl ?_)
      all_goals
        refine end_all [] [] (.tup [lef0.A, itm0.R, itm0.R, .b false, .i .i64 d]) rfl ?_ ?_ (rle_tup5 (CLe.of_eq rfl) (CLe.of_eq rfl) (CLe.of_eq rfl) (CLe.of_eq rfl) (CLe.of_eq rfl) rfl rfl rfl rfl rfl) .nil ⟨rfl, rfl⟩ _ (.inl rfl)
        · exact nq1
        · exact ⟨trivial, trivial, trivial, trivial, trivial, trivial⟩
    rw [if_neg hd] at hV
    have hd := Decidable.not_not.1 hd
    subst hd
    by_cases hc0 : c ≠ 0
    · rw [if_pos hc0] at hV
      subst hV
      repeat' (first | refine Awp.seq ?_ | refine Awp.region ?_ | refine Ops.nil (nqA ?_) | refine Awp.skip (nqA ?_) | refine Awp.ret (nqE ?_) | (refine o_calm rfl TtOk rfl rfl rfl ?_ (fun _ => ?_); exact nd) | refine o_alloc (d := 2) rfl TtOk rfl rfl rfl (fun b2 => ?_) | refine o_alloc (d := 3) rfl TtOk rfl rfl rfl (fun b3 => ?_) | refine o_alloc (d := 4) rfl TtOk rfl rfl rfl (fun b4 => ?_) | refine o_alloc (d := 7) rfl TtOk rfl rfl rfl (fun b7 => ?_) | refine o_alloc (d := 9) rfl TtOk rfl rfl rfl (fun b9 => ?_) | refine o_alloc (d := 10) rfl TtOk rfl rfl rfl (fun b10 => ?_) | refine o_alloc (d := 11) rfl TtOk rfl rfl rfl (fun b11 => ?_) | refine o_store TtOk rfl rfl rfl rfl rfl rfl rfl ⟨rfl, rfl⟩ rfl rfl rfl rfl rfl ?_ | refine o_build TtOk rfl rfl rfl rfl rfl rfl nq1 ?_ | refine a_condT rfl ?_ | refine a_condF rfl ?_ | (refine a_condN rfl (fun hc => ?_) (fun hc => ?_)) <;> (try (exfalso; omega)) | refine o_callE rfl (k0) ⟨nqS, True.intro⟩ rfl ?_ | refine o_callE rfl (k1) ⟨nqS, True.intro⟩ rfl ?_ | refine o_callE rfl (k2) ⟨nqS, True.intro⟩ rfl ?_ | refine o_callE rfl (k3) ⟨nqS, True.intro⟩ rfl ?_ | refine o_callE rfl (k4) ⟨nqS, True.intro⟩ rfl ?_ | refine o_callE rfl (k5) ⟨nqS, nqS, True.intro⟩ rfl ?_)
      all_goals
        refine end_all [] [] (.tup [lef0.A, itm0.R, itm0.R, .b false, .i .i64 c]) rfl ?_ ?_ (rle_tup5 (CLe.of_eq rfl) (CLe.of_eq rfl) (CLe.of_eq rfl) (CLe.of_eq rfl) (CLe.of_eq rfl) rfl rfl rfl rfl rfl) .nil ⟨rfl, rfl⟩ _ (.inl rfl)
        · exact nq1
        · exact ⟨trivial, trivial, trivial, trivial, trivial, trivial⟩
    · rw [if_neg hc0] at hV
      have hc0 := Decidable.not_not.1 hc0
      subst hc0
      subst hV
      repeat' (first | refine Awp.seq ?_ | refine Awp.region ?_ | refine Ops.nil (nqA ?_) | refine Awp.skip (nqA ?_) | refine Awp.ret (nqE ?_) | (refine o_calm rfl TtOk rfl rfl rfl ?_ (fun _ => ?_); exact nd) | refine o_alloc (d := 2) rfl TtOk rfl rfl rfl (fun b2 => ?_) | refine o_alloc (d := 3) rfl TtOk rfl rfl rfl (fun b3 => ?_) | refine o_alloc (d := 4) rfl TtOk rfl rfl rfl (fun b4 => ?_) | refine o_alloc (d := 7) rfl TtOk rfl rfl rfl (fun b7 => ?_) | refine o_alloc (d := 9) rfl TtOk rfl rfl rfl (fun b9 => ?_) | refine o_alloc (d := 10) rfl TtOk rfl rfl rfl (fun b10 => ?_) | refine o_alloc (d := 11) rfl TtOk rfl rfl rfl (fun b11 => ?_) | refine o_store TtOk rfl rfl rfl rfl rfl rfl rfl ⟨rfl, rfl⟩ rfl rfl rfl rfl rfl ?_ | refine o_build TtOk rfl rfl rfl rfl rfl rfl nq1 ?_ | refine a_condT rfl ?_ | refine a_condF rfl ?_ | refine a_any 17 [2, 3, 4] [60] [] [3, 0, 1, 2, 4, 5, 6, 7, 8] (by kernel_rfl) (by kernel_rfl) (by kernel_rfl) rfl rfl rfl ?_ | refine o_callE rfl (k0) ⟨nqS, True.intro⟩ rfl ?_ | refine o_callE rfl (k1) ⟨nqS, True.intro⟩ rfl ?_ | refine o_callE rfl (k2) ⟨nqS, True.intro⟩ rfl ?_ | refine o_callE rfl (k3) ⟨nqS, True.intro⟩ rfl ?_ | refine o_callE rfl (k4) ⟨nqS, True.intro⟩ rfl ?_ | refine o_callE rfl (k5) ⟨nqS, nqS, True.intro⟩ rfl ?_)
      all_goals
        refine end_all [] [] (.tup [lef0.A, x.R, z.R, .b true, .i .i64 0]) rfl ?_ ?_ (rle_tup5 (CLe.of_eq rfl) (CLe.of_eq rfl) (CLe.of_eq rfl) (CLe.of_eq rfl) (CLe.of_eq rfl) rfl rfl rfl rfl rfl) .nil ⟨rfl, rfl⟩ _ (.inl rfl)
        · exact nq1
        · exact ⟨trivial, trivial, trivial, trivial, trivial, trivial⟩
  case false =>
    replace hV : (if r1.lef.2.done ≠ 0 then (Nod.no, r1.lef.2.done) else if (Nod.lf r1.lef.1).chk ≠ 0 then (Nod.no, (Nod.lf r1.lef.1).chk) else (Nod.lf r1.lef.1, 0)) = V := hV
    have k2 := rleaf15_spec r1 o1
    have o2 := RS.ok_lef o1
    have t0 : 0 ≤ r1.lef.1.t := Int.natCast_nonneg _
    generalize r1.lef = q at *
    obtain ⟨x, r2⟩ := q
    dsimp only at k2 o2 t0 hV
    have k4 := cdone_spec r2 o2
    generalize r2.done = d at *
    obtain ⟨xl, xv, xt⟩ := x
    dsimp only at t0
    have hxA : Lef.A ⟨xl, xv, xt⟩ = .agg [labA xl, labA xv, .i .i64 xt] := rfl
    rw [hxA] at k2
    by_cases hd : d ≠ 0
    · rw [if_pos hd] at hV
      subst hV
      repeat' (first | refine Awp.seq ?_ | refine Awp.region ?_ | refine Ops.nil (nqA ?_) | refine Awp.ret (nqE ?_) | (refine o_calm rfl TtOk rfl rfl rfl ?_ (fun _ => ?_); exact nd) | refine o_alloc (d := 2) rfl TtOk rfl rfl rfl (fun b2 => ?_) | refine o_alloc (d := 3) rfl TtOk rfl rfl rfl (fun b3 => ?_) | refine o_alloc (d := 4) rfl TtOk rfl rfl rfl (fun b4 => ?_) | refine o_alloc (d := 7) rfl TtOk rfl rfl rfl (fun b7 => ?_) | refine o_alloc (d := 9) rfl TtOk rfl rfl rfl (fun b9 => ?_) | refine o_alloc (d := 10) rfl TtOk rfl rfl rfl (fun b10 => ?_) | refine o_alloc (d := 11) rfl TtOk rfl rfl rfl (fun b11 => ?_) | refine o_store TtOk rfl rfl rfl rfl rfl rfl rfl ⟨rfl, rfl⟩ rfl rfl rfl rfl rfl ?_ | refine o_build TtOk rfl rfl rfl rfl rfl rfl nq1 ?_ | refine a_condF rfl ?_ | (refine a_condN rfl (fun hc => ?_) (fun hc => ?_)) <;> (try (exfalso; omega)) | refine o_callE rfl (k0) ⟨nqS, True.intro⟩ rfl ?_ | refine o_callE rfl (k1) ⟨nqS, True.intro⟩ rfl ?_ | refine o_callE rfl (k2) ⟨nqS, True.intro⟩ rfl ?_ | refine o_callE rfl (k4) ⟨nqS, True.intro⟩ rfl ?_)
      all_goals
        refine end_all [] [] (.tup [lef0.A, itm0.R, itm0.R, .b false, .i .i64 d]) rfl ?_ ?_ (rle_tup5 (CLe.of_eq rfl) (CLe.of_eq rfl) (CLe.of_eq rfl) (CLe.of_eq rfl) (CLe.of_eq rfl) rfl rfl rfl rfl rfl) .nil ⟨rfl, rfl⟩ _ (.inl rfl)
        · exact nq1
        · exact ⟨trivial, trivial, trivial, trivial, trivial, trivial⟩
    rw [if_neg hd] at hV
    have hd := Decidable.not_not.1 hd
    subst hd
    by_cases ht : 1073741824 < xt
    · have hck : (Nod.lf ⟨xl, xv, xt⟩).chk = 1 := if_pos (.inr ht)
      rw [hck, if_pos (by decide)] at hV
      subst hV
      repeat' (first | refine Awp.seq ?_ | refine Awp.region ?_ | refine Ops.nil (nqA ?_) | refine Awp.skip (nqA ?_) | refine Awp.ret (nqE ?_) | (refine o_calm rfl TtOk rfl rfl rfl ?_ (fun _ => ?_); exact nd) | refine o_alloc (d := 2) rfl TtOk rfl rfl rfl (fun b2 => ?_) | refine o_alloc (d := 3) rfl TtOk rfl rfl rfl (fun b3 => ?_) | refine o_alloc (d := 4) rfl TtOk rfl rfl rfl (fun b4 => ?_) | refine o_alloc (d := 7) rfl TtOk rfl rfl rfl (fun b7 => ?_) | refine o_alloc (d := 9) rfl TtOk rfl rfl rfl (fun b9 => ?_) | refine o_alloc (d := 10) rfl TtOk rfl rfl rfl (fun b10 => ?_) | refine o_alloc (d := 11) rfl TtOk rfl rfl rfl (fun b11 => ?_) | refine o_store TtOk rfl rfl rfl rfl rfl rfl rfl ⟨rfl, rfl⟩ rfl rfl rfl rfl rfl ?_ | refine o_build TtOk rfl rfl rfl rfl rfl rfl nq1 ?_ | refine a_condT rfl ?_ | refine a_condF rfl ?_ | (refine a_condP rfl (fun hc => ?_) (fun hc => ?_)) <;> (try (exfalso; omega)) | refine o_callE rfl (k0) ⟨nqS, True.intro⟩ rfl ?_ | refine o_callE rfl (k1) ⟨nqS, True.intro⟩ rfl ?_ | refine o_callE rfl (k2) ⟨nqS, True.intro⟩ rfl ?_ | refine o_callE rfl (k4) ⟨nqS, True.intro⟩ rfl ?_)
      all_goals
        refine end_all [] [] (.tup [lef0.A, itm0.R, itm0.R, .b false, .i .i64 1]) rfl ?_ ?_ (rle_tup5 (CLe.of_eq rfl) (CLe.of_eq rfl) (CLe.of_eq rfl) (CLe.of_eq rfl) (CLe.of_eq rfl) rfl rfl rfl rfl rfl) .nil ⟨rfl, rfl⟩ _ (.inl rfl)
        · exact nq1
        · exact ⟨trivial, trivial, trivial, trivial, trivial, trivial⟩
    · have hck : (Nod.lf ⟨xl, xv, xt⟩).chk = 0 := if_neg (by show ¬ (xt < 0 ∨ 1073741824 < xt); omega)
      rw [hck, if_neg (by decide)] at hV
      subst hV
      repeat' (first | refine Awp.seq ?_ | refine Awp.region ?_ | refine Ops.nil (nqA ?_) | refine Awp.skip (nqA ?_) | refine Awp.ret (nqE ?_) | (refine o_calm rfl TtOk rfl rfl rfl ?_ (fun _ => ?_); exact nd) | refine o_alloc (d := 2) rfl TtOk rfl rfl rfl (fun b2 => ?_) | refine o_alloc (d := 3) rfl TtOk rfl rfl rfl (fun b3 => ?_) | refine o_alloc (d := 4) rfl TtOk rfl rfl rfl (fun b4 => ?_) | refine o_alloc (d := 7) rfl TtOk rfl rfl rfl (fun b7 => ?_) | refine o_alloc (d := 9) rfl TtOk rfl rfl rfl (fun b9 => ?_) | refine o_alloc (d := 10) rfl TtOk rfl rfl rfl (fun b10 => ?_) | refine o_alloc (d := 11) rfl TtOk rfl rfl rfl (fun b11 => ?_) | refine o_store TtOk rfl rfl rfl rfl rfl rfl rfl ⟨rfl, rfl⟩ rfl rfl rfl rfl rfl ?_ | refine o_build TtOk rfl rfl rfl rfl rfl rfl nq1 ?_ | refine a_condF rfl ?_ | (refine a_condP rfl (fun hc => ?_) (fun hc => ?_)) <;> (try (exfalso; omega)) | refine a_any 17 [2, 3, 4] [60] [] [3, 0, 1, 2, 4, 5, 6, 7, 8] (by kernel_rfl) (by kernel_rfl) (by kernel_rfl) rfl rfl rfl ?_ | refine o_callE rfl (k0) ⟨nqS, True.intro⟩ rfl ?_ | refine o_callE rfl (k1) ⟨nqS, True.intro⟩ rfl ?_ | refine o_callE rfl (k2) ⟨nqS, True.intro⟩ rfl ?_ | refine o_callE rfl (k4) ⟨nqS, True.intro⟩ rfl ?_)
      all_goals
        refine end_all [] [] (.tup [.agg [labA xl, labA xv, .i .i64 xt], itm0.R, itm0.R, .b false, .i .i64 0]) rfl ?_ ?_ (rle_tup5 (CLe.of_eq rfl) (CLe.of_eq rfl) (CLe.of_eq rfl) (CLe.of_eq rfl) (CLe.of_eq rfl) rfl rfl rfl rfl rfl) .nil ⟨rfl, rfl⟩ _ (.inl rfl)
        · exact nq1
        · exact ⟨trivial, trivial, trivial, trivial, trivial, trivial⟩
end Go.Proofs.YtcmgpkibjdbonaaGreat
set_option maxHeartbeats 4000000
namespace Go.Proofs.YtcmgpkibjdbonaaGreat
open Go Go.RowKit
theorem e3_take {r : RS} (h : r.e ≠ 3) (n : Nat) : (r.take n).2.e ≠ 3 := by
  unfold RS.take; split
  · exact h
  · split
    · show (5 : Int) ≠ 3; decide
    · show (0 : Int) ≠ 3; decide
theorem e3_fail {r : RS} (h : r.e ≠ 3) (x : Int) (hx : x ≠ 3) : (r.fail x).e ≠ 3 := by
  unfold RS.fail; split
  · exact hx
  · exact h
theorem e3_number {r : RS} (h : r.e ≠ 3) : r.number.2.e ≠ 3 := by
  unfold RS.number; split
  · exact e3_take h _
  · split
    · exact e3_fail (e3_take h _) 4 (by decide)
    · split
      · exact e3_fail (e3_take (e3_take h _) _) 4 (by decide)
      · exact e3_take (e3_take h _) _
theorem e3_open (s : List UInt8) : (RS.open s).e ≠ 3 := by
  unfold RS.open; show (if _ then (2 : Int) else 0) ≠ 3; split <;> decide
theorem e3_label {r : RS} (h : r.e ≠ 3) : r.label.2.e ≠ 3 := e3_take h 32
theorem e3_itm {r : RS} (h : r.e ≠ 3) : r.itm.2.e ≠ 3 := e3_number (e3_label (e3_label (e3_number h)))
theorem e3_done {r : RS} (h : r.e ≠ 3) : (r.done ≠ 0 ∧ r.done ≠ 3) ↔ r.e ≠ 0 := by
  unfold RS.done
  split
  · rename_i h1; exact ⟨fun h2 => absurd rfl h2.2, fun h2 => absurd h1.1 h2⟩
  · exact ⟨fun h2 => h2.1, fun h2 => ⟨h2, h⟩⟩
theorem doneE {r : RS} (h : r.e ≠ 0) : r.done = r.e := by
  unfold RS.done; rw [if_neg (fun hh => h hh.1)]
theorem keep_take {r : RS} (h : r.e ≠ 0) (n : Nat) : r.take n = ([], r) := by
  unfold RS.take; rw [if_pos h]
theorem keep_number {r : RS} (h : r.e ≠ 0) : r.number = (0, r) := by
  unfold RS.number; rw [keep_take h, if_pos rfl]
theorem keep_below {r : RS} (h : r.e ≠ 0) (m : Nat) (hm : 0 < m) : r.below (m : Int) = (0, r) := by
  unfold RS.below
  rw [keep_number h, if_neg (by show ¬ (m : Int) ≤ ((0 : Nat) : Int); omega)]
theorem e0_take (q : RS) (n : Nat) (hq : (q.take n).1 ≠ []) : (q.take n).2.e = 0 := by
  unfold RS.take at hq ⊢
  split
  · rename_i h1; rw [if_pos h1] at hq; exact absurd rfl hq
  · rename_i h1
    rw [if_neg h1] at hq
    split
    · rename_i h2; rw [if_pos h2] at hq; exact absurd rfl hq
    · rfl
theorem e0_number {r : RS} (h : r.number.1 ≠ 0) : r.number.2.e = 0 := by
  unfold RS.number at h ⊢
  split
  · rename_i h1; rw [if_pos h1] at h; exact absurd rfl h
  · rename_i h1
    rw [if_neg h1] at h
    split
    · rename_i h2; rw [if_pos h2] at h; exact absurd rfl h
    · rename_i h2
      rw [if_neg h2] at h
      split
      · rename_i h3; rw [if_pos h3] at h; exact absurd rfl h
      · rename_i h3
        rw [if_neg h3] at h
        refine e0_take _ _ (fun h0 => ?_)
        rw [h0] at h
        exact h rfl
/-- What the document's reader has when the program's list, error and reader are a. -/
structure Rel19 {α : Type} (a : List α × Int × RS) (r : RS) (l : List α) : Prop where
  z : a.2.1 = 0 → r.e = a.2.2.e ∧ (r.e = 0 → r = a.2.2 ∧ l = a.1)
  e : a.2.1 ≠ 0 → r.e = a.2.1
end Go.Proofs.YtcmgpkibjdbonaaGreat
set_option maxHeartbeats 16000000
namespace Go.Proofs.YtcmgpkibjdbonaaGreat
open Go Go.RowKit

theorem ctext_spec (r : RS) (hok : r.ok) : Spec Tryz.prog 135 [rdA r] [] (fun v os => v = .tup [rdA r.text.2, .s r.text.1] ∧ os = []) := by
  refine spec_of TtOk [] Tryz.func135 rfl Tryz.ntmps135 (by kernel_rfl) rfl rfl (fun C => ?_) rfl
  repeat' (first | refine Awp.seq ?_ | refine Awp.region ?_ | refine Ops.nil (nqA ?_) | refine Ops.nil (nqX ?_) | refine Ops.nil (nqE ?_) | refine Awp.skip (nqA ?_) | refine Awp.skip (nqE ?_) | refine Awp.skip (nqX ?_) | refine Awp.ret (nqE ?_) | refine o_offT rfl rfl rfl (by first | exact .inl rfl | exact .inr rfl) ?_ | refine o_offU rfl rfl rfl (by first | exact .inl rfl | exact .inr rfl) ?_ | refine o_offF rfl rfl rfl (by first | exact .inl rfl | exact .inr rfl) ?_ | (refine o_calm rfl TtOk rfl rfl rfl ?_ (fun _ => ?_); exact nd) | refine o_alloc rfl TtOk rfl rfl rfl (fun bA => ?_) | refine o_box rfl rfl rfl rfl (fun _ => ?_) | refine o_store TtOk rfl rfl rfl rfl rfl rfl rfl ⟨rfl, rfl⟩ rfl rfl rfl rfl rfl ?_ | refine o_eqNil TtOk rfl rfl rfl rfl rfl ?_ | refine o_eqArr8 TtOk rfl rfl rfl rfl rfl rfl (by kernel_rfl) ?_ | (fail_if_success (refine o_isLit rfl (by first | exact .inl rfl | exact .inr rfl) ?_)); (refine o_splitP rfl rfl (fun hc => ?_) (fun hc => ?_) <;> try (exfalso; omega)) | (fail_if_success (refine o_isLit rfl (by first | exact .inl rfl | exact .inr rfl) ?_)); (refine o_splitI rfl rfl (fun hc => ?_) (fun hc => ?_) <;> try (exfalso; omega)) | (fail_if_success (refine o_isLit rfl (by first | exact .inl rfl | exact .inr rfl) ?_)); (refine o_splitN rfl rfl (fun hc => ?_) (fun hc => ?_) <;> try (exfalso; omega)) | (fail_if_success (refine o_isLit rfl (by first | exact .inl rfl | exact .inr rfl) ?_)); (refine o_split rfl rfl (fun hc => ?_) (fun hc => ?_)) | refine a_condT rfl ?_ | refine a_condF rfl ?_ | (refine a_condP rfl (fun hc => ?_) (fun hc => ?_)) <;> (try (exfalso; omega)) | (refine a_condI rfl (fun hc => ?_) (fun hc => ?_)) <;> (try (exfalso; omega)) | (refine a_condN rfl (fun hc => ?_) (fun hc => ?_)) <;> (try (exfalso; omega)) | (refine Awp.cond rfl (fun hc => ?_) (fun hc => ?_)))
  refine o_call0 rfl (cnumber_spec r hok) ⟨nqS, True.intro⟩ rfl ?_
  rintro v os' ⟨rfl, rfl⟩; refine ⟨rfl, ?_⟩
  have hok1 := RS.ok_number hok
  have ht : r.text = (r.number.2.big r.number.1).take r.number.1 := rfl
  generalize r.number = q at hok1 ht ⊢
  obtain ⟨n, r1⟩ := q
  dsimp only at hok1 ht ⊢
  repeat' (first | refine Awp.seq ?_ | refine Awp.region ?_ | refine Ops.nil (nqA ?_) | refine Ops.nil (nqX ?_) | refine Ops.nil (nqE ?_) | refine Awp.skip (nqA ?_) | refine Awp.skip (nqE ?_) | refine Awp.skip (nqX ?_) | refine Awp.ret (nqE ?_) | refine o_offT rfl rfl rfl (by first | exact .inl rfl | exact .inr rfl) ?_ | refine o_offU rfl rfl rfl (by first | exact .inl rfl | exact .inr rfl) ?_ | refine o_offF rfl rfl rfl (by first | exact .inl rfl | exact .inr rfl) ?_ | (refine o_calm rfl TtOk rfl rfl rfl ?_ (fun _ => ?_); exact nd) | refine o_alloc rfl TtOk rfl rfl rfl (fun bA => ?_) | refine o_box rfl rfl rfl rfl (fun _ => ?_) | refine o_store TtOk rfl rfl rfl rfl rfl rfl rfl ⟨rfl, rfl⟩ rfl rfl rfl rfl rfl ?_ | refine o_eqNil TtOk rfl rfl rfl rfl rfl ?_ | refine o_eqArr8 TtOk rfl rfl rfl rfl rfl rfl (by kernel_rfl) ?_ | (fail_if_success (refine o_isLit rfl (by first | exact .inl rfl | exact .inr rfl) ?_)); (refine o_splitP rfl rfl (fun hc => ?_) (fun hc => ?_) <;> try (exfalso; omega)) | (fail_if_success (refine o_isLit rfl (by first | exact .inl rfl | exact .inr rfl) ?_)); (refine o_splitI rfl rfl (fun hc => ?_) (fun hc => ?_) <;> try (exfalso; omega)) | (fail_if_success (refine o_isLit rfl (by first | exact .inl rfl | exact .inr rfl) ?_)); (refine o_splitN rfl rfl (fun hc => ?_) (fun hc => ?_) <;> try (exfalso; omega)) | (fail_if_success (refine o_isLit rfl (by first | exact .inl rfl | exact .inr rfl) ?_)); (refine o_split rfl rfl (fun hc => ?_) (fun hc => ?_)) | refine a_condT rfl ?_ | refine a_condF rfl ?_ | (refine a_condP rfl (fun hc => ?_) (fun hc => ?_)) <;> (try (exfalso; omega)) | (refine a_condI rfl (fun hc => ?_) (fun hc => ?_)) <;> (try (exfalso; omega)) | (refine a_condN rfl (fun hc => ?_) (fun hc => ?_)) <;> (try (exfalso; omega)) | (refine Awp.cond rfl (fun hc => ?_) (fun hc => ?_)))
  · refine o_call0 rfl (cfail_spec 2 r1) ⟨nqS, sle_i rfl, True.intro⟩ rfl ?_
    rintro v os' ⟨rfl, rfl⟩; refine ⟨rfl, ?_⟩
    have hb : r1.big n = r1.fail 2 := by unfold RS.big; rw [if_pos (by omega)]
    rw [hb] at ht
    have hok2 := RS.ok_fail hok1 2
    generalize r1.fail 2 = r2 at hok2 ht ⊢
    repeat' (first | refine Awp.seq ?_ | refine Awp.region ?_ | refine Ops.nil (nqA ?_) | refine Ops.nil (nqX ?_) | refine Ops.nil (nqE ?_) | refine Awp.skip (nqA ?_) | refine Awp.skip (nqE ?_) | refine Awp.skip (nqX ?_) | refine Awp.ret (nqE ?_) | refine o_offT rfl rfl rfl (by first | exact .inl rfl | exact .inr rfl) ?_ | refine o_offU rfl rfl rfl (by first | exact .inl rfl | exact .inr rfl) ?_ | refine o_offF rfl rfl rfl (by first | exact .inl rfl | exact .inr rfl) ?_ | (refine o_calm rfl TtOk rfl rfl rfl ?_ (fun _ => ?_); exact nd) | refine o_alloc rfl TtOk rfl rfl rfl (fun bA => ?_) | refine o_box rfl rfl rfl rfl (fun _ => ?_) | refine o_store TtOk rfl rfl rfl rfl rfl rfl rfl ⟨rfl, rfl⟩ rfl rfl rfl rfl rfl ?_ | refine o_eqNil TtOk rfl rfl rfl rfl rfl ?_ | refine o_eqArr8 TtOk rfl rfl rfl rfl rfl rfl (by kernel_rfl) ?_ | (fail_if_success (refine o_isLit rfl (by first | exact .inl rfl | exact .inr rfl) ?_)); (refine o_splitP rfl rfl (fun hc => ?_) (fun hc => ?_) <;> try (exfalso; omega)) | (fail_if_success (refine o_isLit rfl (by first | exact .inl rfl | exact .inr rfl) ?_)); (refine o_splitI rfl rfl (fun hc => ?_) (fun hc => ?_) <;> try (exfalso; omega)) | (fail_if_success (refine o_isLit rfl (by first | exact .inl rfl | exact .inr rfl) ?_)); (refine o_splitN rfl rfl (fun hc => ?_) (fun hc => ?_) <;> try (exfalso; omega)) | (fail_if_success (refine o_isLit rfl (by first | exact .inl rfl | exact .inr rfl) ?_)); (refine o_split rfl rfl (fun hc => ?_) (fun hc => ?_)) | refine a_condT rfl ?_ | refine a_condF rfl ?_ | (refine a_condP rfl (fun hc => ?_) (fun hc => ?_)) <;> (try (exfalso; omega)) | (refine a_condI rfl (fun hc => ?_) (fun hc => ?_)) <;> (try (exfalso; omega)) | (refine a_condN rfl (fun hc => ?_) (fun hc => ?_)) <;> (try (exfalso; omega)) | (refine Awp.cond rfl (fun hc => ?_) (fun hc => ?_)))
    refine o_call0 rfl (ctake_spec n r2 hok2) ⟨nqS, sle_i rfl, True.intro⟩ rfl ?_
    rintro v os' ⟨rfl, rfl⟩; refine ⟨rfl, ?_⟩
    repeat' (first | refine Awp.seq ?_ | refine Awp.region ?_ | refine Ops.nil (nqA ?_) | refine Ops.nil (nqX ?_) | refine Ops.nil (nqE ?_) | refine Awp.skip (nqA ?_) | refine Awp.skip (nqE ?_) | refine Awp.skip (nqX ?_) | refine Awp.ret (nqE ?_) | refine o_offT rfl rfl rfl (by first | exact .inl rfl | exact .inr rfl) ?_ | refine o_offU rfl rfl rfl (by first | exact .inl rfl | exact .inr rfl) ?_ | refine o_offF rfl rfl rfl (by first | exact .inl rfl | exact .inr rfl) ?_ | (refine o_calm rfl TtOk rfl rfl rfl ?_ (fun _ => ?_); exact nd) | refine o_alloc rfl TtOk rfl rfl rfl (fun bA => ?_) | refine o_box rfl rfl rfl rfl (fun _ => ?_) | refine o_store TtOk rfl rfl rfl rfl rfl rfl rfl ⟨rfl, rfl⟩ rfl rfl rfl rfl rfl ?_ | refine o_eqNil TtOk rfl rfl rfl rfl rfl ?_ | refine o_eqArr8 TtOk rfl rfl rfl rfl rfl rfl (by kernel_rfl) ?_ | (fail_if_success (refine o_isLit rfl (by first | exact .inl rfl | exact .inr rfl) ?_)); (refine o_splitP rfl rfl (fun hc => ?_) (fun hc => ?_) <;> try (exfalso; omega)) | (fail_if_success (refine o_isLit rfl (by first | exact .inl rfl | exact .inr rfl) ?_)); (refine o_splitI rfl rfl (fun hc => ?_) (fun hc => ?_) <;> try (exfalso; omega)) | (fail_if_success (refine o_isLit rfl (by first | exact .inl rfl | exact .inr rfl) ?_)); (refine o_splitN rfl rfl (fun hc => ?_) (fun hc => ?_) <;> try (exfalso; omega)) | (fail_if_success (refine o_isLit rfl (by first | exact .inl rfl | exact .inr rfl) ?_)); (refine o_split rfl rfl (fun hc => ?_) (fun hc => ?_)) | refine a_condT rfl ?_ | refine a_condF rfl ?_ | (refine a_condP rfl (fun hc => ?_) (fun hc => ?_)) <;> (try (exfalso; omega)) | (refine a_condI rfl (fun hc => ?_) (fun hc => ?_)) <;> (try (exfalso; omega)) | (refine a_condN rfl (fun hc => ?_) (fun hc => ?_)) <;> (try (exfalso; omega)) | (refine Awp.cond rfl (fun hc => ?_) (fun hc => ?_)))
    refine end_all [] [] (.tup [rdA r.text.2, .s r.text.1]) rfl ?_ ?_ (rle_tup2 (CLe.of_eq (by rw [ht]; rfl)) (CLe.of_eq (by rw [ht]; rfl)) rfl rfl) .nil ⟨rfl, rfl⟩ _ (.inl rfl)
    · exact nq1
    · exact ⟨trivial, trivial, trivial⟩
  all_goals
    have hb : r1.big n = r1 := by unfold RS.big; rw [if_neg (by omega)]
    rw [hb] at ht
    refine o_call0 rfl (ctake_spec n r1 hok1) ⟨nqS, sle_i rfl, True.intro⟩ rfl ?_
    rintro v os' ⟨rfl, rfl⟩; refine ⟨rfl, ?_⟩
    repeat' (first | refine Awp.seq ?_ | refine Awp.region ?_ | refine Ops.nil (nqA ?_) | refine Ops.nil (nqX ?_) | refine Ops.nil (nqE ?_) | refine Awp.skip (nqA ?_) | refine Awp.skip (nqE ?_) | refine Awp.skip (nqX ?_) | refine Awp.ret (nqE ?_) | refine o_offT rfl rfl rfl (by first | exact .inl rfl | exact .inr rfl) ?_ | refine o_offU rfl rfl rfl (by first | exact .inl rfl | exact .inr rfl) ?_ | refine o_offF rfl rfl rfl (by first | exact .inl rfl | exact .inr rfl) ?_ | (refine o_calm rfl TtOk rfl rfl rfl ?_ (fun _ => ?_); exact nd) | refine o_alloc rfl TtOk rfl rfl rfl (fun bA => ?_) | refine o_box rfl rfl rfl rfl (fun _ => ?_) | refine o_store TtOk rfl rfl rfl rfl rfl rfl rfl ⟨rfl, rfl⟩ rfl rfl rfl rfl rfl ?_ | refine o_eqNil TtOk rfl rfl rfl rfl rfl ?_ | refine o_eqArr8 TtOk rfl rfl rfl rfl rfl rfl (by kernel_rfl) ?_ | (fail_if_success (refine o_isLit rfl (by first | exact .inl rfl | exact .inr rfl) ?_)); (refine o_splitP rfl rfl (fun hc => ?_) (fun hc => ?_) <;> try (exfalso; omega)) | (fail_if_success (refine o_isLit rfl (by first | exact .inl rfl | exact .inr rfl) ?_)); (refine o_splitI rfl rfl (fun hc => ?_) (fun hc => ?_) <;> try (exfalso; omega)) | (fail_if_success (refine o_isLit rfl (by first | exact .inl rfl | exact .inr rfl) ?_)); (refine o_splitN rfl rfl (fun hc => ?_) (fun hc => ?_) <;> try (exfalso; omega)) | (fail_if_success (refine o_isLit rfl (by first | exact .inl rfl | exact .inr rfl) ?_)); (refine o_split rfl rfl (fun hc => ?_) (fun hc => ?_)) | refine a_condT rfl ?_ | refine a_condF rfl ?_ | (refine a_condP rfl (fun hc => ?_) (fun hc => ?_)) <;> (try (exfalso; omega)) | (refine a_condI rfl (fun hc => ?_) (fun hc => ?_)) <;> (try (exfalso; omega)) | (refine a_condN rfl (fun hc => ?_) (fun hc => ?_)) <;> (try (exfalso; omega)) | (refine Awp.cond rfl (fun hc => ?_) (fun hc => ?_)))
    refine end_all [] [] (.tup [rdA r.text.2, .s r.text.1]) rfl ?_ ?_ (rle_tup2 (CLe.of_eq (by rw [ht]; rfl)) (CLe.of_eq (by rw [ht]; rfl)) rfl rfl) .nil ⟨rfl, rfl⟩ _ (.inl rfl)
    · exact nq1
    · exact ⟨trivial, trivial, trivial⟩
end Go.Proofs.YtcmgpkibjdbonaaGreat
