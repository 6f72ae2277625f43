/- ref18.Check, Way, Extract by rules. -/
import Derived.Test.YtcmgpkibjdbonaaGreatPM2Z
import Derived.Test.YtcmgpkibjdbonaaGreatPF5
import Derived.Test.YtcmgpkibjdbonaaGreatPF6
set_option maxHeartbeats 16000000
set_option maxRecDepth 100000
namespace Go.Proofs.YtcmgpkibjdbonaaGreat
open Go Go.RowKit
theorem rprchk18_spec (top lb : List UInt8) (p : Prf) (hp : p.ok) (hpl : p.path.length ≤ 100000) (ht : top.length = 32) (hlb : lb.length = 32) : Spec Tryz.prog 18 [labA top, labA lb, p.R] [] (fun v os => v = .tup [(chkL_ p top lb).A, .b (chkO p top lb), .i .i64 (chkE p top lb)] ∧ os = []) := by
  have hn := rnodes18_spec p hp hpl lb hlb
  have hsm := rsum_spec [18] (by decide)
  obtain ⟨e, lf, a, b, path⟩ := p
  have hF : ∀ (N : List Nod) (x : Int), ndsF ⟨e, lf, a, b, path⟩ lb = (N, x) → chkE ⟨e, lf, a, b, path⟩ top lb = if x ≠ 0 then x else if nsum N = top then 0 else 11 := fun N x h => by unfold chkE; rw [h]
  have hlfA : lf.A = .agg [labA lf.l, labA lf.v, .i .i64 lf.t] := rfl
  obtain ⟨N, x, hN⟩ : ∃ N x, ndsF ⟨e, lf, a, b, path⟩ lb = (N, x) := ⟨_, _, rfl⟩
  have hE := hF N x hN
  rw [hN] at hn
  have hpR : Prf.R ⟨e, lf, a, b, path⟩ = .agg [.i .i64 e, lf.A, a.R, b.R, .sl 66 (path.map Itm.R)] := rfl
  rw [hpR] at hn ⊢
  unfold chkL_ chkO
  rw [hE]
  rw [hlfA] at hn ⊢
  dsimp only at hn ⊢
  clear hF hE hN hpR
  refine spec_of TtOk [] Tryz.func18 rfl Tryz.ntmps18 (by kernel_rfl) rfl rfl (fun C => ?_) rfl
  by_cases hx : x ≠ 0
  · rw [if_pos hx, if_neg hx, if_neg hx]
    repeat' (first | refine Awp.seq ?_ | refine Awp.region ?_ | refine Ops.nil (nqA ?_) | refine Awp.ret (nqE ?_) | (refine o_calm rfl TtOk rfl rfl rfl ?_ (fun _ => ?_); exact nd) | refine o_alloc (d := 6) rfl TtOk rfl rfl rfl (fun b6 => ?_) | refine o_box (d := 3) rfl rfl rfl rfl (fun b3 => ?_) | refine o_box (d := 4) rfl rfl rfl rfl (fun b4 => ?_) | refine o_box (d := 5) rfl rfl rfl rfl (fun b5 => ?_) | refine o_store TtOk rfl rfl rfl rfl rfl rfl rfl ⟨rfl, rfl⟩ rfl rfl rfl rfl rfl ?_ | refine o_build TtOk rfl rfl rfl rfl rfl rfl nq1 ?_ | (refine a_condN rfl (fun hc => ?_) (fun hc => ?_)) <;> (try (exfalso; omega)) | refine o_callE rfl (hn) ⟨nqS, nqS, True.intro⟩ rfl ?_)
    all_goals
      refine end_all [] [] (.tup [lef0.A, .b false, .i .i64 x]) rfl ?_ ?_ (rle_tup3c (CLe.of_eq rfl) (CLe.of_eq rfl) (CLe.of_eq rfl) rfl rfl rfl) .nil ⟨rfl, rfl⟩ _ (.inl rfl)
      · exact nq1
      · exact ⟨trivial, trivial, trivial, trivial⟩
  rw [if_neg hx]
  have hx := Decidable.not_not.1 hx
  subst hx
  refine Awp.seq ?_
  repeat' (first | refine Awp.region ?_ | refine Ops.nil (nqA ?_) | (refine o_calm rfl TtOk rfl rfl rfl ?_ (fun _ => ?_); exact nd) | refine o_alloc (d := 6) rfl TtOk rfl rfl rfl (fun b6 => ?_) | refine o_box (d := 3) rfl rfl rfl rfl (fun b3 => ?_) | refine o_box (d := 4) rfl rfl rfl rfl (fun b4 => ?_) | refine o_box (d := 5) rfl rfl rfl rfl (fun b5 => ?_))
  refine Awp.seq ?_
  repeat' (first | refine Awp.region ?_ | refine Ops.nil (nqA ?_) | (refine o_calm rfl TtOk rfl rfl rfl ?_ (fun _ => ?_); exact nd) | refine o_callE rfl (hn) ⟨nqS, nqS, True.intro⟩ rfl ?_)
  refine Awp.seq ?_
  refine Awp.seq ?_
  repeat' (first | refine Awp.region ?_ | refine Ops.nil (nqA ?_) | (refine o_calm rfl TtOk rfl rfl rfl ?_ (fun _ => ?_); exact nd))
  refine a_condF rfl ?_
  refine Awp.skip ?_
  show Awp _ _ _ _ _
  refine Awp.seq ?_
  repeat' (first | refine Awp.region ?_ | refine Ops.nil (nqA ?_) | refine o_alloc (d := 12) rfl TtOk rfl rfl rfl (fun b12 => ?_) | refine o_store TtOk rfl rfl rfl rfl rfl rfl rfl ⟨rfl, rfl⟩ rfl rfl rfl rfl rfl ?_ | refine o_callE rfl (hsm) ⟨nqS, True.intro⟩ rfl ?_)
  refine Awp.seqI (X := Unit) (fun _ => ⟨52, [(3, .ptr 3 b3 [] 0), (4, .ptr 4 b4 [] 0), (5, .ptr 5 b5 [] 0), (6, .ptr 6 b6 [] 0), (12, .ptr 12 b12 [] 0)], [(3, .var b3 (labA top)), (4, .var b4 (labA lb)), (5, .var b5 (.agg [.i .i64 e, .agg [labA lf.l, labA lf.v, .i .i64 lf.t], a.R, b.R, .sl 66 (path.map Itm.R)])), (6, .var b6 lef0.A), (12, .var b12 (labA (nsum N)))]⟩) (fun _ => True) ?_ (fun _ _ => ?_)
  · by_cases hN0 : N = []
    · subst hN0
      repeat' (first | refine Awp.seq ?_ | refine Awp.region ?_ | refine Ops.nil (nqA ?_) | refine Awp.skip (nqX ?_) | refine o_len rfl TtOk rfl rfl rfl (fun _ => ?_) | (refine o_calm rfl TtOk rfl rfl rfl ?_ (fun _ => ?_); exact nd) | refine a_condF rfl ?_)
      all_goals exact ⟨(), [], trivial, rfl, ⟨sle_ptr, sle_ptr, sle_ptr, sle_ptr, sle_ptr, True.intro⟩, HLe.cons 3 rfl (HOLe.refl _) (HLe.cons 4 rfl (HOLe.refl _) (HLe.cons 5 rfl (HOLe.refl _) (HLe.cons 6 rfl (HOLe.refl _) (HLe.cons 12 rfl (HOLe.refl _) .nil))))⟩
    · have hp0 : 0 < N.length := List.length_pos_iff.2 hN0
      have hjl : N.length - 1 < N.length := by omega
      have hns : nsum N = N[N.length - 1].itm.s := by unfold nsum; rw [List.getLast?_eq_getElem?, List.getElem?_eq_getElem hjl]
      rw [hns]
      repeat' (first | refine Awp.seq ?_ | refine Awp.region ?_ | refine Ops.nil (nqA ?_) | refine Ops.nil (nqX ?_) | (refine o_sub rfl rfl rfl rfl ?_ ?_; omega) | refine o_len rfl TtOk rfl rfl rfl (fun _ => ?_) | (refine o_calm rfl TtOk rfl rfl rfl ?_ (fun _ => ?_); exact nd) | refine o_store TtOk rfl rfl rfl rfl rfl rfl rfl ⟨rfl, rfl⟩ rfl rfl rfl rfl rfl ?_ | (refine a_condP rfl (fun hc => ?_) (fun hc => ?_)) <;> (try (exfalso; omega)) | (refine o_index rfl TtOk rfl rfl rfl rfl rfl rfl ?_ (getq_as (N.length-1) ?_ hjl) ?_; omega; omega))
      all_goals exact ⟨(), [], trivial, rfl, ⟨sle_ptr, sle_ptr, sle_ptr, sle_ptr, sle_ptr, True.intro⟩, HLe.cons 3 rfl (HOLe.refl _) (HLe.cons 4 rfl (HOLe.refl _) (HLe.cons 5 rfl (HOLe.refl _) (HLe.cons 6 rfl (HOLe.refl _) (HLe.cons 12 rfl (HOLe.refl _) .nil))))⟩
  generalize nsum N = s at *
  by_cases hs : s = top
  · subst hs
    rw [if_pos rfl]
    have hq : (!(s == s)) = false := by rw [beq_self_eq_true]; rfl
    by_cases he : e = 1
    · subst he
      by_cases hl : lf.l = lb
      · have hb : (lf.l == lb) = true := beq_iff_eq.2 hl
        have hB : chkB ⟨1, lf, a, b, path⟩ lb = true := by unfold chkB; rw [show ((⟨1, lf, a, b, path⟩ : Prf).lf.l == lb) = true from hb]; rfl
        rw [hB]
        repeat' (first | (rw [hb]) | refine Awp.seq ?_ | refine Awp.region ?_ | refine Ops.nil (nqA ?_) | refine Awp.skip (nqA ?_) | refine Awp.ret (nqE ?_) | (refine o_calm rfl TtOk rfl rfl rfl ?_ (fun _ => ?_); exact nd) | refine o_store TtOk rfl rfl rfl rfl rfl rfl rfl ⟨rfl, rfl⟩ rfl rfl rfl rfl rfl ?_ | refine o_eqArr8 TtOk rfl rfl rfl rfl rfl rfl (by kernel_rfl) ?_ | refine a_condT rfl ?_ | refine a_condF rfl ?_ | (refine o_neArr8 TtOk rfl rfl rfl rfl rfl rfl (by kernel_rfl) ?_; rw [hq]))
        all_goals
          refine end_all [] [] (.tup [.agg [labA lf.l, labA lf.v, .i .i64 lf.t], .b true, .i .i64 0]) rfl ?_ ?_ (rle_tup3c (CLe.of_eq rfl) (CLe.of_eq rfl) (CLe.of_eq rfl) rfl rfl rfl) .nil ⟨rfl, rfl⟩ _ (.inl rfl)
          · exact nq1
          · exact ⟨trivial, trivial, trivial, trivial⟩
      · have hb : (lf.l == lb) = false := beq_eq_false_iff_ne.2 hl
        have hB : chkB ⟨1, lf, a, b, path⟩ lb = false := by unfold chkB; rw [show ((⟨1, lf, a, b, path⟩ : Prf).lf.l == lb) = false from hb]; rfl
        rw [hB]
        repeat' (first | (rw [hb]) | refine Awp.seq ?_ | refine Awp.region ?_ | refine Ops.nil (nqA ?_) | refine Awp.skip (nqA ?_) | refine Awp.ret (nqE ?_) | (refine o_calm rfl TtOk rfl rfl rfl ?_ (fun _ => ?_); exact nd) | refine o_store TtOk rfl rfl rfl rfl rfl rfl rfl ⟨rfl, rfl⟩ rfl rfl rfl rfl rfl ?_ | refine o_build TtOk rfl rfl rfl rfl rfl rfl nq1 ?_ | refine o_eqArr8 TtOk rfl rfl rfl rfl rfl rfl (by kernel_rfl) ?_ | refine a_condF rfl ?_ | (refine o_neArr8 TtOk rfl rfl rfl rfl rfl rfl (by kernel_rfl) ?_; rw [hq]))
        all_goals
          refine end_all [] [] (.tup [lef0.A, .b false, .i .i64 0]) rfl ?_ ?_ (rle_tup3c (CLe.of_eq rfl) (CLe.of_eq rfl) (CLe.of_eq rfl) rfl rfl rfl) .nil ⟨rfl, rfl⟩ _ (.inl rfl)
          · exact nq1
          · exact ⟨trivial, trivial, trivial, trivial⟩
    · have hB : chkB ⟨e, lf, a, b, path⟩ lb = false := by unfold chkB; rw [show ((⟨e, lf, a, b, path⟩ : Prf).e == 1) = false from beq_eq_false_iff_ne.2 he]; rfl
      rw [hB]
      repeat' (first | refine Awp.seq ?_ | refine Awp.region ?_ | refine Ops.nil (nqA ?_) | refine Awp.skip (nqA ?_) | refine Awp.ret (nqE ?_) | refine o_noT rfl rfl rfl ?_ | (refine o_calm rfl TtOk rfl rfl rfl ?_ (fun _ => ?_); exact nd) | refine o_store TtOk rfl rfl rfl rfl rfl rfl rfl ⟨rfl, rfl⟩ rfl rfl rfl rfl rfl ?_ | refine o_build TtOk rfl rfl rfl rfl rfl rfl nq1 ?_ | (fail_if_success (refine o_isLit rfl (by first | exact .inl rfl | exact .inr rfl) ?_)); (refine o_splitP rfl rfl (fun hc => ?_) (fun hc => ?_) <;> try (exfalso; omega)) | refine a_condF rfl ?_ | (refine o_neArr8 TtOk rfl rfl rfl rfl rfl rfl (by kernel_rfl) ?_; rw [hq]))
      all_goals
        refine end_all [] [] (.tup [lef0.A, .b false, .i .i64 0]) rfl ?_ ?_ (rle_tup3c (CLe.of_eq rfl) (CLe.of_eq rfl) (CLe.of_eq rfl) rfl rfl rfl) .nil ⟨rfl, rfl⟩ _ (.inl rfl)
        · exact nq1
        · exact ⟨trivial, trivial, trivial, trivial⟩
  · rw [if_neg hs]
    have hq : (!(s == top)) = true := by rw [beq_eq_false_iff_ne.2 hs]; rfl
    repeat' (first | refine Awp.seq ?_ | refine Awp.region ?_ | refine Ops.nil (nqA ?_) | refine Awp.ret (nqE ?_) | (refine o_calm rfl TtOk rfl rfl rfl ?_ (fun _ => ?_); exact nd) | refine o_store TtOk rfl rfl rfl rfl rfl rfl rfl ⟨rfl, rfl⟩ rfl rfl rfl rfl rfl ?_ | refine o_build TtOk rfl rfl rfl rfl rfl rfl nq1 ?_ | refine a_condT rfl ?_ | (refine o_neArr8 TtOk rfl rfl rfl rfl rfl rfl (by kernel_rfl) ?_; rw [hq]))
    all_goals
      refine end_all [] [] (.tup [lef0.A, .b false, .i .i64 11]) rfl ?_ ?_ (rle_tup3c (CLe.of_eq rfl) (CLe.of_eq rfl) (CLe.of_eq rfl) rfl rfl rfl) .nil ⟨rfl, rfl⟩ _ (.inl rfl)
      · exact nq1
      · exact ⟨trivial, trivial, trivial, trivial⟩
end Go.Proofs.YtcmgpkibjdbonaaGreat
set_option maxHeartbeats 16000000
set_option maxRecDepth 100000
namespace Go.Proofs.YtcmgpkibjdbonaaGreat
open Go Go.RowKit
theorem wayT_eq {L : List Lef} (lb : List UInt8) (h : Rsn (srtL L)) : wayT L lb = if wayN (L.length + 1) (srtL L) lb = [] then [[18]] else (wayN (L.length + 1) (srtL L) lb).map Nod.txt := by
  unfold wayT
  by_cases h0 : srtL L = []
  · have hw : wayN (L.length + 1) (srtL L) lb = [] := by rw [h0]; rfl
    rw [if_pos h0, if_pos hw]
  · obtain ⟨r, hr⟩ := way_head (L.length + 1) (srtL L) lb (by rw [srtL_len]; omega) h0
    rw [if_neg h0, if_neg (by rw [hr]; exact List.cons_ne_nil _ _)]
theorem upsF_len : ∀ (ys : List Itm) (x : Itm) (lb : List UInt8), (upsF x ys lb).1.length ≤ ys.length
  | [], _, _ => Nat.le_refl _
  | y :: r, x, lb => by
    unfold upsF
    split
    · exact Nat.zero_le _
    · exact Nat.succ_le_succ (upsF_len r _ lb)
theorem fin_len (n : Nod) (q : List Nod × Int) : (fin_ [n] q).1.length ≤ q.1.length + 1 := by
  unfold fin_
  split
  · exact Nat.zero_le _
  · show (n :: q.1).length ≤ _; exact Nat.le_refl _
theorem nds_len (p : Prf) (lb : List UInt8) : (ndsF p lb).1.length ≤ p.path.length + 1 := by
  unfold ndsF
  split
  · exact Nat.zero_le _
  split
  · split <;> exact Nat.zero_le _
  split
  · split
    · exact Nat.zero_le _
    · exact Nat.le_trans (fin_len _ _) (Nat.succ_le_succ (upsF_len _ _ _))
  split
  · split
    · exact Nat.zero_le _
    split
    · exact Nat.zero_le _
    · exact Nat.le_trans (fin_len _ _) (Nat.succ_le_succ (upsF_len _ _ _))
  · exact Nat.zero_le _
theorem exR_nil2 (s : List (List UInt8)) : exR s [] = ([], [], false) := by cases s <;> rfl
theorem nds_gd {p : Prf} {lb : List UInt8} (hp : p.ok) (h : (ndsF p lb).2 = 0) : ∀ n ∈ (ndsF p lb).1, n.gd := fun n hn => by
  rcases nds_chain hp h with ⟨_, q, _⟩ | ⟨_, q, _⟩
  · rw [q] at hn; cases hn
  · exact q.all n (List.mem_reverse.2 hn)
theorem toldT_len {p : Prf} {lb : List UInt8} (hp : p.ok) (h : (ndsF p lb).2 = 0) : ∀ t ∈ toldT p lb, t.length ≤ 1000 := fun t ht => by
  unfold toldT at ht
  split at ht
  · rw [List.mem_singleton.1 ht]; decide
  · obtain ⟨n, hn, rfl⟩ := List.mem_map.1 ht
    exact nod_txt_len (nds_gd hp h n (List.mem_reverse.1 hn))
theorem wayT_len {L : List Lef} (lb : List UInt8) (hok : ∀ x ∈ L, x.ok) (hl : L.length ≤ 200) (hc : mkE L = 0) : ∀ t ∈ wayT L lb, t.length ≤ 1000 := fun t ht => by
  obtain ⟨a1, _, _, _, a5, _⟩ := mk_taken lb hok hl hc
  unfold wayT at ht
  split at ht
  · rw [List.mem_singleton.1 ht]; decide
  · obtain ⟨n, hn, rfl⟩ := List.mem_map.1 ht
    refine nod_txt_len (nds_gd (p := mkP L lb) (lb := lb) a5 (by rw [a1]) n ?_)
    rw [a1]
    exact List.mem_reverse.2 hn
theorem rway18_spec (L : List Lef) (lb : List UInt8) (hl : L.length ≤ 200) (hok : ∀ x ∈ L, x.ok) (hlb : lb.length = 32) (hc : mkE L = 0) : Spec Tryz.prog 81 [.sl 65 (L.map Lef.A), labA lb] [] (fun v os => v = .sl 1 ((wayT L lb).map AV.s) ∧ os = []) := by
  obtain ⟨a1, _, _, _, a5, a6⟩ := mk_taken lb hok hl hc
  have h1 := rmake18_spec L lb (by omega) hok hlb hc
  have h2 := rnodes18_spec (mkP L lb) a5 (by omega) lb hlb
  have hWl := nds_len (mkP L lb) lb
  rw [a1] at h2 hWl
  have hWl : (wayN (L.length + 1) (srtL L) lb).length ≤ 300 := by rw [List.length_reverse] at hWl; omega
  have h2 : Spec Tryz.prog 23 [(mkP L lb).R, labA lb] [] (fun v os => v = .tup [.sl 1 ((wayN (L.length + 1) (srtL L) lb).reverse.map (fun n => AV.s n.txt)), .sl 66 ((wayN (L.length + 1) (srtL L) lb).reverse.map (fun n => n.itm.R)), .i .i64 0] ∧ os = []) := h2
  rw [wayT_eq lb (rsn_srt hok hc)]
  have hW : ((if wayN (L.length + 1) (srtL L) lb = [] then [[18]] else (wayN (L.length + 1) (srtL L) lb).map Nod.txt).map AV.s) = (if wayN (L.length + 1) (srtL L) lb = [] then [.s [18]] else (wayN (L.length + 1) (srtL L) lb).map (fun n => AV.s n.txt)) := by
    split
    · rfl
    · rw [List.map_map]; rfl
  rw [hW]
  clear hW a1 a5 a6
  generalize wayN (L.length + 1) (srtL L) lb = W at *
  generalize mkP L lb = p at *
  obtain ⟨e, lf, a, b, path⟩ := p
  have hpR : Prf.R ⟨e, lf, a, b, path⟩ = .agg [.i .i64 e, lf.A, a.R, b.R, .sl 66 (path.map Itm.R)] := rfl
  rw [hpR] at h1 h2
  refine spec_of TtOk [] Tryz.func81 rfl Tryz.ntmps81 (by kernel_rfl) rfl rfl (fun C => ?_) rfl
  repeat' (first | refine Awp.seq ?_ | refine Awp.block ?_ | refine Awp.region ?_ | refine Ops.nil (nqA ?_) | (refine o_sub rfl rfl rfl rfl ?_ ?_; omega) | refine o_len rfl TtOk rfl rfl rfl (fun _ => ?_) | (refine o_calm rfl TtOk rfl rfl rfl ?_ (fun _ => ?_); exact nd) | refine o_box (d := 3) rfl rfl rfl rfl (fun b3 => ?_) | refine o_buildSlice (d := 19) TtOk rfl rfl rfl rfl rfl rfl rfl rfl rfl rfl rfl nq1 (fun v19 => ?_) | refine a_any 1 [] [] [] [0, 1, 3, 2, 4, 5, 6, 7, 8, 9, 10, 11] (by kernel_rfl) (by kernel_rfl) (by kernel_rfl) rfl rfl rfl ?_ | refine o_callE rfl (h1) ⟨nqS, nqS, True.intro⟩ rfl ?_ | refine o_callE rfl (h2) ⟨nqS, nqS, True.intro⟩ rfl ?_)
  refine Awp.loop (fun q : Nat × Value => ⟨39, [(9, .i .i64 ((W.length : Int) - 1 - (q.1 : Int))), (5, .sl 1 (W.reverse.map (fun n => AV.s n.txt))), (8, .own 19 q.2)], [(19, .row q.2 9 1 ((W.take q.1).map (fun n => AV.s n.txt)))]⟩) (fun q => q.1 ≤ W.length) (fun q => W.length - q.1) [] (0, v19) (Nat.zero_le _) ?_ ?_
  · exact ⟨rfl, ⟨sle_i (by simp), sle_sl rfl, sle_own, True.intro⟩, HLe.cons 19 rfl (HOLe.refl _) .nil⟩
  rintro ⟨j, v⟩ hj
  dsimp only at hj ⊢
  by_cases hlt : j < W.length
  · have hlr : W.length - 1 - j < W.reverse.length := by rw [List.length_reverse]; omega
    have hrv : W.reverse[W.length - 1 - j] = W[j] := by rw [List.getElem_reverse]; congr 1; omega
    have htk : (W.take (j + 1)).map (fun n => AV.s n.txt) = (W.take j).map (fun n => AV.s n.txt) ++ [AV.s W[j].txt] := by rw [List.take_succ_eq_append_getElem hlt, List.map_append]; rfl
    repeat' (first | refine Awp.seq ?_ | refine Awp.block ?_ | refine Awp.region ?_ | refine Ops.nil (nqA ?_) | refine Ops.nil (nqX ?_) | refine Awp.skip (nqA ?_) | (refine o_sub rfl rfl rfl rfl ?_ ?_; omega) | (refine o_calm rfl TtOk rfl rfl rfl ?_ (fun _ => ?_); exact nd) | refine o_buildSlice TtOk rfl rfl rfl rfl rfl rfl rfl rfl rfl rfl rfl nq1 (fun _ => ?_) | (refine o_append TtOk rfl rfl rfl rfl rfl rfl rfl rfl rfl (by first | exact True.intro | exact rfl) rfl rfl (fun _ => rfl) ?_ ?_ (fun _ => ?_); ((repeat' (first | rw [List.length_append] | rw [List.length_map] | rw [List.length_cons] | rw [List.length_nil] | rw [List.length_take] | rw [List.length_drop])) <;> omega); ((repeat' (first | rw [List.length_append] | rw [List.length_map] | rw [List.length_cons] | rw [List.length_nil] | rw [List.length_take] | rw [List.length_drop])) <;> omega)) | (refine a_condP rfl (fun hc => ?_) (fun hc => ?_)) <;> (try (exfalso; omega)) | (refine o_index rfl TtOk rfl rfl rfl rfl rfl rfl ?_ (getq_as (W.length-1-j) ?_ hlr) ?_; omega; omega))
    all_goals exact ⟨(j + 1, _), [], hlt, by show W.length - (j + 1) < W.length - j; omega, rfl, ⟨sle_i (by show ((W.length : Int) - 1 - (j : Int)) - 1 = (W.length : Int) - 1 - ((j + 1 : Nat) : Int); omega), sle_sl rfl, sle_own, True.intro⟩, HLe.cons 19 rfl (HOLe.row (by dsimp only; rw [htk, ← hrv])) .nil⟩
  · have hje : j = W.length := by omega
    subst hje
    rw [List.take_length]
    by_cases hW : W = []
    · subst hW
      rw [if_pos rfl]
      repeat' (first | refine Awp.seq ?_ | refine Awp.region ?_ | refine Ops.nil (nqA ?_) | refine Awp.exit (nqA ?_) | refine Awp.ret (nqE ?_) | refine o_lenOwn rfl TtOk rfl rfl rfl rfl (fun _ => ?_) | (refine o_calm rfl TtOk rfl rfl rfl ?_ (fun _ => ?_); exact nd) | refine o_buildSlice TtOk rfl rfl rfl rfl rfl rfl rfl rfl rfl rfl rfl nq1 (fun _ => ?_) | refine a_condT rfl ?_ | refine a_condF rfl ?_)
      all_goals
        refine end_all [37] [] (.sl 1 [.s [18]]) rfl ?_ ?_ (rle_one (CLe.fz (.head _)) rfl) .nil ⟨rfl, rfl⟩ _ (.inl rfl)
        · exact nq1
        · exact ⟨trivial, trivial⟩
    · rw [if_neg hW]
      have hp0 : 0 < W.length := List.length_pos_iff.2 hW
      have hp1 : 0 < (W.map (fun n => AV.s n.txt)).length := by rw [List.length_map]; exact hp0
      repeat' (first | refine Awp.seq ?_ | refine Awp.region ?_ | refine Ops.nil (nqA ?_) | refine Awp.skip (nqA ?_) | refine Awp.exit (nqA ?_) | refine Awp.ret (nqE ?_) | refine o_lenOwn rfl TtOk rfl rfl rfl rfl (fun _ => ?_) | (refine o_calm rfl TtOk rfl rfl rfl ?_ (fun _ => ?_); exact nd) | (refine a_condP rfl (fun hc => ?_) (fun hc => ?_)) <;> (try (exfalso; omega)))
      all_goals
        refine end_all [19] [] (.sl 1 (W.map (fun n => AV.s n.txt))) rfl ?_ ?_ (rle_one (CLe.fz (.head _)) rfl) .nil ⟨rfl, rfl⟩ _ (.inl rfl)
        · exact nq1
        · exact ⟨trivial, trivial⟩
theorem rextract18_spec (L : List Lef) (lb : List UInt8) (p : Prf) (hl : L.length ≤ 200) (hok : ∀ x ∈ L, x.ok) (hlb : lb.length = 32) (hp : p.ok) (hpl : p.path.length ≤ 100000) : Spec Tryz.prog 21 [.sl 65 (L.map Lef.A), labA lb, p.R] [] (fun v os => v = .tup [.s (exP L p lb).1, .s (exP L p lb).2.1, .b (exP L p lb).2.2] ∧ os = []) := by
  have hn := rnodes18_spec p hp hpl lb hlb
  have h2 := rof_spec L (by omega) hok
  have hio : ∀ x ∈ itmsL L, x.ok := fun x hx => by
    obtain ⟨y, hy, rfl⟩ := List.mem_map.1 (srtI_mem.1 hx)
    exact leafI_ok y (hok y hy)
  have hil : (itmsL L).length = L.length := by unfold itmsL; rw [srtI_len, List.length_map]
  have h3 := rcheckI_spec (itmsL L) (by omega) hio
  rw [show chkI (itmsL L) = mkE L from rfl] at h3
  have hw := fun h => rway18_spec L lb hl hok hlb h
  have hwl := fun h => wayT_len lb hok hl h
  have htl := fun h => toldT_len (lb := lb) hp h
  have hEx := fun h1 h2 => ex_law hok hp (lb := lb) h1 h2
  obtain ⟨E, hE⟩ : ∃ E, exP L p lb = E := ⟨_, rfl⟩
  rw [hE]
  unfold exP at hE
  have hT : ∀ N, (ndsF p lb).1 = N → toldT p lb = if N = [] then [[18]] else N.reverse.map Nod.txt := fun N h => by unfold toldT; rw [h]
  obtain ⟨N, x, hN⟩ : ∃ N x, ndsF p lb = (N, x) := ⟨_, _, rfl⟩
  have hT := hT N (by rw [hN])
  have hNl := nds_len p lb
  rw [hN] at hn hE hEx htl hNl
  have hNl : N.length ≤ 100001 := Nat.le_trans hNl (Nat.succ_le_succ hpl)
  have hn : Spec Tryz.prog 23 [p.R, labA lb] [] (fun v os => v = .tup [.sl 1 (N.map (fun n => AV.s n.txt)), .sl 66 (N.map (fun n => n.itm.R)), .i .i64 x] ∧ os = []) := hn
  have hpR : p.R = .agg [.i .i64 p.e, p.lf.A, p.a.R, p.b.R, .sl 66 (p.path.map Itm.R)] := rfl
  rw [hpR] at hn ⊢
  dsimp only at hn hE hEx htl
  clear hio hil hN
  generalize mkE L = c at *
  generalize itmsL L = I at *
  refine spec_of TtOk [] Tryz.func21 rfl Tryz.ntmps21 (by kernel_rfl) rfl rfl (fun C => ?_) rfl
  by_cases hx : x ≠ 0
  · rw [if_pos (.inl hx)] at hE
    subst hE
    repeat' (first | refine Awp.seq ?_ | refine Awp.region ?_ | refine Ops.nil (nqA ?_) | refine Awp.ret (nqE ?_) | refine o_noF rfl rfl rfl ?_ | (refine o_calm rfl TtOk rfl rfl rfl ?_ (fun _ => ?_); exact nd) | refine o_box (d := 4) rfl rfl rfl rfl (fun b4 => ?_) | refine o_box (d := 5) rfl rfl rfl rfl (fun b5 => ?_) | (fail_if_success (refine o_isLit rfl (by first | exact .inl rfl | exact .inr rfl) ?_)); (refine o_splitN rfl rfl (fun hc => ?_) (fun hc => ?_) <;> try (exfalso; omega)) | refine a_condT rfl ?_ | refine o_callE rfl (hn) ⟨nqS, nqS, True.intro⟩ rfl ?_)
    all_goals
      refine end_all [] [] (.tup [.s [], .s [], .b false]) rfl ?_ ?_ (rle_tup3c (CLe.of_eq rfl) (CLe.of_eq rfl) (CLe.of_eq rfl) rfl rfl rfl) .nil ⟨rfl, rfl⟩ _ (.inl rfl)
      · exact nq1
      · exact ⟨trivial, trivial, trivial, trivial⟩
  have hx := Decidable.not_not.1 hx
  subst hx
  by_cases hc0 : c ≠ 0
  · rw [if_pos (.inr hc0)] at hE
    subst hE
    repeat' (first | refine Awp.seq ?_ | refine Awp.region ?_ | refine Ops.nil (nqA ?_) | refine Awp.ret (nqE ?_) | (refine o_calm rfl TtOk rfl rfl rfl ?_ (fun _ => ?_); exact nd) | refine o_box (d := 4) rfl rfl rfl rfl (fun b4 => ?_) | refine o_box (d := 5) rfl rfl rfl rfl (fun b5 => ?_) | (refine a_condN rfl (fun hc => ?_) (fun hc => ?_)) <;> (try (exfalso; omega)) | refine o_callE rfl (hn) ⟨nqS, nqS, True.intro⟩ rfl ?_ | refine o_callE rfl (h2) ⟨nqS, True.intro⟩ rfl ?_ | refine o_callE rfl (h3) ⟨nqS, True.intro⟩ rfl ?_)
    all_goals
      refine end_all [] [] (.tup [.s [], .s [], .b false]) rfl ?_ ?_ (rle_tup3c (CLe.of_eq rfl) (CLe.of_eq rfl) (CLe.of_eq rfl) rfl rfl rfl) .nil ⟨rfl, rfl⟩ _ (.inl rfl)
      · exact nq1
      · exact ⟨trivial, trivial, trivial, trivial⟩
  have hc0 := Decidable.not_not.1 hc0
  subst hc0
  rw [if_neg (by decide), hEx rfl rfl] at hE
  have hw := hw rfl
  have hwl := hwl rfl
  have htl := htl rfl
  clear hEx
  generalize wayT L lb = W at *
  generalize toldT p lb = T at *
  repeat' (first | refine Awp.seq ?_ | refine Awp.block ?_ | refine Awp.region ?_ | refine Ops.nil (nqA ?_) | refine Awp.skip (nqA ?_) | (refine o_sub rfl rfl rfl rfl ?_ ?_; omega) | refine o_len rfl TtOk rfl rfl rfl (fun _ => ?_) | (refine o_calm rfl TtOk rfl rfl rfl ?_ (fun _ => ?_); exact nd) | refine o_box (d := 4) rfl rfl rfl rfl (fun b4 => ?_) | refine o_box (d := 5) rfl rfl rfl rfl (fun b5 => ?_) | refine o_buildSlice (d := 31) TtOk rfl rfl rfl rfl rfl rfl rfl rfl rfl rfl rfl nq1 (fun v31 => ?_) | refine a_condF rfl ?_ | refine o_callE rfl (hn) ⟨nqS, nqS, True.intro⟩ rfl ?_ | refine o_callE rfl (h2) ⟨nqS, True.intro⟩ rfl ?_ | refine o_callE rfl (h3) ⟨nqS, True.intro⟩ rfl ?_)
  refine Awp.loop (fun q : Nat × Value => ⟨95, [(13, .i .i64 ((N.length : Int) - 1 - (q.1 : Int))), (9, .sl 1 (N.map (fun n => AV.s n.txt))), (12, .own 31 q.2), (0, .sl 65 (L.map Lef.A)), (4, .ptr 4 b4 [] 0)], [(31, .row q.2 9 1 ((N.reverse.take q.1).map (fun n => AV.s n.txt))), (4, .var b4 (labA lb))]⟩) (fun q => q.1 ≤ N.length) (fun q => N.length - q.1) [] (0, v31) (Nat.zero_le _) ?_ ?_
  · exact ⟨rfl, ⟨sle_i (by simp), sle_sl rfl, sle_own, sle_sl rfl, sle_ptr, True.intro⟩, HLe.cons 31 rfl (HOLe.refl _) (HLe.cons 4 rfl (HOLe.refl _) .nil)⟩
  rintro ⟨j, v⟩ hj
  dsimp only at hj ⊢
  have hNr : N.reverse.length = N.length := List.length_reverse
  by_cases hlt : j < N.length
  · have hlr : N.length - 1 - j < N.length := by omega
    have hjr : j < N.reverse.length := by omega
    have hrv : N.reverse[j] = N[N.length - 1 - j] := List.getElem_reverse ..
    have htk : (N.reverse.take (j + 1)).map (fun n => AV.s n.txt) = (N.reverse.take j).map (fun n => AV.s n.txt) ++ [AV.s N[N.length - 1 - j].txt] := by rw [List.take_succ_eq_append_getElem hjr, List.map_append, hrv]; rfl
    repeat' (first | refine Awp.seq ?_ | refine Awp.block ?_ | refine Awp.region ?_ | refine Ops.nil (nqA ?_) | refine Ops.nil (nqX ?_) | refine Awp.skip (nqA ?_) | (refine o_sub rfl rfl rfl rfl ?_ ?_; omega) | (refine o_calm rfl TtOk rfl rfl rfl ?_ (fun _ => ?_); exact nd) | refine o_buildSlice TtOk rfl rfl rfl rfl rfl rfl rfl rfl rfl rfl rfl nq1 (fun _ => ?_) | (refine o_append TtOk rfl rfl rfl rfl rfl rfl rfl rfl rfl (by first | exact True.intro | exact rfl) rfl rfl (fun _ => rfl) ?_ ?_ (fun _ => ?_); ((repeat' (first | rw [List.length_append] | rw [List.length_map] | rw [List.length_cons] | rw [List.length_nil] | rw [List.length_take] | rw [List.length_drop])) <;> omega); ((repeat' (first | rw [List.length_append] | rw [List.length_map] | rw [List.length_cons] | rw [List.length_nil] | rw [List.length_take] | rw [List.length_drop])) <;> omega)) | (refine a_condP rfl (fun hc => ?_) (fun hc => ?_)) <;> (try (exfalso; omega)) | (refine o_index rfl TtOk rfl rfl rfl rfl rfl rfl ?_ (getq_as (N.length-1-j) ?_ hlr) ?_; omega; omega))
    all_goals exact ⟨(j + 1, _), [], hlt, by show N.length - (j + 1) < N.length - j; omega, rfl, ⟨sle_i (by show ((N.length : Int) - 1 - (j : Int)) - 1 = (N.length : Int) - 1 - ((j + 1 : Nat) : Int); omega), sle_sl rfl, sle_own, sle_sl rfl, sle_ptr, True.intro⟩, HLe.cons 31 rfl (HOLe.row (by dsimp only; rw [htk])) (HLe.cons 4 rfl (HOLe.refl _) .nil)⟩
  have hje : j = N.reverse.length := by omega
  have hjn : ¬ ((N.length : Int) - 1 - (j : Int) ≥ 0) := by omega
  rw [hje, List.take_length, ← hje]
  refine Awp.seq ?_
  refine Awp.seq ?_
  repeat' (first | refine Awp.region ?_ | refine Ops.nil (nqA ?_) | (refine o_calm rfl TtOk rfl rfl rfl ?_ (fun _ => ?_); exact nd))
  refine a_condP rfl (fun h => absurd h (by omega)) (fun _ => ?_)
  refine Awp.exit ?_
  show Awp _ _ _ _ _
  refine Awp.seqI (X := Value) (fun q => ⟨95, [(12, .own 31 q), (0, .sl 65 (L.map Lef.A)), (4, .ptr 4 b4 [] 0)], [(31, .row q 9 1 (T.map AV.s)), (4, .var b4 (labA lb))]⟩) (fun _ => True) ?_ ?_
  · by_cases hN0 : N = []
    · subst hN0
      rw [if_pos rfl] at hT
      subst hT
      repeat' (first | refine Awp.seq ?_ | refine Awp.region ?_ | refine Ops.nil (nqA ?_) | refine Ops.nil (nqX ?_) | refine o_lenOwn rfl TtOk rfl rfl rfl rfl (fun _ => ?_) | (refine o_calm rfl TtOk rfl rfl rfl ?_ (fun _ => ?_); exact nd) | refine o_buildSlice TtOk rfl rfl rfl rfl rfl rfl rfl rfl rfl rfl rfl nq1 (fun _ => ?_) | (refine o_append TtOk rfl rfl rfl rfl rfl rfl rfl rfl rfl (by first | exact True.intro | exact rfl) rfl rfl (fun _ => rfl) ?_ ?_ (fun _ => ?_); ((repeat' (first | rw [List.length_append] | rw [List.length_map] | rw [List.length_cons] | rw [List.length_nil] | rw [List.length_take] | rw [List.length_drop])) <;> omega); ((repeat' (first | rw [List.length_append] | rw [List.length_map] | rw [List.length_cons] | rw [List.length_nil] | rw [List.length_take] | rw [List.length_drop])) <;> omega)) | refine a_condT rfl ?_)
      all_goals exact ⟨_, [], trivial, rfl, ⟨sle_own, sle_sl rfl, sle_ptr, True.intro⟩, HLe.cons 31 rfl (HOLe.refl _) (HLe.cons 4 rfl (HOLe.refl _) .nil)⟩
    · have hp0 : 0 < N.reverse.length := by rw [hNr]; exact List.length_pos_iff.2 hN0
      have hrw : N.reverse.map (fun n => AV.s n.txt) = T.map AV.s := by rw [hT, if_neg hN0, List.map_map]; rfl
      have hp1 : ¬ ((N.reverse.map (fun n => AV.s n.txt)).length : Int) = 0 := by rw [List.length_map]; omega
      repeat' (first | refine Awp.seq ?_ | refine Awp.region ?_ | refine Ops.nil (nqA ?_) | refine Awp.skip (nqX ?_) | refine o_lenOwn rfl TtOk rfl rfl rfl rfl (fun _ => ?_) | (refine o_calm rfl TtOk rfl rfl rfl ?_ (fun _ => ?_); exact nd) | (refine a_condP rfl (fun hc => ?_) (fun hc => ?_)) <;> (try (exfalso; omega)))
      all_goals exact ⟨_, [], trivial, rfl, ⟨sle_own, sle_sl rfl, sle_ptr, True.intro⟩, HLe.cons 31 rfl (HOLe.row hrw) (HLe.cons 4 rfl (HOLe.refl _) .nil)⟩
  clear hT hNr hjn hj hlt hje
  rintro vT _
  repeat' (first | refine Awp.seq ?_ | refine Awp.block ?_ | refine Awp.region ?_ | refine Ops.nil (nqA ?_) | (refine o_calm rfl TtOk rfl rfl rfl ?_ (fun _ => ?_); exact nd) | refine o_callE rfl (hw) ⟨nqS, nqS, True.intro⟩ rfl ?_)
  refine Awp.loop (fun i : Nat => ⟨95, [(15, .i .i64 i), (12, .sl 1 (T.map AV.s)), (14, .sl 1 (W.map AV.s))], []⟩) (fun i => exR (T.drop i) (W.drop i) = E) (fun i => T.length - i) [31] 0 hE ?_ ?_
  · exact ⟨rfl, ⟨sle_i rfl, SLe.of_cle (CLe.fz (.head _)) rfl, sle_sl rfl, True.intro⟩, .nil⟩
  clear hE
  intro i hst
  by_cases hT : i < T.length
  · by_cases hW : i < W.length
    · rw [List.drop_eq_getElem_cons hT, List.drop_eq_getElem_cons hW, exR_cons] at hst
      have s1 := rsum_spec T[i] (by have := htl _ (List.getElem_mem hT); omega)
      have s2 := rsum_spec W[i] (by have := hwl _ (List.getElem_mem hW); omega)
      have hi1 : ((i : Int) + 1 = ((i + 1 : Nat) : Int)) := by omega
      by_cases he : T[i] = W[i]
      · have hq : (!(T[i] == W[i])) = false := by rw [beq_iff_eq.2 he]; rfl
        rw [if_pos he] at hst
        repeat' (first | (rw [hq]) | refine Awp.seq ?_ | refine Awp.block ?_ | refine Awp.region ?_ | refine Ops.nil (nqA ?_) | refine Ops.nil (nqX ?_) | refine Awp.skip (nqA ?_) | (refine o_add rfl rfl rfl rfl ?_ ?_; omega) | refine o_len rfl TtOk rfl rfl rfl (fun _ => ?_) | (refine o_calm rfl TtOk rfl rfl rfl ?_ (fun _ => ?_); exact nd) | (refine o_index rfl TtOk rfl rfl rfl rfl rfl rfl ?_ (getq_nat ?_) ?_; omega; omega) | (fail_if_success (refine o_isLit rfl (by first | exact .inl rfl | exact .inr rfl) ?_)); (refine o_splitP rfl rfl (fun hc => ?_) (fun hc => ?_) <;> try (exfalso; omega)) | refine a_condF rfl ?_ | (refine a_condP rfl (fun hc => ?_) (fun hc => ?_)) <;> (try (exfalso; omega)) | refine a_any 15 [] [] [] [0, 1, 2, 4, 5, 6, 3, 7, 8] (by kernel_rfl) (by kernel_rfl) (by kernel_rfl) rfl rfl rfl ?_)
        all_goals exact ⟨i + 1, [], hst, by omega, rfl, ⟨sle_i hi1, sle_sl rfl, sle_sl rfl, True.intro⟩, .nil⟩
      · have hq : (!(T[i] == W[i])) = true := by rw [beq_eq_false_iff_ne.2 he]; rfl
        rw [if_neg he] at hst
        subst hst
        repeat' (first | (rw [hq]) | refine Awp.seq ?_ | refine Awp.block ?_ | refine Awp.region ?_ | refine Ops.nil (nqA ?_) | refine Awp.skip (nqA ?_) | refine Awp.ret (nqE ?_) | refine o_len rfl TtOk rfl rfl rfl (fun _ => ?_) | (refine o_calm rfl TtOk rfl rfl rfl ?_ (fun _ => ?_); exact nd) | (refine o_index rfl TtOk rfl rfl rfl rfl rfl rfl ?_ (getq_nat ?_) ?_; omega; omega) | refine o_eqArr8 TtOk rfl rfl rfl rfl rfl rfl (by kernel_rfl) ?_ | (fail_if_success (refine o_isLit rfl (by first | exact .inl rfl | exact .inr rfl) ?_)); (refine o_splitP rfl rfl (fun hc => ?_) (fun hc => ?_) <;> try (exfalso; omega)) | refine a_condT rfl ?_ | (refine a_condP rfl (fun hc => ?_) (fun hc => ?_)) <;> (try (exfalso; omega)) | refine a_any 15 [] [] [] [0, 1, 2, 4, 5, 6, 3, 7, 8] (by kernel_rfl) (by kernel_rfl) (by kernel_rfl) rfl rfl rfl ?_ | refine a_any 16 [] [] [] [0, 1, 2, 4, 5, 6, 8, 9, 10, 13, 14, 15, 3, 7, 11, 16, 12, 17, 18, 19, 20, 21] (by kernel_rfl) (by kernel_rfl) (by kernel_rfl) rfl rfl rfl ?_ | refine o_callE rfl (s1) ⟨nqS, True.intro⟩ rfl ?_ | refine o_callE rfl (s2) ⟨nqS, True.intro⟩ rfl ?_)
        all_goals
          refine end_all [] [] (.tup [.s T[i], .s W[i], .b (shaN T[i] == shaN W[i])]) rfl ?_ ?_ (rle_tup3c (CLe.of_eq rfl) (CLe.of_eq rfl) (CLe.of_eq rfl) rfl rfl rfl) .nil ⟨rfl, rfl⟩ _ (.inl rfl)
          · exact nq1
          · exact ⟨trivial, trivial, trivial, trivial⟩
    · rw [List.drop_eq_nil_of_le (by omega : W.length ≤ i), exR_nil2] at hst
      subst hst
      repeat' (first | refine Awp.seq ?_ | refine Awp.region ?_ | refine Ops.nil (nqA ?_) | refine Awp.exit (nqA ?_) | refine Awp.ret (nqE ?_) | refine o_len rfl TtOk rfl rfl rfl (fun _ => ?_) | (refine o_calm rfl TtOk rfl rfl rfl ?_ (fun _ => ?_); exact nd) | (fail_if_success (refine o_isLit rfl (by first | exact .inl rfl | exact .inr rfl) ?_)); (refine o_splitP rfl rfl (fun hc => ?_) (fun hc => ?_) <;> try (exfalso; omega)) | (refine a_condP rfl (fun hc => ?_) (fun hc => ?_)) <;> (try (exfalso; omega)))
      all_goals
        refine end_all [] [] (.tup [.s [], .s [], .b false]) rfl ?_ ?_ (rle_tup3c (CLe.of_eq rfl) (CLe.of_eq rfl) (CLe.of_eq rfl) rfl rfl rfl) .nil ⟨rfl, rfl⟩ _ (.inl rfl)
        · exact nq1
        · exact ⟨trivial, trivial, trivial, trivial⟩
  · rw [List.drop_eq_nil_of_le (by omega : T.length ≤ i), exR_nil] at hst
    subst hst
    repeat' (first | refine Awp.seq ?_ | refine Awp.region ?_ | refine Ops.nil (nqA ?_) | refine Awp.exit (nqA ?_) | refine Awp.ret (nqE ?_) | refine o_noT rfl rfl rfl ?_ | refine o_len rfl TtOk rfl rfl rfl (fun _ => ?_) | (refine o_calm rfl TtOk rfl rfl rfl ?_ (fun _ => ?_); exact nd) | (fail_if_success (refine o_isLit rfl (by first | exact .inl rfl | exact .inr rfl) ?_)); (refine o_splitP rfl rfl (fun hc => ?_) (fun hc => ?_) <;> try (exfalso; omega)) | refine a_condF rfl ?_)
    all_goals
      refine end_all [] [] (.tup [.s [], .s [], .b false]) rfl ?_ ?_ (rle_tup3c (CLe.of_eq rfl) (CLe.of_eq rfl) (CLe.of_eq rfl) rfl rfl rfl) .nil ⟨rfl, rfl⟩ _ (.inl rfl)
      · exact nq1
      · exact ⟨trivial, trivial, trivial, trivial⟩
end Go.Proofs.YtcmgpkibjdbonaaGreat
