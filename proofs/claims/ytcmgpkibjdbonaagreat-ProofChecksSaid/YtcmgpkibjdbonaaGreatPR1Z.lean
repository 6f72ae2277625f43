/- The document's sides, has, Make (chapter 18) by rules. -/
import Derived.Test.YtcmgpkibjdbonaaGreatV35Z
import Derived.Test.YtcmgpkibjdbonaaGreatPP1
import Derived.Test.YtcmgpkibjdbonaaGreatV31Z
import Derived.Test.YtcmgpkibjdbonaaGreatV33Z
import Derived.Test.YtcmgpkibjdbonaaGreatPF5
import Derived.Test.YtcmgpkibjdbonaaGreatR6
set_option maxHeartbeats 16000000
set_option maxRecDepth 100000
namespace Go.Proofs.YtcmgpkibjdbonaaGreat
open Go Go.RowKit
theorem rsides_spec (l : List Itm) (hl : l.length ≤ 100000) (hok : ∀ x ∈ l, x.ok) (n : Nat) (hf : n < 256) : Spec Tryz.prog 215 [.sl 66 (l.map Itm.R), .i .i64 n] [] (fun v os => v = .tup [.sl 66 ((l.filter (fun x => bitL x.l n == 0)).map Itm.R), .sl 66 ((l.filter (fun x => !(bitL x.l n == 0))).map Itm.R)] ∧ os = []) := by
  refine spec_of TtOk [] Tryz.func215 rfl Tryz.ntmps215 (by kernel_rfl) rfl rfl (fun C => ?_) rfl
  have hbt : ∀ (i : Nat) (h : i < l.length), Spec Tryz.prog 93 [labA l[i].l, .i .i64 n] [] (fun v os => v = .i .i64 (bitL l[i].l n : Nat) ∧ os = []) := fun i h => rbit_spec _ (hok _ (List.getElem_mem h)).1 _ hf
  have hfs := fun (p : Itm → Bool) (i : Nat) (h : i < l.length) => filt_succ p l h
  have hfl : ∀ (p : Itm → Bool) (i : Nat), ((l.take i).filter p).length ≤ l.length := fun p i => Nat.le_trans (List.length_filter_le ..) (by rw [List.length_take]; omega)
  repeat' (first | refine Awp.seq ?_ | refine Awp.block ?_ | refine Awp.region ?_ | refine Ops.nil (nqA ?_) | refine o_len rfl TtOk rfl rfl rfl (fun _ => ?_) | (refine o_calm rfl TtOk rfl rfl rfl ?_ (fun _ => ?_); exact nd) | refine o_buildSlice (d := 10) TtOk rfl rfl rfl rfl rfl rfl rfl rfl rfl rfl rfl nq1 (fun v10 => ?_) | refine o_buildSlice (d := 11) TtOk rfl rfl rfl rfl rfl rfl rfl rfl rfl rfl rfl nq1 (fun v11 => ?_))
  refine Awp.loop (fun q : Nat × Value × Value => ⟨34, [(14, .i .i64 q.1), (13, .i .i64 l.length), (12, .sl 66 (l.map Itm.R)), (6, .own 10 q.2.1), (7, .own 11 q.2.2), (1, .i .i64 n)], [(10, .row q.2.1 62 66 (((l.take q.1).filter (fun x => bitL x.l n == 0)).map Itm.R)), (11, .row q.2.2 62 66 (((l.take q.1).filter (fun x => !(bitL x.l n == 0))).map Itm.R))]⟩) (fun q => q.1 ≤ l.length) (fun q => l.length - q.1) [] (0, v10, v11) (Nat.zero_le _) ?_ ?_
  · exact ⟨rfl, ⟨sle_i rfl, sle_i rfl, sle_sl rfl, sle_own, sle_own, sle_i rfl, True.intro⟩, HLe.cons 10 rfl (HOLe.refl _) (HLe.cons 11 rfl (HOLe.refl _) .nil)⟩
  rintro ⟨i, u, v⟩ hi
  dsimp only at hi ⊢
  by_cases hlt : i < l.length
  · have hi1 : ((i : Int) + 1 = ((i + 1 : Nat) : Int)) := by omega
    have g1 := hfs (fun x => bitL x.l n == 0) i hlt
    have g2 := hfs (fun x => !(bitL x.l n == 0)) i hlt
    have g3 := hfl (fun x => bitL x.l n == 0) i
    have g4 := hfl (fun x => !(bitL x.l n == 0)) i
    have hb := hbt i hlt
    clear hfs hfl hbt
    generalize (l.take i).filter (fun x => bitL x.l n == 0) = A at g1 g3 ⊢
    generalize (l.take i).filter (fun x => !(bitL x.l n == 0)) = B at g2 g4 ⊢
    have hx01 := bitL_or l[i].l n
    generalize bitL l[i].l n = z at hb hx01 g1 g2
    rcases hx01 with rfl | rfl
    · rw [if_pos (by rfl)] at g1
      rw [if_neg (by decide)] at g2
      repeat' (first | refine Awp.seq ?_ | refine Awp.block ?_ | refine Awp.region ?_ | refine Ops.nil (nqA ?_) | refine Ops.nil (nqX ?_) | refine Awp.skip (nqA ?_) | (refine o_add rfl rfl rfl rfl ?_ ?_; omega) | (refine o_calm rfl TtOk rfl rfl rfl ?_ (fun _ => ?_); exact nd) | refine o_alloc (d := 9) rfl TtOk rfl rfl rfl (fun b9 => ?_) | refine o_store TtOk rfl rfl rfl rfl rfl rfl rfl ⟨rfl, rfl⟩ rfl rfl rfl rfl rfl ?_ | (refine o_index rfl TtOk rfl rfl rfl rfl rfl rfl ?_ (getq_nat ?_) ?_; omega; omega) | refine o_buildSlice TtOk rfl rfl rfl rfl rfl rfl rfl rfl rfl rfl rfl nq1 (fun _ => ?_) | (refine o_append TtOk rfl rfl rfl rfl rfl rfl rfl rfl rfl (by first | exact True.intro | exact rfl) rfl rfl (fun _ => rfl) ?_ ?_ (fun _ => ?_); ((repeat' (first | rw [List.length_append] | rw [List.length_map] | rw [List.length_cons] | rw [List.length_nil] | rw [List.length_take] | rw [List.length_drop])) <;> omega); ((repeat' (first | rw [List.length_append] | rw [List.length_map] | rw [List.length_cons] | rw [List.length_nil] | rw [List.length_take] | rw [List.length_drop])) <;> omega)) | refine a_condT rfl ?_ | (refine a_condP rfl (fun hc => ?_) (fun hc => ?_)) <;> (try (exfalso; omega)) | refine o_callE rfl (hb) ⟨nqS, nqS, True.intro⟩ rfl ?_)
      exact ⟨(i + 1, _, v), [], hlt, by show l.length - (i + 1) < l.length - i; omega, rfl, ⟨sle_i hi1, sle_i rfl, sle_sl rfl, sle_own, sle_own, sle_i rfl, True.intro⟩, HLe.cons 10 rfl (HOLe.row (by rw [g1, List.map_append]; rfl)) (HLe.cons 11 rfl (HOLe.row (by rw [g2])) .nil)⟩
    · rw [if_neg (by decide)] at g1
      rw [if_pos (by rfl)] at g2
      repeat' (first | refine Awp.seq ?_ | refine Awp.block ?_ | refine Awp.region ?_ | refine Ops.nil (nqA ?_) | refine Ops.nil (nqX ?_) | refine Awp.skip (nqA ?_) | (refine o_add rfl rfl rfl rfl ?_ ?_; omega) | (refine o_calm rfl TtOk rfl rfl rfl ?_ (fun _ => ?_); exact nd) | refine o_alloc (d := 9) rfl TtOk rfl rfl rfl (fun b9 => ?_) | refine o_store TtOk rfl rfl rfl rfl rfl rfl rfl ⟨rfl, rfl⟩ rfl rfl rfl rfl rfl ?_ | (refine o_index rfl TtOk rfl rfl rfl rfl rfl rfl ?_ (getq_nat ?_) ?_; omega; omega) | refine o_buildSlice TtOk rfl rfl rfl rfl rfl rfl rfl rfl rfl rfl rfl nq1 (fun _ => ?_) | (refine o_append TtOk rfl rfl rfl rfl rfl rfl rfl rfl rfl (by first | exact True.intro | exact rfl) rfl rfl (fun _ => rfl) ?_ ?_ (fun _ => ?_); ((repeat' (first | rw [List.length_append] | rw [List.length_map] | rw [List.length_cons] | rw [List.length_nil] | rw [List.length_take] | rw [List.length_drop])) <;> omega); ((repeat' (first | rw [List.length_append] | rw [List.length_map] | rw [List.length_cons] | rw [List.length_nil] | rw [List.length_take] | rw [List.length_drop])) <;> omega)) | refine a_condF rfl ?_ | (refine a_condP rfl (fun hc => ?_) (fun hc => ?_)) <;> (try (exfalso; omega)) | refine o_callE rfl (hb) ⟨nqS, nqS, True.intro⟩ rfl ?_)
      exact ⟨(i + 1, u, _), [], hlt, by show l.length - (i + 1) < l.length - i; omega, rfl, ⟨sle_i hi1, sle_i rfl, sle_sl rfl, sle_own, sle_own, sle_i rfl, True.intro⟩, HLe.cons 10 rfl (HOLe.row (by rw [g1])) (HLe.cons 11 rfl (HOLe.row (by rw [g2, List.map_append]; rfl)) .nil)⟩
  · have hie : i = l.length := by omega
    subst hie
    rw [List.take_length]
    generalize l.filter (fun x => bitL x.l n == 0) = A
    generalize l.filter (fun x => !(bitL x.l n == 0)) = B
    repeat' (first | refine Awp.seq ?_ | refine Awp.region ?_ | refine Ops.nil (nqA ?_) | refine Awp.exit (nqA ?_) | refine Awp.ret (nqE ?_) | (refine o_calm rfl TtOk rfl rfl rfl ?_ (fun _ => ?_); exact nd) | (refine a_condP rfl (fun hc => ?_) (fun hc => ?_)) <;> (try (exfalso; omega)))
    refine end_all [10, 11] [] (.tup [.sl 66 (A.map Itm.R), .sl 66 (B.map Itm.R)]) rfl ?_ ?_ (rle_tup2 (CLe.fz (.head _)) (CLe.fz (.tail _ (.head _))) rfl rfl) .nil ⟨rfl, rfl⟩ _ (.inl rfl)
    · exact nq1
    · exact ⟨trivial, trivial, trivial⟩
theorem rhas_spec (x : Itm) (hx : x.ok) (hg : goodP x.p = true) (lb : List UInt8) (hlb : lb.length = 32) : Spec Tryz.prog 91 [x.R, labA lb] [] (fun v os => v = .b (hasP x.p lb) ∧ os = []) := by
  have h1 := rcut_spec lb hlb x.n
  have h2 := cut_has hg hx.1 hlb
  rw [show x.p.n = x.n from rfl, show x.p.l = x.l from rfl] at h2
  rw [← h2]
  clear h2 hg
  generalize cutL lb (clamp x.n) = c at h1 ⊢
  obtain ⟨n, l, s, t⟩ := x
  show Spec Tryz.prog 91 [.agg [.i .i64 n, labA l, labA s, .i .i64 t], labA lb] [] _
  refine spec_of TtOk [] Tryz.func91 rfl Tryz.ntmps91 (by kernel_rfl) rfl rfl (fun C => ?_) rfl
  repeat' (first | refine Awp.seq ?_ | refine Awp.region ?_ | refine Ops.nil (nqA ?_) | refine Awp.ret (nqE ?_) | (refine o_calm rfl TtOk rfl rfl rfl ?_ (fun _ => ?_); exact nd) | refine o_box (d := 2) rfl rfl rfl rfl (fun b2 => ?_) | refine o_box (d := 3) rfl rfl rfl rfl (fun b3 => ?_) | refine o_eqArr8 TtOk rfl rfl rfl rfl rfl rfl (by kernel_rfl) ?_ | refine a_any 1 [] [] [] [1, 4, 0, 2, 5, 3, 6, 7] (by kernel_rfl) (by kernel_rfl) (by kernel_rfl) rfl rfl rfl ?_ | refine o_callE rfl (h1) ⟨nqS, nqS, True.intro⟩ rfl ?_)
  exact nq2
theorem filt_par {l : List Lef} (h : Rsn l) (h2 : 2 ≤ l.length) : (l.map leafI).filter (fun x => bitL x.l (frkI (l.map leafI)) == 0) = (l.take (splI (l.map leafI))).map leafI ∧ (l.map leafI).filter (fun x => !(bitL x.l (frkI (l.map leafI)) == 0)) = (l.drop (splI (l.map leafI))).map leafI := by
  obtain ⟨f1, f2⟩ := filt_lo h.rise h.okI (by rw [List.length_map]; exact h2)
  exact ⟨by rw [f1, List.map_take], by rw [f2, List.map_drop]⟩
theorem rjn_spec (l : List Lef) (h : Rsn l) (hn : l ≠ []) (hl : l.length ≤ 100000) : Spec Tryz.prog 64 [.sl 66 ((l.map leafI).map Itm.R)] [] (fun v os => v = (jnI l).R ∧ os = []) := by
  have := rjoin_spec l.length (l.map leafI) (fun he => hn (List.map_eq_nil_iff.1 he)) (by rw [List.length_map]; exact Nat.le_refl _) (by rw [List.length_map]; exact hl) h.rise h.okI
  exact this
theorem uniq_lab2 {L : List Lef} (hd : L.Pairwise (fun a b => a.l ≠ b.l)) {x y : Lef} (hx : x ∈ L) (hy : y ∈ L) (h : x.l = y.l) : x = y := by
  obtain ⟨i, hi, rfl⟩ := List.getElem_of_mem hx
  obtain ⟨j, hj, rfl⟩ := List.getElem_of_mem hy
  rcases Nat.lt_trichotomy i j with h1 | h1 | h1
  · exact absurd h (List.pairwise_iff_getElem.1 hd i j hi hj h1)
  · subst h1; rfl
  · exact absurd h.symm (List.pairwise_iff_getElem.1 hd j i hj hi h1)
theorem rmake18_spec (L : List Lef) (lb : List UInt8) (hl : L.length ≤ 40000) (hok : ∀ x ∈ L, x.ok) (hlb : lb.length = 32) (hc : mkE L = 0) : Spec Tryz.prog 172 [.sl 65 (L.map Lef.A), labA lb] [] (fun v os => v = (mkP L lb).R ∧ os = []) := by
  refine spec_of TtOk [] Tryz.func172 rfl Tryz.ntmps172 (by kernel_rfl) rfl rfl (fun C => ?_) rfl
  have h1 := rof_spec L (by omega) hok
  have hS := rsn_srt hok hc
  have hsl := srtL_len L
  have hd := itms_ne hc
  have hmem : ∀ y ∈ srtL L, y ∈ L := fun y hy => srtL_mem.1 hy
  rw [itms_map] at h1
  unfold mkP
  rw [hc, if_neg (by decide)]
  obtain ⟨W, hW⟩ : ∃ W, wayF (L.length + 1) (srtL L) lb [] = W := ⟨_, rfl⟩
  rw [hW]
  generalize srtL L = S at *
  repeat' (first | refine Awp.seq ?_ | refine Awp.block ?_ | refine Awp.region ?_ | refine Ops.nil (nqA ?_) | (refine o_calm rfl TtOk rfl rfl rfl ?_ (fun _ => ?_); exact nd) | refine o_alloc (d := 4) rfl TtOk rfl rfl rfl (fun b4 => ?_) | refine o_alloc (d := 6) rfl TtOk rfl rfl rfl (fun b6 => ?_) | refine o_box (d := 3) rfl rfl rfl rfl (fun b3 => ?_) | refine o_store TtOk rfl rfl rfl rfl rfl rfl rfl ⟨rfl, rfl⟩ rfl rfl rfl rfl rfl ?_ | refine o_build TtOk rfl rfl rfl rfl rfl rfl nq1 ?_ | refine o_callE rfl (h1) ⟨nqS, True.intro⟩ rfl ?_)
  refine Awp.loop (fun q : Nat × List Lef × List Itm => ⟨77, [(5, .sl 66 ((q.2.1.map leafI).map Itm.R)), (0, .sl 65 (L.map Lef.A)), (3, .ptr 3 b3 [] 0), (4, .ptr 4 b4 [] 0), (6, .ptr 6 b6 [] 0)], [(6, .var b6 (.agg [.i .i64 0, lef0.A, itm0.R, itm0.R, .sl 66 (q.2.2.reverse.map Itm.R)])), (3, .var b3 (labA lb)), (4, .var b4 (.agg [.i .i64 0, lef0.A, itm0.R, itm0.R, .nil]))]⟩) (fun q => q.2.1.length < q.1 ∧ q.2.1.length ≤ 40000 ∧ q.2.2.length + q.2.1.length ≤ 50000 ∧ Rsn q.2.1 ∧ (∀ y ∈ q.2.1, y ∈ L) ∧ wayF q.1 q.2.1 lb q.2.2 = W) (fun q => q.1) [] (L.length + 1, S, []) ⟨by show S.length < L.length + 1; omega, by show S.length ≤ 40000; omega, by show 0 + S.length ≤ 50000; omega, hS, hmem, hW⟩ ?_ ?_
  · exact ⟨rfl, ⟨sle_sl rfl, sle_sl rfl, sle_ptr, sle_ptr, sle_ptr, True.intro⟩, HLe.cons 6 rfl (HOLe.var (CLe.agg (.cons (CLe.of_eq rfl) (.cons (CLe.of_eq rfl) (.cons (CLe.of_eq rfl) (.cons (CLe.of_eq rfl) (.cons CLe.nilsl .nil))))))) (HLe.cons 3 rfl (HOLe.refl _) (HLe.cons 4 rfl (HOLe.refl _) .nil))⟩
  clear h1 hS hmem hW
  rintro ⟨k, l, p⟩ ⟨hk, hL, hpl, h, hmL, hst⟩
  dsimp only at hk hL hpl h hmL hst ⊢
  have hml : (l.map leafI).length = l.length := List.length_map ..
  obtain ⟨k, rfl⟩ : ∃ k', k = k' + 1 := ⟨k - 1, by omega⟩
  rw [wayF] at hst
  by_cases h2 : 2 ≤ l.length
  · have hSd := h.sides h2
    have hj := rjn_spec l h (by intro he; rw [he] at h2; exact absurd h2 (by decide)) (by omega)
    have hlt := hSd.sl
    have hs0 := hSd.s0
    have lt1 : (l.take (splI (l.map leafI))).length = splI (l.map leafI) := by rw [List.length_take]; omega
    have lt2 : (l.drop (splI (l.map leafI))).length = l.length - splI (l.map leafI) := by rw [List.length_drop]
    have jA := rjn_spec (l.take (splI (l.map leafI))) (h.take _) (by intro he; rw [he] at lt1; simp at lt1; omega) (by omega)
    have jB := rjn_spec (l.drop (splI (l.map leafI))) (h.drop _) (by intro he; rw [he] at lt2; simp at lt2; omega) (by omega)
    rw [← hSd.jA] at jA
    rw [← hSd.jB] at jB
    have hsd := rsides_spec (l.map leafI) (by omega) h.okI (frkI (l.map leafI)) hSd.f256
    obtain ⟨q1, q2⟩ := filt_par h h2
    rw [q1, q2] at hsd
    obtain ⟨hJ, hg⟩ := h.join (by omega)
    have hgp : goodP (jnI l).p = true := hJ.good h.goodI
    have hhs := rhas_spec (jnI l) hJ.ok hgp lb hlb
    have hbt := rbit_spec lb hlb (frkI (l.map leafI)) hSd.f256
    have hbo := bitL_or lb (frkI (l.map leafI))
    have hxn : (jnI l).n = (frkI (l.map leafI) : Nat) := by rw [hSd.jn]; show ((comL _ _ : Nat) : Int) = _; rw [hSd.com]
    have r1 := h.take (splI (l.map leafI))
    have r2 := h.drop (splI (l.map leafI))
    rw [if_neg (by intro he; rw [he] at h2; exact absurd h2 (by decide)), if_neg (by omega), show joinF l.length (l.map leafI) = jnI l from rfl] at hst
    have hL0 : ((List.length (l.map leafI) : Int) > 1) := by omega
    clear q1 q2 hJ hg hgp hSd
    generalize parA (l.map leafI) = a at *
    generalize parB (l.map leafI) = b at *
    generalize splI (l.map leafI) = s at *
    generalize frkI (l.map leafI) = c at *
    generalize jnI l = x at *
    obtain ⟨xn, xl, xs, xt⟩ := x
    dsimp only at hxn
    subst hxn
    have hRA : Itm.R ⟨(c : Nat), xl, xs, xt⟩ = .agg [.i .i64 (c : Nat), labA xl, labA xs, .i .i64 xt] := rfl
    rw [hRA] at hj hhs
    have hm1 : ∀ y ∈ l.take s, y ∈ L := fun y hy => hmL y (List.mem_of_mem_take hy)
    have hm2 : ∀ y ∈ l.drop s, y ∈ L := fun y hy => hmL y (List.mem_of_mem_drop hy)
    generalize hasP (Itm.p ⟨(c : Nat), xl, xs, xt⟩) lb = hh at hhs hst
    have hrv : ∀ x : Itm, (p ++ [x]).reverse = x :: p.reverse := fun x => by rw [List.reverse_append]; rfl
    have hrl : (p.reverse).length ≤ 50000 := by rw [List.length_reverse]; omega
    cases hh with
    | false =>
      rw [if_pos rfl] at hst
      subst hst
      repeat' (first | refine Awp.seq ?_ | refine Awp.block ?_ | refine Awp.region ?_ | refine Ops.nil (nqA ?_) | refine Awp.skip (nqA ?_) | refine Awp.ret (nqE ?_) | refine o_len rfl TtOk rfl rfl rfl (fun _ => ?_) | (refine o_calm rfl TtOk rfl rfl rfl ?_ (fun _ => ?_); exact nd) | refine o_alloc (d := 7) rfl TtOk rfl rfl rfl (fun b7 => ?_) | refine o_store TtOk rfl rfl rfl rfl rfl rfl rfl ⟨rfl, rfl⟩ rfl rfl rfl rfl rfl ?_ | refine a_condT rfl ?_ | (refine a_condP rfl (fun hc => ?_) (fun hc => ?_)) <;> (try (exfalso; omega)) | refine o_callE rfl (hj) ⟨nqS, True.intro⟩ rfl ?_ | refine o_callE rfl (hsd) ⟨nqS, nqS, True.intro⟩ rfl ?_ | refine o_callE rfl (hhs) ⟨nqS, nqS, True.intro⟩ rfl ?_ | refine o_callE rfl (jA) ⟨nqS, True.intro⟩ rfl ?_ | refine o_callE rfl (jB) ⟨nqS, True.intro⟩ rfl ?_)
      refine end_all [] [] ((⟨2, lef0, a, b, p.reverse⟩ : Prf).R) rfl ?_ ?_ (rle_one (CLe.of_eq rfl) rfl) .nil ⟨rfl, rfl⟩ _ (.inl rfl)
      · exact nq1
      · exact ⟨trivial, trivial⟩
    | true =>
      rw [if_neg (by decide)] at hst
      generalize bitL lb c = bt at *
      rcases hbo with rfl | rfl
      · rw [if_neg (by decide)] at hst
        repeat' (first | refine Awp.seq ?_ | refine Awp.block ?_ | refine Awp.region ?_ | refine Ops.nil (nqA ?_) | refine Ops.nil (nqX ?_) | refine Awp.skip (nqA ?_) | refine o_len rfl TtOk rfl rfl rfl (fun _ => ?_) | (refine o_calm rfl TtOk rfl rfl rfl ?_ (fun _ => ?_); exact nd) | refine o_alloc (d := 7) rfl TtOk rfl rfl rfl (fun b7 => ?_) | refine o_store TtOk rfl rfl rfl rfl rfl rfl rfl ⟨rfl, rfl⟩ rfl rfl rfl rfl rfl ?_ | refine o_buildSlice (d := 48) TtOk rfl rfl rfl rfl rfl rfl rfl rfl rfl rfl rfl nq1 (fun v48 => ?_) | (refine o_append TtOk rfl rfl rfl rfl rfl rfl rfl rfl rfl (by first | exact True.intro | exact rfl) rfl rfl (fun _ => rfl) ?_ ?_ (fun _ => ?_); ((repeat' (first | rw [List.length_append] | rw [List.length_map] | rw [List.length_cons] | rw [List.length_nil] | rw [List.length_take] | rw [List.length_drop])) <;> omega); ((repeat' (first | rw [List.length_append] | rw [List.length_map] | rw [List.length_cons] | rw [List.length_nil] | rw [List.length_take] | rw [List.length_drop])) <;> omega)) | refine a_condF rfl ?_ | (refine a_condP rfl (fun hc => ?_) (fun hc => ?_)) <;> (try (exfalso; omega)) | refine a_any 13 [6, 48] [50] [47, 48] [0, 3, 4, 1, 2, 5, 6, 7] (by kernel_rfl) (by kernel_rfl) (by kernel_rfl) rfl rfl rfl ?_ | refine o_callE rfl (hj) ⟨nqS, True.intro⟩ rfl ?_ | refine o_callE rfl (hsd) ⟨nqS, nqS, True.intro⟩ rfl ?_ | refine o_callE rfl (hhs) ⟨nqS, nqS, True.intro⟩ rfl ?_ | refine o_callE rfl (hbt) ⟨nqS, nqS, True.intro⟩ rfl ?_ | refine o_callE rfl (jB) ⟨nqS, True.intro⟩ rfl ?_)
        exact ⟨(k, l.take s, p ++ [b]), [48], ⟨by show (l.take s).length < k; omega, by show (l.take s).length ≤ 40000; omega, by show (p ++ [b]).length + (l.take s).length ≤ 50000; rw [List.length_append, List.length_singleton]; omega, r1, hm1, hst⟩, Nat.lt_succ_self k, rfl, ⟨sle_sl rfl, sle_sl rfl, sle_ptr, sle_ptr, sle_ptr, True.intro⟩, HLe.cons 6 rfl (HOLe.var (CLe.agg (.cons (CLe.of_eq rfl) (.cons (CLe.of_eq rfl) (.cons (CLe.of_eq rfl) (.cons (CLe.of_eq rfl) (.cons (by dsimp only; rw [hrv b]; exact CLe.fz (.head _)) .nil))))))) (HLe.cons 3 rfl (HOLe.refl _) (HLe.cons 4 rfl (HOLe.refl _) .nil))⟩
      · rw [if_pos rfl] at hst
        repeat' (first | refine Awp.seq ?_ | refine Awp.block ?_ | refine Awp.region ?_ | refine Ops.nil (nqA ?_) | refine Ops.nil (nqX ?_) | refine Awp.skip (nqA ?_) | refine o_len rfl TtOk rfl rfl rfl (fun _ => ?_) | (refine o_calm rfl TtOk rfl rfl rfl ?_ (fun _ => ?_); exact nd) | refine o_alloc (d := 7) rfl TtOk rfl rfl rfl (fun b7 => ?_) | refine o_store TtOk rfl rfl rfl rfl rfl rfl rfl ⟨rfl, rfl⟩ rfl rfl rfl rfl rfl ?_ | refine o_buildSlice (d := 48) TtOk rfl rfl rfl rfl rfl rfl rfl rfl rfl rfl rfl nq1 (fun v48 => ?_) | (refine o_append TtOk rfl rfl rfl rfl rfl rfl rfl rfl rfl (by first | exact True.intro | exact rfl) rfl rfl (fun _ => rfl) ?_ ?_ (fun _ => ?_); ((repeat' (first | rw [List.length_append] | rw [List.length_map] | rw [List.length_cons] | rw [List.length_nil] | rw [List.length_take] | rw [List.length_drop])) <;> omega); ((repeat' (first | rw [List.length_append] | rw [List.length_map] | rw [List.length_cons] | rw [List.length_nil] | rw [List.length_take] | rw [List.length_drop])) <;> omega)) | refine a_condT rfl ?_ | refine a_condF rfl ?_ | (refine a_condP rfl (fun hc => ?_) (fun hc => ?_)) <;> (try (exfalso; omega)) | refine a_any 13 [6, 48] [50] [47, 48] [0, 3, 4, 1, 2, 5, 6, 7] (by kernel_rfl) (by kernel_rfl) (by kernel_rfl) rfl rfl rfl ?_ | refine o_callE rfl (hj) ⟨nqS, True.intro⟩ rfl ?_ | refine o_callE rfl (hsd) ⟨nqS, nqS, True.intro⟩ rfl ?_ | refine o_callE rfl (hhs) ⟨nqS, nqS, True.intro⟩ rfl ?_ | refine o_callE rfl (hbt) ⟨nqS, nqS, True.intro⟩ rfl ?_ | refine o_callE rfl (jA) ⟨nqS, True.intro⟩ rfl ?_)
        exact ⟨(k, l.drop s, p ++ [a]), [48], ⟨by show (l.drop s).length < k; omega, by show (l.drop s).length ≤ 40000; omega, by show (p ++ [a]).length + (l.drop s).length ≤ 50000; rw [List.length_append, List.length_singleton]; omega, r2, hm2, hst⟩, Nat.lt_succ_self k, rfl, ⟨sle_sl rfl, sle_sl rfl, sle_ptr, sle_ptr, sle_ptr, True.intro⟩, HLe.cons 6 rfl (HOLe.var (CLe.agg (.cons (CLe.of_eq rfl) (.cons (CLe.of_eq rfl) (.cons (CLe.of_eq rfl) (.cons (CLe.of_eq rfl) (.cons (by dsimp only; rw [hrv a]; exact CLe.fz (.head _)) .nil))))))) (HLe.cons 3 rfl (HOLe.refl _) (HLe.cons 4 rfl (HOLe.refl _) .nil))⟩
  · by_cases h0 : l = []
    · rw [if_pos h0] at hst
      subst h0
      subst hst
      repeat' (first | refine Awp.seq ?_ | refine Awp.block ?_ | refine Awp.region ?_ | refine Ops.nil (nqA ?_) | refine Awp.exit (nqA ?_) | refine o_len rfl TtOk rfl rfl rfl (fun _ => ?_) | (refine o_calm rfl TtOk rfl rfl rfl ?_ (fun _ => ?_); exact nd) | refine a_condF rfl ?_)
      refine Awp.loop (fun i : Nat => ⟨77, [(56, .i .i64 i), (55, .i .i64 L.length), (54, .sl 65 (L.map Lef.A)), (5, .sl 66 []), (4, .ptr 4 b4 [] 0), (6, .ptr 6 b6 [] 0)], [(6, .var b6 (.agg [.i .i64 0, lef0.A, itm0.R, itm0.R, .sl 66 (p.reverse.map Itm.R)])), (4, .var b4 (.agg [.i .i64 0, lef0.A, itm0.R, itm0.R, .nil]))]⟩) (fun i => i ≤ L.length) (fun i => L.length - i) [] 0 (Nat.zero_le _) ?_ ?_
      · exact ⟨rfl, ⟨sle_i rfl, sle_i rfl, sle_sl rfl, sle_sl rfl, sle_ptr, sle_ptr, True.intro⟩, HLe.cons 6 rfl (HOLe.refl _) (HLe.cons 4 rfl (HOLe.refl _) .nil)⟩
      intro i hi
      by_cases hlt : i < L.length
      · have hi1 : ((i : Int) + 1 = ((i + 1 : Nat) : Int)) := by omega
        repeat' (first | refine Awp.seq ?_ | refine Awp.block ?_ | refine Awp.region ?_ | refine Ops.nil (nqA ?_) | refine Ops.nil (nqX ?_) | refine Awp.skip (nqA ?_) | refine o_offT rfl rfl rfl (by first | exact .inl rfl | exact .inr rfl) ?_ | (refine o_add rfl rfl rfl rfl ?_ ?_; omega) | (refine o_calm rfl TtOk rfl rfl rfl ?_ (fun _ => ?_); exact nd) | refine o_alloc (d := 11) rfl TtOk rfl rfl rfl (fun b11 => ?_) | refine o_store TtOk rfl rfl rfl rfl rfl rfl rfl ⟨rfl, rfl⟩ rfl rfl rfl rfl rfl ?_ | (refine o_index rfl TtOk rfl rfl rfl rfl rfl rfl ?_ (getq_nat ?_) ?_; omega; omega) | refine a_condF rfl ?_ | (refine a_condP rfl (fun hc => ?_) (fun hc => ?_)) <;> (try (exfalso; omega)) | refine a_any 18 [] [] [] [0, 1, 2, 3, 4, 6, 7, 8, 5, 9, 10, 11] (by kernel_rfl) (by kernel_rfl) (by kernel_rfl) rfl rfl rfl ?_)
        exact ⟨i + 1, [], hlt, by omega, rfl, ⟨sle_i hi1, sle_i rfl, sle_sl rfl, sle_sl rfl, sle_ptr, sle_ptr, True.intro⟩, HLe.cons 6 rfl (HOLe.refl _) (HLe.cons 4 rfl (HOLe.refl _) .nil)⟩
      · repeat' (first | refine Awp.seq ?_ | refine Awp.region ?_ | refine Ops.nil (nqA ?_) | refine Awp.exit (nqA ?_) | refine Awp.ret (nqE ?_) | (refine o_calm rfl TtOk rfl rfl rfl ?_ (fun _ => ?_); exact nd) | refine o_store TtOk rfl rfl rfl rfl rfl rfl rfl ⟨rfl, rfl⟩ rfl rfl rfl rfl rfl ?_ | (refine a_condP rfl (fun hc => ?_) (fun hc => ?_)) <;> (try (exfalso; omega)))
        refine end_all [] [] ((⟨0, lef0, itm0, itm0, p.reverse⟩ : Prf).R) rfl ?_ ?_ (rle_one (CLe.of_eq rfl) rfl) .nil ⟨rfl, rfl⟩ _ (.inl rfl)
        · exact nq1
        · exact ⟨trivial, trivial⟩
    · rw [if_neg h0] at hst
      have hp : 0 < l.length := List.length_pos_iff.2 h0
      have h1 : l.length = 1 := by omega
      rw [if_pos h1] at hst
      obtain ⟨y, rfl⟩ := List.length_eq_one_iff.1 h1
      have hyL := hmL y (List.mem_cons_self ..)
      have hst : ⟨1, y, itm0, itm0, p.reverse⟩ = W := hst
      subst hst
      have hyl : (leafI y).l = y.l := rfl
      have hmap : [y].map leafI = [leafI y] := rfl
      rw [hmap]
      generalize leafI y = z at hyl ⊢
      repeat' (first | refine Awp.seq ?_ | refine Awp.block ?_ | refine Awp.region ?_ | refine Ops.nil (nqA ?_) | refine Awp.exit (nqA ?_) | refine o_len rfl TtOk rfl rfl rfl (fun _ => ?_) | (refine o_calm rfl TtOk rfl rfl rfl ?_ (fun _ => ?_); exact nd) | refine a_condF rfl ?_)
      refine Awp.loop (fun q : Nat × Int × Lef => ⟨77, [(56, .i .i64 q.1), (55, .i .i64 L.length), (54, .sl 65 (L.map Lef.A)), (5, .sl 66 ([z].map Itm.R)), (4, .ptr 4 b4 [] 0), (6, .ptr 6 b6 [] 0)], [(6, .var b6 (.agg [.i .i64 q.2.1, q.2.2.A, itm0.R, itm0.R, .sl 66 (p.reverse.map Itm.R)])), (4, .var b4 (.agg [.i .i64 0, lef0.A, itm0.R, itm0.R, .nil]))]⟩) (fun q => q.1 ≤ L.length ∧ (y ∈ L.take q.1 → q.2 = (1, y))) (fun q => L.length - q.1) [] (0, 0, lef0) ⟨Nat.zero_le _, fun h => by cases h⟩ ?_ ?_
      · exact ⟨rfl, ⟨sle_i rfl, sle_i rfl, sle_sl rfl, sle_sl rfl, sle_ptr, sle_ptr, True.intro⟩, HLe.cons 6 rfl (HOLe.refl _) (HLe.cons 4 rfl (HOLe.refl _) .nil)⟩
      rintro ⟨j, e, u⟩ ⟨hj, hz⟩
      dsimp only at hj hz ⊢
      by_cases hjl : j < L.length
      · have hj1 : ((j : Int) + 1 = ((j + 1 : Nat) : Int)) := by omega
        have htk : L.take (j + 1) = L.take j ++ [L[j]] := List.take_succ_eq_append_getElem hjl
        by_cases hq2 : L[j].l = y.l
        · have hje := uniq_lab2 hd (List.getElem_mem hjl) hyL hq2
          have hq3 : (L[j].l == ([z][0]).l) = true := by show (L[j].l == z.l) = true; rw [hyl, beq_iff_eq]; exact hq2
          repeat' (first | (rw [hq3]) | refine Awp.seq ?_ | refine Awp.block ?_ | refine Awp.region ?_ | refine Ops.nil (nqA ?_) | refine Ops.nil (nqX ?_) | refine Awp.skip (nqA ?_) | (refine o_add rfl rfl rfl rfl ?_ ?_; omega) | refine o_len rfl TtOk rfl rfl rfl (fun _ => ?_) | (refine o_calm rfl TtOk rfl rfl rfl ?_ (fun _ => ?_); exact nd) | refine o_alloc (d := 11) rfl TtOk rfl rfl rfl (fun b11 => ?_) | refine o_store TtOk rfl rfl rfl rfl rfl rfl rfl ⟨rfl, rfl⟩ rfl rfl rfl rfl rfl ?_ | (refine o_index rfl TtOk rfl rfl rfl rfl rfl rfl ?_ (getq_nat ?_) ?_; omega; omega) | refine o_eqArr8 TtOk rfl rfl rfl rfl rfl rfl (by kernel_rfl) ?_ | refine a_condT rfl ?_ | (refine a_condP rfl (fun hc => ?_) (fun hc => ?_)) <;> (try (exfalso; omega)) | refine a_any 18 [] [] [] [0, 1, 2, 3, 4, 6, 7, 8, 5, 9, 10, 11] (by kernel_rfl) (by kernel_rfl) (by kernel_rfl) rfl rfl rfl ?_)
          exact ⟨(j + 1, 1, L[j]), [], ⟨hjl, fun _ => by rw [hje]⟩, by show L.length - (j + 1) < L.length - j; omega, rfl, ⟨sle_i hj1, sle_i rfl, sle_sl rfl, sle_sl rfl, sle_ptr, sle_ptr, True.intro⟩, HLe.cons 6 rfl (HOLe.var (CLe.of_eq rfl)) (HLe.cons 4 rfl (HOLe.refl _) .nil)⟩
        · have hq3 : (L[j].l == ([z][0]).l) = false := by show (L[j].l == z.l) = false; rw [hyl, beq_eq_false_iff_ne]; exact hq2
          repeat' (first | (rw [hq3]) | refine Awp.seq ?_ | refine Awp.block ?_ | refine Awp.region ?_ | refine Ops.nil (nqA ?_) | refine Ops.nil (nqX ?_) | refine Awp.skip (nqA ?_) | (refine o_add rfl rfl rfl rfl ?_ ?_; omega) | refine o_len rfl TtOk rfl rfl rfl (fun _ => ?_) | (refine o_calm rfl TtOk rfl rfl rfl ?_ (fun _ => ?_); exact nd) | refine o_alloc (d := 11) rfl TtOk rfl rfl rfl (fun b11 => ?_) | refine o_store TtOk rfl rfl rfl rfl rfl rfl rfl ⟨rfl, rfl⟩ rfl rfl rfl rfl rfl ?_ | (refine o_index rfl TtOk rfl rfl rfl rfl rfl rfl ?_ (getq_nat ?_) ?_; omega; omega) | refine o_eqArr8 TtOk rfl rfl rfl rfl rfl rfl (by kernel_rfl) ?_ | refine a_condF rfl ?_ | (refine a_condP rfl (fun hc => ?_) (fun hc => ?_)) <;> (try (exfalso; omega)) | refine a_any 18 [] [] [] [0, 1, 2, 3, 4, 6, 7, 8, 5, 9, 10, 11] (by kernel_rfl) (by kernel_rfl) (by kernel_rfl) rfl rfl rfl ?_)
          exact ⟨(j + 1, e, u), [], ⟨hjl, fun h => hz (by
            rw [htk] at h
            rcases List.mem_append.1 h with h | h
            · exact h
            · exact absurd (by rw [← List.mem_singleton.1 h]) hq2)⟩, by show L.length - (j + 1) < L.length - j; omega, rfl, ⟨sle_i hj1, sle_i rfl, sle_sl rfl, sle_sl rfl, sle_ptr, sle_ptr, True.intro⟩, HLe.cons 6 rfl (HOLe.refl _) (HLe.cons 4 rfl (HOLe.refl _) .nil)⟩
      · have hje : j = L.length := by omega
        subst hje
        have hz := hz (by rw [List.take_length]; exact hyL)
        obtain ⟨rfl, rfl⟩ := Prod.mk.inj hz
        repeat' (first | refine Awp.seq ?_ | refine Awp.region ?_ | refine Ops.nil (nqA ?_) | refine Awp.exit (nqA ?_) | refine Awp.ret (nqE ?_) | (refine o_calm rfl TtOk rfl rfl rfl ?_ (fun _ => ?_); exact nd) | refine o_store TtOk rfl rfl rfl rfl rfl rfl rfl ⟨rfl, rfl⟩ rfl rfl rfl rfl rfl ?_ | (refine a_condP rfl (fun hc => ?_) (fun hc => ?_)) <;> (try (exfalso; omega)))
        refine end_all [] [] ((⟨1, u, itm0, itm0, p.reverse⟩ : Prf).R) rfl ?_ ?_ (rle_one (CLe.of_eq rfl) rfl) .nil ⟨rfl, rfl⟩ _ (.inl rfl)
        · exact nq1
        · exact ⟨trivial, trivial⟩
end Go.Proofs.YtcmgpkibjdbonaaGreat
set_option maxHeartbeats 8000000
set_option maxRecDepth 100000
namespace Go.Proofs.YtcmgpkibjdbonaaGreat
open Go Go.RowKit
def eqLf (x y : Lef) : Bool := x.l == y.l && (x.v == y.v && x.t == y.t)
theorem eqLf_iff {x y : Lef} : eqLf x y = true ↔ x = y := by
  unfold eqLf
  simp only [Bool.and_eq_true, beq_iff_eq]
  obtain ⟨a, b, c⟩ := x
  obtain ⟨d, e, f⟩ := y
  simp
theorem eqLf_self (x : Lef) : eqLf x x = true := eqLf_iff.2 rfl
section
variable {m : OM} {C : Ctx} {ops : Array Oper} {l : List Oper} {K : St → Prop} {n : Nat} {sl : List (Nat × AV)} {hp : List (Nat × HO)} {d : Nat} {ty : Nat} {pos : String} {aft : Array Edge} {gd : Option (Nat × Bool)}
end
theorem lefR_eq0 (x y : Lef) (hx : x.ok) (hy : y.ok) (w : World) : (Op.equalIn 10000 58 (.agg (lefC_ x).toArray) (.agg (lefC_ y).toArray)).run Tryz.prog w = .ok (eqLf x y) w := by
  have hS : Tryz.prog.underlying 58 = some (.struct (Tryz.prog.fieldsOf 58)) := by kernel_rfl
  have hh : Tryz.prog.stoodInHeld 58 = false := by kernel_rfl
  have hi : Tryz.prog.underlying 3 = some (.int .i64) := by kernel_rfl
  have hk : Tryz.prog.plainKey 3 = true := by kernel_rfl
  have hu8 : Tryz.prog.underlying 5 = some (.int .u8) := by kernel_rfl
  have hk8 : Tryz.prog.plainKey 5 = true := by kernel_rfl
  have hl : Tryz.prog.underlying 44 = some (.array 32 5) := by kernel_rfl
  have hsz := (tget_ok TtOk (show tget Tt 44 = some _ from rfl)).sizeRun w
  have hag : (isAgg 44).run Tryz.prog w = .ok true w := by
    unfold isAgg; simp only [Sem.run_bind, run_underlying hl, Result.andThen_ok, Sem.run_pure]
  have pA : ∀ (z : Lef), z.ok → (part 44 (lefC_ z).toArray 0).run Tryz.prog w = .ok (.agg (z.l.map cellB).toArray) w := fun z hz => by
    have hx : ((lefC_ z).toArray.extract 0 (0 + 32)) = (z.l.map cellB).toArray := by
      rw [List.extract_toArray]
      congr 1
      unfold lefC_ List.extract
      rw [List.drop_zero, List.take_append_of_le_length (by rw [List.length_map, hz.1]; decide), List.take_of_length_le (by rw [List.length_map, hz.1]; decide)]
    unfold part
    simp only [Sem.run_bind, hag, Result.andThen_ok, if_true, hsz, Sem.run_pure]
    exact congrArg (fun q => Result.ok (Value.agg q) w) hx
  have pB : ∀ (z : Lef), z.ok → (part 44 (lefC_ z).toArray 32).run Tryz.prog w = .ok (.agg (z.v.map cellB).toArray) w := fun z hz => by
    have hx : ((lefC_ z).toArray.extract 32 (32 + 32)) = (z.v.map cellB).toArray := by
      rw [List.extract_toArray]
      congr 1
      unfold lefC_ List.extract
      rw [List.drop_append_of_le_length (by rw [List.length_map, hz.1]; decide), List.drop_of_length_le (by rw [List.length_map, hz.1]; decide), List.nil_append, List.take_append_of_le_length (by rw [List.length_map, hz.2]; decide), List.take_of_length_le (by rw [List.length_map, hz.2]; decide)]
    unfold part
    simp only [Sem.run_bind, hag, Result.andThen_ok, if_true, hsz, Sem.run_pure]
    exact congrArg (fun q => Result.ok (Value.agg q) w) hx
  have pC : ∀ (z : Lef), z.ok → (part 3 (lefC_ z).toArray 64).run Tryz.prog w = .ok (.int .i64 z.t) w := fun z hz => run_part_plain w hk (by
    unfold lefC_
    rw [List.getElem?_toArray, List.getElem?_append_right (by rw [List.length_map, hz.1]; decide), List.getElem?_append_right (by rw [List.length_map, List.length_map, hz.1, hz.2]; decide), List.length_map, List.length_map, hz.1, hz.2]; rfl)
  have p3 := run_equalIn_int (P := Tryz.prog) w 9998 3 .i64 .i64 x.t y.t hi
  have p4 : ∀ a b : List UInt8, a.length = 32 → b.length = 32 → (Op.equalIn (9998 + 1) 44 (.agg (a.map cellB).toArray) (.agg (b.map cellB).toArray)).run Tryz.prog w = .ok (a == b) w := fun a b ha hb => by
    obtain ⟨ie, hie, hies, _⟩ := (tget_ok TtOk (show tget Tt 5 = some _ from rfl)).inf
    have hco : Tryz.prog.cellsOf 5 = 1 := by unfold Program.cellsOf; rw [hie]; exact hies
    have h1 := run_equalIn_array (P := Tryz.prog) w 9998 (a.map cellB).toArray (b.map cellB).toArray hl hie
    have h2 := eqItems_bytes (P := Tryz.prog) (w := w) hu8 hk8 9997 a b (List.range 32) (fun i hi => by have := List.mem_range.1 hi; omega)
    rw [all_range_eq a b 32 ha hb] at h2
    rw [hco] at h1
    rw [h1]
    exact h2
  unfold eqLf
  rw [run_equalIn_struct (P := Tryz.prog) w 9999 _ _ _ hS hh]
  simp only [Program.fieldsOf, Tryz.underlying58]
  simp only [Op.eqFields]
  rw [if_pos (by decide)]
  rw [Sem.run_bind, pA x hx, Result.andThen_ok, Sem.run_bind, pA y hy, Result.andThen_ok, Sem.run_bind, p4 _ _ hx.1 hy.1, Result.andThen_ok]
  generalize (x.l == y.l) = q
  cases q
  · simp only [Bool.not_false, if_true, Sem.run_pure, Bool.false_and]
    try rfl
  · simp only [Bool.not_true, Bool.false_eq_true, if_false]
    rw [if_pos (by decide)]
    rw [Sem.run_bind, pB x hx, Result.andThen_ok, Sem.run_bind, pB y hy, Result.andThen_ok, Sem.run_bind, p4 _ _ hx.2 hy.2, Result.andThen_ok]
    generalize (x.v == y.v) = r
    cases r
    · simp only [Bool.not_false, if_true, Sem.run_pure, Bool.false_and]
      try rfl
    · simp only [Bool.not_true, Bool.false_eq_true, if_false]
      rw [if_pos (by decide)]
      rw [Sem.run_bind, pC x hx, Result.andThen_ok, Sem.run_bind, pC y hy, Result.andThen_ok, Sem.run_bind, p3, Result.andThen_ok]
      generalize (x.t == y.t) = z
      cases z <;> rfl
theorem lefR_eql (x y : Lef) (hx : x.ok) (hy : y.ok) (w : World) : (binOp .eql 58 (.agg (lefC_ x).toArray) (.agg (lefC_ y).toArray)).run Tryz.prog w = .ok (.bool (eqLf x y)) w := by
  rw [run_eql_struct, lefR_eq0 x y hx hy]; rfl
section
variable {m : OM} {C : Ctx} {ops : Array Oper} {l : List Oper} {K : St → Prop} {n : Nat} {sl : List (Nat × AV)} {hp : List (Nat × HO)} {d : Nat} {ty : Nat} {pos : String} {aft : Array Edge} {gd : Option (Nat × Bool)}
theorem o_eqLefR (hw : gval ops ⟨n, sl, hp⟩ gd = gwant gd) {u : Nat} {x y : Operand} {p q : Lef} (hx : ev ⟨n, sl, hp⟩ x = p.A) (hy : ev ⟨n, sl, hp⟩ y = q.A) (hd : Nat.blt d n = true)
    (h : Ops m Tryz.prog C ops l ⟨n, (d, .b (eqLf p q)) :: sl, hp⟩ K) : Ops m Tryz.prog C ops (⟨some d, .binOp .eql 58 x y u, ty, pos, aft, gd⟩ :: l) ⟨n, sl, hp⟩ K := by
  refine Ops.by (d := some d) hw none okc_none hd rfl (fun ac w hs => ?_) h
  have Ex := ev_rep hs x
  have Ey := ev_rep hs y
  rw [hx] at Ex
  rw [hy] at Ey
  obtain ⟨l1, Ex⟩ := lef_cells Ex
  obtain ⟨l2, Ey⟩ := lef_cells Ey
  refine ⟨_, repV_b.2 rfl, fun w' _ => ?_⟩
  have hgd := run_eqGuard_agg (P := Tryz.prog) w' .eql 58 x y (lefC_ p).toArray (lefC_ q).toArray (by kernel_rfl)
  simp only [execOp, Ex, Ey, Sem.run_bind, hgd, lefR_eql p q l1 l2, Result.andThen_ok, Sem.run_pure]
end
end Go.Proofs.YtcmgpkibjdbonaaGreat
set_option maxHeartbeats 16000000
set_option maxRecDepth 100000
namespace Go.Proofs.YtcmgpkibjdbonaaGreat
open Go Go.RowKit
theorem told18_spec (p : Prf) (hl : p.path.length ≤ 300) : Spec Tryz.prog 19 [p.A] [] (fun v os => v = p.R ∧ os = []) := by
  obtain ⟨e, lf, a, b, path⟩ := p
  dsimp only at hl
  have h1 := told15_spec a
  have h2 := told15_spec b
  have h3 := told16_spec path 300 (by omega) (by decide) hl
  show Spec Tryz.prog 19 [.agg [.i .i64 e, lf.A, .agg [a.A, b.A], .sl 66 (path.map Itm.A)]] [] (fun v os => v = .agg [.i .i64 e, lf.A, a.R, b.R, .sl 66 (path.map Itm.R)] ∧ os = [])
  refine spec_of TtOk [] Tryz.func19 rfl Tryz.ntmps19 (by kernel_rfl) rfl rfl (fun C => ?_) rfl
  repeat' (first | refine Awp.seq ?_ | refine Awp.region ?_ | refine Ops.nil (nqA ?_) | refine Awp.ret (nqE ?_) | (refine o_calm rfl TtOk rfl rfl rfl ?_ (fun _ => ?_); exact nd) | refine o_alloc (d := 2) rfl TtOk rfl rfl rfl (fun b2 => ?_) | refine o_box (d := 1) rfl rfl rfl rfl (fun b1 => ?_) | refine o_store TtOk rfl rfl rfl rfl rfl rfl rfl ⟨rfl, rfl⟩ rfl rfl rfl rfl rfl ?_ | refine o_build TtOk rfl rfl rfl rfl rfl rfl nq1 ?_ | refine a_any 1 [2] [4, 6, 9, 13, 16] [10, 14, 17] [0, 2, 4, 5, 8, 9, 12, 1, 3, 6, 10, 13, 7, 11, 14, 15, 16] (by kernel_rfl) (by kernel_rfl) (by kernel_rfl) rfl rfl rfl ?_ | refine o_callE rfl (h1) ⟨nqS, True.intro⟩ rfl ?_ | refine o_callE rfl (h2) ⟨nqS, True.intro⟩ rfl ?_ | refine o_callE rfl (h3) ⟨nqS, nqS, True.intro⟩ rfl ?_)
  refine end_all [] [] (.agg [.i .i64 e, lf.A, a.R, b.R, .sl 66 (path.map Itm.R)]) rfl ?_ ?_ (rle_one (CLe.of_eq rfl) rfl) .nil ⟨rfl, rfl⟩ _ (.inl rfl)
  · exact nq1
  · exact ⟨trivial, trivial⟩
def cutP18 (p : Prf) : Prf := ⟨p.e, p.lf, p.a, p.b, p.path.take 300⟩
theorem cutP_ok {p : Prf} (h : p.ok) : (cutP18 p).ok ∧ (cutP18 p).path.length ≤ 300 := ⟨⟨h.lf, h.a, h.b, fun x hx => h.path x (List.mem_of_mem_take hx)⟩, by show (p.path.take 300).length ≤ 300; rw [List.length_take]; omega⟩
theorem cut18_spec (p : Prf) (hl : p.path.length ≤ 9223372036854775807) : Spec Tryz.prog 16 [p.A] [] (fun v os => v = (cutP18 p).A ∧ os = []) := by
  obtain ⟨e, lf, a, b, path⟩ := p
  dsimp only at hl
  unfold cutP18
  show Spec Tryz.prog 16 [.agg [.i .i64 e, lf.A, .agg [a.A, b.A], .sl 66 (path.map Itm.A)]] [] (fun v os => v = .agg [.i .i64 e, lf.A, .agg [a.A, b.A], .sl 66 ((path.take 300).map Itm.A)] ∧ os = [])
  refine spec_of TtOk [] Tryz.func16 rfl Tryz.ntmps16 (by kernel_rfl) rfl rfl (fun C => ?_) rfl
  by_cases h : 300 < path.length
  · repeat' (first | refine Awp.seq ?_ | refine Awp.region ?_ | refine Ops.nil (nqA ?_) | refine Awp.ret (nqE ?_) | refine o_len rfl TtOk rfl rfl rfl (fun _ => ?_) | (refine o_calm rfl TtOk rfl rfl rfl ?_ (fun _ => ?_); exact nd) | refine o_alloc (d := 2) rfl TtOk rfl rfl rfl (fun b2 => ?_) | refine o_box (d := 1) rfl rfl rfl rfl (fun b1 => ?_) | refine o_store TtOk rfl rfl rfl rfl rfl rfl rfl ⟨rfl, rfl⟩ rfl rfl rfl rfl rfl ?_ | (refine a_condP rfl (fun hc => ?_) (fun hc => ?_)) <;> (try (exfalso; omega)) | (refine o_sliceSl TtOk rfl 0 300 rfl rfl rfl rfl rfl bnd_none (bnd_some rfl rfl) (by omega) (by omega) ?_; rw [List.drop_zero]))
    refine end_all [] [] (.agg [.i .i64 e, lf.A, .agg [a.A, b.A], .sl 66 ((path.take 300).map Itm.A)]) rfl ?_ ?_ (rle_one (CLe.of_eq rfl) rfl) .nil ⟨rfl, rfl⟩ _ (.inl rfl)
    · exact nq1
    · exact ⟨trivial, trivial⟩
  · rw [List.take_of_length_le (by omega)]
    repeat' (first | refine Awp.seq ?_ | refine Awp.region ?_ | refine Ops.nil (nqA ?_) | refine Awp.skip (nqA ?_) | refine Awp.ret (nqE ?_) | refine o_len rfl TtOk rfl rfl rfl (fun _ => ?_) | (refine o_calm rfl TtOk rfl rfl rfl ?_ (fun _ => ?_); exact nd) | refine o_alloc (d := 2) rfl TtOk rfl rfl rfl (fun b2 => ?_) | refine o_box (d := 1) rfl rfl rfl rfl (fun b1 => ?_) | refine o_store TtOk rfl rfl rfl rfl rfl rfl rfl ⟨rfl, rfl⟩ rfl rfl rfl rfl rfl ?_ | (refine a_condP rfl (fun hc => ?_) (fun hc => ?_)) <;> (try (exfalso; omega)))
    refine end_all [] [] (.agg [.i .i64 e, lf.A, .agg [a.A, b.A], .sl 66 (path.map Itm.A)]) rfl ?_ ?_ (rle_one (CLe.of_eq rfl) rfl) .nil ⟨rfl, rfl⟩ _ (.inl rfl)
    · exact nq1
    · exact ⟨trivial, trivial⟩
theorem mk_chk {L : List Lef} (lb : List UInt8) (hok : ∀ x ∈ L, x.ok) (hl : L.length ≤ 200) (hc : mkE L = 0) : chkE (mkP L lb) (topS (itmsL L)) lb = 0 := by
  obtain ⟨a, b, _⟩ := mk_taken lb hok hl hc
  unfold chkE
  rw [a, if_neg (show ¬ ((0 : Int) ≠ 0) from fun h => h rfl), b, if_pos rfl]
def awF18 : Lef := ⟨labC 64, List.replicate 32 0, 5⟩
def awL18 : List Lef := [lefC 0, awF18, lefC 128]
theorem awE18 : mkE awL18 = 0 := by decide +kernel
theorem awP18 : (mkP awL18 (labC 64)).path.length = 2 := by decide +kernel
theorem awOk18 : ∀ x ∈ awL18, x.ok := fun x hx => by
  rcases List.mem_cons.1 hx with rfl | hx
  · exact ⟨rfl, rfl⟩
  rcases List.mem_cons.1 hx with rfl | hx
  · exact ⟨rfl, rfl⟩
  rw [List.mem_singleton.1 hx]; exact ⟨rfl, rfl⟩
theorem awN18 : ∀ x ∈ awL18, x.l ≠ labC 192 := by decide +kernel
theorem awake18_spec : Spec Tryz.prog 26 [] [] (fun v os => v = .b true ∧ os = []) := by
  obtain ⟨_, _, a3, a4, a5, a6⟩ := mk_taken (L := awL18) (labC 64) awOk18 (by decide) awE18
  obtain ⟨_, _, b3, b4, b5, b6⟩ := mk_taken (L := awL18) (labC 192) awOk18 (by decide) awE18
  have c1 := mk_chk (L := awL18) (labC 64) awOk18 (by decide) awE18
  have c2 := mk_chk (L := awL18) (labC 192) awOk18 (by decide) awE18
  obtain ⟨d1, d2⟩ := a3 awF18 (List.mem_cons_of_mem _ (List.mem_cons_self ..)) rfl
  have e1 : chkB (mkP awL18 (labC 64)) (labC 64) = true := by unfold chkB; rw [d1, d2]; rfl
  have e2 : chkB (mkP awL18 (labC 192)) (labC 192) = false := by
    unfold chkB
    by_cases h : (mkP awL18 (labC 192)).e = 1
    · rw [beq_eq_false_iff_ne.2 (awN18 _ (b4 h)), Bool.and_false]
    · rw [beq_eq_false_iff_ne.2 h, Bool.false_and]
  have hio : ∀ x ∈ itmsL awL18, x.ok := fun x hx => by
    obtain ⟨y, hy, rfl⟩ := List.mem_map.1 (srtI_mem.1 hx)
    exact leafI_ok y (awOk18 y hy)
  have k0 := of_spec awL18 (by decide) awOk18
  have k1 := top_spec (itmsL awL18) (by unfold itmsL; rw [srtI_len, List.length_map]; decide) hio
  rw [show chkI (itmsL awL18) = 0 from awE18] at k1
  have htl := topS_len (itmsL awL18) hio
  have k2 := pmake_spec awL18 (labC 64) (by decide) awOk18 rfl
  have k3 := prcheck_spec (topS (itmsL awL18)) (labC 64) (mkP awL18 (labC 64)) a5 (by omega) htl rfl
  have k4 := pmake_spec awL18 (labC 192) (by decide) awOk18 rfl
  have k5 := prcheck_spec (topS (itmsL awL18)) (labC 192) (mkP awL18 (labC 192)) b5 (by omega) htl rfl
  rw [awE18] at k2 k4
  unfold chkL_ chkO at k3 k5
  rw [c1, if_pos rfl, if_pos rfl, e1, if_pos rfl, d2] at k3
  rw [c2, if_pos rfl, if_pos rfl, e2, if_neg (by decide)] at k5
  have hpl := awP18
  have hlA : awL18.map Lef.A = [lef0.A, .agg [labA (labC 64), labA (List.replicate 32 0), .i .i64 5], .agg [labA (labC 128), labA (List.replicate 32 0), .i .i64 0]] := rfl
  rw [hlA] at k0 k2 k4
  clear a3 a4 a5 a6 b3 b4 b5 b6 c1 c2 d1 d2 e1 e2 hio hlA
  generalize topS (itmsL awL18) = top at *
  generalize itmsL awL18 = I at *
  generalize mkP awL18 (labC 192) = q at *
  generalize mkP awL18 (labC 64) = p at *
  obtain ⟨e, lf, a, b, path⟩ := p
  dsimp only at hpl
  have hpA : Prf.A ⟨e, lf, a, b, path⟩ = .agg [.i .i64 e, lf.A, .agg [a.A, b.A], .sl 66 (path.map Itm.A)] := rfl
  rw [hpA] at k2 k3
  have hfA : awF18.A = .agg [labA (labC 64), labA (List.replicate 32 0), .i .i64 5] := rfl
  rw [hfA] at k3
  refine spec_of TtOk [] Tryz.func26 rfl Tryz.ntmps26 (by kernel_rfl) rfl rfl (fun C => ?_) rfl
  repeat' (first | (refine o_freezeR 19 1 rfl rfl rfl ?_) | refine Awp.seq ?_ | refine Awp.region ?_ | refine Ops.nil (nqA ?_) | refine Awp.ret (nqE ?_) | refine o_len rfl TtOk rfl rfl rfl (fun _ => ?_) | (refine o_calm rfl TtOk rfl rfl rfl ?_ (fun _ => ?_); exact nd) | refine o_alloc (d := 2) rfl TtOk rfl rfl rfl (fun b2 => ?_) | refine o_alloc (d := 4) rfl TtOk rfl rfl rfl (fun b4 => ?_) | refine o_alloc (d := 6) rfl TtOk rfl rfl rfl (fun b6 => ?_) | refine o_alloc (d := 9) rfl TtOk rfl rfl rfl (fun b9 => ?_) | refine o_alloc (d := 11) rfl TtOk rfl rfl rfl (fun b11 => ?_) | refine o_store TtOk rfl rfl rfl rfl rfl rfl rfl ⟨rfl, rfl⟩ rfl rfl rfl rfl rfl ?_ | refine o_build TtOk rfl rfl rfl rfl rfl rfl nq1 ?_ | refine o_buildSlice TtOk rfl rfl rfl rfl rfl rfl rfl rfl rfl rfl rfl nq1 (fun _ => ?_) | (fail_if_success (refine o_isLit rfl (by first | exact .inl rfl | exact .inr rfl) ?_)); (refine o_splitP rfl rfl (fun hc => ?_) (fun hc => ?_) <;> try (exfalso; omega)) | (refine o_buildArr TtOk rfl ((labC 64).map byA) rfl rfl rfl (by kernel_rfl) rfl rfl ?_) | (refine o_buildArr TtOk rfl ((labC 128).map byA) rfl rfl rfl (by kernel_rfl) rfl rfl ?_) | (refine o_buildArr TtOk rfl ((labC 192).map byA) rfl rfl rfl (by kernel_rfl) rfl rfl ?_) | refine o_callE rfl (k0) ⟨nqS, True.intro⟩ rfl ?_ | refine o_callE rfl (k1) ⟨nqS, True.intro⟩ rfl ?_ | refine o_callE rfl (k2) ⟨nqS, nqS, True.intro⟩ rfl ?_ | refine o_callE rfl (k3) ⟨nqS, nqS, nqS, True.intro⟩ rfl ?_ | refine o_callE rfl (k4) ⟨nqS, nqS, True.intro⟩ rfl ?_ | refine o_callE rfl (k5) ⟨nqS, nqS, nqS, True.intro⟩ rfl ?_)
  all_goals exact nq2
end Go.Proofs.YtcmgpkibjdbonaaGreat
