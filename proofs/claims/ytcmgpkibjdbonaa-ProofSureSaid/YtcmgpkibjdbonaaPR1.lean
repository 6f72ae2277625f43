/- The document's sides, has, Make (chapter 18) by rules. -/
import Derived.Test.YtcmgpkibjdbonaaV35Z
import Derived.Test.YtcmgpkibjdbonaaPF4Z
set_option maxHeartbeats 16000000
set_option maxRecDepth 100000
namespace Go.Proofs.Ytcmgpkibjdbonaa
open Go Go.RowKit
theorem rsides_spec (l : List Itm) (hl : l.length ≤ 100000) (hok : ∀ x ∈ l, x.ok) (n : Nat) (hf : n < 256) : Spec Try.prog 68 [.sl 66 (l.map Itm.R), .i .i64 n] [] (fun v os => v = .tup [.sl 66 ((l.filter (fun x => bitL x.l n == 0)).map Itm.R), .sl 66 ((l.filter (fun x => !(bitL x.l n == 0))).map Itm.R)] ∧ os = []) := by
  refine spec_of TtOk [] Try.func68 rfl Try.ntmps68 (by kernel_rfl) rfl rfl (fun C => ?_) rfl
  have hbt : ∀ (i : Nat) (h : i < l.length), Spec Try.prog 70 [labA l[i].l, .i .i64 n] [] (fun v os => v = .i .i64 (bitL l[i].l n : Nat) ∧ os = []) := fun i h => rbit_spec _ (hok _ (List.getElem_mem h)).1 _ hf
  have hfs := fun (p : Itm → Bool) (i : Nat) (h : i < l.length) => filt_succ p l h
  have hfl : ∀ (p : Itm → Bool) (i : Nat), ((l.take i).filter p).length ≤ l.length := fun p i => Nat.le_trans (List.length_filter_le ..) (by rw [List.length_take]; omega)
  repeat' (first | refine Awp.seq ?_ | refine Awp.block ?_ | refine Awp.region ?_ | (refine Ops.nil ?_; show Awp _ _ _ _ _) | refine o_len rfl TtOk rfl rfl rfl (fun _ => ?_) | (refine o_calm rfl TtOk rfl rfl rfl ?_ (fun _ => ?_); first | exact True.intro | exact ⟨rfl, rfl, rfl, rfl⟩ | exact ⟨rfl, True.intro⟩ | exact ⟨rfl, rfl⟩ | exact ⟨rfl, rfl, rfl⟩ | exact rfl | exact ⟨fun h0 => by cases h0, rfl⟩ | exact (fun h0 => by cases h0) | exact ⟨rfl, by omega⟩ | exact ⟨Nat.succ_ne_zero _, rfl⟩ | omega) | refine o_buildSlice (d := 10) TtOk rfl rfl rfl rfl rfl rfl rfl rfl rfl rfl rfl (by repeat' (first | exact True.intro | exact rfl | refine ⟨?_, ?_⟩)) (fun v10 => ?_) | refine o_buildSlice (d := 11) TtOk rfl rfl rfl rfl rfl rfl rfl rfl rfl rfl rfl (by repeat' (first | exact True.intro | exact rfl | refine ⟨?_, ?_⟩)) (fun v11 => ?_))
  refine Awp.loop (fun q : Nat × Value × Value => ⟨34, [(14, .i .i64 q.1), (13, .i .i64 l.length), (12, .sl 66 (l.map Itm.R)), (6, .own 10 q.2.1), (7, .own 11 q.2.2), (1, .i .i64 n)], [(10, .row q.2.1 49 66 (((l.take q.1).filter (fun x => bitL x.l n == 0)).map Itm.R)), (11, .row q.2.2 49 66 (((l.take q.1).filter (fun x => !(bitL x.l n == 0))).map Itm.R))]⟩) (fun q => q.1 ≤ l.length) (fun q => l.length - q.1) [] (0, v10, v11) (Nat.zero_le _) ?_ ?_
  · exact ⟨rfl, ⟨sle_i rfl, sle_i rfl, sle_sl rfl, sle_own, sle_own, sle_i rfl, True.intro⟩, HLe.cons 10 rfl (HOLe.refl _) (HLe.cons 11 rfl (HOLe.refl _) .nil)⟩
  rintro ⟨i, u, v⟩ hi
  dsimp only at hi ⊢
  by_cases hlt : i < l.length
  · have hi1 : ((i : Int) + 1 = ((i + 1 : Nat) : Int)) := by omega
    have g1 := hfs (fun x => bitL x.l n == 0) i hlt
    have g2 := hfs (fun x => !(bitL x.l n == 0)) i hlt
    have g3 := hfl (fun x => bitL x.l n == 0) i
    have g4 := hfl (fun x => !(bitL x.l n == 0)) i
    have hb := hbt i hlt
    clear hfs hfl hbt
    generalize (l.take i).filter (fun x => bitL x.l n == 0) = A at g1 g3 ⊢
    generalize (l.take i).filter (fun x => !(bitL x.l n == 0)) = B at g2 g4 ⊢
    have hx01 := bitL_or l[i].l n
    generalize bitL l[i].l n = z at hb hx01 g1 g2
    rcases hx01 with rfl | rfl
    · rw [if_pos (by rfl)] at g1
      rw [if_neg (by decide)] at g2
      repeat' (first | refine Awp.seq ?_ | refine Awp.block ?_ | refine Awp.region ?_ | (refine Ops.nil ?_; show Awp _ _ _ _ _) | (refine Ops.nil ?_; show Exists _) | (refine Awp.skip ?_; show Awp _ _ _ _ _) | (refine o_add rfl rfl rfl rfl ?_ ?_; omega) | (refine o_calm rfl TtOk rfl rfl rfl ?_ (fun _ => ?_); first | exact True.intro | exact ⟨rfl, rfl, rfl, rfl⟩ | exact ⟨rfl, True.intro⟩ | exact ⟨rfl, rfl⟩ | exact ⟨rfl, rfl, rfl⟩ | exact rfl | exact ⟨fun h0 => by cases h0, rfl⟩ | exact (fun h0 => by cases h0) | exact ⟨rfl, by omega⟩ | exact ⟨Nat.succ_ne_zero _, rfl⟩ | omega) | refine o_alloc (d := 9) rfl TtOk rfl rfl rfl (fun b9 => ?_) | refine o_store TtOk rfl rfl rfl rfl rfl rfl rfl ⟨rfl, rfl⟩ rfl rfl rfl rfl rfl ?_ | (refine o_index rfl TtOk rfl rfl rfl rfl rfl rfl ?_ (getq_nat ?_) ?_; omega; omega) | refine o_buildSlice TtOk rfl rfl rfl rfl rfl rfl rfl rfl rfl rfl rfl (by repeat' (first | exact True.intro | exact rfl | refine ⟨?_, ?_⟩)) (fun _ => ?_) | (refine o_append TtOk rfl rfl rfl rfl rfl rfl rfl rfl rfl (by first | exact True.intro | exact rfl) rfl rfl (fun _ => rfl) ?_ ?_ (fun _ => ?_); ((repeat' (first | rw [List.length_append] | rw [List.length_map] | rw [List.length_cons] | rw [List.length_nil] | rw [List.length_take] | rw [List.length_drop])) <;> omega); ((repeat' (first | rw [List.length_append] | rw [List.length_map] | rw [List.length_cons] | rw [List.length_nil] | rw [List.length_take] | rw [List.length_drop])) <;> omega)) | refine a_condT rfl ?_ | (refine a_condP rfl (fun hc => ?_) (fun hc => ?_)) <;> (try (exfalso; omega)) | (refine o_call0 rfl (hb) ⟨SLe.of_eq rfl, SLe.of_eq rfl, True.intro⟩ rfl ?_; rintro _ _ ⟨rfl, rfl⟩; refine ⟨rfl, ?_⟩))
      exact ⟨(i + 1, _, v), [], hlt, by show l.length - (i + 1) < l.length - i; omega, rfl, ⟨sle_i hi1, sle_i rfl, sle_sl rfl, sle_own, sle_own, sle_i rfl, True.intro⟩, HLe.cons 10 rfl (HOLe.row (by rw [g1, List.map_append]; rfl)) (HLe.cons 11 rfl (HOLe.row (by rw [g2])) .nil)⟩
    · rw [if_neg (by decide)] at g1
      rw [if_pos (by rfl)] at g2
      repeat' (first | refine Awp.seq ?_ | refine Awp.block ?_ | refine Awp.region ?_ | (refine Ops.nil ?_; show Awp _ _ _ _ _) | (refine Ops.nil ?_; show Exists _) | (refine Awp.skip ?_; show Awp _ _ _ _ _) | (refine o_add rfl rfl rfl rfl ?_ ?_; omega) | (refine o_calm rfl TtOk rfl rfl rfl ?_ (fun _ => ?_); first | exact True.intro | exact ⟨rfl, rfl, rfl, rfl⟩ | exact ⟨rfl, True.intro⟩ | exact ⟨rfl, rfl⟩ | exact ⟨rfl, rfl, rfl⟩ | exact rfl | exact ⟨fun h0 => by cases h0, rfl⟩ | exact (fun h0 => by cases h0) | exact ⟨rfl, by omega⟩ | exact ⟨Nat.succ_ne_zero _, rfl⟩ | omega) | refine o_alloc (d := 9) rfl TtOk rfl rfl rfl (fun b9 => ?_) | refine o_store TtOk rfl rfl rfl rfl rfl rfl rfl ⟨rfl, rfl⟩ rfl rfl rfl rfl rfl ?_ | (refine o_index rfl TtOk rfl rfl rfl rfl rfl rfl ?_ (getq_nat ?_) ?_; omega; omega) | refine o_buildSlice TtOk rfl rfl rfl rfl rfl rfl rfl rfl rfl rfl rfl (by repeat' (first | exact True.intro | exact rfl | refine ⟨?_, ?_⟩)) (fun _ => ?_) | (refine o_append TtOk rfl rfl rfl rfl rfl rfl rfl rfl rfl (by first | exact True.intro | exact rfl) rfl rfl (fun _ => rfl) ?_ ?_ (fun _ => ?_); ((repeat' (first | rw [List.length_append] | rw [List.length_map] | rw [List.length_cons] | rw [List.length_nil] | rw [List.length_take] | rw [List.length_drop])) <;> omega); ((repeat' (first | rw [List.length_append] | rw [List.length_map] | rw [List.length_cons] | rw [List.length_nil] | rw [List.length_take] | rw [List.length_drop])) <;> omega)) | refine a_condF rfl ?_ | (refine a_condP rfl (fun hc => ?_) (fun hc => ?_)) <;> (try (exfalso; omega)) | (refine o_call0 rfl (hb) ⟨SLe.of_eq rfl, SLe.of_eq rfl, True.intro⟩ rfl ?_; rintro _ _ ⟨rfl, rfl⟩; refine ⟨rfl, ?_⟩))
      exact ⟨(i + 1, u, _), [], hlt, by show l.length - (i + 1) < l.length - i; omega, rfl, ⟨sle_i hi1, sle_i rfl, sle_sl rfl, sle_own, sle_own, sle_i rfl, True.intro⟩, HLe.cons 10 rfl (HOLe.row (by rw [g1])) (HLe.cons 11 rfl (HOLe.row (by rw [g2, List.map_append]; rfl)) .nil)⟩
  · have hie : i = l.length := by omega
    subst hie
    rw [List.take_length]
    generalize l.filter (fun x => bitL x.l n == 0) = A
    generalize l.filter (fun x => !(bitL x.l n == 0)) = B
    repeat' (first | refine Awp.seq ?_ | refine Awp.region ?_ | (refine Ops.nil ?_; show Awp _ _ _ _ _) | (refine Awp.exit ?_; show Awp _ _ _ _ _) | (refine Awp.ret ?_; show endK _ _ _ _ _) | (refine o_calm rfl TtOk rfl rfl rfl ?_ (fun _ => ?_); first | exact True.intro | exact ⟨rfl, rfl, rfl, rfl⟩ | exact ⟨rfl, True.intro⟩ | exact ⟨rfl, rfl⟩ | exact ⟨rfl, rfl, rfl⟩ | exact rfl | exact ⟨fun h0 => by cases h0, rfl⟩ | exact (fun h0 => by cases h0) | exact ⟨rfl, by omega⟩ | exact ⟨Nat.succ_ne_zero _, rfl⟩ | omega) | (refine a_condP rfl (fun hc => ?_) (fun hc => ?_)) <;> (try (exfalso; omega)))
    refine end_all [10, 11] [] (.tup [.sl 66 (A.map Itm.R), .sl 66 (B.map Itm.R)]) rfl ?_ ?_ (rle_tup2 (CLe.fz (.head _)) (CLe.fz (.tail _ (.head _))) rfl rfl) .nil ⟨rfl, rfl⟩ _ (.inl rfl)
    · repeat' (first | exact True.intro | exact rfl | refine ⟨?_, ?_⟩)
    · exact ⟨trivial, trivial, trivial⟩
theorem rhas_spec (x : Itm) (hx : x.ok) (hg : goodP x.p = true) (lb : List UInt8) (hlb : lb.length = 32) : Spec Try.prog 69 [x.R, labA lb] [] (fun v os => v = .b (hasP x.p lb) ∧ os = []) := by
  have h1 := rcut_spec lb hlb x.n
  have h2 := cut_has hg hx.1 hlb
  rw [show x.p.n = x.n from rfl, show x.p.l = x.l from rfl] at h2
  rw [← h2]
  clear h2 hg
  generalize cutL lb (clamp x.n) = c at h1 ⊢
  obtain ⟨n, l, s, t⟩ := x
  show Spec Try.prog 69 [.agg [.i .i64 n, labA l, labA s, .i .i64 t], labA lb] [] _
  refine spec_of TtOk [] Try.func69 rfl Try.ntmps69 (by kernel_rfl) rfl rfl (fun C => ?_) rfl
  repeat' (first | refine Awp.seq ?_ | refine Awp.region ?_ | (refine Ops.nil ?_; show Awp _ _ _ _ _) | (refine Awp.ret ?_; show endK _ _ _ _ _) | (refine o_calm rfl TtOk rfl rfl rfl ?_ (fun _ => ?_); first | exact True.intro | exact ⟨rfl, rfl, rfl, rfl⟩ | exact ⟨rfl, True.intro⟩ | exact ⟨rfl, rfl⟩ | exact ⟨rfl, rfl, rfl⟩ | exact rfl | exact ⟨fun h0 => by cases h0, rfl⟩ | exact (fun h0 => by cases h0) | exact ⟨rfl, by omega⟩ | exact ⟨Nat.succ_ne_zero _, rfl⟩ | omega) | refine o_box (d := 2) rfl rfl rfl rfl (fun b2 => ?_) | refine o_box (d := 3) rfl rfl rfl rfl (fun b3 => ?_) | refine o_eqArr8 TtOk rfl rfl rfl rfl rfl rfl (by kernel_rfl) ?_ | refine a_any 1 [] [] [] [1, 4, 0, 2, 5, 3, 6, 7] (by kernel_rfl) (by kernel_rfl) (by kernel_rfl) rfl rfl rfl ?_ | (refine o_call0 rfl (h1) ⟨SLe.of_eq rfl, SLe.of_eq rfl, True.intro⟩ rfl ?_; rintro _ _ ⟨rfl, rfl⟩; refine ⟨rfl, ?_⟩))
  exact end_tmp rfl rfl rfl [] [] (CLe.of_eq rfl) .nil ⟨rfl, rfl⟩ _ (.inl rfl)
theorem filt_par {l : List Lef} (h : Rsn l) (h2 : 2 ≤ l.length) : (l.map leafI).filter (fun x => bitL x.l (frkI (l.map leafI)) == 0) = (l.take (splI (l.map leafI))).map leafI ∧ (l.map leafI).filter (fun x => !(bitL x.l (frkI (l.map leafI)) == 0)) = (l.drop (splI (l.map leafI))).map leafI := by
  obtain ⟨f1, f2⟩ := filt_lo h.rise h.okI (by rw [List.length_map]; exact h2)
  exact ⟨by rw [f1, List.map_take], by rw [f2, List.map_drop]⟩
theorem rjn_spec (l : List Lef) (h : Rsn l) (hn : l ≠ []) (hl : l.length ≤ 100000) : Spec Try.prog 67 [.sl 66 ((l.map leafI).map Itm.R)] [] (fun v os => v = (jnI l).R ∧ os = []) := by
  have := rjoin_spec l.length (l.map leafI) (fun he => hn (List.map_eq_nil_iff.1 he)) (by rw [List.length_map]; exact Nat.le_refl _) (by rw [List.length_map]; exact hl) h.rise h.okI
  exact this
theorem uniq_lab2 {L : List Lef} (hd : L.Pairwise (fun a b => a.l ≠ b.l)) {x y : Lef} (hx : x ∈ L) (hy : y ∈ L) (h : x.l = y.l) : x = y := by
  obtain ⟨i, hi, rfl⟩ := List.getElem_of_mem hx
  obtain ⟨j, hj, rfl⟩ := List.getElem_of_mem hy
  rcases Nat.lt_trichotomy i j with h1 | h1 | h1
  · exact absurd h (List.pairwise_iff_getElem.1 hd i j hi hj h1)
  · subst h1; rfl
  · exact absurd h.symm (List.pairwise_iff_getElem.1 hd j i hj hi h1)
theorem rmake18_spec (L : List Lef) (lb : List UInt8) (hl : L.length ≤ 40000) (hok : ∀ x ∈ L, x.ok) (hlb : lb.length = 32) (hc : mkE L = 0) : Spec Try.prog 22 [.sl 65 (L.map Lef.A), labA lb] [] (fun v os => v = (mkP L lb).R ∧ os = []) := by
  refine spec_of TtOk [] Try.func22 rfl Try.ntmps22 (by kernel_rfl) rfl rfl (fun C => ?_) rfl
  have h1 := rof_spec L (by omega) hok
  have hS := rsn_srt hok hc
  have hsl := srtL_len L
  have hd := itms_ne hc
  have hmem : ∀ y ∈ srtL L, y ∈ L := fun y hy => srtL_mem.1 hy
  rw [itms_map] at h1
  unfold mkP
  rw [hc, if_neg (by decide)]
  obtain ⟨W, hW⟩ : ∃ W, wayF (L.length + 1) (srtL L) lb [] = W := ⟨_, rfl⟩
  rw [hW]
  generalize srtL L = S at *
  repeat' (first | refine Awp.seq ?_ | refine Awp.block ?_ | refine Awp.region ?_ | (refine Ops.nil ?_; show Awp _ _ _ _ _) | (refine o_calm rfl TtOk rfl rfl rfl ?_ (fun _ => ?_); first | exact True.intro | exact ⟨rfl, rfl, rfl, rfl⟩ | exact ⟨rfl, True.intro⟩ | exact ⟨rfl, rfl⟩ | exact ⟨rfl, rfl, rfl⟩ | exact rfl | exact ⟨fun h0 => by cases h0, rfl⟩ | exact (fun h0 => by cases h0) | exact ⟨rfl, by omega⟩ | exact ⟨Nat.succ_ne_zero _, rfl⟩ | omega) | refine o_alloc (d := 4) rfl TtOk rfl rfl rfl (fun b4 => ?_) | refine o_alloc (d := 6) rfl TtOk rfl rfl rfl (fun b6 => ?_) | refine o_box (d := 3) rfl rfl rfl rfl (fun b3 => ?_) | refine o_store TtOk rfl rfl rfl rfl rfl rfl rfl ⟨rfl, rfl⟩ rfl rfl rfl rfl rfl ?_ | refine o_build TtOk rfl rfl rfl rfl rfl rfl (by repeat' (first | exact True.intro | exact rfl | refine ⟨?_, ?_⟩)) ?_ | (refine o_call0 rfl (h1) ⟨SLe.of_eq rfl, True.intro⟩ rfl ?_; rintro _ _ ⟨rfl, rfl⟩; refine ⟨rfl, ?_⟩))
  refine Awp.loop (fun q : Nat × List Lef × List Itm => ⟨77, [(5, .sl 66 ((q.2.1.map leafI).map Itm.R)), (0, .sl 65 (L.map Lef.A)), (3, .ptr 3 b3 [] 0), (4, .ptr 4 b4 [] 0), (6, .ptr 6 b6 [] 0)], [(6, .var b6 (.agg [.i .i64 0, lef0.A, itm0.R, itm0.R, .sl 66 (q.2.2.reverse.map Itm.R)])), (3, .var b3 (labA lb)), (4, .var b4 (.agg [.i .i64 0, lef0.A, itm0.R, itm0.R, .nil]))]⟩) (fun q => q.2.1.length < q.1 ∧ q.2.1.length ≤ 40000 ∧ q.2.2.length + q.2.1.length ≤ 50000 ∧ Rsn q.2.1 ∧ (∀ y ∈ q.2.1, y ∈ L) ∧ wayF q.1 q.2.1 lb q.2.2 = W) (fun q => q.1) [] (L.length + 1, S, []) ⟨by show S.length < L.length + 1; omega, by show S.length ≤ 40000; omega, by show 0 + S.length ≤ 50000; omega, hS, hmem, hW⟩ ?_ ?_
  · exact ⟨rfl, ⟨sle_sl rfl, sle_sl rfl, sle_ptr, sle_ptr, sle_ptr, True.intro⟩, HLe.cons 6 rfl (HOLe.var (CLe.agg (.cons (CLe.of_eq rfl) (.cons (CLe.of_eq rfl) (.cons (CLe.of_eq rfl) (.cons (CLe.of_eq rfl) (.cons CLe.nilsl .nil))))))) (HLe.cons 3 rfl (HOLe.refl _) (HLe.cons 4 rfl (HOLe.refl _) .nil))⟩
  clear h1 hS hmem hW
  rintro ⟨k, l, p⟩ ⟨hk, hL, hpl, h, hmL, hst⟩
  dsimp only at hk hL hpl h hmL hst ⊢
  have hml : (l.map leafI).length = l.length := List.length_map ..
  obtain ⟨k, rfl⟩ : ∃ k', k = k' + 1 := ⟨k - 1, by omega⟩
  rw [wayF] at hst
  by_cases h2 : 2 ≤ l.length
  · have hSd := h.sides h2
    have hj := rjn_spec l h (by intro he; rw [he] at h2; exact absurd h2 (by decide)) (by omega)
    have hlt := hSd.sl
    have hs0 := hSd.s0
    have lt1 : (l.take (splI (l.map leafI))).length = splI (l.map leafI) := by rw [List.length_take]; omega
    have lt2 : (l.drop (splI (l.map leafI))).length = l.length - splI (l.map leafI) := by rw [List.length_drop]
    have jA := rjn_spec (l.take (splI (l.map leafI))) (h.take _) (by intro he; rw [he] at lt1; simp at lt1; omega) (by omega)
    have jB := rjn_spec (l.drop (splI (l.map leafI))) (h.drop _) (by intro he; rw [he] at lt2; simp at lt2; omega) (by omega)
    rw [← hSd.jA] at jA
    rw [← hSd.jB] at jB
    have hsd := rsides_spec (l.map leafI) (by omega) h.okI (frkI (l.map leafI)) hSd.f256
    obtain ⟨q1, q2⟩ := filt_par h h2
    rw [q1, q2] at hsd
    obtain ⟨hJ, hg⟩ := h.join (by omega)
    have hgp : goodP (jnI l).p = true := hJ.good h.goodI
    have hhs := rhas_spec (jnI l) hJ.ok hgp lb hlb
    have hbt := rbit_spec lb hlb (frkI (l.map leafI)) hSd.f256
    have hbo := bitL_or lb (frkI (l.map leafI))
    have hxn : (jnI l).n = (frkI (l.map leafI) : Nat) := by rw [hSd.jn]; show ((comL _ _ : Nat) : Int) = _; rw [hSd.com]
    have r1 := h.take (splI (l.map leafI))
    have r2 := h.drop (splI (l.map leafI))
    rw [if_neg (by intro he; rw [he] at h2; exact absurd h2 (by decide)), if_neg (by omega), show joinF l.length (l.map leafI) = jnI l from rfl] at hst
    have hL0 : ((List.length (l.map leafI) : Int) > 1) := by omega
    clear q1 q2 hJ hg hgp hSd
    generalize parA (l.map leafI) = a at *
    generalize parB (l.map leafI) = b at *
    generalize splI (l.map leafI) = s at *
    generalize frkI (l.map leafI) = c at *
    generalize jnI l = x at *
    obtain ⟨xn, xl, xs, xt⟩ := x
    dsimp only at hxn
    subst hxn
    have hRA : Itm.R ⟨(c : Nat), xl, xs, xt⟩ = .agg [.i .i64 (c : Nat), labA xl, labA xs, .i .i64 xt] := rfl
    rw [hRA] at hj hhs
    have hm1 : ∀ y ∈ l.take s, y ∈ L := fun y hy => hmL y (List.mem_of_mem_take hy)
    have hm2 : ∀ y ∈ l.drop s, y ∈ L := fun y hy => hmL y (List.mem_of_mem_drop hy)
    generalize hasP (Itm.p ⟨(c : Nat), xl, xs, xt⟩) lb = hh at hhs hst
    have hrv : ∀ x : Itm, (p ++ [x]).reverse = x :: p.reverse := fun x => by rw [List.reverse_append]; rfl
    have hrl : (p.reverse).length ≤ 50000 := by rw [List.length_reverse]; omega
    cases hh with
    | false =>
      rw [if_pos rfl] at hst
      subst hst
      repeat' (first | refine Awp.seq ?_ | refine Awp.block ?_ | refine Awp.region ?_ | (refine Ops.nil ?_; show Awp _ _ _ _ _) | (refine Awp.skip ?_; show Awp _ _ _ _ _) | (refine Awp.ret ?_; show endK _ _ _ _ _) | refine o_len rfl TtOk rfl rfl rfl (fun _ => ?_) | (refine o_calm rfl TtOk rfl rfl rfl ?_ (fun _ => ?_); first | exact True.intro | exact ⟨rfl, rfl, rfl, rfl⟩ | exact ⟨rfl, True.intro⟩ | exact ⟨rfl, rfl⟩ | exact ⟨rfl, rfl, rfl⟩ | exact rfl | exact ⟨fun h0 => by cases h0, rfl⟩ | exact (fun h0 => by cases h0) | exact ⟨rfl, by omega⟩ | exact ⟨Nat.succ_ne_zero _, rfl⟩ | omega) | refine o_alloc (d := 7) rfl TtOk rfl rfl rfl (fun b7 => ?_) | refine o_store TtOk rfl rfl rfl rfl rfl rfl rfl ⟨rfl, rfl⟩ rfl rfl rfl rfl rfl ?_ | refine a_condT rfl ?_ | (refine a_condP rfl (fun hc => ?_) (fun hc => ?_)) <;> (try (exfalso; omega)) | (refine o_call0 rfl (hj) ⟨SLe.of_eq rfl, True.intro⟩ rfl ?_; rintro _ _ ⟨rfl, rfl⟩; refine ⟨rfl, ?_⟩) | (refine o_call0 rfl (hsd) ⟨SLe.of_eq rfl, SLe.of_eq rfl, True.intro⟩ rfl ?_; rintro _ _ ⟨rfl, rfl⟩; refine ⟨rfl, ?_⟩) | (refine o_call0 rfl (hhs) ⟨SLe.of_eq rfl, SLe.of_eq rfl, True.intro⟩ rfl ?_; rintro _ _ ⟨rfl, rfl⟩; refine ⟨rfl, ?_⟩) | (refine o_call0 rfl (jA) ⟨SLe.of_eq rfl, True.intro⟩ rfl ?_; rintro _ _ ⟨rfl, rfl⟩; refine ⟨rfl, ?_⟩) | (refine o_call0 rfl (jB) ⟨SLe.of_eq rfl, True.intro⟩ rfl ?_; rintro _ _ ⟨rfl, rfl⟩; refine ⟨rfl, ?_⟩))
      refine end_all [] [] ((⟨2, lef0, a, b, p.reverse⟩ : Prf).R) rfl ?_ ?_ (rle_one (CLe.of_eq rfl) rfl) .nil ⟨rfl, rfl⟩ _ (.inl rfl)
      · repeat' (first | exact True.intro | exact rfl | refine ⟨?_, ?_⟩)
      · exact ⟨trivial, trivial⟩
    | true =>
      rw [if_neg (by decide)] at hst
      generalize bitL lb c = bt at *
      rcases hbo with rfl | rfl
      · rw [if_neg (by decide)] at hst
        repeat' (first | refine Awp.seq ?_ | refine Awp.block ?_ | refine Awp.region ?_ | (refine Ops.nil ?_; show Awp _ _ _ _ _) | (refine Ops.nil ?_; show Exists _) | (refine Awp.skip ?_; show Awp _ _ _ _ _) | refine o_len rfl TtOk rfl rfl rfl (fun _ => ?_) | (refine o_calm rfl TtOk rfl rfl rfl ?_ (fun _ => ?_); first | exact True.intro | exact ⟨rfl, rfl, rfl, rfl⟩ | exact ⟨rfl, True.intro⟩ | exact ⟨rfl, rfl⟩ | exact ⟨rfl, rfl, rfl⟩ | exact rfl | exact ⟨fun h0 => by cases h0, rfl⟩ | exact (fun h0 => by cases h0) | exact ⟨rfl, by omega⟩ | exact ⟨Nat.succ_ne_zero _, rfl⟩ | omega) | refine o_alloc (d := 7) rfl TtOk rfl rfl rfl (fun b7 => ?_) | refine o_store TtOk rfl rfl rfl rfl rfl rfl rfl ⟨rfl, rfl⟩ rfl rfl rfl rfl rfl ?_ | refine o_buildSlice (d := 48) TtOk rfl rfl rfl rfl rfl rfl rfl rfl rfl rfl rfl (by repeat' (first | exact True.intro | exact rfl | refine ⟨?_, ?_⟩)) (fun v48 => ?_) | (refine o_append TtOk rfl rfl rfl rfl rfl rfl rfl rfl rfl (by first | exact True.intro | exact rfl) rfl rfl (fun _ => rfl) ?_ ?_ (fun _ => ?_); ((repeat' (first | rw [List.length_append] | rw [List.length_map] | rw [List.length_cons] | rw [List.length_nil] | rw [List.length_take] | rw [List.length_drop])) <;> omega); ((repeat' (first | rw [List.length_append] | rw [List.length_map] | rw [List.length_cons] | rw [List.length_nil] | rw [List.length_take] | rw [List.length_drop])) <;> omega)) | refine a_condF rfl ?_ | (refine a_condP rfl (fun hc => ?_) (fun hc => ?_)) <;> (try (exfalso; omega)) | refine a_any 13 [6, 48] [50] [47, 48] [0, 3, 4, 1, 2, 5, 6, 7] (by kernel_rfl) (by kernel_rfl) (by kernel_rfl) rfl rfl rfl ?_ | (refine o_call0 rfl (hj) ⟨SLe.of_eq rfl, True.intro⟩ rfl ?_; rintro _ _ ⟨rfl, rfl⟩; refine ⟨rfl, ?_⟩) | (refine o_call0 rfl (hsd) ⟨SLe.of_eq rfl, SLe.of_eq rfl, True.intro⟩ rfl ?_; rintro _ _ ⟨rfl, rfl⟩; refine ⟨rfl, ?_⟩) | (refine o_call0 rfl (hhs) ⟨SLe.of_eq rfl, SLe.of_eq rfl, True.intro⟩ rfl ?_; rintro _ _ ⟨rfl, rfl⟩; refine ⟨rfl, ?_⟩) | (refine o_call0 rfl (hbt) ⟨SLe.of_eq rfl, SLe.of_eq rfl, True.intro⟩ rfl ?_; rintro _ _ ⟨rfl, rfl⟩; refine ⟨rfl, ?_⟩) | (refine o_call0 rfl (jB) ⟨SLe.of_eq rfl, True.intro⟩ rfl ?_; rintro _ _ ⟨rfl, rfl⟩; refine ⟨rfl, ?_⟩))
        exact ⟨(k, l.take s, p ++ [b]), [48], ⟨by show (l.take s).length < k; omega, by show (l.take s).length ≤ 40000; omega, by show (p ++ [b]).length + (l.take s).length ≤ 50000; rw [List.length_append, List.length_singleton]; omega, r1, hm1, hst⟩, Nat.lt_succ_self k, rfl, ⟨sle_sl rfl, sle_sl rfl, sle_ptr, sle_ptr, sle_ptr, True.intro⟩, HLe.cons 6 rfl (HOLe.var (CLe.agg (.cons (CLe.of_eq rfl) (.cons (CLe.of_eq rfl) (.cons (CLe.of_eq rfl) (.cons (CLe.of_eq rfl) (.cons (by dsimp only; rw [hrv b]; exact CLe.fz (.head _)) .nil))))))) (HLe.cons 3 rfl (HOLe.refl _) (HLe.cons 4 rfl (HOLe.refl _) .nil))⟩
      · rw [if_pos rfl] at hst
        repeat' (first | refine Awp.seq ?_ | refine Awp.block ?_ | refine Awp.region ?_ | (refine Ops.nil ?_; show Awp _ _ _ _ _) | (refine Ops.nil ?_; show Exists _) | (refine Awp.skip ?_; show Awp _ _ _ _ _) | refine o_len rfl TtOk rfl rfl rfl (fun _ => ?_) | (refine o_calm rfl TtOk rfl rfl rfl ?_ (fun _ => ?_); first | exact True.intro | exact ⟨rfl, rfl, rfl, rfl⟩ | exact ⟨rfl, True.intro⟩ | exact ⟨rfl, rfl⟩ | exact ⟨rfl, rfl, rfl⟩ | exact rfl | exact ⟨fun h0 => by cases h0, rfl⟩ | exact (fun h0 => by cases h0) | exact ⟨rfl, by omega⟩ | exact ⟨Nat.succ_ne_zero _, rfl⟩ | omega) | refine o_alloc (d := 7) rfl TtOk rfl rfl rfl (fun b7 => ?_) | refine o_store TtOk rfl rfl rfl rfl rfl rfl rfl ⟨rfl, rfl⟩ rfl rfl rfl rfl rfl ?_ | refine o_buildSlice (d := 48) TtOk rfl rfl rfl rfl rfl rfl rfl rfl rfl rfl rfl (by repeat' (first | exact True.intro | exact rfl | refine ⟨?_, ?_⟩)) (fun v48 => ?_) | (refine o_append TtOk rfl rfl rfl rfl rfl rfl rfl rfl rfl (by first | exact True.intro | exact rfl) rfl rfl (fun _ => rfl) ?_ ?_ (fun _ => ?_); ((repeat' (first | rw [List.length_append] | rw [List.length_map] | rw [List.length_cons] | rw [List.length_nil] | rw [List.length_take] | rw [List.length_drop])) <;> omega); ((repeat' (first | rw [List.length_append] | rw [List.length_map] | rw [List.length_cons] | rw [List.length_nil] | rw [List.length_take] | rw [List.length_drop])) <;> omega)) | refine a_condT rfl ?_ | refine a_condF rfl ?_ | (refine a_condP rfl (fun hc => ?_) (fun hc => ?_)) <;> (try (exfalso; omega)) | refine a_any 13 [6, 48] [50] [47, 48] [0, 3, 4, 1, 2, 5, 6, 7] (by kernel_rfl) (by kernel_rfl) (by kernel_rfl) rfl rfl rfl ?_ | (refine o_call0 rfl (hj) ⟨SLe.of_eq rfl, True.intro⟩ rfl ?_; rintro _ _ ⟨rfl, rfl⟩; refine ⟨rfl, ?_⟩) | (refine o_call0 rfl (hsd) ⟨SLe.of_eq rfl, SLe.of_eq rfl, True.intro⟩ rfl ?_; rintro _ _ ⟨rfl, rfl⟩; refine ⟨rfl, ?_⟩) | (refine o_call0 rfl (hhs) ⟨SLe.of_eq rfl, SLe.of_eq rfl, True.intro⟩ rfl ?_; rintro _ _ ⟨rfl, rfl⟩; refine ⟨rfl, ?_⟩) | (refine o_call0 rfl (hbt) ⟨SLe.of_eq rfl, SLe.of_eq rfl, True.intro⟩ rfl ?_; rintro _ _ ⟨rfl, rfl⟩; refine ⟨rfl, ?_⟩) | (refine o_call0 rfl (jA) ⟨SLe.of_eq rfl, True.intro⟩ rfl ?_; rintro _ _ ⟨rfl, rfl⟩; refine ⟨rfl, ?_⟩))
        exact ⟨(k, l.drop s, p ++ [a]), [48], ⟨by show (l.drop s).length < k; omega, by show (l.drop s).length ≤ 40000; omega, by show (p ++ [a]).length + (l.drop s).length ≤ 50000; rw [List.length_append, List.length_singleton]; omega, r2, hm2, hst⟩, Nat.lt_succ_self k, rfl, ⟨sle_sl rfl, sle_sl rfl, sle_ptr, sle_ptr, sle_ptr, True.intro⟩, HLe.cons 6 rfl (HOLe.var (CLe.agg (.cons (CLe.of_eq rfl) (.cons (CLe.of_eq rfl) (.cons (CLe.of_eq rfl) (.cons (CLe.of_eq rfl) (.cons (by dsimp only; rw [hrv a]; exact CLe.fz (.head _)) .nil))))))) (HLe.cons 3 rfl (HOLe.refl _) (HLe.cons 4 rfl (HOLe.refl _) .nil))⟩
  · by_cases h0 : l = []
    · rw [if_pos h0] at hst
      subst h0
      subst hst
      repeat' (first | refine Awp.seq ?_ | refine Awp.block ?_ | refine Awp.region ?_ | (refine Ops.nil ?_; show Awp _ _ _ _ _) | (refine Awp.exit ?_; show Awp _ _ _ _ _) | refine o_len rfl TtOk rfl rfl rfl (fun _ => ?_) | (refine o_calm rfl TtOk rfl rfl rfl ?_ (fun _ => ?_); first | exact True.intro | exact ⟨rfl, rfl, rfl, rfl⟩ | exact ⟨rfl, True.intro⟩ | exact ⟨rfl, rfl⟩ | exact ⟨rfl, rfl, rfl⟩ | exact rfl | exact ⟨fun h0 => by cases h0, rfl⟩ | exact (fun h0 => by cases h0) | exact ⟨rfl, by omega⟩ | exact ⟨Nat.succ_ne_zero _, rfl⟩ | omega) | refine a_condF rfl ?_)
      refine Awp.loop (fun i : Nat => ⟨77, [(56, .i .i64 i), (55, .i .i64 L.length), (54, .sl 65 (L.map Lef.A)), (5, .sl 66 []), (4, .ptr 4 b4 [] 0), (6, .ptr 6 b6 [] 0)], [(6, .var b6 (.agg [.i .i64 0, lef0.A, itm0.R, itm0.R, .sl 66 (p.reverse.map Itm.R)])), (4, .var b4 (.agg [.i .i64 0, lef0.A, itm0.R, itm0.R, .nil]))]⟩) (fun i => i ≤ L.length) (fun i => L.length - i) [] 0 (Nat.zero_le _) ?_ ?_
      · exact ⟨rfl, ⟨sle_i rfl, sle_i rfl, sle_sl rfl, sle_sl rfl, sle_ptr, sle_ptr, True.intro⟩, HLe.cons 6 rfl (HOLe.refl _) (HLe.cons 4 rfl (HOLe.refl _) .nil)⟩
      intro i hi
      by_cases hlt : i < L.length
      · have hi1 : ((i : Int) + 1 = ((i + 1 : Nat) : Int)) := by omega
        repeat' (first | refine Awp.seq ?_ | refine Awp.block ?_ | refine Awp.region ?_ | (refine Ops.nil ?_; show Awp _ _ _ _ _) | (refine Ops.nil ?_; show Exists _) | (refine Awp.skip ?_; show Awp _ _ _ _ _) | refine o_offT rfl rfl rfl (by first | exact .inl rfl | exact .inr rfl) ?_ | (refine o_add rfl rfl rfl rfl ?_ ?_; omega) | (refine o_calm rfl TtOk rfl rfl rfl ?_ (fun _ => ?_); first | exact True.intro | exact ⟨rfl, rfl, rfl, rfl⟩ | exact ⟨rfl, True.intro⟩ | exact ⟨rfl, rfl⟩ | exact ⟨rfl, rfl, rfl⟩ | exact rfl | exact ⟨fun h0 => by cases h0, rfl⟩ | exact (fun h0 => by cases h0) | exact ⟨rfl, by omega⟩ | exact ⟨Nat.succ_ne_zero _, rfl⟩ | omega) | refine o_alloc (d := 11) rfl TtOk rfl rfl rfl (fun b11 => ?_) | refine o_store TtOk rfl rfl rfl rfl rfl rfl rfl ⟨rfl, rfl⟩ rfl rfl rfl rfl rfl ?_ | (refine o_index rfl TtOk rfl rfl rfl rfl rfl rfl ?_ (getq_nat ?_) ?_; omega; omega) | refine a_condF rfl ?_ | (refine a_condP rfl (fun hc => ?_) (fun hc => ?_)) <;> (try (exfalso; omega)) | refine a_any 18 [] [] [] [0, 1, 2, 3, 4, 6, 7, 8, 5, 9, 10, 11] (by kernel_rfl) (by kernel_rfl) (by kernel_rfl) rfl rfl rfl ?_)
        exact ⟨i + 1, [], hlt, by omega, rfl, ⟨sle_i hi1, sle_i rfl, sle_sl rfl, sle_sl rfl, sle_ptr, sle_ptr, True.intro⟩, HLe.cons 6 rfl (HOLe.refl _) (HLe.cons 4 rfl (HOLe.refl _) .nil)⟩
      · repeat' (first | refine Awp.seq ?_ | refine Awp.region ?_ | (refine Ops.nil ?_; show Awp _ _ _ _ _) | (refine Awp.exit ?_; show Awp _ _ _ _ _) | (refine Awp.ret ?_; show endK _ _ _ _ _) | (refine o_calm rfl TtOk rfl rfl rfl ?_ (fun _ => ?_); first | exact True.intro | exact ⟨rfl, rfl, rfl, rfl⟩ | exact ⟨rfl, True.intro⟩ | exact ⟨rfl, rfl⟩ | exact ⟨rfl, rfl, rfl⟩ | exact rfl | exact ⟨fun h0 => by cases h0, rfl⟩ | exact (fun h0 => by cases h0) | exact ⟨rfl, by omega⟩ | exact ⟨Nat.succ_ne_zero _, rfl⟩ | omega) | refine o_store TtOk rfl rfl rfl rfl rfl rfl rfl ⟨rfl, rfl⟩ rfl rfl rfl rfl rfl ?_ | (refine a_condP rfl (fun hc => ?_) (fun hc => ?_)) <;> (try (exfalso; omega)))
        refine end_all [] [] ((⟨0, lef0, itm0, itm0, p.reverse⟩ : Prf).R) rfl ?_ ?_ (rle_one (CLe.of_eq rfl) rfl) .nil ⟨rfl, rfl⟩ _ (.inl rfl)
        · repeat' (first | exact True.intro | exact rfl | refine ⟨?_, ?_⟩)
        · exact ⟨trivial, trivial⟩
    · rw [if_neg h0] at hst
      have hp : 0 < l.length := List.length_pos_iff.2 h0
      have h1 : l.length = 1 := by omega
      rw [if_pos h1] at hst
      obtain ⟨y, rfl⟩ := List.length_eq_one_iff.1 h1
      have hyL := hmL y (List.mem_cons_self ..)
      have hst : ⟨1, y, itm0, itm0, p.reverse⟩ = W := hst
      subst hst
      have hyl : (leafI y).l = y.l := rfl
      have hmap : [y].map leafI = [leafI y] := rfl
      rw [hmap]
      generalize leafI y = z at hyl ⊢
      repeat' (first | refine Awp.seq ?_ | refine Awp.block ?_ | refine Awp.region ?_ | (refine Ops.nil ?_; show Awp _ _ _ _ _) | (refine Awp.exit ?_; show Awp _ _ _ _ _) | refine o_len rfl TtOk rfl rfl rfl (fun _ => ?_) | (refine o_calm rfl TtOk rfl rfl rfl ?_ (fun _ => ?_); first | exact True.intro | exact ⟨rfl, rfl, rfl, rfl⟩ | exact ⟨rfl, True.intro⟩ | exact ⟨rfl, rfl⟩ | exact ⟨rfl, rfl, rfl⟩ | exact rfl | exact ⟨fun h0 => by cases h0, rfl⟩ | exact (fun h0 => by cases h0) | exact ⟨rfl, by omega⟩ | exact ⟨Nat.succ_ne_zero _, rfl⟩ | omega) | refine a_condF rfl ?_)
      refine Awp.loop (fun q : Nat × Int × Lef => ⟨77, [(56, .i .i64 q.1), (55, .i .i64 L.length), (54, .sl 65 (L.map Lef.A)), (5, .sl 66 ([z].map Itm.R)), (4, .ptr 4 b4 [] 0), (6, .ptr 6 b6 [] 0)], [(6, .var b6 (.agg [.i .i64 q.2.1, q.2.2.A, itm0.R, itm0.R, .sl 66 (p.reverse.map Itm.R)])), (4, .var b4 (.agg [.i .i64 0, lef0.A, itm0.R, itm0.R, .nil]))]⟩) (fun q => q.1 ≤ L.length ∧ (y ∈ L.take q.1 → q.2 = (1, y))) (fun q => L.length - q.1) [] (0, 0, lef0) ⟨Nat.zero_le _, fun h => by cases h⟩ ?_ ?_
      · exact ⟨rfl, ⟨sle_i rfl, sle_i rfl, sle_sl rfl, sle_sl rfl, sle_ptr, sle_ptr, True.intro⟩, HLe.cons 6 rfl (HOLe.refl _) (HLe.cons 4 rfl (HOLe.refl _) .nil)⟩
      rintro ⟨j, e, u⟩ ⟨hj, hz⟩
      dsimp only at hj hz ⊢
      by_cases hjl : j < L.length
      · have hj1 : ((j : Int) + 1 = ((j + 1 : Nat) : Int)) := by omega
        have htk : L.take (j + 1) = L.take j ++ [L[j]] := List.take_succ_eq_append_getElem hjl
        by_cases hq2 : L[j].l = y.l
        · have hje := uniq_lab2 hd (List.getElem_mem hjl) hyL hq2
          have hq3 : (L[j].l == ([z][0]).l) = true := by show (L[j].l == z.l) = true; rw [hyl, beq_iff_eq]; exact hq2
          repeat' (first | (rw [hq3]) | refine Awp.seq ?_ | refine Awp.block ?_ | refine Awp.region ?_ | (refine Ops.nil ?_; show Awp _ _ _ _ _) | (refine Ops.nil ?_; show Exists _) | (refine Awp.skip ?_; show Awp _ _ _ _ _) | (refine o_add rfl rfl rfl rfl ?_ ?_; omega) | refine o_len rfl TtOk rfl rfl rfl (fun _ => ?_) | (refine o_calm rfl TtOk rfl rfl rfl ?_ (fun _ => ?_); first | exact True.intro | exact ⟨rfl, rfl, rfl, rfl⟩ | exact ⟨rfl, True.intro⟩ | exact ⟨rfl, rfl⟩ | exact ⟨rfl, rfl, rfl⟩ | exact rfl | exact ⟨fun h0 => by cases h0, rfl⟩ | exact (fun h0 => by cases h0) | exact ⟨rfl, by omega⟩ | exact ⟨Nat.succ_ne_zero _, rfl⟩ | omega) | refine o_alloc (d := 11) rfl TtOk rfl rfl rfl (fun b11 => ?_) | refine o_store TtOk rfl rfl rfl rfl rfl rfl rfl ⟨rfl, rfl⟩ rfl rfl rfl rfl rfl ?_ | (refine o_index rfl TtOk rfl rfl rfl rfl rfl rfl ?_ (getq_nat ?_) ?_; omega; omega) | refine o_eqArr8 TtOk rfl rfl rfl rfl rfl rfl (by kernel_rfl) ?_ | refine a_condT rfl ?_ | (refine a_condP rfl (fun hc => ?_) (fun hc => ?_)) <;> (try (exfalso; omega)) | refine a_any 18 [] [] [] [0, 1, 2, 3, 4, 6, 7, 8, 5, 9, 10, 11] (by kernel_rfl) (by kernel_rfl) (by kernel_rfl) rfl rfl rfl ?_)
          exact ⟨(j + 1, 1, L[j]), [], ⟨hjl, fun _ => by rw [hje]⟩, by show L.length - (j + 1) < L.length - j; omega, rfl, ⟨sle_i hj1, sle_i rfl, sle_sl rfl, sle_sl rfl, sle_ptr, sle_ptr, True.intro⟩, HLe.cons 6 rfl (HOLe.var (CLe.of_eq rfl)) (HLe.cons 4 rfl (HOLe.refl _) .nil)⟩
        · have hq3 : (L[j].l == ([z][0]).l) = false := by show (L[j].l == z.l) = false; rw [hyl, beq_eq_false_iff_ne]; exact hq2
          repeat' (first | (rw [hq3]) | refine Awp.seq ?_ | refine Awp.block ?_ | refine Awp.region ?_ | (refine Ops.nil ?_; show Awp _ _ _ _ _) | (refine Ops.nil ?_; show Exists _) | (refine Awp.skip ?_; show Awp _ _ _ _ _) | (refine o_add rfl rfl rfl rfl ?_ ?_; omega) | refine o_len rfl TtOk rfl rfl rfl (fun _ => ?_) | (refine o_calm rfl TtOk rfl rfl rfl ?_ (fun _ => ?_); first | exact True.intro | exact ⟨rfl, rfl, rfl, rfl⟩ | exact ⟨rfl, True.intro⟩ | exact ⟨rfl, rfl⟩ | exact ⟨rfl, rfl, rfl⟩ | exact rfl | exact ⟨fun h0 => by cases h0, rfl⟩ | exact (fun h0 => by cases h0) | exact ⟨rfl, by omega⟩ | exact ⟨Nat.succ_ne_zero _, rfl⟩ | omega) | refine o_alloc (d := 11) rfl TtOk rfl rfl rfl (fun b11 => ?_) | refine o_store TtOk rfl rfl rfl rfl rfl rfl rfl ⟨rfl, rfl⟩ rfl rfl rfl rfl rfl ?_ | (refine o_index rfl TtOk rfl rfl rfl rfl rfl rfl ?_ (getq_nat ?_) ?_; omega; omega) | refine o_eqArr8 TtOk rfl rfl rfl rfl rfl rfl (by kernel_rfl) ?_ | refine a_condF rfl ?_ | (refine a_condP rfl (fun hc => ?_) (fun hc => ?_)) <;> (try (exfalso; omega)) | refine a_any 18 [] [] [] [0, 1, 2, 3, 4, 6, 7, 8, 5, 9, 10, 11] (by kernel_rfl) (by kernel_rfl) (by kernel_rfl) rfl rfl rfl ?_)
          exact ⟨(j + 1, e, u), [], ⟨hjl, fun h => hz (by
            rw [htk] at h
            rcases List.mem_append.1 h with h | h
            · exact h
            · exact absurd (by rw [← List.mem_singleton.1 h]) hq2)⟩, by show L.length - (j + 1) < L.length - j; omega, rfl, ⟨sle_i hj1, sle_i rfl, sle_sl rfl, sle_sl rfl, sle_ptr, sle_ptr, True.intro⟩, HLe.cons 6 rfl (HOLe.refl _) (HLe.cons 4 rfl (HOLe.refl _) .nil)⟩
      · have hje : j = L.length := by omega
        subst hje
        have hz := hz (by rw [List.take_length]; exact hyL)
        obtain ⟨rfl, rfl⟩ := Prod.mk.inj hz
        repeat' (first | refine Awp.seq ?_ | refine Awp.region ?_ | (refine Ops.nil ?_; show Awp _ _ _ _ _) | (refine Awp.exit ?_; show Awp _ _ _ _ _) | (refine Awp.ret ?_; show endK _ _ _ _ _) | (refine o_calm rfl TtOk rfl rfl rfl ?_ (fun _ => ?_); first | exact True.intro | exact ⟨rfl, rfl, rfl, rfl⟩ | exact ⟨rfl, True.intro⟩ | exact ⟨rfl, rfl⟩ | exact ⟨rfl, rfl, rfl⟩ | exact rfl | exact ⟨fun h0 => by cases h0, rfl⟩ | exact (fun h0 => by cases h0) | exact ⟨rfl, by omega⟩ | exact ⟨Nat.succ_ne_zero _, rfl⟩ | omega) | refine o_store TtOk rfl rfl rfl rfl rfl rfl rfl ⟨rfl, rfl⟩ rfl rfl rfl rfl rfl ?_ | (refine a_condP rfl (fun hc => ?_) (fun hc => ?_)) <;> (try (exfalso; omega)))
        refine end_all [] [] ((⟨1, u, itm0, itm0, p.reverse⟩ : Prf).R) rfl ?_ ?_ (rle_one (CLe.of_eq rfl) rfl) .nil ⟨rfl, rfl⟩ _ (.inl rfl)
        · repeat' (first | exact True.intro | exact rfl | refine ⟨?_, ?_⟩)
        · exact ⟨trivial, trivial⟩
end Go.Proofs.Ytcmgpkibjdbonaa
