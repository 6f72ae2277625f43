/- proof.Summed, Clash, Extract by rules. -/
import Derived.Test.YtcmgpkibjdbonaaGreatPF4Z
import Derived.Test.YtcmgpkibjdbonaaGreatPP2Z
set_option maxHeartbeats 16000000
set_option maxRecDepth 100000
namespace Go.Proofs.YtcmgpkibjdbonaaGreat
open Go Go.RowKit
theorem nod_txt_len {n : Nod} (h : n.gd) : n.txt.length ≤ 1000 := by
  cases n with
  | no => exact absurd h (fun h => h)
  | lf x => exact leafB_len x h.1
  | inn a b => exact innB_len a b h.1 h.2.1
theorem summed_spec (n : Nod) (h : n.gd) : Spec Tryz.prog 24 [n.A] [] (fun v os => v = .s n.txt ∧ os = []) := by
  cases n with
  | no => exact absurd h (fun h => h)
  | lf x =>
    have h1 := leafB_spec x h.1
    show Spec Tryz.prog 24 [.ifc 46 x.A] [] (fun v os => v = .s (leafB x) ∧ os = [])
    generalize leafB x = s at h1 ⊢
    refine spec_of TtOk [] Tryz.func24 rfl Tryz.ntmps24 (by kernel_rfl) rfl rfl (fun C => ?_) rfl
    repeat' (first | refine Awp.seq ?_ | refine Awp.block ?_ | refine Awp.region ?_ | refine Ops.nil (nqA ?_) | refine Awp.ret (nqE ?_) | (refine o_calm rfl TtOk rfl rfl rfl ?_ (fun _ => ?_); exact nd) | refine o_alloc (d := 3) rfl TtOk rfl rfl rfl (fun b3 => ?_) | refine o_store TtOk rfl rfl rfl rfl rfl rfl rfl ⟨rfl, rfl⟩ rfl rfl rfl rfl rfl ?_ | refine a_condT rfl ?_ | (refine o_assertT TtOk rfl rfl rfl rfl rfl rfl ?_) | refine o_callE rfl (h1) ⟨nqS, True.intro⟩ rfl ?_)
    exact nq2
  | inn a b =>
    have h1 := innB_spec a b h.1 h.2.1
    show Spec Tryz.prog 24 [.ifc 52 (.agg [a.A, b.A])] [] (fun v os => v = .s (innB a b) ∧ os = [])
    generalize innB a b = s at h1 ⊢
    refine spec_of TtOk [] Tryz.func24 rfl Tryz.ntmps24 (by kernel_rfl) rfl rfl (fun C => ?_) rfl
    repeat' (first | refine Awp.seq ?_ | refine Awp.block ?_ | refine Awp.region ?_ | refine Ops.nil (nqA ?_) | refine Awp.ret (nqE ?_) | (refine o_calm rfl TtOk rfl rfl rfl ?_ (fun _ => ?_); exact nd) | refine o_alloc (d := 4) rfl TtOk rfl rfl rfl (fun b4 => ?_) | refine o_store TtOk rfl rfl rfl rfl rfl rfl rfl ⟨rfl, rfl⟩ rfl rfl rfl rfl rfl ?_ | refine a_condT rfl ?_ | refine a_condF rfl ?_ | (refine o_assertT TtOk rfl rfl rfl rfl rfl rfl ?_) | (refine o_assertF TtOk rfl rfl rfl rfl rfl rfl rfl ?_) | refine o_callE rfl (h1) ⟨nqS, True.intro⟩ rfl ?_)
    exact nq2
theorem clash_spec (a b : List UInt8) (ha : a.length ≤ 1000) (hb : b.length ≤ 1000) : Spec Tryz.prog 25 [.s a, .s b] [] (fun v os => v = .b (clsh a b) ∧ os = []) := by
  refine spec_of TtOk [] Tryz.func25 rfl Tryz.ntmps25 (by kernel_rfl) rfl rfl (fun C => ?_) rfl
  have h1 := sum_spec a (by omega)
  have h2 := sum_spec b (by omega)
  unfold clsh
  have hn : (a != b) = (!(a == b)) := rfl
  rw [hn]
  generalize shaN a = x at *
  generalize shaN b = y at *
  obtain ⟨r, hq⟩ : ∃ r, (a == b) = r := ⟨_, rfl⟩
  rw [hq]
  cases r with
  | true =>
    have hq2 : (!(a == b)) = false := by rw [hq]; rfl
    repeat' (first | (rw [hq2]) | refine Awp.seq ?_ | refine Awp.region ?_ | refine Ops.nil (nqA ?_) | refine Awp.ret (nqE ?_) | refine o_noT rfl rfl rfl ?_ | (refine o_calm rfl TtOk rfl rfl rfl ?_ (fun _ => ?_); exact nd))
    all_goals exact nq2
  | false =>
    have hq2 : (!(a == b)) = true := by rw [hq]; rfl
    repeat' (first | (rw [hq2]) | refine Awp.seq ?_ | refine Awp.region ?_ | refine Ops.nil (nqA ?_) | refine Awp.ret (nqE ?_) | (refine o_calm rfl TtOk rfl rfl rfl ?_ (fun _ => ?_); exact nd) | refine o_eqArr8 TtOk rfl rfl rfl rfl rfl rfl (by kernel_rfl) ?_ | refine o_callE rfl (h1) ⟨nqS, True.intro⟩ rfl ?_ | refine o_callE rfl (h2) ⟨nqS, True.intro⟩ rfl ?_)
    all_goals exact nq2
def exP (L : List Lef) (p : Prf) (lb : List UInt8) : List UInt8 × List UInt8 × Bool := if (ndsF p lb).2 ≠ 0 ∨ mkE L ≠ 0 then ([], [], false) else exC (ndsF p lb).1.reverse (srtL L) lb
theorem rlT_len {l : List Lef} (h : Rsn l) : (rlT l).length ≤ 1000 := by
  by_cases hn : l = []
  · subst hn; show [18].length ≤ 1000; decide
  · obtain ⟨g1, g2, _⟩ := h.node hn
    rw [← g2]; exact nod_txt_len g1
theorem Chain.all {lb : List UInt8} : ∀ {c : List Nod}, Chain lb c → ∀ n ∈ c, n.gd
  | [], h, n, hn => by cases hn
  | [m], h, n, hn => by rw [List.mem_singleton.1 hn]; exact h.1
  | m :: q :: r, h, n, hn => by
    rcases List.mem_cons.1 hn with rfl | hn
    · exact h.1
    · exact Chain.all h.2.2 n hn
theorem exL_rev {N : List Nod} {k : Nat} (hk : k < N.length) (l : List Lef) (lb : List UInt8) : exL (N.take (k + 1)).reverse l lb = if N[k].txt = rlT l then exL (N.take k).reverse (sdL l lb) lb else (N[k].txt, rlT l, clsh N[k].txt (rlT l)) := by
  rw [List.take_succ_eq_append_getElem hk, List.reverse_append]
  show exL (N[k] :: (N.take k).reverse) l lb = _
  rw [exL]
theorem nod_ifc {n : Nod} (h : n.gd) : ∃ T Y, n.A = .ifc T Y := by
  cases n with
  | no => exact absurd h (fun h => h)
  | lf x => exact ⟨_, _, rfl⟩
  | inn a b => exact ⟨_, _, rfl⟩
theorem pextract_spec (L : List Lef) (lb : List UInt8) (p : Prf) (hl : L.length ≤ 10000) (hok : ∀ x ∈ L, x.ok) (hlb : lb.length = 32) (hpk : p.ok) (hpl : p.path.length ≤ 100000) : Spec Tryz.prog 20 [.sl 65 (L.map Lef.A), labA lb, p.A] [] (fun v os => v = .tup [.s (exP L p lb).1, .s (exP L p lb).2.1, .b (exP L p lb).2.2] ∧ os = []) := by
  have h1 := psorted_spec L (by omega)
  have hok2 : ∀ x ∈ srtL L, x.ok := fun x hx => hok x (srtL_mem.1 hx)
  have hsl := srtL_len L
  have h2 := of_spec (srtL L) (by omega) hok2
  rw [itms_srt] at h2
  have hio : ∀ x ∈ itmsL L, x.ok := fun x hx => by
    obtain ⟨y, hy, rfl⟩ := List.mem_map.1 (srtI_mem.1 hx)
    exact leafI_ok y (hok y hy)
  have hil : (itmsL L).length = L.length := by unfold itmsL; rw [srtI_len, List.length_map]
  have h3 := pcheck_spec (itmsL L) (by omega) hio
  rw [show chkI (itmsL L) = mkE L from rfl] at h3
  have hn := pnodes_spec p hpk hpl lb hlb
  have hch := fun h => nds_chain (lb := lb) hpk h
  have hR := fun hc => rsn_srt hok hc
  obtain ⟨N, x, hN⟩ : ∃ N x, ndsF p lb = (N, x) := ⟨_, _, rfl⟩
  unfold exP
  rw [hN] at hn hch ⊢
  have hR : mkE L = 0 → Rsn (srtL L) := hR
  obtain ⟨e, lf, a, b, path⟩ := p
  dsimp only at hn hch hpl ⊢
  have hpA : Prf.A ⟨e, lf, a, b, path⟩ = .agg [.i .i64 e, lf.A, .agg [a.A, b.A], .sl 66 (path.map Itm.A)] := rfl
  rw [hpA] at hn ⊢
  clear hN hil hio hpA
  generalize mkE L = c at *
  generalize itmsL L = I at *
  generalize srtL L = S at *
  have h4 := clash_spec
  refine spec_of TtOk [] Tryz.func20 rfl Tryz.ntmps20 (by kernel_rfl) rfl rfl (fun C => ?_) rfl
  by_cases hx : x ≠ 0
  · rw [if_pos (.inl hx)]
    repeat' (first | refine Awp.seq ?_ | refine Awp.region ?_ | refine Ops.nil (nqA ?_) | refine Awp.ret (nqE ?_) | refine o_noF rfl rfl rfl ?_ | (refine o_calm rfl TtOk rfl rfl rfl ?_ (fun _ => ?_); exact nd) | refine o_box (d := 4) rfl rfl rfl rfl (fun b4 => ?_) | refine o_box (d := 5) rfl rfl rfl rfl (fun b5 => ?_) | (fail_if_success (refine o_isLit rfl (by first | exact .inl rfl | exact .inr rfl) ?_)); (refine o_splitN rfl rfl (fun hc => ?_) (fun hc => ?_) <;> try (exfalso; omega)) | refine a_condT rfl ?_ | refine o_callE rfl (h1) ⟨nqS, True.intro⟩ rfl ?_ | refine o_callE rfl (hn) ⟨nqS, nqS, True.intro⟩ rfl ?_)
    all_goals
      refine end_all [] [] (.tup [.s [], .s [], .b false]) rfl ?_ ?_ (rle_tup3c (CLe.of_eq rfl) (CLe.of_eq rfl) (CLe.of_eq rfl) rfl rfl rfl) .nil ⟨rfl, rfl⟩ _ (.inl rfl)
      · exact nq1
      · exact ⟨trivial, trivial, trivial, trivial⟩
  by_cases hc : c ≠ 0
  · rw [if_pos (.inr hc)]
    repeat' (first | refine Awp.seq ?_ | refine Awp.region ?_ | refine Ops.nil (nqA ?_) | refine Awp.ret (nqE ?_) | (refine o_calm rfl TtOk rfl rfl rfl ?_ (fun _ => ?_); exact nd) | refine o_box (d := 4) rfl rfl rfl rfl (fun b4 => ?_) | refine o_box (d := 5) rfl rfl rfl rfl (fun b5 => ?_) | (fail_if_success (refine o_isLit rfl (by first | exact .inl rfl | exact .inr rfl) ?_)); (refine o_splitN rfl rfl (fun hc => ?_) (fun hc => ?_) <;> try (exfalso; omega)) | (refine a_condN rfl (fun hc => ?_) (fun hc => ?_)) <;> (try (exfalso; omega)) | refine o_callE rfl (h1) ⟨nqS, True.intro⟩ rfl ?_ | refine o_callE rfl (hn) ⟨nqS, nqS, True.intro⟩ rfl ?_ | refine o_callE rfl (h2) ⟨nqS, True.intro⟩ rfl ?_ | refine o_callE rfl (h3) ⟨nqS, True.intro⟩ rfl ?_)
    all_goals
      refine end_all [] [] (.tup [.s [], .s [], .b false]) rfl ?_ ?_ (rle_tup3c (CLe.of_eq rfl) (CLe.of_eq rfl) (CLe.of_eq rfl) rfl rfl rfl) .nil ⟨rfl, rfl⟩ _ (.inl rfl)
      · exact nq1
      · exact ⟨trivial, trivial, trivial, trivial⟩
  have hx := Decidable.not_not.1 hx
  have hc := Decidable.not_not.1 hc
  rw [if_neg (fun h => h.elim (fun h => h hx) (fun h => h hc))]
  subst hx
  subst hc
  have hR := hR rfl
  have hch := hch rfl
  clear hok2
  have hlabA : labA lb = .arr 1 32 (lb.map byA) := rfl
  by_cases hN0 : N = []
  · subst hN0
    obtain ⟨W, hW⟩ : ∃ W, exC ([] : List Nod).reverse S lb = W := ⟨_, rfl⟩
    rw [hW]
    have hW : (if [18] = rlT S then ([], [], false) else ([18], rlT S, clsh [18] (rlT S))) = W := hW
    clear hch
    repeat' (first | refine Awp.seq ?_ | refine Awp.block ?_ | refine Awp.region ?_ | refine Ops.nil (nqA ?_) | refine Awp.skip (nqA ?_) | (refine o_sub rfl rfl rfl rfl ?_ ?_; omega) | refine o_len rfl TtOk rfl rfl rfl (fun _ => ?_) | (refine o_calm rfl TtOk rfl rfl rfl ?_ (fun _ => ?_); exact nd) | refine o_box (d := 4) rfl rfl rfl rfl (fun b4 => ?_) | refine o_box (d := 5) rfl rfl rfl rfl (fun b5 => ?_) | refine a_condF rfl ?_ | refine o_callE rfl (h1) ⟨nqS, True.intro⟩ rfl ?_ | refine o_callE rfl (hn) ⟨nqS, nqS, True.intro⟩ rfl ?_ | refine o_callE rfl (h2) ⟨nqS, True.intro⟩ rfl ?_ | refine o_callE rfl (h3) ⟨nqS, True.intro⟩ rfl ?_)
    refine Awp.loop (fun k : Nat => ⟨98, [(12, .i .i64 (-1 - (k : Int))), (9, .sl 65 (S.map Lef.A)), (10, .sl 1 (([] : List Nod).map Nod.A)), (4, .ptr 4 b4 [] 0)], [(4, .var b4 (labA lb))]⟩) (fun k => k ≤ 1 ∧ (k = 1 → W = ([], [], false))) (fun k => 1 - k) [] 0 ⟨Nat.zero_le _, fun h => by cases h⟩ ?_ ?_
    · exact ⟨rfl, ⟨sle_i rfl, sle_sl rfl, sle_sl rfl, sle_ptr, True.intro⟩, HLe.cons 4 rfl (HOLe.refl _) .nil⟩
    clear h1 hn h2 h3
    intro k hk
    by_cases hk1 : k = 1
    · have hWe := hk.2 hk1
      clear hW
      subst hWe
      subst hk1
      repeat' (first | refine Awp.seq ?_ | refine Awp.region ?_ | refine Ops.nil (nqA ?_) | refine Awp.exit (nqA ?_) | refine Awp.ret (nqE ?_) | (refine o_calm rfl TtOk rfl rfl rfl ?_ (fun _ => ?_); exact nd) | refine a_condF rfl ?_)
      all_goals
        refine end_all [] [] (.tup [.s [], .s [], .b false]) rfl ?_ ?_ (rle_tup3c (CLe.of_eq rfl) (CLe.of_eq rfl) (CLe.of_eq rfl) rfl rfl rfl) .nil ⟨rfl, rfl⟩ _ (.inl rfl)
        · exact nq1
        · exact ⟨trivial, trivial, trivial, trivial⟩
    · have hk0 : k = 0 := by omega
      subst hk0
      clear hk
      by_cases hl0 : S = []
      · subst hl0
        have hW : ([], [], false) = W := hW
        have hq2 : (!(([18] : List UInt8) == [18])) = false := rfl
        repeat' (first | (rw [hq2]) | refine Awp.seq ?_ | refine Awp.block ?_ | refine Awp.region ?_ | refine Ops.nil (nqA ?_) | refine Ops.nil (nqX ?_) | refine Awp.skip (nqA ?_) | (refine o_sub rfl rfl rfl rfl ?_ ?_; omega) | refine o_len rfl TtOk rfl rfl rfl (fun _ => ?_) | (refine o_calm rfl TtOk rfl rfl rfl ?_ (fun _ => ?_); exact nd) | refine o_buildSlice TtOk rfl rfl rfl rfl rfl rfl rfl rfl rfl rfl rfl nq1 (fun _ => ?_) | refine a_condT rfl ?_ | refine a_condF rfl ?_ | (refine Ops.nil ?_; show AnyT _ _ _ _ _ _ _ _ _ _) | refine a_anyT 8 [] [] [] (by kernel_rfl) (by kernel_rfl) (n := 6) (listed := [false, false, false, false, false, false].toArray) rfl (by kernel_rfl) ?_ | refine t_two (n := 6) (listed := [false, false, false, false, false, false].toArray) 0 2 [true, false, false, false, false, false] [false, false, true, false, false, false] rfl (by kernel_rfl) rfl rfl (by kernel_rfl) (by kernel_rfl) ?_ ?_ | refine t_path (n := 5) (listed := [true, false, false, false, false, false].toArray) [1, 4, 2, 3, 5] 0 [true, true, true, true, true, true] (by kernel_rfl) rfl rfl rfl (by kernel_rfl) ?_ | refine t_fin (n := 0) (listed := [true, true, true, true, true, true].toArray) (by kernel_rfl) ?_ | refine t_path (n := 5) (listed := [false, false, true, false, false, false].toArray) [3, 0, 1, 4, 5] 0 [true, true, true, true, true, true] (by kernel_rfl) rfl rfl rfl (by kernel_rfl) ?_ | (refine o_toString (s := [18]) TtOk rfl rfl rfl rfl rfl (by first | exact True.intro | exact rfl) rfl rfl rfl rfl ?_))
        all_goals
          exact ⟨1, [], ⟨Nat.le_refl _, fun _ => hW.symm⟩, Nat.zero_lt_one, rfl, ⟨sle_i rfl, sle_sl rfl, sle_sl rfl, sle_ptr, True.intro⟩, HLe.cons 4 rfl (HOLe.refl _) .nil⟩
      have hne := rlT_18 hR hl0
      have hrl := rlT_len hR
      rw [if_neg hne] at hW
      subst hW
      have hcl := h4 [18] (rlT S) (by decide) hrl
      have hq2 : (!([18] == rlT S)) = true := by rw [beq_eq_false_iff_ne.2 hne]; rfl
      have hp : 0 < S.length := List.length_pos_iff.2 hl0
      by_cases hl1 : S.length = 1
      · have hyg := (hR.node hl0).1
        have hN1 : rlN S = .lf S[0] := by
          obtain ⟨y, rfl⟩ := List.length_eq_one_iff.1 hl1
          rfl
        rw [hN1] at hyg
        have hs2 := summed_spec (.lf S[0]) hyg
        have hrt : (Nod.lf S[0]).txt = rlT S := by rw [← hN1]; exact (hR.node hl0).2.1
        rw [hrt] at hs2
        have hs2 : Spec Tryz.prog 24 [.ifc 46 S[0].A] [] (fun v os => v = .s (rlT S) ∧ os = []) := hs2
        clear hyg hN1 hrt
        generalize rlT S = r at *
        repeat' (first | (rw [hq2]) | refine Awp.seq ?_ | refine Awp.block ?_ | refine Awp.region ?_ | refine Ops.nil (nqA ?_) | refine Awp.skip (nqA ?_) | refine Awp.ret (nqE ?_) | refine o_len rfl TtOk rfl rfl rfl (fun _ => ?_) | (refine o_calm rfl TtOk rfl rfl rfl ?_ (fun _ => ?_); exact nd) | (refine o_index rfl TtOk rfl rfl rfl rfl rfl rfl ?_ (getq_nat ?_) ?_; omega; omega) | refine o_buildSlice TtOk rfl rfl rfl rfl rfl rfl rfl rfl rfl rfl rfl nq1 (fun _ => ?_) | refine a_condT rfl ?_ | refine a_condF rfl ?_ | (refine a_condP rfl (fun hc => ?_) (fun hc => ?_)) <;> (try (exfalso; omega)) | (refine Ops.nil ?_; show AnyT _ _ _ _ _ _ _ _ _ _) | refine a_anyT 8 [] [] [] (by kernel_rfl) (by kernel_rfl) (n := 6) (listed := [false, false, false, false, false, false].toArray) rfl (by kernel_rfl) ?_ | refine t_two (n := 6) (listed := [false, false, false, false, false, false].toArray) 0 2 [true, false, false, false, false, false] [false, false, true, false, false, false] rfl (by kernel_rfl) rfl rfl (by kernel_rfl) (by kernel_rfl) ?_ ?_ | refine t_path (n := 5) (listed := [true, false, false, false, false, false].toArray) [1, 4, 2, 3, 5] 0 [true, true, true, true, true, true] (by kernel_rfl) rfl rfl rfl (by kernel_rfl) ?_ | refine t_fin (n := 0) (listed := [true, true, true, true, true, true].toArray) (by kernel_rfl) ?_ | refine t_path (n := 5) (listed := [false, false, true, false, false, false].toArray) [3, 0, 1, 4, 5] 0 [true, true, true, true, true, true] (by kernel_rfl) rfl rfl rfl (by kernel_rfl) ?_ | (refine o_toString (s := [18]) TtOk rfl rfl rfl rfl rfl (by first | exact True.intro | exact rfl) rfl rfl rfl rfl ?_) | (refine o_mkIface TtOk rfl rfl rfl rfl rfl rfl ?_) | refine o_callE rfl (hs2) ⟨nqS, True.intro⟩ rfl ?_ | refine o_callE rfl (hcl) ⟨nqS, nqS, True.intro⟩ rfl ?_)
        all_goals
          refine end_all [] [] (.tup [.s [18], .s r, .b (clsh [18] r)]) rfl ?_ ?_ (rle_tup3c (CLe.of_eq rfl) (CLe.of_eq rfl) (CLe.of_eq rfl) rfl rfl rfl) .nil ⟨rfl, rfl⟩ _ (.inl rfl)
          · exact nq1
          · exact ⟨trivial, trivial, trivial, trivial⟩
      · have h2l : 2 ≤ S.length := by omega
        have hSd := hR.sides h2l
        have hpr := ppair_spec S h2l (by omega) hR.rise hR.ok
        have hs2 := summed_spec (.inn (parA (S.map leafI)) (parB (S.map leafI))) ⟨hSd.oA, hSd.oB, hSd.chk⟩
        have hrt : (Nod.inn (parA (S.map leafI)) (parB (S.map leafI))).txt = rlT S := by unfold rlT; rw [if_neg hl0, if_neg hl1]; rfl
        rw [hrt] at hs2
        have hs2 : Spec Tryz.prog 24 [.ifc 52 (.agg [(parA (S.map leafI)).A, (parB (S.map leafI)).A])] [] (fun v os => v = .s (rlT S) ∧ os = []) := hs2
        clear hrt hSd
        generalize rlT S = r at *
        generalize parA (S.map leafI) = u at *
        generalize parB (S.map leafI) = v at *
        repeat' (first | (rw [hq2]) | refine Awp.seq ?_ | refine Awp.block ?_ | refine Awp.region ?_ | refine Ops.nil (nqA ?_) | refine Awp.skip (nqA ?_) | refine Awp.ret (nqE ?_) | refine o_len rfl TtOk rfl rfl rfl (fun _ => ?_) | (refine o_calm rfl TtOk rfl rfl rfl ?_ (fun _ => ?_); exact nd) | refine o_buildSlice TtOk rfl rfl rfl rfl rfl rfl rfl rfl rfl rfl rfl nq1 (fun _ => ?_) | refine a_condT rfl ?_ | refine a_condF rfl ?_ | (refine a_condP rfl (fun hc => ?_) (fun hc => ?_)) <;> (try (exfalso; omega)) | (refine Ops.nil ?_; show AnyT _ _ _ _ _ _ _ _ _ _) | refine a_anyT 8 [] [] [] (by kernel_rfl) (by kernel_rfl) (n := 6) (listed := [false, false, false, false, false, false].toArray) rfl (by kernel_rfl) ?_ | refine t_two (n := 6) (listed := [false, false, false, false, false, false].toArray) 0 2 [true, false, false, false, false, false] [false, false, true, false, false, false] rfl (by kernel_rfl) rfl rfl (by kernel_rfl) (by kernel_rfl) ?_ ?_ | refine t_path (n := 5) (listed := [true, false, false, false, false, false].toArray) [1, 4, 2, 3, 5] 0 [true, true, true, true, true, true] (by kernel_rfl) rfl rfl rfl (by kernel_rfl) ?_ | refine t_fin (n := 0) (listed := [true, true, true, true, true, true].toArray) (by kernel_rfl) ?_ | refine t_path (n := 5) (listed := [false, false, true, false, false, false].toArray) [3, 0, 1, 4, 5] 0 [true, true, true, true, true, true] (by kernel_rfl) rfl rfl rfl (by kernel_rfl) ?_ | (refine o_toString (s := [18]) TtOk rfl rfl rfl rfl rfl (by first | exact True.intro | exact rfl) rfl rfl rfl rfl ?_) | (refine o_mkIface TtOk rfl rfl rfl rfl rfl rfl ?_) | refine o_callE rfl (hs2) ⟨nqS, True.intro⟩ rfl ?_ | refine o_callE rfl (hpr) ⟨nqS, True.intro⟩ rfl ?_ | refine o_callE rfl (hcl) ⟨nqS, nqS, True.intro⟩ rfl ?_)
        all_goals
          refine end_all [] [] (.tup [.s [18], .s r, .b (clsh [18] r)]) rfl ?_ ?_ (rle_tup3c (CLe.of_eq rfl) (CLe.of_eq rfl) (CLe.of_eq rfl) rfl rfl rfl) .nil ⟨rfl, rfl⟩ _ (.inl rfl)
          · exact nq1
          · exact ⟨trivial, trivial, trivial, trivial⟩
  · obtain ⟨W, hW⟩ : ∃ W, exC N.reverse S lb = W := ⟨_, rfl⟩
    rw [hW]
    have hW : exL N.reverse S lb = W := by rw [← hW]; exact (if_neg (fun h => hN0 (List.reverse_eq_nil_iff.1 h))).symm
    have hall : ∀ n ∈ N, n.gd := fun n hn => by
      rcases hch with ⟨_, h, _⟩ | ⟨_, h, _⟩
      · exact absurd h hN0
      · exact h.all n (List.mem_reverse.2 hn)
    have hNp : 0 < N.length := List.length_pos_iff.2 hN0
    clear hch
    repeat' (first | refine Awp.seq ?_ | refine Awp.block ?_ | refine Awp.region ?_ | refine Ops.nil (nqA ?_) | refine Awp.skip (nqA ?_) | (refine o_sub rfl rfl rfl rfl ?_ ?_; omega) | refine o_len rfl TtOk rfl rfl rfl (fun _ => ?_) | (refine o_calm rfl TtOk rfl rfl rfl ?_ (fun _ => ?_); exact nd) | refine o_box (d := 4) rfl rfl rfl rfl (fun b4 => ?_) | refine o_box (d := 5) rfl rfl rfl rfl (fun b5 => ?_) | refine a_condF rfl ?_ | refine o_callE rfl (h1) ⟨nqS, True.intro⟩ rfl ?_ | refine o_callE rfl (hn) ⟨nqS, nqS, True.intro⟩ rfl ?_ | refine o_callE rfl (h2) ⟨nqS, True.intro⟩ rfl ?_ | refine o_callE rfl (h3) ⟨nqS, True.intro⟩ rfl ?_)
    refine Awp.loop (fun q : Nat × List Lef => ⟨98, [(12, .i .i64 ((q.1 : Int) - 1)), (9, .sl 65 (q.2.map Lef.A)), (10, .sl 1 (N.map Nod.A)), (4, .ptr 4 b4 [] 0)], [(4, .var b4 (labA lb))]⟩) (fun q => q.1 ≤ N.length ∧ (q.2.length ≤ 10000 ∧ Rsn q.2) ∧ exL (N.take q.1).reverse q.2 lb = W) (fun q => q.1) [] (N.length, S) ⟨Nat.le_refl _, ⟨by show S.length ≤ 10000; omega, hR⟩, by rw [List.take_length]; exact hW⟩ ?_ ?_
    · exact ⟨rfl, ⟨sle_i rfl, sle_sl rfl, sle_sl rfl, sle_ptr, True.intro⟩, HLe.cons 4 rfl (HOLe.refl _) .nil⟩
    clear h1 hn h2 h3 hR hW hsl
    rintro ⟨k', l⟩ ⟨hk', ⟨hl', h⟩, hst⟩
    dsimp only at hk' hl' h hst ⊢
    cases k' with
    | zero =>
      have hst : (([], [], false) : List UInt8 × List UInt8 × Bool) = W := hst
      subst hst
      repeat' (first | refine Awp.seq ?_ | refine Awp.block ?_ | refine Awp.region ?_ | refine Ops.nil (nqA ?_) | refine Awp.skip (nqA ?_) | refine Awp.exit (nqA ?_) | refine Awp.ret (nqE ?_) | refine o_len rfl TtOk rfl rfl rfl (fun _ => ?_) | (refine o_calm rfl TtOk rfl rfl rfl ?_ (fun _ => ?_); exact nd) | refine o_buildSlice TtOk rfl rfl rfl rfl rfl rfl rfl rfl rfl rfl rfl nq1 (fun _ => ?_) | refine a_condT rfl ?_ | refine a_condF rfl ?_ | (refine a_condP rfl (fun hc => ?_) (fun hc => ?_)) <;> (try (exfalso; omega)) | (refine Ops.nil ?_; show AnyT _ _ _ _ _ _ _ _ _ _) | refine a_anyT 8 [] [] [] (by kernel_rfl) (by kernel_rfl) (n := 6) (listed := [false, false, false, false, false, false].toArray) rfl (by kernel_rfl) ?_ | refine t_two (n := 6) (listed := [false, false, false, false, false, false].toArray) 0 2 [true, false, false, false, false, false] [false, false, true, false, false, false] rfl (by kernel_rfl) rfl rfl (by kernel_rfl) (by kernel_rfl) ?_ ?_ | refine t_path (n := 5) (listed := [true, false, false, false, false, false].toArray) [1, 4, 2, 3, 5] 0 [true, true, true, true, true, true] (by kernel_rfl) rfl rfl rfl (by kernel_rfl) ?_ | refine t_fin (n := 0) (listed := [true, true, true, true, true, true].toArray) (by kernel_rfl) ?_ | refine t_path (n := 5) (listed := [false, false, true, false, false, false].toArray) [3, 0, 1, 4, 5] 0 [true, true, true, true, true, true] (by kernel_rfl) rfl rfl rfl (by kernel_rfl) ?_ | (refine o_toString (s := [18]) TtOk rfl rfl rfl rfl rfl (by first | exact True.intro | exact rfl) rfl rfl rfl rfl ?_))
      all_goals
        refine end_all [] [] (.tup [.s [], .s [], .b false]) rfl ?_ ?_ (rle_tup3c (CLe.of_eq rfl) (CLe.of_eq rfl) (CLe.of_eq rfl) rfl rfl rfl) .nil ⟨rfl, rfl⟩ _ (.inl rfl)
        · exact nq1
        · exact ⟨trivial, trivial, trivial, trivial⟩
    | succ k =>
      have hkN : k < N.length := by omega
      have hgk := hall _ (List.getElem_mem hkN)
      have hsu := summed_spec N[k] hgk
      have htl := nod_txt_len hgk
      obtain ⟨tT, tY, hA⟩ := nod_ifc hgk
      rw [hA] at hsu
      have hrl := rlT_len h
      have hcl := h4 N[k].txt (rlT l) htl hrl
      rw [exL_rev hkN] at hst
      have hk1 : (((k + 1 : Nat) : Int) - 1 ≥ 0) := by omega
      by_cases hl0 : l = []
      · subst hl0
        have hr : rlT [] = [18] := rfl
        have he : N[k].txt ≠ [18] := nod_18 hgk
        rw [hr] at hst hcl
        rw [if_neg he] at hst
        clear hall
        generalize N[k].txt = t at *
        have hq2 : (!(t == [18])) = true := by rw [beq_eq_false_iff_ne.2 he]; rfl
        subst hst
        repeat' (first | (rw [hq2]) | (rw [hA]) | refine Awp.seq ?_ | refine Awp.block ?_ | refine Awp.region ?_ | refine Ops.nil (nqA ?_) | refine Awp.skip (nqA ?_) | refine Awp.ret (nqE ?_) | refine o_len rfl TtOk rfl rfl rfl (fun _ => ?_) | (refine o_calm rfl TtOk rfl rfl rfl ?_ (fun _ => ?_); exact nd) | refine o_buildSlice TtOk rfl rfl rfl rfl rfl rfl rfl rfl rfl rfl rfl nq1 (fun _ => ?_) | refine a_condT rfl ?_ | (refine a_condP rfl (fun hc => ?_) (fun hc => ?_)) <;> (try (exfalso; omega)) | (refine Ops.nil ?_; show AnyT _ _ _ _ _ _ _ _ _ _) | refine a_anyT 8 [] [] [] (by kernel_rfl) (by kernel_rfl) (n := 6) (listed := [false, false, false, false, false, false].toArray) rfl (by kernel_rfl) ?_ | refine t_two (n := 6) (listed := [false, false, false, false, false, false].toArray) 0 2 [true, false, false, false, false, false] [false, false, true, false, false, false] rfl (by kernel_rfl) rfl rfl (by kernel_rfl) (by kernel_rfl) ?_ ?_ | refine t_path (n := 5) (listed := [true, false, false, false, false, false].toArray) [1, 4, 2, 3, 5] 0 [true, true, true, true, true, true] (by kernel_rfl) rfl rfl rfl (by kernel_rfl) ?_ | refine t_fin (n := 0) (listed := [true, true, true, true, true, true].toArray) (by kernel_rfl) ?_ | refine t_path (n := 5) (listed := [false, false, true, false, false, false].toArray) [3, 0, 1, 4, 5] 0 [true, true, true, true, true, true] (by kernel_rfl) rfl rfl rfl (by kernel_rfl) ?_ | (refine o_toString (s := [18]) TtOk rfl rfl rfl rfl rfl (by first | exact True.intro | exact rfl) rfl rfl rfl rfl ?_) | (refine o_index rfl TtOk rfl rfl rfl rfl rfl rfl ?_ (getq_as k ?_ hkN) ?_; omega; omega) | refine o_callE rfl (hsu) ⟨nqS, True.intro⟩ rfl ?_ | refine o_callE rfl (hcl) ⟨nqS, nqS, True.intro⟩ rfl ?_)
        all_goals
          refine end_all [] [] (.tup [.s t, .s [18], .b (clsh t [18])]) rfl ?_ ?_ (rle_tup3c (CLe.of_eq rfl) (CLe.of_eq rfl) (CLe.of_eq rfl) rfl rfl rfl) .nil ⟨rfl, rfl⟩ _ (.inl rfl)
          · exact nq1
          · exact ⟨trivial, trivial, trivial, trivial⟩
      have hp : 0 < l.length := List.length_pos_iff.2 hl0
      by_cases hl1 : l.length = 1
      · have hsd : sdL l lb = l := if_neg (by omega)
        have hyg := (h.node hl0).1
        have hN1 : rlN l = .lf l[0] := by
          obtain ⟨y, rfl⟩ := List.length_eq_one_iff.1 hl1
          rfl
        rw [hN1] at hyg
        have hs2 := summed_spec (.lf l[0]) hyg
        have hrt : (Nod.lf l[0]).txt = rlT l := by rw [← hN1]; exact (h.node hl0).2.1
        rw [hrt] at hs2
        rw [hsd] at hst
        have hs2 : Spec Tryz.prog 24 [.ifc 46 l[0].A] [] (fun v os => v = .s (rlT l) ∧ os = []) := hs2
        clear hyg hN1 hrt hsd hall
        generalize rlT l = r at *
        generalize N[k].txt = t at *
        by_cases he : t = r
        · have hq2 : (!(t == r)) = false := by rw [beq_iff_eq.2 he]; rfl
          rw [if_pos he] at hst
          repeat' (first | (rw [hq2]) | (rw [hA]) | refine Awp.seq ?_ | refine Awp.block ?_ | refine Awp.region ?_ | refine Ops.nil (nqA ?_) | refine Ops.nil (nqX ?_) | refine Awp.skip (nqA ?_) | (refine o_sub rfl rfl rfl rfl ?_ ?_; omega) | refine o_len rfl TtOk rfl rfl rfl (fun _ => ?_) | (refine o_calm rfl TtOk rfl rfl rfl ?_ (fun _ => ?_); exact nd) | (refine o_index rfl TtOk rfl rfl rfl rfl rfl rfl ?_ (getq_nat ?_) ?_; omega; omega) | refine o_buildSlice TtOk rfl rfl rfl rfl rfl rfl rfl rfl rfl rfl rfl nq1 (fun _ => ?_) | refine a_condF rfl ?_ | (refine a_condP rfl (fun hc => ?_) (fun hc => ?_)) <;> (try (exfalso; omega)) | (refine Ops.nil ?_; show AnyT _ _ _ _ _ _ _ _ _ _) | refine a_anyT 8 [] [] [] (by kernel_rfl) (by kernel_rfl) (n := 6) (listed := [false, false, false, false, false, false].toArray) rfl (by kernel_rfl) ?_ | refine t_two (n := 6) (listed := [false, false, false, false, false, false].toArray) 0 2 [true, false, false, false, false, false] [false, false, true, false, false, false] rfl (by kernel_rfl) rfl rfl (by kernel_rfl) (by kernel_rfl) ?_ ?_ | refine t_path (n := 5) (listed := [true, false, false, false, false, false].toArray) [1, 4, 2, 3, 5] 0 [true, true, true, true, true, true] (by kernel_rfl) rfl rfl rfl (by kernel_rfl) ?_ | refine t_fin (n := 0) (listed := [true, true, true, true, true, true].toArray) (by kernel_rfl) ?_ | refine t_path (n := 5) (listed := [false, false, true, false, false, false].toArray) [3, 0, 1, 4, 5] 0 [true, true, true, true, true, true] (by kernel_rfl) rfl rfl rfl (by kernel_rfl) ?_ | (refine o_toString (s := [18]) TtOk rfl rfl rfl rfl rfl (by first | exact True.intro | exact rfl) rfl rfl rfl rfl ?_) | (refine o_index rfl TtOk rfl rfl rfl rfl rfl rfl ?_ (getq_as k ?_ hkN) ?_; omega; omega) | (refine o_mkIface TtOk rfl rfl rfl rfl rfl rfl ?_) | refine o_callE rfl (hsu) ⟨nqS, True.intro⟩ rfl ?_ | refine o_callE rfl (hs2) ⟨nqS, True.intro⟩ rfl ?_)
          all_goals
            exact ⟨(k, l), [], ⟨by show k ≤ N.length; omega, ⟨hl', h⟩, hst⟩, by show k < k + 1; omega, rfl, ⟨sle_i (by show ((k + 1 : Nat) : Int) - 1 - 1 = (k : Int) - 1; omega), sle_sl rfl, sle_sl rfl, sle_ptr, True.intro⟩, HLe.cons 4 rfl (HOLe.refl _) .nil⟩
        · have hq2 : (!(t == r)) = true := by rw [beq_eq_false_iff_ne.2 he]; rfl
          rw [if_neg he] at hst
          subst hst
          repeat' (first | (rw [hq2]) | (rw [hA]) | refine Awp.seq ?_ | refine Awp.block ?_ | refine Awp.region ?_ | refine Ops.nil (nqA ?_) | refine Awp.skip (nqA ?_) | refine Awp.ret (nqE ?_) | refine o_len rfl TtOk rfl rfl rfl (fun _ => ?_) | (refine o_calm rfl TtOk rfl rfl rfl ?_ (fun _ => ?_); exact nd) | (refine o_index rfl TtOk rfl rfl rfl rfl rfl rfl ?_ (getq_nat ?_) ?_; omega; omega) | refine o_buildSlice TtOk rfl rfl rfl rfl rfl rfl rfl rfl rfl rfl rfl nq1 (fun _ => ?_) | refine a_condT rfl ?_ | (refine a_condP rfl (fun hc => ?_) (fun hc => ?_)) <;> (try (exfalso; omega)) | (refine Ops.nil ?_; show AnyT _ _ _ _ _ _ _ _ _ _) | refine a_anyT 8 [] [] [] (by kernel_rfl) (by kernel_rfl) (n := 6) (listed := [false, false, false, false, false, false].toArray) rfl (by kernel_rfl) ?_ | refine t_two (n := 6) (listed := [false, false, false, false, false, false].toArray) 0 2 [true, false, false, false, false, false] [false, false, true, false, false, false] rfl (by kernel_rfl) rfl rfl (by kernel_rfl) (by kernel_rfl) ?_ ?_ | refine t_path (n := 5) (listed := [true, false, false, false, false, false].toArray) [1, 4, 2, 3, 5] 0 [true, true, true, true, true, true] (by kernel_rfl) rfl rfl rfl (by kernel_rfl) ?_ | refine t_fin (n := 0) (listed := [true, true, true, true, true, true].toArray) (by kernel_rfl) ?_ | refine t_path (n := 5) (listed := [false, false, true, false, false, false].toArray) [3, 0, 1, 4, 5] 0 [true, true, true, true, true, true] (by kernel_rfl) rfl rfl rfl (by kernel_rfl) ?_ | (refine o_toString (s := [18]) TtOk rfl rfl rfl rfl rfl (by first | exact True.intro | exact rfl) rfl rfl rfl rfl ?_) | (refine o_mkIface TtOk rfl rfl rfl rfl rfl rfl ?_) | (refine o_index rfl TtOk rfl rfl rfl rfl rfl rfl ?_ (getq_as k ?_ hkN) ?_; omega; omega) | refine o_callE rfl (hsu) ⟨nqS, True.intro⟩ rfl ?_ | refine o_callE rfl (hcl) ⟨nqS, nqS, True.intro⟩ rfl ?_ | refine o_callE rfl (hs2) ⟨nqS, True.intro⟩ rfl ?_)
          all_goals
            refine end_all [] [] (.tup [.s t, .s r, .b (clsh t r)]) rfl ?_ ?_ (rle_tup3c (CLe.of_eq rfl) (CLe.of_eq rfl) (CLe.of_eq rfl) rfl rfl rfl) .nil ⟨rfl, rfl⟩ _ (.inl rfl)
            · exact nq1
            · exact ⟨trivial, trivial, trivial, trivial⟩
      · have h2l : 2 ≤ l.length := by omega
        have hSd := h.sides h2l
        have hpr := ppair_spec l h2l (by omega) h.rise h.ok
        have hit := iitem_spec _ _ hSd.oA hSd.oB
        have hs2 := summed_spec (.inn (parA (l.map leafI)) (parB (l.map leafI))) ⟨hSd.oA, hSd.oB, hSd.chk⟩
        have hrt : (Nod.inn (parA (l.map leafI)) (parB (l.map leafI))).txt = rlT l := by unfold rlT; rw [if_neg hl0, if_neg hl1]; rfl
        rw [hrt] at hs2
        have hs2 : Spec Tryz.prog 24 [.ifc 52 (.agg [(parA (l.map leafI)).A, (parB (l.map leafI)).A])] [] (fun v os => v = .s (rlT l) ∧ os = []) := hs2
        have hsd := sides_spec l (by omega) h.ok (frkI (l.map leafI)) hSd.f256
        rw [sidL_spl h.rise h.ok h2l] at hsd
        have hbt := bit_spec lb hlb (frkI (l.map leafI)) (by omega) (by have := hSd.f256; omega)
        rw [if_pos (by have := hSd.f256; omega), Int.toNat_natCast] at hbt
        have hbo := bitL_or lb (frkI (l.map leafI))
        have hxn : (innI (parA (l.map leafI)) (parB (l.map leafI))).n = (frkI (l.map leafI) : Nat) := by show ((comL _ _ : Nat) : Int) = _; rw [hSd.com]
        have hsl : sdL l lb = if bitL lb (frkI (l.map leafI)) = 1 then l.drop (splI (l.map leafI)) else l.take (splI (l.map leafI)) := if_pos (by omega)
        have hlt := hSd.sl
        have lt1 : (l.take (splI (l.map leafI))).length ≤ 10000 := by rw [List.length_take]; omega
        have lt2 : (l.drop (splI (l.map leafI))).length ≤ 10000 := by rw [List.length_drop]; omega
        have r1 := h.take (splI (l.map leafI))
        have r2 := h.drop (splI (l.map leafI))
        have hL1 : ((l.length : Int) > 1) := by omega
        rw [hsl] at hst
        clear hrt hSd hsl hall
        generalize rlT l = r at *
        generalize N[k].txt = t at *
        generalize innI (parA (l.map leafI)) (parB (l.map leafI)) = x at *
        generalize parA (l.map leafI) = u at *
        generalize parB (l.map leafI) = v at *
        generalize splI (l.map leafI) = s at *
        generalize frkI (l.map leafI) = c at *
        obtain ⟨xn, xl, xs, xt⟩ := x
        dsimp only at hxn
        subst hxn
        have hxA : Itm.A ⟨(c : Nat), xl, xs, xt⟩ = .agg [.agg [.i .i64 (c : Nat), labA xl], labA xs, .i .i64 xt] := rfl
        rw [hxA] at hit
        generalize bitL lb c = bt at *
        by_cases he : t = r
        · have hq2 : (!(t == r)) = false := by rw [beq_iff_eq.2 he]; rfl
          rw [if_pos he] at hst
          rcases hbo with rfl | rfl
          · rw [if_neg (by decide)] at hst
            repeat' (first | (rw [hq2]) | (rw [hA]) | refine Awp.seq ?_ | refine Awp.block ?_ | refine Awp.region ?_ | refine Ops.nil (nqA ?_) | refine Ops.nil (nqX ?_) | refine Awp.skip (nqA ?_) | (refine o_sub rfl rfl rfl rfl ?_ ?_; omega) | refine o_len rfl TtOk rfl rfl rfl (fun _ => ?_) | (refine o_calm rfl TtOk rfl rfl rfl ?_ (fun _ => ?_); exact nd) | refine o_buildSlice TtOk rfl rfl rfl rfl rfl rfl rfl rfl rfl rfl rfl nq1 (fun _ => ?_) | refine a_condF rfl ?_ | (refine a_condP rfl (fun hc => ?_) (fun hc => ?_)) <;> (try (exfalso; omega)) | (refine Ops.nil ?_; show AnyT _ _ _ _ _ _ _ _ _ _) | refine a_anyT 8 [] [] [] (by kernel_rfl) (by kernel_rfl) (n := 6) (listed := [false, false, false, false, false, false].toArray) rfl (by kernel_rfl) ?_ | refine t_two (n := 6) (listed := [false, false, false, false, false, false].toArray) 0 2 [true, false, false, false, false, false] [false, false, true, false, false, false] rfl (by kernel_rfl) rfl rfl (by kernel_rfl) (by kernel_rfl) ?_ ?_ | refine t_path (n := 5) (listed := [true, false, false, false, false, false].toArray) [1, 4, 2, 3, 5] 0 [true, true, true, true, true, true] (by kernel_rfl) rfl rfl rfl (by kernel_rfl) ?_ | refine t_fin (n := 0) (listed := [true, true, true, true, true, true].toArray) (by kernel_rfl) ?_ | refine t_path (n := 5) (listed := [false, false, true, false, false, false].toArray) [3, 0, 1, 4, 5] 0 [true, true, true, true, true, true] (by kernel_rfl) rfl rfl rfl (by kernel_rfl) ?_ | (refine o_toString (s := [18]) TtOk rfl rfl rfl rfl rfl (by first | exact True.intro | exact rfl) rfl rfl rfl rfl ?_) | (refine o_index rfl TtOk rfl rfl rfl rfl rfl rfl ?_ (getq_as k ?_ hkN) ?_; omega; omega) | (refine o_mkIface TtOk rfl rfl rfl rfl rfl rfl ?_) | refine o_callE rfl (hsu) ⟨nqS, True.intro⟩ rfl ?_ | refine o_callE rfl (hs2) ⟨nqS, True.intro⟩ rfl ?_ | refine o_callE rfl (hpr) ⟨nqS, True.intro⟩ rfl ?_ | refine o_callE rfl (hit) ⟨nqS, True.intro⟩ rfl ?_ | refine o_callE rfl (hsd) ⟨nqS, nqS, True.intro⟩ rfl ?_ | refine o_callE rfl (hbt) ⟨nqS, nqS, True.intro⟩ rfl ?_)
            all_goals
              exact ⟨(k, l.take s), [], ⟨by show k ≤ N.length; omega, ⟨lt1, r1⟩, hst⟩, by show k < k + 1; omega, rfl, ⟨sle_i (by show ((k + 1 : Nat) : Int) - 1 - 1 = (k : Int) - 1; omega), sle_sl rfl, sle_sl rfl, sle_ptr, True.intro⟩, HLe.cons 4 rfl (HOLe.refl _) .nil⟩
          · rw [if_pos rfl] at hst
            repeat' (first | (rw [hq2]) | (rw [hA]) | refine Awp.seq ?_ | refine Awp.block ?_ | refine Awp.region ?_ | refine Ops.nil (nqA ?_) | refine Ops.nil (nqX ?_) | refine Awp.skip (nqA ?_) | (refine o_sub rfl rfl rfl rfl ?_ ?_; omega) | refine o_len rfl TtOk rfl rfl rfl (fun _ => ?_) | (refine o_calm rfl TtOk rfl rfl rfl ?_ (fun _ => ?_); exact nd) | refine o_buildSlice TtOk rfl rfl rfl rfl rfl rfl rfl rfl rfl rfl rfl nq1 (fun _ => ?_) | refine a_condT rfl ?_ | refine a_condF rfl ?_ | (refine a_condP rfl (fun hc => ?_) (fun hc => ?_)) <;> (try (exfalso; omega)) | (refine Ops.nil ?_; show AnyT _ _ _ _ _ _ _ _ _ _) | refine a_anyT 8 [] [] [] (by kernel_rfl) (by kernel_rfl) (n := 6) (listed := [false, false, false, false, false, false].toArray) rfl (by kernel_rfl) ?_ | refine t_two (n := 6) (listed := [false, false, false, false, false, false].toArray) 0 2 [true, false, false, false, false, false] [false, false, true, false, false, false] rfl (by kernel_rfl) rfl rfl (by kernel_rfl) (by kernel_rfl) ?_ ?_ | refine t_path (n := 5) (listed := [true, false, false, false, false, false].toArray) [1, 4, 2, 3, 5] 0 [true, true, true, true, true, true] (by kernel_rfl) rfl rfl rfl (by kernel_rfl) ?_ | refine t_fin (n := 0) (listed := [true, true, true, true, true, true].toArray) (by kernel_rfl) ?_ | refine t_path (n := 5) (listed := [false, false, true, false, false, false].toArray) [3, 0, 1, 4, 5] 0 [true, true, true, true, true, true] (by kernel_rfl) rfl rfl rfl (by kernel_rfl) ?_ | (refine o_toString (s := [18]) TtOk rfl rfl rfl rfl rfl (by first | exact True.intro | exact rfl) rfl rfl rfl rfl ?_) | (refine o_index rfl TtOk rfl rfl rfl rfl rfl rfl ?_ (getq_as k ?_ hkN) ?_; omega; omega) | (refine o_mkIface TtOk rfl rfl rfl rfl rfl rfl ?_) | refine o_callE rfl (hsu) ⟨nqS, True.intro⟩ rfl ?_ | refine o_callE rfl (hs2) ⟨nqS, True.intro⟩ rfl ?_ | refine o_callE rfl (hpr) ⟨nqS, True.intro⟩ rfl ?_ | refine o_callE rfl (hit) ⟨nqS, True.intro⟩ rfl ?_ | refine o_callE rfl (hsd) ⟨nqS, nqS, True.intro⟩ rfl ?_ | refine o_callE rfl (hbt) ⟨nqS, nqS, True.intro⟩ rfl ?_)
            all_goals
              exact ⟨(k, l.drop s), [], ⟨by show k ≤ N.length; omega, ⟨lt2, r2⟩, hst⟩, by show k < k + 1; omega, rfl, ⟨sle_i (by show ((k + 1 : Nat) : Int) - 1 - 1 = (k : Int) - 1; omega), sle_sl rfl, sle_sl rfl, sle_ptr, True.intro⟩, HLe.cons 4 rfl (HOLe.refl _) .nil⟩
        · have hq2 : (!(t == r)) = true := by rw [beq_eq_false_iff_ne.2 he]; rfl
          rw [if_neg he] at hst
          subst hst
          repeat' (first | (rw [hq2]) | (rw [hA]) | refine Awp.seq ?_ | refine Awp.block ?_ | refine Awp.region ?_ | refine Ops.nil (nqA ?_) | refine Awp.skip (nqA ?_) | refine Awp.ret (nqE ?_) | refine o_len rfl TtOk rfl rfl rfl (fun _ => ?_) | (refine o_calm rfl TtOk rfl rfl rfl ?_ (fun _ => ?_); exact nd) | refine o_buildSlice TtOk rfl rfl rfl rfl rfl rfl rfl rfl rfl rfl rfl nq1 (fun _ => ?_) | refine a_condT rfl ?_ | (refine a_condP rfl (fun hc => ?_) (fun hc => ?_)) <;> (try (exfalso; omega)) | (refine Ops.nil ?_; show AnyT _ _ _ _ _ _ _ _ _ _) | refine a_anyT 8 [] [] [] (by kernel_rfl) (by kernel_rfl) (n := 6) (listed := [false, false, false, false, false, false].toArray) rfl (by kernel_rfl) ?_ | refine t_two (n := 6) (listed := [false, false, false, false, false, false].toArray) 0 2 [true, false, false, false, false, false] [false, false, true, false, false, false] rfl (by kernel_rfl) rfl rfl (by kernel_rfl) (by kernel_rfl) ?_ ?_ | refine t_path (n := 5) (listed := [true, false, false, false, false, false].toArray) [1, 4, 2, 3, 5] 0 [true, true, true, true, true, true] (by kernel_rfl) rfl rfl rfl (by kernel_rfl) ?_ | refine t_fin (n := 0) (listed := [true, true, true, true, true, true].toArray) (by kernel_rfl) ?_ | refine t_path (n := 5) (listed := [false, false, true, false, false, false].toArray) [3, 0, 1, 4, 5] 0 [true, true, true, true, true, true] (by kernel_rfl) rfl rfl rfl (by kernel_rfl) ?_ | (refine o_toString (s := [18]) TtOk rfl rfl rfl rfl rfl (by first | exact True.intro | exact rfl) rfl rfl rfl rfl ?_) | (refine o_mkIface TtOk rfl rfl rfl rfl rfl rfl ?_) | (refine o_index rfl TtOk rfl rfl rfl rfl rfl rfl ?_ (getq_as k ?_ hkN) ?_; omega; omega) | refine o_callE rfl (hsu) ⟨nqS, True.intro⟩ rfl ?_ | refine o_callE rfl (hcl) ⟨nqS, nqS, True.intro⟩ rfl ?_ | refine o_callE rfl (hs2) ⟨nqS, True.intro⟩ rfl ?_ | refine o_callE rfl (hpr) ⟨nqS, True.intro⟩ rfl ?_)
          all_goals
            refine end_all [] [] (.tup [.s t, .s r, .b (clsh t r)]) rfl ?_ ?_ (rle_tup3c (CLe.of_eq rfl) (CLe.of_eq rfl) (CLe.of_eq rfl) rfl rfl rfl) .nil ⟨rfl, rfl⟩ _ (.inl rfl)
            · exact nq1
            · exact ⟨trivial, trivial, trivial, trivial⟩
end Go.Proofs.YtcmgpkibjdbonaaGreat
