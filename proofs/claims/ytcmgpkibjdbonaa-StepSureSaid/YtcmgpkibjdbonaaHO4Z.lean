/- step.Extract by rules. -/
import Derived.Test.YtcmgpkibjdbonaaHO3
import Derived.Test.YtcmgpkibjdbonaaPP2Z
set_option maxHeartbeats 16000000
set_option maxRecDepth 100000
namespace Go.Proofs.Ytcmgpkibjdbonaa
open Go Go.RowKit
theorem sext11_spec (x y : Lef) : Spec Try.prog 99 ([x.A, y.A] ++ []) [] (fun v os => v = .i .i64 (ordL x y) ∧ os = []) := by
  have h1 := border_spec x.l y.l
  have ho : ordL x y = cmpS x.l y.l := rfl
  rw [ho]
  generalize cmpS x.l y.l = c at h1 ⊢
  show Spec Try.prog 99 [.agg [labA x.l, labA x.v, .i .i64 x.t], .agg [labA y.l, labA y.v, .i .i64 y.t]] [] _
  refine spec_of TtOk [] Try.func99 rfl Try.ntmps99 (by kernel_rfl) rfl rfl (fun C => ?_) rfl
  repeat' (first | refine Awp.seq ?_ | refine Awp.region ?_ | (refine Ops.nil ?_; show Awp _ _ _ _ _) | (refine Awp.ret ?_; show endK _ _ _ _ _) | (refine o_calm rfl TtOk rfl rfl rfl ?_ (fun _ => ?_); first | exact True.intro | exact ⟨rfl, rfl, rfl, rfl⟩ | exact ⟨rfl, True.intro⟩ | exact ⟨rfl, rfl⟩ | exact ⟨rfl, rfl, rfl⟩ | exact rfl | exact ⟨fun h0 => by cases h0, rfl⟩ | exact (fun h0 => by cases h0) | exact ⟨rfl, by omega⟩ | exact ⟨Nat.succ_ne_zero _, rfl⟩ | omega) | refine o_box (d := 2) rfl rfl rfl rfl (fun b2 => ?_) | refine o_box (d := 3) rfl rfl rfl rfl (fun b3 => ?_) | (refine o_call0 rfl (h1) ⟨SLe.of_eq rfl, SLe.of_eq rfl, True.intro⟩ rfl ?_; rintro _ _ ⟨rfl, rfl⟩; refine ⟨rfl, ?_⟩))
  exact end_tmp rfl rfl rfl [] [] (CLe.of_eq rfl) .nil ⟨rfl, rfl⟩ _ (.inl rfl)
theorem sext1_spec (l : List Lef) (hl : l.length ≤ 100000) : Spec Try.prog 98 ([.sl 65 (l.map Lef.A)] ++ []) [] (fun v os => v = .sl 65 ((srtL l).map Lef.A) ∧ os = []) := by
  show Spec Try.prog 98 [.sl 65 (l.map Lef.A)] [] _
  refine spec_of TtOk [] Try.func98 rfl Try.ntmps98 (by kernel_rfl) rfl rfl (fun C => ?_) rfl
  have h1 := cloneL_spec (l.map Lef.A) (by rw [List.length_map]; omega)
  have h2 := fun v => sortStable_specL v 99 [] rfl ordL sext11_spec woL l hl
  have hs : sortS (ltCL ordL) l = srtL l := rfl
  rw [hs] at h2
  generalize srtL l = r at h2 ⊢
  repeat' (first | refine Awp.seq ?_ | refine Awp.region ?_ | (refine Ops.nil ?_; show Awp _ _ _ _ _) | (refine Awp.ret ?_; show endK _ _ _ _ _) | (refine o_calm rfl TtOk rfl rfl rfl ?_ (fun _ => ?_); first | exact True.intro | exact ⟨rfl, rfl, rfl, rfl⟩ | exact ⟨rfl, True.intro⟩ | exact ⟨rfl, rfl⟩ | exact ⟨rfl, rfl, rfl⟩ | exact rfl | exact ⟨fun h0 => by cases h0, rfl⟩ | exact (fun h0 => by cases h0) | exact ⟨rfl, by omega⟩ | exact ⟨Nat.succ_ne_zero _, rfl⟩ | omega) | (refine o_callR rfl h1 ⟨SLe.of_eq rfl, True.intro⟩ rfl (fun vR => ?_)) | (refine o_call [] [5] [5] rfl (h2 _) ⟨sle_own, SLe.of_eq rfl, True.intro⟩ rfl ⟨HOLe.refl _, True.intro⟩ rfl rfl ?_; rintro _ _ ⟨rfl, rfl⟩; refine ⟨_, rfl, rfl, ?_⟩))
  refine end_tmp rfl rfl rfl [5] [] (CLe.fz ?_) .nil ⟨rfl, rfl⟩ _ (.inl rfl)
  exact .head _
def extP (L : List Lef) (s : Stp) : List UInt8 × List UInt8 × Bool := if mkE L ≠ 0 ∨ chkI (topU s.same s.old) ≠ 0 then ([], [], false) else hld ((topU s.same s.old).length + 1) (topU s.same s.old) s.old (srtL L)
theorem sextract_spec (L : List Lef) (s : Stp) (hl : L.length ≤ 1000) (hok : ∀ x ∈ L, x.ok) (hs : s.ok) (h1 : s.same.length ≤ 5000) (h2 : s.old.length ≤ 5000) : Spec Try.prog 39 [.sl 65 (L.map Lef.A), s.A] [] (fun v os => v = .tup [.s (extP L s).1, .s (extP L s).2.1, .b (extP L s).2.2] ∧ os = []) := by
  obtain ⟨same, old, new⟩ := s
  obtain ⟨o1, o2, o3⟩ := hs
  dsimp only at h1 h2 o1 o2 o3
  have k1 := of_spec L (by omega) hok
  have k2 := pcheck_spec (itmsL L) (by rw [itmsL_len]; omega) (itmsL_ok hok)
  rw [show chkI (itmsL L) = mkE L from rfl] at k2
  have k3 := of_spec old (by omega) o2
  have hlen : (same ++ itmsL old).length ≤ 100000 := by rw [List.length_append, itmsL_len]; omega
  have k4 : Spec Try.prog 97 [.sl 1 [.sl 66 (same.map Itm.A), .sl 66 ((itmsL old).map Itm.A)]] [] (fun v os => v = .sl 66 ((same ++ itmsL old).map Itm.A) ∧ os = []) := by
    have := concatI_spec [same, itmsL old] (show 2 ≤ 100000 by decide) (by rw [fl_two]; exact hlen)
    rw [fl_two] at this
    exact this
  have k5 := sorted_spec (same ++ itmsL old) hlen
  rw [show srtI (same ++ itmsL old) = topU same old from rfl] at k5
  have hUl := topU_len same old
  have k6 := pcheck_spec (topU same old) (by omega) (topU_ok o1 o2)
  have k7 := sext1_spec L (by omega)
  have k8 := fun hc hr => hold_spec ((topU same old).length + 1) (topU same old) old (srtL L) (Nat.lt_succ_self _) (by omega) (by omega) hr (topU_ok o1 o2) o2 (rsn_srt hok hc) (by rw [srtL_len]; omega)
  have hrise := @chkI_rise (topU same old)
  have hE : extP L ⟨same, old, new⟩ = if mkE L ≠ 0 ∨ chkI (topU same old) ≠ 0 then ([], [], false) else hld ((topU same old).length + 1) (topU same old) old (srtL L) := rfl
  rw [hE]
  have hk : chkI (itmsL L) = mkE L := rfl
  rw [hk] at k8
  clear hE hk hlen hUl
  show Spec Try.prog 39 [.sl 65 (L.map Lef.A), .agg [.sl 66 (same.map Itm.A), .sl 65 (old.map Lef.A), .sl 65 (new.map Lef.A)]] [] _
  refine spec_of TtOk [] Try.func39 rfl Try.ntmps39 (by kernel_rfl) rfl rfl (fun C => ?_) rfl
  by_cases hc : mkE L ≠ 0
  · rw [if_pos (.inl hc)]
    clear k3 k4 k5 k6 k7 k8 hrise
    generalize mkE L = c at *
    repeat' (first | refine Awp.seq ?_ | refine Awp.region ?_ | (refine Ops.nil ?_; show Awp _ _ _ _ _) | (refine Awp.ret ?_; show endK _ _ _ _ _) | refine o_noF rfl rfl rfl ?_ | (refine o_calm rfl TtOk rfl rfl rfl ?_ (fun _ => ?_); first | exact True.intro | exact ⟨rfl, rfl, rfl, rfl⟩ | exact ⟨rfl, True.intro⟩ | exact ⟨rfl, rfl⟩ | exact ⟨rfl, rfl, rfl⟩ | exact rfl | exact ⟨fun h0 => by cases h0, rfl⟩ | exact (fun h0 => by cases h0) | exact ⟨rfl, by omega⟩ | exact ⟨Nat.succ_ne_zero _, rfl⟩ | omega) | refine o_box (d := 3) rfl rfl rfl rfl (fun b3 => ?_) | (fail_if_success (refine o_isLit rfl (by first | exact .inl rfl | exact .inr rfl) ?_)); (refine o_splitN rfl rfl (fun hc => ?_) (fun hc => ?_) <;> try (exfalso; omega)) | refine a_condT rfl ?_ | refine a_any 1 [] [] [] [0, 1, 2, 3, 4, 5, 7, 6, 8, 9, 10, 11, 12, 13, 14, 15] (by kernel_rfl) (by kernel_rfl) (by kernel_rfl) rfl rfl rfl ?_ | (refine o_call0 rfl (k1) ⟨SLe.of_eq rfl, True.intro⟩ rfl ?_; rintro _ _ ⟨rfl, rfl⟩; refine ⟨rfl, ?_⟩) | (refine o_call0 rfl (k2) ⟨SLe.of_eq rfl, True.intro⟩ rfl ?_; rintro _ _ ⟨rfl, rfl⟩; refine ⟨rfl, ?_⟩))
    all_goals
      refine end_all [] [] (.tup [.s [], .s [], .b false]) rfl ?_ ?_ (rle_tup3c (CLe.of_eq rfl) (CLe.of_eq rfl) (CLe.of_eq rfl) rfl rfl rfl) .nil ⟨rfl, rfl⟩ _ (.inl rfl)
      · repeat' (first | exact True.intro | exact rfl | refine ⟨?_, ?_⟩)
      · exact ⟨trivial, trivial, trivial, trivial⟩
  have hc := Decidable.not_not.1 hc
  by_cases hd : chkI (topU same old) ≠ 0
  · rw [if_pos (.inr hd)]
    rw [hc] at k2
    clear k7 k8 hrise
    generalize chkI (topU same old) = d at *
    generalize topU same old = U at *
    generalize same ++ itmsL old = V at *
    repeat' (first | (refine o_freezeR 18 18 rfl rfl rfl ?_) | refine Awp.seq ?_ | refine Awp.region ?_ | (refine Ops.nil ?_; show Awp _ _ _ _ _) | (refine Awp.ret ?_; show endK _ _ _ _ _) | (refine o_calm rfl TtOk rfl rfl rfl ?_ (fun _ => ?_); first | exact True.intro | exact ⟨rfl, rfl, rfl, rfl⟩ | exact ⟨rfl, True.intro⟩ | exact ⟨rfl, rfl⟩ | exact ⟨rfl, rfl, rfl⟩ | exact rfl | exact ⟨fun h0 => by cases h0, rfl⟩ | exact (fun h0 => by cases h0) | exact ⟨rfl, by omega⟩ | exact ⟨Nat.succ_ne_zero _, rfl⟩ | omega) | refine o_box (d := 3) rfl rfl rfl rfl (fun b3 => ?_) | refine o_buildSlice (d := 18) TtOk rfl rfl rfl rfl rfl rfl rfl rfl rfl rfl rfl (by repeat' (first | exact True.intro | exact rfl | refine ⟨?_, ?_⟩)) (fun v18 => ?_) | (refine a_condN rfl (fun hc => ?_) (fun hc => ?_)) <;> (try (exfalso; omega)) | refine a_any 1 [] [] [] [0, 1, 2, 3, 4, 5, 7, 6, 8, 9, 10, 11, 12, 13, 14, 15] (by kernel_rfl) (by kernel_rfl) (by kernel_rfl) rfl rfl rfl ?_ | (refine o_call0 rfl (k1) ⟨SLe.of_eq rfl, True.intro⟩ rfl ?_; rintro _ _ ⟨rfl, rfl⟩; refine ⟨rfl, ?_⟩) | (refine o_call0 rfl (k2) ⟨SLe.of_eq rfl, True.intro⟩ rfl ?_; rintro _ _ ⟨rfl, rfl⟩; refine ⟨rfl, ?_⟩) | (refine o_call0 rfl (k3) ⟨SLe.of_eq rfl, True.intro⟩ rfl ?_; rintro _ _ ⟨rfl, rfl⟩; refine ⟨rfl, ?_⟩) | (refine o_call0 rfl (k4) ⟨SLe.of_eq rfl, True.intro⟩ rfl ?_; rintro _ _ ⟨rfl, rfl⟩; refine ⟨rfl, ?_⟩) | (refine o_call0 rfl (k5) ⟨SLe.of_eq rfl, True.intro⟩ rfl ?_; rintro _ _ ⟨rfl, rfl⟩; refine ⟨rfl, ?_⟩) | (refine o_call0 rfl (k6) ⟨SLe.of_eq rfl, True.intro⟩ rfl ?_; rintro _ _ ⟨rfl, rfl⟩; refine ⟨rfl, ?_⟩))
    all_goals
      refine end_all [] [] (.tup [.s [], .s [], .b false]) rfl ?_ ?_ (rle_tup3c (CLe.of_eq rfl) (CLe.of_eq rfl) (CLe.of_eq rfl) rfl rfl rfl) .nil ⟨rfl, rfl⟩ _ (.inl rfl)
      · repeat' (first | exact True.intro | exact rfl | refine ⟨?_, ?_⟩)
      · exact ⟨trivial, trivial, trivial, trivial⟩
  have hd := Decidable.not_not.1 hd
  rw [if_neg (fun h => h.elim (fun h => h hc) (fun h => h hd))]
  have k8 := k8 hc (hrise hd).2.1
  rw [hc] at k2
  rw [hd] at k6
  clear hrise
  generalize hld ((topU same old).length + 1) (topU same old) old (srtL L) = q at *
  obtain ⟨a, b, c⟩ := q
  dsimp only at k8
  generalize topU same old = U at *
  generalize same ++ itmsL old = V at *
  generalize srtL L = S at *
  repeat' (first | (refine o_freezeR 29 29 rfl rfl rfl ?_) | (refine o_freezeR 18 18 rfl rfl rfl ?_) | refine Awp.seq ?_ | refine Awp.region ?_ | (refine Ops.nil ?_; show Awp _ _ _ _ _) | (refine Awp.skip ?_; show Awp _ _ _ _ _) | (refine Awp.ret ?_; show endK _ _ _ _ _) | (refine o_calm rfl TtOk rfl rfl rfl ?_ (fun _ => ?_); first | exact True.intro | exact ⟨rfl, rfl, rfl, rfl⟩ | exact ⟨rfl, True.intro⟩ | exact ⟨rfl, rfl⟩ | exact ⟨rfl, rfl, rfl⟩ | exact rfl | exact ⟨fun h0 => by cases h0, rfl⟩ | exact (fun h0 => by cases h0) | exact ⟨rfl, by omega⟩ | exact ⟨Nat.succ_ne_zero _, rfl⟩ | omega) | refine o_box (d := 3) rfl rfl rfl rfl (fun b3 => ?_) | refine o_buildSlice (d := 18) TtOk rfl rfl rfl rfl rfl rfl rfl rfl rfl rfl rfl (by repeat' (first | exact True.intro | exact rfl | refine ⟨?_, ?_⟩)) (fun v18 => ?_) | refine o_buildSlice (d := 29) TtOk rfl rfl rfl rfl rfl rfl rfl rfl rfl rfl rfl (by repeat' (first | exact True.intro | exact rfl | refine ⟨?_, ?_⟩)) (fun v29 => ?_) | refine a_condF rfl ?_ | refine a_any 1 [] [] [] [0, 1, 2, 3, 4, 5, 7, 6, 8, 9, 10, 11, 12, 13, 14, 15] (by kernel_rfl) (by kernel_rfl) (by kernel_rfl) rfl rfl rfl ?_ | refine a_any 4 [] [] [] [0, 2, 8, 10, 11, 1, 3, 9, 4, 5, 6, 7, 12, 13, 14, 15, 16, 17, 18, 19] (by kernel_rfl) (by kernel_rfl) (by kernel_rfl) rfl rfl rfl ?_ | (refine o_callClo rfl rfl rfl k7 ⟨SLe.of_eq rfl, True.intro⟩ rfl rfl ?_; rintro _ _ ⟨rfl, rfl⟩; refine ⟨rfl, ?_⟩) | (refine o_call0 rfl (k1) ⟨SLe.of_eq rfl, True.intro⟩ rfl ?_; rintro _ _ ⟨rfl, rfl⟩; refine ⟨rfl, ?_⟩) | (refine o_call0 rfl (k2) ⟨SLe.of_eq rfl, True.intro⟩ rfl ?_; rintro _ _ ⟨rfl, rfl⟩; refine ⟨rfl, ?_⟩) | (refine o_call0 rfl (k3) ⟨SLe.of_eq rfl, True.intro⟩ rfl ?_; rintro _ _ ⟨rfl, rfl⟩; refine ⟨rfl, ?_⟩) | (refine o_call0 rfl (k4) ⟨SLe.of_eq rfl, True.intro⟩ rfl ?_; rintro _ _ ⟨rfl, rfl⟩; refine ⟨rfl, ?_⟩) | (refine o_call0 rfl (k5) ⟨SLe.of_eq rfl, True.intro⟩ rfl ?_; rintro _ _ ⟨rfl, rfl⟩; refine ⟨rfl, ?_⟩) | (refine o_call0 rfl (k6) ⟨SLe.of_eq rfl, True.intro⟩ rfl ?_; rintro _ _ ⟨rfl, rfl⟩; refine ⟨rfl, ?_⟩) | (refine o_call0 rfl (k8) ⟨SLe.of_eq rfl, SLe.of_eq rfl, SLe.of_eq rfl, True.intro⟩ rfl ?_; rintro _ _ ⟨rfl, rfl⟩; refine ⟨rfl, ?_⟩))
  all_goals
    refine end_all [] [] (.tup [.s a, .s b, .b c]) rfl ?_ ?_ (rle_tup3c (CLe.of_eq rfl) (CLe.of_eq rfl) (CLe.of_eq rfl) rfl rfl rfl) .nil ⟨rfl, rfl⟩ _ (.inl rfl)
    · repeat' (first | exact True.intro | exact rfl | refine ⟨?_, ?_⟩)
    · exact ⟨trivial, trivial, trivial, trivial⟩
end Go.Proofs.Ytcmgpkibjdbonaa
set_option maxHeartbeats 4000000
namespace Go.Proofs.Ytcmgpkibjdbonaa
open Go Go.RowKit
/-- Items that make up the tree of leaves, from left to right. -/
inductive Cov : List Itm → List Lef → Prop
  | one {l : List Lef} (h : Rsn l) (hn : l ≠ []) : Cov [jnI l] l
  | two {S T : List Itm} {l : List Lef} (h : Rsn l) (h2 : 2 ≤ l.length) (hS : Cov S (l.take (splI (l.map leafI)))) (hT : Cov T (l.drop (splI (l.map leafI)))) : Cov (S ++ T) l
theorem Cov.rsn {T : List Itm} {l : List Lef} (h : Cov T l) : Rsn l ∧ l ≠ [] := by
  cases h with
  | one h hn => exact ⟨h, hn⟩
  | two h h2 _ _ => exact ⟨h, fun e => by rw [e] at h2; simp at h2⟩
theorem Cov.ne {T : List Itm} {l : List Lef} (h : Cov T l) : T ≠ [] := by
  induction h with
  | one _ _ => exact fun e => by cases e
  | two _ _ _ _ i1 _ => exact fun e => i1 (List.append_eq_nil_iff.1 e).1
theorem Cov.mem {T : List Itm} {l : List Lef} (h : Cov T l) : ∀ p ∈ T, ∃ G, G ≠ [] ∧ Rsn G ∧ (∀ x ∈ G, x ∈ l) ∧ p = jnI G := by
  induction h with
  | @one l h hn => exact fun p hp => ⟨l, hn, h, fun x hx => hx, List.mem_singleton.1 hp⟩
  | two _ _ _ _ i1 i2 =>
    intro p hp
    rcases List.mem_append.1 hp with hp | hp
    · obtain ⟨G, a, b, c, d⟩ := i1 p hp
      exact ⟨G, a, b, fun x hx => List.mem_of_mem_take (c x hx), d⟩
    · obtain ⟨G, a, b, c, d⟩ := i2 p hp
      exact ⟨G, a, b, fun x hx => List.mem_of_mem_drop (c x hx), d⟩
theorem Cov.bits {T : List Itm} {l : List Lef} (h : Cov T l) {n : Nat} (hn : n < 256) (hb : ∀ x ∈ l, ∀ y ∈ l, ∀ i, i ≤ n → bitL x.l i = bitL y.l i) : ∀ p ∈ T, ∀ x ∈ l, ∀ i, i ≤ n → bitL p.l i = bitL x.l i := by
  intro p hp x hx i hi
  obtain ⟨G, hne, hG, hs, rfl⟩ := h.mem p hp
  obtain ⟨y, hy⟩ := List.exists_mem_of_ne_nil G hne
  have := (hG.deep (List.length_pos_iff.2 hne) (n := i) (by omega) (fun x hx y hy j hj => hb x (hs x hx) y (hs y hy) j (by omega))).2 y hy
  rw [this]
  exact hb y (hs y hy) x hx i hi
theorem Cov.okI {T : List Itm} {l : List Lef} (h : Cov T l) : ∀ p ∈ T, p.ok := by
  intro p hp
  obtain ⟨G, hne, hG, hs, rfl⟩ := h.mem p hp
  exact (hG.join (List.length_pos_iff.2 hne)).1.ok
theorem Rsn.bits {l : List Lef} (h : Rsn l) : ∀ x ∈ l, ∀ y ∈ l, ∀ i, i < frkI (l.map leafI) → bitL x.l i = bitL y.l i := fun x hx y hy i hi => by
  obtain ⟨j, hj, rfl⟩ := List.getElem_of_mem hx
  obtain ⟨k, hk, rfl⟩ := List.getElem_of_mem hy
  have hml : (l.map leafI).length = l.length := List.length_map ..
  have a := rise_bits h.rise h.okI (by omega) j (by omega) i hi
  have b := rise_bits h.rise h.okI (by omega) k (by omega) i hi
  rw [List.getElem_map] at a b
  exact a.trans b.symm
/-- Of the two sides. -/
theorem cov_sides {S T : List Itm} {l : List Lef} (h : Rsn l) (h2 : 2 ≤ l.length) (hS : Cov S (l.take (splI (l.map leafI)))) (hT : Cov T (l.drop (splI (l.map leafI)))) :
    (∀ p ∈ S, bitL p.l (frkI (l.map leafI)) = 0) ∧ (∀ q ∈ T, bitL q.l (frkI (l.map leafI)) = 1) ∧ (∀ p ∈ S, ∀ q ∈ T, comL p.l q.l = frkI (l.map leafI) ∧ cmpS p.l q.l < 0) := by
  have hSd := h.sides h2
  have hf := hSd.f256
  have tm : ∀ x ∈ l.take (splI (l.map leafI)), x ∈ l := fun x hx => List.mem_of_mem_take hx
  have dm : ∀ x ∈ l.drop (splI (l.map leafI)), x ∈ l := fun x hx => List.mem_of_mem_drop hx
  have bS := hS.bits hf (fun x hx y hy i hi => by
    rcases Nat.lt_or_eq_of_le hi with hi | rfl
    · exact h.bits x (tm x hx) y (tm y hy) i hi
    · rw [hSd.lo x hx, hSd.lo y hy])
  have bT := hT.bits hf (fun x hx y hy i hi => by
    rcases Nat.lt_or_eq_of_le hi with hi | rfl
    · exact h.bits x (dm x hx) y (dm y hy) i hi
    · rw [hSd.hi x hx, hSd.hi y hy])
  obtain ⟨x, hx⟩ := List.exists_mem_of_ne_nil _ hS.rsn.2
  obtain ⟨y, hy⟩ := List.exists_mem_of_ne_nil _ hT.rsn.2
  have z0 : ∀ p ∈ S, bitL p.l (frkI (l.map leafI)) = 0 := fun p hp => by rw [bS p hp x hx _ (Nat.le_refl _), hSd.lo x hx]
  have z1 : ∀ q ∈ T, bitL q.l (frkI (l.map leafI)) = 1 := fun q hq => by rw [bT q hq y hy _ (Nat.le_refl _), hSd.hi y hy]
  refine ⟨z0, z1, fun p hp q hq => ?_⟩
  have op := (hS.okI p hp).1
  have oq := (hT.okI q hq).1
  have hcm := com_is op oq hf (fun i hi => by rw [bS p hp x hx i (by omega), bT q hq y hy i (by omega)]; exact h.bits x (tm x hx) y (dm y hy) i hi) (by rw [z0 p hp, z1 q hq]; decide)
  exact ⟨hcm, lt_cmp op oq (by rw [hcm]; exact hf) (by rw [hcm]; exact z0 p hp)⟩
theorem Cov.rise {T : List Itm} {l : List Lef} (h : Cov T l) : RiseI T := by
  induction h with
  | one _ _ => exact List.pairwise_singleton ..
  | two h h2 hS hT i1 i2 => exact List.pairwise_append.2 ⟨i1, i2, fun p hp q hq => ((cov_sides h h2 hS hT).2.2 p hp q hq).2⟩
theorem cov_split {S T : List Itm} {l : List Lef} (h : Rsn l) (h2 : 2 ≤ l.length) (hS : Cov S (l.take (splI (l.map leafI)))) (hT : Cov T (l.drop (splI (l.map leafI)))) : splI (S ++ T) = S.length := by
  obtain ⟨z0, z1, z2⟩ := cov_sides h h2 hS hT
  have pS := List.length_pos_iff.2 hS.ne
  have pT := List.length_pos_iff.2 hT.ne
  have hl : (S ++ T).length = S.length + T.length := List.length_append
  have hf : frkI (S ++ T) = frkI (l.map leafI) := by
    rw [frk_eq (by omega)]
    refine (z2 _ ?_ _ ?_).1
    · rw [List.getElem_append_left pS]; exact List.getElem_mem _
    · rw [List.getElem_append_right (by omega)]; exact List.getElem_mem _
  unfold splI
  rw [hf, List.findIdx_eq (by omega)]
  refine ⟨?_, fun j hj => ?_⟩
  · rw [List.getElem_append_right (Nat.le_refl _), z1 _ (List.getElem_mem _)]; rfl
  · rw [List.getElem_append_left hj, z0 _ (List.getElem_mem _)]; rfl
theorem cov_par {S T : List Itm} {l : List Lef} (h : Rsn l) (h2 : 2 ≤ l.length) (hS : Cov S (l.take (splI (l.map leafI)))) (hT : Cov T (l.drop (splI (l.map leafI)))) (jS : joinF S.length S = jnI (l.take (splI (l.map leafI)))) (jT : joinF T.length T = jnI (l.drop (splI (l.map leafI)))) :
    parA (S ++ T) = parA (l.map leafI) ∧ parB (S ++ T) = parB (l.map leafI) := by
  have hs := cov_split h h2 hS hT
  have hSd := h.sides h2
  have pS := List.length_pos_iff.2 hS.ne
  have pT := List.length_pos_iff.2 hT.ne
  have hl : (S ++ T).length = S.length + T.length := List.length_append
  constructor
  · unfold parA
    rw [hs, List.take_left, ← show parA (l.map leafI) = joinF ((l.map leafI).length - 1) ((l.map leafI).take (splI (l.map leafI))) from rfl, hSd.jA, ← jS]
    exact joinF_fuel _ _ _ hS.ne (by omega) (Nat.le_refl _) hS.rise hS.okI
  · unfold parB
    rw [hs, List.drop_left, ← show parB (l.map leafI) = joinF ((l.map leafI).length - 1) ((l.map leafI).drop (splI (l.map leafI))) from rfl, hSd.jB, ← jT]
    exact joinF_fuel _ _ _ hT.ne (by omega) (Nat.le_refl _) hT.rise hT.okI
theorem Cov.join {T : List Itm} {l : List Lef} (h : Cov T l) : joinF T.length T = jnI l := by
  induction h with
  | one _ _ => rfl
  | @two S T l h h2 hS hT i1 i2 =>
    obtain ⟨a, b⟩ := cov_par h h2 hS hT i1 i2
    have pS := List.length_pos_iff.2 hS.ne
    have pT := List.length_pos_iff.2 hT.ne
    have hl : (S ++ T).length = S.length + T.length := List.length_append
    rw [join_par (by omega), a, b, (h.sides h2).jn]
theorem jnI_256 {l : List Lef} (h : Rsn l) (hn : l ≠ []) (h6 : ¬ (jnI l).n < 256) : ∃ x, l = [x] := by
  have hp := List.length_pos_iff.2 hn
  by_cases h1 : l.length = 1
  · exact List.length_eq_one_iff.1 h1
  · refine absurd ?_ h6
    have hSd := h.sides (by omega)
    rw [hSd.jn]
    show ((comL (parA (l.map leafI)).l (parB (l.map leafI)).l : Nat) : Int) < 256
    rw [hSd.com]
    have := hSd.f256
    omega
/-- Where the parts and leaves that are told make up the tree, nothing unlike is found. -/
theorem hld_cov : ∀ (k : Nat) (T : List Itm) (O l : List Lef), T.length < k → Cov T l → (∀ x ∈ l, hasLf O x.l = true → fndL O x.l = x) → hld k T O l = ([], [], false)
  | 0, _, _, _, hk, _, _ => absurd hk (Nat.not_lt_zero _)
  | k + 1, T, O, l, hk, h, ho => by
    cases h with
    | one h hn =>
      unfold hld
      by_cases hu : unT [jnI l] O = true
      · rw [if_pos hu]
      rw [if_neg hu]
      have hu : unT [jnI l] O = false := by revert hu; cases unT [jnI l] O <;> simp
      have hu : (!(hasLf O (jnI l).l) || decide ((jnI l).n < 256)) = false := hu
      obtain ⟨q1, q2⟩ := Bool.or_eq_false_iff.1 hu
      obtain ⟨x, rfl⟩ := jnI_256 h hn (of_decide_eq_false q2)
      have hf := ho x (List.mem_cons_self ..) (by
        have q1 : (!(hasLf O x.l)) = false := q1
        simpa using q1)
      have ht : tdT [jnI [x]] O = rlT [x] := by
        show leafB (fndL O x.l) = leafB x
        rw [hf]
      rw [if_pos ht, if_pos (show [jnI [x]].length < 2 by exact Nat.lt_succ_self 1)]
    | @two S T _ h h2 hS hT =>
      have hs := cov_split h h2 hS hT
      obtain ⟨a, b⟩ := cov_par h h2 hS hT hS.join hT.join
      have pS := List.length_pos_iff.2 hS.ne
      have pT := List.length_pos_iff.2 hT.ne
      have hl : (S ++ T).length = S.length + T.length := List.length_append
      have hR : spR l = splI (l.map leafI) := by unfold spR; rw [if_pos h2]
      have e1 := hld_cov k S O _ (by omega) hS (fun x hx => ho x (List.mem_of_mem_take hx))
      have e2 := hld_cov k T O _ (by omega) hT (fun x hx => ho x (List.mem_of_mem_drop hx))
      unfold hld
      have hu : unT (S ++ T) O = false := by unfold unT; rw [beq_eq_false_iff_ne.2 (by omega)]; rfl
      have ht : tdT (S ++ T) O = rlT l := by
        unfold tdT rlT
        rw [if_neg (by omega), if_neg (by omega), if_neg (fun e => by rw [e] at h2; simp at h2), if_neg (by omega), a, b]
      rw [if_neg (by rw [hu]; decide), if_pos ht, if_neg (by omega), hs, hR, List.take_left, List.drop_left, e1, e2]
      rfl
theorem cov_open : ∀ (k : Nat) (ls : List (List UInt8)) (l : List Lef), l.length ≤ k → Rsn l → l ≠ [] → ∃ T, Cov T l ∧ T.Perm ((openF k ls l).1 ++ (openF k ls l).2.map leafI)
  | 0, _, _, hk, _, hn => absurd (List.length_eq_zero_iff.1 (by omega)) hn
  | k + 1, ls, l, hk, h, hn => by
    have hp := List.length_pos_iff.2 hn
    rw [openF, if_neg hn]
    by_cases hh : ls.any (hasP (joinF l.length (l.map leafI)).p) = false
    · rw [if_pos hh]
      exact ⟨_, .one h hn, List.Perm.refl _⟩
    rw [if_neg hh]
    by_cases h1 : l.length = 1
    · rw [if_pos h1]
      obtain ⟨x, rfl⟩ := List.length_eq_one_iff.1 h1
      exact ⟨_, .one h hn, List.Perm.refl _⟩
    rw [if_neg h1]
    have hSd := h.sides (by omega)
    have s0 := hSd.s0
    have sl := hSd.sl
    have tk : (l.take (splI (l.map leafI))).length = splI (l.map leafI) := by rw [List.length_take]; omega
    have dr : (l.drop (splI (l.map leafI))).length = l.length - splI (l.map leafI) := List.length_drop
    obtain ⟨S, c1, p1⟩ := cov_open k ls (l.take (splI (l.map leafI))) (by omega) (h.take _) (fun e => by rw [e] at tk; simp at tk; omega)
    obtain ⟨T, c2, p2⟩ := cov_open k ls (l.drop (splI (l.map leafI))) (by omega) (h.drop _) (fun e => by rw [e] at dr; simp at dr; omega)
    refine ⟨S ++ T, .two h (by omega) c1 c2, (p1.append p2).trans ?_⟩
    show ((_ ++ _) ++ (_ ++ _) : List Itm).Perm ((_ ++ _ : List Itm) ++ (_ ++ _ : List Lef).map leafI)
    rw [List.map_append, List.append_assoc, List.append_assoc]
    refine List.Perm.append_left _ ?_
    rw [← List.append_assoc, ← List.append_assoc]
    exact List.Perm.append_right _ List.perm_append_comm
end Go.Proofs.Ytcmgpkibjdbonaa
set_option maxHeartbeats 4000000
namespace Go.Proofs.Ytcmgpkibjdbonaa
open Go Go.RowKit
theorem cov_top {T : List Itm} {l : List Lef} {P : List Itm} {F : List Lef} (h : Cov T l) (hp : T.Perm (P ++ F.map leafI)) (hc : chkI (topU P F) = 0) : topU P F = T := by
  obtain ⟨w1, w2⟩ := topU_chk P F
  have hc2 := w1.1 hc
  rw [w2 hc2, ← srt_eq hp hc2, srt_id h.rise]
theorem one_of {L : List Lef} (hd : L.Pairwise (fun a b => a.l ≠ b.l)) {x y : Lef} (hx : x ∈ L) (hy : y ∈ L) (h : x.l = y.l) : x = y := by
  obtain ⟨i, hi, rfl⟩ := List.getElem_of_mem hx
  obtain ⟨j, hj, rfl⟩ := List.getElem_of_mem hy
  rcases Nat.lt_trichotomy i j with hij | hij | hij
  · exact absurd h (List.pairwise_iff_getElem.1 hd i j hi hj hij)
  · subst hij; rfl
  · exact absurd h.symm (List.pairwise_iff_getElem.1 hd j i hj hi hij)
theorem fndL_in {O : List Lef} {g : List UInt8} (h : hasLf O g = true) : fndL O g ∈ O ∧ (fndL O g).l = g := by
  unfold fndL
  cases hf : O.find? (fun y => y.l == g) with
  | none =>
    obtain ⟨x, hx, hq⟩ := List.any_eq_true.1 h
    exact absurd hq (List.find?_eq_none.1 hf x hx)
  | some x => exact ⟨List.mem_of_find?_eq_some hf, by have := List.find?_some hf; simpa using this⟩
theorem ext_cov {L : List Lef} {T : List Itm} {s : Stp} (hok : ∀ x ∈ L, x.ok) (hc : mkE L = 0) (hT : Cov T (srtL L)) (ht : topU s.same s.old = T) (hO : ∀ x ∈ s.old, x ∈ L) : extP L s = ([], [], false) := by
  unfold extP
  split
  · rfl
  rw [ht]
  refine hld_cov _ _ _ _ (Nat.lt_succ_self _) hT (fun x hx hh => ?_)
  obtain ⟨a, b⟩ := fndL_in hh
  exact one_of (itms_ne hc) (hO _ a) (srtL_mem.1 hx) b
theorem mk_same {L : List Lef} {gone : List (List UInt8)} {fresh : List Lef} (h : (smk L gone fresh).2 = 0) : (smk L gone fresh).1.same = mkSm L (cvI L (lbs gone fresh)) (cvT L (lbs gone fresh)) fresh ∧ (smk L gone fresh).1.old = mkOl L (cvI L (lbs gone fresh)) (cvT L (lbs gone fresh)) fresh := by
  unfold smk at h ⊢
  by_cases hb : 500 < gone.length ∨ 500 < fresh.length
  · rw [if_pos hb] at h; cases h
  rw [if_neg hb] at h ⊢
  by_cases hc : cvE L ≠ 0
  · rw [if_pos hc] at h; exact absurd h hc
  rw [if_neg hc] at h ⊢
  unfold smkF at h ⊢
  by_cases h7 : gone.all (fun g => (cvT L (lbs gone fresh)).any (fun x => x.l == g)) = false
  · rw [if_pos h7] at h; cases h
  rw [if_neg h7] at h ⊢
  by_cases h8 : (cvT L (lbs gone fresh)).all (fun x => gone.any (fun y => x.l == y)) = false
  · rw [if_pos h8] at h; cases h
  rw [if_neg h8] at h ⊢
  unfold smkT at h ⊢
  by_cases ht : chkI (topU (mkSm L (cvI L (lbs gone fresh)) (cvT L (lbs gone fresh)) fresh) (srtL (mkNw L (cvI L (lbs gone fresh)) (cvT L (lbs gone fresh)) fresh))) ≠ 0
  · rw [if_pos ht] at h; exact absurd h ht
  rw [if_neg ht]
  exact ⟨rfl, rfl⟩
theorem mk_cov {L : List Lef} {gone : List (List UInt8)} {fresh : List Lef} (hok : ∀ x ∈ L, x.ok) (hl : L.length ≤ 1000) (hc : mkE L = 0) (hn : L ≠ []) :
    ∃ T, Cov T (srtL L) ∧ T.Perm (mkSm L (cvI L (lbs gone fresh)) (cvT L (lbs gone fresh)) fresh ++ (mkOl L (cvI L (lbs gone fresh)) (cvT L (lbs gone fresh)) fresh).map leafI) := by
  have hS := rsn_srt hok hc
  have hsl := srtL_len L
  have hp := List.length_pos_iff.2 hn
  have hne : srtL L ≠ [] := fun e => by rw [e] at hsl; simp at hsl; omega
  have hE : cvE L = 0 := by unfold cvE; rw [itms_srt]; exact hc
  have eI : cvI L (lbs gone fresh) = (openF (srtL L).length (lbs gone fresh) (srtL L)).1 := by unfold cvI; rw [if_pos hE, hsl]
  have eT : cvT L (lbs gone fresh) = (openF (srtL L).length (lbs gone fresh) (srtL L)).2 := by unfold cvT; rw [if_pos hE, hsl]
  by_cases hsp : spD (cvI L (lbs gone fresh)) (cvT L (lbs gone fresh)) fresh
  · unfold mkSm mkOl
    rw [if_pos hsp, if_pos hsp]
    obtain ⟨p1, p2, p3⟩ := hsp
    by_cases hL1 : L.length = 1
    · rw [if_pos hL1, if_pos hL1]
      obtain ⟨y, rfl⟩ := List.length_eq_one_iff.1 hL1
      exact ⟨_, .one hS hne, List.Perm.refl _⟩
    · rw [if_neg hL1, if_neg hL1, hlf_eq hok hc (by omega) (by omega), List.length_eq_zero_iff.1 p2]
      have hSd := hS.sides (by omega)
      have s0 := hSd.s0
      have sl := hSd.sl
      have tk : ((srtL L).take (splI ((srtL L).map leafI))).length = splI ((srtL L).map leafI) := by rw [List.length_take]; omega
      have dr : ((srtL L).drop (splI ((srtL L).map leafI))).length = (srtL L).length - splI ((srtL L).map leafI) := List.length_drop
      rw [hSd.jA, hSd.jB]
      exact ⟨_, .two hS (by omega) (.one (hS.take _) (fun e => by rw [e] at tk; simp at tk; omega)) (.one (hS.drop _) (fun e => by rw [e] at dr; simp at dr; omega)), List.Perm.refl _⟩
  · unfold mkSm mkOl
    rw [if_neg hsp, if_neg hsp, eI, eT]
    exact cov_open _ _ _ (Nat.le_refl _) hS hne
theorem made_ext {L : List Lef} {gone : List (List UInt8)} {fresh : List Lef} (hok : ∀ x ∈ L, x.ok) (hgo : ∀ x ∈ gone, x.length = 32) (hfo : ∀ x ∈ fresh, x.ok) (hl : L.length ≤ 400) (hfl : fresh.length ≤ 400) (h : (smk L gone fresh).2 = 0) : extP L (smk L gone fresh).1 = ([], [], false) := by
  obtain ⟨hc, Sm, Ol, Nw, he, hL⟩ := mk_leads hok hgo hfo hl hfl h
  obtain ⟨e1, e2⟩ := mk_same h
  by_cases hn : L = []
  · subst hn
    have a1 : Sm = [] := List.length_eq_zero_iff.1 (Nat.le_zero.1 hL.lenS)
    have a2 : Ol = [] := List.length_eq_zero_iff.1 (Nat.le_zero.1 hL.lenO)
    rw [he, a1, a2]
    unfold extP
    split
    · rfl
    rfl
  obtain ⟨T, c1, c2⟩ := mk_cov (gone := gone) (fresh := fresh) hok (by omega) hc hn
  rw [← e1, ← e2] at c2
  have ho := hL.old
  have hi := hL.inO
  rw [he] at c2 ⊢
  exact ext_cov hok hc c1 (cov_top c1 c2 ho) hi
end Go.Proofs.Ytcmgpkibjdbonaa
