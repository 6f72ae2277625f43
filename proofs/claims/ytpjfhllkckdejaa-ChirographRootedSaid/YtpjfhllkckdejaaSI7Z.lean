/- node.Item: the sorting texts, by rules. -/
import Derived.Test.YtpjfhllkckdejaaSI6
import Derived.Test.YtpjfhllkckdejaaV30Z
import Derived.Test.YtpjfhllkckdejaaV17Z
set_option maxHeartbeats 16000000
set_option maxRecDepth 100000
namespace Go.Proofs.Ytpjfhllkckdejaa
open Go Go.RowKit
theorem stable_specI (v : Value) (f : Nat) (gc : List AV) (ho : gc.all isOne = true) (cmp : Itm → Itm → Int) (hcmp : ∀ x y, Spec Try.prog f ([Itm.A x, Itm.A y] ++ gc) [] (fun v os => v = .i .i64 (cmp x y) ∧ os = [])) (W : WO (ltCI cmp)) (X : List Itm) (hl : X.length ≤ 100000) :
    Spec Try.prog 100 [.own 0 v, .i .i64 (X.length : Nat), .fn (.func f) gc] [.row v 36 66 (X.map Itm.A)]
      (fun r os => r = .tup [] ∧ os = [.row v 36 66 ((sortS (ltCI cmp) X).map Itm.A)]) := by
  refine spec_of TtOk [(0, .row v 36 66 (X.map Itm.A))] Try.func100 rfl Try.ntmps100 (by kernel_rfl) rfl rfl (fun C => ?_) rfl
  have his := fun A X D => isort_specI v f gc ho cmp hcmp W A X D
  have hsm := fun A U V D => symMerge_specI v f gc ho cmp hcmp W _ A U V D rfl
  obtain ⟨n, hn⟩ : ∃ n, X.length = n := ⟨_, rfl⟩
  rw [hn] at hl ⊢
  repeat' (first | refine Awp.seq ?_ | refine Awp.block ?_ | refine Awp.region ?_ | (refine Ops.nil ?_; show Awp _ _ _ _ _) | (refine o_calm rfl TtOk rfl rfl rfl ?_ (fun _ => ?_); first | exact True.intro | exact ⟨rfl, rfl, rfl, rfl⟩ | exact ⟨rfl, True.intro⟩ | exact ⟨rfl, rfl⟩ | exact ⟨rfl, rfl, rfl⟩ | exact rfl | exact ⟨fun h0 => by cases h0, rfl⟩ | exact (fun h0 => by cases h0) | exact ⟨rfl, by omega⟩ | exact ⟨Nat.succ_ne_zero _, rfl⟩ | omega))
  refine Awp.loop (fun q : Nat × List Itm × List Itm => ⟨63, [(6, .i .i64 20), (7, .i .i64 ((20 * q.1 : Nat) : Int)), (8, .i .i64 ((20 * q.1 + 20 : Nat) : Int)), (0, .own 0 v), (1, .i .i64 n), (2, .fn (.func f) gc)], [(0, .row v 36 66 ((q.2.1 ++ q.2.2).map Itm.A))]⟩) (fun q => q.2.1.length = q.1 * 20 ∧ Bk (ltCI cmp) 20 q.2.1 ∧ CE (ltCI cmp) X (q.2.1 ++ q.2.2) ∧ q.2.1.length + q.2.2.length = n) (fun q => q.2.2.length) [] (0, [], X) ⟨rfl, Bk.nil _, CE.refl _, by show 0 + X.length = n; omega⟩ ?_ ?_
  · exact ⟨rfl, ⟨sle_i rfl, sle_i rfl, sle_i rfl, sle_own, sle_i rfl, SLe.of_eq rfl, True.intro⟩, HLe.cons 0 rfl (HOLe.refl _) .nil⟩
  rintro ⟨k, P, R⟩ ⟨h1, h2, h3, h4⟩
  dsimp only at h1 h2 h3 h4 ⊢
  by_cases hlt : 20 ≤ R.length
  · have e1 : R.take 20 ++ R.drop 20 = R := List.take_append_drop _ _
    have l1 : (R.take 20).length = 20 := by rw [List.length_take]; omega
    have l2 : (R.drop 20).length = R.length - 20 := List.length_drop
    generalize R.take 20 = Q at e1 l1
    generalize R.drop 20 = R2 at e1 l2
    subst e1
    rw [List.length_append] at hlt l2 h4
    have e2 : P ++ (Q ++ R2) = P ++ Q ++ R2 := (List.append_assoc _ _ _).symm
    rw [e2] at h3 ⊢
    have hcall := his P Q R2 (by simp only [List.length_append]; omega)
    have e3 : (P ++ Q).length = 20 * k + 20 := by rw [List.length_append]; omega
    rw [e3, show P.length = 20 * k by omega] at hcall
    have hce : CE (ltCI cmp) X (P ++ sortS (ltCI cmp) Q ++ R2) := h3.trans (CE.mid P R2 (sortS_ce W Q))
    have hsl := sortS_len W Q
    have hsr := sortS_srt W Q
    generalize sortS (ltCI cmp) Q = S at hcall hce hsl hsr
    clear his hsm
    repeat' (first | refine Awp.seq ?_ | refine Awp.block ?_ | refine Awp.region ?_ | (refine Ops.nil ?_; show Awp _ _ _ _ _) | (refine Ops.nil ?_; show Exists _) | (refine Awp.skip ?_; show Awp _ _ _ _ _) | (refine o_add rfl rfl rfl rfl ?_ ?_; omega) | (refine o_calm rfl TtOk rfl rfl rfl ?_ (fun _ => ?_); first | exact True.intro | exact ⟨rfl, rfl, rfl, rfl⟩ | exact ⟨rfl, True.intro⟩ | exact ⟨rfl, rfl⟩ | exact ⟨rfl, rfl, rfl⟩ | exact rfl | exact ⟨fun h0 => by cases h0, rfl⟩ | exact (fun h0 => by cases h0) | exact ⟨rfl, by omega⟩ | exact ⟨Nat.succ_ne_zero _, rfl⟩ | omega) | (refine a_condP rfl (fun hc => ?_) (fun hc => ?_)) <;> (try (exfalso; omega)) | (refine o_call [] [0] [0] rfl hcall ⟨sle_own, sle_i (by omega), sle_i (by omega), SLe.of_eq rfl, True.intro⟩ rfl ⟨HOLe.refl _, True.intro⟩ rfl rfl ?_; rintro _ _ ⟨rfl, rfl⟩; refine ⟨_, rfl, rfl, ?_⟩))
    exact ⟨(k + 1, P ++ S, R2), [], ⟨by show (P ++ S).length = (k + 1) * 20; rw [List.length_append]; omega, h2.app h1 hsr, hce, by show (P ++ S).length + R2.length = n; rw [List.length_append]; omega⟩, by show R2.length < (Q ++ R2).length; rw [List.length_append]; omega, rfl, ⟨sle_i rfl, sle_i (by show _ = ((20 * (k + 1) : Nat) : Int); omega), sle_i (by show _ = ((20 * (k + 1) + 20 : Nat) : Int); omega), sle_own, sle_i rfl, SLe.of_eq rfl, True.intro⟩, HLe.cons 0 rfl (HOLe.refl _) .nil⟩
  have hcall := his P R [] (by rw [List.append_nil, List.length_append]; omega)
  rw [List.append_nil, List.append_nil, show P.length = 20 * k by omega, show (P ++ R).length = n by rw [List.length_append]; omega] at hcall
  have hce : CE (ltCI cmp) X (P ++ sortS (ltCI cmp) R) := h3.trans ((CE.refl P).app (sortS_ce W R))
  have hbk := h2.app h1 (sortS_srt W R)
  have hln : (P ++ sortS (ltCI cmp) R).length = n := by rw [List.length_append, sortS_len W]; omega
  generalize P ++ sortS (ltCI cmp) R = L1 at hcall hce hbk hln
  clear his
  repeat' (first | refine Awp.seq ?_ | refine Awp.block ?_ | refine Awp.region ?_ | (refine Ops.nil ?_; show Awp _ _ _ _ _) | (refine Awp.exit ?_; show Awp _ _ _ _ _) | (refine o_calm rfl TtOk rfl rfl rfl ?_ (fun _ => ?_); first | exact True.intro | exact ⟨rfl, rfl, rfl, rfl⟩ | exact ⟨rfl, True.intro⟩ | exact ⟨rfl, rfl⟩ | exact ⟨rfl, rfl, rfl⟩ | exact rfl | exact ⟨fun h0 => by cases h0, rfl⟩ | exact (fun h0 => by cases h0) | exact ⟨rfl, by omega⟩ | exact ⟨Nat.succ_ne_zero _, rfl⟩ | omega) | (refine a_condP rfl (fun hc => ?_) (fun hc => ?_)) <;> (try (exfalso; omega)) | (refine o_call [] [0] [0] rfl hcall ⟨sle_own, sle_i (by omega), sle_i (by omega), SLe.of_eq rfl, True.intro⟩ rfl ⟨HOLe.refl _, True.intro⟩ rfl rfl ?_; rintro _ _ ⟨rfl, rfl⟩; refine ⟨_, rfl, rfl, ?_⟩))
  clear hcall h1 h2 h3
  refine Awp.loop (fun q : Nat × List Itm => ⟨63, [(6, .i .i64 q.1), (0, .own 0 v), (1, .i .i64 n), (2, .fn (.func f) gc)], [(0, .row v 36 66 (q.2.map Itm.A))]⟩) (fun q => 1 ≤ q.1 ∧ Bk (ltCI cmp) q.1 q.2 ∧ CE (ltCI cmp) X q.2 ∧ q.2.length = n) (fun q => n - q.1) [] (20, L1) ⟨by show 1 ≤ 20; decide, hbk, hce, hln⟩ ?_ ?_
  · exact ⟨rfl, ⟨sle_i rfl, sle_own, sle_i rfl, SLe.of_eq rfl, True.intro⟩, HLe.cons 0 rfl (HOLe.refl _) .nil⟩
  clear hbk hce hln
  rintro ⟨bs, L⟩ ⟨h1, h2, h3, h4⟩
  dsimp only at h1 h2 h3 h4 ⊢
  by_cases hlt : bs < n
  · repeat' (first | refine Awp.seq ?_ | refine Awp.block ?_ | refine Awp.region ?_ | (refine Ops.nil ?_; show Awp _ _ _ _ _) | (refine Awp.skip ?_; show Awp _ _ _ _ _) | (refine o_mul rfl rfl rfl rfl ?_ ?_; omega) | (refine o_calm rfl TtOk rfl rfl rfl ?_ (fun _ => ?_); first | exact True.intro | exact ⟨rfl, rfl, rfl, rfl⟩ | exact ⟨rfl, True.intro⟩ | exact ⟨rfl, rfl⟩ | exact ⟨rfl, rfl, rfl⟩ | exact rfl | exact ⟨fun h0 => by cases h0, rfl⟩ | exact (fun h0 => by cases h0) | exact ⟨rfl, by omega⟩ | exact ⟨Nat.succ_ne_zero _, rfl⟩ | omega) | (refine a_condP rfl (fun hc => ?_) (fun hc => ?_)) <;> (try (exfalso; omega)))
    refine Awp.loop (fun q : Nat × List Itm × List Itm => ⟨63, [(6, .i .i64 bs), (7, .i .i64 (q.2.1.length : Nat)), (8, .i .i64 ((q.2.1.length + 2 * bs : Nat) : Int)), (0, .own 0 v), (1, .i .i64 n), (2, .fn (.func f) gc)], [(0, .row v 36 66 ((q.2.1 ++ q.2.2).map Itm.A))]⟩) (fun q => q.2.1.length = q.1 * (2 * bs) ∧ Bk (ltCI cmp) (2 * bs) q.2.1 ∧ Bk (ltCI cmp) bs q.2.2 ∧ CE (ltCI cmp) X (q.2.1 ++ q.2.2) ∧ q.2.1.length + q.2.2.length = n) (fun q => q.2.2.length) [] (0, [], L) ⟨by show 0 = 0 * (2 * bs); rw [Nat.zero_mul], Bk.nil _, h2, h3, by show 0 + L.length = n; omega⟩ ?_ ?_
    · exact ⟨rfl, ⟨sle_i rfl, sle_i rfl, sle_i (by show _ = ((0 + 2 * bs : Nat) : Int); omega), sle_own, sle_i rfl, SLe.of_eq rfl, True.intro⟩, HLe.cons 0 rfl (HOLe.refl _) .nil⟩
    clear h2 h3 h4 L
    rintro ⟨k, P, R⟩ ⟨g1, g2, g3, g4, g5⟩
    dsimp only at g1 g2 g3 g4 g5 ⊢
    have sU := g3 0
    have sV := g3 1
    rw [Nat.zero_mul, List.drop_zero] at sU
    rw [Nat.one_mul] at sV
    obtain ⟨pl, hpl⟩ : ∃ pl, P.length = pl := ⟨_, rfl⟩
    by_cases hge : 2 * bs ≤ R.length
    · have e1 : R.take bs ++ (R.drop bs).take bs ++ R.drop (2 * bs) = R := by
        rw [List.append_assoc, show R.drop (2 * bs) = (R.drop bs).drop bs by rw [List.drop_drop]; congr 1; omega, List.take_append_drop, List.take_append_drop]
      have l1 : (R.take bs).length = bs := by rw [List.length_take]; omega
      have l2 : ((R.drop bs).take bs).length = bs := by rw [List.length_take, List.length_drop]; omega
      have l3 : (R.drop (2 * bs)).length = R.length - 2 * bs := List.length_drop
      have g6 := g3.drop 2
      generalize R.take bs = U at *
      generalize (R.drop bs).take bs = V at *
      generalize R.drop (2 * bs) = R2 at *
      have e2 : P ++ R = P ++ U ++ V ++ R2 := by rw [← e1]; simp only [List.append_assoc]
      have hcall := hsm P U V R2 (by omega) (by omega) sU sV (by rw [← e2, List.length_append]; omega)
      rw [← e2, show (P ++ U).length = pl + bs by rw [List.length_append]; omega, show (P ++ U ++ V).length = pl + 2 * bs by simp only [List.length_append]; omega, hpl] at hcall
      have hce : CE (ltCI cmp) X (P ++ sortS (ltCI cmp) (U ++ V) ++ R2) := by
        refine g4.trans ?_
        rw [e2, List.append_assoc P U V]
        exact CE.mid P R2 (sortS_ce W (U ++ V))
      have hsl := sortS_len W (U ++ V)
      rw [List.length_append] at hsl
      have hsr := sortS_srt W (U ++ V)
      generalize sortS (ltCI cmp) (U ++ V) = S at hcall hce hsl hsr
      rw [hpl]
      clear hsm
      repeat' (first | refine Awp.seq ?_ | refine Awp.block ?_ | refine Awp.region ?_ | (refine Ops.nil ?_; show Awp _ _ _ _ _) | (refine Ops.nil ?_; show Exists _) | (refine Awp.skip ?_; show Awp _ _ _ _ _) | (refine o_add rfl rfl rfl rfl ?_ ?_; omega) | (refine o_mul rfl rfl rfl rfl ?_ ?_; omega) | (refine o_calm rfl TtOk rfl rfl rfl ?_ (fun _ => ?_); first | exact True.intro | exact ⟨rfl, rfl, rfl, rfl⟩ | exact ⟨rfl, True.intro⟩ | exact ⟨rfl, rfl⟩ | exact ⟨rfl, rfl, rfl⟩ | exact rfl | exact ⟨fun h0 => by cases h0, rfl⟩ | exact (fun h0 => by cases h0) | exact ⟨rfl, by omega⟩ | exact ⟨Nat.succ_ne_zero _, rfl⟩ | omega) | (refine a_condP rfl (fun hc => ?_) (fun hc => ?_)) <;> (try (exfalso; omega)) | (refine o_call [] [0] [0] rfl hcall ⟨sle_own, sle_i (by omega), sle_i (by omega), sle_i (by omega), SLe.of_eq rfl, True.intro⟩ rfl ⟨HOLe.refl _, True.intro⟩ rfl rfl ?_; rintro _ _ ⟨rfl, rfl⟩; refine ⟨_, rfl, rfl, ?_⟩))
      exact ⟨(k + 1, P ++ S, R2), [], ⟨by show (P ++ S).length = (k + 1) * (2 * bs); rw [List.length_append, g1, hsl, l1, l2, Nat.add_mul]; omega, g2.app g1 hsr, g6, hce, by show (P ++ S).length + R2.length = n; rw [List.length_append]; omega⟩, by show R2.length < R.length; omega, rfl, ⟨sle_i rfl, sle_i (by show _ = (((P ++ S).length : Nat) : Int); rw [List.length_append]; omega), sle_i (by show _ = (((P ++ S).length + 2 * bs : Nat) : Int); rw [List.length_append]; omega), sle_own, sle_i rfl, SLe.of_eq rfl, True.intro⟩, HLe.cons 0 rfl (HOLe.refl _) .nil⟩
    rw [hpl]
    by_cases hm : bs < R.length
    · have e1 : R.take bs ++ R.drop bs = R := List.take_append_drop _ _
      have l1 : (R.take bs).length = bs := by rw [List.length_take]; omega
      have l2 : (R.drop bs).length = R.length - bs := List.length_drop
      rw [List.take_of_length_le (by omega)] at sV
      generalize R.take bs = U at *
      generalize R.drop bs = V at *
      have e2 : P ++ R = P ++ U ++ V ++ [] := by rw [← e1]; simp only [List.append_assoc, List.append_nil]
      have hcall := hsm P U V [] (by omega) (by omega) sU sV (by rw [← e2, List.length_append]; omega)
      rw [← e2, List.append_nil, show (P ++ U).length = pl + bs by rw [List.length_append]; omega, show (P ++ U ++ V).length = n by simp only [List.length_append]; omega, hpl, e1] at hcall
      have hce : CE (ltCI cmp) X (P ++ sortS (ltCI cmp) R) := g4.trans ((CE.refl P).app (sortS_ce W R))
      have hsl := sortS_len W R
      have hsr := sortS_srt W R
      have hbk := g2.app g1 hsr
      have hln : (P ++ sortS (ltCI cmp) R).length = n := by rw [List.length_append]; omega
      generalize P ++ sortS (ltCI cmp) R = L2 at hcall hce hbk hln
      clear hsm
      repeat' (first | refine Awp.seq ?_ | refine Awp.region ?_ | (refine Ops.nil ?_; show Awp _ _ _ _ _) | (refine Ops.nil ?_; show Exists _) | (refine Awp.exit ?_; show Awp _ _ _ _ _) | (refine o_add rfl rfl rfl rfl ?_ ?_; omega) | (refine o_mul rfl rfl rfl rfl ?_ ?_; omega) | (refine o_calm rfl TtOk rfl rfl rfl ?_ (fun _ => ?_); first | exact True.intro | exact ⟨rfl, rfl, rfl, rfl⟩ | exact ⟨rfl, True.intro⟩ | exact ⟨rfl, rfl⟩ | exact ⟨rfl, rfl, rfl⟩ | exact rfl | exact ⟨fun h0 => by cases h0, rfl⟩ | exact (fun h0 => by cases h0) | exact ⟨rfl, by omega⟩ | exact ⟨Nat.succ_ne_zero _, rfl⟩ | omega) | (refine a_condP rfl (fun hc => ?_) (fun hc => ?_)) <;> (try (exfalso; omega)) | (refine o_call [] [0] [0] rfl hcall ⟨sle_own, sle_i (by omega), sle_i (by omega), sle_i (by omega), SLe.of_eq rfl, True.intro⟩ rfl ⟨HOLe.refl _, True.intro⟩ rfl rfl ?_; rintro _ _ ⟨rfl, rfl⟩; refine ⟨_, rfl, rfl, ?_⟩))
      exact ⟨(2 * bs, L2), [], ⟨by show 1 ≤ 2 * bs; omega, hbk, hce, hln⟩, by show n - 2 * bs < n - bs; omega, rfl, ⟨sle_i (by show _ = ((2 * bs : Nat) : Int); omega), sle_own, sle_i rfl, SLe.of_eq rfl, True.intro⟩, HLe.cons 0 rfl (HOLe.refl _) .nil⟩
    · rw [List.take_of_length_le (by omega)] at sU
      have hbk := g2.app g1 sU
      have hln : (P ++ R).length = n := by rw [List.length_append]; omega
      generalize P ++ R = L2 at g4 hbk hln ⊢
      clear hsm
      repeat' (first | refine Awp.seq ?_ | refine Awp.region ?_ | (refine Ops.nil ?_; show Awp _ _ _ _ _) | (refine Ops.nil ?_; show Exists _) | (refine Awp.skip ?_; show Awp _ _ _ _ _) | (refine Awp.exit ?_; show Awp _ _ _ _ _) | (refine o_add rfl rfl rfl rfl ?_ ?_; omega) | (refine o_mul rfl rfl rfl rfl ?_ ?_; omega) | (refine o_calm rfl TtOk rfl rfl rfl ?_ (fun _ => ?_); first | exact True.intro | exact ⟨rfl, rfl, rfl, rfl⟩ | exact ⟨rfl, True.intro⟩ | exact ⟨rfl, rfl⟩ | exact ⟨rfl, rfl, rfl⟩ | exact rfl | exact ⟨fun h0 => by cases h0, rfl⟩ | exact (fun h0 => by cases h0) | exact ⟨rfl, by omega⟩ | exact ⟨Nat.succ_ne_zero _, rfl⟩ | omega) | (refine a_condP rfl (fun hc => ?_) (fun hc => ?_)) <;> (try (exfalso; omega)))
      exact ⟨(2 * bs, L2), [], ⟨by show 1 ≤ 2 * bs; omega, hbk, g4, hln⟩, by show n - 2 * bs < n - bs; omega, rfl, ⟨sle_i (by show _ = ((2 * bs : Nat) : Int); omega), sle_own, sle_i rfl, SLe.of_eq rfl, True.intro⟩, HLe.cons 0 rfl (HOLe.refl _) .nil⟩
  · have hs := h2 0
    rw [Nat.zero_mul, List.drop_zero, List.take_of_length_le (by omega)] at hs
    have hfin := sortS_of W hs h3
    subst hfin
    generalize sortS (ltCI cmp) X = L
    repeat' (first | refine Awp.seq ?_ | refine Awp.region ?_ | (refine Ops.nil ?_; show Awp _ _ _ _ _) | (refine Awp.exit ?_; show endK _ _ _ _ _) | (refine o_calm rfl TtOk rfl rfl rfl ?_ (fun _ => ?_); first | exact True.intro | exact ⟨rfl, rfl, rfl, rfl⟩ | exact ⟨rfl, True.intro⟩ | exact ⟨rfl, rfl⟩ | exact ⟨rfl, rfl, rfl⟩ | exact rfl | exact ⟨fun h0 => by cases h0, rfl⟩ | exact (fun h0 => by cases h0) | exact ⟨rfl, by omega⟩ | exact ⟨Nat.succ_ne_zero _, rfl⟩ | omega) | (refine a_condP rfl (fun hc => ?_) (fun hc => ?_)) <;> (try (exfalso; omega)))
    exact end_none rfl [] [(0, _)] (HLe.cons 0 rfl (HOLe.refl _) .nil) ⟨rfl, rfl⟩ _ (by first | exact .inl rfl | exact .inr rfl)
theorem sortStable_specI (v : Value) (f : Nat) (gc : List AV) (ho : gc.all isOne = true) (cmp : Itm → Itm → Int) (hcmp : ∀ x y, Spec Try.prog f ([Itm.A x, Itm.A y] ++ gc) [] (fun v os => v = .i .i64 (cmp x y) ∧ os = [])) (W : WO (ltCI cmp)) (X : List Itm) (hl : X.length ≤ 100000) :
    Spec Try.prog 66 [.own 0 v, .fn (.func f) gc] [.row v 36 66 (X.map Itm.A)]
      (fun r os => r = .tup [] ∧ os = [.row v 36 66 ((sortS (ltCI cmp) X).map Itm.A)]) := by
  refine spec_of TtOk [(0, .row v 36 66 (X.map Itm.A))] Try.func66 rfl Try.ntmps66 (by kernel_rfl) rfl rfl (fun C => ?_) rfl
  have hcall := stable_specI v f gc ho cmp hcmp W X hl
  generalize sortS (ltCI cmp) X = L at hcall ⊢
  repeat' (first | refine Awp.region ?_ | (refine Ops.nil ?_; show endK _ _ _ _ _) | refine o_lenOwn rfl TtOk rfl rfl rfl rfl (fun _ => ?_) | (refine o_calm rfl TtOk rfl rfl rfl ?_ (fun _ => ?_); first | exact True.intro | exact ⟨rfl, rfl, rfl, rfl⟩ | exact ⟨rfl, True.intro⟩ | exact ⟨rfl, rfl⟩ | exact ⟨rfl, rfl, rfl⟩ | exact rfl | exact ⟨fun h0 => by cases h0, rfl⟩ | exact (fun h0 => by cases h0) | exact ⟨rfl, by omega⟩ | exact ⟨Nat.succ_ne_zero _, rfl⟩ | omega) | (refine o_call [] [0] [0] rfl hcall ⟨sle_own, sle_i (by omega), SLe.of_eq rfl, True.intro⟩ rfl ⟨HOLe.refl _, True.intro⟩ rfl rfl ?_; rintro _ _ ⟨rfl, rfl⟩; refine ⟨_, rfl, rfl, ?_⟩))
  exact end_none rfl [] [(0, _)] (HLe.cons 0 rfl (HOLe.refl _) .nil) ⟨rfl, rfl⟩ _ (by first | exact .inl rfl | exact .inr rfl)
end Go.Proofs.Ytpjfhllkckdejaa
set_option maxHeartbeats 8000000
set_option maxRecDepth 100000
namespace Go.Proofs.Ytpjfhllkckdejaa
open Go Go.RowKit
theorem cmp_wo {α : Type} (f : α → List UInt8) {lt : α → α → Bool} (h : ∀ x y, lt x y = decide (cmpS (f x) (f y) < 0)) : WO lt := by
  have e : ∀ x y, lt x y = Op.bytesLess (f x) (f y) := fun x y => by
    rw [h]
    cases hb : Op.bytesLess (f x) (f y)
    · exact decide_eq_false (fun hc => by rw [cmpS_neg.1 hc] at hb; cases hb)
    · exact decide_eq_true (cmpS_neg.2 hb)
  refine ⟨fun x => by rw [e, less_irr], fun x y k => ?_, fun x y z k1 k2 => ?_, fun x y z k1 k2 => ?_⟩
  · rw [e] at k ⊢; exact less_asymm k
  · rw [e] at *; exact less_trans k1 k2
  · rw [e] at *
    cases hb : Op.bytesLess (f x) (f z)
    · rfl
    · rw [less_ge hb k2] at k1; cases k1
def ordI (x y : Itm) : Int := cmpS x.l y.l
theorem woI : WO (ltCI ordI) := cmp_wo Itm.l (fun _ _ => rfl)
def srtI (l : List Itm) : List Itm := sortS (ltCI ordI) l
theorem srtI_len (l : List Itm) : (srtI l).length = l.length := sortS_len woI l
theorem srtI_mem {l : List Itm} {x : Itm} : x ∈ srtI l ↔ x ∈ l := ⟨fun h => CE.mem woI (sortS_ce woI l).symm h, fun h => CE.mem woI (sortS_ce woI l) h⟩
theorem cloneI_spec (xs : List AV) (hl : xs.length ≤ 1000000) :
    Spec Try.prog 65 [.sl 66 xs] [] (fun r os => ∃ v, r = .own 0 v ∧ os = [.row v 36 66 xs]) := by
  refine spec_of TtOk [] Try.func65 rfl Try.ntmps65 (by kernel_rfl) rfl rfl (fun C => ?_) rfl
  repeat' (first | refine Awp.seq ?_ | refine Awp.region ?_ | (refine Ops.nil ?_; show Awp _ _ _ _ _) | (refine Awp.skip ?_; show Awp _ _ _ _ _) | (refine Awp.ret ?_; show endK _ _ _ _ _) | (refine o_calm rfl TtOk rfl rfl rfl ?_ (fun _ => ?_); first | exact True.intro | exact ⟨rfl, rfl, rfl, rfl⟩ | exact ⟨rfl, True.intro⟩ | exact ⟨rfl, rfl⟩ | exact ⟨rfl, rfl, rfl⟩ | exact rfl | exact ⟨fun h0 => by cases h0, rfl⟩ | exact (fun h0 => by cases h0) | exact ⟨rfl, by omega⟩ | exact ⟨Nat.succ_ne_zero _, rfl⟩ | omega) | refine o_buildSlice TtOk rfl rfl rfl rfl rfl rfl rfl rfl rfl rfl rfl (by repeat' (first | exact True.intro | exact rfl | refine ⟨?_, ?_⟩)) (fun _ => ?_) | (refine o_append TtOk rfl rfl rfl rfl rfl rfl rfl rfl rfl (by first | exact True.intro | exact rfl) rfl rfl (fun _ => rfl) ?_ ?_ (fun _ => ?_); ((repeat' (first | rw [List.length_append] | rw [List.length_map] | rw [List.length_cons] | rw [List.length_nil] | rw [List.length_take] | rw [List.length_drop])) <;> omega); ((repeat' (first | rw [List.length_append] | rw [List.length_map] | rw [List.length_cons] | rw [List.length_nil] | rw [List.length_take] | rw [List.length_drop])) <;> omega)) | (refine Awp.cond rfl (fun hc => ?_) (fun hc => ?_)) | (refine o_eqNilSl TtOk rfl rfl rfl rfl rfl (fun c hc0 => ?_)))
  · have := hc0 hc
    subst this
    exact end_tmp rfl rfl rfl [] [(0, _)] (CLe.nilown (k := 0)) (.none .nil) ⟨_, rfl, rfl⟩ _ (.inl rfl)
  · exact end_tmp rfl rfl rfl [] [(0, _)] CLe.own (HLe.cons 5 rfl (HOLe.refl _) .nil) ⟨_, rfl, rfl⟩ _ (.inl rfl)
theorem sorted1_spec (x y : Itm) : Spec Try.prog 67 ([x.A, y.A] ++ []) [] (fun v os => v = .i .i64 (ordI x y) ∧ os = []) := by
  have h1 := border_spec x.l y.l
  have ho : ordI x y = cmpS x.l y.l := rfl
  rw [ho]
  generalize cmpS x.l y.l = c at h1 ⊢
  show Spec Try.prog 67 [.agg [pfxA x.n x.l, labA x.s, .i .i64 x.t], .agg [pfxA y.n y.l, labA y.s, .i .i64 y.t]] [] _
  refine spec_of TtOk [] Try.func67 rfl Try.ntmps67 (by kernel_rfl) rfl rfl (fun C => ?_) rfl
  repeat' (first | refine Awp.seq ?_ | refine Awp.region ?_ | (refine Ops.nil ?_; show Awp _ _ _ _ _) | (refine Awp.ret ?_; show endK _ _ _ _ _) | (refine o_calm rfl TtOk rfl rfl rfl ?_ (fun _ => ?_); first | exact True.intro | exact ⟨rfl, rfl, rfl, rfl⟩ | exact ⟨rfl, True.intro⟩ | exact ⟨rfl, rfl⟩ | exact ⟨rfl, rfl, rfl⟩ | exact rfl | exact ⟨fun h0 => by cases h0, rfl⟩ | exact (fun h0 => by cases h0) | exact ⟨rfl, by omega⟩ | exact ⟨Nat.succ_ne_zero _, rfl⟩ | omega) | refine o_box (d := 2) rfl rfl rfl rfl (fun b2 => ?_) | refine o_box (d := 3) rfl rfl rfl rfl (fun b3 => ?_) | (refine o_call0 rfl (h1) ⟨SLe.of_eq rfl, SLe.of_eq rfl, True.intro⟩ rfl ?_; rintro _ _ ⟨rfl, rfl⟩; refine ⟨rfl, ?_⟩))
  exact end_tmp rfl rfl rfl [] [] (CLe.of_eq rfl) .nil ⟨rfl, rfl⟩ _ (.inl rfl)
theorem sorted_spec (l : List Itm) (hl : l.length ≤ 100000) : Spec Try.prog 27 [.sl 66 (l.map Itm.A)] [] (fun v os => v = .sl 66 ((srtI l).map Itm.A) ∧ os = []) := by
  refine spec_of TtOk [] Try.func27 rfl Try.ntmps27 (by kernel_rfl) rfl rfl (fun C => ?_) rfl
  have h1 := cloneI_spec (l.map Itm.A) (by rw [List.length_map]; omega)
  have h2 := fun v => sortStable_specI v 67 [] rfl ordI sorted1_spec woI l hl
  have hs : sortS (ltCI ordI) l = srtI l := rfl
  rw [hs] at h2
  generalize srtI l = r at h2 ⊢
  repeat' (first | refine Awp.seq ?_ | refine Awp.region ?_ | (refine Ops.nil ?_; show Awp _ _ _ _ _) | (refine Awp.ret ?_; show endK _ _ _ _ _) | (refine o_calm rfl TtOk rfl rfl rfl ?_ (fun _ => ?_); first | exact True.intro | exact ⟨rfl, rfl, rfl, rfl⟩ | exact ⟨rfl, True.intro⟩ | exact ⟨rfl, rfl⟩ | exact ⟨rfl, rfl, rfl⟩ | exact rfl | exact ⟨fun h0 => by cases h0, rfl⟩ | exact (fun h0 => by cases h0) | exact ⟨rfl, by omega⟩ | exact ⟨Nat.succ_ne_zero _, rfl⟩ | omega) | (refine o_callR rfl h1 ⟨SLe.of_eq rfl, True.intro⟩ rfl (fun vR => ?_)) | (refine o_call [] [5] [5] rfl (h2 _) ⟨sle_own, SLe.of_eq rfl, True.intro⟩ rfl ⟨HOLe.refl _, True.intro⟩ rfl rfl ?_; rintro _ _ ⟨rfl, rfl⟩; refine ⟨_, rfl, rfl, ?_⟩))
  refine end_tmp rfl rfl rfl [5] [] (CLe.fz ?_) .nil ⟨rfl, rfl⟩ _ (.inl rfl)
  exact .head _
def itmsL (l : List Lef) : List Itm := srtI (l.map leafI)
theorem of_spec (l : List Lef) (hl : l.length ≤ 100000) (hok : ∀ x ∈ l, x.ok) : Spec Try.prog 14 [.sl 65 (l.map Lef.A)] [] (fun v os => v = .sl 66 ((itmsL l).map Itm.A) ∧ os = []) := by
  refine spec_of TtOk [] Try.func14 rfl Try.ntmps14 (by kernel_rfl) rfl rfl (fun C => ?_) rfl
  repeat' (first | refine Awp.seq ?_ | refine Awp.block ?_ | refine Awp.region ?_ | (refine Ops.nil ?_; show Awp _ _ _ _ _) | refine o_len rfl TtOk rfl rfl rfl (fun _ => ?_) | (refine o_calm rfl TtOk rfl rfl rfl ?_ (fun _ => ?_); first | exact True.intro | exact ⟨rfl, rfl, rfl, rfl⟩ | exact ⟨rfl, True.intro⟩ | exact ⟨rfl, rfl⟩ | exact ⟨rfl, rfl, rfl⟩ | exact rfl | exact ⟨fun h0 => by cases h0, rfl⟩ | exact (fun h0 => by cases h0) | exact ⟨rfl, by omega⟩ | exact ⟨Nat.succ_ne_zero _, rfl⟩ | omega))
  refine Awp.loop (fun q : Nat × Value => ⟨20, [(8, .i .i64 q.1), (7, .i .i64 l.length), (6, .sl 65 (l.map Lef.A)), (3, .own 3 q.2)], [(3, .row q.2 36 66 (((l.map leafI).take q.1).map Itm.A))]⟩) (fun q => q.1 ≤ l.length) (fun q => l.length - q.1) [] (0, .slice none 0 0) (Nat.zero_le _) ?_ ?_
  · exact ⟨rfl, ⟨sle_i rfl, sle_i rfl, sle_sl rfl, sle_nilown, True.intro⟩, HLe.none .nil⟩
  rintro ⟨i, v⟩ hi
  dsimp only at hi ⊢
  have hml : (l.map leafI).length = l.length := List.length_map ..
  by_cases hlt : i < l.length
  · have h1 := litem_spec l[i] (hok _ (List.getElem_mem hlt))
    have hi1 : ((i : Int) + 1 = ((i + 1 : Nat) : Int)) := by omega
    have hst : (l.map leafI).take (i + 1) = (l.map leafI).take i ++ [leafI l[i]] := by rw [List.take_succ_eq_append_getElem (by omega), List.getElem_map]
    have hln : ((l.map leafI).take i).length = i := by rw [List.length_take]; omega
    generalize (l.map leafI).take i = T at hst hln ⊢
    repeat' (first | refine Awp.seq ?_ | refine Awp.block ?_ | refine Awp.region ?_ | (refine Ops.nil ?_; show Awp _ _ _ _ _) | (refine Ops.nil ?_; show Exists _) | (refine Awp.skip ?_; show Awp _ _ _ _ _) | (refine o_add rfl rfl rfl rfl ?_ ?_; omega) | (refine o_calm rfl TtOk rfl rfl rfl ?_ (fun _ => ?_); first | exact True.intro | exact ⟨rfl, rfl, rfl, rfl⟩ | exact ⟨rfl, True.intro⟩ | exact ⟨rfl, rfl⟩ | exact ⟨rfl, rfl, rfl⟩ | exact rfl | exact ⟨fun h0 => by cases h0, rfl⟩ | exact (fun h0 => by cases h0) | exact ⟨rfl, by omega⟩ | exact ⟨Nat.succ_ne_zero _, rfl⟩ | omega) | refine o_alloc (d := 5) rfl TtOk rfl rfl rfl (fun b5 => ?_) | refine o_store TtOk rfl rfl rfl rfl rfl rfl rfl ⟨rfl, rfl⟩ rfl rfl rfl rfl rfl ?_ | (refine o_index rfl TtOk rfl rfl rfl rfl rfl rfl ?_ (getq_nat ?_) ?_; omega; omega) | refine o_buildSlice TtOk rfl rfl rfl rfl rfl rfl rfl rfl rfl rfl rfl (by repeat' (first | exact True.intro | exact rfl | refine ⟨?_, ?_⟩)) (fun _ => ?_) | (refine o_append TtOk rfl rfl rfl rfl rfl rfl rfl rfl rfl (by first | exact True.intro | exact rfl) rfl rfl (fun _ => rfl) ?_ ?_ (fun _ => ?_); ((repeat' (first | rw [List.length_append] | rw [List.length_map] | rw [List.length_cons] | rw [List.length_nil] | rw [List.length_take] | rw [List.length_drop])) <;> omega); ((repeat' (first | rw [List.length_append] | rw [List.length_map] | rw [List.length_cons] | rw [List.length_nil] | rw [List.length_take] | rw [List.length_drop])) <;> omega)) | (refine a_condP rfl (fun hc => ?_) (fun hc => ?_)) <;> (try (exfalso; omega)) | (refine o_call0 rfl (h1) ⟨SLe.of_eq rfl, True.intro⟩ rfl ?_; rintro _ _ ⟨rfl, rfl⟩; refine ⟨rfl, ?_⟩))
    refine ⟨(i + 1, _), [], hlt, by show l.length - (i + 1) < l.length - i; omega, rfl, ⟨sle_i hi1, sle_i rfl, sle_sl rfl, sle_own, True.intro⟩, HLe.cons 3 rfl (HOLe.row ?_) .nil⟩
    rw [hst, List.map_append]; rfl
  · have hie : i = l.length := by omega
    subst hie
    rw [List.take_of_length_le (by omega)]
    have h2 := sorted_spec (l.map leafI) (by omega)
    have hit : srtI (l.map leafI) = itmsL l := rfl
    rw [hit] at h2
    generalize l.map leafI = T at h2 ⊢
    generalize itmsL l = R at h2 ⊢
    repeat' (first | refine Awp.seq ?_ | refine Awp.region ?_ | (refine Ops.nil ?_; show Awp _ _ _ _ _) | (refine Awp.exit ?_; show Awp _ _ _ _ _) | (refine Awp.ret ?_; show endK _ _ _ _ _) | (refine o_calm rfl TtOk rfl rfl rfl ?_ (fun _ => ?_); first | exact True.intro | exact ⟨rfl, rfl, rfl, rfl⟩ | exact ⟨rfl, True.intro⟩ | exact ⟨rfl, rfl⟩ | exact ⟨rfl, rfl, rfl⟩ | exact rfl | exact ⟨fun h0 => by cases h0, rfl⟩ | exact (fun h0 => by cases h0) | exact ⟨rfl, by omega⟩ | exact ⟨Nat.succ_ne_zero _, rfl⟩ | omega) | (refine a_condP rfl (fun hc => ?_) (fun hc => ?_)) <;> (try (exfalso; omega)) | (refine o_call [3] [] [] rfl h2 ⟨SLe.of_cle (CLe.fz (.head _)) rfl, True.intro⟩ rfl True.intro rfl rfl ?_; rintro _ _ ⟨rfl, rfl⟩; refine ⟨_, rfl, rfl, ?_⟩))
    exact end_tmp rfl rfl rfl [] [] (CLe.of_eq rfl) .nil ⟨rfl, rfl⟩ _ (.inl rfl)
end Go.Proofs.Ytpjfhllkckdejaa
set_option maxHeartbeats 8000000
set_option maxRecDepth 100000
namespace Go.Proofs.Ytpjfhllkckdejaa
open Go Go.RowKit
theorem cmp_trans {a b c : List UInt8} (h : cmpS a b < 0) (k : cmpS b c < 0) : cmpS a c < 0 := cmpS_neg.2 (less_trans (cmpS_neg.1 h) (cmpS_neg.1 k))
theorem chkL_rise : ∀ (r : List Itm) (a : Itm), chkL (some a) r = 0 → (∀ y ∈ r, cmpS a.l y.l < 0) ∧ RiseI r ∧ ∀ y ∈ r, goodI y = true
  | [], _, _ => ⟨fun y h => (by cases h), List.Pairwise.nil, fun y h => (by cases h)⟩
  | x :: r, a, h => by
    have h : (if goodI x = true then (if badI a x = true then 3 else chkL (some x) r) else 1) = 0 := h
    by_cases hg : goodI x = true
    · rw [if_pos hg] at h
      by_cases hb : badI a x = true
      · rw [if_pos hb] at h; cases h
      · rw [if_neg hb] at h
        obtain ⟨i1, i2, i3⟩ := chkL_rise r x h
        have hlt : cmpS a.l x.l < 0 := by
          unfold badI at hb
          simp only [Bool.or_eq_true, not_or, decide_eq_true_eq] at hb
          omega
        refine ⟨fun y hy => ?_, List.pairwise_cons.2 ⟨i1, i2⟩, fun y hy => ?_⟩
        · rcases List.mem_cons.1 hy with rfl | hy
          · exact hlt
          · exact cmp_trans hlt (i1 y hy)
        · rcases List.mem_cons.1 hy with rfl | hy
          · exact hg
          · exact i3 y hy
    · rw [if_neg hg] at h; cases h
theorem chkI_rise {l : List Itm} (h : chkI l = 0) : l.length ≤ 2000 ∧ RiseI l ∧ ∀ y ∈ l, goodI y = true := by
  unfold chkI at h
  by_cases h2 : 2000 < l.length
  · rw [if_pos h2] at h; cases h
  rw [if_neg h2] at h
  refine ⟨by omega, ?_⟩
  cases l with
  | nil => exact ⟨List.Pairwise.nil, fun y h => (by cases h)⟩
  | cons x r =>
    have h : (if goodI x = true then chkL (some x) r else 1) = 0 := h
    by_cases hg : goodI x = true
    · rw [if_pos hg] at h
      obtain ⟨i1, i2, i3⟩ := chkL_rise r x h
      exact ⟨List.pairwise_cons.2 ⟨i1, i2⟩, fun y hy => by
        rcases List.mem_cons.1 hy with rfl | hy
        · exact hg
        · exact i3 y hy⟩
    · rw [if_neg hg] at h; cases h
def z32 : List UInt8 := List.replicate 32 0
def topS (l : List Itm) : List UInt8 := if chkI l ≠ 0 then z32 else if l = [] then shaN [18] else (joinF l.length l).s
theorem top_spec (l : List Itm) (hl : l.length ≤ 100000) (hok : ∀ x ∈ l, x.ok) : Spec Try.prog 10 [.sl 66 (l.map Itm.A)] [] (fun v os => v = .tup [labA (topS l), .i .i64 (chkI l)] ∧ os = []) := by
  refine spec_of TtOk [] Try.func10 rfl Try.ntmps10 (by kernel_rfl) rfl rfl (fun C => ?_) rfl
  have h1 := pcheck_spec l hl hok
  have h2 := @chkI_rise l
  unfold topS
  generalize chkI l = c at h1 h2 ⊢
  by_cases hc0 : c = 0
  · subst hc0
    rw [if_neg (fun h => h rfl)]
    obtain ⟨-, h3, -⟩ := h2 rfl
    by_cases hn : l = []
    · rw [if_pos hn]
      subst hn
      have h4 := nempty_spec
      generalize shaN [18] = s at h4 ⊢
      repeat' (first | refine Awp.seq ?_ | refine Awp.region ?_ | (refine Ops.nil ?_; show Awp _ _ _ _ _) | (refine Awp.skip ?_; show Awp _ _ _ _ _) | (refine Awp.ret ?_; show endK _ _ _ _ _) | refine o_len rfl TtOk rfl rfl rfl (fun _ => ?_) | (refine o_calm rfl TtOk rfl rfl rfl ?_ (fun _ => ?_); first | exact True.intro | exact ⟨rfl, rfl, rfl, rfl⟩ | exact ⟨rfl, True.intro⟩ | exact ⟨rfl, rfl⟩ | exact ⟨rfl, rfl, rfl⟩ | exact rfl | exact ⟨fun h0 => by cases h0, rfl⟩ | exact (fun h0 => by cases h0) | exact ⟨rfl, by omega⟩ | exact ⟨Nat.succ_ne_zero _, rfl⟩ | omega) | refine o_alloc (d := 2) rfl TtOk rfl rfl rfl (fun b2 => ?_) | refine o_store TtOk rfl rfl rfl rfl rfl rfl rfl ⟨rfl, rfl⟩ rfl rfl rfl rfl rfl ?_ | refine a_condT rfl ?_ | refine a_condF rfl ?_ | (refine o_call0 rfl (h1) ⟨SLe.of_eq rfl, True.intro⟩ rfl ?_; rintro _ _ ⟨rfl, rfl⟩; refine ⟨rfl, ?_⟩) | (refine o_call0 rfl (h4) True.intro rfl ?_; rintro _ _ ⟨rfl, rfl⟩; refine ⟨rfl, ?_⟩))
      refine end_all [] [] (.tup [labA s, .i .i64 0]) rfl ?_ ?_ (rle_tup2 (CLe.of_eq rfl) (CLe.of_eq rfl) rfl rfl) .nil ⟨rfl, rfl⟩ _ (.inl rfl)
      · repeat' (first | exact True.intro | exact rfl | refine ⟨?_, ?_⟩)
      · exact ⟨trivial, trivial, trivial⟩
    · rw [if_neg hn]
      have h5 : 0 < l.length := List.length_pos_iff.2 hn
      have h4 := join_spec l.length l hn (Nat.le_refl _) hl h3 hok
      generalize joinF l.length l = x at h4 ⊢
      repeat' (first | refine Awp.seq ?_ | refine Awp.region ?_ | (refine Ops.nil ?_; show Awp _ _ _ _ _) | (refine Awp.skip ?_; show Awp _ _ _ _ _) | (refine Awp.ret ?_; show endK _ _ _ _ _) | refine o_len rfl TtOk rfl rfl rfl (fun _ => ?_) | (refine o_calm rfl TtOk rfl rfl rfl ?_ (fun _ => ?_); first | exact True.intro | exact ⟨rfl, rfl, rfl, rfl⟩ | exact ⟨rfl, True.intro⟩ | exact ⟨rfl, rfl⟩ | exact ⟨rfl, rfl, rfl⟩ | exact rfl | exact ⟨fun h0 => by cases h0, rfl⟩ | exact (fun h0 => by cases h0) | exact ⟨rfl, by omega⟩ | exact ⟨Nat.succ_ne_zero _, rfl⟩ | omega) | refine o_alloc (d := 2) rfl TtOk rfl rfl rfl (fun b2 => ?_) | refine o_store TtOk rfl rfl rfl rfl rfl rfl rfl ⟨rfl, rfl⟩ rfl rfl rfl rfl rfl ?_ | refine a_condF rfl ?_ | (refine a_condP rfl (fun hc => ?_) (fun hc => ?_)) <;> (try (exfalso; omega)) | (refine o_call0 rfl (h1) ⟨SLe.of_eq rfl, True.intro⟩ rfl ?_; rintro _ _ ⟨rfl, rfl⟩; refine ⟨rfl, ?_⟩) | (refine o_call0 rfl (h4) ⟨SLe.of_eq rfl, True.intro⟩ rfl ?_; rintro _ _ ⟨rfl, rfl⟩; refine ⟨rfl, ?_⟩))
      all_goals
        refine end_all [] [] (.tup [labA x.s, .i .i64 0]) rfl ?_ ?_ (rle_tup2 (CLe.of_eq rfl) (CLe.of_eq rfl) rfl rfl) .nil ⟨rfl, rfl⟩ _ (.inl rfl)
        · repeat' (first | exact True.intro | exact rfl | refine ⟨?_, ?_⟩)
        · exact ⟨trivial, trivial, trivial⟩
  · rw [if_pos hc0]
    unfold z32
    repeat' (first | refine Awp.seq ?_ | refine Awp.region ?_ | (refine Ops.nil ?_; show Awp _ _ _ _ _) | (refine Awp.ret ?_; show endK _ _ _ _ _) | (refine o_calm rfl TtOk rfl rfl rfl ?_ (fun _ => ?_); first | exact True.intro | exact ⟨rfl, rfl, rfl, rfl⟩ | exact ⟨rfl, True.intro⟩ | exact ⟨rfl, rfl⟩ | exact ⟨rfl, rfl, rfl⟩ | exact rfl | exact ⟨fun h0 => by cases h0, rfl⟩ | exact (fun h0 => by cases h0) | exact ⟨rfl, by omega⟩ | exact ⟨Nat.succ_ne_zero _, rfl⟩ | omega) | refine o_alloc (d := 2) rfl TtOk rfl rfl rfl (fun b2 => ?_) | refine o_store TtOk rfl rfl rfl rfl rfl rfl rfl ⟨rfl, rfl⟩ rfl rfl rfl rfl rfl ?_ | refine o_buildArr0 TtOk rfl rfl rfl rfl ?_ | (refine a_condN rfl (fun hc => ?_) (fun hc => ?_)) <;> (try (exfalso; omega)) | (refine o_call0 rfl (h1) ⟨SLe.of_eq rfl, True.intro⟩ rfl ?_; rintro _ _ ⟨rfl, rfl⟩; refine ⟨rfl, ?_⟩))
    all_goals
      refine end_all [] [] (.tup [labA (List.replicate 32 0), .i .i64 c]) rfl ?_ ?_ (rle_tup2 (CLe.of_eq rfl) (CLe.of_eq rfl) rfl rfl) .nil ⟨rfl, rfl⟩ _ (.inl rfl)
      · repeat' (first | exact True.intro | exact rfl | refine ⟨?_, ?_⟩)
      · exact ⟨trivial, trivial, trivial⟩
end Go.Proofs.Ytpjfhllkckdejaa
