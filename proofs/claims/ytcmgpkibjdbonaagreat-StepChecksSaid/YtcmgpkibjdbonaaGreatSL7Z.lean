/- node.Leaf: the sorting texts, by rules. -/
import Derived.Test.YtcmgpkibjdbonaaGreatSL4Z
import Derived.Test.YtcmgpkibjdbonaaGreatG6Z
import Derived.Test.YtcmgpkibjdbonaaGreatG12Z
import Derived.Test.YtcmgpkibjdbonaaGreatSA4Z
set_option maxHeartbeats 16000000
set_option maxRecDepth 100000
namespace Go.Proofs.YtcmgpkibjdbonaaGreat
open Go Go.RowKit
theorem stable_specL (v : Value) (f : Nat) (gc : List AV) (ho : gc.all isOne = true) (cmp : Lef → Lef → Int) (hcmp : ∀ x y, Spec Tryz.prog f ([Lef.A x, Lef.A y] ++ gc) [] (fun v os => v = .i .i64 (cmp x y) ∧ os = [])) (W : WO (ltCL cmp)) (X : List Lef) (hl : X.length ≤ 100000) :
    Spec Tryz.prog 153 [.own 0 v, .i .i64 (X.length : Nat), .fn (.func f) gc] [.row v 46 65 (X.map Lef.A)]
      (fun r os => r = .tup [] ∧ os = [.row v 46 65 ((sortS (ltCL cmp) X).map Lef.A)]) := by
  refine spec_of TtOk [(0, .row v 46 65 (X.map Lef.A))] Tryz.func153 rfl Tryz.ntmps153 (by kernel_rfl) rfl rfl (fun C => ?_) rfl
  have his := fun A X D => isort_specL v f gc ho cmp hcmp W A X D
  have hsm := fun A U V D => symMerge_specL v f gc ho cmp hcmp W _ A U V D rfl
  obtain ⟨n, hn⟩ : ∃ n, X.length = n := ⟨_, rfl⟩
  rw [hn] at hl ⊢
  repeat' (first | refine Awp.seq ?_ | refine Awp.block ?_ | refine Awp.region ?_ | refine Ops.nil (nqA ?_) | (refine o_calm rfl TtOk rfl rfl rfl ?_ (fun _ => ?_); exact nd))
  refine Awp.loop (fun q : Nat × List Lef × List Lef => ⟨63, [(6, .i .i64 20), (7, .i .i64 ((20 * q.1 : Nat) : Int)), (8, .i .i64 ((20 * q.1 + 20 : Nat) : Int)), (0, .own 0 v), (1, .i .i64 n), (2, .fn (.func f) gc)], [(0, .row v 46 65 ((q.2.1 ++ q.2.2).map Lef.A))]⟩) (fun q => q.2.1.length = q.1 * 20 ∧ Bk (ltCL cmp) 20 q.2.1 ∧ CE (ltCL cmp) X (q.2.1 ++ q.2.2) ∧ q.2.1.length + q.2.2.length = n) (fun q => q.2.2.length) [] (0, [], X) ⟨rfl, Bk.nil _, CE.refl _, by show 0 + X.length = n; omega⟩ ?_ ?_
  · exact ⟨rfl, ⟨sle_i rfl, sle_i rfl, sle_i rfl, sle_own, sle_i rfl, nqS, True.intro⟩, HLe.cons 0 rfl (HOLe.refl _) .nil⟩
  rintro ⟨k, P, R⟩ ⟨h1, h2, h3, h4⟩
  dsimp only at h1 h2 h3 h4 ⊢
  by_cases hlt : 20 ≤ R.length
  · have e1 : R.take 20 ++ R.drop 20 = R := List.take_append_drop _ _
    have l1 : (R.take 20).length = 20 := by rw [List.length_take]; omega
    have l2 : (R.drop 20).length = R.length - 20 := List.length_drop
    generalize R.take 20 = Q at e1 l1
    generalize R.drop 20 = R2 at e1 l2
    subst e1
    rw [List.length_append] at hlt l2 h4
    have e2 : P ++ (Q ++ R2) = P ++ Q ++ R2 := (List.append_assoc _ _ _).symm
    rw [e2] at h3 ⊢
    have hcall := his P Q R2 (by simp only [List.length_append]; omega)
    have e3 : (P ++ Q).length = 20 * k + 20 := by rw [List.length_append]; omega
    rw [e3, show P.length = 20 * k by omega] at hcall
    have hce : CE (ltCL cmp) X (P ++ sortS (ltCL cmp) Q ++ R2) := h3.trans (CE.mid P R2 (sortS_ce W Q))
    have hsl := sortS_len W Q
    have hsr := sortS_srt W Q
    generalize sortS (ltCL cmp) Q = S at hcall hce hsl hsr
    clear his hsm
    repeat' (first | refine Awp.seq ?_ | refine Awp.block ?_ | refine Awp.region ?_ | refine Ops.nil (nqA ?_) | refine Ops.nil (nqX ?_) | refine Awp.skip (nqA ?_) | (refine o_add rfl rfl rfl rfl ?_ ?_; omega) | (refine o_calm rfl TtOk rfl rfl rfl ?_ (fun _ => ?_); exact nd) | (refine a_condP rfl (fun hc => ?_) (fun hc => ?_)) <;> (try (exfalso; omega)) | (refine o_call [] [0] [0] rfl hcall ⟨sle_own, sle_i (by omega), sle_i (by omega), nqS, True.intro⟩ rfl ⟨HOLe.refl _, True.intro⟩ rfl rfl ?_; rintro _ _ ⟨rfl, rfl⟩; refine ⟨_, rfl, rfl, ?_⟩))
    exact ⟨(k + 1, P ++ S, R2), [], ⟨by show (P ++ S).length = (k + 1) * 20; rw [List.length_append]; omega, h2.app h1 hsr, hce, by show (P ++ S).length + R2.length = n; rw [List.length_append]; omega⟩, by show R2.length < (Q ++ R2).length; rw [List.length_append]; omega, rfl, ⟨sle_i rfl, sle_i (by show _ = ((20 * (k + 1) : Nat) : Int); omega), sle_i (by show _ = ((20 * (k + 1) + 20 : Nat) : Int); omega), sle_own, sle_i rfl, nqS, True.intro⟩, HLe.cons 0 rfl (HOLe.refl _) .nil⟩
  have hcall := his P R [] (by rw [List.append_nil, List.length_append]; omega)
  rw [List.append_nil, List.append_nil, show P.length = 20 * k by omega, show (P ++ R).length = n by rw [List.length_append]; omega] at hcall
  have hce : CE (ltCL cmp) X (P ++ sortS (ltCL cmp) R) := h3.trans ((CE.refl P).app (sortS_ce W R))
  have hbk := h2.app h1 (sortS_srt W R)
  have hln : (P ++ sortS (ltCL cmp) R).length = n := by rw [List.length_append, sortS_len W]; omega
  generalize P ++ sortS (ltCL cmp) R = L1 at hcall hce hbk hln
  clear his
  repeat' (first | refine Awp.seq ?_ | refine Awp.block ?_ | refine Awp.region ?_ | refine Ops.nil (nqA ?_) | refine Awp.exit (nqA ?_) | (refine o_calm rfl TtOk rfl rfl rfl ?_ (fun _ => ?_); exact nd) | (refine a_condP rfl (fun hc => ?_) (fun hc => ?_)) <;> (try (exfalso; omega)) | (refine o_call [] [0] [0] rfl hcall ⟨sle_own, sle_i (by omega), sle_i (by omega), nqS, True.intro⟩ rfl ⟨HOLe.refl _, True.intro⟩ rfl rfl ?_; rintro _ _ ⟨rfl, rfl⟩; refine ⟨_, rfl, rfl, ?_⟩))
  clear hcall h1 h2 h3
  refine Awp.loop (fun q : Nat × List Lef => ⟨63, [(6, .i .i64 q.1), (0, .own 0 v), (1, .i .i64 n), (2, .fn (.func f) gc)], [(0, .row v 46 65 (q.2.map Lef.A))]⟩) (fun q => 1 ≤ q.1 ∧ Bk (ltCL cmp) q.1 q.2 ∧ CE (ltCL cmp) X q.2 ∧ q.2.length = n) (fun q => n - q.1) [] (20, L1) ⟨by show 1 ≤ 20; decide, hbk, hce, hln⟩ ?_ ?_
  · exact ⟨rfl, ⟨sle_i rfl, sle_own, sle_i rfl, nqS, True.intro⟩, HLe.cons 0 rfl (HOLe.refl _) .nil⟩
  clear hbk hce hln
  rintro ⟨bs, L⟩ ⟨h1, h2, h3, h4⟩
  dsimp only at h1 h2 h3 h4 ⊢
  by_cases hlt : bs < n
  · repeat' (first | refine Awp.seq ?_ | refine Awp.block ?_ | refine Awp.region ?_ | refine Ops.nil (nqA ?_) | refine Awp.skip (nqA ?_) | (refine o_mul rfl rfl rfl rfl ?_ ?_; omega) | (refine o_calm rfl TtOk rfl rfl rfl ?_ (fun _ => ?_); exact nd) | (refine a_condP rfl (fun hc => ?_) (fun hc => ?_)) <;> (try (exfalso; omega)))
    refine Awp.loop (fun q : Nat × List Lef × List Lef => ⟨63, [(6, .i .i64 bs), (7, .i .i64 (q.2.1.length : Nat)), (8, .i .i64 ((q.2.1.length + 2 * bs : Nat) : Int)), (0, .own 0 v), (1, .i .i64 n), (2, .fn (.func f) gc)], [(0, .row v 46 65 ((q.2.1 ++ q.2.2).map Lef.A))]⟩) (fun q => q.2.1.length = q.1 * (2 * bs) ∧ Bk (ltCL cmp) (2 * bs) q.2.1 ∧ Bk (ltCL cmp) bs q.2.2 ∧ CE (ltCL cmp) X (q.2.1 ++ q.2.2) ∧ q.2.1.length + q.2.2.length = n) (fun q => q.2.2.length) [] (0, [], L) ⟨by show 0 = 0 * (2 * bs); rw [Nat.zero_mul], Bk.nil _, h2, h3, by show 0 + L.length = n; omega⟩ ?_ ?_
    · exact ⟨rfl, ⟨sle_i rfl, sle_i rfl, sle_i (by show _ = ((0 + 2 * bs : Nat) : Int); omega), sle_own, sle_i rfl, nqS, True.intro⟩, HLe.cons 0 rfl (HOLe.refl _) .nil⟩
    clear h2 h3 h4 L
    rintro ⟨k, P, R⟩ ⟨g1, g2, g3, g4, g5⟩
    dsimp only at g1 g2 g3 g4 g5 ⊢
    have sU := g3 0
    have sV := g3 1
    rw [Nat.zero_mul, List.drop_zero] at sU
    rw [Nat.one_mul] at sV
    obtain ⟨pl, hpl⟩ : ∃ pl, P.length = pl := ⟨_, rfl⟩
    by_cases hge : 2 * bs ≤ R.length
    · have e1 : R.take bs ++ (R.drop bs).take bs ++ R.drop (2 * bs) = R := by
        rw [List.append_assoc, show R.drop (2 * bs) = (R.drop bs).drop bs by rw [List.drop_drop]; congr 1; omega, List.take_append_drop, List.take_append_drop]
      have l1 : (R.take bs).length = bs := by rw [List.length_take]; omega
      have l2 : ((R.drop bs).take bs).length = bs := by rw [List.length_take, List.length_drop]; omega
      have l3 : (R.drop (2 * bs)).length = R.length - 2 * bs := List.length_drop
      have g6 := g3.drop 2
      generalize R.take bs = U at *
      generalize (R.drop bs).take bs = V at *
      generalize R.drop (2 * bs) = R2 at *
      have e2 : P ++ R = P ++ U ++ V ++ R2 := by rw [← e1]; simp only [List.append_assoc]
      have hcall := hsm P U V R2 (by omega) (by omega) sU sV (by rw [← e2, List.length_append]; omega)
      rw [← e2, show (P ++ U).length = pl + bs by rw [List.length_append]; omega, show (P ++ U ++ V).length = pl + 2 * bs by simp only [List.length_append]; omega, hpl] at hcall
      have hce : CE (ltCL cmp) X (P ++ sortS (ltCL cmp) (U ++ V) ++ R2) := by
        refine g4.trans ?_
        rw [e2, List.append_assoc P U V]
        exact CE.mid P R2 (sortS_ce W (U ++ V))
      have hsl := sortS_len W (U ++ V)
      rw [List.length_append] at hsl
      have hsr := sortS_srt W (U ++ V)
      generalize sortS (ltCL cmp) (U ++ V) = S at hcall hce hsl hsr
      rw [hpl]
      clear hsm
      repeat' (first | refine Awp.seq ?_ | refine Awp.block ?_ | refine Awp.region ?_ | refine Ops.nil (nqA ?_) | refine Ops.nil (nqX ?_) | refine Awp.skip (nqA ?_) | (refine o_add rfl rfl rfl rfl ?_ ?_; omega) | (refine o_mul rfl rfl rfl rfl ?_ ?_; omega) | (refine o_calm rfl TtOk rfl rfl rfl ?_ (fun _ => ?_); exact nd) | (refine a_condP rfl (fun hc => ?_) (fun hc => ?_)) <;> (try (exfalso; omega)) | (refine o_call [] [0] [0] rfl hcall ⟨sle_own, sle_i (by omega), sle_i (by omega), sle_i (by omega), nqS, True.intro⟩ rfl ⟨HOLe.refl _, True.intro⟩ rfl rfl ?_; rintro _ _ ⟨rfl, rfl⟩; refine ⟨_, rfl, rfl, ?_⟩))
      exact ⟨(k + 1, P ++ S, R2), [], ⟨by show (P ++ S).length = (k + 1) * (2 * bs); rw [List.length_append, g1, hsl, l1, l2, Nat.add_mul]; omega, g2.app g1 hsr, g6, hce, by show (P ++ S).length + R2.length = n; rw [List.length_append]; omega⟩, by show R2.length < R.length; omega, rfl, ⟨sle_i rfl, sle_i (by show _ = (((P ++ S).length : Nat) : Int); rw [List.length_append]; omega), sle_i (by show _ = (((P ++ S).length + 2 * bs : Nat) : Int); rw [List.length_append]; omega), sle_own, sle_i rfl, nqS, True.intro⟩, HLe.cons 0 rfl (HOLe.refl _) .nil⟩
    rw [hpl]
    by_cases hm : bs < R.length
    · have e1 : R.take bs ++ R.drop bs = R := List.take_append_drop _ _
      have l1 : (R.take bs).length = bs := by rw [List.length_take]; omega
      have l2 : (R.drop bs).length = R.length - bs := List.length_drop
      rw [List.take_of_length_le (by omega)] at sV
      generalize R.take bs = U at *
      generalize R.drop bs = V at *
      have e2 : P ++ R = P ++ U ++ V ++ [] := by rw [← e1]; simp only [List.append_assoc, List.append_nil]
      have hcall := hsm P U V [] (by omega) (by omega) sU sV (by rw [← e2, List.length_append]; omega)
      rw [← e2, List.append_nil, show (P ++ U).length = pl + bs by rw [List.length_append]; omega, show (P ++ U ++ V).length = n by simp only [List.length_append]; omega, hpl, e1] at hcall
      have hce : CE (ltCL cmp) X (P ++ sortS (ltCL cmp) R) := g4.trans ((CE.refl P).app (sortS_ce W R))
      have hsl := sortS_len W R
      have hsr := sortS_srt W R
      have hbk := g2.app g1 hsr
      have hln : (P ++ sortS (ltCL cmp) R).length = n := by rw [List.length_append]; omega
      generalize P ++ sortS (ltCL cmp) R = L2 at hcall hce hbk hln
      clear hsm
      repeat' (first | refine Awp.seq ?_ | refine Awp.region ?_ | refine Ops.nil (nqA ?_) | refine Ops.nil (nqX ?_) | refine Awp.exit (nqA ?_) | (refine o_add rfl rfl rfl rfl ?_ ?_; omega) | (refine o_mul rfl rfl rfl rfl ?_ ?_; omega) | (refine o_calm rfl TtOk rfl rfl rfl ?_ (fun _ => ?_); exact nd) | (refine a_condP rfl (fun hc => ?_) (fun hc => ?_)) <;> (try (exfalso; omega)) | (refine o_call [] [0] [0] rfl hcall ⟨sle_own, sle_i (by omega), sle_i (by omega), sle_i (by omega), nqS, True.intro⟩ rfl ⟨HOLe.refl _, True.intro⟩ rfl rfl ?_; rintro _ _ ⟨rfl, rfl⟩; refine ⟨_, rfl, rfl, ?_⟩))
      exact ⟨(2 * bs, L2), [], ⟨by show 1 ≤ 2 * bs; omega, hbk, hce, hln⟩, by show n - 2 * bs < n - bs; omega, rfl, ⟨sle_i (by show _ = ((2 * bs : Nat) : Int); omega), sle_own, sle_i rfl, nqS, True.intro⟩, HLe.cons 0 rfl (HOLe.refl _) .nil⟩
    · rw [List.take_of_length_le (by omega)] at sU
      have hbk := g2.app g1 sU
      have hln : (P ++ R).length = n := by rw [List.length_append]; omega
      generalize P ++ R = L2 at g4 hbk hln ⊢
      clear hsm
      repeat' (first | refine Awp.seq ?_ | refine Awp.region ?_ | refine Ops.nil (nqA ?_) | refine Ops.nil (nqX ?_) | refine Awp.skip (nqA ?_) | refine Awp.exit (nqA ?_) | (refine o_add rfl rfl rfl rfl ?_ ?_; omega) | (refine o_mul rfl rfl rfl rfl ?_ ?_; omega) | (refine o_calm rfl TtOk rfl rfl rfl ?_ (fun _ => ?_); exact nd) | (refine a_condP rfl (fun hc => ?_) (fun hc => ?_)) <;> (try (exfalso; omega)))
      exact ⟨(2 * bs, L2), [], ⟨by show 1 ≤ 2 * bs; omega, hbk, g4, hln⟩, by show n - 2 * bs < n - bs; omega, rfl, ⟨sle_i (by show _ = ((2 * bs : Nat) : Int); omega), sle_own, sle_i rfl, nqS, True.intro⟩, HLe.cons 0 rfl (HOLe.refl _) .nil⟩
  · have hs := h2 0
    rw [Nat.zero_mul, List.drop_zero, List.take_of_length_le (by omega)] at hs
    have hfin := sortS_of W hs h3
    subst hfin
    generalize sortS (ltCL cmp) X = L
    repeat' (first | refine Awp.seq ?_ | refine Awp.region ?_ | refine Ops.nil (nqA ?_) | refine Awp.exit (nqE ?_) | (refine o_calm rfl TtOk rfl rfl rfl ?_ (fun _ => ?_); exact nd) | (refine a_condP rfl (fun hc => ?_) (fun hc => ?_)) <;> (try (exfalso; omega)))
    exact end_none rfl [] [(0, _)] (HLe.cons 0 rfl (HOLe.refl _) .nil) ⟨rfl, rfl⟩ _ (by first | exact .inl rfl | exact .inr rfl)
theorem sortStable_specL (v : Value) (f : Nat) (gc : List AV) (ho : gc.all isOne = true) (cmp : Lef → Lef → Int) (hcmp : ∀ x y, Spec Tryz.prog f ([Lef.A x, Lef.A y] ++ gc) [] (fun v os => v = .i .i64 (cmp x y) ∧ os = [])) (W : WO (ltCL cmp)) (X : List Lef) (hl : X.length ≤ 100000) :
    Spec Tryz.prog 55 [.own 0 v, .fn (.func f) gc] [.row v 46 65 (X.map Lef.A)]
      (fun r os => r = .tup [] ∧ os = [.row v 46 65 ((sortS (ltCL cmp) X).map Lef.A)]) := by
  refine spec_of TtOk [(0, .row v 46 65 (X.map Lef.A))] Tryz.func55 rfl Tryz.ntmps55 (by kernel_rfl) rfl rfl (fun C => ?_) rfl
  have hcall := stable_specL v f gc ho cmp hcmp W X hl
  generalize sortS (ltCL cmp) X = L at hcall ⊢
  repeat' (first | refine Awp.region ?_ | refine Ops.nil (nqE ?_) | refine o_lenOwn rfl TtOk rfl rfl rfl rfl (fun _ => ?_) | (refine o_calm rfl TtOk rfl rfl rfl ?_ (fun _ => ?_); exact nd) | (refine o_call [] [0] [0] rfl hcall ⟨sle_own, sle_i (by omega), nqS, True.intro⟩ rfl ⟨HOLe.refl _, True.intro⟩ rfl rfl ?_; rintro _ _ ⟨rfl, rfl⟩; refine ⟨_, rfl, rfl, ?_⟩))
  exact end_none rfl [] [(0, _)] (HLe.cons 0 rfl (HOLe.refl _) .nil) ⟨rfl, rfl⟩ _ (by first | exact .inl rfl | exact .inr rfl)
end Go.Proofs.YtcmgpkibjdbonaaGreat
set_option maxHeartbeats 4000000
namespace Go.Proofs.YtcmgpkibjdbonaaGreat
open Go Go.RowKit
section
variable {m : OM} {P : Program} {T : List (Nat × TI)} {C : Ctx} {ops : Array Oper} {l : List Oper} {K : St → Prop} {n : Nat} {sl : List (Nat × AV)} {hp : List (Nat × HO)} {d : Nat} {ty : Nat} {pos : String} {aft : Array Edge} {gd : Option (Nat × Bool)}
theorem o_makeFunc4 (hw : gval ops ⟨n, sl, hp⟩ gd = gwant gd) {f : Fn} {c1 c2 c3 c4 : Operand} {x1 x2 x3 x4 : AV} (h1 : ev ⟨n, sl, hp⟩ c1 = x1) (o1 : isOne x1 = true) (i1 : x1.isVal = true) (h2 : ev ⟨n, sl, hp⟩ c2 = x2) (o2 : isOne x2 = true) (i2 : x2.isVal = true)
    (h3 : ev ⟨n, sl, hp⟩ c3 = x3) (o3 : isOne x3 = true) (i3 : x3.isVal = true) (h4 : ev ⟨n, sl, hp⟩ c4 = x4) (o4 : isOne x4 = true) (i4 : x4.isVal = true) (hd : Nat.blt d n = true)
    (h : Ops m P C ops l ⟨n, (d, .fn f [x1, x2, x3, x4]) :: sl, hp⟩ K) : Ops m P C ops (⟨some d, .makeFunc f #[] #[c1, c2, c3, c4], ty, pos, aft, gd⟩ :: l) ⟨n, sl, hp⟩ K := by
  refine Ops.by hw none okc_none hd rfl (fun a w hs => ⟨.func f #[] #[a.eval c1, a.eval c2, a.eval c3, a.eval c4], ?_, fun w' _ => ?_⟩) h
  · have e1 := ev_rep hs c1
    rw [h1] at e1
    have e2 := ev_rep hs c2
    rw [h2] at e2
    have e3 := ev_rep hs c3
    rw [h3] at e3
    have e4 := ev_rep hs c4
    rw [h4] at e4
    refine ⟨[.func f #[] #[a.eval c1, a.eval c2, a.eval c3, a.eval c4]], ?_, rfl⟩
    simp only [repC]
    exact ⟨_, rfl, by simp only [repL]; exact ⟨[a.eval c1], [a.eval c2, a.eval c3, a.eval c4], rfl, one_rep o1 i1 e1, [a.eval c2], [a.eval c3, a.eval c4], rfl, one_rep o2 i2 e2, [a.eval c3], [a.eval c4], rfl, one_rep o3 i3 e3, [a.eval c4], [], rfl, one_rep o4 i4 e4, rfl⟩⟩
  · simp [execOp, Instr.makeFunc]
end
end Go.Proofs.YtcmgpkibjdbonaaGreat
set_option maxHeartbeats 16000000
set_option maxRecDepth 100000
namespace Go.Proofs.YtcmgpkibjdbonaaGreat
open Go Go.RowKit
theorem CLe.fn {fr : Fr} {f : Fn} {xs ys : List AV} (h : CLeL fr xs ys) : CLe fr (.fn f xs) (.fn f ys) := ⟨fun w F cs hf h1 => by
  simp only [repC] at h1 ⊢
  obtain ⟨vs, h2, h3⟩ := h1
  exact ⟨vs, h2, h w F _ hf h3⟩, rfl⟩
theorem rle_tup3c {fr : Fr} {a b c d e f : AV} (h1 : CLe fr a d) (h2 : CLe fr b e) (h3 : CLe fr c f) (ha : a.isVal = true) (hb : b.isVal = true) (hc : c.isVal = true) : RLe fr (single [a, b, c]) (.tup [d, e, f]) :=
  RLe.tup (xs := [a, b, c]) (ys := [d, e, f]) rfl (fun i x y hx hy => by
    match i with
    | 0 => simp at hx hy; subst hx; subst hy; exact .inr ⟨ha, h1⟩
    | 1 => simp at hx hy; subst hx; subst hy; exact .inr ⟨hb, h2⟩
    | 2 => simp at hx hy; subst hx; subst hy; exact .inr ⟨hc, h3⟩
    | k + 3 => simp at hx)
def ordL (x y : Lef) : Int := cmpS x.l y.l
theorem woL : WO (ltCL ordL) := cmp_wo Lef.l (fun _ _ => rfl)
def srtL (l : List Lef) : List Lef := sortS (ltCL ordL) l
theorem srtL_len (l : List Lef) : (srtL l).length = l.length := sortS_len woL l
theorem srtL_mem {l : List Lef} {x : Lef} : x ∈ srtL l ↔ x ∈ l := ⟨fun h => CE.mem woL (sortS_ce woL l).symm h, fun h => CE.mem woL (sortS_ce woL l) h⟩
theorem cloneL_spec (xs : List AV) (hl : xs.length ≤ 1000000) :
    Spec Tryz.prog 50 [.sl 65 xs] [] (fun r os => ∃ v, r = .own 0 v ∧ os = [.row v 46 65 xs]) := by
  refine spec_of TtOk [] Tryz.func50 rfl Tryz.ntmps50 (by kernel_rfl) rfl rfl (fun C => ?_) rfl
  repeat' (first | refine Awp.seq ?_ | refine Awp.region ?_ | refine Ops.nil (nqA ?_) | refine Awp.skip (nqA ?_) | refine Awp.ret (nqE ?_) | (refine o_calm rfl TtOk rfl rfl rfl ?_ (fun _ => ?_); exact nd) | refine o_buildSlice TtOk rfl rfl rfl rfl rfl rfl rfl rfl rfl rfl rfl nq1 (fun _ => ?_) | (refine o_append TtOk rfl rfl rfl rfl rfl rfl rfl rfl rfl (by first | exact True.intro | exact rfl) rfl rfl (fun _ => rfl) ?_ ?_ (fun _ => ?_); ((repeat' (first | rw [List.length_append] | rw [List.length_map] | rw [List.length_cons] | rw [List.length_nil] | rw [List.length_take] | rw [List.length_drop])) <;> omega); ((repeat' (first | rw [List.length_append] | rw [List.length_map] | rw [List.length_cons] | rw [List.length_nil] | rw [List.length_take] | rw [List.length_drop])) <;> omega)) | (refine Awp.cond rfl (fun hc => ?_) (fun hc => ?_)) | (refine o_eqNilSl TtOk rfl rfl rfl rfl rfl (fun c hc0 => ?_)))
  · have := hc0 hc
    subst this
    exact end_tmp rfl rfl rfl [] [(0, _)] (CLe.nilown (k := 0)) (.none .nil) ⟨_, rfl, rfl⟩ _ (.inl rfl)
  · exact end_tmp rfl rfl rfl [] [(0, _)] CLe.own (HLe.cons 5 rfl (HOLe.refl _) .nil) ⟨_, rfl, rfl⟩ _ (.inl rfl)
theorem cover1_spec (x y : Lef) : Spec Tryz.prog 143 ([x.A, y.A] ++ []) [] (fun v os => v = .i .i64 (ordL x y) ∧ os = []) := by
  have h1 := border_spec x.l y.l
  have ho : ordL x y = cmpS x.l y.l := rfl
  rw [ho]
  generalize cmpS x.l y.l = c at h1 ⊢
  show Spec Tryz.prog 143 [.agg [labA x.l, labA x.v, .i .i64 x.t], .agg [labA y.l, labA y.v, .i .i64 y.t]] [] _
  refine spec_of TtOk [] Tryz.func143 rfl Tryz.ntmps143 (by kernel_rfl) rfl rfl (fun C => ?_) rfl
  repeat' (first | refine Awp.seq ?_ | refine Awp.region ?_ | refine Ops.nil (nqA ?_) | refine Awp.ret (nqE ?_) | (refine o_calm rfl TtOk rfl rfl rfl ?_ (fun _ => ?_); exact nd) | refine o_box (d := 2) rfl rfl rfl rfl (fun b2 => ?_) | refine o_box (d := 3) rfl rfl rfl rfl (fun b3 => ?_) | refine o_callE rfl (h1) ⟨nqS, nqS, True.intro⟩ rfl ?_)
  exact nq2
def cvS (l : List Lef) : List Lef := srtL l
def cvE (l : List Lef) : Int := chkI (itmsL (srtL l))
def cvI (l : List Lef) (ls : List (List UInt8)) : List Itm := if cvE l = 0 then (openF l.length ls (srtL l)).1 else []
def cvT (l : List Lef) (ls : List (List UInt8)) : List Lef := if cvE l = 0 then (openF l.length ls (srtL l)).2 else []
theorem cover_spec (l : List Lef) (ls : List (List UInt8)) (hl : l.length ≤ 50000) (hok : ∀ x ∈ l, x.ok) (hls : ls.length ≤ 100000) (hlo : ∀ x ∈ ls, x.length = 32) :
    Spec Tryz.prog 47 [.sl 65 (l.map Lef.A), .sl 32 (ls.map labA)] [] (fun v os => v = .tup [.sl 66 ((cvI l ls).map Itm.A), .sl 65 ((cvT l ls).map Lef.A), .i .i64 (cvE l)] ∧ os = []) := by
  refine spec_of TtOk [] Tryz.func47 rfl Tryz.ntmps47 (by kernel_rfl) rfl rfl (fun C => ?_) rfl
  have h1 := cloneL_spec (l.map Lef.A) (by rw [List.length_map]; omega)
  have h2 := fun v => sortStable_specL v 143 [] rfl ordL cover1_spec woL l (by omega)
  have hs : sortS (ltCL ordL) l = srtL l := rfl
  rw [hs] at h2
  have hok2 : ∀ x ∈ srtL l, x.ok := fun x hx => hok x (srtL_mem.1 hx)
  have hsl := srtL_len l
  have h3 := of_spec (srtL l) (by omega) hok2
  have hio : ∀ x ∈ itmsL (srtL l), x.ok := fun x hx => by
    obtain ⟨y, hy, rfl⟩ := List.mem_map.1 (srtI_mem.1 hx)
    exact leafI_ok y (hok2 y hy)
  have hil : (itmsL (srtL l)).length = l.length := by unfold itmsL; rw [srtI_len, List.length_map, hsl]
  have h4 := pcheck_spec (itmsL (srtL l)) (by omega) hio
  have hce : chkI (itmsL (srtL l)) = cvE l := rfl
  rw [hce] at h4
  unfold cvI cvT
  have h5 := @chkI_rise (itmsL (srtL l))
  rw [hce] at h5
  by_cases hc0 : cvE l = 0
  · rw [if_pos hc0, if_pos hc0]
    rw [hc0] at h4 h5 ⊢
    obtain ⟨-, hr, -⟩ := h5 rfl
    have hrl : RiseI ((srtL l).map leafI) := by
      have hsrt : Srt (ltCI ordI) ((srtL l).map leafI) := by
        unfold Srt
        rw [List.pairwise_map]
        exact sortS_srt woL l
      have he : itmsL (srtL l) = (srtL l).map leafI := sortS_id woI hsrt
      rw [he] at hr
      exact hr
    have hop := fun b1 b2 b3 v1 v2 => open_spec ls hls hlo b1 b2 b3 l.length (srtL l) (by omega) hrl hok2 v1 v2 [] [] (by rw [List.length_nil]; omega) (by rw [List.length_nil]; omega)
    rw [List.nil_append, List.nil_append] at hop
    clear hr hrl hce
    generalize openF l.length ls (srtL l) = o at *
    generalize itmsL (srtL l) = I at *
    generalize srtL l = L at *
    repeat' (first | (refine a_freezeV 3 3 rfl rfl rfl ?_) | (refine o_freezeR (xs := L.map Lef.A) 13 7 rfl rfl rfl ?_) | refine Awp.seq ?_ | refine Awp.region ?_ | refine Ops.nil (nqA ?_) | refine Awp.skip (nqA ?_) | (refine o_calm rfl TtOk rfl rfl rfl ?_ (fun _ => ?_); exact nd) | refine o_alloc (d := 9) rfl TtOk rfl rfl rfl (fun b9 => ?_) | refine o_alloc (d := 10) rfl TtOk rfl rfl rfl (fun b10 => ?_) | refine o_box (d := 3) rfl rfl rfl rfl (fun b3 => ?_) | refine a_condF rfl ?_ | (refine o_callR rfl h1 ⟨nqS, True.intro⟩ rfl (fun vR => ?_)) | (refine o_call [] [13] [13] rfl (h2 _) ⟨sle_own, nqS, True.intro⟩ rfl ⟨HOLe.refl _, True.intro⟩ rfl rfl ?_; rintro _ _ ⟨rfl, rfl⟩; refine ⟨_, rfl, rfl, ?_⟩) | (refine o_alloc (d := 11) rfl TfOk rfl rfl rfl (fun b11 => ?_)) | (refine o_makeFunc4 rfl rfl rfl rfl rfl rfl rfl rfl rfl rfl rfl rfl rfl rfl ?_) | (refine o_store TfOk rfl rfl rfl rfl rfl rfl rfl ⟨rfl, rfl⟩ rfl rfl rfl rfl rfl ?_) | (refine o_calm rfl TfOk rfl rfl rfl ?_ (fun _ => ?_); exact ⟨rfl, rfl, rfl, rfl⟩) | refine o_callE rfl (h3) ⟨nqS, True.intro⟩ rfl ?_ | refine o_callE rfl (h4) ⟨nqS, True.intro⟩ rfl ?_)
    refine Ops.weaken [] (S' := ⟨28, [(24, .sl 65 (L.map Lef.A)), (23, .fn (.func 144) [.cp (.sl 32 (ls.map labA)), .ptr 0 b9 [] 0, .ptr 2 b10 [] 0, .ptr 4 b11 [] 0]), (9, .ptr 9 b9 [] 0), (10, .ptr 10 b10 [] 0)], [(9, .var b9 (.own 1 (.slice none 0 0))), (1, .row (.slice none 0 0) 50 66 (([] : List Itm).map Itm.A)), (10, .var b10 (.own 3 (.slice none 0 0))), (3, .row (.slice none 0 0) 46 65 (([] : List Lef).map Lef.A)), (11, .var b11 (.fn (.func 144) [.cp (.sl 32 (ls.map labA)), .ptr 0 b9 [] 0, .ptr 2 b10 [] 0, .ptr 4 b11 [] 0]))]⟩) ⟨rfl, ⟨sle_sl rfl, SLe.of_cle (CLe.fn (.cons (CLe.refl _) (.cons CLe.ptr (.cons CLe.ptr (.cons CLe.ptr .nil))))) rfl, sle_ptr, sle_ptr, True.intro⟩, HLe.cons 9 rfl (HOLe.var CLe.nilown) (.none (HLe.cons 10 rfl (HOLe.var CLe.nilown) (.none (HLe.cons 11 rfl (HOLe.var (CLe.fn (.cons (CLe.refl _) (.cons CLe.ptr (.cons CLe.ptr (.cons CLe.ptr .nil)))))) .nil))))⟩ ?_
    refine o_callCloG [] [9, 1, 10, 3, 11] [9, 1, 10, 3, 11] rfl rfl rfl (hop b9 b10 b11 _ _) ⟨nqS, nqS, sle_ptr, sle_ptr, sle_ptr, True.intro⟩ rfl ⟨HOLe.refl _, HOLe.refl _, HOLe.refl _, HOLe.refl _, HOLe.refl _, True.intro⟩ rfl rfl rfl ?_
    rintro _ _ ⟨rfl, w1, w2, rfl⟩
    refine ⟨_, rfl, rfl, ?_⟩
    repeat' (first | refine Awp.seq ?_ | refine Ops.nil (nqA ?_) | refine Awp.ret (nqE ?_) | (refine o_calm rfl TtOk rfl rfl rfl ?_ (fun _ => ?_); exact nd) | refine a_any 11 [] [] [] [0, 2, 1, 3, 4] (by kernel_rfl) (by kernel_rfl) (by kernel_rfl) rfl rfl rfl ?_)
    refine end_all [1, 3] [] (.tup [.sl 66 (o.1.map Itm.A), .sl 65 (o.2.map Lef.A), .i .i64 0]) rfl ?_ ?_ (rle_tup3c (CLe.fz (.head _)) (CLe.fz (.tail _ (.head _))) (CLe.of_eq rfl) rfl rfl rfl) .nil ⟨rfl, rfl⟩ _ (.inl rfl)
    · exact nq1
    · exact ⟨trivial, trivial, trivial, trivial⟩
  · rw [if_neg hc0, if_neg hc0]
    clear h5
    generalize cvE l = e at *
    generalize itmsL (srtL l) = I at *
    generalize srtL l = L at *
    repeat' (first | (refine o_freezeR (xs := L.map Lef.A) 13 7 rfl rfl rfl ?_) | refine Awp.seq ?_ | refine Awp.region ?_ | refine Ops.nil (nqA ?_) | refine Awp.ret (nqE ?_) | (refine o_calm rfl TtOk rfl rfl rfl ?_ (fun _ => ?_); exact nd) | refine o_box (d := 3) rfl rfl rfl rfl (fun b3 => ?_) | (refine a_condN rfl (fun hc => ?_) (fun hc => ?_)) <;> (try (exfalso; omega)) | (refine o_callR rfl h1 ⟨nqS, True.intro⟩ rfl (fun vR => ?_)) | (refine o_call [] [13] [13] rfl (h2 _) ⟨sle_own, nqS, True.intro⟩ rfl ⟨HOLe.refl _, True.intro⟩ rfl rfl ?_; rintro _ _ ⟨rfl, rfl⟩; refine ⟨_, rfl, rfl, ?_⟩) | refine o_callE rfl (h3) ⟨nqS, True.intro⟩ rfl ?_ | refine o_callE rfl (h4) ⟨nqS, True.intro⟩ rfl ?_)
    refine end_all [] [] (.tup [.sl 66 (([] : List Itm).map Itm.A), .sl 65 (([] : List Lef).map Lef.A), .i .i64 e]) rfl ?_ ?_ (rle_tup3c CLe.nilsl CLe.nilsl (CLe.of_eq rfl) rfl rfl rfl) .nil ⟨rfl, rfl⟩ _ (.inl rfl)
    · exact nq1
    · exact ⟨trivial, trivial, trivial, trivial⟩
end Go.Proofs.YtcmgpkibjdbonaaGreat
set_option maxHeartbeats 8000000
set_option maxRecDepth 100000
namespace Go.Proofs.YtcmgpkibjdbonaaGreat
open Go Go.RowKit
theorem few_spec (l : List Lef) (n : Nat) (hl : l.length ≤ 9223372036854775807) (hn : n ≤ 1000) :
    Spec Tryz.prog 8 [.sl 65 (l.map Lef.A), .i .i64 n] [] (fun r os => ∃ v, r = .own 0 v ∧ os = [.row v 46 65 ((l.take n).map Lef.A)]) := by
  refine spec_of TtOk [] Tryz.func8 rfl Tryz.ntmps8 (by kernel_rfl) rfl rfl (fun C => ?_) rfl
  by_cases h : n < l.length
  · have hln : (l.take n).length = n := by rw [List.length_take]; omega
    repeat' (first | refine Awp.seq ?_ | refine Awp.region ?_ | refine Ops.nil (nqA ?_) | refine Awp.ret (nqE ?_) | refine o_len rfl TtOk rfl rfl rfl (fun _ => ?_) | (refine o_calm rfl TtOk rfl rfl rfl ?_ (fun _ => ?_); exact nd) | refine o_buildSlice TtOk rfl rfl rfl rfl rfl rfl rfl rfl rfl rfl rfl nq1 (fun _ => ?_) | (refine o_append TtOk rfl rfl rfl rfl rfl rfl rfl rfl rfl (by first | exact True.intro | exact rfl) rfl rfl (fun _ => rfl) ?_ ?_ (fun _ => ?_); ((repeat' (first | rw [List.length_append] | rw [List.length_map] | rw [List.length_cons] | rw [List.length_nil] | rw [List.length_take] | rw [List.length_drop])) <;> omega); ((repeat' (first | rw [List.length_append] | rw [List.length_map] | rw [List.length_cons] | rw [List.length_nil] | rw [List.length_take] | rw [List.length_drop])) <;> omega)) | (refine a_condP rfl (fun hc => ?_) (fun hc => ?_)) <;> (try (exfalso; omega)) | (refine o_sliceSl TtOk rfl 0 n rfl rfl rfl rfl rfl bnd_none (bnd_some rfl rfl) (by omega) (by omega) ?_))
    exact end_tmp rfl rfl rfl [] [(0, _)] CLe.own (HLe.cons 12 rfl (HOLe.refl _) .nil) ⟨_, rfl, rfl⟩ _ (.inl rfl)
  · rw [List.take_of_length_le (by omega)]
    repeat' (first | refine Awp.seq ?_ | refine Awp.region ?_ | refine Ops.nil (nqA ?_) | refine Awp.skip (nqA ?_) | refine Awp.ret (nqE ?_) | refine o_len rfl TtOk rfl rfl rfl (fun _ => ?_) | (refine o_calm rfl TtOk rfl rfl rfl ?_ (fun _ => ?_); exact nd) | refine o_buildSlice TtOk rfl rfl rfl rfl rfl rfl rfl rfl rfl rfl rfl nq1 (fun _ => ?_) | (refine o_append TtOk rfl rfl rfl rfl rfl rfl rfl rfl rfl (by first | exact True.intro | exact rfl) rfl rfl (fun _ => rfl) ?_ ?_ (fun _ => ?_); ((repeat' (first | rw [List.length_append] | rw [List.length_map] | rw [List.length_cons] | rw [List.length_nil] | rw [List.length_take] | rw [List.length_drop])) <;> omega); ((repeat' (first | rw [List.length_append] | rw [List.length_map] | rw [List.length_cons] | rw [List.length_nil] | rw [List.length_take] | rw [List.length_drop])) <;> omega)) | (refine a_condP rfl (fun hc => ?_) (fun hc => ?_)) <;> (try (exfalso; omega)))
    exact end_tmp rfl rfl rfl [] [(0, _)] CLe.own (HLe.cons 12 rfl (HOLe.refl _) .nil) ⟨_, rfl, rfl⟩ _ (.inl rfl)
end Go.Proofs.YtcmgpkibjdbonaaGreat
set_option maxHeartbeats 8000000
set_option maxRecDepth 100000
namespace Go.Proofs.YtcmgpkibjdbonaaGreat
open Go Go.RowKit
def lefC_ (x : Lef) : List Value := x.l.map cellB ++ (x.v.map cellB ++ [Value.int .i64 x.t])
theorem lef_cells {w : World} {F : Nat → Prop} {x : Lef} {v : Value} (h : repV w F x.A v) : x.ok ∧ v = .agg (lefC_ x).toArray := by
  obtain ⟨cs, hc, he⟩ := h
  simp only [Lef.A, labA, repC, repL] at hc
  obtain ⟨c1, c2, rfl, ⟨h1, h2⟩, c3, c4, rfl, ⟨h3, h4⟩, c5, c6, rfl, rfl, rfl⟩ := hc
  have e1 := bytes_cells x.l c1 h2
  have e2 := bytes_cells x.v c3 h4
  subst e1
  subst e2
  exact ⟨⟨by simpa using h1, by simpa using h3⟩, he⟩
section
variable {m : OM} {C : Ctx} {ops : Array Oper} {l : List Oper} {K : St → Prop} {n : Nat} {sl : List (Nat × AV)} {hp : List (Nat × HO)} {d : Nat} {ty : Nat} {pos : String} {aft : Array Edge} {gd : Option (Nat × Bool)}
end
end Go.Proofs.YtcmgpkibjdbonaaGreat
set_option maxHeartbeats 8000000
set_option maxRecDepth 100000
namespace Go.Proofs.YtcmgpkibjdbonaaGreat
open Go Go.RowKit
def labC (c : UInt8) : List UInt8 := c :: List.replicate 31 0
def lefC (c : UInt8) : Lef := ⟨labC c, List.replicate 32 0, 0⟩
def awL : List Lef := [lefC 0, lefC 64, lefC 128]
end Go.Proofs.YtcmgpkibjdbonaaGreat
