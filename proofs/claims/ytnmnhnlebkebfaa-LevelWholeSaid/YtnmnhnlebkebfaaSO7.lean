/- slices.stableCmpFunc, slices.SortStableFunc at files by rules. -/
import Derived.Test.YtnmnhnlebkebfaaSO6
set_option maxHeartbeats 16000000
set_option maxRecDepth 100000
namespace Go.Proofs.Ytnmnhnlebkebfaa
open Go Go.RowKit
/-- Sorted block by block. -/
def Bk {α : Type} (lt : α → α → Bool) (bs : Nat) (l : List α) : Prop := ∀ k, Srt lt ((l.drop (k * bs)).take bs)
theorem Bk.nil {α : Type} {lt : α → α → Bool} (bs : Nat) : Bk lt bs [] := fun k => by rw [List.drop_nil, List.take_nil]; exact List.Pairwise.nil
theorem Bk.app {α : Type} {lt : α → α → Bool} {bs k : Nat} {P Q : List α} (h : Bk lt bs P) (hP : P.length = k * bs) (hQ : Srt lt Q) : Bk lt bs (P ++ Q) := by
  intro i
  by_cases hi : i < k
  · have h1 : (i + 1) * bs ≤ k * bs := Nat.mul_le_mul_right _ hi
    rw [Nat.add_mul, Nat.one_mul] at h1
    rw [List.drop_append_of_le_length (by omega), List.take_append_of_le_length (by rw [List.length_drop]; omega)]
    exact h i
  · have h1 : k * bs ≤ i * bs := Nat.mul_le_mul_right _ (by omega)
    rw [List.drop_append, List.drop_eq_nil_iff.2 (by omega), List.nil_append]
    exact (hQ.drop _).take _
theorem Bk.drop {α : Type} {lt : α → α → Bool} {bs : Nat} {R : List α} (h : Bk lt bs R) (j : Nat) : Bk lt bs (R.drop (j * bs)) := fun k => by
  rw [List.drop_drop, ← Nat.add_mul]; exact h _
theorem stable_spec (v : Value) (f : Nat) (gc : List AV) (ho : gc.all isOne = true) (cmp : Fl → Fl → Int) (hcmp : ∀ x y, Spec Try.prog f ([eF x, eF y] ++ gc) [] (fun v os => v = .i .i64 (cmp x y) ∧ os = [])) (W : WO (ltC cmp)) (X : List Fl) (hl : X.length ≤ 100000) :
    Spec Try.prog 79 [.own 0 v, .i .i64 (X.length : Nat), .fn (.func f) gc] [.row v 35 5 (X.map eF)]
      (fun r os => r = .tup [] ∧ os = [.row v 35 5 ((sortS (ltC cmp) X).map eF)]) := by
  refine spec_of TtOk [(0, .row v 35 5 (X.map eF))] Try.func79 rfl Try.ntmps79 (by kernel_rfl) rfl rfl (fun C => ?_) rfl
  have his := fun A X D => isort_spec v f gc ho cmp hcmp W A X D
  have hsm := fun A U V D => symMerge_spec v f gc ho cmp hcmp W _ A U V D rfl
  obtain ⟨n, hn⟩ : ∃ n, X.length = n := ⟨_, rfl⟩
  rw [hn] at hl ⊢
  repeat' (first | refine Awp.seq ?_ | refine Awp.block ?_ | refine Awp.region ?_ | (refine Ops.nil ?_; show Awp _ _ _ _ _) | (refine Ops.nil ?_; show Exists _) | (refine Ops.nil ?_; show endK _ _ _ _ _) | (refine Awp.skip ?_; show Awp _ _ _ _ _) | (refine Awp.skip ?_; show endK _ _ _ _ _) | (refine Awp.skip ?_; show Exists _) | (refine Awp.exit ?_; show Awp _ _ _ _ _) | (refine Awp.exit ?_; show Exists _) | (refine Awp.exit ?_; show endK _ _ _ _ _) | (refine o_add rfl rfl rfl rfl ?_ ?_; omega) | (refine o_mul rfl rfl rfl rfl ?_ ?_; omega) | (refine o_calm rfl TtOk rfl rfl rfl ?_ (fun _ => ?_); first | exact True.intro | exact ⟨rfl, rfl, rfl, rfl⟩ | exact ⟨rfl, True.intro⟩ | exact ⟨rfl, rfl⟩ | exact ⟨rfl, rfl, rfl⟩ | exact rfl | exact ⟨fun h0 => by cases h0, rfl⟩ | exact (fun h0 => by cases h0) | exact ⟨rfl, by omega⟩ | exact ⟨Nat.succ_ne_zero _, rfl⟩ | omega) | (refine o_calm rfl TtOk rfl rfl rfl ?_ (fun _ => ?_); (show List.length _ + List.length _ ≤ 9223372036854775807; (try simp only [List.length_append, List.length_cons, List.length_nil]); omega)) | refine a_condT rfl ?_ | refine a_condF rfl ?_ | (refine a_condP rfl (fun hc => ?_) (fun hc => ?_)) <;> (try (exfalso; omega)) | (refine a_condI rfl (fun hc => ?_) (fun hc => ?_)) <;> (try (exfalso; omega)) | (refine a_condN rfl (fun hc => ?_) (fun hc => ?_)) <;> (try (exfalso; omega)) | (refine Awp.cond rfl (fun hc => ?_) (fun hc => ?_)))
  refine Awp.loop (fun q : Nat × List Fl × List Fl => ⟨63, [(6, .i .i64 20), (7, .i .i64 ((20 * q.1 : Nat) : Int)), (8, .i .i64 ((20 * q.1 + 20 : Nat) : Int)), (0, .own 0 v), (1, .i .i64 n), (2, .fn (.func f) gc)], [(0, .row v 35 5 ((q.2.1 ++ q.2.2).map eF))]⟩) (fun q => q.2.1.length = q.1 * 20 ∧ Bk (ltC cmp) 20 q.2.1 ∧ CE (ltC cmp) X (q.2.1 ++ q.2.2) ∧ q.2.1.length + q.2.2.length = n) (fun q => q.2.2.length) [] (0, [], X) ⟨rfl, Bk.nil _, CE.refl _, by show 0 + X.length = n; omega⟩ ?_ ?_
  · exact ⟨rfl, ⟨sle_i rfl, sle_i rfl, sle_i rfl, sle_own, sle_i rfl, SLe.of_eq rfl, True.intro⟩, HLe.cons 0 rfl (HOLe.refl _) .nil⟩
  rintro ⟨k, P, R⟩ ⟨h1, h2, h3, h4⟩
  dsimp only at h1 h2 h3 h4 ⊢
  by_cases hlt : 20 ≤ R.length
  · have e1 : R.take 20 ++ R.drop 20 = R := List.take_append_drop _ _
    have l1 : (R.take 20).length = 20 := by rw [List.length_take]; omega
    have l2 : (R.drop 20).length = R.length - 20 := List.length_drop
    generalize R.take 20 = Q at e1 l1
    generalize R.drop 20 = R2 at e1 l2
    subst e1
    rw [List.length_append] at hlt l2 h4
    have e2 : P ++ (Q ++ R2) = P ++ Q ++ R2 := (List.append_assoc _ _ _).symm
    rw [e2] at h3 ⊢
    have hcall := his P Q R2 (by simp only [List.length_append]; omega)
    have e3 : (P ++ Q).length = 20 * k + 20 := by rw [List.length_append]; omega
    rw [e3, show P.length = 20 * k by omega] at hcall
    have hce : CE (ltC cmp) X (P ++ sortS (ltC cmp) Q ++ R2) := h3.trans (CE.mid P R2 (sortS_ce W Q))
    have hsl := sortS_len W Q
    have hsr := sortS_srt W Q
    generalize sortS (ltC cmp) Q = S at hcall hce hsl hsr
    clear his hsm
    repeat' (first | refine Awp.seq ?_ | refine Awp.block ?_ | refine Awp.region ?_ | (refine Ops.nil ?_; show Awp _ _ _ _ _) | (refine Ops.nil ?_; show Exists _) | (refine Ops.nil ?_; show endK _ _ _ _ _) | (refine Awp.skip ?_; show Awp _ _ _ _ _) | (refine Awp.skip ?_; show endK _ _ _ _ _) | (refine Awp.skip ?_; show Exists _) | (refine Awp.exit ?_; show Awp _ _ _ _ _) | (refine Awp.exit ?_; show Exists _) | (refine Awp.exit ?_; show endK _ _ _ _ _) | (refine o_add rfl rfl rfl rfl ?_ ?_; omega) | (refine o_mul rfl rfl rfl rfl ?_ ?_; omega) | (refine o_calm rfl TtOk rfl rfl rfl ?_ (fun _ => ?_); first | exact True.intro | exact ⟨rfl, rfl, rfl, rfl⟩ | exact ⟨rfl, True.intro⟩ | exact ⟨rfl, rfl⟩ | exact ⟨rfl, rfl, rfl⟩ | exact rfl | exact ⟨fun h0 => by cases h0, rfl⟩ | exact (fun h0 => by cases h0) | exact ⟨rfl, by omega⟩ | exact ⟨Nat.succ_ne_zero _, rfl⟩ | omega) | (refine o_calm rfl TtOk rfl rfl rfl ?_ (fun _ => ?_); (show List.length _ + List.length _ ≤ 9223372036854775807; (try simp only [List.length_append, List.length_cons, List.length_nil]); omega)) | refine a_condT rfl ?_ | refine a_condF rfl ?_ | (refine a_condP rfl (fun hc => ?_) (fun hc => ?_)) <;> (try (exfalso; omega)) | (refine a_condI rfl (fun hc => ?_) (fun hc => ?_)) <;> (try (exfalso; omega)) | (refine a_condN rfl (fun hc => ?_) (fun hc => ?_)) <;> (try (exfalso; omega)) | (refine Awp.cond rfl (fun hc => ?_) (fun hc => ?_)) | (refine o_call [] [0] [0] rfl hcall ⟨sle_own, sle_i (by omega), sle_i (by omega), SLe.of_eq rfl, True.intro⟩ rfl ⟨HOLe.refl _, True.intro⟩ rfl rfl ?_; rintro _ _ ⟨rfl, rfl⟩; refine ⟨_, rfl, rfl, ?_⟩))
    exact ⟨(k + 1, P ++ S, R2), [], ⟨by show (P ++ S).length = (k + 1) * 20; rw [List.length_append]; omega, h2.app h1 hsr, hce, by show (P ++ S).length + R2.length = n; rw [List.length_append]; omega⟩, by show R2.length < (Q ++ R2).length; rw [List.length_append]; omega, rfl, ⟨sle_i rfl, sle_i (by show _ = ((20 * (k + 1) : Nat) : Int); omega), sle_i (by show _ = ((20 * (k + 1) + 20 : Nat) : Int); omega), sle_own, sle_i rfl, SLe.of_eq rfl, True.intro⟩, HLe.cons 0 rfl (HOLe.refl _) .nil⟩
  have hcall := his P R [] (by rw [List.append_nil, List.length_append]; omega)
  rw [List.append_nil, List.append_nil, show P.length = 20 * k by omega, show (P ++ R).length = n by rw [List.length_append]; omega] at hcall
  have hce : CE (ltC cmp) X (P ++ sortS (ltC cmp) R) := h3.trans ((CE.refl P).app (sortS_ce W R))
  have hbk := h2.app h1 (sortS_srt W R)
  have hln : (P ++ sortS (ltC cmp) R).length = n := by rw [List.length_append, sortS_len W]; omega
  generalize P ++ sortS (ltC cmp) R = L1 at hcall hce hbk hln
  clear his
  repeat' (first | refine Awp.seq ?_ | refine Awp.block ?_ | refine Awp.region ?_ | (refine Ops.nil ?_; show Awp _ _ _ _ _) | (refine Ops.nil ?_; show Exists _) | (refine Ops.nil ?_; show endK _ _ _ _ _) | (refine Awp.skip ?_; show Awp _ _ _ _ _) | (refine Awp.skip ?_; show endK _ _ _ _ _) | (refine Awp.skip ?_; show Exists _) | (refine Awp.exit ?_; show Awp _ _ _ _ _) | (refine Awp.exit ?_; show Exists _) | (refine Awp.exit ?_; show endK _ _ _ _ _) | (refine o_add rfl rfl rfl rfl ?_ ?_; omega) | (refine o_mul rfl rfl rfl rfl ?_ ?_; omega) | (refine o_calm rfl TtOk rfl rfl rfl ?_ (fun _ => ?_); first | exact True.intro | exact ⟨rfl, rfl, rfl, rfl⟩ | exact ⟨rfl, True.intro⟩ | exact ⟨rfl, rfl⟩ | exact ⟨rfl, rfl, rfl⟩ | exact rfl | exact ⟨fun h0 => by cases h0, rfl⟩ | exact (fun h0 => by cases h0) | exact ⟨rfl, by omega⟩ | exact ⟨Nat.succ_ne_zero _, rfl⟩ | omega) | (refine o_calm rfl TtOk rfl rfl rfl ?_ (fun _ => ?_); (show List.length _ + List.length _ ≤ 9223372036854775807; (try simp only [List.length_append, List.length_cons, List.length_nil]); omega)) | refine a_condT rfl ?_ | refine a_condF rfl ?_ | (refine a_condP rfl (fun hc => ?_) (fun hc => ?_)) <;> (try (exfalso; omega)) | (refine a_condI rfl (fun hc => ?_) (fun hc => ?_)) <;> (try (exfalso; omega)) | (refine a_condN rfl (fun hc => ?_) (fun hc => ?_)) <;> (try (exfalso; omega)) | (refine Awp.cond rfl (fun hc => ?_) (fun hc => ?_)) | (refine o_call [] [0] [0] rfl hcall ⟨sle_own, sle_i (by omega), sle_i (by omega), SLe.of_eq rfl, True.intro⟩ rfl ⟨HOLe.refl _, True.intro⟩ rfl rfl ?_; rintro _ _ ⟨rfl, rfl⟩; refine ⟨_, rfl, rfl, ?_⟩))
  clear hcall h1 h2 h3
  refine Awp.loop (fun q : Nat × List Fl => ⟨63, [(6, .i .i64 q.1), (0, .own 0 v), (1, .i .i64 n), (2, .fn (.func f) gc)], [(0, .row v 35 5 (q.2.map eF))]⟩) (fun q => 1 ≤ q.1 ∧ Bk (ltC cmp) q.1 q.2 ∧ CE (ltC cmp) X q.2 ∧ q.2.length = n) (fun q => n - q.1) [] (20, L1) ⟨by show 1 ≤ 20; decide, hbk, hce, hln⟩ ?_ ?_
  · exact ⟨rfl, ⟨sle_i rfl, sle_own, sle_i rfl, SLe.of_eq rfl, True.intro⟩, HLe.cons 0 rfl (HOLe.refl _) .nil⟩
  clear hbk hce hln
  rintro ⟨bs, L⟩ ⟨h1, h2, h3, h4⟩
  dsimp only at h1 h2 h3 h4 ⊢
  by_cases hlt : bs < n
  · repeat' (first | refine Awp.seq ?_ | refine Awp.block ?_ | refine Awp.region ?_ | (refine Ops.nil ?_; show Awp _ _ _ _ _) | (refine Ops.nil ?_; show Exists _) | (refine Ops.nil ?_; show endK _ _ _ _ _) | (refine Awp.skip ?_; show Awp _ _ _ _ _) | (refine Awp.skip ?_; show endK _ _ _ _ _) | (refine Awp.skip ?_; show Exists _) | (refine Awp.exit ?_; show Awp _ _ _ _ _) | (refine Awp.exit ?_; show Exists _) | (refine Awp.exit ?_; show endK _ _ _ _ _) | (refine o_add rfl rfl rfl rfl ?_ ?_; omega) | (refine o_mul rfl rfl rfl rfl ?_ ?_; omega) | (refine o_calm rfl TtOk rfl rfl rfl ?_ (fun _ => ?_); first | exact True.intro | exact ⟨rfl, rfl, rfl, rfl⟩ | exact ⟨rfl, True.intro⟩ | exact ⟨rfl, rfl⟩ | exact ⟨rfl, rfl, rfl⟩ | exact rfl | exact ⟨fun h0 => by cases h0, rfl⟩ | exact (fun h0 => by cases h0) | exact ⟨rfl, by omega⟩ | exact ⟨Nat.succ_ne_zero _, rfl⟩ | omega) | (refine o_calm rfl TtOk rfl rfl rfl ?_ (fun _ => ?_); (show List.length _ + List.length _ ≤ 9223372036854775807; (try simp only [List.length_append, List.length_cons, List.length_nil]); omega)) | refine a_condT rfl ?_ | refine a_condF rfl ?_ | (refine a_condP rfl (fun hc => ?_) (fun hc => ?_)) <;> (try (exfalso; omega)) | (refine a_condI rfl (fun hc => ?_) (fun hc => ?_)) <;> (try (exfalso; omega)) | (refine a_condN rfl (fun hc => ?_) (fun hc => ?_)) <;> (try (exfalso; omega)) | (refine Awp.cond rfl (fun hc => ?_) (fun hc => ?_)))
    refine Awp.loop (fun q : Nat × List Fl × List Fl => ⟨63, [(6, .i .i64 bs), (7, .i .i64 (q.2.1.length : Nat)), (8, .i .i64 ((q.2.1.length + 2 * bs : Nat) : Int)), (0, .own 0 v), (1, .i .i64 n), (2, .fn (.func f) gc)], [(0, .row v 35 5 ((q.2.1 ++ q.2.2).map eF))]⟩) (fun q => q.2.1.length = q.1 * (2 * bs) ∧ Bk (ltC cmp) (2 * bs) q.2.1 ∧ Bk (ltC cmp) bs q.2.2 ∧ CE (ltC cmp) X (q.2.1 ++ q.2.2) ∧ q.2.1.length + q.2.2.length = n) (fun q => q.2.2.length) [] (0, [], L) ⟨by show 0 = 0 * (2 * bs); rw [Nat.zero_mul], Bk.nil _, h2, h3, by show 0 + L.length = n; omega⟩ ?_ ?_
    · exact ⟨rfl, ⟨sle_i rfl, sle_i rfl, sle_i (by show _ = ((0 + 2 * bs : Nat) : Int); omega), sle_own, sle_i rfl, SLe.of_eq rfl, True.intro⟩, HLe.cons 0 rfl (HOLe.refl _) .nil⟩
    clear h2 h3 h4 L
    rintro ⟨k, P, R⟩ ⟨g1, g2, g3, g4, g5⟩
    dsimp only at g1 g2 g3 g4 g5 ⊢
    have sU := g3 0
    have sV := g3 1
    rw [Nat.zero_mul, List.drop_zero] at sU
    rw [Nat.one_mul] at sV
    obtain ⟨pl, hpl⟩ : ∃ pl, P.length = pl := ⟨_, rfl⟩
    by_cases hge : 2 * bs ≤ R.length
    · have e1 : R.take bs ++ (R.drop bs).take bs ++ R.drop (2 * bs) = R := by
        rw [List.append_assoc, show R.drop (2 * bs) = (R.drop bs).drop bs by rw [List.drop_drop]; congr 1; omega, List.take_append_drop, List.take_append_drop]
      have l1 : (R.take bs).length = bs := by rw [List.length_take]; omega
      have l2 : ((R.drop bs).take bs).length = bs := by rw [List.length_take, List.length_drop]; omega
      have l3 : (R.drop (2 * bs)).length = R.length - 2 * bs := List.length_drop
      have g6 := g3.drop 2
      generalize R.take bs = U at *
      generalize (R.drop bs).take bs = V at *
      generalize R.drop (2 * bs) = R2 at *
      have e2 : P ++ R = P ++ U ++ V ++ R2 := by rw [← e1]; simp only [List.append_assoc]
      have hcall := hsm P U V R2 (by omega) (by omega) sU sV (by rw [← e2, List.length_append]; omega)
      rw [← e2, show (P ++ U).length = pl + bs by rw [List.length_append]; omega, show (P ++ U ++ V).length = pl + 2 * bs by simp only [List.length_append]; omega, hpl] at hcall
      have hce : CE (ltC cmp) X (P ++ sortS (ltC cmp) (U ++ V) ++ R2) := by
        refine g4.trans ?_
        rw [e2, List.append_assoc P U V]
        exact CE.mid P R2 (sortS_ce W (U ++ V))
      have hsl := sortS_len W (U ++ V)
      rw [List.length_append] at hsl
      have hsr := sortS_srt W (U ++ V)
      generalize sortS (ltC cmp) (U ++ V) = S at hcall hce hsl hsr
      rw [hpl]
      clear hsm
      repeat' (first | refine Awp.seq ?_ | refine Awp.block ?_ | refine Awp.region ?_ | (refine Ops.nil ?_; show Awp _ _ _ _ _) | (refine Ops.nil ?_; show Exists _) | (refine Ops.nil ?_; show endK _ _ _ _ _) | (refine Awp.skip ?_; show Awp _ _ _ _ _) | (refine Awp.skip ?_; show endK _ _ _ _ _) | (refine Awp.skip ?_; show Exists _) | (refine Awp.exit ?_; show Awp _ _ _ _ _) | (refine Awp.exit ?_; show Exists _) | (refine Awp.exit ?_; show endK _ _ _ _ _) | (refine o_add rfl rfl rfl rfl ?_ ?_; omega) | (refine o_mul rfl rfl rfl rfl ?_ ?_; omega) | (refine o_calm rfl TtOk rfl rfl rfl ?_ (fun _ => ?_); first | exact True.intro | exact ⟨rfl, rfl, rfl, rfl⟩ | exact ⟨rfl, True.intro⟩ | exact ⟨rfl, rfl⟩ | exact ⟨rfl, rfl, rfl⟩ | exact rfl | exact ⟨fun h0 => by cases h0, rfl⟩ | exact (fun h0 => by cases h0) | exact ⟨rfl, by omega⟩ | exact ⟨Nat.succ_ne_zero _, rfl⟩ | omega) | (refine o_calm rfl TtOk rfl rfl rfl ?_ (fun _ => ?_); (show List.length _ + List.length _ ≤ 9223372036854775807; (try simp only [List.length_append, List.length_cons, List.length_nil]); omega)) | refine a_condT rfl ?_ | refine a_condF rfl ?_ | (refine a_condP rfl (fun hc => ?_) (fun hc => ?_)) <;> (try (exfalso; omega)) | (refine a_condI rfl (fun hc => ?_) (fun hc => ?_)) <;> (try (exfalso; omega)) | (refine a_condN rfl (fun hc => ?_) (fun hc => ?_)) <;> (try (exfalso; omega)) | (refine Awp.cond rfl (fun hc => ?_) (fun hc => ?_)) | (refine o_call [] [0] [0] rfl hcall ⟨sle_own, sle_i (by omega), sle_i (by omega), sle_i (by omega), SLe.of_eq rfl, True.intro⟩ rfl ⟨HOLe.refl _, True.intro⟩ rfl rfl ?_; rintro _ _ ⟨rfl, rfl⟩; refine ⟨_, rfl, rfl, ?_⟩))
      exact ⟨(k + 1, P ++ S, R2), [], ⟨by show (P ++ S).length = (k + 1) * (2 * bs); rw [List.length_append, g1, hsl, l1, l2, Nat.add_mul]; omega, g2.app g1 hsr, g6, hce, by show (P ++ S).length + R2.length = n; rw [List.length_append]; omega⟩, by show R2.length < R.length; omega, rfl, ⟨sle_i rfl, sle_i (by show _ = (((P ++ S).length : Nat) : Int); rw [List.length_append]; omega), sle_i (by show _ = (((P ++ S).length + 2 * bs : Nat) : Int); rw [List.length_append]; omega), sle_own, sle_i rfl, SLe.of_eq rfl, True.intro⟩, HLe.cons 0 rfl (HOLe.refl _) .nil⟩
    rw [hpl]
    by_cases hm : bs < R.length
    · have e1 : R.take bs ++ R.drop bs = R := List.take_append_drop _ _
      have l1 : (R.take bs).length = bs := by rw [List.length_take]; omega
      have l2 : (R.drop bs).length = R.length - bs := List.length_drop
      rw [List.take_of_length_le (by omega)] at sV
      generalize R.take bs = U at *
      generalize R.drop bs = V at *
      have e2 : P ++ R = P ++ U ++ V ++ [] := by rw [← e1]; simp only [List.append_assoc, List.append_nil]
      have hcall := hsm P U V [] (by omega) (by omega) sU sV (by rw [← e2, List.length_append]; omega)
      rw [← e2, List.append_nil, show (P ++ U).length = pl + bs by rw [List.length_append]; omega, show (P ++ U ++ V).length = n by simp only [List.length_append]; omega, hpl, e1] at hcall
      have hce : CE (ltC cmp) X (P ++ sortS (ltC cmp) R) := g4.trans ((CE.refl P).app (sortS_ce W R))
      have hsl := sortS_len W R
      have hsr := sortS_srt W R
      have hbk := g2.app g1 hsr
      have hln : (P ++ sortS (ltC cmp) R).length = n := by rw [List.length_append]; omega
      generalize P ++ sortS (ltC cmp) R = L2 at hcall hce hbk hln
      clear hsm
      repeat' (first | refine Awp.seq ?_ | refine Awp.block ?_ | refine Awp.region ?_ | (refine Ops.nil ?_; show Awp _ _ _ _ _) | (refine Ops.nil ?_; show Exists _) | (refine Ops.nil ?_; show endK _ _ _ _ _) | (refine Awp.skip ?_; show Awp _ _ _ _ _) | (refine Awp.skip ?_; show endK _ _ _ _ _) | (refine Awp.skip ?_; show Exists _) | (refine Awp.exit ?_; show Awp _ _ _ _ _) | (refine Awp.exit ?_; show Exists _) | (refine Awp.exit ?_; show endK _ _ _ _ _) | (refine o_add rfl rfl rfl rfl ?_ ?_; omega) | (refine o_mul rfl rfl rfl rfl ?_ ?_; omega) | (refine o_calm rfl TtOk rfl rfl rfl ?_ (fun _ => ?_); first | exact True.intro | exact ⟨rfl, rfl, rfl, rfl⟩ | exact ⟨rfl, True.intro⟩ | exact ⟨rfl, rfl⟩ | exact ⟨rfl, rfl, rfl⟩ | exact rfl | exact ⟨fun h0 => by cases h0, rfl⟩ | exact (fun h0 => by cases h0) | exact ⟨rfl, by omega⟩ | exact ⟨Nat.succ_ne_zero _, rfl⟩ | omega) | (refine o_calm rfl TtOk rfl rfl rfl ?_ (fun _ => ?_); (show List.length _ + List.length _ ≤ 9223372036854775807; (try simp only [List.length_append, List.length_cons, List.length_nil]); omega)) | refine a_condT rfl ?_ | refine a_condF rfl ?_ | (refine a_condP rfl (fun hc => ?_) (fun hc => ?_)) <;> (try (exfalso; omega)) | (refine a_condI rfl (fun hc => ?_) (fun hc => ?_)) <;> (try (exfalso; omega)) | (refine a_condN rfl (fun hc => ?_) (fun hc => ?_)) <;> (try (exfalso; omega)) | (refine Awp.cond rfl (fun hc => ?_) (fun hc => ?_)) | (refine o_call [] [0] [0] rfl hcall ⟨sle_own, sle_i (by omega), sle_i (by omega), sle_i (by omega), SLe.of_eq rfl, True.intro⟩ rfl ⟨HOLe.refl _, True.intro⟩ rfl rfl ?_; rintro _ _ ⟨rfl, rfl⟩; refine ⟨_, rfl, rfl, ?_⟩))
      exact ⟨(2 * bs, L2), [], ⟨by show 1 ≤ 2 * bs; omega, hbk, hce, hln⟩, by show n - 2 * bs < n - bs; omega, rfl, ⟨sle_i (by show _ = ((2 * bs : Nat) : Int); omega), sle_own, sle_i rfl, SLe.of_eq rfl, True.intro⟩, HLe.cons 0 rfl (HOLe.refl _) .nil⟩
    · rw [List.take_of_length_le (by omega)] at sU
      have hbk := g2.app g1 sU
      have hln : (P ++ R).length = n := by rw [List.length_append]; omega
      generalize P ++ R = L2 at g4 hbk hln ⊢
      clear hsm
      repeat' (first | refine Awp.seq ?_ | refine Awp.block ?_ | refine Awp.region ?_ | (refine Ops.nil ?_; show Awp _ _ _ _ _) | (refine Ops.nil ?_; show Exists _) | (refine Ops.nil ?_; show endK _ _ _ _ _) | (refine Awp.skip ?_; show Awp _ _ _ _ _) | (refine Awp.skip ?_; show endK _ _ _ _ _) | (refine Awp.skip ?_; show Exists _) | (refine Awp.exit ?_; show Awp _ _ _ _ _) | (refine Awp.exit ?_; show Exists _) | (refine Awp.exit ?_; show endK _ _ _ _ _) | (refine o_add rfl rfl rfl rfl ?_ ?_; omega) | (refine o_mul rfl rfl rfl rfl ?_ ?_; omega) | (refine o_calm rfl TtOk rfl rfl rfl ?_ (fun _ => ?_); first | exact True.intro | exact ⟨rfl, rfl, rfl, rfl⟩ | exact ⟨rfl, True.intro⟩ | exact ⟨rfl, rfl⟩ | exact ⟨rfl, rfl, rfl⟩ | exact rfl | exact ⟨fun h0 => by cases h0, rfl⟩ | exact (fun h0 => by cases h0) | exact ⟨rfl, by omega⟩ | exact ⟨Nat.succ_ne_zero _, rfl⟩ | omega) | (refine o_calm rfl TtOk rfl rfl rfl ?_ (fun _ => ?_); (show List.length _ + List.length _ ≤ 9223372036854775807; (try simp only [List.length_append, List.length_cons, List.length_nil]); omega)) | refine a_condT rfl ?_ | refine a_condF rfl ?_ | (refine a_condP rfl (fun hc => ?_) (fun hc => ?_)) <;> (try (exfalso; omega)) | (refine a_condI rfl (fun hc => ?_) (fun hc => ?_)) <;> (try (exfalso; omega)) | (refine a_condN rfl (fun hc => ?_) (fun hc => ?_)) <;> (try (exfalso; omega)) | (refine Awp.cond rfl (fun hc => ?_) (fun hc => ?_)))
      exact ⟨(2 * bs, L2), [], ⟨by show 1 ≤ 2 * bs; omega, hbk, g4, hln⟩, by show n - 2 * bs < n - bs; omega, rfl, ⟨sle_i (by show _ = ((2 * bs : Nat) : Int); omega), sle_own, sle_i rfl, SLe.of_eq rfl, True.intro⟩, HLe.cons 0 rfl (HOLe.refl _) .nil⟩
  · have hs := h2 0
    rw [Nat.zero_mul, List.drop_zero, List.take_of_length_le (by omega)] at hs
    have hfin := sortS_of W hs h3
    subst hfin
    generalize sortS (ltC cmp) X = L
    repeat' (first | refine Awp.seq ?_ | refine Awp.block ?_ | refine Awp.region ?_ | (refine Ops.nil ?_; show Awp _ _ _ _ _) | (refine Ops.nil ?_; show Exists _) | (refine Ops.nil ?_; show endK _ _ _ _ _) | (refine Awp.skip ?_; show Awp _ _ _ _ _) | (refine Awp.skip ?_; show endK _ _ _ _ _) | (refine Awp.skip ?_; show Exists _) | (refine Awp.exit ?_; show Awp _ _ _ _ _) | (refine Awp.exit ?_; show Exists _) | (refine Awp.exit ?_; show endK _ _ _ _ _) | (refine o_add rfl rfl rfl rfl ?_ ?_; omega) | (refine o_mul rfl rfl rfl rfl ?_ ?_; omega) | (refine o_calm rfl TtOk rfl rfl rfl ?_ (fun _ => ?_); first | exact True.intro | exact ⟨rfl, rfl, rfl, rfl⟩ | exact ⟨rfl, True.intro⟩ | exact ⟨rfl, rfl⟩ | exact ⟨rfl, rfl, rfl⟩ | exact rfl | exact ⟨fun h0 => by cases h0, rfl⟩ | exact (fun h0 => by cases h0) | exact ⟨rfl, by omega⟩ | exact ⟨Nat.succ_ne_zero _, rfl⟩ | omega) | (refine o_calm rfl TtOk rfl rfl rfl ?_ (fun _ => ?_); (show List.length _ + List.length _ ≤ 9223372036854775807; (try simp only [List.length_append, List.length_cons, List.length_nil]); omega)) | refine a_condT rfl ?_ | refine a_condF rfl ?_ | (refine a_condP rfl (fun hc => ?_) (fun hc => ?_)) <;> (try (exfalso; omega)) | (refine a_condI rfl (fun hc => ?_) (fun hc => ?_)) <;> (try (exfalso; omega)) | (refine a_condN rfl (fun hc => ?_) (fun hc => ?_)) <;> (try (exfalso; omega)) | (refine Awp.cond rfl (fun hc => ?_) (fun hc => ?_)))
    exact end_none rfl [] [(0, _)] (HLe.cons 0 rfl (HOLe.refl _) .nil) ⟨rfl, rfl⟩ _ (by first | exact .inl rfl | exact .inr rfl)
theorem sortStable_spec (v : Value) (f : Nat) (gc : List AV) (ho : gc.all isOne = true) (cmp : Fl → Fl → Int) (hcmp : ∀ x y, Spec Try.prog f ([eF x, eF y] ++ gc) [] (fun v os => v = .i .i64 (cmp x y) ∧ os = [])) (W : WO (ltC cmp)) (X : List Fl) (hl : X.length ≤ 100000) :
    Spec Try.prog 51 [.own 0 v, .fn (.func f) gc] [.row v 35 5 (X.map eF)]
      (fun r os => r = .tup [] ∧ os = [.row v 35 5 ((sortS (ltC cmp) X).map eF)]) := by
  refine spec_of TtOk [(0, .row v 35 5 (X.map eF))] Try.func51 rfl Try.ntmps51 (by kernel_rfl) rfl rfl (fun C => ?_) rfl
  have hcall := stable_spec v f gc ho cmp hcmp W X hl
  generalize sortS (ltC cmp) X = L at hcall ⊢
  repeat' (first | refine Awp.seq ?_ | refine Awp.region ?_ | (refine Ops.nil ?_; show Awp _ _ _ _ _) | (refine Ops.nil ?_; show Exists _) | (refine Ops.nil ?_; show endK _ _ _ _ _) | refine o_len rfl TtOk rfl rfl rfl (fun _ => ?_) | refine o_lenOwn rfl TtOk rfl rfl rfl rfl (fun _ => ?_) | (refine o_calm rfl TtOk rfl rfl rfl ?_ (fun _ => ?_); first | exact True.intro | exact ⟨rfl, rfl, rfl, rfl⟩ | exact ⟨rfl, True.intro⟩ | exact ⟨rfl, rfl⟩ | exact ⟨rfl, rfl, rfl⟩ | exact rfl | exact ⟨fun h0 => by cases h0, rfl⟩ | exact (fun h0 => by cases h0) | exact ⟨rfl, by omega⟩ | exact ⟨Nat.succ_ne_zero _, rfl⟩ | omega) | (refine o_call [] [0] [0] rfl hcall ⟨sle_own, sle_i (by omega), SLe.of_eq rfl, True.intro⟩ rfl ⟨HOLe.refl _, True.intro⟩ rfl rfl ?_; rintro _ _ ⟨rfl, rfl⟩; refine ⟨_, rfl, rfl, ?_⟩))
  exact end_none rfl [] [(0, _)] (HLe.cons 0 rfl (HOLe.refl _) .nil) ⟨rfl, rfl⟩ _ (by first | exact .inl rfl | exact .inr rfl)
end Go.Proofs.Ytnmnhnlebkebfaa
