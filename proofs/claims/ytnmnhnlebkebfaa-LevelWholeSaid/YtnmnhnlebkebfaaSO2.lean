/- slices.swapRangeCmpFunc, rotateCmpFunc at files by rules. -/
import Derived.Test.YtnmnhnlebkebfaaL1
import Derived.Test.YtnmnhnlebkebfaaSO1
set_option maxHeartbeats 8000000
set_option maxRecDepth 100000
namespace Go.Proofs.Ytnmnhnlebkebfaa
open Go Go.RowKit
/-- Two elements change places. -/
theorem swap_at {α : Type} (P : List α) (x : α) (Q : List α) (y : α) (R : List α) : ((P ++ x :: (Q ++ y :: R)).set P.length y).set (P ++ x :: Q).length x = P ++ y :: (Q ++ x :: R) := by
  rw [set_mid]
  have h : P ++ y :: (Q ++ y :: R) = (P ++ y :: Q) ++ y :: R := by simp
  rw [h, show (P ++ x :: Q).length = (P ++ y :: Q).length by simp, set_mid]
  simp
theorem swap_get {α : Type} (P : List α) (x : α) (Q : List α) (y : α) (R : List α) : (P ++ x :: (Q ++ y :: R))[P.length]? = some x ∧ (P ++ x :: (Q ++ y :: R))[(P ++ x :: Q).length]? = some y := by
  refine ⟨get_mid _ _ _, ?_⟩
  rw [show P ++ x :: (Q ++ y :: R) = (P ++ x :: Q) ++ y :: R by simp]
  exact get_mid _ _ _
theorem swapRange_spec (v : Value) (gf : Fn) (gc : List AV) (A X B Y D : List Fl) (hX : X.length = Y.length) (hl : (A ++ X ++ B ++ Y ++ D).length ≤ 100000) :
    Spec Try.prog 93 [.own 0 v, .i .i64 (A.length : Nat), .i .i64 ((A ++ X ++ B).length : Nat), .i .i64 (X.length : Nat), .fn gf gc] [.row v 35 5 ((A ++ X ++ B ++ Y ++ D).map eF)]
      (fun r os => r = .tup [] ∧ os = [.row v 35 5 ((A ++ Y ++ B ++ X ++ D).map eF)]) := by
  refine spec_of TtOk [(0, .row v 35 5 ((A ++ X ++ B ++ Y ++ D).map eF))] Try.func93 rfl Try.ntmps93 (by kernel_rfl) rfl rfl (fun C => ?_) rfl
  repeat' (first | refine Awp.seq ?_ | refine Awp.block ?_ | refine Awp.region ?_ | (refine Ops.nil ?_; show Awp _ _ _ _ _) | (refine Ops.nil ?_; show Exists _) | (refine Ops.nil ?_; show endK _ _ _ _ _) | (refine Awp.skip ?_; show Awp _ _ _ _ _) | (refine Awp.skip ?_; show endK _ _ _ _ _) | (refine Awp.skip ?_; show Exists _) | (refine Awp.exit ?_; show Awp _ _ _ _ _) | (refine Awp.exit ?_; show Exists _) | (refine Awp.exit ?_; show endK _ _ _ _ _) | (refine o_add rfl rfl rfl rfl ?_ ?_; omega) | (refine o_calm rfl TtOk rfl rfl rfl ?_ (fun _ => ?_); first | exact True.intro | exact ⟨rfl, rfl, rfl, rfl⟩ | exact ⟨rfl, True.intro⟩ | exact ⟨rfl, rfl⟩ | exact ⟨rfl, rfl, rfl⟩ | exact rfl | exact ⟨fun h0 => by cases h0, rfl⟩ | exact (fun h0 => by cases h0) | exact ⟨rfl, by omega⟩ | exact ⟨Nat.succ_ne_zero _, rfl⟩ | omega) | refine o_store TtOk rfl rfl rfl rfl rfl rfl rfl ⟨rfl, rfl⟩ rfl rfl rfl rfl rfl ?_ | (refine o_index rfl TtOk rfl rfl rfl rfl rfl rfl ?_ (getq_nat ?_) ?_; omega; omega) | (refine o_indexOwn TtOk rfl rfl rfl rfl rfl rfl rfl rfl _ rfl ?_ (fun bO hbO => ?_); (simp only [List.length_map]; omega)) | (refine o_loadRow TtOk rfl rfl rfl rfl rfl (by assumption) (getq_map (List.getElem?_eq_getElem ?_)) rfl rfl (by first | exact Nat.add_zero _ | rfl) ⟨rfl, rfl⟩ ?_; omega) | (refine o_calm rfl TtOk rfl rfl rfl ?_ (fun _ => ?_); (show List.length _ + List.length _ ≤ 9223372036854775807; (try simp only [List.length_append, List.length_cons, List.length_nil]); omega)) | (refine o_storeRow TtOk rfl rfl rfl rfl rfl rfl (by assumption) (getq_map (List.getElem?_eq_getElem ?_)) rfl rfl (by first | exact Nat.add_zero _ | rfl) ⟨rfl, rfl⟩ rfl rfl ?_; omega) | refine a_condT rfl ?_ | refine a_condF rfl ?_ | (refine a_condP rfl (fun hc => ?_) (fun hc => ?_)) <;> (try (exfalso; omega)) | (refine a_condI rfl (fun hc => ?_) (fun hc => ?_)) <;> (try (exfalso; omega)) | (refine a_condN rfl (fun hc => ?_) (fun hc => ?_)) <;> (try (exfalso; omega)) | (refine Awp.cond rfl (fun hc => ?_) (fun hc => ?_)) | refine a_any 3 [] [] [] [0, 1, 2, 3, 4, 5, 6, 7, 8, 9, 10, 11, 12, 14, 15, 16, 17, 18, 13, 19, 20, 21, 22, 23] (by kernel_rfl) (by kernel_rfl) (by kernel_rfl) rfl rfl rfl ?_)
  refine Awp.loop (fun q : Nat => ⟨38, [(10, .i .i64 q), (0, .own 0 v), (1, .i .i64 (A.length : Nat)), (2, .i .i64 ((A ++ X ++ B).length : Nat)), (3, .i .i64 (X.length : Nat)), (4, .fn gf gc)], [(0, .row v 35 5 ((A ++ Y.take q ++ X.drop q ++ B ++ X.take q ++ Y.drop q ++ D).map eF))]⟩) (fun q => q ≤ X.length) (fun q => X.length - q) [] 0 (Nat.zero_le _) ?_ ?_
  · refine ⟨rfl, ⟨sle_i rfl, sle_own, sle_i rfl, sle_i rfl, sle_i rfl, SLe.of_eq rfl, True.intro⟩, HLe.cons 0 rfl (HOLe.row ?_) .nil⟩
    simp
  intro k hk
  by_cases hlt : k < X.length
  · have hky : k < Y.length := by omega
    have e0 : A ++ Y.take k ++ X.drop k ++ B ++ X.take k ++ Y.drop k ++ D = (A ++ Y.take k) ++ X[k] :: ((X.drop (k + 1) ++ B ++ X.take k) ++ Y[k] :: (Y.drop (k + 1) ++ D)) := by
      rw [List.drop_eq_getElem_cons hlt, List.drop_eq_getElem_cons hky]; simp only [List.append_assoc, List.cons_append]
    have e1 : A ++ Y.take (k + 1) ++ X.drop (k + 1) ++ B ++ X.take (k + 1) ++ Y.drop (k + 1) ++ D = (A ++ Y.take k) ++ Y[k] :: ((X.drop (k + 1) ++ B ++ X.take k) ++ X[k] :: (Y.drop (k + 1) ++ D)) := by
      rw [List.take_succ_eq_append_getElem hlt, List.take_succ_eq_append_getElem hky]; simp only [List.append_assoc, List.cons_append, List.nil_append]
    have e2 := swap_at (A ++ Y.take k) X[k] (X.drop (k + 1) ++ B ++ X.take k) Y[k] (Y.drop (k + 1) ++ D)
    obtain ⟨e3, e4⟩ := swap_get (A ++ Y.take k) X[k] (X.drop (k + 1) ++ B ++ X.take k) Y[k] (Y.drop (k + 1) ++ D)
    rw [← e0] at e2 e3 e4
    rw [← e1] at e2
    generalize hL' : A ++ Y.take (k + 1) ++ X.drop (k + 1) ++ B ++ X.take (k + 1) ++ Y.drop (k + 1) ++ D = L' at e2
    have hll : (A ++ Y.take k ++ X.drop k ++ B ++ X.take k ++ Y.drop k ++ D).length = A.length + X.length + B.length + Y.length + D.length := by
      simp only [List.length_append, List.length_take, List.length_drop]; omega
    have h1 : (A ++ Y.take k).length = A.length + k := by simp only [List.length_append, List.length_take]; omega
    have h2 : ((A ++ Y.take k) ++ X[k] :: (X.drop (k + 1) ++ B ++ X.take k)).length = A.length + X.length + B.length + k := by simp only [List.length_append, List.length_take, List.length_drop, List.length_cons]; omega
    have h3 : (A ++ X ++ B).length = A.length + X.length + B.length := by simp only [List.length_append]
    have h4 : (A ++ X ++ B ++ Y ++ D).length = A.length + X.length + B.length + Y.length + D.length := by simp only [List.length_append]
    generalize A ++ Y.take k ++ X.drop k ++ B ++ X.take k ++ Y.drop k ++ D = L at e2 e3 e4 hll ⊢
    generalize X[k] = x at e2 e3 e4 h2
    generalize Y[k] = y at e2 e3 e4
    generalize (A ++ Y.take k).length = i1 at e2 e3 h1
    generalize ((A ++ Y.take k) ++ x :: (X.drop (k + 1) ++ B ++ X.take k)).length = i2 at e2 e4 h2
    generalize (A ++ X ++ B).length = bb at h3 ⊢
    have hne : i1 ≠ i2 := by omega
    repeat' (first | (refine o_storeRow TtOk rfl rfl rfl rfl rfl rfl (by assumption) ((List.getElem?_set_ne hne).trans (getq_map e4)) rfl rfl (by first | exact Nat.add_zero _ | rfl) ⟨rfl, rfl⟩ rfl rfl ?_) | (refine o_storeRow TtOk rfl rfl rfl rfl rfl rfl (by assumption) (getq_map e3) rfl rfl (by first | exact Nat.add_zero _ | rfl) ⟨rfl, rfl⟩ rfl rfl ?_) | (refine o_loadRow TtOk rfl rfl rfl rfl rfl (by assumption) (getq_map e4) rfl rfl (by first | exact Nat.add_zero _ | rfl) ⟨rfl, rfl⟩ ?_) | (refine o_loadRow TtOk rfl rfl rfl rfl rfl (by assumption) (getq_map e3) rfl rfl (by first | exact Nat.add_zero _ | rfl) ⟨rfl, rfl⟩ ?_) | (refine o_indexOwn TtOk rfl rfl rfl rfl rfl rfl rfl rfl i2 ?_ ?_ (fun bO hbO => ?_); omega; (simp only [List.length_map, List.length_set]; omega)) | (refine o_indexOwn TtOk rfl rfl rfl rfl rfl rfl rfl rfl i1 ?_ ?_ (fun bO hbO => ?_); omega; (simp only [List.length_map, List.length_set]; omega)) | refine Awp.seq ?_ | refine Awp.block ?_ | refine Awp.region ?_ | (refine Ops.nil ?_; show Awp _ _ _ _ _) | (refine Ops.nil ?_; show Exists _) | (refine Ops.nil ?_; show endK _ _ _ _ _) | (refine Awp.skip ?_; show Awp _ _ _ _ _) | (refine Awp.skip ?_; show endK _ _ _ _ _) | (refine Awp.skip ?_; show Exists _) | (refine Awp.exit ?_; show Awp _ _ _ _ _) | (refine Awp.exit ?_; show Exists _) | (refine Awp.exit ?_; show endK _ _ _ _ _) | (refine o_add rfl rfl rfl rfl ?_ ?_; omega) | (refine o_calm rfl TtOk rfl rfl rfl ?_ (fun _ => ?_); first | exact True.intro | exact ⟨rfl, rfl, rfl, rfl⟩ | exact ⟨rfl, True.intro⟩ | exact ⟨rfl, rfl⟩ | exact ⟨rfl, rfl, rfl⟩ | exact rfl | exact ⟨fun h0 => by cases h0, rfl⟩ | exact (fun h0 => by cases h0) | exact ⟨rfl, by omega⟩ | exact ⟨Nat.succ_ne_zero _, rfl⟩ | omega) | refine o_store TtOk rfl rfl rfl rfl rfl rfl rfl ⟨rfl, rfl⟩ rfl rfl rfl rfl rfl ?_ | (refine o_index rfl TtOk rfl rfl rfl rfl rfl rfl ?_ (getq_nat ?_) ?_; omega; omega) | (refine o_indexOwn TtOk rfl rfl rfl rfl rfl rfl rfl rfl _ rfl ?_ (fun bO hbO => ?_); (simp only [List.length_map]; omega)) | (refine o_loadRow TtOk rfl rfl rfl rfl rfl (by assumption) (getq_map (List.getElem?_eq_getElem ?_)) rfl rfl (by first | exact Nat.add_zero _ | rfl) ⟨rfl, rfl⟩ ?_; omega) | (refine o_calm rfl TtOk rfl rfl rfl ?_ (fun _ => ?_); (show List.length _ + List.length _ ≤ 9223372036854775807; (try simp only [List.length_append, List.length_cons, List.length_nil]); omega)) | (refine o_storeRow TtOk rfl rfl rfl rfl rfl rfl (by assumption) (getq_map (List.getElem?_eq_getElem ?_)) rfl rfl (by first | exact Nat.add_zero _ | rfl) ⟨rfl, rfl⟩ rfl rfl ?_; omega) | refine a_condT rfl ?_ | refine a_condF rfl ?_ | (refine a_condP rfl (fun hc => ?_) (fun hc => ?_)) <;> (try (exfalso; omega)) | (refine a_condI rfl (fun hc => ?_) (fun hc => ?_)) <;> (try (exfalso; omega)) | (refine a_condN rfl (fun hc => ?_) (fun hc => ?_)) <;> (try (exfalso; omega)) | (refine Awp.cond rfl (fun hc => ?_) (fun hc => ?_)) | refine a_any 3 [0] [29, 35] [] [0, 1, 2, 3, 4, 5, 6, 7, 8, 9, 10, 11, 12, 14, 15, 16, 17, 18, 13, 19, 20, 21, 22, 23] (by kernel_rfl) (by kernel_rfl) (by kernel_rfl) rfl rfl rfl ?_)
    refine ⟨k + 1, [], hlt, by show X.length - (k + 1) < X.length - k; omega, rfl, ⟨sle_i rfl, sle_own, sle_i rfl, sle_i rfl, sle_i rfl, SLe.of_eq rfl, True.intro⟩, HLe.cons 0 rfl (HOLe.row ?_) .nil⟩
    rw [hL', ← e2, List.map_set, List.map_set]; rfl
  · have hkx : k = X.length := by omega
    have e0 : A ++ Y.take k ++ X.drop k ++ B ++ X.take k ++ Y.drop k ++ D = A ++ Y ++ B ++ X ++ D := by
      rw [hkx, List.drop_length, List.take_length, hX, List.drop_length, List.take_length]; simp only [List.append_assoc, List.nil_append]
    rw [e0]
    generalize A ++ Y ++ B ++ X ++ D = L
    generalize (A ++ X ++ B).length = bb
    repeat' (first | refine Awp.seq ?_ | refine Awp.block ?_ | refine Awp.region ?_ | (refine Ops.nil ?_; show Awp _ _ _ _ _) | (refine Ops.nil ?_; show Exists _) | (refine Ops.nil ?_; show endK _ _ _ _ _) | (refine Awp.skip ?_; show Awp _ _ _ _ _) | (refine Awp.skip ?_; show endK _ _ _ _ _) | (refine Awp.skip ?_; show Exists _) | (refine Awp.exit ?_; show Awp _ _ _ _ _) | (refine Awp.exit ?_; show Exists _) | (refine Awp.exit ?_; show endK _ _ _ _ _) | (refine o_add rfl rfl rfl rfl ?_ ?_; omega) | (refine o_calm rfl TtOk rfl rfl rfl ?_ (fun _ => ?_); first | exact True.intro | exact ⟨rfl, rfl, rfl, rfl⟩ | exact ⟨rfl, True.intro⟩ | exact ⟨rfl, rfl⟩ | exact ⟨rfl, rfl, rfl⟩ | exact rfl | exact ⟨fun h0 => by cases h0, rfl⟩ | exact (fun h0 => by cases h0) | exact ⟨rfl, by omega⟩ | exact ⟨Nat.succ_ne_zero _, rfl⟩ | omega) | refine o_store TtOk rfl rfl rfl rfl rfl rfl rfl ⟨rfl, rfl⟩ rfl rfl rfl rfl rfl ?_ | (refine o_index rfl TtOk rfl rfl rfl rfl rfl rfl ?_ (getq_nat ?_) ?_; omega; omega) | (refine o_indexOwn TtOk rfl rfl rfl rfl rfl rfl rfl rfl _ rfl ?_ (fun bO hbO => ?_); (simp only [List.length_map]; omega)) | (refine o_loadRow TtOk rfl rfl rfl rfl rfl (by assumption) (getq_map (List.getElem?_eq_getElem ?_)) rfl rfl (by first | exact Nat.add_zero _ | rfl) ⟨rfl, rfl⟩ ?_; omega) | (refine o_calm rfl TtOk rfl rfl rfl ?_ (fun _ => ?_); (show List.length _ + List.length _ ≤ 9223372036854775807; (try simp only [List.length_append, List.length_cons, List.length_nil]); omega)) | (refine o_storeRow TtOk rfl rfl rfl rfl rfl rfl (by assumption) (getq_map (List.getElem?_eq_getElem ?_)) rfl rfl (by first | exact Nat.add_zero _ | rfl) ⟨rfl, rfl⟩ rfl rfl ?_; omega) | refine a_condT rfl ?_ | refine a_condF rfl ?_ | (refine a_condP rfl (fun hc => ?_) (fun hc => ?_)) <;> (try (exfalso; omega)) | (refine a_condI rfl (fun hc => ?_) (fun hc => ?_)) <;> (try (exfalso; omega)) | (refine a_condN rfl (fun hc => ?_) (fun hc => ?_)) <;> (try (exfalso; omega)) | (refine Awp.cond rfl (fun hc => ?_) (fun hc => ?_)) | refine a_any 3 [] [] [] [0, 1, 2, 3, 4, 5, 6, 7, 8, 9, 10, 11, 12, 14, 15, 16, 17, 18, 13, 19, 20, 21, 22, 23] (by kernel_rfl) (by kernel_rfl) (by kernel_rfl) rfl rfl rfl ?_)
    exact end_none rfl [] [(0, _)] (HLe.cons 0 rfl (HOLe.refl _) .nil) ⟨rfl, rfl⟩ _ (.inr rfl)
theorem rotate_spec (v : Value) (gf : Fn) (gc : List AV) (A U V D : List Fl) (hU : 0 < U.length) (hV : 0 < V.length) (hl : (A ++ U ++ V ++ D).length ≤ 100000) :
    Spec Try.prog 92 [.own 0 v, .i .i64 (A.length : Nat), .i .i64 ((A ++ U).length : Nat), .i .i64 ((A ++ U ++ V).length : Nat), .fn gf gc] [.row v 35 5 ((A ++ U ++ V ++ D).map eF)]
      (fun r os => r = .tup [] ∧ os = [.row v 35 5 ((A ++ V ++ U ++ D).map eF)]) := by
  refine spec_of TtOk [(0, .row v 35 5 ((A ++ U ++ V ++ D).map eF))] Try.func92 rfl Try.ntmps92 (by kernel_rfl) rfl rfl (fun C => ?_) rfl
  have h1 : (A ++ U).length = A.length + U.length := List.length_append
  have h2 : (A ++ U ++ V).length = A.length + U.length + V.length := by simp only [List.length_append]
  have h0 : (A ++ U ++ V ++ D).length = A.length + U.length + V.length + D.length := by simp only [List.length_append]
  obtain ⟨T, hT⟩ : ∃ T, A ++ V ++ U ++ D = T := ⟨_, rfl⟩
  rw [hT]
  generalize hmm : (A ++ U).length = m at h1 ⊢
  generalize (A ++ U ++ V).length = bb at h2 ⊢
  repeat' (first | refine Awp.seq ?_ | refine Awp.block ?_ | refine Awp.region ?_ | (refine Ops.nil ?_; show Awp _ _ _ _ _) | (refine Ops.nil ?_; show Exists _) | (refine Ops.nil ?_; show endK _ _ _ _ _) | (refine Awp.skip ?_; show Awp _ _ _ _ _) | (refine Awp.skip ?_; show endK _ _ _ _ _) | (refine Awp.skip ?_; show Exists _) | (refine Awp.exit ?_; show Awp _ _ _ _ _) | (refine Awp.exit ?_; show Exists _) | (refine Awp.exit ?_; show endK _ _ _ _ _) | (refine o_add rfl rfl rfl rfl ?_ ?_; omega) | (refine o_sub rfl rfl rfl rfl ?_ ?_; omega) | (refine o_calm rfl TtOk rfl rfl rfl ?_ (fun _ => ?_); first | exact True.intro | exact ⟨rfl, rfl, rfl, rfl⟩ | exact ⟨rfl, True.intro⟩ | exact ⟨rfl, rfl⟩ | exact ⟨rfl, rfl, rfl⟩ | exact rfl | exact ⟨fun h0 => by cases h0, rfl⟩ | exact (fun h0 => by cases h0) | exact ⟨rfl, by omega⟩ | exact ⟨Nat.succ_ne_zero _, rfl⟩ | omega) | (refine o_calm rfl TtOk rfl rfl rfl ?_ (fun _ => ?_); (show List.length _ + List.length _ ≤ 9223372036854775807; (try simp only [List.length_append, List.length_cons, List.length_nil]); omega)) | refine a_condT rfl ?_ | refine a_condF rfl ?_ | (refine a_condP rfl (fun hc => ?_) (fun hc => ?_)) <;> (try (exfalso; omega)) | (refine a_condI rfl (fun hc => ?_) (fun hc => ?_)) <;> (try (exfalso; omega)) | (refine a_condN rfl (fun hc => ?_) (fun hc => ?_)) <;> (try (exfalso; omega)) | (refine Awp.cond rfl (fun hc => ?_) (fun hc => ?_)))
  refine Awp.loop (fun q : List Fl × List Fl × List Fl × List Fl => ⟨58, [(10, .i .i64 (q.2.1.length : Nat)), (11, .i .i64 (q.2.2.1.length : Nat)), (0, .own 0 v), (2, .i .i64 m), (4, .fn gf gc)], [(0, .row v 35 5 ((q.1 ++ q.2.1 ++ q.2.2.1 ++ q.2.2.2).map eF))]⟩)
    (fun q => 0 < q.2.1.length ∧ 0 < q.2.2.1.length ∧ q.1.length + q.2.1.length = m ∧ q.1 ++ q.2.2.1 ++ q.2.1 ++ q.2.2.2 = T ∧ (q.1 ++ q.2.1 ++ q.2.2.1 ++ q.2.2.2).length ≤ 100000) (fun q => q.2.1.length + q.2.2.1.length) [] (A, U, V, D) ⟨hU, hV, h1.symm, hT, hl⟩ ?_ ?_
  · exact ⟨rfl, ⟨sle_i (by show _ = ((U.length : Nat) : Int); omega), sle_i (by show _ = ((V.length : Nat) : Int); omega), sle_own, sle_i rfl, SLe.of_eq rfl, True.intro⟩, HLe.cons 0 rfl (HOLe.refl _) .nil⟩
  rintro ⟨P, X, Y, S⟩ ⟨hx, hy, hm, hg, hl3⟩
  dsimp only at hx hy hm hg hl3 ⊢
  have h4 : (P ++ X ++ Y ++ S).length = P.length + X.length + Y.length + S.length := by simp only [List.length_append]
  by_cases hgt : Y.length < X.length
  · have e1 : X.take Y.length ++ X.drop Y.length = X := List.take_append_drop _ _
    have hx1 : (X.take Y.length).length = Y.length := by rw [List.length_take]; omega
    have hx2 : (X.drop Y.length).length = X.length - Y.length := List.length_drop
    generalize X.take Y.length = X1 at e1 hx1
    generalize X.drop Y.length = X2 at e1 hx2
    subst e1
    have hxl : (X1 ++ X2).length = X1.length + X2.length := List.length_append
    have e2 : P ++ (X1 ++ X2) ++ Y ++ S = P ++ X1 ++ X2 ++ Y ++ S := by simp only [List.append_assoc]
    rw [e2] at hl3 h4 ⊢
    rw [hxl] at hx hm hgt hx2 h4 ⊢
    have hsw := swapRange_spec v gf gc P X1 X2 Y S hx1 hl3
    have hpl : (P ++ X1 ++ X2).length = m := by simp only [List.length_append]; omega
    rw [hpl, hx1] at hsw
    have e3 : P ++ Y ++ X2 ++ X1 ++ S = (P ++ Y) ++ X2 ++ X1 ++ S := rfl
    rw [e3] at hsw
    repeat' (first | refine Awp.seq ?_ | refine Awp.block ?_ | refine Awp.region ?_ | (refine Ops.nil ?_; show Awp _ _ _ _ _) | (refine Ops.nil ?_; show Exists _) | (refine Ops.nil ?_; show endK _ _ _ _ _) | (refine Awp.skip ?_; show Awp _ _ _ _ _) | (refine Awp.skip ?_; show endK _ _ _ _ _) | (refine Awp.skip ?_; show Exists _) | (refine Awp.exit ?_; show Awp _ _ _ _ _) | (refine Awp.exit ?_; show Exists _) | (refine Awp.exit ?_; show endK _ _ _ _ _) | (refine o_add rfl rfl rfl rfl ?_ ?_; omega) | (refine o_sub rfl rfl rfl rfl ?_ ?_; omega) | (refine o_calm rfl TtOk rfl rfl rfl ?_ (fun _ => ?_); first | exact True.intro | exact ⟨rfl, rfl, rfl, rfl⟩ | exact ⟨rfl, True.intro⟩ | exact ⟨rfl, rfl⟩ | exact ⟨rfl, rfl, rfl⟩ | exact rfl | exact ⟨fun h0 => by cases h0, rfl⟩ | exact (fun h0 => by cases h0) | exact ⟨rfl, by omega⟩ | exact ⟨Nat.succ_ne_zero _, rfl⟩ | omega) | (refine o_calm rfl TtOk rfl rfl rfl ?_ (fun _ => ?_); (show List.length _ + List.length _ ≤ 9223372036854775807; (try simp only [List.length_append, List.length_cons, List.length_nil]); omega)) | refine a_condT rfl ?_ | refine a_condF rfl ?_ | (refine a_condP rfl (fun hc => ?_) (fun hc => ?_)) <;> (try (exfalso; omega)) | (refine a_condI rfl (fun hc => ?_) (fun hc => ?_)) <;> (try (exfalso; omega)) | (refine a_condN rfl (fun hc => ?_) (fun hc => ?_)) <;> (try (exfalso; omega)) | (refine Awp.cond rfl (fun hc => ?_) (fun hc => ?_)) | (refine o_call [] [0] [0] rfl hsw ⟨sle_own, sle_i (by omega), sle_i (by omega), sle_i (by omega), SLe.of_eq rfl, True.intro⟩ rfl ⟨HOLe.refl _, True.intro⟩ rfl rfl ?_; rintro _ _ ⟨rfl, rfl⟩; refine ⟨_, rfl, rfl, ?_⟩))
    refine ⟨(P ++ Y, X2, X1, S), [], ⟨by show 0 < X2.length; omega, by show 0 < X1.length; omega, by show (P ++ Y).length + X2.length = m; rw [List.length_append]; omega, by rw [← hg]; simp only [List.append_assoc], by show ((P ++ Y) ++ X2 ++ X1 ++ S).length ≤ _; simp only [List.length_append] at hl3 ⊢; omega⟩, by show X2.length + X1.length < X1.length + X2.length + Y.length; omega, rfl, ⟨sle_i (by show _ = ((X2.length : Nat) : Int); omega), sle_i (by show _ = ((X1.length : Nat) : Int); omega), sle_own, sle_i rfl, SLe.of_eq rfl, True.intro⟩, HLe.cons 0 rfl (HOLe.refl _) .nil⟩
  by_cases hlt : X.length < Y.length
  · have e1 : Y.take (Y.length - X.length) ++ Y.drop (Y.length - X.length) = Y := List.take_append_drop _ _
    have hy1 : (Y.take (Y.length - X.length)).length = Y.length - X.length := by rw [List.length_take]; omega
    have hy2 : (Y.drop (Y.length - X.length)).length = X.length := by rw [List.length_drop]; omega
    generalize Y.take (Y.length - X.length) = Y1 at e1 hy1
    generalize Y.drop (Y.length - X.length) = Y2 at e1 hy2
    subst e1
    have hyl : (Y1 ++ Y2).length = Y1.length + Y2.length := List.length_append
    have e2 : P ++ X ++ (Y1 ++ Y2) ++ S = P ++ X ++ Y1 ++ Y2 ++ S := by simp only [List.append_assoc]
    rw [e2] at hl3 h4 ⊢
    rw [hyl] at hy hlt hgt hy1 h4 ⊢
    have hsw := swapRange_spec v gf gc P X Y1 Y2 S hy2.symm hl3
    have hpl : ((P ++ X ++ Y1).length : Int) = (m : Int) + Y1.length := by simp only [List.length_append]; omega
    rw [hpl] at hsw
    have e3 : P ++ Y2 ++ Y1 ++ X ++ S = P ++ Y2 ++ Y1 ++ (X ++ S) := by simp only [List.append_assoc]
    rw [e3] at hsw
    repeat' (first | refine Awp.seq ?_ | refine Awp.block ?_ | refine Awp.region ?_ | (refine Ops.nil ?_; show Awp _ _ _ _ _) | (refine Ops.nil ?_; show Exists _) | (refine Ops.nil ?_; show endK _ _ _ _ _) | (refine Awp.skip ?_; show Awp _ _ _ _ _) | (refine Awp.skip ?_; show endK _ _ _ _ _) | (refine Awp.skip ?_; show Exists _) | (refine Awp.exit ?_; show Awp _ _ _ _ _) | (refine Awp.exit ?_; show Exists _) | (refine Awp.exit ?_; show endK _ _ _ _ _) | (refine o_add rfl rfl rfl rfl ?_ ?_; omega) | (refine o_sub rfl rfl rfl rfl ?_ ?_; omega) | (refine o_calm rfl TtOk rfl rfl rfl ?_ (fun _ => ?_); first | exact True.intro | exact ⟨rfl, rfl, rfl, rfl⟩ | exact ⟨rfl, True.intro⟩ | exact ⟨rfl, rfl⟩ | exact ⟨rfl, rfl, rfl⟩ | exact rfl | exact ⟨fun h0 => by cases h0, rfl⟩ | exact (fun h0 => by cases h0) | exact ⟨rfl, by omega⟩ | exact ⟨Nat.succ_ne_zero _, rfl⟩ | omega) | (refine o_calm rfl TtOk rfl rfl rfl ?_ (fun _ => ?_); (show List.length _ + List.length _ ≤ 9223372036854775807; (try simp only [List.length_append, List.length_cons, List.length_nil]); omega)) | refine a_condT rfl ?_ | refine a_condF rfl ?_ | (refine a_condP rfl (fun hc => ?_) (fun hc => ?_)) <;> (try (exfalso; omega)) | (refine a_condI rfl (fun hc => ?_) (fun hc => ?_)) <;> (try (exfalso; omega)) | (refine a_condN rfl (fun hc => ?_) (fun hc => ?_)) <;> (try (exfalso; omega)) | (refine Awp.cond rfl (fun hc => ?_) (fun hc => ?_)) | (refine o_call [] [0] [0] rfl hsw ⟨sle_own, sle_i (by omega), sle_i (by omega), sle_i (by omega), SLe.of_eq rfl, True.intro⟩ rfl ⟨HOLe.refl _, True.intro⟩ rfl rfl ?_; rintro _ _ ⟨rfl, rfl⟩; refine ⟨_, rfl, rfl, ?_⟩))
    refine ⟨(P, Y2, Y1, X ++ S), [], ⟨by show 0 < Y2.length; omega, by show 0 < Y1.length; omega, by show P.length + Y2.length = m; omega, by rw [← hg]; simp only [List.append_assoc], by show (P ++ Y2 ++ Y1 ++ (X ++ S)).length ≤ _; simp only [List.length_append] at hl3 ⊢; omega⟩, by show Y2.length + Y1.length < X.length + (Y1.length + Y2.length); omega, rfl, ⟨sle_i (by show _ = ((Y2.length : Nat) : Int); omega), sle_i (by show _ = ((Y1.length : Nat) : Int); omega), sle_own, sle_i rfl, SLe.of_eq rfl, True.intro⟩, HLe.cons 0 rfl (HOLe.refl _) .nil⟩
  · have hxy : X.length = Y.length := by omega
    have hsw := swapRange_spec v gf gc P X [] Y S hxy (by rw [List.append_nil]; exact hl3)
    rw [List.append_nil, List.append_nil] at hsw
    have hpl : (P ++ X).length = m := by rw [List.length_append]; omega
    rw [hpl, hg] at hsw
    repeat' (first | refine Awp.seq ?_ | refine Awp.block ?_ | refine Awp.region ?_ | (refine Ops.nil ?_; show Awp _ _ _ _ _) | (refine Ops.nil ?_; show Exists _) | (refine Ops.nil ?_; show endK _ _ _ _ _) | (refine Awp.skip ?_; show Awp _ _ _ _ _) | (refine Awp.skip ?_; show endK _ _ _ _ _) | (refine Awp.skip ?_; show Exists _) | (refine Awp.exit ?_; show Awp _ _ _ _ _) | (refine Awp.exit ?_; show Exists _) | (refine Awp.exit ?_; show endK _ _ _ _ _) | (refine o_add rfl rfl rfl rfl ?_ ?_; omega) | (refine o_sub rfl rfl rfl rfl ?_ ?_; omega) | (refine o_calm rfl TtOk rfl rfl rfl ?_ (fun _ => ?_); first | exact True.intro | exact ⟨rfl, rfl, rfl, rfl⟩ | exact ⟨rfl, True.intro⟩ | exact ⟨rfl, rfl⟩ | exact ⟨rfl, rfl, rfl⟩ | exact rfl | exact ⟨fun h0 => by cases h0, rfl⟩ | exact (fun h0 => by cases h0) | exact ⟨rfl, by omega⟩ | exact ⟨Nat.succ_ne_zero _, rfl⟩ | omega) | (refine o_calm rfl TtOk rfl rfl rfl ?_ (fun _ => ?_); (show List.length _ + List.length _ ≤ 9223372036854775807; (try simp only [List.length_append, List.length_cons, List.length_nil]); omega)) | refine a_condT rfl ?_ | refine a_condF rfl ?_ | (refine a_condP rfl (fun hc => ?_) (fun hc => ?_)) <;> (try (exfalso; omega)) | (refine a_condI rfl (fun hc => ?_) (fun hc => ?_)) <;> (try (exfalso; omega)) | (refine a_condN rfl (fun hc => ?_) (fun hc => ?_)) <;> (try (exfalso; omega)) | (refine Awp.cond rfl (fun hc => ?_) (fun hc => ?_)) | (refine o_call [] [0] [0] rfl hsw ⟨sle_own, sle_i (by omega), sle_i (by omega), sle_i (by omega), SLe.of_eq rfl, True.intro⟩ rfl ⟨HOLe.refl _, True.intro⟩ rfl rfl ?_; rintro _ _ ⟨rfl, rfl⟩; refine ⟨_, rfl, rfl, ?_⟩))
    exact end_none rfl [] [(0, _)] (HLe.cons 0 rfl (HOLe.refl _) .nil) ⟨rfl, rfl⟩ _ (.inr rfl)
end Go.Proofs.Ytnmnhnlebkebfaa
