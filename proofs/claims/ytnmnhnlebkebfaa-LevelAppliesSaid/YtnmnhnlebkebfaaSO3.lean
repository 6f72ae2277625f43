/- slices.insertionSortCmpFunc at files by rules. -/
import Derived.Test.YtnmnhnlebkebfaaSO2
import Derived.Test.YtnmnhnlebkebfaaV21
set_option maxHeartbeats 8000000
set_option maxRecDepth 100000
namespace Go.Proofs.Ytnmnhnlebkebfaa
open Go Go.RowKit
theorem swap_at' {α : Type} (P : List α) (x : α) (Q : List α) (y : α) (R : List α) : ((P ++ x :: (Q ++ y :: R)).set (P ++ x :: Q).length x).set P.length y = P ++ y :: (Q ++ x :: R) := by
  have hne : (P ++ x :: Q).length ≠ P.length := by simp only [List.length_append, List.length_cons]; omega
  rw [List.set_comm _ _ hne, swap_at]
theorem insS_at {α : Type} {lt : α → α → Bool} {x : α} : ∀ (S1 S2 : List α), (∀ s ∈ S1, lt x s = false) → (∀ s ∈ S2, lt x s = true) → insS lt x (S1 ++ S2) = S1 ++ x :: S2
  | [], [], _, _ => rfl
  | [], y :: r, _, h => by
    show insS lt x (y :: r) = _
    unfold insS; rw [if_pos (h y (by simp))]; rfl
  | y :: r, S2, h, k => by
    show insS lt x (y :: (r ++ S2)) = _
    unfold insS
    rw [if_neg (by rw [h y (by simp)]; decide), insS_at r S2 (fun s hs => h s (List.mem_cons_of_mem _ hs)) k]; rfl
theorem sortS_succ {α : Type} {lt : α → α → Bool} (l : List α) (k : Nat) (h : k < l.length) : sortS lt (l.take (k + 1)) = insS lt l[k] (sortS lt (l.take k)) := by
  unfold sortS; rw [List.take_succ_eq_append_getElem h, List.foldl_append]; rfl
theorem sortS_len {α : Type} {lt : α → α → Bool} (W : WO lt) (l : List α) : (sortS lt l).length = l.length := by
  have h : ∀ (x : α) (a : List α), (insS lt x a).length = a.length + 1 := fun x a => by
    induction a with
    | nil => rfl
    | cons y r ih => unfold insS; split <;> simp [ih]
  have h2 : ∀ (l a : List α), (l.foldl (fun a x => insS lt x a) a).length = a.length + l.length := fun l => by
    induction l with
    | nil => intro a; rfl
    | cons x l ih => intro a; rw [List.foldl_cons, ih, h, List.length_cons]; omega
  unfold sortS; rw [h2]; simp
def ltC (cmp : Fl → Fl → Int) (x y : Fl) : Bool := decide (cmp x y < 0)
theorem isort_spec (v : Value) (f : Nat) (gc : List AV) (ho : gc.all isOne = true) (cmp : Fl → Fl → Int) (hcmp : ∀ x y, Spec Try.prog f ([eF x, eF y] ++ gc) [] (fun v os => v = .i .i64 (cmp x y) ∧ os = [])) (W : WO (ltC cmp)) (A X D : List Fl) (hl : (A ++ X ++ D).length ≤ 100000) :
    Spec Try.prog 88 [.own 0 v, .i .i64 (A.length : Nat), .i .i64 ((A ++ X).length : Nat), .fn (.func f) gc] [.row v 35 5 ((A ++ X ++ D).map eF)]
      (fun r os => r = .tup [] ∧ os = [.row v 35 5 ((A ++ sortS (ltC cmp) X ++ D).map eF)]) := by
  refine spec_of TtOk [(0, .row v 35 5 ((A ++ X ++ D).map eF))] Try.func88 rfl Try.ntmps88 (by kernel_rfl) rfl rfl (fun C => ?_) rfl
  have hb : (A ++ X).length = A.length + X.length := List.length_append
  have hl0 : (A ++ X ++ D).length = A.length + X.length + D.length := by simp only [List.length_append]
  generalize (A ++ X).length = b at hb ⊢
  repeat' (first
    | refine Awp.seq ?_
    | refine Awp.block ?_
    | refine Awp.region ?_
    | (refine Ops.nil ?_; show Awp _ _ _ _ _)
    | (refine Ops.nil ?_; show Exists _)
    | (refine Ops.nil ?_; show endK _ _ _ _ _)
    | (refine Awp.skip ?_; show Awp _ _ _ _ _)
    | (refine Awp.skip ?_; show endK _ _ _ _ _)
    | (refine Awp.skip ?_; show Exists _)
    | (refine Awp.exit ?_; show Awp _ _ _ _ _)
    | (refine Awp.exit ?_; show Exists _)
    | (refine Awp.exit ?_; show endK _ _ _ _ _)
    | refine o_offT rfl rfl rfl (by first | exact .inl rfl | exact .inr rfl) ?_
    | refine o_offU rfl rfl rfl (by first | exact .inl rfl | exact .inr rfl) ?_
    | refine o_offF rfl rfl rfl (by first | exact .inl rfl | exact .inr rfl) ?_
    | (refine o_add rfl rfl rfl rfl ?_ ?_; omega)
    | (refine o_sub rfl rfl rfl rfl ?_ ?_; omega)
    | (refine o_calm rfl TtOk rfl rfl rfl ?_ (fun _ => ?_); first | exact True.intro | exact ⟨rfl, rfl, rfl, rfl⟩ | exact ⟨rfl, True.intro⟩ | exact ⟨rfl, rfl⟩ | exact ⟨rfl, rfl, rfl⟩ | exact rfl | exact ⟨fun h0 => by cases h0, rfl⟩ | exact (fun h0 => by cases h0) | exact ⟨rfl, by omega⟩ | exact ⟨Nat.succ_ne_zero _, rfl⟩ | omega)
    | refine o_store TtOk rfl rfl rfl rfl rfl rfl rfl ⟨rfl, rfl⟩ rfl rfl rfl rfl rfl ?_
    | (refine o_index rfl TtOk rfl rfl rfl rfl rfl rfl ?_ (getq_nat ?_) ?_; omega; omega)
    | (refine o_indexOwn TtOk rfl rfl rfl rfl rfl rfl rfl rfl _ rfl ?_ (fun bO hbO => ?_); (simp only [List.length_map]; omega))
    | (refine o_loadRow TtOk rfl rfl rfl rfl rfl (by assumption) (getq_map (List.getElem?_eq_getElem ?_)) rfl rfl (by first | exact Nat.add_zero _ | rfl) ⟨rfl, rfl⟩ ?_; omega)
    | (refine o_calm rfl TtOk rfl rfl rfl ?_ (fun _ => ?_); (show List.length _ + List.length _ ≤ 9223372036854775807; (try simp only [List.length_append, List.length_cons, List.length_nil]); omega))
    | (refine o_storeRow TtOk rfl rfl rfl rfl rfl rfl (by assumption) (getq_map (List.getElem?_eq_getElem ?_)) rfl rfl (by first | exact Nat.add_zero _ | rfl) ⟨rfl, rfl⟩ rfl rfl ?_; omega)
    | (fail_if_success (refine o_isLit rfl (by first | exact .inl rfl | exact .inr rfl) ?_)); (refine o_splitP rfl rfl (fun hc => ?_) (fun hc => ?_) <;> try (exfalso; omega))
    | (fail_if_success (refine o_isLit rfl (by first | exact .inl rfl | exact .inr rfl) ?_)); (refine o_splitI rfl rfl (fun hc => ?_) (fun hc => ?_) <;> try (exfalso; omega))
    | (fail_if_success (refine o_isLit rfl (by first | exact .inl rfl | exact .inr rfl) ?_)); (refine o_splitN rfl rfl (fun hc => ?_) (fun hc => ?_) <;> try (exfalso; omega))
    | (fail_if_success (refine o_isLit rfl (by first | exact .inl rfl | exact .inr rfl) ?_)); (refine o_split rfl rfl (fun hc => ?_) (fun hc => ?_))
    | refine a_condT rfl ?_
    | refine a_condF rfl ?_
    | (refine a_condP rfl (fun hc => ?_) (fun hc => ?_)) <;> (try (exfalso; omega))
    | (refine a_condI rfl (fun hc => ?_) (fun hc => ?_)) <;> (try (exfalso; omega))
    | (refine a_condN rfl (fun hc => ?_) (fun hc => ?_)) <;> (try (exfalso; omega))
    | (refine Awp.cond rfl (fun hc => ?_) (fun hc => ?_))
    | refine a_any 4 [] [] [] [0, 1, 2, 3, 4, 5, 6, 7, 9, 10, 11, 12, 8, 13, 14, 15, 16] (by kernel_rfl) (by kernel_rfl) (by kernel_rfl) rfl rfl rfl ?_
    | refine a_any 6 [] [] [] [0, 1, 2, 3, 4, 5, 6, 7, 8, 10, 11, 12, 9, 13, 14, 15, 16, 17] (by kernel_rfl) (by kernel_rfl) (by kernel_rfl) rfl rfl rfl ?_)
  refine Awp.loop (fun q : Nat => ⟨53, [(8, .i .i64 ((A.length + q : Nat) : Int)), (0, .own 0 v), (1, .i .i64 (A.length : Nat)), (2, .i .i64 b), (3, .fn (.func f) gc)], [(0, .row v 35 5 ((A ++ sortS (ltC cmp) (X.take q) ++ X.drop q ++ D).map eF))]⟩) (fun q => 1 ≤ q ∧ q ≤ max 1 X.length) (fun q => X.length + 1 - q) [] 1 ⟨Nat.le_refl _, by omega⟩ ?_ ?_
  · have e1 : sortS (ltC cmp) (X.take 1) = X.take 1 := by
      cases X with
      | nil => rfl
      | cons x l => rfl
    refine ⟨rfl, ⟨sle_i (by omega), sle_own, sle_i rfl, sle_i rfl, SLe.of_eq rfl, True.intro⟩, HLe.cons 0 rfl (HOLe.row ?_) .nil⟩
    have e2 : A ++ X.take 1 ++ X.drop 1 = A ++ X := by rw [List.append_assoc, List.take_append_drop]
    rw [e1, e2]
  rintro k ⟨hk1, hk⟩
  by_cases hlt : k < X.length
  · have hss := sortS_srt W (X.take k)
    have hsu := sortS_succ (lt := ltC cmp) X k hlt
    have hsl := sortS_len W (X.take k)
    rw [List.length_take] at hsl
    have e0 : A ++ sortS (ltC cmp) (X.take k) ++ X.drop k ++ D = A ++ sortS (ltC cmp) (X.take k) ++ X[k] :: ([] ++ (X.drop (k + 1) ++ D)) := by
      rw [List.drop_eq_getElem_cons hlt]; simp only [List.append_assoc, List.cons_append, List.nil_append]
    rw [e0]
    have e9 : A ++ sortS (ltC cmp) (X.take (k + 1)) ++ X.drop (k + 1) ++ D = A ++ insS (ltC cmp) X[k] (sortS (ltC cmp) (X.take k)) ++ (X.drop (k + 1) ++ D) := by
      rw [hsu]; simp only [List.append_assoc]
    have hR : (X.drop (k + 1) ++ D).length = X.length - (k + 1) + D.length := by rw [List.length_append, List.length_drop]
    obtain ⟨T, hT⟩ : ∃ T, A ++ sortS (ltC cmp) (X.take (k + 1)) ++ X.drop (k + 1) ++ D = T := ⟨_, rfl⟩
    rw [hT] at e9
    have hk2 : min k X.length = k := by omega
    rw [hk2] at hsl
    generalize sortS (ltC cmp) (X.take k) = S at hss hsl e9 ⊢
    generalize X[k] = x at e9 ⊢
    generalize X.drop (k + 1) ++ D = R at hR e9 ⊢
    repeat' (first
      | refine Awp.seq ?_
      | refine Awp.block ?_
      | refine Awp.region ?_
      | (refine Ops.nil ?_; show Awp _ _ _ _ _)
      | (refine Ops.nil ?_; show Exists _)
      | (refine Ops.nil ?_; show endK _ _ _ _ _)
      | (refine Awp.skip ?_; show Awp _ _ _ _ _)
      | (refine Awp.skip ?_; show endK _ _ _ _ _)
      | (refine Awp.skip ?_; show Exists _)
      | (refine Awp.exit ?_; show Awp _ _ _ _ _)
      | (refine Awp.exit ?_; show Exists _)
      | (refine Awp.exit ?_; show endK _ _ _ _ _)
      | refine o_offT rfl rfl rfl (by first | exact .inl rfl | exact .inr rfl) ?_
      | refine o_offU rfl rfl rfl (by first | exact .inl rfl | exact .inr rfl) ?_
      | refine o_offF rfl rfl rfl (by first | exact .inl rfl | exact .inr rfl) ?_
      | (refine o_add rfl rfl rfl rfl ?_ ?_; omega)
      | (refine o_sub rfl rfl rfl rfl ?_ ?_; omega)
      | (refine o_calm rfl TtOk rfl rfl rfl ?_ (fun _ => ?_); first | exact True.intro | exact ⟨rfl, rfl, rfl, rfl⟩ | exact ⟨rfl, True.intro⟩ | exact ⟨rfl, rfl⟩ | exact ⟨rfl, rfl, rfl⟩ | exact rfl | exact ⟨fun h0 => by cases h0, rfl⟩ | exact (fun h0 => by cases h0) | exact ⟨rfl, by omega⟩ | exact ⟨Nat.succ_ne_zero _, rfl⟩ | omega)
      | refine o_store TtOk rfl rfl rfl rfl rfl rfl rfl ⟨rfl, rfl⟩ rfl rfl rfl rfl rfl ?_
      | (refine o_index rfl TtOk rfl rfl rfl rfl rfl rfl ?_ (getq_nat ?_) ?_; omega; omega)
      | (refine o_indexOwn TtOk rfl rfl rfl rfl rfl rfl rfl rfl _ rfl ?_ (fun bO hbO => ?_); (simp only [List.length_map]; omega))
      | (refine o_loadRow TtOk rfl rfl rfl rfl rfl (by assumption) (getq_map (List.getElem?_eq_getElem ?_)) rfl rfl (by first | exact Nat.add_zero _ | rfl) ⟨rfl, rfl⟩ ?_; omega)
      | (refine o_calm rfl TtOk rfl rfl rfl ?_ (fun _ => ?_); (show List.length _ + List.length _ ≤ 9223372036854775807; (try simp only [List.length_append, List.length_cons, List.length_nil]); omega))
      | (refine o_storeRow TtOk rfl rfl rfl rfl rfl rfl (by assumption) (getq_map (List.getElem?_eq_getElem ?_)) rfl rfl (by first | exact Nat.add_zero _ | rfl) ⟨rfl, rfl⟩ rfl rfl ?_; omega)
      | (fail_if_success (refine o_isLit rfl (by first | exact .inl rfl | exact .inr rfl) ?_)); (refine o_splitP rfl rfl (fun hc => ?_) (fun hc => ?_) <;> try (exfalso; omega))
      | (fail_if_success (refine o_isLit rfl (by first | exact .inl rfl | exact .inr rfl) ?_)); (refine o_splitI rfl rfl (fun hc => ?_) (fun hc => ?_) <;> try (exfalso; omega))
      | (fail_if_success (refine o_isLit rfl (by first | exact .inl rfl | exact .inr rfl) ?_)); (refine o_splitN rfl rfl (fun hc => ?_) (fun hc => ?_) <;> try (exfalso; omega))
      | (fail_if_success (refine o_isLit rfl (by first | exact .inl rfl | exact .inr rfl) ?_)); (refine o_split rfl rfl (fun hc => ?_) (fun hc => ?_))
      | refine a_condT rfl ?_
      | refine a_condF rfl ?_
      | (refine a_condP rfl (fun hc => ?_) (fun hc => ?_)) <;> (try (exfalso; omega))
      | (refine a_condI rfl (fun hc => ?_) (fun hc => ?_)) <;> (try (exfalso; omega))
      | (refine a_condN rfl (fun hc => ?_) (fun hc => ?_)) <;> (try (exfalso; omega))
      | (refine Awp.cond rfl (fun hc => ?_) (fun hc => ?_))
      | refine a_any 4 [] [] [] [0, 1, 2, 3, 4, 5, 6, 7, 9, 10, 11, 12, 8, 13, 14, 15, 16] (by kernel_rfl) (by kernel_rfl) (by kernel_rfl) rfl rfl rfl ?_
      | refine a_any 6 [] [] [] [0, 1, 2, 3, 4, 5, 6, 7, 8, 10, 11, 12, 9, 13, 14, 15, 16, 17] (by kernel_rfl) (by kernel_rfl) (by kernel_rfl) rfl rfl rfl ?_)
    refine Awp.loop (fun q : List Fl × List Fl => ⟨53, [(9, .i .i64 ((A.length + q.1.length : Nat) : Int)), (8, .i .i64 ((A.length + k : Nat) : Int)), (0, .own 0 v), (1, .i .i64 (A.length : Nat)), (2, .i .i64 b), (3, .fn (.func f) gc)], [(0, .row v 35 5 ((A ++ q.1 ++ x :: (q.2 ++ R)).map eF))]⟩) (fun q => q.1 ++ q.2 = S ∧ ∀ s ∈ q.2, ltC cmp x s = true) (fun q => q.1.length) [] (S, []) ⟨List.append_nil _, fun s hs => by cases hs⟩ ?_ ?_
    · exact ⟨rfl, ⟨sle_i (by show _ = ((A.length + S.length : Nat) : Int); omega), sle_i rfl, sle_own, sle_i rfl, sle_i rfl, SLe.of_eq rfl, True.intro⟩, HLe.cons 0 rfl (HOLe.refl _) .nil⟩
    rintro ⟨S1, S2⟩ ⟨hS, hS2⟩
    dsimp only at hS hS2 ⊢
    have hSl : S1.length + S2.length = S.length := by rw [← hS, List.length_append]
    rcases List.eq_nil_or_concat S1 with h1 | ⟨S0, y, h1⟩
    · subst h1
      have hi := insS_at (lt := ltC cmp) (x := x) [] S2 (fun s hs => by cases hs) hS2
      have hT2 : A ++ [] ++ x :: (S2 ++ R) = T := by rw [e9, ← hS, hi]; simp only [List.append_assoc, List.cons_append, List.nil_append]
      rw [hT2]
      have hnil : ([] : List Fl).length = 0 := rfl
      repeat' (first
        | refine Awp.seq ?_
        | refine Awp.block ?_
        | refine Awp.region ?_
        | (refine Ops.nil ?_; show Awp _ _ _ _ _)
        | (refine Ops.nil ?_; show Exists _)
        | (refine Ops.nil ?_; show endK _ _ _ _ _)
        | (refine Awp.skip ?_; show Awp _ _ _ _ _)
        | (refine Awp.skip ?_; show endK _ _ _ _ _)
        | (refine Awp.skip ?_; show Exists _)
        | (refine Awp.exit ?_; show Awp _ _ _ _ _)
        | (refine Awp.exit ?_; show Exists _)
        | (refine Awp.exit ?_; show endK _ _ _ _ _)
        | refine o_noT rfl rfl rfl ?_
        | refine o_noU rfl rfl rfl ?_
        | refine o_noF rfl rfl rfl ?_
        | (refine o_add rfl rfl rfl rfl ?_ ?_; omega)
        | (refine o_sub rfl rfl rfl rfl ?_ ?_; omega)
        | (refine o_calm rfl TtOk rfl rfl rfl ?_ (fun _ => ?_); first | exact True.intro | exact ⟨rfl, rfl, rfl, rfl⟩ | exact ⟨rfl, True.intro⟩ | exact ⟨rfl, rfl⟩ | exact ⟨rfl, rfl, rfl⟩ | exact rfl | exact ⟨fun h0 => by cases h0, rfl⟩ | exact (fun h0 => by cases h0) | exact ⟨rfl, by omega⟩ | exact ⟨Nat.succ_ne_zero _, rfl⟩ | omega)
        | refine o_store TtOk rfl rfl rfl rfl rfl rfl rfl ⟨rfl, rfl⟩ rfl rfl rfl rfl rfl ?_
        | (refine o_index rfl TtOk rfl rfl rfl rfl rfl rfl ?_ (getq_nat ?_) ?_; omega; omega)
        | (refine o_indexOwn TtOk rfl rfl rfl rfl rfl rfl rfl rfl _ rfl ?_ (fun bO hbO => ?_); (simp only [List.length_map]; omega))
        | (refine o_loadRow TtOk rfl rfl rfl rfl rfl (by assumption) (getq_map (List.getElem?_eq_getElem ?_)) rfl rfl (by first | exact Nat.add_zero _ | rfl) ⟨rfl, rfl⟩ ?_; omega)
        | (refine o_calm rfl TtOk rfl rfl rfl ?_ (fun _ => ?_); (show List.length _ + List.length _ ≤ 9223372036854775807; (try simp only [List.length_append, List.length_cons, List.length_nil]); omega))
        | (refine o_storeRow TtOk rfl rfl rfl rfl rfl rfl (by assumption) (getq_map (List.getElem?_eq_getElem ?_)) rfl rfl (by first | exact Nat.add_zero _ | rfl) ⟨rfl, rfl⟩ rfl rfl ?_; omega)
        | (fail_if_success (refine o_isLit rfl (by first | exact .inl rfl | exact .inr rfl) ?_)); (refine o_splitP rfl rfl (fun hc => ?_) (fun hc => ?_) <;> try (exfalso; omega))
        | (fail_if_success (refine o_isLit rfl (by first | exact .inl rfl | exact .inr rfl) ?_)); (refine o_splitI rfl rfl (fun hc => ?_) (fun hc => ?_) <;> try (exfalso; omega))
        | (fail_if_success (refine o_isLit rfl (by first | exact .inl rfl | exact .inr rfl) ?_)); (refine o_splitN rfl rfl (fun hc => ?_) (fun hc => ?_) <;> try (exfalso; omega))
        | (fail_if_success (refine o_isLit rfl (by first | exact .inl rfl | exact .inr rfl) ?_)); (refine o_split rfl rfl (fun hc => ?_) (fun hc => ?_))
        | refine a_condT rfl ?_
        | refine a_condF rfl ?_
        | (refine a_condP rfl (fun hc => ?_) (fun hc => ?_)) <;> (try (exfalso; omega))
        | (refine a_condI rfl (fun hc => ?_) (fun hc => ?_)) <;> (try (exfalso; omega))
        | (refine a_condN rfl (fun hc => ?_) (fun hc => ?_)) <;> (try (exfalso; omega))
        | (refine Awp.cond rfl (fun hc => ?_) (fun hc => ?_))
        | refine a_any 4 [] [] [] [0, 1, 2, 3, 4, 5, 6, 7, 9, 10, 11, 12, 8, 13, 14, 15, 16] (by kernel_rfl) (by kernel_rfl) (by kernel_rfl) rfl rfl rfl ?_
        | refine a_any 6 [] [] [] [0, 1, 2, 3, 4, 5, 6, 7, 8, 10, 11, 12, 9, 13, 14, 15, 16, 17] (by kernel_rfl) (by kernel_rfl) (by kernel_rfl) rfl rfl rfl ?_)
      refine ⟨k + 1, [], ⟨by omega, by omega⟩, by omega, rfl, ⟨sle_i (by omega), sle_own, sle_i rfl, sle_i rfl, SLe.of_eq rfl, True.intro⟩, HLe.cons 0 rfl (HOLe.row ?_) .nil⟩
      rw [hT]
    · rw [List.concat_eq_append] at h1
      subst h1
      have hlen0 : (S0 ++ [y]).length = S0.length + 1 := by simp
      have e0 : A ++ (S0 ++ [y]) ++ x :: (S2 ++ R) = (A ++ S0) ++ y :: ([] ++ x :: (S2 ++ R)) := by simp only [List.append_assoc, List.cons_append, List.nil_append]
      have e2 := swap_at' (A ++ S0) y [] x (S2 ++ R)
      obtain ⟨e3, e4⟩ := swap_get (A ++ S0) y [] x (S2 ++ R)
      have hL2 : (A ++ S0) ++ x :: ([] ++ y :: (S2 ++ R)) = A ++ S0 ++ x :: ((y :: S2) ++ R) := by simp only [List.append_assoc, List.cons_append, List.nil_append]
      rw [hL2] at e2
      rw [← e0] at e2 e3 e4
      have i1e : (A ++ S0).length = A.length + S0.length := List.length_append
      have i2e : ((A ++ S0) ++ y :: []).length = A.length + S0.length + 1 := by simp only [List.length_append, List.length_cons, List.length_nil]
      have hll : (A ++ (S0 ++ [y]) ++ x :: (S2 ++ R)).length = A.length + S0.length + 1 + (S2.length + R.length + 1) := by simp only [List.length_append, List.length_cons, List.length_nil]; omega
      have hcx := hcmp x y
      have hlt2 : ltC cmp x y = decide (cmp x y < 0) := rfl
      generalize (A ++ S0).length = i1 at i1e e2 e3
      generalize ((A ++ S0) ++ y :: []).length = i2 at i2e e2 e4
      obtain ⟨L, hL⟩ : ∃ L, A ++ (S0 ++ [y]) ++ x :: (S2 ++ R) = L := ⟨_, rfl⟩
      rw [hL] at e2 e3 e4 hll ⊢
      have hne : i2 ≠ i1 := by omega
      generalize hcv : cmp x y = cv at hcx hlt2
      repeat' (first
        | (refine o_storeRow TtOk rfl rfl rfl rfl rfl rfl (by assumption) ((List.getElem?_set_ne hne).trans (getq_map e3)) rfl rfl (by first | exact Nat.add_zero _ | rfl) ⟨rfl, rfl⟩ rfl rfl ?_)
        | (refine o_storeRow TtOk rfl rfl rfl rfl rfl rfl (by assumption) (getq_map e4) rfl rfl (by first | exact Nat.add_zero _ | rfl) ⟨rfl, rfl⟩ rfl rfl ?_)
        | (refine o_loadRow TtOk rfl rfl rfl rfl rfl (by assumption) (getq_map e4) rfl rfl (by first | exact Nat.add_zero _ | rfl) ⟨rfl, rfl⟩ ?_)
        | (refine o_loadRow TtOk rfl rfl rfl rfl rfl (by assumption) (getq_map e3) rfl rfl (by first | exact Nat.add_zero _ | rfl) ⟨rfl, rfl⟩ ?_)
        | (refine o_indexOwn TtOk rfl rfl rfl rfl rfl rfl rfl rfl i2 ?_ ?_ (fun bO hbO => ?_); omega; (simp only [List.length_map, List.length_set]; omega))
        | (refine o_indexOwn TtOk rfl rfl rfl rfl rfl rfl rfl rfl i1 ?_ ?_ (fun bO hbO => ?_); omega; (simp only [List.length_map, List.length_set]; omega))
        | refine Awp.seq ?_
        | refine Awp.block ?_
        | refine Awp.region ?_
        | (refine Ops.nil ?_; show Awp _ _ _ _ _)
        | (refine Ops.nil ?_; show Exists _)
        | (refine Ops.nil ?_; show endK _ _ _ _ _)
        | (refine Awp.skip ?_; show Awp _ _ _ _ _)
        | (refine Awp.skip ?_; show endK _ _ _ _ _)
        | (refine Awp.skip ?_; show Exists _)
        | (refine Awp.exit ?_; show Awp _ _ _ _ _)
        | (refine Awp.exit ?_; show Exists _)
        | (refine Awp.exit ?_; show endK _ _ _ _ _)
        | refine o_noT rfl rfl rfl ?_
        | refine o_noU rfl rfl rfl ?_
        | refine o_noF rfl rfl rfl ?_
        | (refine o_add rfl rfl rfl rfl ?_ ?_; omega)
        | (refine o_sub rfl rfl rfl rfl ?_ ?_; omega)
        | (refine o_calm rfl TtOk rfl rfl rfl ?_ (fun _ => ?_); first | exact True.intro | exact ⟨rfl, rfl, rfl, rfl⟩ | exact ⟨rfl, True.intro⟩ | exact ⟨rfl, rfl⟩ | exact ⟨rfl, rfl, rfl⟩ | exact rfl | exact ⟨fun h0 => by cases h0, rfl⟩ | exact (fun h0 => by cases h0) | exact ⟨rfl, by omega⟩ | exact ⟨Nat.succ_ne_zero _, rfl⟩ | omega)
        | refine o_store TtOk rfl rfl rfl rfl rfl rfl rfl ⟨rfl, rfl⟩ rfl rfl rfl rfl rfl ?_
        | (refine o_index rfl TtOk rfl rfl rfl rfl rfl rfl ?_ (getq_nat ?_) ?_; omega; omega)
        | (refine o_indexOwn TtOk rfl rfl rfl rfl rfl rfl rfl rfl _ rfl ?_ (fun bO hbO => ?_); (simp only [List.length_map]; omega))
        | (refine o_loadRow TtOk rfl rfl rfl rfl rfl (by assumption) (getq_map (List.getElem?_eq_getElem ?_)) rfl rfl (by first | exact Nat.add_zero _ | rfl) ⟨rfl, rfl⟩ ?_; omega)
        | (refine o_calm rfl TtOk rfl rfl rfl ?_ (fun _ => ?_); (show List.length _ + List.length _ ≤ 9223372036854775807; (try simp only [List.length_append, List.length_cons, List.length_nil]); omega))
        | (refine o_storeRow TtOk rfl rfl rfl rfl rfl rfl (by assumption) (getq_map (List.getElem?_eq_getElem ?_)) rfl rfl (by first | exact Nat.add_zero _ | rfl) ⟨rfl, rfl⟩ rfl rfl ?_; omega)
        | (fail_if_success (refine o_isLit rfl (by first | exact .inl rfl | exact .inr rfl) ?_)); (refine o_splitP rfl rfl (fun hc => ?_) (fun hc => ?_) <;> try (exfalso; omega))
        | (fail_if_success (refine o_isLit rfl (by first | exact .inl rfl | exact .inr rfl) ?_)); (refine o_splitI rfl rfl (fun hc => ?_) (fun hc => ?_) <;> try (exfalso; omega))
        | (fail_if_success (refine o_isLit rfl (by first | exact .inl rfl | exact .inr rfl) ?_)); (refine o_splitN rfl rfl (fun hc => ?_) (fun hc => ?_) <;> try (exfalso; omega))
        | (fail_if_success (refine o_isLit rfl (by first | exact .inl rfl | exact .inr rfl) ?_)); (refine o_split rfl rfl (fun hc => ?_) (fun hc => ?_))
        | refine a_condT rfl ?_
        | refine a_condF rfl ?_
        | (refine a_condP rfl (fun hc => ?_) (fun hc => ?_)) <;> (try (exfalso; omega))
        | (refine a_condI rfl (fun hc => ?_) (fun hc => ?_)) <;> (try (exfalso; omega))
        | (refine a_condN rfl (fun hc => ?_) (fun hc => ?_)) <;> (try (exfalso; omega))
        | (refine Awp.cond rfl (fun hc => ?_) (fun hc => ?_))
        | refine a_any 4 [] [] [] [0, 1, 2, 3, 4, 5, 6, 7, 9, 10, 11, 12, 8, 13, 14, 15, 16] (by kernel_rfl) (by kernel_rfl) (by kernel_rfl) rfl rfl rfl ?_
        | refine a_any 6 [0] [46, 50] [] [0, 1, 2, 3, 4, 5, 6, 7, 8, 10, 11, 12, 9, 13, 14, 15, 16, 17] (by kernel_rfl) (by kernel_rfl) (by kernel_rfl) rfl rfl rfl ?_
        | (refine o_callClo rfl rfl ho hcx ⟨SLe.of_eq rfl, SLe.of_eq rfl, argsLe_self _⟩ rfl rfl ?_; rintro _ _ ⟨rfl, rfl⟩; refine ⟨rfl, ?_⟩))
      · have hxy : ltC cmp x y = true := by rw [hlt2]; exact decide_eq_true (by assumption)
        refine ⟨(S0, y :: S2), [], ⟨by rw [← hS]; simp only [List.append_assoc, List.cons_append, List.nil_append], fun s hs => ?_⟩, by show S0.length < (S0 ++ [y]).length; omega, rfl, ⟨sle_i (by show _ = ((A.length + S0.length : Nat) : Int); omega), sle_i rfl, sle_own, sle_i rfl, sle_i rfl, SLe.of_eq rfl, True.intro⟩, HLe.cons 0 rfl (HOLe.row ?_) .nil⟩
        · rcases List.mem_cons.1 hs with rfl | hs
          · exact hxy
          · exact hS2 s hs
        · show _ = List.map eF (A ++ S0 ++ x :: ((y :: S2) ++ R))
          rw [← e2, List.map_set, List.map_set]; rfl
      · have hxy : ltC cmp x y = false := by rw [hlt2]; exact decide_eq_false (by assumption)
        have hS1 : Srt (ltC cmp) (S0 ++ [y]) := by rw [← hS] at hss; exact (List.pairwise_append.1 hss).1
        have hall : ∀ s ∈ S0 ++ [y], ltC cmp x s = false := fun s hs => by
          rcases List.mem_append.1 hs with hs | hs
          · exact W.neg x y s hxy ((List.pairwise_append.1 hS1).2.2 s hs y (by simp))
          · rw [List.mem_singleton.1 hs]; exact hxy
        have hi := insS_at (lt := ltC cmp) (x := x) (S0 ++ [y]) S2 hall hS2
        have hT2 : L = T := by rw [e9, ← hS, hi, ← hL]; simp only [List.append_assoc, List.cons_append, List.nil_append]
        refine ⟨k + 1, [], ⟨by omega, by omega⟩, by omega, rfl, ⟨sle_i (by omega), sle_own, sle_i rfl, sle_i rfl, SLe.of_eq rfl, True.intro⟩, HLe.cons 0 rfl (HOLe.row ?_) .nil⟩
        rw [hT, hT2]
  · have e0 : A ++ sortS (ltC cmp) (X.take k) ++ X.drop k ++ D = A ++ sortS (ltC cmp) X ++ D := by
      rw [List.take_of_length_le (by omega), List.drop_eq_nil_iff.2 (by omega), List.append_nil]
    rw [e0]
    generalize A ++ sortS (ltC cmp) X ++ D = L
    repeat' (first
      | refine Awp.seq ?_
      | refine Awp.block ?_
      | refine Awp.region ?_
      | (refine Ops.nil ?_; show Awp _ _ _ _ _)
      | (refine Ops.nil ?_; show Exists _)
      | (refine Ops.nil ?_; show endK _ _ _ _ _)
      | (refine Awp.skip ?_; show Awp _ _ _ _ _)
      | (refine Awp.skip ?_; show endK _ _ _ _ _)
      | (refine Awp.skip ?_; show Exists _)
      | (refine Awp.exit ?_; show Awp _ _ _ _ _)
      | (refine Awp.exit ?_; show Exists _)
      | (refine Awp.exit ?_; show endK _ _ _ _ _)
      | refine o_offT rfl rfl rfl (by first | exact .inl rfl | exact .inr rfl) ?_
      | refine o_offU rfl rfl rfl (by first | exact .inl rfl | exact .inr rfl) ?_
      | refine o_offF rfl rfl rfl (by first | exact .inl rfl | exact .inr rfl) ?_
      | (refine o_add rfl rfl rfl rfl ?_ ?_; omega)
      | (refine o_sub rfl rfl rfl rfl ?_ ?_; omega)
      | (refine o_calm rfl TtOk rfl rfl rfl ?_ (fun _ => ?_); first | exact True.intro | exact ⟨rfl, rfl, rfl, rfl⟩ | exact ⟨rfl, True.intro⟩ | exact ⟨rfl, rfl⟩ | exact ⟨rfl, rfl, rfl⟩ | exact rfl | exact ⟨fun h0 => by cases h0, rfl⟩ | exact (fun h0 => by cases h0) | exact ⟨rfl, by omega⟩ | exact ⟨Nat.succ_ne_zero _, rfl⟩ | omega)
      | refine o_store TtOk rfl rfl rfl rfl rfl rfl rfl ⟨rfl, rfl⟩ rfl rfl rfl rfl rfl ?_
      | (refine o_index rfl TtOk rfl rfl rfl rfl rfl rfl ?_ (getq_nat ?_) ?_; omega; omega)
      | (refine o_indexOwn TtOk rfl rfl rfl rfl rfl rfl rfl rfl _ rfl ?_ (fun bO hbO => ?_); (simp only [List.length_map]; omega))
      | (refine o_loadRow TtOk rfl rfl rfl rfl rfl (by assumption) (getq_map (List.getElem?_eq_getElem ?_)) rfl rfl (by first | exact Nat.add_zero _ | rfl) ⟨rfl, rfl⟩ ?_; omega)
      | (refine o_calm rfl TtOk rfl rfl rfl ?_ (fun _ => ?_); (show List.length _ + List.length _ ≤ 9223372036854775807; (try simp only [List.length_append, List.length_cons, List.length_nil]); omega))
      | (refine o_storeRow TtOk rfl rfl rfl rfl rfl rfl (by assumption) (getq_map (List.getElem?_eq_getElem ?_)) rfl rfl (by first | exact Nat.add_zero _ | rfl) ⟨rfl, rfl⟩ rfl rfl ?_; omega)
      | (fail_if_success (refine o_isLit rfl (by first | exact .inl rfl | exact .inr rfl) ?_)); (refine o_splitP rfl rfl (fun hc => ?_) (fun hc => ?_) <;> try (exfalso; omega))
      | (fail_if_success (refine o_isLit rfl (by first | exact .inl rfl | exact .inr rfl) ?_)); (refine o_splitI rfl rfl (fun hc => ?_) (fun hc => ?_) <;> try (exfalso; omega))
      | (fail_if_success (refine o_isLit rfl (by first | exact .inl rfl | exact .inr rfl) ?_)); (refine o_splitN rfl rfl (fun hc => ?_) (fun hc => ?_) <;> try (exfalso; omega))
      | (fail_if_success (refine o_isLit rfl (by first | exact .inl rfl | exact .inr rfl) ?_)); (refine o_split rfl rfl (fun hc => ?_) (fun hc => ?_))
      | refine a_condT rfl ?_
      | refine a_condF rfl ?_
      | (refine a_condP rfl (fun hc => ?_) (fun hc => ?_)) <;> (try (exfalso; omega))
      | (refine a_condI rfl (fun hc => ?_) (fun hc => ?_)) <;> (try (exfalso; omega))
      | (refine a_condN rfl (fun hc => ?_) (fun hc => ?_)) <;> (try (exfalso; omega))
      | (refine Awp.cond rfl (fun hc => ?_) (fun hc => ?_))
      | refine a_any 4 [] [] [] [0, 1, 2, 3, 4, 5, 6, 7, 9, 10, 11, 12, 8, 13, 14, 15, 16] (by kernel_rfl) (by kernel_rfl) (by kernel_rfl) rfl rfl rfl ?_
      | refine a_any 6 [] [] [] [0, 1, 2, 3, 4, 5, 6, 7, 8, 10, 11, 12, 9, 13, 14, 15, 16, 17] (by kernel_rfl) (by kernel_rfl) (by kernel_rfl) rfl rfl rfl ?_)
    exact end_none rfl [] [(0, _)] (HLe.cons 0 rfl (HOLe.refl _) .nil) ⟨rfl, rfl⟩ _ (.inr rfl)
end Go.Proofs.Ytnmnhnlebkebfaa
