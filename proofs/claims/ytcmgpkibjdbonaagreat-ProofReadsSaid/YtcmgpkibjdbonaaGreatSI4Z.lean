/- node.Item: the sorting texts, by rules. -/
import Derived.Test.YtcmgpkibjdbonaaGreatSO1Z
set_option maxHeartbeats 16000000
set_option maxRecDepth 100000
namespace Go.Proofs.YtcmgpkibjdbonaaGreat
open Go Go.RowKit
theorem sm_one_lI (v : Value) (f : Nat) (gc : List AV) (ho : gc.all isOne = true) (cmp : Itm → Itm → Int) (hcmp : ∀ x y, Spec Tryz.prog f ([Itm.A x, Itm.A y] ++ gc) [] (fun v os => v = .i .i64 (cmp x y) ∧ os = [])) (W : WO (ltCI cmp)) (A : List Itm) (u : Itm) (V D : List Itm) (hV : 0 < V.length) (sV : Srt (ltCI cmp) V) (hl : (A ++ [u] ++ V ++ D).length ≤ 100000) :
    Spec Tryz.prog 224 [.own 0 v, .i .i64 (A.length : Nat), .i .i64 ((A ++ [u]).length : Nat), .i .i64 ((A ++ [u] ++ V).length : Nat), .fn (.func f) gc] [.row v 50 66 ((A ++ [u] ++ V ++ D).map Itm.A)]
      (fun r os => r = .tup [] ∧ os = [.row v 50 66 ((A ++ sortS (ltCI cmp) ([u] ++ V) ++ D).map Itm.A)]) := by
  refine spec_of TtOk [(0, .row v 50 66 ((A ++ [u] ++ V ++ D).map Itm.A))] Tryz.func224 rfl Tryz.ntmps224 (by kernel_rfl) rfl rfl (fun C => ?_) rfl
  have hm : (A ++ [u]).length = A.length + 1 := by simp
  have hb : (A ++ [u] ++ V).length = A.length + 1 + V.length := by simp only [List.length_append, List.length_cons, List.length_nil]
  have hL : (A ++ [u] ++ V ++ D).length = A.length + 1 + V.length + D.length := by simp only [List.length_append, List.length_cons, List.length_nil]
  have ga : (A ++ [u] ++ V ++ D)[A.length]? = some u := get_U A [u] V D 0 (by show 0 < 1; decide)
  have gv : ∀ k (h : k < V.length), (A ++ [u] ++ V ++ D)[A.length + 1 + k]? = some V[k] := fun k h => get_V A [u] V D k h
  generalize (A ++ [u]).length = m at hm ⊢
  generalize (A ++ [u] ++ V).length = b at hb ⊢
  obtain ⟨L, hLe⟩ : ∃ L, A ++ [u] ++ V ++ D = L := ⟨_, rfl⟩
  rw [hLe] at hl hL ga gv ⊢
  obtain ⟨a, hal⟩ : ∃ a, A.length = a := ⟨_, rfl⟩
  rw [hal] at hm hb hL ga gv ⊢
  repeat' (first | refine Awp.seq ?_ | refine Awp.block ?_ | refine Awp.region ?_ | refine Ops.nil (nqA ?_) | (refine o_sub rfl rfl rfl rfl ?_ ?_; omega) | (refine o_calm rfl TtOk rfl rfl rfl ?_ (fun _ => ?_); exact nd) | (refine a_condP rfl (fun hc => ?_) (fun hc => ?_)) <;> (try (exfalso; omega)))
  refine Awp.loop (fun q : Nat × Nat => ⟨220, [(10, .i .i64 q.1), (11, .i .i64 q.2), (0, .own 0 v), (1, .i .i64 a), (2, .i .i64 m), (3, .i .i64 b), (4, .fn (.func f) gc)], [(0, .row v 50 66 (L.map Itm.A))]⟩)
    (fun q => m ≤ q.1 ∧ q.1 ≤ q.2 ∧ q.2 ≤ b ∧ (q.1 - m = 0 ∨ ∃ (h : q.1 - m - 1 < V.length), ltCI cmp V[q.1 - m - 1] u = true) ∧ (q.2 - m = V.length ∨ ∃ (h : q.2 - m < V.length), ltCI cmp V[q.2 - m] u = false)) (fun q => q.2 - q.1) [] (m, b) ⟨Nat.le_refl _, by show m ≤ b; omega, Nat.le_refl _, .inl (by show m - m = 0; omega), .inl (by show b - m = V.length; omega)⟩ ?_ ?_
  · exact ⟨rfl, ⟨sle_i rfl, sle_i rfl, sle_own, sle_i rfl, sle_i rfl, sle_i rfl, nqS, True.intro⟩, HLe.cons 0 rfl (HOLe.refl _) .nil⟩
  rintro ⟨i, j⟩ ⟨h1, h2, h3, h4, h5⟩
  dsimp only at h1 h2 h3 h4 h5 ⊢
  by_cases hlt : i < j
  · have hmid := wrapmid i j (by omega)
    have hh1 : i ≤ (i + j) / 2 := by omega
    have hh2 : (i + j) / 2 < j := by omega
    generalize (i + j) / 2 = h at hmid hh1 hh2
    have hv : h - m < V.length := by omega
    have gh := gv (h - m) hv
    rw [show a + 1 + (h - m) = h by omega] at gh
    have hcx := hcmp V[h - m] u
    have hltv : ltCI cmp V[h - m] u = decide (cmp V[h - m] u < 0) := rfl
    generalize cmp V[h - m] u = cv at hcx hltv
    repeat' (first | (refine o_loadRow TtOk rfl rfl rfl rfl rfl (by assumption) (getq_map ga) rfl rfl (by first | exact Nat.add_zero _ | rfl) ⟨rfl, rfl⟩ ?_) | (refine o_loadRow TtOk rfl rfl rfl rfl rfl (by assumption) (getq_map gh) rfl rfl (by first | exact Nat.add_zero _ | rfl) ⟨rfl, rfl⟩ ?_) | (refine o_indexOwn TtOk rfl rfl rfl rfl rfl rfl rfl rfl a ?_ ?_ (fun bO hbO => ?_); omega; ((repeat' (first | rw [List.length_map] | rw [List.length_set])) <;> omega)) | (refine o_indexOwn TtOk rfl rfl rfl rfl rfl rfl rfl rfl h ?_ ?_ (fun bO hbO => ?_); omega; ((repeat' (first | rw [List.length_map] | rw [List.length_set])) <;> omega)) | (refine o_calm rfl TtOk rfl rfl rfl ?_ (fun _ => ?_); exact True.intro; rw [hmid]) | refine Awp.seq ?_ | refine Awp.block ?_ | refine Awp.region ?_ | refine Ops.nil (nqA ?_) | refine Ops.nil (nqX ?_) | refine Awp.skip (nqA ?_) | (refine o_add rfl rfl rfl rfl ?_ ?_; omega) | (refine o_calm rfl TtOk rfl rfl rfl ?_ (fun _ => ?_); exact nd) | (refine a_condP rfl (fun hc => ?_) (fun hc => ?_)) <;> (try (exfalso; omega)) | refine a_any 5 [] [] [] [0, 1, 2, 3, 5, 6, 7, 4, 8, 9, 10] (by kernel_rfl) (by kernel_rfl) (by kernel_rfl) rfl rfl rfl ?_ | (refine o_callClo rfl rfl ho hcx ⟨nqS, nqS, argsLe_self _⟩ rfl rfl ?_; rintro _ _ ⟨rfl, rfl⟩; refine ⟨rfl, ?_⟩))
    · have hcc : cv < 0 := by assumption
      exact ⟨(h + 1, j), [], ⟨by show m ≤ h + 1; omega, by show h + 1 ≤ j; omega, h3, .inr ⟨by show h + 1 - m - 1 < V.length; omega, by
        have e : h + 1 - m - 1 = h - m := by omega
        have := decide_eq_true hcc
        rw [← hltv] at this
        simpa only [e] using this⟩, h5⟩, by show j - (h + 1) < j - i; omega, rfl, ⟨sle_i rfl, sle_i rfl, sle_own, sle_i rfl, sle_i rfl, sle_i rfl, nqS, True.intro⟩, HLe.cons 0 rfl (HOLe.refl _) .nil⟩
    · have hcc : ¬ cv < 0 := by assumption
      exact ⟨(i, h), [], ⟨h1, by show i ≤ h; omega, by show h ≤ b; omega, h4, .inr ⟨hv, by rw [hltv]; exact decide_eq_false hcc⟩⟩, by show h - i < j - i; omega, rfl, ⟨sle_i rfl, sle_i rfl, sle_own, sle_i rfl, sle_i rfl, sle_i rfl, nqS, True.intro⟩, HLe.cons 0 rfl (HOLe.refl _) .nil⟩
  have hij : j = i := by omega
  subst hij
  obtain ⟨m1, m2⟩ := merge_one_l W (x := u) sV (k := j - m) (by omega) h4 h5
  have hres := sortS_of W m1 m2
  obtain ⟨p, hp⟩ : ∃ p, j - m = p := ⟨_, rfl⟩
  rw [hp] at hres
  have hpv : p ≤ V.length := by omega
  have hjp : j = a + 1 + p := by omega
  clear gv ga h4 h5 m1 m2
  repeat' (first | refine Awp.seq ?_ | refine Awp.block ?_ | refine Awp.region ?_ | refine Ops.nil (nqA ?_) | refine Awp.exit (nqA ?_) | (refine o_calm rfl TtOk rfl rfl rfl ?_ (fun _ => ?_); exact nd) | (refine a_condP rfl (fun hc => ?_) (fun hc => ?_)) <;> (try (exfalso; omega)))
  refine Awp.loop (fun q : Nat => ⟨220, [(13, .i .i64 ((a + q : Nat) : Int)), (10, .i .i64 j), (0, .own 0 v), (1, .i .i64 a)], [(0, .row v 50 66 ((A ++ V.take q ++ u :: ([] ++ (V.drop q ++ D))).map Itm.A))]⟩) (fun q => q ≤ p) (fun q => p - q) [] 0 (Nat.zero_le _) ?_ ?_
  · refine ⟨rfl, ⟨sle_i rfl, sle_i rfl, sle_own, sle_i rfl, True.intro⟩, HLe.cons 0 rfl (HOLe.row ?_) .nil⟩
    rw [← hLe]; simp only [List.append_assoc, List.cons_append, List.nil_append, List.take_zero, List.drop_zero]
  intro t ht
  by_cases htl : t < p
  · have htv : t < V.length := by omega
    have e0 : A ++ V.take t ++ u :: ([] ++ (V.drop t ++ D)) = (A ++ V.take t) ++ u :: ([] ++ V[t] :: (V.drop (t + 1) ++ D)) := by
      rw [List.drop_eq_getElem_cons htv]; simp only [List.append_assoc, List.cons_append, List.nil_append]
    have e1 : (A ++ V.take t) ++ V[t] :: ([] ++ u :: (V.drop (t + 1) ++ D)) = A ++ V.take (t + 1) ++ u :: ([] ++ (V.drop (t + 1) ++ D)) := by
      rw [List.take_succ_eq_append_getElem htv]; simp only [List.append_assoc, List.cons_append, List.nil_append]
    have e2 := swap_at (A ++ V.take t) u [] V[t] (V.drop (t + 1) ++ D)
    obtain ⟨e3, e4⟩ := swap_get (A ++ V.take t) u [] V[t] (V.drop (t + 1) ++ D)
    rw [e1] at e2
    rw [← e0] at e2 e3 e4
    have i1e : (A ++ V.take t).length = a + t := by rw [List.length_append, List.length_take]; omega
    have i2e : ((A ++ V.take t) ++ u :: []).length = a + t + 1 := by rw [List.length_append, i1e]; rfl
    have hll : (A ++ V.take t ++ u :: ([] ++ (V.drop t ++ D))).length = a + 1 + V.length + D.length := by
      simp only [List.length_append, List.length_cons, List.length_nil, List.length_take, List.length_drop]; omega
    rw [i1e] at e2 e3
    rw [i2e] at e2 e4
    generalize A ++ V.take t ++ u :: ([] ++ (V.drop t ++ D)) = L2 at e2 e3 e4 hll ⊢
    generalize hL3 : A ++ V.take (t + 1) ++ u :: ([] ++ (V.drop (t + 1) ++ D)) = L3 at e2
    generalize V[t] = y at e2 e4
    obtain ⟨i1, hi1⟩ : ∃ i1, a + t = i1 := ⟨_, rfl⟩
    obtain ⟨i2, hi2⟩ : ∃ i2, a + t + 1 = i2 := ⟨_, rfl⟩
    rw [hi2] at e2 e4
    rw [hi1] at e2 e3
    have hne : i1 ≠ i2 := by omega
    repeat' (first | (refine o_storeRow TtOk rfl rfl rfl rfl rfl rfl (by assumption) ((List.getElem?_set_ne hne).trans (getq_map e4)) rfl rfl (by first | exact Nat.add_zero _ | rfl) ⟨rfl, rfl⟩ rfl rfl ?_) | (refine o_storeRow TtOk rfl rfl rfl rfl rfl rfl (by assumption) (getq_map e3) rfl rfl (by first | exact Nat.add_zero _ | rfl) ⟨rfl, rfl⟩ rfl rfl ?_) | (refine o_loadRow TtOk rfl rfl rfl rfl rfl (by assumption) (getq_map e4) rfl rfl (by first | exact Nat.add_zero _ | rfl) ⟨rfl, rfl⟩ ?_) | (refine o_loadRow TtOk rfl rfl rfl rfl rfl (by assumption) (getq_map e3) rfl rfl (by first | exact Nat.add_zero _ | rfl) ⟨rfl, rfl⟩ ?_) | (refine o_indexOwn TtOk rfl rfl rfl rfl rfl rfl rfl rfl i2 ?_ ?_ (fun bO hbO => ?_); omega; ((repeat' (first | rw [List.length_map] | rw [List.length_set])) <;> omega)) | (refine o_indexOwn TtOk rfl rfl rfl rfl rfl rfl rfl rfl i1 ?_ ?_ (fun bO hbO => ?_); omega; ((repeat' (first | rw [List.length_map] | rw [List.length_set])) <;> omega)) | refine Awp.seq ?_ | refine Awp.block ?_ | refine Awp.region ?_ | refine Ops.nil (nqA ?_) | refine Ops.nil (nqX ?_) | refine Awp.skip (nqA ?_) | (refine o_add rfl rfl rfl rfl ?_ ?_; omega) | (refine o_sub rfl rfl rfl rfl ?_ ?_; omega) | (refine o_calm rfl TtOk rfl rfl rfl ?_ (fun _ => ?_); exact nd) | (refine a_condP rfl (fun hc => ?_) (fun hc => ?_)) <;> (try (exfalso; omega)) | refine a_any 11 [0] [70, 74] [] [0, 1, 2, 3, 4, 5, 6, 7, 8, 10, 11, 12, 9, 13, 14, 15, 16, 17] (by kernel_rfl) (by kernel_rfl) (by kernel_rfl) rfl rfl rfl ?_)
    refine ⟨t + 1, [], by omega, by omega, rfl, ⟨sle_i (by omega), sle_i rfl, sle_own, sle_i rfl, True.intro⟩, HLe.cons 0 rfl (HOLe.row ?_) .nil⟩
    rw [hL3, ← e2, List.map_set, List.map_set]; rfl
  · have htp : t = p := by omega
    subst htp
    have e0 : A ++ V.take t ++ u :: ([] ++ (V.drop t ++ D)) = A ++ sortS (ltCI cmp) ([u] ++ V) ++ D := by
      rw [← hres]; simp only [List.append_assoc, List.cons_append, List.nil_append]
    rw [e0]
    generalize A ++ sortS (ltCI cmp) ([u] ++ V) ++ D = L2
    repeat' (first | refine Awp.seq ?_ | refine Awp.region ?_ | refine Ops.nil (nqA ?_) | refine Awp.exit (nqA ?_) | refine Awp.ret (nqE ?_) | (refine o_sub rfl rfl rfl rfl ?_ ?_; omega) | (refine o_calm rfl TtOk rfl rfl rfl ?_ (fun _ => ?_); exact nd) | (refine a_condP rfl (fun hc => ?_) (fun hc => ?_)) <;> (try (exfalso; omega)))
    exact end_none rfl [] [(0, _)] (HLe.cons 0 rfl (HOLe.refl _) .nil) ⟨rfl, rfl⟩ _ (.inl rfl)
end Go.Proofs.YtcmgpkibjdbonaaGreat
set_option maxHeartbeats 16000000
set_option maxRecDepth 100000
namespace Go.Proofs.YtcmgpkibjdbonaaGreat
open Go Go.RowKit
theorem sm_one_rI (v : Value) (f : Nat) (gc : List AV) (ho : gc.all isOne = true) (cmp : Itm → Itm → Int) (hcmp : ∀ x y, Spec Tryz.prog f ([Itm.A x, Itm.A y] ++ gc) [] (fun v os => v = .i .i64 (cmp x y) ∧ os = [])) (W : WO (ltCI cmp)) (A U : List Itm) (w : Itm) (D : List Itm) (hU : 2 ≤ U.length) (sU : Srt (ltCI cmp) U) (hl : (A ++ U ++ [w] ++ D).length ≤ 100000) :
    Spec Tryz.prog 224 [.own 0 v, .i .i64 (A.length : Nat), .i .i64 ((A ++ U).length : Nat), .i .i64 ((A ++ U ++ [w]).length : Nat), .fn (.func f) gc] [.row v 50 66 ((A ++ U ++ [w] ++ D).map Itm.A)]
      (fun r os => r = .tup [] ∧ os = [.row v 50 66 ((A ++ sortS (ltCI cmp) (U ++ [w]) ++ D).map Itm.A)]) := by
  refine spec_of TtOk [(0, .row v 50 66 ((A ++ U ++ [w] ++ D).map Itm.A))] Tryz.func224 rfl Tryz.ntmps224 (by kernel_rfl) rfl rfl (fun C => ?_) rfl
  have hm : (A ++ U).length = A.length + U.length := List.length_append
  have hb : (A ++ U ++ [w]).length = A.length + U.length + 1 := by simp only [List.length_append, List.length_cons, List.length_nil]
  have hL : (A ++ U ++ [w] ++ D).length = A.length + U.length + 1 + D.length := by simp only [List.length_append, List.length_cons, List.length_nil]
  have gu : ∀ k (h : k < U.length), (A ++ U ++ [w] ++ D)[A.length + k]? = some U[k] := fun k h => get_U A U [w] D k h
  have gm : (A ++ U ++ [w] ++ D)[A.length + U.length]? = some w := get_V A U [w] D 0 (by show 0 < 1; decide)
  rw [← hm] at gm
  generalize (A ++ U).length = m at hm gm ⊢
  generalize (A ++ U ++ [w]).length = b at hb ⊢
  obtain ⟨L, hLe⟩ : ∃ L, A ++ U ++ [w] ++ D = L := ⟨_, rfl⟩
  rw [hLe] at hl hL gu gm ⊢
  obtain ⟨a, hal⟩ : ∃ a, A.length = a := ⟨_, rfl⟩
  rw [hal] at hm hb hL gu ⊢
  repeat' (first | refine Awp.seq ?_ | refine Awp.block ?_ | refine Awp.region ?_ | refine Ops.nil (nqA ?_) | refine Awp.skip (nqA ?_) | (refine o_sub rfl rfl rfl rfl ?_ ?_; omega) | (refine o_calm rfl TtOk rfl rfl rfl ?_ (fun _ => ?_); exact nd) | (refine a_condP rfl (fun hc => ?_) (fun hc => ?_)) <;> (try (exfalso; omega)))
  refine Awp.loop (fun q : Nat × Nat => ⟨220, [(14, .i .i64 q.1), (15, .i .i64 q.2), (0, .own 0 v), (1, .i .i64 a), (2, .i .i64 m), (3, .i .i64 b), (4, .fn (.func f) gc)], [(0, .row v 50 66 (L.map Itm.A))]⟩)
    (fun q => a ≤ q.1 ∧ q.1 ≤ q.2 ∧ q.2 ≤ m ∧ (q.1 - a = 0 ∨ ∃ (h : q.1 - a - 1 < U.length), ltCI cmp w U[q.1 - a - 1] = false) ∧ (q.2 - a = U.length ∨ ∃ (h : q.2 - a < U.length), ltCI cmp w U[q.2 - a] = true)) (fun q => q.2 - q.1) [] (a, m) ⟨Nat.le_refl _, by show a ≤ m; omega, Nat.le_refl _, .inl (by show a - a = 0; omega), .inl (by show m - a = U.length; omega)⟩ ?_ ?_
  · exact ⟨rfl, ⟨sle_i rfl, sle_i rfl, sle_own, sle_i rfl, sle_i rfl, sle_i rfl, nqS, True.intro⟩, HLe.cons 0 rfl (HOLe.refl _) .nil⟩
  rintro ⟨i, j⟩ ⟨h1, h2, h3, h4, h5⟩
  dsimp only at h1 h2 h3 h4 h5 ⊢
  by_cases hlt : i < j
  · have hmid := wrapmid i j (by omega)
    have hh1 : i ≤ (i + j) / 2 := by omega
    have hh2 : (i + j) / 2 < j := by omega
    generalize (i + j) / 2 = h at hmid hh1 hh2
    have hv : h - a < U.length := by omega
    have gh := gu (h - a) hv
    rw [show a + (h - a) = h by omega] at gh
    have hcx := hcmp w U[h - a]
    have hltv : ltCI cmp w U[h - a] = decide (cmp w U[h - a] < 0) := rfl
    generalize cmp w U[h - a] = cv at hcx hltv
    repeat' (first | (refine o_loadRow TtOk rfl rfl rfl rfl rfl (by assumption) (getq_map gm) rfl rfl (by first | exact Nat.add_zero _ | rfl) ⟨rfl, rfl⟩ ?_) | (refine o_loadRow TtOk rfl rfl rfl rfl rfl (by assumption) (getq_map gh) rfl rfl (by first | exact Nat.add_zero _ | rfl) ⟨rfl, rfl⟩ ?_) | (refine o_indexOwn TtOk rfl rfl rfl rfl rfl rfl rfl rfl m ?_ ?_ (fun bO hbO => ?_); omega; ((repeat' (first | rw [List.length_map] | rw [List.length_set])) <;> omega)) | (refine o_indexOwn TtOk rfl rfl rfl rfl rfl rfl rfl rfl h ?_ ?_ (fun bO hbO => ?_); omega; ((repeat' (first | rw [List.length_map] | rw [List.length_set])) <;> omega)) | (refine o_calm rfl TtOk rfl rfl rfl ?_ (fun _ => ?_); exact True.intro; rw [hmid]) | refine Awp.seq ?_ | refine Awp.block ?_ | refine Awp.region ?_ | refine Ops.nil (nqA ?_) | refine Ops.nil (nqX ?_) | refine Awp.skip (nqA ?_) | (refine o_add rfl rfl rfl rfl ?_ ?_; omega) | (refine o_calm rfl TtOk rfl rfl rfl ?_ (fun _ => ?_); exact nd) | (refine a_condP rfl (fun hc => ?_) (fun hc => ?_)) <;> (try (exfalso; omega)) | (refine Awp.cond rfl (fun hc => ?_) (fun hc => ?_)) | refine a_any 17 [] [] [] [0, 1, 2, 3, 5, 6, 7, 4, 8, 9, 10, 11] (by kernel_rfl) (by kernel_rfl) (by kernel_rfl) rfl rfl rfl ?_ | (refine o_callClo rfl rfl ho hcx ⟨nqS, nqS, argsLe_self _⟩ rfl rfl ?_; rintro _ _ ⟨rfl, rfl⟩; refine ⟨rfl, ?_⟩))
    · have hcc : (!decide (cv < 0)) = true := by assumption
      rw [← hltv] at hcc
      exact ⟨(h + 1, j), [], ⟨by show a ≤ h + 1; omega, by show h + 1 ≤ j; omega, h3, .inr ⟨by show h + 1 - a - 1 < U.length; omega, by
        have e : h + 1 - a - 1 = h - a := by omega
        have : ltCI cmp w U[h - a] = false := by simpa using hcc
        simpa only [e] using this⟩, h5⟩, by show j - (h + 1) < j - i; omega, rfl, ⟨sle_i rfl, sle_i rfl, sle_own, sle_i rfl, sle_i rfl, sle_i rfl, nqS, True.intro⟩, HLe.cons 0 rfl (HOLe.refl _) .nil⟩
    · have hcc : (!decide (cv < 0)) = false := by assumption
      rw [← hltv] at hcc
      exact ⟨(i, h), [], ⟨h1, by show i ≤ h; omega, by show h ≤ m; omega, h4, .inr ⟨hv, by simpa using hcc⟩⟩, by show h - i < j - i; omega, rfl, ⟨sle_i rfl, sle_i rfl, sle_own, sle_i rfl, sle_i rfl, sle_i rfl, nqS, True.intro⟩, HLe.cons 0 rfl (HOLe.refl _) .nil⟩
  have hij : j = i := by omega
  subst hij
  obtain ⟨m1, m2⟩ := merge_one_r W (x := w) sU (k := j - a) (by omega) h4 h5
  have hres := sortS_of W m1 m2
  obtain ⟨p, hp⟩ : ∃ p, j - a = p := ⟨_, rfl⟩
  rw [hp] at hres
  have hpv : p ≤ U.length := by omega
  have hjp : j = a + p := by omega
  clear gu gm h4 h5 m1 m2
  repeat' (first | refine Awp.seq ?_ | refine Awp.block ?_ | refine Awp.region ?_ | refine Ops.nil (nqA ?_) | refine Awp.exit (nqA ?_) | (refine o_calm rfl TtOk rfl rfl rfl ?_ (fun _ => ?_); exact nd) | (refine a_condP rfl (fun hc => ?_) (fun hc => ?_)) <;> (try (exfalso; omega)))
  refine Awp.loop (fun q : Nat => ⟨220, [(17, .i .i64 ((a + q : Nat) : Int)), (14, .i .i64 j), (0, .own 0 v)], [(0, .row v 50 66 ((A ++ U.take q ++ w :: (U.drop q ++ D)).map Itm.A))]⟩) (fun q => p ≤ q ∧ q ≤ U.length) (fun q => q) [] U.length ⟨hpv, Nat.le_refl _⟩ ?_ ?_
  · refine ⟨rfl, ⟨sle_i (by omega), sle_i rfl, sle_own, True.intro⟩, HLe.cons 0 rfl (HOLe.row ?_) .nil⟩
    rw [← hLe, List.take_length, List.drop_length]; simp only [List.append_assoc, List.cons_append, List.nil_append]
  rintro t0 ⟨ht1, ht2⟩
  by_cases htl : p < t0
  · obtain ⟨t, rfl⟩ : ∃ t, t0 = t + 1 := ⟨t0 - 1, by omega⟩
    have htv : t < U.length := by omega
    have e0 : A ++ U.take (t + 1) ++ w :: (U.drop (t + 1) ++ D) = (A ++ U.take t) ++ U[t] :: ([] ++ w :: (U.drop (t + 1) ++ D)) := by
      rw [List.take_succ_eq_append_getElem htv]; simp only [List.append_assoc, List.cons_append, List.nil_append]
    have e1 : (A ++ U.take t) ++ w :: ([] ++ U[t] :: (U.drop (t + 1) ++ D)) = A ++ U.take t ++ w :: (U.drop t ++ D) := by
      rw [List.drop_eq_getElem_cons htv]; simp only [List.append_assoc, List.cons_append, List.nil_append]
    have e2 := swap_at' (A ++ U.take t) U[t] [] w (U.drop (t + 1) ++ D)
    obtain ⟨e3, e4⟩ := swap_get (A ++ U.take t) U[t] [] w (U.drop (t + 1) ++ D)
    rw [e1] at e2
    rw [← e0] at e2 e3 e4
    have i1e : (A ++ U.take t).length = a + t := by rw [List.length_append, List.length_take]; omega
    have i2e : ((A ++ U.take t) ++ U[t] :: []).length = a + t + 1 := by rw [List.length_append, i1e]; rfl
    have hll : (A ++ U.take (t + 1) ++ w :: (U.drop (t + 1) ++ D)).length = a + U.length + 1 + D.length := by
      simp only [List.length_append, List.length_cons, List.length_take, List.length_drop]; omega
    rw [i1e] at e2 e3
    rw [i2e] at e2 e4
    generalize A ++ U.take (t + 1) ++ w :: (U.drop (t + 1) ++ D) = L2 at e2 e3 e4 hll ⊢
    generalize hL3 : A ++ U.take t ++ w :: (U.drop t ++ D) = L3 at e2
    generalize U[t] = y at e2 e3
    obtain ⟨i1, hi1⟩ : ∃ i1, a + t = i1 := ⟨_, rfl⟩
    obtain ⟨i2, hi2⟩ : ∃ i2, a + t + 1 = i2 := ⟨_, rfl⟩
    rw [hi2] at e2 e4
    rw [hi1] at e2 e3
    have hne : i2 ≠ i1 := by omega
    repeat' (first | (refine o_storeRow TtOk rfl rfl rfl rfl rfl rfl (by assumption) ((List.getElem?_set_ne hne).trans (getq_map e3)) rfl rfl (by first | exact Nat.add_zero _ | rfl) ⟨rfl, rfl⟩ rfl rfl ?_) | (refine o_storeRow TtOk rfl rfl rfl rfl rfl rfl (by assumption) (getq_map e4) rfl rfl (by first | exact Nat.add_zero _ | rfl) ⟨rfl, rfl⟩ rfl rfl ?_) | (refine o_loadRow TtOk rfl rfl rfl rfl rfl (by assumption) (getq_map e4) rfl rfl (by first | exact Nat.add_zero _ | rfl) ⟨rfl, rfl⟩ ?_) | (refine o_loadRow TtOk rfl rfl rfl rfl rfl (by assumption) (getq_map e3) rfl rfl (by first | exact Nat.add_zero _ | rfl) ⟨rfl, rfl⟩ ?_) | (refine o_indexOwn TtOk rfl rfl rfl rfl rfl rfl rfl rfl i2 ?_ ?_ (fun bO hbO => ?_); omega; ((repeat' (first | rw [List.length_map] | rw [List.length_set])) <;> omega)) | (refine o_indexOwn TtOk rfl rfl rfl rfl rfl rfl rfl rfl i1 ?_ ?_ (fun bO hbO => ?_); omega; ((repeat' (first | rw [List.length_map] | rw [List.length_set])) <;> omega)) | refine Awp.seq ?_ | refine Awp.block ?_ | refine Awp.region ?_ | refine Ops.nil (nqA ?_) | refine Ops.nil (nqX ?_) | refine Awp.skip (nqA ?_) | (refine o_sub rfl rfl rfl rfl ?_ ?_; omega) | (refine o_calm rfl TtOk rfl rfl rfl ?_ (fun _ => ?_); exact nd) | (refine a_condP rfl (fun hc => ?_) (fun hc => ?_)) <;> (try (exfalso; omega)) | refine a_any 23 [0] [122, 126] [] [0, 1, 2, 3, 4, 5, 6, 7, 8, 10, 11, 12, 9, 13, 14, 15, 16, 17] (by kernel_rfl) (by kernel_rfl) (by kernel_rfl) rfl rfl rfl ?_)
    refine ⟨t, [], ⟨by omega, by omega⟩, by omega, rfl, ⟨sle_i (by omega), sle_i rfl, sle_own, True.intro⟩, HLe.cons 0 rfl (HOLe.row ?_) .nil⟩
    rw [hL3, ← e2, List.map_set, List.map_set]; rfl
  · have htp : t0 = p := by omega
    subst htp
    have e0 : A ++ U.take t0 ++ w :: (U.drop t0 ++ D) = A ++ sortS (ltCI cmp) (U ++ [w]) ++ D := by
      rw [← hres]; simp only [List.append_assoc, List.cons_append, List.nil_append]
    rw [e0]
    generalize A ++ sortS (ltCI cmp) (U ++ [w]) ++ D = L2
    repeat' (first | refine Awp.seq ?_ | refine Awp.region ?_ | refine Ops.nil (nqA ?_) | refine Awp.exit (nqA ?_) | refine Awp.ret (nqE ?_) | (refine o_calm rfl TtOk rfl rfl rfl ?_ (fun _ => ?_); exact nd) | (refine a_condP rfl (fun hc => ?_) (fun hc => ?_)) <;> (try (exfalso; omega)))
    exact end_none rfl [] [(0, _)] (HLe.cons 0 rfl (HOLe.refl _) .nil) ⟨rfl, rfl⟩ _ (.inl rfl)
end Go.Proofs.YtcmgpkibjdbonaaGreat
