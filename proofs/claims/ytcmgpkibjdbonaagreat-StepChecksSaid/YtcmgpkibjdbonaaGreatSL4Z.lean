/- node.Leaf: the sorting texts, by rules. -/
import Derived.Test.YtcmgpkibjdbonaaGreatG12Z
set_option maxHeartbeats 16000000
set_option maxRecDepth 100000
namespace Go.Proofs.YtcmgpkibjdbonaaGreat
open Go Go.RowKit
theorem sm_one_lL (v : Value) (f : Nat) (gc : List AV) (ho : gc.all isOne = true) (cmp : Lef → Lef → Int) (hcmp : ∀ x y, Spec Tryz.prog f ([Lef.A x, Lef.A y] ++ gc) [] (fun v os => v = .i .i64 (cmp x y) ∧ os = [])) (W : WO (ltCL cmp)) (A : List Lef) (u : Lef) (V D : List Lef) (hV : 0 < V.length) (sV : Srt (ltCL cmp) V) (hl : (A ++ [u] ++ V ++ D).length ≤ 100000) :
    Spec Tryz.prog 209 [.own 0 v, .i .i64 (A.length : Nat), .i .i64 ((A ++ [u]).length : Nat), .i .i64 ((A ++ [u] ++ V).length : Nat), .fn (.func f) gc] [.row v 46 65 ((A ++ [u] ++ V ++ D).map Lef.A)]
      (fun r os => r = .tup [] ∧ os = [.row v 46 65 ((A ++ sortS (ltCL cmp) ([u] ++ V) ++ D).map Lef.A)]) := by
  refine spec_of TtOk [(0, .row v 46 65 ((A ++ [u] ++ V ++ D).map Lef.A))] Tryz.func209 rfl Tryz.ntmps209 (by kernel_rfl) rfl rfl (fun C => ?_) rfl
  have hm : (A ++ [u]).length = A.length + 1 := by simp
  have hb : (A ++ [u] ++ V).length = A.length + 1 + V.length := by simp only [List.length_append, List.length_cons, List.length_nil]
  have hL : (A ++ [u] ++ V ++ D).length = A.length + 1 + V.length + D.length := by simp only [List.length_append, List.length_cons, List.length_nil]
  have ga : (A ++ [u] ++ V ++ D)[A.length]? = some u := get_U A [u] V D 0 (by show 0 < 1; decide)
  have gv : ∀ k (h : k < V.length), (A ++ [u] ++ V ++ D)[A.length + 1 + k]? = some V[k] := fun k h => get_V A [u] V D k h
  generalize (A ++ [u]).length = m at hm ⊢
  generalize (A ++ [u] ++ V).length = b at hb ⊢
  obtain ⟨L, hLe⟩ : ∃ L, A ++ [u] ++ V ++ D = L := ⟨_, rfl⟩
  rw [hLe] at hl hL ga gv ⊢
  obtain ⟨a, hal⟩ : ∃ a, A.length = a := ⟨_, rfl⟩
  rw [hal] at hm hb hL ga gv ⊢
  repeat' (first | refine Awp.seq ?_ | refine Awp.block ?_ | refine Awp.region ?_ | refine Ops.nil (nqA ?_) | (refine o_sub rfl rfl rfl rfl ?_ ?_; omega) | (refine o_calm rfl TtOk rfl rfl rfl ?_ (fun _ => ?_); exact nd) | (refine a_condP rfl (fun hc => ?_) (fun hc => ?_)) <;> (try (exfalso; omega)))
  refine Awp.loop (fun q : Nat × Nat => ⟨220, [(10, .i .i64 q.1), (11, .i .i64 q.2), (0, .own 0 v), (1, .i .i64 a), (2, .i .i64 m), (3, .i .i64 b), (4, .fn (.func f) gc)], [(0, .row v 46 65 (L.map Lef.A))]⟩)
    (fun q => m ≤ q.1 ∧ q.1 ≤ q.2 ∧ q.2 ≤ b ∧ (q.1 - m = 0 ∨ ∃ (h : q.1 - m - 1 < V.length), ltCL cmp V[q.1 - m - 1] u = true) ∧ (q.2 - m = V.length ∨ ∃ (h : q.2 - m < V.length), ltCL cmp V[q.2 - m] u = false)) (fun q => q.2 - q.1) [] (m, b) ⟨Nat.le_refl _, by show m ≤ b; omega, Nat.le_refl _, .inl (by show m - m = 0; omega), .inl (by show b - m = V.length; omega)⟩ ?_ ?_
  · exact ⟨rfl, ⟨sle_i rfl, sle_i rfl, sle_own, sle_i rfl, sle_i rfl, sle_i rfl, nqS, True.intro⟩, HLe.cons 0 rfl (HOLe.refl _) .nil⟩
  rintro ⟨i, j⟩ ⟨h1, h2, h3, h4, h5⟩
  dsimp only at h1 h2 h3 h4 h5 ⊢
  by_cases hlt : i < j
  · have hmid := wrapmid i j (by omega)
    have hh1 : i ≤ (i + j) / 2 := by omega
    have hh2 : (i + j) / 2 < j := by omega
    generalize (i + j) / 2 = h at hmid hh1 hh2
    have hv : h - m < V.length := by omega
    have gh := gv (h - m) hv
    rw [show a + 1 + (h - m) = h by omega] at gh
    have hcx := hcmp V[h - m] u
    have hltv : ltCL cmp V[h - m] u = decide (cmp V[h - m] u < 0) := rfl
    generalize cmp V[h - m] u = cv at hcx hltv
    repeat' (first | (refine o_loadRow TtOk rfl rfl rfl rfl rfl (by assumption) (getq_map ga) rfl rfl (by first | exact Nat.add_zero _ | rfl) ⟨rfl, rfl⟩ ?_) | (refine o_loadRow TtOk rfl rfl rfl rfl rfl (by assumption) (getq_map gh) rfl rfl (by first | exact Nat.add_zero _ | rfl) ⟨rfl, rfl⟩ ?_) | (refine o_indexOwn TtOk rfl rfl rfl rfl rfl rfl rfl rfl a ?_ ?_ (fun bO hbO => ?_); omega; ((repeat' (first | rw [List.length_map] | rw [List.length_set])) <;> omega)) | (refine o_indexOwn TtOk rfl rfl rfl rfl rfl rfl rfl rfl h ?_ ?_ (fun bO hbO => ?_); omega; ((repeat' (first | rw [List.length_map] | rw [List.length_set])) <;> omega)) | (refine o_calm rfl TtOk rfl rfl rfl ?_ (fun _ => ?_); exact True.intro; rw [hmid]) | refine Awp.seq ?_ | refine Awp.block ?_ | refine Awp.region ?_ | refine Ops.nil (nqA ?_) | refine Ops.nil (nqX ?_) | refine Awp.skip (nqA ?_) | (refine o_add rfl rfl rfl rfl ?_ ?_; omega) | (refine o_calm rfl TtOk rfl rfl rfl ?_ (fun _ => ?_); exact nd) | (refine a_condP rfl (fun hc => ?_) (fun hc => ?_)) <;> (try (exfalso; omega)) | refine a_any 5 [] [] [] [0, 1, 2, 3, 5, 6, 7, 4, 8, 9, 10] (by kernel_rfl) (by kernel_rfl) (by kernel_rfl) rfl rfl rfl ?_ | (refine o_callClo rfl rfl ho hcx ⟨nqS, nqS, argsLe_self _⟩ rfl rfl ?_; rintro _ _ ⟨rfl, rfl⟩; refine ⟨rfl, ?_⟩))
    · have hcc : cv < 0 := by assumption
      exact ⟨(h + 1, j), [], ⟨by show m ≤ h + 1; omega, by show h + 1 ≤ j; omega, h3, .inr ⟨by show h + 1 - m - 1 < V.length; omega, by
        have e : h + 1 - m - 1 = h - m := by omega
        have := decide_eq_true hcc
        rw [← hltv] at this
        simpa only [e] using this⟩, h5⟩, by show j - (h + 1) < j - i; omega, rfl, ⟨sle_i rfl, sle_i rfl, sle_own, sle_i rfl, sle_i rfl, sle_i rfl, nqS, True.intro⟩, HLe.cons 0 rfl (HOLe.refl _) .nil⟩
    · have hcc : ¬ cv < 0 := by assumption
      exact ⟨(i, h), [], ⟨h1, by show i ≤ h; omega, by show h ≤ b; omega, h4, .inr ⟨hv, by rw [hltv]; exact decide_eq_false hcc⟩⟩, by show h - i < j - i; omega, rfl, ⟨sle_i rfl, sle_i rfl, sle_own, sle_i rfl, sle_i rfl, sle_i rfl, nqS, True.intro⟩, HLe.cons 0 rfl (HOLe.refl _) .nil⟩
  have hij : j = i := by omega
  subst hij
  obtain ⟨m1, m2⟩ := merge_one_l W (x := u) sV (k := j - m) (by omega) h4 h5
  have hres := sortS_of W m1 m2
  obtain ⟨p, hp⟩ : ∃ p, j - m = p := ⟨_, rfl⟩
  rw [hp] at hres
  have hpv : p ≤ V.length := by omega
  have hjp : j = a + 1 + p := by omega
  clear gv ga h4 h5 m1 m2
  repeat' (first | refine Awp.seq ?_ | refine Awp.block ?_ | refine Awp.region ?_ | refine Ops.nil (nqA ?_) | refine Awp.exit (nqA ?_) | (refine o_calm rfl TtOk rfl rfl rfl ?_ (fun _ => ?_); exact nd) | (refine a_condP rfl (fun hc => ?_) (fun hc => ?_)) <;> (try (exfalso; omega)))
  refine Awp.loop (fun q : Nat => ⟨220, [(13, .i .i64 ((a + q : Nat) : Int)), (10, .i .i64 j), (0, .own 0 v), (1, .i .i64 a)], [(0, .row v 46 65 ((A ++ V.take q ++ u :: ([] ++ (V.drop q ++ D))).map Lef.A))]⟩) (fun q => q ≤ p) (fun q => p - q) [] 0 (Nat.zero_le _) ?_ ?_
  · refine ⟨rfl, ⟨sle_i rfl, sle_i rfl, sle_own, sle_i rfl, True.intro⟩, HLe.cons 0 rfl (HOLe.row ?_) .nil⟩
    rw [← hLe]; simp only [List.append_assoc, List.cons_append, List.nil_append, List.take_zero, List.drop_zero]
  intro t ht
  by_cases htl : t < p
  · have htv : t < V.length := by omega
    have e0 : A ++ V.take t ++ u :: ([] ++ (V.drop t ++ D)) = (A ++ V.take t) ++ u :: ([] ++ V[t] :: (V.drop (t + 1) ++ D)) := by
      rw [List.drop_eq_getElem_cons htv]; simp only [List.append_assoc, List.cons_append, List.nil_append]
    have e1 : (A ++ V.take t) ++ V[t] :: ([] ++ u :: (V.drop (t + 1) ++ D)) = A ++ V.take (t + 1) ++ u :: ([] ++ (V.drop (t + 1) ++ D)) := by
      rw [List.take_succ_eq_append_getElem htv]; simp only [List.append_assoc, List.cons_append, List.nil_append]
    have e2 := swap_at (A ++ V.take t) u [] V[t] (V.drop (t + 1) ++ D)
    obtain ⟨e3, e4⟩ := swap_get (A ++ V.take t) u [] V[t] (V.drop (t + 1) ++ D)
    rw [e1] at e2
    rw [← e0] at e2 e3 e4
    have i1e : (A ++ V.take t).length = a + t := by rw [List.length_append, List.length_take]; omega
    have i2e : ((A ++ V.take t) ++ u :: []).length = a + t + 1 := by rw [List.length_append, i1e]; rfl
    have hll : (A ++ V.take t ++ u :: ([] ++ (V.drop t ++ D))).length = a + 1 + V.length + D.length := by
      simp only [List.length_append, List.length_cons, List.length_nil, List.length_take, List.length_drop]; omega
    rw [i1e] at e2 e3
    rw [i2e] at e2 e4
    generalize A ++ V.take t ++ u :: ([] ++ (V.drop t ++ D)) = L2 at e2 e3 e4 hll ⊢
    generalize hL3 : A ++ V.take (t + 1) ++ u :: ([] ++ (V.drop (t + 1) ++ D)) = L3 at e2
    generalize V[t] = y at e2 e4
    obtain ⟨i1, hi1⟩ : ∃ i1, a + t = i1 := ⟨_, rfl⟩
    obtain ⟨i2, hi2⟩ : ∃ i2, a + t + 1 = i2 := ⟨_, rfl⟩
    rw [hi2] at e2 e4
    rw [hi1] at e2 e3
    have hne : i1 ≠ i2 := by omega
    repeat' (first | (refine o_storeRow TtOk rfl rfl rfl rfl rfl rfl (by assumption) ((List.getElem?_set_ne hne).trans (getq_map e4)) rfl rfl (by first | exact Nat.add_zero _ | rfl) ⟨rfl, rfl⟩ rfl rfl ?_) | (refine o_storeRow TtOk rfl rfl rfl rfl rfl rfl (by assumption) (getq_map e3) rfl rfl (by first | exact Nat.add_zero _ | rfl) ⟨rfl, rfl⟩ rfl rfl ?_) | (refine o_loadRow TtOk rfl rfl rfl rfl rfl (by assumption) (getq_map e4) rfl rfl (by first | exact Nat.add_zero _ | rfl) ⟨rfl, rfl⟩ ?_) | (refine o_loadRow TtOk rfl rfl rfl rfl rfl (by assumption) (getq_map e3) rfl rfl (by first | exact Nat.add_zero _ | rfl) ⟨rfl, rfl⟩ ?_) | (refine o_indexOwn TtOk rfl rfl rfl rfl rfl rfl rfl rfl i2 ?_ ?_ (fun bO hbO => ?_); omega; ((repeat' (first | rw [List.length_map] | rw [List.length_set])) <;> omega)) | (refine o_indexOwn TtOk rfl rfl rfl rfl rfl rfl rfl rfl i1 ?_ ?_ (fun bO hbO => ?_); omega; ((repeat' (first | rw [List.length_map] | rw [List.length_set])) <;> omega)) | refine Awp.seq ?_ | refine Awp.block ?_ | refine Awp.region ?_ | refine Ops.nil (nqA ?_) | refine Ops.nil (nqX ?_) | refine Awp.skip (nqA ?_) | (refine o_add rfl rfl rfl rfl ?_ ?_; omega) | (refine o_sub rfl rfl rfl rfl ?_ ?_; omega) | (refine o_calm rfl TtOk rfl rfl rfl ?_ (fun _ => ?_); exact nd) | (refine a_condP rfl (fun hc => ?_) (fun hc => ?_)) <;> (try (exfalso; omega)) | refine a_any 11 [0] [70, 74] [] [0, 1, 2, 3, 4, 5, 6, 7, 8, 10, 11, 12, 9, 13, 14, 15, 16, 17] (by kernel_rfl) (by kernel_rfl) (by kernel_rfl) rfl rfl rfl ?_)
    refine ⟨t + 1, [], by omega, by omega, rfl, ⟨sle_i (by omega), sle_i rfl, sle_own, sle_i rfl, True.intro⟩, HLe.cons 0 rfl (HOLe.row ?_) .nil⟩
    rw [hL3, ← e2, List.map_set, List.map_set]; rfl
  · have htp : t = p := by omega
    subst htp
    have e0 : A ++ V.take t ++ u :: ([] ++ (V.drop t ++ D)) = A ++ sortS (ltCL cmp) ([u] ++ V) ++ D := by
      rw [← hres]; simp only [List.append_assoc, List.cons_append, List.nil_append]
    rw [e0]
    generalize A ++ sortS (ltCL cmp) ([u] ++ V) ++ D = L2
    repeat' (first | refine Awp.seq ?_ | refine Awp.region ?_ | refine Ops.nil (nqA ?_) | refine Awp.exit (nqA ?_) | refine Awp.ret (nqE ?_) | (refine o_sub rfl rfl rfl rfl ?_ ?_; omega) | (refine o_calm rfl TtOk rfl rfl rfl ?_ (fun _ => ?_); exact nd) | (refine a_condP rfl (fun hc => ?_) (fun hc => ?_)) <;> (try (exfalso; omega)))
    exact end_none rfl [] [(0, _)] (HLe.cons 0 rfl (HOLe.refl _) .nil) ⟨rfl, rfl⟩ _ (.inl rfl)
end Go.Proofs.YtcmgpkibjdbonaaGreat
set_option maxHeartbeats 16000000
set_option maxRecDepth 100000
namespace Go.Proofs.YtcmgpkibjdbonaaGreat
open Go Go.RowKit
theorem sm_one_rL (v : Value) (f : Nat) (gc : List AV) (ho : gc.all isOne = true) (cmp : Lef → Lef → Int) (hcmp : ∀ x y, Spec Tryz.prog f ([Lef.A x, Lef.A y] ++ gc) [] (fun v os => v = .i .i64 (cmp x y) ∧ os = [])) (W : WO (ltCL cmp)) (A U : List Lef) (w : Lef) (D : List Lef) (hU : 2 ≤ U.length) (sU : Srt (ltCL cmp) U) (hl : (A ++ U ++ [w] ++ D).length ≤ 100000) :
    Spec Tryz.prog 209 [.own 0 v, .i .i64 (A.length : Nat), .i .i64 ((A ++ U).length : Nat), .i .i64 ((A ++ U ++ [w]).length : Nat), .fn (.func f) gc] [.row v 46 65 ((A ++ U ++ [w] ++ D).map Lef.A)]
      (fun r os => r = .tup [] ∧ os = [.row v 46 65 ((A ++ sortS (ltCL cmp) (U ++ [w]) ++ D).map Lef.A)]) := by
  refine spec_of TtOk [(0, .row v 46 65 ((A ++ U ++ [w] ++ D).map Lef.A))] Tryz.func209 rfl Tryz.ntmps209 (by kernel_rfl) rfl rfl (fun C => ?_) rfl
  have hm : (A ++ U).length = A.length + U.length := List.length_append
  have hb : (A ++ U ++ [w]).length = A.length + U.length + 1 := by simp only [List.length_append, List.length_cons, List.length_nil]
  have hL : (A ++ U ++ [w] ++ D).length = A.length + U.length + 1 + D.length := by simp only [List.length_append, List.length_cons, List.length_nil]
  have gu : ∀ k (h : k < U.length), (A ++ U ++ [w] ++ D)[A.length + k]? = some U[k] := fun k h => get_U A U [w] D k h
  have gm : (A ++ U ++ [w] ++ D)[A.length + U.length]? = some w := get_V A U [w] D 0 (by show 0 < 1; decide)
  rw [← hm] at gm
  generalize (A ++ U).length = m at hm gm ⊢
  generalize (A ++ U ++ [w]).length = b at hb ⊢
  obtain ⟨L, hLe⟩ : ∃ L, A ++ U ++ [w] ++ D = L := ⟨_, rfl⟩
  rw [hLe] at hl hL gu gm ⊢
  obtain ⟨a, hal⟩ : ∃ a, A.length = a := ⟨_, rfl⟩
  rw [hal] at hm hb hL gu ⊢
  repeat' (first | refine Awp.seq ?_ | refine Awp.block ?_ | refine Awp.region ?_ | refine Ops.nil (nqA ?_) | refine Awp.skip (nqA ?_) | (refine o_sub rfl rfl rfl rfl ?_ ?_; omega) | (refine o_calm rfl TtOk rfl rfl rfl ?_ (fun _ => ?_); exact nd) | (refine a_condP rfl (fun hc => ?_) (fun hc => ?_)) <;> (try (exfalso; omega)))
  refine Awp.loop (fun q : Nat × Nat => ⟨220, [(14, .i .i64 q.1), (15, .i .i64 q.2), (0, .own 0 v), (1, .i .i64 a), (2, .i .i64 m), (3, .i .i64 b), (4, .fn (.func f) gc)], [(0, .row v 46 65 (L.map Lef.A))]⟩)
    (fun q => a ≤ q.1 ∧ q.1 ≤ q.2 ∧ q.2 ≤ m ∧ (q.1 - a = 0 ∨ ∃ (h : q.1 - a - 1 < U.length), ltCL cmp w U[q.1 - a - 1] = false) ∧ (q.2 - a = U.length ∨ ∃ (h : q.2 - a < U.length), ltCL cmp w U[q.2 - a] = true)) (fun q => q.2 - q.1) [] (a, m) ⟨Nat.le_refl _, by show a ≤ m; omega, Nat.le_refl _, .inl (by show a - a = 0; omega), .inl (by show m - a = U.length; omega)⟩ ?_ ?_
  · exact ⟨rfl, ⟨sle_i rfl, sle_i rfl, sle_own, sle_i rfl, sle_i rfl, sle_i rfl, nqS, True.intro⟩, HLe.cons 0 rfl (HOLe.refl _) .nil⟩
  rintro ⟨i, j⟩ ⟨h1, h2, h3, h4, h5⟩
  dsimp only at h1 h2 h3 h4 h5 ⊢
  by_cases hlt : i < j
  · have hmid := wrapmid i j (by omega)
    have hh1 : i ≤ (i + j) / 2 := by omega
    have hh2 : (i + j) / 2 < j := by omega
    generalize (i + j) / 2 = h at hmid hh1 hh2
    have hv : h - a < U.length := by omega
    have gh := gu (h - a) hv
    rw [show a + (h - a) = h by omega] at gh
    have hcx := hcmp w U[h - a]
    have hltv : ltCL cmp w U[h - a] = decide (cmp w U[h - a] < 0) := rfl
    generalize cmp w U[h - a] = cv at hcx hltv
    repeat' (first | (refine o_loadRow TtOk rfl rfl rfl rfl rfl (by assumption) (getq_map gm) rfl rfl (by first | exact Nat.add_zero _ | rfl) ⟨rfl, rfl⟩ ?_) | (refine o_loadRow TtOk rfl rfl rfl rfl rfl (by assumption) (getq_map gh) rfl rfl (by first | exact Nat.add_zero _ | rfl) ⟨rfl, rfl⟩ ?_) | (refine o_indexOwn TtOk rfl rfl rfl rfl rfl rfl rfl rfl m ?_ ?_ (fun bO hbO => ?_); omega; ((repeat' (first | rw [List.length_map] | rw [List.length_set])) <;> omega)) | (refine o_indexOwn TtOk rfl rfl rfl rfl rfl rfl rfl rfl h ?_ ?_ (fun bO hbO => ?_); omega; ((repeat' (first | rw [List.length_map] | rw [List.length_set])) <;> omega)) | (refine o_calm rfl TtOk rfl rfl rfl ?_ (fun _ => ?_); exact True.intro; rw [hmid]) | refine Awp.seq ?_ | refine Awp.block ?_ | refine Awp.region ?_ | refine Ops.nil (nqA ?_) | refine Ops.nil (nqX ?_) | refine Awp.skip (nqA ?_) | (refine o_add rfl rfl rfl rfl ?_ ?_; omega) | (refine o_calm rfl TtOk rfl rfl rfl ?_ (fun _ => ?_); exact nd) | (refine a_condP rfl (fun hc => ?_) (fun hc => ?_)) <;> (try (exfalso; omega)) | (refine Awp.cond rfl (fun hc => ?_) (fun hc => ?_)) | refine a_any 17 [] [] [] [0, 1, 2, 3, 5, 6, 7, 4, 8, 9, 10, 11] (by kernel_rfl) (by kernel_rfl) (by kernel_rfl) rfl rfl rfl ?_ | (refine o_callClo rfl rfl ho hcx ⟨nqS, nqS, argsLe_self _⟩ rfl rfl ?_; rintro _ _ ⟨rfl, rfl⟩; refine ⟨rfl, ?_⟩))
    · have hcc : (!decide (cv < 0)) = true := by assumption
      rw [← hltv] at hcc
      exact ⟨(h + 1, j), [], ⟨by show a ≤ h + 1; omega, by show h + 1 ≤ j; omega, h3, .inr ⟨by show h + 1 - a - 1 < U.length; omega, by
        have e : h + 1 - a - 1 = h - a := by omega
        have : ltCL cmp w U[h - a] = false := by simpa using hcc
        simpa only [e] using this⟩, h5⟩, by show j - (h + 1) < j - i; omega, rfl, ⟨sle_i rfl, sle_i rfl, sle_own, sle_i rfl, sle_i rfl, sle_i rfl, nqS, True.intro⟩, HLe.cons 0 rfl (HOLe.refl _) .nil⟩
    · have hcc : (!decide (cv < 0)) = false := by assumption
      rw [← hltv] at hcc
      exact ⟨(i, h), [], ⟨h1, by show i ≤ h; omega, by show h ≤ m; omega, h4, .inr ⟨hv, by simpa using hcc⟩⟩, by show h - i < j - i; omega, rfl, ⟨sle_i rfl, sle_i rfl, sle_own, sle_i rfl, sle_i rfl, sle_i rfl, nqS, True.intro⟩, HLe.cons 0 rfl (HOLe.refl _) .nil⟩
  have hij : j = i := by omega
  subst hij
  obtain ⟨m1, m2⟩ := merge_one_r W (x := w) sU (k := j - a) (by omega) h4 h5
  have hres := sortS_of W m1 m2
  obtain ⟨p, hp⟩ : ∃ p, j - a = p := ⟨_, rfl⟩
  rw [hp] at hres
  have hpv : p ≤ U.length := by omega
  have hjp : j = a + p := by omega
  clear gu gm h4 h5 m1 m2
  repeat' (first | refine Awp.seq ?_ | refine Awp.block ?_ | refine Awp.region ?_ | refine Ops.nil (nqA ?_) | refine Awp.exit (nqA ?_) | (refine o_calm rfl TtOk rfl rfl rfl ?_ (fun _ => ?_); exact nd) | (refine a_condP rfl (fun hc => ?_) (fun hc => ?_)) <;> (try (exfalso; omega)))
  refine Awp.loop (fun q : Nat => ⟨220, [(17, .i .i64 ((a + q : Nat) : Int)), (14, .i .i64 j), (0, .own 0 v)], [(0, .row v 46 65 ((A ++ U.take q ++ w :: (U.drop q ++ D)).map Lef.A))]⟩) (fun q => p ≤ q ∧ q ≤ U.length) (fun q => q) [] U.length ⟨hpv, Nat.le_refl _⟩ ?_ ?_
  · refine ⟨rfl, ⟨sle_i (by omega), sle_i rfl, sle_own, True.intro⟩, HLe.cons 0 rfl (HOLe.row ?_) .nil⟩
    rw [← hLe, List.take_length, List.drop_length]; simp only [List.append_assoc, List.cons_append, List.nil_append]
  rintro t0 ⟨ht1, ht2⟩
  by_cases htl : p < t0
  · obtain ⟨t, rfl⟩ : ∃ t, t0 = t + 1 := ⟨t0 - 1, by omega⟩
    have htv : t < U.length := by omega
    have e0 : A ++ U.take (t + 1) ++ w :: (U.drop (t + 1) ++ D) = (A ++ U.take t) ++ U[t] :: ([] ++ w :: (U.drop (t + 1) ++ D)) := by
      rw [List.take_succ_eq_append_getElem htv]; simp only [List.append_assoc, List.cons_append, List.nil_append]
    have e1 : (A ++ U.take t) ++ w :: ([] ++ U[t] :: (U.drop (t + 1) ++ D)) = A ++ U.take t ++ w :: (U.drop t ++ D) := by
      rw [List.drop_eq_getElem_cons htv]; simp only [List.append_assoc, List.cons_append, List.nil_append]
    have e2 := swap_at' (A ++ U.take t) U[t] [] w (U.drop (t + 1) ++ D)
    obtain ⟨e3, e4⟩ := swap_get (A ++ U.take t) U[t] [] w (U.drop (t + 1) ++ D)
    rw [e1] at e2
    rw [← e0] at e2 e3 e4
    have i1e : (A ++ U.take t).length = a + t := by rw [List.length_append, List.length_take]; omega
    have i2e : ((A ++ U.take t) ++ U[t] :: []).length = a + t + 1 := by rw [List.length_append, i1e]; rfl
    have hll : (A ++ U.take (t + 1) ++ w :: (U.drop (t + 1) ++ D)).length = a + U.length + 1 + D.length := by
      simp only [List.length_append, List.length_cons, List.length_take, List.length_drop]; omega
    rw [i1e] at e2 e3
    rw [i2e] at e2 e4
    generalize A ++ U.take (t + 1) ++ w :: (U.drop (t + 1) ++ D) = L2 at e2 e3 e4 hll ⊢
    generalize hL3 : A ++ U.take t ++ w :: (U.drop t ++ D) = L3 at e2
    generalize U[t] = y at e2 e3
    obtain ⟨i1, hi1⟩ : ∃ i1, a + t = i1 := ⟨_, rfl⟩
    obtain ⟨i2, hi2⟩ : ∃ i2, a + t + 1 = i2 := ⟨_, rfl⟩
    rw [hi2] at e2 e4
    rw [hi1] at e2 e3
    have hne : i2 ≠ i1 := by omega
    repeat' (first | (refine o_storeRow TtOk rfl rfl rfl rfl rfl rfl (by assumption) ((List.getElem?_set_ne hne).trans (getq_map e3)) rfl rfl (by first | exact Nat.add_zero _ | rfl) ⟨rfl, rfl⟩ rfl rfl ?_) | (refine o_storeRow TtOk rfl rfl rfl rfl rfl rfl (by assumption) (getq_map e4) rfl rfl (by first | exact Nat.add_zero _ | rfl) ⟨rfl, rfl⟩ rfl rfl ?_) | (refine o_loadRow TtOk rfl rfl rfl rfl rfl (by assumption) (getq_map e4) rfl rfl (by first | exact Nat.add_zero _ | rfl) ⟨rfl, rfl⟩ ?_) | (refine o_loadRow TtOk rfl rfl rfl rfl rfl (by assumption) (getq_map e3) rfl rfl (by first | exact Nat.add_zero _ | rfl) ⟨rfl, rfl⟩ ?_) | (refine o_indexOwn TtOk rfl rfl rfl rfl rfl rfl rfl rfl i2 ?_ ?_ (fun bO hbO => ?_); omega; ((repeat' (first | rw [List.length_map] | rw [List.length_set])) <;> omega)) | (refine o_indexOwn TtOk rfl rfl rfl rfl rfl rfl rfl rfl i1 ?_ ?_ (fun bO hbO => ?_); omega; ((repeat' (first | rw [List.length_map] | rw [List.length_set])) <;> omega)) | refine Awp.seq ?_ | refine Awp.block ?_ | refine Awp.region ?_ | refine Ops.nil (nqA ?_) | refine Ops.nil (nqX ?_) | refine Awp.skip (nqA ?_) | (refine o_sub rfl rfl rfl rfl ?_ ?_; omega) | (refine o_calm rfl TtOk rfl rfl rfl ?_ (fun _ => ?_); exact nd) | (refine a_condP rfl (fun hc => ?_) (fun hc => ?_)) <;> (try (exfalso; omega)) | refine a_any 23 [0] [122, 126] [] [0, 1, 2, 3, 4, 5, 6, 7, 8, 10, 11, 12, 9, 13, 14, 15, 16, 17] (by kernel_rfl) (by kernel_rfl) (by kernel_rfl) rfl rfl rfl ?_)
    refine ⟨t, [], ⟨by omega, by omega⟩, by omega, rfl, ⟨sle_i (by omega), sle_i rfl, sle_own, True.intro⟩, HLe.cons 0 rfl (HOLe.row ?_) .nil⟩
    rw [hL3, ← e2, List.map_set, List.map_set]; rfl
  · have htp : t0 = p := by omega
    subst htp
    have e0 : A ++ U.take t0 ++ w :: (U.drop t0 ++ D) = A ++ sortS (ltCL cmp) (U ++ [w]) ++ D := by
      rw [← hres]; simp only [List.append_assoc, List.cons_append, List.nil_append]
    rw [e0]
    generalize A ++ sortS (ltCL cmp) (U ++ [w]) ++ D = L2
    repeat' (first | refine Awp.seq ?_ | refine Awp.region ?_ | refine Ops.nil (nqA ?_) | refine Awp.exit (nqA ?_) | refine Awp.ret (nqE ?_) | (refine o_calm rfl TtOk rfl rfl rfl ?_ (fun _ => ?_); exact nd) | (refine a_condP rfl (fun hc => ?_) (fun hc => ?_)) <;> (try (exfalso; omega)))
    exact end_none rfl [] [(0, _)] (HLe.cons 0 rfl (HOLe.refl _) .nil) ⟨rfl, rfl⟩ _ (.inl rfl)
end Go.Proofs.YtcmgpkibjdbonaaGreat
set_option maxHeartbeats 16000000
set_option maxRecDepth 100000
namespace Go.Proofs.YtcmgpkibjdbonaaGreat
open Go Go.RowKit
theorem symMerge_specL (v : Value) (f : Nat) (gc : List AV) (ho : gc.all isOne = true) (cmp : Lef → Lef → Int) (hcmp : ∀ x y, Spec Tryz.prog f ([Lef.A x, Lef.A y] ++ gc) [] (fun v os => v = .i .i64 (cmp x y) ∧ os = [])) (W : WO (ltCL cmp)) :
    ∀ (sz : Nat) (A U V D : List Lef), U.length + V.length = sz → 0 < U.length → 0 < V.length → Srt (ltCL cmp) U → Srt (ltCL cmp) V → (A ++ U ++ V ++ D).length ≤ 100000 →
    Spec Tryz.prog 209 [.own 0 v, .i .i64 (A.length : Nat), .i .i64 ((A ++ U).length : Nat), .i .i64 ((A ++ U ++ V).length : Nat), .fn (.func f) gc] [.row v 46 65 ((A ++ U ++ V ++ D).map Lef.A)]
      (fun r os => r = .tup [] ∧ os = [.row v 46 65 ((A ++ sortS (ltCL cmp) (U ++ V) ++ D).map Lef.A)]) := by
  intro sz
  induction sz using Nat.strongRecOn with
  | _ sz ih =>
  intro A U V D hsz hU hV sU sV hl
  by_cases h1 : U.length = 1
  · obtain ⟨u, rfl⟩ := List.length_eq_one_iff.1 h1
    exact sm_one_lL v f gc ho cmp hcmp W A u V D hV sV hl
  by_cases h2 : V.length = 1
  · obtain ⟨w, rfl⟩ := List.length_eq_one_iff.1 h2
    exact sm_one_rL v f gc ho cmp hcmp W A U w D (by omega) sU hl
  refine spec_of TtOk [(0, .row v 46 65 ((A ++ U ++ V ++ D).map Lef.A))] Tryz.func209 rfl Tryz.ntmps209 (by kernel_rfl) rfl rfl (fun C => ?_) rfl
  have hm : (A ++ U).length = A.length + U.length := List.length_append
  have hb : (A ++ U ++ V).length = A.length + U.length + V.length := by simp only [List.length_append]
  have hL : (A ++ U ++ V ++ D).length = A.length + U.length + V.length + D.length := by simp only [List.length_append]
  have gu : ∀ k (h : k < U.length), (A ++ U ++ V ++ D)[A.length + k]? = some U[k] := fun k h => get_U A U V D k h
  have gv : ∀ k (h : k < V.length), (A ++ U ++ V ++ D)[A.length + U.length + k]? = some V[k] := fun k h => get_V A U V D k h
  rw [← hm] at gv
  generalize (A ++ U).length = m at hm gv ⊢
  generalize (A ++ U ++ V).length = b at hb ⊢
  obtain ⟨L, hLe⟩ : ∃ L, A ++ U ++ V ++ D = L := ⟨_, rfl⟩
  rw [hLe] at hl hL gu gv ⊢
  obtain ⟨a, hal⟩ : ∃ a, A.length = a := ⟨_, rfl⟩
  rw [hal] at hm hb hL gu ⊢
  have hmid0 := wrapmid a b (by omega)
  obtain ⟨mid, hmd⟩ : ∃ mid, (a + b) / 2 = mid := ⟨_, rfl⟩
  rw [hmd] at hmid0
  obtain ⟨lo, hlo⟩ : ∃ lo, (if mid < m then mid + m - b else a) = lo := ⟨_, rfl⟩
  obtain ⟨hi, hhi⟩ : ∃ hi, (if mid < m then mid else m) = hi := ⟨_, rfl⟩
  have hmm : 2 * mid ≤ a + b ∧ a + b < 2 * mid + 2 := by omega
  have hg : a ≤ lo ∧ lo ≤ hi ∧ hi ≤ m ∧ hi ≤ mid ∧ mid + m - lo ≤ b ∧ m ≤ mid + m - hi ∧ (lo = a ∨ mid + m - lo = b) ∧ (hi = m ∨ mid + m - hi = m) := by
    rw [← hlo, ← hhi]
    by_cases hc : mid < m
    · rw [if_pos hc, if_pos hc]; omega
    · rw [if_neg hc, if_neg hc]; omega
  obtain ⟨g1, g2, g3, g4, g5, g6, g7, g8⟩ := hg
  by_cases hc : mid < m
  all_goals (first | rw [if_pos hc] at hlo | rw [if_neg hc] at hlo)
  all_goals (first | rw [if_pos hc] at hhi | rw [if_neg hc] at hhi)
  all_goals (first
    | (repeat' (first | (refine o_calm rfl TtOk rfl rfl rfl ?_ (fun _ => ?_); exact True.intro; rw [hmid0]) | refine Awp.seq ?_ | refine Awp.block ?_ | refine Awp.region ?_ | refine Ops.nil (nqA ?_) | refine Awp.skip (nqA ?_) | (refine o_add rfl rfl rfl rfl ?_ ?_; omega) | (refine o_sub rfl rfl rfl rfl ?_ ?_; omega) | (refine o_calm rfl TtOk rfl rfl rfl ?_ (fun _ => ?_); exact nd) | (refine a_condP rfl (fun hc => ?_) (fun hc => ?_)) <;> (try (exfalso; omega)))))
  all_goals refine Awp.weaken [] (S' := ⟨220, [(20, .i .i64 lo), (21, .i .i64 hi), (22, .i .i64 ((mid + m - 1 : Nat) : Int)), (19, .i .i64 ((mid + m : Nat) : Int)), (18, .i .i64 mid), (0, .own 0 v), (1, .i .i64 a), (2, .i .i64 m), (3, .i .i64 b), (4, .fn (.func f) gc)], [(0, .row v 46 65 (L.map Lef.A))]⟩) ⟨rfl, ⟨sle_i (by omega), sle_i (by omega), sle_i (by omega), sle_i (by omega), sle_i rfl, sle_own, sle_i rfl, sle_i rfl, sle_i rfl, nqS, True.intro⟩, HLe.cons 0 rfl (HOLe.refl _) .nil⟩ ?_
  all_goals clear hlo hhi hc
  all_goals (
    refine Awp.loop (fun q : Nat × Nat => ⟨220, [(20, .i .i64 q.1), (21, .i .i64 q.2), (22, .i .i64 ((mid + m - 1 : Nat) : Int)), (19, .i .i64 ((mid + m : Nat) : Int)), (18, .i .i64 mid), (0, .own 0 v), (1, .i .i64 a), (2, .i .i64 m), (3, .i .i64 b), (4, .fn (.func f) gc)], [(0, .row v 46 65 (L.map Lef.A))]⟩)
      (fun q => lo ≤ q.1 ∧ q.1 ≤ q.2 ∧ q.2 ≤ hi ∧ (q.1 = lo ∨ ∃ (h1 : q.1 - a - 1 < U.length) (h2 : mid - q.1 < V.length), ltCL cmp V[mid - q.1] U[q.1 - a - 1] = false) ∧ (q.2 = hi ∨ ∃ (h1 : q.2 - a < U.length) (h2 : mid - q.2 - 1 < V.length), ltCL cmp V[mid - q.2 - 1] U[q.2 - a] = true)) (fun q => q.2 - q.1) [] (lo, hi) ⟨Nat.le_refl _, g2, Nat.le_refl _, .inl rfl, .inl rfl⟩ ?_ ?_
    · exact ⟨rfl, ⟨sle_i rfl, sle_i rfl, sle_i rfl, sle_i rfl, sle_i rfl, sle_own, sle_i rfl, sle_i rfl, sle_i rfl, nqS, True.intro⟩, HLe.cons 0 rfl (HOLe.refl _) .nil⟩
    rintro ⟨i, j⟩ ⟨k1, k2, k3, k4, k5⟩
    dsimp only at k1 k2 k3 k4 k5 ⊢
    by_cases hlt : i < j
    · have hmid := wrapmid i j (by omega)
      have hh1 : i ≤ (i + j) / 2 := by omega
      have hh2 : (i + j) / 2 < j := by omega
      generalize (i + j) / 2 = h at hmid hh1 hh2
      have hu : h - a < U.length := by omega
      have hv : mid - h - 1 < V.length := by omega
      have gh := gu (h - a) hu
      rw [show a + (h - a) = h by omega] at gh
      have gp := gv (mid - h - 1) hv
      obtain ⟨i1, hi1⟩ : ∃ i1, m + (mid - h - 1) = i1 := ⟨_, rfl⟩
      rw [hi1] at gp
      have hcx := hcmp V[mid - h - 1] U[h - a]
      have hltv : ltCL cmp V[mid - h - 1] U[h - a] = decide (cmp V[mid - h - 1] U[h - a] < 0) := rfl
      generalize cmp V[mid - h - 1] U[h - a] = cv at hcx hltv
      repeat' (first | (refine o_loadRow TtOk rfl rfl rfl rfl rfl (by assumption) (getq_map gp) rfl rfl (by first | exact Nat.add_zero _ | rfl) ⟨rfl, rfl⟩ ?_) | (refine o_loadRow TtOk rfl rfl rfl rfl rfl (by assumption) (getq_map gh) rfl rfl (by first | exact Nat.add_zero _ | rfl) ⟨rfl, rfl⟩ ?_) | (refine o_indexOwn TtOk rfl rfl rfl rfl rfl rfl rfl rfl i1 ?_ ?_ (fun bO hbO => ?_); omega; ((repeat' (first | rw [List.length_map] | rw [List.length_set])) <;> omega)) | (refine o_indexOwn TtOk rfl rfl rfl rfl rfl rfl rfl rfl h ?_ ?_ (fun bO hbO => ?_); omega; ((repeat' (first | rw [List.length_map] | rw [List.length_set])) <;> omega)) | (refine o_calm rfl TtOk rfl rfl rfl ?_ (fun _ => ?_); exact True.intro; rw [hmid]) | refine Awp.seq ?_ | refine Awp.block ?_ | refine Awp.region ?_ | refine Ops.nil (nqA ?_) | refine Ops.nil (nqX ?_) | refine Awp.skip (nqA ?_) | (refine o_add rfl rfl rfl rfl ?_ ?_; omega) | (refine o_sub rfl rfl rfl rfl ?_ ?_; omega) | (refine o_calm rfl TtOk rfl rfl rfl ?_ (fun _ => ?_); exact nd) | (refine a_condP rfl (fun hc => ?_) (fun hc => ?_)) <;> (try (exfalso; omega)) | (refine Awp.cond rfl (fun hc => ?_) (fun hc => ?_)) | refine a_any 35 [] [] [] [0, 1, 2, 3, 4, 5, 7, 8, 9, 6, 10, 11, 12, 13] (by kernel_rfl) (by kernel_rfl) (by kernel_rfl) rfl rfl rfl ?_ | (refine o_callClo rfl rfl ho hcx ⟨nqS, nqS, argsLe_self _⟩ rfl rfl ?_; rintro _ _ ⟨rfl, rfl⟩; refine ⟨rfl, ?_⟩))
      · have hcc : (!decide (cv < 0)) = true := by assumption
        rw [← hltv] at hcc
        exact ⟨(h + 1, j), [], ⟨by show lo ≤ h + 1; omega, by show h + 1 ≤ j; omega, k3, .inr ⟨by show h + 1 - a - 1 < U.length; omega, by show mid - (h + 1) < V.length; omega, by
          have e : h + 1 - a - 1 = h - a := by omega
          have e2 : mid - (h + 1) = mid - h - 1 := by omega
          have : ltCL cmp V[mid - h - 1] U[h - a] = false := by simpa using hcc
          simpa only [e, e2] using this⟩, k5⟩, by show j - (h + 1) < j - i; omega, rfl, ⟨sle_i rfl, sle_i rfl, sle_i rfl, sle_i rfl, sle_i rfl, sle_own, sle_i rfl, sle_i rfl, sle_i rfl, nqS, True.intro⟩, HLe.cons 0 rfl (HOLe.refl _) .nil⟩
      · have hcc : (!decide (cv < 0)) = false := by assumption
        rw [← hltv] at hcc
        exact ⟨(i, h), [], ⟨k1, by show i ≤ h; omega, by show h ≤ hi; omega, k4, .inr ⟨hu, hv, by simpa using hcc⟩⟩, by show h - i < j - i; omega, rfl, ⟨sle_i rfl, sle_i rfl, sle_i rfl, sle_i rfl, sle_i rfl, sle_own, sle_i rfl, sle_i rfl, sle_i rfl, nqS, True.intro⟩, HLe.cons 0 rfl (HOLe.refl _) .nil⟩
    have hij : j = i := by omega
    subst hij
    clear gu gv
    obtain ⟨k, hk⟩ : ∃ k, j - a = k := ⟨_, rfl⟩
    obtain ⟨l, hl'⟩ : ∃ l, mid - j = l := ⟨_, rfl⟩
    rw [hk, hl'] at k4 k5
    have hcr := sym_cross W sU sV (k := k) (l := l) (by omega) (by omega)
      (by rcases k4 with h | ⟨h1, h2, h3⟩
          · rcases g7 with h0 | h0
            · exact .inl (by omega)
            · exact .inr (.inl (by omega))
          · exact .inr (.inr ⟨h1, h2, h3⟩))
      (by rcases k5 with h | ⟨h1, h2, h3⟩
          · rcases g8 with h0 | h0
            · exact .inl (by omega)
            · exact .inr (.inl (by omega))
          · exact .inr (.inr ⟨h1, h2, h3⟩))
    obtain ⟨cr1, cr2⟩ := hcr
    have eU : U.take k ++ U.drop k = U := List.take_append_drop _ _
    have eV : V.take l ++ V.drop l = V := List.take_append_drop _ _
    have lU1 : (U.take k).length = k := by rw [List.length_take]; omega
    have lV1 : (V.take l).length = l := by rw [List.length_take]; omega
    have lU2 : (U.drop k).length = U.length - k := List.length_drop
    have lV2 : (V.drop l).length = V.length - l := List.length_drop
    have s1 := sU.take k
    have s2 := sU.drop k
    have s3 := sV.take l
    have s4 := sV.drop l
    generalize U.take k = U1 at *
    generalize U.drop k = U2 at *
    generalize V.take l = V1 at *
    generalize V.drop l = V2 at *
    have hmg := merge_halves W (u1 := U1) (u2 := U2) (v1 := V1) (v2 := V2) (by rw [eU]; exact sU) (by rw [eV]; exact sV) cr1 cr2 (sortS_srt W (U1 ++ V1)) (sortS_ce W (U1 ++ V1)) (sortS_srt W (U2 ++ V2)) (sortS_ce W (U2 ++ V2))
    rw [eU, eV] at hmg
    have hfin := sortS_of W hmg.1 hmg.2
    have lw1 : (sortS (ltCL cmp) (U1 ++ V1)).length = U1.length + V1.length := by rw [sortS_len W, List.length_append]
    have hR : (0 < U2.length → 0 < V1.length → Spec Tryz.prog 219 [.own 0 v, .i .i64 (j : Nat), .i .i64 (m : Nat), .i .i64 ((m + l : Nat) : Int), .fn (.func f) gc] [.row v 46 65 (L.map Lef.A)] (fun r os => r = .tup [] ∧ os = [.row v 46 65 ((A ++ U1 ++ V1 ++ (U2 ++ V2 ++ D)).map Lef.A)])) ∧ (U2.length = 0 ∨ V1.length = 0 → L = A ++ U1 ++ V1 ++ (U2 ++ V2 ++ D)) := by
      have e : (A ++ U1) ++ U2 ++ V1 ++ (V2 ++ D) = L := by rw [← hLe, ← eU, ← eV]; simp only [List.append_assoc]
      refine ⟨fun q1 q2 => ?_, fun q => ?_⟩
      · have h := rotate_specL v (.func f) gc (A ++ U1) U2 V1 (V2 ++ D) q1 q2 (by rw [e]; exact hl)
        rw [e] at h
        have e1 : (A ++ U1).length = j := by rw [List.length_append]; omega
        have e2 : ((A ++ U1) ++ U2).length = m := by rw [List.length_append, e1]; omega
        have e3 : ((A ++ U1) ++ U2 ++ V1).length = m + l := by rw [List.length_append, e2]; omega
        have e4 : (A ++ U1) ++ V1 ++ U2 ++ (V2 ++ D) = A ++ U1 ++ V1 ++ (U2 ++ V2 ++ D) := by simp only [List.append_assoc]
        rw [e1, e2, e3, e4] at h
        exact h
      · rw [← e]
        rcases q with q | q
        · rw [List.length_eq_zero_iff.1 q]; simp only [List.append_assoc, List.nil_append]
        · rw [List.length_eq_zero_iff.1 q]; simp only [List.append_assoc, List.nil_append]
    have hl2 : (A ++ U1 ++ V1 ++ (U2 ++ V2 ++ D)).length ≤ 100000 := by simp only [List.length_append]; omega
    have hI1 : (0 < U1.length → 0 < V1.length → Spec Tryz.prog 209 [.own 0 v, .i .i64 (a : Nat), .i .i64 (j : Nat), .i .i64 (mid : Nat), .fn (.func f) gc] [.row v 46 65 ((A ++ U1 ++ V1 ++ (U2 ++ V2 ++ D)).map Lef.A)] (fun r os => r = .tup [] ∧ os = [.row v 46 65 ((A ++ sortS (ltCL cmp) (U1 ++ V1) ++ (U2 ++ V2 ++ D)).map Lef.A)])) ∧ (U1.length = 0 ∨ V1.length = 0 → A ++ U1 ++ V1 ++ (U2 ++ V2 ++ D) = A ++ sortS (ltCL cmp) (U1 ++ V1) ++ (U2 ++ V2 ++ D)) := by
      refine ⟨fun q1 q2 => ?_, fun q => ?_⟩
      · have h := ih (U1.length + V1.length) (by omega) A U1 V1 (U2 ++ V2 ++ D) rfl q1 q2 s1 s3 hl2
        have e1 : (A ++ U1).length = j := by rw [List.length_append]; omega
        have e2 : (A ++ U1 ++ V1).length = mid := by rw [List.length_append, e1]; omega
        rw [e1, e2, hal] at h
        exact h
      · have : Srt (ltCL cmp) (U1 ++ V1) := by
          rcases q with q | q
          · rw [List.length_eq_zero_iff.1 q]; exact s3
          · rw [List.length_eq_zero_iff.1 q, List.append_nil]; exact s1
        rw [sortS_id W this]; simp only [List.append_assoc]
    have hI2 : (0 < U2.length → 0 < V2.length → Spec Tryz.prog 209 [.own 0 v, .i .i64 (mid : Nat), .i .i64 ((m + l : Nat) : Int), .i .i64 (b : Nat), .fn (.func f) gc] [.row v 46 65 ((A ++ sortS (ltCL cmp) (U1 ++ V1) ++ (U2 ++ V2 ++ D)).map Lef.A)] (fun r os => r = .tup [] ∧ os = [.row v 46 65 ((A ++ sortS (ltCL cmp) (U ++ V) ++ D).map Lef.A)])) ∧ (U2.length = 0 ∨ V2.length = 0 → A ++ sortS (ltCL cmp) (U1 ++ V1) ++ (U2 ++ V2 ++ D) = A ++ sortS (ltCL cmp) (U ++ V) ++ D) := by
      have Lef.A' : (A ++ sortS (ltCL cmp) (U1 ++ V1)) ++ sortS (ltCL cmp) (U2 ++ V2) ++ D = A ++ sortS (ltCL cmp) (U ++ V) ++ D := by rw [← hfin]; simp only [List.append_assoc]
      have e0 : (A ++ sortS (ltCL cmp) (U1 ++ V1)) ++ U2 ++ V2 ++ D = A ++ sortS (ltCL cmp) (U1 ++ V1) ++ (U2 ++ V2 ++ D) := by simp only [List.append_assoc]
      refine ⟨fun q1 q2 => ?_, fun q => ?_⟩
      · have h := ih (U2.length + V2.length) (by omega) (A ++ sortS (ltCL cmp) (U1 ++ V1)) U2 V2 D rfl q1 q2 s2 s4 (by rw [e0]; simp only [List.length_append] at hl2 ⊢; omega)
        have e1 : (A ++ sortS (ltCL cmp) (U1 ++ V1)).length = mid := by rw [List.length_append, lw1]; omega
        have e2 : ((A ++ sortS (ltCL cmp) (U1 ++ V1)) ++ U2).length = m + l := by rw [List.length_append, e1]; omega
        have e3 : ((A ++ sortS (ltCL cmp) (U1 ++ V1)) ++ U2 ++ V2).length = b := by rw [List.length_append, e2]; omega
        rw [e3, e2, e1, Lef.A', e0] at h
        exact h
      · have : Srt (ltCL cmp) (U2 ++ V2) := by
          rcases q with q | q
          · rw [List.length_eq_zero_iff.1 q]; exact s4
          · rw [List.length_eq_zero_iff.1 q, List.append_nil]; exact s2
        rw [← Lef.A', sortS_id W this]; simp only [List.append_assoc]
    clear hmg hfin cr1 cr2 k4 k5
    generalize A ++ sortS (ltCL cmp) (U ++ V) ++ D = L4 at hI2 ⊢
    generalize A ++ sortS (ltCL cmp) (U1 ++ V1) ++ (U2 ++ V2 ++ D) = L3 at hI1 hI2
    generalize A ++ U1 ++ V1 ++ (U2 ++ V2 ++ D) = L2 at hR hI1
    by_cases cR : 0 < U2.length ∧ 0 < V1.length
    all_goals by_cases c1 : 0 < U1.length ∧ 0 < V1.length
    all_goals by_cases c2 : 0 < U2.length ∧ 0 < V2.length
    all_goals (first | have hrot := hR.1 cR.1 cR.2 | (obtain rfl := hR.2 (by omega)))
    all_goals (first | have hs1 := hI1.1 c1.1 c1.2 | (obtain rfl := hI1.2 (by omega)))
    all_goals (first | have hs2 := hI2.1 c2.1 c2.2 | (obtain rfl := hI2.2 (by omega)))
    all_goals clear hR hI1 hI2 hcmp ih
    all_goals (first
      | (repeat' (first | refine Awp.seq ?_ | refine Awp.region ?_ | refine Ops.nil (nqA ?_) | refine Ops.nil (nqE ?_) | refine Awp.skip (nqA ?_) | refine Awp.skip (nqE ?_) | refine Awp.exit (nqA ?_) | refine o_offT rfl rfl rfl (by first | exact .inl rfl | exact .inr rfl) ?_ | (refine o_sub rfl rfl rfl rfl ?_ ?_; omega) | (refine o_calm rfl TtOk rfl rfl rfl ?_ (fun _ => ?_); exact nd) | (fail_if_success (refine o_isLit rfl (by first | exact .inl rfl | exact .inr rfl) ?_)); (refine o_splitP rfl rfl (fun hc => ?_) (fun hc => ?_) <;> try (exfalso; omega)) | refine a_condF rfl ?_ | (refine a_condP rfl (fun hc => ?_) (fun hc => ?_)) <;> (try (exfalso; omega)) | (refine o_call [] [0] [0] rfl hrot ⟨sle_own, sle_i (by omega), sle_i (by omega), sle_i (by omega), nqS, True.intro⟩ rfl ⟨HOLe.refl _, True.intro⟩ rfl rfl ?_; rintro _ _ ⟨rfl, rfl⟩; refine ⟨_, rfl, rfl, ?_⟩) | (refine o_call [] [0] [0] rfl hs1 ⟨sle_own, sle_i (by omega), sle_i (by omega), sle_i (by omega), nqS, True.intro⟩ rfl ⟨HOLe.refl _, True.intro⟩ rfl rfl ?_; rintro _ _ ⟨rfl, rfl⟩; refine ⟨_, rfl, rfl, ?_⟩) | (refine o_call [] [0] [0] rfl hs2 ⟨sle_own, sle_i (by omega), sle_i (by omega), sle_i (by omega), nqS, True.intro⟩ rfl ⟨HOLe.refl _, True.intro⟩ rfl rfl ?_; rintro _ _ ⟨rfl, rfl⟩; refine ⟨_, rfl, rfl, ?_⟩))))
    all_goals exact end_none rfl [] [(0, _)] (HLe.cons 0 rfl (HOLe.refl _) .nil) ⟨rfl, rfl⟩ _ (by first | exact .inl rfl | exact .inr rfl))
end Go.Proofs.YtcmgpkibjdbonaaGreat
