/- The order of the leaves doesn't matter to the sorted items. No program in sight. -/
import Derived.Test.YtcmgpkibjdbonaaGreatG10Z
import Derived.Test.YtcmgpkibjdbonaaGreatR3Z
import Derived.Test.YtcmgpkibjdbonaaGreatSO1Z
import Derived.Test.YtcmgpkibjdbonaaGreatG6Z
import Derived.Test.YtcmgpkibjdbonaaGreatV17Z
set_option maxHeartbeats 4000000
namespace Go.Proofs.YtcmgpkibjdbonaaGreat
open Go Go.RowKit
end Go.Proofs.YtcmgpkibjdbonaaGreat
set_option maxHeartbeats 4000000
namespace Go.Proofs.YtcmgpkibjdbonaaGreat
open Go Go.RowKit
def lo (d : Nat) (l : List Itm) : List Itm := l.filter (fun x => bitL x.l d == 0)
def hi (d : Nat) (l : List Itm) : List Itm := l.filter (fun x => !(bitL x.l d == 0))
def trJ : Nat → Nat → List Itm → Itm
  | 0, _, l => if l.length ≤ 1 then l.headD default else default
  | f + 1, d, l => if l.length ≤ 1 then l.headD default else if lo d l = [] then trJ f (d + 1) l else if hi d l = [] then trJ f (d + 1) l else innI (trJ f (d + 1) (lo d l)) (trJ f (d + 1) (hi d l))
theorem joinF_fuel : ∀ (k k' : Nat) (l : List Itm), l ≠ [] → l.length ≤ k → l.length ≤ k' → RiseI l → (∀ x ∈ l, x.ok) → joinF k l = joinF k' l
  | 0, _, l, hn, hk, _, _, _ => absurd (List.length_eq_zero_iff.1 (by omega)) hn
  | _ + 1, 0, l, hn, _, hk, _, _ => absurd (List.length_eq_zero_iff.1 (by omega)) hn
  | k + 1, k' + 1, l, hn, h1, h2, hr, hok => by
    unfold joinF
    by_cases hl : l.length = 1
    · rw [if_pos hl, if_pos hl]
    rw [if_neg hl, if_neg hl]
    have hp : 0 < l.length := List.length_pos_iff.2 hn
    obtain ⟨_, s1, s2, _⟩ := spl_ok hr hok (by omega)
    rw [joinF_fuel k k' _ (take_ne s1 s2) (by rw [List.length_take]; omega) (by rw [List.length_take]; omega) (hr.sublist (List.take_sublist ..)) (fun x hx => hok x (List.mem_of_mem_take hx)),
      joinF_fuel k k' _ (drop_ne s2) (by rw [List.length_drop]; omega) (by rw [List.length_drop]; omega) (hr.sublist (List.drop_sublist ..)) (fun x hx => hok x (List.mem_of_mem_drop hx))]
theorem frk_ge {l : List Itm} (hok : ∀ x ∈ l, x.ok) (h0 : 0 < l.length) {d : Nat} (hd : d ≤ 256) (h : ∀ x ∈ l, ∀ i, i < d → bitL x.l i = bitL l[0].l i) : d ≤ frkI l := by
  rw [frk_eq h0]
  have hm := List.getElem_mem (show l.length - 1 < l.length by omega)
  exact (com_ge (hok _ (List.getElem_mem h0)).1 (hok _ hm).1 hd).2 (fun i hi => (h _ hm i hi).symm)
theorem all_lo {l : List Itm} {d : Nat} (h : ∀ x ∈ l, bitL x.l d = 0) : lo d l = l ∧ hi d l = [] :=
  ⟨List.filter_eq_self.2 (fun x hx => by rw [h x hx]; rfl), List.filter_eq_nil_iff.2 (fun x hx => by rw [h x hx]; decide)⟩
theorem all_hi {l : List Itm} {d : Nat} (h : ∀ x ∈ l, bitL x.l d = 1) : hi d l = l ∧ lo d l = [] :=
  ⟨List.filter_eq_self.2 (fun x hx => by rw [h x hx]; rfl), List.filter_eq_nil_iff.2 (fun x hx => by rw [h x hx]; decide)⟩
theorem trJ_join : ∀ (f d : Nat) (l : List Itm) (h0 : 0 < l.length), d + f = 256 → RiseI l → (∀ x ∈ l, x.ok) → (∀ x ∈ l, ∀ i, i < d → bitL x.l i = bitL l[0].l i) → trJ f d l = joinF l.length l
  | 0, d, l, h0, hd, hr, hok, hb => by
    have hf := frk_ge hok h0 (d := d) (by omega) hb
    have h1 : l.length ≤ 1 := by
      rcases Nat.lt_or_ge 1 l.length with h | h
      · have := (spl_ok hr hok (by omega)).1; omega
      · exact h
    obtain ⟨k, hk⟩ : ∃ k, l.length = k + 1 := ⟨l.length - 1, by omega⟩
    unfold trJ
    rw [if_pos h1, hk]
    unfold joinF
    rw [if_pos (by omega)]
  | f + 1, d, l, h0, hd, hr, hok, hb => by
    obtain ⟨k, hk⟩ : ∃ k, l.length = k + 1 := ⟨l.length - 1, by omega⟩
    by_cases h1 : l.length ≤ 1
    · unfold trJ
      rw [if_pos h1, hk]
      unfold joinF
      rw [if_pos (by omega)]
    have hf := frk_ge hok h0 (d := d) (by omega) hb
    rcases Nat.eq_or_lt_of_le hf with he | hlt
    · obtain ⟨f1, f2⟩ := filt_lo hr hok (by omega)
      obtain ⟨c1, c2, c3, _⟩ := spl_ok hr hok (by omega)
      have hA : lo d l = l.take (splI l) := by unfold lo; rw [he]; exact f1
      have hB : hi d l = l.drop (splI l) := by unfold hi; rw [he]; exact f2
      have k1 : ∀ x ∈ l.take (splI l), x.ok := fun x hx => hok x (List.mem_of_mem_take hx)
      have k2 : ∀ x ∈ l.drop (splI l), x.ok := fun x hx => hok x (List.mem_of_mem_drop hx)
      have r1 : RiseI (l.take (splI l)) := hr.sublist (List.take_sublist ..)
      have r2 : RiseI (l.drop (splI l)) := hr.sublist (List.drop_sublist ..)
      have n1 := take_ne c2 c3
      have n2 := drop_ne c3
      have p1 : 0 < (l.take (splI l)).length := List.length_pos_iff.2 n1
      have p2 : 0 < (l.drop (splI l)).length := List.length_pos_iff.2 n2
      have bA : ∀ x ∈ l.take (splI l), bitL x.l d = 0 := fun x hx => by
        rw [← hA] at hx
        exact beq_iff_eq.1 (List.mem_filter.1 hx).2
      have bB : ∀ x ∈ l.drop (splI l), bitL x.l d = 1 := fun x hx => by
        rw [← hB] at hx
        have h2 := (List.mem_filter.1 hx).2
        rcases bitL_or x.l d with h3 | h3
        · rw [h3] at h2; exact absurd h2 (by decide)
        · exact h3
      have hbA : ∀ x ∈ l.take (splI l), ∀ i, i < d + 1 → bitL x.l i = bitL (l.take (splI l))[0].l i := fun x hx i hi => by
        rcases Nat.lt_or_ge i d with h3 | h3
        · rw [hb x (List.mem_of_mem_take hx) i h3, hb _ (List.mem_of_mem_take (List.getElem_mem p1)) i h3]
        · have : i = d := by omega
          subst this
          rw [bA x hx, bA _ (List.getElem_mem p1)]
      have hbB : ∀ x ∈ l.drop (splI l), ∀ i, i < d + 1 → bitL x.l i = bitL (l.drop (splI l))[0].l i := fun x hx i hi => by
        rcases Nat.lt_or_ge i d with h3 | h3
        · rw [hb x (List.mem_of_mem_drop hx) i h3, hb _ (List.mem_of_mem_drop (List.getElem_mem p2)) i h3]
        · have : i = d := by omega
          subst this
          rw [bB x hx, bB _ (List.getElem_mem p2)]
      unfold trJ
      rw [if_neg h1, hA, hB, if_neg n1, if_neg n2, trJ_join f (d + 1) _ p1 (by omega) r1 k1 hbA, trJ_join f (d + 1) _ p2 (by omega) r2 k2 hbB]
      have hj : joinF l.length l = innI (joinF k (l.take (splI l))) (joinF k (l.drop (splI l))) := by
        rw [hk]
        show (if l.length = 1 then _ else _) = _
        rw [if_neg (by omega)]
      rw [hj, joinF_fuel k _ _ n1 (by rw [List.length_take]; omega) (Nat.le_refl _) r1 k1, joinF_fuel k _ _ n2 (by rw [List.length_drop]; omega) (Nat.le_refl _) r2 k2]
    · have hsame : ∀ x ∈ l, bitL x.l d = bitL l[0].l d := fun x hx => by
        obtain ⟨j, hj, rfl⟩ := List.getElem_of_mem hx
        exact rise_bits hr hok h0 j hj d hlt
      have hb2 : ∀ x ∈ l, ∀ i, i < d + 1 → bitL x.l i = bitL l[0].l i := fun x hx i hi => by
        rcases Nat.lt_or_ge i d with h3 | h3
        · exact hb x hx i h3
        · have : i = d := by omega
          subst this; exact hsame x hx
      have ih := trJ_join f (d + 1) l h0 (by omega) hr hok hb2
      have hne : l ≠ [] := List.length_pos_iff.1 h0
      unfold trJ
      rw [if_neg h1]
      rcases bitL_or l[0].l d with h3 | h3
      · obtain ⟨e1, e2⟩ := all_lo (d := d) (fun x hx => by rw [hsame x hx, h3])
        rw [e1, if_neg hne, if_pos e2]; exact ih
      · obtain ⟨e1, e2⟩ := all_hi (d := d) (fun x hx => by rw [hsame x hx, h3])
        rw [if_pos e2]; exact ih
end Go.Proofs.YtcmgpkibjdbonaaGreat
set_option maxHeartbeats 16000000
set_option maxRecDepth 100000
namespace Go.Proofs.YtcmgpkibjdbonaaGreat
open Go Go.RowKit
def openF : Nat → List (List UInt8) → List Lef → List Itm × List Lef
  | 0, _, _ => ([], [])
  | k + 1, ls, l => if l = [] then ([], []) else if ls.any (hasP (joinF l.length (l.map leafI)).p) = false then ([joinF l.length (l.map leafI)], []) else if l.length = 1 then ([], l)
    else ((openF k ls (l.take (splI (l.map leafI)))).1 ++ (openF k ls (l.drop (splI (l.map leafI)))).1, (openF k ls (l.take (splI (l.map leafI)))).2 ++ (openF k ls (l.drop (splI (l.map leafI)))).2)
def cvA (ls : List (List UInt8)) (b1 b2 b3 : Nat) : List AV := [.cp (.sl 32 (ls.map labA)), .ptr 0 b1 [] 0, .ptr 2 b2 [] 0, .ptr 4 b3 [] 0]
def Tf : List (Nat × TI) := [(214, ⟨.func, 1, 8, .nilf⟩)]
end Go.Proofs.YtcmgpkibjdbonaaGreat
set_option maxHeartbeats 16000000
set_option maxRecDepth 100000
namespace Go.Proofs.YtcmgpkibjdbonaaGreat
open Go Go.RowKit
theorem swapRange_specL (v : Value) (gf : Fn) (gc : List AV) (A X B Y D : List Lef) (hX : X.length = Y.length) (hl : (A ++ X ++ B ++ Y ++ D).length ≤ 100000) :
    Spec Tryz.prog 222 [.own 0 v, .i .i64 (A.length : Nat), .i .i64 ((A ++ X ++ B).length : Nat), .i .i64 (X.length : Nat), .fn gf gc] [.row v 46 65 ((A ++ X ++ B ++ Y ++ D).map Lef.A)]
      (fun r os => r = .tup [] ∧ os = [.row v 46 65 ((A ++ Y ++ B ++ X ++ D).map Lef.A)]) := by
  refine spec_of TtOk [(0, .row v 46 65 ((A ++ X ++ B ++ Y ++ D).map Lef.A))] Tryz.func222 rfl Tryz.ntmps222 (by kernel_rfl) rfl rfl (fun C => ?_) rfl
  repeat' (first | refine Awp.seq ?_ | refine Awp.block ?_ | refine Awp.region ?_ | refine Ops.nil (nqA ?_) | (refine o_calm rfl TtOk rfl rfl rfl ?_ (fun _ => ?_); exact nd))
  refine Awp.loop (fun q : Nat => ⟨38, [(10, .i .i64 q), (0, .own 0 v), (1, .i .i64 (A.length : Nat)), (2, .i .i64 ((A ++ X ++ B).length : Nat)), (3, .i .i64 (X.length : Nat)), (4, .fn gf gc)], [(0, .row v 46 65 ((A ++ Y.take q ++ X.drop q ++ B ++ X.take q ++ Y.drop q ++ D).map Lef.A))]⟩) (fun q => q ≤ X.length) (fun q => X.length - q) [] 0 (Nat.zero_le _) ?_ ?_
  · refine ⟨rfl, ⟨sle_i rfl, sle_own, sle_i rfl, sle_i rfl, sle_i rfl, nqS, True.intro⟩, HLe.cons 0 rfl (HOLe.row ?_) .nil⟩
    simp
  intro k hk
  by_cases hlt : k < X.length
  · have hky : k < Y.length := by omega
    have e0 : A ++ Y.take k ++ X.drop k ++ B ++ X.take k ++ Y.drop k ++ D = (A ++ Y.take k) ++ X[k] :: ((X.drop (k + 1) ++ B ++ X.take k) ++ Y[k] :: (Y.drop (k + 1) ++ D)) := by
      rw [List.drop_eq_getElem_cons hlt, List.drop_eq_getElem_cons hky]; simp only [List.append_assoc, List.cons_append]
    have e1 : A ++ Y.take (k + 1) ++ X.drop (k + 1) ++ B ++ X.take (k + 1) ++ Y.drop (k + 1) ++ D = (A ++ Y.take k) ++ Y[k] :: ((X.drop (k + 1) ++ B ++ X.take k) ++ X[k] :: (Y.drop (k + 1) ++ D)) := by
      rw [List.take_succ_eq_append_getElem hlt, List.take_succ_eq_append_getElem hky]; simp only [List.append_assoc, List.cons_append, List.nil_append]
    have e2 := swap_at (A ++ Y.take k) X[k] (X.drop (k + 1) ++ B ++ X.take k) Y[k] (Y.drop (k + 1) ++ D)
    obtain ⟨e3, e4⟩ := swap_get (A ++ Y.take k) X[k] (X.drop (k + 1) ++ B ++ X.take k) Y[k] (Y.drop (k + 1) ++ D)
    rw [← e0] at e2 e3 e4
    rw [← e1] at e2
    generalize hL' : A ++ Y.take (k + 1) ++ X.drop (k + 1) ++ B ++ X.take (k + 1) ++ Y.drop (k + 1) ++ D = L' at e2
    have hll : (A ++ Y.take k ++ X.drop k ++ B ++ X.take k ++ Y.drop k ++ D).length = A.length + X.length + B.length + Y.length + D.length := by
      simp only [List.length_append, List.length_take, List.length_drop]; omega
    have h1 : (A ++ Y.take k).length = A.length + k := by simp only [List.length_append, List.length_take]; omega
    have h2 : ((A ++ Y.take k) ++ X[k] :: (X.drop (k + 1) ++ B ++ X.take k)).length = A.length + X.length + B.length + k := by simp only [List.length_append, List.length_take, List.length_drop, List.length_cons]; omega
    have h3 : (A ++ X ++ B).length = A.length + X.length + B.length := by simp only [List.length_append]
    have h4 : (A ++ X ++ B ++ Y ++ D).length = A.length + X.length + B.length + Y.length + D.length := by simp only [List.length_append]
    generalize A ++ Y.take k ++ X.drop k ++ B ++ X.take k ++ Y.drop k ++ D = L at e2 e3 e4 hll ⊢
    generalize X[k] = x at e2 e3 e4 h2
    generalize Y[k] = y at e2 e3 e4
    generalize (A ++ Y.take k).length = i1 at e2 e3 h1
    generalize ((A ++ Y.take k) ++ x :: (X.drop (k + 1) ++ B ++ X.take k)).length = i2 at e2 e4 h2
    generalize (A ++ X ++ B).length = bb at h3 ⊢
    have hne : i1 ≠ i2 := by omega
    repeat' (first | (refine o_storeRow TtOk rfl rfl rfl rfl rfl rfl (by assumption) ((List.getElem?_set_ne hne).trans (getq_map e4)) rfl rfl (by first | exact Nat.add_zero _ | rfl) ⟨rfl, rfl⟩ rfl rfl ?_) | (refine o_storeRow TtOk rfl rfl rfl rfl rfl rfl (by assumption) (getq_map e3) rfl rfl (by first | exact Nat.add_zero _ | rfl) ⟨rfl, rfl⟩ rfl rfl ?_) | (refine o_loadRow TtOk rfl rfl rfl rfl rfl (by assumption) (getq_map e4) rfl rfl (by first | exact Nat.add_zero _ | rfl) ⟨rfl, rfl⟩ ?_) | (refine o_loadRow TtOk rfl rfl rfl rfl rfl (by assumption) (getq_map e3) rfl rfl (by first | exact Nat.add_zero _ | rfl) ⟨rfl, rfl⟩ ?_) | (refine o_indexOwn TtOk rfl rfl rfl rfl rfl rfl rfl rfl i2 ?_ ?_ (fun bO hbO => ?_); omega; ((repeat' (first | rw [List.length_map] | rw [List.length_set])) <;> omega)) | (refine o_indexOwn TtOk rfl rfl rfl rfl rfl rfl rfl rfl i1 ?_ ?_ (fun bO hbO => ?_); omega; ((repeat' (first | rw [List.length_map] | rw [List.length_set])) <;> omega)) | refine Awp.seq ?_ | refine Awp.block ?_ | refine Awp.region ?_ | refine Ops.nil (nqA ?_) | refine Ops.nil (nqX ?_) | refine Awp.skip (nqA ?_) | (refine o_add rfl rfl rfl rfl ?_ ?_; omega) | (refine o_calm rfl TtOk rfl rfl rfl ?_ (fun _ => ?_); exact nd) | (refine a_condP rfl (fun hc => ?_) (fun hc => ?_)) <;> (try (exfalso; omega)) | refine a_any 3 [0] [29, 35] [] [0, 1, 2, 3, 4, 5, 6, 7, 8, 9, 10, 11, 12, 14, 15, 16, 17, 18, 13, 19, 20, 21, 22, 23] (by kernel_rfl) (by kernel_rfl) (by kernel_rfl) rfl rfl rfl ?_)
    refine ⟨k + 1, [], hlt, by show X.length - (k + 1) < X.length - k; omega, rfl, ⟨sle_i rfl, sle_own, sle_i rfl, sle_i rfl, sle_i rfl, nqS, True.intro⟩, HLe.cons 0 rfl (HOLe.row ?_) .nil⟩
    rw [hL', ← e2, List.map_set, List.map_set]; rfl
  · have hkx : k = X.length := by omega
    have e0 : A ++ Y.take k ++ X.drop k ++ B ++ X.take k ++ Y.drop k ++ D = A ++ Y ++ B ++ X ++ D := by
      rw [hkx, List.drop_length, List.take_length, hX, List.drop_length, List.take_length]; simp only [List.append_assoc, List.nil_append]
    rw [e0]
    generalize A ++ Y ++ B ++ X ++ D = L
    generalize (A ++ X ++ B).length = bb
    repeat' (first | refine Awp.seq ?_ | refine Awp.region ?_ | refine Ops.nil (nqA ?_) | refine Awp.exit (nqE ?_) | (refine o_calm rfl TtOk rfl rfl rfl ?_ (fun _ => ?_); exact nd) | (refine a_condP rfl (fun hc => ?_) (fun hc => ?_)) <;> (try (exfalso; omega)))
    exact end_none rfl [] [(0, _)] (HLe.cons 0 rfl (HOLe.refl _) .nil) ⟨rfl, rfl⟩ _ (.inr rfl)
theorem rotate_specL (v : Value) (gf : Fn) (gc : List AV) (A U V D : List Lef) (hU : 0 < U.length) (hV : 0 < V.length) (hl : (A ++ U ++ V ++ D).length ≤ 100000) :
    Spec Tryz.prog 219 [.own 0 v, .i .i64 (A.length : Nat), .i .i64 ((A ++ U).length : Nat), .i .i64 ((A ++ U ++ V).length : Nat), .fn gf gc] [.row v 46 65 ((A ++ U ++ V ++ D).map Lef.A)]
      (fun r os => r = .tup [] ∧ os = [.row v 46 65 ((A ++ V ++ U ++ D).map Lef.A)]) := by
  refine spec_of TtOk [(0, .row v 46 65 ((A ++ U ++ V ++ D).map Lef.A))] Tryz.func219 rfl Tryz.ntmps219 (by kernel_rfl) rfl rfl (fun C => ?_) rfl
  have h1 : (A ++ U).length = A.length + U.length := List.length_append
  have h2 : (A ++ U ++ V).length = A.length + U.length + V.length := by simp only [List.length_append]
  have h0 : (A ++ U ++ V ++ D).length = A.length + U.length + V.length + D.length := by simp only [List.length_append]
  obtain ⟨T, hT⟩ : ∃ T, A ++ V ++ U ++ D = T := ⟨_, rfl⟩
  rw [hT]
  generalize hmm : (A ++ U).length = m at h1 ⊢
  generalize (A ++ U ++ V).length = bb at h2 ⊢
  repeat' (first | refine Awp.seq ?_ | refine Awp.block ?_ | refine Awp.region ?_ | refine Ops.nil (nqA ?_) | (refine o_sub rfl rfl rfl rfl ?_ ?_; omega) | (refine o_calm rfl TtOk rfl rfl rfl ?_ (fun _ => ?_); exact nd))
  refine Awp.loop (fun q : List Lef × List Lef × List Lef × List Lef => ⟨58, [(10, .i .i64 (q.2.1.length : Nat)), (11, .i .i64 (q.2.2.1.length : Nat)), (0, .own 0 v), (2, .i .i64 m), (4, .fn gf gc)], [(0, .row v 46 65 ((q.1 ++ q.2.1 ++ q.2.2.1 ++ q.2.2.2).map Lef.A))]⟩)
    (fun q => 0 < q.2.1.length ∧ 0 < q.2.2.1.length ∧ q.1.length + q.2.1.length = m ∧ q.1 ++ q.2.2.1 ++ q.2.1 ++ q.2.2.2 = T ∧ (q.1 ++ q.2.1 ++ q.2.2.1 ++ q.2.2.2).length ≤ 100000) (fun q => q.2.1.length + q.2.2.1.length) [] (A, U, V, D) ⟨hU, hV, h1.symm, hT, hl⟩ ?_ ?_
  · exact ⟨rfl, ⟨sle_i (by show _ = ((U.length : Nat) : Int); omega), sle_i (by show _ = ((V.length : Nat) : Int); omega), sle_own, sle_i rfl, nqS, True.intro⟩, HLe.cons 0 rfl (HOLe.refl _) .nil⟩
  rintro ⟨P, X, Y, S⟩ ⟨hx, hy, hm, hg, hl3⟩
  dsimp only at hx hy hm hg hl3 ⊢
  have h4 : (P ++ X ++ Y ++ S).length = P.length + X.length + Y.length + S.length := by simp only [List.length_append]
  by_cases hgt : Y.length < X.length
  · have e1 : X.take Y.length ++ X.drop Y.length = X := List.take_append_drop _ _
    have hx1 : (X.take Y.length).length = Y.length := by rw [List.length_take]; omega
    have hx2 : (X.drop Y.length).length = X.length - Y.length := List.length_drop
    generalize X.take Y.length = X1 at e1 hx1
    generalize X.drop Y.length = X2 at e1 hx2
    subst e1
    have hxl : (X1 ++ X2).length = X1.length + X2.length := List.length_append
    have e2 : P ++ (X1 ++ X2) ++ Y ++ S = P ++ X1 ++ X2 ++ Y ++ S := by simp only [List.append_assoc]
    rw [e2] at hl3 h4 ⊢
    rw [hxl] at hx hm hgt hx2 h4 ⊢
    have hsw := swapRange_specL v gf gc P X1 X2 Y S hx1 hl3
    have hpl : (P ++ X1 ++ X2).length = m := by simp only [List.length_append]; omega
    rw [hpl, hx1] at hsw
    have e3 : P ++ Y ++ X2 ++ X1 ++ S = (P ++ Y) ++ X2 ++ X1 ++ S := rfl
    rw [e3] at hsw
    repeat' (first | refine Awp.seq ?_ | refine Awp.block ?_ | refine Awp.region ?_ | refine Ops.nil (nqA ?_) | refine Ops.nil (nqX ?_) | refine Awp.skip (nqA ?_) | (refine o_sub rfl rfl rfl rfl ?_ ?_; omega) | (refine o_calm rfl TtOk rfl rfl rfl ?_ (fun _ => ?_); exact nd) | (refine a_condP rfl (fun hc => ?_) (fun hc => ?_)) <;> (try (exfalso; omega)) | (refine a_condN rfl (fun hc => ?_) (fun hc => ?_)) <;> (try (exfalso; omega)) | (refine o_call [] [0] [0] rfl hsw ⟨sle_own, sle_i (by omega), sle_i (by omega), sle_i (by omega), nqS, True.intro⟩ rfl ⟨HOLe.refl _, True.intro⟩ rfl rfl ?_; rintro _ _ ⟨rfl, rfl⟩; refine ⟨_, rfl, rfl, ?_⟩))
    refine ⟨(P ++ Y, X2, X1, S), [], ⟨by show 0 < X2.length; omega, by show 0 < X1.length; omega, by show (P ++ Y).length + X2.length = m; rw [List.length_append]; omega, by rw [← hg]; simp only [List.append_assoc], by show ((P ++ Y) ++ X2 ++ X1 ++ S).length ≤ _; simp only [List.length_append] at hl3 ⊢; omega⟩, by show X2.length + X1.length < X1.length + X2.length + Y.length; omega, rfl, ⟨sle_i (by show _ = ((X2.length : Nat) : Int); omega), sle_i (by show _ = ((X1.length : Nat) : Int); omega), sle_own, sle_i rfl, nqS, True.intro⟩, HLe.cons 0 rfl (HOLe.refl _) .nil⟩
  by_cases hlt : X.length < Y.length
  · have e1 : Y.take (Y.length - X.length) ++ Y.drop (Y.length - X.length) = Y := List.take_append_drop _ _
    have hy1 : (Y.take (Y.length - X.length)).length = Y.length - X.length := by rw [List.length_take]; omega
    have hy2 : (Y.drop (Y.length - X.length)).length = X.length := by rw [List.length_drop]; omega
    generalize Y.take (Y.length - X.length) = Y1 at e1 hy1
    generalize Y.drop (Y.length - X.length) = Y2 at e1 hy2
    subst e1
    have hyl : (Y1 ++ Y2).length = Y1.length + Y2.length := List.length_append
    have e2 : P ++ X ++ (Y1 ++ Y2) ++ S = P ++ X ++ Y1 ++ Y2 ++ S := by simp only [List.append_assoc]
    rw [e2] at hl3 h4 ⊢
    rw [hyl] at hy hlt hgt hy1 h4 ⊢
    have hsw := swapRange_specL v gf gc P X Y1 Y2 S hy2.symm hl3
    have hpl : ((P ++ X ++ Y1).length : Int) = (m : Int) + Y1.length := by simp only [List.length_append]; omega
    rw [hpl] at hsw
    have e3 : P ++ Y2 ++ Y1 ++ X ++ S = P ++ Y2 ++ Y1 ++ (X ++ S) := by simp only [List.append_assoc]
    rw [e3] at hsw
    repeat' (first | refine Awp.seq ?_ | refine Awp.block ?_ | refine Awp.region ?_ | refine Ops.nil (nqA ?_) | refine Ops.nil (nqX ?_) | refine Awp.skip (nqA ?_) | (refine o_add rfl rfl rfl rfl ?_ ?_; omega) | (refine o_sub rfl rfl rfl rfl ?_ ?_; omega) | (refine o_calm rfl TtOk rfl rfl rfl ?_ (fun _ => ?_); exact nd) | (refine a_condP rfl (fun hc => ?_) (fun hc => ?_)) <;> (try (exfalso; omega)) | (refine a_condN rfl (fun hc => ?_) (fun hc => ?_)) <;> (try (exfalso; omega)) | (refine o_call [] [0] [0] rfl hsw ⟨sle_own, sle_i (by omega), sle_i (by omega), sle_i (by omega), nqS, True.intro⟩ rfl ⟨HOLe.refl _, True.intro⟩ rfl rfl ?_; rintro _ _ ⟨rfl, rfl⟩; refine ⟨_, rfl, rfl, ?_⟩))
    refine ⟨(P, Y2, Y1, X ++ S), [], ⟨by show 0 < Y2.length; omega, by show 0 < Y1.length; omega, by show P.length + Y2.length = m; omega, by rw [← hg]; simp only [List.append_assoc], by show (P ++ Y2 ++ Y1 ++ (X ++ S)).length ≤ _; simp only [List.length_append] at hl3 ⊢; omega⟩, by show Y2.length + Y1.length < X.length + (Y1.length + Y2.length); omega, rfl, ⟨sle_i (by show _ = ((Y2.length : Nat) : Int); omega), sle_i (by show _ = ((Y1.length : Nat) : Int); omega), sle_own, sle_i rfl, nqS, True.intro⟩, HLe.cons 0 rfl (HOLe.refl _) .nil⟩
  · have hxy : X.length = Y.length := by omega
    have hsw := swapRange_specL v gf gc P X [] Y S hxy (by rw [List.append_nil]; exact hl3)
    rw [List.append_nil, List.append_nil] at hsw
    have hpl : (P ++ X).length = m := by rw [List.length_append]; omega
    rw [hpl, hg] at hsw
    repeat' (first | refine Awp.seq ?_ | refine Awp.region ?_ | refine Ops.nil (nqA ?_) | refine Ops.nil (nqE ?_) | refine Awp.exit (nqA ?_) | (refine o_sub rfl rfl rfl rfl ?_ ?_; omega) | (refine o_calm rfl TtOk rfl rfl rfl ?_ (fun _ => ?_); exact nd) | (refine a_condN rfl (fun hc => ?_) (fun hc => ?_)) <;> (try (exfalso; omega)) | (refine o_call [] [0] [0] rfl hsw ⟨sle_own, sle_i (by omega), sle_i (by omega), sle_i (by omega), nqS, True.intro⟩ rfl ⟨HOLe.refl _, True.intro⟩ rfl rfl ?_; rintro _ _ ⟨rfl, rfl⟩; refine ⟨_, rfl, rfl, ?_⟩))
    exact end_none rfl [] [(0, _)] (HLe.cons 0 rfl (HOLe.refl _) .nil) ⟨rfl, rfl⟩ _ (.inr rfl)
end Go.Proofs.YtcmgpkibjdbonaaGreat
