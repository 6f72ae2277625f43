/- merge.Split and ref12.Split walked. -/
import Derived.Test.YtcnkmfmdadmaaaaSplit
namespace Go.Proofs.Ytcnkmfmdadmaaaa
open Go.RowKit

/-- A slice of slices of the call's own: the outer row o, the inner ones among F. -/
def MF (w : World) (B : Nat) (o : Value) (F : Nat → Prop) (ls : List (List Ent)) : Prop :=
  ∃ vs : List SV, vs.length = ls.length ∧ Own w B 23 svC 1 o vs ∧ ∀ (i : Nat) v l, vs[i]? = some v → ls[i]? = some l → EntS w F v.val l
section
variable {w w' : World} {B : Nat} {o o' : Value} {F G S : Nat → Prop} {ls : List (List Ent)}
theorem MF.nil (w : World) (B : Nat) (F : Nat → Prop) : MF w B (.slice none 0 0) F [] := ⟨[], rfl, Own.nil _ _ _ _ _, fun i v l h => by simp at h⟩
theorem MF.empty (w : World) {B : Nat} (hb : B ≤ w.heap.size) (F : Nat → Prop) : MF (w.alloc (.cells #[] 23)) B (.slice (some ⟨w.heap.size, 0, none⟩) 0 0) F [] := ⟨[], rfl, Own.empty w _ _ _ hb, fun i v l h => by simp at h⟩
theorem MF.lt (h : MF w B o F ls) : ∀ k, o.ownBlock = some k → B ≤ k ∧ k < w.heap.size := by
  obtain ⟨vs, h1, h2, h3⟩ := h; exact h2.lt
theorem MF.step (h : MF w B o F ls) (hm : Mod S w w') (ho : ∀ k, o.ownBlock = some k → ¬ S k) (hF : ∀ k, F k → ¬ S k) (hG : ∀ k, F k → k < w.heap.size → G k) : MF w' B o G ls := by
  obtain ⟨vs, h1, h2, h3⟩ := h
  exact ⟨vs, h1, h2.mod hm ho, fun i v l a b => (h3 i v l a b).step entC_pos hm hF hG⟩
theorem MF.below (h : MF w B o F ls) (hb : Below w.heap.size w w') : MF w' B o F ls := h.step (Mod.of_below (S := None_) hb) (fun _ _ h => h) (fun _ _ h => h) (fun _ h _ => h)
theorem MF.snoc {vs : List SV} {s : SV} {l : List Ent} (h1 : vs.length = ls.length) (h3 : ∀ (i : Nat) v l, vs[i]? = some v → ls[i]? = some l → EntS w F v.val l) (hs : EntS w F s.val l)
    (ho : Own w' B 23 svC 1 o' (vs ++ [s])) (hg : w.grownBy w' o.ownBlock) (hF : ∀ k, F k → o.ownBlock ≠ some k) (hG : ∀ k, F k → k < w.heap.size → G k) : MF w' B o' G (ls ++ [l]) := by
  have hm : Mod (fun k => o.ownBlock = some k) w w' := (Mod.refl _ w).grown hg (fun k hk _ => hk)
  refine ⟨vs ++ [s], by simp [h1], ho, fun i v m a b => ?_⟩
  rcases Nat.lt_or_ge i vs.length with hi | hi
  · rw [List.getElem?_append_left hi] at a
    rw [List.getElem?_append_left (by omega)] at b
    exact (h3 i v m a b).step entC_pos hm hF hG
  · rw [List.getElem?_append_right hi] at a
    rw [List.getElem?_append_right (by omega)] at b
    have hi0 : i - vs.length = 0 := by
      have := (List.getElem?_eq_some_iff.1 a).1; simp at this; omega
    rw [hi0] at a; rw [← h1, hi0] at b
    simp at a b; subst a; subst b
    exact hs.step entC_pos hm hF hG
theorem MF.LL (h : MF w B o F ls) : ∃ A cap, o = .slice A ls.length cap ∧ ls.length ≤ cap ∧ cap ≤ maxLen ∧ LL w (fun g => B ≤ g) F A ls := by
  obtain ⟨vs, h1, h2, h3⟩ := h
  obtain ⟨A, cap, hv, h4, h5, h6⟩ := h2.sl svC_length
  rw [h1] at hv h4
  exact ⟨A, cap, hv, h4, h5, vs, h1, h6.imp (fun k hk => (h2.lt k hk).1), h3⟩
end

set_option maxRecDepth 100000 in
set_option maxHeartbeats 1000000 in
theorem split_any (A : Option Addr) (cap : Nat) (l : List Ent) (size most : Int) (F : Nat → Prop) (w : World) (h1 : 1 ≤ size) (h2 : 1 ≤ most) (hl : l.length ≤ 100000) (hlc : l.length ≤ cap) (hsh : Short l) (hs : EntA w F A l) :
    Calls Try.prog 22 #[.slice A l.length cap, .int .i64 size, .int .i64 most] w fun e w' => ∃ v, e = .returned v ∧ MF w' w.heap.size v (fun _ => True) (mSplit size most l []) ∧ Below w.heap.size w w' := by
  have hE := Lib.hid entElem
  have hEl := Lib.hid llElem
  have HS := Lib.hid hsh; clear hsh
  have hd1 : decide (size < 1) = false := by simp; omega
  have hd2 : decide (most < 1) = false := by simp; omega
  obtain ⟨tgt, ht⟩ : ∃ t, t = mSplit size most l [] := ⟨_, rfl⟩
  have htl : tgt.length ≤ l.length + 1 := by rw [ht, split_eq _ _ _ _ (fun _ => rfl)]; exact rSplit_len _ _ _ _
  rw [← ht]
  have HT := Lib.hid ht; clear ht
  go_enter Try.func22, Try.ntmps22
  go_wp2
  clear hd1 hd2
  go_loopw [7, 8, 9, 20] (fun o f n i wr => ∃ (k q : Nat) (g : List Ent) (done : List (List Ent)), k ≤ l.length ∧ q ≤ k ∧ i = .int .i64 k ∧ f = .int .i64 q ∧ n = .int .i64 (costL g : Nat) ∧ Hid (g = (l.drop q).take (k - q)) ∧ MF wr w.heap.size o (fun k => w.heap.size ≤ k ∧ o.ownBlock ≠ some k) done ∧ Hid (tgt = done ++ mSplit size most (l.drop k) g) ∧ Below w.heap.size w wr) (fun _ _ _ i _ => l.length - (intOf i).toNat)
  case atStart => exact ⟨0, 0, [], [], Nat.zero_le _, Nat.le_refl _, rfl, rfl, rfl, Lib.hid rfl, MF.nil _ _ _, HT, Below.refl _ _⟩
  case round =>
    clear HT
    obtain ⟨k, q, g, done, hk, hq, rfl, rfl, rfl, HG, ho, HT, hb⟩ := hrel
    have hbase : w.heap.size ≤ wr.heap.size := hb.size
    by_cases hlt : k < l.length
    · obtain ⟨b, off, rfl, hF, hc0, hc1, hc2⟩ := EntA.cells (hs.below hb) hlt
      obtain ⟨hx1, hx2⟩ := HS.out l[k] (List.getElem_mem hlt)
      have hgs : Short g := by
        rw [HG.out]; exact fun x hx => HS.out x (List.mem_of_mem_drop (List.mem_of_mem_take hx))
      have hgl : g.length = k - q := by rw [HG.out]; simp; omega
      have hcg : costL g ≤ 412800000 := by
        have := costL_le hgs
        have : g.length * 4128 ≤ 100000 * 4128 := Nat.mul_le_mul_right _ (by omega)
        omega
      have hce : costE l[k] ≤ 4128 := by unfold costE; omega
      have hnx : (l.drop q).take (k + 1 - q) = g ++ [l[k]] := by
        rw [HG.out, show k + 1 - q = (k - q) + 1 by omega, List.take_succ_eq_append_getElem (by simp; omega)]
        congr 2
        rw [List.getElem_drop]; congr 1; omega
      have hcs : costL (g ++ [l[k]]) = costL g + costE l[k] := costL_snoc _ _
      have hcut : ∀ W, (Instr.slice 23 (.slice (some ⟨b, off, none⟩) l.length cap) (some (.int .i64 (q : Nat))) (some (.int .i64 ((k : Int) + 1))) none).run Try.prog W = .ok (.slice (cutA (some ⟨b, off, none⟩) cap q 3) (k + 1 - q) (cap - q)) W := fun W => run_cut hE.out (some ⟨b, off, none⟩) l.length cap q (k + 1) (by omega) (by omega) W
      have hd := HT.out
      rw [List.drop_eq_getElem_cons hlt] at hd
      unfold mSplit at hd
      have hcnd : spCond size most (g ++ [l[k]]) = (decide (size ≤ ((costL g : Nat) : Int) + (costE l[k] : Nat)) || decide (most ≤ (k : Int) - q + 1)) := by
        unfold spCond; rw [hcs, List.length_append, hgl]; simp
        congr 1
        exact decide_eq_decide.2 (by omega)
      have hlast : decide (l.drop (k + 1) = []) = decide ((k : Int) = (l.length : Int) - 1) := decide_eq_decide.2 (by rw [List.drop_eq_nil_iff]; omega)
      rw [hcnd, hlast] at hd
      have HN := Lib.hid hnx; have HC := Lib.hid hcs
      have hcl2 : (g ++ [l[k]]).length ≤ 1000000 := by rw [List.length_append, hgl]; simp; omega
      have hnl : k + 1 - q = (g ++ [l[k]]).length := by rw [List.length_append, hgl]; simp; omega
      have HNL := Lib.hid hnl
      have hdl : done.length ≤ l.length + 1 := by
        have := HT.out; rw [this] at htl; simp at htl; omega
      clear hnx hcs hcnd hlast HG hgl hgs hnl HT
      generalize hc0g : costL g = c0 at hcg hd HC ⊢
      clear hc0g
      have hpre := ((Below.refl _ wr).alloc (Nat.le_refl _) (.cells #[.string l[k].key, .string l[k].val, .bool l[k].gone] 31))
      go_wp2_with fail
      refine (cost_any l[k] _ (by omega) (by omega)).mono ?_
      rintro e w1 ⟨rfl, hb1⟩
      have hb2 : Below wr.heap.size wr w1 := hpre.trans (hb1.mono (by simp))
      have hb3 := hb.trans (hb2.mono hbase)
      have ho1 := ho.below hb2
      have hs1 := (hs.below hb).below hb2
      clear hpre hb1 ho
      generalize hce' : costE l[k] = ce at hce hd HC ⊢
      clear hce'
      have hbw : w.heap.size ≤ w1.heap.size := hb3.size
      have hor : (size ≤ (c0 : Int) + (ce : Int)) ∨ (¬ size ≤ (c0 : Int) + (ce : Int)) ∧ (most ≤ (k : Int) - q + 1) ∨ (¬ size ≤ (c0 : Int) + (ce : Int)) ∧ (¬ most ≤ (k : Int) - q + 1) ∧ (k : Int) = (l.length : Int) - 1 ∨ (¬ size ≤ (c0 : Int) + (ce : Int)) ∧ (¬ most ≤ (k : Int) - q + 1) ∧ ¬ (k : Int) = (l.length : Int) - 1 := by omega
      rcases hor with a1 | ⟨a1, a2⟩ | ⟨a1, a2, a3⟩ | ⟨a1, a2, a3⟩
      rotate_left 3
      · rw [decide_eq_false a1, decide_eq_false a2, decide_eq_false a3] at hd
        simp only [Bool.or_false, Bool.false_eq_true, if_false] at hd
        have HD := Lib.hid hd
        have hd1 := decide_eq_false a1; have hd2 := decide_eq_false a2
        have hd3 : ((k : Int) == (l.length : Int) - 1) = false := by simpa using a3
        clear hd a1 a2 a3
        go_wp2
        go_roundw
        case rel => exact ⟨k + 1, q, g ++ [l[k]], done, by omega, by omega, by go_num, rfl, by rw [HC.out]; go_num, Lib.hid HN.out.symm, ho1, HD, hb3⟩
        case measure => simp [intOf] <;> omega
      · rw [decide_eq_true a1] at hd
        simp only [Bool.true_or, if_true] at hd
        have HD := Lib.hid hd
        have hd1 := decide_eq_true a1
        clear hd a1
        go_wp2_with fail
        refine (clone_any (cutA (some ⟨b, off, none⟩) cap q 3) (cap - q) (k + 1 - q) (g ++ [l[k]]) F w1 hcl2 HNL.out (by rw [← HN.out]; exact hs1.cut_ (by omega) (by omega) hlc)).mono ?_
        rintro e w2 ⟨v2, rfl, ho2, hb4⟩
        obtain ⟨A2, c2, rfl, h21, h22, hs2⟩ := ho2.sl entC_length
        obtain ⟨vs, hv1, hv2, hv3⟩ := ho1.below hb4
        have hvl : vs.length < 100002 := by omega
        have HV1 := Lib.hid hv1; have HV3 := Lib.hid hv3
        have hbw2 : w.heap.size ≤ w2.heap.size := by have := hb4.size; omega
        have hw21 := hb4.size
        have hlt2 := ho1.lt
        have hOlt := ho2.lt
        clear hv1 hv3 ho1
        go_wp2_with (at_builtin; refine wpList_app1 (by rfl) (.tmp 47) (.tmp 54) (by rfl) hEl.out svC_length svC_one (by rfl) (by exact hv2.alloc _) (g := _) 1 ⟨A2, _, c2⟩ (by rfl) (by exact Blk.new_ (by simp)) (by rfl) 100002 hvl (by omega) (by unfold maxLen; omega) (by simp; omega) ?_; intro v3 w3 ho3 hg3 hv3)
        go_roundw
        case rel =>
          refine ⟨k + 1, k + 1, [], done ++ [g ++ [l[k]]], by omega, by omega, by go_num, by go_num, rfl, Lib.hid (by simp), ?_, Lib.hid (by simpa using HD.out), ((hb3.trans (hb4.mono hbw)).alloc hbw2 _).grown hg3 (by simp; omega) (fun g hg => (hlt2 g hg).1)⟩
          refine MF.snoc HV1.out (fun i v m a b => (HV3.out i v m a b).below ((Below.refl _ _).alloc (Nat.le_refl _) _)) ?_ ho3 hg3 (fun k hk => hk.2) (fun k hk hk2 => ⟨hk.1, fun e => ?_⟩)
          · refine Sl.below (w := w2) ?_ ((Below.refl _ _).alloc (Nat.le_refl _) _)
            refine ⟨A2, c2, by simp [SV.val], h21, h22, hs2.imp fun g hg => ⟨by have := (hOlt g hg).1; omega, fun e => by have := (hlt2 g e).2; have := (hOlt g hg).1; omega⟩⟩
          · rcases hv3 with h | h
            · rw [h] at e; exact hk.2 e
            · rw [h] at e; injection e with e; omega
        case measure => simp [intOf] <;> omega
      · rw [decide_eq_false a1, decide_eq_true a2] at hd
        simp only [Bool.true_or, Bool.or_true, if_true] at hd
        have HD := Lib.hid hd
        have hd1 := decide_eq_false a1; have hd2 := decide_eq_true a2
        clear hd a1 a2
        go_wp2_with fail
        refine (clone_any (cutA (some ⟨b, off, none⟩) cap q 3) (cap - q) (k + 1 - q) (g ++ [l[k]]) F w1 hcl2 HNL.out (by rw [← HN.out]; exact hs1.cut_ (by omega) (by omega) hlc)).mono ?_
        rintro e w2 ⟨v2, rfl, ho2, hb4⟩
        obtain ⟨A2, c2, rfl, h21, h22, hs2⟩ := ho2.sl entC_length
        obtain ⟨vs, hv1, hv2, hv3⟩ := ho1.below hb4
        have hvl : vs.length < 100002 := by omega
        have HV1 := Lib.hid hv1; have HV3 := Lib.hid hv3
        have hbw2 : w.heap.size ≤ w2.heap.size := by have := hb4.size; omega
        have hw21 := hb4.size
        have hlt2 := ho1.lt
        have hOlt := ho2.lt
        clear hv1 hv3 ho1
        go_wp2_with (at_builtin; refine wpList_app1 (by rfl) (.tmp 47) (.tmp 54) (by rfl) hEl.out svC_length svC_one (by rfl) (by exact hv2.alloc _) (g := _) 1 ⟨A2, _, c2⟩ (by rfl) (by exact Blk.new_ (by simp)) (by rfl) 100002 hvl (by omega) (by unfold maxLen; omega) (by simp; omega) ?_; intro v3 w3 ho3 hg3 hv3)
        go_roundw
        case rel =>
          refine ⟨k + 1, k + 1, [], done ++ [g ++ [l[k]]], by omega, by omega, by go_num, by go_num, rfl, Lib.hid (by simp), ?_, Lib.hid (by simpa using HD.out), ((hb3.trans (hb4.mono hbw)).alloc hbw2 _).grown hg3 (by simp; omega) (fun g hg => (hlt2 g hg).1)⟩
          refine MF.snoc HV1.out (fun i v m a b => (HV3.out i v m a b).below ((Below.refl _ _).alloc (Nat.le_refl _) _)) ?_ ho3 hg3 (fun k hk => hk.2) (fun k hk hk2 => ⟨hk.1, fun e => ?_⟩)
          · refine Sl.below (w := w2) ?_ ((Below.refl _ _).alloc (Nat.le_refl _) _)
            refine ⟨A2, c2, by simp [SV.val], h21, h22, hs2.imp fun g hg => ⟨by have := (hOlt g hg).1; omega, fun e => by have := (hlt2 g e).2; have := (hOlt g hg).1; omega⟩⟩
          · rcases hv3 with h | h
            · rw [h] at e; exact hk.2 e
            · rw [h] at e; injection e with e; omega
        case measure => simp [intOf] <;> omega
      · rw [decide_eq_true a3] at hd
        simp only [Bool.or_true, if_true] at hd
        have HD := Lib.hid hd
        have hd1 := decide_eq_false a1; have hd2 := decide_eq_false a2
        have hd3 : ((k : Int) == (l.length : Int) - 1) = true := by simpa using a3
        clear hd a1 a2 a3
        go_wp2_with fail
        refine (clone_any (cutA (some ⟨b, off, none⟩) cap q 3) (cap - q) (k + 1 - q) (g ++ [l[k]]) F w1 hcl2 HNL.out (by rw [← HN.out]; exact hs1.cut_ (by omega) (by omega) hlc)).mono ?_
        rintro e w2 ⟨v2, rfl, ho2, hb4⟩
        obtain ⟨A2, c2, rfl, h21, h22, hs2⟩ := ho2.sl entC_length
        obtain ⟨vs, hv1, hv2, hv3⟩ := ho1.below hb4
        have hvl : vs.length < 100002 := by omega
        have HV1 := Lib.hid hv1; have HV3 := Lib.hid hv3
        have hbw2 : w.heap.size ≤ w2.heap.size := by have := hb4.size; omega
        have hw21 := hb4.size
        have hlt2 := ho1.lt
        have hOlt := ho2.lt
        clear hv1 hv3 ho1
        go_wp2_with (at_builtin; refine wpList_app1 (by rfl) (.tmp 47) (.tmp 54) (by rfl) hEl.out svC_length svC_one (by rfl) (by exact hv2.alloc _) (g := _) 1 ⟨A2, _, c2⟩ (by rfl) (by exact Blk.new_ (by simp)) (by rfl) 100002 hvl (by omega) (by unfold maxLen; omega) (by simp; omega) ?_; intro v3 w3 ho3 hg3 hv3)
        go_roundw
        case rel =>
          refine ⟨k + 1, k + 1, [], done ++ [g ++ [l[k]]], by omega, by omega, by go_num, by go_num, rfl, Lib.hid (by simp), ?_, Lib.hid (by simpa using HD.out), ((hb3.trans (hb4.mono hbw)).alloc hbw2 _).grown hg3 (by simp; omega) (fun g hg => (hlt2 g hg).1)⟩
          refine MF.snoc HV1.out (fun i v m a b => (HV3.out i v m a b).below ((Below.refl _ _).alloc (Nat.le_refl _) _)) ?_ ho3 hg3 (fun k hk => hk.2) (fun k hk hk2 => ⟨hk.1, fun e => ?_⟩)
          · refine Sl.below (w := w2) ?_ ((Below.refl _ _).alloc (Nat.le_refl _) _)
            refine ⟨A2, c2, by simp [SV.val], h21, h22, hs2.imp fun g hg => ⟨by have := (hOlt g hg).1; omega, fun e => by have := (hlt2 g e).2; have := (hOlt g hg).1; omega⟩⟩
          · rcases hv3 with h | h
            · rw [h] at e; exact hk.2 e
            · rw [h] at e; injection e with e; omega
        case measure => simp [intOf] <;> omega
    · have hx : l.drop k = [] := List.drop_of_length_le (by omega)
      have hd := HT.out; rw [hx] at hd; simp [mSplit] at hd
      have HD := Lib.hid hd; clear hd
      go_wp2
      go_ret
      exact ⟨_, rfl, by rw [HD.out]; exact ho.step (Mod.refl None_ _) (fun _ _ h => h) (fun _ _ h => h) (fun _ _ _ => trivial), hb⟩
end Go.Proofs.Ytcnkmfmdadmaaaa
