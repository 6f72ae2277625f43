/- What Cover tells: the parts are trees of the leaves that no label stands at; parts and other leaves are one tree. No program in sight. -/
import Derived.Test.YtcmgpkibjdbonaaGreatC2Z
import Derived.Test.YtcmgpkibjdbonaaGreatR2Z
import Derived.Test.YtcmgpkibjdbonaaGreatV31Z
import Derived.Test.YtcmgpkibjdbonaaGreatC1Z
import Derived.Test.YtcmgpkibjdbonaaGreatV15Z
import Derived.Test.YtcmgpkibjdbonaaGreatTypesZ
import Derived.Test.YtcmgpkibjdbonaaGreatProg
import Derived.Test.YtcmgpkibjdbonaaGreatBase2Z
import Derived.Lib.ConvBytes
import Derived.Lib.AppendStr
import Derived.Laws.IdiomStrings
import Derived.Laws.BytesArg
import Derived.Laws.BitsAllLaws
import Derived.Laws.BitsLemmas
set_option maxHeartbeats 4000000
namespace Go.Proofs.YtcmgpkibjdbonaaGreat
open Go Go.RowKit
theorem insS_perm {α : Type} {lt : α → α → Bool} (x : α) : ∀ l : List α, (insS lt x l).Perm (x :: l)
  | [] => List.Perm.refl _
  | y :: r => by
    unfold insS
    split
    · exact List.Perm.refl _
    · exact ((insS_perm x r).cons y).trans (List.Perm.swap x y r)
theorem sortS_perm {α : Type} {lt : α → α → Bool} (l : List α) : (sortS lt l).Perm l := by
  have h : ∀ (l a : List α), (l.foldl (fun a x => insS lt x a) a).Perm (a ++ l) := by
    intro l
    induction l with
    | nil => intro a; rw [List.append_nil]; exact List.Perm.refl _
    | cons x r ih =>
      intro a
      rw [List.foldl_cons]
      refine (ih _).trans ?_
      refine ((insS_perm x a).append_right r).trans ?_
      exact List.perm_middle.symm
  exact h l []
theorem srtI_perm (l : List Itm) : (srtI l).Perm l := sortS_perm l
theorem srtL_perm (l : List Lef) : (srtL l).Perm l := sortS_perm l
/-- Neither is over the other. -/
def Anti (a b : Itm) : Prop := ((comL a.l b.l : Nat) : Int) < a.n ∧ ((comL a.l b.l : Nat) : Int) < b.n
theorem Anti.symm {a b : Itm} (h : Anti a b) : Anti b a := by
  unfold Anti at h ⊢
  rw [com_comm]; exact ⟨h.2, h.1⟩
theorem good_n {x : Itm} (h : goodI x = true) : 0 ≤ x.n ∧ x.n ≤ 256 := by
  unfold goodI at h
  simp only [Bool.and_eq_true] at h
  obtain ⟨a, b, _⟩ := good_parts h.1
  exact ⟨a, b⟩
theorem anti_bad {a x : Itm} (h : Anti a x) (hc : cmpS a.l x.l < 0) : badI a x = false := by
  unfold badI overP hasP
  have e1 : decide (a.p.n ≤ (comL a.p.l x.p.l : Nat)) = false := decide_eq_false (by have := h.1; show ¬ a.n ≤ _; show ¬ a.n ≤ ((comL a.l x.l : Nat) : Int); omega)
  have e2 : decide (x.p.n ≤ (comL x.p.l a.p.l : Nat)) = false := decide_eq_false (by have := h.symm.1; show ¬ x.n ≤ ((comL x.l a.l : Nat) : Int); omega)
  rw [e1, e2, decide_eq_false (show ¬ (0 ≤ cmpS a.l x.l) by omega)]
  simp
theorem chkL_zero : ∀ (l : List Itm) (a : Itm), (∀ x ∈ l, goodI x = true) → (a :: l).Pairwise Anti → RiseI (a :: l) → chkL (some a) l = 0
  | [], _, _, _, _ => rfl
  | x :: r, a, hg, ha, hr => by
    show (if goodI x = true then (if badI a x = true then 3 else chkL (some x) r) else 1) = 0
    rw [if_pos (hg x (List.mem_cons_self ..)), if_neg (by rw [anti_bad ((List.pairwise_cons.1 ha).1 x (List.mem_cons_self ..)) ((List.pairwise_cons.1 hr).1 x (List.mem_cons_self ..))]; decide)]
    exact chkL_zero r x (fun y hy => hg y (List.mem_cons_of_mem _ hy)) (List.pairwise_cons.1 ha).2 (List.pairwise_cons.1 hr).2
theorem chkI_zero {l : List Itm} (hl : l.length ≤ 2000) (hg : ∀ x ∈ l, goodI x = true) (ha : l.Pairwise Anti) (hr : RiseI l) : chkI l = 0 := by
  unfold chkI
  rw [if_neg (by omega)]
  cases l with
  | nil => rfl
  | cons x r =>
    show (if goodI x = true then chkL (some x) r else 1) = 0
    rw [if_pos (hg x (List.mem_cons_self ..))]
    exact chkL_zero r x (fun y hy => hg y (List.mem_cons_of_mem _ hy)) ha hr
theorem anti_rise {l : List Itm} (hg : ∀ x ∈ l, goodI x = true) (hok : ∀ x ∈ l, x.ok) (ha : l.Pairwise Anti) : RiseI (srtI l) ∧ (srtI l).Pairwise Anti := by
  have h1 : (srtI l).Pairwise Anti := (List.Perm.pairwise_iff (fun h => Anti.symm h) (srtI_perm l)).2 ha
  refine ⟨?_, h1⟩
  have h2 : Srt (ltCI ordI) (srtI l) := sortS_srt woI l
  have h3 := h1.and h2
  refine List.Pairwise.imp_of_mem (fun {x y} hx hy h => ?_) h3
  obtain ⟨ha, hs⟩ := h
  have hs : decide (cmpS y.l x.l < 0) = false := hs
  have hs := of_decide_eq_false hs
  rcases less_tri x.l y.l with k | k | k
  · exact cmpS_neg.2 k
  · exfalso
    have hn := (good_n (hg x (srtI_mem.1 hx))).2
    have ho := (hok x (srtI_mem.1 hx)).1
    have h1 := ha.1
    rw [← k, com_self, ho] at h1
    omega
  · exact absurd (cmpS_neg.2 k) hs
theorem chk_anti {l : List Itm} (hl : l.length ≤ 2000) (hg : ∀ x ∈ l, goodI x = true) (hok : ∀ x ∈ l, x.ok) (ha : l.Pairwise Anti) : chkI (srtI l) = 0 := by
  obtain ⟨h1, h2⟩ := anti_rise hg hok ha
  exact chkI_zero (by rw [srtI_len]; exact hl) (fun x hx => hg x (srtI_mem.1 hx)) h2 h1
theorem top_trJ {l : List Itm} (hok : ∀ x ∈ l, x.ok) (hc : chkI (srtI l) = 0) : topS (srtI l) = if l = [] then shaN [18] else (trJ 256 0 l).s := by
  unfold topS
  rw [if_neg (fun h => h hc)]
  have hp := srtI_perm l
  by_cases hn : l = []
  · rw [if_pos hn, if_pos ((perm_nil_iff hp).2 hn)]
  · have hn2 : srtI l ≠ [] := fun h => hn ((perm_nil_iff hp).1 h)
    rw [if_neg hn, if_neg hn2, ← trJ_perm 256 0 _ _ hp, trJ_join 256 0 (srtI l) (List.length_pos_iff.2 hn2) rfl (chkI_rise hc).2.1 (fun x hx => hok x (srtI_mem.1 hx)) (fun x _ i hi => absurd hi (Nat.not_lt_zero _))]
def openB : Nat → List (List UInt8) → List Lef → List (Itm × List Lef)
  | 0, _, _ => []
  | k + 1, ls, l => if l = [] then [] else if ls.any (hasP (joinF l.length (l.map leafI)).p) = false then [(joinF l.length (l.map leafI), l)] else if l.length = 1 then []
    else openB k ls (l.take (splI (l.map leafI))) ++ openB k ls (l.drop (splI (l.map leafI)))
theorem openB_fst : ∀ (k : Nat) (ls : List (List UInt8)) (l : List Lef), (openB k ls l).map (·.1) = (openF k ls l).1
  | 0, _, _ => rfl
  | k + 1, ls, l => by
    unfold openB openF
    by_cases hn : l = []
    · rw [if_pos hn, if_pos hn]; rfl
    rw [if_neg hn, if_neg hn]
    by_cases hh : ls.any (hasP (joinF l.length (l.map leafI)).p) = false
    · rw [if_pos hh, if_pos hh]; rfl
    rw [if_neg hh, if_neg hh]
    by_cases h1 : l.length = 1
    · rw [if_pos h1, if_pos h1]; rfl
    rw [if_neg h1, if_neg h1, List.map_append, openB_fst k ls _, openB_fst k ls _]
structure BlkL (ls : List (List UInt8)) (l : List Lef) (q : Itm × List Lef) : Prop where
  ne : q.2 ≠ []
  sub : ∀ y ∈ q.2, y ∈ l
  rise : RiseI (q.2.map leafI)
  eq : q.1 = joinF q.2.length (q.2.map leafI)
  out : ∀ x ∈ ls, ((comL q.1.l x : Nat) : Int) < q.1.n
def SepB (a b : Itm × List Lef) : Prop := ((comL a.1.l b.1.l : Nat) : Int) < a.1.n ∧ ((comL a.1.l b.1.l : Nat) : Int) < b.1.n ∧ (∀ y ∈ b.2, ((comL a.1.l y.l : Nat) : Int) < a.1.n) ∧ (∀ y ∈ a.2, ((comL b.1.l y.l : Nat) : Int) < b.1.n) ∧ cmpS a.1.l b.1.l < 0
structure JoinB (p : Itm) (B : List Itm) : Prop where
  ge : 0 ≤ p.n
  le : p.n ≤ 256
  ok : p.ok
  agree : ∀ b ∈ B, ∀ i : Nat, (i : Int) < p.n → bitL b.l i = bitL p.l i
  good : (∀ b ∈ B, goodI b = true) → goodP p.p = true
  tr : ∀ f' d' : Nat, d' + f' = 256 → (d' : Int) ≤ p.n → trJ f' d' B = p
theorem join_B {B : List Itm} (h0 : 0 < B.length) (hr : RiseI B) (hok : ∀ x ∈ B, x.ok) (h256 : ∀ x ∈ B, 0 ≤ x.n ∧ x.n ≤ 256) : JoinB (joinF B.length B) B := by
  have hjo := joinF_ok B.length B (List.length_pos_iff.1 h0) (Nat.le_refl _) hr hok
  obtain ⟨a, b⟩ := join_pfx B.length B h0 (Nat.le_refl _) hr hok
  have hle : (joinF B.length B).n ≤ 256 := by
    by_cases h1 : B.length = 1
    · rw [a h1]; exact (h256 _ (List.getElem_mem h0)).2
    · rw [(b (by omega)).1]; have := (spl_ok hr hok (by omega)).1; omega
  have hge : 0 ≤ (joinF B.length B).n := by
    by_cases h1 : B.length = 1
    · rw [a h1]; exact (h256 _ (List.getElem_mem h0)).1
    · rw [(b (by omega)).1]; omega
  have hag : ∀ x ∈ B, ∀ i : Nat, (i : Int) < (joinF B.length B).n → bitL x.l i = bitL (joinF B.length B).l i := fun x hx i hi => by
    obtain ⟨j, hj, rfl⟩ := List.getElem_of_mem hx
    by_cases h1 : B.length = 1
    · rw [a h1]
      have : j = 0 := by omega
      subst this; rfl
    · obtain ⟨b1, b2⟩ := b (by omega)
      have hf := (spl_ok hr hok (by omega)).1
      rw [b1] at hi
      rw [b2, cut_bit _ (hok _ (List.getElem_mem h0)).1 _ _ (by omega), if_pos (by omega)]
      exact rise_bits hr hok h0 j hj i (by omega)
  refine ⟨hge, hle, hjo, hag, fun hg => join_good h0 hr hok hg, fun f d hd hdn => ?_⟩
  refine trJ_join f d B h0 hd hr hok (fun x hx i hi => ?_)
  rw [hag x hx i (by omega), hag _ (List.getElem_mem h0) i (by omega)]
theorem com_le_ne {a b : List UInt8} (ha : a.length = 32) (hb : b.length = 32) {n : Nat} (h : bitL a n ≠ bitL b n) : comL a b ≤ n := by
  rcases Nat.lt_or_ge n (comL a b) with h1 | h1
  · exact absurd ((com_bits a b (by omega)).2.1 n h1) h
  · exact h1
theorem blk_join {ls : List (List UInt8)} {l : List Lef} {q : Itm × List Lef} (h : BlkL ls l q) (hok : ∀ x ∈ l, x.ok) : JoinB q.1 (q.2.map leafI) := by
  have h0 : 0 < (q.2.map leafI).length := by rw [List.length_map]; exact List.length_pos_iff.2 h.ne
  have := join_B h0 h.rise (fun x hx => by
    obtain ⟨y, hy, rfl⟩ := List.mem_map.1 hx
    exact leafI_ok y (hok y (h.sub y hy))) (fun x hx => by
    obtain ⟨y, hy, rfl⟩ := List.mem_map.1 hx
    exact (show (0 : Int) ≤ 256 ∧ (256 : Int) ≤ 256 from ⟨by decide, by decide⟩))
  rw [List.length_map] at this
  rw [h.eq]; exact this
/-- Of a block all of whose leaves have some bits in common, one further. -/
theorem blk_deep {ls : List (List UInt8)} {l : List Lef} {q : Itm × List Lef} (h : BlkL ls l q) (hok : ∀ x ∈ l, x.ok) {n : Nat} (hn : n < 256) (hb : ∀ x ∈ l, ∀ y ∈ l, ∀ i, i ≤ n → bitL x.l i = bitL y.l i) : ((n : Nat) : Int) < q.1.n ∧ ∀ y ∈ l, bitL q.1.l n = bitL y.l n := by
  have h0 : 0 < (q.2.map leafI).length := by rw [List.length_map]; exact List.length_pos_iff.2 h.ne
  have hokB : ∀ x ∈ q.2.map leafI, x.ok := fun x hx => by
    obtain ⟨y, hy, rfl⟩ := List.mem_map.1 hx
    exact leafI_ok y (hok y (h.sub y hy))
  have hlt : ((n : Nat) : Int) < q.1.n := by
    obtain ⟨a, b⟩ := join_pfx _ (q.2.map leafI) h0 (Nat.le_refl _) h.rise hokB
    rw [List.length_map] at a b
    rw [h.eq]
    by_cases h1 : q.2.length = 1
    · rw [a h1, List.getElem_map]; show ((n : Nat) : Int) < 256; omega
    · have h2 : 2 ≤ q.2.length := by have := List.length_pos_iff.2 h.ne; omega
      rw [(b h2).1]
      have := frk_gt hokB h0 hn (fun x hx i hi => by
        obtain ⟨y, hy, rfl⟩ := List.mem_map.1 hx
        rw [List.getElem_map]
        exact hb y (h.sub y hy) _ (h.sub _ (List.getElem_mem _)) i hi)
      omega
  refine ⟨hlt, fun y hy => ?_⟩
  obtain ⟨z, zs, hz⟩ := List.exists_cons_of_ne_nil h.ne
  have hzm : z ∈ q.2 := by rw [hz]; exact List.mem_cons_self ..
  rw [← (blk_join h hok).agree (leafI z) (List.mem_map_of_mem hzm) n hlt]
  exact hb z (h.sub z hzm) y hy n (Nat.le_refl _)
theorem BlkL.up {ls : List (List UInt8)} {l l' : List Lef} {q : Itm × List Lef} (h : BlkL ls l q) (hs : ∀ x ∈ l, x ∈ l') : BlkL ls l' q := ⟨h.ne, fun y hy => hs y (h.sub y hy), h.rise, h.eq, h.out⟩
theorem cov_all (ls : List (List UInt8)) (hls : ∀ x ∈ ls, x.length = 32) : ∀ (k : Nat) (l : List Lef), l.length ≤ k → RiseI (l.map leafI) → (∀ x ∈ l, x.ok) → (∀ x ∈ l, goodI (leafI x) = true) →
    (∀ q ∈ openB k ls l, BlkL ls l q) ∧ (openB k ls l).Pairwise SepB ∧ (openB k ls l).flatMap (·.2) = l.filter (fun x => !(ls.contains x.l)) ∧ (openF k ls l).2 = l.filter (fun x => ls.contains x.l) := by
  intro k
  induction k with
  | zero =>
    intro l hk _ _ _
    have hn : l = [] := List.length_eq_zero_iff.1 (by omega)
    subst hn
    exact ⟨fun q hq => (by cases hq), List.Pairwise.nil, rfl, rfl⟩
  | succ k ih =>
    intro l hk hr hok hg
    unfold openB openF
    by_cases hn : l = []
    · subst hn
      rw [if_pos rfl, if_pos rfl]
      exact ⟨fun q hq => (by cases hq), List.Pairwise.nil, rfl, rfl⟩
    rw [if_neg hn, if_neg hn]
    have hp : 0 < l.length := List.length_pos_iff.2 hn
    have hml : (l.map leafI).length = l.length := List.length_map ..
    have hok2 : ∀ x ∈ l.map leafI, x.ok := fun x hx => by
      obtain ⟨y, hy, rfl⟩ := List.mem_map.1 hx
      exact leafI_ok y (hok y hy)
    have hg2 : ∀ x ∈ l.map leafI, goodI x = true := fun x hx => by
      obtain ⟨y, hy, rfl⟩ := List.mem_map.1 hx
      exact hg y hy
    by_cases hh : ls.any (hasP (joinF l.length (l.map leafI)).p) = false
    · rw [if_pos hh, if_pos hh]
      have hj := join_B (B := l.map leafI) (by omega) hr hok2 (fun x hx => by
        obtain ⟨y, hy, rfl⟩ := List.mem_map.1 hx
        exact (show (0 : Int) ≤ 256 ∧ (256 : Int) ≤ 256 from ⟨by decide, by decide⟩))
      rw [hml] at hj
      have hgp := hj.good hg2
      have hout : ∀ x ∈ ls, ((comL (joinF l.length (l.map leafI)).l x : Nat) : Int) < (joinF l.length (l.map leafI)).n := fun x hx => by
        have h1 := List.any_eq_false.1 hh x hx
        unfold hasP at h1
        rw [hgp, Bool.true_and] at h1
        have h1 : ¬ ((joinF l.length (l.map leafI)).n ≤ ((comL (joinF l.length (l.map leafI)).l x : Nat) : Int)) := fun h => h1 (decide_eq_true h)
        omega
      have hno : ∀ y ∈ l, ls.contains y.l = false := fun y hy => by
        rcases hb : ls.contains y.l with _ | _
        · rfl
        · have hm : y.l ∈ ls := List.contains_iff_mem.1 hb
          have h1 := hout _ hm
          have h2 := (com_ge hj.ok.1 (hok y hy).1 (n := (joinF l.length (l.map leafI)).n.toNat) (by have := hj.le; omega)).2 (fun i hi => (hj.agree (leafI y) (List.mem_map_of_mem hy) i (by omega)).symm)
          omega
      refine ⟨fun q hq => ?_, List.pairwise_singleton _ _, ?_, ?_⟩
      · rw [List.mem_singleton.1 hq]
        exact ⟨hn, fun y hy => hy, hr, rfl, hout⟩
      · rw [List.flatMap_cons, List.flatMap_nil, List.append_nil]
        exact (List.filter_eq_self.2 (fun y hy => by rw [hno y hy]; rfl)).symm
      · exact (List.filter_eq_nil_iff.2 (fun y hy => by rw [hno y hy]; decide)).symm
    rw [if_neg hh, if_neg hh]
    by_cases h1 : l.length = 1
    · rw [if_pos h1, if_pos h1]
      obtain ⟨y, rfl⟩ := List.length_eq_one_iff.1 h1
      have hy : ls.contains y.l = true := by
        have h2 : ls.any (hasP (joinF [y].length ([y].map leafI)).p) = true := by revert hh; cases ls.any _ <;> simp
        obtain ⟨x, hx, h3⟩ := List.any_eq_true.1 h2
        have hjy : joinF [y].length ([y].map leafI) = leafI y := rfl
        rw [hjy] at h3
        unfold hasP at h3
        simp only [Bool.and_eq_true, decide_eq_true_eq] at h3
        have h4 : (256 : Int) ≤ ((comL y.l x : Nat) : Int) := h3.2
        have hyl := (hok y (List.mem_cons_self ..)).1
        have hxl := hls x hx
        have h5 := (com_bits y.l x (by omega)).2.2.2 (by have := comL_256 (b := x) hyl; omega)
        rw [h5]
        exact List.contains_iff_mem.2 hx
      refine ⟨fun q hq => (by cases hq), List.Pairwise.nil, ?_, ?_⟩
      · show [] = List.filter (fun x : Lef => !(ls.contains x.l)) [y]
        simp only [List.filter, hy, Bool.not_true]
      · show [y] = List.filter (fun x : Lef => ls.contains x.l) [y]
        simp only [List.filter, hy]
    rw [if_neg h1, if_neg h1]
    obtain ⟨c1, c2, c3, c4⟩ := spl_ok hr hok2 (by omega)
    rw [hml] at c3
    obtain ⟨a1, a2, a3, a4⟩ := ih (l.take (splI (l.map leafI))) (by rw [List.length_take]; omega) (by rw [List.map_take]; exact hr.sublist (List.take_sublist ..)) (fun x hx => hok x (List.mem_of_mem_take hx)) (fun x hx => hg x (List.mem_of_mem_take hx))
    obtain ⟨b1, b2, b3, b4⟩ := ih (l.drop (splI (l.map leafI))) (by rw [List.length_drop]; omega) (by rw [List.map_drop]; exact hr.sublist (List.drop_sublist ..)) (fun x hx => hok x (List.mem_of_mem_drop hx)) (fun x hx => hg x (List.mem_of_mem_drop hx))
    have bA : ∀ x ∈ l.take (splI (l.map leafI)), ∀ i, i < frkI (l.map leafI) → bitL x.l i = bitL (l[0]'hp).l i := fun x hx i hi => by
      obtain ⟨j, hj, he⟩ := List.getElem_of_mem (List.mem_of_mem_take hx)
      have := rise_bits hr hok2 (by omega) j (by omega) i hi
      rw [List.getElem_map, List.getElem_map, he] at this
      exact this
    have bB : ∀ x ∈ l.drop (splI (l.map leafI)), ∀ i, i < frkI (l.map leafI) → bitL x.l i = bitL (l[0]'hp).l i := fun x hx i hi => by
      obtain ⟨j, hj, he⟩ := List.getElem_of_mem (List.mem_of_mem_drop hx)
      have := rise_bits hr hok2 (by omega) j (by omega) i hi
      rw [List.getElem_map, List.getElem_map, he] at this
      exact this
    have zA : ∀ x ∈ l.take (splI (l.map leafI)), bitL x.l (frkI (l.map leafI)) = 0 := fun x hx => by
      obtain ⟨j, hj, he⟩ := List.getElem_of_mem hx
      rw [List.length_take] at hj
      rw [List.getElem_take] at he
      have := spl_lo (l := l.map leafI) j (by omega) (by omega)
      rw [List.getElem_map, he] at this
      exact this
    have zB : ∀ x ∈ l.drop (splI (l.map leafI)), bitL x.l (frkI (l.map leafI)) = 1 := fun x hx => by
      obtain ⟨j, hj, he⟩ := List.getElem_of_mem hx
      rw [List.length_drop] at hj
      rw [List.getElem_drop] at he
      have := spl_hi hr hok2 (by omega) (splI (l.map leafI) + j) (by omega) (by omega)
      rw [List.getElem_map, he] at this
      exact this
    have oA : ∀ x ∈ l.take (splI (l.map leafI)), x.ok := fun x hx => hok x (List.mem_of_mem_take hx)
    have oB : ∀ x ∈ l.drop (splI (l.map leafI)), x.ok := fun x hx => hok x (List.mem_of_mem_drop hx)
    have hsub : l.take (splI (l.map leafI)) ++ l.drop (splI (l.map leafI)) = l := List.take_append_drop ..
    refine ⟨fun q hq => ?_, List.pairwise_append.2 ⟨a2, b2, fun a ha b hb => ?_⟩, ?_, ?_⟩
    · rcases List.mem_append.1 hq with h | h
      · exact (a1 q h).up (fun x hx => List.mem_of_mem_take hx)
      · exact (b1 q h).up (fun x hx => List.mem_of_mem_drop hx)
    · have ka := a1 a ha
      have kb := b1 b hb
      obtain ⟨na, va⟩ := blk_deep ka oA c1 (fun x hx y hy i hi => by
        rcases Nat.lt_or_ge i (frkI (l.map leafI)) with h3 | h3
        · rw [bA x hx i h3, bA y hy i h3]
        · have : i = frkI (l.map leafI) := by omega
          subst this; rw [zA x hx, zA y hy])
      obtain ⟨nb, vb⟩ := blk_deep kb oB c1 (fun x hx y hy i hi => by
        rcases Nat.lt_or_ge i (frkI (l.map leafI)) with h3 | h3
        · rw [bB x hx i h3, bB y hy i h3]
        · have : i = frkI (l.map leafI) := by omega
          subst this; rw [zB x hx, zB y hy])
      obtain ⟨ya, hya⟩ := List.exists_mem_of_ne_nil _ ka.ne
      obtain ⟨yb, hyb⟩ := List.exists_mem_of_ne_nil _ kb.ne
      have ea : bitL a.1.l (frkI (l.map leafI)) = 0 := by rw [va ya (ka.sub ya hya), zA ya (ka.sub ya hya)]
      have eb : bitL b.1.l (frkI (l.map leafI)) = 1 := by rw [vb yb (kb.sub yb hyb), zB yb (kb.sub yb hyb)]
      have lA := (blk_join ka oA).ok.1
      have lB := (blk_join kb oB).ok.1
      have hab := com_le_ne lA lB (n := frkI (l.map leafI)) (by rw [ea, eb]; decide)
      have hlow : ∀ i, i < frkI (l.map leafI) → bitL a.1.l i = bitL b.1.l i := fun i hi => by
        rw [← (blk_join ka oA).agree (leafI ya) (List.mem_map_of_mem hya) i (by omega), ← (blk_join kb oB).agree (leafI yb) (List.mem_map_of_mem hyb) i (by omega)]
        show bitL ya.l i = bitL yb.l i
        rw [bA ya (ka.sub ya hya) i hi, bB yb (kb.sub yb hyb) i hi]
      have hcom := com_is lA lB c1 hlow (by rw [ea, eb]; decide)
      refine ⟨by omega, by omega, fun y hy => ?_, fun y hy => ?_, lt_cmp lA lB (by rw [hcom]; exact c1) (by rw [hcom]; exact ea)⟩
      · have := com_le_ne lA (oB y (kb.sub y hy)).1 (n := frkI (l.map leafI)) (by rw [ea, zB y (kb.sub y hy)]; decide)
        omega
      · have := com_le_ne lB (oA y (ka.sub y hy)).1 (n := frkI (l.map leafI)) (by rw [eb, zA y (ka.sub y hy)]; decide)
        omega
    · rw [List.flatMap_append, a3, b3, ← List.filter_append, hsub]
    · show (openF k ls (l.take _)).2 ++ (openF k ls (l.drop _)).2 = _
      rw [a4, b4, ← List.filter_append, hsub]
theorem trJ_blocks : ∀ (r : List (Itm × List Lef)) (X : List Itm), (∀ q ∈ r, q.2 ≠ [] ∧ JoinB q.1 (q.2.map leafI)) → r.Pairwise SepB → (∀ q ∈ r, ∀ x ∈ X, x.ok ∧ ((comL q.1.l x.l : Nat) : Int) < q.1.n) → (∀ q ∈ r, ∀ y ∈ q.2, y.ok) → trJ 256 0 (r.map (·.1) ++ X) = trJ 256 0 ((r.flatMap (·.2)).map leafI ++ X)
  | [], X, _, _, _, _ => rfl
  | q :: r, X, hj, hs, hX, hok => by
    obtain ⟨hne, hJ⟩ := hj q (List.mem_cons_self ..)
    obtain ⟨s1, s2⟩ := List.pairwise_cons.1 hs
    have hd : ∀ x : Itm, x.ok → ((comL q.1.l x.l : Nat) : Int) < q.1.n → ∃ i : Nat, (i : Int) < q.1.n ∧ bitL x.l i ≠ bitL q.1.l i := fun x hx h => by
      refine ⟨_, h, fun he => ?_⟩
      have hle := hJ.le
      exact (com_bits q.1.l x.l (by rw [hJ.ok.1, hx.1])).2.2.1 (by rw [hJ.ok.1]; omega) he.symm
    have h1 : trJ 256 0 (q.1 :: (r.map (·.1) ++ X)) = trJ 256 0 (q.2.map leafI ++ (r.map (·.1) ++ X)) := by
      refine trJ_coll 256 0 q.1 (q.2.map leafI) _ rfl hJ.le (fun h => hne (List.map_eq_nil_iff.1 h)) hJ.agree hJ.tr (fun x hx => ?_) (fun x _ i hi => absurd hi (Nat.not_lt_zero _)) ?_
      · rcases List.mem_append.1 hx with h | h
        · obtain ⟨q', hq', rfl⟩ := List.mem_map.1 h
          exact hd _ (hj q' (List.mem_cons_of_mem _ hq')).2.ok (s1 q' hq').1
        · obtain ⟨o, c⟩ := hX q (List.mem_cons_self ..) x h
          exact hd x o c
      · exact hJ.ge
    have h2 : (q.2.map leafI ++ (r.map (·.1) ++ X)).Perm (r.map (·.1) ++ (q.2.map leafI ++ X)) := by
      rw [← List.append_assoc, ← List.append_assoc]
      exact List.perm_append_comm.append_right X
    have h3 := trJ_blocks r (q.2.map leafI ++ X) (fun q' hq' => hj q' (List.mem_cons_of_mem _ hq')) s2 (fun q' hq' x hx => by
      rcases List.mem_append.1 hx with h | h
      · obtain ⟨y, hy, rfl⟩ := List.mem_map.1 h
        exact ⟨leafI_ok y (hok q (List.mem_cons_self ..) y hy), (s1 q' hq').2.2.2.1 y hy⟩
      · exact hX q' (List.mem_cons_of_mem _ hq') x h) (fun q' hq' => hok q' (List.mem_cons_of_mem _ hq'))
    have h4 : ((r.flatMap (·.2)).map leafI ++ (q.2.map leafI ++ X)).Perm (((q :: r).flatMap (·.2)).map leafI ++ X) := by
      rw [List.flatMap_cons, List.map_append, ← List.append_assoc]
      exact List.perm_append_comm.append_right X
    rw [List.map_cons, List.cons_append, h1, trJ_perm _ _ _ _ h2, h3, trJ_perm _ _ _ _ h4]
end Go.Proofs.YtcmgpkibjdbonaaGreat
set_option maxHeartbeats 4000000
namespace Go.Proofs.YtcmgpkibjdbonaaGreat
open Go Go.RowKit
theorem leaf_good {x : Lef} (hok : x.ok) (h0 : 0 ≤ x.t) (h1 : x.t ≤ 1073741824) : goodI (leafI x) = true := by
  unfold goodI
  have hg : goodP ⟨(leafI x).n, (leafI x).l⟩ = true := by
    show goodP ⟨256, x.l⟩ = true
    unfold goodP
    show (decide ((0 : Int) ≤ 256) && (decide ((256 : Int) ≤ 256) && (cutL x.l 256 == x.l))) = true
    rw [cut256 x.l hok.1, beq_self_eq_true]; rfl
  rw [hg]
  show (true && (decide (0 ≤ x.t) && decide (x.t ≤ 1073741824))) = true
  rw [decide_eq_true h0, decide_eq_true h1]; rfl
theorem good_t {x : Itm} (h : goodI x = true) : 0 ≤ x.t ∧ x.t ≤ 1073741824 := by
  unfold goodI at h
  simp only [Bool.and_eq_true, decide_eq_true_eq] at h
  exact h.2
theorem leaf_anti {x y : Lef} (hx : x.ok) (hy : y.ok) (h : x.l ≠ y.l) : Anti (leafI x) (leafI y) := by
  have h1 : comL x.l y.l < 256 := by
    rcases Nat.lt_or_ge (comL x.l y.l) 256 with h2 | h2
    · exact h2
    · exact absurd ((com_bits x.l y.l (by rw [hx.1, hy.1])).2.2.2 (by have := comL_256 (b := y.l) hx.1; rw [hx.1]; omega)) h
  exact ⟨by show ((comL x.l y.l : Nat) : Int) < 256; omega, by show ((comL x.l y.l : Nat) : Int) < 256; omega⟩
theorem joinF_t : ∀ (k : Nat) (l : List Itm), l ≠ [] → l.length ≤ k → RiseI l → (∀ x ∈ l, x.ok) → (∀ x ∈ l, 0 ≤ x.t ∧ x.t ≤ 1073741824) → 0 ≤ (joinF k l).t ∧ (joinF k l).t ≤ 1073741824
  | 0, l, hn, hl, _, _, _ => absurd (List.length_eq_zero_iff.1 (by omega)) hn
  | k + 1, l, hn, hl, hr, hok, ht => by
    have hp : 0 < l.length := List.length_pos_iff.2 hn
    unfold joinF
    by_cases h1 : l.length = 1
    · rw [if_pos h1, headD_get hp]; exact ht _ (List.getElem_mem _)
    rw [if_neg h1]
    obtain ⟨_, s1, s2, _⟩ := spl_ok hr hok (by omega)
    have a := joinF_t k _ (take_ne s1 s2) (by rw [List.length_take]; omega) (hr.sublist (List.take_sublist ..)) (fun x hx => hok x (List.mem_of_mem_take hx)) (fun x hx => ht x (List.mem_of_mem_take hx))
    have b := joinF_t k _ (drop_ne s2) (by rw [List.length_drop]; omega) (hr.sublist (List.drop_sublist ..)) (fun x hx => hok x (List.mem_of_mem_drop hx)) (fun x hx => ht x (List.mem_of_mem_drop hx))
    generalize joinF k (l.take (splI l)) = u at a ⊢
    generalize joinF k (l.drop (splI l)) = v at b ⊢
    have e : (innI u v).t = if v.t > u.t then v.t else u.t := rfl
    rw [e]
    split
    · exact b
    · exact a
theorem rise_ne {l : List Lef} (hr : RiseI (l.map leafI)) : l.Pairwise (fun a b => a.l ≠ b.l) := by
  have h : (l.map leafI).Pairwise (fun a b => cmpS a.l b.l < 0) := hr
  rw [List.pairwise_map] at h
  exact h.imp (fun {a b} hab he => by
    have hab : cmpS a.l b.l < 0 := hab
    rw [he, cmpS_eq] at hab; omega)
def notIn (ls : List (List UInt8)) (x : Lef) : Bool := !(ls.contains x.l)
theorem cover_top {S F : List Lef} {ls : List (List UInt8)} (hls : ∀ x ∈ ls, x.length = 32) (hc : chkI (S.map leafI) = 0) (hok : ∀ x ∈ S, x.ok) (hF : ∀ x ∈ F, x.ok ∧ 0 ≤ x.t ∧ x.t ≤ 1073741824 ∧ x.l ∈ ls) (hFd : F.Pairwise (fun a b => a.l ≠ b.l)) (hlen : S.length + F.length ≤ 2000) :
    chkI (srtI ((openF S.length ls S).1 ++ F.map leafI)) = 0 ∧ chkI (srtI ((S.filter (notIn ls) ++ F).map leafI)) = 0 ∧ topS (srtI ((openF S.length ls S).1 ++ F.map leafI)) = topS (srtI ((S.filter (notIn ls) ++ F).map leafI)) ∧ (openF S.length ls S).2 = S.filter (fun x => ls.contains x.l) ∧ (∀ x ∈ (openF S.length ls S).1, x.ok) ∧ RiseI (openF S.length ls S).1 := by
  obtain ⟨-, hr, hg⟩ := chkI_rise hc
  have hg1 : ∀ x ∈ S, goodI (leafI x) = true := fun x hx => hg _ (List.mem_map_of_mem hx)
  obtain ⟨c1, c2, c3, c4⟩ := cov_all ls hls S.length S (Nat.le_refl _) hr hok hg1
  have hlP := (openF_len S.length ls S).1
  rw [← openB_fst] at hlP ⊢
  generalize openB S.length ls S = r at c1 c2 c3 hlP ⊢
  have hJ : ∀ q ∈ r, q.2 ≠ [] ∧ JoinB q.1 (q.2.map leafI) := fun q hq => ⟨(c1 q hq).ne, blk_join (c1 q hq) hok⟩
  have c3 : r.flatMap (·.2) = S.filter (notIn ls) := c3
  have hU : ∀ x ∈ S.filter (notIn ls), x ∈ S ∧ x.l ∉ ls := fun x hx => ⟨(List.mem_filter.1 hx).1, fun hm => by
    have h2 := (List.mem_filter.1 hx).2
    unfold notIn at h2
    rw [List.contains_iff_mem.2 hm] at h2; cases h2⟩
  have okP : ∀ x ∈ r.map (·.1), x.ok := fun x hx => by
    obtain ⟨q, hq, rfl⟩ := List.mem_map.1 hx
    exact (hJ q hq).2.ok
  have okF : ∀ x ∈ F.map leafI, x.ok := fun x hx => by
    obtain ⟨y, hy, rfl⟩ := List.mem_map.1 hx
    exact leafI_ok y (hF y hy).1
  have ok1 : ∀ x ∈ r.map (·.1) ++ F.map leafI, x.ok := fun x hx => by
    rcases List.mem_append.1 hx with h | h
    · exact okP x h
    · exact okF x h
  have ok2 : ∀ x ∈ (S.filter (notIn ls) ++ F).map leafI, x.ok := fun x hx => by
    obtain ⟨y, hy, rfl⟩ := List.mem_map.1 hx
    rcases List.mem_append.1 hy with h | h
    · exact leafI_ok y (hok y (hU y h).1)
    · exact leafI_ok y (hF y h).1
  have gF : ∀ x ∈ F.map leafI, goodI x = true := fun x hx => by
    obtain ⟨y, hy, rfl⟩ := List.mem_map.1 hx
    exact leaf_good (hF y hy).1 (hF y hy).2.1 (hF y hy).2.2.1
  have gP : ∀ x ∈ r.map (·.1), goodI x = true := fun x hx => by
    obtain ⟨q, hq, rfl⟩ := List.mem_map.1 hx
    have hgB : ∀ b ∈ q.2.map leafI, goodI b = true := fun b hb => by
      obtain ⟨y, hy, rfl⟩ := List.mem_map.1 hb
      exact hg1 y ((c1 q hq).sub y hy)
    have hgp := (hJ q hq).2.good hgB
    have ht := joinF_t q.2.length (q.2.map leafI) (fun h => (c1 q hq).ne (List.map_eq_nil_iff.1 h)) (by rw [List.length_map]; exact Nat.le_refl _) (c1 q hq).rise (fun x hx => by
      obtain ⟨y, hy, rfl⟩ := List.mem_map.1 hx
      exact leafI_ok y (hok y ((c1 q hq).sub y hy))) (fun x hx => good_t (hgB x hx))
    rw [← (c1 q hq).eq] at ht
    unfold goodI
    rw [show goodP ⟨q.1.n, q.1.l⟩ = true from hgp, decide_eq_true ht.1, decide_eq_true ht.2]; rfl
  have a1 : (r.map (·.1) ++ F.map leafI).Pairwise Anti := by
    refine List.pairwise_append.2 ⟨?_, ?_, fun a ha b hb => ?_⟩
    · rw [List.pairwise_map]; exact c2.imp (fun h => ⟨h.1, h.2.1⟩)
    · rw [List.pairwise_map]
      exact List.Pairwise.imp_of_mem (fun {a b} ha hb h => leaf_anti (hF a ha).1 (hF b hb).1 h) hFd
    · obtain ⟨q, hq, rfl⟩ := List.mem_map.1 ha
      obtain ⟨y, hy, rfl⟩ := List.mem_map.1 hb
      have h1 := (c1 q hq).out y.l (hF y hy).2.2.2
      have h2 := (hJ q hq).2.le
      exact ⟨h1, by show ((comL q.1.l y.l : Nat) : Int) < 256; omega⟩
  have hUF : (S.filter (notIn ls) ++ F).Pairwise (fun a b => a.l ≠ b.l) := by
    refine List.pairwise_append.2 ⟨(rise_ne hr).filter _, hFd, fun a ha b hb he => ?_⟩
    exact (hU a ha).2 (he ▸ (hF b hb).2.2.2)
  have a2 : ((S.filter (notIn ls) ++ F).map leafI).Pairwise Anti := by
    rw [List.pairwise_map]
    refine List.Pairwise.imp_of_mem (fun {a b} ha hb h => leaf_anti ?_ ?_ h) hUF
    · rcases List.mem_append.1 ha with h | h
      · exact hok a (hU a h).1
      · exact (hF a h).1
    · rcases List.mem_append.1 hb with h | h
      · exact hok b (hU b h).1
      · exact (hF b h).1
  have e1 := chk_anti (l := r.map (·.1) ++ F.map leafI) (by rw [List.length_append, List.length_map (f := leafI)]; omega) (fun x hx => by
    rcases List.mem_append.1 hx with h | h
    · exact gP x h
    · exact gF x h) ok1 a1
  have e2 := chk_anti (l := (S.filter (notIn ls) ++ F).map leafI) (by
    have := List.length_filter_le (notIn ls) S
    rw [List.length_map, List.length_append]; omega) (fun x hx => by
    obtain ⟨y, hy, rfl⟩ := List.mem_map.1 hx
    rcases List.mem_append.1 hy with h | h
    · exact hg1 y (hU y h).1
    · exact gF _ (List.mem_map_of_mem h)) ok2 a2
  refine ⟨e1, e2, ?_, c4, okP, List.pairwise_map.2 (c2.imp (fun h => h.2.2.2.2))⟩
  rw [top_trJ ok1 e1, top_trJ ok2 e2]
  have ht := trJ_blocks r (F.map leafI) hJ c2 (fun q hq x hx => by
    obtain ⟨y, hy, rfl⟩ := List.mem_map.1 hx
    exact ⟨leafI_ok y (hF y hy).1, (c1 q hq).out y.l (hF y hy).2.2.2⟩) (fun q hq y hy => hok y ((c1 q hq).sub y hy))
  rw [c3, ← List.map_append] at ht
  rw [ht]
  have hnil : (r.map (·.1) ++ F.map leafI = []) ↔ ((S.filter (notIn ls) ++ F).map leafI = []) := by
    rw [List.map_append, ← c3]
    cases r with
    | nil => rfl
    | cons q r =>
      constructor
      · intro h; cases h
      · intro h
        exfalso
        have h1 := (List.append_eq_nil_iff.1 h).1
        rw [List.flatMap_cons, List.map_append] at h1
        exact (c1 q (List.mem_cons_self ..)).ne (List.map_eq_nil_iff.1 (List.append_eq_nil_iff.1 h1).1)
  by_cases hn : r.map (·.1) ++ F.map leafI = []
  · rw [if_pos hn, if_pos (hnil.1 hn)]
  · rw [if_neg hn, if_neg (fun h => hn (hnil.2 h))]
/-- What is sorted of lists that are one but for their order. -/
theorem srt_eq {a b : List Itm} (h : a.Perm b) (hc : chkI (srtI b) = 0) : srtI a = srtI b := srt_perm h (chkI_rise hc).2.1
theorem srt_id {a : List Itm} (h : RiseI a) : srtI a = a := sortS_id woI (h.imp (fun {x y} hxy => by
  show decide (cmpS y.l x.l < 0) = false
  exact decide_eq_false (fun h2 => by
    have := cmp_trans hxy h2
    rw [cmpS_eq] at this; omega)))
end Go.Proofs.YtcmgpkibjdbonaaGreat
set_option maxHeartbeats 16000000
set_option maxRecDepth 100000
namespace Go.Proofs.YtcmgpkibjdbonaaGreat
open Go Go.RowKit
/-- How many leaves of rising ones have bit n at 0. -/
def sidL (n : Nat) (l : List Lef) : Nat := if l.any (fun x => bitL x.l n == 1) = true then l.findIdx (fun x => bitL x.l n == 1) else l.length
/-- The two parts of a tree. -/
def parA (I : List Itm) : Itm := joinF (I.length - 1) (I.take (splI I))
def parB (I : List Itm) : Itm := joinF (I.length - 1) (I.drop (splI I))
theorem join_par {I : List Itm} (h2 : 2 ≤ I.length) : joinF I.length I = innI (parA I) (parB I) := by
  obtain ⟨k, hk⟩ : ∃ k, I.length = k + 1 := ⟨I.length - 1, by omega⟩
  unfold parA parB
  rw [hk]
  show (if I.length = 1 then _ else _) = _
  rw [if_neg (by omega)]; rfl
theorem par_ok {I : List Itm} (hr : RiseI I) (hok : ∀ x ∈ I, x.ok) (h2 : 2 ≤ I.length) : (parA I).ok ∧ (parB I).ok := by
  obtain ⟨_, s1, s2, _⟩ := spl_ok hr hok h2
  exact ⟨joinF_ok _ _ (take_ne s1 s2) (by rw [List.length_take]; omega) (hr.sublist (List.take_sublist ..)) (fun x hx => hok x (List.mem_of_mem_take hx)),
    joinF_ok _ _ (drop_ne s2) (by rw [List.length_drop]; omega) (hr.sublist (List.drop_sublist ..)) (fun x hx => hok x (List.mem_of_mem_drop hx))⟩
end Go.Proofs.YtcmgpkibjdbonaaGreat
set_option maxHeartbeats 4000000
namespace Go.Proofs.YtcmgpkibjdbonaaGreat
open Go Go.RowKit
def TK.isIface : TK → Bool
  | .iface => true
  | _ => false
section
variable {m : OM} {P : Program} {T : List (Nat × TI)} {C : Ctx} {ops : Array Oper} {l : List Oper} {K : St → Prop} {n : Nat} {sl : List (Nat × AV)} {hp : List (Nat × HO)} {d : Nat} {ty : Nat} {pos : String} {aft : Array Edge} {gd : Option (Nat × Bool)}
theorem not_iface {k : TK} {t sz by_ : Nat} {z : AV} (h : TOk P t ⟨k, sz, by_, z⟩) (hk : k.isIface = false) : ∃ dd, P.underlying t = some dd ∧ ∀ want, dd ≠ .interface want := by
  obtain ⟨dd, h1, h2⟩ := h.desc
  refine ⟨dd, h1, fun want he => ?_⟩
  subst he
  have h2 : TK.iface = k := h2
  subst h2; cases hk
theorem o_mkIface (hT : TTOk P T) (hw : gval ops ⟨n, sl, hp⟩ gd = gwant gd) {t : Nat} {x : Operand} {y : AV} {k : TK} {sz by_ : Nat} {z : AV} (hx : ev ⟨n, sl, hp⟩ x = y) (hv : y.isVal = true) (ht : tget T t = some ⟨k, sz, by_, z⟩) (hk : k.isIface = false) (hd : Nat.blt d n = true)
    (h : Ops m P C ops l ⟨n, (d, .ifc t y) :: sl, hp⟩ K) : Ops m P C ops (⟨some d, .makeInterface t x, ty, pos, aft, gd⟩ :: l) ⟨n, sl, hp⟩ K := by
  refine Ops.by (d := some d) hw none okc_none hd rfl (fun a w hs => ?_) h
  have E := ev_rep hs x
  rw [hx] at E
  obtain ⟨cs, h1, h2⟩ := repV_cells hv E
  refine ⟨.iface t (ofCells y cs), ⟨_, ⟨cs, rfl, h1⟩, rfl⟩, fun w' _ => ?_⟩
  obtain ⟨dd, hu, hn⟩ := not_iface (tget_ok hT ht) hk
  simp only [execOp, Instr.makeInterface, Sem.run_bind, run_underlying hu, Result.andThen_ok, h2]
  cases dd <;> first | rfl | exact absurd rfl (hn _)
theorem o_assertT (hT : TTOk P T) (hw : gval ops ⟨n, sl, hp⟩ gd = gwant gd) {xt t : Nat} {x : Operand} {y : AV} {k : TK} {sz by_ : Nat} {z : AV} (hx : ev ⟨n, sl, hp⟩ x = .ifc t y) (_hv : y.isVal = true) (ht : tget T t = some ⟨k, sz, by_, z⟩) (hk : k.isIface = false) (hd : Nat.blt d n = true)
    (h : Ops m P C ops l ⟨n, (d, .tup [y, .b true]) :: sl, hp⟩ K) : Ops m P C ops (⟨some d, .typeAssert x xt t true, ty, pos, aft, gd⟩ :: l) ⟨n, sl, hp⟩ K := by
  refine Ops.by (d := some d) hw none okc_none hd rfl (fun a w hs => ?_) h
  have E := ev_rep hs x
  rw [hx] at E
  obtain ⟨_, ⟨vs, rfl, h1⟩, h2⟩ := E
  have h2 : a.eval x = .iface t (ofCells y vs) := h2
  refine ⟨.tuple #[ofCells y vs, .bool true], ⟨[ofCells y vs, .bool true], rfl, rfl, fun i b u hb hu => ?_⟩, fun w' _ => ?_⟩
  · match i with
    | 0 => simp at hb hu; subst hb; subst hu; exact .inr ⟨vs, h1, rfl⟩
    | 1 => simp at hb hu; subst hb; subst hu; exact .inr ⟨_, rfl, rfl⟩
    | j + 2 => simp at hb
  obtain ⟨dd, hu, hn⟩ := not_iface (tget_ok hT ht) hk
  simp only [execOp, Instr.typeAssert, Sem.run_bind, run_underlying hu, Result.andThen_ok, h2]
  cases dd <;> first | (simp [Sem.run_pure]; done) | (simp; rfl) | exact absurd rfl (hn _)
theorem CLe.ifc {fr : Fr} {t : Nat} {a b : AV} (h : CLe fr a b) : CLe fr (.ifc t a) (.ifc t b) := ⟨fun w F cs hf h1 => by
  simp only [repC] at h1 ⊢
  obtain ⟨vs, rfl, h3⟩ := h1
  have h4 := h.1 w F _ hf h3
  refine ⟨vs, ?_, h4⟩
  unfold ofCells
  rw [h.2], rfl⟩
end
end Go.Proofs.YtcmgpkibjdbonaaGreat
set_option maxHeartbeats 8000000
set_option maxRecDepth 100000
namespace Go.Proofs.YtcmgpkibjdbonaaGreat
open Go Go.RowKit
def leafN (x : Lef) : AV := .ifc 46 x.A
def innN (x y : Itm) : AV := .ifc 52 (.agg [x.A, y.A])
def chkLf (x : Lef) : Int := if x.t < 0 ∨ 1073741824 < x.t then 1 else 0
def chkN (x y : Itm) : Int := if goodI x = true ∧ goodI y = true then (if x.n ≤ (comL x.l y.l : Nat) ∨ y.n ≤ (comL x.l y.l : Nat) ∨ 0 < cmpS x.l y.l then 3 else 0) else 1
theorem ncheckL_spec (x : Lef) : Spec Tryz.prog 82 [leafN x] [] (fun v os => v = .i .i64 (chkLf x) ∧ os = []) := by
  obtain ⟨l, u, t⟩ := x
  show Spec Tryz.prog 82 [.ifc 46 (.agg [labA l, labA u, .i .i64 t])] [] (fun v os => v = .i .i64 (if t < 0 ∨ 1073741824 < t then 1 else 0) ∧ os = [])
  refine spec_of TtOk [] Tryz.func82 rfl Tryz.ntmps82 (by kernel_rfl) rfl rfl (fun C => ?_) rfl
  by_cases h : t < 0 ∨ 1073741824 < t
  · rw [if_pos h]
    repeat' (first | refine Awp.seq ?_ | refine Awp.block ?_ | refine Awp.region ?_ | (refine Ops.nil ?_; show Awp _ _ _ _ _) | (refine Awp.ret ?_; show endK _ _ _ _ _) | refine o_noF rfl rfl rfl ?_ | (refine o_calm rfl TtOk rfl rfl rfl ?_ (fun _ => ?_); exact nd) | refine o_alloc (d := 3) rfl TtOk rfl rfl rfl (fun b3 => ?_) | refine o_store TtOk rfl rfl rfl rfl rfl rfl rfl ⟨rfl, rfl⟩ rfl rfl rfl rfl rfl ?_ | (fail_if_success (refine o_isLit rfl (by first | exact .inl rfl | exact .inr rfl) ?_)); (refine o_splitP rfl rfl (fun hc => ?_) (fun hc => ?_) <;> try (exfalso; omega)) | refine a_condT rfl ?_ | (refine a_condP rfl (fun hc => ?_) (fun hc => ?_)) <;> (try (exfalso; omega)) | (refine o_assertT TtOk rfl rfl rfl rfl rfl rfl ?_))
    all_goals exact end_tmp rfl rfl rfl [] [] (CLe.of_eq rfl) .nil ⟨rfl, rfl⟩ _ (.inl rfl)
  · rw [if_neg h]
    repeat' (first | refine Awp.seq ?_ | refine Awp.block ?_ | refine Awp.region ?_ | (refine Ops.nil ?_; show Awp _ _ _ _ _) | (refine Awp.skip ?_; show Awp _ _ _ _ _) | (refine Awp.ret ?_; show endK _ _ _ _ _) | (refine o_calm rfl TtOk rfl rfl rfl ?_ (fun _ => ?_); exact nd) | refine o_alloc (d := 3) rfl TtOk rfl rfl rfl (fun b3 => ?_) | refine o_store TtOk rfl rfl rfl rfl rfl rfl rfl ⟨rfl, rfl⟩ rfl rfl rfl rfl rfl ?_ | (fail_if_success (refine o_isLit rfl (by first | exact .inl rfl | exact .inr rfl) ?_)); (refine o_splitP rfl rfl (fun hc => ?_) (fun hc => ?_) <;> try (exfalso; omega)) | refine a_condT rfl ?_ | (refine a_condP rfl (fun hc => ?_) (fun hc => ?_)) <;> (try (exfalso; omega)) | (refine o_assertT TtOk rfl rfl rfl rfl rfl rfl ?_))
    all_goals exact end_tmp rfl rfl rfl [] [] (CLe.of_eq rfl) .nil ⟨rfl, rfl⟩ _ (.inl rfl)
def lef0 : Lef := ⟨List.replicate 32 0, List.replicate 32 0, 0⟩
def itm0 : Itm := ⟨0, List.replicate 32 0, List.replicate 32 0, 0⟩
def itmZ : AV := .agg [.agg [.i .i64 0, .arr 1 32 (List.replicate 32 (.i .u8 0))], .arr 1 32 (List.replicate 32 (.i .u8 0)), .i .i64 0]
end Go.Proofs.YtcmgpkibjdbonaaGreat
set_option maxHeartbeats 16000000
set_option maxRecDepth 100000
namespace Go.Proofs.YtcmgpkibjdbonaaGreat
open Go Go.RowKit
structure Prf where
  e : Int
  lf : Lef
  a : Itm
  b : Itm
  path : List Itm
def Prf.A (p : Prf) : AV := .agg [.i .i64 p.e, p.lf.A, .agg [p.a.A, p.b.A], .sl 66 (p.path.map Itm.A)]
def Prf.R (p : Prf) : AV := .agg [.i .i64 p.e, p.lf.A, p.a.R, p.b.R, .sl 66 (p.path.map Itm.R)]
structure Prf.ok (p : Prf) : Prop where
  lf : p.lf.ok
  a : p.a.ok
  b : p.b.ok
  path : ∀ x ∈ p.path, x.ok
def itmY : AV := .agg [.agg [.i .i64 0, .arr 1 32 (List.replicate 32 (.i .u8 0))], .arr 1 32 (List.replicate 32 (.i .u8 0)), .i .i64 0]
def prf0 : Prf := ⟨0, lef0, itm0, itm0, []⟩
/-- The way towards a label, in rising leaves. -/
def wayF : Nat → List Lef → List UInt8 → List Itm → Prf
  | 0, _, _, p => ⟨0, lef0, itm0, itm0, p.reverse⟩
  | k + 1, l, lb, p => if l = [] then ⟨0, lef0, itm0, itm0, p.reverse⟩ else if l.length = 1 then ⟨1, l.headD lef0, itm0, itm0, p.reverse⟩
    else if hasP (joinF l.length (l.map leafI)).p lb = false then ⟨2, lef0, parA (l.map leafI), parB (l.map leafI), p.reverse⟩
    else if bitL lb (frkI (l.map leafI)) = 1 then wayF k (l.drop (splI (l.map leafI))) lb (p ++ [parA (l.map leafI)]) else wayF k (l.take (splI (l.map leafI))) lb (p ++ [parB (l.map leafI)])
def mkE (l : List Lef) : Int := chkI (itmsL l)
def mkP (l : List Lef) (lb : List UInt8) : Prf := if mkE l ≠ 0 then prf0 else wayF (l.length + 1) (srtL l) lb []
theorem hok_map {l : List Lef} (hok : ∀ x ∈ l, x.ok) : ∀ x ∈ l.map leafI, x.ok := fun x hx => by
  obtain ⟨y, hy, rfl⟩ := List.mem_map.1 hx
  exact leafI_ok y (hok y hy)
end Go.Proofs.YtcmgpkibjdbonaaGreat
set_option maxHeartbeats 16000000
set_option maxRecDepth 100000
namespace Go.Proofs.YtcmgpkibjdbonaaGreat
open Go Go.RowKit
/-- Bit m of a label; none beyond its end. -/
def bitN (l : List UInt8) (m : Nat) : Nat := if m < 256 then bitL l m else 0
/-- The node of an item on the way and the one beside it. -/
def upL (x y : Itm) : Itm := if 0 < cmpS x.l y.l then y else x
def upR (x y : Itm) : Itm := if 0 < cmpS x.l y.l then x else y
def upE (x y : Itm) (lb : List UInt8) : Int := if chkN (upL x y) (upR x y) ≠ 0 then chkN (upL x y) (upR x y) else if hasP (innI (upL x y) (upR x y)).p lb = true ∧ bitN lb (comL (upL x y).l (upR x y).l) = bitN x.l (comL (upL x y).l (upR x y).l) then 0 else 11
end Go.Proofs.YtcmgpkibjdbonaaGreat
set_option maxHeartbeats 4000000
namespace Go.Proofs.YtcmgpkibjdbonaaGreat
open Go Go.RowKit

/-- What a Reader holds. -/
structure RS where
  s : List UInt8
  p : Nat
  e : Int
def RS.ok (r : RS) : Prop := r.p ≤ r.s.length ∧ r.s.length ≤ 9223372036854775807
def rdA (r : RS) : AV := .agg [.s r.s, .i .i64 r.p, .i .i64 r.e]
def RS.take (r : RS) (n : Nat) : List UInt8 × RS :=
  if r.e ≠ 0 then ([], r) else if r.s.length - r.p < n then ([], ⟨r.s, r.p, 5⟩) else ((r.s.drop r.p).take n, ⟨r.s, r.p + n, 0⟩)
def RS.fail (r : RS) (x : Int) : RS := if r.e = 0 then ⟨r.s, r.p, x⟩ else r
theorem rfail_spec (b : Nat) (x : Int) (r : RS) : Spec Tryz.prog 192 [.ptr 0 b [] 0, .i .i64 x] [.var b (rdA r)] (fun v os => v = .tup [] ∧ os = [.var b (rdA (r.fail x))]) := by
  refine spec_of TtOk [(0, .var b (rdA r))] Tryz.func192 rfl Tryz.ntmps192 (by kernel_rfl) rfl rfl (fun C => ?_) rfl
  repeat' (first | refine Awp.seq ?_ | refine Awp.region ?_ | (refine Ops.nil ?_; show Awp _ _ _ _ _) | (refine Ops.nil ?_; show endK _ _ _ _ _) | (refine Awp.skip ?_; show endK _ _ _ _ _) | (refine o_calm rfl TtOk rfl rfl rfl ?_ (fun _ => ?_); exact nd) | refine o_store TtOk rfl rfl rfl rfl rfl rfl rfl ⟨rfl, rfl⟩ rfl rfl rfl rfl rfl ?_ | (refine a_condP rfl (fun hc => ?_) (fun hc => ?_)) <;> (try (exfalso; omega)))
  · refine end_none rfl [] _ (HLe.same (k := 0) rfl (HOLe.refl _) .nil) ⟨rfl, ?_⟩ _ (by first | exact .inl rfl | exact .inr rfl)
    unfold RS.fail; rw [if_pos hc]; rfl
  · refine end_none rfl [] _ (HLe.same (k := 0) rfl (HOLe.refl _) .nil) ⟨rfl, ?_⟩ _ (by first | exact .inl rfl | exact .inr rfl)
    unfold RS.fail; rw [if_neg hc]; rfl
theorem rtake_spec (b : Nat) (n : Nat) (r : RS) (hok : r.ok) : Spec Tryz.prog 193 [.ptr 0 b [] 0, .i .i64 n] [.var b (rdA r)] (fun v os => v = .s (r.take n).1 ∧ os = [.var b (rdA (r.take n).2)]) := by
  obtain ⟨h1, h2⟩ := hok
  refine spec_of TtOk [(0, .var b (rdA r))] Tryz.func193 rfl Tryz.ntmps193 (by kernel_rfl) rfl rfl (fun C => ?_) rfl
  repeat' (first | refine Awp.seq ?_ | refine Awp.region ?_ | (refine Ops.nil ?_; show Awp _ _ _ _ _) | (refine Awp.skip ?_; show Awp _ _ _ _ _) | (refine Awp.ret ?_; show endK _ _ _ _ _) | refine o_offT rfl rfl rfl (by first | exact .inl rfl | exact .inr rfl) ?_ | (refine o_add rfl rfl rfl rfl ?_ ?_; omega) | (refine o_sub rfl rfl rfl rfl ?_ ?_; omega) | (refine o_calm rfl TtOk rfl rfl rfl ?_ (fun _ => ?_); exact nd) | refine o_store TtOk rfl rfl rfl rfl rfl rfl rfl ⟨rfl, rfl⟩ rfl rfl rfl rfl rfl ?_ | (fail_if_success (refine o_isLit rfl (by first | exact .inl rfl | exact .inr rfl) ?_)); (refine o_splitP rfl rfl (fun hc => ?_) (fun hc => ?_) <;> try (exfalso; omega)) | refine a_condT rfl ?_ | refine a_condF rfl ?_ | (refine a_condP rfl (fun hc => ?_) (fun hc => ?_)) <;> (try (exfalso; omega)) | (refine a_condN rfl (fun hc => ?_) (fun hc => ?_)) <;> (try (exfalso; omega)) | refine a_any 1 [] [] [] [0, 1, 2, 3, 4, 5, 6, 7, 8, 9, 12, 13, 14, 10, 11, 15, 16, 17, 18] (by kernel_rfl) (by kernel_rfl) (by kernel_rfl) rfl rfl rfl ?_ | refine a_any 6 [] [] [] [0, 1, 2, 4, 5, 6, 8, 10, 11, 12, 3, 7, 9, 13, 14, 15] (by kernel_rfl) (by kernel_rfl) (by kernel_rfl) rfl rfl rfl ?_)
  · have ht : r.take n = ([], ⟨r.s, r.p, 5⟩) := by unfold RS.take; rw [if_neg (by omega), if_pos (by omega)]
    refine end_tmp rfl rfl rfl [] [(0, _)] (CLe.of_eq (by rw [ht]; rfl)) (HLe.same rfl (HOLe.refl _) .nil) ⟨rfl, by rw [ht]; rfl⟩ _ (.inl rfl)
  · refine o_sliceStr TtOk rfl r.p (r.p + n) rfl rfl rfl (bnd_some rfl (by omega)) (bnd_some rfl (by omega)) (by omega) (by omega) ?_
    repeat' (first | (refine Ops.nil ?_; show Awp _ _ _ _ _) | (refine Awp.ret ?_; show endK _ _ _ _ _) | (refine o_calm rfl TtOk rfl rfl rfl ?_ (fun _ => ?_); exact nd))
    have ht : r.take n = ((r.s.drop r.p).take n, ⟨r.s, r.p + n, 0⟩) := by unfold RS.take; rw [if_neg (by omega), if_neg (by omega)]
    refine end_tmp rfl rfl rfl [] [(0, _)] (CLe.of_eq ?_) (HLe.same rfl (HOLe.refl _) .nil) ⟨rfl, ?_⟩ _ (.inl rfl)
    · rw [ht]; show AV.s ((r.s.take (r.p+n)).drop r.p) = AV.s ((r.s.drop r.p).take n); rw [List.drop_take, Nat.add_sub_cancel_left]
    · rw [ht]; show [HO.var b (.agg [.s r.s, .i .i64 (r.p + n), .i .i64 r.e])] = [HO.var b (.agg [.s r.s, .i .i64 ((r.p + n : Nat) : Int), .i .i64 0])]; rw [Int.natCast_add, hc]
  · have ht : r.take n = ([], r) := by unfold RS.take; rw [if_pos hc]
    refine end_tmp rfl rfl rfl [] [(0, _)] (CLe.of_eq (by rw [ht]; rfl)) (HLe.same rfl (HOLe.refl _) .nil) ⟨rfl, by rw [ht]; rfl⟩ _ (.inl rfl)
theorem RS.ok_take {r : RS} (h : r.ok) (n : Nat) : (r.take n).2.ok := by
  unfold RS.take; split
  · exact h
  · split
    · exact h
    · exact ⟨by show r.p + n ≤ r.s.length; have := h.1; omega, h.2⟩
theorem RS.ok_fail {r : RS} (h : r.ok) (x : Int) : (r.fail x).ok := by unfold RS.fail; split <;> exact h
end Go.Proofs.YtcmgpkibjdbonaaGreat
namespace Go.Proofs.YtcmgpkibjdbonaaGreat
open Go.RowKit

def byC (c : UInt8) : List Value := [.int .u8 (c.toNat : Int)]
theorem ofInt_i64 (a : Nat) (ha : a < 9223372036854775808) : (BitVec.ofInt 64 (a : Int)).toNat = a := by
  rw [BitVec.ofInt_natCast, BitVec.toNat_ofNat]; exact Nat.mod_eq_of_lt (by omega)
theorem i64_or_nat (a b : Nat) (ha : a < 9223372036854775808) (hb : b < 9223372036854775808) : bits .or .i64 (a : Int) (b : Int) = ((a ||| b : Nat) : Int) := by
  have hx : a ||| b < 2 ^ 63 := Nat.or_lt_two_pow (by omega) (by omega)
  show IntKind.i64.wrap ((BitVec.ofInt 64 (a : Int) ||| BitVec.ofInt 64 (b : Int)).toNat : Int) = _
  rw [BitVec.toNat_or, ofInt_i64 a ha, ofInt_i64 b hb, IntKind.wrap_i64]
  omega
/-- 'n<<8 | c'. -/
theorem or_byte (x c : Nat) (hc : c < 256) (hx : 256 * x + c < 9223372036854775808) : bits .or .i64 ((x : Int) * 256) (c : Int) = ((256 * x + c : Nat) : Int) := by
  have h1 : ((x : Int) * 256) = ((256 * x : Nat) : Int) := by omega
  rw [h1, i64_or_nat _ _ (by omega) (by omega), ← Nat.two_pow_add_eq_or_of_lt (i := 8) (by omega)]
end Go.Proofs.YtcmgpkibjdbonaaGreat
