/- What Cover tells: the parts are trees of the leaves that no label stands at; parts and other leaves are one tree. No program in sight. -/
import Derived.Test.YtpjfhllkckdejaaR9Z
import Derived.Test.YtpjfhllkckdejaaR8
set_option maxHeartbeats 4000000
namespace Go.Proofs.Ytpjfhllkckdejaa
open Go Go.RowKit
theorem insS_perm {α : Type} {lt : α → α → Bool} (x : α) : ∀ l : List α, (insS lt x l).Perm (x :: l)
  | [] => List.Perm.refl _
  | y :: r => by
    unfold insS
    split
    · exact List.Perm.refl _
    · exact ((insS_perm x r).cons y).trans (List.Perm.swap x y r)
theorem sortS_perm {α : Type} {lt : α → α → Bool} (l : List α) : (sortS lt l).Perm l := by
  have h : ∀ (l a : List α), (l.foldl (fun a x => insS lt x a) a).Perm (a ++ l) := by
    intro l
    induction l with
    | nil => intro a; rw [List.append_nil]; exact List.Perm.refl _
    | cons x r ih =>
      intro a
      rw [List.foldl_cons]
      refine (ih _).trans ?_
      refine ((insS_perm x a).append_right r).trans ?_
      exact List.perm_middle.symm
  exact h l []
theorem srtI_perm (l : List Itm) : (srtI l).Perm l := sortS_perm l
theorem srtL_perm (l : List Lef) : (srtL l).Perm l := sortS_perm l
/-- Neither is over the other. -/
def Anti (a b : Itm) : Prop := ((comL a.l b.l : Nat) : Int) < a.n ∧ ((comL a.l b.l : Nat) : Int) < b.n
theorem Anti.symm {a b : Itm} (h : Anti a b) : Anti b a := by
  unfold Anti at h ⊢
  rw [com_comm]; exact ⟨h.2, h.1⟩
theorem good_n {x : Itm} (h : goodI x = true) : 0 ≤ x.n ∧ x.n ≤ 256 := by
  unfold goodI at h
  simp only [Bool.and_eq_true] at h
  obtain ⟨a, b, _⟩ := good_parts h.1
  exact ⟨a, b⟩
theorem anti_bad {a x : Itm} (h : Anti a x) (hc : cmpS a.l x.l < 0) : badI a x = false := by
  unfold badI overP hasP
  have e1 : decide (a.p.n ≤ (comL a.p.l x.p.l : Nat)) = false := decide_eq_false (by have := h.1; show ¬ a.n ≤ _; show ¬ a.n ≤ ((comL a.l x.l : Nat) : Int); omega)
  have e2 : decide (x.p.n ≤ (comL x.p.l a.p.l : Nat)) = false := decide_eq_false (by have := h.symm.1; show ¬ x.n ≤ ((comL x.l a.l : Nat) : Int); omega)
  rw [e1, e2, decide_eq_false (show ¬ (0 ≤ cmpS a.l x.l) by omega)]
  simp
theorem chkL_zero : ∀ (l : List Itm) (a : Itm), (∀ x ∈ l, goodI x = true) → (a :: l).Pairwise Anti → RiseI (a :: l) → chkL (some a) l = 0
  | [], _, _, _, _ => rfl
  | x :: r, a, hg, ha, hr => by
    show (if goodI x = true then (if badI a x = true then 3 else chkL (some x) r) else 1) = 0
    rw [if_pos (hg x (List.mem_cons_self ..)), if_neg (by rw [anti_bad ((List.pairwise_cons.1 ha).1 x (List.mem_cons_self ..)) ((List.pairwise_cons.1 hr).1 x (List.mem_cons_self ..))]; decide)]
    exact chkL_zero r x (fun y hy => hg y (List.mem_cons_of_mem _ hy)) (List.pairwise_cons.1 ha).2 (List.pairwise_cons.1 hr).2
theorem chkI_zero {l : List Itm} (hl : l.length ≤ 2000) (hg : ∀ x ∈ l, goodI x = true) (ha : l.Pairwise Anti) (hr : RiseI l) : chkI l = 0 := by
  unfold chkI
  rw [if_neg (by omega)]
  cases l with
  | nil => rfl
  | cons x r =>
    show (if goodI x = true then chkL (some x) r else 1) = 0
    rw [if_pos (hg x (List.mem_cons_self ..))]
    exact chkL_zero r x (fun y hy => hg y (List.mem_cons_of_mem _ hy)) ha hr
theorem anti_rise {l : List Itm} (hg : ∀ x ∈ l, goodI x = true) (hok : ∀ x ∈ l, x.ok) (ha : l.Pairwise Anti) : RiseI (srtI l) ∧ (srtI l).Pairwise Anti := by
  have h1 : (srtI l).Pairwise Anti := (List.Perm.pairwise_iff (fun h => Anti.symm h) (srtI_perm l)).2 ha
  refine ⟨?_, h1⟩
  have h2 : Srt (ltCI ordI) (srtI l) := sortS_srt woI l
  have h3 := h1.and h2
  refine List.Pairwise.imp_of_mem (fun {x y} hx hy h => ?_) h3
  obtain ⟨ha, hs⟩ := h
  have hs : decide (cmpS y.l x.l < 0) = false := hs
  have hs := of_decide_eq_false hs
  rcases less_tri x.l y.l with k | k | k
  · exact cmpS_neg.2 k
  · exfalso
    have hn := (good_n (hg x (srtI_mem.1 hx))).2
    have ho := (hok x (srtI_mem.1 hx)).1
    have h1 := ha.1
    rw [← k, com_self, ho] at h1
    omega
  · exact absurd (cmpS_neg.2 k) hs
theorem chk_anti {l : List Itm} (hl : l.length ≤ 2000) (hg : ∀ x ∈ l, goodI x = true) (hok : ∀ x ∈ l, x.ok) (ha : l.Pairwise Anti) : chkI (srtI l) = 0 := by
  obtain ⟨h1, h2⟩ := anti_rise hg hok ha
  exact chkI_zero (by rw [srtI_len]; exact hl) (fun x hx => hg x (srtI_mem.1 hx)) h2 h1
theorem top_trJ {l : List Itm} (hok : ∀ x ∈ l, x.ok) (hc : chkI (srtI l) = 0) : topS (srtI l) = if l = [] then shaN [18] else (trJ 256 0 l).s := by
  unfold topS
  rw [if_neg (fun h => h hc)]
  have hp := srtI_perm l
  by_cases hn : l = []
  · rw [if_pos hn, if_pos ((perm_nil_iff hp).2 hn)]
  · have hn2 : srtI l ≠ [] := fun h => hn ((perm_nil_iff hp).1 h)
    rw [if_neg hn, if_neg hn2, ← trJ_perm 256 0 _ _ hp, trJ_join 256 0 (srtI l) (List.length_pos_iff.2 hn2) rfl (chkI_rise hc).2.1 (fun x hx => hok x (srtI_mem.1 hx)) (fun x _ i hi => absurd hi (Nat.not_lt_zero _))]
def openB : Nat → List (List UInt8) → List Lef → List (Itm × List Lef)
  | 0, _, _ => []
  | k + 1, ls, l => if l = [] then [] else if ls.any (hasP (joinF l.length (l.map leafI)).p) = false then [(joinF l.length (l.map leafI), l)] else if l.length = 1 then []
    else openB k ls (l.take (splI (l.map leafI))) ++ openB k ls (l.drop (splI (l.map leafI)))
theorem openB_fst : ∀ (k : Nat) (ls : List (List UInt8)) (l : List Lef), (openB k ls l).map (·.1) = (openF k ls l).1
  | 0, _, _ => rfl
  | k + 1, ls, l => by
    unfold openB openF
    by_cases hn : l = []
    · rw [if_pos hn, if_pos hn]; rfl
    rw [if_neg hn, if_neg hn]
    by_cases hh : ls.any (hasP (joinF l.length (l.map leafI)).p) = false
    · rw [if_pos hh, if_pos hh]; rfl
    rw [if_neg hh, if_neg hh]
    by_cases h1 : l.length = 1
    · rw [if_pos h1, if_pos h1]; rfl
    rw [if_neg h1, if_neg h1, List.map_append, openB_fst k ls _, openB_fst k ls _]
structure BlkL (ls : List (List UInt8)) (l : List Lef) (q : Itm × List Lef) : Prop where
  ne : q.2 ≠ []
  sub : ∀ y ∈ q.2, y ∈ l
  rise : RiseI (q.2.map leafI)
  eq : q.1 = joinF q.2.length (q.2.map leafI)
  out : ∀ x ∈ ls, ((comL q.1.l x : Nat) : Int) < q.1.n
def SepB (a b : Itm × List Lef) : Prop := ((comL a.1.l b.1.l : Nat) : Int) < a.1.n ∧ ((comL a.1.l b.1.l : Nat) : Int) < b.1.n ∧ (∀ y ∈ b.2, ((comL a.1.l y.l : Nat) : Int) < a.1.n) ∧ (∀ y ∈ a.2, ((comL b.1.l y.l : Nat) : Int) < b.1.n) ∧ cmpS a.1.l b.1.l < 0
structure JoinB (p : Itm) (B : List Itm) : Prop where
  ge : 0 ≤ p.n
  le : p.n ≤ 256
  ok : p.ok
  agree : ∀ b ∈ B, ∀ i : Nat, (i : Int) < p.n → bitL b.l i = bitL p.l i
  good : (∀ b ∈ B, goodI b = true) → goodP p.p = true
  tr : ∀ f' d' : Nat, d' + f' = 256 → (d' : Int) ≤ p.n → trJ f' d' B = p
theorem join_B {B : List Itm} (h0 : 0 < B.length) (hr : RiseI B) (hok : ∀ x ∈ B, x.ok) (h256 : ∀ x ∈ B, 0 ≤ x.n ∧ x.n ≤ 256) : JoinB (joinF B.length B) B := by
  have hjo := joinF_ok B.length B (List.length_pos_iff.1 h0) (Nat.le_refl _) hr hok
  obtain ⟨a, b⟩ := join_pfx B.length B h0 (Nat.le_refl _) hr hok
  have hle : (joinF B.length B).n ≤ 256 := by
    by_cases h1 : B.length = 1
    · rw [a h1]; exact (h256 _ (List.getElem_mem h0)).2
    · rw [(b (by omega)).1]; have := (spl_ok hr hok (by omega)).1; omega
  have hge : 0 ≤ (joinF B.length B).n := by
    by_cases h1 : B.length = 1
    · rw [a h1]; exact (h256 _ (List.getElem_mem h0)).1
    · rw [(b (by omega)).1]; omega
  have hag : ∀ x ∈ B, ∀ i : Nat, (i : Int) < (joinF B.length B).n → bitL x.l i = bitL (joinF B.length B).l i := fun x hx i hi => by
    obtain ⟨j, hj, rfl⟩ := List.getElem_of_mem hx
    by_cases h1 : B.length = 1
    · rw [a h1]
      have : j = 0 := by omega
      subst this; rfl
    · obtain ⟨b1, b2⟩ := b (by omega)
      have hf := (spl_ok hr hok (by omega)).1
      rw [b1] at hi
      rw [b2, cut_bit _ (hok _ (List.getElem_mem h0)).1 _ _ (by omega), if_pos (by omega)]
      exact rise_bits hr hok h0 j hj i (by omega)
  refine ⟨hge, hle, hjo, hag, fun hg => join_good h0 hr hok hg, fun f d hd hdn => ?_⟩
  refine trJ_join f d B h0 hd hr hok (fun x hx i hi => ?_)
  rw [hag x hx i (by omega), hag _ (List.getElem_mem h0) i (by omega)]
theorem com_le_ne {a b : List UInt8} (ha : a.length = 32) (hb : b.length = 32) {n : Nat} (h : bitL a n ≠ bitL b n) : comL a b ≤ n := by
  rcases Nat.lt_or_ge n (comL a b) with h1 | h1
  · exact absurd ((com_bits a b (by omega)).2.1 n h1) h
  · exact h1
theorem blk_join {ls : List (List UInt8)} {l : List Lef} {q : Itm × List Lef} (h : BlkL ls l q) (hok : ∀ x ∈ l, x.ok) : JoinB q.1 (q.2.map leafI) := by
  have h0 : 0 < (q.2.map leafI).length := by rw [List.length_map]; exact List.length_pos_iff.2 h.ne
  have := join_B h0 h.rise (fun x hx => by
    obtain ⟨y, hy, rfl⟩ := List.mem_map.1 hx
    exact leafI_ok y (hok y (h.sub y hy))) (fun x hx => by
    obtain ⟨y, hy, rfl⟩ := List.mem_map.1 hx
    exact (show (0 : Int) ≤ 256 ∧ (256 : Int) ≤ 256 from ⟨by decide, by decide⟩))
  rw [List.length_map] at this
  rw [h.eq]; exact this
/-- Of a block all of whose leaves have some bits in common, one further. -/
theorem blk_deep {ls : List (List UInt8)} {l : List Lef} {q : Itm × List Lef} (h : BlkL ls l q) (hok : ∀ x ∈ l, x.ok) {n : Nat} (hn : n < 256) (hb : ∀ x ∈ l, ∀ y ∈ l, ∀ i, i ≤ n → bitL x.l i = bitL y.l i) : ((n : Nat) : Int) < q.1.n ∧ ∀ y ∈ l, bitL q.1.l n = bitL y.l n := by
  have h0 : 0 < (q.2.map leafI).length := by rw [List.length_map]; exact List.length_pos_iff.2 h.ne
  have hokB : ∀ x ∈ q.2.map leafI, x.ok := fun x hx => by
    obtain ⟨y, hy, rfl⟩ := List.mem_map.1 hx
    exact leafI_ok y (hok y (h.sub y hy))
  have hlt : ((n : Nat) : Int) < q.1.n := by
    obtain ⟨a, b⟩ := join_pfx _ (q.2.map leafI) h0 (Nat.le_refl _) h.rise hokB
    rw [List.length_map] at a b
    rw [h.eq]
    by_cases h1 : q.2.length = 1
    · rw [a h1, List.getElem_map]; show ((n : Nat) : Int) < 256; omega
    · have h2 : 2 ≤ q.2.length := by have := List.length_pos_iff.2 h.ne; omega
      rw [(b h2).1]
      have := frk_gt hokB h0 hn (fun x hx i hi => by
        obtain ⟨y, hy, rfl⟩ := List.mem_map.1 hx
        rw [List.getElem_map]
        exact hb y (h.sub y hy) _ (h.sub _ (List.getElem_mem _)) i hi)
      omega
  refine ⟨hlt, fun y hy => ?_⟩
  obtain ⟨z, zs, hz⟩ := List.exists_cons_of_ne_nil h.ne
  have hzm : z ∈ q.2 := by rw [hz]; exact List.mem_cons_self ..
  rw [← (blk_join h hok).agree (leafI z) (List.mem_map_of_mem hzm) n hlt]
  exact hb z (h.sub z hzm) y hy n (Nat.le_refl _)
theorem BlkL.up {ls : List (List UInt8)} {l l' : List Lef} {q : Itm × List Lef} (h : BlkL ls l q) (hs : ∀ x ∈ l, x ∈ l') : BlkL ls l' q := ⟨h.ne, fun y hy => hs y (h.sub y hy), h.rise, h.eq, h.out⟩
theorem cov_all (ls : List (List UInt8)) (hls : ∀ x ∈ ls, x.length = 32) : ∀ (k : Nat) (l : List Lef), l.length ≤ k → RiseI (l.map leafI) → (∀ x ∈ l, x.ok) → (∀ x ∈ l, goodI (leafI x) = true) →
    (∀ q ∈ openB k ls l, BlkL ls l q) ∧ (openB k ls l).Pairwise SepB ∧ (openB k ls l).flatMap (·.2) = l.filter (fun x => !(ls.contains x.l)) ∧ (openF k ls l).2 = l.filter (fun x => ls.contains x.l) := by
  intro k
  induction k with
  | zero =>
    intro l hk _ _ _
    have hn : l = [] := List.length_eq_zero_iff.1 (by omega)
    subst hn
    exact ⟨fun q hq => (by cases hq), List.Pairwise.nil, rfl, rfl⟩
  | succ k ih =>
    intro l hk hr hok hg
    unfold openB openF
    by_cases hn : l = []
    · subst hn
      rw [if_pos rfl, if_pos rfl]
      exact ⟨fun q hq => (by cases hq), List.Pairwise.nil, rfl, rfl⟩
    rw [if_neg hn, if_neg hn]
    have hp : 0 < l.length := List.length_pos_iff.2 hn
    have hml : (l.map leafI).length = l.length := List.length_map ..
    have hok2 : ∀ x ∈ l.map leafI, x.ok := fun x hx => by
      obtain ⟨y, hy, rfl⟩ := List.mem_map.1 hx
      exact leafI_ok y (hok y hy)
    have hg2 : ∀ x ∈ l.map leafI, goodI x = true := fun x hx => by
      obtain ⟨y, hy, rfl⟩ := List.mem_map.1 hx
      exact hg y hy
    by_cases hh : ls.any (hasP (joinF l.length (l.map leafI)).p) = false
    · rw [if_pos hh, if_pos hh]
      have hj := join_B (B := l.map leafI) (by omega) hr hok2 (fun x hx => by
        obtain ⟨y, hy, rfl⟩ := List.mem_map.1 hx
        exact (show (0 : Int) ≤ 256 ∧ (256 : Int) ≤ 256 from ⟨by decide, by decide⟩))
      rw [hml] at hj
      have hgp := hj.good hg2
      have hout : ∀ x ∈ ls, ((comL (joinF l.length (l.map leafI)).l x : Nat) : Int) < (joinF l.length (l.map leafI)).n := fun x hx => by
        have h1 := List.any_eq_false.1 hh x hx
        unfold hasP at h1
        rw [hgp, Bool.true_and] at h1
        have h1 : ¬ ((joinF l.length (l.map leafI)).n ≤ ((comL (joinF l.length (l.map leafI)).l x : Nat) : Int)) := fun h => h1 (decide_eq_true h)
        omega
      have hno : ∀ y ∈ l, ls.contains y.l = false := fun y hy => by
        rcases hb : ls.contains y.l with _ | _
        · rfl
        · have hm : y.l ∈ ls := List.contains_iff_mem.1 hb
          have h1 := hout _ hm
          have h2 := (com_ge hj.ok.1 (hok y hy).1 (n := (joinF l.length (l.map leafI)).n.toNat) (by have := hj.le; omega)).2 (fun i hi => (hj.agree (leafI y) (List.mem_map_of_mem hy) i (by omega)).symm)
          omega
      refine ⟨fun q hq => ?_, List.pairwise_singleton _ _, ?_, ?_⟩
      · rw [List.mem_singleton.1 hq]
        exact ⟨hn, fun y hy => hy, hr, rfl, hout⟩
      · rw [List.flatMap_cons, List.flatMap_nil, List.append_nil]
        exact (List.filter_eq_self.2 (fun y hy => by rw [hno y hy]; rfl)).symm
      · exact (List.filter_eq_nil_iff.2 (fun y hy => by rw [hno y hy]; decide)).symm
    rw [if_neg hh, if_neg hh]
    by_cases h1 : l.length = 1
    · rw [if_pos h1, if_pos h1]
      obtain ⟨y, rfl⟩ := List.length_eq_one_iff.1 h1
      have hy : ls.contains y.l = true := by
        have h2 : ls.any (hasP (joinF [y].length ([y].map leafI)).p) = true := by revert hh; cases ls.any _ <;> simp
        obtain ⟨x, hx, h3⟩ := List.any_eq_true.1 h2
        have hjy : joinF [y].length ([y].map leafI) = leafI y := rfl
        rw [hjy] at h3
        unfold hasP at h3
        simp only [Bool.and_eq_true, decide_eq_true_eq] at h3
        have h4 : (256 : Int) ≤ ((comL y.l x : Nat) : Int) := h3.2
        have hyl := (hok y (List.mem_cons_self ..)).1
        have hxl := hls x hx
        have h5 := (com_bits y.l x (by omega)).2.2.2 (by have := comL_256 (b := x) hyl; omega)
        rw [h5]
        exact List.contains_iff_mem.2 hx
      refine ⟨fun q hq => (by cases hq), List.Pairwise.nil, ?_, ?_⟩
      · show [] = List.filter (fun x : Lef => !(ls.contains x.l)) [y]
        simp only [List.filter, hy, Bool.not_true]
      · show [y] = List.filter (fun x : Lef => ls.contains x.l) [y]
        simp only [List.filter, hy]
    rw [if_neg h1, if_neg h1]
    obtain ⟨c1, c2, c3, c4⟩ := spl_ok hr hok2 (by omega)
    rw [hml] at c3
    obtain ⟨a1, a2, a3, a4⟩ := ih (l.take (splI (l.map leafI))) (by rw [List.length_take]; omega) (by rw [List.map_take]; exact hr.sublist (List.take_sublist ..)) (fun x hx => hok x (List.mem_of_mem_take hx)) (fun x hx => hg x (List.mem_of_mem_take hx))
    obtain ⟨b1, b2, b3, b4⟩ := ih (l.drop (splI (l.map leafI))) (by rw [List.length_drop]; omega) (by rw [List.map_drop]; exact hr.sublist (List.drop_sublist ..)) (fun x hx => hok x (List.mem_of_mem_drop hx)) (fun x hx => hg x (List.mem_of_mem_drop hx))
    have bA : ∀ x ∈ l.take (splI (l.map leafI)), ∀ i, i < frkI (l.map leafI) → bitL x.l i = bitL (l[0]'hp).l i := fun x hx i hi => by
      obtain ⟨j, hj, he⟩ := List.getElem_of_mem (List.mem_of_mem_take hx)
      have := rise_bits hr hok2 (by omega) j (by omega) i hi
      rw [List.getElem_map, List.getElem_map, he] at this
      exact this
    have bB : ∀ x ∈ l.drop (splI (l.map leafI)), ∀ i, i < frkI (l.map leafI) → bitL x.l i = bitL (l[0]'hp).l i := fun x hx i hi => by
      obtain ⟨j, hj, he⟩ := List.getElem_of_mem (List.mem_of_mem_drop hx)
      have := rise_bits hr hok2 (by omega) j (by omega) i hi
      rw [List.getElem_map, List.getElem_map, he] at this
      exact this
    have zA : ∀ x ∈ l.take (splI (l.map leafI)), bitL x.l (frkI (l.map leafI)) = 0 := fun x hx => by
      obtain ⟨j, hj, he⟩ := List.getElem_of_mem hx
      rw [List.length_take] at hj
      rw [List.getElem_take] at he
      have := spl_lo (l := l.map leafI) j (by omega) (by omega)
      rw [List.getElem_map, he] at this
      exact this
    have zB : ∀ x ∈ l.drop (splI (l.map leafI)), bitL x.l (frkI (l.map leafI)) = 1 := fun x hx => by
      obtain ⟨j, hj, he⟩ := List.getElem_of_mem hx
      rw [List.length_drop] at hj
      rw [List.getElem_drop] at he
      have := spl_hi hr hok2 (by omega) (splI (l.map leafI) + j) (by omega) (by omega)
      rw [List.getElem_map, he] at this
      exact this
    have oA : ∀ x ∈ l.take (splI (l.map leafI)), x.ok := fun x hx => hok x (List.mem_of_mem_take hx)
    have oB : ∀ x ∈ l.drop (splI (l.map leafI)), x.ok := fun x hx => hok x (List.mem_of_mem_drop hx)
    have hsub : l.take (splI (l.map leafI)) ++ l.drop (splI (l.map leafI)) = l := List.take_append_drop ..
    refine ⟨fun q hq => ?_, List.pairwise_append.2 ⟨a2, b2, fun a ha b hb => ?_⟩, ?_, ?_⟩
    · rcases List.mem_append.1 hq with h | h
      · exact (a1 q h).up (fun x hx => List.mem_of_mem_take hx)
      · exact (b1 q h).up (fun x hx => List.mem_of_mem_drop hx)
    · have ka := a1 a ha
      have kb := b1 b hb
      obtain ⟨na, va⟩ := blk_deep ka oA c1 (fun x hx y hy i hi => by
        rcases Nat.lt_or_ge i (frkI (l.map leafI)) with h3 | h3
        · rw [bA x hx i h3, bA y hy i h3]
        · have : i = frkI (l.map leafI) := by omega
          subst this; rw [zA x hx, zA y hy])
      obtain ⟨nb, vb⟩ := blk_deep kb oB c1 (fun x hx y hy i hi => by
        rcases Nat.lt_or_ge i (frkI (l.map leafI)) with h3 | h3
        · rw [bB x hx i h3, bB y hy i h3]
        · have : i = frkI (l.map leafI) := by omega
          subst this; rw [zB x hx, zB y hy])
      obtain ⟨ya, hya⟩ := List.exists_mem_of_ne_nil _ ka.ne
      obtain ⟨yb, hyb⟩ := List.exists_mem_of_ne_nil _ kb.ne
      have ea : bitL a.1.l (frkI (l.map leafI)) = 0 := by rw [va ya (ka.sub ya hya), zA ya (ka.sub ya hya)]
      have eb : bitL b.1.l (frkI (l.map leafI)) = 1 := by rw [vb yb (kb.sub yb hyb), zB yb (kb.sub yb hyb)]
      have lA := (blk_join ka oA).ok.1
      have lB := (blk_join kb oB).ok.1
      have hab := com_le_ne lA lB (n := frkI (l.map leafI)) (by rw [ea, eb]; decide)
      have hlow : ∀ i, i < frkI (l.map leafI) → bitL a.1.l i = bitL b.1.l i := fun i hi => by
        rw [← (blk_join ka oA).agree (leafI ya) (List.mem_map_of_mem hya) i (by omega), ← (blk_join kb oB).agree (leafI yb) (List.mem_map_of_mem hyb) i (by omega)]
        show bitL ya.l i = bitL yb.l i
        rw [bA ya (ka.sub ya hya) i hi, bB yb (kb.sub yb hyb) i hi]
      have hcom := com_is lA lB c1 hlow (by rw [ea, eb]; decide)
      refine ⟨by omega, by omega, fun y hy => ?_, fun y hy => ?_, lt_cmp lA lB (by rw [hcom]; exact c1) (by rw [hcom]; exact ea)⟩
      · have := com_le_ne lA (oB y (kb.sub y hy)).1 (n := frkI (l.map leafI)) (by rw [ea, zB y (kb.sub y hy)]; decide)
        omega
      · have := com_le_ne lB (oA y (ka.sub y hy)).1 (n := frkI (l.map leafI)) (by rw [eb, zA y (ka.sub y hy)]; decide)
        omega
    · rw [List.flatMap_append, a3, b3, ← List.filter_append, hsub]
    · show (openF k ls (l.take _)).2 ++ (openF k ls (l.drop _)).2 = _
      rw [a4, b4, ← List.filter_append, hsub]
theorem trJ_blocks : ∀ (r : List (Itm × List Lef)) (X : List Itm), (∀ q ∈ r, q.2 ≠ [] ∧ JoinB q.1 (q.2.map leafI)) → r.Pairwise SepB → (∀ q ∈ r, ∀ x ∈ X, x.ok ∧ ((comL q.1.l x.l : Nat) : Int) < q.1.n) → (∀ q ∈ r, ∀ y ∈ q.2, y.ok) → trJ 256 0 (r.map (·.1) ++ X) = trJ 256 0 ((r.flatMap (·.2)).map leafI ++ X)
  | [], X, _, _, _, _ => rfl
  | q :: r, X, hj, hs, hX, hok => by
    obtain ⟨hne, hJ⟩ := hj q (List.mem_cons_self ..)
    obtain ⟨s1, s2⟩ := List.pairwise_cons.1 hs
    have hd : ∀ x : Itm, x.ok → ((comL q.1.l x.l : Nat) : Int) < q.1.n → ∃ i : Nat, (i : Int) < q.1.n ∧ bitL x.l i ≠ bitL q.1.l i := fun x hx h => by
      refine ⟨_, h, fun he => ?_⟩
      have hle := hJ.le
      exact (com_bits q.1.l x.l (by rw [hJ.ok.1, hx.1])).2.2.1 (by rw [hJ.ok.1]; omega) he.symm
    have h1 : trJ 256 0 (q.1 :: (r.map (·.1) ++ X)) = trJ 256 0 (q.2.map leafI ++ (r.map (·.1) ++ X)) := by
      refine trJ_coll 256 0 q.1 (q.2.map leafI) _ rfl hJ.le (fun h => hne (List.map_eq_nil_iff.1 h)) hJ.agree hJ.tr (fun x hx => ?_) (fun x _ i hi => absurd hi (Nat.not_lt_zero _)) ?_
      · rcases List.mem_append.1 hx with h | h
        · obtain ⟨q', hq', rfl⟩ := List.mem_map.1 h
          exact hd _ (hj q' (List.mem_cons_of_mem _ hq')).2.ok (s1 q' hq').1
        · obtain ⟨o, c⟩ := hX q (List.mem_cons_self ..) x h
          exact hd x o c
      · exact hJ.ge
    have h2 : (q.2.map leafI ++ (r.map (·.1) ++ X)).Perm (r.map (·.1) ++ (q.2.map leafI ++ X)) := by
      rw [← List.append_assoc, ← List.append_assoc]
      exact List.perm_append_comm.append_right X
    have h3 := trJ_blocks r (q.2.map leafI ++ X) (fun q' hq' => hj q' (List.mem_cons_of_mem _ hq')) s2 (fun q' hq' x hx => by
      rcases List.mem_append.1 hx with h | h
      · obtain ⟨y, hy, rfl⟩ := List.mem_map.1 h
        exact ⟨leafI_ok y (hok q (List.mem_cons_self ..) y hy), (s1 q' hq').2.2.2.1 y hy⟩
      · exact hX q' (List.mem_cons_of_mem _ hq') x h) (fun q' hq' => hok q' (List.mem_cons_of_mem _ hq'))
    have h4 : ((r.flatMap (·.2)).map leafI ++ (q.2.map leafI ++ X)).Perm (((q :: r).flatMap (·.2)).map leafI ++ X) := by
      rw [List.flatMap_cons, List.map_append, ← List.append_assoc]
      exact List.perm_append_comm.append_right X
    rw [List.map_cons, List.cons_append, h1, trJ_perm _ _ _ _ h2, h3, trJ_perm _ _ _ _ h4]
end Go.Proofs.Ytpjfhllkckdejaa
set_option maxHeartbeats 4000000
namespace Go.Proofs.Ytpjfhllkckdejaa
open Go Go.RowKit
theorem leaf_good {x : Lef} (hok : x.ok) (h0 : 0 ≤ x.t) (h1 : x.t ≤ 1073741824) : goodI (leafI x) = true := by
  unfold goodI
  have hg : goodP ⟨(leafI x).n, (leafI x).l⟩ = true := by
    show goodP ⟨256, x.l⟩ = true
    unfold goodP
    show (decide ((0 : Int) ≤ 256) && (decide ((256 : Int) ≤ 256) && (cutL x.l 256 == x.l))) = true
    rw [cut256 x.l hok.1, beq_self_eq_true]; rfl
  rw [hg]
  show (true && (decide (0 ≤ x.t) && decide (x.t ≤ 1073741824))) = true
  rw [decide_eq_true h0, decide_eq_true h1]; rfl
theorem good_t {x : Itm} (h : goodI x = true) : 0 ≤ x.t ∧ x.t ≤ 1073741824 := by
  unfold goodI at h
  simp only [Bool.and_eq_true, decide_eq_true_eq] at h
  exact h.2
theorem leaf_anti {x y : Lef} (hx : x.ok) (hy : y.ok) (h : x.l ≠ y.l) : Anti (leafI x) (leafI y) := by
  have h1 : comL x.l y.l < 256 := by
    rcases Nat.lt_or_ge (comL x.l y.l) 256 with h2 | h2
    · exact h2
    · exact absurd ((com_bits x.l y.l (by rw [hx.1, hy.1])).2.2.2 (by have := comL_256 (b := y.l) hx.1; rw [hx.1]; omega)) h
  exact ⟨by show ((comL x.l y.l : Nat) : Int) < 256; omega, by show ((comL x.l y.l : Nat) : Int) < 256; omega⟩
theorem joinF_t : ∀ (k : Nat) (l : List Itm), l ≠ [] → l.length ≤ k → RiseI l → (∀ x ∈ l, x.ok) → (∀ x ∈ l, 0 ≤ x.t ∧ x.t ≤ 1073741824) → 0 ≤ (joinF k l).t ∧ (joinF k l).t ≤ 1073741824
  | 0, l, hn, hl, _, _, _ => absurd (List.length_eq_zero_iff.1 (by omega)) hn
  | k + 1, l, hn, hl, hr, hok, ht => by
    have hp : 0 < l.length := List.length_pos_iff.2 hn
    unfold joinF
    by_cases h1 : l.length = 1
    · rw [if_pos h1, headD_get hp]; exact ht _ (List.getElem_mem _)
    rw [if_neg h1]
    obtain ⟨_, s1, s2, _⟩ := spl_ok hr hok (by omega)
    have a := joinF_t k _ (take_ne s1 s2) (by rw [List.length_take]; omega) (hr.sublist (List.take_sublist ..)) (fun x hx => hok x (List.mem_of_mem_take hx)) (fun x hx => ht x (List.mem_of_mem_take hx))
    have b := joinF_t k _ (drop_ne s2) (by rw [List.length_drop]; omega) (hr.sublist (List.drop_sublist ..)) (fun x hx => hok x (List.mem_of_mem_drop hx)) (fun x hx => ht x (List.mem_of_mem_drop hx))
    generalize joinF k (l.take (splI l)) = u at a ⊢
    generalize joinF k (l.drop (splI l)) = v at b ⊢
    have e : (innI u v).t = if v.t > u.t then v.t else u.t := rfl
    rw [e]
    split
    · exact b
    · exact a
theorem rise_ne {l : List Lef} (hr : RiseI (l.map leafI)) : l.Pairwise (fun a b => a.l ≠ b.l) := by
  have h : (l.map leafI).Pairwise (fun a b => cmpS a.l b.l < 0) := hr
  rw [List.pairwise_map] at h
  exact h.imp (fun {a b} hab he => by
    have hab : cmpS a.l b.l < 0 := hab
    rw [he, cmpS_eq] at hab; omega)
def notIn (ls : List (List UInt8)) (x : Lef) : Bool := !(ls.contains x.l)
theorem cover_top {S F : List Lef} {ls : List (List UInt8)} (hls : ∀ x ∈ ls, x.length = 32) (hc : chkI (S.map leafI) = 0) (hok : ∀ x ∈ S, x.ok) (hF : ∀ x ∈ F, x.ok ∧ 0 ≤ x.t ∧ x.t ≤ 1073741824 ∧ x.l ∈ ls) (hFd : F.Pairwise (fun a b => a.l ≠ b.l)) (hlen : S.length + F.length ≤ 2000) :
    chkI (srtI ((openF S.length ls S).1 ++ F.map leafI)) = 0 ∧ chkI (srtI ((S.filter (notIn ls) ++ F).map leafI)) = 0 ∧ topS (srtI ((openF S.length ls S).1 ++ F.map leafI)) = topS (srtI ((S.filter (notIn ls) ++ F).map leafI)) ∧ (openF S.length ls S).2 = S.filter (fun x => ls.contains x.l) ∧ (∀ x ∈ (openF S.length ls S).1, x.ok) ∧ RiseI (openF S.length ls S).1 := by
  obtain ⟨-, hr, hg⟩ := chkI_rise hc
  have hg1 : ∀ x ∈ S, goodI (leafI x) = true := fun x hx => hg _ (List.mem_map_of_mem hx)
  obtain ⟨c1, c2, c3, c4⟩ := cov_all ls hls S.length S (Nat.le_refl _) hr hok hg1
  have hlP := (openF_len S.length ls S).1
  rw [← openB_fst] at hlP ⊢
  generalize openB S.length ls S = r at c1 c2 c3 hlP ⊢
  have hJ : ∀ q ∈ r, q.2 ≠ [] ∧ JoinB q.1 (q.2.map leafI) := fun q hq => ⟨(c1 q hq).ne, blk_join (c1 q hq) hok⟩
  have c3 : r.flatMap (·.2) = S.filter (notIn ls) := c3
  have hU : ∀ x ∈ S.filter (notIn ls), x ∈ S ∧ x.l ∉ ls := fun x hx => ⟨(List.mem_filter.1 hx).1, fun hm => by
    have h2 := (List.mem_filter.1 hx).2
    unfold notIn at h2
    rw [List.contains_iff_mem.2 hm] at h2; cases h2⟩
  have okP : ∀ x ∈ r.map (·.1), x.ok := fun x hx => by
    obtain ⟨q, hq, rfl⟩ := List.mem_map.1 hx
    exact (hJ q hq).2.ok
  have okF : ∀ x ∈ F.map leafI, x.ok := fun x hx => by
    obtain ⟨y, hy, rfl⟩ := List.mem_map.1 hx
    exact leafI_ok y (hF y hy).1
  have ok1 : ∀ x ∈ r.map (·.1) ++ F.map leafI, x.ok := fun x hx => by
    rcases List.mem_append.1 hx with h | h
    · exact okP x h
    · exact okF x h
  have ok2 : ∀ x ∈ (S.filter (notIn ls) ++ F).map leafI, x.ok := fun x hx => by
    obtain ⟨y, hy, rfl⟩ := List.mem_map.1 hx
    rcases List.mem_append.1 hy with h | h
    · exact leafI_ok y (hok y (hU y h).1)
    · exact leafI_ok y (hF y h).1
  have gF : ∀ x ∈ F.map leafI, goodI x = true := fun x hx => by
    obtain ⟨y, hy, rfl⟩ := List.mem_map.1 hx
    exact leaf_good (hF y hy).1 (hF y hy).2.1 (hF y hy).2.2.1
  have gP : ∀ x ∈ r.map (·.1), goodI x = true := fun x hx => by
    obtain ⟨q, hq, rfl⟩ := List.mem_map.1 hx
    have hgB : ∀ b ∈ q.2.map leafI, goodI b = true := fun b hb => by
      obtain ⟨y, hy, rfl⟩ := List.mem_map.1 hb
      exact hg1 y ((c1 q hq).sub y hy)
    have hgp := (hJ q hq).2.good hgB
    have ht := joinF_t q.2.length (q.2.map leafI) (fun h => (c1 q hq).ne (List.map_eq_nil_iff.1 h)) (by rw [List.length_map]; exact Nat.le_refl _) (c1 q hq).rise (fun x hx => by
      obtain ⟨y, hy, rfl⟩ := List.mem_map.1 hx
      exact leafI_ok y (hok y ((c1 q hq).sub y hy))) (fun x hx => good_t (hgB x hx))
    rw [← (c1 q hq).eq] at ht
    unfold goodI
    rw [show goodP ⟨q.1.n, q.1.l⟩ = true from hgp, decide_eq_true ht.1, decide_eq_true ht.2]; rfl
  have a1 : (r.map (·.1) ++ F.map leafI).Pairwise Anti := by
    refine List.pairwise_append.2 ⟨?_, ?_, fun a ha b hb => ?_⟩
    · rw [List.pairwise_map]; exact c2.imp (fun h => ⟨h.1, h.2.1⟩)
    · rw [List.pairwise_map]
      exact List.Pairwise.imp_of_mem (fun {a b} ha hb h => leaf_anti (hF a ha).1 (hF b hb).1 h) hFd
    · obtain ⟨q, hq, rfl⟩ := List.mem_map.1 ha
      obtain ⟨y, hy, rfl⟩ := List.mem_map.1 hb
      have h1 := (c1 q hq).out y.l (hF y hy).2.2.2
      have h2 := (hJ q hq).2.le
      exact ⟨h1, by show ((comL q.1.l y.l : Nat) : Int) < 256; omega⟩
  have hUF : (S.filter (notIn ls) ++ F).Pairwise (fun a b => a.l ≠ b.l) := by
    refine List.pairwise_append.2 ⟨(rise_ne hr).filter _, hFd, fun a ha b hb he => ?_⟩
    exact (hU a ha).2 (he ▸ (hF b hb).2.2.2)
  have a2 : ((S.filter (notIn ls) ++ F).map leafI).Pairwise Anti := by
    rw [List.pairwise_map]
    refine List.Pairwise.imp_of_mem (fun {a b} ha hb h => leaf_anti ?_ ?_ h) hUF
    · rcases List.mem_append.1 ha with h | h
      · exact hok a (hU a h).1
      · exact (hF a h).1
    · rcases List.mem_append.1 hb with h | h
      · exact hok b (hU b h).1
      · exact (hF b h).1
  have e1 := chk_anti (l := r.map (·.1) ++ F.map leafI) (by rw [List.length_append, List.length_map (f := leafI)]; omega) (fun x hx => by
    rcases List.mem_append.1 hx with h | h
    · exact gP x h
    · exact gF x h) ok1 a1
  have e2 := chk_anti (l := (S.filter (notIn ls) ++ F).map leafI) (by
    have := List.length_filter_le (notIn ls) S
    rw [List.length_map, List.length_append]; omega) (fun x hx => by
    obtain ⟨y, hy, rfl⟩ := List.mem_map.1 hx
    rcases List.mem_append.1 hy with h | h
    · exact hg1 y (hU y h).1
    · exact gF _ (List.mem_map_of_mem h)) ok2 a2
  refine ⟨e1, e2, ?_, c4, okP, List.pairwise_map.2 (c2.imp (fun h => h.2.2.2.2))⟩
  rw [top_trJ ok1 e1, top_trJ ok2 e2]
  have ht := trJ_blocks r (F.map leafI) hJ c2 (fun q hq x hx => by
    obtain ⟨y, hy, rfl⟩ := List.mem_map.1 hx
    exact ⟨leafI_ok y (hF y hy).1, (c1 q hq).out y.l (hF y hy).2.2.2⟩) (fun q hq y hy => hok y ((c1 q hq).sub y hy))
  rw [c3, ← List.map_append] at ht
  rw [ht]
  have hnil : (r.map (·.1) ++ F.map leafI = []) ↔ ((S.filter (notIn ls) ++ F).map leafI = []) := by
    rw [List.map_append, ← c3]
    cases r with
    | nil => rfl
    | cons q r =>
      constructor
      · intro h; cases h
      · intro h
        exfalso
        have h1 := (List.append_eq_nil_iff.1 h).1
        rw [List.flatMap_cons, List.map_append] at h1
        exact (c1 q (List.mem_cons_self ..)).ne (List.map_eq_nil_iff.1 (List.append_eq_nil_iff.1 h1).1)
  by_cases hn : r.map (·.1) ++ F.map leafI = []
  · rw [if_pos hn, if_pos (hnil.1 hn)]
  · rw [if_neg hn, if_neg (fun h => hn (hnil.2 h))]
/-- What is sorted of lists that are one but for their order. -/
theorem srt_eq {a b : List Itm} (h : a.Perm b) (hc : chkI (srtI b) = 0) : srtI a = srtI b := srt_perm h (chkI_rise hc).2.1
theorem srt_id {a : List Itm} (h : RiseI a) : srtI a = a := sortS_id woI (h.imp (fun {x y} hxy => by
  show decide (cmpS y.l x.l < 0) = false
  exact decide_eq_false (fun h2 => by
    have := cmp_trans hxy h2
    rw [cmpS_eq] at this; omega)))
/-- The leaves of a tree have unlike labels. -/
theorem itms_ne {L : List Lef} (hc : chkI (itmsL L) = 0) : L.Pairwise (fun a b => a.l ≠ b.l) := by
  have h1 := (chkI_rise hc).2.1
  rw [itms_map] at h1
  exact (List.Perm.pairwise_iff (fun h => Ne.symm h) (srtL_perm L)).1 (rise_ne h1)
theorem filt_one {L : List Lef} (hd : L.Pairwise (fun a b => a.l ≠ b.l)) (j : Nat) (hj : j < L.length) : L.filter (notIn [L[j].l]) = L.take j ++ L.drop (j + 1) ∧ L.filter (fun x => [L[j].l].contains x.l) = [L[j]] := by
  have e : L = L.take j ++ L[j] :: L.drop (j + 1) := by rw [← List.drop_eq_getElem_cons hj]; exact (List.take_append_drop j L).symm
  generalize hx : L[j] = x at e ⊢
  have hd2 := hd
  rw [e] at hd2
  obtain ⟨d1, d2, d3⟩ := List.pairwise_append.1 hd2
  obtain ⟨d4, d5⟩ := List.pairwise_cons.1 d2
  have n1 : ∀ y ∈ L.take j, [x.l].contains y.l = false := fun y hy => by
    have := d3 y hy x (List.mem_cons_self ..)
    simp [this]
  have n2 : ∀ y ∈ L.drop (j + 1), [x.l].contains y.l = false := fun y hy => by
    have := d4 y hy
    simp [Ne.symm this]
  have n3 : [x.l].contains x.l = true := by simp
  generalize L.take j = A at *
  generalize L.drop (j + 1) = B at *
  constructor
  · conv => lhs; rw [e]
    rw [List.filter_append, List.filter_eq_self.2 (fun y hy => by unfold notIn; rw [n1 y hy]; rfl), List.filter_cons_of_neg (by unfold notIn; rw [n3]; decide), List.filter_eq_self.2 (fun y hy => by unfold notIn; rw [n2 y hy]; rfl)]
  · conv => lhs; rw [e]
    rw [List.filter_append, List.filter_eq_nil_iff.2 (fun y hy => by rw [n1 y hy]; decide), List.filter_cons_of_pos (by rw [n3]), List.filter_eq_nil_iff.2 (fun y hy => by rw [n2 y hy]; decide)]; rfl
end Go.Proofs.Ytpjfhllkckdejaa
set_option maxHeartbeats 16000000
set_option maxRecDepth 100000
namespace Go.Proofs.Ytpjfhllkckdejaa
open Go Go.RowKit
def atB (ls : List (List UInt8)) (l : List UInt8) : Bool := ls.any (fun b => b == l)
theorem atB_iff {ls : List (List UInt8)} {l : List UInt8} : atB ls l = true ↔ l ∈ ls := by
  unfold atB
  rw [List.any_eq_true]
  exact ⟨fun ⟨x, hx, h⟩ => by rw [← beq_iff_eq.1 h]; exact hx, fun h => ⟨l, h, beq_self_eq_true _⟩⟩
theorem atB_con (ls : List (List UInt8)) (l : List UInt8) : atB ls l = ls.contains l := by
  cases h : ls.contains l
  · cases h2 : atB ls l
    · rfl
    · rw [List.contains_iff_mem.2 (atB_iff.1 h2)] at h; cases h
  · exact atB_iff.2 (List.contains_iff_mem.1 h)
theorem at_spec (x : Lef) (ls : List (List UInt8)) (hls : ls.length ≤ 100000) : Spec Try.prog 35 [x.A, .sl 32 (ls.map labA)] [] (fun v os => v = .b (atB ls x.l) ∧ os = []) := by
  obtain ⟨R, hR⟩ : ∃ R, (ls.drop 0).any (fun b => b == x.l) = R := ⟨_, rfl⟩
  have hR2 : atB ls x.l = R := hR
  rw [hR2]
  clear hR2
  obtain ⟨l, u, t⟩ := x
  dsimp only at hR
  show Spec Try.prog 35 [.agg [labA l, labA u, .i .i64 t], .sl 32 (ls.map labA)] [] _
  refine spec_of TtOk [] Try.func35 rfl Try.ntmps35 (by kernel_rfl) rfl rfl (fun C => ?_) rfl
  repeat' (first | refine Awp.seq ?_ | refine Awp.block ?_ | refine Awp.region ?_ | (refine Ops.nil ?_; show Awp _ _ _ _ _) | refine o_len rfl TtOk rfl rfl rfl (fun _ => ?_) | (refine o_calm rfl TtOk rfl rfl rfl ?_ (fun _ => ?_); first | exact True.intro | exact ⟨rfl, rfl, rfl, rfl⟩ | exact ⟨rfl, True.intro⟩ | exact ⟨rfl, rfl⟩ | exact ⟨rfl, rfl, rfl⟩ | exact rfl | exact ⟨fun h0 => by cases h0, rfl⟩ | exact (fun h0 => by cases h0) | exact ⟨rfl, by omega⟩ | exact ⟨Nat.succ_ne_zero _, rfl⟩ | omega) | refine o_box (d := 2) rfl rfl rfl rfl (fun b2 => ?_))
  refine Awp.loop (fun i : Nat => ⟨18, [(9, .i .i64 i), (8, .i .i64 ls.length), (7, .sl 32 (ls.map labA)), (2, .ptr 2 b2 [] 0)], [(2, .var b2 (.agg [labA l, labA u, .i .i64 t]))]⟩) (fun i => i ≤ ls.length ∧ (ls.drop i).any (fun b => b == l) = R) (fun i => ls.length - i) [] 0 ⟨Nat.zero_le _, hR⟩ ?_ ?_
  · exact ⟨rfl, ⟨sle_i rfl, sle_i rfl, sle_sl rfl, sle_ptr, True.intro⟩, HLe.cons 2 rfl (HOLe.refl _) .nil⟩
  rintro i ⟨hi, hst⟩
  by_cases hlt : i < ls.length
  · have hi1 : ((i : Int) + 1 = ((i + 1 : Nat) : Int)) := by omega
    rw [any_drop _ ls hlt] at hst
    by_cases hq : (ls[i] == l) = true
    · rw [hq, Bool.true_or] at hst
      subst hst
      repeat' (first | (rw [hq]) | refine Awp.seq ?_ | refine Awp.block ?_ | refine Awp.region ?_ | (refine Ops.nil ?_; show Awp _ _ _ _ _) | (refine Awp.skip ?_; show Awp _ _ _ _ _) | (refine Awp.ret ?_; show endK _ _ _ _ _) | (refine o_calm rfl TtOk rfl rfl rfl ?_ (fun _ => ?_); first | exact True.intro | exact ⟨rfl, rfl, rfl, rfl⟩ | exact ⟨rfl, True.intro⟩ | exact ⟨rfl, rfl⟩ | exact ⟨rfl, rfl, rfl⟩ | exact rfl | exact ⟨fun h0 => by cases h0, rfl⟩ | exact (fun h0 => by cases h0) | exact ⟨rfl, by omega⟩ | exact ⟨Nat.succ_ne_zero _, rfl⟩ | omega) | refine o_alloc (d := 6) rfl TtOk rfl rfl rfl (fun b6 => ?_) | refine o_store TtOk rfl rfl rfl rfl rfl rfl rfl ⟨rfl, rfl⟩ rfl rfl rfl rfl rfl ?_ | (refine o_index rfl TtOk rfl rfl rfl rfl rfl rfl ?_ (getq_nat ?_) ?_; omega; omega) | refine o_eqArr8 TtOk rfl rfl rfl rfl rfl rfl (by kernel_rfl) ?_ | refine a_condT rfl ?_ | (refine a_condP rfl (fun hc => ?_) (fun hc => ?_)) <;> (try (exfalso; omega)))
      exact end_tmp rfl rfl rfl [] [] (CLe.of_eq rfl) .nil ⟨rfl, rfl⟩ _ (.inl rfl)
    · have hq : (ls[i] == l) = false := by revert hq; cases (ls[i] == l) <;> simp
      rw [hq, Bool.false_or] at hst
      repeat' (first | (rw [hq]) | refine Awp.seq ?_ | refine Awp.block ?_ | refine Awp.region ?_ | (refine Ops.nil ?_; show Awp _ _ _ _ _) | (refine Ops.nil ?_; show Exists _) | (refine Awp.skip ?_; show Awp _ _ _ _ _) | (refine o_add rfl rfl rfl rfl ?_ ?_; omega) | (refine o_calm rfl TtOk rfl rfl rfl ?_ (fun _ => ?_); first | exact True.intro | exact ⟨rfl, rfl, rfl, rfl⟩ | exact ⟨rfl, True.intro⟩ | exact ⟨rfl, rfl⟩ | exact ⟨rfl, rfl, rfl⟩ | exact rfl | exact ⟨fun h0 => by cases h0, rfl⟩ | exact (fun h0 => by cases h0) | exact ⟨rfl, by omega⟩ | exact ⟨Nat.succ_ne_zero _, rfl⟩ | omega) | refine o_alloc (d := 6) rfl TtOk rfl rfl rfl (fun b6 => ?_) | refine o_store TtOk rfl rfl rfl rfl rfl rfl rfl ⟨rfl, rfl⟩ rfl rfl rfl rfl rfl ?_ | (refine o_index rfl TtOk rfl rfl rfl rfl rfl rfl ?_ (getq_nat ?_) ?_; omega; omega) | refine o_eqArr8 TtOk rfl rfl rfl rfl rfl rfl (by kernel_rfl) ?_ | refine a_condF rfl ?_ | (refine a_condP rfl (fun hc => ?_) (fun hc => ?_)) <;> (try (exfalso; omega)))
      exact ⟨i + 1, [], ⟨hlt, hst⟩, by omega, rfl, ⟨sle_i hi1, sle_i rfl, sle_sl rfl, sle_ptr, True.intro⟩, HLe.cons 2 rfl (HOLe.refl _) .nil⟩
  · have hie : i = ls.length := by omega
    subst hie
    rw [List.drop_length] at hst
    have hst : false = R := hst
    subst hst
    repeat' (first | refine Awp.seq ?_ | refine Awp.region ?_ | (refine Ops.nil ?_; show Awp _ _ _ _ _) | (refine Awp.exit ?_; show Awp _ _ _ _ _) | (refine Awp.ret ?_; show endK _ _ _ _ _) | (refine o_calm rfl TtOk rfl rfl rfl ?_ (fun _ => ?_); first | exact True.intro | exact ⟨rfl, rfl, rfl, rfl⟩ | exact ⟨rfl, True.intro⟩ | exact ⟨rfl, rfl⟩ | exact ⟨rfl, rfl, rfl⟩ | exact rfl | exact ⟨fun h0 => by cases h0, rfl⟩ | exact (fun h0 => by cases h0) | exact ⟨rfl, by omega⟩ | exact ⟨Nat.succ_ne_zero _, rfl⟩ | omega) | (refine a_condP rfl (fun hc => ?_) (fun hc => ?_)) <;> (try (exfalso; omega)))
    exact end_tmp rfl rfl rfl [] [] (CLe.of_eq rfl) .nil ⟨rfl, rfl⟩ _ (.inl rfl)
/-- The leaves that come in the place of those at the labels. -/
def freO (B : List (List UInt8)) (i : Nat) (x : Lef) : List Lef := if i < B.length ∧ 0 ≤ x.t ∧ x.t ≤ 1073741824 ∧ atB (B.take i) (B.getD i []) = false then [⟨B.getD i [], x.v, x.t⟩] else []
def freF (B : List (List UInt8)) (fr : List Lef) : Nat → List Lef
  | 0 => []
  | i + 1 => freF B fr i ++ freO B i (fr.getD i ⟨[], [], 0⟩)
theorem freO_mem {B : List (List UInt8)} {i : Nat} {x y : Lef} (h : y ∈ freO B i x) : i < B.length ∧ 0 ≤ y.t ∧ y.t ≤ 1073741824 ∧ B.getD i [] ∉ B.take i ∧ y.l = B.getD i [] ∧ y.v = x.v := by
  unfold freO at h
  split at h
  · rename_i hc
    rw [List.mem_singleton.1 h]
    exact ⟨hc.1, hc.2.1, hc.2.2.1, fun hm => by rw [atB_iff.2 hm] at hc; exact absurd hc.2.2.2 (by decide), rfl, rfl⟩
  · cases h
theorem freF_facts {B : List (List UInt8)} {fr : List Lef} (hB : ∀ x ∈ B, x.length = 32) (hfr : ∀ x ∈ fr, x.ok) : ∀ n, n ≤ fr.length → (∀ y ∈ freF B fr n, y.ok ∧ 0 ≤ y.t ∧ y.t ≤ 1073741824 ∧ y.l ∈ B.take n) ∧ (freF B fr n).Pairwise (fun a b => a.l ≠ b.l) ∧ (freF B fr n).length ≤ n
  | 0, _ => ⟨fun y hy => (by cases hy), List.Pairwise.nil, Nat.le_refl _⟩
  | n + 1, hn => by
    obtain ⟨h1, h2, h3⟩ := freF_facts hB hfr n (by omega)
    have hg : fr.getD n ⟨[], [], 0⟩ = fr[n] := by rw [List.getD_eq_getElem?_getD, List.getElem?_eq_getElem (by omega)]; rfl
    unfold freF
    rw [hg]
    refine ⟨fun y hy => ?_, List.pairwise_append.2 ⟨h2, ?_, fun a ha b hb he => ?_⟩, ?_⟩
    · rcases List.mem_append.1 hy with h | h
      · obtain ⟨a, b, c, d⟩ := h1 y h
        exact ⟨a, b, c, List.mem_of_mem_take (i := n) (by rw [List.take_take, Nat.min_eq_left (by omega)]; exact d)⟩
      · obtain ⟨a, b, c, d, e, f⟩ := freO_mem h
        have hbg : B.getD n [] = B[n] := by rw [List.getD_eq_getElem?_getD, List.getElem?_eq_getElem a]; rfl
        refine ⟨⟨by rw [e, hbg]; exact hB _ (List.getElem_mem a), by rw [f]; exact (hfr _ (List.getElem_mem (by omega))).2⟩, b, c, ?_⟩
        rw [e, hbg, List.take_succ_eq_append_getElem a]
        exact List.mem_append.2 (.inr (List.mem_singleton.2 rfl))
    · unfold freO; split
      · exact List.pairwise_singleton _ _
      · exact List.Pairwise.nil
    · obtain ⟨_, _, _, d, e, _⟩ := freO_mem hb
      exact d (e ▸ he ▸ (h1 a ha).2.2.2)
    · rw [List.length_append]
      have : (freO B n fr[n]).length ≤ 1 := by unfold freO; split <;> simp
      omega
/-- What the statement says of the parts, plainly. -/
theorem parts_law {L fr : List Lef} {B : List (List UInt8)} (hok : ∀ x ∈ L, x.ok) (hl : L.length ≤ 100) (hf : fr.length ≤ 100) (hB : ∀ x ∈ B, x.length = 32) (hfr : ∀ x ∈ fr, x.ok) (hc : chkI (itmsL L) = 0) :
    (∀ x ∈ cvI L B, x.ok) ∧ (cvI L B).length ≤ L.length ∧ (∀ x ∈ cvT L B, x ∈ L ∧ atB B x.l = true) ∧ (cvT L B).length ≤ L.length ∧
    chkI (srtI (cvI L B ++ itmsL (cvT L B))) = 0 ∧ topS (itmsL L) = topS (srtI (cvI L B ++ itmsL (cvT L B))) ∧
    chkI (itmsL (L.filter (fun x => !(atB B x.l)) ++ freF B fr fr.length)) = 0 ∧ chkI (srtI (cvI L B ++ itmsL (freF B fr fr.length))) = 0 ∧
    topS (itmsL (L.filter (fun x => !(atB B x.l)) ++ freF B fr fr.length)) = topS (srtI (cvI L B ++ itmsL (freF B fr fr.length))) := by
  have hcs : chkI ((srtL L).map leafI) = 0 := by rw [← itms_map]; exact hc
  have hE : cvE L = 0 := by unfold cvE; rw [itms_srt]; exact hc
  have hI : cvI L B = (openF L.length B (srtL L)).1 := by unfold cvI; rw [if_pos hE]
  have hT : cvT L B = (openF L.length B (srtL L)).2 := by unfold cvT; rw [if_pos hE]
  have hsl := srtL_len L
  have oks : ∀ x ∈ srtL L, x.ok := fun x hx => hok x (srtL_mem.1 hx)
  obtain ⟨hl1, hl2⟩ := openF_len L.length B (srtL L)
  rw [hsl] at hl1 hl2
  have hgd := (chkI_rise hcs).2.2
  have hp := srtL_perm L
  obtain ⟨F1, F2, F3⟩ := freF_facts hB hfr fr.length (Nat.le_refl _)
  have F1' : ∀ x ∈ freF B fr fr.length, x.ok ∧ 0 ≤ x.t ∧ x.t ≤ 1073741824 ∧ x.l ∈ B := fun x hx => by
    obtain ⟨a, b, c, d⟩ := F1 x hx
    exact ⟨a, b, c, List.mem_of_mem_take d⟩
  generalize freF B fr fr.length = F at *
  obtain ⟨c1, c2, c3, c4, c5, c6⟩ := cover_top (S := srtL L) (F := F) hB hcs oks F1' F2 (by omega)
  rw [hsl] at c1 c3 c4 c5 c6
  have Tm : ∀ x ∈ cvT L B, x ∈ srtL L ∧ x.l ∈ B := fun x hx => by
    rw [hT, c4] at hx
    exact ⟨(List.mem_filter.1 hx).1, List.contains_iff_mem.1 (List.mem_filter.1 hx).2⟩
  have hrs := rise_ne (chkI_rise hcs).2.1
  have hTd : (cvT L B).Pairwise (fun a b => a.l ≠ b.l) := by rw [hT, c4]; exact hrs.filter _
  have hTl : (cvT L B).length ≤ L.length := by rw [hT]; exact hl2
  obtain ⟨d1, d2, d3, d4, d5, d6⟩ := cover_top (S := srtL L) (F := cvT L B) hB hcs oks (fun x hx => by
    obtain ⟨a, b⟩ := Tm x hx
    have g := good_t (hgd _ (List.mem_map_of_mem a))
    exact ⟨oks x a, g.1, g.2, b⟩) hTd (by omega)
  rw [hsl] at d1 d3
  rw [← hI] at c1 c3 c5 c6 d1 d3 hl1
  have e1 : srtI (cvI L B ++ itmsL (cvT L B)) = srtI (cvI L B ++ (cvT L B).map leafI) := srt_eq ((srtI_perm _).append_left _) d1
  have e2 : srtI (cvI L B ++ itmsL F) = srtI (cvI L B ++ F.map leafI) := srt_eq ((srtI_perm _).append_left _) c1
  have hnot : (fun x : Lef => !(atB B x.l)) = notIn B := by funext x; unfold notIn; rw [atB_con]
  have e3 : itmsL (L.filter (notIn B) ++ F) = srtI (((srtL L).filter (notIn B) ++ F).map leafI) := srt_eq (((hp.symm.filter _).append_right F).map _) c2
  have e4 : itmsL L = srtI (((srtL L).filter (notIn B) ++ cvT L B).map leafI) := by
    refine srt_eq (List.Perm.map _ ?_) d2
    refine hp.symm.trans ?_
    rw [hT, c4]
    refine (List.filter_append_perm (notIn B) (srtL L)).symm.trans ?_
    have : (srtL L).filter (fun x => !(notIn B x)) = (srtL L).filter (fun x => B.contains x.l) := by
      congr 1
      funext x
      unfold notIn
      rw [Bool.not_not]
    rw [this]
  rw [hnot, e1, e2, e3]
  refine ⟨c5, hl1, fun x hx => ⟨srtL_mem.1 (Tm x hx).1, atB_iff.2 (Tm x hx).2⟩, hTl, d1, ?_, c2, c1, c3.symm⟩
  conv => lhs; rw [e4]
  exact d3.symm
end Go.Proofs.Ytpjfhllkckdejaa
