/- The way of a tree, walked up, ends at its top. No program in sight. -/
import Derived.Test.YtcmgpkibjdbonaaGreatPF3Z
import Derived.Test.YtcmgpkibjdbonaaGreatPF4Z
set_option maxHeartbeats 4000000
namespace Go.Proofs.YtcmgpkibjdbonaaGreat
open Go Go.RowKit
def Nod.itm : Nod → Itm
  | .no => itm0
  | .lf x => leafI x
  | .inn x y => innI x y
def Nod.txt : Nod → List UInt8
  | .no => []
  | .lf x => leafB x
  | .inn x y => innB x y
def Nod.ok : Nod → Prop
  | .no => True
  | .lf x => x.ok
  | .inn x y => x.ok ∧ y.ok
/-- Leaves that rise and are good. -/
structure Rsn (l : List Lef) : Prop where
  rise : RiseI (l.map leafI)
  ok : ∀ x ∈ l, x.ok
  good : ∀ x ∈ l, goodI (leafI x) = true
theorem Rsn.take {l : List Lef} (h : Rsn l) (i : Nat) : Rsn (l.take i) := ⟨by rw [List.map_take]; exact h.rise.sublist (List.take_sublist ..), fun x hx => h.ok x (List.mem_of_mem_take hx), fun x hx => h.good x (List.mem_of_mem_take hx)⟩
theorem Rsn.drop {l : List Lef} (h : Rsn l) (i : Nat) : Rsn (l.drop i) := ⟨by rw [List.map_drop]; exact h.rise.sublist (List.drop_sublist ..), fun x hx => h.ok x (List.mem_of_mem_drop hx), fun x hx => h.good x (List.mem_of_mem_drop hx)⟩
theorem Rsn.okI {l : List Lef} (h : Rsn l) : ∀ x ∈ l.map leafI, x.ok := hok_map h.ok
theorem Rsn.goodI {l : List Lef} (h : Rsn l) : ∀ x ∈ l.map leafI, goodI x = true := fun x hx => by
  obtain ⟨y, hy, rfl⟩ := List.mem_map.1 hx
  exact h.good y hy
/-- The item of leaves. -/
def jnI (l : List Lef) : Itm := joinF l.length (l.map leafI)
theorem Rsn.join {l : List Lef} (h : Rsn l) (h0 : 0 < l.length) : JoinB (jnI l) (l.map leafI) ∧ Go.Proofs.YtcmgpkibjdbonaaGreat.goodI (jnI l) = true := by
  have h1 : 0 < (l.map leafI).length := by rw [List.length_map]; exact h0
  have hJ := join_B h1 h.rise h.okI (fun x hx => good_n (h.goodI x hx))
  have ht := joinF_t (l.map leafI).length (l.map leafI) (List.length_pos_iff.1 h1) (Nat.le_refl _) h.rise h.okI (fun x hx => good_t (h.goodI x hx))
  rw [List.length_map] at hJ ht
  refine ⟨hJ, ?_⟩
  have ht : 0 ≤ (jnI l).t ∧ (jnI l).t ≤ 1073741824 := ht
  have hg := hJ.good h.goodI
  unfold Go.Proofs.YtcmgpkibjdbonaaGreat.goodI
  rw [show (⟨(jnI l).n, (jnI l).l⟩ : Pfx) = (joinF l.length (l.map leafI)).p from rfl, hg, decide_eq_true ht.1, decide_eq_true ht.2]; rfl
/-- Of leaves all of which have some bits in common, the item is one further. -/
theorem Rsn.deep {l : List Lef} (h : Rsn l) (h0 : 0 < l.length) {n : Nat} (hn : n < 256) (hb : ∀ x ∈ l, ∀ y ∈ l, ∀ i, i ≤ n → bitL x.l i = bitL y.l i) : ((n : Nat) : Int) < (jnI l).n ∧ ∀ y ∈ l, bitL (jnI l).l n = bitL y.l n := by
  have h1 : 0 < (l.map leafI).length := by rw [List.length_map]; exact h0
  have hlt : ((n : Nat) : Int) < (jnI l).n := by
    obtain ⟨a, b⟩ := join_pfx _ (l.map leafI) h1 (Nat.le_refl _) h.rise h.okI
    rw [List.length_map] at a b
    unfold jnI
    by_cases h1 : l.length = 1
    · rw [a h1, List.getElem_map]; show ((n : Nat) : Int) < 256; omega
    · rw [(b (by omega)).1]
      have := frk_gt h.okI (by rw [List.length_map]; exact h0) hn (fun x hx i hi => by
        obtain ⟨y, hy, rfl⟩ := List.mem_map.1 hx
        rw [List.getElem_map]
        exact hb y hy _ (List.getElem_mem _) i hi)
      omega
  refine ⟨hlt, fun y hy => ?_⟩
  exact ((h.join h0).1.agree (leafI y) (List.mem_map_of_mem hy) n hlt).symm
/-- What is known of the two sides. -/
structure Sides (l : List Lef) : Prop where
  s0 : 0 < splI (l.map leafI)
  sl : splI (l.map leafI) < l.length
  f256 : frkI (l.map leafI) < 256
  jA : parA (l.map leafI) = jnI (l.take (splI (l.map leafI)))
  jB : parB (l.map leafI) = jnI (l.drop (splI (l.map leafI)))
  oA : (parA (l.map leafI)).ok
  oB : (parB (l.map leafI)).ok
  jn : jnI l = innI (parA (l.map leafI)) (parB (l.map leafI))
  com : comL (parA (l.map leafI)).l (parB (l.map leafI)).l = frkI (l.map leafI)
  bA : bitL (parA (l.map leafI)).l (frkI (l.map leafI)) = 0
  bB : bitL (parB (l.map leafI)).l (frkI (l.map leafI)) = 1
  lo : ∀ x ∈ l.take (splI (l.map leafI)), bitL x.l (frkI (l.map leafI)) = 0
  hi : ∀ x ∈ l.drop (splI (l.map leafI)), bitL x.l (frkI (l.map leafI)) = 1
  chk : chkN (parA (l.map leafI)) (parB (l.map leafI)) = 0
  cmp : cmpS (parA (l.map leafI)).l (parB (l.map leafI)).l < 0
theorem Rsn.sides {l : List Lef} (h : Rsn l) (h2 : 2 ≤ l.length) : Sides l := by
  have hml : (l.map leafI).length = l.length := List.length_map ..
  have h2I : 2 ≤ (l.map leafI).length := by omega
  obtain ⟨hf, s0, s1, _⟩ := spl_ok h.rise h.okI h2I
  obtain ⟨oA, oB⟩ := par_ok h.rise h.okI h2I
  have hjn := join_par h2I
  have hlo : ∀ x ∈ l.take (splI (l.map leafI)), bitL x.l (frkI (l.map leafI)) = 0 := fun x hx => by
    obtain ⟨j, hj, rfl⟩ := List.getElem_of_mem hx
    rw [List.length_take] at hj
    rw [List.getElem_take]
    have := spl_lo (l := l.map leafI) j (by omega) (by omega)
    rw [List.getElem_map] at this
    exact this
  have hhi : ∀ x ∈ l.drop (splI (l.map leafI)), bitL x.l (frkI (l.map leafI)) = 1 := fun x hx => by
    obtain ⟨j, hj, rfl⟩ := List.getElem_of_mem hx
    rw [List.length_drop] at hj
    rw [List.getElem_drop]
    have := spl_hi h.rise h.okI h2I (splI (l.map leafI) + j) (by omega) (by omega)
    rw [List.getElem_map] at this
    exact this
  have hbits : ∀ x ∈ l, ∀ y ∈ l, ∀ i, i < frkI (l.map leafI) → bitL x.l i = bitL y.l i := fun x hx y hy i hi => by
    obtain ⟨j, hj, rfl⟩ := List.getElem_of_mem hx
    obtain ⟨k, hk, rfl⟩ := List.getElem_of_mem hy
    have a := rise_bits h.rise h.okI (by omega) j (by omega) i hi
    have b := rise_bits h.rise h.okI (by omega) k (by omega) i hi
    rw [List.getElem_map] at a b
    exact a.trans b.symm
  have tk : (l.take (splI (l.map leafI))).length = splI (l.map leafI) := by rw [List.length_take]; omega
  have dr : (l.drop (splI (l.map leafI))).length = l.length - splI (l.map leafI) := List.length_drop
  have n1 : l.take (splI (l.map leafI)) ≠ [] := fun he => by rw [he] at tk; simp at tk; omega
  have n2 : l.drop (splI (l.map leafI)) ≠ [] := fun he => by rw [he] at dr; simp at dr; omega
  have e1 : parA (l.map leafI) = jnI (l.take (splI (l.map leafI))) := by
    unfold parA jnI
    rw [← List.map_take]
    exact (joinF_fuel _ _ _ (fun he => n1 (List.map_eq_nil_iff.1 he)) (by rw [List.length_map]; exact Nat.le_refl _) (by rw [List.length_map]; omega) (h.take _).rise (h.take _).okI).symm
  have e2 : parB (l.map leafI) = jnI (l.drop (splI (l.map leafI))) := by
    unfold parB jnI
    rw [← List.map_drop]
    exact (joinF_fuel _ _ _ (fun he => n2 (List.map_eq_nil_iff.1 he)) (by rw [List.length_map]; exact Nat.le_refl _) (by rw [List.length_map]; omega) (h.drop _).rise (h.drop _).okI).symm
  obtain ⟨dA, bA'⟩ := (h.take (splI (l.map leafI))).deep (by omega) hf (fun x hx y hy i hi => by
    rcases Nat.lt_or_ge i (frkI (l.map leafI)) with hlt | hge
    · exact hbits x (List.mem_of_mem_take hx) y (List.mem_of_mem_take hy) i hlt
    · have : i = frkI (l.map leafI) := by omega
      subst this
      rw [hlo x hx, hlo y hy])
  obtain ⟨dB, bB'⟩ := (h.drop (splI (l.map leafI))).deep (by omega) hf (fun x hx y hy i hi => by
    rcases Nat.lt_or_ge i (frkI (l.map leafI)) with hlt | hge
    · exact hbits x (List.mem_of_mem_drop hx) y (List.mem_of_mem_drop hy) i hlt
    · have : i = frkI (l.map leafI) := by omega
      subst this
      rw [hhi x hx, hhi y hy])
  obtain ⟨jA, gA⟩ := (h.take (splI (l.map leafI))).join (by omega)
  obtain ⟨jB, gB⟩ := (h.drop (splI (l.map leafI))).join (by omega)
  obtain ⟨xa, ra, hxa⟩ := List.exists_cons_of_ne_nil n1
  obtain ⟨xb, rb, hxb⟩ := List.exists_cons_of_ne_nil n2
  have ma : xa ∈ l.take (splI (l.map leafI)) := by rw [hxa]; exact List.mem_cons_self ..
  have mb : xb ∈ l.drop (splI (l.map leafI)) := by rw [hxb]; exact List.mem_cons_self ..
  have bA : bitL (parA (l.map leafI)).l (frkI (l.map leafI)) = 0 := by rw [e1, bA' xa ma, hlo xa ma]
  have bB : bitL (parB (l.map leafI)).l (frkI (l.map leafI)) = 1 := by rw [e2, bB' xb mb, hhi xb mb]
  have hcom : comL (parA (l.map leafI)).l (parB (l.map leafI)).l = frkI (l.map leafI) := by
    refine com_is oA.1 oB.1 hf (fun i hi => ?_) (by rw [bA, bB]; decide)
    rw [e1, e2, ← jA.agree (leafI xa) (List.mem_map_of_mem ma) i (by omega), ← jB.agree (leafI xb) (List.mem_map_of_mem mb) i (by omega)]
    exact hbits xa (List.mem_of_mem_take ma) xb (List.mem_of_mem_drop mb) i hi
  have hcmp : cmpS (parA (l.map leafI)).l (parB (l.map leafI)).l < 0 := lt_cmp oA.1 oB.1 (by omega) (by rw [hcom]; exact bA)
  have hck : chkN (parA (l.map leafI)) (parB (l.map leafI)) = 0 := by
    unfold chkN
    rw [if_pos ⟨by rw [e1]; exact gA, by rw [e2]; exact gB⟩, hcom, if_neg]
    rintro (q | q | q)
    · rw [e1] at q; omega
    · rw [e2] at q; omega
    · omega
  exact ⟨s0, by omega, hf, e1, e2, oA, oB, by unfold jnI; rw [← hml]; exact hjn, hcom, bA, bB, hlo, hhi, hck, hcmp⟩
theorem cmp_pos {a b : List UInt8} (h : cmpS a b < 0) : 0 < cmpS b a := by rw [cmpS_gt (cmpS_neg.1 h)]; decide
/-- A step up, from either side. -/
theorem Sides.up {l : List Lef} (h : Sides l) {lb : List UInt8} (hh : hasP (jnI l).p lb = true) (c : Nat) (hc : bitL lb (frkI (l.map leafI)) = c) (x y : Itm) (hx : x = if c = 1 then parB (l.map leafI) else parA (l.map leafI)) (hy : y = if c = 1 then parA (l.map leafI) else parB (l.map leafI)) :
    upL x y = parA (l.map leafI) ∧ upR x y = parB (l.map leafI) ∧ upE x y lb = 0 := by
  have hLR : upL x y = parA (l.map leafI) ∧ upR x y = parB (l.map leafI) := by
    unfold upL upR
    by_cases h1 : c = 1
    · rw [if_pos h1] at hx hy
      subst hx; subst hy
      rw [if_pos (cmp_pos h.cmp), if_pos (cmp_pos h.cmp)]; exact ⟨rfl, rfl⟩
    · rw [if_neg h1] at hx hy
      subst hx; subst hy
      have := h.cmp
      rw [if_neg (by omega), if_neg (by omega)]; exact ⟨rfl, rfl⟩
  refine ⟨hLR.1, hLR.2, ?_⟩
  unfold upE
  rw [hLR.1, hLR.2, h.chk, if_neg (by decide), ← h.jn, hh, h.com]
  refine if_pos ⟨rfl, ?_⟩
  have hf := h.f256
  unfold bitN
  rw [if_pos hf, if_pos hf, hc, hx]
  have hbo := bitL_or lb (frkI (l.map leafI))
  rw [hc] at hbo
  rcases hbo with rfl | rfl
  · rw [if_neg (by decide), h.bA]
  · rw [if_pos rfl, h.bB]
/-- The nodes of the way, the top first. -/
def wayN : Nat → List Lef → List UInt8 → List Nod
  | 0, _, _ => []
  | k + 1, l, lb => if l = [] then [] else if l.length = 1 then [.lf (l.headD lef0)]
    else if hasP (joinF l.length (l.map leafI)).p lb = false then [.inn (parA (l.map leafI)) (parB (l.map leafI))]
    else if bitL lb (frkI (l.map leafI)) = 1 then .inn (parA (l.map leafI)) (parB (l.map leafI)) :: wayN k (l.drop (splI (l.map leafI))) lb else .inn (parA (l.map leafI)) (parB (l.map leafI)) :: wayN k (l.take (splI (l.map leafI))) lb
/-- What the end of a way is. -/
def WayEnd (l : List Lef) (lb : List UInt8) (P : Prf) (n0 : Nod) : Prop :=
  (P.e = 1 ∧ P.lf ∈ l ∧ n0 = .lf P.lf ∧ P.a = itm0 ∧ P.b = itm0) ∨ (P.e = 2 ∧ P.lf = lef0 ∧ n0 = .inn P.a P.b ∧ chkN P.a P.b = 0 ∧ hasP (innI P.a P.b).p lb = false ∧ P.a.ok ∧ P.b.ok)
theorem ups_step {x y : Itm} {lb : List UInt8} (h : upE x y lb = 0) {r : List Itm} : upsF x (y :: r) lb = (.inn (upL x y) (upR x y) :: (upsF (innI (upL x y) (upR x y)) r lb).1, (upsF (innI (upL x y) (upR x y)) r lb).2) := by
  rw [upsF, h, if_neg (by decide)]
theorem way_up : ∀ (k : Nat) (l : List Lef) (lb : List UInt8) (p : List Itm), l.length < k → Rsn l → l ≠ [] →
    ∃ (q : List Itm) (n0 : Nod) (ns : List Nod), (wayF k l lb p).path = q ++ p.reverse ∧ q.length < l.length ∧ (∀ x ∈ q, x.ok) ∧ wayN k l lb = (n0 :: ns).reverse ∧ WayEnd l lb (wayF k l lb p) n0 ∧
      ∀ r, upsF n0.itm (q ++ r) lb = (ns ++ (upsF (jnI l) r lb).1, (upsF (jnI l) r lb).2)
  | 0, l, lb, p, hk, h, hn => by omega
  | k + 1, l, lb, p, hk, h, hn => by
    have hp : 0 < l.length := List.length_pos_iff.2 hn
    unfold wayF wayN
    rw [if_neg hn, if_neg hn]
    by_cases h1 : l.length = 1
    · rw [if_pos h1, if_pos h1]
      obtain ⟨x, rfl⟩ := List.length_eq_one_iff.1 h1
      exact ⟨[], .lf x, [], rfl, hp, (fun x hx => by cases hx), rfl, .inl ⟨rfl, List.mem_cons_self .., rfl, rfl, rfl⟩, fun r => rfl⟩
    rw [if_neg h1, if_neg h1]
    have h2 : 2 ≤ l.length := by omega
    have hS := h.sides h2
    by_cases hh : hasP (joinF l.length (l.map leafI)).p lb = false
    · rw [if_pos hh, if_pos hh]
      refine ⟨[], .inn (parA (l.map leafI)) (parB (l.map leafI)), [], rfl, hp, (fun x hx => by cases hx), rfl, .inr ⟨rfl, rfl, rfl, hS.chk, ?_, hS.oA, hS.oB⟩, fun r => ?_⟩
      · show hasP (innI (parA (l.map leafI)) (parB (l.map leafI))).p lb = false
        rw [← hS.jn]; exact hh
      · rw [hS.jn]; rfl
    rw [if_neg hh, if_neg hh]
    have hh : hasP (jnI l).p lb = true := by
      cases h3 : hasP (jnI l).p lb with
      | true => rfl
      | false => exact absurd h3 hh
    have hlt := hS.sl
    have hs0 := hS.s0
    have tk : (l.take (splI (l.map leafI))).length = splI (l.map leafI) := by rw [List.length_take]; omega
    have dr : (l.drop (splI (l.map leafI))).length = l.length - splI (l.map leafI) := List.length_drop
    by_cases hb : bitL lb (frkI (l.map leafI)) = 1
    · rw [if_pos hb, if_pos hb]
      obtain ⟨q, n0, ns, p1, p2, p3, p4, p5, p6⟩ := way_up k (l.drop (splI (l.map leafI))) lb (p ++ [parA (l.map leafI)]) (by omega) (h.drop _) (fun he => by rw [he] at dr; simp at dr; omega)
      obtain ⟨u1, u2, u3⟩ := hS.up hh 1 hb (jnI (l.drop (splI (l.map leafI)))) (parA (l.map leafI)) (by rw [if_pos rfl, hS.jB]) rfl
      refine ⟨q ++ [parA (l.map leafI)], n0, ns ++ [.inn (parA (l.map leafI)) (parB (l.map leafI))], ?_, ?_, ?_, ?_, ?_, fun r => ?_⟩
      · rw [p1, List.reverse_append, List.append_assoc]; rfl
      · rw [List.length_append, List.length_singleton]; omega
      · intro x hx
        rcases List.mem_append.1 hx with hx | hx
        · exact p3 x hx
        · rw [List.mem_singleton.1 hx]; exact hS.oA
      · rw [p4, ← List.cons_append, List.reverse_append]; rfl
      · rcases p5 with ⟨a, b, c⟩ | h
        · exact .inl ⟨a, List.mem_of_mem_drop b, c⟩
        · exact .inr h
      · rw [List.append_assoc, p6]
        rw [show [parA (l.map leafI)] ++ r = parA (l.map leafI) :: r from rfl, ups_step u3, u1, u2, ← hS.jn, List.append_assoc]; rfl
    · rw [if_neg hb, if_neg hb]
      obtain ⟨q, n0, ns, p1, p2, p3, p4, p5, p6⟩ := way_up k (l.take (splI (l.map leafI))) lb (p ++ [parB (l.map leafI)]) (by omega) (h.take _) (fun he => by rw [he] at tk; simp at tk; omega)
      have hb0 : bitL lb (frkI (l.map leafI)) = 0 := by rcases bitL_or lb (frkI (l.map leafI)) with q | q; exact q; exact absurd q hb
      obtain ⟨u1, u2, u3⟩ := hS.up hh 0 hb0 (jnI (l.take (splI (l.map leafI)))) (parB (l.map leafI)) (by rw [if_neg (by decide), hS.jA]) rfl
      refine ⟨q ++ [parB (l.map leafI)], n0, ns ++ [.inn (parA (l.map leafI)) (parB (l.map leafI))], ?_, ?_, ?_, ?_, ?_, fun r => ?_⟩
      · rw [p1, List.reverse_append, List.append_assoc]; rfl
      · rw [List.length_append, List.length_singleton]; omega
      · intro x hx
        rcases List.mem_append.1 hx with hx | hx
        · exact p3 x hx
        · rw [List.mem_singleton.1 hx]; exact hS.oB
      · rw [p4, ← List.cons_append, List.reverse_append]; rfl
      · rcases p5 with ⟨a, b, c⟩ | h
        · exact .inl ⟨a, List.mem_of_mem_take b, c⟩
        · exact .inr h
      · rw [List.append_assoc, p6]
        rw [show [parB (l.map leafI)] ++ r = parB (l.map leafI) :: r from rfl, ups_step u3, u1, u2, ← hS.jn, List.append_assoc]; rfl
/-- The first node of a way is the top's. -/
theorem way_top : ∀ (k : Nat) (l : List Lef) (lb : List UInt8), l.length < k → Rsn l → l ≠ [] → ∃ n r, wayN k l lb = n :: r ∧ n.itm = jnI l
  | 0, l, lb, hk, h, hn => by omega
  | k + 1, l, lb, hk, h, hn => by
    have hp : 0 < l.length := List.length_pos_iff.2 hn
    unfold wayN
    rw [if_neg hn]
    by_cases h1 : l.length = 1
    · rw [if_pos h1]
      obtain ⟨x, rfl⟩ := List.length_eq_one_iff.1 h1
      exact ⟨_, _, rfl, rfl⟩
    rw [if_neg h1]
    have hS := h.sides (by omega)
    have hj : (Nod.inn (parA (l.map leafI)) (parB (l.map leafI))).itm = jnI l := hS.jn.symm
    split
    · exact ⟨_, _, rfl, hj⟩
    · split <;> exact ⟨_, _, rfl, hj⟩
/-- A leaf's label begins as the tree. -/
theorem Rsn.has {l : List Lef} (h : Rsn l) (h0 : 0 < l.length) {x : Lef} (hx : x ∈ l) : hasP (jnI l).p x.l = true := by
  obtain ⟨hJ, hg⟩ := h.join h0
  unfold hasP
  have h1 : goodP (jnI l).p = true := hJ.good h.goodI
  rw [h1, decide_eq_true]; rfl
  have hge := hJ.ge
  have hle := hJ.le
  have := (com_ge hJ.ok.1 (h.ok x hx).1 (n := (jnI l).n.toNat) (by omega)).2 (fun i hi => (hJ.agree (leafI x) (List.mem_map_of_mem hx) i (by omega)).symm)
  show (jnI l).n ≤ _
  show (jnI l).n ≤ ((comL (jnI l).l x.l : Nat) : Int)
  omega
/-- A label's leaf is where its way ends. -/
theorem way_in : ∀ (k : Nat) (l : List Lef) (lb : List UInt8) (p : List Itm), l.length < k → Rsn l → ∀ x ∈ l, x.l = lb → (wayF k l lb p).e = 1 ∧ (wayF k l lb p).lf = x
  | 0, l, lb, p, hk, h, x, hx, hl => by omega
  | k + 1, l, lb, p, hk, h, x, hx, hl => by
    have hp : 0 < l.length := List.length_pos_iff.2 (fun he => by rw [he] at hx; cases hx)
    unfold wayF
    rw [if_neg (List.length_pos_iff.1 hp)]
    by_cases h1 : l.length = 1
    · rw [if_pos h1]
      obtain ⟨y, rfl⟩ := List.length_eq_one_iff.1 h1
      exact ⟨rfl, (List.mem_singleton.1 hx).symm⟩
    rw [if_neg h1]
    have hS := h.sides (by omega)
    have hhs := h.has hp hx
    rw [hl] at hhs
    rw [show joinF l.length (l.map leafI) = jnI l from rfl, hhs, if_neg (by decide)]
    have hlt := hS.sl
    have hs0 := hS.s0
    have tk : (l.take (splI (l.map leafI))).length = splI (l.map leafI) := by rw [List.length_take]; omega
    have dr : (l.drop (splI (l.map leafI))).length = l.length - splI (l.map leafI) := List.length_drop
    have hm : x ∈ l.take (splI (l.map leafI)) ∨ x ∈ l.drop (splI (l.map leafI)) := by
      rw [← List.mem_append, List.take_append_drop]; exact hx
    by_cases hb : bitL lb (frkI (l.map leafI)) = 1
    · rw [if_pos hb]
      refine way_in k _ lb _ (by omega) (h.drop _) x ?_ hl
      rcases hm with hm | hm
      · have := hS.lo x hm; rw [hl, hb] at this; cases this
      · exact hm
    · rw [if_neg hb]
      refine way_in k _ lb _ (by omega) (h.take _) x ?_ hl
      rcases hm with hm | hm
      · exact hm
      · have := hS.hi x hm; rw [hl] at this; exact absurd this hb
/-- The sum that nodes end at. -/
def nsum (l : List Nod) : List UInt8 := match l.getLast? with
  | none => shaN [18]
  | some n => n.itm.s
theorem rsn_srt {L : List Lef} (hok : ∀ x ∈ L, x.ok) (hc : chkI (itmsL L) = 0) : Rsn (srtL L) := by
  obtain ⟨-, hr, hg⟩ := chkI_rise hc
  rw [itms_map] at hr hg
  exact ⟨hr, fun x hx => hok x (srtL_mem.1 hx), fun x hx => hg _ (List.mem_map_of_mem hx)⟩
theorem top_srt {L : List Lef} (hc : mkE L = 0) : topS (itmsL L) = if srtL L = [] then shaN [18] else (jnI (srtL L)).s := by
  have hc : chkI (itmsL L) = 0 := hc
  unfold topS
  rw [itms_map] at hc ⊢
  rw [if_neg (fun h => h hc)]
  by_cases h0 : srtL L = []
  · rw [h0]; rfl
  · rw [if_neg h0, if_neg (fun he => h0 (List.map_eq_nil_iff.1 he)), List.length_map]; rfl
/-- The proof that is made is taken: its nodes, and where they end. -/
theorem mk_taken {L : List Lef} (lb : List UInt8) (hok : ∀ x ∈ L, x.ok) (hl : L.length ≤ 200) (hc : mkE L = 0) :
    ndsF (mkP L lb) lb = ((wayN (L.length + 1) (srtL L) lb).reverse, 0) ∧ nsum (wayN (L.length + 1) (srtL L) lb).reverse = topS (itmsL L) ∧
    (∀ x ∈ L, x.l = lb → (mkP L lb).e = 1 ∧ (mkP L lb).lf = x) ∧ ((mkP L lb).e = 1 → (mkP L lb).lf ∈ L) ∧ (mkP L lb).ok ∧ (mkP L lb).path.length ≤ 200 := by
  have hS := rsn_srt hok hc
  have hsl := srtL_len L
  have hT := top_srt hc
  unfold mkP
  rw [hc, if_neg (by decide)]
  have hin := fun x (hx : x ∈ L) (he : x.l = lb) => way_in (L.length + 1) (srtL L) lb [] (by omega) hS x (srtL_mem.2 hx) he
  by_cases h0 : srtL L = []
  · have hw : wayF (L.length + 1) (srtL L) lb [] = ⟨0, lef0, itm0, itm0, []⟩ := by rw [h0]; rfl
    have hwn : wayN (L.length + 1) (srtL L) lb = [] := by rw [h0]; rfl
    rw [hw] at hin
    rw [hT, if_pos h0, hw, hwn]
    refine ⟨rfl, rfl, hin, fun h => ?_, ⟨⟨rfl, rfl⟩, ⟨rfl, rfl⟩, ⟨rfl, rfl⟩, fun x hx => by cases hx⟩, Nat.zero_le _⟩
    have h : (0 : Int) = 1 := h
    exact absurd h (by decide)
  · obtain ⟨q, n0, ns, p1, p2, p3, p4, p5, p6⟩ := way_up (L.length + 1) (srtL L) lb [] (by omega) hS h0
    obtain ⟨n, r, t1, t2⟩ := way_top (L.length + 1) (srtL L) lb (by omega) hS h0
    have hsum : nsum (wayN (L.length + 1) (srtL L) lb).reverse = topS (itmsL L) := by
      rw [hT, if_neg h0, t1, List.reverse_cons]
      unfold nsum
      rw [List.getLast?_concat, ← t2]
    refine ⟨?_, hsum, hin, ?_, ?_, ?_⟩
    · rw [p4, List.reverse_reverse]
      rw [List.reverse_nil, List.append_nil] at p1
      have hp6 := p6 []
      rw [List.append_nil] at hp6
      unfold ndsF
      rw [p1, if_neg (by omega)]
      rcases p5 with ⟨a, b, c, d⟩ | ⟨a, b, c, d, e, f⟩
      · have hcl : chkLf (wayF (L.length + 1) (srtL L) lb []).lf = 0 := by
          have := good_t (hS.good _ b)
          unfold chkLf
          have ht : (leafI (wayF (L.length + 1) (srtL L) lb []).lf).t = (wayF (L.length + 1) (srtL L) lb []).lf.t := rfl
          rw [ht] at this
          exact if_neg (by omega)
        rw [a, if_neg (by decide), if_pos rfl, hcl, if_neg (by decide)]
        rw [c] at hp6 ⊢
        rw [show leafI (wayF (L.length + 1) (srtL L) lb []).lf = (Nod.lf (wayF (L.length + 1) (srtL L) lb []).lf).itm from rfl, hp6]
        show fin_ _ (ns ++ [], 0) = _
        rw [List.append_nil]; rfl
      · rw [a, if_neg (by decide), if_neg (by decide), if_pos rfl, d, if_neg (by decide), e, if_neg (by decide)]
        rw [c] at hp6 ⊢
        rw [show innI (wayF (L.length + 1) (srtL L) lb []).a (wayF (L.length + 1) (srtL L) lb []).b = (Nod.inn (wayF (L.length + 1) (srtL L) lb []).a (wayF (L.length + 1) (srtL L) lb []).b).itm from rfl, hp6]
        show fin_ _ (ns ++ [], 0) = _
        rw [List.append_nil]; rfl
    · rcases p5 with ⟨a, b, c⟩ | ⟨a, _⟩
      · exact fun _ => srtL_mem.1 b
      · intro h; rw [a] at h; exact absurd h (by decide)
    · rw [List.reverse_nil, List.append_nil] at p1
      rcases p5 with ⟨a, b, c, d, e⟩ | ⟨a, b, c, d, e, f, g⟩
      · exact ⟨hS.ok _ b, by rw [d]; exact ⟨rfl, rfl⟩, by rw [e]; exact ⟨rfl, rfl⟩, by rw [p1]; exact p3⟩
      · exact ⟨by rw [b]; exact ⟨rfl, rfl⟩, f, g, by rw [p1]; exact p3⟩
    · rw [p1, List.reverse_nil, List.append_nil]; omega
end Go.Proofs.YtcmgpkibjdbonaaGreat
