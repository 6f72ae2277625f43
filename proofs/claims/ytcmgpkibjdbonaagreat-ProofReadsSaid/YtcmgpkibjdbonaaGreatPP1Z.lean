/- The way of a tree, walked up, ends at its top. No program in sight. -/
import Derived.Test.YtcmgpkibjdbonaaGreatPFDZ
import Derived.Test.YtcmgpkibjdbonaaGreatPF1Z
set_option maxHeartbeats 4000000
namespace Go.Proofs.YtcmgpkibjdbonaaGreat
open Go Go.RowKit
def Nod.itm : Nod → Itm
  | .no => itm0
  | .lf x => leafI x
  | .inn x y => innI x y
def Nod.txt : Nod → List UInt8
  | .no => []
  | .lf x => leafB x
  | .inn x y => innB x y
def Nod.ok : Nod → Prop
  | .no => True
  | .lf x => x.ok
  | .inn x y => x.ok ∧ y.ok
/-- Leaves that rise and are good. -/
structure Rsn (l : List Lef) : Prop where
  rise : RiseI (l.map leafI)
  ok : ∀ x ∈ l, x.ok
  good : ∀ x ∈ l, goodI (leafI x) = true
theorem Rsn.take {l : List Lef} (h : Rsn l) (i : Nat) : Rsn (l.take i) := ⟨by rw [List.map_take]; exact h.rise.sublist (List.take_sublist ..), fun x hx => h.ok x (List.mem_of_mem_take hx), fun x hx => h.good x (List.mem_of_mem_take hx)⟩
theorem Rsn.drop {l : List Lef} (h : Rsn l) (i : Nat) : Rsn (l.drop i) := ⟨by rw [List.map_drop]; exact h.rise.sublist (List.drop_sublist ..), fun x hx => h.ok x (List.mem_of_mem_drop hx), fun x hx => h.good x (List.mem_of_mem_drop hx)⟩
theorem Rsn.okI {l : List Lef} (h : Rsn l) : ∀ x ∈ l.map leafI, x.ok := hok_map h.ok
theorem Rsn.goodI {l : List Lef} (h : Rsn l) : ∀ x ∈ l.map leafI, goodI x = true := fun x hx => by
  obtain ⟨y, hy, rfl⟩ := List.mem_map.1 hx
  exact h.good y hy
/-- The item of leaves. -/
def jnI (l : List Lef) : Itm := joinF l.length (l.map leafI)
theorem Rsn.join {l : List Lef} (h : Rsn l) (h0 : 0 < l.length) : JoinB (jnI l) (l.map leafI) ∧ Go.Proofs.YtcmgpkibjdbonaaGreat.goodI (jnI l) = true := by
  have h1 : 0 < (l.map leafI).length := by rw [List.length_map]; exact h0
  have hJ := join_B h1 h.rise h.okI (fun x hx => good_n (h.goodI x hx))
  have ht := joinF_t (l.map leafI).length (l.map leafI) (List.length_pos_iff.1 h1) (Nat.le_refl _) h.rise h.okI (fun x hx => good_t (h.goodI x hx))
  rw [List.length_map] at hJ ht
  refine ⟨hJ, ?_⟩
  have ht : 0 ≤ (jnI l).t ∧ (jnI l).t ≤ 1073741824 := ht
  have hg := hJ.good h.goodI
  unfold Go.Proofs.YtcmgpkibjdbonaaGreat.goodI
  rw [show (⟨(jnI l).n, (jnI l).l⟩ : Pfx) = (joinF l.length (l.map leafI)).p from rfl, hg, decide_eq_true ht.1, decide_eq_true ht.2]; rfl
/-- Of leaves all of which have some bits in common, the item is one further. -/
theorem Rsn.deep {l : List Lef} (h : Rsn l) (h0 : 0 < l.length) {n : Nat} (hn : n < 256) (hb : ∀ x ∈ l, ∀ y ∈ l, ∀ i, i ≤ n → bitL x.l i = bitL y.l i) : ((n : Nat) : Int) < (jnI l).n ∧ ∀ y ∈ l, bitL (jnI l).l n = bitL y.l n := by
  have h1 : 0 < (l.map leafI).length := by rw [List.length_map]; exact h0
  have hlt : ((n : Nat) : Int) < (jnI l).n := by
    obtain ⟨a, b⟩ := join_pfx _ (l.map leafI) h1 (Nat.le_refl _) h.rise h.okI
    rw [List.length_map] at a b
    unfold jnI
    by_cases h1 : l.length = 1
    · rw [a h1, List.getElem_map]; show ((n : Nat) : Int) < 256; omega
    · rw [(b (by omega)).1]
      have := frk_gt h.okI (by rw [List.length_map]; exact h0) hn (fun x hx i hi => by
        obtain ⟨y, hy, rfl⟩ := List.mem_map.1 hx
        rw [List.getElem_map]
        exact hb y hy _ (List.getElem_mem _) i hi)
      omega
  refine ⟨hlt, fun y hy => ?_⟩
  exact ((h.join h0).1.agree (leafI y) (List.mem_map_of_mem hy) n hlt).symm
/-- What is known of the two sides. -/
structure Sides (l : List Lef) : Prop where
  s0 : 0 < splI (l.map leafI)
  sl : splI (l.map leafI) < l.length
  f256 : frkI (l.map leafI) < 256
  jA : parA (l.map leafI) = jnI (l.take (splI (l.map leafI)))
  jB : parB (l.map leafI) = jnI (l.drop (splI (l.map leafI)))
  oA : (parA (l.map leafI)).ok
  oB : (parB (l.map leafI)).ok
  jn : jnI l = innI (parA (l.map leafI)) (parB (l.map leafI))
  com : comL (parA (l.map leafI)).l (parB (l.map leafI)).l = frkI (l.map leafI)
  bA : bitL (parA (l.map leafI)).l (frkI (l.map leafI)) = 0
  bB : bitL (parB (l.map leafI)).l (frkI (l.map leafI)) = 1
  lo : ∀ x ∈ l.take (splI (l.map leafI)), bitL x.l (frkI (l.map leafI)) = 0
  hi : ∀ x ∈ l.drop (splI (l.map leafI)), bitL x.l (frkI (l.map leafI)) = 1
  chk : chkN (parA (l.map leafI)) (parB (l.map leafI)) = 0
  cmp : cmpS (parA (l.map leafI)).l (parB (l.map leafI)).l < 0
theorem Rsn.sides {l : List Lef} (h : Rsn l) (h2 : 2 ≤ l.length) : Sides l := by
  have hml : (l.map leafI).length = l.length := List.length_map ..
  have h2I : 2 ≤ (l.map leafI).length := by omega
  obtain ⟨hf, s0, s1, _⟩ := spl_ok h.rise h.okI h2I
  obtain ⟨oA, oB⟩ := par_ok h.rise h.okI h2I
  have hjn := join_par h2I
  have hlo : ∀ x ∈ l.take (splI (l.map leafI)), bitL x.l (frkI (l.map leafI)) = 0 := fun x hx => by
    obtain ⟨j, hj, rfl⟩ := List.getElem_of_mem hx
    rw [List.length_take] at hj
    rw [List.getElem_take]
    have := spl_lo (l := l.map leafI) j (by omega) (by omega)
    rw [List.getElem_map] at this
    exact this
  have hhi : ∀ x ∈ l.drop (splI (l.map leafI)), bitL x.l (frkI (l.map leafI)) = 1 := fun x hx => by
    obtain ⟨j, hj, rfl⟩ := List.getElem_of_mem hx
    rw [List.length_drop] at hj
    rw [List.getElem_drop]
    have := spl_hi h.rise h.okI h2I (splI (l.map leafI) + j) (by omega) (by omega)
    rw [List.getElem_map] at this
    exact this
  have hbits : ∀ x ∈ l, ∀ y ∈ l, ∀ i, i < frkI (l.map leafI) → bitL x.l i = bitL y.l i := fun x hx y hy i hi => by
    obtain ⟨j, hj, rfl⟩ := List.getElem_of_mem hx
    obtain ⟨k, hk, rfl⟩ := List.getElem_of_mem hy
    have a := rise_bits h.rise h.okI (by omega) j (by omega) i hi
    have b := rise_bits h.rise h.okI (by omega) k (by omega) i hi
    rw [List.getElem_map] at a b
    exact a.trans b.symm
  have tk : (l.take (splI (l.map leafI))).length = splI (l.map leafI) := by rw [List.length_take]; omega
  have dr : (l.drop (splI (l.map leafI))).length = l.length - splI (l.map leafI) := List.length_drop
  have n1 : l.take (splI (l.map leafI)) ≠ [] := fun he => by rw [he] at tk; simp at tk; omega
  have n2 : l.drop (splI (l.map leafI)) ≠ [] := fun he => by rw [he] at dr; simp at dr; omega
  have e1 : parA (l.map leafI) = jnI (l.take (splI (l.map leafI))) := by
    unfold parA jnI
    rw [← List.map_take]
    exact (joinF_fuel _ _ _ (fun he => n1 (List.map_eq_nil_iff.1 he)) (by rw [List.length_map]; exact Nat.le_refl _) (by rw [List.length_map]; omega) (h.take _).rise (h.take _).okI).symm
  have e2 : parB (l.map leafI) = jnI (l.drop (splI (l.map leafI))) := by
    unfold parB jnI
    rw [← List.map_drop]
    exact (joinF_fuel _ _ _ (fun he => n2 (List.map_eq_nil_iff.1 he)) (by rw [List.length_map]; exact Nat.le_refl _) (by rw [List.length_map]; omega) (h.drop _).rise (h.drop _).okI).symm
  obtain ⟨dA, bA'⟩ := (h.take (splI (l.map leafI))).deep (by omega) hf (fun x hx y hy i hi => by
    rcases Nat.lt_or_ge i (frkI (l.map leafI)) with hlt | hge
    · exact hbits x (List.mem_of_mem_take hx) y (List.mem_of_mem_take hy) i hlt
    · have : i = frkI (l.map leafI) := by omega
      subst this
      rw [hlo x hx, hlo y hy])
  obtain ⟨dB, bB'⟩ := (h.drop (splI (l.map leafI))).deep (by omega) hf (fun x hx y hy i hi => by
    rcases Nat.lt_or_ge i (frkI (l.map leafI)) with hlt | hge
    · exact hbits x (List.mem_of_mem_drop hx) y (List.mem_of_mem_drop hy) i hlt
    · have : i = frkI (l.map leafI) := by omega
      subst this
      rw [hhi x hx, hhi y hy])
  obtain ⟨jA, gA⟩ := (h.take (splI (l.map leafI))).join (by omega)
  obtain ⟨jB, gB⟩ := (h.drop (splI (l.map leafI))).join (by omega)
  obtain ⟨xa, ra, hxa⟩ := List.exists_cons_of_ne_nil n1
  obtain ⟨xb, rb, hxb⟩ := List.exists_cons_of_ne_nil n2
  have ma : xa ∈ l.take (splI (l.map leafI)) := by rw [hxa]; exact List.mem_cons_self ..
  have mb : xb ∈ l.drop (splI (l.map leafI)) := by rw [hxb]; exact List.mem_cons_self ..
  have bA : bitL (parA (l.map leafI)).l (frkI (l.map leafI)) = 0 := by rw [e1, bA' xa ma, hlo xa ma]
  have bB : bitL (parB (l.map leafI)).l (frkI (l.map leafI)) = 1 := by rw [e2, bB' xb mb, hhi xb mb]
  have hcom : comL (parA (l.map leafI)).l (parB (l.map leafI)).l = frkI (l.map leafI) := by
    refine com_is oA.1 oB.1 hf (fun i hi => ?_) (by rw [bA, bB]; decide)
    rw [e1, e2, ← jA.agree (leafI xa) (List.mem_map_of_mem ma) i (by omega), ← jB.agree (leafI xb) (List.mem_map_of_mem mb) i (by omega)]
    exact hbits xa (List.mem_of_mem_take ma) xb (List.mem_of_mem_drop mb) i hi
  have hcmp : cmpS (parA (l.map leafI)).l (parB (l.map leafI)).l < 0 := lt_cmp oA.1 oB.1 (by omega) (by rw [hcom]; exact bA)
  have hck : chkN (parA (l.map leafI)) (parB (l.map leafI)) = 0 := by
    unfold chkN
    rw [if_pos ⟨by rw [e1]; exact gA, by rw [e2]; exact gB⟩, hcom, if_neg]
    rintro (q | q | q)
    · rw [e1] at q; omega
    · rw [e2] at q; omega
    · omega
  exact ⟨s0, by omega, hf, e1, e2, oA, oB, by unfold jnI; rw [← hml]; exact hjn, hcom, bA, bB, hlo, hhi, hck, hcmp⟩
theorem cmp_pos {a b : List UInt8} (h : cmpS a b < 0) : 0 < cmpS b a := by rw [cmpS_gt (cmpS_neg.1 h)]; decide
/-- A step up, from either side. -/
theorem Sides.up {l : List Lef} (h : Sides l) {lb : List UInt8} (hh : hasP (jnI l).p lb = true) (c : Nat) (hc : bitL lb (frkI (l.map leafI)) = c) (x y : Itm) (hx : x = if c = 1 then parB (l.map leafI) else parA (l.map leafI)) (hy : y = if c = 1 then parA (l.map leafI) else parB (l.map leafI)) :
    upL x y = parA (l.map leafI) ∧ upR x y = parB (l.map leafI) ∧ upE x y lb = 0 := by
  have hLR : upL x y = parA (l.map leafI) ∧ upR x y = parB (l.map leafI) := by
    unfold upL upR
    by_cases h1 : c = 1
    · rw [if_pos h1] at hx hy
      subst hx; subst hy
      rw [if_pos (cmp_pos h.cmp), if_pos (cmp_pos h.cmp)]; exact ⟨rfl, rfl⟩
    · rw [if_neg h1] at hx hy
      subst hx; subst hy
      have := h.cmp
      rw [if_neg (by omega), if_neg (by omega)]; exact ⟨rfl, rfl⟩
  refine ⟨hLR.1, hLR.2, ?_⟩
  unfold upE
  rw [hLR.1, hLR.2, h.chk, if_neg (by decide), ← h.jn, hh, h.com]
  refine if_pos ⟨rfl, ?_⟩
  have hf := h.f256
  unfold bitN
  rw [if_pos hf, if_pos hf, hc, hx]
  have hbo := bitL_or lb (frkI (l.map leafI))
  rw [hc] at hbo
  rcases hbo with rfl | rfl
  · rw [if_neg (by decide), h.bA]
  · rw [if_pos rfl, h.bB]
/-- The nodes of the way, the top first. -/
def wayN : Nat → List Lef → List UInt8 → List Nod
  | 0, _, _ => []
  | k + 1, l, lb => if l = [] then [] else if l.length = 1 then [.lf (l.headD lef0)]
    else if hasP (joinF l.length (l.map leafI)).p lb = false then [.inn (parA (l.map leafI)) (parB (l.map leafI))]
    else if bitL lb (frkI (l.map leafI)) = 1 then .inn (parA (l.map leafI)) (parB (l.map leafI)) :: wayN k (l.drop (splI (l.map leafI))) lb else .inn (parA (l.map leafI)) (parB (l.map leafI)) :: wayN k (l.take (splI (l.map leafI))) lb
/-- What the end of a way is. -/
def WayEnd (l : List Lef) (lb : List UInt8) (P : Prf) (n0 : Nod) : Prop :=
  (P.e = 1 ∧ P.lf ∈ l ∧ n0 = .lf P.lf ∧ P.a = itm0 ∧ P.b = itm0) ∨ (P.e = 2 ∧ P.lf = lef0 ∧ n0 = .inn P.a P.b ∧ chkN P.a P.b = 0 ∧ hasP (innI P.a P.b).p lb = false ∧ P.a.ok ∧ P.b.ok)
theorem ups_step {x y : Itm} {lb : List UInt8} (h : upE x y lb = 0) {r : List Itm} : upsF x (y :: r) lb = (.inn (upL x y) (upR x y) :: (upsF (innI (upL x y) (upR x y)) r lb).1, (upsF (innI (upL x y) (upR x y)) r lb).2) := by
  rw [upsF, h, if_neg (by decide)]
theorem way_up : ∀ (k : Nat) (l : List Lef) (lb : List UInt8) (p : List Itm), l.length < k → Rsn l → l ≠ [] →
    ∃ (q : List Itm) (n0 : Nod) (ns : List Nod), (wayF k l lb p).path = q ++ p.reverse ∧ q.length < l.length ∧ (∀ x ∈ q, x.ok) ∧ wayN k l lb = (n0 :: ns).reverse ∧ WayEnd l lb (wayF k l lb p) n0 ∧
      ∀ r, upsF n0.itm (q ++ r) lb = (ns ++ (upsF (jnI l) r lb).1, (upsF (jnI l) r lb).2)
  | 0, l, lb, p, hk, h, hn => by omega
  | k + 1, l, lb, p, hk, h, hn => by
    have hp : 0 < l.length := List.length_pos_iff.2 hn
    unfold wayF wayN
    rw [if_neg hn, if_neg hn]
    by_cases h1 : l.length = 1
    · rw [if_pos h1, if_pos h1]
      obtain ⟨x, rfl⟩ := List.length_eq_one_iff.1 h1
      exact ⟨[], .lf x, [], rfl, hp, (fun x hx => by cases hx), rfl, .inl ⟨rfl, List.mem_cons_self .., rfl, rfl, rfl⟩, fun r => rfl⟩
    rw [if_neg h1, if_neg h1]
    have h2 : 2 ≤ l.length := by omega
    have hS := h.sides h2
    by_cases hh : hasP (joinF l.length (l.map leafI)).p lb = false
    · rw [if_pos hh, if_pos hh]
      refine ⟨[], .inn (parA (l.map leafI)) (parB (l.map leafI)), [], rfl, hp, (fun x hx => by cases hx), rfl, .inr ⟨rfl, rfl, rfl, hS.chk, ?_, hS.oA, hS.oB⟩, fun r => ?_⟩
      · show hasP (innI (parA (l.map leafI)) (parB (l.map leafI))).p lb = false
        rw [← hS.jn]; exact hh
      · rw [hS.jn]; rfl
    rw [if_neg hh, if_neg hh]
    have hh : hasP (jnI l).p lb = true := by
      cases h3 : hasP (jnI l).p lb with
      | true => rfl
      | false => exact absurd h3 hh
    have hlt := hS.sl
    have hs0 := hS.s0
    have tk : (l.take (splI (l.map leafI))).length = splI (l.map leafI) := by rw [List.length_take]; omega
    have dr : (l.drop (splI (l.map leafI))).length = l.length - splI (l.map leafI) := List.length_drop
    by_cases hb : bitL lb (frkI (l.map leafI)) = 1
    · rw [if_pos hb, if_pos hb]
      obtain ⟨q, n0, ns, p1, p2, p3, p4, p5, p6⟩ := way_up k (l.drop (splI (l.map leafI))) lb (p ++ [parA (l.map leafI)]) (by omega) (h.drop _) (fun he => by rw [he] at dr; simp at dr; omega)
      obtain ⟨u1, u2, u3⟩ := hS.up hh 1 hb (jnI (l.drop (splI (l.map leafI)))) (parA (l.map leafI)) (by rw [if_pos rfl, hS.jB]) rfl
      refine ⟨q ++ [parA (l.map leafI)], n0, ns ++ [.inn (parA (l.map leafI)) (parB (l.map leafI))], ?_, ?_, ?_, ?_, ?_, fun r => ?_⟩
      · rw [p1, List.reverse_append, List.append_assoc]; rfl
      · rw [List.length_append, List.length_singleton]; omega
      · intro x hx
        rcases List.mem_append.1 hx with hx | hx
        · exact p3 x hx
        · rw [List.mem_singleton.1 hx]; exact hS.oA
      · rw [p4, ← List.cons_append, List.reverse_append]; rfl
      · rcases p5 with ⟨a, b, c⟩ | h
        · exact .inl ⟨a, List.mem_of_mem_drop b, c⟩
        · exact .inr h
      · rw [List.append_assoc, p6]
        rw [show [parA (l.map leafI)] ++ r = parA (l.map leafI) :: r from rfl, ups_step u3, u1, u2, ← hS.jn, List.append_assoc]; rfl
    · rw [if_neg hb, if_neg hb]
      obtain ⟨q, n0, ns, p1, p2, p3, p4, p5, p6⟩ := way_up k (l.take (splI (l.map leafI))) lb (p ++ [parB (l.map leafI)]) (by omega) (h.take _) (fun he => by rw [he] at tk; simp at tk; omega)
      have hb0 : bitL lb (frkI (l.map leafI)) = 0 := by rcases bitL_or lb (frkI (l.map leafI)) with q | q; exact q; exact absurd q hb
      obtain ⟨u1, u2, u3⟩ := hS.up hh 0 hb0 (jnI (l.take (splI (l.map leafI)))) (parB (l.map leafI)) (by rw [if_neg (by decide), hS.jA]) rfl
      refine ⟨q ++ [parB (l.map leafI)], n0, ns ++ [.inn (parA (l.map leafI)) (parB (l.map leafI))], ?_, ?_, ?_, ?_, ?_, fun r => ?_⟩
      · rw [p1, List.reverse_append, List.append_assoc]; rfl
      · rw [List.length_append, List.length_singleton]; omega
      · intro x hx
        rcases List.mem_append.1 hx with hx | hx
        · exact p3 x hx
        · rw [List.mem_singleton.1 hx]; exact hS.oB
      · rw [p4, ← List.cons_append, List.reverse_append]; rfl
      · rcases p5 with ⟨a, b, c⟩ | h
        · exact .inl ⟨a, List.mem_of_mem_take b, c⟩
        · exact .inr h
      · rw [List.append_assoc, p6]
        rw [show [parB (l.map leafI)] ++ r = parB (l.map leafI) :: r from rfl, ups_step u3, u1, u2, ← hS.jn, List.append_assoc]; rfl
/-- The first node of a way is the top's. -/
theorem way_top : ∀ (k : Nat) (l : List Lef) (lb : List UInt8), l.length < k → Rsn l → l ≠ [] → ∃ n r, wayN k l lb = n :: r ∧ n.itm = jnI l
  | 0, l, lb, hk, h, hn => by omega
  | k + 1, l, lb, hk, h, hn => by
    have hp : 0 < l.length := List.length_pos_iff.2 hn
    unfold wayN
    rw [if_neg hn]
    by_cases h1 : l.length = 1
    · rw [if_pos h1]
      obtain ⟨x, rfl⟩ := List.length_eq_one_iff.1 h1
      exact ⟨_, _, rfl, rfl⟩
    rw [if_neg h1]
    have hS := h.sides (by omega)
    have hj : (Nod.inn (parA (l.map leafI)) (parB (l.map leafI))).itm = jnI l := hS.jn.symm
    split
    · exact ⟨_, _, rfl, hj⟩
    · split <;> exact ⟨_, _, rfl, hj⟩
/-- A leaf's label begins as the tree. -/
theorem Rsn.has {l : List Lef} (h : Rsn l) (h0 : 0 < l.length) {x : Lef} (hx : x ∈ l) : hasP (jnI l).p x.l = true := by
  obtain ⟨hJ, hg⟩ := h.join h0
  unfold hasP
  have h1 : goodP (jnI l).p = true := hJ.good h.goodI
  rw [h1, decide_eq_true]; rfl
  have hge := hJ.ge
  have hle := hJ.le
  have := (com_ge hJ.ok.1 (h.ok x hx).1 (n := (jnI l).n.toNat) (by omega)).2 (fun i hi => (hJ.agree (leafI x) (List.mem_map_of_mem hx) i (by omega)).symm)
  show (jnI l).n ≤ _
  show (jnI l).n ≤ ((comL (jnI l).l x.l : Nat) : Int)
  omega
/-- A label's leaf is where its way ends. -/
theorem way_in : ∀ (k : Nat) (l : List Lef) (lb : List UInt8) (p : List Itm), l.length < k → Rsn l → ∀ x ∈ l, x.l = lb → (wayF k l lb p).e = 1 ∧ (wayF k l lb p).lf = x
  | 0, l, lb, p, hk, h, x, hx, hl => by omega
  | k + 1, l, lb, p, hk, h, x, hx, hl => by
    have hp : 0 < l.length := List.length_pos_iff.2 (fun he => by rw [he] at hx; cases hx)
    unfold wayF
    rw [if_neg (List.length_pos_iff.1 hp)]
    by_cases h1 : l.length = 1
    · rw [if_pos h1]
      obtain ⟨y, rfl⟩ := List.length_eq_one_iff.1 h1
      exact ⟨rfl, (List.mem_singleton.1 hx).symm⟩
    rw [if_neg h1]
    have hS := h.sides (by omega)
    have hhs := h.has hp hx
    rw [hl] at hhs
    rw [show joinF l.length (l.map leafI) = jnI l from rfl, hhs, if_neg (by decide)]
    have hlt := hS.sl
    have hs0 := hS.s0
    have tk : (l.take (splI (l.map leafI))).length = splI (l.map leafI) := by rw [List.length_take]; omega
    have dr : (l.drop (splI (l.map leafI))).length = l.length - splI (l.map leafI) := List.length_drop
    have hm : x ∈ l.take (splI (l.map leafI)) ∨ x ∈ l.drop (splI (l.map leafI)) := by
      rw [← List.mem_append, List.take_append_drop]; exact hx
    by_cases hb : bitL lb (frkI (l.map leafI)) = 1
    · rw [if_pos hb]
      refine way_in k _ lb _ (by omega) (h.drop _) x ?_ hl
      rcases hm with hm | hm
      · have := hS.lo x hm; rw [hl, hb] at this; cases this
      · exact hm
    · rw [if_neg hb]
      refine way_in k _ lb _ (by omega) (h.take _) x ?_ hl
      rcases hm with hm | hm
      · exact hm
      · have := hS.hi x hm; rw [hl] at this; exact absurd this hb
/-- The sum that nodes end at. -/
def nsum (l : List Nod) : List UInt8 := match l.getLast? with
  | none => shaN [18]
  | some n => n.itm.s
theorem rsn_srt {L : List Lef} (hok : ∀ x ∈ L, x.ok) (hc : chkI (itmsL L) = 0) : Rsn (srtL L) := by
  obtain ⟨-, hr, hg⟩ := chkI_rise hc
  rw [itms_map] at hr hg
  exact ⟨hr, fun x hx => hok x (srtL_mem.1 hx), fun x hx => hg _ (List.mem_map_of_mem hx)⟩
theorem top_srt {L : List Lef} (hc : mkE L = 0) : topS (itmsL L) = if srtL L = [] then shaN [18] else (jnI (srtL L)).s := by
  have hc : chkI (itmsL L) = 0 := hc
  unfold topS
  rw [itms_map] at hc ⊢
  rw [if_neg (fun h => h hc)]
  by_cases h0 : srtL L = []
  · rw [h0]; rfl
  · rw [if_neg h0, if_neg (fun he => h0 (List.map_eq_nil_iff.1 he)), List.length_map]; rfl
/-- The proof that is made is taken: its nodes, and where they end. -/
theorem mk_taken {L : List Lef} (lb : List UInt8) (hok : ∀ x ∈ L, x.ok) (hl : L.length ≤ 200) (hc : mkE L = 0) :
    ndsF (mkP L lb) lb = ((wayN (L.length + 1) (srtL L) lb).reverse, 0) ∧ nsum (wayN (L.length + 1) (srtL L) lb).reverse = topS (itmsL L) ∧
    (∀ x ∈ L, x.l = lb → (mkP L lb).e = 1 ∧ (mkP L lb).lf = x) ∧ ((mkP L lb).e = 1 → (mkP L lb).lf ∈ L) ∧ (mkP L lb).ok ∧ (mkP L lb).path.length ≤ 200 := by
  have hS := rsn_srt hok hc
  have hsl := srtL_len L
  have hT := top_srt hc
  unfold mkP
  rw [hc, if_neg (by decide)]
  have hin := fun x (hx : x ∈ L) (he : x.l = lb) => way_in (L.length + 1) (srtL L) lb [] (by omega) hS x (srtL_mem.2 hx) he
  by_cases h0 : srtL L = []
  · have hw : wayF (L.length + 1) (srtL L) lb [] = ⟨0, lef0, itm0, itm0, []⟩ := by rw [h0]; rfl
    have hwn : wayN (L.length + 1) (srtL L) lb = [] := by rw [h0]; rfl
    rw [hw] at hin
    rw [hT, if_pos h0, hw, hwn]
    refine ⟨rfl, rfl, hin, fun h => ?_, ⟨⟨rfl, rfl⟩, ⟨rfl, rfl⟩, ⟨rfl, rfl⟩, fun x hx => by cases hx⟩, Nat.zero_le _⟩
    have h : (0 : Int) = 1 := h
    exact absurd h (by decide)
  · obtain ⟨q, n0, ns, p1, p2, p3, p4, p5, p6⟩ := way_up (L.length + 1) (srtL L) lb [] (by omega) hS h0
    obtain ⟨n, r, t1, t2⟩ := way_top (L.length + 1) (srtL L) lb (by omega) hS h0
    have hsum : nsum (wayN (L.length + 1) (srtL L) lb).reverse = topS (itmsL L) := by
      rw [hT, if_neg h0, t1, List.reverse_cons]
      unfold nsum
      rw [List.getLast?_concat, ← t2]
    refine ⟨?_, hsum, hin, ?_, ?_, ?_⟩
    · rw [p4, List.reverse_reverse]
      rw [List.reverse_nil, List.append_nil] at p1
      have hp6 := p6 []
      rw [List.append_nil] at hp6
      unfold ndsF
      rw [p1, if_neg (by omega)]
      rcases p5 with ⟨a, b, c, d⟩ | ⟨a, b, c, d, e, f⟩
      · have hcl : chkLf (wayF (L.length + 1) (srtL L) lb []).lf = 0 := by
          have := good_t (hS.good _ b)
          unfold chkLf
          have ht : (leafI (wayF (L.length + 1) (srtL L) lb []).lf).t = (wayF (L.length + 1) (srtL L) lb []).lf.t := rfl
          rw [ht] at this
          exact if_neg (by omega)
        rw [a, if_neg (by decide), if_pos rfl, hcl, if_neg (by decide)]
        rw [c] at hp6 ⊢
        rw [show leafI (wayF (L.length + 1) (srtL L) lb []).lf = (Nod.lf (wayF (L.length + 1) (srtL L) lb []).lf).itm from rfl, hp6]
        show fin_ _ (ns ++ [], 0) = _
        rw [List.append_nil]; rfl
      · rw [a, if_neg (by decide), if_neg (by decide), if_pos rfl, d, if_neg (by decide), e, if_neg (by decide)]
        rw [c] at hp6 ⊢
        rw [show innI (wayF (L.length + 1) (srtL L) lb []).a (wayF (L.length + 1) (srtL L) lb []).b = (Nod.inn (wayF (L.length + 1) (srtL L) lb []).a (wayF (L.length + 1) (srtL L) lb []).b).itm from rfl, hp6]
        show fin_ _ (ns ++ [], 0) = _
        rw [List.append_nil]; rfl
    · rcases p5 with ⟨a, b, c⟩ | ⟨a, _⟩
      · exact fun _ => srtL_mem.1 b
      · intro h; rw [a] at h; exact absurd h (by decide)
    · rw [List.reverse_nil, List.append_nil] at p1
      rcases p5 with ⟨a, b, c, d, e⟩ | ⟨a, b, c, d, e, f, g⟩
      · exact ⟨hS.ok _ b, by rw [d]; exact ⟨rfl, rfl⟩, by rw [e]; exact ⟨rfl, rfl⟩, by rw [p1]; exact p3⟩
      · exact ⟨by rw [b]; exact ⟨rfl, rfl⟩, f, g, by rw [p1]; exact p3⟩
    · rw [p1, List.reverse_nil, List.append_nil]; omega
end Go.Proofs.YtcmgpkibjdbonaaGreat
set_option maxHeartbeats 4000000
namespace Go.Proofs.YtcmgpkibjdbonaaGreat
open Go Go.RowKit
/-- A node that is right. -/
def Nod.gd : Nod → Prop
  | .no => False
  | .lf x => x.ok ∧ chkLf x = 0
  | .inn x y => x.ok ∧ y.ok ∧ chkN x y = 0
theorem chkN_good {x y : Itm} (h : chkN x y = 0) : goodI x = true ∧ goodI y = true ∧ ((comL x.l y.l : Nat) : Int) < x.n ∧ ((comL x.l y.l : Nat) : Int) < y.n ∧ ¬ 0 < cmpS x.l y.l := by
  unfold chkN at h
  split at h
  · rename_i hg
    split at h
    · cases h
    · rename_i hn
      exact ⟨hg.1, hg.2, by omega, by omega, by omega⟩
  · cases h
/-- A way that is told, the top first. -/
def Chain (lb : List UInt8) : List Nod → Prop
  | [] => False
  | [n] => n.gd ∧ ∀ a b, n = .inn a b → hasP (innI a b).p lb = false
  | n :: m :: r => n.gd ∧ (∃ a b, n = .inn a b ∧ hasP (innI a b).p lb = true ∧ m.itm = if bitL lb (comL a.l b.l) = 1 then b else a) ∧ Chain lb (m :: r)
theorem Chain.gd {lb : List UInt8} {n : Nod} {r : List Nod} (h : Chain lb (n :: r)) : n.gd := by
  cases r with
  | nil => exact h.1
  | cons m r => exact h.1
theorem up_pick {x y : Itm} {lb : List UInt8} (hx : x.ok) (hy : y.ok) (h : upE x y lb = 0) :
    (Nod.inn (upL x y) (upR x y)).gd ∧ hasP (innI (upL x y) (upR x y)).p lb = true ∧ x = if bitL lb (comL (upL x y).l (upR x y).l) = 1 then upR x y else upL x y := by
  obtain ⟨oL, oR⟩ := upLR_ok hx hy
  unfold upE at h
  by_cases hc : chkN (upL x y) (upR x y) ≠ 0
  · rw [if_pos hc] at h; exact absurd h hc
  rw [if_neg hc] at h
  have hc := Decidable.not_not.1 hc
  by_cases hh : hasP (innI (upL x y) (upR x y)).p lb = true ∧ bitN lb (comL (upL x y).l (upR x y).l) = bitN x.l (comL (upL x y).l (upR x y).l)
  · refine ⟨⟨oL, oR, hc⟩, hh.1, ?_⟩
    obtain ⟨g1, g2, g3, g4, g5⟩ := chkN_good hc
    have hn := good_n g1
    have hf : comL (upL x y).l (upR x y).l < 256 := by omega
    have hb := hh.2
    unfold bitN at hb
    rw [if_pos hf, if_pos hf] at hb
    have hlt : cmpS (upL x y).l (upR x y).l < 0 := by
      rcases cmpS_cases (upL x y).l (upR x y).l with q | q | q
      · omega
      · have := cmpS_zero.1 q
        rw [this] at hf
        have h2 := (com_ge oR.1 oR.1 (n := 256) (Nat.le_refl _)).2 (fun i _ => rfl)
        omega
      · omega
    obtain ⟨_, b0, b1⟩ := cmp_lt oL.1 oR.1 hlt
    rw [hb]
    unfold upL upR at b0 b1 ⊢
    by_cases hs : 0 < cmpS x.l y.l
    · simp only [if_pos hs] at b0 b1 ⊢
      rw [if_pos b1]
    · simp only [if_neg hs] at b0 b1 ⊢
      rw [if_neg (by rw [b0]; decide)]
  · rw [if_neg hh] at h; exact absurd h (by decide)
theorem chain_ups : ∀ (ys : List Itm) (x : Itm) (n : Nod) (c : List Nod) (lb : List UInt8), (∀ y ∈ ys, y.ok) → x.ok → n.itm = x → Chain lb (n :: c) → (upsF x ys lb).2 = 0 → ∃ m r, (upsF x ys lb).1.reverse ++ n :: c = m :: r ∧ Chain lb (m :: r) ∧ m.itm.ok
  | [], x, n, c, lb, _, hx, hn, hc, _ => ⟨n, c, rfl, hc, by rw [hn]; exact hx⟩
  | y :: ys, x, n, c, lb, hy, hx, hn, hc, h => by
    unfold upsF at h ⊢
    by_cases hu : upE x y lb ≠ 0
    · rw [if_pos hu] at h; exact absurd h hu
    rw [if_neg hu] at h ⊢
    have hu := Decidable.not_not.1 hu
    have oy := hy y (List.mem_cons_self ..)
    obtain ⟨p1, p2, p3⟩ := up_pick hx oy hu
    have oL := (upLR_ok hx oy).1
    obtain ⟨m, r, e1, e2, e3⟩ := chain_ups ys (innI (upL x y) (upR x y)) (.inn (upL x y) (upR x y)) (n :: c) lb (fun z hz => hy z (List.mem_cons_of_mem _ hz)) (innI_ok _ _ oL) rfl ⟨p1, ⟨_, _, rfl, p2, by rw [hn]; exact p3⟩, hc⟩ h
    refine ⟨m, r, ?_, e2, e3⟩
    rw [List.reverse_cons, List.append_assoc]
    exact e1
/-- The lowest node of a proof. -/
def lowN (p : Prf) : Nod := if p.e = 1 then .lf p.lf else .inn p.a p.b
/-- The nodes of a proof that is in form, the top first. -/
theorem nds_chain {p : Prf} {lb : List UInt8} (hp : p.ok) (h : (ndsF p lb).2 = 0) :
    (p.e = 0 ∧ (ndsF p lb).1 = [] ∧ p.path = []) ∨ ((p.e = 1 ∨ p.e = 2) ∧ Chain lb (ndsF p lb).1.reverse ∧ ∃ r, (ndsF p lb).1 = lowN p :: r) := by
  unfold ndsF at h ⊢
  by_cases h256 : 256 < p.path.length
  · rw [if_pos h256] at h; exact absurd h (by decide)
  rw [if_neg h256] at h ⊢
  by_cases h0 : p.e = 0
  · rw [if_pos h0] at h ⊢
    by_cases hl : p.path.length = 0
    · rw [if_pos hl]; exact .inl ⟨h0, rfl, List.length_eq_zero_iff.1 hl⟩
    · rw [if_neg hl] at h; exact absurd h (by decide)
  rw [if_neg h0] at h ⊢
  by_cases h1 : p.e = 1
  · rw [if_pos h1] at h ⊢
    by_cases hc : chkLf p.lf ≠ 0
    · rw [if_pos hc] at h; exact absurd h hc
    rw [if_neg hc] at h ⊢
    have hc := Decidable.not_not.1 hc
    unfold fin_ at h ⊢
    by_cases hu : (upsF (leafI p.lf) p.path lb).2 ≠ 0
    · rw [if_pos hu] at h; exact absurd h hu
    rw [if_neg hu]
    obtain ⟨m, r, e1, e2, e3⟩ := chain_ups p.path (leafI p.lf) (.lf p.lf) [] lb hp.path (leafI_ok _ hp.lf) rfl ⟨⟨hp.lf, hc⟩, fun a b h => by cases h⟩ (Decidable.not_not.1 hu)
    refine .inr ⟨.inl h1, ?_, _, by unfold lowN; rw [if_pos h1]; rfl⟩
    rw [List.reverse_append]
    show Chain lb ((upsF (leafI p.lf) p.path lb).1.reverse ++ [Nod.lf p.lf])
    rw [e1]; exact e2
  rw [if_neg h1] at h ⊢
  by_cases h2 : p.e = 2
  · rw [if_pos h2] at h ⊢
    by_cases hc : chkN p.a p.b ≠ 0
    · rw [if_pos hc] at h; exact absurd h hc
    rw [if_neg hc] at h ⊢
    have hc := Decidable.not_not.1 hc
    by_cases hh : hasP (innI p.a p.b).p lb = true
    · rw [if_pos hh] at h; exact absurd h (by decide)
    rw [if_neg hh] at h ⊢
    have hh : hasP (innI p.a p.b).p lb = false := by
      cases q : hasP (innI p.a p.b).p lb with
      | true => exact absurd q hh
      | false => rfl
    unfold fin_ at h ⊢
    by_cases hu : (upsF (innI p.a p.b) p.path lb).2 ≠ 0
    · rw [if_pos hu] at h; exact absurd h hu
    rw [if_neg hu]
    obtain ⟨m, r, e1, e2, e3⟩ := chain_ups p.path (innI p.a p.b) (.inn p.a p.b) [] lb hp.path (innI_ok _ _ hp.a) rfl ⟨⟨hp.a, hp.b, hc⟩, fun a b h => by cases h; exact hh⟩ (Decidable.not_not.1 hu)
    refine .inr ⟨.inr h2, ?_, _, by unfold lowN; rw [if_neg h1]; rfl⟩
    rw [List.reverse_append]
    show Chain lb ((upsF (innI p.a p.b) p.path lb).1.reverse ++ [Nod.inn p.a p.b])
    rw [e1]; exact e2
  · rw [if_neg h2] at h; exact absurd h (by decide)
/-- The text of the top of leaves; the side of a label. -/
def rlT (l : List Lef) : List UInt8 := if l = [] then [18] else if l.length = 1 then leafB (l.headD lef0) else innB (parA (l.map leafI)) (parB (l.map leafI))
def sdL (l : List Lef) (lb : List UInt8) : List Lef := if 1 < l.length then (if bitL lb (frkI (l.map leafI)) = 1 then l.drop (splI (l.map leafI)) else l.take (splI (l.map leafI))) else l
def clsh (a b : List UInt8) : Bool := a != b && shaN a == shaN b
/-- The first node that is unlike, the top first. -/
def exL : List Nod → List Lef → List UInt8 → List UInt8 × List UInt8 × Bool
  | [], _, _ => ([], [], false)
  | n :: r, l, lb => if n.txt = rlT l then exL r (sdL l lb) lb else (n.txt, rlT l, clsh n.txt (rlT l))
def exC (c : List Nod) (l : List Lef) (lb : List UInt8) : List UInt8 × List UInt8 × Bool :=
  if c = [] then (if [18] = rlT l then ([], [], false) else ([18], rlT l, clsh [18] (rlT l))) else exL c l lb
/-- The first two of texts that are unlike. -/
def exR : List (List UInt8) → List (List UInt8) → List UInt8 × List UInt8 × Bool
  | a :: s, b :: t => if a = b then exR s t else (a, b, shaN a == shaN b)
  | _, _ => ([], [], false)
/-- The node that leaves are. -/
def rlN (l : List Lef) : Nod := if l.length = 1 then .lf (l.headD lef0) else .inn (parA (l.map leafI)) (parB (l.map leafI))
theorem Rsn.node {l : List Lef} (h : Rsn l) (hn : l ≠ []) : (rlN l).gd ∧ (rlN l).txt = rlT l ∧ (rlN l).itm = jnI l := by
  have hp : 0 < l.length := List.length_pos_iff.2 hn
  unfold rlN rlT
  rw [if_neg hn]
  by_cases h1 : l.length = 1
  · rw [if_pos h1, if_pos h1]
    obtain ⟨x, rfl⟩ := List.length_eq_one_iff.1 h1
    refine ⟨⟨h.ok x (List.mem_cons_self ..), ?_⟩, rfl, rfl⟩
    have := good_t (h.good x (List.mem_cons_self ..))
    have e : (leafI x).t = x.t := rfl
    unfold chkLf
    exact if_neg (by show ¬ (x.t < 0 ∨ 1073741824 < x.t); omega)
  · rw [if_neg h1, if_neg h1]
    have hS := h.sides (by omega)
    exact ⟨⟨hS.oA, hS.oB, hS.chk⟩, rfl, hS.jn.symm⟩
end Go.Proofs.YtcmgpkibjdbonaaGreat
set_option maxHeartbeats 4000000
namespace Go.Proofs.YtcmgpkibjdbonaaGreat
open Go Go.RowKit
/-- What a proof says of a label in the tree of a sum. -/
def chkE (p : Prf) (top lb : List UInt8) : Int := if (ndsF p lb).2 ≠ 0 then (ndsF p lb).2 else if nsum (ndsF p lb).1 = top then 0 else 11
def chkB (p : Prf) (lb : List UInt8) : Bool := p.e == 1 && p.lf.l == lb
/-- The texts of the tree's way, the top first. -/
def wayT (L : List Lef) (lb : List UInt8) : List (List UInt8) := if srtL L = [] then [[18]] else (wayN (L.length + 1) (srtL L) lb).map Nod.txt
def toldT (p : Prf) (lb : List UInt8) : List (List UInt8) := if (ndsF p lb).1 = [] then [[18]] else (ndsF p lb).1.reverse.map Nod.txt
end Go.Proofs.YtcmgpkibjdbonaaGreat
set_option maxHeartbeats 4000000
namespace Go.Proofs.YtcmgpkibjdbonaaGreat
open Go Go.RowKit
section
variable {P : Program} {T : List (Nat × TI)} {C : Ctx} {S : St}
theorem Ops.callGR {m : OM} {ops : Array Oper} {l : List Oper} {K : St → Prop} {d : Option Tmp} {op : Op} {f : FuncId} {ty : Nat} {pos : String} {aft : Array Edge} {gd : Option (Nat × Bool)} (hw : gval ops S gd = gwant gd) (heff : effOp P op = true)
    (xs : List AV) (hev : ∀ a w, Sat C S a w → ∃ vals : List Value, repVs w (Fz C S.heap w) xs vals ∧ (execOp a.eval ⟨d, op, ty, pos, aft, gd⟩).run P w = .ok (.enter f vals.toArray) w)
    (fz pass ks : List Nat) {as_ : List AV} {os0 os : List HO} {H1 : List (Nat × HO)} {R : AV → List HO → Prop}
    (hspec : Spec P f as_ os R) (hargs : argsLe (fzs S.heap fz) xs as_) (htk : taken (hdels S.heap fz) pass = some (os0, H1)) (hos : hosLe (fzs S.heap fz) os0 os)
    (hd : okD S d = true) (hm : m.oke d pass = true)
    (h : ∀ r os', R r os' → ks.length = os'.length ∧ Ops m P C ops l (St.putO ⟨S.n, S.slots, ks.zip os' ++ H1⟩ d r) K) :
    Ops m P C ops (⟨d, op, ty, pos, aft, gd⟩ :: l) S K := by
  refine Ops.act hw pass hm heff fun a w hs RR Q hK' _ => ?_
  obtain ⟨hd1, hfr⟩ := Sat.dels fz hs
  obtain ⟨t1, t2, t3, t4⟩ := taken_spec htk hd1.nd
  obtain ⟨o1, o2⟩ := hosLe_spec hfr hos
  have hF1 : ∀ b, Fz C S.heap w b → Fz C (hdels S.heap fz) w b := fun b hb => by
    have hsub : ∀ (r : List Nat) (H : List (Nat × HO)) b, b ∈ blks (hdels H r) → b ∈ blks H := by
      intro r
      induction r with
      | nil => exact fun H b hb => hb
      | cons k r ih =>
        intro H b hb
        unfold hdels at hb
        split at hb
        · rename_i hg2
          exact (hdel_blks hg2).1 b (ih _ b hb)
        · exact ih _ b hb
    exact ⟨hb.1, fun hin => hb.2.1 (hsub fz _ b hin), hb.2.2⟩
  obtain ⟨fn, f1, f2, f3⟩ := hspec.fn
  unfold Oper.wp
  obtain ⟨vals, hvals, hexec⟩ := hev a w hs
  rw [hexec]
  refine Calls.mono (hspec.run w vals (Fz C (hdels S.heap fz) w) (fun b hb => ⟨hb.1, fun hin => hb.2.1 (t2 b (List.mem_append.2 (.inl (by rw [o1] at hin; exact hin))))⟩) ⟨o2 (fun o ho => ?_), ?_, fun b hb => ?_⟩ ?_) ?_
  · obtain ⟨p, hp, _, rfl⟩ := t3 o ho
    exact hd1.heap p hp
  · rw [o1]; exact (List.nodup_append.1 t1).1
  · rw [o1] at hb; exact (hd1.lt b (t2 b (List.mem_append.2 (.inl hb)))).1
  · exact argsLe_rep hfr hargs ⟨hvals.1, fun i x v hx hv => repV_mono hF1 (fun _ _ => rfl) _ _ (hvals.2 i x v hx hv)⟩
  · rintro e w' ⟨v, r, os', rfl, hR, hm, hown, hbs, hv⟩
    obtain ⟨hkl, hK2⟩ := h r os' hR
    have hb0 : blks (ks.zip os' ++ H1) = oblks os' ++ blks H1 := by rw [blks_append, blks_zip ks os' hkl]
    have hlt : ∀ b ∈ blks (ks.zip os' ++ H1), b < w'.heap.size ∧ (b ∈ blks (hdels S.heap fz) ∨ w.heap.size ≤ b) := by
      intro b hb
      rw [hb0] at hb
      rcases List.mem_append.1 hb with hb | hb
      · refine ⟨hown.lt b hb, ?_⟩
        rcases hbs b hb with h1 | h1
        · rw [o1] at h1; exact .inl (t2 b (List.mem_append.2 (.inl h1)))
        · exact .inr h1
      · have h2 := t2 b (List.mem_append.2 (.inr hb))
        exact ⟨Nat.lt_of_lt_of_le (hd1.lt b h2).1 hm.size, .inl h2⟩
    have hT : ∀ b, b < w.heap.size → b ∈ oblks os → b ∈ blks (hdels S.heap fz) := fun b _ hb => by rw [o1] at hb; exact t2 b (List.mem_append.2 (.inl hb))
    have hFA : ∀ b, FAfter w w' (Fz C (hdels S.heap fz) w) os os' b → Fz C (ks.zip os' ++ H1) w' b := by
      intro b hb
      refine ⟨hb.1, fun hin => ?_, ?_⟩
      · rw [hb0] at hin
        rcases List.mem_append.1 hin with h1 | h1
        · exact hb.2.1 h1
        · rcases hb.2.2 with h2 | h2 | h2
          · exact h2.2.1 (t2 b (List.mem_append.2 (.inr h1)))
          · have := (hd1.lt b (t2 b (List.mem_append.2 (.inr h1)))).1; omega
          · rw [o1] at h2
            exact (List.nodup_append.1 t1).2.2 b h2 b h1 rfl
      · rcases hb.2.2 with h2 | h2 | h2
        · exact h2.2.2
        · exact .inr (.inl (Nat.le_trans hs.mod.size h2))
        · rw [o1] at h2
          exact .inr (hd1.lt b (t2 b (List.mem_append.2 (.inl h2)))).2
    have hs2 : Sat C ⟨S.n, S.slots, ks.zip os' ++ H1⟩ a w' := by
      refine hd1.move _ _ hm hT ?_ hlt ?_
      · rw [hb0]
        refine List.nodup_append.2 ⟨hown.nd, (List.nodup_append.1 t1).2.1, fun b hb c hc hbc => ?_⟩
        subst hbc
        rcases hbs b hb with h1 | h1
        · rw [o1] at h1; exact (List.nodup_append.1 t1).2.2 b h1 b hc rfl
        · have := (hd1.lt b (t2 b (List.mem_append.2 (.inr hc)))).1; omega
      · intro p hp
        rcases List.mem_append.1 hp with hp | hp
        · exact HOk_mono hFA (hown.ok p.2 (List.of_mem_zip hp).2)
        · refine hd1.keepHO hm hT hlt (hd1.heap p (t4 p hp)) (fun b hb hin => ?_)
          rw [o1] at hin
          have : b ∈ blks H1 := List.mem_filterMap.2 ⟨p, hp, hb⟩
          exact (List.nodup_append.1 t1).2.2 b hin b this rfl
    have hd' : okD (⟨S.n, S.slots, ks.zip os' ++ H1⟩ : St) d = true := by cases d <;> exact hd
    have hin : ∀ p ∈ hdels S.heap fz, p ∈ S.heap := by
      have : ∀ (r : List Nat) (H : List (Nat × HO)) p, p ∈ hdels H r → p ∈ H := by
        intro r
        induction r with
        | nil => exact fun H p hp => hp
        | cons k r ih =>
          intro H p hp
          unfold hdels at hp
          split at hp
          · rename_i hg2
            exact (hdel_blks hg2).2.2 p (ih _ p hp)
          · exact ih _ p hp
      exact this fz _
    have hold : ∀ b, b ∈ oblks os → tbl S.heap pass b := fun b hb => by
      rw [o1] at hb
      obtain ⟨o, ho, hob⟩ := List.mem_filterMap.1 hb
      obtain ⟨p, hp, hk, rfl⟩ := t3 o ho
      exact ⟨p, hin p hp, hk, hob⟩
    refine hK' _ v w' r hs2 hd' (repV_mono hFA (fun _ _ => rfl) _ _ hv) ⟨hm.mono (fun b _ hb => hold b hb), fun tk htk b hlt' ⟨p, hp, hpk, hpb⟩ => ?_⟩ hK2
    rcases List.mem_append.1 hp with hp | hp
    · have hb : b ∈ oblks os' := List.mem_filterMap.2 ⟨p.2, (List.of_mem_zip hp).2, hpb⟩
      rcases hbs b hb with h1 | h1
      · exact tbl_sub htk (hold b h1)
      · omega
    · exact ⟨p, hin p (t4 p hp), hpk, hpb⟩
end
section
variable {m : OM} {P : Program} {T : List (Nat × TI)} {C : Ctx} {ops : Array Oper} {l : List Oper} {K : St → Prop} {n : Nat} {sl : List (Nat × AV)} {hp : List (Nat × HO)} {d : Nat} {ty : Nat} {pos : String} {aft : Array Edge} {gd : Option (Nat × Bool)}
/-- Which function a method of a type is. -/
def IsMeth (P : Program) (t : Nat) (name : String) (f : FuncId) : Prop := ∀ (v : Value) (w : World), (method (P.types.size + Made.depth) t v name).run P w = .ok (f, v) w
theorem o_invoke (hw : gval ops ⟨n, sl, hp⟩ gd = gwant gd) {x : Operand} {name : String} {ats : Array TypeId} {t : Nat} {y : AV} {f : FuncId} {ys : List AV} {R : AV → List HO → Prop} (hx : ev ⟨n, sl, hp⟩ x = .ifc t y) (hm : IsMeth P t name f)
    (hspec : Spec P f ys [] R) (_hv : y.isVal = true) (hargs : argsLe [] [y] ys) (hd : Nat.blt d n = true) (heff : effOp P (.call ⟨.invoke x name, #[], ats⟩) = true)
    (h : ∀ r os', R r os' → os' = [] ∧ Ops m P C ops l ⟨n, (d, r) :: sl, hp⟩ K) :
    Ops m P C ops (⟨some d, .call ⟨.invoke x name, #[], ats⟩, ty, pos, aft, gd⟩ :: l) ⟨n, sl, hp⟩ K :=
  Ops.callGR hw heff [y] (fun a w hs => by
    have E := ev_rep hs x
    rw [hx] at E
    obtain ⟨_, ⟨vs, rfl, h1⟩, h2⟩ := E
    have h2 : a.eval x = .iface t (ofCells y vs) := h2
    obtain ⟨fn, f1, f2, f3⟩ := hspec.fn
    refine ⟨[ofCells y vs], ⟨rfl, fun i b u hb hu => ?_⟩, ?_⟩
    · match i with
      | 0 => simp at hb hu; subst hb; subst hu; exact repV_mk h1
      | j + 1 => simp at hb
    · have h3 := hm (ofCells y vs) w
      have h5 : (program).run P w = .ok P w := rfl
      unfold execOp
      simp only [resolve, Sem.run_bind, Sem.run_pure, Result.andThen_ok, invoke]
      have h6 : ((#[a.eval x] ++ Array.map a.eval #[])[0]? : Option Value) = some (.iface t (ofCells y vs)) := by rw [h2]; simp
      rw [h6]
      have h7 : ((#[a.eval x] ++ Array.map a.eval #[]).extract 1 (#[a.eval x] ++ Array.map a.eval #[]).size) = #[] := by simp
      rw [h7]
      show (callMethod (.iface t (ofCells y vs)) name #[]).run P w = _
      unfold callMethod
      simp only [Sem.run_bind, h5, Result.andThen_ok, h3]
      exact callFunc_run f1 f2 f3 _) [] [] [] hspec hargs rfl trivial hd oke_nil (fun r os' hr => by
    obtain ⟨rfl, h1⟩ := h r os' hr
    exact ⟨rfl, h1⟩)
end
end Go.Proofs.YtcmgpkibjdbonaaGreat
