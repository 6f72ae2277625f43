/- What is summed tells the node; a way that is told and the tree's own one, the top first. No program in sight. -/
import Derived.Test.YtcmgpkibjdbonaaGreatKW2Z
import Derived.Test.YtcmgpkibjdbonaaGreatC4
set_option maxHeartbeats 4000000
namespace Go.Proofs.YtcmgpkibjdbonaaGreat
open Go Go.RowKit
/-- A node that is right. -/
def Nod.gd : Nod → Prop
  | .no => False
  | .lf x => x.ok ∧ chkLf x = 0
  | .inn x y => x.ok ∧ y.ok ∧ chkN x y = 0
theorem chkN_good {x y : Itm} (h : chkN x y = 0) : goodI x = true ∧ goodI y = true ∧ ((comL x.l y.l : Nat) : Int) < x.n ∧ ((comL x.l y.l : Nat) : Int) < y.n ∧ ¬ 0 < cmpS x.l y.l := by
  unfold chkN at h
  split at h
  · rename_i hg
    split at h
    · cases h
    · rename_i hn
      exact ⟨hg.1, hg.2, by omega, by omega, by omega⟩
  · cases h
/-- A way that is told, the top first. -/
def Chain (lb : List UInt8) : List Nod → Prop
  | [] => False
  | [n] => n.gd ∧ ∀ a b, n = .inn a b → hasP (innI a b).p lb = false
  | n :: m :: r => n.gd ∧ (∃ a b, n = .inn a b ∧ hasP (innI a b).p lb = true ∧ m.itm = if bitL lb (comL a.l b.l) = 1 then b else a) ∧ Chain lb (m :: r)
theorem Chain.gd {lb : List UInt8} {n : Nod} {r : List Nod} (h : Chain lb (n :: r)) : n.gd := by
  cases r with
  | nil => exact h.1
  | cons m r => exact h.1
/-- The lowest node of a proof. -/
def lowN (p : Prf) : Nod := if p.e = 1 then .lf p.lf else .inn p.a p.b
/-- The text of the top of leaves; the side of a label. -/
def rlT (l : List Lef) : List UInt8 := if l = [] then [18] else if l.length = 1 then leafB (l.headD lef0) else innB (parA (l.map leafI)) (parB (l.map leafI))
def sdL (l : List Lef) (lb : List UInt8) : List Lef := if 1 < l.length then (if bitL lb (frkI (l.map leafI)) = 1 then l.drop (splI (l.map leafI)) else l.take (splI (l.map leafI))) else l
def clsh (a b : List UInt8) : Bool := a != b && shaN a == shaN b
/-- The first node that is unlike, the top first. -/
def exL : List Nod → List Lef → List UInt8 → List UInt8 × List UInt8 × Bool
  | [], _, _ => ([], [], false)
  | n :: r, l, lb => if n.txt = rlT l then exL r (sdL l lb) lb else (n.txt, rlT l, clsh n.txt (rlT l))
def exC (c : List Nod) (l : List Lef) (lb : List UInt8) : List UInt8 × List UInt8 × Bool :=
  if c = [] then (if [18] = rlT l then ([], [], false) else ([18], rlT l, clsh [18] (rlT l))) else exL c l lb
/-- The first two of texts that are unlike. -/
def exR : List (List UInt8) → List (List UInt8) → List UInt8 × List UInt8 × Bool
  | a :: s, b :: t => if a = b then exR s t else (a, b, shaN a == shaN b)
  | _, _ => ([], [], false)
/-- The node that leaves are. -/
def rlN (l : List Lef) : Nod := if l.length = 1 then .lf (l.headD lef0) else .inn (parA (l.map leafI)) (parB (l.map leafI))
theorem Rsn.node {l : List Lef} (h : Rsn l) (hn : l ≠ []) : (rlN l).gd ∧ (rlN l).txt = rlT l ∧ (rlN l).itm = jnI l := by
  have hp : 0 < l.length := List.length_pos_iff.2 hn
  unfold rlN rlT
  rw [if_neg hn]
  by_cases h1 : l.length = 1
  · rw [if_pos h1, if_pos h1]
    obtain ⟨x, rfl⟩ := List.length_eq_one_iff.1 h1
    refine ⟨⟨h.ok x (List.mem_cons_self ..), ?_⟩, rfl, rfl⟩
    have := good_t (h.good x (List.mem_cons_self ..))
    have e : (leafI x).t = x.t := rfl
    unfold chkLf
    exact if_neg (by show ¬ (x.t < 0 ∨ 1073741824 < x.t); omega)
  · rw [if_neg h1, if_neg h1]
    have hS := h.sides (by omega)
    exact ⟨⟨hS.oA, hS.oB, hS.chk⟩, rfl, hS.jn.symm⟩
end Go.Proofs.YtcmgpkibjdbonaaGreat
set_option maxHeartbeats 4000000
namespace Go.Proofs.YtcmgpkibjdbonaaGreat
open Go Go.RowKit
theorem chk_rsn {l : List Lef} (h : Rsn l) (hl : l.length ≤ 2000) : chkI (l.map leafI) = 0 := by
  refine chkI_zero (by rw [List.length_map]; exact hl) h.goodI ?_ h.rise
  rw [List.pairwise_map]
  exact List.Pairwise.imp_of_mem (fun {a b} ha hb hab => leaf_anti (h.ok a ha) (h.ok b hb) hab) (rise_ne h.rise)
theorem topU_chk (P : List Itm) (F : List Lef) : (chkI (topU P F) = 0 ↔ chkI (srtI (P ++ F.map leafI)) = 0) ∧ (chkI (srtI (P ++ F.map leafI)) = 0 → topU P F = srtI (P ++ F.map leafI)) := by
  have hp : (P ++ itmsL F).Perm (P ++ F.map leafI) := List.Perm.append_left _ (srtI_perm _)
  have h1 : chkI (srtI (P ++ F.map leafI)) = 0 → topU P F = srtI (P ++ F.map leafI) := fun hc => srt_eq hp hc
  have h2 : chkI (topU P F) = 0 → srtI (P ++ F.map leafI) = topU P F := fun hc => srt_eq hp.symm hc
  exact ⟨⟨fun hc => by rw [h2 hc]; exact hc, fun hc => by rw [h1 hc]; exact hc⟩, h1⟩
theorem topU_srt (P : List Itm) (F : List Lef) : topU P (srtL F) = topU P F := by unfold topU; rw [itms_srt]
theorem rise_neI {l : List Itm} (h : RiseI l) : l.Pairwise (fun a b => a.l ≠ b.l) := h.imp (fun {a b} hab he => by
  rw [he, cmpS_eq] at hab; omega)
theorem fresh_ok {P : List Itm} {F : List Lef} (h : chkI (srtI (P ++ F.map leafI)) = 0) : (∀ x ∈ F, 0 ≤ x.t ∧ x.t ≤ 1073741824) ∧ F.Pairwise (fun a b => a.l ≠ b.l) := by
  obtain ⟨-, hr, hg⟩ := chkI_rise h
  refine ⟨fun x hx => good_t (hg (leafI x) (srtI_mem.2 (List.mem_append.2 (.inr (List.mem_map_of_mem hx))))), ?_⟩
  have h1 := (List.Perm.pairwise_iff (fun h => Ne.symm h) (srtI_perm _)).1 (rise_neI hr)
  have h2 := (List.pairwise_append.1 h1).2.1
  rw [List.pairwise_map] at h2
  exact h2
theorem openF_pos : ∀ (k : Nat) (ls : List (List UInt8)) (l : List Lef), l ≠ [] → l.length ≤ k → Rsn l → 1 ≤ (openF k ls l).1.length + (openF k ls l).2.length
  | 0, ls, l, hn, hk, _ => absurd (List.length_eq_zero_iff.1 (by omega)) hn
  | k + 1, ls, l, hn, hk, h => by
    have hp : 0 < l.length := List.length_pos_iff.2 hn
    rw [openF, if_neg hn]
    split
    · exact Nat.le_refl _
    split
    · show 1 ≤ 0 + l.length; omega
    · rename_i h1 h2
      have hS := h.sides (by omega)
      have hlt := hS.sl
      have hs0 := hS.s0
      have tk : (l.take (splI (l.map leafI))).length = splI (l.map leafI) := by rw [List.length_take]; omega
      have := openF_pos k ls (l.take (splI (l.map leafI))) (fun he => by rw [he] at tk; simp at tk; omega) (by omega) (h.take _)
      show 1 ≤ (_ ++ _ : List Itm).length + (_ ++ _ : List Lef).length
      rw [List.length_append, List.length_append]; omega
/-- Where one part is all that there is, no label touches the tree. -/
theorem openF_one {ls : List (List UInt8)} {l : List Lef} (h : Rsn l) (h2 : 2 ≤ l.length) (a : (openF l.length ls l).1.length = 1) (b : (openF l.length ls l).2.length = 0) : ls.any (hasP (jnI l).p) = false := by
  obtain ⟨k, hk⟩ : ∃ k, l.length = k + 1 := ⟨l.length - 1, by omega⟩
  rw [hk, openF, if_neg (fun he => by rw [he] at h2; simp at h2)] at a b
  rw [show joinF l.length (l.map leafI) = jnI l from rfl] at a b
  by_cases hh : ls.any (hasP (jnI l).p) = false
  · exact hh
  · rw [if_neg hh, if_neg (by omega)] at a b
    have hS := h.sides h2
    have hlt := hS.sl
    have hs0 := hS.s0
    have tk : (l.take (splI (l.map leafI))).length = splI (l.map leafI) := by rw [List.length_take]; omega
    have dr : (l.drop (splI (l.map leafI))).length = l.length - splI (l.map leafI) := List.length_drop
    have p1 := openF_pos k ls (l.take (splI (l.map leafI))) (fun he => by rw [he] at tk; simp at tk; omega) (by omega) (h.take _)
    have p2 := openF_pos k ls (l.drop (splI (l.map leafI))) (fun he => by rw [he] at dr; simp at dr; omega) (by omega) (h.drop _)
    have a : (_ ++ _ : List Itm).length = 1 := a
    have b : (_ ++ _ : List Lef).length = 0 := b
    rw [List.length_append] at a b
    omega
theorem openF_nil {k : Nat} {l : List Lef} (hn : l ≠ []) (hk : 0 < k) : openF k [] l = ([jnI l], []) := by
  obtain ⟨k, rfl⟩ : ∃ j, k = j + 1 := ⟨k - 1, by omega⟩
  rw [openF, if_neg hn]
  exact if_pos rfl
theorem jn_map {a b : List Lef} (h : a.map leafI = b.map leafI) : jnI a = jnI b := by
  have hl : a.length = b.length := by have := congrArg List.length h; rwa [List.length_map, List.length_map] at this
  unfold jnI
  rw [h, hl]
/-- The tree of a side of the leaves, whatever their order. -/
theorem cvI_side {L : List Lef} {p : Lef → Bool} {T : List Lef} (hok : ∀ x ∈ L, x.ok) (hT : (srtL L).filter p = T) (hr : Rsn T) (hn : T ≠ []) (hl : T.length ≤ 2000) : cvI (L.filter p) [] = [jnI T] := by
  have hp : (L.filter p).Perm T := by rw [← hT]; exact (srtL_perm L).symm.filter p
  have hc := chk_rsn hr hl
  have hcT : chkI (itmsL T) = 0 := by rw [itms_rise hr.rise]; exact hc
  have hi : itmsL (L.filter p) = T.map leafI := by rw [itms_perm hp hcT, itms_rise hr.rise]
  have hE : cvE (L.filter p) = 0 := by unfold cvE; rw [itms_srt, hi]; exact hc
  have hne : L.filter p ≠ [] := fun he => by rw [he] at hp; exact hn (List.nil_perm.1 hp)
  have hs : (srtL (L.filter p)).map leafI = T.map leafI := by rw [← itms_map]; exact hi
  have hne2 : srtL (L.filter p) ≠ [] := fun he => by
    have := srtL_len (L.filter p)
    rw [he] at this
    exact hne (List.length_eq_zero_iff.1 this.symm)
  unfold cvI
  rw [if_pos hE, openF_nil hne2 (List.length_pos_iff.2 hne), jn_map hs]
theorem hlf_eq {L : List Lef} (hok : ∀ x ∈ L, x.ok) (hc : mkE L = 0) (h2 : 2 ≤ L.length) (hl : L.length ≤ 2000) : hlf L = [parA ((srtL L).map leafI), parB ((srtL L).map leafI)] := by
  have hS := rsn_srt hok hc
  have hsl := srtL_len L
  have hSd := hS.sides (by omega)
  have hlt := hSd.sl
  have hs0 := hSd.s0
  have hI : itmsL L = (srtL L).map leafI := itms_map L
  have tk : ((srtL L).take (splI ((srtL L).map leafI))).length = splI ((srtL L).map leafI) := by rw [List.length_take]; omega
  have dr : ((srtL L).drop (splI ((srtL L).map leafI))).length = (srtL L).length - splI ((srtL L).map leafI) := List.length_drop
  have hall : ∀ (q : Lef → Bool), (srtL L).filter q = ((srtL L).take (splI ((srtL L).map leafI))).filter q ++ ((srtL L).drop (splI ((srtL L).map leafI))).filter q := fun q => by rw [← List.filter_append, List.take_append_drop]
  unfold hlf hlA hlB
  rw [hI]
  have e1 : (srtL L).filter (fun x => bitL x.l (frkI ((srtL L).map leafI)) == 0) = (srtL L).take (splI ((srtL L).map leafI)) := by
    rw [hall, List.filter_eq_self.2 (fun x hx => by rw [hSd.lo x hx]; rfl), List.filter_eq_nil_iff.2 (fun x hx => by rw [hSd.hi x hx]; decide), List.append_nil]
  have e2 : (srtL L).filter (fun x => !(bitL x.l (frkI ((srtL L).map leafI)) == 0)) = (srtL L).drop (splI ((srtL L).map leafI)) := by
    rw [hall, List.filter_eq_nil_iff.2 (fun x hx => by rw [hSd.lo x hx]; decide), List.filter_eq_self.2 (fun x hx => by rw [hSd.hi x hx]; rfl), List.nil_append]
  rw [cvI_side hok e1 (hS.take _) (fun he => by rw [he] at tk; simp at tk; omega) (by omega), cvI_side hok e2 (hS.drop _) (fun he => by rw [he] at dr; simp at dr; omega) (by omega), ← hSd.jA, ← hSd.jB]; rfl
end Go.Proofs.YtcmgpkibjdbonaaGreat
set_option maxHeartbeats 4000000
namespace Go.Proofs.YtcmgpkibjdbonaaGreat
open Go Go.RowKit
/-- What is there behind a step. -/
def behL (L : List Lef) (gone : List (List UInt8)) (fresh : List Lef) : List Lef := L.filter (notIn gone) ++ fresh
theorem notIn_iff {ls : List (List UInt8)} {x : Lef} : notIn ls x = true ↔ x.l ∉ ls := by
  unfold notIn
  simp
structure Leads (L : List Lef) (gone : List (List UInt8)) (fresh : List Lef) (Sm : List Itm) (Ol Nw : List Lef) : Prop where
  okS : ∀ x ∈ Sm, x.ok
  lenS : Sm.length ≤ 2 * L.length
  inO : ∀ x ∈ Ol, x ∈ L
  lenO : Ol.length ≤ L.length
  beh : chkI (itmsL (behL L gone fresh)) = 0
  old : chkI (topU Sm Ol) = 0
  oldT : topS (topU Sm Ol) = topS (itmsL L)
  new : chkI (topU Sm Nw) = 0
  newT : topS (topU Sm Nw) = topS (itmsL (behL L gone fresh))
  form : ¬ (Sm.length = 1 ∧ Ol.length = 0 ∧ 0 < Nw.length)
  lenN : Nw.length ≤ fresh.length + 1
  okN : ∀ x ∈ Nw, x.ok
theorem perm_filter {L : List Lef} (p : Lef → Bool) : (L.filter p ++ L.filter (fun x => !p x)).Perm L := List.filter_append_perm p L
theorem two_top {a b : Itm} (oA : a.ok) (oB : b.ok) (hck : chkN a b = 0) (hab : cmpS a.l b.l < 0) : chkI [a, b] = 0 ∧ topS [a, b] = (innI a b).s ∧ RiseI [a, b] := by
  obtain ⟨g1, g2, n1, n2, _⟩ := chkN_good hck
  have hr : RiseI [a, b] := List.pairwise_cons.2 ⟨fun y hy => by rw [List.mem_singleton.1 hy]; exact hab, List.pairwise_singleton _ _⟩
  have hok : ∀ y ∈ [a, b], y.ok := fun y hy => by
    rcases List.mem_cons.1 hy with rfl | hy
    · exact oA
    · rw [List.mem_singleton.1 hy]; exact oB
  have hc : chkI [a, b] = 0 := chkI_zero (show 2 ≤ 2000 by decide) (fun y hy => by
    rcases List.mem_cons.1 hy with rfl | hy
    · exact g1
    · rw [List.mem_singleton.1 hy]; exact g2) (List.pairwise_cons.2 ⟨fun y hy => by rw [List.mem_singleton.1 hy]; exact ⟨n1, n2⟩, List.pairwise_singleton _ _⟩) hr
  have hjn : joinF [a, b].length [a, b] = innI a b := by
    obtain ⟨_, s1, s2, _⟩ := spl_ok hr hok (show 2 ≤ 2 from Nat.le_refl _)
    have s2 : splI [a, b] < 2 := s2
    show (if [a, b].length = 1 then _ else innI (joinF 1 ([a, b].take (splI [a, b]))) (joinF 1 ([a, b].drop (splI [a, b])))) = _
    rw [if_neg (show ¬ [a, b].length = 1 from fun h => by simp at h), show splI [a, b] = 1 by omega]
    rfl
  refine ⟨hc, ?_, hr⟩
  unfold topS
  rw [if_neg (fun h => h hc), if_neg (List.cons_ne_nil _ _), hjn]
/-- Two halves and leaves that neither half touches. -/
theorem halves_top {S fresh : List Lef} (h : Rsn S) (h2 : 2 ≤ S.length) (hl : S.length + fresh.length ≤ 1000) (hfo : ∀ x ∈ fresh, x.ok) (hft : ∀ x ∈ fresh, 0 ≤ x.t ∧ x.t ≤ 1073741824) (hfd : fresh.Pairwise (fun a b => a.l ≠ b.l)) (ho : ∀ x ∈ fresh, hasP (jnI S).p x.l = false) (hc : chkI (srtI ((S ++ fresh).map leafI)) = 0) :
    chkI (srtI ([parA (S.map leafI), parB (S.map leafI)] ++ fresh.map leafI)) = 0 ∧ topS (srtI ([parA (S.map leafI), parB (S.map leafI)] ++ fresh.map leafI)) = topS (srtI ((S ++ fresh).map leafI)) := by
  have hS := h.sides h2
  have hlt := hS.sl
  have hs0 := hS.s0
  have tk : (S.take (splI (S.map leafI))).length = splI (S.map leafI) := by rw [List.length_take]; omega
  have dr : (S.drop (splI (S.map leafI))).length = S.length - splI (S.map leafI) := List.length_drop
  have n1 : S.take (splI (S.map leafI)) ≠ [] := fun he => by rw [he] at tk; simp at tk; omega
  have n2 : S.drop (splI (S.map leafI)) ≠ [] := fun he => by rw [he] at dr; simp at dr; omega
  obtain ⟨g1, g2, c1, c2, _⟩ := chkN_good hS.chk
  obtain ⟨jA, _⟩ := (h.take (splI (S.map leafI))).join (by omega)
  obtain ⟨jB, _⟩ := (h.drop (splI (S.map leafI))).join (by omega)
  rw [← hS.jA] at jA
  rw [← hS.jB] at jB
  obtain ⟨jW, gW⟩ := h.join (by omega)
  have hf := hS.f256
  have hcom := hS.com
  have hag := (com_bits (parA (S.map leafI)).l (parB (S.map leafI)).l (by rw [hS.oA.1, hS.oB.1])).2.1
  have hWn : (jnI S).n = ((frkI (S.map leafI) : Nat) : Int) := by rw [hS.jn]; show ((comL _ _ : Nat) : Int) = _; rw [hcom]
  have hWl : ∀ i, i < frkI (S.map leafI) → bitL (jnI S).l i = bitL (parA (S.map leafI)).l i := fun i hi => by
    rw [hS.jn]
    show bitL (cutL _ _) i = _
    rw [hcom, cut_bit _ hS.oA.1 _ _ (by omega), if_pos hi]
  -- leaves that come part from both halves where they part from the whole
  have hpart : ∀ x ∈ fresh, comL (parA (S.map leafI)).l x.l < frkI (S.map leafI) ∧ comL (parB (S.map leafI)).l x.l < frkI (S.map leafI) := fun x hx => by
    have h0 := ho x hx
    have hge : ¬ (jnI S).n ≤ ((comL (jnI S).l x.l : Nat) : Int) := fun hh => by
      unfold hasP at h0
      have hg : goodP (jnI S).p = true := jW.good h.goodI
      rw [hg, show decide ((jnI S).p.n ≤ ((comL (jnI S).p.l x.l : Nat) : Int)) = true from decide_eq_true hh] at h0
      cases h0
    rw [hWn] at hge
    have hc0 : comL (jnI S).l x.l < frkI (S.map leafI) := by omega
    have hx0 := (hfo x hx).1
    have hb := com_bits (jnI S).l x.l (by rw [jW.ok.1, hx0])
    have hne := hb.2.2.1 (by rw [jW.ok.1]; omega)
    have eA : comL (parA (S.map leafI)).l x.l = comL (jnI S).l x.l := com_is hS.oA.1 hx0 (by omega) (fun i hi => by rw [← hWl i (by omega)]; exact hb.2.1 i hi) (by rw [← hWl _ hc0]; exact hne)
    have eB : comL (parB (S.map leafI)).l x.l = comL (jnI S).l x.l := com_is hS.oB.1 hx0 (by omega) (fun i hi => by rw [← hag i (by omega), ← hWl i (by omega)]; exact hb.2.1 i hi) (by rw [← hag _ (by omega), ← hWl _ hc0]; exact hne)
    rw [eA, eB]; exact ⟨hc0, hc0⟩
  have hU : ([parA (S.map leafI), parB (S.map leafI)] ++ fresh.map leafI).Pairwise Anti := by
    refine List.pairwise_append.2 ⟨List.pairwise_cons.2 ⟨fun y hy => by rw [List.mem_singleton.1 hy]; exact ⟨c1, c2⟩, List.pairwise_singleton _ _⟩, ?_, fun a ha b hb => ?_⟩
    · rw [List.pairwise_map]
      exact List.Pairwise.imp_of_mem (fun {a b} ha hb hab => leaf_anti (hfo a ha) (hfo b hb) hab) hfd
    · obtain ⟨x, hx, rfl⟩ := List.mem_map.1 hb
      obtain ⟨p1, p2⟩ := hpart x hx
      rcases List.mem_cons.1 ha with rfl | ha
      · exact ⟨by show ((comL _ x.l : Nat) : Int) < _; omega, by show ((comL _ x.l : Nat) : Int) < 256; omega⟩
      · rw [List.mem_singleton.1 ha]
        exact ⟨by show ((comL _ x.l : Nat) : Int) < _; omega, by show ((comL _ x.l : Nat) : Int) < 256; omega⟩
  have hUok : ∀ x ∈ [parA (S.map leafI), parB (S.map leafI)] ++ fresh.map leafI, x.ok := fun x hx => by
    rcases List.mem_append.1 hx with hx | hx
    · rcases List.mem_cons.1 hx with rfl | hx
      · exact hS.oA
      · rw [List.mem_singleton.1 hx]; exact hS.oB
    · obtain ⟨y, hy, rfl⟩ := List.mem_map.1 hx
      exact leafI_ok y (hfo y hy)
  have hUg : ∀ x ∈ [parA (S.map leafI), parB (S.map leafI)] ++ fresh.map leafI, goodI x = true := fun x hx => by
    rcases List.mem_append.1 hx with hx | hx
    · rcases List.mem_cons.1 hx with rfl | hx
      · exact g1
      · rw [List.mem_singleton.1 hx]; exact g2
    · obtain ⟨y, hy, rfl⟩ := List.mem_map.1 hx
      exact leaf_good (hfo y hy) (hft y hy).1 (hft y hy).2
  have hUc := chk_anti (by rw [List.length_append, List.length_map, show [parA (S.map leafI), parB (S.map leafI)].length = 2 from rfl]; omega) hUg hUok hU
  have hVok : ∀ x ∈ (S ++ fresh).map leafI, x.ok := fun x hx => by
    obtain ⟨y, hy, rfl⟩ := List.mem_map.1 hx
    rcases List.mem_append.1 hy with hy | hy
    · exact leafI_ok y (h.ok y hy)
    · exact leafI_ok y (hfo y hy)
  refine ⟨hUc, ?_⟩
  rw [top_trJ hUok hUc, top_trJ hVok hc, if_neg (show ¬ ([parA (S.map leafI), parB (S.map leafI)] ++ fresh.map leafI = []) from List.cons_ne_nil _ _), if_neg (fun he => by
    have := congrArg List.length he
    rw [List.length_map, List.length_append, List.length_nil] at this; omega)]
  have hmem1 : ∀ y ∈ S.take (splI (S.map leafI)), y ∈ S := fun y hy => List.mem_of_mem_take hy
  have hmem2 : ∀ y ∈ S.drop (splI (S.map leafI)), y ∈ S := fun y hy => List.mem_of_mem_drop hy
  have hcA : ∀ y ∈ S.drop (splI (S.map leafI)), comL (parA (S.map leafI)).l y.l = frkI (S.map leafI) := fun y hy => by
    refine com_is hS.oA.1 (h.ok y (hmem2 y hy)).1 hf (fun i hi => ?_) (by rw [hS.bA, hS.hi y hy]; decide)
    rw [hag i (by omega)]
    exact (jB.agree (leafI y) (List.mem_map_of_mem hy) i (by omega)).symm
  have hcB : ∀ y ∈ S.take (splI (S.map leafI)), comL (parB (S.map leafI)).l y.l = frkI (S.map leafI) := fun y hy => by
    refine com_is hS.oB.1 (h.ok y (hmem1 y hy)).1 hf (fun i hi => ?_) (by rw [hS.bB, hS.lo y hy]; decide)
    rw [← hag i (by omega)]
    exact (jA.agree (leafI y) (List.mem_map_of_mem hy) i (by omega)).symm
  have hbl := trJ_blocks [(parA (S.map leafI), S.take (splI (S.map leafI))), (parB (S.map leafI), S.drop (splI (S.map leafI)))] (fresh.map leafI) (fun q hq => by
      rcases List.mem_cons.1 hq with rfl | hq
      · exact ⟨n1, jA⟩
      · rw [List.mem_singleton.1 hq]; exact ⟨n2, jB⟩)
    (List.pairwise_cons.2 ⟨fun q hq => by
      rw [List.mem_singleton.1 hq]
      exact ⟨c1, c2, fun y hy => by show ((comL (parA (S.map leafI)).l y.l : Nat) : Int) < (parA (S.map leafI)).n; rw [hcA y hy]; omega, fun y hy => by show ((comL (parB (S.map leafI)).l y.l : Nat) : Int) < (parB (S.map leafI)).n; rw [hcB y hy]; omega, hS.cmp⟩, List.pairwise_singleton _ _⟩)
    (fun q hq x hx => by
      obtain ⟨y, hy, rfl⟩ := List.mem_map.1 hx
      obtain ⟨p1, p2⟩ := hpart y hy
      refine ⟨leafI_ok y (hfo y hy), ?_⟩
      rcases List.mem_cons.1 hq with rfl | hq
      · show ((comL (parA (S.map leafI)).l y.l : Nat) : Int) < (parA (S.map leafI)).n; omega
      · rw [List.mem_singleton.1 hq]; show ((comL (parB (S.map leafI)).l y.l : Nat) : Int) < (parB (S.map leafI)).n; omega)
    (fun q hq y hy => by
      rcases List.mem_cons.1 hq with rfl | hq
      · exact h.ok y (hmem1 y hy)
      · rw [List.mem_singleton.1 hq] at hy; exact h.ok y (hmem2 y hy))
  have hfl : ([(parA (S.map leafI), S.take (splI (S.map leafI))), (parB (S.map leafI), S.drop (splI (S.map leafI)))] : List (Itm × List Lef)).flatMap (·.2) = S := by
    show S.take _ ++ (S.drop _ ++ []) = S
    rw [List.append_nil, List.take_append_drop]
  rw [hfl] at hbl
  rw [List.map_append]
  exact congrArg Itm.s hbl
theorem notIn_mem {ls : List (List UInt8)} {S : List Lef} (h : S.filter (fun x => ls.contains x.l) = []) : S.filter (notIn ls) = S := by
  refine List.filter_eq_self.2 (fun x hx => ?_)
  have := List.filter_eq_nil_iff.1 h x hx
  unfold notIn
  cases q : ls.contains x.l with
  | true => exact absurd q this
  | false => rfl
theorem mk_core {L : List Lef} {gone : List (List UInt8)} {fresh : List Lef} (hok : ∀ x ∈ L, x.ok) (hgo : ∀ x ∈ gone, x.length = 32) (hfo : ∀ x ∈ fresh, x.ok) (hl : L.length ≤ 400) (hfl : fresh.length ≤ 400) (hc : mkE L = 0)
    (h7 : gone.all (fun g => (cvT L (lbs gone fresh)).any (fun x => x.l == g)) = true) (h8 : (cvT L (lbs gone fresh)).all (fun x => gone.any (fun y => x.l == y)) = true)
    (hft : ∀ x ∈ fresh, 0 ≤ x.t ∧ x.t ≤ 1073741824) (hfd : fresh.Pairwise (fun a b => a.l ≠ b.l)) :
    Leads L gone fresh (mkSm L (cvI L (lbs gone fresh)) (cvT L (lbs gone fresh)) fresh) (mkOl L (cvI L (lbs gone fresh)) (cvT L (lbs gone fresh)) fresh) (srtL (mkNw L (cvI L (lbs gone fresh)) (cvT L (lbs gone fresh)) fresh)) := by
  have hS := rsn_srt hok hc
  have hsl := srtL_len L
  have hlbo : ∀ x ∈ lbs gone fresh, x.length = 32 := fun x hx => by
    rcases List.mem_append.1 hx with hx | hx
    · exact hgo x hx
    · obtain ⟨y, hy, rfl⟩ := List.mem_map.1 hx
      exact (hfo y hy).1
  have hcS : chkI ((srtL L).map leafI) = 0 := by rw [← itms_map]; exact hc
  have hE : cvE L = 0 := by unfold cvE; rw [itms_srt]; exact hc
  have eI : cvI L (lbs gone fresh) = (openF (srtL L).length (lbs gone fresh) (srtL L)).1 := by unfold cvI; rw [if_pos hE, hsl]
  have eT : cvT L (lbs gone fresh) = (openF (srtL L).length (lbs gone fresh) (srtL L)).2 := by unfold cvT; rw [if_pos hE, hsl]
  have hin : ∀ x ∈ fresh, x.l ∈ lbs gone fresh := fun x hx => List.mem_append.2 (.inr (List.mem_map_of_mem hx))
  obtain ⟨a1, a2, a3, a4, a5, a6⟩ := cover_top hlbo hcS hS.ok (fun x hx => ⟨hfo x hx, (hft x hx).1, (hft x hx).2, hin x hx⟩) hfd (by omega)
  have hSd := rise_ne hS.rise
  have hTm : ∀ x ∈ cvT L (lbs gone fresh), x ∈ srtL L ∧ x.l ∈ lbs gone fresh := fun x hx => by
    rw [eT, a4] at hx
    obtain ⟨q1, q2⟩ := List.mem_filter.1 hx
    exact ⟨q1, by simpa using q2⟩
  have hTd : (cvT L (lbs gone fresh)).Pairwise (fun a b => a.l ≠ b.l) := by rw [eT, a4]; exact hSd.sublist (List.filter_sublist ..)
  have hTl : (cvT L (lbs gone fresh)).length ≤ L.length := cvT_len L _
  obtain ⟨b1, b2, b3, _, _, _⟩ := cover_top (F := cvT L (lbs gone fresh)) hlbo hcS hS.ok (fun x hx => by
    obtain ⟨q1, q2⟩ := hTm x hx
    have ht := good_t (hS.good x q1)
    exact ⟨hS.ok x q1, ht.1, ht.2, q2⟩) hTd (by omega)
  -- what stays
  have hst : (srtL L).filter (notIn gone) = (srtL L).filter (notIn (lbs gone fresh)) := by
    refine List.filter_congr (fun x hx => ?_)
    have h1 : notIn gone x = true ↔ notIn (lbs gone fresh) x = true := by
      rw [notIn_iff, notIn_iff]
      refine ⟨fun h hm => ?_, fun h hm => h (List.mem_append.2 (.inl hm))⟩
      have hxT : x ∈ cvT L (lbs gone fresh) := by
        rw [eT, a4]
        exact List.mem_filter.2 ⟨hx, by simpa using hm⟩
      have := List.all_eq_true.1 h8 x hxT
      obtain ⟨y, hy, he⟩ := List.any_eq_true.1 this
      rw [beq_iff_eq.1 he] at h
      exact h hy
    cases q : notIn gone x with
    | true => rw [h1.1 q]
    | false =>
      cases q2 : notIn (lbs gone fresh) x with
      | true => rw [h1.2 q2] at q; cases q
      | false => rfl
  have hbp : (behL L gone fresh).Perm ((srtL L).filter (notIn (lbs gone fresh)) ++ fresh) := by
    unfold behL
    rw [← hst]
    exact List.Perm.append_right _ ((srtL_perm L).symm.filter _)
  have hbc : chkI (itmsL (behL L gone fresh)) = 0 := by rw [(top_perm hbp).1]; exact a2
  have hbt : topS (itmsL (behL L gone fresh)) = topS (srtI (((srtL L).filter (notIn (lbs gone fresh)) ++ fresh).map leafI)) := (top_perm hbp).2
  have hLp : ((srtL L).filter (notIn (lbs gone fresh)) ++ cvT L (lbs gone fresh)).Perm L := by
    rw [eT, a4]
    have hp := perm_filter (L := srtL L) (notIn (lbs gone fresh))
    have he : (srtL L).filter (fun x => !notIn (lbs gone fresh) x) = (srtL L).filter (fun x => (lbs gone fresh).contains x.l) := List.filter_congr (fun x _ => by unfold notIn; rw [Bool.not_not])
    rw [he] at hp
    exact hp.trans (srtL_perm L)
  have hLt : topS (srtI (((srtL L).filter (notIn (lbs gone fresh)) ++ cvT L (lbs gone fresh)).map leafI)) = topS (itmsL L) := (top_perm hLp).2
  have okI : ∀ x ∈ cvI L (lbs gone fresh), x.ok := cvI_ok _ hok
  have hIl := cvI_len L (lbs gone fresh)
  rw [← eI] at a1 a3 b1 b3
  by_cases hsp : spD (cvI L (lbs gone fresh)) (cvT L (lbs gone fresh)) fresh
  · unfold mkSm mkOl mkNw
    rw [if_pos hsp, if_pos hsp, if_pos hsp]
    obtain ⟨p1, p2, p3⟩ := hsp
    have hT0 : cvT L (lbs gone fresh) = [] := List.length_eq_zero_iff.1 p2
    have hg0 : gone = [] := by
      cases gone with
      | nil => rfl
      | cons g r =>
        have := List.all_eq_true.1 h7 g (List.mem_cons_self ..)
        rw [hT0] at this; cases this
    have hn0 : (srtL L).filter (notIn (lbs gone fresh)) = srtL L := notIn_mem (by rw [← a4, ← eT]; exact hT0)
    rw [hn0] at hbp hbt a2 a3
    by_cases hL1 : L.length = 1
    · rw [if_pos hL1, if_pos hL1, if_pos hL1]
      obtain ⟨y, rfl⟩ := List.length_eq_one_iff.1 hL1
      have hr := (chkI_rise hc).2.1
      have e1 : topU [] [y] = itmsL [y] := srt_id hr
      have hpp : (fresh ++ [y]).Perm (behL [y] gone fresh) := by
        refine List.perm_append_comm.trans ?_
        refine List.Perm.trans ?_ hbp.symm
        exact List.Perm.append_right _ (srtL_perm [y]).symm
      have hcn : chkI (itmsL (fresh ++ [y])) = 0 := by rw [(top_perm hpp).1]; exact hbc
      have e2 : topU [] (srtL (fresh ++ [y])) = itmsL (fresh ++ [y]) := by rw [topU_srt]; exact srt_id (chkI_rise hcn).2.1
      refine ⟨(fun x hx => by cases hx), Nat.zero_le _, fun x hx => hx, Nat.le_refl _, hbc, by rw [e1]; exact hc, by rw [e1], ?_, ?_, fun h => absurd h.1 (by decide), by rw [srtL_len, List.length_append]; exact Nat.le_refl _, fun x hx => ?_⟩
      · show chkI (topU [] (srtL (fresh ++ [y]))) = 0
        rw [e2]; exact hcn
      · show topS (topU [] (srtL (fresh ++ [y]))) = _
        rw [e2]; exact (top_perm hpp).2
      · have hx : x ∈ fresh ++ [y] := srtL_mem.1 hx
        rcases List.mem_append.1 hx with hx | hx
        · exact hfo x hx
        · exact hok x hx
    · rw [if_neg hL1, if_neg hL1, if_neg hL1]
      have h2 : 2 ≤ (srtL L).length := by omega
      have hSd2 := hS.sides h2
      have hh := hlf_eq hok hc (by omega) (by omega)
      have hone := openF_one (ls := lbs gone fresh) hS h2 (by rw [← eI]; exact p1) (by rw [← eT]; exact p2)
      have hno : ∀ x ∈ fresh, hasP (jnI (srtL L)).p x.l = false := fun x hx => by
        have := List.any_eq_false.1 hone x.l (hin x hx)
        cases q : hasP (jnI (srtL L)).p x.l with
        | true => exact absurd q this
        | false => rfl
      obtain ⟨t1, t2⟩ := halves_top hS h2 (by omega) hfo hft hfd hno a2
      obtain ⟨u1, u2, u3⟩ := two_top hSd2.oA hSd2.oB hSd2.chk hSd2.cmp
      obtain ⟨w1, w2⟩ := topU_chk [parA ((srtL L).map leafI), parB ((srtL L).map leafI)] fresh
      have e1 : topU [parA ((srtL L).map leafI), parB ((srtL L).map leafI)] [] = [parA ((srtL L).map leafI), parB ((srtL L).map leafI)] := srt_id u3
      have hTt : topS (itmsL L) = (jnI (srtL L)).s := by
        rw [top_srt hc, if_neg (fun he => by rw [he] at h2; simp at h2)]
      rw [hh, hT0]
      refine ⟨fun x hx => ?_, by show 2 ≤ 2 * L.length; omega, (fun x hx => by cases hx), Nat.zero_le _, hbc, by rw [e1]; exact u1, by rw [e1, u2, hTt, hSd2.jn], by rw [topU_srt]; exact w1.2 t1, by rw [topU_srt, w2 t1, t2, hbt], fun h => absurd h.1 (show ¬ 2 = 1 by decide), by rw [srtL_len]; omega, fun x hx => hfo x (srtL_mem.1 hx)⟩
      rcases List.mem_cons.1 hx with rfl | hx
      · exact hSd2.oA
      · rw [List.mem_singleton.1 hx]; exact hSd2.oB
  · unfold mkSm mkOl mkNw
    rw [if_neg hsp, if_neg hsp, if_neg hsp]
    obtain ⟨w1, w2⟩ := topU_chk (cvI L (lbs gone fresh)) fresh
    obtain ⟨v1, v2⟩ := topU_chk (cvI L (lbs gone fresh)) (cvT L (lbs gone fresh))
    refine ⟨okI, by omega, fun x hx => srtL_mem.1 (hTm x hx).1, hTl, hbc, v1.2 b1, by rw [v2 b1, b3, hLt], by rw [topU_srt]; exact w1.2 a1, by rw [topU_srt, w2 a1, a3, hbt], fun h => hsp ⟨h.1, h.2.1, by have := h.2.2; rw [srtL_len] at this; exact this⟩, by rw [srtL_len]; omega, fun x hx => hfo x (srtL_mem.1 hx)⟩
end Go.Proofs.YtcmgpkibjdbonaaGreat
