/- What step.Make makes leads from tree to tree: the heart. No program in sight. -/
import Derived.Test.YtcmgpkibjdbonaaLF2Z
set_option maxHeartbeats 4000000
namespace Go.Proofs.Ytcmgpkibjdbonaa
open Go Go.RowKit
/-- What is there behind a step. -/
def behL (L : List Lef) (gone : List (List UInt8)) (fresh : List Lef) : List Lef := L.filter (notIn gone) ++ fresh
theorem notIn_iff {ls : List (List UInt8)} {x : Lef} : notIn ls x = true ↔ x.l ∉ ls := by
  unfold notIn
  simp
structure Leads (L : List Lef) (gone : List (List UInt8)) (fresh : List Lef) (Sm : List Itm) (Ol Nw : List Lef) : Prop where
  okS : ∀ x ∈ Sm, x.ok
  lenS : Sm.length ≤ 2 * L.length
  inO : ∀ x ∈ Ol, x ∈ L
  lenO : Ol.length ≤ L.length
  beh : chkI (itmsL (behL L gone fresh)) = 0
  old : chkI (topU Sm Ol) = 0
  oldT : topS (topU Sm Ol) = topS (itmsL L)
  new : chkI (topU Sm Nw) = 0
  newT : topS (topU Sm Nw) = topS (itmsL (behL L gone fresh))
  form : ¬ (Sm.length = 1 ∧ Ol.length = 0 ∧ 0 < Nw.length)
  lenN : Nw.length ≤ fresh.length + 1
  okN : ∀ x ∈ Nw, x.ok
theorem perm_filter {L : List Lef} (p : Lef → Bool) : (L.filter p ++ L.filter (fun x => !p x)).Perm L := List.filter_append_perm p L
theorem two_top {a b : Itm} (oA : a.ok) (oB : b.ok) (hck : chkN a b = 0) (hab : cmpS a.l b.l < 0) : chkI [a, b] = 0 ∧ topS [a, b] = (innI a b).s ∧ RiseI [a, b] := by
  obtain ⟨g1, g2, n1, n2, _⟩ := chkN_good hck
  have hr : RiseI [a, b] := List.pairwise_cons.2 ⟨fun y hy => by rw [List.mem_singleton.1 hy]; exact hab, List.pairwise_singleton _ _⟩
  have hok : ∀ y ∈ [a, b], y.ok := fun y hy => by
    rcases List.mem_cons.1 hy with rfl | hy
    · exact oA
    · rw [List.mem_singleton.1 hy]; exact oB
  have hc : chkI [a, b] = 0 := chkI_zero (show 2 ≤ 2000 by decide) (fun y hy => by
    rcases List.mem_cons.1 hy with rfl | hy
    · exact g1
    · rw [List.mem_singleton.1 hy]; exact g2) (List.pairwise_cons.2 ⟨fun y hy => by rw [List.mem_singleton.1 hy]; exact ⟨n1, n2⟩, List.pairwise_singleton _ _⟩) hr
  have hjn : joinF [a, b].length [a, b] = innI a b := by
    obtain ⟨_, s1, s2, _⟩ := spl_ok hr hok (show 2 ≤ 2 from Nat.le_refl _)
    have s2 : splI [a, b] < 2 := s2
    show (if [a, b].length = 1 then _ else innI (joinF 1 ([a, b].take (splI [a, b]))) (joinF 1 ([a, b].drop (splI [a, b])))) = _
    rw [if_neg (show ¬ [a, b].length = 1 from fun h => by simp at h), show splI [a, b] = 1 by omega]
    rfl
  refine ⟨hc, ?_, hr⟩
  unfold topS
  rw [if_neg (fun h => h hc), if_neg (List.cons_ne_nil _ _), hjn]
/-- Two halves and leaves that neither half touches. -/
theorem halves_top {S fresh : List Lef} (h : Rsn S) (h2 : 2 ≤ S.length) (hl : S.length + fresh.length ≤ 1000) (hfo : ∀ x ∈ fresh, x.ok) (hft : ∀ x ∈ fresh, 0 ≤ x.t ∧ x.t ≤ 1073741824) (hfd : fresh.Pairwise (fun a b => a.l ≠ b.l)) (ho : ∀ x ∈ fresh, hasP (jnI S).p x.l = false) (hc : chkI (srtI ((S ++ fresh).map leafI)) = 0) :
    chkI (srtI ([parA (S.map leafI), parB (S.map leafI)] ++ fresh.map leafI)) = 0 ∧ topS (srtI ([parA (S.map leafI), parB (S.map leafI)] ++ fresh.map leafI)) = topS (srtI ((S ++ fresh).map leafI)) := by
  have hS := h.sides h2
  have hlt := hS.sl
  have hs0 := hS.s0
  have tk : (S.take (splI (S.map leafI))).length = splI (S.map leafI) := by rw [List.length_take]; omega
  have dr : (S.drop (splI (S.map leafI))).length = S.length - splI (S.map leafI) := List.length_drop
  have n1 : S.take (splI (S.map leafI)) ≠ [] := fun he => by rw [he] at tk; simp at tk; omega
  have n2 : S.drop (splI (S.map leafI)) ≠ [] := fun he => by rw [he] at dr; simp at dr; omega
  obtain ⟨g1, g2, c1, c2, _⟩ := chkN_good hS.chk
  obtain ⟨jA, _⟩ := (h.take (splI (S.map leafI))).join (by omega)
  obtain ⟨jB, _⟩ := (h.drop (splI (S.map leafI))).join (by omega)
  rw [← hS.jA] at jA
  rw [← hS.jB] at jB
  obtain ⟨jW, gW⟩ := h.join (by omega)
  have hf := hS.f256
  have hcom := hS.com
  have hag := (com_bits (parA (S.map leafI)).l (parB (S.map leafI)).l (by rw [hS.oA.1, hS.oB.1])).2.1
  have hWn : (jnI S).n = ((frkI (S.map leafI) : Nat) : Int) := by rw [hS.jn]; show ((comL _ _ : Nat) : Int) = _; rw [hcom]
  have hWl : ∀ i, i < frkI (S.map leafI) → bitL (jnI S).l i = bitL (parA (S.map leafI)).l i := fun i hi => by
    rw [hS.jn]
    show bitL (cutL _ _) i = _
    rw [hcom, cut_bit _ hS.oA.1 _ _ (by omega), if_pos hi]
  -- leaves that come part from both halves where they part from the whole
  have hpart : ∀ x ∈ fresh, comL (parA (S.map leafI)).l x.l < frkI (S.map leafI) ∧ comL (parB (S.map leafI)).l x.l < frkI (S.map leafI) := fun x hx => by
    have h0 := ho x hx
    have hge : ¬ (jnI S).n ≤ ((comL (jnI S).l x.l : Nat) : Int) := fun hh => by
      unfold hasP at h0
      have hg : goodP (jnI S).p = true := jW.good h.goodI
      rw [hg, show decide ((jnI S).p.n ≤ ((comL (jnI S).p.l x.l : Nat) : Int)) = true from decide_eq_true hh] at h0
      cases h0
    rw [hWn] at hge
    have hc0 : comL (jnI S).l x.l < frkI (S.map leafI) := by omega
    have hx0 := (hfo x hx).1
    have hb := com_bits (jnI S).l x.l (by rw [jW.ok.1, hx0])
    have hne := hb.2.2.1 (by rw [jW.ok.1]; omega)
    have eA : comL (parA (S.map leafI)).l x.l = comL (jnI S).l x.l := com_is hS.oA.1 hx0 (by omega) (fun i hi => by rw [← hWl i (by omega)]; exact hb.2.1 i hi) (by rw [← hWl _ hc0]; exact hne)
    have eB : comL (parB (S.map leafI)).l x.l = comL (jnI S).l x.l := com_is hS.oB.1 hx0 (by omega) (fun i hi => by rw [← hag i (by omega), ← hWl i (by omega)]; exact hb.2.1 i hi) (by rw [← hag _ (by omega), ← hWl _ hc0]; exact hne)
    rw [eA, eB]; exact ⟨hc0, hc0⟩
  have hU : ([parA (S.map leafI), parB (S.map leafI)] ++ fresh.map leafI).Pairwise Anti := by
    refine List.pairwise_append.2 ⟨List.pairwise_cons.2 ⟨fun y hy => by rw [List.mem_singleton.1 hy]; exact ⟨c1, c2⟩, List.pairwise_singleton _ _⟩, ?_, fun a ha b hb => ?_⟩
    · rw [List.pairwise_map]
      exact List.Pairwise.imp_of_mem (fun {a b} ha hb hab => leaf_anti (hfo a ha) (hfo b hb) hab) hfd
    · obtain ⟨x, hx, rfl⟩ := List.mem_map.1 hb
      obtain ⟨p1, p2⟩ := hpart x hx
      rcases List.mem_cons.1 ha with rfl | ha
      · exact ⟨by show ((comL _ x.l : Nat) : Int) < _; omega, by show ((comL _ x.l : Nat) : Int) < 256; omega⟩
      · rw [List.mem_singleton.1 ha]
        exact ⟨by show ((comL _ x.l : Nat) : Int) < _; omega, by show ((comL _ x.l : Nat) : Int) < 256; omega⟩
  have hUok : ∀ x ∈ [parA (S.map leafI), parB (S.map leafI)] ++ fresh.map leafI, x.ok := fun x hx => by
    rcases List.mem_append.1 hx with hx | hx
    · rcases List.mem_cons.1 hx with rfl | hx
      · exact hS.oA
      · rw [List.mem_singleton.1 hx]; exact hS.oB
    · obtain ⟨y, hy, rfl⟩ := List.mem_map.1 hx
      exact leafI_ok y (hfo y hy)
  have hUg : ∀ x ∈ [parA (S.map leafI), parB (S.map leafI)] ++ fresh.map leafI, goodI x = true := fun x hx => by
    rcases List.mem_append.1 hx with hx | hx
    · rcases List.mem_cons.1 hx with rfl | hx
      · exact g1
      · rw [List.mem_singleton.1 hx]; exact g2
    · obtain ⟨y, hy, rfl⟩ := List.mem_map.1 hx
      exact leaf_good (hfo y hy) (hft y hy).1 (hft y hy).2
  have hUc := chk_anti (by rw [List.length_append, List.length_map, show [parA (S.map leafI), parB (S.map leafI)].length = 2 from rfl]; omega) hUg hUok hU
  have hVok : ∀ x ∈ (S ++ fresh).map leafI, x.ok := fun x hx => by
    obtain ⟨y, hy, rfl⟩ := List.mem_map.1 hx
    rcases List.mem_append.1 hy with hy | hy
    · exact leafI_ok y (h.ok y hy)
    · exact leafI_ok y (hfo y hy)
  refine ⟨hUc, ?_⟩
  rw [top_trJ hUok hUc, top_trJ hVok hc, if_neg (show ¬ ([parA (S.map leafI), parB (S.map leafI)] ++ fresh.map leafI = []) from List.cons_ne_nil _ _), if_neg (fun he => by
    have := congrArg List.length he
    rw [List.length_map, List.length_append, List.length_nil] at this; omega)]
  have hmem1 : ∀ y ∈ S.take (splI (S.map leafI)), y ∈ S := fun y hy => List.mem_of_mem_take hy
  have hmem2 : ∀ y ∈ S.drop (splI (S.map leafI)), y ∈ S := fun y hy => List.mem_of_mem_drop hy
  have hcA : ∀ y ∈ S.drop (splI (S.map leafI)), comL (parA (S.map leafI)).l y.l = frkI (S.map leafI) := fun y hy => by
    refine com_is hS.oA.1 (h.ok y (hmem2 y hy)).1 hf (fun i hi => ?_) (by rw [hS.bA, hS.hi y hy]; decide)
    rw [hag i (by omega)]
    exact (jB.agree (leafI y) (List.mem_map_of_mem hy) i (by omega)).symm
  have hcB : ∀ y ∈ S.take (splI (S.map leafI)), comL (parB (S.map leafI)).l y.l = frkI (S.map leafI) := fun y hy => by
    refine com_is hS.oB.1 (h.ok y (hmem1 y hy)).1 hf (fun i hi => ?_) (by rw [hS.bB, hS.lo y hy]; decide)
    rw [← hag i (by omega)]
    exact (jA.agree (leafI y) (List.mem_map_of_mem hy) i (by omega)).symm
  have hbl := trJ_blocks [(parA (S.map leafI), S.take (splI (S.map leafI))), (parB (S.map leafI), S.drop (splI (S.map leafI)))] (fresh.map leafI) (fun q hq => by
      rcases List.mem_cons.1 hq with rfl | hq
      · exact ⟨n1, jA⟩
      · rw [List.mem_singleton.1 hq]; exact ⟨n2, jB⟩)
    (List.pairwise_cons.2 ⟨fun q hq => by
      rw [List.mem_singleton.1 hq]
      exact ⟨c1, c2, fun y hy => by show ((comL (parA (S.map leafI)).l y.l : Nat) : Int) < (parA (S.map leafI)).n; rw [hcA y hy]; omega, fun y hy => by show ((comL (parB (S.map leafI)).l y.l : Nat) : Int) < (parB (S.map leafI)).n; rw [hcB y hy]; omega, hS.cmp⟩, List.pairwise_singleton _ _⟩)
    (fun q hq x hx => by
      obtain ⟨y, hy, rfl⟩ := List.mem_map.1 hx
      obtain ⟨p1, p2⟩ := hpart y hy
      refine ⟨leafI_ok y (hfo y hy), ?_⟩
      rcases List.mem_cons.1 hq with rfl | hq
      · show ((comL (parA (S.map leafI)).l y.l : Nat) : Int) < (parA (S.map leafI)).n; omega
      · rw [List.mem_singleton.1 hq]; show ((comL (parB (S.map leafI)).l y.l : Nat) : Int) < (parB (S.map leafI)).n; omega)
    (fun q hq y hy => by
      rcases List.mem_cons.1 hq with rfl | hq
      · exact h.ok y (hmem1 y hy)
      · rw [List.mem_singleton.1 hq] at hy; exact h.ok y (hmem2 y hy))
  have hfl : ([(parA (S.map leafI), S.take (splI (S.map leafI))), (parB (S.map leafI), S.drop (splI (S.map leafI)))] : List (Itm × List Lef)).flatMap (·.2) = S := by
    show S.take _ ++ (S.drop _ ++ []) = S
    rw [List.append_nil, List.take_append_drop]
  rw [hfl] at hbl
  rw [List.map_append]
  exact congrArg Itm.s hbl
theorem notIn_mem {ls : List (List UInt8)} {S : List Lef} (h : S.filter (fun x => ls.contains x.l) = []) : S.filter (notIn ls) = S := by
  refine List.filter_eq_self.2 (fun x hx => ?_)
  have := List.filter_eq_nil_iff.1 h x hx
  unfold notIn
  cases q : ls.contains x.l with
  | true => exact absurd q this
  | false => rfl
theorem mk_core {L : List Lef} {gone : List (List UInt8)} {fresh : List Lef} (hok : ∀ x ∈ L, x.ok) (hgo : ∀ x ∈ gone, x.length = 32) (hfo : ∀ x ∈ fresh, x.ok) (hl : L.length ≤ 400) (hfl : fresh.length ≤ 400) (hc : mkE L = 0)
    (h7 : gone.all (fun g => (cvT L (lbs gone fresh)).any (fun x => x.l == g)) = true) (h8 : (cvT L (lbs gone fresh)).all (fun x => gone.any (fun y => x.l == y)) = true)
    (hft : ∀ x ∈ fresh, 0 ≤ x.t ∧ x.t ≤ 1073741824) (hfd : fresh.Pairwise (fun a b => a.l ≠ b.l)) :
    Leads L gone fresh (mkSm L (cvI L (lbs gone fresh)) (cvT L (lbs gone fresh)) fresh) (mkOl L (cvI L (lbs gone fresh)) (cvT L (lbs gone fresh)) fresh) (srtL (mkNw L (cvI L (lbs gone fresh)) (cvT L (lbs gone fresh)) fresh)) := by
  have hS := rsn_srt hok hc
  have hsl := srtL_len L
  have hlbo : ∀ x ∈ lbs gone fresh, x.length = 32 := fun x hx => by
    rcases List.mem_append.1 hx with hx | hx
    · exact hgo x hx
    · obtain ⟨y, hy, rfl⟩ := List.mem_map.1 hx
      exact (hfo y hy).1
  have hcS : chkI ((srtL L).map leafI) = 0 := by rw [← itms_map]; exact hc
  have hE : cvE L = 0 := by unfold cvE; rw [itms_srt]; exact hc
  have eI : cvI L (lbs gone fresh) = (openF (srtL L).length (lbs gone fresh) (srtL L)).1 := by unfold cvI; rw [if_pos hE, hsl]
  have eT : cvT L (lbs gone fresh) = (openF (srtL L).length (lbs gone fresh) (srtL L)).2 := by unfold cvT; rw [if_pos hE, hsl]
  have hin : ∀ x ∈ fresh, x.l ∈ lbs gone fresh := fun x hx => List.mem_append.2 (.inr (List.mem_map_of_mem hx))
  obtain ⟨a1, a2, a3, a4, a5, a6⟩ := cover_top hlbo hcS hS.ok (fun x hx => ⟨hfo x hx, (hft x hx).1, (hft x hx).2, hin x hx⟩) hfd (by omega)
  have hSd := rise_ne hS.rise
  have hTm : ∀ x ∈ cvT L (lbs gone fresh), x ∈ srtL L ∧ x.l ∈ lbs gone fresh := fun x hx => by
    rw [eT, a4] at hx
    obtain ⟨q1, q2⟩ := List.mem_filter.1 hx
    exact ⟨q1, by simpa using q2⟩
  have hTd : (cvT L (lbs gone fresh)).Pairwise (fun a b => a.l ≠ b.l) := by rw [eT, a4]; exact hSd.sublist (List.filter_sublist ..)
  have hTl : (cvT L (lbs gone fresh)).length ≤ L.length := cvT_len L _
  obtain ⟨b1, b2, b3, _, _, _⟩ := cover_top (F := cvT L (lbs gone fresh)) hlbo hcS hS.ok (fun x hx => by
    obtain ⟨q1, q2⟩ := hTm x hx
    have ht := good_t (hS.good x q1)
    exact ⟨hS.ok x q1, ht.1, ht.2, q2⟩) hTd (by omega)
  -- what stays
  have hst : (srtL L).filter (notIn gone) = (srtL L).filter (notIn (lbs gone fresh)) := by
    refine List.filter_congr (fun x hx => ?_)
    have h1 : notIn gone x = true ↔ notIn (lbs gone fresh) x = true := by
      rw [notIn_iff, notIn_iff]
      refine ⟨fun h hm => ?_, fun h hm => h (List.mem_append.2 (.inl hm))⟩
      have hxT : x ∈ cvT L (lbs gone fresh) := by
        rw [eT, a4]
        exact List.mem_filter.2 ⟨hx, by simpa using hm⟩
      have := List.all_eq_true.1 h8 x hxT
      obtain ⟨y, hy, he⟩ := List.any_eq_true.1 this
      rw [beq_iff_eq.1 he] at h
      exact h hy
    cases q : notIn gone x with
    | true => rw [h1.1 q]
    | false =>
      cases q2 : notIn (lbs gone fresh) x with
      | true => rw [h1.2 q2] at q; cases q
      | false => rfl
  have hbp : (behL L gone fresh).Perm ((srtL L).filter (notIn (lbs gone fresh)) ++ fresh) := by
    unfold behL
    rw [← hst]
    exact List.Perm.append_right _ ((srtL_perm L).symm.filter _)
  have hbc : chkI (itmsL (behL L gone fresh)) = 0 := by rw [(top_perm hbp).1]; exact a2
  have hbt : topS (itmsL (behL L gone fresh)) = topS (srtI (((srtL L).filter (notIn (lbs gone fresh)) ++ fresh).map leafI)) := (top_perm hbp).2
  have hLp : ((srtL L).filter (notIn (lbs gone fresh)) ++ cvT L (lbs gone fresh)).Perm L := by
    rw [eT, a4]
    have hp := perm_filter (L := srtL L) (notIn (lbs gone fresh))
    have he : (srtL L).filter (fun x => !notIn (lbs gone fresh) x) = (srtL L).filter (fun x => (lbs gone fresh).contains x.l) := List.filter_congr (fun x _ => by unfold notIn; rw [Bool.not_not])
    rw [he] at hp
    exact hp.trans (srtL_perm L)
  have hLt : topS (srtI (((srtL L).filter (notIn (lbs gone fresh)) ++ cvT L (lbs gone fresh)).map leafI)) = topS (itmsL L) := (top_perm hLp).2
  have okI : ∀ x ∈ cvI L (lbs gone fresh), x.ok := cvI_ok _ hok
  have hIl := cvI_len L (lbs gone fresh)
  rw [← eI] at a1 a3 b1 b3
  by_cases hsp : spD (cvI L (lbs gone fresh)) (cvT L (lbs gone fresh)) fresh
  · unfold mkSm mkOl mkNw
    rw [if_pos hsp, if_pos hsp, if_pos hsp]
    obtain ⟨p1, p2, p3⟩ := hsp
    have hT0 : cvT L (lbs gone fresh) = [] := List.length_eq_zero_iff.1 p2
    have hg0 : gone = [] := by
      cases gone with
      | nil => rfl
      | cons g r =>
        have := List.all_eq_true.1 h7 g (List.mem_cons_self ..)
        rw [hT0] at this; cases this
    have hn0 : (srtL L).filter (notIn (lbs gone fresh)) = srtL L := notIn_mem (by rw [← a4, ← eT]; exact hT0)
    rw [hn0] at hbp hbt a2 a3
    by_cases hL1 : L.length = 1
    · rw [if_pos hL1, if_pos hL1, if_pos hL1]
      obtain ⟨y, rfl⟩ := List.length_eq_one_iff.1 hL1
      have hr := (chkI_rise hc).2.1
      have e1 : topU [] [y] = itmsL [y] := srt_id hr
      have hpp : (fresh ++ [y]).Perm (behL [y] gone fresh) := by
        refine List.perm_append_comm.trans ?_
        refine List.Perm.trans ?_ hbp.symm
        exact List.Perm.append_right _ (srtL_perm [y]).symm
      have hcn : chkI (itmsL (fresh ++ [y])) = 0 := by rw [(top_perm hpp).1]; exact hbc
      have e2 : topU [] (srtL (fresh ++ [y])) = itmsL (fresh ++ [y]) := by rw [topU_srt]; exact srt_id (chkI_rise hcn).2.1
      refine ⟨(fun x hx => by cases hx), Nat.zero_le _, fun x hx => hx, Nat.le_refl _, hbc, by rw [e1]; exact hc, by rw [e1], ?_, ?_, fun h => absurd h.1 (by decide), by rw [srtL_len, List.length_append]; exact Nat.le_refl _, fun x hx => ?_⟩
      · show chkI (topU [] (srtL (fresh ++ [y]))) = 0
        rw [e2]; exact hcn
      · show topS (topU [] (srtL (fresh ++ [y]))) = _
        rw [e2]; exact (top_perm hpp).2
      · have hx : x ∈ fresh ++ [y] := srtL_mem.1 hx
        rcases List.mem_append.1 hx with hx | hx
        · exact hfo x hx
        · exact hok x hx
    · rw [if_neg hL1, if_neg hL1, if_neg hL1]
      have h2 : 2 ≤ (srtL L).length := by omega
      have hSd2 := hS.sides h2
      have hh := hlf_eq hok hc (by omega) (by omega)
      have hone := openF_one (ls := lbs gone fresh) hS h2 (by rw [← eI]; exact p1) (by rw [← eT]; exact p2)
      have hno : ∀ x ∈ fresh, hasP (jnI (srtL L)).p x.l = false := fun x hx => by
        have := List.any_eq_false.1 hone x.l (hin x hx)
        cases q : hasP (jnI (srtL L)).p x.l with
        | true => exact absurd q this
        | false => rfl
      obtain ⟨t1, t2⟩ := halves_top hS h2 (by omega) hfo hft hfd hno a2
      obtain ⟨u1, u2, u3⟩ := two_top hSd2.oA hSd2.oB hSd2.chk hSd2.cmp
      obtain ⟨w1, w2⟩ := topU_chk [parA ((srtL L).map leafI), parB ((srtL L).map leafI)] fresh
      have e1 : topU [parA ((srtL L).map leafI), parB ((srtL L).map leafI)] [] = [parA ((srtL L).map leafI), parB ((srtL L).map leafI)] := srt_id u3
      have hTt : topS (itmsL L) = (jnI (srtL L)).s := by
        rw [top_srt hc, if_neg (fun he => by rw [he] at h2; simp at h2)]
      rw [hh, hT0]
      refine ⟨fun x hx => ?_, by show 2 ≤ 2 * L.length; omega, (fun x hx => by cases hx), Nat.zero_le _, hbc, by rw [e1]; exact u1, by rw [e1, u2, hTt, hSd2.jn], by rw [topU_srt]; exact w1.2 t1, by rw [topU_srt, w2 t1, t2, hbt], fun h => absurd h.1 (show ¬ 2 = 1 by decide), by rw [srtL_len]; omega, fun x hx => hfo x (srtL_mem.1 hx)⟩
      rcases List.mem_cons.1 hx with rfl | hx
      · exact hSd2.oA
      · rw [List.mem_singleton.1 hx]; exact hSd2.oB
  · unfold mkSm mkOl mkNw
    rw [if_neg hsp, if_neg hsp, if_neg hsp]
    obtain ⟨w1, w2⟩ := topU_chk (cvI L (lbs gone fresh)) fresh
    obtain ⟨v1, v2⟩ := topU_chk (cvI L (lbs gone fresh)) (cvT L (lbs gone fresh))
    refine ⟨okI, by omega, fun x hx => srtL_mem.1 (hTm x hx).1, hTl, hbc, v1.2 b1, by rw [v2 b1, b3, hLt], by rw [topU_srt]; exact w1.2 a1, by rw [topU_srt, w2 a1, a3, hbt], fun h => hsp ⟨h.1, h.2.1, by have := h.2.2; rw [srtL_len] at this; exact this⟩, by rw [srtL_len]; omega, fun x hx => hfo x (srtL_mem.1 hx)⟩
end Go.Proofs.Ytcmgpkibjdbonaa
