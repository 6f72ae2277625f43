/- What step.Make makes leads from tree to tree: the heart. No program in sight. -/
import Derived.Test.YtcmgpkibjdbonaaGreatPF4Z
import Derived.Test.YtcmgpkibjdbonaaGreatZC8Z
import Derived.Test.YtcmgpkibjdbonaaGreatSL7Z
import Derived.Test.YtcmgpkibjdbonaaGreatZC4Z
set_option maxHeartbeats 4000000
namespace Go.Proofs.YtcmgpkibjdbonaaGreat
open Go Go.RowKit
/-- What is there behind a step. -/
def behL (L : List Lef) (gone : List (List UInt8)) (fresh : List Lef) : List Lef := L.filter (notIn gone) ++ fresh
theorem notIn_iff {ls : List (List UInt8)} {x : Lef} : notIn ls x = true ↔ x.l ∉ ls := by
  unfold notIn
  simp
structure Leads (L : List Lef) (gone : List (List UInt8)) (fresh : List Lef) (Sm : List Itm) (Ol Nw : List Lef) : Prop where
  okS : ∀ x ∈ Sm, x.ok
  lenS : Sm.length ≤ 2 * L.length
  inO : ∀ x ∈ Ol, x ∈ L
  lenO : Ol.length ≤ L.length
  beh : chkI (itmsL (behL L gone fresh)) = 0
  old : chkI (topU Sm Ol) = 0
  oldT : topS (topU Sm Ol) = topS (itmsL L)
  new : chkI (topU Sm Nw) = 0
  newT : topS (topU Sm Nw) = topS (itmsL (behL L gone fresh))
  form : ¬ (Sm.length = 1 ∧ Ol.length = 0 ∧ 0 < Nw.length)
  lenN : Nw.length ≤ fresh.length + 1
  okN : ∀ x ∈ Nw, x.ok
theorem perm_filter {L : List Lef} (p : Lef → Bool) : (L.filter p ++ L.filter (fun x => !p x)).Perm L := List.filter_append_perm p L
theorem two_top {a b : Itm} (oA : a.ok) (oB : b.ok) (hck : chkN a b = 0) (hab : cmpS a.l b.l < 0) : chkI [a, b] = 0 ∧ topS [a, b] = (innI a b).s ∧ RiseI [a, b] := by
  obtain ⟨g1, g2, n1, n2, _⟩ := chkN_good hck
  have hr : RiseI [a, b] := List.pairwise_cons.2 ⟨fun y hy => by rw [List.mem_singleton.1 hy]; exact hab, List.pairwise_singleton _ _⟩
  have hok : ∀ y ∈ [a, b], y.ok := fun y hy => by
    rcases List.mem_cons.1 hy with rfl | hy
    · exact oA
    · rw [List.mem_singleton.1 hy]; exact oB
  have hc : chkI [a, b] = 0 := chkI_zero (show 2 ≤ 2000 by decide) (fun y hy => by
    rcases List.mem_cons.1 hy with rfl | hy
    · exact g1
    · rw [List.mem_singleton.1 hy]; exact g2) (List.pairwise_cons.2 ⟨fun y hy => by rw [List.mem_singleton.1 hy]; exact ⟨n1, n2⟩, List.pairwise_singleton _ _⟩) hr
  have hjn : joinF [a, b].length [a, b] = innI a b := by
    obtain ⟨_, s1, s2, _⟩ := spl_ok hr hok (show 2 ≤ 2 from Nat.le_refl _)
    have s2 : splI [a, b] < 2 := s2
    show (if [a, b].length = 1 then _ else innI (joinF 1 ([a, b].take (splI [a, b]))) (joinF 1 ([a, b].drop (splI [a, b])))) = _
    rw [if_neg (show ¬ [a, b].length = 1 from fun h => by simp at h), show splI [a, b] = 1 by omega]
    rfl
  refine ⟨hc, ?_, hr⟩
  unfold topS
  rw [if_neg (fun h => h hc), if_neg (List.cons_ne_nil _ _), hjn]
/-- Two halves and leaves that neither half touches. -/
theorem halves_top {S fresh : List Lef} (h : Rsn S) (h2 : 2 ≤ S.length) (hl : S.length + fresh.length ≤ 1000) (hfo : ∀ x ∈ fresh, x.ok) (hft : ∀ x ∈ fresh, 0 ≤ x.t ∧ x.t ≤ 1073741824) (hfd : fresh.Pairwise (fun a b => a.l ≠ b.l)) (ho : ∀ x ∈ fresh, hasP (jnI S).p x.l = false) (hc : chkI (srtI ((S ++ fresh).map leafI)) = 0) :
    chkI (srtI ([parA (S.map leafI), parB (S.map leafI)] ++ fresh.map leafI)) = 0 ∧ topS (srtI ([parA (S.map leafI), parB (S.map leafI)] ++ fresh.map leafI)) = topS (srtI ((S ++ fresh).map leafI)) := by
  have hS := h.sides h2
  have hlt := hS.sl
  have hs0 := hS.s0
  have tk : (S.take (splI (S.map leafI))).length = splI (S.map leafI) := by rw [List.length_take]; omega
  have dr : (S.drop (splI (S.map leafI))).length = S.length - splI (S.map leafI) := List.length_drop
  have n1 : S.take (splI (S.map leafI)) ≠ [] := fun he => by rw [he] at tk; simp at tk; omega
  have n2 : S.drop (splI (S.map leafI)) ≠ [] := fun he => by rw [he] at dr; simp at dr; omega
  obtain ⟨g1, g2, c1, c2, _⟩ := chkN_good hS.chk
  obtain ⟨jA, _⟩ := (h.take (splI (S.map leafI))).join (by omega)
  obtain ⟨jB, _⟩ := (h.drop (splI (S.map leafI))).join (by omega)
  rw [← hS.jA] at jA
  rw [← hS.jB] at jB
  obtain ⟨jW, gW⟩ := h.join (by omega)
  have hf := hS.f256
  have hcom := hS.com
  have hag := (com_bits (parA (S.map leafI)).l (parB (S.map leafI)).l (by rw [hS.oA.1, hS.oB.1])).2.1
  have hWn : (jnI S).n = ((frkI (S.map leafI) : Nat) : Int) := by rw [hS.jn]; show ((comL _ _ : Nat) : Int) = _; rw [hcom]
  have hWl : ∀ i, i < frkI (S.map leafI) → bitL (jnI S).l i = bitL (parA (S.map leafI)).l i := fun i hi => by
    rw [hS.jn]
    show bitL (cutL _ _) i = _
    rw [hcom, cut_bit _ hS.oA.1 _ _ (by omega), if_pos hi]
  -- leaves that come part from both halves where they part from the whole
  have hpart : ∀ x ∈ fresh, comL (parA (S.map leafI)).l x.l < frkI (S.map leafI) ∧ comL (parB (S.map leafI)).l x.l < frkI (S.map leafI) := fun x hx => by
    have h0 := ho x hx
    have hge : ¬ (jnI S).n ≤ ((comL (jnI S).l x.l : Nat) : Int) := fun hh => by
      unfold hasP at h0
      have hg : goodP (jnI S).p = true := jW.good h.goodI
      rw [hg, show decide ((jnI S).p.n ≤ ((comL (jnI S).p.l x.l : Nat) : Int)) = true from decide_eq_true hh] at h0
      cases h0
    rw [hWn] at hge
    have hc0 : comL (jnI S).l x.l < frkI (S.map leafI) := by omega
    have hx0 := (hfo x hx).1
    have hb := com_bits (jnI S).l x.l (by rw [jW.ok.1, hx0])
    have hne := hb.2.2.1 (by rw [jW.ok.1]; omega)
    have eA : comL (parA (S.map leafI)).l x.l = comL (jnI S).l x.l := com_is hS.oA.1 hx0 (by omega) (fun i hi => by rw [← hWl i (by omega)]; exact hb.2.1 i hi) (by rw [← hWl _ hc0]; exact hne)
    have eB : comL (parB (S.map leafI)).l x.l = comL (jnI S).l x.l := com_is hS.oB.1 hx0 (by omega) (fun i hi => by rw [← hag i (by omega), ← hWl i (by omega)]; exact hb.2.1 i hi) (by rw [← hag _ (by omega), ← hWl _ hc0]; exact hne)
    rw [eA, eB]; exact ⟨hc0, hc0⟩
  have hU : ([parA (S.map leafI), parB (S.map leafI)] ++ fresh.map leafI).Pairwise Anti := by
    refine List.pairwise_append.2 ⟨List.pairwise_cons.2 ⟨fun y hy => by rw [List.mem_singleton.1 hy]; exact ⟨c1, c2⟩, List.pairwise_singleton _ _⟩, ?_, fun a ha b hb => ?_⟩
    · rw [List.pairwise_map]
      exact List.Pairwise.imp_of_mem (fun {a b} ha hb hab => leaf_anti (hfo a ha) (hfo b hb) hab) hfd
    · obtain ⟨x, hx, rfl⟩ := List.mem_map.1 hb
      obtain ⟨p1, p2⟩ := hpart x hx
      rcases List.mem_cons.1 ha with rfl | ha
      · exact ⟨by show ((comL _ x.l : Nat) : Int) < _; omega, by show ((comL _ x.l : Nat) : Int) < 256; omega⟩
      · rw [List.mem_singleton.1 ha]
        exact ⟨by show ((comL _ x.l : Nat) : Int) < _; omega, by show ((comL _ x.l : Nat) : Int) < 256; omega⟩
  have hUok : ∀ x ∈ [parA (S.map leafI), parB (S.map leafI)] ++ fresh.map leafI, x.ok := fun x hx => by
    rcases List.mem_append.1 hx with hx | hx
    · rcases List.mem_cons.1 hx with rfl | hx
      · exact hS.oA
      · rw [List.mem_singleton.1 hx]; exact hS.oB
    · obtain ⟨y, hy, rfl⟩ := List.mem_map.1 hx
      exact leafI_ok y (hfo y hy)
  have hUg : ∀ x ∈ [parA (S.map leafI), parB (S.map leafI)] ++ fresh.map leafI, goodI x = true := fun x hx => by
    rcases List.mem_append.1 hx with hx | hx
    · rcases List.mem_cons.1 hx with rfl | hx
      · exact g1
      · rw [List.mem_singleton.1 hx]; exact g2
    · obtain ⟨y, hy, rfl⟩ := List.mem_map.1 hx
      exact leaf_good (hfo y hy) (hft y hy).1 (hft y hy).2
  have hUc := chk_anti (by rw [List.length_append, List.length_map, show [parA (S.map leafI), parB (S.map leafI)].length = 2 from rfl]; omega) hUg hUok hU
  have hVok : ∀ x ∈ (S ++ fresh).map leafI, x.ok := fun x hx => by
    obtain ⟨y, hy, rfl⟩ := List.mem_map.1 hx
    rcases List.mem_append.1 hy with hy | hy
    · exact leafI_ok y (h.ok y hy)
    · exact leafI_ok y (hfo y hy)
  refine ⟨hUc, ?_⟩
  rw [top_trJ hUok hUc, top_trJ hVok hc, if_neg (show ¬ ([parA (S.map leafI), parB (S.map leafI)] ++ fresh.map leafI = []) from List.cons_ne_nil _ _), if_neg (fun he => by
    have := congrArg List.length he
    rw [List.length_map, List.length_append, List.length_nil] at this; omega)]
  have hmem1 : ∀ y ∈ S.take (splI (S.map leafI)), y ∈ S := fun y hy => List.mem_of_mem_take hy
  have hmem2 : ∀ y ∈ S.drop (splI (S.map leafI)), y ∈ S := fun y hy => List.mem_of_mem_drop hy
  have hcA : ∀ y ∈ S.drop (splI (S.map leafI)), comL (parA (S.map leafI)).l y.l = frkI (S.map leafI) := fun y hy => by
    refine com_is hS.oA.1 (h.ok y (hmem2 y hy)).1 hf (fun i hi => ?_) (by rw [hS.bA, hS.hi y hy]; decide)
    rw [hag i (by omega)]
    exact (jB.agree (leafI y) (List.mem_map_of_mem hy) i (by omega)).symm
  have hcB : ∀ y ∈ S.take (splI (S.map leafI)), comL (parB (S.map leafI)).l y.l = frkI (S.map leafI) := fun y hy => by
    refine com_is hS.oB.1 (h.ok y (hmem1 y hy)).1 hf (fun i hi => ?_) (by rw [hS.bB, hS.lo y hy]; decide)
    rw [← hag i (by omega)]
    exact (jA.agree (leafI y) (List.mem_map_of_mem hy) i (by omega)).symm
  have hbl := trJ_blocks [(parA (S.map leafI), S.take (splI (S.map leafI))), (parB (S.map leafI), S.drop (splI (S.map leafI)))] (fresh.map leafI) (fun q hq => by
      rcases List.mem_cons.1 hq with rfl | hq
      · exact ⟨n1, jA⟩
      · rw [List.mem_singleton.1 hq]; exact ⟨n2, jB⟩)
    (List.pairwise_cons.2 ⟨fun q hq => by
      rw [List.mem_singleton.1 hq]
      exact ⟨c1, c2, fun y hy => by show ((comL (parA (S.map leafI)).l y.l : Nat) : Int) < (parA (S.map leafI)).n; rw [hcA y hy]; omega, fun y hy => by show ((comL (parB (S.map leafI)).l y.l : Nat) : Int) < (parB (S.map leafI)).n; rw [hcB y hy]; omega, hS.cmp⟩, List.pairwise_singleton _ _⟩)
    (fun q hq x hx => by
      obtain ⟨y, hy, rfl⟩ := List.mem_map.1 hx
      obtain ⟨p1, p2⟩ := hpart y hy
      refine ⟨leafI_ok y (hfo y hy), ?_⟩
      rcases List.mem_cons.1 hq with rfl | hq
      · show ((comL (parA (S.map leafI)).l y.l : Nat) : Int) < (parA (S.map leafI)).n; omega
      · rw [List.mem_singleton.1 hq]; show ((comL (parB (S.map leafI)).l y.l : Nat) : Int) < (parB (S.map leafI)).n; omega)
    (fun q hq y hy => by
      rcases List.mem_cons.1 hq with rfl | hq
      · exact h.ok y (hmem1 y hy)
      · rw [List.mem_singleton.1 hq] at hy; exact h.ok y (hmem2 y hy))
  have hfl : ([(parA (S.map leafI), S.take (splI (S.map leafI))), (parB (S.map leafI), S.drop (splI (S.map leafI)))] : List (Itm × List Lef)).flatMap (·.2) = S := by
    show S.take _ ++ (S.drop _ ++ []) = S
    rw [List.append_nil, List.take_append_drop]
  rw [hfl] at hbl
  rw [List.map_append]
  exact congrArg Itm.s hbl
theorem notIn_mem {ls : List (List UInt8)} {S : List Lef} (h : S.filter (fun x => ls.contains x.l) = []) : S.filter (notIn ls) = S := by
  refine List.filter_eq_self.2 (fun x hx => ?_)
  have := List.filter_eq_nil_iff.1 h x hx
  unfold notIn
  cases q : ls.contains x.l with
  | true => exact absurd q this
  | false => rfl
theorem mk_core {L : List Lef} {gone : List (List UInt8)} {fresh : List Lef} (hok : ∀ x ∈ L, x.ok) (hgo : ∀ x ∈ gone, x.length = 32) (hfo : ∀ x ∈ fresh, x.ok) (hl : L.length ≤ 400) (hfl : fresh.length ≤ 400) (hc : mkE L = 0)
    (h7 : gone.all (fun g => (cvT L (lbs gone fresh)).any (fun x => x.l == g)) = true) (h8 : (cvT L (lbs gone fresh)).all (fun x => gone.any (fun y => x.l == y)) = true)
    (hft : ∀ x ∈ fresh, 0 ≤ x.t ∧ x.t ≤ 1073741824) (hfd : fresh.Pairwise (fun a b => a.l ≠ b.l)) :
    Leads L gone fresh (mkSm L (cvI L (lbs gone fresh)) (cvT L (lbs gone fresh)) fresh) (mkOl L (cvI L (lbs gone fresh)) (cvT L (lbs gone fresh)) fresh) (srtL (mkNw L (cvI L (lbs gone fresh)) (cvT L (lbs gone fresh)) fresh)) := by
  have hS := rsn_srt hok hc
  have hsl := srtL_len L
  have hlbo : ∀ x ∈ lbs gone fresh, x.length = 32 := fun x hx => by
    rcases List.mem_append.1 hx with hx | hx
    · exact hgo x hx
    · obtain ⟨y, hy, rfl⟩ := List.mem_map.1 hx
      exact (hfo y hy).1
  have hcS : chkI ((srtL L).map leafI) = 0 := by rw [← itms_map]; exact hc
  have hE : cvE L = 0 := by unfold cvE; rw [itms_srt]; exact hc
  have eI : cvI L (lbs gone fresh) = (openF (srtL L).length (lbs gone fresh) (srtL L)).1 := by unfold cvI; rw [if_pos hE, hsl]
  have eT : cvT L (lbs gone fresh) = (openF (srtL L).length (lbs gone fresh) (srtL L)).2 := by unfold cvT; rw [if_pos hE, hsl]
  have hin : ∀ x ∈ fresh, x.l ∈ lbs gone fresh := fun x hx => List.mem_append.2 (.inr (List.mem_map_of_mem hx))
  obtain ⟨a1, a2, a3, a4, a5, a6⟩ := cover_top hlbo hcS hS.ok (fun x hx => ⟨hfo x hx, (hft x hx).1, (hft x hx).2, hin x hx⟩) hfd (by omega)
  have hSd := rise_ne hS.rise
  have hTm : ∀ x ∈ cvT L (lbs gone fresh), x ∈ srtL L ∧ x.l ∈ lbs gone fresh := fun x hx => by
    rw [eT, a4] at hx
    obtain ⟨q1, q2⟩ := List.mem_filter.1 hx
    exact ⟨q1, by simpa using q2⟩
  have hTd : (cvT L (lbs gone fresh)).Pairwise (fun a b => a.l ≠ b.l) := by rw [eT, a4]; exact hSd.sublist (List.filter_sublist ..)
  have hTl : (cvT L (lbs gone fresh)).length ≤ L.length := cvT_len L _
  obtain ⟨b1, b2, b3, _, _, _⟩ := cover_top (F := cvT L (lbs gone fresh)) hlbo hcS hS.ok (fun x hx => by
    obtain ⟨q1, q2⟩ := hTm x hx
    have ht := good_t (hS.good x q1)
    exact ⟨hS.ok x q1, ht.1, ht.2, q2⟩) hTd (by omega)
  -- what stays
  have hst : (srtL L).filter (notIn gone) = (srtL L).filter (notIn (lbs gone fresh)) := by
    refine List.filter_congr (fun x hx => ?_)
    have h1 : notIn gone x = true ↔ notIn (lbs gone fresh) x = true := by
      rw [notIn_iff, notIn_iff]
      refine ⟨fun h hm => ?_, fun h hm => h (List.mem_append.2 (.inl hm))⟩
      have hxT : x ∈ cvT L (lbs gone fresh) := by
        rw [eT, a4]
        exact List.mem_filter.2 ⟨hx, by simpa using hm⟩
      have := List.all_eq_true.1 h8 x hxT
      obtain ⟨y, hy, he⟩ := List.any_eq_true.1 this
      rw [beq_iff_eq.1 he] at h
      exact h hy
    cases q : notIn gone x with
    | true => rw [h1.1 q]
    | false =>
      cases q2 : notIn (lbs gone fresh) x with
      | true => rw [h1.2 q2] at q; cases q
      | false => rfl
  have hbp : (behL L gone fresh).Perm ((srtL L).filter (notIn (lbs gone fresh)) ++ fresh) := by
    unfold behL
    rw [← hst]
    exact List.Perm.append_right _ ((srtL_perm L).symm.filter _)
  have hbc : chkI (itmsL (behL L gone fresh)) = 0 := by rw [(top_perm hbp).1]; exact a2
  have hbt : topS (itmsL (behL L gone fresh)) = topS (srtI (((srtL L).filter (notIn (lbs gone fresh)) ++ fresh).map leafI)) := (top_perm hbp).2
  have hLp : ((srtL L).filter (notIn (lbs gone fresh)) ++ cvT L (lbs gone fresh)).Perm L := by
    rw [eT, a4]
    have hp := perm_filter (L := srtL L) (notIn (lbs gone fresh))
    have he : (srtL L).filter (fun x => !notIn (lbs gone fresh) x) = (srtL L).filter (fun x => (lbs gone fresh).contains x.l) := List.filter_congr (fun x _ => by unfold notIn; rw [Bool.not_not])
    rw [he] at hp
    exact hp.trans (srtL_perm L)
  have hLt : topS (srtI (((srtL L).filter (notIn (lbs gone fresh)) ++ cvT L (lbs gone fresh)).map leafI)) = topS (itmsL L) := (top_perm hLp).2
  have okI : ∀ x ∈ cvI L (lbs gone fresh), x.ok := cvI_ok _ hok
  have hIl := cvI_len L (lbs gone fresh)
  rw [← eI] at a1 a3 b1 b3
  by_cases hsp : spD (cvI L (lbs gone fresh)) (cvT L (lbs gone fresh)) fresh
  · unfold mkSm mkOl mkNw
    rw [if_pos hsp, if_pos hsp, if_pos hsp]
    obtain ⟨p1, p2, p3⟩ := hsp
    have hT0 : cvT L (lbs gone fresh) = [] := List.length_eq_zero_iff.1 p2
    have hg0 : gone = [] := by
      cases gone with
      | nil => rfl
      | cons g r =>
        have := List.all_eq_true.1 h7 g (List.mem_cons_self ..)
        rw [hT0] at this; cases this
    have hn0 : (srtL L).filter (notIn (lbs gone fresh)) = srtL L := notIn_mem (by rw [← a4, ← eT]; exact hT0)
    rw [hn0] at hbp hbt a2 a3
    by_cases hL1 : L.length = 1
    · rw [if_pos hL1, if_pos hL1, if_pos hL1]
      obtain ⟨y, rfl⟩ := List.length_eq_one_iff.1 hL1
      have hr := (chkI_rise hc).2.1
      have e1 : topU [] [y] = itmsL [y] := srt_id hr
      have hpp : (fresh ++ [y]).Perm (behL [y] gone fresh) := by
        refine List.perm_append_comm.trans ?_
        refine List.Perm.trans ?_ hbp.symm
        exact List.Perm.append_right _ (srtL_perm [y]).symm
      have hcn : chkI (itmsL (fresh ++ [y])) = 0 := by rw [(top_perm hpp).1]; exact hbc
      have e2 : topU [] (srtL (fresh ++ [y])) = itmsL (fresh ++ [y]) := by rw [topU_srt]; exact srt_id (chkI_rise hcn).2.1
      refine ⟨(fun x hx => by cases hx), Nat.zero_le _, fun x hx => hx, Nat.le_refl _, hbc, by rw [e1]; exact hc, by rw [e1], ?_, ?_, fun h => absurd h.1 (by decide), by rw [srtL_len, List.length_append]; exact Nat.le_refl _, fun x hx => ?_⟩
      · show chkI (topU [] (srtL (fresh ++ [y]))) = 0
        rw [e2]; exact hcn
      · show topS (topU [] (srtL (fresh ++ [y]))) = _
        rw [e2]; exact (top_perm hpp).2
      · have hx : x ∈ fresh ++ [y] := srtL_mem.1 hx
        rcases List.mem_append.1 hx with hx | hx
        · exact hfo x hx
        · exact hok x hx
    · rw [if_neg hL1, if_neg hL1, if_neg hL1]
      have h2 : 2 ≤ (srtL L).length := by omega
      have hSd2 := hS.sides h2
      have hh := hlf_eq hok hc (by omega) (by omega)
      have hone := openF_one (ls := lbs gone fresh) hS h2 (by rw [← eI]; exact p1) (by rw [← eT]; exact p2)
      have hno : ∀ x ∈ fresh, hasP (jnI (srtL L)).p x.l = false := fun x hx => by
        have := List.any_eq_false.1 hone x.l (hin x hx)
        cases q : hasP (jnI (srtL L)).p x.l with
        | true => exact absurd q this
        | false => rfl
      obtain ⟨t1, t2⟩ := halves_top hS h2 (by omega) hfo hft hfd hno a2
      obtain ⟨u1, u2, u3⟩ := two_top hSd2.oA hSd2.oB hSd2.chk hSd2.cmp
      obtain ⟨w1, w2⟩ := topU_chk [parA ((srtL L).map leafI), parB ((srtL L).map leafI)] fresh
      have e1 : topU [parA ((srtL L).map leafI), parB ((srtL L).map leafI)] [] = [parA ((srtL L).map leafI), parB ((srtL L).map leafI)] := srt_id u3
      have hTt : topS (itmsL L) = (jnI (srtL L)).s := by
        rw [top_srt hc, if_neg (fun he => by rw [he] at h2; simp at h2)]
      rw [hh, hT0]
      refine ⟨fun x hx => ?_, by show 2 ≤ 2 * L.length; omega, (fun x hx => by cases hx), Nat.zero_le _, hbc, by rw [e1]; exact u1, by rw [e1, u2, hTt, hSd2.jn], by rw [topU_srt]; exact w1.2 t1, by rw [topU_srt, w2 t1, t2, hbt], fun h => absurd h.1 (show ¬ 2 = 1 by decide), by rw [srtL_len]; omega, fun x hx => hfo x (srtL_mem.1 hx)⟩
      rcases List.mem_cons.1 hx with rfl | hx
      · exact hSd2.oA
      · rw [List.mem_singleton.1 hx]; exact hSd2.oB
  · unfold mkSm mkOl mkNw
    rw [if_neg hsp, if_neg hsp, if_neg hsp]
    obtain ⟨w1, w2⟩ := topU_chk (cvI L (lbs gone fresh)) fresh
    obtain ⟨v1, v2⟩ := topU_chk (cvI L (lbs gone fresh)) (cvT L (lbs gone fresh))
    refine ⟨okI, by omega, fun x hx => srtL_mem.1 (hTm x hx).1, hTl, hbc, v1.2 b1, by rw [v2 b1, b3, hLt], by rw [topU_srt]; exact w1.2 a1, by rw [topU_srt, w2 a1, a3, hbt], fun h => hsp ⟨h.1, h.2.1, by have := h.2.2; rw [srtL_len] at this; exact this⟩, by rw [srtL_len]; omega, fun x hx => hfo x (srtL_mem.1 hx)⟩
end Go.Proofs.YtcmgpkibjdbonaaGreat
set_option maxHeartbeats 4000000
namespace Go.Proofs.YtcmgpkibjdbonaaGreat
open Go Go.RowKit
theorem Leads.err {L : List Lef} {gone : List (List UInt8)} {fresh : List Lef} {Sm : List Itm} {Ol Nw : List Lef} (h : Leads L gone fresh Sm Ol Nw) (hl : L.length ≤ 400) (hf : fresh.length ≤ 400) (fr to : List UInt8) : stE fr to ⟨Sm, Ol, Nw⟩ = if topS (itmsL L) = fr ∧ topS (itmsL (behL L gone fresh)) = to then 0 else 11 := by
  have a := h.lenO
  have b := h.lenN
  unfold stE
  dsimp only
  rw [if_neg (by omega), if_neg h.form, h.old, if_neg (fun hh => hh rfl), h.new, if_neg (fun hh => hh rfl), h.oldT, h.newT]
theorem Leads.taken {L : List Lef} {gone : List (List UInt8)} {fresh : List Lef} {Sm : List Itm} {Ol Nw : List Lef} (h : Leads L gone fresh Sm Ol Nw) (hl : L.length ≤ 400) (hf : fresh.length ≤ 400) : stE (topS (itmsL L)) (topS (itmsL (behL L gone fresh))) ⟨Sm, Ol, Nw⟩ = 0 := by
  rw [h.err hl hf, if_pos ⟨rfl, rfl⟩]
theorem mkNw_mem {L : List Lef} {cI : List Itm} {cT fresh : List Lef} : ∃ r, mkNw L cI cT fresh = fresh ++ r := by
  unfold mkNw
  split
  · split
    · exact ⟨_, rfl⟩
    · exact ⟨[], (List.append_nil _).symm⟩
  · exact ⟨[], (List.append_nil _).symm⟩
theorem mk_leads {L : List Lef} {gone : List (List UInt8)} {fresh : List Lef} (hok : ∀ x ∈ L, x.ok) (hgo : ∀ x ∈ gone, x.length = 32) (hfo : ∀ x ∈ fresh, x.ok) (hl : L.length ≤ 400) (hfl : fresh.length ≤ 400) (h : (smk L gone fresh).2 = 0) :
    mkE L = 0 ∧ ∃ Sm Ol Nw, (smk L gone fresh).1 = ⟨Sm, Ol, Nw⟩ ∧ Leads L gone fresh Sm Ol Nw := by
  unfold smk at h ⊢
  by_cases hb : 500 < gone.length ∨ 500 < fresh.length
  · rw [if_pos hb] at h; cases h
  rw [if_neg hb] at h ⊢
  by_cases hc : cvE L ≠ 0
  · rw [if_pos hc] at h; exact absurd h hc
  rw [if_neg hc] at h ⊢
  have hcm : mkE L = 0 := by
    have := Decidable.not_not.1 hc
    unfold cvE at this; rw [itms_srt] at this; exact this
  refine ⟨hcm, ?_⟩
  unfold smkF at h ⊢
  by_cases h7 : gone.all (fun g => (cvT L (lbs gone fresh)).any (fun x => x.l == g)) = false
  · rw [if_pos h7] at h; cases h
  rw [if_neg h7] at h ⊢
  by_cases h8 : (cvT L (lbs gone fresh)).all (fun x => gone.any (fun y => x.l == y)) = false
  · rw [if_pos h8] at h; cases h
  rw [if_neg h8] at h ⊢
  unfold smkT at h ⊢
  by_cases ht : chkI (topU (mkSm L (cvI L (lbs gone fresh)) (cvT L (lbs gone fresh)) fresh) (srtL (mkNw L (cvI L (lbs gone fresh)) (cvT L (lbs gone fresh)) fresh))) ≠ 0
  · rw [if_pos ht] at h; exact absurd h ht
  rw [if_neg ht]
  have ht := Decidable.not_not.1 ht
  rw [topU_srt] at ht
  obtain ⟨f1, f2⟩ := fresh_ok ((topU_chk _ _).1.1 ht)
  obtain ⟨r, hr⟩ := mkNw_mem (L := L) (cI := cvI L (lbs gone fresh)) (cT := cvT L (lbs gone fresh)) (fresh := fresh)
  rw [hr] at f1 f2
  exact ⟨_, _, _, rfl, mk_core hok hgo hfo hl hfl hcm (by simpa using h7) (by simpa using h8) (fun x hx => f1 x (List.mem_append.2 (.inl hx))) (List.pairwise_append.1 f2).1⟩
theorem beh_nil (L fresh : List Lef) : behL L [] fresh = L ++ fresh := by
  unfold behL
  rw [List.filter_eq_self.2 (fun x _ => (rfl : notIn [] x = true))]
end Go.Proofs.YtcmgpkibjdbonaaGreat
set_option maxHeartbeats 16000000
set_option maxRecDepth 100000
namespace Go.Proofs.YtcmgpkibjdbonaaGreat
open Go Go.RowKit
def awB19 : Lef := ⟨labC 128, List.replicate 32 0, 4⟩
def awa19 : List Lef := [lef0]
def awb19 : List Lef := [awB19]
theorem aw19_e : (smk awa19 [] awb19).2 = 0 := by decide +kernel
theorem aw19_s : (smk awa19 [] awb19).1.same.length = 0 := by decide +kernel
theorem aw19_o : (smk awa19 [] awb19).1.old.length = 1 := by decide +kernel
theorem aw19_n : (smk awa19 [] awb19).1.new.length = 2 := by decide +kernel
theorem aw19_4 : insF (smk awa19 [] awb19).1 4 = true := by decide +kernel
theorem aw19_5 : insF (smk awa19 [] awb19).1 5 = false := by decide +kernel
theorem aw19_oka : ∀ x ∈ awa19, x.ok := fun x hx => by rw [List.mem_singleton.1 hx]; exact ⟨rfl, rfl⟩
theorem aw19_okb : ∀ x ∈ awb19, x.ok := fun x hx => by rw [List.mem_singleton.1 hx]; exact ⟨rfl, rfl⟩
theorem awake19_spec : Spec Tryz.prog 13 [] [] (fun v os => v = .b true ∧ os = []) := by
  have k1 := smake_spec awa19 [] awb19 (by decide) (Nat.zero_le _) (by decide) aw19_oka (fun x hx => by cases hx) aw19_okb
  have hl := mk_leads (gone := []) aw19_oka (fun x hx => by cases hx) aw19_okb (by decide) (by decide) aw19_e
  have hokM : ∀ x ∈ awa19 ++ awb19, x.ok := fun x hx => by
    rcases List.mem_append.1 hx with hx | hx
    · exact aw19_oka x hx
    · exact aw19_okb x hx
  have k2 := of_spec awa19 (by decide) aw19_oka
  have k3 := top_spec (itmsL awa19) (by rw [itmsL_len]; decide) (itmsL_ok aw19_oka)
  have k4 := of_spec (awa19 ++ awb19) (by decide) hokM
  have k5 := top_spec (itmsL (awa19 ++ awb19)) (by rw [itmsL_len]; decide) (itmsL_ok hokM)
  obtain ⟨l1, Sm, Ol, Nw, l2, l3⟩ := hl
  have hb := l3.beh
  have ht := l3.taken (by decide) (by decide)
  rw [beh_nil] at hb ht
  rw [hb] at k5
  rw [show chkI (itmsL awa19) = 0 from l1] at k3
  have hs := aw19_s
  have ho := aw19_o
  have hn := aw19_n
  have h4 := aw19_4
  have h5 := aw19_5
  rw [aw19_e] at k1
  rw [l2] at k1 hs ho hn h4 h5
  dsimp only at hs ho hn
  have oks : (⟨Sm, Ol, Nw⟩ : Stp).ok := ⟨l3.okS, fun x hx => aw19_oka x (l3.inO x hx), l3.okN⟩
  have k6 := scheck_spec (topS (itmsL awa19)) (topS (itmsL (awa19 ++ awb19))) ⟨Sm, Ol, Nw⟩ (by show Sm.length ≤ 50000; omega) (by show Ol.length ≤ 50000; omega) (by show Nw.length ≤ 50000; omega) oks (topS_len _ (itmsL_ok aw19_oka)) (topS_len _ (itmsL_ok hokM))
  rw [ht] at k6
  have k7 := sins_spec ⟨Sm, Ol, Nw⟩ 4 (by show Ol.length ≤ 100000; omega) (by show Nw.length ≤ 100000; omega)
  have k8 := sins_spec ⟨Sm, Ol, Nw⟩ 5 (by show Ol.length ≤ 100000; omega) (by show Nw.length ≤ 100000; omega)
  rw [h4] at k7
  rw [h5] at k8
  have hA : (⟨Sm, Ol, Nw⟩ : Stp).A = .agg [.sl 66 (Sm.map Itm.A), .sl 65 (Ol.map Lef.A), .sl 65 (Nw.map Lef.A)] := rfl
  rw [hA] at k1 k6 k7 k8
  clear l1 l2 l3 hb ht h4 h5 oks hA hokM
  generalize topS (itmsL awa19) = t1 at *
  generalize topS (itmsL (awa19 ++ awb19)) = t2 at *
  generalize itmsL awa19 = I1 at *
  generalize itmsL (awa19 ++ awb19) = I2 at *
  have m1 : awa19.map Lef.A = [.agg [labA (List.replicate 32 0), labA (List.replicate 32 0), .i .i64 0]] := rfl
  have m2 : awb19.map Lef.A = [.agg [labA (labC 128), labA (List.replicate 32 0), .i .i64 4]] := rfl
  have m3 : (awa19 ++ awb19).map Lef.A = [.agg [labA (List.replicate 32 0), labA (List.replicate 32 0), .i .i64 0], .agg [labA (labC 128), labA (List.replicate 32 0), .i .i64 4]] := rfl
  rw [m1, m2] at k1
  rw [m1] at k2
  rw [m3] at k4
  refine spec_of TtOk [] Tryz.func13 rfl Tryz.ntmps13 (by kernel_rfl) rfl rfl (fun C => ?_) rfl
  repeat' (first | (refine o_freezeR 30 30 rfl rfl rfl ?_) | (refine o_freezeR 22 22 rfl rfl rfl ?_) | (refine o_freezeR 16 16 rfl rfl rfl ?_) | (refine o_freezeR 14 14 rfl rfl rfl ?_) | refine Awp.seq ?_ | refine Awp.region ?_ | refine Ops.nil (nqA ?_) | refine Awp.ret (nqE ?_) | refine o_len rfl TtOk rfl rfl rfl (fun _ => ?_) | (refine o_calm rfl TtOk rfl rfl rfl ?_ (fun _ => ?_); exact nd) | refine o_alloc (d := 1) rfl TtOk rfl rfl rfl (fun b1 => ?_) | refine o_alloc (d := 2) rfl TtOk rfl rfl rfl (fun b2 => ?_) | refine o_alloc (d := 3) rfl TtOk rfl rfl rfl (fun b3 => ?_) | refine o_alloc (d := 5) rfl TtOk rfl rfl rfl (fun b5 => ?_) | refine o_alloc (d := 7) rfl TtOk rfl rfl rfl (fun b7 => ?_) | refine o_store TtOk rfl rfl rfl rfl rfl rfl rfl ⟨rfl, rfl⟩ rfl rfl rfl rfl rfl ?_ | refine o_build TtOk rfl rfl rfl rfl rfl rfl nq1 ?_ | refine o_buildSlice TtOk rfl rfl rfl rfl rfl rfl rfl rfl rfl rfl rfl nq1 (fun _ => ?_) | (fail_if_success (refine o_isLit rfl (by first | exact .inl rfl | exact .inr rfl) ?_)); (refine o_splitP rfl rfl (fun hc => ?_) (fun hc => ?_) <;> try (exfalso; omega)) | (refine o_buildArr TtOk rfl ((labC 128).map byA) rfl rfl rfl (by kernel_rfl) rfl rfl ?_) | refine o_callE rfl k1 ⟨nqS, sle_nilsl, nqS, True.intro⟩ rfl ?_ | refine o_callE rfl (k2) ⟨nqS, True.intro⟩ rfl ?_ | refine o_callE rfl (k3) ⟨nqS, True.intro⟩ rfl ?_ | refine o_callE rfl (k4) ⟨nqS, True.intro⟩ rfl ?_ | refine o_callE rfl (k5) ⟨nqS, True.intro⟩ rfl ?_ | refine o_callE rfl (k6) ⟨nqS, nqS, nqS, True.intro⟩ rfl ?_ | refine o_callE rfl (k7) ⟨nqS, nqS, True.intro⟩ rfl ?_ | refine o_callE rfl (k8) ⟨nqS, nqS, True.intro⟩ rfl ?_)
  all_goals exact nq2
end Go.Proofs.YtcmgpkibjdbonaaGreat
set_option maxHeartbeats 16000000
set_option maxRecDepth 100000
namespace Go.Proofs.YtcmgpkibjdbonaaGreat
open Go Go.RowKit
end Go.Proofs.YtcmgpkibjdbonaaGreat
set_option maxHeartbeats 4000000
namespace Go.Proofs.YtcmgpkibjdbonaaGreat
open Go Go.RowKit
/-- Items that make up the tree of leaves, from left to right. -/
inductive Cov : List Itm → List Lef → Prop
  | one {l : List Lef} (h : Rsn l) (hn : l ≠ []) : Cov [jnI l] l
  | two {S T : List Itm} {l : List Lef} (h : Rsn l) (h2 : 2 ≤ l.length) (hS : Cov S (l.take (splI (l.map leafI)))) (hT : Cov T (l.drop (splI (l.map leafI)))) : Cov (S ++ T) l
theorem Cov.rsn {T : List Itm} {l : List Lef} (h : Cov T l) : Rsn l ∧ l ≠ [] := by
  cases h with
  | one h hn => exact ⟨h, hn⟩
  | two h h2 _ _ => exact ⟨h, fun e => by rw [e] at h2; simp at h2⟩
theorem Cov.ne {T : List Itm} {l : List Lef} (h : Cov T l) : T ≠ [] := by
  induction h with
  | one _ _ => exact fun e => by cases e
  | two _ _ _ _ i1 _ => exact fun e => i1 (List.append_eq_nil_iff.1 e).1
theorem Cov.mem {T : List Itm} {l : List Lef} (h : Cov T l) : ∀ p ∈ T, ∃ G, G ≠ [] ∧ Rsn G ∧ (∀ x ∈ G, x ∈ l) ∧ p = jnI G := by
  induction h with
  | @one l h hn => exact fun p hp => ⟨l, hn, h, fun x hx => hx, List.mem_singleton.1 hp⟩
  | two _ _ _ _ i1 i2 =>
    intro p hp
    rcases List.mem_append.1 hp with hp | hp
    · obtain ⟨G, a, b, c, d⟩ := i1 p hp
      exact ⟨G, a, b, fun x hx => List.mem_of_mem_take (c x hx), d⟩
    · obtain ⟨G, a, b, c, d⟩ := i2 p hp
      exact ⟨G, a, b, fun x hx => List.mem_of_mem_drop (c x hx), d⟩
theorem Cov.bits {T : List Itm} {l : List Lef} (h : Cov T l) {n : Nat} (hn : n < 256) (hb : ∀ x ∈ l, ∀ y ∈ l, ∀ i, i ≤ n → bitL x.l i = bitL y.l i) : ∀ p ∈ T, ∀ x ∈ l, ∀ i, i ≤ n → bitL p.l i = bitL x.l i := by
  intro p hp x hx i hi
  obtain ⟨G, hne, hG, hs, rfl⟩ := h.mem p hp
  obtain ⟨y, hy⟩ := List.exists_mem_of_ne_nil G hne
  have := (hG.deep (List.length_pos_iff.2 hne) (n := i) (by omega) (fun x hx y hy j hj => hb x (hs x hx) y (hs y hy) j (by omega))).2 y hy
  rw [this]
  exact hb y (hs y hy) x hx i hi
theorem Cov.okI {T : List Itm} {l : List Lef} (h : Cov T l) : ∀ p ∈ T, p.ok := by
  intro p hp
  obtain ⟨G, hne, hG, hs, rfl⟩ := h.mem p hp
  exact (hG.join (List.length_pos_iff.2 hne)).1.ok
theorem Rsn.bits {l : List Lef} (h : Rsn l) : ∀ x ∈ l, ∀ y ∈ l, ∀ i, i < frkI (l.map leafI) → bitL x.l i = bitL y.l i := fun x hx y hy i hi => by
  obtain ⟨j, hj, rfl⟩ := List.getElem_of_mem hx
  obtain ⟨k, hk, rfl⟩ := List.getElem_of_mem hy
  have hml : (l.map leafI).length = l.length := List.length_map ..
  have a := rise_bits h.rise h.okI (by omega) j (by omega) i hi
  have b := rise_bits h.rise h.okI (by omega) k (by omega) i hi
  rw [List.getElem_map] at a b
  exact a.trans b.symm
/-- Of the two sides. -/
theorem cov_sides {S T : List Itm} {l : List Lef} (h : Rsn l) (h2 : 2 ≤ l.length) (hS : Cov S (l.take (splI (l.map leafI)))) (hT : Cov T (l.drop (splI (l.map leafI)))) :
    (∀ p ∈ S, bitL p.l (frkI (l.map leafI)) = 0) ∧ (∀ q ∈ T, bitL q.l (frkI (l.map leafI)) = 1) ∧ (∀ p ∈ S, ∀ q ∈ T, comL p.l q.l = frkI (l.map leafI) ∧ cmpS p.l q.l < 0) := by
  have hSd := h.sides h2
  have hf := hSd.f256
  have tm : ∀ x ∈ l.take (splI (l.map leafI)), x ∈ l := fun x hx => List.mem_of_mem_take hx
  have dm : ∀ x ∈ l.drop (splI (l.map leafI)), x ∈ l := fun x hx => List.mem_of_mem_drop hx
  have bS := hS.bits hf (fun x hx y hy i hi => by
    rcases Nat.lt_or_eq_of_le hi with hi | rfl
    · exact h.bits x (tm x hx) y (tm y hy) i hi
    · rw [hSd.lo x hx, hSd.lo y hy])
  have bT := hT.bits hf (fun x hx y hy i hi => by
    rcases Nat.lt_or_eq_of_le hi with hi | rfl
    · exact h.bits x (dm x hx) y (dm y hy) i hi
    · rw [hSd.hi x hx, hSd.hi y hy])
  obtain ⟨x, hx⟩ := List.exists_mem_of_ne_nil _ hS.rsn.2
  obtain ⟨y, hy⟩ := List.exists_mem_of_ne_nil _ hT.rsn.2
  have z0 : ∀ p ∈ S, bitL p.l (frkI (l.map leafI)) = 0 := fun p hp => by rw [bS p hp x hx _ (Nat.le_refl _), hSd.lo x hx]
  have z1 : ∀ q ∈ T, bitL q.l (frkI (l.map leafI)) = 1 := fun q hq => by rw [bT q hq y hy _ (Nat.le_refl _), hSd.hi y hy]
  refine ⟨z0, z1, fun p hp q hq => ?_⟩
  have op := (hS.okI p hp).1
  have oq := (hT.okI q hq).1
  have hcm := com_is op oq hf (fun i hi => by rw [bS p hp x hx i (by omega), bT q hq y hy i (by omega)]; exact h.bits x (tm x hx) y (dm y hy) i hi) (by rw [z0 p hp, z1 q hq]; decide)
  exact ⟨hcm, lt_cmp op oq (by rw [hcm]; exact hf) (by rw [hcm]; exact z0 p hp)⟩
theorem Cov.rise {T : List Itm} {l : List Lef} (h : Cov T l) : RiseI T := by
  induction h with
  | one _ _ => exact List.pairwise_singleton ..
  | two h h2 hS hT i1 i2 => exact List.pairwise_append.2 ⟨i1, i2, fun p hp q hq => ((cov_sides h h2 hS hT).2.2 p hp q hq).2⟩
theorem cov_split {S T : List Itm} {l : List Lef} (h : Rsn l) (h2 : 2 ≤ l.length) (hS : Cov S (l.take (splI (l.map leafI)))) (hT : Cov T (l.drop (splI (l.map leafI)))) : splI (S ++ T) = S.length := by
  obtain ⟨z0, z1, z2⟩ := cov_sides h h2 hS hT
  have pS := List.length_pos_iff.2 hS.ne
  have pT := List.length_pos_iff.2 hT.ne
  have hl : (S ++ T).length = S.length + T.length := List.length_append
  have hf : frkI (S ++ T) = frkI (l.map leafI) := by
    rw [frk_eq (by omega)]
    refine (z2 _ ?_ _ ?_).1
    · rw [List.getElem_append_left pS]; exact List.getElem_mem _
    · rw [List.getElem_append_right (by omega)]; exact List.getElem_mem _
  unfold splI
  rw [hf, List.findIdx_eq (by omega)]
  refine ⟨?_, fun j hj => ?_⟩
  · rw [List.getElem_append_right (Nat.le_refl _), z1 _ (List.getElem_mem _)]; rfl
  · rw [List.getElem_append_left hj, z0 _ (List.getElem_mem _)]; rfl
theorem cov_par {S T : List Itm} {l : List Lef} (h : Rsn l) (h2 : 2 ≤ l.length) (hS : Cov S (l.take (splI (l.map leafI)))) (hT : Cov T (l.drop (splI (l.map leafI)))) (jS : joinF S.length S = jnI (l.take (splI (l.map leafI)))) (jT : joinF T.length T = jnI (l.drop (splI (l.map leafI)))) :
    parA (S ++ T) = parA (l.map leafI) ∧ parB (S ++ T) = parB (l.map leafI) := by
  have hs := cov_split h h2 hS hT
  have hSd := h.sides h2
  have pS := List.length_pos_iff.2 hS.ne
  have pT := List.length_pos_iff.2 hT.ne
  have hl : (S ++ T).length = S.length + T.length := List.length_append
  constructor
  · unfold parA
    rw [hs, List.take_left, ← show parA (l.map leafI) = joinF ((l.map leafI).length - 1) ((l.map leafI).take (splI (l.map leafI))) from rfl, hSd.jA, ← jS]
    exact joinF_fuel _ _ _ hS.ne (by omega) (Nat.le_refl _) hS.rise hS.okI
  · unfold parB
    rw [hs, List.drop_left, ← show parB (l.map leafI) = joinF ((l.map leafI).length - 1) ((l.map leafI).drop (splI (l.map leafI))) from rfl, hSd.jB, ← jT]
    exact joinF_fuel _ _ _ hT.ne (by omega) (Nat.le_refl _) hT.rise hT.okI
theorem Cov.join {T : List Itm} {l : List Lef} (h : Cov T l) : joinF T.length T = jnI l := by
  induction h with
  | one _ _ => rfl
  | @two S T l h h2 hS hT i1 i2 =>
    obtain ⟨a, b⟩ := cov_par h h2 hS hT i1 i2
    have pS := List.length_pos_iff.2 hS.ne
    have pT := List.length_pos_iff.2 hT.ne
    have hl : (S ++ T).length = S.length + T.length := List.length_append
    rw [join_par (by omega), a, b, (h.sides h2).jn]
end Go.Proofs.YtcmgpkibjdbonaaGreat
set_option maxHeartbeats 4000000
namespace Go.Proofs.YtcmgpkibjdbonaaGreat
open Go Go.RowKit
end Go.Proofs.YtcmgpkibjdbonaaGreat
set_option maxHeartbeats 16000000
set_option maxRecDepth 100000
namespace Go.Proofs.YtcmgpkibjdbonaaGreat
open Go Go.RowKit
theorem few19_spec (l : List (List UInt8)) (hl : l.length ≤ 9223372036854775807) :
    Spec Tryz.prog 9 [.sl 32 (l.map labA)] [] (fun r os => r = .sl 32 ((l.take 40).map labA) ∧ os = []) := by
  refine spec_of TtOk [] Tryz.func9 rfl Tryz.ntmps9 (by kernel_rfl) rfl rfl (fun C => ?_) rfl
  by_cases h : 40 < l.length
  · have hln : (l.take 40).length = 40 := by rw [List.length_take]; omega
    repeat' (first | refine Awp.seq ?_ | refine Awp.region ?_ | refine Ops.nil (nqA ?_) | refine Awp.ret (nqE ?_) | refine o_len rfl TtOk rfl rfl rfl (fun _ => ?_) | (refine o_calm rfl TtOk rfl rfl rfl ?_ (fun _ => ?_); exact nd) | refine o_buildSlice TtOk rfl rfl rfl rfl rfl rfl rfl rfl rfl rfl rfl nq1 (fun _ => ?_) | (refine o_append TtOk rfl rfl rfl rfl rfl rfl rfl rfl rfl (by first | exact True.intro | exact rfl) rfl rfl (fun _ => rfl) ?_ ?_ (fun _ => ?_); ((repeat' (first | rw [List.length_append] | rw [List.length_map] | rw [List.length_cons] | rw [List.length_nil] | rw [List.length_take] | rw [List.length_drop])) <;> omega); ((repeat' (first | rw [List.length_append] | rw [List.length_map] | rw [List.length_cons] | rw [List.length_nil] | rw [List.length_take] | rw [List.length_drop])) <;> omega)) | (refine a_condP rfl (fun hc => ?_) (fun hc => ?_)) <;> (try (exfalso; omega)) | (refine o_sliceSl TtOk rfl 0 40 rfl rfl rfl rfl rfl bnd_none (bnd_some rfl rfl) (by omega) (by omega) ?_))
    refine end_tmp rfl rfl rfl [8] [] (CLe.fz ?_) .nil ⟨rfl, rfl⟩ _ (.inl rfl)
    exact .head _
  · rw [List.take_of_length_le (by omega)]
    repeat' (first | refine Awp.seq ?_ | refine Awp.region ?_ | refine Ops.nil (nqA ?_) | refine Awp.skip (nqA ?_) | refine Awp.ret (nqE ?_) | refine o_len rfl TtOk rfl rfl rfl (fun _ => ?_) | (refine o_calm rfl TtOk rfl rfl rfl ?_ (fun _ => ?_); exact nd) | refine o_buildSlice TtOk rfl rfl rfl rfl rfl rfl rfl rfl rfl rfl rfl nq1 (fun _ => ?_) | (refine o_append TtOk rfl rfl rfl rfl rfl rfl rfl rfl rfl (by first | exact True.intro | exact rfl) rfl rfl (fun _ => rfl) ?_ ?_ (fun _ => ?_); ((repeat' (first | rw [List.length_append] | rw [List.length_map] | rw [List.length_cons] | rw [List.length_nil] | rw [List.length_take] | rw [List.length_drop])) <;> omega); ((repeat' (first | rw [List.length_append] | rw [List.length_map] | rw [List.length_cons] | rw [List.length_nil] | rw [List.length_take] | rw [List.length_drop])) <;> omega)) | (refine a_condP rfl (fun hc => ?_) (fun hc => ?_)) <;> (try (exfalso; omega)))
    refine end_tmp rfl rfl rfl [8] [] (CLe.fz ?_) .nil ⟨rfl, rfl⟩ _ (.inl rfl)
    exact .head _
end Go.Proofs.YtcmgpkibjdbonaaGreat
set_option maxHeartbeats 4000000
namespace Go.Proofs.YtcmgpkibjdbonaaGreat
open Go Go.RowKit
def sumT (T : List Itm) : List UInt8 := if T = [] then shaN [18] else (joinF T.length T).s
def sumR (R : List Lef) : List UInt8 := if R = [] then shaN [18] else (jnI R).s
/-- Parts that are a tree's own ones, as far as they are told. -/
inductive Mir (O : List Lef) : List Itm → List Lef → Prop
  | nil : Mir O [] []
  | un (p : Itm) (R : List Lef) (h : unT [p] O = true) : Mir O [p] R
  | one (x : Lef) (h : hasLf O x.l = true) (h2 : fndL O x.l = x) : Mir O [leafI x] [x]
  | two {T : List Itm} {R : List Lef} (hT : 2 ≤ T.length) (hR : 2 ≤ R.length) (hA : parA T = parA (R.map leafI)) (hB : parB T = parB (R.map leafI)) (h1 : Mir O (T.take (splI T)) (R.take (splI (R.map leafI)))) (h2 : Mir O (T.drop (splI T)) (R.drop (splI (R.map leafI)))) : Mir O T R
/-- Unlike bytes of one sum. -/
def Clh (q : List UInt8 × List UInt8 × Bool) : Prop := q.2.2 = true ∧ q.1 ≠ q.2.1 ∧ shaN q.1 = shaN q.2.1
structure Tgd (T : List Itm) (O : List Lef) : Prop where
  rise : RiseI T
  ok : ∀ x ∈ T, x.ok
  good : ∀ x ∈ T, goodI x = true
  own : ∀ p ∈ T, hasLf O p.l = true → p = leafI (fndL O p.l)
theorem Tgd.take {T : List Itm} {O : List Lef} (h : Tgd T O) (i : Nat) : Tgd (T.take i) O := ⟨h.rise.sublist (List.take_sublist ..), fun x hx => h.ok x (List.mem_of_mem_take hx), fun x hx => h.good x (List.mem_of_mem_take hx), fun x hx => h.own x (List.mem_of_mem_take hx)⟩
theorem Tgd.drop {T : List Itm} {O : List Lef} (h : Tgd T O) (i : Nat) : Tgd (T.drop i) O := ⟨h.rise.sublist (List.drop_sublist ..), fun x hx => h.ok x (List.mem_of_mem_drop hx), fun x hx => h.good x (List.mem_of_mem_drop hx), fun x hx => h.own x (List.mem_of_mem_drop hx)⟩
theorem Tgd.jn {T : List Itm} {O : List Lef} (h : Tgd T O) (hn : T ≠ []) : goodI (joinF T.length T) = true := by
  have h0 := List.length_pos_iff.2 hn
  have hg := (join_B h0 h.rise h.ok (fun x hx => good_n (h.good x hx))).good h.good
  have ht := joinF_t T.length T hn (Nat.le_refl _) h.rise h.ok (fun x hx => good_t (h.good x hx))
  unfold goodI
  rw [show (⟨(joinF T.length T).n, (joinF T.length T).l⟩ : Pfx) = (joinF T.length T).p from rfl, hg, decide_eq_true ht.1, decide_eq_true ht.2]; rfl
theorem Mir.leaf {O : List Lef} {T : List Itm} {R : List Lef} (h : Mir O T R) : ∀ p ∈ T, hasLf O p.l = true → ¬ p.n < 256 → fndL O p.l ∈ R := by
  induction h with
  | nil => intro p hp; cases hp
  | un q R hu =>
    intro p hp h1 h2
    rw [List.mem_singleton.1 hp] at h1 h2
    have hu : (!(hasLf O q.l) || decide (q.n < 256)) = true := hu
    rw [h1, decide_eq_false h2] at hu; cases hu
  | one x _ h2 =>
    intro p hp _ _
    rw [List.mem_singleton.1 hp]
    show fndL O x.l ∈ [x]
    rw [h2]; exact List.mem_cons_self ..
  | @two T R hT hR2 hA hB h1 h2 i1 i2 =>
    intro p hp k1 k2
    rw [← List.take_append_drop (splI T) T] at hp
    rcases List.mem_append.1 hp with hp | hp
    · exact List.mem_of_mem_take (i1 p hp k1 k2)
    · exact List.mem_of_mem_drop (i2 p hp k1 k2)
end Go.Proofs.YtcmgpkibjdbonaaGreat
set_option maxHeartbeats 4000000
namespace Go.Proofs.YtcmgpkibjdbonaaGreat
open Go Go.RowKit
structure BlkC (l : List Lef) (q : Itm × List Lef) : Prop where
  ne : q.2 ≠ []
  rsn : Rsn q.2
  eq : q.1 = jnI q.2
  sub : ∀ y ∈ q.2, y ∈ l
theorem BlkC.join {l : List Lef} {q : Itm × List Lef} (h : BlkC l q) : JoinB q.1 (q.2.map leafI) := by
  rw [h.eq]; exact (h.rsn.join (List.length_pos_iff.2 h.ne)).1
theorem BlkC.up {l l' : List Lef} {q : Itm × List Lef} (h : BlkC l q) (hs : ∀ x ∈ l, x ∈ l') : BlkC l' q := ⟨h.ne, h.rsn, h.eq, fun y hy => hs y (h.sub y hy)⟩
theorem BlkC.deep {l : List Lef} {q : Itm × List Lef} (h : BlkC l q) {n : Nat} (hn : n < 256) (hb : ∀ x ∈ l, ∀ y ∈ l, ∀ i, i ≤ n → bitL x.l i = bitL y.l i) : ((n : Nat) : Int) < q.1.n := by
  rw [h.eq]
  exact (h.rsn.deep (List.length_pos_iff.2 h.ne) hn (fun x hx y hy i hi => hb x (h.sub x hx) y (h.sub y hy) i hi)).1
end Go.Proofs.YtcmgpkibjdbonaaGreat
