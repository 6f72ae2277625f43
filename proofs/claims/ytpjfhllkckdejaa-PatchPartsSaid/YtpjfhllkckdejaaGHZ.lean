/- The tree of the parts that Cover tells and of leaves at its labels is the tree of the other leaves and of these. No program in sight. -/
import Derived.Test.YtpjfhllkckdejaaR10Z
import Derived.Test.YtpjfhllkckdejaaR9Z
set_option maxHeartbeats 4000000
namespace Go.Proofs.Ytpjfhllkckdejaa
open Go Go.RowKit
theorem leaf_good {x : Lef} (hok : x.ok) (h0 : 0 ≤ x.t) (h1 : x.t ≤ 1073741824) : goodI (leafI x) = true := by
  unfold goodI
  have hg : goodP ⟨(leafI x).n, (leafI x).l⟩ = true := by
    show goodP ⟨256, x.l⟩ = true
    unfold goodP
    show (decide ((0 : Int) ≤ 256) && (decide ((256 : Int) ≤ 256) && (cutL x.l 256 == x.l))) = true
    rw [cut256 x.l hok.1, beq_self_eq_true]; rfl
  rw [hg]
  show (true && (decide (0 ≤ x.t) && decide (x.t ≤ 1073741824))) = true
  rw [decide_eq_true h0, decide_eq_true h1]; rfl
theorem good_t {x : Itm} (h : goodI x = true) : 0 ≤ x.t ∧ x.t ≤ 1073741824 := by
  unfold goodI at h
  simp only [Bool.and_eq_true, decide_eq_true_eq] at h
  exact h.2
theorem leaf_anti {x y : Lef} (hx : x.ok) (hy : y.ok) (h : x.l ≠ y.l) : Anti (leafI x) (leafI y) := by
  have h1 : comL x.l y.l < 256 := by
    rcases Nat.lt_or_ge (comL x.l y.l) 256 with h2 | h2
    · exact h2
    · exact absurd ((com_bits x.l y.l (by rw [hx.1, hy.1])).2.2.2 (by have := comL_256 (b := y.l) hx.1; rw [hx.1]; omega)) h
  exact ⟨by show ((comL x.l y.l : Nat) : Int) < 256; omega, by show ((comL x.l y.l : Nat) : Int) < 256; omega⟩
theorem joinF_t : ∀ (k : Nat) (l : List Itm), l ≠ [] → l.length ≤ k → RiseI l → (∀ x ∈ l, x.ok) → (∀ x ∈ l, 0 ≤ x.t ∧ x.t ≤ 1073741824) → 0 ≤ (joinF k l).t ∧ (joinF k l).t ≤ 1073741824
  | 0, l, hn, hl, _, _, _ => absurd (List.length_eq_zero_iff.1 (by omega)) hn
  | k + 1, l, hn, hl, hr, hok, ht => by
    have hp : 0 < l.length := List.length_pos_iff.2 hn
    unfold joinF
    by_cases h1 : l.length = 1
    · rw [if_pos h1, headD_get hp]; exact ht _ (List.getElem_mem _)
    rw [if_neg h1]
    obtain ⟨_, s1, s2, _⟩ := spl_ok hr hok (by omega)
    have a := joinF_t k _ (take_ne s1 s2) (by rw [List.length_take]; omega) (hr.sublist (List.take_sublist ..)) (fun x hx => hok x (List.mem_of_mem_take hx)) (fun x hx => ht x (List.mem_of_mem_take hx))
    have b := joinF_t k _ (drop_ne s2) (by rw [List.length_drop]; omega) (hr.sublist (List.drop_sublist ..)) (fun x hx => hok x (List.mem_of_mem_drop hx)) (fun x hx => ht x (List.mem_of_mem_drop hx))
    generalize joinF k (l.take (splI l)) = u at a ⊢
    generalize joinF k (l.drop (splI l)) = v at b ⊢
    have e : (innI u v).t = if v.t > u.t then v.t else u.t := rfl
    rw [e]
    split
    · exact b
    · exact a
theorem rise_ne {l : List Lef} (hr : RiseI (l.map leafI)) : l.Pairwise (fun a b => a.l ≠ b.l) := by
  have h : (l.map leafI).Pairwise (fun a b => cmpS a.l b.l < 0) := hr
  rw [List.pairwise_map] at h
  exact h.imp (fun {a b} hab he => by
    have hab : cmpS a.l b.l < 0 := hab
    rw [he, cmpS_eq] at hab; omega)
def notIn (ls : List (List UInt8)) (x : Lef) : Bool := !(ls.contains x.l)
theorem cover_top {S F : List Lef} {ls : List (List UInt8)} (hls : ∀ x ∈ ls, x.length = 32) (hc : chkI (S.map leafI) = 0) (hok : ∀ x ∈ S, x.ok) (hF : ∀ x ∈ F, x.ok ∧ 0 ≤ x.t ∧ x.t ≤ 1073741824 ∧ x.l ∈ ls) (hFd : F.Pairwise (fun a b => a.l ≠ b.l)) (hlen : S.length + F.length ≤ 2000) :
    chkI (srtI ((openF S.length ls S).1 ++ F.map leafI)) = 0 ∧ chkI (srtI ((S.filter (notIn ls) ++ F).map leafI)) = 0 ∧ topS (srtI ((openF S.length ls S).1 ++ F.map leafI)) = topS (srtI ((S.filter (notIn ls) ++ F).map leafI)) ∧ (openF S.length ls S).2 = S.filter (fun x => ls.contains x.l) ∧ (∀ x ∈ (openF S.length ls S).1, x.ok) ∧ RiseI (openF S.length ls S).1 := by
  obtain ⟨-, hr, hg⟩ := chkI_rise hc
  have hg1 : ∀ x ∈ S, goodI (leafI x) = true := fun x hx => hg _ (List.mem_map_of_mem hx)
  obtain ⟨c1, c2, c3, c4⟩ := cov_all ls hls S.length S (Nat.le_refl _) hr hok hg1
  have hlP := (openF_len S.length ls S).1
  rw [← openB_fst] at hlP ⊢
  generalize openB S.length ls S = r at c1 c2 c3 hlP ⊢
  have hJ : ∀ q ∈ r, q.2 ≠ [] ∧ JoinB q.1 (q.2.map leafI) := fun q hq => ⟨(c1 q hq).ne, blk_join (c1 q hq) hok⟩
  have c3 : r.flatMap (·.2) = S.filter (notIn ls) := c3
  have hU : ∀ x ∈ S.filter (notIn ls), x ∈ S ∧ x.l ∉ ls := fun x hx => ⟨(List.mem_filter.1 hx).1, fun hm => by
    have h2 := (List.mem_filter.1 hx).2
    unfold notIn at h2
    rw [List.contains_iff_mem.2 hm] at h2; cases h2⟩
  have okP : ∀ x ∈ r.map (·.1), x.ok := fun x hx => by
    obtain ⟨q, hq, rfl⟩ := List.mem_map.1 hx
    exact (hJ q hq).2.ok
  have okF : ∀ x ∈ F.map leafI, x.ok := fun x hx => by
    obtain ⟨y, hy, rfl⟩ := List.mem_map.1 hx
    exact leafI_ok y (hF y hy).1
  have ok1 : ∀ x ∈ r.map (·.1) ++ F.map leafI, x.ok := fun x hx => by
    rcases List.mem_append.1 hx with h | h
    · exact okP x h
    · exact okF x h
  have ok2 : ∀ x ∈ (S.filter (notIn ls) ++ F).map leafI, x.ok := fun x hx => by
    obtain ⟨y, hy, rfl⟩ := List.mem_map.1 hx
    rcases List.mem_append.1 hy with h | h
    · exact leafI_ok y (hok y (hU y h).1)
    · exact leafI_ok y (hF y h).1
  have gF : ∀ x ∈ F.map leafI, goodI x = true := fun x hx => by
    obtain ⟨y, hy, rfl⟩ := List.mem_map.1 hx
    exact leaf_good (hF y hy).1 (hF y hy).2.1 (hF y hy).2.2.1
  have gP : ∀ x ∈ r.map (·.1), goodI x = true := fun x hx => by
    obtain ⟨q, hq, rfl⟩ := List.mem_map.1 hx
    have hgB : ∀ b ∈ q.2.map leafI, goodI b = true := fun b hb => by
      obtain ⟨y, hy, rfl⟩ := List.mem_map.1 hb
      exact hg1 y ((c1 q hq).sub y hy)
    have hgp := (hJ q hq).2.good hgB
    have ht := joinF_t q.2.length (q.2.map leafI) (fun h => (c1 q hq).ne (List.map_eq_nil_iff.1 h)) (by rw [List.length_map]; exact Nat.le_refl _) (c1 q hq).rise (fun x hx => by
      obtain ⟨y, hy, rfl⟩ := List.mem_map.1 hx
      exact leafI_ok y (hok y ((c1 q hq).sub y hy))) (fun x hx => good_t (hgB x hx))
    rw [← (c1 q hq).eq] at ht
    unfold goodI
    rw [show goodP ⟨q.1.n, q.1.l⟩ = true from hgp, decide_eq_true ht.1, decide_eq_true ht.2]; rfl
  have a1 : (r.map (·.1) ++ F.map leafI).Pairwise Anti := by
    refine List.pairwise_append.2 ⟨?_, ?_, fun a ha b hb => ?_⟩
    · rw [List.pairwise_map]; exact c2.imp (fun h => ⟨h.1, h.2.1⟩)
    · rw [List.pairwise_map]
      exact List.Pairwise.imp_of_mem (fun {a b} ha hb h => leaf_anti (hF a ha).1 (hF b hb).1 h) hFd
    · obtain ⟨q, hq, rfl⟩ := List.mem_map.1 ha
      obtain ⟨y, hy, rfl⟩ := List.mem_map.1 hb
      have h1 := (c1 q hq).out y.l (hF y hy).2.2.2
      have h2 := (hJ q hq).2.le
      exact ⟨h1, by show ((comL q.1.l y.l : Nat) : Int) < 256; omega⟩
  have hUF : (S.filter (notIn ls) ++ F).Pairwise (fun a b => a.l ≠ b.l) := by
    refine List.pairwise_append.2 ⟨(rise_ne hr).filter _, hFd, fun a ha b hb he => ?_⟩
    exact (hU a ha).2 (he ▸ (hF b hb).2.2.2)
  have a2 : ((S.filter (notIn ls) ++ F).map leafI).Pairwise Anti := by
    rw [List.pairwise_map]
    refine List.Pairwise.imp_of_mem (fun {a b} ha hb h => leaf_anti ?_ ?_ h) hUF
    · rcases List.mem_append.1 ha with h | h
      · exact hok a (hU a h).1
      · exact (hF a h).1
    · rcases List.mem_append.1 hb with h | h
      · exact hok b (hU b h).1
      · exact (hF b h).1
  have e1 := chk_anti (l := r.map (·.1) ++ F.map leafI) (by rw [List.length_append, List.length_map (f := leafI)]; omega) (fun x hx => by
    rcases List.mem_append.1 hx with h | h
    · exact gP x h
    · exact gF x h) ok1 a1
  have e2 := chk_anti (l := (S.filter (notIn ls) ++ F).map leafI) (by
    have := List.length_filter_le (notIn ls) S
    rw [List.length_map, List.length_append]; omega) (fun x hx => by
    obtain ⟨y, hy, rfl⟩ := List.mem_map.1 hx
    rcases List.mem_append.1 hy with h | h
    · exact hg1 y (hU y h).1
    · exact gF _ (List.mem_map_of_mem h)) ok2 a2
  refine ⟨e1, e2, ?_, c4, okP, List.pairwise_map.2 (c2.imp (fun h => h.2.2.2.2))⟩
  rw [top_trJ ok1 e1, top_trJ ok2 e2]
  have ht := trJ_blocks r (F.map leafI) hJ c2 (fun q hq x hx => by
    obtain ⟨y, hy, rfl⟩ := List.mem_map.1 hx
    exact ⟨leafI_ok y (hF y hy).1, (c1 q hq).out y.l (hF y hy).2.2.2⟩) (fun q hq y hy => hok y ((c1 q hq).sub y hy))
  rw [c3, ← List.map_append] at ht
  rw [ht]
  have hnil : (r.map (·.1) ++ F.map leafI = []) ↔ ((S.filter (notIn ls) ++ F).map leafI = []) := by
    rw [List.map_append, ← c3]
    cases r with
    | nil => rfl
    | cons q r =>
      constructor
      · intro h; cases h
      · intro h
        exfalso
        have h1 := (List.append_eq_nil_iff.1 h).1
        rw [List.flatMap_cons, List.map_append] at h1
        exact (c1 q (List.mem_cons_self ..)).ne (List.map_eq_nil_iff.1 (List.append_eq_nil_iff.1 h1).1)
  by_cases hn : r.map (·.1) ++ F.map leafI = []
  · rw [if_pos hn, if_pos (hnil.1 hn)]
  · rw [if_neg hn, if_neg (fun h => hn (hnil.2 h))]
/-- What is sorted of lists that are one but for their order. -/
theorem srt_eq {a b : List Itm} (h : a.Perm b) (hc : chkI (srtI b) = 0) : srtI a = srtI b := srt_perm h (chkI_rise hc).2.1
theorem srt_id {a : List Itm} (h : RiseI a) : srtI a = a := sortS_id woI (h.imp (fun {x y} hxy => by
  show decide (cmpS y.l x.l < 0) = false
  exact decide_eq_false (fun h2 => by
    have := cmp_trans hxy h2
    rw [cmpS_eq] at this; omega)))
/-- The leaves of a tree have unlike labels. -/
theorem itms_ne {L : List Lef} (hc : chkI (itmsL L) = 0) : L.Pairwise (fun a b => a.l ≠ b.l) := by
  have h1 := (chkI_rise hc).2.1
  rw [itms_map] at h1
  exact (List.Perm.pairwise_iff (fun h => Ne.symm h) (srtL_perm L)).1 (rise_ne h1)
theorem filt_one {L : List Lef} (hd : L.Pairwise (fun a b => a.l ≠ b.l)) (j : Nat) (hj : j < L.length) : L.filter (notIn [L[j].l]) = L.take j ++ L.drop (j + 1) ∧ L.filter (fun x => [L[j].l].contains x.l) = [L[j]] := by
  have e : L = L.take j ++ L[j] :: L.drop (j + 1) := by rw [← List.drop_eq_getElem_cons hj]; exact (List.take_append_drop j L).symm
  generalize hx : L[j] = x at e ⊢
  have hd2 := hd
  rw [e] at hd2
  obtain ⟨d1, d2, d3⟩ := List.pairwise_append.1 hd2
  obtain ⟨d4, d5⟩ := List.pairwise_cons.1 d2
  have n1 : ∀ y ∈ L.take j, [x.l].contains y.l = false := fun y hy => by
    have := d3 y hy x (List.mem_cons_self ..)
    simp [this]
  have n2 : ∀ y ∈ L.drop (j + 1), [x.l].contains y.l = false := fun y hy => by
    have := d4 y hy
    simp [Ne.symm this]
  have n3 : [x.l].contains x.l = true := by simp
  generalize L.take j = A at *
  generalize L.drop (j + 1) = B at *
  constructor
  · conv => lhs; rw [e]
    rw [List.filter_append, List.filter_eq_self.2 (fun y hy => by unfold notIn; rw [n1 y hy]; rfl), List.filter_cons_of_neg (by unfold notIn; rw [n3]; decide), List.filter_eq_self.2 (fun y hy => by unfold notIn; rw [n2 y hy]; rfl)]
  · conv => lhs; rw [e]
    rw [List.filter_append, List.filter_eq_nil_iff.2 (fun y hy => by rw [n1 y hy]; decide), List.filter_cons_of_pos (by rw [n3]), List.filter_eq_nil_iff.2 (fun y hy => by rw [n2 y hy]; decide)]; rfl
end Go.Proofs.Ytpjfhllkckdejaa
set_option maxHeartbeats 16000000
set_option maxRecDepth 100000
namespace Go.Proofs.Ytpjfhllkckdejaa
open Go Go.RowKit
theorem less_law {L : List Lef} (hok : ∀ x ∈ L, x.ok) (hl : L.length ≤ 1000) (hc : chkI (itmsL L) = 0) (j : Nat) (hj : j < L.length) :
    cvT L [L[j].l] = [L[j]] ∧ chkI (itmsL (L.take j ++ L.drop (j + 1))) = 0 ∧ chkI (cvI L [L[j].l]) = 0 ∧ topS (itmsL (L.take j ++ L.drop (j + 1))) = topS (cvI L [L[j].l]) ∧ (∀ x ∈ cvI L [L[j].l], x.ok) ∧ (cvI L [L[j].l]).length ≤ L.length := by
  have hd := itms_ne hc
  obtain ⟨f1, f2⟩ := filt_one hd j hj
  have hcs : chkI ((srtL L).map leafI) = 0 := by rw [← itms_map]; exact hc
  have hE : cvE L = 0 := by unfold cvE; rw [itms_srt]; exact hc
  have hI : cvI L [L[j].l] = (openF L.length [L[j].l] (srtL L)).1 := by unfold cvI; rw [if_pos hE]
  have hT : cvT L [L[j].l] = (openF L.length [L[j].l] (srtL L)).2 := by unfold cvT; rw [if_pos hE]
  have hsl := srtL_len L
  have hls : ∀ x ∈ [L[j].l], x.length = 32 := fun x hx => by rw [List.mem_singleton.1 hx]; exact (hok _ (List.getElem_mem hj)).1
  obtain ⟨c1, c2, c3, c4, c5, c6⟩ := cover_top (S := srtL L) (F := []) hls hcs (fun x hx => hok x (srtL_mem.1 hx)) (fun x hx => by cases hx) List.Pairwise.nil (by rw [hsl, List.length_nil]; omega)
  have hlen := (openF_len L.length [L[j].l] (srtL L)).1
  rw [hsl] at c1 c3 c4 c5 c6 hlen
  rw [List.map_nil, List.append_nil] at c1 c3
  rw [List.append_nil] at c2 c3
  rw [← hI] at c1 c3 c5 c6 hlen
  rw [srt_id c6] at c1 c3
  have hp := srtL_perm L
  have hU : ((L.take j ++ L.drop (j + 1)).map leafI).Perm (((srtL L).filter (notIn [L[j].l])).map leafI) := by
    rw [← f1]
    exact (hp.symm.filter _).map _
  have hs := srt_eq hU c2
  have hit : itmsL (L.take j ++ L.drop (j + 1)) = srtI ((L.take j ++ L.drop (j + 1)).map leafI) := rfl
  rw [hit, hs]
  refine ⟨?_, c2, c1, c3.symm, c5, hlen⟩
  rw [hT, c4]
  have hq : ((srtL L).filter (fun x => [L[j].l].contains x.l)).Perm [L[j]] := by rw [← f2]; exact hp.filter _
  exact List.perm_singleton.1 hq
theorem patchLess_spec (l : List Lef) (at_ : Int) (hl : l.length ≤ 9223372036854775807) (hok : ∀ x ∈ l, x.ok) : Spec Try.prog 9 [.sl 65 (l.map Lef.A), .i .i64 at_] [] (fun v os => v = .b true ∧ os = []) := by
  refine spec_of TtOk [] Try.func9 rfl Try.ntmps9 (by kernel_rfl) rfl rfl (fun C => ?_) rfl
  have h1 := few_spec l 20 hl (by decide)
  have hll : (l.take 20).length ≤ 20 := by rw [List.length_take]; omega
  have hok1 : ∀ x ∈ l.take 20, x.ok := fun x hx => hok x (List.mem_of_mem_take hx)
  generalize l.take 20 = L at h1 hll hok1
  have hio : ∀ M : List Lef, (∀ x ∈ M, x.ok) → ∀ x ∈ itmsL M, x.ok := fun M hM x hx => by
    obtain ⟨y, hy, rfl⟩ := List.mem_map.1 (srtI_mem.1 hx)
    exact leafI_ok y (hM y hy)
  have hil : ∀ M : List Lef, (itmsL M).length = M.length := fun M => by unfold itmsL; rw [srtI_len, List.length_map]
  have h4 := awake16_spec
  by_cases ha : 0 ≤ at_ ∧ at_ < L.length
  · obtain ⟨a0, a1⟩ := ha
    obtain ⟨j, rfl⟩ : ∃ j : Nat, at_ = j := ⟨at_.toNat, by omega⟩
    have hj : j < L.length := by omega
    have h2 := of_spec L (by omega) hok1
    have h3 := pcheck_spec (itmsL L) (by rw [hil]; omega) (hio L hok1)
    by_cases hc : chkI (itmsL L) = 0
    · obtain ⟨e1, e2, e3, e4, e5, e6⟩ := less_law hok1 (by omega) hc j hj
      have okN : ∀ x ∈ L.take j ++ L.drop (j + 1), x.ok := fun x hx => by
        rcases List.mem_append.1 hx with h | h
        · exact hok1 x (List.mem_of_mem_take h)
        · exact hok1 x (List.mem_of_mem_drop h)
      have hNl : (L.take j ++ L.drop (j + 1)).length ≤ 20 := by rw [List.length_append, List.length_take, List.length_drop]; omega
      have hN := hil (L.take j ++ L.drop (j + 1))
      have h5 := of_spec (L.take j ++ L.drop (j + 1)) (by omega) okN
      have h6 := top_spec (itmsL (L.take j ++ L.drop (j + 1))) (by omega) (hio _ okN)
      have h7 := cover_spec L [L[j].l] (by omega) hok1 (show 1 ≤ 100000 by decide) (fun x hx => by rw [List.mem_singleton.1 hx]; exact (hok1 _ (List.getElem_mem hj)).1)
      have h8 := top_spec (cvI L [L[j].l]) (by omega) e5
      have hE : cvE L = 0 := by unfold cvE; rw [itms_srt]; exact hc
      rw [hc] at h3
      rw [e2] at h6
      rw [e1, hE] at h7
      rw [e3, ← e4] at h8
      clear e1 e2 e3 e4 e5 e6 hE hc hio hil hN
      generalize cvI L [L[j].l] = P at *
      generalize topS (itmsL (L.take j ++ L.drop (j + 1))) = s at *
      generalize itmsL (L.take j ++ L.drop (j + 1)) = J at *
      generalize itmsL L = I at *
      have hss : (s == s) = true := beq_self_eq_true _
      obtain ⟨Q, hQ⟩ : ∃ Q, Q = [L[j]] := ⟨_, rfl⟩
      rw [← hQ] at h7
      have hQl : Q.length = 1 := by rw [hQ]; rfl
      have hQ0 : 0 < Q.length := by omega
      have hq0 : Q[0] = L[j] := by simp only [hQ, List.getElem_cons_zero]
      have hlq : (Q[0].l == L[j].l && (Q[0].v == L[j].v && Q[0].t == L[j].t)) = true := by rw [hq0, beq_self_eq_true, beq_self_eq_true, beq_self_eq_true]; rfl
      clear hq0 hQ
      have hj1 : ((j : Int) + 1 = ((j + 1 : Nat) : Int)) := by omega
      rw [show L.drop (j + 1) = (L.take L.length).drop (j + 1) by rw [List.take_length]] at h5 hNl
      repeat' (first | (rw [hss]) | (refine o_freezeR 53 53 rfl rfl rfl ?_) | (refine o_freezeR (xs := (L.take j ++ (L.take L.length).drop (j + 1)).map Lef.A) 30 5 (by rw [List.map_append]; rfl) rfl rfl ?_) | (refine o_freezeR 14 0 rfl rfl rfl ?_) | refine Awp.seq ?_ | refine Awp.region ?_ | (refine Ops.nil ?_; show Awp _ _ _ _ _) | (refine Awp.skip ?_; show Awp _ _ _ _ _) | (refine Awp.ret ?_; show endK _ _ _ _ _) | (refine o_add rfl rfl rfl rfl ?_ ?_; omega) | refine o_len rfl TtOk rfl rfl rfl (fun _ => ?_) | (refine o_calm rfl TtOk rfl rfl rfl ?_ (fun _ => ?_); first | exact True.intro | exact ⟨rfl, rfl, rfl, rfl⟩ | exact ⟨rfl, True.intro⟩ | exact ⟨rfl, rfl⟩ | exact ⟨rfl, rfl, rfl⟩ | exact rfl | exact ⟨fun h0 => by cases h0, rfl⟩ | exact (fun h0 => by cases h0) | exact ⟨rfl, by omega⟩ | exact ⟨Nat.succ_ne_zero _, rfl⟩ | omega) | refine o_alloc (d := 6) rfl TtOk rfl rfl rfl (fun b6 => ?_) | refine o_alloc (d := 11) rfl TtOk rfl rfl rfl (fun b11 => ?_) | refine o_store TtOk rfl rfl rfl rfl rfl rfl rfl ⟨rfl, rfl⟩ rfl rfl rfl rfl rfl ?_ | (refine o_index rfl TtOk rfl rfl rfl rfl rfl rfl ?_ (getq_nat ?_) ?_; omega; omega) | refine o_buildSlice TtOk rfl rfl rfl rfl rfl rfl rfl rfl rfl rfl rfl (by repeat' (first | exact True.intro | exact rfl | refine ⟨?_, ?_⟩)) (fun _ => ?_) | (refine o_append TtOk rfl rfl rfl rfl rfl rfl rfl rfl rfl (by first | exact True.intro | exact rfl) rfl rfl (fun _ => rfl) ?_ ?_ (fun _ => ?_); ((repeat' (first | rw [List.length_append] | rw [List.length_map] | rw [List.length_cons] | rw [List.length_nil] | rw [List.length_take] | rw [List.length_drop])) <;> omega); ((repeat' (first | rw [List.length_append] | rw [List.length_map] | rw [List.length_cons] | rw [List.length_nil] | rw [List.length_take] | rw [List.length_drop])) <;> omega)) | refine o_eqArr8 TtOk rfl rfl rfl rfl rfl rfl (by kernel_rfl) ?_ | (fail_if_success (refine o_isLit rfl (by first | exact .inl rfl | exact .inr rfl) ?_)); (refine o_splitP rfl rfl (fun hc => ?_) (fun hc => ?_) <;> try (exfalso; omega)) | refine a_condF rfl ?_ | refine a_any 4 [30] [] [30] [1, 2, 3, 5, 6, 7, 8, 0, 4, 9, 10] (by kernel_rfl) (by kernel_rfl) (by kernel_rfl) rfl rfl rfl ?_ | (refine a_any 8 [] [] [] [0, 1, 2, 3, 4, 5, 6, 7, 8, 9, 10, 11, 12, 13, 14, 15, 16, 17, 18, 19, 20, 22, 23, 24, 21, 25, 26, 27, 28, 29, 30, 31, 32, 33] (by kernel_rfl) (by kernel_rfl) (by kernel_rfl) rfl rfl rfl ?_; (try dsimp only [List.getElem_toArray, List.getElem_cons_zero, List.getElem_cons_succ])) | (refine o_callR rfl h1 ⟨SLe.of_eq rfl, SLe.of_eq rfl, True.intro⟩ rfl (fun vR => ?_)) | (refine o_sliceSl TtOk rfl 0 j rfl rfl rfl rfl rfl bnd_none (bnd_some rfl rfl) (by omega) (by omega) ?_; rw [List.drop_zero]) | (refine o_sliceSl TtOk rfl (j+1) L.length rfl rfl rfl rfl rfl (bnd_some rfl hj1) bnd_none (by omega) (by omega) ?_) | (refine o_eqLef rfl (p := Q[0]) (q := L[j]) rfl rfl rfl ?_; rw [hlq]) | (refine o_call0 rfl (h2) ⟨SLe.of_eq rfl, True.intro⟩ rfl ?_; rintro _ _ ⟨rfl, rfl⟩; refine ⟨rfl, ?_⟩) | (refine o_call0 rfl (h3) ⟨SLe.of_eq rfl, True.intro⟩ rfl ?_; rintro _ _ ⟨rfl, rfl⟩; refine ⟨rfl, ?_⟩) | (refine o_call0 rfl (h4) True.intro rfl ?_; rintro _ _ ⟨rfl, rfl⟩; refine ⟨rfl, ?_⟩) | (refine o_call0 rfl (h5) ⟨SLe.of_eq rfl, True.intro⟩ rfl ?_; rintro _ _ ⟨rfl, rfl⟩; refine ⟨rfl, ?_⟩) | (refine o_call0 rfl (h6) ⟨SLe.of_eq rfl, True.intro⟩ rfl ?_; rintro _ _ ⟨rfl, rfl⟩; refine ⟨rfl, ?_⟩) | (refine o_call0 rfl (h7) ⟨SLe.of_eq rfl, SLe.of_eq rfl, True.intro⟩ rfl ?_; rintro _ _ ⟨rfl, rfl⟩; refine ⟨rfl, ?_⟩) | (refine o_call0 rfl (h8) ⟨SLe.of_eq rfl, True.intro⟩ rfl ?_; rintro _ _ ⟨rfl, rfl⟩; refine ⟨rfl, ?_⟩))
      all_goals exact end_tmp rfl rfl rfl [] [] (CLe.of_eq rfl) .nil ⟨rfl, rfl⟩ _ (.inl rfl)
    · generalize chkI (itmsL L) = c at *
      generalize itmsL L = I at *
      repeat' (first | (refine o_freezeR 14 0 rfl rfl rfl ?_) | refine Awp.seq ?_ | refine Awp.region ?_ | (refine Ops.nil ?_; show Awp _ _ _ _ _) | (refine Awp.ret ?_; show endK _ _ _ _ _) | refine o_len rfl TtOk rfl rfl rfl (fun _ => ?_) | (refine o_calm rfl TtOk rfl rfl rfl ?_ (fun _ => ?_); first | exact True.intro | exact ⟨rfl, rfl, rfl, rfl⟩ | exact ⟨rfl, True.intro⟩ | exact ⟨rfl, rfl⟩ | exact ⟨rfl, rfl, rfl⟩ | exact rfl | exact ⟨fun h0 => by cases h0, rfl⟩ | exact (fun h0 => by cases h0) | exact ⟨rfl, by omega⟩ | exact ⟨Nat.succ_ne_zero _, rfl⟩ | omega) | (fail_if_success (refine o_isLit rfl (by first | exact .inl rfl | exact .inr rfl) ?_)); (refine o_splitP rfl rfl (fun hc => ?_) (fun hc => ?_) <;> try (exfalso; omega)) | (refine a_condN rfl (fun hc => ?_) (fun hc => ?_)) <;> (try (exfalso; omega)) | (refine o_callR rfl h1 ⟨SLe.of_eq rfl, SLe.of_eq rfl, True.intro⟩ rfl (fun vR => ?_)) | (refine o_call0 rfl (h2) ⟨SLe.of_eq rfl, True.intro⟩ rfl ?_; rintro _ _ ⟨rfl, rfl⟩; refine ⟨rfl, ?_⟩) | (refine o_call0 rfl (h3) ⟨SLe.of_eq rfl, True.intro⟩ rfl ?_; rintro _ _ ⟨rfl, rfl⟩; refine ⟨rfl, ?_⟩) | (refine o_call0 rfl (h4) True.intro rfl ?_; rintro _ _ ⟨rfl, rfl⟩; refine ⟨rfl, ?_⟩))
      all_goals exact end_tmp rfl rfl rfl [] [] (CLe.of_eq rfl) .nil ⟨rfl, rfl⟩ _ (.inl rfl)
  · repeat' (first | (refine o_freezeR 14 0 rfl rfl rfl ?_) | refine Awp.seq ?_ | refine Awp.region ?_ | (refine Ops.nil ?_; show Awp _ _ _ _ _) | (refine Awp.ret ?_; show endK _ _ _ _ _) | refine o_noF rfl rfl rfl ?_ | refine o_len rfl TtOk rfl rfl rfl (fun _ => ?_) | (refine o_calm rfl TtOk rfl rfl rfl ?_ (fun _ => ?_); first | exact True.intro | exact ⟨rfl, rfl, rfl, rfl⟩ | exact ⟨rfl, True.intro⟩ | exact ⟨rfl, rfl⟩ | exact ⟨rfl, rfl, rfl⟩ | exact rfl | exact ⟨fun h0 => by cases h0, rfl⟩ | exact (fun h0 => by cases h0) | exact ⟨rfl, by omega⟩ | exact ⟨Nat.succ_ne_zero _, rfl⟩ | omega) | (fail_if_success (refine o_isLit rfl (by first | exact .inl rfl | exact .inr rfl) ?_)); (refine o_splitP rfl rfl (fun hc => ?_) (fun hc => ?_) <;> try (exfalso; omega)) | refine a_condT rfl ?_ | (refine o_callR rfl h1 ⟨SLe.of_eq rfl, SLe.of_eq rfl, True.intro⟩ rfl (fun vR => ?_)) | (refine o_call0 rfl (h4) True.intro rfl ?_; rintro _ _ ⟨rfl, rfl⟩; refine ⟨rfl, ?_⟩))
    all_goals exact end_tmp rfl rfl rfl [] [] (CLe.of_eq rfl) .nil ⟨rfl, rfl⟩ _ (.inl rfl)
end Go.Proofs.Ytpjfhllkckdejaa
set_option maxHeartbeats 16000000
set_option maxRecDepth 100000
namespace Go.Proofs.Ytpjfhllkckdejaa
open Go Go.RowKit
def atB (ls : List (List UInt8)) (l : List UInt8) : Bool := ls.any (fun b => b == l)
theorem atB_iff {ls : List (List UInt8)} {l : List UInt8} : atB ls l = true ↔ l ∈ ls := by
  unfold atB
  rw [List.any_eq_true]
  exact ⟨fun ⟨x, hx, h⟩ => by rw [← beq_iff_eq.1 h]; exact hx, fun h => ⟨l, h, beq_self_eq_true _⟩⟩
theorem atB_con (ls : List (List UInt8)) (l : List UInt8) : atB ls l = ls.contains l := by
  cases h : ls.contains l
  · cases h2 : atB ls l
    · rfl
    · rw [List.contains_iff_mem.2 (atB_iff.1 h2)] at h; cases h
  · exact atB_iff.2 (List.contains_iff_mem.1 h)
theorem at_spec (x : Lef) (ls : List (List UInt8)) (hls : ls.length ≤ 100000) : Spec Try.prog 35 [x.A, .sl 32 (ls.map labA)] [] (fun v os => v = .b (atB ls x.l) ∧ os = []) := by
  obtain ⟨R, hR⟩ : ∃ R, (ls.drop 0).any (fun b => b == x.l) = R := ⟨_, rfl⟩
  have hR2 : atB ls x.l = R := hR
  rw [hR2]
  clear hR2
  obtain ⟨l, u, t⟩ := x
  dsimp only at hR
  show Spec Try.prog 35 [.agg [labA l, labA u, .i .i64 t], .sl 32 (ls.map labA)] [] _
  refine spec_of TtOk [] Try.func35 rfl Try.ntmps35 (by kernel_rfl) rfl rfl (fun C => ?_) rfl
  repeat' (first | refine Awp.seq ?_ | refine Awp.block ?_ | refine Awp.region ?_ | (refine Ops.nil ?_; show Awp _ _ _ _ _) | refine o_len rfl TtOk rfl rfl rfl (fun _ => ?_) | (refine o_calm rfl TtOk rfl rfl rfl ?_ (fun _ => ?_); first | exact True.intro | exact ⟨rfl, rfl, rfl, rfl⟩ | exact ⟨rfl, True.intro⟩ | exact ⟨rfl, rfl⟩ | exact ⟨rfl, rfl, rfl⟩ | exact rfl | exact ⟨fun h0 => by cases h0, rfl⟩ | exact (fun h0 => by cases h0) | exact ⟨rfl, by omega⟩ | exact ⟨Nat.succ_ne_zero _, rfl⟩ | omega) | refine o_box (d := 2) rfl rfl rfl rfl (fun b2 => ?_))
  refine Awp.loop (fun i : Nat => ⟨18, [(9, .i .i64 i), (8, .i .i64 ls.length), (7, .sl 32 (ls.map labA)), (2, .ptr 2 b2 [] 0)], [(2, .var b2 (.agg [labA l, labA u, .i .i64 t]))]⟩) (fun i => i ≤ ls.length ∧ (ls.drop i).any (fun b => b == l) = R) (fun i => ls.length - i) [] 0 ⟨Nat.zero_le _, hR⟩ ?_ ?_
  · exact ⟨rfl, ⟨sle_i rfl, sle_i rfl, sle_sl rfl, sle_ptr, True.intro⟩, HLe.cons 2 rfl (HOLe.refl _) .nil⟩
  rintro i ⟨hi, hst⟩
  by_cases hlt : i < ls.length
  · have hi1 : ((i : Int) + 1 = ((i + 1 : Nat) : Int)) := by omega
    rw [any_drop _ ls hlt] at hst
    by_cases hq : (ls[i] == l) = true
    · rw [hq, Bool.true_or] at hst
      subst hst
      repeat' (first | (rw [hq]) | refine Awp.seq ?_ | refine Awp.block ?_ | refine Awp.region ?_ | (refine Ops.nil ?_; show Awp _ _ _ _ _) | (refine Awp.skip ?_; show Awp _ _ _ _ _) | (refine Awp.ret ?_; show endK _ _ _ _ _) | (refine o_calm rfl TtOk rfl rfl rfl ?_ (fun _ => ?_); first | exact True.intro | exact ⟨rfl, rfl, rfl, rfl⟩ | exact ⟨rfl, True.intro⟩ | exact ⟨rfl, rfl⟩ | exact ⟨rfl, rfl, rfl⟩ | exact rfl | exact ⟨fun h0 => by cases h0, rfl⟩ | exact (fun h0 => by cases h0) | exact ⟨rfl, by omega⟩ | exact ⟨Nat.succ_ne_zero _, rfl⟩ | omega) | refine o_alloc (d := 6) rfl TtOk rfl rfl rfl (fun b6 => ?_) | refine o_store TtOk rfl rfl rfl rfl rfl rfl rfl ⟨rfl, rfl⟩ rfl rfl rfl rfl rfl ?_ | (refine o_index rfl TtOk rfl rfl rfl rfl rfl rfl ?_ (getq_nat ?_) ?_; omega; omega) | refine o_eqArr8 TtOk rfl rfl rfl rfl rfl rfl (by kernel_rfl) ?_ | refine a_condT rfl ?_ | (refine a_condP rfl (fun hc => ?_) (fun hc => ?_)) <;> (try (exfalso; omega)))
      exact end_tmp rfl rfl rfl [] [] (CLe.of_eq rfl) .nil ⟨rfl, rfl⟩ _ (.inl rfl)
    · have hq : (ls[i] == l) = false := by revert hq; cases (ls[i] == l) <;> simp
      rw [hq, Bool.false_or] at hst
      repeat' (first | (rw [hq]) | refine Awp.seq ?_ | refine Awp.block ?_ | refine Awp.region ?_ | (refine Ops.nil ?_; show Awp _ _ _ _ _) | (refine Ops.nil ?_; show Exists _) | (refine Awp.skip ?_; show Awp _ _ _ _ _) | (refine o_add rfl rfl rfl rfl ?_ ?_; omega) | (refine o_calm rfl TtOk rfl rfl rfl ?_ (fun _ => ?_); first | exact True.intro | exact ⟨rfl, rfl, rfl, rfl⟩ | exact ⟨rfl, True.intro⟩ | exact ⟨rfl, rfl⟩ | exact ⟨rfl, rfl, rfl⟩ | exact rfl | exact ⟨fun h0 => by cases h0, rfl⟩ | exact (fun h0 => by cases h0) | exact ⟨rfl, by omega⟩ | exact ⟨Nat.succ_ne_zero _, rfl⟩ | omega) | refine o_alloc (d := 6) rfl TtOk rfl rfl rfl (fun b6 => ?_) | refine o_store TtOk rfl rfl rfl rfl rfl rfl rfl ⟨rfl, rfl⟩ rfl rfl rfl rfl rfl ?_ | (refine o_index rfl TtOk rfl rfl rfl rfl rfl rfl ?_ (getq_nat ?_) ?_; omega; omega) | refine o_eqArr8 TtOk rfl rfl rfl rfl rfl rfl (by kernel_rfl) ?_ | refine a_condF rfl ?_ | (refine a_condP rfl (fun hc => ?_) (fun hc => ?_)) <;> (try (exfalso; omega)))
      exact ⟨i + 1, [], ⟨hlt, hst⟩, by omega, rfl, ⟨sle_i hi1, sle_i rfl, sle_sl rfl, sle_ptr, True.intro⟩, HLe.cons 2 rfl (HOLe.refl _) .nil⟩
  · have hie : i = ls.length := by omega
    subst hie
    rw [List.drop_length] at hst
    have hst : false = R := hst
    subst hst
    repeat' (first | refine Awp.seq ?_ | refine Awp.region ?_ | (refine Ops.nil ?_; show Awp _ _ _ _ _) | (refine Awp.exit ?_; show Awp _ _ _ _ _) | (refine Awp.ret ?_; show endK _ _ _ _ _) | (refine o_calm rfl TtOk rfl rfl rfl ?_ (fun _ => ?_); first | exact True.intro | exact ⟨rfl, rfl, rfl, rfl⟩ | exact ⟨rfl, True.intro⟩ | exact ⟨rfl, rfl⟩ | exact ⟨rfl, rfl, rfl⟩ | exact rfl | exact ⟨fun h0 => by cases h0, rfl⟩ | exact (fun h0 => by cases h0) | exact ⟨rfl, by omega⟩ | exact ⟨Nat.succ_ne_zero _, rfl⟩ | omega) | (refine a_condP rfl (fun hc => ?_) (fun hc => ?_)) <;> (try (exfalso; omega)))
    exact end_tmp rfl rfl rfl [] [] (CLe.of_eq rfl) .nil ⟨rfl, rfl⟩ _ (.inl rfl)
/-- The leaves that come in the place of those at the labels. -/
def freO (B : List (List UInt8)) (i : Nat) (x : Lef) : List Lef := if i < B.length ∧ 0 ≤ x.t ∧ x.t ≤ 1073741824 ∧ atB (B.take i) (B.getD i []) = false then [⟨B.getD i [], x.v, x.t⟩] else []
def freF (B : List (List UInt8)) (fr : List Lef) : Nat → List Lef
  | 0 => []
  | i + 1 => freF B fr i ++ freO B i (fr.getD i ⟨[], [], 0⟩)
theorem freO_mem {B : List (List UInt8)} {i : Nat} {x y : Lef} (h : y ∈ freO B i x) : i < B.length ∧ 0 ≤ y.t ∧ y.t ≤ 1073741824 ∧ B.getD i [] ∉ B.take i ∧ y.l = B.getD i [] ∧ y.v = x.v := by
  unfold freO at h
  split at h
  · rename_i hc
    rw [List.mem_singleton.1 h]
    exact ⟨hc.1, hc.2.1, hc.2.2.1, fun hm => by rw [atB_iff.2 hm] at hc; exact absurd hc.2.2.2 (by decide), rfl, rfl⟩
  · cases h
theorem freF_facts {B : List (List UInt8)} {fr : List Lef} (hB : ∀ x ∈ B, x.length = 32) (hfr : ∀ x ∈ fr, x.ok) : ∀ n, n ≤ fr.length → (∀ y ∈ freF B fr n, y.ok ∧ 0 ≤ y.t ∧ y.t ≤ 1073741824 ∧ y.l ∈ B.take n) ∧ (freF B fr n).Pairwise (fun a b => a.l ≠ b.l) ∧ (freF B fr n).length ≤ n
  | 0, _ => ⟨fun y hy => (by cases hy), List.Pairwise.nil, Nat.le_refl _⟩
  | n + 1, hn => by
    obtain ⟨h1, h2, h3⟩ := freF_facts hB hfr n (by omega)
    have hg : fr.getD n ⟨[], [], 0⟩ = fr[n] := by rw [List.getD_eq_getElem?_getD, List.getElem?_eq_getElem (by omega)]; rfl
    unfold freF
    rw [hg]
    refine ⟨fun y hy => ?_, List.pairwise_append.2 ⟨h2, ?_, fun a ha b hb he => ?_⟩, ?_⟩
    · rcases List.mem_append.1 hy with h | h
      · obtain ⟨a, b, c, d⟩ := h1 y h
        exact ⟨a, b, c, List.mem_of_mem_take (i := n) (by rw [List.take_take, Nat.min_eq_left (by omega)]; exact d)⟩
      · obtain ⟨a, b, c, d, e, f⟩ := freO_mem h
        have hbg : B.getD n [] = B[n] := by rw [List.getD_eq_getElem?_getD, List.getElem?_eq_getElem a]; rfl
        refine ⟨⟨by rw [e, hbg]; exact hB _ (List.getElem_mem a), by rw [f]; exact (hfr _ (List.getElem_mem (by omega))).2⟩, b, c, ?_⟩
        rw [e, hbg, List.take_succ_eq_append_getElem a]
        exact List.mem_append.2 (.inr (List.mem_singleton.2 rfl))
    · unfold freO; split
      · exact List.pairwise_singleton _ _
      · exact List.Pairwise.nil
    · obtain ⟨_, _, _, d, e, _⟩ := freO_mem hb
      exact d (e ▸ he ▸ (h1 a ha).2.2.2)
    · rw [List.length_append]
      have : (freO B n fr[n]).length ≤ 1 := by unfold freO; split <;> simp
      omega
/-- What the statement says of the parts, plainly. -/
theorem parts_law {L fr : List Lef} {B : List (List UInt8)} (hok : ∀ x ∈ L, x.ok) (hl : L.length ≤ 100) (hf : fr.length ≤ 100) (hB : ∀ x ∈ B, x.length = 32) (hfr : ∀ x ∈ fr, x.ok) (hc : chkI (itmsL L) = 0) :
    (∀ x ∈ cvI L B, x.ok) ∧ (cvI L B).length ≤ L.length ∧ (∀ x ∈ cvT L B, x ∈ L ∧ atB B x.l = true) ∧ (cvT L B).length ≤ L.length ∧
    chkI (srtI (cvI L B ++ itmsL (cvT L B))) = 0 ∧ topS (itmsL L) = topS (srtI (cvI L B ++ itmsL (cvT L B))) ∧
    chkI (itmsL (L.filter (fun x => !(atB B x.l)) ++ freF B fr fr.length)) = 0 ∧ chkI (srtI (cvI L B ++ itmsL (freF B fr fr.length))) = 0 ∧
    topS (itmsL (L.filter (fun x => !(atB B x.l)) ++ freF B fr fr.length)) = topS (srtI (cvI L B ++ itmsL (freF B fr fr.length))) := by
  have hcs : chkI ((srtL L).map leafI) = 0 := by rw [← itms_map]; exact hc
  have hE : cvE L = 0 := by unfold cvE; rw [itms_srt]; exact hc
  have hI : cvI L B = (openF L.length B (srtL L)).1 := by unfold cvI; rw [if_pos hE]
  have hT : cvT L B = (openF L.length B (srtL L)).2 := by unfold cvT; rw [if_pos hE]
  have hsl := srtL_len L
  have oks : ∀ x ∈ srtL L, x.ok := fun x hx => hok x (srtL_mem.1 hx)
  obtain ⟨hl1, hl2⟩ := openF_len L.length B (srtL L)
  rw [hsl] at hl1 hl2
  have hgd := (chkI_rise hcs).2.2
  have hp := srtL_perm L
  obtain ⟨F1, F2, F3⟩ := freF_facts hB hfr fr.length (Nat.le_refl _)
  have F1' : ∀ x ∈ freF B fr fr.length, x.ok ∧ 0 ≤ x.t ∧ x.t ≤ 1073741824 ∧ x.l ∈ B := fun x hx => by
    obtain ⟨a, b, c, d⟩ := F1 x hx
    exact ⟨a, b, c, List.mem_of_mem_take d⟩
  generalize freF B fr fr.length = F at *
  obtain ⟨c1, c2, c3, c4, c5, c6⟩ := cover_top (S := srtL L) (F := F) hB hcs oks F1' F2 (by omega)
  rw [hsl] at c1 c3 c4 c5 c6
  have Tm : ∀ x ∈ cvT L B, x ∈ srtL L ∧ x.l ∈ B := fun x hx => by
    rw [hT, c4] at hx
    exact ⟨(List.mem_filter.1 hx).1, List.contains_iff_mem.1 (List.mem_filter.1 hx).2⟩
  have hrs := rise_ne (chkI_rise hcs).2.1
  have hTd : (cvT L B).Pairwise (fun a b => a.l ≠ b.l) := by rw [hT, c4]; exact hrs.filter _
  have hTl : (cvT L B).length ≤ L.length := by rw [hT]; exact hl2
  obtain ⟨d1, d2, d3, d4, d5, d6⟩ := cover_top (S := srtL L) (F := cvT L B) hB hcs oks (fun x hx => by
    obtain ⟨a, b⟩ := Tm x hx
    have g := good_t (hgd _ (List.mem_map_of_mem a))
    exact ⟨oks x a, g.1, g.2, b⟩) hTd (by omega)
  rw [hsl] at d1 d3
  rw [← hI] at c1 c3 c5 c6 d1 d3 hl1
  have e1 : srtI (cvI L B ++ itmsL (cvT L B)) = srtI (cvI L B ++ (cvT L B).map leafI) := srt_eq ((srtI_perm _).append_left _) d1
  have e2 : srtI (cvI L B ++ itmsL F) = srtI (cvI L B ++ F.map leafI) := srt_eq ((srtI_perm _).append_left _) c1
  have hnot : (fun x : Lef => !(atB B x.l)) = notIn B := by funext x; unfold notIn; rw [atB_con]
  have e3 : itmsL (L.filter (notIn B) ++ F) = srtI (((srtL L).filter (notIn B) ++ F).map leafI) := srt_eq (((hp.symm.filter _).append_right F).map _) c2
  have e4 : itmsL L = srtI (((srtL L).filter (notIn B) ++ cvT L B).map leafI) := by
    refine srt_eq (List.Perm.map _ ?_) d2
    refine hp.symm.trans ?_
    rw [hT, c4]
    refine (List.filter_append_perm (notIn B) (srtL L)).symm.trans ?_
    have : (srtL L).filter (fun x => !(notIn B x)) = (srtL L).filter (fun x => B.contains x.l) := by
      congr 1
      funext x
      unfold notIn
      rw [Bool.not_not]
    rw [this]
  rw [hnot, e1, e2, e3]
  refine ⟨c5, hl1, fun x hx => ⟨srtL_mem.1 (Tm x hx).1, atB_iff.2 (Tm x hx).2⟩, hTl, d1, ?_, c2, c1, c3.symm⟩
  conv => lhs; rw [e4]
  exact d3.symm
end Go.Proofs.Ytpjfhllkckdejaa
