/- When a step is made, and that it is taken. No program in sight. -/
import Derived.Test.YtcmgpkibjdbonaaPS2
import Derived.Test.YtcmgpkibjdbonaaLF3Z
import Derived.Test.YtcmgpkibjdbonaaLF4
set_option maxHeartbeats 4000000
namespace Go.Proofs.Ytcmgpkibjdbonaa
open Go Go.RowKit
theorem Leads.err {L : List Lef} {gone : List (List UInt8)} {fresh : List Lef} {Sm : List Itm} {Ol Nw : List Lef} (h : Leads L gone fresh Sm Ol Nw) (hl : L.length ≤ 400) (hf : fresh.length ≤ 400) (fr to : List UInt8) : stE fr to ⟨Sm, Ol, Nw⟩ = if topS (itmsL L) = fr ∧ topS (itmsL (behL L gone fresh)) = to then 0 else 11 := by
  have a := h.lenO
  have b := h.lenN
  unfold stE
  dsimp only
  rw [if_neg (by omega), if_neg h.form, h.old, if_neg (fun hh => hh rfl), h.new, if_neg (fun hh => hh rfl), h.oldT, h.newT]
theorem Leads.taken {L : List Lef} {gone : List (List UInt8)} {fresh : List Lef} {Sm : List Itm} {Ol Nw : List Lef} (h : Leads L gone fresh Sm Ol Nw) (hl : L.length ≤ 400) (hf : fresh.length ≤ 400) : stE (topS (itmsL L)) (topS (itmsL (behL L gone fresh))) ⟨Sm, Ol, Nw⟩ = 0 := by
  rw [h.err hl hf, if_pos ⟨rfl, rfl⟩]
theorem mkNw_mem {L : List Lef} {cI : List Itm} {cT fresh : List Lef} : ∃ r, mkNw L cI cT fresh = fresh ++ r := by
  unfold mkNw
  split
  · split
    · exact ⟨_, rfl⟩
    · exact ⟨[], (List.append_nil _).symm⟩
  · exact ⟨[], (List.append_nil _).symm⟩
theorem mk_leads {L : List Lef} {gone : List (List UInt8)} {fresh : List Lef} (hok : ∀ x ∈ L, x.ok) (hgo : ∀ x ∈ gone, x.length = 32) (hfo : ∀ x ∈ fresh, x.ok) (hl : L.length ≤ 400) (hfl : fresh.length ≤ 400) (h : (smk L gone fresh).2 = 0) :
    mkE L = 0 ∧ ∃ Sm Ol Nw, (smk L gone fresh).1 = ⟨Sm, Ol, Nw⟩ ∧ Leads L gone fresh Sm Ol Nw := by
  unfold smk at h ⊢
  by_cases hb : 500 < gone.length ∨ 500 < fresh.length
  · rw [if_pos hb] at h; cases h
  rw [if_neg hb] at h ⊢
  by_cases hc : cvE L ≠ 0
  · rw [if_pos hc] at h; exact absurd h hc
  rw [if_neg hc] at h ⊢
  have hcm : mkE L = 0 := by
    have := Decidable.not_not.1 hc
    unfold cvE at this; rw [itms_srt] at this; exact this
  refine ⟨hcm, ?_⟩
  unfold smkF at h ⊢
  by_cases h7 : gone.all (fun g => (cvT L (lbs gone fresh)).any (fun x => x.l == g)) = false
  · rw [if_pos h7] at h; cases h
  rw [if_neg h7] at h ⊢
  by_cases h8 : (cvT L (lbs gone fresh)).all (fun x => gone.any (fun y => x.l == y)) = false
  · rw [if_pos h8] at h; cases h
  rw [if_neg h8] at h ⊢
  unfold smkT at h ⊢
  by_cases ht : chkI (topU (mkSm L (cvI L (lbs gone fresh)) (cvT L (lbs gone fresh)) fresh) (srtL (mkNw L (cvI L (lbs gone fresh)) (cvT L (lbs gone fresh)) fresh))) ≠ 0
  · rw [if_pos ht] at h; exact absurd h ht
  rw [if_neg ht]
  have ht := Decidable.not_not.1 ht
  rw [topU_srt] at ht
  obtain ⟨f1, f2⟩ := fresh_ok ((topU_chk _ _).1.1 ht)
  obtain ⟨r, hr⟩ := mkNw_mem (L := L) (cI := cvI L (lbs gone fresh)) (cT := cvT L (lbs gone fresh)) (fresh := fresh)
  rw [hr] at f1 f2
  exact ⟨_, _, _, rfl, mk_core hok hgo hfo hl hfl hcm (by simpa using h7) (by simpa using h8) (fun x hx => f1 x (List.mem_append.2 (.inl hx))) (List.pairwise_append.1 f2).1⟩
theorem cvT_eq {L : List Lef} {ls : List (List UInt8)} (hok : ∀ x ∈ L, x.ok) (hls : ∀ x ∈ ls, x.length = 32) (hc : mkE L = 0) : cvT L ls = (srtL L).filter (fun x => ls.contains x.l) := by
  have hS := rsn_srt hok hc
  have hsl := srtL_len L
  have hcS : chkI ((srtL L).map leafI) = 0 := by rw [← itms_map]; exact hc
  have hE : cvE L = 0 := by unfold cvE; rw [itms_srt]; exact hc
  have hl := (chkI_rise hc).1
  rw [itmsL_len] at hl
  obtain ⟨_, _, _, a4, _, _⟩ := cover_top (F := []) hls hcS hS.ok (fun x hx => by cases hx) .nil (by rw [hsl]; exact hl)
  unfold cvT
  rw [if_pos hE, ← hsl]
  exact a4
theorem beh_nil (L fresh : List Lef) : behL L [] fresh = L ++ fresh := by
  unfold behL
  rw [List.filter_eq_self.2 (fun x _ => (rfl : notIn [] x = true))]
end Go.Proofs.Ytcmgpkibjdbonaa
set_option maxHeartbeats 16000000
set_option maxRecDepth 100000
namespace Go.Proofs.Ytcmgpkibjdbonaa
open Go Go.RowKit
def extP (L : List Lef) (s : Stp) : List UInt8 × List UInt8 × Bool := if mkE L ≠ 0 ∨ chkI (topU s.same s.old) ≠ 0 then ([], [], false) else hld ((topU s.same s.old).length + 1) (topU s.same s.old) s.old (srtL L)
end Go.Proofs.Ytcmgpkibjdbonaa
set_option maxHeartbeats 4000000
namespace Go.Proofs.Ytcmgpkibjdbonaa
open Go Go.RowKit
/-- Items that make up the tree of leaves, from left to right. -/
inductive Cov : List Itm → List Lef → Prop
  | one {l : List Lef} (h : Rsn l) (hn : l ≠ []) : Cov [jnI l] l
  | two {S T : List Itm} {l : List Lef} (h : Rsn l) (h2 : 2 ≤ l.length) (hS : Cov S (l.take (splI (l.map leafI)))) (hT : Cov T (l.drop (splI (l.map leafI)))) : Cov (S ++ T) l
theorem Cov.rsn {T : List Itm} {l : List Lef} (h : Cov T l) : Rsn l ∧ l ≠ [] := by
  cases h with
  | one h hn => exact ⟨h, hn⟩
  | two h h2 _ _ => exact ⟨h, fun e => by rw [e] at h2; simp at h2⟩
theorem Cov.ne {T : List Itm} {l : List Lef} (h : Cov T l) : T ≠ [] := by
  induction h with
  | one _ _ => exact fun e => by cases e
  | two _ _ _ _ i1 _ => exact fun e => i1 (List.append_eq_nil_iff.1 e).1
theorem Cov.mem {T : List Itm} {l : List Lef} (h : Cov T l) : ∀ p ∈ T, ∃ G, G ≠ [] ∧ Rsn G ∧ (∀ x ∈ G, x ∈ l) ∧ p = jnI G := by
  induction h with
  | @one l h hn => exact fun p hp => ⟨l, hn, h, fun x hx => hx, List.mem_singleton.1 hp⟩
  | two _ _ _ _ i1 i2 =>
    intro p hp
    rcases List.mem_append.1 hp with hp | hp
    · obtain ⟨G, a, b, c, d⟩ := i1 p hp
      exact ⟨G, a, b, fun x hx => List.mem_of_mem_take (c x hx), d⟩
    · obtain ⟨G, a, b, c, d⟩ := i2 p hp
      exact ⟨G, a, b, fun x hx => List.mem_of_mem_drop (c x hx), d⟩
theorem Cov.bits {T : List Itm} {l : List Lef} (h : Cov T l) {n : Nat} (hn : n < 256) (hb : ∀ x ∈ l, ∀ y ∈ l, ∀ i, i ≤ n → bitL x.l i = bitL y.l i) : ∀ p ∈ T, ∀ x ∈ l, ∀ i, i ≤ n → bitL p.l i = bitL x.l i := by
  intro p hp x hx i hi
  obtain ⟨G, hne, hG, hs, rfl⟩ := h.mem p hp
  obtain ⟨y, hy⟩ := List.exists_mem_of_ne_nil G hne
  have := (hG.deep (List.length_pos_iff.2 hne) (n := i) (by omega) (fun x hx y hy j hj => hb x (hs x hx) y (hs y hy) j (by omega))).2 y hy
  rw [this]
  exact hb y (hs y hy) x hx i hi
theorem Cov.okI {T : List Itm} {l : List Lef} (h : Cov T l) : ∀ p ∈ T, p.ok := by
  intro p hp
  obtain ⟨G, hne, hG, hs, rfl⟩ := h.mem p hp
  exact (hG.join (List.length_pos_iff.2 hne)).1.ok
theorem Rsn.bits {l : List Lef} (h : Rsn l) : ∀ x ∈ l, ∀ y ∈ l, ∀ i, i < frkI (l.map leafI) → bitL x.l i = bitL y.l i := fun x hx y hy i hi => by
  obtain ⟨j, hj, rfl⟩ := List.getElem_of_mem hx
  obtain ⟨k, hk, rfl⟩ := List.getElem_of_mem hy
  have hml : (l.map leafI).length = l.length := List.length_map ..
  have a := rise_bits h.rise h.okI (by omega) j (by omega) i hi
  have b := rise_bits h.rise h.okI (by omega) k (by omega) i hi
  rw [List.getElem_map] at a b
  exact a.trans b.symm
/-- Of the two sides. -/
theorem cov_sides {S T : List Itm} {l : List Lef} (h : Rsn l) (h2 : 2 ≤ l.length) (hS : Cov S (l.take (splI (l.map leafI)))) (hT : Cov T (l.drop (splI (l.map leafI)))) :
    (∀ p ∈ S, bitL p.l (frkI (l.map leafI)) = 0) ∧ (∀ q ∈ T, bitL q.l (frkI (l.map leafI)) = 1) ∧ (∀ p ∈ S, ∀ q ∈ T, comL p.l q.l = frkI (l.map leafI) ∧ cmpS p.l q.l < 0) := by
  have hSd := h.sides h2
  have hf := hSd.f256
  have tm : ∀ x ∈ l.take (splI (l.map leafI)), x ∈ l := fun x hx => List.mem_of_mem_take hx
  have dm : ∀ x ∈ l.drop (splI (l.map leafI)), x ∈ l := fun x hx => List.mem_of_mem_drop hx
  have bS := hS.bits hf (fun x hx y hy i hi => by
    rcases Nat.lt_or_eq_of_le hi with hi | rfl
    · exact h.bits x (tm x hx) y (tm y hy) i hi
    · rw [hSd.lo x hx, hSd.lo y hy])
  have bT := hT.bits hf (fun x hx y hy i hi => by
    rcases Nat.lt_or_eq_of_le hi with hi | rfl
    · exact h.bits x (dm x hx) y (dm y hy) i hi
    · rw [hSd.hi x hx, hSd.hi y hy])
  obtain ⟨x, hx⟩ := List.exists_mem_of_ne_nil _ hS.rsn.2
  obtain ⟨y, hy⟩ := List.exists_mem_of_ne_nil _ hT.rsn.2
  have z0 : ∀ p ∈ S, bitL p.l (frkI (l.map leafI)) = 0 := fun p hp => by rw [bS p hp x hx _ (Nat.le_refl _), hSd.lo x hx]
  have z1 : ∀ q ∈ T, bitL q.l (frkI (l.map leafI)) = 1 := fun q hq => by rw [bT q hq y hy _ (Nat.le_refl _), hSd.hi y hy]
  refine ⟨z0, z1, fun p hp q hq => ?_⟩
  have op := (hS.okI p hp).1
  have oq := (hT.okI q hq).1
  have hcm := com_is op oq hf (fun i hi => by rw [bS p hp x hx i (by omega), bT q hq y hy i (by omega)]; exact h.bits x (tm x hx) y (dm y hy) i hi) (by rw [z0 p hp, z1 q hq]; decide)
  exact ⟨hcm, lt_cmp op oq (by rw [hcm]; exact hf) (by rw [hcm]; exact z0 p hp)⟩
theorem Cov.rise {T : List Itm} {l : List Lef} (h : Cov T l) : RiseI T := by
  induction h with
  | one _ _ => exact List.pairwise_singleton ..
  | two h h2 hS hT i1 i2 => exact List.pairwise_append.2 ⟨i1, i2, fun p hp q hq => ((cov_sides h h2 hS hT).2.2 p hp q hq).2⟩
theorem cov_split {S T : List Itm} {l : List Lef} (h : Rsn l) (h2 : 2 ≤ l.length) (hS : Cov S (l.take (splI (l.map leafI)))) (hT : Cov T (l.drop (splI (l.map leafI)))) : splI (S ++ T) = S.length := by
  obtain ⟨z0, z1, z2⟩ := cov_sides h h2 hS hT
  have pS := List.length_pos_iff.2 hS.ne
  have pT := List.length_pos_iff.2 hT.ne
  have hl : (S ++ T).length = S.length + T.length := List.length_append
  have hf : frkI (S ++ T) = frkI (l.map leafI) := by
    rw [frk_eq (by omega)]
    refine (z2 _ ?_ _ ?_).1
    · rw [List.getElem_append_left pS]; exact List.getElem_mem _
    · rw [List.getElem_append_right (by omega)]; exact List.getElem_mem _
  unfold splI
  rw [hf, List.findIdx_eq (by omega)]
  refine ⟨?_, fun j hj => ?_⟩
  · rw [List.getElem_append_right (Nat.le_refl _), z1 _ (List.getElem_mem _)]; rfl
  · rw [List.getElem_append_left hj, z0 _ (List.getElem_mem _)]; rfl
theorem cov_par {S T : List Itm} {l : List Lef} (h : Rsn l) (h2 : 2 ≤ l.length) (hS : Cov S (l.take (splI (l.map leafI)))) (hT : Cov T (l.drop (splI (l.map leafI)))) (jS : joinF S.length S = jnI (l.take (splI (l.map leafI)))) (jT : joinF T.length T = jnI (l.drop (splI (l.map leafI)))) :
    parA (S ++ T) = parA (l.map leafI) ∧ parB (S ++ T) = parB (l.map leafI) := by
  have hs := cov_split h h2 hS hT
  have hSd := h.sides h2
  have pS := List.length_pos_iff.2 hS.ne
  have pT := List.length_pos_iff.2 hT.ne
  have hl : (S ++ T).length = S.length + T.length := List.length_append
  constructor
  · unfold parA
    rw [hs, List.take_left, ← show parA (l.map leafI) = joinF ((l.map leafI).length - 1) ((l.map leafI).take (splI (l.map leafI))) from rfl, hSd.jA, ← jS]
    exact joinF_fuel _ _ _ hS.ne (by omega) (Nat.le_refl _) hS.rise hS.okI
  · unfold parB
    rw [hs, List.drop_left, ← show parB (l.map leafI) = joinF ((l.map leafI).length - 1) ((l.map leafI).drop (splI (l.map leafI))) from rfl, hSd.jB, ← jT]
    exact joinF_fuel _ _ _ hT.ne (by omega) (Nat.le_refl _) hT.rise hT.okI
theorem Cov.join {T : List Itm} {l : List Lef} (h : Cov T l) : joinF T.length T = jnI l := by
  induction h with
  | one _ _ => rfl
  | @two S T l h h2 hS hT i1 i2 =>
    obtain ⟨a, b⟩ := cov_par h h2 hS hT i1 i2
    have pS := List.length_pos_iff.2 hS.ne
    have pT := List.length_pos_iff.2 hT.ne
    have hl : (S ++ T).length = S.length + T.length := List.length_append
    rw [join_par (by omega), a, b, (h.sides h2).jn]
end Go.Proofs.Ytcmgpkibjdbonaa
set_option maxHeartbeats 4000000
namespace Go.Proofs.Ytcmgpkibjdbonaa
open Go Go.RowKit
theorem one_of {L : List Lef} (hd : L.Pairwise (fun a b => a.l ≠ b.l)) {x y : Lef} (hx : x ∈ L) (hy : y ∈ L) (h : x.l = y.l) : x = y := by
  obtain ⟨i, hi, rfl⟩ := List.getElem_of_mem hx
  obtain ⟨j, hj, rfl⟩ := List.getElem_of_mem hy
  rcases Nat.lt_trichotomy i j with hij | hij | hij
  · exact absurd h (List.pairwise_iff_getElem.1 hd i j hi hj hij)
  · subst hij; rfl
  · exact absurd h.symm (List.pairwise_iff_getElem.1 hd j i hj hi hij)
theorem fndL_in {O : List Lef} {g : List UInt8} (h : hasLf O g = true) : fndL O g ∈ O ∧ (fndL O g).l = g := by
  unfold fndL
  cases hf : O.find? (fun y => y.l == g) with
  | none =>
    obtain ⟨x, hx, hq⟩ := List.any_eq_true.1 h
    exact absurd hq (List.find?_eq_none.1 hf x hx)
  | some x => exact ⟨List.mem_of_find?_eq_some hf, by have := List.find?_some hf; simpa using this⟩
end Go.Proofs.Ytcmgpkibjdbonaa
set_option maxHeartbeats 4000000
namespace Go.Proofs.Ytcmgpkibjdbonaa
open Go Go.RowKit
theorem mk_ok {L : List Lef} {gone : List (List UInt8)} {fresh : List Lef} (hok : ∀ x ∈ L, x.ok) (hgo : ∀ x ∈ gone, x.length = 32) (hfo : ∀ x ∈ fresh, x.ok) (hl : L.length ≤ 400) (hfl : fresh.length ≤ 400) (hgl : gone.length ≤ 500) (hc : mkE L = 0)
    (h7 : gone.all (fun g => (cvT L (lbs gone fresh)).any (fun x => x.l == g)) = true) (h8 : (cvT L (lbs gone fresh)).all (fun x => gone.any (fun y => x.l == y)) = true)
    (hft : ∀ x ∈ fresh, 0 ≤ x.t ∧ x.t ≤ 1073741824) (hfd : fresh.Pairwise (fun a b => a.l ≠ b.l)) (hT : cvT L (lbs gone fresh) ≠ []) :
    (smk L gone fresh).2 = 0 ∧ (smk L gone fresh).1.old = cvT L (lbs gone fresh) ∧ (smk L gone fresh).1.new = srtL fresh := by
  have hcore := mk_core hok hgo hfo hl hfl hc h7 h8 hft hfd
  have hE : cvE L = 0 := by unfold cvE; rw [itms_srt]; exact hc
  have hsp : ¬ spD (cvI L (lbs gone fresh)) (cvT L (lbs gone fresh)) fresh := fun h => hT (List.length_eq_zero_iff.1 h.2.1)
  have hn := hcore.new
  unfold smk
  rw [if_neg (by omega), if_neg (fun h => h hE)]
  unfold smkF
  rw [if_neg (by rw [h7]; decide), if_neg (by rw [h8]; decide)]
  unfold smkT
  rw [if_neg (fun h => h hn)]
  refine ⟨rfl, ?_, ?_⟩
  · show mkOl _ _ _ _ = _
    unfold mkOl
    rw [if_neg hsp]
  · show srtL (mkNw _ _ _ _) = _
    unfold mkNw
    rw [if_neg hsp]
/-- Two leaves, in whatever order. -/
structure Two (l : List Lef) (a b : Lef) : Prop where
  perm : l.Perm [a, b]
  ne : a.l ≠ b.l
theorem Two.symm {l : List Lef} {a b : Lef} (h : Two l a b) : Two l b a := ⟨h.perm.trans (List.Perm.swap b a []), Ne.symm h.ne⟩
theorem Two.fst {l : List Lef} {a b : Lef} (h : Two l a b) : hasLf l a.l = true ∧ fndL l a.l = a := by
  have hm : a ∈ l := (List.Perm.mem_iff h.perm).2 (List.mem_cons_self ..)
  have hh : hasLf l a.l = true := List.any_eq_true.2 ⟨a, hm, beq_self_eq_true _⟩
  obtain ⟨x, y⟩ := fndL_in hh
  have hd : l.Pairwise (fun a b => a.l ≠ b.l) := (List.Perm.pairwise_iff (fun h => Ne.symm h) h.perm).2 (List.pairwise_cons.2 ⟨fun z hz => by rw [List.mem_singleton.1 hz]; exact h.ne, List.pairwise_singleton _ _⟩)
  exact ⟨hh, one_of hd x hm y⟩
theorem Two.len {l : List Lef} {a b : Lef} (h : Two l a b) : l.length = 2 := h.perm.length_eq
theorem Two.th {l : List Lef} {a b : Lef} (h : Two l a b) {s : List UInt8} (ha : a.l = frL s) (hb : b.l = stL s) : thE l [s] = true := by
  unfold thE
  rw [List.all_eq_true]
  intro x hx
  have := (List.Perm.mem_iff h.perm).1 hx
  rcases List.mem_cons.1 this with rfl | hx
  · rw [ha]; simp
  · rw [List.mem_singleton.1 hx, hb]; simp
theorem Two.sup {l : List Lef} {a b : Lef} (h : Two l a b) {s : List UInt8} (ha : a.l = frL s) (hb : b.l = stL s) (hv : b.v = markL) (ep ag : Int) : supE l s ep ag = decide (ag ≤ ep - b.t) ∧ fndL l (frL s) = a ∧ fndL l (stL s) = b := by
  obtain ⟨x1, x2⟩ := h.fst
  obtain ⟨y1, y2⟩ := h.symm.fst
  rw [ha] at x1 x2
  rw [hb] at y1 y2
  refine ⟨?_, x2, y2⟩
  unfold supE
  rw [x1, y1, y2, hv, beq_self_eq_true]; rfl
theorem twc_one (s : List UInt8) : twcL [s] = false := rfl
theorem cvT_two {L rest : List Lef} {a b : Lef} {ls : List (List UInt8)} (hok : ∀ x ∈ L, x.ok) (hls : ∀ x ∈ ls, x.length = 32) (hc : mkE L = 0) (hL : L = rest ++ [a, b]) (hr : ∀ x ∈ rest, x.l ∉ ls) (ha : a.l ∈ ls) (hb : b.l ∈ ls) : Two (cvT L ls) a b := by
  have hd := itms_ne hc
  refine ⟨?_, ?_⟩
  · rw [cvT_eq hok hls hc]
    refine ((srtL_perm L).filter _).trans ?_
    rw [hL, List.filter_append, List.filter_eq_nil_iff.2 (fun x hx h => hr x hx (List.contains_iff_mem.1 h)), List.nil_append, List.filter_eq_self.2 (fun x hx => ?_)]
    rcases List.mem_cons.1 hx with rfl | hx
    · exact List.contains_iff_mem.2 ha
    · rw [List.mem_singleton.1 hx]; exact List.contains_iff_mem.2 hb
  · rw [hL] at hd
    have := (List.pairwise_append.1 hd).2.1
    exact (List.pairwise_cons.1 this).1 b (List.mem_cons_self ..)
theorem mk_two {L rest : List Lef} {a b : Lef} {fresh : List Lef} (hok : ∀ x ∈ L, x.ok) (hfo : ∀ x ∈ fresh, x.ok) (hl : L.length ≤ 300) (hfl : fresh.length ≤ 300) (hc : mkE L = 0) (hL : L = rest ++ [a, b]) (hr : ∀ x ∈ rest, x.l ≠ a.l ∧ x.l ≠ b.l) (hf : ∀ x ∈ fresh, (x.l = a.l ∨ x.l = b.l) ∧ 0 ≤ x.t ∧ x.t ≤ 1073741824) (hfd : fresh.Pairwise (fun a b => a.l ≠ b.l)) :
    (smk L [a.l, b.l] fresh).2 = 0 ∧ Two (smk L [a.l, b.l] fresh).1.old a b ∧ (smk L [a.l, b.l] fresh).1.new = srtL fresh ∧ behL L [a.l, b.l] fresh = rest ++ fresh := by
  have ma : a ∈ L := by rw [hL]; exact List.mem_append.2 (.inr (List.mem_cons_self ..))
  have mb : b ∈ L := by rw [hL]; exact List.mem_append.2 (.inr (List.mem_cons_of_mem _ (List.mem_cons_self ..)))
  have hgo : ∀ x ∈ [a.l, b.l], x.length = 32 := fun x hx => by
    rcases List.mem_cons.1 hx with rfl | hx
    · exact (hok a ma).1
    · rw [List.mem_singleton.1 hx]; exact (hok b mb).1
  have hin : ∀ x ∈ lbs [a.l, b.l] fresh, x = a.l ∨ x = b.l := fun x hx => by
    rcases List.mem_append.1 hx with hx | hx
    · rcases List.mem_cons.1 hx with rfl | hx
      · exact .inl rfl
      · exact .inr (List.mem_singleton.1 hx)
    · obtain ⟨y, hy, rfl⟩ := List.mem_map.1 hx
      exact (hf y hy).1
  have hls : ∀ x ∈ lbs [a.l, b.l] fresh, x.length = 32 := fun x hx => by
    rcases hin x hx with rfl | rfl
    · exact (hok a ma).1
    · exact (hok b mb).1
  have hT := cvT_two (ls := lbs [a.l, b.l] fresh) hok hls hc hL (fun x hx h => by
    rcases hin _ h with h | h
    · exact (hr x hx).1 h
    · exact (hr x hx).2 h) (List.mem_append.2 (.inl (List.mem_cons_self ..))) (List.mem_append.2 (.inl (List.mem_cons_of_mem _ (List.mem_cons_self ..))))
  have h7 : [a.l, b.l].all (fun g => (cvT L (lbs [a.l, b.l] fresh)).any (fun x => x.l == g)) = true := by
    rw [List.all_eq_true]
    intro g hg
    rcases List.mem_cons.1 hg with rfl | hg
    · exact hT.fst.1
    · rw [List.mem_singleton.1 hg]; exact hT.symm.fst.1
  have h8 : (cvT L (lbs [a.l, b.l] fresh)).all (fun x => [a.l, b.l].any (fun y => x.l == y)) = true := by
    rw [List.all_eq_true]
    intro x hx
    rcases List.mem_cons.1 ((List.Perm.mem_iff hT.perm).1 hx) with rfl | hx
    · simp
    · rw [List.mem_singleton.1 hx]; simp
  obtain ⟨e1, e2, e3⟩ := mk_ok hok hgo hfo (by omega) (by omega) (show 2 ≤ 500 by decide) hc h7 h8 (fun x hx => (hf x hx).2) hfd (fun h => by have := hT.len; rw [h] at this; cases this)
  refine ⟨e1, by rw [e2]; exact hT, e3, ?_⟩
  unfold behL
  congr 1
  rw [hL, List.filter_append, List.filter_eq_self.2 (fun x hx => notIn_iff.2 (fun h => ?_)), List.filter_eq_nil_iff.2 (fun x hx h => ?_), List.append_nil]
  · rcases List.mem_cons.1 hx with rfl | hx
    · exact notIn_iff.1 h (List.mem_cons_self ..)
    · rw [List.mem_singleton.1 hx] at h
      exact notIn_iff.1 h (List.mem_cons_of_mem _ (List.mem_cons_self ..))
  · rcases List.mem_cons.1 h with h | h
    · exact (hr x hx).1 h
    · exact (hr x hx).2 (List.mem_singleton.1 h)
/-- What the statement asks of what is buried and dropped. -/
structure Labs (rest : List Lef) (f m tomb : Lef) (seed : List UInt8) (ep ag : Int) : Prop where
  e1 : (smk (rest ++ [f, m]) [f.l, m.l] [tomb, m]).2 = 0
  e2 : (smk (rest ++ [tomb, m]) [f.l, m.l] []).2 = 0
  ok1 : (smk (rest ++ [f, m]) [f.l, m.l] [tomb, m]).1.ok
  ok2 : (smk (rest ++ [tomb, m]) [f.l, m.l] []).1.ok
  st1 : stE (topS (itmsL (rest ++ [f, m]))) (topS (itmsL (rest ++ [tomb, m]))) (smk (rest ++ [f, m]) [f.l, m.l] [tomb, m]).1 = 0
  st2 : stE (topS (itmsL (rest ++ [tomb, m]))) (topS (itmsL rest)) (smk (rest ++ [tomb, m]) [f.l, m.l] []).1 = 0
  bu : buE (smk (rest ++ [f, m]) [f.l, m.l] [tomb, m]).1 [seed] ep ag = decide (ag ≤ ep - m.t)
  dr : drE (smk (rest ++ [tomb, m]) [f.l, m.l] []).1 [seed] ep ag = decide (ag ≤ ep - m.t)
  l1 : (smk (rest ++ [f, m]) [f.l, m.l] [tomb, m]).1.same.length ≤ 1000
  l2 : (smk (rest ++ [tomb, m]) [f.l, m.l] []).1.same.length ≤ 1000
  n1 : (smk (rest ++ [f, m]) [f.l, m.l] [tomb, m]).1.old.length = 2
  n2 : (smk (rest ++ [f, m]) [f.l, m.l] [tomb, m]).1.new.length = 2
  n3 : (smk (rest ++ [tomb, m]) [f.l, m.l] []).1.old.length = 2
  n4 : (smk (rest ++ [tomb, m]) [f.l, m.l] []).1.new.length = 0
  t1 : ∀ x ∈ (smk (rest ++ [f, m]) [f.l, m.l] [tomb, m]).1.old, 0 ≤ x.t ∧ x.t ≤ 1073741824
  t2 : ∀ x ∈ (smk (rest ++ [f, m]) [f.l, m.l] [tomb, m]).1.new, 0 ≤ x.t ∧ x.t ≤ 1073741824
  t3 : ∀ x ∈ (smk (rest ++ [tomb, m]) [f.l, m.l] []).1.old, 0 ≤ x.t ∧ x.t ≤ 1073741824
theorem labs {rest : List Lef} {seed value : List UInt8} {at_ stale ep ag : Int} (hro : ∀ x ∈ rest, x.ok) (hrl : rest.length ≤ 100) (hv : value.length = 32) (hne : value ≠ tombL) (ha : 0 ≤ at_ ∧ at_ ≤ 1073741824) (hs : 0 ≤ stale ∧ stale ≤ 1073741824)
    (hr : ∀ x ∈ rest, x.l ≠ frL seed ∧ x.l ≠ stL seed) (hc : mkE (rest ++ [(⟨frL seed, value, at_⟩ : Lef), ⟨stL seed, markL, stale⟩]) = 0) : Labs rest ⟨frL seed, value, at_⟩ ⟨stL seed, markL, stale⟩ ⟨frL seed, tombL, at_⟩ seed ep ag := by
  generalize hf : (⟨frL seed, value, at_⟩ : Lef) = f at *
  generalize hm : (⟨stL seed, markL, stale⟩ : Lef) = m at *
  generalize ht : (⟨frL seed, tombL, at_⟩ : Lef) = tomb at *
  have fl : f.l = frL seed := by rw [← hf]
  have ml : m.l = stL seed := by rw [← hm]
  have tl : tomb.l = frL seed := by rw [← ht]
  have mv : m.v = markL := by rw [← hm]
  have tv : tomb.v = tombL := by rw [← ht]
  have fv : f.v = value := by rw [← hf]
  have ft : f.t = at_ := by rw [← hf]
  have tt : tomb.t = at_ := by rw [← ht]
  have mt : m.t = stale := by rw [← hm]
  have of : f.ok := by rw [← hf]; exact ⟨frL_len _, hv⟩
  have om : m.ok := by rw [← hm]; exact ⟨stL_len _, markL_len⟩
  have ot : tomb.ok := by rw [← ht]; exact ⟨frL_len _, tombL_len⟩
  have oA : ∀ x ∈ rest ++ [f, m], x.ok := fun x hx => by
    rcases List.mem_append.1 hx with hx | hx
    · exact hro x hx
    · rcases List.mem_cons.1 hx with rfl | hx
      · exact of
      · rw [List.mem_singleton.1 hx]; exact om
  have oB : ∀ x ∈ rest ++ [tomb, m], x.ok := fun x hx => by
    rcases List.mem_append.1 hx with hx | hx
    · exact hro x hx
    · rcases List.mem_cons.1 hx with rfl | hx
      · exact ot
      · rw [List.mem_singleton.1 hx]; exact om
  have oT : ∀ x ∈ [tomb, m], x.ok := fun x hx => oB x (List.mem_append.2 (.inr hx))
  have hlA : (rest ++ [f, m]).length ≤ 102 := by rw [List.length_append]; show rest.length + 2 ≤ 102; omega
  have hlB : (rest ++ [tomb, m]).length ≤ 102 := by rw [List.length_append]; show rest.length + 2 ≤ 102; omega
  have hfm : f.l ≠ m.l := by
    have := (List.pairwise_append.1 (itms_ne hc)).2.1
    exact (List.pairwise_cons.1 this).1 m (List.mem_cons_self ..)
  have htm : tomb.l ≠ m.l := by rw [tl, ← fl]; exact hfm
  have htd : [tomb, m].Pairwise (fun a b => a.l ≠ b.l) := List.pairwise_cons.2 ⟨fun z hz => by rw [List.mem_singleton.1 hz]; exact htm, List.pairwise_singleton _ _⟩
  have hb1 : ∀ x ∈ [tomb, m], 0 ≤ x.t ∧ x.t ≤ 1073741824 := fun x hx => by
    rcases List.mem_cons.1 hx with rfl | hx
    · rw [tt]; exact ha
    · rw [List.mem_singleton.1 hx, mt]; exact hs
  have hb2 : ∀ x ∈ [f, m], 0 ≤ x.t ∧ x.t ≤ 1073741824 := fun x hx => by
    rcases List.mem_cons.1 hx with rfl | hx
    · rw [ft]; exact ha
    · rw [List.mem_singleton.1 hx, mt]; exact hs
  obtain ⟨a1, a2, a3, a4⟩ := mk_two (L := rest ++ [f, m]) (rest := rest) (a := f) (b := m) (fresh := [tomb, m]) oA oT (by omega) (show 2 ≤ 300 by decide) hc rfl (fun x hx => by rw [fl, ml]; exact hr x hx) (fun x hx => ⟨by
    rcases List.mem_cons.1 hx with rfl | hx
    · exact .inl (by rw [tl, fl])
    · exact .inr (by rw [List.mem_singleton.1 hx]), hb1 x hx⟩) htd
  have hgo : ∀ x ∈ [f.l, m.l], x.length = 32 := fun x hx => by
    rcases List.mem_cons.1 hx with rfl | hx
    · exact of.1
    · rw [List.mem_singleton.1 hx]; exact om.1
  obtain ⟨_, S1, O1, N1, s1, L1⟩ := mk_leads oA hgo oT (by omega) (show 2 ≤ 400 by decide) a1
  have hcB : mkE (rest ++ [tomb, m]) = 0 := by
    have := L1.beh
    rw [a4] at this
    exact this
  have htf : tomb.l = f.l := by rw [tl, fl]
  obtain ⟨b1, b2, b3, b4⟩ := mk_two (L := rest ++ [tomb, m]) (rest := rest) (a := tomb) (b := m) (fresh := []) oB (fun x hx => by cases hx) (by omega) (Nat.zero_le _) hcB rfl (fun x hx => by rw [tl, ml]; exact hr x hx) (fun x hx => by cases hx) .nil
  rw [htf] at b1 b2 b3 b4
  obtain ⟨_, S2, O2, N2, s2, L2⟩ := mk_leads oB hgo (fresh := []) (fun x hx => by cases hx) (by omega) (Nat.zero_le _) b1
  have k1 := L1.taken (by omega) (show 2 ≤ 400 by decide)
  have k2 := L2.taken (by omega) (Nat.zero_le _)
  rw [a4] at k1
  rw [b4, List.append_nil] at k2
  have hbt : Two (srtL [tomb, m]) tomb m := ⟨srtL_perm _, htm⟩
  obtain ⟨x1, x2, x3⟩ := a2.sup (s := seed) fl ml mv ep ag
  obtain ⟨y1, y2, y3⟩ := hbt.sup (s := seed) tl ml mv ep ag
  obtain ⟨z1, z2, z3⟩ := b2.sup (s := seed) tl ml mv ep ag
  have g1 := L1.lenS
  have g2 := L2.lenS
  have hn0 : srtL ([] : List Lef) = [] := rfl
  refine ⟨a1, b1, ?_, ?_, by rw [s1]; exact k1, by rw [s2]; exact k2, ?_, ?_, ?_, ?_, a2.len, by rw [a3]; exact hbt.len, b2.len, by rw [b3]; rfl, fun x hx => hb2 x ((List.Perm.mem_iff a2.perm).1 hx), fun x hx => ?_, fun x hx => hb1 x ((List.Perm.mem_iff b2.perm).1 hx)⟩
  · rw [s1]; exact ⟨L1.okS, fun x hx => oA x (L1.inO x hx), L1.okN⟩
  · rw [s2]; exact ⟨L2.okS, fun x hx => oB x (L2.inO x hx), L2.okN⟩
  · unfold buE
    rw [if_neg ?_]
    · rw [List.all_cons, List.all_nil, Bool.and_true]
      unfold buO
      rw [a3, x1, y1, x2, x3, y2, y3, tv, fv, beq_self_eq_true, beq_eq_false_iff_ne.2 hne, ft, tt, eqLf_self]
      simp
    · rw [a2.len, a3, hbt.len, twc_one, a2.th fl ml, hbt.th tl ml]
      simp
  · unfold drE
    rw [if_neg ?_]
    · rw [List.all_cons, List.all_nil, Bool.and_true, z1, z2, tv, beq_self_eq_true, Bool.and_true]
    · rw [b2.len, b3, hn0, twc_one, b2.th tl ml]
      simp
  · rw [s1]; show S1.length ≤ 1000; omega
  · rw [s2]; show S2.length ≤ 1000; omega
  · rw [a3] at hx
    exact hb1 x ((List.Perm.mem_iff (srtL_perm _)).1 hx)
end Go.Proofs.Ytcmgpkibjdbonaa
