/- What step.hold finds of told parts whose sum is the tree's: unlike bytes of one sum, or the parts mirror the tree. No program in sight. -/
import Derived.Test.YtcmgpkibjdbonaaHO4Z
set_option maxHeartbeats 4000000
namespace Go.Proofs.Ytcmgpkibjdbonaa
open Go Go.RowKit
def sumT (T : List Itm) : List UInt8 := if T = [] then shaN [18] else (joinF T.length T).s
def sumR (R : List Lef) : List UInt8 := if R = [] then shaN [18] else (jnI R).s
/-- Parts that are a tree's own ones, as far as they are told. -/
inductive Mir (O : List Lef) : List Itm → List Lef → Prop
  | nil : Mir O [] []
  | un (p : Itm) (R : List Lef) (h : unT [p] O = true) : Mir O [p] R
  | one (x : Lef) (h : hasLf O x.l = true) (h2 : fndL O x.l = x) : Mir O [leafI x] [x]
  | two {T : List Itm} {R : List Lef} (hT : 2 ≤ T.length) (hR : 2 ≤ R.length) (hA : parA T = parA (R.map leafI)) (hB : parB T = parB (R.map leafI)) (h1 : Mir O (T.take (splI T)) (R.take (splI (R.map leafI)))) (h2 : Mir O (T.drop (splI T)) (R.drop (splI (R.map leafI)))) : Mir O T R
/-- Unlike bytes of one sum. -/
def Clh (q : List UInt8 × List UInt8 × Bool) : Prop := q.2.2 = true ∧ q.1 ≠ q.2.1 ∧ shaN q.1 = shaN q.2.1
structure Tgd (T : List Itm) (O : List Lef) : Prop where
  rise : RiseI T
  ok : ∀ x ∈ T, x.ok
  good : ∀ x ∈ T, goodI x = true
  own : ∀ p ∈ T, hasLf O p.l = true → p = leafI (fndL O p.l)
theorem Tgd.take {T : List Itm} {O : List Lef} (h : Tgd T O) (i : Nat) : Tgd (T.take i) O := ⟨h.rise.sublist (List.take_sublist ..), fun x hx => h.ok x (List.mem_of_mem_take hx), fun x hx => h.good x (List.mem_of_mem_take hx), fun x hx => h.own x (List.mem_of_mem_take hx)⟩
theorem Tgd.drop {T : List Itm} {O : List Lef} (h : Tgd T O) (i : Nat) : Tgd (T.drop i) O := ⟨h.rise.sublist (List.drop_sublist ..), fun x hx => h.ok x (List.mem_of_mem_drop hx), fun x hx => h.good x (List.mem_of_mem_drop hx), fun x hx => h.own x (List.mem_of_mem_drop hx)⟩
theorem Tgd.jn {T : List Itm} {O : List Lef} (h : Tgd T O) (hn : T ≠ []) : goodI (joinF T.length T) = true := by
  have h0 := List.length_pos_iff.2 hn
  have hg := (join_B h0 h.rise h.ok (fun x hx => good_n (h.good x hx))).good h.good
  have ht := joinF_t T.length T hn (Nat.le_refl _) h.rise h.ok (fun x hx => good_t (h.good x hx))
  unfold goodI
  rw [show (⟨(joinF T.length T).n, (joinF T.length T).l⟩ : Pfx) = (joinF T.length T).p from rfl, hg, decide_eq_true ht.1, decide_eq_true ht.2]; rfl
/-- The two sides of parts. -/
theorem par_jn {T : List Itm} (hr : RiseI T) (hok : ∀ x ∈ T, x.ok) (h2 : 2 ≤ T.length) : T.take (splI T) ≠ [] ∧ T.drop (splI T) ≠ [] ∧ parA T = joinF (T.take (splI T)).length (T.take (splI T)) ∧ parB T = joinF (T.drop (splI T)).length (T.drop (splI T)) ∧ (T.take (splI T)).length < T.length ∧ (T.drop (splI T)).length < T.length := by
  obtain ⟨_, s1, s2, _⟩ := spl_ok hr hok h2
  have n1 := take_ne s1 s2
  have n2 := drop_ne s2
  have l1 : (T.take (splI T)).length = splI T := by rw [List.length_take]; omega
  have l2 : (T.drop (splI T)).length = T.length - splI T := List.length_drop
  refine ⟨n1, n2, ?_, ?_, by omega, by omega⟩
  · exact joinF_fuel _ _ _ n1 (by omega) (Nat.le_refl _) (hr.sublist (List.take_sublist ..)) (fun x hx => hok x (List.mem_of_mem_take hx))
  · exact joinF_fuel _ _ _ n2 (by omega) (Nat.le_refl _) (hr.sublist (List.drop_sublist ..)) (fun x hx => hok x (List.mem_of_mem_drop hx))
theorem un_false {p : Itm} {O : List Lef} (h : unT [p] O = false) : hasLf O p.l = true ∧ ¬ p.n < 256 := by
  have h : (!(hasLf O p.l) || decide (p.n < 256)) = false := h
  obtain ⟨q1, q2⟩ := Bool.or_eq_false_iff.1 h
  exact ⟨by simpa using q1, of_decide_eq_false q2⟩
theorem td_sum {T : List Itm} {O : List Lef} (h : Tgd T O) (hu : unT T O = false) : shaN (tdT T O) = sumT T := by
  unfold tdT sumT
  by_cases h0 : T = []
  · subst h0; rfl
  have hp := List.length_pos_iff.2 h0
  rw [if_neg (by omega), if_neg h0]
  by_cases h1 : T.length = 1
  · obtain ⟨p, rfl⟩ := List.length_eq_one_iff.1 h1
    have ho := h.own p (List.mem_cons_self ..) (un_false hu).1
    have hs : p.s = shaN (leafB (fndL O p.l)) := congrArg Itm.s ho
    exact hs.symm
  · rw [if_neg h1, join_par (by omega)]; rfl
theorem rl_sum {R : List Lef} (h : Rsn R) : shaN (rlT R) = sumR R := by
  unfold sumR
  by_cases h0 : R = []
  · subst h0; rfl
  rw [if_neg h0]
  obtain ⟨a, b, c⟩ := h.node h0
  rw [← b, ← c, nod_sum a]
theorem rl_nil {R : List Lef} (h : rlT R = [18]) : R = [] := by
  unfold rlT at h
  by_cases h0 : R = []
  · exact h0
  rw [if_neg h0] at h
  split at h
  · rw [leafB_eq] at h; exact absurd (List.cons.inj h).1 (by decide)
  · rw [innB_eq] at h; exact absurd (List.cons.inj h).1 (by decide)
theorem rl_leaf {R : List Lef} {x : Lef} (h : rlT R = leafB x) : ∃ y, R = [y] ∧ leafB y = leafB x := by
  unfold rlT at h
  by_cases h0 : R = []
  · rw [if_pos h0, leafB_eq] at h; exact absurd (List.cons.inj h).1 (by decide)
  rw [if_neg h0] at h
  by_cases h1 : R.length = 1
  · rw [if_pos h1] at h
    obtain ⟨y, rfl⟩ := List.length_eq_one_iff.1 h1
    exact ⟨y, rfl, h⟩
  · rw [if_neg h1, innB_eq, leafB_eq] at h; exact absurd (List.cons.inj h).1 (by decide)
theorem chkLf_of {x : Lef} (h : goodI (leafI x) = true) : chkLf x = 0 := by
  have := good_t h
  have e : (leafI x).t = x.t := rfl
  unfold chkLf
  exact if_neg (by omega)
theorem hold_sure {O : List Lef} (okO : ∀ x ∈ O, x.ok) : ∀ (k : Nat) (T : List Itm) (R : List Lef), T.length < k → Tgd T O → Rsn R → sumT T = sumR R → Clh (hld k T O R) ∨ (hld k T O R = ([], [], false) ∧ Mir O T R)
  | 0, _, _, hk, _, _, _ => absurd hk (Nat.not_lt_zero _)
  | k + 1, T, R, hk, h, hR, hs => by
    unfold hld
    by_cases hu : unT T O = true
    · rw [if_pos hu]
      have h1 : T.length = 1 := by
        unfold unT at hu
        exact beq_iff_eq.1 (Bool.and_eq_true_iff.1 hu).1
      obtain ⟨p, rfl⟩ := List.length_eq_one_iff.1 h1
      exact .inr ⟨rfl, .un p R hu⟩
    rw [if_neg hu]
    have hu : unT T O = false := by revert hu; cases unT T O <;> simp
    have e1 := td_sum h hu
    have e2 := rl_sum hR
    by_cases hab : tdT T O = rlT R
    · rw [if_pos hab]
      by_cases h2 : T.length < 2
      · rw [if_pos h2]
        refine .inr ⟨rfl, ?_⟩
        by_cases h0 : T = []
        · subst h0
          have hr : R = [] := rl_nil hab.symm
          subst hr
          exact .nil
        · obtain ⟨p, rfl⟩ : ∃ p, T = [p] := List.length_eq_one_iff.1 (by have := List.length_pos_iff.2 h0; omega)
          obtain ⟨q1, q2⟩ := un_false hu
          have ho := h.own p (List.mem_cons_self ..) q1
          have hab : leafB (fndL O p.l) = rlT R := hab
          have hx := fndL_in q1
          have hg := h.good p (List.mem_cons_self ..)
          obtain ⟨y, rfl, hy⟩ := rl_leaf hab.symm
          have hyx : y = fndL O p.l := leafB_inj (hR.ok y (List.mem_cons_self ..)) (okO _ hx.1) (chkLf_of (hR.good y (List.mem_cons_self ..))) (chkLf_of (by rw [← ho]; exact hg)) hy
          subst hyx
          generalize hxe : fndL O p.l = x at *
          subst ho
          exact .one x q1 hxe
      rw [if_neg h2]
      have hR2 := td_two (by omega) hab
      have hSd := hR.sides hR2
      obtain ⟨n1, n2, j1, j2, l1, l2⟩ := par_jn h.rise h.ok (by omega)
      obtain ⟨pa, pb⟩ := par_ok h.rise h.ok (by omega)
      have gA := (h.take (splI T)).jn n1
      have gB := (h.drop (splI T)).jn n2
      rw [← j1] at gA
      rw [← j2] at gB
      have hE : innB (parA T) (parB T) = innB (parA (R.map leafI)) (parB (R.map leafI)) := by
        unfold tdT rlT at hab
        rwa [if_neg (by omega), if_neg (by omega), if_neg (fun e => by rw [e] at hR2; simp at hR2), if_neg (by omega)] at hab
      obtain ⟨eA, eB⟩ := innB_inj pa pb hSd.oA hSd.oB gA gB (chkN_good hSd.chk).1 (chkN_good hSd.chk).2.1 hE
      have hsp : spR R = splI (R.map leafI) := by unfold spR; rw [if_pos hR2]
      rw [hsp]
      have s0 := hSd.s0
      have sl := hSd.sl
      have tk : (R.take (splI (R.map leafI))).length = splI (R.map leafI) := by rw [List.length_take]; omega
      have dr : (R.drop (splI (R.map leafI))).length = R.length - splI (R.map leafI) := List.length_drop
      have m1 : R.take (splI (R.map leafI)) ≠ [] := fun e => by rw [e] at tk; simp at tk; omega
      have m2 : R.drop (splI (R.map leafI)) ≠ [] := fun e => by rw [e] at dr; simp at dr; omega
      have i1 := hold_sure okO k (T.take (splI T)) (R.take (splI (R.map leafI))) (by omega) (h.take _) (hR.take _) (by unfold sumT sumR; rw [if_neg n1, if_neg m1, ← j1, eA, hSd.jA])
      have i2 := hold_sure okO k (T.drop (splI T)) (R.drop (splI (R.map leafI))) (by omega) (h.drop _) (hR.drop _) (by unfold sumT sumR; rw [if_neg n2, if_neg m2, ← j2, eB, hSd.jB])
      rcases i1 with c | ⟨c, w1⟩
      · rw [if_neg c.2.1]; exact .inl c
      · rw [if_pos (by rw [c])]
        rcases i2 with d | ⟨d, w2⟩
        · exact .inl d
        · exact .inr ⟨d, .two (by omega) hR2 eA eB w1 w2⟩
    · rw [if_neg hab]
      have hss : shaN (tdT T O) = shaN (rlT R) := by rw [e1, e2, hs]
      refine .inl ⟨?_, hab, hss⟩
      show clsh _ _ = true
      rw [clsh_ne hab, hss, beq_self_eq_true]
theorem Mir.cov {O : List Lef} {T : List Itm} {R : List Lef} (h : Mir O T R) : Tgd T O → Rsn R → R ≠ [] → joinF T.length T = jnI R → Cov T R := by
  induction h with
  | nil => intro _ _ hn; exact absurd rfl hn
  | un p R hu =>
    intro _ hR hn hj
    have hj : p = jnI R := hj
    rw [hj]; exact .one hR hn
  | one x _ _ => intro _ hR hn _; exact .one hR hn
  | @two T R hT hR2 hA hB h1 h2 i1 i2 =>
    intro h hR hn hj
    have hSd := hR.sides hR2
    obtain ⟨n1, n2, j1, j2, _, _⟩ := par_jn h.rise h.ok hT
    have s0 := hSd.s0
    have sl := hSd.sl
    have tk : (R.take (splI (R.map leafI))).length = splI (R.map leafI) := by rw [List.length_take]; omega
    have dr : (R.drop (splI (R.map leafI))).length = R.length - splI (R.map leafI) := List.length_drop
    have c1 := i1 (h.take _) (hR.take _) (fun e => by rw [e] at tk; simp at tk; omega) (by rw [← j1, hA, hSd.jA])
    have c2 := i2 (h.drop _) (hR.drop _) (fun e => by rw [e] at dr; simp at dr; omega) (by rw [← j2, hB, hSd.jB])
    have := Cov.two hR hR2 c1 c2
    rwa [List.take_append_drop] at this
theorem Mir.leaf {O : List Lef} {T : List Itm} {R : List Lef} (h : Mir O T R) : ∀ p ∈ T, hasLf O p.l = true → ¬ p.n < 256 → fndL O p.l ∈ R := by
  induction h with
  | nil => intro p hp; cases hp
  | un q R hu =>
    intro p hp h1 h2
    rw [List.mem_singleton.1 hp] at h1 h2
    have hu : (!(hasLf O q.l) || decide (q.n < 256)) = true := hu
    rw [h1, decide_eq_false h2] at hu; cases hu
  | one x _ h2 =>
    intro p hp _ _
    rw [List.mem_singleton.1 hp]
    show fndL O x.l ∈ [x]
    rw [h2]; exact List.mem_cons_self ..
  | @two T R hT hR2 hA hB h1 h2 i1 i2 =>
    intro p hp k1 k2
    rw [← List.take_append_drop (splI T) T] at hp
    rcases List.mem_append.1 hp with hp | hp
    · exact List.mem_of_mem_take (i1 p hp k1 k2)
    · exact List.mem_of_mem_drop (i2 p hp k1 k2)
theorem badI_anti {a x : Itm} (ga : goodI a = true) (gx : goodI x = true) (h : ¬ badI a x = true) : Anti a x ∧ cmpS a.l x.l < 0 := by
  have pa : goodP a.p = true := by unfold goodI at ga; exact (Bool.and_eq_true_iff.1 ga).1
  have px : goodP x.p = true := by unfold goodI at gx; exact (Bool.and_eq_true_iff.1 gx).1
  unfold badI overP hasP at h
  rw [pa, px] at h
  simp only [Bool.true_and, Bool.or_eq_true, Bool.and_eq_true, decide_eq_true_eq, not_or, not_and] at h
  obtain ⟨h1, h2, h3⟩ := h
  have e1 : a.p.n = a.n := rfl
  have e2 : x.p.n = x.n := rfl
  have e3 : a.p.l = a.l := rfl
  have e4 : x.p.l = x.l := rfl
  rw [e1, e2, e3, e4] at h1 h2
  rw [com_comm x.l a.l] at h2
  refine ⟨?_, by omega⟩
  unfold Anti
  rcases Int.le_total a.n x.n with hh | hh
  · have := h1 hh; omega
  · have := h2 hh; omega
theorem chkL_anti : ∀ (r : List Itm) (a : Itm), goodI a = true → a.ok → (∀ x ∈ r, x.ok) → chkL (some a) r = 0 → (a :: r).Pairwise Anti
  | [], a, _, _, _, _ => List.pairwise_singleton _ _
  | x :: r, a, ga, oa, hok, h => by
    have hr := (chkL_rise _ _ h).2.1
    have h : (if goodI x = true then (if badI a x = true then 3 else chkL (some x) r) else 1) = 0 := h
    by_cases gx : goodI x = true
    · rw [if_pos gx] at h
      by_cases hb : badI a x = true
      · rw [if_pos hb] at h; cases h
      rw [if_neg hb] at h
      obtain ⟨h1, h2⟩ := badI_anti ga gx hb
      have ox := hok x (List.mem_cons_self ..)
      have ih := chkL_anti r x gx ox (fun y hy => hok y (List.mem_cons_of_mem _ hy)) h
      refine List.pairwise_cons.2 ⟨fun y hy => ?_, ih⟩
      rcases List.mem_cons.1 hy with rfl | hy
      · exact h1
      have oy := hok y (List.mem_cons_of_mem _ hy)
      have hxy : cmpS x.l y.l < 0 := (List.pairwise_cons.1 hr).1 y hy
      have h3 := (List.pairwise_cons.1 ih).1 y hy
      have hbt := between oa.1 ox.1 oy.1 h2 hxy
      have hcb := (com_bits a.l y.l (by rw [oa.1, oy.1])).2.1
      have hc := comL_256 (b := y.l) oa.1
      have c1 : comL a.l y.l ≤ comL a.l x.l := (com_ge oa.1 ox.1 hc).2 (fun i hi => (hbt i hi).symm)
      have c2 : comL a.l y.l ≤ comL x.l y.l := (com_ge ox.1 oy.1 hc).2 (fun i hi => (hbt i hi).trans (hcb i hi))
      unfold Anti at h1 h3 ⊢
      omega
    · rw [if_neg gx] at h; cases h
theorem chk_is_anti {l : List Itm} (hok : ∀ x ∈ l, x.ok) (h : chkI l = 0) : l.Pairwise Anti := by
  unfold chkI at h
  split at h
  · cases h
  cases l with
  | nil => exact .nil
  | cons x r =>
    have h : (if goodI x = true then chkL (some x) r else 1) = 0 := h
    by_cases hg : goodI x = true
    · rw [if_pos hg] at h
      exact chkL_anti r x hg (hok x (List.mem_cons_self ..)) (fun y hy => hok y (List.mem_cons_of_mem _ hy)) h
    · rw [if_neg hg] at h; cases h
theorem one_ofI {T : List Itm} (hr : RiseI T) {p q : Itm} (hp : p ∈ T) (hq : q ∈ T) (h : p.l = q.l) : p = q := by
  have hd := rise_neI hr
  obtain ⟨i, hi, rfl⟩ := List.getElem_of_mem hp
  obtain ⟨j, hj, rfl⟩ := List.getElem_of_mem hq
  rcases Nat.lt_trichotomy i j with hij | hij | hij
  · exact absurd h (List.pairwise_iff_getElem.1 hd i j hi hj hij)
  · subst hij; rfl
  · exact absurd h.symm (List.pairwise_iff_getElem.1 hd j i hj hi hij)
end Go.Proofs.Ytcmgpkibjdbonaa
set_option maxHeartbeats 4000000
namespace Go.Proofs.Ytcmgpkibjdbonaa
open Go Go.RowKit
structure BlkC (l : List Lef) (q : Itm × List Lef) : Prop where
  ne : q.2 ≠ []
  rsn : Rsn q.2
  eq : q.1 = jnI q.2
  sub : ∀ y ∈ q.2, y ∈ l
theorem BlkC.join {l : List Lef} {q : Itm × List Lef} (h : BlkC l q) : JoinB q.1 (q.2.map leafI) := by
  rw [h.eq]; exact (h.rsn.join (List.length_pos_iff.2 h.ne)).1
theorem BlkC.up {l l' : List Lef} {q : Itm × List Lef} (h : BlkC l q) (hs : ∀ x ∈ l, x ∈ l') : BlkC l' q := ⟨h.ne, h.rsn, h.eq, fun y hy => hs y (h.sub y hy)⟩
theorem BlkC.deep {l : List Lef} {q : Itm × List Lef} (h : BlkC l q) {n : Nat} (hn : n < 256) (hb : ∀ x ∈ l, ∀ y ∈ l, ∀ i, i ≤ n → bitL x.l i = bitL y.l i) : ((n : Nat) : Int) < q.1.n := by
  rw [h.eq]
  exact (h.rsn.deep (List.length_pos_iff.2 h.ne) hn (fun x hx y hy i hi => hb x (h.sub x hx) y (h.sub y hy) i hi)).1
/-- The leaves below each part. -/
theorem cov_blocks {T : List Itm} {l : List Lef} (h : Cov T l) : ∃ r : List (Itm × List Lef), r.map (·.1) = T ∧ r.flatMap (·.2) = l ∧ (∀ q ∈ r, BlkC l q) ∧ r.Pairwise SepB := by
  induction h with
  | @one l h hn => exact ⟨[(jnI l, l)], rfl, by rw [List.flatMap_cons, List.flatMap_nil, List.append_nil], fun q hq => by rw [List.mem_singleton.1 hq]; exact ⟨hn, h, rfl, fun y hy => hy⟩, List.pairwise_singleton _ _⟩
  | @two S T l h h2 hS hT i1 i2 =>
    obtain ⟨r, a1, a2, a3, a4⟩ := i1
    obtain ⟨t, b1, b2, b3, b4⟩ := i2
    obtain ⟨z0, z1, z2⟩ := cov_sides h h2 hS hT
    have hSd := h.sides h2
    have hf := hSd.f256
    have tm : ∀ x ∈ l.take (splI (l.map leafI)), x ∈ l := fun x hx => List.mem_of_mem_take hx
    have dm : ∀ x ∈ l.drop (splI (l.map leafI)), x ∈ l := fun x hx => List.mem_of_mem_drop hx
    have dS : ∀ q ∈ r, ((frkI (l.map leafI) : Nat) : Int) < q.1.n := fun q hq => (a3 q hq).deep hf (fun x hx y hy i hi => by
      rcases Nat.lt_or_eq_of_le hi with hi | rfl
      · exact h.bits x (tm x hx) y (tm y hy) i hi
      · rw [hSd.lo x hx, hSd.lo y hy])
    have dT : ∀ q ∈ t, ((frkI (l.map leafI) : Nat) : Int) < q.1.n := fun q hq => (b3 q hq).deep hf (fun x hx y hy i hi => by
      rcases Nat.lt_or_eq_of_le hi with hi | rfl
      · exact h.bits x (dm x hx) y (dm y hy) i hi
      · rw [hSd.hi x hx, hSd.hi y hy])
    refine ⟨r ++ t, by rw [List.map_append, a1, b1], by rw [List.flatMap_append, a2, b2, List.take_append_drop], fun q hq => ?_, List.pairwise_append.2 ⟨a4, b4, fun a ha b hb => ?_⟩⟩
    · rcases List.mem_append.1 hq with hq | hq
      · exact (a3 q hq).up tm
      · exact (b3 q hq).up dm
    · have ma : a.1 ∈ S := by rw [← a1]; exact List.mem_map_of_mem ha
      have mb : b.1 ∈ T := by rw [← b1]; exact List.mem_map_of_mem hb
      obtain ⟨c1, c2⟩ := z2 a.1 ma b.1 mb
      have ea := dS a ha
      have eb := dT b hb
      refine ⟨by rw [c1]; exact ea, by rw [c1]; exact eb, fun y hy => ?_, fun y hy => ?_, c2⟩
      · have my := (b3 b hb).sub y hy
        have := com_le_ne (hS.okI a.1 ma).1 (h.ok y (dm y my)).1 (n := frkI (l.map leafI)) (by rw [z0 a.1 ma, hSd.hi y my]; decide)
        omega
      · have my := (a3 a ha).sub y hy
        have := com_le_ne (hT.okI b.1 mb).1 (h.ok y (tm y my)).1 (n := frkI (l.map leafI)) (by rw [z1 b.1 mb, hSd.lo y my]; decide)
        omega
theorem flat_filt {r : List (Itm × List Lef)} {p : Itm × List Lef → Bool} {f : Lef → Bool} (h1 : ∀ q ∈ r, p q = true → q.2.filter f = q.2) (h2 : ∀ q ∈ r, p q = false → q.2.filter f = []) : (r.flatMap (·.2)).filter f = (r.filter p).flatMap (·.2) := by
  induction r with
  | nil => rfl
  | cons q r ih =>
    have ih := ih (fun x hx => h1 x (List.mem_cons_of_mem _ hx)) (fun x hx => h2 x (List.mem_cons_of_mem _ hx))
    rw [List.flatMap_cons, List.filter_append, ih]
    cases hp : p q with
    | true => rw [List.filter_cons_of_pos hp, List.flatMap_cons, h1 q (List.mem_cons_self ..) hp]
    | false => rw [List.filter_cons_of_neg (by rw [hp]; decide), h2 q (List.mem_cons_self ..) hp, List.nil_append]
theorem cov_new {R : List Lef} {same : List Itm} {old new : List Lef} {T : List Itm} (h : Cov T R) (hT : T.Perm (same ++ old.map leafI)) (hri : RiseI T) (oks : ∀ x ∈ same, x.ok) (okn : ∀ x ∈ new, x.ok) (hR : R.length ≤ 1000) (hn : new.length ≤ 500)
    (hc : chkI (srtI (same ++ new.map leafI)) = 0) :
    chkI (srtI ((R.filter (notIn (old.map Lef.l)) ++ new).map leafI)) = 0 ∧ topS (srtI ((R.filter (notIn (old.map Lef.l)) ++ new).map leafI)) = topS (srtI (same ++ new.map leafI)) := by
  obtain ⟨hRs, hne⟩ := h.rsn
  obtain ⟨r, r1, r2, r3, r4⟩ := cov_blocks h
  obtain ⟨f1, f2⟩ := fresh_ok hc
  have okc : ∀ x ∈ same ++ new.map leafI, x.ok := fun x hx => by
    rcases List.mem_append.1 hx with hx | hx
    · exact oks x hx
    · exact hok_map okn x hx
  have hA : (same ++ new.map leafI).Pairwise Anti := (List.Perm.pairwise_iff (fun h => Anti.symm h) (srtI_perm _)).1 (chk_is_anti (fun x hx => okc x (srtI_mem.1 hx)) hc)
  obtain ⟨hA1, hA2, hA3⟩ := List.pairwise_append.1 hA
  have hdT := rise_neI hri
  have hdU := (List.Perm.pairwise_iff (fun h => Ne.symm h) hT).1 hdT
  obtain ⟨u1, u2, u3⟩ := List.pairwise_append.1 hdU
  generalize hG : old.map Lef.l = G
  have inG : ∀ {g : List UInt8}, g ∈ G → ∃ x ∈ old, x.l = g := fun {g} hg => by
    rw [← hG] at hg
    obtain ⟨x, hx, he⟩ := List.mem_map.1 hg
    exact ⟨x, hx, he⟩
  have memT : ∀ x ∈ old, leafI x ∈ T := fun x hx => (List.Perm.mem_iff hT).2 (List.mem_append.2 (.inr (List.mem_map_of_mem hx)))
  -- blocks that stay
  have hout : ∀ q ∈ r, (!(G.contains q.1.l)) = true → ∀ y ∈ q.2, y.l ∉ G := fun q hq hp y hy hg => by
    obtain ⟨x, hx, he⟩ := inG hg
    have hm := memT x hx
    rw [← r1] at hm
    obtain ⟨q', hq', e⟩ := List.mem_map.1 hm
    have hqG : G.contains q'.1.l = true := by
      rw [e]; exact List.contains_iff_mem.2 (by rw [← hG]; exact List.mem_map_of_mem hx)
    have hne : q' ≠ q := fun h => by subst h; rw [hqG] at hp; cases hp
    have hsep : ((comL q'.1.l y.l : Nat) : Int) < q'.1.n := by
      obtain ⟨i, hi, rfl⟩ := List.getElem_of_mem hq
      obtain ⟨j, hj, rfl⟩ := List.getElem_of_mem hq'
      rcases Nat.lt_trichotomy i j with hij | hij | hij
      · exact (List.pairwise_iff_getElem.1 r4 i j hi hj hij).2.2.2.1 y hy
      · subst hij; exact absurd rfl hne
      · exact (List.pairwise_iff_getElem.1 r4 j i hj hi hij).2.2.1 y hy
    have hl : q'.1.l = y.l := by rw [e, ← he]; rfl
    rw [hl, com_self, (hRs.ok y ((r3 q hq).sub y hy)).1, e] at hsep
    exact absurd hsep (show ¬ ((8 * 32 : Nat) : Int) < 256 by decide)
  have hin : ∀ q ∈ r, (!(G.contains q.1.l)) = false → ∀ y ∈ q.2, y.l ∈ G := fun q hq hp y hy => by
    have hg : q.1.l ∈ G := by simpa using hp
    obtain ⟨x, hx, he⟩ := inG hg
    have hm : q.1 ∈ T := by rw [← r1]; exact List.mem_map_of_mem hq
    have e : q.1 = leafI x := one_ofI hri hm (memT x hx) he.symm
    have e2 : jnI q.2 = leafI x := by rw [← (r3 q hq).eq]; exact e
    obtain ⟨z, hz⟩ := jnI_256 (r3 q hq).rsn (r3 q hq).ne (by rw [e2]; exact (show ¬ (256 : Int) < 256 by decide))
    have hzy : y = z := by rw [hz] at hy; exact List.mem_singleton.1 hy
    subst hzy
    have : y.l = q.1.l := by rw [(r3 q hq).eq, hz]; rfl
    rw [this]; exact hg
  have hfl : R.filter (notIn G) = (r.filter (fun q => !(G.contains q.1.l))).flatMap (·.2) := by
    rw [← r2]
    exact flat_filt (fun q hq hp => List.filter_eq_self.2 (fun y hy => notIn_iff.2 (hout q hq hp y hy))) (fun q hq hp => List.filter_eq_nil_iff.2 (fun y hy hh => notIn_iff.1 hh (hin q hq hp y hy)))
  have hsm : ((r.filter (fun q => !(G.contains q.1.l))).map (·.1)).Perm same := by
    have e : (r.filter (fun q => !(G.contains q.1.l))).map (·.1) = T.filter (fun p => !(G.contains p.l)) := by rw [← r1, List.filter_map]; rfl
    rw [e]
    refine (hT.filter _).trans ?_
    rw [List.filter_append, List.filter_eq_self.2 (fun p hp => ?_), List.filter_eq_nil_iff.2 (fun p hp => ?_), List.append_nil]
    · obtain ⟨x, hx, rfl⟩ := List.mem_map.1 hp
      have : G.contains (leafI x).l = true := List.contains_iff_mem.2 (by rw [← hG]; exact List.mem_map_of_mem hx)
      rw [this]; decide
    · have : ¬ p.l ∈ G := fun hg => by
        obtain ⟨x, hx, he⟩ := inG hg
        exact u3 p hp (leafI x) (List.mem_map_of_mem hx) he.symm
      simpa using this
  have hrm : ∀ q ∈ r.filter (fun q => !(G.contains q.1.l)), q ∈ r ∧ q.1 ∈ same := fun q hq => ⟨(List.mem_filter.1 hq).1, (List.Perm.mem_iff hsm).1 (List.mem_map_of_mem hq)⟩
  have r4 := r4.sublist (List.filter_sublist (p := fun q => !(G.contains q.1.l)))
  clear hout hin hdU u1 u2 u3
  generalize r.filter (fun q => !(G.contains q.1.l)) = s at hfl hsm hrm r4
  have hU : ∀ y ∈ R.filter (notIn G), y ∈ R := fun y hy => (List.mem_filter.1 hy).1
  have hx : ∀ q ∈ s, ∀ x ∈ new, ((comL q.1.l x.l : Nat) : Int) < q.1.n := fun q hq x hx => (hA3 q.1 (hrm q hq).2 (leafI x) (List.mem_map_of_mem hx)).1
  have hcr : ∀ y ∈ R.filter (notIn G), ∀ x ∈ new, y.l ≠ x.l := fun y hy x hxn he => by
    rw [hfl] at hy
    obtain ⟨q, hq, hyq⟩ := List.mem_flatMap.1 hy
    have hB := (r3 q (hrm q hq).1)
    have hJ := hB.join
    have h1 := hx q hq x hxn
    have hle := hJ.le
    have hge := hJ.ge
    have h2 := (com_ge (n := q.1.n.toNat) hJ.ok.1 (hRs.ok y (hB.sub y hyq)).1 (by omega)).2 (fun i hi => (hJ.agree (leafI y) (List.mem_map_of_mem hyq) i (by omega)).symm)
    rw [he] at h2
    omega
  have okU : ∀ x ∈ R.filter (notIn G) ++ new, x.ok := fun x hx => by
    rcases List.mem_append.1 hx with hx | hx
    · exact hRs.ok x (hU x hx)
    · exact okn x hx
  have hUd : (R.filter (notIn G) ++ new).Pairwise (fun a b => a.l ≠ b.l) := List.pairwise_append.2 ⟨(rise_ne hRs.rise).filter _, f2, fun a ha b hb => hcr a ha b hb⟩
  have hlen := List.length_filter_le (notIn G) R
  have e2 : chkI (srtI ((R.filter (notIn G) ++ new).map leafI)) = 0 := chk_anti (by rw [List.length_map, List.length_append]; omega) (fun x hx => by
    obtain ⟨y, hy, rfl⟩ := List.mem_map.1 hx
    rcases List.mem_append.1 hy with hy | hy
    · exact hRs.good y (hU y hy)
    · exact leaf_good (okn y hy) (f1 y hy).1 (f1 y hy).2) (hok_map okU) (by
    rw [List.pairwise_map]
    exact List.Pairwise.imp_of_mem (fun {a b} ha hb hab => leaf_anti (okU a ha) (okU b hb) hab) hUd)
  refine ⟨e2, ?_⟩
  rw [top_trJ okc hc, top_trJ (hok_map okU) e2]
  have hbl := trJ_blocks s (new.map leafI) (fun q hq => ⟨(r3 q (hrm q hq).1).ne, (r3 q (hrm q hq).1).join⟩) r4 (fun q hq x hxn => by
    obtain ⟨y, hy, rfl⟩ := List.mem_map.1 hxn
    exact ⟨leafI_ok y (okn y hy), hx q hq y hy⟩) (fun q hq y hy => hRs.ok y ((r3 q (hrm q hq).1).sub y hy))
  rw [← hfl, ← List.map_append] at hbl
  rw [trJ_perm 256 0 _ _ (hsm.symm.append_right (new.map leafI)), hbl]
  have hnil : ((R.filter (notIn G) ++ new).map leafI = []) ↔ (same ++ new.map leafI = []) := by
    rw [List.map_append, hfl]
    cases s with
    | nil =>
      have : same = [] := List.perm_nil.1 hsm.symm
      rw [this]; rfl
    | cons q s =>
      constructor
      · intro h
        exfalso
        have h1 := (List.append_eq_nil_iff.1 h).1
        rw [List.flatMap_cons, List.map_append] at h1
        exact (r3 q (hrm q (List.mem_cons_self ..)).1).ne (List.map_eq_nil_iff.1 (List.append_eq_nil_iff.1 h1).1)
      · intro h
        have h1 := (List.append_eq_nil_iff.1 h).1
        rw [h1] at hsm
        cases List.perm_nil.1 hsm
  by_cases hn0 : same ++ new.map leafI = []
  · rw [if_pos hn0, if_pos (hnil.2 hn0)]
  · rw [if_neg hn0, if_neg (fun h => hn0 (hnil.1 h))]
theorem step_sure {L : List Lef} {s : Stp} {to : List UInt8} (hok : ∀ x ∈ L, x.ok) (hl : L.length ≤ 1000) (hs : s.ok) (hc : mkE L = 0) (hE : stE (topS (itmsL L)) to s = 0) :
    Clh (extP L s) ∨ ((∀ x ∈ s.old, x ∈ L) ∧ chkI (itmsL (behL L (s.old.map Lef.l) s.new)) = 0 ∧ topS (itmsL (behL L (s.old.map Lef.l) s.new)) = to) := by
  obtain ⟨same, old, new⟩ := s
  obtain ⟨o1, o2, o3⟩ := hs
  dsimp only at o1 o2 o3 ⊢
  have hE : (if 500 < old.length ∨ 500 < new.length then 2 else if same.length = 1 ∧ old.length = 0 ∧ 0 < new.length then 3 else if chkI (topU same old) ≠ 0 then chkI (topU same old) else if chkI (topU same new) ≠ 0 then chkI (topU same new) else if topS (topU same old) = topS (itmsL L) ∧ topS (topU same new) = to then 0 else (11 : Int)) = 0 := hE
  by_cases b1 : 500 < old.length ∨ 500 < new.length
  · rw [if_pos b1] at hE; cases hE
  rw [if_neg b1] at hE
  by_cases b2 : same.length = 1 ∧ old.length = 0 ∧ 0 < new.length
  · rw [if_pos b2] at hE; cases hE
  rw [if_neg b2] at hE
  by_cases b3 : chkI (topU same old) ≠ 0
  · rw [if_pos b3] at hE; exact absurd hE b3
  rw [if_neg b3] at hE
  by_cases b4 : chkI (topU same new) ≠ 0
  · rw [if_pos b4] at hE; exact absurd hE b4
  rw [if_neg b4] at hE
  by_cases b5 : topS (topU same old) = topS (itmsL L) ∧ topS (topU same new) = to
  case neg => rw [if_neg b5] at hE; cases hE
  obtain ⟨b5, b6⟩ := b5
  have b3 := Decidable.not_not.1 b3
  have b4 := Decidable.not_not.1 b4
  clear hE
  obtain ⟨-, hr, hg⟩ := chkI_rise b3
  have hR := rsn_srt hok hc
  obtain ⟨w1, w2⟩ := topU_chk same old
  obtain ⟨v1, v2⟩ := topU_chk same new
  have hc1 := w1.1 b3
  have hc2 := v1.1 b4
  have hTp : (topU same old).Perm (same ++ old.map leafI) := by rw [w2 hc1]; exact srtI_perm _
  have hod := (fresh_ok hc1).2
  have hgd : Tgd (topU same old) old := ⟨hr, topU_ok o1 o2, hg, fun p hp hh => by
    obtain ⟨a, b⟩ := fndL_in hh
    exact one_ofI hr hp ((List.Perm.mem_iff hTp).2 (List.mem_append.2 (.inr (List.mem_map_of_mem a)))) b.symm⟩
  have hsT : sumT (topU same old) = topS (topU same old) := by
    unfold sumT topS
    rw [if_neg (show ¬ chkI (topU same old) ≠ 0 from fun h => h b3)]
  have hsR : sumR (srtL L) = topS (itmsL L) := (top_srt hc).symm
  have hx : extP L ⟨same, old, new⟩ = hld ((topU same old).length + 1) (topU same old) old (srtL L) := by
    unfold extP
    exact if_neg (fun h => h.elim (fun h => h hc) (fun h => h b3))
  rw [hx]
  rcases hold_sure o2 _ _ _ (Nat.lt_succ_self _) hgd hR (by rw [hsT, hsR, b5]) with h | ⟨-, hM⟩
  · exact .inl h
  refine .inr ?_
  have hmem : ∀ x ∈ old, leafI x ∈ topU same old := fun x hx => (List.Perm.mem_iff hTp).2 (List.mem_append.2 (.inr (List.mem_map_of_mem hx)))
  have hO : ∀ x ∈ old, x ∈ L := fun x hx => by
    have hh : hasLf old x.l = true := List.any_eq_true.2 ⟨x, hx, beq_self_eq_true _⟩
    have h1 := hM.leaf (leafI x) (hmem x hx) hh (show ¬ (256 : Int) < 256 by decide)
    obtain ⟨a, b⟩ := fndL_in hh
    have e : fndL old x.l = x := one_of hod a hx b
    have h1 : fndL old x.l ∈ srtL L := h1
    rw [e] at h1
    exact srtL_mem.1 h1
  refine ⟨hO, ?_⟩
  have hbp : (behL L (old.map Lef.l) new).Perm ((srtL L).filter (notIn (old.map Lef.l)) ++ new) := by
    unfold behL
    exact List.Perm.append_right _ ((srtL_perm L).symm.filter _)
  obtain ⟨t1, t2⟩ := top_perm hbp
  have hsl := srtL_len L
  by_cases hn : srtL L = []
  · -- nothing was there
    have hL : L = [] := by
      have := hsl
      rw [hn] at this
      exact List.length_eq_zero_iff.1 this.symm
    subst hL
    have ho : old = [] := by
      cases old with
      | nil => rfl
      | cons x r => cases hO x (List.mem_cons_self ..)
    subst ho
    have e1 : behL [] (([] : List Lef).map Lef.l) new = new := rfl
    rw [e1]
    cases same with
    | nil =>
      have e : topU [] new = itmsL new := by rw [v2 hc2]; rfl
      rw [← e]
      exact ⟨b4, b6⟩
    | cons p r =>
      have hr0 : r = [] ∧ new = [] := by
        have hlen := topU_len (p :: r) []
        generalize hT : topU (p :: r) [] = T at *
        cases hM with
        | nil => exact absurd hlen (show ¬ 0 = (p :: r).length + 0 from fun h => by rw [List.length_cons] at h; omega)
        | un q _ hu =>
          have h1 : r = [] := by
            have : 1 = (p :: r).length + 0 := hlen
            rw [List.length_cons] at this
            exact List.length_eq_zero_iff.1 (by omega)
          subst h1
          refine ⟨rfl, ?_⟩
          cases new with
          | nil => rfl
          | cons x t => exact absurd ⟨rfl, rfl, Nat.succ_pos _⟩ b2
        | two _ h2 _ _ _ _ => rw [hn] at h2; exact absurd h2 (show ¬ 2 ≤ 0 by decide)
      obtain ⟨rfl, rfl⟩ := hr0
      exact ⟨rfl, by rw [← b6, b5]⟩
  · by_cases hu : ∃ p, topU same old = [p] ∧ unT [p] old = true
    · obtain ⟨p, hp, hu⟩ := hu
      have hlen := topU_len same old
      rw [hp] at hlen
      have hlen : 1 = same.length + old.length := hlen
      have ho : old = [] := by
        cases old with
        | nil => rfl
        | cons x r =>
          exfalso
          rw [List.length_cons] at hlen
          have hr0 : r = [] := List.length_eq_zero_iff.1 (by omega)
          subst hr0
          have hm := hmem x (List.mem_cons_self ..)
          rw [hp] at hm
          rw [← List.mem_singleton.1 hm] at hu
          have hu : (!(hasLf [x] x.l) || decide ((256 : Int) < 256)) = true := hu
          have hh : hasLf [x] x.l = true := List.any_eq_true.2 ⟨x, List.mem_cons_self .., beq_self_eq_true _⟩
          rw [hh] at hu
          exact absurd hu (by decide)
      subst ho
      have hnw : new = [] := by
        cases new with
        | nil => rfl
        | cons x t => exact absurd ⟨by rw [List.length_nil] at hlen; omega, rfl, Nat.succ_pos _⟩ b2
      subst hnw
      have e1 : behL L (([] : List Lef).map Lef.l) [] = L := by rw [List.map_nil, beh_nil, List.append_nil]
      rw [e1]
      exact ⟨hc, by rw [← b6, b5]⟩
    · have hne : topU same old ≠ [] := fun e => by
        rw [e] at hM
        generalize srtL L = R at *
        cases hM with
        | nil => exact hn rfl
        | two h1 _ _ _ _ _ => exact absurd h1 (show ¬ 2 ≤ 0 by decide)
      have hj : joinF (topU same old).length (topU same old) = jnI (srtL L) := by
        generalize srtL L = R at *
        generalize topU same old = T at *
        cases hM with
        | nil => exact absurd rfl hn
        | un p _ h => exact absurd ⟨p, rfl, h⟩ hu
        | one x _ _ => rfl
        | two h1 h2 hA hB _ _ => rw [join_par h1, hA, hB, (hR.sides h2).jn]
      have hcov := hM.cov hgd hR hn hj
      obtain ⟨c1, c2⟩ := cov_new hcov hTp hr o1 o3 (by omega) (by omega) hc2
      rw [v2 hc2] at b6
      exact ⟨t1.2 c1, by rw [t2]; show topS (srtI (((srtL L).filter (notIn (old.map Lef.l)) ++ new).map leafI)) = to; rw [c2, b6]⟩
end Go.Proofs.Ytcmgpkibjdbonaa
