/- What is summed tells the node; a way that is told and the tree's own one, the top first. No program in sight. -/
import Derived.Test.YtcmgpkibjdbonaaGreatPP1
import Derived.Test.YtcmgpkibjdbonaaGreatV35Z
set_option maxHeartbeats 4000000
namespace Go.Proofs.YtcmgpkibjdbonaaGreat
open Go Go.RowKit
theorem egt_inj (U V : Nat) : ∀ i, egt U i = egt V i → U % 256 ^ i = V % 256 ^ i
  | 0, _ => by rw [Nat.pow_zero, Nat.mod_one, Nat.mod_one]
  | i + 1, h => by
    unfold egt at h
    obtain ⟨h1, h2⟩ := List.cons.inj h
    have e := egt_inj U V i h2
    have h3 : U / 256 ^ i % 256 = V / 256 ^ i % 256 := by
      have := congrArg UInt8.toNat h1
      rw [UInt8.toNat_ofNat', UInt8.toNat_ofNat'] at this
      omega
    rw [Nat.mod_pow_succ, Nat.mod_pow_succ, e, h3]
theorem u64N_nat {n : Int} (h0 : 0 ≤ n) (h1 : n < 9223372036854775808) : u64N n = n.toNat := by
  have h := u64N_eq n
  have h2 : IntKind.u64.wrap n = n := by
    unfold IntKind.wrap
    show n % 18446744073709551616 = n
    omega
  rw [h2] at h
  omega
theorem num8_inj {n m : Int} (h0 : 0 ≤ n) (h1 : n < 9223372036854775808) (k0 : 0 ≤ m) (k1 : m < 9223372036854775808) (h : num8 n = num8 m) : n = m := by
  rw [num8_egt, num8_egt] at h
  have e := egt_inj _ _ 8 h
  rw [u64N_nat h0 h1, u64N_nat k0 k1] at e
  have p : (256 : Nat) ^ 8 = 18446744073709551616 := rfl
  rw [p] at e
  omega
theorem txtI_inj {x y : Itm} (hx : x.ok) (hy : y.ok) (gx : goodI x = true) (gy : goodI y = true) (h : txtI x = txtI y) : x = y := by
  unfold txtI at h
  have n1 := good_n gx
  have n2 := good_n gy
  have t1 := good_t gx
  have t2 := good_t gy
  obtain ⟨a, d⟩ := List.append_inj h (by rw [List.length_append, List.length_append, List.length_append, List.length_append, num8_len, num8_len, hx.1, hy.1, hx.2, hy.2])
  obtain ⟨a, c⟩ := List.append_inj a (by rw [List.length_append, List.length_append, num8_len, num8_len, hx.1, hy.1])
  obtain ⟨a, b⟩ := List.append_inj a (by rw [num8_len, num8_len])
  have e1 := num8_inj (by omega) (by omega) (by omega) (by omega) a
  have e4 := num8_inj (by omega) (by omega) (by omega) (by omega) d
  obtain ⟨xn, xl, xs, xt⟩ := x
  obtain ⟨yn, yl, ys, yt⟩ := y
  dsimp only at e1 e4 b c
  rw [e1, e4, b, c]
theorem innB_eq (a b : Itm) : innB a b = 17 :: (lenQ (txtI a).length ++ (txtI a ++ (lenQ (txtI b).length ++ txtI b))) := by
  unfold innB jnB
  simp
theorem leafB_eq (x : Lef) : leafB x = 16 :: (lenQ x.l.length ++ (x.l ++ (lenQ x.v.length ++ (x.v ++ (lenQ (num8 x.t).length ++ num8 x.t))))) := by
  unfold leafB jnB
  simp
theorem innB_inj {a b c d : Itm} (ha : a.ok) (hb : b.ok) (hc : c.ok) (hd : d.ok) (ga : goodI a = true) (gb : goodI b = true) (gc : goodI c = true) (gd : goodI d = true) (h : innB a b = innB c d) : a = c ∧ b = d := by
  rw [innB_eq, innB_eq, txtI_len a ha, txtI_len b hb, txtI_len c hc, txtI_len d hd] at h
  have h := (List.append_inj (List.cons.inj h).2 rfl).2
  obtain ⟨h1, h⟩ := List.append_inj h (by rw [txtI_len a ha, txtI_len c hc])
  have h2 := (List.append_inj h rfl).2
  exact ⟨txtI_inj ha hc ga gc h1, txtI_inj hb hd gb gd h2⟩
theorem leafB_inj {x y : Lef} (hx : x.ok) (hy : y.ok) (cx : chkLf x = 0) (cy : chkLf y = 0) (h : leafB x = leafB y) : x = y := by
  rw [leafB_eq, leafB_eq, hx.1, hy.1, hx.2, hy.2, num8_len, num8_len] at h
  have h := (List.append_inj (List.cons.inj h).2 rfl).2
  obtain ⟨h1, h⟩ := List.append_inj h (by rw [hx.1, hy.1])
  have h := (List.append_inj h rfl).2
  obtain ⟨h2, h⟩ := List.append_inj h (by rw [hx.2, hy.2])
  have h3 := (List.append_inj h rfl).2
  have t1 : 0 ≤ x.t ∧ x.t ≤ 1073741824 := by unfold chkLf at cx; split at cx <;> omega
  have t2 : 0 ≤ y.t ∧ y.t ≤ 1073741824 := by unfold chkLf at cy; split at cy <;> omega
  have e := num8_inj t1.1 (by omega) t2.1 (by omega) h3
  obtain ⟨xl, xv, xt⟩ := x
  obtain ⟨yl, yv, yt⟩ := y
  dsimp only at h1 h2 e
  rw [h1, h2, e]
/-- A node that is right. -/
def Nod.gd : Nod → Prop
  | .no => False
  | .lf x => x.ok ∧ chkLf x = 0
  | .inn x y => x.ok ∧ y.ok ∧ chkN x y = 0
theorem chkN_good {x y : Itm} (h : chkN x y = 0) : goodI x = true ∧ goodI y = true ∧ ((comL x.l y.l : Nat) : Int) < x.n ∧ ((comL x.l y.l : Nat) : Int) < y.n ∧ ¬ 0 < cmpS x.l y.l := by
  unfold chkN at h
  split at h
  · rename_i hg
    split at h
    · cases h
    · rename_i hn
      exact ⟨hg.1, hg.2, by omega, by omega, by omega⟩
  · cases h
theorem nod_inj {n m : Nod} (hn : n.gd) (hm : m.gd) (h : n.txt = m.txt) : n = m := by
  cases n with
  | no => exact absurd hn (fun h => h)
  | lf x =>
    cases m with
    | no => exact absurd hm (fun h => h)
    | lf y => exact congrArg Nod.lf (leafB_inj hn.1 hm.1 hn.2 hm.2 h)
    | inn a b =>
      have h : leafB x = innB a b := h
      rw [leafB_eq, innB_eq] at h
      exact absurd (List.cons.inj h).1 (by decide)
  | inn a b =>
    cases m with
    | no => exact absurd hm (fun h => h)
    | lf y =>
      have h : innB a b = leafB y := h
      rw [leafB_eq, innB_eq] at h
      exact absurd (List.cons.inj h).1 (by decide)
    | inn c d =>
      obtain ⟨a1, a2, a3⟩ := hn
      obtain ⟨b1, b2, b3⟩ := hm
      obtain ⟨g1, g2, _⟩ := chkN_good a3
      obtain ⟨g3, g4, _⟩ := chkN_good b3
      obtain ⟨e1, e2⟩ := innB_inj a1 a2 b1 b2 g1 g2 g3 g4 h
      rw [e1, e2]
theorem nod_18 {n : Nod} (hn : n.gd) : n.txt ≠ [18] := by
  cases n with
  | no => exact absurd hn (fun h => h)
  | lf x => intro h; have h : leafB x = [18] := h; rw [leafB_eq] at h; exact absurd (List.cons.inj h).1 (by decide)
  | inn a b => intro h; have h : innB a b = [18] := h; rw [innB_eq] at h; exact absurd (List.cons.inj h).1 (by decide)
/-- A way that is told, the top first. -/
def Chain (lb : List UInt8) : List Nod → Prop
  | [] => False
  | [n] => n.gd ∧ ∀ a b, n = .inn a b → hasP (innI a b).p lb = false
  | n :: m :: r => n.gd ∧ (∃ a b, n = .inn a b ∧ hasP (innI a b).p lb = true ∧ m.itm = if bitL lb (comL a.l b.l) = 1 then b else a) ∧ Chain lb (m :: r)
theorem Chain.gd {lb : List UInt8} {n : Nod} {r : List Nod} (h : Chain lb (n :: r)) : n.gd := by
  cases r with
  | nil => exact h.1
  | cons m r => exact h.1
theorem up_pick {x y : Itm} {lb : List UInt8} (hx : x.ok) (hy : y.ok) (h : upE x y lb = 0) :
    (Nod.inn (upL x y) (upR x y)).gd ∧ hasP (innI (upL x y) (upR x y)).p lb = true ∧ x = if bitL lb (comL (upL x y).l (upR x y).l) = 1 then upR x y else upL x y := by
  obtain ⟨oL, oR⟩ := upLR_ok hx hy
  unfold upE at h
  by_cases hc : chkN (upL x y) (upR x y) ≠ 0
  · rw [if_pos hc] at h; exact absurd h hc
  rw [if_neg hc] at h
  have hc := Decidable.not_not.1 hc
  by_cases hh : hasP (innI (upL x y) (upR x y)).p lb = true ∧ bitN lb (comL (upL x y).l (upR x y).l) = bitN x.l (comL (upL x y).l (upR x y).l)
  · refine ⟨⟨oL, oR, hc⟩, hh.1, ?_⟩
    obtain ⟨g1, g2, g3, g4, g5⟩ := chkN_good hc
    have hn := good_n g1
    have hf : comL (upL x y).l (upR x y).l < 256 := by omega
    have hb := hh.2
    unfold bitN at hb
    rw [if_pos hf, if_pos hf] at hb
    have hlt : cmpS (upL x y).l (upR x y).l < 0 := by
      rcases cmpS_cases (upL x y).l (upR x y).l with q | q | q
      · omega
      · have := cmpS_zero.1 q
        rw [this] at hf
        have h2 := (com_ge oR.1 oR.1 (n := 256) (Nat.le_refl _)).2 (fun i _ => rfl)
        omega
      · omega
    obtain ⟨_, b0, b1⟩ := cmp_lt oL.1 oR.1 hlt
    rw [hb]
    unfold upL upR at b0 b1 ⊢
    by_cases hs : 0 < cmpS x.l y.l
    · simp only [if_pos hs] at b0 b1 ⊢
      rw [if_pos b1]
    · simp only [if_neg hs] at b0 b1 ⊢
      rw [if_neg (by rw [b0]; decide)]
  · rw [if_neg hh] at h; exact absurd h (by decide)
theorem chain_ups : ∀ (ys : List Itm) (x : Itm) (n : Nod) (c : List Nod) (lb : List UInt8), (∀ y ∈ ys, y.ok) → x.ok → n.itm = x → Chain lb (n :: c) → (upsF x ys lb).2 = 0 → ∃ m r, (upsF x ys lb).1.reverse ++ n :: c = m :: r ∧ Chain lb (m :: r) ∧ m.itm.ok
  | [], x, n, c, lb, _, hx, hn, hc, _ => ⟨n, c, rfl, hc, by rw [hn]; exact hx⟩
  | y :: ys, x, n, c, lb, hy, hx, hn, hc, h => by
    unfold upsF at h ⊢
    by_cases hu : upE x y lb ≠ 0
    · rw [if_pos hu] at h; exact absurd h hu
    rw [if_neg hu] at h ⊢
    have hu := Decidable.not_not.1 hu
    have oy := hy y (List.mem_cons_self ..)
    obtain ⟨p1, p2, p3⟩ := up_pick hx oy hu
    have oL := (upLR_ok hx oy).1
    obtain ⟨m, r, e1, e2, e3⟩ := chain_ups ys (innI (upL x y) (upR x y)) (.inn (upL x y) (upR x y)) (n :: c) lb (fun z hz => hy z (List.mem_cons_of_mem _ hz)) (innI_ok _ _ oL) rfl ⟨p1, ⟨_, _, rfl, p2, by rw [hn]; exact p3⟩, hc⟩ h
    refine ⟨m, r, ?_, e2, e3⟩
    rw [List.reverse_cons, List.append_assoc]
    exact e1
/-- The lowest node of a proof. -/
def lowN (p : Prf) : Nod := if p.e = 1 then .lf p.lf else .inn p.a p.b
/-- The nodes of a proof that is in form, the top first. -/
theorem nds_chain {p : Prf} {lb : List UInt8} (hp : p.ok) (h : (ndsF p lb).2 = 0) :
    (p.e = 0 ∧ (ndsF p lb).1 = [] ∧ p.path = []) ∨ ((p.e = 1 ∨ p.e = 2) ∧ Chain lb (ndsF p lb).1.reverse ∧ ∃ r, (ndsF p lb).1 = lowN p :: r) := by
  unfold ndsF at h ⊢
  by_cases h256 : 256 < p.path.length
  · rw [if_pos h256] at h; exact absurd h (by decide)
  rw [if_neg h256] at h ⊢
  by_cases h0 : p.e = 0
  · rw [if_pos h0] at h ⊢
    by_cases hl : p.path.length = 0
    · rw [if_pos hl]; exact .inl ⟨h0, rfl, List.length_eq_zero_iff.1 hl⟩
    · rw [if_neg hl] at h; exact absurd h (by decide)
  rw [if_neg h0] at h ⊢
  by_cases h1 : p.e = 1
  · rw [if_pos h1] at h ⊢
    by_cases hc : chkLf p.lf ≠ 0
    · rw [if_pos hc] at h; exact absurd h hc
    rw [if_neg hc] at h ⊢
    have hc := Decidable.not_not.1 hc
    unfold fin_ at h ⊢
    by_cases hu : (upsF (leafI p.lf) p.path lb).2 ≠ 0
    · rw [if_pos hu] at h; exact absurd h hu
    rw [if_neg hu]
    obtain ⟨m, r, e1, e2, e3⟩ := chain_ups p.path (leafI p.lf) (.lf p.lf) [] lb hp.path (leafI_ok _ hp.lf) rfl ⟨⟨hp.lf, hc⟩, fun a b h => by cases h⟩ (Decidable.not_not.1 hu)
    refine .inr ⟨.inl h1, ?_, _, by unfold lowN; rw [if_pos h1]; rfl⟩
    rw [List.reverse_append]
    show Chain lb ((upsF (leafI p.lf) p.path lb).1.reverse ++ [Nod.lf p.lf])
    rw [e1]; exact e2
  rw [if_neg h1] at h ⊢
  by_cases h2 : p.e = 2
  · rw [if_pos h2] at h ⊢
    by_cases hc : chkN p.a p.b ≠ 0
    · rw [if_pos hc] at h; exact absurd h hc
    rw [if_neg hc] at h ⊢
    have hc := Decidable.not_not.1 hc
    by_cases hh : hasP (innI p.a p.b).p lb = true
    · rw [if_pos hh] at h; exact absurd h (by decide)
    rw [if_neg hh] at h ⊢
    have hh : hasP (innI p.a p.b).p lb = false := by
      cases q : hasP (innI p.a p.b).p lb with
      | true => exact absurd q hh
      | false => rfl
    unfold fin_ at h ⊢
    by_cases hu : (upsF (innI p.a p.b) p.path lb).2 ≠ 0
    · rw [if_pos hu] at h; exact absurd h hu
    rw [if_neg hu]
    obtain ⟨m, r, e1, e2, e3⟩ := chain_ups p.path (innI p.a p.b) (.inn p.a p.b) [] lb hp.path (innI_ok _ _ hp.a) rfl ⟨⟨hp.a, hp.b, hc⟩, fun a b h => by cases h; exact hh⟩ (Decidable.not_not.1 hu)
    refine .inr ⟨.inr h2, ?_, _, by unfold lowN; rw [if_neg h1]; rfl⟩
    rw [List.reverse_append]
    show Chain lb ((upsF (innI p.a p.b) p.path lb).1.reverse ++ [Nod.inn p.a p.b])
    rw [e1]; exact e2
  · rw [if_neg h2] at h; exact absurd h (by decide)
/-- The text of the top of leaves; the side of a label. -/
def rlT (l : List Lef) : List UInt8 := if l = [] then [18] else if l.length = 1 then leafB (l.headD lef0) else innB (parA (l.map leafI)) (parB (l.map leafI))
def sdL (l : List Lef) (lb : List UInt8) : List Lef := if 1 < l.length then (if bitL lb (frkI (l.map leafI)) = 1 then l.drop (splI (l.map leafI)) else l.take (splI (l.map leafI))) else l
def clsh (a b : List UInt8) : Bool := a != b && shaN a == shaN b
/-- The first node that is unlike, the top first. -/
def exL : List Nod → List Lef → List UInt8 → List UInt8 × List UInt8 × Bool
  | [], _, _ => ([], [], false)
  | n :: r, l, lb => if n.txt = rlT l then exL r (sdL l lb) lb else (n.txt, rlT l, clsh n.txt (rlT l))
def exC (c : List Nod) (l : List Lef) (lb : List UInt8) : List UInt8 × List UInt8 × Bool :=
  if c = [] then (if [18] = rlT l then ([], [], false) else ([18], rlT l, clsh [18] (rlT l))) else exL c l lb
/-- The first two of texts that are unlike. -/
def exR : List (List UInt8) → List (List UInt8) → List UInt8 × List UInt8 × Bool
  | a :: s, b :: t => if a = b then exR s t else (a, b, shaN a == shaN b)
  | _, _ => ([], [], false)
theorem exR_cons (a b : List UInt8) (s t : List (List UInt8)) : exR (a :: s) (b :: t) = if a = b then exR s t else (a, b, shaN a == shaN b) := by rw [exR]
theorem exR_nil (t : List (List UInt8)) : exR [] t = ([], [], false) := by unfold exR; rfl
/-- The node that leaves are. -/
def rlN (l : List Lef) : Nod := if l.length = 1 then .lf (l.headD lef0) else .inn (parA (l.map leafI)) (parB (l.map leafI))
theorem Rsn.node {l : List Lef} (h : Rsn l) (hn : l ≠ []) : (rlN l).gd ∧ (rlN l).txt = rlT l ∧ (rlN l).itm = jnI l := by
  have hp : 0 < l.length := List.length_pos_iff.2 hn
  unfold rlN rlT
  rw [if_neg hn]
  by_cases h1 : l.length = 1
  · rw [if_pos h1, if_pos h1]
    obtain ⟨x, rfl⟩ := List.length_eq_one_iff.1 h1
    refine ⟨⟨h.ok x (List.mem_cons_self ..), ?_⟩, rfl, rfl⟩
    have := good_t (h.good x (List.mem_cons_self ..))
    have e : (leafI x).t = x.t := rfl
    unfold chkLf
    exact if_neg (by show ¬ (x.t < 0 ∨ 1073741824 < x.t); omega)
  · rw [if_neg h1, if_neg h1]
    have hS := h.sides (by omega)
    exact ⟨⟨hS.oA, hS.oB, hS.chk⟩, rfl, hS.jn.symm⟩
theorem way_head (k : Nat) (l : List Lef) (lb : List UInt8) (hk : l.length < k) (hn : l ≠ []) : ∃ r, wayN k l lb = rlN l :: r := by
  obtain ⟨k, rfl⟩ : ∃ j, k = j + 1 := ⟨k - 1, by omega⟩
  unfold wayN rlN
  rw [if_neg hn]
  by_cases h1 : l.length = 1
  · rw [if_pos h1, if_pos h1]; exact ⟨_, rfl⟩
  · rw [if_neg h1, if_neg h1]
    split
    · exact ⟨_, rfl⟩
    · split <;> exact ⟨_, rfl⟩
theorem clsh_ne {a b : List UInt8} (h : a ≠ b) : clsh a b = (shaN a == shaN b) := by
  unfold clsh
  rw [bne_iff_ne.2 h, Bool.true_and]
/-- The side of a label, and what the way says of it. -/
theorem side_step {l : List Lef} (h : Rsn l) (h2 : 2 ≤ l.length) (lb : List UInt8) : Rsn (sdL l lb) ∧ sdL l lb ≠ [] ∧ (sdL l lb).length < l.length ∧ jnI (sdL l lb) = (if bitL lb (frkI (l.map leafI)) = 1 then parB (l.map leafI) else parA (l.map leafI)) ∧ (∀ y ∈ l, y.l = lb → y ∈ sdL l lb) ∧ (∀ y ∈ sdL l lb, y ∈ l) ∧
    ∀ k, hasP (jnI l).p lb = true → wayN (k + 1) l lb = rlN l :: wayN k (sdL l lb) lb := by
  have hS := h.sides h2
  have hlt := hS.sl
  have hs0 := hS.s0
  have tk : (l.take (splI (l.map leafI))).length = splI (l.map leafI) := by rw [List.length_take]; omega
  have dr : (l.drop (splI (l.map leafI))).length = l.length - splI (l.map leafI) := List.length_drop
  have hm : ∀ y ∈ l, y ∈ l.take (splI (l.map leafI)) ∨ y ∈ l.drop (splI (l.map leafI)) := fun y hy => by
    rw [← List.mem_append, List.take_append_drop]; exact hy
  have hw : ∀ k, hasP (jnI l).p lb = true → wayN (k + 1) l lb = if bitL lb (frkI (l.map leafI)) = 1 then .inn (parA (l.map leafI)) (parB (l.map leafI)) :: wayN k (l.drop (splI (l.map leafI))) lb else .inn (parA (l.map leafI)) (parB (l.map leafI)) :: wayN k (l.take (splI (l.map leafI))) lb := fun k hh => by
    rw [wayN, if_neg (fun he => by rw [he] at h2; simp at h2), if_neg (by omega), show joinF l.length (l.map leafI) = jnI l from rfl, hh, if_neg (by decide)]
  have hr : rlN l = .inn (parA (l.map leafI)) (parB (l.map leafI)) := if_neg (by omega)
  unfold sdL
  rw [if_pos (by omega), hr]
  by_cases hb : bitL lb (frkI (l.map leafI)) = 1
  · rw [if_pos hb, if_pos hb]
    refine ⟨h.drop _, fun he => by rw [he] at dr; simp at dr; omega, by omega, hS.jB.symm, fun y hy hl => ?_, fun y hy => List.mem_of_mem_drop hy, fun k hh => by rw [hw k hh, if_pos hb]⟩
    rcases hm y hy with q | q
    · have := hS.lo y q; rw [hl, hb] at this; cases this
    · exact q
  · rw [if_neg hb, if_neg hb]
    refine ⟨h.take _, fun he => by rw [he] at tk; simp at tk; omega, by omega, hS.jA.symm, fun y hy hl => ?_, fun y hy => List.mem_of_mem_take hy, fun k hh => by rw [hw k hh, if_neg hb]⟩
    rcases hm y hy with q | q
    · exact q
    · have := hS.hi y q; rw [hl] at this; exact absurd this hb
theorem ex_same : ∀ (c : List Nod) (k : Nat) (l : List Lef) (lb : List UInt8), Chain lb c → Rsn l → l ≠ [] → l.length < k → exL c l lb = exR (c.map Nod.txt) ((wayN k l lb).map Nod.txt)
  | [], _, _, _, hc, _, _, _ => absurd hc (fun h => h)
  | n :: r, k, l, lb, hc, h, hn, hk => by
    obtain ⟨g1, g2, g3⟩ := h.node hn
    have gn := hc.gd
    obtain ⟨r', hw⟩ := way_head k l lb hk hn
    unfold exL
    by_cases he : n.txt = rlT l
    · rw [if_pos he]
      have hnl : n = rlN l := nod_inj gn g1 (by rw [he, g2])
      cases r with
      | nil =>
        rw [hw, List.map_cons, List.map_cons, exR_cons, if_pos (by rw [he, g2])]
        exact (exR_nil _).symm
      | cons m r =>
        obtain ⟨_, ⟨a, b, e1, e2, e3⟩, hc2⟩ := hc
        have h2 : 2 ≤ l.length := by
          rcases Nat.lt_or_ge l.length 2 with q | q
          · have hp : 0 < l.length := List.length_pos_iff.2 hn
            have h1 : l.length = 1 := by omega
            unfold rlN at hnl
            rw [if_pos h1, e1] at hnl
            cases hnl
          · exact q
        have hS := h.sides h2
        have hab : a = parA (l.map leafI) ∧ b = parB (l.map leafI) := by
          unfold rlN at hnl
          rw [if_neg (by omega), e1] at hnl
          injection hnl with q1 q2
          exact ⟨q1, q2⟩
        rw [hab.1, hab.2, ← hS.jn] at e2
        obtain ⟨s1, s2, s3, _, _, _, s5⟩ := side_step h h2 lb
        obtain ⟨k, rfl⟩ : ∃ j, k = j + 1 := ⟨k - 1, by omega⟩
        rw [s5 k e2, List.map_cons (l := m :: r), List.map_cons (a := rlN l), exR_cons, if_pos (by rw [he, g2])]
        exact ex_same (m :: r) k (sdL l lb) lb hc2 s1 s2 (by omega)
    · rw [if_neg he, hw, List.map_cons, List.map_cons, exR_cons, g2, if_neg he, clsh_ne he]
end Go.Proofs.YtcmgpkibjdbonaaGreat
set_option maxHeartbeats 4000000
namespace Go.Proofs.YtcmgpkibjdbonaaGreat
open Go Go.RowKit
/-- What a proof says of a label in the tree of a sum. -/
def chkE (p : Prf) (top lb : List UInt8) : Int := if (ndsF p lb).2 ≠ 0 then (ndsF p lb).2 else if nsum (ndsF p lb).1 = top then 0 else 11
def chkB (p : Prf) (lb : List UInt8) : Bool := p.e == 1 && p.lf.l == lb
theorem rlT_18 {l : List Lef} (h : Rsn l) (hn : l ≠ []) : [18] ≠ rlT l := by
  obtain ⟨g1, g2, _⟩ := h.node hn
  rw [← g2]
  exact fun he => nod_18 g1 he.symm
/-- The texts of the tree's way, the top first. -/
def wayT (L : List Lef) (lb : List UInt8) : List (List UInt8) := if srtL L = [] then [[18]] else (wayN (L.length + 1) (srtL L) lb).map Nod.txt
def toldT (p : Prf) (lb : List UInt8) : List (List UInt8) := if (ndsF p lb).1 = [] then [[18]] else (ndsF p lb).1.reverse.map Nod.txt
/-- Both ways of extracting find the same. -/
theorem ex_law {L : List Lef} {p : Prf} {lb : List UInt8} (hok : ∀ x ∈ L, x.ok) (hp : p.ok) (hc : mkE L = 0) (hn : (ndsF p lb).2 = 0) :
    exC (ndsF p lb).1.reverse (srtL L) lb = exR (toldT p lb) (wayT L lb) := by
  have hS := rsn_srt hok hc
  have hsl := srtL_len L
  unfold toldT wayT
  rcases nds_chain hp hn with ⟨h0, h1, h2⟩ | ⟨h0, h1, r, h2⟩
  · rw [h1, if_pos rfl]
    show exC [] _ _ = _
    unfold exC
    rw [if_pos rfl]
    by_cases hS0 : srtL L = []
    · rw [if_pos hS0, hS0, exR_cons, if_pos rfl, exR_nil]
      exact if_pos rfl
    · rw [if_neg hS0, if_neg (rlT_18 hS hS0), clsh_ne (rlT_18 hS hS0)]
      obtain ⟨r', hw⟩ := way_head (L.length + 1) (srtL L) lb (by omega) hS0
      obtain ⟨g1, g2, _⟩ := hS.node hS0
      rw [hw, List.map_cons, exR_cons, g2, if_neg (rlT_18 hS hS0)]
  · rw [if_neg (by rw [h2]; exact List.cons_ne_nil _ _)]
    have hr : (ndsF p lb).1.reverse ≠ [] := fun he => by rw [he] at h1; exact h1
    unfold exC
    rw [if_neg hr]
    by_cases hS0 : srtL L = []
    · rw [if_pos hS0, hS0]
      cases hq : (ndsF p lb).1.reverse with
      | nil => exact absurd hq hr
      | cons n c =>
        rw [hq] at h1
        have hne := nod_18 h1.gd
        rw [List.map_cons, exR_cons, if_neg hne]
        unfold exL
        rw [show rlT [] = [18] from rfl, if_neg hne, clsh_ne hne]
    · rw [if_neg hS0]
      exact ex_same _ _ _ _ h1 hS hS0 (by omega)
end Go.Proofs.YtcmgpkibjdbonaaGreat
set_option maxHeartbeats 4000000
namespace Go.Proofs.YtcmgpkibjdbonaaGreat
open Go Go.RowKit
section
variable {P : Program} {T : List (Nat × TI)} {C : Ctx} {S : St}
theorem Ops.callGR {m : OM} {ops : Array Oper} {l : List Oper} {K : St → Prop} {d : Option Tmp} {op : Op} {f : FuncId} {ty : Nat} {pos : String} {aft : Array Edge} {gd : Option (Nat × Bool)} (hw : gval ops S gd = gwant gd) (heff : effOp P op = true)
    (xs : List AV) (hev : ∀ a w, Sat C S a w → ∃ vals : List Value, repVs w (Fz C S.heap w) xs vals ∧ (execOp a.eval ⟨d, op, ty, pos, aft, gd⟩).run P w = .ok (.enter f vals.toArray) w)
    (fz pass ks : List Nat) {as_ : List AV} {os0 os : List HO} {H1 : List (Nat × HO)} {R : AV → List HO → Prop}
    (hspec : Spec P f as_ os R) (hargs : argsLe (fzs S.heap fz) xs as_) (htk : taken (hdels S.heap fz) pass = some (os0, H1)) (hos : hosLe (fzs S.heap fz) os0 os)
    (hd : okD S d = true) (hm : m.oke d pass = true)
    (h : ∀ r os', R r os' → ks.length = os'.length ∧ Ops m P C ops l (St.putO ⟨S.n, S.slots, ks.zip os' ++ H1⟩ d r) K) :
    Ops m P C ops (⟨d, op, ty, pos, aft, gd⟩ :: l) S K := by
  refine Ops.act hw pass hm heff fun a w hs RR Q hK' _ => ?_
  obtain ⟨hd1, hfr⟩ := Sat.dels fz hs
  obtain ⟨t1, t2, t3, t4⟩ := taken_spec htk hd1.nd
  obtain ⟨o1, o2⟩ := hosLe_spec hfr hos
  have hF1 : ∀ b, Fz C S.heap w b → Fz C (hdels S.heap fz) w b := fun b hb => by
    have hsub : ∀ (r : List Nat) (H : List (Nat × HO)) b, b ∈ blks (hdels H r) → b ∈ blks H := by
      intro r
      induction r with
      | nil => exact fun H b hb => hb
      | cons k r ih =>
        intro H b hb
        unfold hdels at hb
        split at hb
        · rename_i hg2
          exact (hdel_blks hg2).1 b (ih _ b hb)
        · exact ih _ b hb
    exact ⟨hb.1, fun hin => hb.2.1 (hsub fz _ b hin), hb.2.2⟩
  obtain ⟨fn, f1, f2, f3⟩ := hspec.fn
  unfold Oper.wp
  obtain ⟨vals, hvals, hexec⟩ := hev a w hs
  rw [hexec]
  refine Calls.mono (hspec.run w vals (Fz C (hdels S.heap fz) w) (fun b hb => ⟨hb.1, fun hin => hb.2.1 (t2 b (List.mem_append.2 (.inl (by rw [o1] at hin; exact hin))))⟩) ⟨o2 (fun o ho => ?_), ?_, fun b hb => ?_⟩ ?_) ?_
  · obtain ⟨p, hp, _, rfl⟩ := t3 o ho
    exact hd1.heap p hp
  · rw [o1]; exact (List.nodup_append.1 t1).1
  · rw [o1] at hb; exact (hd1.lt b (t2 b (List.mem_append.2 (.inl hb)))).1
  · exact argsLe_rep hfr hargs ⟨hvals.1, fun i x v hx hv => repV_mono hF1 (fun _ _ => rfl) _ _ (hvals.2 i x v hx hv)⟩
  · rintro e w' ⟨v, r, os', rfl, hR, hm, hown, hbs, hv⟩
    obtain ⟨hkl, hK2⟩ := h r os' hR
    have hb0 : blks (ks.zip os' ++ H1) = oblks os' ++ blks H1 := by rw [blks_append, blks_zip ks os' hkl]
    have hlt : ∀ b ∈ blks (ks.zip os' ++ H1), b < w'.heap.size ∧ (b ∈ blks (hdels S.heap fz) ∨ w.heap.size ≤ b) := by
      intro b hb
      rw [hb0] at hb
      rcases List.mem_append.1 hb with hb | hb
      · refine ⟨hown.lt b hb, ?_⟩
        rcases hbs b hb with h1 | h1
        · rw [o1] at h1; exact .inl (t2 b (List.mem_append.2 (.inl h1)))
        · exact .inr h1
      · have h2 := t2 b (List.mem_append.2 (.inr hb))
        exact ⟨Nat.lt_of_lt_of_le (hd1.lt b h2).1 hm.size, .inl h2⟩
    have hT : ∀ b, b < w.heap.size → b ∈ oblks os → b ∈ blks (hdels S.heap fz) := fun b _ hb => by rw [o1] at hb; exact t2 b (List.mem_append.2 (.inl hb))
    have hFA : ∀ b, FAfter w w' (Fz C (hdels S.heap fz) w) os os' b → Fz C (ks.zip os' ++ H1) w' b := by
      intro b hb
      refine ⟨hb.1, fun hin => ?_, ?_⟩
      · rw [hb0] at hin
        rcases List.mem_append.1 hin with h1 | h1
        · exact hb.2.1 h1
        · rcases hb.2.2 with h2 | h2 | h2
          · exact h2.2.1 (t2 b (List.mem_append.2 (.inr h1)))
          · have := (hd1.lt b (t2 b (List.mem_append.2 (.inr h1)))).1; omega
          · rw [o1] at h2
            exact (List.nodup_append.1 t1).2.2 b h2 b h1 rfl
      · rcases hb.2.2 with h2 | h2 | h2
        · exact h2.2.2
        · exact .inr (.inl (Nat.le_trans hs.mod.size h2))
        · rw [o1] at h2
          exact .inr (hd1.lt b (t2 b (List.mem_append.2 (.inl h2)))).2
    have hs2 : Sat C ⟨S.n, S.slots, ks.zip os' ++ H1⟩ a w' := by
      refine hd1.move _ _ hm hT ?_ hlt ?_
      · rw [hb0]
        refine List.nodup_append.2 ⟨hown.nd, (List.nodup_append.1 t1).2.1, fun b hb c hc hbc => ?_⟩
        subst hbc
        rcases hbs b hb with h1 | h1
        · rw [o1] at h1; exact (List.nodup_append.1 t1).2.2 b h1 b hc rfl
        · have := (hd1.lt b (t2 b (List.mem_append.2 (.inr hc)))).1; omega
      · intro p hp
        rcases List.mem_append.1 hp with hp | hp
        · exact HOk_mono hFA (hown.ok p.2 (List.of_mem_zip hp).2)
        · refine hd1.keepHO hm hT hlt (hd1.heap p (t4 p hp)) (fun b hb hin => ?_)
          rw [o1] at hin
          have : b ∈ blks H1 := List.mem_filterMap.2 ⟨p, hp, hb⟩
          exact (List.nodup_append.1 t1).2.2 b hin b this rfl
    have hd' : okD (⟨S.n, S.slots, ks.zip os' ++ H1⟩ : St) d = true := by cases d <;> exact hd
    have hin : ∀ p ∈ hdels S.heap fz, p ∈ S.heap := by
      have : ∀ (r : List Nat) (H : List (Nat × HO)) p, p ∈ hdels H r → p ∈ H := by
        intro r
        induction r with
        | nil => exact fun H p hp => hp
        | cons k r ih =>
          intro H p hp
          unfold hdels at hp
          split at hp
          · rename_i hg2
            exact (hdel_blks hg2).2.2 p (ih _ p hp)
          · exact ih _ p hp
      exact this fz _
    have hold : ∀ b, b ∈ oblks os → tbl S.heap pass b := fun b hb => by
      rw [o1] at hb
      obtain ⟨o, ho, hob⟩ := List.mem_filterMap.1 hb
      obtain ⟨p, hp, hk, rfl⟩ := t3 o ho
      exact ⟨p, hin p hp, hk, hob⟩
    refine hK' _ v w' r hs2 hd' (repV_mono hFA (fun _ _ => rfl) _ _ hv) ⟨hm.mono (fun b _ hb => hold b hb), fun tk htk b hlt' ⟨p, hp, hpk, hpb⟩ => ?_⟩ hK2
    rcases List.mem_append.1 hp with hp | hp
    · have hb : b ∈ oblks os' := List.mem_filterMap.2 ⟨p.2, (List.of_mem_zip hp).2, hpb⟩
      rcases hbs b hb with h1 | h1
      · exact tbl_sub htk (hold b h1)
      · omega
    · exact ⟨p, hin p (t4 p hp), hpk, hpb⟩
end
section
variable {m : OM} {P : Program} {T : List (Nat × TI)} {C : Ctx} {ops : Array Oper} {l : List Oper} {K : St → Prop} {n : Nat} {sl : List (Nat × AV)} {hp : List (Nat × HO)} {d : Nat} {ty : Nat} {pos : String} {aft : Array Edge} {gd : Option (Nat × Bool)}
/-- Which function a method of a type is. -/
def IsMeth (P : Program) (t : Nat) (name : String) (f : FuncId) : Prop := ∀ (v : Value) (w : World), (method (P.types.size + Made.depth) t v name).run P w = .ok (f, v) w
theorem o_invoke (hw : gval ops ⟨n, sl, hp⟩ gd = gwant gd) {x : Operand} {name : String} {ats : Array TypeId} {t : Nat} {y : AV} {f : FuncId} {ys : List AV} {R : AV → List HO → Prop} (hx : ev ⟨n, sl, hp⟩ x = .ifc t y) (hm : IsMeth P t name f)
    (hspec : Spec P f ys [] R) (_hv : y.isVal = true) (hargs : argsLe [] [y] ys) (hd : Nat.blt d n = true) (heff : effOp P (.call ⟨.invoke x name, #[], ats⟩) = true)
    (h : ∀ r os', R r os' → os' = [] ∧ Ops m P C ops l ⟨n, (d, r) :: sl, hp⟩ K) :
    Ops m P C ops (⟨some d, .call ⟨.invoke x name, #[], ats⟩, ty, pos, aft, gd⟩ :: l) ⟨n, sl, hp⟩ K :=
  Ops.callGR hw heff [y] (fun a w hs => by
    have E := ev_rep hs x
    rw [hx] at E
    obtain ⟨_, ⟨vs, rfl, h1⟩, h2⟩ := E
    have h2 : a.eval x = .iface t (ofCells y vs) := h2
    obtain ⟨fn, f1, f2, f3⟩ := hspec.fn
    refine ⟨[ofCells y vs], ⟨rfl, fun i b u hb hu => ?_⟩, ?_⟩
    · match i with
      | 0 => simp at hb hu; subst hb; subst hu; exact repV_mk h1
      | j + 1 => simp at hb
    · have h3 := hm (ofCells y vs) w
      have h5 : (program).run P w = .ok P w := rfl
      unfold execOp
      simp only [resolve, Sem.run_bind, Sem.run_pure, Result.andThen_ok, invoke]
      have h6 : ((#[a.eval x] ++ Array.map a.eval #[])[0]? : Option Value) = some (.iface t (ofCells y vs)) := by rw [h2]; simp
      rw [h6]
      have h7 : ((#[a.eval x] ++ Array.map a.eval #[]).extract 1 (#[a.eval x] ++ Array.map a.eval #[]).size) = #[] := by simp
      rw [h7]
      show (callMethod (.iface t (ofCells y vs)) name #[]).run P w = _
      unfold callMethod
      simp only [Sem.run_bind, h5, Result.andThen_ok, h3]
      exact callFunc_run f1 f2 f3 _) [] [] [] hspec hargs rfl trivial hd oke_nil (fun r os' hr => by
    obtain ⟨rfl, h1⟩ := h r os' hr
    exact ⟨rfl, h1⟩)
end
end Go.Proofs.YtcmgpkibjdbonaaGreat
