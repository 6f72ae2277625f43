/- A function value that holds four things. -/
import Derived.Test.YtcmgpkibjdbonaaGreatV30Z
import Derived.Test.YtcmgpkibjdbonaaGreatGEZ
import Derived.Test.YtcmgpkibjdbonaaGreatSL6Z
import Derived.Test.YtcmgpkibjdbonaaGreatR3Z
import Derived.Test.YtcmgpkibjdbonaaGreatSA4Z
set_option maxHeartbeats 4000000
namespace Go.Proofs.YtcmgpkibjdbonaaGreat
open Go Go.RowKit
section
variable {m : OM} {P : Program} {T : List (Nat × TI)} {C : Ctx} {ops : Array Oper} {l : List Oper} {K : St → Prop} {n : Nat} {sl : List (Nat × AV)} {hp : List (Nat × HO)} {d : Nat} {ty : Nat} {pos : String} {aft : Array Edge} {gd : Option (Nat × Bool)}
end
end Go.Proofs.YtcmgpkibjdbonaaGreat
set_option maxHeartbeats 16000000
set_option maxRecDepth 100000
namespace Go.Proofs.YtcmgpkibjdbonaaGreat
open Go Go.RowKit
theorem CLe.fn {fr : Fr} {f : Fn} {xs ys : List AV} (h : CLeL fr xs ys) : CLe fr (.fn f xs) (.fn f ys) := ⟨fun w F cs hf h1 => by
  simp only [repC] at h1 ⊢
  obtain ⟨vs, h2, h3⟩ := h1
  exact ⟨vs, h2, h w F _ hf h3⟩, rfl⟩
theorem rle_tup3c {fr : Fr} {a b c d e f : AV} (h1 : CLe fr a d) (h2 : CLe fr b e) (h3 : CLe fr c f) (ha : a.isVal = true) (hb : b.isVal = true) (hc : c.isVal = true) : RLe fr (single [a, b, c]) (.tup [d, e, f]) :=
  RLe.tup (xs := [a, b, c]) (ys := [d, e, f]) rfl (fun i x y hx hy => by
    match i with
    | 0 => simp at hx hy; subst hx; subst hy; exact .inr ⟨ha, h1⟩
    | 1 => simp at hx hy; subst hx; subst hy; exact .inr ⟨hb, h2⟩
    | 2 => simp at hx hy; subst hx; subst hy; exact .inr ⟨hc, h3⟩
    | k + 3 => simp at hx)
def ordL (x y : Lef) : Int := cmpS x.l y.l
theorem woL : WO (ltCL ordL) := cmp_wo Lef.l (fun _ _ => rfl)
def srtL (l : List Lef) : List Lef := sortS (ltCL ordL) l
theorem srtL_len (l : List Lef) : (srtL l).length = l.length := sortS_len woL l
theorem srtL_mem {l : List Lef} {x : Lef} : x ∈ srtL l ↔ x ∈ l := ⟨fun h => CE.mem woL (sortS_ce woL l).symm h, fun h => CE.mem woL (sortS_ce woL l) h⟩
theorem cloneL_spec (xs : List AV) (hl : xs.length ≤ 1000000) :
    Spec Tryz.prog 50 [.sl 65 xs] [] (fun r os => ∃ v, r = .own 0 v ∧ os = [.row v 46 65 xs]) := by
  refine spec_of TtOk [] Tryz.func50 rfl Tryz.ntmps50 (by kernel_rfl) rfl rfl (fun C => ?_) rfl
  repeat' (first | refine Awp.seq ?_ | refine Awp.region ?_ | refine Ops.nil (nqA ?_) | refine Awp.skip (nqA ?_) | refine Awp.ret (nqE ?_) | (refine o_calm rfl TtOk rfl rfl rfl ?_ (fun _ => ?_); exact nd) | refine o_buildSlice TtOk rfl rfl rfl rfl rfl rfl rfl rfl rfl rfl rfl nq1 (fun _ => ?_) | (refine o_append TtOk rfl rfl rfl rfl rfl rfl rfl rfl rfl (by first | exact True.intro | exact rfl) rfl rfl (fun _ => rfl) ?_ ?_ (fun _ => ?_); ((repeat' (first | rw [List.length_append] | rw [List.length_map] | rw [List.length_cons] | rw [List.length_nil] | rw [List.length_take] | rw [List.length_drop])) <;> omega); ((repeat' (first | rw [List.length_append] | rw [List.length_map] | rw [List.length_cons] | rw [List.length_nil] | rw [List.length_take] | rw [List.length_drop])) <;> omega)) | (refine Awp.cond rfl (fun hc => ?_) (fun hc => ?_)) | (refine o_eqNilSl TtOk rfl rfl rfl rfl rfl (fun c hc0 => ?_)))
  · have := hc0 hc
    subst this
    exact end_tmp rfl rfl rfl [] [(0, _)] (CLe.nilown (k := 0)) (.none .nil) ⟨_, rfl, rfl⟩ _ (.inl rfl)
  · exact end_tmp rfl rfl rfl [] [(0, _)] CLe.own (HLe.cons 5 rfl (HOLe.refl _) .nil) ⟨_, rfl, rfl⟩ _ (.inl rfl)
def cvS (l : List Lef) : List Lef := srtL l
def cvE (l : List Lef) : Int := chkI (itmsL (srtL l))
def cvI (l : List Lef) (ls : List (List UInt8)) : List Itm := if cvE l = 0 then (openF l.length ls (srtL l)).1 else []
def cvT (l : List Lef) (ls : List (List UInt8)) : List Lef := if cvE l = 0 then (openF l.length ls (srtL l)).2 else []
end Go.Proofs.YtcmgpkibjdbonaaGreat
set_option maxHeartbeats 16000000
set_option maxRecDepth 100000
namespace Go.Proofs.YtcmgpkibjdbonaaGreat
open Go Go.RowKit
theorem good_parts {p : Pfx} (h : goodP p = true) : 0 ≤ p.n ∧ p.n ≤ 256 ∧ cutL p.l p.n.toNat = p.l := by
  unfold goodP at h
  simp only [Bool.and_eq_true, decide_eq_true_eq, beq_iff_eq] at h
  exact ⟨h.1, h.2.1, h.2.2⟩
theorem cut_has {p : Pfx} (hp : goodP p = true) (hl : p.l.length = 32) {l : List UInt8} (hl2 : l.length = 32) : (cutL l (clamp p.n) == p.l) = hasP p l := by
  obtain ⟨h0, h1, h2⟩ := good_parts hp
  have hc : clamp p.n = p.n.toNat := by unfold clamp; omega
  unfold hasP
  rw [hp, Bool.true_and, hc]
  have hn : p.n.toNat ≤ 256 := by omega
  have hiff : cutL l p.n.toNat = p.l ↔ p.n ≤ (comL p.l l : Nat) := by
    have hg := com_ge hl hl2 hn
    constructor
    · intro h
      have : p.n.toNat ≤ comL p.l l := hg.2 (fun i hi => by rw [← h, cut_bit l hl2 _ i hn, if_pos hi])
      omega
    · intro h
      have h3 := hg.1 (by omega)
      rw [← h2]
      exact cut_eq hl2 hl hn (fun i hi => (h3 i hi).symm)
  by_cases hh : cutL l p.n.toNat = p.l
  · rw [beq_iff_eq.2 hh, decide_eq_true (hiff.1 hh)]
  · rw [beq_eq_false_iff_ne.2 hh, decide_eq_false (fun h => hh (hiff.2 h))]
theorem good_cut {l : List UInt8} (hl : l.length = 32) {n : Nat} (hn : n ≤ 256) : goodP ⟨(n : Nat), cutL l n⟩ = true := by
  unfold goodP
  have h2 : cutL (cutL l n) n = cutL l n := cut_eq (cutL_len l n hl hn) hl hn (fun i hi => by rw [cut_bit l hl n i hn, if_pos hi])
  have e : (((n : Nat) : Int)).toNat = n := Int.toNat_natCast n
  show (decide (0 ≤ ((n : Nat) : Int)) && (decide (((n : Nat) : Int) ≤ 256) && (cutL (cutL l n) ((n : Nat) : Int).toNat == cutL l n))) = true
  rw [e, h2, beq_self_eq_true, decide_eq_true (by omega), decide_eq_true (by omega)]; rfl
theorem join_good {l : List Itm} (h0 : 0 < l.length) (hr : RiseI l) (hok : ∀ x ∈ l, x.ok) (hg : ∀ x ∈ l, goodI x = true) : goodP (joinF l.length l).p = true := by
  obtain ⟨a, b⟩ := join_pfx l.length l h0 (Nat.le_refl _) hr hok
  by_cases h1 : l.length = 1
  · rw [a h1]
    have := hg _ (List.getElem_mem h0)
    unfold goodI at this
    simp only [Bool.and_eq_true] at this
    exact this.1
  · obtain ⟨b1, b2⟩ := b (by omega)
    have hc := (spl_ok hr hok (by omega)).1
    show goodP ⟨(joinF l.length l).n, (joinF l.length l).l⟩ = true
    rw [b1, b2]
    exact good_cut (hok _ (List.getElem_mem h0)).1 (by omega)
def covI : Nat → List (List UInt8) → List Itm → List Itm × List Itm
  | 0, _, _ => ([], [])
  | k + 1, ls, l => if l = [] then ([], []) else if ls.any (hasP (joinF l.length l).p) = false then ([joinF l.length l], []) else if l.length = 1 then ([], l)
    else ((covI k ls (l.take (splI l))).1 ++ (covI k ls (l.drop (splI l))).1, (covI k ls (l.take (splI l))).2 ++ (covI k ls (l.drop (splI l))).2)
end Go.Proofs.YtcmgpkibjdbonaaGreat
set_option maxHeartbeats 4000000
namespace Go.Proofs.YtcmgpkibjdbonaaGreat
open Go Go.RowKit
theorem insS_perm {α : Type} {lt : α → α → Bool} (x : α) : ∀ l : List α, (insS lt x l).Perm (x :: l)
  | [] => List.Perm.refl _
  | y :: r => by
    unfold insS
    split
    · exact List.Perm.refl _
    · exact ((insS_perm x r).cons y).trans (List.Perm.swap x y r)
theorem sortS_perm {α : Type} {lt : α → α → Bool} (l : List α) : (sortS lt l).Perm l := by
  have h : ∀ (l a : List α), (l.foldl (fun a x => insS lt x a) a).Perm (a ++ l) := by
    intro l
    induction l with
    | nil => intro a; rw [List.append_nil]; exact List.Perm.refl _
    | cons x r ih =>
      intro a
      rw [List.foldl_cons]
      refine (ih _).trans ?_
      refine ((insS_perm x a).append_right r).trans ?_
      exact List.perm_middle.symm
  exact h l []
theorem srtL_perm (l : List Lef) : (srtL l).Perm l := sortS_perm l
/-- Neither is over the other. -/
def Anti (a b : Itm) : Prop := ((comL a.l b.l : Nat) : Int) < a.n ∧ ((comL a.l b.l : Nat) : Int) < b.n
theorem Anti.symm {a b : Itm} (h : Anti a b) : Anti b a := by
  unfold Anti at h ⊢
  rw [com_comm]; exact ⟨h.2, h.1⟩
theorem good_n {x : Itm} (h : goodI x = true) : 0 ≤ x.n ∧ x.n ≤ 256 := by
  unfold goodI at h
  simp only [Bool.and_eq_true] at h
  obtain ⟨a, b, _⟩ := good_parts h.1
  exact ⟨a, b⟩
def openB : Nat → List (List UInt8) → List Lef → List (Itm × List Lef)
  | 0, _, _ => []
  | k + 1, ls, l => if l = [] then [] else if ls.any (hasP (joinF l.length (l.map leafI)).p) = false then [(joinF l.length (l.map leafI), l)] else if l.length = 1 then []
    else openB k ls (l.take (splI (l.map leafI))) ++ openB k ls (l.drop (splI (l.map leafI)))
structure BlkL (ls : List (List UInt8)) (l : List Lef) (q : Itm × List Lef) : Prop where
  ne : q.2 ≠ []
  sub : ∀ y ∈ q.2, y ∈ l
  rise : RiseI (q.2.map leafI)
  eq : q.1 = joinF q.2.length (q.2.map leafI)
  out : ∀ x ∈ ls, ((comL q.1.l x : Nat) : Int) < q.1.n
def SepB (a b : Itm × List Lef) : Prop := ((comL a.1.l b.1.l : Nat) : Int) < a.1.n ∧ ((comL a.1.l b.1.l : Nat) : Int) < b.1.n ∧ (∀ y ∈ b.2, ((comL a.1.l y.l : Nat) : Int) < a.1.n) ∧ (∀ y ∈ a.2, ((comL b.1.l y.l : Nat) : Int) < b.1.n) ∧ cmpS a.1.l b.1.l < 0
structure JoinB (p : Itm) (B : List Itm) : Prop where
  ge : 0 ≤ p.n
  le : p.n ≤ 256
  ok : p.ok
  agree : ∀ b ∈ B, ∀ i : Nat, (i : Int) < p.n → bitL b.l i = bitL p.l i
  good : (∀ b ∈ B, goodI b = true) → goodP p.p = true
  tr : ∀ f' d' : Nat, d' + f' = 256 → (d' : Int) ≤ p.n → trJ f' d' B = p
theorem join_B {B : List Itm} (h0 : 0 < B.length) (hr : RiseI B) (hok : ∀ x ∈ B, x.ok) (h256 : ∀ x ∈ B, 0 ≤ x.n ∧ x.n ≤ 256) : JoinB (joinF B.length B) B := by
  have hjo := joinF_ok B.length B (List.length_pos_iff.1 h0) (Nat.le_refl _) hr hok
  obtain ⟨a, b⟩ := join_pfx B.length B h0 (Nat.le_refl _) hr hok
  have hle : (joinF B.length B).n ≤ 256 := by
    by_cases h1 : B.length = 1
    · rw [a h1]; exact (h256 _ (List.getElem_mem h0)).2
    · rw [(b (by omega)).1]; have := (spl_ok hr hok (by omega)).1; omega
  have hge : 0 ≤ (joinF B.length B).n := by
    by_cases h1 : B.length = 1
    · rw [a h1]; exact (h256 _ (List.getElem_mem h0)).1
    · rw [(b (by omega)).1]; omega
  have hag : ∀ x ∈ B, ∀ i : Nat, (i : Int) < (joinF B.length B).n → bitL x.l i = bitL (joinF B.length B).l i := fun x hx i hi => by
    obtain ⟨j, hj, rfl⟩ := List.getElem_of_mem hx
    by_cases h1 : B.length = 1
    · rw [a h1]
      have : j = 0 := by omega
      subst this; rfl
    · obtain ⟨b1, b2⟩ := b (by omega)
      have hf := (spl_ok hr hok (by omega)).1
      rw [b1] at hi
      rw [b2, cut_bit _ (hok _ (List.getElem_mem h0)).1 _ _ (by omega), if_pos (by omega)]
      exact rise_bits hr hok h0 j hj i (by omega)
  refine ⟨hge, hle, hjo, hag, fun hg => join_good h0 hr hok hg, fun f d hd hdn => ?_⟩
  refine trJ_join f d B h0 hd hr hok (fun x hx i hi => ?_)
  rw [hag x hx i (by omega), hag _ (List.getElem_mem h0) i (by omega)]
theorem BlkL.up {ls : List (List UInt8)} {l l' : List Lef} {q : Itm × List Lef} (h : BlkL ls l q) (hs : ∀ x ∈ l, x ∈ l') : BlkL ls l' q := ⟨h.ne, fun y hy => hs y (h.sub y hy), h.rise, h.eq, h.out⟩
end Go.Proofs.YtcmgpkibjdbonaaGreat
set_option maxHeartbeats 8000000
set_option maxRecDepth 100000
namespace Go.Proofs.YtcmgpkibjdbonaaGreat
open Go Go.RowKit
theorem few_spec (l : List Lef) (n : Nat) (hl : l.length ≤ 9223372036854775807) (hn : n ≤ 1000) :
    Spec Tryz.prog 8 [.sl 65 (l.map Lef.A), .i .i64 n] [] (fun r os => ∃ v, r = .own 0 v ∧ os = [.row v 46 65 ((l.take n).map Lef.A)]) := by
  refine spec_of TtOk [] Tryz.func8 rfl Tryz.ntmps8 (by kernel_rfl) rfl rfl (fun C => ?_) rfl
  by_cases h : n < l.length
  · have hln : (l.take n).length = n := by rw [List.length_take]; omega
    repeat' (first | refine Awp.seq ?_ | refine Awp.region ?_ | refine Ops.nil (nqA ?_) | refine Awp.ret (nqE ?_) | refine o_len rfl TtOk rfl rfl rfl (fun _ => ?_) | (refine o_calm rfl TtOk rfl rfl rfl ?_ (fun _ => ?_); exact nd) | refine o_buildSlice TtOk rfl rfl rfl rfl rfl rfl rfl rfl rfl rfl rfl nq1 (fun _ => ?_) | (refine o_append TtOk rfl rfl rfl rfl rfl rfl rfl rfl rfl (by first | exact True.intro | exact rfl) rfl rfl (fun _ => rfl) ?_ ?_ (fun _ => ?_); ((repeat' (first | rw [List.length_append] | rw [List.length_map] | rw [List.length_cons] | rw [List.length_nil] | rw [List.length_take] | rw [List.length_drop])) <;> omega); ((repeat' (first | rw [List.length_append] | rw [List.length_map] | rw [List.length_cons] | rw [List.length_nil] | rw [List.length_take] | rw [List.length_drop])) <;> omega)) | (refine a_condP rfl (fun hc => ?_) (fun hc => ?_)) <;> (try (exfalso; omega)) | (refine o_sliceSl TtOk rfl 0 n rfl rfl rfl rfl rfl bnd_none (bnd_some rfl rfl) (by omega) (by omega) ?_))
    exact end_tmp rfl rfl rfl [] [(0, _)] CLe.own (HLe.cons 12 rfl (HOLe.refl _) .nil) ⟨_, rfl, rfl⟩ _ (.inl rfl)
  · rw [List.take_of_length_le (by omega)]
    repeat' (first | refine Awp.seq ?_ | refine Awp.region ?_ | refine Ops.nil (nqA ?_) | refine Awp.skip (nqA ?_) | refine Awp.ret (nqE ?_) | refine o_len rfl TtOk rfl rfl rfl (fun _ => ?_) | (refine o_calm rfl TtOk rfl rfl rfl ?_ (fun _ => ?_); exact nd) | refine o_buildSlice TtOk rfl rfl rfl rfl rfl rfl rfl rfl rfl rfl rfl nq1 (fun _ => ?_) | (refine o_append TtOk rfl rfl rfl rfl rfl rfl rfl rfl rfl (by first | exact True.intro | exact rfl) rfl rfl (fun _ => rfl) ?_ ?_ (fun _ => ?_); ((repeat' (first | rw [List.length_append] | rw [List.length_map] | rw [List.length_cons] | rw [List.length_nil] | rw [List.length_take] | rw [List.length_drop])) <;> omega); ((repeat' (first | rw [List.length_append] | rw [List.length_map] | rw [List.length_cons] | rw [List.length_nil] | rw [List.length_take] | rw [List.length_drop])) <;> omega)) | (refine a_condP rfl (fun hc => ?_) (fun hc => ?_)) <;> (try (exfalso; omega)))
    exact end_tmp rfl rfl rfl [] [(0, _)] CLe.own (HLe.cons 12 rfl (HOLe.refl _) .nil) ⟨_, rfl, rfl⟩ _ (.inl rfl)
end Go.Proofs.YtcmgpkibjdbonaaGreat
set_option maxHeartbeats 8000000
set_option maxRecDepth 100000
namespace Go.Proofs.YtcmgpkibjdbonaaGreat
open Go Go.RowKit
def lefC_ (x : Lef) : List Value := x.l.map cellB ++ (x.v.map cellB ++ [Value.int .i64 x.t])
theorem lef_cells {w : World} {F : Nat → Prop} {x : Lef} {v : Value} (h : repV w F x.A v) : x.ok ∧ v = .agg (lefC_ x).toArray := by
  obtain ⟨cs, hc, he⟩ := h
  simp only [Lef.A, labA, repC, repL] at hc
  obtain ⟨c1, c2, rfl, ⟨h1, h2⟩, c3, c4, rfl, ⟨h3, h4⟩, c5, c6, rfl, rfl, rfl⟩ := hc
  have e1 := bytes_cells x.l c1 h2
  have e2 := bytes_cells x.v c3 h4
  subst e1
  subst e2
  exact ⟨⟨by simpa using h1, by simpa using h3⟩, he⟩
section
variable {m : OM} {C : Ctx} {ops : Array Oper} {l : List Oper} {K : St → Prop} {n : Nat} {sl : List (Nat × AV)} {hp : List (Nat × HO)} {d : Nat} {ty : Nat} {pos : String} {aft : Array Edge} {gd : Option (Nat × Bool)}
end
end Go.Proofs.YtcmgpkibjdbonaaGreat
set_option maxHeartbeats 8000000
set_option maxRecDepth 100000
namespace Go.Proofs.YtcmgpkibjdbonaaGreat
open Go Go.RowKit
def labC (c : UInt8) : List UInt8 := c :: List.replicate 31 0
def lefC (c : UInt8) : Lef := ⟨labC c, List.replicate 32 0, 0⟩
def awL : List Lef := [lefC 0, lefC 64, lefC 128]
end Go.Proofs.YtcmgpkibjdbonaaGreat
set_option maxHeartbeats 8000000
set_option maxRecDepth 100000
namespace Go.Proofs.YtcmgpkibjdbonaaGreat
open Go Go.RowKit
theorem cmpS_cases (a b : List UInt8) : cmpS a b = -1 ∨ cmpS a b = 0 ∨ cmpS a b = 1 := by
  unfold cmpS
  split
  · exact .inl rfl
  · split
    · exact .inr (.inr rfl)
    · exact .inr (.inl rfl)
theorem over_eq {a x : Itm} (ha : goodI a = true) (hx : goodI x = true) : overP a.p x.p = overR a x := by
  unfold goodI at ha hx
  simp only [Bool.and_eq_true] at ha hx
  unfold overP hasP overR
  have h1 : goodP x.p = true := hx.1
  have h2 : goodP ⟨a.p.n, a.p.l⟩ = true := ha.1
  rw [h1, show goodP a.p = true from ha.1]
  rfl
theorem bad_eq {a x : Itm} (ha : goodI a = true) (hx : goodI x = true) : badI a x = (overR a x || (overR x a || decide (cmpS a.l x.l ≠ -1))) := by
  unfold badI
  rw [over_eq ha hx, over_eq hx ha]
  congr 2
  rcases cmpS_cases a.l x.l with h | h | h <;> rw [h] <;> rfl
theorem rcheckI_spec (l : List Itm) (hl : l.length ≤ 100000) (hok : ∀ x ∈ l, x.ok) : Spec Tryz.prog 60 [.sl 66 (l.map Itm.R)] [] (fun v os => v = .i .i64 (chkI l) ∧ os = []) := by
  refine spec_of TtOk [] Tryz.func60 rfl Tryz.ntmps60 (by kernel_rfl) rfl rfl (fun C => ?_) rfl
  unfold chkI
  by_cases h2 : 2000 < l.length
  · rw [if_pos h2]
    repeat' (first | refine Awp.seq ?_ | refine Awp.region ?_ | refine Ops.nil (nqA ?_) | refine Awp.ret (nqE ?_) | refine o_len rfl TtOk rfl rfl rfl (fun _ => ?_) | (refine o_calm rfl TtOk rfl rfl rfl ?_ (fun _ => ?_); exact nd) | (refine a_condP rfl (fun hc => ?_) (fun hc => ?_)) <;> (try (exfalso; omega)))
    exact nq2
  rw [if_neg h2]
  obtain ⟨G, hG⟩ : ∃ G, chkL none l = G := ⟨_, rfl⟩
  rw [hG]
  repeat' (first | refine Awp.seq ?_ | refine Awp.block ?_ | refine Awp.region ?_ | refine Ops.nil (nqA ?_) | refine Awp.skip (nqA ?_) | refine o_len rfl TtOk rfl rfl rfl (fun _ => ?_) | (refine o_calm rfl TtOk rfl rfl rfl ?_ (fun _ => ?_); exact nd) | (refine a_condP rfl (fun hc => ?_) (fun hc => ?_)) <;> (try (exfalso; omega)))
  refine Awp.loop (fun i : Nat => ⟨51, [(10, .i .i64 i), (9, .i .i64 l.length), (8, .sl 66 (l.map Itm.R)), (0, .sl 66 (l.map Itm.R))], []⟩) (fun i => i ≤ l.length ∧ chkL (prevI l i) (l.drop i) = G ∧ ∀ j (hj : j < l.length), j < i → goodI l[j] = true) (fun i => l.length - i) [] 0 ⟨Nat.zero_le _, hG, fun j hj h => absurd h (Nat.not_lt_zero _)⟩ ?_ ?_
  · exact ⟨rfl, ⟨sle_i rfl, sle_i rfl, sle_sl rfl, sle_sl rfl, True.intro⟩, .nil⟩
  rintro i ⟨hi, hr, hgd0⟩
  by_cases hlt : i < l.length
  · have hx := hok _ (List.getElem_mem hlt)
    have hi1 : ((i : Int) + 1 = ((i + 1 : Nat) : Int)) := by omega
    rw [chkL_step l i hlt] at hr
    have hgd := rgood15_spec l[i] hx
    by_cases hg : goodI l[i] = true
    · rw [if_pos hg] at hr
      have hgd1 : ∀ j (hj : j < l.length), j < i + 1 → goodI l[j] = true := fun j hj h => by
        by_cases hji : j = i
        · subst hji; exact hg
        · exact hgd0 j hj (by omega)
      by_cases h0 : 0 < i
      · rw [dif_pos h0] at hr
        have hj : i - 1 < l.length := by omega
        have hgp := hgd0 (i - 1) hj (by omega)
        rw [bad_eq hgp hg] at hr
        rw [hg] at hgd
        have hy := hok _ (List.getElem_mem hj)
        have o1 := rover_spec l[i - 1] l[i] hy hx
        have o2 := rover_spec l[i] l[i - 1] hx hy
        have o3 := rorder_spec (l[i - 1]).l (l[i]).l hy.1 hx.1
        generalize overR l[i - 1] l[i] = u1 at hr o1
        generalize overR l[i] l[i - 1] = u2 at hr o2
        generalize cmpS (l[i - 1]).l (l[i]).l = c at hr o3
        clear hgp hgd0
        cases u1
        · cases u2
          · by_cases hc : c ≠ -1
            · rw [decide_eq_true hc] at hr
              rw [if_pos (by rfl)] at hr
              subst hr
              repeat' (first | refine Awp.seq ?_ | refine Awp.block ?_ | refine Awp.region ?_ | refine Ops.nil (nqA ?_) | refine Awp.skip (nqA ?_) | refine Awp.ret (nqE ?_) | (refine o_sub rfl rfl rfl rfl ?_ ?_; omega) | (refine o_calm rfl TtOk rfl rfl rfl ?_ (fun _ => ?_); exact nd) | refine o_alloc (d := 4) rfl TtOk rfl rfl rfl (fun b4 => ?_) | refine o_store TtOk rfl rfl rfl rfl rfl rfl rfl ⟨rfl, rfl⟩ rfl rfl rfl rfl rfl ?_ | (refine o_index rfl TtOk rfl rfl rfl rfl rfl rfl ?_ (getq_nat ?_) ?_; omega; omega) | (fail_if_success (refine o_isLit rfl (by first | exact .inl rfl | exact .inr rfl) ?_)); (refine o_splitP rfl rfl (fun hc => ?_) (fun hc => ?_) <;> try (exfalso; omega)) | refine a_condF rfl ?_ | (refine a_condP rfl (fun hc => ?_) (fun hc => ?_)) <;> (try (exfalso; omega)) | (refine a_condN rfl (fun hc => ?_) (fun hc => ?_)) <;> (try (exfalso; omega)) | (refine a_any 8 [] [] [] [0, 1, 2, 3, 4, 5, 6, 7, 8, 9, 10, 12, 13, 14, 15, 11, 16, 17, 18, 19, 20, 21, 22, 23, 24, 26, 25, 27, 28, 29, 30, 31] (by kernel_rfl) (by kernel_rfl) (by kernel_rfl) rfl rfl rfl ?_; (try dsimp only [List.getElem_toArray, List.getElem_cons_zero, List.getElem_cons_succ])) | (refine o_index rfl TtOk rfl rfl rfl rfl rfl rfl ?_ (getq_as (i-1) ?_ hj) ?_; omega; omega) | refine o_callE rfl (hgd) ⟨nqS, True.intro⟩ rfl ?_ | refine o_callE rfl (o1) ⟨nqS, nqS, True.intro⟩ rfl ?_ | refine o_callE rfl (o2) ⟨nqS, nqS, True.intro⟩ rfl ?_ | refine o_callE rfl (o3) ⟨nqS, nqS, True.intro⟩ rfl ?_)
              exact nq2
            · have hc1 : c = -1 := Decidable.not_not.1 hc
              rw [decide_eq_false hc] at hr
              rw [if_neg (by decide)] at hr
              repeat' (first | refine Awp.seq ?_ | refine Awp.block ?_ | refine Awp.region ?_ | refine Ops.nil (nqA ?_) | refine Ops.nil (nqX ?_) | refine Awp.skip (nqA ?_) | (refine o_add rfl rfl rfl rfl ?_ ?_; omega) | (refine o_sub rfl rfl rfl rfl ?_ ?_; omega) | (refine o_calm rfl TtOk rfl rfl rfl ?_ (fun _ => ?_); exact nd) | refine o_alloc (d := 4) rfl TtOk rfl rfl rfl (fun b4 => ?_) | refine o_store TtOk rfl rfl rfl rfl rfl rfl rfl ⟨rfl, rfl⟩ rfl rfl rfl rfl rfl ?_ | (refine o_index rfl TtOk rfl rfl rfl rfl rfl rfl ?_ (getq_nat ?_) ?_; omega; omega) | (fail_if_success (refine o_isLit rfl (by first | exact .inl rfl | exact .inr rfl) ?_)); (refine o_splitP rfl rfl (fun hc => ?_) (fun hc => ?_) <;> try (exfalso; omega)) | refine a_condF rfl ?_ | (refine a_condP rfl (fun hc => ?_) (fun hc => ?_)) <;> (try (exfalso; omega)) | (refine a_condN rfl (fun hc => ?_) (fun hc => ?_)) <;> (try (exfalso; omega)) | (refine a_any 8 [] [] [] [0, 1, 2, 3, 4, 5, 6, 7, 8, 9, 10, 12, 13, 14, 15, 11, 16, 17, 18, 19, 20, 21, 22, 23, 24, 26, 25, 27, 28, 29, 30, 31] (by kernel_rfl) (by kernel_rfl) (by kernel_rfl) rfl rfl rfl ?_; (try dsimp only [List.getElem_toArray, List.getElem_cons_zero, List.getElem_cons_succ])) | (refine o_index rfl TtOk rfl rfl rfl rfl rfl rfl ?_ (getq_as (i-1) ?_ hj) ?_; omega; omega) | refine o_callE rfl (hgd) ⟨nqS, True.intro⟩ rfl ?_ | refine o_callE rfl (o1) ⟨nqS, nqS, True.intro⟩ rfl ?_ | refine o_callE rfl (o2) ⟨nqS, nqS, True.intro⟩ rfl ?_ | refine o_callE rfl (o3) ⟨nqS, nqS, True.intro⟩ rfl ?_)
              exact ⟨i + 1, [], ⟨hlt, hr, hgd1⟩, by show l.length - (i + 1) < l.length - i; omega, rfl, ⟨sle_i hi1, sle_i rfl, sle_sl rfl, sle_sl rfl, True.intro⟩, .nil⟩
          · rw [if_pos (by rfl)] at hr
            subst hr
            repeat' (first | refine Awp.seq ?_ | refine Awp.block ?_ | refine Awp.region ?_ | refine Ops.nil (nqA ?_) | refine Awp.skip (nqA ?_) | refine Awp.ret (nqE ?_) | refine o_noF rfl rfl rfl ?_ | (refine o_sub rfl rfl rfl rfl ?_ ?_; omega) | (refine o_calm rfl TtOk rfl rfl rfl ?_ (fun _ => ?_); exact nd) | refine o_alloc (d := 4) rfl TtOk rfl rfl rfl (fun b4 => ?_) | refine o_store TtOk rfl rfl rfl rfl rfl rfl rfl ⟨rfl, rfl⟩ rfl rfl rfl rfl rfl ?_ | (refine o_index rfl TtOk rfl rfl rfl rfl rfl rfl ?_ (getq_nat ?_) ?_; omega; omega) | (fail_if_success (refine o_isLit rfl (by first | exact .inl rfl | exact .inr rfl) ?_)); (refine o_splitP rfl rfl (fun hc => ?_) (fun hc => ?_) <;> try (exfalso; omega)) | refine a_condT rfl ?_ | refine a_condF rfl ?_ | (refine a_condP rfl (fun hc => ?_) (fun hc => ?_)) <;> (try (exfalso; omega)) | (refine a_any 8 [] [] [] [0, 1, 2, 3, 4, 5, 6, 7, 8, 9, 10, 12, 13, 14, 15, 11, 16, 17, 18, 19, 20, 21, 22, 23, 24, 26, 25, 27, 28, 29, 30, 31] (by kernel_rfl) (by kernel_rfl) (by kernel_rfl) rfl rfl rfl ?_; (try dsimp only [List.getElem_toArray, List.getElem_cons_zero, List.getElem_cons_succ])) | (refine o_index rfl TtOk rfl rfl rfl rfl rfl rfl ?_ (getq_as (i-1) ?_ hj) ?_; omega; omega) | refine o_callE rfl (hgd) ⟨nqS, True.intro⟩ rfl ?_ | refine o_callE rfl (o1) ⟨nqS, nqS, True.intro⟩ rfl ?_ | refine o_callE rfl (o2) ⟨nqS, nqS, True.intro⟩ rfl ?_)
            exact nq2
        · rw [if_pos (by rfl)] at hr
          subst hr
          repeat' (first | refine Awp.seq ?_ | refine Awp.block ?_ | refine Awp.region ?_ | refine Ops.nil (nqA ?_) | refine Awp.skip (nqA ?_) | refine Awp.ret (nqE ?_) | refine o_noF rfl rfl rfl ?_ | (refine o_sub rfl rfl rfl rfl ?_ ?_; omega) | (refine o_calm rfl TtOk rfl rfl rfl ?_ (fun _ => ?_); exact nd) | refine o_alloc (d := 4) rfl TtOk rfl rfl rfl (fun b4 => ?_) | refine o_store TtOk rfl rfl rfl rfl rfl rfl rfl ⟨rfl, rfl⟩ rfl rfl rfl rfl rfl ?_ | (refine o_index rfl TtOk rfl rfl rfl rfl rfl rfl ?_ (getq_nat ?_) ?_; omega; omega) | (fail_if_success (refine o_isLit rfl (by first | exact .inl rfl | exact .inr rfl) ?_)); (refine o_splitP rfl rfl (fun hc => ?_) (fun hc => ?_) <;> try (exfalso; omega)) | refine a_condT rfl ?_ | refine a_condF rfl ?_ | (refine a_condP rfl (fun hc => ?_) (fun hc => ?_)) <;> (try (exfalso; omega)) | (refine a_any 8 [] [] [] [0, 1, 2, 3, 4, 5, 6, 7, 8, 9, 10, 12, 13, 14, 15, 11, 16, 17, 18, 19, 20, 21, 22, 23, 24, 26, 25, 27, 28, 29, 30, 31] (by kernel_rfl) (by kernel_rfl) (by kernel_rfl) rfl rfl rfl ?_; (try dsimp only [List.getElem_toArray, List.getElem_cons_zero, List.getElem_cons_succ])) | (refine o_index rfl TtOk rfl rfl rfl rfl rfl rfl ?_ (getq_as (i-1) ?_ hj) ?_; omega; omega) | refine o_callE rfl (hgd) ⟨nqS, True.intro⟩ rfl ?_ | refine o_callE rfl (o1) ⟨nqS, nqS, True.intro⟩ rfl ?_)
          exact nq2
      · have h0 : i = 0 := by omega
        subst h0
        rw [dif_neg (Nat.lt_irrefl _)] at hr
        rw [hg] at hgd
        repeat' (first | refine Awp.seq ?_ | refine Awp.block ?_ | refine Awp.region ?_ | refine Ops.nil (nqA ?_) | refine Ops.nil (nqX ?_) | refine Awp.skip (nqA ?_) | refine o_noT rfl rfl rfl ?_ | refine o_noU rfl rfl rfl ?_ | (refine o_add rfl rfl rfl rfl ?_ ?_; omega) | (refine o_calm rfl TtOk rfl rfl rfl ?_ (fun _ => ?_); exact nd) | refine o_alloc (d := 4) rfl TtOk rfl rfl rfl (fun b4 => ?_) | refine o_store TtOk rfl rfl rfl rfl rfl rfl rfl ⟨rfl, rfl⟩ rfl rfl rfl rfl rfl ?_ | (refine o_index rfl TtOk rfl rfl rfl rfl rfl rfl ?_ (getq_nat ?_) ?_; omega; omega) | refine a_condF rfl ?_ | (refine a_condP rfl (fun hc => ?_) (fun hc => ?_)) <;> (try (exfalso; omega)) | (refine a_any 8 [] [] [] [0, 1, 2, 3, 4, 5, 6, 7, 8, 9, 10, 12, 13, 14, 15, 11, 16, 17, 18, 19, 20, 21, 22, 23, 24, 26, 25, 27, 28, 29, 30, 31] (by kernel_rfl) (by kernel_rfl) (by kernel_rfl) rfl rfl rfl ?_; (try dsimp only [List.getElem_toArray, List.getElem_cons_zero, List.getElem_cons_succ])) | refine o_callE rfl (hgd) ⟨nqS, True.intro⟩ rfl ?_)
        exact ⟨1, [], ⟨hlt, hr, hgd1⟩, by show l.length - 1 < l.length - 0; omega, rfl, ⟨sle_i rfl, sle_i rfl, sle_sl rfl, sle_sl rfl, True.intro⟩, .nil⟩
    · rw [if_neg hg] at hr
      subst hr
      rw [show goodI l[i] = false by revert hg; cases goodI l[i] <;> simp] at hgd
      repeat' (first | refine Awp.seq ?_ | refine Awp.block ?_ | refine Awp.region ?_ | refine Ops.nil (nqA ?_) | refine Awp.skip (nqA ?_) | refine Awp.ret (nqE ?_) | (refine o_calm rfl TtOk rfl rfl rfl ?_ (fun _ => ?_); exact nd) | refine o_alloc (d := 4) rfl TtOk rfl rfl rfl (fun b4 => ?_) | refine o_store TtOk rfl rfl rfl rfl rfl rfl rfl ⟨rfl, rfl⟩ rfl rfl rfl rfl rfl ?_ | (refine o_index rfl TtOk rfl rfl rfl rfl rfl rfl ?_ (getq_nat ?_) ?_; omega; omega) | refine a_condT rfl ?_ | (refine a_condP rfl (fun hc => ?_) (fun hc => ?_)) <;> (try (exfalso; omega)) | refine o_callE rfl (hgd) ⟨nqS, True.intro⟩ rfl ?_)
      exact nq2
  · have hie : i = l.length := by omega
    subst hie
    rw [List.drop_length] at hr
    have hz : ∀ p, chkL p [] = 0 := fun p => by cases p <;> rfl
    rw [hz] at hr
    subst hr
    repeat' (first | refine Awp.seq ?_ | refine Awp.region ?_ | refine Ops.nil (nqA ?_) | refine Awp.exit (nqA ?_) | refine Awp.ret (nqE ?_) | (refine o_calm rfl TtOk rfl rfl rfl ?_ (fun _ => ?_); exact nd) | (refine a_condP rfl (fun hc => ?_) (fun hc => ?_)) <;> (try (exfalso; omega)))
    exact nq2
end Go.Proofs.YtcmgpkibjdbonaaGreat
