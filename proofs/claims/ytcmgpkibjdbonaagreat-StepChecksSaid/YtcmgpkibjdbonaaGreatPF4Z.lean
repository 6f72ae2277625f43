/- proof.Proof.Nodes by rules. -/
import Derived.Test.YtcmgpkibjdbonaaGreatGHZ
import Derived.Test.YtcmgpkibjdbonaaGreatC3Z
import Derived.Test.YtcmgpkibjdbonaaGreatV16Z
import Derived.DeepKeys3
set_option maxHeartbeats 16000000
set_option maxRecDepth 100000
namespace Go.Proofs.YtcmgpkibjdbonaaGreat
open Go Go.RowKit
end Go.Proofs.YtcmgpkibjdbonaaGreat
set_option maxHeartbeats 4000000
namespace Go.Proofs.YtcmgpkibjdbonaaGreat
open Go Go.RowKit
/-- A node that is right. -/
def Nod.gd : Nod → Prop
  | .no => False
  | .lf x => x.ok ∧ chkLf x = 0
  | .inn x y => x.ok ∧ y.ok ∧ chkN x y = 0
theorem chkN_good {x y : Itm} (h : chkN x y = 0) : goodI x = true ∧ goodI y = true ∧ ((comL x.l y.l : Nat) : Int) < x.n ∧ ((comL x.l y.l : Nat) : Int) < y.n ∧ ¬ 0 < cmpS x.l y.l := by
  unfold chkN at h
  split at h
  · rename_i hg
    split at h
    · cases h
    · rename_i hn
      exact ⟨hg.1, hg.2, by omega, by omega, by omega⟩
  · cases h
/-- A way that is told, the top first. -/
def Chain (lb : List UInt8) : List Nod → Prop
  | [] => False
  | [n] => n.gd ∧ ∀ a b, n = .inn a b → hasP (innI a b).p lb = false
  | n :: m :: r => n.gd ∧ (∃ a b, n = .inn a b ∧ hasP (innI a b).p lb = true ∧ m.itm = if bitL lb (comL a.l b.l) = 1 then b else a) ∧ Chain lb (m :: r)
theorem Chain.gd {lb : List UInt8} {n : Nod} {r : List Nod} (h : Chain lb (n :: r)) : n.gd := by
  cases r with
  | nil => exact h.1
  | cons m r => exact h.1
/-- The lowest node of a proof. -/
def lowN (p : Prf) : Nod := if p.e = 1 then .lf p.lf else .inn p.a p.b
/-- The text of the top of leaves; the side of a label. -/
def rlT (l : List Lef) : List UInt8 := if l = [] then [18] else if l.length = 1 then leafB (l.headD lef0) else innB (parA (l.map leafI)) (parB (l.map leafI))
def sdL (l : List Lef) (lb : List UInt8) : List Lef := if 1 < l.length then (if bitL lb (frkI (l.map leafI)) = 1 then l.drop (splI (l.map leafI)) else l.take (splI (l.map leafI))) else l
def clsh (a b : List UInt8) : Bool := a != b && shaN a == shaN b
/-- The first node that is unlike, the top first. -/
def exL : List Nod → List Lef → List UInt8 → List UInt8 × List UInt8 × Bool
  | [], _, _ => ([], [], false)
  | n :: r, l, lb => if n.txt = rlT l then exL r (sdL l lb) lb else (n.txt, rlT l, clsh n.txt (rlT l))
def exC (c : List Nod) (l : List Lef) (lb : List UInt8) : List UInt8 × List UInt8 × Bool :=
  if c = [] then (if [18] = rlT l then ([], [], false) else ([18], rlT l, clsh [18] (rlT l))) else exL c l lb
/-- The first two of texts that are unlike. -/
def exR : List (List UInt8) → List (List UInt8) → List UInt8 × List UInt8 × Bool
  | a :: s, b :: t => if a = b then exR s t else (a, b, shaN a == shaN b)
  | _, _ => ([], [], false)
/-- The node that leaves are. -/
def rlN (l : List Lef) : Nod := if l.length = 1 then .lf (l.headD lef0) else .inn (parA (l.map leafI)) (parB (l.map leafI))
theorem Rsn.node {l : List Lef} (h : Rsn l) (hn : l ≠ []) : (rlN l).gd ∧ (rlN l).txt = rlT l ∧ (rlN l).itm = jnI l := by
  have hp : 0 < l.length := List.length_pos_iff.2 hn
  unfold rlN rlT
  rw [if_neg hn]
  by_cases h1 : l.length = 1
  · rw [if_pos h1, if_pos h1]
    obtain ⟨x, rfl⟩ := List.length_eq_one_iff.1 h1
    refine ⟨⟨h.ok x (List.mem_cons_self ..), ?_⟩, rfl, rfl⟩
    have := good_t (h.good x (List.mem_cons_self ..))
    have e : (leafI x).t = x.t := rfl
    unfold chkLf
    exact if_neg (by show ¬ (x.t < 0 ∨ 1073741824 < x.t); omega)
  · rw [if_neg h1, if_neg h1]
    have hS := h.sides (by omega)
    exact ⟨⟨hS.oA, hS.oB, hS.chk⟩, rfl, hS.jn.symm⟩
end Go.Proofs.YtcmgpkibjdbonaaGreat
set_option maxHeartbeats 4000000
namespace Go.Proofs.YtcmgpkibjdbonaaGreat
open Go Go.RowKit
/-- What a proof says of a label in the tree of a sum. -/
def chkE (p : Prf) (top lb : List UInt8) : Int := if (ndsF p lb).2 ≠ 0 then (ndsF p lb).2 else if nsum (ndsF p lb).1 = top then 0 else 11
def chkB (p : Prf) (lb : List UInt8) : Bool := p.e == 1 && p.lf.l == lb
/-- The texts of the tree's way, the top first. -/
def wayT (L : List Lef) (lb : List UInt8) : List (List UInt8) := if srtL L = [] then [[18]] else (wayN (L.length + 1) (srtL L) lb).map Nod.txt
def toldT (p : Prf) (lb : List UInt8) : List (List UInt8) := if (ndsF p lb).1 = [] then [[18]] else (ndsF p lb).1.reverse.map Nod.txt
end Go.Proofs.YtcmgpkibjdbonaaGreat
set_option maxHeartbeats 16000000
set_option maxRecDepth 100000
namespace Go.Proofs.YtcmgpkibjdbonaaGreat
open Go Go.RowKit
def exP (L : List Lef) (p : Prf) (lb : List UInt8) : List UInt8 × List UInt8 × Bool := if (ndsF p lb).2 ≠ 0 ∨ mkE L ≠ 0 then ([], [], false) else exC (ndsF p lb).1.reverse (srtL L) lb
theorem Chain.all {lb : List UInt8} : ∀ {c : List Nod}, Chain lb c → ∀ n ∈ c, n.gd
  | [], h, n, hn => by cases hn
  | [m], h, n, hn => by rw [List.mem_singleton.1 hn]; exact h.1
  | m :: q :: r, h, n, hn => by
    rcases List.mem_cons.1 hn with rfl | hn
    · exact h.1
    · exact Chain.all h.2.2 n hn
end Go.Proofs.YtcmgpkibjdbonaaGreat
set_option maxHeartbeats 16000000
set_option maxRecDepth 100000
namespace Go.Proofs.YtcmgpkibjdbonaaGreat
open Go Go.RowKit
end Go.Proofs.YtcmgpkibjdbonaaGreat
set_option maxHeartbeats 4000000
namespace Go.Proofs.YtcmgpkibjdbonaaGreat
open Go Go.RowKit
theorem chk_rsn {l : List Lef} (h : Rsn l) (hl : l.length ≤ 2000) : chkI (l.map leafI) = 0 := by
  refine chkI_zero (by rw [List.length_map]; exact hl) h.goodI ?_ h.rise
  rw [List.pairwise_map]
  exact List.Pairwise.imp_of_mem (fun {a b} ha hb hab => leaf_anti (h.ok a ha) (h.ok b hb) hab) (rise_ne h.rise)
theorem topU_chk (P : List Itm) (F : List Lef) : (chkI (topU P F) = 0 ↔ chkI (srtI (P ++ F.map leafI)) = 0) ∧ (chkI (srtI (P ++ F.map leafI)) = 0 → topU P F = srtI (P ++ F.map leafI)) := by
  have hp : (P ++ itmsL F).Perm (P ++ F.map leafI) := List.Perm.append_left _ (srtI_perm _)
  have h1 : chkI (srtI (P ++ F.map leafI)) = 0 → topU P F = srtI (P ++ F.map leafI) := fun hc => srt_eq hp hc
  have h2 : chkI (topU P F) = 0 → srtI (P ++ F.map leafI) = topU P F := fun hc => srt_eq hp.symm hc
  exact ⟨⟨fun hc => by rw [h2 hc]; exact hc, fun hc => by rw [h1 hc]; exact hc⟩, h1⟩
theorem topU_srt (P : List Itm) (F : List Lef) : topU P (srtL F) = topU P F := by unfold topU; rw [itms_srt]
theorem rise_neI {l : List Itm} (h : RiseI l) : l.Pairwise (fun a b => a.l ≠ b.l) := h.imp (fun {a b} hab he => by
  rw [he, cmpS_eq] at hab; omega)
theorem fresh_ok {P : List Itm} {F : List Lef} (h : chkI (srtI (P ++ F.map leafI)) = 0) : (∀ x ∈ F, 0 ≤ x.t ∧ x.t ≤ 1073741824) ∧ F.Pairwise (fun a b => a.l ≠ b.l) := by
  obtain ⟨-, hr, hg⟩ := chkI_rise h
  refine ⟨fun x hx => good_t (hg (leafI x) (srtI_mem.2 (List.mem_append.2 (.inr (List.mem_map_of_mem hx))))), ?_⟩
  have h1 := (List.Perm.pairwise_iff (fun h => Ne.symm h) (srtI_perm _)).1 (rise_neI hr)
  have h2 := (List.pairwise_append.1 h1).2.1
  rw [List.pairwise_map] at h2
  exact h2
theorem openF_pos : ∀ (k : Nat) (ls : List (List UInt8)) (l : List Lef), l ≠ [] → l.length ≤ k → Rsn l → 1 ≤ (openF k ls l).1.length + (openF k ls l).2.length
  | 0, ls, l, hn, hk, _ => absurd (List.length_eq_zero_iff.1 (by omega)) hn
  | k + 1, ls, l, hn, hk, h => by
    have hp : 0 < l.length := List.length_pos_iff.2 hn
    rw [openF, if_neg hn]
    split
    · exact Nat.le_refl _
    split
    · show 1 ≤ 0 + l.length; omega
    · rename_i h1 h2
      have hS := h.sides (by omega)
      have hlt := hS.sl
      have hs0 := hS.s0
      have tk : (l.take (splI (l.map leafI))).length = splI (l.map leafI) := by rw [List.length_take]; omega
      have := openF_pos k ls (l.take (splI (l.map leafI))) (fun he => by rw [he] at tk; simp at tk; omega) (by omega) (h.take _)
      show 1 ≤ (_ ++ _ : List Itm).length + (_ ++ _ : List Lef).length
      rw [List.length_append, List.length_append]; omega
/-- Where one part is all that there is, no label touches the tree. -/
theorem openF_one {ls : List (List UInt8)} {l : List Lef} (h : Rsn l) (h2 : 2 ≤ l.length) (a : (openF l.length ls l).1.length = 1) (b : (openF l.length ls l).2.length = 0) : ls.any (hasP (jnI l).p) = false := by
  obtain ⟨k, hk⟩ : ∃ k, l.length = k + 1 := ⟨l.length - 1, by omega⟩
  rw [hk, openF, if_neg (fun he => by rw [he] at h2; simp at h2)] at a b
  rw [show joinF l.length (l.map leafI) = jnI l from rfl] at a b
  by_cases hh : ls.any (hasP (jnI l).p) = false
  · exact hh
  · rw [if_neg hh, if_neg (by omega)] at a b
    have hS := h.sides h2
    have hlt := hS.sl
    have hs0 := hS.s0
    have tk : (l.take (splI (l.map leafI))).length = splI (l.map leafI) := by rw [List.length_take]; omega
    have dr : (l.drop (splI (l.map leafI))).length = l.length - splI (l.map leafI) := List.length_drop
    have p1 := openF_pos k ls (l.take (splI (l.map leafI))) (fun he => by rw [he] at tk; simp at tk; omega) (by omega) (h.take _)
    have p2 := openF_pos k ls (l.drop (splI (l.map leafI))) (fun he => by rw [he] at dr; simp at dr; omega) (by omega) (h.drop _)
    have a : (_ ++ _ : List Itm).length = 1 := a
    have b : (_ ++ _ : List Lef).length = 0 := b
    rw [List.length_append] at a b
    omega
theorem openF_nil {k : Nat} {l : List Lef} (hn : l ≠ []) (hk : 0 < k) : openF k [] l = ([jnI l], []) := by
  obtain ⟨k, rfl⟩ : ∃ j, k = j + 1 := ⟨k - 1, by omega⟩
  rw [openF, if_neg hn]
  exact if_pos rfl
theorem jn_map {a b : List Lef} (h : a.map leafI = b.map leafI) : jnI a = jnI b := by
  have hl : a.length = b.length := by have := congrArg List.length h; rwa [List.length_map, List.length_map] at this
  unfold jnI
  rw [h, hl]
/-- The tree of a side of the leaves, whatever their order. -/
theorem cvI_side {L : List Lef} {p : Lef → Bool} {T : List Lef} (_hok : ∀ x ∈ L, x.ok) (hT : (srtL L).filter p = T) (hr : Rsn T) (hn : T ≠ []) (hl : T.length ≤ 2000) : cvI (L.filter p) [] = [jnI T] := by
  have hp : (L.filter p).Perm T := by rw [← hT]; exact (srtL_perm L).symm.filter p
  have hc := chk_rsn hr hl
  have hcT : chkI (itmsL T) = 0 := by rw [itms_rise hr.rise]; exact hc
  have hi : itmsL (L.filter p) = T.map leafI := by rw [itms_perm hp hcT, itms_rise hr.rise]
  have hE : cvE (L.filter p) = 0 := by unfold cvE; rw [itms_srt, hi]; exact hc
  have hne : L.filter p ≠ [] := fun he => by rw [he] at hp; exact hn (List.nil_perm.1 hp)
  have hs : (srtL (L.filter p)).map leafI = T.map leafI := by rw [← itms_map]; exact hi
  have hne2 : srtL (L.filter p) ≠ [] := fun he => by
    have := srtL_len (L.filter p)
    rw [he] at this
    exact hne (List.length_eq_zero_iff.1 this.symm)
  unfold cvI
  rw [if_pos hE, openF_nil hne2 (List.length_pos_iff.2 hne), jn_map hs]
theorem hlf_eq {L : List Lef} (hok : ∀ x ∈ L, x.ok) (hc : mkE L = 0) (h2 : 2 ≤ L.length) (hl : L.length ≤ 2000) : hlf L = [parA ((srtL L).map leafI), parB ((srtL L).map leafI)] := by
  have hS := rsn_srt hok hc
  have hsl := srtL_len L
  have hSd := hS.sides (by omega)
  have hlt := hSd.sl
  have hs0 := hSd.s0
  have hI : itmsL L = (srtL L).map leafI := itms_map L
  have tk : ((srtL L).take (splI ((srtL L).map leafI))).length = splI ((srtL L).map leafI) := by rw [List.length_take]; omega
  have dr : ((srtL L).drop (splI ((srtL L).map leafI))).length = (srtL L).length - splI ((srtL L).map leafI) := List.length_drop
  have hall : ∀ (q : Lef → Bool), (srtL L).filter q = ((srtL L).take (splI ((srtL L).map leafI))).filter q ++ ((srtL L).drop (splI ((srtL L).map leafI))).filter q := fun q => by rw [← List.filter_append, List.take_append_drop]
  unfold hlf hlA hlB
  rw [hI]
  have e1 : (srtL L).filter (fun x => bitL x.l (frkI ((srtL L).map leafI)) == 0) = (srtL L).take (splI ((srtL L).map leafI)) := by
    rw [hall, List.filter_eq_self.2 (fun x hx => by rw [hSd.lo x hx]; rfl), List.filter_eq_nil_iff.2 (fun x hx => by rw [hSd.hi x hx]; decide), List.append_nil]
  have e2 : (srtL L).filter (fun x => !(bitL x.l (frkI ((srtL L).map leafI)) == 0)) = (srtL L).drop (splI ((srtL L).map leafI)) := by
    rw [hall, List.filter_eq_nil_iff.2 (fun x hx => by rw [hSd.lo x hx]; decide), List.filter_eq_self.2 (fun x hx => by rw [hSd.hi x hx]; rfl), List.nil_append]
  rw [cvI_side hok e1 (hS.take _) (fun he => by rw [he] at tk; simp at tk; omega) (by omega), cvI_side hok e2 (hS.drop _) (fun he => by rw [he] at dr; simp at dr; omega) (by omega), ← hSd.jA, ← hSd.jB]; rfl
end Go.Proofs.YtcmgpkibjdbonaaGreat
set_option maxHeartbeats 16000000
set_option maxRecDepth 100000
namespace Go.Proofs.YtcmgpkibjdbonaaGreat
open Go Go.RowKit
/-- The leaf of a label among leaves. -/
def hasLf (l : List Lef) (x : List UInt8) : Bool := l.any (fun y => y.l == x)
def fndL (l : List Lef) (x : List UInt8) : Lef := (l.find? (fun y => y.l == x)).getD lef0
theorem sfind1_spec (x : Lef) (g : List UInt8) : Spec Tryz.prog 187 ([x.A] ++ [.cp (labA g)]) [] (fun v os => v = .b (x.l == g) ∧ os = []) := by
  show Spec Tryz.prog 187 [.agg [labA x.l, labA x.v, .i .i64 x.t], .cp (labA g)] [] _
  refine spec_of TtOk [] Tryz.func187 rfl Tryz.ntmps187 (by kernel_rfl) rfl rfl (fun C => ?_) rfl
  repeat' (first | refine Awp.seq ?_ | refine Awp.region ?_ | refine Ops.nil (nqA ?_) | refine Awp.ret (nqE ?_) | (refine o_calm rfl TtOk rfl rfl rfl ?_ (fun _ => ?_); exact nd) | refine o_box (d := 2) rfl rfl rfl rfl (fun b2 => ?_) | refine o_eqArr8 TtOk rfl rfl rfl rfl rfl rfl (by kernel_rfl) ?_)
  exact nq2
theorem sfind_spec (l : List Lef) (g : List UInt8) (hl : l.length ≤ 100000) : Spec Tryz.prog 105 [.sl 65 (l.map Lef.A), labA g] [] (fun v os => v = .tup [(fndL l g).A, .b (hasLf l g)] ∧ os = []) := by
  have hx := ixL_spec l 187 [.cp (labA g)] rfl (fun y => y.l == g) (fun x _ => sfind1_spec x g) hl
  refine spec_of TtOk [] Tryz.func105 rfl Tryz.ntmps105 (by kernel_rfl) rfl rfl (fun C => ?_) rfl
  by_cases hm : l.any (fun y => y.l == g) = true
  · rw [if_pos hm] at hx
    have hlt := List.findIdx_lt_length_of_exists (List.any_eq_true.1 hm)
    have hf : fndL l g = l[l.findIdx (fun y => y.l == g)] := by
      unfold fndL
      rw [List.find?_eq_getElem?_findIdx, List.getElem?_eq_getElem hlt]; rfl
    have hh : hasLf l g = true := hm
    rw [hf, hh]
    generalize l.findIdx (fun y => y.l == g) = i at *
    repeat' (first | (refine a_freezeV 3 3 rfl rfl rfl ?_) | refine Awp.seq ?_ | refine Awp.region ?_ | refine Ops.nil (nqA ?_) | refine Awp.skip (nqA ?_) | refine Awp.ret (nqE ?_) | (refine o_calm rfl TtOk rfl rfl rfl ?_ (fun _ => ?_); exact nd) | refine o_alloc (d := 4) rfl TtOk rfl rfl rfl (fun b4 => ?_) | refine o_box (d := 3) rfl rfl rfl rfl (fun b3 => ?_) | refine o_store TtOk rfl rfl rfl rfl rfl rfl rfl ⟨rfl, rfl⟩ rfl rfl rfl rfl rfl ?_ | (refine o_index rfl TtOk rfl rfl rfl rfl rfl rfl ?_ (getq_nat ?_) ?_; omega; omega) | refine a_condF rfl ?_ | (refine o_makeFunc1 rfl rfl rfl rfl rfl ?_) | refine o_callE rfl (hx) ⟨nqS, nqS, True.intro⟩ rfl ?_)
    all_goals
      refine end_all [] [] (.tup [l[i].A, .b true]) rfl ?_ ?_ (rle_tup2 (CLe.of_eq rfl) (CLe.of_eq rfl) rfl rfl) .nil ⟨rfl, rfl⟩ _ (.inl rfl)
      · exact nq1
      · exact ⟨trivial, trivial, trivial⟩
  · rw [if_neg hm] at hx
    have hf : fndL l g = lef0 := by
      unfold fndL
      rw [List.find?_eq_none.2 (fun x hx hc => hm (List.any_eq_true.2 ⟨x, hx, by simpa using hc⟩))]; rfl
    have hh : hasLf l g = false := by
      unfold hasLf
      revert hm
      cases l.any (fun y => y.l == g) <;> simp
    rw [hf, hh]
    repeat' (first | (refine a_freezeV 3 3 rfl rfl rfl ?_) | refine Awp.seq ?_ | refine Awp.region ?_ | refine Ops.nil (nqA ?_) | refine Awp.ret (nqE ?_) | (refine o_calm rfl TtOk rfl rfl rfl ?_ (fun _ => ?_); exact nd) | refine o_alloc (d := 4) rfl TtOk rfl rfl rfl (fun b4 => ?_) | refine o_box (d := 3) rfl rfl rfl rfl (fun b3 => ?_) | refine o_store TtOk rfl rfl rfl rfl rfl rfl rfl ⟨rfl, rfl⟩ rfl rfl rfl rfl rfl ?_ | refine o_build TtOk rfl rfl rfl rfl rfl rfl nq1 ?_ | refine a_condT rfl ?_ | (refine o_makeFunc1 rfl rfl rfl rfl rfl ?_) | refine o_callE rfl (hx) ⟨nqS, nqS, True.intro⟩ rfl ?_)
    all_goals
      refine end_all [] [] (.tup [lef0.A, .b false]) rfl ?_ ?_ (rle_tup2 (CLe.of_eq rfl) (CLe.of_eq rfl) rfl rfl) .nil ⟨rfl, rfl⟩ _ (.inl rfl)
      · exact nq1
      · exact ⟨trivial, trivial, trivial⟩
end Go.Proofs.YtcmgpkibjdbonaaGreat
namespace Go.Proofs.YtcmgpkibjdbonaaGreat
open Go Go.RowKit
section
variable {m : OM} {P : Program} {T : List (Nat × TI)} {C : Ctx} {ops : Array Oper} {l : List Oper} {K : St → Prop} {n : Nat} {sl : List (Nat × AV)} {hp : List (Nat × HO)} {d : Nat} {ty : Nat} {pos : String} {aft : Array Edge} {gd : Option (Nat × Bool)}
end
end Go.Proofs.YtcmgpkibjdbonaaGreat
namespace Go.Proofs.YtcmgpkibjdbonaaGreat
open Go Go.RowKit
section
variable {P : Program} {C : Ctx} {S : St}
theorem AnyT.three {ops : Array Oper} {o1 o2 o3 : Oper} {tk so qs : List Nat} {n : Nat} {listed : Array Bool} {S : St} {K : St → Prop} (i1 i2 i3 : Nat) (hr : Region.ready .any ops listed = [i1, i2, i3]) (h1 : ops[i1]? = some o1) (h2 : ops[i2]? = some o2) (h3 : ops[i3]? = some o3)
    (k1 : Ops (.one tk so qs) P C ops [o1] S (fun S' => AnyT P C ops tk so qs n (listed.setIfInBounds i1 true) S' K)) (k2 : Ops (.one tk so qs) P C ops [o2] S (fun S' => AnyT P C ops tk so qs n (listed.setIfInBounds i2 true) S' K)) (k3 : Ops (.one tk so qs) P C ops [o3] S (fun S' => AnyT P C ops tk so qs n (listed.setIfInBounds i3 true) S' K)) : AnyT P C ops tk so qs (n + 1) listed S K := by
  refine ⟨fun Q a w hs f2 hQ hK => ⟨fun h => (by rw [hr] at h; cases h), fun i hi => ?_⟩⟩
  rw [hr] at hi
  simp only [List.mem_cons, List.not_mem_nil, or_false] at hi
  rcases hi with rfl | rfl | rfl
  · exact k1.out Q (fun G a' w' => wpAnyR P ops qs Q n (listed.setIfInBounds i true) G a' w') a w hs (fun S' a' w' h1 h2 => h1.out Q a' w' h2 f2 hQ hK) i h1
  · exact k2.out Q (fun G a' w' => wpAnyR P ops qs Q n (listed.setIfInBounds i true) G a' w') a w hs (fun S' a' w' h1 h2 => h1.out Q a' w' h2 f2 hQ hK) i h2
  · exact k3.out Q (fun G a' w' => wpAnyR P ops qs Q n (listed.setIfInBounds i true) G a' w') a w hs (fun S' a' w' h1 h2 => h1.out Q a' w' h2 f2 hQ hK) i h3
end
/-! Labels as keys. -/
def vL (l : List UInt8) : Value := .agg (l.map fun c => Value.int .u8 (c.toNat : Int)).toArray
section
variable {P : Program} (w : World)
structure LabK (P : Program) (kt : TypeId) (k : Nat) : Prop where
  ex : ∃ e ie, P.underlying kt = some (.array k e) ∧ P.underlying e = some (.int .u8) ∧ P.info? e = some ie ∧ P.cellsOf e = 1
theorem equal_lab {kt k : Nat} (hk : LabK P kt k) {a b : List UInt8} (ha : a.length = k) (hb : b.length = k) : (Op.equal kt (vL a) (vL b)).run P w = .ok (a == b) w := by
  obtain ⟨e, ie, hu, hue, hie, hco⟩ := hk.ex
  have hpk : P.plainKey e = true := by unfold Program.plainKey; rw [hue]
  have h1 := run_equalIn_array (P := P) w 9999 (a.map fun c => Value.int .u8 (c.toNat : Int)).toArray (b.map fun c => Value.int .u8 (c.toNat : Int)).toArray hu hie
  rw [hco, eqItems_bytes hue hpk 9998 a b (List.range k) (fun i hi => by have := List.mem_range.1 hi; omega), all_range_eq a b k ha hb] at h1
  exact h1
theorem check_lab {kt k : Nat} (hk : LabK P kt k) {a : List UInt8} (ha : a.length = k) (em : Bool) : (Instr.checkKey em 10000 kt (vL a)).run P w = .ok () w := by
  obtain ⟨e, ie, hu, hue, hie, hco⟩ := hk.ex
  have hpk : P.plainKey e = true := by unfold Program.plainKey; rw [hue]
  rw [show (10000 : Nat) = 9999 + 1 from rfl, Instr.checkKey]
  unfold vL
  simp only [Sem.run_bind, run_underlying hu, Result.andThen_ok]
  simp only [Std.Legacy.Range.forIn_eq_forIn_range', Std.Legacy.Range.size, Nat.sub_zero, Nat.add_one_sub_one, Nat.div_one]
  have each : ∀ i ∈ List.range' 0 k, i < a.length := fun i hi => by
    rw [List.mem_range'_1] at hi; omega
  generalize List.range' 0 k = is at each
  induction is with
  | nil => simp
  | cons j is ih =>
    have hj := each j (List.mem_cons_self ..)
    have p1 := run_part_plain (P := P) w hpk (xs := (a.map fun c => Value.int .u8 (c.toNat : Int)).toArray) (off := j * 1) (v := .int .u8 (a[j].toNat : Int)) (by simp [hj])
    have p2 : (Instr.checkKey em 9999 e (.int .u8 (a[j].toNat : Int))).run P w = .ok () w := by
      rw [show (9999 : Nat) = 9998 + 1 from rfl, Instr.checkKey]
      simp only [Sem.run_bind, run_underlying hue, Result.andThen_ok, Sem.run_pure]
    simp only [List.forIn_cons, Sem.run_bind, run_sizeOf w hie, hco, Result.andThen_ok, p1, p2, Sem.run_pure]
    exact ih (fun y hy => each y (List.mem_cons_of_mem _ hy))
def entL (j : Nat) (l : List (List UInt8)) : List MapEntry := ((l.map vL).zipIdx j).map (fun p => (⟨p.1, .bool true, p.2⟩ : MapEntry))
theorem ask_lab {kt k : Nat} (hk : LabK P kt k) {a : List UInt8} (ha : a.length = k) : ∀ (l : List (List UInt8)) (j i : Nat), (∀ x ∈ l, x.length = k) →
    (Instr.findAsking kt (vL a) (entL j l) i).run P w = .ok (if l.contains a = true then some (i + l.idxOf a, .bool true) else none) w
  | [], j, i, _ => by simp [entL, Instr.findAsking]
  | x :: l, j, i, hl => by
    have ih := ask_lab hk ha l (j + 1) (i + 1) (fun y hy => hl y (List.mem_cons_of_mem _ hy))
    have he := equal_lab w hk ha (hl x (List.mem_cons_self ..))
    have e : entL j (x :: l) = ⟨vL x, .bool true, j⟩ :: entL (j + 1) l := by unfold entL; rw [List.map_cons, List.zipIdx_cons, List.map_cons]
    rw [e, Instr.findAsking]
    simp only [Sem.run_bind, he, Result.andThen_ok]
    rw [List.contains_cons]
    by_cases hax : a = x
    · subst hax
      simp [Sem.run_pure]
    · have hb : (a == x) = false := beq_eq_false_iff_ne.2 hax
      rw [hb]
      simp only [Bool.false_eq_true, if_false, ih, Bool.false_or]
      have hi : (x :: l).idxOf a = l.idxOf a + 1 := by rw [List.idxOf_cons]; simp [beq_eq_false_iff_ne.2 (Ne.symm hax)]
      rw [hi, show i + (l.idxOf a + 1) = i + 1 + l.idxOf a by omega]
theorem find_lab {kt k : Nat} (hk : LabK P kt k) {a : List UInt8} (ha : a.length = k) (l : List (List UInt8)) (hl : ∀ x ∈ l, x.length = k) :
    (Instr.findKey kt (vL a) (entL 0 l)).run P w = .ok (if l.contains a = true then some (l.idxOf a, .bool true) else none) w := by
  obtain ⟨e, ie, hu, hue, hie, hco⟩ := hk.ex
  rw [run_findKey_eq w (by rw [hu]), ask_lab w hk ha l 0 0 hl, Nat.zero_add]
theorem sameBits_lab (a : List UInt8) : Instr.sameBits 10000 (vL a) (vL a) = true := by
  unfold vL
  show (_ == _ && _) = true
  rw [Bool.and_eq_true]
  refine ⟨beq_self_eq_true _, ?_⟩
  rw [List.all_eq_true]
  rintro ⟨x, y⟩ hxy
  have hxx : x = y := by
    obtain ⟨i, hi, he⟩ := List.getElem_of_mem hxy
    rw [List.getElem_zip] at he
    exact (Prod.mk.inj he).1.symm.trans (Prod.mk.inj he).2
  have hx : x ∈ (a.map fun c => Value.int .u8 (c.toNat : Int)) := by
    have := (List.of_mem_zip hxy).1
    simpa using this
  obtain ⟨c, _, rfl⟩ := List.mem_map.1 hx
  subst hxx
  show (IntKind.u8 == IntKind.u8 && (c.toNat : Int) == (c.toNat : Int)) = true
  rw [beq_self_eq_true, Bool.true_and, beq_self_eq_true]
theorem entL_len (l : List (List UInt8)) : (entL 0 l).length = l.length := by simp [entL]
theorem entL_get (l : List (List UInt8)) (i : Nat) (h : i < l.length) : (entL 0 l)[i]? = some ⟨vL l[i], .bool true, i⟩ := by
  simp [entL, h]
theorem setO_ent (l : List (List UInt8)) : setO (l.map vL) = .map (entL 0 l).toArray l.length := by unfold setO entL; rw [List.length_map]
def addK (l : List (List UInt8)) (a : List UInt8) : List (List UInt8) := if l.contains a = true then l else l ++ [a]
theorem addK_len {k : Nat} {l : List (List UInt8)} {a : List UInt8} (hl : ∀ x ∈ l, x.length = k) (ha : a.length = k) : ∀ x ∈ addK l a, x.length = k := fun x hx => by
  unfold addK at hx
  split at hx
  · exact hl x hx
  · rcases List.mem_append.1 hx with hx | hx
    · exact hl x hx
    · rw [List.mem_singleton.1 hx]; exact ha
theorem addK_mem (l : List (List UInt8)) (a g : List UInt8) : (addK l a).contains g = (l.contains g || (g == a)) := by
  unfold addK
  split
  · rename_i h
    by_cases hg : g = a
    · subst hg; rw [h]; rfl
    · rw [beq_eq_false_iff_ne.2 hg, Bool.or_false]
  · rw [Bool.eq_iff_iff, Bool.or_eq_true, List.contains_iff_mem, List.contains_iff_mem, List.mem_append, List.mem_singleton, beq_iff_eq]
theorem idx_get {l : List (List UInt8)} {a : List UInt8} (h : l.contains a = true) : ∃ hi : l.idxOf a < l.length, l[l.idxOf a] = a := by
  have hm := List.contains_iff_mem.1 h
  have hi := List.idxOf_lt_length_of_mem hm
  exact ⟨hi, List.getElem_idxOf hi⟩
theorem arr_modify_same {α : Type} {xs : Array α} {i : Nat} {f : α → α} (h : ∀ x, xs[i]? = some x → f x = x) : xs.modify i f = xs := by
  apply Array.ext
  · simp
  · intro j h1 h2
    rw [Array.getElem_modify]
    split
    · rename_i hij
      subst hij
      exact h _ (Array.getElem?_eq_getElem h2)
    · rfl
/-- The map while a new entry has no value yet; the entry's stamp. -/
def entO (l : List (List UInt8)) (a : List UInt8) : Obj := if l.contains a = true then setO (l.map vL) else .map ((entL 0 l).toArray.push ⟨vL a, .bool false, l.length⟩) (l.length + 1)
theorem getObj_run {b : Nat} {es : Array MapEntry} {c : Nat} (hb : w.heap[b]? = some (.map es c)) : (getObj b).run P w = .ok (.map es c) w := by unfold getObj; simp [Sem.run, hb]
theorem setObj_run {b : Nat} {es es' : Array MapEntry} {c c' : Nat} (hb : w.heap[b]? = some (.map es c)) : (setObj b (.map es' c')).run P w = .ok () (setB w b (.map es' c')) := by
  simp only [setObj, Sem.run, hb]
  rfl
variable {b : Nat} {t kt et : TypeId} {k : Nat}
theorem lookup_lab (hk : LabK P kt k) (l : List (List UInt8)) (hl : ∀ x ∈ l, x.length = k) {a : List UInt8} (ha : a.length = k) (hb : w.heap[b]? = some (setO (l.map vL))) (ht : P.underlying t = some (.map kt et)) (hz : (zeroValue et).run P w = .ok (.bool false) w) :
    (Instr.lookup t (.map (some b)) (vL a) false).run P w = .ok (.bool (l.contains a)) w := by
  rw [setO_ent] at hb
  have hf := find_lab w hk ha l hl
  unfold Instr.lookup
  simp only [Sem.run_bind, run_underlying ht, Result.andThen_ok, Sem.run_pure, getObj_run w hb, check_lab w hk ha, hf]
  by_cases hc : l.contains a = true
  · rw [if_pos hc, hc]; simp [Sem.run_pure]
  · rw [if_neg hc]
    have hc : l.contains a = false := by revert hc; cases l.contains a <;> simp
    rw [hc]
    simp [hz]
theorem update_lab (hk : LabK P kt k) (l : List (List UInt8)) (hl : ∀ x ∈ l, x.length = k) {a : List UInt8} (ha : a.length = k) (hb : w.heap[b]? = some (setO (l.map vL))) (ht : P.underlying t = some (.map kt et)) :
    (Instr.mapUpdate t (.map (some b)) (vL a) (.bool true)).run P w = .ok () (setB w b (setO ((addK l a).map vL))) := by
  rw [setO_ent] at hb
  have hf := find_lab w hk ha l hl
  unfold Instr.mapUpdate
  simp only [Sem.run_bind, run_underlying ht, Result.andThen_ok, Sem.run_pure, getObj_run w hb, check_lab w hk ha, hf]
  unfold addK
  by_cases hc : l.contains a = true
  · rw [if_pos hc, if_pos hc]
    obtain ⟨hi, hg⟩ := idx_get hc
    have hgi : (entL 0 l).toArray[l.idxOf a]? = some ⟨vL a, .bool true, l.idxOf a⟩ := by rw [List.getElem?_toArray, entL_get l _ hi, hg]
    simp only [hgi, Option.map_some, Option.getD_some, Instr.keyThatStays, sameBits_lab, if_true, Sem.run_pure, Sem.run_bind, Result.andThen_ok]
    rw [arr_modify_same (fun x hx => by rw [hgi] at hx; cases hx; rfl), setObj_run w hb, setO_ent]
  · rw [if_neg hc, if_neg hc]
    simp only [setObj_run w hb]
    congr 2
    rw [setO_ent, List.length_append, List.length_singleton]
    congr 1
    unfold entL
    simp [List.zipIdx_append]
theorem entry_lab (hk : LabK P kt k) (l : List (List UInt8)) (hl : ∀ x ∈ l, x.length = k) {a : List UInt8} (ha : a.length = k) (hb : w.heap[b]? = some (setO (l.map vL))) (ht : P.underlying t = some (.map kt et)) (hz : (zeroValue et).run P w = .ok (.bool false) w) :
    (Instr.mapEntry t (.map (some b)) (vL a)).run P w = .ok (.tuple #[.bool (l.contains a), goInt (l.idxOf a : Nat)]) (setB w b (entO l a)) := by
  rw [setO_ent] at hb
  have hf := find_lab w hk ha l hl
  unfold Instr.mapEntry
  simp only [Sem.run_bind, run_underlying ht, Result.andThen_ok, Sem.run_pure, getObj_run w hb, check_lab w hk ha, hf]
  unfold entO
  by_cases hc : l.contains a = true
  · rw [if_pos hc, if_pos hc]
    obtain ⟨hi, hg⟩ := idx_get hc
    have hgi : (entL 0 l).toArray[l.idxOf a]? = some ⟨vL a, .bool true, l.idxOf a⟩ := by rw [List.getElem?_toArray, entL_get l _ hi, hg]
    simp only [hgi, Option.map_some, Option.getD_some, Instr.keyThatStays, sameBits_lab, if_true, Sem.run_pure, Sem.run_bind, Result.andThen_ok]
    rw [arr_modify_same (fun x hx => by rw [hgi] at hx; cases hx; rfl), setObj_run w hb, setO_ent, hc]
    rfl
  · rw [if_neg hc, if_neg hc]
    have hn : a ∉ l := fun hm => hc (List.contains_iff_mem.2 hm)
    have hc2 : l.contains a = false := by revert hc; cases l.contains a <;> simp
    simp only [Sem.run_bind, hz, setObj_run w hb, Result.andThen_ok, Sem.run_pure, hc2, List.idxOf_eq_length hn]
theorem stamp_find {es : Array MapEntry} (h : ∀ i (hi : i < es.size), es[i].born = i) {n : Nat} (hn : n < es.size) : es.findIdx? (fun e => (e.born : Int) == (n : Int)) = some n := by
  rw [Array.findIdx?_eq_some_iff_getElem]
  refine ⟨hn, by rw [h n hn]; exact beq_self_eq_true _, fun j hj => ?_⟩
  rw [h j (by omega)]
  simp only [beq_iff_eq]
  omega
theorem store_lab (l : List (List UInt8)) {a : List UInt8} (hb : w.heap[b]? = some (entO l a)) :
    (Instr.entryStore t (.map (some b)) (goInt (l.idxOf a : Nat)) (.bool true)).run P w = .ok () (setB w b (setO ((addK l a).map vL))) := by
  have hasInt : (asInt (goInt ((l.idxOf a : Nat) : Int))).run P w = .ok ((l.idxOf a : Nat) : Int) w := by
    simp [asInt, asIntOf, goInt, Sem.run_pure]
  unfold entO at hb
  unfold addK
  by_cases hc : l.contains a = true
  · rw [if_pos hc] at hb ⊢
    obtain ⟨hi, hg⟩ := idx_get hc
    rw [setO_ent] at hb
    have hgi : (entL 0 l).toArray[l.idxOf a]? = some ⟨vL a, .bool true, l.idxOf a⟩ := by rw [List.getElem?_toArray, entL_get l _ hi, hg]
    have hst := stamp_find (es := (entL 0 l).toArray) (fun i h2 => by
      have h3 : i < l.length := by simpa [entL_len] using h2
      have := entL_get l i h3
      rw [List.getElem_toArray]
      rw [List.getElem?_eq_getElem (by simpa using h2)] at this
      rw [Option.some.inj this]) (n := l.idxOf a) (by simpa [entL_len] using hi)
    unfold Instr.entryStore
    simp only [Sem.run_bind, Result.andThen_ok, getObj_run w hb, hasInt, hst]
    rw [arr_modify_same (fun x hx => by rw [hgi] at hx; cases hx; rfl), setObj_run w hb, setO_ent]
  · rw [if_neg hc] at hb ⊢
    have hn : a ∉ l := fun hm => hc (List.contains_iff_mem.2 hm)
    rw [List.idxOf_eq_length hn] at hasInt ⊢
    have hst := stamp_find (es := (entL 0 l).toArray.push ⟨vL a, .bool false, l.length⟩) (fun i h2 => by
      rw [Array.getElem_push]
      split
      · rename_i h4
        have h3 : i < l.length := by simpa [entL_len] using h4
        have := entL_get l i h3
        rw [List.getElem_toArray]
        rw [List.getElem?_eq_getElem (by simpa using h4)] at this
        rw [Option.some.inj this]
      · rename_i h4
        have h5 : i < l.length + 1 := by simpa [entL_len] using h2
        have h6 : ¬ i < l.length := by simpa [entL_len] using h4
        show l.length = i
        omega) (n := l.length) (by simp [entL_len])
    unfold Instr.entryStore
    simp only [Sem.run_bind, Result.andThen_ok, getObj_run w hb, hasInt, hst, setObj_run w hb]
    congr 2
    rw [setO_ent, List.length_append, List.length_singleton]
    congr 1
    apply Array.ext
    · simp [entL]
    · intro i h1 h2
      rw [Array.getElem_modify]
      have hle : (entL 0 (l ++ [a])).length = l.length + 1 := by rw [entL_len, List.length_append, List.length_singleton]
      have hgg : (entL 0 (l ++ [a])).toArray[i] = ⟨vL ((l ++ [a])[i]'(by rw [List.size_toArray, hle] at h2; rw [List.length_append, List.length_singleton]; exact h2)), .bool true, i⟩ := by
        rw [List.getElem_toArray]
        have := entL_get (l ++ [a]) i (by rw [List.size_toArray, hle] at h2; rw [List.length_append, List.length_singleton]; exact h2)
        rw [List.getElem?_eq_getElem (by rw [List.size_toArray] at h2; exact h2)] at this
        exact Option.some.inj this
      rw [hgg]
      rw [List.size_toArray, hle] at h2
      by_cases hil : i < l.length
      · rw [if_neg (by omega), Array.getElem_push_lt (by simpa [entL_len] using hil), List.getElem_toArray]
        have := entL_get l i hil
        rw [List.getElem?_eq_getElem (by rw [entL_len]; exact hil)] at this
        rw [Option.some.inj this, List.getElem_append_left hil]
      · have hie : i = l.length := by omega
        subst hie
        rw [if_pos rfl, Array.getElem_push]
        rw [dif_neg (by simp [entL_len])]
        simp
end
section
variable {m : OM} {P : Program} {T : List (Nat × TI)} {C : Ctx} {ops : Array Oper} {l : List Oper} {K : St → Prop} {n : Nat} {sl : List (Nat × AV)} {hp : List (Nat × HO)} {d : Nat} {ty : Nat} {pos : String} {aft : Array Edge} {gd : Option (Nat × Bool)}
theorem lab_key (hT : TTOk P T) {kt e k sz by0 by1 : Nat} {z0 z1 : AV} (ht : tget T kt = some ⟨.array k e, sz, by0, z0⟩) (he : tget T e = some ⟨.int .u8, 1, by1, z1⟩) : LabK P kt k := by
  obtain ⟨ie, hie, hies, _⟩ := (tget_ok hT he).inf
  exact ⟨e, ie, tk_array (tget_ok hT ht), tk_int (tget_ok hT he), hie, by unfold Program.cellsOf; rw [hie]; exact hies⟩
theorem labA_val {w : World} {F : Nat → Prop} {a : List UInt8} {u : Value} (h : repV w F (labA a) u) : u = vL a ∧ a.length = 32 := by
  obtain ⟨cs, hc, hv⟩ := h
  simp only [labA, repC] at hc
  obtain ⟨h1, h2⟩ := hc
  have := bytes_cells a cs h2
  subst this
  exact ⟨hv, by simpa using h1⟩
theorem o_lookupLab (hT : TTOk P T) (hw : gval ops ⟨n, sl, hp⟩ gd = gwant gd) {t kt et e sz by_ sz1 by1 sz2 by2 by3 k b : Nat} {z z2 z3 : AV} {x ix : Operand} (xs : List (List UInt8)) (hxs : ∀ x ∈ xs, x.length = 32) (y : List UInt8)
    (ht : tget T t = some ⟨.map kt et, sz, by_, z⟩) (hkt : tget T kt = some ⟨.array 32 e, sz2, by2, z2⟩) (he : tget T e = some ⟨.int .u8, 1, by3, z3⟩) (het : tget T et = some ⟨.bool, sz1, by1, .b false⟩)
    (hx : ev ⟨n, sl, hp⟩ x = .own k (.map (some b))) (hg : hget hp k = some (.obj b (setO (xs.map vL)))) (hy : ev ⟨n, sl, hp⟩ ix = labA y)
    (hd : Nat.blt d n = true) (h : Ops m P C ops l ⟨n, (d, .b (xs.contains y)) :: sl, hp⟩ K) : Ops m P C ops (⟨some d, .lookup t x ix false, ty, pos, aft, gd⟩ :: l) ⟨n, sl, hp⟩ K := by
  refine Ops.eff hw [] oke_nil rfl fun a w hs => ⟨.bool (xs.contains y), w, _, .b (xs.contains y), ?_, hs, hd, repV_b.2 rfl, Eff.same (Mod.refl _ w), h⟩
  have Ex := ev_rep hs x
  rw [hx, repV_own] at Ex
  have Ey := ev_rep hs ix
  rw [hy] at Ey
  obtain ⟨Ey, hl⟩ := labA_val Ey
  have hb : w.heap[b]? = some (setO (xs.map vL)) := hs.getHeap hg
  have := lookup_lab w (lab_key hT hkt he) xs hxs hl hb (map_desc hT ht) (bool_zero hT het w)
  simp only [execOp, Ex.1, Ey, Sem.run_bind, this, Result.andThen_ok, Sem.run_pure]
theorem o_updateLab (hT : TTOk P T) (hw : gval ops ⟨n, sl, hp⟩ gd = gwant gd) {t kt et e sz by_ sz2 by2 by3 k b : Nat} {z z2 z3 : AV} {x ix y : Operand} (xs : List (List UInt8)) (hxs : ∀ x ∈ xs, x.length = 32) (u : List UInt8)
    (ht : tget T t = some ⟨.map kt et, sz, by_, z⟩) (hkt : tget T kt = some ⟨.array 32 e, sz2, by2, z2⟩) (he : tget T e = some ⟨.int .u8, 1, by3, z3⟩)
    (hx : ev ⟨n, sl, hp⟩ x = .own k (.map (some b))) (hg : hget hp k = some (.obj b (setO (xs.map vL)))) (hi : ev ⟨n, sl, hp⟩ ix = labA u) (hy : ev ⟨n, sl, hp⟩ y = .b true)
    {hp' : List (Nat × HO)} (hm : m.oke none [k] = true) (hh : forceL (hset hp k (.obj b (setO ((addK xs u).map vL)))) = some hp') (h : Ops m P C ops l ⟨n, sl, hp'⟩ K) : Ops m P C ops (⟨none, .mapUpdate t x ix y, ty, pos, aft, gd⟩ :: l) ⟨n, sl, hp⟩ K := by
  have hh := forceL_eq _ _ hh
  subst hh
  refine Ops.effS hw [k] hm rfl fun a w hs => ?_
  have Ex := ev_rep hs x
  rw [hx, repV_own] at Ex
  have Ei := ev_rep hs ix
  rw [hi] at Ei
  obtain ⟨Ei, hl⟩ := labA_val Ei
  have Ey := ev_rep hs y
  rw [hy, repV_b] at Ey
  have hb : w.heap[b]? = some (setO (xs.map vL)) := hs.getHeap hg
  have hlt := (Array.getElem?_eq_some_iff.1 hb).1
  have hrun := update_lab w (lab_key hT hkt he) xs hxs hl hb (map_desc hT ht)
  have hm0 : Mod (fun b' => HO.blk (.obj b (setO (xs.map vL))) = some b') w (setB w b (setO ((addK xs u).map vL))) := Mod.setB_ (S := fun b' => HO.blk (.obj b (setO (xs.map vL))) = some b') rfl _
  refine ⟨_, ⟨n, sl, hset hp k (.obj b (setO ((addK xs u).map vL)))⟩, ?_, hs.swap hg (.obj b (setO ((addK xs u).map vL))) hm0 ?_ (fun b' hb' => ?_), Eff.swap hg hm0 (fun _ h => .inl h), h⟩
  · simp only [execOp, Ex.1, Ei, Ey, Sem.run_bind, hrun, Result.andThen_ok, Sem.run_pure]
  · show (w.heap.setIfInBounds b _)[b]? = _
    rw [Array.getElem?_setIfInBounds_self_of_lt hlt]
  · have : b = b' := by simpa [HO.blk] using hb'
    subst this
    exact ⟨by simpa [setB] using hlt, .inl rfl⟩
theorem o_entryLab (hT : TTOk P T) (hw : gval ops ⟨n, sl, hp⟩ gd = gwant gd) {t kt et e sz by_ sz1 by1 sz2 by2 by3 k b : Nat} {z z2 z3 : AV} {x ix : Operand} (xs : List (List UInt8)) (hxs : ∀ x ∈ xs, x.length = 32) (u : List UInt8)
    (ht : tget T t = some ⟨.map kt et, sz, by_, z⟩) (hkt : tget T kt = some ⟨.array 32 e, sz2, by2, z2⟩) (he : tget T e = some ⟨.int .u8, 1, by3, z3⟩) (het : tget T et = some ⟨.bool, sz1, by1, .b false⟩)
    (hx : ev ⟨n, sl, hp⟩ x = .own k (.map (some b))) (hg : hget hp k = some (.obj b (setO (xs.map vL)))) (hi : ev ⟨n, sl, hp⟩ ix = labA u) (hd : Nat.blt d n = true)
    {hp' : List (Nat × HO)} (hm : m.oke (some d) [k] = true) (hh : forceL (hset hp k (.obj b (entO xs u))) = some hp') (h : Ops m P C ops l ⟨n, (d, .tup [.b (xs.contains u), .i .i64 (xs.idxOf u : Nat)]) :: sl, hp'⟩ K) : Ops m P C ops (⟨some d, .mapEntry t x ix, ty, pos, aft, gd⟩ :: l) ⟨n, sl, hp⟩ K := by
  have hh := forceL_eq _ _ hh
  subst hh
  refine Ops.eff hw [k] hm rfl fun a w hs => ?_
  have Ex := ev_rep hs x
  rw [hx, repV_own] at Ex
  have Ei := ev_rep hs ix
  rw [hi] at Ei
  obtain ⟨Ei, hl⟩ := labA_val Ei
  have hb : w.heap[b]? = some (setO (xs.map vL)) := hs.getHeap hg
  have hlt := (Array.getElem?_eq_some_iff.1 hb).1
  have hrun := entry_lab w (lab_key hT hkt he) xs hxs hl hb (map_desc hT ht) (bool_zero hT het w)
  have hm0 : Mod (fun b' => HO.blk (.obj b (setO (xs.map vL))) = some b') w (setB w b (entO xs u)) := Mod.setB_ (S := fun b' => HO.blk (.obj b (setO (xs.map vL))) = some b') rfl _
  refine ⟨.tuple #[.bool (xs.contains u), goInt (xs.idxOf u : Nat)], _, ⟨n, sl, hset hp k (.obj b (entO xs u))⟩, .tup [.b (xs.contains u), .i .i64 (xs.idxOf u : Nat)], ?_, hs.swap hg (.obj b (entO xs u)) hm0 ?_ (fun b' hb' => ?_), hd, ?_, Eff.swap hg hm0 (fun _ h => .inl h), h⟩
  · simp only [execOp, Ex.1, Ei, Sem.run_bind, hrun, Result.andThen_ok, Sem.run_pure]
  · show (w.heap.setIfInBounds b _)[b]? = _
    rw [Array.getElem?_setIfInBounds_self_of_lt hlt]
  · have : b = b' := by simpa [HO.blk] using hb'
    subst this
    exact ⟨by simpa [setB] using hlt, .inl rfl⟩
  · refine ⟨[.bool (xs.contains u), goInt (xs.idxOf u : Nat)], rfl, rfl, fun i x v hx hv => ?_⟩
    rcases i with _ | _ | i
    · simp only [List.getElem?_cons_zero, Option.some.injEq] at hx hv
      subst hx; subst hv
      exact .inr ⟨[.bool (xs.contains u)], by simp [repC], rfl⟩
    · simp only [List.getElem?_cons_succ, List.getElem?_cons_zero, Option.some.injEq] at hx hv
      subst hx; subst hv
      exact .inr ⟨[goInt (xs.idxOf u : Nat)], by simp [repC, goInt], rfl⟩
    · simp at hx
theorem o_entryStoreLab (hw : gval ops ⟨n, sl, hp⟩ gd = gwant gd) {t k b : Nat} {x ix y : Operand} (xs : List (List UInt8)) (u : List UInt8)
    (hx : ev ⟨n, sl, hp⟩ x = .own k (.map (some b))) (hg : hget hp k = some (.obj b (entO xs u))) (hi : ev ⟨n, sl, hp⟩ ix = .i .i64 (xs.idxOf u : Nat)) (hy : ev ⟨n, sl, hp⟩ y = .b true)
    {hp' : List (Nat × HO)} (hm : m.oke none [k] = true) (hh : forceL (hset hp k (.obj b (setO ((addK xs u).map vL)))) = some hp') (h : Ops m P C ops l ⟨n, sl, hp'⟩ K) : Ops m P C ops (⟨none, .entryStore t x ix y, ty, pos, aft, gd⟩ :: l) ⟨n, sl, hp⟩ K := by
  have hh := forceL_eq _ _ hh
  subst hh
  refine Ops.effS hw [k] hm rfl fun a w hs => ?_
  have Ex := ev_rep hs x
  rw [hx, repV_own] at Ex
  have Ei := ev_rep hs ix
  rw [hi, repV_i] at Ei
  have Ey := ev_rep hs y
  rw [hy, repV_b] at Ey
  have hb : w.heap[b]? = some (entO xs u) := hs.getHeap hg
  have hlt := (Array.getElem?_eq_some_iff.1 hb).1
  have hrun := store_lab (P := P) w (t := t) xs hb
  have hm0 : Mod (fun b' => HO.blk (.obj b (entO xs u)) = some b') w (setB w b (setO ((addK xs u).map vL))) := Mod.setB_ (S := fun b' => HO.blk (.obj b (entO xs u)) = some b') rfl _
  refine ⟨_, ⟨n, sl, hset hp k (.obj b (setO ((addK xs u).map vL)))⟩, ?_, hs.swap hg (.obj b (setO ((addK xs u).map vL))) hm0 ?_ (fun b' hb' => ?_), Eff.swap hg hm0 (fun _ h => .inl h), h⟩
  · have hrun : (Instr.entryStore t (.map (some b)) (.int .i64 (xs.idxOf u : Nat)) (.bool true)).run P w = .ok () (setB w b (setO ((addK xs u).map vL))) := hrun
    simp only [execOp, Ex.1, Ei, Ey, Sem.run_bind, hrun, Result.andThen_ok, Sem.run_pure]
  · show (w.heap.setIfInBounds b _)[b]? = _
    rw [Array.getElem?_setIfInBounds_self_of_lt hlt]
  · have : b = b' := by simpa [HO.blk] using hb'
    subst this
    exact ⟨by simpa [setB] using hlt, .inl rfl⟩
end
end Go.Proofs.YtcmgpkibjdbonaaGreat
