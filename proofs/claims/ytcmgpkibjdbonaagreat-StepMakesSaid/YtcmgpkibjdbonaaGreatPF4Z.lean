/- proof.Proof.Nodes by rules. -/
import Derived.Test.YtcmgpkibjdbonaaGreatKR2Z
import Derived.Test.YtcmgpkibjdbonaaGreatC4
import Derived.Test.YtcmgpkibjdbonaaGreatV16Z
import Derived.DeepKeys3
import Derived.Test.YtcmgpkibjdbonaaGreatG6Z
import Derived.Test.YtcmgpkibjdbonaaGreatR6Z
set_option maxHeartbeats 16000000
set_option maxRecDepth 100000
namespace Go.Proofs.YtcmgpkibjdbonaaGreat
open Go Go.RowKit
end Go.Proofs.YtcmgpkibjdbonaaGreat
set_option maxHeartbeats 4000000
namespace Go.Proofs.YtcmgpkibjdbonaaGreat
open Go Go.RowKit
/-- A node that is right. -/
def Nod.gd : Nod → Prop
  | .no => False
  | .lf x => x.ok ∧ chkLf x = 0
  | .inn x y => x.ok ∧ y.ok ∧ chkN x y = 0
theorem chkN_good {x y : Itm} (h : chkN x y = 0) : goodI x = true ∧ goodI y = true ∧ ((comL x.l y.l : Nat) : Int) < x.n ∧ ((comL x.l y.l : Nat) : Int) < y.n ∧ ¬ 0 < cmpS x.l y.l := by
  unfold chkN at h
  split at h
  · rename_i hg
    split at h
    · cases h
    · rename_i hn
      exact ⟨hg.1, hg.2, by omega, by omega, by omega⟩
  · cases h
/-- A way that is told, the top first. -/
def Chain (lb : List UInt8) : List Nod → Prop
  | [] => False
  | [n] => n.gd ∧ ∀ a b, n = .inn a b → hasP (innI a b).p lb = false
  | n :: m :: r => n.gd ∧ (∃ a b, n = .inn a b ∧ hasP (innI a b).p lb = true ∧ m.itm = if bitL lb (comL a.l b.l) = 1 then b else a) ∧ Chain lb (m :: r)
theorem Chain.gd {lb : List UInt8} {n : Nod} {r : List Nod} (h : Chain lb (n :: r)) : n.gd := by
  cases r with
  | nil => exact h.1
  | cons m r => exact h.1
/-- The lowest node of a proof. -/
def lowN (p : Prf) : Nod := if p.e = 1 then .lf p.lf else .inn p.a p.b
/-- The text of the top of leaves; the side of a label. -/
def rlT (l : List Lef) : List UInt8 := if l = [] then [18] else if l.length = 1 then leafB (l.headD lef0) else innB (parA (l.map leafI)) (parB (l.map leafI))
def sdL (l : List Lef) (lb : List UInt8) : List Lef := if 1 < l.length then (if bitL lb (frkI (l.map leafI)) = 1 then l.drop (splI (l.map leafI)) else l.take (splI (l.map leafI))) else l
def clsh (a b : List UInt8) : Bool := a != b && shaN a == shaN b
/-- The first node that is unlike, the top first. -/
def exL : List Nod → List Lef → List UInt8 → List UInt8 × List UInt8 × Bool
  | [], _, _ => ([], [], false)
  | n :: r, l, lb => if n.txt = rlT l then exL r (sdL l lb) lb else (n.txt, rlT l, clsh n.txt (rlT l))
def exC (c : List Nod) (l : List Lef) (lb : List UInt8) : List UInt8 × List UInt8 × Bool :=
  if c = [] then (if [18] = rlT l then ([], [], false) else ([18], rlT l, clsh [18] (rlT l))) else exL c l lb
/-- The first two of texts that are unlike. -/
def exR : List (List UInt8) → List (List UInt8) → List UInt8 × List UInt8 × Bool
  | a :: s, b :: t => if a = b then exR s t else (a, b, shaN a == shaN b)
  | _, _ => ([], [], false)
/-- The node that leaves are. -/
def rlN (l : List Lef) : Nod := if l.length = 1 then .lf (l.headD lef0) else .inn (parA (l.map leafI)) (parB (l.map leafI))
theorem Rsn.node {l : List Lef} (h : Rsn l) (hn : l ≠ []) : (rlN l).gd ∧ (rlN l).txt = rlT l ∧ (rlN l).itm = jnI l := by
  have hp : 0 < l.length := List.length_pos_iff.2 hn
  unfold rlN rlT
  rw [if_neg hn]
  by_cases h1 : l.length = 1
  · rw [if_pos h1, if_pos h1]
    obtain ⟨x, rfl⟩ := List.length_eq_one_iff.1 h1
    refine ⟨⟨h.ok x (List.mem_cons_self ..), ?_⟩, rfl, rfl⟩
    have := good_t (h.good x (List.mem_cons_self ..))
    have e : (leafI x).t = x.t := rfl
    unfold chkLf
    exact if_neg (by show ¬ (x.t < 0 ∨ 1073741824 < x.t); omega)
  · rw [if_neg h1, if_neg h1]
    have hS := h.sides (by omega)
    exact ⟨⟨hS.oA, hS.oB, hS.chk⟩, rfl, hS.jn.symm⟩
end Go.Proofs.YtcmgpkibjdbonaaGreat
set_option maxHeartbeats 4000000
namespace Go.Proofs.YtcmgpkibjdbonaaGreat
open Go Go.RowKit
/-- What a proof says of a label in the tree of a sum. -/
def chkE (p : Prf) (top lb : List UInt8) : Int := if (ndsF p lb).2 ≠ 0 then (ndsF p lb).2 else if nsum (ndsF p lb).1 = top then 0 else 11
def chkB (p : Prf) (lb : List UInt8) : Bool := p.e == 1 && p.lf.l == lb
/-- The texts of the tree's way, the top first. -/
def wayT (L : List Lef) (lb : List UInt8) : List (List UInt8) := if srtL L = [] then [[18]] else (wayN (L.length + 1) (srtL L) lb).map Nod.txt
def toldT (p : Prf) (lb : List UInt8) : List (List UInt8) := if (ndsF p lb).1 = [] then [[18]] else (ndsF p lb).1.reverse.map Nod.txt
end Go.Proofs.YtcmgpkibjdbonaaGreat
set_option maxHeartbeats 16000000
set_option maxRecDepth 100000
namespace Go.Proofs.YtcmgpkibjdbonaaGreat
open Go Go.RowKit
def exP (L : List Lef) (p : Prf) (lb : List UInt8) : List UInt8 × List UInt8 × Bool := if (ndsF p lb).2 ≠ 0 ∨ mkE L ≠ 0 then ([], [], false) else exC (ndsF p lb).1.reverse (srtL L) lb
theorem Chain.all {lb : List UInt8} : ∀ {c : List Nod}, Chain lb c → ∀ n ∈ c, n.gd
  | [], h, n, hn => by cases hn
  | [m], h, n, hn => by rw [List.mem_singleton.1 hn]; exact h.1
  | m :: q :: r, h, n, hn => by
    rcases List.mem_cons.1 hn with rfl | hn
    · exact h.1
    · exact Chain.all h.2.2 n hn
end Go.Proofs.YtcmgpkibjdbonaaGreat
set_option maxHeartbeats 16000000
set_option maxRecDepth 100000
namespace Go.Proofs.YtcmgpkibjdbonaaGreat
open Go Go.RowKit
end Go.Proofs.YtcmgpkibjdbonaaGreat
set_option maxHeartbeats 4000000
namespace Go.Proofs.YtcmgpkibjdbonaaGreat
open Go Go.RowKit
theorem chk_rsn {l : List Lef} (h : Rsn l) (hl : l.length ≤ 2000) : chkI (l.map leafI) = 0 := by
  refine chkI_zero (by rw [List.length_map]; exact hl) h.goodI ?_ h.rise
  rw [List.pairwise_map]
  exact List.Pairwise.imp_of_mem (fun {a b} ha hb hab => leaf_anti (h.ok a ha) (h.ok b hb) hab) (rise_ne h.rise)
theorem topU_chk (P : List Itm) (F : List Lef) : (chkI (topU P F) = 0 ↔ chkI (srtI (P ++ F.map leafI)) = 0) ∧ (chkI (srtI (P ++ F.map leafI)) = 0 → topU P F = srtI (P ++ F.map leafI)) := by
  have hp : (P ++ itmsL F).Perm (P ++ F.map leafI) := List.Perm.append_left _ (srtI_perm _)
  have h1 : chkI (srtI (P ++ F.map leafI)) = 0 → topU P F = srtI (P ++ F.map leafI) := fun hc => srt_eq hp hc
  have h2 : chkI (topU P F) = 0 → srtI (P ++ F.map leafI) = topU P F := fun hc => srt_eq hp.symm hc
  exact ⟨⟨fun hc => by rw [h2 hc]; exact hc, fun hc => by rw [h1 hc]; exact hc⟩, h1⟩
theorem topU_srt (P : List Itm) (F : List Lef) : topU P (srtL F) = topU P F := by unfold topU; rw [itms_srt]
theorem rise_neI {l : List Itm} (h : RiseI l) : l.Pairwise (fun a b => a.l ≠ b.l) := h.imp (fun {a b} hab he => by
  rw [he, cmpS_eq] at hab; omega)
theorem fresh_ok {P : List Itm} {F : List Lef} (h : chkI (srtI (P ++ F.map leafI)) = 0) : (∀ x ∈ F, 0 ≤ x.t ∧ x.t ≤ 1073741824) ∧ F.Pairwise (fun a b => a.l ≠ b.l) := by
  obtain ⟨-, hr, hg⟩ := chkI_rise h
  refine ⟨fun x hx => good_t (hg (leafI x) (srtI_mem.2 (List.mem_append.2 (.inr (List.mem_map_of_mem hx))))), ?_⟩
  have h1 := (List.Perm.pairwise_iff (fun h => Ne.symm h) (srtI_perm _)).1 (rise_neI hr)
  have h2 := (List.pairwise_append.1 h1).2.1
  rw [List.pairwise_map] at h2
  exact h2
theorem openF_pos : ∀ (k : Nat) (ls : List (List UInt8)) (l : List Lef), l ≠ [] → l.length ≤ k → Rsn l → 1 ≤ (openF k ls l).1.length + (openF k ls l).2.length
  | 0, ls, l, hn, hk, _ => absurd (List.length_eq_zero_iff.1 (by omega)) hn
  | k + 1, ls, l, hn, hk, h => by
    have hp : 0 < l.length := List.length_pos_iff.2 hn
    rw [openF, if_neg hn]
    split
    · exact Nat.le_refl _
    split
    · show 1 ≤ 0 + l.length; omega
    · rename_i h1 h2
      have hS := h.sides (by omega)
      have hlt := hS.sl
      have hs0 := hS.s0
      have tk : (l.take (splI (l.map leafI))).length = splI (l.map leafI) := by rw [List.length_take]; omega
      have := openF_pos k ls (l.take (splI (l.map leafI))) (fun he => by rw [he] at tk; simp at tk; omega) (by omega) (h.take _)
      show 1 ≤ (_ ++ _ : List Itm).length + (_ ++ _ : List Lef).length
      rw [List.length_append, List.length_append]; omega
/-- Where one part is all that there is, no label touches the tree. -/
theorem openF_one {ls : List (List UInt8)} {l : List Lef} (h : Rsn l) (h2 : 2 ≤ l.length) (a : (openF l.length ls l).1.length = 1) (b : (openF l.length ls l).2.length = 0) : ls.any (hasP (jnI l).p) = false := by
  obtain ⟨k, hk⟩ : ∃ k, l.length = k + 1 := ⟨l.length - 1, by omega⟩
  rw [hk, openF, if_neg (fun he => by rw [he] at h2; simp at h2)] at a b
  rw [show joinF l.length (l.map leafI) = jnI l from rfl] at a b
  by_cases hh : ls.any (hasP (jnI l).p) = false
  · exact hh
  · rw [if_neg hh, if_neg (by omega)] at a b
    have hS := h.sides h2
    have hlt := hS.sl
    have hs0 := hS.s0
    have tk : (l.take (splI (l.map leafI))).length = splI (l.map leafI) := by rw [List.length_take]; omega
    have dr : (l.drop (splI (l.map leafI))).length = l.length - splI (l.map leafI) := List.length_drop
    have p1 := openF_pos k ls (l.take (splI (l.map leafI))) (fun he => by rw [he] at tk; simp at tk; omega) (by omega) (h.take _)
    have p2 := openF_pos k ls (l.drop (splI (l.map leafI))) (fun he => by rw [he] at dr; simp at dr; omega) (by omega) (h.drop _)
    have a : (_ ++ _ : List Itm).length = 1 := a
    have b : (_ ++ _ : List Lef).length = 0 := b
    rw [List.length_append] at a b
    omega
theorem openF_nil {k : Nat} {l : List Lef} (hn : l ≠ []) (hk : 0 < k) : openF k [] l = ([jnI l], []) := by
  obtain ⟨k, rfl⟩ : ∃ j, k = j + 1 := ⟨k - 1, by omega⟩
  rw [openF, if_neg hn]
  exact if_pos rfl
theorem jn_map {a b : List Lef} (h : a.map leafI = b.map leafI) : jnI a = jnI b := by
  have hl : a.length = b.length := by have := congrArg List.length h; rwa [List.length_map, List.length_map] at this
  unfold jnI
  rw [h, hl]
/-- The tree of a side of the leaves, whatever their order. -/
theorem cvI_side {L : List Lef} {p : Lef → Bool} {T : List Lef} (hok : ∀ x ∈ L, x.ok) (hT : (srtL L).filter p = T) (hr : Rsn T) (hn : T ≠ []) (hl : T.length ≤ 2000) : cvI (L.filter p) [] = [jnI T] := by
  have hp : (L.filter p).Perm T := by rw [← hT]; exact (srtL_perm L).symm.filter p
  have hc := chk_rsn hr hl
  have hcT : chkI (itmsL T) = 0 := by rw [itms_rise hr.rise]; exact hc
  have hi : itmsL (L.filter p) = T.map leafI := by rw [itms_perm hp hcT, itms_rise hr.rise]
  have hE : cvE (L.filter p) = 0 := by unfold cvE; rw [itms_srt, hi]; exact hc
  have hne : L.filter p ≠ [] := fun he => by rw [he] at hp; exact hn (List.nil_perm.1 hp)
  have hs : (srtL (L.filter p)).map leafI = T.map leafI := by rw [← itms_map]; exact hi
  have hne2 : srtL (L.filter p) ≠ [] := fun he => by
    have := srtL_len (L.filter p)
    rw [he] at this
    exact hne (List.length_eq_zero_iff.1 this.symm)
  unfold cvI
  rw [if_pos hE, openF_nil hne2 (List.length_pos_iff.2 hne), jn_map hs]
theorem hlf_eq {L : List Lef} (hok : ∀ x ∈ L, x.ok) (hc : mkE L = 0) (h2 : 2 ≤ L.length) (hl : L.length ≤ 2000) : hlf L = [parA ((srtL L).map leafI), parB ((srtL L).map leafI)] := by
  have hS := rsn_srt hok hc
  have hsl := srtL_len L
  have hSd := hS.sides (by omega)
  have hlt := hSd.sl
  have hs0 := hSd.s0
  have hI : itmsL L = (srtL L).map leafI := itms_map L
  have tk : ((srtL L).take (splI ((srtL L).map leafI))).length = splI ((srtL L).map leafI) := by rw [List.length_take]; omega
  have dr : ((srtL L).drop (splI ((srtL L).map leafI))).length = (srtL L).length - splI ((srtL L).map leafI) := List.length_drop
  have hall : ∀ (q : Lef → Bool), (srtL L).filter q = ((srtL L).take (splI ((srtL L).map leafI))).filter q ++ ((srtL L).drop (splI ((srtL L).map leafI))).filter q := fun q => by rw [← List.filter_append, List.take_append_drop]
  unfold hlf hlA hlB
  rw [hI]
  have e1 : (srtL L).filter (fun x => bitL x.l (frkI ((srtL L).map leafI)) == 0) = (srtL L).take (splI ((srtL L).map leafI)) := by
    rw [hall, List.filter_eq_self.2 (fun x hx => by rw [hSd.lo x hx]; rfl), List.filter_eq_nil_iff.2 (fun x hx => by rw [hSd.hi x hx]; decide), List.append_nil]
  have e2 : (srtL L).filter (fun x => !(bitL x.l (frkI ((srtL L).map leafI)) == 0)) = (srtL L).drop (splI ((srtL L).map leafI)) := by
    rw [hall, List.filter_eq_nil_iff.2 (fun x hx => by rw [hSd.lo x hx]; decide), List.filter_eq_self.2 (fun x hx => by rw [hSd.hi x hx]; rfl), List.nil_append]
  rw [cvI_side hok e1 (hS.take _) (fun he => by rw [he] at tk; simp at tk; omega) (by omega), cvI_side hok e2 (hS.drop _) (fun he => by rw [he] at dr; simp at dr; omega) (by omega), ← hSd.jA, ← hSd.jB]; rfl
end Go.Proofs.YtcmgpkibjdbonaaGreat
set_option maxHeartbeats 16000000
set_option maxRecDepth 100000
namespace Go.Proofs.YtcmgpkibjdbonaaGreat
open Go Go.RowKit
/-- The leaf of a label among leaves. -/
def hasLf (l : List Lef) (x : List UInt8) : Bool := l.any (fun y => y.l == x)
def fndL (l : List Lef) (x : List UInt8) : Lef := (l.find? (fun y => y.l == x)).getD lef0
end Go.Proofs.YtcmgpkibjdbonaaGreat
namespace Go.Proofs.YtcmgpkibjdbonaaGreat
open Go Go.RowKit
section
variable {m : OM} {P : Program} {T : List (Nat × TI)} {C : Ctx} {ops : Array Oper} {l : List Oper} {K : St → Prop} {n : Nat} {sl : List (Nat × AV)} {hp : List (Nat × HO)} {d : Nat} {ty : Nat} {pos : String} {aft : Array Edge} {gd : Option (Nat × Bool)}
end
end Go.Proofs.YtcmgpkibjdbonaaGreat
namespace Go.Proofs.YtcmgpkibjdbonaaGreat
open Go Go.RowKit
section
variable {P : Program} {C : Ctx} {S : St}
theorem AnyT.three {ops : Array Oper} {o1 o2 o3 : Oper} {tk so qs : List Nat} {n : Nat} {listed : Array Bool} {S : St} {K : St → Prop} (i1 i2 i3 : Nat) (hr : Region.ready .any ops listed = [i1, i2, i3]) (h1 : ops[i1]? = some o1) (h2 : ops[i2]? = some o2) (h3 : ops[i3]? = some o3)
    (k1 : Ops (.one tk so qs) P C ops [o1] S (fun S' => AnyT P C ops tk so qs n (listed.setIfInBounds i1 true) S' K)) (k2 : Ops (.one tk so qs) P C ops [o2] S (fun S' => AnyT P C ops tk so qs n (listed.setIfInBounds i2 true) S' K)) (k3 : Ops (.one tk so qs) P C ops [o3] S (fun S' => AnyT P C ops tk so qs n (listed.setIfInBounds i3 true) S' K)) : AnyT P C ops tk so qs (n + 1) listed S K := by
  refine ⟨fun Q a w hs f2 hQ hK => ⟨fun h => (by rw [hr] at h; cases h), fun i hi => ?_⟩⟩
  rw [hr] at hi
  simp only [List.mem_cons, List.not_mem_nil, or_false] at hi
  rcases hi with rfl | rfl | rfl
  · exact k1.out Q (fun G a' w' => wpAnyR P ops qs Q n (listed.setIfInBounds i true) G a' w') a w hs (fun S' a' w' h1 h2 => h1.out Q a' w' h2 f2 hQ hK) i h1
  · exact k2.out Q (fun G a' w' => wpAnyR P ops qs Q n (listed.setIfInBounds i true) G a' w') a w hs (fun S' a' w' h1 h2 => h1.out Q a' w' h2 f2 hQ hK) i h2
  · exact k3.out Q (fun G a' w' => wpAnyR P ops qs Q n (listed.setIfInBounds i true) G a' w') a w hs (fun S' a' w' h1 h2 => h1.out Q a' w' h2 f2 hQ hK) i h3
end
/-! Labels as keys. -/
def vL (l : List UInt8) : Value := .agg (l.map fun c => Value.int .u8 (c.toNat : Int)).toArray
section
variable {P : Program} (w : World)
structure LabK (P : Program) (kt : TypeId) (k : Nat) : Prop where
  ex : ∃ e ie, P.underlying kt = some (.array k e) ∧ P.underlying e = some (.int .u8) ∧ P.info? e = some ie ∧ P.cellsOf e = 1
def entL (j : Nat) (l : List (List UInt8)) : List MapEntry := ((l.map vL).zipIdx j).map (fun p => (⟨p.1, .bool true, p.2⟩ : MapEntry))
def addK (l : List (List UInt8)) (a : List UInt8) : List (List UInt8) := if l.contains a = true then l else l ++ [a]
/-- The map while a new entry has no value yet; the entry's stamp. -/
def entO (l : List (List UInt8)) (a : List UInt8) : Obj := if l.contains a = true then setO (l.map vL) else .map ((entL 0 l).toArray.push ⟨vL a, .bool false, l.length⟩) (l.length + 1)
variable {b : Nat} {t kt et : TypeId} {k : Nat}
end
section
variable {m : OM} {P : Program} {T : List (Nat × TI)} {C : Ctx} {ops : Array Oper} {l : List Oper} {K : St → Prop} {n : Nat} {sl : List (Nat × AV)} {hp : List (Nat × HO)} {d : Nat} {ty : Nat} {pos : String} {aft : Array Edge} {gd : Option (Nat × Bool)}
end
end Go.Proofs.YtcmgpkibjdbonaaGreat
set_option maxHeartbeats 16000000
set_option maxRecDepth 100000
namespace Go.Proofs.YtcmgpkibjdbonaaGreat
open Go Go.RowKit
def shf : Nat → Int
  | 0 => 24
  | 1 => 16
  | 2 => 8
  | 3 => 0
  | _ => -8
end Go.Proofs.YtcmgpkibjdbonaaGreat
set_option maxHeartbeats 16000000
set_option maxRecDepth 100000
namespace Go.Proofs.YtcmgpkibjdbonaaGreat
open Go Go.RowKit
theorem fnd_no {l : List Lef} {g : List UInt8} (h : ∀ i (hi : i < l.length), (l[i].l == g) = false) : fndL l g = lef0 ∧ hasLf l g = false := by
  have hn : ∀ x ∈ l, ¬ (x.l == g) = true := fun x hx => by
    obtain ⟨i, hi, rfl⟩ := List.getElem_of_mem hx
    rw [h i hi]; decide
  refine ⟨?_, ?_⟩
  · unfold fndL
    rw [List.find?_eq_none.2 hn]; rfl
  · unfold hasLf
    rw [List.any_eq_false]; exact hn
theorem fnd_at {l : List Lef} {g : List UInt8} {i : Nat} (hi : i < l.length) (h1 : (l[i].l == g) = true) (h : ∀ j (hj : j < l.length), j < i → (l[j].l == g) = false) : fndL l g = l[i] ∧ hasLf l g = true := by
  refine ⟨?_, List.any_eq_true.2 ⟨l[i], List.getElem_mem hi, h1⟩⟩
  have hf : l.find? (fun y => y.l == g) = some l[i] := List.find?_eq_some_iff_getElem.2 ⟨h1, i, hi, rfl, fun j hj => by
    have := h j (by omega) hj
    simp only [this, Bool.not_false]⟩
  unfold fndL
  rw [hf]; rfl
theorem rfind17_spec (l : List Lef) (g : List UInt8) : Spec Tryz.prog 62 [.sl 65 (l.map Lef.A), labA g] [] (fun v os => v = .tup [(fndL l g).A, .b (hasLf l g)] ∧ os = []) := by
  refine spec_of TtOk [] Tryz.func62 rfl Tryz.ntmps62 (by kernel_rfl) rfl rfl (fun C => ?_) rfl
  repeat' (first | refine Awp.seq ?_ | refine Awp.block ?_ | refine Awp.region ?_ | (refine Ops.nil ?_; show Awp _ _ _ _ _) | refine o_len rfl TtOk rfl rfl rfl (fun _ => ?_) | (refine o_calm rfl TtOk rfl rfl rfl ?_ (fun _ => ?_); exact nd) | refine o_alloc (d := 4) rfl TtOk rfl rfl rfl (fun b4 => ?_) | refine o_box (d := 3) rfl rfl rfl rfl (fun b3 => ?_))
  refine Awp.loop (fun i : Nat => ⟨21, [(10, .i .i64 i), (9, .i .i64 l.length), (8, .sl 65 (l.map Lef.A)), (4, .ptr 4 b4 [] 0), (3, .ptr 3 b3 [] 0)], [(4, .var b4 (lef0.A)), (3, .var b3 (labA g))]⟩) (fun i => i ≤ l.length ∧ ∀ j (hj : j < l.length), j < i → (l[j].l == g) = false) (fun i => l.length - i) [] 0 ⟨Nat.zero_le _, fun _ _ h => absurd h (Nat.not_lt_zero _)⟩ ?_ ?_
  · exact ⟨rfl, ⟨sle_i rfl, sle_i rfl, sle_sl rfl, sle_ptr, sle_ptr, True.intro⟩, HLe.cons 4 rfl (HOLe.refl _) (HLe.cons 3 rfl (HOLe.refl _) .nil)⟩
  rintro i ⟨hi, hno⟩
  by_cases hlt : i < l.length
  · have hi1 : ((i : Int) + 1 = ((i + 1 : Nat) : Int)) := by omega
    cases hq : (l[i].l == g) with
    | true =>
      obtain ⟨e1, e2⟩ := fnd_at hlt hq hno
      rw [e1, e2]
      repeat' (first | (rw [hq]) | refine Awp.seq ?_ | refine Awp.block ?_ | refine Awp.region ?_ | (refine Ops.nil ?_; show Awp _ _ _ _ _) | (refine Awp.skip ?_; show Awp _ _ _ _ _) | (refine Awp.ret ?_; show endK _ _ _ _ _) | (refine o_calm rfl TtOk rfl rfl rfl ?_ (fun _ => ?_); exact nd) | refine o_alloc (d := 7) rfl TtOk rfl rfl rfl (fun b7 => ?_) | refine o_store TtOk rfl rfl rfl rfl rfl rfl rfl ⟨rfl, rfl⟩ rfl rfl rfl rfl rfl ?_ | (refine o_index rfl TtOk rfl rfl rfl rfl rfl rfl ?_ (getq_nat ?_) ?_; omega; omega) | refine o_eqArr8 TtOk rfl rfl rfl rfl rfl rfl (by kernel_rfl) ?_ | refine a_condT rfl ?_ | (refine a_condP rfl (fun hc => ?_) (fun hc => ?_)) <;> (try (exfalso; omega)))
      all_goals
        refine end_all [] [] (.tup [l[i].A, .b true]) rfl ?_ ?_ (rle_tup2 (CLe.of_eq rfl) (CLe.of_eq rfl) rfl rfl) .nil ⟨rfl, rfl⟩ _ (.inl rfl)
        · repeat' (first | exact True.intro | exact rfl | refine ⟨?_, ?_⟩)
        · exact ⟨trivial, trivial, trivial⟩
    | false =>
      repeat' (first | (rw [hq]) | refine Awp.seq ?_ | refine Awp.block ?_ | refine Awp.region ?_ | (refine Ops.nil ?_; show Awp _ _ _ _ _) | (refine Ops.nil ?_; show Exists _) | (refine Awp.skip ?_; show Awp _ _ _ _ _) | (refine o_add rfl rfl rfl rfl ?_ ?_; omega) | (refine o_calm rfl TtOk rfl rfl rfl ?_ (fun _ => ?_); exact nd) | refine o_alloc (d := 7) rfl TtOk rfl rfl rfl (fun b7 => ?_) | refine o_store TtOk rfl rfl rfl rfl rfl rfl rfl ⟨rfl, rfl⟩ rfl rfl rfl rfl rfl ?_ | (refine o_index rfl TtOk rfl rfl rfl rfl rfl rfl ?_ (getq_nat ?_) ?_; omega; omega) | refine o_eqArr8 TtOk rfl rfl rfl rfl rfl rfl (by kernel_rfl) ?_ | refine a_condF rfl ?_ | (refine a_condP rfl (fun hc => ?_) (fun hc => ?_)) <;> (try (exfalso; omega)))
      all_goals exact ⟨i + 1, [], ⟨hlt, fun j hj h => by
        rcases Nat.lt_succ_iff_lt_or_eq.1 h with h2 | rfl
        · exact hno j hj h2
        · exact hq⟩, by show l.length - (i + 1) < l.length - i; omega, rfl, ⟨sle_i hi1, sle_i rfl, sle_sl rfl, sle_ptr, sle_ptr, True.intro⟩, HLe.cons 4 rfl (HOLe.refl _) (HLe.cons 3 rfl (HOLe.refl _) .nil)⟩
  · obtain ⟨e1, e2⟩ := fnd_no (fun j hj => hno j hj (by omega))
    rw [e1, e2]
    repeat' (first | refine Awp.seq ?_ | refine Awp.region ?_ | (refine Ops.nil ?_; show Awp _ _ _ _ _) | (refine Awp.exit ?_; show Awp _ _ _ _ _) | (refine Awp.ret ?_; show endK _ _ _ _ _) | (refine o_calm rfl TtOk rfl rfl rfl ?_ (fun _ => ?_); exact nd) | refine o_store TtOk rfl rfl rfl rfl rfl rfl rfl ⟨rfl, rfl⟩ rfl rfl rfl rfl rfl ?_ | refine o_build TtOk rfl rfl rfl rfl rfl rfl (by repeat' (first | exact True.intro | exact rfl | refine ⟨?_, ?_⟩)) ?_ | (refine a_condP rfl (fun hc => ?_) (fun hc => ?_)) <;> (try (exfalso; omega)))
    all_goals
      refine end_all [] [] (.tup [lef0.A, .b false]) rfl ?_ ?_ (rle_tup2 (CLe.of_eq rfl) (CLe.of_eq rfl) rfl rfl) .nil ⟨rfl, rfl⟩ _ (.inl rfl)
      · repeat' (first | exact True.intro | exact rfl | refine ⟨?_, ?_⟩)
      · exact ⟨trivial, trivial, trivial⟩
theorem rin19_spec (l : List (List UInt8)) (g : List UInt8) : Spec Tryz.prog 63 [.sl 32 (l.map labA), labA g] [] (fun v os => v = .b (l.any (fun y => g == y)) ∧ os = []) := by
  refine spec_of TtOk [] Tryz.func63 rfl Tryz.ntmps63 (by kernel_rfl) rfl rfl (fun C => ?_) rfl
  repeat' (first | refine Awp.seq ?_ | refine Awp.block ?_ | refine Awp.region ?_ | (refine Ops.nil ?_; show Awp _ _ _ _ _) | refine o_len rfl TtOk rfl rfl rfl (fun _ => ?_) | (refine o_calm rfl TtOk rfl rfl rfl ?_ (fun _ => ?_); exact nd) | refine o_box (d := 3) rfl rfl rfl rfl (fun b3 => ?_))
  refine Awp.loop (fun i : Nat => ⟨17, [(9, .i .i64 i), (8, .i .i64 l.length), (7, .sl 32 (l.map labA)), (3, .ptr 3 b3 [] 0)], [(3, .var b3 (labA g))]⟩) (fun i => i ≤ l.length ∧ ∀ j (hj : j < l.length), j < i → (l[j] == g) = false) (fun i => l.length - i) [] 0 ⟨Nat.zero_le _, fun _ _ h => absurd h (Nat.not_lt_zero _)⟩ ?_ ?_
  · exact ⟨rfl, ⟨sle_i rfl, sle_i rfl, sle_sl rfl, sle_ptr, True.intro⟩, HLe.cons 3 rfl (HOLe.refl _) .nil⟩
  rintro i ⟨hi, hno⟩
  by_cases hlt : i < l.length
  · have hi1 : ((i : Int) + 1 = ((i + 1 : Nat) : Int)) := by omega
    cases hq : (l[i] == g) with
    | true =>
      have hT : l.any (fun y => g == y) = true := List.any_eq_true.2 ⟨l[i], List.getElem_mem hlt, by rw [BEq.comm]; exact hq⟩
      rw [hT]
      repeat' (first | (rw [hq]) | refine Awp.seq ?_ | refine Awp.block ?_ | refine Awp.region ?_ | (refine Ops.nil ?_; show Awp _ _ _ _ _) | (refine Awp.skip ?_; show Awp _ _ _ _ _) | (refine Awp.ret ?_; show endK _ _ _ _ _) | (refine o_calm rfl TtOk rfl rfl rfl ?_ (fun _ => ?_); exact nd) | refine o_alloc (d := 6) rfl TtOk rfl rfl rfl (fun b6 => ?_) | refine o_store TtOk rfl rfl rfl rfl rfl rfl rfl ⟨rfl, rfl⟩ rfl rfl rfl rfl rfl ?_ | (refine o_index rfl TtOk rfl rfl rfl rfl rfl rfl ?_ (getq_nat ?_) ?_; omega; omega) | refine o_eqArr8 TtOk rfl rfl rfl rfl rfl rfl (by kernel_rfl) ?_ | refine a_condT rfl ?_ | (refine a_condP rfl (fun hc => ?_) (fun hc => ?_)) <;> (try (exfalso; omega)))
      all_goals exact end_tmp rfl rfl rfl [] [] (CLe.of_eq rfl) .nil ⟨rfl, rfl⟩ _ (.inl rfl)
    | false =>
      repeat' (first | (rw [hq]) | refine Awp.seq ?_ | refine Awp.block ?_ | refine Awp.region ?_ | (refine Ops.nil ?_; show Awp _ _ _ _ _) | (refine Ops.nil ?_; show Exists _) | (refine Awp.skip ?_; show Awp _ _ _ _ _) | (refine o_add rfl rfl rfl rfl ?_ ?_; omega) | (refine o_calm rfl TtOk rfl rfl rfl ?_ (fun _ => ?_); exact nd) | refine o_alloc (d := 6) rfl TtOk rfl rfl rfl (fun b6 => ?_) | refine o_store TtOk rfl rfl rfl rfl rfl rfl rfl ⟨rfl, rfl⟩ rfl rfl rfl rfl rfl ?_ | (refine o_index rfl TtOk rfl rfl rfl rfl rfl rfl ?_ (getq_nat ?_) ?_; omega; omega) | refine o_eqArr8 TtOk rfl rfl rfl rfl rfl rfl (by kernel_rfl) ?_ | refine a_condF rfl ?_ | (refine a_condP rfl (fun hc => ?_) (fun hc => ?_)) <;> (try (exfalso; omega)))
      all_goals exact ⟨i + 1, [], ⟨hlt, fun j hj h => by
        rcases Nat.lt_succ_iff_lt_or_eq.1 h with h2 | rfl
        · exact hno j hj h2
        · exact hq⟩, by show l.length - (i + 1) < l.length - i; omega, rfl, ⟨sle_i hi1, sle_i rfl, sle_sl rfl, sle_ptr, True.intro⟩, HLe.cons 3 rfl (HOLe.refl _) .nil⟩
  · have hT : l.any (fun y => g == y) = false := by
      rw [List.any_eq_false]
      intro x hx
      obtain ⟨j, hj, rfl⟩ := List.getElem_of_mem hx
      have := hno j hj (by omega)
      rw [BEq.comm] at this
      rw [this]; decide
    rw [hT]
    repeat' (first | refine Awp.seq ?_ | refine Awp.region ?_ | (refine Ops.nil ?_; show Awp _ _ _ _ _) | (refine Awp.exit ?_; show Awp _ _ _ _ _) | (refine Awp.ret ?_; show endK _ _ _ _ _) | (refine o_calm rfl TtOk rfl rfl rfl ?_ (fun _ => ?_); exact nd) | (refine a_condP rfl (fun hc => ?_) (fun hc => ?_)) <;> (try (exfalso; omega)))
    all_goals exact end_tmp rfl rfl rfl [] [] (CLe.of_eq rfl) .nil ⟨rfl, rfl⟩ _ (.inl rfl)
theorem ritems19_spec (same : List Itm) (l : List Lef) (h1 : same.length ≤ 50000) (h2 : l.length ≤ 50000) (hs : ∀ x ∈ same, x.ok) (hl : ∀ x ∈ l, x.ok) : Spec Tryz.prog 66 [.sl 66 (same.map Itm.R), .sl 65 (l.map Lef.A)] [] (fun v os => v = .sl 66 ((topU same l).map Itm.R) ∧ os = []) := by
  have k1 := rof_spec l (by omega) hl
  have hlen : (same ++ itmsL l).length ≤ 100000 := by rw [List.length_append, itmsL_len]; omega
  have k2 := rsorted_spec (same ++ itmsL l) hlen (fun x hx => by
    rcases List.mem_append.1 hx with hx | hx
    · exact hs x hx
    · exact itmsL_ok hl x hx)
  rw [show srtI (same ++ itmsL l) = topU same l from rfl] at k2
  have hil := itmsL_len l
  generalize topU same l = U at *
  rw [List.map_append] at k2
  generalize itmsL l = I at *
  refine spec_of TtOk [] Tryz.func66 rfl Tryz.ntmps66 (by kernel_rfl) rfl rfl (fun C => ?_) rfl
  repeat' (first | (refine o_freezeR (xs := same.map Itm.R ++ I.map Itm.R) 5 10 rfl rfl rfl ?_) | refine Awp.seq ?_ | refine Awp.region ?_ | (refine Ops.nil ?_; show Awp _ _ _ _ _) | (refine Awp.ret ?_; show endK _ _ _ _ _) | (refine o_calm rfl TtOk rfl rfl rfl ?_ (fun _ => ?_); exact nd) | refine o_buildSlice (d := 5) TtOk rfl rfl rfl rfl rfl rfl rfl rfl rfl rfl rfl (by repeat' (first | exact True.intro | exact rfl | refine ⟨?_, ?_⟩)) (fun v5 => ?_) | (refine o_append TtOk rfl rfl rfl rfl rfl rfl rfl rfl rfl (by first | exact True.intro | exact rfl) rfl rfl (fun _ => rfl) ?_ ?_ (fun _ => ?_); ((repeat' (first | rw [List.length_append] | rw [List.length_map] | rw [List.length_cons] | rw [List.length_nil] | rw [List.length_take] | rw [List.length_drop])) <;> omega); ((repeat' (first | rw [List.length_append] | rw [List.length_map] | rw [List.length_cons] | rw [List.length_nil] | rw [List.length_take] | rw [List.length_drop])) <;> omega)) | (refine o_call0 rfl (k1) ⟨SLe.of_eq rfl, True.intro⟩ rfl ?_; rintro _ _ ⟨rfl, rfl⟩; refine ⟨rfl, ?_⟩) | (refine o_call0 rfl (k2) ⟨SLe.of_eq rfl, True.intro⟩ rfl ?_; rintro _ _ ⟨rfl, rfl⟩; refine ⟨rfl, ?_⟩))
  all_goals exact end_tmp rfl rfl rfl [] [] (CLe.of_eq rfl) .nil ⟨rfl, rfl⟩ _ (.inl rfl)
theorem gt_cmp (x y : List UInt8) : (!(Op.bytesLess y x || y == x)) = decide (cmpS x y < 0) := by
  rw [Bool.eq_iff_iff, decide_eq_true_eq, cmpS_neg, Bool.not_eq_true', Bool.or_eq_false_iff]
  constructor
  · rintro ⟨h1, h2⟩
    rcases less_tri x y with h | h | h
    · exact h
    · subst h; rw [beq_self_eq_true] at h2; cases h2
    · rw [h] at h1; cases h1
  · intro h
    refine ⟨?_, beq_eq_false_iff_ne.2 (fun he => ?_)⟩
    · cases hq : Op.bytesLess y x with
      | false => rfl
      | true =>
        have h3 := cmp_trans (cmpS_neg.2 h) (cmpS_neg.2 hq)
        rw [cmpS_eq] at h3; omega
    · subst he
      have h3 := cmpS_neg.2 h
      rw [cmpS_eq] at h3; omega
/-- What is still to come of an insertion of a leaf. -/
def insTL (x : Lef) (done : Bool) (l : List Lef) : List Lef := if done = true then l else insS (ltCL ordL) x l
theorem rsorted19_spec (l : List Lef) (hl : l.length ≤ 100000) (hok : ∀ x ∈ l, x.ok) : Spec Tryz.prog 65 [.sl 65 (l.map Lef.A)] [] (fun v os => v = .sl 65 ((srtL l).map Lef.A) ∧ os = []) := by
  refine spec_of TtOk [] Tryz.func65 rfl Tryz.ntmps65 (by kernel_rfl) rfl rfl (fun C => ?_) rfl
  repeat' (first | refine Awp.seq ?_ | refine Awp.block ?_ | refine Awp.region ?_ | (refine Ops.nil ?_; show Awp _ _ _ _ _) | refine o_len rfl TtOk rfl rfl rfl (fun _ => ?_) | (refine o_calm rfl TtOk rfl rfl rfl ?_ (fun _ => ?_); exact nd) | refine o_buildSlice (d := 10) TtOk rfl rfl rfl rfl rfl rfl rfl rfl rfl rfl rfl (by repeat' (first | exact True.intro | exact rfl | refine ⟨?_, ?_⟩)) (fun v10 => ?_))
  refine Awp.loop (fun q : Nat × Value => ⟨53, [(13, .i .i64 q.1), (12, .i .i64 l.length), (11, .sl 65 (l.map Lef.A)), (3, .own 10 q.2)], [(10, .row q.2 58 65 ((srtL (l.take q.1)).map Lef.A))]⟩) (fun q => q.1 ≤ l.length) (fun q => l.length - q.1) [] (0, v10) (Nat.zero_le _) ?_ ?_
  · exact ⟨rfl, ⟨sle_i rfl, sle_i rfl, sle_sl rfl, sle_own, True.intro⟩, HLe.cons 10 rfl (HOLe.refl _) .nil⟩
  rintro ⟨i, v⟩ hi
  dsimp only at hi ⊢
  by_cases hlt : i < l.length
  · have hi1 : ((i : Int) + 1 = ((i + 1 : Nat) : Int)) := by omega
    have hss : srtL (l.take (i + 1)) = insS (ltCL ordL) l[i] (srtL (l.take i)) := sortS_succ l i hlt
    have hx := hok _ (List.getElem_mem hlt)
    have hO : ∀ y ∈ srtL (l.take i), y.ok := fun y hy => hok y (List.mem_of_mem_take (srtL_mem.1 hy))
    have hol : (srtL (l.take i)).length = i := by rw [srtL_len, List.length_take]; omega
    generalize srtL (l.take i) = O at hss hO hol ⊢
    obtain ⟨T, hT⟩ : ∃ T, insS (ltCL ordL) l[i] O = T := ⟨_, rfl⟩
    rw [hT] at hss
    repeat' (first | (refine a_freezeV 5 5 rfl rfl rfl ?_) | (refine o_freezeR (xs := O.map Lef.A) 10 3 rfl rfl rfl ?_) | refine Awp.seq ?_ | refine Awp.block ?_ | refine Awp.region ?_ | (refine Ops.nil ?_; show Awp _ _ _ _ _) | (refine Awp.skip ?_; show Awp _ _ _ _ _) | refine o_len rfl TtOk rfl rfl rfl (fun _ => ?_) | (refine o_calm rfl TtOk rfl rfl rfl ?_ (fun _ => ?_); exact nd) | refine o_alloc (d := 5) rfl TtOk rfl rfl rfl (fun b5 => ?_) | refine o_store TtOk rfl rfl rfl rfl rfl rfl rfl ⟨rfl, rfl⟩ rfl rfl rfl rfl rfl ?_ | (refine o_index rfl TtOk rfl rfl rfl rfl rfl rfl ?_ (getq_nat ?_) ?_; omega; omega) | refine o_buildSlice (d := 17) TtOk rfl rfl rfl rfl rfl rfl rfl rfl rfl rfl rfl (by repeat' (first | exact True.intro | exact rfl | refine ⟨?_, ?_⟩)) (fun v17 => ?_) | (refine a_condP rfl (fun hc => ?_) (fun hc => ?_)) <;> (try (exfalso; omega)))
    refine Awp.loop (fun q : Nat × Bool × Value × List Lef => ⟨53, [(20, .i .i64 q.1), (19, .i .i64 O.length), (18, .sl 65 (O.map Lef.A)), (6, .own 17 q.2.2.1), (7, .b q.2.1), (5, .cp (l[i]).A), (13, .i .i64 i), (12, .i .i64 l.length), (11, .sl 65 (l.map Lef.A))], [(17, .row q.2.2.1 58 65 (q.2.2.2.map Lef.A))]⟩) (fun q => q.1 ≤ O.length ∧ (q.2.1 = false → q.2.2.2.length ≤ q.1) ∧ q.2.2.2.length ≤ q.1 + 1 ∧ q.2.2.2 ++ insTL l[i] q.2.1 (O.drop q.1) = T) (fun q => O.length - q.1) [] (0, false, v17, []) ⟨Nat.zero_le _, fun _ => Nat.zero_le _, Nat.zero_le _, hT⟩ ?_ ?_
    · exact ⟨rfl, ⟨sle_i rfl, sle_i rfl, sle_sl rfl, sle_own, sle_b rfl, SLe.of_eq rfl, sle_i rfl, sle_i rfl, sle_sl rfl, True.intro⟩, HLe.cons 17 rfl (HOLe.refl _) .nil⟩
    clear hT
    rintro ⟨j, dn, u, N⟩ ⟨hj, hN0, hNl, hst⟩
    dsimp only at hj hN0 hNl hst ⊢
    by_cases hjl : j < O.length
    · have hj1 : ((j : Int) + 1 = ((j + 1 : Nat) : Int)) := by omega
      rw [List.drop_eq_getElem_cons hjl] at hst
      cases dn
      · have hN0 := hN0 rfl
        have hst : N ++ (if decide (cmpS l[i].l O[j].l < 0) = true then l[i] :: O[j] :: O.drop (j + 1) else O[j] :: insS (ltCL ordL) l[i] (O.drop (j + 1))) = T := hst
        have hgt := gt_cmp l[i].l O[j].l
        generalize decide (cmpS l[i].l O[j].l < 0) = q at hst hgt
        cases q with
        | true =>
          rw [if_pos rfl] at hst
          repeat' (first | (rw [hgt]) | (refine a_freezeV 9 9 rfl rfl rfl ?_) | refine Awp.seq ?_ | refine Awp.block ?_ | refine Awp.region ?_ | (refine Ops.nil ?_; show Awp _ _ _ _ _) | (refine Ops.nil ?_; show Exists _) | (refine Awp.skip ?_; show Awp _ _ _ _ _) | (refine o_add rfl rfl rfl rfl ?_ ?_; omega) | (refine o_calm rfl TtOk rfl rfl rfl ?_ (fun _ => ?_); exact nd) | refine o_alloc (d := 9) rfl TtOk rfl rfl rfl (fun b9 => ?_) | refine o_store TtOk rfl rfl rfl rfl rfl rfl rfl ⟨rfl, rfl⟩ rfl rfl rfl rfl rfl ?_ | (refine o_index rfl TtOk rfl rfl rfl rfl rfl rfl ?_ (getq_nat ?_) ?_; omega; omega) | refine o_buildSlice TtOk rfl rfl rfl rfl rfl rfl rfl rfl rfl rfl rfl (by repeat' (first | exact True.intro | exact rfl | refine ⟨?_, ?_⟩)) (fun _ => ?_) | (refine o_append TtOk rfl rfl rfl rfl rfl rfl rfl rfl rfl (by first | exact True.intro | exact rfl) rfl rfl (fun _ => rfl) ?_ ?_ (fun _ => ?_); ((repeat' (first | rw [List.length_append] | rw [List.length_map] | rw [List.length_cons] | rw [List.length_nil] | rw [List.length_take] | rw [List.length_drop])) <;> omega); ((repeat' (first | rw [List.length_append] | rw [List.length_map] | rw [List.length_cons] | rw [List.length_nil] | rw [List.length_take] | rw [List.length_drop])) <;> omega)) | refine o_sliceCp TtOk rfl rfl rfl rfl rfl rfl ?_ | refine a_condT rfl ?_ | (refine a_condP rfl (fun hc => ?_) (fun hc => ?_)) <;> (try (exfalso; omega)) | refine o_toString TtOk rfl rfl rfl rfl rfl (by first | exact True.intro | exact rfl) rfl rfl rfl rfl ?_ | refine a_any 10 [] [] [] [0, 1, 2, 3, 4, 5, 6, 7, 8, 9, 10] (by kernel_rfl) (by kernel_rfl) (by kernel_rfl) rfl rfl rfl ?_)
          all_goals exact ⟨(j + 1, true, _, (N ++ [l[i]]) ++ [O[j]]), [], ⟨hjl, fun h => by first | exact absurd (show true = false from h) (by decide) | (simp only [List.length_append, List.length_cons, List.length_nil]; omega), by simp only [List.length_append, List.length_cons, List.length_nil]; omega, by rw [← hst]; simp [insTL]⟩, by show O.length - (j + 1) < O.length - j; omega, rfl, ⟨sle_i hj1, sle_i rfl, sle_sl rfl, sle_own, sle_b rfl, SLe.of_eq rfl, sle_i rfl, sle_i rfl, sle_sl rfl, True.intro⟩, HLe.cons 17 rfl (HOLe.row (by rw [List.map_append, List.map_append]; rfl)) .nil⟩
        | false =>
          rw [if_neg (by decide)] at hst
          repeat' (first | (rw [hgt]) | (refine a_freezeV 9 9 rfl rfl rfl ?_) | refine Awp.seq ?_ | refine Awp.block ?_ | refine Awp.region ?_ | (refine Ops.nil ?_; show Awp _ _ _ _ _) | (refine Ops.nil ?_; show Exists _) | (refine Awp.skip ?_; show Awp _ _ _ _ _) | (refine o_add rfl rfl rfl rfl ?_ ?_; omega) | (refine o_calm rfl TtOk rfl rfl rfl ?_ (fun _ => ?_); exact nd) | refine o_alloc (d := 9) rfl TtOk rfl rfl rfl (fun b9 => ?_) | refine o_store TtOk rfl rfl rfl rfl rfl rfl rfl ⟨rfl, rfl⟩ rfl rfl rfl rfl rfl ?_ | (refine o_index rfl TtOk rfl rfl rfl rfl rfl rfl ?_ (getq_nat ?_) ?_; omega; omega) | refine o_buildSlice TtOk rfl rfl rfl rfl rfl rfl rfl rfl rfl rfl rfl (by repeat' (first | exact True.intro | exact rfl | refine ⟨?_, ?_⟩)) (fun _ => ?_) | (refine o_append TtOk rfl rfl rfl rfl rfl rfl rfl rfl rfl (by first | exact True.intro | exact rfl) rfl rfl (fun _ => rfl) ?_ ?_ (fun _ => ?_); ((repeat' (first | rw [List.length_append] | rw [List.length_map] | rw [List.length_cons] | rw [List.length_nil] | rw [List.length_take] | rw [List.length_drop])) <;> omega); ((repeat' (first | rw [List.length_append] | rw [List.length_map] | rw [List.length_cons] | rw [List.length_nil] | rw [List.length_take] | rw [List.length_drop])) <;> omega)) | refine o_sliceCp TtOk rfl rfl rfl rfl rfl rfl ?_ | refine a_condF rfl ?_ | (refine a_condP rfl (fun hc => ?_) (fun hc => ?_)) <;> (try (exfalso; omega)) | refine o_toString TtOk rfl rfl rfl rfl rfl (by first | exact True.intro | exact rfl) rfl rfl rfl rfl ?_ | refine a_any 10 [] [] [] [0, 1, 2, 3, 4, 5, 6, 7, 8, 9, 10] (by kernel_rfl) (by kernel_rfl) (by kernel_rfl) rfl rfl rfl ?_)
          all_goals exact ⟨(j + 1, false, _, N ++ [O[j]]), [], ⟨hjl, fun h => by first | exact absurd (show true = false from h) (by decide) | (simp only [List.length_append, List.length_cons, List.length_nil]; omega), by simp only [List.length_append, List.length_cons, List.length_nil]; omega, by rw [← hst]; simp [insTL]⟩, by show O.length - (j + 1) < O.length - j; omega, rfl, ⟨sle_i hj1, sle_i rfl, sle_sl rfl, sle_own, sle_b rfl, SLe.of_eq rfl, sle_i rfl, sle_i rfl, sle_sl rfl, True.intro⟩, HLe.cons 17 rfl (HOLe.row (by rw [List.map_append]; rfl)) .nil⟩
      · repeat' (first | (refine a_freezeV 9 9 rfl rfl rfl ?_) | refine Awp.seq ?_ | refine Awp.block ?_ | refine Awp.region ?_ | (refine Ops.nil ?_; show Awp _ _ _ _ _) | (refine Ops.nil ?_; show Exists _) | (refine Awp.skip ?_; show Awp _ _ _ _ _) | refine o_noT rfl rfl rfl ?_ | (refine o_add rfl rfl rfl rfl ?_ ?_; omega) | (refine o_calm rfl TtOk rfl rfl rfl ?_ (fun _ => ?_); exact nd) | refine o_alloc (d := 9) rfl TtOk rfl rfl rfl (fun b9 => ?_) | refine o_store TtOk rfl rfl rfl rfl rfl rfl rfl ⟨rfl, rfl⟩ rfl rfl rfl rfl rfl ?_ | (refine o_index rfl TtOk rfl rfl rfl rfl rfl rfl ?_ (getq_nat ?_) ?_; omega; omega) | refine o_buildSlice TtOk rfl rfl rfl rfl rfl rfl rfl rfl rfl rfl rfl (by repeat' (first | exact True.intro | exact rfl | refine ⟨?_, ?_⟩)) (fun _ => ?_) | (refine o_append TtOk rfl rfl rfl rfl rfl rfl rfl rfl rfl (by first | exact True.intro | exact rfl) rfl rfl (fun _ => rfl) ?_ ?_ (fun _ => ?_); ((repeat' (first | rw [List.length_append] | rw [List.length_map] | rw [List.length_cons] | rw [List.length_nil] | rw [List.length_take] | rw [List.length_drop])) <;> omega); ((repeat' (first | rw [List.length_append] | rw [List.length_map] | rw [List.length_cons] | rw [List.length_nil] | rw [List.length_take] | rw [List.length_drop])) <;> omega)) | refine a_condF rfl ?_ | (refine a_condP rfl (fun hc => ?_) (fun hc => ?_)) <;> (try (exfalso; omega)) | refine a_any 10 [] [] [] [0, 1, 2, 3, 4, 5, 6, 7, 8, 9, 10] (by kernel_rfl) (by kernel_rfl) (by kernel_rfl) rfl rfl rfl ?_)
        all_goals exact ⟨(j + 1, true, _, N ++ [O[j]]), [], ⟨hjl, fun h => by first | exact absurd (show true = false from h) (by decide) | (simp only [List.length_append, List.length_cons, List.length_nil]; omega), by simp only [List.length_append, List.length_cons, List.length_nil]; omega, by rw [← hst]; simp [insTL]⟩, by show O.length - (j + 1) < O.length - j; omega, rfl, ⟨sle_i hj1, sle_i rfl, sle_sl rfl, sle_own, sle_b rfl, SLe.of_eq rfl, sle_i rfl, sle_i rfl, sle_sl rfl, True.intro⟩, HLe.cons 17 rfl (HOLe.row (by rw [List.map_append]; rfl)) .nil⟩
    · have hje : j = O.length := by omega
      subst hje
      rw [List.drop_length] at hst
      cases dn
      · have hst : N ++ [l[i]] = T := hst
        repeat' (first | refine Awp.seq ?_ | refine Awp.region ?_ | (refine Ops.nil ?_; show Awp _ _ _ _ _) | (refine Ops.nil ?_; show Exists _) | (refine Awp.exit ?_; show Awp _ _ _ _ _) | (refine o_add rfl rfl rfl rfl ?_ ?_; omega) | (refine o_calm rfl TtOk rfl rfl rfl ?_ (fun _ => ?_); exact nd) | refine o_buildSlice TtOk rfl rfl rfl rfl rfl rfl rfl rfl rfl rfl rfl (by repeat' (first | exact True.intro | exact rfl | refine ⟨?_, ?_⟩)) (fun _ => ?_) | (refine o_append TtOk rfl rfl rfl rfl rfl rfl rfl rfl rfl (by first | exact True.intro | exact rfl) rfl rfl (fun _ => rfl) ?_ ?_ (fun _ => ?_); ((repeat' (first | rw [List.length_append] | rw [List.length_map] | rw [List.length_cons] | rw [List.length_nil] | rw [List.length_take] | rw [List.length_drop])) <;> omega); ((repeat' (first | rw [List.length_append] | rw [List.length_map] | rw [List.length_cons] | rw [List.length_nil] | rw [List.length_take] | rw [List.length_drop])) <;> omega)) | refine a_condT rfl ?_ | (refine a_condP rfl (fun hc => ?_) (fun hc => ?_)) <;> (try (exfalso; omega)))
        all_goals exact ⟨(i + 1, _), [], hlt, by show l.length - (i + 1) < l.length - i; omega, rfl, ⟨sle_i hi1, sle_i rfl, sle_sl rfl, sle_own, True.intro⟩, HLe.cons 17 rfl (HOLe.row (by rw [hss, ← hst, List.map_append]; rfl)) .nil⟩
      · have hst : N ++ [] = T := hst
        rw [List.append_nil] at hst
        repeat' (first | refine Awp.seq ?_ | refine Awp.region ?_ | (refine Ops.nil ?_; show Awp _ _ _ _ _) | (refine Ops.nil ?_; show Exists _) | (refine Awp.skip ?_; show Awp _ _ _ _ _) | (refine Awp.exit ?_; show Awp _ _ _ _ _) | (refine o_add rfl rfl rfl rfl ?_ ?_; omega) | (refine o_calm rfl TtOk rfl rfl rfl ?_ (fun _ => ?_); exact nd) | refine a_condF rfl ?_ | (refine a_condP rfl (fun hc => ?_) (fun hc => ?_)) <;> (try (exfalso; omega)))
        all_goals exact ⟨(i + 1, _), [], hlt, by show l.length - (i + 1) < l.length - i; omega, rfl, ⟨sle_i hi1, sle_i rfl, sle_sl rfl, sle_own, True.intro⟩, HLe.cons 17 rfl (HOLe.row (by rw [hss, ← hst])) .nil⟩
  · have hie : i = l.length := by omega
    subst hie
    rw [List.take_length]
    generalize srtL l = O
    repeat' (first | refine Awp.seq ?_ | refine Awp.region ?_ | (refine Ops.nil ?_; show Awp _ _ _ _ _) | (refine Awp.exit ?_; show Awp _ _ _ _ _) | (refine Awp.ret ?_; show endK _ _ _ _ _) | (refine o_calm rfl TtOk rfl rfl rfl ?_ (fun _ => ?_); exact nd) | (refine a_condP rfl (fun hc => ?_) (fun hc => ?_)) <;> (try (exfalso; omega)))
    refine end_tmp rfl rfl rfl [10] [] (CLe.fz ?_) .nil ⟨rfl, rfl⟩ _ (.inl rfl)
    exact .head _
end Go.Proofs.YtcmgpkibjdbonaaGreat
