/- The tree of the parts that Cover tells and of leaves at its labels is the tree of the other leaves and of these. No program in sight. -/
import Derived.Test.YtcmgpkibjdbonaaGreatGEZ
import Derived.Test.YtcmgpkibjdbonaaGreatR6Z
import Derived.Test.YtcmgpkibjdbonaaGreatSL7Z
import Derived.Test.YtcmgpkibjdbonaaGreatG6Z
import Derived.Test.YtcmgpkibjdbonaaGreatV16Z
import Derived.Test.YtcmgpkibjdbonaaGreatTypesZ
import Derived.Test.YtcmgpkibjdbonaaGreatProg
import Derived.Test.YtcmgpkibjdbonaaGreatBase2Z
import Derived.Lib.ConvBytes
import Derived.Lib.AppendStr
import Derived.Laws.IdiomStrings
import Derived.Laws.BytesArg
import Derived.Laws.BitsAllLaws
import Derived.Laws.BitsLemmas
import Derived.Test.YtcmgpkibjdbonaaGreatV13Z
set_option maxHeartbeats 4000000
namespace Go.Proofs.YtcmgpkibjdbonaaGreat
open Go Go.RowKit
theorem leaf_good {x : Lef} (hok : x.ok) (h0 : 0 ≤ x.t) (h1 : x.t ≤ 1073741824) : goodI (leafI x) = true := by
  unfold goodI
  have hg : goodP ⟨(leafI x).n, (leafI x).l⟩ = true := by
    show goodP ⟨256, x.l⟩ = true
    unfold goodP
    show (decide ((0 : Int) ≤ 256) && (decide ((256 : Int) ≤ 256) && (cutL x.l 256 == x.l))) = true
    rw [cut256 x.l hok.1, beq_self_eq_true]; rfl
  rw [hg]
  show (true && (decide (0 ≤ x.t) && decide (x.t ≤ 1073741824))) = true
  rw [decide_eq_true h0, decide_eq_true h1]; rfl
theorem good_t {x : Itm} (h : goodI x = true) : 0 ≤ x.t ∧ x.t ≤ 1073741824 := by
  unfold goodI at h
  simp only [Bool.and_eq_true, decide_eq_true_eq] at h
  exact h.2
theorem leaf_anti {x y : Lef} (hx : x.ok) (hy : y.ok) (h : x.l ≠ y.l) : Anti (leafI x) (leafI y) := by
  have h1 : comL x.l y.l < 256 := by
    rcases Nat.lt_or_ge (comL x.l y.l) 256 with h2 | h2
    · exact h2
    · exact absurd ((com_bits x.l y.l (by rw [hx.1, hy.1])).2.2.2 (by have := comL_256 (b := y.l) hx.1; rw [hx.1]; omega)) h
  exact ⟨by show ((comL x.l y.l : Nat) : Int) < 256; omega, by show ((comL x.l y.l : Nat) : Int) < 256; omega⟩
theorem joinF_t : ∀ (k : Nat) (l : List Itm), l ≠ [] → l.length ≤ k → RiseI l → (∀ x ∈ l, x.ok) → (∀ x ∈ l, 0 ≤ x.t ∧ x.t ≤ 1073741824) → 0 ≤ (joinF k l).t ∧ (joinF k l).t ≤ 1073741824
  | 0, l, hn, hl, _, _, _ => absurd (List.length_eq_zero_iff.1 (by omega)) hn
  | k + 1, l, hn, hl, hr, hok, ht => by
    have hp : 0 < l.length := List.length_pos_iff.2 hn
    unfold joinF
    by_cases h1 : l.length = 1
    · rw [if_pos h1, headD_get hp]; exact ht _ (List.getElem_mem _)
    rw [if_neg h1]
    obtain ⟨_, s1, s2, _⟩ := spl_ok hr hok (by omega)
    have a := joinF_t k _ (take_ne s1 s2) (by rw [List.length_take]; omega) (hr.sublist (List.take_sublist ..)) (fun x hx => hok x (List.mem_of_mem_take hx)) (fun x hx => ht x (List.mem_of_mem_take hx))
    have b := joinF_t k _ (drop_ne s2) (by rw [List.length_drop]; omega) (hr.sublist (List.drop_sublist ..)) (fun x hx => hok x (List.mem_of_mem_drop hx)) (fun x hx => ht x (List.mem_of_mem_drop hx))
    generalize joinF k (l.take (splI l)) = u at a ⊢
    generalize joinF k (l.drop (splI l)) = v at b ⊢
    have e : (innI u v).t = if v.t > u.t then v.t else u.t := rfl
    rw [e]
    split
    · exact b
    · exact a
theorem rise_ne {l : List Lef} (hr : RiseI (l.map leafI)) : l.Pairwise (fun a b => a.l ≠ b.l) := by
  have h : (l.map leafI).Pairwise (fun a b => cmpS a.l b.l < 0) := hr
  rw [List.pairwise_map] at h
  exact h.imp (fun {a b} hab he => by
    have hab : cmpS a.l b.l < 0 := hab
    rw [he, cmpS_eq] at hab; omega)
def notIn (ls : List (List UInt8)) (x : Lef) : Bool := !(ls.contains x.l)
theorem cover_top {S F : List Lef} {ls : List (List UInt8)} (hls : ∀ x ∈ ls, x.length = 32) (hc : chkI (S.map leafI) = 0) (hok : ∀ x ∈ S, x.ok) (hF : ∀ x ∈ F, x.ok ∧ 0 ≤ x.t ∧ x.t ≤ 1073741824 ∧ x.l ∈ ls) (hFd : F.Pairwise (fun a b => a.l ≠ b.l)) (hlen : S.length + F.length ≤ 2000) :
    chkI (srtI ((openF S.length ls S).1 ++ F.map leafI)) = 0 ∧ chkI (srtI ((S.filter (notIn ls) ++ F).map leafI)) = 0 ∧ topS (srtI ((openF S.length ls S).1 ++ F.map leafI)) = topS (srtI ((S.filter (notIn ls) ++ F).map leafI)) ∧ (openF S.length ls S).2 = S.filter (fun x => ls.contains x.l) ∧ (∀ x ∈ (openF S.length ls S).1, x.ok) ∧ RiseI (openF S.length ls S).1 := by
  obtain ⟨-, hr, hg⟩ := chkI_rise hc
  have hg1 : ∀ x ∈ S, goodI (leafI x) = true := fun x hx => hg _ (List.mem_map_of_mem hx)
  obtain ⟨c1, c2, c3, c4⟩ := cov_all ls hls S.length S (Nat.le_refl _) hr hok hg1
  have hlP := (openF_len S.length ls S).1
  rw [← openB_fst] at hlP ⊢
  generalize openB S.length ls S = r at c1 c2 c3 hlP ⊢
  have hJ : ∀ q ∈ r, q.2 ≠ [] ∧ JoinB q.1 (q.2.map leafI) := fun q hq => ⟨(c1 q hq).ne, blk_join (c1 q hq) hok⟩
  have c3 : r.flatMap (·.2) = S.filter (notIn ls) := c3
  have hU : ∀ x ∈ S.filter (notIn ls), x ∈ S ∧ x.l ∉ ls := fun x hx => ⟨(List.mem_filter.1 hx).1, fun hm => by
    have h2 := (List.mem_filter.1 hx).2
    unfold notIn at h2
    rw [List.contains_iff_mem.2 hm] at h2; cases h2⟩
  have okP : ∀ x ∈ r.map (·.1), x.ok := fun x hx => by
    obtain ⟨q, hq, rfl⟩ := List.mem_map.1 hx
    exact (hJ q hq).2.ok
  have okF : ∀ x ∈ F.map leafI, x.ok := fun x hx => by
    obtain ⟨y, hy, rfl⟩ := List.mem_map.1 hx
    exact leafI_ok y (hF y hy).1
  have ok1 : ∀ x ∈ r.map (·.1) ++ F.map leafI, x.ok := fun x hx => by
    rcases List.mem_append.1 hx with h | h
    · exact okP x h
    · exact okF x h
  have ok2 : ∀ x ∈ (S.filter (notIn ls) ++ F).map leafI, x.ok := fun x hx => by
    obtain ⟨y, hy, rfl⟩ := List.mem_map.1 hx
    rcases List.mem_append.1 hy with h | h
    · exact leafI_ok y (hok y (hU y h).1)
    · exact leafI_ok y (hF y h).1
  have gF : ∀ x ∈ F.map leafI, goodI x = true := fun x hx => by
    obtain ⟨y, hy, rfl⟩ := List.mem_map.1 hx
    exact leaf_good (hF y hy).1 (hF y hy).2.1 (hF y hy).2.2.1
  have gP : ∀ x ∈ r.map (·.1), goodI x = true := fun x hx => by
    obtain ⟨q, hq, rfl⟩ := List.mem_map.1 hx
    have hgB : ∀ b ∈ q.2.map leafI, goodI b = true := fun b hb => by
      obtain ⟨y, hy, rfl⟩ := List.mem_map.1 hb
      exact hg1 y ((c1 q hq).sub y hy)
    have hgp := (hJ q hq).2.good hgB
    have ht := joinF_t q.2.length (q.2.map leafI) (fun h => (c1 q hq).ne (List.map_eq_nil_iff.1 h)) (by rw [List.length_map]; exact Nat.le_refl _) (c1 q hq).rise (fun x hx => by
      obtain ⟨y, hy, rfl⟩ := List.mem_map.1 hx
      exact leafI_ok y (hok y ((c1 q hq).sub y hy))) (fun x hx => good_t (hgB x hx))
    rw [← (c1 q hq).eq] at ht
    unfold goodI
    rw [show goodP ⟨q.1.n, q.1.l⟩ = true from hgp, decide_eq_true ht.1, decide_eq_true ht.2]; rfl
  have a1 : (r.map (·.1) ++ F.map leafI).Pairwise Anti := by
    refine List.pairwise_append.2 ⟨?_, ?_, fun a ha b hb => ?_⟩
    · rw [List.pairwise_map]; exact c2.imp (fun h => ⟨h.1, h.2.1⟩)
    · rw [List.pairwise_map]
      exact List.Pairwise.imp_of_mem (fun {a b} ha hb h => leaf_anti (hF a ha).1 (hF b hb).1 h) hFd
    · obtain ⟨q, hq, rfl⟩ := List.mem_map.1 ha
      obtain ⟨y, hy, rfl⟩ := List.mem_map.1 hb
      have h1 := (c1 q hq).out y.l (hF y hy).2.2.2
      have h2 := (hJ q hq).2.le
      exact ⟨h1, by show ((comL q.1.l y.l : Nat) : Int) < 256; omega⟩
  have hUF : (S.filter (notIn ls) ++ F).Pairwise (fun a b => a.l ≠ b.l) := by
    refine List.pairwise_append.2 ⟨(rise_ne hr).filter _, hFd, fun a ha b hb he => ?_⟩
    exact (hU a ha).2 (he ▸ (hF b hb).2.2.2)
  have a2 : ((S.filter (notIn ls) ++ F).map leafI).Pairwise Anti := by
    rw [List.pairwise_map]
    refine List.Pairwise.imp_of_mem (fun {a b} ha hb h => leaf_anti ?_ ?_ h) hUF
    · rcases List.mem_append.1 ha with h | h
      · exact hok a (hU a h).1
      · exact (hF a h).1
    · rcases List.mem_append.1 hb with h | h
      · exact hok b (hU b h).1
      · exact (hF b h).1
  have e1 := chk_anti (l := r.map (·.1) ++ F.map leafI) (by rw [List.length_append, List.length_map (f := leafI)]; omega) (fun x hx => by
    rcases List.mem_append.1 hx with h | h
    · exact gP x h
    · exact gF x h) ok1 a1
  have e2 := chk_anti (l := (S.filter (notIn ls) ++ F).map leafI) (by
    have := List.length_filter_le (notIn ls) S
    rw [List.length_map, List.length_append]; omega) (fun x hx => by
    obtain ⟨y, hy, rfl⟩ := List.mem_map.1 hx
    rcases List.mem_append.1 hy with h | h
    · exact hg1 y (hU y h).1
    · exact gF _ (List.mem_map_of_mem h)) ok2 a2
  refine ⟨e1, e2, ?_, c4, okP, List.pairwise_map.2 (c2.imp (fun h => h.2.2.2.2))⟩
  rw [top_trJ ok1 e1, top_trJ ok2 e2]
  have ht := trJ_blocks r (F.map leafI) hJ c2 (fun q hq x hx => by
    obtain ⟨y, hy, rfl⟩ := List.mem_map.1 hx
    exact ⟨leafI_ok y (hF y hy).1, (c1 q hq).out y.l (hF y hy).2.2.2⟩) (fun q hq y hy => hok y ((c1 q hq).sub y hy))
  rw [c3, ← List.map_append] at ht
  rw [ht]
  have hnil : (r.map (·.1) ++ F.map leafI = []) ↔ ((S.filter (notIn ls) ++ F).map leafI = []) := by
    rw [List.map_append, ← c3]
    cases r with
    | nil => rfl
    | cons q r =>
      constructor
      · intro h; cases h
      · intro h
        exfalso
        have h1 := (List.append_eq_nil_iff.1 h).1
        rw [List.flatMap_cons, List.map_append] at h1
        exact (c1 q (List.mem_cons_self ..)).ne (List.map_eq_nil_iff.1 (List.append_eq_nil_iff.1 h1).1)
  by_cases hn : r.map (·.1) ++ F.map leafI = []
  · rw [if_pos hn, if_pos (hnil.1 hn)]
  · rw [if_neg hn, if_neg (fun h => hn (hnil.2 h))]
/-- What is sorted of lists that are one but for their order. -/
theorem srt_eq {a b : List Itm} (h : a.Perm b) (hc : chkI (srtI b) = 0) : srtI a = srtI b := srt_perm h (chkI_rise hc).2.1
theorem srt_id {a : List Itm} (h : RiseI a) : srtI a = a := sortS_id woI (h.imp (fun {x y} hxy => by
  show decide (cmpS y.l x.l < 0) = false
  exact decide_eq_false (fun h2 => by
    have := cmp_trans hxy h2
    rw [cmpS_eq] at this; omega)))
end Go.Proofs.YtcmgpkibjdbonaaGreat
set_option maxHeartbeats 16000000
set_option maxRecDepth 100000
namespace Go.Proofs.YtcmgpkibjdbonaaGreat
open Go Go.RowKit
/-- How many leaves of rising ones have bit n at 0. -/
def sidL (n : Nat) (l : List Lef) : Nat := if l.any (fun x => bitL x.l n == 1) = true then l.findIdx (fun x => bitL x.l n == 1) else l.length
/-- The two parts of a tree. -/
def parA (I : List Itm) : Itm := joinF (I.length - 1) (I.take (splI I))
def parB (I : List Itm) : Itm := joinF (I.length - 1) (I.drop (splI I))
theorem join_par {I : List Itm} (h2 : 2 ≤ I.length) : joinF I.length I = innI (parA I) (parB I) := by
  obtain ⟨k, hk⟩ : ∃ k, I.length = k + 1 := ⟨I.length - 1, by omega⟩
  unfold parA parB
  rw [hk]
  show (if I.length = 1 then _ else _) = _
  rw [if_neg (by omega)]; rfl
theorem par_ok {I : List Itm} (hr : RiseI I) (hok : ∀ x ∈ I, x.ok) (h2 : 2 ≤ I.length) : (parA I).ok ∧ (parB I).ok := by
  obtain ⟨_, s1, s2, _⟩ := spl_ok hr hok h2
  exact ⟨joinF_ok _ _ (take_ne s1 s2) (by rw [List.length_take]; omega) (hr.sublist (List.take_sublist ..)) (fun x hx => hok x (List.mem_of_mem_take hx)),
    joinF_ok _ _ (drop_ne s2) (by rw [List.length_drop]; omega) (hr.sublist (List.drop_sublist ..)) (fun x hx => hok x (List.mem_of_mem_drop hx))⟩
end Go.Proofs.YtcmgpkibjdbonaaGreat
set_option maxHeartbeats 4000000
namespace Go.Proofs.YtcmgpkibjdbonaaGreat
open Go Go.RowKit
def TK.isIface : TK → Bool
  | .iface => true
  | _ => false
section
variable {m : OM} {P : Program} {T : List (Nat × TI)} {C : Ctx} {ops : Array Oper} {l : List Oper} {K : St → Prop} {n : Nat} {sl : List (Nat × AV)} {hp : List (Nat × HO)} {d : Nat} {ty : Nat} {pos : String} {aft : Array Edge} {gd : Option (Nat × Bool)}
theorem CLe.ifc {fr : Fr} {t : Nat} {a b : AV} (h : CLe fr a b) : CLe fr (.ifc t a) (.ifc t b) := ⟨fun w F cs hf h1 => by
  simp only [repC] at h1 ⊢
  obtain ⟨vs, rfl, h3⟩ := h1
  have h4 := h.1 w F _ hf h3
  refine ⟨vs, ?_, h4⟩
  unfold ofCells
  rw [h.2], rfl⟩
end
end Go.Proofs.YtcmgpkibjdbonaaGreat
set_option maxHeartbeats 8000000
set_option maxRecDepth 100000
namespace Go.Proofs.YtcmgpkibjdbonaaGreat
open Go Go.RowKit
def leafN (x : Lef) : AV := .ifc 46 x.A
def innN (x y : Itm) : AV := .ifc 52 (.agg [x.A, y.A])
def chkLf (x : Lef) : Int := if x.t < 0 ∨ 1073741824 < x.t then 1 else 0
def chkN (x y : Itm) : Int := if goodI x = true ∧ goodI y = true then (if x.n ≤ (comL x.l y.l : Nat) ∨ y.n ≤ (comL x.l y.l : Nat) ∨ 0 < cmpS x.l y.l then 3 else 0) else 1
def lef0 : Lef := ⟨List.replicate 32 0, List.replicate 32 0, 0⟩
def itm0 : Itm := ⟨0, List.replicate 32 0, List.replicate 32 0, 0⟩
def itmZ : AV := .agg [.agg [.i .i64 0, .arr 1 32 (List.replicate 32 (.i .u8 0))], .arr 1 32 (List.replicate 32 (.i .u8 0)), .i .i64 0]
end Go.Proofs.YtcmgpkibjdbonaaGreat
set_option maxHeartbeats 16000000
set_option maxRecDepth 100000
namespace Go.Proofs.YtcmgpkibjdbonaaGreat
open Go Go.RowKit
structure Prf where
  e : Int
  lf : Lef
  a : Itm
  b : Itm
  path : List Itm
def Prf.A (p : Prf) : AV := .agg [.i .i64 p.e, p.lf.A, .agg [p.a.A, p.b.A], .sl 66 (p.path.map Itm.A)]
def Prf.R (p : Prf) : AV := .agg [.i .i64 p.e, p.lf.A, p.a.R, p.b.R, .sl 66 (p.path.map Itm.R)]
structure Prf.ok (p : Prf) : Prop where
  lf : p.lf.ok
  a : p.a.ok
  b : p.b.ok
  path : ∀ x ∈ p.path, x.ok
def itmY : AV := .agg [.agg [.i .i64 0, .arr 1 32 (List.replicate 32 (.i .u8 0))], .arr 1 32 (List.replicate 32 (.i .u8 0)), .i .i64 0]
def prf0 : Prf := ⟨0, lef0, itm0, itm0, []⟩
/-- The way towards a label, in rising leaves. -/
def wayF : Nat → List Lef → List UInt8 → List Itm → Prf
  | 0, _, _, p => ⟨0, lef0, itm0, itm0, p.reverse⟩
  | k + 1, l, lb, p => if l = [] then ⟨0, lef0, itm0, itm0, p.reverse⟩ else if l.length = 1 then ⟨1, l.headD lef0, itm0, itm0, p.reverse⟩
    else if hasP (joinF l.length (l.map leafI)).p lb = false then ⟨2, lef0, parA (l.map leafI), parB (l.map leafI), p.reverse⟩
    else if bitL lb (frkI (l.map leafI)) = 1 then wayF k (l.drop (splI (l.map leafI))) lb (p ++ [parA (l.map leafI)]) else wayF k (l.take (splI (l.map leafI))) lb (p ++ [parB (l.map leafI)])
def mkE (l : List Lef) : Int := chkI (itmsL l)
def mkP (l : List Lef) (lb : List UInt8) : Prf := if mkE l ≠ 0 then prf0 else wayF (l.length + 1) (srtL l) lb []
theorem hok_map {l : List Lef} (hok : ∀ x ∈ l, x.ok) : ∀ x ∈ l.map leafI, x.ok := fun x hx => by
  obtain ⟨y, hy, rfl⟩ := List.mem_map.1 hx
  exact leafI_ok y (hok y hy)
end Go.Proofs.YtcmgpkibjdbonaaGreat
set_option maxHeartbeats 16000000
set_option maxRecDepth 100000
namespace Go.Proofs.YtcmgpkibjdbonaaGreat
open Go Go.RowKit
/-- Bit m of a label; none beyond its end. -/
def bitN (l : List UInt8) (m : Nat) : Nat := if m < 256 then bitL l m else 0
/-- The node of an item on the way and the one beside it. -/
def upL (x y : Itm) : Itm := if 0 < cmpS x.l y.l then y else x
def upR (x y : Itm) : Itm := if 0 < cmpS x.l y.l then x else y
def upE (x y : Itm) (lb : List UInt8) : Int := if chkN (upL x y) (upR x y) ≠ 0 then chkN (upL x y) (upR x y) else if hasP (innI (upL x y) (upR x y)).p lb = true ∧ bitN lb (comL (upL x y).l (upR x y).l) = bitN x.l (comL (upL x y).l (upR x y).l) then 0 else 11
end Go.Proofs.YtcmgpkibjdbonaaGreat
set_option maxHeartbeats 4000000
namespace Go.Proofs.YtcmgpkibjdbonaaGreat
open Go Go.RowKit

/-- What a Reader holds. -/
structure RS where
  s : List UInt8
  p : Nat
  e : Int
def RS.ok (r : RS) : Prop := r.p ≤ r.s.length ∧ r.s.length ≤ 9223372036854775807
def rdA (r : RS) : AV := .agg [.s r.s, .i .i64 r.p, .i .i64 r.e]
def RS.take (r : RS) (n : Nat) : List UInt8 × RS :=
  if r.e ≠ 0 then ([], r) else if r.s.length - r.p < n then ([], ⟨r.s, r.p, 5⟩) else ((r.s.drop r.p).take n, ⟨r.s, r.p + n, 0⟩)
def RS.fail (r : RS) (x : Int) : RS := if r.e = 0 then ⟨r.s, r.p, x⟩ else r
end Go.Proofs.YtcmgpkibjdbonaaGreat
namespace Go.Proofs.YtcmgpkibjdbonaaGreat
open Go.RowKit

def byC (c : UInt8) : List Value := [.int .u8 (c.toNat : Int)]
end Go.Proofs.YtcmgpkibjdbonaaGreat
set_option maxHeartbeats 4000000
namespace Go.Proofs.YtcmgpkibjdbonaaGreat
open Go Go.RowKit

def be (l : List UInt8) : Nat := l.foldl (fun n c => 256 * n + c.toNat) 0
def badNum (sz : Nat) (l : List UInt8) : Bool := match l with
  | [] => false
  | c :: _ => c.toNat == 0 || sz == 8 && decide (127 < c.toNat)
def hd0 (l : List UInt8) : Nat := (l.headD 0).toNat
def RS.number (r : RS) : Nat × RS :=
  if (r.take 1).1 = [] then (0, (r.take 1).2) else
  if 8 < hd0 (r.take 1).1 then (0, (r.take 1).2.fail 4) else
  if badNum (hd0 (r.take 1).1) ((r.take 1).2.take (hd0 (r.take 1).1)).1 then (0, ((r.take 1).2.take (hd0 (r.take 1).1)).2.fail 4)
  else (be ((r.take 1).2.take (hd0 (r.take 1).1)).1, ((r.take 1).2.take (hd0 (r.take 1).1)).2)
end Go.Proofs.YtcmgpkibjdbonaaGreat
set_option maxHeartbeats 4000000
namespace Go.Proofs.YtcmgpkibjdbonaaGreat
open Go Go.RowKit

def RS.big (r : RS) (n : Nat) : RS := if r.e = 0 ∧ 65536 < n then r.fail 2 else r
def RS.text (r : RS) : List UInt8 × RS := (r.number.2.big r.number.1).take r.number.1
def RS.below (r : RS) (most : Int) : Nat × RS := if most ≤ (r.number.1 : Int) then (0, r.number.2.fail 2) else r.number
def RS.flag (r : RS) : Bool × RS :=
  if Op.bytesLess (r.take 1).1 [1] || (r.take 1).1 == [1] then ((r.take 1).1 == [1], (r.take 1).2) else (false, (r.take 1).2.fail 4)
def RS.done (r : RS) : Int := if r.e = 0 ∧ r.p < r.s.length then 3 else r.e
def RS.open (s : List UInt8) : RS := ⟨s, 0, if 65536 < s.length then 2 else 0⟩
end Go.Proofs.YtcmgpkibjdbonaaGreat
set_option maxHeartbeats 4000000
namespace Go.Proofs.YtcmgpkibjdbonaaGreat
open Go Go.RowKit

end Go.Proofs.YtcmgpkibjdbonaaGreat
set_option maxHeartbeats 8000000
namespace Go.Proofs.YtcmgpkibjdbonaaGreat
open Go Go.RowKit

theorem take_nil {r : RS} (hok : r.ok) {n : Nat} (hn : 0 < n) : (r.take n).1 = [] ↔ (r.take n).2.e ≠ 0 := by
  obtain ⟨h1, h2⟩ := hok
  unfold RS.take
  split
  · rename_i h; exact ⟨fun _ => h, fun _ => rfl⟩
  · split
    · exact ⟨fun _ => by show (5 : Int) ≠ 0; decide, fun _ => rfl⟩
    · refine ⟨fun h => ?_, fun h => absurd rfl h⟩
      have : ((r.s.drop r.p).take n).length = 0 := by rw [show (r.s.drop r.p).take n = [] from h]; rfl
      rw [List.length_take, List.length_drop] at this
      omega
end Go.Proofs.YtcmgpkibjdbonaaGreat
set_option maxHeartbeats 16000000
namespace Go.Proofs.YtcmgpkibjdbonaaGreat
open Go Go.RowKit

end Go.Proofs.YtcmgpkibjdbonaaGreat
set_option maxHeartbeats 16000000
namespace Go.Proofs.YtcmgpkibjdbonaaGreat
open Go Go.RowKit

def RS.label (r : RS) : List UInt8 × RS := ((r.take 32).1 ++ List.replicate (32 - (r.take 32).1.length) 0, (r.take 32).2)
end Go.Proofs.YtcmgpkibjdbonaaGreat
set_option maxHeartbeats 4000000
namespace Go.Proofs.YtcmgpkibjdbonaaGreat
open Go Go.RowKit

end Go.Proofs.YtcmgpkibjdbonaaGreat
set_option maxHeartbeats 4000000
namespace Go.Proofs.YtcmgpkibjdbonaaGreat
open Go Go.RowKit

/-- What a Writer holds: its bytes, its first error. -/
structure WS where
  bs : List UInt8
  e : Int
def WS.fail (s : WS) (x : Int) : WS := if s.e = 0 then { s with e := x } else s
def WS.put (s : WS) (l : List UInt8) : WS := { s with bs := s.bs ++ l }
def digits (n : Nat) : List UInt8 := if n = 0 then [] else digits (n / 256) ++ [UInt8.ofNat n]
termination_by n
decreasing_by omega
def numBytes (n : Nat) : List UInt8 := UInt8.ofNat (digits n).length :: digits n
def WS.number (s : WS) (n : Int) : WS := if n < 0 then s.fail 1 else s.put (numBytes n.toNat)

def wrA (v : Value) (s : WS) : AV := .agg [.own 1 v, .i .i64 s.e]
def wrO (b : Nat) (v : Value) (s : WS) : List HO := [.var b (wrA v s), .row v 5 1 (s.bs.map byA)]
end Go.Proofs.YtcmgpkibjdbonaaGreat
set_option maxHeartbeats 4000000
namespace Go.Proofs.YtcmgpkibjdbonaaGreat
open Go Go.RowKit

def WS.text (s : WS) (t : List UInt8) : WS := if 65536 < t.length then s.fail 2 else (s.number t.length).put t
def WS.done (s : WS) : List UInt8 × Int := if s.e ≠ 0 then ([], s.e) else if 65536 < s.bs.length then ([], 2) else (s.bs, 0)
end Go.Proofs.YtcmgpkibjdbonaaGreat
set_option maxHeartbeats 4000000
namespace Go.Proofs.YtcmgpkibjdbonaaGreat
open Go Go.RowKit

end Go.Proofs.YtcmgpkibjdbonaaGreat
namespace Go.Proofs.YtcmgpkibjdbonaaGreat
open Go Go.RowKit

structure Thg where
  k : Int
  n : Int
  s : List UInt8
  l : List UInt8
def thA (t : Thg) : AV := .agg [.i .i64 t.k, .i .i64 t.n, .s t.s, labA t.l]
def RS.rest (r : RS) : List UInt8 := r.s.drop r.p
def textBytes (s : List UInt8) : List UInt8 := numBytes s.length ++ s
/-! One spelling. -/
/-- The bytes of a thing. -/
def tBytes (t : Thg) : List UInt8 := if t.k = 1 then numBytes t.n.toNat else if t.k = 2 then textBytes t.s else if t.k = 3 then t.l else if t.k = 4 then [if 0 < t.n then 1 else 0] else []
def WS.thing (w : WS) (t : Thg) : WS := if t.k = 1 then w.number t.n else if t.k = 2 then w.text t.s else if t.k = 3 then w.put t.l else if t.k = 4 then w.put [if 0 < t.n then 1 else 0] else w
def WS.things (w : WS) (l : List Thg) : WS := l.foldl WS.thing w
/-- What is written without a fault. -/
def tOk (t : Thg) : Prop := (t.k = 1 → 0 ≤ t.n) ∧ (t.k = 2 → t.s.length ≤ 65536)
end Go.Proofs.YtcmgpkibjdbonaaGreat
set_option maxHeartbeats 8000000
set_option maxRecDepth 100000
namespace Go.Proofs.YtcmgpkibjdbonaaGreat
open Go Go.RowKit
def WS.itm (s : WS) (x : Itm) : WS := (((s.number x.n).put x.l).put x.s).number x.t
def RS.itm (r : RS) : Itm × RS := (⟨(r.number.1 : Nat), r.number.2.label.1, r.number.2.label.2.label.1, (r.number.2.label.2.label.2.number.1 : Nat)⟩, r.number.2.label.2.label.2.number.2)
def WS.lef (s : WS) (x : Lef) : WS := ((s.put x.l).put x.v).number x.t
def RS.lef (r : RS) : Lef × RS := (⟨r.label.1, r.label.2.label.1, (r.label.2.label.2.number.1 : Nat)⟩, r.label.2.label.2.number.2)
def w0 : WS := ⟨[], 0⟩
def lfW (x : Lef) : WS := (w0.put [0]).lef x
def inW (x y : Itm) : WS := ((w0.put [1]).itm x).itm y
/-- The bytes of a leaf, of an inner node; the error. -/
def lfBy (x : Lef) : List UInt8 × Int := if chkLf x ≠ 0 then ([], chkLf x) else (lfW x).done
def inBy (x y : Itm) : List UInt8 × Int := if chkN x y ≠ 0 then ([], chkN x y) else (inW x y).done
/-- What bytes are as a node: a leaf, two items, or nothing; the error. -/
inductive Nod where
  | no | lf (x : Lef) | inn (x y : Itm)
def Nod.A : Nod → AV
  | .no => .nili
  | .lf x => leafN x
  | .inn x y => innN x y
def Nod.chk : Nod → Int
  | .no => 3
  | .lf x => chkLf x
  | .inn x y => chkN x y
def nodR (s : List UInt8) : Nod × RS :=
  let f := (RS.open s).flag
  if f.1 = true then (.inn f.2.itm.1 f.2.itm.2.itm.1, f.2.itm.2.itm.2) else (.lf f.2.lef.1, f.2.lef.2)
def nodRd (s : List UInt8) : Nod × Int :=
  if (nodR s).2.done ≠ 0 then (.no, (nodR s).2.done) else if (nodR s).1.chk ≠ 0 then (.no, (nodR s).1.chk) else ((nodR s).1, 0)
end Go.Proofs.YtcmgpkibjdbonaaGreat
set_option maxHeartbeats 4000000
namespace Go.Proofs.YtcmgpkibjdbonaaGreat
open Go Go.RowKit
/-- The nodes upwards of an item, by the items beside the way. -/
def upsF : Itm → List Itm → List UInt8 → List Nod × Int
  | _, [], _ => ([], 0)
  | x, y :: r, lb => if upE x y lb ≠ 0 then ([], upE x y lb) else (.inn (upL x y) (upR x y) :: (upsF (innI (upL x y) (upR x y)) r lb).1, (upsF (innI (upL x y) (upR x y)) r lb).2)
/-- Nodes ahead of what is still to come. -/
def fin_ (acc : List Nod) (q : List Nod × Int) : List Nod × Int := if q.2 ≠ 0 then ([], q.2) else (acc ++ q.1, 0)
def ndsF (p : Prf) (lb : List UInt8) : List Nod × Int :=
  if 256 < p.path.length then ([], 2)
  else if p.e = 0 then (if p.path.length = 0 then ([], 0) else ([], 3))
  else if p.e = 1 then (if chkLf p.lf ≠ 0 then ([], chkLf p.lf) else fin_ [.lf p.lf] (upsF (leafI p.lf) p.path lb))
  else if p.e = 2 then (if chkN p.a p.b ≠ 0 then ([], chkN p.a p.b) else if hasP (innI p.a p.b).p lb = true then ([], 11) else fin_ [.inn p.a p.b] (upsF (innI p.a p.b) p.path lb))
  else ([], 1)
end Go.Proofs.YtcmgpkibjdbonaaGreat
set_option maxHeartbeats 4000000
namespace Go.Proofs.YtcmgpkibjdbonaaGreat
open Go Go.RowKit
structure Fst (G : List Itm) : Prop where
  ok : ∀ x ∈ G, x.ok
  good : ∀ x ∈ G, goodI x = true
  anti : G.Pairwise Anti
  rise : RiseI G
/-- The item that two neighbours are. -/
def nbC (G : List Itm) (i : Nat) : Nat := comL (G.getD i default).l (G.getD (i + 1) default).l
def mrg (G : List Itm) (i : Nat) : List Itm := G.take i ++ innI (G.getD i default) (G.getD (i + 1) default) :: G.drop (i + 2)
end Go.Proofs.YtcmgpkibjdbonaaGreat
set_option maxHeartbeats 4000000
namespace Go.Proofs.YtcmgpkibjdbonaaGreat
open Go Go.RowKit
def Nod.itm : Nod → Itm
  | .no => itm0
  | .lf x => leafI x
  | .inn x y => innI x y
def Nod.txt : Nod → List UInt8
  | .no => []
  | .lf x => leafB x
  | .inn x y => innB x y
def Nod.ok : Nod → Prop
  | .no => True
  | .lf x => x.ok
  | .inn x y => x.ok ∧ y.ok
/-- Leaves that rise and are good. -/
structure Rsn (l : List Lef) : Prop where
  rise : RiseI (l.map leafI)
  ok : ∀ x ∈ l, x.ok
  good : ∀ x ∈ l, goodI (leafI x) = true
theorem Rsn.take {l : List Lef} (h : Rsn l) (i : Nat) : Rsn (l.take i) := ⟨by rw [List.map_take]; exact h.rise.sublist (List.take_sublist ..), fun x hx => h.ok x (List.mem_of_mem_take hx), fun x hx => h.good x (List.mem_of_mem_take hx)⟩
theorem Rsn.drop {l : List Lef} (h : Rsn l) (i : Nat) : Rsn (l.drop i) := ⟨by rw [List.map_drop]; exact h.rise.sublist (List.drop_sublist ..), fun x hx => h.ok x (List.mem_of_mem_drop hx), fun x hx => h.good x (List.mem_of_mem_drop hx)⟩
theorem Rsn.okI {l : List Lef} (h : Rsn l) : ∀ x ∈ l.map leafI, x.ok := hok_map h.ok
theorem Rsn.goodI {l : List Lef} (h : Rsn l) : ∀ x ∈ l.map leafI, goodI x = true := fun x hx => by
  obtain ⟨y, hy, rfl⟩ := List.mem_map.1 hx
  exact h.good y hy
/-- The item of leaves. -/
def jnI (l : List Lef) : Itm := joinF l.length (l.map leafI)
theorem Rsn.join {l : List Lef} (h : Rsn l) (h0 : 0 < l.length) : JoinB (jnI l) (l.map leafI) ∧ Go.Proofs.YtcmgpkibjdbonaaGreat.goodI (jnI l) = true := by
  have h1 : 0 < (l.map leafI).length := by rw [List.length_map]; exact h0
  have hJ := join_B h1 h.rise h.okI (fun x hx => good_n (h.goodI x hx))
  have ht := joinF_t (l.map leafI).length (l.map leafI) (List.length_pos_iff.1 h1) (Nat.le_refl _) h.rise h.okI (fun x hx => good_t (h.goodI x hx))
  rw [List.length_map] at hJ ht
  refine ⟨hJ, ?_⟩
  have ht : 0 ≤ (jnI l).t ∧ (jnI l).t ≤ 1073741824 := ht
  have hg := hJ.good h.goodI
  unfold Go.Proofs.YtcmgpkibjdbonaaGreat.goodI
  rw [show (⟨(jnI l).n, (jnI l).l⟩ : Pfx) = (joinF l.length (l.map leafI)).p from rfl, hg, decide_eq_true ht.1, decide_eq_true ht.2]; rfl
/-- Of leaves all of which have some bits in common, the item is one further. -/
theorem Rsn.deep {l : List Lef} (h : Rsn l) (h0 : 0 < l.length) {n : Nat} (hn : n < 256) (hb : ∀ x ∈ l, ∀ y ∈ l, ∀ i, i ≤ n → bitL x.l i = bitL y.l i) : ((n : Nat) : Int) < (jnI l).n ∧ ∀ y ∈ l, bitL (jnI l).l n = bitL y.l n := by
  have h1 : 0 < (l.map leafI).length := by rw [List.length_map]; exact h0
  have hlt : ((n : Nat) : Int) < (jnI l).n := by
    obtain ⟨a, b⟩ := join_pfx _ (l.map leafI) h1 (Nat.le_refl _) h.rise h.okI
    rw [List.length_map] at a b
    unfold jnI
    by_cases h1 : l.length = 1
    · rw [a h1, List.getElem_map]; show ((n : Nat) : Int) < 256; omega
    · rw [(b (by omega)).1]
      have := frk_gt h.okI (by rw [List.length_map]; exact h0) hn (fun x hx i hi => by
        obtain ⟨y, hy, rfl⟩ := List.mem_map.1 hx
        rw [List.getElem_map]
        exact hb y hy _ (List.getElem_mem _) i hi)
      omega
  refine ⟨hlt, fun y hy => ?_⟩
  exact ((h.join h0).1.agree (leafI y) (List.mem_map_of_mem hy) n hlt).symm
/-- What is known of the two sides. -/
structure Sides (l : List Lef) : Prop where
  s0 : 0 < splI (l.map leafI)
  sl : splI (l.map leafI) < l.length
  f256 : frkI (l.map leafI) < 256
  jA : parA (l.map leafI) = jnI (l.take (splI (l.map leafI)))
  jB : parB (l.map leafI) = jnI (l.drop (splI (l.map leafI)))
  oA : (parA (l.map leafI)).ok
  oB : (parB (l.map leafI)).ok
  jn : jnI l = innI (parA (l.map leafI)) (parB (l.map leafI))
  com : comL (parA (l.map leafI)).l (parB (l.map leafI)).l = frkI (l.map leafI)
  bA : bitL (parA (l.map leafI)).l (frkI (l.map leafI)) = 0
  bB : bitL (parB (l.map leafI)).l (frkI (l.map leafI)) = 1
  lo : ∀ x ∈ l.take (splI (l.map leafI)), bitL x.l (frkI (l.map leafI)) = 0
  hi : ∀ x ∈ l.drop (splI (l.map leafI)), bitL x.l (frkI (l.map leafI)) = 1
  chk : chkN (parA (l.map leafI)) (parB (l.map leafI)) = 0
  cmp : cmpS (parA (l.map leafI)).l (parB (l.map leafI)).l < 0
theorem Rsn.sides {l : List Lef} (h : Rsn l) (h2 : 2 ≤ l.length) : Sides l := by
  have hml : (l.map leafI).length = l.length := List.length_map ..
  have h2I : 2 ≤ (l.map leafI).length := by omega
  obtain ⟨hf, s0, s1, _⟩ := spl_ok h.rise h.okI h2I
  obtain ⟨oA, oB⟩ := par_ok h.rise h.okI h2I
  have hjn := join_par h2I
  have hlo : ∀ x ∈ l.take (splI (l.map leafI)), bitL x.l (frkI (l.map leafI)) = 0 := fun x hx => by
    obtain ⟨j, hj, rfl⟩ := List.getElem_of_mem hx
    rw [List.length_take] at hj
    rw [List.getElem_take]
    have := spl_lo (l := l.map leafI) j (by omega) (by omega)
    rw [List.getElem_map] at this
    exact this
  have hhi : ∀ x ∈ l.drop (splI (l.map leafI)), bitL x.l (frkI (l.map leafI)) = 1 := fun x hx => by
    obtain ⟨j, hj, rfl⟩ := List.getElem_of_mem hx
    rw [List.length_drop] at hj
    rw [List.getElem_drop]
    have := spl_hi h.rise h.okI h2I (splI (l.map leafI) + j) (by omega) (by omega)
    rw [List.getElem_map] at this
    exact this
  have hbits : ∀ x ∈ l, ∀ y ∈ l, ∀ i, i < frkI (l.map leafI) → bitL x.l i = bitL y.l i := fun x hx y hy i hi => by
    obtain ⟨j, hj, rfl⟩ := List.getElem_of_mem hx
    obtain ⟨k, hk, rfl⟩ := List.getElem_of_mem hy
    have a := rise_bits h.rise h.okI (by omega) j (by omega) i hi
    have b := rise_bits h.rise h.okI (by omega) k (by omega) i hi
    rw [List.getElem_map] at a b
    exact a.trans b.symm
  have tk : (l.take (splI (l.map leafI))).length = splI (l.map leafI) := by rw [List.length_take]; omega
  have dr : (l.drop (splI (l.map leafI))).length = l.length - splI (l.map leafI) := List.length_drop
  have n1 : l.take (splI (l.map leafI)) ≠ [] := fun he => by rw [he] at tk; simp at tk; omega
  have n2 : l.drop (splI (l.map leafI)) ≠ [] := fun he => by rw [he] at dr; simp at dr; omega
  have e1 : parA (l.map leafI) = jnI (l.take (splI (l.map leafI))) := by
    unfold parA jnI
    rw [← List.map_take]
    exact (joinF_fuel _ _ _ (fun he => n1 (List.map_eq_nil_iff.1 he)) (by rw [List.length_map]; exact Nat.le_refl _) (by rw [List.length_map]; omega) (h.take _).rise (h.take _).okI).symm
  have e2 : parB (l.map leafI) = jnI (l.drop (splI (l.map leafI))) := by
    unfold parB jnI
    rw [← List.map_drop]
    exact (joinF_fuel _ _ _ (fun he => n2 (List.map_eq_nil_iff.1 he)) (by rw [List.length_map]; exact Nat.le_refl _) (by rw [List.length_map]; omega) (h.drop _).rise (h.drop _).okI).symm
  obtain ⟨dA, bA'⟩ := (h.take (splI (l.map leafI))).deep (by omega) hf (fun x hx y hy i hi => by
    rcases Nat.lt_or_ge i (frkI (l.map leafI)) with hlt | hge
    · exact hbits x (List.mem_of_mem_take hx) y (List.mem_of_mem_take hy) i hlt
    · have : i = frkI (l.map leafI) := by omega
      subst this
      rw [hlo x hx, hlo y hy])
  obtain ⟨dB, bB'⟩ := (h.drop (splI (l.map leafI))).deep (by omega) hf (fun x hx y hy i hi => by
    rcases Nat.lt_or_ge i (frkI (l.map leafI)) with hlt | hge
    · exact hbits x (List.mem_of_mem_drop hx) y (List.mem_of_mem_drop hy) i hlt
    · have : i = frkI (l.map leafI) := by omega
      subst this
      rw [hhi x hx, hhi y hy])
  obtain ⟨jA, gA⟩ := (h.take (splI (l.map leafI))).join (by omega)
  obtain ⟨jB, gB⟩ := (h.drop (splI (l.map leafI))).join (by omega)
  obtain ⟨xa, ra, hxa⟩ := List.exists_cons_of_ne_nil n1
  obtain ⟨xb, rb, hxb⟩ := List.exists_cons_of_ne_nil n2
  have ma : xa ∈ l.take (splI (l.map leafI)) := by rw [hxa]; exact List.mem_cons_self ..
  have mb : xb ∈ l.drop (splI (l.map leafI)) := by rw [hxb]; exact List.mem_cons_self ..
  have bA : bitL (parA (l.map leafI)).l (frkI (l.map leafI)) = 0 := by rw [e1, bA' xa ma, hlo xa ma]
  have bB : bitL (parB (l.map leafI)).l (frkI (l.map leafI)) = 1 := by rw [e2, bB' xb mb, hhi xb mb]
  have hcom : comL (parA (l.map leafI)).l (parB (l.map leafI)).l = frkI (l.map leafI) := by
    refine com_is oA.1 oB.1 hf (fun i hi => ?_) (by rw [bA, bB]; decide)
    rw [e1, e2, ← jA.agree (leafI xa) (List.mem_map_of_mem ma) i (by omega), ← jB.agree (leafI xb) (List.mem_map_of_mem mb) i (by omega)]
    exact hbits xa (List.mem_of_mem_take ma) xb (List.mem_of_mem_drop mb) i hi
  have hcmp : cmpS (parA (l.map leafI)).l (parB (l.map leafI)).l < 0 := lt_cmp oA.1 oB.1 (by omega) (by rw [hcom]; exact bA)
  have hck : chkN (parA (l.map leafI)) (parB (l.map leafI)) = 0 := by
    unfold chkN
    rw [if_pos ⟨by rw [e1]; exact gA, by rw [e2]; exact gB⟩, hcom, if_neg]
    rintro (q | q | q)
    · rw [e1] at q; omega
    · rw [e2] at q; omega
    · omega
  exact ⟨s0, by omega, hf, e1, e2, oA, oB, by unfold jnI; rw [← hml]; exact hjn, hcom, bA, bB, hlo, hhi, hck, hcmp⟩
theorem cmp_pos {a b : List UInt8} (h : cmpS a b < 0) : 0 < cmpS b a := by rw [cmpS_gt (cmpS_neg.1 h)]; decide
/-- A step up, from either side. -/
theorem Sides.up {l : List Lef} (h : Sides l) {lb : List UInt8} (hh : hasP (jnI l).p lb = true) (c : Nat) (hc : bitL lb (frkI (l.map leafI)) = c) (x y : Itm) (hx : x = if c = 1 then parB (l.map leafI) else parA (l.map leafI)) (hy : y = if c = 1 then parA (l.map leafI) else parB (l.map leafI)) :
    upL x y = parA (l.map leafI) ∧ upR x y = parB (l.map leafI) ∧ upE x y lb = 0 := by
  have hLR : upL x y = parA (l.map leafI) ∧ upR x y = parB (l.map leafI) := by
    unfold upL upR
    by_cases h1 : c = 1
    · rw [if_pos h1] at hx hy
      subst hx; subst hy
      rw [if_pos (cmp_pos h.cmp), if_pos (cmp_pos h.cmp)]; exact ⟨rfl, rfl⟩
    · rw [if_neg h1] at hx hy
      subst hx; subst hy
      have := h.cmp
      rw [if_neg (by omega), if_neg (by omega)]; exact ⟨rfl, rfl⟩
  refine ⟨hLR.1, hLR.2, ?_⟩
  unfold upE
  rw [hLR.1, hLR.2, h.chk, if_neg (by decide), ← h.jn, hh, h.com]
  refine if_pos ⟨rfl, ?_⟩
  have hf := h.f256
  unfold bitN
  rw [if_pos hf, if_pos hf, hc, hx]
  have hbo := bitL_or lb (frkI (l.map leafI))
  rw [hc] at hbo
  rcases hbo with rfl | rfl
  · rw [if_neg (by decide), h.bA]
  · rw [if_pos rfl, h.bB]
/-- The nodes of the way, the top first. -/
def wayN : Nat → List Lef → List UInt8 → List Nod
  | 0, _, _ => []
  | k + 1, l, lb => if l = [] then [] else if l.length = 1 then [.lf (l.headD lef0)]
    else if hasP (joinF l.length (l.map leafI)).p lb = false then [.inn (parA (l.map leafI)) (parB (l.map leafI))]
    else if bitL lb (frkI (l.map leafI)) = 1 then .inn (parA (l.map leafI)) (parB (l.map leafI)) :: wayN k (l.drop (splI (l.map leafI))) lb else .inn (parA (l.map leafI)) (parB (l.map leafI)) :: wayN k (l.take (splI (l.map leafI))) lb
/-- What the end of a way is. -/
def WayEnd (l : List Lef) (lb : List UInt8) (P : Prf) (n0 : Nod) : Prop :=
  (P.e = 1 ∧ P.lf ∈ l ∧ n0 = .lf P.lf ∧ P.a = itm0 ∧ P.b = itm0) ∨ (P.e = 2 ∧ P.lf = lef0 ∧ n0 = .inn P.a P.b ∧ chkN P.a P.b = 0 ∧ hasP (innI P.a P.b).p lb = false ∧ P.a.ok ∧ P.b.ok)
/-- A leaf's label begins as the tree. -/
theorem Rsn.has {l : List Lef} (h : Rsn l) (h0 : 0 < l.length) {x : Lef} (hx : x ∈ l) : hasP (jnI l).p x.l = true := by
  obtain ⟨hJ, hg⟩ := h.join h0
  unfold hasP
  have h1 : goodP (jnI l).p = true := hJ.good h.goodI
  rw [h1, decide_eq_true]; rfl
  have hge := hJ.ge
  have hle := hJ.le
  have := (com_ge hJ.ok.1 (h.ok x hx).1 (n := (jnI l).n.toNat) (by omega)).2 (fun i hi => (hJ.agree (leafI x) (List.mem_map_of_mem hx) i (by omega)).symm)
  show (jnI l).n ≤ _
  show (jnI l).n ≤ ((comL (jnI l).l x.l : Nat) : Int)
  omega
/-- The sum that nodes end at. -/
def nsum (l : List Nod) : List UInt8 := match l.getLast? with
  | none => shaN [18]
  | some n => n.itm.s
theorem rsn_srt {L : List Lef} (hok : ∀ x ∈ L, x.ok) (hc : chkI (itmsL L) = 0) : Rsn (srtL L) := by
  obtain ⟨-, hr, hg⟩ := chkI_rise hc
  rw [itms_map] at hr hg
  exact ⟨hr, fun x hx => hok x (srtL_mem.1 hx), fun x hx => hg _ (List.mem_map_of_mem hx)⟩
theorem top_srt {L : List Lef} (hc : mkE L = 0) : topS (itmsL L) = if srtL L = [] then shaN [18] else (jnI (srtL L)).s := by
  have hc : chkI (itmsL L) = 0 := hc
  unfold topS
  rw [itms_map] at hc ⊢
  rw [if_neg (fun h => h hc)]
  by_cases h0 : srtL L = []
  · rw [h0]; rfl
  · rw [if_neg h0, if_neg (fun he => h0 (List.map_eq_nil_iff.1 he)), List.length_map]; rfl
end Go.Proofs.YtcmgpkibjdbonaaGreat
