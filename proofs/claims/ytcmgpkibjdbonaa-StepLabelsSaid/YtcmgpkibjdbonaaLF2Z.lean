/- label.Fresh, Stale, Tomb, Mark by rules. -/
import Derived.Test.YtcmgpkibjdbonaaLF1Z
import Derived.Test.YtcmgpkibjdbonaaC4
import Derived.Test.YtcmgpkibjdbonaaGHZ
import Derived.Test.YtcmgpkibjdbonaaG14Z
set_option maxHeartbeats 16000000
set_option maxRecDepth 100000
namespace Go.Proofs.Ytcmgpkibjdbonaa
open Go Go.RowKit
def frL (s : List UInt8) : List UInt8 := shaN (jnB 2 [s])
def stL (s : List UInt8) : List UInt8 := shaN (jnB 3 [s])
def tombL : List UInt8 := shaN [5]
def markL : List UInt8 := shaN [6]
theorem frL_len (s : List UInt8) : (frL s).length = 32 := shaN_len _
theorem stL_len (s : List UInt8) : (stL s).length = 32 := shaN_len _
theorem tombL_len : tombL.length = 32 := shaN_len _
theorem markL_len : markL.length = 32 := shaN_len _
theorem lfresh_spec (s : List UInt8) (hs : s.length = 32) : Spec Try.prog 30 [labA s] [] (fun v os => v = labA (frL s) ∧ os = []) := by
  have h1 : Spec Try.prog 88 [.i .u8 2, .sl 1 [.s s]] [] (fun v os => v = labA (frL s) ∧ os = []) := sjoin_spec' 2 [s] (show 1 ≤ 100 by decide) (fun t ht => by rw [List.mem_singleton.1 ht]; omega)
  generalize frL s = r at *
  refine spec_of TtOk [] Try.func30 rfl Try.ntmps30 (by kernel_rfl) rfl rfl (fun C => ?_) rfl
  repeat' (first | (refine o_freezeR 5 5 rfl rfl rfl ?_) | (refine a_freezeV 1 1 rfl rfl rfl ?_) | refine Awp.seq ?_ | refine Awp.region ?_ | (refine Ops.nil ?_; show Awp _ _ _ _ _) | (refine Awp.ret ?_; show endK _ _ _ _ _) | refine o_alloc (d := 2) rfl TtOk rfl rfl rfl (fun b2 => ?_) | refine o_box (d := 1) rfl rfl rfl rfl (fun b1 => ?_) | refine o_store TtOk rfl rfl rfl rfl rfl rfl rfl ⟨rfl, rfl⟩ rfl rfl rfl rfl rfl ?_ | refine o_buildSlice (d := 5) TtOk rfl rfl rfl rfl rfl rfl rfl rfl rfl rfl rfl (by repeat' (first | exact True.intro | exact rfl | refine ⟨?_, ?_⟩)) (fun v5 => ?_) | refine o_sliceCp TtOk rfl rfl rfl rfl rfl rfl ?_ | refine o_toString TtOk rfl rfl rfl rfl rfl (by first | exact True.intro | exact rfl) rfl rfl rfl rfl ?_ | (refine o_call0 rfl (h1) ⟨SLe.of_eq rfl, SLe.of_eq rfl, True.intro⟩ rfl ?_; rintro _ _ ⟨rfl, rfl⟩; refine ⟨rfl, ?_⟩))
  all_goals
    refine end_all [] [] (labA r) rfl ?_ ?_ (rle_one (CLe.of_eq rfl) rfl) .nil ⟨rfl, rfl⟩ _ (.inl rfl)
    · repeat' (first | exact True.intro | exact rfl | refine ⟨?_, ?_⟩)
    · exact ⟨trivial, trivial⟩
theorem lstale_spec (s : List UInt8) (hs : s.length = 32) : Spec Try.prog 31 [labA s] [] (fun v os => v = labA (stL s) ∧ os = []) := by
  have h1 : Spec Try.prog 88 [.i .u8 3, .sl 1 [.s s]] [] (fun v os => v = labA (stL s) ∧ os = []) := sjoin_spec' 3 [s] (show 1 ≤ 100 by decide) (fun t ht => by rw [List.mem_singleton.1 ht]; omega)
  generalize stL s = r at *
  refine spec_of TtOk [] Try.func31 rfl Try.ntmps31 (by kernel_rfl) rfl rfl (fun C => ?_) rfl
  repeat' (first | (refine o_freezeR 5 5 rfl rfl rfl ?_) | (refine a_freezeV 1 1 rfl rfl rfl ?_) | refine Awp.seq ?_ | refine Awp.region ?_ | (refine Ops.nil ?_; show Awp _ _ _ _ _) | (refine Awp.ret ?_; show endK _ _ _ _ _) | refine o_alloc (d := 2) rfl TtOk rfl rfl rfl (fun b2 => ?_) | refine o_box (d := 1) rfl rfl rfl rfl (fun b1 => ?_) | refine o_store TtOk rfl rfl rfl rfl rfl rfl rfl ⟨rfl, rfl⟩ rfl rfl rfl rfl rfl ?_ | refine o_buildSlice (d := 5) TtOk rfl rfl rfl rfl rfl rfl rfl rfl rfl rfl rfl (by repeat' (first | exact True.intro | exact rfl | refine ⟨?_, ?_⟩)) (fun v5 => ?_) | refine o_sliceCp TtOk rfl rfl rfl rfl rfl rfl ?_ | refine o_toString TtOk rfl rfl rfl rfl rfl (by first | exact True.intro | exact rfl) rfl rfl rfl rfl ?_ | (refine o_call0 rfl (h1) ⟨SLe.of_eq rfl, SLe.of_eq rfl, True.intro⟩ rfl ?_; rintro _ _ ⟨rfl, rfl⟩; refine ⟨rfl, ?_⟩))
  all_goals
    refine end_all [] [] (labA r) rfl ?_ ?_ (rle_one (CLe.of_eq rfl) rfl) .nil ⟨rfl, rfl⟩ _ (.inl rfl)
    · repeat' (first | exact True.intro | exact rfl | refine ⟨?_, ?_⟩)
    · exact ⟨trivial, trivial⟩
theorem ltomb_spec : Spec Try.prog 29 [] [] (fun v os => v = labA tombL ∧ os = []) := by
  have h1 : Spec Try.prog 88 [.i .u8 5, .sl 1 []] [] (fun v os => v = labA tombL ∧ os = []) := sjoin0_spec 5
  generalize tombL = r at *
  refine spec_of TtOk [] Try.func29 rfl Try.ntmps29 (by kernel_rfl) rfl rfl (fun C => ?_) rfl
  repeat' (first | refine Awp.seq ?_ | refine Awp.region ?_ | (refine Ops.nil ?_; show Awp _ _ _ _ _) | (refine Awp.ret ?_; show endK _ _ _ _ _) | refine o_alloc (d := 0) rfl TtOk rfl rfl rfl (fun b0 => ?_) | refine o_store TtOk rfl rfl rfl rfl rfl rfl rfl ⟨rfl, rfl⟩ rfl rfl rfl rfl rfl ?_ | (refine o_call0 rfl h1 ⟨SLe.of_eq rfl, sle_nilsl, True.intro⟩ rfl ?_; rintro _ _ ⟨rfl, rfl⟩; refine ⟨rfl, ?_⟩))
  all_goals
    refine end_all [] [] (labA r) rfl ?_ ?_ (rle_one (CLe.of_eq rfl) rfl) .nil ⟨rfl, rfl⟩ _ (.inl rfl)
    · repeat' (first | exact True.intro | exact rfl | refine ⟨?_, ?_⟩)
    · exact ⟨trivial, trivial⟩
theorem lmark_spec : Spec Try.prog 32 [] [] (fun v os => v = labA markL ∧ os = []) := by
  have h1 : Spec Try.prog 88 [.i .u8 6, .sl 1 []] [] (fun v os => v = labA markL ∧ os = []) := sjoin0_spec 6
  generalize markL = r at *
  refine spec_of TtOk [] Try.func32 rfl Try.ntmps32 (by kernel_rfl) rfl rfl (fun C => ?_) rfl
  repeat' (first | refine Awp.seq ?_ | refine Awp.region ?_ | (refine Ops.nil ?_; show Awp _ _ _ _ _) | (refine Awp.ret ?_; show endK _ _ _ _ _) | refine o_alloc (d := 0) rfl TtOk rfl rfl rfl (fun b0 => ?_) | refine o_store TtOk rfl rfl rfl rfl rfl rfl rfl ⟨rfl, rfl⟩ rfl rfl rfl rfl rfl ?_ | (refine o_call0 rfl h1 ⟨SLe.of_eq rfl, sle_nilsl, True.intro⟩ rfl ?_; rintro _ _ ⟨rfl, rfl⟩; refine ⟨rfl, ?_⟩))
  all_goals
    refine end_all [] [] (labA r) rfl ?_ ?_ (rle_one (CLe.of_eq rfl) rfl) .nil ⟨rfl, rfl⟩ _ (.inl rfl)
    · repeat' (first | exact True.intro | exact rfl | refine ⟨?_, ?_⟩)
    · exact ⟨trivial, trivial⟩
/-- Does a seed stand there twice? -/
def twcL (l : List (List UInt8)) : Bool := (List.range l.length).any (fun i => (l.take i).any (fun y => l.getD i [] == y))
theorem twice_spec (l : List (List UInt8)) (hl : l.length ≤ 100000) : Spec Try.prog 93 [.sl 32 (l.map labA)] [] (fun v os => v = .b (twcL l) ∧ os = []) := by
  refine spec_of TtOk [] Try.func93 rfl Try.ntmps93 (by kernel_rfl) rfl rfl (fun C => ?_) rfl
  repeat' (first | refine Awp.seq ?_ | refine Awp.block ?_ | refine Awp.region ?_ | (refine Ops.nil ?_; show Awp _ _ _ _ _) | refine o_len rfl TtOk rfl rfl rfl (fun _ => ?_) | (refine o_calm rfl TtOk rfl rfl rfl ?_ (fun _ => ?_); first | exact True.intro | exact ⟨rfl, rfl, rfl, rfl⟩ | exact ⟨rfl, True.intro⟩ | exact ⟨rfl, rfl⟩ | exact ⟨rfl, rfl, rfl⟩ | exact rfl | exact ⟨fun h0 => by cases h0, rfl⟩ | exact (fun h0 => by cases h0) | exact ⟨rfl, by omega⟩ | exact ⟨Nat.succ_ne_zero _, rfl⟩ | omega))
  refine Awp.loop (fun i : Nat => ⟨18, [(7, .i .i64 i), (6, .i .i64 l.length), (5, .sl 32 (l.map labA)), (0, .sl 32 (l.map labA))], []⟩) (fun i => i ≤ l.length ∧ ∀ j, j < i → (l.take j).any (fun y => l.getD j [] == y) = false) (fun i => l.length - i) [] 0 ⟨Nat.zero_le _, fun j hj => absurd hj (Nat.not_lt_zero _)⟩ ?_ ?_
  · exact ⟨rfl, ⟨sle_i rfl, sle_i rfl, sle_sl rfl, sle_sl rfl, True.intro⟩, .nil⟩
  rintro i ⟨hi, hno⟩
  by_cases hlt : i < l.length
  · have hi1 : ((i : Int) + 1 = ((i + 1 : Nat) : Int)) := by omega
    have hk1 := conB_spec (l.take i) l[i] (by rw [List.length_take]; omega)
    have hg : l.getD i [] = l[i] := by simp [hlt]
    generalize hq : (l.take i).any (fun y => l[i] == y) = q at hk1
    cases q with
    | true =>
      have hT : twcL l = true := List.any_eq_true.2 ⟨i, List.mem_range.2 hlt, by rw [hg]; exact hq⟩
      rw [hT]
      repeat' (first | refine Awp.seq ?_ | refine Awp.block ?_ | refine Awp.region ?_ | (refine Ops.nil ?_; show Awp _ _ _ _ _) | (refine Awp.skip ?_; show Awp _ _ _ _ _) | (refine Awp.ret ?_; show endK _ _ _ _ _) | (refine o_calm rfl TtOk rfl rfl rfl ?_ (fun _ => ?_); first | exact True.intro | exact ⟨rfl, rfl, rfl, rfl⟩ | exact ⟨rfl, True.intro⟩ | exact ⟨rfl, rfl⟩ | exact ⟨rfl, rfl, rfl⟩ | exact rfl | exact ⟨fun h0 => by cases h0, rfl⟩ | exact (fun h0 => by cases h0) | exact ⟨rfl, by omega⟩ | exact ⟨Nat.succ_ne_zero _, rfl⟩ | omega) | refine o_alloc (d := 4) rfl TtOk rfl rfl rfl (fun b4 => ?_) | refine o_store TtOk rfl rfl rfl rfl rfl rfl rfl ⟨rfl, rfl⟩ rfl rfl rfl rfl rfl ?_ | (refine o_index rfl TtOk rfl rfl rfl rfl rfl rfl ?_ (getq_nat ?_) ?_; omega; omega) | refine a_condT rfl ?_ | (refine a_condP rfl (fun hc => ?_) (fun hc => ?_)) <;> (try (exfalso; omega)) | refine a_any 4 [] [] [] [0, 1, 2, 3, 4] (by kernel_rfl) (by kernel_rfl) (by kernel_rfl) rfl rfl rfl ?_ | (refine o_sliceSl TtOk rfl 0 i rfl rfl rfl rfl rfl bnd_none (bnd_some rfl rfl) (by omega) (by omega) ?_) | (refine o_call0 rfl (hk1) ⟨SLe.of_eq rfl, SLe.of_eq rfl, True.intro⟩ rfl ?_; rintro _ _ ⟨rfl, rfl⟩; refine ⟨rfl, ?_⟩))
      all_goals exact end_tmp rfl rfl rfl [] [] (CLe.of_eq rfl) .nil ⟨rfl, rfl⟩ _ (.inl rfl)
    | false =>
      repeat' (first | refine Awp.seq ?_ | refine Awp.block ?_ | refine Awp.region ?_ | (refine Ops.nil ?_; show Awp _ _ _ _ _) | (refine Ops.nil ?_; show Exists _) | (refine Awp.skip ?_; show Awp _ _ _ _ _) | (refine o_add rfl rfl rfl rfl ?_ ?_; omega) | (refine o_calm rfl TtOk rfl rfl rfl ?_ (fun _ => ?_); first | exact True.intro | exact ⟨rfl, rfl, rfl, rfl⟩ | exact ⟨rfl, True.intro⟩ | exact ⟨rfl, rfl⟩ | exact ⟨rfl, rfl, rfl⟩ | exact rfl | exact ⟨fun h0 => by cases h0, rfl⟩ | exact (fun h0 => by cases h0) | exact ⟨rfl, by omega⟩ | exact ⟨Nat.succ_ne_zero _, rfl⟩ | omega) | refine o_alloc (d := 4) rfl TtOk rfl rfl rfl (fun b4 => ?_) | refine o_store TtOk rfl rfl rfl rfl rfl rfl rfl ⟨rfl, rfl⟩ rfl rfl rfl rfl rfl ?_ | (refine o_index rfl TtOk rfl rfl rfl rfl rfl rfl ?_ (getq_nat ?_) ?_; omega; omega) | refine a_condF rfl ?_ | (refine a_condP rfl (fun hc => ?_) (fun hc => ?_)) <;> (try (exfalso; omega)) | refine a_any 4 [] [] [] [0, 1, 2, 3, 4] (by kernel_rfl) (by kernel_rfl) (by kernel_rfl) rfl rfl rfl ?_ | (refine o_sliceSl TtOk rfl 0 i rfl rfl rfl rfl rfl bnd_none (bnd_some rfl rfl) (by omega) (by omega) ?_) | (refine o_call0 rfl (hk1) ⟨SLe.of_eq rfl, SLe.of_eq rfl, True.intro⟩ rfl ?_; rintro _ _ ⟨rfl, rfl⟩; refine ⟨rfl, ?_⟩))
      all_goals exact ⟨i + 1, [], ⟨hlt, fun j hj => by
        rcases Nat.lt_succ_iff_lt_or_eq.1 hj with h2 | rfl
        · exact hno j h2
        · rw [hg]; exact hq⟩, by show l.length - (i + 1) < l.length - i; omega, rfl, ⟨sle_i hi1, sle_i rfl, sle_sl rfl, sle_sl rfl, True.intro⟩, .nil⟩
  · have hT : twcL l = false := by
      unfold twcL
      rw [List.any_eq_false]
      intro j hj
      rw [hno j (by have := List.mem_range.1 hj; omega)]
      decide
    rw [hT]
    repeat' (first | refine Awp.seq ?_ | refine Awp.region ?_ | (refine Ops.nil ?_; show Awp _ _ _ _ _) | (refine Awp.exit ?_; show Awp _ _ _ _ _) | (refine Awp.ret ?_; show endK _ _ _ _ _) | (refine o_calm rfl TtOk rfl rfl rfl ?_ (fun _ => ?_); first | exact True.intro | exact ⟨rfl, rfl, rfl, rfl⟩ | exact ⟨rfl, True.intro⟩ | exact ⟨rfl, rfl⟩ | exact ⟨rfl, rfl, rfl⟩ | exact rfl | exact ⟨fun h0 => by cases h0, rfl⟩ | exact (fun h0 => by cases h0) | exact ⟨rfl, by omega⟩ | exact ⟨Nat.succ_ne_zero _, rfl⟩ | omega) | (refine a_condP rfl (fun hc => ?_) (fun hc => ?_)) <;> (try (exfalso; omega)))
    exact end_tmp rfl rfl rfl [] [] (CLe.of_eq rfl) .nil ⟨rfl, rfl⟩ _ (.inl rfl)
end Go.Proofs.Ytcmgpkibjdbonaa
set_option maxHeartbeats 16000000
set_option maxRecDepth 100000
namespace Go.Proofs.Ytcmgpkibjdbonaa
open Go Go.RowKit
end Go.Proofs.Ytcmgpkibjdbonaa
set_option maxHeartbeats 4000000
namespace Go.Proofs.Ytcmgpkibjdbonaa
open Go Go.RowKit
/-- A node that is right. -/
def Nod.gd : Nod → Prop
  | .no => False
  | .lf x => x.ok ∧ chkLf x = 0
  | .inn x y => x.ok ∧ y.ok ∧ chkN x y = 0
theorem chkN_good {x y : Itm} (h : chkN x y = 0) : goodI x = true ∧ goodI y = true ∧ ((comL x.l y.l : Nat) : Int) < x.n ∧ ((comL x.l y.l : Nat) : Int) < y.n ∧ ¬ 0 < cmpS x.l y.l := by
  unfold chkN at h
  split at h
  · rename_i hg
    split at h
    · cases h
    · rename_i hn
      exact ⟨hg.1, hg.2, by omega, by omega, by omega⟩
  · cases h
/-- A way that is told, the top first. -/
def Chain (lb : List UInt8) : List Nod → Prop
  | [] => False
  | [n] => n.gd ∧ ∀ a b, n = .inn a b → hasP (innI a b).p lb = false
  | n :: m :: r => n.gd ∧ (∃ a b, n = .inn a b ∧ hasP (innI a b).p lb = true ∧ m.itm = if bitL lb (comL a.l b.l) = 1 then b else a) ∧ Chain lb (m :: r)
theorem Chain.gd {lb : List UInt8} {n : Nod} {r : List Nod} (h : Chain lb (n :: r)) : n.gd := by
  cases r with
  | nil => exact h.1
  | cons m r => exact h.1
/-- The lowest node of a proof. -/
def lowN (p : Prf) : Nod := if p.e = 1 then .lf p.lf else .inn p.a p.b
/-- The text of the top of leaves; the side of a label. -/
def rlT (l : List Lef) : List UInt8 := if l = [] then [18] else if l.length = 1 then leafB (l.headD lef0) else innB (parA (l.map leafI)) (parB (l.map leafI))
def sdL (l : List Lef) (lb : List UInt8) : List Lef := if 1 < l.length then (if bitL lb (frkI (l.map leafI)) = 1 then l.drop (splI (l.map leafI)) else l.take (splI (l.map leafI))) else l
def clsh (a b : List UInt8) : Bool := a != b && shaN a == shaN b
/-- The first node that is unlike, the top first. -/
def exL : List Nod → List Lef → List UInt8 → List UInt8 × List UInt8 × Bool
  | [], _, _ => ([], [], false)
  | n :: r, l, lb => if n.txt = rlT l then exL r (sdL l lb) lb else (n.txt, rlT l, clsh n.txt (rlT l))
def exC (c : List Nod) (l : List Lef) (lb : List UInt8) : List UInt8 × List UInt8 × Bool :=
  if c = [] then (if [18] = rlT l then ([], [], false) else ([18], rlT l, clsh [18] (rlT l))) else exL c l lb
/-- The first two of texts that are unlike. -/
def exR : List (List UInt8) → List (List UInt8) → List UInt8 × List UInt8 × Bool
  | a :: s, b :: t => if a = b then exR s t else (a, b, shaN a == shaN b)
  | _, _ => ([], [], false)
/-- The node that leaves are. -/
def rlN (l : List Lef) : Nod := if l.length = 1 then .lf (l.headD lef0) else .inn (parA (l.map leafI)) (parB (l.map leafI))
theorem Rsn.node {l : List Lef} (h : Rsn l) (hn : l ≠ []) : (rlN l).gd ∧ (rlN l).txt = rlT l ∧ (rlN l).itm = jnI l := by
  have hp : 0 < l.length := List.length_pos_iff.2 hn
  unfold rlN rlT
  rw [if_neg hn]
  by_cases h1 : l.length = 1
  · rw [if_pos h1, if_pos h1]
    obtain ⟨x, rfl⟩ := List.length_eq_one_iff.1 h1
    refine ⟨⟨h.ok x (List.mem_cons_self ..), ?_⟩, rfl, rfl⟩
    have := good_t (h.good x (List.mem_cons_self ..))
    have e : (leafI x).t = x.t := rfl
    unfold chkLf
    exact if_neg (by show ¬ (x.t < 0 ∨ 1073741824 < x.t); omega)
  · rw [if_neg h1, if_neg h1]
    have hS := h.sides (by omega)
    exact ⟨⟨hS.oA, hS.oB, hS.chk⟩, rfl, hS.jn.symm⟩
end Go.Proofs.Ytcmgpkibjdbonaa
set_option maxHeartbeats 4000000
namespace Go.Proofs.Ytcmgpkibjdbonaa
open Go Go.RowKit
/-- What a proof says of a label in the tree of a sum. -/
def chkE (p : Prf) (top lb : List UInt8) : Int := if (ndsF p lb).2 ≠ 0 then (ndsF p lb).2 else if nsum (ndsF p lb).1 = top then 0 else 11
def chkB (p : Prf) (lb : List UInt8) : Bool := p.e == 1 && p.lf.l == lb
/-- The texts of the tree's way, the top first. -/
def wayT (L : List Lef) (lb : List UInt8) : List (List UInt8) := if srtL L = [] then [[18]] else (wayN (L.length + 1) (srtL L) lb).map Nod.txt
def toldT (p : Prf) (lb : List UInt8) : List (List UInt8) := if (ndsF p lb).1 = [] then [[18]] else (ndsF p lb).1.reverse.map Nod.txt
end Go.Proofs.Ytcmgpkibjdbonaa
set_option maxHeartbeats 16000000
set_option maxRecDepth 100000
namespace Go.Proofs.Ytcmgpkibjdbonaa
open Go Go.RowKit
def exP (L : List Lef) (p : Prf) (lb : List UInt8) : List UInt8 × List UInt8 × Bool := if (ndsF p lb).2 ≠ 0 ∨ mkE L ≠ 0 then ([], [], false) else exC (ndsF p lb).1.reverse (srtL L) lb
theorem Chain.all {lb : List UInt8} : ∀ {c : List Nod}, Chain lb c → ∀ n ∈ c, n.gd
  | [], h, n, hn => by cases hn
  | [m], h, n, hn => by rw [List.mem_singleton.1 hn]; exact h.1
  | m :: q :: r, h, n, hn => by
    rcases List.mem_cons.1 hn with rfl | hn
    · exact h.1
    · exact Chain.all h.2.2 n hn
end Go.Proofs.Ytcmgpkibjdbonaa
set_option maxHeartbeats 16000000
set_option maxRecDepth 100000
namespace Go.Proofs.Ytcmgpkibjdbonaa
open Go Go.RowKit
def TgI : List (Nat × TI) := [(214, ⟨.func, 1, 8, .nilf⟩)]
def TgL : List (Nat × TI) := [(215, ⟨.func, 1, 8, .nilf⟩)]
end Go.Proofs.Ytcmgpkibjdbonaa
set_option maxHeartbeats 4000000
namespace Go.Proofs.Ytcmgpkibjdbonaa
open Go Go.RowKit
theorem chk_rsn {l : List Lef} (h : Rsn l) (hl : l.length ≤ 2000) : chkI (l.map leafI) = 0 := by
  refine chkI_zero (by rw [List.length_map]; exact hl) h.goodI ?_ h.rise
  rw [List.pairwise_map]
  exact List.Pairwise.imp_of_mem (fun {a b} ha hb hab => leaf_anti (h.ok a ha) (h.ok b hb) hab) (rise_ne h.rise)
theorem topU_chk (P : List Itm) (F : List Lef) : (chkI (topU P F) = 0 ↔ chkI (srtI (P ++ F.map leafI)) = 0) ∧ (chkI (srtI (P ++ F.map leafI)) = 0 → topU P F = srtI (P ++ F.map leafI)) := by
  have hp : (P ++ itmsL F).Perm (P ++ F.map leafI) := List.Perm.append_left _ (srtI_perm _)
  have h1 : chkI (srtI (P ++ F.map leafI)) = 0 → topU P F = srtI (P ++ F.map leafI) := fun hc => srt_eq hp hc
  have h2 : chkI (topU P F) = 0 → srtI (P ++ F.map leafI) = topU P F := fun hc => srt_eq hp.symm hc
  exact ⟨⟨fun hc => by rw [h2 hc]; exact hc, fun hc => by rw [h1 hc]; exact hc⟩, h1⟩
theorem topU_srt (P : List Itm) (F : List Lef) : topU P (srtL F) = topU P F := by unfold topU; rw [itms_srt]
theorem rise_neI {l : List Itm} (h : RiseI l) : l.Pairwise (fun a b => a.l ≠ b.l) := h.imp (fun {a b} hab he => by
  rw [he, cmpS_eq] at hab; omega)
theorem fresh_ok {P : List Itm} {F : List Lef} (h : chkI (srtI (P ++ F.map leafI)) = 0) : (∀ x ∈ F, 0 ≤ x.t ∧ x.t ≤ 1073741824) ∧ F.Pairwise (fun a b => a.l ≠ b.l) := by
  obtain ⟨-, hr, hg⟩ := chkI_rise h
  refine ⟨fun x hx => good_t (hg (leafI x) (srtI_mem.2 (List.mem_append.2 (.inr (List.mem_map_of_mem hx))))), ?_⟩
  have h1 := (List.Perm.pairwise_iff (fun h => Ne.symm h) (srtI_perm _)).1 (rise_neI hr)
  have h2 := (List.pairwise_append.1 h1).2.1
  rw [List.pairwise_map] at h2
  exact h2
theorem openF_pos : ∀ (k : Nat) (ls : List (List UInt8)) (l : List Lef), l ≠ [] → l.length ≤ k → Rsn l → 1 ≤ (openF k ls l).1.length + (openF k ls l).2.length
  | 0, ls, l, hn, hk, _ => absurd (List.length_eq_zero_iff.1 (by omega)) hn
  | k + 1, ls, l, hn, hk, h => by
    have hp : 0 < l.length := List.length_pos_iff.2 hn
    rw [openF, if_neg hn]
    split
    · exact Nat.le_refl _
    split
    · show 1 ≤ 0 + l.length; omega
    · rename_i h1 h2
      have hS := h.sides (by omega)
      have hlt := hS.sl
      have hs0 := hS.s0
      have tk : (l.take (splI (l.map leafI))).length = splI (l.map leafI) := by rw [List.length_take]; omega
      have := openF_pos k ls (l.take (splI (l.map leafI))) (fun he => by rw [he] at tk; simp at tk; omega) (by omega) (h.take _)
      show 1 ≤ (_ ++ _ : List Itm).length + (_ ++ _ : List Lef).length
      rw [List.length_append, List.length_append]; omega
/-- Where one part is all that there is, no label touches the tree. -/
theorem openF_one {ls : List (List UInt8)} {l : List Lef} (h : Rsn l) (h2 : 2 ≤ l.length) (a : (openF l.length ls l).1.length = 1) (b : (openF l.length ls l).2.length = 0) : ls.any (hasP (jnI l).p) = false := by
  obtain ⟨k, hk⟩ : ∃ k, l.length = k + 1 := ⟨l.length - 1, by omega⟩
  rw [hk, openF, if_neg (fun he => by rw [he] at h2; simp at h2)] at a b
  rw [show joinF l.length (l.map leafI) = jnI l from rfl] at a b
  by_cases hh : ls.any (hasP (jnI l).p) = false
  · exact hh
  · rw [if_neg hh, if_neg (by omega)] at a b
    have hS := h.sides h2
    have hlt := hS.sl
    have hs0 := hS.s0
    have tk : (l.take (splI (l.map leafI))).length = splI (l.map leafI) := by rw [List.length_take]; omega
    have dr : (l.drop (splI (l.map leafI))).length = l.length - splI (l.map leafI) := List.length_drop
    have p1 := openF_pos k ls (l.take (splI (l.map leafI))) (fun he => by rw [he] at tk; simp at tk; omega) (by omega) (h.take _)
    have p2 := openF_pos k ls (l.drop (splI (l.map leafI))) (fun he => by rw [he] at dr; simp at dr; omega) (by omega) (h.drop _)
    have a : (_ ++ _ : List Itm).length = 1 := a
    have b : (_ ++ _ : List Lef).length = 0 := b
    rw [List.length_append] at a b
    omega
theorem openF_nil {k : Nat} {l : List Lef} (hn : l ≠ []) (hk : 0 < k) : openF k [] l = ([jnI l], []) := by
  obtain ⟨k, rfl⟩ : ∃ j, k = j + 1 := ⟨k - 1, by omega⟩
  rw [openF, if_neg hn]
  exact if_pos rfl
theorem jn_map {a b : List Lef} (h : a.map leafI = b.map leafI) : jnI a = jnI b := by
  have hl : a.length = b.length := by have := congrArg List.length h; rwa [List.length_map, List.length_map] at this
  unfold jnI
  rw [h, hl]
/-- The tree of a side of the leaves, whatever their order. -/
theorem cvI_side {L : List Lef} {p : Lef → Bool} {T : List Lef} (hok : ∀ x ∈ L, x.ok) (hT : (srtL L).filter p = T) (hr : Rsn T) (hn : T ≠ []) (hl : T.length ≤ 2000) : cvI (L.filter p) [] = [jnI T] := by
  have hp : (L.filter p).Perm T := by rw [← hT]; exact (srtL_perm L).symm.filter p
  have hc := chk_rsn hr hl
  have hcT : chkI (itmsL T) = 0 := by rw [itms_rise hr.rise]; exact hc
  have hi : itmsL (L.filter p) = T.map leafI := by rw [itms_perm hp hcT, itms_rise hr.rise]
  have hE : cvE (L.filter p) = 0 := by unfold cvE; rw [itms_srt, hi]; exact hc
  have hne : L.filter p ≠ [] := fun he => by rw [he] at hp; exact hn (List.nil_perm.1 hp)
  have hs : (srtL (L.filter p)).map leafI = T.map leafI := by rw [← itms_map]; exact hi
  have hne2 : srtL (L.filter p) ≠ [] := fun he => by
    have := srtL_len (L.filter p)
    rw [he] at this
    exact hne (List.length_eq_zero_iff.1 this.symm)
  unfold cvI
  rw [if_pos hE, openF_nil hne2 (List.length_pos_iff.2 hne), jn_map hs]
theorem hlf_eq {L : List Lef} (hok : ∀ x ∈ L, x.ok) (hc : mkE L = 0) (h2 : 2 ≤ L.length) (hl : L.length ≤ 2000) : hlf L = [parA ((srtL L).map leafI), parB ((srtL L).map leafI)] := by
  have hS := rsn_srt hok hc
  have hsl := srtL_len L
  have hSd := hS.sides (by omega)
  have hlt := hSd.sl
  have hs0 := hSd.s0
  have hI : itmsL L = (srtL L).map leafI := itms_map L
  have tk : ((srtL L).take (splI ((srtL L).map leafI))).length = splI ((srtL L).map leafI) := by rw [List.length_take]; omega
  have dr : ((srtL L).drop (splI ((srtL L).map leafI))).length = (srtL L).length - splI ((srtL L).map leafI) := List.length_drop
  have hall : ∀ (q : Lef → Bool), (srtL L).filter q = ((srtL L).take (splI ((srtL L).map leafI))).filter q ++ ((srtL L).drop (splI ((srtL L).map leafI))).filter q := fun q => by rw [← List.filter_append, List.take_append_drop]
  unfold hlf hlA hlB
  rw [hI]
  have e1 : (srtL L).filter (fun x => bitL x.l (frkI ((srtL L).map leafI)) == 0) = (srtL L).take (splI ((srtL L).map leafI)) := by
    rw [hall, List.filter_eq_self.2 (fun x hx => by rw [hSd.lo x hx]; rfl), List.filter_eq_nil_iff.2 (fun x hx => by rw [hSd.hi x hx]; decide), List.append_nil]
  have e2 : (srtL L).filter (fun x => !(bitL x.l (frkI ((srtL L).map leafI)) == 0)) = (srtL L).drop (splI ((srtL L).map leafI)) := by
    rw [hall, List.filter_eq_nil_iff.2 (fun x hx => by rw [hSd.lo x hx]; decide), List.filter_eq_self.2 (fun x hx => by rw [hSd.hi x hx]; rfl), List.nil_append]
  rw [cvI_side hok e1 (hS.take _) (fun he => by rw [he] at tk; simp at tk; omega) (by omega), cvI_side hok e2 (hS.drop _) (fun he => by rw [he] at dr; simp at dr; omega) (by omega), ← hSd.jA, ← hSd.jB]; rfl
end Go.Proofs.Ytcmgpkibjdbonaa
set_option maxHeartbeats 16000000
set_option maxRecDepth 100000
namespace Go.Proofs.Ytcmgpkibjdbonaa
open Go Go.RowKit
/-- The leaf of a label among leaves. -/
def hasLf (l : List Lef) (x : List UInt8) : Bool := l.any (fun y => y.l == x)
def fndL (l : List Lef) (x : List UInt8) : Lef := (l.find? (fun y => y.l == x)).getD lef0
theorem sfind1_spec (x : Lef) (g : List UInt8) : Spec Try.prog 152 ([x.A] ++ [.cp (labA g)]) [] (fun v os => v = .b (x.l == g) ∧ os = []) := by
  show Spec Try.prog 152 [.agg [labA x.l, labA x.v, .i .i64 x.t], .cp (labA g)] [] _
  refine spec_of TtOk [] Try.func152 rfl Try.ntmps152 (by kernel_rfl) rfl rfl (fun C => ?_) rfl
  repeat' (first | refine Awp.seq ?_ | refine Awp.region ?_ | (refine Ops.nil ?_; show Awp _ _ _ _ _) | (refine Awp.ret ?_; show endK _ _ _ _ _) | (refine o_calm rfl TtOk rfl rfl rfl ?_ (fun _ => ?_); first | exact True.intro | exact ⟨rfl, rfl, rfl, rfl⟩ | exact ⟨rfl, True.intro⟩ | exact ⟨rfl, rfl⟩ | exact ⟨rfl, rfl, rfl⟩ | exact rfl | exact ⟨fun h0 => by cases h0, rfl⟩ | exact (fun h0 => by cases h0) | exact ⟨rfl, by omega⟩ | exact ⟨Nat.succ_ne_zero _, rfl⟩ | omega) | refine o_box (d := 2) rfl rfl rfl rfl (fun b2 => ?_) | refine o_eqArr8 TtOk rfl rfl rfl rfl rfl rfl (by kernel_rfl) ?_)
  exact end_tmp rfl rfl rfl [] [] (CLe.of_eq rfl) .nil ⟨rfl, rfl⟩ _ (.inl rfl)
theorem sfind_spec (l : List Lef) (g : List UInt8) (hl : l.length ≤ 100000) : Spec Try.prog 96 [.sl 65 (l.map Lef.A), labA g] [] (fun v os => v = .tup [(fndL l g).A, .b (hasLf l g)] ∧ os = []) := by
  have hx := ixL_spec l 152 [.cp (labA g)] rfl (fun y => y.l == g) (fun x _ => sfind1_spec x g) hl
  refine spec_of TtOk [] Try.func96 rfl Try.ntmps96 (by kernel_rfl) rfl rfl (fun C => ?_) rfl
  by_cases hm : l.any (fun y => y.l == g) = true
  · rw [if_pos hm] at hx
    have hlt := List.findIdx_lt_length_of_exists (List.any_eq_true.1 hm)
    have hf : fndL l g = l[l.findIdx (fun y => y.l == g)] := by
      unfold fndL
      rw [List.find?_eq_getElem?_findIdx, List.getElem?_eq_getElem hlt]; rfl
    have hh : hasLf l g = true := hm
    rw [hf, hh]
    generalize l.findIdx (fun y => y.l == g) = i at *
    repeat' (first | (refine a_freezeV 3 3 rfl rfl rfl ?_) | refine Awp.seq ?_ | refine Awp.region ?_ | (refine Ops.nil ?_; show Awp _ _ _ _ _) | (refine Awp.skip ?_; show Awp _ _ _ _ _) | (refine Awp.ret ?_; show endK _ _ _ _ _) | (refine o_calm rfl TtOk rfl rfl rfl ?_ (fun _ => ?_); first | exact True.intro | exact ⟨rfl, rfl, rfl, rfl⟩ | exact ⟨rfl, True.intro⟩ | exact ⟨rfl, rfl⟩ | exact ⟨rfl, rfl, rfl⟩ | exact rfl | exact ⟨fun h0 => by cases h0, rfl⟩ | exact (fun h0 => by cases h0) | exact ⟨rfl, by omega⟩ | exact ⟨Nat.succ_ne_zero _, rfl⟩ | omega) | refine o_alloc (d := 4) rfl TtOk rfl rfl rfl (fun b4 => ?_) | refine o_box (d := 3) rfl rfl rfl rfl (fun b3 => ?_) | refine o_store TtOk rfl rfl rfl rfl rfl rfl rfl ⟨rfl, rfl⟩ rfl rfl rfl rfl rfl ?_ | (refine o_index rfl TtOk rfl rfl rfl rfl rfl rfl ?_ (getq_nat ?_) ?_; omega; omega) | refine a_condF rfl ?_ | (refine o_makeFunc1 rfl rfl rfl rfl rfl ?_) | (refine o_call0 rfl (hx) ⟨SLe.of_eq rfl, SLe.of_eq rfl, True.intro⟩ rfl ?_; rintro _ _ ⟨rfl, rfl⟩; refine ⟨rfl, ?_⟩))
    all_goals
      refine end_all [] [] (.tup [l[i].A, .b true]) rfl ?_ ?_ (rle_tup2 (CLe.of_eq rfl) (CLe.of_eq rfl) rfl rfl) .nil ⟨rfl, rfl⟩ _ (.inl rfl)
      · repeat' (first | exact True.intro | exact rfl | refine ⟨?_, ?_⟩)
      · exact ⟨trivial, trivial, trivial⟩
  · rw [if_neg hm] at hx
    have hf : fndL l g = lef0 := by
      unfold fndL
      rw [List.find?_eq_none.2 (fun x hx hc => hm (List.any_eq_true.2 ⟨x, hx, by simpa using hc⟩))]; rfl
    have hh : hasLf l g = false := by
      unfold hasLf
      revert hm
      cases l.any (fun y => y.l == g) <;> simp
    rw [hf, hh]
    repeat' (first | (refine a_freezeV 3 3 rfl rfl rfl ?_) | refine Awp.seq ?_ | refine Awp.region ?_ | (refine Ops.nil ?_; show Awp _ _ _ _ _) | (refine Awp.ret ?_; show endK _ _ _ _ _) | (refine o_calm rfl TtOk rfl rfl rfl ?_ (fun _ => ?_); first | exact True.intro | exact ⟨rfl, rfl, rfl, rfl⟩ | exact ⟨rfl, True.intro⟩ | exact ⟨rfl, rfl⟩ | exact ⟨rfl, rfl, rfl⟩ | exact rfl | exact ⟨fun h0 => by cases h0, rfl⟩ | exact (fun h0 => by cases h0) | exact ⟨rfl, by omega⟩ | exact ⟨Nat.succ_ne_zero _, rfl⟩ | omega) | refine o_alloc (d := 4) rfl TtOk rfl rfl rfl (fun b4 => ?_) | refine o_box (d := 3) rfl rfl rfl rfl (fun b3 => ?_) | refine o_store TtOk rfl rfl rfl rfl rfl rfl rfl ⟨rfl, rfl⟩ rfl rfl rfl rfl rfl ?_ | refine o_build TtOk rfl rfl rfl rfl rfl rfl (by repeat' (first | exact True.intro | exact rfl | refine ⟨?_, ?_⟩)) ?_ | refine a_condT rfl ?_ | (refine o_makeFunc1 rfl rfl rfl rfl rfl ?_) | (refine o_call0 rfl (hx) ⟨SLe.of_eq rfl, SLe.of_eq rfl, True.intro⟩ rfl ?_; rintro _ _ ⟨rfl, rfl⟩; refine ⟨rfl, ?_⟩))
    all_goals
      refine end_all [] [] (.tup [lef0.A, .b false]) rfl ?_ ?_ (rle_tup2 (CLe.of_eq rfl) (CLe.of_eq rfl) rfl rfl) .nil ⟨rfl, rfl⟩ _ (.inl rfl)
      · repeat' (first | exact True.intro | exact rfl | refine ⟨?_, ?_⟩)
      · exact ⟨trivial, trivial, trivial⟩
end Go.Proofs.Ytcmgpkibjdbonaa
set_option maxHeartbeats 8000000
set_option maxRecDepth 100000
namespace Go.Proofs.Ytcmgpkibjdbonaa
open Go Go.RowKit
def eqLf (x y : Lef) : Bool := x.l == y.l && (x.v == y.v && x.t == y.t)
theorem eqLf_iff {x y : Lef} : eqLf x y = true ↔ x = y := by
  unfold eqLf
  simp only [Bool.and_eq_true, beq_iff_eq]
  obtain ⟨a, b, c⟩ := x
  obtain ⟨d, e, f⟩ := y
  simp
theorem eqLf_self (x : Lef) : eqLf x x = true := eqLf_iff.2 rfl
theorem lefN_eq0 (x y : Lef) (hx : x.ok) (hy : y.ok) (w : World) : (Op.equalIn 10000 29 (.agg (lefC_ x).toArray) (.agg (lefC_ y).toArray)).run Try.prog w = .ok (eqLf x y) w := by
  have hS : Try.prog.underlying 29 = some (.struct (Try.prog.fieldsOf 29)) := by kernel_rfl
  have hh : Try.prog.stoodInHeld 29 = false := by kernel_rfl
  have hi : Try.prog.underlying 3 = some (.int .i64) := by kernel_rfl
  have hk : Try.prog.plainKey 3 = true := by kernel_rfl
  have hu8 : Try.prog.underlying 5 = some (.int .u8) := by kernel_rfl
  have hk8 : Try.prog.plainKey 5 = true := by kernel_rfl
  have hl : Try.prog.underlying 24 = some (.array 32 5) := by kernel_rfl
  have hsz := (tget_ok TtOk (show tget Tt 24 = some _ from rfl)).sizeRun w
  have hag : (isAgg 24).run Try.prog w = .ok true w := by
    unfold isAgg; simp only [Sem.run_bind, run_underlying hl, Result.andThen_ok, Sem.run_pure]
  have pA : ∀ (z : Lef), z.ok → (part 24 (lefC_ z).toArray 0).run Try.prog w = .ok (.agg (z.l.map cellB).toArray) w := fun z hz => by
    have hx : ((lefC_ z).toArray.extract 0 (0 + 32)) = (z.l.map cellB).toArray := by
      rw [List.extract_toArray]
      congr 1
      unfold lefC_ List.extract
      rw [List.drop_zero, List.take_append_of_le_length (by rw [List.length_map, hz.1]; decide), List.take_of_length_le (by rw [List.length_map, hz.1]; decide)]
    unfold part
    simp only [Sem.run_bind, hag, Result.andThen_ok, if_true, hsz, Sem.run_pure]
    exact congrArg (fun q => Result.ok (Value.agg q) w) hx
  have pB : ∀ (z : Lef), z.ok → (part 24 (lefC_ z).toArray 32).run Try.prog w = .ok (.agg (z.v.map cellB).toArray) w := fun z hz => by
    have hx : ((lefC_ z).toArray.extract 32 (32 + 32)) = (z.v.map cellB).toArray := by
      rw [List.extract_toArray]
      congr 1
      unfold lefC_ List.extract
      rw [List.drop_append_of_le_length (by rw [List.length_map, hz.1]; decide), List.drop_of_length_le (by rw [List.length_map, hz.1]; decide), List.nil_append, List.take_append_of_le_length (by rw [List.length_map, hz.2]; decide), List.take_of_length_le (by rw [List.length_map, hz.2]; decide)]
    unfold part
    simp only [Sem.run_bind, hag, Result.andThen_ok, if_true, hsz, Sem.run_pure]
    exact congrArg (fun q => Result.ok (Value.agg q) w) hx
  have pC : ∀ (z : Lef), z.ok → (part 3 (lefC_ z).toArray 64).run Try.prog w = .ok (.int .i64 z.t) w := fun z hz => run_part_plain w hk (by
    unfold lefC_
    rw [List.getElem?_toArray, List.getElem?_append_right (by rw [List.length_map, hz.1]; decide), List.getElem?_append_right (by rw [List.length_map, List.length_map, hz.1, hz.2]; decide), List.length_map, List.length_map, hz.1, hz.2]; rfl)
  have p3 := run_equalIn_int (P := Try.prog) w 9998 3 .i64 .i64 x.t y.t hi
  have p4 : ∀ a b : List UInt8, a.length = 32 → b.length = 32 → (Op.equalIn (9998 + 1) 24 (.agg (a.map cellB).toArray) (.agg (b.map cellB).toArray)).run Try.prog w = .ok (a == b) w := fun a b ha hb => by
    obtain ⟨ie, hie, hies, _⟩ := (tget_ok TtOk (show tget Tt 5 = some _ from rfl)).inf
    have hco : Try.prog.cellsOf 5 = 1 := by unfold Program.cellsOf; rw [hie]; exact hies
    have h1 := run_equalIn_array (P := Try.prog) w 9998 (a.map cellB).toArray (b.map cellB).toArray hl hie
    have h2 := eqItems_bytes (P := Try.prog) (w := w) hu8 hk8 9997 a b (List.range 32) (fun i hi => by have := List.mem_range.1 hi; omega)
    rw [all_range_eq a b 32 ha hb] at h2
    rw [hco] at h1
    rw [h1]
    exact h2
  unfold eqLf
  rw [run_equalIn_struct (P := Try.prog) w 9999 _ _ _ hS hh]
  simp only [Program.fieldsOf, Try.underlying29]
  simp only [Op.eqFields]
  rw [if_pos (by decide)]
  rw [Sem.run_bind, pA x hx, Result.andThen_ok, Sem.run_bind, pA y hy, Result.andThen_ok, Sem.run_bind, p4 _ _ hx.1 hy.1, Result.andThen_ok]
  generalize (x.l == y.l) = q
  cases q
  · simp only [Bool.not_false, if_true, Sem.run_pure, Bool.false_and]
    try rfl
  · simp only [Bool.not_true, Bool.false_eq_true, if_false]
    rw [if_pos (by decide)]
    rw [Sem.run_bind, pB x hx, Result.andThen_ok, Sem.run_bind, pB y hy, Result.andThen_ok, Sem.run_bind, p4 _ _ hx.2 hy.2, Result.andThen_ok]
    generalize (x.v == y.v) = r
    cases r
    · simp only [Bool.not_false, if_true, Sem.run_pure, Bool.false_and]
      try rfl
    · simp only [Bool.not_true, Bool.false_eq_true, if_false]
      rw [if_pos (by decide)]
      rw [Sem.run_bind, pC x hx, Result.andThen_ok, Sem.run_bind, pC y hy, Result.andThen_ok, Sem.run_bind, p3, Result.andThen_ok]
      generalize (x.t == y.t) = z
      cases z <;> rfl
theorem lefN_eql (x y : Lef) (hx : x.ok) (hy : y.ok) (w : World) : (binOp .eql 29 (.agg (lefC_ x).toArray) (.agg (lefC_ y).toArray)).run Try.prog w = .ok (.bool (eqLf x y)) w := by
  rw [run_eql_struct, lefN_eq0 x y hx hy]; rfl
theorem lefN_neq (x y : Lef) (hx : x.ok) (hy : y.ok) (w : World) : (binOp .neq 29 (.agg (lefC_ x).toArray) (.agg (lefC_ y).toArray)).run Try.prog w = .ok (.bool (!(eqLf x y))) w := by
  rw [run_neq_struct, lefN_eq0 x y hx hy]; rfl
section
variable {m : OM} {C : Ctx} {ops : Array Oper} {l : List Oper} {K : St → Prop} {n : Nat} {sl : List (Nat × AV)} {hp : List (Nat × HO)} {d : Nat} {ty : Nat} {pos : String} {aft : Array Edge} {gd : Option (Nat × Bool)}
theorem o_eqLefN (hw : gval ops ⟨n, sl, hp⟩ gd = gwant gd) {u : Nat} {x y : Operand} {p q : Lef} (hx : ev ⟨n, sl, hp⟩ x = p.A) (hy : ev ⟨n, sl, hp⟩ y = q.A) (hd : Nat.blt d n = true)
    (h : Ops m Try.prog C ops l ⟨n, (d, .b (eqLf p q)) :: sl, hp⟩ K) : Ops m Try.prog C ops (⟨some d, .binOp .eql 29 x y u, ty, pos, aft, gd⟩ :: l) ⟨n, sl, hp⟩ K := by
  refine Ops.by (d := some d) hw none okc_none hd rfl (fun ac w hs => ?_) h
  have Ex := ev_rep hs x
  have Ey := ev_rep hs y
  rw [hx] at Ex
  rw [hy] at Ey
  obtain ⟨l1, Ex⟩ := lef_cells Ex
  obtain ⟨l2, Ey⟩ := lef_cells Ey
  refine ⟨_, repV_b.2 rfl, fun w' _ => ?_⟩
  have hgd := run_eqGuard_agg (P := Try.prog) w' .eql 29 x y (lefC_ p).toArray (lefC_ q).toArray (by kernel_rfl)
  simp only [execOp, Ex, Ey, Sem.run_bind, hgd, lefN_eql p q l1 l2, Result.andThen_ok, Sem.run_pure]
theorem o_neLefN (hw : gval ops ⟨n, sl, hp⟩ gd = gwant gd) {u : Nat} {x y : Operand} {p q : Lef} (hx : ev ⟨n, sl, hp⟩ x = p.A) (hy : ev ⟨n, sl, hp⟩ y = q.A) (hd : Nat.blt d n = true)
    (h : Ops m Try.prog C ops l ⟨n, (d, .b (!eqLf p q)) :: sl, hp⟩ K) : Ops m Try.prog C ops (⟨some d, .binOp .neq 29 x y u, ty, pos, aft, gd⟩ :: l) ⟨n, sl, hp⟩ K := by
  refine Ops.by (d := some d) hw none okc_none hd rfl (fun ac w hs => ?_) h
  have Ex := ev_rep hs x
  have Ey := ev_rep hs y
  rw [hx] at Ex
  rw [hy] at Ey
  obtain ⟨l1, Ex⟩ := lef_cells Ex
  obtain ⟨l2, Ey⟩ := lef_cells Ey
  refine ⟨_, repV_b.2 rfl, fun w' _ => ?_⟩
  have hgd := run_eqGuard_agg (P := Try.prog) w' .neq 29 x y (lefC_ p).toArray (lefC_ q).toArray (by kernel_rfl)
  simp only [execOp, Ex, Ey, Sem.run_bind, hgd, lefN_neq p q l1 l2, Result.andThen_ok, Sem.run_pure]
end
section
variable {m : OM} {C : Ctx} {ops : Array Oper} {l : List Oper} {K : St → Prop} {n : Nat} {sl : List (Nat × AV)} {hp : List (Nat × HO)} {d : Nat} {ty : Nat} {pos : String} {aft : Array Edge} {gd : Option (Nat × Bool)}
end
end Go.Proofs.Ytcmgpkibjdbonaa
