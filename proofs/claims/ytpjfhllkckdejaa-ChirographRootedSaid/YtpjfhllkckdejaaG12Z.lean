/- patch.Cover's inner function by rules. -/
import Derived.Test.YtpjfhllkckdejaaGCZ
import Derived.Test.YtpjfhllkckdejaaSO1Z
import Derived.Test.YtpjfhllkckdejaaG6Z
import Derived.Test.YtpjfhllkckdejaaV17Z
import Derived.Test.YtpjfhllkckdejaaV30Z
import Derived.Test.YtpjfhllkckdejaaG5
set_option maxHeartbeats 16000000
set_option maxRecDepth 100000
namespace Go.Proofs.Ytpjfhllkckdejaa
open Go Go.RowKit
def openF : Nat → List (List UInt8) → List Lef → List Itm × List Lef
  | 0, _, _ => ([], [])
  | k + 1, ls, l => if l = [] then ([], []) else if ls.any (hasP (joinF l.length (l.map leafI)).p) = false then ([joinF l.length (l.map leafI)], []) else if l.length = 1 then ([], l)
    else ((openF k ls (l.take (splI (l.map leafI)))).1 ++ (openF k ls (l.drop (splI (l.map leafI)))).1, (openF k ls (l.take (splI (l.map leafI)))).2 ++ (openF k ls (l.drop (splI (l.map leafI)))).2)
def cvA (ls : List (List UInt8)) (b1 b2 b3 : Nat) : List AV := [.cp (.sl 32 (ls.map labA)), .ptr 0 b1 [] 0, .ptr 2 b2 [] 0, .ptr 4 b3 [] 0]
def Tf : List (Nat × TI) := [(115, ⟨.func, 1, 8, .nilf⟩)]
end Go.Proofs.Ytpjfhllkckdejaa
set_option maxHeartbeats 16000000
set_option maxRecDepth 100000
namespace Go.Proofs.Ytpjfhllkckdejaa
open Go Go.RowKit
end Go.Proofs.Ytpjfhllkckdejaa
set_option maxHeartbeats 16000000
set_option maxRecDepth 100000
namespace Go.Proofs.Ytpjfhllkckdejaa
open Go Go.RowKit
def ltCL (cmp : Lef → Lef → Int) (x y : Lef) : Bool := decide (cmp x y < 0)
end Go.Proofs.Ytpjfhllkckdejaa
set_option maxHeartbeats 16000000
set_option maxRecDepth 100000
namespace Go.Proofs.Ytpjfhllkckdejaa
open Go Go.RowKit
end Go.Proofs.Ytpjfhllkckdejaa
set_option maxHeartbeats 16000000
set_option maxRecDepth 100000
namespace Go.Proofs.Ytpjfhllkckdejaa
open Go Go.RowKit
end Go.Proofs.Ytpjfhllkckdejaa
set_option maxHeartbeats 16000000
set_option maxRecDepth 100000
namespace Go.Proofs.Ytpjfhllkckdejaa
open Go Go.RowKit
end Go.Proofs.Ytpjfhllkckdejaa
set_option maxHeartbeats 16000000
set_option maxRecDepth 100000
namespace Go.Proofs.Ytpjfhllkckdejaa
open Go Go.RowKit
end Go.Proofs.Ytpjfhllkckdejaa
set_option maxHeartbeats 4000000
namespace Go.Proofs.Ytpjfhllkckdejaa
open Go Go.RowKit
section
variable {m : OM} {P : Program} {T : List (Nat × TI)} {C : Ctx} {ops : Array Oper} {l : List Oper} {K : St → Prop} {n : Nat} {sl : List (Nat × AV)} {hp : List (Nat × HO)} {d : Nat} {ty : Nat} {pos : String} {aft : Array Edge} {gd : Option (Nat × Bool)}
end
end Go.Proofs.Ytpjfhllkckdejaa
set_option maxHeartbeats 16000000
set_option maxRecDepth 100000
namespace Go.Proofs.Ytpjfhllkckdejaa
open Go Go.RowKit
theorem CLe.fn {fr : Fr} {f : Fn} {xs ys : List AV} (h : CLeL fr xs ys) : CLe fr (.fn f xs) (.fn f ys) := ⟨fun w F cs hf h1 => by
  simp only [repC] at h1 ⊢
  obtain ⟨vs, h2, h3⟩ := h1
  exact ⟨vs, h2, h w F _ hf h3⟩, rfl⟩
def ordL (x y : Lef) : Int := cmpS x.l y.l
theorem woL : WO (ltCL ordL) := cmp_wo Lef.l (fun _ _ => rfl)
def srtL (l : List Lef) : List Lef := sortS (ltCL ordL) l
theorem srtL_len (l : List Lef) : (srtL l).length = l.length := sortS_len woL l
theorem srtL_mem {l : List Lef} {x : Lef} : x ∈ srtL l ↔ x ∈ l := ⟨fun h => CE.mem woL (sortS_ce woL l).symm h, fun h => CE.mem woL (sortS_ce woL l) h⟩
theorem count_spec (n : Int) (h0 : 0 ≤ n) (hn : n ≤ 1000000) : Spec Try.prog 12 [.i .i64 n] [] (fun v os => v = .i .i64 (max 0 (2 * n - 1)) ∧ os = []) := by
  refine spec_of TtOk [] Try.func12 rfl Try.ntmps12 (by kernel_rfl) rfl rfl (fun C => ?_) rfl
  repeat' (first | refine Awp.seq ?_ | refine Awp.region ?_ | (refine Ops.nil ?_; show Awp _ _ _ _ _) | (refine Awp.ret ?_; show endK _ _ _ _ _) | (refine o_sub rfl rfl rfl rfl ?_ ?_; omega) | (refine o_mul rfl rfl rfl rfl ?_ ?_; omega) | (refine o_calm rfl TtOk rfl rfl rfl ?_ (fun _ => ?_); first | exact True.intro | exact ⟨rfl, rfl, rfl, rfl⟩ | exact ⟨rfl, True.intro⟩ | exact ⟨rfl, rfl⟩ | exact ⟨rfl, rfl, rfl⟩ | exact rfl | exact ⟨fun h0 => by cases h0, rfl⟩ | exact (fun h0 => by cases h0) | exact ⟨rfl, by omega⟩ | exact ⟨Nat.succ_ne_zero _, rfl⟩ | omega))
  refine end_tmp rfl rfl rfl [] [] (CLe.of_eq ?_) .nil ⟨rfl, rfl⟩ _ (.inl rfl)
  refine congrArg (AV.i .i64) ?_
  split <;> omega
def cvS (l : List Lef) : List Lef := srtL l
def cvE (l : List Lef) : Int := chkI (itmsL (srtL l))
def cvI (l : List Lef) (ls : List (List UInt8)) : List Itm := if cvE l = 0 then (openF l.length ls (srtL l)).1 else []
def cvT (l : List Lef) (ls : List (List UInt8)) : List Lef := if cvE l = 0 then (openF l.length ls (srtL l)).2 else []
end Go.Proofs.Ytpjfhllkckdejaa
set_option maxHeartbeats 16000000
set_option maxRecDepth 100000
namespace Go.Proofs.Ytpjfhllkckdejaa
open Go Go.RowKit
theorem good_parts {p : Pfx} (h : goodP p = true) : 0 ≤ p.n ∧ p.n ≤ 256 ∧ cutL p.l p.n.toNat = p.l := by
  unfold goodP at h
  simp only [Bool.and_eq_true, decide_eq_true_eq, beq_iff_eq] at h
  exact ⟨h.1, h.2.1, h.2.2⟩
theorem good_cut {l : List UInt8} (hl : l.length = 32) {n : Nat} (hn : n ≤ 256) : goodP ⟨(n : Nat), cutL l n⟩ = true := by
  unfold goodP
  have h2 : cutL (cutL l n) n = cutL l n := cut_eq (cutL_len l n hl hn) hl hn (fun i hi => by rw [cut_bit l hl n i hn, if_pos hi])
  have e : (((n : Nat) : Int)).toNat = n := Int.toNat_natCast n
  show (decide (0 ≤ ((n : Nat) : Int)) && (decide (((n : Nat) : Int) ≤ 256) && (cutL (cutL l n) ((n : Nat) : Int).toNat == cutL l n))) = true
  rw [e, h2, beq_self_eq_true, decide_eq_true (by omega), decide_eq_true (by omega)]; rfl
def covI : Nat → List (List UInt8) → List Itm → List Itm × List Itm
  | 0, _, _ => ([], [])
  | k + 1, ls, l => if l = [] then ([], []) else if ls.any (hasP (joinF l.length l).p) = false then ([joinF l.length l], []) else if l.length = 1 then ([], l)
    else ((covI k ls (l.take (splI l))).1 ++ (covI k ls (l.drop (splI l))).1, (covI k ls (l.take (splI l))).2 ++ (covI k ls (l.drop (splI l))).2)
end Go.Proofs.Ytpjfhllkckdejaa
set_option maxHeartbeats 4000000
namespace Go.Proofs.Ytpjfhllkckdejaa
open Go Go.RowKit
theorem insS_perm {α : Type} {lt : α → α → Bool} (x : α) : ∀ l : List α, (insS lt x l).Perm (x :: l)
  | [] => List.Perm.refl _
  | y :: r => by
    unfold insS
    split
    · exact List.Perm.refl _
    · exact ((insS_perm x r).cons y).trans (List.Perm.swap x y r)
theorem sortS_perm {α : Type} {lt : α → α → Bool} (l : List α) : (sortS lt l).Perm l := by
  have h : ∀ (l a : List α), (l.foldl (fun a x => insS lt x a) a).Perm (a ++ l) := by
    intro l
    induction l with
    | nil => intro a; rw [List.append_nil]; exact List.Perm.refl _
    | cons x r ih =>
      intro a
      rw [List.foldl_cons]
      refine (ih _).trans ?_
      refine ((insS_perm x a).append_right r).trans ?_
      exact List.perm_middle.symm
  exact h l []
theorem srtI_perm (l : List Itm) : (srtI l).Perm l := sortS_perm l
theorem srtL_perm (l : List Lef) : (srtL l).Perm l := sortS_perm l
/-- Neither is over the other. -/
def Anti (a b : Itm) : Prop := ((comL a.l b.l : Nat) : Int) < a.n ∧ ((comL a.l b.l : Nat) : Int) < b.n
theorem Anti.symm {a b : Itm} (h : Anti a b) : Anti b a := by
  unfold Anti at h ⊢
  rw [com_comm]; exact ⟨h.2, h.1⟩
theorem good_n {x : Itm} (h : goodI x = true) : 0 ≤ x.n ∧ x.n ≤ 256 := by
  unfold goodI at h
  simp only [Bool.and_eq_true] at h
  obtain ⟨a, b, _⟩ := good_parts h.1
  exact ⟨a, b⟩
def openB : Nat → List (List UInt8) → List Lef → List (Itm × List Lef)
  | 0, _, _ => []
  | k + 1, ls, l => if l = [] then [] else if ls.any (hasP (joinF l.length (l.map leafI)).p) = false then [(joinF l.length (l.map leafI), l)] else if l.length = 1 then []
    else openB k ls (l.take (splI (l.map leafI))) ++ openB k ls (l.drop (splI (l.map leafI)))
structure BlkL (ls : List (List UInt8)) (l : List Lef) (q : Itm × List Lef) : Prop where
  ne : q.2 ≠ []
  sub : ∀ y ∈ q.2, y ∈ l
  rise : RiseI (q.2.map leafI)
  eq : q.1 = joinF q.2.length (q.2.map leafI)
  out : ∀ x ∈ ls, ((comL q.1.l x : Nat) : Int) < q.1.n
def SepB (a b : Itm × List Lef) : Prop := ((comL a.1.l b.1.l : Nat) : Int) < a.1.n ∧ ((comL a.1.l b.1.l : Nat) : Int) < b.1.n ∧ (∀ y ∈ b.2, ((comL a.1.l y.l : Nat) : Int) < a.1.n) ∧ (∀ y ∈ a.2, ((comL b.1.l y.l : Nat) : Int) < b.1.n) ∧ cmpS a.1.l b.1.l < 0
structure JoinB (p : Itm) (B : List Itm) : Prop where
  ge : 0 ≤ p.n
  le : p.n ≤ 256
  ok : p.ok
  agree : ∀ b ∈ B, ∀ i : Nat, (i : Int) < p.n → bitL b.l i = bitL p.l i
  good : (∀ b ∈ B, goodI b = true) → goodP p.p = true
  tr : ∀ f' d' : Nat, d' + f' = 256 → (d' : Int) ≤ p.n → trJ f' d' B = p
theorem BlkL.up {ls : List (List UInt8)} {l l' : List Lef} {q : Itm × List Lef} (h : BlkL ls l q) (hs : ∀ x ∈ l, x ∈ l') : BlkL ls l' q := ⟨h.ne, fun y hy => hs y (h.sub y hy), h.rise, h.eq, h.out⟩
end Go.Proofs.Ytpjfhllkckdejaa
set_option maxHeartbeats 8000000
set_option maxRecDepth 100000
namespace Go.Proofs.Ytpjfhllkckdejaa
open Go Go.RowKit
theorem few_spec (l : List Lef) (n : Nat) (hl : l.length ≤ 9223372036854775807) (hn : n ≤ 1000) :
    Spec Try.prog 13 [.sl 65 (l.map Lef.A), .i .i64 n] [] (fun r os => ∃ v, r = .own 0 v ∧ os = [.row v 38 65 ((l.take n).map Lef.A)]) := by
  refine spec_of TtOk [] Try.func13 rfl Try.ntmps13 (by kernel_rfl) rfl rfl (fun C => ?_) rfl
  by_cases h : n < l.length
  · have hln : (l.take n).length = n := by rw [List.length_take]; omega
    repeat' (first | refine Awp.seq ?_ | refine Awp.region ?_ | (refine Ops.nil ?_; show Awp _ _ _ _ _) | (refine Awp.ret ?_; show endK _ _ _ _ _) | refine o_len rfl TtOk rfl rfl rfl (fun _ => ?_) | (refine o_calm rfl TtOk rfl rfl rfl ?_ (fun _ => ?_); first | exact True.intro | exact ⟨rfl, rfl, rfl, rfl⟩ | exact ⟨rfl, True.intro⟩ | exact ⟨rfl, rfl⟩ | exact ⟨rfl, rfl, rfl⟩ | exact rfl | exact ⟨fun h0 => by cases h0, rfl⟩ | exact (fun h0 => by cases h0) | exact ⟨rfl, by omega⟩ | exact ⟨Nat.succ_ne_zero _, rfl⟩ | omega) | refine o_buildSlice TtOk rfl rfl rfl rfl rfl rfl rfl rfl rfl rfl rfl (by repeat' (first | exact True.intro | exact rfl | refine ⟨?_, ?_⟩)) (fun _ => ?_) | (refine o_append TtOk rfl rfl rfl rfl rfl rfl rfl rfl rfl (by first | exact True.intro | exact rfl) rfl rfl (fun _ => rfl) ?_ ?_ (fun _ => ?_); ((repeat' (first | rw [List.length_append] | rw [List.length_map] | rw [List.length_cons] | rw [List.length_nil] | rw [List.length_take] | rw [List.length_drop])) <;> omega); ((repeat' (first | rw [List.length_append] | rw [List.length_map] | rw [List.length_cons] | rw [List.length_nil] | rw [List.length_take] | rw [List.length_drop])) <;> omega)) | (refine a_condP rfl (fun hc => ?_) (fun hc => ?_)) <;> (try (exfalso; omega)) | (refine o_sliceSl TtOk rfl 0 n rfl rfl rfl rfl rfl bnd_none (bnd_some rfl rfl) (by omega) (by omega) ?_))
    exact end_tmp rfl rfl rfl [] [(0, _)] CLe.own (HLe.cons 12 rfl (HOLe.refl _) .nil) ⟨_, rfl, rfl⟩ _ (.inl rfl)
  · rw [List.take_of_length_le (by omega)]
    repeat' (first | refine Awp.seq ?_ | refine Awp.region ?_ | (refine Ops.nil ?_; show Awp _ _ _ _ _) | (refine Awp.skip ?_; show Awp _ _ _ _ _) | (refine Awp.ret ?_; show endK _ _ _ _ _) | refine o_len rfl TtOk rfl rfl rfl (fun _ => ?_) | (refine o_calm rfl TtOk rfl rfl rfl ?_ (fun _ => ?_); first | exact True.intro | exact ⟨rfl, rfl, rfl, rfl⟩ | exact ⟨rfl, True.intro⟩ | exact ⟨rfl, rfl⟩ | exact ⟨rfl, rfl, rfl⟩ | exact rfl | exact ⟨fun h0 => by cases h0, rfl⟩ | exact (fun h0 => by cases h0) | exact ⟨rfl, by omega⟩ | exact ⟨Nat.succ_ne_zero _, rfl⟩ | omega) | refine o_buildSlice TtOk rfl rfl rfl rfl rfl rfl rfl rfl rfl rfl rfl (by repeat' (first | exact True.intro | exact rfl | refine ⟨?_, ?_⟩)) (fun _ => ?_) | (refine o_append TtOk rfl rfl rfl rfl rfl rfl rfl rfl rfl (by first | exact True.intro | exact rfl) rfl rfl (fun _ => rfl) ?_ ?_ (fun _ => ?_); ((repeat' (first | rw [List.length_append] | rw [List.length_map] | rw [List.length_cons] | rw [List.length_nil] | rw [List.length_take] | rw [List.length_drop])) <;> omega); ((repeat' (first | rw [List.length_append] | rw [List.length_map] | rw [List.length_cons] | rw [List.length_nil] | rw [List.length_take] | rw [List.length_drop])) <;> omega)) | (refine a_condP rfl (fun hc => ?_) (fun hc => ?_)) <;> (try (exfalso; omega)))
    exact end_tmp rfl rfl rfl [] [(0, _)] CLe.own (HLe.cons 12 rfl (HOLe.refl _) .nil) ⟨_, rfl, rfl⟩ _ (.inl rfl)
end Go.Proofs.Ytpjfhllkckdejaa
set_option maxHeartbeats 8000000
set_option maxRecDepth 100000
namespace Go.Proofs.Ytpjfhllkckdejaa
open Go Go.RowKit
def lefC_ (x : Lef) : List Value := x.l.map cellB ++ (x.v.map cellB ++ [Value.int .i64 x.t])
section
variable {m : OM} {C : Ctx} {ops : Array Oper} {l : List Oper} {K : St → Prop} {n : Nat} {sl : List (Nat × AV)} {hp : List (Nat × HO)} {d : Nat} {ty : Nat} {pos : String} {aft : Array Edge} {gd : Option (Nat × Bool)}
end
end Go.Proofs.Ytpjfhllkckdejaa
set_option maxHeartbeats 8000000
set_option maxRecDepth 100000
namespace Go.Proofs.Ytpjfhllkckdejaa
open Go Go.RowKit
def labC (c : UInt8) : List UInt8 := c :: List.replicate 31 0
def lefC (c : UInt8) : Lef := ⟨labC c, List.replicate 32 0, 0⟩
def awL : List Lef := [lefC 0, lefC 64, lefC 128]
theorem awTop : chkI [] = 0 ∧ topS [] = shaN [18] := ⟨rfl, rfl⟩
end Go.Proofs.Ytpjfhllkckdejaa
set_option maxHeartbeats 8000000
set_option maxRecDepth 100000
namespace Go.Proofs.Ytpjfhllkckdejaa
open Go Go.RowKit
end Go.Proofs.Ytpjfhllkckdejaa
set_option maxHeartbeats 8000000
set_option maxRecDepth 100000
namespace Go.Proofs.Ytpjfhllkckdejaa
open Go Go.RowKit
/-- What is still to come of an insertion. -/
def insT (x : Itm) (done : Bool) (l : List Itm) : List Itm := if done = true then l else insS (ltCI ordI) x l
end Go.Proofs.Ytpjfhllkckdejaa
set_option maxHeartbeats 8000000
set_option maxRecDepth 100000
namespace Go.Proofs.Ytpjfhllkckdejaa
open Go Go.RowKit
def itmC_ (x : Itm) : List Value := Value.int .i64 x.n :: (x.l.map cellB ++ (x.s.map cellB ++ [Value.int .i64 x.t]))
def eqI (x y : Itm) : Bool := x.n == y.n && (x.l == y.l && (x.s == y.s && x.t == y.t))
theorem eqI_iff {x y : Itm} : eqI x y = true ↔ x = y := by
  obtain ⟨n, l, s, t⟩ := x
  obtain ⟨n2, l2, s2, t2⟩ := y
  unfold eqI
  simp only [Bool.and_eq_true, beq_iff_eq, Itm.mk.injEq]
section
variable {m : OM} {C : Ctx} {ops : Array Oper} {l : List Oper} {K : St → Prop} {n : Nat} {sl : List (Nat × AV)} {hp : List (Nat × HO)} {d : Nat} {ty : Nat} {pos : String} {aft : Array Edge} {gd : Option (Nat × Bool)}
end
end Go.Proofs.Ytpjfhllkckdejaa
set_option maxHeartbeats 8000000
set_option maxRecDepth 100000
namespace Go.Proofs.Ytpjfhllkckdejaa
open Go Go.RowKit
section
variable {m : OM} {P : Program} {T : List (Nat × TI)} {C : Ctx} {ops : Array Oper} {l : List Oper} {K : St → Prop} {n : Nat} {sl : List (Nat × AV)} {hp : List (Nat × HO)} {d : Nat} {ty : Nat} {pos : String} {aft : Array Edge} {gd : Option (Nat × Bool)}
/-- != on arrays of bytes. -/
theorem o_neArr8 (hT : TTOk P T) (hw : gval ops ⟨n, sl, hp⟩ gd = gwant gd) {t u e k : Nat} {x y : Operand} {l1 l2 : List UInt8} {sz0 by0 by1 : Nat} {z0 z1 : AV}
    (hx : ev ⟨n, sl, hp⟩ x = .arr 1 k (l1.map byA)) (hy : ev ⟨n, sl, hp⟩ y = .arr 1 k (l2.map byA)) (ht : tget T t = some ⟨.array k e, sz0, by0, z0⟩) (he : tget T e = some ⟨.int .u8, 1, by1, z1⟩) (hd : Nat.blt d n = true) (hg : P.eqGuardType P.depth t = false)
    (h : Ops m P C ops l ⟨n, (d, .b (!(l1 == l2))) :: sl, hp⟩ K) : Ops m P C ops (⟨some d, .binOp .neq t x y u, ty, pos, aft, gd⟩ :: l) ⟨n, sl, hp⟩ K := by
  refine Ops.by (d := some d) hw none okc_none hd rfl (fun a w hs => ?_) h
  have Ex := ev_rep hs x
  have Ey := ev_rep hs y
  rw [hx] at Ex
  rw [hy] at Ey
  obtain ⟨c1, hc1, Ex⟩ := Ex
  obtain ⟨c2, hc2, Ey⟩ := Ey
  have Ex : a.eval x = .agg c1.toArray := Ex
  have Ey : a.eval y = .agg c2.toArray := Ey
  simp only [repC, List.length_map] at hc1 hc2
  have q1 := bytes_cells l1 c1 hc1.2
  have q2 := bytes_cells l2 c2 hc2.2
  have hu := tk_array (tget_ok hT ht)
  have hue := tk_int (tget_ok hT he)
  obtain ⟨ie, hie, hies, _⟩ := (tget_ok hT he).inf
  have hpk : P.plainKey e = true := by unfold Program.plainKey; rw [hue]
  have hco : P.cellsOf e = 1 := by unfold Program.cellsOf; rw [hie]; exact hies
  refine ⟨_, repV_b.2 rfl, fun w' _ => ?_⟩
  have h1 := run_equalIn_array (P := P) w' 9999 c1.toArray c2.toArray hu hie
  rw [hco, q1, q2, eqItems_bytes hue hpk 9998 l1 l2 (List.range k) (fun i hi => by have := List.mem_range.1 hi; omega), all_range_eq l1 l2 k hc1.1 hc2.1] at h1
  have hgd := run_eqGuard_agg (P := P) w' .neq t x y c1.toArray c2.toArray hg
  have hr := run_neq_struct (P := P) w' t c1.toArray c2.toArray
  rw [q1, q2] at hr hgd
  rw [show (10000 : Nat) = 9999 + 1 from rfl, h1] at hr
  simp only [execOp, Ex, Ey, q1, q2, Sem.run_bind, hgd, hr, Result.andThen_ok, Sem.run_pure]
end
end Go.Proofs.Ytpjfhllkckdejaa
set_option maxHeartbeats 8000000
set_option maxRecDepth 100000
namespace Go.Proofs.Ytpjfhllkckdejaa
open Go Go.RowKit
end Go.Proofs.Ytpjfhllkckdejaa
set_option maxHeartbeats 16000000
set_option maxRecDepth 100000
namespace Go.Proofs.Ytpjfhllkckdejaa
open Go Go.RowKit
theorem filter_leafI (z : Itm) (l : List Lef) : (l.map leafI).filter (eqv (ltCI ordI) z) = (l.filter (eqv (ltCL ordL) ⟨z.l, [], 0⟩)).map leafI := by
  rw [List.filter_map]
  rfl
theorem itms_srt (l : List Lef) : itmsL (srtL l) = itmsL l := by
  refine (sortS_of woI (sortS_srt woI _) ?_)
  refine CE.trans (fun z => ?_) (sortS_ce woI _)
  rw [filter_leafI, filter_leafI, (sortS_ce woL l) ⟨z.l, [], 0⟩]; rfl
theorem itms_map (l : List Lef) : itmsL l = (srtL l).map leafI := by
  rw [← itms_srt]
  refine sortS_id woI ?_
  unfold Srt
  rw [List.pairwise_map]
  exact sortS_srt woL l
end Go.Proofs.Ytpjfhllkckdejaa
set_option maxHeartbeats 4000000
namespace Go.Proofs.Ytpjfhllkckdejaa
open Go Go.RowKit
theorem good_t {x : Itm} (h : goodI x = true) : 0 ≤ x.t ∧ x.t ≤ 1073741824 := by
  unfold goodI at h
  simp only [Bool.and_eq_true, decide_eq_true_eq] at h
  exact h.2
theorem leaf_anti {x y : Lef} (hx : x.ok) (hy : y.ok) (h : x.l ≠ y.l) : Anti (leafI x) (leafI y) := by
  have h1 : comL x.l y.l < 256 := by
    rcases Nat.lt_or_ge (comL x.l y.l) 256 with h2 | h2
    · exact h2
    · exact absurd ((com_bits x.l y.l (by rw [hx.1, hy.1])).2.2.2 (by have := comL_256 (b := y.l) hx.1; rw [hx.1]; omega)) h
  exact ⟨by show ((comL x.l y.l : Nat) : Int) < 256; omega, by show ((comL x.l y.l : Nat) : Int) < 256; omega⟩
theorem rise_ne {l : List Lef} (hr : RiseI (l.map leafI)) : l.Pairwise (fun a b => a.l ≠ b.l) := by
  have h : (l.map leafI).Pairwise (fun a b => cmpS a.l b.l < 0) := hr
  rw [List.pairwise_map] at h
  exact h.imp (fun {a b} hab he => by
    have hab : cmpS a.l b.l < 0 := hab
    rw [he, cmpS_eq] at hab; omega)
def notIn (ls : List (List UInt8)) (x : Lef) : Bool := !(ls.contains x.l)
/-- The leaves of a tree have unlike labels. -/
theorem itms_ne {L : List Lef} (hc : chkI (itmsL L) = 0) : L.Pairwise (fun a b => a.l ≠ b.l) := by
  have h1 := (chkI_rise hc).2.1
  rw [itms_map] at h1
  exact (List.Perm.pairwise_iff (fun h => Ne.symm h) (srtL_perm L)).1 (rise_ne h1)
end Go.Proofs.Ytpjfhllkckdejaa
set_option maxHeartbeats 4000000
namespace Go.Proofs.Ytpjfhllkckdejaa
open Go Go.RowKit
def TK.isIface : TK → Bool
  | .iface => true
  | _ => false
section
variable {m : OM} {P : Program} {T : List (Nat × TI)} {C : Ctx} {ops : Array Oper} {l : List Oper} {K : St → Prop} {n : Nat} {sl : List (Nat × AV)} {hp : List (Nat × HO)} {d : Nat} {ty : Nat} {pos : String} {aft : Array Edge} {gd : Option (Nat × Bool)}
theorem not_iface {k : TK} {t sz by_ : Nat} {z : AV} (h : TOk P t ⟨k, sz, by_, z⟩) (hk : k.isIface = false) : ∃ dd, P.underlying t = some dd ∧ ∀ want, dd ≠ .interface want := by
  obtain ⟨dd, h1, h2⟩ := h.desc
  refine ⟨dd, h1, fun want he => ?_⟩
  subst he
  have h2 : TK.iface = k := h2
  subst h2; cases hk
theorem o_mkIface (hT : TTOk P T) (hw : gval ops ⟨n, sl, hp⟩ gd = gwant gd) {t : Nat} {x : Operand} {y : AV} {k : TK} {sz by_ : Nat} {z : AV} (hx : ev ⟨n, sl, hp⟩ x = y) (hv : y.isVal = true) (ht : tget T t = some ⟨k, sz, by_, z⟩) (hk : k.isIface = false) (hd : Nat.blt d n = true)
    (h : Ops m P C ops l ⟨n, (d, .ifc t y) :: sl, hp⟩ K) : Ops m P C ops (⟨some d, .makeInterface t x, ty, pos, aft, gd⟩ :: l) ⟨n, sl, hp⟩ K := by
  refine Ops.by (d := some d) hw none okc_none hd rfl (fun a w hs => ?_) h
  have E := ev_rep hs x
  rw [hx] at E
  obtain ⟨cs, h1, h2⟩ := repV_cells hv E
  refine ⟨.iface t (ofCells y cs), ⟨_, ⟨cs, rfl, h1⟩, rfl⟩, fun w' _ => ?_⟩
  obtain ⟨dd, hu, hn⟩ := not_iface (tget_ok hT ht) hk
  simp only [execOp, Instr.makeInterface, Sem.run_bind, run_underlying hu, Result.andThen_ok, h2]
  cases dd <;> first | rfl | exact absurd rfl (hn _)
theorem o_assertT (hT : TTOk P T) (hw : gval ops ⟨n, sl, hp⟩ gd = gwant gd) {xt t : Nat} {x : Operand} {y : AV} {k : TK} {sz by_ : Nat} {z : AV} (hx : ev ⟨n, sl, hp⟩ x = .ifc t y) (hv : y.isVal = true) (ht : tget T t = some ⟨k, sz, by_, z⟩) (hk : k.isIface = false) (hd : Nat.blt d n = true)
    (h : Ops m P C ops l ⟨n, (d, .tup [y, .b true]) :: sl, hp⟩ K) : Ops m P C ops (⟨some d, .typeAssert x xt t true, ty, pos, aft, gd⟩ :: l) ⟨n, sl, hp⟩ K := by
  refine Ops.by (d := some d) hw none okc_none hd rfl (fun a w hs => ?_) h
  have E := ev_rep hs x
  rw [hx] at E
  obtain ⟨_, ⟨vs, rfl, h1⟩, h2⟩ := E
  have h2 : a.eval x = .iface t (ofCells y vs) := h2
  refine ⟨.tuple #[ofCells y vs, .bool true], ⟨[ofCells y vs, .bool true], rfl, rfl, fun i b u hb hu => ?_⟩, fun w' _ => ?_⟩
  · match i with
    | 0 => simp at hb hu; subst hb; subst hu; exact .inr ⟨vs, h1, rfl⟩
    | 1 => simp at hb hu; subst hb; subst hu; exact .inr ⟨_, rfl, rfl⟩
    | j + 2 => simp at hb
  obtain ⟨dd, hu, hn⟩ := not_iface (tget_ok hT ht) hk
  simp only [execOp, Instr.typeAssert, Sem.run_bind, run_underlying hu, Result.andThen_ok, h2]
  cases dd <;> first | (simp [Sem.run_pure]; done) | (simp; rfl) | exact absurd rfl (hn _)
theorem o_assert1 (hT : TTOk P T) (hw : gval ops ⟨n, sl, hp⟩ gd = gwant gd) {xt t : Nat} {x : Operand} {y : AV} {k : TK} {sz by_ : Nat} {z : AV} (hx : ev ⟨n, sl, hp⟩ x = .ifc t y) (hv : y.isVal = true) (ht : tget T t = some ⟨k, sz, by_, z⟩) (hk : k.isIface = false) (hd : Nat.blt d n = true)
    (h : Ops m P C ops l ⟨n, (d, y) :: sl, hp⟩ K) : Ops m P C ops (⟨some d, .typeAssert x xt t false, ty, pos, aft, gd⟩ :: l) ⟨n, sl, hp⟩ K := by
  refine Ops.by (d := some d) hw none okc_none hd rfl (fun a w hs => ?_) h
  have E := ev_rep hs x
  rw [hx] at E
  obtain ⟨_, ⟨vs, rfl, h1⟩, h2⟩ := E
  have h2 : a.eval x = .iface t (ofCells y vs) := h2
  have hr : repV w (Fz C hp w) y (ofCells y vs) := by
    cases y <;> simp [AV.isVal] at hv <;> exact ⟨vs, h1, rfl⟩
  refine ⟨ofCells y vs, hr, fun w' _ => ?_⟩
  obtain ⟨dd, hu, hn⟩ := not_iface (tget_ok hT ht) hk
  simp only [execOp, Instr.typeAssert, Sem.run_bind, run_underlying hu, Result.andThen_ok, h2]
  cases dd <;> first | (simp [Sem.run_pure]; done) | (simp; rfl) | exact absurd rfl (hn _)
theorem zero_run {t : Nat} {k : TK} {sz by_ : Nat} {z : AV} (h : TOk P t ⟨k, sz, by_, z⟩) (hz : z.isVal = true) : ∃ cs, (∀ w F, repC w F z cs) ∧ ∀ w', (zeroValue t).run P w' = .ok (ofCells z cs) w' := by
  rcases h.zero with h0 | ⟨cs, h1, h2⟩
  · have h0 : z = .any := h0
    rw [h0] at hz; cases hz
  · refine ⟨cs, fun w F => flatZ_rep z cs h1, fun w' => ?_⟩
    cases hi : P.info? t with
    | none => rw [hi] at h2; cases h2
    | some i =>
      rw [hi] at h2
      have hz2 : i.zero = some (ofCells z cs) := h2
      simp [zeroValue, typeInfo, hi, hz2, Sem.run]
theorem o_assertF (hT : TTOk P T) (hw : gval ops ⟨n, sl, hp⟩ gd = gwant gd) {xt t t' : Nat} {x : Operand} {y : AV} {k : TK} {sz by_ : Nat} {z : AV} (hx : ev ⟨n, sl, hp⟩ x = .ifc t' y) (hne : Nat.beq t' t = false) (ht : tget T t = some ⟨k, sz, by_, z⟩) (hz : z.isVal = true) (hk : k.isIface = false) (hd : Nat.blt d n = true)
    (h : Ops m P C ops l ⟨n, (d, .tup [z, .b false]) :: sl, hp⟩ K) : Ops m P C ops (⟨some d, .typeAssert x xt t true, ty, pos, aft, gd⟩ :: l) ⟨n, sl, hp⟩ K := by
  refine Ops.by (d := some d) hw none okc_none hd rfl (fun a w hs => ?_) h
  have E := ev_rep hs x
  rw [hx] at E
  obtain ⟨_, ⟨vs, rfl, h1⟩, h2⟩ := E
  have h2 : a.eval x = .iface t' (ofCells y vs) := h2
  obtain ⟨zs, hzr, hzv⟩ := zero_run (tget_ok hT ht) hz
  refine ⟨.tuple #[ofCells z zs, .bool false], ⟨[ofCells z zs, .bool false], rfl, rfl, fun i b u hb hu => ?_⟩, fun w' _ => ?_⟩
  · match i with
    | 0 => simp at hb hu; subst hb; subst hu; exact .inr ⟨zs, hzr _ _, rfl⟩
    | 1 => simp at hb hu; subst hb; subst hu; exact .inr ⟨_, rfl, rfl⟩
    | j + 2 => simp at hb
  obtain ⟨dd, hu, hn⟩ := not_iface (tget_ok hT ht) hk
  have htt : ¬ t' = t := fun he => by rw [he] at hne; simp at hne
  simp only [execOp, Instr.typeAssert, Sem.run_bind, run_underlying hu, Result.andThen_ok, h2]
  cases dd <;> first | (simp [htt, hzv, Result.andThen]; done) | exact absurd rfl (hn _)
theorem CLe.ifc {fr : Fr} {t : Nat} {a b : AV} (h : CLe fr a b) : CLe fr (.ifc t a) (.ifc t b) := ⟨fun w F cs hf h1 => by
  simp only [repC] at h1 ⊢
  obtain ⟨vs, rfl, h3⟩ := h1
  have h4 := h.1 w F _ hf h3
  refine ⟨vs, ?_, h4⟩
  unfold ofCells
  rw [h.2], rfl⟩
end
end Go.Proofs.Ytpjfhllkckdejaa
