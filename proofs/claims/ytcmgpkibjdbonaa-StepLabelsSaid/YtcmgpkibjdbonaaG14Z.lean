/- law16: Few, few by rules. -/
import Derived.Test.YtcmgpkibjdbonaaSL7Z
import Derived.Test.YtcmgpkibjdbonaaG5Z
import Derived.Test.YtcmgpkibjdbonaaG10Z
import Derived.Test.YtcmgpkibjdbonaaSA4
import Derived.Test.YtcmgpkibjdbonaaV26Z
import Derived.Test.YtcmgpkibjdbonaaC1
set_option maxHeartbeats 8000000
set_option maxRecDepth 100000
namespace Go.Proofs.Ytcmgpkibjdbonaa
open Go Go.RowKit
theorem few_spec (l : List Lef) (n : Nat) (hl : l.length ≤ 9223372036854775807) (hn : n ≤ 1000) :
    Spec Try.prog 11 [.sl 65 (l.map Lef.A), .i .i64 n] [] (fun r os => ∃ v, r = .own 0 v ∧ os = [.row v 29 65 ((l.take n).map Lef.A)]) := by
  refine spec_of TtOk [] Try.func11 rfl Try.ntmps11 (by kernel_rfl) rfl rfl (fun C => ?_) rfl
  by_cases h : n < l.length
  · have hln : (l.take n).length = n := by rw [List.length_take]; omega
    repeat' (first | refine Awp.seq ?_ | refine Awp.region ?_ | (refine Ops.nil ?_; show Awp _ _ _ _ _) | (refine Awp.ret ?_; show endK _ _ _ _ _) | refine o_len rfl TtOk rfl rfl rfl (fun _ => ?_) | (refine o_calm rfl TtOk rfl rfl rfl ?_ (fun _ => ?_); first | exact True.intro | exact ⟨rfl, rfl, rfl, rfl⟩ | exact ⟨rfl, True.intro⟩ | exact ⟨rfl, rfl⟩ | exact ⟨rfl, rfl, rfl⟩ | exact rfl | exact ⟨fun h0 => by cases h0, rfl⟩ | exact (fun h0 => by cases h0) | exact ⟨rfl, by omega⟩ | exact ⟨Nat.succ_ne_zero _, rfl⟩ | omega) | refine o_buildSlice TtOk rfl rfl rfl rfl rfl rfl rfl rfl rfl rfl rfl (by repeat' (first | exact True.intro | exact rfl | refine ⟨?_, ?_⟩)) (fun _ => ?_) | (refine o_append TtOk rfl rfl rfl rfl rfl rfl rfl rfl rfl (by first | exact True.intro | exact rfl) rfl rfl (fun _ => rfl) ?_ ?_ (fun _ => ?_); ((repeat' (first | rw [List.length_append] | rw [List.length_map] | rw [List.length_cons] | rw [List.length_nil] | rw [List.length_take] | rw [List.length_drop])) <;> omega); ((repeat' (first | rw [List.length_append] | rw [List.length_map] | rw [List.length_cons] | rw [List.length_nil] | rw [List.length_take] | rw [List.length_drop])) <;> omega)) | (refine a_condP rfl (fun hc => ?_) (fun hc => ?_)) <;> (try (exfalso; omega)) | (refine o_sliceSl TtOk rfl 0 n rfl rfl rfl rfl rfl bnd_none (bnd_some rfl rfl) (by omega) (by omega) ?_))
    exact end_tmp rfl rfl rfl [] [(0, _)] CLe.own (HLe.cons 12 rfl (HOLe.refl _) .nil) ⟨_, rfl, rfl⟩ _ (.inl rfl)
  · rw [List.take_of_length_le (by omega)]
    repeat' (first | refine Awp.seq ?_ | refine Awp.region ?_ | (refine Ops.nil ?_; show Awp _ _ _ _ _) | (refine Awp.skip ?_; show Awp _ _ _ _ _) | (refine Awp.ret ?_; show endK _ _ _ _ _) | refine o_len rfl TtOk rfl rfl rfl (fun _ => ?_) | (refine o_calm rfl TtOk rfl rfl rfl ?_ (fun _ => ?_); first | exact True.intro | exact ⟨rfl, rfl, rfl, rfl⟩ | exact ⟨rfl, True.intro⟩ | exact ⟨rfl, rfl⟩ | exact ⟨rfl, rfl, rfl⟩ | exact rfl | exact ⟨fun h0 => by cases h0, rfl⟩ | exact (fun h0 => by cases h0) | exact ⟨rfl, by omega⟩ | exact ⟨Nat.succ_ne_zero _, rfl⟩ | omega) | refine o_buildSlice TtOk rfl rfl rfl rfl rfl rfl rfl rfl rfl rfl rfl (by repeat' (first | exact True.intro | exact rfl | refine ⟨?_, ?_⟩)) (fun _ => ?_) | (refine o_append TtOk rfl rfl rfl rfl rfl rfl rfl rfl rfl (by first | exact True.intro | exact rfl) rfl rfl (fun _ => rfl) ?_ ?_ (fun _ => ?_); ((repeat' (first | rw [List.length_append] | rw [List.length_map] | rw [List.length_cons] | rw [List.length_nil] | rw [List.length_take] | rw [List.length_drop])) <;> omega); ((repeat' (first | rw [List.length_append] | rw [List.length_map] | rw [List.length_cons] | rw [List.length_nil] | rw [List.length_take] | rw [List.length_drop])) <;> omega)) | (refine a_condP rfl (fun hc => ?_) (fun hc => ?_)) <;> (try (exfalso; omega)))
    exact end_tmp rfl rfl rfl [] [(0, _)] CLe.own (HLe.cons 12 rfl (HOLe.refl _) .nil) ⟨_, rfl, rfl⟩ _ (.inl rfl)
end Go.Proofs.Ytcmgpkibjdbonaa
set_option maxHeartbeats 8000000
set_option maxRecDepth 100000
namespace Go.Proofs.Ytcmgpkibjdbonaa
open Go Go.RowKit
def lefC_ (x : Lef) : List Value := x.l.map cellB ++ (x.v.map cellB ++ [Value.int .i64 x.t])
theorem lef_cells {w : World} {F : Nat → Prop} {x : Lef} {v : Value} (h : repV w F x.A v) : x.ok ∧ v = .agg (lefC_ x).toArray := by
  obtain ⟨cs, hc, he⟩ := h
  simp only [Lef.A, labA, repC, repL] at hc
  obtain ⟨c1, c2, rfl, ⟨h1, h2⟩, c3, c4, rfl, ⟨h3, h4⟩, c5, c6, rfl, rfl, rfl⟩ := hc
  have e1 := bytes_cells x.l c1 h2
  have e2 := bytes_cells x.v c3 h4
  subst e1
  subst e2
  exact ⟨⟨by simpa using h1, by simpa using h3⟩, he⟩
section
variable {m : OM} {C : Ctx} {ops : Array Oper} {l : List Oper} {K : St → Prop} {n : Nat} {sl : List (Nat × AV)} {hp : List (Nat × HO)} {d : Nat} {ty : Nat} {pos : String} {aft : Array Edge} {gd : Option (Nat × Bool)}
end
end Go.Proofs.Ytcmgpkibjdbonaa
set_option maxHeartbeats 8000000
set_option maxRecDepth 100000
namespace Go.Proofs.Ytcmgpkibjdbonaa
open Go Go.RowKit
def labC (c : UInt8) : List UInt8 := c :: List.replicate 31 0
def lefC (c : UInt8) : Lef := ⟨labC c, List.replicate 32 0, 0⟩
def awL : List Lef := [lefC 0, lefC 64, lefC 128]
end Go.Proofs.Ytcmgpkibjdbonaa
set_option maxHeartbeats 8000000
set_option maxRecDepth 100000
namespace Go.Proofs.Ytcmgpkibjdbonaa
open Go Go.RowKit
def bitOn (l : List UInt8) (i : Nat) : List UInt8 := l.set (i / 8) (UInt8.ofNat ((l.getD (i / 8) 0).toNat + 2 ^ (7 - i % 8)))
end Go.Proofs.Ytcmgpkibjdbonaa
set_option maxHeartbeats 8000000
set_option maxRecDepth 100000
namespace Go.Proofs.Ytcmgpkibjdbonaa
open Go Go.RowKit
end Go.Proofs.Ytcmgpkibjdbonaa
set_option maxHeartbeats 4000000
namespace Go.Proofs.Ytcmgpkibjdbonaa
open Go Go.RowKit
def okW (x : Int) : Prop := 0 ≤ x ∧ x < 4294967296
def bvW (x : Int) : BitVec 32 := BitVec.ofInt 32 x
def ivW (v : BitVec 32) : Int := ((v.toNat : Nat) : Int)
def be4R (a b c d : UInt8) : Int := w32 (w32 (w32 (shl32 (w32 (w32 (a.toNat : Int) * 1)) 24 + shl32 (w32 (w32 (b.toNat : Int) * 1)) 16) + shl32 (w32 (w32 (c.toNat : Int) * 1)) 8) + w32 (d.toNat : Int))
def rnR (v : V8) (k w : Int) : V8 :=
  let p := w32 (w32 (w32 (w32 (v.h + xorI (xorI (rotr v.e 6) (rotr v.e 11)) (rotr v.e 25)) + orI (andI v.e v.f) (andI (w32 (4294967295 - v.e)) v.g)) + k) + w)
  ⟨w32 (w32 (p + xorI (xorI (rotr v.a 2) (rotr v.a 13)) (rotr v.a 22)) + orI (orI (andI v.a v.b) (andI v.a v.c)) (andI v.b v.c)), v.a, v.b, v.c, w32 (v.d + p), v.e, v.f, v.g⟩
def V8.okE (v : V8) : Prop := okW v.e ∧ okW v.d ∧ okW v.c ∧ okW v.b ∧ okW v.a
structure V8.ok (v : V8) : Prop where
  a : okW v.a
  b : okW v.b
  c : okW v.c
  d : okW v.d
  e : okW v.e
end Go.Proofs.Ytcmgpkibjdbonaa
set_option maxHeartbeats 16000000
set_option maxRecDepth 100000
namespace Go.Proofs.Ytcmgpkibjdbonaa
open Go Go.RowKit
section
variable {m : OM} {P : Program} {T : List (Nat × TI)} {C : Ctx} {ops : Array Oper} {l : List Oper} {K : St → Prop} {n : Nat} {sl : List (Nat × AV)} {hp : List (Nat × HO)} {d : Nat} {ty : Nat} {pos : String} {aft : Array Edge} {gd : Option (Nat × Bool)}
end
end Go.Proofs.Ytcmgpkibjdbonaa
set_option maxHeartbeats 16000000
set_option maxRecDepth 100000
namespace Go.Proofs.Ytcmgpkibjdbonaa
open Go Go.RowKit
end Go.Proofs.Ytcmgpkibjdbonaa
set_option maxHeartbeats 32000000
set_option maxRecDepth 100000
namespace Go.Proofs.Ytcmgpkibjdbonaa
open Go Go.RowKit
end Go.Proofs.Ytcmgpkibjdbonaa
set_option maxHeartbeats 8000000
set_option maxRecDepth 100000
namespace Go.Proofs.Ytcmgpkibjdbonaa
open Go Go.RowKit
/-- An item as the document's. -/
def Itm.R (x : Itm) : AV := .agg [.i .i64 x.n, labA x.l, labA x.s, .i .i64 x.t]
def egt (U : Nat) : Nat → List UInt8
  | 0 => []
  | i + 1 => UInt8.ofNat (U / 256 ^ i % 256) :: egt U i
def u64N (n : Int) : Nat := (IntKind.u64.wrap n).toNat
def overR (a b : Itm) : Bool := decide (a.n ≤ b.n) && decide ((comL a.l b.l : Nat) ≥ a.n)
theorem told15_spec (x : Itm) : Spec Try.prog 61 [x.A] [] (fun v os => v = x.R ∧ os = []) := by
  obtain ⟨n, l, s, t⟩ := x
  show Spec Try.prog 61 [.agg [pfxA n l, labA s, .i .i64 t]] [] (fun v os => v = .agg [.i .i64 n, labA l, labA s, .i .i64 t] ∧ os = [])
  refine spec_of TtOk [] Try.func61 rfl Try.ntmps61 (by kernel_rfl) rfl rfl (fun C => ?_) rfl
  repeat' (first | refine Awp.seq ?_ | refine Awp.region ?_ | (refine Ops.nil ?_; show Awp _ _ _ _ _) | (refine Awp.ret ?_; show endK _ _ _ _ _) | (refine o_calm rfl TtOk rfl rfl rfl ?_ (fun _ => ?_); first | exact True.intro | exact ⟨rfl, rfl, rfl, rfl⟩ | exact ⟨rfl, True.intro⟩ | exact ⟨rfl, rfl⟩ | exact ⟨rfl, rfl, rfl⟩ | exact rfl | exact ⟨fun h0 => by cases h0, rfl⟩ | exact (fun h0 => by cases h0) | exact ⟨rfl, by omega⟩ | exact ⟨Nat.succ_ne_zero _, rfl⟩ | omega) | refine o_alloc (d := 2) rfl TtOk rfl rfl rfl (fun b2 => ?_) | refine o_box (d := 1) rfl rfl rfl rfl (fun b1 => ?_) | refine o_store TtOk rfl rfl rfl rfl rfl rfl rfl ⟨rfl, rfl⟩ rfl rfl rfl rfl rfl ?_ | refine o_build TtOk rfl rfl rfl rfl rfl rfl (by repeat' (first | exact True.intro | exact rfl | refine ⟨?_, ?_⟩)) ?_)
  refine end_all [] [] (.agg [.i .i64 n, labA l, labA s, .i .i64 t]) rfl ?_ ?_ (rle_one (CLe.of_eq rfl) rfl) .nil ⟨rfl, rfl⟩ _ (.inl rfl)
  · repeat' (first | exact True.intro | exact rfl | refine ⟨?_, ?_⟩)
  · exact ⟨trivial, trivial⟩
end Go.Proofs.Ytcmgpkibjdbonaa
set_option maxHeartbeats 8000000
set_option maxRecDepth 100000
namespace Go.Proofs.Ytcmgpkibjdbonaa
open Go Go.RowKit
/-- The least that is in common with the first one, of so many. -/
def minC (l : List Itm) (i : Nat) : Nat := if i = 0 then 256 else comL (l.headD default).l ((l.getD (i - 1) default).l)
theorem filt_lo {l : List Itm} (hr : RiseI l) (hok : ∀ x ∈ l, x.ok) (h2 : 2 ≤ l.length) : l.filter (fun x => bitL x.l (frkI l) == 0) = l.take (splI l) ∧ l.filter (fun x => !(bitL x.l (frkI l) == 0)) = l.drop (splI l) := by
  obtain ⟨c1, c2, c3, c4⟩ := spl_ok hr hok h2
  have hlo : ∀ x ∈ l.take (splI l), bitL x.l (frkI l) = 0 := fun x hx => by
    obtain ⟨j, hj, rfl⟩ := List.getElem_of_mem hx
    rw [List.length_take] at hj
    rw [List.getElem_take]
    exact spl_lo j (by omega) (by omega)
  have hhi : ∀ x ∈ l.drop (splI l), bitL x.l (frkI l) = 1 := fun x hx => by
    obtain ⟨j, hj, rfl⟩ := List.getElem_of_mem hx
    rw [List.length_drop] at hj
    rw [List.getElem_drop]
    exact spl_hi hr hok h2 _ (by omega) (by omega)
  generalize frkI l = n at *
  generalize splI l = s at *
  have e : l = l.take s ++ l.drop s := (List.take_append_drop s l).symm
  constructor
  · conv => lhs; rw [e]
    rw [List.filter_append, List.filter_eq_self.2 (fun x hx => by rw [hlo x hx]; rfl), List.filter_eq_nil_iff.2 (fun x hx => by rw [hhi x hx]; decide), List.append_nil]
  · conv => lhs; rw [e]
    rw [List.filter_append, List.filter_eq_nil_iff.2 (fun x hx => by rw [hlo x hx]; decide), List.filter_eq_self.2 (fun x hx => by rw [hhi x hx]; rfl), List.nil_append]
theorem filt_succ {α : Type} (p : α → Bool) (l : List α) {i : Nat} (hi : i < l.length) : (l.take (i + 1)).filter p = if p l[i] = true then (l.take i).filter p ++ [l[i]] else (l.take i).filter p := by
  rw [List.take_succ_eq_append_getElem hi, List.filter_append]
  by_cases h : p l[i] = true
  · rw [if_pos h, List.filter_cons_of_pos h, List.filter_nil]
  · rw [if_neg h, List.filter_cons_of_neg h, List.filter_nil, List.append_nil]
end Go.Proofs.Ytcmgpkibjdbonaa
set_option maxHeartbeats 8000000
set_option maxRecDepth 100000
namespace Go.Proofs.Ytcmgpkibjdbonaa
open Go Go.RowKit
end Go.Proofs.Ytcmgpkibjdbonaa
set_option maxHeartbeats 8000000
set_option maxRecDepth 100000
namespace Go.Proofs.Ytcmgpkibjdbonaa
open Go Go.RowKit
/-- What is still to come of an insertion. -/
def insT (x : Itm) (done : Bool) (l : List Itm) : List Itm := if done = true then l else insS (ltCI ordI) x l
end Go.Proofs.Ytcmgpkibjdbonaa
set_option maxHeartbeats 8000000
set_option maxRecDepth 100000
namespace Go.Proofs.Ytcmgpkibjdbonaa
open Go Go.RowKit
def itmC_ (x : Itm) : List Value := Value.int .i64 x.n :: (x.l.map cellB ++ (x.s.map cellB ++ [Value.int .i64 x.t]))
def eqI (x y : Itm) : Bool := x.n == y.n && (x.l == y.l && (x.s == y.s && x.t == y.t))
section
variable {m : OM} {C : Ctx} {ops : Array Oper} {l : List Oper} {K : St → Prop} {n : Nat} {sl : List (Nat × AV)} {hp : List (Nat × HO)} {d : Nat} {ty : Nat} {pos : String} {aft : Array Edge} {gd : Option (Nat × Bool)}
end
end Go.Proofs.Ytcmgpkibjdbonaa
set_option maxHeartbeats 8000000
set_option maxRecDepth 100000
namespace Go.Proofs.Ytcmgpkibjdbonaa
open Go Go.RowKit
section
variable {m : OM} {P : Program} {T : List (Nat × TI)} {C : Ctx} {ops : Array Oper} {l : List Oper} {K : St → Prop} {n : Nat} {sl : List (Nat × AV)} {hp : List (Nat × HO)} {d : Nat} {ty : Nat} {pos : String} {aft : Array Edge} {gd : Option (Nat × Bool)}
/-- != on arrays of bytes. -/
theorem o_neArr8 (hT : TTOk P T) (hw : gval ops ⟨n, sl, hp⟩ gd = gwant gd) {t u e k : Nat} {x y : Operand} {l1 l2 : List UInt8} {sz0 by0 by1 : Nat} {z0 z1 : AV}
    (hx : ev ⟨n, sl, hp⟩ x = .arr 1 k (l1.map byA)) (hy : ev ⟨n, sl, hp⟩ y = .arr 1 k (l2.map byA)) (ht : tget T t = some ⟨.array k e, sz0, by0, z0⟩) (he : tget T e = some ⟨.int .u8, 1, by1, z1⟩) (hd : Nat.blt d n = true) (hg : P.eqGuardType P.depth t = false)
    (h : Ops m P C ops l ⟨n, (d, .b (!(l1 == l2))) :: sl, hp⟩ K) : Ops m P C ops (⟨some d, .binOp .neq t x y u, ty, pos, aft, gd⟩ :: l) ⟨n, sl, hp⟩ K := by
  refine Ops.by (d := some d) hw none okc_none hd rfl (fun a w hs => ?_) h
  have Ex := ev_rep hs x
  have Ey := ev_rep hs y
  rw [hx] at Ex
  rw [hy] at Ey
  obtain ⟨c1, hc1, Ex⟩ := Ex
  obtain ⟨c2, hc2, Ey⟩ := Ey
  have Ex : a.eval x = .agg c1.toArray := Ex
  have Ey : a.eval y = .agg c2.toArray := Ey
  simp only [repC, List.length_map] at hc1 hc2
  have q1 := bytes_cells l1 c1 hc1.2
  have q2 := bytes_cells l2 c2 hc2.2
  have hu := tk_array (tget_ok hT ht)
  have hue := tk_int (tget_ok hT he)
  obtain ⟨ie, hie, hies, _⟩ := (tget_ok hT he).inf
  have hpk : P.plainKey e = true := by unfold Program.plainKey; rw [hue]
  have hco : P.cellsOf e = 1 := by unfold Program.cellsOf; rw [hie]; exact hies
  refine ⟨_, repV_b.2 rfl, fun w' _ => ?_⟩
  have h1 := run_equalIn_array (P := P) w' 9999 c1.toArray c2.toArray hu hie
  rw [hco, q1, q2, eqItems_bytes hue hpk 9998 l1 l2 (List.range k) (fun i hi => by have := List.mem_range.1 hi; omega), all_range_eq l1 l2 k hc1.1 hc2.1] at h1
  have hgd := run_eqGuard_agg (P := P) w' .neq t x y c1.toArray c2.toArray hg
  have hr := run_neq_struct (P := P) w' t c1.toArray c2.toArray
  rw [q1, q2] at hr hgd
  rw [show (10000 : Nat) = 9999 + 1 from rfl, h1] at hr
  simp only [execOp, Ex, Ey, q1, q2, Sem.run_bind, hgd, hr, Result.andThen_ok, Sem.run_pure]
end
end Go.Proofs.Ytcmgpkibjdbonaa
set_option maxHeartbeats 8000000
set_option maxRecDepth 100000
namespace Go.Proofs.Ytcmgpkibjdbonaa
open Go Go.RowKit
end Go.Proofs.Ytcmgpkibjdbonaa
set_option maxHeartbeats 16000000
set_option maxRecDepth 100000
namespace Go.Proofs.Ytcmgpkibjdbonaa
open Go Go.RowKit
theorem good_parts {p : Pfx} (h : goodP p = true) : 0 ≤ p.n ∧ p.n ≤ 256 ∧ cutL p.l p.n.toNat = p.l := by
  unfold goodP at h
  simp only [Bool.and_eq_true, decide_eq_true_eq, beq_iff_eq] at h
  exact ⟨h.1, h.2.1, h.2.2⟩
theorem good_cut {l : List UInt8} (hl : l.length = 32) {n : Nat} (hn : n ≤ 256) : goodP ⟨(n : Nat), cutL l n⟩ = true := by
  unfold goodP
  have h2 : cutL (cutL l n) n = cutL l n := cut_eq (cutL_len l n hl hn) hl hn (fun i hi => by rw [cut_bit l hl n i hn, if_pos hi])
  have e : (((n : Nat) : Int)).toNat = n := Int.toNat_natCast n
  show (decide (0 ≤ ((n : Nat) : Int)) && (decide (((n : Nat) : Int) ≤ 256) && (cutL (cutL l n) ((n : Nat) : Int).toNat == cutL l n))) = true
  rw [e, h2, beq_self_eq_true, decide_eq_true (by omega), decide_eq_true (by omega)]; rfl
theorem join_good {l : List Itm} (h0 : 0 < l.length) (hr : RiseI l) (hok : ∀ x ∈ l, x.ok) (hg : ∀ x ∈ l, goodI x = true) : goodP (joinF l.length l).p = true := by
  obtain ⟨a, b⟩ := join_pfx l.length l h0 (Nat.le_refl _) hr hok
  by_cases h1 : l.length = 1
  · rw [a h1]
    have := hg _ (List.getElem_mem h0)
    unfold goodI at this
    simp only [Bool.and_eq_true] at this
    exact this.1
  · obtain ⟨b1, b2⟩ := b (by omega)
    have hc := (spl_ok hr hok (by omega)).1
    show goodP ⟨(joinF l.length l).n, (joinF l.length l).l⟩ = true
    rw [b1, b2]
    exact good_cut (hok _ (List.getElem_mem h0)).1 (by omega)
def covI : Nat → List (List UInt8) → List Itm → List Itm × List Itm
  | 0, _, _ => ([], [])
  | k + 1, ls, l => if l = [] then ([], []) else if ls.any (hasP (joinF l.length l).p) = false then ([joinF l.length l], []) else if l.length = 1 then ([], l)
    else ((covI k ls (l.take (splI l))).1 ++ (covI k ls (l.drop (splI l))).1, (covI k ls (l.take (splI l))).2 ++ (covI k ls (l.drop (splI l))).2)
end Go.Proofs.Ytcmgpkibjdbonaa
set_option maxHeartbeats 16000000
set_option maxRecDepth 100000
namespace Go.Proofs.Ytcmgpkibjdbonaa
open Go Go.RowKit
theorem filter_leafI (z : Itm) (l : List Lef) : (l.map leafI).filter (eqv (ltCI ordI) z) = (l.filter (eqv (ltCL ordL) ⟨z.l, [], 0⟩)).map leafI := by
  rw [List.filter_map]
  rfl
theorem itms_srt (l : List Lef) : itmsL (srtL l) = itmsL l := by
  refine (sortS_of woI (sortS_srt woI _) ?_)
  refine CE.trans (fun z => ?_) (sortS_ce woI _)
  rw [filter_leafI, filter_leafI, (sortS_ce woL l) ⟨z.l, [], 0⟩]; rfl
theorem itms_map (l : List Lef) : itmsL l = (srtL l).map leafI := by
  rw [← itms_srt]
  refine sortS_id woI ?_
  unfold Srt
  rw [List.pairwise_map]
  exact sortS_srt woL l
theorem openF_mem : ∀ (k : Nat) (ls : List (List UInt8)) (l : List Lef), ∀ x ∈ (openF k ls l).2, x ∈ l
  | 0, ls, l, x, h => by cases h
  | k + 1, ls, l, x, h => by
    unfold openF at h
    by_cases hn : l = []
    · rw [if_pos hn] at h; cases h
    rw [if_neg hn] at h
    by_cases hh : ls.any (hasP (joinF l.length (l.map leafI)).p) = false
    · rw [if_pos hh] at h; cases h
    rw [if_neg hh] at h
    by_cases h1 : l.length = 1
    · rw [if_pos h1] at h; exact h
    rw [if_neg h1] at h
    rcases List.mem_append.1 h with h | h
    · exact List.mem_of_mem_take (openF_mem k ls _ x h)
    · exact List.mem_of_mem_drop (openF_mem k ls _ x h)
end Go.Proofs.Ytcmgpkibjdbonaa
set_option maxHeartbeats 16000000
set_option maxRecDepth 100000
namespace Go.Proofs.Ytcmgpkibjdbonaa
open Go Go.RowKit
structure Stp where
  same : List Itm
  old : List Lef
  new : List Lef
def Stp.A (s : Stp) : AV := .agg [.sl 66 (s.same.map Itm.A), .sl 65 (s.old.map Lef.A), .sl 65 (s.new.map Lef.A)]
def Stp.R (s : Stp) : AV := .agg [.sl 66 (s.same.map Itm.R), .sl 65 (s.old.map Lef.A), .sl 65 (s.new.map Lef.A)]
structure Stp.ok (s : Stp) : Prop where
  same : ∀ x ∈ s.same, x.ok
  old : ∀ x ∈ s.old, x.ok
  new : ∀ x ∈ s.new, x.ok
/-- The items of parts and leaves, by rising prefixes. -/
def topU (same : List Itm) (l : List Lef) : List Itm := srtI (same ++ itmsL l)
/-- Does a step lead from one sum to another one: the error. -/
def stE (fr to : List UInt8) (s : Stp) : Int :=
  if 500 < s.old.length ∨ 500 < s.new.length then 2
  else if s.same.length = 1 ∧ s.old.length = 0 ∧ 0 < s.new.length then 3
  else if chkI (topU s.same s.old) ≠ 0 then chkI (topU s.same s.old)
  else if chkI (topU s.same s.new) ≠ 0 then chkI (topU s.same s.new)
  else if topS (topU s.same s.old) = fr ∧ topS (topU s.same s.new) = to then 0 else 11
theorem itmsL_len (l : List Lef) : (itmsL l).length = l.length := by unfold itmsL; rw [srtI_len, List.length_map]
theorem itmsL_ok {l : List Lef} (h : ∀ x ∈ l, x.ok) : ∀ x ∈ itmsL l, x.ok := fun x hx => by
  obtain ⟨y, hy, rfl⟩ := List.mem_map.1 (srtI_mem.1 hx)
  exact leafI_ok y (h y hy)
theorem topU_ok {same : List Itm} {l : List Lef} (hs : ∀ x ∈ same, x.ok) (h : ∀ x ∈ l, x.ok) : ∀ x ∈ topU same l, x.ok := fun x hx => by
  rcases List.mem_append.1 (srtI_mem.1 hx) with hx | hx
  · exact hs x hx
  · exact itmsL_ok h x hx
theorem topU_len (same : List Itm) (l : List Lef) : (topU same l).length = same.length + l.length := by unfold topU; rw [srtI_len, List.length_append, itmsL_len]
theorem fl_two {α : Type} (a b : List α) : [a, b].flatten = a ++ b := by simp
theorem fl_one {α : Type} (a : List α) : [a].flatten = a := by simp
theorem slabels_spec (l : List Lef) (hl : l.length ≤ 100000) : Spec Try.prog 73 [.sl 1 [.sl 65 (l.map Lef.A)]] [] (fun v os => v = .sl 32 ((l.map Lef.l).map labA) ∧ os = []) := by
  refine spec_of TtOk [] Try.func73 rfl Try.ntmps73 (by kernel_rfl) rfl rfl (fun C => ?_) rfl
  have h1 : Spec Try.prog 144 [.sl 1 [.sl 65 (l.map Lef.A)]] [] (fun v os => v = .sl 65 (l.map Lef.A) ∧ os = []) := by
    have := concatL_spec [l] (show 1 ≤ 100000 by decide) (by rw [fl_one]; exact hl)
    rw [fl_one] at this
    exact this
  repeat' (first | refine Awp.seq ?_ | refine Awp.block ?_ | refine Awp.region ?_ | (refine Ops.nil ?_; show Awp _ _ _ _ _) | refine o_len rfl TtOk rfl rfl rfl (fun _ => ?_) | (refine o_calm rfl TtOk rfl rfl rfl ?_ (fun _ => ?_); first | exact True.intro | exact ⟨rfl, rfl, rfl, rfl⟩ | exact ⟨rfl, True.intro⟩ | exact ⟨rfl, rfl⟩ | exact ⟨rfl, rfl, rfl⟩ | exact rfl | exact ⟨fun h0 => by cases h0, rfl⟩ | exact (fun h0 => by cases h0) | exact ⟨rfl, by omega⟩ | exact ⟨Nat.succ_ne_zero _, rfl⟩ | omega) | (refine o_call0 rfl (h1) ⟨SLe.of_eq rfl, True.intro⟩ rfl ?_; rintro _ _ ⟨rfl, rfl⟩; refine ⟨rfl, ?_⟩))
  refine Awp.loop (fun q : Nat × Value => ⟨20, [(9, .i .i64 q.1), (8, .i .i64 l.length), (7, .sl 65 (l.map Lef.A)), (3, .own 17 q.2)], [(17, .row q.2 24 32 (((l.take q.1).map Lef.l).map labA))]⟩) (fun q => q.1 ≤ l.length) (fun q => l.length - q.1) [] (0, .slice none 0 0) (Nat.zero_le _) ?_ ?_
  · exact ⟨rfl, ⟨sle_i rfl, sle_i rfl, sle_sl rfl, sle_nilown, True.intro⟩, HLe.none .nil⟩
  rintro ⟨i, v⟩ hi
  dsimp only at hi ⊢
  by_cases hlt : i < l.length
  · have hi1 : ((i : Int) + 1 = ((i + 1 : Nat) : Int)) := by omega
    have hst : (l.take (i + 1)).map Lef.l = (l.take i).map Lef.l ++ [l[i].l] := by rw [List.take_succ_eq_append_getElem hlt, List.map_append]; rfl
    have hln : ((l.take i).map Lef.l).length ≤ 100000 := by rw [List.length_map, List.length_take]; omega
    clear h1
    generalize (l.take i).map Lef.l = a at *
    repeat' (first | refine Awp.seq ?_ | refine Awp.block ?_ | refine Awp.region ?_ | (refine Ops.nil ?_; show Awp _ _ _ _ _) | (refine Ops.nil ?_; show Exists _) | (refine Awp.skip ?_; show Awp _ _ _ _ _) | (refine o_add rfl rfl rfl rfl ?_ ?_; omega) | (refine o_calm rfl TtOk rfl rfl rfl ?_ (fun _ => ?_); first | exact True.intro | exact ⟨rfl, rfl, rfl, rfl⟩ | exact ⟨rfl, True.intro⟩ | exact ⟨rfl, rfl⟩ | exact ⟨rfl, rfl, rfl⟩ | exact rfl | exact ⟨fun h0 => by cases h0, rfl⟩ | exact (fun h0 => by cases h0) | exact ⟨rfl, by omega⟩ | exact ⟨Nat.succ_ne_zero _, rfl⟩ | omega) | refine o_alloc (d := 5) rfl TtOk rfl rfl rfl (fun b5 => ?_) | refine o_store TtOk rfl rfl rfl rfl rfl rfl rfl ⟨rfl, rfl⟩ rfl rfl rfl rfl rfl ?_ | (refine o_index rfl TtOk rfl rfl rfl rfl rfl rfl ?_ (getq_nat ?_) ?_; omega; omega) | refine o_buildSlice TtOk rfl rfl rfl rfl rfl rfl rfl rfl rfl rfl rfl (by repeat' (first | exact True.intro | exact rfl | refine ⟨?_, ?_⟩)) (fun _ => ?_) | (refine o_append TtOk rfl rfl rfl rfl rfl rfl rfl rfl rfl (by first | exact True.intro | exact rfl) rfl rfl (fun _ => rfl) ?_ ?_ (fun _ => ?_); ((repeat' (first | rw [List.length_append] | rw [List.length_map] | rw [List.length_cons] | rw [List.length_nil] | rw [List.length_take] | rw [List.length_drop])) <;> omega); ((repeat' (first | rw [List.length_append] | rw [List.length_map] | rw [List.length_cons] | rw [List.length_nil] | rw [List.length_take] | rw [List.length_drop])) <;> omega)) | (refine a_condP rfl (fun hc => ?_) (fun hc => ?_)) <;> (try (exfalso; omega)))
    all_goals exact ⟨(i + 1, _), [], hlt, by show l.length - (i + 1) < l.length - i; omega, rfl, ⟨sle_i hi1, sle_i rfl, sle_sl rfl, sle_own, True.intro⟩, HLe.cons 17 rfl (HOLe.row (by rw [hst, List.map_append]; rfl)) .nil⟩
  · have hie : i = l.length := by omega
    subst hie
    rw [List.take_length]
    repeat' (first | refine Awp.seq ?_ | refine Awp.region ?_ | (refine Ops.nil ?_; show Awp _ _ _ _ _) | (refine Awp.exit ?_; show Awp _ _ _ _ _) | (refine Awp.ret ?_; show endK _ _ _ _ _) | (refine o_calm rfl TtOk rfl rfl rfl ?_ (fun _ => ?_); first | exact True.intro | exact ⟨rfl, rfl, rfl, rfl⟩ | exact ⟨rfl, True.intro⟩ | exact ⟨rfl, rfl⟩ | exact ⟨rfl, rfl, rfl⟩ | exact rfl | exact ⟨fun h0 => by cases h0, rfl⟩ | exact (fun h0 => by cases h0) | exact ⟨rfl, by omega⟩ | exact ⟨Nat.succ_ne_zero _, rfl⟩ | omega) | (refine a_condP rfl (fun hc => ?_) (fun hc => ?_)) <;> (try (exfalso; omega)))
    all_goals
      refine end_tmp rfl rfl rfl [17] [] (CLe.fz ?_) .nil ⟨rfl, rfl⟩ _ (.inl rfl)
      exact .head _
theorem top19_spec (same : List Itm) (l : List Lef) (hs : same.length ≤ 50000) (hl : l.length ≤ 50000) (hok : ∀ x ∈ same, x.ok) (hlo : ∀ x ∈ l, x.ok) : Spec Try.prog 82 [.sl 66 (same.map Itm.A), .sl 65 (l.map Lef.A)] [] (fun v os => v = .tup [labA (topS (topU same l)), .i .i64 (chkI (topU same l))] ∧ os = []) := by
  refine spec_of TtOk [] Try.func82 rfl Try.ntmps82 (by kernel_rfl) rfl rfl (fun C => ?_) rfl
  have h1 := of_spec l (by omega) hlo
  have hlen : (same ++ itmsL l).length ≤ 100000 := by rw [List.length_append, itmsL_len]; omega
  have h2 : Spec Try.prog 97 [.sl 1 [.sl 66 (same.map Itm.A), .sl 66 ((itmsL l).map Itm.A)]] [] (fun v os => v = .sl 66 ((same ++ itmsL l).map Itm.A) ∧ os = []) := by
    have := concatI_spec [same, itmsL l] (show 2 ≤ 100000 by decide) (by rw [fl_two]; exact hlen)
    rw [fl_two] at this
    exact this
  have h3 := sorted_spec (same ++ itmsL l) hlen
  have h4 := top_spec (topU same l) (by rw [topU_len]; omega) (topU_ok hok hlo)
  rw [show srtI (same ++ itmsL l) = topU same l from rfl] at h3
  have ht := topS_len (topU same l) (topU_ok hok hlo)
  generalize topS (topU same l) = ts at *
  generalize topU same l = U at *
  generalize same ++ itmsL l = V at *
  generalize itmsL l = I at *
  repeat' (first | (refine o_freezeR 9 9 rfl rfl rfl ?_) | refine Awp.seq ?_ | refine Awp.region ?_ | (refine Ops.nil ?_; show Awp _ _ _ _ _) | (refine Awp.ret ?_; show endK _ _ _ _ _) | (refine o_calm rfl TtOk rfl rfl rfl ?_ (fun _ => ?_); first | exact True.intro | exact ⟨rfl, rfl, rfl, rfl⟩ | exact ⟨rfl, True.intro⟩ | exact ⟨rfl, rfl⟩ | exact ⟨rfl, rfl, rfl⟩ | exact rfl | exact ⟨fun h0 => by cases h0, rfl⟩ | exact (fun h0 => by cases h0) | exact ⟨rfl, by omega⟩ | exact ⟨Nat.succ_ne_zero _, rfl⟩ | omega) | refine o_alloc (d := 4) rfl TtOk rfl rfl rfl (fun b4 => ?_) | refine o_store TtOk rfl rfl rfl rfl rfl rfl rfl ⟨rfl, rfl⟩ rfl rfl rfl rfl rfl ?_ | refine o_buildSlice (d := 9) TtOk rfl rfl rfl rfl rfl rfl rfl rfl rfl rfl rfl (by repeat' (first | exact True.intro | exact rfl | refine ⟨?_, ?_⟩)) (fun v9 => ?_) | (refine o_call0 rfl (h1) ⟨SLe.of_eq rfl, True.intro⟩ rfl ?_; rintro _ _ ⟨rfl, rfl⟩; refine ⟨rfl, ?_⟩) | (refine o_call0 rfl (h2) ⟨SLe.of_eq rfl, True.intro⟩ rfl ?_; rintro _ _ ⟨rfl, rfl⟩; refine ⟨rfl, ?_⟩) | (refine o_call0 rfl (h3) ⟨SLe.of_eq rfl, True.intro⟩ rfl ?_; rintro _ _ ⟨rfl, rfl⟩; refine ⟨rfl, ?_⟩) | (refine o_call0 rfl (h4) ⟨SLe.of_eq rfl, True.intro⟩ rfl ?_; rintro _ _ ⟨rfl, rfl⟩; refine ⟨rfl, ?_⟩))
  all_goals
    refine end_all [] [] (.tup [labA ts, .i .i64 (chkI U)]) rfl ?_ ?_ (rle_tup2 (CLe.of_eq rfl) (CLe.of_eq rfl) rfl rfl) .nil ⟨rfl, rfl⟩ _ (.inl rfl)
    · repeat' (first | exact True.intro | exact rfl | refine ⟨?_, ?_⟩)
    · exact ⟨trivial, trivial, trivial⟩
theorem scheck_spec (fr to : List UInt8) (s : Stp) (hs : s.same.length ≤ 50000) (ho : s.old.length ≤ 50000) (hn : s.new.length ≤ 50000) (hok : s.ok) (hf : fr.length = 32) (ht : to.length = 32) : Spec Try.prog 25 [labA fr, labA to, s.A] [] (fun v os => v = .i .i64 (stE fr to s) ∧ os = []) := by
  obtain ⟨same, old, new⟩ := s
  obtain ⟨o1, o2, o3⟩ := hok
  dsimp only at hs ho hn o1 o2 o3
  have h1 := top19_spec same old hs ho o1 o2
  have h2 := top19_spec same new hs hn o1 o3
  have hE : stE fr to ⟨same, old, new⟩ = (if 500 < old.length ∨ 500 < new.length then 2 else if same.length = 1 ∧ old.length = 0 ∧ 0 < new.length then 3 else if chkI (topU same old) ≠ 0 then chkI (topU same old) else if chkI (topU same new) ≠ 0 then chkI (topU same new) else if topS (topU same old) = fr ∧ topS (topU same new) = to then 0 else 11) := rfl
  rw [hE]
  clear hE
  show Spec Try.prog 25 [labA fr, labA to, .agg [.sl 66 (same.map Itm.A), .sl 65 (old.map Lef.A), .sl 65 (new.map Lef.A)]] [] _
  generalize topS (topU same old) = t1 at *
  generalize topS (topU same new) = t2 at *
  generalize chkI (topU same old) = c1 at *
  generalize chkI (topU same new) = c2 at *
  refine spec_of TtOk [] Try.func25 rfl Try.ntmps25 (by kernel_rfl) rfl rfl (fun C => ?_) rfl
  by_cases hb : 500 < old.length ∨ 500 < new.length
  · rw [if_pos hb]
    repeat' (first | refine Awp.seq ?_ | refine Awp.region ?_ | (refine Ops.nil ?_; show Awp _ _ _ _ _) | (refine Awp.ret ?_; show endK _ _ _ _ _) | refine o_noF rfl rfl rfl ?_ | refine o_len rfl TtOk rfl rfl rfl (fun _ => ?_) | (refine o_calm rfl TtOk rfl rfl rfl ?_ (fun _ => ?_); first | exact True.intro | exact ⟨rfl, rfl, rfl, rfl⟩ | exact ⟨rfl, True.intro⟩ | exact ⟨rfl, rfl⟩ | exact ⟨rfl, rfl, rfl⟩ | exact rfl | exact ⟨fun h0 => by cases h0, rfl⟩ | exact (fun h0 => by cases h0) | exact ⟨rfl, by omega⟩ | exact ⟨Nat.succ_ne_zero _, rfl⟩ | omega) | refine o_box (d := 3) rfl rfl rfl rfl (fun b3 => ?_) | refine o_box (d := 4) rfl rfl rfl rfl (fun b4 => ?_) | refine o_box (d := 5) rfl rfl rfl rfl (fun b5 => ?_) | (fail_if_success (refine o_isLit rfl (by first | exact .inl rfl | exact .inr rfl) ?_)); (refine o_splitP rfl rfl (fun hc => ?_) (fun hc => ?_) <;> try (exfalso; omega)) | refine a_condT rfl ?_ | (refine a_condP rfl (fun hc => ?_) (fun hc => ?_)) <;> (try (exfalso; omega)))
    all_goals exact end_tmp rfl rfl rfl [] [] (CLe.of_eq rfl) .nil ⟨rfl, rfl⟩ _ (.inl rfl)
  rw [if_neg hb]
  by_cases h3 : same.length = 1 ∧ old.length = 0 ∧ 0 < new.length
  · rw [if_pos h3]
    repeat' (first | refine Awp.seq ?_ | refine Awp.region ?_ | (refine Ops.nil ?_; show Awp _ _ _ _ _) | (refine Awp.skip ?_; show Awp _ _ _ _ _) | (refine Awp.ret ?_; show endK _ _ _ _ _) | refine o_len rfl TtOk rfl rfl rfl (fun _ => ?_) | (refine o_calm rfl TtOk rfl rfl rfl ?_ (fun _ => ?_); first | exact True.intro | exact ⟨rfl, rfl, rfl, rfl⟩ | exact ⟨rfl, True.intro⟩ | exact ⟨rfl, rfl⟩ | exact ⟨rfl, rfl, rfl⟩ | exact rfl | exact ⟨fun h0 => by cases h0, rfl⟩ | exact (fun h0 => by cases h0) | exact ⟨rfl, by omega⟩ | exact ⟨Nat.succ_ne_zero _, rfl⟩ | omega) | refine o_box (d := 3) rfl rfl rfl rfl (fun b3 => ?_) | refine o_box (d := 4) rfl rfl rfl rfl (fun b4 => ?_) | refine o_box (d := 5) rfl rfl rfl rfl (fun b5 => ?_) | (fail_if_success (refine o_isLit rfl (by first | exact .inl rfl | exact .inr rfl) ?_)); (refine o_splitP rfl rfl (fun hc => ?_) (fun hc => ?_) <;> try (exfalso; omega)) | (refine a_condP rfl (fun hc => ?_) (fun hc => ?_)) <;> (try (exfalso; omega)))
    all_goals exact end_tmp rfl rfl rfl [] [] (CLe.of_eq rfl) .nil ⟨rfl, rfl⟩ _ (.inl rfl)
  rw [if_neg h3]
  by_cases hc1 : c1 ≠ 0
  · rw [if_pos hc1]
    clear h2
    repeat' (first | refine Awp.seq ?_ | refine Awp.region ?_ | (refine Ops.nil ?_; show Awp _ _ _ _ _) | (refine Awp.skip ?_; show Awp _ _ _ _ _) | (refine Awp.ret ?_; show endK _ _ _ _ _) | refine o_noT rfl rfl rfl ?_ | refine o_len rfl TtOk rfl rfl rfl (fun _ => ?_) | (refine o_calm rfl TtOk rfl rfl rfl ?_ (fun _ => ?_); first | exact True.intro | exact ⟨rfl, rfl, rfl, rfl⟩ | exact ⟨rfl, True.intro⟩ | exact ⟨rfl, rfl⟩ | exact ⟨rfl, rfl, rfl⟩ | exact rfl | exact ⟨fun h0 => by cases h0, rfl⟩ | exact (fun h0 => by cases h0) | exact ⟨rfl, by omega⟩ | exact ⟨Nat.succ_ne_zero _, rfl⟩ | omega) | refine o_alloc (d := 7) rfl TtOk rfl rfl rfl (fun b7 => ?_) | refine o_box (d := 3) rfl rfl rfl rfl (fun b3 => ?_) | refine o_box (d := 4) rfl rfl rfl rfl (fun b4 => ?_) | refine o_box (d := 5) rfl rfl rfl rfl (fun b5 => ?_) | refine o_store TtOk rfl rfl rfl rfl rfl rfl rfl ⟨rfl, rfl⟩ rfl rfl rfl rfl rfl ?_ | (fail_if_success (refine o_isLit rfl (by first | exact .inl rfl | exact .inr rfl) ?_)); (refine o_splitP rfl rfl (fun hc => ?_) (fun hc => ?_) <;> try (exfalso; omega)) | refine a_condF rfl ?_ | (refine a_condP rfl (fun hc => ?_) (fun hc => ?_)) <;> (try (exfalso; omega)) | (refine a_condN rfl (fun hc => ?_) (fun hc => ?_)) <;> (try (exfalso; omega)) | (refine o_call0 rfl (h1) ⟨SLe.of_eq rfl, SLe.of_eq rfl, True.intro⟩ rfl ?_; rintro _ _ ⟨rfl, rfl⟩; refine ⟨rfl, ?_⟩))
    all_goals exact end_tmp rfl rfl rfl [] [] (CLe.of_eq rfl) .nil ⟨rfl, rfl⟩ _ (.inl rfl)
  rw [if_neg hc1]
  have hc1 := Decidable.not_not.1 hc1
  subst hc1
  by_cases hc2 : c2 ≠ 0
  · rw [if_pos hc2]
    repeat' (first | refine Awp.seq ?_ | refine Awp.region ?_ | (refine Ops.nil ?_; show Awp _ _ _ _ _) | (refine Awp.skip ?_; show Awp _ _ _ _ _) | (refine Awp.ret ?_; show endK _ _ _ _ _) | refine o_noT rfl rfl rfl ?_ | refine o_len rfl TtOk rfl rfl rfl (fun _ => ?_) | (refine o_calm rfl TtOk rfl rfl rfl ?_ (fun _ => ?_); first | exact True.intro | exact ⟨rfl, rfl, rfl, rfl⟩ | exact ⟨rfl, True.intro⟩ | exact ⟨rfl, rfl⟩ | exact ⟨rfl, rfl, rfl⟩ | exact rfl | exact ⟨fun h0 => by cases h0, rfl⟩ | exact (fun h0 => by cases h0) | exact ⟨rfl, by omega⟩ | exact ⟨Nat.succ_ne_zero _, rfl⟩ | omega) | refine o_alloc (d := 7) rfl TtOk rfl rfl rfl (fun b7 => ?_) | refine o_alloc (d := 9) rfl TtOk rfl rfl rfl (fun b9 => ?_) | refine o_box (d := 3) rfl rfl rfl rfl (fun b3 => ?_) | refine o_box (d := 4) rfl rfl rfl rfl (fun b4 => ?_) | refine o_box (d := 5) rfl rfl rfl rfl (fun b5 => ?_) | refine o_store TtOk rfl rfl rfl rfl rfl rfl rfl ⟨rfl, rfl⟩ rfl rfl rfl rfl rfl ?_ | (fail_if_success (refine o_isLit rfl (by first | exact .inl rfl | exact .inr rfl) ?_)); (refine o_splitP rfl rfl (fun hc => ?_) (fun hc => ?_) <;> try (exfalso; omega)) | refine a_condF rfl ?_ | (refine a_condP rfl (fun hc => ?_) (fun hc => ?_)) <;> (try (exfalso; omega)) | (refine a_condN rfl (fun hc => ?_) (fun hc => ?_)) <;> (try (exfalso; omega)) | (refine o_call0 rfl (h1) ⟨SLe.of_eq rfl, SLe.of_eq rfl, True.intro⟩ rfl ?_; rintro _ _ ⟨rfl, rfl⟩; refine ⟨rfl, ?_⟩) | (refine o_call0 rfl (h2) ⟨SLe.of_eq rfl, SLe.of_eq rfl, True.intro⟩ rfl ?_; rintro _ _ ⟨rfl, rfl⟩; refine ⟨rfl, ?_⟩))
    all_goals exact end_tmp rfl rfl rfl [] [] (CLe.of_eq rfl) .nil ⟨rfl, rfl⟩ _ (.inl rfl)
  rw [if_neg hc2]
  have hc2 := Decidable.not_not.1 hc2
  subst hc2
  have hx : (!(fr == fr)) = false := by rw [beq_self_eq_true]; rfl
  have hy : (!(to == to)) = false := by rw [beq_self_eq_true]; rfl
  by_cases e1 : t1 = fr
  · subst e1
    by_cases e2 : t2 = to
    · subst e2
      rw [if_pos ⟨rfl, rfl⟩]
      repeat' (first | refine Awp.seq ?_ | refine Awp.region ?_ | (refine Ops.nil ?_; show Awp _ _ _ _ _) | (refine Awp.skip ?_; show Awp _ _ _ _ _) | (refine Awp.ret ?_; show endK _ _ _ _ _) | refine o_noT rfl rfl rfl ?_ | refine o_len rfl TtOk rfl rfl rfl (fun _ => ?_) | (refine o_calm rfl TtOk rfl rfl rfl ?_ (fun _ => ?_); first | exact True.intro | exact ⟨rfl, rfl, rfl, rfl⟩ | exact ⟨rfl, True.intro⟩ | exact ⟨rfl, rfl⟩ | exact ⟨rfl, rfl, rfl⟩ | exact rfl | exact ⟨fun h0 => by cases h0, rfl⟩ | exact (fun h0 => by cases h0) | exact ⟨rfl, by omega⟩ | exact ⟨Nat.succ_ne_zero _, rfl⟩ | omega) | refine o_alloc (d := 7) rfl TtOk rfl rfl rfl (fun b7 => ?_) | refine o_alloc (d := 9) rfl TtOk rfl rfl rfl (fun b9 => ?_) | refine o_box (d := 3) rfl rfl rfl rfl (fun b3 => ?_) | refine o_box (d := 4) rfl rfl rfl rfl (fun b4 => ?_) | refine o_box (d := 5) rfl rfl rfl rfl (fun b5 => ?_) | refine o_store TtOk rfl rfl rfl rfl rfl rfl rfl ⟨rfl, rfl⟩ rfl rfl rfl rfl rfl ?_ | (fail_if_success (refine o_isLit rfl (by first | exact .inl rfl | exact .inr rfl) ?_)); (refine o_splitP rfl rfl (fun hc => ?_) (fun hc => ?_) <;> try (exfalso; omega)) | refine a_condF rfl ?_ | (refine a_condP rfl (fun hc => ?_) (fun hc => ?_)) <;> (try (exfalso; omega)) | (refine o_neArr8 TtOk rfl rfl rfl rfl rfl rfl (by kernel_rfl) ?_; first | rw [hx] | rw [hy]) | (refine o_call0 rfl (h1) ⟨SLe.of_eq rfl, SLe.of_eq rfl, True.intro⟩ rfl ?_; rintro _ _ ⟨rfl, rfl⟩; refine ⟨rfl, ?_⟩) | (refine o_call0 rfl (h2) ⟨SLe.of_eq rfl, SLe.of_eq rfl, True.intro⟩ rfl ?_; rintro _ _ ⟨rfl, rfl⟩; refine ⟨rfl, ?_⟩))
      all_goals exact end_tmp rfl rfl rfl [] [] (CLe.of_eq rfl) .nil ⟨rfl, rfl⟩ _ (.inl rfl)
    · rw [if_neg (fun h => e2 h.2)]
      have hz : (!(t2 == to)) = true := by rw [beq_eq_false_iff_ne.2 e2]; rfl
      repeat' (first | refine Awp.seq ?_ | refine Awp.region ?_ | (refine Ops.nil ?_; show Awp _ _ _ _ _) | (refine Awp.skip ?_; show Awp _ _ _ _ _) | (refine Awp.ret ?_; show endK _ _ _ _ _) | refine o_noT rfl rfl rfl ?_ | refine o_len rfl TtOk rfl rfl rfl (fun _ => ?_) | (refine o_calm rfl TtOk rfl rfl rfl ?_ (fun _ => ?_); first | exact True.intro | exact ⟨rfl, rfl, rfl, rfl⟩ | exact ⟨rfl, True.intro⟩ | exact ⟨rfl, rfl⟩ | exact ⟨rfl, rfl, rfl⟩ | exact rfl | exact ⟨fun h0 => by cases h0, rfl⟩ | exact (fun h0 => by cases h0) | exact ⟨rfl, by omega⟩ | exact ⟨Nat.succ_ne_zero _, rfl⟩ | omega) | refine o_alloc (d := 7) rfl TtOk rfl rfl rfl (fun b7 => ?_) | refine o_alloc (d := 9) rfl TtOk rfl rfl rfl (fun b9 => ?_) | refine o_box (d := 3) rfl rfl rfl rfl (fun b3 => ?_) | refine o_box (d := 4) rfl rfl rfl rfl (fun b4 => ?_) | refine o_box (d := 5) rfl rfl rfl rfl (fun b5 => ?_) | refine o_store TtOk rfl rfl rfl rfl rfl rfl rfl ⟨rfl, rfl⟩ rfl rfl rfl rfl rfl ?_ | (fail_if_success (refine o_isLit rfl (by first | exact .inl rfl | exact .inr rfl) ?_)); (refine o_splitP rfl rfl (fun hc => ?_) (fun hc => ?_) <;> try (exfalso; omega)) | refine a_condT rfl ?_ | refine a_condF rfl ?_ | (refine a_condP rfl (fun hc => ?_) (fun hc => ?_)) <;> (try (exfalso; omega)) | (refine o_neArr8 TtOk rfl rfl rfl rfl rfl rfl (by kernel_rfl) ?_; first | rw [hz] | rw [hx]) | (refine o_call0 rfl (h1) ⟨SLe.of_eq rfl, SLe.of_eq rfl, True.intro⟩ rfl ?_; rintro _ _ ⟨rfl, rfl⟩; refine ⟨rfl, ?_⟩) | (refine o_call0 rfl (h2) ⟨SLe.of_eq rfl, SLe.of_eq rfl, True.intro⟩ rfl ?_; rintro _ _ ⟨rfl, rfl⟩; refine ⟨rfl, ?_⟩))
      all_goals exact end_tmp rfl rfl rfl [] [] (CLe.of_eq rfl) .nil ⟨rfl, rfl⟩ _ (.inl rfl)
  · rw [if_neg (fun h => e1 h.1)]
    have hz : (!(t1 == fr)) = true := by rw [beq_eq_false_iff_ne.2 e1]; rfl
    repeat' (first | refine Awp.seq ?_ | refine Awp.region ?_ | (refine Ops.nil ?_; show Awp _ _ _ _ _) | (refine Awp.skip ?_; show Awp _ _ _ _ _) | (refine Awp.ret ?_; show endK _ _ _ _ _) | refine o_noT rfl rfl rfl ?_ | refine o_noF rfl rfl rfl ?_ | refine o_len rfl TtOk rfl rfl rfl (fun _ => ?_) | (refine o_calm rfl TtOk rfl rfl rfl ?_ (fun _ => ?_); first | exact True.intro | exact ⟨rfl, rfl, rfl, rfl⟩ | exact ⟨rfl, True.intro⟩ | exact ⟨rfl, rfl⟩ | exact ⟨rfl, rfl, rfl⟩ | exact rfl | exact ⟨fun h0 => by cases h0, rfl⟩ | exact (fun h0 => by cases h0) | exact ⟨rfl, by omega⟩ | exact ⟨Nat.succ_ne_zero _, rfl⟩ | omega) | refine o_alloc (d := 7) rfl TtOk rfl rfl rfl (fun b7 => ?_) | refine o_alloc (d := 9) rfl TtOk rfl rfl rfl (fun b9 => ?_) | refine o_box (d := 3) rfl rfl rfl rfl (fun b3 => ?_) | refine o_box (d := 4) rfl rfl rfl rfl (fun b4 => ?_) | refine o_box (d := 5) rfl rfl rfl rfl (fun b5 => ?_) | refine o_store TtOk rfl rfl rfl rfl rfl rfl rfl ⟨rfl, rfl⟩ rfl rfl rfl rfl rfl ?_ | (fail_if_success (refine o_isLit rfl (by first | exact .inl rfl | exact .inr rfl) ?_)); (refine o_splitP rfl rfl (fun hc => ?_) (fun hc => ?_) <;> try (exfalso; omega)) | refine a_condT rfl ?_ | refine a_condF rfl ?_ | (refine a_condP rfl (fun hc => ?_) (fun hc => ?_)) <;> (try (exfalso; omega)) | (refine o_neArr8 TtOk rfl rfl rfl rfl rfl rfl (by kernel_rfl) ?_; rw [hz]) | (refine o_call0 rfl (h1) ⟨SLe.of_eq rfl, SLe.of_eq rfl, True.intro⟩ rfl ?_; rintro _ _ ⟨rfl, rfl⟩; refine ⟨rfl, ?_⟩) | (refine o_call0 rfl (h2) ⟨SLe.of_eq rfl, SLe.of_eq rfl, True.intro⟩ rfl ?_; rintro _ _ ⟨rfl, rfl⟩; refine ⟨rfl, ?_⟩))
    all_goals exact end_tmp rfl rfl rfl [] [] (CLe.of_eq rfl) .nil ⟨rfl, rfl⟩ _ (.inl rfl)
end Go.Proofs.Ytcmgpkibjdbonaa
