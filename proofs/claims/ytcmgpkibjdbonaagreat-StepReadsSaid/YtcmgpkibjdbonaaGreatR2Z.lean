/- ref03.Bytes by rules. -/
import Derived.Test.YtcmgpkibjdbonaaGreatC1Z
import Derived.Test.YtcmgpkibjdbonaaGreatSA4Z
import Derived.Test.YtcmgpkibjdbonaaGreatV26Z
import Derived.Test.YtcmgpkibjdbonaaGreatV31Z
set_option maxHeartbeats 8000000
set_option maxRecDepth 100000
namespace Go.Proofs.YtcmgpkibjdbonaaGreat
open Go Go.RowKit
end Go.Proofs.YtcmgpkibjdbonaaGreat
set_option maxHeartbeats 4000000
namespace Go.Proofs.YtcmgpkibjdbonaaGreat
open Go Go.RowKit
def okW (x : Int) : Prop := 0 ≤ x ∧ x < 4294967296
def bvW (x : Int) : BitVec 32 := BitVec.ofInt 32 x
def ivW (v : BitVec 32) : Int := ((v.toNat : Nat) : Int)
def be4R (a b c d : UInt8) : Int := w32 (w32 (w32 (shl32 (w32 (w32 (a.toNat : Int) * 1)) 24 + shl32 (w32 (w32 (b.toNat : Int) * 1)) 16) + shl32 (w32 (w32 (c.toNat : Int) * 1)) 8) + w32 (d.toNat : Int))
def rnR (v : V8) (k w : Int) : V8 :=
  let p := w32 (w32 (w32 (w32 (v.h + xorI (xorI (rotr v.e 6) (rotr v.e 11)) (rotr v.e 25)) + orI (andI v.e v.f) (andI (w32 (4294967295 - v.e)) v.g)) + k) + w)
  ⟨w32 (w32 (p + xorI (xorI (rotr v.a 2) (rotr v.a 13)) (rotr v.a 22)) + orI (orI (andI v.a v.b) (andI v.a v.c)) (andI v.b v.c)), v.a, v.b, v.c, w32 (v.d + p), v.e, v.f, v.g⟩
def V8.okE (v : V8) : Prop := okW v.e ∧ okW v.d ∧ okW v.c ∧ okW v.b ∧ okW v.a
structure V8.ok (v : V8) : Prop where
  a : okW v.a
  b : okW v.b
  c : okW v.c
  d : okW v.d
  e : okW v.e
end Go.Proofs.YtcmgpkibjdbonaaGreat
set_option maxHeartbeats 16000000
set_option maxRecDepth 100000
namespace Go.Proofs.YtcmgpkibjdbonaaGreat
open Go Go.RowKit
section
variable {m : OM} {P : Program} {T : List (Nat × TI)} {C : Ctx} {ops : Array Oper} {l : List Oper} {K : St → Prop} {n : Nat} {sl : List (Nat × AV)} {hp : List (Nat × HO)} {d : Nat} {ty : Nat} {pos : String} {aft : Array Edge} {gd : Option (Nat × Bool)}
end
end Go.Proofs.YtcmgpkibjdbonaaGreat
set_option maxHeartbeats 16000000
set_option maxRecDepth 100000
namespace Go.Proofs.YtcmgpkibjdbonaaGreat
open Go Go.RowKit
end Go.Proofs.YtcmgpkibjdbonaaGreat
set_option maxHeartbeats 32000000
set_option maxRecDepth 100000
namespace Go.Proofs.YtcmgpkibjdbonaaGreat
open Go Go.RowKit
end Go.Proofs.YtcmgpkibjdbonaaGreat
set_option maxHeartbeats 8000000
set_option maxRecDepth 100000
namespace Go.Proofs.YtcmgpkibjdbonaaGreat
open Go Go.RowKit
/-- An item as the document's. -/
def Itm.R (x : Itm) : AV := .agg [.i .i64 x.n, labA x.l, labA x.s, .i .i64 x.t]
def egt (U : Nat) : Nat → List UInt8
  | 0 => []
  | i + 1 => UInt8.ofNat (U / 256 ^ i % 256) :: egt U i
def u64N (n : Int) : Nat := (IntKind.u64.wrap n).toNat
theorem rgood15_spec (x : Itm) (hx : x.ok) : Spec Tryz.prog 121 [x.R] [] (fun v os => v = .b (goodI x) ∧ os = []) := by
  have h1 := rgood1_spec x.n x.l hx.1
  have hg : goodI x = (goodP ⟨x.n, x.l⟩ && (decide (0 ≤ x.t) && decide (x.t ≤ 1073741824))) := rfl
  rw [hg]
  generalize goodP ⟨x.n, x.l⟩ = g at h1
  obtain ⟨n, l, s, t⟩ := x
  dsimp only at h1 ⊢
  show Spec Tryz.prog 121 [.agg [.i .i64 n, labA l, labA s, .i .i64 t]] [] _
  refine spec_of TtOk [] Tryz.func121 rfl Tryz.ntmps121 (by kernel_rfl) rfl rfl (fun C => ?_) rfl
  cases g
  · repeat' (first | refine Awp.seq ?_ | refine Awp.region ?_ | (refine Ops.nil ?_; show Awp _ _ _ _ _) | (refine Awp.ret ?_; show endK _ _ _ _ _) | refine o_noT rfl rfl rfl ?_ | (refine o_calm rfl TtOk rfl rfl rfl ?_ (fun _ => ?_); exact nd) | refine o_box (d := 1) rfl rfl rfl rfl (fun b1 => ?_) | (refine o_call0 rfl (h1) ⟨SLe.of_eq rfl, SLe.of_eq rfl, True.intro⟩ rfl ?_; rintro _ _ ⟨rfl, rfl⟩; refine ⟨rfl, ?_⟩))
    exact end_tmp rfl rfl rfl [] [] (CLe.of_eq rfl) .nil ⟨rfl, rfl⟩ _ (.inl rfl)
  · by_cases ht : 0 ≤ t
    · rw [decide_eq_true ht]
      repeat' (first | refine Awp.seq ?_ | refine Awp.region ?_ | (refine Ops.nil ?_; show Awp _ _ _ _ _) | (refine Awp.ret ?_; show endK _ _ _ _ _) | (refine o_calm rfl TtOk rfl rfl rfl ?_ (fun _ => ?_); exact nd) | refine o_box (d := 1) rfl rfl rfl rfl (fun b1 => ?_) | (fail_if_success (refine o_isLit rfl (by first | exact .inl rfl | exact .inr rfl) ?_)); (refine o_splitP rfl rfl (fun hc => ?_) (fun hc => ?_) <;> try (exfalso; omega)) | (refine o_call0 rfl (h1) ⟨SLe.of_eq rfl, SLe.of_eq rfl, True.intro⟩ rfl ?_; rintro _ _ ⟨rfl, rfl⟩; refine ⟨rfl, ?_⟩))
      exact end_tmp rfl rfl rfl [] [] (CLe.of_eq rfl) .nil ⟨rfl, rfl⟩ _ (.inl rfl)
    · rw [decide_eq_false ht]
      repeat' (first | refine Awp.seq ?_ | refine Awp.region ?_ | (refine Ops.nil ?_; show Awp _ _ _ _ _) | (refine Awp.ret ?_; show endK _ _ _ _ _) | refine o_noT rfl rfl rfl ?_ | (refine o_calm rfl TtOk rfl rfl rfl ?_ (fun _ => ?_); exact nd) | refine o_box (d := 1) rfl rfl rfl rfl (fun b1 => ?_) | (fail_if_success (refine o_isLit rfl (by first | exact .inl rfl | exact .inr rfl) ?_)); (refine o_splitP rfl rfl (fun hc => ?_) (fun hc => ?_) <;> try (exfalso; omega)) | (refine o_call0 rfl (h1) ⟨SLe.of_eq rfl, SLe.of_eq rfl, True.intro⟩ rfl ?_; rintro _ _ ⟨rfl, rfl⟩; refine ⟨rfl, ?_⟩))
      exact end_tmp rfl rfl rfl [] [] (CLe.of_eq rfl) .nil ⟨rfl, rfl⟩ _ (.inl rfl)
def overR (a b : Itm) : Bool := decide (a.n ≤ b.n) && decide ((comL a.l b.l : Nat) ≥ a.n)
theorem told15_spec (x : Itm) : Spec Tryz.prog 74 [x.A] [] (fun v os => v = x.R ∧ os = []) := by
  obtain ⟨n, l, s, t⟩ := x
  show Spec Tryz.prog 74 [.agg [pfxA n l, labA s, .i .i64 t]] [] (fun v os => v = .agg [.i .i64 n, labA l, labA s, .i .i64 t] ∧ os = [])
  refine spec_of TtOk [] Tryz.func74 rfl Tryz.ntmps74 (by kernel_rfl) rfl rfl (fun C => ?_) rfl
  repeat' (first | refine Awp.seq ?_ | refine Awp.region ?_ | (refine Ops.nil ?_; show Awp _ _ _ _ _) | (refine Awp.ret ?_; show endK _ _ _ _ _) | (refine o_calm rfl TtOk rfl rfl rfl ?_ (fun _ => ?_); exact nd) | refine o_alloc (d := 2) rfl TtOk rfl rfl rfl (fun b2 => ?_) | refine o_box (d := 1) rfl rfl rfl rfl (fun b1 => ?_) | refine o_store TtOk rfl rfl rfl rfl rfl rfl rfl ⟨rfl, rfl⟩ rfl rfl rfl rfl rfl ?_ | refine o_build TtOk rfl rfl rfl rfl rfl rfl (by repeat' (first | exact True.intro | exact rfl | refine ⟨?_, ?_⟩)) ?_)
  refine end_all [] [] (.agg [.i .i64 n, labA l, labA s, .i .i64 t]) rfl ?_ ?_ (rle_one (CLe.of_eq rfl) rfl) .nil ⟨rfl, rfl⟩ _ (.inl rfl)
  · repeat' (first | exact True.intro | exact rfl | refine ⟨?_, ?_⟩)
  · exact ⟨trivial, trivial⟩
end Go.Proofs.YtcmgpkibjdbonaaGreat
set_option maxHeartbeats 8000000
set_option maxRecDepth 100000
namespace Go.Proofs.YtcmgpkibjdbonaaGreat
open Go Go.RowKit
/-- The least that is in common with the first one, of so many. -/
def minC (l : List Itm) (i : Nat) : Nat := if i = 0 then 256 else comL (l.headD default).l ((l.getD (i - 1) default).l)
theorem filt_lo {l : List Itm} (hr : RiseI l) (hok : ∀ x ∈ l, x.ok) (h2 : 2 ≤ l.length) : l.filter (fun x => bitL x.l (frkI l) == 0) = l.take (splI l) ∧ l.filter (fun x => !(bitL x.l (frkI l) == 0)) = l.drop (splI l) := by
  obtain ⟨c1, c2, c3, c4⟩ := spl_ok hr hok h2
  have hlo : ∀ x ∈ l.take (splI l), bitL x.l (frkI l) = 0 := fun x hx => by
    obtain ⟨j, hj, rfl⟩ := List.getElem_of_mem hx
    rw [List.length_take] at hj
    rw [List.getElem_take]
    exact spl_lo j (by omega) (by omega)
  have hhi : ∀ x ∈ l.drop (splI l), bitL x.l (frkI l) = 1 := fun x hx => by
    obtain ⟨j, hj, rfl⟩ := List.getElem_of_mem hx
    rw [List.length_drop] at hj
    rw [List.getElem_drop]
    exact spl_hi hr hok h2 _ (by omega) (by omega)
  generalize frkI l = n at *
  generalize splI l = s at *
  have e : l = l.take s ++ l.drop s := (List.take_append_drop s l).symm
  constructor
  · conv => lhs; rw [e]
    rw [List.filter_append, List.filter_eq_self.2 (fun x hx => by rw [hlo x hx]; rfl), List.filter_eq_nil_iff.2 (fun x hx => by rw [hhi x hx]; decide), List.append_nil]
  · conv => lhs; rw [e]
    rw [List.filter_append, List.filter_eq_nil_iff.2 (fun x hx => by rw [hlo x hx]; decide), List.filter_eq_self.2 (fun x hx => by rw [hhi x hx]; rfl), List.nil_append]
theorem filt_succ {α : Type} (p : α → Bool) (l : List α) {i : Nat} (hi : i < l.length) : (l.take (i + 1)).filter p = if p l[i] = true then (l.take i).filter p ++ [l[i]] else (l.take i).filter p := by
  rw [List.take_succ_eq_append_getElem hi, List.filter_append]
  by_cases h : p l[i] = true
  · rw [if_pos h, List.filter_cons_of_pos h, List.filter_nil]
  · rw [if_neg h, List.filter_cons_of_neg h, List.filter_nil, List.append_nil]
end Go.Proofs.YtcmgpkibjdbonaaGreat
set_option maxHeartbeats 8000000
set_option maxRecDepth 100000
namespace Go.Proofs.YtcmgpkibjdbonaaGreat
open Go Go.RowKit
end Go.Proofs.YtcmgpkibjdbonaaGreat
set_option maxHeartbeats 8000000
set_option maxRecDepth 100000
namespace Go.Proofs.YtcmgpkibjdbonaaGreat
open Go Go.RowKit
/-- What is still to come of an insertion. -/
def insT (x : Itm) (done : Bool) (l : List Itm) : List Itm := if done = true then l else insS (ltCI ordI) x l
theorem told16_spec (l : List Itm) (n : Nat) (_hl : l.length ≤ 100000) (hn : n ≤ 100000) (hln : l.length ≤ n) : Spec Tryz.prog 71 [.sl 66 (l.map Itm.A), .i .i64 n] [] (fun v os => v = .sl 66 (l.map Itm.R) ∧ os = []) := by
  refine spec_of TtOk [] Tryz.func71 rfl Tryz.ntmps71 (by kernel_rfl) rfl rfl (fun C => ?_) rfl
  repeat' (first | refine Awp.seq ?_ | refine Awp.block ?_ | refine Awp.region ?_ | (refine Ops.nil ?_; show Awp _ _ _ _ _) | (refine o_calm rfl TtOk rfl rfl rfl ?_ (fun _ => ?_); exact nd) | refine o_buildSlice (d := 7) TtOk rfl rfl rfl rfl rfl rfl rfl rfl rfl rfl rfl (by repeat' (first | exact True.intro | exact rfl | refine ⟨?_, ?_⟩)) (fun v7 => ?_))
  refine Awp.loop (fun q : Nat × Value => ⟨28, [(6, .i .i64 q.1), (1, .i .i64 n), (0, .sl 66 (l.map Itm.A)), (5, .own 7 q.2)], [(7, .row q.2 62 66 ((l.take q.1).map Itm.R))]⟩) (fun q => q.1 ≤ l.length) (fun q => l.length - q.1) [] (0, v7) (Nat.zero_le _) ?_ ?_
  · exact ⟨rfl, ⟨sle_i rfl, sle_i rfl, sle_sl rfl, sle_own, True.intro⟩, HLe.cons 7 rfl (HOLe.refl _) .nil⟩
  rintro ⟨i, v⟩ hi
  dsimp only at hi ⊢
  by_cases hlt : i < l.length
  · have h1 := told15_spec l[i]
    have hi1 : ((i : Int) + 1 = ((i + 1 : Nat) : Int)) := by omega
    have hst : l.take (i + 1) = l.take i ++ [l[i]] := List.take_succ_eq_append_getElem hlt
    have hln : (l.take i).length = i := by rw [List.length_take]; omega
    generalize l.take i = T at hst hln ⊢
    repeat' (first | refine Awp.seq ?_ | refine Awp.block ?_ | refine Awp.region ?_ | (refine Ops.nil ?_; show Awp _ _ _ _ _) | (refine Ops.nil ?_; show Exists _) | (refine Awp.skip ?_; show Awp _ _ _ _ _) | (refine o_add rfl rfl rfl rfl ?_ ?_; omega) | refine o_len rfl TtOk rfl rfl rfl (fun _ => ?_) | (refine o_calm rfl TtOk rfl rfl rfl ?_ (fun _ => ?_); exact nd) | (refine o_index rfl TtOk rfl rfl rfl rfl rfl rfl ?_ (getq_nat ?_) ?_; omega; omega) | refine o_buildSlice TtOk rfl rfl rfl rfl rfl rfl rfl rfl rfl rfl rfl (by repeat' (first | exact True.intro | exact rfl | refine ⟨?_, ?_⟩)) (fun _ => ?_) | (refine o_append TtOk rfl rfl rfl rfl rfl rfl rfl rfl rfl (by first | exact True.intro | exact rfl) rfl rfl (fun _ => rfl) ?_ ?_ (fun _ => ?_); ((repeat' (first | rw [List.length_append] | rw [List.length_map] | rw [List.length_cons] | rw [List.length_nil] | rw [List.length_take] | rw [List.length_drop])) <;> omega); ((repeat' (first | rw [List.length_append] | rw [List.length_map] | rw [List.length_cons] | rw [List.length_nil] | rw [List.length_take] | rw [List.length_drop])) <;> omega)) | (fail_if_success (refine o_isLit rfl (by first | exact .inl rfl | exact .inr rfl) ?_)); (refine o_splitP rfl rfl (fun hc => ?_) (fun hc => ?_) <;> try (exfalso; omega)) | (refine a_condP rfl (fun hc => ?_) (fun hc => ?_)) <;> (try (exfalso; omega)) | (refine o_call0 rfl (h1) ⟨SLe.of_eq rfl, True.intro⟩ rfl ?_; rintro _ _ ⟨rfl, rfl⟩; refine ⟨rfl, ?_⟩))
    refine ⟨(i + 1, _), [], hlt, by show l.length - (i + 1) < l.length - i; omega, rfl, ⟨sle_i hi1, sle_i rfl, sle_sl rfl, sle_own, True.intro⟩, HLe.cons 7 rfl (HOLe.row ?_) .nil⟩
    rw [hst, List.map_append]; rfl
  · have hie : i = l.length := by omega
    subst hie
    rw [List.take_length]
    repeat' (first | refine Awp.seq ?_ | refine Awp.region ?_ | (refine Ops.nil ?_; show Awp _ _ _ _ _) | (refine Awp.exit ?_; show Awp _ _ _ _ _) | (refine Awp.ret ?_; show endK _ _ _ _ _) | refine o_noT rfl rfl rfl ?_ | refine o_len rfl TtOk rfl rfl rfl (fun _ => ?_) | (refine o_calm rfl TtOk rfl rfl rfl ?_ (fun _ => ?_); exact nd) | (fail_if_success (refine o_isLit rfl (by first | exact .inl rfl | exact .inr rfl) ?_)); (refine o_splitP rfl rfl (fun hc => ?_) (fun hc => ?_) <;> try (exfalso; omega)) | refine a_condF rfl ?_)
    all_goals
      refine end_tmp rfl rfl rfl [7] [] (CLe.fz ?_) .nil ⟨rfl, rfl⟩ _ (.inl rfl)
      exact .head _
theorem leaves16_spec (l : List Lef) (hl : l.length ≤ 100000) : Spec Tryz.prog 12 [.sl 65 (l.map Lef.A)] [] (fun v os => v = .sl 65 (l.map Lef.A) ∧ os = []) := by
  refine spec_of TtOk [] Tryz.func12 rfl Tryz.ntmps12 (by kernel_rfl) rfl rfl (fun C => ?_) rfl
  repeat' (first | refine Awp.seq ?_ | refine Awp.block ?_ | refine Awp.region ?_ | (refine Ops.nil ?_; show Awp _ _ _ _ _) | refine o_len rfl TtOk rfl rfl rfl (fun _ => ?_) | (refine o_calm rfl TtOk rfl rfl rfl ?_ (fun _ => ?_); exact nd) | refine o_buildSlice (d := 6) TtOk rfl rfl rfl rfl rfl rfl rfl rfl rfl rfl rfl (by repeat' (first | exact True.intro | exact rfl | refine ⟨?_, ?_⟩)) (fun v6 => ?_))
  refine Awp.loop (fun q : Nat × Value => ⟨19, [(9, .i .i64 q.1), (8, .i .i64 l.length), (7, .sl 65 (l.map Lef.A)), (3, .own 6 q.2)], [(6, .row q.2 58 65 ((l.take q.1).map Lef.A))]⟩) (fun q => q.1 ≤ l.length) (fun q => l.length - q.1) [] (0, v6) (Nat.zero_le _) ?_ ?_
  · exact ⟨rfl, ⟨sle_i rfl, sle_i rfl, sle_sl rfl, sle_own, True.intro⟩, HLe.cons 6 rfl (HOLe.refl _) .nil⟩
  rintro ⟨i, v⟩ hi
  dsimp only at hi ⊢
  by_cases hlt : i < l.length
  · have hi1 : ((i : Int) + 1 = ((i + 1 : Nat) : Int)) := by omega
    have hst : l.take (i + 1) = l.take i ++ [l[i]] := List.take_succ_eq_append_getElem hlt
    have hln : (l.take i).length = i := by rw [List.length_take]; omega
    generalize l.take i = T at hst hln ⊢
    repeat' (first | refine Awp.seq ?_ | refine Awp.block ?_ | refine Awp.region ?_ | (refine Ops.nil ?_; show Awp _ _ _ _ _) | (refine Ops.nil ?_; show Exists _) | (refine Awp.skip ?_; show Awp _ _ _ _ _) | (refine o_add rfl rfl rfl rfl ?_ ?_; omega) | (refine o_calm rfl TtOk rfl rfl rfl ?_ (fun _ => ?_); exact nd) | refine o_alloc (d := 5) rfl TtOk rfl rfl rfl (fun b5 => ?_) | refine o_store TtOk rfl rfl rfl rfl rfl rfl rfl ⟨rfl, rfl⟩ rfl rfl rfl rfl rfl ?_ | (refine o_index rfl TtOk rfl rfl rfl rfl rfl rfl ?_ (getq_nat ?_) ?_; omega; omega) | refine o_buildSlice TtOk rfl rfl rfl rfl rfl rfl rfl rfl rfl rfl rfl (by repeat' (first | exact True.intro | exact rfl | refine ⟨?_, ?_⟩)) (fun _ => ?_) | (refine o_append TtOk rfl rfl rfl rfl rfl rfl rfl rfl rfl (by first | exact True.intro | exact rfl) rfl rfl (fun _ => rfl) ?_ ?_ (fun _ => ?_); ((repeat' (first | rw [List.length_append] | rw [List.length_map] | rw [List.length_cons] | rw [List.length_nil] | rw [List.length_take] | rw [List.length_drop])) <;> omega); ((repeat' (first | rw [List.length_append] | rw [List.length_map] | rw [List.length_cons] | rw [List.length_nil] | rw [List.length_take] | rw [List.length_drop])) <;> omega)) | (refine a_condP rfl (fun hc => ?_) (fun hc => ?_)) <;> (try (exfalso; omega)))
    refine ⟨(i + 1, _), [], hlt, by show l.length - (i + 1) < l.length - i; omega, rfl, ⟨sle_i hi1, sle_i rfl, sle_sl rfl, sle_own, True.intro⟩, HLe.cons 6 rfl (HOLe.row ?_) .nil⟩
    rw [hst, List.map_append]; rfl
  · have hie : i = l.length := by omega
    subst hie
    rw [List.take_length]
    repeat' (first | refine Awp.seq ?_ | refine Awp.region ?_ | (refine Ops.nil ?_; show Awp _ _ _ _ _) | (refine Awp.exit ?_; show Awp _ _ _ _ _) | (refine Awp.ret ?_; show endK _ _ _ _ _) | (refine o_calm rfl TtOk rfl rfl rfl ?_ (fun _ => ?_); exact nd) | (refine a_condP rfl (fun hc => ?_) (fun hc => ?_)) <;> (try (exfalso; omega)))
    refine end_tmp rfl rfl rfl [6] [] (CLe.fz ?_) .nil ⟨rfl, rfl⟩ _ (.inl rfl)
    exact .head _
end Go.Proofs.YtcmgpkibjdbonaaGreat
set_option maxHeartbeats 8000000
set_option maxRecDepth 100000
namespace Go.Proofs.YtcmgpkibjdbonaaGreat
open Go Go.RowKit
def itmC_ (x : Itm) : List Value := Value.int .i64 x.n :: (x.l.map cellB ++ (x.s.map cellB ++ [Value.int .i64 x.t]))
def eqI (x y : Itm) : Bool := x.n == y.n && (x.l == y.l && (x.s == y.s && x.t == y.t))
theorem eqI_iff {x y : Itm} : eqI x y = true ↔ x = y := by
  obtain ⟨n, l, s, t⟩ := x
  obtain ⟨n2, l2, s2, t2⟩ := y
  unfold eqI
  simp only [Bool.and_eq_true, beq_iff_eq, Itm.mk.injEq]
theorem itm_cells {w : World} {F : Nat → Prop} {x : Itm} {v : Value} (h : repV w F x.R v) : x.ok ∧ v = .agg (itmC_ x).toArray := by
  obtain ⟨cs, hc, he⟩ := h
  simp only [Itm.R, labA, repC, repL] at hc
  obtain ⟨c0, cr, rfl, rfl, c1, c2, rfl, ⟨h1, h2⟩, c3, c4, rfl, ⟨h3, h4⟩, c5, c6, rfl, rfl, rfl⟩ := hc
  have e1 := bytes_cells x.l c1 h2
  have e2 := bytes_cells x.s c3 h4
  subst e1
  subst e2
  exact ⟨⟨by simpa using h1, by simpa using h3⟩, he⟩
theorem itm_eq0 (x y : Itm) (hx : x.ok) (hy : y.ok) (w : World) : (Op.equalIn 10000 62 (.agg (itmC_ x).toArray) (.agg (itmC_ y).toArray)).run Tryz.prog w = .ok (eqI x y) w := by
  have hS : Tryz.prog.underlying 62 = some (.struct (Tryz.prog.fieldsOf 62)) := by kernel_rfl
  have hh : Tryz.prog.stoodInHeld 62 = false := by kernel_rfl
  have hi : Tryz.prog.underlying 3 = some (.int .i64) := by kernel_rfl
  have hk : Tryz.prog.plainKey 3 = true := by kernel_rfl
  have hu8 : Tryz.prog.underlying 5 = some (.int .u8) := by kernel_rfl
  have hk8 : Tryz.prog.plainKey 5 = true := by kernel_rfl
  have hl : Tryz.prog.underlying 44 = some (.array 32 5) := by kernel_rfl
  have hsz := (tget_ok TtOk (show tget Tt 44 = some _ from rfl)).sizeRun w
  have hag : (isAgg 44).run Tryz.prog w = .ok true w := by
    unfold isAgg; simp only [Sem.run_bind, run_underlying hl, Result.andThen_ok, Sem.run_pure]
  have p0 : ∀ (z : Itm), (part 3 (itmC_ z).toArray 0).run Tryz.prog w = .ok (.int .i64 z.n) w := fun z => run_part_plain w hk rfl
  have pA : ∀ (z : Itm), z.ok → (part 44 (itmC_ z).toArray 1).run Tryz.prog w = .ok (.agg (z.l.map cellB).toArray) w := fun z hz => by
    have hx : ((itmC_ z).toArray.extract 1 (1 + 32)) = (z.l.map cellB).toArray := by
      rw [List.extract_toArray]
      congr 1
      unfold itmC_ List.extract
      rw [List.drop_succ_cons, List.drop_zero, show 1 + 32 - 1 = 32 from rfl, List.take_append_of_le_length (by rw [List.length_map, hz.1]; decide), List.take_of_length_le (by rw [List.length_map, hz.1]; decide)]
    unfold part
    simp only [Sem.run_bind, hag, Result.andThen_ok, if_true, hsz, Sem.run_pure]
    exact congrArg (fun q => Result.ok (Value.agg q) w) hx
  have pB : ∀ (z : Itm), z.ok → (part 44 (itmC_ z).toArray 33).run Tryz.prog w = .ok (.agg (z.s.map cellB).toArray) w := fun z hz => by
    have hx : ((itmC_ z).toArray.extract 33 (33 + 32)) = (z.s.map cellB).toArray := by
      rw [List.extract_toArray]
      congr 1
      unfold itmC_ List.extract
      rw [List.drop_succ_cons, List.drop_append_of_le_length (by rw [List.length_map, hz.1]; decide), List.drop_of_length_le (by rw [List.length_map, hz.1]; decide), List.nil_append, List.take_append_of_le_length (by rw [List.length_map, hz.2]; decide), List.take_of_length_le (by rw [List.length_map, hz.2]; decide)]
    unfold part
    simp only [Sem.run_bind, hag, Result.andThen_ok, if_true, hsz, Sem.run_pure]
    exact congrArg (fun q => Result.ok (Value.agg q) w) hx
  have pC : ∀ (z : Itm), z.ok → (part 3 (itmC_ z).toArray 65).run Tryz.prog w = .ok (.int .i64 z.t) w := fun z hz => run_part_plain w hk (by
    unfold itmC_
    rw [List.getElem?_toArray, List.getElem?_cons_succ, List.getElem?_append_right (by rw [List.length_map, hz.1]; decide), List.getElem?_append_right (by rw [List.length_map, List.length_map, hz.1, hz.2]; decide), List.length_map, List.length_map, hz.1, hz.2]; rfl)
  have p3 := fun a b : Int => run_equalIn_int (P := Tryz.prog) w 9998 3 .i64 .i64 a b hi
  have p4 : ∀ a b : List UInt8, a.length = 32 → b.length = 32 → (Op.equalIn (9998 + 1) 44 (.agg (a.map cellB).toArray) (.agg (b.map cellB).toArray)).run Tryz.prog w = .ok (a == b) w := fun a b ha hb => by
    obtain ⟨ie, hie, hies, _⟩ := (tget_ok TtOk (show tget Tt 5 = some _ from rfl)).inf
    have hco : Tryz.prog.cellsOf 5 = 1 := by unfold Program.cellsOf; rw [hie]; exact hies
    have h1 := run_equalIn_array (P := Tryz.prog) w 9998 (a.map cellB).toArray (b.map cellB).toArray hl hie
    have h2 := eqItems_bytes (P := Tryz.prog) (w := w) hu8 hk8 9997 a b (List.range 32) (fun i hi => by have := List.mem_range.1 hi; omega)
    rw [all_range_eq a b 32 ha hb] at h2
    rw [hco] at h1
    rw [h1]
    exact h2
  rw [run_equalIn_struct (P := Tryz.prog) w 9999 _ _ _ hS hh]
  unfold eqI
  simp only [Program.fieldsOf, Tryz.underlying62]
  simp only [Op.eqFields]
  rw [if_pos (by decide)]
  rw [Sem.run_bind, p0 x, Result.andThen_ok, Sem.run_bind, p0 y, Result.andThen_ok, Sem.run_bind, p3, Result.andThen_ok]
  generalize (x.n == y.n) = q0
  cases q0
  · simp only [Bool.not_false, if_true, Sem.run_pure, Bool.false_and]
    try rfl
  simp only [Bool.not_true, Bool.false_eq_true, if_false]
  rw [if_pos (by decide)]
  rw [Sem.run_bind, pA x hx, Result.andThen_ok, Sem.run_bind, pA y hy, Result.andThen_ok, Sem.run_bind, p4 _ _ hx.1 hy.1, Result.andThen_ok]
  generalize (x.l == y.l) = q
  cases q
  · simp only [Bool.not_false, if_true, Sem.run_pure, Bool.false_and]
    try rfl
  · simp only [Bool.not_true, Bool.false_eq_true, if_false]
    rw [if_pos (by decide)]
    rw [Sem.run_bind, pB x hx, Result.andThen_ok, Sem.run_bind, pB y hy, Result.andThen_ok, Sem.run_bind, p4 _ _ hx.2 hy.2, Result.andThen_ok]
    generalize (x.s == y.s) = r
    cases r
    · simp only [Bool.not_false, if_true, Sem.run_pure, Bool.false_and]
      try rfl
    · simp only [Bool.not_true, Bool.false_eq_true, if_false]
      rw [if_pos (by decide)]
      rw [Sem.run_bind, pC x hx, Result.andThen_ok, Sem.run_bind, pC y hy, Result.andThen_ok, Sem.run_bind, p3, Result.andThen_ok]
      generalize (x.t == y.t) = z
      cases z <;> rfl
theorem itm_neq (x y : Itm) (hx : x.ok) (hy : y.ok) (w : World) : (binOp .neq 62 (.agg (itmC_ x).toArray) (.agg (itmC_ y).toArray)).run Tryz.prog w = .ok (.bool (!(eqI x y))) w := by
  rw [run_neq_struct, itm_eq0 x y hx hy]; rfl
section
variable {m : OM} {C : Ctx} {ops : Array Oper} {l : List Oper} {K : St → Prop} {n : Nat} {sl : List (Nat × AV)} {hp : List (Nat × HO)} {d : Nat} {ty : Nat} {pos : String} {aft : Array Edge} {gd : Option (Nat × Bool)}
theorem o_neItm (hw : gval ops ⟨n, sl, hp⟩ gd = gwant gd) {u : Nat} {x y : Operand} {p q : Itm} (hx : ev ⟨n, sl, hp⟩ x = p.R) (hy : ev ⟨n, sl, hp⟩ y = q.R) (hd : Nat.blt d n = true)
    (h : Ops m Tryz.prog C ops l ⟨n, (d, .b (!(eqI p q))) :: sl, hp⟩ K) : Ops m Tryz.prog C ops (⟨some d, .binOp .neq 62 x y u, ty, pos, aft, gd⟩ :: l) ⟨n, sl, hp⟩ K := by
  refine Ops.by (d := some d) hw none okc_none hd rfl (fun ac w hs => ?_) h
  have Ex := ev_rep hs x
  have Ey := ev_rep hs y
  rw [hx] at Ex
  rw [hy] at Ey
  obtain ⟨l1, Ex⟩ := itm_cells Ex
  obtain ⟨l2, Ey⟩ := itm_cells Ey
  refine ⟨_, repV_b.2 rfl, fun w' _ => ?_⟩
  have hgd := run_eqGuard_agg (P := Tryz.prog) w' .neq 62 x y (itmC_ p).toArray (itmC_ q).toArray (by kernel_rfl)
  simp only [execOp, Ex, Ey, Sem.run_bind, hgd, itm_neq p q l1 l2, Result.andThen_ok, Sem.run_pure]
end
end Go.Proofs.YtcmgpkibjdbonaaGreat
set_option maxHeartbeats 8000000
set_option maxRecDepth 100000
namespace Go.Proofs.YtcmgpkibjdbonaaGreat
open Go Go.RowKit
section
variable {m : OM} {P : Program} {T : List (Nat × TI)} {C : Ctx} {ops : Array Oper} {l : List Oper} {K : St → Prop} {n : Nat} {sl : List (Nat × AV)} {hp : List (Nat × HO)} {d : Nat} {ty : Nat} {pos : String} {aft : Array Edge} {gd : Option (Nat × Bool)}
/-- != on arrays of bytes. -/
theorem o_neArr8 (hT : TTOk P T) (hw : gval ops ⟨n, sl, hp⟩ gd = gwant gd) {t u e k : Nat} {x y : Operand} {l1 l2 : List UInt8} {sz0 by0 by1 : Nat} {z0 z1 : AV}
    (hx : ev ⟨n, sl, hp⟩ x = .arr 1 k (l1.map byA)) (hy : ev ⟨n, sl, hp⟩ y = .arr 1 k (l2.map byA)) (ht : tget T t = some ⟨.array k e, sz0, by0, z0⟩) (he : tget T e = some ⟨.int .u8, 1, by1, z1⟩) (hd : Nat.blt d n = true) (hg : P.eqGuardType P.depth t = false)
    (h : Ops m P C ops l ⟨n, (d, .b (!(l1 == l2))) :: sl, hp⟩ K) : Ops m P C ops (⟨some d, .binOp .neq t x y u, ty, pos, aft, gd⟩ :: l) ⟨n, sl, hp⟩ K := by
  refine Ops.by (d := some d) hw none okc_none hd rfl (fun a w hs => ?_) h
  have Ex := ev_rep hs x
  have Ey := ev_rep hs y
  rw [hx] at Ex
  rw [hy] at Ey
  obtain ⟨c1, hc1, Ex⟩ := Ex
  obtain ⟨c2, hc2, Ey⟩ := Ey
  have Ex : a.eval x = .agg c1.toArray := Ex
  have Ey : a.eval y = .agg c2.toArray := Ey
  simp only [repC, List.length_map] at hc1 hc2
  have q1 := bytes_cells l1 c1 hc1.2
  have q2 := bytes_cells l2 c2 hc2.2
  have hu := tk_array (tget_ok hT ht)
  have hue := tk_int (tget_ok hT he)
  obtain ⟨ie, hie, hies, _⟩ := (tget_ok hT he).inf
  have hpk : P.plainKey e = true := by unfold Program.plainKey; rw [hue]
  have hco : P.cellsOf e = 1 := by unfold Program.cellsOf; rw [hie]; exact hies
  refine ⟨_, repV_b.2 rfl, fun w' _ => ?_⟩
  have h1 := run_equalIn_array (P := P) w' 9999 c1.toArray c2.toArray hu hie
  rw [hco, q1, q2, eqItems_bytes hue hpk 9998 l1 l2 (List.range k) (fun i hi => by have := List.mem_range.1 hi; omega), all_range_eq l1 l2 k hc1.1 hc2.1] at h1
  have hgd := run_eqGuard_agg (P := P) w' .neq t x y c1.toArray c2.toArray hg
  have hr := run_neq_struct (P := P) w' t c1.toArray c2.toArray
  rw [q1, q2] at hr hgd
  rw [show (10000 : Nat) = 9999 + 1 from rfl, h1] at hr
  simp only [execOp, Ex, Ey, q1, q2, Sem.run_bind, hgd, hr, Result.andThen_ok, Sem.run_pure]
end
end Go.Proofs.YtcmgpkibjdbonaaGreat
set_option maxHeartbeats 8000000
set_option maxRecDepth 100000
namespace Go.Proofs.YtcmgpkibjdbonaaGreat
open Go Go.RowKit
end Go.Proofs.YtcmgpkibjdbonaaGreat
set_option maxHeartbeats 16000000
set_option maxRecDepth 100000
namespace Go.Proofs.YtcmgpkibjdbonaaGreat
open Go Go.RowKit
theorem good_parts {p : Pfx} (h : goodP p = true) : 0 ≤ p.n ∧ p.n ≤ 256 ∧ cutL p.l p.n.toNat = p.l := by
  unfold goodP at h
  simp only [Bool.and_eq_true, decide_eq_true_eq, beq_iff_eq] at h
  exact ⟨h.1, h.2.1, h.2.2⟩
theorem good_cut {l : List UInt8} (hl : l.length = 32) {n : Nat} (hn : n ≤ 256) : goodP ⟨(n : Nat), cutL l n⟩ = true := by
  unfold goodP
  have h2 : cutL (cutL l n) n = cutL l n := cut_eq (cutL_len l n hl hn) hl hn (fun i hi => by rw [cut_bit l hl n i hn, if_pos hi])
  have e : (((n : Nat) : Int)).toNat = n := Int.toNat_natCast n
  show (decide (0 ≤ ((n : Nat) : Int)) && (decide (((n : Nat) : Int) ≤ 256) && (cutL (cutL l n) ((n : Nat) : Int).toNat == cutL l n))) = true
  rw [e, h2, beq_self_eq_true, decide_eq_true (by omega), decide_eq_true (by omega)]; rfl
theorem join_good {l : List Itm} (h0 : 0 < l.length) (hr : RiseI l) (hok : ∀ x ∈ l, x.ok) (hg : ∀ x ∈ l, goodI x = true) : goodP (joinF l.length l).p = true := by
  obtain ⟨a, b⟩ := join_pfx l.length l h0 (Nat.le_refl _) hr hok
  by_cases h1 : l.length = 1
  · rw [a h1]
    have := hg _ (List.getElem_mem h0)
    unfold goodI at this
    simp only [Bool.and_eq_true] at this
    exact this.1
  · obtain ⟨b1, b2⟩ := b (by omega)
    have hc := (spl_ok hr hok (by omega)).1
    show goodP ⟨(joinF l.length l).n, (joinF l.length l).l⟩ = true
    rw [b1, b2]
    exact good_cut (hok _ (List.getElem_mem h0)).1 (by omega)
def covI : Nat → List (List UInt8) → List Itm → List Itm × List Itm
  | 0, _, _ => ([], [])
  | k + 1, ls, l => if l = [] then ([], []) else if ls.any (hasP (joinF l.length l).p) = false then ([joinF l.length l], []) else if l.length = 1 then ([], l)
    else ((covI k ls (l.take (splI l))).1 ++ (covI k ls (l.drop (splI l))).1, (covI k ls (l.take (splI l))).2 ++ (covI k ls (l.drop (splI l))).2)
end Go.Proofs.YtcmgpkibjdbonaaGreat
set_option maxHeartbeats 16000000
set_option maxRecDepth 100000
namespace Go.Proofs.YtcmgpkibjdbonaaGreat
open Go Go.RowKit
theorem filter_leafI (z : Itm) (l : List Lef) : (l.map leafI).filter (eqv (ltCI ordI) z) = (l.filter (eqv (ltCL ordL) ⟨z.l, [], 0⟩)).map leafI := by
  rw [List.filter_map]
  rfl
theorem itms_srt (l : List Lef) : itmsL (srtL l) = itmsL l := by
  refine (sortS_of woI (sortS_srt woI _) ?_)
  refine CE.trans (fun z => ?_) (sortS_ce woI _)
  rw [filter_leafI, filter_leafI, (sortS_ce woL l) ⟨z.l, [], 0⟩]; rfl
theorem itms_map (l : List Lef) : itmsL l = (srtL l).map leafI := by
  rw [← itms_srt]
  refine sortS_id woI ?_
  unfold Srt
  rw [List.pairwise_map]
  exact sortS_srt woL l
theorem openF_mem : ∀ (k : Nat) (ls : List (List UInt8)) (l : List Lef), ∀ x ∈ (openF k ls l).2, x ∈ l
  | 0, ls, l, x, h => by cases h
  | k + 1, ls, l, x, h => by
    unfold openF at h
    by_cases hn : l = []
    · rw [if_pos hn] at h; cases h
    rw [if_neg hn] at h
    by_cases hh : ls.any (hasP (joinF l.length (l.map leafI)).p) = false
    · rw [if_pos hh] at h; cases h
    rw [if_neg hh] at h
    by_cases h1 : l.length = 1
    · rw [if_pos h1] at h; exact h
    rw [if_neg h1] at h
    rcases List.mem_append.1 h with h | h
    · exact List.mem_of_mem_take (openF_mem k ls _ x h)
    · exact List.mem_of_mem_drop (openF_mem k ls _ x h)
end Go.Proofs.YtcmgpkibjdbonaaGreat
