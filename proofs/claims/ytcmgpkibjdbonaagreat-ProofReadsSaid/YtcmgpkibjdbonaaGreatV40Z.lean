/- Room for more: cap and a cut of nil, append of so many zeros to nil, a cut of all of it (slices.Grow). -/
import Derived.Test.YtcmgpkibjdbonaaGreatV17Z
import Derived.Lib.AppendZeros
import Derived.Test.YtcmgpkibjdbonaaGreatSA4Z
import Derived.Test.YtcmgpkibjdbonaaGreatV31Z
import Derived.Test.YtcmgpkibjdbonaaGreatV30Z
import Derived.Test.YtcmgpkibjdbonaaGreatPF1Z
import Derived.Test.YtcmgpkibjdbonaaGreatPP1Z
import Derived.Test.YtcmgpkibjdbonaaGreatN2
import Derived.Test.YtcmgpkibjdbonaaGreatPF2Z
namespace Go.Proofs.YtcmgpkibjdbonaaGreat
open Go Go.RowKit
section
variable {m : OM} {P : Program} {T : List (Nat × TI)} {C : Ctx} {ops : Array Oper} {l : List Oper} {K : St → Prop} {n : Nat} {sl : List (Nat × AV)} {hp : List (Nat × HO)} {d : Nat} {ty : Nat} {pos : String} {aft : Array Edge} {gd : Option (Nat × Bool)}
end
end Go.Proofs.YtcmgpkibjdbonaaGreat
set_option maxHeartbeats 8000000
set_option maxRecDepth 100000
namespace Go.Proofs.YtcmgpkibjdbonaaGreat
open Go Go.RowKit
def iAl (sz : Nat) {α : Type} (f : α → AV) (l : List α) : AV := .sl sz (l.map f)
end Go.Proofs.YtcmgpkibjdbonaaGreat
set_option maxHeartbeats 16000000
set_option maxRecDepth 100000
namespace Go.Proofs.YtcmgpkibjdbonaaGreat
open Go Go.RowKit
structure Stp where
  same : List Itm
  old : List Lef
  new : List Lef
def Stp.A (s : Stp) : AV := .agg [.sl 66 (s.same.map Itm.A), .sl 65 (s.old.map Lef.A), .sl 65 (s.new.map Lef.A)]
def Stp.R (s : Stp) : AV := .agg [.sl 66 (s.same.map Itm.R), .sl 65 (s.old.map Lef.A), .sl 65 (s.new.map Lef.A)]
structure Stp.ok (s : Stp) : Prop where
  same : ∀ x ∈ s.same, x.ok
  old : ∀ x ∈ s.old, x.ok
  new : ∀ x ∈ s.new, x.ok
/-- The items of parts and leaves, by rising prefixes. -/
def topU (same : List Itm) (l : List Lef) : List Itm := srtI (same ++ itmsL l)
/-- Does a step lead from one sum to another one: the error. -/
def stE (fr to : List UInt8) (s : Stp) : Int :=
  if 500 < s.old.length ∨ 500 < s.new.length then 2
  else if s.same.length = 1 ∧ s.old.length = 0 ∧ 0 < s.new.length then 3
  else if chkI (topU s.same s.old) ≠ 0 then chkI (topU s.same s.old)
  else if chkI (topU s.same s.new) ≠ 0 then chkI (topU s.same s.new)
  else if topS (topU s.same s.old) = fr ∧ topS (topU s.same s.new) = to then 0 else 11
end Go.Proofs.YtcmgpkibjdbonaaGreat
set_option maxHeartbeats 16000000
set_option maxRecDepth 100000
namespace Go.Proofs.YtcmgpkibjdbonaaGreat
open Go Go.RowKit
/-- The two halves of leaves as they stood. -/
def hlA (L : List Lef) : List Lef := L.filter (fun x => bitL x.l (frkI (itmsL L)) == 0)
def hlB (L : List Lef) : List Lef := L.filter (fun x => !(bitL x.l (frkI (itmsL L)) == 0))
def hlf (L : List Lef) : List Itm := cvI (hlA L) [] ++ cvI (hlB L) []
end Go.Proofs.YtcmgpkibjdbonaaGreat
set_option maxHeartbeats 16000000
set_option maxRecDepth 100000
namespace Go.Proofs.YtcmgpkibjdbonaaGreat
open Go Go.RowKit
def stp0 : Stp := ⟨[], [], []⟩
/-- What step.Make makes: parts, leaves that were, that are; the error. -/
def lbs (gone : List (List UInt8)) (fresh : List Lef) : List (List UInt8) := gone ++ fresh.map Lef.l
def spD (cI : List Itm) (cT fresh : List Lef) : Prop := cI.length = 1 ∧ cT.length = 0 ∧ 0 < fresh.length
instance (cI : List Itm) (cT fresh : List Lef) : Decidable (spD cI cT fresh) := by unfold spD; exact inferInstance
def mkSm (L : List Lef) (cI : List Itm) (cT fresh : List Lef) : List Itm := if spD cI cT fresh then (if L.length = 1 then [] else hlf L) else cI
def mkOl (L : List Lef) (cI : List Itm) (cT fresh : List Lef) : List Lef := if spD cI cT fresh then (if L.length = 1 then L else cT) else cT
def mkNw (L : List Lef) (cI : List Itm) (cT fresh : List Lef) : List Lef := if spD cI cT fresh then (if L.length = 1 then fresh ++ [L.headD lef0] else fresh) else fresh
def smkT (S : List Itm) (O N : List Lef) : Stp × Int := if chkI (topU S (srtL N)) ≠ 0 then (stp0, chkI (topU S (srtL N))) else (⟨S, O, srtL N⟩, 0)
def smkF (L : List Lef) (gone : List (List UInt8)) (fresh : List Lef) (cI : List Itm) (cT : List Lef) : Stp × Int :=
  if gone.all (fun g => cT.any (fun x => x.l == g)) = false then (stp0, 7)
  else if cT.all (fun x => gone.any (fun y => x.l == y)) = false then (stp0, 8)
  else smkT (mkSm L cI cT fresh) (mkOl L cI cT fresh) (mkNw L cI cT fresh)
def smk (L : List Lef) (gone : List (List UInt8)) (fresh : List Lef) : Stp × Int :=
  if 500 < gone.length ∨ 500 < fresh.length then (stp0, 2)
  else if cvE L ≠ 0 then (stp0, cvE L)
  else smkF L gone fresh (cvI L (lbs gone fresh)) (cvT L (lbs gone fresh))
end Go.Proofs.YtcmgpkibjdbonaaGreat
set_option maxHeartbeats 4000000
namespace Go.Proofs.YtcmgpkibjdbonaaGreat
open Go Go.RowKit
/-- A reader that is well, with this still to come. -/
structure RS.at_ (r : RS) (t : List UInt8) : Prop where
  e : r.e = 0
  rest : r.rest = t
theorem at_step {s : List UInt8} {p n : Nat} {e : Int} {L t : List UInt8} (h : (RS.mk s p e).rest = L ++ t) (hn : n = L.length) : (RS.mk s (p + n) 0).at_ t := ⟨rfl, by
  rw [RS.rest_step]
  have h : s.drop p = L ++ t := h
  show (s.drop p).drop n = t
  rw [h, hn, List.drop_append_of_le_length (Nat.le_refl _), List.drop_length, List.nil_append]⟩
theorem at_num {r : RS} {n : Nat} {t : List UInt8} (hn : n < 9223372036854775808) (h : r.at_ (numBytes n ++ t)) : r.number.1 = n ∧ r.number.2.at_ t := by
  rw [RS.number_reads r h.e n hn t h.rest]
  obtain ⟨s, p, e⟩ := r
  exact ⟨rfl, at_step h.rest rfl⟩
theorem at_lab {r : RS} {l t : List UInt8} (hl : l.length = 32) (h : r.at_ (l ++ t)) : r.label.1 = l ∧ r.label.2.at_ t := by
  rw [RS.label_reads r h.e l hl t h.rest]
  obtain ⟨s, p, e⟩ := r
  exact ⟨rfl, at_step h.rest hl.symm⟩
theorem at_flag {r : RS} {c : Bool} {t : List UInt8} (h : r.at_ ((if c then 1 else 0) :: t)) : r.flag.1 = c ∧ r.flag.2.at_ t := by
  rw [RS.flag_reads r h.e c t h.rest]
  obtain ⟨s, p, e⟩ := r
  exact ⟨rfl, at_step (L := [if c then 1 else 0]) h.rest rfl⟩
theorem at_open {s : List UInt8} (h : s.length ≤ 65536) : (RS.open s).at_ s := by
  unfold RS.open
  rw [if_neg (by omega)]
  exact ⟨rfl, by unfold RS.rest; rw [List.drop_zero]⟩
theorem at_done {r : RS} (h : r.at_ []) : r.done = 0 := by
  unfold RS.done
  have h2 : r.s.length - r.p = 0 := by rw [← RS.rest_len, h.rest]; rfl
  rw [if_neg (by omega)]
  exact h.e
theorem put_num {s : WS} {n : Int} (h : 0 ≤ n) : s.number n = s.put (numBytes n.toNat) := by unfold WS.number; rw [if_neg (by omega)]
/-- An item's bytes. -/
def itmBy (x : Itm) : List UInt8 := ((numBytes x.n.toNat ++ x.l) ++ x.s) ++ numBytes x.t.toNat
def lefBy (x : Lef) : List UInt8 := (x.l ++ x.v) ++ numBytes x.t.toNat
theorem WS.itm_put {s : WS} {x : Itm} (hn : 0 ≤ x.n) (ht : 0 ≤ x.t) : s.itm x = s.put (itmBy x) := by
  unfold WS.itm
  rw [put_num hn, put_num ht]
  unfold WS.put itmBy
  simp only [List.append_assoc]
theorem WS.lef_put {s : WS} {x : Lef} (ht : 0 ≤ x.t) : s.lef x = s.put (lefBy x) := by
  unfold WS.lef
  rw [put_num ht]
  unfold WS.put lefBy
  simp only [List.append_assoc]
theorem itmBy_len {x : Itm} (hx : x.ok) (hn : x.n < 9223372036854775808) (ht : x.t < 9223372036854775808) (h0 : 0 ≤ x.n) (h1 : 0 ≤ x.t) : (itmBy x).length ≤ 82 := by
  have := WS.len_itm ⟨[], 0⟩ x hx hn ht
  rw [WS.itm_put h0 h1, WS.len_put] at this
  have e : (WS.mk [] 0).bs.length = 0 := rfl
  omega
theorem lefBy_len {x : Lef} (hx : x.ok) (ht : x.t < 9223372036854775808) (h1 : 0 ≤ x.t) : (lefBy x).length ≤ 73 := by
  have := WS.len_lef ⟨[], 0⟩ x hx ht
  rw [WS.lef_put h1, WS.len_put] at this
  have e : (WS.mk [] 0).bs.length = 0 := rfl
  omega
theorem at_itm {r : RS} {x : Itm} {t : List UInt8} (hx : x.ok) (hn : 0 ≤ x.n ∧ x.n < 9223372036854775808) (ht : 0 ≤ x.t ∧ x.t < 9223372036854775808) (h : r.at_ (itmBy x ++ t)) : r.itm.1 = x ∧ r.itm.2.at_ t := by
  unfold itmBy at h
  rw [List.append_assoc, List.append_assoc, List.append_assoc] at h
  obtain ⟨a1, a2⟩ := at_num (by omega) h
  obtain ⟨b1, b2⟩ := at_lab hx.1 a2
  obtain ⟨c1, c2⟩ := at_lab hx.2 b2
  obtain ⟨d1, d2⟩ := at_num (by omega) c2
  refine ⟨?_, d2⟩
  obtain ⟨n, l, s, tt⟩ := x
  show Itm.mk _ _ _ _ = _
  rw [a1, b1, c1, d1]
  dsimp only at hn ht ⊢
  rw [Int.toNat_of_nonneg hn.1, Int.toNat_of_nonneg ht.1]
theorem chkLf_t {x : Lef} (h : chkLf x = 0) : 0 ≤ x.t ∧ x.t ≤ 1073741824 := by unfold chkLf at h; split at h <;> omega
theorem lf_by {x : Lef} (hx : x.ok) (h : chkLf x = 0) : lfBy x = (0 :: lefBy x, 0) := by
  have ht := chkLf_t h
  have hl := lefBy_len hx (by omega) ht.1
  unfold lfBy lfW
  rw [if_neg (fun hh => hh h), WS.lef_put ht.1]
  have e : (w0.put [0]).put (lefBy x) = ⟨0 :: lefBy x, 0⟩ := rfl
  rw [e]
  unfold WS.done
  rw [if_neg (fun hh => hh rfl), if_neg (by rw [List.length_cons]; omega)]
theorem in_by {x y : Itm} (hx : x.ok) (hy : y.ok) (h : chkN x y = 0) : inBy x y = (1 :: (itmBy x ++ itmBy y), 0) ∧ nodRd (inBy x y).1 = (.inn x y, 0) := by
  have hg : goodI x = true ∧ goodI y = true := by
    unfold chkN at h
    by_cases hg : goodI x = true ∧ goodI y = true
    · exact hg
    · rw [if_neg hg] at h; cases h
  have bnd : ∀ z : Itm, goodI z = true → 0 ≤ z.n ∧ z.n ≤ 256 ∧ 0 ≤ z.t ∧ z.t ≤ 1073741824 := fun z gz => by
    unfold goodI goodP at gz
    simp only [Bool.and_eq_true, decide_eq_true_eq] at gz
    exact ⟨gz.1.1, gz.1.2.1, gz.2.1, gz.2.2⟩
  obtain ⟨x1, x2, x3, x4⟩ := bnd x hg.1
  obtain ⟨y1, y2, y3, y4⟩ := bnd y hg.2
  have lx := itmBy_len hx (by omega) (by omega) x1 x3
  have ly := itmBy_len hy (by omega) (by omega) y1 y3
  have e1 : inBy x y = (1 :: (itmBy x ++ itmBy y), 0) := by
    unfold inBy inW
    rw [if_neg (fun hh => hh h), WS.itm_put x1 x3, WS.itm_put y1 y3]
    have e : ((w0.put [1]).put (itmBy x)).put (itmBy y) = ⟨1 :: (itmBy x ++ itmBy y), 0⟩ := rfl
    rw [e]
    unfold WS.done
    rw [if_neg (fun hh => hh rfl), if_neg (by rw [List.length_cons, List.length_append]; omega)]
  refine ⟨e1, ?_⟩
  rw [e1]
  have a0 := at_open (s := 1 :: (itmBy x ++ itmBy y)) (by rw [List.length_cons, List.length_append]; omega)
  have hq : (1 :: (itmBy x ++ itmBy y) : List UInt8) = (if true = true then 1 else 0) :: (itmBy x ++ (itmBy y ++ [])) := by rw [List.append_nil]; rfl
  generalize hs : (1 :: (itmBy x ++ itmBy y) : List UInt8) = s at a0 hq
  have a0 : (RS.open s).at_ ((if true = true then 1 else 0) :: (itmBy x ++ (itmBy y ++ []))) := by rw [← hq]; exact a0
  obtain ⟨b1, b2⟩ := at_flag a0
  obtain ⟨c1, c2⟩ := at_itm hx ⟨x1, by omega⟩ ⟨x3, by omega⟩ b2
  obtain ⟨d1, d2⟩ := at_itm hy ⟨y1, by omega⟩ ⟨y3, by omega⟩ c2
  have hR : nodR s = (.inn x y, (RS.open s).flag.2.itm.2.itm.2) := by
    unfold nodR
    dsimp only
    rw [if_pos b1, c1, d1]
  unfold nodRd
  rw [hR]
  dsimp only
  rw [if_neg (fun hh => hh (at_done d2)), if_neg (fun hh => hh h)]
end Go.Proofs.YtcmgpkibjdbonaaGreat
set_option maxHeartbeats 4000000
namespace Go.Proofs.YtcmgpkibjdbonaaGreat
open Go Go.RowKit
section
variable {m : OM} {P : Program} {T : List (Nat × TI)} {C : Ctx} {ops : Array Oper} {l : List Oper} {K : St → Prop} {n : Nat} {sl : List (Nat × AV)} {hp : List (Nat × HO)} {d : Nat} {ty : Nat} {pos : String} {aft : Array Edge} {gd : Option (Nat × Bool)}
theorem is_iface {t sz by_ : Nat} {z : AV} (h : TOk P t ⟨.iface, sz, by_, z⟩) : ∃ want, P.underlying t = some (.interface want) := by
  obtain ⟨dd, h1, h2⟩ := h.desc
  cases dd <;> simp [kOf] at h2
  exact ⟨_, h1⟩
theorem o_neNilI (hT : TTOk P T) (hw : gval ops ⟨n, sl, hp⟩ gd = gwant gd) {t t' u : Nat} {x : Operand} {y : AV} {sz0 by0 : Nat} {z0 : AV} (hx : ev ⟨n, sl, hp⟩ x = .ifc t' y) (ht : tget T t = some ⟨.iface, sz0, by0, z0⟩) (hd : Nat.blt d n = true)
    (h : Ops m P C ops l ⟨n, (d, .b true) :: sl, hp⟩ K) : Ops m P C ops (⟨some d, .binOp .neq t x (.const .nilIface) u, ty, pos, aft, gd⟩ :: l) ⟨n, sl, hp⟩ K := by
  refine Ops.by (d := some d) hw none okc_none hd rfl (fun a w hs => ?_) h
  have E := ev_rep hs x
  rw [hx] at E
  obtain ⟨_, ⟨vs, rfl, h1⟩, h2⟩ := E
  have h2 : a.eval x = .iface t' (ofCells y vs) := h2
  obtain ⟨want, hu⟩ := is_iface (tget_ok hT ht)
  refine ⟨.bool true, repV_b.2 rfl, fun w' _ => ?_⟩
  have he : (Op.equal t (.iface t' (ofCells y vs)) .nilIface).run P w' = .ok false w' := by
    unfold Op.equal Op.maxDepth Op.equalIn
    simp only [Sem.run_bind, run_underlying hu, Result.andThen_ok]
    rfl
  have hg : (eqGuard .neq t x (.const .nilIface) (.iface t' (ofCells y vs)) .nilIface).run P w' = .ok () w' := by simp [eqGuard]
  have h3 : a.eval (.const .nilIface) = .nilIface := rfl
  simp only [execOp, h2, h3, Sem.run_bind, hg, Result.andThen_ok]
  unfold binOp
  simp [he, Sem.run_pure]
theorem o_neNilI0 (hT : TTOk P T) (hw : gval ops ⟨n, sl, hp⟩ gd = gwant gd) {t u : Nat} {x : Operand} {sz0 by0 : Nat} {z0 : AV} (hx : ev ⟨n, sl, hp⟩ x = .nili) (ht : tget T t = some ⟨.iface, sz0, by0, z0⟩) (hd : Nat.blt d n = true)
    (h : Ops m P C ops l ⟨n, (d, .b false) :: sl, hp⟩ K) : Ops m P C ops (⟨some d, .binOp .neq t x (.const .nilIface) u, ty, pos, aft, gd⟩ :: l) ⟨n, sl, hp⟩ K := by
  refine Ops.by (d := some d) hw none okc_none hd rfl (fun a w hs => ?_) h
  have E := ev_rep hs x
  rw [hx] at E
  have h2 : a.eval x = .nilIface := repV_nili.1 E
  obtain ⟨want, hu⟩ := is_iface (tget_ok hT ht)
  refine ⟨.bool false, repV_b.2 rfl, fun w' _ => ?_⟩
  have he : (Op.equal t .nilIface .nilIface).run P w' = .ok true w' := by
    unfold Op.equal Op.maxDepth Op.equalIn
    simp only [Sem.run_bind, run_underlying hu, Result.andThen_ok]
    rfl
  have hg : (eqGuard .neq t x (.const .nilIface) .nilIface .nilIface).run P w' = .ok () w' := by simp [eqGuard]
  have h3 : a.eval (.const .nilIface) = .nilIface := rfl
  simp only [execOp, h2, h3, Sem.run_bind, hg, Result.andThen_ok]
  unfold binOp
  simp [he, Sem.run_pure]
end
end Go.Proofs.YtcmgpkibjdbonaaGreat
set_option maxHeartbeats 16000000
set_option maxRecDepth 100000
namespace Go.Proofs.YtcmgpkibjdbonaaGreat
open Go Go.RowKit
theorem pwrite_spec (b : Nat) (x : Itm) (hx : x.ok) (hn : x.n < 9223372036854775808) (ht : x.t < 9223372036854775808) (v : Value) (s : WS) (hs : s.bs.length ≤ 900000000000) : Spec Tryz.prog 139 [.ptr 0 b [] 0, x.A] (wrO b v s) (fun r os => r = .tup [] ∧ ∃ v', os = wrO b v' (s.itm x)) := by
  have l1 := WS.len_number s x.n hn
  have l2 : ((s.number x.n).put x.l).bs.length = _ := WS.len_put _ _
  have l3 : (((s.number x.n).put x.l).put x.s).bs.length = _ := WS.len_put _ _
  rw [hx.1] at l2
  rw [hx.2] at l3
  have w1 := fun v => wnumber_spec b x.n hn v s (by omega)
  have w2 := fun v => wlabel_spec b x.l hx.1 v (s.number x.n) (by omega)
  have w3 := fun v => wlabel_spec b x.s hx.2 v ((s.number x.n).put x.l) (by omega)
  have w4 := fun v => wnumber_spec b x.t ht v (((s.number x.n).put x.l).put x.s) (by omega)
  unfold WS.itm
  generalize (((s.number x.n).put x.l).put x.s).number x.t = s4 at w4 ⊢
  generalize ((s.number x.n).put x.l).put x.s = s3 at w3 w4
  generalize (s.number x.n).put x.l = s2 at w2 w3
  generalize s.number x.n = s1 at w1 w2
  obtain ⟨n, l, s5, t⟩ := x
  dsimp only at w1 w2 w3 w4
  show Spec Tryz.prog 139 [.ptr 0 b [] 0, .agg [pfxA n l, labA s5, .i .i64 t]] _ _
  refine spec_of TtOk [(0, .var b (wrA v s)), (1, .row v 5 1 (s.bs.map byA))] Tryz.func139 rfl Tryz.ntmps139 (by kernel_rfl) rfl rfl (fun C => ?_) rfl
  repeat' (first | refine Awp.seq ?_ | refine Awp.region ?_ | refine Ops.nil (nqA ?_) | refine Ops.nil (nqE ?_) | (refine o_calm rfl TtOk rfl rfl rfl ?_ (fun _ => ?_); exact nd) | refine o_box (d := 3) rfl rfl rfl rfl (fun b3 => ?_) | (refine o_callPR rfl rfl rfl rfl rfl (w1 _) ⟨sle_ptr, nqS, True.intro⟩ (HOLe.refl _) (HOLe.refl _) rfl rfl ?_; rintro _ _ ⟨rfl, wv, rfl⟩; refine ⟨_, _, rfl, _, rfl, ?_⟩) | (refine o_callPR rfl rfl rfl rfl rfl (w2 _) ⟨sle_ptr, nqS, True.intro⟩ (HOLe.refl _) (HOLe.refl _) rfl rfl ?_; rintro _ _ ⟨rfl, wv, rfl⟩; refine ⟨_, _, rfl, _, rfl, ?_⟩) | (refine o_callPR rfl rfl rfl rfl rfl (w3 _) ⟨sle_ptr, nqS, True.intro⟩ (HOLe.refl _) (HOLe.refl _) rfl rfl ?_; rintro _ _ ⟨rfl, wv, rfl⟩; refine ⟨_, _, rfl, _, rfl, ?_⟩) | (refine o_callPR rfl rfl rfl rfl rfl (w4 _) ⟨sle_ptr, nqS, True.intro⟩ (HOLe.refl _) (HOLe.refl _) rfl rfl ?_; rintro _ _ ⟨rfl, wv, rfl⟩; refine ⟨_, _, rfl, _, rfl, ?_⟩))
  exact end_none rfl [] [(0, _), (1, _)] (HLe.cons 0 rfl (HOLe.refl _) (HLe.cons 1 rfl (HOLe.refl _) .nil)) ⟨rfl, _, rfl⟩ _ (by first | exact .inl rfl | exact .inr rfl)
/-- A proof's bytes: the path's, all of them; the error. -/
def bysL (s : WS) : List Itm → List UInt8 × Int
  | [] => s.done
  | x :: r => if goodI x = true then bysL (s.itm x) r else ([], 1)
def bysT (s : WS) (path : List Itm) : List UInt8 × Int := if 256 < path.length then ([], 2) else bysL (s.number path.length) path
def bysP (p : Prf) : List UInt8 × Int :=
  if p.e = 0 then bysT (w0.number 0) p.path
  else if p.e = 1 then (if (lfBy p.lf).2 ≠ 0 then ([], (lfBy p.lf).2) else bysT ((w0.number 1).text (lfBy p.lf).1) p.path)
  else if p.e = 2 then (if (inBy p.a p.b).2 ≠ 0 then ([], (inBy p.a p.b).2) else bysT ((w0.number 2).text (inBy p.a p.b).1) p.path)
  else ([], 1)
def byN (lf : Lef) (a b : Itm) : Nat → AV
  | 0 => .nili
  | 1 => .ifc 46 lf.A
  | _ => .ifc 52 (.agg [a.A, b.A])
theorem pbytes_spec (p : Prf) (hp : p.ok) (he : p.e < 9223372036854775808) : Spec Tryz.prog 45 [p.A] [] (fun v os => v = .tup [.s (bysP p).1, .i .i64 (bysP p).2] ∧ os = []) := by
  obtain ⟨e, lf, a, b, path⟩ := p
  obtain ⟨olf, oa, ob, opa⟩ := hp
  dsimp only at olf oa ob opa he
  have k1 : Spec Tryz.prog 137 [.ifc 46 lf.A] [] (fun v os => v = .tup [.s (lfBy lf).1, .i .i64 (lfBy lf).2] ∧ os = []) := nbytesL_spec lf olf
  have k2 : Spec Tryz.prog 137 [.ifc 52 (.agg [a.A, b.A])] [] (fun v os => v = .tup [.s (inBy a b).1, .i .i64 (inBy a b).2] ∧ os = []) := nbytesI_spec a b oa ob
  show Spec Tryz.prog 45 [.agg [.i .i64 e, lf.A, .agg [a.A, b.A], .sl 66 (path.map Itm.A)]] [] _
  refine spec_of TtOk [] Tryz.func45 rfl Tryz.ntmps45 (by kernel_rfl) rfl rfl (fun C => ?_) rfl
  refine Awp.seq ?_
  repeat' (first | refine Awp.region ?_ | refine Ops.nil (nqA ?_) | (refine o_calm rfl TtOk rfl rfl rfl ?_ (fun _ => ?_); exact nd) | refine o_box (d := 1) rfl rfl rfl rfl (fun b1 => ?_))
  refine Awp.seq ?_
  repeat' (first | refine Awp.region ?_ | refine Ops.nil (nqA ?_) | refine o_alloc (d := 4) rfl TtOk rfl rfl rfl (fun b4 => ?_))
  refine Awp.seq ?_
  repeat' (first | refine Awp.region ?_ | (refine o_calm rfl TtOk rfl rfl rfl ?_ (fun _ => ?_); exact nd))
  have w1 := fun v => wnumber_spec b4 e he v w0 (by decide)
  have hl1 : (w0.number e).bs.length ≤ 9 := WS.len_number w0 e he
  refine Ops.weaken [] (S' := ⟨63, [(11, .i .i64 e), (4, .ptr 4 b4 [] 0), (1, .ptr 50 b1 [] 0)], [(4, .var b4 (wrA (.slice none 0 0) w0)), (50, .var b1 (.agg [.i .i64 e, lf.A, .agg [a.A, b.A], .sl 66 (path.map Itm.A)])), (1, .row (.slice none 0 0) 5 1 [])]⟩) ⟨rfl, ⟨sle_i rfl, sle_ptr, sle_ptr, True.intro⟩, HLe.cons 4 rfl (HOLe.var (CLe.agg (.cons CLe.nilown (.cons (CLe.refl _) .nil)))) (HLe.cons 1 rfl (HOLe.refl _) (.none .nil))⟩ ?_
  obtain ⟨W, hW⟩ : ∃ W, bysP ⟨e, lf, a, b, path⟩ = W := ⟨_, rfl⟩
  rw [hW]
  unfold bysP at hW
  dsimp only at hW
  repeat' (first | refine Ops.nil (nqA ?_) | (refine o_callPR rfl rfl rfl rfl rfl (w1 _) ⟨sle_ptr, nqS, True.intro⟩ (HOLe.refl _) (HOLe.refl _) rfl rfl ?_; rintro _ _ ⟨rfl, wv, rfl⟩; refine ⟨_, _, rfl, _, rfl, ?_⟩))
  refine Awp.seq ?_
  repeat' (first | refine Awp.region ?_ | refine Ops.nil (nqA ?_) | (refine o_calm rfl TtOk rfl rfl rfl ?_ (fun _ => ?_); exact nd))
  refine Awp.seqI (X := Nat) (fun c => ⟨63, [(5, byN lf a b c), (4, .ptr 4 b4 [] 0), (1, .ptr 50 b1 [] 0)], [(4, .var b4 (wrA wv (w0.number e))), (50, .var b1 (.agg [.i .i64 e, lf.A, .agg [a.A, b.A], .sl 66 (path.map Itm.A)])), (1, .row wv 5 1 ((w0.number e).bs.map byA))]⟩) (fun c => (c = 0 ∧ e = 0) ∨ (c = 1 ∧ e = 1) ∨ (c = 2 ∧ e = 2)) ?_ (fun c hc => ?_)
  · by_cases h0 : e = 0
    · subst h0
      repeat' (first | refine Awp.seq ?_ | refine Awp.block ?_ | refine Awp.region ?_ | refine Ops.nil (nqA ?_) | refine Awp.skip (nqX ?_) | (refine o_calm rfl TtOk rfl rfl rfl ?_ (fun _ => ?_); exact nd) | refine a_condT rfl ?_)
      exact ⟨0, [], .inl ⟨rfl, rfl⟩, rfl, ⟨nqS, sle_ptr, sle_ptr, True.intro⟩, HLe.cons 4 rfl (HOLe.refl _) (HLe.cons 50 rfl (HOLe.refl _) (HLe.cons 1 rfl (HOLe.refl _) .nil))⟩
    by_cases h1 : e = 1
    · subst h1
      repeat' (first | refine Awp.seq ?_ | refine Awp.block ?_ | refine Awp.region ?_ | refine Ops.nil (nqA ?_) | refine Ops.nil (nqX ?_) | (refine o_calm rfl TtOk rfl rfl rfl ?_ (fun _ => ?_); exact nd) | refine a_condT rfl ?_ | refine a_condF rfl ?_ | (refine o_mkIface TtOk rfl rfl rfl rfl rfl rfl ?_))
      exact ⟨1, [], .inr (.inl ⟨rfl, rfl⟩), rfl, ⟨nqS, sle_ptr, sle_ptr, True.intro⟩, HLe.cons 4 rfl (HOLe.refl _) (HLe.cons 50 rfl (HOLe.refl _) (HLe.cons 1 rfl (HOLe.refl _) .nil))⟩
    by_cases h2 : e = 2
    · subst h2
      repeat' (first | refine Awp.seq ?_ | refine Awp.block ?_ | refine Awp.region ?_ | refine Ops.nil (nqA ?_) | refine Ops.nil (nqX ?_) | (refine o_calm rfl TtOk rfl rfl rfl ?_ (fun _ => ?_); exact nd) | refine a_condT rfl ?_ | refine a_condF rfl ?_ | (refine o_mkIface TtOk rfl rfl rfl rfl rfl rfl ?_))
      exact ⟨2, [], .inr (.inr ⟨rfl, rfl⟩), rfl, ⟨nqS, sle_ptr, sle_ptr, True.intro⟩, HLe.cons 4 rfl (HOLe.refl _) (HLe.cons 50 rfl (HOLe.refl _) (HLe.cons 1 rfl (HOLe.refl _) .nil))⟩
    · rw [if_neg h0, if_neg h1, if_neg h2] at hW
      subst hW
      repeat' (first | refine Awp.seq ?_ | refine Awp.block ?_ | refine Awp.region ?_ | refine Ops.nil (nqA ?_) | refine Awp.ret (nqE ?_) | (refine o_calm rfl TtOk rfl rfl rfl ?_ (fun _ => ?_); exact nd) | (refine a_condP rfl (fun hc => ?_) (fun hc => ?_)) <;> (try (exfalso; omega)))
      refine end_all [] [] (.tup [.s [], .i .i64 1]) rfl ?_ ?_ (rle_tup2 (CLe.of_eq rfl) (CLe.of_eq rfl) rfl rfl) .nil ⟨rfl, rfl⟩ _ (.inl rfl)
      · exact nq1
      · exact ⟨trivial, trivial, trivial⟩
  refine Awp.seqI (X := WS × Value) (fun q => ⟨63, [(4, .ptr 4 b4 [] 0), (1, .ptr 50 b1 [] 0)], [(4, .var b4 (wrA q.2 q.1)), (50, .var b1 (.agg [.i .i64 e, lf.A, .agg [a.A, b.A], .sl 66 (path.map Itm.A)])), (1, .row q.2 5 1 (q.1.bs.map byA))]⟩) (fun q => q.1.bs.length ≤ 100000 ∧ bysT q.1 path = W) ?_ ?_
  · generalize hs0 : w0.number e = s0 at *
    rcases hc with ⟨rfl, rfl⟩ | ⟨rfl, rfl⟩ | ⟨rfl, rfl⟩
    · rw [if_pos rfl, hs0] at hW
      show Awp Tryz.prog C _ ⟨63, [(5, .nili), (4, .ptr 4 b4 [] 0), (1, .ptr 50 b1 [] 0)], _⟩ _
      repeat' (first | refine Awp.seq ?_ | refine Awp.region ?_ | refine Ops.nil (nqA ?_) | refine Awp.skip (nqX ?_) | (refine o_calm rfl TtOk rfl rfl rfl ?_ (fun _ => ?_); exact nd) | refine a_condF rfl ?_ | (refine o_neNilI0 TtOk rfl rfl rfl rfl ?_))
      exact ⟨(s0, wv), [], ⟨by show s0.bs.length ≤ 100000; omega, hW⟩, rfl, ⟨sle_ptr, sle_ptr, True.intro⟩, HLe.cons 4 rfl (HOLe.refl _) (HLe.cons 50 rfl (HOLe.refl _) (HLe.cons 1 rfl (HOLe.refl _) .nil))⟩
    · rw [if_neg (by decide), if_pos rfl, hs0] at hW
      show Awp Tryz.prog C _ ⟨63, [(5, .ifc 46 lf.A), (4, .ptr 4 b4 [] 0), (1, .ptr 50 b1 [] 0)], _⟩ _
      have hl2 := WS.len_text s0 (lfBy lf).1
      have w2 := fun v => wtext_spec b4 (lfBy lf).1 v s0 (by omega)
      generalize lfBy lf = q at *
      obtain ⟨t, f⟩ := q
      dsimp only at k1 hW w2 hl2
      generalize s0.text t = s1 at *
      by_cases hf : f ≠ 0
      · rw [if_pos hf] at hW
        subst hW
        repeat' (first | refine Awp.seq ?_ | refine Awp.region ?_ | refine Ops.nil (nqA ?_) | refine Awp.ret (nqE ?_) | (refine o_calm rfl TtOk rfl rfl rfl ?_ (fun _ => ?_); exact nd) | refine a_condT rfl ?_ | (refine a_condN rfl (fun hc => ?_) (fun hc => ?_)) <;> (try (exfalso; omega)) | (refine o_neNilI TtOk rfl rfl rfl rfl ?_) | refine o_callE rfl (k1) ⟨nqS, True.intro⟩ rfl ?_)
        refine end_all [] [] (.tup [.s [], .i .i64 f]) rfl ?_ ?_ (rle_tup2 (CLe.of_eq rfl) (CLe.of_eq rfl) rfl rfl) .nil ⟨rfl, rfl⟩ _ (.inl rfl)
        · exact nq1
        · exact ⟨trivial, trivial, trivial⟩
      · rw [if_neg hf] at hW
        have hf := Decidable.not_not.1 hf
        subst hf
        repeat' (first | refine Awp.seq ?_ | refine Awp.region ?_ | refine Ops.nil (nqA ?_) | refine Ops.nil (nqX ?_) | refine Awp.skip (nqA ?_) | (refine o_calm rfl TtOk rfl rfl rfl ?_ (fun _ => ?_); exact nd) | refine a_condT rfl ?_ | refine a_condF rfl ?_ | (refine o_neNilI TtOk rfl rfl rfl rfl ?_) | refine o_callE rfl (k1) ⟨nqS, True.intro⟩ rfl ?_ | (refine o_callPR rfl rfl rfl rfl rfl (w2 _) ⟨sle_ptr, nqS, True.intro⟩ (HOLe.refl _) (HOLe.refl _) rfl rfl ?_; rintro _ _ ⟨rfl, wv, rfl⟩; refine ⟨_, _, rfl, _, rfl, ?_⟩))
        exact ⟨(s1, _), [], ⟨by show s1.bs.length ≤ 100000; omega, hW⟩, rfl, ⟨sle_ptr, sle_ptr, True.intro⟩, HLe.cons 4 rfl (HOLe.refl _) (HLe.cons 50 rfl (HOLe.refl _) (HLe.cons 1 rfl (HOLe.refl _) .nil))⟩
    · rw [if_neg (by decide), if_neg (by decide), if_pos rfl, hs0] at hW
      show Awp Tryz.prog C _ ⟨63, [(5, .ifc 52 (.agg [a.A, b.A])), (4, .ptr 4 b4 [] 0), (1, .ptr 50 b1 [] 0)], _⟩ _
      have hl2 := WS.len_text s0 (inBy a b).1
      have w2 := fun v => wtext_spec b4 (inBy a b).1 v s0 (by omega)
      generalize inBy a b = q at *
      obtain ⟨t, f⟩ := q
      dsimp only at k2 hW w2 hl2
      generalize s0.text t = s1 at *
      by_cases hf : f ≠ 0
      · rw [if_pos hf] at hW
        subst hW
        repeat' (first | refine Awp.seq ?_ | refine Awp.region ?_ | refine Ops.nil (nqA ?_) | refine Awp.ret (nqE ?_) | (refine o_calm rfl TtOk rfl rfl rfl ?_ (fun _ => ?_); exact nd) | refine a_condT rfl ?_ | (refine a_condN rfl (fun hc => ?_) (fun hc => ?_)) <;> (try (exfalso; omega)) | (refine o_neNilI TtOk rfl rfl rfl rfl ?_) | refine o_callE rfl (k2) ⟨nqS, True.intro⟩ rfl ?_)
        refine end_all [] [] (.tup [.s [], .i .i64 f]) rfl ?_ ?_ (rle_tup2 (CLe.of_eq rfl) (CLe.of_eq rfl) rfl rfl) .nil ⟨rfl, rfl⟩ _ (.inl rfl)
        · exact nq1
        · exact ⟨trivial, trivial, trivial⟩
      · rw [if_neg hf] at hW
        have hf := Decidable.not_not.1 hf
        subst hf
        repeat' (first | refine Awp.seq ?_ | refine Awp.region ?_ | refine Ops.nil (nqA ?_) | refine Ops.nil (nqX ?_) | refine Awp.skip (nqA ?_) | (refine o_calm rfl TtOk rfl rfl rfl ?_ (fun _ => ?_); exact nd) | refine a_condT rfl ?_ | refine a_condF rfl ?_ | (refine o_neNilI TtOk rfl rfl rfl rfl ?_) | refine o_callE rfl (k2) ⟨nqS, True.intro⟩ rfl ?_ | (refine o_callPR rfl rfl rfl rfl rfl (w2 _) ⟨sle_ptr, nqS, True.intro⟩ (HOLe.refl _) (HOLe.refl _) rfl rfl ?_; rintro _ _ ⟨rfl, wv, rfl⟩; refine ⟨_, _, rfl, _, rfl, ?_⟩))
        exact ⟨(s1, _), [], ⟨by show s1.bs.length ≤ 100000; omega, hW⟩, rfl, ⟨sle_ptr, sle_ptr, True.intro⟩, HLe.cons 4 rfl (HOLe.refl _) (HLe.cons 50 rfl (HOLe.refl _) (HLe.cons 1 rfl (HOLe.refl _) .nil))⟩
  clear hW hl1 w1 k1 k2 hc
  rintro ⟨s, v⟩ ⟨hsl, hW⟩
  dsimp only at hsl hW ⊢
  unfold bysT at hW
  by_cases h256 : 256 < path.length
  · rw [if_pos h256] at hW
    subst hW
    repeat' (first | refine Awp.seq ?_ | refine Awp.region ?_ | refine Ops.nil (nqA ?_) | refine Awp.ret (nqE ?_) | refine o_len rfl TtOk rfl rfl rfl (fun _ => ?_) | (refine o_calm rfl TtOk rfl rfl rfl ?_ (fun _ => ?_); exact nd) | (refine a_condP rfl (fun hc => ?_) (fun hc => ?_)) <;> (try (exfalso; omega)))
    refine end_all [] [] (.tup [.s [], .i .i64 2]) rfl ?_ ?_ (rle_tup2 (CLe.of_eq rfl) (CLe.of_eq rfl) rfl rfl) .nil ⟨rfl, rfl⟩ _ (.inl rfl)
    · exact nq1
    · exact ⟨trivial, trivial, trivial⟩
  rw [if_neg h256] at hW
  have w3 := fun v => wnumber_spec b4 path.length (by omega) v s (by omega)
  have hl3 := WS.len_number s path.length (by omega)
  generalize s.number path.length = s1 at *
  repeat' (first | refine Awp.seq ?_ | refine Awp.block ?_ | refine Awp.region ?_ | refine Ops.nil (nqA ?_) | refine Awp.skip (nqA ?_) | refine o_len rfl TtOk rfl rfl rfl (fun _ => ?_) | (refine o_calm rfl TtOk rfl rfl rfl ?_ (fun _ => ?_); exact nd) | (refine a_condP rfl (fun hc => ?_) (fun hc => ?_)) <;> (try (exfalso; omega)) | (refine o_callPR rfl rfl rfl rfl rfl (w3 _) ⟨sle_ptr, nqS, True.intro⟩ (HOLe.refl _) (HOLe.refl _) rfl rfl ?_; rintro _ _ ⟨rfl, wv, rfl⟩; refine ⟨_, _, rfl, _, rfl, ?_⟩))
  refine Awp.loop (fun q : Nat × WS × Value => ⟨63, [(50, .i .i64 q.1), (49, .i .i64 path.length), (48, .sl 66 (path.map Itm.A)), (4, .ptr 4 b4 [] 0), (1, .ptr 50 b1 [] 0)], [(4, .var b4 (wrA q.2.2 q.2.1)), (50, .var b1 (.agg [.i .i64 e, lf.A, .agg [a.A, b.A], .sl 66 (path.map Itm.A)])), (1, .row q.2.2 5 1 (q.2.1.bs.map byA))]⟩) (fun q => q.1 ≤ path.length ∧ q.2.1.bs.length ≤ 200000 + 82 * q.1 ∧ bysL q.2.1 (path.drop q.1) = W) (fun q => path.length - q.1) [] (0, s1, wv) ⟨Nat.zero_le _, by show s1.bs.length ≤ _; omega, hW⟩ ?_ ?_
  · exact ⟨rfl, ⟨sle_i rfl, sle_i rfl, sle_sl rfl, sle_ptr, sle_ptr, True.intro⟩, HLe.cons 4 rfl (HOLe.refl _) (HLe.cons 50 rfl (HOLe.refl _) (HLe.cons 1 rfl (HOLe.refl _) .nil))⟩
  clear w3 hW hsl hl3
  rintro ⟨i, s, v⟩ ⟨hi, hsl, hst⟩
  dsimp only at hi hsl hst ⊢
  by_cases hlt : i < path.length
  · have hxo := opa _ (List.getElem_mem hlt)
    have hgd := ngood_spec path[i] hxo
    have hi1 : ((i : Int) + 1 = ((i + 1 : Nat) : Int)) := by omega
    rw [List.drop_eq_getElem_cons hlt, bysL] at hst
    by_cases hg : goodI path[i] = true
    · rw [if_pos hg] at hst
      rw [hg] at hgd
      have hn := good_n hg
      have ht := good_t hg
      have w4 := fun v => pwrite_spec b4 path[i] hxo (by omega) (by omega) v s (by omega)
      have hl4 := WS.len_itm s path[i] hxo (by omega) (by omega)
      generalize s.itm path[i] = s2 at *
      repeat' (first | refine Awp.seq ?_ | refine Awp.block ?_ | refine Awp.region ?_ | refine Ops.nil (nqA ?_) | refine Ops.nil (nqX ?_) | refine Awp.skip (nqA ?_) | (refine o_add rfl rfl rfl rfl ?_ ?_; omega) | (refine o_calm rfl TtOk rfl rfl rfl ?_ (fun _ => ?_); exact nd) | refine o_alloc (d := 9) rfl TtOk rfl rfl rfl (fun b9 => ?_) | refine o_store TtOk rfl rfl rfl rfl rfl rfl rfl ⟨rfl, rfl⟩ rfl rfl rfl rfl rfl ?_ | (refine o_index rfl TtOk rfl rfl rfl rfl rfl rfl ?_ (getq_nat ?_) ?_; omega; omega) | refine a_condF rfl ?_ | (refine a_condP rfl (fun hc => ?_) (fun hc => ?_)) <;> (try (exfalso; omega)) | refine o_callE rfl (hgd) ⟨nqS, True.intro⟩ rfl ?_ | (refine o_callPR rfl rfl rfl rfl rfl (w4 _) ⟨sle_ptr, nqS, True.intro⟩ (HOLe.refl _) (HOLe.refl _) rfl rfl ?_; rintro _ _ ⟨rfl, wv, rfl⟩; refine ⟨_, _, rfl, _, rfl, ?_⟩))
      exact ⟨(i + 1, s2, _), [], ⟨hlt, by show s2.bs.length ≤ _; omega, hst⟩, by show path.length - (i + 1) < path.length - i; omega, rfl, ⟨sle_i hi1, sle_i rfl, sle_sl rfl, sle_ptr, sle_ptr, True.intro⟩, HLe.cons 4 rfl (HOLe.refl _) (HLe.cons 50 rfl (HOLe.refl _) (HLe.cons 1 rfl (HOLe.refl _) .nil))⟩
    · rw [if_neg hg] at hst
      subst hst
      have hg : goodI path[i] = false := by
        cases q : goodI path[i] with
        | true => exact absurd q hg
        | false => rfl
      rw [hg] at hgd
      repeat' (first | refine Awp.seq ?_ | refine Awp.block ?_ | refine Awp.region ?_ | refine Ops.nil (nqA ?_) | refine Awp.skip (nqA ?_) | refine Awp.ret (nqE ?_) | (refine o_calm rfl TtOk rfl rfl rfl ?_ (fun _ => ?_); exact nd) | refine o_alloc (d := 9) rfl TtOk rfl rfl rfl (fun b9 => ?_) | refine o_store TtOk rfl rfl rfl rfl rfl rfl rfl ⟨rfl, rfl⟩ rfl rfl rfl rfl rfl ?_ | (refine o_index rfl TtOk rfl rfl rfl rfl rfl rfl ?_ (getq_nat ?_) ?_; omega; omega) | refine a_condT rfl ?_ | (refine a_condP rfl (fun hc => ?_) (fun hc => ?_)) <;> (try (exfalso; omega)) | refine o_callE rfl (hgd) ⟨nqS, True.intro⟩ rfl ?_)
      refine end_all [] [] (.tup [.s [], .i .i64 1]) rfl ?_ ?_ (rle_tup2 (CLe.of_eq rfl) (CLe.of_eq rfl) rfl rfl) .nil ⟨rfl, rfl⟩ _ (.inl rfl)
      · exact nq1
      · exact ⟨trivial, trivial, trivial⟩
  · have hie : i = path.length := by omega
    subst hie
    rw [List.drop_length, bysL] at hst
    subst hst
    have w5 := fun v => wdone_spec b4 v s
    repeat' (first | refine Awp.seq ?_ | refine Awp.region ?_ | refine Ops.nil (nqA ?_) | refine Awp.exit (nqA ?_) | refine Awp.ret (nqE ?_) | (refine o_calm rfl TtOk rfl rfl rfl ?_ (fun _ => ?_); exact nd) | (refine a_condP rfl (fun hc => ?_) (fun hc => ?_)) <;> (try (exfalso; omega)) | (refine o_callPR rfl rfl rfl rfl rfl (w5 _) ⟨sle_ptr, True.intro⟩ (HOLe.refl _) (HOLe.refl _) rfl rfl ?_; rintro _ _ ⟨rfl, wv, rfl⟩; refine ⟨_, _, rfl, _, rfl, ?_⟩))
    refine end_all [] [] (.tup [.s s.done.1, .i .i64 s.done.2]) rfl ?_ ?_ (rle_tup2 (CLe.of_eq rfl) (CLe.of_eq rfl) rfl rfl) .nil ⟨rfl, rfl⟩ _ (.inl rfl)
    · exact nq1
    · exact ⟨trivial, trivial, trivial⟩
end Go.Proofs.YtcmgpkibjdbonaaGreat
