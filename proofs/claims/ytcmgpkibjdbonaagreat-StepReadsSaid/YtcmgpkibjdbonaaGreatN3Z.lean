/- Nodes go and come back. No program in sight. -/
import Derived.Test.YtcmgpkibjdbonaaGreatKW2Z
import Derived.Test.YtcmgpkibjdbonaaGreatGFZ
import Derived.Test.YtcmgpkibjdbonaaGreatC4
import Derived.Test.YtcmgpkibjdbonaaGreatKF5Z
import Derived.Test.YtcmgpkibjdbonaaGreatR2Z
import Derived.Test.YtcmgpkibjdbonaaGreatV15Z
set_option maxHeartbeats 4000000
namespace Go.Proofs.YtcmgpkibjdbonaaGreat
open Go Go.RowKit
/-- A reader that is well, with this still to come. -/
structure RS.at_ (r : RS) (t : List UInt8) : Prop where
  e : r.e = 0
  rest : r.rest = t
theorem put_num {s : WS} {n : Int} (h : 0 ≤ n) : s.number n = s.put (numBytes n.toNat) := by unfold WS.number; rw [if_neg (by omega)]
/-- An item's bytes. -/
def itmBy (x : Itm) : List UInt8 := ((numBytes x.n.toNat ++ x.l) ++ x.s) ++ numBytes x.t.toNat
def lefBy (x : Lef) : List UInt8 := (x.l ++ x.v) ++ numBytes x.t.toNat
theorem WS.itm_put {s : WS} {x : Itm} (hn : 0 ≤ x.n) (ht : 0 ≤ x.t) : s.itm x = s.put (itmBy x) := by
  unfold WS.itm
  rw [put_num hn, put_num ht]
  unfold WS.put itmBy
  simp only [List.append_assoc]
theorem WS.lef_put {s : WS} {x : Lef} (ht : 0 ≤ x.t) : s.lef x = s.put (lefBy x) := by
  unfold WS.lef
  rw [put_num ht]
  unfold WS.put lefBy
  simp only [List.append_assoc]
theorem itmBy_len {x : Itm} (hx : x.ok) (hn : x.n < 9223372036854775808) (ht : x.t < 9223372036854775808) (h0 : 0 ≤ x.n) (h1 : 0 ≤ x.t) : (itmBy x).length ≤ 82 := by
  have := WS.len_itm ⟨[], 0⟩ x hx hn ht
  rw [WS.itm_put h0 h1, WS.len_put] at this
  have e : (WS.mk [] 0).bs.length = 0 := rfl
  omega
theorem chkLf_t {x : Lef} (h : chkLf x = 0) : 0 ≤ x.t ∧ x.t ≤ 1073741824 := by unfold chkLf at h; split at h <;> omega
end Go.Proofs.YtcmgpkibjdbonaaGreat
set_option maxHeartbeats 4000000
namespace Go.Proofs.YtcmgpkibjdbonaaGreat
open Go Go.RowKit
section
variable {m : OM} {P : Program} {T : List (Nat × TI)} {C : Ctx} {ops : Array Oper} {l : List Oper} {K : St → Prop} {n : Nat} {sl : List (Nat × AV)} {hp : List (Nat × HO)} {d : Nat} {ty : Nat} {pos : String} {aft : Array Edge} {gd : Option (Nat × Bool)}
end
end Go.Proofs.YtcmgpkibjdbonaaGreat
set_option maxHeartbeats 16000000
set_option maxRecDepth 100000
namespace Go.Proofs.YtcmgpkibjdbonaaGreat
open Go Go.RowKit
/-- A proof's bytes: the path's, all of them; the error. -/
def bysL (s : WS) : List Itm → List UInt8 × Int
  | [] => s.done
  | x :: r => if goodI x = true then bysL (s.itm x) r else ([], 1)
def bysT (s : WS) (path : List Itm) : List UInt8 × Int := if 256 < path.length then ([], 2) else bysL (s.number path.length) path
def bysP (p : Prf) : List UInt8 × Int :=
  if p.e = 0 then bysT (w0.number 0) p.path
  else if p.e = 1 then (if (lfBy p.lf).2 ≠ 0 then ([], (lfBy p.lf).2) else bysT ((w0.number 1).text (lfBy p.lf).1) p.path)
  else if p.e = 2 then (if (inBy p.a p.b).2 ≠ 0 then ([], (inBy p.a p.b).2) else bysT ((w0.number 2).text (inBy p.a p.b).1) p.path)
  else ([], 1)
def byN (lf : Lef) (a b : Itm) : Nat → AV
  | 0 => .nili
  | 1 => .ifc 46 lf.A
  | _ => .ifc 52 (.agg [a.A, b.A])
end Go.Proofs.YtcmgpkibjdbonaaGreat
set_option maxHeartbeats 16000000
set_option maxRecDepth 100000
namespace Go.Proofs.YtcmgpkibjdbonaaGreat
open Go Go.RowKit
/-- The rest of a proof's bytes: the path. -/
def rdL (e : Int) (lf : Lef) (a b : Itm) : Nat → List Itm → RS → Prf × Int
  | 0, p, r => if r.done ≠ 0 then (prf0, r.done) else (⟨e, lf, a, b, p⟩, 0)
  | k + 1, p, r => if r.itm.2.done ≠ 0 ∧ r.itm.2.done ≠ 3 then (prf0, r.itm.2.done) else if goodI r.itm.1 = true then rdL e lf a b k (p ++ [r.itm.1]) r.itm.2 else (prf0, 1)
def rdT (e : Int) (lf : Lef) (a b : Itm) (r : RS) : Prf × Int := rdL e lf a b (r.below 257).1 [] (r.below 257).2
/-- What bytes are as a proof; the error. -/
def rdN (e : Nat) (n : Nod) (r : RS) : Prf × Int :=
  match n with
  | .lf x => if e = 1 then rdT 1 x itm0 itm0 r else (prf0, 3)
  | .inn a b => if e = 2 then rdT 2 lef0 a b r else (prf0, 3)
  | .no => (prf0, 3)
def prRd (s : List UInt8) : Prf × Int :=
  let q := (RS.open s).below 3
  if q.1 = 0 then rdT 0 lef0 itm0 itm0 q.2
  else if q.2.text.2.done ≠ 0 ∧ q.2.text.2.done ≠ 3 then (prf0, q.2.text.2.done)
  else if (nodRd q.2.text.1).2 ≠ 0 then (prf0, (nodRd q.2.text.1).2)
  else rdN q.1 (nodRd q.2.text.1).1 q.2.text.2
theorem below_lt (r : RS) (m : Nat) (hm : 0 < m) : (r.below m).1 < m := by
  unfold RS.below
  split
  · exact hm
  · omega
end Go.Proofs.YtcmgpkibjdbonaaGreat
set_option maxHeartbeats 4000000
namespace Go.Proofs.YtcmgpkibjdbonaaGreat
open Go Go.RowKit
theorem good_n' {x : Itm} (h : goodI x = true) : 0 ≤ x.n ∧ x.n ≤ 256 := by
  unfold goodI goodP at h
  simp only [Bool.and_eq_true, decide_eq_true_eq] at h
  exact ⟨h.1.1, h.1.2.1⟩
theorem good_t' {x : Itm} (h : goodI x = true) : 0 ≤ x.t ∧ x.t ≤ 1073741824 := by
  unfold goodI at h
  simp only [Bool.and_eq_true, decide_eq_true_eq] at h
  exact h.2
def pathBy (path : List Itm) : List UInt8 := path.flatMap itmBy
theorem good_bnd {x : Itm} (h : goodI x = true) : 0 ≤ x.n ∧ x.n ≤ 256 ∧ 0 ≤ x.t ∧ x.t ≤ 1073741824 := by
  have a := good_n' h
  have b := good_t' h
  exact ⟨a.1, a.2, b.1, b.2⟩
/-- A proof whose parts that are not its end's are none. -/
def cleanP (p : Prf) : Prf := ⟨p.e, if p.e = 1 then p.lf else lef0, if p.e = 2 then p.a else itm0, if p.e = 2 then p.b else itm0, p.path⟩
theorem ws_num (s : WS) (n : Nat) : s.number n = s.put (numBytes n) := by
  rw [put_num (by omega), Int.toNat_natCast]
end Go.Proofs.YtcmgpkibjdbonaaGreat
set_option maxHeartbeats 4000000
namespace Go.Proofs.YtcmgpkibjdbonaaGreat
open Go Go.RowKit
theorem rest_of {r : RS} {L t : List UInt8} (n : Nat) (h : r.rest = L ++ t) (hn : n = L.length) : r.rest = L ++ (RS.mk r.s (r.p + n) 0).rest := by
  have h2 : (RS.mk r.s r.p 0).rest = L ++ t := h
  rw [RS.rest_step, h2, hn, List.drop_append_of_le_length (Nat.le_refl _), List.drop_length, List.nil_append, ← h]
theorem number_rest {r : RS} (hok : r.ok) (h : r.number.2.e = 0) : r.e = 0 ∧ r.number.1 < 9223372036854775808 ∧ r.rest = numBytes r.number.1 ++ r.number.2.rest := by
  obtain ⟨a, b, t, c, d⟩ := RS.number_inv hok h
  refine ⟨a, b, ?_⟩
  rw [d]; exact rest_of _ c rfl
theorem label_rest {r : RS} (hok : r.ok) (h : r.label.2.e = 0) : r.e = 0 ∧ r.rest = r.label.1 ++ r.label.2.rest := by
  obtain ⟨a, b, t, c, d⟩ := RS.label_inv hok h
  refine ⟨a, ?_⟩
  rw [d]; exact rest_of 32 c b.symm
theorem itm_rest {r : RS} (hok : r.ok) (h : r.itm.2.e = 0) : r.e = 0 ∧ r.rest = itmBy r.itm.1 ++ r.itm.2.rest ∧ 0 ≤ r.itm.1.n ∧ 0 ≤ r.itm.1.t := by
  have h : r.number.2.label.2.label.2.number.2.e = 0 := h
  have o1 := RS.ok_number hok
  have o2 := RS.ok_label o1
  have o3 := RS.ok_label o2
  obtain ⟨a1, _, a3⟩ := number_rest o3 h
  obtain ⟨b1, b3⟩ := label_rest o2 a1
  obtain ⟨c1, c3⟩ := label_rest o1 b1
  obtain ⟨d1, _, d3⟩ := number_rest hok c1
  refine ⟨d1, ?_, ?_, ?_⟩
  · rw [d3, c3, b3, a3]
    show _ = (((numBytes ((r.number.1 : Nat) : Int).toNat ++ r.number.2.label.1) ++ r.number.2.label.2.label.1) ++ numBytes ((r.number.2.label.2.label.2.number.1 : Nat) : Int).toNat) ++ r.number.2.label.2.label.2.number.2.rest
    rw [Int.toNat_natCast, Int.toNat_natCast, List.append_assoc, List.append_assoc, List.append_assoc]
  · show (0 : Int) ≤ ((r.number.1 : Nat) : Int); omega
  · show (0 : Int) ≤ ((r.number.2.label.2.label.2.number.1 : Nat) : Int); omega
theorem lef_rest {r : RS} (hok : r.ok) (h : r.lef.2.e = 0) : r.e = 0 ∧ r.rest = lefBy r.lef.1 ++ r.lef.2.rest := by
  have h : r.label.2.label.2.number.2.e = 0 := h
  have o2 := RS.ok_label hok
  have o3 := RS.ok_label o2
  obtain ⟨a1, _, a3⟩ := number_rest o3 h
  obtain ⟨b1, b3⟩ := label_rest o2 a1
  obtain ⟨c1, c3⟩ := label_rest hok b1
  refine ⟨c1, ?_⟩
  rw [c3, b3, a3]
  show _ = ((r.label.1 ++ r.label.2.label.1) ++ numBytes ((r.label.2.label.2.number.1 : Nat) : Int).toNat) ++ r.label.2.label.2.number.2.rest
  rw [Int.toNat_natCast, List.append_assoc, List.append_assoc]
theorem done_zero {r : RS} (h : r.done = 0) : r.e = 0 ∧ r.rest = [] := by
  unfold RS.done at h
  split at h
  · cases h
  · rename_i hh
    refine ⟨h, ?_⟩
    have : ¬ r.p < r.s.length := fun hp => hh ⟨h, hp⟩
    unfold RS.rest
    exact List.drop_of_length_le (by omega)
theorem below_inv {r : RS} {m : Nat} (hok : r.ok) (h : (r.below m).2.e = 0) : r.e = 0 ∧ (r.below m).1 < m ∧ r.rest = numBytes (r.below m).1 ++ (r.below m).2.rest := by
  unfold RS.below at h ⊢
  by_cases hm : (m : Int) ≤ (r.number.1 : Int)
  · rw [if_pos hm] at h; exact (RS.fail_inv (by decide) h).elim
  · rw [if_neg hm] at h ⊢
    obtain ⟨a, _, c⟩ := number_rest hok h
    exact ⟨a, by omega, c⟩
def nodBy : Nod → List UInt8
  | .no => []
  | .lf x => 0 :: lefBy x
  | .inn a b => 1 :: (itmBy a ++ itmBy b)
theorem open_e {s : List UInt8} (h : (RS.open s).e = 0) : s.length ≤ 65536 := by
  unfold RS.open at h
  by_cases hl : 65536 < s.length
  · have h : (if 65536 < s.length then (2 : Int) else 0) = 0 := h
    rw [if_pos hl] at h; cases h
  · omega
end Go.Proofs.YtcmgpkibjdbonaaGreat
set_option maxHeartbeats 4000000
namespace Go.Proofs.YtcmgpkibjdbonaaGreat
open Go Go.RowKit
/-- Items and leaves behind what was written; none: one isn't good. -/
def wIs : WS → List Itm → Option WS
  | s, [] => some s
  | s, x :: r => if goodI x = true then wIs (s.itm x) r else none
def wLs : WS → List Lef → Option WS
  | s, [] => some s
  | s, x :: r => if chkLf x = 0 then wLs (s.lef x) r else none
def fin19 : Option WS → List UInt8 × Int
  | none => ([], 1)
  | some s => s.done
def bysS (s : Stp) : List UInt8 × Int :=
  if 2000 < s.same.length ∨ 500 < s.old.length ∨ 500 < s.new.length then ([], 2)
  else fin19 ((wIs (w0.number s.same.length) s.same).bind (fun a => (wLs (a.number s.old.length) s.old).bind (fun b => wLs (b.number s.new.length) s.new)))
/-- So many items, leaves; the error; where the reader is then. -/
def rIs : Nat → List Itm → RS → List Itm × Int × RS
  | 0, p, r => (p, 0, r)
  | k + 1, p, r => if r.itm.2.done ≠ 0 ∧ r.itm.2.done ≠ 3 then ([], r.itm.2.done, r.itm.2) else if goodI r.itm.1 = true then rIs k (p ++ [r.itm.1]) r.itm.2 else ([], 1, r.itm.2)
def rLs : Nat → List Lef → RS → List Lef × Int × RS
  | 0, p, r => (p, 0, r)
  | k + 1, p, r => if r.lef.2.done ≠ 0 ∧ r.lef.2.done ≠ 3 then ([], r.lef.2.done, r.lef.2) else if chkLf r.lef.1 = 0 then rLs k (p ++ [r.lef.1]) r.lef.2 else ([], 1, r.lef.2)
def lvs (r : RS) : List Lef × Int × RS := rLs (r.below ((501 : Nat) : Int)).1 [] (r.below ((501 : Nat) : Int)).2

def stC (a : List Itm) (b : List Lef) (c : List Lef × Int × RS) : Stp × Int := if c.2.1 ≠ 0 then (stp0, c.2.1) else if c.2.2.done ≠ 0 then (stp0, c.2.2.done) else (⟨a, b, c.1⟩, 0)
def stB (a : List Itm) (b : List Lef × Int × RS) : Stp × Int := if b.2.1 ≠ 0 then (stp0, b.2.1) else stC a b.1 (lvs b.2.2)
def stA (a : List Itm × Int × RS) : Stp × Int := if a.2.1 ≠ 0 then (stp0, a.2.1) else stB a.1 (lvs a.2.2)
def stRd (s : List UInt8) : Stp × Int := stA (rIs ((RS.open s).below ((2001 : Nat) : Int)).1 [] ((RS.open s).below ((2001 : Nat) : Int)).2)
def lefsBy (l : List Lef) : List UInt8 := l.flatMap lefBy
def stpBy (s : Stp) : List UInt8 := numBytes s.same.length ++ (pathBy s.same ++ (numBytes s.old.length ++ (lefsBy s.old ++ (numBytes s.new.length ++ lefsBy s.new))))
theorem put_nil (s : WS) : s.put [] = s := by
  obtain ⟨b, e⟩ := s
  show WS.mk (b ++ []) e = WS.mk b e
  rw [List.append_nil]
theorem put_put (s : WS) (a b : List UInt8) : (s.put a).put b = s.put (a ++ b) := by
  show WS.mk ((s.bs ++ a) ++ b) s.e = WS.mk (s.bs ++ (a ++ b)) s.e
  rw [List.append_assoc]
theorem wIs_fwd : ∀ (l : List Itm) (s : WS), (∀ x ∈ l, goodI x = true) → wIs s l = some (s.put (pathBy l))
  | [], s, _ => congrArg some (put_nil s).symm
  | x :: r, s, hg => by
    have gx := hg x (List.mem_cons_self ..)
    obtain ⟨b1, _, b3, _⟩ := good_bnd gx
    rw [wIs, if_pos gx, WS.itm_put b1 b3, wIs_fwd r _ (fun y hy => hg y (List.mem_cons_of_mem _ hy)), put_put]; rfl
theorem wIs_inv : ∀ (l : List Itm) (s a : WS), wIs s l = some a → ∀ x ∈ l, goodI x = true
  | [], _, _, _ => fun x hx => by cases hx
  | x :: r, s, a, h => by
    rw [wIs] at h
    by_cases gx : goodI x = true
    · rw [if_pos gx] at h
      intro y hy
      rcases List.mem_cons.1 hy with rfl | hy
      · exact gx
      · exact wIs_inv r _ a h y hy
    · rw [if_neg gx] at h; cases h
theorem wLs_fwd : ∀ (l : List Lef) (s : WS), (∀ x ∈ l, chkLf x = 0) → wLs s l = some (s.put (lefsBy l))
  | [], s, _ => congrArg some (put_nil s).symm
  | x :: r, s, hg => by
    have gx := hg x (List.mem_cons_self ..)
    have ht := chkLf_t gx
    rw [wLs, if_pos gx, WS.lef_put ht.1, wLs_fwd r _ (fun y hy => hg y (List.mem_cons_of_mem _ hy)), put_put]; rfl
theorem wLs_inv : ∀ (l : List Lef) (s a : WS), wLs s l = some a → ∀ x ∈ l, chkLf x = 0
  | [], _, _, _ => fun x hx => by cases hx
  | x :: r, s, a, h => by
    rw [wLs] at h
    by_cases gx : chkLf x = 0
    · rw [if_pos gx] at h
      intro y hy
      rcases List.mem_cons.1 hy with rfl | hy
      · exact gx
      · exact wLs_inv r _ a h y hy
    · rw [if_neg gx] at h; cases h
structure StpGd (s : Stp) : Prop where
  l1 : s.same.length ≤ 2000
  l2 : s.old.length ≤ 500
  l3 : s.new.length ≤ 500
  same : ∀ x ∈ s.same, goodI x = true
  old : ∀ x ∈ s.old, chkLf x = 0
  new : ∀ x ∈ s.new, chkLf x = 0
theorem bys_gd {s : Stp} (h : StpGd s) : bysS s = if 65536 < (stpBy s).length then ([], 2) else (stpBy s, 0) := by
  have a := h.l1
  have b := h.l2
  have c := h.l3
  unfold bysS
  rw [if_neg (by omega), ws_num, wIs_fwd _ _ h.same, Option.bind_some, ws_num, wLs_fwd _ _ h.old, Option.bind_some, ws_num, wLs_fwd _ _ h.new, put_put, put_put, put_put, put_put, put_put]
  show (w0.put (stpBy s)).done = _
  unfold WS.done
  rw [if_neg (show ¬ (w0.put (stpBy s)).e ≠ 0 from fun h => h rfl)]
  rfl
theorem bys_inv {s : Stp} (h : (bysS s).2 = 0) : StpGd s := by
  unfold bysS at h
  by_cases hb : 2000 < s.same.length ∨ 500 < s.old.length ∨ 500 < s.new.length
  · rw [if_pos hb] at h; cases h
  rw [if_neg hb] at h
  cases ha : wIs (w0.number s.same.length) s.same with
  | none => rw [ha] at h; cases h
  | some a =>
    rw [ha, Option.bind_some] at h
    cases hc : wLs (a.number s.old.length) s.old with
    | none => rw [hc] at h; cases h
    | some b =>
      rw [hc, Option.bind_some] at h
      cases hd : wLs (b.number s.new.length) s.new with
      | none => rw [hd] at h; cases h
      | some c => exact ⟨by omega, by omega, by omega, wIs_inv _ _ _ ha, wLs_inv _ _ _ hc, wLs_inv _ _ _ hd⟩
theorem rIs_ok : ∀ (k : Nat) (p : List Itm) (r : RS), r.ok → (rIs k p r).2.2.ok
  | 0, _, _, h => h
  | k + 1, p, r, h => by
    rw [rIs]
    split
    · exact RS.ok_itm h
    split
    · exact rIs_ok k _ _ (RS.ok_itm h)
    · exact RS.ok_itm h
theorem ok_lef' {r : RS} (h : r.ok) : r.lef.2.ok := RS.ok_number (RS.ok_label (RS.ok_label h))
theorem rLs_ok : ∀ (k : Nat) (p : List Lef) (r : RS), r.ok → (rLs k p r).2.2.ok
  | 0, _, _, h => h
  | k + 1, p, r, h => by
    rw [rLs]
    split
    · exact ok_lef' h
    split
    · exact rLs_ok k _ _ (ok_lef' h)
    · exact ok_lef' h
theorem lvs_ok {r : RS} (h : r.ok) : (lvs r).2.2.ok := rLs_ok _ _ _ (RS.ok_below h _)
theorem rIs_inv : ∀ (k : Nat) (p : List Itm) (r : RS), r.ok → (rIs k p r).2.1 = 0 → (rIs k p r).2.2.e = 0 → r.e = 0 ∧ ∃ l, l.length = k ∧ (∀ x ∈ l, x.ok ∧ goodI x = true) ∧ r.rest = pathBy l ++ (rIs k p r).2.2.rest ∧ (rIs k p r).1 = p ++ l
  | 0, p, r, hok, _, he => ⟨he, [], rfl, (fun x hx => by cases hx), rfl, (List.append_nil _).symm⟩
  | k + 1, p, r, hok, h, he => by
    rw [rIs] at h he ⊢
    by_cases hd : r.itm.2.done ≠ 0 ∧ r.itm.2.done ≠ 3
    · rw [if_pos hd] at h; exact absurd h hd.1
    rw [if_neg hd] at h he ⊢
    by_cases hg : goodI r.itm.1 = true
    · rw [if_pos hg] at h he ⊢
      obtain ⟨i1, l, i2, i3, i4, i5⟩ := rIs_inv k (p ++ [r.itm.1]) r.itm.2 (RS.ok_itm hok) h he
      obtain ⟨c1, c2, _, _⟩ := itm_rest hok i1
      refine ⟨c1, r.itm.1 :: l, by rw [List.length_cons, i2], fun x hx => ?_, ?_, ?_⟩
      · rcases List.mem_cons.1 hx with rfl | hx
        · exact ⟨itm_ok' r, hg⟩
        · exact i3 x hx
      · rw [c2, i4, ← List.append_assoc]; rfl
      · rw [i5, List.append_assoc]; rfl
    · rw [if_neg hg] at h; cases h
theorem rLs_inv : ∀ (k : Nat) (p : List Lef) (r : RS), r.ok → (rLs k p r).2.1 = 0 → (rLs k p r).2.2.e = 0 → r.e = 0 ∧ ∃ l, l.length = k ∧ (∀ x ∈ l, x.ok ∧ chkLf x = 0) ∧ r.rest = lefsBy l ++ (rLs k p r).2.2.rest ∧ (rLs k p r).1 = p ++ l
  | 0, p, r, hok, _, he => ⟨he, [], rfl, (fun x hx => by cases hx), rfl, (List.append_nil _).symm⟩
  | k + 1, p, r, hok, h, he => by
    rw [rLs] at h he ⊢
    by_cases hd : r.lef.2.done ≠ 0 ∧ r.lef.2.done ≠ 3
    · rw [if_pos hd] at h; exact absurd h hd.1
    rw [if_neg hd] at h he ⊢
    by_cases hg : chkLf r.lef.1 = 0
    · rw [if_pos hg] at h he ⊢
      obtain ⟨i1, l, i2, i3, i4, i5⟩ := rLs_inv k (p ++ [r.lef.1]) r.lef.2 (ok_lef' hok) h he
      obtain ⟨c1, c2⟩ := lef_rest hok i1
      refine ⟨c1, r.lef.1 :: l, by rw [List.length_cons, i2], fun x hx => ?_, ?_, ?_⟩
      · rcases List.mem_cons.1 hx with rfl | hx
        · exact ⟨lef_ok' r, hg⟩
        · exact i3 x hx
      · rw [c2, i4, ← List.append_assoc]; rfl
      · rw [i5, List.append_assoc]; rfl
    · rw [if_neg hg] at h; cases h
theorem lvs_inv {r : RS} (hok : r.ok) (h : (lvs r).2.1 = 0) (he : (lvs r).2.2.e = 0) : r.e = 0 ∧ (lvs r).1.length ≤ 500 ∧ (∀ x ∈ (lvs r).1, x.ok ∧ chkLf x = 0) ∧ r.rest = numBytes (lvs r).1.length ++ (lefsBy (lvs r).1 ++ (lvs r).2.2.rest) := by
  unfold lvs at h he ⊢
  obtain ⟨i1, l, i2, i3, i4, i5⟩ := rLs_inv _ [] _ (RS.ok_below hok _) h he
  obtain ⟨b1, b2, b3⟩ := below_inv hok i1
  have i5 : (rLs (r.below ((501 : Nat) : Int)).1 [] (r.below ((501 : Nat) : Int)).2).1 = l := i5
  rw [i5]
  refine ⟨b1, by omega, i3, ?_⟩
  rw [b3, i4, i2]
theorem rd_byS {t : List UInt8} (ht : t.length ≤ 9223372036854775807) (h : (stRd t).2 = 0) : bysS (stRd t).1 = (t, 0) ∧ (stRd t).1.ok ∧ StpGd (stRd t).1 := by
  have o0 := RS.ok_open ht
  have ho : (RS.open t).rest = t := by unfold RS.open RS.rest; rw [List.drop_zero]
  have o1 := RS.ok_below o0 ((2001 : Nat) : Int)
  unfold stRd at h ⊢
  have o2 := rIs_ok ((RS.open t).below ((2001 : Nat) : Int)).1 [] _ o1
  have iv := rIs_inv ((RS.open t).below ((2001 : Nat) : Int)).1 [] _ o1
  generalize hq : rIs ((RS.open t).below ((2001 : Nat) : Int)).1 [] ((RS.open t).below ((2001 : Nat) : Int)).2 = q at *
  obtain ⟨same, e1, r1⟩ := q
  dsimp only at iv o2
  unfold stA at h ⊢
  dsimp only at h ⊢
  by_cases c1 : e1 ≠ 0
  · rw [if_pos c1] at h; exact absurd h c1
  rw [if_neg c1] at h ⊢
  have o3 := lvs_ok o2
  have v1 := lvs_inv o2
  generalize lvs r1 = q at *
  obtain ⟨old, e2, r2⟩ := q
  dsimp only at o3 v1
  unfold stB at h ⊢
  dsimp only at h ⊢
  by_cases c2 : e2 ≠ 0
  · rw [if_pos c2] at h; exact absurd h c2
  rw [if_neg c2] at h ⊢
  have v2 := lvs_inv o3
  generalize lvs r2 = q at *
  obtain ⟨new, e3, r3⟩ := q
  dsimp only at v2
  unfold stC at h ⊢
  dsimp only at h ⊢
  by_cases c3 : e3 ≠ 0
  · rw [if_pos c3] at h; exact absurd h c3
  rw [if_neg c3] at h ⊢
  by_cases c4 : r3.done ≠ 0
  · rw [if_pos c4] at h; exact absurd h c4
  rw [if_neg c4]
  obtain ⟨d1, d2⟩ := done_zero (Decidable.not_not.1 c4)
  obtain ⟨x1, x2, x3, x4⟩ := v2 (Decidable.not_not.1 c3) d1
  obtain ⟨y1, y2, y3, y4⟩ := v1 (Decidable.not_not.1 c2) x1
  obtain ⟨z1, l, z2, z3, z4, z5⟩ := iv (Decidable.not_not.1 c1) y1
  obtain ⟨w1, w2, w3⟩ := below_inv o0 z1
  have z5 : same = l := z5
  subst z5
  have hl := open_e w1
  have hb : stpBy ⟨same, old, new⟩ = t := by
    rw [ho, z4, y4, x4, d2, List.append_nil, ← z2] at w3
    exact w3.symm
  have hg : StpGd ⟨same, old, new⟩ := ⟨by show same.length ≤ 2000; omega, y2, x2, fun x hx => (z3 x hx).2, fun x hx => (y3 x hx).2, fun x hx => (x3 x hx).2⟩
  refine ⟨?_, ⟨fun x hx => (z3 x hx).1, fun x hx => (y3 x hx).1, fun x hx => (x3 x hx).1⟩, hg⟩
  dsimp only
  rw [bys_gd hg, hb, if_neg (by omega)]
end Go.Proofs.YtcmgpkibjdbonaaGreat
set_option maxHeartbeats 4000000
namespace Go.Proofs.YtcmgpkibjdbonaaGreat
open Go Go.RowKit
theorem e3_take {r : RS} (h : r.e ≠ 3) (n : Nat) : (r.take n).2.e ≠ 3 := by
  unfold RS.take; split
  · exact h
  · split
    · show (5 : Int) ≠ 3; decide
    · show (0 : Int) ≠ 3; decide
theorem e3_fail {r : RS} (h : r.e ≠ 3) (x : Int) (hx : x ≠ 3) : (r.fail x).e ≠ 3 := by
  unfold RS.fail; split
  · exact hx
  · exact h
theorem e3_number {r : RS} (h : r.e ≠ 3) : r.number.2.e ≠ 3 := by
  unfold RS.number; split
  · exact e3_take h _
  · split
    · exact e3_fail (e3_take h _) 4 (by decide)
    · split
      · exact e3_fail (e3_take (e3_take h _) _) 4 (by decide)
      · exact e3_take (e3_take h _) _
theorem e3_open (s : List UInt8) : (RS.open s).e ≠ 3 := by
  unfold RS.open; show (if _ then (2 : Int) else 0) ≠ 3; split <;> decide
theorem e3_label {r : RS} (h : r.e ≠ 3) : r.label.2.e ≠ 3 := e3_take h 32
theorem e3_lef {r : RS} (h : r.e ≠ 3) : r.lef.2.e ≠ 3 := e3_number (e3_label (e3_label h))
theorem e3_itm {r : RS} (h : r.e ≠ 3) : r.itm.2.e ≠ 3 := e3_number (e3_label (e3_label (e3_number h)))
theorem e3_done {r : RS} (h : r.e ≠ 3) : (r.done ≠ 0 ∧ r.done ≠ 3) ↔ r.e ≠ 0 := by
  unfold RS.done
  split
  · rename_i h1; exact ⟨fun h2 => absurd rfl h2.2, fun h2 => absurd h1.1 h2⟩
  · exact ⟨fun h2 => h2.1, fun h2 => ⟨h2, h⟩⟩
theorem doneE {r : RS} (h : r.e ≠ 0) : r.done = r.e := by
  unfold RS.done; rw [if_neg (fun hh => h hh.1)]
theorem keep_take {r : RS} (h : r.e ≠ 0) (n : Nat) : r.take n = ([], r) := by
  unfold RS.take; rw [if_pos h]
theorem keep_fail {r : RS} (h : r.e ≠ 0) (x : Int) : r.fail x = r := by
  unfold RS.fail; rw [if_neg h]
theorem keep_number {r : RS} (h : r.e ≠ 0) : r.number = (0, r) := by
  unfold RS.number; rw [keep_take h, if_pos rfl]
theorem keep_below {r : RS} (h : r.e ≠ 0) (m : Nat) (hm : 0 < m) : r.below (m : Int) = (0, r) := by
  unfold RS.below
  rw [keep_number h, if_neg (by show ¬ (m : Int) ≤ ((0 : Nat) : Int); omega)]
theorem keep_lvs {r : RS} (h : r.e ≠ 0) : lvs r = ([], 0, r) := by
  unfold lvs
  rw [keep_below h 501 (by decide)]; rfl
theorem e0_take (q : RS) (n : Nat) (hq : (q.take n).1 ≠ []) : (q.take n).2.e = 0 := by
  unfold RS.take at hq ⊢
  split
  · rename_i h1; rw [if_pos h1] at hq; exact absurd rfl hq
  · rename_i h1
    rw [if_neg h1] at hq
    split
    · rename_i h2; rw [if_pos h2] at hq; exact absurd rfl hq
    · rfl
theorem e0_number {r : RS} (h : r.number.1 ≠ 0) : r.number.2.e = 0 := by
  unfold RS.number at h ⊢
  split
  · rename_i h1; rw [if_pos h1] at h; exact absurd rfl h
  · rename_i h1
    rw [if_neg h1] at h
    split
    · rename_i h2; rw [if_pos h2] at h; exact absurd rfl h
    · rename_i h2
      rw [if_neg h2] at h
      split
      · rename_i h3; rw [if_pos h3] at h; exact absurd rfl h
      · rename_i h3
        rw [if_neg h3] at h
        refine e0_take _ _ (fun h0 => ?_)
        rw [h0] at h
        exact h rfl
/-- What the document's reader has when the program's list, error and reader are a. -/
structure Rel19 {α : Type} (a : List α × Int × RS) (r : RS) (l : List α) : Prop where
  z : a.2.1 = 0 → r.e = a.2.2.e ∧ (r.e = 0 → r = a.2.2 ∧ l = a.1)
  e : a.2.1 ≠ 0 → r.e = a.2.1
theorem rd_join {a : List Itm × Int × RS} {r c d : RS} {p : List Itm} {u v : List Lef} (h1 : Rel19 a r p) (h2 : Rel19 (lvs r) c u) (h3 : Rel19 (lvs c) d v) : stA a = if d.done ≠ 0 then (stp0, d.done) else (⟨p, u, v⟩, 0) := by
  have keep : ∀ (r : RS), r.e ≠ 0 → ∀ (c : RS) (u : List Lef), Rel19 (lvs r) c u → c.e = r.e := fun r hr c u h => by
    rw [keep_lvs hr] at h
    exact (h.z rfl).1
  have fin : ∀ (d : RS) (v : List Lef), d.e ≠ 0 → (stp0, d.e) = if d.done ≠ 0 then (stp0, d.done) else ((⟨p, u, v⟩ : Stp), (0 : Int)) := fun d v hd => by
    rw [doneE hd, if_pos hd]
  unfold stA
  by_cases ha : a.2.1 ≠ 0
  · rw [if_pos ha, ← h1.e ha]
    have hr : r.e ≠ 0 := by rw [h1.e ha]; exact ha
    have hc := keep r hr c u h2
    have hd := keep c (by rw [hc]; exact hr) d v h3
    rw [← hc, ← hd]
    exact fin d v (by rw [hd, hc]; exact hr)
  rw [if_neg ha]
  obtain ⟨z1, z2⟩ := h1.z (Decidable.not_not.1 ha)
  by_cases hr : r.e ≠ 0
  · have hc := keep r hr c u h2
    have hd := keep c (by rw [hc]; exact hr) d v h3
    have ha2 : a.2.2.e ≠ 0 := by rw [← z1]; exact hr
    rw [keep_lvs ha2]
    unfold stB
    rw [if_neg (fun h => h rfl)]
    show stC a.1 [] (lvs a.2.2) = _
    rw [keep_lvs ha2]
    unfold stC
    rw [if_neg (fun h => h rfl), if_pos (by rw [doneE ha2]; exact ha2), doneE ha2, ← z1, ← hc, ← hd]
    exact fin d v (by rw [hd, hc]; exact hr)
  obtain ⟨y1, y2⟩ := z2 (Decidable.not_not.1 hr)
  rw [← y1, ← y2]
  clear z1 z2 y1 y2 h1 ha a
  unfold stB
  by_cases hb : (lvs r).2.1 ≠ 0
  · rw [if_pos hb, ← h2.e hb]
    have hc : c.e ≠ 0 := by rw [h2.e hb]; exact hb
    have hd := keep c hc d v h3
    rw [← hd]
    exact fin d v (by rw [hd]; exact hc)
  rw [if_neg hb]
  obtain ⟨z1, z2⟩ := h2.z (Decidable.not_not.1 hb)
  unfold stC
  by_cases hc : c.e ≠ 0
  · have hd := keep c hc d v h3
    have hq : (lvs r).2.2.e ≠ 0 := by rw [← z1]; exact hc
    rw [keep_lvs hq, if_neg (fun h => h rfl), if_pos (by rw [doneE hq]; exact hq), doneE hq, ← z1, ← hd]
    exact fin d v (by rw [hd]; exact hc)
  obtain ⟨y1, y2⟩ := z2 (Decidable.not_not.1 hc)
  rw [← y1, ← y2]
  by_cases hv : (lvs c).2.1 ≠ 0
  · rw [if_pos hv, ← h3.e hv]
    exact fin d v (by rw [h3.e hv]; exact hv)
  rw [if_neg hv]
  obtain ⟨x1, x2⟩ := h3.z (Decidable.not_not.1 hv)
  by_cases hd : d.e ≠ 0
  · have hq : (lvs c).2.2.e ≠ 0 := by rw [← x1]; exact hd
    rw [if_pos (by rw [doneE hq]; exact hq), doneE hq, ← x1]
    exact fin d v hd
  obtain ⟨w1, w2⟩ := x2 (Decidable.not_not.1 hd)
  rw [← w1, ← w2]
end Go.Proofs.YtcmgpkibjdbonaaGreat
set_option maxHeartbeats 4000000
namespace Go.Proofs.YtcmgpkibjdbonaaGreat
open Go Go.RowKit
def txB (t : List UInt8) : List UInt8 := numBytes t.length ++ t
theorem cut_spec (s : List UInt8) (n : Nat) (hn : n ≤ 1000000000000) : Spec Tryz.prog 37 [.s s, .i .i64 n] [] (fun v os => v = .s (s.take n) ∧ os = []) := by
  refine spec_of TtOk [] Tryz.func37 rfl Tryz.ntmps37 (by kernel_rfl) rfl rfl (fun C => ?_) rfl
  repeat' (first | refine Awp.seq ?_ | refine Awp.region ?_ | (refine Ops.nil ?_; show Awp _ _ _ _ _) | (refine Ops.nil ?_; show Exists _) | (refine Ops.nil ?_; show endK _ _ _ _ _) | (refine Awp.skip ?_; show Awp _ _ _ _ _) | (refine Awp.skip ?_; show endK _ _ _ _ _) | (refine Awp.skip ?_; show Exists _) | (refine Awp.ret ?_; show endK _ _ _ _ _) | refine o_len rfl TtOk rfl rfl rfl (fun _ => ?_) | refine o_lenOwn rfl TtOk rfl rfl rfl rfl (fun _ => ?_) | (refine o_calm rfl TtOk rfl rfl rfl ?_ (fun _ => ?_); exact nd) | refine o_sliceCp TtOk rfl rfl rfl rfl rfl rfl ?_ | refine a_condT rfl ?_ | refine a_condF rfl ?_ | (refine a_condP rfl (fun hc => ?_) (fun hc => ?_)) <;> (try (exfalso; omega)) | (refine a_condI rfl (fun hc => ?_) (fun hc => ?_)) <;> (try (exfalso; omega)) | (refine a_condN rfl (fun hc => ?_) (fun hc => ?_)) <;> (try (exfalso; omega)) | (refine Awp.cond rfl (fun hc => ?_) (fun hc => ?_)))
  · refine o_sliceStr TtOk rfl 0 n rfl rfl rfl bnd_none (bnd_some rfl rfl) (by omega) (by omega) ?_
    repeat' (first | refine Awp.seq ?_ | refine Awp.region ?_ | (refine Ops.nil ?_; show Awp _ _ _ _ _) | (refine Ops.nil ?_; show Exists _) | (refine Ops.nil ?_; show endK _ _ _ _ _) | (refine Awp.skip ?_; show Awp _ _ _ _ _) | (refine Awp.skip ?_; show endK _ _ _ _ _) | (refine Awp.skip ?_; show Exists _) | (refine Awp.ret ?_; show endK _ _ _ _ _) | refine o_len rfl TtOk rfl rfl rfl (fun _ => ?_) | refine o_lenOwn rfl TtOk rfl rfl rfl rfl (fun _ => ?_) | (refine o_calm rfl TtOk rfl rfl rfl ?_ (fun _ => ?_); exact nd) | refine o_sliceCp TtOk rfl rfl rfl rfl rfl rfl ?_ | refine a_condT rfl ?_ | refine a_condF rfl ?_ | (refine a_condP rfl (fun hc => ?_) (fun hc => ?_)) <;> (try (exfalso; omega)) | (refine a_condI rfl (fun hc => ?_) (fun hc => ?_)) <;> (try (exfalso; omega)) | (refine a_condN rfl (fun hc => ?_) (fun hc => ?_)) <;> (try (exfalso; omega)) | (refine Awp.cond rfl (fun hc => ?_) (fun hc => ?_)))
    exact end_tmp rfl rfl rfl [] [] (CLe.of_eq rfl) .nil ⟨rfl, rfl⟩ _ (.inl rfl)
  · refine end_tmp rfl rfl rfl [] [] (CLe.of_eq ?_) .nil ⟨rfl, rfl⟩ _ (.inl rfl)
    rw [List.take_of_length_le (by omega)]; rfl
theorem byte_of (x : Nat) : AV.i .u8 (IntKind.u8.wrap ((x : Int) % 256)) = byA (UInt8.ofNat x) := by
  rw [← byA_nat, show IntKind.u8.wrap ((x : Int) % 256) = (x : Int) % 256 % 256 from rfl, Int.emod_emod_of_dvd _ (Int.dvd_refl _)]; rfl
theorem dnumber_spec (n : Nat) (hn : n < 9223372036854775808) : Spec Tryz.prog 128 [.i .i64 n] [] (fun v os => v = .s (numBytes n) ∧ os = []) := by
  refine spec_of TtOk [] Tryz.func128 rfl Tryz.ntmps128 (by kernel_rfl) rfl rfl (fun C => ?_) rfl
  have hdl := digits_le 8 n (Nat.lt_trans hn (by decide))
  have hnb : numBytes n = UInt8.ofNat (digits n).length :: digits n := rfl
  rw [hnb]
  repeat' (first | refine Awp.seq ?_ | refine Awp.block ?_ | refine Awp.region ?_ | (refine Ops.nil ?_; show Awp _ _ _ _ _) | (refine Ops.nil ?_; show Exists _) | (refine Ops.nil ?_; show endK _ _ _ _ _) | (refine Awp.skip ?_; show Awp _ _ _ _ _) | (refine Awp.skip ?_; show endK _ _ _ _ _) | (refine Awp.skip ?_; show Exists _) | (refine Awp.exit ?_; show Awp _ _ _ _ _) | (refine Awp.exit ?_; show Exists _) | (refine Awp.exit ?_; show endK _ _ _ _ _) | (refine Awp.ret ?_; show endK _ _ _ _ _) | (refine o_add rfl rfl rfl rfl ?_ ?_; omega) | (refine o_quo rfl rfl rfl rfl ?_ ?_ ?_; omega; omega) | (refine o_rem rfl rfl rfl rfl ?_ ?_ ?_; omega; omega) | refine o_len rfl TtOk rfl rfl rfl (fun _ => ?_) | refine o_lenOwn rfl TtOk rfl rfl rfl rfl (fun _ => ?_) | refine o_convB rfl TtOk rfl rfl rfl rfl ?_ | (refine o_conv64 rfl TtOk rfl rfl rfl rfl ?_ ?_; omega) | (refine o_calm rfl TtOk rfl rfl rfl ?_ (fun _ => ?_); exact nd) | (refine o_calm rfl TtOk rfl rfl rfl ?_ (fun _ => ?_); (show List.length _ + List.length _ ≤ 9223372036854775807; (repeat' (first | rw [List.length_append] | rw [List.length_map] | rw [List.length_cons] | rw [List.length_nil] | rw [List.length_take] | rw [List.length_drop])) <;> omega)) | refine o_buildSlice TtOk rfl rfl rfl rfl rfl rfl rfl rfl rfl rfl rfl (by repeat' (first | exact True.intro | exact rfl | refine ⟨?_, ?_⟩)) (fun _ => ?_) | refine o_toBytes TtOk rfl rfl rfl rfl rfl rfl ?_ | refine a_condT rfl ?_ | refine a_condF rfl ?_ | (refine a_condP rfl (fun hc => ?_) (fun hc => ?_)) <;> (try (exfalso; omega)) | (refine a_condI rfl (fun hc => ?_) (fun hc => ?_)) <;> (try (exfalso; omega)) | (refine a_condN rfl (fun hc => ?_) (fun hc => ?_)) <;> (try (exfalso; omega)) | (refine Awp.cond rfl (fun hc => ?_) (fun hc => ?_)) | refine o_toString TtOk rfl rfl rfl rfl rfl (by first | exact True.intro | exact rfl) rfl rfl rfl rfl ?_)
  refine Awp.loop (fun q : Nat × List UInt8 => ⟨24, [(4, .i .i64 q.1), (3, .s q.2)], []⟩) (fun q => q.1 ≤ n ∧ digits n = digits q.1 ++ q.2) (fun q => q.1) [] (n, []) ⟨Nat.le_refl _, by rw [List.append_nil]⟩ ?_ ?_
  · exact ⟨rfl, ⟨sle_i rfl, sle_s rfl, True.intro⟩, .nil⟩
  rintro ⟨x, t⟩ ⟨hx, ht⟩
  dsimp only at hx ht ⊢
  have htl : t.length ≤ 8 := by rw [ht, List.length_append] at hdl; omega
  repeat' (first | refine Awp.seq ?_ | refine Awp.block ?_ | refine Awp.region ?_ | (refine Ops.nil ?_; show Awp _ _ _ _ _) | (refine Ops.nil ?_; show Exists _) | (refine Ops.nil ?_; show endK _ _ _ _ _) | (refine Awp.skip ?_; show Awp _ _ _ _ _) | (refine Awp.skip ?_; show endK _ _ _ _ _) | (refine Awp.skip ?_; show Exists _) | (refine Awp.exit ?_; show Awp _ _ _ _ _) | (refine Awp.exit ?_; show Exists _) | (refine Awp.exit ?_; show endK _ _ _ _ _) | (refine Awp.ret ?_; show endK _ _ _ _ _) | (refine o_add rfl rfl rfl rfl ?_ ?_; omega) | (refine o_quo rfl rfl rfl rfl ?_ ?_ ?_; omega; omega) | (refine o_rem rfl rfl rfl rfl ?_ ?_ ?_; omega; omega) | refine o_len rfl TtOk rfl rfl rfl (fun _ => ?_) | refine o_lenOwn rfl TtOk rfl rfl rfl rfl (fun _ => ?_) | refine o_convB rfl TtOk rfl rfl rfl rfl ?_ | (refine o_conv64 rfl TtOk rfl rfl rfl rfl ?_ ?_; omega) | (refine o_calm rfl TtOk rfl rfl rfl ?_ (fun _ => ?_); exact nd) | (refine o_calm rfl TtOk rfl rfl rfl ?_ (fun _ => ?_); (show List.length _ + List.length _ ≤ 9223372036854775807; (repeat' (first | rw [List.length_append] | rw [List.length_map] | rw [List.length_cons] | rw [List.length_nil] | rw [List.length_take] | rw [List.length_drop])) <;> omega)) | refine o_buildSlice TtOk rfl rfl rfl rfl rfl rfl rfl rfl rfl rfl rfl (by repeat' (first | exact True.intro | exact rfl | refine ⟨?_, ?_⟩)) (fun _ => ?_) | refine o_toBytes TtOk rfl rfl rfl rfl rfl rfl ?_ | refine a_condT rfl ?_ | refine a_condF rfl ?_ | (refine a_condP rfl (fun hc => ?_) (fun hc => ?_)) <;> (try (exfalso; omega)) | (refine a_condI rfl (fun hc => ?_) (fun hc => ?_)) <;> (try (exfalso; omega)) | (refine a_condN rfl (fun hc => ?_) (fun hc => ?_)) <;> (try (exfalso; omega)) | (refine Awp.cond rfl (fun hc => ?_) (fun hc => ?_)) | refine o_toString TtOk rfl rfl rfl rfl rfl (by first | exact True.intro | exact rfl) rfl rfl rfl rfl ?_)
  · refine o_toString TtOk rfl rfl rfl rfl rfl (by first | exact True.intro | exact rfl) rfl rfl rfl (s := [UInt8.ofNat x]) (by rw [byte_of]; rfl) ?_
    repeat' (first | refine Awp.seq ?_ | refine Awp.block ?_ | refine Awp.region ?_ | (refine Ops.nil ?_; show Awp _ _ _ _ _) | (refine Ops.nil ?_; show Exists _) | (refine Ops.nil ?_; show endK _ _ _ _ _) | (refine Awp.skip ?_; show Awp _ _ _ _ _) | (refine Awp.skip ?_; show endK _ _ _ _ _) | (refine Awp.skip ?_; show Exists _) | (refine Awp.exit ?_; show Awp _ _ _ _ _) | (refine Awp.exit ?_; show Exists _) | (refine Awp.exit ?_; show endK _ _ _ _ _) | (refine Awp.ret ?_; show endK _ _ _ _ _) | (refine o_add rfl rfl rfl rfl ?_ ?_; omega) | (refine o_quo rfl rfl rfl rfl ?_ ?_ ?_; omega; omega) | (refine o_rem rfl rfl rfl rfl ?_ ?_ ?_; omega; omega) | refine o_len rfl TtOk rfl rfl rfl (fun _ => ?_) | refine o_lenOwn rfl TtOk rfl rfl rfl rfl (fun _ => ?_) | refine o_convB rfl TtOk rfl rfl rfl rfl ?_ | (refine o_conv64 rfl TtOk rfl rfl rfl rfl ?_ ?_; omega) | (refine o_calm rfl TtOk rfl rfl rfl ?_ (fun _ => ?_); exact nd) | (refine o_calm rfl TtOk rfl rfl rfl ?_ (fun _ => ?_); (show List.length _ + List.length _ ≤ 9223372036854775807; (repeat' (first | rw [List.length_append] | rw [List.length_map] | rw [List.length_cons] | rw [List.length_nil] | rw [List.length_take] | rw [List.length_drop])) <;> omega)) | refine o_buildSlice TtOk rfl rfl rfl rfl rfl rfl rfl rfl rfl rfl rfl (by repeat' (first | exact True.intro | exact rfl | refine ⟨?_, ?_⟩)) (fun _ => ?_) | refine o_toBytes TtOk rfl rfl rfl rfl rfl rfl ?_ | refine a_condT rfl ?_ | refine a_condF rfl ?_ | (refine a_condP rfl (fun hc => ?_) (fun hc => ?_)) <;> (try (exfalso; omega)) | (refine a_condI rfl (fun hc => ?_) (fun hc => ?_)) <;> (try (exfalso; omega)) | (refine a_condN rfl (fun hc => ?_) (fun hc => ?_)) <;> (try (exfalso; omega)) | (refine Awp.cond rfl (fun hc => ?_) (fun hc => ?_)) | refine o_toString TtOk rfl rfl rfl rfl rfl (by first | exact True.intro | exact rfl) rfl rfl rfl rfl ?_)
    refine ⟨(x / 256, UInt8.ofNat x :: t), [], ⟨by show x / 256 ≤ n; omega, by rw [ht, digits_pos (show x ≠ 0 by omega), List.append_assoc]; rfl⟩, by show x / 256 < x; omega, rfl, ⟨sle_i (by omega), sle_s rfl, True.intro⟩, .nil⟩
  · have hx0 : x = 0 := by omega
    subst hx0
    rw [digits_zero, List.nil_append] at ht
    subst ht
    refine o_toString TtOk rfl rfl rfl rfl rfl (by first | exact True.intro | exact rfl) rfl rfl rfl (s := [UInt8.ofNat (digits n).length]) ?_ ?_
    · rw [byA_nat]; rfl
    repeat' (first | refine Awp.seq ?_ | refine Awp.block ?_ | refine Awp.region ?_ | (refine Ops.nil ?_; show Awp _ _ _ _ _) | (refine Ops.nil ?_; show Exists _) | (refine Ops.nil ?_; show endK _ _ _ _ _) | (refine Awp.skip ?_; show Awp _ _ _ _ _) | (refine Awp.skip ?_; show endK _ _ _ _ _) | (refine Awp.skip ?_; show Exists _) | (refine Awp.exit ?_; show Awp _ _ _ _ _) | (refine Awp.exit ?_; show Exists _) | (refine Awp.exit ?_; show endK _ _ _ _ _) | (refine Awp.ret ?_; show endK _ _ _ _ _) | (refine o_add rfl rfl rfl rfl ?_ ?_; omega) | (refine o_quo rfl rfl rfl rfl ?_ ?_ ?_; omega; omega) | (refine o_rem rfl rfl rfl rfl ?_ ?_ ?_; omega; omega) | refine o_len rfl TtOk rfl rfl rfl (fun _ => ?_) | refine o_lenOwn rfl TtOk rfl rfl rfl rfl (fun _ => ?_) | refine o_convB rfl TtOk rfl rfl rfl rfl ?_ | (refine o_conv64 rfl TtOk rfl rfl rfl rfl ?_ ?_; omega) | (refine o_calm rfl TtOk rfl rfl rfl ?_ (fun _ => ?_); exact nd) | (refine o_calm rfl TtOk rfl rfl rfl ?_ (fun _ => ?_); (show List.length _ + List.length _ ≤ 9223372036854775807; (repeat' (first | rw [List.length_append] | rw [List.length_map] | rw [List.length_cons] | rw [List.length_nil] | rw [List.length_take] | rw [List.length_drop])) <;> omega)) | refine o_buildSlice TtOk rfl rfl rfl rfl rfl rfl rfl rfl rfl rfl rfl (by repeat' (first | exact True.intro | exact rfl | refine ⟨?_, ?_⟩)) (fun _ => ?_) | refine o_toBytes TtOk rfl rfl rfl rfl rfl rfl ?_ | refine a_condT rfl ?_ | refine a_condF rfl ?_ | (refine a_condP rfl (fun hc => ?_) (fun hc => ?_)) <;> (try (exfalso; omega)) | (refine a_condI rfl (fun hc => ?_) (fun hc => ?_)) <;> (try (exfalso; omega)) | (refine a_condN rfl (fun hc => ?_) (fun hc => ?_)) <;> (try (exfalso; omega)) | (refine Awp.cond rfl (fun hc => ?_) (fun hc => ?_)) | refine o_toString TtOk rfl rfl rfl rfl rfl (by first | exact True.intro | exact rfl) rfl rfl rfl rfl ?_)
    exact end_tmp rfl rfl rfl [] [] (CLe.of_eq rfl) .nil ⟨rfl, rfl⟩ _ (.inl rfl)
end Go.Proofs.YtcmgpkibjdbonaaGreat
set_option maxHeartbeats 16000000
set_option maxRecDepth 100000
namespace Go.Proofs.YtcmgpkibjdbonaaGreat
open Go Go.RowKit
theorem ritem15_spec (r : RS) (hok : r.ok) : Spec Tryz.prog 120 [rdA r] [] (fun v os => v = .tup [rdA r.itm.2, r.itm.1.R] ∧ os = []) := by
  have k1 := cnumber_spec r hok
  have k2 := clabel_spec _ (RS.ok_number hok)
  have k3 := clabel_spec _ (RS.ok_label (RS.ok_number hok))
  have k4 := cnumber_spec _ (RS.ok_label (RS.ok_label (RS.ok_number hok)))
  show Spec Tryz.prog 120 [rdA r] [] (fun v os => v = .tup [rdA r.number.2.label.2.label.2.number.2, .agg [.i .i64 (r.number.1 : Nat), labA r.number.2.label.1, labA r.number.2.label.2.label.1, .i .i64 (r.number.2.label.2.label.2.number.1 : Nat)]] ∧ os = [])
  generalize r.number.2.label.2.label.2.number = q4 at *
  generalize r.number.2.label.2.label = q3 at *
  generalize r.number.2.label = q2 at *
  generalize r.number = q1 at *
  refine spec_of TtOk [] Tryz.func120 rfl Tryz.ntmps120 (by kernel_rfl) rfl rfl (fun C => ?_) rfl
  repeat' (first | refine Awp.seq ?_ | refine Awp.region ?_ | (refine Ops.nil ?_; show Awp _ _ _ _ _) | (refine Ops.nil ?_; show Exists _) | (refine Ops.nil ?_; show endK _ _ _ _ _) | (refine Awp.ret ?_; show endK _ _ _ _ _) | (refine o_calm rfl TtOk rfl rfl rfl ?_ (fun _ => ?_); exact nd) | refine o_alloc (d := 2) rfl TtOk rfl rfl rfl (fun b2 => ?_) | refine o_alloc (d := 3) rfl TtOk rfl rfl rfl (fun b3 => ?_) | refine o_alloc (d := 4) rfl TtOk rfl rfl rfl (fun b4 => ?_) | refine o_alloc (d := 6) rfl TtOk rfl rfl rfl (fun b6 => ?_) | refine o_alloc (d := 7) rfl TtOk rfl rfl rfl (fun b7 => ?_) | refine o_alloc (d := 8) rfl TtOk rfl rfl rfl (fun b8 => ?_) | refine o_alloc (d := 9) rfl TtOk rfl rfl rfl (fun b9 => ?_) | refine o_alloc (d := 10) rfl TtOk rfl rfl rfl (fun b10 => ?_) | refine o_box (d := 1) rfl rfl rfl rfl (fun b1 => ?_) | refine o_store TtOk rfl rfl rfl rfl rfl rfl rfl ⟨rfl, rfl⟩ rfl rfl rfl rfl rfl ?_ | refine o_build TtOk rfl rfl rfl rfl rfl rfl (by repeat' (first | exact True.intro | exact rfl | refine ⟨?_, ?_⟩)) ?_ | refine o_buildArr0 TtOk rfl rfl rfl rfl ?_ | refine a_any 5 [2, 3] [32] [] [1, 4, 0, 2, 3, 5, 6, 7] (by kernel_rfl) (by kernel_rfl) (by kernel_rfl) rfl rfl rfl ?_ | (refine o_call0 rfl (k1) ⟨SLe.of_eq rfl, True.intro⟩ rfl ?_; rintro _ _ ⟨rfl, rfl⟩; refine ⟨rfl, ?_⟩) | (refine o_call0 rfl (k2) ⟨SLe.of_eq rfl, True.intro⟩ rfl ?_; rintro _ _ ⟨rfl, rfl⟩; refine ⟨rfl, ?_⟩) | (refine o_call0 rfl (k3) ⟨SLe.of_eq rfl, True.intro⟩ rfl ?_; rintro _ _ ⟨rfl, rfl⟩; refine ⟨rfl, ?_⟩) | (refine o_call0 rfl (k4) ⟨SLe.of_eq rfl, True.intro⟩ rfl ?_; rintro _ _ ⟨rfl, rfl⟩; refine ⟨rfl, ?_⟩))
  all_goals
    refine end_all [] [] (.tup [rdA q4.2, .agg [.i .i64 (q1.1 : Nat), labA q2.1, labA q3.1, .i .i64 (q4.1 : Nat)]]) rfl ?_ ?_ (rle_tup2 (CLe.of_eq rfl) (CLe.of_eq rfl) rfl rfl) .nil ⟨rfl, rfl⟩ _ (.inl rfl)
    · repeat' (first | exact True.intro | exact rfl | refine ⟨?_, ?_⟩)
    · exact ⟨trivial, trivial, trivial⟩
theorem rleaf15_spec (r : RS) (hok : r.ok) : Spec Tryz.prog 197 [rdA r] [] (fun v os => v = .tup [rdA r.lef.2, r.lef.1.A] ∧ os = []) := by
  have k2 := clabel_spec _ hok
  have k3 := clabel_spec _ (RS.ok_label hok)
  have k4 := cnumber_spec _ (RS.ok_label (RS.ok_label hok))
  show Spec Tryz.prog 197 [rdA r] [] (fun v os => v = .tup [rdA r.label.2.label.2.number.2, .agg [labA r.label.1, labA r.label.2.label.1, .i .i64 (r.label.2.label.2.number.1 : Nat)]] ∧ os = [])
  generalize r.label.2.label.2.number = q4 at *
  generalize r.label.2.label = q3 at *
  generalize r.label = q2 at *
  refine spec_of TtOk [] Tryz.func197 rfl Tryz.ntmps197 (by kernel_rfl) rfl rfl (fun C => ?_) rfl
  repeat' (first | refine Awp.seq ?_ | refine Awp.region ?_ | (refine Ops.nil ?_; show Awp _ _ _ _ _) | (refine Ops.nil ?_; show Exists _) | (refine Ops.nil ?_; show endK _ _ _ _ _) | (refine Awp.ret ?_; show endK _ _ _ _ _) | (refine o_calm rfl TtOk rfl rfl rfl ?_ (fun _ => ?_); exact nd) | refine o_alloc (d := 2) rfl TtOk rfl rfl rfl (fun b2 => ?_) | refine o_alloc (d := 3) rfl TtOk rfl rfl rfl (fun b3 => ?_) | refine o_alloc (d := 4) rfl TtOk rfl rfl rfl (fun b4 => ?_) | refine o_alloc (d := 5) rfl TtOk rfl rfl rfl (fun b5 => ?_) | refine o_alloc (d := 6) rfl TtOk rfl rfl rfl (fun b6 => ?_) | refine o_alloc (d := 7) rfl TtOk rfl rfl rfl (fun b7 => ?_) | refine o_alloc (d := 8) rfl TtOk rfl rfl rfl (fun b8 => ?_) | refine o_box (d := 1) rfl rfl rfl rfl (fun b1 => ?_) | refine o_store TtOk rfl rfl rfl rfl rfl rfl rfl ⟨rfl, rfl⟩ rfl rfl rfl rfl rfl ?_ | refine o_build TtOk rfl rfl rfl rfl rfl rfl (by repeat' (first | exact True.intro | exact rfl | refine ⟨?_, ?_⟩)) ?_ | refine o_buildArr0 TtOk rfl rfl rfl rfl ?_ | refine a_any 4 [2, 3] [25] [] [3, 0, 1, 2, 4, 5, 6] (by kernel_rfl) (by kernel_rfl) (by kernel_rfl) rfl rfl rfl ?_ | (refine o_call0 rfl (k2) ⟨SLe.of_eq rfl, True.intro⟩ rfl ?_; rintro _ _ ⟨rfl, rfl⟩; refine ⟨rfl, ?_⟩) | (refine o_call0 rfl (k3) ⟨SLe.of_eq rfl, True.intro⟩ rfl ?_; rintro _ _ ⟨rfl, rfl⟩; refine ⟨rfl, ?_⟩) | (refine o_call0 rfl (k4) ⟨SLe.of_eq rfl, True.intro⟩ rfl ?_; rintro _ _ ⟨rfl, rfl⟩; refine ⟨rfl, ?_⟩))
  all_goals
    refine end_all [] [] (.tup [rdA q4.2, .agg [labA q2.1, labA q3.1, .i .i64 (q4.1 : Nat)]]) rfl ?_ ?_ (rle_tup2 (CLe.of_eq rfl) (CLe.of_eq rfl) rfl rfl) .nil ⟨rfl, rfl⟩ _ (.inl rfl)
    · repeat' (first | exact True.intro | exact rfl | refine ⟨?_, ?_⟩)
    · exact ⟨trivial, trivial, trivial⟩
theorem dlabel_spec (l : List UInt8) : Spec Tryz.prog 130 [labA l] [] (fun v os => v = .s l ∧ os = []) := by
  refine spec_of TtOk [] Tryz.func130 rfl Tryz.ntmps130 (by kernel_rfl) rfl rfl (fun C => ?_) rfl
  repeat' (first | (refine a_freezeV 1 1 rfl rfl rfl ?_) | refine Awp.seq ?_ | refine Awp.region ?_ | (refine Ops.nil ?_; show Awp _ _ _ _ _) | (refine Ops.nil ?_; show Exists _) | (refine Ops.nil ?_; show endK _ _ _ _ _) | (refine Awp.ret ?_; show endK _ _ _ _ _) | refine o_convB rfl TtOk rfl rfl rfl rfl ?_ | (refine o_conv64 rfl TtOk rfl rfl rfl rfl ?_ ?_; omega) | (refine o_calm rfl TtOk rfl rfl rfl ?_ (fun _ => ?_); exact nd) | refine o_box (d := 1) rfl rfl rfl rfl (fun b1 => ?_) | refine o_sliceCp TtOk rfl rfl rfl rfl rfl rfl ?_ | refine o_toBytes TtOk rfl rfl rfl rfl rfl rfl ?_ | refine o_toString TtOk rfl rfl rfl rfl rfl (by first | exact True.intro | exact rfl) rfl rfl rfl rfl ?_)
  all_goals exact end_tmp rfl rfl rfl [] [] (CLe.of_eq rfl) .nil ⟨rfl, rfl⟩ _ (.inl rfl)
theorem rwrite15_spec (x : Itm) (hx : x.ok) (hn : 0 ≤ x.n ∧ x.n < 9223372036854775808) (ht : 0 ≤ x.t ∧ x.t < 9223372036854775808) : Spec Tryz.prog 129 [x.R] [] (fun v os => v = .s (itmBy x) ∧ os = []) := by
  obtain ⟨n, l, s, t⟩ := x
  obtain ⟨hl, hs⟩ := hx
  dsimp only at hl hs hn ht
  have k1 := dnumber_spec n.toNat (by omega)
  have k2 := dlabel_spec l
  have k3 := dlabel_spec s
  have k4 := dnumber_spec t.toNat (by omega)
  rw [Int.toNat_of_nonneg hn.1] at k1
  rw [Int.toNat_of_nonneg ht.1] at k4
  have e1 : (numBytes n.toNat).length ≤ 9 := numBytes_len _ (by omega)
  have e4 : (numBytes t.toNat).length ≤ 9 := numBytes_len _ (by omega)
  show Spec Tryz.prog 129 [.agg [.i .i64 n, labA l, labA s, .i .i64 t]] [] (fun v os => v = .s (((numBytes n.toNat ++ l) ++ s) ++ numBytes t.toNat) ∧ os = [])
  generalize numBytes n.toNat = a at *
  generalize numBytes t.toNat = b at *
  refine spec_of TtOk [] Tryz.func129 rfl Tryz.ntmps129 (by kernel_rfl) rfl rfl (fun C => ?_) rfl
  repeat' (first | refine Awp.seq ?_ | refine Awp.region ?_ | (refine Ops.nil ?_; show Awp _ _ _ _ _) | (refine Ops.nil ?_; show Exists _) | (refine Ops.nil ?_; show endK _ _ _ _ _) | (refine Awp.ret ?_; show endK _ _ _ _ _) | (refine o_add rfl rfl rfl rfl ?_ ?_; omega) | (refine o_calm rfl TtOk rfl rfl rfl ?_ (fun _ => ?_); exact nd) | refine o_box (d := 1) rfl rfl rfl rfl (fun b1 => ?_) | (refine o_calm rfl TtOk rfl rfl rfl ?_ (fun _ => ?_); (show List.length _ + List.length _ ≤ 9223372036854775807; (repeat' (first | rw [List.length_append] | rw [List.length_map] | rw [List.length_cons] | rw [List.length_nil] | rw [List.length_take] | rw [List.length_drop])) <;> omega)) | refine a_any 1 [] [] [] [0, 3, 7, 11, 1, 4, 8, 12, 2, 5, 6, 9, 10, 13, 14, 15] (by kernel_rfl) (by kernel_rfl) (by kernel_rfl) rfl rfl rfl ?_ | (refine o_call0 rfl (k1) ⟨SLe.of_eq rfl, True.intro⟩ rfl ?_; rintro _ _ ⟨rfl, rfl⟩; refine ⟨rfl, ?_⟩) | (refine o_call0 rfl (k2) ⟨SLe.of_eq rfl, True.intro⟩ rfl ?_; rintro _ _ ⟨rfl, rfl⟩; refine ⟨rfl, ?_⟩) | (refine o_call0 rfl (k3) ⟨SLe.of_eq rfl, True.intro⟩ rfl ?_; rintro _ _ ⟨rfl, rfl⟩; refine ⟨rfl, ?_⟩) | (refine o_call0 rfl (k4) ⟨SLe.of_eq rfl, True.intro⟩ rfl ?_; rintro _ _ ⟨rfl, rfl⟩; refine ⟨rfl, ?_⟩))
  all_goals exact end_tmp rfl rfl rfl [] [] (CLe.of_eq rfl) .nil ⟨rfl, rfl⟩ _ (.inl rfl)
end Go.Proofs.YtcmgpkibjdbonaaGreat
namespace Go.Proofs.YtcmgpkibjdbonaaGreat
open Go Go.RowKit
section
variable {P : Program} {C : Ctx} {S : St} {K : Exit → St → Prop}
end
end Go.Proofs.YtcmgpkibjdbonaaGreat
