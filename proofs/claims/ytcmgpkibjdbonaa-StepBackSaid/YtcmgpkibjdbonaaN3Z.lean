/- Nodes go and come back. No program in sight. -/
import Derived.Test.YtcmgpkibjdbonaaKPZ
import Derived.Test.YtcmgpkibjdbonaaGHZ
import Derived.Test.YtcmgpkibjdbonaaC4
import Derived.Test.YtcmgpkibjdbonaaV20Z
set_option maxHeartbeats 4000000
namespace Go.Proofs.Ytcmgpkibjdbonaa
open Go Go.RowKit
/-- A reader that is well, with this still to come. -/
structure RS.at_ (r : RS) (t : List UInt8) : Prop where
  e : r.e = 0
  rest : r.rest = t
theorem at_step {s : List UInt8} {p n : Nat} {e : Int} {L t : List UInt8} (h : (RS.mk s p e).rest = L ++ t) (hn : n = L.length) : (RS.mk s (p + n) 0).at_ t := ⟨rfl, by
  rw [RS.rest_step]
  have h : s.drop p = L ++ t := h
  show (s.drop p).drop n = t
  rw [h, hn, List.drop_append_of_le_length (Nat.le_refl _), List.drop_length, List.nil_append]⟩
theorem at_num {r : RS} {n : Nat} {t : List UInt8} (hn : n < 9223372036854775808) (h : r.at_ (numBytes n ++ t)) : r.number.1 = n ∧ r.number.2.at_ t := by
  rw [RS.number_reads r h.e n hn t h.rest]
  obtain ⟨s, p, e⟩ := r
  exact ⟨rfl, at_step h.rest rfl⟩
theorem at_lab {r : RS} {l t : List UInt8} (hl : l.length = 32) (h : r.at_ (l ++ t)) : r.label.1 = l ∧ r.label.2.at_ t := by
  rw [RS.label_reads r h.e l hl t h.rest]
  obtain ⟨s, p, e⟩ := r
  exact ⟨rfl, at_step h.rest hl.symm⟩
theorem at_open {s : List UInt8} (h : s.length ≤ 65536) : (RS.open s).at_ s := by
  unfold RS.open
  rw [if_neg (by omega)]
  exact ⟨rfl, by unfold RS.rest; rw [List.drop_zero]⟩
theorem at_done {r : RS} (h : r.at_ []) : r.done = 0 := by
  unfold RS.done
  have h2 : r.s.length - r.p = 0 := by rw [← RS.rest_len, h.rest]; rfl
  rw [if_neg (by omega)]
  exact h.e
theorem put_num {s : WS} {n : Int} (h : 0 ≤ n) : s.number n = s.put (numBytes n.toNat) := by unfold WS.number; rw [if_neg (by omega)]
/-- An item's bytes. -/
def itmBy (x : Itm) : List UInt8 := ((numBytes x.n.toNat ++ x.l) ++ x.s) ++ numBytes x.t.toNat
def lefBy (x : Lef) : List UInt8 := (x.l ++ x.v) ++ numBytes x.t.toNat
theorem WS.itm_put {s : WS} {x : Itm} (hn : 0 ≤ x.n) (ht : 0 ≤ x.t) : s.itm x = s.put (itmBy x) := by
  unfold WS.itm
  rw [put_num hn, put_num ht]
  unfold WS.put itmBy
  simp only [List.append_assoc]
theorem WS.lef_put {s : WS} {x : Lef} (ht : 0 ≤ x.t) : s.lef x = s.put (lefBy x) := by
  unfold WS.lef
  rw [put_num ht]
  unfold WS.put lefBy
  simp only [List.append_assoc]
theorem at_itm {r : RS} {x : Itm} {t : List UInt8} (hx : x.ok) (hn : 0 ≤ x.n ∧ x.n < 9223372036854775808) (ht : 0 ≤ x.t ∧ x.t < 9223372036854775808) (h : r.at_ (itmBy x ++ t)) : r.itm.1 = x ∧ r.itm.2.at_ t := by
  unfold itmBy at h
  rw [List.append_assoc, List.append_assoc, List.append_assoc] at h
  obtain ⟨a1, a2⟩ := at_num (by omega) h
  obtain ⟨b1, b2⟩ := at_lab hx.1 a2
  obtain ⟨c1, c2⟩ := at_lab hx.2 b2
  obtain ⟨d1, d2⟩ := at_num (by omega) c2
  refine ⟨?_, d2⟩
  obtain ⟨n, l, s, tt⟩ := x
  show Itm.mk _ _ _ _ = _
  rw [a1, b1, c1, d1]
  dsimp only at hn ht ⊢
  rw [Int.toNat_of_nonneg hn.1, Int.toNat_of_nonneg ht.1]
theorem at_lef {r : RS} {x : Lef} {t : List UInt8} (hx : x.ok) (ht : 0 ≤ x.t ∧ x.t < 9223372036854775808) (h : r.at_ (lefBy x ++ t)) : r.lef.1 = x ∧ r.lef.2.at_ t := by
  unfold lefBy at h
  rw [List.append_assoc, List.append_assoc] at h
  obtain ⟨b1, b2⟩ := at_lab hx.1 h
  obtain ⟨c1, c2⟩ := at_lab hx.2 b2
  obtain ⟨d1, d2⟩ := at_num (by omega) c2
  refine ⟨?_, d2⟩
  obtain ⟨l, v, tt⟩ := x
  show Lef.mk _ _ _ = _
  rw [b1, c1, d1]
  dsimp only at ht ⊢
  rw [Int.toNat_of_nonneg ht.1]
theorem chkLf_t {x : Lef} (h : chkLf x = 0) : 0 ≤ x.t ∧ x.t ≤ 1073741824 := by unfold chkLf at h; split at h <;> omega
end Go.Proofs.Ytcmgpkibjdbonaa
set_option maxHeartbeats 4000000
namespace Go.Proofs.Ytcmgpkibjdbonaa
open Go Go.RowKit
section
variable {m : OM} {P : Program} {T : List (Nat × TI)} {C : Ctx} {ops : Array Oper} {l : List Oper} {K : St → Prop} {n : Nat} {sl : List (Nat × AV)} {hp : List (Nat × HO)} {d : Nat} {ty : Nat} {pos : String} {aft : Array Edge} {gd : Option (Nat × Bool)}
end
end Go.Proofs.Ytcmgpkibjdbonaa
set_option maxHeartbeats 16000000
set_option maxRecDepth 100000
namespace Go.Proofs.Ytcmgpkibjdbonaa
open Go Go.RowKit
/-- A proof's bytes: the path's, all of them; the error. -/
def bysL (s : WS) : List Itm → List UInt8 × Int
  | [] => s.done
  | x :: r => if goodI x = true then bysL (s.itm x) r else ([], 1)
def bysT (s : WS) (path : List Itm) : List UInt8 × Int := if 256 < path.length then ([], 2) else bysL (s.number path.length) path
def bysP (p : Prf) : List UInt8 × Int :=
  if p.e = 0 then bysT (w0.number 0) p.path
  else if p.e = 1 then (if (lfBy p.lf).2 ≠ 0 then ([], (lfBy p.lf).2) else bysT ((w0.number 1).text (lfBy p.lf).1) p.path)
  else if p.e = 2 then (if (inBy p.a p.b).2 ≠ 0 then ([], (inBy p.a p.b).2) else bysT ((w0.number 2).text (inBy p.a p.b).1) p.path)
  else ([], 1)
def byN (lf : Lef) (a b : Itm) : Nat → AV
  | 0 => .nili
  | 1 => .ifc 29 lf.A
  | _ => .ifc 35 (.agg [a.A, b.A])
end Go.Proofs.Ytcmgpkibjdbonaa
set_option maxHeartbeats 16000000
set_option maxRecDepth 100000
namespace Go.Proofs.Ytcmgpkibjdbonaa
open Go Go.RowKit
/-- The rest of a proof's bytes: the path. -/
def rdL (e : Int) (lf : Lef) (a b : Itm) : Nat → List Itm → RS → Prf × Int
  | 0, p, r => if r.done ≠ 0 then (prf0, r.done) else (⟨e, lf, a, b, p⟩, 0)
  | k + 1, p, r => if r.itm.2.done ≠ 0 ∧ r.itm.2.done ≠ 3 then (prf0, r.itm.2.done) else if goodI r.itm.1 = true then rdL e lf a b k (p ++ [r.itm.1]) r.itm.2 else (prf0, 1)
def rdT (e : Int) (lf : Lef) (a b : Itm) (r : RS) : Prf × Int := rdL e lf a b (r.below 257).1 [] (r.below 257).2
/-- What bytes are as a proof; the error. -/
def rdN (e : Nat) (n : Nod) (r : RS) : Prf × Int :=
  match n with
  | .lf x => if e = 1 then rdT 1 x itm0 itm0 r else (prf0, 3)
  | .inn a b => if e = 2 then rdT 2 lef0 a b r else (prf0, 3)
  | .no => (prf0, 3)
def prRd (s : List UInt8) : Prf × Int :=
  let q := (RS.open s).below 3
  if q.1 = 0 then rdT 0 lef0 itm0 itm0 q.2
  else if q.2.text.2.done ≠ 0 ∧ q.2.text.2.done ≠ 3 then (prf0, q.2.text.2.done)
  else if (nodRd q.2.text.1).2 ≠ 0 then (prf0, (nodRd q.2.text.1).2)
  else rdN q.1 (nodRd q.2.text.1).1 q.2.text.2
theorem below_lt (r : RS) (m : Nat) (hm : 0 < m) : (r.below m).1 < m := by
  unfold RS.below
  split
  · exact hm
  · omega
end Go.Proofs.Ytcmgpkibjdbonaa
set_option maxHeartbeats 4000000
namespace Go.Proofs.Ytcmgpkibjdbonaa
open Go Go.RowKit
theorem at_done' {r : RS} {t : List UInt8} (h : r.at_ t) : r.done = 0 ∨ r.done = 3 := by
  unfold RS.done
  split
  · exact .inr rfl
  · exact .inl h.e
theorem at_below {r : RS} {n m : Nat} {t : List UInt8} (hm : n < m) (hn : n < 9223372036854775808) (h : r.at_ (numBytes n ++ t)) : (r.below m).1 = n ∧ (r.below m).2.at_ t := by
  obtain ⟨a, b⟩ := at_num hn h
  unfold RS.below
  rw [if_neg (by rw [a]; omega)]
  exact ⟨a, b⟩
theorem good_n' {x : Itm} (h : goodI x = true) : 0 ≤ x.n ∧ x.n ≤ 256 := by
  unfold goodI goodP at h
  simp only [Bool.and_eq_true, decide_eq_true_eq] at h
  exact ⟨h.1.1, h.1.2.1⟩
theorem good_t' {x : Itm} (h : goodI x = true) : 0 ≤ x.t ∧ x.t ≤ 1073741824 := by
  unfold goodI at h
  simp only [Bool.and_eq_true, decide_eq_true_eq] at h
  exact h.2
def pathBy (path : List Itm) : List UInt8 := path.flatMap itmBy
theorem good_bnd {x : Itm} (h : goodI x = true) : 0 ≤ x.n ∧ x.n ≤ 256 ∧ 0 ≤ x.t ∧ x.t ≤ 1073741824 := by
  have a := good_n' h
  have b := good_t' h
  exact ⟨a.1, a.2, b.1, b.2⟩
/-- A proof whose parts that are not its end's are none. -/
def cleanP (p : Prf) : Prf := ⟨p.e, if p.e = 1 then p.lf else lef0, if p.e = 2 then p.a else itm0, if p.e = 2 then p.b else itm0, p.path⟩
theorem ws_num (s : WS) (n : Nat) : s.number n = s.put (numBytes n) := by
  rw [put_num (by omega), Int.toNat_natCast]
end Go.Proofs.Ytcmgpkibjdbonaa
set_option maxHeartbeats 4000000
namespace Go.Proofs.Ytcmgpkibjdbonaa
open Go Go.RowKit
theorem rest_of {r : RS} {L t : List UInt8} (n : Nat) (h : r.rest = L ++ t) (hn : n = L.length) : r.rest = L ++ (RS.mk r.s (r.p + n) 0).rest := by
  have h2 : (RS.mk r.s r.p 0).rest = L ++ t := h
  rw [RS.rest_step, h2, hn, List.drop_append_of_le_length (Nat.le_refl _), List.drop_length, List.nil_append, ← h]
theorem number_rest {r : RS} (hok : r.ok) (h : r.number.2.e = 0) : r.e = 0 ∧ r.number.1 < 9223372036854775808 ∧ r.rest = numBytes r.number.1 ++ r.number.2.rest := by
  obtain ⟨a, b, t, c, d⟩ := RS.number_inv hok h
  refine ⟨a, b, ?_⟩
  rw [d]; exact rest_of _ c rfl
theorem label_rest {r : RS} (hok : r.ok) (h : r.label.2.e = 0) : r.e = 0 ∧ r.rest = r.label.1 ++ r.label.2.rest := by
  obtain ⟨a, b, t, c, d⟩ := RS.label_inv hok h
  refine ⟨a, ?_⟩
  rw [d]; exact rest_of 32 c b.symm
theorem itm_rest {r : RS} (hok : r.ok) (h : r.itm.2.e = 0) : r.e = 0 ∧ r.rest = itmBy r.itm.1 ++ r.itm.2.rest ∧ 0 ≤ r.itm.1.n ∧ 0 ≤ r.itm.1.t := by
  have h : r.number.2.label.2.label.2.number.2.e = 0 := h
  have o1 := RS.ok_number hok
  have o2 := RS.ok_label o1
  have o3 := RS.ok_label o2
  obtain ⟨a1, _, a3⟩ := number_rest o3 h
  obtain ⟨b1, b3⟩ := label_rest o2 a1
  obtain ⟨c1, c3⟩ := label_rest o1 b1
  obtain ⟨d1, _, d3⟩ := number_rest hok c1
  refine ⟨d1, ?_, ?_, ?_⟩
  · rw [d3, c3, b3, a3]
    show _ = (((numBytes ((r.number.1 : Nat) : Int).toNat ++ r.number.2.label.1) ++ r.number.2.label.2.label.1) ++ numBytes ((r.number.2.label.2.label.2.number.1 : Nat) : Int).toNat) ++ r.number.2.label.2.label.2.number.2.rest
    rw [Int.toNat_natCast, Int.toNat_natCast, List.append_assoc, List.append_assoc, List.append_assoc]
  · show (0 : Int) ≤ ((r.number.1 : Nat) : Int); omega
  · show (0 : Int) ≤ ((r.number.2.label.2.label.2.number.1 : Nat) : Int); omega
theorem lef_rest {r : RS} (hok : r.ok) (h : r.lef.2.e = 0) : r.e = 0 ∧ r.rest = lefBy r.lef.1 ++ r.lef.2.rest := by
  have h : r.label.2.label.2.number.2.e = 0 := h
  have o2 := RS.ok_label hok
  have o3 := RS.ok_label o2
  obtain ⟨a1, _, a3⟩ := number_rest o3 h
  obtain ⟨b1, b3⟩ := label_rest o2 a1
  obtain ⟨c1, c3⟩ := label_rest hok b1
  refine ⟨c1, ?_⟩
  rw [c3, b3, a3]
  show _ = ((r.label.1 ++ r.label.2.label.1) ++ numBytes ((r.label.2.label.2.number.1 : Nat) : Int).toNat) ++ r.label.2.label.2.number.2.rest
  rw [Int.toNat_natCast, List.append_assoc, List.append_assoc]
theorem done_zero {r : RS} (h : r.done = 0) : r.e = 0 ∧ r.rest = [] := by
  unfold RS.done at h
  split at h
  · cases h
  · rename_i hh
    refine ⟨h, ?_⟩
    have : ¬ r.p < r.s.length := fun hp => hh ⟨h, hp⟩
    unfold RS.rest
    exact List.drop_of_length_le (by omega)
theorem below_inv {r : RS} {m : Nat} (hok : r.ok) (h : (r.below m).2.e = 0) : r.e = 0 ∧ (r.below m).1 < m ∧ r.rest = numBytes (r.below m).1 ++ (r.below m).2.rest := by
  unfold RS.below at h ⊢
  by_cases hm : (m : Int) ≤ (r.number.1 : Int)
  · rw [if_pos hm] at h; exact (RS.fail_inv (by decide) h).elim
  · rw [if_neg hm] at h ⊢
    obtain ⟨a, _, c⟩ := number_rest hok h
    exact ⟨a, by omega, c⟩
def nodBy : Nod → List UInt8
  | .no => []
  | .lf x => 0 :: lefBy x
  | .inn a b => 1 :: (itmBy a ++ itmBy b)
theorem open_e {s : List UInt8} (h : (RS.open s).e = 0) : s.length ≤ 65536 := by
  unfold RS.open at h
  by_cases hl : 65536 < s.length
  · have h : (if 65536 < s.length then (2 : Int) else 0) = 0 := h
    rw [if_pos hl] at h; cases h
  · omega
end Go.Proofs.Ytcmgpkibjdbonaa
set_option maxHeartbeats 4000000
namespace Go.Proofs.Ytcmgpkibjdbonaa
open Go Go.RowKit
/-- Items and leaves behind what was written; none: one isn't good. -/
def wIs : WS → List Itm → Option WS
  | s, [] => some s
  | s, x :: r => if goodI x = true then wIs (s.itm x) r else none
def wLs : WS → List Lef → Option WS
  | s, [] => some s
  | s, x :: r => if chkLf x = 0 then wLs (s.lef x) r else none
def fin19 : Option WS → List UInt8 × Int
  | none => ([], 1)
  | some s => s.done
def bysS (s : Stp) : List UInt8 × Int :=
  if 2000 < s.same.length ∨ 500 < s.old.length ∨ 500 < s.new.length then ([], 2)
  else fin19 ((wIs (w0.number s.same.length) s.same).bind (fun a => (wLs (a.number s.old.length) s.old).bind (fun b => wLs (b.number s.new.length) s.new)))
/-- So many items, leaves; the error; where the reader is then. -/
def rIs : Nat → List Itm → RS → List Itm × Int × RS
  | 0, p, r => (p, 0, r)
  | k + 1, p, r => if r.itm.2.done ≠ 0 ∧ r.itm.2.done ≠ 3 then ([], r.itm.2.done, r.itm.2) else if goodI r.itm.1 = true then rIs k (p ++ [r.itm.1]) r.itm.2 else ([], 1, r.itm.2)
def rLs : Nat → List Lef → RS → List Lef × Int × RS
  | 0, p, r => (p, 0, r)
  | k + 1, p, r => if r.lef.2.done ≠ 0 ∧ r.lef.2.done ≠ 3 then ([], r.lef.2.done, r.lef.2) else if chkLf r.lef.1 = 0 then rLs k (p ++ [r.lef.1]) r.lef.2 else ([], 1, r.lef.2)
def lvs (r : RS) : List Lef × Int × RS := rLs (r.below ((501 : Nat) : Int)).1 [] (r.below ((501 : Nat) : Int)).2

def stC (a : List Itm) (b : List Lef) (c : List Lef × Int × RS) : Stp × Int := if c.2.1 ≠ 0 then (stp0, c.2.1) else if c.2.2.done ≠ 0 then (stp0, c.2.2.done) else (⟨a, b, c.1⟩, 0)
def stB (a : List Itm) (b : List Lef × Int × RS) : Stp × Int := if b.2.1 ≠ 0 then (stp0, b.2.1) else stC a b.1 (lvs b.2.2)
def stA (a : List Itm × Int × RS) : Stp × Int := if a.2.1 ≠ 0 then (stp0, a.2.1) else stB a.1 (lvs a.2.2)
def stRd (s : List UInt8) : Stp × Int := stA (rIs ((RS.open s).below ((2001 : Nat) : Int)).1 [] ((RS.open s).below ((2001 : Nat) : Int)).2)
def lefsBy (l : List Lef) : List UInt8 := l.flatMap lefBy
def stpBy (s : Stp) : List UInt8 := numBytes s.same.length ++ (pathBy s.same ++ (numBytes s.old.length ++ (lefsBy s.old ++ (numBytes s.new.length ++ lefsBy s.new))))
theorem put_nil (s : WS) : s.put [] = s := by
  obtain ⟨b, e⟩ := s
  show WS.mk (b ++ []) e = WS.mk b e
  rw [List.append_nil]
theorem put_put (s : WS) (a b : List UInt8) : (s.put a).put b = s.put (a ++ b) := by
  show WS.mk ((s.bs ++ a) ++ b) s.e = WS.mk (s.bs ++ (a ++ b)) s.e
  rw [List.append_assoc]
theorem wIs_fwd : ∀ (l : List Itm) (s : WS), (∀ x ∈ l, goodI x = true) → wIs s l = some (s.put (pathBy l))
  | [], s, _ => congrArg some (put_nil s).symm
  | x :: r, s, hg => by
    have gx := hg x (List.mem_cons_self ..)
    obtain ⟨b1, _, b3, _⟩ := good_bnd gx
    rw [wIs, if_pos gx, WS.itm_put b1 b3, wIs_fwd r _ (fun y hy => hg y (List.mem_cons_of_mem _ hy)), put_put]; rfl
theorem wIs_inv : ∀ (l : List Itm) (s a : WS), wIs s l = some a → ∀ x ∈ l, goodI x = true
  | [], _, _, _ => fun x hx => by cases hx
  | x :: r, s, a, h => by
    rw [wIs] at h
    by_cases gx : goodI x = true
    · rw [if_pos gx] at h
      intro y hy
      rcases List.mem_cons.1 hy with rfl | hy
      · exact gx
      · exact wIs_inv r _ a h y hy
    · rw [if_neg gx] at h; cases h
theorem wLs_fwd : ∀ (l : List Lef) (s : WS), (∀ x ∈ l, chkLf x = 0) → wLs s l = some (s.put (lefsBy l))
  | [], s, _ => congrArg some (put_nil s).symm
  | x :: r, s, hg => by
    have gx := hg x (List.mem_cons_self ..)
    have ht := chkLf_t gx
    rw [wLs, if_pos gx, WS.lef_put ht.1, wLs_fwd r _ (fun y hy => hg y (List.mem_cons_of_mem _ hy)), put_put]; rfl
theorem wLs_inv : ∀ (l : List Lef) (s a : WS), wLs s l = some a → ∀ x ∈ l, chkLf x = 0
  | [], _, _, _ => fun x hx => by cases hx
  | x :: r, s, a, h => by
    rw [wLs] at h
    by_cases gx : chkLf x = 0
    · rw [if_pos gx] at h
      intro y hy
      rcases List.mem_cons.1 hy with rfl | hy
      · exact gx
      · exact wLs_inv r _ a h y hy
    · rw [if_neg gx] at h; cases h
structure StpGd (s : Stp) : Prop where
  l1 : s.same.length ≤ 2000
  l2 : s.old.length ≤ 500
  l3 : s.new.length ≤ 500
  same : ∀ x ∈ s.same, goodI x = true
  old : ∀ x ∈ s.old, chkLf x = 0
  new : ∀ x ∈ s.new, chkLf x = 0
theorem bys_gd {s : Stp} (h : StpGd s) : bysS s = if 65536 < (stpBy s).length then ([], 2) else (stpBy s, 0) := by
  have a := h.l1
  have b := h.l2
  have c := h.l3
  unfold bysS
  rw [if_neg (by omega), ws_num, wIs_fwd _ _ h.same, Option.bind_some, ws_num, wLs_fwd _ _ h.old, Option.bind_some, ws_num, wLs_fwd _ _ h.new, put_put, put_put, put_put, put_put, put_put]
  show (w0.put (stpBy s)).done = _
  unfold WS.done
  rw [if_neg (show ¬ (w0.put (stpBy s)).e ≠ 0 from fun h => h rfl)]
  rfl
theorem bys_inv {s : Stp} (h : (bysS s).2 = 0) : StpGd s := by
  unfold bysS at h
  by_cases hb : 2000 < s.same.length ∨ 500 < s.old.length ∨ 500 < s.new.length
  · rw [if_pos hb] at h; cases h
  rw [if_neg hb] at h
  cases ha : wIs (w0.number s.same.length) s.same with
  | none => rw [ha] at h; cases h
  | some a =>
    rw [ha, Option.bind_some] at h
    cases hc : wLs (a.number s.old.length) s.old with
    | none => rw [hc] at h; cases h
    | some b =>
      rw [hc, Option.bind_some] at h
      cases hd : wLs (b.number s.new.length) s.new with
      | none => rw [hd] at h; cases h
      | some c => exact ⟨by omega, by omega, by omega, wIs_inv _ _ _ ha, wLs_inv _ _ _ hc, wLs_inv _ _ _ hd⟩
theorem rIs_at : ∀ (l p : List Itm) (r : RS) (t : List UInt8), (∀ x ∈ l, x.ok ∧ goodI x = true) → r.at_ (pathBy l ++ t) → ∃ r', rIs l.length p r = (p ++ l, 0, r') ∧ r'.at_ t
  | [], p, r, t, _, h => ⟨r, by rw [List.append_nil]; rfl, h⟩
  | x :: q, p, r, t, hg, h => by
    obtain ⟨ox, gx⟩ := hg x (List.mem_cons_self ..)
    obtain ⟨b1, b2, b3, b4⟩ := good_bnd gx
    have h : r.at_ (itmBy x ++ (pathBy q ++ t)) := by
      rw [← List.append_assoc]; exact h
    obtain ⟨c1, c2⟩ := at_itm ox ⟨b1, by omega⟩ ⟨b3, by omega⟩ h
    obtain ⟨r', e, h'⟩ := rIs_at q (p ++ [x]) r.itm.2 t (fun y hy => hg y (List.mem_cons_of_mem _ hy)) c2
    refine ⟨r', ?_, h'⟩
    show rIs (q.length + 1) p r = _
    rw [rIs, if_neg (fun hh => by rcases at_done' c2 with hd | hd; exact hh.1 hd; exact hh.2 hd), c1, if_pos gx, e, List.append_assoc]; rfl
theorem rLs_at : ∀ (l p : List Lef) (r : RS) (t : List UInt8), (∀ x ∈ l, x.ok ∧ chkLf x = 0) → r.at_ (lefsBy l ++ t) → ∃ r', rLs l.length p r = (p ++ l, 0, r') ∧ r'.at_ t
  | [], p, r, t, _, h => ⟨r, by rw [List.append_nil]; rfl, h⟩
  | x :: q, p, r, t, hg, h => by
    obtain ⟨ox, gx⟩ := hg x (List.mem_cons_self ..)
    have ht := chkLf_t gx
    have h : r.at_ (lefBy x ++ (lefsBy q ++ t)) := by
      rw [← List.append_assoc]; exact h
    obtain ⟨c1, c2⟩ := at_lef ox ⟨ht.1, by omega⟩ h
    obtain ⟨r', e, h'⟩ := rLs_at q (p ++ [x]) r.lef.2 t (fun y hy => hg y (List.mem_cons_of_mem _ hy)) c2
    refine ⟨r', ?_, h'⟩
    show rLs (q.length + 1) p r = _
    rw [rLs, if_neg (fun hh => by rcases at_done' c2 with hd | hd; exact hh.1 hd; exact hh.2 hd), c1, if_pos gx, e, List.append_assoc]; rfl
theorem lvs_at {l : List Lef} {r : RS} {t : List UInt8} (hl : l.length ≤ 500) (hg : ∀ x ∈ l, x.ok ∧ chkLf x = 0) (h : r.at_ (numBytes l.length ++ (lefsBy l ++ t))) : ∃ r', lvs r = (l, 0, r') ∧ r'.at_ t := by
  obtain ⟨c1, c2⟩ := at_below (m := 501) (by omega) (by omega) h
  obtain ⟨r', e, h'⟩ := rLs_at l [] _ t hg c2
  refine ⟨r', ?_, h'⟩
  unfold lvs
  rw [c1, e]; rfl
theorem stp_back {s : Stp} (hs : s.ok) (h : StpGd s) (hl : (stpBy s).length ≤ 65536) : stRd (stpBy s) = (s, 0) := by
  obtain ⟨same, old, new⟩ := s
  obtain ⟨o1, o2, o3⟩ := hs
  obtain ⟨l1, l2, l3, g1, g2, g3⟩ := h
  dsimp only at o1 o2 o3 l1 l2 l3 g1 g2 g3
  have ha : (RS.open (stpBy ⟨same, old, new⟩)).at_ (numBytes same.length ++ (pathBy same ++ (numBytes old.length ++ (lefsBy old ++ (numBytes new.length ++ lefsBy new))))) := at_open hl
  obtain ⟨c1, c2⟩ := at_below (m := 2001) (by omega) (by omega) ha
  obtain ⟨r1, e1, a1⟩ := rIs_at same [] _ _ (fun x hx => ⟨o1 x hx, g1 x hx⟩) c2
  obtain ⟨r2, e2, a2⟩ := lvs_at l2 (fun x hx => ⟨o2 x hx, g2 x hx⟩) a1
  have a2 : r2.at_ (numBytes new.length ++ (lefsBy new ++ [])) := by rw [List.append_nil]; exact a2
  obtain ⟨r3, e3, a3⟩ := lvs_at l3 (fun x hx => ⟨o3 x hx, g3 x hx⟩) a2
  unfold stRd
  rw [c1, e1]
  show (if (0 : Int) ≠ 0 then (stp0, (0 : Int)) else stB same (lvs r1)) = _
  rw [if_neg (fun hh => hh rfl), e2]
  show (if (0 : Int) ≠ 0 then (stp0, (0 : Int)) else stC same old (lvs r2)) = _
  rw [if_neg (fun hh => hh rfl), e3]
  show (if (0 : Int) ≠ 0 then (stp0, (0 : Int)) else if r3.done ≠ 0 then (stp0, r3.done) else (⟨same, old, new⟩, 0)) = _
  rw [if_neg (fun hh => hh rfl), if_neg (fun hh => hh (at_done a3))]
theorem by_backS {s : Stp} (hs : s.ok) (h : (bysS s).2 = 0) : stRd (bysS s).1 = (s, 0) := by
  have hg := bys_inv h
  rw [bys_gd hg] at h ⊢
  by_cases hl : 65536 < (stpBy s).length
  · rw [if_pos hl] at h; cases h
  · rw [if_neg hl]; exact stp_back hs hg (by omega)
theorem rIs_ok : ∀ (k : Nat) (p : List Itm) (r : RS), r.ok → (rIs k p r).2.2.ok
  | 0, _, _, h => h
  | k + 1, p, r, h => by
    rw [rIs]
    split
    · exact RS.ok_itm h
    split
    · exact rIs_ok k _ _ (RS.ok_itm h)
    · exact RS.ok_itm h
theorem ok_lef' {r : RS} (h : r.ok) : r.lef.2.ok := RS.ok_number (RS.ok_label (RS.ok_label h))
theorem rLs_ok : ∀ (k : Nat) (p : List Lef) (r : RS), r.ok → (rLs k p r).2.2.ok
  | 0, _, _, h => h
  | k + 1, p, r, h => by
    rw [rLs]
    split
    · exact ok_lef' h
    split
    · exact rLs_ok k _ _ (ok_lef' h)
    · exact ok_lef' h
theorem lvs_ok {r : RS} (h : r.ok) : (lvs r).2.2.ok := rLs_ok _ _ _ (RS.ok_below h _)
theorem rIs_inv : ∀ (k : Nat) (p : List Itm) (r : RS), r.ok → (rIs k p r).2.1 = 0 → (rIs k p r).2.2.e = 0 → r.e = 0 ∧ ∃ l, l.length = k ∧ (∀ x ∈ l, x.ok ∧ goodI x = true) ∧ r.rest = pathBy l ++ (rIs k p r).2.2.rest ∧ (rIs k p r).1 = p ++ l
  | 0, p, r, hok, _, he => ⟨he, [], rfl, (fun x hx => by cases hx), rfl, (List.append_nil _).symm⟩
  | k + 1, p, r, hok, h, he => by
    rw [rIs] at h he ⊢
    by_cases hd : r.itm.2.done ≠ 0 ∧ r.itm.2.done ≠ 3
    · rw [if_pos hd] at h; exact absurd h hd.1
    rw [if_neg hd] at h he ⊢
    by_cases hg : goodI r.itm.1 = true
    · rw [if_pos hg] at h he ⊢
      obtain ⟨i1, l, i2, i3, i4, i5⟩ := rIs_inv k (p ++ [r.itm.1]) r.itm.2 (RS.ok_itm hok) h he
      obtain ⟨c1, c2, _, _⟩ := itm_rest hok i1
      refine ⟨c1, r.itm.1 :: l, by rw [List.length_cons, i2], fun x hx => ?_, ?_, ?_⟩
      · rcases List.mem_cons.1 hx with rfl | hx
        · exact ⟨itm_ok' r, hg⟩
        · exact i3 x hx
      · rw [c2, i4, ← List.append_assoc]; rfl
      · rw [i5, List.append_assoc]; rfl
    · rw [if_neg hg] at h; cases h
theorem rLs_inv : ∀ (k : Nat) (p : List Lef) (r : RS), r.ok → (rLs k p r).2.1 = 0 → (rLs k p r).2.2.e = 0 → r.e = 0 ∧ ∃ l, l.length = k ∧ (∀ x ∈ l, x.ok ∧ chkLf x = 0) ∧ r.rest = lefsBy l ++ (rLs k p r).2.2.rest ∧ (rLs k p r).1 = p ++ l
  | 0, p, r, hok, _, he => ⟨he, [], rfl, (fun x hx => by cases hx), rfl, (List.append_nil _).symm⟩
  | k + 1, p, r, hok, h, he => by
    rw [rLs] at h he ⊢
    by_cases hd : r.lef.2.done ≠ 0 ∧ r.lef.2.done ≠ 3
    · rw [if_pos hd] at h; exact absurd h hd.1
    rw [if_neg hd] at h he ⊢
    by_cases hg : chkLf r.lef.1 = 0
    · rw [if_pos hg] at h he ⊢
      obtain ⟨i1, l, i2, i3, i4, i5⟩ := rLs_inv k (p ++ [r.lef.1]) r.lef.2 (ok_lef' hok) h he
      obtain ⟨c1, c2⟩ := lef_rest hok i1
      refine ⟨c1, r.lef.1 :: l, by rw [List.length_cons, i2], fun x hx => ?_, ?_, ?_⟩
      · rcases List.mem_cons.1 hx with rfl | hx
        · exact ⟨lef_ok' r, hg⟩
        · exact i3 x hx
      · rw [c2, i4, ← List.append_assoc]; rfl
      · rw [i5, List.append_assoc]; rfl
    · rw [if_neg hg] at h; cases h
theorem lvs_inv {r : RS} (hok : r.ok) (h : (lvs r).2.1 = 0) (he : (lvs r).2.2.e = 0) : r.e = 0 ∧ (lvs r).1.length ≤ 500 ∧ (∀ x ∈ (lvs r).1, x.ok ∧ chkLf x = 0) ∧ r.rest = numBytes (lvs r).1.length ++ (lefsBy (lvs r).1 ++ (lvs r).2.2.rest) := by
  unfold lvs at h he ⊢
  obtain ⟨i1, l, i2, i3, i4, i5⟩ := rLs_inv _ [] _ (RS.ok_below hok _) h he
  obtain ⟨b1, b2, b3⟩ := below_inv hok i1
  have i5 : (rLs (r.below ((501 : Nat) : Int)).1 [] (r.below ((501 : Nat) : Int)).2).1 = l := i5
  rw [i5]
  refine ⟨b1, by omega, i3, ?_⟩
  rw [b3, i4, i2]
theorem rd_byS {t : List UInt8} (ht : t.length ≤ 9223372036854775807) (h : (stRd t).2 = 0) : bysS (stRd t).1 = (t, 0) ∧ (stRd t).1.ok ∧ StpGd (stRd t).1 := by
  have o0 := RS.ok_open ht
  have ho : (RS.open t).rest = t := by unfold RS.open RS.rest; rw [List.drop_zero]
  have o1 := RS.ok_below o0 ((2001 : Nat) : Int)
  unfold stRd at h ⊢
  have o2 := rIs_ok ((RS.open t).below ((2001 : Nat) : Int)).1 [] _ o1
  have iv := rIs_inv ((RS.open t).below ((2001 : Nat) : Int)).1 [] _ o1
  generalize hq : rIs ((RS.open t).below ((2001 : Nat) : Int)).1 [] ((RS.open t).below ((2001 : Nat) : Int)).2 = q at *
  obtain ⟨same, e1, r1⟩ := q
  dsimp only at iv o2
  unfold stA at h ⊢
  dsimp only at h ⊢
  by_cases c1 : e1 ≠ 0
  · rw [if_pos c1] at h; exact absurd h c1
  rw [if_neg c1] at h ⊢
  have o3 := lvs_ok o2
  have v1 := lvs_inv o2
  generalize lvs r1 = q at *
  obtain ⟨old, e2, r2⟩ := q
  dsimp only at o3 v1
  unfold stB at h ⊢
  dsimp only at h ⊢
  by_cases c2 : e2 ≠ 0
  · rw [if_pos c2] at h; exact absurd h c2
  rw [if_neg c2] at h ⊢
  have v2 := lvs_inv o3
  generalize lvs r2 = q at *
  obtain ⟨new, e3, r3⟩ := q
  dsimp only at v2
  unfold stC at h ⊢
  dsimp only at h ⊢
  by_cases c3 : e3 ≠ 0
  · rw [if_pos c3] at h; exact absurd h c3
  rw [if_neg c3] at h ⊢
  by_cases c4 : r3.done ≠ 0
  · rw [if_pos c4] at h; exact absurd h c4
  rw [if_neg c4]
  obtain ⟨d1, d2⟩ := done_zero (Decidable.not_not.1 c4)
  obtain ⟨x1, x2, x3, x4⟩ := v2 (Decidable.not_not.1 c3) d1
  obtain ⟨y1, y2, y3, y4⟩ := v1 (Decidable.not_not.1 c2) x1
  obtain ⟨z1, l, z2, z3, z4, z5⟩ := iv (Decidable.not_not.1 c1) y1
  obtain ⟨w1, w2, w3⟩ := below_inv o0 z1
  have z5 : same = l := z5
  subst z5
  have hl := open_e w1
  have hb : stpBy ⟨same, old, new⟩ = t := by
    rw [ho, z4, y4, x4, d2, List.append_nil, ← z2] at w3
    exact w3.symm
  have hg : StpGd ⟨same, old, new⟩ := ⟨by show same.length ≤ 2000; omega, y2, x2, fun x hx => (z3 x hx).2, fun x hx => (y3 x hx).2, fun x hx => (x3 x hx).2⟩
  refine ⟨?_, ⟨fun x hx => (z3 x hx).1, fun x hx => (y3 x hx).1, fun x hx => (x3 x hx).1⟩, hg⟩
  dsimp only
  rw [bys_gd hg, hb, if_neg (by omega)]
end Go.Proofs.Ytcmgpkibjdbonaa
namespace Go.Proofs.Ytcmgpkibjdbonaa
open Go Go.RowKit
section
variable {m : OM} {P : Program} {T : List (Nat × TI)} {C : Ctx} {ops : Array Oper} {l : List Oper} {K : St → Prop} {n : Nat} {sl : List (Nat × AV)} {hp : List (Nat × HO)} {d : Nat} {ty : Nat} {pos : String} {aft : Array Edge} {gd : Option (Nat × Bool)}
theorem o_indexA (hT : TTOk P T) (hw : gval ops ⟨n, sl, hp⟩ gd = gwant gd) {t : Nat} {x ix : Operand} {kk : IntKind} {i : Int} {sz mlen e sz0 by_ : Nat} {z y : AV} {te : TI} {xs : List AV}
    (hx : ev ⟨n, sl, hp⟩ x = .arr sz mlen xs) (hi : ev ⟨n, sl, hp⟩ ix = .i kk i) (ht : tget T t = some ⟨.array mlen e, sz0, by_, z⟩) (he : tget T e = some te) (hsz : te.sz = sz) (hd : Nat.blt d n = true) (j : Nat) (hj : i = j) (hy : xs[j]? = some y) (hf : fits te y)
    (h : Ops m P C ops l ⟨n, (d, y) :: sl, hp⟩ K) : Ops m P C ops (⟨some d, .index t x ix, ty, pos, aft, gd⟩ :: l) ⟨n, sl, hp⟩ K := by
  subst hj
  subst hsz
  refine Ops.by (d := some d) hw none okc_none hd rfl (fun a w hs => ?_) h
  have Ex := ev_rep hs x
  have Ei := ev_rep hs ix
  rw [hx] at Ex
  rw [hi, repV_i] at Ei
  obtain ⟨cs, hc, hv⟩ := Ex
  simp only [repC] at hc
  obtain ⟨hlen, ha⟩ := hc
  obtain ⟨pre, mid, post, e1, e2, e3, e5, _⟩ := repA_at te.sz xs j y cs ha hy
  have hjl := (List.getElem?_eq_some_iff.1 hy).1
  refine ⟨_, repV_mk e3, fun w' _ => ?_⟩
  have hu := tk_array (tget_ok hT ht)
  have hp := part_run (tget_ok hT he) hf e3 w' (pre := pre) (post := post)
  have hv : a.eval x = .agg (pre ++ mid ++ post).toArray := by rw [hv, e1]; rfl
  have h0 : (0 : Int) ≤ (j : Int) ∧ (j : Int) < (mlen : Int) := by omega
  simp only [execOp, hv, Ei, Instr.index, asIntOf, Sem.run_bind, Sem.run_pure, Result.andThen_ok, run_underlying hu, h0, and_self, if_true, (tget_ok hT he).sizeRun, Int.toNat_natCast, ← e2, hp]
end
end Go.Proofs.Ytcmgpkibjdbonaa
