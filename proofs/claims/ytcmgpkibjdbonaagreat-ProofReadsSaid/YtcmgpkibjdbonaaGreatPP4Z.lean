/- Proofs go as bytes and come back. No program in sight. -/
import Derived.Test.YtcmgpkibjdbonaaGreatV40Z
import Derived.Test.YtcmgpkibjdbonaaGreatPF8
import Derived.Test.YtcmgpkibjdbonaaGreatKR4Z
import Derived.Test.YtcmgpkibjdbonaaGreatKF5
import Derived.Test.YtcmgpkibjdbonaaGreatR1Z
import Derived.Test.YtcmgpkibjdbonaaGreatPF5Z
import Derived.Test.YtcmgpkibjdbonaaGreatPP1Z
import Derived.Test.YtcmgpkibjdbonaaGreatV31Z
set_option maxHeartbeats 4000000
namespace Go.Proofs.YtcmgpkibjdbonaaGreat
open Go Go.RowKit
theorem good_n' {x : Itm} (h : goodI x = true) : 0 ≤ x.n ∧ x.n ≤ 256 := by
  unfold goodI goodP at h
  simp only [Bool.and_eq_true, decide_eq_true_eq] at h
  exact ⟨h.1.1, h.1.2.1⟩
theorem good_t' {x : Itm} (h : goodI x = true) : 0 ≤ x.t ∧ x.t ≤ 1073741824 := by
  unfold goodI at h
  simp only [Bool.and_eq_true, decide_eq_true_eq] at h
  exact h.2
theorem chkN_goods {x y : Itm} (h : chkN x y = 0) : goodI x = true ∧ goodI y = true := by
  unfold chkN at h
  split at h
  · rename_i hg; exact hg
  · cases h
def pathBy (path : List Itm) : List UInt8 := path.flatMap itmBy
theorem good_bnd {x : Itm} (h : goodI x = true) : 0 ≤ x.n ∧ x.n ≤ 256 ∧ 0 ≤ x.t ∧ x.t ≤ 1073741824 := by
  have a := good_n' h
  have b := good_t' h
  exact ⟨a.1, a.2, b.1, b.2⟩
/-- A proof whose parts that are not its end's are none. -/
def cleanP (p : Prf) : Prf := ⟨p.e, if p.e = 1 then p.lf else lef0, if p.e = 2 then p.a else itm0, if p.e = 2 then p.b else itm0, p.path⟩
theorem ws_num (s : WS) (n : Nat) : s.number n = s.put (numBytes n) := by
  rw [put_num (by omega), Int.toNat_natCast]
theorem ws_text (s : WS) {t : List UInt8} (h : t.length ≤ 65536) : s.text t = s.put (textBytes t) := by
  unfold WS.text
  rw [if_neg (by omega), ws_num]
  show WS.mk ((s.bs ++ numBytes t.length) ++ t) s.e = WS.mk (s.bs ++ (numBytes t.length ++ t)) s.e
  rw [List.append_assoc]
end Go.Proofs.YtcmgpkibjdbonaaGreat
set_option maxHeartbeats 4000000
namespace Go.Proofs.YtcmgpkibjdbonaaGreat
open Go Go.RowKit
def nodBy : Nod → List UInt8
  | .no => []
  | .lf x => 0 :: lefBy x
  | .inn a b => 1 :: (itmBy a ++ itmBy b)
end Go.Proofs.YtcmgpkibjdbonaaGreat
set_option maxHeartbeats 4000000
namespace Go.Proofs.YtcmgpkibjdbonaaGreat
open Go Go.RowKit
/-- Items and leaves behind what was written; none: one isn't good. -/
def wIs : WS → List Itm → Option WS
  | s, [] => some s
  | s, x :: r => if goodI x = true then wIs (s.itm x) r else none
def wLs : WS → List Lef → Option WS
  | s, [] => some s
  | s, x :: r => if chkLf x = 0 then wLs (s.lef x) r else none
def fin19 : Option WS → List UInt8 × Int
  | none => ([], 1)
  | some s => s.done
def bysS (s : Stp) : List UInt8 × Int :=
  if 2000 < s.same.length ∨ 500 < s.old.length ∨ 500 < s.new.length then ([], 2)
  else fin19 ((wIs (w0.number s.same.length) s.same).bind (fun a => (wLs (a.number s.old.length) s.old).bind (fun b => wLs (b.number s.new.length) s.new)))
/-- So many items, leaves; the error; where the reader is then. -/
def rIs : Nat → List Itm → RS → List Itm × Int × RS
  | 0, p, r => (p, 0, r)
  | k + 1, p, r => if r.itm.2.done ≠ 0 ∧ r.itm.2.done ≠ 3 then ([], r.itm.2.done, r.itm.2) else if goodI r.itm.1 = true then rIs k (p ++ [r.itm.1]) r.itm.2 else ([], 1, r.itm.2)
def rLs : Nat → List Lef → RS → List Lef × Int × RS
  | 0, p, r => (p, 0, r)
  | k + 1, p, r => if r.lef.2.done ≠ 0 ∧ r.lef.2.done ≠ 3 then ([], r.lef.2.done, r.lef.2) else if chkLf r.lef.1 = 0 then rLs k (p ++ [r.lef.1]) r.lef.2 else ([], 1, r.lef.2)
def lvs (r : RS) : List Lef × Int × RS := rLs (r.below ((501 : Nat) : Int)).1 [] (r.below ((501 : Nat) : Int)).2

def stC (a : List Itm) (b : List Lef) (c : List Lef × Int × RS) : Stp × Int := if c.2.1 ≠ 0 then (stp0, c.2.1) else if c.2.2.done ≠ 0 then (stp0, c.2.2.done) else (⟨a, b, c.1⟩, 0)
def stB (a : List Itm) (b : List Lef × Int × RS) : Stp × Int := if b.2.1 ≠ 0 then (stp0, b.2.1) else stC a b.1 (lvs b.2.2)
def stA (a : List Itm × Int × RS) : Stp × Int := if a.2.1 ≠ 0 then (stp0, a.2.1) else stB a.1 (lvs a.2.2)
def stRd (s : List UInt8) : Stp × Int := stA (rIs ((RS.open s).below ((2001 : Nat) : Int)).1 [] ((RS.open s).below ((2001 : Nat) : Int)).2)
def lefsBy (l : List Lef) : List UInt8 := l.flatMap lefBy
def stpBy (s : Stp) : List UInt8 := numBytes s.same.length ++ (pathBy s.same ++ (numBytes s.old.length ++ (lefsBy s.old ++ (numBytes s.new.length ++ lefsBy s.new))))
structure StpGd (s : Stp) : Prop where
  l1 : s.same.length ≤ 2000
  l2 : s.old.length ≤ 500
  l3 : s.new.length ≤ 500
  same : ∀ x ∈ s.same, goodI x = true
  old : ∀ x ∈ s.old, chkLf x = 0
  new : ∀ x ∈ s.new, chkLf x = 0
end Go.Proofs.YtcmgpkibjdbonaaGreat
set_option maxHeartbeats 4000000
namespace Go.Proofs.YtcmgpkibjdbonaaGreat
open Go Go.RowKit
def txB (t : List UInt8) : List UInt8 := numBytes t.length ++ t
theorem cut_spec (s : List UInt8) (n : Nat) (hn : n ≤ 1000000000000) : Spec Tryz.prog 37 [.s s, .i .i64 n] [] (fun v os => v = .s (s.take n) ∧ os = []) := by
  refine spec_of TtOk [] Tryz.func37 rfl Tryz.ntmps37 (by kernel_rfl) rfl rfl (fun C => ?_) rfl
  repeat' (first | refine Awp.seq ?_ | refine Awp.region ?_ | refine Ops.nil (nqA ?_) | refine Ops.nil (nqX ?_) | refine Ops.nil (nqE ?_) | refine Awp.skip (nqA ?_) | refine Awp.skip (nqE ?_) | refine Awp.skip (nqX ?_) | refine Awp.ret (nqE ?_) | refine o_len rfl TtOk rfl rfl rfl (fun _ => ?_) | refine o_lenOwn rfl TtOk rfl rfl rfl rfl (fun _ => ?_) | (refine o_calm rfl TtOk rfl rfl rfl ?_ (fun _ => ?_); exact nd) | refine o_sliceCp TtOk rfl rfl rfl rfl rfl rfl ?_ | refine a_condT rfl ?_ | refine a_condF rfl ?_ | (refine a_condP rfl (fun hc => ?_) (fun hc => ?_)) <;> (try (exfalso; omega)) | (refine a_condI rfl (fun hc => ?_) (fun hc => ?_)) <;> (try (exfalso; omega)) | (refine a_condN rfl (fun hc => ?_) (fun hc => ?_)) <;> (try (exfalso; omega)) | (refine Awp.cond rfl (fun hc => ?_) (fun hc => ?_)))
  · refine o_sliceStr TtOk rfl 0 n rfl rfl rfl bnd_none (bnd_some rfl rfl) (by omega) (by omega) ?_
    repeat' (first | refine Awp.seq ?_ | refine Awp.region ?_ | refine Ops.nil (nqA ?_) | refine Ops.nil (nqX ?_) | refine Ops.nil (nqE ?_) | refine Awp.skip (nqA ?_) | refine Awp.skip (nqE ?_) | refine Awp.skip (nqX ?_) | refine Awp.ret (nqE ?_) | refine o_len rfl TtOk rfl rfl rfl (fun _ => ?_) | refine o_lenOwn rfl TtOk rfl rfl rfl rfl (fun _ => ?_) | (refine o_calm rfl TtOk rfl rfl rfl ?_ (fun _ => ?_); exact nd) | refine o_sliceCp TtOk rfl rfl rfl rfl rfl rfl ?_ | refine a_condT rfl ?_ | refine a_condF rfl ?_ | (refine a_condP rfl (fun hc => ?_) (fun hc => ?_)) <;> (try (exfalso; omega)) | (refine a_condI rfl (fun hc => ?_) (fun hc => ?_)) <;> (try (exfalso; omega)) | (refine a_condN rfl (fun hc => ?_) (fun hc => ?_)) <;> (try (exfalso; omega)) | (refine Awp.cond rfl (fun hc => ?_) (fun hc => ?_)))
    exact nq2
  · refine end_tmp rfl rfl rfl [] [] (CLe.of_eq ?_) .nil ⟨rfl, rfl⟩ _ (.inl rfl)
    rw [List.take_of_length_le (by omega)]; rfl
theorem byte_of (x : Nat) : AV.i .u8 (IntKind.u8.wrap ((x : Int) % 256)) = byA (UInt8.ofNat x) := by
  rw [← byA_nat, show IntKind.u8.wrap ((x : Int) % 256) = (x : Int) % 256 % 256 from rfl, Int.emod_emod_of_dvd _ (Int.dvd_refl _)]; rfl
theorem dnumber_spec (n : Nat) (hn : n < 9223372036854775808) : Spec Tryz.prog 128 [.i .i64 n] [] (fun v os => v = .s (numBytes n) ∧ os = []) := by
  refine spec_of TtOk [] Tryz.func128 rfl Tryz.ntmps128 (by kernel_rfl) rfl rfl (fun C => ?_) rfl
  have hdl := digits_le 8 n (Nat.lt_trans hn (by decide))
  have hnb : numBytes n = UInt8.ofNat (digits n).length :: digits n := rfl
  rw [hnb]
  repeat' (first | refine Awp.seq ?_ | refine Awp.block ?_ | refine Awp.region ?_ | refine Ops.nil (nqA ?_) | refine Ops.nil (nqX ?_) | refine Ops.nil (nqE ?_) | refine Awp.skip (nqA ?_) | refine Awp.skip (nqE ?_) | refine Awp.skip (nqX ?_) | refine Awp.exit (nqA ?_) | refine Awp.exit (nqX ?_) | refine Awp.exit (nqE ?_) | refine Awp.ret (nqE ?_) | (refine o_add rfl rfl rfl rfl ?_ ?_; omega) | (refine o_quo rfl rfl rfl rfl ?_ ?_ ?_; omega; omega) | (refine o_rem rfl rfl rfl rfl ?_ ?_ ?_; omega; omega) | refine o_len rfl TtOk rfl rfl rfl (fun _ => ?_) | refine o_lenOwn rfl TtOk rfl rfl rfl rfl (fun _ => ?_) | refine o_convB rfl TtOk rfl rfl rfl rfl ?_ | (refine o_conv64 rfl TtOk rfl rfl rfl rfl ?_ ?_; omega) | (refine o_calm rfl TtOk rfl rfl rfl ?_ (fun _ => ?_); exact nd) | (refine o_calm rfl TtOk rfl rfl rfl ?_ (fun _ => ?_); (show List.length _ + List.length _ ≤ 9223372036854775807; (repeat' (first | rw [List.length_append] | rw [List.length_map] | rw [List.length_cons] | rw [List.length_nil] | rw [List.length_take] | rw [List.length_drop])) <;> omega)) | refine o_buildSlice TtOk rfl rfl rfl rfl rfl rfl rfl rfl rfl rfl rfl nq1 (fun _ => ?_) | refine o_toBytes TtOk rfl rfl rfl rfl rfl rfl ?_ | refine a_condT rfl ?_ | refine a_condF rfl ?_ | (refine a_condP rfl (fun hc => ?_) (fun hc => ?_)) <;> (try (exfalso; omega)) | (refine a_condI rfl (fun hc => ?_) (fun hc => ?_)) <;> (try (exfalso; omega)) | (refine a_condN rfl (fun hc => ?_) (fun hc => ?_)) <;> (try (exfalso; omega)) | (refine Awp.cond rfl (fun hc => ?_) (fun hc => ?_)) | refine o_toString TtOk rfl rfl rfl rfl rfl (by first | exact True.intro | exact rfl) rfl rfl rfl rfl ?_)
  refine Awp.loop (fun q : Nat × List UInt8 => ⟨24, [(4, .i .i64 q.1), (3, .s q.2)], []⟩) (fun q => q.1 ≤ n ∧ digits n = digits q.1 ++ q.2) (fun q => q.1) [] (n, []) ⟨Nat.le_refl _, by rw [List.append_nil]⟩ ?_ ?_
  · exact ⟨rfl, ⟨sle_i rfl, sle_s rfl, True.intro⟩, .nil⟩
  rintro ⟨x, t⟩ ⟨hx, ht⟩
  dsimp only at hx ht ⊢
  have htl : t.length ≤ 8 := by rw [ht, List.length_append] at hdl; omega
  repeat' (first | refine Awp.seq ?_ | refine Awp.block ?_ | refine Awp.region ?_ | refine Ops.nil (nqA ?_) | refine Ops.nil (nqX ?_) | refine Ops.nil (nqE ?_) | refine Awp.skip (nqA ?_) | refine Awp.skip (nqE ?_) | refine Awp.skip (nqX ?_) | refine Awp.exit (nqA ?_) | refine Awp.exit (nqX ?_) | refine Awp.exit (nqE ?_) | refine Awp.ret (nqE ?_) | (refine o_add rfl rfl rfl rfl ?_ ?_; omega) | (refine o_quo rfl rfl rfl rfl ?_ ?_ ?_; omega; omega) | (refine o_rem rfl rfl rfl rfl ?_ ?_ ?_; omega; omega) | refine o_len rfl TtOk rfl rfl rfl (fun _ => ?_) | refine o_lenOwn rfl TtOk rfl rfl rfl rfl (fun _ => ?_) | refine o_convB rfl TtOk rfl rfl rfl rfl ?_ | (refine o_conv64 rfl TtOk rfl rfl rfl rfl ?_ ?_; omega) | (refine o_calm rfl TtOk rfl rfl rfl ?_ (fun _ => ?_); exact nd) | (refine o_calm rfl TtOk rfl rfl rfl ?_ (fun _ => ?_); (show List.length _ + List.length _ ≤ 9223372036854775807; (repeat' (first | rw [List.length_append] | rw [List.length_map] | rw [List.length_cons] | rw [List.length_nil] | rw [List.length_take] | rw [List.length_drop])) <;> omega)) | refine o_buildSlice TtOk rfl rfl rfl rfl rfl rfl rfl rfl rfl rfl rfl nq1 (fun _ => ?_) | refine o_toBytes TtOk rfl rfl rfl rfl rfl rfl ?_ | refine a_condT rfl ?_ | refine a_condF rfl ?_ | (refine a_condP rfl (fun hc => ?_) (fun hc => ?_)) <;> (try (exfalso; omega)) | (refine a_condI rfl (fun hc => ?_) (fun hc => ?_)) <;> (try (exfalso; omega)) | (refine a_condN rfl (fun hc => ?_) (fun hc => ?_)) <;> (try (exfalso; omega)) | (refine Awp.cond rfl (fun hc => ?_) (fun hc => ?_)) | refine o_toString TtOk rfl rfl rfl rfl rfl (by first | exact True.intro | exact rfl) rfl rfl rfl rfl ?_)
  · refine o_toString TtOk rfl rfl rfl rfl rfl (by first | exact True.intro | exact rfl) rfl rfl rfl (s := [UInt8.ofNat x]) (by rw [byte_of]; rfl) ?_
    repeat' (first | refine Awp.seq ?_ | refine Awp.block ?_ | refine Awp.region ?_ | refine Ops.nil (nqA ?_) | refine Ops.nil (nqX ?_) | refine Ops.nil (nqE ?_) | refine Awp.skip (nqA ?_) | refine Awp.skip (nqE ?_) | refine Awp.skip (nqX ?_) | refine Awp.exit (nqA ?_) | refine Awp.exit (nqX ?_) | refine Awp.exit (nqE ?_) | refine Awp.ret (nqE ?_) | (refine o_add rfl rfl rfl rfl ?_ ?_; omega) | (refine o_quo rfl rfl rfl rfl ?_ ?_ ?_; omega; omega) | (refine o_rem rfl rfl rfl rfl ?_ ?_ ?_; omega; omega) | refine o_len rfl TtOk rfl rfl rfl (fun _ => ?_) | refine o_lenOwn rfl TtOk rfl rfl rfl rfl (fun _ => ?_) | refine o_convB rfl TtOk rfl rfl rfl rfl ?_ | (refine o_conv64 rfl TtOk rfl rfl rfl rfl ?_ ?_; omega) | (refine o_calm rfl TtOk rfl rfl rfl ?_ (fun _ => ?_); exact nd) | (refine o_calm rfl TtOk rfl rfl rfl ?_ (fun _ => ?_); (show List.length _ + List.length _ ≤ 9223372036854775807; (repeat' (first | rw [List.length_append] | rw [List.length_map] | rw [List.length_cons] | rw [List.length_nil] | rw [List.length_take] | rw [List.length_drop])) <;> omega)) | refine o_buildSlice TtOk rfl rfl rfl rfl rfl rfl rfl rfl rfl rfl rfl nq1 (fun _ => ?_) | refine o_toBytes TtOk rfl rfl rfl rfl rfl rfl ?_ | refine a_condT rfl ?_ | refine a_condF rfl ?_ | (refine a_condP rfl (fun hc => ?_) (fun hc => ?_)) <;> (try (exfalso; omega)) | (refine a_condI rfl (fun hc => ?_) (fun hc => ?_)) <;> (try (exfalso; omega)) | (refine a_condN rfl (fun hc => ?_) (fun hc => ?_)) <;> (try (exfalso; omega)) | (refine Awp.cond rfl (fun hc => ?_) (fun hc => ?_)) | refine o_toString TtOk rfl rfl rfl rfl rfl (by first | exact True.intro | exact rfl) rfl rfl rfl rfl ?_)
    refine ⟨(x / 256, UInt8.ofNat x :: t), [], ⟨by show x / 256 ≤ n; omega, by rw [ht, digits_pos (show x ≠ 0 by omega), List.append_assoc]; rfl⟩, by show x / 256 < x; omega, rfl, ⟨sle_i (by omega), sle_s rfl, True.intro⟩, .nil⟩
  · have hx0 : x = 0 := by omega
    subst hx0
    rw [digits_zero, List.nil_append] at ht
    subst ht
    refine o_toString TtOk rfl rfl rfl rfl rfl (by first | exact True.intro | exact rfl) rfl rfl rfl (s := [UInt8.ofNat (digits n).length]) ?_ ?_
    · rw [byA_nat]; rfl
    repeat' (first | refine Awp.seq ?_ | refine Awp.block ?_ | refine Awp.region ?_ | refine Ops.nil (nqA ?_) | refine Ops.nil (nqX ?_) | refine Ops.nil (nqE ?_) | refine Awp.skip (nqA ?_) | refine Awp.skip (nqE ?_) | refine Awp.skip (nqX ?_) | refine Awp.exit (nqA ?_) | refine Awp.exit (nqX ?_) | refine Awp.exit (nqE ?_) | refine Awp.ret (nqE ?_) | (refine o_add rfl rfl rfl rfl ?_ ?_; omega) | (refine o_quo rfl rfl rfl rfl ?_ ?_ ?_; omega; omega) | (refine o_rem rfl rfl rfl rfl ?_ ?_ ?_; omega; omega) | refine o_len rfl TtOk rfl rfl rfl (fun _ => ?_) | refine o_lenOwn rfl TtOk rfl rfl rfl rfl (fun _ => ?_) | refine o_convB rfl TtOk rfl rfl rfl rfl ?_ | (refine o_conv64 rfl TtOk rfl rfl rfl rfl ?_ ?_; omega) | (refine o_calm rfl TtOk rfl rfl rfl ?_ (fun _ => ?_); exact nd) | (refine o_calm rfl TtOk rfl rfl rfl ?_ (fun _ => ?_); (show List.length _ + List.length _ ≤ 9223372036854775807; (repeat' (first | rw [List.length_append] | rw [List.length_map] | rw [List.length_cons] | rw [List.length_nil] | rw [List.length_take] | rw [List.length_drop])) <;> omega)) | refine o_buildSlice TtOk rfl rfl rfl rfl rfl rfl rfl rfl rfl rfl rfl nq1 (fun _ => ?_) | refine o_toBytes TtOk rfl rfl rfl rfl rfl rfl ?_ | refine a_condT rfl ?_ | refine a_condF rfl ?_ | (refine a_condP rfl (fun hc => ?_) (fun hc => ?_)) <;> (try (exfalso; omega)) | (refine a_condI rfl (fun hc => ?_) (fun hc => ?_)) <;> (try (exfalso; omega)) | (refine a_condN rfl (fun hc => ?_) (fun hc => ?_)) <;> (try (exfalso; omega)) | (refine Awp.cond rfl (fun hc => ?_) (fun hc => ?_)) | refine o_toString TtOk rfl rfl rfl rfl rfl (by first | exact True.intro | exact rfl) rfl rfl rfl rfl ?_)
    exact nq2
theorem dtext_spec (t : List UInt8) (hn : t.length ≤ 1000000000000) : Spec Tryz.prog 140 [.s t] [] (fun v os => v = .s (txB t) ∧ os = []) := by
  refine spec_of TtOk [] Tryz.func140 rfl Tryz.ntmps140 (by kernel_rfl) rfl rfl (fun C => ?_) rfl
  have h := dnumber_spec t.length (by omega)
  have hl := numBytes_len t.length (by omega)
  have hnb : txB t = numBytes t.length ++ t := rfl
  rw [hnb]
  generalize numBytes t.length = q at h hl ⊢
  repeat' (first | refine Awp.seq ?_ | refine Awp.region ?_ | refine Ops.nil (nqA ?_) | refine Ops.nil (nqX ?_) | refine Ops.nil (nqE ?_) | refine Awp.ret (nqE ?_) | (refine o_add rfl rfl rfl rfl ?_ ?_; omega) | refine o_len rfl TtOk rfl rfl rfl (fun _ => ?_) | refine o_lenOwn rfl TtOk rfl rfl rfl rfl (fun _ => ?_) | (refine o_calm rfl TtOk rfl rfl rfl ?_ (fun _ => ?_); exact nd) | (refine o_calm rfl TtOk rfl rfl rfl ?_ (fun _ => ?_); (show List.length _ + List.length _ ≤ 9223372036854775807; (repeat' (first | rw [List.length_append] | rw [List.length_map] | rw [List.length_cons] | rw [List.length_nil] | rw [List.length_take] | rw [List.length_drop])) <;> omega)) | refine o_callE rfl h ⟨nqS, True.intro⟩ rfl ?_ | (refine o_call0 rfl (dnumber_spec _ (by first | assumption | omega)) ⟨nqS, True.intro⟩ rfl ?_; rintro _ _ ⟨rfl, rfl⟩; refine ⟨rfl, ?_⟩))
  exact nq2
theorem dflag_spec (b : Bool) : Spec Tryz.prog 142 [.b b] [] (fun v os => v = .s [if b then 1 else 0] ∧ os = []) := by
  refine spec_of TtOk [] Tryz.func142 rfl Tryz.ntmps142 (by kernel_rfl) rfl rfl (fun C => ?_) rfl
  cases b
  · repeat' (first | refine Awp.seq ?_ | refine Awp.region ?_ | refine Ops.nil (nqA ?_) | refine Ops.nil (nqX ?_) | refine Ops.nil (nqE ?_) | refine Awp.skip (nqA ?_) | refine Awp.skip (nqE ?_) | refine Awp.skip (nqX ?_) | refine Awp.ret (nqE ?_) | (refine o_calm rfl TtOk rfl rfl rfl ?_ (fun _ => ?_); exact nd) | refine a_condT rfl ?_ | refine a_condF rfl ?_ | (refine a_condP rfl (fun hc => ?_) (fun hc => ?_)) <;> (try (exfalso; omega)) | (refine a_condI rfl (fun hc => ?_) (fun hc => ?_)) <;> (try (exfalso; omega)) | (refine a_condN rfl (fun hc => ?_) (fun hc => ?_)) <;> (try (exfalso; omega)) | (refine Awp.cond rfl (fun hc => ?_) (fun hc => ?_)))
    exact nq2
  · repeat' (first | refine Awp.seq ?_ | refine Awp.region ?_ | refine Ops.nil (nqA ?_) | refine Ops.nil (nqX ?_) | refine Ops.nil (nqE ?_) | refine Awp.skip (nqA ?_) | refine Awp.skip (nqE ?_) | refine Awp.skip (nqX ?_) | refine Awp.ret (nqE ?_) | (refine o_calm rfl TtOk rfl rfl rfl ?_ (fun _ => ?_); exact nd) | refine a_condT rfl ?_ | refine a_condF rfl ?_ | (refine a_condP rfl (fun hc => ?_) (fun hc => ?_)) <;> (try (exfalso; omega)) | (refine a_condI rfl (fun hc => ?_) (fun hc => ?_)) <;> (try (exfalso; omega)) | (refine a_condN rfl (fun hc => ?_) (fun hc => ?_)) <;> (try (exfalso; omega)) | (refine Awp.cond rfl (fun hc => ?_) (fun hc => ?_)))
    exact nq2
end Go.Proofs.YtcmgpkibjdbonaaGreat
set_option maxHeartbeats 16000000
set_option maxRecDepth 100000
namespace Go.Proofs.YtcmgpkibjdbonaaGreat
open Go Go.RowKit
theorem ritem15_spec (r : RS) (hok : r.ok) : Spec Tryz.prog 120 [rdA r] [] (fun v os => v = .tup [rdA r.itm.2, r.itm.1.R] ∧ os = []) := by
  have k1 := cnumber_spec r hok
  have k2 := clabel_spec _ (RS.ok_number hok)
  have k3 := clabel_spec _ (RS.ok_label (RS.ok_number hok))
  have k4 := cnumber_spec _ (RS.ok_label (RS.ok_label (RS.ok_number hok)))
  show Spec Tryz.prog 120 [rdA r] [] (fun v os => v = .tup [rdA r.number.2.label.2.label.2.number.2, .agg [.i .i64 (r.number.1 : Nat), labA r.number.2.label.1, labA r.number.2.label.2.label.1, .i .i64 (r.number.2.label.2.label.2.number.1 : Nat)]] ∧ os = [])
  generalize r.number.2.label.2.label.2.number = q4 at *
  generalize r.number.2.label.2.label = q3 at *
  generalize r.number.2.label = q2 at *
  generalize r.number = q1 at *
  refine spec_of TtOk [] Tryz.func120 rfl Tryz.ntmps120 (by kernel_rfl) rfl rfl (fun C => ?_) rfl
  repeat' (first | refine Awp.seq ?_ | refine Awp.region ?_ | refine Ops.nil (nqA ?_) | refine Ops.nil (nqX ?_) | refine Ops.nil (nqE ?_) | refine Awp.ret (nqE ?_) | (refine o_calm rfl TtOk rfl rfl rfl ?_ (fun _ => ?_); exact nd) | refine o_alloc (d := 2) rfl TtOk rfl rfl rfl (fun b2 => ?_) | refine o_alloc (d := 3) rfl TtOk rfl rfl rfl (fun b3 => ?_) | refine o_alloc (d := 4) rfl TtOk rfl rfl rfl (fun b4 => ?_) | refine o_alloc (d := 6) rfl TtOk rfl rfl rfl (fun b6 => ?_) | refine o_alloc (d := 7) rfl TtOk rfl rfl rfl (fun b7 => ?_) | refine o_alloc (d := 8) rfl TtOk rfl rfl rfl (fun b8 => ?_) | refine o_alloc (d := 9) rfl TtOk rfl rfl rfl (fun b9 => ?_) | refine o_alloc (d := 10) rfl TtOk rfl rfl rfl (fun b10 => ?_) | refine o_box (d := 1) rfl rfl rfl rfl (fun b1 => ?_) | refine o_store TtOk rfl rfl rfl rfl rfl rfl rfl ⟨rfl, rfl⟩ rfl rfl rfl rfl rfl ?_ | refine o_build TtOk rfl rfl rfl rfl rfl rfl nq1 ?_ | refine o_buildArr0 TtOk rfl rfl rfl rfl ?_ | refine a_any 5 [2, 3] [32] [] [1, 4, 0, 2, 3, 5, 6, 7] (by kernel_rfl) (by kernel_rfl) (by kernel_rfl) rfl rfl rfl ?_ | refine o_callE rfl (k1) ⟨nqS, True.intro⟩ rfl ?_ | refine o_callE rfl (k2) ⟨nqS, True.intro⟩ rfl ?_ | refine o_callE rfl (k3) ⟨nqS, True.intro⟩ rfl ?_ | refine o_callE rfl (k4) ⟨nqS, True.intro⟩ rfl ?_)
  all_goals
    refine end_all [] [] (.tup [rdA q4.2, .agg [.i .i64 (q1.1 : Nat), labA q2.1, labA q3.1, .i .i64 (q4.1 : Nat)]]) rfl ?_ ?_ (rle_tup2 (CLe.of_eq rfl) (CLe.of_eq rfl) rfl rfl) .nil ⟨rfl, rfl⟩ _ (.inl rfl)
    · exact nq1
    · exact ⟨trivial, trivial, trivial⟩
theorem rleaf15_spec (r : RS) (hok : r.ok) : Spec Tryz.prog 197 [rdA r] [] (fun v os => v = .tup [rdA r.lef.2, r.lef.1.A] ∧ os = []) := by
  have k2 := clabel_spec _ hok
  have k3 := clabel_spec _ (RS.ok_label hok)
  have k4 := cnumber_spec _ (RS.ok_label (RS.ok_label hok))
  show Spec Tryz.prog 197 [rdA r] [] (fun v os => v = .tup [rdA r.label.2.label.2.number.2, .agg [labA r.label.1, labA r.label.2.label.1, .i .i64 (r.label.2.label.2.number.1 : Nat)]] ∧ os = [])
  generalize r.label.2.label.2.number = q4 at *
  generalize r.label.2.label = q3 at *
  generalize r.label = q2 at *
  refine spec_of TtOk [] Tryz.func197 rfl Tryz.ntmps197 (by kernel_rfl) rfl rfl (fun C => ?_) rfl
  repeat' (first | refine Awp.seq ?_ | refine Awp.region ?_ | refine Ops.nil (nqA ?_) | refine Ops.nil (nqX ?_) | refine Ops.nil (nqE ?_) | refine Awp.ret (nqE ?_) | (refine o_calm rfl TtOk rfl rfl rfl ?_ (fun _ => ?_); exact nd) | refine o_alloc (d := 2) rfl TtOk rfl rfl rfl (fun b2 => ?_) | refine o_alloc (d := 3) rfl TtOk rfl rfl rfl (fun b3 => ?_) | refine o_alloc (d := 4) rfl TtOk rfl rfl rfl (fun b4 => ?_) | refine o_alloc (d := 5) rfl TtOk rfl rfl rfl (fun b5 => ?_) | refine o_alloc (d := 6) rfl TtOk rfl rfl rfl (fun b6 => ?_) | refine o_alloc (d := 7) rfl TtOk rfl rfl rfl (fun b7 => ?_) | refine o_alloc (d := 8) rfl TtOk rfl rfl rfl (fun b8 => ?_) | refine o_box (d := 1) rfl rfl rfl rfl (fun b1 => ?_) | refine o_store TtOk rfl rfl rfl rfl rfl rfl rfl ⟨rfl, rfl⟩ rfl rfl rfl rfl rfl ?_ | refine o_build TtOk rfl rfl rfl rfl rfl rfl nq1 ?_ | refine o_buildArr0 TtOk rfl rfl rfl rfl ?_ | refine a_any 4 [2, 3] [25] [] [3, 0, 1, 2, 4, 5, 6] (by kernel_rfl) (by kernel_rfl) (by kernel_rfl) rfl rfl rfl ?_ | refine o_callE rfl (k2) ⟨nqS, True.intro⟩ rfl ?_ | refine o_callE rfl (k3) ⟨nqS, True.intro⟩ rfl ?_ | refine o_callE rfl (k4) ⟨nqS, True.intro⟩ rfl ?_)
  all_goals
    refine end_all [] [] (.tup [rdA q4.2, .agg [labA q2.1, labA q3.1, .i .i64 (q4.1 : Nat)]]) rfl ?_ ?_ (rle_tup2 (CLe.of_eq rfl) (CLe.of_eq rfl) rfl rfl) .nil ⟨rfl, rfl⟩ _ (.inl rfl)
    · exact nq1
    · exact ⟨trivial, trivial, trivial⟩
theorem dlabel_spec (l : List UInt8) : Spec Tryz.prog 130 [labA l] [] (fun v os => v = .s l ∧ os = []) := by
  refine spec_of TtOk [] Tryz.func130 rfl Tryz.ntmps130 (by kernel_rfl) rfl rfl (fun C => ?_) rfl
  repeat' (first | (refine a_freezeV 1 1 rfl rfl rfl ?_) | refine Awp.seq ?_ | refine Awp.region ?_ | refine Ops.nil (nqA ?_) | refine Ops.nil (nqX ?_) | refine Ops.nil (nqE ?_) | refine Awp.ret (nqE ?_) | refine o_convB rfl TtOk rfl rfl rfl rfl ?_ | (refine o_conv64 rfl TtOk rfl rfl rfl rfl ?_ ?_; omega) | (refine o_calm rfl TtOk rfl rfl rfl ?_ (fun _ => ?_); exact nd) | refine o_box (d := 1) rfl rfl rfl rfl (fun b1 => ?_) | refine o_sliceCp TtOk rfl rfl rfl rfl rfl rfl ?_ | refine o_toBytes TtOk rfl rfl rfl rfl rfl rfl ?_ | refine o_toString TtOk rfl rfl rfl rfl rfl (by first | exact True.intro | exact rfl) rfl rfl rfl rfl ?_)
  all_goals exact nq2
theorem rwrite15_spec (x : Itm) (hx : x.ok) (hn : 0 ≤ x.n ∧ x.n < 9223372036854775808) (ht : 0 ≤ x.t ∧ x.t < 9223372036854775808) : Spec Tryz.prog 129 [x.R] [] (fun v os => v = .s (itmBy x) ∧ os = []) := by
  obtain ⟨n, l, s, t⟩ := x
  obtain ⟨hl, hs⟩ := hx
  dsimp only at hl hs hn ht
  have k1 := dnumber_spec n.toNat (by omega)
  have k2 := dlabel_spec l
  have k3 := dlabel_spec s
  have k4 := dnumber_spec t.toNat (by omega)
  rw [Int.toNat_of_nonneg hn.1] at k1
  rw [Int.toNat_of_nonneg ht.1] at k4
  have e1 : (numBytes n.toNat).length ≤ 9 := numBytes_len _ (by omega)
  have e4 : (numBytes t.toNat).length ≤ 9 := numBytes_len _ (by omega)
  show Spec Tryz.prog 129 [.agg [.i .i64 n, labA l, labA s, .i .i64 t]] [] (fun v os => v = .s (((numBytes n.toNat ++ l) ++ s) ++ numBytes t.toNat) ∧ os = [])
  generalize numBytes n.toNat = a at *
  generalize numBytes t.toNat = b at *
  refine spec_of TtOk [] Tryz.func129 rfl Tryz.ntmps129 (by kernel_rfl) rfl rfl (fun C => ?_) rfl
  repeat' (first | refine Awp.seq ?_ | refine Awp.region ?_ | refine Ops.nil (nqA ?_) | refine Ops.nil (nqX ?_) | refine Ops.nil (nqE ?_) | refine Awp.ret (nqE ?_) | (refine o_add rfl rfl rfl rfl ?_ ?_; omega) | (refine o_calm rfl TtOk rfl rfl rfl ?_ (fun _ => ?_); exact nd) | refine o_box (d := 1) rfl rfl rfl rfl (fun b1 => ?_) | (refine o_calm rfl TtOk rfl rfl rfl ?_ (fun _ => ?_); (show List.length _ + List.length _ ≤ 9223372036854775807; (repeat' (first | rw [List.length_append] | rw [List.length_map] | rw [List.length_cons] | rw [List.length_nil] | rw [List.length_take] | rw [List.length_drop])) <;> omega)) | refine a_any 1 [] [] [] [0, 3, 7, 11, 1, 4, 8, 12, 2, 5, 6, 9, 10, 13, 14, 15] (by kernel_rfl) (by kernel_rfl) (by kernel_rfl) rfl rfl rfl ?_ | refine o_callE rfl (k1) ⟨nqS, True.intro⟩ rfl ?_ | refine o_callE rfl (k2) ⟨nqS, True.intro⟩ rfl ?_ | refine o_callE rfl (k3) ⟨nqS, True.intro⟩ rfl ?_ | refine o_callE rfl (k4) ⟨nqS, True.intro⟩ rfl ?_)
  all_goals exact nq2
theorem rleafText_spec (x : Lef) (hx : x.ok) (ht : 0 ≤ x.t ∧ x.t < 9223372036854775808) : Spec Tryz.prog 141 [x.A] [] (fun v os => v = .s (0 :: lefBy x) ∧ os = []) := by
  obtain ⟨l, s, t⟩ := x
  obtain ⟨hl, hs⟩ := hx
  dsimp only at hl hs ht
  have k1 : Spec Tryz.prog 142 [.b false] [] (fun v os => v = .s [0] ∧ os = []) := dflag_spec false
  have k2 := dlabel_spec l
  have k3 := dlabel_spec s
  have k4 := dnumber_spec t.toNat (by omega)
  rw [Int.toNat_of_nonneg ht.1] at k4
  have e4 : (numBytes t.toNat).length ≤ 9 := numBytes_len _ (by omega)
  show Spec Tryz.prog 141 [.agg [labA l, labA s, .i .i64 t]] [] (fun v os => v = .s (0 :: ((l ++ s) ++ numBytes t.toNat)) ∧ os = [])
  generalize numBytes t.toNat = b at *
  refine spec_of TtOk [] Tryz.func141 rfl Tryz.ntmps141 (by kernel_rfl) rfl rfl (fun C => ?_) rfl
  repeat' (first | refine Awp.seq ?_ | refine Awp.region ?_ | refine Ops.nil (nqA ?_) | refine Ops.nil (nqX ?_) | refine Ops.nil (nqE ?_) | refine Awp.ret (nqE ?_) | (refine o_add rfl rfl rfl rfl ?_ ?_; omega) | (refine o_calm rfl TtOk rfl rfl rfl ?_ (fun _ => ?_); exact nd) | refine o_box (d := 1) rfl rfl rfl rfl (fun b1 => ?_) | (refine o_calm rfl TtOk rfl rfl rfl ?_ (fun _ => ?_); (show List.length _ + List.length _ ≤ 9223372036854775807; (repeat' (first | rw [List.length_append] | rw [List.length_map] | rw [List.length_cons] | rw [List.length_nil] | rw [List.length_take] | rw [List.length_drop])) <;> omega)) | refine a_any 1 [] [] [] [1, 5, 9, 2, 6, 10, 0, 3, 4, 7, 8, 11, 12, 13] (by kernel_rfl) (by kernel_rfl) (by kernel_rfl) rfl rfl rfl ?_ | refine o_callE rfl (k1) ⟨nqS, True.intro⟩ rfl ?_ | refine o_callE rfl (k2) ⟨nqS, True.intro⟩ rfl ?_ | refine o_callE rfl (k3) ⟨nqS, True.intro⟩ rfl ?_ | refine o_callE rfl (k4) ⟨nqS, True.intro⟩ rfl ?_)
  all_goals exact nq2
end Go.Proofs.YtcmgpkibjdbonaaGreat
set_option maxHeartbeats 16000000
set_option maxRecDepth 100000
namespace Go.Proofs.YtcmgpkibjdbonaaGreat
open Go Go.RowKit
theorem com_refl {a : List UInt8} (h : a.length = 32) : comL a a = 256 := by rw [com_self, h]
theorem chkN_R {x y : Itm} (hx : x.ok) : chkN x y = if goodI x = true ∧ goodI y = true then (if x.n ≤ (comL x.l y.l : Nat) ∨ y.n ≤ (comL x.l y.l : Nat) ∨ cmpS x.l y.l ≠ -1 then 3 else 0) else 1 := by
  unfold chkN
  by_cases hg : goodI x = true ∧ goodI y = true
  · rw [if_pos hg, if_pos hg]
    have hn := good_n hg.1
    rcases cmpS_cases x.l y.l with q | q | q
    · by_cases hc : x.n ≤ (comL x.l y.l : Nat) ∨ y.n ≤ (comL x.l y.l : Nat)
      · rw [if_pos (by omega), if_pos (by omega)]
      · rw [if_neg (by omega), if_neg (by omega)]
    · have hl := cmpS_zero.1 q
      have hc := com_refl hx.1
      rw [← hl, hc, if_pos (.inl (by omega)), if_pos (.inl (by omega))]
    · rw [if_pos (.inr (.inr (by omega))), if_pos (.inr (.inr (by omega)))]
  · rw [if_neg hg, if_neg hg]
theorem rchk15_spec (x y : Itm) (hx : x.ok) (hy : y.ok) : Spec Tryz.prog 88 [x.R, y.R] [] (fun v os => v = .i .i64 (chkN x y) ∧ os = []) := by
  have h1 := rgood15_spec x hx
  have h2 := rgood15_spec y hy
  have h3 := rcommon_spec x.l y.l hx.1 hy.1
  have h4 := rorder_spec x.l y.l hx.1 hy.1
  rw [chkN_R hx]
  have ho := cmpS_cases x.l y.l
  have hxR : x.R = .agg [.i .i64 x.n, labA x.l, labA x.s, .i .i64 x.t] := rfl
  have hyR : y.R = .agg [.i .i64 y.n, labA y.l, labA y.s, .i .i64 y.t] := rfl
  rw [hxR] at h1 ⊢
  rw [hyR] at h2 ⊢
  generalize goodI x = a at *
  generalize goodI y = b at *
  generalize comL x.l y.l = n at *
  generalize cmpS x.l y.l = o at *
  refine spec_of TtOk [] Tryz.func88 rfl Tryz.ntmps88 (by kernel_rfl) rfl rfl (fun C => ?_) rfl
  by_cases hab : a = true ∧ b = true
  · rw [if_pos hab]
    obtain ⟨rfl, rfl⟩ := hab
    by_cases hd : x.n ≤ (n : Nat) ∨ y.n ≤ (n : Nat) ∨ o ≠ -1
    · rw [if_pos hd]
      repeat' (first | refine Awp.seq ?_ | refine Awp.region ?_ | refine Ops.nil (nqA ?_) | refine Awp.skip (nqA ?_) | refine Awp.ret (nqE ?_) | refine o_noF rfl rfl rfl ?_ | (refine o_calm rfl TtOk rfl rfl rfl ?_ (fun _ => ?_); exact nd) | refine o_box (d := 2) rfl rfl rfl rfl (fun b2 => ?_) | refine o_box (d := 3) rfl rfl rfl rfl (fun b3 => ?_) | (fail_if_success (refine o_isLit rfl (by first | exact .inl rfl | exact .inr rfl) ?_)); (refine o_splitP rfl rfl (fun hc => ?_) (fun hc => ?_) <;> try (exfalso; omega)) | refine a_condT rfl ?_ | refine a_condF rfl ?_ | (refine a_condN rfl (fun hc => ?_) (fun hc => ?_)) <;> (try (exfalso; omega)) | refine o_callE rfl (h1) ⟨nqS, True.intro⟩ rfl ?_ | refine o_callE rfl (h2) ⟨nqS, True.intro⟩ rfl ?_ | refine o_callE rfl (h3) ⟨nqS, nqS, True.intro⟩ rfl ?_ | refine o_callE rfl (h4) ⟨nqS, nqS, True.intro⟩ rfl ?_)
      all_goals exact nq2
    · rw [if_neg hd]
      repeat' (first | refine Awp.seq ?_ | refine Awp.region ?_ | refine Ops.nil (nqA ?_) | refine Awp.skip (nqA ?_) | refine Awp.ret (nqE ?_) | (refine o_calm rfl TtOk rfl rfl rfl ?_ (fun _ => ?_); exact nd) | refine o_box (d := 2) rfl rfl rfl rfl (fun b2 => ?_) | refine o_box (d := 3) rfl rfl rfl rfl (fun b3 => ?_) | (fail_if_success (refine o_isLit rfl (by first | exact .inl rfl | exact .inr rfl) ?_)); (refine o_splitP rfl rfl (fun hc => ?_) (fun hc => ?_) <;> try (exfalso; omega)) | refine a_condF rfl ?_ | (refine a_condN rfl (fun hc => ?_) (fun hc => ?_)) <;> (try (exfalso; omega)) | refine o_callE rfl (h1) ⟨nqS, True.intro⟩ rfl ?_ | refine o_callE rfl (h2) ⟨nqS, True.intro⟩ rfl ?_ | refine o_callE rfl (h3) ⟨nqS, nqS, True.intro⟩ rfl ?_ | refine o_callE rfl (h4) ⟨nqS, nqS, True.intro⟩ rfl ?_)
      all_goals exact nq2
  · rw [if_neg hab]
    cases a <;> cases b
    case true.true => exact absurd ⟨rfl, rfl⟩ hab
    all_goals
      repeat' (first | refine Awp.seq ?_ | refine Awp.region ?_ | refine Ops.nil (nqA ?_) | refine Awp.ret (nqE ?_) | refine o_noF rfl rfl rfl ?_ | (refine o_calm rfl TtOk rfl rfl rfl ?_ (fun _ => ?_); exact nd) | refine o_box (d := 2) rfl rfl rfl rfl (fun b2 => ?_) | refine o_box (d := 3) rfl rfl rfl rfl (fun b3 => ?_) | refine a_condT rfl ?_ | refine o_callE rfl (h1) ⟨nqS, True.intro⟩ rfl ?_ | refine o_callE rfl (h2) ⟨nqS, True.intro⟩ rfl ?_)
      all_goals exact nq2
end Go.Proofs.YtcmgpkibjdbonaaGreat
