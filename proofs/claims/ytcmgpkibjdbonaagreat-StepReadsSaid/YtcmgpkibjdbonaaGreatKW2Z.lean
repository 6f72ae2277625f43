/- code.Writer by rules: Text, Flag, Done. -/
import Derived.Test.YtcmgpkibjdbonaaGreatKF5Z
import Derived.Test.YtcmgpkibjdbonaaGreatV15Z
import Derived.Test.YtcmgpkibjdbonaaGreatGFZ
set_option maxHeartbeats 4000000
namespace Go.Proofs.YtcmgpkibjdbonaaGreat
open Go Go.RowKit

def WS.text (s : WS) (t : List UInt8) : WS := if 65536 < t.length then s.fail 2 else (s.number t.length).put t
def WS.done (s : WS) : List UInt8 × Int := if s.e ≠ 0 then ([], s.e) else if 65536 < s.bs.length then ([], 2) else (s.bs, 0)
theorem numBytes_len (n : Nat) (h : n < 9223372036854775808) : (numBytes n).length ≤ 9 := by
  have := digits_le 8 n (by omega)
  unfold numBytes; rw [List.length_cons]; omega
theorem WS.len_fail (s : WS) (x : Int) : (s.fail x).bs = s.bs := by unfold WS.fail; split <;> rfl
theorem WS.len_number (s : WS) (n : Int) (hn : n < 9223372036854775808) : (s.number n).bs.length ≤ s.bs.length + 9 := by
  unfold WS.number
  split
  · rw [WS.len_fail]; omega
  · unfold WS.put
    have := numBytes_len n.toNat (by omega)
    show (s.bs ++ numBytes n.toNat).length ≤ _
    rw [List.length_append]; omega
theorem wdone_spec (b : Nat) (v : Value) (s : WS) : Spec Tryz.prog 127 [.ptr 0 b [] 0] (wrO b v s) (fun r os => r = .tup [.s s.done.1, .i .i64 s.done.2] ∧ ∃ v', os = wrO b v' s) := by
  refine spec_of TtOk [(0, .var b (wrA v s)), (1, .row v 5 1 (s.bs.map byA))] Tryz.func127 rfl Tryz.ntmps127 (by kernel_rfl) rfl rfl (fun C => ?_) rfl
  repeat' (first | refine Awp.seq ?_ | refine Awp.region ?_ | (refine Ops.nil ?_; show Awp _ _ _ _ _) | (refine Awp.skip ?_; show Awp _ _ _ _ _) | (refine Awp.ret ?_; show endK _ _ _ _ _) | refine o_lenOwn rfl TtOk rfl rfl rfl rfl (fun _ => ?_) | (refine o_calm rfl TtOk rfl rfl rfl ?_ (fun _ => ?_); exact nd) | (refine a_condP rfl (fun hc => ?_) (fun hc => ?_)) <;> (try (exfalso; omega)) | (refine a_condN rfl (fun hc => ?_) (fun hc => ?_)) <;> (try (exfalso; omega)) | refine o_toString TtOk rfl rfl rfl rfl rfl (by first | exact True.intro | exact rfl) rfl rfl rfl rfl ?_ | refine a_any 2 [] [] [] [0, 1, 2, 4, 3, 5] (by kernel_rfl) (by kernel_rfl) (by kernel_rfl) rfl rfl rfl ?_)
  · have hn : s.done = ([], s.e) := by unfold WS.done; rw [if_pos hc]
    refine end_all [] [(0, _), (1, _)] (.tup [.s _, .i .i64 _]) rfl ?_ ?_ (rle_tup2 (CLe.refl _) (CLe.refl _) rfl rfl) (HLe.same rfl (HOLe.refl _) (HLe.same rfl (HOLe.refl _) .nil)) ⟨by rw [hn], v, rfl⟩ _ (.inl rfl)
    all_goals exact ⟨trivial, trivial, trivial⟩
  · have hn : s.done = ([], 2) := by unfold WS.done; rw [if_neg (by simpa using by assumption), if_pos (by omega)]
    refine end_all [] [(0, _), (1, _)] (.tup [.s _, .i .i64 _]) rfl ?_ ?_ (rle_tup2 (CLe.refl _) (CLe.refl _) rfl rfl) (HLe.same rfl (HOLe.refl _) (HLe.same rfl (HOLe.refl _) .nil)) ⟨by rw [hn], v, rfl⟩ _ (.inl rfl)
    all_goals exact ⟨trivial, trivial, trivial⟩
  · have hn : s.done = (s.bs, 0) := by unfold WS.done; rw [if_neg (by simpa using by assumption), if_neg (by omega)]
    refine end_all [] [(0, _), (1, _)] (.tup [.s _, .i .i64 _]) rfl ?_ ?_ (rle_tup2 (CLe.refl _) (CLe.refl _) rfl rfl) (HLe.same rfl (HOLe.refl _) (HLe.same rfl (HOLe.refl _) .nil)) ⟨by rw [hn], v, rfl⟩ _ (.inl rfl)
    all_goals exact ⟨trivial, trivial, trivial⟩
end Go.Proofs.YtcmgpkibjdbonaaGreat
set_option maxHeartbeats 4000000
namespace Go.Proofs.YtcmgpkibjdbonaaGreat
open Go Go.RowKit

theorem wlabel_spec (b : Nat) (l : List UInt8) (hl : l.length = 32) (v : Value) (s : WS) (hs : s.bs.length ≤ 1000000000000) : Spec Tryz.prog 126 [.ptr 0 b [] 0, labA l] (wrO b v s) (fun r os => r = .tup [] ∧ ∃ v', os = wrO b v' (s.put l)) := by
  refine spec_of TtOk [(0, .var b (wrA v s)), (1, .row v 5 1 (s.bs.map byA))] Tryz.func126 rfl Tryz.ntmps126 (by kernel_rfl) rfl rfl (fun C => ?_) rfl
  refine Awp.seq ?_
  refine Awp.region ?_
  refine o_box rfl rfl rfl rfl (fun _ => ?_)
  refine Ops.nil ?_; show Awp _ _ _ _ _
  refine a_freezeV 3 3 rfl rfl rfl ?_
  repeat' (first | (refine Ops.nil ?_; show endK _ _ _ _ _) | (refine o_calm rfl TtOk rfl rfl rfl ?_ (fun _ => ?_); exact nd) | refine o_store TtOk rfl rfl rfl rfl rfl rfl rfl ⟨rfl, rfl⟩ rfl rfl rfl rfl rfl ?_ | (refine o_append TtOk rfl rfl rfl rfl rfl rfl rfl rfl rfl (by first | exact True.intro | exact rfl) rfl rfl (fun _ => rfl) ?_ ?_ (fun _ => ?_); ((repeat' (first | rw [List.length_append] | rw [List.length_map] | rw [List.length_cons] | rw [List.length_nil] | rw [List.length_take] | rw [List.length_drop])) <;> omega); ((repeat' (first | rw [List.length_append] | rw [List.length_map] | rw [List.length_cons] | rw [List.length_nil] | rw [List.length_take] | rw [List.length_drop])) <;> omega)) | refine o_sliceCp TtOk rfl rfl rfl rfl rfl rfl ?_ | refine a_any 1 [0, 1] [8] [] [0, 1, 2, 3, 5, 4, 6, 7, 8, 9] (by kernel_rfl) (by kernel_rfl) (by kernel_rfl) rfl rfl rfl ?_)
  rename_i v2 _ _
  refine end_none rfl [] [(0, _), (1, _)] (HLe.same rfl (HOLe.refl _) (HLe.same rfl (HOLe.refl _) .nil)) ⟨rfl, v2, ?_⟩ _ (by first | exact .inl rfl | exact .inr rfl)
  show _ = [HO.var b (wrA v2 ⟨s.bs ++ l, s.e⟩), HO.row v2 _ 1 ((s.bs ++ l).map byA)]
  rw [List.map_append]; rfl
end Go.Proofs.YtcmgpkibjdbonaaGreat
namespace Go.Proofs.YtcmgpkibjdbonaaGreat
open Go Go.RowKit

structure Thg where
  k : Int
  n : Int
  s : List UInt8
  l : List UInt8
def thA (t : Thg) : AV := .agg [.i .i64 t.k, .i .i64 t.n, .s t.s, labA t.l]
def RS.rest (r : RS) : List UInt8 := r.s.drop r.p
theorem RS.rest_len (r : RS) : r.rest.length = r.s.length - r.p := by unfold RS.rest; rw [List.length_drop]
theorem RS.take_ok (r : RS) (he : r.e = 0) (n : Nat) (h : n ≤ r.rest.length) : r.take n = (r.rest.take n, ⟨r.s, r.p + n, 0⟩) := by
  rw [RS.rest_len] at h
  unfold RS.take RS.rest
  rw [if_neg (by simpa using he), if_neg (by omega)]
theorem RS.rest_step (s : List UInt8) (p n : Nat) (e : Int) : (RS.mk s (p + n) e).rest = (RS.mk s p 0).rest.drop n := by unfold RS.rest; rw [List.drop_drop]
theorem be_ge (c : UInt8) (l : List UInt8) : c.toNat * 256 ^ l.length ≤ be (c :: l) := by
  rw [be_cons]; omega
def textBytes (s : List UInt8) : List UInt8 := numBytes s.length ++ s
/-! One spelling. -/
theorem digits_be : ∀ (l : List UInt8), (∀ c t, l = c :: t → c.toNat ≠ 0) → digits (be l) = l := by
  intro l
  induction h : l.length generalizing l with
  | zero => intro _; have := List.eq_nil_of_length_eq_zero h; subst this; exact digits_zero
  | succ k ih =>
    intro hh
    have hne : l ≠ [] := by intro e; subst e; simp at h
    obtain ⟨m, c, rfl⟩ : ∃ m c, l = m ++ [c] := ⟨l.dropLast, l.getLast hne, (List.dropLast_concat_getLast hne).symm⟩
    have hm := ih m (by simpa using h) (fun c' t e => hh c' (t ++ [c]) (by rw [e]; rfl))
    have hc := c.toNat_lt
    have hn : be (m ++ [c]) ≠ 0 := by
      rw [be_snoc]
      cases m with
      | nil => have := hh c [] rfl; omega
      | cons d m =>
        have h1 := hh d (m ++ [c]) rfl
        have h2 := be_ge d m
        have h3 : 0 < 256 ^ m.length := Nat.pow_pos (by omega)
        have h4 : 0 < d.toNat * 256 ^ m.length := Nat.mul_pos (by omega) h3
        omega
    rw [digits_pos hn, be_snoc, show (256 * be m + c.toNat) / 256 = be m by omega, hm]
    congr 2
    apply UInt8.toNat_inj.1
    rw [UInt8.toNat_ofNat']; omega
theorem RS.take_inv {r : RS} {n : Nat} (_hok : r.ok) (h : (r.take n).2.e = 0) : r.e = 0 ∧ n ≤ r.rest.length := by
  have h1 := r.rest_len
  unfold RS.take at h
  split at h
  · rename_i h2; exact absurd h h2
  · rename_i h2
    split at h
    · cases h
    · exact ⟨by simpa using h2, by omega⟩
theorem RS.fail_inv {r : RS} {x : Int} (hx : x ≠ 0) (h : (r.fail x).e = 0) : False := by
  unfold RS.fail at h
  split at h
  · exact hx h
  · rename_i h2; exact h2 h
/-- What is read as a number without a fault is the number's own spelling. -/
theorem RS.number_inv {r : RS} (hok : r.ok) (h : r.number.2.e = 0) : r.e = 0 ∧ r.number.1 < 9223372036854775808 ∧ ∃ t, r.rest = numBytes r.number.1 ++ t ∧ r.number.2 = ⟨r.s, r.p + (numBytes r.number.1).length, 0⟩ := by
  have hfit := number_fits (r := r)
  refine ⟨?_, hfit, ?_⟩
  · refine Classical.byContradiction fun he => ?_
    have h1 : r.take 1 = ([], r) := by unfold RS.take; rw [if_pos he]
    unfold RS.number at h
    rw [h1] at h
    exact he h
  · have h2 : r.number.2.e = 0 := h
    unfold RS.number at h
    by_cases h1 : (r.take 1).1 = []
    · rw [if_pos h1] at h
      obtain ⟨he, hl⟩ := RS.take_inv hok h
      rw [RS.take_ok r he 1 hl] at h1
      have := congrArg List.length h1
      simp only [List.length_take, List.length_nil] at this; omega
    · rw [if_neg h1] at h
      by_cases h3 : 8 < hd0 (r.take 1).1
      · rw [if_pos h3] at h; exact (RS.fail_inv (by decide) h).elim
      · rw [if_neg h3] at h
        by_cases h4 : badNum (hd0 (r.take 1).1) ((r.take 1).2.take (hd0 (r.take 1).1)).1 = true
        · rw [if_pos h4] at h; exact (RS.fail_inv (by decide) h).elim
        · rw [if_neg h4] at h
          have hok1 := RS.ok_take hok 1
          obtain ⟨he1, hl1⟩ := RS.take_inv hok1 h
          obtain ⟨he, hl⟩ := RS.take_inv hok he1
          have e1 := RS.take_ok r he 1 hl
          obtain ⟨c, t, hct⟩ : ∃ c t, r.rest = c :: t := by
            cases hr : r.rest with
            | nil => rw [hr] at hl; simp at hl
            | cons c t => exact ⟨c, t, rfl⟩
          rw [hct] at e1
          have e1' : r.take 1 = ([c], ⟨r.s, r.p + 1, 0⟩) := e1
          have hr1 : (RS.mk r.s (r.p + 1) 0).rest = t := by rw [RS.rest_step]; show r.rest.drop 1 = _; rw [hct]; rfl
          have hb0 : hd0 [c] = c.toNat := rfl
          rw [e1'] at h3 h4 hl1
          simp only [hb0] at h3 h4 hl1
          rw [hr1] at hl1
          have e2 : (RS.mk r.s (r.p + 1) 0).take c.toNat = (t.take c.toNat, ⟨r.s, r.p + 1 + c.toNat, 0⟩) := by rw [RS.take_ok _ rfl _ (by rw [hr1]; exact hl1), hr1]
          rw [e2] at h4
          have hnum : r.number = (be (t.take c.toNat), ⟨r.s, r.p + 1 + c.toNat, 0⟩) := by
            unfold RS.number
            rw [e1']
            simp only [hb0]
            rw [if_neg (by simp), if_neg h3, e2]
            simp only []
            rw [if_neg h4]
          have hlen : (t.take c.toNat).length = c.toNat := by rw [List.length_take]; omega
          have hd : digits (be (t.take c.toNat)) = t.take c.toNat := digits_be _ (fun d u e => by
            rw [e] at h4
            intro h0
            simp [badNum, h0] at h4)
          have hnb : numBytes (be (t.take c.toNat)) = c :: t.take c.toNat := by
            unfold numBytes
            rw [hd, hlen]
            congr 1
            apply UInt8.toNat_inj.1
            have := c.toNat_lt
            rw [UInt8.toNat_ofNat']; omega
          rw [hnum]
          refine ⟨t.drop c.toNat, ?_, ?_⟩
          · show r.rest = numBytes (be (t.take c.toNat)) ++ _
            rw [hnb, hct, List.cons_append, List.take_append_drop]
          · show _ = RS.mk r.s (r.p + (numBytes (be (t.take c.toNat))).length) 0
            rw [hnb, List.length_cons, hlen, show r.p + (c.toNat + 1) = r.p + 1 + c.toNat by omega]
theorem RS.label_inv {r : RS} (hok : r.ok) (h : r.label.2.e = 0) : r.e = 0 ∧ r.label.1.length = 32 ∧ ∃ t, r.rest = r.label.1 ++ t ∧ r.label.2 = ⟨r.s, r.p + 32, 0⟩ := by
  obtain ⟨he, hl⟩ := RS.take_inv hok (n := 32) h
  have hlen : (r.rest.take 32).length = 32 := by rw [List.length_take]; omega
  have hb : r.label = (r.rest.take 32, ⟨r.s, r.p + 32, 0⟩) := by
    unfold RS.label
    rw [RS.take_ok r he 32 hl]
    simp only []
    rw [hlen]; simp
  rw [hb]
  exact ⟨he, hlen, r.rest.drop 32, (List.take_append_drop _ _).symm, rfl⟩
/-- The bytes of a thing. -/
def tBytes (t : Thg) : List UInt8 := if t.k = 1 then numBytes t.n.toNat else if t.k = 2 then textBytes t.s else if t.k = 3 then t.l else if t.k = 4 then [if 0 < t.n then 1 else 0] else []
def WS.thing (w : WS) (t : Thg) : WS := if t.k = 1 then w.number t.n else if t.k = 2 then w.text t.s else if t.k = 3 then w.put t.l else if t.k = 4 then w.put [if 0 < t.n then 1 else 0] else w
def WS.things (w : WS) (l : List Thg) : WS := l.foldl WS.thing w
/-- What is written without a fault. -/
def tOk (t : Thg) : Prop := (t.k = 1 → 0 ≤ t.n) ∧ (t.k = 2 → t.s.length ≤ 65536)
end Go.Proofs.YtcmgpkibjdbonaaGreat
set_option maxHeartbeats 8000000
set_option maxRecDepth 100000
namespace Go.Proofs.YtcmgpkibjdbonaaGreat
open Go Go.RowKit
def WS.itm (s : WS) (x : Itm) : WS := (((s.number x.n).put x.l).put x.s).number x.t
def RS.itm (r : RS) : Itm × RS := (⟨(r.number.1 : Nat), r.number.2.label.1, r.number.2.label.2.label.1, (r.number.2.label.2.label.2.number.1 : Nat)⟩, r.number.2.label.2.label.2.number.2)
def WS.lef (s : WS) (x : Lef) : WS := ((s.put x.l).put x.v).number x.t
def RS.lef (r : RS) : Lef × RS := (⟨r.label.1, r.label.2.label.1, (r.label.2.label.2.number.1 : Nat)⟩, r.label.2.label.2.number.2)
theorem RS.ok_label {r : RS} (h : r.ok) : r.label.2.ok := RS.ok_take h _
theorem RS.ok_itm {r : RS} (h : r.ok) : r.itm.2.ok := RS.ok_number (RS.ok_label (RS.ok_label (RS.ok_number h)))
theorem RS.ok_lef {r : RS} (h : r.ok) : r.lef.2.ok := RS.ok_number (RS.ok_label (RS.ok_label h))
theorem WS.len_put (s : WS) (l : List UInt8) : (s.put l).bs.length = s.bs.length + l.length := List.length_append
theorem WS.len_itm (s : WS) (x : Itm) (hx : x.ok) (hn : x.n < 9223372036854775808) (ht : x.t < 9223372036854775808) : (s.itm x).bs.length ≤ s.bs.length + 82 := by
  unfold WS.itm
  have h1 := WS.len_number s x.n hn
  have h2 := WS.len_number (((s.number x.n).put x.l).put x.s) x.t ht
  rw [WS.len_put, WS.len_put, hx.1, hx.2] at h2
  omega
theorem WS.len_lef (s : WS) (x : Lef) (hx : x.ok) (ht : x.t < 9223372036854775808) : (s.lef x).bs.length ≤ s.bs.length + 73 := by
  unfold WS.lef
  have h2 := WS.len_number ((s.put x.l).put x.v) x.t ht
  rw [WS.len_put, WS.len_put, hx.1, hx.2] at h2
  omega
def w0 : WS := ⟨[], 0⟩
def lfW (x : Lef) : WS := (w0.put [0]).lef x
def inW (x y : Itm) : WS := ((w0.put [1]).itm x).itm y
/-- The bytes of a leaf, of an inner node; the error. -/
def lfBy (x : Lef) : List UInt8 × Int := if chkLf x ≠ 0 then ([], chkLf x) else (lfW x).done
def inBy (x y : Itm) : List UInt8 × Int := if chkN x y ≠ 0 then ([], chkN x y) else (inW x y).done
/-- What bytes are as a node: a leaf, two items, or nothing; the error. -/
inductive Nod where
  | no | lf (x : Lef) | inn (x y : Itm)
def Nod.A : Nod → AV
  | .no => .nili
  | .lf x => leafN x
  | .inn x y => innN x y
def Nod.chk : Nod → Int
  | .no => 3
  | .lf x => chkLf x
  | .inn x y => chkN x y
def nodR (s : List UInt8) : Nod × RS :=
  let f := (RS.open s).flag
  if f.1 = true then (.inn f.2.itm.1 f.2.itm.2.itm.1, f.2.itm.2.itm.2) else (.lf f.2.lef.1, f.2.lef.2)
def nodRd (s : List UInt8) : Nod × Int :=
  if (nodR s).2.done ≠ 0 then (.no, (nodR s).2.done) else if (nodR s).1.chk ≠ 0 then (.no, (nodR s).1.chk) else ((nodR s).1, 0)
theorem label_len (r : RS) : r.label.1.length = 32 := by
  unfold RS.label
  rw [List.length_append, List.length_replicate]
  have := take_len r 32
  omega
theorem itm_ok' (r : RS) : r.itm.1.ok := ⟨label_len _, label_len _⟩
theorem lef_ok' (r : RS) : r.lef.1.ok := ⟨label_len _, label_len _⟩
end Go.Proofs.YtcmgpkibjdbonaaGreat
set_option maxHeartbeats 4000000
namespace Go.Proofs.YtcmgpkibjdbonaaGreat
open Go Go.RowKit
/-- The nodes upwards of an item, by the items beside the way. -/
def upsF : Itm → List Itm → List UInt8 → List Nod × Int
  | _, [], _ => ([], 0)
  | x, y :: r, lb => if upE x y lb ≠ 0 then ([], upE x y lb) else (.inn (upL x y) (upR x y) :: (upsF (innI (upL x y) (upR x y)) r lb).1, (upsF (innI (upL x y) (upR x y)) r lb).2)
/-- Nodes ahead of what is still to come. -/
def fin_ (acc : List Nod) (q : List Nod × Int) : List Nod × Int := if q.2 ≠ 0 then ([], q.2) else (acc ++ q.1, 0)
def ndsF (p : Prf) (lb : List UInt8) : List Nod × Int :=
  if 256 < p.path.length then ([], 2)
  else if p.e = 0 then (if p.path.length = 0 then ([], 0) else ([], 3))
  else if p.e = 1 then (if chkLf p.lf ≠ 0 then ([], chkLf p.lf) else fin_ [.lf p.lf] (upsF (leafI p.lf) p.path lb))
  else if p.e = 2 then (if chkN p.a p.b ≠ 0 then ([], chkN p.a p.b) else if hasP (innI p.a p.b).p lb = true then ([], 11) else fin_ [.inn p.a p.b] (upsF (innI p.a p.b) p.path lb))
  else ([], 1)
end Go.Proofs.YtcmgpkibjdbonaaGreat
set_option maxHeartbeats 4000000
namespace Go.Proofs.YtcmgpkibjdbonaaGreat
open Go Go.RowKit
structure Fst (G : List Itm) : Prop where
  ok : ∀ x ∈ G, x.ok
  good : ∀ x ∈ G, goodI x = true
  anti : G.Pairwise Anti
  rise : RiseI G
/-- The item that two neighbours are. -/
def nbC (G : List Itm) (i : Nat) : Nat := comL (G.getD i default).l (G.getD (i + 1) default).l
def mrg (G : List Itm) (i : Nat) : List Itm := G.take i ++ innI (G.getD i default) (G.getD (i + 1) default) :: G.drop (i + 2)
end Go.Proofs.YtcmgpkibjdbonaaGreat
set_option maxHeartbeats 4000000
namespace Go.Proofs.YtcmgpkibjdbonaaGreat
open Go Go.RowKit
def Nod.itm : Nod → Itm
  | .no => itm0
  | .lf x => leafI x
  | .inn x y => innI x y
def Nod.txt : Nod → List UInt8
  | .no => []
  | .lf x => leafB x
  | .inn x y => innB x y
def Nod.ok : Nod → Prop
  | .no => True
  | .lf x => x.ok
  | .inn x y => x.ok ∧ y.ok
/-- Leaves that rise and are good. -/
structure Rsn (l : List Lef) : Prop where
  rise : RiseI (l.map leafI)
  ok : ∀ x ∈ l, x.ok
  good : ∀ x ∈ l, goodI (leafI x) = true
theorem Rsn.take {l : List Lef} (h : Rsn l) (i : Nat) : Rsn (l.take i) := ⟨by rw [List.map_take]; exact h.rise.sublist (List.take_sublist ..), fun x hx => h.ok x (List.mem_of_mem_take hx), fun x hx => h.good x (List.mem_of_mem_take hx)⟩
theorem Rsn.drop {l : List Lef} (h : Rsn l) (i : Nat) : Rsn (l.drop i) := ⟨by rw [List.map_drop]; exact h.rise.sublist (List.drop_sublist ..), fun x hx => h.ok x (List.mem_of_mem_drop hx), fun x hx => h.good x (List.mem_of_mem_drop hx)⟩
theorem Rsn.okI {l : List Lef} (h : Rsn l) : ∀ x ∈ l.map leafI, x.ok := hok_map h.ok
theorem Rsn.goodI {l : List Lef} (h : Rsn l) : ∀ x ∈ l.map leafI, goodI x = true := fun x hx => by
  obtain ⟨y, hy, rfl⟩ := List.mem_map.1 hx
  exact h.good y hy
/-- The item of leaves. -/
def jnI (l : List Lef) : Itm := joinF l.length (l.map leafI)
theorem Rsn.join {l : List Lef} (h : Rsn l) (h0 : 0 < l.length) : JoinB (jnI l) (l.map leafI) ∧ Go.Proofs.YtcmgpkibjdbonaaGreat.goodI (jnI l) = true := by
  have h1 : 0 < (l.map leafI).length := by rw [List.length_map]; exact h0
  have hJ := join_B h1 h.rise h.okI (fun x hx => good_n (h.goodI x hx))
  have ht := joinF_t (l.map leafI).length (l.map leafI) (List.length_pos_iff.1 h1) (Nat.le_refl _) h.rise h.okI (fun x hx => good_t (h.goodI x hx))
  rw [List.length_map] at hJ ht
  refine ⟨hJ, ?_⟩
  have ht : 0 ≤ (jnI l).t ∧ (jnI l).t ≤ 1073741824 := ht
  have hg := hJ.good h.goodI
  unfold Go.Proofs.YtcmgpkibjdbonaaGreat.goodI
  rw [show (⟨(jnI l).n, (jnI l).l⟩ : Pfx) = (joinF l.length (l.map leafI)).p from rfl, hg, decide_eq_true ht.1, decide_eq_true ht.2]; rfl
/-- Of leaves all of which have some bits in common, the item is one further. -/
theorem Rsn.deep {l : List Lef} (h : Rsn l) (h0 : 0 < l.length) {n : Nat} (hn : n < 256) (hb : ∀ x ∈ l, ∀ y ∈ l, ∀ i, i ≤ n → bitL x.l i = bitL y.l i) : ((n : Nat) : Int) < (jnI l).n ∧ ∀ y ∈ l, bitL (jnI l).l n = bitL y.l n := by
  have h1 : 0 < (l.map leafI).length := by rw [List.length_map]; exact h0
  have hlt : ((n : Nat) : Int) < (jnI l).n := by
    obtain ⟨a, b⟩ := join_pfx _ (l.map leafI) h1 (Nat.le_refl _) h.rise h.okI
    rw [List.length_map] at a b
    unfold jnI
    by_cases h1 : l.length = 1
    · rw [a h1, List.getElem_map]; show ((n : Nat) : Int) < 256; omega
    · rw [(b (by omega)).1]
      have := frk_gt h.okI (by rw [List.length_map]; exact h0) hn (fun x hx i hi => by
        obtain ⟨y, hy, rfl⟩ := List.mem_map.1 hx
        rw [List.getElem_map]
        exact hb y hy _ (List.getElem_mem _) i hi)
      omega
  refine ⟨hlt, fun y hy => ?_⟩
  exact ((h.join h0).1.agree (leafI y) (List.mem_map_of_mem hy) n hlt).symm
/-- What is known of the two sides. -/
structure Sides (l : List Lef) : Prop where
  s0 : 0 < splI (l.map leafI)
  sl : splI (l.map leafI) < l.length
  f256 : frkI (l.map leafI) < 256
  jA : parA (l.map leafI) = jnI (l.take (splI (l.map leafI)))
  jB : parB (l.map leafI) = jnI (l.drop (splI (l.map leafI)))
  oA : (parA (l.map leafI)).ok
  oB : (parB (l.map leafI)).ok
  jn : jnI l = innI (parA (l.map leafI)) (parB (l.map leafI))
  com : comL (parA (l.map leafI)).l (parB (l.map leafI)).l = frkI (l.map leafI)
  bA : bitL (parA (l.map leafI)).l (frkI (l.map leafI)) = 0
  bB : bitL (parB (l.map leafI)).l (frkI (l.map leafI)) = 1
  lo : ∀ x ∈ l.take (splI (l.map leafI)), bitL x.l (frkI (l.map leafI)) = 0
  hi : ∀ x ∈ l.drop (splI (l.map leafI)), bitL x.l (frkI (l.map leafI)) = 1
  chk : chkN (parA (l.map leafI)) (parB (l.map leafI)) = 0
  cmp : cmpS (parA (l.map leafI)).l (parB (l.map leafI)).l < 0
theorem Rsn.sides {l : List Lef} (h : Rsn l) (h2 : 2 ≤ l.length) : Sides l := by
  have hml : (l.map leafI).length = l.length := List.length_map ..
  have h2I : 2 ≤ (l.map leafI).length := by omega
  obtain ⟨hf, s0, s1, _⟩ := spl_ok h.rise h.okI h2I
  obtain ⟨oA, oB⟩ := par_ok h.rise h.okI h2I
  have hjn := join_par h2I
  have hlo : ∀ x ∈ l.take (splI (l.map leafI)), bitL x.l (frkI (l.map leafI)) = 0 := fun x hx => by
    obtain ⟨j, hj, rfl⟩ := List.getElem_of_mem hx
    rw [List.length_take] at hj
    rw [List.getElem_take]
    have := spl_lo (l := l.map leafI) j (by omega) (by omega)
    rw [List.getElem_map] at this
    exact this
  have hhi : ∀ x ∈ l.drop (splI (l.map leafI)), bitL x.l (frkI (l.map leafI)) = 1 := fun x hx => by
    obtain ⟨j, hj, rfl⟩ := List.getElem_of_mem hx
    rw [List.length_drop] at hj
    rw [List.getElem_drop]
    have := spl_hi h.rise h.okI h2I (splI (l.map leafI) + j) (by omega) (by omega)
    rw [List.getElem_map] at this
    exact this
  have hbits : ∀ x ∈ l, ∀ y ∈ l, ∀ i, i < frkI (l.map leafI) → bitL x.l i = bitL y.l i := fun x hx y hy i hi => by
    obtain ⟨j, hj, rfl⟩ := List.getElem_of_mem hx
    obtain ⟨k, hk, rfl⟩ := List.getElem_of_mem hy
    have a := rise_bits h.rise h.okI (by omega) j (by omega) i hi
    have b := rise_bits h.rise h.okI (by omega) k (by omega) i hi
    rw [List.getElem_map] at a b
    exact a.trans b.symm
  have tk : (l.take (splI (l.map leafI))).length = splI (l.map leafI) := by rw [List.length_take]; omega
  have dr : (l.drop (splI (l.map leafI))).length = l.length - splI (l.map leafI) := List.length_drop
  have n1 : l.take (splI (l.map leafI)) ≠ [] := fun he => by rw [he] at tk; simp at tk; omega
  have n2 : l.drop (splI (l.map leafI)) ≠ [] := fun he => by rw [he] at dr; simp at dr; omega
  have e1 : parA (l.map leafI) = jnI (l.take (splI (l.map leafI))) := by
    unfold parA jnI
    rw [← List.map_take]
    exact (joinF_fuel _ _ _ (fun he => n1 (List.map_eq_nil_iff.1 he)) (by rw [List.length_map]; exact Nat.le_refl _) (by rw [List.length_map]; omega) (h.take _).rise (h.take _).okI).symm
  have e2 : parB (l.map leafI) = jnI (l.drop (splI (l.map leafI))) := by
    unfold parB jnI
    rw [← List.map_drop]
    exact (joinF_fuel _ _ _ (fun he => n2 (List.map_eq_nil_iff.1 he)) (by rw [List.length_map]; exact Nat.le_refl _) (by rw [List.length_map]; omega) (h.drop _).rise (h.drop _).okI).symm
  obtain ⟨dA, bA'⟩ := (h.take (splI (l.map leafI))).deep (by omega) hf (fun x hx y hy i hi => by
    rcases Nat.lt_or_ge i (frkI (l.map leafI)) with hlt | hge
    · exact hbits x (List.mem_of_mem_take hx) y (List.mem_of_mem_take hy) i hlt
    · have : i = frkI (l.map leafI) := by omega
      subst this
      rw [hlo x hx, hlo y hy])
  obtain ⟨dB, bB'⟩ := (h.drop (splI (l.map leafI))).deep (by omega) hf (fun x hx y hy i hi => by
    rcases Nat.lt_or_ge i (frkI (l.map leafI)) with hlt | hge
    · exact hbits x (List.mem_of_mem_drop hx) y (List.mem_of_mem_drop hy) i hlt
    · have : i = frkI (l.map leafI) := by omega
      subst this
      rw [hhi x hx, hhi y hy])
  obtain ⟨jA, gA⟩ := (h.take (splI (l.map leafI))).join (by omega)
  obtain ⟨jB, gB⟩ := (h.drop (splI (l.map leafI))).join (by omega)
  obtain ⟨xa, ra, hxa⟩ := List.exists_cons_of_ne_nil n1
  obtain ⟨xb, rb, hxb⟩ := List.exists_cons_of_ne_nil n2
  have ma : xa ∈ l.take (splI (l.map leafI)) := by rw [hxa]; exact List.mem_cons_self ..
  have mb : xb ∈ l.drop (splI (l.map leafI)) := by rw [hxb]; exact List.mem_cons_self ..
  have bA : bitL (parA (l.map leafI)).l (frkI (l.map leafI)) = 0 := by rw [e1, bA' xa ma, hlo xa ma]
  have bB : bitL (parB (l.map leafI)).l (frkI (l.map leafI)) = 1 := by rw [e2, bB' xb mb, hhi xb mb]
  have hcom : comL (parA (l.map leafI)).l (parB (l.map leafI)).l = frkI (l.map leafI) := by
    refine com_is oA.1 oB.1 hf (fun i hi => ?_) (by rw [bA, bB]; decide)
    rw [e1, e2, ← jA.agree (leafI xa) (List.mem_map_of_mem ma) i (by omega), ← jB.agree (leafI xb) (List.mem_map_of_mem mb) i (by omega)]
    exact hbits xa (List.mem_of_mem_take ma) xb (List.mem_of_mem_drop mb) i hi
  have hcmp : cmpS (parA (l.map leafI)).l (parB (l.map leafI)).l < 0 := lt_cmp oA.1 oB.1 (by omega) (by rw [hcom]; exact bA)
  have hck : chkN (parA (l.map leafI)) (parB (l.map leafI)) = 0 := by
    unfold chkN
    rw [if_pos ⟨by rw [e1]; exact gA, by rw [e2]; exact gB⟩, hcom, if_neg]
    rintro (q | q | q)
    · rw [e1] at q; omega
    · rw [e2] at q; omega
    · omega
  exact ⟨s0, by omega, hf, e1, e2, oA, oB, by unfold jnI; rw [← hml]; exact hjn, hcom, bA, bB, hlo, hhi, hck, hcmp⟩
theorem cmp_pos {a b : List UInt8} (h : cmpS a b < 0) : 0 < cmpS b a := by rw [cmpS_gt (cmpS_neg.1 h)]; decide
/-- A step up, from either side. -/
theorem Sides.up {l : List Lef} (h : Sides l) {lb : List UInt8} (hh : hasP (jnI l).p lb = true) (c : Nat) (hc : bitL lb (frkI (l.map leafI)) = c) (x y : Itm) (hx : x = if c = 1 then parB (l.map leafI) else parA (l.map leafI)) (hy : y = if c = 1 then parA (l.map leafI) else parB (l.map leafI)) :
    upL x y = parA (l.map leafI) ∧ upR x y = parB (l.map leafI) ∧ upE x y lb = 0 := by
  have hLR : upL x y = parA (l.map leafI) ∧ upR x y = parB (l.map leafI) := by
    unfold upL upR
    by_cases h1 : c = 1
    · rw [if_pos h1] at hx hy
      subst hx; subst hy
      rw [if_pos (cmp_pos h.cmp), if_pos (cmp_pos h.cmp)]; exact ⟨rfl, rfl⟩
    · rw [if_neg h1] at hx hy
      subst hx; subst hy
      have := h.cmp
      rw [if_neg (by omega), if_neg (by omega)]; exact ⟨rfl, rfl⟩
  refine ⟨hLR.1, hLR.2, ?_⟩
  unfold upE
  rw [hLR.1, hLR.2, h.chk, if_neg (by decide), ← h.jn, hh, h.com]
  refine if_pos ⟨rfl, ?_⟩
  have hf := h.f256
  unfold bitN
  rw [if_pos hf, if_pos hf, hc, hx]
  have hbo := bitL_or lb (frkI (l.map leafI))
  rw [hc] at hbo
  rcases hbo with rfl | rfl
  · rw [if_neg (by decide), h.bA]
  · rw [if_pos rfl, h.bB]
/-- The nodes of the way, the top first. -/
def wayN : Nat → List Lef → List UInt8 → List Nod
  | 0, _, _ => []
  | k + 1, l, lb => if l = [] then [] else if l.length = 1 then [.lf (l.headD lef0)]
    else if hasP (joinF l.length (l.map leafI)).p lb = false then [.inn (parA (l.map leafI)) (parB (l.map leafI))]
    else if bitL lb (frkI (l.map leafI)) = 1 then .inn (parA (l.map leafI)) (parB (l.map leafI)) :: wayN k (l.drop (splI (l.map leafI))) lb else .inn (parA (l.map leafI)) (parB (l.map leafI)) :: wayN k (l.take (splI (l.map leafI))) lb
/-- What the end of a way is. -/
def WayEnd (l : List Lef) (lb : List UInt8) (P : Prf) (n0 : Nod) : Prop :=
  (P.e = 1 ∧ P.lf ∈ l ∧ n0 = .lf P.lf ∧ P.a = itm0 ∧ P.b = itm0) ∨ (P.e = 2 ∧ P.lf = lef0 ∧ n0 = .inn P.a P.b ∧ chkN P.a P.b = 0 ∧ hasP (innI P.a P.b).p lb = false ∧ P.a.ok ∧ P.b.ok)
/-- A leaf's label begins as the tree. -/
theorem Rsn.has {l : List Lef} (h : Rsn l) (h0 : 0 < l.length) {x : Lef} (hx : x ∈ l) : hasP (jnI l).p x.l = true := by
  obtain ⟨hJ, hg⟩ := h.join h0
  unfold hasP
  have h1 : goodP (jnI l).p = true := hJ.good h.goodI
  rw [h1, decide_eq_true]; rfl
  have hge := hJ.ge
  have hle := hJ.le
  have := (com_ge hJ.ok.1 (h.ok x hx).1 (n := (jnI l).n.toNat) (by omega)).2 (fun i hi => (hJ.agree (leafI x) (List.mem_map_of_mem hx) i (by omega)).symm)
  show (jnI l).n ≤ _
  show (jnI l).n ≤ ((comL (jnI l).l x.l : Nat) : Int)
  omega
/-- The sum that nodes end at. -/
def nsum (l : List Nod) : List UInt8 := match l.getLast? with
  | none => shaN [18]
  | some n => n.itm.s
theorem rsn_srt {L : List Lef} (hok : ∀ x ∈ L, x.ok) (hc : chkI (itmsL L) = 0) : Rsn (srtL L) := by
  obtain ⟨-, hr, hg⟩ := chkI_rise hc
  rw [itms_map] at hr hg
  exact ⟨hr, fun x hx => hok x (srtL_mem.1 hx), fun x hx => hg _ (List.mem_map_of_mem hx)⟩
theorem top_srt {L : List Lef} (hc : mkE L = 0) : topS (itmsL L) = if srtL L = [] then shaN [18] else (jnI (srtL L)).s := by
  have hc : chkI (itmsL L) = 0 := hc
  unfold topS
  rw [itms_map] at hc ⊢
  rw [if_neg (fun h => h hc)]
  by_cases h0 : srtL L = []
  · rw [h0]; rfl
  · rw [if_neg h0, if_neg (fun he => h0 (List.map_eq_nil_iff.1 he)), List.length_map]; rfl
end Go.Proofs.YtcmgpkibjdbonaaGreat
