/- code.Writer by rules: Text, Flag, Done. -/
import Derived.Test.YtpjfhllkckdejaaKR3Z
import Derived.Test.YtpjfhllkckdejaaV15Z
set_option maxHeartbeats 4000000
namespace Go.Proofs.Ytpjfhllkckdejaa
open Go Go.RowKit

def WS.text (s : WS) (t : List UInt8) : WS := if 65536 < t.length then s.fail 2 else (s.number t.length).put t
def WS.done (s : WS) : List UInt8 × Int := if s.e ≠ 0 then ([], s.e) else if 65536 < s.bs.length then ([], 2) else (s.bs, 0)
theorem numBytes_len (n : Nat) (h : n < 9223372036854775808) : (numBytes n).length ≤ 9 := by
  have := digits_le 8 n (by omega)
  unfold numBytes; rw [List.length_cons]; omega
theorem WS.len_fail (s : WS) (x : Int) : (s.fail x).bs = s.bs := by unfold WS.fail; split <;> rfl
theorem WS.len_number (s : WS) (n : Int) (hn : n < 9223372036854775808) : (s.number n).bs.length ≤ s.bs.length + 9 := by
  unfold WS.number
  split
  · rw [WS.len_fail]; omega
  · unfold WS.put
    have := numBytes_len n.toNat (by omega)
    show (s.bs ++ numBytes n.toNat).length ≤ _
    rw [List.length_append]; omega
theorem wflag_spec (b : Nat) (c : Bool) (v : Value) (s : WS) (hs : s.bs.length ≤ 1000000000000) : Spec Try.prog 40 [.ptr 0 b [] 0, .b c] (wrO b v s) (fun r os => r = .tup [] ∧ ∃ v', os = wrO b v' (s.put [if c then 1 else 0])) := by
  refine spec_of TtOk [(0, .var b (wrA v s)), (1, .row v 5 1 (s.bs.map byA))] Try.func40 rfl Try.ntmps40 (by kernel_rfl) rfl rfl (fun C => ?_) rfl
  repeat' (first | refine Awp.seq ?_ | refine Awp.region ?_ | (refine Ops.nil ?_; show Awp _ _ _ _ _) | (refine Ops.nil ?_; show Exists _) | (refine Ops.nil ?_; show endK _ _ _ _ _) | (refine Awp.skip ?_; show Awp _ _ _ _ _) | (refine Awp.skip ?_; show endK _ _ _ _ _) | (refine Awp.skip ?_; show Exists _) | (refine o_calm rfl TtOk rfl rfl rfl ?_ (fun _ => ?_); first | exact True.intro | exact ⟨rfl, rfl, rfl, rfl⟩ | exact ⟨rfl, True.intro⟩ | exact ⟨rfl, rfl⟩ | exact ⟨rfl, rfl, rfl⟩ | exact rfl | exact ⟨fun h0 => by cases h0, rfl⟩ | exact (fun h0 => by cases h0) | exact ⟨rfl, by omega⟩ | exact ⟨Nat.succ_ne_zero _, rfl⟩ | omega) | refine o_store TtOk rfl rfl rfl rfl rfl rfl rfl ⟨rfl, rfl⟩ rfl rfl rfl rfl rfl ?_ | refine o_buildSlice TtOk rfl rfl rfl rfl rfl rfl rfl rfl rfl rfl rfl (by repeat' (first | exact True.intro | exact rfl | refine ⟨?_, ?_⟩)) (fun _ => ?_) | (refine o_append TtOk rfl rfl rfl rfl rfl rfl rfl rfl rfl (by first | exact True.intro | exact rfl) rfl rfl (fun _ => rfl) ?_ ?_ (fun _ => ?_); ((repeat' (first | rw [List.length_append] | rw [List.length_map] | rw [List.length_cons] | rw [List.length_nil] | rw [List.length_take] | rw [List.length_drop])) <;> omega); ((repeat' (first | rw [List.length_append] | rw [List.length_map] | rw [List.length_cons] | rw [List.length_nil] | rw [List.length_take] | rw [List.length_drop])) <;> omega)) | (refine o_appendStr TtOk rfl rfl rfl rfl rfl rfl rfl rfl rfl (fun _ => rfl) ?_ (fun _ => ?_); ((repeat' (first | rw [List.length_append] | rw [List.length_map] | rw [List.length_cons] | rw [List.length_nil] | rw [List.length_take] | rw [List.length_drop])) <;> omega)) | refine a_condT rfl ?_ | refine a_condF rfl ?_ | (refine a_condP rfl (fun hc => ?_) (fun hc => ?_)) <;> (try (exfalso; omega)) | (refine a_condI rfl (fun hc => ?_) (fun hc => ?_)) <;> (try (exfalso; omega)) | (refine a_condN rfl (fun hc => ?_) (fun hc => ?_)) <;> (try (exfalso; omega)) | (refine Awp.cond rfl (fun hc => ?_) (fun hc => ?_)))
  all_goals
    subst hc
    rename_i v2 _ _
    refine end_none rfl [] [(0, _), (1, _)] (HLe.same rfl (HOLe.refl _) (HLe.same rfl (HOLe.refl _) .nil)) ⟨rfl, v2, ?_⟩ _ (by first | exact .inl rfl | exact .inr rfl)
    show [HO.var b (.agg [.own 1 v2, .i .i64 s.e]), HO.row v2 _ 1 (List.map byA s.bs ++ [_])] = [HO.var b (.agg [.own 1 v2, .i .i64 s.e]), HO.row v2 _ 1 ((s.bs ++ [_]).map byA)]
    rw [List.map_append]; rfl
theorem wdone_spec (b : Nat) (v : Value) (s : WS) : Spec Try.prog 43 [.ptr 0 b [] 0] (wrO b v s) (fun r os => r = .tup [.s s.done.1, .i .i64 s.done.2] ∧ ∃ v', os = wrO b v' s) := by
  refine spec_of TtOk [(0, .var b (wrA v s)), (1, .row v 5 1 (s.bs.map byA))] Try.func43 rfl Try.ntmps43 (by kernel_rfl) rfl rfl (fun C => ?_) rfl
  repeat' (first | refine Awp.seq ?_ | refine Awp.region ?_ | (refine Ops.nil ?_; show Awp _ _ _ _ _) | (refine Awp.skip ?_; show Awp _ _ _ _ _) | (refine Awp.ret ?_; show endK _ _ _ _ _) | refine o_lenOwn rfl TtOk rfl rfl rfl rfl (fun _ => ?_) | (refine o_calm rfl TtOk rfl rfl rfl ?_ (fun _ => ?_); first | exact True.intro | exact ⟨rfl, rfl, rfl, rfl⟩ | exact ⟨rfl, True.intro⟩ | exact ⟨rfl, rfl⟩ | exact ⟨rfl, rfl, rfl⟩ | exact rfl | exact ⟨fun h0 => by cases h0, rfl⟩ | exact (fun h0 => by cases h0) | exact ⟨rfl, by omega⟩ | exact ⟨Nat.succ_ne_zero _, rfl⟩ | omega) | (refine a_condP rfl (fun hc => ?_) (fun hc => ?_)) <;> (try (exfalso; omega)) | (refine a_condN rfl (fun hc => ?_) (fun hc => ?_)) <;> (try (exfalso; omega)) | refine o_toString TtOk rfl rfl rfl rfl rfl (by first | exact True.intro | exact rfl) rfl rfl rfl rfl ?_ | refine a_any 2 [] [] [] [0, 1, 2, 4, 3, 5] (by kernel_rfl) (by kernel_rfl) (by kernel_rfl) rfl rfl rfl ?_)
  · have hn : s.done = ([], s.e) := by unfold WS.done; rw [if_pos hc]
    refine end_all [] [(0, _), (1, _)] (.tup [.s _, .i .i64 _]) rfl ?_ ?_ (rle_tup2 (CLe.refl _) (CLe.refl _) rfl rfl) (HLe.same rfl (HOLe.refl _) (HLe.same rfl (HOLe.refl _) .nil)) ⟨by rw [hn], v, rfl⟩ _ (.inl rfl)
    all_goals exact ⟨trivial, trivial, trivial⟩
  · have hn : s.done = ([], 2) := by unfold WS.done; rw [if_neg (by simpa using by assumption), if_pos (by omega)]
    refine end_all [] [(0, _), (1, _)] (.tup [.s _, .i .i64 _]) rfl ?_ ?_ (rle_tup2 (CLe.refl _) (CLe.refl _) rfl rfl) (HLe.same rfl (HOLe.refl _) (HLe.same rfl (HOLe.refl _) .nil)) ⟨by rw [hn], v, rfl⟩ _ (.inl rfl)
    all_goals exact ⟨trivial, trivial, trivial⟩
  · have hn : s.done = (s.bs, 0) := by unfold WS.done; rw [if_neg (by simpa using by assumption), if_neg (by omega)]
    refine end_all [] [(0, _), (1, _)] (.tup [.s _, .i .i64 _]) rfl ?_ ?_ (rle_tup2 (CLe.refl _) (CLe.refl _) rfl rfl) (HLe.same rfl (HOLe.refl _) (HLe.same rfl (HOLe.refl _) .nil)) ⟨by rw [hn], v, rfl⟩ _ (.inl rfl)
    all_goals exact ⟨trivial, trivial, trivial⟩
end Go.Proofs.Ytpjfhllkckdejaa
set_option maxHeartbeats 4000000
namespace Go.Proofs.Ytpjfhllkckdejaa
open Go Go.RowKit

theorem wlabel_spec (b : Nat) (l : List UInt8) (hl : l.length = 32) (v : Value) (s : WS) (hs : s.bs.length ≤ 1000000000000) : Spec Try.prog 41 [.ptr 0 b [] 0, labA l] (wrO b v s) (fun r os => r = .tup [] ∧ ∃ v', os = wrO b v' (s.put l)) := by
  refine spec_of TtOk [(0, .var b (wrA v s)), (1, .row v 5 1 (s.bs.map byA))] Try.func41 rfl Try.ntmps41 (by kernel_rfl) rfl rfl (fun C => ?_) rfl
  refine Awp.seq ?_
  refine Awp.region ?_
  refine o_box rfl rfl rfl rfl (fun _ => ?_)
  refine Ops.nil ?_; show Awp _ _ _ _ _
  refine a_freezeV 3 3 rfl rfl rfl ?_
  repeat' (first | refine Awp.seq ?_ | refine Awp.region ?_ | (refine Ops.nil ?_; show Awp _ _ _ _ _) | (refine Ops.nil ?_; show Exists _) | (refine Ops.nil ?_; show endK _ _ _ _ _) | (refine o_calm rfl TtOk rfl rfl rfl ?_ (fun _ => ?_); first | exact True.intro | exact ⟨rfl, rfl, rfl, rfl⟩ | exact ⟨rfl, True.intro⟩ | exact ⟨rfl, rfl⟩ | exact ⟨rfl, rfl, rfl⟩ | exact rfl | exact ⟨fun h0 => by cases h0, rfl⟩ | exact (fun h0 => by cases h0) | exact ⟨rfl, by omega⟩ | exact ⟨Nat.succ_ne_zero _, rfl⟩ | omega) | refine o_box rfl rfl rfl rfl (fun _ => ?_) | refine o_store TtOk rfl rfl rfl rfl rfl rfl rfl ⟨rfl, rfl⟩ rfl rfl rfl rfl rfl ?_ | (refine o_append TtOk rfl rfl rfl rfl rfl rfl rfl rfl rfl (by first | exact True.intro | exact rfl) rfl rfl (fun _ => rfl) ?_ ?_ (fun _ => ?_); ((repeat' (first | rw [List.length_append] | rw [List.length_map] | rw [List.length_cons] | rw [List.length_nil] | rw [List.length_take] | rw [List.length_drop])) <;> omega); ((repeat' (first | rw [List.length_append] | rw [List.length_map] | rw [List.length_cons] | rw [List.length_nil] | rw [List.length_take] | rw [List.length_drop])) <;> omega)) | (refine o_appendStr TtOk rfl rfl rfl rfl rfl rfl rfl rfl rfl (fun _ => rfl) ?_ (fun _ => ?_); ((repeat' (first | rw [List.length_append] | rw [List.length_map] | rw [List.length_cons] | rw [List.length_nil] | rw [List.length_take] | rw [List.length_drop])) <;> omega)) | refine o_sliceCp TtOk rfl rfl rfl rfl rfl rfl ?_ | refine a_any 1 [0, 1] [8] [] [0, 1, 2, 3, 5, 4, 6, 7, 8, 9] (by kernel_rfl) (by kernel_rfl) (by kernel_rfl) rfl rfl rfl ?_)
  rename_i v2 _ _
  refine end_none rfl [] [(0, _), (1, _)] (HLe.same rfl (HOLe.refl _) (HLe.same rfl (HOLe.refl _) .nil)) ⟨rfl, v2, ?_⟩ _ (by first | exact .inl rfl | exact .inr rfl)
  show _ = [HO.var b (wrA v2 ⟨s.bs ++ l, s.e⟩), HO.row v2 _ 1 ((s.bs ++ l).map byA)]
  rw [List.map_append]; rfl
end Go.Proofs.Ytpjfhllkckdejaa
namespace Go.Proofs.Ytpjfhllkckdejaa
open Go Go.RowKit

structure Thg where
  k : Int
  n : Int
  s : List UInt8
  l : List UInt8
def thA (t : Thg) : AV := .agg [.i .i64 t.k, .i .i64 t.n, .s t.s, labA t.l]
def RS.rest (r : RS) : List UInt8 := r.s.drop r.p
theorem RS.rest_len (r : RS) : r.rest.length = r.s.length - r.p := by unfold RS.rest; rw [List.length_drop]
theorem RS.take_ok (r : RS) (he : r.e = 0) (n : Nat) (h : n ≤ r.rest.length) : r.take n = (r.rest.take n, ⟨r.s, r.p + n, 0⟩) := by
  rw [RS.rest_len] at h
  unfold RS.take RS.rest
  rw [if_neg (by simpa using he), if_neg (by omega)]
theorem RS.rest_step (s : List UInt8) (p n : Nat) (e : Int) : (RS.mk s (p + n) e).rest = (RS.mk s p 0).rest.drop n := by unfold RS.rest; rw [List.drop_drop]
theorem be_digits (n : Nat) : be (digits n) = n := by
  induction n using Nat.strongRecOn with
  | _ n ih =>
    by_cases h : n = 0
    · subst h; rw [digits_zero]; rfl
    · rw [digits_pos h, be_snoc, ih (n / 256) (by omega), UInt8.toNat_ofNat']; omega
theorem digits_head (n : Nat) (h : n ≠ 0) : ∃ c l, digits n = c :: l ∧ c.toNat ≠ 0 := by
  induction n using Nat.strongRecOn with
  | _ n ih =>
    rw [digits_pos h]
    by_cases h0 : n / 256 = 0
    · rw [h0, digits_zero]; exact ⟨_, [], rfl, by rw [UInt8.toNat_ofNat']; omega⟩
    · obtain ⟨c, l, e, hc⟩ := ih (n / 256) (by omega) h0
      rw [e]; exact ⟨c, l ++ [_], rfl, hc⟩
theorem be_ge (c : UInt8) (l : List UInt8) : c.toNat * 256 ^ l.length ≤ be (c :: l) := by
  rw [be_cons]; omega
theorem badNum_digits (n : Nat) (hn : n < 9223372036854775808) : badNum (digits n).length (digits n) = false := by
  by_cases h : n = 0
  · subst h; rw [digits_zero]; rfl
  · obtain ⟨c, l, e, hc⟩ := digits_head n h
    have hb := be_ge c l
    rw [← e, be_digits] at hb
    rw [e]
    unfold badNum
    simp only [Bool.or_eq_false_iff, beq_eq_false_iff_ne, Bool.and_eq_false_imp, beq_iff_eq, decide_eq_false_iff_not, Nat.not_lt]
    refine ⟨hc, fun h8 => ?_⟩
    have hl : l.length = 7 := by simp at h8; omega
    rw [hl] at hb
    omega
theorem numBytes_cons (n : Nat) (hn : n < 9223372036854775808) : ∃ c, numBytes n = c :: digits n ∧ c.toNat = (digits n).length := ⟨_, rfl, by
  have := digits_le 8 n (by omega)
  rw [UInt8.toNat_ofNat']; omega⟩
theorem RS.number_reads (r : RS) (he : r.e = 0) (n : Nat) (hn : n < 9223372036854775808) (t : List UInt8) (h : r.rest = numBytes n ++ t) : r.number = (n, ⟨r.s, r.p + (numBytes n).length, 0⟩) := by
  obtain ⟨c, hc, hcl⟩ := numBytes_cons n hn
  have h8 := digits_le 8 n (by omega)
  rw [hc] at h
  have h1 : r.take 1 = ([c], ⟨r.s, r.p + 1, 0⟩) := by rw [RS.take_ok r he 1 (by rw [h]; simp), h]; rfl
  have hr : (RS.mk r.s (r.p + 1) 0).rest = digits n ++ t := by
    rw [RS.rest_step]; show r.rest.drop 1 = _; rw [h]; rfl
  have h2 : (RS.mk r.s (r.p + 1) 0).take c.toNat = (digits n, ⟨r.s, r.p + 1 + (digits n).length, 0⟩) := by
    rw [hcl, RS.take_ok _ rfl _ (by rw [hr]; simp), hr, List.take_left]
  unfold RS.number
  rw [h1]
  have hb0 : hd0 [c] = c.toNat := rfl
  simp only [hb0]
  rw [if_neg (by simp), if_neg (by omega), h2]
  simp only []
  rw [if_neg (by rw [hcl, badNum_digits n hn]; simp), be_digits, hc, List.length_cons]
  rw [show r.p + 1 + (digits n).length = r.p + ((digits n).length + 1) by omega]
def textBytes (s : List UInt8) : List UInt8 := numBytes s.length ++ s
theorem RS.label_reads (r : RS) (he : r.e = 0) (l : List UInt8) (hl : l.length = 32) (t : List UInt8) (h : r.rest = l ++ t) : r.label = (l, ⟨r.s, r.p + 32, 0⟩) := by
  unfold RS.label
  rw [RS.take_ok r he 32 (by rw [h, List.length_append]; omega), h, ← hl, List.take_left]
  simp
theorem RS.flag_reads (r : RS) (he : r.e = 0) (c : Bool) (t : List UInt8) (h : r.rest = (if c then 1 else 0) :: t) : r.flag = (c, ⟨r.s, r.p + 1, 0⟩) := by
  unfold RS.flag
  rw [RS.take_ok r he 1 (by rw [h]; simp), h]
  cases c <;> rfl
/-! One spelling. -/
/-- The bytes of a thing. -/
def tBytes (t : Thg) : List UInt8 := if t.k = 1 then numBytes t.n.toNat else if t.k = 2 then textBytes t.s else if t.k = 3 then t.l else if t.k = 4 then [if 0 < t.n then 1 else 0] else []
def WS.thing (w : WS) (t : Thg) : WS := if t.k = 1 then w.number t.n else if t.k = 2 then w.text t.s else if t.k = 3 then w.put t.l else if t.k = 4 then w.put [if 0 < t.n then 1 else 0] else w
def WS.things (w : WS) (l : List Thg) : WS := l.foldl WS.thing w
/-- What is written without a fault. -/
def tOk (t : Thg) : Prop := (t.k = 1 → 0 ≤ t.n) ∧ (t.k = 2 → t.s.length ≤ 65536)
end Go.Proofs.Ytpjfhllkckdejaa
