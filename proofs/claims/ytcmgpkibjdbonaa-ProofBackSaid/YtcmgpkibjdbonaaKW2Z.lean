/- code.Writer by rules: Text, Flag, Done. -/
import Derived.Test.YtcmgpkibjdbonaaKR3Z
import Derived.Test.YtcmgpkibjdbonaaV13Z
set_option maxHeartbeats 4000000
namespace Go.Proofs.Ytcmgpkibjdbonaa
open Go Go.RowKit

def WS.text (s : WS) (t : List UInt8) : WS := if 65536 < t.length then s.fail 2 else (s.number t.length).put t
def WS.done (s : WS) : List UInt8 × Int := if s.e ≠ 0 then ([], s.e) else if 65536 < s.bs.length then ([], 2) else (s.bs, 0)
theorem numBytes_len (n : Nat) (h : n < 9223372036854775808) : (numBytes n).length ≤ 9 := by
  have := digits_le 8 n (by omega)
  unfold numBytes; rw [List.length_cons]; omega
theorem WS.len_fail (s : WS) (x : Int) : (s.fail x).bs = s.bs := by unfold WS.fail; split <;> rfl
theorem WS.len_number (s : WS) (n : Int) (hn : n < 9223372036854775808) : (s.number n).bs.length ≤ s.bs.length + 9 := by
  unfold WS.number
  split
  · rw [WS.len_fail]; omega
  · unfold WS.put
    have := numBytes_len n.toNat (by omega)
    show (s.bs ++ numBytes n.toNat).length ≤ _
    rw [List.length_append]; omega
theorem WS.len_text (s : WS) (t : List UInt8) : (s.text t).bs.length ≤ s.bs.length + 65545 := by
  unfold WS.text
  split
  · rw [WS.len_fail]; omega
  · unfold WS.put
    have := WS.len_number s t.length (by omega)
    show ((s.number t.length).bs ++ t).length ≤ _
    rw [List.length_append]; omega
theorem wflag_spec (b : Nat) (c : Bool) (v : Value) (s : WS) (hs : s.bs.length ≤ 1000000000000) : Spec Try.prog 163 [.ptr 0 b [] 0, .b c] (wrO b v s) (fun r os => r = .tup [] ∧ ∃ v', os = wrO b v' (s.put [if c then 1 else 0])) := by
  refine spec_of TtOk [(0, .var b (wrA v s)), (1, .row v 5 1 (s.bs.map byA))] Try.func163 rfl Try.ntmps163 (by kernel_rfl) rfl rfl (fun C => ?_) rfl
  repeat' (first | refine Awp.seq ?_ | refine Awp.region ?_ | (refine Ops.nil ?_; show Awp _ _ _ _ _) | (refine Ops.nil ?_; show endK _ _ _ _ _) | (refine Awp.skip ?_; show Awp _ _ _ _ _) | (refine o_calm rfl TtOk rfl rfl rfl ?_ (fun _ => ?_); first | exact True.intro | exact ⟨rfl, rfl, rfl, rfl⟩ | exact ⟨rfl, True.intro⟩ | exact ⟨rfl, rfl⟩ | exact ⟨rfl, rfl, rfl⟩ | exact rfl | exact ⟨fun h0 => by cases h0, rfl⟩ | exact (fun h0 => by cases h0) | exact ⟨rfl, by omega⟩ | exact ⟨Nat.succ_ne_zero _, rfl⟩ | omega) | refine o_store TtOk rfl rfl rfl rfl rfl rfl rfl ⟨rfl, rfl⟩ rfl rfl rfl rfl rfl ?_ | refine o_buildSlice TtOk rfl rfl rfl rfl rfl rfl rfl rfl rfl rfl rfl (by repeat' (first | exact True.intro | exact rfl | refine ⟨?_, ?_⟩)) (fun _ => ?_) | (refine o_append TtOk rfl rfl rfl rfl rfl rfl rfl rfl rfl (by first | exact True.intro | exact rfl) rfl rfl (fun _ => rfl) ?_ ?_ (fun _ => ?_); ((repeat' (first | rw [List.length_append] | rw [List.length_map] | rw [List.length_cons] | rw [List.length_nil] | rw [List.length_take] | rw [List.length_drop])) <;> omega); ((repeat' (first | rw [List.length_append] | rw [List.length_map] | rw [List.length_cons] | rw [List.length_nil] | rw [List.length_take] | rw [List.length_drop])) <;> omega)) | (refine Awp.cond rfl (fun hc => ?_) (fun hc => ?_)))
  all_goals
    subst hc
    rename_i v2 _ _
    refine end_none rfl [] [(0, _), (1, _)] (HLe.same rfl (HOLe.refl _) (HLe.same rfl (HOLe.refl _) .nil)) ⟨rfl, v2, ?_⟩ _ (by first | exact .inl rfl | exact .inr rfl)
    show [HO.var b (.agg [.own 1 v2, .i .i64 s.e]), HO.row v2 _ 1 (List.map byA s.bs ++ [_])] = [HO.var b (.agg [.own 1 v2, .i .i64 s.e]), HO.row v2 _ 1 ((s.bs ++ [_]).map byA)]
    rw [List.map_append]; rfl
theorem wdone_spec (b : Nat) (v : Value) (s : WS) : Spec Try.prog 105 [.ptr 0 b [] 0] (wrO b v s) (fun r os => r = .tup [.s s.done.1, .i .i64 s.done.2] ∧ ∃ v', os = wrO b v' s) := by
  refine spec_of TtOk [(0, .var b (wrA v s)), (1, .row v 5 1 (s.bs.map byA))] Try.func105 rfl Try.ntmps105 (by kernel_rfl) rfl rfl (fun C => ?_) rfl
  repeat' (first | refine Awp.seq ?_ | refine Awp.region ?_ | (refine Ops.nil ?_; show Awp _ _ _ _ _) | (refine Awp.skip ?_; show Awp _ _ _ _ _) | (refine Awp.ret ?_; show endK _ _ _ _ _) | refine o_lenOwn rfl TtOk rfl rfl rfl rfl (fun _ => ?_) | (refine o_calm rfl TtOk rfl rfl rfl ?_ (fun _ => ?_); first | exact True.intro | exact ⟨rfl, rfl, rfl, rfl⟩ | exact ⟨rfl, True.intro⟩ | exact ⟨rfl, rfl⟩ | exact ⟨rfl, rfl, rfl⟩ | exact rfl | exact ⟨fun h0 => by cases h0, rfl⟩ | exact (fun h0 => by cases h0) | exact ⟨rfl, by omega⟩ | exact ⟨Nat.succ_ne_zero _, rfl⟩ | omega) | (refine a_condP rfl (fun hc => ?_) (fun hc => ?_)) <;> (try (exfalso; omega)) | (refine a_condN rfl (fun hc => ?_) (fun hc => ?_)) <;> (try (exfalso; omega)) | refine o_toString TtOk rfl rfl rfl rfl rfl (by first | exact True.intro | exact rfl) rfl rfl rfl rfl ?_ | refine a_any 2 [] [] [] [0, 1, 2, 4, 3, 5] (by kernel_rfl) (by kernel_rfl) (by kernel_rfl) rfl rfl rfl ?_)
  · have hn : s.done = ([], s.e) := by unfold WS.done; rw [if_pos hc]
    refine end_all [] [(0, _), (1, _)] (.tup [.s _, .i .i64 _]) rfl ?_ ?_ (rle_tup2 (CLe.refl _) (CLe.refl _) rfl rfl) (HLe.same rfl (HOLe.refl _) (HLe.same rfl (HOLe.refl _) .nil)) ⟨by rw [hn], v, rfl⟩ _ (.inl rfl)
    all_goals exact ⟨trivial, trivial, trivial⟩
  · have hn : s.done = ([], 2) := by unfold WS.done; rw [if_neg (by simpa using by assumption), if_pos (by omega)]
    refine end_all [] [(0, _), (1, _)] (.tup [.s _, .i .i64 _]) rfl ?_ ?_ (rle_tup2 (CLe.refl _) (CLe.refl _) rfl rfl) (HLe.same rfl (HOLe.refl _) (HLe.same rfl (HOLe.refl _) .nil)) ⟨by rw [hn], v, rfl⟩ _ (.inl rfl)
    all_goals exact ⟨trivial, trivial, trivial⟩
  · have hn : s.done = (s.bs, 0) := by unfold WS.done; rw [if_neg (by simpa using by assumption), if_neg (by omega)]
    refine end_all [] [(0, _), (1, _)] (.tup [.s _, .i .i64 _]) rfl ?_ ?_ (rle_tup2 (CLe.refl _) (CLe.refl _) rfl rfl) (HLe.same rfl (HOLe.refl _) (HLe.same rfl (HOLe.refl _) .nil)) ⟨by rw [hn], v, rfl⟩ _ (.inl rfl)
    all_goals exact ⟨trivial, trivial, trivial⟩
theorem wtext_spec (b : Nat) (t : List UInt8) (v : Value) (s : WS) (hs : s.bs.length ≤ 900000000000) : Spec Try.prog 115 [.ptr 0 b [] 0, .s t] (wrO b v s) (fun r os => r = .tup [] ∧ ∃ v', os = wrO b v' (s.text t)) := by
  refine spec_of TtOk [(0, .var b (wrA v s)), (1, .row v 5 1 (s.bs.map byA))] Try.func115 rfl Try.ntmps115 (by kernel_rfl) rfl rfl (fun C => ?_) rfl
  repeat' (first | refine Awp.seq ?_ | refine Awp.region ?_ | (refine Ops.nil ?_; show Awp _ _ _ _ _) | (refine Awp.skip ?_; show Awp _ _ _ _ _) | (refine o_calm rfl TtOk rfl rfl rfl ?_ (fun _ => ?_); first | exact True.intro | exact ⟨rfl, rfl, rfl, rfl⟩ | exact ⟨rfl, True.intro⟩ | exact ⟨rfl, rfl⟩ | exact ⟨rfl, rfl, rfl⟩ | exact rfl | exact ⟨fun h0 => by cases h0, rfl⟩ | exact (fun h0 => by cases h0) | exact ⟨rfl, by omega⟩ | exact ⟨Nat.succ_ne_zero _, rfl⟩ | omega) | (refine a_condP rfl (fun hc => ?_) (fun hc => ?_)) <;> (try (exfalso; omega)))
  · refine o_call [] [0, 1] [0, 1] rfl (wfail_spec b 2 v s) ⟨sle_ptr, sle_i rfl, True.intro⟩ rfl ⟨HOLe.refl _, HOLe.refl _, True.intro⟩ rfl rfl ?_
    rintro r os' ⟨rfl, v', rfl⟩; refine ⟨_, rfl, rfl, ?_⟩
    repeat' (first | (refine Ops.nil ?_; show Awp _ _ _ _ _) | (refine Awp.ret ?_; show endK _ _ _ _ _))
    refine end_none rfl [] [(0, _), (1, _)] (HLe.same rfl (HOLe.refl _) (HLe.same rfl (HOLe.refl _) .nil)) ⟨rfl, v', ?_⟩ _ (by first | exact .inl rfl | exact .inr rfl)
    unfold WS.text; rw [if_pos (by omega)]; rfl
  · refine o_call [] [0, 1] [0, 1] rfl (wnumber_spec b (t.length : Int) (by omega) v s (by omega)) ⟨sle_ptr, sle_i rfl, True.intro⟩ rfl ⟨HOLe.refl _, HOLe.refl _, True.intro⟩ rfl rfl ?_
    rintro r os' ⟨rfl, v', rfl⟩; refine ⟨_, rfl, rfl, ?_⟩
    have hl := WS.len_number s (t.length : Int) (by omega)
    repeat' (first | refine Awp.region ?_ | (refine Ops.nil ?_; show Awp _ _ _ _ _) | (refine Ops.nil ?_; show endK _ _ _ _ _) | (refine o_calm rfl TtOk rfl rfl rfl ?_ (fun _ => ?_); first | exact True.intro | exact ⟨rfl, rfl, rfl, rfl⟩ | exact ⟨rfl, True.intro⟩ | exact ⟨rfl, rfl⟩ | exact ⟨rfl, rfl, rfl⟩ | exact rfl | exact ⟨fun h0 => by cases h0, rfl⟩ | exact (fun h0 => by cases h0) | exact ⟨rfl, by omega⟩ | exact ⟨Nat.succ_ne_zero _, rfl⟩ | omega) | refine o_store TtOk rfl rfl rfl rfl rfl rfl rfl ⟨rfl, rfl⟩ rfl rfl rfl rfl rfl ?_ | (refine o_appendStr TtOk rfl rfl rfl rfl rfl rfl rfl rfl rfl (fun _ => rfl) ?_ (fun _ => ?_); ((repeat' (first | rw [List.length_append] | rw [List.length_map] | rw [List.length_cons] | rw [List.length_nil] | rw [List.length_take] | rw [List.length_drop])) <;> omega)))
    rename_i v2 _ _
    refine end_none rfl [] [(0, _), (1, _)] (HLe.same rfl (HOLe.refl _) (HLe.same rfl (HOLe.refl _) .nil)) ⟨rfl, v2, ?_⟩ _ (by first | exact .inl rfl | exact .inr rfl)
    have hn : s.text t = (s.number t.length).put t := by unfold WS.text; rw [if_neg (by omega)]
    rw [hn]
    show _ = [HO.var b (wrA v2 ⟨(s.number t.length).bs ++ t, (s.number t.length).e⟩), HO.row v2 _ 1 (((s.number t.length).bs ++ t).map byA)]
    rw [List.map_append]; rfl
end Go.Proofs.Ytcmgpkibjdbonaa
set_option maxHeartbeats 4000000
namespace Go.Proofs.Ytcmgpkibjdbonaa
open Go Go.RowKit

theorem wlabel_spec (b : Nat) (l : List UInt8) (hl : l.length = 32) (v : Value) (s : WS) (hs : s.bs.length ≤ 1000000000000) : Spec Try.prog 103 [.ptr 0 b [] 0, labA l] (wrO b v s) (fun r os => r = .tup [] ∧ ∃ v', os = wrO b v' (s.put l)) := by
  refine spec_of TtOk [(0, .var b (wrA v s)), (1, .row v 5 1 (s.bs.map byA))] Try.func103 rfl Try.ntmps103 (by kernel_rfl) rfl rfl (fun C => ?_) rfl
  refine Awp.seq ?_
  refine Awp.region ?_
  refine o_box rfl rfl rfl rfl (fun _ => ?_)
  refine Ops.nil ?_; show Awp _ _ _ _ _
  refine a_freezeV 3 3 rfl rfl rfl ?_
  repeat' (first | (refine Ops.nil ?_; show endK _ _ _ _ _) | (refine o_calm rfl TtOk rfl rfl rfl ?_ (fun _ => ?_); first | exact True.intro | exact ⟨rfl, rfl, rfl, rfl⟩ | exact ⟨rfl, True.intro⟩ | exact ⟨rfl, rfl⟩ | exact ⟨rfl, rfl, rfl⟩ | exact rfl | exact ⟨fun h0 => by cases h0, rfl⟩ | exact (fun h0 => by cases h0) | exact ⟨rfl, by omega⟩ | exact ⟨Nat.succ_ne_zero _, rfl⟩ | omega) | refine o_store TtOk rfl rfl rfl rfl rfl rfl rfl ⟨rfl, rfl⟩ rfl rfl rfl rfl rfl ?_ | (refine o_append TtOk rfl rfl rfl rfl rfl rfl rfl rfl rfl (by first | exact True.intro | exact rfl) rfl rfl (fun _ => rfl) ?_ ?_ (fun _ => ?_); ((repeat' (first | rw [List.length_append] | rw [List.length_map] | rw [List.length_cons] | rw [List.length_nil] | rw [List.length_take] | rw [List.length_drop])) <;> omega); ((repeat' (first | rw [List.length_append] | rw [List.length_map] | rw [List.length_cons] | rw [List.length_nil] | rw [List.length_take] | rw [List.length_drop])) <;> omega)) | refine o_sliceCp TtOk rfl rfl rfl rfl rfl rfl ?_ | refine a_any 1 [0, 1] [8] [] [0, 1, 2, 3, 5, 4, 6, 7, 8, 9] (by kernel_rfl) (by kernel_rfl) (by kernel_rfl) rfl rfl rfl ?_)
  rename_i v2 _ _
  refine end_none rfl [] [(0, _), (1, _)] (HLe.same rfl (HOLe.refl _) (HLe.same rfl (HOLe.refl _) .nil)) ⟨rfl, v2, ?_⟩ _ (by first | exact .inl rfl | exact .inr rfl)
  show _ = [HO.var b (wrA v2 ⟨s.bs ++ l, s.e⟩), HO.row v2 _ 1 ((s.bs ++ l).map byA)]
  rw [List.map_append]; rfl
end Go.Proofs.Ytcmgpkibjdbonaa
namespace Go.Proofs.Ytcmgpkibjdbonaa
open Go Go.RowKit

structure Thg where
  k : Int
  n : Int
  s : List UInt8
  l : List UInt8
def thA (t : Thg) : AV := .agg [.i .i64 t.k, .i .i64 t.n, .s t.s, labA t.l]
def RS.rest (r : RS) : List UInt8 := r.s.drop r.p
theorem RS.rest_len (r : RS) : r.rest.length = r.s.length - r.p := by unfold RS.rest; rw [List.length_drop]
theorem RS.take_ok (r : RS) (he : r.e = 0) (n : Nat) (h : n ≤ r.rest.length) : r.take n = (r.rest.take n, ⟨r.s, r.p + n, 0⟩) := by
  rw [RS.rest_len] at h
  unfold RS.take RS.rest
  rw [if_neg (by simpa using he), if_neg (by omega)]
theorem RS.rest_step (s : List UInt8) (p n : Nat) (e : Int) : (RS.mk s (p + n) e).rest = (RS.mk s p 0).rest.drop n := by unfold RS.rest; rw [List.drop_drop]
theorem be_digits (n : Nat) : be (digits n) = n := by
  induction n using Nat.strongRecOn with
  | _ n ih =>
    by_cases h : n = 0
    · subst h; rw [digits_zero]; rfl
    · rw [digits_pos h, be_snoc, ih (n / 256) (by omega), UInt8.toNat_ofNat']; omega
theorem digits_head (n : Nat) (h : n ≠ 0) : ∃ c l, digits n = c :: l ∧ c.toNat ≠ 0 := by
  induction n using Nat.strongRecOn with
  | _ n ih =>
    rw [digits_pos h]
    by_cases h0 : n / 256 = 0
    · rw [h0, digits_zero]; exact ⟨_, [], rfl, by rw [UInt8.toNat_ofNat']; omega⟩
    · obtain ⟨c, l, e, hc⟩ := ih (n / 256) (by omega) h0
      rw [e]; exact ⟨c, l ++ [_], rfl, hc⟩
theorem be_ge (c : UInt8) (l : List UInt8) : c.toNat * 256 ^ l.length ≤ be (c :: l) := by
  rw [be_cons]; omega
theorem badNum_digits (n : Nat) (hn : n < 9223372036854775808) : badNum (digits n).length (digits n) = false := by
  by_cases h : n = 0
  · subst h; rw [digits_zero]; rfl
  · obtain ⟨c, l, e, hc⟩ := digits_head n h
    have hb := be_ge c l
    rw [← e, be_digits] at hb
    rw [e]
    unfold badNum
    simp only [Bool.or_eq_false_iff, beq_eq_false_iff_ne, Bool.and_eq_false_imp, beq_iff_eq, decide_eq_false_iff_not, Nat.not_lt]
    refine ⟨hc, fun h8 => ?_⟩
    have hl : l.length = 7 := by simp at h8; omega
    rw [hl] at hb
    omega
theorem numBytes_cons (n : Nat) (hn : n < 9223372036854775808) : ∃ c, numBytes n = c :: digits n ∧ c.toNat = (digits n).length := ⟨_, rfl, by
  have := digits_le 8 n (by omega)
  rw [UInt8.toNat_ofNat']; omega⟩
theorem RS.number_reads (r : RS) (he : r.e = 0) (n : Nat) (hn : n < 9223372036854775808) (t : List UInt8) (h : r.rest = numBytes n ++ t) : r.number = (n, ⟨r.s, r.p + (numBytes n).length, 0⟩) := by
  obtain ⟨c, hc, hcl⟩ := numBytes_cons n hn
  have h8 := digits_le 8 n (by omega)
  rw [hc] at h
  have h1 : r.take 1 = ([c], ⟨r.s, r.p + 1, 0⟩) := by rw [RS.take_ok r he 1 (by rw [h]; simp), h]; rfl
  have hr : (RS.mk r.s (r.p + 1) 0).rest = digits n ++ t := by
    rw [RS.rest_step]; show r.rest.drop 1 = _; rw [h]; rfl
  have h2 : (RS.mk r.s (r.p + 1) 0).take c.toNat = (digits n, ⟨r.s, r.p + 1 + (digits n).length, 0⟩) := by
    rw [hcl, RS.take_ok _ rfl _ (by rw [hr]; simp), hr, List.take_left]
  unfold RS.number
  rw [h1]
  have hb0 : hd0 [c] = c.toNat := rfl
  simp only [hb0]
  rw [if_neg (by simp), if_neg (by omega), h2]
  simp only []
  rw [if_neg (by rw [hcl, badNum_digits n hn]; simp), be_digits, hc, List.length_cons]
  rw [show r.p + 1 + (digits n).length = r.p + ((digits n).length + 1) by omega]
def textBytes (s : List UInt8) : List UInt8 := numBytes s.length ++ s
theorem RS.text_reads (r : RS) (he : r.e = 0) (s : List UInt8) (hs : s.length ≤ 65536) (t : List UInt8) (h : r.rest = textBytes s ++ t) : r.text = (s, ⟨r.s, r.p + (textBytes s).length, 0⟩) := by
  unfold textBytes at h ⊢
  rw [List.append_assoc] at h
  have h1 := RS.number_reads r he s.length (by omega) _ h
  have hr : (RS.mk r.s (r.p + (numBytes s.length).length) 0).rest = s ++ t := by
    rw [RS.rest_step]; show r.rest.drop _ = _; rw [h, List.drop_left]
  have h2 : (RS.mk r.s (r.p + (numBytes s.length).length) 0).take s.length = (s, ⟨r.s, r.p + (numBytes s.length).length + s.length, 0⟩) := by
    rw [RS.take_ok _ rfl _ (by rw [hr, List.length_append]; omega), hr, List.take_left]
  unfold RS.text RS.big
  rw [h1]
  simp only []
  rw [if_neg (by omega), h2, List.length_append, Nat.add_assoc]
theorem RS.label_reads (r : RS) (he : r.e = 0) (l : List UInt8) (hl : l.length = 32) (t : List UInt8) (h : r.rest = l ++ t) : r.label = (l, ⟨r.s, r.p + 32, 0⟩) := by
  unfold RS.label
  rw [RS.take_ok r he 32 (by rw [h, List.length_append]; omega), h, ← hl, List.take_left]
  simp
theorem RS.flag_reads (r : RS) (he : r.e = 0) (c : Bool) (t : List UInt8) (h : r.rest = (if c then 1 else 0) :: t) : r.flag = (c, ⟨r.s, r.p + 1, 0⟩) := by
  unfold RS.flag
  rw [RS.take_ok r he 1 (by rw [h]; simp), h]
  cases c <;> rfl
/-! One spelling. -/
theorem digits_be : ∀ (l : List UInt8), (∀ c t, l = c :: t → c.toNat ≠ 0) → digits (be l) = l := by
  intro l
  induction h : l.length generalizing l with
  | zero => intro _; have := List.eq_nil_of_length_eq_zero h; subst this; exact digits_zero
  | succ k ih =>
    intro hh
    have hne : l ≠ [] := by intro e; subst e; simp at h
    obtain ⟨m, c, rfl⟩ : ∃ m c, l = m ++ [c] := ⟨l.dropLast, l.getLast hne, (List.dropLast_concat_getLast hne).symm⟩
    have hm := ih m (by simpa using h) (fun c' t e => hh c' (t ++ [c]) (by rw [e]; rfl))
    have hc := c.toNat_lt
    have hn : be (m ++ [c]) ≠ 0 := by
      rw [be_snoc]
      cases m with
      | nil => have := hh c [] rfl; omega
      | cons d m =>
        have h1 := hh d (m ++ [c]) rfl
        have h2 := be_ge d m
        have h3 : 0 < 256 ^ m.length := Nat.pow_pos (by omega)
        have h4 : 0 < d.toNat * 256 ^ m.length := Nat.mul_pos (by omega) h3
        omega
    rw [digits_pos hn, be_snoc, show (256 * be m + c.toNat) / 256 = be m by omega, hm]
    congr 2
    apply UInt8.toNat_inj.1
    rw [UInt8.toNat_ofNat']; omega
theorem RS.take_inv {r : RS} {n : Nat} (_hok : r.ok) (h : (r.take n).2.e = 0) : r.e = 0 ∧ n ≤ r.rest.length := by
  have h1 := r.rest_len
  unfold RS.take at h
  split at h
  · rename_i h2; exact absurd h h2
  · rename_i h2
    split at h
    · cases h
    · exact ⟨by simpa using h2, by omega⟩
theorem RS.fail_inv {r : RS} {x : Int} (hx : x ≠ 0) (h : (r.fail x).e = 0) : False := by
  unfold RS.fail at h
  split at h
  · exact hx h
  · rename_i h2; exact h2 h
/-- What is read as a number without a fault is the number's own spelling. -/
theorem RS.number_inv {r : RS} (hok : r.ok) (h : r.number.2.e = 0) : r.e = 0 ∧ r.number.1 < 9223372036854775808 ∧ ∃ t, r.rest = numBytes r.number.1 ++ t ∧ r.number.2 = ⟨r.s, r.p + (numBytes r.number.1).length, 0⟩ := by
  have hfit := number_fits (r := r)
  refine ⟨?_, hfit, ?_⟩
  · refine Classical.byContradiction fun he => ?_
    have h1 : r.take 1 = ([], r) := by unfold RS.take; rw [if_pos he]
    unfold RS.number at h
    rw [h1] at h
    exact he h
  · have h2 : r.number.2.e = 0 := h
    unfold RS.number at h
    by_cases h1 : (r.take 1).1 = []
    · rw [if_pos h1] at h
      obtain ⟨he, hl⟩ := RS.take_inv hok h
      rw [RS.take_ok r he 1 hl] at h1
      have := congrArg List.length h1
      simp only [List.length_take, List.length_nil] at this; omega
    · rw [if_neg h1] at h
      by_cases h3 : 8 < hd0 (r.take 1).1
      · rw [if_pos h3] at h; exact (RS.fail_inv (by decide) h).elim
      · rw [if_neg h3] at h
        by_cases h4 : badNum (hd0 (r.take 1).1) ((r.take 1).2.take (hd0 (r.take 1).1)).1 = true
        · rw [if_pos h4] at h; exact (RS.fail_inv (by decide) h).elim
        · rw [if_neg h4] at h
          have hok1 := RS.ok_take hok 1
          obtain ⟨he1, hl1⟩ := RS.take_inv hok1 h
          obtain ⟨he, hl⟩ := RS.take_inv hok he1
          have e1 := RS.take_ok r he 1 hl
          obtain ⟨c, t, hct⟩ : ∃ c t, r.rest = c :: t := by
            cases hr : r.rest with
            | nil => rw [hr] at hl; simp at hl
            | cons c t => exact ⟨c, t, rfl⟩
          rw [hct] at e1
          have e1' : r.take 1 = ([c], ⟨r.s, r.p + 1, 0⟩) := e1
          have hr1 : (RS.mk r.s (r.p + 1) 0).rest = t := by rw [RS.rest_step]; show r.rest.drop 1 = _; rw [hct]; rfl
          have hb0 : hd0 [c] = c.toNat := rfl
          rw [e1'] at h3 h4 hl1
          simp only [hb0] at h3 h4 hl1
          rw [hr1] at hl1
          have e2 : (RS.mk r.s (r.p + 1) 0).take c.toNat = (t.take c.toNat, ⟨r.s, r.p + 1 + c.toNat, 0⟩) := by rw [RS.take_ok _ rfl _ (by rw [hr1]; exact hl1), hr1]
          rw [e2] at h4
          have hnum : r.number = (be (t.take c.toNat), ⟨r.s, r.p + 1 + c.toNat, 0⟩) := by
            unfold RS.number
            rw [e1']
            simp only [hb0]
            rw [if_neg (by simp), if_neg h3, e2]
            simp only []
            rw [if_neg h4]
          have hlen : (t.take c.toNat).length = c.toNat := by rw [List.length_take]; omega
          have hd : digits (be (t.take c.toNat)) = t.take c.toNat := digits_be _ (fun d u e => by
            rw [e] at h4
            intro h0
            simp [badNum, h0] at h4)
          have hnb : numBytes (be (t.take c.toNat)) = c :: t.take c.toNat := by
            unfold numBytes
            rw [hd, hlen]
            congr 1
            apply UInt8.toNat_inj.1
            have := c.toNat_lt
            rw [UInt8.toNat_ofNat']; omega
          rw [hnum]
          refine ⟨t.drop c.toNat, ?_, ?_⟩
          · show r.rest = numBytes (be (t.take c.toNat)) ++ _
            rw [hnb, hct, List.cons_append, List.take_append_drop]
          · show _ = RS.mk r.s (r.p + (numBytes (be (t.take c.toNat))).length) 0
            rw [hnb, List.length_cons, hlen, show r.p + (c.toNat + 1) = r.p + 1 + c.toNat by omega]
theorem RS.big_inv {r : RS} {n : Nat} (h : (r.big n).e = 0) : r.e = 0 ∧ n ≤ 65536 ∧ r.big n = r := by
  unfold RS.big at h ⊢
  by_cases h1 : r.e = 0 ∧ 65536 < n
  · rw [if_pos h1] at h; exact (RS.fail_inv (by decide) h).elim
  · rw [if_neg h1] at h ⊢
    exact ⟨h, by have := fun h2 => h1 ⟨h, h2⟩; omega, rfl⟩
theorem RS.text_inv {r : RS} (hok : r.ok) (h : r.text.2.e = 0) : r.e = 0 ∧ r.text.1.length ≤ 65536 ∧ ∃ t, r.rest = textBytes r.text.1 ++ t ∧ r.text.2 = ⟨r.s, r.p + (textBytes r.text.1).length, 0⟩ := by
  have hok1 := RS.ok_number hok
  have h0 : ((r.number.2.big r.number.1).take r.number.1).2.e = 0 := h
  obtain ⟨h1, h2⟩ := RS.take_inv (RS.ok_big hok1 _) h0
  obtain ⟨h3, h4, h5⟩ := RS.big_inv h1
  obtain ⟨he, hf, t, h6, h7⟩ := RS.number_inv hok h3
  rw [h5] at h2
  have ht : r.text = (r.number.2.rest.take r.number.1, ⟨r.number.2.s, r.number.2.p + r.number.1, 0⟩) := by
    show (r.number.2.big r.number.1).take r.number.1 = _
    rw [h5, RS.take_ok _ h3 _ h2]
  have hr : r.number.2.rest = t := by
    rw [h7, RS.rest_step]; show r.rest.drop _ = _
    rw [h6, List.drop_left]
  have hl : (t.take r.number.1).length = r.number.1 := by rw [hr] at h2; rw [List.length_take]; omega
  rw [ht, hr]
  unfold textBytes
  simp only []
  rw [hl]
  refine ⟨he, h4, t.drop r.number.1, ?_, ?_⟩
  · rw [List.append_assoc, List.take_append_drop]; exact h6
  · rw [List.length_append, hl, h7]
    simp only []
    rw [Nat.add_assoc]
theorem RS.label_inv {r : RS} (hok : r.ok) (h : r.label.2.e = 0) : r.e = 0 ∧ r.label.1.length = 32 ∧ ∃ t, r.rest = r.label.1 ++ t ∧ r.label.2 = ⟨r.s, r.p + 32, 0⟩ := by
  obtain ⟨he, hl⟩ := RS.take_inv hok (n := 32) h
  have hlen : (r.rest.take 32).length = 32 := by rw [List.length_take]; omega
  have hb : r.label = (r.rest.take 32, ⟨r.s, r.p + 32, 0⟩) := by
    unfold RS.label
    rw [RS.take_ok r he 32 hl]
    simp only []
    rw [hlen]; simp
  rw [hb]
  exact ⟨he, hlen, r.rest.drop 32, (List.take_append_drop _ _).symm, rfl⟩
theorem RS.flag_inv {r : RS} (hok : r.ok) (h : r.flag.2.e = 0) : r.e = 0 ∧ ∃ t, r.rest = (if r.flag.1 then 1 else 0) :: t ∧ r.flag.2 = ⟨r.s, r.p + 1, 0⟩ := by
  have h2 : (r.take 1).2.e = 0 := by
    refine Classical.byContradiction fun he => ?_
    unfold RS.flag at h
    split at h
    · exact he h
    · exact RS.fail_inv (x := 4) (by decide) h
  obtain ⟨he, hl⟩ := RS.take_inv hok h2
  obtain ⟨c, t, hct⟩ : ∃ c t, r.rest = c :: t := by
    cases hr : r.rest with
    | nil => rw [hr] at hl; simp at hl
    | cons c t => exact ⟨c, t, rfl⟩
  have e1 : r.take 1 = ([c], ⟨r.s, r.p + 1, 0⟩) := by rw [RS.take_ok r he 1 hl, hct]; rfl
  obtain ⟨f1, f2⟩ := flag_byte c
  have hfl : r.flag = if Op.bytesLess (r.take 1).1 [1] || (r.take 1).1 == [1] then ((r.take 1).1 == [1], (r.take 1).2) else (false, (r.take 1).2.fail 4) := rfl
  rw [e1] at hfl
  simp only [] at hfl
  rw [f1, f2] at hfl
  by_cases hc : c.toNat ≤ 1
  · rw [if_pos (by simpa using hc)] at hfl
    rw [hfl]
    refine ⟨he, t, ?_, rfl⟩
    rw [hct]
    congr 1
    apply UInt8.toNat_inj.1
    simp only [beq_iff_eq]
    split <;> rename_i h1
    · show c.toNat = 1; omega
    · show c.toNat = 0; omega
  · rw [if_neg (by simpa using hc)] at hfl
    rw [hfl] at h
    exact (RS.fail_inv (by decide) h).elim
/-- The bytes of a thing. -/
def tBytes (t : Thg) : List UInt8 := if t.k = 1 then numBytes t.n.toNat else if t.k = 2 then textBytes t.s else if t.k = 3 then t.l else if t.k = 4 then [if 0 < t.n then 1 else 0] else []
def WS.thing (w : WS) (t : Thg) : WS := if t.k = 1 then w.number t.n else if t.k = 2 then w.text t.s else if t.k = 3 then w.put t.l else if t.k = 4 then w.put [if 0 < t.n then 1 else 0] else w
def WS.things (w : WS) (l : List Thg) : WS := l.foldl WS.thing w
/-- What is written without a fault. -/
def tOk (t : Thg) : Prop := (t.k = 1 → 0 ≤ t.n) ∧ (t.k = 2 → t.s.length ≤ 65536)
end Go.Proofs.Ytcmgpkibjdbonaa
