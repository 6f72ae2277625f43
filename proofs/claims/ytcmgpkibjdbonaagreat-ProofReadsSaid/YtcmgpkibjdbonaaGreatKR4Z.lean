/- code.Reader.Label by rules. -/
import Derived.Test.YtcmgpkibjdbonaaGreatKF5
import Derived.Test.YtcmgpkibjdbonaaGreatV13Z
import Derived.Test.YtcmgpkibjdbonaaGreatTypesZ
set_option maxHeartbeats 4000000
namespace Go.Proofs.YtcmgpkibjdbonaaGreat
open Go Go.RowKit

theorem rlabel_spec (b : Nat) (r : RS) (hok : r.ok) : Spec Tryz.prog 114 [.ptr 0 b [] 0] [.var b (rdA r)] (fun v os => v = labA r.label.1 ∧ os = [.var b (rdA r.label.2)]) := by
  refine spec_of TtOk [(0, .var b (rdA r))] Tryz.func114 rfl Tryz.ntmps114 (by kernel_rfl) rfl rfl (fun C => ?_) rfl
  repeat' (first | refine Awp.seq ?_ | refine Awp.region ?_ | refine Ops.nil (nqA ?_) | refine o_alloc rfl TtOk rfl rfl rfl (fun bA => ?_) | refine a_any 2 [0, 3] [] [] [0, 1, 2, 3] (by kernel_rfl) (by kernel_rfl) (by kernel_rfl) rfl rfl rfl ?_)
  refine o_sliceVw TtOk rfl rfl rfl rfl rfl rfl ?_
  repeat' (first | (refine o_calm rfl TtOk rfl rfl rfl ?_ (fun _ => ?_); exact nd))
  refine o_call [] [0] [0] rfl (rtake_spec b 32 r hok) ⟨sle_ptr, sle_i rfl, True.intro⟩ rfl ⟨HOLe.refl _, True.intro⟩ rfl rfl ?_
  rintro v os' ⟨rfl, rfl⟩; refine ⟨_, rfl, rfl, ?_⟩
  have hlen := take_len r 32
  have hlab : r.label = ((r.take 32).1 ++ List.replicate (32 - (r.take 32).1.length) 0, (r.take 32).2) := rfl
  generalize (r.take 32).1 = t at hlen hlab ⊢
  generalize (r.take 32).2 = r1 at hlab ⊢
  refine o_copyStr TtOk rfl rfl rfl rfl rfl rfl rfl rfl hlen rfl ?_
  repeat' (first | refine Awp.seq ?_ | refine Awp.region ?_ | refine Ops.nil (nqA ?_) | refine Awp.ret (nqE ?_) | (refine o_calm rfl TtOk rfl rfl rfl ?_ (fun _ => ?_); exact nd) | refine o_store TtOk rfl rfl rfl rfl rfl rfl rfl ⟨rfl, rfl⟩ rfl rfl rfl rfl rfl ?_)
  have hq : AV.arr 1 32 (List.map byA t ++ List.drop t.length (List.replicate 32 (AV.i .u8 0))) = labA r.label.1 := by
    rw [hlab]
    show _ = AV.arr 1 32 ((t ++ List.replicate (32 - t.length) 0).map byA)
    rw [List.map_append, List.map_replicate, List.drop_replicate]; rfl
  refine end_all [] [(0, _)] (labA r.label.1) rfl ?_ ?_ (rle_one (CLe.of_eq hq) rfl) (HLe.same rfl (HOLe.refl _) .nil) ⟨rfl, by rw [hlab]; rfl⟩ _ (.inl rfl)
  · exact nq1
  · exact ⟨trivial, trivial⟩
end Go.Proofs.YtcmgpkibjdbonaaGreat
set_option maxHeartbeats 4000000
namespace Go.Proofs.YtcmgpkibjdbonaaGreat
open Go Go.RowKit

/-- What a Writer holds: its bytes, its first error. -/
structure WS where
  bs : List UInt8
  e : Int
def WS.fail (s : WS) (x : Int) : WS := if s.e = 0 then { s with e := x } else s
def WS.put (s : WS) (l : List UInt8) : WS := { s with bs := s.bs ++ l }
def digits (n : Nat) : List UInt8 := if n = 0 then [] else digits (n / 256) ++ [UInt8.ofNat n]
termination_by n
decreasing_by omega
def numBytes (n : Nat) : List UInt8 := UInt8.ofNat (digits n).length :: digits n
theorem digits_zero : digits 0 = [] := by unfold digits; rfl
theorem digits_pos {n : Nat} (h : n ≠ 0) : digits n = digits (n / 256) ++ [UInt8.ofNat n] := by rw [digits]; rw [if_neg h]
theorem digits_le : ∀ (k n : Nat), n < 256 ^ k → (digits n).length ≤ k
  | 0, n, h => by
    have : n = 0 := by simpa using h
    subst this; rw [digits_zero]; simp
  | k + 1, n, h => by
    by_cases h0 : n = 0
    · subst h0; rw [digits_zero]; simp
    · rw [digits_pos h0, List.length_append, List.length_singleton]
      have := digits_le k (n / 256) (by rw [Nat.div_lt_iff_lt_mul (by omega)]; rw [Nat.pow_succ] at h; exact h)
      omega
theorem digits_at : ∀ (k n : Nat), n < 256 ^ k → ∀ i, i < (digits n).length → (digits n)[(digits n).length - 1 - i]? = some (UInt8.ofNat (n / 256 ^ i))
  | 0, n, h, i, hi => by
    have : n = 0 := by simpa using h
    subst this; rw [digits_zero] at hi; simp at hi
  | k + 1, n, h, i, hi => by
    by_cases h0 : n = 0
    · subst h0; rw [digits_zero] at hi; simp at hi
    · have hd := digits_pos h0
      rw [hd] at hi ⊢
      rw [List.length_append, List.length_singleton] at hi ⊢
      rcases i with _ | i
      · rw [show (digits (n / 256)).length + 1 - 1 - 0 = (digits (n / 256)).length by omega, List.getElem?_append_right (Nat.le_refl _)]
        simp
      · rw [List.getElem?_append_left (by omega)]
        have := digits_at k (n / 256) (by rw [Nat.div_lt_iff_lt_mul (by omega)]; rw [Nat.pow_succ] at h; exact h) i (by omega)
        rw [show (digits (n / 256)).length + 1 - 1 - (i + 1) = (digits (n / 256)).length - 1 - i by omega, this, Nat.div_div_eq_div_mul, Nat.pow_succ, Nat.mul_comm 256]
def WS.number (s : WS) (n : Int) : WS := if n < 0 then s.fail 1 else s.put (numBytes n.toNat)

def wrA (v : Value) (s : WS) : AV := .agg [.own 1 v, .i .i64 s.e]
def wrO (b : Nat) (v : Value) (s : WS) : List HO := [.var b (wrA v s), .row v 5 1 (s.bs.map byA)]
theorem byA_nat (n : Nat) : AV.i .u8 (IntKind.u8.wrap (n : Int)) = byA (UInt8.ofNat n) := by
  show AV.i _ _ = AV.i _ _
  rw [UInt8.toNat_ofNat', show IntKind.u8.wrap (n : Int) = ((n % 256 : Nat) : Int) from by rw [Int.natCast_emod]; rfl]
theorem shr_nat (n k : Nat) : (n : Int).fdiv (2 ^ k) = ((n / 2 ^ k : Nat) : Int) := by
  rw [show (2 : Int) ^ k = ((2 ^ k : Nat) : Int) by rw [Int.natCast_pow]; rfl, Int.ofNat_fdiv]
theorem shr_at (n t : Nat) (ht : t ≤ 7) : AV.i .u8 (IntKind.u8.wrap ((n : Int).fdiv (2 ^ (min (8 * (t : Int)).toNat (IntKind.bits .i64))))) = byA (UInt8.ofNat (n / 256 ^ t)) := by
  rw [show min (8 * (t : Int)).toNat (IntKind.bits .i64) = 8 * t by rw [show IntKind.bits .i64 = 64 from rfl]; omega, shr_nat, byA_nat, Nat.pow_mul]
theorem wfail_spec (b : Nat) (x : Int) (v : Value) (s : WS) : Spec Tryz.prog 198 [.ptr 0 b [] 0, .i .i64 x] (wrO b v s) (fun r os => r = .tup [] ∧ ∃ v', os = wrO b v' (s.fail x)) := by
  refine spec_of TtOk [(0, .var b (wrA v s)), (1, .row v 5 1 (s.bs.map byA))] Tryz.func198 rfl Tryz.ntmps198 (by kernel_rfl) rfl rfl (fun C => ?_) rfl
  repeat' (first | refine Awp.seq ?_ | refine Awp.region ?_ | refine Ops.nil (nqA ?_) | refine Ops.nil (nqE ?_) | refine Awp.skip (nqE ?_) | (refine o_calm rfl TtOk rfl rfl rfl ?_ (fun _ => ?_); exact nd) | refine o_store TtOk rfl rfl rfl rfl rfl rfl rfl ⟨rfl, rfl⟩ rfl rfl rfl rfl rfl ?_ | (refine a_condP rfl (fun hc => ?_) (fun hc => ?_)) <;> (try (exfalso; omega)))
  · refine end_none rfl [] [(0, _), (1, _)] (HLe.same rfl (HOLe.refl _) (HLe.same rfl (HOLe.refl _) .nil)) ⟨rfl, v, ?_⟩ _ (by first | exact .inl rfl | exact .inr rfl)
    unfold WS.fail; rw [if_pos hc]; rfl
  · refine end_none rfl [] [(0, _), (1, _)] (HLe.same rfl (HOLe.refl _) (HLe.same rfl (HOLe.refl _) .nil)) ⟨rfl, v, ?_⟩ _ (by first | exact .inl rfl | exact .inr rfl)
    unfold WS.fail; rw [if_neg hc]; rfl
theorem wnumber_spec (b : Nat) (n : Int) (hn : n < 9223372036854775808) (v : Value) (s : WS) (hs : s.bs.length ≤ 1000000000000) : Spec Tryz.prog 125 [.ptr 0 b [] 0, .i .i64 n] (wrO b v s) (fun r os => r = .tup [] ∧ ∃ v', os = wrO b v' (s.number n)) := by
  refine spec_of TtOk [(0, .var b (wrA v s)), (1, .row v 5 1 (s.bs.map byA))] Tryz.func125 rfl Tryz.ntmps125 (by kernel_rfl) rfl rfl (fun C => ?_) rfl
  repeat' (first | refine Awp.seq ?_ | refine Awp.block ?_ | refine Awp.region ?_ | refine Ops.nil (nqA ?_) | refine Awp.skip (nqA ?_) | (refine o_calm rfl TtOk rfl rfl rfl ?_ (fun _ => ?_); exact nd) | (refine a_condP rfl (fun hc => ?_) (fun hc => ?_)) <;> (try (exfalso; omega)))
  · refine o_call [] [0, 1] [0, 1] rfl (wfail_spec b 1 v s) ⟨sle_ptr, sle_i rfl, True.intro⟩ rfl ⟨HOLe.refl _, HOLe.refl _, True.intro⟩ rfl rfl ?_
    rintro r os' ⟨rfl, v', rfl⟩; refine ⟨_, rfl, rfl, ?_⟩
    repeat' (first | refine Ops.nil (nqA ?_) | refine Awp.ret (nqE ?_))
    refine end_none rfl [] [(0, _), (1, _)] (HLe.same rfl (HOLe.refl _) (HLe.same rfl (HOLe.refl _) .nil)) ⟨rfl, v', ?_⟩ _ (by first | exact .inl rfl | exact .inr rfl)
    unfold WS.number; rw [if_pos hc]; rfl
  obtain ⟨n, rfl⟩ := Int.eq_ofNat_of_zero_le (Int.not_lt.1 hc)
  have hW : s.number n = s.put (numBytes n) := by unfold WS.number; rw [if_neg hc]; rfl
  have hle := digits_le 8 n (by omega)
  have hD := digits_at 8 n (by omega)
  have hNB : numBytes n = UInt8.ofNat (digits n).length :: digits n := rfl
  obtain ⟨L, hL⟩ : ∃ L, (digits n).length = L := ⟨_, rfl⟩
  rw [hL] at hle hD hNB
  refine Awp.loop (fun (x : Nat × Nat) => ⟨49, [(4, .i .i64 x.1), (5, .i .i64 x.2), (1, .i .i64 n), (0, .ptr 0 b [] 0)], [(0, .var b (wrA v s)), (1, .row v 5 1 (s.bs.map byA))]⟩) (fun x => x.2 ≤ n ∧ x.1 + (digits x.2).length = L ∧ x.1 ≤ 8) (fun x => x.2) [] (0, n) ⟨Nat.le_refl _, by simpa using hL, by omega⟩ ?_ ?_
  · refine ⟨rfl, ?_, ?_⟩ <;> repeat' (first | exact True.intro | refine sle_i ?_ | exact sle_ptr | exact HLe.nil | exact HOLe.refl _ | refine HLe.same rfl ?_ ?_ | with_reducible rfl | refine ⟨?_, ?_⟩ | fail)
    all_goals rfl
  rintro ⟨i, j⟩ ⟨hj, hij, hi8⟩
  dsimp only at hj hij hi8 ⊢
  repeat' (first | refine Awp.seq ?_ | refine Awp.block ?_ | refine Awp.region ?_ | refine Ops.nil (nqA ?_) | refine Ops.nil (nqX ?_) | refine Awp.skip (nqA ?_) | refine Awp.exit (nqA ?_) | (refine o_add rfl rfl rfl rfl ?_ ?_; omega) | (refine o_sub rfl rfl rfl rfl ?_ ?_; omega) | (refine o_calm rfl TtOk rfl rfl rfl ?_ (fun _ => ?_); exact nd) | refine o_store TtOk rfl rfl rfl rfl rfl rfl rfl ⟨rfl, rfl⟩ rfl rfl rfl rfl rfl ?_ | refine o_buildSlice TtOk rfl rfl rfl rfl rfl rfl rfl rfl rfl rfl rfl nq1 (fun _ => ?_) | (refine o_append TtOk rfl rfl rfl rfl rfl rfl rfl rfl rfl (by first | exact True.intro | exact rfl) rfl rfl (fun _ => rfl) ?_ ?_ (fun _ => ?_); ((repeat' (first | rw [List.length_append] | rw [List.length_map] | rw [List.length_cons] | rw [List.length_nil] | rw [List.length_take] | rw [List.length_drop])) <;> omega); ((repeat' (first | rw [List.length_append] | rw [List.length_map] | rw [List.length_cons] | rw [List.length_nil] | rw [List.length_take] | rw [List.length_drop])) <;> omega)) | (refine a_condP rfl (fun hc => ?_) (fun hc => ?_)) <;> (try (exfalso; omega)))
  · have hd := congrArg List.length (digits_pos (n := j) (by omega))
    rw [List.length_append, List.length_singleton] at hd
    refine ⟨(i + 1, j / 256), [], ⟨by show j / 256 ≤ n; omega, by show i + 1 + (digits (j / 256)).length = L; omega, by show i + 1 ≤ 8; omega⟩, by show j / 256 < j; omega, ?_⟩
    refine ⟨rfl, ?_, ?_⟩ <;> repeat' (first | exact True.intro | refine sle_i ?_ | exact sle_ptr | exact HLe.nil | exact HOLe.refl _ | refine HLe.same rfl ?_ ?_ | with_reducible rfl | refine ⟨?_, ?_⟩ | fail)
    all_goals first | rfl | (exact shr_nat j 8)
  have hj0 : j = 0 := by omega
  subst hj0
  have hiL : i = L := by rw [digits_zero] at hij; simpa using hij
  subst hiL
  rename_i v1 _ _ _ _
  refine Awp.loop (fun (x : Nat × Value) => ⟨49, [(6, .i .i64 ((x.1 : Int) - 1)), (1, .i .i64 n), (0, .ptr 0 b [] 0)], [(0, .var b (.agg [.own 1 x.2, .i .i64 s.e])), (1, .row x.2 5 1 ((s.bs ++ (UInt8.ofNat i :: (digits n).take (i - x.1))).map byA))]⟩) (fun x => x.1 ≤ i) (fun x => x.1) [] (i, v1) (Nat.le_refl _) ?_ ?_
  · refine ⟨rfl, ?_, ?_⟩ <;> repeat' (first | exact True.intro | refine sle_i ?_ | exact sle_ptr | exact HLe.nil | exact HOLe.refl _ | refine HLe.same rfl ?_ ?_ | refine HOLe.row ?_ | with_reducible rfl | refine ⟨?_, ?_⟩ | fail)
    all_goals first | rfl | skip
    show List.map byA s.bs ++ [AV.i .u8 (IntKind.u8.wrap (i : Int))] = _
    rw [byA_nat, Nat.sub_self, List.take_zero, List.map_append]; rfl
  rintro ⟨t, v2⟩ ht
  dsimp only at ht ⊢
  have hlen : (s.bs ++ (UInt8.ofNat i :: (digits n).take (i - t))).length < 2000000000000 := by simp; omega
  generalize hbs : s.bs ++ (UInt8.ofNat i :: (digits n).take (i - t)) = bs at hlen ⊢
  repeat' (first | refine Awp.seq ?_ | refine Awp.block ?_ | refine Awp.region ?_ | refine Ops.nil (nqA ?_) | refine Ops.nil (nqX ?_) | refine Awp.skip (nqA ?_) | refine Awp.exit (nqE ?_) | (refine o_sub rfl rfl rfl rfl ?_ ?_; omega) | (refine o_mul rfl rfl rfl rfl ?_ ?_; omega) | (refine o_calm rfl TtOk rfl rfl rfl ?_ (fun _ => ?_); exact nd) | refine o_store TtOk rfl rfl rfl rfl rfl rfl rfl ⟨rfl, rfl⟩ rfl rfl rfl rfl rfl ?_ | refine o_buildSlice TtOk rfl rfl rfl rfl rfl rfl rfl rfl rfl rfl rfl nq1 (fun _ => ?_) | (refine o_append TtOk rfl rfl rfl rfl rfl rfl rfl rfl rfl (by first | exact True.intro | exact rfl) rfl rfl (fun _ => rfl) ?_ ?_ (fun _ => ?_); ((repeat' (first | rw [List.length_append] | rw [List.length_map] | rw [List.length_cons] | rw [List.length_nil] | rw [List.length_take] | rw [List.length_drop])) <;> omega); ((repeat' (first | rw [List.length_append] | rw [List.length_map] | rw [List.length_cons] | rw [List.length_nil] | rw [List.length_take] | rw [List.length_drop])) <;> omega)) | (refine a_condP rfl (fun hc => ?_) (fun hc => ?_)) <;> (try (exfalso; omega)) | refine a_any 11 [0, 1] [39] [45] [0, 1, 2, 3, 5, 6, 7, 8, 9, 4, 10, 11, 12, 13, 14] (by kernel_rfl) (by kernel_rfl) (by kernel_rfl) rfl rfl rfl ?_)
  · rename_i v3 _ _ _ _
    have ht7 : t - 1 ≤ 7 := by omega
    have htk : (digits n).take (i - (t - 1)) = (digits n).take (i - t) ++ [UInt8.ofNat (n / 256 ^ (t - 1))] := by
      have h1 := hD (t - 1) (by omega)
      rw [show i - (t - 1) = (i - t) + 1 by omega, List.take_add_one, show i - t = i - 1 - (t - 1) by omega, h1]; rfl
    have hrow : List.map byA bs ++ [AV.i .u8 (IntKind.u8.wrap ((n : Int).fdiv (2 ^ (min (8 * ((t : Int) - 1)).toNat (IntKind.bits .i64)))))] = List.map byA (s.bs ++ (UInt8.ofNat i :: (digits n).take (i - (t - 1)))) := by
      rw [show ((t : Int) - 1) = ((t - 1 : Nat) : Int) by omega, shr_at n (t - 1) ht7, htk, ← hbs, ← List.cons_append, ← List.append_assoc, List.map_append (l₂ := [_])]; rfl
    refine ⟨(t - 1, v3), [], by show t - 1 ≤ i; omega, by show t - 1 < t; omega, ?_⟩
    refine ⟨rfl, ?_, ?_⟩ <;> repeat' (first | exact True.intro | refine sle_i ?_ | exact sle_ptr | exact HLe.nil | exact HOLe.refl _ | refine HLe.same rfl ?_ ?_ | refine HOLe.row ?_ | with_reducible rfl | refine ⟨?_, ?_⟩ | fail)
    all_goals first | rfl | exact hrow | (show (t : Int) - 1 - 1 = ((t - 1 : Nat) : Int) - 1; omega)
  · have ht0 : t = 0 := by omega
    subst ht0
    refine end_none rfl [] [(0, _), (1, _)] (HLe.same rfl (HOLe.refl _) (HLe.same rfl (HOLe.refl _) .nil)) ⟨rfl, v2, ?_⟩ _ (by first | exact .inl rfl | exact .inr rfl)
    rw [hW]
    show _ = [HO.var b (wrA v2 ⟨s.bs ++ numBytes n, s.e⟩), HO.row v2 _ 1 ((s.bs ++ numBytes n).map byA)]
    rw [hNB, ← hbs, Nat.sub_zero, List.take_of_length_le (by omega)]; rfl
end Go.Proofs.YtcmgpkibjdbonaaGreat
set_option maxHeartbeats 4000000
namespace Go.Proofs.YtcmgpkibjdbonaaGreat
open Go Go.RowKit

def WS.text (s : WS) (t : List UInt8) : WS := if 65536 < t.length then s.fail 2 else (s.number t.length).put t
def WS.done (s : WS) : List UInt8 × Int := if s.e ≠ 0 then ([], s.e) else if 65536 < s.bs.length then ([], 2) else (s.bs, 0)
theorem numBytes_len (n : Nat) (h : n < 9223372036854775808) : (numBytes n).length ≤ 9 := by
  have := digits_le 8 n (by omega)
  unfold numBytes; rw [List.length_cons]; omega
theorem WS.len_fail (s : WS) (x : Int) : (s.fail x).bs = s.bs := by unfold WS.fail; split <;> rfl
theorem WS.len_number (s : WS) (n : Int) (hn : n < 9223372036854775808) : (s.number n).bs.length ≤ s.bs.length + 9 := by
  unfold WS.number
  split
  · rw [WS.len_fail]; omega
  · unfold WS.put
    have := numBytes_len n.toNat (by omega)
    show (s.bs ++ numBytes n.toNat).length ≤ _
    rw [List.length_append]; omega
theorem WS.len_text (s : WS) (t : List UInt8) : (s.text t).bs.length ≤ s.bs.length + 65545 := by
  unfold WS.text
  split
  · rw [WS.len_fail]; omega
  · unfold WS.put
    have := WS.len_number s t.length (by omega)
    show ((s.number t.length).bs ++ t).length ≤ _
    rw [List.length_append]; omega
theorem wflag_spec (b : Nat) (c : Bool) (v : Value) (s : WS) (hs : s.bs.length ≤ 1000000000000) : Spec Tryz.prog 202 [.ptr 0 b [] 0, .b c] (wrO b v s) (fun r os => r = .tup [] ∧ ∃ v', os = wrO b v' (s.put [if c then 1 else 0])) := by
  refine spec_of TtOk [(0, .var b (wrA v s)), (1, .row v 5 1 (s.bs.map byA))] Tryz.func202 rfl Tryz.ntmps202 (by kernel_rfl) rfl rfl (fun C => ?_) rfl
  repeat' (first | refine Awp.seq ?_ | refine Awp.region ?_ | refine Ops.nil (nqA ?_) | refine Ops.nil (nqE ?_) | refine Awp.skip (nqA ?_) | (refine o_calm rfl TtOk rfl rfl rfl ?_ (fun _ => ?_); exact nd) | refine o_store TtOk rfl rfl rfl rfl rfl rfl rfl ⟨rfl, rfl⟩ rfl rfl rfl rfl rfl ?_ | refine o_buildSlice TtOk rfl rfl rfl rfl rfl rfl rfl rfl rfl rfl rfl nq1 (fun _ => ?_) | (refine o_append TtOk rfl rfl rfl rfl rfl rfl rfl rfl rfl (by first | exact True.intro | exact rfl) rfl rfl (fun _ => rfl) ?_ ?_ (fun _ => ?_); ((repeat' (first | rw [List.length_append] | rw [List.length_map] | rw [List.length_cons] | rw [List.length_nil] | rw [List.length_take] | rw [List.length_drop])) <;> omega); ((repeat' (first | rw [List.length_append] | rw [List.length_map] | rw [List.length_cons] | rw [List.length_nil] | rw [List.length_take] | rw [List.length_drop])) <;> omega)) | (refine Awp.cond rfl (fun hc => ?_) (fun hc => ?_)))
  all_goals
    subst hc
    rename_i v2 _ _
    refine end_none rfl [] [(0, _), (1, _)] (HLe.same rfl (HOLe.refl _) (HLe.same rfl (HOLe.refl _) .nil)) ⟨rfl, v2, ?_⟩ _ (by first | exact .inl rfl | exact .inr rfl)
    show [HO.var b (.agg [.own 1 v2, .i .i64 s.e]), HO.row v2 _ 1 (List.map byA s.bs ++ [_])] = [HO.var b (.agg [.own 1 v2, .i .i64 s.e]), HO.row v2 _ 1 ((s.bs ++ [_]).map byA)]
    rw [List.map_append]; rfl
theorem wdone_spec (b : Nat) (v : Value) (s : WS) : Spec Tryz.prog 127 [.ptr 0 b [] 0] (wrO b v s) (fun r os => r = .tup [.s s.done.1, .i .i64 s.done.2] ∧ ∃ v', os = wrO b v' s) := by
  refine spec_of TtOk [(0, .var b (wrA v s)), (1, .row v 5 1 (s.bs.map byA))] Tryz.func127 rfl Tryz.ntmps127 (by kernel_rfl) rfl rfl (fun C => ?_) rfl
  repeat' (first | refine Awp.seq ?_ | refine Awp.region ?_ | refine Ops.nil (nqA ?_) | refine Awp.skip (nqA ?_) | refine Awp.ret (nqE ?_) | refine o_lenOwn rfl TtOk rfl rfl rfl rfl (fun _ => ?_) | (refine o_calm rfl TtOk rfl rfl rfl ?_ (fun _ => ?_); exact nd) | (refine a_condP rfl (fun hc => ?_) (fun hc => ?_)) <;> (try (exfalso; omega)) | (refine a_condN rfl (fun hc => ?_) (fun hc => ?_)) <;> (try (exfalso; omega)) | refine o_toString TtOk rfl rfl rfl rfl rfl (by first | exact True.intro | exact rfl) rfl rfl rfl rfl ?_ | refine a_any 2 [] [] [] [0, 1, 2, 4, 3, 5] (by kernel_rfl) (by kernel_rfl) (by kernel_rfl) rfl rfl rfl ?_)
  · have hn : s.done = ([], s.e) := by unfold WS.done; rw [if_pos hc]
    refine end_all [] [(0, _), (1, _)] (.tup [.s _, .i .i64 _]) rfl ?_ ?_ (rle_tup2 (CLe.refl _) (CLe.refl _) rfl rfl) (HLe.same rfl (HOLe.refl _) (HLe.same rfl (HOLe.refl _) .nil)) ⟨by rw [hn], v, rfl⟩ _ (.inl rfl)
    all_goals exact ⟨trivial, trivial, trivial⟩
  · have hn : s.done = ([], 2) := by unfold WS.done; rw [if_neg (by simpa using by assumption), if_pos (by omega)]
    refine end_all [] [(0, _), (1, _)] (.tup [.s _, .i .i64 _]) rfl ?_ ?_ (rle_tup2 (CLe.refl _) (CLe.refl _) rfl rfl) (HLe.same rfl (HOLe.refl _) (HLe.same rfl (HOLe.refl _) .nil)) ⟨by rw [hn], v, rfl⟩ _ (.inl rfl)
    all_goals exact ⟨trivial, trivial, trivial⟩
  · have hn : s.done = (s.bs, 0) := by unfold WS.done; rw [if_neg (by simpa using by assumption), if_neg (by omega)]
    refine end_all [] [(0, _), (1, _)] (.tup [.s _, .i .i64 _]) rfl ?_ ?_ (rle_tup2 (CLe.refl _) (CLe.refl _) rfl rfl) (HLe.same rfl (HOLe.refl _) (HLe.same rfl (HOLe.refl _) .nil)) ⟨by rw [hn], v, rfl⟩ _ (.inl rfl)
    all_goals exact ⟨trivial, trivial, trivial⟩
theorem wtext_spec (b : Nat) (t : List UInt8) (v : Value) (s : WS) (hs : s.bs.length ≤ 900000000000) : Spec Tryz.prog 138 [.ptr 0 b [] 0, .s t] (wrO b v s) (fun r os => r = .tup [] ∧ ∃ v', os = wrO b v' (s.text t)) := by
  refine spec_of TtOk [(0, .var b (wrA v s)), (1, .row v 5 1 (s.bs.map byA))] Tryz.func138 rfl Tryz.ntmps138 (by kernel_rfl) rfl rfl (fun C => ?_) rfl
  repeat' (first | refine Awp.seq ?_ | refine Awp.region ?_ | refine Ops.nil (nqA ?_) | refine Awp.skip (nqA ?_) | (refine o_calm rfl TtOk rfl rfl rfl ?_ (fun _ => ?_); exact nd) | (refine a_condP rfl (fun hc => ?_) (fun hc => ?_)) <;> (try (exfalso; omega)))
  · refine o_call [] [0, 1] [0, 1] rfl (wfail_spec b 2 v s) ⟨sle_ptr, sle_i rfl, True.intro⟩ rfl ⟨HOLe.refl _, HOLe.refl _, True.intro⟩ rfl rfl ?_
    rintro r os' ⟨rfl, v', rfl⟩; refine ⟨_, rfl, rfl, ?_⟩
    repeat' (first | refine Ops.nil (nqA ?_) | refine Awp.ret (nqE ?_))
    refine end_none rfl [] [(0, _), (1, _)] (HLe.same rfl (HOLe.refl _) (HLe.same rfl (HOLe.refl _) .nil)) ⟨rfl, v', ?_⟩ _ (by first | exact .inl rfl | exact .inr rfl)
    unfold WS.text; rw [if_pos (by omega)]; rfl
  · refine o_call [] [0, 1] [0, 1] rfl (wnumber_spec b (t.length : Int) (by omega) v s (by omega)) ⟨sle_ptr, sle_i rfl, True.intro⟩ rfl ⟨HOLe.refl _, HOLe.refl _, True.intro⟩ rfl rfl ?_
    rintro r os' ⟨rfl, v', rfl⟩; refine ⟨_, rfl, rfl, ?_⟩
    have hl := WS.len_number s (t.length : Int) (by omega)
    repeat' (first | refine Awp.region ?_ | refine Ops.nil (nqA ?_) | refine Ops.nil (nqE ?_) | (refine o_calm rfl TtOk rfl rfl rfl ?_ (fun _ => ?_); exact nd) | refine o_store TtOk rfl rfl rfl rfl rfl rfl rfl ⟨rfl, rfl⟩ rfl rfl rfl rfl rfl ?_ | (refine o_appendStr TtOk rfl rfl rfl rfl rfl rfl rfl rfl rfl (fun _ => rfl) ?_ (fun _ => ?_); ((repeat' (first | rw [List.length_append] | rw [List.length_map] | rw [List.length_cons] | rw [List.length_nil] | rw [List.length_take] | rw [List.length_drop])) <;> omega)))
    rename_i v2 _ _
    refine end_none rfl [] [(0, _), (1, _)] (HLe.same rfl (HOLe.refl _) (HLe.same rfl (HOLe.refl _) .nil)) ⟨rfl, v2, ?_⟩ _ (by first | exact .inl rfl | exact .inr rfl)
    have hn : s.text t = (s.number t.length).put t := by unfold WS.text; rw [if_neg (by omega)]
    rw [hn]
    show _ = [HO.var b (wrA v2 ⟨(s.number t.length).bs ++ t, (s.number t.length).e⟩), HO.row v2 _ 1 (((s.number t.length).bs ++ t).map byA)]
    rw [List.map_append]; rfl
end Go.Proofs.YtcmgpkibjdbonaaGreat
set_option maxHeartbeats 4000000
namespace Go.Proofs.YtcmgpkibjdbonaaGreat
open Go Go.RowKit

theorem wlabel_spec (b : Nat) (l : List UInt8) (hl : l.length = 32) (v : Value) (s : WS) (hs : s.bs.length ≤ 1000000000000) : Spec Tryz.prog 126 [.ptr 0 b [] 0, labA l] (wrO b v s) (fun r os => r = .tup [] ∧ ∃ v', os = wrO b v' (s.put l)) := by
  refine spec_of TtOk [(0, .var b (wrA v s)), (1, .row v 5 1 (s.bs.map byA))] Tryz.func126 rfl Tryz.ntmps126 (by kernel_rfl) rfl rfl (fun C => ?_) rfl
  refine Awp.seq ?_
  refine Awp.region ?_
  refine o_box rfl rfl rfl rfl (fun _ => ?_)
  refine Ops.nil ?_; show Awp _ _ _ _ _
  refine a_freezeV 3 3 rfl rfl rfl ?_
  repeat' (first | refine Ops.nil (nqE ?_) | (refine o_calm rfl TtOk rfl rfl rfl ?_ (fun _ => ?_); exact nd) | refine o_store TtOk rfl rfl rfl rfl rfl rfl rfl ⟨rfl, rfl⟩ rfl rfl rfl rfl rfl ?_ | (refine o_append TtOk rfl rfl rfl rfl rfl rfl rfl rfl rfl (by first | exact True.intro | exact rfl) rfl rfl (fun _ => rfl) ?_ ?_ (fun _ => ?_); ((repeat' (first | rw [List.length_append] | rw [List.length_map] | rw [List.length_cons] | rw [List.length_nil] | rw [List.length_take] | rw [List.length_drop])) <;> omega); ((repeat' (first | rw [List.length_append] | rw [List.length_map] | rw [List.length_cons] | rw [List.length_nil] | rw [List.length_take] | rw [List.length_drop])) <;> omega)) | refine o_sliceCp TtOk rfl rfl rfl rfl rfl rfl ?_ | refine a_any 1 [0, 1] [8] [] [0, 1, 2, 3, 5, 4, 6, 7, 8, 9] (by kernel_rfl) (by kernel_rfl) (by kernel_rfl) rfl rfl rfl ?_)
  rename_i v2 _ _
  refine end_none rfl [] [(0, _), (1, _)] (HLe.same rfl (HOLe.refl _) (HLe.same rfl (HOLe.refl _) .nil)) ⟨rfl, v2, ?_⟩ _ (by first | exact .inl rfl | exact .inr rfl)
  show _ = [HO.var b (wrA v2 ⟨s.bs ++ l, s.e⟩), HO.row v2 _ 1 ((s.bs ++ l).map byA)]
  rw [List.map_append]; rfl
end Go.Proofs.YtcmgpkibjdbonaaGreat
namespace Go.Proofs.YtcmgpkibjdbonaaGreat
open Go Go.RowKit

structure Thg where
  k : Int
  n : Int
  s : List UInt8
  l : List UInt8
def thA (t : Thg) : AV := .agg [.i .i64 t.k, .i .i64 t.n, .s t.s, labA t.l]
def RS.rest (r : RS) : List UInt8 := r.s.drop r.p
theorem RS.rest_len (r : RS) : r.rest.length = r.s.length - r.p := by unfold RS.rest; rw [List.length_drop]
theorem RS.take_ok (r : RS) (he : r.e = 0) (n : Nat) (h : n ≤ r.rest.length) : r.take n = (r.rest.take n, ⟨r.s, r.p + n, 0⟩) := by
  rw [RS.rest_len] at h
  unfold RS.take RS.rest
  rw [if_neg (by simpa using he), if_neg (by omega)]
theorem RS.rest_step (s : List UInt8) (p n : Nat) (e : Int) : (RS.mk s (p + n) e).rest = (RS.mk s p 0).rest.drop n := by unfold RS.rest; rw [List.drop_drop]
theorem be_digits (n : Nat) : be (digits n) = n := by
  induction n using Nat.strongRecOn with
  | _ n ih =>
    by_cases h : n = 0
    · subst h; rw [digits_zero]; rfl
    · rw [digits_pos h, be_snoc, ih (n / 256) (by omega), UInt8.toNat_ofNat']; omega
theorem digits_head (n : Nat) (h : n ≠ 0) : ∃ c l, digits n = c :: l ∧ c.toNat ≠ 0 := by
  induction n using Nat.strongRecOn with
  | _ n ih =>
    rw [digits_pos h]
    by_cases h0 : n / 256 = 0
    · rw [h0, digits_zero]; exact ⟨_, [], rfl, by rw [UInt8.toNat_ofNat']; omega⟩
    · obtain ⟨c, l, e, hc⟩ := ih (n / 256) (by omega) h0
      rw [e]; exact ⟨c, l ++ [_], rfl, hc⟩
theorem be_ge (c : UInt8) (l : List UInt8) : c.toNat * 256 ^ l.length ≤ be (c :: l) := by
  rw [be_cons]; omega
theorem badNum_digits (n : Nat) (hn : n < 9223372036854775808) : badNum (digits n).length (digits n) = false := by
  by_cases h : n = 0
  · subst h; rw [digits_zero]; rfl
  · obtain ⟨c, l, e, hc⟩ := digits_head n h
    have hb := be_ge c l
    rw [← e, be_digits] at hb
    rw [e]
    unfold badNum
    simp only [Bool.or_eq_false_iff, beq_eq_false_iff_ne, Bool.and_eq_false_imp, beq_iff_eq, decide_eq_false_iff_not, Nat.not_lt]
    refine ⟨hc, fun h8 => ?_⟩
    have hl : l.length = 7 := by simp at h8; omega
    rw [hl] at hb
    omega
theorem numBytes_cons (n : Nat) (hn : n < 9223372036854775808) : ∃ c, numBytes n = c :: digits n ∧ c.toNat = (digits n).length := ⟨_, rfl, by
  have := digits_le 8 n (by omega)
  rw [UInt8.toNat_ofNat']; omega⟩
theorem RS.number_reads (r : RS) (he : r.e = 0) (n : Nat) (hn : n < 9223372036854775808) (t : List UInt8) (h : r.rest = numBytes n ++ t) : r.number = (n, ⟨r.s, r.p + (numBytes n).length, 0⟩) := by
  obtain ⟨c, hc, hcl⟩ := numBytes_cons n hn
  have h8 := digits_le 8 n (by omega)
  rw [hc] at h
  have h1 : r.take 1 = ([c], ⟨r.s, r.p + 1, 0⟩) := by rw [RS.take_ok r he 1 (by rw [h]; simp), h]; rfl
  have hr : (RS.mk r.s (r.p + 1) 0).rest = digits n ++ t := by
    rw [RS.rest_step]; show r.rest.drop 1 = _; rw [h]; rfl
  have h2 : (RS.mk r.s (r.p + 1) 0).take c.toNat = (digits n, ⟨r.s, r.p + 1 + (digits n).length, 0⟩) := by
    rw [hcl, RS.take_ok _ rfl _ (by rw [hr]; simp), hr, List.take_left]
  unfold RS.number
  rw [h1]
  have hb0 : hd0 [c] = c.toNat := rfl
  simp only [hb0]
  rw [if_neg (by simp), if_neg (by omega), h2]
  simp only []
  rw [if_neg (by rw [hcl, badNum_digits n hn]; simp), be_digits, hc, List.length_cons]
  rw [show r.p + 1 + (digits n).length = r.p + ((digits n).length + 1) by omega]
def textBytes (s : List UInt8) : List UInt8 := numBytes s.length ++ s
theorem RS.label_reads (r : RS) (he : r.e = 0) (l : List UInt8) (hl : l.length = 32) (t : List UInt8) (h : r.rest = l ++ t) : r.label = (l, ⟨r.s, r.p + 32, 0⟩) := by
  unfold RS.label
  rw [RS.take_ok r he 32 (by rw [h, List.length_append]; omega), h, ← hl, List.take_left]
  simp
theorem RS.flag_reads (r : RS) (he : r.e = 0) (c : Bool) (t : List UInt8) (h : r.rest = (if c then 1 else 0) :: t) : r.flag = (c, ⟨r.s, r.p + 1, 0⟩) := by
  unfold RS.flag
  rw [RS.take_ok r he 1 (by rw [h]; simp), h]
  cases c <;> rfl
/-! One spelling. -/
/-- The bytes of a thing. -/
def tBytes (t : Thg) : List UInt8 := if t.k = 1 then numBytes t.n.toNat else if t.k = 2 then textBytes t.s else if t.k = 3 then t.l else if t.k = 4 then [if 0 < t.n then 1 else 0] else []
def WS.thing (w : WS) (t : Thg) : WS := if t.k = 1 then w.number t.n else if t.k = 2 then w.text t.s else if t.k = 3 then w.put t.l else if t.k = 4 then w.put [if 0 < t.n then 1 else 0] else w
def WS.things (w : WS) (l : List Thg) : WS := l.foldl WS.thing w
/-- What is written without a fault. -/
def tOk (t : Thg) : Prop := (t.k = 1 → 0 ≤ t.n) ∧ (t.k = 2 → t.s.length ≤ 65536)
end Go.Proofs.YtcmgpkibjdbonaaGreat
