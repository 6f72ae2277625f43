/- block.Check, ref09.Check by rules. -/
import Derived.Test.YtdpljpnnjgefoaaKWZ
import Derived.Test.YtdpljpnnjgefoaaV18
import Derived.Test.YtdpljpnnjgefoaaTypes
set_option maxHeartbeats 8000000
namespace Go.Proofs.Ytdpljpnnjgefoaa
open Go Go.RowKit
def chkE (prev : Option (List UInt8)) (x : Etr) : Int :=
  if x.k.length = 0 ∨ (x.g = true ∧ 0 < x.v.length) then 3 else if 100 < x.k.length ∨ 4000 < x.v.length then 2 else match prev with
    | none => 0
    | some p => if Op.bytesLess p x.k = true then 0 else 3
def chkL : Option (List UInt8) → List Etr → Int
  | _, [] => 0
  | p, x :: r => if chkE p x ≠ 0 then chkE p x else chkL (some x.k) r
def checkN (l : List Etr) : Int := if 256 < l.length then 2 else chkL none l
def prevAt (l : List Etr) : Nat → Option (List UInt8)
  | 0 => none
  | m + 1 => (l[m]?).map (·.k)
theorem chkL_step (l : List Etr) (k : Nat) (h : k < l.length) : chkL (prevAt l k) (l.drop k) = if chkE (prevAt l k) l[k] ≠ 0 then chkE (prevAt l k) l[k] else chkL (prevAt l (k + 1)) (l.drop (k + 1)) := by
  rw [List.drop_eq_getElem_cons h]
  show (if chkE _ _ ≠ 0 then _ else chkL (some l[k].k) _) = _
  rw [show prevAt l (k + 1) = some l[k].k by show (l[k]?).map _ = _; rw [List.getElem?_eq_getElem h]; rfl]
theorem kzd (k : List UInt8) : (k == ({ data := #[] } : ByteArray).data.toList) = decide (k.length = 0) := by
  cases k <;> rfl
theorem vzd (k : List UInt8) : (!(k == ({ data := #[] } : ByteArray).data.toList)) = decide (0 < k.length) := by
  cases k <;> rfl
theorem chkE_3 {p : Option (List UInt8)} {x : Etr} (h : x.k.length = 0 ∨ (x.g = true ∧ 0 < x.v.length)) : chkE p x = 3 := by unfold chkE; rw [if_pos h]
theorem chkE_2 {p : Option (List UInt8)} {x : Etr} (h : ¬ (x.k.length = 0 ∨ (x.g = true ∧ 0 < x.v.length))) (h2 : 100 < x.k.length ∨ 4000 < x.v.length) : chkE p x = 2 := by unfold chkE; rw [if_neg h, if_pos h2]
theorem chkE_n {x : Etr} (h : ¬ (x.k.length = 0 ∨ (x.g = true ∧ 0 < x.v.length))) (h2 : ¬ (100 < x.k.length ∨ 4000 < x.v.length)) : chkE none x = 0 := by unfold chkE; rw [if_neg h, if_neg h2]
theorem chkE_s {q : List UInt8} {x : Etr} (h : ¬ (x.k.length = 0 ∨ (x.g = true ∧ 0 < x.v.length))) (h2 : ¬ (100 < x.k.length ∨ 4000 < x.v.length)) : chkE (some q) x = if Op.bytesLess q x.k = true then 0 else 3 := by unfold chkE; rw [if_neg h, if_neg h2]
theorem check_spec9 (l : List Etr) (hl : l.length ≤ 9223372036854775807) (hm : ∀ e ∈ l, e.k.length ≤ 1000000000000 ∧ e.v.length ≤ 1000000000000) : Spec Try.prog 21 [.sl 3 (l.map eA)] [] (fun v os => v = .i .i64 (checkN l) ∧ os = []) := by
  refine spec_of TtOk [] Try.func21 rfl Try.ntmps21 (by kernel_rfl) rfl rfl (fun C => ?_) rfl
  repeat' (first | refine Awp.seq ?_ | refine Awp.block ?_ | refine Awp.region ?_ | (refine Ops.nil ?_; show Awp _ _ _ _ _) | (refine Ops.nil ?_; show Exists _) | (refine Ops.nil ?_; show endK _ _ _ _ _) | (refine Awp.skip ?_; show Awp _ _ _ _ _) | (refine Awp.skip ?_; show endK _ _ _ _ _) | (refine Awp.skip ?_; show Exists _) | (refine Awp.exit ?_; show Awp _ _ _ _ _) | (refine Awp.exit ?_; show Exists _) | (refine Awp.exit ?_; show endK _ _ _ _ _) | (refine Awp.ret ?_; show endK _ _ _ _ _) | refine o_offT rfl rfl rfl (by first | exact .inl rfl | exact .inr rfl) ?_ | refine o_offU rfl rfl rfl (by first | exact .inl rfl | exact .inr rfl) ?_ | refine o_offF rfl rfl rfl (by first | exact .inl rfl | exact .inr rfl) ?_ | (refine o_add rfl rfl rfl rfl ?_ ?_; omega) | (refine o_sub rfl rfl rfl rfl ?_ ?_; omega) | refine o_len rfl TtOk rfl rfl rfl (fun _ => ?_) | refine o_lenOwn rfl TtOk rfl rfl rfl rfl (fun _ => ?_) | (refine o_calm rfl TtOk rfl rfl rfl ?_ (fun _ => ?_); first | exact True.intro | exact ⟨rfl, rfl, rfl, rfl⟩ | exact ⟨rfl, True.intro⟩ | exact ⟨rfl, rfl⟩ | exact ⟨rfl, rfl, rfl⟩ | exact rfl | exact ⟨fun h0 => by cases h0, rfl⟩ | exact (fun h0 => by cases h0) | exact ⟨rfl, by omega⟩ | exact ⟨Nat.succ_ne_zero _, rfl⟩ | omega) | refine o_alloc rfl TtOk rfl rfl rfl (fun bA => ?_) | refine o_store TtOk rfl rfl rfl rfl rfl rfl rfl ⟨rfl, rfl⟩ rfl rfl rfl rfl rfl ?_ | (refine o_index rfl TtOk rfl rfl rfl rfl rfl rfl ?_ (getq_nat ?_) ?_; omega; omega) | (refine o_indexOwn TtOk rfl rfl rfl rfl rfl rfl rfl rfl _ rfl ?_ (fun bO hbO => ?_); (simp only [List.length_map]; omega)) | (refine o_loadRow TtOk rfl rfl rfl rfl rfl (by assumption) (getq_map (List.getElem?_eq_getElem ?_)) rfl rfl (by first | exact Nat.add_zero _ | rfl) ⟨rfl, rfl⟩ ?_; omega) | (refine o_calm rfl TtOk rfl rfl rfl ?_ (fun _ => ?_); (show List.length _ + List.length _ ≤ 9223372036854775807; (try simp only [List.length_append, List.length_cons, List.length_nil]); omega)) | (refine o_storeRow TtOk rfl rfl rfl rfl rfl rfl (by assumption) (getq_map (List.getElem?_eq_getElem ?_)) rfl rfl (by first | exact Nat.add_zero _ | rfl) ⟨rfl, rfl⟩ rfl rfl ?_; omega) | refine o_eqNil TtOk rfl rfl rfl rfl rfl ?_ | refine o_eqArr8 TtOk rfl rfl rfl rfl rfl rfl (by kernel_rfl) ?_ | (fail_if_success (refine o_isLit rfl (by first | exact .inl rfl | exact .inr rfl) ?_)); (refine o_splitP rfl rfl (fun hc => ?_) (fun hc => ?_) <;> try (exfalso; omega)) | (fail_if_success (refine o_isLit rfl (by first | exact .inl rfl | exact .inr rfl) ?_)); (refine o_splitI rfl rfl (fun hc => ?_) (fun hc => ?_) <;> try (exfalso; omega)) | (fail_if_success (refine o_isLit rfl (by first | exact .inl rfl | exact .inr rfl) ?_)); (refine o_splitN rfl rfl (fun hc => ?_) (fun hc => ?_) <;> try (exfalso; omega)) | (fail_if_success (refine o_isLit rfl (by first | exact .inl rfl | exact .inr rfl) ?_)); (refine o_split rfl rfl (fun hc => ?_) (fun hc => ?_)) | refine a_condT rfl ?_ | refine a_condF rfl ?_ | (refine a_condP rfl (fun hc => ?_) (fun hc => ?_)) <;> (try (exfalso; omega)) | (refine a_condI rfl (fun hc => ?_) (fun hc => ?_)) <;> (try (exfalso; omega)) | (refine a_condN rfl (fun hc => ?_) (fun hc => ?_)) <;> (try (exfalso; omega)) | (refine Awp.cond rfl (fun hc => ?_) (fun hc => ?_)) | refine a_any 12 [] [] [] [0, 1, 2, 3, 4, 5, 6, 7, 9, 8, 10, 11, 12, 13] (by kernel_rfl) (by kernel_rfl) (by kernel_rfl) rfl rfl rfl ?_)
  · refine end_tmp rfl rfl rfl [] [] (CLe.of_eq ?_) .nil ⟨rfl, rfl⟩ _ (.inl rfl)
    unfold checkN; rw [if_pos (by omega)]; rfl
  have hN : checkN l = chkL none l := by unfold checkN; rw [if_neg (by omega)]
  rw [hN]
  refine Awp.loop (fun k : Nat => ⟨50, [(10, .i .i64 k), (9, .i .i64 l.length), (8, .sl 3 (l.map eA)), (0, .sl 3 (l.map eA))], []⟩) (fun k => k ≤ l.length ∧ chkL (prevAt l k) (l.drop k) = chkL none l) (fun k => l.length - k) [] 0 ⟨Nat.zero_le _, rfl⟩ ?_ ?_
  · exact ⟨rfl, ⟨sle_i rfl, sle_i rfl, sle_sl rfl, sle_sl rfl, True.intro⟩, .nil⟩
  rintro k ⟨hk, hck⟩
  by_cases hlt : k < l.length
  · have hst := chkL_step l k hlt
    have hlm := hm _ (List.getElem_mem hlt)
    rw [hck] at hst
    generalize chkL none l = R at hst hck ⊢
    rcases k with _ | m
    · have hp : prevAt l 0 = none := rfl
      rw [hp] at hst
      repeat' (first | (refine o_calm rfl TtOk rfl rfl rfl ?_ (fun _ => ?_); exact True.intro; first | rw [vzd] | rw [kzd]) | refine Awp.seq ?_ | refine Awp.block ?_ | refine Awp.region ?_ | (refine Ops.nil ?_; show Awp _ _ _ _ _) | (refine Ops.nil ?_; show Exists _) | (refine Ops.nil ?_; show endK _ _ _ _ _) | (refine Awp.skip ?_; show Awp _ _ _ _ _) | (refine Awp.skip ?_; show endK _ _ _ _ _) | (refine Awp.skip ?_; show Exists _) | (refine Awp.exit ?_; show Awp _ _ _ _ _) | (refine Awp.exit ?_; show Exists _) | (refine Awp.exit ?_; show endK _ _ _ _ _) | (refine Awp.ret ?_; show endK _ _ _ _ _) | refine o_noT rfl rfl rfl ?_ | refine o_noU rfl rfl rfl ?_ | refine o_noF rfl rfl rfl ?_ | (refine o_add rfl rfl rfl rfl ?_ ?_; omega) | (refine o_sub rfl rfl rfl rfl ?_ ?_; omega) | refine o_len rfl TtOk rfl rfl rfl (fun _ => ?_) | refine o_lenOwn rfl TtOk rfl rfl rfl rfl (fun _ => ?_) | (refine o_calm rfl TtOk rfl rfl rfl ?_ (fun _ => ?_); first | exact True.intro | exact ⟨rfl, rfl, rfl, rfl⟩ | exact ⟨rfl, True.intro⟩ | exact ⟨rfl, rfl⟩ | exact ⟨rfl, rfl, rfl⟩ | exact rfl | exact ⟨fun h0 => by cases h0, rfl⟩ | exact (fun h0 => by cases h0) | exact ⟨rfl, by omega⟩ | exact ⟨Nat.succ_ne_zero _, rfl⟩ | omega) | refine o_alloc (d := 4) rfl TtOk rfl rfl rfl (fun b4 => ?_) | refine o_store TtOk rfl rfl rfl rfl rfl rfl rfl ⟨rfl, rfl⟩ rfl rfl rfl rfl rfl ?_ | (refine o_index rfl TtOk rfl rfl rfl rfl rfl rfl ?_ (getq_nat ?_) ?_; omega; omega) | (refine o_indexOwn TtOk rfl rfl rfl rfl rfl rfl rfl rfl _ rfl ?_ (fun bO hbO => ?_); (simp only [List.length_map]; omega)) | (refine o_loadRow TtOk rfl rfl rfl rfl rfl (by assumption) (getq_map (List.getElem?_eq_getElem ?_)) rfl rfl (by first | exact Nat.add_zero _ | rfl) ⟨rfl, rfl⟩ ?_; omega) | (refine o_calm rfl TtOk rfl rfl rfl ?_ (fun _ => ?_); (show List.length _ + List.length _ ≤ 9223372036854775807; (try simp only [List.length_append, List.length_cons, List.length_nil]); omega)) | (refine o_storeRow TtOk rfl rfl rfl rfl rfl rfl (by assumption) (getq_map (List.getElem?_eq_getElem ?_)) rfl rfl (by first | exact Nat.add_zero _ | rfl) ⟨rfl, rfl⟩ rfl rfl ?_; omega) | refine o_eqNil TtOk rfl rfl rfl rfl rfl ?_ | refine o_eqArr8 TtOk rfl rfl rfl rfl rfl rfl (by kernel_rfl) ?_ | (fail_if_success (refine o_isLit rfl (by first | exact .inl rfl | exact .inr rfl) ?_)); (refine o_splitP rfl rfl (fun hc => ?_) (fun hc => ?_) <;> try (exfalso; omega)) | (fail_if_success (refine o_isLit rfl (by first | exact .inl rfl | exact .inr rfl) ?_)); (refine o_splitI rfl rfl (fun hc => ?_) (fun hc => ?_) <;> try (exfalso; omega)) | (fail_if_success (refine o_isLit rfl (by first | exact .inl rfl | exact .inr rfl) ?_)); (refine o_splitN rfl rfl (fun hc => ?_) (fun hc => ?_) <;> try (exfalso; omega)) | (fail_if_success (refine o_isLit rfl (by first | exact .inl rfl | exact .inr rfl) ?_)); (refine o_split rfl rfl (fun hc => ?_) (fun hc => ?_)) | refine a_condT rfl ?_ | refine a_condF rfl ?_ | (refine a_condP rfl (fun hc => ?_) (fun hc => ?_)) <;> (try (exfalso; omega)) | (refine a_condI rfl (fun hc => ?_) (fun hc => ?_)) <;> (try (exfalso; omega)) | (refine a_condN rfl (fun hc => ?_) (fun hc => ?_)) <;> (try (exfalso; omega)) | (refine Awp.cond rfl (fun hc => ?_) (fun hc => ?_)) | refine a_any 12 [] [] [] [0, 1, 2, 3, 4, 5, 6, 7, 9, 8, 10, 11, 12, 13] (by kernel_rfl) (by kernel_rfl) (by kernel_rfl) rfl rfl rfl ?_)
      all_goals first
        | (refine end_tmp rfl rfl rfl [] [] (CLe.of_eq ?_) .nil ⟨rfl, rfl⟩ _ (.inl rfl); rw [chkE_3 (by first | exact .inl (by omega) | exact .inr ⟨by assumption, by omega⟩), if_pos (by decide)] at hst; rw [hst]; rfl)
        | (refine end_tmp rfl rfl rfl [] [] (CLe.of_eq ?_) .nil ⟨rfl, rfl⟩ _ (.inl rfl); rw [chkE_2 (by rintro (h | ⟨h, h'⟩) <;> first | omega | (exact absurd h (by rw [show l[0].g = false by assumption]; decide))) (by omega), if_pos (by decide)] at hst; rw [hst]; rfl)
        | (rw [chkE_n (by rintro (h | ⟨h, h'⟩) <;> first | omega | (exact absurd h (by rw [show l[0].g = false by assumption]; decide))) (by omega), if_neg (by decide)] at hst; exact ⟨0 + 1, [], ⟨by omega, hst.symm⟩, by omega, rfl, ⟨sle_i (by omega), sle_i rfl, sle_sl rfl, sle_sl rfl, True.intro⟩, .nil⟩)
        | skip
    · have hm1 : m < l.length := by omega
      have hp : prevAt l (m + 1) = some l[m].k := by show (l[m]?).map _ = _; rw [List.getElem?_eq_getElem hm1]; rfl
      have hsub : ((m + 1 : Nat) : Int) - 1 = (m : Int) := by omega
      rw [hp] at hst
      repeat' (first | (refine o_sub rfl rfl rfl rfl ?_ ?_; omega; rw [hsub]) | (refine o_calm rfl TtOk rfl rfl rfl ?_ (fun _ => ?_); exact True.intro; first | rw [vzd] | rw [kzd]) | refine Awp.seq ?_ | refine Awp.block ?_ | refine Awp.region ?_ | (refine Ops.nil ?_; show Awp _ _ _ _ _) | (refine Ops.nil ?_; show Exists _) | (refine Ops.nil ?_; show endK _ _ _ _ _) | (refine Awp.skip ?_; show Awp _ _ _ _ _) | (refine Awp.skip ?_; show endK _ _ _ _ _) | (refine Awp.skip ?_; show Exists _) | (refine Awp.exit ?_; show Awp _ _ _ _ _) | (refine Awp.exit ?_; show Exists _) | (refine Awp.exit ?_; show endK _ _ _ _ _) | (refine Awp.ret ?_; show endK _ _ _ _ _) | refine o_noT rfl rfl rfl ?_ | refine o_noU rfl rfl rfl ?_ | refine o_noF rfl rfl rfl ?_ | (refine o_add rfl rfl rfl rfl ?_ ?_; omega) | (refine o_sub rfl rfl rfl rfl ?_ ?_; omega) | refine o_len rfl TtOk rfl rfl rfl (fun _ => ?_) | refine o_lenOwn rfl TtOk rfl rfl rfl rfl (fun _ => ?_) | (refine o_calm rfl TtOk rfl rfl rfl ?_ (fun _ => ?_); first | exact True.intro | exact ⟨rfl, rfl, rfl, rfl⟩ | exact ⟨rfl, True.intro⟩ | exact ⟨rfl, rfl⟩ | exact ⟨rfl, rfl, rfl⟩ | exact rfl | exact ⟨fun h0 => by cases h0, rfl⟩ | exact (fun h0 => by cases h0) | exact ⟨rfl, by omega⟩ | exact ⟨Nat.succ_ne_zero _, rfl⟩ | omega) | refine o_alloc (d := 4) rfl TtOk rfl rfl rfl (fun b4 => ?_) | refine o_store TtOk rfl rfl rfl rfl rfl rfl rfl ⟨rfl, rfl⟩ rfl rfl rfl rfl rfl ?_ | (refine o_index rfl TtOk rfl rfl rfl rfl rfl rfl ?_ (getq_nat ?_) ?_; omega; omega) | (refine o_indexOwn TtOk rfl rfl rfl rfl rfl rfl rfl rfl _ rfl ?_ (fun bO hbO => ?_); (simp only [List.length_map]; omega)) | (refine o_loadRow TtOk rfl rfl rfl rfl rfl (by assumption) (getq_map (List.getElem?_eq_getElem ?_)) rfl rfl (by first | exact Nat.add_zero _ | rfl) ⟨rfl, rfl⟩ ?_; omega) | (refine o_calm rfl TtOk rfl rfl rfl ?_ (fun _ => ?_); (show List.length _ + List.length _ ≤ 9223372036854775807; (try simp only [List.length_append, List.length_cons, List.length_nil]); omega)) | (refine o_storeRow TtOk rfl rfl rfl rfl rfl rfl (by assumption) (getq_map (List.getElem?_eq_getElem ?_)) rfl rfl (by first | exact Nat.add_zero _ | rfl) ⟨rfl, rfl⟩ rfl rfl ?_; omega) | refine o_eqNil TtOk rfl rfl rfl rfl rfl ?_ | refine o_eqArr8 TtOk rfl rfl rfl rfl rfl rfl (by kernel_rfl) ?_ | (fail_if_success (refine o_isLit rfl (by first | exact .inl rfl | exact .inr rfl) ?_)); (refine o_splitP rfl rfl (fun hc => ?_) (fun hc => ?_) <;> try (exfalso; omega)) | (fail_if_success (refine o_isLit rfl (by first | exact .inl rfl | exact .inr rfl) ?_)); (refine o_splitI rfl rfl (fun hc => ?_) (fun hc => ?_) <;> try (exfalso; omega)) | (fail_if_success (refine o_isLit rfl (by first | exact .inl rfl | exact .inr rfl) ?_)); (refine o_splitN rfl rfl (fun hc => ?_) (fun hc => ?_) <;> try (exfalso; omega)) | (fail_if_success (refine o_isLit rfl (by first | exact .inl rfl | exact .inr rfl) ?_)); (refine o_split rfl rfl (fun hc => ?_) (fun hc => ?_)) | refine a_condT rfl ?_ | refine a_condF rfl ?_ | (refine a_condP rfl (fun hc => ?_) (fun hc => ?_)) <;> (try (exfalso; omega)) | (refine a_condI rfl (fun hc => ?_) (fun hc => ?_)) <;> (try (exfalso; omega)) | (refine a_condN rfl (fun hc => ?_) (fun hc => ?_)) <;> (try (exfalso; omega)) | (refine Awp.cond rfl (fun hc => ?_) (fun hc => ?_)) | refine a_any 12 [] [] [] [0, 1, 2, 3, 4, 5, 6, 7, 9, 8, 10, 11, 12, 13] (by kernel_rfl) (by kernel_rfl) (by kernel_rfl) rfl rfl rfl ?_)
      all_goals first
        | (refine end_tmp rfl rfl rfl [] [] (CLe.of_eq ?_) .nil ⟨rfl, rfl⟩ _ (.inl rfl); rw [chkE_3 (by first | exact .inl (by omega) | exact .inr ⟨by assumption, by omega⟩), if_pos (by decide)] at hst; rw [hst]; rfl)
        | (refine end_tmp rfl rfl rfl [] [] (CLe.of_eq ?_) .nil ⟨rfl, rfl⟩ _ (.inl rfl); rw [chkE_2 (by rintro (h | ⟨h, h'⟩) <;> first | omega | (exact absurd h (by rw [show l[m + 1].g = false by assumption]; decide))) (by omega), if_pos (by decide)] at hst; rw [hst]; rfl)
        | (rw [chkE_s (by rintro (h | ⟨h, h'⟩) <;> first | omega | (exact absurd h (by rw [show l[m + 1].g = false by assumption]; decide))) (by omega), if_pos (show Op.bytesLess _ _ = true by simpa using hc), if_neg (by decide)] at hst; exact ⟨m + 1 + 1, [], ⟨by omega, hst.symm⟩, by omega, rfl, ⟨sle_i (by omega), sle_i rfl, sle_sl rfl, sle_sl rfl, True.intro⟩, .nil⟩)
        | (refine end_tmp rfl rfl rfl [] [] (CLe.of_eq ?_) .nil ⟨rfl, rfl⟩ _ (.inl rfl); rw [chkE_s (by rintro (h | ⟨h, h'⟩) <;> first | omega | (exact absurd h (by rw [show l[m + 1].g = false by assumption]; decide))) (by omega), if_neg (show ¬ Op.bytesLess _ _ = true by simpa using hc), if_pos (by decide)] at hst; rw [hst]; rfl)
        | skip
  · have hkl : k = l.length := by omega
    have h0 : chkL none l = 0 := by rw [← hck, hkl, List.drop_length]; rfl
    rw [h0]
    repeat' (first | refine Awp.seq ?_ | refine Awp.block ?_ | refine Awp.region ?_ | (refine Ops.nil ?_; show Awp _ _ _ _ _) | (refine Ops.nil ?_; show Exists _) | (refine Ops.nil ?_; show endK _ _ _ _ _) | (refine Awp.skip ?_; show Awp _ _ _ _ _) | (refine Awp.skip ?_; show endK _ _ _ _ _) | (refine Awp.skip ?_; show Exists _) | (refine Awp.exit ?_; show Awp _ _ _ _ _) | (refine Awp.exit ?_; show Exists _) | (refine Awp.exit ?_; show endK _ _ _ _ _) | (refine Awp.ret ?_; show endK _ _ _ _ _) | refine o_offT rfl rfl rfl (by first | exact .inl rfl | exact .inr rfl) ?_ | refine o_offU rfl rfl rfl (by first | exact .inl rfl | exact .inr rfl) ?_ | refine o_offF rfl rfl rfl (by first | exact .inl rfl | exact .inr rfl) ?_ | (refine o_add rfl rfl rfl rfl ?_ ?_; omega) | (refine o_sub rfl rfl rfl rfl ?_ ?_; omega) | refine o_len rfl TtOk rfl rfl rfl (fun _ => ?_) | refine o_lenOwn rfl TtOk rfl rfl rfl rfl (fun _ => ?_) | (refine o_calm rfl TtOk rfl rfl rfl ?_ (fun _ => ?_); first | exact True.intro | exact ⟨rfl, rfl, rfl, rfl⟩ | exact ⟨rfl, True.intro⟩ | exact ⟨rfl, rfl⟩ | exact ⟨rfl, rfl, rfl⟩ | exact rfl | exact ⟨fun h0 => by cases h0, rfl⟩ | exact (fun h0 => by cases h0) | exact ⟨rfl, by omega⟩ | exact ⟨Nat.succ_ne_zero _, rfl⟩ | omega) | refine o_alloc rfl TtOk rfl rfl rfl (fun bA => ?_) | refine o_store TtOk rfl rfl rfl rfl rfl rfl rfl ⟨rfl, rfl⟩ rfl rfl rfl rfl rfl ?_ | (refine o_index rfl TtOk rfl rfl rfl rfl rfl rfl ?_ (getq_nat ?_) ?_; omega; omega) | (refine o_indexOwn TtOk rfl rfl rfl rfl rfl rfl rfl rfl _ rfl ?_ (fun bO hbO => ?_); (simp only [List.length_map]; omega)) | (refine o_loadRow TtOk rfl rfl rfl rfl rfl (by assumption) (getq_map (List.getElem?_eq_getElem ?_)) rfl rfl (by first | exact Nat.add_zero _ | rfl) ⟨rfl, rfl⟩ ?_; omega) | (refine o_calm rfl TtOk rfl rfl rfl ?_ (fun _ => ?_); (show List.length _ + List.length _ ≤ 9223372036854775807; (try simp only [List.length_append, List.length_cons, List.length_nil]); omega)) | (refine o_storeRow TtOk rfl rfl rfl rfl rfl rfl (by assumption) (getq_map (List.getElem?_eq_getElem ?_)) rfl rfl (by first | exact Nat.add_zero _ | rfl) ⟨rfl, rfl⟩ rfl rfl ?_; omega) | refine o_eqNil TtOk rfl rfl rfl rfl rfl ?_ | refine o_eqArr8 TtOk rfl rfl rfl rfl rfl rfl (by kernel_rfl) ?_ | (fail_if_success (refine o_isLit rfl (by first | exact .inl rfl | exact .inr rfl) ?_)); (refine o_splitP rfl rfl (fun hc => ?_) (fun hc => ?_) <;> try (exfalso; omega)) | (fail_if_success (refine o_isLit rfl (by first | exact .inl rfl | exact .inr rfl) ?_)); (refine o_splitI rfl rfl (fun hc => ?_) (fun hc => ?_) <;> try (exfalso; omega)) | (fail_if_success (refine o_isLit rfl (by first | exact .inl rfl | exact .inr rfl) ?_)); (refine o_splitN rfl rfl (fun hc => ?_) (fun hc => ?_) <;> try (exfalso; omega)) | (fail_if_success (refine o_isLit rfl (by first | exact .inl rfl | exact .inr rfl) ?_)); (refine o_split rfl rfl (fun hc => ?_) (fun hc => ?_)) | refine a_condT rfl ?_ | refine a_condF rfl ?_ | (refine a_condP rfl (fun hc => ?_) (fun hc => ?_)) <;> (try (exfalso; omega)) | (refine a_condI rfl (fun hc => ?_) (fun hc => ?_)) <;> (try (exfalso; omega)) | (refine a_condN rfl (fun hc => ?_) (fun hc => ?_)) <;> (try (exfalso; omega)) | (refine Awp.cond rfl (fun hc => ?_) (fun hc => ?_)) | refine a_any 12 [] [] [] [0, 1, 2, 3, 4, 5, 6, 7, 9, 8, 10, 11, 12, 13] (by kernel_rfl) (by kernel_rfl) (by kernel_rfl) rfl rfl rfl ?_)
    exact end_tmp rfl rfl rfl [] [] (CLe.of_eq rfl) .nil ⟨rfl, rfl⟩ _ (.inl rfl)
end Go.Proofs.Ytdpljpnnjgefoaa
set_option maxHeartbeats 4000000
namespace Go.Proofs.Ytdpljpnnjgefoaa
open Go Go.RowKit
theorem uwrap_nat (n : Nat) : IntKind.u64.wrap (n : Int) = ((n % 18446744073709551616 : Nat) : Int) := by rw [Int.natCast_emod]; rfl
theorem uwrap_lt {n : Nat} (h : n < 18446744073709551616) : IntKind.u64.wrap (n : Int) = (n : Int) := by rw [uwrap_nat, Nat.mod_eq_of_lt h]
theorem bwrap_nat (n : Nat) : IntKind.u8.wrap (n : Int) = ((n % 256 : Nat) : Int) := by rw [Int.natCast_emod]; rfl
theorem iwrap_lt {n : Nat} (h : n < 9223372036854775808) : IntKind.i64.wrap (n : Int) = (n : Int) := by
  show (if _ then _ else _) = _
  have h1 : (n : Int) % (2 ^ IntKind.i64.bits : Int) = n := Int.emod_eq_of_lt (by omega) (by show (n : Int) < 18446744073709551616; omega)
  simp only [h1]
  rw [if_neg]
  rw [Bool.and_eq_true]
  rintro ⟨_, h2⟩
  rw [decide_eq_true_eq] at h2
  have : (9223372036854775808 : Int) ≤ n := h2
  omega
theorem ofInt_nat (w n : Nat) : BitVec.ofInt w (n : Int) = BitVec.ofNat w n := BitVec.ofInt_natCast w n
theorem xor64 {x y : Nat} (hx : x < 18446744073709551616) (hy : y < 18446744073709551616) : bitsI .xor .u64 (x : Int) (y : Int) = ((x ^^^ y : Nat) : Int) := by
  have hl : x ^^^ y < 18446744073709551616 := Nat.xor_lt_two_pow (n := 64) hx hy
  show IntKind.u64.wrap _ = _
  rw [ofInt_nat, ofInt_nat, BitVec.toNat_xor, BitVec.toNat_ofNat, BitVec.toNat_ofNat, show (2 ^ IntKind.u64.bits : Nat) = 18446744073709551616 from rfl, Nat.mod_eq_of_lt hx, Nat.mod_eq_of_lt hy, uwrap_lt hl]
theorem or64 {x y : Nat} (hx : x < 18446744073709551616) (hy : y < 18446744073709551616) : bitsI .or .u64 (x : Int) (y : Int) = ((x ||| y : Nat) : Int) := by
  have hl : x ||| y < 18446744073709551616 := Nat.or_lt_two_pow (n := 64) hx hy
  show IntKind.u64.wrap _ = _
  rw [ofInt_nat, ofInt_nat, BitVec.toNat_or, BitVec.toNat_ofNat, BitVec.toNat_ofNat, show (2 ^ IntKind.u64.bits : Nat) = 18446744073709551616 from rfl, Nat.mod_eq_of_lt hx, Nat.mod_eq_of_lt hy, uwrap_lt hl]
theorem or8 {x y : Nat} (hx : x < 256) (hy : y < 256) : bitsI .or .u8 (x : Int) (y : Int) = ((x ||| y : Nat) : Int) := by
  have hl : x ||| y < 256 := Nat.or_lt_two_pow (n := 8) hx hy
  show IntKind.u8.wrap _ = _
  rw [ofInt_nat, ofInt_nat, BitVec.toNat_or, BitVec.toNat_ofNat, BitVec.toNat_ofNat, show (2 ^ IntKind.u8.bits : Nat) = 256 from rfl, Nat.mod_eq_of_lt hx, Nat.mod_eq_of_lt hy, bwrap_nat, Nat.mod_eq_of_lt hl]
theorem and8 {x y : Nat} (hx : x < 256) (hy : y < 256) : bitsI .and .u8 (x : Int) (y : Int) = ((x &&& y : Nat) : Int) := by
  have hl : x &&& y < 256 := Nat.lt_of_le_of_lt Nat.and_le_left hx
  show IntKind.u8.wrap _ = _
  rw [ofInt_nat, ofInt_nat, BitVec.toNat_and, BitVec.toNat_ofNat, BitVec.toNat_ofNat, show (2 ^ IntKind.u8.bits : Nat) = 256 from rfl, Nat.mod_eq_of_lt hx, Nat.mod_eq_of_lt hy, bwrap_nat, Nat.mod_eq_of_lt hl]
theorem fdiv_pow (n k : Nat) : (n : Int).fdiv (2 ^ k) = ((n / 2 ^ k : Nat) : Int) := by
  rw [show (2 : Int) ^ k = ((2 ^ k : Nat) : Int) by rw [Int.natCast_pow]; rfl, Int.ofNat_fdiv]
theorem shr64 (n : Nat) {k : Nat} (hk : k ≤ 64) : (n : Int).fdiv (2 ^ (min ((k : Int)).toNat (IntKind.bits .u64))) = ((n / 2 ^ k : Nat) : Int) := by
  rw [show min ((k : Int)).toNat (IntKind.bits .u64) = k by rw [show IntKind.bits .u64 = 64 from rfl]; omega, fdiv_pow]
theorem wrapmid (i j : Nat) (h : i + j < 1000000) : IntKind.i64.wrap ((IntKind.u64.wrap ((i : Int) + j)).fdiv (2 ^ (min (Int.toNat 1) (IntKind.bits .u64)))) = (((i + j) / 2 : Nat) : Int) := by
  have e1 : IntKind.u64.wrap ((i : Int) + j) = ((i + j : Nat) : Int) := by
    rw [IntWalk.u64_in _ (by omega)]; omega
  have e2 := shr64 (i + j) (k := 1) (by decide)
  rw [e1, show (Int.toNat 1) = ((1 : Nat) : Int).toNat from rfl, e2, wrap64 _ (by omega)]
end Go.Proofs.Ytdpljpnnjgefoaa
set_option maxHeartbeats 4000000
namespace Go.Proofs.Ytdpljpnnjgefoaa
open Go Go.RowKit
def crcStep (c : Nat) : Nat := (c / 2) ^^^ (if c % 2 = 1 then 3988292384 else 0)
def crcN : Nat → Nat → Nat
  | 0, c => c
  | k + 1, c => crcN k (crcStep c)
theorem crcN_succ : ∀ (k c : Nat), crcN (k + 1) c = crcStep (crcN k c)
  | 0, _ => rfl
  | k + 1, c => crcN_succ k (crcStep c)
theorem crcStep_lt {c : Nat} (h : c < 4294967296) : crcStep c < 4294967296 := by
  unfold crcStep
  exact Nat.xor_lt_two_pow (n := 32) (by omega) (by split <;> decide)
theorem crcN_lt : ∀ (k : Nat) {c : Nat}, c < 4294967296 → crcN k c < 4294967296
  | 0, _, h => h
  | k + 1, _, h => crcN_lt k (crcStep_lt h)
theorem xor_half (x y : Nat) : (x ^^^ y) / 2 = (x / 2) ^^^ (y / 2) := by
  apply Nat.eq_of_testBit_eq
  intro i
  rw [Nat.testBit_xor, ← Nat.testBit_succ, ← Nat.testBit_succ, ← Nat.testBit_succ, Nat.testBit_xor]
theorem xor_par (x y : Nat) : (x ^^^ y) % 2 = (x % 2 + y % 2) % 2 := by
  have h := Nat.testBit_xor x y 0
  simp only [Nat.testBit_zero] at h
  rcases Nat.mod_two_eq_zero_or_one x with h1 | h1 <;> rcases Nat.mod_two_eq_zero_or_one y with h2 | h2 <;> rcases Nat.mod_two_eq_zero_or_one (x ^^^ y) with h3 | h3 <;> rw [h1, h2, h3] at h <;> rw [h1, h2, h3] <;> simp at h
theorem crcStep_xor (x y : Nat) : crcStep (x ^^^ y) = crcStep x ^^^ crcStep y := by
  unfold crcStep
  rw [xor_half, xor_par]
  have e : ∀ a b c d : Nat, (a ^^^ b) ^^^ (c ^^^ d) = (a ^^^ c) ^^^ (b ^^^ d) := fun a b c d => by
    rw [Nat.xor_assoc, Nat.xor_assoc, ← Nat.xor_assoc b c d, Nat.xor_comm b c, Nat.xor_assoc c b d]
  rw [e (x / 2) _ (y / 2) _]
  congr 1
  rcases Nat.mod_two_eq_zero_or_one x with h1 | h1 <;> rcases Nat.mod_two_eq_zero_or_one y with h2 | h2 <;> rw [h1, h2] <;> decide
theorem crcN_xor : ∀ (k x y : Nat), crcN k (x ^^^ y) = crcN k x ^^^ crcN k y
  | 0, _, _ => rfl
  | k + 1, x, y => by show crcN k (crcStep (x ^^^ y)) = crcN k (crcStep x) ^^^ crcN k (crcStep y); rw [crcStep_xor, crcN_xor k]
theorem crcStep_even (z : Nat) : crcStep (2 * z) = z := by
  unfold crcStep
  rw [if_neg (by omega), Nat.xor_zero]; omega
theorem crc8_shift (z : Nat) : crcN 8 (256 * z) = z := by
  have h : ∀ (k z : Nat), crcN k (2 ^ k * z) = z := by
    intro k
    induction k with
    | zero => intro z; simp [crcN]
    | succ k ih =>
      intro z
      show crcN k (crcStep (2 ^ (k + 1) * z)) = z
      rw [Nat.pow_succ, Nat.mul_comm (2 ^ k) 2, Nat.mul_assoc, crcStep_even, ih]
  exact h 8 z
theorem split_xor (x : Nat) : x = (x % 256) ^^^ (256 * (x / 256)) := by
  apply Nat.eq_of_testBit_eq
  intro i
  rw [Nat.testBit_xor, show (256 : Nat) = 2 ^ 8 from rfl, Nat.testBit_mod_two_pow, Nat.testBit_two_pow_mul, Nat.testBit_div_two_pow]
  by_cases h : i < 8
  · simp [h, show ¬ 8 ≤ i by omega]
  · simp [h, show 8 ≤ i by omega, Nat.sub_add_cancel (show 8 ≤ i by omega)]
theorem crc8_split (x : Nat) : crcN 8 x = crcN 8 (x % 256) ^^^ (x / 256) := by
  conv => lhs; rw [split_xor x, crcN_xor, crc8_shift]
/-- A byte's step: the table's way. -/
def crcByte (c : Nat) (b : UInt8) : Nat := crcN 8 (c ^^^ b.toNat)
theorem crcByte_lt {c : Nat} (h : c < 4294967296) (b : UInt8) : crcByte c b < 4294967296 := crcN_lt 8 (Nat.xor_lt_two_pow (n := 32) h (Nat.lt_trans b.toNat_lt (by decide)))
theorem crcByte_table (c : Nat) (b : UInt8) : crcN 8 ((c % 256) ^^^ b.toNat) ^^^ (c / 256) = crcByte c b := by
  unfold crcByte
  rw [crc8_split (c ^^^ b.toNat)]
  have hb := b.toNat_lt
  have e1 : (c ^^^ b.toNat) % 256 = (c % 256) ^^^ b.toNat := by
    apply Nat.eq_of_testBit_eq
    intro i
    rw [show (256 : Nat) = 2 ^ 8 from rfl, Nat.testBit_mod_two_pow, Nat.testBit_xor, Nat.testBit_xor, Nat.testBit_mod_two_pow]
    by_cases h : i < 8
    · simp [h]
    · have : b.toNat.testBit i = false := Nat.testBit_lt_two_pow (Nat.lt_of_lt_of_le hb (show 2 ^ 8 ≤ 2 ^ _ from Nat.pow_le_pow_right (by decide) (by omega)))
      simp [h, this]
  have e2 : (c ^^^ b.toNat) / 256 = c / 256 := by
    apply Nat.eq_of_testBit_eq
    intro i
    rw [show (256 : Nat) = 2 ^ 8 from rfl, Nat.testBit_div_two_pow, Nat.testBit_xor, Nat.testBit_div_two_pow]
    have : b.toNat.testBit (i + 8) = false := Nat.testBit_lt_two_pow (Nat.lt_of_lt_of_le hb (show 2 ^ 8 ≤ 2 ^ _ from Nat.pow_le_pow_right (by decide) (by omega)))
    rw [this, Bool.xor_false]
  rw [e1, e2]
/-- The document's way: bit k of the byte is taken in at step k. -/
def crcBits (b : Nat) : Nat → Nat → Nat
  | 0, c => c
  | k + 1, c => (crcBits b k c / 2) ^^^ (if (crcBits b k c ^^^ (b / 2 ^ k)) % 2 = 1 then 3988292384 else 0)
def crcLoop (s : List UInt8) : Nat := s.foldl crcByte 4294967295
theorem crcLoop_succ (s : List UInt8) (k : Nat) (h : k < s.length) : crcLoop (s.take (k + 1)) = crcByte (crcLoop (s.take k)) (s[k]'h) := by
  unfold crcLoop; rw [List.take_succ_eq_append_getElem h, List.foldl_append, List.foldl_cons, List.foldl_nil]
theorem crcLoop_lt (s : List UInt8) : crcLoop s < 4294967296 := by
  unfold crcLoop
  have : ∀ (s : List UInt8) (h : Nat), h < 4294967296 → s.foldl crcByte h < 4294967296 := by
    intro s
    induction s with
    | nil => intro h hh; exact hh
    | cons c s ih => intro h hh; exact ih _ (crcByte_lt hh c)
  exact this s _ (by decide)
def crc (s : List UInt8) : Nat := 4294967295 - crcLoop s
theorem crc_lt (s : List UInt8) : crc s < 4294967296 := by unfold crc; omega
/-- Four bytes. -/
def four (x : Nat) : List UInt8 := [UInt8.ofNat (x / 16777216), UInt8.ofNat (x / 65536), UInt8.ofNat (x / 256), UInt8.ofNat x]
def sealHead (n : Nat) : List UInt8 := [94, UInt8.ofNat (n / 65536), UInt8.ofNat (n / 256), UInt8.ofNat n]
def sealWrap (s : List UInt8) : List UInt8 := sealHead s.length ++ four (crc (sealHead s.length ++ s)) ++ s
theorem uwrap32 (n : Nat) : IntKind.u32.wrap (n : Int) = ((n % 4294967296 : Nat) : Int) := by rw [Int.natCast_emod]; rfl
theorem uwrap32_lt {n : Nat} (h : n < 4294967296) : IntKind.u32.wrap (n : Int) = (n : Int) := by rw [uwrap32, Nat.mod_eq_of_lt h]
theorem xor32 {x y : Nat} (hx : x < 4294967296) (hy : y < 4294967296) : bitsI .xor .u32 (x : Int) (y : Int) = ((x ^^^ y : Nat) : Int) := by
  have hl : x ^^^ y < 4294967296 := Nat.xor_lt_two_pow (n := 32) hx hy
  show IntKind.u32.wrap _ = _
  rw [ofInt_nat, ofInt_nat, BitVec.toNat_xor, BitVec.toNat_ofNat, BitVec.toNat_ofNat, show (2 ^ IntKind.u32.bits : Nat) = 4294967296 from rfl, Nat.mod_eq_of_lt hx, Nat.mod_eq_of_lt hy, uwrap32_lt hl]
theorem and32 {x y : Nat} (hx : x < 4294967296) (hy : y < 4294967296) : bitsI .and .u32 (x : Int) (y : Int) = ((x &&& y : Nat) : Int) := by
  have hl : x &&& y < 4294967296 := Nat.lt_of_le_of_lt Nat.and_le_left hx
  show IntKind.u32.wrap _ = _
  rw [ofInt_nat, ofInt_nat, BitVec.toNat_and, BitVec.toNat_ofNat, BitVec.toNat_ofNat, show (2 ^ IntKind.u32.bits : Nat) = 4294967296 from rfl, Nat.mod_eq_of_lt hx, Nat.mod_eq_of_lt hy, uwrap32_lt hl]
theorem or32 {x y : Nat} (hx : x < 4294967296) (hy : y < 4294967296) : bitsI .or .u32 (x : Int) (y : Int) = ((x ||| y : Nat) : Int) := by
  have hl : x ||| y < 4294967296 := Nat.or_lt_two_pow (n := 32) hx hy
  show IntKind.u32.wrap _ = _
  rw [ofInt_nat, ofInt_nat, BitVec.toNat_or, BitVec.toNat_ofNat, BitVec.toNat_ofNat, show (2 ^ IntKind.u32.bits : Nat) = 4294967296 from rfl, Nat.mod_eq_of_lt hx, Nat.mod_eq_of_lt hy, uwrap32_lt hl]
theorem xor8 {x y : Nat} (hx : x < 256) (hy : y < 256) : bitsI .xor .u8 (x : Int) (y : Int) = ((x ^^^ y : Nat) : Int) := by
  have hl : x ^^^ y < 256 := Nat.xor_lt_two_pow (n := 8) hx hy
  show IntKind.u8.wrap _ = _
  rw [ofInt_nat, ofInt_nat, BitVec.toNat_xor, BitVec.toNat_ofNat, BitVec.toNat_ofNat, show (2 ^ IntKind.u8.bits : Nat) = 256 from rfl, Nat.mod_eq_of_lt hx, Nat.mod_eq_of_lt hy, bwrap_nat, Nat.mod_eq_of_lt hl]
theorem shr32 (n : Nat) {k : Nat} (hk : k ≤ 32) : (n : Int).fdiv (2 ^ (min ((k : Int)).toNat (IntKind.bits .u32))) = ((n / 2 ^ k : Nat) : Int) := by
  rw [show min ((k : Int)).toNat (IntKind.bits .u32) = k by rw [show IntKind.bits .u32 = 32 from rfl]; omega, fdiv_pow]
end Go.Proofs.Ytdpljpnnjgefoaa
set_option maxHeartbeats 4000000
set_option maxRecDepth 100000
namespace Go.Proofs.Ytdpljpnnjgefoaa
open Go Go.RowKit
section
variable {m : OM} {P : Program} {T : List (Nat × TI)} {C : Ctx} {ops : Array Oper} {l : List Oper} {K : St → Prop} {n : Nat} {sl : List (Nat × AV)} {hp : List (Nat × HO)} {d : Nat} {ty : Nat} {pos : String} {aft : Array Edge} {gd : Option (Nat × Bool)}
/-- A load of an element of an array variable. -/
theorem o_loadArr (hT : TTOk P T) (hw : gval ops ⟨n, sl, hp⟩ gd = gwant gd) {t : Nat} {x : Operand} {key b off j sz mlen : Nat} {xs : List AV} {y : AV} {ti : TI}
    (hx : ev ⟨n, sl, hp⟩ x = .ptr key b [j] off) (ht : tget T t = some ti) (hg : hget hp key = some (.var b (.arr sz mlen xs))) (ho : j * sz = off) (hj : xs[j]? = some y) (hf : fits ti y) (hm : m.okc (some d) (some (some key)) = true) (hd : Nat.blt d n = true)
    (h : Ops m P C ops l ⟨n, (d, y) :: sl, hp⟩ K) : Ops m P C ops (⟨some d, .load t x, ty, pos, aft, gd⟩ :: l) ⟨n, sl, hp⟩ K := by
  refine Ops.calm hT hw (need := b = b ∧ j * sz + 0 = off ∧ fits ti y) (gain := True) (rd := some (some key)) (x := y) ?_ hm hd ⟨rfl, ho, hf⟩ (fun _ => h)
  simp [cv, cvLoad, hx, ht, hg, subAt, hj]
end
def u32A (x : Nat) : AV := .i .u32 x
def tab (i : Nat) : List Nat := (List.range 256).map (fun j => if j < i then crcN 8 j else 0)
theorem tab_len (i : Nat) : (tab i).length = 256 := by simp [tab]
theorem tab_zero : (tab 0).map u32A = List.replicate 256 (.i .u32 0) := by
  unfold tab
  rw [List.map_map]
  exact List.eq_replicate_iff.2 ⟨by simp, fun b hb => by
    obtain ⟨j, _, rfl⟩ := List.mem_map.1 hb
    simp [u32A]⟩
theorem tab_get {i j : Nat} (h : j < 256) : (tab i)[j]? = some (if j < i then crcN 8 j else 0) := by
  unfold tab; rw [List.getElem?_map, List.getElem?_range h]; rfl
theorem tab_set {i : Nat} (h : i < 256) : (tab i).set i (crcN 8 i) = tab (i + 1) := by
  apply List.ext_getElem?
  intro j
  rw [List.getElem?_set, tab_len]
  by_cases hij : i = j
  · subst hij
    rw [if_pos rfl, if_pos h, tab_get h, if_pos (by omega)]
  · rw [if_neg hij]
    by_cases hj : j < 256
    · rw [tab_get hj, tab_get hj]
      by_cases h1 : j < i
      · rw [if_pos h1, if_pos (by omega)]
      · rw [if_neg h1, if_neg (by omega)]
    · rw [List.getElem?_eq_none (by rw [tab_len]; omega), List.getElem?_eq_none (by rw [tab_len]; omega)]
theorem tab_full {j : Nat} (h : j < 256) : ((tab 256).map u32A)[j]? = some (u32A (crcN 8 j)) := by
  rw [List.getElem?_map, tab_get h, if_pos h, Option.map_some]
theorem shr1 (c : Nat) : (c : Int).fdiv (2 ^ (min (Int.toNat 1) (IntKind.bits .u32))) = ((c / 2 : Nat) : Int) := shr32 c (k := 1) (by decide)
theorem step_eq {c : Nat} (h : c < 4294967296) : bitsI .xor .u32 ((c : Int).fdiv (2 ^ (min (Int.toNat 1) (IntKind.bits .u32)))) (bitsI .and .u32 3988292384 (IntKind.u32.wrap (0 - bitsI .and .u32 (c : Int) 1))) = (crcStep c : Nat) := by
  rw [shr1, show (1 : Int) = ((1 : Nat) : Int) from rfl, and32 h (by decide), Nat.and_one_is_mod]
  unfold crcStep
  rcases Nat.mod_two_eq_zero_or_one c with h1 | h1
  · rw [h1, if_neg (by decide), show bitsI .and .u32 3988292384 (IntKind.u32.wrap (0 - ((0 : Nat) : Int))) = ((0 : Nat) : Int) by decide, xor32 (by omega) (by decide)]
  · rw [h1, if_pos rfl, show bitsI .and .u32 3988292384 (IntKind.u32.wrap (0 - ((1 : Nat) : Int))) = ((3988292384 : Nat) : Int) by decide, xor32 (by omega) (by decide)]
theorem table_spec : Spec Try.prog 67 [] [] (fun v os => v = .arr 1 256 ((tab 256).map u32A) ∧ os = []) := by
  refine spec_of TtOk [] Try.func67 rfl Try.ntmps67 (by kernel_rfl) rfl rfl (fun C => ?_) rfl
  repeat' (first | refine Awp.seq ?_ | refine Awp.block ?_ | refine Awp.region ?_ | (refine Ops.nil ?_; show Awp _ _ _ _ _) | (refine Ops.nil ?_; show Exists _) | (refine Ops.nil ?_; show endK _ _ _ _ _) | (refine Awp.skip ?_; show Awp _ _ _ _ _) | (refine Awp.skip ?_; show endK _ _ _ _ _) | (refine Awp.skip ?_; show Exists _) | (refine Awp.exit ?_; show Awp _ _ _ _ _) | (refine Awp.exit ?_; show Exists _) | (refine Awp.exit ?_; show endK _ _ _ _ _) | (refine Awp.ret ?_; show endK _ _ _ _ _) | (refine o_add rfl rfl rfl rfl ?_ ?_; omega) | refine o_convB rfl TtOk rfl rfl rfl rfl ?_ | (refine o_conv64 rfl TtOk rfl rfl rfl rfl ?_ ?_; omega) | (refine o_calm rfl TtOk rfl rfl rfl ?_ (fun _ => ?_); first | exact True.intro | exact ⟨rfl, rfl, rfl, rfl⟩ | exact ⟨rfl, True.intro⟩ | exact ⟨rfl, rfl⟩ | exact ⟨rfl, rfl, rfl⟩ | exact rfl | exact ⟨fun h0 => by cases h0, rfl⟩ | exact (fun h0 => by cases h0) | exact ⟨rfl, by omega⟩ | exact ⟨Nat.succ_ne_zero _, rfl⟩ | omega) | refine o_alloc (d := 0) rfl TtOk rfl rfl rfl (fun b0 => ?_) | refine o_alloc (d := 1) rfl TtOk rfl rfl rfl (fun b1 => ?_) | refine o_store TtOk rfl rfl rfl rfl rfl rfl rfl ⟨rfl, rfl⟩ rfl rfl rfl rfl rfl ?_ | (refine o_index rfl TtOk rfl rfl rfl rfl rfl rfl ?_ (getq_nat ?_) ?_; omega; omega) | (refine o_indexOwn TtOk rfl rfl rfl rfl rfl rfl rfl rfl _ rfl ?_ (fun bO hbO => ?_); (simp only [List.length_map]; omega)) | (refine o_loadRow TtOk rfl rfl rfl rfl rfl (by assumption) (getq_map (List.getElem?_eq_getElem ?_)) rfl rfl (by first | exact Nat.add_zero _ | rfl) ⟨rfl, rfl⟩ ?_; omega) | (refine o_calm rfl TtOk rfl rfl rfl ?_ (fun _ => ?_); (show List.length _ + List.length _ ≤ 9223372036854775807; (try simp only [List.length_append, List.length_cons, List.length_nil]); omega)) | (refine o_storeRow TtOk rfl rfl rfl rfl rfl rfl (by assumption) (getq_map (List.getElem?_eq_getElem ?_)) rfl rfl (by first | exact Nat.add_zero _ | rfl) ⟨rfl, rfl⟩ rfl rfl ?_; omega) | refine o_toBytes TtOk rfl rfl rfl rfl rfl rfl ?_ | refine a_condT rfl ?_ | refine a_condF rfl ?_ | (refine a_condP rfl (fun hc => ?_) (fun hc => ?_)) <;> (try (exfalso; omega)) | (refine a_condI rfl (fun hc => ?_) (fun hc => ?_)) <;> (try (exfalso; omega)) | (refine a_condN rfl (fun hc => ?_) (fun hc => ?_)) <;> (try (exfalso; omega)) | (refine Awp.cond rfl (fun hc => ?_) (fun hc => ?_)) | refine o_toString TtOk rfl rfl rfl rfl rfl (by first | exact True.intro | exact rfl) rfl rfl rfl rfl ?_)
  refine Awp.loop (fun i : Nat => ⟨24, [(4, .i .i64 i), (1, .ptr 1 b1 [] 0), (0, .ptr 0 b0 [] 0)], [(1, .var b1 (.arr 1 256 ((tab i).map u32A))), (0, .var b0 (.arr 1 256 (List.replicate 256 (.i .u32 0))))]⟩) (fun i => i ≤ 256) (fun i => 256 - i) [] 0 (Nat.zero_le _) ?_ ?_
  · exact ⟨rfl, ⟨sle_i rfl, sle_ptr, sle_ptr, True.intro⟩, HLe.cons 1 rfl (HOLe.var (CLe.of_eq (by rw [tab_zero]))) (HLe.cons 0 rfl (HOLe.refl _) .nil)⟩
  intro i hi
  by_cases hlt : i < 256
  · have hst := tab_set hlt
    have hil : ((tab i).map u32A).length = 256 := by rw [List.length_map, tab_len]
    have hmap : ((tab i).map u32A).set i (u32A (crcN 8 i)) = (tab (i + 1)).map u32A := by rw [← List.map_set, hst]
    have hxi : ((tab i).map u32A)[i]? = some (u32A 0) := by rw [List.getElem?_map, tab_get hlt, if_neg (by omega), Option.map_some]
    generalize (tab i).map u32A = xs at hil hmap hxi ⊢
    repeat' (first | refine Awp.seq ?_ | refine Awp.block ?_ | refine Awp.region ?_ | (refine Ops.nil ?_; show Awp _ _ _ _ _) | (refine Ops.nil ?_; show Exists _) | (refine Ops.nil ?_; show endK _ _ _ _ _) | (refine Awp.skip ?_; show Awp _ _ _ _ _) | (refine Awp.skip ?_; show endK _ _ _ _ _) | (refine Awp.skip ?_; show Exists _) | (refine Awp.exit ?_; show Awp _ _ _ _ _) | (refine Awp.exit ?_; show Exists _) | (refine Awp.exit ?_; show endK _ _ _ _ _) | (refine Awp.ret ?_; show endK _ _ _ _ _) | (refine o_add rfl rfl rfl rfl ?_ ?_; omega) | refine o_convB rfl TtOk rfl rfl rfl rfl ?_ | (refine o_conv64 rfl TtOk rfl rfl rfl rfl ?_ ?_; omega) | (refine o_calm rfl TtOk rfl rfl rfl ?_ (fun _ => ?_); first | exact True.intro | exact ⟨rfl, rfl, rfl, rfl⟩ | exact ⟨rfl, True.intro⟩ | exact ⟨rfl, rfl⟩ | exact ⟨rfl, rfl, rfl⟩ | exact rfl | exact ⟨fun h0 => by cases h0, rfl⟩ | exact (fun h0 => by cases h0) | exact ⟨rfl, by omega⟩ | exact ⟨Nat.succ_ne_zero _, rfl⟩ | omega) | refine o_alloc (d := 0) rfl TtOk rfl rfl rfl (fun b0 => ?_) | refine o_alloc (d := 1) rfl TtOk rfl rfl rfl (fun b1 => ?_) | refine o_store TtOk rfl rfl rfl rfl rfl rfl rfl ⟨rfl, rfl⟩ rfl rfl rfl rfl rfl ?_ | (refine o_index rfl TtOk rfl rfl rfl rfl rfl rfl ?_ (getq_nat ?_) ?_; omega; omega) | (refine o_indexOwn TtOk rfl rfl rfl rfl rfl rfl rfl rfl _ rfl ?_ (fun bO hbO => ?_); (simp only [List.length_map]; omega)) | (refine o_loadRow TtOk rfl rfl rfl rfl rfl (by assumption) (getq_map (List.getElem?_eq_getElem ?_)) rfl rfl (by first | exact Nat.add_zero _ | rfl) ⟨rfl, rfl⟩ ?_; omega) | (refine o_calm rfl TtOk rfl rfl rfl ?_ (fun _ => ?_); (show List.length _ + List.length _ ≤ 9223372036854775807; (try simp only [List.length_append, List.length_cons, List.length_nil]); omega)) | (refine o_storeRow TtOk rfl rfl rfl rfl rfl rfl (by assumption) (getq_map (List.getElem?_eq_getElem ?_)) rfl rfl (by first | exact Nat.add_zero _ | rfl) ⟨rfl, rfl⟩ rfl rfl ?_; omega) | refine o_toBytes TtOk rfl rfl rfl rfl rfl rfl ?_ | refine a_condT rfl ?_ | refine a_condF rfl ?_ | (refine a_condP rfl (fun hc => ?_) (fun hc => ?_)) <;> (try (exfalso; omega)) | (refine a_condI rfl (fun hc => ?_) (fun hc => ?_)) <;> (try (exfalso; omega)) | (refine a_condN rfl (fun hc => ?_) (fun hc => ?_)) <;> (try (exfalso; omega)) | (refine Awp.cond rfl (fun hc => ?_) (fun hc => ?_)) | refine o_toString TtOk rfl rfl rfl rfl rfl (by first | exact True.intro | exact rfl) rfl rfl rfl rfl ?_)
    refine Awp.loop (fun k : Nat => ⟨24, [(9, .i .i64 k), (3, .i .u32 (crcN k i : Nat)), (2, .i .i64 i), (4, .i .i64 i), (1, .ptr 1 b1 [] 0), (0, .ptr 0 b0 [] 0)], [(1, .var b1 (.arr 1 256 xs)), (0, .var b0 (.arr 1 256 (List.replicate 256 (.i .u32 0))))]⟩) (fun k => k ≤ 8) (fun k => 8 - k) [] 0 (Nat.zero_le _) ?_ ?_
    · exact ⟨rfl, ⟨sle_i rfl, sle_i (uwrap32_lt (n := i) (by omega)), sle_i rfl, sle_i rfl, sle_ptr, sle_ptr, True.intro⟩, HLe.cons 1 rfl (HOLe.refl _) (HLe.cons 0 rfl (HOLe.refl _) .nil)⟩
    intro k hk
    have hst := step_eq (crcN_lt k (c := i) (by omega))
    rw [← crcN_succ] at hst
    have h8 : k = 8 → crcN k i = crcN 8 i := fun h => by rw [h]
    generalize hc0 : crcN k i = c0 at hst h8 ⊢
    generalize crcN 8 i = c8 at hmap h8
    repeat' (first | refine Awp.seq ?_ | refine Awp.block ?_ | refine Awp.region ?_ | (refine Ops.nil ?_; show Awp _ _ _ _ _) | (refine Ops.nil ?_; show Exists _) | (refine Ops.nil ?_; show endK _ _ _ _ _) | (refine Awp.skip ?_; show Awp _ _ _ _ _) | (refine Awp.skip ?_; show endK _ _ _ _ _) | (refine Awp.skip ?_; show Exists _) | (refine Awp.exit ?_; show Awp _ _ _ _ _) | (refine Awp.exit ?_; show Exists _) | (refine Awp.exit ?_; show endK _ _ _ _ _) | (refine Awp.ret ?_; show endK _ _ _ _ _) | (refine o_add rfl rfl rfl rfl ?_ ?_; omega) | refine o_convB rfl TtOk rfl rfl rfl rfl ?_ | (refine o_conv64 rfl TtOk rfl rfl rfl rfl ?_ ?_; omega) | (refine o_calm rfl TtOk rfl rfl rfl ?_ (fun _ => ?_); first | exact True.intro | exact ⟨rfl, rfl, rfl, rfl⟩ | exact ⟨rfl, True.intro⟩ | exact ⟨rfl, rfl⟩ | exact ⟨rfl, rfl, rfl⟩ | exact rfl | exact ⟨fun h0 => by cases h0, rfl⟩ | exact (fun h0 => by cases h0) | exact ⟨rfl, by omega⟩ | exact ⟨Nat.succ_ne_zero _, rfl⟩ | omega) | refine o_alloc (d := 0) rfl TtOk rfl rfl rfl (fun b0 => ?_) | refine o_alloc (d := 1) rfl TtOk rfl rfl rfl (fun b1 => ?_) | refine o_store TtOk rfl rfl rfl rfl rfl rfl rfl ⟨rfl, rfl⟩ rfl rfl rfl rfl rfl ?_ | (refine o_index rfl TtOk rfl rfl rfl rfl rfl rfl ?_ (getq_nat ?_) ?_; omega; omega) | (refine o_indexOwn TtOk rfl rfl rfl rfl rfl rfl rfl rfl _ rfl ?_ (fun bO hbO => ?_); (simp only [List.length_map]; omega)) | (refine o_loadRow TtOk rfl rfl rfl rfl rfl (by assumption) (getq_map (List.getElem?_eq_getElem ?_)) rfl rfl (by first | exact Nat.add_zero _ | rfl) ⟨rfl, rfl⟩ ?_; omega) | (refine o_calm rfl TtOk rfl rfl rfl ?_ (fun _ => ?_); (show List.length _ + List.length _ ≤ 9223372036854775807; (try simp only [List.length_append, List.length_cons, List.length_nil]); omega)) | (refine o_storeRow TtOk rfl rfl rfl rfl rfl rfl (by assumption) (getq_map (List.getElem?_eq_getElem ?_)) rfl rfl (by first | exact Nat.add_zero _ | rfl) ⟨rfl, rfl⟩ rfl rfl ?_; omega) | refine o_toBytes TtOk rfl rfl rfl rfl rfl rfl ?_ | refine a_condT rfl ?_ | refine a_condF rfl ?_ | (refine a_condP rfl (fun hc => ?_) (fun hc => ?_)) <;> (try (exfalso; omega)) | (refine a_condI rfl (fun hc => ?_) (fun hc => ?_)) <;> (try (exfalso; omega)) | (refine a_condN rfl (fun hc => ?_) (fun hc => ?_)) <;> (try (exfalso; omega)) | (refine Awp.cond rfl (fun hc => ?_) (fun hc => ?_)) | refine o_toString TtOk rfl rfl rfl rfl rfl (by first | exact True.intro | exact rfl) rfl rfl rfl rfl ?_)
    · exact ⟨k + 1, [], by omega, by omega, rfl, ⟨sle_i (by omega), sle_i hst, sle_i rfl, sle_i rfl, sle_ptr, sle_ptr, True.intro⟩, HLe.cons 1 rfl (HOLe.refl _) (HLe.cons 0 rfl (HOLe.refl _) .nil)⟩
    · refine o_indexArr TtOk rfl rfl rfl rfl rfl rfl i rfl (by omega) ?_
      refine o_storeArr TtOk rfl rfl rfl rfl rfl rfl ⟨rfl, rfl⟩ rfl rfl hxi rfl rfl ?_
      repeat' (first | refine Awp.seq ?_ | refine Awp.block ?_ | refine Awp.region ?_ | (refine Ops.nil ?_; show Awp _ _ _ _ _) | (refine Ops.nil ?_; show Exists _) | (refine Ops.nil ?_; show endK _ _ _ _ _) | (refine Awp.skip ?_; show Awp _ _ _ _ _) | (refine Awp.skip ?_; show endK _ _ _ _ _) | (refine Awp.skip ?_; show Exists _) | (refine Awp.exit ?_; show Awp _ _ _ _ _) | (refine Awp.exit ?_; show Exists _) | (refine Awp.exit ?_; show endK _ _ _ _ _) | (refine Awp.ret ?_; show endK _ _ _ _ _) | (refine o_add rfl rfl rfl rfl ?_ ?_; omega) | refine o_convB rfl TtOk rfl rfl rfl rfl ?_ | (refine o_conv64 rfl TtOk rfl rfl rfl rfl ?_ ?_; omega) | (refine o_calm rfl TtOk rfl rfl rfl ?_ (fun _ => ?_); first | exact True.intro | exact ⟨rfl, rfl, rfl, rfl⟩ | exact ⟨rfl, True.intro⟩ | exact ⟨rfl, rfl⟩ | exact ⟨rfl, rfl, rfl⟩ | exact rfl | exact ⟨fun h0 => by cases h0, rfl⟩ | exact (fun h0 => by cases h0) | exact ⟨rfl, by omega⟩ | exact ⟨Nat.succ_ne_zero _, rfl⟩ | omega) | refine o_alloc (d := 0) rfl TtOk rfl rfl rfl (fun b0 => ?_) | refine o_alloc (d := 1) rfl TtOk rfl rfl rfl (fun b1 => ?_) | refine o_store TtOk rfl rfl rfl rfl rfl rfl rfl ⟨rfl, rfl⟩ rfl rfl rfl rfl rfl ?_ | (refine o_index rfl TtOk rfl rfl rfl rfl rfl rfl ?_ (getq_nat ?_) ?_; omega; omega) | (refine o_indexOwn TtOk rfl rfl rfl rfl rfl rfl rfl rfl _ rfl ?_ (fun bO hbO => ?_); (simp only [List.length_map]; omega)) | (refine o_loadRow TtOk rfl rfl rfl rfl rfl (by assumption) (getq_map (List.getElem?_eq_getElem ?_)) rfl rfl (by first | exact Nat.add_zero _ | rfl) ⟨rfl, rfl⟩ ?_; omega) | (refine o_calm rfl TtOk rfl rfl rfl ?_ (fun _ => ?_); (show List.length _ + List.length _ ≤ 9223372036854775807; (try simp only [List.length_append, List.length_cons, List.length_nil]); omega)) | (refine o_storeRow TtOk rfl rfl rfl rfl rfl rfl (by assumption) (getq_map (List.getElem?_eq_getElem ?_)) rfl rfl (by first | exact Nat.add_zero _ | rfl) ⟨rfl, rfl⟩ rfl rfl ?_; omega) | refine o_toBytes TtOk rfl rfl rfl rfl rfl rfl ?_ | refine a_condT rfl ?_ | refine a_condF rfl ?_ | (refine a_condP rfl (fun hc => ?_) (fun hc => ?_)) <;> (try (exfalso; omega)) | (refine a_condI rfl (fun hc => ?_) (fun hc => ?_)) <;> (try (exfalso; omega)) | (refine a_condN rfl (fun hc => ?_) (fun hc => ?_)) <;> (try (exfalso; omega)) | (refine Awp.cond rfl (fun hc => ?_) (fun hc => ?_)) | refine o_toString TtOk rfl rfl rfl rfl rfl (by first | exact True.intro | exact rfl) rfl rfl rfl rfl ?_)
      refine ⟨i + 1, [], by omega, by omega, rfl, ⟨sle_i (by omega), sle_ptr, sle_ptr, True.intro⟩, HLe.cons 1 rfl (HOLe.var (CLe.of_eq ?_)) (HLe.cons 0 rfl (HOLe.refl _) .nil)⟩
      rw [← hmap, ← h8 (by omega)]; rfl
  · have hi2 : i = 256 := by omega
    subst hi2
    generalize (tab 256).map u32A = xs
    repeat' (first | refine Awp.seq ?_ | refine Awp.block ?_ | refine Awp.region ?_ | (refine Ops.nil ?_; show Awp _ _ _ _ _) | (refine Ops.nil ?_; show Exists _) | (refine Ops.nil ?_; show endK _ _ _ _ _) | (refine Awp.skip ?_; show Awp _ _ _ _ _) | (refine Awp.skip ?_; show endK _ _ _ _ _) | (refine Awp.skip ?_; show Exists _) | (refine Awp.exit ?_; show Awp _ _ _ _ _) | (refine Awp.exit ?_; show Exists _) | (refine Awp.exit ?_; show endK _ _ _ _ _) | (refine Awp.ret ?_; show endK _ _ _ _ _) | (refine o_add rfl rfl rfl rfl ?_ ?_; omega) | refine o_convB rfl TtOk rfl rfl rfl rfl ?_ | (refine o_conv64 rfl TtOk rfl rfl rfl rfl ?_ ?_; omega) | (refine o_calm rfl TtOk rfl rfl rfl ?_ (fun _ => ?_); first | exact True.intro | exact ⟨rfl, rfl, rfl, rfl⟩ | exact ⟨rfl, True.intro⟩ | exact ⟨rfl, rfl⟩ | exact ⟨rfl, rfl, rfl⟩ | exact rfl | exact ⟨fun h0 => by cases h0, rfl⟩ | exact (fun h0 => by cases h0) | exact ⟨rfl, by omega⟩ | exact ⟨Nat.succ_ne_zero _, rfl⟩ | omega) | refine o_alloc (d := 0) rfl TtOk rfl rfl rfl (fun b0 => ?_) | refine o_alloc (d := 1) rfl TtOk rfl rfl rfl (fun b1 => ?_) | refine o_store TtOk rfl rfl rfl rfl rfl rfl rfl ⟨rfl, rfl⟩ rfl rfl rfl rfl rfl ?_ | (refine o_index rfl TtOk rfl rfl rfl rfl rfl rfl ?_ (getq_nat ?_) ?_; omega; omega) | (refine o_indexOwn TtOk rfl rfl rfl rfl rfl rfl rfl rfl _ rfl ?_ (fun bO hbO => ?_); (simp only [List.length_map]; omega)) | (refine o_loadRow TtOk rfl rfl rfl rfl rfl (by assumption) (getq_map (List.getElem?_eq_getElem ?_)) rfl rfl (by first | exact Nat.add_zero _ | rfl) ⟨rfl, rfl⟩ ?_; omega) | (refine o_calm rfl TtOk rfl rfl rfl ?_ (fun _ => ?_); (show List.length _ + List.length _ ≤ 9223372036854775807; (try simp only [List.length_append, List.length_cons, List.length_nil]); omega)) | (refine o_storeRow TtOk rfl rfl rfl rfl rfl rfl (by assumption) (getq_map (List.getElem?_eq_getElem ?_)) rfl rfl (by first | exact Nat.add_zero _ | rfl) ⟨rfl, rfl⟩ rfl rfl ?_; omega) | refine o_toBytes TtOk rfl rfl rfl rfl rfl rfl ?_ | refine a_condT rfl ?_ | refine a_condF rfl ?_ | (refine a_condP rfl (fun hc => ?_) (fun hc => ?_)) <;> (try (exfalso; omega)) | (refine a_condI rfl (fun hc => ?_) (fun hc => ?_)) <;> (try (exfalso; omega)) | (refine a_condN rfl (fun hc => ?_) (fun hc => ?_)) <;> (try (exfalso; omega)) | (refine Awp.cond rfl (fun hc => ?_) (fun hc => ?_)) | refine o_toString TtOk rfl rfl rfl rfl rfl (by first | exact True.intro | exact rfl) rfl rfl rfl rfl ?_)
    refine end_all [] [] (.arr 1 256 xs) rfl ?_ ?_ (rle_one (CLe.refl _) rfl) .nil ⟨rfl, rfl⟩ _ (.inl rfl)
    · repeat' (first | exact True.intro | exact rfl | refine ⟨?_, ?_⟩)
    · exact ⟨trivial, trivial⟩
theorem compl32 {c : Nat} (h : c < 4294967296) : bitsI .xor .u32 (if IntKind.u32.signed = true then -1 else IntKind.u32.max) (c : Int) = ((4294967295 - c : Nat) : Int) := by
  rw [show (if IntKind.u32.signed = true then -1 else IntKind.u32.max) = ((4294967295 : Nat) : Int) by decide, xor32 (by decide) h]
  have h1 := BitVec.toNat_not (x := BitVec.ofNat 32 c)
  rw [BitVec.not_def, BitVec.toNat_xor, BitVec.toNat_allOnes, BitVec.toNat_ofNat, Nat.mod_eq_of_lt h] at h1
  rw [h1]
theorem check_spec (s : List UInt8) (hs : s.length ≤ 1000000000000) : Spec Try.prog 52 [.s s] [] (fun v os => v = .i .u32 (crc s : Nat) ∧ os = []) := by
  refine spec_of TtOk [] Try.func52 rfl Try.ntmps52 (by kernel_rfl) rfl rfl (fun C => ?_) rfl
  have ht := table_spec
  have htf := fun j (h : j < 256) => tab_full h
  generalize (tab 256).map u32A = tb at ht htf
  repeat' (first | refine Awp.seq ?_ | refine Awp.block ?_ | refine Awp.region ?_ | (refine Ops.nil ?_; show Awp _ _ _ _ _) | (refine Ops.nil ?_; show Exists _) | (refine Ops.nil ?_; show endK _ _ _ _ _) | (refine Awp.skip ?_; show Awp _ _ _ _ _) | (refine Awp.skip ?_; show endK _ _ _ _ _) | (refine Awp.skip ?_; show Exists _) | (refine Awp.exit ?_; show Awp _ _ _ _ _) | (refine Awp.exit ?_; show Exists _) | (refine Awp.exit ?_; show endK _ _ _ _ _) | (refine Awp.ret ?_; show endK _ _ _ _ _) | (refine o_add rfl rfl rfl rfl ?_ ?_; omega) | refine o_len rfl TtOk rfl rfl rfl (fun _ => ?_) | refine o_lenOwn rfl TtOk rfl rfl rfl rfl (fun _ => ?_) | refine o_convB rfl TtOk rfl rfl rfl rfl ?_ | (refine o_conv64 rfl TtOk rfl rfl rfl rfl ?_ ?_; omega) | (refine o_calm rfl TtOk rfl rfl rfl ?_ (fun _ => ?_); first | exact True.intro | exact ⟨rfl, rfl, rfl, rfl⟩ | exact ⟨rfl, True.intro⟩ | exact ⟨rfl, rfl⟩ | exact ⟨rfl, rfl, rfl⟩ | exact rfl | exact ⟨fun h0 => by cases h0, rfl⟩ | exact (fun h0 => by cases h0) | exact ⟨rfl, by omega⟩ | exact ⟨Nat.succ_ne_zero _, rfl⟩ | omega) | refine o_alloc (d := 3) rfl TtOk rfl rfl rfl (fun b3 => ?_) | refine o_store TtOk rfl rfl rfl rfl rfl rfl rfl ⟨rfl, rfl⟩ rfl rfl rfl rfl rfl ?_ | (refine o_index rfl TtOk rfl rfl rfl rfl rfl rfl ?_ (getq_nat ?_) ?_; omega; omega) | (refine o_indexOwn TtOk rfl rfl rfl rfl rfl rfl rfl rfl _ rfl ?_ (fun bO hbO => ?_); (simp only [List.length_map]; omega)) | (refine o_loadRow TtOk rfl rfl rfl rfl rfl (by assumption) (getq_map (List.getElem?_eq_getElem ?_)) rfl rfl (by first | exact Nat.add_zero _ | rfl) ⟨rfl, rfl⟩ ?_; omega) | (refine o_calm rfl TtOk rfl rfl rfl ?_ (fun _ => ?_); (show List.length _ + List.length _ ≤ 9223372036854775807; (try simp only [List.length_append, List.length_cons, List.length_nil]); omega)) | (refine o_storeRow TtOk rfl rfl rfl rfl rfl rfl (by assumption) (getq_map (List.getElem?_eq_getElem ?_)) rfl rfl (by first | exact Nat.add_zero _ | rfl) ⟨rfl, rfl⟩ rfl rfl ?_; omega) | refine o_toBytes TtOk rfl rfl rfl rfl rfl rfl ?_ | refine a_condT rfl ?_ | refine a_condF rfl ?_ | (refine a_condP rfl (fun hc => ?_) (fun hc => ?_)) <;> (try (exfalso; omega)) | (refine a_condI rfl (fun hc => ?_) (fun hc => ?_)) <;> (try (exfalso; omega)) | (refine a_condN rfl (fun hc => ?_) (fun hc => ?_)) <;> (try (exfalso; omega)) | (refine Awp.cond rfl (fun hc => ?_) (fun hc => ?_)) | refine o_toString TtOk rfl rfl rfl rfl rfl (by first | exact True.intro | exact rfl) rfl rfl rfl rfl ?_ | (refine o_call0 rfl (ht) True.intro rfl ?_; rintro _ _ ⟨rfl, rfl⟩; refine ⟨rfl, ?_⟩))
  refine Awp.loop (fun k : Nat => ⟨27, [(11, .i .i64 k), (10, .i .i64 s.length), (9, .sl 1 (s.map byA)), (4, .i .u32 (crcLoop (s.take k) : Nat)), (3, .ptr 3 b3 [] 0)], [(3, .var b3 (.arr 1 256 tb))]⟩) (fun k => k ≤ s.length) (fun k => s.length - k) [] 0 (Nat.zero_le _) ?_ ?_
  · exact ⟨rfl, ⟨sle_i rfl, sle_i rfl, sle_sl rfl, sle_i rfl, sle_ptr, True.intro⟩, HLe.cons 3 rfl (HOLe.refl _) .nil⟩
  intro k hk
  by_cases hlt : k < s.length
  · have hl := crcLoop_lt (s.take k)
    have hsu := crcLoop_succ s k hlt
    have hct := crcByte_table (crcLoop (s.take k)) s[k]
    generalize crcLoop (s.take k) = c at hl hsu hct ⊢
    repeat' (first | refine Awp.seq ?_ | refine Awp.block ?_ | refine Awp.region ?_ | (refine Ops.nil ?_; show Awp _ _ _ _ _) | (refine Ops.nil ?_; show Exists _) | (refine Ops.nil ?_; show endK _ _ _ _ _) | (refine Awp.skip ?_; show Awp _ _ _ _ _) | (refine Awp.skip ?_; show endK _ _ _ _ _) | (refine Awp.skip ?_; show Exists _) | (refine Awp.exit ?_; show Awp _ _ _ _ _) | (refine Awp.exit ?_; show Exists _) | (refine Awp.exit ?_; show endK _ _ _ _ _) | (refine Awp.ret ?_; show endK _ _ _ _ _) | (refine o_add rfl rfl rfl rfl ?_ ?_; omega) | refine o_len rfl TtOk rfl rfl rfl (fun _ => ?_) | refine o_lenOwn rfl TtOk rfl rfl rfl rfl (fun _ => ?_) | refine o_convB rfl TtOk rfl rfl rfl rfl ?_ | (refine o_conv64 rfl TtOk rfl rfl rfl rfl ?_ ?_; omega) | (refine o_calm rfl TtOk rfl rfl rfl ?_ (fun _ => ?_); first | exact True.intro | exact ⟨rfl, rfl, rfl, rfl⟩ | exact ⟨rfl, True.intro⟩ | exact ⟨rfl, rfl⟩ | exact ⟨rfl, rfl, rfl⟩ | exact rfl | exact ⟨fun h0 => by cases h0, rfl⟩ | exact (fun h0 => by cases h0) | exact ⟨rfl, by omega⟩ | exact ⟨Nat.succ_ne_zero _, rfl⟩ | omega) | refine o_alloc (d := 3) rfl TtOk rfl rfl rfl (fun b3 => ?_) | refine o_store TtOk rfl rfl rfl rfl rfl rfl rfl ⟨rfl, rfl⟩ rfl rfl rfl rfl rfl ?_ | (refine o_index rfl TtOk rfl rfl rfl rfl rfl rfl ?_ (getq_nat ?_) ?_; omega; omega) | (refine o_indexOwn TtOk rfl rfl rfl rfl rfl rfl rfl rfl _ rfl ?_ (fun bO hbO => ?_); (simp only [List.length_map]; omega)) | (refine o_loadRow TtOk rfl rfl rfl rfl rfl (by assumption) (getq_map (List.getElem?_eq_getElem ?_)) rfl rfl (by first | exact Nat.add_zero _ | rfl) ⟨rfl, rfl⟩ ?_; omega) | (refine o_calm rfl TtOk rfl rfl rfl ?_ (fun _ => ?_); (show List.length _ + List.length _ ≤ 9223372036854775807; (try simp only [List.length_append, List.length_cons, List.length_nil]); omega)) | (refine o_storeRow TtOk rfl rfl rfl rfl rfl rfl (by assumption) (getq_map (List.getElem?_eq_getElem ?_)) rfl rfl (by first | exact Nat.add_zero _ | rfl) ⟨rfl, rfl⟩ rfl rfl ?_; omega) | refine o_toBytes TtOk rfl rfl rfl rfl rfl rfl ?_ | refine a_condT rfl ?_ | refine a_condF rfl ?_ | (refine a_condP rfl (fun hc => ?_) (fun hc => ?_)) <;> (try (exfalso; omega)) | (refine a_condI rfl (fun hc => ?_) (fun hc => ?_)) <;> (try (exfalso; omega)) | (refine a_condN rfl (fun hc => ?_) (fun hc => ?_)) <;> (try (exfalso; omega)) | (refine Awp.cond rfl (fun hc => ?_) (fun hc => ?_)) | refine o_toString TtOk rfl rfl rfl rfl rfl (by first | exact True.intro | exact rfl) rfl rfl rfl rfl ?_)
    have hb := s[k].toNat_lt
    have hx8 : bitsI .xor .u8 (IntKind.u8.wrap (c : Int)) (s[k].toNat : Int) = ((c % 256 ^^^ s[k].toNat : Nat) : Int) := by
      rw [bwrap_nat, xor8 (Nat.mod_lt _ (by decide)) hb]
    have hxl : c % 256 ^^^ s[k].toNat < 256 := Nat.xor_lt_two_pow (n := 8) (Nat.mod_lt _ (by decide)) hb
    have htj := htf _ hxl
    have hs8 : (c : Int).fdiv (2 ^ (min (Int.toNat 8) (IntKind.bits .u32))) = ((c / 256 : Nat) : Int) := shr32 c (k := 8) (by decide)
    have hT := crcN_lt 8 (c := c % 256 ^^^ s[k].toNat) (by omega)
    have hx32 := xor32 (x := crcN 8 (c % 256 ^^^ s[k].toNat)) (y := c / 256) hT (by omega)
    rw [hct, ← hs8] at hx32
    generalize c % 256 ^^^ s[k].toNat = j at hx8 hxl htj hT hct hx32
    generalize crcN 8 j = T at htj hT hct hx32
    refine o_indexArr TtOk rfl rfl rfl rfl rfl rfl j hx8 hxl ?_
    refine o_loadArr TtOk rfl rfl rfl rfl rfl htj ⟨rfl, rfl⟩ rfl rfl ?_
    repeat' (first | refine Awp.seq ?_ | refine Awp.block ?_ | refine Awp.region ?_ | (refine Ops.nil ?_; show Awp _ _ _ _ _) | (refine Ops.nil ?_; show Exists _) | (refine Ops.nil ?_; show endK _ _ _ _ _) | (refine Awp.skip ?_; show Awp _ _ _ _ _) | (refine Awp.skip ?_; show endK _ _ _ _ _) | (refine Awp.skip ?_; show Exists _) | (refine Awp.exit ?_; show Awp _ _ _ _ _) | (refine Awp.exit ?_; show Exists _) | (refine Awp.exit ?_; show endK _ _ _ _ _) | (refine Awp.ret ?_; show endK _ _ _ _ _) | (refine o_add rfl rfl rfl rfl ?_ ?_; omega) | refine o_len rfl TtOk rfl rfl rfl (fun _ => ?_) | refine o_lenOwn rfl TtOk rfl rfl rfl rfl (fun _ => ?_) | refine o_convB rfl TtOk rfl rfl rfl rfl ?_ | (refine o_conv64 rfl TtOk rfl rfl rfl rfl ?_ ?_; omega) | (refine o_calm rfl TtOk rfl rfl rfl ?_ (fun _ => ?_); first | exact True.intro | exact ⟨rfl, rfl, rfl, rfl⟩ | exact ⟨rfl, True.intro⟩ | exact ⟨rfl, rfl⟩ | exact ⟨rfl, rfl, rfl⟩ | exact rfl | exact ⟨fun h0 => by cases h0, rfl⟩ | exact (fun h0 => by cases h0) | exact ⟨rfl, by omega⟩ | exact ⟨Nat.succ_ne_zero _, rfl⟩ | omega) | refine o_alloc rfl TtOk rfl rfl rfl (fun bA => ?_) | refine o_store TtOk rfl rfl rfl rfl rfl rfl rfl ⟨rfl, rfl⟩ rfl rfl rfl rfl rfl ?_ | (refine o_index rfl TtOk rfl rfl rfl rfl rfl rfl ?_ (getq_nat ?_) ?_; omega; omega) | (refine o_indexOwn TtOk rfl rfl rfl rfl rfl rfl rfl rfl _ rfl ?_ (fun bO hbO => ?_); (simp only [List.length_map]; omega)) | (refine o_loadRow TtOk rfl rfl rfl rfl rfl (by assumption) (getq_map (List.getElem?_eq_getElem ?_)) rfl rfl (by first | exact Nat.add_zero _ | rfl) ⟨rfl, rfl⟩ ?_; omega) | (refine o_calm rfl TtOk rfl rfl rfl ?_ (fun _ => ?_); (show List.length _ + List.length _ ≤ 9223372036854775807; (try simp only [List.length_append, List.length_cons, List.length_nil]); omega)) | (refine o_storeRow TtOk rfl rfl rfl rfl rfl rfl (by assumption) (getq_map (List.getElem?_eq_getElem ?_)) rfl rfl (by first | exact Nat.add_zero _ | rfl) ⟨rfl, rfl⟩ rfl rfl ?_; omega) | refine o_toBytes TtOk rfl rfl rfl rfl rfl rfl ?_ | refine a_condT rfl ?_ | refine a_condF rfl ?_ | (refine a_condP rfl (fun hc => ?_) (fun hc => ?_)) <;> (try (exfalso; omega)) | (refine a_condI rfl (fun hc => ?_) (fun hc => ?_)) <;> (try (exfalso; omega)) | (refine a_condN rfl (fun hc => ?_) (fun hc => ?_)) <;> (try (exfalso; omega)) | (refine Awp.cond rfl (fun hc => ?_) (fun hc => ?_)) | refine o_toString TtOk rfl rfl rfl rfl rfl (by first | exact True.intro | exact rfl) rfl rfl rfl rfl ?_)
    refine ⟨k + 1, [], hlt, by omega, rfl, ⟨sle_i (by omega), sle_i rfl, sle_sl rfl, sle_i ?_, sle_ptr, True.intro⟩, HLe.cons 3 rfl (HOLe.refl _) .nil⟩
    exact hx32.trans (by rw [← hsu])
  · have hkl : k = s.length := by omega
    subst hkl
    rw [List.take_length]
    have hl := crcLoop_lt s
    have hcd : crc s = 4294967295 - crcLoop s := rfl
    rw [hcd]
    generalize crcLoop s = c at hl ⊢
    repeat' (first | refine Awp.seq ?_ | refine Awp.block ?_ | refine Awp.region ?_ | (refine Ops.nil ?_; show Awp _ _ _ _ _) | (refine Ops.nil ?_; show Exists _) | (refine Ops.nil ?_; show endK _ _ _ _ _) | (refine Awp.skip ?_; show Awp _ _ _ _ _) | (refine Awp.skip ?_; show endK _ _ _ _ _) | (refine Awp.skip ?_; show Exists _) | (refine Awp.exit ?_; show Awp _ _ _ _ _) | (refine Awp.exit ?_; show Exists _) | (refine Awp.exit ?_; show endK _ _ _ _ _) | (refine Awp.ret ?_; show endK _ _ _ _ _) | (refine o_add rfl rfl rfl rfl ?_ ?_; omega) | refine o_len rfl TtOk rfl rfl rfl (fun _ => ?_) | refine o_lenOwn rfl TtOk rfl rfl rfl rfl (fun _ => ?_) | refine o_convB rfl TtOk rfl rfl rfl rfl ?_ | (refine o_conv64 rfl TtOk rfl rfl rfl rfl ?_ ?_; omega) | (refine o_calm rfl TtOk rfl rfl rfl ?_ (fun _ => ?_); first | exact True.intro | exact ⟨rfl, rfl, rfl, rfl⟩ | exact ⟨rfl, True.intro⟩ | exact ⟨rfl, rfl⟩ | exact ⟨rfl, rfl, rfl⟩ | exact rfl | exact ⟨fun h0 => by cases h0, rfl⟩ | exact (fun h0 => by cases h0) | exact ⟨rfl, by omega⟩ | exact ⟨Nat.succ_ne_zero _, rfl⟩ | omega) | refine o_alloc (d := 3) rfl TtOk rfl rfl rfl (fun b3 => ?_) | refine o_store TtOk rfl rfl rfl rfl rfl rfl rfl ⟨rfl, rfl⟩ rfl rfl rfl rfl rfl ?_ | (refine o_index rfl TtOk rfl rfl rfl rfl rfl rfl ?_ (getq_nat ?_) ?_; omega; omega) | (refine o_indexOwn TtOk rfl rfl rfl rfl rfl rfl rfl rfl _ rfl ?_ (fun bO hbO => ?_); (simp only [List.length_map]; omega)) | (refine o_loadRow TtOk rfl rfl rfl rfl rfl (by assumption) (getq_map (List.getElem?_eq_getElem ?_)) rfl rfl (by first | exact Nat.add_zero _ | rfl) ⟨rfl, rfl⟩ ?_; omega) | (refine o_calm rfl TtOk rfl rfl rfl ?_ (fun _ => ?_); (show List.length _ + List.length _ ≤ 9223372036854775807; (try simp only [List.length_append, List.length_cons, List.length_nil]); omega)) | (refine o_storeRow TtOk rfl rfl rfl rfl rfl rfl (by assumption) (getq_map (List.getElem?_eq_getElem ?_)) rfl rfl (by first | exact Nat.add_zero _ | rfl) ⟨rfl, rfl⟩ rfl rfl ?_; omega) | refine o_toBytes TtOk rfl rfl rfl rfl rfl rfl ?_ | refine a_condT rfl ?_ | refine a_condF rfl ?_ | (refine a_condP rfl (fun hc => ?_) (fun hc => ?_)) <;> (try (exfalso; omega)) | (refine a_condI rfl (fun hc => ?_) (fun hc => ?_)) <;> (try (exfalso; omega)) | (refine a_condN rfl (fun hc => ?_) (fun hc => ?_)) <;> (try (exfalso; omega)) | (refine Awp.cond rfl (fun hc => ?_) (fun hc => ?_)) | refine o_toString TtOk rfl rfl rfl rfl rfl (by first | exact True.intro | exact rfl) rfl rfl rfl rfl ?_)
    refine end_tmp rfl rfl rfl [] [] (CLe.of_eq ?_) .nil ⟨rfl, rfl⟩ _ (.inl rfl)
    exact congrArg (AV.i .u32) (compl32 hl)
end Go.Proofs.Ytdpljpnnjgefoaa
