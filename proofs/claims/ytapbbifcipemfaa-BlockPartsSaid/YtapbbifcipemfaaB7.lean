/- law09.awake: what a block of two entries comes to; by rules. -/
import Derived.Test.YtapbbifcipemfaaB5
import Derived.Test.YtapbbifcipemfaaB6
import Derived.ProofKit
set_option maxHeartbeats 8000000
set_option maxRecDepth 100000
namespace Go.Proofs.Ytapbbifcipemfaa
open Go Go.RowKit
theorem ofNat_toNat (n : Nat) : (UInt8.ofNat n).toNat = n % 256 := UInt8.toNat_ofNat'
theorem sopen_wrap (T more : List UInt8) (h : T.length ≤ 65536) : sopen (sealWrap T ++ more) = (T, 8 + T.length, 0) := by
  have hx := crc_lt (sealHead T.length ++ T)
  have e : sealWrap T ++ more = 94 :: UInt8.ofNat (T.length / 65536) :: UInt8.ofNat (T.length / 256) :: UInt8.ofNat T.length :: UInt8.ofNat (crc (sealHead T.length ++ T) / 16777216) :: UInt8.ofNat (crc (sealHead T.length ++ T) / 65536) :: UInt8.ofNat (crc (sealHead T.length ++ T) / 256) :: UInt8.ofNat (crc (sealHead T.length ++ T)) :: (T ++ more) := by
    unfold sealWrap four
    rw [List.append_assoc, List.append_assoc]
    generalize crc (sealHead T.length ++ T) = x
    rfl
  have hn : n3 (UInt8.ofNat (T.length / 65536)) (UInt8.ofNat (T.length / 256)) (UInt8.ofNat T.length) = T.length := by
    unfold n3; rw [ofNat_toNat, ofNat_toNat, ofNat_toNat]; omega
  have ht : (T ++ more).take T.length = T := by rw [List.take_left]
  have hd : [94, UInt8.ofNat (T.length / 65536), UInt8.ofNat (T.length / 256), UInt8.ofNat T.length] = sealHead T.length := rfl
  rw [e]
  unfold sopen
  dsimp only
  rw [hn, ht, hd]
  generalize crc (sealHead T.length ++ T) = x at hx
  have h4 : n4 (UInt8.ofNat (x / 16777216)) (UInt8.ofNat (x / 65536)) (UInt8.ofNat (x / 256)) (UInt8.ofNat x) = x := by
    unfold n4; rw [ofNat_toNat, ofNat_toNat, ofNat_toNat, ofNat_toNat]; omega
  rw [h4, if_neg (by rintro (h1 | h1); exact h1 rfl; omega), if_neg (by rw [List.length_append]; omega), if_pos rfl]
def twoE : List Etr := [⟨[97, 97], [49], false⟩, ⟨[97, 98], [], true⟩]
def twoT : List UInt8 := [1, 2, 0, 1, 2, 97, 97, 0, 1, 1, 49, 1, 1, 1, 1, 98, 1]
theorem two_text : textN twoE twoE.length = twoT := by
  have d1 : digits 1 = [1] := by rw [digits_pos (by decide), digits_zero]; rfl
  have d2 : digits 2 = [2] := by rw [digits_pos (by decide), digits_zero]; rfl
  have n0 : numBytes 0 = [0] := by unfold numBytes; rw [digits_zero]; rfl
  have n1 : numBytes 1 = [1, 1] := by unfold numBytes; rw [d1]; rfl
  have n2 : numBytes 2 = [1, 2] := by unfold numBytes; rw [d2]; rfl
  have h : textN twoE twoE.length = ((numBytes 2 ++ ((numBytes 0 ++ (numBytes 2 ++ [97, 97])) ++ [0])) ++ (numBytes 1 ++ [49])) ++ ((numBytes 1 ++ (numBytes 1 ++ [98])) ++ [1]) := rfl
  rw [h, n0, n1, n2]; rfl
theorem two_make : make9 twoE = (sealWrap twoT, 0) := by
  unfold make9
  rw [two_text, if_neg (by decide), if_neg (by decide)]
theorem two_len : (sealWrap twoT).length = 25 := by
  unfold sealWrap; rw [List.length_append, List.length_append, four_len, head_len]; rfl
def breadO (o : List UInt8 × Nat × Int) : List Etr × Nat × Int :=
  if o.2.2 ≠ 0 then ([], 0, o.2.2) else
  match bloop ((RS.open o.1).below 257).1 ((RS.open o.1).below 257).2 [] [] with
  | none => ([], 0, 3)
  | some (r, l) => if r.done ≠ 0 then ([], 0, r.done) else if checkN l ≠ 0 then ([], 0, checkN l) else (l, o.2.1, 0)
theorem bread_O (s : List UInt8) : bread s = breadO (sopen s) := rfl
theorem two_O : breadO (twoT, 8 + twoT.length, 0) = (twoE, 25, 0) := by kernel_rfl
theorem two_read : bread (sealWrap twoT ++ [120]) = (twoE, 25, 0) := by
  rw [bread_O, sopen_wrap twoT [120] (by decide)]; exact two_O
theorem bawake_spec : Spec Try.prog 33 [] [] (fun v os => v = .b true ∧ os = []) := by
  refine spec_of TtOk [] Try.func33 rfl Try.ntmps33 (by kernel_rfl) rfl rfl (fun C => ?_) rfl
  have hmk := bmake_spec twoE (by decide) (by decide)
  rw [two_make] at hmk
  have hl := two_len
  have hrd := bread_spec (sealWrap twoT ++ [120]) (by rw [List.length_append, hl]; decide)
  rw [two_read] at hrd
  generalize sealWrap twoT = S at hmk hl hrd
  dsimp only at hmk hrd
  repeat' (first
    | refine Awp.seq ?_
    | refine Awp.region ?_
    | (refine Ops.nil ?_; show Awp _ _ _ _ _)
    | (refine Ops.nil ?_; show Exists _)
    | (refine Ops.nil ?_; show endK _ _ _ _ _)
    | (refine Awp.ret ?_; show endK _ _ _ _ _)
    | refine o_offT rfl rfl rfl (by first | exact .inl rfl | exact .inr rfl) ?_
    | refine o_offU rfl rfl rfl (by first | exact .inl rfl | exact .inr rfl) ?_
    | refine o_offF rfl rfl rfl (by first | exact .inl rfl | exact .inr rfl) ?_
    | (refine o_add rfl rfl rfl rfl ?_ ?_; omega)
    | refine o_len rfl TtOk rfl rfl rfl (fun _ => ?_)
    | refine o_lenOwn rfl TtOk rfl rfl rfl rfl (fun _ => ?_)
    | (refine o_calm rfl TtOk rfl rfl rfl ?_ (fun _ => ?_); first | exact True.intro | exact ⟨rfl, rfl, rfl, rfl⟩ | exact ⟨rfl, True.intro⟩ | exact ⟨rfl, rfl⟩ | exact ⟨rfl, rfl, rfl⟩ | exact rfl | exact ⟨fun h0 => by cases h0, rfl⟩ | exact (fun h0 => by cases h0) | exact ⟨rfl, by omega⟩ | exact ⟨Nat.succ_ne_zero _, rfl⟩ | omega)
    | (refine o_index rfl TtOk rfl rfl rfl rfl rfl rfl ?_ (getq_nat ?_) ?_; omega; omega)
    | (refine o_indexOwn TtOk rfl rfl rfl rfl rfl rfl rfl rfl _ rfl ?_ (fun bO hbO => ?_); (simp only [List.length_map]; omega))
    | (refine o_loadRow TtOk rfl rfl rfl rfl rfl (by assumption) (getq_map (List.getElem?_eq_getElem ?_)) rfl rfl (by first | exact Nat.add_zero _ | rfl) ⟨rfl, rfl⟩ ?_; omega)
    | (refine o_calm rfl TtOk rfl rfl rfl ?_ (fun _ => ?_); (show List.length _ + List.length _ ≤ 9223372036854775807; (try simp only [List.length_append, List.length_cons, List.length_nil]); omega))
    | (refine o_storeRow TtOk rfl rfl rfl rfl rfl rfl (by assumption) (getq_map (List.getElem?_eq_getElem ?_)) rfl rfl (by first | exact Nat.add_zero _ | rfl) ⟨rfl, rfl⟩ rfl rfl ?_; omega)
    | refine o_build TtOk rfl rfl rfl rfl rfl rfl (by repeat' (first | exact True.intro | exact rfl | refine ⟨?_, ?_⟩)) ?_
    | refine o_buildArr0 TtOk rfl rfl rfl rfl ?_
    | refine o_buildSlice TtOk rfl rfl rfl rfl rfl rfl rfl rfl rfl rfl rfl (by repeat' (first | exact True.intro | exact rfl | refine ⟨?_, ?_⟩)) (fun _ => ?_)
    | refine o_eqNil TtOk rfl rfl rfl rfl rfl ?_
    | refine o_eqArr8 TtOk rfl rfl rfl rfl rfl rfl (by kernel_rfl) ?_
    | (fail_if_success (refine o_isLit rfl (by first | exact .inl rfl | exact .inr rfl) ?_)); (refine o_splitP rfl rfl (fun hc => ?_) (fun hc => ?_) <;> try (exfalso; omega))
    | (fail_if_success (refine o_isLit rfl (by first | exact .inl rfl | exact .inr rfl) ?_)); (refine o_splitI rfl rfl (fun hc => ?_) (fun hc => ?_) <;> try (exfalso; omega))
    | (fail_if_success (refine o_isLit rfl (by first | exact .inl rfl | exact .inr rfl) ?_)); (refine o_splitN rfl rfl (fun hc => ?_) (fun hc => ?_) <;> try (exfalso; omega))
    | (fail_if_success (refine o_isLit rfl (by first | exact .inl rfl | exact .inr rfl) ?_)); (refine o_split rfl rfl (fun hc => ?_) (fun hc => ?_)))
  refine o_call [9] [] [] rfl hmk ⟨SLe.of_cle (CLe.fz (.head _)) rfl, True.intro⟩ rfl True.intro rfl rfl ?_
  rintro _ _ ⟨rfl, rfl⟩; refine ⟨_, rfl, rfl, ?_⟩
  repeat' (first
    | refine Awp.seq ?_
    | refine Awp.region ?_
    | (refine Ops.nil ?_; show Awp _ _ _ _ _)
    | (refine Ops.nil ?_; show Exists _)
    | (refine Ops.nil ?_; show endK _ _ _ _ _)
    | (refine Awp.ret ?_; show endK _ _ _ _ _)
    | refine o_offT rfl rfl rfl (by first | exact .inl rfl | exact .inr rfl) ?_
    | refine o_offU rfl rfl rfl (by first | exact .inl rfl | exact .inr rfl) ?_
    | refine o_offF rfl rfl rfl (by first | exact .inl rfl | exact .inr rfl) ?_
    | (refine o_add rfl rfl rfl rfl ?_ ?_; omega)
    | refine o_len rfl TtOk rfl rfl rfl (fun _ => ?_)
    | refine o_lenOwn rfl TtOk rfl rfl rfl rfl (fun _ => ?_)
    | (refine o_calm rfl TtOk rfl rfl rfl ?_ (fun _ => ?_); first | exact True.intro | exact ⟨rfl, rfl, rfl, rfl⟩ | exact ⟨rfl, True.intro⟩ | exact ⟨rfl, rfl⟩ | exact ⟨rfl, rfl, rfl⟩ | exact rfl | exact ⟨fun h0 => by cases h0, rfl⟩ | exact (fun h0 => by cases h0) | exact ⟨rfl, by omega⟩ | exact ⟨Nat.succ_ne_zero _, rfl⟩ | omega)
    | (refine o_index rfl TtOk rfl rfl rfl rfl rfl rfl ?_ (getq_nat ?_) ?_; omega; omega)
    | (refine o_indexOwn TtOk rfl rfl rfl rfl rfl rfl rfl rfl _ rfl ?_ (fun bO hbO => ?_); (simp only [List.length_map]; omega))
    | (refine o_loadRow TtOk rfl rfl rfl rfl rfl (by assumption) (getq_map (List.getElem?_eq_getElem ?_)) rfl rfl (by first | exact Nat.add_zero _ | rfl) ⟨rfl, rfl⟩ ?_; omega)
    | (refine o_calm rfl TtOk rfl rfl rfl ?_ (fun _ => ?_); (show List.length _ + List.length _ ≤ 9223372036854775807; (try simp only [List.length_append, List.length_cons, List.length_nil]); omega))
    | (refine o_storeRow TtOk rfl rfl rfl rfl rfl rfl (by assumption) (getq_map (List.getElem?_eq_getElem ?_)) rfl rfl (by first | exact Nat.add_zero _ | rfl) ⟨rfl, rfl⟩ rfl rfl ?_; omega)
    | refine o_build TtOk rfl rfl rfl rfl rfl rfl (by repeat' (first | exact True.intro | exact rfl | refine ⟨?_, ?_⟩)) ?_
    | refine o_buildArr0 TtOk rfl rfl rfl rfl ?_
    | refine o_buildSlice TtOk rfl rfl rfl rfl rfl rfl rfl rfl rfl rfl rfl (by repeat' (first | exact True.intro | exact rfl | refine ⟨?_, ?_⟩)) (fun _ => ?_)
    | refine o_eqNil TtOk rfl rfl rfl rfl rfl ?_
    | refine o_eqArr8 TtOk rfl rfl rfl rfl rfl rfl (by kernel_rfl) ?_
    | (fail_if_success (refine o_isLit rfl (by first | exact .inl rfl | exact .inr rfl) ?_)); (refine o_splitP rfl rfl (fun hc => ?_) (fun hc => ?_) <;> try (exfalso; omega))
    | (fail_if_success (refine o_isLit rfl (by first | exact .inl rfl | exact .inr rfl) ?_)); (refine o_splitI rfl rfl (fun hc => ?_) (fun hc => ?_) <;> try (exfalso; omega))
    | (fail_if_success (refine o_isLit rfl (by first | exact .inl rfl | exact .inr rfl) ?_)); (refine o_splitN rfl rfl (fun hc => ?_) (fun hc => ?_) <;> try (exfalso; omega))
    | (fail_if_success (refine o_isLit rfl (by first | exact .inl rfl | exact .inr rfl) ?_)); (refine o_split rfl rfl (fun hc => ?_) (fun hc => ?_))
    | (refine o_index rfl TtOk rfl rfl rfl rfl rfl rfl (by decide) rfl ?_)
    | (refine o_eqEnt rfl ⟨[97, 98], [], true⟩ ⟨[97, 98], [], true⟩ rfl rfl rfl ?_)
    | (refine o_call0 rfl (hrd) ⟨SLe.of_eq rfl, True.intro⟩ rfl ?_; rintro _ _ ⟨rfl, rfl⟩; refine ⟨rfl, ?_⟩))
  exact end_tmp rfl rfl rfl [] [] (CLe.of_eq rfl) .nil ⟨rfl, rfl⟩ _ (.inl rfl)
end Go.Proofs.Ytapbbifcipemfaa
