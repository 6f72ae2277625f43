/- ref09.Text, ref09.Make by rules. -/
import Derived.Test.YtapbbifcipemfaaB2
import Derived.Test.YtapbbifcipemfaaS2
set_option maxHeartbeats 8000000
set_option maxRecDepth 100000
namespace Go.Proofs.Ytapbbifcipemfaa
open Go Go.RowKit
def lastK (l : List Etr) (k : Nat) : List UInt8 := (prevAt l k).getD []
theorem lastK_succ (l : List Etr) (k : Nat) (h : k < l.length) : lastK l (k + 1) = l[k].k := by
  show ((l[k]?).map _).getD [] = _
  rw [List.getElem?_eq_getElem h]; rfl
def entH (last : List UInt8) (x : Etr) : List UInt8 := (numBytes (cmn last x.k) ++ txB (x.k.drop (cmn last x.k))) ++ [if x.g then 1 else 0]
def entB (last : List UInt8) (x : Etr) (t : List UInt8) : List UInt8 := if x.g then t ++ entH last x else (t ++ entH last x) ++ txB x.v
def textN (l : List Etr) : Nat → List UInt8
  | 0 => numBytes l.length
  | k + 1 => match l[k]? with
    | some x => entB (lastK l k) x (textN l k)
    | none => []
theorem textN_succ (l : List Etr) (k : Nat) (h : k < l.length) : textN l (k + 1) = entB (lastK l k) l[k] (textN l k) := by
  show (match l[k]? with | some x => _ | none => _) = _
  rw [List.getElem?_eq_getElem h]
theorem txB_len (t : List UInt8) (h : t.length < 9223372036854775808) : (txB t).length ≤ 9 + t.length := by
  unfold txB; rw [List.length_append]; have := numBytes_len t.length h; omega
theorem entH_len (last : List UInt8) (x : Etr) (hx : x.k.length ≤ 110) : (entH last x).length ≤ 129 := by
  have h0 := (cmn_le last x.k).2
  have h1 := numBytes_len (cmn last x.k) (by omega)
  have h2 := txB_len (x.k.drop (cmn last x.k)) (by rw [List.length_drop]; omega)
  rw [List.length_drop] at h2
  unfold entH
  rw [List.length_append, List.length_append, List.length_singleton]; omega
theorem textN_len (l : List Etr) (hm : ∀ e ∈ l, e.k.length ≤ 110 ∧ e.v.length ≤ 4010) (hl : l.length ≤ 300) : ∀ k, k ≤ l.length → (textN l k).length ≤ 9 + 4200 * k
  | 0, _ => numBytes_len l.length (by omega)
  | k + 1, h => by
    have ih := textN_len l hm hl k (by omega)
    have hx := hm _ (List.getElem_mem (show k < l.length by omega))
    rw [textN_succ l k (by omega)]
    have h1 := entH_len (lastK l k) l[k] hx.1
    have h2 := txB_len l[k].v (by omega)
    unfold entB
    split
    · rw [List.length_append]; omega
    · rw [List.length_append, List.length_append]; omega
theorem rtext9_spec (l : List Etr) (hl : l.length ≤ 300) (hm : ∀ e ∈ l, e.k.length ≤ 110 ∧ e.v.length ≤ 4010) : Spec Try.prog 58 [.sl 3 (l.map eA)] [] (fun v os => v = .s (textN l l.length) ∧ os = []) := by
  refine spec_of TtOk [] Try.func58 rfl Try.ntmps58 (by kernel_rfl) rfl rfl (fun C => ?_) rfl
  have h0 := dnumber_spec l.length (by omega)
  repeat' (first
    | refine Awp.seq ?_
    | refine Awp.block ?_
    | refine Awp.region ?_
    | (refine Ops.nil ?_; show Awp _ _ _ _ _)
    | (refine Ops.nil ?_; show Exists _)
    | (refine Ops.nil ?_; show endK _ _ _ _ _)
    | (refine Awp.skip ?_; show Awp _ _ _ _ _)
    | (refine Awp.skip ?_; show endK _ _ _ _ _)
    | (refine Awp.skip ?_; show Exists _)
    | (refine Awp.exit ?_; show Awp _ _ _ _ _)
    | (refine Awp.exit ?_; show Exists _)
    | (refine Awp.exit ?_; show endK _ _ _ _ _)
    | (refine Awp.ret ?_; show endK _ _ _ _ _)
    | (refine o_add rfl rfl rfl rfl ?_ ?_; omega)
    | refine o_len rfl TtOk rfl rfl rfl (fun _ => ?_)
    | refine o_lenOwn rfl TtOk rfl rfl rfl rfl (fun _ => ?_)
    | (refine o_calm rfl TtOk rfl rfl rfl ?_ (fun _ => ?_); first | exact True.intro | exact ⟨rfl, rfl, rfl, rfl⟩ | exact ⟨rfl, True.intro⟩ | exact ⟨rfl, rfl⟩ | exact ⟨rfl, rfl, rfl⟩ | exact rfl | exact ⟨fun h0 => by cases h0, rfl⟩ | exact (fun h0 => by cases h0) | exact ⟨rfl, by omega⟩ | exact ⟨Nat.succ_ne_zero _, rfl⟩ | omega)
    | refine o_alloc (d := 6) rfl TtOk rfl rfl rfl (fun b6 => ?_)
    | refine o_store TtOk rfl rfl rfl rfl rfl rfl rfl ⟨rfl, rfl⟩ rfl rfl rfl rfl rfl ?_
    | (refine o_index rfl TtOk rfl rfl rfl rfl rfl rfl ?_ (getq_nat ?_) ?_; omega; omega)
    | (refine o_indexOwn TtOk rfl rfl rfl rfl rfl rfl rfl rfl _ rfl ?_ (fun bO hbO => ?_); (simp only [List.length_map]; omega))
    | (refine o_loadRow TtOk rfl rfl rfl rfl rfl (by assumption) (getq_map (List.getElem?_eq_getElem ?_)) rfl rfl (by first | exact Nat.add_zero _ | rfl) ⟨rfl, rfl⟩ ?_; omega)
    | (refine o_calm rfl TtOk rfl rfl rfl ?_ (fun _ => ?_); (show List.length _ + List.length _ ≤ 9223372036854775807; (try simp only [List.length_append, List.length_cons, List.length_nil]); omega))
    | (refine o_storeRow TtOk rfl rfl rfl rfl rfl rfl (by assumption) (getq_map (List.getElem?_eq_getElem ?_)) rfl rfl (by first | exact Nat.add_zero _ | rfl) ⟨rfl, rfl⟩ rfl rfl ?_; omega)
    | refine o_sliceCp TtOk rfl rfl rfl rfl rfl rfl ?_
    | refine a_condT rfl ?_
    | refine a_condF rfl ?_
    | (refine a_condP rfl (fun hc => ?_) (fun hc => ?_)) <;> (try (exfalso; omega))
    | (refine a_condI rfl (fun hc => ?_) (fun hc => ?_)) <;> (try (exfalso; omega))
    | (refine a_condN rfl (fun hc => ?_) (fun hc => ?_)) <;> (try (exfalso; omega))
    | (refine Awp.cond rfl (fun hc => ?_) (fun hc => ?_))
    | refine a_any 7 [] [] [] [0, 1, 3, 5, 9, 4, 6, 10, 2, 7, 8, 11, 12, 13, 14] (by kernel_rfl) (by kernel_rfl) (by kernel_rfl) rfl rfl rfl ?_
    | (refine o_call0 rfl (h0) ⟨SLe.of_eq rfl, True.intro⟩ rfl ?_; rintro _ _ ⟨rfl, rfl⟩; refine ⟨rfl, ?_⟩))
  refine Awp.loop (fun k : Nat => ⟨47, [(13, .i .i64 k), (12, .i .i64 l.length), (11, .sl 3 (l.map eA)), (4, .s (lastK l k)), (3, .s (textN l k))], []⟩) (fun k => k ≤ l.length) (fun k => l.length - k) [] 0 (Nat.zero_le _) ?_ ?_
  · exact ⟨rfl, ⟨sle_i rfl, sle_i rfl, sle_sl rfl, sle_s rfl, sle_s rfl, True.intro⟩, .nil⟩
  intro k hk
  by_cases hlt : k < l.length
  · have hx := hm _ (List.getElem_mem hlt)
    have hTl := textN_len l hm hl k hk
    have hsu := textN_succ l k hlt
    have hls := lastK_succ l k hlt
    have hll : (lastK l k).length ≤ 110 := by
      rcases k with _ | m
      · exact Nat.zero_le _
      · rw [lastK_succ l m (by omega)]; exact (hm _ (List.getElem_mem _)).1
    generalize textN l k = T at hTl hsu ⊢
    have hcl := (cmn_le (lastK l k) l[k].k).2
    have hcm := common_spec (lastK l k) l[k].k (by omega) (by omega)
    have hen : entH (lastK l k) l[k] = (numBytes (cmn (lastK l k) l[k].k) ++ txB (l[k].k.drop (cmn (lastK l k) l[k].k))) ++ [if l[k].g then 1 else 0] := rfl
    have heb : entB (lastK l k) l[k] T = if l[k].g then T ++ entH (lastK l k) l[k] else (T ++ entH (lastK l k) l[k]) ++ txB l[k].v := rfl
    generalize cmn (lastK l k) l[k].k = c at hcl hcm hen
    have hn := dnumber_spec c (by omega)
    have hnl := numBytes_len c (by omega)
    have htx := dtext_spec (l[k].k.drop c) (by rw [List.length_drop]; omega)
    have htl := txB_len (l[k].k.drop c) (by rw [List.length_drop]; omega)
    have hdl : (l[k].k.drop c).length ≤ 110 := by rw [List.length_drop]; omega
    have hfl := dflag_spec l[k].g
    have htv := dtext_spec l[k].v (by omega)
    have htvl := txB_len l[k].v (by omega)
    generalize numBytes c = A at hn hnl hen
    generalize txB (l[k].k.drop c) = B at htx htl hen
    generalize txB l[k].v = V at htv htvl heb
    repeat' (first
      | refine Awp.seq ?_
      | refine Awp.block ?_
      | refine Awp.region ?_
      | (refine Ops.nil ?_; show Awp _ _ _ _ _)
      | (refine Ops.nil ?_; show Exists _)
      | (refine Ops.nil ?_; show endK _ _ _ _ _)
      | (refine Awp.skip ?_; show Awp _ _ _ _ _)
      | (refine Awp.skip ?_; show endK _ _ _ _ _)
      | (refine Awp.skip ?_; show Exists _)
      | (refine Awp.exit ?_; show Awp _ _ _ _ _)
      | (refine Awp.exit ?_; show Exists _)
      | (refine Awp.exit ?_; show endK _ _ _ _ _)
      | (refine Awp.ret ?_; show endK _ _ _ _ _)
      | (refine o_add rfl rfl rfl rfl ?_ ?_; omega)
      | refine o_len rfl TtOk rfl rfl rfl (fun _ => ?_)
      | refine o_lenOwn rfl TtOk rfl rfl rfl rfl (fun _ => ?_)
      | (refine o_calm rfl TtOk rfl rfl rfl ?_ (fun _ => ?_); first | exact True.intro | exact ⟨rfl, rfl, rfl, rfl⟩ | exact ⟨rfl, True.intro⟩ | exact ⟨rfl, rfl⟩ | exact ⟨rfl, rfl, rfl⟩ | exact rfl | exact ⟨fun h0 => by cases h0, rfl⟩ | exact (fun h0 => by cases h0) | exact ⟨rfl, by omega⟩ | exact ⟨Nat.succ_ne_zero _, rfl⟩ | omega)
      | refine o_alloc (d := 6) rfl TtOk rfl rfl rfl (fun b6 => ?_)
      | refine o_store TtOk rfl rfl rfl rfl rfl rfl rfl ⟨rfl, rfl⟩ rfl rfl rfl rfl rfl ?_
      | (refine o_index rfl TtOk rfl rfl rfl rfl rfl rfl ?_ (getq_nat ?_) ?_; omega; omega)
      | (refine o_indexOwn TtOk rfl rfl rfl rfl rfl rfl rfl rfl _ rfl ?_ (fun bO hbO => ?_); (simp only [List.length_map]; omega))
      | (refine o_loadRow TtOk rfl rfl rfl rfl rfl (by assumption) (getq_map (List.getElem?_eq_getElem ?_)) rfl rfl (by first | exact Nat.add_zero _ | rfl) ⟨rfl, rfl⟩ ?_; omega)
      | (refine o_calm rfl TtOk rfl rfl rfl ?_ (fun _ => ?_); (show List.length _ + List.length _ ≤ 9223372036854775807; (try simp only [List.length_append, List.length_cons, List.length_nil]); omega))
      | (refine o_storeRow TtOk rfl rfl rfl rfl rfl rfl (by assumption) (getq_map (List.getElem?_eq_getElem ?_)) rfl rfl (by first | exact Nat.add_zero _ | rfl) ⟨rfl, rfl⟩ rfl rfl ?_; omega)
      | refine o_sliceCp TtOk rfl rfl rfl rfl rfl rfl ?_
      | refine a_condT rfl ?_
      | refine a_condF rfl ?_
      | (refine a_condP rfl (fun hc => ?_) (fun hc => ?_)) <;> (try (exfalso; omega))
      | (refine a_condI rfl (fun hc => ?_) (fun hc => ?_)) <;> (try (exfalso; omega))
      | (refine a_condN rfl (fun hc => ?_) (fun hc => ?_)) <;> (try (exfalso; omega))
      | (refine Awp.cond rfl (fun hc => ?_) (fun hc => ?_))
      | refine a_any 7 [] [] [] [0, 1, 3, 5, 9, 4, 6, 10, 2, 7, 8, 11, 12, 13, 14] (by kernel_rfl) (by kernel_rfl) (by kernel_rfl) rfl rfl rfl ?_
      | (refine o_sliceStr TtOk rfl c l[k].k.length rfl rfl rfl (bnd_some rfl rfl) bnd_none hcl (Nat.le_refl _) ?_; rw [List.take_length])
      | (refine o_call0 rfl (hcm) ⟨SLe.of_eq rfl, SLe.of_eq rfl, True.intro⟩ rfl ?_; rintro _ _ ⟨rfl, rfl⟩; refine ⟨rfl, ?_⟩)
      | (refine o_call0 rfl (hn) ⟨SLe.of_eq rfl, True.intro⟩ rfl ?_; rintro _ _ ⟨rfl, rfl⟩; refine ⟨rfl, ?_⟩)
      | (refine o_call0 rfl (htx) ⟨SLe.of_eq rfl, True.intro⟩ rfl ?_; rintro _ _ ⟨rfl, rfl⟩; refine ⟨rfl, ?_⟩)
      | (refine o_call0 rfl (hfl) ⟨SLe.of_eq rfl, True.intro⟩ rfl ?_; rintro _ _ ⟨rfl, rfl⟩; refine ⟨rfl, ?_⟩)
      | (refine o_call0 rfl (htv) ⟨SLe.of_eq rfl, True.intro⟩ rfl ?_; rintro _ _ ⟨rfl, rfl⟩; refine ⟨rfl, ?_⟩))
    · refine ⟨k + 1, [], by omega, by omega, rfl, ⟨sle_i (by omega), sle_i rfl, sle_sl rfl, sle_s hls.symm, sle_s ?_, True.intro⟩, .nil⟩
      have hg : l[k].g = false := by simpa using hc
      rw [hsu, heb, hen, hg]; rfl
    · refine ⟨k + 1, [], by omega, by omega, rfl, ⟨sle_i (by omega), sle_i rfl, sle_sl rfl, sle_s hls.symm, sle_s ?_, True.intro⟩, .nil⟩
      have hg : l[k].g = true := by simpa using hc
      rw [hsu, heb, hen, hg]; rfl
  · have hkl : k = l.length := by omega
    subst hkl
    repeat' (first
      | refine Awp.seq ?_
      | refine Awp.block ?_
      | refine Awp.region ?_
      | (refine Ops.nil ?_; show Awp _ _ _ _ _)
      | (refine Ops.nil ?_; show Exists _)
      | (refine Ops.nil ?_; show endK _ _ _ _ _)
      | (refine Awp.skip ?_; show Awp _ _ _ _ _)
      | (refine Awp.skip ?_; show endK _ _ _ _ _)
      | (refine Awp.skip ?_; show Exists _)
      | (refine Awp.exit ?_; show Awp _ _ _ _ _)
      | (refine Awp.exit ?_; show Exists _)
      | (refine Awp.exit ?_; show endK _ _ _ _ _)
      | (refine Awp.ret ?_; show endK _ _ _ _ _)
      | (refine o_add rfl rfl rfl rfl ?_ ?_; omega)
      | refine o_len rfl TtOk rfl rfl rfl (fun _ => ?_)
      | refine o_lenOwn rfl TtOk rfl rfl rfl rfl (fun _ => ?_)
      | (refine o_calm rfl TtOk rfl rfl rfl ?_ (fun _ => ?_); first | exact True.intro | exact ⟨rfl, rfl, rfl, rfl⟩ | exact ⟨rfl, True.intro⟩ | exact ⟨rfl, rfl⟩ | exact ⟨rfl, rfl, rfl⟩ | exact rfl | exact ⟨fun h0 => by cases h0, rfl⟩ | exact (fun h0 => by cases h0) | exact ⟨rfl, by omega⟩ | exact ⟨Nat.succ_ne_zero _, rfl⟩ | omega)
      | refine o_alloc (d := 6) rfl TtOk rfl rfl rfl (fun b6 => ?_)
      | refine o_store TtOk rfl rfl rfl rfl rfl rfl rfl ⟨rfl, rfl⟩ rfl rfl rfl rfl rfl ?_
      | (refine o_index rfl TtOk rfl rfl rfl rfl rfl rfl ?_ (getq_nat ?_) ?_; omega; omega)
      | (refine o_indexOwn TtOk rfl rfl rfl rfl rfl rfl rfl rfl _ rfl ?_ (fun bO hbO => ?_); (simp only [List.length_map]; omega))
      | (refine o_loadRow TtOk rfl rfl rfl rfl rfl (by assumption) (getq_map (List.getElem?_eq_getElem ?_)) rfl rfl (by first | exact Nat.add_zero _ | rfl) ⟨rfl, rfl⟩ ?_; omega)
      | (refine o_calm rfl TtOk rfl rfl rfl ?_ (fun _ => ?_); (show List.length _ + List.length _ ≤ 9223372036854775807; (try simp only [List.length_append, List.length_cons, List.length_nil]); omega))
      | (refine o_storeRow TtOk rfl rfl rfl rfl rfl rfl (by assumption) (getq_map (List.getElem?_eq_getElem ?_)) rfl rfl (by first | exact Nat.add_zero _ | rfl) ⟨rfl, rfl⟩ rfl rfl ?_; omega)
      | refine o_sliceCp TtOk rfl rfl rfl rfl rfl rfl ?_
      | refine a_condT rfl ?_
      | refine a_condF rfl ?_
      | (refine a_condP rfl (fun hc => ?_) (fun hc => ?_)) <;> (try (exfalso; omega))
      | (refine a_condI rfl (fun hc => ?_) (fun hc => ?_)) <;> (try (exfalso; omega))
      | (refine a_condN rfl (fun hc => ?_) (fun hc => ?_)) <;> (try (exfalso; omega))
      | (refine Awp.cond rfl (fun hc => ?_) (fun hc => ?_))
      | refine a_any 7 [] [] [] [0, 1, 3, 5, 9, 4, 6, 10, 2, 7, 8, 11, 12, 13, 14] (by kernel_rfl) (by kernel_rfl) (by kernel_rfl) rfl rfl rfl ?_)
    exact end_tmp rfl rfl rfl [] [] (CLe.of_eq rfl) .nil ⟨rfl, rfl⟩ _ (.inl rfl)
def make9 (l : List Etr) : List UInt8 × Int :=
  if checkN l ≠ 0 then ([], checkN l) else if 65536 < (textN l l.length).length then ([], 2) else (sealWrap (textN l l.length), 0)
theorem rmake9_spec (l : List Etr) (hl : l.length ≤ 300) (hm : ∀ e ∈ l, e.k.length ≤ 110 ∧ e.v.length ≤ 4010) : Spec Try.prog 32 [.sl 3 (l.map eA)] [] (fun v os => v = .tup [.s (make9 l).1, .i .i64 (make9 l).2] ∧ os = []) := by
  refine spec_of TtOk [] Try.func32 rfl Try.ntmps32 (by kernel_rfl) rfl rfl (fun C => ?_) rfl
  have hck := rcheck9_spec l (by omega) (fun e he => ⟨Nat.le_trans (hm e he).1 (by decide), Nat.le_trans (hm e he).2 (by decide)⟩)
  have htx := rtext9_spec l hl hm
  have hmk : make9 l = if checkN l ≠ 0 then ([], checkN l) else if 65536 < (textN l l.length).length then ([], 2) else (sealWrap (textN l l.length), 0) := rfl
  have hw := fun h => rwrap_spec (textN l l.length) h
  generalize make9 l = q at hmk ⊢
  generalize checkN l = ck at hck hmk
  generalize textN l l.length = T at htx hmk hw
  by_cases hT : T.length ≤ 65536
  · have hw := hw hT
    generalize sealWrap T = S at hw hmk
    repeat' (first
      | refine Awp.seq ?_
      | refine Awp.region ?_
      | (refine Ops.nil ?_; show Awp _ _ _ _ _)
      | (refine Ops.nil ?_; show Exists _)
      | (refine Ops.nil ?_; show endK _ _ _ _ _)
      | (refine Awp.skip ?_; show Awp _ _ _ _ _)
      | (refine Awp.skip ?_; show endK _ _ _ _ _)
      | (refine Awp.skip ?_; show Exists _)
      | (refine Awp.ret ?_; show endK _ _ _ _ _)
      | refine o_len rfl TtOk rfl rfl rfl (fun _ => ?_)
      | refine o_lenOwn rfl TtOk rfl rfl rfl rfl (fun _ => ?_)
      | (refine o_calm rfl TtOk rfl rfl rfl ?_ (fun _ => ?_); first | exact True.intro | exact ⟨rfl, rfl, rfl, rfl⟩ | exact ⟨rfl, True.intro⟩ | exact ⟨rfl, rfl⟩ | exact ⟨rfl, rfl, rfl⟩ | exact rfl | exact ⟨fun h0 => by cases h0, rfl⟩ | exact (fun h0 => by cases h0) | exact ⟨rfl, by omega⟩ | exact ⟨Nat.succ_ne_zero _, rfl⟩ | omega)
      | refine a_condT rfl ?_
      | refine a_condF rfl ?_
      | (refine a_condP rfl (fun hc => ?_) (fun hc => ?_)) <;> (try (exfalso; omega))
      | (refine a_condI rfl (fun hc => ?_) (fun hc => ?_)) <;> (try (exfalso; omega))
      | (refine a_condN rfl (fun hc => ?_) (fun hc => ?_)) <;> (try (exfalso; omega))
      | (refine Awp.cond rfl (fun hc => ?_) (fun hc => ?_))
      | (refine o_call0 rfl (hck) ⟨SLe.of_eq rfl, True.intro⟩ rfl ?_; rintro _ _ ⟨rfl, rfl⟩; refine ⟨rfl, ?_⟩)
      | (refine o_call0 rfl (htx) ⟨SLe.of_eq rfl, True.intro⟩ rfl ?_; rintro _ _ ⟨rfl, rfl⟩; refine ⟨rfl, ?_⟩)
      | (refine o_call0 rfl (hw) ⟨SLe.of_eq rfl, True.intro⟩ rfl ?_; rintro _ _ ⟨rfl, rfl⟩; refine ⟨rfl, ?_⟩))
    · rw [if_pos hc] at hmk; subst hmk
      refine end_all [] [] (.tup [.s [], .i .i64 ck]) rfl ?_ ?_ (rle_tup2 (CLe.refl _) (CLe.refl _) rfl rfl) .nil ⟨rfl, rfl⟩ _ (.inl rfl)
      · repeat' (first | exact True.intro | exact rfl | refine ⟨?_, ?_⟩)
      · exact ⟨trivial, trivial, trivial⟩
    · rw [if_neg (by omega), if_neg (by omega)] at hmk; subst hmk
      refine end_all [] [] (.tup [.s S, .i .i64 0]) rfl ?_ ?_ (rle_tup2 (CLe.refl _) (CLe.refl _) rfl rfl) .nil ⟨rfl, rfl⟩ _ (.inl rfl)
      · repeat' (first | exact True.intro | exact rfl | refine ⟨?_, ?_⟩)
      · exact ⟨trivial, trivial, trivial⟩
  · repeat' (first
      | refine Awp.seq ?_
      | refine Awp.region ?_
      | (refine Ops.nil ?_; show Awp _ _ _ _ _)
      | (refine Ops.nil ?_; show Exists _)
      | (refine Ops.nil ?_; show endK _ _ _ _ _)
      | (refine Awp.skip ?_; show Awp _ _ _ _ _)
      | (refine Awp.skip ?_; show endK _ _ _ _ _)
      | (refine Awp.skip ?_; show Exists _)
      | (refine Awp.ret ?_; show endK _ _ _ _ _)
      | refine o_len rfl TtOk rfl rfl rfl (fun _ => ?_)
      | refine o_lenOwn rfl TtOk rfl rfl rfl rfl (fun _ => ?_)
      | (refine o_calm rfl TtOk rfl rfl rfl ?_ (fun _ => ?_); first | exact True.intro | exact ⟨rfl, rfl, rfl, rfl⟩ | exact ⟨rfl, True.intro⟩ | exact ⟨rfl, rfl⟩ | exact ⟨rfl, rfl, rfl⟩ | exact rfl | exact ⟨fun h0 => by cases h0, rfl⟩ | exact (fun h0 => by cases h0) | exact ⟨rfl, by omega⟩ | exact ⟨Nat.succ_ne_zero _, rfl⟩ | omega)
      | refine a_condT rfl ?_
      | refine a_condF rfl ?_
      | (refine a_condP rfl (fun hc => ?_) (fun hc => ?_)) <;> (try (exfalso; omega))
      | (refine a_condI rfl (fun hc => ?_) (fun hc => ?_)) <;> (try (exfalso; omega))
      | (refine a_condN rfl (fun hc => ?_) (fun hc => ?_)) <;> (try (exfalso; omega))
      | (refine Awp.cond rfl (fun hc => ?_) (fun hc => ?_))
      | (refine o_call0 rfl (hck) ⟨SLe.of_eq rfl, True.intro⟩ rfl ?_; rintro _ _ ⟨rfl, rfl⟩; refine ⟨rfl, ?_⟩)
      | (refine o_call0 rfl (htx) ⟨SLe.of_eq rfl, True.intro⟩ rfl ?_; rintro _ _ ⟨rfl, rfl⟩; refine ⟨rfl, ?_⟩))
    · rw [if_pos hc] at hmk; subst hmk
      refine end_all [] [] (.tup [.s [], .i .i64 ck]) rfl ?_ ?_ (rle_tup2 (CLe.refl _) (CLe.refl _) rfl rfl) .nil ⟨rfl, rfl⟩ _ (.inl rfl)
      · repeat' (first | exact True.intro | exact rfl | refine ⟨?_, ?_⟩)
      · exact ⟨trivial, trivial, trivial⟩
    · rw [if_neg (by omega), if_pos (by omega)] at hmk; subst hmk
      refine end_all [] [] (.tup [.s [], .i .i64 2]) rfl ?_ ?_ (rle_tup2 (CLe.refl _) (CLe.refl _) rfl rfl) .nil ⟨rfl, rfl⟩ _ (.inl rfl)
      · repeat' (first | exact True.intro | exact rfl | refine ⟨?_, ?_⟩)
      · exact ⟨trivial, trivial, trivial⟩
end Go.Proofs.Ytapbbifcipemfaa
