/- ref18.Bytes by rules. -/
import Derived.Test.YtcmgpkibjdbonaaGreatPP4Z
import Derived.Test.YtcmgpkibjdbonaaGreatPF5Z
import Derived.Test.YtcmgpkibjdbonaaGreatZQ2
import Derived.Test.YtcmgpkibjdbonaaGreatV9
import Derived.ProofKit
import Derived.OpenShut
import Derived.Deep.Slices
import Derived.ChangeOld
set_option maxHeartbeats 16000000
set_option maxRecDepth 100000
namespace Go.Proofs.YtcmgpkibjdbonaaGreat
open Go Go.RowKit
def ptB : List UInt8 → List Itm → Option (List UInt8)
  | t, [] => some t
  | t, x :: r => if goodI x = true then ptB (t ++ itmBy x) r else none
def finP : Option (List UInt8) → List UInt8 × Int
  | none => ([], 1)
  | some b => (b, 0)
theorem bysL_pt : ∀ (l : List Itm) (t : List UInt8), (∀ x ∈ l, x.ok) → t.length + 82 * l.length ≤ 65536 → bysL ⟨t, 0⟩ l = finP (ptB t l)
  | [], t, _, h => by
    have h : t.length ≤ 65536 := h
    show (WS.mk t 0).done = (t, 0)
    unfold WS.done
    rw [if_neg (fun h => h rfl), if_neg (by show ¬ 65536 < t.length; omega)]
  | x :: r, t, hok, h => by
    rw [bysL, ptB]
    rw [List.length_cons] at h
    by_cases gx : goodI x = true
    · obtain ⟨b1, b2, b3, b4⟩ := good_bnd gx
      have hl := itmBy_len (hok x (List.mem_cons_self ..)) (by omega) (by omega) b1 b3
      rw [if_pos gx, if_pos gx, WS.itm_put b1 b3]
      exact bysL_pt r _ (fun y hy => hok y (List.mem_cons_of_mem _ hy)) (by show (t ++ itmBy x).length + 82 * r.length ≤ 65536; rw [List.length_append]; omega)
    · rw [if_neg gx, if_neg gx]; rfl
theorem bysT_pt {path : List Itm} {t : List UInt8} (hok : ∀ x ∈ path, x.ok) (ht : t.length ≤ 300) : bysT ⟨t, 0⟩ path = if 256 < path.length then ([], 2) else finP (ptB (t ++ numBytes path.length) path) := by
  unfold bysT
  by_cases h : 256 < path.length
  · rw [if_pos h, if_pos h]
  · rw [if_neg h, if_neg h, ws_num]
    have hn := numBytes_len path.length (by omega)
    exact bysL_pt path _ hok (by show (t ++ numBytes path.length).length + 82 * path.length ≤ 65536; rw [List.length_append]; omega)
theorem w0_num (n : Nat) : w0.number (n : Int) = ⟨numBytes n, 0⟩ := by rw [ws_num]; rfl
theorem w0_text (n : Nat) {t : List UInt8} (h : t.length ≤ 65536) : (w0.number (n : Int)).text t = ⟨numBytes n ++ (numBytes t.length ++ t), 0⟩ := by rw [w0_num, ws_text _ h]; rfl
theorem rbytes18_spec (p : Prf) (hp : p.ok) (he : p.e < 9223372036854775808) (hpl : p.path.length ≤ 9223372036854775807) : Spec Tryz.prog 46 [p.R] [] (fun v os => v = .tup [.s (bysP p).1, .i .i64 (bysP p).2] ∧ os = []) := by
  obtain ⟨W, hW⟩ : ∃ W, bysP p = W := ⟨_, rfl⟩
  rw [hW]
  obtain ⟨e, lf, a, b, path⟩ := p
  obtain ⟨olf, oa, ob, opa⟩ := hp
  dsimp only at olf oa ob opa he hpl
  unfold bysP at hW
  dsimp only at hW
  have hlf0 : lf.A = .agg [labA lf.l, labA lf.v, .i .i64 lf.t] := rfl
  show Spec Tryz.prog 46 [.agg [.i .i64 e, lf.A, a.R, b.R, .sl 66 (path.map Itm.R)]] [] _
  rw [hlf0]
  refine spec_of TtOk [] Tryz.func46 rfl Tryz.ntmps46 (by kernel_rfl) rfl rfl (fun C => ?_) rfl
  refine Awp.seq ?_
  repeat' (first | refine Awp.region ?_ | refine Ops.nil (nqA ?_) | (refine o_calm rfl TtOk rfl rfl rfl ?_ (fun _ => ?_); exact nd) | refine o_box (d := 1) rfl rfl rfl rfl (fun b1 => ?_))
  refine Awp.seqI (X := Unit) (fun _ => ⟨82, [(1, .ptr 1 b1 [] 0), (4, .s (numBytes (if 0 < e then e else 0).toNat))], [(1, .var b1 (.agg [.i .i64 e, .agg [labA lf.l, labA lf.v, .i .i64 lf.t], a.R, b.R, .sl 66 (path.map Itm.R)]))]⟩) (fun _ => True) ?_ (fun _ _ => ?_)
  · have k0 := dnumber_spec (if 0 < e then e else 0).toNat (by split <;> omega)
    by_cases he0 : 0 < e
    · rw [if_pos he0] at k0 ⊢
      repeat' (first | refine Awp.region ?_ | refine Ops.nil (nqX ?_) | (refine o_calm rfl TtOk rfl rfl rfl ?_ (fun _ => ?_); exact nd) | refine o_callE rfl (k0) ⟨sle_i (by omega), True.intro⟩ rfl ?_)
      all_goals exact ⟨(), [], trivial, rfl, ⟨sle_ptr, sle_s rfl, True.intro⟩, HLe.cons 1 rfl (HOLe.refl _) .nil⟩
    · rw [if_neg he0] at k0 ⊢
      repeat' (first | refine Awp.region ?_ | refine Ops.nil (nqX ?_) | (refine o_calm rfl TtOk rfl rfl rfl ?_ (fun _ => ?_); exact nd) | refine o_callE rfl (k0) ⟨sle_i (by omega), True.intro⟩ rfl ?_)
      all_goals exact ⟨(), [], trivial, rfl, ⟨sle_ptr, sle_s rfl, True.intro⟩, HLe.cons 1 rfl (HOLe.refl _) .nil⟩
  refine Awp.seqI (X := List UInt8) (fun q => ⟨82, [(1, .ptr 1 b1 [] 0), (4, .s q)], [(1, .var b1 (.agg [.i .i64 e, .agg [labA lf.l, labA lf.v, .i .i64 lf.t], a.R, b.R, .sl 66 (path.map Itm.R)]))]⟩) (fun q => bysT ⟨q, 0⟩ path = W ∧ q.length ≤ 300) ?_ ?_
  · by_cases h0 : e = 0
    · subst h0
      rw [if_pos rfl, show w0.number 0 = ⟨numBytes 0, 0⟩ from w0_num 0] at hW
      have hn := numBytes_len 0 (by decide)
      have hz : (if (0 : Int) < 0 then (0 : Int) else 0).toNat = 0 := rfl
      rw [hz]
      generalize numBytes 0 = u at *
      repeat' (first | refine Awp.seq ?_ | refine Awp.block ?_ | refine Awp.region ?_ | refine Ops.nil (nqA ?_) | refine Awp.skip (nqX ?_) | (refine o_calm rfl TtOk rfl rfl rfl ?_ (fun _ => ?_); exact nd) | refine a_condT rfl ?_)
      all_goals exact ⟨u, [], ⟨hW, by show u.length ≤ 300; omega⟩, rfl, ⟨sle_ptr, sle_s rfl, True.intro⟩, HLe.cons 1 rfl (HOLe.refl _) .nil⟩
    rw [if_neg h0] at hW
    by_cases h1 : e = 1
    · subst h1
      rw [if_pos rfl] at hW
      have hz : (if (0 : Int) < 1 then (1 : Int) else 0).toNat = 1 := rfl
      rw [hz]
      by_cases hc : chkLf lf = 0
      · have ht := chkLf_t hc
        have hl := lefBy_len olf (by omega) ht.1
        have k1 := rleafText_spec lf olf ⟨ht.1, by omega⟩
        have k2 := dtext_spec (0 :: lefBy lf) (by rw [List.length_cons]; omega)
        rw [lf_by olf hc, if_neg (fun h => h rfl), show w0.number 1 = w0.number ((1 : Nat) : Int) from rfl, w0_text 1 (by rw [List.length_cons]; omega)] at hW
        have hx : txB (0 :: lefBy lf) = numBytes (0 :: lefBy lf).length ++ (0 :: lefBy lf) := rfl
        rw [hx] at k2
        have n1 := numBytes_len 1 (by decide)
        have n2 := numBytes_len (0 :: lefBy lf).length (by rw [List.length_cons]; omega)
        have hl2 : (0 :: lefBy lf).length ≤ 74 := by rw [List.length_cons]; omega
        rw [hlf0] at k1
        clear hx
        generalize (0 :: lefBy lf) = u at *
        generalize numBytes u.length = w at *
        generalize numBytes 1 = z at *
        have hzl : (z ++ (w ++ u)).length ≤ 300 := by rw [List.length_append, List.length_append]; omega
        repeat' (first | refine Awp.seq ?_ | refine Awp.block ?_ | refine Awp.region ?_ | refine Ops.nil (nqA ?_) | refine Ops.nil (nqX ?_) | refine Awp.skip (nqA ?_) | (refine o_calm rfl TtOk rfl rfl rfl ?_ (fun _ => ?_); exact nd) | (refine o_calm rfl TtOk rfl rfl rfl ?_ (fun _ => ?_); (show List.length _ + List.length _ ≤ 9223372036854775807; (repeat' (first | rw [List.length_append] | rw [List.length_map] | rw [List.length_cons] | rw [List.length_nil] | rw [List.length_take] | rw [List.length_drop])) <;> omega)) | (fail_if_success (refine o_isLit rfl (by first | exact .inl rfl | exact .inr rfl) ?_)); (refine o_splitP rfl rfl (fun hc => ?_) (fun hc => ?_) <;> try (exfalso; omega)) | refine a_condT rfl ?_ | refine a_condF rfl ?_ | (refine a_condP rfl (fun hc => ?_) (fun hc => ?_)) <;> (try (exfalso; omega)) | refine o_callE rfl (k1) ⟨nqS, True.intro⟩ rfl ?_ | refine o_callE rfl (k2) ⟨nqS, True.intro⟩ rfl ?_)
        all_goals exact ⟨z ++ (w ++ u), [], ⟨hW, hzl⟩, rfl, ⟨sle_ptr, sle_s rfl, True.intro⟩, HLe.cons 1 rfl (HOLe.refl _) .nil⟩
      · have hc1 : chkLf lf = 1 ∧ (lf.t < 0 ∨ 1073741824 < lf.t) := by
          unfold chkLf at hc ⊢
          split
          · exact ⟨rfl, ‹_›⟩
          · rename_i hh; rw [if_neg hh] at hc; exact absurd rfl hc
        have hb : lfBy lf = ([], 1) := by unfold lfBy; rw [hc1.1]; rfl
        rw [hb, if_pos (by decide)] at hW
        subst hW
        have hc2 := hc1.2
        repeat' (first | refine Awp.seq ?_ | refine Awp.block ?_ | refine Awp.region ?_ | refine Ops.nil (nqA ?_) | refine Awp.ret (nqE ?_) | refine o_noF rfl rfl rfl ?_ | (refine o_calm rfl TtOk rfl rfl rfl ?_ (fun _ => ?_); exact nd) | (fail_if_success (refine o_isLit rfl (by first | exact .inl rfl | exact .inr rfl) ?_)); (refine o_splitP rfl rfl (fun hc => ?_) (fun hc => ?_) <;> try (exfalso; omega)) | refine a_condT rfl ?_ | refine a_condF rfl ?_ | (refine a_condP rfl (fun hc => ?_) (fun hc => ?_)) <;> (try (exfalso; omega)))
        all_goals
          refine end_all [] [] (.tup [.s [], .i .i64 (1)]) rfl ?_ ?_ (rle_tup2 (CLe.of_eq rfl) (CLe.of_eq rfl) rfl rfl) .nil ⟨rfl, rfl⟩ _ (.inl rfl)
          · exact nq1
          · exact ⟨trivial, trivial, trivial⟩
    rw [if_neg h1] at hW
    by_cases h2 : e = 2
    · subst h2
      rw [if_pos rfl] at hW
      have hz : (if (0 : Int) < 2 then (2 : Int) else 0).toNat = 2 := rfl
      rw [hz]
      have k3 := rchk15_spec a b oa ob
      by_cases hc : chkN a b = 0
      · obtain ⟨ga, gb⟩ := chkN_goods hc
        obtain ⟨a1, a2, a3, a4⟩ := good_bnd ga
        obtain ⟨c1, c2, c3, c4⟩ := good_bnd gb
        have la := itmBy_len oa (by omega) (by omega) a1 a3
        have lb := itmBy_len ob (by omega) (by omega) c1 c3
        have k4 := rwrite15_spec a oa ⟨a1, by omega⟩ ⟨a3, by omega⟩
        have k5 := rwrite15_spec b ob ⟨c1, by omega⟩ ⟨c3, by omega⟩
        have k6 := dflag_spec true
        have hl2 : (([1] ++ itmBy a) ++ itmBy b).length ≤ 200 := by rw [List.length_append, List.length_append]; show 1 + _ + _ ≤ 200; omega
        have k7 := dtext_spec (([1] ++ itmBy a) ++ itmBy b) (by omega)
        have hcat : (1 :: (itmBy a ++ itmBy b)) = (([1] ++ itmBy a) ++ itmBy b) := by rw [List.append_assoc]; rfl
        rw [(in_by oa ob hc).1, if_neg (fun h => h rfl), hcat, show w0.number 2 = w0.number ((2 : Nat) : Int) from rfl] at hW
        replace hW : bysT ((w0.number ((2 : Nat) : Int)).text (([1] ++ itmBy a) ++ itmBy b)) path = W := hW
        rw [w0_text 2 (by omega)] at hW
        clear hcat
        have hx : txB (([1] ++ itmBy a) ++ itmBy b) = numBytes (([1] ++ itmBy a) ++ itmBy b).length ++ (([1] ++ itmBy a) ++ itmBy b) := rfl
        rw [hx] at k7
        have n1 := numBytes_len 2 (by decide)
        have n2 := numBytes_len (([1] ++ itmBy a) ++ itmBy b).length (by omega)
        have k6 : Spec Tryz.prog 142 [.b true] [] (fun v os => v = .s [1] ∧ os = []) := k6
        rw [hc] at k3
        clear hx
        generalize itmBy a = u1 at *
        generalize itmBy b = u2 at *
        generalize hu : ([1] ++ u1) ++ u2 = u at *
        generalize numBytes u.length = w at *
        generalize numBytes 2 = z at *
        have hzl : (z ++ (w ++ u)).length ≤ 300 := by rw [List.length_append, List.length_append]; omega
        subst hu
        repeat' (first | refine Awp.seq ?_ | refine Awp.block ?_ | refine Awp.region ?_ | refine Ops.nil (nqA ?_) | refine Ops.nil (nqX ?_) | refine Awp.skip (nqA ?_) | (refine o_calm rfl TtOk rfl rfl rfl ?_ (fun _ => ?_); exact nd) | (refine o_calm rfl TtOk rfl rfl rfl ?_ (fun _ => ?_); (show List.length _ + List.length _ ≤ 9223372036854775807; (repeat' (first | rw [List.length_append] | rw [List.length_map] | rw [List.length_cons] | rw [List.length_nil] | rw [List.length_take] | rw [List.length_drop])) <;> omega)) | refine a_condT rfl ?_ | refine a_condF rfl ?_ | refine a_any 13 [] [] [] [0, 2, 6, 3, 7, 1, 4, 5, 8, 9, 10, 11, 12] (by kernel_rfl) (by kernel_rfl) (by kernel_rfl) rfl rfl rfl ?_ | refine o_callE rfl (k3) ⟨nqS, nqS, True.intro⟩ rfl ?_ | refine o_callE rfl (k4) ⟨nqS, True.intro⟩ rfl ?_ | refine o_callE rfl (k5) ⟨nqS, True.intro⟩ rfl ?_ | refine o_callE rfl (k6) ⟨nqS, True.intro⟩ rfl ?_ | refine o_callE rfl (k7) ⟨nqS, True.intro⟩ rfl ?_)
        all_goals exact ⟨z ++ (w ++ (([1] ++ u1) ++ u2)), [], ⟨hW, hzl⟩, rfl, ⟨sle_ptr, sle_s rfl, True.intro⟩, HLe.cons 1 rfl (HOLe.refl _) .nil⟩
      · have hb : inBy a b = ([], chkN a b) := by unfold inBy; rw [if_pos hc]
        rw [hb, if_pos hc] at hW
        subst hW
        clear hb
        generalize chkN a b = c at *
        repeat' (first | refine Awp.seq ?_ | refine Awp.block ?_ | refine Awp.region ?_ | refine Ops.nil (nqA ?_) | refine Awp.ret (nqE ?_) | (refine o_calm rfl TtOk rfl rfl rfl ?_ (fun _ => ?_); exact nd) | refine a_condT rfl ?_ | refine a_condF rfl ?_ | (refine a_condN rfl (fun hc => ?_) (fun hc => ?_)) <;> (try (exfalso; omega)) | refine o_callE rfl (k3) ⟨nqS, nqS, True.intro⟩ rfl ?_)
        all_goals
          refine end_all [] [] (.tup [.s [], .i .i64 (c)]) rfl ?_ ?_ (rle_tup2 (CLe.of_eq rfl) (CLe.of_eq rfl) rfl rfl) .nil ⟨rfl, rfl⟩ _ (.inl rfl)
          · exact nq1
          · exact ⟨trivial, trivial, trivial⟩
    · rw [if_neg h2] at hW
      subst hW
      generalize numBytes _ = u
      repeat' (first | refine Awp.seq ?_ | refine Awp.block ?_ | refine Awp.region ?_ | refine Ops.nil (nqA ?_) | refine Awp.ret (nqE ?_) | (refine o_calm rfl TtOk rfl rfl rfl ?_ (fun _ => ?_); exact nd) | (refine a_condP rfl (fun hc => ?_) (fun hc => ?_)) <;> (try (exfalso; omega)))
      all_goals
        refine end_all [] [] (.tup [.s [], .i .i64 (1)]) rfl ?_ ?_ (rle_tup2 (CLe.of_eq rfl) (CLe.of_eq rfl) rfl rfl) .nil ⟨rfl, rfl⟩ _ (.inl rfl)
        · exact nq1
        · exact ⟨trivial, trivial, trivial⟩
  clear hW he
  rintro u ⟨hW, hul⟩
  rw [bysT_pt opa hul] at hW
  by_cases h256 : 256 < path.length
  · rw [if_pos h256] at hW
    subst hW
    repeat' (first | refine Awp.seq ?_ | refine Awp.region ?_ | refine Ops.nil (nqA ?_) | refine Awp.ret (nqE ?_) | refine o_len rfl TtOk rfl rfl rfl (fun _ => ?_) | (refine o_calm rfl TtOk rfl rfl rfl ?_ (fun _ => ?_); exact nd) | (refine a_condP rfl (fun hc => ?_) (fun hc => ?_)) <;> (try (exfalso; omega)))
    all_goals
      refine end_all [] [] (.tup [.s [], .i .i64 (2)]) rfl ?_ ?_ (rle_tup2 (CLe.of_eq rfl) (CLe.of_eq rfl) rfl rfl) .nil ⟨rfl, rfl⟩ _ (.inl rfl)
      · exact nq1
      · exact ⟨trivial, trivial, trivial⟩
  rw [if_neg h256] at hW
  have k1 := dnumber_spec path.length (by omega)
  have n1 := numBytes_len path.length (by omega)
  generalize numBytes path.length = z at *
  have hzl : (u ++ z).length ≤ 309 + 82 * 0 := by rw [List.length_append]; omega
  repeat' (first | refine Awp.seq ?_ | refine Awp.block ?_ | refine Awp.region ?_ | refine Ops.nil (nqA ?_) | refine Awp.skip (nqA ?_) | refine o_len rfl TtOk rfl rfl rfl (fun _ => ?_) | (refine o_calm rfl TtOk rfl rfl rfl ?_ (fun _ => ?_); exact nd) | (refine o_calm rfl TtOk rfl rfl rfl ?_ (fun _ => ?_); (show List.length _ + List.length _ ≤ 9223372036854775807; (repeat' (first | rw [List.length_append] | rw [List.length_map] | rw [List.length_cons] | rw [List.length_nil] | rw [List.length_take] | rw [List.length_drop])) <;> omega)) | (refine a_condP rfl (fun hc => ?_) (fun hc => ?_)) <;> (try (exfalso; omega)) | refine o_callE rfl (k1) ⟨nqS, True.intro⟩ rfl ?_)
  refine Awp.loop (fun q : Nat × List UInt8 => ⟨82, [(69, .i .i64 q.1), (68, .i .i64 path.length), (67, .sl 66 (path.map Itm.R)), (4, .s q.2)], []⟩) (fun q => q.1 ≤ path.length ∧ q.2.length ≤ 309 + 82 * q.1 ∧ finP (ptB q.2 (path.drop q.1)) = W) (fun q => path.length - q.1) [] (0, u ++ z) ⟨Nat.zero_le _, hzl, hW⟩ ?_ ?_
  · exact ⟨rfl, ⟨sle_i rfl, sle_i rfl, sle_sl rfl, sle_s rfl, True.intro⟩, .nil⟩
  clear hW n1 k1 hzl
  rintro ⟨i, t⟩ ⟨hi, htl, hst⟩
  dsimp only at hi htl hst ⊢
  by_cases hlt : i < path.length
  · have hi1 : ((i : Int) + 1 = ((i + 1 : Nat) : Int)) := by omega
    rw [List.drop_eq_getElem_cons hlt, ptB] at hst
    have hxo := opa _ (List.getElem_mem hlt)
    have k2 := rgood15_spec path[i] hxo
    by_cases hg : goodI path[i] = true
    · obtain ⟨b1', b2', b3', b4'⟩ := good_bnd hg
      have k3 := rwrite15_spec path[i] hxo ⟨b1', by omega⟩ ⟨b3', by omega⟩
      have hil := itmBy_len hxo (by omega) (by omega) b1' b3'
      rw [if_pos hg] at hst
      rw [hg] at k2
      generalize itmBy path[i] = u at *
      repeat' (first | refine Awp.seq ?_ | refine Awp.block ?_ | refine Awp.region ?_ | refine Ops.nil (nqA ?_) | refine Ops.nil (nqX ?_) | refine Awp.skip (nqA ?_) | (refine o_add rfl rfl rfl rfl ?_ ?_; omega) | (refine o_calm rfl TtOk rfl rfl rfl ?_ (fun _ => ?_); exact nd) | refine o_alloc (d := 7) rfl TtOk rfl rfl rfl (fun b7 => ?_) | refine o_store TtOk rfl rfl rfl rfl rfl rfl rfl ⟨rfl, rfl⟩ rfl rfl rfl rfl rfl ?_ | (refine o_index rfl TtOk rfl rfl rfl rfl rfl rfl ?_ (getq_nat ?_) ?_; omega; omega) | (refine o_calm rfl TtOk rfl rfl rfl ?_ (fun _ => ?_); (show List.length _ + List.length _ ≤ 9223372036854775807; (repeat' (first | rw [List.length_append] | rw [List.length_map] | rw [List.length_cons] | rw [List.length_nil] | rw [List.length_take] | rw [List.length_drop])) <;> omega)) | refine a_condF rfl ?_ | (refine a_condP rfl (fun hc => ?_) (fun hc => ?_)) <;> (try (exfalso; omega)) | refine o_callE rfl (k2) ⟨nqS, True.intro⟩ rfl ?_ | refine o_callE rfl (k3) ⟨nqS, True.intro⟩ rfl ?_)
      all_goals exact ⟨(i + 1, t ++ u), [], ⟨hlt, by show (t ++ u).length ≤ 309 + 82 * (i + 1); rw [List.length_append]; omega, hst⟩, by show path.length - (i + 1) < path.length - i; omega, rfl, ⟨sle_i hi1, sle_i rfl, sle_sl rfl, sle_s rfl, True.intro⟩, .nil⟩
    · rw [if_neg hg] at hst
      have hst : ([], (1 : Int)) = W := hst
      subst hst
      have hg : goodI path[i] = false := by cases h : goodI path[i] with | true => exact absurd h hg | false => rfl
      rw [hg] at k2
      repeat' (first | refine Awp.seq ?_ | refine Awp.block ?_ | refine Awp.region ?_ | refine Ops.nil (nqA ?_) | refine Awp.skip (nqA ?_) | refine Awp.ret (nqE ?_) | (refine o_calm rfl TtOk rfl rfl rfl ?_ (fun _ => ?_); exact nd) | refine o_alloc (d := 7) rfl TtOk rfl rfl rfl (fun b7 => ?_) | refine o_store TtOk rfl rfl rfl rfl rfl rfl rfl ⟨rfl, rfl⟩ rfl rfl rfl rfl rfl ?_ | (refine o_index rfl TtOk rfl rfl rfl rfl rfl rfl ?_ (getq_nat ?_) ?_; omega; omega) | refine a_condT rfl ?_ | (refine a_condP rfl (fun hc => ?_) (fun hc => ?_)) <;> (try (exfalso; omega)) | refine o_callE rfl (k2) ⟨nqS, True.intro⟩ rfl ?_)
      all_goals
        refine end_all [] [] (.tup [.s [], .i .i64 (1)]) rfl ?_ ?_ (rle_tup2 (CLe.of_eq rfl) (CLe.of_eq rfl) rfl rfl) .nil ⟨rfl, rfl⟩ _ (.inl rfl)
        · exact nq1
        · exact ⟨trivial, trivial, trivial⟩
  · rw [show path.drop i = [] from List.drop_eq_nil_of_le (by omega)] at hst
    have hst : (t, (0 : Int)) = W := hst
    subst hst
    repeat' (first | refine Awp.seq ?_ | refine Awp.region ?_ | refine Ops.nil (nqA ?_) | refine Awp.exit (nqA ?_) | refine Awp.ret (nqE ?_) | (refine o_calm rfl TtOk rfl rfl rfl ?_ (fun _ => ?_); exact nd) | (refine a_condP rfl (fun hc => ?_) (fun hc => ?_)) <;> (try (exfalso; omega)))
    all_goals
      refine end_all [] [] (.tup [.s t, .i .i64 0]) rfl ?_ ?_ (rle_tup2 (CLe.of_eq rfl) (CLe.of_eq rfl) rfl rfl) .nil ⟨rfl, rfl⟩ _ (.inl rfl)
      · exact nq1
      · exact ⟨trivial, trivial, trivial⟩
end Go.Proofs.YtcmgpkibjdbonaaGreat
set_option maxHeartbeats 16000000
set_option maxRecDepth 100000
namespace Go.Proofs.YtcmgpkibjdbonaaGreat
open Go Go.RowKit
theorem rdL_len (e : Int) (lf : Lef) (a b : Itm) : ∀ (k : Nat) (p : List Itm) (r : RS), (rdL e lf a b k p r).1.path.length ≤ p.length + k
  | 0, p, r => by
    rw [rdL]
    split
    · exact Nat.zero_le _
    · exact Nat.le_refl _
  | k + 1, p, r => by
    rw [rdL]
    split
    · exact Nat.zero_le _
    split
    · have h := rdL_len e lf a b k (p ++ [r.itm.1]) r.itm.2
      rw [List.length_append, List.length_singleton] at h
      omega
    · exact Nat.zero_le _
theorem rdT_len (e : Int) (lf : Lef) (a b : Itm) (r : RS) : (rdT e lf a b r).1.path.length ≤ 300 := by
  have h := rdL_len e lf a b (r.below 257).1 [] (r.below 257).2
  have h2 := below_lt r 257 (by decide)
  have h3 : ([] : List Itm).length = 0 := rfl
  unfold rdT
  have h4 : (r.below 257).1 = (r.below ((257 : Nat) : Int)).1 := rfl
  omega
theorem prRd_len (s : List UInt8) : (prRd s).1.path.length ≤ 300 := by
  unfold prRd
  dsimp only
  split
  · exact rdT_len _ _ _ _ _
  split
  · exact Nat.zero_le _
  split
  · exact Nat.zero_le _
  unfold rdN
  split
  · split
    · exact rdT_len _ _ _ _ _
    · exact Nat.zero_le _
  · split
    · exact rdT_len _ _ _ _ _
    · exact Nat.zero_le _
  · exact Nat.zero_le _
theorem proofReads_spec (s0 : List UInt8) (p0 : Prf) (hs0 : s0.length ≤ 9223372036854775807) (hp0 : p0.path.length ≤ 9223372036854775807) (hok0 : p0.ok) (he0 : p0.e < 9223372036854775808) : Spec Tryz.prog 7 [.s s0, p0.A] [] (fun v os => v = .b true ∧ os = []) := by
  have f1 : Spec Tryz.prog 37 [.s s0, .i .i64 3000] [] (fun v os => v = .s (s0.take 3000) ∧ os = []) := cut_spec s0 3000 (by decide)
  have hs : (s0.take 3000).length ≤ 9223372036854775807 := by rw [List.length_take]; omega
  generalize s0.take 3000 = s at *
  have f2 := cut18_spec p0 hp0
  obtain ⟨okp, hpl⟩ := cutP_ok hok0
  have hpe : (cutP18 p0).e < 9223372036854775808 := he0
  generalize cutP18 p0 = p at *
  have k1 := pread_spec s hs
  have k2 := rread18_spec s hs
  have k3 := told18_spec (prRd s).1 (prRd_len s)
  have k4 := same18_spec (prRd s).1
  have k5 := pbytes_spec p okp hpe
  have k6 := rbytes18_spec p okp hpe (by omega)
  have k7 := told18_spec p hpl
  have k8 := awake18_spec
  have hpA0 : p0.A = .agg [.i .i64 p0.e, p0.lf.A, .agg [p0.a.A, p0.b.A], .sl 66 (p0.path.map Itm.A)] := rfl
  have hpA : p.A = .agg [.i .i64 p.e, p.lf.A, .agg [p.a.A, p.b.A], .sl 66 (p.path.map Itm.A)] := rfl
  have hpR : p.R = .agg [.i .i64 p.e, p.lf.A, p.a.R, p.b.R, .sl 66 (p.path.map Itm.R)] := rfl
  rw [hpA0] at f2 ⊢
  rw [hpA] at f2 k5 k7
  rw [hpR] at k6 k7
  generalize prRd s = Q at *
  obtain ⟨q, e⟩ := Q
  dsimp only at k1 k2 k3 k4
  have hqA : q.A = .agg [.i .i64 q.e, q.lf.A, .agg [q.a.A, q.b.A], .sl 66 (q.path.map Itm.A)] := rfl
  have hqR : q.R = .agg [.i .i64 q.e, q.lf.A, q.a.R, q.b.R, .sl 66 (q.path.map Itm.R)] := rfl
  rw [hqA] at k1 k3
  rw [hqR] at k2 k3 k4
  generalize bysP p = B at *
  obtain ⟨u, f⟩ := B
  dsimp only at k5 k6
  clear hpA0 hpA hpR hqA hqR okp hpe hok0 he0
  refine spec_of TtOk [] Tryz.func7 rfl Tryz.ntmps7 (by kernel_rfl) rfl rfl (fun C => ?_) rfl
  have hqq : (u == u) = true := beq_self_eq_true u
  repeat' (first | (rw [hqq]) | refine Awp.seq ?_ | refine Awp.region ?_ | refine Ops.nil (nqA ?_) | refine Awp.skip (nqA ?_) | refine Awp.ret (nqE ?_) | (refine o_calm rfl TtOk rfl rfl rfl ?_ (fun _ => ?_); exact nd) | refine o_alloc (d := 5) rfl TtOk rfl rfl rfl (fun b5 => ?_) | refine o_alloc (d := 7) rfl TtOk rfl rfl rfl (fun b7 => ?_) | refine o_box (d := 3) rfl rfl rfl rfl (fun b3 => ?_) | refine o_store TtOk rfl rfl rfl rfl rfl rfl rfl ⟨rfl, rfl⟩ rfl rfl rfl rfl rfl ?_ | (fail_if_success (refine o_isLit rfl (by first | exact .inl rfl | exact .inr rfl) ?_)); (refine o_splitP rfl rfl (fun hc => ?_) (fun hc => ?_) <;> try (exfalso; omega)) | (fail_if_success (refine o_isLit rfl (by first | exact .inl rfl | exact .inr rfl) ?_)); (refine o_splitN rfl rfl (fun hc => ?_) (fun hc => ?_) <;> try (exfalso; omega)) | refine a_condF rfl ?_ | refine a_any 5 [] [] [] [0, 1, 2, 3, 4, 5, 6, 7, 8, 10, 9, 11, 12, 13] (by kernel_rfl) (by kernel_rfl) (by kernel_rfl) rfl rfl rfl ?_ | refine o_callE rfl (f1) ⟨nqS, nqS, True.intro⟩ rfl ?_ | refine o_callE rfl (f2) ⟨nqS, True.intro⟩ rfl ?_ | refine o_callE rfl (k1) ⟨nqS, True.intro⟩ rfl ?_ | refine o_callE rfl (k2) ⟨nqS, True.intro⟩ rfl ?_ | refine o_callE rfl (k3) ⟨nqS, True.intro⟩ rfl ?_ | refine o_callE rfl (k4) ⟨nqS, nqS, True.intro⟩ rfl ?_ | refine o_callE rfl (k5) ⟨nqS, True.intro⟩ rfl ?_ | refine o_callE rfl (k6) ⟨nqS, True.intro⟩ rfl ?_ | refine o_callE rfl (k7) ⟨nqS, True.intro⟩ rfl ?_ | (refine o_call0 rfl (k8) True.intro rfl ?_; rintro _ _ ⟨rfl, rfl⟩; refine ⟨rfl, ?_⟩))
  all_goals exact nq2
end Go.Proofs.YtcmgpkibjdbonaaGreat
namespace Go.Proofs.YtcmgpkibjdbonaaGreat
open Go Go.RowKit Go.ChangeShapes Go.WideShapes Go.Deep

/-- A type's shape. -/
inductive Sh where
  | b | i (k : IntKind) | s | sl (sz : Nat) (e : Sh) | agg (fs : List Sh) | arr (sz n : Nat) (e : Sh)
mutual
def has : Sh → AV → Prop
  | .b, a => ∃ x, a = .b x
  | .i k, a => ∃ n, a = .i k n ∧ k.min ≤ n ∧ n ≤ k.max
  | .s, a => ∃ x, a = .s x ∧ x.length ≤ 9223372036854775807
  | .sl sz e, a => ∃ xs, a = .sl sz xs ∧ xs.length ≤ 9223372036854775807 ∧ ∀ x ∈ xs, has e x
  | .agg fs, a => ∃ xs, a = .agg xs ∧ hasL fs xs
  | .arr sz n e, a => ∃ xs, a = .arr sz n xs ∧ xs.length = n ∧ ∀ x ∈ xs, has e x
def hasL : List Sh → List AV → Prop
  | [], xs => xs = []
  | f :: fs, xs => ∃ y ys, xs = y :: ys ∧ has f y ∧ hasL fs ys
end
def shFields (T : List (Nat × TI)) (rec : Nat → Option Sh) : Nat → List (Nat × Nat) → Option (List Sh)
  | _, [] => some []
  | off, (o, ft) :: r => match tget T ft, rec ft, shFields T rec (off + ((tget T ft).map (·.sz)).getD 0) r with
    | some _, some sc, some rs => bif Nat.beq o off then some (sc :: rs) else none
    | _, _, _ => none
def endF (T : List (Nat × TI)) : Nat → List (Nat × Nat) → Nat
  | off, [] => off
  | off, (_, ft) :: r => endF T (off + ((tget T ft).map (·.sz)).getD 0) r
def shOf (T : List (Nat × TI)) : Nat → Nat → Option Sh
  | 0, _ => none
  | fuel + 1, t => match tget T t with
    | some ⟨.bool, _, _, _⟩ => some .b
    | some ⟨.int k, _, _, _⟩ => some (.i k)
    | some ⟨.string, _, _, _⟩ => some .s
    | some ⟨.slice e, _, _, _⟩ => match tget T e, shOf T fuel e with
      | some te, some sc => bif Nat.blt 0 te.sz then some (.sl te.sz sc) else none
      | _, _ => none
    | some ⟨.struct fs, sz, _, _⟩ => match shFields T (shOf T fuel) 0 fs with
      | some ss => bif Nat.beq (endF T 0 fs) sz then some (.agg ss) else none
      | none => none
    | some ⟨.array n e, sz, _, _⟩ => match tget T e, shOf T fuel e with
      | some te, some sc => bif Nat.beq sz (n * te.sz) then some (.arr te.sz n sc) else none
      | _, _ => none
    | _ => none
theorem choose_list {α : Type} {n : Nat} {p : Nat → α → Prop} (h : ∀ i, i < n → ∃ x, p i x) : ∃ l : List α, l.length = n ∧ ∀ i (hi : i < l.length), p i l[i] := by
  induction n with
  | zero => exact ⟨[], rfl, fun i hi => by simp at hi⟩
  | succ n ih =>
    obtain ⟨l, hl, hp⟩ := ih (fun i hi => h i (by omega))
    obtain ⟨x, hx⟩ := h n (by omega)
    refine ⟨l ++ [x], by simp [hl], fun i hi => ?_⟩
    by_cases h1 : i < l.length
    · rw [List.getElem_append_left h1]; exact hp i h1
    · have : i = l.length := by simp at hi; omega
      subst this
      rw [List.getElem_append_right (by omega)]
      simp only [Nat.sub_self, List.getElem_cons_zero]
      rw [hl]; exact hx
section
variable {H : Type} {enc : TypeId × Value → H} {P : Program} {w : World} {T : List (Nat × TI)}
theorem TOk.cellsOf {t : Nat} {ti : TI} (h : TOk P t ti) : P.cellsOf t = ti.sz := by
  obtain ⟨i, h1, h2, _⟩ := h.inf
  unfold Program.cellsOf; rw [h1]; simpa using h2
theorem repA_mk {F : Nat → Prop} {sz : Nat} : ∀ (xs : List AV) (cs : List Value), cs.length = xs.length * sz → (∀ i (hi : i < xs.length), repC w F xs[i] ((cs.drop (i * sz)).take sz)) → repA w F sz xs cs
  | [], cs, hl, _ => by simp only [repA]; simpa using hl
  | x :: xs, cs, hl, h => by
    simp only [repA]
    rw [List.length_cons, Nat.add_mul] at hl
    refine ⟨cs.take sz, cs.drop sz, (List.take_append_drop _ _).symm, by have h0 := h 0 (Nat.succ_pos _); rw [Nat.zero_mul, List.drop_zero] at h0; exact h0, by rw [List.length_take]; omega, repA_mk xs _ (by rw [List.length_drop]; omega) (fun i hi => ?_)⟩
    have := h (i + 1) (by simp; omega)
    rw [List.getElem_cons_succ] at this
    rw [List.drop_drop, show sz + i * sz = (i + 1) * sz by rw [Nat.add_mul]; omega]
    exact this
theorem repRow_mk {F : Nat → Prop} {sz b : Nat} : ∀ (xs : List AV) (off : Nat), (∀ i (hi : i < xs.length), ∃ cs, repC w F xs[i] cs ∧ cs.length = sz ∧ w.rangeAt b (off + i * sz) cs) → repRow w F b off sz xs
  | [], _, _ => trivial
  | x :: xs, off, h => by
    simp only [repRow]
    refine ⟨by have h0 := h 0 (Nat.succ_pos _); rw [Nat.zero_mul, Nat.add_zero] at h0; exact h0, repRow_mk xs _ (fun i hi => ?_)⟩
    obtain ⟨cs, h1, h2, h3⟩ := h (i + 1) (by simp; omega)
    rw [List.getElem_cons_succ] at h1
    exact ⟨cs, h1, h2, by rw [show off + sz + i * sz = off + (i + 1) * sz by rw [Nat.add_mul]; omega]; exact h3⟩
theorem open_fields (hT : TTOk P T) {rec : Nat → Option Sh} {n : Nat} {F : Nat → Prop}
    (ih : ∀ t sh, rec t = some sh → ∀ (cs : List Value) (x : DataW H × List MemPlace), DataW.trod enc P w 0 (fun _ => true) true n t cs = some x → ∃ a, has sh a ∧ repC w F a cs) :
    ∀ (fs : List (Nat × Nat)) (off : Nat) (ss : List Sh) (cs : List Value), shFields T rec off fs = some ss → cs.length = endF T off fs →
      (∀ (i : Nat) o ft, fs[i]? = some (o, ft) → ∃ x, DataW.trod enc P w 0 (fun _ => true) true n ft ((cs.drop o).take (P.cellsOf ft)) = some x) → ∃ xs, hasL ss xs ∧ repL w F xs (cs.drop off)
  | [], off, ss, cs, h, hl, _ => by
    simp only [shFields, Option.some.injEq] at h
    subst h
    refine ⟨[], rfl, ?_⟩
    simp only [repL, endF] at hl ⊢
    exact List.drop_eq_nil_of_le (by omega)
  | (o, ft) :: r, off, ss, cs, h, hl, hx => by
    simp only [shFields] at h
    split at h
    case h_2 => cases h
    rename_i ti sc rs h1 h2 h3
    cases hb : Nat.beq o off with
    | false => rw [hb] at h; cases h
    | true =>
      rw [hb] at h
      simp only [cond_true, Option.some.injEq] at h
      subst h
      have := Nat.eq_of_beq_eq_true hb
      subst this
      rw [h1] at h3
      simp only [endF, h1] at hl
      simp only [Option.map_some, Option.getD_some] at h3 hl
      obtain ⟨x, hx0⟩ := hx 0 o ft rfl
      rw [(tget_ok hT h1).cellsOf] at hx0
      obtain ⟨a, ha, hc⟩ := ih ft sc h2 _ _ hx0
      obtain ⟨xs, hxs, hr⟩ := open_fields hT ih r (o + ti.sz) rs cs h3 hl (fun i o' ft' hi => hx (i + 1) o' ft' hi)
      refine ⟨a :: xs, ⟨a, xs, rfl, ha, hxs⟩, ?_⟩
      simp only [repL]
      refine ⟨_, _, ?_, hc, hr⟩
      rw [← List.drop_drop, List.take_append_drop]
theorem open_sh (hT : TTOk P T) : ∀ (fuel : Nat) (t : Nat) (sh : Sh), shOf T fuel t = some sh → ∀ (f : Nat) (cs : List Value) (x : DataW H × List MemPlace), DataW.trod enc P w 0 (fun _ => true) true f t cs = some x →
    ∃ a, has sh a ∧ repC w (fun b => b < w.heap.size) a cs
  | 0, t, sh, h, _, _, _, _ => by cases h
  | fuel + 1, t, sh, h, f, cs, x, hx => by
    unfold shOf at h
    cases ht : tget T t with
    | none => rw [ht] at h; cases h
    | some ti =>
      rw [ht] at h
      have hok := tget_ok hT ht
      obtain ⟨d, hd, hk⟩ := hok.desc
      obtain ⟨k, sz, by_, z⟩ := ti
      cases k <;> first | (simp only [Option.some.injEq] at h; subst h) | skip
      case bool =>
        have hd' : P.underlying t = some .bool := by rw [hd]; cases d <;> first | rfl | cases hk
        obtain ⟨c, e0, _⟩ := DataW.trod_bool hd' hx
        exact ⟨.b c, ⟨c, rfl⟩, by simpa [repC] using e0⟩
      case int k =>
        obtain ⟨c, e0, _, hw⟩ := DataW.trod_int (tk_int hok) hx
        refine ⟨.i k c, ⟨c, rfl, ?_⟩, by simpa [repC] using e0⟩
        simpa [Lit.wf] using hw
      case string =>
        obtain ⟨c, e0, _, hw⟩ := DataW.trod_string (tk_string hok) hx
        refine ⟨.s c.data.toList, ⟨_, rfl, by unfold maxLen at hw; simpa using hw⟩, ?_⟩
        simp only [repC]
        exact ⟨by rw [bytesOf_data]; exact e0, by simpa using hw⟩
      case slice e =>
        simp only at h
        split at h
        case h_2 => cases h
        rename_i te sc h1 h2
        cases hp : Nat.blt 0 te.sz with
        | false => rw [hp] at h; cases h
        | true =>
          rw [hp] at h
          simp only [cond_true, Option.some.injEq] at h
          subst h
          have hpos : 0 < te.sz := Nat.le_of_ble_eq_true hp
          have hc := (tget_ok hT h1).cellsOf
          rcases open_slice (tk_slice hok) hx with ⟨h0, _⟩ | ⟨a, len, cap, m, n, D, Pl, hcs, hb, hl, hm, hmm, hx', hi⟩
          · refine ⟨.sl te.sz [], ⟨[], rfl, by simp, by simp⟩, ?_⟩
            simp only [repC]
            exact ⟨none, 0, h0, Nat.le_refl _, Nat.zero_le _, fun h => absurd rfl h⟩
          · have hmc : m = cap := by rw [hmm, if_pos rfl]
            obtain ⟨ys, hyl, hyp⟩ := choose_list (n := len) (p := fun i y => ∃ cs', w.cells? 0 (a.add (i * te.sz)) te.sz = some cs' ∧ has sc y ∧ repC w (fun b => b < w.heap.size) y cs') (fun i hi' => by
              obtain ⟨cs', hc', ht'⟩ := hi i (by omega)
              rw [hc] at hc'
              obtain ⟨y, h3, h4⟩ := open_sh hT fuel e sc h2 n cs' _ ht'
              exact ⟨y, cs', hc', h3, h4⟩)
            have hspot : len ≠ 0 → a.spot = none ∧ a.block < w.heap.size := by
              intro hne
              obtain ⟨cs', hc', _⟩ := hyp 0 (by omega)
              obtain ⟨_, h3, h4⟩ := World.cells?_some hc'
              have h5 := h4 0 hpos
              rw [List.getElem?_eq_getElem (by omega)] at h5
              exact ⟨by simpa [Addr.add] using World.cell?_spot h5, by simpa [Addr.add] using World.block_lt_of_cell? w _ h5⟩
            refine ⟨.sl te.sz ys, ⟨ys, rfl, by unfold maxLen at hm; omega, fun y hy => ?_⟩, ?_⟩
            · obtain ⟨i, hi', rfl⟩ := List.mem_iff_getElem.1 hy
              obtain ⟨_, _, h3, _⟩ := hyp i hi'
              exact h3
            · simp only [repC]
              refine ⟨some a, cap, by rw [hcs, hyl], by omega, hm, fun hne => ?_⟩
              have hne' : len ≠ 0 := by rw [← hyl]; simpa using hne
              obtain ⟨hs1, hs2⟩ := hspot hne'
              obtain ⟨b, off, sp⟩ := a
              simp only at hs1 hs2
              subst hs1
              refine ⟨b, off, rfl, hs2, repRow_mk _ _ (fun i hi' => ?_)⟩
              obtain ⟨cs', hc', _, h4⟩ := hyp i hi'
              obtain ⟨_, h5, h6⟩ := World.cells?_some hc'
              refine ⟨cs', h4, h5, fun j u hu => ?_⟩
              have hj : j < te.sz := by rw [← h5]; exact (List.getElem?_eq_some_iff.1 hu).1
              have := h6 j hj
              rw [Addr.add_mid, Addr.add_mid] at this
              rw [this]; exact hu
      case struct fs =>
        simp only at h
        split at h
        case h_2 => cases h
        rename_i ss h1
        cases hp : Nat.beq (endF T 0 fs) sz with
        | false => rw [hp] at h; cases h
        | true =>
          rw [hp] at h
          simp only [cond_true, Option.some.injEq] at h
          subst h
          have hsz := Nat.eq_of_beq_eq_true hp
          obtain ⟨fs0, hd', hfs⟩ : ∃ fs0, P.underlying t = some (.struct fs0) ∧ fs = fs0.toList.map fun f => (f.offset, f.type) := by
            cases d <;> first | cases hk | skip
            exact ⟨_, hd, rfl⟩
          obtain ⟨xs, n, _, _, hcl, hxl, hf⟩ := DataW.trod_struct hd' hx
          rw [hok.cellsOf] at hcl
          obtain ⟨ys, hys, hr⟩ := open_fields (enc := enc) (w := w) hT (n := n) (F := fun b => b < w.heap.size) (fun t sh h cs x hx => open_sh hT fuel t sh h n cs x hx) fs 0 ss cs h1 (by rw [hcl]; exact hsz.symm) (fun i o ft hi => by
            subst hfs
            rw [List.getElem?_map] at hi
            cases hg : fs0.toList[i]? with
            | none => rw [hg] at hi; cases hi
            | some fd =>
              rw [hg] at hi
              simp only [Option.map_some, Option.some.injEq, Prod.mk.injEq] at hi
              obtain ⟨rfl, rfl⟩ := hi
              rw [Array.getElem?_toList] at hg
              have h3 := hf i fd hg
              have h4 : i < xs.length := by rw [hxl]; exact (Array.getElem?_eq_some_iff.1 hg).1
              rw [List.getElem?_eq_getElem h4] at h3
              exact ⟨_, h3⟩)
          refine ⟨.agg ys, ⟨ys, rfl, hys⟩, ?_⟩
          simp only [repC]
          exact hr
      case array n e =>
        simp only at h
        split at h
        case h_2 => cases h
        rename_i te sc h1 h2
        cases hp : Nat.beq sz (n * te.sz) with
        | false => rw [hp] at h; cases h
        | true =>
          rw [hp] at h
          simp only [cond_true, Option.some.injEq] at h
          subst h
          have hsz := Nat.eq_of_beq_eq_true hp
          have hc := (tget_ok hT h1).cellsOf
          obtain ⟨xs, m, _, _, hcl, hxl, hf⟩ := DataW.trod_array (tk_array hok) hx
          rw [hok.cellsOf] at hcl
          rw [hc] at hf
          obtain ⟨ys, hyl, hyp⟩ := choose_list (n := n) (p := fun i y => has sc y ∧ repC w (fun b => b < w.heap.size) y ((cs.drop (i * te.sz)).take te.sz)) (fun i hi' => by
            have h3 := hf i hi'
            rw [List.getElem?_eq_getElem (by omega)] at h3
            exact open_sh hT fuel e sc h2 m _ _ h3)
          refine ⟨.arr te.sz n ys, ⟨ys, rfl, hyl, fun y hy => ?_⟩, ?_⟩
          · obtain ⟨i, hi', rfl⟩ := List.mem_iff_getElem.1 hy
            exact (hyp i hi').1
          · simp only [repC]
            exact ⟨hyl, repA_mk _ _ (by rw [hyl, hcl]; exact hsz) (fun i hi' => (hyp i hi').2)⟩
      all_goals cases h
theorem open_val (hT : TTOk P T) (fuel : Nat) {t : Nat} {sh : Sh} (hs : shOf T fuel t = some sh) {base : Nat} {v : Value} {d : DataW H} {p : List MemPlace} (hv : Value.okWide P w .any base t v) (h : DataW.Trod enc P w 0 (fun _ => true) true t v d p) :
    ∃ a, has sh a ∧ repV w (fun b => b < w.heap.size) a v := by
  obtain ⟨f, hf⟩ := h
  obtain ⟨a, ha, hc⟩ := open_sh hT fuel t sh hs f _ _ hf
  refine ⟨a, ha, ?_⟩
  have key : v = ofCells a v.cells.toList := by
    cases fuel with
    | zero => cases hs
    | succ fuel =>
      unfold shOf at hs
      cases ht : tget T t with
      | none => rw [ht] at hs; cases hs
      | some ti =>
        rw [ht] at hs
        have hok := tget_ok hT ht
        obtain ⟨dd, hd, hk⟩ := hok.desc
        obtain ⟨k, sz, by_, z⟩ := ti
        cases k <;> first | (simp only [Option.some.injEq] at hs; subst hs) | skip
        case bool =>
          have hd' : P.underlying t = some .bool := by rw [hd]; cases dd <;> first | rfl | cases hk
          obtain ⟨c, rfl⟩ := okWide_bool hd' hv
          obtain ⟨x, rfl⟩ := ha; rfl
        case int k =>
          obtain ⟨k', c, rfl⟩ := okWide_int (tk_int hok) hv
          obtain ⟨x, rfl, _⟩ := ha; rfl
        case string =>
          obtain ⟨c, rfl⟩ := okWide_string (tk_string hok) hv
          obtain ⟨x, rfl, _⟩ := ha; rfl
        case slice e =>
          obtain ⟨c, _, _, rfl⟩ := okWide_slice (tk_slice hok) hv
          simp only at hs
          split at hs
          case h_2 => cases hs
          rename_i te sc h1 h2
          cases hp : Nat.blt 0 te.sz with
          | false => rw [hp] at hs; cases hs
          | true =>
            rw [hp] at hs
            simp only [cond_true, Option.some.injEq] at hs
            subst hs
            obtain ⟨x, rfl, _⟩ := ha; rfl
        case struct fs =>
          obtain ⟨fs0, hd'⟩ : ∃ fs0, P.underlying t = some (.struct fs0) := by
            cases dd <;> first | cases hk | skip
            exact ⟨_, hd⟩
          obtain ⟨cs, rfl, _⟩ := okWide_struct hd' hv
          simp only at hs
          split at hs
          case h_2 => cases hs
          cases hp : Nat.beq (endF T 0 fs) sz with
          | false => rw [hp] at hs; cases hs
          | true =>
            rw [hp] at hs
            simp only [cond_true, Option.some.injEq] at hs
            subst hs
            obtain ⟨x, rfl, _⟩ := ha; rfl
        case array n e =>
          have hcs : ∃ cs, v = .agg cs := by
            have h := hv
            simp only [Value.okWide, tk_array hok] at h
            obtain ⟨cs, h1, _⟩ := h
            exact ⟨cs, h1⟩
          obtain ⟨cs, rfl⟩ := hcs
          simp only at hs
          split at hs
          case h_2 => cases hs
          rename_i te sc h1 h2
          cases hp : Nat.beq sz (n * te.sz) with
          | false => rw [hp] at hs; cases hs
          | true =>
            rw [hp] at hs
            simp only [cond_true, Option.some.injEq] at hs
            subst hs
            obtain ⟨x, rfl, _⟩ := ha; rfl
        all_goals cases hs
  rw [key]
  exact repV_mk hc
/-- A law that is proved true by rules returns true, and leaves all that was there as it was. -/
theorem law_run {f : FuncId} {args : List AV} (h : Spec P f args [] (fun v os => v = .b true ∧ os = [])) {vals : List Value} (hr : repVs w (fun b => b < w.heap.size) args vals) :
    Calls P f vals.toArray w fun e w' => e = .returned (.bool true) ∧ Below w.heap.size w w' := by
  refine (h.run w vals (fun b => b < w.heap.size) (fun b hb => ⟨hb, by simp [oblks]⟩) ⟨fun o ho => (by cases ho), List.nodup_nil, fun b hb => (by cases hb)⟩ hr).mono ?_
  rintro e w' ⟨v, r, os', rfl, ⟨rfl, rfl⟩, hm, _, _, hv⟩
  obtain ⟨cs, hc, rfl⟩ := hv
  simp only [repC] at hc
  subst hc
  exact ⟨rfl, hm.to_below (fun k _ hk => by simp [oblks] at hk) (Nat.le_refl _)⟩
theorem repVs_nil {F : Nat → Prop} : repVs w F [] [] := ⟨rfl, fun i x v h => by simp at h⟩
theorem repVs_cons {F : Nat → Prop} {a : AV} {v : Value} {avs : List AV} {vs : List Value} (h : repV w F a v) (hs : repVs w F avs vs) : repVs w F (a :: avs) (v :: vs) :=
  ⟨by simp [hs.1], fun i x u hx hu => by
    cases i with
    | zero =>
      simp only [List.getElem?_cons_zero, Option.some.injEq] at hx hu
      subst hx; subst hu; exact h
    | succ i => exact hs.2 i x u (by simpa using hx) (by simpa using hu)⟩
end
/-! What a shape says, in the words of a law. -/
theorem has_list {α : Type} {f : α → AV} {Q : α → Prop} {e : Sh} (he : ∀ x, has e x → ∃ t, x = f t ∧ Q t) : ∀ {xs : List AV}, (∀ x ∈ xs, has e x) → ∃ l : List α, xs = l.map f ∧ ∀ t ∈ l, Q t
  | [], _ => ⟨[], rfl, by simp⟩
  | x :: xs, h => by
    obtain ⟨t, rfl, hq⟩ := he x (h x (by simp))
    obtain ⟨l, rfl, hl⟩ := has_list he (xs := xs) (fun y hy => h y (by simp [hy]))
    exact ⟨t :: l, rfl, fun y hy => by
      rcases List.mem_cons.1 hy with rfl | hy
      · exact hq
      · exact hl y hy⟩
theorem has_slice {α : Type} {f : α → AV} {Q : α → Prop} {sz : Nat} {e : Sh} (he : ∀ x, has e x → ∃ t, x = f t ∧ Q t) {a : AV} (h : has (.sl sz e) a) : ∃ l : List α, a = .sl sz (l.map f) ∧ l.length ≤ 9223372036854775807 ∧ ∀ t ∈ l, Q t := by
  obtain ⟨xs, rfl, h1, h2⟩ := h
  obtain ⟨l, rfl, hl⟩ := has_list he h2
  exact ⟨l, rfl, by simpa using h1, hl⟩
theorem has_int {a : AV} (h : has (.i .i64) a) : ∃ n : Int, a = .i .i64 n ∧ -9223372036854775808 ≤ n ∧ n ≤ 9223372036854775807 := by
  obtain ⟨n, rfl, h1, h2⟩ := h
  exact ⟨n, rfl, by simpa [IntKind.min, IntKind.signed, IntKind.bits] using h1, by simpa [IntKind.max, IntKind.signed, IntKind.bits] using h2⟩
theorem has_str {a : AV} (h : has .s a) : ∃ x : List UInt8, a = .s x ∧ x.length ≤ 9223372036854775807 := h
theorem has_byte {a : AV} (h : has (.i .u8) a) : ∃ c : UInt8, a = .i .u8 (c.toNat : Int) ∧ True := by
  obtain ⟨n, rfl, h1, h2⟩ := h
  simp [IntKind.min, IntKind.max, IntKind.signed, IntKind.bits] at h1 h2
  refine ⟨UInt8.ofNat n.toNat, ?_, trivial⟩
  rw [UInt8.toNat_ofNat', show ((n.toNat % 2 ^ 8 : Nat) : Int) = n by omega]
theorem has_bytes {sz k : Nat} {a : AV} (h : has (.arr sz k (.i .u8)) a) : ∃ l : List UInt8, a = .arr sz k (l.map fun c => .i .u8 (c.toNat : Int)) ∧ l.length = k := by
  obtain ⟨xs, rfl, h1, h2⟩ := h
  obtain ⟨l, rfl, _⟩ := has_list (f := fun c : UInt8 => AV.i .u8 (c.toNat : Int)) (fun x hx => has_byte hx) h2
  exact ⟨l, rfl, by simpa using h1⟩
end Go.Proofs.YtcmgpkibjdbonaaGreat
