/- ref19.Bytes by rules. -/
import Derived.Test.YtcmgpkibjdbonaaGreatZR1Z
import Derived.Test.YtcmgpkibjdbonaaGreatV20Z
import Derived.Test.YtcmgpkibjdbonaaGreatN3Z
set_option maxHeartbeats 16000000
set_option maxRecDepth 100000
namespace Go.Proofs.YtcmgpkibjdbonaaGreat
open Go Go.RowKit
def itB : List UInt8 → List Itm → Option (List UInt8)
  | t, [] => some t
  | t, x :: r => if goodI x = true then itB (t ++ itmBy x) r else none
def lfB : List UInt8 → List Lef → Option (List UInt8)
  | t, [] => some t
  | t, x :: r => if chkLf x = 0 then lfB (t ++ lefBy x) r else none
def lsB : List UInt8 → List (List Lef) → Option (List UInt8)
  | t, [] => some t
  | t, l :: r => (lfB (t ++ numBytes l.length) l).bind (fun u => lsB u r)
def finB : Option (List UInt8) → List UInt8 × Int
  | none => ([], 1)
  | some b => if 65536 < b.length then ([], 2) else (b, 0)
theorem wIs_itB : ∀ (l : List Itm) (t : List UInt8), wIs ⟨t, 0⟩ l = (itB t l).map (fun u => ⟨u, 0⟩)
  | [], _ => rfl
  | x :: r, t => by
    rw [wIs, itB]
    by_cases gx : goodI x = true
    · obtain ⟨b1, _, b3, _⟩ := good_bnd gx
      rw [if_pos gx, if_pos gx, WS.itm_put b1 b3]
      exact wIs_itB r _
    · rw [if_neg gx, if_neg gx]; rfl
theorem wLs_lfB : ∀ (l : List Lef) (t : List UInt8), wLs ⟨t, 0⟩ l = (lfB t l).map (fun u => ⟨u, 0⟩)
  | [], _ => rfl
  | x :: r, t => by
    rw [wLs, lfB]
    by_cases gx : chkLf x = 0
    · rw [if_pos gx, if_pos gx, WS.lef_put (chkLf_t gx).1]
      exact wLs_lfB r _
    · rw [if_neg gx, if_neg gx]; rfl
theorem bysS_eq {s : Stp} (h : ¬ (2000 < s.same.length ∨ 500 < s.old.length ∨ 500 < s.new.length)) : bysS s = finB ((itB (numBytes s.same.length) s.same).bind (fun u => lsB u [s.old, s.new])) := by
  unfold bysS
  rw [if_neg h, ws_num]
  show fin19 ((wIs ⟨[] ++ numBytes s.same.length, 0⟩ s.same).bind _) = _
  rw [List.nil_append, wIs_itB]
  cases itB (numBytes s.same.length) s.same with
  | none => rfl
  | some u =>
    show fin19 ((wLs (WS.number ⟨u, 0⟩ s.old.length) s.old).bind _) = finB ((lfB (u ++ numBytes s.old.length) s.old).bind (fun u => (lfB (u ++ numBytes s.new.length) s.new).bind some))
    rw [ws_num]
    show fin19 ((wLs ⟨u ++ numBytes s.old.length, 0⟩ s.old).bind _) = _
    rw [wLs_lfB]
    cases lfB (u ++ numBytes s.old.length) s.old with
    | none => rfl
    | some v =>
      show fin19 (wLs (WS.number ⟨v, 0⟩ s.new.length) s.new) = finB ((lfB (v ++ numBytes s.new.length) s.new).bind some)
      rw [ws_num]
      show fin19 (wLs ⟨v ++ numBytes s.new.length, 0⟩ s.new) = _
      rw [wLs_lfB]
      cases lfB (v ++ numBytes s.new.length) s.new with
      | none => rfl
      | some z =>
        show (WS.mk z 0).done = if 65536 < z.length then ([], 2) else (z, 0)
        unfold WS.done
        rw [if_neg (fun h => h rfl)]
theorem rbytes19_spec (s : Stp) (ok : s.ok) (h1 : s.same.length ≤ 3000) (h2 : s.old.length ≤ 3000) (h3 : s.new.length ≤ 3000) : Spec Tryz.prog 41 [s.R] [] (fun v os => v = .tup [.s (bysS s).1, .i .i64 (bysS s).2] ∧ os = []) := by
  obtain ⟨W, hW⟩ : ∃ W, bysS s = W := ⟨_, rfl⟩
  rw [hW]
  obtain ⟨same, old, new⟩ := s
  obtain ⟨okS, okO, okN⟩ := ok
  dsimp only at okS okO okN h1 h2 h3
  show Spec Tryz.prog 41 [.agg [.sl 66 (same.map Itm.R), .sl 65 (old.map Lef.A), .sl 65 (new.map Lef.A)]] [] _
  refine spec_of TtOk [] Tryz.func41 rfl Tryz.ntmps41 (by kernel_rfl) rfl rfl (fun C => ?_) rfl
  by_cases hb : 2000 < same.length ∨ 500 < old.length ∨ 500 < new.length
  · have hW2 : ([], 2) = W := by rw [← hW]; unfold bysS; rw [if_pos hb]
    subst hW2
    clear hW
    repeat' (first | refine Awp.seq ?_ | refine Awp.region ?_ | (refine Ops.nil ?_; show Awp _ _ _ _ _) | (refine Awp.ret ?_; show endK _ _ _ _ _) | refine o_noF rfl rfl rfl ?_ | refine o_len rfl TtOk rfl rfl rfl (fun _ => ?_) | (refine o_calm rfl TtOk rfl rfl rfl ?_ (fun _ => ?_); exact nd) | refine o_box (d := 1) rfl rfl rfl rfl (fun b1 => ?_) | (fail_if_success (refine o_isLit rfl (by first | exact .inl rfl | exact .inr rfl) ?_)); (refine o_splitP rfl rfl (fun hc => ?_) (fun hc => ?_) <;> try (exfalso; omega)) | refine a_condT rfl ?_ | (refine a_condP rfl (fun hc => ?_) (fun hc => ?_)) <;> (try (exfalso; omega)))
    all_goals
      refine end_all [] [] (.tup [.s [], .i .i64 2]) rfl ?_ ?_ (rle_tup2 (CLe.of_eq rfl) (CLe.of_eq rfl) rfl rfl) .nil ⟨rfl, rfl⟩ _ (.inl rfl)
      · repeat' (first | exact True.intro | exact rfl | refine ⟨?_, ?_⟩)
      · exact ⟨trivial, trivial, trivial⟩
  rw [bysS_eq hb] at hW
  dsimp only at hW
  have k1 := dnumber_spec same.length (by omega)
  have n1 := numBytes_len same.length (by omega)
  have hls : ∀ l ∈ [old, new], l.length ≤ 500 ∧ ∀ x ∈ l, x.ok := fun l hl => by
    rcases List.mem_cons.1 hl with rfl | hl
    · exact ⟨by omega, okO⟩
    · rw [List.mem_singleton.1 hl]; exact ⟨by omega, okN⟩
  have hn2 : [old, new].length = 2 := rfl
  generalize hls0 : [old, new] = ls at *
  generalize numBytes same.length = t0 at *
  repeat' (first | refine Awp.seq ?_ | refine Awp.block ?_ | refine Awp.region ?_ | (refine Ops.nil ?_; show Awp _ _ _ _ _) | (refine Awp.skip ?_; show Awp _ _ _ _ _) | refine o_len rfl TtOk rfl rfl rfl (fun _ => ?_) | (refine o_calm rfl TtOk rfl rfl rfl ?_ (fun _ => ?_); exact nd) | refine o_box (d := 1) rfl rfl rfl rfl (fun b1 => ?_) | (fail_if_success (refine o_isLit rfl (by first | exact .inl rfl | exact .inr rfl) ?_)); (refine o_splitP rfl rfl (fun hc => ?_) (fun hc => ?_) <;> try (exfalso; omega)) | (refine a_condP rfl (fun hc => ?_) (fun hc => ?_)) <;> (try (exfalso; omega)) | (refine o_call0 rfl (k1) ⟨SLe.of_eq rfl, True.intro⟩ rfl ?_; rintro _ _ ⟨rfl, rfl⟩; refine ⟨rfl, ?_⟩))
  refine Awp.loop (fun q : Nat × List UInt8 => ⟨94, [(34, .i .i64 q.1), (33, .i .i64 same.length), (32, .sl 66 (same.map Itm.R)), (4, .s q.2), (1, .ptr 1 b1 [] 0)], [(1, .var b1 (.agg [.sl 66 (same.map Itm.R), .sl 65 (old.map Lef.A), .sl 65 (new.map Lef.A)]))]⟩) (fun q => q.1 ≤ same.length ∧ q.2.length ≤ 9 + 82 * q.1 ∧ finB ((itB q.2 (same.drop q.1)).bind (fun u => lsB u ls)) = W) (fun q => same.length - q.1) [] (0, t0) ⟨Nat.zero_le _, by show t0.length ≤ 9 + 82 * 0; omega, by rw [List.drop_zero]; exact hW⟩ ?_ ?_
  · exact ⟨rfl, ⟨sle_i rfl, sle_i rfl, sle_sl rfl, sle_s rfl, sle_ptr, True.intro⟩, HLe.cons 1 rfl (HOLe.refl _) .nil⟩
  clear hW n1 k1
  rintro ⟨i, t⟩ ⟨hi, htl, hst⟩
  dsimp only at hi htl hst ⊢
  by_cases hlt : i < same.length
  · have hi1 : ((i : Int) + 1 = ((i + 1 : Nat) : Int)) := by omega
    rw [List.drop_eq_getElem_cons hlt, itB] at hst
    have hxo := okS _ (List.getElem_mem hlt)
    have k2 := rgood15_spec same[i] hxo
    have hxR : same[i].R = .agg [.i .i64 same[i].n, labA same[i].l, labA same[i].s, .i .i64 same[i].t] := rfl
    by_cases hg : goodI same[i] = true
    · obtain ⟨b1', b2', b3', b4'⟩ := good_bnd hg
      have k3 := rwrite15_spec same[i] hxo ⟨b1', by omega⟩ ⟨b3', by omega⟩
      have hil := itmBy_len hxo (by omega) (by omega)
      rw [if_pos hg] at hst
      rw [hg, hxR] at k2
      rw [hxR] at k3
      generalize itmBy same[i] = u at *
      repeat' (first | refine Awp.seq ?_ | refine Awp.block ?_ | refine Awp.region ?_ | (refine Ops.nil ?_; show Awp _ _ _ _ _) | (refine Ops.nil ?_; show Exists _) | (refine Awp.skip ?_; show Awp _ _ _ _ _) | (refine o_add rfl rfl rfl rfl ?_ ?_; omega) | (refine o_calm rfl TtOk rfl rfl rfl ?_ (fun _ => ?_); exact nd) | refine o_alloc (d := 6) rfl TtOk rfl rfl rfl (fun b6 => ?_) | refine o_store TtOk rfl rfl rfl rfl rfl rfl rfl ⟨rfl, rfl⟩ rfl rfl rfl rfl rfl ?_ | (refine o_index rfl TtOk rfl rfl rfl rfl rfl rfl ?_ (getq_nat ?_) ?_; omega; omega) | (refine o_calm rfl TtOk rfl rfl rfl ?_ (fun _ => ?_); (show List.length _ + List.length _ ≤ 9223372036854775807; (repeat' (first | rw [List.length_append] | rw [List.length_map] | rw [List.length_cons] | rw [List.length_nil] | rw [List.length_take] | rw [List.length_drop])) <;> omega)) | refine a_condF rfl ?_ | (refine a_condP rfl (fun hc => ?_) (fun hc => ?_)) <;> (try (exfalso; omega)) | (refine o_call0 rfl (k2) ⟨SLe.of_eq rfl, True.intro⟩ rfl ?_; rintro _ _ ⟨rfl, rfl⟩; refine ⟨rfl, ?_⟩) | (refine o_call0 rfl (k3) ⟨SLe.of_eq rfl, True.intro⟩ rfl ?_; rintro _ _ ⟨rfl, rfl⟩; refine ⟨rfl, ?_⟩))
      all_goals exact ⟨(i + 1, t ++ u), [], ⟨hlt, by show (t ++ u).length ≤ 9 + 82 * (i + 1); rw [List.length_append]; omega, hst⟩, by show same.length - (i + 1) < same.length - i; omega, rfl, ⟨sle_i hi1, sle_i rfl, sle_sl rfl, sle_s rfl, sle_ptr, True.intro⟩, HLe.cons 1 rfl (HOLe.refl _) .nil⟩
    · rw [if_neg hg] at hst
      have hst : ([], (1 : Int)) = W := hst
      subst hst
      have hg : goodI same[i] = false := by cases h : goodI same[i] with | true => exact absurd h hg | false => rfl
      rw [hg, hxR] at k2
      repeat' (first | refine Awp.seq ?_ | refine Awp.block ?_ | refine Awp.region ?_ | (refine Ops.nil ?_; show Awp _ _ _ _ _) | (refine Awp.skip ?_; show Awp _ _ _ _ _) | (refine Awp.ret ?_; show endK _ _ _ _ _) | (refine o_calm rfl TtOk rfl rfl rfl ?_ (fun _ => ?_); exact nd) | refine o_alloc (d := 6) rfl TtOk rfl rfl rfl (fun b6 => ?_) | refine o_store TtOk rfl rfl rfl rfl rfl rfl rfl ⟨rfl, rfl⟩ rfl rfl rfl rfl rfl ?_ | (refine o_index rfl TtOk rfl rfl rfl rfl rfl rfl ?_ (getq_nat ?_) ?_; omega; omega) | refine a_condT rfl ?_ | (refine a_condP rfl (fun hc => ?_) (fun hc => ?_)) <;> (try (exfalso; omega)) | (refine o_call0 rfl (k2) ⟨SLe.of_eq rfl, True.intro⟩ rfl ?_; rintro _ _ ⟨rfl, rfl⟩; refine ⟨rfl, ?_⟩))
      all_goals
        refine end_all [] [] (.tup [.s [], .i .i64 1]) rfl ?_ ?_ (rle_tup2 (CLe.of_eq rfl) (CLe.of_eq rfl) rfl rfl) .nil ⟨rfl, rfl⟩ _ (.inl rfl)
        · repeat' (first | exact True.intro | exact rfl | refine ⟨?_, ?_⟩)
        · exact ⟨trivial, trivial, trivial⟩
  rw [List.drop_eq_nil_of_le (by omega)] at hst
  have hst : finB (lsB t ls) = W := hst
  have htl : t.length ≤ 200000 := by omega
  clear okS
  have hn3 : ls.length ≤ 2 := by omega
  have hlsR : [AV.sl 65 (old.map Lef.A), AV.sl 65 (new.map Lef.A)] = ls.map (fun l => AV.sl 65 (l.map Lef.A)) := by rw [← hls0]; rfl
  repeat' (first | (refine o_freezeR 50 50 rfl rfl rfl ?_) | refine Awp.seq ?_ | refine Awp.block ?_ | refine Awp.region ?_ | (refine Ops.nil ?_; show Awp _ _ _ _ _) | (refine Awp.exit ?_; show Awp _ _ _ _ _) | (refine o_calm rfl TtOk rfl rfl rfl ?_ (fun _ => ?_); exact nd) | refine o_buildSlice (d := 50) TtOk rfl rfl rfl rfl rfl rfl rfl rfl rfl rfl rfl (by repeat' (first | exact True.intro | exact rfl | refine ⟨?_, ?_⟩)) (fun v50 => ?_) | (refine a_condP rfl (fun hc => ?_) (fun hc => ?_)) <;> (try (exfalso; omega)))
  refine Awp.loop (fun q : Nat × List UInt8 => ⟨94, [(52, .i .i64 q.1), (51, .i .i64 2), (50, .sl 1 (ls.map (fun l => AV.sl 65 (l.map Lef.A)))), (4, .s q.2)], []⟩) (fun q => q.1 ≤ ls.length ∧ q.2.length ≤ 200000 + 50000 * q.1 ∧ finB (lsB q.2 (ls.drop q.1)) = W) (fun q => ls.length - q.1) [] (0, t) ⟨Nat.zero_le _, by show t.length ≤ 200000 + 50000 * 0; omega, by rw [List.drop_zero]; exact hst⟩ ?_ ?_
  · exact ⟨rfl, ⟨sle_i rfl, sle_i rfl, SLe.of_eq (congrArg (AV.sl 1) hlsR), sle_s rfl, True.intro⟩, .nil⟩
  clear hst htl hlsR hls0 hlt okO okN h1 h2 h3 hb hi
  rintro ⟨j, t⟩ ⟨hj, htl, hst⟩
  dsimp only at hj htl hst ⊢
  by_cases hlt : j < ls.length
  · have hj1 : ((j : Int) + 1 = ((j + 1 : Nat) : Int)) := by omega
    rw [List.drop_eq_getElem_cons hlt, lsB] at hst
    obtain ⟨hl5, hlo⟩ := hls _ (List.getElem_mem hlt)
    have k1 := dnumber_spec ls[j].length (by omega)
    have n1 := numBytes_len ls[j].length (by omega)
    generalize numBytes ls[j].length = nb at *
    repeat' (first | refine Awp.seq ?_ | refine Awp.block ?_ | refine Awp.region ?_ | (refine Ops.nil ?_; show Awp _ _ _ _ _) | (refine Awp.skip ?_; show Awp _ _ _ _ _) | refine o_len rfl TtOk rfl rfl rfl (fun _ => ?_) | (refine o_calm rfl TtOk rfl rfl rfl ?_ (fun _ => ?_); exact nd) | (refine o_index rfl TtOk rfl rfl rfl rfl rfl rfl ?_ (getq_nat ?_) ?_; omega; omega) | (refine o_calm rfl TtOk rfl rfl rfl ?_ (fun _ => ?_); (show List.length _ + List.length _ ≤ 9223372036854775807; (repeat' (first | rw [List.length_append] | rw [List.length_map] | rw [List.length_cons] | rw [List.length_nil] | rw [List.length_take] | rw [List.length_drop])) <;> omega)) | (refine a_condP rfl (fun hc => ?_) (fun hc => ?_)) <;> (try (exfalso; omega)) | (refine o_call0 rfl (k1) ⟨SLe.of_eq rfl, True.intro⟩ rfl ?_; rintro _ _ ⟨rfl, rfl⟩; refine ⟨rfl, ?_⟩))
    refine Awp.loop (fun q : Nat × List UInt8 => ⟨94, [(63, .i .i64 q.1), (62, .i .i64 ls[j].length), (61, .sl 65 (ls[j].map Lef.A)), (52, .i .i64 j), (51, .i .i64 2), (50, .sl 1 (ls.map (fun l => AV.sl 65 (l.map Lef.A)))), (4, .s q.2)], []⟩) (fun q => q.1 ≤ ls[j].length ∧ q.2.length ≤ 200009 + 50000 * j + 73 * q.1 ∧ finB ((lfB q.2 (ls[j].drop q.1)).bind (fun u => lsB u (ls.drop (j + 1)))) = W) (fun q => ls[j].length - q.1) [] (0, t ++ nb) ⟨Nat.zero_le _, by show (t ++ nb).length ≤ 200009 + 50000 * j + 73 * 0; rw [List.length_append]; omega, by rw [List.drop_zero]; exact hst⟩ ?_ ?_
    · exact ⟨rfl, ⟨sle_i rfl, sle_i rfl, sle_sl rfl, sle_i rfl, sle_i rfl, sle_sl rfl, sle_s rfl, True.intro⟩, .nil⟩
    clear hst htl n1 k1
    rintro ⟨m, u⟩ ⟨hm, hul, hst⟩
    dsimp only at hm hul hst ⊢
    by_cases hmt : m < ls[j].length
    · have hm1 : ((m : Int) + 1 = ((m + 1 : Nat) : Int)) := by omega
      rw [List.drop_eq_getElem_cons hmt, lfB] at hst
      obtain ⟨hxl, hxv⟩ := hlo _ (List.getElem_mem hmt)
      have hxA : ls[j][m].A = .agg [labA ls[j][m].l, labA ls[j][m].v, .i .i64 ls[j][m].t] := rfl
      by_cases hg : chkLf ls[j][m] = 0
      · rw [if_pos hg] at hst
        have ht := chkLf_t hg
        have k2 := dlabel_spec ls[j][m].l
        have k3 := dlabel_spec ls[j][m].v
        have k4 := dnumber_spec ls[j][m].t.toNat (by omega)
        have e4 : (numBytes ls[j][m].t.toNat).length ≤ 9 := numBytes_len _ (by omega)
        rw [Int.toNat_of_nonneg ht.1] at k4
        have hlb : lefBy ls[j][m] = (ls[j][m].l ++ ls[j][m].v) ++ numBytes ls[j][m].t.toNat := rfl
        rw [hlb] at hst
        generalize numBytes ls[j][m].t.toNat = b at *
        clear hg hlb hls hlo
        repeat' (first | refine Awp.seq ?_ | refine Awp.block ?_ | refine Awp.region ?_ | (refine Ops.nil ?_; show Awp _ _ _ _ _) | (refine Ops.nil ?_; show Exists _) | (refine Awp.skip ?_; show Awp _ _ _ _ _) | (refine o_add rfl rfl rfl rfl ?_ ?_; omega) | (refine o_calm rfl TtOk rfl rfl rfl ?_ (fun _ => ?_); exact nd) | refine o_alloc (d := 10) rfl TtOk rfl rfl rfl (fun b10 => ?_) | refine o_store TtOk rfl rfl rfl rfl rfl rfl rfl ⟨rfl, rfl⟩ rfl rfl rfl rfl rfl ?_ | (refine o_index rfl TtOk rfl rfl rfl rfl rfl rfl ?_ (getq_nat ?_) ?_; omega; omega) | (refine o_calm rfl TtOk rfl rfl rfl ?_ (fun _ => ?_); (show List.length _ + List.length _ ≤ 9223372036854775807; (repeat' (first | rw [List.length_append] | rw [List.length_map] | rw [List.length_cons] | rw [List.length_nil] | rw [List.length_take] | rw [List.length_drop])) <;> omega)) | (fail_if_success (refine o_isLit rfl (by first | exact .inl rfl | exact .inr rfl) ?_)); (refine o_splitP rfl rfl (fun hc => ?_) (fun hc => ?_) <;> try (exfalso; omega)) | (refine a_condP rfl (fun hc => ?_) (fun hc => ?_)) <;> (try (exfalso; omega)) | refine a_any 20 [] [] [] [0, 1, 4, 8, 2, 5, 9, 3, 6, 7, 10, 11, 12, 13] (by kernel_rfl) (by kernel_rfl) (by kernel_rfl) rfl rfl rfl ?_ | (refine o_call0 rfl (k2) ⟨SLe.of_eq rfl, True.intro⟩ rfl ?_; rintro _ _ ⟨rfl, rfl⟩; refine ⟨rfl, ?_⟩) | (refine o_call0 rfl (k3) ⟨SLe.of_eq rfl, True.intro⟩ rfl ?_; rintro _ _ ⟨rfl, rfl⟩; refine ⟨rfl, ?_⟩) | (refine o_call0 rfl (k4) ⟨SLe.of_eq rfl, True.intro⟩ rfl ?_; rintro _ _ ⟨rfl, rfl⟩; refine ⟨rfl, ?_⟩))
        all_goals exact ⟨(m + 1, u ++ ((ls[j][m].l ++ ls[j][m].v) ++ b)), [], ⟨hmt, by show (u ++ ((ls[j][m].l ++ ls[j][m].v) ++ b)).length ≤ 200009 + 50000 * j + 73 * (m + 1); rw [List.length_append, List.length_append, List.length_append, hxl, hxv]; omega, hst⟩, by show ls[j].length - (m + 1) < ls[j].length - m; omega, rfl, ⟨sle_i hm1, sle_i rfl, sle_sl rfl, sle_i rfl, sle_i rfl, sle_sl rfl, sle_s rfl, True.intro⟩, .nil⟩
      · rw [if_neg hg] at hst
        have hst : ([], (1 : Int)) = W := hst
        subst hst
        have ht : ls[j][m].t < 0 ∨ 1073741824 < ls[j][m].t := by
          unfold chkLf at hg
          exact Decidable.byContradiction (fun h => hg (if_neg h))
        clear hg hls hlo
        repeat' (first | refine Awp.seq ?_ | refine Awp.block ?_ | refine Awp.region ?_ | (refine Ops.nil ?_; show Awp _ _ _ _ _) | (refine Awp.skip ?_; show Awp _ _ _ _ _) | (refine Awp.ret ?_; show endK _ _ _ _ _) | refine o_noF rfl rfl rfl ?_ | (refine o_calm rfl TtOk rfl rfl rfl ?_ (fun _ => ?_); exact nd) | refine o_alloc (d := 10) rfl TtOk rfl rfl rfl (fun b10 => ?_) | refine o_store TtOk rfl rfl rfl rfl rfl rfl rfl ⟨rfl, rfl⟩ rfl rfl rfl rfl rfl ?_ | (refine o_index rfl TtOk rfl rfl rfl rfl rfl rfl ?_ (getq_nat ?_) ?_; omega; omega) | (fail_if_success (refine o_isLit rfl (by first | exact .inl rfl | exact .inr rfl) ?_)); (refine o_splitP rfl rfl (fun hc => ?_) (fun hc => ?_) <;> try (exfalso; omega)) | refine a_condT rfl ?_ | (refine a_condP rfl (fun hc => ?_) (fun hc => ?_)) <;> (try (exfalso; omega)))
        all_goals
          refine end_all [] [] (.tup [.s [], .i .i64 1]) rfl ?_ ?_ (rle_tup2 (CLe.of_eq rfl) (CLe.of_eq rfl) rfl rfl) .nil ⟨rfl, rfl⟩ _ (.inl rfl)
          · repeat' (first | exact True.intro | exact rfl | refine ⟨?_, ?_⟩)
          · exact ⟨trivial, trivial, trivial⟩
    rw [List.drop_eq_nil_of_le (by omega)] at hst
    have hst : finB (lsB u (ls.drop (j + 1))) = W := hst
    clear hls hlo
    repeat' (first | refine Awp.seq ?_ | refine Awp.region ?_ | (refine Ops.nil ?_; show Awp _ _ _ _ _) | (refine Ops.nil ?_; show Exists _) | (refine Awp.exit ?_; show Awp _ _ _ _ _) | (refine o_add rfl rfl rfl rfl ?_ ?_; omega) | (refine o_calm rfl TtOk rfl rfl rfl ?_ (fun _ => ?_); exact nd) | (refine a_condP rfl (fun hc => ?_) (fun hc => ?_)) <;> (try (exfalso; omega)))
    all_goals exact ⟨(j + 1, u), [], ⟨hlt, by show u.length ≤ 200000 + 50000 * (j + 1); omega, hst⟩, by show ls.length - (j + 1) < ls.length - j; omega, rfl, ⟨sle_i hj1, sle_i rfl, sle_sl rfl, sle_s rfl, True.intro⟩, .nil⟩
  rw [List.drop_eq_nil_of_le (by omega)] at hst
  have hst : (if 65536 < t.length then ([], 2) else (t, 0)) = W := hst
  by_cases hbl : 65536 < t.length
  · rw [if_pos hbl] at hst
    subst hst
    repeat' (first | refine Awp.seq ?_ | refine Awp.region ?_ | (refine Ops.nil ?_; show Awp _ _ _ _ _) | (refine Awp.exit ?_; show Awp _ _ _ _ _) | (refine Awp.ret ?_; show endK _ _ _ _ _) | (refine o_calm rfl TtOk rfl rfl rfl ?_ (fun _ => ?_); exact nd) | (refine a_condP rfl (fun hc => ?_) (fun hc => ?_)) <;> (try (exfalso; omega)))
    all_goals
      refine end_all [] [] (.tup [.s [], .i .i64 2]) rfl ?_ ?_ (rle_tup2 (CLe.of_eq rfl) (CLe.of_eq rfl) rfl rfl) .nil ⟨rfl, rfl⟩ _ (.inl rfl)
      · repeat' (first | exact True.intro | exact rfl | refine ⟨?_, ?_⟩)
      · exact ⟨trivial, trivial, trivial⟩
  · rw [if_neg hbl] at hst
    subst hst
    repeat' (first | refine Awp.seq ?_ | refine Awp.region ?_ | (refine Ops.nil ?_; show Awp _ _ _ _ _) | (refine Awp.skip ?_; show Awp _ _ _ _ _) | (refine Awp.exit ?_; show Awp _ _ _ _ _) | (refine Awp.ret ?_; show endK _ _ _ _ _) | (refine o_calm rfl TtOk rfl rfl rfl ?_ (fun _ => ?_); exact nd) | (refine a_condP rfl (fun hc => ?_) (fun hc => ?_)) <;> (try (exfalso; omega)))
    all_goals
      refine end_all [] [] (.tup [.s t, .i .i64 0]) rfl ?_ ?_ (rle_tup2 (CLe.of_eq rfl) (CLe.of_eq rfl) rfl rfl) .nil ⟨rfl, rfl⟩ _ (.inl rfl)
      · repeat' (first | exact True.intro | exact rfl | refine ⟨?_, ?_⟩)
      · exact ⟨trivial, trivial, trivial⟩
end Go.Proofs.YtcmgpkibjdbonaaGreat
namespace Go.Proofs.YtcmgpkibjdbonaaGreat
open Go Go.RowKit
section
variable {m : OM} {P : Program} {T : List (Nat × TI)} {C : Ctx} {ops : Array Oper} {l : List Oper} {K : St → Prop} {n : Nat} {sl : List (Nat × AV)} {hp : List (Nat × HO)} {d : Nat} {ty : Nat} {pos : String} {aft : Array Edge} {gd : Option (Nat × Bool)}
theorem o_indexA (hT : TTOk P T) (hw : gval ops ⟨n, sl, hp⟩ gd = gwant gd) {t : Nat} {x ix : Operand} {kk : IntKind} {i : Int} {sz mlen e sz0 by_ : Nat} {z y : AV} {te : TI} {xs : List AV}
    (hx : ev ⟨n, sl, hp⟩ x = .arr sz mlen xs) (hi : ev ⟨n, sl, hp⟩ ix = .i kk i) (ht : tget T t = some ⟨.array mlen e, sz0, by_, z⟩) (he : tget T e = some te) (hsz : te.sz = sz) (hd : Nat.blt d n = true) (j : Nat) (hj : i = j) (hy : xs[j]? = some y) (hf : fits te y)
    (h : Ops m P C ops l ⟨n, (d, y) :: sl, hp⟩ K) : Ops m P C ops (⟨some d, .index t x ix, ty, pos, aft, gd⟩ :: l) ⟨n, sl, hp⟩ K := by
  subst hj
  subst hsz
  refine Ops.by (d := some d) hw none okc_none hd rfl (fun a w hs => ?_) h
  have Ex := ev_rep hs x
  have Ei := ev_rep hs ix
  rw [hx] at Ex
  rw [hi, repV_i] at Ei
  obtain ⟨cs, hc, hv⟩ := Ex
  simp only [repC] at hc
  obtain ⟨hlen, ha⟩ := hc
  obtain ⟨pre, mid, post, e1, e2, e3, e5, _⟩ := repA_at te.sz xs j y cs ha hy
  have hjl := (List.getElem?_eq_some_iff.1 hy).1
  refine ⟨_, repV_mk e3, fun w' _ => ?_⟩
  have hu := tk_array (tget_ok hT ht)
  have hp := part_run (tget_ok hT he) hf e3 w' (pre := pre) (post := post)
  have hv : a.eval x = .agg (pre ++ mid ++ post).toArray := by rw [hv, e1]; rfl
  have h0 : (0 : Int) ≤ (j : Int) ∧ (j : Int) < (mlen : Int) := by omega
  simp only [execOp, hv, Ei, Instr.index, asIntOf, Sem.run_bind, Sem.run_pure, Result.andThen_ok, run_underlying hu, h0, and_self, if_true, (tget_ok hT he).sizeRun, Int.toNat_natCast, ← e2, hp]
end
end Go.Proofs.YtcmgpkibjdbonaaGreat
set_option maxHeartbeats 16000000
set_option maxRecDepth 100000
namespace Go.Proofs.YtcmgpkibjdbonaaGreat
open Go Go.RowKit
def wLL : WS → List (List Lef) → Option WS
  | s, [] => some s
  | s, l :: r => (wLs (s.number l.length) l).bind (fun b => wLL b r)
theorem bysS_LL (s : Stp) : bysS s = if 2000 < s.same.length ∨ 500 < s.old.length ∨ 500 < s.new.length then ([], 2)
    else fin19 ((wIs (w0.number s.same.length) s.same).bind (fun a => wLL a [s.old, s.new])) := by
  unfold bysS
  have h : ∀ a b, wLL a [b] = wLs (a.number b.length) b := fun a b => by
    show (wLs (a.number b.length) b).bind (fun x => some x) = _
    cases wLs (a.number b.length) b <;> rfl
  have h2 : ∀ a, wLL a [s.old, s.new] = (wLs (a.number s.old.length) s.old).bind (fun b => wLs (b.number s.new.length) s.new) := fun a => by
    show (wLs (a.number s.old.length) s.old).bind (fun b => wLL b [s.new]) = _
    congr 1
    exact funext (fun b => h b s.new)
  congr 3
  exact funext (fun a => (h2 a).symm)
theorem sbytes_spec (s : Stp) (hok : s.ok) : Spec Tryz.prog 40 [s.A] [] (fun v os => v = .tup [.s (bysS s).1, .i .i64 (bysS s).2] ∧ os = []) := by
  obtain ⟨same, old, new⟩ := s
  obtain ⟨o1, o2, o3⟩ := hok
  dsimp only at o1 o2 o3
  obtain ⟨W, hW⟩ : ∃ W, bysS ⟨same, old, new⟩ = W := ⟨_, rfl⟩
  rw [hW]
  rw [bysS_LL] at hW
  dsimp only at hW
  show Spec Tryz.prog 40 [.agg [.sl 66 (same.map Itm.A), .sl 65 (old.map Lef.A), .sl 65 (new.map Lef.A)]] [] _
  refine spec_of TtOk [] Tryz.func40 rfl Tryz.ntmps40 (by kernel_rfl) rfl rfl (fun C => ?_) rfl
  by_cases hb : 2000 < same.length ∨ 500 < old.length ∨ 500 < new.length
  · rw [if_pos hb] at hW
    subst hW
    repeat' (first | refine Awp.seq ?_ | refine Awp.region ?_ | (refine Ops.nil ?_; show Awp _ _ _ _ _) | (refine Awp.ret ?_; show endK _ _ _ _ _) | refine o_noF rfl rfl rfl ?_ | refine o_len rfl TtOk rfl rfl rfl (fun _ => ?_) | (refine o_calm rfl TtOk rfl rfl rfl ?_ (fun _ => ?_); exact nd) | refine o_box (d := 1) rfl rfl rfl rfl (fun b1 => ?_) | (fail_if_success (refine o_isLit rfl (by first | exact .inl rfl | exact .inr rfl) ?_)); (refine o_splitP rfl rfl (fun hc => ?_) (fun hc => ?_) <;> try (exfalso; omega)) | refine a_condT rfl ?_ | (refine a_condP rfl (fun hc => ?_) (fun hc => ?_)) <;> (try (exfalso; omega)))
    all_goals
      refine end_all [] [] (.tup [.s [], .i .i64 2]) rfl ?_ ?_ (rle_tup2 (CLe.of_eq rfl) (CLe.of_eq rfl) rfl rfl) .nil ⟨rfl, rfl⟩ _ (.inl rfl)
      · repeat' (first | exact True.intro | exact rfl | refine ⟨?_, ?_⟩)
      · exact ⟨trivial, trivial, trivial⟩
  rw [if_neg hb] at hW
  repeat' (first | refine Awp.seq ?_ | refine Awp.region ?_ | (refine Ops.nil ?_; show Awp _ _ _ _ _) | (refine Awp.skip ?_; show Awp _ _ _ _ _) | refine o_len rfl TtOk rfl rfl rfl (fun _ => ?_) | (refine o_calm rfl TtOk rfl rfl rfl ?_ (fun _ => ?_); exact nd) | refine o_alloc (d := 4) rfl TtOk rfl rfl rfl (fun b4 => ?_) | refine o_box (d := 1) rfl rfl rfl rfl (fun b1 => ?_) | (fail_if_success (refine o_isLit rfl (by first | exact .inl rfl | exact .inr rfl) ?_)); (refine o_splitP rfl rfl (fun hc => ?_) (fun hc => ?_) <;> try (exfalso; omega)) | (refine a_condP rfl (fun hc => ?_) (fun hc => ?_)) <;> (try (exfalso; omega)))
  have w1 := fun v => wnumber_spec b4 same.length (by omega) v w0 (by decide)
  have hl1 : (w0.number same.length).bs.length ≤ 9 := WS.len_number w0 same.length (by omega)
  refine Ops.weaken [] (S' := ⟨94, [(30, .i .i64 same.length), (4, .ptr 4 b4 [] 0), (1, .ptr 50 b1 [] 0)], [(4, .var b4 (wrA (.slice none 0 0) w0)), (50, .var b1 (.agg [.sl 66 (same.map Itm.A), .sl 65 (old.map Lef.A), .sl 65 (new.map Lef.A)])), (1, .row (.slice none 0 0) 5 1 [])]⟩) ⟨rfl, ⟨sle_i rfl, sle_ptr, sle_ptr, True.intro⟩, HLe.cons 4 rfl (HOLe.var (CLe.agg (.cons CLe.nilown (.cons (CLe.refl _) .nil)))) (HLe.cons 1 rfl (HOLe.refl _) (.none .nil))⟩ ?_
  generalize w0.number same.length = s0 at *
  repeat' (first | refine Awp.seq ?_ | refine Awp.block ?_ | refine Awp.region ?_ | (refine Ops.nil ?_; show Awp _ _ _ _ _) | refine o_len rfl TtOk rfl rfl rfl (fun _ => ?_) | (refine o_calm rfl TtOk rfl rfl rfl ?_ (fun _ => ?_); exact nd) | (refine o_callPR rfl rfl rfl rfl rfl (w1 _) ⟨sle_ptr, SLe.of_eq rfl, True.intro⟩ (HOLe.refl _) (HOLe.refl _) rfl rfl ?_; rintro _ _ ⟨rfl, wv, rfl⟩; refine ⟨_, _, rfl, _, rfl, ?_⟩))
  refine Awp.loop (fun q : Nat × WS × Value => ⟨94, [(35, .i .i64 q.1), (34, .i .i64 same.length), (33, .sl 66 (same.map Itm.A)), (4, .ptr 4 b4 [] 0), (1, .ptr 50 b1 [] 0)], [(4, .var b4 (wrA q.2.2 q.2.1)), (50, .var b1 (.agg [.sl 66 (same.map Itm.A), .sl 65 (old.map Lef.A), .sl 65 (new.map Lef.A)])), (1, .row q.2.2 5 1 (q.2.1.bs.map byA))]⟩) (fun q => q.1 ≤ same.length ∧ q.2.1.bs.length ≤ 9 + 82 * q.1 ∧ fin19 ((wIs q.2.1 (same.drop q.1)).bind (fun a => wLL a [old, new])) = W) (fun q => same.length - q.1) [] (0, s0, wv) ⟨Nat.zero_le _, by show s0.bs.length ≤ _; omega, hW⟩ ?_ ?_
  · exact ⟨rfl, ⟨sle_i rfl, sle_i rfl, sle_sl rfl, sle_ptr, sle_ptr, True.intro⟩, HLe.cons 4 rfl (HOLe.refl _) (HLe.cons 50 rfl (HOLe.refl _) (HLe.cons 1 rfl (HOLe.refl _) .nil))⟩
  clear w1 hW hl1
  rintro ⟨i, s, v⟩ ⟨hi, hsl, hst⟩
  dsimp only at hi hsl hst ⊢
  by_cases hlt : i < same.length
  · have hxo := o1 _ (List.getElem_mem hlt)
    have hgd := ngood_spec same[i] hxo
    have hi1 : ((i : Int) + 1 = ((i + 1 : Nat) : Int)) := by omega
    have hA : same[i].A = .agg [.agg [.i .i64 same[i].n, labA same[i].l], labA same[i].s, .i .i64 same[i].t] := rfl
    rw [hA] at hgd
    rw [List.drop_eq_getElem_cons hlt, wIs] at hst
    by_cases hg : goodI same[i] = true
    · rw [if_pos hg] at hst
      rw [hg] at hgd
      have hn := good_n hg
      have ht := good_t hg
      have l1 := WS.len_number s same[i].n (by omega)
      have l2 : ((s.number same[i].n).put same[i].l).bs.length = _ := WS.len_put _ _
      have l3 : (((s.number same[i].n).put same[i].l).put same[i].s).bs.length = _ := WS.len_put _ _
      rw [hxo.1] at l2
      rw [hxo.2] at l3
      have w1 := fun v => wnumber_spec b4 same[i].n (by omega) v s (by omega)
      have w2 := fun v => wlabel_spec b4 same[i].l hxo.1 v (s.number same[i].n) (by omega)
      have w3 := fun v => wlabel_spec b4 same[i].s hxo.2 v ((s.number same[i].n).put same[i].l) (by omega)
      have w4 := fun v => wnumber_spec b4 same[i].t (by omega) v (((s.number same[i].n).put same[i].l).put same[i].s) (by omega)
      have hl4 := WS.len_itm s same[i] hxo (by omega) (by omega)
      unfold WS.itm at hst hl4
      generalize (((s.number same[i].n).put same[i].l).put same[i].s).number same[i].t = s4 at *
      generalize ((s.number same[i].n).put same[i].l).put same[i].s = s3 at *
      generalize (s.number same[i].n).put same[i].l = s2 at *
      generalize s.number same[i].n = s1 at *
      clear l1 l2 l3
      repeat' (first | refine Awp.seq ?_ | refine Awp.block ?_ | refine Awp.region ?_ | (refine Ops.nil ?_; show Awp _ _ _ _ _) | (refine Ops.nil ?_; show Exists _) | (refine Awp.skip ?_; show Awp _ _ _ _ _) | (refine o_add rfl rfl rfl rfl ?_ ?_; omega) | (refine o_calm rfl TtOk rfl rfl rfl ?_ (fun _ => ?_); exact nd) | refine o_alloc (d := 6) rfl TtOk rfl rfl rfl (fun b6 => ?_) | refine o_store TtOk rfl rfl rfl rfl rfl rfl rfl ⟨rfl, rfl⟩ rfl rfl rfl rfl rfl ?_ | (refine o_index rfl TtOk rfl rfl rfl rfl rfl rfl ?_ (getq_nat ?_) ?_; omega; omega) | refine a_condF rfl ?_ | (refine a_condP rfl (fun hc => ?_) (fun hc => ?_)) <;> (try (exfalso; omega)) | (refine o_call0 rfl (hgd) ⟨SLe.of_eq rfl, True.intro⟩ rfl ?_; rintro _ _ ⟨rfl, rfl⟩; refine ⟨rfl, ?_⟩) | (refine o_callPR rfl rfl rfl rfl rfl (w1 _) ⟨sle_ptr, SLe.of_eq rfl, True.intro⟩ (HOLe.refl _) (HOLe.refl _) rfl rfl ?_; rintro _ _ ⟨rfl, wv, rfl⟩; refine ⟨_, _, rfl, _, rfl, ?_⟩) | (refine o_callPR rfl rfl rfl rfl rfl (w2 _) ⟨sle_ptr, SLe.of_eq rfl, True.intro⟩ (HOLe.refl _) (HOLe.refl _) rfl rfl ?_; rintro _ _ ⟨rfl, wv, rfl⟩; refine ⟨_, _, rfl, _, rfl, ?_⟩) | (refine o_callPR rfl rfl rfl rfl rfl (w3 _) ⟨sle_ptr, SLe.of_eq rfl, True.intro⟩ (HOLe.refl _) (HOLe.refl _) rfl rfl ?_; rintro _ _ ⟨rfl, wv, rfl⟩; refine ⟨_, _, rfl, _, rfl, ?_⟩) | (refine o_callPR rfl rfl rfl rfl rfl (w4 _) ⟨sle_ptr, SLe.of_eq rfl, True.intro⟩ (HOLe.refl _) (HOLe.refl _) rfl rfl ?_; rintro _ _ ⟨rfl, wv, rfl⟩; refine ⟨_, _, rfl, _, rfl, ?_⟩))
      exact ⟨(i + 1, s4, _), [], ⟨hlt, by show s4.bs.length ≤ _; omega, hst⟩, by show same.length - (i + 1) < same.length - i; omega, rfl, ⟨sle_i hi1, sle_i rfl, sle_sl rfl, sle_ptr, sle_ptr, True.intro⟩, HLe.cons 4 rfl (HOLe.refl _) (HLe.cons 50 rfl (HOLe.refl _) (HLe.cons 1 rfl (HOLe.refl _) .nil))⟩
    · rw [if_neg hg] at hst
      have hst : (([], 1) : List UInt8 × Int) = W := hst
      subst hst
      have hg : goodI same[i] = false := by
        cases q : goodI same[i] with
        | true => exact absurd q hg
        | false => rfl
      rw [hg] at hgd
      repeat' (first | refine Awp.seq ?_ | refine Awp.block ?_ | refine Awp.region ?_ | (refine Ops.nil ?_; show Awp _ _ _ _ _) | (refine Awp.skip ?_; show Awp _ _ _ _ _) | (refine Awp.ret ?_; show endK _ _ _ _ _) | (refine o_calm rfl TtOk rfl rfl rfl ?_ (fun _ => ?_); exact nd) | refine o_alloc (d := 6) rfl TtOk rfl rfl rfl (fun b6 => ?_) | refine o_store TtOk rfl rfl rfl rfl rfl rfl rfl ⟨rfl, rfl⟩ rfl rfl rfl rfl rfl ?_ | (refine o_index rfl TtOk rfl rfl rfl rfl rfl rfl ?_ (getq_nat ?_) ?_; omega; omega) | refine a_condT rfl ?_ | (refine a_condP rfl (fun hc => ?_) (fun hc => ?_)) <;> (try (exfalso; omega)) | (refine o_call0 rfl (hgd) ⟨SLe.of_eq rfl, True.intro⟩ rfl ?_; rintro _ _ ⟨rfl, rfl⟩; refine ⟨rfl, ?_⟩))
      refine end_all [] [] (.tup [.s [], .i .i64 1]) rfl ?_ ?_ (rle_tup2 (CLe.of_eq rfl) (CLe.of_eq rfl) rfl rfl) .nil ⟨rfl, rfl⟩ _ (.inl rfl)
      · repeat' (first | exact True.intro | exact rfl | refine ⟨?_, ?_⟩)
      · exact ⟨trivial, trivial, trivial⟩
  have hie : i = same.length := by omega
  subst hie
  rw [List.drop_length, wIs, Option.bind_some] at hst
  repeat' (first | refine Awp.seq ?_ | refine Awp.block ?_ | refine Awp.region ?_ | (refine Ops.nil ?_; show Awp _ _ _ _ _) | (refine Awp.exit ?_; show Awp _ _ _ _ _) | (refine o_calm rfl TtOk rfl rfl rfl ?_ (fun _ => ?_); exact nd) | (refine a_condP rfl (fun hc => ?_) (fun hc => ?_)) <;> (try (exfalso; omega)) | (refine o_buildArr TtOk rfl [.sl 65 (old.map Lef.A), .sl 65 (new.map Lef.A)] rfl rfl rfl rfl rfl rfl ?_))
  refine Awp.loop (fun q : Nat × WS × Value => ⟨94, [(62, .i .i64 q.1), (61, .arr 1 2 [.sl 65 (old.map Lef.A), .sl 65 (new.map Lef.A)]), (4, .ptr 4 b4 [] 0)], [(4, .var b4 (wrA q.2.2 q.2.1)), (1, .row q.2.2 5 1 (q.2.1.bs.map byA))]⟩) (fun q => q.1 ≤ 2 ∧ q.2.1.bs.length ≤ 200000 + 100000 * q.1 ∧ fin19 (wLL q.2.1 ([old, new].drop q.1)) = W) (fun q => 2 - q.1) [] (0, s, v) ⟨Nat.zero_le _, by show s.bs.length ≤ _; omega, hst⟩ ?_ ?_
  · exact ⟨rfl, ⟨sle_i rfl, SLe.of_eq rfl, sle_ptr, True.intro⟩, HLe.cons 4 rfl (HOLe.refl _) (HLe.cons 1 rfl (HOLe.refl _) .nil)⟩
  clear hst hsl
  rintro ⟨j, s, v⟩ ⟨hj, hsl, hst⟩
  dsimp only at hj hsl hst ⊢
  by_cases hjl : j < 2
  · have hj1 : ((j : Int) + 1 = ((j + 1 : Nat) : Int)) := by omega
    obtain ⟨l, hl1, hl2, hl3, hl4⟩ : ∃ l : List Lef, ([.sl 65 (old.map Lef.A), .sl 65 (new.map Lef.A)] : List AV)[j]? = some (.sl 65 (l.map Lef.A)) ∧ [old, new].drop j = l :: [old, new].drop (j + 1) ∧ l.length ≤ 500 ∧ ∀ x ∈ l, x.ok := by
      have h2 : j = 0 ∨ j = 1 := by omega
      rcases h2 with rfl | rfl
      · exact ⟨old, rfl, rfl, by omega, o2⟩
      · exact ⟨new, rfl, rfl, by omega, o3⟩
    rw [hl2, wLL] at hst
    clear hl2
    generalize hr : [old, new].drop (j + 1) = r at *
    have w1 := fun v => wnumber_spec b4 l.length (by omega) v s (by omega)
    have hn := WS.len_number s l.length (by omega)
    generalize s.number l.length = s0 at *
    repeat' (first | refine Awp.seq ?_ | refine Awp.block ?_ | refine Awp.region ?_ | (refine Ops.nil ?_; show Awp _ _ _ _ _) | (refine Awp.skip ?_; show Awp _ _ _ _ _) | refine o_len rfl TtOk rfl rfl rfl (fun _ => ?_) | (refine o_calm rfl TtOk rfl rfl rfl ?_ (fun _ => ?_); exact nd) | (refine a_condP rfl (fun hc => ?_) (fun hc => ?_)) <;> (try (exfalso; omega)) | (refine o_indexA TtOk rfl rfl rfl rfl rfl rfl rfl j rfl hl1 ⟨rfl, rfl⟩ ?_) | (refine o_callPR rfl rfl rfl rfl rfl (w1 _) ⟨sle_ptr, SLe.of_eq rfl, True.intro⟩ (HOLe.refl _) (HOLe.refl _) rfl rfl ?_; rintro _ _ ⟨rfl, wv, rfl⟩; refine ⟨_, _, rfl, _, rfl, ?_⟩))
    refine Awp.loop (fun q : Nat × WS × Value => ⟨94, [(70, .i .i64 q.1), (69, .i .i64 l.length), (68, .sl 65 (l.map Lef.A)), (62, .i .i64 j), (61, .arr 1 2 [.sl 65 (old.map Lef.A), .sl 65 (new.map Lef.A)]), (4, .ptr 4 b4 [] 0)], [(4, .var b4 (wrA q.2.2 q.2.1)), (1, .row q.2.2 5 1 (q.2.1.bs.map byA))]⟩) (fun q => q.1 ≤ l.length ∧ q.2.1.bs.length ≤ 200009 + 100000 * j + 73 * q.1 ∧ fin19 ((wLs q.2.1 (l.drop q.1)).bind (fun b => wLL b r)) = W) (fun q => l.length - q.1) [] (0, s0, wv) ⟨Nat.zero_le _, by show s0.bs.length ≤ _; omega, hst⟩ ?_ ?_
    · exact ⟨rfl, ⟨sle_i rfl, sle_i rfl, sle_sl rfl, sle_i rfl, SLe.of_eq rfl, sle_ptr, True.intro⟩, HLe.cons 4 rfl (HOLe.refl _) (HLe.cons 1 rfl (HOLe.refl _) .nil)⟩
    clear hst hsl w1 hn
    rintro ⟨k, s, v⟩ ⟨hk, hsl, hst⟩
    dsimp only at hk hsl hst ⊢
    by_cases hkl : k < l.length
    · have hxo := hl4 _ (List.getElem_mem hkl)
      have hk1 : ((k : Int) + 1 = ((k + 1 : Nat) : Int)) := by omega
      have hgd : Spec Tryz.prog 82 [.ifc 46 (.agg [labA l[k].l, labA l[k].v, .i .i64 l[k].t])] [] (fun v os => v = .i .i64 (chkLf l[k]) ∧ os = []) := ncheckL_spec l[k]
      rw [List.drop_eq_getElem_cons hkl, wLs] at hst
      by_cases hg : chkLf l[k] = 0
      · rw [if_pos hg] at hst
        rw [hg] at hgd
        have ht := chkLf_t hg
        have l2 : (s.put l[k].l).bs.length = _ := WS.len_put _ _
        have l3 : ((s.put l[k].l).put l[k].v).bs.length = _ := WS.len_put _ _
        rw [hxo.1] at l2
        rw [hxo.2] at l3
        have w2 := fun v => wlabel_spec b4 l[k].l hxo.1 v s (by omega)
        have w3 := fun v => wlabel_spec b4 l[k].v hxo.2 v (s.put l[k].l) (by omega)
        have w4 := fun v => wnumber_spec b4 l[k].t (by omega) v ((s.put l[k].l).put l[k].v) (by omega)
        have hl5 := WS.len_lef s l[k] hxo (by omega)
        unfold WS.lef at hst hl5
        generalize ((s.put l[k].l).put l[k].v).number l[k].t = s4 at *
        generalize (s.put l[k].l).put l[k].v = s3 at *
        generalize s.put l[k].l = s2 at *
        clear l2 l3
        repeat' (first | refine Awp.seq ?_ | refine Awp.block ?_ | refine Awp.region ?_ | (refine Ops.nil ?_; show Awp _ _ _ _ _) | (refine Ops.nil ?_; show Exists _) | (refine Awp.skip ?_; show Awp _ _ _ _ _) | (refine o_add rfl rfl rfl rfl ?_ ?_; omega) | (refine o_calm rfl TtOk rfl rfl rfl ?_ (fun _ => ?_); exact nd) | refine o_alloc (d := 10) rfl TtOk rfl rfl rfl (fun b10 => ?_) | refine o_store TtOk rfl rfl rfl rfl rfl rfl rfl ⟨rfl, rfl⟩ rfl rfl rfl rfl rfl ?_ | (refine o_index rfl TtOk rfl rfl rfl rfl rfl rfl ?_ (getq_nat ?_) ?_; omega; omega) | refine a_condF rfl ?_ | (refine a_condP rfl (fun hc => ?_) (fun hc => ?_)) <;> (try (exfalso; omega)) | (refine o_mkIface TtOk rfl rfl rfl rfl rfl rfl ?_) | (refine o_call0 rfl (hgd) ⟨SLe.of_eq rfl, True.intro⟩ rfl ?_; rintro _ _ ⟨rfl, rfl⟩; refine ⟨rfl, ?_⟩) | (refine o_callPR rfl rfl rfl rfl rfl (w2 _) ⟨sle_ptr, SLe.of_eq rfl, True.intro⟩ (HOLe.refl _) (HOLe.refl _) rfl rfl ?_; rintro _ _ ⟨rfl, wv, rfl⟩; refine ⟨_, _, rfl, _, rfl, ?_⟩) | (refine o_callPR rfl rfl rfl rfl rfl (w3 _) ⟨sle_ptr, SLe.of_eq rfl, True.intro⟩ (HOLe.refl _) (HOLe.refl _) rfl rfl ?_; rintro _ _ ⟨rfl, wv, rfl⟩; refine ⟨_, _, rfl, _, rfl, ?_⟩) | (refine o_callPR rfl rfl rfl rfl rfl (w4 _) ⟨sle_ptr, SLe.of_eq rfl, True.intro⟩ (HOLe.refl _) (HOLe.refl _) rfl rfl ?_; rintro _ _ ⟨rfl, wv, rfl⟩; refine ⟨_, _, rfl, _, rfl, ?_⟩))
        exact ⟨(k + 1, s4, _), [], ⟨hkl, by show s4.bs.length ≤ _; omega, hst⟩, by show l.length - (k + 1) < l.length - k; omega, rfl, ⟨sle_i hk1, sle_i rfl, sle_sl rfl, sle_i rfl, SLe.of_eq rfl, sle_ptr, True.intro⟩, HLe.cons 4 rfl (HOLe.refl _) (HLe.cons 1 rfl (HOLe.refl _) .nil)⟩
      · rw [if_neg hg] at hst
        have hst : (([], 1) : List UInt8 × Int) = W := hst
        subst hst
        have hg1 : chkLf l[k] = 1 := by
          unfold chkLf at hg ⊢
          split
          · rfl
          · rename_i h; rw [if_neg h] at hg; exact absurd rfl hg
        rw [hg1] at hgd
        repeat' (first | refine Awp.seq ?_ | refine Awp.block ?_ | refine Awp.region ?_ | (refine Ops.nil ?_; show Awp _ _ _ _ _) | (refine Awp.skip ?_; show Awp _ _ _ _ _) | (refine Awp.ret ?_; show endK _ _ _ _ _) | (refine o_calm rfl TtOk rfl rfl rfl ?_ (fun _ => ?_); exact nd) | refine o_alloc (d := 10) rfl TtOk rfl rfl rfl (fun b10 => ?_) | refine o_store TtOk rfl rfl rfl rfl rfl rfl rfl ⟨rfl, rfl⟩ rfl rfl rfl rfl rfl ?_ | (refine o_index rfl TtOk rfl rfl rfl rfl rfl rfl ?_ (getq_nat ?_) ?_; omega; omega) | refine a_condT rfl ?_ | (refine a_condP rfl (fun hc => ?_) (fun hc => ?_)) <;> (try (exfalso; omega)) | (refine o_mkIface TtOk rfl rfl rfl rfl rfl rfl ?_) | (refine o_call0 rfl (hgd) ⟨SLe.of_eq rfl, True.intro⟩ rfl ?_; rintro _ _ ⟨rfl, rfl⟩; refine ⟨rfl, ?_⟩))
        refine end_all [] [] (.tup [.s [], .i .i64 1]) rfl ?_ ?_ (rle_tup2 (CLe.of_eq rfl) (CLe.of_eq rfl) rfl rfl) .nil ⟨rfl, rfl⟩ _ (.inl rfl)
        · repeat' (first | exact True.intro | exact rfl | refine ⟨?_, ?_⟩)
        · exact ⟨trivial, trivial, trivial⟩
    · have hke : k = l.length := by omega
      subst hke
      rw [List.drop_length, wLs, Option.bind_some] at hst
      repeat' (first | refine Awp.seq ?_ | refine Awp.region ?_ | (refine Ops.nil ?_; show Awp _ _ _ _ _) | (refine Ops.nil ?_; show Exists _) | (refine Awp.exit ?_; show Awp _ _ _ _ _) | (refine o_add rfl rfl rfl rfl ?_ ?_; omega) | (refine o_calm rfl TtOk rfl rfl rfl ?_ (fun _ => ?_); exact nd) | (refine a_condP rfl (fun hc => ?_) (fun hc => ?_)) <;> (try (exfalso; omega)))
      exact ⟨(j + 1, s, _), [], ⟨hjl, by show s.bs.length ≤ _; omega, by show fin19 (wLL s ([old, new].drop (j + 1))) = W; rw [hr]; exact hst⟩, by show 2 - (j + 1) < 2 - j; omega, rfl, ⟨sle_i hj1, SLe.of_eq rfl, sle_ptr, True.intro⟩, HLe.cons 4 rfl (HOLe.refl _) (HLe.cons 1 rfl (HOLe.refl _) .nil)⟩
  · have hje : j = 2 := by omega
    subst hje
    have hst : s.done = W := hst
    subst hst
    have w5 := fun v => wdone_spec b4 v s
    repeat' (first | refine Awp.seq ?_ | refine Awp.region ?_ | (refine Ops.nil ?_; show Awp _ _ _ _ _) | (refine Awp.exit ?_; show Awp _ _ _ _ _) | (refine Awp.ret ?_; show endK _ _ _ _ _) | (refine o_calm rfl TtOk rfl rfl rfl ?_ (fun _ => ?_); exact nd) | refine a_condF rfl ?_ | (refine o_callPR rfl rfl rfl rfl rfl (w5 _) ⟨sle_ptr, True.intro⟩ (HOLe.refl _) (HOLe.refl _) rfl rfl ?_; rintro _ _ ⟨rfl, wv, rfl⟩; refine ⟨_, _, rfl, _, rfl, ?_⟩))
    refine end_all [] [] (.tup [.s s.done.1, .i .i64 s.done.2]) rfl ?_ ?_ (rle_tup2 (CLe.of_eq rfl) (CLe.of_eq rfl) rfl rfl) .nil ⟨rfl, rfl⟩ _ (.inl rfl)
    · repeat' (first | exact True.intro | exact rfl | refine ⟨?_, ?_⟩)
    · exact ⟨trivial, trivial, trivial⟩
end Go.Proofs.YtcmgpkibjdbonaaGreat
