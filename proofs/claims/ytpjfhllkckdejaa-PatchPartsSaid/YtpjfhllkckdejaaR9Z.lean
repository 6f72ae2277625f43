/- law16.PatchCovers by rules. -/
import Derived.Test.YtpjfhllkckdejaaV33Z
import Derived.Test.YtpjfhllkckdejaaR8
import Derived.Test.YtpjfhllkckdejaaG10Z
import Derived.Test.YtpjfhllkckdejaaG14Z
set_option maxHeartbeats 16000000
set_option maxRecDepth 100000
namespace Go.Proofs.Ytpjfhllkckdejaa
open Go Go.RowKit
theorem filter_leafI (z : Itm) (l : List Lef) : (l.map leafI).filter (eqv (ltCI ordI) z) = (l.filter (eqv (ltCL ordL) ⟨z.l, [], 0⟩)).map leafI := by
  rw [List.filter_map]
  rfl
theorem itms_srt (l : List Lef) : itmsL (srtL l) = itmsL l := by
  refine (sortS_of woI (sortS_srt woI _) ?_)
  refine CE.trans (fun z => ?_) (sortS_ce woI _)
  rw [filter_leafI, filter_leafI, (sortS_ce woL l) ⟨z.l, [], 0⟩]; rfl
theorem itms_map (l : List Lef) : itmsL l = (srtL l).map leafI := by
  rw [← itms_srt]
  refine sortS_id woI ?_
  unfold Srt
  rw [List.pairwise_map]
  exact sortS_srt woL l
theorem openF_mem : ∀ (k : Nat) (ls : List (List UInt8)) (l : List Lef), ∀ x ∈ (openF k ls l).2, x ∈ l
  | 0, ls, l, x, h => by cases h
  | k + 1, ls, l, x, h => by
    unfold openF at h
    by_cases hn : l = []
    · rw [if_pos hn] at h; cases h
    rw [if_neg hn] at h
    by_cases hh : ls.any (hasP (joinF l.length (l.map leafI)).p) = false
    · rw [if_pos hh] at h; cases h
    rw [if_neg hh] at h
    by_cases h1 : l.length = 1
    · rw [if_pos h1] at h; exact h
    rw [if_neg h1] at h
    rcases List.mem_append.1 h with h | h
    · exact List.mem_of_mem_take (openF_mem k ls _ x h)
    · exact List.mem_of_mem_drop (openF_mem k ls _ x h)
theorem patchCovers_spec (l : List Lef) (ls : List (List UInt8)) (hl : l.length ≤ 9223372036854775807) (hls : ls.length ≤ 9223372036854775807) (hok : ∀ x ∈ l, x.ok) (hlo : ∀ x ∈ ls, x.length = 32) : Spec Try.prog 5 [.sl 65 (l.map Lef.A), .sl 32 (ls.map labA)] [] (fun v os => v = .b true ∧ os = []) := by
  refine spec_of TtOk [] Try.func5 rfl Try.ntmps5 (by kernel_rfl) rfl rfl (fun C => ?_) rfl
  have h1 := few_spec l 40 hl (by decide)
  have h2 := fewb_spec ls hls
  have hll : (l.take 40).length ≤ 40 := by rw [List.length_take]; omega
  have hlb : (ls.take 40).length ≤ 40 := by rw [List.length_take]; omega
  have hok1 : ∀ x ∈ l.take 40, x.ok := fun x hx => hok x (List.mem_of_mem_take hx)
  have hlo1 : ∀ x ∈ ls.take 40, x.length = 32 := fun x hx => hlo x (List.mem_of_mem_take hx)
  generalize l.take 40 = L at h1 hll hok1
  generalize ls.take 40 = B at h2 hlb hlo1
  have hio : ∀ x ∈ itmsL L, x.ok := fun x hx => by
    obtain ⟨y, hy, rfl⟩ := List.mem_map.1 (srtI_mem.1 hx)
    exact leafI_ok y (hok1 y hy)
  have hil : (itmsL L).length = L.length := by unfold itmsL; rw [srtI_len, List.length_map]
  have h3 := leaves16_spec L (by omega)
  have h4 := rof_spec L (by omega) hok1
  have h5 := rcheckI_spec (itmsL L) (by omega) hio
  have h6 := cover_spec L B (by omega) hok1 (by omega) hlo1
  have h7 := of_spec L (by omega) hok1
  have h8 := same16_spec (itmsL L) (by omega)
  have h9 := awake16_spec
  have hE : cvE L = chkI (itmsL L) := by unfold cvE; rw [itms_srt]
  rw [hE] at h6
  by_cases hc : chkI (itmsL L) = 0
  · obtain ⟨-, hr, hg⟩ := chkI_rise hc
    have h10 := rcover_spec B (by omega) hlo1 (itmsL L).length (itmsL L) (Nat.le_refl _) (by omega) hr hio hg
    have hI : cvI L B = (openF L.length B (srtL L)).1 := by unfold cvI; rw [if_pos (by rw [hE]; exact hc)]
    have hT : cvT L B = (openF L.length B (srtL L)).2 := by unfold cvT; rw [if_pos (by rw [hE]; exact hc)]
    have hcv : covI (itmsL L).length B (itmsL L) = ((openF L.length B (srtL L)).1, (openF L.length B (srtL L)).2.map leafI) := by rw [hil, itms_map, covI_open]
    rw [hcv] at h10
    rw [hI, hT, hc] at h6
    rw [hc] at h5
    have hol := openF_len L.length B (srtL L)
    rw [srtL_len] at hol
    have hot : ∀ x ∈ (openF L.length B (srtL L)).2, x.ok := fun x hx => hok1 x (srtL_mem.1 (openF_mem _ _ _ x hx))
    have h11 := same16_spec (openF L.length B (srtL L)).1 (by omega)
    clear hcv hI hT hE hr hg hio hc
    dsimp only at h10
    generalize (openF L.length B (srtL L)).1 = P at h6 h10 h11 hol
    generalize (openF L.length B (srtL L)).2 = Q at h6 h10 hol hot
    generalize itmsL L = I at *
    obtain ⟨Z, hZ⟩ : ∃ Z, Z = Q.map leafI := ⟨_, rfl⟩
    rw [← hZ] at h10
    have hZl : Z.length = Q.length := by rw [hZ, List.length_map]
    repeat' (first | (refine o_freezeR 15 0 rfl rfl rfl ?_) | refine Awp.seq ?_ | refine Awp.block ?_ | refine Awp.region ?_ | (refine Ops.nil ?_; show Awp _ _ _ _ _) | (refine Awp.skip ?_; show Awp _ _ _ _ _) | refine o_len rfl TtOk rfl rfl rfl (fun _ => ?_) | (refine o_calm rfl TtOk rfl rfl rfl ?_ (fun _ => ?_); first | exact True.intro | exact ⟨rfl, rfl, rfl, rfl⟩ | exact ⟨rfl, True.intro⟩ | exact ⟨rfl, rfl⟩ | exact ⟨rfl, rfl, rfl⟩ | exact rfl | exact ⟨fun h0 => by cases h0, rfl⟩ | exact (fun h0 => by cases h0) | exact ⟨rfl, by omega⟩ | exact ⟨Nat.succ_ne_zero _, rfl⟩ | omega) | refine a_condF rfl ?_ | (refine a_condN rfl (fun hc => ?_) (fun hc => ?_)) <;> (try (exfalso; omega)) | (refine o_callR rfl h1 ⟨SLe.of_eq rfl, SLe.of_eq rfl, True.intro⟩ rfl (fun vR => ?_)) | (refine o_call0 rfl (h2) ⟨SLe.of_eq rfl, True.intro⟩ rfl ?_; rintro _ _ ⟨rfl, rfl⟩; refine ⟨rfl, ?_⟩) | (refine o_call0 rfl (h3) ⟨SLe.of_eq rfl, True.intro⟩ rfl ?_; rintro _ _ ⟨rfl, rfl⟩; refine ⟨rfl, ?_⟩) | (refine o_call0 rfl (h4) ⟨SLe.of_eq rfl, True.intro⟩ rfl ?_; rintro _ _ ⟨rfl, rfl⟩; refine ⟨rfl, ?_⟩) | (refine o_call0 rfl (h5) ⟨SLe.of_eq rfl, True.intro⟩ rfl ?_; rintro _ _ ⟨rfl, rfl⟩; refine ⟨rfl, ?_⟩) | (refine o_call0 rfl (h6) ⟨SLe.of_eq rfl, SLe.of_eq rfl, True.intro⟩ rfl ?_; rintro _ _ ⟨rfl, rfl⟩; refine ⟨rfl, ?_⟩) | (refine o_call0 rfl (h7) ⟨SLe.of_eq rfl, True.intro⟩ rfl ?_; rintro _ _ ⟨rfl, rfl⟩; refine ⟨rfl, ?_⟩) | (refine o_call0 rfl (h8) ⟨SLe.of_eq rfl, SLe.of_eq rfl, True.intro⟩ rfl ?_; rintro _ _ ⟨rfl, rfl⟩; refine ⟨rfl, ?_⟩) | (refine o_call0 rfl (h9) True.intro rfl ?_; rintro _ _ ⟨rfl, rfl⟩; refine ⟨rfl, ?_⟩) | (refine o_call0 rfl (h10) ⟨SLe.of_eq rfl, SLe.of_eq rfl, True.intro⟩ rfl ?_; rintro _ _ ⟨rfl, rfl⟩; refine ⟨rfl, ?_⟩) | (refine o_call0 rfl (h11) ⟨SLe.of_eq rfl, SLe.of_eq rfl, True.intro⟩ rfl ?_; rintro _ _ ⟨rfl, rfl⟩; refine ⟨rfl, ?_⟩))
    refine Awp.loop (fun i : Nat => ⟨86, [(73, .i .i64 i), (72, .i .i64 Q.length), (71, .sl 65 (Q.map Lef.A)), (11, .sl 66 (Z.map Itm.R))], []⟩) (fun i => i ≤ Q.length) (fun i => Q.length - i) [] 0 (Nat.zero_le _) ?_ ?_
    · exact ⟨rfl, ⟨sle_i rfl, sle_i rfl, sle_sl rfl, sle_sl rfl, True.intro⟩, .nil⟩
    intro i hi
    by_cases hlt : i < Q.length
    · have hi1 : ((i : Int) + 1 = ((i + 1 : Nat) : Int)) := by omega
      have hlz : i < Z.length := by omega
      have hlf := rleaf_spec Q[i] (hot _ (List.getElem_mem hlt))
      have hz : Z[i] = leafI Q[i] := by simp only [hZ, List.getElem_map]
      have hq : (!(eqI (leafI Q[i]) Z[i])) = false := by rw [eqI_iff.2 hz.symm]; rfl
      clear h1 h2 h3 h4 h5 h6 h7 h8 h9 h10 h11
      repeat' (first | (refine o_neItm rfl (p := leafI Q[i]) (q := Z[i]) rfl rfl rfl ?_; rw [hq]) | refine Awp.seq ?_ | refine Awp.block ?_ | refine Awp.region ?_ | (refine Ops.nil ?_; show Awp _ _ _ _ _) | (refine Ops.nil ?_; show Exists _) | (refine Awp.skip ?_; show Awp _ _ _ _ _) | (refine o_add rfl rfl rfl rfl ?_ ?_; omega) | (refine o_calm rfl TtOk rfl rfl rfl ?_ (fun _ => ?_); first | exact True.intro | exact ⟨rfl, rfl, rfl, rfl⟩ | exact ⟨rfl, True.intro⟩ | exact ⟨rfl, rfl⟩ | exact ⟨rfl, rfl, rfl⟩ | exact rfl | exact ⟨fun h0 => by cases h0, rfl⟩ | exact (fun h0 => by cases h0) | exact ⟨rfl, by omega⟩ | exact ⟨Nat.succ_ne_zero _, rfl⟩ | omega) | refine o_alloc (d := 13) rfl TtOk rfl rfl rfl (fun b13 => ?_) | refine o_store TtOk rfl rfl rfl rfl rfl rfl rfl ⟨rfl, rfl⟩ rfl rfl rfl rfl rfl ?_ | (refine o_index rfl TtOk rfl rfl rfl rfl rfl rfl ?_ (getq_nat ?_) ?_; omega; omega) | refine a_condF rfl ?_ | (refine a_condP rfl (fun hc => ?_) (fun hc => ?_)) <;> (try (exfalso; omega)) | refine a_any 16 [] [] [] [2, 3, 4, 0, 5, 1, 6] (by kernel_rfl) (by kernel_rfl) (by kernel_rfl) rfl rfl rfl ?_ | (refine o_call0 rfl (hlf) ⟨SLe.of_eq rfl, True.intro⟩ rfl ?_; rintro _ _ ⟨rfl, rfl⟩; refine ⟨rfl, ?_⟩))
      exact ⟨i + 1, [], hlt, by omega, rfl, ⟨sle_i hi1, sle_i rfl, sle_sl rfl, sle_sl rfl, True.intro⟩, .nil⟩
    · have hie : i = Q.length := by omega
      subst hie
      repeat' (first | refine Awp.seq ?_ | refine Awp.region ?_ | (refine Ops.nil ?_; show Awp _ _ _ _ _) | (refine Awp.exit ?_; show Awp _ _ _ _ _) | (refine Awp.ret ?_; show endK _ _ _ _ _) | (refine o_calm rfl TtOk rfl rfl rfl ?_ (fun _ => ?_); first | exact True.intro | exact ⟨rfl, rfl, rfl, rfl⟩ | exact ⟨rfl, True.intro⟩ | exact ⟨rfl, rfl⟩ | exact ⟨rfl, rfl, rfl⟩ | exact rfl | exact ⟨fun h0 => by cases h0, rfl⟩ | exact (fun h0 => by cases h0) | exact ⟨rfl, by omega⟩ | exact ⟨Nat.succ_ne_zero _, rfl⟩ | omega) | (refine a_condP rfl (fun hc => ?_) (fun hc => ?_)) <;> (try (exfalso; omega)))
      exact end_tmp rfl rfl rfl [] [] (CLe.of_eq rfl) .nil ⟨rfl, rfl⟩ _ (.inl rfl)
  · have hI : cvI L B = [] := by unfold cvI; rw [if_neg (by rw [hE]; exact hc)]
    have hT : cvT L B = [] := by unfold cvT; rw [if_neg (by rw [hE]; exact hc)]
    rw [hI, hT] at h6
    clear hI hT hE
    generalize chkI (itmsL L) = c at *
    generalize itmsL L = I at *
    have hc2 : (c != c) = false := by simp
    repeat' (first | (rw [hc2]) | (refine o_freezeR 15 0 rfl rfl rfl ?_) | refine Awp.seq ?_ | refine Awp.region ?_ | (refine Ops.nil ?_; show Awp _ _ _ _ _) | (refine Awp.skip ?_; show Awp _ _ _ _ _) | (refine Awp.ret ?_; show endK _ _ _ _ _) | refine o_len rfl TtOk rfl rfl rfl (fun _ => ?_) | (refine o_calm rfl TtOk rfl rfl rfl ?_ (fun _ => ?_); first | exact True.intro | exact ⟨rfl, rfl, rfl, rfl⟩ | exact ⟨rfl, True.intro⟩ | exact ⟨rfl, rfl⟩ | exact ⟨rfl, rfl, rfl⟩ | exact rfl | exact ⟨fun h0 => by cases h0, rfl⟩ | exact (fun h0 => by cases h0) | exact ⟨rfl, by omega⟩ | exact ⟨Nat.succ_ne_zero _, rfl⟩ | omega) | refine a_condF rfl ?_ | (refine a_condN rfl (fun hc => ?_) (fun hc => ?_)) <;> (try (exfalso; omega)) | (refine o_callR rfl h1 ⟨SLe.of_eq rfl, SLe.of_eq rfl, True.intro⟩ rfl (fun vR => ?_)) | (refine o_call0 rfl (h2) ⟨SLe.of_eq rfl, True.intro⟩ rfl ?_; rintro _ _ ⟨rfl, rfl⟩; refine ⟨rfl, ?_⟩) | (refine o_call0 rfl (h3) ⟨SLe.of_eq rfl, True.intro⟩ rfl ?_; rintro _ _ ⟨rfl, rfl⟩; refine ⟨rfl, ?_⟩) | (refine o_call0 rfl (h4) ⟨SLe.of_eq rfl, True.intro⟩ rfl ?_; rintro _ _ ⟨rfl, rfl⟩; refine ⟨rfl, ?_⟩) | (refine o_call0 rfl (h5) ⟨SLe.of_eq rfl, True.intro⟩ rfl ?_; rintro _ _ ⟨rfl, rfl⟩; refine ⟨rfl, ?_⟩) | (refine o_call0 rfl (h6) ⟨SLe.of_eq rfl, SLe.of_eq rfl, True.intro⟩ rfl ?_; rintro _ _ ⟨rfl, rfl⟩; refine ⟨rfl, ?_⟩) | (refine o_call0 rfl (h7) ⟨SLe.of_eq rfl, True.intro⟩ rfl ?_; rintro _ _ ⟨rfl, rfl⟩; refine ⟨rfl, ?_⟩) | (refine o_call0 rfl (h8) ⟨SLe.of_eq rfl, SLe.of_eq rfl, True.intro⟩ rfl ?_; rintro _ _ ⟨rfl, rfl⟩; refine ⟨rfl, ?_⟩) | (refine o_call0 rfl (h9) True.intro rfl ?_; rintro _ _ ⟨rfl, rfl⟩; refine ⟨rfl, ?_⟩))
    all_goals exact end_tmp rfl rfl rfl [] [] (CLe.of_eq rfl) .nil ⟨rfl, rfl⟩ _ (.inl rfl)
end Go.Proofs.Ytpjfhllkckdejaa
set_option maxHeartbeats 4000000
namespace Go.Proofs.Ytpjfhllkckdejaa
open Go Go.RowKit
theorem short_filter {α : Type} {R : α → α → Prop} {p : α → Bool} (hn : ∀ x y, p x = true → p y = true → ¬ R x y) : ∀ {l : List α}, l.Pairwise R → (l.filter p).length ≤ 1 := by
  intro l h
  have h2 := h.filter p
  have h3 : ∀ x ∈ l.filter p, p x = true := fun x hx => (List.mem_filter.1 hx).2
  generalize l.filter p = q at h2 h3
  match q, h2, h3 with
  | [], _, _ => exact Nat.zero_le _
  | [x], _, _ => exact Nat.le_refl _
  | x :: y :: r, h2, h3 => exact absurd ((List.pairwise_cons.1 h2).1 y (by simp)) (hn x y (h3 x (by simp)) (h3 y (by simp)))
theorem perm_short {α : Type} {a b : List α} (h : a.Perm b) (hl : b.length ≤ 1) : a = b := by
  match b, hl with
  | [], _ => exact List.perm_nil.1 h
  | [x], _ => exact List.perm_singleton.1 h
theorem eqvI {x y : Itm} (h : eqv (ltCI ordI) x y = true) : x.l = y.l := by
  unfold eqv at h
  simp only [Bool.and_eq_true, Bool.not_eq_true'] at h
  have h1 : ¬ cmpS x.l y.l < 0 := of_decide_eq_false h.1
  have h2 : ¬ cmpS y.l x.l < 0 := of_decide_eq_false h.2
  rcases less_tri x.l y.l with k | k | k
  · exact absurd (cmpS_neg.2 k) h1
  · exact k
  · exact absurd (cmpS_neg.2 k) h2
/-- What rises when sorted is sorted to one list, in whatever order it came. -/
theorem srt_perm {a b : List Itm} (h : a.Perm b) (hr : RiseI (srtI b)) : srtI a = srtI b := by
  refine (sortS_of woI (sortS_srt woI b) ?_).symm
  refine CE.trans (fun z => ?_) (sortS_ce woI b)
  refine perm_short (h.filter _) ?_
  have hc : b.filter (eqv (ltCI ordI) z) = (srtI b).filter (eqv (ltCI ordI) z) := sortS_ce woI b z
  rw [hc]
  exact short_filter (fun x y hx hy hxy => by
    have e1 := eqvI hx
    have e2 := eqvI hy
    rw [← e1, ← e2, cmpS_eq] at hxy
    omega) hr
theorem itms_perm {a b : List Lef} (h : a.Perm b) (hc : chkI (itmsL b) = 0) : itmsL a = itmsL b := srt_perm (h.map leafI) (chkI_rise hc).2.1
theorem top_perm {a b : List Lef} (h : a.Perm b) : (chkI (itmsL a) = 0 ↔ chkI (itmsL b) = 0) ∧ topS (itmsL a) = topS (itmsL b) := by
  have h1 : chkI (itmsL a) = 0 ↔ chkI (itmsL b) = 0 := ⟨fun hc => by rw [itms_perm h.symm hc]; exact hc, fun hc => by rw [itms_perm h hc]; exact hc⟩
  refine ⟨h1, ?_⟩
  by_cases hc : chkI (itmsL b) = 0
  · rw [itms_perm h hc]
  · unfold topS
    rw [if_pos hc, if_pos (fun h => hc (h1.1 h))]
end Go.Proofs.Ytpjfhllkckdejaa
set_option maxHeartbeats 8000000
set_option maxRecDepth 100000
namespace Go.Proofs.Ytpjfhllkckdejaa
open Go Go.RowKit
def swpL (m : List Lef) (i j : Nat) (h1 : i < m.length) (h2 : j < m.length) : List Lef := (m.set i m[j]).set j m[i]
theorem swp_perm (m : List Lef) (i j : Nat) (h1 : i < m.length) (h2 : j < m.length) : (swpL m i j h1 h2).Perm m := by
  unfold swpL
  exact List.set_set_perm h1 h2
def iA (n : Int) : AV := .i .i64 n
theorem patchOrder_spec (l : List Lef) (by_ : List Int) (hl : l.length ≤ 9223372036854775807) (hb : by_.length ≤ 9223372036854775807) (hok : ∀ x ∈ l, x.ok) : Spec Try.prog 7 [.sl 65 (l.map Lef.A), .sl 1 (by_.map iA)] [] (fun v os => v = .b true ∧ os = []) := by
  refine spec_of TtOk [] Try.func7 rfl Try.ntmps7 (by kernel_rfl) rfl rfl (fun C => ?_) rfl
  have h1 := few_spec l 40 hl (by decide)
  have hlen : (l.take 40).length ≤ 40 := by rw [List.length_take]; omega
  have hok1 : ∀ x ∈ l.take 40, x.ok := fun x hx => hok x (List.mem_of_mem_take hx)
  generalize l.take 40 = L at h1 hlen hok1
  have h1b := few_spec L 40 (by omega) (by decide)
  rw [List.take_of_length_le hlen] at h1b
  have h2 := of_spec L (by omega) hok1
  have hio : ∀ M : List Lef, (∀ x ∈ M, x.ok) → ∀ x ∈ itmsL M, x.ok := fun M hM x hx => by
    obtain ⟨y, hy, rfl⟩ := List.mem_map.1 (srtI_mem.1 hx)
    exact leafI_ok y (hM y hy)
  have hil : ∀ M : List Lef, (itmsL M).length = M.length := fun M => by unfold itmsL; rw [srtI_len, List.length_map]
  have h3 := top_spec (itmsL L) (by rw [hil]; omega) (hio L hok1)
  have hpt := fun (M : List Lef) (h : M.Perm L) => top_perm h
  generalize topS (itmsL L) = s at h3 hpt
  generalize chkI (itmsL L) = e at h3 hpt
  generalize itmsL L = I at h2 h3
  repeat' (first | (refine o_freezeR 13 0 rfl rfl rfl ?_) | refine Awp.seq ?_ | refine Awp.block ?_ | refine Awp.region ?_ | (refine Ops.nil ?_; show Awp _ _ _ _ _) | (refine o_calm rfl TtOk rfl rfl rfl ?_ (fun _ => ?_); first | exact True.intro | exact ⟨rfl, rfl, rfl, rfl⟩ | exact ⟨rfl, True.intro⟩ | exact ⟨rfl, rfl⟩ | exact ⟨rfl, rfl, rfl⟩ | exact rfl | exact ⟨fun h0 => by cases h0, rfl⟩ | exact (fun h0 => by cases h0) | exact ⟨rfl, by omega⟩ | exact ⟨Nat.succ_ne_zero _, rfl⟩ | omega) | refine o_alloc (d := 5) rfl TtOk rfl rfl rfl (fun b5 => ?_) | refine o_store TtOk rfl rfl rfl rfl rfl rfl rfl ⟨rfl, rfl⟩ rfl rfl rfl rfl rfl ?_ | (refine o_callR rfl h1 ⟨SLe.of_eq rfl, SLe.of_eq rfl, True.intro⟩ rfl (fun vR => ?_)) | (refine o_callR rfl h1b ⟨SLe.of_eq rfl, SLe.of_eq rfl, True.intro⟩ rfl (fun vQ => ?_)) | (refine o_call0 rfl (h2) ⟨SLe.of_eq rfl, True.intro⟩ rfl ?_; rintro _ _ ⟨rfl, rfl⟩; refine ⟨rfl, ?_⟩) | (refine o_call0 rfl (h3) ⟨SLe.of_eq rfl, True.intro⟩ rfl ?_; rintro _ _ ⟨rfl, rfl⟩; refine ⟨rfl, ?_⟩))
  refine Awp.loop (fun q : Nat × List Lef => ⟨88, [(8, .i .i64 q.1), (7, .own 21 vQ), (1, .sl 1 (by_.map iA)), (5, .ptr 5 b5 [] 0), (6, .i .i64 e)], [(21, .row vQ 38 65 (q.2.map Lef.A)), (5, .var b5 (labA s))]⟩) (fun q => q.1 ≤ L.length ∧ q.2.Perm L) (fun q => L.length - q.1) [] (0, L) ⟨Nat.zero_le _, List.Perm.refl _⟩ ?_ ?_
  · exact ⟨rfl, ⟨sle_i rfl, sle_own, sle_sl rfl, sle_ptr, sle_i rfl, True.intro⟩, HLe.cons 21 rfl (HOLe.refl _) (HLe.cons 5 rfl (HOLe.refl _) .nil)⟩
  rintro ⟨i, M⟩ ⟨hi, hp⟩
  dsimp only at hi hp ⊢
  have hml := hp.length_eq
  by_cases hgo : i < by_.length ∧ i < M.length
  · obtain ⟨g1, g2⟩ := hgo
    have hi1 : ((i : Int) + 1 = ((i + 1 : Nat) : Int)) := by omega
    by_cases hj : 0 ≤ by_[i] ∧ by_[i] < M.length
    · obtain ⟨j1, j2⟩ := hj
      obtain ⟨j, hbj⟩ : ∃ j : Nat, by_[i] = (j : Int) := ⟨by_[i].toNat, by omega⟩
      have hjl : j < M.length := by omega
      have hst : (List.map Lef.A M).set i (updAt [] M[i].A (AV.agg [labA M[j].l, labA M[j].v, AV.i .i64 M[j].t])) = (M.set i M[j]).map Lef.A := by rw [List.map_set]; rfl
      have hsl : (M.set i M[j]).length = M.length := List.length_set ..
      have hsp := swp_perm M i j g2 hjl
      have hsw : swpL M i j g2 hjl = (M.set i M[j]).set j M[i] := rfl
      rw [hsw] at hsp
      repeat' (first | (rw [hst]) | (rw [hbj]) | refine Awp.seq ?_ | refine Awp.block ?_ | refine Awp.region ?_ | (refine Ops.nil ?_; show Awp _ _ _ _ _) | (refine Ops.nil ?_; show Exists _) | (refine Awp.skip ?_; show Awp _ _ _ _ _) | (refine o_add rfl rfl rfl rfl ?_ ?_; omega) | refine o_len rfl TtOk rfl rfl rfl (fun _ => ?_) | refine o_lenOwn rfl TtOk rfl rfl rfl rfl (fun _ => ?_) | (refine o_calm rfl TtOk rfl rfl rfl ?_ (fun _ => ?_); first | exact True.intro | exact ⟨rfl, rfl, rfl, rfl⟩ | exact ⟨rfl, True.intro⟩ | exact ⟨rfl, rfl⟩ | exact ⟨rfl, rfl, rfl⟩ | exact rfl | exact ⟨fun h0 => by cases h0, rfl⟩ | exact (fun h0 => by cases h0) | exact ⟨rfl, by omega⟩ | exact ⟨Nat.succ_ne_zero _, rfl⟩ | omega) | refine o_alloc (d := 9) rfl TtOk rfl rfl rfl (fun b9 => ?_) | refine o_store TtOk rfl rfl rfl rfl rfl rfl rfl ⟨rfl, rfl⟩ rfl rfl rfl rfl rfl ?_ | (refine o_index rfl TtOk rfl rfl rfl rfl rfl rfl ?_ (getq_nat ?_) ?_; omega; omega) | (refine o_indexOwn TtOk rfl rfl rfl rfl rfl rfl rfl rfl _ rfl ?_ (fun bO hbO => ?_); ((repeat' (first | rw [List.length_append] | rw [List.length_map] | rw [List.length_cons] | rw [List.length_nil] | rw [List.length_take] | rw [List.length_drop])) <;> omega)) | (refine o_loadRow TtOk rfl rfl rfl rfl rfl (by assumption) (getq_map (List.getElem?_eq_getElem ?_)) rfl rfl (by first | exact Nat.add_zero _ | rfl) ⟨rfl, rfl⟩ ?_; omega) | (refine o_storeRow TtOk rfl rfl rfl rfl rfl rfl (by assumption) (getq_map (List.getElem?_eq_getElem ?_)) rfl rfl (by first | exact Nat.add_zero _ | rfl) ⟨rfl, rfl⟩ rfl rfl ?_; omega) | (fail_if_success (refine o_isLit rfl (by first | exact .inl rfl | exact .inr rfl) ?_)); (refine o_splitP rfl rfl (fun hc => ?_) (fun hc => ?_) <;> try (exfalso; omega)) | (refine a_condP rfl (fun hc => ?_) (fun hc => ?_)) <;> (try (exfalso; omega)) | refine a_any 10 [21] [66, 67] [] [0, 1, 2, 3, 4, 5, 6, 7] (by kernel_rfl) (by kernel_rfl) (by kernel_rfl) rfl rfl rfl ?_)
      all_goals
        refine ⟨(i + 1, (M.set i M[j]).set j M[i]), [], ⟨by show i + 1 ≤ L.length; omega, hsp.trans hp⟩, by show L.length - (i + 1) < L.length - i; omega, rfl, ⟨sle_i hi1, sle_own, sle_sl rfl, sle_ptr, sle_i rfl, True.intro⟩, HLe.cons 21 rfl (HOLe.row ?_) (HLe.cons 5 rfl (HOLe.refl _) .nil)⟩
        rw [List.map_set (l := M.set i M[j])]; rfl
    · repeat' (first | refine Awp.seq ?_ | refine Awp.block ?_ | refine Awp.region ?_ | (refine Ops.nil ?_; show Awp _ _ _ _ _) | (refine Ops.nil ?_; show Exists _) | (refine Awp.skip ?_; show Awp _ _ _ _ _) | refine o_noT rfl rfl rfl ?_ | (refine o_add rfl rfl rfl rfl ?_ ?_; omega) | refine o_len rfl TtOk rfl rfl rfl (fun _ => ?_) | refine o_lenOwn rfl TtOk rfl rfl rfl rfl (fun _ => ?_) | (refine o_calm rfl TtOk rfl rfl rfl ?_ (fun _ => ?_); first | exact True.intro | exact ⟨rfl, rfl, rfl, rfl⟩ | exact ⟨rfl, True.intro⟩ | exact ⟨rfl, rfl⟩ | exact ⟨rfl, rfl, rfl⟩ | exact rfl | exact ⟨fun h0 => by cases h0, rfl⟩ | exact (fun h0 => by cases h0) | exact ⟨rfl, by omega⟩ | exact ⟨Nat.succ_ne_zero _, rfl⟩ | omega) | (refine o_index rfl TtOk rfl rfl rfl rfl rfl rfl ?_ (getq_nat ?_) ?_; omega; omega) | (fail_if_success (refine o_isLit rfl (by first | exact .inl rfl | exact .inr rfl) ?_)); (refine o_splitP rfl rfl (fun hc => ?_) (fun hc => ?_) <;> try (exfalso; omega)) | refine a_condF rfl ?_ | (refine a_condP rfl (fun hc => ?_) (fun hc => ?_)) <;> (try (exfalso; omega)))
      all_goals exact ⟨(i + 1, M), [], ⟨by show i + 1 ≤ L.length; omega, hp⟩, by show L.length - (i + 1) < L.length - i; omega, rfl, ⟨sle_i hi1, sle_own, sle_sl rfl, sle_ptr, sle_i rfl, True.intro⟩, HLe.cons 21 rfl (HOLe.refl _) (HLe.cons 5 rfl (HOLe.refl _) .nil)⟩
  · obtain ⟨p1, p2⟩ := hpt M hp
    have hokM : ∀ x ∈ M, x.ok := fun x hx => hok1 x (hp.mem_iff.1 hx)
    have h4 := of_spec M (by omega) hokM
    have h5 := top_spec (itmsL M) (by rw [hil]; omega) (hio M hokM)
    rw [p2] at h5
    generalize chkI (itmsL M) = f at h5 p1
    generalize itmsL M = J at h4 h5
    have h6 := awake16_spec
    by_cases he : e = 0
    · have hf := p1.2 he
      subst he
      subst hf
      repeat' (first | (refine o_freezeR (xs := M.map Lef.A) 21 7 rfl rfl rfl ?_) | refine Awp.seq ?_ | refine Awp.region ?_ | (refine Ops.nil ?_; show Awp _ _ _ _ _) | (refine Awp.exit ?_; show Awp _ _ _ _ _) | (refine Awp.ret ?_; show endK _ _ _ _ _) | refine o_noT rfl rfl rfl ?_ | refine o_len rfl TtOk rfl rfl rfl (fun _ => ?_) | (refine o_calm rfl TtOk rfl rfl rfl ?_ (fun _ => ?_); first | exact True.intro | exact ⟨rfl, rfl, rfl, rfl⟩ | exact ⟨rfl, True.intro⟩ | exact ⟨rfl, rfl⟩ | exact ⟨rfl, rfl, rfl⟩ | exact rfl | exact ⟨fun h0 => by cases h0, rfl⟩ | exact (fun h0 => by cases h0) | exact ⟨rfl, by omega⟩ | exact ⟨Nat.succ_ne_zero _, rfl⟩ | omega) | refine o_alloc (d := 10) rfl TtOk rfl rfl rfl (fun b10 => ?_) | refine o_store TtOk rfl rfl rfl rfl rfl rfl rfl ⟨rfl, rfl⟩ rfl rfl rfl rfl rfl ?_ | refine o_eqArr8 TtOk rfl rfl rfl rfl rfl rfl (by kernel_rfl) ?_ | (fail_if_success (refine o_isLit rfl (by first | exact .inl rfl | exact .inr rfl) ?_)); (refine o_splitP rfl rfl (fun hc => ?_) (fun hc => ?_) <;> try (exfalso; omega)) | refine a_condF rfl ?_ | (refine a_condP rfl (fun hc => ?_) (fun hc => ?_)) <;> (try (exfalso; omega)) | (refine o_call0 rfl (h4) ⟨SLe.of_eq rfl, True.intro⟩ rfl ?_; rintro _ _ ⟨rfl, rfl⟩; refine ⟨rfl, ?_⟩) | (refine o_call0 rfl (h5) ⟨SLe.of_eq rfl, True.intro⟩ rfl ?_; rintro _ _ ⟨rfl, rfl⟩; refine ⟨rfl, ?_⟩) | (refine o_call0 rfl (h6) True.intro rfl ?_; rintro _ _ ⟨rfl, rfl⟩; refine ⟨rfl, ?_⟩))
      all_goals
        refine end_tmp rfl rfl rfl [] [] (CLe.of_eq ?_) .nil ⟨rfl, rfl⟩ _ (.inl rfl)
        show AV.b (s == s) = AV.b true
        rw [beq_self_eq_true]
    · have hf : ¬ f = 0 := fun h => he (p1.1 h)
      have hee : (e == 0) = false := beq_eq_false_iff_ne.2 he
      have hff : (f == 0) = false := beq_eq_false_iff_ne.2 hf
      repeat' (first | (rw [hff]) | (rw [hee]) | (refine o_freezeR (xs := M.map Lef.A) 21 7 rfl rfl rfl ?_) | refine Awp.seq ?_ | refine Awp.region ?_ | (refine Ops.nil ?_; show Awp _ _ _ _ _) | (refine Awp.exit ?_; show Awp _ _ _ _ _) | (refine Awp.ret ?_; show endK _ _ _ _ _) | refine o_noT rfl rfl rfl ?_ | refine o_len rfl TtOk rfl rfl rfl (fun _ => ?_) | (refine o_calm rfl TtOk rfl rfl rfl ?_ (fun _ => ?_); first | exact True.intro | exact ⟨rfl, rfl, rfl, rfl⟩ | exact ⟨rfl, True.intro⟩ | exact ⟨rfl, rfl⟩ | exact ⟨rfl, rfl, rfl⟩ | exact rfl | exact ⟨fun h0 => by cases h0, rfl⟩ | exact (fun h0 => by cases h0) | exact ⟨rfl, by omega⟩ | exact ⟨Nat.succ_ne_zero _, rfl⟩ | omega) | refine o_alloc (d := 10) rfl TtOk rfl rfl rfl (fun b10 => ?_) | refine o_store TtOk rfl rfl rfl rfl rfl rfl rfl ⟨rfl, rfl⟩ rfl rfl rfl rfl rfl ?_ | refine o_eqArr8 TtOk rfl rfl rfl rfl rfl rfl (by kernel_rfl) ?_ | (fail_if_success (refine o_isLit rfl (by first | exact .inl rfl | exact .inr rfl) ?_)); (refine o_splitP rfl rfl (fun hc => ?_) (fun hc => ?_) <;> try (exfalso; omega)) | refine a_condF rfl ?_ | (refine a_condP rfl (fun hc => ?_) (fun hc => ?_)) <;> (try (exfalso; omega)) | (refine o_call0 rfl (h4) ⟨SLe.of_eq rfl, True.intro⟩ rfl ?_; rintro _ _ ⟨rfl, rfl⟩; refine ⟨rfl, ?_⟩) | (refine o_call0 rfl (h5) ⟨SLe.of_eq rfl, True.intro⟩ rfl ?_; rintro _ _ ⟨rfl, rfl⟩; refine ⟨rfl, ?_⟩) | (refine o_call0 rfl (h6) True.intro rfl ?_; rintro _ _ ⟨rfl, rfl⟩; refine ⟨rfl, ?_⟩))
      all_goals
        refine end_tmp rfl rfl rfl [] [] (CLe.of_eq ?_) .nil ⟨rfl, rfl⟩ _ (.inl rfl)
        show AV.b (s == s) = AV.b true
        rw [beq_self_eq_true]
end Go.Proofs.Ytpjfhllkckdejaa
