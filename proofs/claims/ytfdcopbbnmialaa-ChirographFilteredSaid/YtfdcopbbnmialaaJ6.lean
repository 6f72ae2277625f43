/- journal.Add and Turn by rules. -/
import Derived.Test.YtfdcopbbnmialaaJ4
import Derived.Test.YtfdcopbbnmialaaJ5Z
set_option maxHeartbeats 16000000
set_option maxRecDepth 100000
namespace Go.Proofs.Ytfdcopbbnmialaa
open Go Go.RowKit
def addE (D : Dsk) (now : Nat) (s : List UInt8) (q : Nat) : Int := if 65536 < s.length then 2 else if appE D (nameN now) (sealWrap s) ≠ 0 then appE D (nameN now) (sealWrap s) else synE (appD D (nameN now) (sealWrap s) q) (nameN now)
def addD (D : Dsk) (now : Nat) (s : List UInt8) (q : Nat) : Dsk := if 65536 < s.length then D else if appE D (nameN now) (sealWrap s) ≠ 0 then appD D (nameN now) (sealWrap s) q else synD (appD D (nameN now) (sealWrap s) q) (nameN now)
theorem sealWrap_len (s : List UInt8) : (sealWrap s).length = s.length + 8 := by
  unfold sealWrap
  rw [List.length_append, List.length_append, head_len, four_len]; omega
theorem jadd_spec (bd bm bj : Nat) (D : Dsk) (now : Nat) (s : List UInt8) (ok : D.ok) (hu : D.used ≤ 1099511627776) (hf : D.fuse < 9223372036854775807) (hs : s.length ≤ 1000000000) (hn : now < 10000000000) : Spec Try.prog 6 [.ptr 3 bj [] 0, .s s] (dskL bd bm D ++ [jouO bd bj now]) (fun v os => ∃ q, v = .i .i64 (addE D now s q) ∧ os = dskL bd bm (addD D now s q) ++ [jouO bd bj now]) := by
  have k1 := wrap_spec s hs
  have k2 := name_spec now hn
  have hwl := sealWrap_len s
  have k3 := append_spec bd bm D (nameN now) (sealWrap s) ok hu (by rw [nameN_len]; decide) (by omega) (by omega)
  have hAo := fun q => @appD_ok D (nameN now) (sealWrap s) q ok
  have hAf : ∀ q, (appD D (nameN now) (sealWrap s) q).fuse < 9223372036854775808 := fun q => by
    unfold appD
    split
    · omega
    · show (deedR D.fuse D.dead).2.2.1 < _
      unfold deedR
      split
      · show D.fuse < _; omega
      split
      · show D.fuse < _; omega
      split
      · show D.fuse - 1 < _; omega
      · show D.fuse < _; omega
  have k4 := fun q => sync_spec bd bm (appD D (nameN now) (sealWrap s) q) (nameN now) (hAo q).1 (by have := (hAo q).2.1; omega) (by rw [nameN_len]; decide) (hAf q)
  unfold addE addD
  unfold swrap at k1
  obtain ⟨E, hE⟩ : ∃ E, appE D (nameN now) (sealWrap s) = E := ⟨_, rfl⟩
  rw [hE] at k3 ⊢
  clear hAo hAf
  generalize appD D (nameN now) (sealWrap s) = A at k3 k4 ⊢
  generalize sealWrap s = W at k1 k3
  have hL : ∀ D : Dsk, dskL bd bm D = [.var bd (dskV bm D), .obj bm (mpO D.es D.clk), grpL (D.fs.map Fil.O)] := fun _ => rfl
  have hL4 : ∀ D : Dsk, dskL bd bm D ++ [jouO bd bj now] = [.var bd (dskV bm D), .obj bm (mpO D.es D.clk), grpL (D.fs.map Fil.O), jouO bd bj now] := fun _ => rfl
  simp only [hL4]
  simp only [hL] at k3 k4
  by_cases h1 : 65536 < s.length
  · rw [if_pos h1] at k1
    simp only [if_pos h1]
    refine spec_of TtOk [(0, .var bd (dskV bm D)), (1, .obj bm (mpO D.es D.clk)), (2, grpL (D.fs.map Fil.O)), (3, .var bj (.agg [.ptr 0 bd [] 0, .i .i64 now]))] Try.func6 rfl Try.ntmps6 (by kernel_rfl) rfl rfl (fun C => ?_) rfl
    repeat' (first | refine Awp.seq ?_ | refine Awp.region ?_ | (refine Ops.nil ?_; show Awp _ _ _ _ _) | (refine Awp.ret ?_; show endK _ _ _ _ _) | (refine o_calm rfl TtOk rfl rfl rfl ?_ (fun _ => ?_); first | exact True.intro | exact ⟨rfl, rfl, rfl, rfl⟩ | exact ⟨rfl, True.intro⟩ | exact ⟨rfl, rfl⟩ | exact ⟨rfl, rfl, rfl⟩ | exact rfl | exact ⟨fun h0 => by cases h0, rfl⟩ | exact (fun h0 => by cases h0) | exact ⟨rfl, by omega⟩ | exact ⟨Nat.succ_ne_zero _, rfl⟩ | omega) | refine a_condT rfl ?_ | (refine o_call0 rfl (k1) ⟨SLe.of_eq rfl, True.intro⟩ rfl ?_; rintro _ _ ⟨rfl, rfl⟩; refine ⟨rfl, ?_⟩))
    all_goals
      refine end_all [] [(0, _), (1, _), (2, _), (3, _)] (.i .i64 (2)) rfl ?_ ?_ (rle_one (CLe.of_eq rfl) rfl) (HLe.cons 0 rfl (HOLe.refl _) (HLe.cons 1 rfl (HOLe.refl _) (HLe.cons 2 rfl (HOLe.refl _) (HLe.cons 3 rfl (HOLe.refl _) .nil)))) ⟨0, rfl, rfl⟩ _ (.inl rfl)
      · repeat' (first | exact True.intro | exact rfl | refine ⟨?_, ?_⟩)
      · exact ⟨trivial, trivial⟩
  rw [if_neg h1] at k1
  simp only [if_neg h1]
  by_cases hE0 : E = 0
  · subst hE0
    simp only [if_neg (show ¬ ((0 : Int) ≠ 0) by decide)]
    refine spec_of TtOk [(0, .var bd (dskV bm D)), (1, .obj bm (mpO D.es D.clk)), (2, grpL (D.fs.map Fil.O)), (3, .var bj (.agg [.ptr 0 bd [] 0, .i .i64 now]))] Try.func6 rfl Try.ntmps6 (by kernel_rfl) rfl rfl (fun C => ?_) rfl
    repeat' (first | refine Awp.seq ?_ | refine Awp.region ?_ | (refine Ops.nil ?_; show Awp _ _ _ _ _) | (refine Awp.skip ?_; show Awp _ _ _ _ _) | (refine Awp.ret ?_; show endK _ _ _ _ _) | (refine o_calm rfl TtOk rfl rfl rfl ?_ (fun _ => ?_); first | exact True.intro | exact ⟨rfl, rfl, rfl, rfl⟩ | exact ⟨rfl, True.intro⟩ | exact ⟨rfl, rfl⟩ | exact ⟨rfl, rfl, rfl⟩ | exact rfl | exact ⟨fun h0 => by cases h0, rfl⟩ | exact (fun h0 => by cases h0) | exact ⟨rfl, by omega⟩ | exact ⟨Nat.succ_ne_zero _, rfl⟩ | omega) | refine a_condF rfl ?_ | refine a_any 4 [0, 1, 2] [23] [] [0, 1, 2, 4, 5, 6, 9, 3, 7, 8, 10, 11] (by kernel_rfl) (by kernel_rfl) (by kernel_rfl) rfl rfl rfl ?_ | refine a_any 7 [0, 1, 2] [37] [] [0, 1, 2, 4, 5, 6, 3, 7, 8, 9, 10] (by kernel_rfl) (by kernel_rfl) (by kernel_rfl) rfl rfl rfl ?_ | (refine o_call [] [0, 1, 2] [0, 1, 2] rfl k3 ⟨sle_ptr, SLe.of_eq rfl, SLe.of_eq rfl, True.intro⟩ rfl ⟨HOLe.refl _, HOLe.refl _, HOLe.refl _, True.intro⟩ rfl rfl ?_; rintro _ _ ⟨q, rfl, rfl⟩; refine ⟨_, rfl, rfl, ?_⟩) | (refine o_call [] [0, 1, 2] [0, 1, 2] rfl (k4 q) ⟨sle_ptr, SLe.of_eq rfl, True.intro⟩ rfl ⟨HOLe.refl _, HOLe.refl _, HOLe.refl _, True.intro⟩ rfl rfl ?_; rintro _ _ ⟨rfl, rfl⟩; refine ⟨_, rfl, rfl, ?_⟩) | (refine o_call0 rfl (k1) ⟨SLe.of_eq rfl, True.intro⟩ rfl ?_; rintro _ _ ⟨rfl, rfl⟩; refine ⟨rfl, ?_⟩) | (refine o_call0 rfl (k2) ⟨SLe.of_eq rfl, True.intro⟩ rfl ?_; rintro _ _ ⟨rfl, rfl⟩; refine ⟨rfl, ?_⟩))
    all_goals
      refine end_all [] [(0, _), (1, _), (2, _), (3, _)] (.i .i64 (synE (A q) (nameN now))) rfl ?_ ?_ (rle_one (CLe.of_eq rfl) rfl) (HLe.cons 0 rfl (HOLe.refl _) (HLe.cons 1 rfl (HOLe.refl _) (HLe.cons 2 rfl (HOLe.refl _) (HLe.cons 3 rfl (HOLe.refl _) .nil)))) ⟨q, rfl, rfl⟩ _ (.inl rfl)
      · repeat' (first | exact True.intro | exact rfl | refine ⟨?_, ?_⟩)
      · exact ⟨trivial, trivial⟩
  · simp only [if_pos hE0]
    refine spec_of TtOk [(0, .var bd (dskV bm D)), (1, .obj bm (mpO D.es D.clk)), (2, grpL (D.fs.map Fil.O)), (3, .var bj (.agg [.ptr 0 bd [] 0, .i .i64 now]))] Try.func6 rfl Try.ntmps6 (by kernel_rfl) rfl rfl (fun C => ?_) rfl
    repeat' (first | refine Awp.seq ?_ | refine Awp.region ?_ | (refine Ops.nil ?_; show Awp _ _ _ _ _) | (refine Awp.skip ?_; show Awp _ _ _ _ _) | (refine Awp.ret ?_; show endK _ _ _ _ _) | (refine o_calm rfl TtOk rfl rfl rfl ?_ (fun _ => ?_); first | exact True.intro | exact ⟨rfl, rfl, rfl, rfl⟩ | exact ⟨rfl, True.intro⟩ | exact ⟨rfl, rfl⟩ | exact ⟨rfl, rfl, rfl⟩ | exact rfl | exact ⟨fun h0 => by cases h0, rfl⟩ | exact (fun h0 => by cases h0) | exact ⟨rfl, by omega⟩ | exact ⟨Nat.succ_ne_zero _, rfl⟩ | omega) | refine a_condF rfl ?_ | (refine a_condN rfl (fun hc => ?_) (fun hc => ?_)) <;> (try (exfalso; omega)) | refine a_any 4 [0, 1, 2] [23] [] [0, 1, 2, 4, 5, 6, 9, 3, 7, 8, 10, 11] (by kernel_rfl) (by kernel_rfl) (by kernel_rfl) rfl rfl rfl ?_ | (refine o_call [] [0, 1, 2] [0, 1, 2] rfl k3 ⟨sle_ptr, SLe.of_eq rfl, SLe.of_eq rfl, True.intro⟩ rfl ⟨HOLe.refl _, HOLe.refl _, HOLe.refl _, True.intro⟩ rfl rfl ?_; rintro _ _ ⟨q, rfl, rfl⟩; refine ⟨_, rfl, rfl, ?_⟩) | (refine o_call0 rfl (k1) ⟨SLe.of_eq rfl, True.intro⟩ rfl ?_; rintro _ _ ⟨rfl, rfl⟩; refine ⟨rfl, ?_⟩) | (refine o_call0 rfl (k2) ⟨SLe.of_eq rfl, True.intro⟩ rfl ?_; rintro _ _ ⟨rfl, rfl⟩; refine ⟨rfl, ?_⟩))
    all_goals
      refine end_all [] [(0, _), (1, _), (2, _), (3, _)] (.i .i64 (E)) rfl ?_ ?_ (rle_one (CLe.of_eq rfl) rfl) (HLe.cons 0 rfl (HOLe.refl _) (HLe.cons 1 rfl (HOLe.refl _) (HLe.cons 2 rfl (HOLe.refl _) (HLe.cons 3 rfl (HOLe.refl _) .nil)))) ⟨q, rfl, rfl⟩ _ (.inl rfl)
      · repeat' (first | exact True.intro | exact rfl | refine ⟨?_, ?_⟩)
      · exact ⟨trivial, trivial⟩
theorem jturn_spec (bd bj now : Nat) (hn : now < 10000000000) : Spec Try.prog 8 [.ptr 0 bj [] 0] [jouO bd bj now] (fun v os => v = .i .i64 (now + 1 : Nat) ∧ os = [jouO bd bj (now + 1)]) := by
  refine spec_of TtOk [(0, .var bj (.agg [.ptr 0 bd [] 0, .i .i64 now]))] Try.func8 rfl Try.ntmps8 (by kernel_rfl) rfl rfl (fun C => ?_) rfl
  repeat' (first | refine Awp.seq ?_ | refine Awp.region ?_ | (refine Ops.nil ?_; show Awp _ _ _ _ _) | (refine Awp.ret ?_; show endK _ _ _ _ _) | (refine o_add rfl rfl rfl rfl ?_ ?_; omega) | (refine o_calm rfl TtOk rfl rfl rfl ?_ (fun _ => ?_); first | exact True.intro | exact ⟨rfl, rfl, rfl, rfl⟩ | exact ⟨rfl, True.intro⟩ | exact ⟨rfl, rfl⟩ | exact ⟨rfl, rfl, rfl⟩ | exact rfl | exact ⟨fun h0 => by cases h0, rfl⟩ | exact (fun h0 => by cases h0) | exact ⟨rfl, by omega⟩ | exact ⟨Nat.succ_ne_zero _, rfl⟩ | omega) | refine o_store TtOk rfl rfl rfl rfl rfl rfl rfl ⟨rfl, rfl⟩ rfl rfl rfl rfl rfl ?_)
  all_goals exact end_tmp rfl rfl rfl [] [(0, _)] (CLe.of_eq rfl) (HLe.cons 0 rfl (HOLe.refl _) .nil) ⟨rfl, rfl⟩ _ (.inl rfl)
end Go.Proofs.Ytfdcopbbnmialaa
