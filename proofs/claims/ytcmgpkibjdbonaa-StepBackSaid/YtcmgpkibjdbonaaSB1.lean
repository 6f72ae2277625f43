/- step.Bytes by rules. -/
import Derived.Test.YtcmgpkibjdbonaaN3Z
set_option maxHeartbeats 16000000
set_option maxRecDepth 100000
namespace Go.Proofs.Ytcmgpkibjdbonaa
open Go Go.RowKit
def wLL : WS → List (List Lef) → Option WS
  | s, [] => some s
  | s, l :: r => (wLs (s.number l.length) l).bind (fun b => wLL b r)
theorem bysS_LL (s : Stp) : bysS s = if 2000 < s.same.length ∨ 500 < s.old.length ∨ 500 < s.new.length then ([], 2)
    else fin19 ((wIs (w0.number s.same.length) s.same).bind (fun a => wLL a [s.old, s.new])) := by
  unfold bysS
  have h : ∀ a b, wLL a [b] = wLs (a.number b.length) b := fun a b => by
    show (wLs (a.number b.length) b).bind (fun x => some x) = _
    cases wLs (a.number b.length) b <;> rfl
  have h2 : ∀ a, wLL a [s.old, s.new] = (wLs (a.number s.old.length) s.old).bind (fun b => wLs (b.number s.new.length) s.new) := fun a => by
    show (wLs (a.number s.old.length) s.old).bind (fun b => wLL b [s.new]) = _
    congr 1
    exact funext (fun b => h b s.new)
  congr 3
  exact funext (fun a => (h2 a).symm)
theorem sbytes_spec (s : Stp) (hok : s.ok) : Spec Try.prog 42 [s.A] [] (fun v os => v = .tup [.s (bysS s).1, .i .i64 (bysS s).2] ∧ os = []) := by
  obtain ⟨same, old, new⟩ := s
  obtain ⟨o1, o2, o3⟩ := hok
  dsimp only at o1 o2 o3
  obtain ⟨W, hW⟩ : ∃ W, bysS ⟨same, old, new⟩ = W := ⟨_, rfl⟩
  rw [hW]
  rw [bysS_LL] at hW
  dsimp only at hW
  show Spec Try.prog 42 [.agg [.sl 66 (same.map Itm.A), .sl 65 (old.map Lef.A), .sl 65 (new.map Lef.A)]] [] _
  refine spec_of TtOk [] Try.func42 rfl Try.ntmps42 (by kernel_rfl) rfl rfl (fun C => ?_) rfl
  by_cases hb : 2000 < same.length ∨ 500 < old.length ∨ 500 < new.length
  · rw [if_pos hb] at hW
    subst hW
    repeat' (first | refine Awp.seq ?_ | refine Awp.region ?_ | (refine Ops.nil ?_; show Awp _ _ _ _ _) | (refine Awp.ret ?_; show endK _ _ _ _ _) | refine o_noF rfl rfl rfl ?_ | refine o_len rfl TtOk rfl rfl rfl (fun _ => ?_) | (refine o_calm rfl TtOk rfl rfl rfl ?_ (fun _ => ?_); first | exact True.intro | exact ⟨rfl, rfl, rfl, rfl⟩ | exact ⟨rfl, True.intro⟩ | exact ⟨rfl, rfl⟩ | exact ⟨rfl, rfl, rfl⟩ | exact rfl | exact ⟨fun h0 => by cases h0, rfl⟩ | exact (fun h0 => by cases h0) | exact ⟨rfl, by omega⟩ | exact ⟨Nat.succ_ne_zero _, rfl⟩ | omega) | refine o_box (d := 1) rfl rfl rfl rfl (fun b1 => ?_) | (fail_if_success (refine o_isLit rfl (by first | exact .inl rfl | exact .inr rfl) ?_)); (refine o_splitP rfl rfl (fun hc => ?_) (fun hc => ?_) <;> try (exfalso; omega)) | refine a_condT rfl ?_ | (refine a_condP rfl (fun hc => ?_) (fun hc => ?_)) <;> (try (exfalso; omega)))
    all_goals
      refine end_all [] [] (.tup [.s [], .i .i64 2]) rfl ?_ ?_ (rle_tup2 (CLe.of_eq rfl) (CLe.of_eq rfl) rfl rfl) .nil ⟨rfl, rfl⟩ _ (.inl rfl)
      · repeat' (first | exact True.intro | exact rfl | refine ⟨?_, ?_⟩)
      · exact ⟨trivial, trivial, trivial⟩
  rw [if_neg hb] at hW
  repeat' (first | refine Awp.seq ?_ | refine Awp.region ?_ | (refine Ops.nil ?_; show Awp _ _ _ _ _) | (refine Awp.skip ?_; show Awp _ _ _ _ _) | refine o_len rfl TtOk rfl rfl rfl (fun _ => ?_) | (refine o_calm rfl TtOk rfl rfl rfl ?_ (fun _ => ?_); first | exact True.intro | exact ⟨rfl, rfl, rfl, rfl⟩ | exact ⟨rfl, True.intro⟩ | exact ⟨rfl, rfl⟩ | exact ⟨rfl, rfl, rfl⟩ | exact rfl | exact ⟨fun h0 => by cases h0, rfl⟩ | exact (fun h0 => by cases h0) | exact ⟨rfl, by omega⟩ | exact ⟨Nat.succ_ne_zero _, rfl⟩ | omega) | refine o_alloc (d := 4) rfl TtOk rfl rfl rfl (fun b4 => ?_) | refine o_box (d := 1) rfl rfl rfl rfl (fun b1 => ?_) | (fail_if_success (refine o_isLit rfl (by first | exact .inl rfl | exact .inr rfl) ?_)); (refine o_splitP rfl rfl (fun hc => ?_) (fun hc => ?_) <;> try (exfalso; omega)) | (refine a_condP rfl (fun hc => ?_) (fun hc => ?_)) <;> (try (exfalso; omega)))
  have w1 := fun v => wnumber_spec b4 same.length (by omega) v w0 (by decide)
  have hl1 : (w0.number same.length).bs.length ≤ 9 := WS.len_number w0 same.length (by omega)
  refine Ops.weaken [] (S' := ⟨94, [(30, .i .i64 same.length), (4, .ptr 4 b4 [] 0), (1, .ptr 50 b1 [] 0)], [(4, .var b4 (wrA (.slice none 0 0) w0)), (50, .var b1 (.agg [.sl 66 (same.map Itm.A), .sl 65 (old.map Lef.A), .sl 65 (new.map Lef.A)])), (1, .row (.slice none 0 0) 5 1 [])]⟩) ⟨rfl, ⟨sle_i rfl, sle_ptr, sle_ptr, True.intro⟩, HLe.cons 4 rfl (HOLe.var (CLe.agg (.cons CLe.nilown (.cons (CLe.refl _) .nil)))) (HLe.cons 1 rfl (HOLe.refl _) (.none .nil))⟩ ?_
  generalize w0.number same.length = s0 at *
  repeat' (first | refine Awp.seq ?_ | refine Awp.block ?_ | refine Awp.region ?_ | (refine Ops.nil ?_; show Awp _ _ _ _ _) | refine o_len rfl TtOk rfl rfl rfl (fun _ => ?_) | (refine o_calm rfl TtOk rfl rfl rfl ?_ (fun _ => ?_); first | exact True.intro | exact ⟨rfl, rfl, rfl, rfl⟩ | exact ⟨rfl, True.intro⟩ | exact ⟨rfl, rfl⟩ | exact ⟨rfl, rfl, rfl⟩ | exact rfl | exact ⟨fun h0 => by cases h0, rfl⟩ | exact (fun h0 => by cases h0) | exact ⟨rfl, by omega⟩ | exact ⟨Nat.succ_ne_zero _, rfl⟩ | omega) | (refine o_callPR rfl rfl rfl rfl rfl (w1 _) ⟨sle_ptr, SLe.of_eq rfl, True.intro⟩ (HOLe.refl _) (HOLe.refl _) rfl rfl ?_; rintro _ _ ⟨rfl, wv, rfl⟩; refine ⟨_, _, rfl, _, rfl, ?_⟩))
  refine Awp.loop (fun q : Nat × WS × Value => ⟨94, [(35, .i .i64 q.1), (34, .i .i64 same.length), (33, .sl 66 (same.map Itm.A)), (4, .ptr 4 b4 [] 0), (1, .ptr 50 b1 [] 0)], [(4, .var b4 (wrA q.2.2 q.2.1)), (50, .var b1 (.agg [.sl 66 (same.map Itm.A), .sl 65 (old.map Lef.A), .sl 65 (new.map Lef.A)])), (1, .row q.2.2 5 1 (q.2.1.bs.map byA))]⟩) (fun q => q.1 ≤ same.length ∧ q.2.1.bs.length ≤ 9 + 82 * q.1 ∧ fin19 ((wIs q.2.1 (same.drop q.1)).bind (fun a => wLL a [old, new])) = W) (fun q => same.length - q.1) [] (0, s0, wv) ⟨Nat.zero_le _, by show s0.bs.length ≤ _; omega, hW⟩ ?_ ?_
  · exact ⟨rfl, ⟨sle_i rfl, sle_i rfl, sle_sl rfl, sle_ptr, sle_ptr, True.intro⟩, HLe.cons 4 rfl (HOLe.refl _) (HLe.cons 50 rfl (HOLe.refl _) (HLe.cons 1 rfl (HOLe.refl _) .nil))⟩
  clear w1 hW hl1
  rintro ⟨i, s, v⟩ ⟨hi, hsl, hst⟩
  dsimp only at hi hsl hst ⊢
  by_cases hlt : i < same.length
  · have hxo := o1 _ (List.getElem_mem hlt)
    have hgd := ngood_spec same[i] hxo
    have hi1 : ((i : Int) + 1 = ((i + 1 : Nat) : Int)) := by omega
    have hA : same[i].A = .agg [.agg [.i .i64 same[i].n, labA same[i].l], labA same[i].s, .i .i64 same[i].t] := rfl
    rw [hA] at hgd
    rw [List.drop_eq_getElem_cons hlt, wIs] at hst
    by_cases hg : goodI same[i] = true
    · rw [if_pos hg] at hst
      rw [hg] at hgd
      have hn := good_n hg
      have ht := good_t hg
      have l1 := WS.len_number s same[i].n (by omega)
      have l2 : ((s.number same[i].n).put same[i].l).bs.length = _ := WS.len_put _ _
      have l3 : (((s.number same[i].n).put same[i].l).put same[i].s).bs.length = _ := WS.len_put _ _
      rw [hxo.1] at l2
      rw [hxo.2] at l3
      have w1 := fun v => wnumber_spec b4 same[i].n (by omega) v s (by omega)
      have w2 := fun v => wlabel_spec b4 same[i].l hxo.1 v (s.number same[i].n) (by omega)
      have w3 := fun v => wlabel_spec b4 same[i].s hxo.2 v ((s.number same[i].n).put same[i].l) (by omega)
      have w4 := fun v => wnumber_spec b4 same[i].t (by omega) v (((s.number same[i].n).put same[i].l).put same[i].s) (by omega)
      have hl4 := WS.len_itm s same[i] hxo (by omega) (by omega)
      unfold WS.itm at hst hl4
      generalize (((s.number same[i].n).put same[i].l).put same[i].s).number same[i].t = s4 at *
      generalize ((s.number same[i].n).put same[i].l).put same[i].s = s3 at *
      generalize (s.number same[i].n).put same[i].l = s2 at *
      generalize s.number same[i].n = s1 at *
      clear l1 l2 l3
      repeat' (first | refine Awp.seq ?_ | refine Awp.block ?_ | refine Awp.region ?_ | (refine Ops.nil ?_; show Awp _ _ _ _ _) | (refine Ops.nil ?_; show Exists _) | (refine Awp.skip ?_; show Awp _ _ _ _ _) | (refine o_add rfl rfl rfl rfl ?_ ?_; omega) | (refine o_calm rfl TtOk rfl rfl rfl ?_ (fun _ => ?_); first | exact True.intro | exact ⟨rfl, rfl, rfl, rfl⟩ | exact ⟨rfl, True.intro⟩ | exact ⟨rfl, rfl⟩ | exact ⟨rfl, rfl, rfl⟩ | exact rfl | exact ⟨fun h0 => by cases h0, rfl⟩ | exact (fun h0 => by cases h0) | exact ⟨rfl, by omega⟩ | exact ⟨Nat.succ_ne_zero _, rfl⟩ | omega) | refine o_alloc (d := 6) rfl TtOk rfl rfl rfl (fun b6 => ?_) | refine o_store TtOk rfl rfl rfl rfl rfl rfl rfl ⟨rfl, rfl⟩ rfl rfl rfl rfl rfl ?_ | (refine o_index rfl TtOk rfl rfl rfl rfl rfl rfl ?_ (getq_nat ?_) ?_; omega; omega) | refine a_condF rfl ?_ | (refine a_condP rfl (fun hc => ?_) (fun hc => ?_)) <;> (try (exfalso; omega)) | (refine o_call0 rfl (hgd) ⟨SLe.of_eq rfl, True.intro⟩ rfl ?_; rintro _ _ ⟨rfl, rfl⟩; refine ⟨rfl, ?_⟩) | (refine o_callPR rfl rfl rfl rfl rfl (w1 _) ⟨sle_ptr, SLe.of_eq rfl, True.intro⟩ (HOLe.refl _) (HOLe.refl _) rfl rfl ?_; rintro _ _ ⟨rfl, wv, rfl⟩; refine ⟨_, _, rfl, _, rfl, ?_⟩) | (refine o_callPR rfl rfl rfl rfl rfl (w2 _) ⟨sle_ptr, SLe.of_eq rfl, True.intro⟩ (HOLe.refl _) (HOLe.refl _) rfl rfl ?_; rintro _ _ ⟨rfl, wv, rfl⟩; refine ⟨_, _, rfl, _, rfl, ?_⟩) | (refine o_callPR rfl rfl rfl rfl rfl (w3 _) ⟨sle_ptr, SLe.of_eq rfl, True.intro⟩ (HOLe.refl _) (HOLe.refl _) rfl rfl ?_; rintro _ _ ⟨rfl, wv, rfl⟩; refine ⟨_, _, rfl, _, rfl, ?_⟩) | (refine o_callPR rfl rfl rfl rfl rfl (w4 _) ⟨sle_ptr, SLe.of_eq rfl, True.intro⟩ (HOLe.refl _) (HOLe.refl _) rfl rfl ?_; rintro _ _ ⟨rfl, wv, rfl⟩; refine ⟨_, _, rfl, _, rfl, ?_⟩))
      exact ⟨(i + 1, s4, _), [], ⟨hlt, by show s4.bs.length ≤ _; omega, hst⟩, by show same.length - (i + 1) < same.length - i; omega, rfl, ⟨sle_i hi1, sle_i rfl, sle_sl rfl, sle_ptr, sle_ptr, True.intro⟩, HLe.cons 4 rfl (HOLe.refl _) (HLe.cons 50 rfl (HOLe.refl _) (HLe.cons 1 rfl (HOLe.refl _) .nil))⟩
    · rw [if_neg hg] at hst
      have hst : (([], 1) : List UInt8 × Int) = W := hst
      subst hst
      have hg : goodI same[i] = false := by
        cases q : goodI same[i] with
        | true => exact absurd q hg
        | false => rfl
      rw [hg] at hgd
      repeat' (first | refine Awp.seq ?_ | refine Awp.block ?_ | refine Awp.region ?_ | (refine Ops.nil ?_; show Awp _ _ _ _ _) | (refine Awp.skip ?_; show Awp _ _ _ _ _) | (refine Awp.ret ?_; show endK _ _ _ _ _) | (refine o_calm rfl TtOk rfl rfl rfl ?_ (fun _ => ?_); first | exact True.intro | exact ⟨rfl, rfl, rfl, rfl⟩ | exact ⟨rfl, True.intro⟩ | exact ⟨rfl, rfl⟩ | exact ⟨rfl, rfl, rfl⟩ | exact rfl | exact ⟨fun h0 => by cases h0, rfl⟩ | exact (fun h0 => by cases h0) | exact ⟨rfl, by omega⟩ | exact ⟨Nat.succ_ne_zero _, rfl⟩ | omega) | refine o_alloc (d := 6) rfl TtOk rfl rfl rfl (fun b6 => ?_) | refine o_store TtOk rfl rfl rfl rfl rfl rfl rfl ⟨rfl, rfl⟩ rfl rfl rfl rfl rfl ?_ | (refine o_index rfl TtOk rfl rfl rfl rfl rfl rfl ?_ (getq_nat ?_) ?_; omega; omega) | refine a_condT rfl ?_ | (refine a_condP rfl (fun hc => ?_) (fun hc => ?_)) <;> (try (exfalso; omega)) | (refine o_call0 rfl (hgd) ⟨SLe.of_eq rfl, True.intro⟩ rfl ?_; rintro _ _ ⟨rfl, rfl⟩; refine ⟨rfl, ?_⟩))
      refine end_all [] [] (.tup [.s [], .i .i64 1]) rfl ?_ ?_ (rle_tup2 (CLe.of_eq rfl) (CLe.of_eq rfl) rfl rfl) .nil ⟨rfl, rfl⟩ _ (.inl rfl)
      · repeat' (first | exact True.intro | exact rfl | refine ⟨?_, ?_⟩)
      · exact ⟨trivial, trivial, trivial⟩
  have hie : i = same.length := by omega
  subst hie
  rw [List.drop_length, wIs, Option.bind_some] at hst
  repeat' (first | refine Awp.seq ?_ | refine Awp.block ?_ | refine Awp.region ?_ | (refine Ops.nil ?_; show Awp _ _ _ _ _) | (refine Awp.exit ?_; show Awp _ _ _ _ _) | (refine o_calm rfl TtOk rfl rfl rfl ?_ (fun _ => ?_); first | exact True.intro | exact ⟨rfl, rfl, rfl, rfl⟩ | exact ⟨rfl, True.intro⟩ | exact ⟨rfl, rfl⟩ | exact ⟨rfl, rfl, rfl⟩ | exact rfl | exact ⟨fun h0 => by cases h0, rfl⟩ | exact (fun h0 => by cases h0) | exact ⟨rfl, by omega⟩ | exact ⟨Nat.succ_ne_zero _, rfl⟩ | omega) | (refine a_condP rfl (fun hc => ?_) (fun hc => ?_)) <;> (try (exfalso; omega)) | (refine o_buildArr TtOk rfl [.sl 65 (old.map Lef.A), .sl 65 (new.map Lef.A)] rfl rfl rfl rfl rfl rfl ?_))
  refine Awp.loop (fun q : Nat × WS × Value => ⟨94, [(62, .i .i64 q.1), (61, .arr 1 2 [.sl 65 (old.map Lef.A), .sl 65 (new.map Lef.A)]), (4, .ptr 4 b4 [] 0)], [(4, .var b4 (wrA q.2.2 q.2.1)), (1, .row q.2.2 5 1 (q.2.1.bs.map byA))]⟩) (fun q => q.1 ≤ 2 ∧ q.2.1.bs.length ≤ 200000 + 100000 * q.1 ∧ fin19 (wLL q.2.1 ([old, new].drop q.1)) = W) (fun q => 2 - q.1) [] (0, s, v) ⟨Nat.zero_le _, by show s.bs.length ≤ _; omega, hst⟩ ?_ ?_
  · exact ⟨rfl, ⟨sle_i rfl, SLe.of_eq rfl, sle_ptr, True.intro⟩, HLe.cons 4 rfl (HOLe.refl _) (HLe.cons 1 rfl (HOLe.refl _) .nil)⟩
  clear hst hsl
  rintro ⟨j, s, v⟩ ⟨hj, hsl, hst⟩
  dsimp only at hj hsl hst ⊢
  by_cases hjl : j < 2
  · have hj1 : ((j : Int) + 1 = ((j + 1 : Nat) : Int)) := by omega
    obtain ⟨l, hl1, hl2, hl3, hl4⟩ : ∃ l : List Lef, ([.sl 65 (old.map Lef.A), .sl 65 (new.map Lef.A)] : List AV)[j]? = some (.sl 65 (l.map Lef.A)) ∧ [old, new].drop j = l :: [old, new].drop (j + 1) ∧ l.length ≤ 500 ∧ ∀ x ∈ l, x.ok := by
      have h2 : j = 0 ∨ j = 1 := by omega
      rcases h2 with rfl | rfl
      · exact ⟨old, rfl, rfl, by omega, o2⟩
      · exact ⟨new, rfl, rfl, by omega, o3⟩
    rw [hl2, wLL] at hst
    clear hl2
    generalize hr : [old, new].drop (j + 1) = r at *
    have w1 := fun v => wnumber_spec b4 l.length (by omega) v s (by omega)
    have hn := WS.len_number s l.length (by omega)
    generalize s.number l.length = s0 at *
    repeat' (first | refine Awp.seq ?_ | refine Awp.block ?_ | refine Awp.region ?_ | (refine Ops.nil ?_; show Awp _ _ _ _ _) | (refine Awp.skip ?_; show Awp _ _ _ _ _) | refine o_len rfl TtOk rfl rfl rfl (fun _ => ?_) | (refine o_calm rfl TtOk rfl rfl rfl ?_ (fun _ => ?_); first | exact True.intro | exact ⟨rfl, rfl, rfl, rfl⟩ | exact ⟨rfl, True.intro⟩ | exact ⟨rfl, rfl⟩ | exact ⟨rfl, rfl, rfl⟩ | exact rfl | exact ⟨fun h0 => by cases h0, rfl⟩ | exact (fun h0 => by cases h0) | exact ⟨rfl, by omega⟩ | exact ⟨Nat.succ_ne_zero _, rfl⟩ | omega) | (refine a_condP rfl (fun hc => ?_) (fun hc => ?_)) <;> (try (exfalso; omega)) | (refine o_indexA TtOk rfl rfl rfl rfl rfl rfl rfl j rfl hl1 ⟨rfl, rfl⟩ ?_) | (refine o_callPR rfl rfl rfl rfl rfl (w1 _) ⟨sle_ptr, SLe.of_eq rfl, True.intro⟩ (HOLe.refl _) (HOLe.refl _) rfl rfl ?_; rintro _ _ ⟨rfl, wv, rfl⟩; refine ⟨_, _, rfl, _, rfl, ?_⟩))
    refine Awp.loop (fun q : Nat × WS × Value => ⟨94, [(70, .i .i64 q.1), (69, .i .i64 l.length), (68, .sl 65 (l.map Lef.A)), (62, .i .i64 j), (61, .arr 1 2 [.sl 65 (old.map Lef.A), .sl 65 (new.map Lef.A)]), (4, .ptr 4 b4 [] 0)], [(4, .var b4 (wrA q.2.2 q.2.1)), (1, .row q.2.2 5 1 (q.2.1.bs.map byA))]⟩) (fun q => q.1 ≤ l.length ∧ q.2.1.bs.length ≤ 200009 + 100000 * j + 73 * q.1 ∧ fin19 ((wLs q.2.1 (l.drop q.1)).bind (fun b => wLL b r)) = W) (fun q => l.length - q.1) [] (0, s0, wv) ⟨Nat.zero_le _, by show s0.bs.length ≤ _; omega, hst⟩ ?_ ?_
    · exact ⟨rfl, ⟨sle_i rfl, sle_i rfl, sle_sl rfl, sle_i rfl, SLe.of_eq rfl, sle_ptr, True.intro⟩, HLe.cons 4 rfl (HOLe.refl _) (HLe.cons 1 rfl (HOLe.refl _) .nil)⟩
    clear hst hsl w1 hn
    rintro ⟨k, s, v⟩ ⟨hk, hsl, hst⟩
    dsimp only at hk hsl hst ⊢
    by_cases hkl : k < l.length
    · have hxo := hl4 _ (List.getElem_mem hkl)
      have hk1 : ((k : Int) + 1 = ((k + 1 : Nat) : Int)) := by omega
      have hgd : Spec Try.prog 104 [.ifc 29 (.agg [labA l[k].l, labA l[k].v, .i .i64 l[k].t])] [] (fun v os => v = .i .i64 (chkLf l[k]) ∧ os = []) := ncheckL_spec l[k]
      rw [List.drop_eq_getElem_cons hkl, wLs] at hst
      by_cases hg : chkLf l[k] = 0
      · rw [if_pos hg] at hst
        rw [hg] at hgd
        have ht := chkLf_t hg
        have l2 : (s.put l[k].l).bs.length = _ := WS.len_put _ _
        have l3 : ((s.put l[k].l).put l[k].v).bs.length = _ := WS.len_put _ _
        rw [hxo.1] at l2
        rw [hxo.2] at l3
        have w2 := fun v => wlabel_spec b4 l[k].l hxo.1 v s (by omega)
        have w3 := fun v => wlabel_spec b4 l[k].v hxo.2 v (s.put l[k].l) (by omega)
        have w4 := fun v => wnumber_spec b4 l[k].t (by omega) v ((s.put l[k].l).put l[k].v) (by omega)
        have hl5 := WS.len_lef s l[k] hxo (by omega)
        unfold WS.lef at hst hl5
        generalize ((s.put l[k].l).put l[k].v).number l[k].t = s4 at *
        generalize (s.put l[k].l).put l[k].v = s3 at *
        generalize s.put l[k].l = s2 at *
        clear l2 l3
        repeat' (first | refine Awp.seq ?_ | refine Awp.block ?_ | refine Awp.region ?_ | (refine Ops.nil ?_; show Awp _ _ _ _ _) | (refine Ops.nil ?_; show Exists _) | (refine Awp.skip ?_; show Awp _ _ _ _ _) | (refine o_add rfl rfl rfl rfl ?_ ?_; omega) | (refine o_calm rfl TtOk rfl rfl rfl ?_ (fun _ => ?_); first | exact True.intro | exact ⟨rfl, rfl, rfl, rfl⟩ | exact ⟨rfl, True.intro⟩ | exact ⟨rfl, rfl⟩ | exact ⟨rfl, rfl, rfl⟩ | exact rfl | exact ⟨fun h0 => by cases h0, rfl⟩ | exact (fun h0 => by cases h0) | exact ⟨rfl, by omega⟩ | exact ⟨Nat.succ_ne_zero _, rfl⟩ | omega) | refine o_alloc (d := 10) rfl TtOk rfl rfl rfl (fun b10 => ?_) | refine o_store TtOk rfl rfl rfl rfl rfl rfl rfl ⟨rfl, rfl⟩ rfl rfl rfl rfl rfl ?_ | (refine o_index rfl TtOk rfl rfl rfl rfl rfl rfl ?_ (getq_nat ?_) ?_; omega; omega) | refine a_condF rfl ?_ | (refine a_condP rfl (fun hc => ?_) (fun hc => ?_)) <;> (try (exfalso; omega)) | (refine o_mkIface TtOk rfl rfl rfl rfl rfl rfl ?_) | (refine o_call0 rfl (hgd) ⟨SLe.of_eq rfl, True.intro⟩ rfl ?_; rintro _ _ ⟨rfl, rfl⟩; refine ⟨rfl, ?_⟩) | (refine o_callPR rfl rfl rfl rfl rfl (w2 _) ⟨sle_ptr, SLe.of_eq rfl, True.intro⟩ (HOLe.refl _) (HOLe.refl _) rfl rfl ?_; rintro _ _ ⟨rfl, wv, rfl⟩; refine ⟨_, _, rfl, _, rfl, ?_⟩) | (refine o_callPR rfl rfl rfl rfl rfl (w3 _) ⟨sle_ptr, SLe.of_eq rfl, True.intro⟩ (HOLe.refl _) (HOLe.refl _) rfl rfl ?_; rintro _ _ ⟨rfl, wv, rfl⟩; refine ⟨_, _, rfl, _, rfl, ?_⟩) | (refine o_callPR rfl rfl rfl rfl rfl (w4 _) ⟨sle_ptr, SLe.of_eq rfl, True.intro⟩ (HOLe.refl _) (HOLe.refl _) rfl rfl ?_; rintro _ _ ⟨rfl, wv, rfl⟩; refine ⟨_, _, rfl, _, rfl, ?_⟩))
        exact ⟨(k + 1, s4, _), [], ⟨hkl, by show s4.bs.length ≤ _; omega, hst⟩, by show l.length - (k + 1) < l.length - k; omega, rfl, ⟨sle_i hk1, sle_i rfl, sle_sl rfl, sle_i rfl, SLe.of_eq rfl, sle_ptr, True.intro⟩, HLe.cons 4 rfl (HOLe.refl _) (HLe.cons 1 rfl (HOLe.refl _) .nil)⟩
      · rw [if_neg hg] at hst
        have hst : (([], 1) : List UInt8 × Int) = W := hst
        subst hst
        have hg1 : chkLf l[k] = 1 := by
          unfold chkLf at hg ⊢
          split
          · rfl
          · rename_i h; rw [if_neg h] at hg; exact absurd rfl hg
        rw [hg1] at hgd
        repeat' (first | refine Awp.seq ?_ | refine Awp.block ?_ | refine Awp.region ?_ | (refine Ops.nil ?_; show Awp _ _ _ _ _) | (refine Awp.skip ?_; show Awp _ _ _ _ _) | (refine Awp.ret ?_; show endK _ _ _ _ _) | (refine o_calm rfl TtOk rfl rfl rfl ?_ (fun _ => ?_); first | exact True.intro | exact ⟨rfl, rfl, rfl, rfl⟩ | exact ⟨rfl, True.intro⟩ | exact ⟨rfl, rfl⟩ | exact ⟨rfl, rfl, rfl⟩ | exact rfl | exact ⟨fun h0 => by cases h0, rfl⟩ | exact (fun h0 => by cases h0) | exact ⟨rfl, by omega⟩ | exact ⟨Nat.succ_ne_zero _, rfl⟩ | omega) | refine o_alloc (d := 10) rfl TtOk rfl rfl rfl (fun b10 => ?_) | refine o_store TtOk rfl rfl rfl rfl rfl rfl rfl ⟨rfl, rfl⟩ rfl rfl rfl rfl rfl ?_ | (refine o_index rfl TtOk rfl rfl rfl rfl rfl rfl ?_ (getq_nat ?_) ?_; omega; omega) | refine a_condT rfl ?_ | (refine a_condP rfl (fun hc => ?_) (fun hc => ?_)) <;> (try (exfalso; omega)) | (refine o_mkIface TtOk rfl rfl rfl rfl rfl rfl ?_) | (refine o_call0 rfl (hgd) ⟨SLe.of_eq rfl, True.intro⟩ rfl ?_; rintro _ _ ⟨rfl, rfl⟩; refine ⟨rfl, ?_⟩))
        refine end_all [] [] (.tup [.s [], .i .i64 1]) rfl ?_ ?_ (rle_tup2 (CLe.of_eq rfl) (CLe.of_eq rfl) rfl rfl) .nil ⟨rfl, rfl⟩ _ (.inl rfl)
        · repeat' (first | exact True.intro | exact rfl | refine ⟨?_, ?_⟩)
        · exact ⟨trivial, trivial, trivial⟩
    · have hke : k = l.length := by omega
      subst hke
      rw [List.drop_length, wLs, Option.bind_some] at hst
      repeat' (first | refine Awp.seq ?_ | refine Awp.region ?_ | (refine Ops.nil ?_; show Awp _ _ _ _ _) | (refine Ops.nil ?_; show Exists _) | (refine Awp.exit ?_; show Awp _ _ _ _ _) | (refine o_add rfl rfl rfl rfl ?_ ?_; omega) | (refine o_calm rfl TtOk rfl rfl rfl ?_ (fun _ => ?_); first | exact True.intro | exact ⟨rfl, rfl, rfl, rfl⟩ | exact ⟨rfl, True.intro⟩ | exact ⟨rfl, rfl⟩ | exact ⟨rfl, rfl, rfl⟩ | exact rfl | exact ⟨fun h0 => by cases h0, rfl⟩ | exact (fun h0 => by cases h0) | exact ⟨rfl, by omega⟩ | exact ⟨Nat.succ_ne_zero _, rfl⟩ | omega) | (refine a_condP rfl (fun hc => ?_) (fun hc => ?_)) <;> (try (exfalso; omega)))
      exact ⟨(j + 1, s, _), [], ⟨hjl, by show s.bs.length ≤ _; omega, by show fin19 (wLL s ([old, new].drop (j + 1))) = W; rw [hr]; exact hst⟩, by show 2 - (j + 1) < 2 - j; omega, rfl, ⟨sle_i hj1, SLe.of_eq rfl, sle_ptr, True.intro⟩, HLe.cons 4 rfl (HOLe.refl _) (HLe.cons 1 rfl (HOLe.refl _) .nil)⟩
  · have hje : j = 2 := by omega
    subst hje
    have hst : s.done = W := hst
    subst hst
    have w5 := fun v => wdone_spec b4 v s
    repeat' (first | refine Awp.seq ?_ | refine Awp.region ?_ | (refine Ops.nil ?_; show Awp _ _ _ _ _) | (refine Awp.exit ?_; show Awp _ _ _ _ _) | (refine Awp.ret ?_; show endK _ _ _ _ _) | (refine o_calm rfl TtOk rfl rfl rfl ?_ (fun _ => ?_); first | exact True.intro | exact ⟨rfl, rfl, rfl, rfl⟩ | exact ⟨rfl, True.intro⟩ | exact ⟨rfl, rfl⟩ | exact ⟨rfl, rfl, rfl⟩ | exact rfl | exact ⟨fun h0 => by cases h0, rfl⟩ | exact (fun h0 => by cases h0) | exact ⟨rfl, by omega⟩ | exact ⟨Nat.succ_ne_zero _, rfl⟩ | omega) | refine a_condF rfl ?_ | (refine o_callPR rfl rfl rfl rfl rfl (w5 _) ⟨sle_ptr, True.intro⟩ (HOLe.refl _) (HOLe.refl _) rfl rfl ?_; rintro _ _ ⟨rfl, wv, rfl⟩; refine ⟨_, _, rfl, _, rfl, ?_⟩))
    refine end_all [] [] (.tup [.s s.done.1, .i .i64 s.done.2]) rfl ?_ ?_ (rle_tup2 (CLe.of_eq rfl) (CLe.of_eq rfl) rfl rfl) .nil ⟨rfl, rfl⟩ _ (.inl rfl)
    · repeat' (first | exact True.intro | exact rfl | refine ⟨?_, ?_⟩)
    · exact ⟨trivial, trivial, trivial⟩
end Go.Proofs.Ytcmgpkibjdbonaa
