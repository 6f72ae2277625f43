/- proof.write, Bytes by rules. -/
import Derived.Test.YtcmgpkibjdbonaaPF2Z
import Derived.Test.YtcmgpkibjdbonaaPR1Z
set_option maxHeartbeats 16000000
set_option maxRecDepth 100000
namespace Go.Proofs.Ytcmgpkibjdbonaa
open Go Go.RowKit
theorem pwrite_spec (b : Nat) (x : Itm) (hx : x.ok) (hn : x.n < 9223372036854775808) (ht : x.t < 9223372036854775808) (v : Value) (s : WS) (hs : s.bs.length ≤ 900000000000) : Spec Try.prog 116 [.ptr 0 b [] 0, x.A] (wrO b v s) (fun r os => r = .tup [] ∧ ∃ v', os = wrO b v' (s.itm x)) := by
  have l1 := WS.len_number s x.n hn
  have l2 : ((s.number x.n).put x.l).bs.length = _ := WS.len_put _ _
  have l3 : (((s.number x.n).put x.l).put x.s).bs.length = _ := WS.len_put _ _
  rw [hx.1] at l2
  rw [hx.2] at l3
  have w1 := fun v => wnumber_spec b x.n hn v s (by omega)
  have w2 := fun v => wlabel_spec b x.l hx.1 v (s.number x.n) (by omega)
  have w3 := fun v => wlabel_spec b x.s hx.2 v ((s.number x.n).put x.l) (by omega)
  have w4 := fun v => wnumber_spec b x.t ht v (((s.number x.n).put x.l).put x.s) (by omega)
  unfold WS.itm
  generalize (((s.number x.n).put x.l).put x.s).number x.t = s4 at w4 ⊢
  generalize ((s.number x.n).put x.l).put x.s = s3 at w3 w4
  generalize (s.number x.n).put x.l = s2 at w2 w3
  generalize s.number x.n = s1 at w1 w2
  obtain ⟨n, l, s5, t⟩ := x
  dsimp only at w1 w2 w3 w4
  show Spec Try.prog 116 [.ptr 0 b [] 0, .agg [pfxA n l, labA s5, .i .i64 t]] _ _
  refine spec_of TtOk [(0, .var b (wrA v s)), (1, .row v 5 1 (s.bs.map byA))] Try.func116 rfl Try.ntmps116 (by kernel_rfl) rfl rfl (fun C => ?_) rfl
  repeat' (first | refine Awp.seq ?_ | refine Awp.region ?_ | (refine Ops.nil ?_; show Awp _ _ _ _ _) | (refine Ops.nil ?_; show endK _ _ _ _ _) | (refine o_calm rfl TtOk rfl rfl rfl ?_ (fun _ => ?_); first | exact True.intro | exact ⟨rfl, rfl, rfl, rfl⟩ | exact ⟨rfl, True.intro⟩ | exact ⟨rfl, rfl⟩ | exact ⟨rfl, rfl, rfl⟩ | exact rfl | exact ⟨fun h0 => by cases h0, rfl⟩ | exact (fun h0 => by cases h0) | exact ⟨rfl, by omega⟩ | exact ⟨Nat.succ_ne_zero _, rfl⟩ | omega) | refine o_box (d := 3) rfl rfl rfl rfl (fun b3 => ?_) | (refine o_callPR rfl rfl rfl rfl rfl (w1 _) ⟨sle_ptr, SLe.of_eq rfl, True.intro⟩ (HOLe.refl _) (HOLe.refl _) rfl rfl ?_; rintro _ _ ⟨rfl, wv, rfl⟩; refine ⟨_, _, rfl, _, rfl, ?_⟩) | (refine o_callPR rfl rfl rfl rfl rfl (w2 _) ⟨sle_ptr, SLe.of_eq rfl, True.intro⟩ (HOLe.refl _) (HOLe.refl _) rfl rfl ?_; rintro _ _ ⟨rfl, wv, rfl⟩; refine ⟨_, _, rfl, _, rfl, ?_⟩) | (refine o_callPR rfl rfl rfl rfl rfl (w3 _) ⟨sle_ptr, SLe.of_eq rfl, True.intro⟩ (HOLe.refl _) (HOLe.refl _) rfl rfl ?_; rintro _ _ ⟨rfl, wv, rfl⟩; refine ⟨_, _, rfl, _, rfl, ?_⟩) | (refine o_callPR rfl rfl rfl rfl rfl (w4 _) ⟨sle_ptr, SLe.of_eq rfl, True.intro⟩ (HOLe.refl _) (HOLe.refl _) rfl rfl ?_; rintro _ _ ⟨rfl, wv, rfl⟩; refine ⟨_, _, rfl, _, rfl, ?_⟩))
  exact end_none rfl [] [(0, _), (1, _)] (HLe.cons 0 rfl (HOLe.refl _) (HLe.cons 1 rfl (HOLe.refl _) .nil)) ⟨rfl, _, rfl⟩ _ (by first | exact .inl rfl | exact .inr rfl)
/-- A proof's bytes: the path's, all of them; the error. -/
def bysL (s : WS) : List Itm → List UInt8 × Int
  | [] => s.done
  | x :: r => if goodI x = true then bysL (s.itm x) r else ([], 1)
def bysT (s : WS) (path : List Itm) : List UInt8 × Int := if 256 < path.length then ([], 2) else bysL (s.number path.length) path
def bysP (p : Prf) : List UInt8 × Int :=
  if p.e = 0 then bysT (w0.number 0) p.path
  else if p.e = 1 then (if (lfBy p.lf).2 ≠ 0 then ([], (lfBy p.lf).2) else bysT ((w0.number 1).text (lfBy p.lf).1) p.path)
  else if p.e = 2 then (if (inBy p.a p.b).2 ≠ 0 then ([], (inBy p.a p.b).2) else bysT ((w0.number 2).text (inBy p.a p.b).1) p.path)
  else ([], 1)
def byN (lf : Lef) (a b : Itm) : Nat → AV
  | 0 => .nili
  | 1 => .ifc 29 lf.A
  | _ => .ifc 35 (.agg [a.A, b.A])
theorem pbytes_spec (p : Prf) (hp : p.ok) (he : p.e < 9223372036854775808) : Spec Try.prog 46 [p.A] [] (fun v os => v = .tup [.s (bysP p).1, .i .i64 (bysP p).2] ∧ os = []) := by
  obtain ⟨e, lf, a, b, path⟩ := p
  obtain ⟨olf, oa, ob, opa⟩ := hp
  dsimp only at olf oa ob opa he
  have k1 : Spec Try.prog 114 [.ifc 29 lf.A] [] (fun v os => v = .tup [.s (lfBy lf).1, .i .i64 (lfBy lf).2] ∧ os = []) := nbytesL_spec lf olf
  have k2 : Spec Try.prog 114 [.ifc 35 (.agg [a.A, b.A])] [] (fun v os => v = .tup [.s (inBy a b).1, .i .i64 (inBy a b).2] ∧ os = []) := nbytesI_spec a b oa ob
  show Spec Try.prog 46 [.agg [.i .i64 e, lf.A, .agg [a.A, b.A], .sl 66 (path.map Itm.A)]] [] _
  refine spec_of TtOk [] Try.func46 rfl Try.ntmps46 (by kernel_rfl) rfl rfl (fun C => ?_) rfl
  refine Awp.seq ?_
  repeat' (first | refine Awp.region ?_ | (refine Ops.nil ?_; show Awp _ _ _ _ _) | (refine o_calm rfl TtOk rfl rfl rfl ?_ (fun _ => ?_); first | exact True.intro | exact ⟨rfl, rfl, rfl, rfl⟩ | exact ⟨rfl, True.intro⟩ | exact ⟨rfl, rfl⟩ | exact ⟨rfl, rfl, rfl⟩ | exact rfl | exact ⟨fun h0 => by cases h0, rfl⟩ | exact (fun h0 => by cases h0) | exact ⟨rfl, by omega⟩ | exact ⟨Nat.succ_ne_zero _, rfl⟩ | omega) | refine o_box (d := 1) rfl rfl rfl rfl (fun b1 => ?_))
  refine Awp.seq ?_
  repeat' (first | refine Awp.region ?_ | (refine Ops.nil ?_; show Awp _ _ _ _ _) | refine o_alloc (d := 4) rfl TtOk rfl rfl rfl (fun b4 => ?_))
  refine Awp.seq ?_
  repeat' (first | refine Awp.region ?_ | (refine o_calm rfl TtOk rfl rfl rfl ?_ (fun _ => ?_); first | exact True.intro | exact ⟨rfl, rfl, rfl, rfl⟩ | exact ⟨rfl, True.intro⟩ | exact ⟨rfl, rfl⟩ | exact ⟨rfl, rfl, rfl⟩ | exact rfl | exact ⟨fun h0 => by cases h0, rfl⟩ | exact (fun h0 => by cases h0) | exact ⟨rfl, by omega⟩ | exact ⟨Nat.succ_ne_zero _, rfl⟩ | omega))
  have w1 := fun v => wnumber_spec b4 e he v w0 (by decide)
  have hl1 : (w0.number e).bs.length ≤ 9 := WS.len_number w0 e he
  refine Ops.weaken [] (S' := ⟨63, [(11, .i .i64 e), (4, .ptr 4 b4 [] 0), (1, .ptr 50 b1 [] 0)], [(4, .var b4 (wrA (.slice none 0 0) w0)), (50, .var b1 (.agg [.i .i64 e, lf.A, .agg [a.A, b.A], .sl 66 (path.map Itm.A)])), (1, .row (.slice none 0 0) 5 1 [])]⟩) ⟨rfl, ⟨sle_i rfl, sle_ptr, sle_ptr, True.intro⟩, HLe.cons 4 rfl (HOLe.var (CLe.agg (.cons CLe.nilown (.cons (CLe.refl _) .nil)))) (HLe.cons 1 rfl (HOLe.refl _) (.none .nil))⟩ ?_
  obtain ⟨W, hW⟩ : ∃ W, bysP ⟨e, lf, a, b, path⟩ = W := ⟨_, rfl⟩
  rw [hW]
  unfold bysP at hW
  dsimp only at hW
  repeat' (first | (refine Ops.nil ?_; show Awp _ _ _ _ _) | (refine o_callPR rfl rfl rfl rfl rfl (w1 _) ⟨sle_ptr, SLe.of_eq rfl, True.intro⟩ (HOLe.refl _) (HOLe.refl _) rfl rfl ?_; rintro _ _ ⟨rfl, wv, rfl⟩; refine ⟨_, _, rfl, _, rfl, ?_⟩))
  refine Awp.seq ?_
  repeat' (first | refine Awp.region ?_ | (refine Ops.nil ?_; show Awp _ _ _ _ _) | (refine o_calm rfl TtOk rfl rfl rfl ?_ (fun _ => ?_); first | exact True.intro | exact ⟨rfl, rfl, rfl, rfl⟩ | exact ⟨rfl, True.intro⟩ | exact ⟨rfl, rfl⟩ | exact ⟨rfl, rfl, rfl⟩ | exact rfl | exact ⟨fun h0 => by cases h0, rfl⟩ | exact (fun h0 => by cases h0) | exact ⟨rfl, by omega⟩ | exact ⟨Nat.succ_ne_zero _, rfl⟩ | omega))
  refine Awp.seqI (X := Nat) (fun c => ⟨63, [(5, byN lf a b c), (4, .ptr 4 b4 [] 0), (1, .ptr 50 b1 [] 0)], [(4, .var b4 (wrA wv (w0.number e))), (50, .var b1 (.agg [.i .i64 e, lf.A, .agg [a.A, b.A], .sl 66 (path.map Itm.A)])), (1, .row wv 5 1 ((w0.number e).bs.map byA))]⟩) (fun c => (c = 0 ∧ e = 0) ∨ (c = 1 ∧ e = 1) ∨ (c = 2 ∧ e = 2)) ?_ (fun c hc => ?_)
  · by_cases h0 : e = 0
    · subst h0
      repeat' (first | refine Awp.seq ?_ | refine Awp.block ?_ | refine Awp.region ?_ | (refine Ops.nil ?_; show Awp _ _ _ _ _) | (refine Awp.skip ?_; show Exists _) | (refine o_calm rfl TtOk rfl rfl rfl ?_ (fun _ => ?_); first | exact True.intro | exact ⟨rfl, rfl, rfl, rfl⟩ | exact ⟨rfl, True.intro⟩ | exact ⟨rfl, rfl⟩ | exact ⟨rfl, rfl, rfl⟩ | exact rfl | exact ⟨fun h0 => by cases h0, rfl⟩ | exact (fun h0 => by cases h0) | exact ⟨rfl, by omega⟩ | exact ⟨Nat.succ_ne_zero _, rfl⟩ | omega) | refine a_condT rfl ?_)
      exact ⟨0, [], .inl ⟨rfl, rfl⟩, rfl, ⟨SLe.of_eq rfl, sle_ptr, sle_ptr, True.intro⟩, HLe.cons 4 rfl (HOLe.refl _) (HLe.cons 50 rfl (HOLe.refl _) (HLe.cons 1 rfl (HOLe.refl _) .nil))⟩
    by_cases h1 : e = 1
    · subst h1
      repeat' (first | refine Awp.seq ?_ | refine Awp.block ?_ | refine Awp.region ?_ | (refine Ops.nil ?_; show Awp _ _ _ _ _) | (refine Ops.nil ?_; show Exists _) | (refine o_calm rfl TtOk rfl rfl rfl ?_ (fun _ => ?_); first | exact True.intro | exact ⟨rfl, rfl, rfl, rfl⟩ | exact ⟨rfl, True.intro⟩ | exact ⟨rfl, rfl⟩ | exact ⟨rfl, rfl, rfl⟩ | exact rfl | exact ⟨fun h0 => by cases h0, rfl⟩ | exact (fun h0 => by cases h0) | exact ⟨rfl, by omega⟩ | exact ⟨Nat.succ_ne_zero _, rfl⟩ | omega) | refine a_condT rfl ?_ | refine a_condF rfl ?_ | (refine o_mkIface TtOk rfl rfl rfl rfl rfl rfl ?_))
      exact ⟨1, [], .inr (.inl ⟨rfl, rfl⟩), rfl, ⟨SLe.of_eq rfl, sle_ptr, sle_ptr, True.intro⟩, HLe.cons 4 rfl (HOLe.refl _) (HLe.cons 50 rfl (HOLe.refl _) (HLe.cons 1 rfl (HOLe.refl _) .nil))⟩
    by_cases h2 : e = 2
    · subst h2
      repeat' (first | refine Awp.seq ?_ | refine Awp.block ?_ | refine Awp.region ?_ | (refine Ops.nil ?_; show Awp _ _ _ _ _) | (refine Ops.nil ?_; show Exists _) | (refine o_calm rfl TtOk rfl rfl rfl ?_ (fun _ => ?_); first | exact True.intro | exact ⟨rfl, rfl, rfl, rfl⟩ | exact ⟨rfl, True.intro⟩ | exact ⟨rfl, rfl⟩ | exact ⟨rfl, rfl, rfl⟩ | exact rfl | exact ⟨fun h0 => by cases h0, rfl⟩ | exact (fun h0 => by cases h0) | exact ⟨rfl, by omega⟩ | exact ⟨Nat.succ_ne_zero _, rfl⟩ | omega) | refine a_condT rfl ?_ | refine a_condF rfl ?_ | (refine o_mkIface TtOk rfl rfl rfl rfl rfl rfl ?_))
      exact ⟨2, [], .inr (.inr ⟨rfl, rfl⟩), rfl, ⟨SLe.of_eq rfl, sle_ptr, sle_ptr, True.intro⟩, HLe.cons 4 rfl (HOLe.refl _) (HLe.cons 50 rfl (HOLe.refl _) (HLe.cons 1 rfl (HOLe.refl _) .nil))⟩
    · rw [if_neg h0, if_neg h1, if_neg h2] at hW
      subst hW
      repeat' (first | refine Awp.seq ?_ | refine Awp.block ?_ | refine Awp.region ?_ | (refine Ops.nil ?_; show Awp _ _ _ _ _) | (refine Awp.ret ?_; show endK _ _ _ _ _) | (refine o_calm rfl TtOk rfl rfl rfl ?_ (fun _ => ?_); first | exact True.intro | exact ⟨rfl, rfl, rfl, rfl⟩ | exact ⟨rfl, True.intro⟩ | exact ⟨rfl, rfl⟩ | exact ⟨rfl, rfl, rfl⟩ | exact rfl | exact ⟨fun h0 => by cases h0, rfl⟩ | exact (fun h0 => by cases h0) | exact ⟨rfl, by omega⟩ | exact ⟨Nat.succ_ne_zero _, rfl⟩ | omega) | (refine a_condP rfl (fun hc => ?_) (fun hc => ?_)) <;> (try (exfalso; omega)))
      refine end_all [] [] (.tup [.s [], .i .i64 1]) rfl ?_ ?_ (rle_tup2 (CLe.of_eq rfl) (CLe.of_eq rfl) rfl rfl) .nil ⟨rfl, rfl⟩ _ (.inl rfl)
      · repeat' (first | exact True.intro | exact rfl | refine ⟨?_, ?_⟩)
      · exact ⟨trivial, trivial, trivial⟩
  refine Awp.seqI (X := WS × Value) (fun q => ⟨63, [(4, .ptr 4 b4 [] 0), (1, .ptr 50 b1 [] 0)], [(4, .var b4 (wrA q.2 q.1)), (50, .var b1 (.agg [.i .i64 e, lf.A, .agg [a.A, b.A], .sl 66 (path.map Itm.A)])), (1, .row q.2 5 1 (q.1.bs.map byA))]⟩) (fun q => q.1.bs.length ≤ 100000 ∧ bysT q.1 path = W) ?_ ?_
  · generalize hs0 : w0.number e = s0 at *
    rcases hc with ⟨rfl, rfl⟩ | ⟨rfl, rfl⟩ | ⟨rfl, rfl⟩
    · rw [if_pos rfl, hs0] at hW
      show Awp Try.prog C _ ⟨63, [(5, .nili), (4, .ptr 4 b4 [] 0), (1, .ptr 50 b1 [] 0)], _⟩ _
      repeat' (first | refine Awp.seq ?_ | refine Awp.region ?_ | (refine Ops.nil ?_; show Awp _ _ _ _ _) | (refine Awp.skip ?_; show Exists _) | (refine o_calm rfl TtOk rfl rfl rfl ?_ (fun _ => ?_); first | exact True.intro | exact ⟨rfl, rfl, rfl, rfl⟩ | exact ⟨rfl, True.intro⟩ | exact ⟨rfl, rfl⟩ | exact ⟨rfl, rfl, rfl⟩ | exact rfl | exact ⟨fun h0 => by cases h0, rfl⟩ | exact (fun h0 => by cases h0) | exact ⟨rfl, by omega⟩ | exact ⟨Nat.succ_ne_zero _, rfl⟩ | omega) | refine a_condF rfl ?_ | (refine o_neNilI0 TtOk rfl rfl rfl rfl ?_))
      exact ⟨(s0, wv), [], ⟨by show s0.bs.length ≤ 100000; omega, hW⟩, rfl, ⟨sle_ptr, sle_ptr, True.intro⟩, HLe.cons 4 rfl (HOLe.refl _) (HLe.cons 50 rfl (HOLe.refl _) (HLe.cons 1 rfl (HOLe.refl _) .nil))⟩
    · rw [if_neg (by decide), if_pos rfl, hs0] at hW
      show Awp Try.prog C _ ⟨63, [(5, .ifc 29 lf.A), (4, .ptr 4 b4 [] 0), (1, .ptr 50 b1 [] 0)], _⟩ _
      have hl2 := WS.len_text s0 (lfBy lf).1
      have w2 := fun v => wtext_spec b4 (lfBy lf).1 v s0 (by omega)
      generalize lfBy lf = q at *
      obtain ⟨t, f⟩ := q
      dsimp only at k1 hW w2 hl2
      generalize s0.text t = s1 at *
      by_cases hf : f ≠ 0
      · rw [if_pos hf] at hW
        subst hW
        repeat' (first | refine Awp.seq ?_ | refine Awp.region ?_ | (refine Ops.nil ?_; show Awp _ _ _ _ _) | (refine Awp.ret ?_; show endK _ _ _ _ _) | (refine o_calm rfl TtOk rfl rfl rfl ?_ (fun _ => ?_); first | exact True.intro | exact ⟨rfl, rfl, rfl, rfl⟩ | exact ⟨rfl, True.intro⟩ | exact ⟨rfl, rfl⟩ | exact ⟨rfl, rfl, rfl⟩ | exact rfl | exact ⟨fun h0 => by cases h0, rfl⟩ | exact (fun h0 => by cases h0) | exact ⟨rfl, by omega⟩ | exact ⟨Nat.succ_ne_zero _, rfl⟩ | omega) | refine a_condT rfl ?_ | (refine a_condN rfl (fun hc => ?_) (fun hc => ?_)) <;> (try (exfalso; omega)) | (refine o_neNilI TtOk rfl rfl rfl rfl ?_) | (refine o_call0 rfl (k1) ⟨SLe.of_eq rfl, True.intro⟩ rfl ?_; rintro _ _ ⟨rfl, rfl⟩; refine ⟨rfl, ?_⟩))
        refine end_all [] [] (.tup [.s [], .i .i64 f]) rfl ?_ ?_ (rle_tup2 (CLe.of_eq rfl) (CLe.of_eq rfl) rfl rfl) .nil ⟨rfl, rfl⟩ _ (.inl rfl)
        · repeat' (first | exact True.intro | exact rfl | refine ⟨?_, ?_⟩)
        · exact ⟨trivial, trivial, trivial⟩
      · rw [if_neg hf] at hW
        have hf := Decidable.not_not.1 hf
        subst hf
        repeat' (first | refine Awp.seq ?_ | refine Awp.region ?_ | (refine Ops.nil ?_; show Awp _ _ _ _ _) | (refine Ops.nil ?_; show Exists _) | (refine Awp.skip ?_; show Awp _ _ _ _ _) | (refine o_calm rfl TtOk rfl rfl rfl ?_ (fun _ => ?_); first | exact True.intro | exact ⟨rfl, rfl, rfl, rfl⟩ | exact ⟨rfl, True.intro⟩ | exact ⟨rfl, rfl⟩ | exact ⟨rfl, rfl, rfl⟩ | exact rfl | exact ⟨fun h0 => by cases h0, rfl⟩ | exact (fun h0 => by cases h0) | exact ⟨rfl, by omega⟩ | exact ⟨Nat.succ_ne_zero _, rfl⟩ | omega) | refine a_condT rfl ?_ | refine a_condF rfl ?_ | (refine o_neNilI TtOk rfl rfl rfl rfl ?_) | (refine o_call0 rfl (k1) ⟨SLe.of_eq rfl, True.intro⟩ rfl ?_; rintro _ _ ⟨rfl, rfl⟩; refine ⟨rfl, ?_⟩) | (refine o_callPR rfl rfl rfl rfl rfl (w2 _) ⟨sle_ptr, SLe.of_eq rfl, True.intro⟩ (HOLe.refl _) (HOLe.refl _) rfl rfl ?_; rintro _ _ ⟨rfl, wv, rfl⟩; refine ⟨_, _, rfl, _, rfl, ?_⟩))
        exact ⟨(s1, _), [], ⟨by show s1.bs.length ≤ 100000; omega, hW⟩, rfl, ⟨sle_ptr, sle_ptr, True.intro⟩, HLe.cons 4 rfl (HOLe.refl _) (HLe.cons 50 rfl (HOLe.refl _) (HLe.cons 1 rfl (HOLe.refl _) .nil))⟩
    · rw [if_neg (by decide), if_neg (by decide), if_pos rfl, hs0] at hW
      show Awp Try.prog C _ ⟨63, [(5, .ifc 35 (.agg [a.A, b.A])), (4, .ptr 4 b4 [] 0), (1, .ptr 50 b1 [] 0)], _⟩ _
      have hl2 := WS.len_text s0 (inBy a b).1
      have w2 := fun v => wtext_spec b4 (inBy a b).1 v s0 (by omega)
      generalize inBy a b = q at *
      obtain ⟨t, f⟩ := q
      dsimp only at k2 hW w2 hl2
      generalize s0.text t = s1 at *
      by_cases hf : f ≠ 0
      · rw [if_pos hf] at hW
        subst hW
        repeat' (first | refine Awp.seq ?_ | refine Awp.region ?_ | (refine Ops.nil ?_; show Awp _ _ _ _ _) | (refine Awp.ret ?_; show endK _ _ _ _ _) | (refine o_calm rfl TtOk rfl rfl rfl ?_ (fun _ => ?_); first | exact True.intro | exact ⟨rfl, rfl, rfl, rfl⟩ | exact ⟨rfl, True.intro⟩ | exact ⟨rfl, rfl⟩ | exact ⟨rfl, rfl, rfl⟩ | exact rfl | exact ⟨fun h0 => by cases h0, rfl⟩ | exact (fun h0 => by cases h0) | exact ⟨rfl, by omega⟩ | exact ⟨Nat.succ_ne_zero _, rfl⟩ | omega) | refine a_condT rfl ?_ | (refine a_condN rfl (fun hc => ?_) (fun hc => ?_)) <;> (try (exfalso; omega)) | (refine o_neNilI TtOk rfl rfl rfl rfl ?_) | (refine o_call0 rfl (k2) ⟨SLe.of_eq rfl, True.intro⟩ rfl ?_; rintro _ _ ⟨rfl, rfl⟩; refine ⟨rfl, ?_⟩))
        refine end_all [] [] (.tup [.s [], .i .i64 f]) rfl ?_ ?_ (rle_tup2 (CLe.of_eq rfl) (CLe.of_eq rfl) rfl rfl) .nil ⟨rfl, rfl⟩ _ (.inl rfl)
        · repeat' (first | exact True.intro | exact rfl | refine ⟨?_, ?_⟩)
        · exact ⟨trivial, trivial, trivial⟩
      · rw [if_neg hf] at hW
        have hf := Decidable.not_not.1 hf
        subst hf
        repeat' (first | refine Awp.seq ?_ | refine Awp.region ?_ | (refine Ops.nil ?_; show Awp _ _ _ _ _) | (refine Ops.nil ?_; show Exists _) | (refine Awp.skip ?_; show Awp _ _ _ _ _) | (refine o_calm rfl TtOk rfl rfl rfl ?_ (fun _ => ?_); first | exact True.intro | exact ⟨rfl, rfl, rfl, rfl⟩ | exact ⟨rfl, True.intro⟩ | exact ⟨rfl, rfl⟩ | exact ⟨rfl, rfl, rfl⟩ | exact rfl | exact ⟨fun h0 => by cases h0, rfl⟩ | exact (fun h0 => by cases h0) | exact ⟨rfl, by omega⟩ | exact ⟨Nat.succ_ne_zero _, rfl⟩ | omega) | refine a_condT rfl ?_ | refine a_condF rfl ?_ | (refine o_neNilI TtOk rfl rfl rfl rfl ?_) | (refine o_call0 rfl (k2) ⟨SLe.of_eq rfl, True.intro⟩ rfl ?_; rintro _ _ ⟨rfl, rfl⟩; refine ⟨rfl, ?_⟩) | (refine o_callPR rfl rfl rfl rfl rfl (w2 _) ⟨sle_ptr, SLe.of_eq rfl, True.intro⟩ (HOLe.refl _) (HOLe.refl _) rfl rfl ?_; rintro _ _ ⟨rfl, wv, rfl⟩; refine ⟨_, _, rfl, _, rfl, ?_⟩))
        exact ⟨(s1, _), [], ⟨by show s1.bs.length ≤ 100000; omega, hW⟩, rfl, ⟨sle_ptr, sle_ptr, True.intro⟩, HLe.cons 4 rfl (HOLe.refl _) (HLe.cons 50 rfl (HOLe.refl _) (HLe.cons 1 rfl (HOLe.refl _) .nil))⟩
  clear hW hl1 w1 k1 k2 hc
  rintro ⟨s, v⟩ ⟨hsl, hW⟩
  dsimp only at hsl hW ⊢
  unfold bysT at hW
  by_cases h256 : 256 < path.length
  · rw [if_pos h256] at hW
    subst hW
    repeat' (first | refine Awp.seq ?_ | refine Awp.region ?_ | (refine Ops.nil ?_; show Awp _ _ _ _ _) | (refine Awp.ret ?_; show endK _ _ _ _ _) | refine o_len rfl TtOk rfl rfl rfl (fun _ => ?_) | (refine o_calm rfl TtOk rfl rfl rfl ?_ (fun _ => ?_); first | exact True.intro | exact ⟨rfl, rfl, rfl, rfl⟩ | exact ⟨rfl, True.intro⟩ | exact ⟨rfl, rfl⟩ | exact ⟨rfl, rfl, rfl⟩ | exact rfl | exact ⟨fun h0 => by cases h0, rfl⟩ | exact (fun h0 => by cases h0) | exact ⟨rfl, by omega⟩ | exact ⟨Nat.succ_ne_zero _, rfl⟩ | omega) | (refine a_condP rfl (fun hc => ?_) (fun hc => ?_)) <;> (try (exfalso; omega)))
    refine end_all [] [] (.tup [.s [], .i .i64 2]) rfl ?_ ?_ (rle_tup2 (CLe.of_eq rfl) (CLe.of_eq rfl) rfl rfl) .nil ⟨rfl, rfl⟩ _ (.inl rfl)
    · repeat' (first | exact True.intro | exact rfl | refine ⟨?_, ?_⟩)
    · exact ⟨trivial, trivial, trivial⟩
  rw [if_neg h256] at hW
  have w3 := fun v => wnumber_spec b4 path.length (by omega) v s (by omega)
  have hl3 := WS.len_number s path.length (by omega)
  generalize s.number path.length = s1 at *
  repeat' (first | refine Awp.seq ?_ | refine Awp.block ?_ | refine Awp.region ?_ | (refine Ops.nil ?_; show Awp _ _ _ _ _) | (refine Awp.skip ?_; show Awp _ _ _ _ _) | refine o_len rfl TtOk rfl rfl rfl (fun _ => ?_) | (refine o_calm rfl TtOk rfl rfl rfl ?_ (fun _ => ?_); first | exact True.intro | exact ⟨rfl, rfl, rfl, rfl⟩ | exact ⟨rfl, True.intro⟩ | exact ⟨rfl, rfl⟩ | exact ⟨rfl, rfl, rfl⟩ | exact rfl | exact ⟨fun h0 => by cases h0, rfl⟩ | exact (fun h0 => by cases h0) | exact ⟨rfl, by omega⟩ | exact ⟨Nat.succ_ne_zero _, rfl⟩ | omega) | (refine a_condP rfl (fun hc => ?_) (fun hc => ?_)) <;> (try (exfalso; omega)) | (refine o_callPR rfl rfl rfl rfl rfl (w3 _) ⟨sle_ptr, SLe.of_eq rfl, True.intro⟩ (HOLe.refl _) (HOLe.refl _) rfl rfl ?_; rintro _ _ ⟨rfl, wv, rfl⟩; refine ⟨_, _, rfl, _, rfl, ?_⟩))
  refine Awp.loop (fun q : Nat × WS × Value => ⟨63, [(50, .i .i64 q.1), (49, .i .i64 path.length), (48, .sl 66 (path.map Itm.A)), (4, .ptr 4 b4 [] 0), (1, .ptr 50 b1 [] 0)], [(4, .var b4 (wrA q.2.2 q.2.1)), (50, .var b1 (.agg [.i .i64 e, lf.A, .agg [a.A, b.A], .sl 66 (path.map Itm.A)])), (1, .row q.2.2 5 1 (q.2.1.bs.map byA))]⟩) (fun q => q.1 ≤ path.length ∧ q.2.1.bs.length ≤ 200000 + 82 * q.1 ∧ bysL q.2.1 (path.drop q.1) = W) (fun q => path.length - q.1) [] (0, s1, wv) ⟨Nat.zero_le _, by show s1.bs.length ≤ _; omega, hW⟩ ?_ ?_
  · exact ⟨rfl, ⟨sle_i rfl, sle_i rfl, sle_sl rfl, sle_ptr, sle_ptr, True.intro⟩, HLe.cons 4 rfl (HOLe.refl _) (HLe.cons 50 rfl (HOLe.refl _) (HLe.cons 1 rfl (HOLe.refl _) .nil))⟩
  clear w3 hW hsl hl3
  rintro ⟨i, s, v⟩ ⟨hi, hsl, hst⟩
  dsimp only at hi hsl hst ⊢
  by_cases hlt : i < path.length
  · have hxo := opa _ (List.getElem_mem hlt)
    have hgd := ngood_spec path[i] hxo
    have hi1 : ((i : Int) + 1 = ((i + 1 : Nat) : Int)) := by omega
    rw [List.drop_eq_getElem_cons hlt, bysL] at hst
    by_cases hg : goodI path[i] = true
    · rw [if_pos hg] at hst
      rw [hg] at hgd
      have hn := good_n hg
      have ht := good_t hg
      have w4 := fun v => pwrite_spec b4 path[i] hxo (by omega) (by omega) v s (by omega)
      have hl4 := WS.len_itm s path[i] hxo (by omega) (by omega)
      generalize s.itm path[i] = s2 at *
      repeat' (first | refine Awp.seq ?_ | refine Awp.block ?_ | refine Awp.region ?_ | (refine Ops.nil ?_; show Awp _ _ _ _ _) | (refine Ops.nil ?_; show Exists _) | (refine Awp.skip ?_; show Awp _ _ _ _ _) | (refine o_add rfl rfl rfl rfl ?_ ?_; omega) | (refine o_calm rfl TtOk rfl rfl rfl ?_ (fun _ => ?_); first | exact True.intro | exact ⟨rfl, rfl, rfl, rfl⟩ | exact ⟨rfl, True.intro⟩ | exact ⟨rfl, rfl⟩ | exact ⟨rfl, rfl, rfl⟩ | exact rfl | exact ⟨fun h0 => by cases h0, rfl⟩ | exact (fun h0 => by cases h0) | exact ⟨rfl, by omega⟩ | exact ⟨Nat.succ_ne_zero _, rfl⟩ | omega) | refine o_alloc (d := 9) rfl TtOk rfl rfl rfl (fun b9 => ?_) | refine o_store TtOk rfl rfl rfl rfl rfl rfl rfl ⟨rfl, rfl⟩ rfl rfl rfl rfl rfl ?_ | (refine o_index rfl TtOk rfl rfl rfl rfl rfl rfl ?_ (getq_nat ?_) ?_; omega; omega) | refine a_condF rfl ?_ | (refine a_condP rfl (fun hc => ?_) (fun hc => ?_)) <;> (try (exfalso; omega)) | (refine o_call0 rfl (hgd) ⟨SLe.of_eq rfl, True.intro⟩ rfl ?_; rintro _ _ ⟨rfl, rfl⟩; refine ⟨rfl, ?_⟩) | (refine o_callPR rfl rfl rfl rfl rfl (w4 _) ⟨sle_ptr, SLe.of_eq rfl, True.intro⟩ (HOLe.refl _) (HOLe.refl _) rfl rfl ?_; rintro _ _ ⟨rfl, wv, rfl⟩; refine ⟨_, _, rfl, _, rfl, ?_⟩))
      exact ⟨(i + 1, s2, _), [], ⟨hlt, by show s2.bs.length ≤ _; omega, hst⟩, by show path.length - (i + 1) < path.length - i; omega, rfl, ⟨sle_i hi1, sle_i rfl, sle_sl rfl, sle_ptr, sle_ptr, True.intro⟩, HLe.cons 4 rfl (HOLe.refl _) (HLe.cons 50 rfl (HOLe.refl _) (HLe.cons 1 rfl (HOLe.refl _) .nil))⟩
    · rw [if_neg hg] at hst
      subst hst
      have hg : goodI path[i] = false := by
        cases q : goodI path[i] with
        | true => exact absurd q hg
        | false => rfl
      rw [hg] at hgd
      repeat' (first | refine Awp.seq ?_ | refine Awp.block ?_ | refine Awp.region ?_ | (refine Ops.nil ?_; show Awp _ _ _ _ _) | (refine Awp.skip ?_; show Awp _ _ _ _ _) | (refine Awp.ret ?_; show endK _ _ _ _ _) | (refine o_calm rfl TtOk rfl rfl rfl ?_ (fun _ => ?_); first | exact True.intro | exact ⟨rfl, rfl, rfl, rfl⟩ | exact ⟨rfl, True.intro⟩ | exact ⟨rfl, rfl⟩ | exact ⟨rfl, rfl, rfl⟩ | exact rfl | exact ⟨fun h0 => by cases h0, rfl⟩ | exact (fun h0 => by cases h0) | exact ⟨rfl, by omega⟩ | exact ⟨Nat.succ_ne_zero _, rfl⟩ | omega) | refine o_alloc (d := 9) rfl TtOk rfl rfl rfl (fun b9 => ?_) | refine o_store TtOk rfl rfl rfl rfl rfl rfl rfl ⟨rfl, rfl⟩ rfl rfl rfl rfl rfl ?_ | (refine o_index rfl TtOk rfl rfl rfl rfl rfl rfl ?_ (getq_nat ?_) ?_; omega; omega) | refine a_condT rfl ?_ | (refine a_condP rfl (fun hc => ?_) (fun hc => ?_)) <;> (try (exfalso; omega)) | (refine o_call0 rfl (hgd) ⟨SLe.of_eq rfl, True.intro⟩ rfl ?_; rintro _ _ ⟨rfl, rfl⟩; refine ⟨rfl, ?_⟩))
      refine end_all [] [] (.tup [.s [], .i .i64 1]) rfl ?_ ?_ (rle_tup2 (CLe.of_eq rfl) (CLe.of_eq rfl) rfl rfl) .nil ⟨rfl, rfl⟩ _ (.inl rfl)
      · repeat' (first | exact True.intro | exact rfl | refine ⟨?_, ?_⟩)
      · exact ⟨trivial, trivial, trivial⟩
  · have hie : i = path.length := by omega
    subst hie
    rw [List.drop_length, bysL] at hst
    subst hst
    have w5 := fun v => wdone_spec b4 v s
    repeat' (first | refine Awp.seq ?_ | refine Awp.region ?_ | (refine Ops.nil ?_; show Awp _ _ _ _ _) | (refine Awp.exit ?_; show Awp _ _ _ _ _) | (refine Awp.ret ?_; show endK _ _ _ _ _) | (refine o_calm rfl TtOk rfl rfl rfl ?_ (fun _ => ?_); first | exact True.intro | exact ⟨rfl, rfl, rfl, rfl⟩ | exact ⟨rfl, True.intro⟩ | exact ⟨rfl, rfl⟩ | exact ⟨rfl, rfl, rfl⟩ | exact rfl | exact ⟨fun h0 => by cases h0, rfl⟩ | exact (fun h0 => by cases h0) | exact ⟨rfl, by omega⟩ | exact ⟨Nat.succ_ne_zero _, rfl⟩ | omega) | (refine a_condP rfl (fun hc => ?_) (fun hc => ?_)) <;> (try (exfalso; omega)) | (refine o_callPR rfl rfl rfl rfl rfl (w5 _) ⟨sle_ptr, True.intro⟩ (HOLe.refl _) (HOLe.refl _) rfl rfl ?_; rintro _ _ ⟨rfl, wv, rfl⟩; refine ⟨_, _, rfl, _, rfl, ?_⟩))
    refine end_all [] [] (.tup [.s s.done.1, .i .i64 s.done.2]) rfl ?_ ?_ (rle_tup2 (CLe.of_eq rfl) (CLe.of_eq rfl) rfl rfl) .nil ⟨rfl, rfl⟩ _ (.inl rfl)
    · repeat' (first | exact True.intro | exact rfl | refine ⟨?_, ?_⟩)
    · exact ⟨trivial, trivial, trivial⟩
end Go.Proofs.Ytcmgpkibjdbonaa
