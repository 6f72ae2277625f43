/- node.write, read, Bytes, Read by rules. -/
import Derived.Test.YtcmgpkibjdbonaaGreatPF1Z
import Derived.Test.YtcmgpkibjdbonaaGreatKR4Z
set_option maxHeartbeats 8000000
set_option maxRecDepth 100000
namespace Go.Proofs.YtcmgpkibjdbonaaGreat
open Go Go.RowKit
def WS.itm (s : WS) (x : Itm) : WS := (((s.number x.n).put x.l).put x.s).number x.t
def RS.itm (r : RS) : Itm × RS := (⟨(r.number.1 : Nat), r.number.2.label.1, r.number.2.label.2.label.1, (r.number.2.label.2.label.2.number.1 : Nat)⟩, r.number.2.label.2.label.2.number.2)
def WS.lef (s : WS) (x : Lef) : WS := ((s.put x.l).put x.v).number x.t
def RS.lef (r : RS) : Lef × RS := (⟨r.label.1, r.label.2.label.1, (r.label.2.label.2.number.1 : Nat)⟩, r.label.2.label.2.number.2)
theorem RS.ok_label {r : RS} (h : r.ok) : r.label.2.ok := RS.ok_take h _
theorem RS.ok_itm {r : RS} (h : r.ok) : r.itm.2.ok := RS.ok_number (RS.ok_label (RS.ok_label (RS.ok_number h)))
theorem RS.ok_lef {r : RS} (h : r.ok) : r.lef.2.ok := RS.ok_number (RS.ok_label (RS.ok_label h))
theorem WS.len_put (s : WS) (l : List UInt8) : (s.put l).bs.length = s.bs.length + l.length := List.length_append
theorem WS.len_itm (s : WS) (x : Itm) (hx : x.ok) (hn : x.n < 9223372036854775808) (ht : x.t < 9223372036854775808) : (s.itm x).bs.length ≤ s.bs.length + 82 := by
  unfold WS.itm
  have h1 := WS.len_number s x.n hn
  have h2 := WS.len_number (((s.number x.n).put x.l).put x.s) x.t ht
  rw [WS.len_put, WS.len_put, hx.1, hx.2] at h2
  omega
theorem WS.len_lef (s : WS) (x : Lef) (hx : x.ok) (ht : x.t < 9223372036854775808) : (s.lef x).bs.length ≤ s.bs.length + 73 := by
  unfold WS.lef
  have h2 := WS.len_number ((s.put x.l).put x.v) x.t ht
  rw [WS.len_put, WS.len_put, hx.1, hx.2] at h2
  omega
theorem nwrite_spec (b : Nat) (x : Itm) (hx : x.ok) (hn : x.n < 9223372036854775808) (ht : x.t < 9223372036854775808) (v : Value) (s : WS) (hs : s.bs.length ≤ 900000000000) : Spec Tryz.prog 203 [.ptr 0 b [] 0, x.A] (wrO b v s) (fun r os => r = .tup [] ∧ ∃ v', os = wrO b v' (s.itm x)) := by
  have l1 := WS.len_number s x.n hn
  have l2 : ((s.number x.n).put x.l).bs.length = _ := WS.len_put _ _
  have l3 : (((s.number x.n).put x.l).put x.s).bs.length = _ := WS.len_put _ _
  rw [hx.1] at l2
  rw [hx.2] at l3
  have w1 := fun v => wnumber_spec b x.n hn v s (by omega)
  have w2 := fun v => wlabel_spec b x.l hx.1 v (s.number x.n) (by omega)
  have w3 := fun v => wlabel_spec b x.s hx.2 v ((s.number x.n).put x.l) (by omega)
  have w4 := fun v => wnumber_spec b x.t ht v (((s.number x.n).put x.l).put x.s) (by omega)
  unfold WS.itm
  generalize (((s.number x.n).put x.l).put x.s).number x.t = s4 at w4 ⊢
  generalize ((s.number x.n).put x.l).put x.s = s3 at w3 w4
  generalize (s.number x.n).put x.l = s2 at w2 w3
  generalize s.number x.n = s1 at w1 w2
  obtain ⟨n, l, s5, t⟩ := x
  dsimp only at w1 w2 w3 w4
  show Spec Tryz.prog 203 [.ptr 0 b [] 0, .agg [pfxA n l, labA s5, .i .i64 t]] _ _
  refine spec_of TtOk [(0, .var b (wrA v s)), (1, .row v 5 1 (s.bs.map byA))] Tryz.func203 rfl Tryz.ntmps203 (by kernel_rfl) rfl rfl (fun C => ?_) rfl
  repeat' (first | refine Awp.seq ?_ | refine Awp.region ?_ | refine Ops.nil (nqA ?_) | refine Ops.nil (nqE ?_) | (refine o_calm rfl TtOk rfl rfl rfl ?_ (fun _ => ?_); exact nd) | refine o_box (d := 3) rfl rfl rfl rfl (fun b3 => ?_) | (refine o_callPR rfl rfl rfl rfl rfl (w1 _) ⟨sle_ptr, nqS, True.intro⟩ (HOLe.refl _) (HOLe.refl _) rfl rfl ?_; rintro _ _ ⟨rfl, wv, rfl⟩; refine ⟨_, _, rfl, _, rfl, ?_⟩) | (refine o_callPR rfl rfl rfl rfl rfl (w2 _) ⟨sle_ptr, nqS, True.intro⟩ (HOLe.refl _) (HOLe.refl _) rfl rfl ?_; rintro _ _ ⟨rfl, wv, rfl⟩; refine ⟨_, _, rfl, _, rfl, ?_⟩) | (refine o_callPR rfl rfl rfl rfl rfl (w3 _) ⟨sle_ptr, nqS, True.intro⟩ (HOLe.refl _) (HOLe.refl _) rfl rfl ?_; rintro _ _ ⟨rfl, wv, rfl⟩; refine ⟨_, _, rfl, _, rfl, ?_⟩) | (refine o_callPR rfl rfl rfl rfl rfl (w4 _) ⟨sle_ptr, nqS, True.intro⟩ (HOLe.refl _) (HOLe.refl _) rfl rfl ?_; rintro _ _ ⟨rfl, wv, rfl⟩; refine ⟨_, _, rfl, _, rfl, ?_⟩))
  exact end_none rfl [] [(0, _), (1, _)] (HLe.cons 0 rfl (HOLe.refl _) (HLe.cons 1 rfl (HOLe.refl _) .nil)) ⟨rfl, _, rfl⟩ _ (by first | exact .inl rfl | exact .inr rfl)
theorem nread_spec (b : Nat) (r : RS) (hr : r.ok) : Spec Tryz.prog 200 [.ptr 0 b [] 0] [.var b (rdA r)] (fun v os => v = r.itm.1.A ∧ os = [.var b (rdA r.itm.2)]) := by
  have k1 := rnumber_spec b r hr
  have k2 := rlabel_spec b _ (RS.ok_number hr)
  have k3 := rlabel_spec b _ (RS.ok_label (RS.ok_number hr))
  have k4 := rnumber_spec b _ (RS.ok_label (RS.ok_label (RS.ok_number hr)))
  have hA : r.itm.1.A = .agg [pfxA (r.number.1 : Nat) r.number.2.label.1, labA r.number.2.label.2.label.1, .i .i64 (r.number.2.label.2.label.2.number.1 : Nat)] := rfl
  have hB : r.itm.2 = r.number.2.label.2.label.2.number.2 := rfl
  rw [hA, hB]
  generalize r.number.2.label.2.label.2.number = q4 at k4 ⊢
  generalize r.number.2.label.2.label = q3 at k3 k4 ⊢
  generalize r.number.2.label = q2 at k2 k3 ⊢
  generalize r.number = q1 at k1 k2 ⊢
  refine spec_of TtOk [(0, .var b (rdA r))] Tryz.func200 rfl Tryz.ntmps200 (by kernel_rfl) rfl rfl (fun C => ?_) rfl
  repeat' (first | refine Awp.seq ?_ | refine Awp.region ?_ | refine Ops.nil (nqA ?_) | refine Awp.ret (nqE ?_) | (refine o_calm rfl TtOk rfl rfl rfl ?_ (fun _ => ?_); exact nd) | refine o_alloc (d := 2) rfl TtOk rfl rfl rfl (fun b2 => ?_) | refine o_store TtOk rfl rfl rfl rfl rfl rfl rfl ⟨rfl, rfl⟩ rfl rfl rfl rfl rfl ?_ | refine o_build TtOk rfl rfl rfl rfl rfl rfl nq1 ?_ | (refine o_callP rfl rfl rfl rfl (k1) ⟨sle_ptr, True.intro⟩ (HOLe.refl _) rfl rfl ?_; rintro _ _ ⟨rfl, rfl⟩; refine ⟨_, rfl, _, rfl, ?_⟩) | (refine o_callP rfl rfl rfl rfl (k2) ⟨sle_ptr, True.intro⟩ (HOLe.refl _) rfl rfl ?_; rintro _ _ ⟨rfl, rfl⟩; refine ⟨_, rfl, _, rfl, ?_⟩) | (refine o_callP rfl rfl rfl rfl (k3) ⟨sle_ptr, True.intro⟩ (HOLe.refl _) rfl rfl ?_; rintro _ _ ⟨rfl, rfl⟩; refine ⟨_, rfl, _, rfl, ?_⟩) | (refine o_callP rfl rfl rfl rfl (k4) ⟨sle_ptr, True.intro⟩ (HOLe.refl _) rfl rfl ?_; rintro _ _ ⟨rfl, rfl⟩; refine ⟨_, rfl, _, rfl, ?_⟩))
  refine end_all [] [(0, _)] (.agg [pfxA (q1.1 : Nat) q2.1, labA q3.1, .i .i64 (q4.1 : Nat)]) rfl ?_ ?_ (rle_one (CLe.of_eq rfl) rfl) (HLe.cons 0 rfl (HOLe.refl _) .nil) ⟨rfl, rfl⟩ _ (.inl rfl)
  · exact nq1
  · exact ⟨trivial, trivial⟩
def w0 : WS := ⟨[], 0⟩
def lfW (x : Lef) : WS := (w0.put [0]).lef x
def inW (x y : Itm) : WS := ((w0.put [1]).itm x).itm y
/-- The bytes of a leaf, of an inner node; the error. -/
def lfBy (x : Lef) : List UInt8 × Int := if chkLf x ≠ 0 then ([], chkLf x) else (lfW x).done
def inBy (x y : Itm) : List UInt8 × Int := if chkN x y ≠ 0 then ([], chkN x y) else (inW x y).done
theorem nbytesL_spec (x : Lef) (hx : x.ok) : Spec Tryz.prog 137 [leafN x] [] (fun v os => v = .tup [.s (lfBy x).1, .i .i64 (lfBy x).2] ∧ os = []) := by
  have hc := ncheckL_spec x
  unfold lfBy
  by_cases h0 : chkLf x ≠ 0
  · rw [if_pos h0]
    generalize chkLf x = c at hc h0 ⊢
    refine spec_of TtOk [] Tryz.func137 rfl Tryz.ntmps137 (by kernel_rfl) rfl rfl (fun C => ?_) rfl
    repeat' (first | refine Awp.seq ?_ | refine Awp.region ?_ | refine Ops.nil (nqA ?_) | refine Awp.ret (nqE ?_) | (refine o_calm rfl TtOk rfl rfl rfl ?_ (fun _ => ?_); exact nd) | (refine a_condN rfl (fun hc => ?_) (fun hc => ?_)) <;> (try (exfalso; omega)) | refine o_callE rfl (hc) ⟨nqS, True.intro⟩ rfl ?_)
    refine end_all [] [] (.tup [.s [], .i .i64 c]) rfl ?_ ?_ (rle_tup2 (CLe.of_eq rfl) (CLe.of_eq rfl) rfl rfl) .nil ⟨rfl, rfl⟩ _ (.inl rfl)
    · exact nq1
    · exact ⟨trivial, trivial, trivial⟩
  · have h0 : chkLf x = 0 := Decidable.not_not.1 h0
    rw [if_neg (fun h => h h0)]
    rw [h0] at hc
    have ht : x.t < 9223372036854775808 := by unfold chkLf at h0; split at h0 <;> omega
    have e0 : w0.bs.length = 0 := rfl
    have e1 : (w0.put [0]).bs.length = 1 := rfl
    have e2 : ((w0.put [0]).put x.l).bs.length = _ := WS.len_put _ _
    have e3 : (((w0.put [0]).put x.l).put x.v).bs.length = _ := WS.len_put _ _
    rw [hx.1] at e2
    rw [hx.2] at e3
    have w1 := fun b v => wflag_spec b false v w0 (by omega)
    have w2 := fun b v => wlabel_spec b x.l hx.1 v (w0.put [0]) (by omega)
    have w3 := fun b v => wlabel_spec b x.v hx.2 v ((w0.put [0]).put x.l) (by omega)
    have w4 := fun b v => wnumber_spec b x.t ht v (((w0.put [0]).put x.l).put x.v) (by omega)
    have w5 := fun b v => wdone_spec b v (lfW x)
    have hW : lfW x = (((w0.put [0]).put x.l).put x.v).number x.t := rfl
    rw [hW] at w5 ⊢
    rw [show (if false = true then (1 : UInt8) else 0) = 0 from rfl] at w1
    generalize (((w0.put [0]).put x.l).put x.v).number x.t = s4 at w4 w5 ⊢
    generalize ((w0.put [0]).put x.l).put x.v = s3 at w3 w4
    generalize (w0.put [0]).put x.l = s2 at w2 w3
    generalize w0.put [0] = s1 at w1 w2
    obtain ⟨l, u, t⟩ := x
    dsimp only at w1 w2 w3 w4 w5
    have hc : Spec Tryz.prog 82 [.ifc 46 (.agg [labA l, labA u, .i .i64 t])] [] (fun v os => v = .i .i64 0 ∧ os = []) := hc
    show Spec Tryz.prog 137 [.ifc 46 (.agg [labA l, labA u, .i .i64 t])] [] _
    refine spec_of TtOk [] Tryz.func137 rfl Tryz.ntmps137 (by kernel_rfl) rfl rfl (fun C => ?_) rfl
    repeat' (first | refine Awp.seq ?_ | refine Awp.region ?_ | refine Ops.nil (nqA ?_) | refine Awp.skip (nqA ?_) | (refine o_calm rfl TtOk rfl rfl rfl ?_ (fun _ => ?_); exact nd) | refine o_alloc (d := 5) rfl TtOk rfl rfl rfl (fun b5 => ?_) | refine o_alloc (d := 6) rfl TtOk rfl rfl rfl (fun b6 => ?_) | refine o_store TtOk rfl rfl rfl rfl rfl rfl rfl ⟨rfl, rfl⟩ rfl rfl rfl rfl rfl ?_ | refine a_condT rfl ?_ | refine a_condF rfl ?_ | (refine o_assertT TtOk rfl rfl rfl rfl rfl rfl ?_) | refine o_callE rfl (hc) ⟨nqS, True.intro⟩ rfl ?_)
    refine Ops.weaken [] (S' := ⟨45, [(6, .ptr 6 b6 [] 0), (5, .ptr 5 b5 [] 0)], [(6, .var b6 (.agg [labA l, labA u, .i .i64 t])), (5, .var b5 (wrA (.slice none 0 0) w0)), (1, .row (.slice none 0 0) 5 1 [])]⟩) ⟨rfl, ⟨sle_ptr, sle_ptr, True.intro⟩, HLe.cons 6 rfl (HOLe.refl _) (HLe.cons 5 rfl (HOLe.var (CLe.agg (.cons CLe.nilown (.cons (CLe.refl _) .nil)))) (.none .nil))⟩ ?_
    have w1 := w1 b5
    have w2 := w2 b5
    have w3 := w3 b5
    have w4 := w4 b5
    have w5 := w5 b5
    repeat' (first | refine Awp.seq ?_ | refine Awp.region ?_ | refine Ops.nil (nqA ?_) | refine Awp.ret (nqE ?_) | (refine o_calm rfl TtOk rfl rfl rfl ?_ (fun _ => ?_); exact nd) | (refine o_callPR rfl rfl rfl rfl rfl (w1 _) ⟨sle_ptr, nqS, True.intro⟩ (HOLe.refl _) (HOLe.refl _) rfl rfl ?_; rintro _ _ ⟨rfl, wv, rfl⟩; refine ⟨_, _, rfl, _, rfl, ?_⟩) | (refine o_callPR rfl rfl rfl rfl rfl (w2 _) ⟨sle_ptr, nqS, True.intro⟩ (HOLe.refl _) (HOLe.refl _) rfl rfl ?_; rintro _ _ ⟨rfl, wv, rfl⟩; refine ⟨_, _, rfl, _, rfl, ?_⟩) | (refine o_callPR rfl rfl rfl rfl rfl (w3 _) ⟨sle_ptr, nqS, True.intro⟩ (HOLe.refl _) (HOLe.refl _) rfl rfl ?_; rintro _ _ ⟨rfl, wv, rfl⟩; refine ⟨_, _, rfl, _, rfl, ?_⟩) | (refine o_callPR rfl rfl rfl rfl rfl (w4 _) ⟨sle_ptr, nqS, True.intro⟩ (HOLe.refl _) (HOLe.refl _) rfl rfl ?_; rintro _ _ ⟨rfl, wv, rfl⟩; refine ⟨_, _, rfl, _, rfl, ?_⟩) | (refine o_callPR rfl rfl rfl rfl rfl (w5 _) ⟨sle_ptr, True.intro⟩ (HOLe.refl _) (HOLe.refl _) rfl rfl ?_; rintro _ _ ⟨rfl, wv, rfl⟩; refine ⟨_, _, rfl, _, rfl, ?_⟩))
    refine end_all [] [] (.tup [.s s4.done.1, .i .i64 s4.done.2]) rfl ?_ ?_ (rle_tup2 (CLe.of_eq rfl) (CLe.of_eq rfl) rfl rfl) .nil ⟨rfl, rfl⟩ _ (.inl rfl)
    · exact nq1
    · exact ⟨trivial, trivial, trivial⟩
theorem nbytesI_spec (x y : Itm) (hx : x.ok) (hy : y.ok) : Spec Tryz.prog 137 [innN x y] [] (fun v os => v = .tup [.s (inBy x y).1, .i .i64 (inBy x y).2] ∧ os = []) := by
  have hc := ncheckI_spec x y hx hy
  unfold inBy
  by_cases h0 : chkN x y ≠ 0
  · rw [if_pos h0]
    generalize chkN x y = c at hc h0 ⊢
    refine spec_of TtOk [] Tryz.func137 rfl Tryz.ntmps137 (by kernel_rfl) rfl rfl (fun C => ?_) rfl
    repeat' (first | refine Awp.seq ?_ | refine Awp.region ?_ | refine Ops.nil (nqA ?_) | refine Awp.ret (nqE ?_) | (refine o_calm rfl TtOk rfl rfl rfl ?_ (fun _ => ?_); exact nd) | (refine a_condN rfl (fun hc => ?_) (fun hc => ?_)) <;> (try (exfalso; omega)) | refine o_callE rfl (hc) ⟨nqS, True.intro⟩ rfl ?_)
    refine end_all [] [] (.tup [.s [], .i .i64 c]) rfl ?_ ?_ (rle_tup2 (CLe.of_eq rfl) (CLe.of_eq rfl) rfl rfl) .nil ⟨rfl, rfl⟩ _ (.inl rfl)
    · exact nq1
    · exact ⟨trivial, trivial, trivial⟩
  · have h0 : chkN x y = 0 := Decidable.not_not.1 h0
    rw [if_neg (fun h => h h0)]
    rw [h0] at hc
    have hg : goodI x = true ∧ goodI y = true := by
      unfold chkN at h0
      by_cases hg : goodI x = true ∧ goodI y = true
      · exact hg
      · rw [if_neg hg] at h0; cases h0
    obtain ⟨gx, gy⟩ := hg
    have bx : x.n < 9223372036854775808 ∧ x.t < 9223372036854775808 := by
      unfold goodI goodP at gx
      simp only [Bool.and_eq_true, decide_eq_true_eq] at gx
      have h1 : x.n ≤ 256 := gx.1.2.1
      have h2 := gx.2.2
      omega
    have bY : y.n < 9223372036854775808 ∧ y.t < 9223372036854775808 := by
      unfold goodI goodP at gy
      simp only [Bool.and_eq_true, decide_eq_true_eq] at gy
      have h1 : y.n ≤ 256 := gy.1.2.1
      have h2 := gy.2.2
      omega
    have e1 : (w0.put [1]).bs.length = 1 := rfl
    have e2 := WS.len_itm (w0.put [1]) x hx bx.1 bx.2
    have w1 := fun b v => wflag_spec b true v w0 (by show 0 ≤ _; omega)
    have w2 := fun b v => nwrite_spec b x hx bx.1 bx.2 v (w0.put [1]) (by omega)
    have w3 := fun b v => nwrite_spec b y hy bY.1 bY.2 v ((w0.put [1]).itm x) (by omega)
    have w5 := fun b v => wdone_spec b v (inW x y)
    have hW : inW x y = ((w0.put [1]).itm x).itm y := rfl
    rw [hW] at w5 ⊢
    rw [show (if true = true then (1 : UInt8) else 0) = 1 from rfl] at w1
    clear hW e1 e2 bx bY gx gy h0
    generalize ((w0.put [1]).itm x).itm y = s4 at w3 w5 ⊢
    generalize (w0.put [1]).itm x = s2 at w2 w3
    generalize w0.put [1] = s1 at w1 w2
    obtain ⟨n, l, q1, t⟩ := x
    obtain ⟨n2, l2, q2, t2⟩ := y
    have hc : Spec Tryz.prog 82 [.ifc 52 (.agg [.agg [pfxA n l, labA q1, .i .i64 t], .agg [pfxA n2 l2, labA q2, .i .i64 t2]])] [] (fun v os => v = .i .i64 0 ∧ os = []) := hc
    have w2 : ∀ b v, Spec Tryz.prog 203 [.ptr 0 b [] 0, .agg [pfxA n l, labA q1, .i .i64 t]] (wrO b v s1) (fun r os => r = .tup [] ∧ ∃ v', os = wrO b v' s2) := w2
    have w3 : ∀ b v, Spec Tryz.prog 203 [.ptr 0 b [] 0, .agg [pfxA n2 l2, labA q2, .i .i64 t2]] (wrO b v s2) (fun r os => r = .tup [] ∧ ∃ v', os = wrO b v' s4) := w3
    show Spec Tryz.prog 137 [.ifc 52 (.agg [.agg [pfxA n l, labA q1, .i .i64 t], .agg [pfxA n2 l2, labA q2, .i .i64 t2]])] [] _
    refine spec_of TtOk [] Tryz.func137 rfl Tryz.ntmps137 (by kernel_rfl) rfl rfl (fun C => ?_) rfl
    repeat' (first | refine Awp.seq ?_ | refine Awp.region ?_ | refine Ops.nil (nqA ?_) | refine Awp.skip (nqA ?_) | (refine o_calm rfl TtOk rfl rfl rfl ?_ (fun _ => ?_); exact nd) | refine o_alloc (d := 5) rfl TtOk rfl rfl rfl (fun b5 => ?_) | refine o_alloc (d := 6) rfl TtOk rfl rfl rfl (fun b6 => ?_) | refine o_alloc (d := 8) rfl TtOk rfl rfl rfl (fun b8 => ?_) | refine o_store TtOk rfl rfl rfl rfl rfl rfl rfl ⟨rfl, rfl⟩ rfl rfl rfl rfl rfl ?_ | refine a_condF rfl ?_ | (refine o_assertF TtOk rfl rfl rfl rfl rfl rfl rfl ?_) | (refine o_assert1 TtOk rfl rfl rfl rfl rfl rfl ?_) | refine o_callE rfl (hc) ⟨nqS, True.intro⟩ rfl ?_)
    refine Ops.weaken [] (S' := ⟨45, [(8, .ptr 8 b8 [] 0), (5, .ptr 5 b5 [] 0)], [(8, .var b8 (.agg [.agg [pfxA n l, labA q1, .i .i64 t], .agg [pfxA n2 l2, labA q2, .i .i64 t2]])), (5, .var b5 (wrA (.slice none 0 0) w0)), (1, .row (.slice none 0 0) 5 1 [])]⟩) ⟨rfl, ⟨sle_ptr, sle_ptr, True.intro⟩, HLe.cons 8 rfl (HOLe.refl _) (HLe.cons 5 rfl (HOLe.var (CLe.agg (.cons CLe.nilown (.cons (CLe.refl _) .nil)))) (.none .nil))⟩ ?_
    have w1 := w1 b5
    have w2 := w2 b5
    have w3 := w3 b5
    have w5 := w5 b5
    repeat' (first | refine Awp.seq ?_ | refine Awp.region ?_ | refine Ops.nil (nqA ?_) | refine Awp.ret (nqE ?_) | (refine o_calm rfl TtOk rfl rfl rfl ?_ (fun _ => ?_); exact nd) | (refine o_callPR rfl rfl rfl rfl rfl (w1 _) ⟨sle_ptr, nqS, True.intro⟩ (HOLe.refl _) (HOLe.refl _) rfl rfl ?_; rintro _ _ ⟨rfl, wv, rfl⟩; refine ⟨_, _, rfl, _, rfl, ?_⟩) | (refine o_callPR rfl rfl rfl rfl rfl (w2 _) ⟨sle_ptr, nqS, True.intro⟩ (HOLe.refl _) (HOLe.refl _) rfl rfl ?_; rintro _ _ ⟨rfl, wv, rfl⟩; refine ⟨_, _, rfl, _, rfl, ?_⟩) | (refine o_callPR rfl rfl rfl rfl rfl (w3 _) ⟨sle_ptr, nqS, True.intro⟩ (HOLe.refl _) (HOLe.refl _) rfl rfl ?_; rintro _ _ ⟨rfl, wv, rfl⟩; refine ⟨_, _, rfl, _, rfl, ?_⟩) | (refine o_callPR rfl rfl rfl rfl rfl (w5 _) ⟨sle_ptr, True.intro⟩ (HOLe.refl _) (HOLe.refl _) rfl rfl ?_; rintro _ _ ⟨rfl, wv, rfl⟩; refine ⟨_, _, rfl, _, rfl, ?_⟩))
    refine end_all [] [] (.tup [.s s4.done.1, .i .i64 s4.done.2]) rfl ?_ ?_ (rle_tup2 (CLe.of_eq rfl) (CLe.of_eq rfl) rfl rfl) .nil ⟨rfl, rfl⟩ _ (.inl rfl)
    · exact nq1
    · exact ⟨trivial, trivial, trivial⟩
/-- What bytes are as a node: a leaf, two items, or nothing; the error. -/
inductive Nod where
  | no | lf (x : Lef) | inn (x y : Itm)
def Nod.A : Nod → AV
  | .no => .nili
  | .lf x => leafN x
  | .inn x y => innN x y
def Nod.chk : Nod → Int
  | .no => 3
  | .lf x => chkLf x
  | .inn x y => chkN x y
def nodR (s : List UInt8) : Nod × RS :=
  let f := (RS.open s).flag
  if f.1 = true then (.inn f.2.itm.1 f.2.itm.2.itm.1, f.2.itm.2.itm.2) else (.lf f.2.lef.1, f.2.lef.2)
def nodRd (s : List UInt8) : Nod × Int :=
  if (nodR s).2.done ≠ 0 then (.no, (nodR s).2.done) else if (nodR s).1.chk ≠ 0 then (.no, (nodR s).1.chk) else ((nodR s).1, 0)
theorem label_len (r : RS) : r.label.1.length = 32 := by
  unfold RS.label
  rw [List.length_append, List.length_replicate]
  have := take_len r 32
  omega
theorem itm_ok' (r : RS) : r.itm.1.ok := ⟨label_len _, label_len _⟩
theorem lef_ok' (r : RS) : r.lef.1.ok := ⟨label_len _, label_len _⟩
theorem nodeRead_spec (s : List UInt8) (hs : s.length ≤ 9223372036854775807) : Spec Tryz.prog 131 [.s s] [] (fun v os => v = .tup [(nodRd s).1.A, .i .i64 (nodRd s).2] ∧ os = []) := by
  have k0 := ropen_spec s
  have o0 := RS.ok_open hs
  have k1 := fun b => rflag_spec b (RS.open s) o0
  have o1 := RS.ok_flag o0
  unfold nodRd nodR
  dsimp only
  generalize RS.open s = q0 at k0 k1 o1 ⊢
  by_cases hb0 : q0.flag.1 = false
  · have hb := hb0
    rw [if_neg (show ¬ q0.flag.1 = true by rw [hb]; decide)]
    rw [hb] at k1
    dsimp only
    clear hb hb0
    have hL := lef_ok' q0.flag.2
    have k2 := fun b => rlabel_spec b _ o1
    have k3 := fun b => rlabel_spec b _ (RS.ok_label o1)
    have k4 := fun b => rnumber_spec b _ (RS.ok_label (RS.ok_label o1))
    have k5 := fun b => rdone_spec b q0.flag.2.lef.2
    have k6 := ncheckL_spec q0.flag.2.lef.1
    have hA : q0.flag.2.lef.1.A = .agg [labA q0.flag.2.label.1, labA q0.flag.2.label.2.label.1, .i .i64 (q0.flag.2.label.2.label.2.number.1 : Nat)] := rfl
    have hB : q0.flag.2.lef.2 = q0.flag.2.label.2.label.2.number.2 := rfl
    have hC : (Nod.lf q0.flag.2.lef.1).A = .ifc 46 q0.flag.2.lef.1.A := rfl
    have hD : (Nod.lf q0.flag.2.lef.1).chk = chkLf q0.flag.2.lef.1 := rfl
    have hE : leafN q0.flag.2.lef.1 = .ifc 46 q0.flag.2.lef.1.A := rfl
    rw [hE, hA] at k6
    rw [hB] at k5
    rw [hD, hB]
    generalize chkLf q0.flag.2.lef.1 = cc at k6 ⊢
    generalize hX : Nod.lf q0.flag.2.lef.1 = X at hC ⊢
    rw [hA] at hC
    clear hA hB hD hE hX hL
    generalize q0.flag.2.label.2.label.2.number = q4 at k4 k5 k6 hC ⊢
    generalize q0.flag.2.label.2.label = q3 at k3 k4 k6 hC ⊢
    generalize q0.flag.2.label = q2 at k2 k3 k6 hC ⊢
    generalize q0.flag = q1 at k1 k2 ⊢
    refine spec_of TtOk [] Tryz.func131 rfl Tryz.ntmps131 (by kernel_rfl) rfl rfl (fun C => ?_) rfl
    by_cases hd : q4.2.done ≠ 0
    · rw [if_pos hd]
      generalize q4.2.done = dd at k5 hd ⊢
      repeat' (first | refine Awp.seq ?_ | refine Awp.region ?_ | refine Ops.nil (nqA ?_) | refine Awp.ret (nqE ?_) | (refine o_calm rfl TtOk rfl rfl rfl ?_ (fun _ => ?_); exact nd) | refine o_build TtOk rfl rfl rfl rfl rfl rfl nq1 ?_ | refine a_condF rfl ?_ | (refine a_condN rfl (fun hc => ?_) (fun hc => ?_)) <;> (try (exfalso; omega)) | (refine o_callN rfl k0 ⟨nqS, True.intro⟩ rfl (fun bN => ?_)) | (refine o_mkIface TtOk rfl rfl rfl rfl rfl rfl ?_) | (refine o_callP rfl rfl rfl rfl ((k1 _)) ⟨sle_ptr, True.intro⟩ (HOLe.refl _) rfl rfl ?_; rintro _ _ ⟨rfl, rfl⟩; refine ⟨_, rfl, _, rfl, ?_⟩) | (refine o_callP rfl rfl rfl rfl ((k2 _)) ⟨sle_ptr, True.intro⟩ (HOLe.refl _) rfl rfl ?_; rintro _ _ ⟨rfl, rfl⟩; refine ⟨_, rfl, _, rfl, ?_⟩) | (refine o_callP rfl rfl rfl rfl ((k3 _)) ⟨sle_ptr, True.intro⟩ (HOLe.refl _) rfl rfl ?_; rintro _ _ ⟨rfl, rfl⟩; refine ⟨_, rfl, _, rfl, ?_⟩) | (refine o_callP rfl rfl rfl rfl ((k4 _)) ⟨sle_ptr, True.intro⟩ (HOLe.refl _) rfl rfl ?_; rintro _ _ ⟨rfl, rfl⟩; refine ⟨_, rfl, _, rfl, ?_⟩) | (refine o_callP rfl rfl rfl rfl ((k5 _)) ⟨sle_ptr, True.intro⟩ (HOLe.refl _) rfl rfl ?_; rintro _ _ ⟨rfl, rfl⟩; refine ⟨_, rfl, _, rfl, ?_⟩))
      refine end_all [] [] (.tup [.nili, .i .i64 dd]) rfl ?_ ?_ (rle_tup2 (CLe.of_eq rfl) (CLe.of_eq rfl) rfl rfl) .nil ⟨rfl, rfl⟩ _ (.inl rfl)
      · exact nq1
      · exact ⟨trivial, trivial, trivial⟩
    · rw [if_neg hd]
      have hd := Decidable.not_not.1 hd
      rw [hd] at k5
      by_cases hcc : cc ≠ 0
      · rw [if_pos hcc]
        repeat' (first | refine Awp.seq ?_ | refine Awp.region ?_ | refine Ops.nil (nqA ?_) | refine Awp.skip (nqA ?_) | refine Awp.ret (nqE ?_) | (refine o_calm rfl TtOk rfl rfl rfl ?_ (fun _ => ?_); exact nd) | refine o_build TtOk rfl rfl rfl rfl rfl rfl nq1 ?_ | refine a_condF rfl ?_ | (refine a_condN rfl (fun hc => ?_) (fun hc => ?_)) <;> (try (exfalso; omega)) | (refine o_callN rfl k0 ⟨nqS, True.intro⟩ rfl (fun bN => ?_)) | (refine o_mkIface TtOk rfl rfl rfl rfl rfl rfl ?_) | refine o_callE rfl (k6) ⟨nqS, True.intro⟩ rfl ?_ | (refine o_callP rfl rfl rfl rfl ((k1 _)) ⟨sle_ptr, True.intro⟩ (HOLe.refl _) rfl rfl ?_; rintro _ _ ⟨rfl, rfl⟩; refine ⟨_, rfl, _, rfl, ?_⟩) | (refine o_callP rfl rfl rfl rfl ((k2 _)) ⟨sle_ptr, True.intro⟩ (HOLe.refl _) rfl rfl ?_; rintro _ _ ⟨rfl, rfl⟩; refine ⟨_, rfl, _, rfl, ?_⟩) | (refine o_callP rfl rfl rfl rfl ((k3 _)) ⟨sle_ptr, True.intro⟩ (HOLe.refl _) rfl rfl ?_; rintro _ _ ⟨rfl, rfl⟩; refine ⟨_, rfl, _, rfl, ?_⟩) | (refine o_callP rfl rfl rfl rfl ((k4 _)) ⟨sle_ptr, True.intro⟩ (HOLe.refl _) rfl rfl ?_; rintro _ _ ⟨rfl, rfl⟩; refine ⟨_, rfl, _, rfl, ?_⟩) | (refine o_callP rfl rfl rfl rfl ((k5 _)) ⟨sle_ptr, True.intro⟩ (HOLe.refl _) rfl rfl ?_; rintro _ _ ⟨rfl, rfl⟩; refine ⟨_, rfl, _, rfl, ?_⟩))
        refine end_all [] [] (.tup [.nili, .i .i64 cc]) rfl ?_ ?_ (rle_tup2 (CLe.of_eq rfl) (CLe.of_eq rfl) rfl rfl) .nil ⟨rfl, rfl⟩ _ (.inl rfl)
        · exact nq1
        · exact ⟨trivial, trivial, trivial⟩
      · rw [if_neg hcc]
        have hcc := Decidable.not_not.1 hcc
        subst hcc
        repeat' (first | refine Awp.seq ?_ | refine Awp.region ?_ | refine Ops.nil (nqA ?_) | refine Awp.skip (nqA ?_) | refine Awp.ret (nqE ?_) | (refine o_calm rfl TtOk rfl rfl rfl ?_ (fun _ => ?_); exact nd) | refine o_build TtOk rfl rfl rfl rfl rfl rfl nq1 ?_ | refine a_condF rfl ?_ | (refine o_callN rfl k0 ⟨nqS, True.intro⟩ rfl (fun bN => ?_)) | (refine o_mkIface TtOk rfl rfl rfl rfl rfl rfl ?_) | refine o_callE rfl (k6) ⟨nqS, True.intro⟩ rfl ?_ | (refine o_callP rfl rfl rfl rfl ((k1 _)) ⟨sle_ptr, True.intro⟩ (HOLe.refl _) rfl rfl ?_; rintro _ _ ⟨rfl, rfl⟩; refine ⟨_, rfl, _, rfl, ?_⟩) | (refine o_callP rfl rfl rfl rfl ((k2 _)) ⟨sle_ptr, True.intro⟩ (HOLe.refl _) rfl rfl ?_; rintro _ _ ⟨rfl, rfl⟩; refine ⟨_, rfl, _, rfl, ?_⟩) | (refine o_callP rfl rfl rfl rfl ((k3 _)) ⟨sle_ptr, True.intro⟩ (HOLe.refl _) rfl rfl ?_; rintro _ _ ⟨rfl, rfl⟩; refine ⟨_, rfl, _, rfl, ?_⟩) | (refine o_callP rfl rfl rfl rfl ((k4 _)) ⟨sle_ptr, True.intro⟩ (HOLe.refl _) rfl rfl ?_; rintro _ _ ⟨rfl, rfl⟩; refine ⟨_, rfl, _, rfl, ?_⟩) | (refine o_callP rfl rfl rfl rfl ((k5 _)) ⟨sle_ptr, True.intro⟩ (HOLe.refl _) rfl rfl ?_; rintro _ _ ⟨rfl, rfl⟩; refine ⟨_, rfl, _, rfl, ?_⟩))
        dsimp only
        rw [hC]
        refine end_all [] [] (.tup [.ifc 46 (.agg [labA q2.1, labA q3.1, .i .i64 (q4.1 : Nat)]), .i .i64 0]) rfl ?_ ?_ (rle_tup2 (CLe.of_eq rfl) (CLe.of_eq rfl) rfl rfl) .nil ⟨rfl, rfl⟩ _ (.inl rfl)
        · exact nq1
        · exact ⟨trivial, trivial, trivial⟩
  · have hb : q0.flag.1 = true := by revert hb0; cases q0.flag.1 <;> simp
    rw [if_pos hb]
    rw [hb] at k1
    dsimp only
    clear hb hb0
    have o2 := RS.ok_itm o1
    have k2 := fun b => nread_spec b _ o1
    have k3 := fun b => nread_spec b _ o2
    have k5 := fun b => rdone_spec b q0.flag.2.itm.2.itm.2
    have k6 := ncheckI_spec q0.flag.2.itm.1 q0.flag.2.itm.2.itm.1 (itm_ok' _) (itm_ok' _)
    have hD : (Nod.inn q0.flag.2.itm.1 q0.flag.2.itm.2.itm.1).chk = chkN q0.flag.2.itm.1 q0.flag.2.itm.2.itm.1 := rfl
    have hC : (Nod.inn q0.flag.2.itm.1 q0.flag.2.itm.2.itm.1).A = .ifc 52 (.agg [q0.flag.2.itm.1.A, q0.flag.2.itm.2.itm.1.A]) := rfl
    have hE : innN q0.flag.2.itm.1 q0.flag.2.itm.2.itm.1 = .ifc 52 (.agg [q0.flag.2.itm.1.A, q0.flag.2.itm.2.itm.1.A]) := rfl
    rw [hE] at k6
    rw [hD]
    generalize chkN q0.flag.2.itm.1 q0.flag.2.itm.2.itm.1 = cc at k6 ⊢
    generalize hX : Nod.inn q0.flag.2.itm.1 q0.flag.2.itm.2.itm.1 = X at hC ⊢
    clear hD hE hX
    generalize q0.flag.2.itm.2.itm = q4 at k3 k5 k6 hC ⊢
    generalize q0.flag.2.itm = q3 at k2 k3 k6 hC ⊢
    generalize q0.flag = q1 at k1 k2 ⊢
    obtain ⟨⟨n, l, s1, t⟩, r3⟩ := q3
    obtain ⟨⟨n2, l2, s2, t2⟩, r4⟩ := q4
    dsimp only at k3 k5 hC ⊢
    have k2 : ∀ b, Spec Tryz.prog 200 [.ptr 0 b [] 0] [.var b (rdA q1.2)] (fun v os => v = .agg [pfxA n l, labA s1, .i .i64 t] ∧ os = [.var b (rdA r3)]) := k2
    have k3 : ∀ b, Spec Tryz.prog 200 [.ptr 0 b [] 0] [.var b (rdA r3)] (fun v os => v = .agg [pfxA n2 l2, labA s2, .i .i64 t2] ∧ os = [.var b (rdA r4)]) := k3
    have k6 : Spec Tryz.prog 82 [.ifc 52 (.agg [.agg [pfxA n l, labA s1, .i .i64 t], .agg [pfxA n2 l2, labA s2, .i .i64 t2]])] [] (fun v os => v = .i .i64 cc ∧ os = []) := k6
    have hC : X.A = .ifc 52 (.agg [.agg [pfxA n l, labA s1, .i .i64 t], .agg [pfxA n2 l2, labA s2, .i .i64 t2]]) := hC
    refine spec_of TtOk [] Tryz.func131 rfl Tryz.ntmps131 (by kernel_rfl) rfl rfl (fun C => ?_) rfl
    by_cases hd : r4.done ≠ 0
    · rw [if_pos hd]
      generalize r4.done = dd at k5 hd ⊢
      repeat' (first | refine Awp.seq ?_ | refine Awp.region ?_ | refine Ops.nil (nqA ?_) | refine Awp.ret (nqE ?_) | (refine o_calm rfl TtOk rfl rfl rfl ?_ (fun _ => ?_); exact nd) | refine o_build TtOk rfl rfl rfl rfl rfl rfl nq1 ?_ | refine a_condT rfl ?_ | (refine a_condN rfl (fun hc => ?_) (fun hc => ?_)) <;> (try (exfalso; omega)) | (refine o_callN rfl k0 ⟨nqS, True.intro⟩ rfl (fun bN => ?_)) | (refine o_mkIface TtOk rfl rfl rfl rfl rfl rfl ?_) | (refine o_callP rfl rfl rfl rfl ((k1 _)) ⟨sle_ptr, True.intro⟩ (HOLe.refl _) rfl rfl ?_; rintro _ _ ⟨rfl, rfl⟩; refine ⟨_, rfl, _, rfl, ?_⟩) | (refine o_callP rfl rfl rfl rfl ((k2 _)) ⟨sle_ptr, True.intro⟩ (HOLe.refl _) rfl rfl ?_; rintro _ _ ⟨rfl, rfl⟩; refine ⟨_, rfl, _, rfl, ?_⟩) | (refine o_callP rfl rfl rfl rfl ((k3 _)) ⟨sle_ptr, True.intro⟩ (HOLe.refl _) rfl rfl ?_; rintro _ _ ⟨rfl, rfl⟩; refine ⟨_, rfl, _, rfl, ?_⟩) | (refine o_callP rfl rfl rfl rfl ((k5 _)) ⟨sle_ptr, True.intro⟩ (HOLe.refl _) rfl rfl ?_; rintro _ _ ⟨rfl, rfl⟩; refine ⟨_, rfl, _, rfl, ?_⟩))
      refine end_all [] [] (.tup [.nili, .i .i64 dd]) rfl ?_ ?_ (rle_tup2 (CLe.of_eq rfl) (CLe.of_eq rfl) rfl rfl) .nil ⟨rfl, rfl⟩ _ (.inl rfl)
      · exact nq1
      · exact ⟨trivial, trivial, trivial⟩
    · rw [if_neg hd]
      have hd := Decidable.not_not.1 hd
      rw [hd] at k5
      by_cases hcc : cc ≠ 0
      · rw [if_pos hcc]
        repeat' (first | refine Awp.seq ?_ | refine Awp.region ?_ | refine Ops.nil (nqA ?_) | refine Awp.skip (nqA ?_) | refine Awp.ret (nqE ?_) | (refine o_calm rfl TtOk rfl rfl rfl ?_ (fun _ => ?_); exact nd) | refine o_build TtOk rfl rfl rfl rfl rfl rfl nq1 ?_ | refine a_condT rfl ?_ | refine a_condF rfl ?_ | (refine a_condN rfl (fun hc => ?_) (fun hc => ?_)) <;> (try (exfalso; omega)) | (refine o_callN rfl k0 ⟨nqS, True.intro⟩ rfl (fun bN => ?_)) | (refine o_mkIface TtOk rfl rfl rfl rfl rfl rfl ?_) | refine o_callE rfl (k6) ⟨nqS, True.intro⟩ rfl ?_ | (refine o_callP rfl rfl rfl rfl ((k1 _)) ⟨sle_ptr, True.intro⟩ (HOLe.refl _) rfl rfl ?_; rintro _ _ ⟨rfl, rfl⟩; refine ⟨_, rfl, _, rfl, ?_⟩) | (refine o_callP rfl rfl rfl rfl ((k2 _)) ⟨sle_ptr, True.intro⟩ (HOLe.refl _) rfl rfl ?_; rintro _ _ ⟨rfl, rfl⟩; refine ⟨_, rfl, _, rfl, ?_⟩) | (refine o_callP rfl rfl rfl rfl ((k3 _)) ⟨sle_ptr, True.intro⟩ (HOLe.refl _) rfl rfl ?_; rintro _ _ ⟨rfl, rfl⟩; refine ⟨_, rfl, _, rfl, ?_⟩) | (refine o_callP rfl rfl rfl rfl ((k5 _)) ⟨sle_ptr, True.intro⟩ (HOLe.refl _) rfl rfl ?_; rintro _ _ ⟨rfl, rfl⟩; refine ⟨_, rfl, _, rfl, ?_⟩))
        refine end_all [] [] (.tup [.nili, .i .i64 cc]) rfl ?_ ?_ (rle_tup2 (CLe.of_eq rfl) (CLe.of_eq rfl) rfl rfl) .nil ⟨rfl, rfl⟩ _ (.inl rfl)
        · exact nq1
        · exact ⟨trivial, trivial, trivial⟩
      · rw [if_neg hcc]
        have hcc := Decidable.not_not.1 hcc
        subst hcc
        repeat' (first | refine Awp.seq ?_ | refine Awp.region ?_ | refine Ops.nil (nqA ?_) | refine Awp.skip (nqA ?_) | refine Awp.ret (nqE ?_) | (refine o_calm rfl TtOk rfl rfl rfl ?_ (fun _ => ?_); exact nd) | refine o_build TtOk rfl rfl rfl rfl rfl rfl nq1 ?_ | refine a_condT rfl ?_ | refine a_condF rfl ?_ | (refine o_callN rfl k0 ⟨nqS, True.intro⟩ rfl (fun bN => ?_)) | (refine o_mkIface TtOk rfl rfl rfl rfl rfl rfl ?_) | refine o_callE rfl (k6) ⟨nqS, True.intro⟩ rfl ?_ | (refine o_callP rfl rfl rfl rfl ((k1 _)) ⟨sle_ptr, True.intro⟩ (HOLe.refl _) rfl rfl ?_; rintro _ _ ⟨rfl, rfl⟩; refine ⟨_, rfl, _, rfl, ?_⟩) | (refine o_callP rfl rfl rfl rfl ((k2 _)) ⟨sle_ptr, True.intro⟩ (HOLe.refl _) rfl rfl ?_; rintro _ _ ⟨rfl, rfl⟩; refine ⟨_, rfl, _, rfl, ?_⟩) | (refine o_callP rfl rfl rfl rfl ((k3 _)) ⟨sle_ptr, True.intro⟩ (HOLe.refl _) rfl rfl ?_; rintro _ _ ⟨rfl, rfl⟩; refine ⟨_, rfl, _, rfl, ?_⟩) | (refine o_callP rfl rfl rfl rfl ((k5 _)) ⟨sle_ptr, True.intro⟩ (HOLe.refl _) rfl rfl ?_; rintro _ _ ⟨rfl, rfl⟩; refine ⟨_, rfl, _, rfl, ?_⟩))
        dsimp only
        rw [hC]
        refine end_all [] [] (.tup [.ifc 52 (.agg [.agg [pfxA n l, labA s1, .i .i64 t], .agg [pfxA n2 l2, labA s2, .i .i64 t2]]), .i .i64 0]) rfl ?_ ?_ (rle_tup2 (CLe.of_eq rfl) (CLe.of_eq rfl) rfl rfl) .nil ⟨rfl, rfl⟩ _ (.inl rfl)
        · exact nq1
        · exact ⟨trivial, trivial, trivial⟩
end Go.Proofs.YtcmgpkibjdbonaaGreat
