/- node.InnerBytes, Item of leaves and inner nodes, Good, sha.Joined, node.Empty by rules. -/
import Derived.Test.YtcmgpkibjdbonaaGreatSA4Z
set_option maxHeartbeats 8000000
set_option maxRecDepth 100000
namespace Go.Proofs.YtcmgpkibjdbonaaGreat
open Go Go.RowKit
theorem txtI_len (x : Itm) (hx : x.ok) : (txtI x).length = 80 := by
  unfold txtI; rw [List.length_append, List.length_append, List.length_append, num8_len, num8_len, hx.1, hx.2]
theorem innB_spec (x y : Itm) (hx : x.ok) (hy : y.ok) : Spec Tryz.prog 95 [.agg [x.A, y.A]] [] (fun v os => v = .s (innB x y) ∧ os = []) := by
  refine spec_of TtOk [] Tryz.func95 rfl Tryz.ntmps95 (by kernel_rfl) rfl rfl (fun C => ?_) rfl
  have h1 := ntext_spec x hx
  have h2 := ntext_spec y hy
  have l1 := txtI_len x hx
  have l2 := txtI_len y hy
  have hi : innB x y = jnB 17 [txtI x, txtI y] := rfl
  rw [hi]
  generalize txtI x = a at h1 l1 ⊢
  generalize txtI y = b at h2 l2 ⊢
  have h3 := njoined_spec 17 [a, b] (show 2 ≤ 1000 by decide) (fun q hq => by
    rcases List.mem_cons.1 hq with rfl | hq
    · omega
    · have := List.mem_singleton.1 hq; subst this; omega)
  repeat' (first | (refine o_freezeR 9 9 rfl rfl rfl ?_) | (refine a_freezeV 1 1 rfl rfl rfl ?_) | refine Awp.seq ?_ | refine Awp.region ?_ | refine Ops.nil (nqA ?_) | refine Awp.ret (nqE ?_) | (refine o_calm rfl TtOk rfl rfl rfl ?_ (fun _ => ?_); exact nd) | refine o_box (d := 1) rfl rfl rfl rfl (fun b1 => ?_) | refine o_buildSlice TtOk rfl rfl rfl rfl rfl rfl rfl rfl rfl rfl rfl nq1 (fun _ => ?_) | refine a_any 1 [] [] [] [0, 3, 1, 4, 2, 5, 6, 7, 8] (by kernel_rfl) (by kernel_rfl) (by kernel_rfl) rfl rfl rfl ?_ | refine o_callE rfl (h1) ⟨nqS, True.intro⟩ rfl ?_ | refine o_callE rfl (h2) ⟨nqS, True.intro⟩ rfl ?_ | refine o_callE rfl (h3) ⟨nqS, nqS, True.intro⟩ rfl ?_)
  exact nq2
def leafI (x : Lef) : Itm := ⟨256, x.l, shaN (leafB x), x.t⟩
theorem leafI_ok (x : Lef) (hx : x.ok) : (leafI x).ok := ⟨hx.1, shaN_len _⟩
theorem cut256 (l : List UInt8) (hl : l.length = 32) : cutL l 256 = l := by
  unfold cutL cutP
  rw [if_pos (by decide), List.take_of_length_le (by omega)]
  exact List.append_nil _
theorem leafB_len (x : Lef) (hx : x.ok) : (leafB x).length ≤ 1000 := by
  have h := jnB_succ
  have h1 := num8_len x.t
  have h2 : leafB x = [16] ++ ((lenQ x.l.length ++ x.l) ++ ((lenQ x.v.length ++ x.v) ++ ((lenQ (num8 x.t).length ++ num8 x.t) ++ []))) := rfl
  rw [h2]
  simp only [List.length_append, List.length_cons, List.length_nil, h1, hx.1, hx.2]
  have : ∀ n, (lenQ n).length = 4 := fun _ => rfl
  simp only [this]; decide
theorem litem_spec (x : Lef) (hx : x.ok) : Spec Tryz.prog 83 [x.A] [] (fun v os => v = (leafI x).A ∧ os = []) := by
  have h2 := leafB_spec x hx
  have h3 := sum_spec (leafB x) (by have := leafB_len x hx; omega)
  have hA : (leafI x).A = .agg [pfxA 256 x.l, labA (shaN (leafB x)), .i .i64 x.t] := rfl
  rw [hA]
  generalize leafB x = b at h2 h3
  generalize shaN b = s at h3
  obtain ⟨l, u, t⟩ := x
  obtain ⟨hl, hu⟩ := hx
  dsimp only at hl hu ⊢
  have h1 := bcut_spec l hl 256
  have hc : clamp 256 = 256 := rfl
  rw [hc, cut256 l hl] at h1
  have h2 : Spec Tryz.prog 94 [.agg [labA l, labA u, .i .i64 t]] [] (fun v os => v = .s b ∧ os = []) := h2
  show Spec Tryz.prog 83 [.agg [labA l, labA u, .i .i64 t]] [] _
  refine spec_of TtOk [] Tryz.func83 rfl Tryz.ntmps83 (by kernel_rfl) rfl rfl (fun C => ?_) rfl
  repeat' (first | refine Awp.seq ?_ | refine Awp.region ?_ | refine Ops.nil (nqA ?_) | refine Awp.ret (nqE ?_) | (refine o_calm rfl TtOk rfl rfl rfl ?_ (fun _ => ?_); exact nd) | refine o_alloc (d := 2) rfl TtOk rfl rfl rfl (fun b2 => ?_) | refine o_box (d := 1) rfl rfl rfl rfl (fun b1 => ?_) | refine o_store TtOk rfl rfl rfl rfl rfl rfl rfl ⟨rfl, rfl⟩ rfl rfl rfl rfl rfl ?_ | refine o_build TtOk rfl rfl rfl rfl rfl rfl nq1 ?_ | refine a_any 1 [2] [4, 6, 10] [5, 7, 8] [0, 6, 1, 3, 7, 2, 4, 5, 8, 9] (by kernel_rfl) (by kernel_rfl) (by kernel_rfl) rfl rfl rfl ?_ | refine o_callE rfl (h1) ⟨nqS, nqS, True.intro⟩ rfl ?_ | refine o_callE rfl (h2) ⟨nqS, True.intro⟩ rfl ?_ | refine o_callE rfl (h3) ⟨nqS, True.intro⟩ rfl ?_)
  refine end_all [] [] (.agg [pfxA 256 l, labA s, .i .i64 t]) rfl ?_ ?_ (rle_one (CLe.of_eq rfl) rfl) .nil ⟨rfl, rfl⟩ _ (.inl rfl)
  · exact nq1
  · exact ⟨trivial, trivial⟩
def goodI (x : Itm) : Bool := goodP ⟨x.n, x.l⟩ && (decide (0 ≤ x.t) && decide (x.t ≤ 1073741824))
theorem ngood_spec (x : Itm) (hx : x.ok) : Spec Tryz.prog 116 [x.A] [] (fun v os => v = .b (goodI x) ∧ os = []) := by
  have h1 := bgood_spec ⟨x.n, x.l⟩ hx.1
  have hg : goodI x = (goodP ⟨x.n, x.l⟩ && (decide (0 ≤ x.t) && decide (x.t ≤ 1073741824))) := rfl
  rw [hg]
  have hA : (Pfx.A ⟨x.n, x.l⟩) = pfxA x.n x.l := rfl
  rw [hA] at h1
  generalize goodP ⟨x.n, x.l⟩ = g at h1
  obtain ⟨n, l, s, t⟩ := x
  dsimp only at h1 ⊢
  show Spec Tryz.prog 116 [.agg [pfxA n l, labA s, .i .i64 t]] [] _
  refine spec_of TtOk [] Tryz.func116 rfl Tryz.ntmps116 (by kernel_rfl) rfl rfl (fun C => ?_) rfl
  cases g
  · repeat' (first | refine Awp.seq ?_ | refine Awp.region ?_ | refine Ops.nil (nqA ?_) | refine Awp.ret (nqE ?_) | refine o_noT rfl rfl rfl ?_ | (refine o_calm rfl TtOk rfl rfl rfl ?_ (fun _ => ?_); exact nd) | refine o_box (d := 1) rfl rfl rfl rfl (fun b1 => ?_) | refine o_callE rfl (h1) ⟨nqS, True.intro⟩ rfl ?_)
    exact nq2
  · by_cases ht : 0 ≤ t
    · rw [decide_eq_true ht]
      repeat' (first | refine Awp.seq ?_ | refine Awp.region ?_ | refine Ops.nil (nqA ?_) | refine Awp.ret (nqE ?_) | (refine o_calm rfl TtOk rfl rfl rfl ?_ (fun _ => ?_); exact nd) | refine o_box (d := 1) rfl rfl rfl rfl (fun b1 => ?_) | (fail_if_success (refine o_isLit rfl (by first | exact .inl rfl | exact .inr rfl) ?_)); (refine o_splitP rfl rfl (fun hc => ?_) (fun hc => ?_) <;> try (exfalso; omega)) | refine o_callE rfl (h1) ⟨nqS, True.intro⟩ rfl ?_)
      exact nq2
    · rw [decide_eq_false ht]
      repeat' (first | refine Awp.seq ?_ | refine Awp.region ?_ | refine Ops.nil (nqA ?_) | refine Awp.ret (nqE ?_) | refine o_noT rfl rfl rfl ?_ | (refine o_calm rfl TtOk rfl rfl rfl ?_ (fun _ => ?_); exact nd) | refine o_box (d := 1) rfl rfl rfl rfl (fun b1 => ?_) | (fail_if_success (refine o_isLit rfl (by first | exact .inl rfl | exact .inr rfl) ?_)); (refine o_splitP rfl rfl (fun hc => ?_) (fun hc => ?_) <;> try (exfalso; omega)) | refine o_callE rfl (h1) ⟨nqS, True.intro⟩ rfl ?_)
      exact nq2
theorem lz8_le : ∀ (k x : Nat), lz8 k x ≤ k
  | 0, _ => Nat.le_refl _
  | k + 1, x => by
    unfold lz8; split
    · exact Nat.zero_le _
    · have := lz8_le k (2 * x % 256); omega
theorem comL_le : ∀ a b : List UInt8, comL a b ≤ 8 * a.length
  | [], [] => Nat.le_refl _
  | [], _ :: _ => Nat.le_refl _
  | _ :: _, [] => Nat.zero_le _
  | x :: a, y :: b => by
    have h1 := comL_le a b
    have h2 := lz8_le 8 (xorB x y)
    unfold comL; rw [List.length_cons]
    split <;> omega
def innI (x y : Itm) : Itm := ⟨(comL x.l y.l : Nat), cutL x.l (comL x.l y.l), shaN (innB x y), if y.t > x.t then y.t else x.t⟩
theorem comL_256 {a b : List UInt8} (ha : a.length = 32) : comL a b ≤ 256 := by have := comL_le a b; omega
theorem innI_ok (x y : Itm) (hx : x.ok) : (innI x y).ok := ⟨cutL_len _ _ hx.1 (comL_256 hx.1), shaN_len _⟩
theorem innB_len (x y : Itm) (hx : x.ok) (hy : y.ok) : (innB x y).length ≤ 1000 := by
  have h1 := txtI_len x hx
  have h2 := txtI_len y hy
  have h3 : innB x y = [17] ++ ((lenQ (txtI x).length ++ txtI x) ++ ((lenQ (txtI y).length ++ txtI y) ++ [])) := rfl
  rw [h3]
  simp only [List.length_append, List.length_cons, List.length_nil, h1, h2]
  have : ∀ n, (lenQ n).length = 4 := fun _ => rfl
  simp only [this]; decide
theorem iitem_spec (x y : Itm) (hx : x.ok) (hy : y.ok) : Spec Tryz.prog 78 [.agg [x.A, y.A]] [] (fun v os => v = (innI x y).A ∧ os = []) := by
  have h1 := bcommon_spec x.l y.l hx.1 hy.1
  have hcl : clamp ((comL x.l y.l : Nat) : Int) = comL x.l y.l := by have := comL_256 (b := y.l) hx.1; unfold clamp; omega
  have h2 := bcut_spec x.l hx.1 ((comL x.l y.l : Nat) : Int)
  rw [hcl] at h2
  have h3 := innB_spec x y hx hy
  have h4 := sum_spec (innB x y) (by have := innB_len x y hx hy; omega)
  have hA : (innI x y).A = .agg [pfxA (comL x.l y.l : Nat) (cutL x.l (comL x.l y.l)), labA (shaN (innB x y)), .i .i64 (if y.t > x.t then y.t else x.t)] := rfl
  rw [hA]
  generalize innB x y = b at h3 h4
  generalize shaN b = s at h4
  generalize comL x.l y.l = c at h1 h2
  generalize cutL x.l c = cl at h2
  obtain ⟨n, l, s1, t⟩ := x
  obtain ⟨n2, l2, s2, t2⟩ := y
  dsimp only at h1 h2 ⊢
  have h3 : Spec Tryz.prog 95 [.agg [.agg [pfxA n l, labA s1, .i .i64 t], .agg [pfxA n2 l2, labA s2, .i .i64 t2]]] [] (fun v os => v = .s b ∧ os = []) := h3
  show Spec Tryz.prog 78 [.agg [.agg [pfxA n l, labA s1, .i .i64 t], .agg [pfxA n2 l2, labA s2, .i .i64 t2]]] [] _
  refine spec_of TtOk [] Tryz.func78 rfl Tryz.ntmps78 (by kernel_rfl) rfl rfl (fun C => ?_) rfl
  repeat' (first | refine Awp.seq ?_ | refine Awp.region ?_ | refine Ops.nil (nqA ?_) | refine Awp.ret (nqE ?_) | (refine o_calm rfl TtOk rfl rfl rfl ?_ (fun _ => ?_); exact nd) | refine o_alloc (d := 2) rfl TtOk rfl rfl rfl (fun b2 => ?_) | refine o_alloc (d := 3) rfl TtOk rfl rfl rfl (fun b3 => ?_) | refine o_box (d := 1) rfl rfl rfl rfl (fun b1 => ?_) | refine o_store TtOk rfl rfl rfl rfl rfl rfl rfl ⟨rfl, rfl⟩ rfl rfl rfl rfl rfl ?_ | refine o_build TtOk rfl rfl rfl rfl rfl rfl nq1 ?_ | (refine Ops.nil ?_; show AnyT _ _ _ _ _ _ _ _ _ _) | refine a_anyT 1 [3] [7, 11, 15] [16, 17, 3] (by kernel_rfl) (by kernel_rfl) (n := 16) (listed := [false, false, false, false, false, false, false, false, false, false, false, false, false, false, false, false].toArray) rfl (by kernel_rfl) ?_ | refine t_path (n := 16) (listed := [false, false, false, false, false, false, false, false, false, false, false, false, false, false, false, false].toArray) [0, 1, 2, 4, 5, 6, 8, 9, 10, 3, 7, 11] 4 [true, true, true, true, true, true, true, true, true, true, true, true, false, false, false, false] (by kernel_rfl) rfl rfl rfl (by kernel_rfl) ?_ | refine t_two (n := 4) (listed := [true, true, true, true, true, true, true, true, true, true, true, true, false, false, false, false].toArray) 12 14 [true, true, true, true, true, true, true, true, true, true, true, true, true, false, false, false] [true, true, true, true, true, true, true, true, true, true, true, true, false, false, true, false] rfl (by kernel_rfl) rfl rfl (by kernel_rfl) (by kernel_rfl) ?_ ?_ | refine t_two (n := 3) (listed := [true, true, true, true, true, true, true, true, true, true, true, true, true, false, false, false].toArray) 13 14 [true, true, true, true, true, true, true, true, true, true, true, true, true, true, false, false] [true, true, true, true, true, true, true, true, true, true, true, true, true, false, true, false] rfl (by kernel_rfl) rfl rfl (by kernel_rfl) (by kernel_rfl) ?_ ?_ | refine t_path (n := 2) (listed := [true, true, true, true, true, true, true, true, true, true, true, true, true, true, false, false].toArray) [14, 15] 0 [true, true, true, true, true, true, true, true, true, true, true, true, true, true, true, true] (by kernel_rfl) rfl rfl rfl (by kernel_rfl) ?_ | refine t_fin (n := 0) (listed := [true, true, true, true, true, true, true, true, true, true, true, true, true, true, true, true].toArray) (by kernel_rfl) ?_ | refine t_path (n := 2) (listed := [true, true, true, true, true, true, true, true, true, true, true, true, true, false, true, false].toArray) [13, 15] 0 [true, true, true, true, true, true, true, true, true, true, true, true, true, true, true, true] (by kernel_rfl) rfl rfl rfl (by kernel_rfl) ?_ | refine t_path (n := 3) (listed := [true, true, true, true, true, true, true, true, true, true, true, true, false, false, true, false].toArray) [12, 13, 15] 0 [true, true, true, true, true, true, true, true, true, true, true, true, true, true, true, true] (by kernel_rfl) rfl rfl rfl (by kernel_rfl) ?_ | refine a_any 2 [2] [18, 19, 24, 27] [20, 21] [4, 5, 7, 8, 0, 1, 6, 9, 10, 2, 3, 11, 12] (by kernel_rfl) (by kernel_rfl) (by kernel_rfl) rfl rfl rfl ?_ | refine o_callE rfl (h1) ⟨nqS, nqS, True.intro⟩ rfl ?_ | refine o_callE rfl (h2) ⟨nqS, nqS, True.intro⟩ rfl ?_ | refine o_callE rfl (h3) ⟨nqS, True.intro⟩ rfl ?_ | refine o_callE rfl (h4) ⟨nqS, True.intro⟩ rfl ?_)
  all_goals
    refine end_all [] [] (.agg [pfxA (c : Nat) cl, labA s, .i .i64 (if t2 > t then t2 else t)]) rfl ?_ ?_ (rle_one (CLe.of_eq rfl) rfl) .nil ⟨rfl, rfl⟩ _ (.inl rfl)
    · exact nq1
    · exact ⟨trivial, trivial⟩
theorem sjoin0_spec (tag : UInt8) : Spec Tryz.prog 161 [byA tag, .sl 1 []] [] (fun v os => v = labA (shaN [tag]) ∧ os = []) := by
  refine spec_of TtOk [] Tryz.func161 rfl Tryz.ntmps161 (by kernel_rfl) rfl rfl (fun C => ?_) rfl
  have h1 := sum_spec [tag] (by show 1 ≤ _; decide)
  generalize shaN [tag] = s at h1
  repeat' (first | refine Awp.seq ?_ | refine Awp.block ?_ | refine Awp.region ?_ | refine Ops.nil (nqA ?_) | (refine o_calm rfl TtOk rfl rfl rfl ?_ (fun _ => ?_); exact nd) | refine o_alloc (d := 4) rfl TtOk rfl rfl rfl (fun b4 => ?_) | refine o_buildSlice TtOk rfl rfl rfl rfl rfl rfl rfl rfl rfl rfl rfl nq1 (fun _ => ?_))
  rename_i v10 _ _ _ _
  refine Awp.loop (fun _ : Unit => ⟨36, [(13, .i .i64 0), (12, .i .i64 0), (11, .sl 1 []), (5, .own 10 v10), (4, .ptr 4 b4 [] 0)], [(10, .row v10 5 1 [byA tag]), (4, .var b4 (.arr 1 32 (List.replicate 32 (.i .u8 0))))]⟩) (fun _ => True) (fun _ => 0) [] () trivial ?_ ?_
  · exact ⟨rfl, ⟨sle_i rfl, sle_i rfl, sle_sl rfl, sle_own, sle_ptr, True.intro⟩, HLe.cons 10 rfl (HOLe.refl _) (HLe.cons 4 rfl (HOLe.refl _) .nil)⟩
  rintro ⟨⟩ _
  repeat' (first | (refine o_toString TtOk rfl rfl rfl rfl rfl (by first | exact True.intro | exact rfl) rfl rfl rfl (s := [tag]) rfl ?_) | refine Awp.seq ?_ | refine Awp.region ?_ | refine Ops.nil (nqA ?_) | refine Awp.exit (nqA ?_) | refine Awp.ret (nqE ?_) | (refine o_calm rfl TtOk rfl rfl rfl ?_ (fun _ => ?_); exact nd) | refine o_store TtOk rfl rfl rfl rfl rfl rfl rfl ⟨rfl, rfl⟩ rfl rfl rfl rfl rfl ?_ | refine a_condF rfl ?_ | refine o_callE rfl (h1) ⟨nqS, True.intro⟩ rfl ?_)
  refine end_all [] [] (labA s) rfl ?_ ?_ (rle_one (CLe.of_eq rfl) rfl) .nil ⟨rfl, rfl⟩ _ (.inl rfl)
  · exact nq1
  · exact ⟨trivial, trivial⟩
theorem nempty_spec : Spec Tryz.prog 72 [] [] (fun v os => v = labA (shaN [18]) ∧ os = []) := by
  refine spec_of TtOk [] Tryz.func72 rfl Tryz.ntmps72 (by kernel_rfl) rfl rfl (fun C => ?_) rfl
  have h1 := sjoin0_spec 18
  generalize shaN [18] = s at h1
  repeat' (first | refine Awp.seq ?_ | refine Awp.region ?_ | refine Ops.nil (nqA ?_) | refine Awp.ret (nqE ?_) | refine o_alloc (d := 0) rfl TtOk rfl rfl rfl (fun b0 => ?_) | refine o_store TtOk rfl rfl rfl rfl rfl rfl rfl ⟨rfl, rfl⟩ rfl rfl rfl rfl rfl ?_ | refine o_callE rfl h1 ⟨nqS, sle_nilsl, True.intro⟩ rfl ?_)
  refine end_all [] [] (labA s) rfl ?_ ?_ (rle_one (CLe.of_eq rfl) rfl) .nil ⟨rfl, rfl⟩ _ (.inl rfl)
  · exact nq1
  · exact ⟨trivial, trivial⟩
end Go.Proofs.YtcmgpkibjdbonaaGreat
set_option maxHeartbeats 8000000
set_option maxRecDepth 100000
namespace Go.Proofs.YtcmgpkibjdbonaaGreat
open Go Go.RowKit
def Itm.p (x : Itm) : Pfx := ⟨x.n, x.l⟩
def badI (a x : Itm) : Bool := overP a.p x.p || (overP x.p a.p || decide (0 ≤ cmpS a.l x.l))
def chkL : Option Itm → List Itm → Int
  | _, [] => 0
  | none, x :: r => if goodI x = true then chkL (some x) r else 1
  | some a, x :: r => if goodI x = true then (if badI a x = true then 3 else chkL (some x) r) else 1
def chkI (l : List Itm) : Int := if 2000 < l.length then 2 else chkL none l
def prevI (l : List Itm) : Nat → Option Itm
  | 0 => none
  | i + 1 => l[i]?
theorem chkL_step (l : List Itm) (i : Nat) (h : i < l.length) : chkL (prevI l i) (l.drop i) = if goodI l[i] = true then (if h0 : 0 < i then (if badI (l[i - 1]'(by omega)) l[i] = true then 3 else chkL (prevI l (i + 1)) (l.drop (i + 1))) else chkL (prevI l (i + 1)) (l.drop (i + 1))) else 1 := by
  have hp : prevI l (i + 1) = some l[i] := by show l[i]? = _; exact List.getElem?_eq_getElem h
  rw [List.drop_eq_getElem_cons h, hp]
  cases i with
  | zero => rfl
  | succ j =>
    have hq : prevI l (j + 1) = some l[j] := by show l[j]? = _; exact List.getElem?_eq_getElem (by omega)
    rw [hq, dif_pos (Nat.succ_pos j)]
    rfl
theorem pcheck_spec (l : List Itm) (hl : l.length ≤ 100000) (hok : ∀ x ∈ l, x.ok) : Spec Tryz.prog 76 [.sl 66 (l.map Itm.A)] [] (fun v os => v = .i .i64 (chkI l) ∧ os = []) := by
  refine spec_of TtOk [] Tryz.func76 rfl Tryz.ntmps76 (by kernel_rfl) rfl rfl (fun C => ?_) rfl
  unfold chkI
  by_cases h2 : 2000 < l.length
  · rw [if_pos h2]
    repeat' (first | refine Awp.seq ?_ | refine Awp.region ?_ | refine Ops.nil (nqA ?_) | refine Awp.ret (nqE ?_) | refine o_len rfl TtOk rfl rfl rfl (fun _ => ?_) | (refine o_calm rfl TtOk rfl rfl rfl ?_ (fun _ => ?_); exact nd) | (refine a_condP rfl (fun hc => ?_) (fun hc => ?_)) <;> (try (exfalso; omega)))
    exact nq2
  rw [if_neg h2]
  obtain ⟨G, hG⟩ : ∃ G, chkL none l = G := ⟨_, rfl⟩
  rw [hG]
  repeat' (first | refine Awp.seq ?_ | refine Awp.block ?_ | refine Awp.region ?_ | refine Ops.nil (nqA ?_) | refine Awp.skip (nqA ?_) | refine o_len rfl TtOk rfl rfl rfl (fun _ => ?_) | (refine o_calm rfl TtOk rfl rfl rfl ?_ (fun _ => ?_); exact nd) | (refine a_condP rfl (fun hc => ?_) (fun hc => ?_)) <;> (try (exfalso; omega)))
  refine Awp.loop (fun i : Nat => ⟨44, [(11, .i .i64 i), (10, .i .i64 l.length), (9, .sl 66 (l.map Itm.A)), (0, .sl 66 (l.map Itm.A))], []⟩) (fun i => i ≤ l.length ∧ chkL (prevI l i) (l.drop i) = G) (fun i => l.length - i) [] 0 ⟨Nat.zero_le _, hG⟩ ?_ ?_
  · exact ⟨rfl, ⟨sle_i rfl, sle_i rfl, sle_sl rfl, sle_sl rfl, True.intro⟩, .nil⟩
  rintro i ⟨hi, hr⟩
  by_cases hlt : i < l.length
  · have hx := hok _ (List.getElem_mem hlt)
    have hi1 : ((i : Int) + 1 = ((i + 1 : Nat) : Int)) := by omega
    rw [chkL_step l i hlt] at hr
    have hgd := ngood_spec l[i] hx
    generalize goodI l[i] = g at hr hgd
    cases g
    · rw [if_neg Bool.false_ne_true] at hr
      subst hr
      repeat' (first | refine Awp.seq ?_ | refine Awp.block ?_ | refine Awp.region ?_ | refine Ops.nil (nqA ?_) | refine Awp.skip (nqA ?_) | refine Awp.ret (nqE ?_) | (refine o_calm rfl TtOk rfl rfl rfl ?_ (fun _ => ?_); exact nd) | refine o_alloc (d := 4) rfl TtOk rfl rfl rfl (fun b4 => ?_) | refine o_store TtOk rfl rfl rfl rfl rfl rfl rfl ⟨rfl, rfl⟩ rfl rfl rfl rfl rfl ?_ | (refine o_index rfl TtOk rfl rfl rfl rfl rfl rfl ?_ (getq_nat ?_) ?_; omega; omega) | refine a_condT rfl ?_ | (refine a_condP rfl (fun hc => ?_) (fun hc => ?_)) <;> (try (exfalso; omega)) | refine o_callE rfl (hgd) ⟨nqS, True.intro⟩ rfl ?_)
      exact nq2
    rw [if_pos rfl] at hr
    by_cases h0 : 0 < i
    · rw [dif_pos h0] at hr
      have hj : i - 1 < l.length := by omega
      have hy := hok _ (List.getElem_mem hj)
      have o1 : Spec Tryz.prog 168 [pfxA l[i - 1].n l[i - 1].l, pfxA l[i].n l[i].l] [] _ := bover_spec (l[i - 1]).p (l[i]).p hy.1 hx.1
      have o2 : Spec Tryz.prog 168 [pfxA l[i].n l[i].l, pfxA l[i - 1].n l[i - 1].l] [] _ := bover_spec (l[i]).p (l[i - 1]).p hx.1 hy.1
      have o3 := border_spec (l[i - 1]).l (l[i]).l
      have hb : badI l[i - 1] l[i] = (overP (l[i - 1]).p (l[i]).p || (overP (l[i]).p (l[i - 1]).p || decide (0 ≤ cmpS (l[i - 1]).l (l[i]).l))) := rfl
      rw [hb] at hr
      generalize overP (l[i - 1]).p (l[i]).p = u1 at hr o1
      generalize overP (l[i]).p (l[i - 1]).p = u2 at hr o2
      generalize cmpS (l[i - 1]).l (l[i]).l = c at hr o3
      cases u1
      · cases u2
        · by_cases hc : 0 ≤ c
          · rw [decide_eq_true hc] at hr
            rw [if_pos (by rfl)] at hr
            subst hr
            repeat' (first | refine Awp.seq ?_ | refine Awp.block ?_ | refine Awp.region ?_ | refine Ops.nil (nqA ?_) | refine Awp.skip (nqA ?_) | refine Awp.ret (nqE ?_) | (refine o_sub rfl rfl rfl rfl ?_ ?_; omega) | (refine o_calm rfl TtOk rfl rfl rfl ?_ (fun _ => ?_); exact nd) | refine o_alloc (d := 4) rfl TtOk rfl rfl rfl (fun b4 => ?_) | refine o_alloc (d := 5) rfl TtOk rfl rfl rfl (fun b5 => ?_) | refine o_store TtOk rfl rfl rfl rfl rfl rfl rfl ⟨rfl, rfl⟩ rfl rfl rfl rfl rfl ?_ | (refine o_index rfl TtOk rfl rfl rfl rfl rfl rfl ?_ (getq_nat ?_) ?_; omega; omega) | refine a_condF rfl ?_ | (refine a_condP rfl (fun hc => ?_) (fun hc => ?_)) <;> (try (exfalso; omega)) | (refine o_index rfl TtOk rfl rfl rfl rfl rfl rfl ?_ (getq_as (i-1) ?_ hj) ?_; omega; omega) | refine o_callE rfl (hgd) ⟨nqS, True.intro⟩ rfl ?_ | refine o_callE rfl (o1) ⟨nqS, nqS, True.intro⟩ rfl ?_ | refine o_callE rfl (o2) ⟨nqS, nqS, True.intro⟩ rfl ?_ | refine o_callE rfl (o3) ⟨nqS, nqS, True.intro⟩ rfl ?_)
            exact nq2
          · rw [decide_eq_false hc] at hr
            rw [if_neg (by decide)] at hr
            repeat' (first | refine Awp.seq ?_ | refine Awp.block ?_ | refine Awp.region ?_ | refine Ops.nil (nqA ?_) | refine Ops.nil (nqX ?_) | refine Awp.skip (nqA ?_) | (refine o_add rfl rfl rfl rfl ?_ ?_; omega) | (refine o_sub rfl rfl rfl rfl ?_ ?_; omega) | (refine o_calm rfl TtOk rfl rfl rfl ?_ (fun _ => ?_); exact nd) | refine o_alloc (d := 4) rfl TtOk rfl rfl rfl (fun b4 => ?_) | refine o_alloc (d := 5) rfl TtOk rfl rfl rfl (fun b5 => ?_) | refine o_store TtOk rfl rfl rfl rfl rfl rfl rfl ⟨rfl, rfl⟩ rfl rfl rfl rfl rfl ?_ | (refine o_index rfl TtOk rfl rfl rfl rfl rfl rfl ?_ (getq_nat ?_) ?_; omega; omega) | refine a_condF rfl ?_ | (refine a_condP rfl (fun hc => ?_) (fun hc => ?_)) <;> (try (exfalso; omega)) | (refine o_index rfl TtOk rfl rfl rfl rfl rfl rfl ?_ (getq_as (i-1) ?_ hj) ?_; omega; omega) | refine o_callE rfl (hgd) ⟨nqS, True.intro⟩ rfl ?_ | refine o_callE rfl (o1) ⟨nqS, nqS, True.intro⟩ rfl ?_ | refine o_callE rfl (o2) ⟨nqS, nqS, True.intro⟩ rfl ?_ | refine o_callE rfl (o3) ⟨nqS, nqS, True.intro⟩ rfl ?_)
            exact ⟨i + 1, [], ⟨hlt, hr⟩, by show l.length - (i + 1) < l.length - i; omega, rfl, ⟨sle_i hi1, sle_i rfl, sle_sl rfl, sle_sl rfl, True.intro⟩, .nil⟩
        · rw [if_pos (by rfl)] at hr
          subst hr
          repeat' (first | refine Awp.seq ?_ | refine Awp.block ?_ | refine Awp.region ?_ | refine Ops.nil (nqA ?_) | refine Awp.skip (nqA ?_) | refine Awp.ret (nqE ?_) | (refine o_sub rfl rfl rfl rfl ?_ ?_; omega) | (refine o_calm rfl TtOk rfl rfl rfl ?_ (fun _ => ?_); exact nd) | refine o_alloc (d := 4) rfl TtOk rfl rfl rfl (fun b4 => ?_) | refine o_alloc (d := 5) rfl TtOk rfl rfl rfl (fun b5 => ?_) | refine o_store TtOk rfl rfl rfl rfl rfl rfl rfl ⟨rfl, rfl⟩ rfl rfl rfl rfl rfl ?_ | (refine o_index rfl TtOk rfl rfl rfl rfl rfl rfl ?_ (getq_nat ?_) ?_; omega; omega) | refine a_condT rfl ?_ | refine a_condF rfl ?_ | (refine a_condP rfl (fun hc => ?_) (fun hc => ?_)) <;> (try (exfalso; omega)) | (refine o_index rfl TtOk rfl rfl rfl rfl rfl rfl ?_ (getq_as (i-1) ?_ hj) ?_; omega; omega) | refine o_callE rfl (hgd) ⟨nqS, True.intro⟩ rfl ?_ | refine o_callE rfl (o1) ⟨nqS, nqS, True.intro⟩ rfl ?_ | refine o_callE rfl (o2) ⟨nqS, nqS, True.intro⟩ rfl ?_)
          exact nq2
      · rw [if_pos (by rfl)] at hr
        subst hr
        repeat' (first | refine Awp.seq ?_ | refine Awp.block ?_ | refine Awp.region ?_ | refine Ops.nil (nqA ?_) | refine Awp.skip (nqA ?_) | refine Awp.ret (nqE ?_) | (refine o_sub rfl rfl rfl rfl ?_ ?_; omega) | (refine o_calm rfl TtOk rfl rfl rfl ?_ (fun _ => ?_); exact nd) | refine o_alloc (d := 4) rfl TtOk rfl rfl rfl (fun b4 => ?_) | refine o_alloc (d := 5) rfl TtOk rfl rfl rfl (fun b5 => ?_) | refine o_store TtOk rfl rfl rfl rfl rfl rfl rfl ⟨rfl, rfl⟩ rfl rfl rfl rfl rfl ?_ | (refine o_index rfl TtOk rfl rfl rfl rfl rfl rfl ?_ (getq_nat ?_) ?_; omega; omega) | refine a_condT rfl ?_ | refine a_condF rfl ?_ | (refine a_condP rfl (fun hc => ?_) (fun hc => ?_)) <;> (try (exfalso; omega)) | (refine o_index rfl TtOk rfl rfl rfl rfl rfl rfl ?_ (getq_as (i-1) ?_ hj) ?_; omega; omega) | refine o_callE rfl (hgd) ⟨nqS, True.intro⟩ rfl ?_ | refine o_callE rfl (o1) ⟨nqS, nqS, True.intro⟩ rfl ?_)
        exact nq2
    · have h0 : i = 0 := by omega
      subst h0
      rw [dif_neg (Nat.lt_irrefl _)] at hr
      repeat' (first | refine Awp.seq ?_ | refine Awp.block ?_ | refine Awp.region ?_ | refine Ops.nil (nqA ?_) | refine Ops.nil (nqX ?_) | refine Awp.skip (nqA ?_) | refine Awp.exit (nqA ?_) | (refine o_add rfl rfl rfl rfl ?_ ?_; omega) | (refine o_calm rfl TtOk rfl rfl rfl ?_ (fun _ => ?_); exact nd) | refine o_alloc (d := 4) rfl TtOk rfl rfl rfl (fun b4 => ?_) | refine o_store TtOk rfl rfl rfl rfl rfl rfl rfl ⟨rfl, rfl⟩ rfl rfl rfl rfl rfl ?_ | (refine o_index rfl TtOk rfl rfl rfl rfl rfl rfl ?_ (getq_nat ?_) ?_; omega; omega) | refine a_condT rfl ?_ | refine a_condF rfl ?_ | (refine a_condP rfl (fun hc => ?_) (fun hc => ?_)) <;> (try (exfalso; omega)) | refine o_callE rfl (hgd) ⟨nqS, True.intro⟩ rfl ?_)
      exact ⟨1, [], ⟨hlt, hr⟩, by show l.length - 1 < l.length - 0; omega, rfl, ⟨sle_i rfl, sle_i rfl, sle_sl rfl, sle_sl rfl, True.intro⟩, .nil⟩
  · have hie : i = l.length := by omega
    subst hie
    rw [List.drop_length] at hr
    have hz : ∀ p, chkL p [] = 0 := fun p => by cases p <;> rfl
    rw [hz] at hr
    subst hr
    repeat' (first | refine Awp.seq ?_ | refine Awp.region ?_ | refine Ops.nil (nqA ?_) | refine Awp.exit (nqA ?_) | refine Awp.ret (nqE ?_) | (refine o_calm rfl TtOk rfl rfl rfl ?_ (fun _ => ?_); exact nd) | (refine a_condP rfl (fun hc => ?_) (fun hc => ?_)) <;> (try (exfalso; omega)))
    exact nq2
end Go.Proofs.YtcmgpkibjdbonaaGreat
