/- ref15: Eight, Text, LeafBytes, InnerBytes, Good by rules; ref16: over, Inner, Leaf; law15.Told. -/
import Derived.Test.YtcmgpkibjdbonaaGreatR1
import Derived.Test.YtcmgpkibjdbonaaGreatR2Z
import Derived.Test.YtcmgpkibjdbonaaGreatSR4
set_option maxHeartbeats 8000000
set_option maxRecDepth 100000
namespace Go.Proofs.YtcmgpkibjdbonaaGreat
open Go Go.RowKit
/-- An item as the document's. -/
def Itm.R (x : Itm) : AV := .agg [.i .i64 x.n, labA x.l, labA x.s, .i .i64 x.t]
def egt (U : Nat) : Nat → List UInt8
  | 0 => []
  | i + 1 => UInt8.ofNat (U / 256 ^ i % 256) :: egt U i
def u64N (n : Int) : Nat := (IntKind.u64.wrap n).toNat
theorem u64N_eq (n : Int) : IntKind.u64.wrap n = (u64N n : Nat) := by
  unfold u64N
  have : 0 ≤ IntKind.u64.wrap n := by show 0 ≤ n % 18446744073709551616; omega
  omega
theorem nB_eq (n : Int) (i : Nat) (h : i < 8) : nB n i = UInt8.ofNat (u64N n / 256 ^ (7 - i) % 256) := by
  unfold nB
  rw [u64N_eq, fdiv_pow, show 56 - 8 * i = 8 * (7 - i) by omega, Nat.pow_mul]
  show UInt8.ofNat _ = UInt8.ofNat _
  congr 1
theorem num8_egt (n : Int) : num8 n = egt (u64N n) 8 := by
  unfold num8 nBs
  rw [show List.range 8 = [0, 1, 2, 3, 4, 5, 6, 7] from rfl]
  simp only [List.map_cons, List.map_nil]
  rw [nB_eq n 0 (by decide), nB_eq n 1 (by decide), nB_eq n 2 (by decide), nB_eq n 3 (by decide), nB_eq n 4 (by decide), nB_eq n 5 (by decide), nB_eq n 6 (by decide), nB_eq n 7 (by decide)]
  rfl
theorem egt_len (U : Nat) : ∀ i, (egt U i).length = i
  | 0 => rfl
  | i + 1 => by unfold egt; rw [List.length_cons, egt_len U i]
theorem tmodB (x : Nat) : [AV.i .u8 (IntKind.u8.wrap (Int.tmod (x : Int) 256))] = [UInt8.ofNat (x % 256)].map byA := by
  rw [show Int.tmod (x : Int) 256 = ((x % 256 : Nat) : Int) from rfl, byA_nt]; rfl
theorem tdiv64 (x : Nat) (h : x < 18446744073709551616) : IntKind.u64.wrap (Int.tdiv (x : Int) 256) = ((x / 256 : Nat) : Int) := by
  rw [show Int.tdiv (x : Int) 256 = ((x / 256 : Nat) : Int) from rfl, uwrap_lt (by omega)]
theorem eight_spec (n : Int) : Spec Tryz.prog 175 [.i .i64 n] [] (fun v os => v = .s (num8 n) ∧ os = []) := by
  refine spec_of TtOk [] Tryz.func175 rfl Tryz.ntmps175 (by kernel_rfl) rfl rfl (fun C => ?_) rfl
  rw [num8_egt]
  have hu := u64N_eq n
  have hlt : u64N n < 18446744073709551616 := by
    have : IntKind.u64.wrap n < 18446744073709551616 := by show n % 18446744073709551616 < _; omega
    omega
  generalize u64N n = U at hu hlt ⊢
  repeat' (first | (rw [hu]) | refine Awp.seq ?_ | refine Awp.block ?_ | refine Awp.region ?_ | refine Ops.nil (nqA ?_) | (refine o_calm rfl TtOk rfl rfl rfl ?_ (fun _ => ?_); exact nd))
  refine Awp.loop (fun i : Nat => ⟨22, [(5, .i .i64 i), (4, .i .u64 ((U / 256 ^ i : Nat) : Int)), (3, .s (egt U i))], []⟩) (fun i => i ≤ 8) (fun i => 8 - i) [] 0 (Nat.zero_le _) ?_ ?_
  · exact ⟨rfl, ⟨sle_i rfl, sle_i (by rw [Nat.pow_zero, Nat.div_one]), sle_s rfl, True.intro⟩, .nil⟩
  intro i hi
  have hle : U / 256 ^ i < 18446744073709551616 := Nat.lt_of_le_of_lt (Nat.div_le_self _ _) hlt
  by_cases h8 : i < 8
  · have hq := tdiv64 _ hle
    have hm := tmodB (U / 256 ^ i)
    have hs : egt U (i + 1) = [UInt8.ofNat (U / 256 ^ i % 256)] ++ egt U i := rfl
    have hp : U / 256 ^ (i + 1) = U / 256 ^ i / 256 := by rw [Nat.pow_succ, Nat.div_div_eq_div_mul]
    have hl := egt_len U i
    rw [← hp] at hq
    generalize UInt8.ofNat (U / 256 ^ i % 256) = y at hm hs
    generalize egt U i = E at hs hl ⊢
    generalize ((U / 256 ^ i : Nat) : Int) = z at hq hm ⊢
    repeat' (first | (refine o_toString TtOk rfl rfl rfl rfl rfl (by first | exact True.intro | exact rfl) rfl rfl rfl (s := [y]) hm ?_) | refine Awp.seq ?_ | refine Awp.block ?_ | refine Awp.region ?_ | refine Ops.nil (nqA ?_) | refine Ops.nil (nqX ?_) | refine Awp.skip (nqA ?_) | (refine o_add rfl rfl rfl rfl ?_ ?_; omega) | (refine o_calm rfl TtOk rfl rfl rfl ?_ (fun _ => ?_); exact nd) | (refine o_calm rfl TtOk rfl rfl rfl ?_ (fun _ => ?_); (show List.length _ + List.length _ ≤ 9223372036854775807; (repeat' (first | rw [List.length_append] | rw [List.length_map] | rw [List.length_cons] | rw [List.length_nil] | rw [List.length_take] | rw [List.length_drop])) <;> omega)) | refine o_buildSlice TtOk rfl rfl rfl rfl rfl rfl rfl rfl rfl rfl rfl nq1 (fun _ => ?_) | (refine a_condP rfl (fun hc => ?_) (fun hc => ?_)) <;> (try (exfalso; omega)))
    exact ⟨i + 1, [], by omega, by omega, rfl, ⟨sle_i (by omega), sle_i hq, sle_s (by rw [hs]), True.intro⟩, .nil⟩
  · have hie : i = 8 := by omega
    subst hie
    generalize egt U 8 = E
    repeat' (first | refine Awp.seq ?_ | refine Awp.region ?_ | refine Ops.nil (nqA ?_) | refine Awp.exit (nqA ?_) | refine Awp.ret (nqE ?_) | (refine o_calm rfl TtOk rfl rfl rfl ?_ (fun _ => ?_); exact nd) | refine a_condF rfl ?_)
    exact nq2
theorem rtextI_spec (x : Itm) (hx : x.ok) : Spec Tryz.prog 176 [x.R] [] (fun v os => v = .s (txtI x) ∧ os = []) := by
  obtain ⟨n, l, s, t⟩ := x
  obtain ⟨hl, hs⟩ := hx
  dsimp only at hl hs
  show Spec Tryz.prog 176 [.agg [.i .i64 n, labA l, labA s, .i .i64 t]] [] (fun v os => v = .s (((num8 n ++ l) ++ s) ++ num8 t) ∧ os = [])
  refine spec_of TtOk [] Tryz.func176 rfl Tryz.ntmps176 (by kernel_rfl) rfl rfl (fun C => ?_) rfl
  have h1 := eight_spec n
  have h2 := eight_spec t
  have n1 := num8_len n
  have n2 := num8_len t
  generalize num8 n = a at h1 n1 ⊢
  generalize num8 t = b at h2 n2 ⊢
  repeat' (first | (refine a_freezeV 1 1 rfl rfl rfl ?_) | refine Awp.seq ?_ | refine Awp.region ?_ | refine Ops.nil (nqA ?_) | refine Awp.ret (nqE ?_) | (refine o_calm rfl TtOk rfl rfl rfl ?_ (fun _ => ?_); exact nd) | refine o_box (d := 1) rfl rfl rfl rfl (fun b1 => ?_) | (refine o_calm rfl TtOk rfl rfl rfl ?_ (fun _ => ?_); (show List.length _ + List.length _ ≤ 9223372036854775807; (repeat' (first | rw [List.length_append] | rw [List.length_map] | rw [List.length_cons] | rw [List.length_nil] | rw [List.length_take] | rw [List.length_drop])) <;> omega)) | refine o_sliceCp TtOk rfl rfl rfl rfl rfl rfl ?_ | refine o_toString TtOk rfl rfl rfl rfl rfl (by first | exact True.intro | exact rfl) rfl rfl rfl rfl ?_ | refine a_any 1 [] [] [] [0, 3, 4, 5, 7, 8, 9, 11, 1, 12, 2, 6, 10, 13, 14, 15] (by kernel_rfl) (by kernel_rfl) (by kernel_rfl) rfl rfl rfl ?_ | refine o_callE rfl (h1) ⟨nqS, True.intro⟩ rfl ?_ | refine o_callE rfl (h2) ⟨nqS, True.intro⟩ rfl ?_)
  exact nq2
theorem rleafB_spec (x : Lef) (hx : x.ok) : Spec Tryz.prog 86 [x.A] [] (fun v os => v = .s (leafB x) ∧ os = []) := by
  obtain ⟨l, u, t⟩ := x
  obtain ⟨hl, hu⟩ := hx
  dsimp only at hl hu
  show Spec Tryz.prog 86 [.agg [labA l, labA u, .i .i64 t]] [] (fun v os => v = .s (jnB 16 [l, u, num8 t]) ∧ os = [])
  refine spec_of TtOk [] Tryz.func86 rfl Tryz.ntmps86 (by kernel_rfl) rfl rfl (fun C => ?_) rfl
  have h1 := eight_spec t
  have n1 := num8_len t
  generalize num8 t = a at h1 n1 ⊢
  have h2 := rbytes_spec 16 [l, u, a] (show 3 ≤ 1000 by decide) (fun q hq => by
    rcases List.mem_cons.1 hq with rfl | hq
    · omega
    · rcases List.mem_cons.1 hq with rfl | hq
      · omega
      · have := List.mem_singleton.1 hq; subst this; omega)
  repeat' (first | (refine o_freezeR 12 12 rfl rfl rfl ?_) | (refine a_freezeV 1 1 rfl rfl rfl ?_) | refine Awp.seq ?_ | refine Awp.region ?_ | refine Ops.nil (nqA ?_) | refine Awp.ret (nqE ?_) | (refine o_calm rfl TtOk rfl rfl rfl ?_ (fun _ => ?_); exact nd) | refine o_box (d := 1) rfl rfl rfl rfl (fun b1 => ?_) | refine o_buildSlice TtOk rfl rfl rfl rfl rfl rfl rfl rfl rfl rfl rfl nq1 (fun _ => ?_) | refine o_sliceCp TtOk rfl rfl rfl rfl rfl rfl ?_ | refine o_toString TtOk rfl rfl rfl rfl rfl (by first | exact True.intro | exact rfl) rfl rfl rfl rfl ?_ | refine a_any 1 [] [] [] [0, 1, 2, 3, 4, 5, 6, 7, 8, 9, 10, 11] (by kernel_rfl) (by kernel_rfl) (by kernel_rfl) rfl rfl rfl ?_ | refine o_callE rfl (h1) ⟨nqS, True.intro⟩ rfl ?_ | refine o_callE rfl (h2) ⟨nqS, nqS, True.intro⟩ rfl ?_)
  exact nq2
theorem rinnB_spec (x y : Itm) (hx : x.ok) (hy : y.ok) : Spec Tryz.prog 89 [x.R, y.R] [] (fun v os => v = .s (innB x y) ∧ os = []) := by
  refine spec_of TtOk [] Tryz.func89 rfl Tryz.ntmps89 (by kernel_rfl) rfl rfl (fun C => ?_) rfl
  have h1 := rtextI_spec x hx
  have h2 := rtextI_spec y hy
  have l1 := txtI_len x hx
  have l2 := txtI_len y hy
  have hi : innB x y = jnB 17 [txtI x, txtI y] := rfl
  rw [hi]
  generalize txtI x = a at h1 l1 ⊢
  generalize txtI y = b at h2 l2 ⊢
  have h3 := rbytes_spec 17 [a, b] (show 2 ≤ 1000 by decide) (fun q hq => by
    rcases List.mem_cons.1 hq with rfl | hq
    · omega
    · have := List.mem_singleton.1 hq; subst this; omega)
  repeat' (first | (refine o_freezeR 9 9 rfl rfl rfl ?_) | refine Awp.seq ?_ | refine Awp.region ?_ | refine Ops.nil (nqA ?_) | refine Awp.ret (nqE ?_) | (refine o_calm rfl TtOk rfl rfl rfl ?_ (fun _ => ?_); exact nd) | refine o_box (d := 2) rfl rfl rfl rfl (fun b2 => ?_) | refine o_box (d := 3) rfl rfl rfl rfl (fun b3 => ?_) | refine o_buildSlice TtOk rfl rfl rfl rfl rfl rfl rfl rfl rfl rfl rfl nq1 (fun _ => ?_) | refine a_any 1 [] [] [] [0, 2, 1, 3, 4, 5, 6] (by kernel_rfl) (by kernel_rfl) (by kernel_rfl) rfl rfl rfl ?_ | refine o_callE rfl (h1) ⟨nqS, True.intro⟩ rfl ?_ | refine o_callE rfl (h2) ⟨nqS, True.intro⟩ rfl ?_ | refine o_callE rfl (h3) ⟨nqS, nqS, True.intro⟩ rfl ?_)
  exact nq2
theorem rgood15_spec (x : Itm) (hx : x.ok) : Spec Tryz.prog 121 [x.R] [] (fun v os => v = .b (goodI x) ∧ os = []) := by
  have h1 := rgood1_spec x.n x.l hx.1
  have hg : goodI x = (goodP ⟨x.n, x.l⟩ && (decide (0 ≤ x.t) && decide (x.t ≤ 1073741824))) := rfl
  rw [hg]
  generalize goodP ⟨x.n, x.l⟩ = g at h1
  obtain ⟨n, l, s, t⟩ := x
  dsimp only at h1 ⊢
  show Spec Tryz.prog 121 [.agg [.i .i64 n, labA l, labA s, .i .i64 t]] [] _
  refine spec_of TtOk [] Tryz.func121 rfl Tryz.ntmps121 (by kernel_rfl) rfl rfl (fun C => ?_) rfl
  cases g
  · repeat' (first | refine Awp.seq ?_ | refine Awp.region ?_ | refine Ops.nil (nqA ?_) | refine Awp.ret (nqE ?_) | refine o_noT rfl rfl rfl ?_ | (refine o_calm rfl TtOk rfl rfl rfl ?_ (fun _ => ?_); exact nd) | refine o_box (d := 1) rfl rfl rfl rfl (fun b1 => ?_) | refine o_callE rfl (h1) ⟨nqS, nqS, True.intro⟩ rfl ?_)
    exact nq2
  · by_cases ht : 0 ≤ t
    · rw [decide_eq_true ht]
      repeat' (first | refine Awp.seq ?_ | refine Awp.region ?_ | refine Ops.nil (nqA ?_) | refine Awp.ret (nqE ?_) | (refine o_calm rfl TtOk rfl rfl rfl ?_ (fun _ => ?_); exact nd) | refine o_box (d := 1) rfl rfl rfl rfl (fun b1 => ?_) | (fail_if_success (refine o_isLit rfl (by first | exact .inl rfl | exact .inr rfl) ?_)); (refine o_splitP rfl rfl (fun hc => ?_) (fun hc => ?_) <;> try (exfalso; omega)) | refine o_callE rfl (h1) ⟨nqS, nqS, True.intro⟩ rfl ?_)
      exact nq2
    · rw [decide_eq_false ht]
      repeat' (first | refine Awp.seq ?_ | refine Awp.region ?_ | refine Ops.nil (nqA ?_) | refine Awp.ret (nqE ?_) | refine o_noT rfl rfl rfl ?_ | (refine o_calm rfl TtOk rfl rfl rfl ?_ (fun _ => ?_); exact nd) | refine o_box (d := 1) rfl rfl rfl rfl (fun b1 => ?_) | (fail_if_success (refine o_isLit rfl (by first | exact .inl rfl | exact .inr rfl) ?_)); (refine o_splitP rfl rfl (fun hc => ?_) (fun hc => ?_) <;> try (exfalso; omega)) | refine o_callE rfl (h1) ⟨nqS, nqS, True.intro⟩ rfl ?_)
      exact nq2
def overR (a b : Itm) : Bool := decide (a.n ≤ b.n) && decide ((comL a.l b.l : Nat) ≥ a.n)
theorem rover_spec (x y : Itm) (hx : x.ok) (hy : y.ok) : Spec Tryz.prog 158 [x.R, y.R] [] (fun v os => v = .b (overR x y) ∧ os = []) := by
  have h1 := rcommon_spec x.l y.l hx.1 hy.1
  have ho : overR x y = (decide (x.n ≤ y.n) && decide ((comL x.l y.l : Nat) ≥ x.n)) := rfl
  rw [ho]
  generalize comL x.l y.l = c at h1
  obtain ⟨n, l, s, t⟩ := x
  obtain ⟨n2, l2, s2, t2⟩ := y
  dsimp only at h1 ⊢
  show Spec Tryz.prog 158 [.agg [.i .i64 n, labA l, labA s, .i .i64 t], .agg [.i .i64 n2, labA l2, labA s2, .i .i64 t2]] [] _
  refine spec_of TtOk [] Tryz.func158 rfl Tryz.ntmps158 (by kernel_rfl) rfl rfl (fun C => ?_) rfl
  by_cases hn : n ≤ n2
  · rw [decide_eq_true hn]
    repeat' (first | refine Awp.seq ?_ | refine Awp.region ?_ | refine Ops.nil (nqA ?_) | refine Awp.ret (nqE ?_) | (refine o_calm rfl TtOk rfl rfl rfl ?_ (fun _ => ?_); exact nd) | refine o_box (d := 2) rfl rfl rfl rfl (fun b2 => ?_) | refine o_box (d := 3) rfl rfl rfl rfl (fun b3 => ?_) | (fail_if_success (refine o_isLit rfl (by first | exact .inl rfl | exact .inr rfl) ?_)); (refine o_splitP rfl rfl (fun hc => ?_) (fun hc => ?_) <;> try (exfalso; omega)) | refine a_any 1 [] [] [] [0, 2, 1, 3, 4, 5, 6, 8, 11, 7, 9, 12, 10, 13, 14, 15] (by kernel_rfl) (by kernel_rfl) (by kernel_rfl) rfl rfl rfl ?_ | refine o_callE rfl (h1) ⟨nqS, nqS, True.intro⟩ rfl ?_)
    exact nq2
  · rw [decide_eq_false hn]
    repeat' (first | refine Awp.seq ?_ | refine Awp.region ?_ | refine Ops.nil (nqA ?_) | refine Awp.ret (nqE ?_) | refine o_noT rfl rfl rfl ?_ | (refine o_calm rfl TtOk rfl rfl rfl ?_ (fun _ => ?_); exact nd) | refine o_box (d := 2) rfl rfl rfl rfl (fun b2 => ?_) | refine o_box (d := 3) rfl rfl rfl rfl (fun b3 => ?_) | (fail_if_success (refine o_isLit rfl (by first | exact .inl rfl | exact .inr rfl) ?_)); (refine o_splitP rfl rfl (fun hc => ?_) (fun hc => ?_) <;> try (exfalso; omega)) | refine a_any 1 [] [] [] [0, 2, 1, 3, 4, 5, 6, 8, 11, 7, 9, 12, 10, 13, 14, 15] (by kernel_rfl) (by kernel_rfl) (by kernel_rfl) rfl rfl rfl ?_)
    exact nq2
theorem rinner_spec (x y : Itm) (hx : x.ok) (hy : y.ok) : Spec Tryz.prog 90 [x.R, y.R] [] (fun v os => v = (innI x y).R ∧ os = []) := by
  have h1 := rcommon_spec x.l y.l hx.1 hy.1
  have hcl : clamp ((comL x.l y.l : Nat) : Int) = comL x.l y.l := by have := comL_256 (b := y.l) hx.1; unfold clamp; omega
  have h2 := rcut_spec x.l hx.1 ((comL x.l y.l : Nat) : Int)
  rw [hcl] at h2
  have h3 := rinnB_spec x y hx hy
  have h4 := rsum_spec (innB x y) (by have := innB_len x y hx hy; omega)
  have hA : (innI x y).R = .agg [.i .i64 (comL x.l y.l : Nat), labA (cutL x.l (comL x.l y.l)), labA (shaN (innB x y)), .i .i64 (if y.t > x.t then y.t else x.t)] := rfl
  rw [hA]
  generalize innB x y = b at h3 h4
  generalize shaN b = s at h4
  generalize comL x.l y.l = c at h1 h2
  generalize cutL x.l c = cl at h2
  obtain ⟨n, l, s1, t⟩ := x
  obtain ⟨n2, l2, s2, t2⟩ := y
  dsimp only at h1 h2 ⊢
  have h3 : Spec Tryz.prog 89 [.agg [.i .i64 n, labA l, labA s1, .i .i64 t], .agg [.i .i64 n2, labA l2, labA s2, .i .i64 t2]] [] (fun v os => v = .s b ∧ os = []) := h3
  show Spec Tryz.prog 90 [.agg [.i .i64 n, labA l, labA s1, .i .i64 t], .agg [.i .i64 n2, labA l2, labA s2, .i .i64 t2]] [] _
  refine spec_of TtOk [] Tryz.func90 rfl Tryz.ntmps90 (by kernel_rfl) rfl rfl (fun C => ?_) rfl
  repeat' (first | refine Awp.seq ?_ | refine Awp.region ?_ | refine Ops.nil (nqA ?_) | refine Awp.ret (nqE ?_) | (refine o_calm rfl TtOk rfl rfl rfl ?_ (fun _ => ?_); exact nd) | refine o_alloc (d := 4) rfl TtOk rfl rfl rfl (fun b4 => ?_) | refine o_box (d := 2) rfl rfl rfl rfl (fun b2 => ?_) | refine o_box (d := 3) rfl rfl rfl rfl (fun b3 => ?_) | refine o_store TtOk rfl rfl rfl rfl rfl rfl rfl ⟨rfl, rfl⟩ rfl rfl rfl rfl rfl ?_ | refine o_build TtOk rfl rfl rfl rfl rfl rfl nq1 ?_ | refine a_any 2 [4] [13, 16, 17, 21, 23] [15, 18, 19] [0, 1, 3, 9, 11, 2, 5, 6, 10, 12, 13, 4, 7, 8, 14, 15] (by kernel_rfl) (by kernel_rfl) (by kernel_rfl) rfl rfl rfl ?_ | refine o_callE rfl (h1) ⟨nqS, nqS, True.intro⟩ rfl ?_ | refine o_callE rfl (h2) ⟨nqS, nqS, True.intro⟩ rfl ?_ | refine o_callE rfl (h3) ⟨nqS, nqS, True.intro⟩ rfl ?_ | refine o_callE rfl (h4) ⟨nqS, True.intro⟩ rfl ?_)
  all_goals
    refine end_all [] [] (.agg [.i .i64 (c : Nat), labA cl, labA s, .i .i64 (if t2 > t then t2 else t)]) rfl ?_ ?_ (rle_one (CLe.of_eq rfl) rfl) .nil ⟨rfl, rfl⟩ _ (.inl rfl)
    · exact nq1
    · exact ⟨trivial, trivial⟩
theorem rleaf_spec (x : Lef) (hx : x.ok) : Spec Tryz.prog 87 [x.A] [] (fun v os => v = (leafI x).R ∧ os = []) := by
  have h2 := rleafB_spec x hx
  have h3 := rsum_spec (leafB x) (by have := leafB_len x hx; omega)
  have hA : (leafI x).R = .agg [.i .i64 256, labA x.l, labA (shaN (leafB x)), .i .i64 x.t] := rfl
  rw [hA]
  generalize leafB x = b at h2 h3
  generalize shaN b = s at h3
  obtain ⟨l, u, t⟩ := x
  have h2 : Spec Tryz.prog 86 [.agg [labA l, labA u, .i .i64 t]] [] (fun v os => v = .s b ∧ os = []) := h2
  show Spec Tryz.prog 87 [.agg [labA l, labA u, .i .i64 t]] [] _
  refine spec_of TtOk [] Tryz.func87 rfl Tryz.ntmps87 (by kernel_rfl) rfl rfl (fun C => ?_) rfl
  repeat' (first | refine Awp.seq ?_ | refine Awp.region ?_ | refine Ops.nil (nqA ?_) | refine Awp.ret (nqE ?_) | (refine o_calm rfl TtOk rfl rfl rfl ?_ (fun _ => ?_); exact nd) | refine o_alloc (d := 2) rfl TtOk rfl rfl rfl (fun b2 => ?_) | refine o_box (d := 1) rfl rfl rfl rfl (fun b1 => ?_) | refine o_store TtOk rfl rfl rfl rfl rfl rfl rfl ⟨rfl, rfl⟩ rfl rfl rfl rfl rfl ?_ | refine o_build TtOk rfl rfl rfl rfl rfl rfl nq1 ?_ | refine a_any 1 [2] [4, 5, 9] [6, 7] [0, 5, 1, 2, 6, 3, 4, 7, 8] (by kernel_rfl) (by kernel_rfl) (by kernel_rfl) rfl rfl rfl ?_ | refine o_callE rfl (h2) ⟨nqS, True.intro⟩ rfl ?_ | refine o_callE rfl (h3) ⟨nqS, True.intro⟩ rfl ?_)
  refine end_all [] [] (.agg [.i .i64 256, labA l, labA s, .i .i64 t]) rfl ?_ ?_ (rle_one (CLe.of_eq rfl) rfl) .nil ⟨rfl, rfl⟩ _ (.inl rfl)
  · exact nq1
  · exact ⟨trivial, trivial⟩
theorem told15_spec (x : Itm) : Spec Tryz.prog 74 [x.A] [] (fun v os => v = x.R ∧ os = []) := by
  obtain ⟨n, l, s, t⟩ := x
  show Spec Tryz.prog 74 [.agg [pfxA n l, labA s, .i .i64 t]] [] (fun v os => v = .agg [.i .i64 n, labA l, labA s, .i .i64 t] ∧ os = [])
  refine spec_of TtOk [] Tryz.func74 rfl Tryz.ntmps74 (by kernel_rfl) rfl rfl (fun C => ?_) rfl
  repeat' (first | refine Awp.seq ?_ | refine Awp.region ?_ | refine Ops.nil (nqA ?_) | refine Awp.ret (nqE ?_) | (refine o_calm rfl TtOk rfl rfl rfl ?_ (fun _ => ?_); exact nd) | refine o_alloc (d := 2) rfl TtOk rfl rfl rfl (fun b2 => ?_) | refine o_box (d := 1) rfl rfl rfl rfl (fun b1 => ?_) | refine o_store TtOk rfl rfl rfl rfl rfl rfl rfl ⟨rfl, rfl⟩ rfl rfl rfl rfl rfl ?_ | refine o_build TtOk rfl rfl rfl rfl rfl rfl nq1 ?_)
  refine end_all [] [] (.agg [.i .i64 n, labA l, labA s, .i .i64 t]) rfl ?_ ?_ (rle_one (CLe.of_eq rfl) rfl) .nil ⟨rfl, rfl⟩ _ (.inl rfl)
  · exact nq1
  · exact ⟨trivial, trivial⟩
end Go.Proofs.YtcmgpkibjdbonaaGreat
set_option maxHeartbeats 8000000
set_option maxRecDepth 100000
namespace Go.Proofs.YtcmgpkibjdbonaaGreat
open Go Go.RowKit
theorem com_mono {a b c : List UInt8} (ha : a.length = 32) (hb : b.length = 32) (hc : c.length = 32) (h : cmpS a b < 0) (k : cmpS b c < 0) : comL a c ≤ comL a b :=
  (com_ge ha hb (comL_256 ha)).2 (fun i hi => (between ha hb hc h k i hi).symm)
/-- The least that is in common with the first one, of so many. -/
def minC (l : List Itm) (i : Nat) : Nat := if i = 0 then 256 else comL (l.headD default).l ((l.getD (i - 1) default).l)
theorem minC_succ {l : List Itm} (hr : RiseI l) (hok : ∀ x ∈ l, x.ok) {i : Nat} (hi : i < l.length) : (if ((comL (l.headD default).l l[i].l : Nat) : Int) < ((minC l i : Nat) : Int) then ((comL (l.headD default).l l[i].l : Nat) : Int) else ((minC l i : Nat) : Int)) = ((minC l (i + 1) : Nat) : Int) := by
  have h0 : 0 < l.length := by omega
  have e1 : minC l (i + 1) = comL (l.headD default).l l[i].l := by
    unfold minC
    rw [if_neg (by omega), Nat.add_sub_cancel, List.getD_eq_getElem?_getD, List.getElem?_eq_getElem hi]; rfl
  have hh : l.headD default = l[0] := headD_get h0
  rw [e1]
  have o0 := (hok _ (List.getElem_mem h0)).1
  have hle : comL (l.headD default).l l[i].l ≤ minC l i := by
    unfold minC
    split
    · rw [hh]; exact comL_256 o0
    · rename_i hne
      have e2 : (l.getD (i - 1) default) = l[i - 1]'(by omega) := by rw [List.getD_eq_getElem?_getD, List.getElem?_eq_getElem (by omega)]; rfl
      rw [e2, hh]
      rcases Nat.eq_zero_or_pos (i - 1) with h1 | h1
      · have : l[i - 1]'(by omega) = l[0] := by congr 1
        rw [this, com_self, o0]
        exact comL_256 o0
      · exact com_mono o0 (hok _ (List.getElem_mem _)).1 (hok _ (List.getElem_mem _)).1 (rise_lt hr h1 (by omega)) (rise_lt hr (by omega) hi)
  split <;> omega
theorem minC_all {l : List Itm} (h : 2 ≤ l.length) : minC l l.length = frkI l := by
  unfold minC frkI
  rw [if_neg (by omega), lastD_get (by omega), List.getD_eq_getElem?_getD, List.getElem?_eq_getElem (by omega)]; rfl
theorem filt_lo {l : List Itm} (hr : RiseI l) (hok : ∀ x ∈ l, x.ok) (h2 : 2 ≤ l.length) : l.filter (fun x => bitL x.l (frkI l) == 0) = l.take (splI l) ∧ l.filter (fun x => !(bitL x.l (frkI l) == 0)) = l.drop (splI l) := by
  obtain ⟨c1, c2, c3, c4⟩ := spl_ok hr hok h2
  have hlo : ∀ x ∈ l.take (splI l), bitL x.l (frkI l) = 0 := fun x hx => by
    obtain ⟨j, hj, rfl⟩ := List.getElem_of_mem hx
    rw [List.length_take] at hj
    rw [List.getElem_take]
    exact spl_lo j (by omega) (by omega)
  have hhi : ∀ x ∈ l.drop (splI l), bitL x.l (frkI l) = 1 := fun x hx => by
    obtain ⟨j, hj, rfl⟩ := List.getElem_of_mem hx
    rw [List.length_drop] at hj
    rw [List.getElem_drop]
    exact spl_hi hr hok h2 _ (by omega) (by omega)
  generalize frkI l = n at *
  generalize splI l = s at *
  have e : l = l.take s ++ l.drop s := (List.take_append_drop s l).symm
  constructor
  · conv => lhs; rw [e]
    rw [List.filter_append, List.filter_eq_self.2 (fun x hx => by rw [hlo x hx]; rfl), List.filter_eq_nil_iff.2 (fun x hx => by rw [hhi x hx]; decide), List.append_nil]
  · conv => lhs; rw [e]
    rw [List.filter_append, List.filter_eq_nil_iff.2 (fun x hx => by rw [hlo x hx]; decide), List.filter_eq_self.2 (fun x hx => by rw [hhi x hx]; rfl), List.nil_append]
theorem filt_succ {α : Type} (p : α → Bool) (l : List α) {i : Nat} (hi : i < l.length) : (l.take (i + 1)).filter p = if p l[i] = true then (l.take i).filter p ++ [l[i]] else (l.take i).filter p := by
  rw [List.take_succ_eq_append_getElem hi, List.filter_append]
  by_cases h : p l[i] = true
  · rw [if_pos h, List.filter_cons_of_pos h, List.filter_nil]
  · rw [if_neg h, List.filter_cons_of_neg h, List.filter_nil, List.append_nil]
theorem rjoin_spec : ∀ (k : Nat) (l : List Itm), l ≠ [] → l.length ≤ k → l.length ≤ 100000 → RiseI l → (∀ x ∈ l, x.ok) → Spec Tryz.prog 64 [.sl 66 (l.map Itm.R)] [] (fun v os => v = (joinF k l).R ∧ os = [])
  | 0, l, hn, hl, _, _, _ => absurd (List.length_eq_zero_iff.1 (by omega)) hn
  | k + 1, l, hn, hl, hl2, hr, hok => by
    have hp : 0 < l.length := List.length_pos_iff.2 hn
    unfold joinF
    refine spec_of TtOk [] Tryz.func64 rfl Tryz.ntmps64 (by kernel_rfl) rfl rfl (fun C => ?_) rfl
    by_cases h1 : l.length = 1
    · rw [if_pos h1, headD_get hp]
      repeat' (first | refine Awp.seq ?_ | refine Awp.region ?_ | refine Ops.nil (nqA ?_) | refine Awp.ret (nqE ?_) | refine o_len rfl TtOk rfl rfl rfl (fun _ => ?_) | (refine o_calm rfl TtOk rfl rfl rfl ?_ (fun _ => ?_); exact nd) | refine o_alloc (d := 2) rfl TtOk rfl rfl rfl (fun b2 => ?_) | refine o_store TtOk rfl rfl rfl rfl rfl rfl rfl ⟨rfl, rfl⟩ rfl rfl rfl rfl rfl ?_ | (refine o_index rfl TtOk rfl rfl rfl rfl rfl rfl ?_ (getq_nat ?_) ?_; omega; omega) | (refine a_condP rfl (fun hc => ?_) (fun hc => ?_)) <;> (try (exfalso; omega)))
      refine end_all [] [] (l[0].R) rfl ?_ ?_ (rle_one (CLe.of_eq rfl) rfl) .nil ⟨rfl, rfl⟩ _ (.inl rfl)
      · exact nq1
      · exact ⟨trivial, trivial⟩
    rw [if_neg h1]
    have hl2' : 2 ≤ l.length := by omega
    obtain ⟨hf, s1, s2, s3⟩ := spl_ok hr hok hl2'
    obtain ⟨f1, f2⟩ := filt_lo hr hok hl2'
    have n1 : l.take (splI l) ≠ [] := take_ne s1 s2
    have n2 : l.drop (splI l) ≠ [] := drop_ne s2
    have r1 : RiseI (l.take (splI l)) := hr.sublist (List.take_sublist ..)
    have r2 : RiseI (l.drop (splI l)) := hr.sublist (List.drop_sublist ..)
    have k1 : ∀ x ∈ l.take (splI l), x.ok := fun x hx => hok x (List.mem_of_mem_take hx)
    have k2 : ∀ x ∈ l.drop (splI l), x.ok := fun x hx => hok x (List.mem_of_mem_drop hx)
    have l1 : (l.take (splI l)).length ≤ k := by rw [List.length_take]; omega
    have l2 : (l.drop (splI l)).length ≤ k := by rw [List.length_drop]; omega
    have j1 := rjoin_spec k (l.take (splI l)) n1 l1 (by rw [List.length_take]; omega) r1 k1
    have j2 := rjoin_spec k (l.drop (splI l)) n2 l2 (by rw [List.length_drop]; omega) r2 k2
    have i1 := rinner_spec _ _ (joinF_ok k _ n1 l1 r1 k1) (joinF_ok k _ n2 l2 r2 k2)
    generalize joinF k (l.take (splI l)) = x at j1 i1 ⊢
    generalize joinF k (l.drop (splI l)) = y at j2 i1 ⊢
    rw [← f1] at j1
    rw [← f2] at j2
    clear r1 r2 k1 k2 l1 l2 n1 n2 f1 f2 s3
    repeat' (first | refine Awp.seq ?_ | refine Awp.block ?_ | refine Awp.region ?_ | refine Ops.nil (nqA ?_) | refine Awp.skip (nqA ?_) | refine o_len rfl TtOk rfl rfl rfl (fun _ => ?_) | (refine o_calm rfl TtOk rfl rfl rfl ?_ (fun _ => ?_); exact nd) | refine o_alloc (d := 2) rfl TtOk rfl rfl rfl (fun b2 => ?_) | (refine a_condP rfl (fun hc => ?_) (fun hc => ?_)) <;> (try (exfalso; omega)))
    refine Awp.loop (fun i : Nat => ⟨64, [(18, .i .i64 i), (17, .i .i64 l.length), (16, .sl 66 (l.map Itm.R)), (3, .i .i64 (minC l i : Nat)), (0, .sl 66 (l.map Itm.R)), (2, .ptr 2 b2 [] 0)], [(2, .var b2 (.agg [.i .i64 0, .arr 1 32 (List.replicate 32 (.i .u8 0)), .arr 1 32 (List.replicate 32 (.i .u8 0)), .i .i64 0]))]⟩) (fun i => i ≤ l.length) (fun i => l.length - i) [] 0 (Nat.zero_le _) ?_ ?_
    · exact ⟨rfl, ⟨sle_i rfl, sle_i rfl, sle_sl rfl, sle_i rfl, sle_sl rfl, sle_ptr, True.intro⟩, HLe.cons 2 rfl (HOLe.refl _) .nil⟩
    intro i hi
    by_cases hlt : i < l.length
    · have hcm := rcommon_spec (l[0]'hp).l l[i].l (hok _ (List.getElem_mem hp)).1 (hok _ (List.getElem_mem hlt)).1
      have hms := minC_succ hr hok hlt
      rw [headD_get hp] at hms
      have hi1 : ((i : Int) + 1 = ((i + 1 : Nat) : Int)) := by omega
      generalize comL (l[0]'hp).l l[i].l = c at hcm hms
      clear j1 j2 i1
      generalize ((minC l i : Nat) : Int) = m at hms ⊢
      repeat' (first | refine Awp.seq ?_ | refine Awp.block ?_ | refine Awp.region ?_ | refine Ops.nil (nqA ?_) | refine Ops.nil (nqX ?_) | refine Awp.skip (nqA ?_) | (refine o_add rfl rfl rfl rfl ?_ ?_; omega) | (refine o_calm rfl TtOk rfl rfl rfl ?_ (fun _ => ?_); exact nd) | refine o_alloc (d := 5) rfl TtOk rfl rfl rfl (fun b5 => ?_) | refine o_store TtOk rfl rfl rfl rfl rfl rfl rfl ⟨rfl, rfl⟩ rfl rfl rfl rfl rfl ?_ | (refine o_index rfl TtOk rfl rfl rfl rfl rfl rfl ?_ (getq_nat ?_) ?_; omega; omega) | (refine a_condP rfl (fun hc => ?_) (fun hc => ?_)) <;> (try (exfalso; omega)) | refine a_any 7 [] [] [] [0, 1, 2, 3, 5, 4, 6, 7, 8, 9] (by kernel_rfl) (by kernel_rfl) (by kernel_rfl) rfl rfl rfl ?_ | refine o_callE rfl (hcm) ⟨nqS, nqS, True.intro⟩ rfl ?_)
      exact ⟨i + 1, [], hlt, by omega, rfl, ⟨sle_i hi1, sle_i rfl, sle_sl rfl, sle_i hms, sle_sl rfl, sle_ptr, True.intro⟩, HLe.cons 2 rfl (HOLe.refl _) .nil⟩
    · have hie : i = l.length := by omega
      subst hie
      have hma := minC_all hl2'
      rw [hma]
      have hbt : ∀ (i : Nat) (h : i < l.length), Spec Tryz.prog 93 [labA l[i].l, .i .i64 (frkI l : Nat)] [] (fun v os => v = .i .i64 (bitL l[i].l (frkI l) : Nat) ∧ os = []) := fun i h => rbit_spec _ (hok _ (List.getElem_mem h)).1 _ hf
      have hfs := fun (p : Itm → Bool) (i : Nat) (h : i < l.length) => filt_succ p l h
      have hfl : ∀ (p : Itm → Bool) (i : Nat), ((l.take i).filter p).length ≤ l.length := fun p i => Nat.le_trans (List.length_filter_le ..) (by rw [List.length_take]; omega)
      clear hma
      generalize frkI l = n at *
      repeat' (first | refine Awp.seq ?_ | refine Awp.block ?_ | refine Awp.region ?_ | refine Ops.nil (nqA ?_) | refine Awp.skip (nqA ?_) | refine Awp.exit (nqA ?_) | refine o_len rfl TtOk rfl rfl rfl (fun _ => ?_) | (refine o_calm rfl TtOk rfl rfl rfl ?_ (fun _ => ?_); exact nd) | refine o_buildSlice (d := 37) TtOk rfl rfl rfl rfl rfl rfl rfl rfl rfl rfl rfl nq1 (fun v37 => ?_) | refine o_buildSlice (d := 38) TtOk rfl rfl rfl rfl rfl rfl rfl rfl rfl rfl rfl nq1 (fun v38 => ?_) | (refine a_condP rfl (fun hc => ?_) (fun hc => ?_)) <;> (try (exfalso; omega)))
      refine Awp.loop (fun q : Nat × Value × Value => ⟨64, [(41, .i .i64 q.1), (40, .i .i64 l.length), (39, .sl 66 (l.map Itm.R)), (3, .i .i64 (n : Nat)), (6, .own 37 q.2.1), (7, .own 38 q.2.2), (2, .ptr 2 b2 [] 0)], [(37, .row q.2.1 62 66 (((l.take q.1).filter (fun x => bitL x.l n == 0)).map Itm.R)), (38, .row q.2.2 62 66 (((l.take q.1).filter (fun x => !(bitL x.l n == 0))).map Itm.R)), (2, .var b2 (.agg [.i .i64 0, .arr 1 32 (List.replicate 32 (.i .u8 0)), .arr 1 32 (List.replicate 32 (.i .u8 0)), .i .i64 0]))]⟩) (fun q => q.1 ≤ l.length) (fun q => l.length - q.1) [] (0, v37, v38) (Nat.zero_le _) ?_ ?_
      · exact ⟨rfl, ⟨sle_i rfl, sle_i rfl, sle_sl rfl, sle_i rfl, sle_own, sle_own, sle_ptr, True.intro⟩, HLe.cons 37 rfl (HOLe.refl _) (HLe.cons 38 rfl (HOLe.refl _) (HLe.cons 2 rfl (HOLe.refl _) .nil))⟩
      rintro ⟨i, u, v⟩ hi
      dsimp only at hi ⊢
      by_cases hlt : i < l.length
      · have hi1 : ((i : Int) + 1 = ((i + 1 : Nat) : Int)) := by omega
        have g1 := hfs (fun x => bitL x.l n == 0) i hlt
        have g2 := hfs (fun x => !(bitL x.l n == 0)) i hlt
        have g3 := hfl (fun x => bitL x.l n == 0) i
        have g4 := hfl (fun x => !(bitL x.l n == 0)) i
        have hb := hbt i hlt
        clear hfs hfl hbt j1 j2 i1
        generalize (l.take i).filter (fun x => bitL x.l n == 0) = A at g1 g3 ⊢
        generalize (l.take i).filter (fun x => !(bitL x.l n == 0)) = B at g2 g4 ⊢
        have hx01 := bitL_or l[i].l n
        generalize bitL l[i].l n = z at hb hx01 g1 g2
        rcases hx01 with rfl | rfl
        · rw [if_pos (by rfl)] at g1
          rw [if_neg (by decide)] at g2
          repeat' (first | refine Awp.seq ?_ | refine Awp.block ?_ | refine Awp.region ?_ | refine Ops.nil (nqA ?_) | refine Ops.nil (nqX ?_) | refine Awp.skip (nqA ?_) | (refine o_add rfl rfl rfl rfl ?_ ?_; omega) | (refine o_calm rfl TtOk rfl rfl rfl ?_ (fun _ => ?_); exact nd) | refine o_alloc (d := 9) rfl TtOk rfl rfl rfl (fun b9 => ?_) | refine o_store TtOk rfl rfl rfl rfl rfl rfl rfl ⟨rfl, rfl⟩ rfl rfl rfl rfl rfl ?_ | (refine o_index rfl TtOk rfl rfl rfl rfl rfl rfl ?_ (getq_nat ?_) ?_; omega; omega) | refine o_buildSlice TtOk rfl rfl rfl rfl rfl rfl rfl rfl rfl rfl rfl nq1 (fun _ => ?_) | (refine o_append TtOk rfl rfl rfl rfl rfl rfl rfl rfl rfl (by first | exact True.intro | exact rfl) rfl rfl (fun _ => rfl) ?_ ?_ (fun _ => ?_); ((repeat' (first | rw [List.length_append] | rw [List.length_map] | rw [List.length_cons] | rw [List.length_nil] | rw [List.length_take] | rw [List.length_drop])) <;> omega); ((repeat' (first | rw [List.length_append] | rw [List.length_map] | rw [List.length_cons] | rw [List.length_nil] | rw [List.length_take] | rw [List.length_drop])) <;> omega)) | refine a_condT rfl ?_ | (refine a_condP rfl (fun hc => ?_) (fun hc => ?_)) <;> (try (exfalso; omega)) | refine o_callE rfl (hb) ⟨nqS, nqS, True.intro⟩ rfl ?_)
          exact ⟨(i + 1, _, v), [], hlt, by show l.length - (i + 1) < l.length - i; omega, rfl, ⟨sle_i hi1, sle_i rfl, sle_sl rfl, sle_i rfl, sle_own, sle_own, sle_ptr, True.intro⟩, HLe.cons 37 rfl (HOLe.row (by rw [g1, List.map_append]; rfl)) (HLe.cons 38 rfl (HOLe.row (by rw [g2])) (HLe.cons 2 rfl (HOLe.refl _) .nil))⟩
        · rw [if_neg (by decide)] at g1
          rw [if_pos (by rfl)] at g2
          repeat' (first | refine Awp.seq ?_ | refine Awp.block ?_ | refine Awp.region ?_ | refine Ops.nil (nqA ?_) | refine Ops.nil (nqX ?_) | refine Awp.skip (nqA ?_) | (refine o_add rfl rfl rfl rfl ?_ ?_; omega) | (refine o_calm rfl TtOk rfl rfl rfl ?_ (fun _ => ?_); exact nd) | refine o_alloc (d := 9) rfl TtOk rfl rfl rfl (fun b9 => ?_) | refine o_store TtOk rfl rfl rfl rfl rfl rfl rfl ⟨rfl, rfl⟩ rfl rfl rfl rfl rfl ?_ | (refine o_index rfl TtOk rfl rfl rfl rfl rfl rfl ?_ (getq_nat ?_) ?_; omega; omega) | refine o_buildSlice TtOk rfl rfl rfl rfl rfl rfl rfl rfl rfl rfl rfl nq1 (fun _ => ?_) | (refine o_append TtOk rfl rfl rfl rfl rfl rfl rfl rfl rfl (by first | exact True.intro | exact rfl) rfl rfl (fun _ => rfl) ?_ ?_ (fun _ => ?_); ((repeat' (first | rw [List.length_append] | rw [List.length_map] | rw [List.length_cons] | rw [List.length_nil] | rw [List.length_take] | rw [List.length_drop])) <;> omega); ((repeat' (first | rw [List.length_append] | rw [List.length_map] | rw [List.length_cons] | rw [List.length_nil] | rw [List.length_take] | rw [List.length_drop])) <;> omega)) | refine a_condF rfl ?_ | (refine a_condP rfl (fun hc => ?_) (fun hc => ?_)) <;> (try (exfalso; omega)) | refine o_callE rfl (hb) ⟨nqS, nqS, True.intro⟩ rfl ?_)
          exact ⟨(i + 1, u, _), [], hlt, by show l.length - (i + 1) < l.length - i; omega, rfl, ⟨sle_i hi1, sle_i rfl, sle_sl rfl, sle_i rfl, sle_own, sle_own, sle_ptr, True.intro⟩, HLe.cons 37 rfl (HOLe.row (by rw [g1])) (HLe.cons 38 rfl (HOLe.row (by rw [g2, List.map_append]; rfl)) (HLe.cons 2 rfl (HOLe.refl _) .nil))⟩
      · have hie : i = l.length := by omega
        subst hie
        rw [List.take_length]
        generalize l.filter (fun x => bitL x.l n == 0) = A at j1 ⊢
        generalize l.filter (fun x => !(bitL x.l n == 0)) = B at j2 ⊢
        repeat' (first | (refine o_freezeR 38 7 rfl rfl rfl ?_) | (refine o_freezeR 37 6 rfl rfl rfl ?_) | refine Awp.seq ?_ | refine Awp.region ?_ | refine Ops.nil (nqA ?_) | refine Awp.exit (nqA ?_) | refine Awp.ret (nqE ?_) | (refine o_calm rfl TtOk rfl rfl rfl ?_ (fun _ => ?_); exact nd) | refine o_store TtOk rfl rfl rfl rfl rfl rfl rfl ⟨rfl, rfl⟩ rfl rfl rfl rfl rfl ?_ | (refine a_condP rfl (fun hc => ?_) (fun hc => ?_)) <;> (try (exfalso; omega)) | refine o_callE rfl (j1) ⟨nqS, True.intro⟩ rfl ?_ | refine o_callE rfl (j2) ⟨nqS, True.intro⟩ rfl ?_ | refine o_callE rfl (i1) ⟨nqS, nqS, True.intro⟩ rfl ?_)
        refine end_all [] [] ((innI x y).R) rfl ?_ ?_ (rle_one (CLe.of_eq rfl) rfl) .nil ⟨rfl, rfl⟩ _ (.inl rfl)
        · exact nq1
        · exact ⟨trivial, trivial⟩
end Go.Proofs.YtcmgpkibjdbonaaGreat
