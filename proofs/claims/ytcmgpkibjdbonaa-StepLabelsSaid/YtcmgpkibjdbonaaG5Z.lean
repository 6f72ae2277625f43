/- node.number, joined, text, LeafBytes, InnerBytes by rules. -/
import Derived.Test.YtcmgpkibjdbonaaV27Z
import Derived.Test.YtcmgpkibjdbonaaSA4
import Derived.Test.YtcmgpkibjdbonaaV16Z
set_option maxHeartbeats 8000000
set_option maxRecDepth 100000
namespace Go.Proofs.Ytcmgpkibjdbonaa
open Go Go.RowKit
def nB (n : Int) (i : Nat) : UInt8 := UInt8.ofNat (((IntKind.u64.wrap n).fdiv (2 ^ (56 - 8 * i))) % 256).toNat
def nBs (n : Int) (i : Nat) : List UInt8 := (List.range i).map (nB n) ++ List.replicate (8 - i) 0
def num8 (n : Int) : List UInt8 := nBs n 8
theorem nBs_len (n : Int) (i : Nat) (h : i ≤ 8) : (nBs n i).length = 8 := by unfold nBs; rw [List.length_append, List.length_map, List.length_range, List.length_replicate]; omega
theorem nBs_set (n : Int) (i : Nat) (h : i < 8) : nBs n (i + 1) = (nBs n i).set i (nB n i) := by
  unfold nBs
  have hr : List.replicate (8 - i) (0 : UInt8) = 0 :: List.replicate (8 - (i + 1)) 0 := by rw [show 8 - i = (8 - (i + 1)) + 1 by omega, List.replicate_succ]
  rw [hr, List.range_succ, List.map_append, List.set_append, if_neg (by simp), List.length_map, List.length_range, Nat.sub_self, List.append_assoc]; rfl
def lenQ (n : Nat) : List UInt8 := [UInt8.ofNat (n / 16777216), UInt8.ofNat (n / 65536), UInt8.ofNat (n / 256), UInt8.ofNat n]
def jnB (tag : UInt8) (ts : List (List UInt8)) : List UInt8 := [tag] ++ ts.flatMap (fun t => lenQ t.length ++ t)
def sA (s : List UInt8) : AV := .s s
theorem nnumber_spec (n : Int) : Spec Try.prog 151 [.i .i64 n] [] (fun v os => v = .s (num8 n) ∧ os = []) := by
  refine spec_of TtOk [] Try.func151 rfl Try.ntmps151 (by kernel_rfl) rfl rfl (fun C => ?_) rfl
  repeat' (first | refine Awp.seq ?_ | refine Awp.region ?_ | (refine Ops.nil ?_; show Awp _ _ _ _ _) | (refine o_calm rfl TtOk rfl rfl rfl ?_ (fun _ => ?_); first | exact True.intro | exact ⟨rfl, rfl, rfl, rfl⟩ | exact ⟨rfl, True.intro⟩ | exact ⟨rfl, rfl⟩ | exact ⟨rfl, rfl, rfl⟩ | exact rfl | exact ⟨fun h0 => by cases h0, rfl⟩ | exact (fun h0 => by cases h0) | exact ⟨rfl, by omega⟩ | exact ⟨Nat.succ_ne_zero _, rfl⟩ | omega))
  refine o_makeSlice TtOk rfl rfl rfl rfl rfl rfl rfl rfl rfl 8 rfl rfl (by decide) (by decide) (fun v5 => ?_)
  repeat' (first | refine Awp.seq ?_ | refine Awp.block ?_ | refine Awp.region ?_ | (refine Ops.nil ?_; show Awp _ _ _ _ _) | (refine o_calm rfl TtOk rfl rfl rfl ?_ (fun _ => ?_); first | exact True.intro | exact ⟨rfl, rfl, rfl, rfl⟩ | exact ⟨rfl, True.intro⟩ | exact ⟨rfl, rfl⟩ | exact ⟨rfl, rfl, rfl⟩ | exact rfl | exact ⟨fun h0 => by cases h0, rfl⟩ | exact (fun h0 => by cases h0) | exact ⟨rfl, by omega⟩ | exact ⟨Nat.succ_ne_zero _, rfl⟩ | omega))
  refine Awp.loop (fun i : Nat => ⟨24, [(8, .i .i64 i), (7, .i .i64 8), (3, .own 5 v5), (0, .i .i64 n)], [(5, .row v5 5 1 ((nBs n i).map byA))]⟩) (fun i => i ≤ 8) (fun i => 8 - i) [] 0 (Nat.zero_le _) ?_ ?_
  · exact ⟨rfl, ⟨sle_i rfl, sle_i rfl, sle_own, sle_i rfl, True.intro⟩, HLe.cons 5 rfl (HOLe.refl _) .nil⟩
  intro i hi
  have hl := nBs_len n i hi
  by_cases hlt : i < 8
  · have hs := nBs_set n i hlt
    have hz : AV.i .u8 (IntKind.u8.wrap ((IntKind.u64.wrap n).fdiv (2 ^ (min (56 - 8 * (i : Int)).toNat (IntKind.bits .u64))))) = byA (nB n i) := by
      rw [show min (56 - 8 * (i : Int)).toNat (IntKind.bits .u64) = 56 - 8 * i by rw [show IntKind.bits .u64 = 64 from rfl]; omega, wrapB]; rfl
    generalize nBs n i = cs at hl hs ⊢
    repeat' (first | refine Awp.seq ?_ | refine Awp.block ?_ | refine Awp.region ?_ | (refine Ops.nil ?_; show Awp _ _ _ _ _) | (refine Ops.nil ?_; show Exists _) | (refine Awp.skip ?_; show Awp _ _ _ _ _) | (refine o_add rfl rfl rfl rfl ?_ ?_; omega) | (refine o_sub rfl rfl rfl rfl ?_ ?_; omega) | (refine o_mul rfl rfl rfl rfl ?_ ?_; omega) | (refine o_calm rfl TtOk rfl rfl rfl ?_ (fun _ => ?_); first | exact True.intro | exact ⟨rfl, rfl, rfl, rfl⟩ | exact ⟨rfl, True.intro⟩ | exact ⟨rfl, rfl⟩ | exact ⟨rfl, rfl, rfl⟩ | exact rfl | exact ⟨fun h0 => by cases h0, rfl⟩ | exact (fun h0 => by cases h0) | exact ⟨rfl, by omega⟩ | exact ⟨Nat.succ_ne_zero _, rfl⟩ | omega) | (refine o_indexOwn TtOk rfl rfl rfl rfl rfl rfl rfl rfl _ rfl ?_ (fun bO hbO => ?_); ((repeat' (first | rw [List.length_append] | rw [List.length_map] | rw [List.length_cons] | rw [List.length_nil] | rw [List.length_take] | rw [List.length_drop])) <;> omega)) | (refine o_storeRow TtOk rfl rfl rfl rfl rfl rfl (by assumption) (getq_map (List.getElem?_eq_getElem ?_)) rfl rfl (by first | exact Nat.add_zero _ | rfl) ⟨rfl, rfl⟩ rfl rfl ?_; omega) | (refine a_condP rfl (fun hc => ?_) (fun hc => ?_)) <;> (try (exfalso; omega)))
    refine ⟨i + 1, [], by omega, by omega, rfl, ⟨sle_i rfl, sle_i rfl, sle_own, sle_i rfl, True.intro⟩, HLe.cons 5 rfl (HOLe.row ?_) .nil⟩
    show (cs.map byA).set i (AV.i .u8 (IntKind.u8.wrap ((IntKind.u64.wrap n).fdiv (2 ^ (min (56 - 8 * (i : Int)).toNat (IntKind.bits .u64)))))) = _
    rw [hz, hs, List.map_set]
  · have hie : i = 8 := by omega
    subst hie
    repeat' (first | refine Awp.seq ?_ | refine Awp.region ?_ | (refine Ops.nil ?_; show Awp _ _ _ _ _) | (refine Awp.exit ?_; show Awp _ _ _ _ _) | (refine Awp.ret ?_; show endK _ _ _ _ _) | (refine o_calm rfl TtOk rfl rfl rfl ?_ (fun _ => ?_); first | exact True.intro | exact ⟨rfl, rfl, rfl, rfl⟩ | exact ⟨rfl, True.intro⟩ | exact ⟨rfl, rfl⟩ | exact ⟨rfl, rfl, rfl⟩ | exact rfl | exact ⟨fun h0 => by cases h0, rfl⟩ | exact (fun h0 => by cases h0) | exact ⟨rfl, by omega⟩ | exact ⟨Nat.succ_ne_zero _, rfl⟩ | omega) | refine a_condF rfl ?_ | refine o_toString TtOk rfl rfl rfl rfl rfl (by first | exact True.intro | exact rfl) rfl rfl rfl rfl ?_)
    exact end_tmp rfl rfl rfl [] [] (CLe.of_eq rfl) .nil ⟨rfl, rfl⟩ _ (.inl rfl)
theorem lenQ_row (n : Nat) : [AV.i .u8 (IntKind.u8.wrap ((n : Int).fdiv (2 ^ (min (Int.toNat 24) (IntKind.bits .i64))))), AV.i .u8 (IntKind.u8.wrap ((n : Int).fdiv (2 ^ (min (Int.toNat 16) (IntKind.bits .i64))))), AV.i .u8 (IntKind.u8.wrap ((n : Int).fdiv (2 ^ (min (Int.toNat 8) (IntKind.bits .i64))))), AV.i .u8 (IntKind.u8.wrap (n : Int))] = (lenQ n).map byA := by
  have e : ∀ k : Nat, k ≤ 64 → (n : Int).fdiv (2 ^ (min ((k : Int)).toNat (IntKind.bits .i64))) = ((n / 2 ^ k : Nat) : Int) := fun k hk => by
    rw [show min ((k : Int)).toNat (IntKind.bits .i64) = k by rw [show IntKind.bits .i64 = 64 from rfl]; omega, show (2 : Int) ^ k = ((2 ^ k : Nat) : Int) by rw [Int.natCast_pow]; rfl, Int.ofNat_fdiv]
  have e1 := e 24 (by decide)
  have e2 := e 16 (by decide)
  have e3 := e 8 (by decide)
  rw [show (n : Int).fdiv (2 ^ (min (Int.toNat 24) (IntKind.bits .i64))) = _ from e1, show (n : Int).fdiv (2 ^ (min (Int.toNat 16) (IntKind.bits .i64))) = _ from e2, show (n : Int).fdiv (2 ^ (min (Int.toNat 8) (IntKind.bits .i64))) = _ from e3, byA_nt, byA_nt, byA_nt, byA_nt]; rfl
theorem jnB_succ (tag : UInt8) (ts : List (List UInt8)) (i : Nat) (h : i < ts.length) : jnB tag (ts.take (i + 1)) = (jnB tag (ts.take i) ++ lenQ ts[i].length) ++ ts[i] := by
  unfold jnB
  rw [List.take_succ_eq_append_getElem h, List.flatMap_append]
  simp [List.append_assoc]
theorem jnB_len (tag : UInt8) (ts : List (List UInt8)) (h : ∀ t ∈ ts, t.length ≤ 1000000) : (jnB tag ts).length ≤ 1 + 1000004 * ts.length := by
  unfold jnB
  rw [List.length_append]
  show 1 + _ ≤ _
  refine Nat.add_le_add_left ?_ 1
  induction ts with
  | nil => exact Nat.le_refl _
  | cons t r ih =>
    have h1 := h t (List.mem_cons_self ..)
    have h2 := ih (fun x hx => h x (List.mem_cons_of_mem _ hx))
    rw [List.flatMap_cons, List.length_append, List.length_append, List.length_cons]
    have : (lenQ t.length).length = 4 := rfl
    omega
theorem njoined_spec (tag : UInt8) (ts : List (List UInt8)) (hn : ts.length ≤ 1000) (h : ∀ t ∈ ts, t.length ≤ 1000000) : Spec Try.prog 150 [byA tag, .sl 1 (ts.map sA)] [] (fun v os => v = .s (jnB tag ts) ∧ os = []) := by
  refine spec_of TtOk [] Try.func150 rfl Try.ntmps150 (by kernel_rfl) rfl rfl (fun C => ?_) rfl
  repeat' (first | refine Awp.seq ?_ | refine Awp.block ?_ | refine Awp.region ?_ | (refine Ops.nil ?_; show Awp _ _ _ _ _) | refine o_len rfl TtOk rfl rfl rfl (fun _ => ?_) | (refine o_calm rfl TtOk rfl rfl rfl ?_ (fun _ => ?_); first | exact True.intro | exact ⟨rfl, rfl, rfl, rfl⟩ | exact ⟨rfl, True.intro⟩ | exact ⟨rfl, rfl⟩ | exact ⟨rfl, rfl, rfl⟩ | exact rfl | exact ⟨fun h0 => by cases h0, rfl⟩ | exact (fun h0 => by cases h0) | exact ⟨rfl, by omega⟩ | exact ⟨Nat.succ_ne_zero _, rfl⟩ | omega) | refine o_buildSlice TtOk rfl rfl rfl rfl rfl rfl rfl rfl rfl rfl rfl (by repeat' (first | exact True.intro | exact rfl | refine ⟨?_, ?_⟩)) (fun _ => ?_))
  rename_i v10 _ _ _ _
  refine Awp.loop (fun q : Nat × Value => ⟨39, [(13, .i .i64 q.1), (12, .i .i64 ts.length), (11, .sl 1 (ts.map sA)), (5, .own 10 q.2)], [(10, .row q.2 5 1 ((jnB tag (ts.take q.1)).map byA))]⟩) (fun q => q.1 ≤ ts.length) (fun q => ts.length - q.1) [] (0, v10) (Nat.zero_le _) ?_ ?_
  · exact ⟨rfl, ⟨sle_i rfl, sle_i rfl, sle_sl rfl, sle_own, True.intro⟩, HLe.cons 10 rfl (HOLe.refl _) .nil⟩
  rintro ⟨i, v⟩ hi
  dsimp only at hi ⊢
  have hjl := jnB_len tag (ts.take i) (fun t ht => h t (List.mem_of_mem_take ht))
  rw [List.length_take] at hjl
  by_cases hlt : i < ts.length
  · have htl := h _ (List.getElem_mem hlt)
    have hs := jnB_succ tag ts i hlt
    have hq := lenQ_row ts[i].length
    have hq4 : (lenQ ts[i].length).length = 4 := rfl
    have hjl : (jnB tag (ts.take i)).length ≤ 2000000000 := by omega
    generalize jnB tag (ts.take i) = J at hs hjl ⊢
    generalize lenQ ts[i].length = Q at hs hq hq4
    repeat' (first | (rw [hq]) | refine Awp.seq ?_ | refine Awp.block ?_ | refine Awp.region ?_ | (refine Ops.nil ?_; show Awp _ _ _ _ _) | (refine Ops.nil ?_; show Exists _) | (refine Awp.skip ?_; show Awp _ _ _ _ _) | (refine o_add rfl rfl rfl rfl ?_ ?_; omega) | (refine o_calm rfl TtOk rfl rfl rfl ?_ (fun _ => ?_); first | exact True.intro | exact ⟨rfl, rfl, rfl, rfl⟩ | exact ⟨rfl, True.intro⟩ | exact ⟨rfl, rfl⟩ | exact ⟨rfl, rfl, rfl⟩ | exact rfl | exact ⟨fun h0 => by cases h0, rfl⟩ | exact (fun h0 => by cases h0) | exact ⟨rfl, by omega⟩ | exact ⟨Nat.succ_ne_zero _, rfl⟩ | omega) | (refine o_index rfl TtOk rfl rfl rfl rfl rfl rfl ?_ (getq_nat ?_) ?_; omega; omega) | refine o_buildSlice TtOk rfl rfl rfl rfl rfl rfl rfl rfl rfl rfl rfl (by repeat' (first | exact True.intro | exact rfl | refine ⟨?_, ?_⟩)) (fun _ => ?_) | (refine o_append TtOk rfl rfl rfl rfl rfl rfl rfl rfl rfl (by first | exact True.intro | exact rfl) rfl rfl (fun _ => rfl) ?_ ?_ (fun _ => ?_); ((repeat' (first | rw [List.length_append] | rw [List.length_map] | rw [List.length_cons] | rw [List.length_nil] | rw [List.length_take] | rw [List.length_drop])) <;> omega); ((repeat' (first | rw [List.length_append] | rw [List.length_map] | rw [List.length_cons] | rw [List.length_nil] | rw [List.length_take] | rw [List.length_drop])) <;> omega)) | (refine o_appendStr TtOk rfl rfl rfl rfl rfl rfl rfl rfl rfl (fun _ => rfl) ?_ (fun _ => ?_); ((repeat' (first | rw [List.length_append] | rw [List.length_map] | rw [List.length_cons] | rw [List.length_nil] | rw [List.length_take] | rw [List.length_drop])) <;> omega)) | (refine a_condP rfl (fun hc => ?_) (fun hc => ?_)) <;> (try (exfalso; omega)))
    refine ⟨(i + 1, _), [], hlt, by show ts.length - (i + 1) < ts.length - i; omega, rfl, ⟨sle_i (by omega), sle_i rfl, sle_sl rfl, sle_own, True.intro⟩, HLe.cons 10 rfl (HOLe.row ?_) .nil⟩
    rw [hs, List.map_append, List.map_append]
  · have hie : i = ts.length := by omega
    subst hie
    rw [List.take_length]
    repeat' (first | refine Awp.seq ?_ | refine Awp.region ?_ | (refine Ops.nil ?_; show Awp _ _ _ _ _) | (refine Awp.exit ?_; show Awp _ _ _ _ _) | (refine Awp.ret ?_; show endK _ _ _ _ _) | (refine o_calm rfl TtOk rfl rfl rfl ?_ (fun _ => ?_); first | exact True.intro | exact ⟨rfl, rfl, rfl, rfl⟩ | exact ⟨rfl, True.intro⟩ | exact ⟨rfl, rfl⟩ | exact ⟨rfl, rfl, rfl⟩ | exact rfl | exact ⟨fun h0 => by cases h0, rfl⟩ | exact (fun h0 => by cases h0) | exact ⟨rfl, by omega⟩ | exact ⟨Nat.succ_ne_zero _, rfl⟩ | omega) | (refine a_condP rfl (fun hc => ?_) (fun hc => ?_)) <;> (try (exfalso; omega)) | refine o_toString TtOk rfl rfl rfl rfl rfl (by first | exact True.intro | exact rfl) rfl rfl rfl rfl ?_)
    exact end_tmp rfl rfl rfl [] [] (CLe.of_eq rfl) .nil ⟨rfl, rfl⟩ _ (.inl rfl)
structure Itm where
  n : Int
  l : List UInt8
  s : List UInt8
  t : Int
def Itm.A (x : Itm) : AV := .agg [pfxA x.n x.l, labA x.s, .i .i64 x.t]
def Itm.ok (x : Itm) : Prop := x.l.length = 32 ∧ x.s.length = 32
def txtI (x : Itm) : List UInt8 := ((num8 x.n ++ x.l) ++ x.s) ++ num8 x.t
structure Lef where
  l : List UInt8
  v : List UInt8
  t : Int
def Lef.A (x : Lef) : AV := .agg [labA x.l, labA x.v, .i .i64 x.t]
def Lef.ok (x : Lef) : Prop := x.l.length = 32 ∧ x.v.length = 32
def leafB (x : Lef) : List UInt8 := jnB 16 [x.l, x.v, num8 x.t]
def innB (a b : Itm) : List UInt8 := jnB 17 [txtI a, txtI b]
theorem num8_len (n : Int) : (num8 n).length = 8 := nBs_len n 8 (Nat.le_refl _)
theorem ntext_spec (x : Itm) (hx : x.ok) : Spec Try.prog 167 [x.A] [] (fun v os => v = .s (txtI x) ∧ os = []) := by
  obtain ⟨n, l, s, t⟩ := x
  obtain ⟨hl, hs⟩ := hx
  dsimp only at hl hs
  show Spec Try.prog 167 [.agg [pfxA n l, labA s, .i .i64 t]] [] (fun v os => v = .s (((num8 n ++ l) ++ s) ++ num8 t) ∧ os = [])
  refine spec_of TtOk [] Try.func167 rfl Try.ntmps167 (by kernel_rfl) rfl rfl (fun C => ?_) rfl
  have h1 := nnumber_spec n
  have h2 := nnumber_spec t
  have n1 := num8_len n
  have n2 := num8_len t
  generalize num8 n = a at h1 n1 ⊢
  generalize num8 t = b at h2 n2 ⊢
  repeat' (first | (refine a_freezeV 1 1 rfl rfl rfl ?_) | refine Awp.seq ?_ | refine Awp.region ?_ | (refine Ops.nil ?_; show Awp _ _ _ _ _) | (refine Awp.ret ?_; show endK _ _ _ _ _) | (refine o_calm rfl TtOk rfl rfl rfl ?_ (fun _ => ?_); first | exact True.intro | exact ⟨rfl, rfl, rfl, rfl⟩ | exact ⟨rfl, True.intro⟩ | exact ⟨rfl, rfl⟩ | exact ⟨rfl, rfl, rfl⟩ | exact rfl | exact ⟨fun h0 => by cases h0, rfl⟩ | exact (fun h0 => by cases h0) | exact ⟨rfl, by omega⟩ | exact ⟨Nat.succ_ne_zero _, rfl⟩ | omega) | refine o_box (d := 1) rfl rfl rfl rfl (fun b1 => ?_) | (refine o_calm rfl TtOk rfl rfl rfl ?_ (fun _ => ?_); (show List.length _ + List.length _ ≤ 9223372036854775807; (repeat' (first | rw [List.length_append] | rw [List.length_map] | rw [List.length_cons] | rw [List.length_nil] | rw [List.length_take] | rw [List.length_drop])) <;> omega)) | refine o_sliceCp TtOk rfl rfl rfl rfl rfl rfl ?_ | refine o_toString TtOk rfl rfl rfl rfl rfl (by first | exact True.intro | exact rfl) rfl rfl rfl rfl ?_ | refine a_any 1 [] [] [] [0, 1, 4, 5, 6, 7, 9, 10, 11, 13, 2, 14, 3, 8, 12, 15, 16, 17] (by kernel_rfl) (by kernel_rfl) (by kernel_rfl) rfl rfl rfl ?_ | (refine o_call0 rfl (h1) ⟨SLe.of_eq rfl, True.intro⟩ rfl ?_; rintro _ _ ⟨rfl, rfl⟩; refine ⟨rfl, ?_⟩) | (refine o_call0 rfl (h2) ⟨SLe.of_eq rfl, True.intro⟩ rfl ?_; rintro _ _ ⟨rfl, rfl⟩; refine ⟨rfl, ?_⟩))
  exact end_tmp rfl rfl rfl [] [] (CLe.of_eq rfl) .nil ⟨rfl, rfl⟩ _ (.inl rfl)
theorem leafB_spec (x : Lef) (hx : x.ok) : Spec Try.prog 92 [x.A] [] (fun v os => v = .s (leafB x) ∧ os = []) := by
  obtain ⟨l, u, t⟩ := x
  obtain ⟨hl, hu⟩ := hx
  dsimp only at hl hu
  show Spec Try.prog 92 [.agg [labA l, labA u, .i .i64 t]] [] (fun v os => v = .s (jnB 16 [l, u, num8 t]) ∧ os = [])
  refine spec_of TtOk [] Try.func92 rfl Try.ntmps92 (by kernel_rfl) rfl rfl (fun C => ?_) rfl
  have h1 := nnumber_spec t
  have n1 := num8_len t
  generalize num8 t = a at h1 n1 ⊢
  have h2 := njoined_spec 16 [l, u, a] (show 3 ≤ 1000 by decide) (fun q hq => by
    rcases List.mem_cons.1 hq with rfl | hq
    · omega
    · rcases List.mem_cons.1 hq with rfl | hq
      · omega
      · have := List.mem_singleton.1 hq; subst this; omega)
  repeat' (first | (refine o_freezeR 12 12 rfl rfl rfl ?_) | (refine a_freezeV 1 1 rfl rfl rfl ?_) | refine Awp.seq ?_ | refine Awp.region ?_ | (refine Ops.nil ?_; show Awp _ _ _ _ _) | (refine Awp.ret ?_; show endK _ _ _ _ _) | (refine o_calm rfl TtOk rfl rfl rfl ?_ (fun _ => ?_); first | exact True.intro | exact ⟨rfl, rfl, rfl, rfl⟩ | exact ⟨rfl, True.intro⟩ | exact ⟨rfl, rfl⟩ | exact ⟨rfl, rfl, rfl⟩ | exact rfl | exact ⟨fun h0 => by cases h0, rfl⟩ | exact (fun h0 => by cases h0) | exact ⟨rfl, by omega⟩ | exact ⟨Nat.succ_ne_zero _, rfl⟩ | omega) | refine o_box (d := 1) rfl rfl rfl rfl (fun b1 => ?_) | refine o_buildSlice TtOk rfl rfl rfl rfl rfl rfl rfl rfl rfl rfl rfl (by repeat' (first | exact True.intro | exact rfl | refine ⟨?_, ?_⟩)) (fun _ => ?_) | refine o_sliceCp TtOk rfl rfl rfl rfl rfl rfl ?_ | refine o_toString TtOk rfl rfl rfl rfl rfl (by first | exact True.intro | exact rfl) rfl rfl rfl rfl ?_ | refine a_any 1 [] [] [] [0, 1, 2, 3, 4, 5, 6, 7, 8, 9, 10, 11] (by kernel_rfl) (by kernel_rfl) (by kernel_rfl) rfl rfl rfl ?_ | (refine o_call0 rfl (h1) ⟨SLe.of_eq rfl, True.intro⟩ rfl ?_; rintro _ _ ⟨rfl, rfl⟩; refine ⟨rfl, ?_⟩) | (refine o_call0 rfl (h2) ⟨SLe.of_eq rfl, SLe.of_eq rfl, True.intro⟩ rfl ?_; rintro _ _ ⟨rfl, rfl⟩; refine ⟨rfl, ?_⟩))
  exact end_tmp rfl rfl rfl [] [] (CLe.of_eq rfl) .nil ⟨rfl, rfl⟩ _ (.inl rfl)
end Go.Proofs.Ytcmgpkibjdbonaa
set_option maxHeartbeats 8000000
set_option maxRecDepth 100000
namespace Go.Proofs.Ytcmgpkibjdbonaa
open Go Go.RowKit
theorem txtI_len (x : Itm) (hx : x.ok) : (txtI x).length = 80 := by
  unfold txtI; rw [List.length_append, List.length_append, List.length_append, num8_len, num8_len, hx.1, hx.2]
theorem innB_spec (x y : Itm) (hx : x.ok) (hy : y.ok) : Spec Try.prog 123 [.agg [x.A, y.A]] [] (fun v os => v = .s (innB x y) ∧ os = []) := by
  refine spec_of TtOk [] Try.func123 rfl Try.ntmps123 (by kernel_rfl) rfl rfl (fun C => ?_) rfl
  have h1 := ntext_spec x hx
  have h2 := ntext_spec y hy
  have l1 := txtI_len x hx
  have l2 := txtI_len y hy
  have hi : innB x y = jnB 17 [txtI x, txtI y] := rfl
  rw [hi]
  generalize txtI x = a at h1 l1 ⊢
  generalize txtI y = b at h2 l2 ⊢
  have h3 := njoined_spec 17 [a, b] (show 2 ≤ 1000 by decide) (fun q hq => by
    rcases List.mem_cons.1 hq with rfl | hq
    · omega
    · have := List.mem_singleton.1 hq; subst this; omega)
  repeat' (first | (refine o_freezeR 9 9 rfl rfl rfl ?_) | (refine a_freezeV 1 1 rfl rfl rfl ?_) | refine Awp.seq ?_ | refine Awp.region ?_ | (refine Ops.nil ?_; show Awp _ _ _ _ _) | (refine Awp.ret ?_; show endK _ _ _ _ _) | (refine o_calm rfl TtOk rfl rfl rfl ?_ (fun _ => ?_); first | exact True.intro | exact ⟨rfl, rfl, rfl, rfl⟩ | exact ⟨rfl, True.intro⟩ | exact ⟨rfl, rfl⟩ | exact ⟨rfl, rfl, rfl⟩ | exact rfl | exact ⟨fun h0 => by cases h0, rfl⟩ | exact (fun h0 => by cases h0) | exact ⟨rfl, by omega⟩ | exact ⟨Nat.succ_ne_zero _, rfl⟩ | omega) | refine o_box (d := 1) rfl rfl rfl rfl (fun b1 => ?_) | refine o_buildSlice TtOk rfl rfl rfl rfl rfl rfl rfl rfl rfl rfl rfl (by repeat' (first | exact True.intro | exact rfl | refine ⟨?_, ?_⟩)) (fun _ => ?_) | refine a_any 1 [] [] [] [0, 3, 1, 4, 2, 5, 6, 7, 8] (by kernel_rfl) (by kernel_rfl) (by kernel_rfl) rfl rfl rfl ?_ | (refine o_call0 rfl (h1) ⟨SLe.of_eq rfl, True.intro⟩ rfl ?_; rintro _ _ ⟨rfl, rfl⟩; refine ⟨rfl, ?_⟩) | (refine o_call0 rfl (h2) ⟨SLe.of_eq rfl, True.intro⟩ rfl ?_; rintro _ _ ⟨rfl, rfl⟩; refine ⟨rfl, ?_⟩) | (refine o_call0 rfl (h3) ⟨SLe.of_eq rfl, SLe.of_eq rfl, True.intro⟩ rfl ?_; rintro _ _ ⟨rfl, rfl⟩; refine ⟨rfl, ?_⟩))
  exact end_tmp rfl rfl rfl [] [] (CLe.of_eq rfl) .nil ⟨rfl, rfl⟩ _ (.inl rfl)
def leafI (x : Lef) : Itm := ⟨256, x.l, shaN (leafB x), x.t⟩
theorem leafI_ok (x : Lef) (hx : x.ok) : (leafI x).ok := ⟨hx.1, shaN_len _⟩
theorem cut256 (l : List UInt8) (hl : l.length = 32) : cutL l 256 = l := by
  unfold cutL cutP
  rw [if_pos (by decide), List.take_of_length_le (by omega)]
  exact List.append_nil _
theorem leafB_len (x : Lef) (hx : x.ok) : (leafB x).length ≤ 1000 := by
  have h := jnB_succ
  have h1 := num8_len x.t
  have h2 : leafB x = [16] ++ ((lenQ x.l.length ++ x.l) ++ ((lenQ x.v.length ++ x.v) ++ ((lenQ (num8 x.t).length ++ num8 x.t) ++ []))) := rfl
  rw [h2]
  simp only [List.length_append, List.length_cons, List.length_nil, h1, hx.1, hx.2]
  have : ∀ n, (lenQ n).length = 4 := fun _ => rfl
  simp only [this]; decide
theorem litem_spec (x : Lef) (hx : x.ok) : Spec Try.prog 35 [x.A] [] (fun v os => v = (leafI x).A ∧ os = []) := by
  have h2 := leafB_spec x hx
  have h3 := sum_spec (leafB x) (by have := leafB_len x hx; omega)
  have hA : (leafI x).A = .agg [pfxA 256 x.l, labA (shaN (leafB x)), .i .i64 x.t] := rfl
  rw [hA]
  generalize leafB x = b at h2 h3
  generalize shaN b = s at h3
  obtain ⟨l, u, t⟩ := x
  obtain ⟨hl, hu⟩ := hx
  dsimp only at hl hu ⊢
  have h1 := bcut_spec l hl 256
  have hc : clamp 256 = 256 := rfl
  rw [hc, cut256 l hl] at h1
  have h2 : Spec Try.prog 92 [.agg [labA l, labA u, .i .i64 t]] [] (fun v os => v = .s b ∧ os = []) := h2
  show Spec Try.prog 35 [.agg [labA l, labA u, .i .i64 t]] [] _
  refine spec_of TtOk [] Try.func35 rfl Try.ntmps35 (by kernel_rfl) rfl rfl (fun C => ?_) rfl
  repeat' (first | refine Awp.seq ?_ | refine Awp.region ?_ | (refine Ops.nil ?_; show Awp _ _ _ _ _) | (refine Awp.ret ?_; show endK _ _ _ _ _) | (refine o_calm rfl TtOk rfl rfl rfl ?_ (fun _ => ?_); first | exact True.intro | exact ⟨rfl, rfl, rfl, rfl⟩ | exact ⟨rfl, True.intro⟩ | exact ⟨rfl, rfl⟩ | exact ⟨rfl, rfl, rfl⟩ | exact rfl | exact ⟨fun h0 => by cases h0, rfl⟩ | exact (fun h0 => by cases h0) | exact ⟨rfl, by omega⟩ | exact ⟨Nat.succ_ne_zero _, rfl⟩ | omega) | refine o_alloc (d := 2) rfl TtOk rfl rfl rfl (fun b2 => ?_) | refine o_box (d := 1) rfl rfl rfl rfl (fun b1 => ?_) | refine o_store TtOk rfl rfl rfl rfl rfl rfl rfl ⟨rfl, rfl⟩ rfl rfl rfl rfl rfl ?_ | refine o_build TtOk rfl rfl rfl rfl rfl rfl (by repeat' (first | exact True.intro | exact rfl | refine ⟨?_, ?_⟩)) ?_ | refine a_any 1 [2] [4, 6, 10] [5, 7, 8] [0, 6, 1, 3, 7, 2, 4, 5, 8, 9] (by kernel_rfl) (by kernel_rfl) (by kernel_rfl) rfl rfl rfl ?_ | (refine o_call0 rfl (h1) ⟨SLe.of_eq rfl, SLe.of_eq rfl, True.intro⟩ rfl ?_; rintro _ _ ⟨rfl, rfl⟩; refine ⟨rfl, ?_⟩) | (refine o_call0 rfl (h2) ⟨SLe.of_eq rfl, True.intro⟩ rfl ?_; rintro _ _ ⟨rfl, rfl⟩; refine ⟨rfl, ?_⟩) | (refine o_call0 rfl (h3) ⟨SLe.of_eq rfl, True.intro⟩ rfl ?_; rintro _ _ ⟨rfl, rfl⟩; refine ⟨rfl, ?_⟩))
  refine end_all [] [] (.agg [pfxA 256 l, labA s, .i .i64 t]) rfl ?_ ?_ (rle_one (CLe.of_eq rfl) rfl) .nil ⟨rfl, rfl⟩ _ (.inl rfl)
  · repeat' (first | exact True.intro | exact rfl | refine ⟨?_, ?_⟩)
  · exact ⟨trivial, trivial⟩
def goodI (x : Itm) : Bool := goodP ⟨x.n, x.l⟩ && (decide (0 ≤ x.t) && decide (x.t ≤ 1073741824))
theorem ngood_spec (x : Itm) (hx : x.ok) : Spec Try.prog 89 [x.A] [] (fun v os => v = .b (goodI x) ∧ os = []) := by
  have h1 := bgood_spec ⟨x.n, x.l⟩ hx.1
  have hg : goodI x = (goodP ⟨x.n, x.l⟩ && (decide (0 ≤ x.t) && decide (x.t ≤ 1073741824))) := rfl
  rw [hg]
  have hA : (Pfx.A ⟨x.n, x.l⟩) = pfxA x.n x.l := rfl
  rw [hA] at h1
  generalize goodP ⟨x.n, x.l⟩ = g at h1
  obtain ⟨n, l, s, t⟩ := x
  dsimp only at h1 ⊢
  show Spec Try.prog 89 [.agg [pfxA n l, labA s, .i .i64 t]] [] _
  refine spec_of TtOk [] Try.func89 rfl Try.ntmps89 (by kernel_rfl) rfl rfl (fun C => ?_) rfl
  cases g
  · repeat' (first | refine Awp.seq ?_ | refine Awp.region ?_ | (refine Ops.nil ?_; show Awp _ _ _ _ _) | (refine Awp.ret ?_; show endK _ _ _ _ _) | refine o_noT rfl rfl rfl ?_ | (refine o_calm rfl TtOk rfl rfl rfl ?_ (fun _ => ?_); first | exact True.intro | exact ⟨rfl, rfl, rfl, rfl⟩ | exact ⟨rfl, True.intro⟩ | exact ⟨rfl, rfl⟩ | exact ⟨rfl, rfl, rfl⟩ | exact rfl | exact ⟨fun h0 => by cases h0, rfl⟩ | exact (fun h0 => by cases h0) | exact ⟨rfl, by omega⟩ | exact ⟨Nat.succ_ne_zero _, rfl⟩ | omega) | refine o_box (d := 1) rfl rfl rfl rfl (fun b1 => ?_) | (refine o_call0 rfl (h1) ⟨SLe.of_eq rfl, True.intro⟩ rfl ?_; rintro _ _ ⟨rfl, rfl⟩; refine ⟨rfl, ?_⟩))
    exact end_tmp rfl rfl rfl [] [] (CLe.of_eq rfl) .nil ⟨rfl, rfl⟩ _ (.inl rfl)
  · by_cases ht : 0 ≤ t
    · rw [decide_eq_true ht]
      repeat' (first | refine Awp.seq ?_ | refine Awp.region ?_ | (refine Ops.nil ?_; show Awp _ _ _ _ _) | (refine Awp.ret ?_; show endK _ _ _ _ _) | (refine o_calm rfl TtOk rfl rfl rfl ?_ (fun _ => ?_); first | exact True.intro | exact ⟨rfl, rfl, rfl, rfl⟩ | exact ⟨rfl, True.intro⟩ | exact ⟨rfl, rfl⟩ | exact ⟨rfl, rfl, rfl⟩ | exact rfl | exact ⟨fun h0 => by cases h0, rfl⟩ | exact (fun h0 => by cases h0) | exact ⟨rfl, by omega⟩ | exact ⟨Nat.succ_ne_zero _, rfl⟩ | omega) | refine o_box (d := 1) rfl rfl rfl rfl (fun b1 => ?_) | (fail_if_success (refine o_isLit rfl (by first | exact .inl rfl | exact .inr rfl) ?_)); (refine o_splitP rfl rfl (fun hc => ?_) (fun hc => ?_) <;> try (exfalso; omega)) | (refine o_call0 rfl (h1) ⟨SLe.of_eq rfl, True.intro⟩ rfl ?_; rintro _ _ ⟨rfl, rfl⟩; refine ⟨rfl, ?_⟩))
      exact end_tmp rfl rfl rfl [] [] (CLe.of_eq rfl) .nil ⟨rfl, rfl⟩ _ (.inl rfl)
    · rw [decide_eq_false ht]
      repeat' (first | refine Awp.seq ?_ | refine Awp.region ?_ | (refine Ops.nil ?_; show Awp _ _ _ _ _) | (refine Awp.ret ?_; show endK _ _ _ _ _) | refine o_noT rfl rfl rfl ?_ | (refine o_calm rfl TtOk rfl rfl rfl ?_ (fun _ => ?_); first | exact True.intro | exact ⟨rfl, rfl, rfl, rfl⟩ | exact ⟨rfl, True.intro⟩ | exact ⟨rfl, rfl⟩ | exact ⟨rfl, rfl, rfl⟩ | exact rfl | exact ⟨fun h0 => by cases h0, rfl⟩ | exact (fun h0 => by cases h0) | exact ⟨rfl, by omega⟩ | exact ⟨Nat.succ_ne_zero _, rfl⟩ | omega) | refine o_box (d := 1) rfl rfl rfl rfl (fun b1 => ?_) | (fail_if_success (refine o_isLit rfl (by first | exact .inl rfl | exact .inr rfl) ?_)); (refine o_splitP rfl rfl (fun hc => ?_) (fun hc => ?_) <;> try (exfalso; omega)) | (refine o_call0 rfl (h1) ⟨SLe.of_eq rfl, True.intro⟩ rfl ?_; rintro _ _ ⟨rfl, rfl⟩; refine ⟨rfl, ?_⟩))
      exact end_tmp rfl rfl rfl [] [] (CLe.of_eq rfl) .nil ⟨rfl, rfl⟩ _ (.inl rfl)
theorem lz8_le : ∀ (k x : Nat), lz8 k x ≤ k
  | 0, _ => Nat.le_refl _
  | k + 1, x => by
    unfold lz8; split
    · exact Nat.zero_le _
    · have := lz8_le k (2 * x % 256); omega
theorem comL_le : ∀ a b : List UInt8, comL a b ≤ 8 * a.length
  | [], [] => Nat.le_refl _
  | [], _ :: _ => Nat.le_refl _
  | _ :: _, [] => Nat.zero_le _
  | x :: a, y :: b => by
    have h1 := comL_le a b
    have h2 := lz8_le 8 (xorB x y)
    unfold comL; rw [List.length_cons]
    split <;> omega
def innI (x y : Itm) : Itm := ⟨(comL x.l y.l : Nat), cutL x.l (comL x.l y.l), shaN (innB x y), if y.t > x.t then y.t else x.t⟩
theorem comL_256 {a b : List UInt8} (ha : a.length = 32) : comL a b ≤ 256 := by have := comL_le a b; omega
theorem innI_ok (x y : Itm) (hx : x.ok) : (innI x y).ok := ⟨cutL_len _ _ hx.1 (comL_256 hx.1), shaN_len _⟩
theorem innB_len (x y : Itm) (hx : x.ok) (hy : y.ok) : (innB x y).length ≤ 1000 := by
  have h1 := txtI_len x hx
  have h2 := txtI_len y hy
  have h3 : innB x y = [17] ++ ((lenQ (txtI x).length ++ txtI x) ++ ((lenQ (txtI y).length ++ txtI y) ++ [])) := rfl
  rw [h3]
  simp only [List.length_append, List.length_cons, List.length_nil, h1, h2]
  have : ∀ n, (lenQ n).length = 4 := fun _ => rfl
  simp only [this]; decide
theorem iitem_spec (x y : Itm) (hx : x.ok) (hy : y.ok) : Spec Try.prog 50 [.agg [x.A, y.A]] [] (fun v os => v = (innI x y).A ∧ os = []) := by
  have h1 := bcommon_spec x.l y.l hx.1 hy.1
  have hcl : clamp ((comL x.l y.l : Nat) : Int) = comL x.l y.l := by have := comL_256 (b := y.l) hx.1; unfold clamp; omega
  have h2 := bcut_spec x.l hx.1 ((comL x.l y.l : Nat) : Int)
  rw [hcl] at h2
  have h3 := innB_spec x y hx hy
  have h4 := sum_spec (innB x y) (by have := innB_len x y hx hy; omega)
  have hA : (innI x y).A = .agg [pfxA (comL x.l y.l : Nat) (cutL x.l (comL x.l y.l)), labA (shaN (innB x y)), .i .i64 (if y.t > x.t then y.t else x.t)] := rfl
  rw [hA]
  generalize innB x y = b at h3 h4
  generalize shaN b = s at h4
  generalize comL x.l y.l = c at h1 h2
  generalize cutL x.l c = cl at h2
  obtain ⟨n, l, s1, t⟩ := x
  obtain ⟨n2, l2, s2, t2⟩ := y
  dsimp only at h1 h2 ⊢
  have h3 : Spec Try.prog 123 [.agg [.agg [pfxA n l, labA s1, .i .i64 t], .agg [pfxA n2 l2, labA s2, .i .i64 t2]]] [] (fun v os => v = .s b ∧ os = []) := h3
  show Spec Try.prog 50 [.agg [.agg [pfxA n l, labA s1, .i .i64 t], .agg [pfxA n2 l2, labA s2, .i .i64 t2]]] [] _
  refine spec_of TtOk [] Try.func50 rfl Try.ntmps50 (by kernel_rfl) rfl rfl (fun C => ?_) rfl
  repeat' (first | refine Awp.seq ?_ | refine Awp.region ?_ | (refine Ops.nil ?_; show Awp _ _ _ _ _) | (refine Awp.ret ?_; show endK _ _ _ _ _) | (refine o_calm rfl TtOk rfl rfl rfl ?_ (fun _ => ?_); first | exact True.intro | exact ⟨rfl, rfl, rfl, rfl⟩ | exact ⟨rfl, True.intro⟩ | exact ⟨rfl, rfl⟩ | exact ⟨rfl, rfl, rfl⟩ | exact rfl | exact ⟨fun h0 => by cases h0, rfl⟩ | exact (fun h0 => by cases h0) | exact ⟨rfl, by omega⟩ | exact ⟨Nat.succ_ne_zero _, rfl⟩ | omega) | refine o_alloc (d := 2) rfl TtOk rfl rfl rfl (fun b2 => ?_) | refine o_alloc (d := 3) rfl TtOk rfl rfl rfl (fun b3 => ?_) | refine o_box (d := 1) rfl rfl rfl rfl (fun b1 => ?_) | refine o_store TtOk rfl rfl rfl rfl rfl rfl rfl ⟨rfl, rfl⟩ rfl rfl rfl rfl rfl ?_ | refine o_build TtOk rfl rfl rfl rfl rfl rfl (by repeat' (first | exact True.intro | exact rfl | refine ⟨?_, ?_⟩)) ?_ | (refine Ops.nil ?_; show AnyT _ _ _ _ _ _ _ _ _ _) | refine a_anyT 1 [3] [7, 11, 15] [16, 17, 3] (by kernel_rfl) (by kernel_rfl) (n := 16) (listed := [false, false, false, false, false, false, false, false, false, false, false, false, false, false, false, false].toArray) rfl (by kernel_rfl) ?_ | refine t_path (n := 16) (listed := [false, false, false, false, false, false, false, false, false, false, false, false, false, false, false, false].toArray) [0, 1, 2, 4, 5, 6, 8, 9, 10, 3, 7, 11] 4 [true, true, true, true, true, true, true, true, true, true, true, true, false, false, false, false] (by kernel_rfl) rfl rfl rfl (by kernel_rfl) ?_ | refine t_two (n := 4) (listed := [true, true, true, true, true, true, true, true, true, true, true, true, false, false, false, false].toArray) 12 14 [true, true, true, true, true, true, true, true, true, true, true, true, true, false, false, false] [true, true, true, true, true, true, true, true, true, true, true, true, false, false, true, false] rfl (by kernel_rfl) rfl rfl (by kernel_rfl) (by kernel_rfl) ?_ ?_ | refine t_two (n := 3) (listed := [true, true, true, true, true, true, true, true, true, true, true, true, true, false, false, false].toArray) 13 14 [true, true, true, true, true, true, true, true, true, true, true, true, true, true, false, false] [true, true, true, true, true, true, true, true, true, true, true, true, true, false, true, false] rfl (by kernel_rfl) rfl rfl (by kernel_rfl) (by kernel_rfl) ?_ ?_ | refine t_path (n := 2) (listed := [true, true, true, true, true, true, true, true, true, true, true, true, true, true, false, false].toArray) [14, 15] 0 [true, true, true, true, true, true, true, true, true, true, true, true, true, true, true, true] (by kernel_rfl) rfl rfl rfl (by kernel_rfl) ?_ | refine t_fin (n := 0) (listed := [true, true, true, true, true, true, true, true, true, true, true, true, true, true, true, true].toArray) (by kernel_rfl) ?_ | refine t_path (n := 2) (listed := [true, true, true, true, true, true, true, true, true, true, true, true, true, false, true, false].toArray) [13, 15] 0 [true, true, true, true, true, true, true, true, true, true, true, true, true, true, true, true] (by kernel_rfl) rfl rfl rfl (by kernel_rfl) ?_ | refine t_path (n := 3) (listed := [true, true, true, true, true, true, true, true, true, true, true, true, false, false, true, false].toArray) [12, 13, 15] 0 [true, true, true, true, true, true, true, true, true, true, true, true, true, true, true, true] (by kernel_rfl) rfl rfl rfl (by kernel_rfl) ?_ | refine a_any 2 [2] [18, 19, 24, 27] [20, 21] [4, 5, 7, 8, 0, 1, 6, 9, 10, 2, 3, 11, 12] (by kernel_rfl) (by kernel_rfl) (by kernel_rfl) rfl rfl rfl ?_ | (refine o_call0 rfl (h1) ⟨SLe.of_eq rfl, SLe.of_eq rfl, True.intro⟩ rfl ?_; rintro _ _ ⟨rfl, rfl⟩; refine ⟨rfl, ?_⟩) | (refine o_call0 rfl (h2) ⟨SLe.of_eq rfl, SLe.of_eq rfl, True.intro⟩ rfl ?_; rintro _ _ ⟨rfl, rfl⟩; refine ⟨rfl, ?_⟩) | (refine o_call0 rfl (h3) ⟨SLe.of_eq rfl, True.intro⟩ rfl ?_; rintro _ _ ⟨rfl, rfl⟩; refine ⟨rfl, ?_⟩) | (refine o_call0 rfl (h4) ⟨SLe.of_eq rfl, True.intro⟩ rfl ?_; rintro _ _ ⟨rfl, rfl⟩; refine ⟨rfl, ?_⟩))
  all_goals
    refine end_all [] [] (.agg [pfxA (c : Nat) cl, labA s, .i .i64 (if t2 > t then t2 else t)]) rfl ?_ ?_ (rle_one (CLe.of_eq rfl) rfl) .nil ⟨rfl, rfl⟩ _ (.inl rfl)
    · repeat' (first | exact True.intro | exact rfl | refine ⟨?_, ?_⟩)
    · exact ⟨trivial, trivial⟩
theorem sjoin0_spec (tag : UInt8) : Spec Try.prog 88 [byA tag, .sl 1 []] [] (fun v os => v = labA (shaN [tag]) ∧ os = []) := by
  refine spec_of TtOk [] Try.func88 rfl Try.ntmps88 (by kernel_rfl) rfl rfl (fun C => ?_) rfl
  have h1 := sum_spec [tag] (by show 1 ≤ _; decide)
  generalize shaN [tag] = s at h1
  repeat' (first | refine Awp.seq ?_ | refine Awp.block ?_ | refine Awp.region ?_ | (refine Ops.nil ?_; show Awp _ _ _ _ _) | (refine o_calm rfl TtOk rfl rfl rfl ?_ (fun _ => ?_); first | exact True.intro | exact ⟨rfl, rfl, rfl, rfl⟩ | exact ⟨rfl, True.intro⟩ | exact ⟨rfl, rfl⟩ | exact ⟨rfl, rfl, rfl⟩ | exact rfl | exact ⟨fun h0 => by cases h0, rfl⟩ | exact (fun h0 => by cases h0) | exact ⟨rfl, by omega⟩ | exact ⟨Nat.succ_ne_zero _, rfl⟩ | omega) | refine o_alloc (d := 4) rfl TtOk rfl rfl rfl (fun b4 => ?_) | refine o_buildSlice TtOk rfl rfl rfl rfl rfl rfl rfl rfl rfl rfl rfl (by repeat' (first | exact True.intro | exact rfl | refine ⟨?_, ?_⟩)) (fun _ => ?_))
  rename_i v10 _ _ _ _
  refine Awp.loop (fun _ : Unit => ⟨36, [(13, .i .i64 0), (12, .i .i64 0), (11, .sl 1 []), (5, .own 10 v10), (4, .ptr 4 b4 [] 0)], [(10, .row v10 5 1 [byA tag]), (4, .var b4 (.arr 1 32 (List.replicate 32 (.i .u8 0))))]⟩) (fun _ => True) (fun _ => 0) [] () trivial ?_ ?_
  · exact ⟨rfl, ⟨sle_i rfl, sle_i rfl, sle_sl rfl, sle_own, sle_ptr, True.intro⟩, HLe.cons 10 rfl (HOLe.refl _) (HLe.cons 4 rfl (HOLe.refl _) .nil)⟩
  rintro ⟨⟩ _
  repeat' (first | (refine o_toString TtOk rfl rfl rfl rfl rfl (by first | exact True.intro | exact rfl) rfl rfl rfl (s := [tag]) rfl ?_) | refine Awp.seq ?_ | refine Awp.region ?_ | (refine Ops.nil ?_; show Awp _ _ _ _ _) | (refine Awp.exit ?_; show Awp _ _ _ _ _) | (refine Awp.ret ?_; show endK _ _ _ _ _) | (refine o_calm rfl TtOk rfl rfl rfl ?_ (fun _ => ?_); first | exact True.intro | exact ⟨rfl, rfl, rfl, rfl⟩ | exact ⟨rfl, True.intro⟩ | exact ⟨rfl, rfl⟩ | exact ⟨rfl, rfl, rfl⟩ | exact rfl | exact ⟨fun h0 => by cases h0, rfl⟩ | exact (fun h0 => by cases h0) | exact ⟨rfl, by omega⟩ | exact ⟨Nat.succ_ne_zero _, rfl⟩ | omega) | refine o_store TtOk rfl rfl rfl rfl rfl rfl rfl ⟨rfl, rfl⟩ rfl rfl rfl rfl rfl ?_ | refine a_condF rfl ?_ | (refine o_call0 rfl (h1) ⟨SLe.of_eq rfl, True.intro⟩ rfl ?_; rintro _ _ ⟨rfl, rfl⟩; refine ⟨rfl, ?_⟩))
  refine end_all [] [] (labA s) rfl ?_ ?_ (rle_one (CLe.of_eq rfl) rfl) .nil ⟨rfl, rfl⟩ _ (.inl rfl)
  · repeat' (first | exact True.intro | exact rfl | refine ⟨?_, ?_⟩)
  · exact ⟨trivial, trivial⟩
theorem nempty_spec : Spec Try.prog 63 [] [] (fun v os => v = labA (shaN [18]) ∧ os = []) := by
  refine spec_of TtOk [] Try.func63 rfl Try.ntmps63 (by kernel_rfl) rfl rfl (fun C => ?_) rfl
  have h1 := sjoin0_spec 18
  generalize shaN [18] = s at h1
  repeat' (first | refine Awp.seq ?_ | refine Awp.region ?_ | (refine Ops.nil ?_; show Awp _ _ _ _ _) | (refine Awp.ret ?_; show endK _ _ _ _ _) | refine o_alloc (d := 0) rfl TtOk rfl rfl rfl (fun b0 => ?_) | refine o_store TtOk rfl rfl rfl rfl rfl rfl rfl ⟨rfl, rfl⟩ rfl rfl rfl rfl rfl ?_ | (refine o_call0 rfl h1 ⟨SLe.of_eq rfl, sle_nilsl, True.intro⟩ rfl ?_; rintro _ _ ⟨rfl, rfl⟩; refine ⟨rfl, ?_⟩))
  refine end_all [] [] (labA s) rfl ?_ ?_ (rle_one (CLe.of_eq rfl) rfl) .nil ⟨rfl, rfl⟩ _ (.inl rfl)
  · repeat' (first | exact True.intro | exact rfl | refine ⟨?_, ?_⟩)
  · exact ⟨trivial, trivial⟩
end Go.Proofs.Ytcmgpkibjdbonaa
namespace Go.Proofs.Ytcmgpkibjdbonaa
open Go Go.RowKit
section
variable {m : OM} {P : Program} {T : List (Nat × TI)} {C : Ctx} {ops : Array Oper} {l : List Oper} {K : St → Prop} {n : Nat} {sl : List (Nat × AV)} {hp : List (Nat × HO)} {d : Nat} {ty : Nat} {pos : String} {aft : Array Edge} {gd : Option (Nat × Bool)}
end
end Go.Proofs.Ytcmgpkibjdbonaa
