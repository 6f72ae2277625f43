/- seal.table, seal.Check, ref04.Check by rules. -/
import Derived.Test.YtfdcopbbnmialaaJ5Z
import Derived.Test.YtfdcopbbnmialaaTypes
set_option maxHeartbeats 4000000
set_option maxRecDepth 100000
namespace Go.Proofs.Ytfdcopbbnmialaa
open Go Go.RowKit
section
variable {m : OM} {P : Program} {T : List (Nat × TI)} {C : Ctx} {ops : Array Oper} {l : List Oper} {K : St → Prop} {n : Nat} {sl : List (Nat × AV)} {hp : List (Nat × HO)} {d : Nat} {ty : Nat} {pos : String} {aft : Array Edge} {gd : Option (Nat × Bool)}
/-- A load of an element of an array variable. -/
theorem o_loadArr (hT : TTOk P T) (hw : gval ops ⟨n, sl, hp⟩ gd = gwant gd) {t : Nat} {x : Operand} {key b off j sz mlen : Nat} {xs : List AV} {y : AV} {ti : TI}
    (hx : ev ⟨n, sl, hp⟩ x = .ptr key b [j] off) (ht : tget T t = some ti) (hg : hget hp key = some (.var b (.arr sz mlen xs))) (ho : j * sz = off) (hj : xs[j]? = some y) (hf : fits ti y) (hm : m.okc (some d) (some (some key)) = true) (hd : Nat.blt d n = true)
    (h : Ops m P C ops l ⟨n, (d, y) :: sl, hp⟩ K) : Ops m P C ops (⟨some d, .load t x, ty, pos, aft, gd⟩ :: l) ⟨n, sl, hp⟩ K := by
  refine Ops.calm hT hw (need := b = b ∧ j * sz + 0 = off ∧ fits ti y) (gain := True) (rd := some (some key)) (x := y) ?_ hm hd ⟨rfl, ho, hf⟩ (fun _ => h)
  simp [cv, cvLoad, hx, ht, hg, subAt, hj]
end
def u32A (x : Nat) : AV := .i .u32 x
def tab (i : Nat) : List Nat := (List.range 256).map (fun j => if j < i then crcN 8 j else 0)
theorem tab_len (i : Nat) : (tab i).length = 256 := by simp [tab]
theorem tab_zero : (tab 0).map u32A = List.replicate 256 (.i .u32 0) := by
  unfold tab
  rw [List.map_map]
  exact List.eq_replicate_iff.2 ⟨by simp, fun b hb => by
    obtain ⟨j, _, rfl⟩ := List.mem_map.1 hb
    simp [u32A]⟩
theorem tab_get {i j : Nat} (h : j < 256) : (tab i)[j]? = some (if j < i then crcN 8 j else 0) := by
  unfold tab; rw [List.getElem?_map, List.getElem?_range h]; rfl
theorem tab_set {i : Nat} (h : i < 256) : (tab i).set i (crcN 8 i) = tab (i + 1) := by
  apply List.ext_getElem?
  intro j
  rw [List.getElem?_set, tab_len]
  by_cases hij : i = j
  · subst hij
    rw [if_pos rfl, if_pos h, tab_get h, if_pos (by omega)]
  · rw [if_neg hij]
    by_cases hj : j < 256
    · rw [tab_get hj, tab_get hj]
      by_cases h1 : j < i
      · rw [if_pos h1, if_pos (by omega)]
      · rw [if_neg h1, if_neg (by omega)]
    · rw [List.getElem?_eq_none (by rw [tab_len]; omega), List.getElem?_eq_none (by rw [tab_len]; omega)]
theorem tab_full {j : Nat} (h : j < 256) : ((tab 256).map u32A)[j]? = some (u32A (crcN 8 j)) := by
  rw [List.getElem?_map, tab_get h, if_pos h, Option.map_some]
theorem shr1 (c : Nat) : (c : Int).fdiv (2 ^ (min (Int.toNat 1) (IntKind.bits .u32))) = ((c / 2 : Nat) : Int) := shr32 c (k := 1) (by decide)
theorem step_eq {c : Nat} (h : c < 4294967296) : bitsI .xor .u32 ((c : Int).fdiv (2 ^ (min (Int.toNat 1) (IntKind.bits .u32)))) (bitsI .and .u32 3988292384 (IntKind.u32.wrap (0 - bitsI .and .u32 (c : Int) 1))) = (crcStep c : Nat) := by
  rw [shr1, show (1 : Int) = ((1 : Nat) : Int) from rfl, and32 h (by decide), Nat.and_one_is_mod]
  unfold crcStep
  rcases Nat.mod_two_eq_zero_or_one c with h1 | h1
  · rw [h1, if_neg (by decide), show bitsI .and .u32 3988292384 (IntKind.u32.wrap (0 - ((0 : Nat) : Int))) = ((0 : Nat) : Int) by decide, xor32 (by omega) (by decide)]
  · rw [h1, if_pos rfl, show bitsI .and .u32 3988292384 (IntKind.u32.wrap (0 - ((1 : Nat) : Int))) = ((3988292384 : Nat) : Int) by decide, xor32 (by omega) (by decide)]
theorem table_spec : Spec Try.prog 37 [] [] (fun v os => v = .arr 1 256 ((tab 256).map u32A) ∧ os = []) := by
  refine spec_of TtOk [] Try.func37 rfl Try.ntmps37 (by kernel_rfl) rfl rfl (fun C => ?_) rfl
  repeat' (first | refine Awp.seq ?_ | refine Awp.block ?_ | refine Awp.region ?_ | (refine Ops.nil ?_; show Awp _ _ _ _ _) | (refine o_calm rfl TtOk rfl rfl rfl ?_ (fun _ => ?_); first | exact True.intro | exact ⟨rfl, rfl, rfl, rfl⟩ | exact ⟨rfl, True.intro⟩ | exact ⟨rfl, rfl⟩ | exact ⟨rfl, rfl, rfl⟩ | exact rfl | exact ⟨fun h0 => by cases h0, rfl⟩ | exact (fun h0 => by cases h0) | exact ⟨rfl, by omega⟩ | exact ⟨Nat.succ_ne_zero _, rfl⟩ | omega) | refine o_alloc (d := 0) rfl TtOk rfl rfl rfl (fun b0 => ?_) | refine o_alloc (d := 1) rfl TtOk rfl rfl rfl (fun b1 => ?_))
  refine Awp.loop (fun i : Nat => ⟨24, [(4, .i .i64 i), (1, .ptr 1 b1 [] 0), (0, .ptr 0 b0 [] 0)], [(1, .var b1 (.arr 1 256 ((tab i).map u32A))), (0, .var b0 (.arr 1 256 (List.replicate 256 (.i .u32 0))))]⟩) (fun i => i ≤ 256) (fun i => 256 - i) [] 0 (Nat.zero_le _) ?_ ?_
  · exact ⟨rfl, ⟨sle_i rfl, sle_ptr, sle_ptr, True.intro⟩, HLe.cons 1 rfl (HOLe.var (CLe.of_eq (by rw [tab_zero]))) (HLe.cons 0 rfl (HOLe.refl _) .nil)⟩
  intro i hi
  by_cases hlt : i < 256
  · have hst := tab_set hlt
    have hil : ((tab i).map u32A).length = 256 := by rw [List.length_map, tab_len]
    have hmap : ((tab i).map u32A).set i (u32A (crcN 8 i)) = (tab (i + 1)).map u32A := by rw [← List.map_set, hst]
    have hxi : ((tab i).map u32A)[i]? = some (u32A 0) := by rw [List.getElem?_map, tab_get hlt, if_neg (by omega), Option.map_some]
    generalize (tab i).map u32A = xs at hil hmap hxi ⊢
    repeat' (first | refine Awp.seq ?_ | refine Awp.block ?_ | refine Awp.region ?_ | (refine Ops.nil ?_; show Awp _ _ _ _ _) | (refine Awp.skip ?_; show Awp _ _ _ _ _) | (refine o_calm rfl TtOk rfl rfl rfl ?_ (fun _ => ?_); first | exact True.intro | exact ⟨rfl, rfl, rfl, rfl⟩ | exact ⟨rfl, True.intro⟩ | exact ⟨rfl, rfl⟩ | exact ⟨rfl, rfl, rfl⟩ | exact rfl | exact ⟨fun h0 => by cases h0, rfl⟩ | exact (fun h0 => by cases h0) | exact ⟨rfl, by omega⟩ | exact ⟨Nat.succ_ne_zero _, rfl⟩ | omega) | (refine a_condP rfl (fun hc => ?_) (fun hc => ?_)) <;> (try (exfalso; omega)))
    refine Awp.loop (fun k : Nat => ⟨24, [(9, .i .i64 k), (3, .i .u32 (crcN k i : Nat)), (2, .i .i64 i), (4, .i .i64 i), (1, .ptr 1 b1 [] 0), (0, .ptr 0 b0 [] 0)], [(1, .var b1 (.arr 1 256 xs)), (0, .var b0 (.arr 1 256 (List.replicate 256 (.i .u32 0))))]⟩) (fun k => k ≤ 8) (fun k => 8 - k) [] 0 (Nat.zero_le _) ?_ ?_
    · exact ⟨rfl, ⟨sle_i rfl, sle_i (uwrap32_lt (n := i) (by omega)), sle_i rfl, sle_i rfl, sle_ptr, sle_ptr, True.intro⟩, HLe.cons 1 rfl (HOLe.refl _) (HLe.cons 0 rfl (HOLe.refl _) .nil)⟩
    intro k hk
    have hst := step_eq (crcN_lt k (c := i) (by omega))
    rw [← crcN_succ] at hst
    have h8 : k = 8 → crcN k i = crcN 8 i := fun h => by rw [h]
    generalize hc0 : crcN k i = c0 at hst h8 ⊢
    generalize crcN 8 i = c8 at hmap h8
    repeat' (first | refine Awp.seq ?_ | refine Awp.block ?_ | refine Awp.region ?_ | (refine Ops.nil ?_; show Awp _ _ _ _ _) | (refine Ops.nil ?_; show Exists _) | (refine Awp.skip ?_; show Awp _ _ _ _ _) | (refine Awp.exit ?_; show Awp _ _ _ _ _) | (refine o_add rfl rfl rfl rfl ?_ ?_; omega) | (refine o_calm rfl TtOk rfl rfl rfl ?_ (fun _ => ?_); first | exact True.intro | exact ⟨rfl, rfl, rfl, rfl⟩ | exact ⟨rfl, True.intro⟩ | exact ⟨rfl, rfl⟩ | exact ⟨rfl, rfl, rfl⟩ | exact rfl | exact ⟨fun h0 => by cases h0, rfl⟩ | exact (fun h0 => by cases h0) | exact ⟨rfl, by omega⟩ | exact ⟨Nat.succ_ne_zero _, rfl⟩ | omega) | (refine a_condP rfl (fun hc => ?_) (fun hc => ?_)) <;> (try (exfalso; omega)))
    · exact ⟨k + 1, [], by omega, by omega, rfl, ⟨sle_i (by omega), sle_i hst, sle_i rfl, sle_i rfl, sle_ptr, sle_ptr, True.intro⟩, HLe.cons 1 rfl (HOLe.refl _) (HLe.cons 0 rfl (HOLe.refl _) .nil)⟩
    · refine o_indexArr TtOk rfl rfl rfl rfl rfl rfl i rfl (by omega) ?_
      refine o_storeArr TtOk rfl rfl rfl rfl rfl rfl ⟨rfl, rfl⟩ rfl rfl hxi rfl rfl ?_
      repeat' (first | refine Awp.region ?_ | (refine Ops.nil ?_; show Awp _ _ _ _ _) | (refine Ops.nil ?_; show Exists _) | (refine o_add rfl rfl rfl rfl ?_ ?_; omega) | (refine o_calm rfl TtOk rfl rfl rfl ?_ (fun _ => ?_); first | exact True.intro | exact ⟨rfl, rfl, rfl, rfl⟩ | exact ⟨rfl, True.intro⟩ | exact ⟨rfl, rfl⟩ | exact ⟨rfl, rfl, rfl⟩ | exact rfl | exact ⟨fun h0 => by cases h0, rfl⟩ | exact (fun h0 => by cases h0) | exact ⟨rfl, by omega⟩ | exact ⟨Nat.succ_ne_zero _, rfl⟩ | omega))
      refine ⟨i + 1, [], by omega, by omega, rfl, ⟨sle_i (by omega), sle_ptr, sle_ptr, True.intro⟩, HLe.cons 1 rfl (HOLe.var (CLe.of_eq ?_)) (HLe.cons 0 rfl (HOLe.refl _) .nil)⟩
      rw [← hmap, ← h8 (by omega)]; rfl
  · have hi2 : i = 256 := by omega
    subst hi2
    generalize (tab 256).map u32A = xs
    repeat' (first | refine Awp.seq ?_ | refine Awp.region ?_ | (refine Ops.nil ?_; show Awp _ _ _ _ _) | (refine Awp.exit ?_; show Awp _ _ _ _ _) | (refine Awp.ret ?_; show endK _ _ _ _ _) | (refine o_calm rfl TtOk rfl rfl rfl ?_ (fun _ => ?_); first | exact True.intro | exact ⟨rfl, rfl, rfl, rfl⟩ | exact ⟨rfl, True.intro⟩ | exact ⟨rfl, rfl⟩ | exact ⟨rfl, rfl, rfl⟩ | exact rfl | exact ⟨fun h0 => by cases h0, rfl⟩ | exact (fun h0 => by cases h0) | exact ⟨rfl, by omega⟩ | exact ⟨Nat.succ_ne_zero _, rfl⟩ | omega) | refine o_store TtOk rfl rfl rfl rfl rfl rfl rfl ⟨rfl, rfl⟩ rfl rfl rfl rfl rfl ?_ | refine a_condF rfl ?_)
    refine end_all [] [] (.arr 1 256 xs) rfl ?_ ?_ (rle_one (CLe.refl _) rfl) .nil ⟨rfl, rfl⟩ _ (.inl rfl)
    · repeat' (first | exact True.intro | exact rfl | refine ⟨?_, ?_⟩)
    · exact ⟨trivial, trivial⟩
theorem compl32 {c : Nat} (h : c < 4294967296) : bitsI .xor .u32 (if IntKind.u32.signed = true then -1 else IntKind.u32.max) (c : Int) = ((4294967295 - c : Nat) : Int) := by
  rw [show (if IntKind.u32.signed = true then -1 else IntKind.u32.max) = ((4294967295 : Nat) : Int) by decide, xor32 (by decide) h]
  have h1 := BitVec.toNat_not (x := BitVec.ofNat 32 c)
  rw [BitVec.not_def, BitVec.toNat_xor, BitVec.toNat_allOnes, BitVec.toNat_ofNat, Nat.mod_eq_of_lt h] at h1
  rw [h1]
theorem check_spec (s : List UInt8) (hs : s.length ≤ 1000000000000) : Spec Try.prog 28 [.s s] [] (fun v os => v = .i .u32 (crc s : Nat) ∧ os = []) := by
  refine spec_of TtOk [] Try.func28 rfl Try.ntmps28 (by kernel_rfl) rfl rfl (fun C => ?_) rfl
  have ht := table_spec
  have htf := fun j (h : j < 256) => tab_full h
  generalize (tab 256).map u32A = tb at ht htf
  repeat' (first | refine Awp.seq ?_ | refine Awp.block ?_ | refine Awp.region ?_ | (refine Ops.nil ?_; show Awp _ _ _ _ _) | refine o_len rfl TtOk rfl rfl rfl (fun _ => ?_) | (refine o_calm rfl TtOk rfl rfl rfl ?_ (fun _ => ?_); first | exact True.intro | exact ⟨rfl, rfl, rfl, rfl⟩ | exact ⟨rfl, True.intro⟩ | exact ⟨rfl, rfl⟩ | exact ⟨rfl, rfl, rfl⟩ | exact rfl | exact ⟨fun h0 => by cases h0, rfl⟩ | exact (fun h0 => by cases h0) | exact ⟨rfl, by omega⟩ | exact ⟨Nat.succ_ne_zero _, rfl⟩ | omega) | refine o_alloc (d := 3) rfl TtOk rfl rfl rfl (fun b3 => ?_) | refine o_store TtOk rfl rfl rfl rfl rfl rfl rfl ⟨rfl, rfl⟩ rfl rfl rfl rfl rfl ?_ | refine o_toBytes TtOk rfl rfl rfl rfl rfl rfl ?_ | (refine o_call0 rfl (ht) True.intro rfl ?_; rintro _ _ ⟨rfl, rfl⟩; refine ⟨rfl, ?_⟩))
  refine Awp.loop (fun k : Nat => ⟨27, [(11, .i .i64 k), (10, .i .i64 s.length), (9, .sl 1 (s.map byA)), (4, .i .u32 (crcLoop (s.take k) : Nat)), (3, .ptr 3 b3 [] 0)], [(3, .var b3 (.arr 1 256 tb))]⟩) (fun k => k ≤ s.length) (fun k => s.length - k) [] 0 (Nat.zero_le _) ?_ ?_
  · exact ⟨rfl, ⟨sle_i rfl, sle_i rfl, sle_sl rfl, sle_i rfl, sle_ptr, True.intro⟩, HLe.cons 3 rfl (HOLe.refl _) .nil⟩
  intro k hk
  by_cases hlt : k < s.length
  · have hl := crcLoop_lt (s.take k)
    have hsu := crcLoop_succ s k hlt
    have hct := crcByte_table (crcLoop (s.take k)) s[k]
    generalize crcLoop (s.take k) = c at hl hsu hct ⊢
    repeat' (first | refine Awp.seq ?_ | refine Awp.block ?_ | refine Awp.region ?_ | (refine Ops.nil ?_; show Awp _ _ _ _ _) | (refine Awp.skip ?_; show Awp _ _ _ _ _) | (refine o_calm rfl TtOk rfl rfl rfl ?_ (fun _ => ?_); first | exact True.intro | exact ⟨rfl, rfl, rfl, rfl⟩ | exact ⟨rfl, True.intro⟩ | exact ⟨rfl, rfl⟩ | exact ⟨rfl, rfl, rfl⟩ | exact rfl | exact ⟨fun h0 => by cases h0, rfl⟩ | exact (fun h0 => by cases h0) | exact ⟨rfl, by omega⟩ | exact ⟨Nat.succ_ne_zero _, rfl⟩ | omega) | (refine o_index rfl TtOk rfl rfl rfl rfl rfl rfl ?_ (getq_nat ?_) ?_; omega; omega) | (refine a_condP rfl (fun hc => ?_) (fun hc => ?_)) <;> (try (exfalso; omega)))
    have hb := s[k].toNat_lt
    have hx8 : bitsI .xor .u8 (IntKind.u8.wrap (c : Int)) (s[k].toNat : Int) = ((c % 256 ^^^ s[k].toNat : Nat) : Int) := by
      rw [bwrap_nat, xor8 (Nat.mod_lt _ (by decide)) hb]
    have hxl : c % 256 ^^^ s[k].toNat < 256 := Nat.xor_lt_two_pow (n := 8) (Nat.mod_lt _ (by decide)) hb
    have htj := htf _ hxl
    have hs8 : (c : Int).fdiv (2 ^ (min (Int.toNat 8) (IntKind.bits .u32))) = ((c / 256 : Nat) : Int) := shr32 c (k := 8) (by decide)
    have hT := crcN_lt 8 (c := c % 256 ^^^ s[k].toNat) (by omega)
    have hx32 := xor32 (x := crcN 8 (c % 256 ^^^ s[k].toNat)) (y := c / 256) hT (by omega)
    rw [hct, ← hs8] at hx32
    generalize c % 256 ^^^ s[k].toNat = j at hx8 hxl htj hT hct hx32
    generalize crcN 8 j = T at htj hT hct hx32
    refine o_indexArr TtOk rfl rfl rfl rfl rfl rfl j hx8 hxl ?_
    refine o_loadArr TtOk rfl rfl rfl rfl rfl htj ⟨rfl, rfl⟩ rfl rfl ?_
    repeat' (first | refine Awp.region ?_ | (refine Ops.nil ?_; show Awp _ _ _ _ _) | (refine Ops.nil ?_; show Exists _) | (refine o_add rfl rfl rfl rfl ?_ ?_; omega) | (refine o_calm rfl TtOk rfl rfl rfl ?_ (fun _ => ?_); first | exact True.intro | exact ⟨rfl, rfl, rfl, rfl⟩ | exact ⟨rfl, True.intro⟩ | exact ⟨rfl, rfl⟩ | exact ⟨rfl, rfl, rfl⟩ | exact rfl | exact ⟨fun h0 => by cases h0, rfl⟩ | exact (fun h0 => by cases h0) | exact ⟨rfl, by omega⟩ | exact ⟨Nat.succ_ne_zero _, rfl⟩ | omega))
    refine ⟨k + 1, [], hlt, by omega, rfl, ⟨sle_i (by omega), sle_i rfl, sle_sl rfl, sle_i ?_, sle_ptr, True.intro⟩, HLe.cons 3 rfl (HOLe.refl _) .nil⟩
    exact hx32.trans (by rw [← hsu])
  · have hkl : k = s.length := by omega
    subst hkl
    rw [List.take_length]
    have hl := crcLoop_lt s
    have hcd : crc s = 4294967295 - crcLoop s := rfl
    rw [hcd]
    generalize crcLoop s = c at hl ⊢
    repeat' (first | refine Awp.seq ?_ | refine Awp.region ?_ | (refine Ops.nil ?_; show Awp _ _ _ _ _) | (refine Awp.exit ?_; show Awp _ _ _ _ _) | (refine Awp.ret ?_; show endK _ _ _ _ _) | (refine o_calm rfl TtOk rfl rfl rfl ?_ (fun _ => ?_); first | exact True.intro | exact ⟨rfl, rfl, rfl, rfl⟩ | exact ⟨rfl, True.intro⟩ | exact ⟨rfl, rfl⟩ | exact ⟨rfl, rfl, rfl⟩ | exact rfl | exact ⟨fun h0 => by cases h0, rfl⟩ | exact (fun h0 => by cases h0) | exact ⟨rfl, by omega⟩ | exact ⟨Nat.succ_ne_zero _, rfl⟩ | omega) | (refine a_condP rfl (fun hc => ?_) (fun hc => ?_)) <;> (try (exfalso; omega)))
    refine end_tmp rfl rfl rfl [] [] (CLe.of_eq ?_) .nil ⟨rfl, rfl⟩ _ (.inl rfl)
    exact congrArg (AV.i .u32) (compl32 hl)
end Go.Proofs.Ytfdcopbbnmialaa
