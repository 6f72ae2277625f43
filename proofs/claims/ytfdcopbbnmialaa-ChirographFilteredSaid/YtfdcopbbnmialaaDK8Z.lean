/- disk.Crash of a disk all of whose bytes are sure, by rules. -/
import Derived.Test.YtfdcopbbnmialaaJ2Z
import Derived.Test.YtfdcopbbnmialaaJ5Z
import Derived.Test.YtfdcopbbnmialaaTypes
set_option maxHeartbeats 16000000
set_option maxRecDepth 100000
namespace Go.Proofs.Ytfdcopbbnmialaa
open Go Go.RowKit
section
variable {m : OM} {P : Program} {C : Ctx} {ops : Array Oper} {l : List Oper} {K : St → Prop} {n : Nat} {sl : List (Nat × AV)} {hp : List (Nat × HO)} {d : Nat} {ty : Nat} {pos : String} {aft : Array Edge}
/-- Any number rests nothing by one. -/
theorem o_rem1 {gd : Option (Nat × Bool)} (hw : gval ops ⟨n, sl, hp⟩ gd = gwant gd) {x y : Operand} {t t' : Nat} {a b : Int} (hx : ev ⟨n, sl, hp⟩ x = .i .i64 a) (hy : ev ⟨n, sl, hp⟩ y = .i .i64 b) (hd : Nat.blt d n = true) (hb : b = 1)
    (h : Ops m P C ops l ⟨n, (d, .i .i64 0) :: sl, hp⟩ K) : Ops m P C ops (⟨some d, .binOp .rem t x y t', ty, pos, aft, gd⟩ :: l) ⟨n, sl, hp⟩ K := by
  subst hb
  have h1 : a.tmod 1 = 0 := Int.tmod_one a
  refine Ops.calm (T := []) (fun p hp => by cases hp) hw (x := .i .i64 0) (need := IntKind.i64 = IntKind.i64 ∧ (1 : Int) ≠ 0) (gain := True) (rd := none) ?_ okc_none hd ⟨rfl, by omega⟩ (fun _ => h)
  simp only [cv, hx, hy, cvBin, cvInt, h1]
end
def crsD (D : Dsk) : Dsk := ⟨D.room, -1, false, D.fs, D.clk⟩
theorem crash_spec (bd bm : Nat) (D : Dsk) (ks : List Int) (ok : D.ok) (hl : D.fs.length ≤ 1000000) (hu : D.used ≤ 1099511627776) (hs : ∀ f ∈ D.fs, f.sure = f.b.length) (hkl : ks.length ≤ 9223372036854775807) : Spec Try.prog 9 [.ptr 0 bd [] 0, .sl 1 (ks.map (AV.i .i64))] (dskL bd bm D) (fun v os => v = .tup [] ∧ os = dskL bd bm (crsD D)) := by
  have hL : dskL bd bm D = [.var bd (.agg [.i .i64 D.room, .own 1 (.map (some bm)), .i .i64 D.fuse, .b D.dead]), .obj bm (mpO D.es D.clk), grpL (D.fs.map Fil.O)] := rfl
  have hL2 : dskL bd bm (crsD D) = [.var bd (.agg [.i .i64 D.room, .own 1 (.map (some bm)), .i .i64 (-1), .b false]), .obj bm (mpO D.es D.clk), grpL (D.fs.map Fil.O)] := rfl
  rw [hL, hL2]
  have k1 := keysIt_spec bm D.clk D.es
  have hel : D.es.length ≤ 1000000 := by unfold Dsk.es; rw [List.length_map]; exact hl
  have k2 := fun bi => sortedIt_spec 61 bm bi D.clk D.es hel (es_nl ok) (es_lt ok) (es_bn ok) (by rw [es_nm]; exact ok.nd)
  rw [es_nm] at k2
  have hmem : ∀ s ∈ sortN (D.fs.map (·.nm)), ∃ f, D.get s = some f := fun s h => by
    have h1 : s ∈ D.fs.map (·.nm) := (List.mergeSort_perm _ _).mem_iff.1 h
    obtain ⟨f, hf, rfl⟩ := List.mem_map.1 h1
    cases hg : D.get f.nm with
    | some g => exact ⟨g, rfl⟩
    | none =>
      have := List.find?_eq_none.1 hg f hf
      simp at this
  generalize sortN (D.fs.map (·.nm)) = S at *
  refine spec_of TtOk [(0, .var bd (.agg [.i .i64 D.room, .own 1 (.map (some bm)), .i .i64 D.fuse, .b D.dead])), (1, .obj bm (mpO D.es D.clk)), (2, grpL (D.fs.map Fil.O))] Try.func9 rfl Try.ntmps9 (by kernel_rfl) rfl rfl (fun C => ?_) rfl
  repeat' (first | refine Awp.seq ?_ | refine Awp.block ?_ | refine Awp.region ?_ | (refine Ops.nil ?_; show Awp _ _ _ _ _) | refine o_lenOwn rfl TtOk rfl rfl rfl rfl (fun _ => ?_) | (refine o_calm rfl TtOk rfl rfl rfl ?_ (fun _ => ?_); first | exact True.intro | exact ⟨rfl, rfl, rfl, rfl⟩ | exact ⟨rfl, True.intro⟩ | exact ⟨rfl, rfl⟩ | exact ⟨rfl, rfl, rfl⟩ | exact rfl | exact ⟨fun h0 => by cases h0, rfl⟩ | exact (fun h0 => by cases h0) | exact ⟨rfl, by omega⟩ | exact ⟨Nat.succ_ne_zero _, rfl⟩ | omega) | (refine o_call [] [1] [1, 60] rfl k1 ⟨sle_own, True.intro⟩ rfl ⟨HOLe.refl _, True.intro⟩ rfl rfl ?_; rintro _ _ ⟨bi, rfl, rfl⟩; refine ⟨_, rfl, rfl, ?_⟩) | (refine o_call [] [1, 60] [1, 60, 61] rfl (k2 _) ⟨SLe.of_eq rfl, True.intro⟩ rfl ⟨HOLe.refl _, HOLe.refl _, True.intro⟩ rfl rfl ?_; rintro _ _ ⟨vS, rfl, rfl⟩; refine ⟨_, rfl, rfl, ?_⟩))
  clear k1 k2
  refine Awp.loop (fun i : Nat => ⟨82, [(16, .i .i64 i), (15, .i .i64 S.length), (14, .sl 1 (S.map AV.s)), (0, .ptr 0 bd [] 0), (1, .sl 1 (ks.map (AV.i .i64)))], [(0, .var bd (.agg [.i .i64 D.room, .own 1 (.map (some bm)), .i .i64 D.fuse, .b D.dead])), (1, .obj bm (mpO D.es D.clk)), (2, grpL (D.fs.map Fil.O))]⟩) (fun i => i ≤ S.length) (fun i => S.length - i) [61] 0 (Nat.zero_le _) ?_ ?_
  · exact ⟨rfl, ⟨sle_i rfl, sle_i rfl, SLe.of_cle (CLe.fz (.head _)) rfl, sle_ptr, sle_sl rfl, True.intro⟩, HLe.cons 0 rfl (HOLe.refl _) (HLe.cons 1 rfl (HOLe.refl _) (HLe.cons 2 rfl (HOLe.refl _) .nil))⟩
  intro i hi
  by_cases hlt : i < S.length
  · have hi1 : ((i : Int) + 1 = ((i + 1 : Nat) : Int)) := by omega
    obtain ⟨f, hgt⟩ := hmem _ (List.getElem_mem hlt)
    have hget := blkP_get D S[i]
    rw [hgt] at hget
    have hlk : pqA 3 (blkP S[i] D.es) = .ptr 3 f.blk [] 0 := by rw [hget]; rfl
    obtain ⟨hfm, hfn⟩ := get_mem hgt
    have hsf := hs f hfm
    obtain ⟨s, r, hst⟩ := List.append_of_mem hfm
    have hpm : D.fs.Perm (f :: (s ++ r)) := by rw [hst]; exact List.perm_middle
    have hul : D.used = f.b.length + usedF (s ++ r) := by
      have := usedF_perm hpm
      rw [usedF_cons] at this
      exact this
    have kc := bclone_spec f.b (by omega)
    have hos1 : (D.fs.map Fil.O).Perm (HO.var f.blk (.agg [.sl 1 (f.b.map byA), .i .i64 f.sure]) :: (s ++ r).map Fil.O) := hpm.map Fil.O
    rw [hsf] at hos1
    have hn1 : ((f.b.length : Int) - (f.b.length : Int) + 1) = 1 := by omega
    have htk : AV.sl 1 (((f.b.take f.b.length).drop 0).map byA) = AV.sl 1 (f.b.map byA) := by rw [List.take_length, List.drop_zero]
    refine Awp.pull 2 3 rfl hos1 rfl ?_
    by_cases h0 : ks = []
    · subst h0
      repeat' (first | (rw [hn1]) | refine Awp.seq ?_ | refine Awp.block ?_ | refine Awp.region ?_ | (refine Ops.nil ?_; show Awp _ _ _ _ _) | (refine Ops.nil ?_; show Exists _) | (refine Awp.skip ?_; show Awp _ _ _ _ _) | (refine o_add rfl rfl rfl rfl ?_ ?_; omega) | (refine o_sub rfl rfl rfl rfl ?_ ?_; omega) | refine o_len rfl TtOk rfl rfl rfl (fun _ => ?_) | (refine o_calm rfl TtOk rfl rfl rfl ?_ (fun _ => ?_); first | exact True.intro | exact ⟨rfl, rfl, rfl, rfl⟩ | exact ⟨rfl, True.intro⟩ | exact ⟨rfl, rfl⟩ | exact ⟨rfl, rfl, rfl⟩ | exact rfl | exact ⟨fun h0 => by cases h0, rfl⟩ | exact (fun h0 => by cases h0) | exact ⟨rfl, by omega⟩ | exact ⟨Nat.succ_ne_zero _, rfl⟩ | omega) | refine o_store TtOk rfl rfl rfl rfl rfl rfl rfl ⟨rfl, rfl⟩ rfl rfl rfl rfl rfl ?_ | (refine o_index rfl TtOk rfl rfl rfl rfl rfl rfl ?_ (getq_nat ?_) ?_; omega; omega) | refine a_condF rfl ?_ | (refine a_condP rfl (fun hc => ?_) (fun hc => ?_)) <;> (try (exfalso; omega)) | refine a_any 4 [] [] [] [0, 1, 2, 5, 6, 7, 3, 4, 8, 9, 10, 11] (by kernel_rfl) (by kernel_rfl) (by kernel_rfl) rfl rfl rfl ?_ | refine a_any 9 [3] [66, 70] [] [0, 1, 2, 3, 5, 6, 7, 4, 8, 9, 10, 11, 12, 13] (by kernel_rfl) (by kernel_rfl) (by kernel_rfl) rfl rfl rfl ?_ | (refine o_lookupP 3 TtOk rfl rfl rfl rfl rfl rfl rfl hlk rfl ?_) | (refine o_sliceSl TtOk rfl 0 f.b.length rfl rfl rfl rfl rfl bnd_none (bnd_some rfl (by omega)) (by omega) (by omega) ?_) | (refine o_callR rfl kc ⟨SLe.of_eq htk, True.intro⟩ rfl (fun vR => ?_)))
      all_goals exact ⟨i + 1, [72], by omega, by omega, rfl, ⟨sle_i hi1, sle_i rfl, sle_sl rfl, sle_ptr, sle_sl rfl, True.intro⟩, HLe.cons 0 rfl (HOLe.refl _) (HLe.cons 1 rfl (HOLe.refl _) (HLe.push 3 2 rfl (HOLe.var (CLe.agg (.cons (CLe.fz (.head _)) (.cons (CLe.of_eq (congrArg (AV.i .i64) (Int.add_zero _))) .nil)))) rfl hos1 .nil))⟩
    · have hp : 0 < ks.length := List.length_pos_iff.2 h0
      have hj : i % ks.length < ks.length := Nat.mod_lt _ hp
      have hmod : ((i : Int) % (ks.length : Int)) = ((i % ks.length : Nat) : Int) := rfl
      repeat' (first | (refine o_rem1 rfl rfl rfl rfl rfl ?_) | (rw [hmod]) | (rw [hn1]) | refine Awp.seq ?_ | refine Awp.block ?_ | refine Awp.region ?_ | (refine Ops.nil ?_; show Awp _ _ _ _ _) | (refine Ops.nil ?_; show Exists _) | (refine Awp.skip ?_; show Awp _ _ _ _ _) | (refine o_add rfl rfl rfl rfl ?_ ?_; omega) | (refine o_sub rfl rfl rfl rfl ?_ ?_; omega) | (refine o_rem rfl rfl rfl rfl ?_ ?_ ?_; omega; omega) | refine o_len rfl TtOk rfl rfl rfl (fun _ => ?_) | (refine o_calm rfl TtOk rfl rfl rfl ?_ (fun _ => ?_); first | exact True.intro | exact ⟨rfl, rfl, rfl, rfl⟩ | exact ⟨rfl, True.intro⟩ | exact ⟨rfl, rfl⟩ | exact ⟨rfl, rfl, rfl⟩ | exact rfl | exact ⟨fun h0 => by cases h0, rfl⟩ | exact (fun h0 => by cases h0) | exact ⟨rfl, by omega⟩ | exact ⟨Nat.succ_ne_zero _, rfl⟩ | omega) | refine o_store TtOk rfl rfl rfl rfl rfl rfl rfl ⟨rfl, rfl⟩ rfl rfl rfl rfl rfl ?_ | (refine o_index rfl TtOk rfl rfl rfl rfl rfl rfl ?_ (getq_nat ?_) ?_; omega; omega) | (refine a_condP rfl (fun hc => ?_) (fun hc => ?_)) <;> (try (exfalso; omega)) | refine a_any 4 [] [] [] [0, 1, 2, 5, 6, 7, 3, 4, 8, 9, 10, 11] (by kernel_rfl) (by kernel_rfl) (by kernel_rfl) rfl rfl rfl ?_ | refine a_any 9 [3] [66, 70] [] [0, 1, 2, 3, 5, 6, 7, 4, 8, 9, 10, 11, 12, 13] (by kernel_rfl) (by kernel_rfl) (by kernel_rfl) rfl rfl rfl ?_ | (refine o_lookupP 3 TtOk rfl rfl rfl rfl rfl rfl rfl hlk rfl ?_) | (refine o_sliceSl TtOk rfl 0 f.b.length rfl rfl rfl rfl rfl bnd_none (bnd_some rfl (by omega)) (by omega) (by omega) ?_) | (refine o_callR rfl kc ⟨SLe.of_eq htk, True.intro⟩ rfl (fun vR => ?_)))
      all_goals exact ⟨i + 1, [72], by omega, by omega, rfl, ⟨sle_i hi1, sle_i rfl, sle_sl rfl, sle_ptr, sle_sl rfl, True.intro⟩, HLe.cons 0 rfl (HOLe.refl _) (HLe.cons 1 rfl (HOLe.refl _) (HLe.push 3 2 rfl (HOLe.var (CLe.agg (.cons (CLe.fz (.head _)) (.cons (CLe.of_eq (congrArg (AV.i .i64) (Int.add_zero _))) .nil)))) rfl hos1 .nil))⟩
  · repeat' (first | refine Awp.seq ?_ | refine Awp.region ?_ | (refine Ops.nil ?_; show Awp _ _ _ _ _) | (refine Ops.nil ?_; show endK _ _ _ _ _) | (refine Awp.exit ?_; show Awp _ _ _ _ _) | (refine o_calm rfl TtOk rfl rfl rfl ?_ (fun _ => ?_); first | exact True.intro | exact ⟨rfl, rfl, rfl, rfl⟩ | exact ⟨rfl, True.intro⟩ | exact ⟨rfl, rfl⟩ | exact ⟨rfl, rfl, rfl⟩ | exact rfl | exact ⟨fun h0 => by cases h0, rfl⟩ | exact (fun h0 => by cases h0) | exact ⟨rfl, by omega⟩ | exact ⟨Nat.succ_ne_zero _, rfl⟩ | omega) | refine o_store TtOk rfl rfl rfl rfl rfl rfl rfl ⟨rfl, rfl⟩ rfl rfl rfl rfl rfl ?_ | (refine a_condP rfl (fun hc => ?_) (fun hc => ?_)) <;> (try (exfalso; omega)))
    all_goals exact end_none rfl [] [(0, _), (1, _), (2, _)] (HLe.cons 0 rfl (HOLe.refl _) (HLe.cons 1 rfl (HOLe.refl _) (HLe.cons 2 rfl (HOLe.refl _) .nil))) ⟨rfl, rfl⟩ _ (by first | exact .inl rfl | exact .inr rfl)
end Go.Proofs.Ytfdcopbbnmialaa
set_option maxHeartbeats 4000000
namespace Go.Proofs.Ytfdcopbbnmialaa
open Go Go.RowKit

def hRound (h : Nat) (c : UInt8) : Nat := ((h ^^^ c.toNat) * 1099511628211) % 18446744073709551616
def hMid (h : Nat) : Nat := ((h ^^^ (h / 2 ^ 29)) * 13787848793156543929) % 18446744073709551616
def hFin (h : Nat) : Nat := hMid h ^^^ (hMid h / 2 ^ 32)
def hLoop (s : List UInt8) : Nat := s.foldl hRound 14695981039346656037
def hashN (s : List UInt8) : Nat := hFin (hLoop s)
theorem hLoop_succ (s : List UInt8) (k : Nat) (h : k < s.length) : hLoop (s.take (k + 1)) = hRound (hLoop (s.take k)) (s[k]'h) := by
  unfold hLoop; rw [List.take_succ_eq_append_getElem h, List.foldl_append, List.foldl_cons, List.foldl_nil]
theorem hRound_lt (h : Nat) (c : UInt8) : hRound h c < 18446744073709551616 := Nat.mod_lt _ (by decide)
theorem hLoop_lt (s : List UInt8) : hLoop s < 18446744073709551616 := by
  unfold hLoop
  have : ∀ (s : List UInt8) (h : Nat), h < 18446744073709551616 → s.foldl hRound h < 18446744073709551616 := by
    intro s
    induction s with
    | nil => intro h hh; exact hh
    | cons c s ih => intro h _; exact ih _ (hRound_lt h c)
  exact this s _ (by decide)
theorem hMid_lt (h : Nat) : hMid h < 18446744073709551616 := Nat.mod_lt _ (by decide)
theorem div_lt64 {n k : Nat} (h : n < 18446744073709551616) : n / 2 ^ k < 18446744073709551616 := Nat.lt_of_le_of_lt (Nat.div_le_self _ _) h
theorem hashN_lt (s : List UInt8) : hashN s < 18446744073709551616 := Nat.xor_lt_two_pow (n := 64) (hMid_lt _) (div_lt64 (hMid_lt _))
theorem round_eq {h : Nat} (hh : h < 18446744073709551616) (c : UInt8) : IntKind.u64.wrap (bitsI .xor .u64 (h : Int) (IntKind.u64.wrap (c.toNat : Int)) * 1099511628211) = (hRound h c : Int) := by
  have hc := c.toNat_lt
  rw [uwrap_lt (by omega), xor64 hh (by omega), show ((h ^^^ c.toNat : Nat) : Int) * 1099511628211 = (((h ^^^ c.toNat) * 1099511628211 : Nat) : Int) by rw [Int.natCast_mul]; rfl, uwrap_nat]; rfl
theorem mid_eq {h : Nat} (hh : h < 18446744073709551616) : IntKind.u64.wrap (bitsI .xor .u64 (h : Int) ((h : Int).fdiv (2 ^ (min (Int.toNat 29) (IntKind.bits .u64)))) * 13787848793156543929) = (hMid h : Int) := by
  have e : (h : Int).fdiv (2 ^ (min (Int.toNat 29) (IntKind.bits .u64))) = ((h / 2 ^ 29 : Nat) : Int) := shr64 h (k := 29) (by decide)
  rw [e, xor64 hh (div_lt64 hh), show ((h ^^^ (h / 2 ^ 29) : Nat) : Int) * 13787848793156543929 = (((h ^^^ (h / 2 ^ 29)) * 13787848793156543929 : Nat) : Int) by rw [Int.natCast_mul]; rfl, uwrap_nat]; rfl
theorem fin_eq {h : Nat} (hh : h < 18446744073709551616) : bitsI .xor .u64 (h : Int) ((h : Int).fdiv (2 ^ (min (Int.toNat 32) (IntKind.bits .u64)))) = ((h ^^^ (h / 2 ^ 32) : Nat) : Int) := by
  have e : (h : Int).fdiv (2 ^ (min (Int.toNat 32) (IntKind.bits .u64))) = ((h / 2 ^ 32 : Nat) : Int) := shr64 h (k := 32) (by decide)
  rw [e, xor64 hh (div_lt64 hh)]
theorem hash_spec (s : List UInt8) (hs : s.length ≤ 1000000000000) : Spec Try.prog 35 [.s s] [] (fun v os => v = .i .u64 (hashN s : Nat) ∧ os = []) := by
  refine spec_of TtOk [] Try.func35 rfl Try.ntmps35 (by kernel_rfl) rfl rfl (fun C => ?_) rfl
  repeat' (first | refine Awp.seq ?_ | refine Awp.block ?_ | refine Awp.region ?_ | (refine Ops.nil ?_; show Awp _ _ _ _ _) | refine o_len rfl TtOk rfl rfl rfl (fun _ => ?_) | (refine o_calm rfl TtOk rfl rfl rfl ?_ (fun _ => ?_); first | exact True.intro | exact ⟨rfl, rfl, rfl, rfl⟩ | exact ⟨rfl, True.intro⟩ | exact ⟨rfl, rfl⟩ | exact ⟨rfl, rfl, rfl⟩ | exact rfl | exact ⟨fun h0 => by cases h0, rfl⟩ | exact (fun h0 => by cases h0) | exact ⟨rfl, by omega⟩ | exact ⟨Nat.succ_ne_zero _, rfl⟩ | omega) | refine o_toBytes TtOk rfl rfl rfl rfl rfl rfl ?_)
  refine Awp.loop (fun (k : Nat) => ⟨29, [(3, .i .u64 (hLoop (s.take k) : Nat)), (9, .i .i64 k), (8, .i .i64 s.length), (7, .sl 1 (s.map byA))], []⟩) (fun k => k ≤ s.length) (fun k => s.length - k) [] 0 (Nat.zero_le _) ?_ ?_
  · refine ⟨rfl, ?_, ?_⟩ <;> repeat' (first | exact True.intro | refine sle_i ?_ | refine sle_sl ?_ | exact HLe.nil | with_reducible rfl | refine ⟨?_, ?_⟩ | fail)
    all_goals rfl
  rintro k hk
  have hst := fun hlt => round_eq (hLoop_lt (s.take k)) (s[k]'hlt)
  have hst2 : ∀ hlt : k < s.length, hRound (hLoop (s.take k)) (s[k]'hlt) = hLoop (s.take (k + 1)) := fun hlt => (hLoop_succ s k hlt).symm
  have hend : k = s.length → hLoop (s.take k) = hLoop s := fun h => by rw [h, List.take_length]
  generalize hLoop (s.take k) = h at hst hst2 hend ⊢
  repeat' (first | refine Awp.seq ?_ | refine Awp.block ?_ | refine Awp.region ?_ | (refine Ops.nil ?_; show Awp _ _ _ _ _) | (refine Ops.nil ?_; show Exists _) | (refine Awp.skip ?_; show Awp _ _ _ _ _) | (refine Awp.exit ?_; show Awp _ _ _ _ _) | (refine Awp.ret ?_; show endK _ _ _ _ _) | (refine o_add rfl rfl rfl rfl ?_ ?_; omega) | (refine o_calm rfl TtOk rfl rfl rfl ?_ (fun _ => ?_); first | exact True.intro | exact ⟨rfl, rfl, rfl, rfl⟩ | exact ⟨rfl, True.intro⟩ | exact ⟨rfl, rfl⟩ | exact ⟨rfl, rfl, rfl⟩ | exact rfl | exact ⟨fun h0 => by cases h0, rfl⟩ | exact (fun h0 => by cases h0) | exact ⟨rfl, by omega⟩ | exact ⟨Nat.succ_ne_zero _, rfl⟩ | omega) | (refine o_index rfl TtOk rfl rfl rfl rfl rfl rfl ?_ (getq_nat ?_) ?_; omega; omega) | (refine a_condP rfl (fun hc => ?_) (fun hc => ?_)) <;> (try (exfalso; omega)))
  · have hlt' : k < s.length := by omega
    refine ⟨k + 1, [], hlt', by omega, ?_⟩
    refine ⟨rfl, ?_, ?_⟩ <;> repeat' (first | exact True.intro | refine sle_i ?_ | refine sle_sl ?_ | exact HLe.nil | with_reducible rfl | refine ⟨?_, ?_⟩ | fail)
    all_goals first | exact (hst hlt').trans (congrArg _ (hst2 hlt')) | omega
  · have hkk : k = s.length := by omega
    refine end_tmp rfl rfl rfl [] [] (CLe.of_eq ?_) .nil ⟨rfl, rfl⟩ _ (.inl rfl)
    have h1 := mid_eq (hLoop_lt s)
    have h2 := fin_eq (hMid_lt (hLoop s))
    rw [← h1] at h2
    rw [hend hkk]
    exact congrArg (AV.i .u64) h2
end Go.Proofs.Ytfdcopbbnmialaa
