/- ref03.Bytes by rules. -/
import Derived.Test.YtcmgpkibjdbonaaGreatG6Z
import Derived.Test.YtcmgpkibjdbonaaGreatSA4Z
import Derived.Test.YtcmgpkibjdbonaaGreatV26Z
set_option maxHeartbeats 8000000
set_option maxRecDepth 100000
namespace Go.Proofs.YtcmgpkibjdbonaaGreat
open Go Go.RowKit
theorem rbytes_spec (tag : UInt8) (ts : List (List UInt8)) (hn : ts.length ≤ 1000) (h : ∀ t ∈ ts, t.length ≤ 1000000) : Spec Tryz.prog 174 [byA tag, .sl 1 (ts.map sA)] [] (fun v os => v = .s (jnB tag ts) ∧ os = []) := by
  refine spec_of TtOk [] Tryz.func174 rfl Tryz.ntmps174 (by kernel_rfl) rfl rfl (fun C => ?_) rfl
  repeat' (first | (refine o_toString TtOk rfl rfl rfl rfl rfl (by first | exact True.intro | exact rfl) rfl rfl rfl (s := [tag]) rfl ?_) | refine Awp.seq ?_ | refine Awp.block ?_ | refine Awp.region ?_ | refine Ops.nil (nqA ?_) | refine o_len rfl TtOk rfl rfl rfl (fun _ => ?_) | (refine o_calm rfl TtOk rfl rfl rfl ?_ (fun _ => ?_); exact nd) | refine o_buildSlice TtOk rfl rfl rfl rfl rfl rfl rfl rfl rfl rfl rfl nq1 (fun _ => ?_))
  refine Awp.loop (fun i : Nat => ⟨39, [(14, .i .i64 i), (13, .i .i64 ts.length), (12, .sl 1 (ts.map sA)), (5, .s (jnB tag (ts.take i)))], []⟩) (fun i => i ≤ ts.length) (fun i => ts.length - i) [] 0 (Nat.zero_le _) ?_ ?_
  · exact ⟨rfl, ⟨sle_i rfl, sle_i rfl, sle_sl rfl, sle_s rfl, True.intro⟩, .nil⟩
  intro i hi
  have hjl := jnB_len tag (ts.take i) (fun t ht => h t (List.mem_of_mem_take ht))
  rw [List.length_take] at hjl
  by_cases hlt : i < ts.length
  · have htl := h _ (List.getElem_mem hlt)
    have hs := jnB_succ tag ts i hlt
    have hq := lenQ_row ts[i].length
    have hq4 : (lenQ ts[i].length).length = 4 := rfl
    have hjl : (jnB tag (ts.take i)).length ≤ 2000000000 := by omega
    generalize jnB tag (ts.take i) = J at hs hjl ⊢
    generalize lenQ ts[i].length = Q at hs hq hq4
    repeat' (first | (rw [hq]) | refine Awp.seq ?_ | refine Awp.block ?_ | refine Awp.region ?_ | refine Ops.nil (nqA ?_) | refine Ops.nil (nqX ?_) | refine Awp.skip (nqA ?_) | (refine o_add rfl rfl rfl rfl ?_ ?_; omega) | (refine o_calm rfl TtOk rfl rfl rfl ?_ (fun _ => ?_); exact nd) | (refine o_index rfl TtOk rfl rfl rfl rfl rfl rfl ?_ (getq_nat ?_) ?_; omega; omega) | (refine o_calm rfl TtOk rfl rfl rfl ?_ (fun _ => ?_); (show List.length _ + List.length _ ≤ 9223372036854775807; (repeat' (first | rw [List.length_append] | rw [List.length_map] | rw [List.length_cons] | rw [List.length_nil] | rw [List.length_take] | rw [List.length_drop])) <;> omega)) | refine o_buildSlice TtOk rfl rfl rfl rfl rfl rfl rfl rfl rfl rfl rfl nq1 (fun _ => ?_) | (refine a_condP rfl (fun hc => ?_) (fun hc => ?_)) <;> (try (exfalso; omega)) | refine o_toString TtOk rfl rfl rfl rfl rfl (by first | exact True.intro | exact rfl) rfl rfl rfl rfl ?_)
    refine ⟨i + 1, [], hlt, by omega, rfl, ⟨sle_i (by omega), sle_i rfl, sle_sl rfl, sle_s ?_, True.intro⟩, .nil⟩
    rw [hs, List.append_assoc]
  · have hie : i = ts.length := by omega
    subst hie
    rw [List.take_length]
    repeat' (first | refine Awp.seq ?_ | refine Awp.region ?_ | refine Ops.nil (nqA ?_) | refine Awp.exit (nqA ?_) | refine Awp.ret (nqE ?_) | (refine o_calm rfl TtOk rfl rfl rfl ?_ (fun _ => ?_); exact nd) | (refine a_condP rfl (fun hc => ?_) (fun hc => ?_)) <;> (try (exfalso; omega)))
    exact nq2
end Go.Proofs.YtcmgpkibjdbonaaGreat
set_option maxHeartbeats 4000000
namespace Go.Proofs.YtcmgpkibjdbonaaGreat
open Go Go.RowKit
def okW (x : Int) : Prop := 0 ≤ x ∧ x < 4294967296
theorem w32_def (x : Int) : w32 x = x % 4294967296 := rfl
theorem w32_ok (x : Int) : okW (w32 x) := by rw [w32_def]; exact ⟨Int.emod_nonneg _ (by decide), Int.emod_lt_of_pos _ (by decide)⟩
theorem w32_id {x : Int} (h : okW x) : w32 x = x := by rw [w32_def]; exact Int.emod_eq_of_lt h.1 h.2
def bvW (x : Int) : BitVec 32 := BitVec.ofInt 32 x
def ivW (v : BitVec 32) : Int := ((v.toNat : Nat) : Int)
theorem ivW_ok (v : BitVec 32) : okW (ivW v) := ⟨by unfold ivW; omega, by have := v.isLt; unfold ivW; omega⟩
theorem ivW_wrap (v : BitVec 32) : w32 (ivW v) = ivW v := w32_id (ivW_ok v)
theorem bv_iv (v : BitVec 32) : bvW (ivW v) = v := by unfold bvW ivW; rw [BitVec.ofInt_natCast, BitVec.ofNat_toNat, BitVec.setWidth_eq]
theorem andI_bv (x y : Int) : andI x y = ivW (bvW x &&& bvW y) := ivW_wrap (bvW x &&& bvW y)
theorem orI_bv (x y : Int) : orI x y = ivW (bvW x ||| bvW y) := ivW_wrap (bvW x ||| bvW y)
theorem xorI_bv (x y : Int) : xorI x y = ivW (bvW x ^^^ bvW y) := ivW_wrap (bvW x ^^^ bvW y)
theorem notI_bv (x : Int) : notI x = ivW (~~~ bvW x) := by
  have h : notI x = ivW (BitVec.ofInt 32 4294967295 ^^^ bvW x) := ivW_wrap (BitVec.ofInt 32 4294967295 ^^^ bvW x)
  rw [h, show BitVec.ofInt 32 4294967295 = BitVec.allOnes 32 by decide, BitVec.allOnes_xor]
theorem sub_not {x : Int} (h : okW x) : bvW (w32 (4294967295 - x)) = ~~~ bvW x := by
  obtain ⟨n, rfl⟩ : ∃ n : Nat, x = n := ⟨x.toNat, by have := h.1; omega⟩
  have hn : n < 4294967296 := by have := h.2; omega
  rw [w32_id ⟨by omega, by omega⟩, show (4294967295 - (n : Int)) = ((4294967295 - n : Nat) : Int) by omega]
  unfold bvW
  rw [BitVec.ofInt_natCast, BitVec.ofInt_natCast]
  apply BitVec.eq_of_toNat_eq
  rw [BitVec.toNat_not, BitVec.toNat_ofNat, BitVec.toNat_ofNat, Nat.mod_eq_of_lt (by omega), Nat.mod_eq_of_lt (by omega)]
theorem ch_eq {e : Int} (f g : Int) (h : okW e) : orI (andI e f) (andI (w32 (4294967295 - e)) g) = xorI (andI e f) (andI (notI e) g) := by
  rw [orI_bv, xorI_bv, andI_bv, andI_bv, andI_bv, bv_iv, bv_iv, bv_iv, sub_not h, notI_bv, bv_iv]
  congr 1
  ext i hi
  simp only [BitVec.getElem_or, BitVec.getElem_and, BitVec.getElem_not, BitVec.getElem_xor]
  cases (bvW e)[i] <;> cases (bvW f)[i] <;> cases (bvW g)[i] <;> rfl
theorem maj_eq (a b c : Int) : orI (orI (andI a b) (andI a c)) (andI b c) = xorI (xorI (andI a b) (andI a c)) (andI b c) := by
  simp only [orI_bv, xorI_bv, andI_bv, bv_iv]
  congr 1
  ext i hi
  simp only [BitVec.getElem_or, BitVec.getElem_and, BitVec.getElem_xor]
  cases (bvW a)[i] <;> cases (bvW b)[i] <;> cases (bvW c)[i] <;> rfl
theorem orI_nat {x y : Nat} (hx : x < 4294967296) (hy : y < 4294967296) : orI (x : Int) (y : Int) = ((x ||| y : Nat) : Int) := by
  rw [orI_bv]
  unfold ivW bvW
  rw [BitVec.ofInt_natCast, BitVec.ofInt_natCast, BitVec.toNat_or, BitVec.toNat_ofNat, BitVec.toNat_ofNat, Nat.mod_eq_of_lt hx, Nat.mod_eq_of_lt hy]
theorem or_add {a b i : Nat} (h : b < 2 ^ i) : a * 2 ^ i ||| b = a * 2 ^ i + b := by
  rw [← Nat.shiftLeft_eq, Nat.shiftLeft_add_eq_or_of_lt h]
def be4R (a b c d : UInt8) : Int := w32 (w32 (w32 (shl32 (w32 (w32 (a.toNat : Int) * 1)) 24 + shl32 (w32 (w32 (b.toNat : Int) * 1)) 16) + shl32 (w32 (w32 (c.toNat : Int) * 1)) 8) + w32 (d.toNat : Int))
theorem shl_nat {x k : Nat} (h : x * 2 ^ k < 4294967296) : shl32 (x : Int) k = ((x * 2 ^ k : Nat) : Int) := by
  unfold shl32
  rw [show (x : Int) * 2 ^ k = ((x * 2 ^ k : Nat) : Int) by rw [Int.natCast_mul, Int.natCast_pow]; rfl]
  exact w32_id ⟨by omega, by omega⟩
theorem be4_eq (a b c d : UInt8) : be4R a b c d = be4 a b c d := by
  have ha := a.toNat_lt
  have hb := b.toNat_lt
  have hc := c.toNat_lt
  have hd := d.toNat_lt
  unfold be4R be4
  generalize a.toNat = x at ha
  generalize b.toNat = y at hb
  generalize c.toNat = z at hc
  generalize d.toNat = u at hd
  have e : ∀ n : Nat, n < 2 ^ 8 → w32 ((n : Nat) : Int) = (n : Int) := fun n hn => w32_id ⟨by omega, by omega⟩
  have e1 : ∀ n : Nat, n < 2 ^ 8 → w32 ((n : Int) * 1) = (n : Int) := fun n hn => by rw [Int.mul_one]; exact e n hn
  rw [e x ha, e y hb, e z hc, e u hd, e1 x ha, e1 y hb, e1 z hc, shl_nat (by omega), shl_nat (by omega), shl_nat (by omega)]
  rw [orI_nat (by omega) (by omega), show y * 2 ^ 16 = y * 2 ^ 16 from rfl, or_add (show y * 2 ^ 16 < 2 ^ 24 by omega), orI_nat (by omega) (by omega), show x * 2 ^ 24 + y * 2 ^ 16 = (x * 2 ^ 8 + y) * 2 ^ 16 by omega, or_add (show z * 2 ^ 8 < 2 ^ 16 by omega), orI_nat (by omega) (by omega), show (x * 2 ^ 8 + y) * 2 ^ 16 + z * 2 ^ 8 = ((x * 2 ^ 8 + y) * 2 ^ 8 + z) * 2 ^ 8 by omega, or_add hd]
  rw [w32_id (x := ((x * 2 ^ 24 : Nat) : Int) + ((y * 2 ^ 16 : Nat) : Int)) ⟨by omega, by omega⟩, w32_id (x := ((x * 2 ^ 24 : Nat) : Int) + ((y * 2 ^ 16 : Nat) : Int) + ((z * 2 ^ 8 : Nat) : Int)) ⟨by omega, by omega⟩, w32_id ⟨by omega, by omega⟩]
  omega
def rnR (v : V8) (k w : Int) : V8 :=
  let p := w32 (w32 (w32 (w32 (v.h + xorI (xorI (rotr v.e 6) (rotr v.e 11)) (rotr v.e 25)) + orI (andI v.e v.f) (andI (w32 (4294967295 - v.e)) v.g)) + k) + w)
  ⟨w32 (w32 (p + xorI (xorI (rotr v.a 2) (rotr v.a 13)) (rotr v.a 22)) + orI (orI (andI v.a v.b) (andI v.a v.c)) (andI v.b v.c)), v.a, v.b, v.c, w32 (v.d + p), v.e, v.f, v.g⟩
def V8.okE (v : V8) : Prop := okW v.e ∧ okW v.d ∧ okW v.c ∧ okW v.b ∧ okW v.a
theorem rnR_eq (v : V8) (k w : Int) (h : okW v.e) : rnR v k w = rnd v k w := by
  unfold rnR rnd rndQ
  dsimp only
  rw [ch_eq v.f v.g h, maj_eq]
  have hp : rndP v k w = w32 (w32 (w32 (w32 (v.h + xorI (xorI (rotr v.e 6) (rotr v.e 11)) (rotr v.e 25)) + xorI (andI v.e v.f) (andI (notI v.e) v.g)) + k) + w) := rfl
  rw [← hp]
  congr 1
  simp only [w32_def]
  omega
structure V8.ok (v : V8) : Prop where
  a : okW v.a
  b : okW v.b
  c : okW v.c
  d : okW v.d
  e : okW v.e
theorem rnd_ok {v : V8} (h : v.ok) (k w : Int) : (rnd v k w).ok := ⟨w32_ok _, h.a, h.b, h.c, w32_ok _⟩
theorem addV_ok (v x : V8) : (addV v x).ok := ⟨w32_ok _, w32_ok _, w32_ok _, w32_ok _, w32_ok _⟩
theorem ivC_ok : ivC.ok := ⟨⟨by decide, by decide⟩, ⟨by decide, by decide⟩, ⟨by decide, by decide⟩, ⟨by decide, by decide⟩, ⟨by decide, by decide⟩⟩
theorem foldl_ok (l : List (Int × Int)) : ∀ v : V8, v.ok → (l.foldl (fun v p => rnd v p.1 p.2) v).ok := by
  induction l with
  | nil => exact fun v h => h
  | cons p r ih => exact fun v h => by rw [List.foldl_cons]; exact ih _ (rnd_ok h _ _)
theorem rounds_ok {v : V8} (h : v.ok) (ks ws : List Int) : (rounds v ks ws).ok := foldl_ok _ v h
end Go.Proofs.YtcmgpkibjdbonaaGreat
set_option maxHeartbeats 16000000
set_option maxRecDepth 100000
namespace Go.Proofs.YtcmgpkibjdbonaaGreat
open Go Go.RowKit
section
variable {m : OM} {P : Program} {T : List (Nat × TI)} {C : Ctx} {ops : Array Oper} {l : List Oper} {K : St → Prop} {n : Nat} {sl : List (Nat × AV)} {hp : List (Nat × HO)} {d : Nat} {ty : Nat} {pos : String} {aft : Array Edge} {gd : Option (Nat × Bool)}
theorem o_mul32 (hT : TTOk P T) (hw : gval ops ⟨n, sl, hp⟩ gd = gwant gd) {t u : Nat} {x y : Operand} {a b : Int} (hx : ev ⟨n, sl, hp⟩ x = .i .u32 a) (hy : ev ⟨n, sl, hp⟩ y = .i .u32 b) (hd : Nat.blt d n = true)
    (h : Ops m P C ops l ⟨n, (d, .i .u32 (w32 (a * b))) :: sl, hp⟩ K) : Ops m P C ops (⟨some d, .binOp .mul t x y u, ty, pos, aft, gd⟩ :: l) ⟨n, sl, hp⟩ K := o_bin32 hT hw rfl hx hy hd h
end
theorem rsteps_spec : Spec Tryz.prog 163 [] [] (fun v os => v = .arr 1 64 (ksC.map uI) ∧ os = []) := by
  refine spec_of TtOk [] Tryz.func163 rfl Tryz.ntmps163 (by kernel_rfl) rfl rfl (fun C => ?_) rfl
  obtain ⟨ks, hks⟩ : ∃ ks, ks = ksC.map uI := ⟨_, rfl⟩
  rw [← hks]
  refine Awp.seq ?_
  repeat' (first | refine Awp.region ?_ | refine Ops.nil (nqA ?_) | refine o_alloc rfl TtOk rfl rfl rfl (fun bA => ?_))
  refine Awp.seq ?_
  refine Awp.region ?_
  refine o_buildArr TtOk rfl ks rfl rfl rfl (by kernel_rfl) (by rw [hks]; kernel_rfl) rfl ?_
  clear hks
  repeat' (first | refine Ops.nil (nqA ?_) | refine Awp.ret (nqE ?_) | refine o_store TtOk rfl rfl rfl rfl rfl rfl rfl ⟨rfl, rfl⟩ rfl rfl rfl rfl rfl ?_)
  refine end_all [] [] (.arr 1 64 ks) rfl ?_ ?_ (rle_one (CLe.refl _) rfl) .nil ⟨rfl, rfl⟩ _ (.inl rfl)
  · exact nq1
  · exact ⟨trivial, trivial⟩
theorem rbegin_spec : Spec Tryz.prog 162 [] [] (fun v os => v = .arr 1 8 (ivC.L.map uI) ∧ os = []) := by
  refine spec_of TtOk [] Tryz.func162 rfl Tryz.ntmps162 (by kernel_rfl) rfl rfl (fun C => ?_) rfl
  obtain ⟨ks, hks⟩ : ∃ ks, ks = ivC.L.map uI := ⟨_, rfl⟩
  rw [← hks]
  refine Awp.seq ?_
  repeat' (first | refine Awp.region ?_ | refine Ops.nil (nqA ?_) | refine o_alloc rfl TtOk rfl rfl rfl (fun bA => ?_))
  refine Awp.seq ?_
  refine Awp.region ?_
  refine o_buildArr TtOk rfl ks rfl rfl rfl (by kernel_rfl) (by rw [hks]; kernel_rfl) rfl ?_
  clear hks
  repeat' (first | refine Ops.nil (nqA ?_) | refine Awp.ret (nqE ?_) | refine o_store TtOk rfl rfl rfl rfl rfl rfl rfl ⟨rfl, rfl⟩ rfl rfl rfl rfl rfl ?_)
  refine end_all [] [] (.arr 1 8 ks) rfl ?_ ?_ (rle_one (CLe.refl _) rfl) .nil ⟨rfl, rfl⟩ _ (.inl rfl)
  · exact nq1
  · exact ⟨trivial, trivial⟩
theorem lenByteR (n k : Nat) (hk : k < 8) : [AV.i .u8 (IntKind.u8.wrap (((8 * n : Nat) : Int).fdiv (2 ^ (min (56 - 8 * (k : Int)).toNat (IntKind.bits .u64)))))] = [UInt8.ofNat (8 * n / 2 ^ (56 - 8 * k))].map byA := by
  have e3 : min (56 - 8 * (k : Int)).toNat (IntKind.bits .u64) = 56 - 8 * k := by rw [show IntKind.bits .u64 = 64 from rfl]; omega
  have e4 : (2 : Int) ^ (56 - 8 * k) = ((2 ^ (56 - 8 * k) : Nat) : Int) := by rw [Int.natCast_pow]; rfl
  rw [e3, e4, ← Int.ofNat_fdiv, byA_nt]; rfl
theorem rpadded_spec (s : List UInt8) (hs : s.length ≤ 1000000000) : Spec Tryz.prog 164 [.s s] [] (fun v os => v = .sl 1 ((padL s).map byA) ∧ os = []) := by
  refine spec_of TtOk [] Tryz.func164 rfl Tryz.ntmps164 (by kernel_rfl) rfl rfl (fun C => ?_) rfl
  repeat' (first | refine Awp.seq ?_ | refine Awp.region ?_ | refine Ops.nil (nqA ?_) | (refine o_calm rfl TtOk rfl rfl rfl ?_ (fun _ => ?_); exact nd))
  refine o_toBytesM TtOk rfl rfl rfl rfl rfl rfl (fun v7 b7 o7 hM => ?_)
  repeat' (first | refine Awp.seq ?_ | refine Awp.block ?_ | refine Ops.nil (nqA ?_) | (refine o_calm rfl TtOk rfl rfl rfl ?_ (fun _ => ?_); exact nd) | refine o_buildSlice TtOk rfl rfl rfl rfl rfl rfl rfl rfl rfl rfl rfl nq1 (fun _ => ?_) | (refine o_appendM TtOk rfl hM rfl rfl rfl rfl rfl rfl rfl rfl (by first | exact True.intro | exact rfl) (ys:=[128]) rfl (by decide) rfl rfl ?_ ?_ (fun _ _ => rfl) (fun v13 b13 o13 hM2 => ?_); (show (_ + 1) * 1 ≤ _; omega); (show _ + 1 ≤ _; omega)))
  have hsl : (s ++ [128]).length = s.length + 1 := List.length_append
  refine Awp.loop (fun q : Nat × Value × Nat × Obj => ⟨35, [(3, .own 7 q.2.1), (0, .s s)], [(7, .obj q.2.2.1 q.2.2.2)]⟩)
    (fun q => q.1 ≤ zc s.length ∧ MRow q.2.1 q.2.2.2 5 q.2.2.1 ((s ++ [128]) ++ List.replicate q.1 0)) (fun q => zc s.length - q.1) [] (0, v13, b13, o13) ⟨Nat.zero_le _, by rw [show List.replicate 0 (0 : UInt8) = [] from rfl, List.append_nil]; exact hM2⟩ ?_ ?_
  · exact ⟨rfl, ⟨sle_own, sle_s rfl, True.intro⟩, HLe.cons 7 rfl (HOLe.refl _) .nil⟩
  rintro ⟨j, v, b, o⟩ ⟨hj, hMj⟩
  dsimp only at hj hMj ⊢
  have hjl : ((s ++ [128]) ++ List.replicate j 0).length = s.length + 1 + j := by rw [List.length_append, hsl, List.length_replicate]
  have hzc : zc s.length = (119 - s.length % 64) % 64 := rfl
  have hrep : (s ++ [128]) ++ List.replicate (j + 1) 0 = ((s ++ [128]) ++ List.replicate j 0) ++ [0] := by rw [List.replicate_succ', ← List.append_assoc]
  by_cases hlt : j < zc s.length
  · generalize (s ++ [128]) ++ List.replicate j 0 = B at hMj hjl hrep
    repeat' (first | refine Awp.seq ?_ | refine Awp.block ?_ | refine Awp.region ?_ | refine Ops.nil (nqA ?_) | refine Ops.nil (nqX ?_) | refine Awp.skip (nqA ?_) | (refine o_rem rfl rfl rfl rfl ?_ ?_ ?_; omega; omega) | (refine o_calm rfl TtOk rfl rfl rfl ?_ (fun _ => ?_); exact nd) | refine o_buildSlice TtOk rfl rfl rfl rfl rfl rfl rfl rfl rfl rfl rfl nq1 (fun _ => ?_) | (refine a_condN rfl (fun hc => ?_) (fun hc => ?_)) <;> (try (exfalso; omega)) | (refine o_lenM TtOk rfl rfl hMj rfl rfl ?_) | (refine o_appendM TtOk rfl hMj rfl rfl rfl rfl rfl rfl rfl rfl (by first | exact True.intro | exact rfl) (ys:=[0]) rfl (by decide) rfl rfl ?_ ?_ (fun _ _ => rfl) (fun v13 b13 o13 hM2 => ?_); (show (_ + 1) * 1 ≤ _; omega); (show _ + 1 ≤ _; omega)))
    exact ⟨(j + 1, v13, b13, o13), [], ⟨hlt, by rw [hrep]; exact hM2⟩, by show zc s.length - (j + 1) < zc s.length - j; omega, rfl, ⟨sle_own, sle_s rfl, True.intro⟩, HLe.cons 7 rfl (HOLe.refl _) .nil⟩
  · have hje : j = zc s.length := by omega
    have hP : padL s = ((s ++ [128]) ++ List.replicate j 0) ++ lenB s.length 8 := by rw [hje]; rfl
    have hn8 : IntKind.u64.wrap (IntKind.u64.wrap (s.length : Int) * 8) = ((8 * s.length : Nat) : Int) := by
      rw [uwrap_lt (by omega), show (s.length : Int) * 8 = ((8 * s.length : Nat) : Int) by omega, uwrap_lt (by omega)]
    generalize (s ++ [128]) ++ List.replicate j 0 = B at hMj hjl hP
    repeat' (first | (rw [hn8]) | refine Awp.seq ?_ | refine Awp.block ?_ | refine Awp.region ?_ | refine Ops.nil (nqA ?_) | refine Awp.exit (nqA ?_) | (refine o_rem rfl rfl rfl rfl ?_ ?_ ?_; omega; omega) | (refine o_calm rfl TtOk rfl rfl rfl ?_ (fun _ => ?_); exact nd) | (refine a_condN rfl (fun hc => ?_) (fun hc => ?_)) <;> (try (exfalso; omega)) | (refine o_lenM TtOk rfl rfl hMj rfl rfl ?_))
    refine Awp.loop (fun q : Nat × Value × Nat × Obj => ⟨35, [(5, .i .i64 (q.1 : Int)), (4, .i .u64 ((8 * s.length : Nat) : Int)), (3, .own 7 q.2.1)], [(7, .obj q.2.2.1 q.2.2.2)]⟩)
      (fun q => q.1 ≤ 8 ∧ MRow q.2.1 q.2.2.2 5 q.2.2.1 (B ++ lenB s.length q.1)) (fun q => 8 - q.1) [] (0, v, b, o) ⟨Nat.zero_le _, by rw [show lenB s.length 0 = [] from rfl, List.append_nil]; exact hMj⟩ ?_ ?_
    · exact ⟨rfl, ⟨sle_i rfl, sle_i rfl, sle_own, True.intro⟩, HLe.cons 7 rfl (HOLe.refl _) .nil⟩
    clear hMj
    rintro ⟨k, v, b, o⟩ ⟨hk, hMk⟩
    dsimp only at hk hMk ⊢
    have hlk := lenB_len s.length k
    have hls := lenB_succ s.length k
    have hBl : (B ++ lenB s.length k).length = B.length + k := by rw [List.length_append, hlk]
    by_cases hk8 : k < 8
    · have hBs : B ++ lenB s.length (k + 1) = (B ++ lenB s.length k) ++ [UInt8.ofNat (8 * s.length / 2 ^ (56 - 8 * k))] := by rw [hls, List.append_assoc]
      generalize B ++ lenB s.length k = B2 at hMk hBl hBs
      have hby := lenByteR s.length k hk8
      generalize UInt8.ofNat (8 * s.length / 2 ^ (56 - 8 * k)) = y at hby hBs
      generalize ((8 * s.length : Nat) : Int) = z at hby
      repeat' (first | refine Awp.seq ?_ | refine Awp.block ?_ | refine Awp.region ?_ | refine Ops.nil (nqA ?_) | refine Ops.nil (nqX ?_) | refine Awp.skip (nqA ?_) | (refine o_add rfl rfl rfl rfl ?_ ?_; omega) | (refine o_sub rfl rfl rfl rfl ?_ ?_; omega) | (refine o_mul rfl rfl rfl rfl ?_ ?_; omega) | (refine o_calm rfl TtOk rfl rfl rfl ?_ (fun _ => ?_); exact nd) | refine o_buildSlice TtOk rfl rfl rfl rfl rfl rfl rfl rfl rfl rfl rfl nq1 (fun _ => ?_) | (refine a_condP rfl (fun hc => ?_) (fun hc => ?_)) <;> (try (exfalso; omega)) | (refine o_appendM TtOk rfl hMk rfl rfl rfl rfl rfl rfl rfl rfl (by first | exact True.intro | exact rfl) (ys:=[y]) hby (Nat.zero_lt_succ _) rfl rfl ?_ ?_ (fun _ _ => rfl) (fun v13 b13 o13 hM2 => ?_); (show (_ + 1) * 1 ≤ _; omega); (show _ + 1 ≤ _; omega)))
      exact ⟨(k + 1, v13, b13, o13), [], ⟨hk8, by rw [hBs]; exact hM2⟩, by show 8 - (k + 1) < 8 - k; omega, rfl, ⟨sle_i (by omega), sle_i rfl, sle_own, True.intro⟩, HLe.cons 7 rfl (HOLe.refl _) .nil⟩
    · have hke : k = 8 := by omega
      subst hke
      rw [← hP] at hMk hBl
      generalize padL s = Q at hMk
      repeat' (first | refine Awp.seq ?_ | refine Awp.region ?_ | refine Ops.nil (nqA ?_) | (refine o_calm rfl TtOk rfl rfl rfl ?_ (fun _ => ?_); exact nd) | refine a_condF rfl ?_)
      refine Awp.exit ?_
      show Awp _ _ _ _ _
      refine a_freezeM 7 3 hMk rfl rfl rfl ?_
      repeat' (first | refine Awp.seq ?_ | refine Awp.region ?_ | refine Ops.nil (nqA ?_) | refine Awp.ret (nqE ?_) | (refine o_calm rfl TtOk rfl rfl rfl ?_ (fun _ => ?_); exact nd))
      exact nq2
end Go.Proofs.YtcmgpkibjdbonaaGreat
set_option maxHeartbeats 16000000
set_option maxRecDepth 100000
namespace Go.Proofs.YtcmgpkibjdbonaaGreat
open Go Go.RowKit
theorem rwords_spec (b : List UInt8) (hb : b.length = 64) : Spec Tryz.prog 165 [.sl 1 (b.map byA)] [] (fun v os => v = .arr 1 64 ((wsL b 64).map uI) ∧ os = []) := by
  refine spec_of TtOk [] Tryz.func165 rfl Tryz.ntmps165 (by kernel_rfl) rfl rfl (fun C => ?_) rfl
  repeat' (first | refine Awp.seq ?_ | refine Awp.block ?_ | refine Awp.region ?_ | refine Ops.nil (nqA ?_) | (refine o_calm rfl TtOk rfl rfl rfl ?_ (fun _ => ?_); exact nd) | refine o_alloc (d := 2) rfl TtOk rfl rfl rfl (fun b2 => ?_) | refine o_alloc (d := 3) rfl TtOk rfl rfl rfl (fun b3 => ?_) | refine o_store TtOk rfl rfl rfl rfl rfl rfl rfl ⟨rfl, rfl⟩ rfl rfl rfl rfl rfl ?_ | refine o_buildArr0 TtOk rfl rfl rfl rfl ?_)
  refine Awp.loop (fun i : Nat => ⟨105, [(4, .i .i64 i), (3, .ptr 3 b3 [] 0), (0, .sl 1 (b.map byA)), (2, .ptr 2 b2 [] 0)], [(3, .var b3 (.arr 1 64 ((wA b i).map uI))), (2, .var b2 (.arr 1 64 (List.replicate 64 (.i .u32 0))))]⟩)
    (fun i => i ≤ 16) (fun i => 16 - i) [] 0 (Nat.zero_le _) ?_ ?_
  · exact ⟨rfl, ⟨sle_i rfl, sle_ptr, sle_sl rfl, sle_ptr, True.intro⟩, HLe.cons 3 rfl (HOLe.refl _) (HLe.cons 2 rfl (HOLe.refl _) .nil)⟩
  intro i hi
  by_cases hlt : i < 16
  · have hst := wA_set b i (by omega)
    have hwl := wA_len b i (by omega)
    have hq0 := getD_q b (4 * (i : Int)) (4 * i) (by omega) (by omega)
    have hq1 := getD_q b (4 * (i : Int) + 1) (4 * i + 1) (by omega) (by omega)
    have hq2 := getD_q b (4 * (i : Int) + 2) (4 * i + 2) (by omega) (by omega)
    have hq3 := getD_q b (4 * (i : Int) + 3) (4 * i + 3) (by omega) (by omega)
    have hz : stW b (wsL b i) i = be4L b i := if_pos hlt
    rw [hz] at hst
    unfold be4L at hst
    rw [← be4_eq] at hst
    generalize b.getD (4 * i) 0 = c0 at hq0 hst
    generalize b.getD (4 * i + 1) 0 = c1 at hq1 hst
    generalize b.getD (4 * i + 2) 0 = c2 at hq2 hst
    generalize b.getD (4 * i + 3) 0 = c3 at hq3 hst
    unfold be4R at hst
    generalize wA b i = W at hst hwl ⊢
    have hst0 : (W.map uI)[i]? = some (uI (W[i]'(by omega))) := getq_map (List.getElem?_eq_getElem (by omega))
    repeat' (first | (refine o_shl32 TtOk rfl rfl rfl rfl 8 rfl (by decide) ?_) | (refine o_shl32 TtOk rfl rfl rfl rfl 16 rfl (by decide) ?_) | (refine o_shl32 TtOk rfl rfl rfl rfl 24 rfl (by decide) ?_) | (refine o_mul32 TtOk rfl rfl rfl rfl ?_) | (refine o_add32 TtOk rfl rfl rfl rfl ?_) | refine Awp.seq ?_ | refine Awp.block ?_ | refine Awp.region ?_ | refine Ops.nil (nqA ?_) | refine Ops.nil (nqX ?_) | refine Awp.skip (nqA ?_) | (refine o_add rfl rfl rfl rfl ?_ ?_; omega) | (refine o_mul rfl rfl rfl rfl ?_ ?_; omega) | (refine o_calm rfl TtOk rfl rfl rfl ?_ (fun _ => ?_); exact nd) | (refine a_condP rfl (fun hc => ?_) (fun hc => ?_)) <;> (try (exfalso; omega)) | (refine a_any 5 [3] [18, 27, 37, 47] [] [0, 1, 2, 3, 4, 9, 10, 11, 12, 13, 19, 20, 21, 22, 23, 29, 30, 31, 32, 33, 5, 6, 7, 8, 14, 15, 16, 17, 18, 24, 25, 26, 27, 28, 34, 35, 36, 37, 38] (by kernel_rfl) (by kernel_rfl) (by kernel_rfl) rfl rfl rfl ?_; (try dsimp only [List.getElem_toArray, List.getElem_cons_zero, List.getElem_cons_succ])) | (refine o_index rfl TtOk rfl rfl rfl rfl rfl rfl (by omega) hq0 ?_) | (refine o_index rfl TtOk rfl rfl rfl rfl rfl rfl (by omega) hq1 ?_) | (refine o_index rfl TtOk rfl rfl rfl rfl rfl rfl (by omega) hq2 ?_) | (refine o_index rfl TtOk rfl rfl rfl rfl rfl rfl (by omega) hq3 ?_) | (refine o_indexArr TtOk rfl rfl rfl rfl rfl rfl i rfl (by omega) ?_) | (refine o_storeArr TtOk rfl rfl rfl rfl rfl rfl ⟨rfl, rfl⟩ rfl rfl hst0 rfl rfl ?_))
    exact ⟨i + 1, [], by omega, by omega, rfl, ⟨sle_i rfl, sle_ptr, sle_sl rfl, sle_ptr, True.intro⟩, HLe.cons 3 rfl (HOLe.var (CLe.of_eq (by rw [hst, List.map_set]; rfl))) (HLe.cons 2 rfl (HOLe.refl _) .nil)⟩
  have hi16 : i = 16 := by omega
  subst hi16
  clear hlt hi
  repeat' (first | refine Awp.seq ?_ | refine Awp.block ?_ | refine Awp.region ?_ | refine Ops.nil (nqA ?_) | refine Awp.exit (nqA ?_) | (refine o_calm rfl TtOk rfl rfl rfl ?_ (fun _ => ?_); exact nd) | refine a_condF rfl ?_)
  refine Awp.loop (fun i : Nat => ⟨105, [(5, .i .i64 i), (3, .ptr 3 b3 [] 0), (2, .ptr 2 b2 [] 0)], [(3, .var b3 (.arr 1 64 ((wA b i).map uI))), (2, .var b2 (.arr 1 64 (List.replicate 64 (.i .u32 0))))]⟩)
    (fun i => 16 ≤ i ∧ i ≤ 64) (fun i => 64 - i) [] 16 ⟨Nat.le_refl _, by decide⟩ ?_ ?_
  · exact ⟨rfl, ⟨sle_i rfl, sle_ptr, sle_ptr, True.intro⟩, HLe.cons 3 rfl (HOLe.refl _) (HLe.cons 2 rfl (HOLe.refl _) .nil)⟩
  rintro i ⟨hi0, hi⟩
  by_cases hlt : i < 64
  · have hst := wA_set b i hlt
    have hwl := wA_len b i hi
    have hz : stW b (wsL b i) i = nxtW ((wsL b i).getD (i - 16) 0) ((wsL b i).getD (i - 15) 0) ((wsL b i).getD (i - 7) 0) ((wsL b i).getD (i - 2) 0) := if_neg (by omega)
    rw [hz] at hst
    have g16 := getq_map (f := uI) (wA_get b i (i - 16) (by omega))
    have g15 := getq_map (f := uI) (wA_get b i (i - 15) (by omega))
    have g7 := getq_map (f := uI) (wA_get b i (i - 7) (by omega))
    have g2 := getq_map (f := uI) (wA_get b i (i - 2) (by omega))
    generalize (wsL b i).getD (i - 16) 0 = a at hst g16
    generalize (wsL b i).getD (i - 15) 0 = x at hst g15
    generalize (wsL b i).getD (i - 7) 0 = c at hst g7
    generalize (wsL b i).getD (i - 2) 0 = y at hst g2
    generalize wA b i = W at hst hwl g16 g15 g7 g2 ⊢
    have hst0 : (W.map uI)[i]? = some (uI (W[i]'(by omega))) := getq_map (List.getElem?_eq_getElem (by omega))
    have t1 := right_spec x 7 (by decide) (by decide)
    have t2 := right_spec x 18 (by decide) (by decide)
    have t3 := right_spec y 17 (by decide) (by decide)
    have t4 := right_spec y 19 (by decide) (by decide)
    repeat' (first | (refine o_shr32 TtOk rfl rfl rfl rfl 10 rfl (by decide) ?_) | (refine o_shr32 TtOk rfl rfl rfl rfl 3 rfl (by decide) ?_) | (refine o_xor32 TtOk rfl rfl rfl rfl ?_) | (refine o_add32 TtOk rfl rfl rfl rfl ?_) | refine Awp.seq ?_ | refine Awp.block ?_ | refine Awp.region ?_ | refine Ops.nil (nqA ?_) | refine Ops.nil (nqX ?_) | refine Awp.skip (nqA ?_) | (refine o_add rfl rfl rfl rfl ?_ ?_; omega) | (refine o_sub rfl rfl rfl rfl ?_ ?_; omega) | (refine o_calm rfl TtOk rfl rfl rfl ?_ (fun _ => ?_); exact nd) | (refine a_condP rfl (fun hc => ?_) (fun hc => ?_)) <;> (try (exfalso; omega)) | refine a_any 9 [] [] [] [0, 1, 2, 5, 6, 7, 11, 12, 13, 3, 8, 14, 15, 4, 9, 10, 16, 17] (by kernel_rfl) (by kernel_rfl) (by kernel_rfl) rfl rfl rfl ?_ | refine a_any 10 [] [] [] [0, 1, 2, 5, 6, 7, 11, 12, 13, 3, 8, 14, 15, 4, 9, 10, 16, 17] (by kernel_rfl) (by kernel_rfl) (by kernel_rfl) rfl rfl rfl ?_ | refine a_any 11 [3] [93, 99] [] [0, 1, 2, 3, 5, 7, 8, 9, 12, 4, 6, 10, 11, 13, 14, 15] (by kernel_rfl) (by kernel_rfl) (by kernel_rfl) rfl rfl rfl ?_ | (refine o_indexArr TtOk rfl rfl rfl rfl rfl rfl (i - 15) (by omega) (by omega) ?_) | (refine o_indexArr TtOk rfl rfl rfl rfl rfl rfl (i - 2) (by omega) (by omega) ?_) | (refine o_indexArr TtOk rfl rfl rfl rfl rfl rfl (i - 16) (by omega) (by omega) ?_) | (refine o_indexArr TtOk rfl rfl rfl rfl rfl rfl (i - 7) (by omega) (by omega) ?_) | (refine o_indexArr TtOk rfl rfl rfl rfl rfl rfl (i) (by omega) (by omega) ?_) | (refine o_loadAt TtOk rfl rfl rfl rfl (sub_arr g16) (by first | exact Nat.add_zero _ | rfl) ⟨rfl, rfl⟩ rfl rfl ?_) | (refine o_loadAt TtOk rfl rfl rfl rfl (sub_arr g15) (by first | exact Nat.add_zero _ | rfl) ⟨rfl, rfl⟩ rfl rfl ?_) | (refine o_loadAt TtOk rfl rfl rfl rfl (sub_arr g7) (by first | exact Nat.add_zero _ | rfl) ⟨rfl, rfl⟩ rfl rfl ?_) | (refine o_loadAt TtOk rfl rfl rfl rfl (sub_arr g2) (by first | exact Nat.add_zero _ | rfl) ⟨rfl, rfl⟩ rfl rfl ?_) | (refine o_storeArr TtOk rfl rfl rfl rfl rfl rfl ⟨rfl, rfl⟩ rfl rfl hst0 rfl rfl ?_) | refine o_callE rfl (t1) ⟨nqS, nqS, True.intro⟩ rfl ?_ | refine o_callE rfl (t2) ⟨nqS, nqS, True.intro⟩ rfl ?_ | refine o_callE rfl (t3) ⟨nqS, nqS, True.intro⟩ rfl ?_ | refine o_callE rfl (t4) ⟨nqS, nqS, True.intro⟩ rfl ?_)
    exact ⟨i + 1, [], ⟨by omega, by omega⟩, by omega, rfl, ⟨sle_i rfl, sle_ptr, sle_ptr, True.intro⟩, HLe.cons 3 rfl (HOLe.var (CLe.of_eq (by rw [hst, List.map_set]; rfl))) (HLe.cons 2 rfl (HOLe.refl _) .nil)⟩
  have hi64 : i = 64 := by omega
  have hW : wA b i = wsL b 64 := by rw [hi64]; unfold wA; simp
  rw [hW]
  generalize wsL b 64 = W
  clear hW
  repeat' (first | refine Awp.seq ?_ | refine Awp.region ?_ | refine Ops.nil (nqA ?_) | refine Awp.exit (nqA ?_) | refine Awp.ret (nqE ?_) | (refine o_calm rfl TtOk rfl rfl rfl ?_ (fun _ => ?_); exact nd) | refine o_store TtOk rfl rfl rfl rfl rfl rfl rfl ⟨rfl, rfl⟩ rfl rfl rfl rfl rfl ?_ | (refine a_condP rfl (fun hc => ?_) (fun hc => ?_)) <;> (try (exfalso; omega)))
  refine end_all [] [] (.arr 1 64 (W.map uI)) rfl ?_ ?_ (rle_one (CLe.refl _) rfl) .nil ⟨rfl, rfl⟩ _ (.inl rfl)
  · exact nq1
  · exact ⟨trivial, trivial⟩
end Go.Proofs.YtcmgpkibjdbonaaGreat
