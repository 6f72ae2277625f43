/- A slice cut with a most: s[lo:hi:max]. -/
import Derived.Test.YtcmgpkibjdbonaaGreatV17Z
import Derived.Lib.SliceRun
import Derived.Test.YtcmgpkibjdbonaaGreatV13Z
import Derived.Test.YtcmgpkibjdbonaaGreatV1Z
import Derived.Laws.Externs
import Derived.Lib.Bytealg
import Derived.Lib.UnsafeStr
import Derived.Test.YtcmgpkibjdbonaaGreatSA2
namespace Go.Proofs.YtcmgpkibjdbonaaGreat
open Go Go.RowKit
section
variable {m : OM} {P : Program} {T : List (Nat × TI)} {C : Ctx} {ops : Array Oper} {l : List Oper} {K : St → Prop} {n : Nat} {sl : List (Nat × AV)} {hp : List (Nat × HO)} {d : Nat} {ty : Nat} {pos : String} {aft : Array Edge} {gd : Option (Nat × Bool)}
end
end Go.Proofs.YtcmgpkibjdbonaaGreat
namespace Go.Proofs.YtcmgpkibjdbonaaGreat
open Go Go.RowKit
theorem less_irr (a : List UInt8) : Op.bytesLess a a = false := by
  induction a with
  | nil => rfl
  | cons x a ih => simp [Op.bytesLess, ih, UInt8.lt_irrefl]
theorem less_trans {a b c : List UInt8} (h : Op.bytesLess a b = true) (k : Op.bytesLess b c = true) : Op.bytesLess a c = true := by
  induction a generalizing b c with
  | nil => cases b <;> cases c <;> simp_all [Op.bytesLess]
  | cons x a ih =>
    cases b with
    | nil => simp [Op.bytesLess] at h
    | cons y b => cases c with
      | nil => simp [Op.bytesLess] at k
      | cons z c =>
        simp only [Op.bytesLess, Bool.or_eq_true, Bool.and_eq_true, decide_eq_true_eq, beq_iff_eq] at h k ⊢
        rcases h with h | ⟨rfl, h⟩
        · rcases k with k | ⟨rfl, k⟩
          · exact .inl (UInt8.lt_trans h k)
          · exact .inl h
        · rcases k with k | ⟨rfl, k⟩
          · exact .inl k
          · exact .inr ⟨rfl, ih h k⟩
theorem less_tri (a b : List UInt8) : Op.bytesLess a b = true ∨ a = b ∨ Op.bytesLess b a = true := by
  induction a generalizing b with
  | nil => cases b <;> simp [Op.bytesLess]
  | cons x a ih =>
    cases b with
    | nil => simp [Op.bytesLess]
    | cons y b =>
      simp only [Op.bytesLess, Bool.or_eq_true, Bool.and_eq_true, decide_eq_true_eq, beq_iff_eq, List.cons.injEq]
      rcases UInt8.lt_or_lt_of_ne (a := x) (b := y) |> fun f => (Classical.em (x = y)).elim (fun e => Or.inr e) (fun e => Or.inl (f e)) with (h | h) | rfl
      · exact .inl (.inl h)
      · exact .inr (.inr (.inl h))
      · rcases ih b with h | rfl | h
        · exact .inl (.inr ⟨rfl, h⟩)
        · exact .inr (.inl ⟨rfl, rfl⟩)
        · exact .inr (.inr (.inr ⟨rfl, h⟩))
theorem less_asymm {a b : List UInt8} (h : Op.bytesLess a b = true) : Op.bytesLess b a = false := by
  cases hb : Op.bytesLess b a
  · rfl
  · have := less_trans h hb
    rw [less_irr] at this
    exact absurd this (by decide)
theorem less_ge {a b c : List UInt8} (h : Op.bytesLess a b = true) (k : Op.bytesLess c b = false) : Op.bytesLess a c = true := by
  rcases less_tri a c with h1 | rfl | h1
  · exact h1
  · rw [h] at k; exact absurd k (by decide)
  · rw [less_trans h1 h] at k; exact absurd k (by decide)
/-- -1, 0 or 1. -/
def cmpS (a b : List UInt8) : Int := if Op.bytesLess a b = true then -1 else if Op.bytesLess b a = true then 1 else 0
theorem cmpS_lt {a b : List UInt8} (h : Op.bytesLess a b = true) : cmpS a b = -1 := by unfold cmpS; rw [if_pos h]
theorem cmpS_gt {a b : List UInt8} (h : Op.bytesLess b a = true) : cmpS a b = 1 := by
  unfold cmpS; rw [if_neg (by rw [less_asymm h]; decide), if_pos h]
theorem cmpS_eq (a : List UInt8) : cmpS a a = 0 := by unfold cmpS; rw [less_irr]; rfl
theorem cmpS_neg {a b : List UInt8} : cmpS a b < 0 ↔ Op.bytesLess a b = true := by
  rcases less_tri a b with h | rfl | h
  · rw [cmpS_lt h]; exact ⟨fun _ => h, fun _ => by decide⟩
  · rw [cmpS_eq, less_irr]; decide
  · rw [cmpS_gt h, less_asymm h]; decide
theorem cmpS_zero {a b : List UInt8} : cmpS a b = 0 ↔ a = b := by
  rcases less_tri a b with h | rfl | h
  · rw [cmpS_lt h]; exact ⟨fun h => absurd h (by decide), fun e => by subst e; rw [less_irr] at h; exact absurd h (by decide)⟩
  · exact ⟨fun _ => rfl, fun _ => cmpS_eq _⟩
  · rw [cmpS_gt h]; exact ⟨fun h => absurd h (by decide), fun e => by subst e; rw [less_irr] at h; exact absurd h (by decide)⟩
end Go.Proofs.YtcmgpkibjdbonaaGreat
set_option maxHeartbeats 4000000
namespace Go.Proofs.YtcmgpkibjdbonaaGreat
open Go Go.RowKit
theorem cmpB_S : ∀ a b : List UInt8, Lib.compareBytes a b = cmpS a b
  | [], [] => rfl
  | [], _ :: _ => rfl
  | _ :: _, [] => rfl
  | x :: a, y :: b => by
    have ih := cmpB_S a b
    unfold Lib.compareBytes
    rw [ih]
    unfold cmpS
    by_cases h1 : x < y
    · rw [if_pos h1, if_pos (by simp [Op.bytesLess, h1])]
    · rw [if_neg h1]
      by_cases h2 : y < x
      · have h3 : x ≠ y := fun h => by subst h; exact h1 h2
        rw [if_pos h2, if_neg (by simp [Op.bytesLess, h1, h3]), if_pos (by simp [Op.bytesLess, h2])]
      · have h3 : x = y := by
          rcases UInt8.lt_or_lt_of_ne (a := x) (b := y) |> fun f => (Classical.em (x = y)).elim (fun e => Or.inr e) (fun e => Or.inl (f e)) with (h | h) | h
          · exact absurd h h1
          · exact absurd h h2
          · exact h
        subst h3
        rw [if_neg h2]
        simp [Op.bytesLess, h1]
theorem loadB {P : Program} {w : World} : ∀ (l : List UInt8) (b off : Nat) (acc : ByteArray), (∀ j c, l[j]? = some c → w.cell? ⟨b, off + j, none⟩ = some (.int .u8 (c.toNat : Int))) → (Extern.Bytes.loadBytes ⟨b, off, none⟩ l.length acc).run P w = .ok ⟨acc.data ++ l.toArray⟩ w
  | [], b, off, acc, _ => by simp [Extern.Bytes.loadBytes]
  | c :: l, b, off, acc, h => by
    have h0 : w.cell? ⟨b, off, none⟩ = some (.int .u8 (c.toNat : Int)) := h 0 c rfl
    have hadd : (⟨b, off, none⟩ : Addr).add 1 = ⟨b, off + 1, none⟩ := rfl
    have ih := loadB (P := P) l b (off + 1) (acc.push c) (fun j y hy => by
      have := h (j + 1) y (by simpa using hy)
      rwa [show off + (j + 1) = off + 1 + j by omega] at this)
    have hld : (load ⟨b, off, none⟩).run P w = .ok (.int .u8 (c.toNat : Int)) w := by rw [run_load, h0]
    have hc : ((c.toNat : Int)).toNat.toUInt8 = c := by rw [Int.toNat_natCast]; exact UInt8.ofNat_toNat ..
    rw [List.length_cons]
    unfold Extern.Bytes.loadBytes
    simp only [Sem.run_bind, hld, Result.andThen_ok, hadd, hc, ih]
    congr 2
    simp
theorem bytes_of_sl {P : Program} {w : World} {a : List UInt8} {A : Option Addr} {cap : Nat} (hA : a.length ≠ 0 → ∃ b off, A = some ⟨b, off, none⟩ ∧ w.rangeAt b off (a.map fun c => Value.int .u8 (c.toNat : Int))) : (Extern.Bytes.bytesOf (.slice A a.length cap)).run P w = .ok (bytesOf a) w := by
  by_cases ha : a = []
  · subst ha
    cases A with
    | none => rfl
    | some ad => rfl
  · obtain ⟨b, off, rfl, hr⟩ := hA (fun h => ha (List.length_eq_zero_iff.1 h))
    have hl := loadB (P := P) (w := w) a b off .empty (fun j c hj => hr j _ (by rw [List.getElem?_map, hj]; rfl))
    show (Extern.Bytes.loadBytes ⟨b, off, none⟩ a.length .empty).run P w = _
    rw [hl]
    congr 1
    unfold bytesOf
    congr 1
    show (#[] : Array UInt8) ++ a.toArray = a.toArray
    simp
section
variable {m : OM} {P : Program} {T : List (Nat × TI)} {C : Ctx} {ops : Array Oper} {l : List Oper} {K : St → Prop} {n : Nat} {sl : List (Nat × AV)} {hp : List (Nat × HO)} {d : Nat} {ty : Nat} {pos : String} {aft : Array Edge} {gd : Option (Nat × Bool)}
theorem o_cmpBytes {f : FuncId} {fn : Func} (hf : P.funcs[f]? = some fn) (hname : (fn.name == "runtime.NumGoroutine") = false) (hb : fn.body.isNone = true) (hn : Extern.findNext fn = none) (he : Extern.find fn = some Extern.BytealgCompare.compare)
    (hw : gval ops ⟨n, sl, hp⟩ gd = gwant gd) {x y : Operand} {ats : Array TypeId} {a b : List UInt8} (hx : ev ⟨n, sl, hp⟩ x = .sl 1 (a.map byA)) (hy : ev ⟨n, sl, hp⟩ y = .sl 1 (b.map byA)) (hd : Nat.blt d n = true)
    (h : Ops m P C ops l ⟨n, (d, .i .i64 (cmpS a b)) :: sl, hp⟩ K) : Ops m P C ops (⟨some d, .call ⟨.value (.func f), #[x, y], ats⟩, ty, pos, aft, gd⟩ :: l) ⟨n, sl, hp⟩ K := by
  refine Ops.eff hw [] oke_nil rfl fun ac w hs => ?_
  have Ex := ev_rep hs x
  have Ey := ev_rep hs y
  obtain ⟨A, c, news, hv, h1, h2, h3, h4⟩ := srcOf_rep (p := True) (sz := 1) (xs := a.map byA) hs (by rw [hx]; rfl) trivial Ex
  obtain ⟨A2, c2, news2, hv2, g1, g2, g3, g4⟩ := srcOf_rep (p := True) (sz := 1) (xs := b.map byA) hs (by rw [hy]; rfl) trivial Ey
  have e1 := bytes_cells a news h3
  have e2 := bytes_cells b news2 g3
  subst e1; subst e2
  rw [List.length_map] at hv h4 hv2 g4
  have r1 := bytes_of_sl (P := P) (cap := c) h4
  have r2 := bytes_of_sl (P := P) (cap := c2) g4
  have hrun : (Extern.BytealgCompare.compare #[.slice A a.length c, .slice A2 b.length c2]).run P w = .ok (.int .i64 (cmpS a b)) w := by
    change Sem.run P (do pure (goInt (Extern.BytealgCompare.cmp (← Extern.Bytes.bytesOf (.slice A a.length c)) (← Extern.Bytes.bytesOf (.slice A2 b.length c2))))) w = _
    simp only [Sem.run_bind, r1, r2, Result.andThen_ok, Sem.run_pure, Lib.cmp_eq]
    rw [← cmpB_S]; rfl
  have hcall := run_callFunc_extern hf hname hb hn he #[.slice A a.length c, .slice A2 b.length c2] w
  rw [hrun] at hcall
  refine ⟨.int .i64 (cmpS a b), w, _, .i .i64 (cmpS a b), ?_, hs, hd, repV_i.2 rfl, Eff.same (Mod.refl _ w), h⟩
  simp only [execOp, resolve, invoke, Sem.run_bind, List.map_toArray, List.map_cons, List.map_nil, hv, hv2]
  have hdv : (Deferred.ofValue (ac.eval (.func f)) #[.slice A a.length c, .slice A2 b.length c2]).run P w = .ok _ w := rfl
  rw [hdv]
  simp only [Result.andThen_ok]
  show (callFunc f (#[.slice A a.length c, .slice A2 b.length c2] ++ #[])).run P w = _
  rw [Array.append_empty]
  exact hcall
end
end Go.Proofs.YtcmgpkibjdbonaaGreat
set_option maxHeartbeats 8000000
set_option maxRecDepth 100000
namespace Go.Proofs.YtcmgpkibjdbonaaGreat
open Go Go.RowKit
def bitL (l : List UInt8) (i : Nat) : Nat := ((l.getD (i / 8) 0).toNat / 2 ^ (7 - i % 8)) % 2
def lz8 : Nat → Nat → Nat
  | 0, _ => 0
  | k + 1, x => if 128 ≤ x then 0 else 1 + lz8 k (2 * x % 256)
def xorB (x y : UInt8) : Nat := x.toNat ^^^ y.toNat
def comL : List UInt8 → List UInt8 → Nat
  | x :: a, y :: b => if xorB x y = 0 then 8 + comL a b else lz8 8 (xorB x y)
  | _, _ => 0
theorem lab_get {l : List UInt8} {i : Nat} (h : i < l.length) : (l.map byA)[i]? = some (byA (l.getD i 0)) := by
  rw [List.getD_eq_getElem?_getD, List.getElem?_eq_getElem h]
  exact getq_map (List.getElem?_eq_getElem h)
theorem and1 (x : Nat) (h : x < 256) : bitsI .and .i64 (IntKind.i64.wrap (x : Int)) 1 = ((x % 2 : Nat) : Int) := by
  have : ∀ x : Fin 256, bitsI .and .i64 (IntKind.i64.wrap ((x.val : Nat) : Int)) 1 = ((x.val % 2 : Nat) : Int) := by decide +kernel
  exact this ⟨x, h⟩
theorem shr8 (x k : Nat) (hk : k ≤ 8) : (x : Int).fdiv (2 ^ (min ((k : Int)).toNat (IntKind.bits .u8))) = ((x / 2 ^ k : Nat) : Int) := by
  rw [show min ((k : Int)).toNat (IntKind.bits .u8) = k by rw [show IntKind.bits .u8 = 8 from rfl]; omega, show (2 : Int) ^ k = ((2 ^ k : Nat) : Int) by rw [Int.natCast_pow]; rfl, Int.ofNat_fdiv]
theorem bit_spec (l : List UInt8) (hl : l.length = 32) (i : Int) (hi : 0 ≤ i) (hi2 : i ≤ 256) : Spec Tryz.prog 80 [labA l, .i .i64 i] [] (fun v os => v = .i .i64 ((if i < 256 then bitL l i.toNat else 0 : Nat)) ∧ os = []) := by
  refine spec_of TtOk [] Tryz.func80 rfl Tryz.ntmps80 (by kernel_rfl) rfl rfl (fun C => ?_) rfl
  obtain ⟨n, rfl⟩ : ∃ n : Nat, i = n := ⟨i.toNat, by omega⟩
  by_cases hn : n < 256
  · rw [if_pos (by omega), Int.toNat_natCast]
    have hg := lab_get (l := l) (i := n / 8) (by omega)
    have hb : bitL l n = ((l.getD (n / 8) 0).toNat / 2 ^ (7 - n % 8)) % 2 := rfl
    generalize l.getD (n / 8) 0 = c at hg hb
    repeat' (first | refine Awp.seq ?_ | refine Awp.region ?_ | refine Ops.nil (nqA ?_) | refine Awp.skip (nqA ?_) | refine Awp.ret (nqE ?_) | (refine o_sub rfl rfl rfl rfl ?_ ?_; omega) | (refine o_quo rfl rfl rfl rfl ?_ ?_ ?_; omega; omega) | (refine o_rem rfl rfl rfl rfl ?_ ?_ ?_; omega; omega) | (refine o_calm rfl TtOk rfl rfl rfl ?_ (fun _ => ?_); exact nd) | refine o_box (d := 2) rfl rfl rfl rfl (fun b2 => ?_) | (refine a_condP rfl (fun hc => ?_) (fun hc => ?_)) <;> (try (exfalso; omega)) | (refine o_indexArr TtOk rfl rfl rfl rfl rfl rfl (n/8) rfl (by omega) ?_) | (refine o_loadAt TtOk rfl rfl rfl rfl (sub_arr hg) (by first | exact Nat.add_zero _ | rfl) ⟨rfl, rfl⟩ rfl rfl ?_))
    refine end_tmp rfl rfl rfl [] [] (CLe.of_eq ?_) .nil ⟨rfl, rfl⟩ _ (.inl rfl)
    refine congrArg (AV.i .i64) ?_
    have hx : c.toNat / 2 ^ (7 - n % 8) < 256 := Nat.lt_of_le_of_lt (Nat.div_le_self _ _) c.toNat_lt
    rw [show (7 - (n : Int) % 8) = ((7 - n % 8 : Nat) : Int) by omega, shr8 _ _ (by omega), and1 _ hx, hb]
  · rw [if_neg (by omega)]
    repeat' (first | refine Awp.seq ?_ | refine Awp.region ?_ | refine Ops.nil (nqA ?_) | refine Awp.ret (nqE ?_) | (refine o_calm rfl TtOk rfl rfl rfl ?_ (fun _ => ?_); exact nd) | refine o_box (d := 2) rfl rfl rfl rfl (fun b2 => ?_) | (refine a_condP rfl (fun hc => ?_) (fun hc => ?_)) <;> (try (exfalso; omega)))
    exact nq2
theorem bcmp_spec (a b : List UInt8) : Spec Tryz.prog 154 [.sl 1 (a.map byA), .sl 1 (b.map byA)] [] (fun v os => v = .i .i64 (cmpS a b) ∧ os = []) := by
  refine spec_of TtOk [] Tryz.func154 rfl Tryz.ntmps154 (by kernel_rfl) rfl rfl (fun C => ?_) rfl
  repeat' (first | refine Awp.seq ?_ | refine Awp.region ?_ | refine Ops.nil (nqA ?_) | (refine o_calm rfl TtOk rfl rfl rfl ?_ (fun _ => ?_); exact nd))
  refine o_cmpBytes Tryz.func210 (by kernel_rfl) (by kernel_rfl) (by kernel_rfl) (by kernel_rfl) rfl rfl rfl rfl ?_
  repeat' (first | refine Ops.nil (nqA ?_) | refine Awp.ret (nqE ?_) | (refine o_calm rfl TtOk rfl rfl rfl ?_ (fun _ => ?_); exact nd))
  exact nq2
theorem border_spec (a b : List UInt8) : Spec Tryz.prog 57 [labA a, labA b] [] (fun v os => v = .i .i64 (cmpS a b) ∧ os = []) := by
  refine spec_of TtOk [] Tryz.func57 rfl Tryz.ntmps57 (by kernel_rfl) rfl rfl (fun C => ?_) rfl
  have hc := bcmp_spec a b
  repeat' (first | (refine a_freezeV 3 3 rfl rfl rfl ?_) | (refine a_freezeV 2 2 rfl rfl rfl ?_) | refine Awp.seq ?_ | refine Awp.region ?_ | refine Ops.nil (nqA ?_) | refine Awp.ret (nqE ?_) | (refine o_calm rfl TtOk rfl rfl rfl ?_ (fun _ => ?_); exact nd) | refine o_box rfl rfl rfl rfl (fun _ => ?_) | refine o_sliceCp TtOk rfl rfl rfl rfl rfl rfl ?_ | refine a_any 1 [] [] [] [0, 1, 2, 3] (by kernel_rfl) (by kernel_rfl) (by kernel_rfl) rfl rfl rfl ?_ | refine o_callE rfl (hc) ⟨nqS, nqS, True.intro⟩ rfl ?_)
  exact nq2
end Go.Proofs.YtcmgpkibjdbonaaGreat
set_option maxHeartbeats 4000000
namespace Go.Proofs.YtcmgpkibjdbonaaGreat
open Go Go.RowKit
theorem bwrap_nat (n : Nat) : IntKind.u8.wrap (n : Int) = ((n % 256 : Nat) : Int) := by rw [Int.natCast_emod]; rfl
theorem ofInt_nat (w n : Nat) : BitVec.ofInt w (n : Int) = BitVec.ofNat w n := BitVec.ofInt_natCast w n
theorem fdiv_pow (n k : Nat) : (n : Int).fdiv (2 ^ k) = ((n / 2 ^ k : Nat) : Int) := by
  rw [show (2 : Int) ^ k = ((2 ^ k : Nat) : Int) by rw [Int.natCast_pow]; rfl, Int.ofNat_fdiv]
theorem shr64 (n : Nat) {k : Nat} (hk : k ≤ 64) : (n : Int).fdiv (2 ^ (min ((k : Int)).toNat (IntKind.bits .u64))) = ((n / 2 ^ k : Nat) : Int) := by
  rw [show min ((k : Int)).toNat (IntKind.bits .u64) = k by rw [show IntKind.bits .u64 = 64 from rfl]; omega, fdiv_pow]
theorem wrapmid (i j : Nat) (h : i + j < 1000000) : IntKind.i64.wrap ((IntKind.u64.wrap ((i : Int) + j)).fdiv (2 ^ (min (Int.toNat 1) (IntKind.bits .u64)))) = (((i + j) / 2 : Nat) : Int) := by
  have e1 : IntKind.u64.wrap ((i : Int) + j) = ((i + j : Nat) : Int) := by
    rw [IntWalk.u64_in _ (by omega)]; omega
  have e2 := shr64 (i + j) (k := 1) (by decide)
  rw [e1, show (Int.toNat 1) = ((1 : Nat) : Int).toNat from rfl, e2, wrap64 _ (by omega)]
end Go.Proofs.YtcmgpkibjdbonaaGreat
set_option maxHeartbeats 8000000
set_option maxRecDepth 100000
namespace Go.Proofs.YtcmgpkibjdbonaaGreat
open Go Go.RowKit
theorem lz_facts : ∀ x : Fin 256, x.val ≠ 0 → lz8 8 x.val ≤ 7 ∧ 128 ≤ (x.val * 2 ^ lz8 8 x.val) % 256 ∧ ∀ j : Fin 8, j.val < lz8 8 x.val → (x.val * 2 ^ j.val) % 256 < 128 := by decide +kernel
theorem and128 (x : Nat) (h : x < 256) : bitsI .and .u8 (x : Int) 128 = ((if 128 ≤ x then 128 else 0 : Nat) : Int) := by
  have : ∀ x : Fin 256, bitsI .and .u8 ((x.val : Nat) : Int) 128 = ((if 128 ≤ x.val then 128 else 0 : Nat) : Int) := by decide +kernel
  exact this ⟨x, h⟩
theorem xorU8 {x y : Nat} (hx : x < 256) (hy : y < 256) : bitsI .xor .u8 (x : Int) (y : Int) = ((x ^^^ y : Nat) : Int) := by
  have hl : x ^^^ y < 256 := Nat.xor_lt_two_pow (n := 8) hx hy
  show IntKind.u8.wrap _ = _
  rw [ofInt_nat, ofInt_nat, BitVec.toNat_xor, BitVec.toNat_ofNat, BitVec.toNat_ofNat, show (2 ^ IntKind.u8.bits : Nat) = 256 from rfl, Nat.mod_eq_of_lt hx, Nat.mod_eq_of_lt hy, bwrap_nat, Nat.mod_eq_of_lt hl]
theorem xorB_lt (x y : UInt8) : xorB x y < 256 := Nat.xor_lt_two_pow (n := 8) x.toNat_lt y.toNat_lt
theorem comL_drop (a b : List UInt8) (i : Nat) (ha : i < a.length) (hb : i < b.length) : comL (a.drop i) (b.drop i) = if xorB (a.getD i 0) (b.getD i 0) = 0 then 8 + comL (a.drop (i + 1)) (b.drop (i + 1)) else lz8 8 (xorB (a.getD i 0) (b.getD i 0)) := by
  rw [List.drop_eq_getElem_cons ha, List.drop_eq_getElem_cons hb, List.getD_eq_getElem?_getD, List.getD_eq_getElem?_getD, List.getElem?_eq_getElem ha, List.getElem?_eq_getElem hb]; rfl
theorem bcommon_spec (a b : List UInt8) (ha : a.length = 32) (hb : b.length = 32) : Spec Tryz.prog 152 [labA a, labA b] [] (fun v os => v = .i .i64 (comL a b : Nat) ∧ os = []) := by
  refine spec_of TtOk [] Tryz.func152 rfl Tryz.ntmps152 (by kernel_rfl) rfl rfl (fun C => ?_) rfl
  obtain ⟨R, hR⟩ : ∃ R, comL a b = R := ⟨_, rfl⟩
  rw [hR]
  repeat' (first | refine Awp.seq ?_ | refine Awp.block ?_ | refine Awp.region ?_ | refine Ops.nil (nqA ?_) | (refine o_calm rfl TtOk rfl rfl rfl ?_ (fun _ => ?_); exact nd) | refine o_box (d := 2) rfl rfl rfl rfl (fun b2 => ?_) | refine o_box (d := 3) rfl rfl rfl rfl (fun b3 => ?_))
  refine Awp.loop (fun i : Nat => ⟨31, [(8, .i .i64 i), (2, .ptr 2 b2 [] 0), (3, .ptr 3 b3 [] 0)], [(2, .var b2 (labA a)), (3, .var b3 (labA b))]⟩) (fun i => i ≤ 32 ∧ 8 * i + comL (a.drop i) (b.drop i) = R) (fun i => 32 - i) [] 0 ⟨Nat.zero_le _, by rw [List.drop_zero, List.drop_zero]; omega⟩ ?_ ?_
  · exact ⟨rfl, ⟨sle_i rfl, sle_ptr, sle_ptr, True.intro⟩, HLe.cons 2 rfl (HOLe.refl _) (HLe.cons 3 rfl (HOLe.refl _) .nil)⟩
  rintro i ⟨hi, hst⟩
  by_cases hlt : i < 32
  · rw [comL_drop a b i (by omega) (by omega)] at hst
    have hga := lab_get (l := a) (i := i) (by omega)
    have hgb := lab_get (l := b) (i := i) (by omega)
    have hxl := xorB_lt (a.getD i 0) (b.getD i 0)
    have hxe : bitsI .xor .u8 ((a.getD i 0).toNat : Int) ((b.getD i 0).toNat : Int) = ((xorB (a.getD i 0) (b.getD i 0) : Nat) : Int) := xorU8 (UInt8.toNat_lt _) (UInt8.toNat_lt _)
    generalize xorB (a.getD i 0) (b.getD i 0) = x at hst hxl hxe
    generalize a.getD i 0 = ca at hga hxe
    generalize b.getD i 0 = cb at hgb hxe
    repeat' (first | (rw [hxe]) | refine Awp.seq ?_ | refine Awp.block ?_ | refine Awp.region ?_ | refine Ops.nil (nqA ?_) | refine Ops.nil (nqX ?_) | refine Awp.skip (nqA ?_) | (refine o_add rfl rfl rfl rfl ?_ ?_; omega) | (refine o_mul rfl rfl rfl rfl ?_ ?_; omega) | (refine o_calm rfl TtOk rfl rfl rfl ?_ (fun _ => ?_); exact nd) | (refine a_condP rfl (fun hc => ?_) (fun hc => ?_)) <;> (try (exfalso; omega)) | (refine a_condN rfl (fun hc => ?_) (fun hc => ?_)) <;> (try (exfalso; omega)) | refine a_any 4 [] [] [] [0, 1, 3, 4, 2, 5, 6, 7] (by kernel_rfl) (by kernel_rfl) (by kernel_rfl) rfl rfl rfl ?_ | (refine o_indexArr TtOk rfl rfl rfl rfl rfl rfl i rfl (by omega) ?_) | (refine o_loadAt TtOk rfl rfl rfl rfl (sub_arr hga) (by first | exact Nat.add_zero _ | rfl) ⟨rfl, rfl⟩ rfl rfl ?_) | (refine o_loadAt TtOk rfl rfl rfl rfl (sub_arr hgb) (by first | exact Nat.add_zero _ | rfl) ⟨rfl, rfl⟩ rfl rfl ?_))
    · obtain ⟨l1, l2, l3⟩ := lz_facts ⟨x, hxl⟩ (by show x ≠ 0; omega)
      dsimp only at l1 l2 l3
      rw [if_neg (by omega)] at hst
      generalize lz8 8 x = z at hst l1 l2 l3
      refine Awp.loop (fun j : Nat => ⟨31, [(7, .i .i64 ((8 * i + j : Nat) : Int)), (6, .i .u8 ((x * 2 ^ j % 256 : Nat) : Int)), (2, .ptr 2 b2 [] 0), (3, .ptr 3 b3 [] 0)], [(2, .var b2 (labA a)), (3, .var b3 (labA b))]⟩) (fun j => j ≤ z) (fun j => z - j) [] 0 (Nat.zero_le _) ?_ ?_
      · exact ⟨rfl, ⟨sle_i (by omega), sle_i (by rw [Nat.pow_zero, Nat.mul_one, Nat.mod_eq_of_lt hxl]), sle_ptr, sle_ptr, True.intro⟩, HLe.cons 2 rfl (HOLe.refl _) (HLe.cons 3 rfl (HOLe.refl _) .nil)⟩
      intro j hj
      have hyl : x * 2 ^ j % 256 < 256 := Nat.mod_lt _ (by decide)
      have hym : IntKind.u8.wrap (((x * 2 ^ j % 256 : Nat) : Int) * 2 ^ (min (Int.toNat 1) (IntKind.bits .u8))) = ((x * 2 ^ (j + 1) % 256 : Nat) : Int) := by
        rw [show min (Int.toNat 1) (IntKind.bits .u8) = 1 from rfl]
        show (((x * 2 ^ j % 256 : Nat) : Int) * 2) % 256 = _
        rw [Nat.pow_succ, ← Nat.mul_assoc]; omega
      have han := and128 _ hyl
      by_cases hjz : j < z
      · have hy := l3 ⟨j, by omega⟩ hjz
        dsimp only at hy
        rw [if_neg (by omega)] at han
        generalize x * 2 ^ j % 256 = y at hyl hym han hy ⊢
        repeat' (first | (rw [hym]) | (rw [han]) | refine Awp.seq ?_ | refine Awp.block ?_ | refine Awp.region ?_ | refine Ops.nil (nqA ?_) | refine Ops.nil (nqX ?_) | refine Awp.skip (nqA ?_) | (refine o_add rfl rfl rfl rfl ?_ ?_; omega) | (refine o_calm rfl TtOk rfl rfl rfl ?_ (fun _ => ?_); exact nd) | refine a_condT rfl ?_)
        exact ⟨j + 1, [], hjz, by omega, rfl, ⟨sle_i (by omega), sle_i rfl, sle_ptr, sle_ptr, True.intro⟩, HLe.cons 2 rfl (HOLe.refl _) (HLe.cons 3 rfl (HOLe.refl _) .nil)⟩
      · have hje : j = z := by omega
        subst hje
        rw [if_pos l2] at han
        generalize x * 2 ^ j % 256 = y at hyl hym han ⊢
        repeat' (first | (rw [han]) | refine Awp.seq ?_ | refine Awp.region ?_ | refine Ops.nil (nqA ?_) | refine Awp.exit (nqA ?_) | refine Awp.ret (nqE ?_) | (refine o_calm rfl TtOk rfl rfl rfl ?_ (fun _ => ?_); exact nd) | refine a_condF rfl ?_)
        exact end_tmp rfl rfl rfl [] [] (CLe.of_eq (by rw [← hst]; rfl)) .nil ⟨rfl, rfl⟩ _ (.inl rfl)
    · rw [if_pos (by omega)] at hst
      exact ⟨i + 1, [], ⟨hlt, by omega⟩, by omega, rfl, ⟨sle_i (by omega), sle_ptr, sle_ptr, True.intro⟩, HLe.cons 2 rfl (HOLe.refl _) (HLe.cons 3 rfl (HOLe.refl _) .nil)⟩
  · have hie : i = 32 := by omega
    subst hie
    rw [List.drop_of_length_le (by omega)] at hst
    have hst : 8 * 32 + 0 = R := hst
    subst hst
    repeat' (first | refine Awp.seq ?_ | refine Awp.region ?_ | refine Ops.nil (nqA ?_) | refine Awp.exit (nqA ?_) | refine Awp.ret (nqE ?_) | (refine o_calm rfl TtOk rfl rfl rfl ?_ (fun _ => ?_); exact nd) | refine a_condF rfl ?_)
    exact nq2
end Go.Proofs.YtcmgpkibjdbonaaGreat
set_option maxHeartbeats 4000000
namespace Go.Proofs.YtcmgpkibjdbonaaGreat
open Go Go.RowKit
theorem sliceArrHi_run {P : Program} {w : World} {t n e : Nat} (hu : P.underlying t = some (.array n e)) {ie : TypeInfo} (hie : P.info? e = some ie) (b off m : Nat) (hm : m ≤ n) (k : IntKind) (_h0 : 0 < n) : (Instr.sliceAt t (.pointer (some ⟨b, off, none⟩)) none (some (.int k (m : Int))) none).run P w = .ok (.slice (some ⟨b, off, none⟩) m n) w := by
  have h1 : (m : Int) ≤ (n : Int) := by omega
  unfold Instr.sliceAt
  simp [run_underlying hu, Instr.sureAddr, Instr.sliceBounds, Instr.sliceBound, asIntOf, sizeOf, typeInfo, hie, Addr.add, Nat.not_lt.2 hm]
section
variable {m : OM} {P : Program} {T : List (Nat × TI)} {C : Ctx} {ops : Array Oper} {l : List Oper} {K : St → Prop} {n : Nat} {sl : List (Nat × AV)} {hp : List (Nat × HO)} {d : Nat} {ty : Nat} {pos : String} {aft : Array Edge} {gd : Option (Nat × Bool)}
theorem o_sliceCpHi (hT : TTOk P T) (hw : gval ops ⟨n, sl, hp⟩ gd = gwant gd) {t : Nat} {x hi : Operand} {sz : Nat} {α : Type} {f : α → AV} {xs : List α} {mlen e sz0 by_ : Nat} {z : AV} {te : TI} {kh : IntKind} {ih : Int} (q : Nat)
    (hx : ev ⟨n, sl, hp⟩ x = .cp (.arr sz mlen (xs.map f))) (hhi : ev ⟨n, sl, hp⟩ hi = .i kh ih) (hih : ih = q) (hq : q ≤ mlen) (h0 : 0 < mlen) (ht : tget T t = some ⟨.array mlen e, sz0, by_, z⟩) (he : tget T e = some te) (hd : Nat.blt d n = true) (hn : Nat.ble mlen 1000000 = true)
    (h : Ops m P C ops l ⟨n, (d, .sl sz ((xs.take q).map f)) :: sl, hp⟩ K) : Ops m P C ops (⟨some d, .slice t x none (some hi) none, ty, pos, aft, gd⟩ :: l) ⟨n, sl, hp⟩ K := by
  subst hih
  rw [List.map_take] at h
  have hn := Nat.le_of_ble_eq_true hn
  refine Ops.by (d := some d) hw none okc_none hd rfl (fun a w hs => ?_) h
  have Ex := ev_rep hs x
  rw [hx, repV_cp] at Ex
  obtain ⟨b, off, vs, e1, hF, hrep, hat⟩ := Ex
  simp only [repC] at hrep
  obtain ⟨ie, hie, _, _⟩ := (tget_ok hT he).inf
  have Eh := ev_rep hs hi
  rw [hhi, repV_i] at Eh
  have hl : ((xs.map f).take q).length = q := by rw [List.length_take, hrep.1]; omega
  refine ⟨.slice (some ⟨b, off, none⟩) q mlen, repV_sl.2 ⟨some ⟨b, off, none⟩, mlen, by rw [hl], by omega, by unfold maxLen; omega, fun _ => ⟨b, off, rfl, hF, repRow_take q (repA_row hF (xs.map f) vs off hrep.2 hat)⟩⟩, fun w' _ => ?_⟩
  have hr := sliceArrHi_run (P := P) (w := w') (tk_array (tget_ok hT ht)) hie b off q hq kh h0
  simp only [execOp, e1, Option.map_none, Option.map_some, Eh, Sem.run_bind, hr, Result.andThen_ok, Sem.run_pure]
/-- copy into the array that stands behind a number in a structure. -/
theorem o_copyFld (hT : TTOk P T) (hw : gval ops ⟨n, sl, hp⟩ gd = gwant gd) {x y : Operand} {t e k sz0 by0 by1 : Nat} {z0 z1 : AV} {k1 : TK} {key b st : Nat} {a0 : Int} {kk : IntKind} {xs ys : List AV} {p : Prop} {hp' : List (Nat × HO)}
    (ht : tget T t = some ⟨.slice e, sz0, by0, z0⟩) (he : tget T e = some ⟨k1, 1, by1, z1⟩) (hx : ev ⟨n, sl, hp⟩ x = .vw key b [1] st 1 k k) (hy : srcOf hp (ev ⟨n, sl, hp⟩ y) = some (p, 1, ys)) (hp0 : p) (hg : hget hp key = some (.var b (.agg [.i kk a0, .arr 1 k xs])))
    (hd : Nat.blt d n = true) (hm : m.oke (some d) [key] = true) (hle : ys.length ≤ k) (hh : hset hp key (.var b (.agg [.i kk a0, .arr 1 k (ys ++ xs.drop ys.length)])) = hp')
    (h : Ops m P C ops l ⟨n, (d, .i .i64 ys.length) :: sl, hp'⟩ K) : Ops m P C ops (⟨some d, .call ⟨.builtin .copy, #[x, y], #[t, t]⟩, ty, pos, aft, gd⟩ :: l) ⟨n, sl, hp⟩ K := by
  subst hh
  refine Ops.eff hw [key] hm rfl fun a w hs => ?_
  have Ex := ev_rep hs x
  rw [hx, repV_vw] at Ex
  obtain ⟨A, c, news, hv, h1, h2, h3, h4⟩ := srcOf_rep hs hy hp0 (ev_rep hs y)
  have hnl : news.length = ys.length := by have := repA_size 1 ys news h3; omega
  obtain ⟨t2, cs, hb, hc⟩ := hs.getHeap hg
  simp only [repC, repL] at hc
  obtain ⟨c0, c1, hcc, hc0, hxl, hc1⟩ : ∃ c0 c1, cs.toList = [c0] ++ c1 ∧ c0 = .int kk a0 ∧ xs.length = k ∧ repA w (Fz C hp w) 1 xs c1 := by
    obtain ⟨u1, u2, e1, e2, u3, u4, e3, e4, e5⟩ := hc
    subst e2
    refine ⟨_, u3, ?_, rfl, e4.1, e4.2⟩
    rw [e1, e3, e5, List.append_nil]
  have hcs : cs.size = 1 + k := by
    have h5 := repA_size 1 xs _ hc1
    have h6 := congrArg List.length hcc
    rw [Array.length_toList, List.length_append] at h6
    simp only [List.length_cons, List.length_nil] at h6
    omega
  have hone : ∀ u ∈ news, u.oneCell' = true := repA_one 1 ys news h3
  have hst := run_storeCells_at P b 1 t2 news 0 cs w hb (by rw [hcs, hnl]; omega) hone
  have hsz := (tget_ok hT he).sizeRun w
  have hf : (Builtin.firstCells 1 ys.length (.slice A ys.length c)).run P w = .ok news.toArray w := by
    rcases Nat.eq_zero_or_pos ys.length with h0 | h0
    · have hn0 : news = [] := List.eq_nil_of_length_eq_zero (by omega)
      subst hn0
      rw [h0]
      cases A with
      | none => exact run_firstCells_none (P := P) w 1 0 0 c
      | some ad => exact run_firstCells_some (P := P) w 1 0 ad 0 c [] rfl (fun j u hj => by cases hj)
    · obtain ⟨b2, off, rfl, hr⟩ := h4 (by omega)
      refine run_firstCells_some (P := P) w 1 ys.length ⟨b2, off, none⟩ ys.length c news (by rw [Nat.mul_one, hnl]) (fun j u hj => ?_)
      have hadd : (⟨b2, off, none⟩ : Addr).add j = ⟨b2, off + j, none⟩ := by unfold Addr.add; split <;> simp_all
      rw [hadd]; exact hr j u hj
  have hmin : Nat.min ys.length k = ys.length := Nat.min_eq_left hle
  simp only [Nat.add_zero, hnl] at hst
  have htk : cs.toList.take 1 = [c0] := by rw [hcc]; rfl
  have hdr : cs.toList.drop (1 + ys.length) = c1.drop ys.length := by rw [hcc, Nat.add_comm]; rfl
  rw [htk, hdr] at hst
  generalize hw2 : w.setRow b ([c0] ++ news ++ c1.drop ys.length).toArray = w2 at hst
  have hmod : Mod (fun b' => HO.blk (.var b (.agg [.i kk a0, .arr 1 k xs])) = some b') w w2 := by
    rw [← hw2]
    exact (setRow_mod w b _).mono (fun _ _ h => by rw [h]; rfl)
  have hB : Blk w2 b t2 ([c0] ++ news ++ c1.drop ys.length).toArray := by rw [← hw2]; exact setRow_heap w b cs _ t2 (0, 0) hb
  have hlt := (hs.lt b (blk_mem hg rfl)).1
  refine ⟨.int .i64 ys.length, w2, ⟨n, sl, hset hp key (.var b (.agg [.i kk a0, .arr 1 k (ys ++ xs.drop ys.length)]))⟩, .i .i64 ys.length, ?_, ?_, hd, repV_i.2 rfl, Eff.swap hg hmod (fun _ h => .inl h), h⟩
  · simp only [execOp, resolve, invoke, builtin, Sem.run_bind, Sem.run_pure, Result.andThen_ok, List.map_toArray, List.map_cons, List.map_nil, Ex.1, hv]
    unfold Builtin.copy_
    simp [run_underlying (tk_slice (tget_ok hT ht)), Builtin.lenOf, hmin, hsz, hf, hst, goInt]
    try rfl
  · refine hs.swap hg (.var b (.agg [.i kk a0, .arr 1 k (ys ++ xs.drop ys.length)])) hmod ⟨t2, _, hB, ?_⟩ (fun b' hb' => ?_)
    · have hF : ∀ b', Fz C hp w b' → Fz C (hset hp key (.var b (.agg [.i kk a0, .arr 1 k (ys ++ xs.drop ys.length)]))) w2 b' := fun b' hb' =>
        ⟨Nat.lt_of_lt_of_le hb'.1 hmod.size, by rw [blks_hset hg (.var b (.agg [.i kk a0, .arr 1 k (ys ++ xs.drop ys.length)])) rfl]; exact hb'.2.1, hb'.2.2⟩
      have hW : ∀ b', Fz C hp w b' → w2.heap[b']? = w.heap[b']? := fun b' hb' => hmod.block b' hb'.1 (fun he => hb'.2.1 (blk_mem hg he))
      refine repC_mono hF hW (.agg [.i kk a0, .arr 1 k (ys ++ xs.drop ys.length)]) _ ?_
      simp only [repC, repL]
      refine ⟨[c0], news ++ c1.drop ys.length, by simp, by rw [hc0], news ++ c1.drop ys.length, [], by simp, ⟨by rw [List.length_append, List.length_drop]; omega, repA_append h3 (repA_drop1 _ _ _ hc1)⟩, rfl⟩
    · have : b = b' := by simpa [HO.blk] using hb'
      subst this
      exact ⟨by have := hmod.size; omega, .inl rfl⟩
theorem o_indexArrP (hT : TTOk P T) (hw : gval ops ⟨n, sl, hp⟩ gd = gwant gd) {t : Nat} {x ix : Operand} {key b off : Nat} {path : List Nat} {i : Int} {kk : IntKind} {mlen e sz0 by_ : Nat} {z : AV} {te : TI}
    (hx : ev ⟨n, sl, hp⟩ x = .ptr key b path off) (hi : ev ⟨n, sl, hp⟩ ix = .i kk i) (ht : tget T t = some ⟨.array mlen e, sz0, by_, z⟩) (he : tget T e = some te)
    (hd : Nat.blt d n = true) (j : Nat) (hj : i = j) (hn : j < mlen) (h : Ops m P C ops l ⟨n, (d, .ptr key b (path ++ [j]) (off + j * te.sz)) :: sl, hp⟩ K) : Ops m P C ops (⟨some d, .indexAddr t x ix, ty, pos, aft, gd⟩ :: l) ⟨n, sl, hp⟩ K := by
  subst hj
  refine Ops.indexArr hT hw hx hi ht he hd (by omega) (by omega) ?_
  simp only [Int.toNat_natCast]
  exact h
theorem o_storeSub (hT : TTOk P T) (hw : gval ops ⟨n, sl, hp⟩ gd = gwant gd) {t : Nat} {x y : Operand} {u c c' : AV} {key b off o : Nat} {path : List Nat} {old : AV} {ti : TI} {hp' : List (Nat × HO)}
    (hx : ev ⟨n, sl, hp⟩ x = .ptr key b path off) (ht : tget T t = some ti) (hg : hget hp key = some (.var b c)) (hsub : subAt path c = some (o, old)) (ho : o = off) (hu : ev ⟨n, sl, hp⟩ y = u) (hf : fits ti u) (hy : u.isVal = true) (hm : m.oke none [key] = true)
    (hold : sizeA old = ti.sz) (hc : updAt path c u = c') (hh : hset hp key (.var b c') = hp') (h : Ops m P C ops l ⟨n, sl, hp'⟩ K) : Ops m P C ops (⟨none, .store t x y, ty, pos, aft, gd⟩ :: l) ⟨n, sl, hp⟩ K := by
  subst hu; subst hc; subst hh
  exact Ops.store hT hw hx ht hg hsub ho hf hold hy hm h
theorem sub_fld {kk : IntKind} {a : Int} {k j : Nat} {xs : List AV} {y : AV} (h : xs[j]? = some y) : subAt [1, j] (.agg [.i kk a, .arr 1 k xs]) = some (1 + j, y) := by
  simp [subAt, h]
  rfl
theorem upd_fld {kk : IntKind} {a : Int} {k j : Nat} {xs : List AV} (u : AV) : updAt [1, j] (.agg [.i kk a, .arr 1 k xs]) u = .agg [.i kk a, .arr 1 k (xs.set j u)] := by
  simp [updAt]
theorem o_indexCp (hT : TTOk P T) (hw : gval ops ⟨n, sl, hp⟩ gd = gwant gd) {t : Nat} {x ix : Operand} {α : Type} {f : α → AV} {xs : List α} {i : Int} {kk : IntKind} {sz mlen e sz0 by_ : Nat} {z : AV} {te : TI} {y : α}
    (hx : ev ⟨n, sl, hp⟩ x = .cp (.arr sz mlen (xs.map f))) (hi : ev ⟨n, sl, hp⟩ ix = .i kk i) (ht : tget T t = some ⟨.array mlen e, sz0, by_, z⟩) (he : tget T e = some te) (hsz : te.sz = sz)
    (hd : Nat.blt d n = true) (j : Nat) (hj : i = j) (hy : xs[j]? = some y) (h : Ops m P C ops l ⟨n, (d, .cp (f y)) :: sl, hp⟩ K) : Ops m P C ops (⟨some d, .indexAddr t x ix, ty, pos, aft, gd⟩ :: l) ⟨n, sl, hp⟩ K := by
  subst hj; subst hsz
  refine Ops.by (d := some d) hw none okc_none hd rfl (fun a w hs => ?_) h
  have Ex := ev_rep hs x; have Ei := ev_rep hs ix
  rw [hx, repV_cp] at Ex
  rw [hi, repV_i] at Ei
  obtain ⟨b, off, vs, e1, hF, hrep, hat⟩ := Ex
  simp only [repC] at hrep
  obtain ⟨pre, mid, post, p1, p2, p3, p4, _⟩ := repA_at te.sz _ j (f y) _ hrep.2 (by rw [List.getElem?_map, hy]; rfl)
  have hjl : j < mlen := by
    have := (List.getElem?_eq_some_iff.1 hy).1
    have h2 := hrep.1
    rw [List.length_map] at h2; omega
  refine ⟨.pointer (some ⟨b, off + j * te.sz, none⟩), repV_cp.2 ⟨b, off + j * te.sz, mid, rfl, hF, p3, fun q u hq => ?_⟩, fun w' _ => ?_⟩
  · have h3 := hat (pre.length + q) u (by
      rw [p1, List.append_assoc, List.getElem?_append_right (by omega), Nat.add_sub_cancel_left, List.getElem?_append_left (List.getElem?_eq_some_iff.1 hq).1]; exact hq)
    rw [p2] at h3
    rwa [show off + (j * te.sz + q) = off + j * te.sz + q by omega] at h3
  · have hu := tk_array (tget_ok hT ht)
    have : (Instr.indexAt t (.pointer (some ⟨b, off, none⟩)) (.int kk (j : Int))).run P w' = .ok (.pointer (some ⟨b, off + j * te.sz, none⟩)) w' := by
      have h1 : (0 : Int) ≤ (j : Int) := by omega
      have h2 : (j : Int) < (mlen : Int) := by omega
      simp only [Instr.indexAt, asIntOf, Sem.run_bind, Sem.run_pure, Result.andThen_ok, run_underlying hu, Instr.sureAddr, h1, h2, and_self, if_true, (tget_ok hT he).sizeRun, Int.toNat_natCast]
      unfold Addr.add
      split
      · rename_i h3; rw [h3]; rfl
      · rfl
    simp only [execOp, e1, Ei, Sem.run_bind, this, Result.andThen_ok, Sem.run_pure]
end
end Go.Proofs.YtcmgpkibjdbonaaGreat
set_option maxHeartbeats 8000000
set_option maxRecDepth 100000
namespace Go.Proofs.YtcmgpkibjdbonaaGreat
open Go Go.RowKit
def pfxA (n : Int) (l : List UInt8) : AV := .agg [.i .i64 n, labA l]
def cutP (l : List UInt8) (n : Nat) : List UInt8 := l.take (n / 8) ++ List.replicate (32 - n / 8) 0
def clr (c : UInt8) (k : Nat) : UInt8 := UInt8.ofNat (c.toNat / 2 ^ (8 - k) * 2 ^ (8 - k))
def cutL (l : List UInt8) (n : Nat) : List UInt8 := if n % 8 = 0 then cutP l n else (cutP l n).set (n / 8) (clr (l.getD (n / 8) 0) (n % 8))
def clamp (n : Int) : Nat := (max 0 (min n 256)).toNat
theorem clr_eq (c : UInt8) (k : Nat) (hk : k < 8) : bitsI .andNot .u8 (c.toNat : Int) ((255 : Int).fdiv (2 ^ (min ((k : Int)).toNat (IntKind.bits .u8)))) = ((clr c k).toNat : Int) := by
  have : ∀ (x : Fin 256) (k : Fin 8), bitsI .andNot .u8 ((x.val : Nat) : Int) ((255 : Int).fdiv (2 ^ (min ((k.val : Int)).toNat (IntKind.bits .u8)))) = (((UInt8.ofNat (x.val / 2 ^ (8 - k.val) * 2 ^ (8 - k.val))).toNat : Nat) : Int) := by decide +kernel
  exact this ⟨c.toNat, c.toNat_lt⟩ ⟨k, hk⟩
theorem cutP_len (l : List UInt8) (n : Nat) (hl : l.length = 32) (hn : n ≤ 256) : (cutP l n).length = 32 := by unfold cutP; rw [List.length_append, List.length_take, List.length_replicate]; omega
theorem cutL_len (l : List UInt8) (n : Nat) (hl : l.length = 32) (hn : n ≤ 256) : (cutL l n).length = 32 := by
  unfold cutL; split
  · exact cutP_len l n hl hn
  · rw [List.length_set]; exact cutP_len l n hl hn
theorem bcut_spec (l : List UInt8) (hl : l.length = 32) (n0 : Int) : Spec Tryz.prog 170 [labA l, .i .i64 n0] [] (fun v os => v = pfxA (clamp n0 : Nat) (cutL l (clamp n0)) ∧ os = []) := by
  refine spec_of TtOk [] Tryz.func170 rfl Tryz.ntmps170 (by kernel_rfl) rfl rfl (fun C => ?_) rfl
  have hcl : clamp n0 ≤ 256 := by unfold clamp; omega
  have hcn : (if (if 256 < n0 then 256 else n0) > 0 then (if 256 < n0 then 256 else n0) else 0) = (clamp n0 : Int) := by unfold clamp; split <;> split <;> omega
  generalize clamp n0 = n at hcl hcn
  have htl : ((l.take (n / 8)).map byA).length = n / 8 := by rw [List.length_map, List.length_take]; omega
  have hP : (l.take (n / 8)).map byA ++ (List.replicate 32 (AV.i .u8 0)).drop ((l.take (n / 8)).map byA).length = (cutP l n).map byA := by
    unfold cutP; rw [htl, List.map_append, List.map_replicate, List.drop_replicate]; rfl
  by_cases h8 : n % 8 = 0
  · have hcu : cutL l n = cutP l n := by unfold cutL; rw [if_pos h8]
    rw [hcu]
    repeat' (first | (rw [hP]) | (rw [hcn]) | (refine a_freezeV 2 2 rfl rfl rfl ?_) | refine Awp.seq ?_ | refine Awp.region ?_ | refine Ops.nil (nqA ?_) | refine Awp.skip (nqA ?_) | refine Awp.ret (nqE ?_) | (refine o_quo rfl rfl rfl rfl ?_ ?_ ?_; omega; omega) | (refine o_rem rfl rfl rfl rfl ?_ ?_ ?_; omega; omega) | (refine o_calm rfl TtOk rfl rfl rfl ?_ (fun _ => ?_); exact nd) | refine o_alloc (d := 4) rfl TtOk rfl rfl rfl (fun b4 => ?_) | refine o_alloc (d := 5) rfl TtOk rfl rfl rfl (fun b5 => ?_) | refine o_box (d := 2) rfl rfl rfl rfl (fun b2 => ?_) | refine o_store TtOk rfl rfl rfl rfl rfl rfl rfl ⟨rfl, rfl⟩ rfl rfl rfl rfl rfl ?_ | refine o_build TtOk rfl rfl rfl rfl rfl rfl nq1 ?_ | (refine a_condN rfl (fun hc => ?_) (fun hc => ?_)) <;> (try (exfalso; omega)) | refine a_any 3 [5] [] [] [0, 1, 2, 3, 4, 5] (by kernel_rfl) (by kernel_rfl) (by kernel_rfl) rfl rfl rfl ?_ | (refine o_sliceVw TtOk rfl rfl rfl rfl rfl rfl ?_) | (refine o_sliceCpHi (f:=byA) (xs:=l) TtOk rfl (n/8) rfl rfl rfl (by omega) (by decide) rfl rfl rfl rfl ?_) | (refine o_copyFld TtOk rfl rfl rfl rfl rfl (by first | exact True.intro | exact rfl) rfl rfl rfl ?_ rfl ?_; omega))
    refine end_all [] [] (pfxA (n : Nat) (cutP l n)) rfl ?_ ?_ (rle_one (CLe.refl _) rfl) .nil ⟨rfl, rfl⟩ _ (.inl rfl)
    · exact nq1
    · exact ⟨trivial, trivial⟩
  · have hcu : cutL l n = (cutP l n).set (n / 8) (clr (l.getD (n / 8) 0) (n % 8)) := by unfold cutL; rw [if_neg h8]
    rw [hcu]
    have hlt : n / 8 < 32 := by omega
    have hcl2 := cutP_len l n hl hcl
    have hlg : l[n / 8]? = some (l.getD (n / 8) 0) := by rw [List.getD_eq_getElem?_getD, List.getElem?_eq_getElem (by omega)]; rfl
    have hce := clr_eq (l.getD (n / 8) 0) (n % 8) (by omega)
    have hen : ((n % 8 : Nat) : Int) = (n : Int) % 8 := by omega
    rw [hen] at hce
    generalize l.getD (n / 8) 0 = c at hlg hce
    have hold : ((cutP l n).map byA)[n / 8]? = some (byA ((cutP l n)[n / 8]'(by omega))) := getq_map (List.getElem?_eq_getElem (by omega))
    repeat' (first | (rw [hce]) | (rw [hP]) | (rw [hcn]) | (refine a_freezeV 2 2 rfl rfl rfl ?_) | refine Awp.seq ?_ | refine Awp.region ?_ | refine Ops.nil (nqA ?_) | refine Awp.ret (nqE ?_) | (refine o_quo rfl rfl rfl rfl ?_ ?_ ?_; omega; omega) | (refine o_rem rfl rfl rfl rfl ?_ ?_ ?_; omega; omega) | (refine o_calm rfl TtOk rfl rfl rfl ?_ (fun _ => ?_); exact nd) | refine o_alloc (d := 4) rfl TtOk rfl rfl rfl (fun b4 => ?_) | refine o_alloc (d := 5) rfl TtOk rfl rfl rfl (fun b5 => ?_) | refine o_box (d := 2) rfl rfl rfl rfl (fun b2 => ?_) | refine o_store TtOk rfl rfl rfl rfl rfl rfl rfl ⟨rfl, rfl⟩ rfl rfl rfl rfl rfl ?_ | refine o_build TtOk rfl rfl rfl rfl rfl rfl nq1 ?_ | (refine a_condN rfl (fun hc => ?_) (fun hc => ?_)) <;> (try (exfalso; omega)) | refine a_any 3 [5] [] [] [0, 1, 2, 3, 4, 5] (by kernel_rfl) (by kernel_rfl) (by kernel_rfl) rfl rfl rfl ?_ | refine a_any 5 [5] [25] [] [0, 1, 2, 3, 4, 6, 7, 8, 10, 5, 9, 11, 12] (by kernel_rfl) (by kernel_rfl) (by kernel_rfl) rfl rfl rfl ?_ | (refine o_sliceVw TtOk rfl rfl rfl rfl rfl rfl ?_) | (refine o_sliceCpHi (f:=byA) (xs:=l) TtOk rfl (n/8) rfl rfl rfl (by omega) (by decide) rfl rfl rfl rfl ?_) | (refine o_copyFld TtOk rfl rfl rfl rfl rfl (by first | exact True.intro | exact rfl) rfl rfl rfl ?_ rfl ?_; omega) | (refine o_indexCp (f:=byA) (xs:=l) TtOk rfl rfl rfl rfl rfl rfl rfl (n/8) rfl hlg ?_) | (refine o_indexArrP TtOk rfl rfl rfl rfl rfl rfl (n/8) rfl hlt ?_) | (refine o_storeSub TtOk rfl rfl rfl rfl (sub_fld hold) (by show _ = 0+1+n/8*1; omega) rfl ⟨rfl, rfl⟩ rfl rfl rfl (upd_fld _) rfl ?_))
    have hq : AV.agg [.i .i64 (n : Nat), .arr 1 32 (((cutP l n).map byA).set (n / 8) (byA (clr c (n % 8))))] = pfxA (n : Nat) ((cutP l n).set (n / 8) (clr c (n % 8))) := by
      unfold pfxA labA; rw [List.map_set]
    refine end_all [] [] (pfxA (n : Nat) ((cutP l n).set (n / 8) (clr c (n % 8)))) rfl ?_ ?_ (rle_one (CLe.of_eq hq) rfl) .nil ⟨rfl, rfl⟩ _ (.inl rfl)
    · exact nq1
    · exact ⟨trivial, trivial⟩
end Go.Proofs.YtcmgpkibjdbonaaGreat
