/- SHA-256: a block is taken in, by rules. -/
import Derived.Test.YtcmgpkibjdbonaaGreatTypesZ
set_option maxHeartbeats 32000000
namespace Go.Proofs.YtcmgpkibjdbonaaGreat
open Go Go.RowKit
def uI (x : Int) : AV := .i .u32 x
def w32 (x : Int) : Int := IntKind.u32.wrap x
def xorI (x y : Int) : Int := bitsI .xor .u32 x y
def andI (x y : Int) : Int := bitsI .and .u32 x y
def orI (x y : Int) : Int := bitsI .or .u32 x y
def notI (x : Int) : Int := bitsI .xor .u32 (if IntKind.u32.signed then -1 else IntKind.u32.max) x
def shr32 (x : Int) (n : Nat) : Int := x.fdiv (2 ^ n)
def shl32 (x : Int) (n : Nat) : Int := w32 (x * 2 ^ n)
section
variable {m : OM} {P : Program} {T : List (Nat × TI)} {C : Ctx} {ops : Array Oper} {l : List Oper} {K : St → Prop} {n : Nat} {sl : List (Nat × AV)} {hp : List (Nat × HO)} {d : Nat} {ty : Nat} {pos : String} {aft : Array Edge} {gd : Option (Nat × Bool)}
/-- A load of a part whose place a fact names. -/
theorem o_loadAt (hT : TTOk P T) (hw : gval ops ⟨n, sl, hp⟩ gd = gwant gd) {t : Nat} {x : Operand} {key b off o : Nat} {path : List Nat} {c y : AV} {ti : TI}
    (hx : ev ⟨n, sl, hp⟩ x = .ptr key b path off) (ht : tget T t = some ti) (hg : hget hp key = some (.var b c)) (hs : subAt path c = some (o, y)) (ho : o = off) (hf : fits ti y) (hm : m.okc (some d) (some (some key)) = true) (hd : Nat.blt d n = true)
    (h : Ops m P C ops l ⟨n, (d, y) :: sl, hp⟩ K) : Ops m P C ops (⟨some d, .load t x, ty, pos, aft, gd⟩ :: l) ⟨n, sl, hp⟩ K := by
  refine Ops.calm (d := some d) hT hw (need := b = b ∧ o = off ∧ fits ti y) (gain := True) (rd := some (some key)) (x := y) ?_ hm hd ⟨rfl, ho, hf⟩ (fun _ => h)
  simp only [cv, hx, cvLoad, ht, hg, hs]
theorem o_bin32 {op : BinOp} (hT : TTOk P T) (hw : gval ops ⟨n, sl, hp⟩ gd = gwant gd) {t u : Nat} {x y : Operand} {a b r : Int} (hop : cvBin T op t (.i .u32 a) (.i .u32 b) = some ⟨IntKind.u32 = IntKind.u32 ∧ True, True, none, .i .u32 r⟩)
    (hx : ev ⟨n, sl, hp⟩ x = .i .u32 a) (hy : ev ⟨n, sl, hp⟩ y = .i .u32 b) (hd : Nat.blt d n = true)
    (h : Ops m P C ops l ⟨n, (d, .i .u32 r) :: sl, hp⟩ K) : Ops m P C ops (⟨some d, .binOp op t x y u, ty, pos, aft, gd⟩ :: l) ⟨n, sl, hp⟩ K := by
  refine Ops.calm (d := some d) hT hw (need := IntKind.u32 = IntKind.u32 ∧ True) (gain := True) (rd := none) (x := .i .u32 r) ?_ okc_none hd ⟨rfl, trivial⟩ (fun _ => h)
  have e : cv T hp (ev ⟨n, sl, hp⟩) (.binOp op t x y u) = cvBin T op t (.i .u32 a) (.i .u32 b) := by simp only [cv, hx, hy]
  exact e.trans hop
theorem o_add32 (hT : TTOk P T) (hw : gval ops ⟨n, sl, hp⟩ gd = gwant gd) {t u : Nat} {x y : Operand} {a b : Int} (hx : ev ⟨n, sl, hp⟩ x = .i .u32 a) (hy : ev ⟨n, sl, hp⟩ y = .i .u32 b) (hd : Nat.blt d n = true)
    (h : Ops m P C ops l ⟨n, (d, .i .u32 (w32 (a + b))) :: sl, hp⟩ K) : Ops m P C ops (⟨some d, .binOp .add t x y u, ty, pos, aft, gd⟩ :: l) ⟨n, sl, hp⟩ K := o_bin32 hT hw rfl hx hy hd h
theorem o_xor32 (hT : TTOk P T) (hw : gval ops ⟨n, sl, hp⟩ gd = gwant gd) {t u : Nat} {x y : Operand} {a b : Int} (hx : ev ⟨n, sl, hp⟩ x = .i .u32 a) (hy : ev ⟨n, sl, hp⟩ y = .i .u32 b) (hd : Nat.blt d n = true)
    (h : Ops m P C ops l ⟨n, (d, .i .u32 (xorI a b)) :: sl, hp⟩ K) : Ops m P C ops (⟨some d, .binOp .xor t x y u, ty, pos, aft, gd⟩ :: l) ⟨n, sl, hp⟩ K := o_bin32 hT hw rfl hx hy hd h
theorem o_and32 (hT : TTOk P T) (hw : gval ops ⟨n, sl, hp⟩ gd = gwant gd) {t u : Nat} {x y : Operand} {a b : Int} (hx : ev ⟨n, sl, hp⟩ x = .i .u32 a) (hy : ev ⟨n, sl, hp⟩ y = .i .u32 b) (hd : Nat.blt d n = true)
    (h : Ops m P C ops l ⟨n, (d, .i .u32 (andI a b)) :: sl, hp⟩ K) : Ops m P C ops (⟨some d, .binOp .and t x y u, ty, pos, aft, gd⟩ :: l) ⟨n, sl, hp⟩ K := o_bin32 hT hw rfl hx hy hd h
theorem o_shr32 (hT : TTOk P T) (hw : gval ops ⟨n, sl, hp⟩ gd = gwant gd) {t u : Nat} {x y : Operand} {k : IntKind} {a b : Int} (hx : ev ⟨n, sl, hp⟩ x = .i .u32 a) (hy : ev ⟨n, sl, hp⟩ y = .i k b) (hd : Nat.blt d n = true) (j : Nat) (hb : b = j) (hj : j ≤ 32)
    (h : Ops m P C ops l ⟨n, (d, .i .u32 (shr32 a j)) :: sl, hp⟩ K) : Ops m P C ops (⟨some d, .binOp .shr t x y u, ty, pos, aft, gd⟩ :: l) ⟨n, sl, hp⟩ K := by
  subst hb
  refine Ops.calm (d := some d) hT hw (need := 0 ≤ (j : Int)) (gain := True) (rd := none) (x := .i .u32 (shr32 a j)) ?_ okc_none hd (by omega) (fun _ => h)
  simp only [cv, hx, hy, cvBin, shr32]
  rw [Int.toNat_natCast, show min j IntKind.u32.bits = j from Nat.min_eq_left hj]
theorem o_not32 (hT : TTOk P T) (hw : gval ops ⟨n, sl, hp⟩ gd = gwant gd) {t : Nat} {x : Operand} {a : Int} (hx : ev ⟨n, sl, hp⟩ x = .i .u32 a) (hd : Nat.blt d n = true)
    (h : Ops m P C ops l ⟨n, (d, .i .u32 (notI a)) :: sl, hp⟩ K) : Ops m P C ops (⟨some d, .unOp .xor t x, ty, pos, aft, gd⟩ :: l) ⟨n, sl, hp⟩ K := by
  refine Ops.calm (d := some d) hT hw (need := True) (gain := True) (rd := none) (x := .i .u32 (notI a)) ?_ okc_none hd trivial (fun _ => h)
  simp only [cv, hx]
  rfl
theorem sub_arr {sz n j : Nat} {xs : List AV} {y : AV} (h : xs[j]? = some y) : subAt [j] (.arr sz n xs) = some (j * sz + 0, y) := by
  simp only [subAt, h]
end
/-- Four bytes as a word. -/
def be4 (a b c d : UInt8) : Int := orI (orI (orI (shl32 (w32 (a.toNat : Int)) 24) (shl32 (w32 (b.toNat : Int)) 16)) (shl32 (w32 (c.toNat : Int)) 8)) (w32 (d.toNat : Int))
def be4L (b : List UInt8) (i : Nat) : Int := be4 (b.getD (4 * i) 0) (b.getD (4 * i + 1) 0) (b.getD (4 * i + 2) 0) (b.getD (4 * i + 3) 0)
def nxtW (a x c y : Int) : Int := w32 (w32 (w32 (a + xorI (xorI (rotr x 7) (rotr x 18)) (shr32 x 3)) + c) + xorI (xorI (rotr y 17) (rotr y 19)) (shr32 y 10))
def stW (b : List UInt8) (l : List Int) (n : Nat) : Int := if n < 16 then be4L b n else nxtW (l.getD (n - 16) 0) (l.getD (n - 15) 0) (l.getD (n - 7) 0) (l.getD (n - 2) 0)
def wsL (b : List UInt8) : Nat → List Int
  | 0 => []
  | n + 1 => wsL b n ++ [stW b (wsL b n) n]
theorem wsL_len (b : List UInt8) : ∀ n, (wsL b n).length = n
  | 0 => rfl
  | n + 1 => by unfold wsL; rw [List.length_append, wsL_len b n]; rfl
def wA (b : List UInt8) (i : Nat) : List Int := wsL b i ++ List.replicate (64 - i) 0
theorem wA_len (b : List UInt8) (i : Nat) (h : i ≤ 64) : (wA b i).length = 64 := by unfold wA; rw [List.length_append, wsL_len, List.length_replicate]; omega
theorem wA_set (b : List UInt8) (i : Nat) (h : i < 64) : wA b (i + 1) = (wA b i).set i (stW b (wsL b i) i) := by
  unfold wA
  rw [show 64 - i = (64 - (i + 1)) + 1 by omega, List.replicate_succ, List.set_append_right _ _ (by rw [wsL_len]; exact Nat.le_refl _), wsL_len, Nat.sub_self, List.set_cons_zero]
  conv => lhs; unfold wsL
  rw [List.append_assoc]; rfl
theorem wA_get (b : List UInt8) (i j : Nat) (h : j < i) : (wA b i)[j]? = some ((wsL b i).getD j 0) := by
  unfold wA
  rw [List.getElem?_append_left (by rw [wsL_len]; exact h), List.getD_eq_getElem?_getD, List.getElem?_eq_getElem (by rw [wsL_len]; exact h)]; rfl
structure V8 where
  a : Int
  b : Int
  c : Int
  d : Int
  e : Int
  f : Int
  g : Int
  h : Int
def V8.L (v : V8) : List Int := [v.a, v.b, v.c, v.d, v.e, v.f, v.g, v.h]
def rndP (v : V8) (k w : Int) : Int := w32 (w32 (w32 (w32 (v.h + xorI (xorI (rotr v.e 6) (rotr v.e 11)) (rotr v.e 25)) + xorI (andI v.e v.f) (andI (notI v.e) v.g)) + k) + w)
def rndQ (v : V8) : Int := w32 (xorI (xorI (rotr v.a 2) (rotr v.a 13)) (rotr v.a 22) + xorI (xorI (andI v.a v.b) (andI v.a v.c)) (andI v.b v.c))
def rnd (v : V8) (k w : Int) : V8 := ⟨w32 (rndP v k w + rndQ v), v.a, v.b, v.c, w32 (v.d + rndP v k w), v.e, v.f, v.g⟩
def rounds (v : V8) (ks ws : List Int) : V8 := (ks.zip ws).foldl (fun v p => rnd v p.1 p.2) v
theorem take_zip_eq {α β : Type} (n : Nat) : ∀ (a : List α) (b : List β), (a.zip b).take n = (a.take n).zip (b.take n) := by
  induction n with
  | zero => intro a b; simp
  | succ n ih => intro a b; cases a <;> cases b <;> simp [ih]
theorem rounds_succ (v : V8) (ks ws : List Int) (i : Nat) (h1 : i < ks.length) (h2 : i < ws.length) : rounds v (ks.take (i + 1)) (ws.take (i + 1)) = rnd (rounds v (ks.take i) (ws.take i)) ks[i] ws[i] := by
  unfold rounds
  rw [← take_zip_eq, ← take_zip_eq, List.take_succ_eq_append_getElem (by rw [List.length_zip]; omega), List.foldl_append, List.getElem_zip]; rfl
def addV (v x : V8) : V8 := ⟨w32 (v.a + x.a), w32 (v.b + x.b), w32 (v.c + x.c), w32 (v.d + x.d), w32 (v.e + x.e), w32 (v.f + x.f), w32 (v.g + x.g), w32 (v.h + x.h)⟩
def mixV (v : V8) (b : List UInt8) (ks : List Int) : V8 := addV v (rounds v ks (wsL b 64))
theorem td_step {A B V : List Int} (hA : A.length = 8) (hB : B.length = 8) (hV : V.length = 8) (hadd : ∀ j (h1 : j < A.length) (h2 : j < B.length) (h3 : j < V.length), A[j] = w32 (B[j] + V[j])) (i : Nat) (h : i < 8) :
    ∃ p q, A.take (i + 1) ++ B.drop (i + 1) = (A.take i ++ B.drop i).set i (w32 (p + q)) ∧ ((A.take i ++ B.drop i).map uI)[i]? = some (uI p) ∧ (V.map uI)[i]? = some (uI q) := by
  refine ⟨B[i], V[i], ?_, getq_map ?_, getq_map (List.getElem?_eq_getElem (by omega))⟩
  · rw [← hadd i (by omega) (by omega) (by omega), List.take_succ_eq_append_getElem (by omega), List.drop_eq_getElem_cons (show i < B.length by omega), List.set_append_right _ _ (by rw [List.length_take]; omega), List.length_take, Nat.min_eq_left (by omega), Nat.sub_self, List.set_cons_zero]
    rw [List.append_assoc]; rfl
  · rw [List.getElem?_append_right (by rw [List.length_take]; omega), List.length_take, Nat.min_eq_left (by omega), Nat.sub_self, List.drop_eq_getElem_cons (show i < B.length by omega)]; rfl
theorem addV_get (v V : V8) (j : Nat) (h1 : j < (addV v V).L.length) (h2 : j < v.L.length) (h3 : j < V.L.length) : (addV v V).L[j] = w32 (v.L[j] + V.L[j]) := by
  have h0 : j < 8 := h1
  have : j = 0 ∨ j = 1 ∨ j = 2 ∨ j = 3 ∨ j = 4 ∨ j = 5 ∨ j = 6 ∨ j = 7 := by omega
  rcases this with rfl | rfl | rfl | rfl | rfl | rfl | rfl | rfl <;> rfl
theorem getD_q (b : List UInt8) (z : Int) (n : Nat) (hz : z = n) (h : n < b.length) : b[z.toNat]? = some (b.getD n 0) := by
  subst hz
  rw [Int.toNat_natCast, List.getElem?_eq_getElem h, List.getD_eq_getElem?_getD, List.getElem?_eq_getElem h]; rfl
theorem mix_spec (bs bk : Nat) (v : V8) (b : List UInt8) (ks : List Int) (hk : ks.length = 64) (hb : b.length = 64) :
    Spec Tryz.prog 182 [.ptr 0 bs [] 0, .sl 1 (b.map byA), .ptr 1 bk [] 0] [.var bs (.arr 1 8 (v.L.map uI)), .var bk (.arr 1 64 (ks.map uI))]
      (fun r os => r = .tup [] ∧ os = [.var bs (.arr 1 8 ((mixV v b ks).L.map uI)), .var bk (.arr 1 64 (ks.map uI))]) := by
  refine spec_of TtOk [(0, .var bs (.arr 1 8 (v.L.map uI))), (1, .var bk (.arr 1 64 (ks.map uI)))] Tryz.func182 rfl Tryz.ntmps182 (by kernel_rfl) rfl rfl (fun C => ?_) rfl
  repeat' (first | refine Awp.seq ?_ | refine Awp.block ?_ | refine Awp.region ?_ | refine Ops.nil (nqA ?_) | (refine o_calm rfl TtOk rfl rfl rfl ?_ (fun _ => ?_); exact nd) | refine o_alloc (d := 6) rfl TtOk rfl rfl rfl (fun b6 => ?_))
  refine Awp.loop (fun i : Nat => ⟨198, [(18, .i .i64 i), (6, .ptr 6 b6 [] 0), (0, .ptr 0 bs [] 0), (1, .sl 1 (b.map byA)), (2, .ptr 1 bk [] 0)], [(6, .var b6 (.arr 1 64 ((wA b i).map uI))), (0, .var bs (.arr 1 8 (v.L.map uI))), (1, .var bk (.arr 1 64 (ks.map uI)))]⟩)
    (fun i => i ≤ 16) (fun i => 16 - i) [] 0 (Nat.zero_le _) ?_ ?_
  · exact ⟨rfl, ⟨sle_i rfl, sle_ptr, sle_ptr, sle_sl rfl, sle_ptr, True.intro⟩, HLe.cons 6 rfl (HOLe.refl _) (HLe.cons 0 rfl (HOLe.refl _) (HLe.cons 1 rfl (HOLe.refl _) .nil))⟩
  intro i hi
  by_cases hlt : i < 16
  · have hst := wA_set b i (by omega)
    have hwl := wA_len b i (by omega)
    have hq0 := getD_q b (4 * (i : Int)) (4 * i) (by omega) (by omega)
    have hq1 := getD_q b (4 * (i : Int) + 1) (4 * i + 1) (by omega) (by omega)
    have hq2 := getD_q b (4 * (i : Int) + 2) (4 * i + 2) (by omega) (by omega)
    have hq3 := getD_q b (4 * (i : Int) + 3) (4 * i + 3) (by omega) (by omega)
    have hz : stW b (wsL b i) i = be4L b i := if_pos hlt
    rw [hz] at hst
    unfold be4L at hst
    generalize b.getD (4 * i) 0 = c0 at hq0 hst
    generalize b.getD (4 * i + 1) 0 = c1 at hq1 hst
    generalize b.getD (4 * i + 2) 0 = c2 at hq2 hst
    generalize b.getD (4 * i + 3) 0 = c3 at hq3 hst
    generalize wA b i = W at hst hwl ⊢
    have hst0 : (W.map uI)[i]? = some (uI (W[i]'(by omega))) := getq_map (List.getElem?_eq_getElem (by omega))
    repeat' (first | refine Awp.seq ?_ | refine Awp.block ?_ | refine Awp.region ?_ | refine Ops.nil (nqA ?_) | refine Ops.nil (nqX ?_) | refine Awp.skip (nqA ?_) | (refine o_add rfl rfl rfl rfl ?_ ?_; omega) | (refine o_mul rfl rfl rfl rfl ?_ ?_; omega) | (refine o_calm rfl TtOk rfl rfl rfl ?_ (fun _ => ?_); exact nd) | (refine a_condP rfl (fun hc => ?_) (fun hc => ?_)) <;> (try (exfalso; omega)) | (refine a_any 4 [6] [26, 34, 43, 52] [] [0, 1, 2, 3, 4, 8, 9, 10, 11, 12, 17, 18, 19, 20, 21, 26, 27, 28, 29, 30, 5, 6, 7, 13, 14, 15, 16, 22, 23, 24, 25, 31, 32, 33, 34, 35] (by kernel_rfl) (by kernel_rfl) (by kernel_rfl) rfl rfl rfl ?_; (try dsimp only [List.getElem_toArray, List.getElem_cons_zero, List.getElem_cons_succ])) | (refine o_index rfl TtOk rfl rfl rfl rfl rfl rfl (by omega) hq0 ?_) | (refine o_index rfl TtOk rfl rfl rfl rfl rfl rfl (by omega) hq1 ?_) | (refine o_index rfl TtOk rfl rfl rfl rfl rfl rfl (by omega) hq2 ?_) | (refine o_index rfl TtOk rfl rfl rfl rfl rfl rfl (by omega) hq3 ?_) | (refine o_indexArr TtOk rfl rfl rfl rfl rfl rfl i rfl (by omega) ?_) | (refine o_storeArr TtOk rfl rfl rfl rfl rfl rfl ⟨rfl, rfl⟩ rfl rfl hst0 rfl rfl ?_))
    exact ⟨i + 1, [], by omega, by omega, rfl, ⟨sle_i rfl, sle_ptr, sle_ptr, sle_sl rfl, sle_ptr, True.intro⟩, HLe.cons 6 rfl (HOLe.var (CLe.of_eq (by rw [hst, List.map_set]; rfl))) (HLe.cons 0 rfl (HOLe.refl _) (HLe.cons 1 rfl (HOLe.refl _) .nil))⟩
  have hi16 : i = 16 := by omega
  subst hi16
  clear hlt hi
  repeat' (first | refine Awp.seq ?_ | refine Awp.block ?_ | refine Awp.region ?_ | refine Ops.nil (nqA ?_) | refine Awp.exit (nqA ?_) | (refine o_calm rfl TtOk rfl rfl rfl ?_ (fun _ => ?_); exact nd) | refine a_condF rfl ?_)
  refine Awp.loop (fun i : Nat => ⟨198, [(8, .i .i64 i), (6, .ptr 6 b6 [] 0), (0, .ptr 0 bs [] 0), (1, .sl 1 (b.map byA)), (2, .ptr 1 bk [] 0)], [(6, .var b6 (.arr 1 64 ((wA b i).map uI))), (0, .var bs (.arr 1 8 (v.L.map uI))), (1, .var bk (.arr 1 64 (ks.map uI)))]⟩)
    (fun i => 16 ≤ i ∧ i ≤ 64) (fun i => 64 - i) [] 16 ⟨Nat.le_refl _, by decide⟩ ?_ ?_
  · exact ⟨rfl, ⟨sle_i rfl, sle_ptr, sle_ptr, sle_sl rfl, sle_ptr, True.intro⟩, HLe.cons 6 rfl (HOLe.refl _) (HLe.cons 0 rfl (HOLe.refl _) (HLe.cons 1 rfl (HOLe.refl _) .nil))⟩
  rintro i ⟨hi0, hi⟩
  by_cases hlt : i < 64
  · have hst := wA_set b i hlt
    have hwl := wA_len b i hi
    have hz : stW b (wsL b i) i = nxtW ((wsL b i).getD (i - 16) 0) ((wsL b i).getD (i - 15) 0) ((wsL b i).getD (i - 7) 0) ((wsL b i).getD (i - 2) 0) := if_neg (by omega)
    rw [hz] at hst
    have g16 := getq_map (f := uI) (wA_get b i (i - 16) (by omega))
    have g15 := getq_map (f := uI) (wA_get b i (i - 15) (by omega))
    have g7 := getq_map (f := uI) (wA_get b i (i - 7) (by omega))
    have g2 := getq_map (f := uI) (wA_get b i (i - 2) (by omega))
    generalize (wsL b i).getD (i - 16) 0 = a at hst g16
    generalize (wsL b i).getD (i - 15) 0 = x at hst g15
    generalize (wsL b i).getD (i - 7) 0 = c at hst g7
    generalize (wsL b i).getD (i - 2) 0 = y at hst g2
    generalize wA b i = W at hst hwl g16 g15 g7 g2 ⊢
    have hst0 : (W.map uI)[i]? = some (uI (W[i]'(by omega))) := getq_map (List.getElem?_eq_getElem (by omega))
    have t1 := turn_spec x 7 (by decide) (by decide)
    have t2 := turn_spec x 18 (by decide) (by decide)
    have t3 := turn_spec y 17 (by decide) (by decide)
    have t4 := turn_spec y 19 (by decide) (by decide)
    repeat' (first | (refine o_shr32 TtOk rfl rfl rfl rfl 10 rfl (by decide) ?_) | (refine o_shr32 TtOk rfl rfl rfl rfl 3 rfl (by decide) ?_) | (refine o_xor32 TtOk rfl rfl rfl rfl ?_) | (refine o_add32 TtOk rfl rfl rfl rfl ?_) | refine Awp.seq ?_ | refine Awp.block ?_ | refine Awp.region ?_ | refine Ops.nil (nqA ?_) | refine Ops.nil (nqX ?_) | refine Awp.skip (nqA ?_) | (refine o_add rfl rfl rfl rfl ?_ ?_; omega) | (refine o_sub rfl rfl rfl rfl ?_ ?_; omega) | (refine o_calm rfl TtOk rfl rfl rfl ?_ (fun _ => ?_); exact nd) | (refine a_condP rfl (fun hc => ?_) (fun hc => ?_)) <;> (try (exfalso; omega)) | refine a_any 9 [] [] [] [0, 1, 2, 4, 5, 6, 3, 8, 7, 9] (by kernel_rfl) (by kernel_rfl) (by kernel_rfl) rfl rfl rfl ?_ | (refine a_any 10 [6] [73, 86] [75, 77, 89, 91] [0, 1, 2, 3, 5, 7, 10, 11, 14, 15, 16, 19, 21, 24, 25, 4, 17, 6, 8, 9, 12, 13, 18, 20, 22, 23, 26, 27, 28, 29] (by kernel_rfl) (by kernel_rfl) (by kernel_rfl) rfl rfl rfl ?_; (try dsimp only [List.getElem_toArray, List.getElem_cons_zero, List.getElem_cons_succ])) | (refine o_indexArr TtOk rfl rfl rfl rfl rfl rfl (i - 15) (by omega) (by omega) ?_) | (refine o_indexArr TtOk rfl rfl rfl rfl rfl rfl (i - 2) (by omega) (by omega) ?_) | (refine o_indexArr TtOk rfl rfl rfl rfl rfl rfl (i - 16) (by omega) (by omega) ?_) | (refine o_indexArr TtOk rfl rfl rfl rfl rfl rfl (i - 7) (by omega) (by omega) ?_) | (refine o_indexArr TtOk rfl rfl rfl rfl rfl rfl (i) (by omega) (by omega) ?_) | (refine o_loadAt TtOk rfl rfl rfl rfl (sub_arr g16) (by first | exact Nat.add_zero _ | rfl) ⟨rfl, rfl⟩ rfl rfl ?_) | (refine o_loadAt TtOk rfl rfl rfl rfl (sub_arr g15) (by first | exact Nat.add_zero _ | rfl) ⟨rfl, rfl⟩ rfl rfl ?_) | (refine o_loadAt TtOk rfl rfl rfl rfl (sub_arr g7) (by first | exact Nat.add_zero _ | rfl) ⟨rfl, rfl⟩ rfl rfl ?_) | (refine o_loadAt TtOk rfl rfl rfl rfl (sub_arr g2) (by first | exact Nat.add_zero _ | rfl) ⟨rfl, rfl⟩ rfl rfl ?_) | (refine o_storeArr TtOk rfl rfl rfl rfl rfl rfl ⟨rfl, rfl⟩ rfl rfl hst0 rfl rfl ?_) | refine o_callE rfl (t1) ⟨nqS, nqS, True.intro⟩ rfl ?_ | refine o_callE rfl (t2) ⟨nqS, nqS, True.intro⟩ rfl ?_ | refine o_callE rfl (t3) ⟨nqS, nqS, True.intro⟩ rfl ?_ | refine o_callE rfl (t4) ⟨nqS, nqS, True.intro⟩ rfl ?_)
    exact ⟨i + 1, [], ⟨by omega, by omega⟩, by omega, rfl, ⟨sle_i rfl, sle_ptr, sle_ptr, sle_sl rfl, sle_ptr, True.intro⟩, HLe.cons 6 rfl (HOLe.var (CLe.of_eq (by rw [hst, List.map_set]; rfl))) (HLe.cons 0 rfl (HOLe.refl _) (HLe.cons 1 rfl (HOLe.refl _) .nil))⟩
  have hi64 : i = 64 := by omega
  have hW : wA b i = wsL b 64 := by rw [hi64]; unfold wA; simp
  have hwl := wsL_len b 64
  unfold mixV
  rw [hW]
  generalize wsL b 64 = W at hwl ⊢
  clear hW
  repeat' (first | refine Awp.seq ?_ | refine Awp.block ?_ | refine Awp.region ?_ | refine Ops.nil (nqA ?_) | refine Awp.exit (nqA ?_) | (refine o_calm rfl TtOk rfl rfl rfl ?_ (fun _ => ?_); exact nd) | refine o_alloc (d := 11) rfl TtOk rfl rfl rfl (fun b11 => ?_) | refine o_store TtOk rfl rfl rfl rfl rfl rfl rfl ⟨rfl, rfl⟩ rfl rfl rfl rfl rfl ?_ | (refine a_condP rfl (fun hc => ?_) (fun hc => ?_)) <;> (try (exfalso; omega)))
  refine Awp.loop (fun i : Nat => ⟨198, [(101, .i .i64 i), (11, .ptr 11 b11 [] 0), (6, .ptr 6 b6 [] 0), (0, .ptr 0 bs [] 0), (2, .ptr 1 bk [] 0)], [(11, .var b11 (.arr 1 8 ((rounds v (ks.take i) (W.take i)).L.map uI))), (6, .var b6 (.arr 1 64 (W.map uI))), (0, .var bs (.arr 1 8 (v.L.map uI))), (1, .var bk (.arr 1 64 (ks.map uI)))]⟩)
    (fun i => i ≤ 64) (fun i => 64 - i) [] 0 (Nat.zero_le _) ?_ ?_
  · exact ⟨rfl, ⟨sle_i rfl, sle_ptr, sle_ptr, sle_ptr, sle_ptr, True.intro⟩, HLe.cons 11 rfl (HOLe.refl _) (HLe.cons 6 rfl (HOLe.refl _) (HLe.cons 0 rfl (HOLe.refl _) (HLe.cons 1 rfl (HOLe.refl _) .nil)))⟩
  clear hi64 hlt hi hi0
  clear hc i
  intro i hi
  by_cases hlt : i < 64
  · have hst := rounds_succ v ks W i (by omega) (by omega)
    have gk : (ks.map uI)[i]? = some (uI (ks[i]'(by omega))) := getq_map (List.getElem?_eq_getElem (by omega))
    have gw : (W.map uI)[i]? = some (uI (W[i]'(by omega))) := getq_map (List.getElem?_eq_getElem (by omega))
    generalize ks[i]'(by omega) = k at hst gk
    generalize W[i]'(by omega) = w at hst gw
    generalize rounds v (ks.take i) (W.take i) = V at hst ⊢
    obtain ⟨a, b', c, d, e, f, g, h⟩ := V
    have t1 := turn_spec e 6 (by decide) (by decide)
    have t2 := turn_spec e 11 (by decide) (by decide)
    have t3 := turn_spec e 25 (by decide) (by decide)
    have t4 := turn_spec a 2 (by decide) (by decide)
    have t5 := turn_spec a 13 (by decide) (by decide)
    have t6 := turn_spec a 22 (by decide) (by decide)
    rw [show (V8.L ⟨a, b', c, d, e, f, g, h⟩).map uI = [uI a, uI b', uI c, uI d, uI e, uI f, uI g, uI h] from rfl]
    repeat' (first | (refine o_not32 TtOk rfl rfl rfl ?_) | (refine o_and32 TtOk rfl rfl rfl rfl ?_) | (refine o_xor32 TtOk rfl rfl rfl rfl ?_) | (refine o_add32 TtOk rfl rfl rfl rfl ?_) | refine Awp.seq ?_ | refine Awp.block ?_ | refine Awp.region ?_ | refine Ops.nil (nqA ?_) | refine Ops.nil (nqX ?_) | refine Awp.skip (nqA ?_) | (refine o_add rfl rfl rfl rfl ?_ ?_; omega) | (refine o_calm rfl TtOk rfl rfl rfl ?_ (fun _ => ?_); exact nd) | refine o_store TtOk rfl rfl rfl rfl rfl rfl rfl ⟨rfl, rfl⟩ rfl rfl rfl rfl rfl ?_ | (refine a_condP rfl (fun hc => ?_) (fun hc => ?_)) <;> (try (exfalso; omega)) | refine a_any 15 [] [] [] [0, 2, 1, 4, 3, 5] (by kernel_rfl) (by kernel_rfl) (by kernel_rfl) rfl rfl rfl ?_ | (refine a_any 16 [] [] [] [0, 2, 4, 7, 11, 12, 15, 16, 17, 22, 23, 24, 25, 28, 29, 1, 13, 14, 18, 19, 20, 26, 30, 3, 5, 6, 8, 9, 10, 21, 27, 31, 32] (by kernel_rfl) (by kernel_rfl) (by kernel_rfl) rfl rfl rfl ?_; (try dsimp only [List.getElem_toArray, List.getElem_cons_zero, List.getElem_cons_succ])) | (refine a_any 17 [] [] [] [0, 2, 5, 8, 9, 12, 13, 17, 19, 10, 11, 14, 15, 16, 18, 20, 21, 22, 1, 3, 4, 6, 7, 23, 24] (by kernel_rfl) (by kernel_rfl) (by kernel_rfl) rfl rfl rfl ?_; (try dsimp only [List.getElem_toArray, List.getElem_cons_zero, List.getElem_cons_succ])) | (refine o_indexArr TtOk rfl rfl rfl rfl rfl rfl 0 rfl (by decide) ?_) | (refine o_indexArr TtOk rfl rfl rfl rfl rfl rfl 1 rfl (by decide) ?_) | (refine o_indexArr TtOk rfl rfl rfl rfl rfl rfl 2 rfl (by decide) ?_) | (refine o_indexArr TtOk rfl rfl rfl rfl rfl rfl 3 rfl (by decide) ?_) | (refine o_indexArr TtOk rfl rfl rfl rfl rfl rfl 4 rfl (by decide) ?_) | (refine o_indexArr TtOk rfl rfl rfl rfl rfl rfl 5 rfl (by decide) ?_) | (refine o_indexArr TtOk rfl rfl rfl rfl rfl rfl 6 rfl (by decide) ?_) | (refine o_indexArr TtOk rfl rfl rfl rfl rfl rfl 7 rfl (by decide) ?_) | (refine o_indexArr TtOk rfl rfl rfl rfl rfl rfl i rfl (by omega) ?_) | (refine o_loadAt TtOk rfl rfl rfl rfl (sub_arr gk) (by first | exact Nat.add_zero _ | rfl) ⟨rfl, rfl⟩ rfl rfl ?_) | (refine o_loadAt TtOk rfl rfl rfl rfl (sub_arr gw) (by first | exact Nat.add_zero _ | rfl) ⟨rfl, rfl⟩ rfl rfl ?_) | (refine o_buildArr TtOk rfl ((rnd ⟨a, b', c, d, e, f, g, h⟩ k w).L.map uI) rfl rfl rfl rfl rfl rfl ?_) | refine o_callE rfl (t1) ⟨nqS, nqS, True.intro⟩ rfl ?_ | refine o_callE rfl (t2) ⟨nqS, nqS, True.intro⟩ rfl ?_ | refine o_callE rfl (t3) ⟨nqS, nqS, True.intro⟩ rfl ?_ | refine o_callE rfl (t4) ⟨nqS, nqS, True.intro⟩ rfl ?_ | refine o_callE rfl (t5) ⟨nqS, nqS, True.intro⟩ rfl ?_ | refine o_callE rfl (t6) ⟨nqS, nqS, True.intro⟩ rfl ?_)
    exact ⟨i + 1, [], by omega, by omega, rfl, ⟨sle_i rfl, sle_ptr, sle_ptr, sle_ptr, sle_ptr, True.intro⟩, HLe.cons 11 rfl (HOLe.var (CLe.of_eq (by rw [hst]))) (HLe.cons 6 rfl (HOLe.refl _) (HLe.cons 0 rfl (HOLe.refl _) (HLe.cons 1 rfl (HOLe.refl _) .nil)))⟩
  have hi64 : i = 64 := by omega
  have hV : rounds v (ks.take i) (W.take i) = rounds v ks W := by rw [List.take_of_length_le (by omega), List.take_of_length_le (by omega)]
  rw [hV]
  generalize rounds v ks W = V
  clear hV
  repeat' (first | refine Awp.seq ?_ | refine Awp.block ?_ | refine Awp.region ?_ | refine Ops.nil (nqA ?_) | refine Awp.exit (nqA ?_) | (refine o_calm rfl TtOk rfl rfl rfl ?_ (fun _ => ?_); exact nd) | (refine a_condP rfl (fun hc => ?_) (fun hc => ?_)) <;> (try (exfalso; omega)))
  refine Awp.loop (fun i : Nat => ⟨198, [(183, .i .i64 i), (11, .ptr 11 b11 [] 0), (0, .ptr 0 bs [] 0)], [(0, .var bs (.arr 1 8 (((addV v V).L.take i ++ v.L.drop i).map uI))), (11, .var b11 (.arr 1 8 (V.L.map uI))), (1, .var bk (.arr 1 64 (ks.map uI)))]⟩)
    (fun i => i ≤ 8) (fun i => 8 - i) [] 0 (Nat.zero_le _) ?_ ?_
  · exact ⟨rfl, ⟨sle_i rfl, sle_ptr, sle_ptr, True.intro⟩, HLe.cons 0 rfl (HOLe.refl _) (HLe.cons 11 rfl (HOLe.refl _) (HLe.cons 1 rfl (HOLe.refl _) .nil))⟩
  clear hi64 hlt hi
  clear hc i
  intro i hi
  by_cases hlt : i < 8
  · obtain ⟨p, q, hs, g0, g1⟩ := td_step (A := (addV v V).L) (B := v.L) (V := V.L) rfl rfl rfl (addV_get v V) i hlt
    generalize (addV v V).L.take i ++ v.L.drop i = Z at hs g0 ⊢
    repeat' (first | (refine o_add32 TtOk rfl rfl rfl rfl ?_) | refine Awp.seq ?_ | refine Awp.block ?_ | refine Awp.region ?_ | refine Ops.nil (nqA ?_) | refine Ops.nil (nqX ?_) | refine Awp.skip (nqA ?_) | (refine o_add rfl rfl rfl rfl ?_ ?_; omega) | (refine o_calm rfl TtOk rfl rfl rfl ?_ (fun _ => ?_); exact nd) | (refine a_condP rfl (fun hc => ?_) (fun hc => ?_)) <;> (try (exfalso; omega)) | refine a_any 23 [0] [190, 193] [] [0, 1, 2, 3, 5, 6, 9, 4, 7, 8, 10, 11] (by kernel_rfl) (by kernel_rfl) (by kernel_rfl) rfl rfl rfl ?_ | (refine o_indexArr TtOk rfl rfl rfl rfl rfl rfl i rfl (by omega) ?_) | (refine o_loadAt TtOk rfl rfl rfl rfl (sub_arr g0) (by first | exact Nat.add_zero _ | rfl) ⟨rfl, rfl⟩ rfl rfl ?_) | (refine o_loadAt TtOk rfl rfl rfl rfl (sub_arr g1) (by first | exact Nat.add_zero _ | rfl) ⟨rfl, rfl⟩ rfl rfl ?_) | (refine o_storeArr TtOk rfl rfl rfl rfl rfl rfl ⟨rfl, rfl⟩ rfl rfl g0 rfl rfl ?_))
    exact ⟨i + 1, [], by omega, by omega, rfl, ⟨sle_i rfl, sle_ptr, sle_ptr, True.intro⟩, HLe.cons 0 rfl (HOLe.var (CLe.of_eq (by rw [hs, List.map_set]; rfl))) (HLe.cons 11 rfl (HOLe.refl _) (HLe.cons 1 rfl (HOLe.refl _) .nil))⟩
  have hi8 : i = 8 := by omega
  have hZ : (addV v V).L.take i ++ v.L.drop i = (addV v V).L := by rw [List.take_of_length_le (show 8 ≤ i by omega), List.drop_eq_nil_of_le (show 8 ≤ i by omega), List.append_nil]
  rw [hZ]
  repeat' (first | refine Awp.seq ?_ | refine Awp.region ?_ | refine Ops.nil (nqA ?_) | refine Awp.exit (nqE ?_) | (refine o_calm rfl TtOk rfl rfl rfl ?_ (fun _ => ?_); exact nd) | (refine a_condP rfl (fun hc => ?_) (fun hc => ?_)) <;> (try (exfalso; omega)))
  exact end_none rfl [] [(0, _), (1, _)] (HLe.cons 0 rfl (HOLe.refl _) (HLe.cons 1 rfl (HOLe.refl _) .nil)) ⟨rfl, rfl⟩ _ (by first | exact .inl rfl | exact .inr rfl)
end Go.Proofs.YtcmgpkibjdbonaaGreat
