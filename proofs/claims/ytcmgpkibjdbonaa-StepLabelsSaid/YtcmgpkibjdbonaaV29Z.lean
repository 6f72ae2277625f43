/- A head of an array; bytes copied into an array that is a field. -/
import Derived.Test.YtcmgpkibjdbonaaV26Z
set_option maxHeartbeats 4000000
namespace Go.Proofs.Ytcmgpkibjdbonaa
open Go Go.RowKit
theorem sliceArrHi_run {P : Program} {w : World} {t n e : Nat} (hu : P.underlying t = some (.array n e)) {ie : TypeInfo} (hie : P.info? e = some ie) (b off m : Nat) (hm : m ≤ n) (k : IntKind) (_h0 : 0 < n) : (Instr.sliceAt t (.pointer (some ⟨b, off, none⟩)) none (some (.int k (m : Int))) none).run P w = .ok (.slice (some ⟨b, off, none⟩) m n) w := by
  have h1 : (m : Int) ≤ (n : Int) := by omega
  unfold Instr.sliceAt
  simp [run_underlying hu, Instr.sureAddr, Instr.sliceBounds, Instr.sliceBound, asIntOf, sizeOf, typeInfo, hie, Addr.add, Nat.not_lt.2 hm]
section
variable {m : OM} {P : Program} {T : List (Nat × TI)} {C : Ctx} {ops : Array Oper} {l : List Oper} {K : St → Prop} {n : Nat} {sl : List (Nat × AV)} {hp : List (Nat × HO)} {d : Nat} {ty : Nat} {pos : String} {aft : Array Edge} {gd : Option (Nat × Bool)}
theorem o_sliceCpHi (hT : TTOk P T) (hw : gval ops ⟨n, sl, hp⟩ gd = gwant gd) {t : Nat} {x hi : Operand} {sz : Nat} {α : Type} {f : α → AV} {xs : List α} {mlen e sz0 by_ : Nat} {z : AV} {te : TI} {kh : IntKind} {ih : Int} (q : Nat)
    (hx : ev ⟨n, sl, hp⟩ x = .cp (.arr sz mlen (xs.map f))) (hhi : ev ⟨n, sl, hp⟩ hi = .i kh ih) (hih : ih = q) (hq : q ≤ mlen) (h0 : 0 < mlen) (ht : tget T t = some ⟨.array mlen e, sz0, by_, z⟩) (he : tget T e = some te) (hd : Nat.blt d n = true) (hn : Nat.ble mlen 1000000 = true)
    (h : Ops m P C ops l ⟨n, (d, .sl sz ((xs.take q).map f)) :: sl, hp⟩ K) : Ops m P C ops (⟨some d, .slice t x none (some hi) none, ty, pos, aft, gd⟩ :: l) ⟨n, sl, hp⟩ K := by
  subst hih
  rw [List.map_take] at h
  have hn := Nat.le_of_ble_eq_true hn
  refine Ops.by (d := some d) hw none okc_none hd rfl (fun a w hs => ?_) h
  have Ex := ev_rep hs x
  rw [hx, repV_cp] at Ex
  obtain ⟨b, off, vs, e1, hF, hrep, hat⟩ := Ex
  simp only [repC] at hrep
  obtain ⟨ie, hie, _, _⟩ := (tget_ok hT he).inf
  have Eh := ev_rep hs hi
  rw [hhi, repV_i] at Eh
  have hl : ((xs.map f).take q).length = q := by rw [List.length_take, hrep.1]; omega
  refine ⟨.slice (some ⟨b, off, none⟩) q mlen, repV_sl.2 ⟨some ⟨b, off, none⟩, mlen, by rw [hl], by omega, by unfold maxLen; omega, fun _ => ⟨b, off, rfl, hF, repRow_take q (repA_row hF (xs.map f) vs off hrep.2 hat)⟩⟩, fun w' _ => ?_⟩
  have hr := sliceArrHi_run (P := P) (w := w') (tk_array (tget_ok hT ht)) hie b off q hq kh h0
  simp only [execOp, e1, Option.map_none, Option.map_some, Eh, Sem.run_bind, hr, Result.andThen_ok, Sem.run_pure]
/-- copy into the array that stands behind a number in a structure. -/
theorem o_copyFld (hT : TTOk P T) (hw : gval ops ⟨n, sl, hp⟩ gd = gwant gd) {x y : Operand} {t e k sz0 by0 by1 : Nat} {z0 z1 : AV} {k1 : TK} {key b st : Nat} {a0 : Int} {kk : IntKind} {xs ys : List AV} {p : Prop} {hp' : List (Nat × HO)}
    (ht : tget T t = some ⟨.slice e, sz0, by0, z0⟩) (he : tget T e = some ⟨k1, 1, by1, z1⟩) (hx : ev ⟨n, sl, hp⟩ x = .vw key b [1] st 1 k k) (hy : srcOf hp (ev ⟨n, sl, hp⟩ y) = some (p, 1, ys)) (hp0 : p) (hg : hget hp key = some (.var b (.agg [.i kk a0, .arr 1 k xs])))
    (hd : Nat.blt d n = true) (hm : m.oke (some d) [key] = true) (hle : ys.length ≤ k) (hh : hset hp key (.var b (.agg [.i kk a0, .arr 1 k (ys ++ xs.drop ys.length)])) = hp')
    (h : Ops m P C ops l ⟨n, (d, .i .i64 ys.length) :: sl, hp'⟩ K) : Ops m P C ops (⟨some d, .call ⟨.builtin .copy, #[x, y], #[t, t]⟩, ty, pos, aft, gd⟩ :: l) ⟨n, sl, hp⟩ K := by
  subst hh
  refine Ops.eff hw [key] hm rfl fun a w hs => ?_
  have Ex := ev_rep hs x
  rw [hx, repV_vw] at Ex
  obtain ⟨A, c, news, hv, h1, h2, h3, h4⟩ := srcOf_rep hs hy hp0 (ev_rep hs y)
  have hnl : news.length = ys.length := by have := repA_size 1 ys news h3; omega
  obtain ⟨t2, cs, hb, hc⟩ := hs.getHeap hg
  simp only [repC, repL] at hc
  obtain ⟨c0, c1, hcc, hc0, hxl, hc1⟩ : ∃ c0 c1, cs.toList = [c0] ++ c1 ∧ c0 = .int kk a0 ∧ xs.length = k ∧ repA w (Fz C hp w) 1 xs c1 := by
    obtain ⟨u1, u2, e1, e2, u3, u4, e3, e4, e5⟩ := hc
    subst e2
    refine ⟨_, u3, ?_, rfl, e4.1, e4.2⟩
    rw [e1, e3, e5, List.append_nil]
  have hcs : cs.size = 1 + k := by
    have h5 := repA_size 1 xs _ hc1
    have h6 := congrArg List.length hcc
    rw [Array.length_toList, List.length_append] at h6
    simp only [List.length_cons, List.length_nil] at h6
    omega
  have hone : ∀ u ∈ news, u.oneCell' = true := repA_one 1 ys news h3
  have hst := run_storeCells_at P b 1 t2 news 0 cs w hb (by rw [hcs, hnl]; omega) hone
  have hsz := (tget_ok hT he).sizeRun w
  have hf : (Builtin.firstCells 1 ys.length (.slice A ys.length c)).run P w = .ok news.toArray w := by
    rcases Nat.eq_zero_or_pos ys.length with h0 | h0
    · have hn0 : news = [] := List.eq_nil_of_length_eq_zero (by omega)
      subst hn0
      rw [h0]
      cases A with
      | none => exact run_firstCells_none (P := P) w 1 0 0 c
      | some ad => exact run_firstCells_some (P := P) w 1 0 ad 0 c [] rfl (fun j u hj => by cases hj)
    · obtain ⟨b2, off, rfl, hr⟩ := h4 (by omega)
      refine run_firstCells_some (P := P) w 1 ys.length ⟨b2, off, none⟩ ys.length c news (by rw [Nat.mul_one, hnl]) (fun j u hj => ?_)
      have hadd : (⟨b2, off, none⟩ : Addr).add j = ⟨b2, off + j, none⟩ := by unfold Addr.add; split <;> simp_all
      rw [hadd]; exact hr j u hj
  have hmin : Nat.min ys.length k = ys.length := Nat.min_eq_left hle
  simp only [Nat.add_zero, hnl] at hst
  have htk : cs.toList.take 1 = [c0] := by rw [hcc]; rfl
  have hdr : cs.toList.drop (1 + ys.length) = c1.drop ys.length := by rw [hcc, Nat.add_comm]; rfl
  rw [htk, hdr] at hst
  generalize hw2 : w.setRow b ([c0] ++ news ++ c1.drop ys.length).toArray = w2 at hst
  have hmod : Mod (fun b' => HO.blk (.var b (.agg [.i kk a0, .arr 1 k xs])) = some b') w w2 := by
    rw [← hw2]
    exact (setRow_mod w b _).mono (fun _ _ h => by rw [h]; rfl)
  have hB : Blk w2 b t2 ([c0] ++ news ++ c1.drop ys.length).toArray := by rw [← hw2]; exact setRow_heap w b cs _ t2 (0, 0) hb
  have hlt := (hs.lt b (blk_mem hg rfl)).1
  refine ⟨.int .i64 ys.length, w2, ⟨n, sl, hset hp key (.var b (.agg [.i kk a0, .arr 1 k (ys ++ xs.drop ys.length)]))⟩, .i .i64 ys.length, ?_, ?_, hd, repV_i.2 rfl, Eff.swap hg hmod (fun _ h => .inl h), h⟩
  · simp only [execOp, resolve, invoke, builtin, Sem.run_bind, Sem.run_pure, Result.andThen_ok, List.map_toArray, List.map_cons, List.map_nil, Ex.1, hv]
    unfold Builtin.copy_
    simp [run_underlying (tk_slice (tget_ok hT ht)), Builtin.lenOf, hmin, hsz, hf, hst, goInt]
    try rfl
  · refine hs.swap hg (.var b (.agg [.i kk a0, .arr 1 k (ys ++ xs.drop ys.length)])) hmod ⟨t2, _, hB, ?_⟩ (fun b' hb' => ?_)
    · have hF : ∀ b', Fz C hp w b' → Fz C (hset hp key (.var b (.agg [.i kk a0, .arr 1 k (ys ++ xs.drop ys.length)]))) w2 b' := fun b' hb' =>
        ⟨Nat.lt_of_lt_of_le hb'.1 hmod.size, by rw [blks_hset hg (.var b (.agg [.i kk a0, .arr 1 k (ys ++ xs.drop ys.length)])) rfl]; exact hb'.2.1, hb'.2.2⟩
      have hW : ∀ b', Fz C hp w b' → w2.heap[b']? = w.heap[b']? := fun b' hb' => hmod.block b' hb'.1 (fun he => hb'.2.1 (blk_mem hg he))
      refine repC_mono hF hW (.agg [.i kk a0, .arr 1 k (ys ++ xs.drop ys.length)]) _ ?_
      simp only [repC, repL]
      refine ⟨[c0], news ++ c1.drop ys.length, by simp, by rw [hc0], news ++ c1.drop ys.length, [], by simp, ⟨by rw [List.length_append, List.length_drop]; omega, repA_append h3 (repA_drop1 _ _ _ hc1)⟩, rfl⟩
    · have : b = b' := by simpa [HO.blk] using hb'
      subst this
      exact ⟨by have := hmod.size; omega, .inl rfl⟩
theorem o_indexArrP (hT : TTOk P T) (hw : gval ops ⟨n, sl, hp⟩ gd = gwant gd) {t : Nat} {x ix : Operand} {key b off : Nat} {path : List Nat} {i : Int} {kk : IntKind} {mlen e sz0 by_ : Nat} {z : AV} {te : TI}
    (hx : ev ⟨n, sl, hp⟩ x = .ptr key b path off) (hi : ev ⟨n, sl, hp⟩ ix = .i kk i) (ht : tget T t = some ⟨.array mlen e, sz0, by_, z⟩) (he : tget T e = some te)
    (hd : Nat.blt d n = true) (j : Nat) (hj : i = j) (hn : j < mlen) (h : Ops m P C ops l ⟨n, (d, .ptr key b (path ++ [j]) (off + j * te.sz)) :: sl, hp⟩ K) : Ops m P C ops (⟨some d, .indexAddr t x ix, ty, pos, aft, gd⟩ :: l) ⟨n, sl, hp⟩ K := by
  subst hj
  refine Ops.indexArr hT hw hx hi ht he hd (by omega) (by omega) ?_
  simp only [Int.toNat_natCast]
  exact h
theorem o_storeSub (hT : TTOk P T) (hw : gval ops ⟨n, sl, hp⟩ gd = gwant gd) {t : Nat} {x y : Operand} {u c c' : AV} {key b off o : Nat} {path : List Nat} {old : AV} {ti : TI} {hp' : List (Nat × HO)}
    (hx : ev ⟨n, sl, hp⟩ x = .ptr key b path off) (ht : tget T t = some ti) (hg : hget hp key = some (.var b c)) (hsub : subAt path c = some (o, old)) (ho : o = off) (hu : ev ⟨n, sl, hp⟩ y = u) (hf : fits ti u) (hy : u.isVal = true) (hm : m.oke none [key] = true)
    (hold : sizeA old = ti.sz) (hc : updAt path c u = c') (hh : hset hp key (.var b c') = hp') (h : Ops m P C ops l ⟨n, sl, hp'⟩ K) : Ops m P C ops (⟨none, .store t x y, ty, pos, aft, gd⟩ :: l) ⟨n, sl, hp⟩ K := by
  subst hu; subst hc; subst hh
  exact Ops.store hT hw hx ht hg hsub ho hf hold hy hm h
theorem sub_fld {kk : IntKind} {a : Int} {k j : Nat} {xs : List AV} {y : AV} (h : xs[j]? = some y) : subAt [1, j] (.agg [.i kk a, .arr 1 k xs]) = some (1 + j, y) := by
  simp [subAt, h]
  rfl
theorem upd_fld {kk : IntKind} {a : Int} {k j : Nat} {xs : List AV} (u : AV) : updAt [1, j] (.agg [.i kk a, .arr 1 k xs]) u = .agg [.i kk a, .arr 1 k (xs.set j u)] := by
  simp [updAt]
theorem o_indexCp (hT : TTOk P T) (hw : gval ops ⟨n, sl, hp⟩ gd = gwant gd) {t : Nat} {x ix : Operand} {α : Type} {f : α → AV} {xs : List α} {i : Int} {kk : IntKind} {sz mlen e sz0 by_ : Nat} {z : AV} {te : TI} {y : α}
    (hx : ev ⟨n, sl, hp⟩ x = .cp (.arr sz mlen (xs.map f))) (hi : ev ⟨n, sl, hp⟩ ix = .i kk i) (ht : tget T t = some ⟨.array mlen e, sz0, by_, z⟩) (he : tget T e = some te) (hsz : te.sz = sz)
    (hd : Nat.blt d n = true) (j : Nat) (hj : i = j) (hy : xs[j]? = some y) (h : Ops m P C ops l ⟨n, (d, .cp (f y)) :: sl, hp⟩ K) : Ops m P C ops (⟨some d, .indexAddr t x ix, ty, pos, aft, gd⟩ :: l) ⟨n, sl, hp⟩ K := by
  subst hj; subst hsz
  refine Ops.by (d := some d) hw none okc_none hd rfl (fun a w hs => ?_) h
  have Ex := ev_rep hs x; have Ei := ev_rep hs ix
  rw [hx, repV_cp] at Ex
  rw [hi, repV_i] at Ei
  obtain ⟨b, off, vs, e1, hF, hrep, hat⟩ := Ex
  simp only [repC] at hrep
  obtain ⟨pre, mid, post, p1, p2, p3, p4, _⟩ := repA_at te.sz _ j (f y) _ hrep.2 (by rw [List.getElem?_map, hy]; rfl)
  have hjl : j < mlen := by
    have := (List.getElem?_eq_some_iff.1 hy).1
    have h2 := hrep.1
    rw [List.length_map] at h2; omega
  refine ⟨.pointer (some ⟨b, off + j * te.sz, none⟩), repV_cp.2 ⟨b, off + j * te.sz, mid, rfl, hF, p3, fun q u hq => ?_⟩, fun w' _ => ?_⟩
  · have h3 := hat (pre.length + q) u (by
      rw [p1, List.append_assoc, List.getElem?_append_right (by omega), Nat.add_sub_cancel_left, List.getElem?_append_left (List.getElem?_eq_some_iff.1 hq).1]; exact hq)
    rw [p2] at h3
    rwa [show off + (j * te.sz + q) = off + j * te.sz + q by omega] at h3
  · have hu := tk_array (tget_ok hT ht)
    have : (Instr.indexAt t (.pointer (some ⟨b, off, none⟩)) (.int kk (j : Int))).run P w' = .ok (.pointer (some ⟨b, off + j * te.sz, none⟩)) w' := by
      have h1 : (0 : Int) ≤ (j : Int) := by omega
      have h2 : (j : Int) < (mlen : Int) := by omega
      simp only [Instr.indexAt, asIntOf, Sem.run_bind, Sem.run_pure, Result.andThen_ok, run_underlying hu, Instr.sureAddr, h1, h2, and_self, if_true, (tget_ok hT he).sizeRun, Int.toNat_natCast]
      unfold Addr.add
      split
      · rename_i h3; rw [h3]; rfl
      · rfl
    simp only [execOp, e1, Ei, Sem.run_bind, this, Result.andThen_ok, Sem.run_pure]
end
end Go.Proofs.Ytcmgpkibjdbonaa
set_option maxHeartbeats 8000000
set_option maxRecDepth 100000
namespace Go.Proofs.Ytcmgpkibjdbonaa
open Go Go.RowKit
def pfxA (n : Int) (l : List UInt8) : AV := .agg [.i .i64 n, labA l]
def cutP (l : List UInt8) (n : Nat) : List UInt8 := l.take (n / 8) ++ List.replicate (32 - n / 8) 0
def clr (c : UInt8) (k : Nat) : UInt8 := UInt8.ofNat (c.toNat / 2 ^ (8 - k) * 2 ^ (8 - k))
def cutL (l : List UInt8) (n : Nat) : List UInt8 := if n % 8 = 0 then cutP l n else (cutP l n).set (n / 8) (clr (l.getD (n / 8) 0) (n % 8))
def clamp (n : Int) : Nat := (max 0 (min n 256)).toNat
theorem clr_eq (c : UInt8) (k : Nat) (hk : k < 8) : bitsI .andNot .u8 (c.toNat : Int) ((255 : Int).fdiv (2 ^ (min ((k : Int)).toNat (IntKind.bits .u8)))) = ((clr c k).toNat : Int) := by
  have : ∀ (x : Fin 256) (k : Fin 8), bitsI .andNot .u8 ((x.val : Nat) : Int) ((255 : Int).fdiv (2 ^ (min ((k.val : Int)).toNat (IntKind.bits .u8)))) = (((UInt8.ofNat (x.val / 2 ^ (8 - k.val) * 2 ^ (8 - k.val))).toNat : Nat) : Int) := by decide +kernel
  exact this ⟨c.toNat, c.toNat_lt⟩ ⟨k, hk⟩
theorem cutP_len (l : List UInt8) (n : Nat) (hl : l.length = 32) (hn : n ≤ 256) : (cutP l n).length = 32 := by unfold cutP; rw [List.length_append, List.length_take, List.length_replicate]; omega
theorem cutL_len (l : List UInt8) (n : Nat) (hl : l.length = 32) (hn : n ≤ 256) : (cutL l n).length = 32 := by
  unfold cutL; split
  · exact cutP_len l n hl hn
  · rw [List.length_set]; exact cutP_len l n hl hn
theorem bcut_spec (l : List UInt8) (hl : l.length = 32) (n0 : Int) : Spec Try.prog 91 [labA l, .i .i64 n0] [] (fun v os => v = pfxA (clamp n0 : Nat) (cutL l (clamp n0)) ∧ os = []) := by
  refine spec_of TtOk [] Try.func91 rfl Try.ntmps91 (by kernel_rfl) rfl rfl (fun C => ?_) rfl
  have hcl : clamp n0 ≤ 256 := by unfold clamp; omega
  have hcn : (if (if 256 < n0 then 256 else n0) > 0 then (if 256 < n0 then 256 else n0) else 0) = (clamp n0 : Int) := by unfold clamp; split <;> split <;> omega
  generalize clamp n0 = n at hcl hcn
  have htl : ((l.take (n / 8)).map byA).length = n / 8 := by rw [List.length_map, List.length_take]; omega
  have hP : (l.take (n / 8)).map byA ++ (List.replicate 32 (AV.i .u8 0)).drop ((l.take (n / 8)).map byA).length = (cutP l n).map byA := by
    unfold cutP; rw [htl, List.map_append, List.map_replicate, List.drop_replicate]; rfl
  by_cases h8 : n % 8 = 0
  · have hcu : cutL l n = cutP l n := by unfold cutL; rw [if_pos h8]
    rw [hcu]
    repeat' (first | (rw [hP]) | (rw [hcn]) | (refine a_freezeV 2 2 rfl rfl rfl ?_) | refine Awp.seq ?_ | refine Awp.region ?_ | (refine Ops.nil ?_; show Awp _ _ _ _ _) | (refine Awp.skip ?_; show Awp _ _ _ _ _) | (refine Awp.ret ?_; show endK _ _ _ _ _) | (refine o_quo rfl rfl rfl rfl ?_ ?_ ?_; omega; omega) | (refine o_rem rfl rfl rfl rfl ?_ ?_ ?_; omega; omega) | (refine o_calm rfl TtOk rfl rfl rfl ?_ (fun _ => ?_); first | exact True.intro | exact ⟨rfl, rfl, rfl, rfl⟩ | exact ⟨rfl, True.intro⟩ | exact ⟨rfl, rfl⟩ | exact ⟨rfl, rfl, rfl⟩ | exact rfl | exact ⟨fun h0 => by cases h0, rfl⟩ | exact (fun h0 => by cases h0) | exact ⟨rfl, by omega⟩ | exact ⟨Nat.succ_ne_zero _, rfl⟩ | omega) | refine o_alloc (d := 4) rfl TtOk rfl rfl rfl (fun b4 => ?_) | refine o_alloc (d := 5) rfl TtOk rfl rfl rfl (fun b5 => ?_) | refine o_box (d := 2) rfl rfl rfl rfl (fun b2 => ?_) | refine o_store TtOk rfl rfl rfl rfl rfl rfl rfl ⟨rfl, rfl⟩ rfl rfl rfl rfl rfl ?_ | refine o_build TtOk rfl rfl rfl rfl rfl rfl (by repeat' (first | exact True.intro | exact rfl | refine ⟨?_, ?_⟩)) ?_ | (refine a_condN rfl (fun hc => ?_) (fun hc => ?_)) <;> (try (exfalso; omega)) | refine a_any 3 [5] [] [] [0, 1, 2, 3, 4, 5] (by kernel_rfl) (by kernel_rfl) (by kernel_rfl) rfl rfl rfl ?_ | (refine o_sliceVw TtOk rfl rfl rfl rfl rfl rfl ?_) | (refine o_sliceCpHi (f:=byA) (xs:=l) TtOk rfl (n/8) rfl rfl rfl (by omega) (by decide) rfl rfl rfl rfl ?_) | (refine o_copyFld TtOk rfl rfl rfl rfl rfl (by first | exact True.intro | exact rfl) rfl rfl rfl ?_ rfl ?_; omega))
    refine end_all [] [] (pfxA (n : Nat) (cutP l n)) rfl ?_ ?_ (rle_one (CLe.refl _) rfl) .nil ⟨rfl, rfl⟩ _ (.inl rfl)
    · repeat' (first | exact True.intro | exact rfl | refine ⟨?_, ?_⟩)
    · exact ⟨trivial, trivial⟩
  · have hcu : cutL l n = (cutP l n).set (n / 8) (clr (l.getD (n / 8) 0) (n % 8)) := by unfold cutL; rw [if_neg h8]
    rw [hcu]
    have hlt : n / 8 < 32 := by omega
    have hcl2 := cutP_len l n hl hcl
    have hlg : l[n / 8]? = some (l.getD (n / 8) 0) := by rw [List.getD_eq_getElem?_getD, List.getElem?_eq_getElem (by omega)]; rfl
    have hce := clr_eq (l.getD (n / 8) 0) (n % 8) (by omega)
    have hen : ((n % 8 : Nat) : Int) = (n : Int) % 8 := by omega
    rw [hen] at hce
    generalize l.getD (n / 8) 0 = c at hlg hce
    have hold : ((cutP l n).map byA)[n / 8]? = some (byA ((cutP l n)[n / 8]'(by omega))) := getq_map (List.getElem?_eq_getElem (by omega))
    repeat' (first | (rw [hce]) | (rw [hP]) | (rw [hcn]) | (refine a_freezeV 2 2 rfl rfl rfl ?_) | refine Awp.seq ?_ | refine Awp.region ?_ | (refine Ops.nil ?_; show Awp _ _ _ _ _) | (refine Awp.ret ?_; show endK _ _ _ _ _) | (refine o_quo rfl rfl rfl rfl ?_ ?_ ?_; omega; omega) | (refine o_rem rfl rfl rfl rfl ?_ ?_ ?_; omega; omega) | (refine o_calm rfl TtOk rfl rfl rfl ?_ (fun _ => ?_); first | exact True.intro | exact ⟨rfl, rfl, rfl, rfl⟩ | exact ⟨rfl, True.intro⟩ | exact ⟨rfl, rfl⟩ | exact ⟨rfl, rfl, rfl⟩ | exact rfl | exact ⟨fun h0 => by cases h0, rfl⟩ | exact (fun h0 => by cases h0) | exact ⟨rfl, by omega⟩ | exact ⟨Nat.succ_ne_zero _, rfl⟩ | omega) | refine o_alloc (d := 4) rfl TtOk rfl rfl rfl (fun b4 => ?_) | refine o_alloc (d := 5) rfl TtOk rfl rfl rfl (fun b5 => ?_) | refine o_box (d := 2) rfl rfl rfl rfl (fun b2 => ?_) | refine o_store TtOk rfl rfl rfl rfl rfl rfl rfl ⟨rfl, rfl⟩ rfl rfl rfl rfl rfl ?_ | refine o_build TtOk rfl rfl rfl rfl rfl rfl (by repeat' (first | exact True.intro | exact rfl | refine ⟨?_, ?_⟩)) ?_ | (refine a_condN rfl (fun hc => ?_) (fun hc => ?_)) <;> (try (exfalso; omega)) | refine a_any 3 [5] [] [] [0, 1, 2, 3, 4, 5] (by kernel_rfl) (by kernel_rfl) (by kernel_rfl) rfl rfl rfl ?_ | refine a_any 5 [5] [25] [] [0, 1, 2, 3, 4, 6, 7, 8, 10, 5, 9, 11, 12] (by kernel_rfl) (by kernel_rfl) (by kernel_rfl) rfl rfl rfl ?_ | (refine o_sliceVw TtOk rfl rfl rfl rfl rfl rfl ?_) | (refine o_sliceCpHi (f:=byA) (xs:=l) TtOk rfl (n/8) rfl rfl rfl (by omega) (by decide) rfl rfl rfl rfl ?_) | (refine o_copyFld TtOk rfl rfl rfl rfl rfl (by first | exact True.intro | exact rfl) rfl rfl rfl ?_ rfl ?_; omega) | (refine o_indexCp (f:=byA) (xs:=l) TtOk rfl rfl rfl rfl rfl rfl rfl (n/8) rfl hlg ?_) | (refine o_indexArrP TtOk rfl rfl rfl rfl rfl rfl (n/8) rfl hlt ?_) | (refine o_storeSub TtOk rfl rfl rfl rfl (sub_fld hold) (by show _ = 0+1+n/8*1; omega) rfl ⟨rfl, rfl⟩ rfl rfl rfl (upd_fld _) rfl ?_))
    have hq : AV.agg [.i .i64 (n : Nat), .arr 1 32 (((cutP l n).map byA).set (n / 8) (byA (clr c (n % 8))))] = pfxA (n : Nat) ((cutP l n).set (n / 8) (clr c (n % 8))) := by
      unfold pfxA labA; rw [List.map_set]
    refine end_all [] [] (pfxA (n : Nat) ((cutP l n).set (n / 8) (clr c (n % 8)))) rfl ?_ ?_ (rle_one (CLe.of_eq hq) rfl) .nil ⟨rfl, rfl⟩ _ (.inl rfl)
    · repeat' (first | exact True.intro | exact rfl | refine ⟨?_, ?_⟩)
    · exact ⟨trivial, trivial⟩
end Go.Proofs.Ytcmgpkibjdbonaa
