/- The rules of rows, bytes and structs in the shape in which the proofs take them. No program in sight. -/
import Derived.Test.YtcmgpkibjdbonaaGreatV12
import Derived.Lib.AppendStr
import Derived.Laws.Pointers
import Derived.ChangeKeysEq
import Derived.Laws.StructEq
namespace Go.Proofs.YtcmgpkibjdbonaaGreat
open Go Go.RowKit

section
variable {m : OM} {P : Program} {T : List (Nat × TI)} {C : Ctx} {ops : Array Oper} {l : List Oper} {K : St → Prop} {n : Nat} {sl : List (Nat × AV)} {hp : List (Nat × HO)} {d : Nat} {ty : Nat} {pos : String} {aft : Array Edge} {gd : Option (Nat × Bool)}
theorem o_append (hT : TTOk P T) (hw : gval ops ⟨n, sl, hp⟩ gd = gwant gd) {x y : Operand} {t e sz0 by0 : Nat} {z0 : AV} {tk : TK} {sz bs : Nat} {z : AV} {k : Nat} {v : Value} {xs ys : List AV} {p : Prop} {hp' : Value → List (Nat × HO)}
    (ht : tget T t = some ⟨.slice e, sz0, by0, z0⟩) (he : tget T e = some ⟨tk, sz, bs, z⟩) (hz : z.isVal = true) (hsz : sizeA z = sz) (hpos : Nat.blt 0 sz = true)
    (hx : ev ⟨n, sl, hp⟩ x = .own k v) (hg : hget hp k = some (.row v e sz xs)) (hy : srcOf hp (ev ⟨n, sl, hp⟩ y) = some (p, sz, ys)) (hp0 : p)
    (hd : Nat.blt d n = true) (hm : m.oke (some d) [k] = true) (hh : ∀ v', forceL (hset hp k (.row v' e sz (xs ++ ys))) = some (hp' v')) (hlen : (xs.length + ys.length) * bs ≤ 140737488355328) (hlen2 : xs.length + ys.length ≤ 9223372036854775807)
    (h : ∀ v', Ops m P C ops l ⟨n, (d, .own k v') :: sl, hp' v'⟩ K) : Ops m P C ops (⟨some d, .call ⟨.builtin .append, #[x, y], #[t, t]⟩, ty, pos, aft, gd⟩ :: l) ⟨n, sl, hp⟩ K :=
  Ops.append hT hw ht he hz hsz (blt_lt hpos) hx hg hy hp0 hd hm hlen hlen2 (fun v' => by
    have := h v'
    rw [← forceL_eq _ _ (hh v')] at this
    exact this)
theorem o_appendNil (hT : TTOk P T) (hw : gval ops ⟨n, sl, hp⟩ gd = gwant gd) {x y : Operand} {t e sz0 by0 : Nat} {z0 : AV} {tk : TK} {sz bs : Nat} {z : AV} {ys : List AV} {p : Prop}
    (ht : tget T t = some ⟨.slice e, sz0, by0, z0⟩) (he : tget T e = some ⟨tk, sz, bs, z⟩) (hz : z.isVal = true) (hsz : sizeA z = sz) (hpos : Nat.blt 0 sz = true)
    (hx : ev ⟨n, sl, hp⟩ x = .nil) (hy : srcOf hp (ev ⟨n, sl, hp⟩ y) = some (p, sz, ys)) (hp0 : p)
    (hd : Nat.blt d n = true) (hlen : ys.length * bs ≤ 140737488355328) (hlen2 : ys.length ≤ 9223372036854775807)
    (h : ∀ v', Ops m P C ops l ⟨n, (d, .own d v') :: sl, (d, .row v' e sz ys) :: hp⟩ K) : Ops m P C ops (⟨some d, .call ⟨.builtin .append, #[x, y], #[t, t]⟩, ty, pos, aft, gd⟩ :: l) ⟨n, sl, hp⟩ K :=
  Ops.appendNil hT hw ht he hz hsz (blt_lt hpos) hx hy hp0 hd hlen hlen2 h
theorem o_buildSlice (hT : TTOk P T) (hw : gval ops ⟨n, sl, hp⟩ gd = gwant gd) {t e sz0 by0 : Nat} {z0 : AV} {tk : TK} {sz bs : Nat} {z : AV} {len : Nat} {parts : Array (Nat × Operand)} {xs0 xs : List AV}
    (ht : tget T t = some ⟨.slice e, sz0, by0, z0⟩) (he : tget T e = some ⟨tk, sz, bs, z⟩) (hz : z.isVal = true) (hsz : sizeA z = sz) (hpos : Nat.blt 0 sz = true)
    (hp0 : partsOf ⟨n, sl, hp⟩ 0 parts.toList = some xs0) (hfx : forceAs xs0 = some xs) (hn : xs.length = len) (hle : Nat.ble (len * sz) 16777216 = true) (hd : Nat.blt d n = true)
    (hall : allSz sz xs) (h : ∀ v', Ops m P C ops l ⟨n, (d, .own d v') :: sl, (d, .row v' e sz xs) :: hp⟩ K) : Ops m P C ops (⟨some d, .buildSlice t len parts, ty, pos, aft, gd⟩ :: l) ⟨n, sl, hp⟩ K := by
  have := forceAs_eq _ _ hfx
  subst this
  exact Ops.buildSlice hT hw ht he hz hsz (blt_lt hpos) hp0 hn hall (Nat.le_of_ble_eq_true hle) hd h
theorem o_indexOwn (hT : TTOk P T) (hw : gval ops ⟨n, sl, hp⟩ gd = gwant gd) {t : Nat} {x ix : Operand} {k : Nat} {v : Value} {e0 sz : Nat} {xs : List AV} {i : Int} {kk : IntKind} {e sz0 by_ : Nat} {z : AV} {te : TI}
    (hx : ev ⟨n, sl, hp⟩ x = .own k v) (hg : hget hp k = some (.row v e0 sz xs)) (hi : ev ⟨n, sl, hp⟩ ix = .i kk i) (ht : tget T t = some ⟨.slice e, sz0, by_, z⟩) (he : tget T e = some te) (hsz : te.sz = sz)
    (hd : Nat.blt d n = true) (j : Nat) (hj : i = j) (hn : j < xs.length) (h : ∀ b, v.ownBlock = some b → Ops m P C ops l ⟨n, (d, .ptr k b [j] (j * sz)) :: sl, hp⟩ K) : Ops m P C ops (⟨some d, .indexAddr t x ix, ty, pos, aft, gd⟩ :: l) ⟨n, sl, hp⟩ K := by
  subst hj
  exact Ops.indexOwn hT hw hx hg hi ht he hsz hd (by omega) (by omega) (fun b hb => h b hb)
theorem o_loadRow (hT : TTOk P T) (hw : gval ops ⟨n, sl, hp⟩ gd = gwant gd) {t : Nat} {x : Operand} {k b i off o : Nat} {path : List Nat} {v : Value} {e sz : Nat} {xs : List AV} {x0 y : AV} {ti : TI}
    (hx : ev ⟨n, sl, hp⟩ x = .ptr k b (i :: path) off) (hg : hget hp k = some (.row v e sz xs)) (hm : m.okc (some d) (some (some k)) = true) (hd : Nat.blt d n = true) (hb : v.ownBlock = some b) (hi : xs[i]? = some x0) (ht : tget T t = some ti) (hsub : subAt path x0 = some (o, y)) (ho : i * sz + o = off) (hf : fits ti y)
    (h : Ops m P C ops l ⟨n, (d, y) :: sl, hp⟩ K) : Ops m P C ops (⟨some d, .load t x, ty, pos, aft, gd⟩ :: l) ⟨n, sl, hp⟩ K :=
  Ops.loadRow hT hw hx hg hb hi hsub ho ht hf hm hd h
theorem o_storeRow (hT : TTOk P T) (hw : gval ops ⟨n, sl, hp⟩ gd = gwant gd) {t : Nat} {x y : Operand} {k b i off o : Nat} {path : List Nat} {v : Value} {e sz : Nat} {xs : List AV} {x0 old u : AV} {ti : TI} {hp' : List (Nat × HO)}
    (hx : ev ⟨n, sl, hp⟩ x = .ptr k b (i :: path) off) (hg : hget hp k = some (.row v e sz xs)) (hm : m.oke none [k] = true) (hu : CV.val_ (ev ⟨n, sl, hp⟩ y) = CV.pure u) (hy : u.isVal = true) (hb : v.ownBlock = some b) (hi : xs[i]? = some x0) (ht : tget T t = some ti) (hsub : subAt path x0 = some (o, old)) (ho : i * sz + o = off) (hf : fits ti u) (hold : sizeA old = ti.sz)
    (hh : forceL (hset hp k (.row v e sz (xs.set i (updAt path x0 u)))) = some hp') (h : Ops m P C ops l ⟨n, sl, hp'⟩ K) : Ops m P C ops (⟨none, .store t x y, ty, pos, aft, gd⟩ :: l) ⟨n, sl, hp⟩ K := by
  rw [CV.val_eq] at hu
  have hu : ev ⟨n, sl, hp⟩ y = u := by simpa [CV.pure] using hu
  subst hu
  exact Ops.storeRow hT hw hx hg hb hi hsub ho ht hf hold hy hm (by rw [forceL_eq _ _ hh]; exact h)
theorem o_makeSlice (hT : TTOk P T) (hw : gval ops ⟨n, sl, hp⟩ gd = gwant gd) {t e sz0 by0 : Nat} {z0 : AV} {tk : TK} {sz bs : Nat} {z : AV} {x y : Operand} {kl kc : IntKind} {a b : Int}
    (ht : tget T t = some ⟨.slice e, sz0, by0, z0⟩) (he : tget T e = some ⟨tk, sz, bs, z⟩) (hz : z.isVal = true) (hsz : sizeA z = sz) (hpos : Nat.blt 0 sz = true)
    (hx : ev ⟨n, sl, hp⟩ x = .i kl a) (hy : ev ⟨n, sl, hp⟩ y = .i kc b) (hd : Nat.blt d n = true) (len : Nat) (ha : a = len) (hb : b = len) (hlen : bs * len ≤ 281474976710656) (hlen2 : len ≤ 9223372036854775807)
    (h : ∀ v', Ops m P C ops l ⟨n, (d, .own d v') :: sl, (d, .row v' e sz (List.replicate len z)) :: hp⟩ K) : Ops m P C ops (⟨some d, .makeSlice t x y, ty, pos, aft, gd⟩ :: l) ⟨n, sl, hp⟩ K := by
  subst ha; subst hb
  exact Ops.makeSlice hT hw ht he hz hsz (blt_lt hpos) hx hy hlen hlen2 hd h
theorem o_toBytes (hT : TTOk P T) (hw : gval ops ⟨n, sl, hp⟩ gd = gwant gd) {src dst e : Nat} {x : Operand} {s : List UInt8} {k1 : TI} {sz0 by0 : Nat} {z0 : AV} {sz1 by1 : Nat} {z1 : AV}
    (hx : ev ⟨n, sl, hp⟩ x = .s s) (h1 : tget T src = some k1) (h2 : tget T dst = some ⟨.slice e, sz0, by0, z0⟩) (h3 : tget T e = some ⟨.int .u8, sz1, by1, z1⟩)
    (hd : Nat.blt d n = true) (h : Ops m P C ops l ⟨n, (d, .sl 1 (s.map byA)) :: sl, hp⟩ K) : Ops m P C ops (⟨some d, .convert src dst x, ty, pos, aft, gd⟩ :: l) ⟨n, sl, hp⟩ K :=
  Ops.toBytes hT hw hx h1 h2 h3 hd h
theorem o_toString (hT : TTOk P T) (hw : gval ops ⟨n, sl, hp⟩ gd = gwant gd) {src dst e : Nat} {x : Operand} {xs : List AV} {s : List UInt8} {p : Prop} {sz0 by0 : Nat} {z0 : AV} {sz1 by1 : Nat} {z1 : AV} {sz2 by2 : Nat} {z2 : AV} {rd : Option (Option Nat)}
    (h1 : tget T src = some ⟨.slice e, sz0, by0, z0⟩) (h2 : tget T dst = some ⟨.string, sz2, by2, z2⟩) (h3 : tget T e = some ⟨.int .u8, sz1, by1, z1⟩) (hx : srcOf hp (ev ⟨n, sl, hp⟩ x) = some (p, 1, xs)) (hp0 : p) (hrd : rdOf (ev ⟨n, sl, hp⟩ x) = rd) (hm : m.okc (some d) rd = true)
    (hd : Nat.blt d n = true) (hxs : xs = s.map byA) (h : Ops m P C ops l ⟨n, (d, .s s) :: sl, hp⟩ K) : Ops m P C ops (⟨some d, .convert src dst x, ty, pos, aft, gd⟩ :: l) ⟨n, sl, hp⟩ K := by
  subst hxs
  exact Ops.toString hT hw hx hp0 h1 h2 h3 rd hrd hm hd h
theorem o_build (hT : TTOk P T) (hw : gval ops ⟨n, sl, hp⟩ gd = gwant gd) {t : Nat} {fs : List (Nat × Nat)} {sz by_ : Nat} {zs res res' : List AV} {parts : Array (Nat × Operand)} {p : Prop}
    (ht : tget T t = some ⟨.struct fs, sz, by_, .agg zs⟩) (hb : bld T fs (parts.toList.map fun q => (q.1, ev ⟨n, sl, hp⟩ q.2)) zs = some (p, res)) (hf : forceAs res = some res') (hall : fs.all (fun q => (tget T q.2).isSome) = true)
    (hd : Nat.blt d n = true) (hp0 : p) (h : Ops m P C ops l ⟨n, (d, .agg res') :: sl, hp⟩ K) : Ops m P C ops (⟨some d, .build t parts, ty, pos, aft, gd⟩ :: l) ⟨n, sl, hp⟩ K := by
  have := forceAs_eq _ _ hf
  subst this
  exact Ops.build hT hw ht hb hp0 (fun q hq => List.all_eq_true.1 hall q hq) hd h
theorem o_indexStr (hT : TTOk P T) (hw : gval ops ⟨n, sl, hp⟩ gd = gwant gd) {t : Nat} {x ix : Operand} {s : List UInt8} {c : UInt8} {i : Int} {kk : IntKind} {sz0 by_ : Nat} {z : AV}
    (hx : ev ⟨n, sl, hp⟩ x = .s s) (hi : ev ⟨n, sl, hp⟩ ix = .i kk i) (ht : tget T t = some ⟨.string, sz0, by_, z⟩) (hd : Nat.blt d n = true) (h0 : 0 ≤ i) (hy : s[i.toNat]? = some c)
    (h : Ops m P C ops l ⟨n, (d, .i .u8 c.toNat) :: sl, hp⟩ K) : Ops m P C ops (⟨some d, .index t x ix, ty, pos, aft, gd⟩ :: l) ⟨n, sl, hp⟩ K :=
  Ops.indexStr hT hw hx hi ht hd h0 hy h
theorem bnd_none {S : St} {n : Nat} : bndB S none n n := rfl
theorem bnd_some {S : St} {x : Operand} {k : IntKind} {i : Int} {dflt n : Nat} (hx : ev S x = .i k i) (h : i = n) : bndB S (some x) dflt n := ⟨k, by rw [hx, h]⟩
theorem o_sliceStr (hT : TTOk P T) (hw : gval ops ⟨n, sl, hp⟩ gd = gwant gd) {t : Nat} {x : Operand} {lo hi : Option Operand} {s : List UInt8} (i j : Nat) {sz0 by_ : Nat} {z : AV}
    (hx : ev ⟨n, sl, hp⟩ x = .s s) (ht : tget T t = some ⟨.string, sz0, by_, z⟩) (hd : Nat.blt d n = true) (hlo : bndB ⟨n, sl, hp⟩ lo 0 i) (hhi : bndB ⟨n, sl, hp⟩ hi s.length j) (hij : i ≤ j) (hj : j ≤ s.length)
    (h : Ops m P C ops l ⟨n, (d, .s ((s.take j).drop i)) :: sl, hp⟩ K) : Ops m P C ops (⟨some d, .slice t x lo hi none, ty, pos, aft, gd⟩ :: l) ⟨n, sl, hp⟩ K :=
  Ops.sliceStr hT hw i j hx hlo hhi ht hd hij hj h
theorem o_sliceSl (hT : TTOk P T) (hw : gval ops ⟨n, sl, hp⟩ gd = gwant gd) {t : Nat} {x : Operand} {lo hi : Option Operand} {sz : Nat} {α : Type} {f : α → AV} {xs : List α} (i j : Nat) {e sz0 by_ : Nat} {z : AV} {te : TI}
    (hx : ev ⟨n, sl, hp⟩ x = .sl sz (xs.map f)) (ht : tget T t = some ⟨.slice e, sz0, by_, z⟩) (he : tget T e = some te) (hsz : te.sz = sz) (hd : Nat.blt d n = true) (hlo : bndB ⟨n, sl, hp⟩ lo 0 i) (hhi : bndB ⟨n, sl, hp⟩ hi xs.length j) (hij : i ≤ j) (hj : j ≤ xs.length)
    (h : Ops m P C ops l ⟨n, (d, .sl sz (((xs.take j).drop i).map f)) :: sl, hp⟩ K) : Ops m P C ops (⟨some d, .slice t x lo hi none, ty, pos, aft, gd⟩ :: l) ⟨n, sl, hp⟩ K :=
  Ops.sliceSl hT hw i j hx hlo (by rw [List.length_map]; exact hhi) ht he hsz hd hij (by rw [List.length_map]; exact hj) (by
    rw [← List.map_take, ← List.map_drop]; exact h)
end
end Go.Proofs.YtcmgpkibjdbonaaGreat
namespace Go.Proofs.YtcmgpkibjdbonaaGreat
open Go Go.RowKit

section
variable {m : OM} {P : Program} {T : List (Nat × TI)} {C : Ctx} {ops : Array Oper} {l : List Oper} {K : St → Prop} {n : Nat} {sl : List (Nat × AV)} {hp : List (Nat × HO)} {d : Nat} {ty : Nat} {pos : String} {aft : Array Edge} {gd : Option (Nat × Bool)}
theorem o_conv64 (hw : gval ops ⟨n, sl, hp⟩ gd = gwant gd) (hT : TTOk P T) {s t : Nat} {x : Operand} {kk : IntKind} {a : Int} {k1 : TI} {sz1 by1 : Nat} {z1 : AV} (hx : ev ⟨n, sl, hp⟩ x = .i kk a) (h1 : tget T s = some k1) (h2 : tget T t = some ⟨.int .i64, sz1, by1, z1⟩)
    (hd : Nat.blt d n = true) (hr : -9223372036854775808 ≤ a ∧ a ≤ 9223372036854775807) (h : Ops m P C ops l ⟨n, (d, .i .i64 a) :: sl, hp⟩ K) : Ops m P C ops (⟨some d, .convert s t x, ty, pos, aft, gd⟩ :: l) ⟨n, sl, hp⟩ K := by
  refine Ops.calm hT hw (x := .i .i64 a) (need := True) (gain := True) (rd := none) ?_ okc_none hd trivial (fun _ => h)
  simp only [cv, hx, cvConv, h1, h2, CV.pure, wrap64 _ hr]
theorem o_convB (hw : gval ops ⟨n, sl, hp⟩ gd = gwant gd) (hT : TTOk P T) {s t : Nat} {x : Operand} {kk : IntKind} {c : UInt8} {k1 : TI} {sz1 by1 : Nat} {z1 : AV} (hx : ev ⟨n, sl, hp⟩ x = .i kk (c.toNat : Int)) (h1 : tget T s = some k1) (h2 : tget T t = some ⟨.int .i64, sz1, by1, z1⟩)
    (hd : Nat.blt d n = true) (h : Ops m P C ops l ⟨n, (d, .i .i64 (c.toNat : Int)) :: sl, hp⟩ K) : Ops m P C ops (⟨some d, .convert s t x, ty, pos, aft, gd⟩ :: l) ⟨n, sl, hp⟩ K := by
  have hc := c.toNat_lt
  exact o_conv64 hw hT hx h1 h2 hd (by omega) h
end
section
variable {m : OM} {P : Program} {T : List (Nat × TI)} {C : Ctx} {S : St} {a : Act} {w : World} {ops : Array Oper} {l : List Oper} {K : St → Prop} {d : Nat} {ty : Nat} {pos : String} {aft : Array Edge} {gd : Option (Nat × Bool)}
theorem repA_bytes {F : Nat → Prop} (s : List UInt8) : repA w F 1 (s.map byA) (Lib.strCells (bytesOf s)) := by
  have h : Lib.strCells (bytesOf s) = s.map fun c => Value.int .u8 (c.toNat : Int) := rfl
  rw [h]
  clear h
  induction s with
  | nil => simp only [List.map_nil, repA]
  | cons c s ih =>
    simp only [List.map_cons, repA]
    exact ⟨[.int .u8 c.toNat], _, rfl, by simp only [byA, repC], rfl, ih⟩
theorem appendStr_run {t ts e : Nat} {i : TypeInfo} (ut : P.underlying t = some (.slice e)) (us : P.underlying ts = some .string) (hi : P.info? e = some i) (hz : i.zero = some (.int .u8 0)) (hz1 : i.size = 1) (hz2 : i.bytes = 1) (ty : Nat) {v : Value} {n : Nat} {xs : List Value} (hown : w.ownsRow 0 e 1 v n xs) (s : ByteArray) (hlen : n + s.size ≤ 140737488355328) :
    ∃ v' w', (Builtin.append_ #[t, ts] ty #[v, .string s]).run P w = .ok v' w' ∧ w'.ownsRow 0 e 1 v' (n + s.size) (xs ++ Lib.strCells s) ∧ w.grownBy w' v.ownBlock ∧ (v'.ownBlock = v.ownBlock ∨ v'.ownBlock = some w.heap.size) := by
  have hm : n + s.size ≤ maxLen := by unfold maxLen; omega
  obtain ⟨v', w', hr, h2, h3, h4⟩ := Lib.run_append_own_string (P := P) w 0 t ts ty e i ut us hi hz hz1 hz2 v n xs hown s hm hlen (Nat.zero_le _)
  refine ⟨v', w', hr, h2, h3, ?_⟩
  have hxl : xs.length = n := by simpa using hown.1
  rcases hown.2 with ⟨rfl, h0⟩ | ⟨g, cap, cur, rfl, _, hg, hnc, hcm, hcs, htake⟩
  · by_cases hs : s.size = 0
    · exact .inl (by rw [h4.2 ⟨rfl, hs⟩])
    · have hr2 := run_append_nil_string (P := P) w t ts ty e i (.int .u8 0) ut us hi hz s (by omega) (by omega) (by rw [hz2]; omega)
      rw [hr2] at hr; injection hr with e1 e2
      exact .inr (by rw [← e1]; rfl)
  · by_cases hroom : n + s.size ≤ cap
    · have hr2 := Lib.run_append_room_string (P := P) w t ts ty e i ut us hi hz1 g n cap cur hg s hroom (by rw [hcs]; omega)
      rw [hr2] at hr; injection hr with e1 e2
      exact .inl (by rw [← e1]; rfl)
    · have holds : ∀ j u, xs[j]? = some u → w.cell? ((⟨g, 0, none⟩ : Addr).add j) = some u := World.ownsRow.cells hown (g := g) rfl
      have hr2 := Lib.run_append_grow_string (P := P) w t ts ty e i (.int .u8 0) ut us hi hz ⟨g, 0, none⟩ n cap xs (by rw [hz1]; omega) holds s (by omega) (by omega) (growslice_fits (by omega) (by rw [hz2]; omega))
      rw [hr2] at hr; injection hr with e1 e2
      exact .inr (by rw [← e1]; rfl)
/-- append of a string's bytes onto a row. -/
theorem Ops.appendStr (hT : TTOk P T) (hw : gval ops S gd = gwant gd) {x y : Operand} {t ts e sz0 by0 sz1 by1 : Nat} {z0 z1 : AV} {k : Nat} {v : Value} {xs : List AV} {s : List UInt8}
    (ht : tget T t = some ⟨.slice e, sz0, by0, z0⟩) (hts : tget T ts = some ⟨.string, sz1, by1, z1⟩) (he : tget T e = some ⟨.int .u8, 1, 1, .i .u8 0⟩)
    (hx : ev S x = .own k v) (hg : hget S.heap k = some (.row v e 1 xs)) (hy : ev S y = .s s)
    (hd : Nat.blt d S.n = true) (hm : m.oke (some d) [k] = true) (hlen : xs.length + s.length ≤ 140737488355328)
    (h : ∀ v', Ops m P C ops l ⟨S.n, (d, .own k v') :: S.slots, hset S.heap k (.row v' e 1 (xs ++ s.map byA))⟩ K) : Ops m P C ops (⟨some d, .call ⟨.builtin .append, #[x, y], #[t, ts]⟩, ty, pos, aft, gd⟩ :: l) S K := by
  refine Ops.eff hw [k] hm rfl fun a w hs => ?_
  obtain ⟨i, hi, h2, h3⟩ := (tget_ok hT he).inf
  have hz : i.zero = some (.int .u8 0) := by
    rcases (tget_ok hT he).zero with h0 | ⟨cs, h4, h5⟩
    · cases h0
    · rw [hi] at h5
      simp only [flatZ, Option.some.injEq] at h4
      subst h4
      exact h5
  have Ex := ev_rep hs x
  rw [hx, repV_own] at Ex
  have Ey := ev_rep hs y
  rw [hy, repV_s] at Ey
  obtain ⟨cells, h5, h6⟩ := hs.getHeap hg
  obtain ⟨v', w', r1, r2, r3, r4⟩ := appendStr_run (tk_slice (tget_ok hT ht)) (tk_string (tget_ok hT hts)) hi hz h2 h3 ty h6 (bytesOf s) hlen
  have hsz : xs.length + (bytesOf s).size = (xs ++ s.map byA).length := by rw [List.length_append, List.length_map]; rfl
  rw [hsz] at r2
  refine ⟨v', w', _, .own k v', ?_, hs.grown hg r3 (repA_append h5 (repA_bytes s)) r2 r4, hd, repV_own.2 ⟨rfl, own_one r2⟩, Eff.swap hg ((Mod.refl _ w).grown r3 (fun k hk _ => hk)) (fun b hb => by
    have hb : v'.ownBlock = some b := hb
    rcases r4 with h | h
    · rw [h] at hb; exact .inl hb
    · rw [h] at hb; injection hb with hb; exact .inr (by omega)), h v'⟩
  simp only [execOp, resolve, invoke, builtin, Sem.run_bind, Sem.run_pure, Result.andThen_ok, List.map_toArray, List.map_cons, List.map_nil, Ex.1, Ey.1, r1]
end
section
variable {m : OM} {P : Program} {T : List (Nat × TI)} {C : Ctx} {ops : Array Oper} {l : List Oper} {K : St → Prop} {n : Nat} {sl : List (Nat × AV)} {hp : List (Nat × HO)} {d : Nat} {ty : Nat} {pos : String} {aft : Array Edge} {gd : Option (Nat × Bool)}
theorem o_appendStr (hT : TTOk P T) (hw : gval ops ⟨n, sl, hp⟩ gd = gwant gd) {x y : Operand} {t ts e sz0 by0 sz1 by1 : Nat} {z0 z1 : AV} {k : Nat} {v : Value} {xs : List AV} {s : List UInt8} {hp' : Value → List (Nat × HO)}
    (ht : tget T t = some ⟨.slice e, sz0, by0, z0⟩) (hts : tget T ts = some ⟨.string, sz1, by1, z1⟩) (he : tget T e = some ⟨.int .u8, 1, 1, .i .u8 0⟩)
    (hx : ev ⟨n, sl, hp⟩ x = .own k v) (hg : hget hp k = some (.row v e 1 xs)) (hy : ev ⟨n, sl, hp⟩ y = .s s)
    (hd : Nat.blt d n = true) (hm : m.oke (some d) [k] = true) (hh : ∀ v', forceL (hset hp k (.row v' e 1 (xs ++ s.map byA))) = some (hp' v')) (hlen : xs.length + s.length ≤ 140737488355328)
    (h : ∀ v', Ops m P C ops l ⟨n, (d, .own k v') :: sl, hp' v'⟩ K) : Ops m P C ops (⟨some d, .call ⟨.builtin .append, #[x, y], #[t, ts]⟩, ty, pos, aft, gd⟩ :: l) ⟨n, sl, hp⟩ K :=
  Ops.appendStr hT hw ht hts he hx hg hy hd hm hlen (fun v' => by
    have := h v'
    rw [← forceL_eq _ _ (hh v')] at this
    exact this)
theorem o_indexArr (hT : TTOk P T) (hw : gval ops ⟨n, sl, hp⟩ gd = gwant gd) {t : Nat} {x ix : Operand} {key b : Nat} {i : Int} {kk : IntKind} {mlen e sz0 by_ : Nat} {z : AV} {te : TI}
    (hx : ev ⟨n, sl, hp⟩ x = .ptr key b [] 0) (hi : ev ⟨n, sl, hp⟩ ix = .i kk i) (ht : tget T t = some ⟨.array mlen e, sz0, by_, z⟩) (he : tget T e = some te)
    (hd : Nat.blt d n = true) (j : Nat) (hj : i = j) (hn : j < mlen) (h : Ops m P C ops l ⟨n, (d, .ptr key b [j] (j * te.sz)) :: sl, hp⟩ K) : Ops m P C ops (⟨some d, .indexAddr t x ix, ty, pos, aft, gd⟩ :: l) ⟨n, sl, hp⟩ K := by
  subst hj
  refine Ops.indexArr hT hw hx hi ht he hd (by omega) (by omega) ?_
  simp only [List.nil_append, Nat.zero_add, Int.toNat_natCast]
  exact h
/-- A store into an element of an array variable. -/
theorem o_storeArr (hT : TTOk P T) (hw : gval ops ⟨n, sl, hp⟩ gd = gwant gd) {t : Nat} {x y : Operand} {u : AV} {key b off j sz mlen : Nat} {xs : List AV} {old : AV} {ti : TI} {hp' : List (Nat × HO)}
    (hx : ev ⟨n, sl, hp⟩ x = .ptr key b [j] off) (ht : tget T t = some ti) (hg : hget hp key = some (.var b (.arr sz mlen xs))) (ho : j * sz = off) (hu : ev ⟨n, sl, hp⟩ y = u) (hf : fits ti u) (hy : u.isVal = true) (hm : m.oke none [key] = true)
    (hj : xs[j]? = some old) (hold : sizeA old = ti.sz)
    (hh : hset hp key (.var b (.arr sz mlen (xs.set j u))) = hp') (h : Ops m P C ops l ⟨n, sl, hp'⟩ K) : Ops m P C ops (⟨none, .store t x y, ty, pos, aft, gd⟩ :: l) ⟨n, sl, hp⟩ K := by
  subst hu
  refine Ops.store hT hw hx ht hg (o := off) (old := old) ?_ rfl hf hold hy hm ?_
  · simp only [subAt, hj, Nat.add_zero, ho]
  · subst hh; exact h
/-- An array literal without parts. -/
theorem o_buildArr0 (hT : TTOk P T) (hw : gval ops ⟨n, sl, hp⟩ gd = gwant gd) {t mlen e sz by_ sz2 : Nat} {xs : List AV} {te : TI} (ht : tget T t = some ⟨.array mlen e, sz, by_, .arr sz2 mlen xs⟩) (he : tget T e = some te) (hd : Nat.blt d n = true)
    (h : Ops m P C ops l ⟨n, (d, .arr sz2 mlen xs) :: sl, hp⟩ K) : Ops m P C ops (⟨some d, .build t #[], ty, pos, aft, gd⟩ :: l) ⟨n, sl, hp⟩ K := by
  refine Ops.by (d := some d) hw none okc_none hd rfl (fun a w hs => ?_) h
  have h0 := tget_ok hT ht
  rcases h0.zero with hz | ⟨cs, h1, h2⟩
  · cases hz
  · obtain ⟨it, hit, _, _⟩ := h0.inf
    obtain ⟨ie, hie, _, _⟩ := (tget_ok hT he).inf
    rw [hit] at h2
    have hzv : it.zero = some (ofCells (.arr sz2 mlen xs) cs) := h2
    have hrep : repC w (Fz C hp w) (.arr sz2 mlen xs) cs := flatZ_rep _ cs h1
    have hzc : (ofCells (.arr sz2 mlen xs) cs).cells = cs.toArray := ofCells_cells hrep
    refine ⟨.agg cs.toArray, ⟨cs, hrep, rfl⟩, fun w' _ => ?_⟩
    have hbuilt : P.built t [] = some cs.toArray := by
      unfold Program.built
      rw [hit, tk_array h0]
      simp [hzv, hie, hzc, Instr.fill]
    have := run_build (P := P) w' t #[] _ hbuilt
    simp only [execOp, Sem.run_bind, List.map_toArray, List.map_nil, this, Result.andThen_ok, Sem.run_pure]
/-- Says that a guard's value is known. -/
theorem o_isLit {dd : Option Tmp} {op : Op} {j : Nat} {g : Bool} {dj : Nat} (_hj : (ops[j]?).bind (·.dst) = some dj) (_hc : lookD sl dj = .b true ∨ lookD sl dj = .b false) (h : Ops m P C ops (⟨dd, op, ty, pos, aft, some (j, g)⟩ :: l) ⟨n, sl, hp⟩ K) :
    Ops m P C ops (⟨dd, op, ty, pos, aft, some (j, g)⟩ :: l) ⟨n, sl, hp⟩ K := h
end
end Go.Proofs.YtcmgpkibjdbonaaGreat
namespace Go.Proofs.YtcmgpkibjdbonaaGreat
open Go Go.RowKit

section
variable {P : Program} {T : List (Nat × TI)} {w : World}
theorem sliceArr_run {t n e : Nat} (hu : P.underlying t = some (.array n e)) {ie : TypeInfo} (hie : P.info? e = some ie) (b off : Nat) (_hn : n ≤ maxLen) : (Instr.sliceAt t (.pointer (some ⟨b, off, none⟩)) none none none).run P w = .ok (.slice (some ⟨b, off, none⟩) n n) w := by
  unfold Instr.sliceAt
  simp [run_underlying hu, Instr.sureAddr, Instr.sliceBounds, sizeOf, typeInfo, hie, Addr.add]
end
section
variable {m : OM} {P : Program} {T : List (Nat × TI)} {C : Ctx} {S : St} {a : Act} {w : World} {ops : Array Oper} {l : List Oper} {K : St → Prop} {d : Nat} {ty : Nat} {pos : String} {aft : Array Edge} {gd : Option (Nat × Bool)}
/-- l[:] of an array variable: a view. -/
theorem Ops.sliceVw (hT : TTOk P T) (hw : gval ops S gd = gwant gd) {t : Nat} {x : Operand} {key b off : Nat} {path : List Nat} {mlen e sz0 by_ : Nat} {z : AV} {te : TI}
    (hx : ev S x = .ptr key b path off) (ht : tget T t = some ⟨.array mlen e, sz0, by_, z⟩) (he : tget T e = some te) (hd : Nat.blt d S.n = true) (hn : mlen ≤ 9223372036854775807)
    (h : Ops m P C ops l (S.put d (.vw key b path 0 off mlen mlen)) K) : Ops m P C ops (⟨some d, .slice t x none none none, ty, pos, aft, gd⟩ :: l) S K := by
  refine Ops.by (d := some d) hw none okc_none hd rfl (fun a w hs => ?_) h
  have Ex := ev_rep hs x
  rw [hx, repV_ptr] at Ex
  obtain ⟨ie, hie, _, _⟩ := (tget_ok hT he).inf
  refine ⟨_, repV_vw.2 ⟨rfl, Nat.le_refl _, by unfold maxLen; omega⟩, fun w' _ => ?_⟩
  have hr := sliceArr_run (P := P) (w := w') (tk_array (tget_ok hT ht)) hie b off (by unfold maxLen; omega)
  simp only [execOp, Ex, Option.map_none, Sem.run_bind, hr, Result.andThen_ok, Sem.run_pure]
/-- l[:] of an array in memory that nobody writes: a slice. -/
theorem Ops.sliceCp (hT : TTOk P T) (hw : gval ops S gd = gwant gd) {t : Nat} {x : Operand} {sz : Nat} {xs : List AV} {mlen e sz0 by_ : Nat} {z : AV} {te : TI}
    (hx : ev S x = .cp (.arr sz mlen xs)) (ht : tget T t = some ⟨.array mlen e, sz0, by_, z⟩) (he : tget T e = some te) (hd : Nat.blt d S.n = true) (hn : mlen ≤ 9223372036854775807)
    (h : Ops m P C ops l (S.put d (.sl sz xs)) K) : Ops m P C ops (⟨some d, .slice t x none none none, ty, pos, aft, gd⟩ :: l) S K := by
  refine Ops.by (d := some d) hw none okc_none hd rfl (fun a w hs => ?_) h
  have Ex := ev_rep hs x
  rw [hx, repV_cp] at Ex
  obtain ⟨b, off, vs, e1, hF, hrep, hat⟩ := Ex
  simp only [repC] at hrep
  obtain ⟨ie, hie, _, _⟩ := (tget_ok hT he).inf
  refine ⟨.slice (some ⟨b, off, none⟩) mlen mlen, repV_sl.2 ⟨some ⟨b, off, none⟩, mlen, by rw [hrep.1], by omega, by unfold maxLen; omega, fun _ => ⟨b, off, rfl, hF, repA_row hF xs vs off hrep.2 hat⟩⟩, fun w' _ => ?_⟩
  have hr := sliceArr_run (P := P) (w := w') (tk_array (tget_ok hT ht)) hie b off (by unfold maxLen; omega)
  simp only [execOp, e1, Option.map_none, Sem.run_bind, hr, Result.andThen_ok, Sem.run_pure]
end
section
variable {P : Program} {C : Ctx} {S : St} {a : Act} {w : World} {K : Exit → St → Prop}
/-- A variable that is not written any more becomes memory that nobody writes. -/
theorem Sat.freezeV (h : Sat C S a w) {k d b : Nat} {c : AV} (hg : hget S.heap k = some (.var b c)) (hd : S.slot d = .ptr k b [] 0) : Sat C ⟨S.n, (d, .cp c) :: S.slots, hdel S.heap k⟩ a w := by
  obtain ⟨j1, j2, j3⟩ := hdel_blks hg
  have h1 := h.del hg
  have hb : b ∈ blks S.heap := blk_mem hg rfl
  have hnb : b ∉ blks (hdel S.heap k) := (j2 h.nd).2 b rfl
  have hF : ∀ b, Fz C S.heap w b → Fz C (hdel S.heap k) w b := fun b hb => ⟨hb.1, fun hin => hb.2.1 (j1 b hin), hb.2.2⟩
  refine ⟨h1.n, h1.df, fun i => ?_, h1.heap, h1.nd, h1.lt, h1.mod⟩
  have hslot : (⟨S.n, (d, AV.cp c) :: S.slots, hdel S.heap k⟩ : St).slot i = if d = i then .cp c else S.slot i := lookD_put ⟨S.n, S.slots, hdel S.heap k⟩ d i (.cp c)
  rw [hslot]
  by_cases hi : d = i
  · subst hi
    rw [if_pos rfl]
    have hs := h.slots d
    rw [hd, repV_ptr] at hs
    obtain ⟨t, cs, hB, hc⟩ := h.getHeap hg
    rw [hs]
    exact repV_cp.2 ⟨b, 0, cs.toList, rfl, ⟨(h.lt b hb).1, hnb, .inr (h.lt b hb).2⟩, repC_mono hF (fun _ _ => rfl) _ _ hc, fun j u hu => by
      rw [Nat.zero_add, hB.cell]
      simpa using hu⟩
  · rw [if_neg hi]; exact h1.slots i
theorem a_freezeV {cc : Code} {n : Nat} {sl : List (Nat × AV)} {hp hp' : List (Nat × HO)} (k d : Nat) {b : Nat} {c : AV} (hg : hget hp k = some (.var b c)) (hd : lookD sl d = .ptr k b [] 0) (hh : hdel hp k = hp')
    (h : Awp P C cc ⟨n, (d, .cp c) :: sl, hp'⟩ K) : Awp P C cc ⟨n, sl, hp⟩ K := by
  subst hh
  exact ⟨fun a w hs => h.out a w (hs.freezeV (S := ⟨n, sl, hp⟩) hg hd)⟩
end
section
variable {m : OM} {P : Program} {T : List (Nat × TI)} {C : Ctx} {ops : Array Oper} {l : List Oper} {K : St → Prop} {n : Nat} {sl : List (Nat × AV)} {hp : List (Nat × HO)} {d : Nat} {ty : Nat} {pos : String} {aft : Array Edge} {gd : Option (Nat × Bool)}
theorem o_sliceCp (hT : TTOk P T) (hw : gval ops ⟨n, sl, hp⟩ gd = gwant gd) {t : Nat} {x : Operand} {sz : Nat} {xs : List AV} {mlen e sz0 by_ : Nat} {z : AV} {te : TI}
    (hx : ev ⟨n, sl, hp⟩ x = .cp (.arr sz mlen xs)) (ht : tget T t = some ⟨.array mlen e, sz0, by_, z⟩) (he : tget T e = some te) (hd : Nat.blt d n = true) (hn : Nat.ble mlen 1000000 = true)
    (h : Ops m P C ops l ⟨n, (d, .sl sz xs) :: sl, hp⟩ K) : Ops m P C ops (⟨some d, .slice t x none none none, ty, pos, aft, gd⟩ :: l) ⟨n, sl, hp⟩ K :=
  Ops.sliceCp hT hw hx ht he hd (Nat.le_trans (Nat.le_of_ble_eq_true hn) (by decide)) h
theorem o_sliceVw (hT : TTOk P T) (hw : gval ops ⟨n, sl, hp⟩ gd = gwant gd) {t : Nat} {x : Operand} {key b off : Nat} {path : List Nat} {mlen e sz0 by_ : Nat} {z : AV} {te : TI}
    (hx : ev ⟨n, sl, hp⟩ x = .ptr key b path off) (ht : tget T t = some ⟨.array mlen e, sz0, by_, z⟩) (he : tget T e = some te) (hd : Nat.blt d n = true) (hn : Nat.ble mlen 1000000 = true)
    (h : Ops m P C ops l ⟨n, (d, .vw key b path 0 off mlen mlen) :: sl, hp⟩ K) : Ops m P C ops (⟨some d, .slice t x none none none, ty, pos, aft, gd⟩ :: l) ⟨n, sl, hp⟩ K :=
  Ops.sliceVw hT hw hx ht he hd (Nat.le_trans (Nat.le_of_ble_eq_true hn) (by decide)) h
end
section
variable {m : OM} {P : Program} {T : List (Nat × TI)} {C : Ctx} {S : St} {a : Act} {w : World} {ops : Array Oper} {l : List Oper} {K : St → Prop} {d : Nat} {ty : Nat} {pos : String} {aft : Array Edge} {gd : Option (Nat × Bool)}
theorem repA_drop1 {F : Nat → Prop} : ∀ (k : Nat) (xs : List AV) (cs : List Value), repA w F 1 xs cs → repA w F 1 (xs.drop k) (cs.drop k)
  | 0, xs, cs, h => by simpa using h
  | k + 1, [], cs, h => by simp only [repA] at h; subst h; simp only [List.drop_nil, repA]
  | k + 1, x :: xs, cs, h => by
    simp only [repA] at h
    obtain ⟨c1, c2, rfl, _, hl, h2⟩ := h
    obtain ⟨u, rfl⟩ := List.length_eq_one_iff.1 hl
    simpa using repA_drop1 k xs c2 h2
theorem setRow_mod (w : World) (b : Nat) (cs : Array Value) : Mod (fun b' => b' = b) w (w.setRow b cs) := by
  refine ⟨rfl, rfl, rfl, by rw [setRow_size]; exact Nat.le_refl _, fun k hk hn => ?_⟩
  unfold World.setRow
  simp only [Array.getElem?_modify]
  rw [if_neg (fun e => hn e.symm)]
/-- copy of a string into an array variable. -/
theorem Ops.copyStr (hT : TTOk P T) (hw : gval ops S gd = gwant gd) {x y : Operand} {t ts e n sz0 by0 by1 : Nat} {z0 z1 : AV} {k1 : TK} {key b : Nat} {xs : List AV} {s : List UInt8}
    (ht : tget T t = some ⟨.slice e, sz0, by0, z0⟩) (he : tget T e = some ⟨k1, 1, by1, z1⟩) (hx : ev S x = .vw key b [] 0 0 n n) (hy : ev S y = .s s) (hg : hget S.heap key = some (.var b (.arr 1 n xs))) (hle : s.length ≤ n)
    (hd : Nat.blt d S.n = true) (hm : m.oke (some d) [key] = true)
    (h : Ops m P C ops l ⟨S.n, (d, .i .i64 s.length) :: S.slots, hset S.heap key (.var b (.arr 1 n (s.map byA ++ xs.drop s.length)))⟩ K) : Ops m P C ops (⟨some d, .call ⟨.builtin .copy, #[x, y], #[t, ts]⟩, ty, pos, aft, gd⟩ :: l) S K := by
  refine Ops.eff hw [key] hm rfl fun a w hs => ?_
  have Ex := ev_rep hs x
  rw [hx, repV_vw] at Ex
  have Ey := ev_rep hs y
  rw [hy, repV_s] at Ey
  obtain ⟨t2, cs, hb, hc⟩ := hs.getHeap hg
  simp only [repC] at hc
  have hcs : cs.size = n := by have := repA_size 1 xs _ hc.2; rw [Array.length_toList] at this; omega
  have hcl : (Lib.strCells (bytesOf s)).length = s.length := Lib.strCells_length _
  have hst := run_storeCells_at P b 0 t2 (Lib.strCells (bytesOf s)) 0 cs w hb (by rw [hcl, hcs]; omega) (Lib.strCells_oneCell _)
  have hf := Lib.run_firstCells_string (P := P) w 1 (bytesOf s)
  have hsz := (tget_ok hT he).sizeRun w
  have hmin : Nat.min (bytesOf s).size n = (bytesOf s).size := Nat.min_eq_left hle
  simp only [Nat.add_zero, Nat.zero_add, List.take_zero, List.nil_append, hcl] at hst
  generalize hw2 : w.setRow b (Lib.strCells (bytesOf s) ++ cs.toList.drop s.length).toArray = w2 at hst
  have hmod : Mod (fun b' => HO.blk (.var b (.arr 1 n xs)) = some b') w w2 := by
    rw [← hw2]
    exact (setRow_mod w b _).mono (fun _ _ h => by rw [h]; rfl)
  have hB : Blk w2 b t2 (Lib.strCells (bytesOf s) ++ cs.toList.drop s.length).toArray := by rw [← hw2]; exact setRow_heap w b cs _ t2 (0, 0) hb
  have hlt := (hs.lt b (blk_mem hg rfl)).1
  refine ⟨.int .i64 s.length, w2, ⟨S.n, S.slots, hset S.heap key (.var b (.arr 1 n (s.map byA ++ xs.drop s.length)))⟩, .i .i64 s.length, ?_, ?_, hd, repV_i.2 rfl, Eff.swap hg hmod (fun _ h => .inl h), h⟩
  · simp only [execOp, resolve, invoke, builtin, Sem.run_bind, Sem.run_pure, Result.andThen_ok, List.map_toArray, List.map_cons, List.map_nil, Ex.1, Ey.1]
    unfold Builtin.copy_
    simp [run_underlying (tk_slice (tget_ok hT ht)), Builtin.lenOf, hmin, hsz, hf, hst, goInt]
    rfl
  · refine hs.swap hg (.var b (.arr 1 n (s.map byA ++ xs.drop s.length))) hmod ⟨t2, _, hB, ?_⟩ (fun b' hb' => ?_)
    · have hF : ∀ b', Fz C S.heap w b' → Fz C (hset S.heap key (.var b (.arr 1 n (s.map byA ++ xs.drop s.length)))) w2 b' := fun b' hb' =>
        ⟨Nat.lt_of_lt_of_le hb'.1 hmod.size, by rw [blks_hset hg (.var b (.arr 1 n (s.map byA ++ xs.drop s.length))) rfl]; exact hb'.2.1, hb'.2.2⟩
      have hW : ∀ b', Fz C S.heap w b' → w2.heap[b']? = w.heap[b']? := fun b' hb' => hmod.block b' hb'.1 (fun he => hb'.2.1 (blk_mem hg he))
      refine repC_mono hF hW (.arr 1 n (s.map byA ++ xs.drop s.length)) _ ?_
      simp only [repC]
      exact ⟨by rw [List.length_append, List.length_map, List.length_drop]; omega, repA_append (repA_bytes s) (repA_drop1 _ _ _ hc.2)⟩
    · have : b = b' := by simpa [HO.blk] using hb'
      subst this
      exact ⟨by have := hmod.size; omega, .inl rfl⟩
end
section
variable {m : OM} {P : Program} {T : List (Nat × TI)} {C : Ctx} {ops : Array Oper} {l : List Oper} {K : St → Prop} {n : Nat} {sl : List (Nat × AV)} {hp : List (Nat × HO)} {d : Nat} {ty : Nat} {pos : String} {aft : Array Edge} {gd : Option (Nat × Bool)}
theorem o_copyStr (hT : TTOk P T) (hw : gval ops ⟨n, sl, hp⟩ gd = gwant gd) {x y : Operand} {t ts e k sz0 by0 by1 : Nat} {z0 z1 : AV} {k1 : TK} {key b : Nat} {xs : List AV} {s : List UInt8} {hp' : List (Nat × HO)}
    (ht : tget T t = some ⟨.slice e, sz0, by0, z0⟩) (he : tget T e = some ⟨k1, 1, by1, z1⟩) (hx : ev ⟨n, sl, hp⟩ x = .vw key b [] 0 0 k k) (hy : ev ⟨n, sl, hp⟩ y = .s s) (hg : hget hp key = some (.var b (.arr 1 k xs)))
    (hd : Nat.blt d n = true) (hm : m.oke (some d) [key] = true) (hle : s.length ≤ k) (hh : hset hp key (.var b (.arr 1 k (s.map byA ++ xs.drop s.length))) = hp')
    (h : Ops m P C ops l ⟨n, (d, .i .i64 s.length) :: sl, hp'⟩ K) : Ops m P C ops (⟨some d, .call ⟨.builtin .copy, #[x, y], #[t, ts]⟩, ty, pos, aft, gd⟩ :: l) ⟨n, sl, hp⟩ K := by
  subst hh
  exact Ops.copyStr hT hw ht he hx hy hg hle hd hm h
end
def labA (l : List UInt8) : AV := .arr 1 32 (l.map byA)
end Go.Proofs.YtcmgpkibjdbonaaGreat
namespace Go.Proofs.YtcmgpkibjdbonaaGreat
open Go Go.RowKit

section
variable {m : OM} {P : Program} {T : List (Nat × TI)} {C : Ctx} {ops : Array Oper} {l : List Oper} {K : St → Prop} {n : Nat} {sl : List (Nat × AV)} {hp : List (Nat × HO)} {d : Nat} {ty : Nat} {pos : String} {aft : Array Edge} {gd : Option (Nat × Bool)}
theorem o_eqNil (hT : TTOk P T) (hw : gval ops ⟨n, sl, hp⟩ gd = gwant gd) {t u e : Nat} {x y : Operand} {key b off : Nat} {path : List Nat} {sz0 by0 : Nat} {z0 : AV}
    (hx : ev ⟨n, sl, hp⟩ x = .ptr key b path off) (hy : ev ⟨n, sl, hp⟩ y = .nilp) (ht : tget T t = some ⟨.ptr e, sz0, by0, z0⟩) (hd : Nat.blt d n = true)
    (h : Ops m P C ops l ⟨n, (d, .b false) :: sl, hp⟩ K) : Ops m P C ops (⟨some d, .binOp .eql t x y u, ty, pos, aft, gd⟩ :: l) ⟨n, sl, hp⟩ K := by
  refine Ops.by (d := some d) hw none okc_none hd rfl (fun a w hs => ?_) h
  have Ex := ev_rep hs x
  have Ey := ev_rep hs y
  rw [hx, repV_ptr] at Ex
  rw [hy] at Ey
  obtain ⟨c2, hc2, Ey⟩ := Ey
  simp only [repC] at hc2
  subst hc2
  have hu : P.underlying t = some (.pointer e) := by
    obtain ⟨ds, hds, hk⟩ := (tget_ok hT ht).desc
    cases ds <;> simp [kOf] at hk; subst hk; exact hds
  have hp2 : P.underlying t = some (.pointer (P.pointee t)) := by
    rw [hu]; simp [Program.pointee, hu]
  refine ⟨.bool false, repV_b.2 rfl, fun w' _ => ?_⟩
  have hr := run_eql_pointer_nil (P := P) (w := w') t (some ⟨b, off, none⟩) hp2
  have Ey : a.eval y = .pointer none := Ey
  have hg : (eqGuard .eql t x y (.pointer (some ⟨b, off, none⟩)) (.pointer none)).run P w' = .ok () w' := by simp [eqGuard]
  simp only [execOp, Ex, Ey, Sem.run_bind, hg, hr, Result.andThen_ok, Sem.run_pure]
  rfl
end
section
variable {P : Program} {w : World}
theorem eqItems_bytes {e : Nat} (he : P.underlying e = some (.int .u8)) (hk : P.plainKey e = true) (d : Nat) (l1 l2 : List UInt8) : ∀ (is : List Nat), (∀ i ∈ is, i < l1.length ∧ i < l2.length) →
    (Op.eqItems (d + 1) e 1 (l1.map fun c => Value.int .u8 (c.toNat : Int)).toArray (l2.map fun c => Value.int .u8 (c.toNat : Int)).toArray is).run P w = .ok (is.all fun i => l1[i]? == l2[i]?) w
  | [], _ => by simp [Op.eqItems]
  | i :: is, h => by
    obtain ⟨h1, h2⟩ := h i (by simp)
    have ih := eqItems_bytes he hk d l1 l2 is (fun j hj => h j (by simp [hj]))
    have p1 := run_part_plain (P := P) w hk (xs := (l1.map fun c => Value.int .u8 (c.toNat : Int)).toArray) (off := i * 1) (v := .int .u8 (l1[i].toNat : Int)) (by simp [h1])
    have p2 := run_part_plain (P := P) w hk (xs := (l2.map fun c => Value.int .u8 (c.toNat : Int)).toArray) (off := i * 1) (v := .int .u8 (l2[i].toNat : Int)) (by simp [h2])
    have p3 := run_equalIn_int (P := P) w d e .u8 .u8 (l1[i].toNat : Int) (l2[i].toNat : Int) he
    simp only [Op.eqItems, Sem.run_bind, p1, p2, p3, Result.andThen_ok, List.all_cons]
    have hb : (l1[i]? == l2[i]?) = ((l1[i].toNat : Int) == (l2[i].toNat : Int)) := by
      rw [List.getElem?_eq_getElem h1, List.getElem?_eq_getElem h2]
      by_cases hc : l1[i] = l2[i]
      · simp [hc]
      · have : ¬ ((l1[i].toNat : Int) = (l2[i].toNat : Int)) := fun hq => hc (UInt8.toNat_inj.1 (by omega))
        rw [beq_false_of_ne this, beq_false_of_ne (show some l1[i] ≠ some l2[i] by simpa using hc)]
    rw [hb]
    cases ((l1[i].toNat : Int) == (l2[i].toNat : Int))
    · simp
    · simpa using ih
end
section
variable {P : Program} {w : World}
theorem all_range_eq (l1 l2 : List UInt8) (n : Nat) (h1 : l1.length = n) (h2 : l2.length = n) : ((List.range n).all fun i => l1[i]? == l2[i]?) = (l1 == l2) := by
  by_cases h : l1 = l2
  · subst h; simp
  · have hne : ∃ i, i < n ∧ l1[i]? ≠ l2[i]? := by
      apply Classical.byContradiction
      intro hno
      apply h
      apply List.ext_getElem?
      intro i
      apply Classical.byContradiction
      intro hi
      by_cases hin : i < n
      · exact hno ⟨i, hin, hi⟩
      · rw [List.getElem?_eq_none (by omega), List.getElem?_eq_none (by omega)] at hi; exact hi rfl
    obtain ⟨i, hin, hi⟩ := hne
    rw [beq_false_of_ne h, List.all_eq_false]
    exact ⟨i, List.mem_range.2 hin, by simpa using hi⟩
end
section
variable {m : OM} {P : Program} {T : List (Nat × TI)} {C : Ctx} {ops : Array Oper} {l : List Oper} {K : St → Prop} {n : Nat} {sl : List (Nat × AV)} {hp : List (Nat × HO)} {d : Nat} {ty : Nat} {pos : String} {aft : Array Edge} {gd : Option (Nat × Bool)}
/-- == on arrays of bytes. -/
theorem o_eqArr8 (hT : TTOk P T) (hw : gval ops ⟨n, sl, hp⟩ gd = gwant gd) {t u e k : Nat} {x y : Operand} {l1 l2 : List UInt8} {sz0 by0 by1 : Nat} {z0 z1 : AV}
    (hx : ev ⟨n, sl, hp⟩ x = .arr 1 k (l1.map byA)) (hy : ev ⟨n, sl, hp⟩ y = .arr 1 k (l2.map byA)) (ht : tget T t = some ⟨.array k e, sz0, by0, z0⟩) (he : tget T e = some ⟨.int .u8, 1, by1, z1⟩) (hd : Nat.blt d n = true) (hg : P.eqGuardType P.depth t = false)
    (h : Ops m P C ops l ⟨n, (d, .b (l1 == l2)) :: sl, hp⟩ K) : Ops m P C ops (⟨some d, .binOp .eql t x y u, ty, pos, aft, gd⟩ :: l) ⟨n, sl, hp⟩ K := by
  refine Ops.by (d := some d) hw none okc_none hd rfl (fun a w hs => ?_) h
  have Ex := ev_rep hs x
  have Ey := ev_rep hs y
  rw [hx] at Ex
  rw [hy] at Ey
  obtain ⟨c1, hc1, Ex⟩ := Ex
  obtain ⟨c2, hc2, Ey⟩ := Ey
  have Ex : a.eval x = .agg c1.toArray := Ex
  have Ey : a.eval y = .agg c2.toArray := Ey
  simp only [repC, List.length_map] at hc1 hc2
  have hbytes : ∀ (l : List UInt8) (cs : List Value), repA w (Fz C hp w) 1 (l.map byA) cs → cs = l.map fun c => Value.int .u8 (c.toNat : Int) := by
    intro l
    induction l with
    | nil => intro cs h; simpa only [List.map_nil, repA] using h
    | cons c l ih =>
      intro cs h
      simp only [List.map_cons, repA] at h
      obtain ⟨a1, a2, rfl, h3, _, h4⟩ := h
      simp only [byA, repC] at h3
      rw [h3, ih _ h4]; rfl
  have q1 := hbytes l1 c1 hc1.2
  have q2 := hbytes l2 c2 hc2.2
  have hu := tk_array (tget_ok hT ht)
  have hue := tk_int (tget_ok hT he)
  obtain ⟨ie, hie, hies, _⟩ := (tget_ok hT he).inf
  have hpk : P.plainKey e = true := by unfold Program.plainKey; rw [hue]
  have hco : P.cellsOf e = 1 := by unfold Program.cellsOf; rw [hie]; exact hies
  refine ⟨_, repV_b.2 rfl, fun w' _ => ?_⟩
  have h1 := run_equalIn_array (P := P) w' 9999 c1.toArray c2.toArray hu hie
  rw [hco, q1, q2, eqItems_bytes hue hpk 9998 l1 l2 (List.range k) (fun i hi => by have := List.mem_range.1 hi; omega), all_range_eq l1 l2 k hc1.1 hc2.1] at h1
  have hgd := run_eqGuard_agg (P := P) w' .eql t x y c1.toArray c2.toArray hg
  have hr := run_eql_struct (P := P) w' t c1.toArray c2.toArray
  rw [q1, q2] at hr hgd
  rw [show (10000 : Nat) = 9999 + 1 from rfl, h1] at hr
  simp only [execOp, Ex, Ey, q1, q2, Sem.run_bind, hgd, hr, Result.andThen_ok, Sem.run_pure]
end
section
variable {P : Program} {C : Ctx} {S : St} {K : Exit → St → Prop}
/-- Two pieces of code one behind the other, with what holds between them told. -/
theorem Awp.seqI {x y : Code} {X : Type} (mk : X → St) (inv : X → Prop) (h1 : Awp P C x S (thenK (fun S' => ∃ x' ks, inv x' ∧ Le ks S' (mk x')) K)) (h2 : ∀ x', inv x' → Awp P C y (mk x') K) : Awp P C (.seq x y) S K := by
  refine Awp.seq ⟨fun a w hs => ?_⟩
  refine wp_mono (h1.out a w hs) (fun e a' w' ⟨S', hk, hs'⟩ => ⟨S', ?_, hs'⟩)
  cases e with
  | normal =>
    obtain ⟨x', ks, hi, hle⟩ := hk
    exact Awp.weaken ks hle (h2 x' hi)
  | _ => exact hk
end
end Go.Proofs.YtcmgpkibjdbonaaGreat
