/- The rules of rows, bytes and structs in the shape in which the proofs take them. No program in sight. -/
import Derived.Test.YtfdcopbbnmialaaV12
namespace Go.Proofs.Ytfdcopbbnmialaa
open Go Go.RowKit

section
variable {m : OM} {P : Program} {T : List (Nat × TI)} {C : Ctx} {ops : Array Oper} {l : List Oper} {K : St → Prop} {n : Nat} {sl : List (Nat × AV)} {hp : List (Nat × HO)} {d : Nat} {ty : Nat} {pos : String} {aft : Array Edge} {gd : Option (Nat × Bool)}
theorem o_append (hT : TTOk P T) (hw : gval ops ⟨n, sl, hp⟩ gd = gwant gd) {x y : Operand} {t e sz0 by0 : Nat} {z0 : AV} {tk : TK} {sz bs : Nat} {z : AV} {k : Nat} {v : Value} {xs ys : List AV} {p : Prop} {hp' : Value → List (Nat × HO)}
    (ht : tget T t = some ⟨.slice e, sz0, by0, z0⟩) (he : tget T e = some ⟨tk, sz, bs, z⟩) (hz : z.isVal = true) (hsz : sizeA z = sz) (hpos : Nat.blt 0 sz = true)
    (hx : ev ⟨n, sl, hp⟩ x = .own k v) (hg : hget hp k = some (.row v e sz xs)) (hy : srcOf hp (ev ⟨n, sl, hp⟩ y) = some (p, sz, ys)) (hp0 : p)
    (hd : Nat.blt d n = true) (hm : m.oke (some d) [k] = true) (hh : ∀ v', forceL (hset hp k (.row v' e sz (xs ++ ys))) = some (hp' v')) (hlen : (xs.length + ys.length) * bs ≤ 140737488355328) (hlen2 : xs.length + ys.length ≤ 9223372036854775807)
    (h : ∀ v', Ops m P C ops l ⟨n, (d, .own k v') :: sl, hp' v'⟩ K) : Ops m P C ops (⟨some d, .call ⟨.builtin .append, #[x, y], #[t, t]⟩, ty, pos, aft, gd⟩ :: l) ⟨n, sl, hp⟩ K :=
  Ops.append hT hw ht he hz hsz (blt_lt hpos) hx hg hy hp0 hd hm hlen hlen2 (fun v' => by
    have := h v'
    rw [← forceL_eq _ _ (hh v')] at this
    exact this)
theorem o_buildSlice (hT : TTOk P T) (hw : gval ops ⟨n, sl, hp⟩ gd = gwant gd) {t e sz0 by0 : Nat} {z0 : AV} {tk : TK} {sz bs : Nat} {z : AV} {len : Nat} {parts : Array (Nat × Operand)} {xs0 xs : List AV}
    (ht : tget T t = some ⟨.slice e, sz0, by0, z0⟩) (he : tget T e = some ⟨tk, sz, bs, z⟩) (hz : z.isVal = true) (hsz : sizeA z = sz) (hpos : Nat.blt 0 sz = true)
    (hp0 : partsOf ⟨n, sl, hp⟩ 0 parts.toList = some xs0) (hfx : forceAs xs0 = some xs) (hn : xs.length = len) (hle : Nat.ble (len * sz) 16777216 = true) (hd : Nat.blt d n = true)
    (hall : allSz sz xs) (h : ∀ v', Ops m P C ops l ⟨n, (d, .own d v') :: sl, (d, .row v' e sz xs) :: hp⟩ K) : Ops m P C ops (⟨some d, .buildSlice t len parts, ty, pos, aft, gd⟩ :: l) ⟨n, sl, hp⟩ K := by
  have := forceAs_eq _ _ hfx
  subst this
  exact Ops.buildSlice hT hw ht he hz hsz (blt_lt hpos) hp0 hn hall (Nat.le_of_ble_eq_true hle) hd h
theorem o_indexOwn (hT : TTOk P T) (hw : gval ops ⟨n, sl, hp⟩ gd = gwant gd) {t : Nat} {x ix : Operand} {k : Nat} {v : Value} {e0 sz : Nat} {xs : List AV} {i : Int} {kk : IntKind} {e sz0 by_ : Nat} {z : AV} {te : TI}
    (hx : ev ⟨n, sl, hp⟩ x = .own k v) (hg : hget hp k = some (.row v e0 sz xs)) (hi : ev ⟨n, sl, hp⟩ ix = .i kk i) (ht : tget T t = some ⟨.slice e, sz0, by_, z⟩) (he : tget T e = some te) (hsz : te.sz = sz)
    (hd : Nat.blt d n = true) (j : Nat) (hj : i = j) (hn : j < xs.length) (h : ∀ b, v.ownBlock = some b → Ops m P C ops l ⟨n, (d, .ptr k b [j] (j * sz)) :: sl, hp⟩ K) : Ops m P C ops (⟨some d, .indexAddr t x ix, ty, pos, aft, gd⟩ :: l) ⟨n, sl, hp⟩ K := by
  subst hj
  exact Ops.indexOwn hT hw hx hg hi ht he hsz hd (by omega) (by omega) (fun b hb => h b hb)
theorem o_loadRow (hT : TTOk P T) (hw : gval ops ⟨n, sl, hp⟩ gd = gwant gd) {t : Nat} {x : Operand} {k b i off o : Nat} {path : List Nat} {v : Value} {e sz : Nat} {xs : List AV} {x0 y : AV} {ti : TI}
    (hx : ev ⟨n, sl, hp⟩ x = .ptr k b (i :: path) off) (hg : hget hp k = some (.row v e sz xs)) (hm : m.okc (some d) (some (some k)) = true) (hd : Nat.blt d n = true) (hb : v.ownBlock = some b) (hi : xs[i]? = some x0) (ht : tget T t = some ti) (hsub : subAt path x0 = some (o, y)) (ho : i * sz + o = off) (hf : fits ti y)
    (h : Ops m P C ops l ⟨n, (d, y) :: sl, hp⟩ K) : Ops m P C ops (⟨some d, .load t x, ty, pos, aft, gd⟩ :: l) ⟨n, sl, hp⟩ K :=
  Ops.loadRow hT hw hx hg hb hi hsub ho ht hf hm hd h
theorem o_storeRow (hT : TTOk P T) (hw : gval ops ⟨n, sl, hp⟩ gd = gwant gd) {t : Nat} {x y : Operand} {k b i off o : Nat} {path : List Nat} {v : Value} {e sz : Nat} {xs : List AV} {x0 old u : AV} {ti : TI} {hp' : List (Nat × HO)}
    (hx : ev ⟨n, sl, hp⟩ x = .ptr k b (i :: path) off) (hg : hget hp k = some (.row v e sz xs)) (hm : m.oke none [k] = true) (hu : CV.val_ (ev ⟨n, sl, hp⟩ y) = CV.pure u) (hy : u.isVal = true) (hb : v.ownBlock = some b) (hi : xs[i]? = some x0) (ht : tget T t = some ti) (hsub : subAt path x0 = some (o, old)) (ho : i * sz + o = off) (hf : fits ti u) (hold : sizeA old = ti.sz)
    (hh : forceL (hset hp k (.row v e sz (xs.set i (updAt path x0 u)))) = some hp') (h : Ops m P C ops l ⟨n, sl, hp'⟩ K) : Ops m P C ops (⟨none, .store t x y, ty, pos, aft, gd⟩ :: l) ⟨n, sl, hp⟩ K := by
  rw [CV.val_eq] at hu
  have hu : ev ⟨n, sl, hp⟩ y = u := by simpa [CV.pure] using hu
  subst hu
  exact Ops.storeRow hT hw hx hg hb hi hsub ho ht hf hold hy hm (by rw [forceL_eq _ _ hh]; exact h)
theorem o_makeSlice (hT : TTOk P T) (hw : gval ops ⟨n, sl, hp⟩ gd = gwant gd) {t e sz0 by0 : Nat} {z0 : AV} {tk : TK} {sz bs : Nat} {z : AV} {x y : Operand} {kl kc : IntKind} {a b : Int}
    (ht : tget T t = some ⟨.slice e, sz0, by0, z0⟩) (he : tget T e = some ⟨tk, sz, bs, z⟩) (hz : z.isVal = true) (hsz : sizeA z = sz) (hpos : Nat.blt 0 sz = true)
    (hx : ev ⟨n, sl, hp⟩ x = .i kl a) (hy : ev ⟨n, sl, hp⟩ y = .i kc b) (hd : Nat.blt d n = true) (len : Nat) (ha : a = len) (hb : b = len) (hlen : bs * len ≤ 281474976710656) (hlen2 : len ≤ 9223372036854775807)
    (h : ∀ v', Ops m P C ops l ⟨n, (d, .own d v') :: sl, (d, .row v' e sz (List.replicate len z)) :: hp⟩ K) : Ops m P C ops (⟨some d, .makeSlice t x y, ty, pos, aft, gd⟩ :: l) ⟨n, sl, hp⟩ K := by
  subst ha; subst hb
  exact Ops.makeSlice hT hw ht he hz hsz (blt_lt hpos) hx hy hlen hlen2 hd h
theorem o_toBytes (hT : TTOk P T) (hw : gval ops ⟨n, sl, hp⟩ gd = gwant gd) {src dst e : Nat} {x : Operand} {s : List UInt8} {k1 : TI} {sz0 by0 : Nat} {z0 : AV} {sz1 by1 : Nat} {z1 : AV}
    (hx : ev ⟨n, sl, hp⟩ x = .s s) (h1 : tget T src = some k1) (h2 : tget T dst = some ⟨.slice e, sz0, by0, z0⟩) (h3 : tget T e = some ⟨.int .u8, sz1, by1, z1⟩)
    (hd : Nat.blt d n = true) (h : Ops m P C ops l ⟨n, (d, .sl 1 (s.map byA)) :: sl, hp⟩ K) : Ops m P C ops (⟨some d, .convert src dst x, ty, pos, aft, gd⟩ :: l) ⟨n, sl, hp⟩ K :=
  Ops.toBytes hT hw hx h1 h2 h3 hd h
theorem o_toString (hT : TTOk P T) (hw : gval ops ⟨n, sl, hp⟩ gd = gwant gd) {src dst e : Nat} {x : Operand} {xs : List AV} {s : List UInt8} {p : Prop} {sz0 by0 : Nat} {z0 : AV} {sz1 by1 : Nat} {z1 : AV} {sz2 by2 : Nat} {z2 : AV} {rd : Option (Option Nat)}
    (h1 : tget T src = some ⟨.slice e, sz0, by0, z0⟩) (h2 : tget T dst = some ⟨.string, sz2, by2, z2⟩) (h3 : tget T e = some ⟨.int .u8, sz1, by1, z1⟩) (hx : srcOf hp (ev ⟨n, sl, hp⟩ x) = some (p, 1, xs)) (hp0 : p) (hrd : rdOf (ev ⟨n, sl, hp⟩ x) = rd) (hm : m.okc (some d) rd = true)
    (hd : Nat.blt d n = true) (hxs : xs = s.map byA) (h : Ops m P C ops l ⟨n, (d, .s s) :: sl, hp⟩ K) : Ops m P C ops (⟨some d, .convert src dst x, ty, pos, aft, gd⟩ :: l) ⟨n, sl, hp⟩ K := by
  subst hxs
  exact Ops.toString hT hw hx hp0 h1 h2 h3 rd hrd hm hd h
theorem o_build (hT : TTOk P T) (hw : gval ops ⟨n, sl, hp⟩ gd = gwant gd) {t : Nat} {fs : List (Nat × Nat)} {sz by_ : Nat} {zs res res' : List AV} {parts : Array (Nat × Operand)} {p : Prop}
    (ht : tget T t = some ⟨.struct fs, sz, by_, .agg zs⟩) (hb : bld T fs (parts.toList.map fun q => (q.1, ev ⟨n, sl, hp⟩ q.2)) zs = some (p, res)) (hf : forceAs res = some res') (hall : fs.all (fun q => (tget T q.2).isSome) = true)
    (hd : Nat.blt d n = true) (hp0 : p) (h : Ops m P C ops l ⟨n, (d, .agg res') :: sl, hp⟩ K) : Ops m P C ops (⟨some d, .build t parts, ty, pos, aft, gd⟩ :: l) ⟨n, sl, hp⟩ K := by
  have := forceAs_eq _ _ hf
  subst this
  exact Ops.build hT hw ht hb hp0 (fun q hq => List.all_eq_true.1 hall q hq) hd h
theorem o_indexStr (hT : TTOk P T) (hw : gval ops ⟨n, sl, hp⟩ gd = gwant gd) {t : Nat} {x ix : Operand} {s : List UInt8} {c : UInt8} {i : Int} {kk : IntKind} {sz0 by_ : Nat} {z : AV}
    (hx : ev ⟨n, sl, hp⟩ x = .s s) (hi : ev ⟨n, sl, hp⟩ ix = .i kk i) (ht : tget T t = some ⟨.string, sz0, by_, z⟩) (hd : Nat.blt d n = true) (h0 : 0 ≤ i) (hy : s[i.toNat]? = some c)
    (h : Ops m P C ops l ⟨n, (d, .i .u8 c.toNat) :: sl, hp⟩ K) : Ops m P C ops (⟨some d, .index t x ix, ty, pos, aft, gd⟩ :: l) ⟨n, sl, hp⟩ K :=
  Ops.indexStr hT hw hx hi ht hd h0 hy h
theorem bnd_none {S : St} {n : Nat} : bndB S none n n := rfl
theorem bnd_some {S : St} {x : Operand} {k : IntKind} {i : Int} {dflt n : Nat} (hx : ev S x = .i k i) (h : i = n) : bndB S (some x) dflt n := ⟨k, by rw [hx, h]⟩
theorem o_sliceStr (hT : TTOk P T) (hw : gval ops ⟨n, sl, hp⟩ gd = gwant gd) {t : Nat} {x : Operand} {lo hi : Option Operand} {s : List UInt8} (i j : Nat) {sz0 by_ : Nat} {z : AV}
    (hx : ev ⟨n, sl, hp⟩ x = .s s) (ht : tget T t = some ⟨.string, sz0, by_, z⟩) (hd : Nat.blt d n = true) (hlo : bndB ⟨n, sl, hp⟩ lo 0 i) (hhi : bndB ⟨n, sl, hp⟩ hi s.length j) (hij : i ≤ j) (hj : j ≤ s.length)
    (h : Ops m P C ops l ⟨n, (d, .s ((s.take j).drop i)) :: sl, hp⟩ K) : Ops m P C ops (⟨some d, .slice t x lo hi none, ty, pos, aft, gd⟩ :: l) ⟨n, sl, hp⟩ K :=
  Ops.sliceStr hT hw i j hx hlo hhi ht hd hij hj h
theorem o_sliceSl (hT : TTOk P T) (hw : gval ops ⟨n, sl, hp⟩ gd = gwant gd) {t : Nat} {x : Operand} {lo hi : Option Operand} {sz : Nat} {α : Type} {f : α → AV} {xs : List α} (i j : Nat) {e sz0 by_ : Nat} {z : AV} {te : TI}
    (hx : ev ⟨n, sl, hp⟩ x = .sl sz (xs.map f)) (ht : tget T t = some ⟨.slice e, sz0, by_, z⟩) (he : tget T e = some te) (hsz : te.sz = sz) (hd : Nat.blt d n = true) (hlo : bndB ⟨n, sl, hp⟩ lo 0 i) (hhi : bndB ⟨n, sl, hp⟩ hi xs.length j) (hij : i ≤ j) (hj : j ≤ xs.length)
    (h : Ops m P C ops l ⟨n, (d, .sl sz (((xs.take j).drop i).map f)) :: sl, hp⟩ K) : Ops m P C ops (⟨some d, .slice t x lo hi none, ty, pos, aft, gd⟩ :: l) ⟨n, sl, hp⟩ K :=
  Ops.sliceSl hT hw i j hx hlo (by rw [List.length_map]; exact hhi) ht he hsz hd hij (by rw [List.length_map]; exact hj) (by
    rw [← List.map_take, ← List.map_drop]; exact h)
end
end Go.Proofs.Ytfdcopbbnmialaa
