/- Array views: l[:] of a variable, and of memory that nobody writes. No program in sight. -/
import Derived.Test.YtdpljpnnjgefoaaV14
namespace Go.Proofs.Ytdpljpnnjgefoaa
open Go Go.RowKit

section
variable {P : Program} {T : List (Nat × TI)} {w : World}
theorem sliceArr_run {t n e : Nat} (hu : P.underlying t = some (.array n e)) {ie : TypeInfo} (hie : P.info? e = some ie) (b off : Nat) (hn : n ≤ maxLen) : (Instr.sliceAt t (.pointer (some ⟨b, off, none⟩)) none none none).run P w = .ok (.slice (some ⟨b, off, none⟩) n n) w := by
  unfold Instr.sliceAt
  simp [run_underlying hu, Instr.sureAddr, Instr.sliceBounds, sizeOf, typeInfo, hie, Addr.add]
end
section
variable {m : OM} {P : Program} {T : List (Nat × TI)} {C : Ctx} {S : St} {a : Act} {w : World} {ops : Array Oper} {l : List Oper} {K : St → Prop} {d : Nat} {ty : Nat} {pos : String} {aft : Array Edge} {gd : Option (Nat × Bool)}
/-- l[:] of an array in memory that nobody writes: a slice. -/
theorem Ops.sliceCp (hT : TTOk P T) (hw : gval ops S gd = gwant gd) {t : Nat} {x : Operand} {sz : Nat} {xs : List AV} {mlen e sz0 by_ : Nat} {z : AV} {te : TI}
    (hx : ev S x = .cp (.arr sz mlen xs)) (ht : tget T t = some ⟨.array mlen e, sz0, by_, z⟩) (he : tget T e = some te) (hd : Nat.blt d S.n = true) (hn : mlen ≤ 9223372036854775807)
    (h : Ops m P C ops l (S.put d (.sl sz xs)) K) : Ops m P C ops (⟨some d, .slice t x none none none, ty, pos, aft, gd⟩ :: l) S K := by
  refine Ops.by (d := some d) hw none okc_none hd rfl (fun a w hs => ?_) h
  have Ex := ev_rep hs x
  rw [hx, repV_cp] at Ex
  obtain ⟨b, off, vs, e1, hF, hrep, hat⟩ := Ex
  simp only [repC] at hrep
  obtain ⟨ie, hie, _, _⟩ := (tget_ok hT he).inf
  refine ⟨.slice (some ⟨b, off, none⟩) mlen mlen, repV_sl.2 ⟨some ⟨b, off, none⟩, mlen, by rw [hrep.1], by omega, by unfold maxLen; omega, fun _ => ⟨b, off, rfl, hF, repA_row hF xs vs off hrep.2 hat⟩⟩, fun w' _ => ?_⟩
  have hr := sliceArr_run (P := P) (w := w') (tk_array (tget_ok hT ht)) hie b off (by unfold maxLen; omega)
  simp only [execOp, e1, Option.map_none, Sem.run_bind, hr, Result.andThen_ok, Sem.run_pure]
end
section
variable {P : Program} {C : Ctx} {S : St} {a : Act} {w : World} {K : Exit → St → Prop}
/-- A variable that is not written any more becomes memory that nobody writes. -/
theorem Sat.freezeV (h : Sat C S a w) {k d b : Nat} {c : AV} (hg : hget S.heap k = some (.var b c)) (hd : S.slot d = .ptr k b [] 0) : Sat C ⟨S.n, (d, .cp c) :: S.slots, hdel S.heap k⟩ a w := by
  obtain ⟨j1, j2, j3⟩ := hdel_blks hg
  have h1 := h.del hg
  have hb : b ∈ blks S.heap := blk_mem hg rfl
  have hnb : b ∉ blks (hdel S.heap k) := (j2 h.nd).2 b rfl
  have hF : ∀ b, Fz C S.heap w b → Fz C (hdel S.heap k) w b := fun b hb => ⟨hb.1, fun hin => hb.2.1 (j1 b hin), hb.2.2⟩
  refine ⟨h1.n, h1.df, fun i => ?_, h1.heap, h1.nd, h1.lt, h1.mod⟩
  have hslot : (⟨S.n, (d, AV.cp c) :: S.slots, hdel S.heap k⟩ : St).slot i = if d = i then .cp c else S.slot i := lookD_put ⟨S.n, S.slots, hdel S.heap k⟩ d i (.cp c)
  rw [hslot]
  by_cases hi : d = i
  · subst hi
    rw [if_pos rfl]
    have hs := h.slots d
    rw [hd, repV_ptr] at hs
    obtain ⟨t, cs, hB, hc⟩ := h.getHeap hg
    rw [hs]
    exact repV_cp.2 ⟨b, 0, cs.toList, rfl, ⟨(h.lt b hb).1, hnb, .inr (h.lt b hb).2⟩, repC_mono hF (fun _ _ => rfl) _ _ hc, fun j u hu => by
      rw [Nat.zero_add, hB.cell]
      simpa using hu⟩
  · rw [if_neg hi]; exact h1.slots i
theorem a_freezeV {cc : Code} {n : Nat} {sl : List (Nat × AV)} {hp hp' : List (Nat × HO)} (k d : Nat) {b : Nat} {c : AV} (hg : hget hp k = some (.var b c)) (hd : lookD sl d = .ptr k b [] 0) (hh : hdel hp k = hp')
    (h : Awp P C cc ⟨n, (d, .cp c) :: sl, hp'⟩ K) : Awp P C cc ⟨n, sl, hp⟩ K := by
  subst hh
  exact ⟨fun a w hs => h.out a w (hs.freezeV (S := ⟨n, sl, hp⟩) hg hd)⟩
end
section
variable {m : OM} {P : Program} {T : List (Nat × TI)} {C : Ctx} {ops : Array Oper} {l : List Oper} {K : St → Prop} {n : Nat} {sl : List (Nat × AV)} {hp : List (Nat × HO)} {d : Nat} {ty : Nat} {pos : String} {aft : Array Edge} {gd : Option (Nat × Bool)}
theorem o_sliceCp (hT : TTOk P T) (hw : gval ops ⟨n, sl, hp⟩ gd = gwant gd) {t : Nat} {x : Operand} {sz : Nat} {xs : List AV} {mlen e sz0 by_ : Nat} {z : AV} {te : TI}
    (hx : ev ⟨n, sl, hp⟩ x = .cp (.arr sz mlen xs)) (ht : tget T t = some ⟨.array mlen e, sz0, by_, z⟩) (he : tget T e = some te) (hd : Nat.blt d n = true) (hn : Nat.ble mlen 1000000 = true)
    (h : Ops m P C ops l ⟨n, (d, .sl sz xs) :: sl, hp⟩ K) : Ops m P C ops (⟨some d, .slice t x none none none, ty, pos, aft, gd⟩ :: l) ⟨n, sl, hp⟩ K :=
  Ops.sliceCp hT hw hx ht he hd (Nat.le_trans (Nat.le_of_ble_eq_true hn) (by decide)) h
end
section
variable {m : OM} {P : Program} {T : List (Nat × TI)} {C : Ctx} {S : St} {a : Act} {w : World} {ops : Array Oper} {l : List Oper} {K : St → Prop} {d : Nat} {ty : Nat} {pos : String} {aft : Array Edge} {gd : Option (Nat × Bool)}
end
section
variable {m : OM} {P : Program} {T : List (Nat × TI)} {C : Ctx} {ops : Array Oper} {l : List Oper} {K : St → Prop} {n : Nat} {sl : List (Nat × AV)} {hp : List (Nat × HO)} {d : Nat} {ty : Nat} {pos : String} {aft : Array Edge} {gd : Option (Nat × Bool)}
end
def labA (l : List UInt8) : AV := .arr 1 32 (l.map byA)
end Go.Proofs.Ytdpljpnnjgefoaa
