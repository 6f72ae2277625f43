/- A row that is not written any more, in the midst of a region, in whatever order it is gone through. No program in sight. -/
import Derived.Test.YtdpljpnnjgefoaaV21
namespace Go.Proofs.Ytdpljpnnjgefoaa
open Go Go.RowKit
section
variable {P : Program} {C : Ctx} {S : St} {a : Act} {w : World} {K : Exit → St → Prop}
theorem Sat.freezeR (h : Sat C S a w) {k d e sz : Nat} {v : Value} {xs : List AV} (hg : hget S.heap k = some (.row v e sz xs)) (hd : S.slot d = .own k v) : Sat C ⟨S.n, (d, .sl sz xs) :: S.slots, hdel S.heap k⟩ a w := by
  obtain ⟨j1, j2, j3⟩ := hdel_blks hg
  have h1 := h.del hg
  have hF : ∀ b, Fz C S.heap w b → Fz C (hdel S.heap k) w b := fun b hb => ⟨hb.1, fun hin => hb.2.1 (j1 b hin), hb.2.2⟩
  refine ⟨h1.n, h1.df, fun i => ?_, h1.heap, h1.nd, h1.lt, h1.mod⟩
  have hslot : (⟨S.n, (d, AV.sl sz xs) :: S.slots, hdel S.heap k⟩ : St).slot i = if d = i then .sl sz xs else S.slot i := lookD_put ⟨S.n, S.slots, hdel S.heap k⟩ d i (.sl sz xs)
  rw [hslot]
  by_cases hi : d = i
  · subst hi
    rw [if_pos rfl]
    have hs := h.slots d
    rw [hd, repV_own] at hs
    have hr := h.getHeap hg
    have hx := row_sl (HOk_mono hF hr) (fun b hb => ⟨(h.lt b (blk_mem hg hb)).1, (j2 h.nd).2 b hb, .inr (h.lt b (blk_mem hg hb)).2⟩)
    rw [hs.1]
    exact repV_mk hx
  · rw [if_neg hi]; exact h1.slots i
end
theorem ExtQ.small {q : Bool} {G H G' : Nat → Prop} {w w' : World} (hs : ∀ b, G b → H b) (h : ExtQ q G w G' w') : ExtQ q H w G' w' :=
  ⟨h.size, fun b hb hc => h.same b hb (hc.imp id (fun n g => n (hs b g))), fun b hb hg => hs b (h.sub b hb hg)⟩
theorem wpAnyR_small {P : Program} {ops : Array Oper} {qs : List Nat} {Q : Exit → Act → World → Prop} : ∀ (n : Nat) (listed : Array Bool) (G H : Nat → Prop) (a : Act) (w : World), (∀ b, G b → H b) → wpAnyR P ops qs Q n listed G a w → wpAnyR P ops qs Q n listed H a w
  | 0, _, _, _, _, _, _, h => h
  | n + 1, listed, G, H, a, w, hs, h => ⟨h.1, fun i hi => wpOp_mono (fun a' w' ⟨G', h1, h2⟩ => ⟨G', h1.small hs, h2⟩) (h.2 i hi)⟩
theorem OM.wp_small {m : OM} {P : Program} {ops : Array Oper} {Q : Exit → Act → World → Prop} {E : (Nat → Prop) → Act → World → Prop} {o : Oper} {l : List Oper} {H H' : List (Nat × HO)} {a : Act} {w : World} (hs : ∀ tk b, tbl H' tk b → tbl H tk b) (h : m.wp P ops Q E (o :: l) H' a w) : m.wp P ops Q E (o :: l) H a w := by
  cases m with
  | text => exact h
  | any tk so qs => exact fun is listed n h1 h2 h3 h4 h5 => wpAnyR_small _ _ _ _ _ _ (hs tk) (h is listed n h1 h2 h3 h4 h5)
  | one tk so qs =>
    cases l with
    | nil => exact fun i hi => wpOp_mono (fun a' w' ⟨G', h1, h2⟩ => ⟨G', h1.small (hs tk), h2⟩) (h i hi)
    | cons o' l' => exact True.intro
section
variable {m : OM} {P : Program} {C : Ctx} {ops : Array Oper} {o : Oper} {l : List Oper} {K : St → Prop} {n : Nat} {sl : List (Nat × AV)} {hp : List (Nat × HO)}
theorem o_freezeR {hp' : List (Nat × HO)} (k d : Nat) {e sz : Nat} {v : Value} {xs : List AV} (hg : hget hp k = some (.row v e sz xs)) (hd : lookD sl d = .own k v) (hh : hdel hp k = hp')
    (h : Ops m P C ops (o :: l) ⟨n, (d, .sl sz xs) :: sl, hp'⟩ K) : Ops m P C ops (o :: l) ⟨n, sl, hp⟩ K := by
  subst hh
  refine ⟨fun Q E a w hs hK => OM.wp_small (fun tk b hb => ?_) (h.out Q E a w (hs.freezeR (S := ⟨n, sl, hp⟩) hg hd) hK)⟩
  obtain ⟨p, h1, h2, h3⟩ := hb
  exact ⟨p, (hdel_blks hg).2.2 p h1, h2, h3⟩
end
end Go.Proofs.Ytdpljpnnjgefoaa
