/- Rows that are lent: read by a callee, still owned and written afterwards. No program in sight. -/
import Derived.Test.YtfdcopbbnmialaaV14Z
namespace Go.Proofs.Ytfdcopbbnmialaa
open Go Go.RowKit

mutual
/-- A thing that reaches no memory but what it owns. -/
def flatA : AV → Bool
  | .any | .b _ | .i _ _ | .s _ | .nil | .nilp | .nilf | .nili | .ptr .. | .own .. | .vw .. => true
  | .sl _ xs => xs.isEmpty
  | .agg fs => flatAs fs
  | .arr _ _ xs => flatAs xs
  | .cp _ => false
  | .fn _ caps => flatAs caps
  | .ifc _ a => flatA a
  | .tup xs => flatAs xs
def flatAs : List AV → Bool
  | [] => true
  | x :: xs => flatA x && flatAs xs
end
section
variable {w : World} {F F' : Nat → Prop}
mutual
theorem repC_flat : ∀ (a : AV) (cs : List Value), flatA a = true → repC w F a cs → repC w F' a cs
  | .any, _, _, h => h
  | .b _, _, _, h => h
  | .i _ _, _, _, h => h
  | .s _, _, _, h => h
  | .sl sz xs, cs, hf, h => by
    simp only [flatA, List.isEmpty_iff] at hf
    subst hf
    simp only [repC] at h ⊢
    obtain ⟨A, cap, h1, h2, h3, _⟩ := h
    exact ⟨A, cap, h1, h2, h3, fun hx => absurd rfl hx⟩
  | .nil, _, _, h => h
  | .agg fs, cs, hf, h => by simp only [flatA] at hf; simp only [repC] at h ⊢; exact repL_flat fs cs hf h
  | .arr sz n xs, cs, hf, h => by simp only [flatA] at hf; simp only [repC] at h ⊢; exact ⟨h.1, repA_flat sz xs cs hf h.2⟩
  | .ptr _ _ _ _, _, _, h => h
  | .nilp, _, _, h => h
  | .own _ _, _, _, h => h
  | .vw _ _ _ _ _ _ _, _, _, h => h
  | .cp a, cs, hf, h => by simp [flatA] at hf
  | .fn f caps, cs, hf, h => by
    simp only [flatA] at hf
    simp only [repC] at h ⊢
    obtain ⟨vs, h1, h2⟩ := h
    exact ⟨vs, h1, repL_flat caps _ hf h2⟩
  | .nilf, _, _, h => h
  | .ifc t a, cs, hf, h => by
    simp only [flatA] at hf
    simp only [repC] at h ⊢
    obtain ⟨vs, h1, h2⟩ := h
    exact ⟨vs, h1, repC_flat a _ hf h2⟩
  | .nili, _, _, h => h
  | .tup _, _, _, h => h
theorem repL_flat : ∀ (xs : List AV) (cs : List Value), flatAs xs = true → repL w F xs cs → repL w F' xs cs
  | [], _, _, h => h
  | x :: xs, cs, hf, h => by
    simp only [flatAs, Bool.and_eq_true] at hf
    simp only [repL] at h ⊢
    obtain ⟨c1, c2, h1, h2, h3⟩ := h
    exact ⟨c1, c2, h1, repC_flat x c1 hf.1 h2, repL_flat xs c2 hf.2 h3⟩
theorem repA_flat (sz : Nat) : ∀ (xs : List AV) (cs : List Value), flatAs xs = true → repA w F sz xs cs → repA w F' sz xs cs
  | [], _, _, h => h
  | x :: xs, cs, hf, h => by
    simp only [flatAs, Bool.and_eq_true] at hf
    simp only [repA] at h ⊢
    obtain ⟨c1, c2, h1, h2, h3, h4⟩ := h
    exact ⟨c1, c2, h1, repC_flat x c1 hf.1 h2, h3, repA_flat sz xs c2 hf.2 h4⟩
end
theorem flatAs_get : ∀ {xs : List AV} {i : Nat} {x : AV}, flatAs xs = true → xs[i]? = some x → flatA x = true
  | y :: ys, 0, x, h, hx => by
    simp only [flatAs, Bool.and_eq_true] at h
    simp only [List.getElem?_cons_zero, Option.some.injEq] at hx
    subst hx; exact h.1
  | y :: ys, i + 1, x, h, hx => by
    simp only [flatAs, Bool.and_eq_true] at h
    exact flatAs_get h.2 (by simpa using hx)
  | [], i, x, _, hx => by simp at hx
theorem repV_flat {a : AV} {v : Value} (hf : flatA a = true) (h : repV w F a v) : repV w F' a v := by
  cases a
  case any => exact True.intro
  case tup xs =>
    simp only [flatA] at hf
    obtain ⟨vs, h1, h2, h3⟩ := h
    exact ⟨vs, h1, h2, fun i x u hx hu => (h3 i x u hx hu).imp id fun ⟨cs, hc, he⟩ => ⟨cs, repC_flat _ _ (flatAs_get hf hx) hc, he⟩⟩
  all_goals
    obtain ⟨cs, hc, he⟩ := h
    exact ⟨cs, repC_flat _ _ hf hc, he⟩
def flatHO : HO → Bool
  | .var _ c => flatA c
  | .row _ _ _ xs => flatAs xs
  | .obj _ _ => true
  | .grp _ _ => false
theorem HOk_flat {x : HO} (hf : flatHO x = true) (h : HOk w F x) : HOk w F' x := by
  cases x with
  | var b c => obtain ⟨t, cs, h1, h2⟩ := h; exact ⟨t, cs, h1, repC_flat _ _ hf h2⟩
  | row v e sz xs => obtain ⟨cells, h1, h2⟩ := h; exact ⟨cells, repA_flat _ _ _ hf h1, h2⟩
  | obj b o => exact h
  | grp bs X => cases hf
theorem flatAs_map {α : Type} {f : α → AV} (hf : ∀ x, flatA (f x) = true) : ∀ xs : List α, flatAs (xs.map f) = true
  | [] => rfl
  | x :: xs => by simp only [List.map_cons, flatAs, hf, flatAs_map hf xs, Bool.and_self]
end
theorem fzs_from : ∀ (ks : List Nat) (H : List (Nat × HO)) (z : Value × Nat × List AV), z ∈ fzs H ks → ∃ p ∈ H, ∃ e, p.2 = .row z.1 e z.2.1 z.2.2
  | [], H, z, h => by simp [fzs] at h
  | k :: r, H, z, h => by
    unfold fzs at h
    split at h
    · rename_i v e sz xs hg
      rcases List.mem_cons.1 h with rfl | h
      · obtain ⟨pre, post, e1⟩ := hget_key hg
        exact ⟨(k, .row v e sz xs), by rw [e1]; simp, e, rfl⟩
      · obtain ⟨p, hp, e', he⟩ := fzs_from r _ z h
        exact ⟨p, (hdel_blks hg).2.2 p hp, e', he⟩
    · exact fzs_from r H z h
section
variable {m : OM} {P : Program} {T : List (Nat × TI)} {C : Ctx} {S : St} {ops : Array Oper} {l : List Oper} {K : St → Prop}
/-- A call that is handed no block to own, but may read rows that the caller owns (ld) and goes on to own; what comes back reaches no memory but its own. -/
theorem Ops.callL {d : Option Tmp} {f : FuncId} {args : Array Operand} {ats : Array TypeId} {ty : Nat} {pos : String} {aft : Array Edge} {gd : Option (Nat × Bool)} (hw : gval ops S gd = gwant gd)
    (ld ks : List Nat) {as_ : List AV} {R : AV → List HO → Prop} (hspec : Spec P f as_ [] R) (hargs : argsLe (fzs S.heap ld) (args.toList.map (ev S)) as_) (hd : okD S d = true)
    (h : ∀ r os', R r os' → ks.length = os'.length ∧ flatA r = true ∧ os'.all flatHO = true ∧ Ops m P C ops l (St.putO ⟨S.n, S.slots, ks.zip os' ++ S.heap⟩ d r) K) :
    Ops m P C ops (⟨d, .call ⟨.value (.func f), args, ats⟩, ty, pos, aft, gd⟩ :: l) S K := by
  refine Ops.act hw [] (by cases m with | text => rfl | any tk so qs => simp [OM.oke] | one tk so qs => simp [OM.oke]) rfl fun a w hs RR Q hK' _ => ?_
  obtain ⟨fn, f1, f2, f3⟩ := hspec.fn
  unfold Oper.wp
  rw [execOp_call_go, callFunc_run f1 f2 f3]
  have e0 : (#[] ++ args.map a.eval ++ #[] : Array Value) = (args.toList.map a.eval).toArray := by
    apply Array.ext'
    simp [Array.toList_map]
  rw [e0]
  have hlent : ∀ b, (∃ z ∈ fzs S.heap ld, z.1.ownBlock = some b) → b ∈ blks S.heap := fun b ⟨z, hz, hb⟩ => by
    obtain ⟨p, hp, e, he⟩ := fzs_from ld _ z hz
    exact List.mem_flatMap.2 ⟨p, hp, by rw [he]; exact row_blk hb⟩
  have hFF : ∀ b, Fz C S.heap w b → Fz C S.heap w b ∨ ∃ z ∈ fzs S.heap ld, z.1.ownBlock = some b := fun b hb => .inl hb
  have hfr : FrOk (fzs S.heap ld) w (fun b => Fz C S.heap w b ∨ ∃ z ∈ fzs S.heap ld, z.1.ownBlock = some b) := fun z hz => by
    obtain ⟨p, hp, e, he⟩ := fzs_from ld _ z hz
    have h1 := hs.heap p hp
    rw [he] at h1
    exact row_sl (HOk_mono hFF h1) (fun b hb => .inr ⟨z, hz, hb⟩)
  refine Calls.mono (hspec.run w (args.toList.map a.eval) (fun b => Fz C S.heap w b ∨ ∃ z ∈ fzs S.heap ld, z.1.ownBlock = some b) (fun b hb => ⟨?_, by simp [oblks]⟩) ⟨by simp, by simp [oblks], by simp [oblks]⟩ ?_) ?_
  · rcases hb with hb | hb
    · exact hb.1
    · exact (hs.lt b (hlent b hb)).1
  · refine argsLe_rep hfr hargs ⟨by simp, fun i x v hx hv => ?_⟩
    rw [List.getElem?_map] at hx hv
    cases hq : args.toList[i]? with
    | none => rw [hq] at hx; cases hx
    | some o =>
      rw [hq] at hx hv
      simp only [Option.map_some, Option.some.injEq] at hx hv
      subst hx; subst hv
      exact repV_mono hFF (fun _ _ => rfl) _ _ (ev_rep hs o)
  · rintro e w' ⟨v, r, os', rfl, hR, hm, hown, hbs, hv⟩
    obtain ⟨hkl, hf1, hf2, hK2⟩ := h r os' hR
    have hb0 : blks (ks.zip os' ++ S.heap) = oblks os' ++ blks S.heap := by rw [blks_append, blks_zip ks os' hkl]
    have hnew : ∀ b ∈ oblks os', w.heap.size ≤ b := fun b hb => by
      rcases hbs b hb with h1 | h1
      · simp [oblks] at h1
      · exact h1
    have hlt : ∀ b ∈ blks (ks.zip os' ++ S.heap), b < w'.heap.size ∧ (b ∈ blks S.heap ∨ w.heap.size ≤ b) := by
      intro b hb
      rw [hb0] at hb
      rcases List.mem_append.1 hb with hb | hb
      · exact ⟨hown.lt b hb, .inr (hnew b hb)⟩
      · exact ⟨Nat.lt_of_lt_of_le (hs.lt b hb).1 hm.size, .inl hb⟩
    have hT : ∀ b, b < w.heap.size → b ∈ oblks ([] : List HO) → b ∈ blks S.heap := fun b _ hb => by simp [oblks] at hb
    have hs2 : Sat C ⟨S.n, S.slots, ks.zip os' ++ S.heap⟩ a w' := by
      refine hs.move _ _ hm hT ?_ hlt ?_
      · rw [hb0]
        refine List.nodup_append.2 ⟨hown.nd, hs.nd, fun b hb c hc hbc => ?_⟩
        subst hbc
        have := hnew b hb
        have := (hs.lt b hc).1
        omega
      · intro p hp
        rcases List.mem_append.1 hp with hp | hp
        · exact HOk_flat (List.all_eq_true.1 hf2 _ (List.of_mem_zip hp).2) (hown.ok p.2 (List.of_mem_zip hp).2)
        · exact hs.keepHO hm hT hlt (hs.heap p hp) (fun b hb hin => by simp [oblks] at hin)
    have hd' : okD (⟨S.n, S.slots, ks.zip os' ++ S.heap⟩ : St) d = true := by cases d <;> exact hd
    refine hK' _ v w' r hs2 hd' (repV_flat hf1 hv) ⟨hm.mono (fun b _ hb => by simp [oblks] at hb), fun tk htk b hlt' ⟨p, hp, hpk, hpb⟩ => ?_⟩ hK2
    rcases List.mem_append.1 hp with hp | hp
    · have hb : b ∈ oblks os' := List.mem_flatMap.2 ⟨p.2, (List.of_mem_zip hp).2, hpb⟩
      have := hnew b hb
      omega
    · exact ⟨p, hp, hpk, hpb⟩
end
mutual
/-- The rows that a value names. -/
def ownK : AV → List Nat
  | .own k _ => [k]
  | .agg fs => ownKs fs
  | _ => []
def ownKs : List AV → List Nat
  | [] => []
  | x :: xs => ownK x ++ ownKs xs
end
section
variable {m : OM} {P : Program} {T : List (Nat × TI)} {C : Ctx} {ops : Array Oper} {l : List Oper} {K : St → Prop} {n : Nat} {sl : List (Nat × AV)} {hp : List (Nat × HO)} {d : Nat} {ty : Nat} {pos : String} {aft : Array Edge} {gd : Option (Nat × Bool)}
/-- A call that may read rows of the caller's and makes one, whose name is the slot's. -/
theorem o_callLR (hw : gval ops ⟨n, sl, hp⟩ gd = gwant gd) {f : FuncId} {args : Array Operand} {ats : Array TypeId} {as_ : List AV} {fr : Fr} {e sz : Nat} {xs : List AV}
    (hspec : Spec P f as_ [] (fun r os => ∃ v, r = .own 0 v ∧ os = [.row v e sz xs])) (hfr : fzs hp (ownKs (args.toList.map (ev ⟨n, sl, hp⟩))) = fr) (hargs : argsLe fr (args.toList.map (ev ⟨n, sl, hp⟩)) as_) (hd : Nat.blt d n = true)
    (hf : flatAs xs = true) (h : ∀ v, Ops m P C ops l ⟨n, (d, .own d v) :: sl, (d, .row v e sz xs) :: hp⟩ K) :
    Ops m P C ops (⟨some d, .call ⟨.value (.func f), args, ats⟩, ty, pos, aft, gd⟩ :: l) ⟨n, sl, hp⟩ K := by
  subst hfr
  exact Ops.callL hw _ [d] (hspec.le (R' := fun r os => ∃ v, r = .own d v ∧ os = [.row v e sz xs]) (fun r os' ⟨v, h1, h2⟩ => ⟨.own d v, h1 ▸ sle_own, v, rfl, h2⟩)) hargs hd (fun r os' hr => by
    obtain ⟨v, rfl, rfl⟩ := hr
    exact ⟨rfl, rfl, by simp [flatHO, hf], h v⟩)
/-- The same, what comes back may reach read-only memory: no row is lent. -/
theorem o_callR (hw : gval ops ⟨n, sl, hp⟩ gd = gwant gd) {f : FuncId} {args : Array Operand} {ats : Array TypeId} {as_ : List AV} {e sz : Nat} {xs : List AV}
    (hspec : Spec P f as_ [] (fun r os => ∃ v, r = .own 0 v ∧ os = [.row v e sz xs])) (hargs : argsLe [] (args.toList.map (ev ⟨n, sl, hp⟩)) as_) (hd : Nat.blt d n = true)
    (h : ∀ v, Ops m P C ops l ⟨n, (d, .own d v) :: sl, (d, .row v e sz xs) :: hp⟩ K) :
    Ops m P C ops (⟨some d, .call ⟨.value (.func f), args, ats⟩, ty, pos, aft, gd⟩ :: l) ⟨n, sl, hp⟩ K :=
  Ops.call hw [] [] [d] (hspec.le (R' := fun r os => ∃ v, r = .own d v ∧ os = [.row v e sz xs]) (fun r os' ⟨v, h1, h2⟩ => ⟨.own d v, h1 ▸ sle_own, v, rfl, h2⟩)) hargs rfl trivial hd oke_nil (fun r os' hr => by
    obtain ⟨v, rfl, rfl⟩ := hr
    exact ⟨rfl, h v⟩)
/-- What is not wanted, calls and writes in regions that draw their order among it. -/
theorem o_noT {op : Op} {j : Nat} {dj : Nat} (hj : (ops[j]?).bind (·.dst) = some dj) (hc : lookD sl dj = .b false) (hd : Nat.blt d n = true)
    (h1 : Ops m P C ops l ⟨n, (d, .tup []) :: sl, hp⟩ K) : Ops m P C ops (⟨some d, op, ty, pos, aft, some (j, true)⟩ :: l) ⟨n, sl, hp⟩ K :=
  Ops.gdOff hj hc rfl hd h1
theorem o_noF {op : Op} {j : Nat} {dj : Nat} (hj : (ops[j]?).bind (·.dst) = some dj) (hc : lookD sl dj = .b true) (hd : Nat.blt d n = true)
    (h1 : Ops m P C ops l ⟨n, (d, .tup []) :: sl, hp⟩ K) : Ops m P C ops (⟨some d, op, ty, pos, aft, some (j, false)⟩ :: l) ⟨n, sl, hp⟩ K :=
  Ops.gdOff hj hc rfl hd h1
theorem o_noU {op : Op} {j : Nat} {g : Bool} {dj : Nat} (hj : (ops[j]?).bind (·.dst) = some dj) (hc : lookD sl dj = .tup []) (hd : Nat.blt d n = true)
    (h1 : Ops m P C ops l ⟨n, (d, .tup []) :: sl, hp⟩ K) : Ops m P C ops (⟨some d, op, ty, pos, aft, some (j, g)⟩ :: l) ⟨n, sl, hp⟩ K :=
  Ops.gdOffU hj hc hd h1
end
end Go.Proofs.Ytfdcopbbnmialaa
