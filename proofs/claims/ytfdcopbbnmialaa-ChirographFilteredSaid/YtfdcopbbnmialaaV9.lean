/- Contracts of functions: calls and returns. No program in sight. -/
import Derived.Test.YtfdcopbbnmialaaV8
namespace Go.Proofs.Ytfdcopbbnmialaa
open Go Go.RowKit

structure Owned (w : World) (F : Nat → Prop) (os : List HO) : Prop where
  ok : ∀ o ∈ os, HOk w F o
  nd : (oblks os).Nodup
  lt : ∀ b ∈ oblks os, b < w.heap.size
def repVs (w : World) (F : Nat → Prop) (xs : List AV) (vs : List Value) : Prop := xs.length = vs.length ∧ ∀ (i : Nat) (x : AV) (v : Value), xs[i]? = some x → vs[i]? = some v → repV w F x v
/-- What is read-only when a function returns. -/
def FAfter (w w' : World) (F : Nat → Prop) (os os' : List HO) : Nat → Prop := fun b => b < w'.heap.size ∧ b ∉ oblks os' ∧ (F b ∨ w.heap.size ≤ b ∨ b ∈ oblks os)
/-- A contract: handed these values and these blocks to own, the function comes back with a value and blocks of which R holds. -/
structure Spec (P : Program) (f : FuncId) (args : List AV) (os : List HO) (R : AV → List HO → Prop) : Prop where
  fn : ∃ fn, P.funcs[f]? = some fn ∧ (fn.name == "runtime.NumGoroutine") = false ∧ fn.body.isNone = false
  run : ∀ (w : World) (vals : List Value) (F : Nat → Prop), (∀ b, F b → b < w.heap.size ∧ b ∉ oblks os) → Owned w F os → repVs w F args vals →
    Calls P f vals.toArray w fun e w' => ∃ v r os', e = .returned v ∧ R r os' ∧ Mod (· ∈ oblks os) w w' ∧ Owned w' (FAfter w w' F os os') os' ∧ (∀ b ∈ oblks os', b ∈ oblks os ∨ w.heap.size ≤ b) ∧ repV w' (FAfter w w' F os os') r v
theorem Spec.mono {P : Program} {f : FuncId} {args : List AV} {os : List HO} {R R' : AV → List HO → Prop} (h : Spec P f args os R) (hr : ∀ r os', R r os' → R' r os') : Spec P f args os R' :=
  ⟨h.fn, fun w vals F h1 h2 h3 => (h.run w vals F h1 h2 h3).mono fun _e _w' ⟨v, r, os', e1, e2, e3⟩ => ⟨v, r, os', e1, hr r os' e2, e3⟩⟩

/-! Values but for the keys. -/
def keyed (ks : List Nat) (os : List HO) : List (Nat × HO) := ks.zip os
def slotsOf : Nat → List AV → List (Nat × AV)
  | _, [] => []
  | i, x :: xs => (i, x) :: slotsOf (i + 1) xs
def resOne (T : List (Nat × TI)) (S : St) : ResultVar → Option (Prop × AV)
  | .tmp t => some (True, S.slot t)
  | .cell a t => match cvLoad T S.heap t (S.slot a) with
    | some r => some (r.need, r.val)
    | none => none
def resAll (T : List (Nat × TI)) (S : St) : List ResultVar → Option (Prop × List AV)
  | [] => some (True, [])
  | r :: rs => match resOne T S r, resAll T S rs with
    | some (p, x), some (q, xs) => some (p ∧ q, x :: xs)
    | _, _ => none
def single : List AV → AV
  | [x] => x
  | xs => .tup xs
def RLe (fr : Fr) (x y : AV) : Prop := ∀ w F v, FrOk fr w F → repV w F x v → repV w F y v
theorem RLe.slot {fr : Fr} {x y : AV} (h : SLe fr x y) : RLe fr x y := h
theorem RLe.tup {fr : Fr} : ∀ {xs ys : List AV}, xs.length = ys.length → (∀ (i : Nat) x y, xs[i]? = some x → ys[i]? = some y → y = .any ∨ (x.isVal = true ∧ CLe fr x y)) → RLe fr (.tup xs) (.tup ys) := fun hl h w F v hf hv => by
  obtain ⟨vs, rfl, h1, h2⟩ := hv
  refine ⟨vs, rfl, by omega, fun i y u hy hu => ?_⟩
  rename_i xs ys
  have hi := (List.getElem?_eq_some_iff.1 hy).1
  rcases h i xs[i] y (List.getElem?_eq_getElem (by omega)) hy with h3 | ⟨h3, h4⟩
  · exact .inl h3
  · rcases h2 i xs[i] u (List.getElem?_eq_getElem (by omega)) hu with h5 | ⟨cs, h5, h6⟩
    · rw [h5] at h3; cases h3
    · exact .inr ⟨cs, h4.1 w F cs hf h5, by rw [h6]; unfold ofCells; rw [h4.2]⟩
/-- What stands at the end of a function. -/
def retK (T : List (Nat × TI)) (fn : Func) (R : AV → List HO → Prop) : Exit → St → Prop
  | .ret, S | .normal, S => ∃ (ks : List Nat) (p : Prop) (xs : List AV) (r : AV) (os' : List (Nat × HO)), resAll T S fn.results.toList = some (p, xs) ∧ p ∧ RLe (fzs S.heap ks) (single xs) r ∧ HLe (fzs S.heap ks) (hdels S.heap ks) os' ∧ R r (os'.map (·.2))
  | _, _ => False
def resSem (tmps : Array Value) : ResultVar → Sem Value
  | .tmp t => pure (tmps.getD t undef)
  | .cell a t => do loadVar t (← asAddr (tmps.getD a undef))
theorem oblks_keyed {H : List (Nat × HO)} : oblks (H.map (·.2)) = blks H := by
  unfold oblks blks
  rw [List.flatMap_map]
section
variable {P : Program} {T : List (Nat × TI)} {C : Ctx} {S : St} {a : Act} {w : World}
theorem resOne_run (hT : TTOk P T) (hs : Sat C S a w) {rv : ResultVar} {p : Prop} {x : AV} (h : resOne T S rv = some (p, x)) (hp : p) :
    ∃ v, repV w (Fz C S.heap w) x v ∧ (resSem a.tmps rv).run P w = .ok v w := by
  cases rv with
  | tmp t =>
    simp only [resOne, Option.some.injEq, Prod.mk.injEq] at h
    obtain ⟨rfl, rfl⟩ := h
    exact ⟨_, hs.slots t, rfl⟩
  | cell q t =>
    simp only [resOne] at h
    split at h
    · rename_i r hr
      simp only [Option.some.injEq, Prod.mk.injEq] at h
      obtain ⟨rfl, rfl⟩ := h
      obtain ⟨_, u, h2, h3⟩ := cv_load hT hs hr hp (hs.slots q)
      refine ⟨u, h2, ?_⟩
      have h4 := h3 w (by unfold Reads; split <;> first | trivial | (intros; rfl))
      have hptr : ∃ ad, a.tmps.getD q undef = .pointer (some ad) := by
        have h5 := hs.slots q
        unfold cvLoad at hr
        split at hr
        · rename_i hq; rw [hq, repV_ptr] at h5; exact ⟨_, h5⟩
        · rename_i hq; rw [hq, repV_cp] at h5; obtain ⟨b, o, vs, h6, _⟩ := h5; exact ⟨_, h6⟩
        · cases hr
      obtain ⟨ad, had⟩ := hptr
      rw [had] at h4
      simp only [resSem, had]
      simpa [Instr.loadAt, Instr.sureAddr, asAddr] using h4
    · cases h
theorem resAll_run (hT : TTOk P T) (hs : Sat C S a w) : ∀ (rs : List ResultVar) (p : Prop) (xs : List AV), resAll T S rs = some (p, xs) → p →
    ∃ vs : List Value, (rs.mapM (resSem a.tmps)).run P w = .ok vs w ∧ xs.length = vs.length ∧ ∀ (i : Nat) x v, xs[i]? = some x → vs[i]? = some v → repV w (Fz C S.heap w) x v
  | [], p, xs, h, _ => by
    simp only [resAll, Option.some.injEq, Prod.mk.injEq] at h
    obtain ⟨_, rfl⟩ := h
    exact ⟨[], rfl, rfl, fun i x v hx => by simp at hx⟩
  | r :: rs, p, xs, h, hp => by
    simp only [resAll] at h
    cases h1 : resOne T S r with
    | none => simp [h1] at h
    | some q1 => cases h2 : resAll T S rs with
      | none => simp [h1, h2] at h
      | some q2 =>
        obtain ⟨p1, x1⟩ := q1; obtain ⟨p2, xs2⟩ := q2
        simp only [h1, h2, Option.some.injEq, Prod.mk.injEq] at h
        obtain ⟨rfl, rfl⟩ := h
        obtain ⟨v, hv, hr⟩ := resOne_run hT hs h1 hp.1
        obtain ⟨vs, hrs, hl, hvs⟩ := resAll_run hT hs rs p2 xs2 h2 hp.2
        refine ⟨v :: vs, ?_, by simp [hl], fun i x u hx hu => ?_⟩
        · rw [List.mapM_cons, Sem.run_bind, hr]
          simp only [Result.andThen_ok, Sem.run_bind, hrs, Sem.run_pure]
        · cases i with
          | zero => simp at hx hu; subst hx; subst hu; exact hv
          | succ i => simp at hx hu; exact hvs i x u hx hu
theorem repV_any_or {F : Nat → Prop} {x : AV} {v : Value} (h : repV w F x v) (ht : ∀ xs, x ≠ .tup xs) : x = .any ∨ ∃ cs, repC w F x cs ∧ v = ofCells x cs := by
  cases x
  case any => exact .inl rfl
  case tup xs => exact absurd rfl (ht xs)
  all_goals exact .inr h
def noTup : List AV → Prop
  | [] => True
  | x :: xs => (match x with | .tup _ => False | _ => True) ∧ noTup xs
theorem noTup_get : ∀ {xs : List AV}, noTup xs → ∀ (i : Nat) x, xs[i]? = some x → ∀ ys, x ≠ .tup ys
  | x :: xs, h, 0, y, hy, ys => by simp at hy; subst hy; rintro rfl; exact h.1
  | x :: xs, h, i + 1, y, hy, ys => by simp at hy; exact noTup_get h.2 i y hy ys
/-- The contract of a function, out of its body. -/
theorem Spec.intro (hT : TTOk P T) {f : FuncId} {fn : Func} {c : Code} {args : List AV} {H : List (Nat × HO)} {R : AV → List HO → Prop} {n : Nat} (hf : P.funcs[f]? = some fn) (hb : fn.body = some c) (hn : fn.ntmps = n) (hname : (fn.name == "runtime.NumGoroutine") = false) (hargs : args.length ≤ n)
    (h : ∀ C, Awp P C c ⟨n, slotsOf 0 args, H⟩ (fun e S' => retK T fn R e S' ∧ ∀ xs p, resAll T S' fn.results.toList = some (p, xs) → noTup xs)) : Spec P f args (H.map (·.2)) R := by
  refine ⟨⟨fn, hf, hname, by rw [hb]; rfl⟩, fun w vals F hF hO hV => ?_⟩
  have hlen : vals.length = args.length := hV.1.symm
  refine calls_of_wp hf hb (wp_mono ((h ⟨w, F, (· ∈ oblks (H.map (·.2)))⟩).out _ w ?_) ?_)
  · have hsub : ∀ b, F b → Fz ⟨w, F, (· ∈ oblks (H.map (·.2)))⟩ H w b := fun b hb => ⟨(hF b hb).1, by have := (hF b hb).2; rwa [oblks_keyed] at this, .inl hb⟩
    refine ⟨?_, rfl, fun i => ?_, fun p hp => HOk_mono hsub (hO.ok p.2 (List.mem_map.2 ⟨p, hp, rfl⟩)), by rw [← oblks_keyed]; exact hO.nd, fun b hb => ⟨hO.lt b (by rw [oblks_keyed]; exact hb), .inr (by show b ∈ oblks _; rw [oblks_keyed]; exact hb)⟩, Mod.refl _ _⟩
    · simp [hn, hlen]; omega
    · have hslot : ∀ (xs : List AV) (j i : Nat), lookD (slotsOf j xs) i = if j ≤ i then (xs[i - j]?).getD .any else .any := by
        intro xs
        induction xs with
        | nil => intro j i; simp [slotsOf, lookD]
        | cons x xs ih =>
          intro j i
          simp only [slotsOf, lookD]
          cases hb : Nat.beq j i with
          | true => have := Nat.eq_of_beq_eq_true hb; subst this; simp
          | false =>
            have hne : j ≠ i := fun h => by subst h; simp [Nat.beq_refl] at hb
            simp only [cond_false, ih]
            by_cases hle : j ≤ i
            · rw [if_pos (by omega), if_pos hle, show i - j = (i - (j + 1)) + 1 by omega, List.getElem?_cons_succ]
            · rw [if_neg (by omega), if_neg hle]
      show repV w _ (lookD (slotsOf 0 args) i) _
      rw [hslot, if_pos (Nat.zero_le _), Nat.sub_zero]
      cases hx : args[i]? with
      | none => exact True.intro
      | some x =>
        have hi := (List.getElem?_eq_some_iff.1 hx).1
        have hv : vals[i]? = some vals[i] := List.getElem?_eq_getElem (by omega)
        have hg : (vals.toArray ++ Array.replicate (fn.ntmps - vals.toArray.size) undef).getD i undef = vals[i] := by
          rw [Array.getD_eq_getD_getElem?, Array.getElem?_append_left (by simp; omega), List.getElem?_toArray, hv]; rfl
        show repV w _ x _
        rw [hg]
        exact repV_mono hsub (fun _ _ => rfl) _ _ (hV.2 i x _ hx hv)
  · rintro e a' w' ⟨S', ⟨hk, hnt⟩, hs'⟩
    have main : ∀ S', (∃ (ks : List Nat) (p : Prop) (xs : List AV) (r : AV) (os' : List (Nat × HO)), resAll T S' fn.results.toList = some (p, xs) ∧ p ∧ RLe (fzs S'.heap ks) (single xs) r ∧ HLe (fzs S'.heap ks) (hdels S'.heap ks) os' ∧ R r (os'.map (·.2))) →
        (∀ xs p, resAll T S' fn.results.toList = some (p, xs) → noTup xs) → Sat ⟨w, F, (· ∈ oblks (H.map (·.2)))⟩ S' a' w' →
        a'.defers = [] ∧ ∃ v, (results fn a'.tmps).run P w' = .ok v w' ∧ (fun e w' => ∃ v r os', e = Ending.returned v ∧ R r os' ∧ Mod (· ∈ oblks (H.map (·.2))) w w' ∧ Owned w' (FAfter w w' F (H.map (·.2)) os') os' ∧ (∀ b ∈ oblks os', b ∈ oblks (H.map (·.2)) ∨ w.heap.size ≤ b) ∧ repV w' (FAfter w w' F (H.map (·.2)) os') r v) (.returned v) w' := by
      rintro S' ⟨ks, p, xs, r, os', h1, hp, h2, h3, h4⟩ hnt hs'
      refine ⟨hs'.df, ?_⟩
      obtain ⟨vs, hr, hl, hvs⟩ := resAll_run hT hs' _ p xs h1 hp
      have hres : (results fn a'.tmps).run P w' = .ok (if h : vs.toArray.size = 1 then vs.toArray[0] else .tuple vs.toArray) w' := by
        have h0 : results fn a'.tmps = (do let vs ← fn.results.mapM (resSem a'.tmps); pure (if h : vs.size = 1 then vs[0] else .tuple vs)) := rfl
        rw [h0, Sem.run_bind, Array.mapM_eq_mapM_toList]
        have : (List.toArray <$> (fn.results.toList.mapM (resSem a'.tmps))).run P w' = .ok vs.toArray w' := by
          rw [map_eq_pure_bind, Sem.run_bind, hr]; rfl
        rw [this]; rfl
      have hsingle : repV w' (Fz ⟨w, F, (· ∈ oblks (H.map (·.2)))⟩ S'.heap w') (single xs) (if h : vs.toArray.size = 1 then vs.toArray[0] else .tuple vs.toArray) := by
        have hno := hnt xs p h1
        rcases xs with _ | ⟨x, _ | ⟨y, ys⟩⟩
        · have : vs = [] := List.eq_nil_of_length_eq_zero (by simpa using hl.symm)
          subst this
          exact ⟨[], rfl, rfl, fun i x u hx => by simp at hx⟩
        · obtain ⟨v, rfl⟩ := List.length_eq_one_iff.1 (show vs.length = 1 by simpa using hl.symm)
          exact hvs 0 x v rfl rfl
        · have hl2 : vs.length = ys.length + 2 := by simpa using hl.symm
          rw [dif_neg (by simp; omega)]
          exact ⟨vs, rfl, by simp [hl2], fun i z u hz hu => repV_any_or (hvs i z u hz hu) (noTup_get hno i z hz)⟩
      obtain ⟨hd, hfr⟩ := Sat.dels ks hs'
      obtain ⟨g1, g2, g3⟩ := h3.spec
      have hFle : ∀ b, Fz ⟨w, F, (· ∈ oblks (H.map (·.2)))⟩ (hdels S'.heap ks) w' b → FAfter w w' F (H.map (·.2)) (os'.map (·.2)) b := fun b hb => ⟨hb.1, fun hin => hb.2.1 (g1 b (by rw [← oblks_keyed]; exact hin)), hb.2.2⟩
      have hFdel : ∀ b, Fz ⟨w, F, (· ∈ oblks (H.map (·.2)))⟩ S'.heap w' b → Fz ⟨w, F, (· ∈ oblks (H.map (·.2)))⟩ (hdels S'.heap ks) w' b := fun b hb => by
        have hsub : ∀ (r : List Nat) (H : List (Nat × HO)) b, b ∈ blks (hdels H r) → b ∈ blks H := by
          intro r
          induction r with
          | nil => exact fun H b hb => hb
          | cons k r ih =>
            intro H b hb
            unfold hdels at hb
            split at hb
            · rename_i hg2
              exact (hdel_blks hg2).1 b (ih _ b hb)
            · exact ih _ b hb
        exact ⟨hb.1, fun hin => hb.2.1 (hsub ks _ b hin), hb.2.2⟩
      refine ⟨_, hres, _, r, os'.map (·.2), rfl, h4, hs'.mod, ⟨fun o ho => ?_, by rw [oblks_keyed]; exact g2 hd.nd, fun b hb => (hd.lt b (g1 b (by rw [← oblks_keyed]; exact hb))).1⟩, fun b hb => ?_, ?_⟩
      · obtain ⟨q, hq, rfl⟩ := List.mem_map.1 ho
        exact HOk_mono hFle (g3 w' _ hfr hd.nd hd.heap q hq)
      · have := (hd.lt b (g1 b (by rw [← oblks_keyed]; exact hb))).2
        exact this.symm
      · exact repV_mono hFle (fun _ _ => rfl) _ _ (h2 w' _ _ hfr (repV_mono hFdel (fun _ _ => rfl) _ _ hsingle))
    cases e with
    | ret => exact main S' hk hnt hs'
    | normal => exact main S' hk hnt hs'
    | _ => exact hk.elim

/-! Calls. -/
def argsLe (fr : Fr) : List AV → List AV → Prop
  | [], [] => True
  | x :: xs, y :: ys => SLe fr x y ∧ argsLe fr xs ys
  | _, _ => False
theorem argsLe_rep {fr : Fr} {F : Nat → Prop} (hf : FrOk fr w F) : ∀ {xs ys : List AV} {vs : List Value}, argsLe fr xs ys → repVs w F xs vs → repVs w F ys vs
  | [], [], vs, _, h => h
  | x :: xs, y :: ys, [], _, h => by have := h.1; simp at this
  | x :: xs, y :: ys, v :: vs, h, h2 => by
    have ih := argsLe_rep hf h.2 (vs := vs) ⟨by have := h2.1; simpa using this, fun i x v hx hv => h2.2 (i + 1) x v (by simpa using hx) (by simpa using hv)⟩
    refine ⟨by simp [ih.1], fun i z u hz hu => ?_⟩
    cases i with
    | zero =>
      simp at hz hu
      subst hz; subst hu
      exact h.1 w F _ hf (h2.2 0 x v rfl rfl)
    | succ i => exact ih.2 i z u (by simpa using hz) (by simpa using hu)
  | x :: xs, [], vs, h, _ => h.elim
  | [], y :: ys, vs, h, _ => h.elim
theorem blks_zip : ∀ (ks : List Nat) (os : List HO), ks.length = os.length → blks (ks.zip os) = oblks os
  | [], [], _ => rfl
  | k :: ks, o :: os, h => by
    have ih := blks_zip ks os (by simpa using h)
    rw [List.zip_cons_cons, blks_cons, ih]
    unfold oblks
    rw [List.flatMap_cons]
  | [], o :: os, h => by simp at h
  | k :: ks, [], h => by simp at h
theorem callFunc_run {f : FuncId} {fn : Func} (hf : P.funcs[f]? = some fn) (h1 : (fn.name == "runtime.NumGoroutine") = false) (h2 : fn.body.isNone = false) (args : Array Value) : (callFunc f args).run P w = .ok (.enter f args) w := by
  unfold callFunc
  rw [Sem.run_bind, show (program).run P w = .ok P w from rfl]
  simp only [Result.andThen_ok, hf, h1, h2, Bool.false_eq_true, if_false, Sem.run_pure]
/-- A call, however its arguments come about. -/
theorem Ops.callG {m : OM} {ops : Array Oper} {l : List Oper} {K : St → Prop} {d : Option Tmp} {op : Op} {f : FuncId} {ty : Nat} {pos : String} {aft : Array Edge} {gd : Option (Nat × Bool)} (hw : gval ops S gd = gwant gd) (heff : effOp P op = true)
    (xs : List AV) (hev : ∀ a w, Sat C S a w → ∃ vals : List Value, repVs w (Fz C S.heap w) xs vals ∧ execOp a.eval ⟨d, op, ty, pos, aft, gd⟩ = callFunc f vals.toArray)
    (fz pass ks : List Nat) {as_ : List AV} {os0 os : List HO} {H1 : List (Nat × HO)} {R : AV → List HO → Prop}
    (hspec : Spec P f as_ os R) (hargs : argsLe (fzs S.heap fz) xs as_) (htk : taken (hdels S.heap fz) pass = some (os0, H1)) (hos : hosLe (fzs S.heap fz) os0 os)
    (hd : okD S d = true) (hm : m.oke d pass = true)
    (h : ∀ r os', R r os' → ks.length = os'.length ∧ Ops m P C ops l (St.putO ⟨S.n, S.slots, ks.zip os' ++ H1⟩ d r) K) :
    Ops m P C ops (⟨d, op, ty, pos, aft, gd⟩ :: l) S K := by
  refine Ops.act hw pass hm heff fun a w hs RR Q hK' _ => ?_
  obtain ⟨hd1, hfr⟩ := Sat.dels fz hs
  obtain ⟨t1, t2, t3, t4⟩ := taken_spec htk hd1.nd
  obtain ⟨o1, o2⟩ := hosLe_spec hfr hos
  have hF1 : ∀ b, Fz C S.heap w b → Fz C (hdels S.heap fz) w b := fun b hb => by
    have hsub : ∀ (r : List Nat) (H : List (Nat × HO)) b, b ∈ blks (hdels H r) → b ∈ blks H := by
      intro r
      induction r with
      | nil => exact fun H b hb => hb
      | cons k r ih =>
        intro H b hb
        unfold hdels at hb
        split at hb
        · rename_i hg2
          exact (hdel_blks hg2).1 b (ih _ b hb)
        · exact ih _ b hb
    exact ⟨hb.1, fun hin => hb.2.1 (hsub fz _ b hin), hb.2.2⟩
  obtain ⟨fn, f1, f2, f3⟩ := hspec.fn
  unfold Oper.wp
  obtain ⟨vals, hvals, hexec⟩ := hev a w hs
  rw [hexec, callFunc_run f1 f2 f3]
  refine Calls.mono (hspec.run w vals (Fz C (hdels S.heap fz) w) (fun b hb => ⟨hb.1, fun hin => hb.2.1 (t2 b (List.mem_append.2 (.inl (by rw [o1] at hin; exact hin))))⟩) ⟨o2 (fun o ho => ?_), ?_, fun b hb => ?_⟩ ?_) ?_
  · obtain ⟨p, hp, _, rfl⟩ := t3 o ho
    exact hd1.heap p hp
  · rw [o1]; exact (List.nodup_append.1 t1).1
  · rw [o1] at hb; exact (hd1.lt b (t2 b (List.mem_append.2 (.inl hb)))).1
  · exact argsLe_rep hfr hargs ⟨hvals.1, fun i x v hx hv => repV_mono hF1 (fun _ _ => rfl) _ _ (hvals.2 i x v hx hv)⟩
  · rintro e w' ⟨v, r, os', rfl, hR, hm, hown, hbs, hv⟩
    obtain ⟨hkl, hK2⟩ := h r os' hR
    have hb0 : blks (ks.zip os' ++ H1) = oblks os' ++ blks H1 := by rw [blks_append, blks_zip ks os' hkl]
    have hlt : ∀ b ∈ blks (ks.zip os' ++ H1), b < w'.heap.size ∧ (b ∈ blks (hdels S.heap fz) ∨ w.heap.size ≤ b) := by
      intro b hb
      rw [hb0] at hb
      rcases List.mem_append.1 hb with hb | hb
      · refine ⟨hown.lt b hb, ?_⟩
        rcases hbs b hb with h1 | h1
        · rw [o1] at h1; exact .inl (t2 b (List.mem_append.2 (.inl h1)))
        · exact .inr h1
      · have h2 := t2 b (List.mem_append.2 (.inr hb))
        exact ⟨Nat.lt_of_lt_of_le (hd1.lt b h2).1 hm.size, .inl h2⟩
    have hT : ∀ b, b < w.heap.size → b ∈ oblks os → b ∈ blks (hdels S.heap fz) := fun b _ hb => by rw [o1] at hb; exact t2 b (List.mem_append.2 (.inl hb))
    have hFA : ∀ b, FAfter w w' (Fz C (hdels S.heap fz) w) os os' b → Fz C (ks.zip os' ++ H1) w' b := by
      intro b hb
      refine ⟨hb.1, fun hin => ?_, ?_⟩
      · rw [hb0] at hin
        rcases List.mem_append.1 hin with h1 | h1
        · exact hb.2.1 h1
        · rcases hb.2.2 with h2 | h2 | h2
          · exact h2.2.1 (t2 b (List.mem_append.2 (.inr h1)))
          · have := (hd1.lt b (t2 b (List.mem_append.2 (.inr h1)))).1; omega
          · rw [o1] at h2
            exact (List.nodup_append.1 t1).2.2 b h2 b h1 rfl
      · rcases hb.2.2 with h2 | h2 | h2
        · exact h2.2.2
        · exact .inr (.inl (Nat.le_trans hs.mod.size h2))
        · rw [o1] at h2
          exact .inr (hd1.lt b (t2 b (List.mem_append.2 (.inl h2)))).2
    have hs2 : Sat C ⟨S.n, S.slots, ks.zip os' ++ H1⟩ a w' := by
      refine hd1.move _ _ hm hT ?_ hlt ?_
      · rw [hb0]
        refine List.nodup_append.2 ⟨hown.nd, (List.nodup_append.1 t1).2.1, fun b hb c hc hbc => ?_⟩
        subst hbc
        rcases hbs b hb with h1 | h1
        · rw [o1] at h1; exact (List.nodup_append.1 t1).2.2 b h1 b hc rfl
        · have := (hd1.lt b (t2 b (List.mem_append.2 (.inr hc)))).1; omega
      · intro p hp
        rcases List.mem_append.1 hp with hp | hp
        · exact HOk_mono hFA (hown.ok p.2 (List.of_mem_zip hp).2)
        · refine hd1.keepHO hm hT hlt (hd1.heap p (t4 p hp)) (fun b hb hin => ?_)
          rw [o1] at hin
          have : b ∈ blks H1 := List.mem_flatMap.2 ⟨p, hp, hb⟩
          exact (List.nodup_append.1 t1).2.2 b hin b this rfl
    have hd' : okD (⟨S.n, S.slots, ks.zip os' ++ H1⟩ : St) d = true := by cases d <;> exact hd
    have hin : ∀ p ∈ hdels S.heap fz, p ∈ S.heap := by
      have : ∀ (r : List Nat) (H : List (Nat × HO)) p, p ∈ hdels H r → p ∈ H := by
        intro r
        induction r with
        | nil => exact fun H p hp => hp
        | cons k r ih =>
          intro H p hp
          unfold hdels at hp
          split at hp
          · rename_i hg2
            exact (hdel_blks hg2).2.2 p (ih _ p hp)
          · exact ih _ p hp
      exact this fz _
    have hold : ∀ b, b ∈ oblks os → tbl S.heap pass b := fun b hb => by
      rw [o1] at hb
      obtain ⟨o, ho, hob⟩ := List.mem_flatMap.1 hb
      obtain ⟨p, hp, hk, rfl⟩ := t3 o ho
      exact ⟨p, hin p hp, hk, hob⟩
    refine hK' _ v w' r hs2 hd' (repV_mono hFA (fun _ _ => rfl) _ _ hv) ⟨hm.mono (fun b _ hb => hold b hb), fun tk htk b hlt' ⟨p, hp, hpk, hpb⟩ => ?_⟩ hK2
    rcases List.mem_append.1 hp with hp | hp
    · have hb : b ∈ oblks os' := List.mem_flatMap.2 ⟨p.2, (List.of_mem_zip hp).2, hpb⟩
      rcases hbs b hb with h1 | h1
      · exact tbl_sub htk (hold b h1)
      · omega
    · exact ⟨p, hin p (t4 p hp), hpk, hpb⟩
/-- A call of a function by its contract; fz: rows that are given up (read-only from now on); pass: the blocks handed over; ks: the names of the blocks that come back. -/
theorem Ops.call {m : OM} {ops : Array Oper} {l : List Oper} {K : St → Prop} {d : Option Tmp} {f : FuncId} {args : Array Operand} {ats : Array TypeId} {ty : Nat} {pos : String} {aft : Array Edge} {gd : Option (Nat × Bool)} (hw : gval ops S gd = gwant gd)
    (fz pass ks : List Nat) {as_ : List AV} {os0 os : List HO} {H1 : List (Nat × HO)} {R : AV → List HO → Prop}
    (hspec : Spec P f as_ os R) (hargs : argsLe (fzs S.heap fz) (args.toList.map (ev S)) as_) (htk : taken (hdels S.heap fz) pass = some (os0, H1)) (hos : hosLe (fzs S.heap fz) os0 os)
    (hd : okD S d = true) (hm : m.oke d pass = true)
    (h : ∀ r os', R r os' → ks.length = os'.length ∧ Ops m P C ops l (St.putO ⟨S.n, S.slots, ks.zip os' ++ H1⟩ d r) K) :
    Ops m P C ops (⟨d, .call ⟨.value (.func f), args, ats⟩, ty, pos, aft, gd⟩ :: l) S K := by
  refine Ops.callG hw rfl (args.toList.map (ev S)) (fun a w hs => ⟨args.toList.map a.eval, ⟨by simp, fun i x v hx hv => ?_⟩, ?_⟩) fz pass ks hspec hargs htk hos hd hm h
  · rw [List.getElem?_map] at hx hv
    cases hq : args.toList[i]? with
    | none => rw [hq] at hx; cases hx
    | some o =>
      rw [hq] at hx hv
      simp only [Option.map_some, Option.some.injEq] at hx hv
      subst hx; subst hv
      exact ev_rep hs o
  · rw [execOp_call_go]
    congr 1
    apply Array.ext'
    simp [Array.toList_map]
end
end Go.Proofs.Ytfdcopbbnmialaa
