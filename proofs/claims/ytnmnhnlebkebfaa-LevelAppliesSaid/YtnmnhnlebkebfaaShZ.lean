/- Arguments of a statement, of whatever type made of bools, integers, strings, structs, arrays and slices: opened as things. No program in sight. -/
import Derived.Test.YtnmnhnlebkebfaaV9
import Derived.ProofKit
import Derived.OpenShut
import Derived.Deep.Slices
import Derived.ChangeOld
import Derived.Test.YtnmnhnlebkebfaaBase
namespace Go.Proofs.Ytnmnhnlebkebfaa
open Go Go.RowKit Go.ChangeShapes Go.WideShapes Go.Deep

/-- A type's shape. -/
inductive Sh where
  | b | i (k : IntKind) | s | sl (sz : Nat) (e : Sh) | agg (fs : List Sh) | arr (sz n : Nat) (e : Sh)
mutual
def has : Sh → AV → Prop
  | .b, a => ∃ x, a = .b x
  | .i k, a => ∃ n, a = .i k n ∧ k.min ≤ n ∧ n ≤ k.max
  | .s, a => ∃ x, a = .s x ∧ x.length ≤ 9223372036854775807
  | .sl sz e, a => ∃ xs, a = .sl sz xs ∧ xs.length ≤ 9223372036854775807 ∧ ∀ x ∈ xs, has e x
  | .agg fs, a => ∃ xs, a = .agg xs ∧ hasL fs xs
  | .arr sz n e, a => ∃ xs, a = .arr sz n xs ∧ xs.length = n ∧ ∀ x ∈ xs, has e x
def hasL : List Sh → List AV → Prop
  | [], xs => xs = []
  | f :: fs, xs => ∃ y ys, xs = y :: ys ∧ has f y ∧ hasL fs ys
end
def shFields (T : List (Nat × TI)) (rec : Nat → Option Sh) : Nat → List (Nat × Nat) → Option (List Sh)
  | _, [] => some []
  | off, (o, ft) :: r => match tget T ft, rec ft, shFields T rec (off + ((tget T ft).map (·.sz)).getD 0) r with
    | some _, some sc, some rs => bif Nat.beq o off then some (sc :: rs) else none
    | _, _, _ => none
def endF (T : List (Nat × TI)) : Nat → List (Nat × Nat) → Nat
  | off, [] => off
  | off, (_, ft) :: r => endF T (off + ((tget T ft).map (·.sz)).getD 0) r
def shOf (T : List (Nat × TI)) : Nat → Nat → Option Sh
  | 0, _ => none
  | fuel + 1, t => match tget T t with
    | some ⟨.bool, _, _, _⟩ => some .b
    | some ⟨.int k, _, _, _⟩ => some (.i k)
    | some ⟨.string, _, _, _⟩ => some .s
    | some ⟨.slice e, _, _, _⟩ => match tget T e, shOf T fuel e with
      | some te, some sc => bif Nat.blt 0 te.sz then some (.sl te.sz sc) else none
      | _, _ => none
    | some ⟨.struct fs, sz, _, _⟩ => match shFields T (shOf T fuel) 0 fs with
      | some ss => bif Nat.beq (endF T 0 fs) sz then some (.agg ss) else none
      | none => none
    | some ⟨.array n e, sz, _, _⟩ => match tget T e, shOf T fuel e with
      | some te, some sc => bif Nat.beq sz (n * te.sz) then some (.arr te.sz n sc) else none
      | _, _ => none
    | _ => none
theorem choose_list {α : Type} {n : Nat} {p : Nat → α → Prop} (h : ∀ i, i < n → ∃ x, p i x) : ∃ l : List α, l.length = n ∧ ∀ i (hi : i < l.length), p i l[i] := by
  induction n with
  | zero => exact ⟨[], rfl, fun i hi => by simp at hi⟩
  | succ n ih =>
    obtain ⟨l, hl, hp⟩ := ih (fun i hi => h i (by omega))
    obtain ⟨x, hx⟩ := h n (by omega)
    refine ⟨l ++ [x], by simp [hl], fun i hi => ?_⟩
    by_cases h1 : i < l.length
    · rw [List.getElem_append_left h1]; exact hp i h1
    · have : i = l.length := by simp at hi; omega
      subst this
      rw [List.getElem_append_right (by omega)]
      simp only [Nat.sub_self, List.getElem_cons_zero]
      rw [hl]; exact hx
section
variable {H : Type} {enc : TypeId × Value → H} {P : Program} {w : World} {T : List (Nat × TI)}
theorem TOk.cellsOf {t : Nat} {ti : TI} (h : TOk P t ti) : P.cellsOf t = ti.sz := by
  obtain ⟨i, h1, h2, _⟩ := h.inf
  unfold Program.cellsOf; rw [h1]; simpa using h2
theorem repA_mk {F : Nat → Prop} {sz : Nat} : ∀ (xs : List AV) (cs : List Value), cs.length = xs.length * sz → (∀ i (hi : i < xs.length), repC w F xs[i] ((cs.drop (i * sz)).take sz)) → repA w F sz xs cs
  | [], cs, hl, _ => by simp only [repA]; simpa using hl
  | x :: xs, cs, hl, h => by
    simp only [repA]
    rw [List.length_cons, Nat.add_mul] at hl
    refine ⟨cs.take sz, cs.drop sz, (List.take_append_drop _ _).symm, by have h0 := h 0 (Nat.succ_pos _); rw [Nat.zero_mul, List.drop_zero] at h0; exact h0, by rw [List.length_take]; omega, repA_mk xs _ (by rw [List.length_drop]; omega) (fun i hi => ?_)⟩
    have := h (i + 1) (by simp; omega)
    rw [List.getElem_cons_succ] at this
    rw [List.drop_drop, show sz + i * sz = (i + 1) * sz by rw [Nat.add_mul]; omega]
    exact this
theorem repRow_mk {F : Nat → Prop} {sz b : Nat} : ∀ (xs : List AV) (off : Nat), (∀ i (hi : i < xs.length), ∃ cs, repC w F xs[i] cs ∧ cs.length = sz ∧ w.rangeAt b (off + i * sz) cs) → repRow w F b off sz xs
  | [], _, _ => trivial
  | x :: xs, off, h => by
    simp only [repRow]
    refine ⟨by have h0 := h 0 (Nat.succ_pos _); rw [Nat.zero_mul, Nat.add_zero] at h0; exact h0, repRow_mk xs _ (fun i hi => ?_)⟩
    obtain ⟨cs, h1, h2, h3⟩ := h (i + 1) (by simp; omega)
    rw [List.getElem_cons_succ] at h1
    exact ⟨cs, h1, h2, by rw [show off + sz + i * sz = off + (i + 1) * sz by rw [Nat.add_mul]; omega]; exact h3⟩
theorem open_fields (hT : TTOk P T) {rec : Nat → Option Sh} {n : Nat} {F : Nat → Prop}
    (ih : ∀ t sh, rec t = some sh → ∀ (cs : List Value) (x : DataW H × List MemPlace), DataW.trod enc P w 0 (fun _ => true) true n t cs = some x → ∃ a, has sh a ∧ repC w F a cs) :
    ∀ (fs : List (Nat × Nat)) (off : Nat) (ss : List Sh) (cs : List Value), shFields T rec off fs = some ss → cs.length = endF T off fs →
      (∀ (i : Nat) o ft, fs[i]? = some (o, ft) → ∃ x, DataW.trod enc P w 0 (fun _ => true) true n ft ((cs.drop o).take (P.cellsOf ft)) = some x) → ∃ xs, hasL ss xs ∧ repL w F xs (cs.drop off)
  | [], off, ss, cs, h, hl, _ => by
    simp only [shFields, Option.some.injEq] at h
    subst h
    refine ⟨[], rfl, ?_⟩
    simp only [repL, endF] at hl ⊢
    exact List.drop_eq_nil_of_le (by omega)
  | (o, ft) :: r, off, ss, cs, h, hl, hx => by
    simp only [shFields] at h
    split at h
    case h_2 => cases h
    rename_i ti sc rs h1 h2 h3
    cases hb : Nat.beq o off with
    | false => rw [hb] at h; cases h
    | true =>
      rw [hb] at h
      simp only [cond_true, Option.some.injEq] at h
      subst h
      have := Nat.eq_of_beq_eq_true hb
      subst this
      rw [h1] at h3
      simp only [endF, h1] at hl
      simp only [Option.map_some, Option.getD_some] at h3 hl
      obtain ⟨x, hx0⟩ := hx 0 o ft rfl
      rw [(tget_ok hT h1).cellsOf] at hx0
      obtain ⟨a, ha, hc⟩ := ih ft sc h2 _ _ hx0
      obtain ⟨xs, hxs, hr⟩ := open_fields hT ih r (o + ti.sz) rs cs h3 hl (fun i o' ft' hi => hx (i + 1) o' ft' hi)
      refine ⟨a :: xs, ⟨a, xs, rfl, ha, hxs⟩, ?_⟩
      simp only [repL]
      refine ⟨_, _, ?_, hc, hr⟩
      rw [← List.drop_drop, List.take_append_drop]
theorem open_sh (hT : TTOk P T) : ∀ (fuel : Nat) (t : Nat) (sh : Sh), shOf T fuel t = some sh → ∀ (f : Nat) (cs : List Value) (x : DataW H × List MemPlace), DataW.trod enc P w 0 (fun _ => true) true f t cs = some x →
    ∃ a, has sh a ∧ repC w (fun b => b < w.heap.size) a cs
  | 0, t, sh, h, _, _, _, _ => by cases h
  | fuel + 1, t, sh, h, f, cs, x, hx => by
    unfold shOf at h
    cases ht : tget T t with
    | none => rw [ht] at h; cases h
    | some ti =>
      rw [ht] at h
      have hok := tget_ok hT ht
      obtain ⟨d, hd, hk⟩ := hok.desc
      obtain ⟨k, sz, by_, z⟩ := ti
      cases k <;> first | (simp only [Option.some.injEq] at h; subst h) | skip
      case bool =>
        have hd' : P.underlying t = some .bool := by rw [hd]; cases d <;> first | rfl | cases hk
        obtain ⟨c, e0, _⟩ := DataW.trod_bool hd' hx
        exact ⟨.b c, ⟨c, rfl⟩, by simpa [repC] using e0⟩
      case int k =>
        obtain ⟨c, e0, _, hw⟩ := DataW.trod_int (tk_int hok) hx
        refine ⟨.i k c, ⟨c, rfl, ?_⟩, by simpa [repC] using e0⟩
        simpa [Lit.wf] using hw
      case string =>
        obtain ⟨c, e0, _, hw⟩ := DataW.trod_string (tk_string hok) hx
        refine ⟨.s c.data.toList, ⟨_, rfl, by unfold maxLen at hw; simpa using hw⟩, ?_⟩
        simp only [repC]
        exact ⟨by rw [bytesOf_data]; exact e0, by simpa using hw⟩
      case slice e =>
        simp only at h
        split at h
        case h_2 => cases h
        rename_i te sc h1 h2
        cases hp : Nat.blt 0 te.sz with
        | false => rw [hp] at h; cases h
        | true =>
          rw [hp] at h
          simp only [cond_true, Option.some.injEq] at h
          subst h
          have hpos : 0 < te.sz := Nat.le_of_ble_eq_true hp
          have hc := (tget_ok hT h1).cellsOf
          rcases open_slice (tk_slice hok) hx with ⟨h0, _⟩ | ⟨a, len, cap, m, n, D, Pl, hcs, hb, hl, hm, hmm, hx', hi⟩
          · refine ⟨.sl te.sz [], ⟨[], rfl, by simp, by simp⟩, ?_⟩
            simp only [repC]
            exact ⟨none, 0, h0, Nat.le_refl _, Nat.zero_le _, fun h => absurd rfl h⟩
          · have hmc : m = cap := by rw [hmm, if_pos rfl]
            obtain ⟨ys, hyl, hyp⟩ := choose_list (n := len) (p := fun i y => ∃ cs', w.cells? 0 (a.add (i * te.sz)) te.sz = some cs' ∧ has sc y ∧ repC w (fun b => b < w.heap.size) y cs') (fun i hi' => by
              obtain ⟨cs', hc', ht'⟩ := hi i (by omega)
              rw [hc] at hc'
              obtain ⟨y, h3, h4⟩ := open_sh hT fuel e sc h2 n cs' _ ht'
              exact ⟨y, cs', hc', h3, h4⟩)
            have hspot : len ≠ 0 → a.spot = none ∧ a.block < w.heap.size := by
              intro hne
              obtain ⟨cs', hc', _⟩ := hyp 0 (by omega)
              obtain ⟨_, h3, h4⟩ := World.cells?_some hc'
              have h5 := h4 0 hpos
              rw [List.getElem?_eq_getElem (by omega)] at h5
              exact ⟨by simpa [Addr.add] using World.cell?_spot h5, by simpa [Addr.add] using World.block_lt_of_cell? w _ h5⟩
            refine ⟨.sl te.sz ys, ⟨ys, rfl, by unfold maxLen at hm; omega, fun y hy => ?_⟩, ?_⟩
            · obtain ⟨i, hi', rfl⟩ := List.mem_iff_getElem.1 hy
              obtain ⟨_, _, h3, _⟩ := hyp i hi'
              exact h3
            · simp only [repC]
              refine ⟨some a, cap, by rw [hcs, hyl], by omega, hm, fun hne => ?_⟩
              have hne' : len ≠ 0 := by rw [← hyl]; simpa using hne
              obtain ⟨hs1, hs2⟩ := hspot hne'
              obtain ⟨b, off, sp⟩ := a
              simp only at hs1 hs2
              subst hs1
              refine ⟨b, off, rfl, hs2, repRow_mk _ _ (fun i hi' => ?_)⟩
              obtain ⟨cs', hc', _, h4⟩ := hyp i hi'
              obtain ⟨_, h5, h6⟩ := World.cells?_some hc'
              refine ⟨cs', h4, h5, fun j u hu => ?_⟩
              have hj : j < te.sz := by rw [← h5]; exact (List.getElem?_eq_some_iff.1 hu).1
              have := h6 j hj
              rw [Addr.add_mid, Addr.add_mid] at this
              rw [this]; exact hu
      case struct fs =>
        simp only at h
        split at h
        case h_2 => cases h
        rename_i ss h1
        cases hp : Nat.beq (endF T 0 fs) sz with
        | false => rw [hp] at h; cases h
        | true =>
          rw [hp] at h
          simp only [cond_true, Option.some.injEq] at h
          subst h
          have hsz := Nat.eq_of_beq_eq_true hp
          obtain ⟨fs0, hd', hfs⟩ : ∃ fs0, P.underlying t = some (.struct fs0) ∧ fs = fs0.toList.map fun f => (f.offset, f.type) := by
            cases d <;> first | cases hk | skip
            exact ⟨_, hd, rfl⟩
          obtain ⟨xs, n, _, _, hcl, hxl, hf⟩ := DataW.trod_struct hd' hx
          rw [hok.cellsOf] at hcl
          obtain ⟨ys, hys, hr⟩ := open_fields (enc := enc) (w := w) hT (n := n) (F := fun b => b < w.heap.size) (fun t sh h cs x hx => open_sh hT fuel t sh h n cs x hx) fs 0 ss cs h1 (by rw [hcl]; exact hsz.symm) (fun i o ft hi => by
            subst hfs
            rw [List.getElem?_map] at hi
            cases hg : fs0.toList[i]? with
            | none => rw [hg] at hi; cases hi
            | some fd =>
              rw [hg] at hi
              simp only [Option.map_some, Option.some.injEq, Prod.mk.injEq] at hi
              obtain ⟨rfl, rfl⟩ := hi
              rw [Array.getElem?_toList] at hg
              have h3 := hf i fd hg
              have h4 : i < xs.length := by rw [hxl]; exact (Array.getElem?_eq_some_iff.1 hg).1
              rw [List.getElem?_eq_getElem h4] at h3
              exact ⟨_, h3⟩)
          refine ⟨.agg ys, ⟨ys, rfl, hys⟩, ?_⟩
          simp only [repC]
          exact hr
      case array n e =>
        simp only at h
        split at h
        case h_2 => cases h
        rename_i te sc h1 h2
        cases hp : Nat.beq sz (n * te.sz) with
        | false => rw [hp] at h; cases h
        | true =>
          rw [hp] at h
          simp only [cond_true, Option.some.injEq] at h
          subst h
          have hsz := Nat.eq_of_beq_eq_true hp
          have hc := (tget_ok hT h1).cellsOf
          obtain ⟨xs, m, _, _, hcl, hxl, hf⟩ := DataW.trod_array (tk_array hok) hx
          rw [hok.cellsOf] at hcl
          rw [hc] at hf
          obtain ⟨ys, hyl, hyp⟩ := choose_list (n := n) (p := fun i y => has sc y ∧ repC w (fun b => b < w.heap.size) y ((cs.drop (i * te.sz)).take te.sz)) (fun i hi' => by
            have h3 := hf i hi'
            rw [List.getElem?_eq_getElem (by omega)] at h3
            exact open_sh hT fuel e sc h2 m _ _ h3)
          refine ⟨.arr te.sz n ys, ⟨ys, rfl, hyl, fun y hy => ?_⟩, ?_⟩
          · obtain ⟨i, hi', rfl⟩ := List.mem_iff_getElem.1 hy
            exact (hyp i hi').1
          · simp only [repC]
            exact ⟨hyl, repA_mk _ _ (by rw [hyl, hcl]; exact hsz) (fun i hi' => (hyp i hi').2)⟩
      all_goals cases h
theorem open_val (hT : TTOk P T) (fuel : Nat) {t : Nat} {sh : Sh} (hs : shOf T fuel t = some sh) {base : Nat} {v : Value} {d : DataW H} {p : List MemPlace} (hv : Value.okWide P w .any base t v) (h : DataW.Trod enc P w 0 (fun _ => true) true t v d p) :
    ∃ a, has sh a ∧ repV w (fun b => b < w.heap.size) a v := by
  obtain ⟨f, hf⟩ := h
  obtain ⟨a, ha, hc⟩ := open_sh hT fuel t sh hs f _ _ hf
  refine ⟨a, ha, ?_⟩
  have key : v = ofCells a v.cells.toList := by
    cases fuel with
    | zero => cases hs
    | succ fuel =>
      unfold shOf at hs
      cases ht : tget T t with
      | none => rw [ht] at hs; cases hs
      | some ti =>
        rw [ht] at hs
        have hok := tget_ok hT ht
        obtain ⟨dd, hd, hk⟩ := hok.desc
        obtain ⟨k, sz, by_, z⟩ := ti
        cases k <;> first | (simp only [Option.some.injEq] at hs; subst hs) | skip
        case bool =>
          have hd' : P.underlying t = some .bool := by rw [hd]; cases dd <;> first | rfl | cases hk
          obtain ⟨c, rfl⟩ := okWide_bool hd' hv
          obtain ⟨x, rfl⟩ := ha; rfl
        case int k =>
          obtain ⟨k', c, rfl⟩ := okWide_int (tk_int hok) hv
          obtain ⟨x, rfl, _⟩ := ha; rfl
        case string =>
          obtain ⟨c, rfl⟩ := okWide_string (tk_string hok) hv
          obtain ⟨x, rfl, _⟩ := ha; rfl
        case slice e =>
          obtain ⟨c, _, _, rfl⟩ := okWide_slice (tk_slice hok) hv
          simp only at hs
          split at hs
          case h_2 => cases hs
          rename_i te sc h1 h2
          cases hp : Nat.blt 0 te.sz with
          | false => rw [hp] at hs; cases hs
          | true =>
            rw [hp] at hs
            simp only [cond_true, Option.some.injEq] at hs
            subst hs
            obtain ⟨x, rfl, _⟩ := ha; rfl
        case struct fs =>
          obtain ⟨fs0, hd'⟩ : ∃ fs0, P.underlying t = some (.struct fs0) := by
            cases dd <;> first | cases hk | skip
            exact ⟨_, hd⟩
          obtain ⟨cs, rfl, _⟩ := okWide_struct hd' hv
          simp only at hs
          split at hs
          case h_2 => cases hs
          cases hp : Nat.beq (endF T 0 fs) sz with
          | false => rw [hp] at hs; cases hs
          | true =>
            rw [hp] at hs
            simp only [cond_true, Option.some.injEq] at hs
            subst hs
            obtain ⟨x, rfl, _⟩ := ha; rfl
        case array n e =>
          have hcs : ∃ cs, v = .agg cs := by
            have h := hv
            simp only [Value.okWide, tk_array hok] at h
            obtain ⟨cs, h1, _⟩ := h
            exact ⟨cs, h1⟩
          obtain ⟨cs, rfl⟩ := hcs
          simp only at hs
          split at hs
          case h_2 => cases hs
          rename_i te sc h1 h2
          cases hp : Nat.beq sz (n * te.sz) with
          | false => rw [hp] at hs; cases hs
          | true =>
            rw [hp] at hs
            simp only [cond_true, Option.some.injEq] at hs
            subst hs
            obtain ⟨x, rfl, _⟩ := ha; rfl
        all_goals cases hs
  rw [key]
  exact repV_mk hc
/-- A law that is proved true by rules returns true, and leaves all that was there as it was. -/
theorem law_run {f : FuncId} {args : List AV} (h : Spec P f args [] (fun v os => v = .b true ∧ os = [])) {vals : List Value} (hr : repVs w (fun b => b < w.heap.size) args vals) :
    Calls P f vals.toArray w fun e w' => e = .returned (.bool true) ∧ Below w.heap.size w w' := by
  refine (h.run w vals (fun b => b < w.heap.size) (fun b hb => ⟨hb, by simp [oblks]⟩) ⟨fun o ho => (by cases ho), List.nodup_nil, fun b hb => (by cases hb)⟩ hr).mono ?_
  rintro e w' ⟨v, r, os', rfl, ⟨rfl, rfl⟩, hm, _, _, hv⟩
  obtain ⟨cs, hc, rfl⟩ := hv
  simp only [repC] at hc
  subst hc
  exact ⟨rfl, hm.to_below (fun k _ hk => by simp [oblks] at hk) (Nat.le_refl _)⟩
theorem repVs_nil {F : Nat → Prop} : repVs w F [] [] := ⟨rfl, fun i x v h => by simp at h⟩
theorem repVs_cons {F : Nat → Prop} {a : AV} {v : Value} {as : List AV} {vs : List Value} (h : repV w F a v) (hs : repVs w F as vs) : repVs w F (a :: as) (v :: vs) :=
  ⟨by simp [hs.1], fun i x u hx hu => by
    cases i with
    | zero =>
      simp only [List.getElem?_cons_zero, Option.some.injEq] at hx hu
      subst hx; subst hu; exact h
    | succ i => exact hs.2 i x u (by simpa using hx) (by simpa using hu)⟩
end
/-! What a shape says, in the words of a law. -/
theorem has_list {α : Type} {f : α → AV} {Q : α → Prop} {e : Sh} (he : ∀ x, has e x → ∃ t, x = f t ∧ Q t) : ∀ {xs : List AV}, (∀ x ∈ xs, has e x) → ∃ l : List α, xs = l.map f ∧ ∀ t ∈ l, Q t
  | [], _ => ⟨[], rfl, by simp⟩
  | x :: xs, h => by
    obtain ⟨t, rfl, hq⟩ := he x (h x (by simp))
    obtain ⟨l, rfl, hl⟩ := has_list he (xs := xs) (fun y hy => h y (by simp [hy]))
    exact ⟨t :: l, rfl, fun y hy => by
      rcases List.mem_cons.1 hy with rfl | hy
      · exact hq
      · exact hl y hy⟩
theorem has_slice {α : Type} {f : α → AV} {Q : α → Prop} {sz : Nat} {e : Sh} (he : ∀ x, has e x → ∃ t, x = f t ∧ Q t) {a : AV} (h : has (.sl sz e) a) : ∃ l : List α, a = .sl sz (l.map f) ∧ l.length ≤ 9223372036854775807 ∧ ∀ t ∈ l, Q t := by
  obtain ⟨xs, rfl, h1, h2⟩ := h
  obtain ⟨l, rfl, hl⟩ := has_list he h2
  exact ⟨l, rfl, by simpa using h1, hl⟩
theorem has_int {a : AV} (h : has (.i .i64) a) : ∃ n : Int, a = .i .i64 n ∧ -9223372036854775808 ≤ n ∧ n ≤ 9223372036854775807 := by
  obtain ⟨n, rfl, h1, h2⟩ := h
  exact ⟨n, rfl, by simpa [IntKind.min, IntKind.signed, IntKind.bits] using h1, by simpa [IntKind.max, IntKind.signed, IntKind.bits] using h2⟩
theorem has_str {a : AV} (h : has .s a) : ∃ x : List UInt8, a = .s x ∧ x.length ≤ 9223372036854775807 := h
theorem has_byte {a : AV} (h : has (.i .u8) a) : ∃ c : UInt8, a = .i .u8 (c.toNat : Int) ∧ True := by
  obtain ⟨n, rfl, h1, h2⟩ := h
  simp [IntKind.min, IntKind.max, IntKind.signed, IntKind.bits] at h1 h2
  refine ⟨UInt8.ofNat n.toNat, ?_, trivial⟩
  rw [UInt8.toNat_ofNat', show ((n.toNat % 2 ^ 8 : Nat) : Int) = n by omega]
theorem has_bytes {sz k : Nat} {a : AV} (h : has (.arr sz k (.i .u8)) a) : ∃ l : List UInt8, a = .arr sz k (l.map fun c => .i .u8 (c.toNat : Int)) ∧ l.length = k := by
  obtain ⟨xs, rfl, h1, h2⟩ := h
  obtain ⟨l, rfl, _⟩ := has_list (f := fun c : UInt8 => AV.i .u8 (c.toNat : Int)) (fun x hx => has_byte hx) h2
  exact ⟨l, rfl, by simpa using h1⟩
end Go.Proofs.Ytnmnhnlebkebfaa
namespace Go.Proofs.Ytnmnhnlebkebfaa
open Go Go.RowKit
/-- A weak order. -/
structure WO {α : Type} (lt : α → α → Bool) : Prop where
  irr : ∀ x, lt x x = false
  asym : ∀ x y, lt x y = true → lt y x = false
  trans : ∀ x y z, lt x y = true → lt y z = true → lt x z = true
  neg : ∀ x y z, lt x y = false → lt y z = false → lt x z = false
section
variable {α : Type} {lt : α → α → Bool}
def eqv (lt : α → α → Bool) (x y : α) : Bool := !(lt x y) && !(lt y x)
/-- Equals keep their order. -/
def CE (lt : α → α → Bool) (l l' : List α) : Prop := ∀ z, l.filter (eqv lt z) = l'.filter (eqv lt z)
def Srt (lt : α → α → Bool) (l : List α) : Prop := l.Pairwise (fun x y => lt y x = false)
theorem CE.refl (l : List α) : CE lt l l := fun _ => rfl
theorem CE.symm {l l' : List α} (h : CE lt l l') : CE lt l' l := fun z => (h z).symm
theorem CE.trans {a b c : List α} (h : CE lt a b) (k : CE lt b c) : CE lt a c := fun z => (h z).trans (k z)
theorem CE.app {a b c d : List α} (h : CE lt a b) (k : CE lt c d) : CE lt (a ++ c) (b ++ d) := fun z => by rw [List.filter_append, List.filter_append, h z, k z]
theorem CE.mid {a b : List α} (p s : List α) (h : CE lt a b) : CE lt (p ++ a ++ s) (p ++ b ++ s) := ((CE.refl p).app h).app (CE.refl s)
theorem eqv_self (W : WO lt) (x : α) : eqv lt x x = true := by unfold eqv; rw [W.irr]; rfl
theorem CE.mem (W : WO lt) {a b : List α} (h : CE lt a b) {x : α} (hx : x ∈ a) : x ∈ b := by
  have : x ∈ a.filter (eqv lt x) := List.mem_filter.2 ⟨hx, eqv_self W x⟩
  rw [h x] at this
  exact (List.mem_filter.1 this).1
theorem CE.swap (W : WO lt) (u v : List α) (h : ∀ x ∈ u, ∀ y ∈ v, lt y x = true) : CE lt (u ++ v) (v ++ u) := by
  intro z
  rw [List.filter_append, List.filter_append]
  by_cases hu : u.filter (eqv lt z) = []
  · rw [hu, List.nil_append, List.append_nil]
  · have hv : v.filter (eqv lt z) = [] := by
      rw [List.filter_eq_nil_iff]
      intro y hy hzy
      obtain ⟨x, hx⟩ := List.exists_mem_of_ne_nil _ hu
      obtain ⟨hx1, hzx⟩ := List.mem_filter.1 hx
      have hyx := h x hx1 y hy
      simp only [eqv, Bool.and_eq_true, Bool.not_eq_true'] at hzx hzy
      rw [W.neg y z x hzy.2 hzx.1] at hyx; cases hyx
    rw [hv, List.nil_append, List.append_nil]
theorem Srt.app {a b : List α} (h1 : Srt lt a) (h2 : Srt lt b) (h : ∀ x ∈ a, ∀ y ∈ b, lt y x = false) : Srt lt (a ++ b) := List.pairwise_append.2 ⟨h1, h2, h⟩
/-- What is sorted and has the equals in their order is one list. -/
theorem srt_one (W : WO lt) : ∀ (a b : List α), Srt lt a → Srt lt b → CE lt a b → a = b
  | [], [], _, _, _ => rfl
  | [], y :: b, _, _, h => by have := (CE.mem W h.symm (x := y) (by simp)); cases this
  | x :: a, [], _, _, h => by have := (CE.mem W h (x := x) (by simp)); cases this
  | x :: a, y :: b, ha, hb, h => by
    have hxm := CE.mem W h (x := x) (by simp)
    have hym := CE.mem W h.symm (x := y) (by simp)
    have h1 : lt x y = false := by
      rcases List.mem_cons.1 hxm with rfl | hm
      · exact W.irr _
      · exact (List.pairwise_cons.1 hb).1 x hm
    have h2 : lt y x = false := by
      rcases List.mem_cons.1 hym with rfl | hm
      · exact W.irr _
      · exact (List.pairwise_cons.1 ha).1 y hm
    have e1 : eqv lt x y = true := by unfold eqv; rw [h1, h2]; rfl
    have hx := h x
    rw [List.filter_cons, List.filter_cons, if_pos (eqv_self W x), if_pos e1] at hx
    have hxy : x = y := (List.cons.inj hx).1
    subst hxy
    have ht : CE lt a b := fun z => by
      have hz := h z
      rw [List.filter_cons, List.filter_cons] at hz
      by_cases hc : eqv lt z x = true
      · rw [if_pos hc, if_pos hc] at hz; exact (List.cons.inj hz).2
      · rw [if_neg hc, if_neg hc] at hz; exact hz
    rw [srt_one W a b (List.pairwise_cons.1 ha).2 (List.pairwise_cons.1 hb).2 ht]
/-- Put behind its equals. -/
def insS (lt : α → α → Bool) (x : α) : List α → List α
  | [] => [x]
  | y :: r => if lt x y = true then x :: y :: r else y :: insS lt x r
def sortS (lt : α → α → Bool) (l : List α) : List α := l.foldl (fun a x => insS lt x a) []
theorem insS_mem {x z : α} : ∀ {l : List α}, z ∈ insS lt x l → z = x ∨ z ∈ l
  | [], h => .inl (List.mem_singleton.1 h)
  | y :: r, h => by
    unfold insS at h
    split at h
    · rcases List.mem_cons.1 h with rfl | h
      · exact .inl rfl
      · exact .inr h
    · rcases List.mem_cons.1 h with rfl | h
      · exact .inr (by simp)
      · rcases insS_mem h with h | h
        · exact .inl h
        · exact .inr (List.mem_cons_of_mem _ h)
theorem insS_srt (W : WO lt) (x : α) : ∀ (l : List α), Srt lt l → Srt lt (insS lt x l)
  | [], _ => List.pairwise_singleton _ _
  | y :: r, h => by
    obtain ⟨h1, h2⟩ := List.pairwise_cons.1 h
    unfold insS
    split
    · rename_i hc
      refine List.pairwise_cons.2 ⟨fun z hz => ?_, h⟩
      rcases List.mem_cons.1 hz with rfl | hz
      · exact W.asym _ _ hc
      · cases hzx : lt z x with
        | false => rfl
        | true => exact absurd (h1 z hz) (by rw [W.trans z x y hzx hc]; decide)
    · rename_i hc
      refine List.pairwise_cons.2 ⟨fun z hz => ?_, insS_srt W x r h2⟩
      rcases insS_mem hz with rfl | hz
      · simpa using hc
      · exact h1 z hz
theorem insS_ce (W : WO lt) (x : α) : ∀ (l : List α), Srt lt l → CE lt (l ++ [x]) (insS lt x l)
  | [], _ => CE.refl _
  | y :: r, h => by
    obtain ⟨h1, h2⟩ := List.pairwise_cons.1 h
    unfold insS
    split
    · rename_i hc
      refine CE.swap W (y :: r) [x] (fun z hz q hq => ?_)
      rw [List.mem_singleton.1 hq]
      rcases List.mem_cons.1 hz with rfl | hz
      · exact hc
      · cases hxz : lt x z with
        | true => rfl
        | false => rw [W.neg x z y hxz (h1 z hz)] at hc; cases hc
    · exact (CE.refl [y]).app (insS_ce W x r h2)
theorem sortS_go (W : WO lt) : ∀ (l a : List α), Srt lt a → Srt lt (l.foldl (fun a x => insS lt x a) a) ∧ CE lt (a ++ l) (l.foldl (fun a x => insS lt x a) a)
  | [], a, h => ⟨h, by rw [List.append_nil]; exact CE.refl a⟩
  | x :: l, a, h => by
    obtain ⟨i1, i2⟩ := sortS_go W l (insS lt x a) (insS_srt W x a h)
    refine ⟨i1, CE.trans ?_ i2⟩
    have := (insS_ce W x a h).app (CE.refl (lt := lt) l)
    rw [List.append_assoc] at this
    exact this
theorem sortS_srt (W : WO lt) (l : List α) : Srt lt (sortS lt l) := (sortS_go W l [] List.Pairwise.nil).1
theorem sortS_ce (W : WO lt) (l : List α) : CE lt l (sortS lt l) := (sortS_go W l [] List.Pairwise.nil).2
theorem sortS_of (W : WO lt) {l a : List α} (h1 : Srt lt a) (h2 : CE lt l a) : a = sortS lt l := srt_one W _ _ h1 (sortS_srt W l) (h2.symm.trans (sortS_ce W l))
/-! Cuts of sorted lists. -/
theorem srt_low (W : WO lt) {u : List α} {k : Nat} (h : Srt lt u) (hk : k < u.length) {x : α} (hx : lt u[k] x = true) : ∀ y ∈ u.take (k + 1), lt y x = true := by
  intro y hy
  obtain ⟨i, hi, rfl⟩ := List.getElem_of_mem hy
  rw [List.getElem_take]
  rw [List.length_take] at hi
  rcases Nat.lt_or_ge i k with h1 | h1
  · have := List.pairwise_iff_getElem.1 h i k (by omega) hk h1
    cases hyx : lt u[i] x with
    | true => rfl
    | false => rw [W.neg u[k] u[i] x this hyx] at hx; cases hx
  · have : i = k := by omega
    subst this; exact hx
theorem srt_high (W : WO lt) {u : List α} {k : Nat} (h : Srt lt u) (hk : k < u.length) {x : α} (hx : lt u[k] x = false) : ∀ y ∈ u.drop k, lt y x = false := by
  intro y hy
  obtain ⟨i, hi, rfl⟩ := List.getElem_of_mem hy
  rw [List.getElem_drop]
  rw [List.length_drop] at hi
  rcases Nat.eq_zero_or_pos i with h1 | h1
  · subst h1; exact hx
  · have := List.pairwise_iff_getElem.1 h k (k + i) hk (by omega) (by omega)
    exact W.neg _ _ _ this hx
theorem srt_low' (W : WO lt) {u : List α} {k : Nat} (h : Srt lt u) (hk : k < u.length) {x : α} (hx : lt x u[k] = false) : ∀ y ∈ u.take (k + 1), lt x y = false := by
  intro y hy
  obtain ⟨i, hi, rfl⟩ := List.getElem_of_mem hy
  rw [List.getElem_take]
  rw [List.length_take] at hi
  rcases Nat.lt_or_ge i k with h1 | h1
  · have := List.pairwise_iff_getElem.1 h i k (by omega) hk h1
    exact W.neg _ _ _ hx this
  · have : i = k := by omega
    subst this; exact hx
theorem srt_high' (W : WO lt) {u : List α} {k : Nat} (h : Srt lt u) (hk : k < u.length) {x : α} (hx : lt x u[k] = true) : ∀ y ∈ u.drop k, lt x y = true := by
  intro y hy
  obtain ⟨i, hi, rfl⟩ := List.getElem_of_mem hy
  rw [List.getElem_drop]
  rw [List.length_drop] at hi
  rcases Nat.eq_zero_or_pos i with h1 | h1
  · subst h1; exact hx
  · have := List.pairwise_iff_getElem.1 h k (k + i) hk (by omega) (by omega)
    cases hxy : lt x u[k + i] with
    | true => rfl
    | false => rw [W.neg x _ _ hxy this] at hx; cases hx
theorem Srt.take {l : List α} (h : Srt lt l) (n : Nat) : Srt lt (l.take n) := List.Pairwise.sublist (List.take_sublist n l) h
theorem Srt.drop {l : List α} (h : Srt lt l) (n : Nat) : Srt lt (l.drop n) := List.Pairwise.sublist (List.drop_sublist n l) h
/-- One element and a sorted row. -/
theorem merge_one_l (W : WO lt) {x : α} {v : List α} {k : Nat} (h : Srt lt v) (hk : k ≤ v.length) (h1 : k = 0 ∨ ∃ (h : k - 1 < v.length), lt v[k - 1] x = true) (h2 : k = v.length ∨ ∃ (h : k < v.length), lt v[k] x = false) :
    Srt lt (v.take k ++ [x] ++ v.drop k) ∧ CE lt ([x] ++ v) (v.take k ++ [x] ++ v.drop k) := by
  have hlow : ∀ y ∈ v.take k, lt y x = true := by
    rcases h1 with rfl | ⟨hb, hl⟩
    · intro y hy; cases hy
    · rcases Nat.eq_zero_or_pos k with h0 | h0
      · subst h0; intro y hy; cases hy
      · have := srt_low W h hb hl
        rwa [show k - 1 + 1 = k by omega] at this
  have hhigh : ∀ y ∈ v.drop k, lt y x = false := by
    rcases h2 with rfl | ⟨hb, hl⟩
    · intro y hy; rw [List.drop_length] at hy; cases hy
    · exact srt_high W h hb hl
  refine ⟨Srt.app (Srt.app (h.take k) (List.pairwise_singleton _ _) (fun y hy z hz => ?_)) (h.drop k) (fun y hy z hz => ?_), ?_⟩
  · rw [List.mem_singleton.1 hz]; exact W.asym _ _ (hlow y hy)
  · rcases List.mem_append.1 hy with hy | hy
    · have hp := h
      rw [← List.take_append_drop k v] at hp
      exact (List.pairwise_append.1 hp).2.2 y hy z hz
    · rw [List.mem_singleton.1 hy]; exact hhigh z hz
  · have := (CE.swap W [x] (v.take k) (fun a ha b hb => by rw [List.mem_singleton.1 ha]; exact hlow b hb)).app (CE.refl (lt := lt) (v.drop k))
    rw [List.append_assoc, List.take_append_drop] at this
    exact this
theorem merge_one_r (W : WO lt) {x : α} {u : List α} {k : Nat} (h : Srt lt u) (hk : k ≤ u.length) (h1 : k = 0 ∨ ∃ (h : k - 1 < u.length), lt x u[k - 1] = false) (h2 : k = u.length ∨ ∃ (h : k < u.length), lt x u[k] = true) :
    Srt lt (u.take k ++ [x] ++ u.drop k) ∧ CE lt (u ++ [x]) (u.take k ++ [x] ++ u.drop k) := by
  have hlow : ∀ y ∈ u.take k, lt x y = false := by
    rcases h1 with rfl | ⟨hb, hl⟩
    · intro y hy; cases hy
    · rcases Nat.eq_zero_or_pos k with h0 | h0
      · subst h0; intro y hy; cases hy
      · have := srt_low' W h hb hl
        rwa [show k - 1 + 1 = k by omega] at this
  have hhigh : ∀ y ∈ u.drop k, lt x y = true := by
    rcases h2 with rfl | ⟨hb, hl⟩
    · intro y hy; rw [List.drop_length] at hy; cases hy
    · exact srt_high' W h hb hl
  refine ⟨Srt.app (Srt.app (h.take k) (List.pairwise_singleton _ _) (fun y hy z hz => ?_)) (h.drop k) (fun y hy z hz => ?_), ?_⟩
  · rw [List.mem_singleton.1 hz]; exact hlow y hy
  · rcases List.mem_append.1 hy with hy | hy
    · have hp := h
      rw [← List.take_append_drop k u] at hp
      exact (List.pairwise_append.1 hp).2.2 y hy z hz
    · rw [List.mem_singleton.1 hy]; exact W.asym _ _ (hhigh z hz)
  · have := (CE.refl (lt := lt) (u.take k)).app (CE.swap W (u.drop k) [x] (fun a ha b hb => by rw [List.mem_singleton.1 hb]; exact hhigh a ha))
    rw [← List.append_assoc, List.take_append_drop, ← List.append_assoc] at this
    exact this
/-- Two halves, merged each by itself. -/
theorem merge_halves (W : WO lt) {u1 u2 v1 v2 w1 w2 : List α} (hu : Srt lt (u1 ++ u2)) (hv : Srt lt (v1 ++ v2)) (h1 : ∀ x ∈ u2, ∀ y ∈ v1, lt y x = true) (h2 : ∀ x ∈ u1, ∀ y ∈ v2, lt y x = false)
    (s1 : Srt lt w1) (c1 : CE lt (u1 ++ v1) w1) (s2 : Srt lt w2) (c2 : CE lt (u2 ++ v2) w2) : Srt lt (w1 ++ w2) ∧ CE lt ((u1 ++ u2) ++ (v1 ++ v2)) (w1 ++ w2) := by
  have hu3 := (List.pairwise_append.1 hu).2.2
  have hv3 := (List.pairwise_append.1 hv).2.2
  refine ⟨Srt.app s1 s2 (fun x hx y hy => ?_), ?_⟩
  · have hx := CE.mem W c1.symm hx
    have hy := CE.mem W c2.symm hy
    rcases List.mem_append.1 hx with hx | hx <;> rcases List.mem_append.1 hy with hy | hy
    · exact hu3 x hx y hy
    · exact h2 x hx y hy
    · exact W.asym _ _ (h1 y hy x hx)
    · exact hv3 x hx y hy
  · have a := CE.mid (lt := lt) u1 v2 (CE.swap W u2 v1 (fun x hx y hy => h1 x hx y hy))
    have b := c1.app c2
    refine CE.trans ?_ (CE.trans a ?_)
    · rw [show (u1 ++ u2) ++ (v1 ++ v2) = u1 ++ (u2 ++ v1) ++ v2 by simp only [List.append_assoc]]; exact CE.refl _
    · rw [show u1 ++ (v1 ++ u2) ++ v2 = (u1 ++ v1) ++ (u2 ++ v2) by simp only [List.append_assoc]]; exact b
end
theorem set_mid {α : Type} (p : List α) (x y : α) (s : List α) : (p ++ x :: s).set p.length y = p ++ y :: s := by
  rw [List.set_append_right _ _ (Nat.le_refl _), Nat.sub_self, List.set_cons_zero]
theorem get_mid {α : Type} (p : List α) (x : α) (s : List α) : (p ++ x :: s)[p.length]? = some x := by
  rw [List.getElem?_append_right (Nat.le_refl _), Nat.sub_self]; rfl
end Go.Proofs.Ytnmnhnlebkebfaa
