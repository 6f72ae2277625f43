/- The evaluation of V3 is right. No program in sight. -/
import Derived.Test.YtfdcopbbnmialaaV3
import Derived.Laws.Small
namespace Go.Proofs.Ytfdcopbbnmialaa
open Go Go.RowKit

section
variable {P : Program} {T : List (Nat × TI)} {w : World}
theorem TOk.sizeRun {t : Nat} {ti : TI} (h : TOk P t ti) (w : World) : (sizeOf t).run P w = .ok ti.sz w := by
  obtain ⟨i, hi, h1, _⟩ := h.inf
  simp [sizeOf, typeInfo, hi, h1]
theorem TOk.aggRun {t : Nat} {ti : TI} (h : TOk P t ti) (w : World) : (isAgg t).run P w = .ok ti.k.isAgg w := by
  obtain ⟨d, hd, hk⟩ := h.desc
  unfold isAgg
  rw [Sem.run_bind, run_underlying hd w, ← hk]
  cases d <;> simp [kOf, TK.isAgg]
theorem isRow_isAgg {d : TypeDesc} : d.isRow = (kOf d).isAgg := by cases d <;> rfl
theorem flat_one {w : World} {F : Nat → Prop} {y : AV} {cs : List Value} (h : repC w F y cs) (hy : y.isAgg = false) : ∃ u, cs = [u] := by
  have := repC_size y cs h
  cases y <;> simp [AV.isAgg] at hy <;> simp only [sizeA] at this <;> first
    | exact List.length_eq_one_iff.1 this
    | simp only [repC] at h
/-- A load of what lies at an address. -/
theorem load_run {t : Nat} {ti : TI} (h : TOk P t ti) {F : Nat → Prop} {y : AV} (hf : fits ti y) {b o : Nat} {vs : List Value} (hr : repC w F y vs) (w' : World) (hv : w'.rangeAt b o vs) :
    (Instr.loadAt t (.pointer (some ⟨b, o, none⟩))).run P w' = .ok (ofCells y vs) w' := by
  have hsz := repC_size y vs hr
  cases hy : y.isAgg with
  | true =>
    obtain ⟨d, hd, hk⟩ := h.desc
    obtain ⟨i, hi, h1, _⟩ := h.inf
    rw [run_loadAt_mid w' b o t vs d hv hd (by rw [isRow_isAgg, hk, hf.2, hy]) (by rw [hi]; simp [h1, hf.1, hsz])]
    simp [ofCells, hy]
  | false =>
    obtain ⟨u, rfl⟩ := flat_one hr hy
    have hc : w'.cell? ⟨b, o, none⟩ = some u := by have := hv 0 u rfl; simpa using this
    simp only [Instr.loadAt, Instr.sureAddr, Sem.run_bind, Sem.run_pure, Result.andThen_ok]
    unfold loadVar
    rw [Sem.run_bind, h.aggRun, hf.2, hy]
    simp [load, Sem.run, hc, ofCells, hy]
theorem part_run {t : Nat} {ti : TI} (h : TOk P t ti) {F : Nat → Prop} {y : AV} (hf : fits ti y) {pre vs post : List Value} (hr : repC w F y vs) (w' : World) :
    (part t (pre ++ vs ++ post).toArray pre.length).run P w' = .ok (ofCells y vs) w' := by
  have hsz := repC_size y vs hr
  unfold part
  rw [Sem.run_bind, h.aggRun, hf.2]
  cases hy : y.isAgg with
  | true =>
    simp only [Result.andThen_ok, if_true, Sem.run_bind, h.sizeRun, Sem.run_pure, ofCells, hy]
    congr 2
    apply Array.ext'
    rw [Array.toList_extract, hf.1, ← hsz]
    simp
  | false =>
    obtain ⟨u, rfl⟩ := flat_one hr hy
    simp [ofCells, hy]
end

section
variable {P : Program} {T : List (Nat × TI)} {C : Ctx} {H : List (Nat × HO)} {w : World} {F : Nat → Prop}
theorem binOp_int_run (op : BinOp) (t : Nat) (k : IntKind) (a b : Int) (r : CV) (h : cvInt op k a b = some r) (hn : r.need) (x y : Operand) :
    ∃ u, repV w F r.val u ∧ r.gain ∧ r.rd = none ∧ ∀ w', ((do eqGuard op t x y (.int k a) (.int k b); binOp op t (.int k a) (.int k b) : Sem Value)).run P w' = .ok u w' := by
  cases op <;> simp only [cvInt, CV.pure, Option.some.injEq, reduceCtorEq] at h <;> subst h <;> simp only at hn ⊢ <;> first
    | (refine ⟨_, repV_b.2 rfl, trivial, trivial, fun w' => ?_⟩; simp [eqGuard, binOp, Op.intCmp]; done)
    | (refine ⟨_, repV_i.2 rfl, trivial, trivial, fun w' => ?_⟩; simp [eqGuard, binOp, Op.intArith]; done)
    | (refine ⟨_, repV_i.2 rfl, trivial, trivial, fun w' => ?_⟩; simp [eqGuard, binOp, Op.intDiv, hn]; done)
    | (refine ⟨_, repV_i.2 rfl, trivial, trivial, fun w' => ?_⟩; simp [eqGuard, binOp, Op.intBits, bitsI]; done)
theorem binOp_str_run (op : BinOp) (t : Nat) (a b : List UInt8) (r : CV) (h : cvStr op a b = some r) (hn : r.need) (x y : Operand) :
    ∃ u, repV w F r.val u ∧ r.gain ∧ r.rd = none ∧ ∀ w', ((do eqGuard op t x y (.string (bytesOf a)) (.string (bytesOf b)); binOp op t (.string (bytesOf a)) (.string (bytesOf b)) : Sem Value)).run P w' = .ok u w' := by
  have e1 : ∀ l : List UInt8, (bytesOf l).toList = l := fun l => ByteArray.toList_eq _
  have e2 : ∀ l : List UInt8, (bytesOf l).size = l.length := fun l => rfl
  have e3 : bytesOf a ++ bytesOf b = bytesOf (a ++ b) := by
    have h : (bytesOf a ++ bytesOf b).data = (bytesOf (a ++ b)).data := by
      rw [ByteArray.data_append]; simp [bytesOf]
    cases hx : bytesOf a ++ bytesOf b; rw [hx] at h; cases hy : bytesOf (a ++ b); rw [hy] at h; simp at h; rw [h]
  cases op <;> simp only [cvStr, CV.pure, Option.some.injEq, reduceCtorEq] at h <;> subst h <;> simp only at hn ⊢ <;> first
    | (refine ⟨_, repV_b.2 rfl, trivial, trivial, fun w' => ?_⟩; simp [eqGuard, binOp, Op.stringOp, e1]; done)
    | skip
  refine ⟨_, repV_s.2 ⟨rfl, by simpa using hn⟩, trivial, trivial, fun w' => ?_⟩
  have h1 := run_string_add_sum (P := P) (w := w') (bytesOf a) (bytesOf b) (by rw [e2, e2]; unfold maxLen at hn; exact hn)
  rw [e3] at h1
  simp [eqGuard, binOp, h1]
theorem binOp_bool_run (hT : TTOk P T) (op : BinOp) (t : Nat) (a b : Bool) (r : CV) (h : cvBin T op t (.b a) (.b b) = some r) (x y : Operand) :
    ∃ u, repV w F r.val u ∧ r.gain ∧ r.rd = none ∧ ∀ w', ((do eqGuard op t x y (.bool a) (.bool b); binOp op t (.bool a) (.bool b) : Sem Value)).run P w' = .ok u w' := by
  simp only [cvBin] at h
  split at h
  · rename_i sz by_ z ht
    obtain ⟨d, hd, hk⟩ := (tget_ok hT ht).desc
    have hd2 : d = .bool := by cases d <;> simp [kOf] at hk; rfl
    subst hd2
    cases op <;> simp only [CV.pure, Option.some.injEq, reduceCtorEq] at h <;> subst h
    · refine ⟨_, repV_b.2 rfl, trivial, rfl, fun w' => ?_⟩
      have h1 := run_equal_bool w' t a b hd
      have h2 : (eqGuard .eql t x y (.bool a) (.bool b)).run P w' = .ok () w' := by simp [eqGuard]
      rw [Sem.run_bind, h2]
      simp only [Result.andThen_ok, binOp, Sem.run_bind, h1]
      rfl
    · refine ⟨_, repV_b.2 rfl, trivial, rfl, fun w' => ?_⟩
      have h1 := run_equal_bool w' t a b hd
      have h2 : (eqGuard .neq t x y (.bool a) (.bool b)).run P w' = .ok () w' := by simp [eqGuard]
      rw [Sem.run_bind, h2]
      simp only [Result.andThen_ok, binOp, Sem.run_bind, h1]
      rfl
  · cases h
theorem binOp_run (hT : TTOk P T) (op : BinOp) (t : Nat) (A B : AV) (r : CV) (h : cvBin T op t A B = some r) (hn : r.need) (x y : Operand) (u v : Value) (hu : repV w F A u) (hv : repV w F B v) :
    ∃ z, repV w F r.val z ∧ r.gain ∧ r.rd = none ∧ ∀ w', ((do eqGuard op t x y u v; binOp op t u v : Sem Value)).run P w' = .ok z w' := by
  have h0 := h
  unfold cvBin at h
  split at h
  · rename_i k a k' b
    rw [repV_i] at hu hv
    subst hu; subst hv
    split at h
    · simp only [Option.some.injEq] at h; subst h
      simp only at hn
      refine ⟨_, repV_i.2 rfl, trivial, rfl, fun w' => ?_⟩
      have : ¬ b < 0 := by omega
      simp [eqGuard, binOp, Op.shift, this]
    · simp only [Option.some.injEq] at h; subst h
      simp only at hn
      refine ⟨_, repV_i.2 rfl, trivial, rfl, fun w' => ?_⟩
      have : ¬ b < 0 := by omega
      simp [eqGuard, binOp, Op.shift, this]
    · split at h
      · rename_i p g rd v hr
        simp only [Option.some.injEq] at h; subst h
        simp only at hn
        obtain ⟨rfl, hn⟩ := hn
        exact binOp_int_run op t k a b ⟨p, g, rd, v⟩ hr hn x y
      · cases h
  · rename_i a b
    rw [repV_s] at hu hv
    obtain ⟨rfl, _⟩ := hu; obtain ⟨rfl, _⟩ := hv
    exact binOp_str_run op t a b r h hn x y
  · rename_i a b
    rw [repV_b] at hu hv
    subst hu; subst hv
    exact binOp_bool_run hT op t a b r h0 x y
  · cases h
theorem fieldAt_run {s f : Nat} {fs : List (Nat × Nat)} {sz by_ : Nat} {z : AV} (h : TOk P s ⟨.struct fs, sz, by_, z⟩) {o ft : Nat} (hf : fs[f]? = some (o, ft)) {ti : TI} (ht : TOk P ft ti) (hz : ti.sz ≠ 0) (b off : Nat) (w' : World) :
    (Instr.fieldAt s (.pointer (some ⟨b, off, none⟩)) f).run P w' = .ok (.pointer (some ⟨b, off + o, none⟩)) w' := by
  obtain ⟨d, hd, hk⟩ := h.desc
  cases d <;> simp [kOf] at hk
  rename_i fields
  subst hk
  rw [List.getElem?_map] at hf
  cases hq : fields.toList[f]? with
  | none => rw [hq] at hf; cases hf
  | some fl =>
    rw [hq] at hf
    simp only [Option.map_some, Option.some.injEq, Prod.mk.injEq] at hf
    obtain ⟨rfl, rfl⟩ := hf
    have hq' : fields[f]? = some fl := by rw [← Array.getElem?_toList]; exact hq
    simp [Instr.fieldAt, run_underlying hd, hq', Instr.sureAddr, fieldPlace, ht.sizeRun, hz, Addr.add]
    try (intro h0; rw [h0])
theorem field_run {s f : Nat} {fs : List (Nat × Nat)} {sz by_ : Nat} {z : AV} (h : TOk P s ⟨.struct fs, sz, by_, z⟩) {o ft : Nat} (hf : fs[f]? = some (o, ft)) {ti : TI} (ht : TOk P ft ti) {y : AV} (hfit : fits ti y)
    {pre vs post : List Value} (hr : repC w F y vs) (ho : pre.length = o) (w' : World) :
    (Instr.field s (.agg (pre ++ vs ++ post).toArray) f).run P w' = .ok (ofCells y vs) w' := by
  obtain ⟨d, hd, hk⟩ := h.desc
  cases d <;> simp [kOf] at hk
  rename_i fields
  subst hk
  rw [List.getElem?_map] at hf
  cases hq : fields.toList[f]? with
  | none => rw [hq] at hf; cases hf
  | some fl =>
    rw [hq] at hf
    simp only [Option.map_some, Option.some.injEq, Prod.mk.injEq] at hf
    obtain ⟨rfl, rfl⟩ := hf
    have hq' : fields[f]? = some fl := by rw [← Array.getElem?_toList]; exact hq
    have hp := part_run ht hfit hr w' (pre := pre) (post := post)
    rw [ho] at hp
    simp only [Instr.field, Sem.run_bind, run_underlying hd, Result.andThen_ok, hq', asAgg, Sem.run_pure, hp]
theorem tk_string {t : Nat} {sz by_ : Nat} {z : AV} (h : TOk P t ⟨.string, sz, by_, z⟩) : P.underlying t = some .string := by
  obtain ⟨d, hd, hk⟩ := h.desc
  cases d <;> simp [kOf] at hk; exact hd
theorem tk_slice {t e : Nat} {sz by_ : Nat} {z : AV} (h : TOk P t ⟨.slice e, sz, by_, z⟩) : P.underlying t = some (.slice e) := by
  obtain ⟨d, hd, hk⟩ := h.desc
  cases d <;> simp [kOf] at hk; subst hk; exact hd
theorem tk_array {t n e : Nat} {sz by_ : Nat} {z : AV} (h : TOk P t ⟨.array n e, sz, by_, z⟩) : P.underlying t = some (.array n e) := by
  obtain ⟨d, hd, hk⟩ := h.desc
  cases d <;> simp [kOf] at hk; obtain ⟨rfl, rfl⟩ := hk; exact hd
theorem tk_int {t : Nat} {k : IntKind} {sz by_ : Nat} {z : AV} (h : TOk P t ⟨.int k, sz, by_, z⟩) : P.underlying t = some (.int k) := by
  obtain ⟨d, hd, hk⟩ := h.desc
  cases d <;> simp [kOf] at hk; subst hk; exact hd
end
/-- What a step that leaves the world as it is comes to. -/
def Steps1 (P : Program) (C : Ctx) (H : List (Nat × HO)) (w : World) (ρ : Operand → Value) (o : Oper) (r : CV) : Prop :=
  r.gain ∧ ∃ v, repV w (Fz C H w) r.val v ∧ ∀ w', Reads C H w w' r.rd → (execOp ρ o).run P w' = .ok (.value v) w'
section
variable {P : Program} {T : List (Nat × TI)} {C : Ctx} {S : St} {a : Act} {w : World}
theorem cv_load (hT : TTOk P T) (hs : Sat C S a w) {t : Nat} {A : AV} {r : CV} (h : cvLoad T S.heap t A = some r) (hn : r.need) {v : Value} (hv : repV w (Fz C S.heap w) A v) :
    r.gain ∧ ∃ u, repV w (Fz C S.heap w) r.val u ∧ ∀ w', Reads C S.heap w w' r.rd → (Instr.loadAt t v).run P w' = .ok u w' := by
  unfold cvLoad at h
  split at h
  · rename_i key b path off
    split at h
    · rename_i ti ht
      split at h
      · rename_i b' c hg
        split at h
        · rename_i o y hy
          simp only [Option.some.injEq] at h; subst h
          simp only at hn ⊢
          obtain ⟨rfl, rfl, hf⟩ := hn
          rw [repV_ptr] at hv; subst hv
          obtain ⟨t2, cs, hb, hc⟩ := hs.getHeap hg
          obtain ⟨pre, mid, post, e1, e2, e3, _⟩ := sub_split path c _ o y hc hy
          refine ⟨trivial, _, repV_mk e3, fun w' hr => load_run (tget_ok hT ht) hf e3 w' ?_⟩
          have hr : w'.heap[b']? = w.heap[b']? := hr _ b' hg (List.mem_singleton.2 rfl)
          intro j u hj
          have hblk : Blk w' b' t2 cs := by unfold Blk; rw [hr]; exact hb
          rw [hblk.cell, ← Array.getElem?_toList, e1, ← e2]
          have hjl := (List.getElem?_eq_some_iff.1 hj).1
          rw [List.append_assoc, List.getElem?_append_right (by omega), Nat.add_sub_cancel_left, List.getElem?_append_left hjl]
          exact hj
        · cases h
      · cases h
    · cases h
  · rename_i y
    split at h
    · rename_i ti ht
      simp only [Option.some.injEq] at h; subst h
      simp only at hn ⊢
      rw [repV_cp] at hv
      obtain ⟨b, off, vs, rfl, hb, hc, hra⟩ := hv
      refine ⟨trivial, _, repV_mk hc, fun w' hr => load_run (tget_ok hT ht) hn hc w' ?_⟩
      have hr : ∀ b, Fz C S.heap w b → w'.heap[b]? = w.heap[b]? := hr
      exact rangeAt_of hra (hr b hb)
    · cases h
  · cases h
theorem cv_fieldAddr (hT : TTOk P T) {s f : Nat} {A : AV} {r : CV} (h : cvFieldAddr T s f A = some r) (hn : r.need) {F : Nat → Prop} {v : Value} (hv : repV w F A v) :
    r.gain ∧ r.rd = none ∧ ∃ u, repV w F r.val u ∧ ∀ w', (Instr.fieldAt s v f).run P w' = .ok u w' := by
  unfold cvFieldAddr at h
  split at h
  · rename_i key b path off
    split at h
    · rename_i fs sz by_ z hs
      split at h
      · rename_i o ft hf
        split at h
        · rename_i ti ht
          simp only [Option.some.injEq] at h; subst h
          simp only at hn ⊢
          rw [repV_ptr] at hv; subst hv
          exact ⟨trivial, trivial, _, repV_ptr.2 rfl, fun w' => fieldAt_run (tget_ok hT hs) hf (tget_ok hT ht) hn b off w'⟩
        · cases h
      · cases h
    · cases h
  · rename_i xs
    split at h
    · rename_i fs sz by_ z hs
      split at h
      · rename_i o ft hf
        split at h
        · rename_i ti ht
          split at h
          · rename_i y hy
            simp only [Option.some.injEq] at h; subst h
            simp only at hn ⊢
            obtain ⟨hz, rfl⟩ := hn
            rw [repV_cp] at hv
            obtain ⟨b, off, vs, rfl, hb, hc, hra⟩ := hv
            simp only [repC] at hc
            obtain ⟨pre, mid, post, e1, e2, e3, _⟩ := repL_at xs f y vs hc hy
            refine ⟨trivial, trivial, _, repV_cp.2 ⟨b, off + offL xs f, mid, rfl, hb, e3, ?_⟩, fun w' => fieldAt_run (tget_ok hT hs) hf (tget_ok hT ht) hz b off w'⟩
            intro j u hj
            have hjl := (List.getElem?_eq_some_iff.1 hj).1
            have := hra (offL xs f + j) u (by rw [e1, ← e2, List.append_assoc, List.getElem?_append_right (by omega), Nat.add_sub_cancel_left, List.getElem?_append_left hjl]; exact hj)
            rw [← Nat.add_assoc] at this; exact this
          · cases h
        · cases h
      · cases h
    · cases h
  · cases h
theorem cv_field (hT : TTOk P T) {s f : Nat} {A : AV} {r : CV} (h : cvField T s f A = some r) (hn : r.need) {F : Nat → Prop} {v : Value} (hv : repV w F A v) :
    r.gain ∧ r.rd = none ∧ ∃ u, repV w F r.val u ∧ ∀ w', (Instr.field s v f).run P w' = .ok u w' := by
  unfold cvField at h
  split at h
  · rename_i xs
    split at h
    · rename_i fs sz by_ z hs
      split at h
      · rename_i o ft hf
        split at h
        · rename_i ti ht
          split at h
          · rename_i y hy
            simp only [Option.some.injEq] at h; subst h
            simp only at hn ⊢
            obtain ⟨rfl, hfit⟩ := hn
            rw [repV_agg] at hv
            obtain ⟨cs, rfl, hc⟩ := hv
            obtain ⟨pre, mid, post, e1, e2, e3, _⟩ := repL_at xs f y _ hc hy
            refine ⟨trivial, trivial, _, repV_mk e3, fun w' => ?_⟩
            have := field_run (tget_ok hT hs) hf (tget_ok hT ht) hfit e3 e2 w' (post := post)
            rw [← e1] at this
            simpa using this
          · cases h
        · cases h
      · cases h
    · cases h
  · cases h
theorem own_len {F : Nat → Prop} {v : Value} {e sz : Nat} {xs : List AV} (h : HOk w F (.row v e sz xs)) : ∃ A cap, v = .slice A xs.length cap ∧ xs.length ≤ cap ∧ cap ≤ maxLen := by
  obtain ⟨cells, h1, h2⟩ := h
  rcases h2.2 with ⟨rfl, h0⟩ | ⟨g, cap, cur, rfl, _, _, h3, h4, _⟩
  · exact ⟨none, 0, by rw [h0], by omega, Nat.zero_le _⟩
  · exact ⟨_, cap, rfl, h3, h4⟩
theorem cv_len (hT : TTOk P T) (hs : Sat C S a w) {t : Nat} {A : AV} {r : CV} (h : cvLen T S.heap t A = some r) (hn : r.need) {v : Value} (hv : repV w (Fz C S.heap w) A v) (ats : Array Nat) (hat : ats[0]? = some t) (ty : Nat) (vs : Array Value) (hvs : vs[0]? = some v) :
    r.gain ∧ r.rd = none ∧ ∃ u, repV w (Fz C S.heap w) r.val u ∧ ∀ w', (Builtin.len_ ats ty vs).run P w' = .ok u w' := by
  unfold cvLen at h
  split at h
  · rename_i sz by_ z ht
    have hu := tk_string (tget_ok hT ht)
    split at h
    · rename_i x
      simp only [Option.some.injEq] at h; subst h
      rw [repV_s] at hv; obtain ⟨rfl, hm⟩ := hv
      unfold maxLen at hm
      refine ⟨hm, rfl, _, repV_i.2 rfl, fun w' => ?_⟩
      simp only [Builtin.len_, hat, hvs, Sem.run_bind, run_underlying hu, Result.andThen_ok, Sem.run_pure, goInt]
      rfl
    · cases h
  · rename_i e sz by_ z ht
    have hu := tk_slice (tget_ok hT ht)
    split at h
    · rename_i sz2 xs
      simp only [Option.some.injEq] at h; subst h
      rw [repV_sl] at hv
      obtain ⟨A, cap, rfl, h1, h2, _⟩ := hv
      refine ⟨by unfold maxLen at h2; exact Nat.le_trans h1 h2, rfl, _, repV_i.2 rfl, fun w' => ?_⟩
      simp only [Builtin.len_, hat, hvs, Sem.run_bind, run_underlying hu, Result.andThen_ok, Sem.run_pure, goInt]
    · simp only [CV.pure, Option.some.injEq] at h; subst h
      rw [repV_nil] at hv; subst hv
      refine ⟨trivial, rfl, _, repV_i.2 rfl, fun w' => ?_⟩
      simp only [Builtin.len_, hat, hvs, Sem.run_bind, run_underlying hu, Result.andThen_ok, Sem.run_pure, goInt]
      rfl
    · simp only [CV.pure, Option.some.injEq] at h; subst h
      rw [repV_vw] at hv; obtain ⟨rfl, _⟩ := hv
      refine ⟨trivial, rfl, _, repV_i.2 rfl, fun w' => ?_⟩
      simp only [Builtin.len_, hat, hvs, Sem.run_bind, run_underlying hu, Result.andThen_ok, Sem.run_pure, goInt]
    · rename_i k v0
      split at h
      · rename_i v' e' sz' xs hg
        simp only [Option.some.injEq] at h; subst h
        simp only at hn; subst hn
        rw [repV_own] at hv; obtain ⟨rfl, _⟩ := hv
        obtain ⟨A, cap, rfl, h1, h2⟩ := own_len (hs.getHeap hg)
        refine ⟨by unfold maxLen at h2; exact Nat.le_trans h1 h2, rfl, _, repV_i.2 rfl, fun w' => ?_⟩
        simp only [Builtin.len_, hat, hvs, Sem.run_bind, run_underlying hu, Result.andThen_ok, Sem.run_pure, goInt]
      · cases h
    · cases h
  · rename_i n e sz by_ z ht
    have hu := tk_array (tget_ok hT ht)
    simp only [CV.pure, Option.some.injEq] at h; subst h
    refine ⟨trivial, rfl, _, repV_i.2 rfl, fun w' => ?_⟩
    simp only [Builtin.len_, hat, hvs, Sem.run_bind, run_underlying hu, Result.andThen_ok, Sem.run_pure, goInt]
  · cases h
theorem cv_conv (hT : TTOk P T) {s d : Nat} {A : AV} {r : CV} (h : cvConv T s d A = some r) {F : Nat → Prop} {v : Value} (hv : repV w F A v) :
    r.gain ∧ r.rd = none ∧ ∃ u, repV w F r.val u ∧ ∀ w', (convert s d v).run P w' = .ok u w' := by
  unfold cvConv at h
  split at h
  · rename_i k n
    split at h
    · rename_i ti k2 sz by_ z h1 h2
      simp only [CV.pure, Option.some.injEq] at h; subst h
      rw [repV_i] at hv; subst hv
      obtain ⟨ds, hds, _⟩ := (tget_ok hT h1).desc
      refine ⟨trivial, rfl, _, repV_i.2 rfl, fun w' => ?_⟩
      simp only [convert, Sem.run_bind, run_underlying hds, Result.andThen_ok, run_underlying (tk_int (tget_ok hT h2)), Conv.intToInt, Sem.run_pure]
    · cases h
  · rename_i x
    split at h
    · rename_i ti sz by_ z h1 h2
      simp only [CV.pure, Option.some.injEq] at h; subst h
      have hv0 := hv
      rw [repV_s] at hv; obtain ⟨rfl, hm⟩ := hv
      obtain ⟨ds, hds, _⟩ := (tget_ok hT h1).desc
      refine ⟨trivial, rfl, _, hv0, fun w' => ?_⟩
      simp only [convert, Sem.run_bind, run_underlying hds, Result.andThen_ok, run_underlying (tk_string (tget_ok hT h2)), Sem.run_pure]
    · cases h
  · cases h
end
end Go.Proofs.Ytfdcopbbnmialaa
