/- Values apart from memory: what a thing's cells are, its parts. No program in sight. -/
import Derived.WalkKit
import Derived.Lib.Hide
import Derived.Deep.MidRow
import Derived.Maps.AppendAt
namespace Go.Proofs.Ytfdcopbbnmialaa
open Go Go.RowKit

/-! What values are, apart from where they lie. -/
inductive AV where
  | any
  | b (x : Bool)
  | i (k : IntKind) (n : Int)
  | s (x : List UInt8)
  | sl (sz : Nat) (xs : List AV)
  | nil
  | agg (fs : List AV)
  | arr (sz n : Nat) (xs : List AV)
  | ptr (key blk : Nat) (path : List Nat) (off : Nat)
  | nilp
  | own (key : Nat) (v : Value)
  | vw (key blk : Nat) (path : List Nat) (st off len cap : Nat)
  | cp (a : AV)
  | fn (f : Fn) (caps : List AV)
  | nilf
  | ifc (t : TypeId) (a : AV)
  | nili
  | tup (xs : List AV)

def bytesOf (l : List UInt8) : ByteArray := ⟨l.toArray⟩
def AV.isAgg : AV → Bool
  | .agg _ | .arr .. => true
  | _ => false
def ofCells (a : AV) (vs : List Value) : Value := if a.isAgg then .agg vs.toArray else vs.headD undef
mutual
def sizeA : AV → Nat
  | .agg fs => sizeL fs
  | .arr sz n _ => n * sz
  | .tup _ => 0
  | _ => 1
def sizeL : List AV → Nat
  | [] => 0
  | x :: xs => sizeA x + sizeL xs
end
mutual
/-- The cells of a thing, as they lie in memory. -/
def repC (w : World) (F : Nat → Prop) : AV → List Value → Prop
  | .any, cs => ∃ u, cs = [u] ∧ u.oneCell' = true
  | .b x, cs => cs = [.bool x]
  | .i k n, cs => cs = [.int k n]
  | .s x, cs => cs = [.string (bytesOf x)] ∧ x.length ≤ maxLen
  | .sl sz xs, cs => ∃ A cap, cs = [.slice A xs.length cap] ∧ xs.length ≤ cap ∧ cap ≤ maxLen ∧ (xs ≠ [] → ∃ b off, A = some ⟨b, off, none⟩ ∧ F b ∧ repRow w F b off sz xs)
  | .nil, cs => cs = [.slice none 0 0]
  | .agg fs, cs => repL w F fs cs
  | .arr sz n xs, cs => xs.length = n ∧ repA w F sz xs cs
  | .ptr _ b _ off, cs => cs = [.pointer (some ⟨b, off, none⟩)]
  | .nilp, cs => cs = [.pointer none]
  | .own _ v, cs => cs = [v] ∧ v.oneCell' = true
  | .vw _ b _ _ off len cap, cs => cs = [.slice (some ⟨b, off, none⟩) len cap] ∧ len ≤ cap ∧ cap ≤ maxLen
  | .cp a, cs => ∃ b off vs, cs = [.pointer (some ⟨b, off, none⟩)] ∧ F b ∧ repC w F a vs ∧ w.rangeAt b off vs
  | .fn f caps, cs => ∃ vs, cs = [.func f #[] vs] ∧ repL w F caps vs.toList
  | .nilf, cs => cs = [.nilFunc]
  | .ifc t a, cs => ∃ vs, cs = [.iface t (ofCells a vs)] ∧ repC w F a vs
  | .nili, cs => cs = [.nilIface]
  | .tup _, _ => False
def repRow (w : World) (F : Nat → Prop) (b off sz : Nat) : List AV → Prop
  | [] => True
  | x :: xs => (∃ cs, repC w F x cs ∧ cs.length = sz ∧ w.rangeAt b off cs) ∧ repRow w F b (off + sz) sz xs
def repL (w : World) (F : Nat → Prop) : List AV → List Value → Prop
  | [], cs => cs = []
  | x :: xs, cs => ∃ c1 c2, cs = c1 ++ c2 ∧ repC w F x c1 ∧ repL w F xs c2
def repA (w : World) (F : Nat → Prop) (sz : Nat) : List AV → List Value → Prop
  | [], cs => cs = []
  | x :: xs, cs => ∃ c1 c2, cs = c1 ++ c2 ∧ repC w F x c1 ∧ c1.length = sz ∧ repA w F sz xs c2
end
/-- A value in a slot. -/
def repV (w : World) (F : Nat → Prop) : AV → Value → Prop
  | .any, _ => True
  | .tup xs, v => ∃ vs : List Value, v = .tuple vs.toArray ∧ xs.length = vs.length ∧ ∀ (i : Nat) (x : AV) (u : Value), xs[i]? = some x → vs[i]? = some u → (x = .any ∨ ∃ cs, repC w F x cs ∧ u = ofCells x cs)
  | a, v => ∃ cs, repC w F a cs ∧ v = ofCells a cs

section
variable {w w' : World} {F F' : Nat → Prop}
theorem rangeAt_of {b off : Nat} {vs : List Value} (h : w.rangeAt b off vs) (hb : w'.heap[b]? = w.heap[b]?) : w'.rangeAt b off vs :=
  fun j u hu => (World.cell?_of_block hb).trans (h j u hu)
mutual
theorem repC_mono (hF : ∀ b, F b → F' b) (hw : ∀ b, F b → w'.heap[b]? = w.heap[b]?) : ∀ (a : AV) (cs : List Value), repC w F a cs → repC w' F' a cs
  | .any, _, h => h
  | .b _, _, h => h
  | .i _ _, _, h => h
  | .s _, _, h => h
  | .sl sz xs, cs, h => by
    simp only [repC] at h ⊢
    obtain ⟨A, cap, h1, h2, h3, h4⟩ := h
    refine ⟨A, cap, h1, h2, h3, fun hx => ?_⟩
    obtain ⟨b, off, hA, hb, hr⟩ := h4 hx
    exact ⟨b, off, hA, hF b hb, repRow_mono hF hw b off sz hb xs hr⟩
  | .nil, _, h => h
  | .agg fs, cs, h => by simp only [repC] at h ⊢; exact repL_mono hF hw fs cs h
  | .arr sz n xs, cs, h => by simp only [repC] at h ⊢; exact ⟨h.1, repA_mono hF hw sz xs cs h.2⟩
  | .ptr _ _ _ _, _, h => h
  | .nilp, _, h => h
  | .own _ _, _, h => h
  | .vw _ _ _ _ _ _ _, _, h => h
  | .cp a, cs, h => by
    simp only [repC] at h ⊢
    obtain ⟨b, off, vs, h1, h2, h3, h4⟩ := h
    exact ⟨b, off, vs, h1, hF b h2, repC_mono hF hw a vs h3, rangeAt_of h4 (hw b h2)⟩
  | .fn f caps, cs, h => by
    simp only [repC] at h ⊢
    obtain ⟨vs, h1, h2⟩ := h
    exact ⟨vs, h1, repL_mono hF hw caps _ h2⟩
  | .nilf, _, h => h
  | .ifc t a, cs, h => by
    simp only [repC] at h ⊢
    obtain ⟨vs, h1, h2⟩ := h
    exact ⟨vs, h1, repC_mono hF hw a _ h2⟩
  | .nili, _, h => h
  | .tup _, _, h => h
theorem repRow_mono (hF : ∀ b, F b → F' b) (hw : ∀ b, F b → w'.heap[b]? = w.heap[b]?) (b off sz : Nat) (hb : F b) : ∀ (xs : List AV), repRow w F b off sz xs → repRow w' F' b off sz xs
  | [], _ => trivial
  | x :: xs, h => by
    simp only [repRow] at h ⊢
    obtain ⟨⟨cs, h1, h2, h3⟩, h4⟩ := h
    exact ⟨⟨cs, repC_mono hF hw x cs h1, h2, rangeAt_of h3 (hw b hb)⟩, repRow_mono hF hw b (off + sz) sz hb xs h4⟩
theorem repL_mono (hF : ∀ b, F b → F' b) (hw : ∀ b, F b → w'.heap[b]? = w.heap[b]?) : ∀ (xs : List AV) (cs : List Value), repL w F xs cs → repL w' F' xs cs
  | [], _, h => h
  | x :: xs, cs, h => by
    simp only [repL] at h ⊢
    obtain ⟨c1, c2, h1, h2, h3⟩ := h
    exact ⟨c1, c2, h1, repC_mono hF hw x c1 h2, repL_mono hF hw xs c2 h3⟩
theorem repA_mono (hF : ∀ b, F b → F' b) (hw : ∀ b, F b → w'.heap[b]? = w.heap[b]?) (sz : Nat) : ∀ (xs : List AV) (cs : List Value), repA w F sz xs cs → repA w' F' sz xs cs
  | [], _, h => h
  | x :: xs, cs, h => by
    simp only [repA] at h ⊢
    obtain ⟨c1, c2, h1, h2, h3, h4⟩ := h
    exact ⟨c1, c2, h1, repC_mono hF hw x c1 h2, h3, repA_mono hF hw sz xs c2 h4⟩
end
mutual
theorem repC_size : ∀ (a : AV) (cs : List Value), repC w F a cs → cs.length = sizeA a
  | .any, _, h => by simp only [repC] at h; obtain ⟨u, h, _⟩ := h; subst h; rfl
  | .b _, _, h => by simp only [repC] at h; subst h; rfl
  | .i _ _, _, h => by simp only [repC] at h; subst h; rfl
  | .s _, _, h => by simp only [repC] at h; rw [h.1]; rfl
  | .sl sz xs, cs, h => by simp only [repC] at h; obtain ⟨A, cap, h1, _⟩ := h; subst h1; rfl
  | .nil, _, h => by simp only [repC] at h; subst h; rfl
  | .agg fs, cs, h => by simp only [repC] at h; simp only [sizeA]; exact repL_size fs cs h
  | .arr sz n xs, cs, h => by simp only [repC] at h; simp only [sizeA]; rw [← h.1]; exact repA_size sz xs cs h.2
  | .ptr _ _ _ _, _, h => by simp only [repC] at h; subst h; rfl
  | .nilp, _, h => by simp only [repC] at h; subst h; rfl
  | .own _ _, _, h => by simp only [repC] at h; rw [h.1]; rfl
  | .vw _ _ _ _ _ _ _, _, h => by simp only [repC] at h; rw [h.1]; rfl
  | .cp a, cs, h => by simp only [repC] at h; obtain ⟨b, off, vs, h1, _⟩ := h; subst h1; rfl
  | .fn f caps, cs, h => by simp only [repC] at h; obtain ⟨vs, h1, _⟩ := h; subst h1; rfl
  | .nilf, _, h => by simp only [repC] at h; subst h; rfl
  | .ifc t a, cs, h => by simp only [repC] at h; obtain ⟨vs, h1, _⟩ := h; subst h1; rfl
  | .nili, _, h => by simp only [repC] at h; subst h; rfl
  | .tup _, _, h => by simp only [repC] at h
theorem repL_size : ∀ (xs : List AV) (cs : List Value), repL w F xs cs → cs.length = sizeL xs
  | [], _, h => by simp only [repL] at h; subst h; rfl
  | x :: xs, cs, h => by
    simp only [repL] at h
    obtain ⟨c1, c2, h1, h2, h3⟩ := h
    subst h1
    rw [List.length_append, repC_size x c1 h2, repL_size xs c2 h3]; simp only [sizeL]
theorem repA_size (sz : Nat) : ∀ (xs : List AV) (cs : List Value), repA w F sz xs cs → cs.length = xs.length * sz
  | [], _, h => by simp only [repA] at h; subst h; simp
  | x :: xs, cs, h => by
    simp only [repA] at h
    obtain ⟨c1, c2, h1, h2, h3, h4⟩ := h
    subst h1
    rw [List.length_append, repA_size sz xs c2 h4, h3, List.length_cons, Nat.add_mul]; omega
end
mutual
theorem repC_one : ∀ (a : AV) (cs : List Value), repC w F a cs → ∀ u ∈ cs, u.oneCell' = true
  | .any, cs, h => by simp only [repC] at h; obtain ⟨u, rfl, h⟩ := h; simpa using h
  | .b _, cs, h => by simp only [repC] at h; subst h; simp [Value.oneCell']
  | .i _ _, cs, h => by simp only [repC] at h; subst h; simp [Value.oneCell']
  | .s _, cs, h => by simp only [repC] at h; rw [h.1]; simp [Value.oneCell']
  | .sl sz xs, cs, h => by simp only [repC] at h; obtain ⟨A, cap, h1, _⟩ := h; subst h1; simp [Value.oneCell']
  | .nil, cs, h => by simp only [repC] at h; subst h; simp [Value.oneCell']
  | .agg fs, cs, h => by simp only [repC] at h; exact repL_one fs cs h
  | .arr sz n xs, cs, h => by simp only [repC] at h; exact repA_one sz xs cs h.2
  | .ptr _ _ _ _, cs, h => by simp only [repC] at h; subst h; simp [Value.oneCell']
  | .nilp, cs, h => by simp only [repC] at h; subst h; simp [Value.oneCell']
  | .own _ _, cs, h => by simp only [repC] at h; obtain ⟨rfl, h⟩ := h; simpa using h
  | .vw _ _ _ _ _ _ _, cs, h => by simp only [repC] at h; rw [h.1]; simp [Value.oneCell']
  | .cp a, cs, h => by simp only [repC] at h; obtain ⟨b, off, vs, h1, _⟩ := h; subst h1; simp [Value.oneCell']
  | .fn f caps, cs, h => by simp only [repC] at h; obtain ⟨vs, h1, _⟩ := h; subst h1; simp [Value.oneCell']
  | .nilf, cs, h => by simp only [repC] at h; subst h; simp [Value.oneCell']
  | .ifc t a, cs, h => by simp only [repC] at h; obtain ⟨vs, h1, _⟩ := h; subst h1; simp [Value.oneCell']
  | .nili, cs, h => by simp only [repC] at h; subst h; simp [Value.oneCell']
  | .tup _, cs, h => by simp only [repC] at h
theorem repL_one : ∀ (xs : List AV) (cs : List Value), repL w F xs cs → ∀ u ∈ cs, u.oneCell' = true
  | [], cs, h => by simp only [repL] at h; subst h; simp
  | x :: xs, cs, h => by
    simp only [repL] at h
    obtain ⟨c1, c2, rfl, h2, h3⟩ := h
    intro u hu
    rcases List.mem_append.1 hu with hu | hu
    · exact repC_one x c1 h2 u hu
    · exact repL_one xs c2 h3 u hu
theorem repA_one (sz : Nat) : ∀ (xs : List AV) (cs : List Value), repA w F sz xs cs → ∀ u ∈ cs, u.oneCell' = true
  | [], cs, h => by simp only [repA] at h; subst h; simp
  | x :: xs, cs, h => by
    simp only [repA] at h
    obtain ⟨c1, c2, rfl, h2, _, h3⟩ := h
    intro u hu
    rcases List.mem_append.1 hu with hu | hu
    · exact repC_one x c1 h2 u hu
    · exact repA_one sz xs c2 h3 u hu
end
theorem repV_mono (hF : ∀ b, F b → F' b) (hw : ∀ b, F b → w'.heap[b]? = w.heap[b]?) (a : AV) (v : Value) (h : repV w F a v) : repV w' F' a v := by
  cases a
  case any => exact True.intro
  case tup xs =>
    obtain ⟨vs, h1, h2, h3⟩ := h
    exact ⟨vs, h1, h2, fun i x u hx hu => (h3 i x u hx hu).imp id fun ⟨cs, hc, he⟩ => ⟨cs, repC_mono hF hw _ _ hc, he⟩⟩
  all_goals
    obtain ⟨cs, hc, he⟩ := h
    exact ⟨cs, repC_mono hF hw _ _ hc, he⟩

theorem repV_mk {a : AV} {cs : List Value} (h : repC w F a cs) : repV w F a (ofCells a cs) := by
  cases a
  case any => exact True.intro
  case tup xs => simp only [repC] at h
  all_goals exact ⟨cs, h, rfl⟩
end
/-- How many cells lie ahead of field k. -/
def offL (fs : List AV) (k : Nat) : Nat := sizeL (fs.take k)
section
variable {w : World} {F : Nat → Prop}
theorem repL_at : ∀ (fs : List AV) (k : Nat) (x : AV) (cs : List Value), repL w F fs cs → fs[k]? = some x →
    ∃ pre mid post, cs = pre ++ mid ++ post ∧ pre.length = offL fs k ∧ repC w F x mid ∧ ∀ y ys, repC w F y ys → repL w F (fs.set k y) (pre ++ ys ++ post)
  | [], k, x, cs, _, h => by simp at h
  | f :: fs, 0, x, cs, h, hx => by
    simp only [repL] at h
    obtain ⟨c1, c2, h1, h2, h3⟩ := h
    simp only [List.getElem?_cons_zero, Option.some.injEq] at hx
    subst hx
    refine ⟨[], c1, c2, by simpa using h1, rfl, h2, fun y ys hy => ?_⟩
    simp only [List.set_cons_zero, repL]
    exact ⟨ys, c2, by simp, hy, h3⟩
  | f :: fs, k + 1, x, cs, h, hx => by
    simp only [repL] at h
    obtain ⟨c1, c2, h1, h2, h3⟩ := h
    rw [List.getElem?_cons_succ] at hx
    obtain ⟨pre, mid, post, e1, e2, e3, e4⟩ := repL_at fs k x c2 h3 hx
    refine ⟨c1 ++ pre, mid, post, by rw [h1, e1]; simp, ?_, e3, fun y ys hy => ?_⟩
    · rw [List.length_append, e2, repC_size _ _ h2]; simp only [offL, List.take_succ_cons, sizeL]
    · simp only [List.set_cons_succ, repL]
      exact ⟨c1, _, by simp, h2, e4 y ys hy⟩
theorem repA_at (sz : Nat) : ∀ (fs : List AV) (k : Nat) (x : AV) (cs : List Value), repA w F sz fs cs → fs[k]? = some x →
    ∃ pre mid post, cs = pre ++ mid ++ post ∧ pre.length = k * sz ∧ repC w F x mid ∧ mid.length = sz ∧ ∀ y ys, repC w F y ys → ys.length = sz → repA w F sz (fs.set k y) (pre ++ ys ++ post)
  | [], k, x, cs, _, h => by simp at h
  | f :: fs, 0, x, cs, h, hx => by
    simp only [repA] at h
    obtain ⟨c1, c2, h1, h2, h4, h3⟩ := h
    simp only [List.getElem?_cons_zero, Option.some.injEq] at hx
    subst hx
    refine ⟨[], c1, c2, by simpa using h1, by simp, h2, h4, fun y ys hy hl => ?_⟩
    simp only [List.set_cons_zero, repA]
    exact ⟨ys, c2, by simp, hy, hl, h3⟩
  | f :: fs, k + 1, x, cs, h, hx => by
    simp only [repA] at h
    obtain ⟨c1, c2, h1, h2, h4, h3⟩ := h
    rw [List.getElem?_cons_succ] at hx
    obtain ⟨pre, mid, post, e1, e2, e3, e5, e4⟩ := repA_at sz fs k x c2 h3 hx
    refine ⟨c1 ++ pre, mid, post, by rw [h1, e1]; simp, ?_, e3, e5, fun y ys hy hl => ?_⟩
    · rw [List.length_append, e2, h4, Nat.add_mul]; omega
    · simp only [List.set_cons_succ, repA]
      exact ⟨c1, _, by simp, h2, h4, e4 y ys hy hl⟩
end
/-- The part at a path: where its cells begin, and what it is. -/
def subAt : List Nat → AV → Option (Nat × AV)
  | [], c => some (0, c)
  | k :: p, .agg fs =>
    match fs[k]? with
    | some x => match subAt p x with
      | some (o, y) => some (offL fs k + o, y)
      | none => none
    | none => none
  | k :: p, .arr sz _ xs =>
    match xs[k]? with
    | some x => match subAt p x with
      | some (o, y) => some (k * sz + o, y)
      | none => none
    | none => none
  | _ :: _, _ => none
def updAt : List Nat → AV → AV → AV
  | [], _, y => y
  | k :: p, .agg fs, y => .agg (fs.set k (updAt p (fs.getD k .any) y))
  | k :: p, .arr sz n xs, y => .arr sz n (xs.set k (updAt p (xs.getD k .any) y))
  | _ :: _, c, _ => c
theorem sub_split {w : World} {F : Nat → Prop} : ∀ (p : List Nat) (c : AV) (cs : List Value) (o : Nat) (x : AV), repC w F c cs → subAt p c = some (o, x) →
    ∃ pre mid post, cs = pre ++ mid ++ post ∧ pre.length = o ∧ repC w F x mid ∧ ∀ y ys, repC w F y ys → ys.length = mid.length → repC w F (updAt p c y) (pre ++ ys ++ post)
  | [], c, cs, o, x, h, hs => by
    simp only [subAt, Option.some.injEq, Prod.mk.injEq] at hs
    obtain ⟨rfl, rfl⟩ := hs
    exact ⟨[], cs, [], by simp, rfl, h, fun y ys hy _ => by simpa [updAt] using hy⟩
  | k :: p, c, cs, o, x, h, hs => by
    cases c
    case agg fs =>
      simp only [subAt] at hs
      cases hk : fs[k]? with
      | none => simp [hk] at hs
      | some z =>
        simp only [hk] at hs
        cases hz : subAt p z with
        | none => simp [hz] at hs
        | some q =>
          obtain ⟨o', y⟩ := q
          simp only [hz, Option.some.injEq, Prod.mk.injEq] at hs
          obtain ⟨rfl, rfl⟩ := hs
          simp only [repC] at h
          obtain ⟨pre, mid, post, e1, e2, e3, e4⟩ := repL_at fs k z cs h hk
          obtain ⟨pre2, mid2, post2, f1, f2, f3, f4⟩ := sub_split p z mid o' y e3 hz
          refine ⟨pre ++ pre2, mid2, post2 ++ post, by rw [e1, f1]; simp, by rw [List.length_append, e2, f2], f3, fun u us hu hl => ?_⟩
          have := e4 _ _ (f4 u us hu hl)
          simp only [updAt, repC]
          rw [List.getD_eq_getElem?_getD, hk]
          simpa using this
    case arr sz n xs =>
      simp only [subAt] at hs
      cases hk : xs[k]? with
      | none => simp [hk] at hs
      | some z =>
        simp only [hk] at hs
        cases hz : subAt p z with
        | none => simp [hz] at hs
        | some q =>
          obtain ⟨o', y⟩ := q
          simp only [hz, Option.some.injEq, Prod.mk.injEq] at hs
          obtain ⟨rfl, rfl⟩ := hs
          simp only [repC] at h
          obtain ⟨pre, mid, post, e1, e2, e3, e5, e4⟩ := repA_at sz xs k z cs h.2 hk
          obtain ⟨pre2, mid2, post2, f1, f2, f3, f4⟩ := sub_split p z mid o' y e3 hz
          refine ⟨pre ++ pre2, mid2, post2 ++ post, by rw [e1, f1]; simp, by rw [List.length_append, e2, f2], f3, fun u us hu hl => ?_⟩
          have := e4 _ _ (f4 u us hu hl) (by rw [← e5, f1]; simp [hl])
          simp only [updAt, repC]
          rw [List.getD_eq_getElem?_getD, hk]
          exact ⟨by rw [List.length_set]; exact h.1, by simpa using this⟩
    all_goals simp [subAt] at hs
end Go.Proofs.Ytfdcopbbnmialaa
