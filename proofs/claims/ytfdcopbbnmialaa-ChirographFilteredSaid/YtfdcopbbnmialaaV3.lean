/- Operations that leave the world as it is, evaluated on states. No program in sight. -/
import Derived.Test.YtfdcopbbnmialaaV2
import Derived.Laws.Concat
import Derived.BigFrame
import Derived.BigCall
namespace Go.Proofs.Ytfdcopbbnmialaa
open Go Go.RowKit

/-! What is known of types. -/
inductive TK where
  | bool | int (k : IntKind) | string | slice (e : Nat) | ptr (e : Nat) | struct (fs : List (Nat × Nat)) | array (n e : Nat) | iface | func | map (k e : Nat) | other
def kOf : TypeDesc → TK
  | .bool => .bool
  | .int k => .int k
  | .string => .string
  | .slice e => .slice e
  | .pointer e => .ptr e
  | .struct fs => .struct (fs.toList.map fun f => (f.offset, f.type))
  | .array n e => .array n e
  | .interface _ => .iface
  | .func _ _ _ => .func
  | .map k e => .map k e
  | _ => .other
def TK.isAgg : TK → Bool
  | .struct _ | .array _ _ => true
  | _ => false
structure TI where
  k : TK
  sz : Nat
  bytes : Nat
  zero : AV
mutual
def flatZ : AV → Option (List Value)
  | .b x => some [.bool x]
  | .i k n => some [.int k n]
  | .s [] => some [.string ⟨#[]⟩]
  | .nil => some [.slice none 0 0]
  | .nilp => some [.pointer none]
  | .nilf => some [.nilFunc]
  | .nili => some [.nilIface]
  | .agg fs => flatZs fs
  | .arr sz n xs => if xs.length = n ∧ xs.all (fun x => sizeA x == sz) = true then flatZs xs else none
  | _ => none
def flatZs : List AV → Option (List Value)
  | [] => some []
  | x :: xs => match flatZ x, flatZs xs with
    | some a, some b => some (a ++ b)
    | _, _ => none
end
structure TOk (P : Program) (t : Nat) (ti : TI) : Prop where
  info : (P.info? t).map (fun i => (i.size, i.bytes)) = some (ti.sz, ti.bytes)
  kind : (P.underlying t).map kOf = some ti.k
  zero : ti.zero = .any ∨ ∃ cs, flatZ ti.zero = some cs ∧ (P.info? t).bind (·.zero) = some (ofCells ti.zero cs)
def tget : List (Nat × TI) → Nat → Option TI
  | [], _ => none
  | (k, x) :: r, i => bif Nat.beq k i then some x else tget r i
def TTOk (P : Program) (T : List (Nat × TI)) : Prop := ∀ p ∈ T, TOk P p.1 p.2
theorem tget_ok {P : Program} {T : List (Nat × TI)} (h : TTOk P T) {t : Nat} {ti : TI} (hg : tget T t = some ti) : TOk P t ti := by
  induction T with
  | nil => simp [tget] at hg
  | cons p r ih =>
    obtain ⟨k, x⟩ := p
    unfold tget at hg
    cases hb : Nat.beq k t with
    | true =>
      rw [hb] at hg
      simp only [cond_true, Option.some.injEq] at hg
      subst hg
      have : k = t := Nat.eq_of_beq_eq_true hb
      subst this
      exact h (k, x) (by simp)
    | false =>
      rw [hb] at hg
      exact ih (fun p hp => h p (by simp [hp])) (by simpa using hg)
theorem TOk.desc {P : Program} {t : Nat} {ti : TI} (h : TOk P t ti) : ∃ d, P.underlying t = some d ∧ kOf d = ti.k := by
  have := h.kind
  cases hu : P.underlying t with
  | none => rw [hu] at this; cases this
  | some d => rw [hu] at this; exact ⟨d, rfl, by simpa using this⟩
theorem TOk.inf {P : Program} {t : Nat} {ti : TI} (h : TOk P t ti) : ∃ i, P.info? t = some i ∧ i.size = ti.sz ∧ i.bytes = ti.bytes := by
  have := h.info
  cases hu : P.info? t with
  | none => rw [hu] at this; cases this
  | some d => rw [hu] at this; simp at this; exact ⟨d, rfl, this.1, this.2⟩

/-! Values of constants and operands. -/
def ofConst : Value → AV
  | .bool b => .b b
  | .int k n => .i k n
  | .string s => if s.size ≤ 65536 then .s s.data.toList else .any
  | .slice none 0 0 => .nil
  | .pointer none => .nilp
  | .nilFunc => .nilf
  | .nilIface => .nili
  | _ => .any
def ev (S : St) : Operand → AV
  | .tmp t => S.slot t
  | .const v => ofConst v
  | .func f => .fn (.func f) []
  | .global _ => .any
section
variable {w : World} {F : Nat → Prop} {v : Value}
theorem repV_b {x : Bool} : repV w F (.b x) v ↔ v = .bool x := by simp [repV, repC, ofCells, AV.isAgg]
theorem repV_i {k : IntKind} {n : Int} : repV w F (.i k n) v ↔ v = .int k n := by simp [repV, repC, ofCells, AV.isAgg]
theorem repV_s {x : List UInt8} : repV w F (.s x) v ↔ v = .string (bytesOf x) ∧ x.length ≤ maxLen := by
  simp only [repV, repC, ofCells, AV.isAgg]
  constructor
  · rintro ⟨cs, ⟨rfl, h⟩, hv⟩; exact ⟨by simpa using hv, h⟩
  · rintro ⟨rfl, h⟩; exact ⟨_, ⟨rfl, h⟩, by simp⟩
theorem repV_nil : repV w F .nil v ↔ v = .slice none 0 0 := by simp [repV, repC, ofCells, AV.isAgg]
theorem repV_nilp : repV w F .nilp v ↔ v = .pointer none := by simp [repV, repC, ofCells, AV.isAgg]
theorem repV_ptr {k b : Nat} {p : List Nat} {o : Nat} : repV w F (.ptr k b p o) v ↔ v = .pointer (some ⟨b, o, none⟩) := by simp [repV, repC, ofCells, AV.isAgg]
theorem repV_own {k : Nat} {u : Value} : repV w F (.own k u) v ↔ v = u ∧ u.oneCell' = true := by
  simp only [repV, repC, ofCells, AV.isAgg]
  constructor
  · rintro ⟨cs, ⟨rfl, h⟩, hv⟩; exact ⟨by simpa using hv, h⟩
  · rintro ⟨rfl, h⟩; exact ⟨_, ⟨rfl, h⟩, by simp⟩
theorem repV_vw {k b : Nat} {p : List Nat} {st o n c : Nat} : repV w F (.vw k b p st o n c) v ↔ v = .slice (some ⟨b, o, none⟩) n c ∧ n ≤ c ∧ c ≤ maxLen := by
  simp only [repV, repC, ofCells, AV.isAgg]
  constructor
  · rintro ⟨cs, ⟨rfl, h⟩, hv⟩; exact ⟨by simpa using hv, h⟩
  · rintro ⟨rfl, h⟩; exact ⟨_, ⟨rfl, h⟩, by simp⟩
theorem repV_nilf : repV w F .nilf v ↔ v = .nilFunc := by simp [repV, repC, ofCells, AV.isAgg]
theorem repV_nili : repV w F .nili v ↔ v = .nilIface := by simp [repV, repC, ofCells, AV.isAgg]
theorem repV_sl {sz : Nat} {xs : List AV} : repV w F (.sl sz xs) v ↔ ∃ A cap, v = .slice A xs.length cap ∧ xs.length ≤ cap ∧ cap ≤ maxLen ∧ (xs ≠ [] → ∃ b off, A = some ⟨b, off, none⟩ ∧ F b ∧ repRow w F b off sz xs) := by
  simp only [repV, repC, ofCells, AV.isAgg]
  constructor
  · rintro ⟨cs, ⟨A, cap, rfl, h⟩, hv⟩; exact ⟨A, cap, by simpa using hv, h⟩
  · rintro ⟨A, cap, rfl, h⟩; exact ⟨_, ⟨A, cap, rfl, h⟩, by simp⟩
theorem repV_agg {fs : List AV} : repV w F (.agg fs) v ↔ ∃ cs, v = .agg cs ∧ repL w F fs cs.toList := by
  simp only [repV, repC, ofCells, AV.isAgg]
  constructor
  · rintro ⟨cs, h, hv⟩; exact ⟨cs.toArray, by simpa using hv, by simpa using h⟩
  · rintro ⟨cs, rfl, h⟩; exact ⟨_, h, by simp⟩
theorem repV_cp {x : AV} : repV w F (.cp x) v ↔ ∃ b off vs, v = .pointer (some ⟨b, off, none⟩) ∧ F b ∧ repC w F x vs ∧ w.rangeAt b off vs := by
  simp only [repV, repC, ofCells, AV.isAgg]
  constructor
  · rintro ⟨cs, ⟨b, off, vs, rfl, h⟩, hv⟩; exact ⟨b, off, vs, by simpa using hv, h⟩
  · rintro ⟨b, off, vs, rfl, h⟩; exact ⟨_, ⟨b, off, vs, rfl, h⟩, by simp⟩
theorem bytesOf_data (s : ByteArray) : bytesOf s.data.toList = s := by cases s; rfl
theorem ofConst_rep (u : Value) : repV w F (ofConst u) u := by
  unfold ofConst
  split
  · exact repV_b.2 rfl
  · exact repV_i.2 rfl
  · split
    · rename_i s h
      exact repV_s.2 ⟨by rw [bytesOf_data], by rw [show s.data.toList.length = s.size from by cases s; rfl]; unfold maxLen; omega⟩
    · exact True.intro
  · exact repV_nil.2 rfl
  · exact repV_nilp.2 rfl
  · exact repV_nilf.2 rfl
  · exact repV_nili.2 rfl
  · exact True.intro
end
theorem ev_rep {C : Ctx} {S : St} {a : Act} {w : World} (h : Sat C S a w) (x : Operand) : repV w (Fz C S.heap w) (ev S x) (a.eval x) := by
  cases x with
  | tmp t => exact h.slots t
  | const v => exact ofConst_rep v
  | global g => exact True.intro
  | func f =>
    show repV w _ (.fn (.func f) []) (.func (.func f) #[] #[])
    simp [repV, repC, repL, ofCells, AV.isAgg]

/-! The evaluation. -/
structure CV where
  need : Prop
  gain : Prop
  rd : Option (Option Nat)
  val : AV
def CV.pure (x : AV) : Option CV := some ⟨True, True, none, x⟩
/-- The same, the value looked at first. -/
def CV.val_ (x : AV) : Option CV :=
  match x with
  | .any => CV.pure .any
  | .b t => CV.pure (.b t)
  | .i k n => CV.pure (.i k n)
  | .s x => CV.pure (.s x)
  | .sl sz xs => CV.pure (.sl sz xs)
  | .nil => CV.pure .nil
  | .agg fs => CV.pure (.agg fs)
  | .arr sz n xs => CV.pure (.arr sz n xs)
  | .ptr k b p o => CV.pure (.ptr k b p o)
  | .nilp => CV.pure .nilp
  | .own k v => CV.pure (.own k v)
  | .vw k b p st o n c => CV.pure (.vw k b p st o n c)
  | .cp a => CV.pure (.cp a)
  | .fn f c => CV.pure (.fn f c)
  | .nilf => CV.pure .nilf
  | .ifc t a => CV.pure (.ifc t a)
  | .nili => CV.pure .nili
  | .tup xs => CV.pure (.tup xs)
theorem CV.val_eq (x : AV) : CV.val_ x = CV.pure x := by cases x <;> rfl
def bitsI (op : BinOp) (k : IntKind) (x y : Int) : Int :=
  match op with
  | .and => k.wrap (BitVec.ofInt k.bits x &&& BitVec.ofInt k.bits y).toNat
  | .or => k.wrap (BitVec.ofInt k.bits x ||| BitVec.ofInt k.bits y).toNat
  | .xor => k.wrap (BitVec.ofInt k.bits x ^^^ BitVec.ofInt k.bits y).toNat
  | _ => k.wrap (BitVec.ofInt k.bits x &&& ~~~BitVec.ofInt k.bits y).toNat
def cvInt (op : BinOp) (k : IntKind) (a b : Int) : Option CV :=
  match op with
  | .add => CV.pure (.i k (k.wrap (a + b)))
  | .sub => CV.pure (.i k (k.wrap (a - b)))
  | .mul => CV.pure (.i k (k.wrap (a * b)))
  | .quo => some ⟨b ≠ 0, True, none, .i k (k.wrap (a.tdiv b))⟩
  | .rem => some ⟨b ≠ 0, True, none, .i k (a.tmod b)⟩
  | .and => CV.pure (.i k (bitsI .and k a b))
  | .or => CV.pure (.i k (bitsI .or k a b))
  | .xor => CV.pure (.i k (bitsI .xor k a b))
  | .andNot => CV.pure (.i k (bitsI .andNot k a b))
  | .eql => CV.pure (.b (a == b))
  | .neq => CV.pure (.b (a != b))
  | .lss => CV.pure (.b (decide (a < b)))
  | .leq => CV.pure (.b (decide (a ≤ b)))
  | .gtr => CV.pure (.b (decide (b < a)))
  | .geq => CV.pure (.b (decide (b ≤ a)))
  | _ => none
def cvStr (op : BinOp) (a b : List UInt8) : Option CV :=
  match op with
  | .add => some ⟨a.length + b.length ≤ maxLen, True, none, .s (a ++ b)⟩
  | .eql => CV.pure (.b (a == b))
  | .neq => CV.pure (.b (!(a == b)))
  | .lss => CV.pure (.b (Op.bytesLess a b))
  | .leq => CV.pure (.b (Op.bytesLess a b || a == b))
  | .gtr => CV.pure (.b (!(Op.bytesLess a b || a == b)))
  | .geq => CV.pure (.b (!Op.bytesLess a b))
  | _ => none
def cvBin (T : List (Nat × TI)) (op : BinOp) (t : Nat) : AV → AV → Option CV
  | .i k a, .i k' b =>
    match op with
    | .shl => some ⟨0 ≤ b, True, none, .i k (k.wrap (a * 2 ^ (min b.toNat k.bits)))⟩
    | .shr => some ⟨0 ≤ b, True, none, .i k (a.fdiv (2 ^ (min b.toNat k.bits)))⟩
    | _ => match cvInt op k a b with
      | some ⟨p, g, rd, v⟩ => some ⟨k = k' ∧ p, g, rd, v⟩
      | none => none
  | .s a, .s b => cvStr op a b
  | .b a, .b b =>
    match tget T t with
    | some ⟨.bool, _, _, _⟩ => match op with
      | .eql => CV.pure (.b (a == b))
      | .neq => CV.pure (.b (!(a == b)))
      | _ => none
    | _ => none
  | _, _ => none
def fits (ti : TI) (y : AV) : Prop := ti.sz = sizeA y ∧ ti.k.isAgg = y.isAgg
def cvLoad (T : List (Nat × TI)) (H : List (Nat × HO)) (t : Nat) : AV → Option CV
  | .ptr key b path off =>
    match tget T t with
    | some ti => match hget H key with
      | some (.var b' c) => match subAt path c with
        | some (o, y) => some ⟨b' = b ∧ o = off ∧ fits ti y, True, some (some key), y⟩
        | none => none
      | _ => none
    | none => none
  | .cp y =>
    match tget T t with
    | some ti => some ⟨fits ti y, True, some none, y⟩
    | none => none
  | _ => none
def cvFieldAddr (T : List (Nat × TI)) (s f : Nat) : AV → Option CV
  | .ptr key b path off =>
    match tget T s with
    | some ⟨.struct fs, _, _, _⟩ => match fs[f]? with
      | some (o, ft) => match tget T ft with
        | some ti => some ⟨ti.sz ≠ 0, True, none, .ptr key b (path ++ [f]) (off + o)⟩
        | none => none
      | none => none
    | _ => none
  | .cp (.agg xs) =>
    match tget T s with
    | some ⟨.struct fs, _, _, _⟩ => match fs[f]? with
      | some (o, ft) => match tget T ft with
        | some ti => match xs[f]? with
          | some y => some ⟨ti.sz ≠ 0 ∧ offL xs f = o, True, none, .cp y⟩
          | none => none
        | none => none
      | none => none
    | _ => none
  | _ => none
def cvField (T : List (Nat × TI)) (s f : Nat) : AV → Option CV
  | .agg xs =>
    match tget T s with
    | some ⟨.struct fs, _, _, _⟩ => match fs[f]? with
      | some (o, ft) => match tget T ft with
        | some ti => match xs[f]? with
          | some y => some ⟨offL xs f = o ∧ fits ti y, True, none, y⟩
          | none => none
        | none => none
      | none => none
    | _ => none
  | _ => none
def cvLen (T : List (Nat × TI)) (H : List (Nat × HO)) (t : Nat) (x : AV) : Option CV :=
  match tget T t with
  | some ⟨.string, _, _, _⟩ => match x with
    | .s x => some ⟨True, x.length ≤ 9223372036854775807, none, .i .i64 x.length⟩
    | _ => none
  | some ⟨.slice _, _, _, _⟩ => match x with
    | .sl _ xs => some ⟨True, xs.length ≤ 9223372036854775807, none, .i .i64 xs.length⟩
    | .nil => CV.pure (.i .i64 0)
    | .vw _ _ _ _ _ n _ => CV.pure (.i .i64 n)
    | .own k v => match hget H k with
      | some (.row v' _ _ xs) => some ⟨v' = v, xs.length ≤ 9223372036854775807, none, .i .i64 xs.length⟩
      | _ => none
    | _ => none
  | some ⟨.array n _, _, _, _⟩ => CV.pure (.i .i64 n)
  | _ => none
def cvConv (T : List (Nat × TI)) (s d : Nat) : AV → Option CV
  | .i _ n => match tget T s, tget T d with
    | some _, some ⟨.int k, _, _, _⟩ => CV.pure (.i k (k.wrap n))
    | _, _ => none
  | .s x => match tget T s, tget T d with
    | some _, some ⟨.string, _, _, _⟩ => CV.pure (.s x)
    | _, _ => none
  | _ => none
def cv (T : List (Nat × TI)) (H : List (Nat × HO)) (e : Operand → AV) : Op → Option CV
  | .move x | .assign x => CV.val_ (e x)
  | .pick c a b => match e c with
    | .b true => CV.val_ (e a)
    | .b false => CV.val_ (e b)
    | _ => none
  | .load t x => cvLoad T H t (e x)
  | .fieldAddr s x f => cvFieldAddr T s f (e x)
  | .field s x f => cvField T s f (e x)
  | .nilCheck x => match e x with
    | .ptr k b p o => CV.pure (.ptr k b p o)
    | .cp y => CV.pure (.cp y)
    | _ => none
  | .binOp op t x y _ => cvBin T op t (e x) (e y)
  | .unOp op _ x => match op, e x with
    | .not, .b t => CV.pure (.b (!t))
    | .neg, .i k n => CV.pure (.i k (k.wrap (0 - n)))
    | .xor, .i k n => CV.pure (.i k (bitsI .xor k (if k.signed then -1 else k.max) n))
    | _, _ => none
  | .convert s d x => cvConv T s d (e x)
  | .extract t i => match e t with
    | .tup xs => match xs[i]? with
      | some x => CV.val_ x
      | none => none
    | _ => none
  | .call ⟨.builtin .len, args, ats⟩ => match args[0]?, ats[0]? with
    | some x, some t => cvLen T H t (e x)
    | _, _ => none
  | .call ⟨.builtin .max, args, _⟩ => match args.toList with
    | [x, y] => match e x, e y with
      | .i k a, .i _ b => CV.pure (.i k (if b > a then b else a))
      | .s a, .s b => CV.pure (.s (if (!Op.bytesLess a b) then a else b))
      | _, _ => none
    | _ => none
  | .call ⟨.builtin .min, args, _⟩ => match args.toList with
    | [x, y] => match e x, e y with
      | .i k a, .i _ b => CV.pure (.i k (if b < a then b else a))
      | .s a, .s b => CV.pure (.s (if (Op.bytesLess a b || a == b) then a else b))
      | _, _ => none
    | _ => none
  | _ => none
def Reads (C : Ctx) (H : List (Nat × HO)) (w w' : World) : Option (Option Nat) → Prop
  | none => True
  | some (some k) => ∀ x b, hget H k = some x → b ∈ x.blk → w'.heap[b]? = w.heap[b]?
  | some none => ∀ b, Fz C H w b → w'.heap[b]? = w.heap[b]?
end Go.Proofs.Ytfdcopbbnmialaa
