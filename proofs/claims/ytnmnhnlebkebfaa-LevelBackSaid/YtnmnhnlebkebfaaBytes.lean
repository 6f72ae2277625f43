/- Bytes in memory: []byte of a string and back, append of a string, copy. -/
import Derived.Test.YtnmnhnlebkebfaaProg
import Derived.Test.YtnmnhnlebkebfaaBase2Z
import Derived.Lib.ConvBytes
import Derived.Lib.AppendStr
import Derived.Laws.IdiomStrings
import Derived.Laws.BytesArg
import Derived.Laws.BitsAllLaws
import Derived.Laws.BitsLemmas
namespace Go.Proofs.Ytnmnhnlebkebfaa
open Go.RowKit

def byC (c : UInt8) : List Value := [.int .u8 (c.toNat : Int)]
theorem byC_length (c : UInt8) : (byC c).length = 1 := rfl
theorem byC_one (c : UInt8) : ∀ u ∈ byC c, u.oneCell' = true := by intro u hu; simp [byC] at hu; subst hu; rfl
theorem byC_pos (c : UInt8) : 0 < (byC c).length := by simp [byC]
theorem byElem : Elem Try.prog 90 5 1 1 := elem_of Try.underlying90 (by kernel_rfl)
theorem flat_byC (l : List UInt8) : l.flatMap byC = l.map fun b => Value.int .u8 b.toNat := by
  induction l with
  | nil => rfl
  | cons c l ih => simp only [List.flatMap_cons, List.map_cons, ih]; rfl
theorem strCells_eq (s : ByteArray) : Lib.strCells s = s.data.toList.flatMap byC := by rw [flat_byC]; rfl
theorem size_eq (s : ByteArray) : s.size = s.data.toList.length := by cases s; rfl

theorem ofInt_i64 (a : Nat) (ha : a < 9223372036854775808) : (BitVec.ofInt 64 (a : Int)).toNat = a := by
  rw [BitVec.ofInt_natCast, BitVec.toNat_ofNat]; exact Nat.mod_eq_of_lt (by omega)
theorem i64_or_nat (a b : Nat) (ha : a < 9223372036854775808) (hb : b < 9223372036854775808) : bits .or .i64 (a : Int) (b : Int) = ((a ||| b : Nat) : Int) := by
  have hx : a ||| b < 2 ^ 63 := Nat.or_lt_two_pow (by omega) (by omega)
  show IntKind.i64.wrap ((BitVec.ofInt 64 (a : Int) ||| BitVec.ofInt 64 (b : Int)).toNat : Int) = _
  rw [BitVec.toNat_or, ofInt_i64 a ha, ofInt_i64 b hb, IntKind.wrap_i64]
  omega
/-- 'n<<8 | c'. -/
theorem or_byte (x c : Nat) (hc : c < 256) (hx : 256 * x + c < 9223372036854775808) : bits .or .i64 ((x : Int) * 256) (c : Int) = ((256 * x + c : Nat) : Int) := by
  have h1 : ((x : Int) * 256) = ((256 * x : Nat) : Int) := by omega
  rw [h1, i64_or_nat _ _ (by omega) (by omega), ← Nat.two_pow_add_eq_or_of_lt (i := 8) (by omega)]
/-- '[]byte(s)'. -/
theorem run_bytes (s : ByteArray) (w : World) : (convert 9 90 (.string s)).run Try.prog w = .ok (.slice (some ⟨w.heap.size, 0, none⟩) s.size (grownCap w s.size 0 5)) (Lib.bytesWorld w 5 s) :=
  Lib.run_convert_string_bytes w _ _ _ s Try.underlying9 Try.underlying90 Try.underlying5
theorem bytes_below (w : World) (e : TypeId) (s : ByteArray) : Below w.heap.size w (Lib.bytesWorld w e s) :=
  ⟨rfl, rfl, rfl, by rw [Lib.bytesWorld_size]; omega, fun k hk => Lib.bytesWorld_at_old w e s k hk⟩
theorem bytes_sl (w : World) (e : TypeId) (s : ByteArray) : SlA (Lib.bytesWorld w e s) (fun k => k = w.heap.size) byC 1 (some ⟨w.heap.size, 0, none⟩) s.data.toList := fun _ =>
  ⟨w.heap.size, 0, rfl, rfl, fun k x hk j u hu => by
    obtain ⟨hk', hx⟩ := List.getElem?_eq_some_iff.1 hk
    have hj : j = 0 := by have := (List.getElem?_eq_some_iff.1 hu).1; simp [byC] at this; omega
    subst hj
    simp [byC] at hu; subst hu
    rw [show 0 + k * 1 + 0 = k by omega, Lib.bytesWorld_cell w e s k (by rw [size_eq]; exact hk')]
    simp [List.getD, hk]⟩

/-- 'string(b)'. -/
theorem run_str {w : World} {F : Nat → Prop} {A : Option Addr} {n cap : Nat} {l : List UInt8} (h : SlA w F byC 1 A l) (hn : n = l.length) : (convert 90 9 (.slice A n cap)).run Try.prog w = .ok (.string ⟨l.toArray⟩) w := by
  subst hn
  rcases A with _ | ad
  · have hl : l = [] := by
      rcases l with _ | ⟨y, ys⟩
      · rfl
      · obtain ⟨b, off, hA, _⟩ := h (by simp); cases hA
    subst hl
    exact run_convert_bytes_nil w 90 5 Try.underlying90 Try.underlying5 _ _ 9 Try.underlying9
  · refine run_convert_bytes_back w _ _ _ ad cap l Try.underlying90 Try.underlying5 Try.underlying9 fun j hj => ?_
    obtain ⟨b, off, hA, _, hc⟩ := h (by rintro rfl; simp at hj)
    injection hA with hA; subst hA
    have := hc j l[j] (List.getElem?_eq_getElem hj) 0 _ rfl
    rw [show off + j * 1 + 0 = off + j by omega] at this
    rw [show ((⟨b, off, none⟩ : Addr).add j) = ⟨b, off + j, none⟩ by unfold Addr.add; split <;> simp_all]
    exact this

theorem byInfo : (Try.prog.info? 5).map (fun i => (i.zero, i.size, i.bytes)) = some (some (.int .u8 0), 1, 1) := by kernel_rfl

/-- append of a string's bytes onto a row of the call's own: where the new row lies, too. -/
theorem run_appStr (w : World) (ty : TypeId) (v : Value) (xs : List UInt8) (hown : Own w 0 5 byC 1 v xs) (s : ByteArray) (hlen : xs.length + s.size ≤ 140737488355328) :
    ∃ v' w', (Builtin.append_ #[90, 9] ty #[v, .string s]).run Try.prog w = .ok v' w' ∧ Own w' 0 5 byC 1 v' (xs ++ s.data.toList) ∧ w.grownBy w' v.ownBlock ∧ (v'.ownBlock = v.ownBlock ∨ v'.ownBlock = some w.heap.size) := by
  obtain ⟨i, hi, hz, hz1, hz2⟩ := info_parts byInfo
  have ut := Try.underlying90
  have us := Try.underlying9
  have hm : xs.length + s.size ≤ maxLen := by unfold maxLen; omega
  obtain ⟨v', w', hr, h2, h3, h4⟩ := Lib.run_append_own_string (P := Try.prog) w 0 90 9 ty 5 i ut us hi hz hz1 hz2 v xs.length (xs.flatMap byC) hown s hm hlen (Nat.zero_le _)
  refine ⟨v', w', hr, ?_, h3, ?_⟩
  · unfold Own
    rw [List.length_append, List.flatMap_append, ← strCells_eq, ← size_eq]
    exact h2
  · rcases hown.2 with ⟨rfl, h0⟩ | ⟨g, cap, cur, rfl, _, hg, hnc, hcm, hcs, htake⟩
    · by_cases hs : s.size = 0
      · exact .inl (by rw [h4.2 ⟨rfl, hs⟩])
      · have hr2 := run_append_nil_string (P := Try.prog) w 90 9 ty 5 i (.int .u8 0) ut us hi hz s (by omega) (by omega) (by rw [hz2]; omega)
        rw [hr2] at hr; injection hr with e1 e2
        exact .inr (by rw [← e1]; rfl)
    · by_cases hroom : xs.length + s.size ≤ cap
      · have hr2 := Lib.run_append_room_string (P := Try.prog) w 90 9 ty 5 i ut us hi hz1 g xs.length cap cur hg s hroom (by rw [hcs]; omega)
        rw [hr2] at hr; injection hr with e1 e2
        exact .inl (by rw [← e1]; rfl)
      · have holds : ∀ j u, (xs.flatMap byC)[j]? = some u → w.cell? ((⟨g, 0, none⟩ : Addr).add j) = some u := World.ownsRow.cells hown (g := g) rfl
        have hr2 := Lib.run_append_grow_string (P := Try.prog) w 90 9 ty 5 i (.int .u8 0) ut us hi hz ⟨g, 0, none⟩ xs.length cap (xs.flatMap byC) (by rw [hz1]; exact flat_length byC_length xs) holds s (by omega) (by omega) (growslice_fits (by omega) (by rw [hz2]; omega))
        rw [hr2] at hr; injection hr with e1 e2
        exact .inr (by rw [← e1]; rfl)
theorem wpList_appStr {ops : Array Oper} {rest : List Oper} {o : Oper} {a : Act} {w : World} {Q : Exit → Act → World → Prop} (hgd : o.guard = none) (sl x : Operand)
    (ho : o.op = .call { callee := .builtin .append, args := #[sl, x], argTypes := #[90, 9] })
    {v : Value} {xs : List UInt8} (hs : a.eval sl = v) (hown : Own w 0 5 byC 1 v xs) (s : ByteArray) (hx : a.eval x = .string s) (hlen : xs.length + s.size ≤ 140737488355328)
    (h : ∀ v' w', Own w' 0 5 byC 1 v' (xs ++ s.data.toList) → w.grownBy w' v.ownBlock → (v'.ownBlock = v.ownBlock ∨ v'.ownBlock = some w.heap.size) → wpList Try.prog ops Q rest (a.put o.dst v') w') : wpList Try.prog ops Q (o :: rest) a w := by
  refine wpList_plain hgd fun K hK => ?_
  obtain ⟨v', w', hr, h2, h3, h4⟩ := run_appStr w o.type v xs hown s hlen
  unfold Oper.wp execOp
  simp only [ho, resolve, invoke, builtin, Sem.run_bind, Sem.run_pure, Result.andThen_ok, List.map_toArray, List.map_cons, List.map_nil, hs, hx, hr]
  exact hK _ _ (h v' w' h2 h3 h4)
end Go.Proofs.Ytnmnhnlebkebfaa
