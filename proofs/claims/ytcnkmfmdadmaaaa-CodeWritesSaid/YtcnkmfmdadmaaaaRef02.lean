/- law02's reference: Number, Text, Label, Flag in strings. -/
import Derived.Test.YtcnkmfmdadmaaaaCodeAw
namespace Go.Proofs.Ytcnkmfmdadmaaaa
open Go.RowKit
def bytesOf (l : List UInt8) : ByteArray := ⟨l.toArray⟩
theorem bytesOf_app (a b : List UInt8) : bytesOf a ++ bytesOf b = bytesOf (a ++ b) := by
  have h : (bytesOf a ++ bytesOf b).data = (bytesOf (a ++ b)).data := by
    rw [ByteArray.data_append]; simp [bytesOf]
  cases hx : bytesOf a ++ bytesOf b with
  | mk d => rw [hx] at h; exact congrArg ByteArray.mk h
theorem str1 (w : World) (x : Int) (c : UInt8) (h : x = (c.toNat : Int)) : (convert 37 9 (.slice (some ⟨w.heap.size, 0, none⟩) 1 1)).run Try.prog (w.alloc (.cells #[.int .u8 x] 5)) = .ok (.string (bytesOf [c])) (w.alloc (.cells #[.int .u8 x] 5)) := by
  subst h
  exact run_str (l := [c]) (SlA.of_blk (Blk.new w 5 #[.int .u8 (c.toNat : Int)]) byC_length rfl) rfl
theorem byte_of (j : Nat) : ((j : Int) % 256) = ((UInt8.ofNat j).toNat : Int) := by rw [UInt8.toNat_ofNat']; omega
theorem bytesOf_size (l : List UInt8) : (bytesOf l).size = l.length := rfl
theorem numBytes_app (n : Nat) : numBytes n = [UInt8.ofNat (digits n).length] ++ digits n := by rw [List.singleton_append]; rfl
set_option maxRecDepth 100000 in
theorem refNumber_any (n : Nat) (hn : n < 9223372036854775808) (w : World) :
    Calls Try.prog 44 #[.int .i64 (n : Nat)] w fun e w' => e = .returned (.string (bytesOf (numBytes n))) ∧ Below w.heap.size w w' := by
  have HN := Box.mk hn
  have hle := digits_le 8 n (by omega)
  have HL := Box.mk hle
  clear hn hle
  go_enter Try.func44, Try.ntmps44
  go_wp2
  go_loopw [3, 4] (fun s m wr => ∃ (l : List UInt8) (j : Nat), s = .string (bytesOf l) ∧ m = .int .i64 j ∧ Box (j ≤ n) ∧ Box (digits j ++ l = digits n) ∧ Below w.heap.size w wr) (fun _ m _ => (intOf m).toNat)
  case atStart => exact ⟨[], n, rfl, rfl, Box.mk (Nat.le_refl _), Box.mk (List.append_nil _), Below.refl _ _⟩
  case round =>
    obtain ⟨l, j, rfl, rfl, hj, hl, hb⟩ := hrel
    by_cases hj0 : j = 0
    · subst hj0
      have hst := str1 wr _ _ (byte_of (bytesOf l).size)
      have hl' : l = digits n := by have := hl.out; rw [digits_zero, List.nil_append] at this; exact this
      have HR := Box.mk (show bytesOf [UInt8.ofNat (bytesOf l).size] ++ bytesOf l = bytesOf (numBytes n) by rw [bytesOf_app, bytesOf_size, hl', ← numBytes_app])
      have hs1 : ((bytesOf [UInt8.ofNat (bytesOf l).size]).size : Int) ≤ 8388608 := by rw [bytesOf_size]; simp
      have hs2 : ((bytesOf l).size : Int) ≤ 8388608 := by rw [bytesOf_size, hl']; have := HL.out; omega
      clear hl'
      go_wp2
      go_ret
      exact ⟨congrArg (fun x => Ending.returned (Value.string x)) HR.out, hb.alloc hb.size _⟩

    · have hjp : (0 : Int) < (j : Int) := by omega
      have hst := str1 wr _ _ (byte_of j)
      have HD := Box.mk (digits_pos hj0)
      have hwr : wrap64 ((j : Int) / 256) = (j : Int) / 256 := by rw [← IntWalk.i64_left]; exact IntWalk.i64_in _ (by have := HN.out; have := hj.out; omega)
      have hs1 : ((bytesOf [UInt8.ofNat j]).size : Int) ≤ 8388608 := by rw [bytesOf_size]; simp
      have hs2 : ((bytesOf l).size : Int) ≤ 8388608 := by
        have h1 := congrArg List.length hl.out
        rw [List.length_append] at h1
        rw [bytesOf_size]; have := HL.out; omega
      have hwr : wrap64 ((j : Int) / 256) = (j : Int) / 256 := by rw [← IntWalk.i64_left]; exact IntWalk.i64_in _ (by have := HN.out; have := hj.out; omega)
      have hsz : (9223372036854775807 < (bytesOf [UInt8.ofNat j]).size + (bytesOf l).size) = False := by
        have h1 := congrArg List.length hl.out
        rw [List.length_append] at h1
        rw [bytesOf_size, bytesOf_size]; have := HL.out; simp; omega
      go_wp2
      go_roundw
      case rel => exact ⟨UInt8.ofNat j :: l, j / 256, by rw [show UInt8.ofNat j :: l = [UInt8.ofNat j] ++ l from rfl, ← bytesOf_app], by go_num, Box.mk (by have := hj.out; omega), Box.mk (by have := hl.out; rw [HD.out] at this; simpa using this), hb.alloc hb.size _⟩
      case measure => rw [hwr]; simp [intOf]; omega
end Go.Proofs.Ytcnkmfmdadmaaaa
