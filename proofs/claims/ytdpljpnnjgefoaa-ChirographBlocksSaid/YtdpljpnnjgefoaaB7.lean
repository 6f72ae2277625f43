/- law09.awake: what a block of two entries comes to; by rules. -/
import Derived.Test.YtdpljpnnjgefoaaB5
import Derived.Test.YtdpljpnnjgefoaaB6
import Derived.ProofKit
set_option maxHeartbeats 8000000
set_option maxRecDepth 100000
namespace Go.Proofs.Ytdpljpnnjgefoaa
open Go Go.RowKit
theorem ofNat_toNat (n : Nat) : (UInt8.ofNat n).toNat = n % 256 := UInt8.toNat_ofNat'
theorem sopen_wrap (T more : List UInt8) (h : T.length ≤ 65536) : sopen (sealWrap T ++ more) = (T, 8 + T.length, 0) := by
  have hx := crc_lt (sealHead T.length ++ T)
  have e : sealWrap T ++ more = 94 :: UInt8.ofNat (T.length / 65536) :: UInt8.ofNat (T.length / 256) :: UInt8.ofNat T.length :: UInt8.ofNat (crc (sealHead T.length ++ T) / 16777216) :: UInt8.ofNat (crc (sealHead T.length ++ T) / 65536) :: UInt8.ofNat (crc (sealHead T.length ++ T) / 256) :: UInt8.ofNat (crc (sealHead T.length ++ T)) :: (T ++ more) := by
    unfold sealWrap four
    rw [List.append_assoc, List.append_assoc]
    generalize crc (sealHead T.length ++ T) = x
    rfl
  have hn : n3 (UInt8.ofNat (T.length / 65536)) (UInt8.ofNat (T.length / 256)) (UInt8.ofNat T.length) = T.length := by
    unfold n3; rw [ofNat_toNat, ofNat_toNat, ofNat_toNat]; omega
  have ht : (T ++ more).take T.length = T := by rw [List.take_left]
  have hd : [94, UInt8.ofNat (T.length / 65536), UInt8.ofNat (T.length / 256), UInt8.ofNat T.length] = sealHead T.length := rfl
  rw [e]
  unfold sopen
  dsimp only
  rw [hn, ht, hd]
  generalize crc (sealHead T.length ++ T) = x at hx
  have h4 : n4 (UInt8.ofNat (x / 16777216)) (UInt8.ofNat (x / 65536)) (UInt8.ofNat (x / 256)) (UInt8.ofNat x) = x := by
    unfold n4; rw [ofNat_toNat, ofNat_toNat, ofNat_toNat, ofNat_toNat]; omega
  rw [h4, if_neg (by rintro (h1 | h1); exact h1 rfl; omega), if_neg (by rw [List.length_append]; omega), if_pos rfl]
def twoE : List Etr := [⟨[97, 97], [49], false⟩, ⟨[97, 98], [], true⟩]
def twoT : List UInt8 := [1, 2, 0, 1, 2, 97, 97, 0, 1, 1, 49, 1, 1, 1, 1, 98, 1]
def breadO (o : List UInt8 × Nat × Int) : List Etr × Nat × Int :=
  if o.2.2 ≠ 0 then ([], 0, o.2.2) else
  match bloop ((RS.open o.1).below 257).1 ((RS.open o.1).below 257).2 [] [] with
  | none => ([], 0, 3)
  | some (r, l) => if r.done ≠ 0 then ([], 0, r.done) else if checkN l ≠ 0 then ([], 0, checkN l) else (l, o.2.1, 0)
theorem bread_O (s : List UInt8) : bread s = breadO (sopen s) := rfl
end Go.Proofs.Ytdpljpnnjgefoaa
