/- law08.BloomMakes by rules. -/
import Derived.Test.YtdpljpnnjgefoaaKH7Z
import Derived.Test.YtdpljpnnjgefoaaKFZ
set_option maxHeartbeats 4000000
namespace Go.Proofs.Ytdpljpnnjgefoaa
open Go Go.RowKit
end Go.Proofs.Ytdpljpnnjgefoaa
set_option maxHeartbeats 4000000
namespace Go.Proofs.Ytdpljpnnjgefoaa
open Go Go.RowKit
theorem fread_fbytes {p : Nat} {b : List UInt8} (hg : goodB p (bitsOf b).length = true) : fread (fbytes p b).1 = ((p : Int), b, 0) := by
  have hf : fbytes p b = (numBytes p ++ txB b, 0) := by unfold fbytes; rw [if_pos hg]; rfl
  rw [hf]
  have hg2 := hg
  rw [bitsOf_len, goodB_iff] at hg2
  have hl1 := numBytes_len p (by omega)
  have hl2 : (txB b).length ≤ 9000 := by unfold txB; rw [List.length_append]; have := numBytes_len b.length (by omega); omega
  have hsl : (numBytes p ++ txB b).length = (numBytes p).length + (txB b).length := List.length_append
  have ho : RS.open (numBytes p ++ txB b) = ⟨numBytes p ++ txB b, 0, 0⟩ := by unfold RS.open; rw [if_neg (by omega)]
  have h1 := RS.number_reads ⟨numBytes p ++ txB b, 0, 0⟩ rfl p (by omega) (txB b) (by unfold RS.rest; rfl)
  have h2 := RS.text_reads ⟨numBytes p ++ txB b, 0 + (numBytes p).length, 0⟩ rfl b (by omega) [] (by
    unfold RS.rest
    rw [Nat.zero_add]
    show List.drop (numBytes p).length (numBytes p ++ txB b) = _
    rw [List.drop_left, List.append_nil]; rfl)
  have hn : (RS.open (numBytes p ++ txB b)).number = (p, ⟨numBytes p ++ txB b, 0 + (numBytes p).length, 0⟩) := by rw [ho]; exact h1
  have ht : (RS.open (numBytes p ++ txB b)).number.2.text = (b, ⟨numBytes p ++ txB b, 0 + (numBytes p).length + (textBytes b).length, 0⟩) := by rw [hn]; exact h2
  have hd : (RS.open (numBytes p ++ txB b)).number.2.text.2.done = 0 := by
    rw [ht]
    unfold RS.done
    rw [if_neg]
    rintro ⟨_, h3⟩
    have h4 : 0 + (numBytes p).length + (txB b).length < (numBytes p ++ txB b).length := h3
    omega
  unfold fread
  rw [if_neg (fun h => h hd), if_pos (by rw [hn] at ht ⊢; rw [show (((p, (⟨numBytes p ++ txB b, 0 + (numBytes p).length, 0⟩ : RS)) : Nat × RS).2.text) = _ from ht]; exact hg)]
  rw [ht, hn]
end Go.Proofs.Ytdpljpnnjgefoaa
