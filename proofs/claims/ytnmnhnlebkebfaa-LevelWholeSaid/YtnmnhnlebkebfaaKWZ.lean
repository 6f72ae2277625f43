/- code.Writer by rules: fail, Number, Text, Flag, Done. -/
import Derived.Test.YtnmnhnlebkebfaaV16
import Derived.Test.YtnmnhnlebkebfaaTypes
set_option maxHeartbeats 4000000
namespace Go.Proofs.Ytnmnhnlebkebfaa
open Go Go.RowKit

/-- What a Writer holds: its bytes, its first error. -/
structure WS where
  bs : List UInt8
  e : Int
def WS.fail (s : WS) (x : Int) : WS := if s.e = 0 then { s with e := x } else s
def WS.put (s : WS) (l : List UInt8) : WS := { s with bs := s.bs ++ l }
def digits (n : Nat) : List UInt8 := if n = 0 then [] else digits (n / 256) ++ [UInt8.ofNat n]
termination_by n
decreasing_by omega
def numBytes (n : Nat) : List UInt8 := UInt8.ofNat (digits n).length :: digits n
def WS.number (s : WS) (n : Int) : WS := if n < 0 then s.fail 1 else s.put (numBytes n.toNat)

def wrA (v : Value) (s : WS) : AV := .agg [.own 1 v, .i .i64 s.e]
def wrO (b : Nat) (v : Value) (s : WS) : List HO := [.var b (wrA v s), .row v 5 1 (s.bs.map byA)]
end Go.Proofs.Ytnmnhnlebkebfaa
set_option maxHeartbeats 4000000
namespace Go.Proofs.Ytnmnhnlebkebfaa
open Go Go.RowKit

def WS.text (s : WS) (t : List UInt8) : WS := if 65536 < t.length then s.fail 2 else (s.number t.length).put t
def WS.done (s : WS) : List UInt8 × Int := if s.e ≠ 0 then ([], s.e) else if 65536 < s.bs.length then ([], 2) else (s.bs, 0)
end Go.Proofs.Ytnmnhnlebkebfaa
set_option maxHeartbeats 4000000
namespace Go.Proofs.Ytnmnhnlebkebfaa
open Go Go.RowKit
def txB (t : List UInt8) : List UInt8 := numBytes t.length ++ t
theorem cut_spec (s : List UInt8) (n : Nat) (hn : n ≤ 1000000000000) : Spec Try.prog 26 [.s s, .i .i64 n] [] (fun v os => v = .s (s.take n) ∧ os = []) := by
  refine spec_of TtOk [] Try.func26 rfl Try.ntmps26 (by kernel_rfl) rfl rfl (fun C => ?_) rfl
  repeat' (first | refine Awp.seq ?_ | refine Awp.region ?_ | (refine Ops.nil ?_; show Awp _ _ _ _ _) | (refine Ops.nil ?_; show Exists _) | (refine Ops.nil ?_; show endK _ _ _ _ _) | (refine Awp.skip ?_; show Awp _ _ _ _ _) | (refine Awp.skip ?_; show endK _ _ _ _ _) | (refine Awp.skip ?_; show Exists _) | (refine Awp.ret ?_; show endK _ _ _ _ _) | refine o_len rfl TtOk rfl rfl rfl (fun _ => ?_) | refine o_lenOwn rfl TtOk rfl rfl rfl rfl (fun _ => ?_) | (refine o_calm rfl TtOk rfl rfl rfl ?_ (fun _ => ?_); first | exact True.intro | exact ⟨rfl, rfl, rfl, rfl⟩ | exact ⟨rfl, True.intro⟩ | exact ⟨rfl, rfl⟩ | exact ⟨rfl, rfl, rfl⟩ | exact rfl | exact ⟨fun h0 => by cases h0, rfl⟩ | exact (fun h0 => by cases h0) | exact ⟨rfl, by omega⟩ | exact ⟨Nat.succ_ne_zero _, rfl⟩ | omega) | refine o_sliceCp TtOk rfl rfl rfl rfl rfl rfl ?_ | refine a_condT rfl ?_ | refine a_condF rfl ?_ | (refine a_condP rfl (fun hc => ?_) (fun hc => ?_)) <;> (try (exfalso; omega)) | (refine a_condI rfl (fun hc => ?_) (fun hc => ?_)) <;> (try (exfalso; omega)) | (refine a_condN rfl (fun hc => ?_) (fun hc => ?_)) <;> (try (exfalso; omega)) | (refine Awp.cond rfl (fun hc => ?_) (fun hc => ?_)))
  · refine o_sliceStr TtOk rfl 0 n rfl rfl rfl bnd_none (bnd_some rfl rfl) (by omega) (by omega) ?_
    repeat' (first | refine Awp.seq ?_ | refine Awp.region ?_ | (refine Ops.nil ?_; show Awp _ _ _ _ _) | (refine Ops.nil ?_; show Exists _) | (refine Ops.nil ?_; show endK _ _ _ _ _) | (refine Awp.skip ?_; show Awp _ _ _ _ _) | (refine Awp.skip ?_; show endK _ _ _ _ _) | (refine Awp.skip ?_; show Exists _) | (refine Awp.ret ?_; show endK _ _ _ _ _) | refine o_len rfl TtOk rfl rfl rfl (fun _ => ?_) | refine o_lenOwn rfl TtOk rfl rfl rfl rfl (fun _ => ?_) | (refine o_calm rfl TtOk rfl rfl rfl ?_ (fun _ => ?_); first | exact True.intro | exact ⟨rfl, rfl, rfl, rfl⟩ | exact ⟨rfl, True.intro⟩ | exact ⟨rfl, rfl⟩ | exact ⟨rfl, rfl, rfl⟩ | exact rfl | exact ⟨fun h0 => by cases h0, rfl⟩ | exact (fun h0 => by cases h0) | exact ⟨rfl, by omega⟩ | exact ⟨Nat.succ_ne_zero _, rfl⟩ | omega) | refine o_sliceCp TtOk rfl rfl rfl rfl rfl rfl ?_ | refine a_condT rfl ?_ | refine a_condF rfl ?_ | (refine a_condP rfl (fun hc => ?_) (fun hc => ?_)) <;> (try (exfalso; omega)) | (refine a_condI rfl (fun hc => ?_) (fun hc => ?_)) <;> (try (exfalso; omega)) | (refine a_condN rfl (fun hc => ?_) (fun hc => ?_)) <;> (try (exfalso; omega)) | (refine Awp.cond rfl (fun hc => ?_) (fun hc => ?_)))
    exact end_tmp rfl rfl rfl [] [] (CLe.of_eq rfl) .nil ⟨rfl, rfl⟩ _ (.inl rfl)
  · refine end_tmp rfl rfl rfl [] [] (CLe.of_eq ?_) .nil ⟨rfl, rfl⟩ _ (.inl rfl)
    rw [List.take_of_length_le (by omega)]; rfl
end Go.Proofs.Ytnmnhnlebkebfaa
