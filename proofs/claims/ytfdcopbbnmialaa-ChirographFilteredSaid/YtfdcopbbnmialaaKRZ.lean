/- code.Reader by rules: take, fail. -/
import Derived.Test.YtfdcopbbnmialaaV14Z
import Derived.Test.YtfdcopbbnmialaaTypes
import Derived.Test.YtfdcopbbnmialaaProg
import Derived.Test.YtfdcopbbnmialaaBase2Z
import Derived.Lib.ConvBytes
import Derived.Lib.AppendStr
import Derived.Laws.IdiomStrings
import Derived.Laws.BytesArg
import Derived.Laws.BitsAllLaws
import Derived.Laws.BitsLemmas
import Derived.Test.YtfdcopbbnmialaaKH5
import Derived.Test.YtfdcopbbnmialaaCUZ
set_option maxHeartbeats 4000000
namespace Go.Proofs.Ytfdcopbbnmialaa
open Go Go.RowKit

/-- What a Reader holds. -/
structure RS where
  s : List UInt8
  p : Nat
  e : Int
def RS.ok (r : RS) : Prop := r.p ≤ r.s.length ∧ r.s.length ≤ 9223372036854775807
def rdA (r : RS) : AV := .agg [.s r.s, .i .i64 r.p, .i .i64 r.e]
def RS.take (r : RS) (n : Nat) : List UInt8 × RS :=
  if r.e ≠ 0 then ([], r) else if r.s.length - r.p < n then ([], ⟨r.s, r.p, 5⟩) else ((r.s.drop r.p).take n, ⟨r.s, r.p + n, 0⟩)
def RS.fail (r : RS) (x : Int) : RS := if r.e = 0 then ⟨r.s, r.p, x⟩ else r
end Go.Proofs.Ytfdcopbbnmialaa
namespace Go.Proofs.Ytfdcopbbnmialaa
open Go.RowKit

def byC (c : UInt8) : List Value := [.int .u8 (c.toNat : Int)]
end Go.Proofs.Ytfdcopbbnmialaa
set_option maxHeartbeats 4000000
namespace Go.Proofs.Ytfdcopbbnmialaa
open Go Go.RowKit

def be (l : List UInt8) : Nat := l.foldl (fun n c => 256 * n + c.toNat) 0
def badNum (sz : Nat) (l : List UInt8) : Bool := match l with
  | [] => false
  | c :: _ => c.toNat == 0 || sz == 8 && decide (127 < c.toNat)
def hd0 (l : List UInt8) : Nat := (l.headD 0).toNat
def RS.number (r : RS) : Nat × RS :=
  if (r.take 1).1 = [] then (0, (r.take 1).2) else
  if 8 < hd0 (r.take 1).1 then (0, (r.take 1).2.fail 4) else
  if badNum (hd0 (r.take 1).1) ((r.take 1).2.take (hd0 (r.take 1).1)).1 then (0, ((r.take 1).2.take (hd0 (r.take 1).1)).2.fail 4)
  else (be ((r.take 1).2.take (hd0 (r.take 1).1)).1, ((r.take 1).2.take (hd0 (r.take 1).1)).2)
end Go.Proofs.Ytfdcopbbnmialaa
set_option maxHeartbeats 4000000
namespace Go.Proofs.Ytfdcopbbnmialaa
open Go Go.RowKit

def RS.big (r : RS) (n : Nat) : RS := if r.e = 0 ∧ 65536 < n then r.fail 2 else r
def RS.text (r : RS) : List UInt8 × RS := (r.number.2.big r.number.1).take r.number.1
def RS.below (r : RS) (most : Int) : Nat × RS := if most ≤ (r.number.1 : Int) then (0, r.number.2.fail 2) else r.number
def RS.flag (r : RS) : Bool × RS :=
  if Op.bytesLess (r.take 1).1 [1] || (r.take 1).1 == [1] then ((r.take 1).1 == [1], (r.take 1).2) else (false, (r.take 1).2.fail 4)
def RS.done (r : RS) : Int := if r.e = 0 ∧ r.p < r.s.length then 3 else r.e
def RS.open (s : List UInt8) : RS := ⟨s, 0, if 65536 < s.length then 2 else 0⟩
end Go.Proofs.Ytfdcopbbnmialaa
set_option maxHeartbeats 4000000
namespace Go.Proofs.Ytfdcopbbnmialaa
open Go Go.RowKit
def few8 (l : List (List UInt8)) (n : Nat) : List (List UInt8) := (l.take n).map (fun s => s.take 100)
def fbytes (p : Int) (b : List UInt8) : List UInt8 × Int := if goodB p (bitsOf b).length then (numBytes p.toNat ++ txB b, 0) else ([], 3)
def fread (s : List UInt8) : Int × List UInt8 × Int :=
  if (RS.open s).number.2.text.2.done ≠ 0 then (0, [], (RS.open s).number.2.text.2.done)
  else if goodB ((RS.open s).number.1 : Nat) (bitsOf (RS.open s).number.2.text.1).length then (((RS.open s).number.1 : Nat), (RS.open s).number.2.text.1, 0) else (0, [], 3)
end Go.Proofs.Ytfdcopbbnmialaa
namespace Go.Proofs.Ytfdcopbbnmialaa
end Go.Proofs.Ytfdcopbbnmialaa
set_option maxHeartbeats 4000000
namespace Go.Proofs.Ytfdcopbbnmialaa
open Go Go.RowKit
end Go.Proofs.Ytfdcopbbnmialaa
set_option maxHeartbeats 4000000
namespace Go.Proofs.Ytfdcopbbnmialaa
open Go Go.RowKit
/-- Of a filter that was made, each key is there. -/
theorem mk_bits (keys : List (List UInt8)) (e : Nat) (x : Nat) : (bitsOf (mkF keys e)).getD x true = ((List.replicate (8 * nbOf keys.length e) false).getD x true || (keys.map hashN).any (fun H => decide (x ∈ placesN H (pOf e) (8 * nbOf keys.length e)))) := by
  unfold mkF
  rw [mkBits_bits, bitsOf_zero, List.length_replicate, mkB_iff]
theorem mkF_len (keys : List (List UInt8)) (e : Nat) : (mkF keys e).length = nbOf keys.length e := by
  unfold mkF; rw [mkBits_len, List.length_replicate]
theorem may_has (keys : List (List UInt8)) (e : Nat) (k : List UInt8) (hk : k ∈ keys) : mayB (pOf e : Nat) (bitsOf (mkF keys e)) (hashN k) = true := by
  unfold mayB
  have h : (placesN (hashN k) (Int.toNat (pOf e : Nat)) (bitsOf (mkF keys e)).length).all (fun x => (bitsOf (mkF keys e)).getD x true) = true := by
    rw [List.all_eq_true]
    intro x hx
    rw [bitsOf_len, mkF_len] at hx
    show (bitsOf (mkF keys e)).getD x true = true
    rw [mk_bits, Bool.or_eq_true, List.any_eq_true]
    exact .inr ⟨hashN k, List.mem_map.2 ⟨k, hk, rfl⟩, by rw [decide_eq_true_eq]; exact hx⟩
  rw [h, Bool.or_true]
end Go.Proofs.Ytfdcopbbnmialaa
