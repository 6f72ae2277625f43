/-
  No cell of these rows narrows 'for every input' (looked for: loops, veiled, ifaces, maps, wideKeys, modest, calm, conditions, laid).
  DERIVED. THE GIVEN ROWS OF THIS SEAT. 3 by the template 'for every input the law returns true; each argument reads behind the call as it read before'; 0 by the template 'total and deterministic' (their statements: YtginkbjclkdglaaGreatTotals.lean).
  GIVEN WITH THE SEED: the statements are not yours to turn. If you find one false, say at which input.
  Laid BY PROGRAM, IN A SANDBOX (cutbox-rows.mjs): the forced cells as the released guide's own fill.sh prints them over the translation 9ea42c5272f21634… (all of the seat's roots in one cut). By AI agents, Wed Nov 11 2026. No macro, syntax, notation, axiom, sorry.
-/
import Derived.Test.YtginkbjclkdglaaGreatChecked
import GoSem.Claim
import GoSem.ClaimJoined
import GoSem.ClaimMapViews
import Derived.JoinedTies
import Derived.KernelRfl
namespace Go.Proofs.YtginkbjclkdglaaGreat
/- THE CELL 'sum', in the pinned program and in every row, IS THE sha256 OF THE DUMP (.gsa) THAT YtginkbjclkdglaaGreatProg.lean LOADS. Nothing in Lean hashes anything: it is a label: what it is worth is what the hold of that sum in a sandbox is worth. -/
noncomputable def Tryz.pinned : Pinned := { name := "ytginkbjclkdglaagreat", sum := "9ea42c5272f21634fbfa239a524f5a3e57a8df102d7c6dcffbcd3c85130545ba", checked := Tryz.checked }
namespace Rows
def none {H : Type} : Left H := { results := [], args := [] }

/-- 'chirographlaw13.StoreFull': WHATEVER THE INPUT: true; the input reads as it did. -/
def storeFullSpec : ChangeSpec := { name := "storeFull", fn := fun _ => fun
  | [d1, d2] => { results := [.lit (.bool true)], args := [d1, d2] }
  | _ => none }
def storeFullRow : OpenClaim := { program := "ytginkbjclkdglaagreat", sum := "9ea42c5272f21634fbfa239a524f5a3e57a8df102d7c6dcffbcd3c85130545ba", func := "chirograph/chirographlaw13.StoreFull", spec := "storeFull", inPlace := ["slices.overlaps[chirograph/api.Entry]"], unfollowed := true, recurses := true, apart := false }
def StoreFullSaid : Prop := storeFullRow.holds Tryz.pinned (OpenSpec.ofChange storeFullSpec)

/-- ITS FALSE NEIGHBOUR: 'it returns false'. Refute it at one input. -/
def storeFullWrong : ChangeSpec := { name := "storeFull", fn := fun _ => fun
  | [d1, d2] => { results := [.lit (.bool false)], args := [d1, d2] }
  | _ => none }
def StoreFullWrongFalsely : Prop := storeFullRow.holds Tryz.pinned (OpenSpec.ofChange storeFullWrong)

/-- 'chirographlaw13.StoreHalves': WHATEVER THE INPUT: true; the input reads as it did. -/
def storeHalvesSpec : ChangeSpec := { name := "storeHalves", fn := fun _ => fun
  | [d1, d2] => { results := [.lit (.bool true)], args := [d1, d2] }
  | _ => none }
def storeHalvesRow : OpenClaim := { program := "ytginkbjclkdglaagreat", sum := "9ea42c5272f21634fbfa239a524f5a3e57a8df102d7c6dcffbcd3c85130545ba", func := "chirograph/chirographlaw13.StoreHalves", spec := "storeHalves", inPlace := ["slices.overlaps[chirograph/api.Entry]"], unfollowed := true, recurses := true, apart := false }
def StoreHalvesSaid : Prop := storeHalvesRow.holds Tryz.pinned (OpenSpec.ofChange storeHalvesSpec)

/-- ITS FALSE NEIGHBOUR: 'it returns false'. Refute it at one input. -/
def storeHalvesWrong : ChangeSpec := { name := "storeHalves", fn := fun _ => fun
  | [d1, d2] => { results := [.lit (.bool false)], args := [d1, d2] }
  | _ => none }
def StoreHalvesWrongFalsely : Prop := storeHalvesRow.holds Tryz.pinned (OpenSpec.ofChange storeHalvesWrong)

/-- 'chirographlaw13.StoreAlike': WHATEVER THE INPUT: true; the input reads as it did. -/
def storeAlikeSpec : ChangeSpec := { name := "storeAlike", fn := fun _ => fun
  | [d1, d2] => { results := [.lit (.bool true)], args := [d1, d2] }
  | _ => none }
def storeAlikeRow : OpenClaim := { program := "ytginkbjclkdglaagreat", sum := "9ea42c5272f21634fbfa239a524f5a3e57a8df102d7c6dcffbcd3c85130545ba", func := "chirograph/chirographlaw13.StoreAlike", spec := "storeAlike", inPlace := ["slices.overlaps[chirograph/api.Entry]"], unfollowed := true, recurses := true, apart := false }
def StoreAlikeSaid : Prop := storeAlikeRow.holds Tryz.pinned (OpenSpec.ofChange storeAlikeSpec)

/-- ITS FALSE NEIGHBOUR: 'it returns false'. Refute it at one input. -/
def storeAlikeWrong : ChangeSpec := { name := "storeAlike", fn := fun _ => fun
  | [d1, d2] => { results := [.lit (.bool false)], args := [d1, d2] }
  | _ => none }
def StoreAlikeWrongFalsely : Prop := storeAlikeRow.holds Tryz.pinned (OpenSpec.ofChange storeAlikeWrong)

/- THE SECOND FORM. 'bulk': how many values and letters a reading holds, each counted each time it is reached (what is shared counts as often as it is met; a slice's spare places count too). A statement '..UptoSaid' is the law's where the arguments, and the package variables that the reading takes, are together of bulk at most 1048576: NARROWER than '..Said'. Prove '..Said' where nothing that the law and all that it calls make is longer than what came in: it says more and counts as full. Else prove '..UptoSaid'. A law counts once. -/
mutual
def uptoBulk {H : Type} : DataW H → Nat
  | .lit (.string bytes) => bytes.length + 1
  | .lit _ => 1
  | .nil => 1
  | .ptr d => uptoBulk d + 1
  | .slice elems spare => uptoBulkAll elems + uptoBulkAll spare + 1
  | .agg parts => uptoBulkAll parts + 1
  | .iface _ d => uptoBulk d + 1
  | .map entries => uptoBulkEntries entries + 1
  | .held _ => 1
def uptoBulkAll {H : Type} : List (DataW H) → Nat
  | [] => 0
  | d :: r => uptoBulk d + uptoBulkAll r
def uptoBulkEntries {H : Type} : List (Lit × DataW H) → Nat
  | [] => 0
  | x :: r => uptoBulkEntry x + uptoBulkEntries r
def uptoBulkEntry {H : Type} : Lit × DataW H → Nat
  | (.string bytes, d) => bytes.length + uptoBulk d + 1
  | (_, d) => uptoBulk d + 1
 end
def uptoSmall : (H : Type) → List (DataW H) → Bool := fun _ ds => decide (uptoBulkAll ds ≤ 1048576)
def OpenSpec.upto (s : _root_.Go.ChangeSpec) : _root_.Go.OpenSpec := { _root_.Go.OpenSpec.ofChange s with cond := some uptoSmall }

/-- 'chirographlaw13.StoreFull', WHERE WHAT IT READS IS OF BULK AT MOST 1048576: true; the input reads as it did. -/
def storeFullUptoRow : OpenClaim := { program := "ytginkbjclkdglaagreat", sum := "9ea42c5272f21634fbfa239a524f5a3e57a8df102d7c6dcffbcd3c85130545ba", func := "chirograph/chirographlaw13.StoreFull", spec := "storeFull", inPlace := ["slices.overlaps[chirograph/api.Entry]"], unfollowed := true, recurses := true, apart := false, narrowed := true }
def StoreFullUptoSaid : Prop := storeFullUptoRow.holds Tryz.pinned (OpenSpec.upto storeFullSpec)

/-- 'chirographlaw13.StoreHalves', WHERE WHAT IT READS IS OF BULK AT MOST 1048576: true; the input reads as it did. -/
def storeHalvesUptoRow : OpenClaim := { program := "ytginkbjclkdglaagreat", sum := "9ea42c5272f21634fbfa239a524f5a3e57a8df102d7c6dcffbcd3c85130545ba", func := "chirograph/chirographlaw13.StoreHalves", spec := "storeHalves", inPlace := ["slices.overlaps[chirograph/api.Entry]"], unfollowed := true, recurses := true, apart := false, narrowed := true }
def StoreHalvesUptoSaid : Prop := storeHalvesUptoRow.holds Tryz.pinned (OpenSpec.upto storeHalvesSpec)

/-- 'chirographlaw13.StoreAlike', WHERE WHAT IT READS IS OF BULK AT MOST 1048576: true; the input reads as it did. -/
def storeAlikeUptoRow : OpenClaim := { program := "ytginkbjclkdglaagreat", sum := "9ea42c5272f21634fbfa239a524f5a3e57a8df102d7c6dcffbcd3c85130545ba", func := "chirograph/chirographlaw13.StoreAlike", spec := "storeAlike", inPlace := ["slices.overlaps[chirograph/api.Entry]"], unfollowed := true, recurses := true, apart := false, narrowed := true }
def StoreAlikeUptoSaid : Prop := storeAlikeUptoRow.holds Tryz.pinned (OpenSpec.upto storeAlikeSpec)

end Rows
end Go.Proofs.YtginkbjclkdglaaGreat
