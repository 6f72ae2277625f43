/-
  No cell of these rows narrows 'for every input' (looked for: loops, veiled, ifaces, maps, wideKeys, modest, calm, conditions, laid).
  DERIVED. THE GIVEN ROWS OF THIS SEAT. 4 by the template 'for every input the law returns true; each argument reads behind the call as it read before'; 0 by the template 'total and deterministic' (their statements: YtdpljpnnjgefoaaTotals.lean).
  GIVEN WITH THE SEED: the statements are not yours to turn. If you find one false, say at which input.
  Laid BY PROGRAM, IN A SANDBOX (cutbox-rows.mjs): the forced cells as the released guide's own fill.sh prints them over the translation 277d85dff64aae4f… (all of the seat's roots in one cut). By AI agents, Wed Nov 11 2026. No macro, syntax, notation, axiom, sorry.
-/
import Derived.Test.YtdpljpnnjgefoaaChecked
import GoSem.Claim
import GoSem.ClaimJoined
import GoSem.ClaimMapViews
import Derived.JoinedTies
import Derived.KernelRfl
namespace Go.Proofs.Ytdpljpnnjgefoaa
/- THE CELL 'sum', in the pinned program and in every row, IS THE sha256 OF THE DUMP (.gsa) THAT YtdpljpnnjgefoaaProg.lean LOADS. Nothing in Lean hashes anything: it is a label: what it is worth is what the hold of that sum in a sandbox is worth. -/
noncomputable def Try.pinned : Pinned := { name := "ytdpljpnnjgefoaa", sum := "277d85dff64aae4f7882496b9bcce2aa33d02b453ed2a20003773681ef2c0642", checked := Try.checked }
namespace Rows
def none {H : Type} : Left H := { results := [], args := [] }

/-- 'chirographtop.ChirographBlocks': WHATEVER THE INPUT: true; the input reads as it did. -/
def chirographBlocksSpec : ChangeSpec := { name := "chirographBlocks", fn := fun _ => fun
  | [d1, d2] => { results := [.lit (.bool true)], args := [d1, d2] }
  | _ => none }
def chirographBlocksRow : OpenClaim := { program := "ytdpljpnnjgefoaa", sum := "277d85dff64aae4f7882496b9bcce2aa33d02b453ed2a20003773681ef2c0642", func := "chirograph/chirographtop.ChirographBlocks", spec := "chirographBlocks", unfollowed := true, recurses := true, apart := false }
def ChirographBlocksSaid : Prop := chirographBlocksRow.holds Try.pinned (OpenSpec.ofChange chirographBlocksSpec)

/-- ITS FALSE NEIGHBOUR: 'it returns false'. Refute it at one input. -/
def chirographBlocksWrong : ChangeSpec := { name := "chirographBlocks", fn := fun _ => fun
  | [d1, d2] => { results := [.lit (.bool false)], args := [d1, d2] }
  | _ => none }
def ChirographBlocksWrongFalsely : Prop := chirographBlocksRow.holds Try.pinned (OpenSpec.ofChange chirographBlocksWrong)

/-- 'chirographlaw10.TableMakes': WHATEVER THE INPUT: true; the input reads as it did. -/
def tableMakesSpec : ChangeSpec := { name := "tableMakes", fn := fun _ => fun
  | [d1, d2] => { results := [.lit (.bool true)], args := [d1, d2] }
  | _ => none }
def tableMakesRow : OpenClaim := { program := "ytdpljpnnjgefoaa", sum := "277d85dff64aae4f7882496b9bcce2aa33d02b453ed2a20003773681ef2c0642", func := "chirograph/chirographlaw10.TableMakes", spec := "tableMakes", unfollowed := true, recurses := true, apart := false }
def TableMakesSaid : Prop := tableMakesRow.holds Try.pinned (OpenSpec.ofChange tableMakesSpec)

/-- ITS FALSE NEIGHBOUR: 'it returns false'. Refute it at one input. -/
def tableMakesWrong : ChangeSpec := { name := "tableMakes", fn := fun _ => fun
  | [d1, d2] => { results := [.lit (.bool false)], args := [d1, d2] }
  | _ => none }
def TableMakesWrongFalsely : Prop := tableMakesRow.holds Try.pinned (OpenSpec.ofChange tableMakesWrong)

/-- 'chirographlaw10.TableBack': WHATEVER THE INPUT: true; the input reads as it did. -/
def tableBackSpec : ChangeSpec := { name := "tableBack", fn := fun _ => fun
  | [d1, d2, d3] => { results := [.lit (.bool true)], args := [d1, d2, d3] }
  | _ => none }
def tableBackRow : OpenClaim := { program := "ytdpljpnnjgefoaa", sum := "277d85dff64aae4f7882496b9bcce2aa33d02b453ed2a20003773681ef2c0642", func := "chirograph/chirographlaw10.TableBack", spec := "tableBack", unfollowed := true, recurses := true, apart := false }
def TableBackSaid : Prop := tableBackRow.holds Try.pinned (OpenSpec.ofChange tableBackSpec)

/-- ITS FALSE NEIGHBOUR: 'it returns false'. Refute it at one input. -/
def tableBackWrong : ChangeSpec := { name := "tableBack", fn := fun _ => fun
  | [d1, d2, d3] => { results := [.lit (.bool false)], args := [d1, d2, d3] }
  | _ => none }
def TableBackWrongFalsely : Prop := tableBackRow.holds Try.pinned (OpenSpec.ofChange tableBackWrong)

/-- 'chirographlaw10.TableRanges': WHATEVER THE INPUT: true; the input reads as it did. -/
def tableRangesSpec : ChangeSpec := { name := "tableRanges", fn := fun _ => fun
  | [d1, d2, d3, d4, d5] => { results := [.lit (.bool true)], args := [d1, d2, d3, d4, d5] }
  | _ => none }
def tableRangesRow : OpenClaim := { program := "ytdpljpnnjgefoaa", sum := "277d85dff64aae4f7882496b9bcce2aa33d02b453ed2a20003773681ef2c0642", func := "chirograph/chirographlaw10.TableRanges", spec := "tableRanges", unfollowed := true, recurses := true, apart := false }
def TableRangesSaid : Prop := tableRangesRow.holds Try.pinned (OpenSpec.ofChange tableRangesSpec)

/-- ITS FALSE NEIGHBOUR: 'it returns false'. Refute it at one input. -/
def tableRangesWrong : ChangeSpec := { name := "tableRanges", fn := fun _ => fun
  | [d1, d2, d3, d4, d5] => { results := [.lit (.bool false)], args := [d1, d2, d3, d4, d5] }
  | _ => none }
def TableRangesWrongFalsely : Prop := tableRangesRow.holds Try.pinned (OpenSpec.ofChange tableRangesWrong)

/- THE SECOND FORM. 'bulk': how many values and letters a reading holds, each counted each time it is reached (what is shared counts as often as it is met; a slice's spare places count too). A statement '..UptoSaid' is the law's where the arguments, and the package variables that the reading takes, are together of bulk at most 1048576: NARROWER than '..Said'. Prove '..Said' where nothing that the law and all that it calls make is longer than what came in: it says more and counts as full. Else prove '..UptoSaid'. A law counts once. -/
mutual
def uptoBulk {H : Type} : DataW H → Nat
  | .lit (.string bytes) => bytes.length + 1
  | .lit _ => 1
  | .nil => 1
  | .ptr d => uptoBulk d + 1
  | .slice elems spare => uptoBulkAll elems + uptoBulkAll spare + 1
  | .agg parts => uptoBulkAll parts + 1
  | .iface _ d => uptoBulk d + 1
  | .map entries => uptoBulkEntries entries + 1
  | .held _ => 1
def uptoBulkAll {H : Type} : List (DataW H) → Nat
  | [] => 0
  | d :: r => uptoBulk d + uptoBulkAll r
def uptoBulkEntries {H : Type} : List (Lit × DataW H) → Nat
  | [] => 0
  | x :: r => uptoBulkEntry x + uptoBulkEntries r
def uptoBulkEntry {H : Type} : Lit × DataW H → Nat
  | (.string bytes, d) => bytes.length + uptoBulk d + 1
  | (_, d) => uptoBulk d + 1
 end
def uptoSmall : (H : Type) → List (DataW H) → Bool := fun _ ds => decide (uptoBulkAll ds ≤ 1048576)
def OpenSpec.upto (s : _root_.Go.ChangeSpec) : _root_.Go.OpenSpec := { _root_.Go.OpenSpec.ofChange s with cond := some uptoSmall }

/-- 'chirographtop.ChirographBlocks', WHERE WHAT IT READS IS OF BULK AT MOST 1048576: true; the input reads as it did. -/
def chirographBlocksUptoRow : OpenClaim := { program := "ytdpljpnnjgefoaa", sum := "277d85dff64aae4f7882496b9bcce2aa33d02b453ed2a20003773681ef2c0642", func := "chirograph/chirographtop.ChirographBlocks", spec := "chirographBlocks", unfollowed := true, recurses := true, apart := false, narrowed := true }
def ChirographBlocksUptoSaid : Prop := chirographBlocksUptoRow.holds Try.pinned (OpenSpec.upto chirographBlocksSpec)

/-- 'chirographlaw10.TableMakes', WHERE WHAT IT READS IS OF BULK AT MOST 1048576: true; the input reads as it did. -/
def tableMakesUptoRow : OpenClaim := { program := "ytdpljpnnjgefoaa", sum := "277d85dff64aae4f7882496b9bcce2aa33d02b453ed2a20003773681ef2c0642", func := "chirograph/chirographlaw10.TableMakes", spec := "tableMakes", unfollowed := true, recurses := true, apart := false, narrowed := true }
def TableMakesUptoSaid : Prop := tableMakesUptoRow.holds Try.pinned (OpenSpec.upto tableMakesSpec)

/-- 'chirographlaw10.TableBack', WHERE WHAT IT READS IS OF BULK AT MOST 1048576: true; the input reads as it did. -/
def tableBackUptoRow : OpenClaim := { program := "ytdpljpnnjgefoaa", sum := "277d85dff64aae4f7882496b9bcce2aa33d02b453ed2a20003773681ef2c0642", func := "chirograph/chirographlaw10.TableBack", spec := "tableBack", unfollowed := true, recurses := true, apart := false, narrowed := true }
def TableBackUptoSaid : Prop := tableBackUptoRow.holds Try.pinned (OpenSpec.upto tableBackSpec)

/-- 'chirographlaw10.TableRanges', WHERE WHAT IT READS IS OF BULK AT MOST 1048576: true; the input reads as it did. -/
def tableRangesUptoRow : OpenClaim := { program := "ytdpljpnnjgefoaa", sum := "277d85dff64aae4f7882496b9bcce2aa33d02b453ed2a20003773681ef2c0642", func := "chirograph/chirographlaw10.TableRanges", spec := "tableRanges", unfollowed := true, recurses := true, apart := false, narrowed := true }
def TableRangesUptoSaid : Prop := tableRangesUptoRow.holds Try.pinned (OpenSpec.upto tableRangesSpec)

end Rows
end Go.Proofs.Ytdpljpnnjgefoaa
