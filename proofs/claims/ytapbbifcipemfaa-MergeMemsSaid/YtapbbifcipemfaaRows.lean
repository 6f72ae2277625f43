/-
  No cell of these rows narrows 'for every input' (looked for: loops, veiled, ifaces, maps, wideKeys, modest, calm, conditions, laid).
  DERIVED. THE GIVEN ROWS OF THIS SEAT. 9 by the template 'for every input the law returns true; each argument reads behind the call as it read before'; 0 by the template 'total and deterministic' (their statements: YtapbbifcipemfaaTotals.lean).
  GIVEN WITH THE SEED: the statements are not yours to turn. If you find one false, say at which input.
  Laid BY PROGRAM, IN A SANDBOX (cutbox-rows.mjs): the forced cells as the released guide's own fill.sh prints them over the translation f82b47d612082f0b… (all of the seat's roots in one cut). By AI agents, Wed Nov 11 2026. No macro, syntax, notation, axiom, sorry.
-/
import Derived.Test.YtapbbifcipemfaaChecked
import GoSem.Claim
import GoSem.ClaimJoined
import GoSem.ClaimMapViews
import Derived.JoinedTies
import Derived.KernelRfl
namespace Go.Proofs.Ytapbbifcipemfaa
/- THE CELL 'sum', in the pinned program and in every row, IS THE sha256 OF THE DUMP (.gsa) THAT YtapbbifcipemfaaProg.lean LOADS. Nothing in Lean hashes anything: it is a label: what it is worth is what the hold of that sum in a sandbox is worth. -/
noncomputable def Try.pinned : Pinned := { name := "ytapbbifcipemfaa", sum := "f82b47d612082f0b3d7cdfe277b066141ce7f467ab82eb475175a3478d86f189", checked := Try.checked }
namespace Rows
def none {H : Type} : Left H := { results := [], args := [] }

/-- 'chirographlaw08.BloomHas': WHATEVER THE INPUT: true; the input reads as it did. -/
def bloomHasSpec : ChangeSpec := { name := "bloomHas", fn := fun _ => fun
  | [d1, d2] => { results := [.lit (.bool true)], args := [d1, d2] }
  | _ => none }
def bloomHasRow : OpenClaim := { program := "ytapbbifcipemfaa", sum := "f82b47d612082f0b3d7cdfe277b066141ce7f467ab82eb475175a3478d86f189", func := "chirograph/chirographlaw08.BloomHas", spec := "bloomHas", apart := false }
def BloomHasSaid : Prop := bloomHasRow.holds Try.pinned (OpenSpec.ofChange bloomHasSpec)

/-- ITS FALSE NEIGHBOUR: 'it returns false'. Refute it at one input. -/
def bloomHasWrong : ChangeSpec := { name := "bloomHas", fn := fun _ => fun
  | [d1, d2] => { results := [.lit (.bool false)], args := [d1, d2] }
  | _ => none }
def BloomHasWrongFalsely : Prop := bloomHasRow.holds Try.pinned (OpenSpec.ofChange bloomHasWrong)

/-- 'chirographlaw12.MergeMemory': WHATEVER THE INPUT: true; the input reads as it did. -/
def mergeMemorySpec : ChangeSpec := { name := "mergeMemory", fn := fun _ => fun
  | [d] => { results := [.lit (.bool true)], args := [d] }
  | _ => none }
def mergeMemoryRow : OpenClaim := { program := "ytapbbifcipemfaa", sum := "f82b47d612082f0b3d7cdfe277b066141ce7f467ab82eb475175a3478d86f189", func := "chirograph/chirographlaw12.MergeMemory", spec := "mergeMemory", inPlace := ["slices.overlaps[chirograph/api.Entry]"], unfollowed := true, recurses := true, apart := false }
def MergeMemorySaid : Prop := mergeMemoryRow.holds Try.pinned (OpenSpec.ofChange mergeMemorySpec)

/-- ITS FALSE NEIGHBOUR: 'it returns false'. Refute it at one input. -/
def mergeMemoryWrong : ChangeSpec := { name := "mergeMemory", fn := fun _ => fun
  | [d] => { results := [.lit (.bool false)], args := [d] }
  | _ => none }
def MergeMemoryWrongFalsely : Prop := mergeMemoryRow.holds Try.pinned (OpenSpec.ofChange mergeMemoryWrong)

/-- 'chirographlaw12.MergeMems': WHATEVER THE INPUT: true; the input reads as it did. -/
def mergeMemsSpec : ChangeSpec := { name := "mergeMems", fn := fun _ => fun
  | [d1, d2, d3] => { results := [.lit (.bool true)], args := [d1, d2, d3] }
  | _ => none }
def mergeMemsRow : OpenClaim := { program := "ytapbbifcipemfaa", sum := "f82b47d612082f0b3d7cdfe277b066141ce7f467ab82eb475175a3478d86f189", func := "chirograph/chirographlaw12.MergeMems", spec := "mergeMems", inPlace := ["slices.overlaps[chirograph/api.Entry]"], unfollowed := true, recurses := true, apart := false }
def MergeMemsSaid : Prop := mergeMemsRow.holds Try.pinned (OpenSpec.ofChange mergeMemsSpec)

/-- ITS FALSE NEIGHBOUR: 'it returns false'. Refute it at one input. -/
def mergeMemsWrong : ChangeSpec := { name := "mergeMems", fn := fun _ => fun
  | [d1, d2, d3] => { results := [.lit (.bool false)], args := [d1, d2, d3] }
  | _ => none }
def MergeMemsWrongFalsely : Prop := mergeMemsRow.holds Try.pinned (OpenSpec.ofChange mergeMemsWrong)

/-- 'chirographlaw09.BlockMakes': WHATEVER THE INPUT: true; the input reads as it did. -/
def blockMakesSpec : ChangeSpec := { name := "blockMakes", fn := fun _ => fun
  | [d] => { results := [.lit (.bool true)], args := [d] }
  | _ => none }
def blockMakesRow : OpenClaim := { program := "ytapbbifcipemfaa", sum := "f82b47d612082f0b3d7cdfe277b066141ce7f467ab82eb475175a3478d86f189", func := "chirograph/chirographlaw09.BlockMakes", spec := "blockMakes", apart := false }
def BlockMakesSaid : Prop := blockMakesRow.holds Try.pinned (OpenSpec.ofChange blockMakesSpec)

/-- ITS FALSE NEIGHBOUR: 'it returns false'. Refute it at one input. -/
def blockMakesWrong : ChangeSpec := { name := "blockMakes", fn := fun _ => fun
  | [d] => { results := [.lit (.bool false)], args := [d] }
  | _ => none }
def BlockMakesWrongFalsely : Prop := blockMakesRow.holds Try.pinned (OpenSpec.ofChange blockMakesWrong)

/-- 'chirographlaw09.BlockReads': WHATEVER THE INPUT: true; the input reads as it did. -/
def blockReadsSpec : ChangeSpec := { name := "blockReads", fn := fun _ => fun
  | [d] => { results := [.lit (.bool true)], args := [d] }
  | _ => none }
def blockReadsRow : OpenClaim := { program := "ytapbbifcipemfaa", sum := "f82b47d612082f0b3d7cdfe277b066141ce7f467ab82eb475175a3478d86f189", func := "chirograph/chirographlaw09.BlockReads", spec := "blockReads", apart := false }
def BlockReadsSaid : Prop := blockReadsRow.holds Try.pinned (OpenSpec.ofChange blockReadsSpec)

/-- ITS FALSE NEIGHBOUR: 'it returns false'. Refute it at one input. -/
def blockReadsWrong : ChangeSpec := { name := "blockReads", fn := fun _ => fun
  | [d] => { results := [.lit (.bool false)], args := [d] }
  | _ => none }
def BlockReadsWrongFalsely : Prop := blockReadsRow.holds Try.pinned (OpenSpec.ofChange blockReadsWrong)

/-- 'chirographlaw09.BlockBack': WHATEVER THE INPUT: true; the input reads as it did. -/
def blockBackSpec : ChangeSpec := { name := "blockBack", fn := fun _ => fun
  | [d1, d2] => { results := [.lit (.bool true)], args := [d1, d2] }
  | _ => none }
def blockBackRow : OpenClaim := { program := "ytapbbifcipemfaa", sum := "f82b47d612082f0b3d7cdfe277b066141ce7f467ab82eb475175a3478d86f189", func := "chirograph/chirographlaw09.BlockBack", spec := "blockBack", apart := false }
def BlockBackSaid : Prop := blockBackRow.holds Try.pinned (OpenSpec.ofChange blockBackSpec)

/-- ITS FALSE NEIGHBOUR: 'it returns false'. Refute it at one input. -/
def blockBackWrong : ChangeSpec := { name := "blockBack", fn := fun _ => fun
  | [d1, d2] => { results := [.lit (.bool false)], args := [d1, d2] }
  | _ => none }
def BlockBackWrongFalsely : Prop := blockBackRow.holds Try.pinned (OpenSpec.ofChange blockBackWrong)

/-- 'chirographlaw09.BlockOne': WHATEVER THE INPUT: true; the input reads as it did. -/
def blockOneSpec : ChangeSpec := { name := "blockOne", fn := fun _ => fun
  | [d] => { results := [.lit (.bool true)], args := [d] }
  | _ => none }
def blockOneRow : OpenClaim := { program := "ytapbbifcipemfaa", sum := "f82b47d612082f0b3d7cdfe277b066141ce7f467ab82eb475175a3478d86f189", func := "chirograph/chirographlaw09.BlockOne", spec := "blockOne", apart := false }
def BlockOneSaid : Prop := blockOneRow.holds Try.pinned (OpenSpec.ofChange blockOneSpec)

/-- ITS FALSE NEIGHBOUR: 'it returns false'. Refute it at one input. -/
def blockOneWrong : ChangeSpec := { name := "blockOne", fn := fun _ => fun
  | [d] => { results := [.lit (.bool false)], args := [d] }
  | _ => none }
def BlockOneWrongFalsely : Prop := blockOneRow.holds Try.pinned (OpenSpec.ofChange blockOneWrong)

/-- 'chirographlaw09.BlockSeeks': WHATEVER THE INPUT: true; the input reads as it did. -/
def blockSeeksSpec : ChangeSpec := { name := "blockSeeks", fn := fun _ => fun
  | [d1, d2] => { results := [.lit (.bool true)], args := [d1, d2] }
  | _ => none }
def blockSeeksRow : OpenClaim := { program := "ytapbbifcipemfaa", sum := "f82b47d612082f0b3d7cdfe277b066141ce7f467ab82eb475175a3478d86f189", func := "chirograph/chirographlaw09.BlockSeeks", spec := "blockSeeks", unfollowed := true, recurses := true, apart := false }
def BlockSeeksSaid : Prop := blockSeeksRow.holds Try.pinned (OpenSpec.ofChange blockSeeksSpec)

/-- ITS FALSE NEIGHBOUR: 'it returns false'. Refute it at one input. -/
def blockSeeksWrong : ChangeSpec := { name := "blockSeeks", fn := fun _ => fun
  | [d1, d2] => { results := [.lit (.bool false)], args := [d1, d2] }
  | _ => none }
def BlockSeeksWrongFalsely : Prop := blockSeeksRow.holds Try.pinned (OpenSpec.ofChange blockSeeksWrong)

/-- 'chirographlaw09.BlockParts': WHATEVER THE INPUT: true; the input reads as it did. -/
def blockPartsSpec : ChangeSpec := { name := "blockParts", fn := fun _ => fun
  | [d1, d2] => { results := [.lit (.bool true)], args := [d1, d2] }
  | _ => none }
def blockPartsRow : OpenClaim := { program := "ytapbbifcipemfaa", sum := "f82b47d612082f0b3d7cdfe277b066141ce7f467ab82eb475175a3478d86f189", func := "chirograph/chirographlaw09.BlockParts", spec := "blockParts", unfollowed := true, recurses := true, apart := false }
def BlockPartsSaid : Prop := blockPartsRow.holds Try.pinned (OpenSpec.ofChange blockPartsSpec)

/-- ITS FALSE NEIGHBOUR: 'it returns false'. Refute it at one input. -/
def blockPartsWrong : ChangeSpec := { name := "blockParts", fn := fun _ => fun
  | [d1, d2] => { results := [.lit (.bool false)], args := [d1, d2] }
  | _ => none }
def BlockPartsWrongFalsely : Prop := blockPartsRow.holds Try.pinned (OpenSpec.ofChange blockPartsWrong)

/- THE SECOND FORM. 'bulk': how many values and letters a reading holds, each counted each time it is reached (what is shared counts as often as it is met; a slice's spare places count too). A statement '..UptoSaid' is the law's where the arguments, and the package variables that the reading takes, are together of bulk at most 1048576: NARROWER than '..Said'. Prove '..Said' where nothing that the law and all that it calls make is longer than what came in: it says more and counts as full. Else prove '..UptoSaid'. A law counts once. -/
mutual
def uptoBulk {H : Type} : DataW H → Nat
  | .lit (.string bytes) => bytes.length + 1
  | .lit _ => 1
  | .nil => 1
  | .ptr d => uptoBulk d + 1
  | .slice elems spare => uptoBulkAll elems + uptoBulkAll spare + 1
  | .agg parts => uptoBulkAll parts + 1
  | .iface _ d => uptoBulk d + 1
  | .map entries => uptoBulkEntries entries + 1
  | .held _ => 1
def uptoBulkAll {H : Type} : List (DataW H) → Nat
  | [] => 0
  | d :: r => uptoBulk d + uptoBulkAll r
def uptoBulkEntries {H : Type} : List (Lit × DataW H) → Nat
  | [] => 0
  | x :: r => uptoBulkEntry x + uptoBulkEntries r
def uptoBulkEntry {H : Type} : Lit × DataW H → Nat
  | (.string bytes, d) => bytes.length + uptoBulk d + 1
  | (_, d) => uptoBulk d + 1
 end
def uptoSmall : (H : Type) → List (DataW H) → Bool := fun _ ds => decide (uptoBulkAll ds ≤ 1048576)
def OpenSpec.upto (s : _root_.Go.ChangeSpec) : _root_.Go.OpenSpec := { _root_.Go.OpenSpec.ofChange s with cond := some uptoSmall }

/-- 'chirographlaw08.BloomHas', WHERE WHAT IT READS IS OF BULK AT MOST 1048576: true; the input reads as it did. -/
def bloomHasUptoRow : OpenClaim := { program := "ytapbbifcipemfaa", sum := "f82b47d612082f0b3d7cdfe277b066141ce7f467ab82eb475175a3478d86f189", func := "chirograph/chirographlaw08.BloomHas", spec := "bloomHas", apart := false, narrowed := true }
def BloomHasUptoSaid : Prop := bloomHasUptoRow.holds Try.pinned (OpenSpec.upto bloomHasSpec)

/-- 'chirographlaw12.MergeMemory', WHERE WHAT IT READS IS OF BULK AT MOST 1048576: true; the input reads as it did. -/
def mergeMemoryUptoRow : OpenClaim := { program := "ytapbbifcipemfaa", sum := "f82b47d612082f0b3d7cdfe277b066141ce7f467ab82eb475175a3478d86f189", func := "chirograph/chirographlaw12.MergeMemory", spec := "mergeMemory", inPlace := ["slices.overlaps[chirograph/api.Entry]"], unfollowed := true, recurses := true, apart := false, narrowed := true }
def MergeMemoryUptoSaid : Prop := mergeMemoryUptoRow.holds Try.pinned (OpenSpec.upto mergeMemorySpec)

/-- 'chirographlaw12.MergeMems', WHERE WHAT IT READS IS OF BULK AT MOST 1048576: true; the input reads as it did. -/
def mergeMemsUptoRow : OpenClaim := { program := "ytapbbifcipemfaa", sum := "f82b47d612082f0b3d7cdfe277b066141ce7f467ab82eb475175a3478d86f189", func := "chirograph/chirographlaw12.MergeMems", spec := "mergeMems", inPlace := ["slices.overlaps[chirograph/api.Entry]"], unfollowed := true, recurses := true, apart := false, narrowed := true }
def MergeMemsUptoSaid : Prop := mergeMemsUptoRow.holds Try.pinned (OpenSpec.upto mergeMemsSpec)

/-- 'chirographlaw09.BlockMakes', WHERE WHAT IT READS IS OF BULK AT MOST 1048576: true; the input reads as it did. -/
def blockMakesUptoRow : OpenClaim := { program := "ytapbbifcipemfaa", sum := "f82b47d612082f0b3d7cdfe277b066141ce7f467ab82eb475175a3478d86f189", func := "chirograph/chirographlaw09.BlockMakes", spec := "blockMakes", apart := false, narrowed := true }
def BlockMakesUptoSaid : Prop := blockMakesUptoRow.holds Try.pinned (OpenSpec.upto blockMakesSpec)

/-- 'chirographlaw09.BlockReads', WHERE WHAT IT READS IS OF BULK AT MOST 1048576: true; the input reads as it did. -/
def blockReadsUptoRow : OpenClaim := { program := "ytapbbifcipemfaa", sum := "f82b47d612082f0b3d7cdfe277b066141ce7f467ab82eb475175a3478d86f189", func := "chirograph/chirographlaw09.BlockReads", spec := "blockReads", apart := false, narrowed := true }
def BlockReadsUptoSaid : Prop := blockReadsUptoRow.holds Try.pinned (OpenSpec.upto blockReadsSpec)

/-- 'chirographlaw09.BlockBack', WHERE WHAT IT READS IS OF BULK AT MOST 1048576: true; the input reads as it did. -/
def blockBackUptoRow : OpenClaim := { program := "ytapbbifcipemfaa", sum := "f82b47d612082f0b3d7cdfe277b066141ce7f467ab82eb475175a3478d86f189", func := "chirograph/chirographlaw09.BlockBack", spec := "blockBack", apart := false, narrowed := true }
def BlockBackUptoSaid : Prop := blockBackUptoRow.holds Try.pinned (OpenSpec.upto blockBackSpec)

/-- 'chirographlaw09.BlockOne', WHERE WHAT IT READS IS OF BULK AT MOST 1048576: true; the input reads as it did. -/
def blockOneUptoRow : OpenClaim := { program := "ytapbbifcipemfaa", sum := "f82b47d612082f0b3d7cdfe277b066141ce7f467ab82eb475175a3478d86f189", func := "chirograph/chirographlaw09.BlockOne", spec := "blockOne", apart := false, narrowed := true }
def BlockOneUptoSaid : Prop := blockOneUptoRow.holds Try.pinned (OpenSpec.upto blockOneSpec)

/-- 'chirographlaw09.BlockSeeks', WHERE WHAT IT READS IS OF BULK AT MOST 1048576: true; the input reads as it did. -/
def blockSeeksUptoRow : OpenClaim := { program := "ytapbbifcipemfaa", sum := "f82b47d612082f0b3d7cdfe277b066141ce7f467ab82eb475175a3478d86f189", func := "chirograph/chirographlaw09.BlockSeeks", spec := "blockSeeks", unfollowed := true, recurses := true, apart := false, narrowed := true }
def BlockSeeksUptoSaid : Prop := blockSeeksUptoRow.holds Try.pinned (OpenSpec.upto blockSeeksSpec)

/-- 'chirographlaw09.BlockParts', WHERE WHAT IT READS IS OF BULK AT MOST 1048576: true; the input reads as it did. -/
def blockPartsUptoRow : OpenClaim := { program := "ytapbbifcipemfaa", sum := "f82b47d612082f0b3d7cdfe277b066141ce7f467ab82eb475175a3478d86f189", func := "chirograph/chirographlaw09.BlockParts", spec := "blockParts", unfollowed := true, recurses := true, apart := false, narrowed := true }
def BlockPartsUptoSaid : Prop := blockPartsUptoRow.holds Try.pinned (OpenSpec.upto blockPartsSpec)

end Rows
end Go.Proofs.Ytapbbifcipemfaa
