/-
  No cell of these rows narrows 'for every input' (looked for: loops, veiled, ifaces, maps, wideKeys, modest, calm, conditions, laid).
  DERIVED. THE GIVEN ROWS OF THIS SEAT. 12 by the template 'for every input the law returns true; each argument reads behind the call as it read before'; 0 by the template 'total and deterministic' (their statements: YtcnkmfmdadmaaaaTotals.lean).
  GIVEN WITH THE SEED: the statements are not yours to turn. If you find one false, say at which input.
  Laid BY PROGRAM, IN A SANDBOX (cutbox-rows.mjs): the forced cells as the released guide's own fill.sh prints them over the translation 40d01e1f3db0e95b… (all of the seat's roots in one cut). By AI agents, Wed Nov 11 2026. No macro, syntax, notation, axiom, sorry.
-/
import Derived.Test.YtcnkmfmdadmaaaaChecked
import GoSem.Claim
import GoSem.ClaimJoined
import GoSem.ClaimMapViews
import Derived.JoinedTies
import Derived.KernelRfl
namespace Go.Proofs.Ytcnkmfmdadmaaaa
/- THE CELL 'sum', in the pinned program and in every row, IS THE sha256 OF THE DUMP (.gsa) THAT YtcnkmfmdadmaaaaProg.lean LOADS. Nothing in Lean hashes anything: it is a label: what it is worth is what the hold of that sum in a sandbox is worth. -/
noncomputable def Try.pinned : Pinned := { name := "ytcnkmfmdadmaaaa", sum := "40d01e1f3db0e95b03a966d6b3a6a8b50c8638931067f2b53c1079042e5b766e", checked := Try.checked }
namespace Rows
def none {H : Type} : Left H := { results := [], args := [] }

/-- 'chirographlaw12.MergeLists': WHATEVER THE INPUT: true; the input reads as it did. -/
def mergeListsSpec : ChangeSpec := { name := "mergeLists", fn := fun _ => fun
  | [d1, d2] => { results := [.lit (.bool true)], args := [d1, d2] }
  | _ => none }
def mergeListsRow : OpenClaim := { program := "ytcnkmfmdadmaaaa", sum := "40d01e1f3db0e95b03a966d6b3a6a8b50c8638931067f2b53c1079042e5b766e", func := "chirograph/chirographlaw12.MergeLists", spec := "mergeLists", apart := false }
def MergeListsSaid : Prop := mergeListsRow.holds Try.pinned (OpenSpec.ofChange mergeListsSpec)

/-- ITS FALSE NEIGHBOUR: 'it returns false'. Refute it at one input. -/
def mergeListsWrong : ChangeSpec := { name := "mergeLists", fn := fun _ => fun
  | [d1, d2] => { results := [.lit (.bool false)], args := [d1, d2] }
  | _ => none }
def MergeListsWrongFalsely : Prop := mergeListsRow.holds Try.pinned (OpenSpec.ofChange mergeListsWrong)

/-- 'chirographlaw12.MergeTwice': WHATEVER THE INPUT: true; the input reads as it did. -/
def mergeTwiceSpec : ChangeSpec := { name := "mergeTwice", fn := fun _ => fun
  | [d1, d2, d3] => { results := [.lit (.bool true)], args := [d1, d2, d3] }
  | _ => none }
def mergeTwiceRow : OpenClaim := { program := "ytcnkmfmdadmaaaa", sum := "40d01e1f3db0e95b03a966d6b3a6a8b50c8638931067f2b53c1079042e5b766e", func := "chirograph/chirographlaw12.MergeTwice", spec := "mergeTwice", apart := false }
def MergeTwiceSaid : Prop := mergeTwiceRow.holds Try.pinned (OpenSpec.ofChange mergeTwiceSpec)

/-- ITS FALSE NEIGHBOUR: 'it returns false'. Refute it at one input. -/
def mergeTwiceWrong : ChangeSpec := { name := "mergeTwice", fn := fun _ => fun
  | [d1, d2, d3] => { results := [.lit (.bool false)], args := [d1, d2, d3] }
  | _ => none }
def MergeTwiceWrongFalsely : Prop := mergeTwiceRow.holds Try.pinned (OpenSpec.ofChange mergeTwiceWrong)

/-- 'chirographlaw12.MergeNewest': WHATEVER THE INPUT: true; the input reads as it did. -/
def mergeNewestSpec : ChangeSpec := { name := "mergeNewest", fn := fun _ => fun
  | [d1, d2] => { results := [.lit (.bool true)], args := [d1, d2] }
  | _ => none }
def mergeNewestRow : OpenClaim := { program := "ytcnkmfmdadmaaaa", sum := "40d01e1f3db0e95b03a966d6b3a6a8b50c8638931067f2b53c1079042e5b766e", func := "chirograph/chirographlaw12.MergeNewest", spec := "mergeNewest", apart := false }
def MergeNewestSaid : Prop := mergeNewestRow.holds Try.pinned (OpenSpec.ofChange mergeNewestSpec)

/-- ITS FALSE NEIGHBOUR: 'it returns false'. Refute it at one input. -/
def mergeNewestWrong : ChangeSpec := { name := "mergeNewest", fn := fun _ => fun
  | [d1, d2] => { results := [.lit (.bool false)], args := [d1, d2] }
  | _ => none }
def MergeNewestWrongFalsely : Prop := mergeNewestRow.holds Try.pinned (OpenSpec.ofChange mergeNewestWrong)

/-- 'chirographlaw12.MergeSplits': WHATEVER THE INPUT: true; the input reads as it did. -/
def mergeSplitsSpec : ChangeSpec := { name := "mergeSplits", fn := fun _ => fun
  | [d1, d2, d3] => { results := [.lit (.bool true)], args := [d1, d2, d3] }
  | _ => none }
def mergeSplitsRow : OpenClaim := { program := "ytcnkmfmdadmaaaa", sum := "40d01e1f3db0e95b03a966d6b3a6a8b50c8638931067f2b53c1079042e5b766e", func := "chirograph/chirographlaw12.MergeSplits", spec := "mergeSplits", apart := false }
def MergeSplitsSaid : Prop := mergeSplitsRow.holds Try.pinned (OpenSpec.ofChange mergeSplitsSpec)

/-- ITS FALSE NEIGHBOUR: 'it returns false'. Refute it at one input. -/
def mergeSplitsWrong : ChangeSpec := { name := "mergeSplits", fn := fun _ => fun
  | [d1, d2, d3] => { results := [.lit (.bool false)], args := [d1, d2, d3] }
  | _ => none }
def MergeSplitsWrongFalsely : Prop := mergeSplitsRow.holds Try.pinned (OpenSpec.ofChange mergeSplitsWrong)

/-- 'chirographlaw02.CodeCut': WHATEVER THE INPUT: true; the input reads as it did. -/
def codeCutSpec : ChangeSpec := { name := "codeCut", fn := fun _ => fun
  | [d1, d2, d3] => { results := [.lit (.bool true)], args := [d1, d2, d3] }
  | _ => none }
def codeCutRow : OpenClaim := { program := "ytcnkmfmdadmaaaa", sum := "40d01e1f3db0e95b03a966d6b3a6a8b50c8638931067f2b53c1079042e5b766e", func := "chirograph/chirographlaw02.CodeCut", spec := "codeCut", apart := false }
def CodeCutSaid : Prop := codeCutRow.holds Try.pinned (OpenSpec.ofChange codeCutSpec)

/-- ITS FALSE NEIGHBOUR: 'it returns false'. Refute it at one input. -/
def codeCutWrong : ChangeSpec := { name := "codeCut", fn := fun _ => fun
  | [d1, d2, d3] => { results := [.lit (.bool false)], args := [d1, d2, d3] }
  | _ => none }
def CodeCutWrongFalsely : Prop := codeCutRow.holds Try.pinned (OpenSpec.ofChange codeCutWrong)

/-- 'chirographlaw08.BloomMakes': WHATEVER THE INPUT: true; the input reads as it did. -/
def bloomMakesSpec : ChangeSpec := { name := "bloomMakes", fn := fun _ => fun
  | [d1, d2, d3] => { results := [.lit (.bool true)], args := [d1, d2, d3] }
  | _ => none }
def bloomMakesRow : OpenClaim := { program := "ytcnkmfmdadmaaaa", sum := "40d01e1f3db0e95b03a966d6b3a6a8b50c8638931067f2b53c1079042e5b766e", func := "chirograph/chirographlaw08.BloomMakes", spec := "bloomMakes", apart := false }
def BloomMakesSaid : Prop := bloomMakesRow.holds Try.pinned (OpenSpec.ofChange bloomMakesSpec)

/-- ITS FALSE NEIGHBOUR: 'it returns false'. Refute it at one input. -/
def bloomMakesWrong : ChangeSpec := { name := "bloomMakes", fn := fun _ => fun
  | [d1, d2, d3] => { results := [.lit (.bool false)], args := [d1, d2, d3] }
  | _ => none }
def BloomMakesWrongFalsely : Prop := bloomMakesRow.holds Try.pinned (OpenSpec.ofChange bloomMakesWrong)

/-- 'chirographlaw08.BloomMore': WHATEVER THE INPUT: true; the input reads as it did. -/
def bloomMoreSpec : ChangeSpec := { name := "bloomMore", fn := fun _ => fun
  | [d1, d2, d3] => { results := [.lit (.bool true)], args := [d1, d2, d3] }
  | _ => none }
def bloomMoreRow : OpenClaim := { program := "ytcnkmfmdadmaaaa", sum := "40d01e1f3db0e95b03a966d6b3a6a8b50c8638931067f2b53c1079042e5b766e", func := "chirograph/chirographlaw08.BloomMore", spec := "bloomMore", apart := false }
def BloomMoreSaid : Prop := bloomMoreRow.holds Try.pinned (OpenSpec.ofChange bloomMoreSpec)

/-- ITS FALSE NEIGHBOUR: 'it returns false'. Refute it at one input. -/
def bloomMoreWrong : ChangeSpec := { name := "bloomMore", fn := fun _ => fun
  | [d1, d2, d3] => { results := [.lit (.bool false)], args := [d1, d2, d3] }
  | _ => none }
def BloomMoreWrongFalsely : Prop := bloomMoreRow.holds Try.pinned (OpenSpec.ofChange bloomMoreWrong)

/-- 'chirographlaw02.CodeWrites': WHATEVER THE INPUT: true; the input reads as it did. -/
def codeWritesSpec : ChangeSpec := { name := "codeWrites", fn := fun _ => fun
  | [d] => { results := [.lit (.bool true)], args := [d] }
  | _ => none }
def codeWritesRow : OpenClaim := { program := "ytcnkmfmdadmaaaa", sum := "40d01e1f3db0e95b03a966d6b3a6a8b50c8638931067f2b53c1079042e5b766e", func := "chirograph/chirographlaw02.CodeWrites", spec := "codeWrites", apart := false }
def CodeWritesSaid : Prop := codeWritesRow.holds Try.pinned (OpenSpec.ofChange codeWritesSpec)

/-- ITS FALSE NEIGHBOUR: 'it returns false'. Refute it at one input. -/
def codeWritesWrong : ChangeSpec := { name := "codeWrites", fn := fun _ => fun
  | [d] => { results := [.lit (.bool false)], args := [d] }
  | _ => none }
def CodeWritesWrongFalsely : Prop := codeWritesRow.holds Try.pinned (OpenSpec.ofChange codeWritesWrong)

/-- 'chirographlaw02.CodeReads': WHATEVER THE INPUT: true; the input reads as it did. -/
def codeReadsSpec : ChangeSpec := { name := "codeReads", fn := fun _ => fun
  | [d1, d2] => { results := [.lit (.bool true)], args := [d1, d2] }
  | _ => none }
def codeReadsRow : OpenClaim := { program := "ytcnkmfmdadmaaaa", sum := "40d01e1f3db0e95b03a966d6b3a6a8b50c8638931067f2b53c1079042e5b766e", func := "chirograph/chirographlaw02.CodeReads", spec := "codeReads", apart := false }
def CodeReadsSaid : Prop := codeReadsRow.holds Try.pinned (OpenSpec.ofChange codeReadsSpec)

/-- ITS FALSE NEIGHBOUR: 'it returns false'. Refute it at one input. -/
def codeReadsWrong : ChangeSpec := { name := "codeReads", fn := fun _ => fun
  | [d1, d2] => { results := [.lit (.bool false)], args := [d1, d2] }
  | _ => none }
def CodeReadsWrongFalsely : Prop := codeReadsRow.holds Try.pinned (OpenSpec.ofChange codeReadsWrong)

/-- 'chirographlaw02.CodeBack': WHATEVER THE INPUT: true; the input reads as it did. -/
def codeBackSpec : ChangeSpec := { name := "codeBack", fn := fun _ => fun
  | [d] => { results := [.lit (.bool true)], args := [d] }
  | _ => none }
def codeBackRow : OpenClaim := { program := "ytcnkmfmdadmaaaa", sum := "40d01e1f3db0e95b03a966d6b3a6a8b50c8638931067f2b53c1079042e5b766e", func := "chirograph/chirographlaw02.CodeBack", spec := "codeBack", apart := false }
def CodeBackSaid : Prop := codeBackRow.holds Try.pinned (OpenSpec.ofChange codeBackSpec)

/-- ITS FALSE NEIGHBOUR: 'it returns false'. Refute it at one input. -/
def codeBackWrong : ChangeSpec := { name := "codeBack", fn := fun _ => fun
  | [d] => { results := [.lit (.bool false)], args := [d] }
  | _ => none }
def CodeBackWrongFalsely : Prop := codeBackRow.holds Try.pinned (OpenSpec.ofChange codeBackWrong)

/-- 'chirographlaw02.CodeOne': WHATEVER THE INPUT: true; the input reads as it did. -/
def codeOneSpec : ChangeSpec := { name := "codeOne", fn := fun _ => fun
  | [d1, d2] => { results := [.lit (.bool true)], args := [d1, d2] }
  | _ => none }
def codeOneRow : OpenClaim := { program := "ytcnkmfmdadmaaaa", sum := "40d01e1f3db0e95b03a966d6b3a6a8b50c8638931067f2b53c1079042e5b766e", func := "chirograph/chirographlaw02.CodeOne", spec := "codeOne", apart := false }
def CodeOneSaid : Prop := codeOneRow.holds Try.pinned (OpenSpec.ofChange codeOneSpec)

/-- ITS FALSE NEIGHBOUR: 'it returns false'. Refute it at one input. -/
def codeOneWrong : ChangeSpec := { name := "codeOne", fn := fun _ => fun
  | [d1, d2] => { results := [.lit (.bool false)], args := [d1, d2] }
  | _ => none }
def CodeOneWrongFalsely : Prop := codeOneRow.holds Try.pinned (OpenSpec.ofChange codeOneWrong)

/-- 'chirographlaw08.BloomReads': WHATEVER THE INPUT: true; the input reads as it did. -/
def bloomReadsSpec : ChangeSpec := { name := "bloomReads", fn := fun _ => fun
  | [d1, d2, d3] => { results := [.lit (.bool true)], args := [d1, d2, d3] }
  | _ => none }
def bloomReadsRow : OpenClaim := { program := "ytcnkmfmdadmaaaa", sum := "40d01e1f3db0e95b03a966d6b3a6a8b50c8638931067f2b53c1079042e5b766e", func := "chirograph/chirographlaw08.BloomReads", spec := "bloomReads", apart := false }
def BloomReadsSaid : Prop := bloomReadsRow.holds Try.pinned (OpenSpec.ofChange bloomReadsSpec)

/-- ITS FALSE NEIGHBOUR: 'it returns false'. Refute it at one input. -/
def bloomReadsWrong : ChangeSpec := { name := "bloomReads", fn := fun _ => fun
  | [d1, d2, d3] => { results := [.lit (.bool false)], args := [d1, d2, d3] }
  | _ => none }
def BloomReadsWrongFalsely : Prop := bloomReadsRow.holds Try.pinned (OpenSpec.ofChange bloomReadsWrong)

/- THE SECOND FORM. 'bulk': how many values and letters a reading holds, each counted each time it is reached (what is shared counts as often as it is met; a slice's spare places count too). A statement '..UptoSaid' is the law's where the arguments, and the package variables that the reading takes, are together of bulk at most 1048576: NARROWER than '..Said'. Prove '..Said' where nothing that the law and all that it calls make is longer than what came in: it says more and counts as full. Else prove '..UptoSaid'. A law counts once. -/
mutual
def uptoBulk {H : Type} : DataW H → Nat
  | .lit (.string bytes) => bytes.length + 1
  | .lit _ => 1
  | .nil => 1
  | .ptr d => uptoBulk d + 1
  | .slice elems spare => uptoBulkAll elems + uptoBulkAll spare + 1
  | .agg parts => uptoBulkAll parts + 1
  | .iface _ d => uptoBulk d + 1
  | .map entries => uptoBulkEntries entries + 1
  | .held _ => 1
def uptoBulkAll {H : Type} : List (DataW H) → Nat
  | [] => 0
  | d :: r => uptoBulk d + uptoBulkAll r
def uptoBulkEntries {H : Type} : List (Lit × DataW H) → Nat
  | [] => 0
  | x :: r => uptoBulkEntry x + uptoBulkEntries r
def uptoBulkEntry {H : Type} : Lit × DataW H → Nat
  | (.string bytes, d) => bytes.length + uptoBulk d + 1
  | (_, d) => uptoBulk d + 1
 end
def uptoSmall : (H : Type) → List (DataW H) → Bool := fun _ ds => decide (uptoBulkAll ds ≤ 1048576)
def OpenSpec.upto (s : _root_.Go.ChangeSpec) : _root_.Go.OpenSpec := { _root_.Go.OpenSpec.ofChange s with cond := some uptoSmall }

/-- 'chirographlaw12.MergeLists', WHERE WHAT IT READS IS OF BULK AT MOST 1048576: true; the input reads as it did. -/
def mergeListsUptoRow : OpenClaim := { program := "ytcnkmfmdadmaaaa", sum := "40d01e1f3db0e95b03a966d6b3a6a8b50c8638931067f2b53c1079042e5b766e", func := "chirograph/chirographlaw12.MergeLists", spec := "mergeLists", apart := false, narrowed := true }
def MergeListsUptoSaid : Prop := mergeListsUptoRow.holds Try.pinned (OpenSpec.upto mergeListsSpec)

/-- 'chirographlaw12.MergeTwice', WHERE WHAT IT READS IS OF BULK AT MOST 1048576: true; the input reads as it did. -/
def mergeTwiceUptoRow : OpenClaim := { program := "ytcnkmfmdadmaaaa", sum := "40d01e1f3db0e95b03a966d6b3a6a8b50c8638931067f2b53c1079042e5b766e", func := "chirograph/chirographlaw12.MergeTwice", spec := "mergeTwice", apart := false, narrowed := true }
def MergeTwiceUptoSaid : Prop := mergeTwiceUptoRow.holds Try.pinned (OpenSpec.upto mergeTwiceSpec)

/-- 'chirographlaw12.MergeNewest', WHERE WHAT IT READS IS OF BULK AT MOST 1048576: true; the input reads as it did. -/
def mergeNewestUptoRow : OpenClaim := { program := "ytcnkmfmdadmaaaa", sum := "40d01e1f3db0e95b03a966d6b3a6a8b50c8638931067f2b53c1079042e5b766e", func := "chirograph/chirographlaw12.MergeNewest", spec := "mergeNewest", apart := false, narrowed := true }
def MergeNewestUptoSaid : Prop := mergeNewestUptoRow.holds Try.pinned (OpenSpec.upto mergeNewestSpec)

/-- 'chirographlaw12.MergeSplits', WHERE WHAT IT READS IS OF BULK AT MOST 1048576: true; the input reads as it did. -/
def mergeSplitsUptoRow : OpenClaim := { program := "ytcnkmfmdadmaaaa", sum := "40d01e1f3db0e95b03a966d6b3a6a8b50c8638931067f2b53c1079042e5b766e", func := "chirograph/chirographlaw12.MergeSplits", spec := "mergeSplits", apart := false, narrowed := true }
def MergeSplitsUptoSaid : Prop := mergeSplitsUptoRow.holds Try.pinned (OpenSpec.upto mergeSplitsSpec)

/-- 'chirographlaw02.CodeCut', WHERE WHAT IT READS IS OF BULK AT MOST 1048576: true; the input reads as it did. -/
def codeCutUptoRow : OpenClaim := { program := "ytcnkmfmdadmaaaa", sum := "40d01e1f3db0e95b03a966d6b3a6a8b50c8638931067f2b53c1079042e5b766e", func := "chirograph/chirographlaw02.CodeCut", spec := "codeCut", apart := false, narrowed := true }
def CodeCutUptoSaid : Prop := codeCutUptoRow.holds Try.pinned (OpenSpec.upto codeCutSpec)

/-- 'chirographlaw08.BloomMakes', WHERE WHAT IT READS IS OF BULK AT MOST 1048576: true; the input reads as it did. -/
def bloomMakesUptoRow : OpenClaim := { program := "ytcnkmfmdadmaaaa", sum := "40d01e1f3db0e95b03a966d6b3a6a8b50c8638931067f2b53c1079042e5b766e", func := "chirograph/chirographlaw08.BloomMakes", spec := "bloomMakes", apart := false, narrowed := true }
def BloomMakesUptoSaid : Prop := bloomMakesUptoRow.holds Try.pinned (OpenSpec.upto bloomMakesSpec)

/-- 'chirographlaw08.BloomMore', WHERE WHAT IT READS IS OF BULK AT MOST 1048576: true; the input reads as it did. -/
def bloomMoreUptoRow : OpenClaim := { program := "ytcnkmfmdadmaaaa", sum := "40d01e1f3db0e95b03a966d6b3a6a8b50c8638931067f2b53c1079042e5b766e", func := "chirograph/chirographlaw08.BloomMore", spec := "bloomMore", apart := false, narrowed := true }
def BloomMoreUptoSaid : Prop := bloomMoreUptoRow.holds Try.pinned (OpenSpec.upto bloomMoreSpec)

/-- 'chirographlaw02.CodeWrites', WHERE WHAT IT READS IS OF BULK AT MOST 1048576: true; the input reads as it did. -/
def codeWritesUptoRow : OpenClaim := { program := "ytcnkmfmdadmaaaa", sum := "40d01e1f3db0e95b03a966d6b3a6a8b50c8638931067f2b53c1079042e5b766e", func := "chirograph/chirographlaw02.CodeWrites", spec := "codeWrites", apart := false, narrowed := true }
def CodeWritesUptoSaid : Prop := codeWritesUptoRow.holds Try.pinned (OpenSpec.upto codeWritesSpec)

/-- 'chirographlaw02.CodeReads', WHERE WHAT IT READS IS OF BULK AT MOST 1048576: true; the input reads as it did. -/
def codeReadsUptoRow : OpenClaim := { program := "ytcnkmfmdadmaaaa", sum := "40d01e1f3db0e95b03a966d6b3a6a8b50c8638931067f2b53c1079042e5b766e", func := "chirograph/chirographlaw02.CodeReads", spec := "codeReads", apart := false, narrowed := true }
def CodeReadsUptoSaid : Prop := codeReadsUptoRow.holds Try.pinned (OpenSpec.upto codeReadsSpec)

/-- 'chirographlaw02.CodeBack', WHERE WHAT IT READS IS OF BULK AT MOST 1048576: true; the input reads as it did. -/
def codeBackUptoRow : OpenClaim := { program := "ytcnkmfmdadmaaaa", sum := "40d01e1f3db0e95b03a966d6b3a6a8b50c8638931067f2b53c1079042e5b766e", func := "chirograph/chirographlaw02.CodeBack", spec := "codeBack", apart := false, narrowed := true }
def CodeBackUptoSaid : Prop := codeBackUptoRow.holds Try.pinned (OpenSpec.upto codeBackSpec)

/-- 'chirographlaw02.CodeOne', WHERE WHAT IT READS IS OF BULK AT MOST 1048576: true; the input reads as it did. -/
def codeOneUptoRow : OpenClaim := { program := "ytcnkmfmdadmaaaa", sum := "40d01e1f3db0e95b03a966d6b3a6a8b50c8638931067f2b53c1079042e5b766e", func := "chirograph/chirographlaw02.CodeOne", spec := "codeOne", apart := false, narrowed := true }
def CodeOneUptoSaid : Prop := codeOneUptoRow.holds Try.pinned (OpenSpec.upto codeOneSpec)

/-- 'chirographlaw08.BloomReads', WHERE WHAT IT READS IS OF BULK AT MOST 1048576: true; the input reads as it did. -/
def bloomReadsUptoRow : OpenClaim := { program := "ytcnkmfmdadmaaaa", sum := "40d01e1f3db0e95b03a966d6b3a6a8b50c8638931067f2b53c1079042e5b766e", func := "chirograph/chirographlaw08.BloomReads", spec := "bloomReads", apart := false, narrowed := true }
def BloomReadsUptoSaid : Prop := bloomReadsUptoRow.holds Try.pinned (OpenSpec.upto bloomReadsSpec)

end Rows
end Go.Proofs.Ytcnkmfmdadmaaaa
