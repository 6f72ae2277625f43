/-
  No cell of these rows narrows 'for every input' (looked for: loops, veiled, ifaces, maps, wideKeys, modest, calm, conditions, laid).
  DERIVED. THE GIVEN ROWS OF THIS SEAT. 8 by the template 'for every input the law returns true; each argument reads behind the call as it read before'; 0 by the template 'total and deterministic' (their statements: YtcmgpkibjdbonaaTotals.lean).
  GIVEN WITH THE SEED: the statements are not yours to turn. If you find one false, say at which input.
  Laid BY PROGRAM, IN A SANDBOX (cutbox-rows.mjs): the forced cells as the released guide's own fill.sh prints them over the translation ef6aa5ffc09a4559… (all of the seat's roots in one cut). By AI agents, Wed Nov 11 2026. No macro, syntax, notation, axiom, sorry.
-/
import Derived.Test.YtcmgpkibjdbonaaChecked
import GoSem.Claim
import GoSem.ClaimJoined
import GoSem.ClaimMapViews
import Derived.JoinedTies
import Derived.KernelRfl
namespace Go.Proofs.Ytcmgpkibjdbonaa
/- THE CELL 'sum', in the pinned program and in every row, IS THE sha256 OF THE DUMP (.gsa) THAT YtcmgpkibjdbonaaProg.lean LOADS. Nothing in Lean hashes anything: it is a label: what it is worth is what the hold of that sum in a sandbox is worth. -/
noncomputable def Try.pinned : Pinned := { name := "ytcmgpkibjdbonaa", sum := "ef6aa5ffc09a4559cd44a781d786f7787277b535cb6f45b9f679af08866229fc", checked := Try.checked }
namespace Rows
def none {H : Type} : Left H := { results := [], args := [] }

/-- 'chirographlaw18.ProofMakes': WHATEVER THE INPUT: true; the input reads as it did. -/
def proofMakesSpec : ChangeSpec := { name := "proofMakes", fn := fun _ => fun
  | [d1, d2] => { results := [.lit (.bool true)], args := [d1, d2] }
  | _ => none }
def proofMakesRow : OpenClaim := { program := "ytcmgpkibjdbonaa", sum := "ef6aa5ffc09a4559cd44a781d786f7787277b535cb6f45b9f679af08866229fc", func := "chirograph/chirographlaw18.ProofMakes", spec := "proofMakes", inPlace := ["internal/bytealg.Compare"], unfollowed := true, recurses := true, plainKeys := false, apart := false }
def ProofMakesSaid : Prop := proofMakesRow.holds Try.pinned (OpenSpec.ofChange proofMakesSpec)

/-- ITS FALSE NEIGHBOUR: 'it returns false'. Refute it at one input. -/
def proofMakesWrong : ChangeSpec := { name := "proofMakes", fn := fun _ => fun
  | [d1, d2] => { results := [.lit (.bool false)], args := [d1, d2] }
  | _ => none }
def ProofMakesWrongFalsely : Prop := proofMakesRow.holds Try.pinned (OpenSpec.ofChange proofMakesWrong)

/-- 'chirographlaw19.StepTwice': WHATEVER THE INPUT: true; the input reads as it did. -/
def stepTwiceSpec : ChangeSpec := { name := "stepTwice", fn := fun _ => fun
  | [d1, d2, d3] => { results := [.lit (.bool true)], args := [d1, d2, d3] }
  | _ => none }
def stepTwiceRow : OpenClaim := { program := "ytcmgpkibjdbonaa", sum := "ef6aa5ffc09a4559cd44a781d786f7787277b535cb6f45b9f679af08866229fc", func := "chirograph/chirographlaw19.StepTwice", spec := "stepTwice", inPlace := ["internal/bytealg.Compare"], unfollowed := true, recurses := true, plainKeys := false, apart := false }
def StepTwiceSaid : Prop := stepTwiceRow.holds Try.pinned (OpenSpec.ofChange stepTwiceSpec)

/-- ITS FALSE NEIGHBOUR: 'it returns false'. Refute it at one input. -/
def stepTwiceWrong : ChangeSpec := { name := "stepTwice", fn := fun _ => fun
  | [d1, d2, d3] => { results := [.lit (.bool false)], args := [d1, d2, d3] }
  | _ => none }
def StepTwiceWrongFalsely : Prop := stepTwiceRow.holds Try.pinned (OpenSpec.ofChange stepTwiceWrong)

/-- 'chirographlaw18.ProofSure': WHATEVER THE INPUT: true; the input reads as it did. -/
def proofSureSpec : ChangeSpec := { name := "proofSure", fn := fun _ => fun
  | [d1, d2, d3] => { results := [.lit (.bool true)], args := [d1, d2, d3] }
  | _ => none }
def proofSureRow : OpenClaim := { program := "ytcmgpkibjdbonaa", sum := "ef6aa5ffc09a4559cd44a781d786f7787277b535cb6f45b9f679af08866229fc", func := "chirograph/chirographlaw18.ProofSure", spec := "proofSure", inPlace := ["internal/bytealg.Compare"], unfollowed := true, recurses := true, plainKeys := false, apart := false }
def ProofSureSaid : Prop := proofSureRow.holds Try.pinned (OpenSpec.ofChange proofSureSpec)

/-- ITS FALSE NEIGHBOUR: 'it returns false'. Refute it at one input. -/
def proofSureWrong : ChangeSpec := { name := "proofSure", fn := fun _ => fun
  | [d1, d2, d3] => { results := [.lit (.bool false)], args := [d1, d2, d3] }
  | _ => none }
def ProofSureWrongFalsely : Prop := proofSureRow.holds Try.pinned (OpenSpec.ofChange proofSureWrong)

/-- 'chirographlaw19.StepLabels': WHATEVER THE INPUT: true; the input reads as it did. -/
def stepLabelsSpec : ChangeSpec := { name := "stepLabels", fn := fun _ => fun
  | [d1, d2, d3, d4, d5, d6, d7] => { results := [.lit (.bool true)], args := [d1, d2, d3, d4, d5, d6, d7] }
  | _ => none }
def stepLabelsRow : OpenClaim := { program := "ytcmgpkibjdbonaa", sum := "ef6aa5ffc09a4559cd44a781d786f7787277b535cb6f45b9f679af08866229fc", func := "chirograph/chirographlaw19.StepLabels", spec := "stepLabels", inPlace := ["internal/bytealg.Compare"], unfollowed := true, recurses := true, plainKeys := false, apart := false }
def StepLabelsSaid : Prop := stepLabelsRow.holds Try.pinned (OpenSpec.ofChange stepLabelsSpec)

/-- ITS FALSE NEIGHBOUR: 'it returns false'. Refute it at one input. -/
def stepLabelsWrong : ChangeSpec := { name := "stepLabels", fn := fun _ => fun
  | [d1, d2, d3, d4, d5, d6, d7] => { results := [.lit (.bool false)], args := [d1, d2, d3, d4, d5, d6, d7] }
  | _ => none }
def StepLabelsWrongFalsely : Prop := stepLabelsRow.holds Try.pinned (OpenSpec.ofChange stepLabelsWrong)

/-- 'chirographlaw19.StepLeads': WHATEVER THE INPUT: true; the input reads as it did. -/
def stepLeadsSpec : ChangeSpec := { name := "stepLeads", fn := fun _ => fun
  | [d1, d2, d3, d4] => { results := [.lit (.bool true)], args := [d1, d2, d3, d4] }
  | _ => none }
def stepLeadsRow : OpenClaim := { program := "ytcmgpkibjdbonaa", sum := "ef6aa5ffc09a4559cd44a781d786f7787277b535cb6f45b9f679af08866229fc", func := "chirograph/chirographlaw19.StepLeads", spec := "stepLeads", inPlace := ["internal/bytealg.Compare"], unfollowed := true, recurses := true, plainKeys := false, apart := false }
def StepLeadsSaid : Prop := stepLeadsRow.holds Try.pinned (OpenSpec.ofChange stepLeadsSpec)

/-- ITS FALSE NEIGHBOUR: 'it returns false'. Refute it at one input. -/
def stepLeadsWrong : ChangeSpec := { name := "stepLeads", fn := fun _ => fun
  | [d1, d2, d3, d4] => { results := [.lit (.bool false)], args := [d1, d2, d3, d4] }
  | _ => none }
def StepLeadsWrongFalsely : Prop := stepLeadsRow.holds Try.pinned (OpenSpec.ofChange stepLeadsWrong)

/-- 'chirographlaw19.StepSure': WHATEVER THE INPUT: true; the input reads as it did. -/
def stepSureSpec : ChangeSpec := { name := "stepSure", fn := fun _ => fun
  | [d1, d2, d3] => { results := [.lit (.bool true)], args := [d1, d2, d3] }
  | _ => none }
def stepSureRow : OpenClaim := { program := "ytcmgpkibjdbonaa", sum := "ef6aa5ffc09a4559cd44a781d786f7787277b535cb6f45b9f679af08866229fc", func := "chirograph/chirographlaw19.StepSure", spec := "stepSure", inPlace := ["internal/bytealg.Compare"], unfollowed := true, recurses := true, plainKeys := false, apart := false }
def StepSureSaid : Prop := stepSureRow.holds Try.pinned (OpenSpec.ofChange stepSureSpec)

/-- ITS FALSE NEIGHBOUR: 'it returns false'. Refute it at one input. -/
def stepSureWrong : ChangeSpec := { name := "stepSure", fn := fun _ => fun
  | [d1, d2, d3] => { results := [.lit (.bool false)], args := [d1, d2, d3] }
  | _ => none }
def StepSureWrongFalsely : Prop := stepSureRow.holds Try.pinned (OpenSpec.ofChange stepSureWrong)

/-- 'chirographlaw19.StepBack': WHATEVER THE INPUT: true; the input reads as it did. -/
def stepBackSpec : ChangeSpec := { name := "stepBack", fn := fun _ => fun
  | [d1, d2] => { results := [.lit (.bool true)], args := [d1, d2] }
  | _ => none }
def stepBackRow : OpenClaim := { program := "ytcmgpkibjdbonaa", sum := "ef6aa5ffc09a4559cd44a781d786f7787277b535cb6f45b9f679af08866229fc", func := "chirograph/chirographlaw19.StepBack", spec := "stepBack", inPlace := ["internal/bytealg.Compare"], unfollowed := true, recurses := true, plainKeys := false, apart := false }
def StepBackSaid : Prop := stepBackRow.holds Try.pinned (OpenSpec.ofChange stepBackSpec)

/-- ITS FALSE NEIGHBOUR: 'it returns false'. Refute it at one input. -/
def stepBackWrong : ChangeSpec := { name := "stepBack", fn := fun _ => fun
  | [d1, d2] => { results := [.lit (.bool false)], args := [d1, d2] }
  | _ => none }
def StepBackWrongFalsely : Prop := stepBackRow.holds Try.pinned (OpenSpec.ofChange stepBackWrong)

/-- 'chirographlaw18.ProofBack': WHATEVER THE INPUT: true; the input reads as it did. -/
def proofBackSpec : ChangeSpec := { name := "proofBack", fn := fun _ => fun
  | [d1, d2] => { results := [.lit (.bool true)], args := [d1, d2] }
  | _ => none }
def proofBackRow : OpenClaim := { program := "ytcmgpkibjdbonaa", sum := "ef6aa5ffc09a4559cd44a781d786f7787277b535cb6f45b9f679af08866229fc", func := "chirograph/chirographlaw18.ProofBack", spec := "proofBack", inPlace := ["internal/bytealg.Compare"], unfollowed := true, recurses := true, plainKeys := false, apart := false }
def ProofBackSaid : Prop := proofBackRow.holds Try.pinned (OpenSpec.ofChange proofBackSpec)

/-- ITS FALSE NEIGHBOUR: 'it returns false'. Refute it at one input. -/
def proofBackWrong : ChangeSpec := { name := "proofBack", fn := fun _ => fun
  | [d1, d2] => { results := [.lit (.bool false)], args := [d1, d2] }
  | _ => none }
def ProofBackWrongFalsely : Prop := proofBackRow.holds Try.pinned (OpenSpec.ofChange proofBackWrong)

/- THE SECOND FORM. 'bulk': how many values and letters a reading holds, each counted each time it is reached (what is shared counts as often as it is met; a slice's spare places count too). A statement '..UptoSaid' is the law's where the arguments, and the package variables that the reading takes, are together of bulk at most 1048576: NARROWER than '..Said'. Prove '..Said' where nothing that the law and all that it calls make is longer than what came in: it says more and counts as full. Else prove '..UptoSaid'. A law counts once. -/
mutual
def uptoBulk {H : Type} : DataW H → Nat
  | .lit (.string bytes) => bytes.length + 1
  | .lit _ => 1
  | .nil => 1
  | .ptr d => uptoBulk d + 1
  | .slice elems spare => uptoBulkAll elems + uptoBulkAll spare + 1
  | .agg parts => uptoBulkAll parts + 1
  | .iface _ d => uptoBulk d + 1
  | .map entries => uptoBulkEntries entries + 1
  | .held _ => 1
def uptoBulkAll {H : Type} : List (DataW H) → Nat
  | [] => 0
  | d :: r => uptoBulk d + uptoBulkAll r
def uptoBulkEntries {H : Type} : List (Lit × DataW H) → Nat
  | [] => 0
  | x :: r => uptoBulkEntry x + uptoBulkEntries r
def uptoBulkEntry {H : Type} : Lit × DataW H → Nat
  | (.string bytes, d) => bytes.length + uptoBulk d + 1
  | (_, d) => uptoBulk d + 1
 end
def uptoSmall : (H : Type) → List (DataW H) → Bool := fun _ ds => decide (uptoBulkAll ds ≤ 1048576)
def OpenSpec.upto (s : _root_.Go.ChangeSpec) : _root_.Go.OpenSpec := { _root_.Go.OpenSpec.ofChange s with cond := some uptoSmall }

/-- 'chirographlaw18.ProofMakes', WHERE WHAT IT READS IS OF BULK AT MOST 1048576: true; the input reads as it did. -/
def proofMakesUptoRow : OpenClaim := { program := "ytcmgpkibjdbonaa", sum := "ef6aa5ffc09a4559cd44a781d786f7787277b535cb6f45b9f679af08866229fc", func := "chirograph/chirographlaw18.ProofMakes", spec := "proofMakes", inPlace := ["internal/bytealg.Compare"], unfollowed := true, recurses := true, plainKeys := false, apart := false, narrowed := true }
def ProofMakesUptoSaid : Prop := proofMakesUptoRow.holds Try.pinned (OpenSpec.upto proofMakesSpec)

/-- 'chirographlaw19.StepTwice', WHERE WHAT IT READS IS OF BULK AT MOST 1048576: true; the input reads as it did. -/
def stepTwiceUptoRow : OpenClaim := { program := "ytcmgpkibjdbonaa", sum := "ef6aa5ffc09a4559cd44a781d786f7787277b535cb6f45b9f679af08866229fc", func := "chirograph/chirographlaw19.StepTwice", spec := "stepTwice", inPlace := ["internal/bytealg.Compare"], unfollowed := true, recurses := true, plainKeys := false, apart := false, narrowed := true }
def StepTwiceUptoSaid : Prop := stepTwiceUptoRow.holds Try.pinned (OpenSpec.upto stepTwiceSpec)

/-- 'chirographlaw18.ProofSure', WHERE WHAT IT READS IS OF BULK AT MOST 1048576: true; the input reads as it did. -/
def proofSureUptoRow : OpenClaim := { program := "ytcmgpkibjdbonaa", sum := "ef6aa5ffc09a4559cd44a781d786f7787277b535cb6f45b9f679af08866229fc", func := "chirograph/chirographlaw18.ProofSure", spec := "proofSure", inPlace := ["internal/bytealg.Compare"], unfollowed := true, recurses := true, plainKeys := false, apart := false, narrowed := true }
def ProofSureUptoSaid : Prop := proofSureUptoRow.holds Try.pinned (OpenSpec.upto proofSureSpec)

/-- 'chirographlaw19.StepLabels', WHERE WHAT IT READS IS OF BULK AT MOST 1048576: true; the input reads as it did. -/
def stepLabelsUptoRow : OpenClaim := { program := "ytcmgpkibjdbonaa", sum := "ef6aa5ffc09a4559cd44a781d786f7787277b535cb6f45b9f679af08866229fc", func := "chirograph/chirographlaw19.StepLabels", spec := "stepLabels", inPlace := ["internal/bytealg.Compare"], unfollowed := true, recurses := true, plainKeys := false, apart := false, narrowed := true }
def StepLabelsUptoSaid : Prop := stepLabelsUptoRow.holds Try.pinned (OpenSpec.upto stepLabelsSpec)

/-- 'chirographlaw19.StepLeads', WHERE WHAT IT READS IS OF BULK AT MOST 1048576: true; the input reads as it did. -/
def stepLeadsUptoRow : OpenClaim := { program := "ytcmgpkibjdbonaa", sum := "ef6aa5ffc09a4559cd44a781d786f7787277b535cb6f45b9f679af08866229fc", func := "chirograph/chirographlaw19.StepLeads", spec := "stepLeads", inPlace := ["internal/bytealg.Compare"], unfollowed := true, recurses := true, plainKeys := false, apart := false, narrowed := true }
def StepLeadsUptoSaid : Prop := stepLeadsUptoRow.holds Try.pinned (OpenSpec.upto stepLeadsSpec)

/-- 'chirographlaw19.StepSure', WHERE WHAT IT READS IS OF BULK AT MOST 1048576: true; the input reads as it did. -/
def stepSureUptoRow : OpenClaim := { program := "ytcmgpkibjdbonaa", sum := "ef6aa5ffc09a4559cd44a781d786f7787277b535cb6f45b9f679af08866229fc", func := "chirograph/chirographlaw19.StepSure", spec := "stepSure", inPlace := ["internal/bytealg.Compare"], unfollowed := true, recurses := true, plainKeys := false, apart := false, narrowed := true }
def StepSureUptoSaid : Prop := stepSureUptoRow.holds Try.pinned (OpenSpec.upto stepSureSpec)

/-- 'chirographlaw19.StepBack', WHERE WHAT IT READS IS OF BULK AT MOST 1048576: true; the input reads as it did. -/
def stepBackUptoRow : OpenClaim := { program := "ytcmgpkibjdbonaa", sum := "ef6aa5ffc09a4559cd44a781d786f7787277b535cb6f45b9f679af08866229fc", func := "chirograph/chirographlaw19.StepBack", spec := "stepBack", inPlace := ["internal/bytealg.Compare"], unfollowed := true, recurses := true, plainKeys := false, apart := false, narrowed := true }
def StepBackUptoSaid : Prop := stepBackUptoRow.holds Try.pinned (OpenSpec.upto stepBackSpec)

/-- 'chirographlaw18.ProofBack', WHERE WHAT IT READS IS OF BULK AT MOST 1048576: true; the input reads as it did. -/
def proofBackUptoRow : OpenClaim := { program := "ytcmgpkibjdbonaa", sum := "ef6aa5ffc09a4559cd44a781d786f7787277b535cb6f45b9f679af08866229fc", func := "chirograph/chirographlaw18.ProofBack", spec := "proofBack", inPlace := ["internal/bytealg.Compare"], unfollowed := true, recurses := true, plainKeys := false, apart := false, narrowed := true }
def ProofBackUptoSaid : Prop := proofBackUptoRow.holds Try.pinned (OpenSpec.upto proofBackSpec)

end Rows
end Go.Proofs.Ytcmgpkibjdbonaa
