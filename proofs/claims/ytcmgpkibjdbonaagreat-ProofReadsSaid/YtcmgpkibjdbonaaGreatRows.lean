/-
  No cell of these rows narrows 'for every input' (looked for: loops, veiled, ifaces, maps, wideKeys, modest, calm, conditions, laid).
  DERIVED. THE GIVEN ROWS OF THIS SEAT. 5 by the template 'for every input the law returns true; each argument reads behind the call as it read before'; 0 by the template 'total and deterministic' (their statements: YtcmgpkibjdbonaaGreatTotals.lean).
  GIVEN WITH THE SEED: the statements are not yours to turn. If you find one false, say at which input.
  Laid BY PROGRAM, IN A SANDBOX (cutbox-rows.mjs): the forced cells as the released guide's own fill.sh prints them over the translation 35ef3c133a6cbd0e… (all of the seat's roots in one cut). By AI agents, Wed Nov 11 2026. No macro, syntax, notation, axiom, sorry.
-/
import Derived.Test.YtcmgpkibjdbonaaGreatChecked
import GoSem.Claim
import GoSem.ClaimJoined
import GoSem.ClaimMapViews
import Derived.JoinedTies
import Derived.KernelRfl
namespace Go.Proofs.YtcmgpkibjdbonaaGreat
/- THE CELL 'sum', in the pinned program and in every row, IS THE sha256 OF THE DUMP (.gsa) THAT YtcmgpkibjdbonaaGreatProg.lean LOADS. Nothing in Lean hashes anything: it is a label: what it is worth is what the hold of that sum in a sandbox is worth. -/
noncomputable def Tryz.pinned : Pinned := { name := "ytcmgpkibjdbonaagreat", sum := "35ef3c133a6cbd0ec4d1d8ec0f45eb17d8fa149a6f769748f48b8c03f87adcc0", checked := Tryz.checked }
namespace Rows
def none {H : Type} : Left H := { results := [], args := [] }

/-- 'chirographlaw19.StepMakes': WHATEVER THE INPUT: true; the input reads as it did. -/
def stepMakesSpec : ChangeSpec := { name := "stepMakes", fn := fun _ => fun
  | [d1, d2, d3] => { results := [.lit (.bool true)], args := [d1, d2, d3] }
  | _ => none }
def stepMakesRow : OpenClaim := { program := "ytcmgpkibjdbonaagreat", sum := "35ef3c133a6cbd0ec4d1d8ec0f45eb17d8fa149a6f769748f48b8c03f87adcc0", func := "chirograph/chirographlaw19.StepMakes", spec := "stepMakes", inPlace := ["internal/bytealg.Compare"], unfollowed := true, recurses := true, plainKeys := false, apart := false }
def StepMakesSaid : Prop := stepMakesRow.holds Tryz.pinned (OpenSpec.ofChange stepMakesSpec)

/-- ITS FALSE NEIGHBOUR: 'it returns false'. Refute it at one input. -/
def stepMakesWrong : ChangeSpec := { name := "stepMakes", fn := fun _ => fun
  | [d1, d2, d3] => { results := [.lit (.bool false)], args := [d1, d2, d3] }
  | _ => none }
def StepMakesWrongFalsely : Prop := stepMakesRow.holds Tryz.pinned (OpenSpec.ofChange stepMakesWrong)

/-- 'chirographlaw18.ProofChecks': WHATEVER THE INPUT: true; the input reads as it did. -/
def proofChecksSpec : ChangeSpec := { name := "proofChecks", fn := fun _ => fun
  | [d1, d2, d3, d4] => { results := [.lit (.bool true)], args := [d1, d2, d3, d4] }
  | _ => none }
def proofChecksRow : OpenClaim := { program := "ytcmgpkibjdbonaagreat", sum := "35ef3c133a6cbd0ec4d1d8ec0f45eb17d8fa149a6f769748f48b8c03f87adcc0", func := "chirograph/chirographlaw18.ProofChecks", spec := "proofChecks", inPlace := ["internal/bytealg.Compare"], unfollowed := true, recurses := true, plainKeys := false, apart := false }
def ProofChecksSaid : Prop := proofChecksRow.holds Tryz.pinned (OpenSpec.ofChange proofChecksSpec)

/-- ITS FALSE NEIGHBOUR: 'it returns false'. Refute it at one input. -/
def proofChecksWrong : ChangeSpec := { name := "proofChecks", fn := fun _ => fun
  | [d1, d2, d3, d4] => { results := [.lit (.bool false)], args := [d1, d2, d3, d4] }
  | _ => none }
def ProofChecksWrongFalsely : Prop := proofChecksRow.holds Tryz.pinned (OpenSpec.ofChange proofChecksWrong)

/-- 'chirographlaw19.StepChecks': WHATEVER THE INPUT: true; the input reads as it did. -/
def stepChecksSpec : ChangeSpec := { name := "stepChecks", fn := fun _ => fun
  | [d1, d2, d3, d4, d5, d6] => { results := [.lit (.bool true)], args := [d1, d2, d3, d4, d5, d6] }
  | _ => none }
def stepChecksRow : OpenClaim := { program := "ytcmgpkibjdbonaagreat", sum := "35ef3c133a6cbd0ec4d1d8ec0f45eb17d8fa149a6f769748f48b8c03f87adcc0", func := "chirograph/chirographlaw19.StepChecks", spec := "stepChecks", inPlace := ["internal/bytealg.Compare"], unfollowed := true, recurses := true, plainKeys := false, apart := false }
def StepChecksSaid : Prop := stepChecksRow.holds Tryz.pinned (OpenSpec.ofChange stepChecksSpec)

/-- ITS FALSE NEIGHBOUR: 'it returns false'. Refute it at one input. -/
def stepChecksWrong : ChangeSpec := { name := "stepChecks", fn := fun _ => fun
  | [d1, d2, d3, d4, d5, d6] => { results := [.lit (.bool false)], args := [d1, d2, d3, d4, d5, d6] }
  | _ => none }
def StepChecksWrongFalsely : Prop := stepChecksRow.holds Tryz.pinned (OpenSpec.ofChange stepChecksWrong)

/-- 'chirographlaw19.StepReads': WHATEVER THE INPUT: true; the input reads as it did. -/
def stepReadsSpec : ChangeSpec := { name := "stepReads", fn := fun _ => fun
  | [d1, d2] => { results := [.lit (.bool true)], args := [d1, d2] }
  | _ => none }
def stepReadsRow : OpenClaim := { program := "ytcmgpkibjdbonaagreat", sum := "35ef3c133a6cbd0ec4d1d8ec0f45eb17d8fa149a6f769748f48b8c03f87adcc0", func := "chirograph/chirographlaw19.StepReads", spec := "stepReads", inPlace := ["internal/bytealg.Compare"], unfollowed := true, recurses := true, plainKeys := false, apart := false }
def StepReadsSaid : Prop := stepReadsRow.holds Tryz.pinned (OpenSpec.ofChange stepReadsSpec)

/-- ITS FALSE NEIGHBOUR: 'it returns false'. Refute it at one input. -/
def stepReadsWrong : ChangeSpec := { name := "stepReads", fn := fun _ => fun
  | [d1, d2] => { results := [.lit (.bool false)], args := [d1, d2] }
  | _ => none }
def StepReadsWrongFalsely : Prop := stepReadsRow.holds Tryz.pinned (OpenSpec.ofChange stepReadsWrong)

/-- 'chirographlaw18.ProofReads': WHATEVER THE INPUT: true; the input reads as it did. -/
def proofReadsSpec : ChangeSpec := { name := "proofReads", fn := fun _ => fun
  | [d1, d2] => { results := [.lit (.bool true)], args := [d1, d2] }
  | _ => none }
def proofReadsRow : OpenClaim := { program := "ytcmgpkibjdbonaagreat", sum := "35ef3c133a6cbd0ec4d1d8ec0f45eb17d8fa149a6f769748f48b8c03f87adcc0", func := "chirograph/chirographlaw18.ProofReads", spec := "proofReads", inPlace := ["internal/bytealg.Compare"], unfollowed := true, recurses := true, plainKeys := false, apart := false }
def ProofReadsSaid : Prop := proofReadsRow.holds Tryz.pinned (OpenSpec.ofChange proofReadsSpec)

/-- ITS FALSE NEIGHBOUR: 'it returns false'. Refute it at one input. -/
def proofReadsWrong : ChangeSpec := { name := "proofReads", fn := fun _ => fun
  | [d1, d2] => { results := [.lit (.bool false)], args := [d1, d2] }
  | _ => none }
def ProofReadsWrongFalsely : Prop := proofReadsRow.holds Tryz.pinned (OpenSpec.ofChange proofReadsWrong)

/- THE SECOND FORM. 'bulk': how many values and letters a reading holds, each counted each time it is reached (what is shared counts as often as it is met; a slice's spare places count too). A statement '..UptoSaid' is the law's where the arguments, and the package variables that the reading takes, are together of bulk at most 1048576: NARROWER than '..Said'. Prove '..Said' where nothing that the law and all that it calls make is longer than what came in: it says more and counts as full. Else prove '..UptoSaid'. A law counts once. -/
mutual
def uptoBulk {H : Type} : DataW H → Nat
  | .lit (.string bytes) => bytes.length + 1
  | .lit _ => 1
  | .nil => 1
  | .ptr d => uptoBulk d + 1
  | .slice elems spare => uptoBulkAll elems + uptoBulkAll spare + 1
  | .agg parts => uptoBulkAll parts + 1
  | .iface _ d => uptoBulk d + 1
  | .map entries => uptoBulkEntries entries + 1
  | .held _ => 1
def uptoBulkAll {H : Type} : List (DataW H) → Nat
  | [] => 0
  | d :: r => uptoBulk d + uptoBulkAll r
def uptoBulkEntries {H : Type} : List (Lit × DataW H) → Nat
  | [] => 0
  | x :: r => uptoBulkEntry x + uptoBulkEntries r
def uptoBulkEntry {H : Type} : Lit × DataW H → Nat
  | (.string bytes, d) => bytes.length + uptoBulk d + 1
  | (_, d) => uptoBulk d + 1
 end
def uptoSmall : (H : Type) → List (DataW H) → Bool := fun _ ds => decide (uptoBulkAll ds ≤ 1048576)
def OpenSpec.upto (s : _root_.Go.ChangeSpec) : _root_.Go.OpenSpec := { _root_.Go.OpenSpec.ofChange s with cond := some uptoSmall }

/-- 'chirographlaw19.StepMakes', WHERE WHAT IT READS IS OF BULK AT MOST 1048576: true; the input reads as it did. -/
def stepMakesUptoRow : OpenClaim := { program := "ytcmgpkibjdbonaagreat", sum := "35ef3c133a6cbd0ec4d1d8ec0f45eb17d8fa149a6f769748f48b8c03f87adcc0", func := "chirograph/chirographlaw19.StepMakes", spec := "stepMakes", inPlace := ["internal/bytealg.Compare"], unfollowed := true, recurses := true, plainKeys := false, apart := false, narrowed := true }
def StepMakesUptoSaid : Prop := stepMakesUptoRow.holds Tryz.pinned (OpenSpec.upto stepMakesSpec)

/-- 'chirographlaw18.ProofChecks', WHERE WHAT IT READS IS OF BULK AT MOST 1048576: true; the input reads as it did. -/
def proofChecksUptoRow : OpenClaim := { program := "ytcmgpkibjdbonaagreat", sum := "35ef3c133a6cbd0ec4d1d8ec0f45eb17d8fa149a6f769748f48b8c03f87adcc0", func := "chirograph/chirographlaw18.ProofChecks", spec := "proofChecks", inPlace := ["internal/bytealg.Compare"], unfollowed := true, recurses := true, plainKeys := false, apart := false, narrowed := true }
def ProofChecksUptoSaid : Prop := proofChecksUptoRow.holds Tryz.pinned (OpenSpec.upto proofChecksSpec)

/-- 'chirographlaw19.StepChecks', WHERE WHAT IT READS IS OF BULK AT MOST 1048576: true; the input reads as it did. -/
def stepChecksUptoRow : OpenClaim := { program := "ytcmgpkibjdbonaagreat", sum := "35ef3c133a6cbd0ec4d1d8ec0f45eb17d8fa149a6f769748f48b8c03f87adcc0", func := "chirograph/chirographlaw19.StepChecks", spec := "stepChecks", inPlace := ["internal/bytealg.Compare"], unfollowed := true, recurses := true, plainKeys := false, apart := false, narrowed := true }
def StepChecksUptoSaid : Prop := stepChecksUptoRow.holds Tryz.pinned (OpenSpec.upto stepChecksSpec)

/-- 'chirographlaw19.StepReads', WHERE WHAT IT READS IS OF BULK AT MOST 1048576: true; the input reads as it did. -/
def stepReadsUptoRow : OpenClaim := { program := "ytcmgpkibjdbonaagreat", sum := "35ef3c133a6cbd0ec4d1d8ec0f45eb17d8fa149a6f769748f48b8c03f87adcc0", func := "chirograph/chirographlaw19.StepReads", spec := "stepReads", inPlace := ["internal/bytealg.Compare"], unfollowed := true, recurses := true, plainKeys := false, apart := false, narrowed := true }
def StepReadsUptoSaid : Prop := stepReadsUptoRow.holds Tryz.pinned (OpenSpec.upto stepReadsSpec)

/-- 'chirographlaw18.ProofReads', WHERE WHAT IT READS IS OF BULK AT MOST 1048576: true; the input reads as it did. -/
def proofReadsUptoRow : OpenClaim := { program := "ytcmgpkibjdbonaagreat", sum := "35ef3c133a6cbd0ec4d1d8ec0f45eb17d8fa149a6f769748f48b8c03f87adcc0", func := "chirograph/chirographlaw18.ProofReads", spec := "proofReads", inPlace := ["internal/bytealg.Compare"], unfollowed := true, recurses := true, plainKeys := false, apart := false, narrowed := true }
def ProofReadsUptoSaid : Prop := proofReadsUptoRow.holds Tryz.pinned (OpenSpec.upto proofReadsSpec)

end Rows
end Go.Proofs.YtcmgpkibjdbonaaGreat
