/-
  No cell of these rows narrows 'for every input' (looked for: loops, veiled, ifaces, maps, wideKeys, modest, calm, conditions, laid).
  DERIVED. THE GIVEN ROWS OF THIS SEAT. 6 by the template 'for every input the law returns true; each argument reads behind the call as it read before'; 0 by the template 'total and deterministic' (their statements: YtnmnhnlebkebfaaTotals.lean).
  GIVEN WITH THE SEED: the statements are not yours to turn. If you find one false, say at which input.
  Laid BY PROGRAM, IN A SANDBOX (cutbox-rows.mjs): the forced cells as the released guide's own fill.sh prints them over the translation a3c3435e04e69ac9… (all of the seat's roots in one cut). By AI agents, Wed Nov 11 2026. No macro, syntax, notation, axiom, sorry.
-/
import Derived.Test.YtnmnhnlebkebfaaChecked
import GoSem.Claim
import GoSem.ClaimJoined
import GoSem.ClaimMapViews
import Derived.JoinedTies
import Derived.KernelRfl
namespace Go.Proofs.Ytnmnhnlebkebfaa
/- THE CELL 'sum', in the pinned program and in every row, IS THE sha256 OF THE DUMP (.gsa) THAT YtnmnhnlebkebfaaProg.lean LOADS. Nothing in Lean hashes anything: it is a label: what it is worth is what the hold of that sum in a sandbox is worth. -/
noncomputable def Try.pinned : Pinned := { name := "ytnmnhnlebkebfaa", sum := "a3c3435e04e69ac9bbc658f5dd75c4f738b3da1c3a23b6afbb07c98dda1f2da2", checked := Try.checked }
namespace Rows
def none {H : Type} : Left H := { results := [], args := [] }

/-- 'chirographlaw11.LevelCovers': WHATEVER THE INPUT: true; the input reads as it did. -/
def levelCoversSpec : ChangeSpec := { name := "levelCovers", fn := fun _ => fun
  | [d1, d2, d3] => { results := [.lit (.bool true)], args := [d1, d2, d3] }
  | _ => none }
def levelCoversRow : OpenClaim := { program := "ytnmnhnlebkebfaa", sum := "a3c3435e04e69ac9bbc658f5dd75c4f738b3da1c3a23b6afbb07c98dda1f2da2", func := "chirograph/chirographlaw11.LevelCovers", spec := "levelCovers", unfollowed := true, recurses := true, apart := false }
def LevelCoversSaid : Prop := levelCoversRow.holds Try.pinned (OpenSpec.ofChange levelCoversSpec)

/-- ITS FALSE NEIGHBOUR: 'it returns false'. Refute it at one input. -/
def levelCoversWrong : ChangeSpec := { name := "levelCovers", fn := fun _ => fun
  | [d1, d2, d3] => { results := [.lit (.bool false)], args := [d1, d2, d3] }
  | _ => none }
def LevelCoversWrongFalsely : Prop := levelCoversRow.holds Try.pinned (OpenSpec.ofChange levelCoversWrong)

/-- 'chirographlaw11.LevelPicks': WHATEVER THE INPUT: true; the input reads as it did. -/
def levelPicksSpec : ChangeSpec := { name := "levelPicks", fn := fun _ => fun
  | [d1, d2] => { results := [.lit (.bool true)], args := [d1, d2] }
  | _ => none }
def levelPicksRow : OpenClaim := { program := "ytnmnhnlebkebfaa", sum := "a3c3435e04e69ac9bbc658f5dd75c4f738b3da1c3a23b6afbb07c98dda1f2da2", func := "chirograph/chirographlaw11.LevelPicks", spec := "levelPicks", unfollowed := true, recurses := true, apart := false }
def LevelPicksSaid : Prop := levelPicksRow.holds Try.pinned (OpenSpec.ofChange levelPicksSpec)

/-- ITS FALSE NEIGHBOUR: 'it returns false'. Refute it at one input. -/
def levelPicksWrong : ChangeSpec := { name := "levelPicks", fn := fun _ => fun
  | [d1, d2] => { results := [.lit (.bool false)], args := [d1, d2] }
  | _ => none }
def LevelPicksWrongFalsely : Prop := levelPicksRow.holds Try.pinned (OpenSpec.ofChange levelPicksWrong)

/-- 'chirographlaw11.LevelApplies': WHATEVER THE INPUT: true; the input reads as it did. -/
def levelAppliesSpec : ChangeSpec := { name := "levelApplies", fn := fun _ => fun
  | [d1, d2, d3, d4] => { results := [.lit (.bool true)], args := [d1, d2, d3, d4] }
  | _ => none }
def levelAppliesRow : OpenClaim := { program := "ytnmnhnlebkebfaa", sum := "a3c3435e04e69ac9bbc658f5dd75c4f738b3da1c3a23b6afbb07c98dda1f2da2", func := "chirograph/chirographlaw11.LevelApplies", spec := "levelApplies", unfollowed := true, recurses := true, apart := false }
def LevelAppliesSaid : Prop := levelAppliesRow.holds Try.pinned (OpenSpec.ofChange levelAppliesSpec)

/-- ITS FALSE NEIGHBOUR: 'it returns false'. Refute it at one input. -/
def levelAppliesWrong : ChangeSpec := { name := "levelApplies", fn := fun _ => fun
  | [d1, d2, d3, d4] => { results := [.lit (.bool false)], args := [d1, d2, d3, d4] }
  | _ => none }
def LevelAppliesWrongFalsely : Prop := levelAppliesRow.holds Try.pinned (OpenSpec.ofChange levelAppliesWrong)

/-- 'chirographlaw11.LevelWhole': WHATEVER THE INPUT: true; the input reads as it did. -/
def levelWholeSpec : ChangeSpec := { name := "levelWhole", fn := fun _ => fun
  | [d] => { results := [.lit (.bool true)], args := [d] }
  | _ => none }
def levelWholeRow : OpenClaim := { program := "ytnmnhnlebkebfaa", sum := "a3c3435e04e69ac9bbc658f5dd75c4f738b3da1c3a23b6afbb07c98dda1f2da2", func := "chirograph/chirographlaw11.LevelWhole", spec := "levelWhole", unfollowed := true, recurses := true, apart := false }
def LevelWholeSaid : Prop := levelWholeRow.holds Try.pinned (OpenSpec.ofChange levelWholeSpec)

/-- ITS FALSE NEIGHBOUR: 'it returns false'. Refute it at one input. -/
def levelWholeWrong : ChangeSpec := { name := "levelWhole", fn := fun _ => fun
  | [d] => { results := [.lit (.bool false)], args := [d] }
  | _ => none }
def LevelWholeWrongFalsely : Prop := levelWholeRow.holds Try.pinned (OpenSpec.ofChange levelWholeWrong)

/-- 'chirographlaw11.LevelBytes': WHATEVER THE INPUT: true; the input reads as it did. -/
def levelBytesSpec : ChangeSpec := { name := "levelBytes", fn := fun _ => fun
  | [d1, d2] => { results := [.lit (.bool true)], args := [d1, d2] }
  | _ => none }
def levelBytesRow : OpenClaim := { program := "ytnmnhnlebkebfaa", sum := "a3c3435e04e69ac9bbc658f5dd75c4f738b3da1c3a23b6afbb07c98dda1f2da2", func := "chirograph/chirographlaw11.LevelBytes", spec := "levelBytes", unfollowed := true, recurses := true, apart := false }
def LevelBytesSaid : Prop := levelBytesRow.holds Try.pinned (OpenSpec.ofChange levelBytesSpec)

/-- ITS FALSE NEIGHBOUR: 'it returns false'. Refute it at one input. -/
def levelBytesWrong : ChangeSpec := { name := "levelBytes", fn := fun _ => fun
  | [d1, d2] => { results := [.lit (.bool false)], args := [d1, d2] }
  | _ => none }
def LevelBytesWrongFalsely : Prop := levelBytesRow.holds Try.pinned (OpenSpec.ofChange levelBytesWrong)

/-- 'chirographlaw11.LevelBack': WHATEVER THE INPUT: true; the input reads as it did. -/
def levelBackSpec : ChangeSpec := { name := "levelBack", fn := fun _ => fun
  | [d] => { results := [.lit (.bool true)], args := [d] }
  | _ => none }
def levelBackRow : OpenClaim := { program := "ytnmnhnlebkebfaa", sum := "a3c3435e04e69ac9bbc658f5dd75c4f738b3da1c3a23b6afbb07c98dda1f2da2", func := "chirograph/chirographlaw11.LevelBack", spec := "levelBack", unfollowed := true, recurses := true, apart := false }
def LevelBackSaid : Prop := levelBackRow.holds Try.pinned (OpenSpec.ofChange levelBackSpec)

/-- ITS FALSE NEIGHBOUR: 'it returns false'. Refute it at one input. -/
def levelBackWrong : ChangeSpec := { name := "levelBack", fn := fun _ => fun
  | [d] => { results := [.lit (.bool false)], args := [d] }
  | _ => none }
def LevelBackWrongFalsely : Prop := levelBackRow.holds Try.pinned (OpenSpec.ofChange levelBackWrong)

/- THE SECOND FORM. 'bulk': how many values and letters a reading holds, each counted each time it is reached (what is shared counts as often as it is met; a slice's spare places count too). A statement '..UptoSaid' is the law's where the arguments, and the package variables that the reading takes, are together of bulk at most 1048576: NARROWER than '..Said'. Prove '..Said' where nothing that the law and all that it calls make is longer than what came in: it says more and counts as full. Else prove '..UptoSaid'. A law counts once. -/
mutual
def uptoBulk {H : Type} : DataW H → Nat
  | .lit (.string bytes) => bytes.length + 1
  | .lit _ => 1
  | .nil => 1
  | .ptr d => uptoBulk d + 1
  | .slice elems spare => uptoBulkAll elems + uptoBulkAll spare + 1
  | .agg parts => uptoBulkAll parts + 1
  | .iface _ d => uptoBulk d + 1
  | .map entries => uptoBulkEntries entries + 1
  | .held _ => 1
def uptoBulkAll {H : Type} : List (DataW H) → Nat
  | [] => 0
  | d :: r => uptoBulk d + uptoBulkAll r
def uptoBulkEntries {H : Type} : List (Lit × DataW H) → Nat
  | [] => 0
  | x :: r => uptoBulkEntry x + uptoBulkEntries r
def uptoBulkEntry {H : Type} : Lit × DataW H → Nat
  | (.string bytes, d) => bytes.length + uptoBulk d + 1
  | (_, d) => uptoBulk d + 1
 end
def uptoSmall : (H : Type) → List (DataW H) → Bool := fun _ ds => decide (uptoBulkAll ds ≤ 1048576)
def OpenSpec.upto (s : _root_.Go.ChangeSpec) : _root_.Go.OpenSpec := { _root_.Go.OpenSpec.ofChange s with cond := some uptoSmall }

/-- 'chirographlaw11.LevelCovers', WHERE WHAT IT READS IS OF BULK AT MOST 1048576: true; the input reads as it did. -/
def levelCoversUptoRow : OpenClaim := { program := "ytnmnhnlebkebfaa", sum := "a3c3435e04e69ac9bbc658f5dd75c4f738b3da1c3a23b6afbb07c98dda1f2da2", func := "chirograph/chirographlaw11.LevelCovers", spec := "levelCovers", unfollowed := true, recurses := true, apart := false, narrowed := true }
def LevelCoversUptoSaid : Prop := levelCoversUptoRow.holds Try.pinned (OpenSpec.upto levelCoversSpec)

/-- 'chirographlaw11.LevelPicks', WHERE WHAT IT READS IS OF BULK AT MOST 1048576: true; the input reads as it did. -/
def levelPicksUptoRow : OpenClaim := { program := "ytnmnhnlebkebfaa", sum := "a3c3435e04e69ac9bbc658f5dd75c4f738b3da1c3a23b6afbb07c98dda1f2da2", func := "chirograph/chirographlaw11.LevelPicks", spec := "levelPicks", unfollowed := true, recurses := true, apart := false, narrowed := true }
def LevelPicksUptoSaid : Prop := levelPicksUptoRow.holds Try.pinned (OpenSpec.upto levelPicksSpec)

/-- 'chirographlaw11.LevelApplies', WHERE WHAT IT READS IS OF BULK AT MOST 1048576: true; the input reads as it did. -/
def levelAppliesUptoRow : OpenClaim := { program := "ytnmnhnlebkebfaa", sum := "a3c3435e04e69ac9bbc658f5dd75c4f738b3da1c3a23b6afbb07c98dda1f2da2", func := "chirograph/chirographlaw11.LevelApplies", spec := "levelApplies", unfollowed := true, recurses := true, apart := false, narrowed := true }
def LevelAppliesUptoSaid : Prop := levelAppliesUptoRow.holds Try.pinned (OpenSpec.upto levelAppliesSpec)

/-- 'chirographlaw11.LevelWhole', WHERE WHAT IT READS IS OF BULK AT MOST 1048576: true; the input reads as it did. -/
def levelWholeUptoRow : OpenClaim := { program := "ytnmnhnlebkebfaa", sum := "a3c3435e04e69ac9bbc658f5dd75c4f738b3da1c3a23b6afbb07c98dda1f2da2", func := "chirograph/chirographlaw11.LevelWhole", spec := "levelWhole", unfollowed := true, recurses := true, apart := false, narrowed := true }
def LevelWholeUptoSaid : Prop := levelWholeUptoRow.holds Try.pinned (OpenSpec.upto levelWholeSpec)

/-- 'chirographlaw11.LevelBytes', WHERE WHAT IT READS IS OF BULK AT MOST 1048576: true; the input reads as it did. -/
def levelBytesUptoRow : OpenClaim := { program := "ytnmnhnlebkebfaa", sum := "a3c3435e04e69ac9bbc658f5dd75c4f738b3da1c3a23b6afbb07c98dda1f2da2", func := "chirograph/chirographlaw11.LevelBytes", spec := "levelBytes", unfollowed := true, recurses := true, apart := false, narrowed := true }
def LevelBytesUptoSaid : Prop := levelBytesUptoRow.holds Try.pinned (OpenSpec.upto levelBytesSpec)

/-- 'chirographlaw11.LevelBack', WHERE WHAT IT READS IS OF BULK AT MOST 1048576: true; the input reads as it did. -/
def levelBackUptoRow : OpenClaim := { program := "ytnmnhnlebkebfaa", sum := "a3c3435e04e69ac9bbc658f5dd75c4f738b3da1c3a23b6afbb07c98dda1f2da2", func := "chirograph/chirographlaw11.LevelBack", spec := "levelBack", unfollowed := true, recurses := true, apart := false, narrowed := true }
def LevelBackUptoSaid : Prop := levelBackUptoRow.holds Try.pinned (OpenSpec.upto levelBackSpec)

end Rows
end Go.Proofs.Ytnmnhnlebkebfaa
