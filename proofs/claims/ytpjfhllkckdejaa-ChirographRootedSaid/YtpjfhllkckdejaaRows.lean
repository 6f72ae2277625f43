/-
  No cell of these rows narrows 'for every input' (looked for: loops, veiled, ifaces, maps, wideKeys, modest, calm, conditions, laid).
  DERIVED. THE GIVEN ROWS OF THIS SEAT. 7 by the template 'for every input the law returns true; each argument reads behind the call as it read before'; 0 by the template 'total and deterministic' (their statements: YtpjfhllkckdejaaTotals.lean).
  GIVEN WITH THE SEED: the statements are not yours to turn. If you find one false, say at which input.
  Laid BY PROGRAM, IN A SANDBOX (cutbox-rows.mjs): the forced cells as the released guide's own fill.sh prints them over the translation 540bd5d8f160ab5d… (all of the seat's roots in one cut). By AI agents, Wed Nov 11 2026. No macro, syntax, notation, axiom, sorry.
-/
import Derived.Test.YtpjfhllkckdejaaChecked
import GoSem.Claim
import GoSem.ClaimJoined
import GoSem.ClaimMapViews
import Derived.JoinedTies
import Derived.KernelRfl
namespace Go.Proofs.Ytpjfhllkckdejaa
/- THE CELL 'sum', in the pinned program and in every row, IS THE sha256 OF THE DUMP (.gsa) THAT YtpjfhllkckdejaaProg.lean LOADS. Nothing in Lean hashes anything: it is a label: what it is worth is what the hold of that sum in a sandbox is worth. -/
noncomputable def Try.pinned : Pinned := { name := "ytpjfhllkckdejaa", sum := "540bd5d8f160ab5d135428519d150da8c1c82fa033cd7b44af891d762f68c0cc", checked := Try.checked }
namespace Rows
def none {H : Type} : Left H := { results := [], args := [] }

/-- 'chirographtop.ChirographRooted': WHATEVER THE INPUT: true; the input reads as it did. -/
def chirographRootedSpec : ChangeSpec := { name := "chirographRooted", fn := fun _ => fun
  | [d] => { results := [.lit (.bool true)], args := [d] }
  | _ => none }
def chirographRootedRow : OpenClaim := { program := "ytpjfhllkckdejaa", sum := "540bd5d8f160ab5d135428519d150da8c1c82fa033cd7b44af891d762f68c0cc", func := "chirograph/chirographtop.ChirographRooted", spec := "chirographRooted", inPlace := ["internal/bytealg.Compare"], unfollowed := true, recurses := true, apart := false }
def ChirographRootedSaid : Prop := chirographRootedRow.holds Try.pinned (OpenSpec.ofChange chirographRootedSpec)

/-- ITS FALSE NEIGHBOUR: 'it returns false'. Refute it at one input. -/
def chirographRootedWrong : ChangeSpec := { name := "chirographRooted", fn := fun _ => fun
  | [d] => { results := [.lit (.bool false)], args := [d] }
  | _ => none }
def ChirographRootedWrongFalsely : Prop := chirographRootedRow.holds Try.pinned (OpenSpec.ofChange chirographRootedWrong)

/-- 'chirographlaw16.PatchTops': WHATEVER THE INPUT: true; the input reads as it did. -/
def patchTopsSpec : ChangeSpec := { name := "patchTops", fn := fun _ => fun
  | [d] => { results := [.lit (.bool true)], args := [d] }
  | _ => none }
def patchTopsRow : OpenClaim := { program := "ytpjfhllkckdejaa", sum := "540bd5d8f160ab5d135428519d150da8c1c82fa033cd7b44af891d762f68c0cc", func := "chirograph/chirographlaw16.PatchTops", spec := "patchTops", inPlace := ["internal/bytealg.Compare"], unfollowed := true, recurses := true, apart := false }
def PatchTopsSaid : Prop := patchTopsRow.holds Try.pinned (OpenSpec.ofChange patchTopsSpec)

/-- ITS FALSE NEIGHBOUR: 'it returns false'. Refute it at one input. -/
def patchTopsWrong : ChangeSpec := { name := "patchTops", fn := fun _ => fun
  | [d] => { results := [.lit (.bool false)], args := [d] }
  | _ => none }
def PatchTopsWrongFalsely : Prop := patchTopsRow.holds Try.pinned (OpenSpec.ofChange patchTopsWrong)

/-- 'chirographlaw16.PatchCovers': WHATEVER THE INPUT: true; the input reads as it did. -/
def patchCoversSpec : ChangeSpec := { name := "patchCovers", fn := fun _ => fun
  | [d1, d2] => { results := [.lit (.bool true)], args := [d1, d2] }
  | _ => none }
def patchCoversRow : OpenClaim := { program := "ytpjfhllkckdejaa", sum := "540bd5d8f160ab5d135428519d150da8c1c82fa033cd7b44af891d762f68c0cc", func := "chirograph/chirographlaw16.PatchCovers", spec := "patchCovers", inPlace := ["internal/bytealg.Compare"], unfollowed := true, recurses := true, apart := false }
def PatchCoversSaid : Prop := patchCoversRow.holds Try.pinned (OpenSpec.ofChange patchCoversSpec)

/-- ITS FALSE NEIGHBOUR: 'it returns false'. Refute it at one input. -/
def patchCoversWrong : ChangeSpec := { name := "patchCovers", fn := fun _ => fun
  | [d1, d2] => { results := [.lit (.bool false)], args := [d1, d2] }
  | _ => none }
def PatchCoversWrongFalsely : Prop := patchCoversRow.holds Try.pinned (OpenSpec.ofChange patchCoversWrong)

/-- 'chirographlaw16.PatchParts': WHATEVER THE INPUT: true; the input reads as it did. -/
def patchPartsSpec : ChangeSpec := { name := "patchParts", fn := fun _ => fun
  | [d1, d2, d3] => { results := [.lit (.bool true)], args := [d1, d2, d3] }
  | _ => none }
def patchPartsRow : OpenClaim := { program := "ytpjfhllkckdejaa", sum := "540bd5d8f160ab5d135428519d150da8c1c82fa033cd7b44af891d762f68c0cc", func := "chirograph/chirographlaw16.PatchParts", spec := "patchParts", inPlace := ["internal/bytealg.Compare"], unfollowed := true, recurses := true, apart := false }
def PatchPartsSaid : Prop := patchPartsRow.holds Try.pinned (OpenSpec.ofChange patchPartsSpec)

/-- ITS FALSE NEIGHBOUR: 'it returns false'. Refute it at one input. -/
def patchPartsWrong : ChangeSpec := { name := "patchParts", fn := fun _ => fun
  | [d1, d2, d3] => { results := [.lit (.bool false)], args := [d1, d2, d3] }
  | _ => none }
def PatchPartsWrongFalsely : Prop := patchPartsRow.holds Try.pinned (OpenSpec.ofChange patchPartsWrong)

/-- 'chirographlaw16.PatchOrder': WHATEVER THE INPUT: true; the input reads as it did. -/
def patchOrderSpec : ChangeSpec := { name := "patchOrder", fn := fun _ => fun
  | [d1, d2] => { results := [.lit (.bool true)], args := [d1, d2] }
  | _ => none }
def patchOrderRow : OpenClaim := { program := "ytpjfhllkckdejaa", sum := "540bd5d8f160ab5d135428519d150da8c1c82fa033cd7b44af891d762f68c0cc", func := "chirograph/chirographlaw16.PatchOrder", spec := "patchOrder", inPlace := ["internal/bytealg.Compare"], unfollowed := true, recurses := true, apart := false }
def PatchOrderSaid : Prop := patchOrderRow.holds Try.pinned (OpenSpec.ofChange patchOrderSpec)

/-- ITS FALSE NEIGHBOUR: 'it returns false'. Refute it at one input. -/
def patchOrderWrong : ChangeSpec := { name := "patchOrder", fn := fun _ => fun
  | [d1, d2] => { results := [.lit (.bool false)], args := [d1, d2] }
  | _ => none }
def PatchOrderWrongFalsely : Prop := patchOrderRow.holds Try.pinned (OpenSpec.ofChange patchOrderWrong)

/-- 'chirographlaw16.PatchDeep': WHATEVER THE INPUT: true; the input reads as it did. -/
def patchDeepSpec : ChangeSpec := { name := "patchDeep", fn := fun _ => fun
  | [d] => { results := [.lit (.bool true)], args := [d] }
  | _ => none }
def patchDeepRow : OpenClaim := { program := "ytpjfhllkckdejaa", sum := "540bd5d8f160ab5d135428519d150da8c1c82fa033cd7b44af891d762f68c0cc", func := "chirograph/chirographlaw16.PatchDeep", spec := "patchDeep", inPlace := ["internal/bytealg.Compare"], unfollowed := true, recurses := true, apart := false }
def PatchDeepSaid : Prop := patchDeepRow.holds Try.pinned (OpenSpec.ofChange patchDeepSpec)

/-- ITS FALSE NEIGHBOUR: 'it returns false'. Refute it at one input. -/
def patchDeepWrong : ChangeSpec := { name := "patchDeep", fn := fun _ => fun
  | [d] => { results := [.lit (.bool false)], args := [d] }
  | _ => none }
def PatchDeepWrongFalsely : Prop := patchDeepRow.holds Try.pinned (OpenSpec.ofChange patchDeepWrong)

/-- 'chirographlaw16.PatchLess': WHATEVER THE INPUT: true; the input reads as it did. -/
def patchLessSpec : ChangeSpec := { name := "patchLess", fn := fun _ => fun
  | [d1, d2] => { results := [.lit (.bool true)], args := [d1, d2] }
  | _ => none }
def patchLessRow : OpenClaim := { program := "ytpjfhllkckdejaa", sum := "540bd5d8f160ab5d135428519d150da8c1c82fa033cd7b44af891d762f68c0cc", func := "chirograph/chirographlaw16.PatchLess", spec := "patchLess", inPlace := ["internal/bytealg.Compare"], unfollowed := true, recurses := true, apart := false }
def PatchLessSaid : Prop := patchLessRow.holds Try.pinned (OpenSpec.ofChange patchLessSpec)

/-- ITS FALSE NEIGHBOUR: 'it returns false'. Refute it at one input. -/
def patchLessWrong : ChangeSpec := { name := "patchLess", fn := fun _ => fun
  | [d1, d2] => { results := [.lit (.bool false)], args := [d1, d2] }
  | _ => none }
def PatchLessWrongFalsely : Prop := patchLessRow.holds Try.pinned (OpenSpec.ofChange patchLessWrong)

/- THE SECOND FORM. 'bulk': how many values and letters a reading holds, each counted each time it is reached (what is shared counts as often as it is met; a slice's spare places count too). A statement '..UptoSaid' is the law's where the arguments, and the package variables that the reading takes, are together of bulk at most 1048576: NARROWER than '..Said'. Prove '..Said' where nothing that the law and all that it calls make is longer than what came in: it says more and counts as full. Else prove '..UptoSaid'. A law counts once. -/
mutual
def uptoBulk {H : Type} : DataW H → Nat
  | .lit (.string bytes) => bytes.length + 1
  | .lit _ => 1
  | .nil => 1
  | .ptr d => uptoBulk d + 1
  | .slice elems spare => uptoBulkAll elems + uptoBulkAll spare + 1
  | .agg parts => uptoBulkAll parts + 1
  | .iface _ d => uptoBulk d + 1
  | .map entries => uptoBulkEntries entries + 1
  | .held _ => 1
def uptoBulkAll {H : Type} : List (DataW H) → Nat
  | [] => 0
  | d :: r => uptoBulk d + uptoBulkAll r
def uptoBulkEntries {H : Type} : List (Lit × DataW H) → Nat
  | [] => 0
  | x :: r => uptoBulkEntry x + uptoBulkEntries r
def uptoBulkEntry {H : Type} : Lit × DataW H → Nat
  | (.string bytes, d) => bytes.length + uptoBulk d + 1
  | (_, d) => uptoBulk d + 1
 end
def uptoSmall : (H : Type) → List (DataW H) → Bool := fun _ ds => decide (uptoBulkAll ds ≤ 1048576)
def OpenSpec.upto (s : _root_.Go.ChangeSpec) : _root_.Go.OpenSpec := { _root_.Go.OpenSpec.ofChange s with cond := some uptoSmall }

/-- 'chirographtop.ChirographRooted', WHERE WHAT IT READS IS OF BULK AT MOST 1048576: true; the input reads as it did. -/
def chirographRootedUptoRow : OpenClaim := { program := "ytpjfhllkckdejaa", sum := "540bd5d8f160ab5d135428519d150da8c1c82fa033cd7b44af891d762f68c0cc", func := "chirograph/chirographtop.ChirographRooted", spec := "chirographRooted", inPlace := ["internal/bytealg.Compare"], unfollowed := true, recurses := true, apart := false, narrowed := true }
def ChirographRootedUptoSaid : Prop := chirographRootedUptoRow.holds Try.pinned (OpenSpec.upto chirographRootedSpec)

/-- 'chirographlaw16.PatchTops', WHERE WHAT IT READS IS OF BULK AT MOST 1048576: true; the input reads as it did. -/
def patchTopsUptoRow : OpenClaim := { program := "ytpjfhllkckdejaa", sum := "540bd5d8f160ab5d135428519d150da8c1c82fa033cd7b44af891d762f68c0cc", func := "chirograph/chirographlaw16.PatchTops", spec := "patchTops", inPlace := ["internal/bytealg.Compare"], unfollowed := true, recurses := true, apart := false, narrowed := true }
def PatchTopsUptoSaid : Prop := patchTopsUptoRow.holds Try.pinned (OpenSpec.upto patchTopsSpec)

/-- 'chirographlaw16.PatchCovers', WHERE WHAT IT READS IS OF BULK AT MOST 1048576: true; the input reads as it did. -/
def patchCoversUptoRow : OpenClaim := { program := "ytpjfhllkckdejaa", sum := "540bd5d8f160ab5d135428519d150da8c1c82fa033cd7b44af891d762f68c0cc", func := "chirograph/chirographlaw16.PatchCovers", spec := "patchCovers", inPlace := ["internal/bytealg.Compare"], unfollowed := true, recurses := true, apart := false, narrowed := true }
def PatchCoversUptoSaid : Prop := patchCoversUptoRow.holds Try.pinned (OpenSpec.upto patchCoversSpec)

/-- 'chirographlaw16.PatchParts', WHERE WHAT IT READS IS OF BULK AT MOST 1048576: true; the input reads as it did. -/
def patchPartsUptoRow : OpenClaim := { program := "ytpjfhllkckdejaa", sum := "540bd5d8f160ab5d135428519d150da8c1c82fa033cd7b44af891d762f68c0cc", func := "chirograph/chirographlaw16.PatchParts", spec := "patchParts", inPlace := ["internal/bytealg.Compare"], unfollowed := true, recurses := true, apart := false, narrowed := true }
def PatchPartsUptoSaid : Prop := patchPartsUptoRow.holds Try.pinned (OpenSpec.upto patchPartsSpec)

/-- 'chirographlaw16.PatchOrder', WHERE WHAT IT READS IS OF BULK AT MOST 1048576: true; the input reads as it did. -/
def patchOrderUptoRow : OpenClaim := { program := "ytpjfhllkckdejaa", sum := "540bd5d8f160ab5d135428519d150da8c1c82fa033cd7b44af891d762f68c0cc", func := "chirograph/chirographlaw16.PatchOrder", spec := "patchOrder", inPlace := ["internal/bytealg.Compare"], unfollowed := true, recurses := true, apart := false, narrowed := true }
def PatchOrderUptoSaid : Prop := patchOrderUptoRow.holds Try.pinned (OpenSpec.upto patchOrderSpec)

/-- 'chirographlaw16.PatchDeep', WHERE WHAT IT READS IS OF BULK AT MOST 1048576: true; the input reads as it did. -/
def patchDeepUptoRow : OpenClaim := { program := "ytpjfhllkckdejaa", sum := "540bd5d8f160ab5d135428519d150da8c1c82fa033cd7b44af891d762f68c0cc", func := "chirograph/chirographlaw16.PatchDeep", spec := "patchDeep", inPlace := ["internal/bytealg.Compare"], unfollowed := true, recurses := true, apart := false, narrowed := true }
def PatchDeepUptoSaid : Prop := patchDeepUptoRow.holds Try.pinned (OpenSpec.upto patchDeepSpec)

/-- 'chirographlaw16.PatchLess', WHERE WHAT IT READS IS OF BULK AT MOST 1048576: true; the input reads as it did. -/
def patchLessUptoRow : OpenClaim := { program := "ytpjfhllkckdejaa", sum := "540bd5d8f160ab5d135428519d150da8c1c82fa033cd7b44af891d762f68c0cc", func := "chirograph/chirographlaw16.PatchLess", spec := "patchLess", inPlace := ["internal/bytealg.Compare"], unfollowed := true, recurses := true, apart := false, narrowed := true }
def PatchLessUptoSaid : Prop := patchLessUptoRow.holds Try.pinned (OpenSpec.upto patchLessSpec)

end Rows
end Go.Proofs.Ytpjfhllkckdejaa
