/-
  No cell of these rows narrows 'for every input' (looked for: loops, veiled, ifaces, maps, wideKeys, modest, calm, conditions, laid).
  DERIVED. THE GIVEN ROWS OF THIS SEAT. 8 by the template 'for every input the law returns true; each argument reads behind the call as it read before'; 0 by the template 'total and deterministic' (their statements: YtafhchecfmiieaaTotals.lean).
  GIVEN WITH THE SEED: the statements are not yours to turn. If you find one false, say at which input.
  Laid BY PROGRAM, IN A SANDBOX (cutbox-rows.mjs): the forced cells as the released guide's own fill.sh prints them over the translation d9a93007dcf4fc24… (all of the seat's roots in one cut). By AI agents, Wed Nov 11 2026. No macro, syntax, notation, axiom, sorry.
-/
import Derived.Test.YtafhchecfmiieaaChecked
import GoSem.Claim
import GoSem.ClaimJoined
import GoSem.ClaimMapViews
import Derived.JoinedTies
import Derived.KernelRfl
namespace Go.Proofs.Ytafhchecfmiieaa
/- THE CELL 'sum', in the pinned program and in every row, IS THE sha256 OF THE DUMP (.gsa) THAT YtafhchecfmiieaaProg.lean LOADS. Nothing in Lean hashes anything: it is a label: what it is worth is what the hold of that sum in a sandbox is worth. -/
noncomputable def Try.pinned : Pinned := { name := "ytafhchecfmiieaa", sum := "d9a93007dcf4fc24a94d447a2bb73ecc68d5fc67af63a1ef0758bc3785e63df9", checked := Try.checked }
namespace Rows
def none {H : Type} : Left H := { results := [], args := [] }

/-- 'keyholelaw07.MincutCuts': WHATEVER THE INPUT: true; the input reads as it did. -/
def mincutCutsSpec : ChangeSpec := { name := "mincutCuts", fn := fun _ => fun
  | [d] => { results := [.lit (.bool true)], args := [d] }
  | _ => none }
def mincutCutsRow : OpenClaim := { program := "ytafhchecfmiieaa", sum := "d9a93007dcf4fc24a94d447a2bb73ecc68d5fc67af63a1ef0758bc3785e63df9", func := "keyhole/keyholelaw07.MincutCuts", spec := "mincutCuts", unfollowed := true, recurses := true, apart := false }
def MincutCutsSaid : Prop := mincutCutsRow.holds Try.pinned (OpenSpec.ofChange mincutCutsSpec)

/-- ITS FALSE NEIGHBOUR: 'it returns false'. Refute it at one input. -/
def mincutCutsWrong : ChangeSpec := { name := "mincutCuts", fn := fun _ => fun
  | [d] => { results := [.lit (.bool false)], args := [d] }
  | _ => none }
def MincutCutsWrongFalsely : Prop := mincutCutsRow.holds Try.pinned (OpenSpec.ofChange mincutCutsWrong)

/-- 'keyholelaw07.MincutLeast': WHATEVER THE INPUT: true; the input reads as it did. -/
def mincutLeastSpec : ChangeSpec := { name := "mincutLeast", fn := fun _ => fun
  | [d] => { results := [.lit (.bool true)], args := [d] }
  | _ => none }
def mincutLeastRow : OpenClaim := { program := "ytafhchecfmiieaa", sum := "d9a93007dcf4fc24a94d447a2bb73ecc68d5fc67af63a1ef0758bc3785e63df9", func := "keyhole/keyholelaw07.MincutLeast", spec := "mincutLeast", unfollowed := true, recurses := true, apart := false }
def MincutLeastSaid : Prop := mincutLeastRow.holds Try.pinned (OpenSpec.ofChange mincutLeastSpec)

/-- ITS FALSE NEIGHBOUR: 'it returns false'. Refute it at one input. -/
def mincutLeastWrong : ChangeSpec := { name := "mincutLeast", fn := fun _ => fun
  | [d] => { results := [.lit (.bool false)], args := [d] }
  | _ => none }
def MincutLeastWrongFalsely : Prop := mincutLeastRow.holds Try.pinned (OpenSpec.ofChange mincutLeastWrong)

/-- 'keyholelaw07.MincutMenger': WHATEVER THE INPUT: true; the input reads as it did. -/
def mincutMengerSpec : ChangeSpec := { name := "mincutMenger", fn := fun _ => fun
  | [d1, d2, d3] => { results := [.lit (.bool true)], args := [d1, d2, d3] }
  | _ => none }
def mincutMengerRow : OpenClaim := { program := "ytafhchecfmiieaa", sum := "d9a93007dcf4fc24a94d447a2bb73ecc68d5fc67af63a1ef0758bc3785e63df9", func := "keyhole/keyholelaw07.MincutMenger", spec := "mincutMenger", unfollowed := true, recurses := true, apart := false }
def MincutMengerSaid : Prop := mincutMengerRow.holds Try.pinned (OpenSpec.ofChange mincutMengerSpec)

/-- ITS FALSE NEIGHBOUR: 'it returns false'. Refute it at one input. -/
def mincutMengerWrong : ChangeSpec := { name := "mincutMenger", fn := fun _ => fun
  | [d1, d2, d3] => { results := [.lit (.bool false)], args := [d1, d2, d3] }
  | _ => none }
def MincutMengerWrongFalsely : Prop := mincutMengerRow.holds Try.pinned (OpenSpec.ofChange mincutMengerWrong)

/-- 'keyholelaw07.MincutReversed': WHATEVER THE INPUT: true; the input reads as it did. -/
def mincutReversedSpec : ChangeSpec := { name := "mincutReversed", fn := fun _ => fun
  | [d] => { results := [.lit (.bool true)], args := [d] }
  | _ => none }
def mincutReversedRow : OpenClaim := { program := "ytafhchecfmiieaa", sum := "d9a93007dcf4fc24a94d447a2bb73ecc68d5fc67af63a1ef0758bc3785e63df9", func := "keyhole/keyholelaw07.MincutReversed", spec := "mincutReversed", unfollowed := true, recurses := true, apart := false }
def MincutReversedSaid : Prop := mincutReversedRow.holds Try.pinned (OpenSpec.ofChange mincutReversedSpec)

/-- ITS FALSE NEIGHBOUR: 'it returns false'. Refute it at one input. -/
def mincutReversedWrong : ChangeSpec := { name := "mincutReversed", fn := fun _ => fun
  | [d] => { results := [.lit (.bool false)], args := [d] }
  | _ => none }
def MincutReversedWrongFalsely : Prop := mincutReversedRow.holds Try.pinned (OpenSpec.ofChange mincutReversedWrong)

/-- 'keyholelaw07.MincutGrows': WHATEVER THE INPUT: true; the input reads as it did. -/
def mincutGrowsSpec : ChangeSpec := { name := "mincutGrows", fn := fun _ => fun
  | [d1, d2, d3] => { results := [.lit (.bool true)], args := [d1, d2, d3] }
  | _ => none }
def mincutGrowsRow : OpenClaim := { program := "ytafhchecfmiieaa", sum := "d9a93007dcf4fc24a94d447a2bb73ecc68d5fc67af63a1ef0758bc3785e63df9", func := "keyhole/keyholelaw07.MincutGrows", spec := "mincutGrows", unfollowed := true, recurses := true, apart := false }
def MincutGrowsSaid : Prop := mincutGrowsRow.holds Try.pinned (OpenSpec.ofChange mincutGrowsSpec)

/-- ITS FALSE NEIGHBOUR: 'it returns false'. Refute it at one input. -/
def mincutGrowsWrong : ChangeSpec := { name := "mincutGrows", fn := fun _ => fun
  | [d1, d2, d3] => { results := [.lit (.bool false)], args := [d1, d2, d3] }
  | _ => none }
def MincutGrowsWrongFalsely : Prop := mincutGrowsRow.holds Try.pinned (OpenSpec.ofChange mincutGrowsWrong)

/-- 'keyholelaw07.MincutSeparates': WHATEVER THE INPUT: true; the input reads as it did. -/
def mincutSeparatesSpec : ChangeSpec := { name := "mincutSeparates", fn := fun _ => fun
  | [d1, d2] => { results := [.lit (.bool true)], args := [d1, d2] }
  | _ => none }
def mincutSeparatesRow : OpenClaim := { program := "ytafhchecfmiieaa", sum := "d9a93007dcf4fc24a94d447a2bb73ecc68d5fc67af63a1ef0758bc3785e63df9", func := "keyhole/keyholelaw07.MincutSeparates", spec := "mincutSeparates", unfollowed := true, recurses := true, apart := false }
def MincutSeparatesSaid : Prop := mincutSeparatesRow.holds Try.pinned (OpenSpec.ofChange mincutSeparatesSpec)

/-- ITS FALSE NEIGHBOUR: 'it returns false'. Refute it at one input. -/
def mincutSeparatesWrong : ChangeSpec := { name := "mincutSeparates", fn := fun _ => fun
  | [d1, d2] => { results := [.lit (.bool false)], args := [d1, d2] }
  | _ => none }
def MincutSeparatesWrongFalsely : Prop := mincutSeparatesRow.holds Try.pinned (OpenSpec.ofChange mincutSeparatesWrong)

/-- 'keyholelaw07.MincutChecks': WHATEVER THE INPUT: true; the input reads as it did. -/
def mincutChecksSpec : ChangeSpec := { name := "mincutChecks", fn := fun _ => fun
  | [d1, d2, d3] => { results := [.lit (.bool true)], args := [d1, d2, d3] }
  | _ => none }
def mincutChecksRow : OpenClaim := { program := "ytafhchecfmiieaa", sum := "d9a93007dcf4fc24a94d447a2bb73ecc68d5fc67af63a1ef0758bc3785e63df9", func := "keyhole/keyholelaw07.MincutChecks", spec := "mincutChecks", unfollowed := true, recurses := true, apart := false }
def MincutChecksSaid : Prop := mincutChecksRow.holds Try.pinned (OpenSpec.ofChange mincutChecksSpec)

/-- ITS FALSE NEIGHBOUR: 'it returns false'. Refute it at one input. -/
def mincutChecksWrong : ChangeSpec := { name := "mincutChecks", fn := fun _ => fun
  | [d1, d2, d3] => { results := [.lit (.bool false)], args := [d1, d2, d3] }
  | _ => none }
def MincutChecksWrongFalsely : Prop := mincutChecksRow.holds Try.pinned (OpenSpec.ofChange mincutChecksWrong)

/-- 'keyholelaw07.MincutRivals': WHATEVER THE INPUT: true; the input reads as it did. -/
def mincutRivalsSpec : ChangeSpec := { name := "mincutRivals", fn := fun _ => fun
  | [d1, d2, d3] => { results := [.lit (.bool true)], args := [d1, d2, d3] }
  | _ => none }
def mincutRivalsRow : OpenClaim := { program := "ytafhchecfmiieaa", sum := "d9a93007dcf4fc24a94d447a2bb73ecc68d5fc67af63a1ef0758bc3785e63df9", func := "keyhole/keyholelaw07.MincutRivals", spec := "mincutRivals", unfollowed := true, recurses := true, apart := false }
def MincutRivalsSaid : Prop := mincutRivalsRow.holds Try.pinned (OpenSpec.ofChange mincutRivalsSpec)

/-- ITS FALSE NEIGHBOUR: 'it returns false'. Refute it at one input. -/
def mincutRivalsWrong : ChangeSpec := { name := "mincutRivals", fn := fun _ => fun
  | [d1, d2, d3] => { results := [.lit (.bool false)], args := [d1, d2, d3] }
  | _ => none }
def MincutRivalsWrongFalsely : Prop := mincutRivalsRow.holds Try.pinned (OpenSpec.ofChange mincutRivalsWrong)

/- THE SECOND FORM. 'bulk': how many values and letters a reading holds, each counted each time it is reached (what is shared counts as often as it is met; a slice's spare places count too). A statement '..UptoSaid' is the law's where the arguments, and the package variables that the reading takes, are together of bulk at most 1048576: NARROWER than '..Said'. Prove '..Said' where nothing that the law and all that it calls make is longer than what came in: it says more and counts as full. Else prove '..UptoSaid'. A law counts once. -/
mutual
def uptoBulk {H : Type} : DataW H → Nat
  | .lit (.string bytes) => bytes.length + 1
  | .lit _ => 1
  | .nil => 1
  | .ptr d => uptoBulk d + 1
  | .slice elems spare => uptoBulkAll elems + uptoBulkAll spare + 1
  | .agg parts => uptoBulkAll parts + 1
  | .iface _ d => uptoBulk d + 1
  | .map entries => uptoBulkEntries entries + 1
  | .held _ => 1
def uptoBulkAll {H : Type} : List (DataW H) → Nat
  | [] => 0
  | d :: r => uptoBulk d + uptoBulkAll r
def uptoBulkEntries {H : Type} : List (Lit × DataW H) → Nat
  | [] => 0
  | x :: r => uptoBulkEntry x + uptoBulkEntries r
def uptoBulkEntry {H : Type} : Lit × DataW H → Nat
  | (.string bytes, d) => bytes.length + uptoBulk d + 1
  | (_, d) => uptoBulk d + 1
 end
def uptoSmall : (H : Type) → List (DataW H) → Bool := fun _ ds => decide (uptoBulkAll ds ≤ 1048576)
def OpenSpec.upto (s : _root_.Go.ChangeSpec) : _root_.Go.OpenSpec := { _root_.Go.OpenSpec.ofChange s with cond := some uptoSmall }

/-- 'keyholelaw07.MincutCuts', WHERE WHAT IT READS IS OF BULK AT MOST 1048576: true; the input reads as it did. -/
def mincutCutsUptoRow : OpenClaim := { program := "ytafhchecfmiieaa", sum := "d9a93007dcf4fc24a94d447a2bb73ecc68d5fc67af63a1ef0758bc3785e63df9", func := "keyhole/keyholelaw07.MincutCuts", spec := "mincutCuts", unfollowed := true, recurses := true, apart := false, narrowed := true }
def MincutCutsUptoSaid : Prop := mincutCutsUptoRow.holds Try.pinned (OpenSpec.upto mincutCutsSpec)

/-- 'keyholelaw07.MincutLeast', WHERE WHAT IT READS IS OF BULK AT MOST 1048576: true; the input reads as it did. -/
def mincutLeastUptoRow : OpenClaim := { program := "ytafhchecfmiieaa", sum := "d9a93007dcf4fc24a94d447a2bb73ecc68d5fc67af63a1ef0758bc3785e63df9", func := "keyhole/keyholelaw07.MincutLeast", spec := "mincutLeast", unfollowed := true, recurses := true, apart := false, narrowed := true }
def MincutLeastUptoSaid : Prop := mincutLeastUptoRow.holds Try.pinned (OpenSpec.upto mincutLeastSpec)

/-- 'keyholelaw07.MincutMenger', WHERE WHAT IT READS IS OF BULK AT MOST 1048576: true; the input reads as it did. -/
def mincutMengerUptoRow : OpenClaim := { program := "ytafhchecfmiieaa", sum := "d9a93007dcf4fc24a94d447a2bb73ecc68d5fc67af63a1ef0758bc3785e63df9", func := "keyhole/keyholelaw07.MincutMenger", spec := "mincutMenger", unfollowed := true, recurses := true, apart := false, narrowed := true }
def MincutMengerUptoSaid : Prop := mincutMengerUptoRow.holds Try.pinned (OpenSpec.upto mincutMengerSpec)

/-- 'keyholelaw07.MincutReversed', WHERE WHAT IT READS IS OF BULK AT MOST 1048576: true; the input reads as it did. -/
def mincutReversedUptoRow : OpenClaim := { program := "ytafhchecfmiieaa", sum := "d9a93007dcf4fc24a94d447a2bb73ecc68d5fc67af63a1ef0758bc3785e63df9", func := "keyhole/keyholelaw07.MincutReversed", spec := "mincutReversed", unfollowed := true, recurses := true, apart := false, narrowed := true }
def MincutReversedUptoSaid : Prop := mincutReversedUptoRow.holds Try.pinned (OpenSpec.upto mincutReversedSpec)

/-- 'keyholelaw07.MincutGrows', WHERE WHAT IT READS IS OF BULK AT MOST 1048576: true; the input reads as it did. -/
def mincutGrowsUptoRow : OpenClaim := { program := "ytafhchecfmiieaa", sum := "d9a93007dcf4fc24a94d447a2bb73ecc68d5fc67af63a1ef0758bc3785e63df9", func := "keyhole/keyholelaw07.MincutGrows", spec := "mincutGrows", unfollowed := true, recurses := true, apart := false, narrowed := true }
def MincutGrowsUptoSaid : Prop := mincutGrowsUptoRow.holds Try.pinned (OpenSpec.upto mincutGrowsSpec)

/-- 'keyholelaw07.MincutSeparates', WHERE WHAT IT READS IS OF BULK AT MOST 1048576: true; the input reads as it did. -/
def mincutSeparatesUptoRow : OpenClaim := { program := "ytafhchecfmiieaa", sum := "d9a93007dcf4fc24a94d447a2bb73ecc68d5fc67af63a1ef0758bc3785e63df9", func := "keyhole/keyholelaw07.MincutSeparates", spec := "mincutSeparates", unfollowed := true, recurses := true, apart := false, narrowed := true }
def MincutSeparatesUptoSaid : Prop := mincutSeparatesUptoRow.holds Try.pinned (OpenSpec.upto mincutSeparatesSpec)

/-- 'keyholelaw07.MincutChecks', WHERE WHAT IT READS IS OF BULK AT MOST 1048576: true; the input reads as it did. -/
def mincutChecksUptoRow : OpenClaim := { program := "ytafhchecfmiieaa", sum := "d9a93007dcf4fc24a94d447a2bb73ecc68d5fc67af63a1ef0758bc3785e63df9", func := "keyhole/keyholelaw07.MincutChecks", spec := "mincutChecks", unfollowed := true, recurses := true, apart := false, narrowed := true }
def MincutChecksUptoSaid : Prop := mincutChecksUptoRow.holds Try.pinned (OpenSpec.upto mincutChecksSpec)

/-- 'keyholelaw07.MincutRivals', WHERE WHAT IT READS IS OF BULK AT MOST 1048576: true; the input reads as it did. -/
def mincutRivalsUptoRow : OpenClaim := { program := "ytafhchecfmiieaa", sum := "d9a93007dcf4fc24a94d447a2bb73ecc68d5fc67af63a1ef0758bc3785e63df9", func := "keyhole/keyholelaw07.MincutRivals", spec := "mincutRivals", unfollowed := true, recurses := true, apart := false, narrowed := true }
def MincutRivalsUptoSaid : Prop := mincutRivalsUptoRow.holds Try.pinned (OpenSpec.upto mincutRivalsSpec)

end Rows
end Go.Proofs.Ytafhchecfmiieaa
