/-
  No cell of these rows narrows 'for every input' (looked for: loops, veiled, ifaces, maps, wideKeys, modest, calm, conditions, laid).
  DERIVED. THE GIVEN ROWS OF THIS SEAT. 9 by the template 'for every input the law returns true; each argument reads behind the call as it read before'; 0 by the template 'total and deterministic' (their statements: YtcnmiohlpaommaaTotals.lean).
  GIVEN WITH THE SEED: the statements are not yours to turn. If you find one false, say at which input.
  Laid BY PROGRAM, IN A SANDBOX (cutbox-rows.mjs): the forced cells as the released guide's own fill.sh prints them over the translation c1ed4402de6b332c… (all of the seat's roots in one cut). By AI agents, Wed Nov 11 2026. No macro, syntax, notation, axiom, sorry.
-/
import Derived.Test.YtcnmiohlpaommaaChecked
import GoSem.Claim
import GoSem.ClaimJoined
import GoSem.ClaimMapViews
import Derived.JoinedTies
import Derived.KernelRfl
namespace Go.Proofs.Ytcnmiohlpaommaa
/- THE CELL 'sum', in the pinned program and in every row, IS THE sha256 OF THE DUMP (.gsa) THAT YtcnmiohlpaommaaProg.lean LOADS. Nothing in Lean hashes anything: it is a label: what it is worth is what the hold of that sum in a sandbox is worth. -/
noncomputable def Try.pinned : Pinned := { name := "ytcnmiohlpaommaa", sum := "c1ed4402de6b332c0dc3fbcdfcb6c83bcf3fd7cb14a5c2b523d0054108168b1b", checked := Try.checked }
namespace Rows
def none {H : Type} : Left H := { results := [], args := [] }

/-- 'keyholelaw42.StrategyCheck': WHATEVER THE INPUT: true; the input reads as it did. -/
def strategyCheckSpec : ChangeSpec := { name := "strategyCheck", fn := fun _ => fun
  | [d1, d2] => { results := [.lit (.bool true)], args := [d1, d2] }
  | _ => none }
def strategyCheckRow : OpenClaim := { program := "ytcnmiohlpaommaa", sum := "c1ed4402de6b332c0dc3fbcdfcb6c83bcf3fd7cb14a5c2b523d0054108168b1b", func := "keyhole/keyholelaw42.StrategyCheck", spec := "strategyCheck", unfollowed := true, recurses := true, apart := false }
def StrategyCheckSaid : Prop := strategyCheckRow.holds Try.pinned (OpenSpec.ofChange strategyCheckSpec)

/-- ITS FALSE NEIGHBOUR: 'it returns false'. Refute it at one input. -/
def strategyCheckWrong : ChangeSpec := { name := "strategyCheck", fn := fun _ => fun
  | [d1, d2] => { results := [.lit (.bool false)], args := [d1, d2] }
  | _ => none }
def StrategyCheckWrongFalsely : Prop := strategyCheckRow.holds Try.pinned (OpenSpec.ofChange strategyCheckWrong)

/-- 'keyholelaw42.StrategySplit': WHATEVER THE INPUT: true; the input reads as it did. -/
def strategySplitSpec : ChangeSpec := { name := "strategySplit", fn := fun _ => fun
  | [d1, d2] => { results := [.lit (.bool true)], args := [d1, d2] }
  | _ => none }
def strategySplitRow : OpenClaim := { program := "ytcnmiohlpaommaa", sum := "c1ed4402de6b332c0dc3fbcdfcb6c83bcf3fd7cb14a5c2b523d0054108168b1b", func := "keyhole/keyholelaw42.StrategySplit", spec := "strategySplit", unfollowed := true, recurses := true, apart := false }
def StrategySplitSaid : Prop := strategySplitRow.holds Try.pinned (OpenSpec.ofChange strategySplitSpec)

/-- ITS FALSE NEIGHBOUR: 'it returns false'. Refute it at one input. -/
def strategySplitWrong : ChangeSpec := { name := "strategySplit", fn := fun _ => fun
  | [d1, d2] => { results := [.lit (.bool false)], args := [d1, d2] }
  | _ => none }
def StrategySplitWrongFalsely : Prop := strategySplitRow.holds Try.pinned (OpenSpec.ofChange strategySplitWrong)

/-- 'keyholelaw42.StrategyCoarser': WHATEVER THE INPUT: true; the input reads as it did. -/
def strategyCoarserSpec : ChangeSpec := { name := "strategyCoarser", fn := fun _ => fun
  | [d1, d2] => { results := [.lit (.bool true)], args := [d1, d2] }
  | _ => none }
def strategyCoarserRow : OpenClaim := { program := "ytcnmiohlpaommaa", sum := "c1ed4402de6b332c0dc3fbcdfcb6c83bcf3fd7cb14a5c2b523d0054108168b1b", func := "keyhole/keyholelaw42.StrategyCoarser", spec := "strategyCoarser", unfollowed := true, recurses := true, apart := false }
def StrategyCoarserSaid : Prop := strategyCoarserRow.holds Try.pinned (OpenSpec.ofChange strategyCoarserSpec)

/-- ITS FALSE NEIGHBOUR: 'it returns false'. Refute it at one input. -/
def strategyCoarserWrong : ChangeSpec := { name := "strategyCoarser", fn := fun _ => fun
  | [d1, d2] => { results := [.lit (.bool false)], args := [d1, d2] }
  | _ => none }
def StrategyCoarserWrongFalsely : Prop := strategyCoarserRow.holds Try.pinned (OpenSpec.ofChange strategyCoarserWrong)

/-- 'keyholelaw42.StrategyKraft': WHATEVER THE INPUT: true; the input reads as it did. -/
def strategyKraftSpec : ChangeSpec := { name := "strategyKraft", fn := fun _ => fun
  | [d1, d2] => { results := [.lit (.bool true)], args := [d1, d2] }
  | _ => none }
def strategyKraftRow : OpenClaim := { program := "ytcnmiohlpaommaa", sum := "c1ed4402de6b332c0dc3fbcdfcb6c83bcf3fd7cb14a5c2b523d0054108168b1b", func := "keyhole/keyholelaw42.StrategyKraft", spec := "strategyKraft", unfollowed := true, recurses := true, apart := false }
def StrategyKraftSaid : Prop := strategyKraftRow.holds Try.pinned (OpenSpec.ofChange strategyKraftSpec)

/-- ITS FALSE NEIGHBOUR: 'it returns false'. Refute it at one input. -/
def strategyKraftWrong : ChangeSpec := { name := "strategyKraft", fn := fun _ => fun
  | [d1, d2] => { results := [.lit (.bool false)], args := [d1, d2] }
  | _ => none }
def StrategyKraftWrongFalsely : Prop := strategyKraftRow.holds Try.pinned (OpenSpec.ofChange strategyKraftWrong)

/-- 'keyholelaw42.StrategyWorth': WHATEVER THE INPUT: true; the input reads as it did. -/
def strategyWorthSpec : ChangeSpec := { name := "strategyWorth", fn := fun _ => fun
  | [d1, d2, d3] => { results := [.lit (.bool true)], args := [d1, d2, d3] }
  | _ => none }
def strategyWorthRow : OpenClaim := { program := "ytcnmiohlpaommaa", sum := "c1ed4402de6b332c0dc3fbcdfcb6c83bcf3fd7cb14a5c2b523d0054108168b1b", func := "keyhole/keyholelaw42.StrategyWorth", spec := "strategyWorth", unfollowed := true, recurses := true, apart := false }
def StrategyWorthSaid : Prop := strategyWorthRow.holds Try.pinned (OpenSpec.ofChange strategyWorthSpec)

/-- ITS FALSE NEIGHBOUR: 'it returns false'. Refute it at one input. -/
def strategyWorthWrong : ChangeSpec := { name := "strategyWorth", fn := fun _ => fun
  | [d1, d2, d3] => { results := [.lit (.bool false)], args := [d1, d2, d3] }
  | _ => none }
def StrategyWorthWrongFalsely : Prop := strategyWorthRow.holds Try.pinned (OpenSpec.ofChange strategyWorthWrong)

/-- 'keyholelaw42.StrategyRun': WHATEVER THE INPUT: true; the input reads as it did. -/
def strategyRunSpec : ChangeSpec := { name := "strategyRun", fn := fun _ => fun
  | [d1, d2, d3] => { results := [.lit (.bool true)], args := [d1, d2, d3] }
  | _ => none }
def strategyRunRow : OpenClaim := { program := "ytcnmiohlpaommaa", sum := "c1ed4402de6b332c0dc3fbcdfcb6c83bcf3fd7cb14a5c2b523d0054108168b1b", func := "keyhole/keyholelaw42.StrategyRun", spec := "strategyRun", unfollowed := true, recurses := true, apart := false }
def StrategyRunSaid : Prop := strategyRunRow.holds Try.pinned (OpenSpec.ofChange strategyRunSpec)

/-- ITS FALSE NEIGHBOUR: 'it returns false'. Refute it at one input. -/
def strategyRunWrong : ChangeSpec := { name := "strategyRun", fn := fun _ => fun
  | [d1, d2, d3] => { results := [.lit (.bool false)], args := [d1, d2, d3] }
  | _ => none }
def StrategyRunWrongFalsely : Prop := strategyRunRow.holds Try.pinned (OpenSpec.ofChange strategyRunWrong)

/-- 'keyholelaw42.StrategyJoint': WHATEVER THE INPUT: true; the input reads as it did. -/
def strategyJointSpec : ChangeSpec := { name := "strategyJoint", fn := fun _ => fun
  | [d1, d2, d3] => { results := [.lit (.bool true)], args := [d1, d2, d3] }
  | _ => none }
def strategyJointRow : OpenClaim := { program := "ytcnmiohlpaommaa", sum := "c1ed4402de6b332c0dc3fbcdfcb6c83bcf3fd7cb14a5c2b523d0054108168b1b", func := "keyhole/keyholelaw42.StrategyJoint", spec := "strategyJoint", unfollowed := true, recurses := true, apart := false }
def StrategyJointSaid : Prop := strategyJointRow.holds Try.pinned (OpenSpec.ofChange strategyJointSpec)

/-- ITS FALSE NEIGHBOUR: 'it returns false'. Refute it at one input. -/
def strategyJointWrong : ChangeSpec := { name := "strategyJoint", fn := fun _ => fun
  | [d1, d2, d3] => { results := [.lit (.bool false)], args := [d1, d2, d3] }
  | _ => none }
def StrategyJointWrongFalsely : Prop := strategyJointRow.holds Try.pinned (OpenSpec.ofChange strategyJointWrong)

/-- 'keyholelaw42.StrategySpent': WHATEVER THE INPUT: true; the input reads as it did. -/
def strategySpentSpec : ChangeSpec := { name := "strategySpent", fn := fun _ => fun
  | [d1, d2, d3] => { results := [.lit (.bool true)], args := [d1, d2, d3] }
  | _ => none }
def strategySpentRow : OpenClaim := { program := "ytcnmiohlpaommaa", sum := "c1ed4402de6b332c0dc3fbcdfcb6c83bcf3fd7cb14a5c2b523d0054108168b1b", func := "keyhole/keyholelaw42.StrategySpent", spec := "strategySpent", unfollowed := true, recurses := true, apart := false }
def StrategySpentSaid : Prop := strategySpentRow.holds Try.pinned (OpenSpec.ofChange strategySpentSpec)

/-- ITS FALSE NEIGHBOUR: 'it returns false'. Refute it at one input. -/
def strategySpentWrong : ChangeSpec := { name := "strategySpent", fn := fun _ => fun
  | [d1, d2, d3] => { results := [.lit (.bool false)], args := [d1, d2, d3] }
  | _ => none }
def StrategySpentWrongFalsely : Prop := strategySpentRow.holds Try.pinned (OpenSpec.ofChange strategySpentWrong)

/-- 'keyholelaw42.StrategyPrune': WHATEVER THE INPUT: true; the input reads as it did. -/
def strategyPruneSpec : ChangeSpec := { name := "strategyPrune", fn := fun _ => fun
  | [d1, d2, d3] => { results := [.lit (.bool true)], args := [d1, d2, d3] }
  | _ => none }
def strategyPruneRow : OpenClaim := { program := "ytcnmiohlpaommaa", sum := "c1ed4402de6b332c0dc3fbcdfcb6c83bcf3fd7cb14a5c2b523d0054108168b1b", func := "keyhole/keyholelaw42.StrategyPrune", spec := "strategyPrune", unfollowed := true, recurses := true, apart := false }
def StrategyPruneSaid : Prop := strategyPruneRow.holds Try.pinned (OpenSpec.ofChange strategyPruneSpec)

/-- ITS FALSE NEIGHBOUR: 'it returns false'. Refute it at one input. -/
def strategyPruneWrong : ChangeSpec := { name := "strategyPrune", fn := fun _ => fun
  | [d1, d2, d3] => { results := [.lit (.bool false)], args := [d1, d2, d3] }
  | _ => none }
def StrategyPruneWrongFalsely : Prop := strategyPruneRow.holds Try.pinned (OpenSpec.ofChange strategyPruneWrong)

/- THE SECOND FORM. 'bulk': how many values and letters a reading holds, each counted each time it is reached (what is shared counts as often as it is met; a slice's spare places count too). A statement '..UptoSaid' is the law's where the arguments, and the package variables that the reading takes, are together of bulk at most 1048576: NARROWER than '..Said'. Prove '..Said' where nothing that the law and all that it calls make is longer than what came in: it says more and counts as full. Else prove '..UptoSaid'. A law counts once. -/
mutual
def uptoBulk {H : Type} : DataW H → Nat
  | .lit (.string bytes) => bytes.length + 1
  | .lit _ => 1
  | .nil => 1
  | .ptr d => uptoBulk d + 1
  | .slice elems spare => uptoBulkAll elems + uptoBulkAll spare + 1
  | .agg parts => uptoBulkAll parts + 1
  | .iface _ d => uptoBulk d + 1
  | .map entries => uptoBulkEntries entries + 1
  | .held _ => 1
def uptoBulkAll {H : Type} : List (DataW H) → Nat
  | [] => 0
  | d :: r => uptoBulk d + uptoBulkAll r
def uptoBulkEntries {H : Type} : List (Lit × DataW H) → Nat
  | [] => 0
  | x :: r => uptoBulkEntry x + uptoBulkEntries r
def uptoBulkEntry {H : Type} : Lit × DataW H → Nat
  | (.string bytes, d) => bytes.length + uptoBulk d + 1
  | (_, d) => uptoBulk d + 1
 end
def uptoSmall : (H : Type) → List (DataW H) → Bool := fun _ ds => decide (uptoBulkAll ds ≤ 1048576)
def OpenSpec.upto (s : _root_.Go.ChangeSpec) : _root_.Go.OpenSpec := { _root_.Go.OpenSpec.ofChange s with cond := some uptoSmall }

/-- 'keyholelaw42.StrategyCheck', WHERE WHAT IT READS IS OF BULK AT MOST 1048576: true; the input reads as it did. -/
def strategyCheckUptoRow : OpenClaim := { program := "ytcnmiohlpaommaa", sum := "c1ed4402de6b332c0dc3fbcdfcb6c83bcf3fd7cb14a5c2b523d0054108168b1b", func := "keyhole/keyholelaw42.StrategyCheck", spec := "strategyCheck", unfollowed := true, recurses := true, apart := false, narrowed := true }
def StrategyCheckUptoSaid : Prop := strategyCheckUptoRow.holds Try.pinned (OpenSpec.upto strategyCheckSpec)

/-- 'keyholelaw42.StrategySplit', WHERE WHAT IT READS IS OF BULK AT MOST 1048576: true; the input reads as it did. -/
def strategySplitUptoRow : OpenClaim := { program := "ytcnmiohlpaommaa", sum := "c1ed4402de6b332c0dc3fbcdfcb6c83bcf3fd7cb14a5c2b523d0054108168b1b", func := "keyhole/keyholelaw42.StrategySplit", spec := "strategySplit", unfollowed := true, recurses := true, apart := false, narrowed := true }
def StrategySplitUptoSaid : Prop := strategySplitUptoRow.holds Try.pinned (OpenSpec.upto strategySplitSpec)

/-- 'keyholelaw42.StrategyCoarser', WHERE WHAT IT READS IS OF BULK AT MOST 1048576: true; the input reads as it did. -/
def strategyCoarserUptoRow : OpenClaim := { program := "ytcnmiohlpaommaa", sum := "c1ed4402de6b332c0dc3fbcdfcb6c83bcf3fd7cb14a5c2b523d0054108168b1b", func := "keyhole/keyholelaw42.StrategyCoarser", spec := "strategyCoarser", unfollowed := true, recurses := true, apart := false, narrowed := true }
def StrategyCoarserUptoSaid : Prop := strategyCoarserUptoRow.holds Try.pinned (OpenSpec.upto strategyCoarserSpec)

/-- 'keyholelaw42.StrategyKraft', WHERE WHAT IT READS IS OF BULK AT MOST 1048576: true; the input reads as it did. -/
def strategyKraftUptoRow : OpenClaim := { program := "ytcnmiohlpaommaa", sum := "c1ed4402de6b332c0dc3fbcdfcb6c83bcf3fd7cb14a5c2b523d0054108168b1b", func := "keyhole/keyholelaw42.StrategyKraft", spec := "strategyKraft", unfollowed := true, recurses := true, apart := false, narrowed := true }
def StrategyKraftUptoSaid : Prop := strategyKraftUptoRow.holds Try.pinned (OpenSpec.upto strategyKraftSpec)

/-- 'keyholelaw42.StrategyWorth', WHERE WHAT IT READS IS OF BULK AT MOST 1048576: true; the input reads as it did. -/
def strategyWorthUptoRow : OpenClaim := { program := "ytcnmiohlpaommaa", sum := "c1ed4402de6b332c0dc3fbcdfcb6c83bcf3fd7cb14a5c2b523d0054108168b1b", func := "keyhole/keyholelaw42.StrategyWorth", spec := "strategyWorth", unfollowed := true, recurses := true, apart := false, narrowed := true }
def StrategyWorthUptoSaid : Prop := strategyWorthUptoRow.holds Try.pinned (OpenSpec.upto strategyWorthSpec)

/-- 'keyholelaw42.StrategyRun', WHERE WHAT IT READS IS OF BULK AT MOST 1048576: true; the input reads as it did. -/
def strategyRunUptoRow : OpenClaim := { program := "ytcnmiohlpaommaa", sum := "c1ed4402de6b332c0dc3fbcdfcb6c83bcf3fd7cb14a5c2b523d0054108168b1b", func := "keyhole/keyholelaw42.StrategyRun", spec := "strategyRun", unfollowed := true, recurses := true, apart := false, narrowed := true }
def StrategyRunUptoSaid : Prop := strategyRunUptoRow.holds Try.pinned (OpenSpec.upto strategyRunSpec)

/-- 'keyholelaw42.StrategyJoint', WHERE WHAT IT READS IS OF BULK AT MOST 1048576: true; the input reads as it did. -/
def strategyJointUptoRow : OpenClaim := { program := "ytcnmiohlpaommaa", sum := "c1ed4402de6b332c0dc3fbcdfcb6c83bcf3fd7cb14a5c2b523d0054108168b1b", func := "keyhole/keyholelaw42.StrategyJoint", spec := "strategyJoint", unfollowed := true, recurses := true, apart := false, narrowed := true }
def StrategyJointUptoSaid : Prop := strategyJointUptoRow.holds Try.pinned (OpenSpec.upto strategyJointSpec)

/-- 'keyholelaw42.StrategySpent', WHERE WHAT IT READS IS OF BULK AT MOST 1048576: true; the input reads as it did. -/
def strategySpentUptoRow : OpenClaim := { program := "ytcnmiohlpaommaa", sum := "c1ed4402de6b332c0dc3fbcdfcb6c83bcf3fd7cb14a5c2b523d0054108168b1b", func := "keyhole/keyholelaw42.StrategySpent", spec := "strategySpent", unfollowed := true, recurses := true, apart := false, narrowed := true }
def StrategySpentUptoSaid : Prop := strategySpentUptoRow.holds Try.pinned (OpenSpec.upto strategySpentSpec)

/-- 'keyholelaw42.StrategyPrune', WHERE WHAT IT READS IS OF BULK AT MOST 1048576: true; the input reads as it did. -/
def strategyPruneUptoRow : OpenClaim := { program := "ytcnmiohlpaommaa", sum := "c1ed4402de6b332c0dc3fbcdfcb6c83bcf3fd7cb14a5c2b523d0054108168b1b", func := "keyhole/keyholelaw42.StrategyPrune", spec := "strategyPrune", unfollowed := true, recurses := true, apart := false, narrowed := true }
def StrategyPruneUptoSaid : Prop := strategyPruneUptoRow.holds Try.pinned (OpenSpec.upto strategyPruneSpec)

end Rows
end Go.Proofs.Ytcnmiohlpaommaa
