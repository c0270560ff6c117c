/-
  No cell of these rows narrows 'for every input' (looked for: loops, veiled, ifaces, maps, wideKeys, modest, calm, conditions, laid).
  DERIVED. THE GIVEN ROWS OF THIS SEAT. 7 by the template 'for every input the law returns true; each argument reads behind the call as it read before'; 0 by the template 'total and deterministic' (their statements: YtoccnkcnkcngjaaTotals.lean).
  GIVEN WITH THE SEED: the statements are not yours to turn. If you find one false, say at which input.
  Laid BY PROGRAM, IN A SANDBOX (cutbox-rows.mjs): the forced cells as the released guide's own fill.sh prints them over the translation ce441bd0a6c79bcd… (all of the seat's roots in one cut). By AI agents, Wed Nov 11 2026. No macro, syntax, notation, axiom, sorry.
-/
import Derived.Test.YtoccnkcnkcngjaaChecked
import GoSem.Claim
import GoSem.ClaimJoined
import GoSem.ClaimMapViews
import Derived.JoinedTies
import Derived.KernelRfl
namespace Go.Proofs.Ytoccnkcnkcngjaa
/- THE CELL 'sum', in the pinned program and in every row, IS THE sha256 OF THE DUMP (.gsa) THAT YtoccnkcnkcngjaaProg.lean LOADS. Nothing in Lean hashes anything: it is a label: what it is worth is what the hold of that sum in a sandbox is worth. -/
noncomputable def Try.pinned : Pinned := { name := "ytoccnkcnkcngjaa", sum := "ce441bd0a6c79bcdd20c7178c612ceb7bf396006555142727a68bc97c57263b0", checked := Try.checked }
namespace Rows
def none {H : Type} : Left H := { results := [], args := [] }

/-- 'keyholelaw04.PartitionCanonical': WHATEVER THE INPUT: true; the input reads as it did. -/
def partitionCanonicalSpec : ChangeSpec := { name := "partitionCanonical", fn := fun _ => fun
  | [d1, d2] => { results := [.lit (.bool true)], args := [d1, d2] }
  | _ => none }
def partitionCanonicalRow : OpenClaim := { program := "ytoccnkcnkcngjaa", sum := "ce441bd0a6c79bcdd20c7178c612ceb7bf396006555142727a68bc97c57263b0", func := "keyhole/keyholelaw04.PartitionCanonical", spec := "partitionCanonical", unfollowed := true, recurses := true, apart := false }
def PartitionCanonicalSaid : Prop := partitionCanonicalRow.holds Try.pinned (OpenSpec.ofChange partitionCanonicalSpec)

/-- ITS FALSE NEIGHBOUR: 'it returns false'. Refute it at one input. -/
def partitionCanonicalWrong : ChangeSpec := { name := "partitionCanonical", fn := fun _ => fun
  | [d1, d2] => { results := [.lit (.bool false)], args := [d1, d2] }
  | _ => none }
def PartitionCanonicalWrongFalsely : Prop := partitionCanonicalRow.holds Try.pinned (OpenSpec.ofChange partitionCanonicalWrong)

/-- 'keyholelaw04.PartitionLattice': WHATEVER THE INPUT: true; the input reads as it did. -/
def partitionLatticeSpec : ChangeSpec := { name := "partitionLattice", fn := fun _ => fun
  | [d1, d2, d3] => { results := [.lit (.bool true)], args := [d1, d2, d3] }
  | _ => none }
def partitionLatticeRow : OpenClaim := { program := "ytoccnkcnkcngjaa", sum := "ce441bd0a6c79bcdd20c7178c612ceb7bf396006555142727a68bc97c57263b0", func := "keyhole/keyholelaw04.PartitionLattice", spec := "partitionLattice", unfollowed := true, recurses := true, apart := false }
def PartitionLatticeSaid : Prop := partitionLatticeRow.holds Try.pinned (OpenSpec.ofChange partitionLatticeSpec)

/-- ITS FALSE NEIGHBOUR: 'it returns false'. Refute it at one input. -/
def partitionLatticeWrong : ChangeSpec := { name := "partitionLattice", fn := fun _ => fun
  | [d1, d2, d3] => { results := [.lit (.bool false)], args := [d1, d2, d3] }
  | _ => none }
def PartitionLatticeWrongFalsely : Prop := partitionLatticeRow.holds Try.pinned (OpenSpec.ofChange partitionLatticeWrong)

/-- 'keyholelaw04.PartitionMeets': WHATEVER THE INPUT: true; the input reads as it did. -/
def partitionMeetsSpec : ChangeSpec := { name := "partitionMeets", fn := fun _ => fun
  | [d1, d2] => { results := [.lit (.bool true)], args := [d1, d2] }
  | _ => none }
def partitionMeetsRow : OpenClaim := { program := "ytoccnkcnkcngjaa", sum := "ce441bd0a6c79bcdd20c7178c612ceb7bf396006555142727a68bc97c57263b0", func := "keyhole/keyholelaw04.PartitionMeets", spec := "partitionMeets", unfollowed := true, recurses := true, apart := false }
def PartitionMeetsSaid : Prop := partitionMeetsRow.holds Try.pinned (OpenSpec.ofChange partitionMeetsSpec)

/-- ITS FALSE NEIGHBOUR: 'it returns false'. Refute it at one input. -/
def partitionMeetsWrong : ChangeSpec := { name := "partitionMeets", fn := fun _ => fun
  | [d1, d2] => { results := [.lit (.bool false)], args := [d1, d2] }
  | _ => none }
def PartitionMeetsWrongFalsely : Prop := partitionMeetsRow.holds Try.pinned (OpenSpec.ofChange partitionMeetsWrong)

/-- 'keyholelaw04.PartitionOrder': WHATEVER THE INPUT: true; the input reads as it did. -/
def partitionOrderSpec : ChangeSpec := { name := "partitionOrder", fn := fun _ => fun
  | [d1, d2, d3] => { results := [.lit (.bool true)], args := [d1, d2, d3] }
  | _ => none }
def partitionOrderRow : OpenClaim := { program := "ytoccnkcnkcngjaa", sum := "ce441bd0a6c79bcdd20c7178c612ceb7bf396006555142727a68bc97c57263b0", func := "keyhole/keyholelaw04.PartitionOrder", spec := "partitionOrder", unfollowed := true, recurses := true, apart := false }
def PartitionOrderSaid : Prop := partitionOrderRow.holds Try.pinned (OpenSpec.ofChange partitionOrderSpec)

/-- ITS FALSE NEIGHBOUR: 'it returns false'. Refute it at one input. -/
def partitionOrderWrong : ChangeSpec := { name := "partitionOrder", fn := fun _ => fun
  | [d1, d2, d3] => { results := [.lit (.bool false)], args := [d1, d2, d3] }
  | _ => none }
def PartitionOrderWrongFalsely : Prop := partitionOrderRow.holds Try.pinned (OpenSpec.ofChange partitionOrderWrong)

/-- 'keyholelaw04.PartitionSemimodular': WHATEVER THE INPUT: true; the input reads as it did. -/
def partitionSemimodularSpec : ChangeSpec := { name := "partitionSemimodular", fn := fun _ => fun
  | [d1, d2] => { results := [.lit (.bool true)], args := [d1, d2] }
  | _ => none }
def partitionSemimodularRow : OpenClaim := { program := "ytoccnkcnkcngjaa", sum := "ce441bd0a6c79bcdd20c7178c612ceb7bf396006555142727a68bc97c57263b0", func := "keyhole/keyholelaw04.PartitionSemimodular", spec := "partitionSemimodular", unfollowed := true, recurses := true, apart := false }
def PartitionSemimodularSaid : Prop := partitionSemimodularRow.holds Try.pinned (OpenSpec.ofChange partitionSemimodularSpec)

/-- ITS FALSE NEIGHBOUR: 'it returns false'. Refute it at one input. -/
def partitionSemimodularWrong : ChangeSpec := { name := "partitionSemimodular", fn := fun _ => fun
  | [d1, d2] => { results := [.lit (.bool false)], args := [d1, d2] }
  | _ => none }
def PartitionSemimodularWrongFalsely : Prop := partitionSemimodularRow.holds Try.pinned (OpenSpec.ofChange partitionSemimodularWrong)

/-- 'keyholelaw04.PartitionCounts': WHATEVER THE INPUT: true; the input reads as it did. -/
def partitionCountsSpec : ChangeSpec := { name := "partitionCounts", fn := fun _ => fun
  | [d1, d2] => { results := [.lit (.bool true)], args := [d1, d2] }
  | _ => none }
def partitionCountsRow : OpenClaim := { program := "ytoccnkcnkcngjaa", sum := "ce441bd0a6c79bcdd20c7178c612ceb7bf396006555142727a68bc97c57263b0", func := "keyhole/keyholelaw04.PartitionCounts", spec := "partitionCounts", unfollowed := true, recurses := true, apart := false }
def PartitionCountsSaid : Prop := partitionCountsRow.holds Try.pinned (OpenSpec.ofChange partitionCountsSpec)

/-- ITS FALSE NEIGHBOUR: 'it returns false'. Refute it at one input. -/
def partitionCountsWrong : ChangeSpec := { name := "partitionCounts", fn := fun _ => fun
  | [d1, d2] => { results := [.lit (.bool false)], args := [d1, d2] }
  | _ => none }
def PartitionCountsWrongFalsely : Prop := partitionCountsRow.holds Try.pinned (OpenSpec.ofChange partitionCountsWrong)

/-- 'keyholelaw04.PartitionAll': WHATEVER THE INPUT: true; the input reads as it did. -/
def partitionAllSpec : ChangeSpec := { name := "partitionAll", fn := fun _ => fun
  | [d1, d2] => { results := [.lit (.bool true)], args := [d1, d2] }
  | _ => none }
def partitionAllRow : OpenClaim := { program := "ytoccnkcnkcngjaa", sum := "ce441bd0a6c79bcdd20c7178c612ceb7bf396006555142727a68bc97c57263b0", func := "keyhole/keyholelaw04.PartitionAll", spec := "partitionAll", unfollowed := true, recurses := true, apart := false }
def PartitionAllSaid : Prop := partitionAllRow.holds Try.pinned (OpenSpec.ofChange partitionAllSpec)

/-- ITS FALSE NEIGHBOUR: 'it returns false'. Refute it at one input. -/
def partitionAllWrong : ChangeSpec := { name := "partitionAll", fn := fun _ => fun
  | [d1, d2] => { results := [.lit (.bool false)], args := [d1, d2] }
  | _ => none }
def PartitionAllWrongFalsely : Prop := partitionAllRow.holds Try.pinned (OpenSpec.ofChange partitionAllWrong)

/- THE SECOND FORM. 'bulk': how many values and letters a reading holds, each counted each time it is reached (what is shared counts as often as it is met; a slice's spare places count too). A statement '..UptoSaid' is the law's where the arguments, and the package variables that the reading takes, are together of bulk at most 1048576: NARROWER than '..Said'. Prove '..Said' where nothing that the law and all that it calls make is longer than what came in: it says more and counts as full. Else prove '..UptoSaid'. A law counts once. -/
mutual
def uptoBulk {H : Type} : DataW H → Nat
  | .lit (.string bytes) => bytes.length + 1
  | .lit _ => 1
  | .nil => 1
  | .ptr d => uptoBulk d + 1
  | .slice elems spare => uptoBulkAll elems + uptoBulkAll spare + 1
  | .agg parts => uptoBulkAll parts + 1
  | .iface _ d => uptoBulk d + 1
  | .map entries => uptoBulkEntries entries + 1
  | .held _ => 1
def uptoBulkAll {H : Type} : List (DataW H) → Nat
  | [] => 0
  | d :: r => uptoBulk d + uptoBulkAll r
def uptoBulkEntries {H : Type} : List (Lit × DataW H) → Nat
  | [] => 0
  | x :: r => uptoBulkEntry x + uptoBulkEntries r
def uptoBulkEntry {H : Type} : Lit × DataW H → Nat
  | (.string bytes, d) => bytes.length + uptoBulk d + 1
  | (_, d) => uptoBulk d + 1
 end
def uptoSmall : (H : Type) → List (DataW H) → Bool := fun _ ds => decide (uptoBulkAll ds ≤ 1048576)
def OpenSpec.upto (s : _root_.Go.ChangeSpec) : _root_.Go.OpenSpec := { _root_.Go.OpenSpec.ofChange s with cond := some uptoSmall }

/-- 'keyholelaw04.PartitionCanonical', WHERE WHAT IT READS IS OF BULK AT MOST 1048576: true; the input reads as it did. -/
def partitionCanonicalUptoRow : OpenClaim := { program := "ytoccnkcnkcngjaa", sum := "ce441bd0a6c79bcdd20c7178c612ceb7bf396006555142727a68bc97c57263b0", func := "keyhole/keyholelaw04.PartitionCanonical", spec := "partitionCanonical", unfollowed := true, recurses := true, apart := false, narrowed := true }
def PartitionCanonicalUptoSaid : Prop := partitionCanonicalUptoRow.holds Try.pinned (OpenSpec.upto partitionCanonicalSpec)

/-- 'keyholelaw04.PartitionLattice', WHERE WHAT IT READS IS OF BULK AT MOST 1048576: true; the input reads as it did. -/
def partitionLatticeUptoRow : OpenClaim := { program := "ytoccnkcnkcngjaa", sum := "ce441bd0a6c79bcdd20c7178c612ceb7bf396006555142727a68bc97c57263b0", func := "keyhole/keyholelaw04.PartitionLattice", spec := "partitionLattice", unfollowed := true, recurses := true, apart := false, narrowed := true }
def PartitionLatticeUptoSaid : Prop := partitionLatticeUptoRow.holds Try.pinned (OpenSpec.upto partitionLatticeSpec)

/-- 'keyholelaw04.PartitionMeets', WHERE WHAT IT READS IS OF BULK AT MOST 1048576: true; the input reads as it did. -/
def partitionMeetsUptoRow : OpenClaim := { program := "ytoccnkcnkcngjaa", sum := "ce441bd0a6c79bcdd20c7178c612ceb7bf396006555142727a68bc97c57263b0", func := "keyhole/keyholelaw04.PartitionMeets", spec := "partitionMeets", unfollowed := true, recurses := true, apart := false, narrowed := true }
def PartitionMeetsUptoSaid : Prop := partitionMeetsUptoRow.holds Try.pinned (OpenSpec.upto partitionMeetsSpec)

/-- 'keyholelaw04.PartitionOrder', WHERE WHAT IT READS IS OF BULK AT MOST 1048576: true; the input reads as it did. -/
def partitionOrderUptoRow : OpenClaim := { program := "ytoccnkcnkcngjaa", sum := "ce441bd0a6c79bcdd20c7178c612ceb7bf396006555142727a68bc97c57263b0", func := "keyhole/keyholelaw04.PartitionOrder", spec := "partitionOrder", unfollowed := true, recurses := true, apart := false, narrowed := true }
def PartitionOrderUptoSaid : Prop := partitionOrderUptoRow.holds Try.pinned (OpenSpec.upto partitionOrderSpec)

/-- 'keyholelaw04.PartitionSemimodular', WHERE WHAT IT READS IS OF BULK AT MOST 1048576: true; the input reads as it did. -/
def partitionSemimodularUptoRow : OpenClaim := { program := "ytoccnkcnkcngjaa", sum := "ce441bd0a6c79bcdd20c7178c612ceb7bf396006555142727a68bc97c57263b0", func := "keyhole/keyholelaw04.PartitionSemimodular", spec := "partitionSemimodular", unfollowed := true, recurses := true, apart := false, narrowed := true }
def PartitionSemimodularUptoSaid : Prop := partitionSemimodularUptoRow.holds Try.pinned (OpenSpec.upto partitionSemimodularSpec)

/-- 'keyholelaw04.PartitionCounts', WHERE WHAT IT READS IS OF BULK AT MOST 1048576: true; the input reads as it did. -/
def partitionCountsUptoRow : OpenClaim := { program := "ytoccnkcnkcngjaa", sum := "ce441bd0a6c79bcdd20c7178c612ceb7bf396006555142727a68bc97c57263b0", func := "keyhole/keyholelaw04.PartitionCounts", spec := "partitionCounts", unfollowed := true, recurses := true, apart := false, narrowed := true }
def PartitionCountsUptoSaid : Prop := partitionCountsUptoRow.holds Try.pinned (OpenSpec.upto partitionCountsSpec)

/-- 'keyholelaw04.PartitionAll', WHERE WHAT IT READS IS OF BULK AT MOST 1048576: true; the input reads as it did. -/
def partitionAllUptoRow : OpenClaim := { program := "ytoccnkcnkcngjaa", sum := "ce441bd0a6c79bcdd20c7178c612ceb7bf396006555142727a68bc97c57263b0", func := "keyhole/keyholelaw04.PartitionAll", spec := "partitionAll", unfollowed := true, recurses := true, apart := false, narrowed := true }
def PartitionAllUptoSaid : Prop := partitionAllUptoRow.holds Try.pinned (OpenSpec.upto partitionAllSpec)

end Rows
end Go.Proofs.Ytoccnkcnkcngjaa
