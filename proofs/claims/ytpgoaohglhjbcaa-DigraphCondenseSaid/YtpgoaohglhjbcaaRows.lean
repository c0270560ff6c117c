/-
  No cell of these rows narrows 'for every input' (looked for: loops, veiled, ifaces, maps, wideKeys, modest, calm, conditions, laid).
  DERIVED. THE GIVEN ROWS OF THIS SEAT. 10 by the template 'for every input the law returns true; each argument reads behind the call as it read before'; 0 by the template 'total and deterministic' (their statements: YtpgoaohglhjbcaaTotals.lean).
  GIVEN WITH THE SEED: the statements are not yours to turn. If you find one false, say at which input.
  Laid BY PROGRAM, IN A SANDBOX (cutbox-rows.mjs): the forced cells as the released guide's own fill.sh prints them over the translation 34e0e49a0826b0f6… (all of the seat's roots in one cut). By AI agents, Wed Nov 11 2026. No macro, syntax, notation, axiom, sorry.
-/
import Derived.Test.YtpgoaohglhjbcaaChecked
import GoSem.Claim
import GoSem.ClaimJoined
import GoSem.ClaimMapViews
import Derived.JoinedTies
import Derived.KernelRfl
namespace Go.Proofs.Ytpgoaohglhjbcaa
/- THE CELL 'sum', in the pinned program and in every row, IS THE sha256 OF THE DUMP (.gsa) THAT YtpgoaohglhjbcaaProg.lean LOADS. Nothing in Lean hashes anything: it is a label: what it is worth is what the hold of that sum in a sandbox is worth. -/
noncomputable def Try.pinned : Pinned := { name := "ytpgoaohglhjbcaa", sum := "34e0e49a0826b0f679e40c021954bed6c9152afd38a815b6d87fcc6dfe5271d9", checked := Try.checked }
namespace Rows
def none {H : Type} : Left H := { results := [], args := [] }

/-- 'keyholelaw06.DigraphPath': WHATEVER THE INPUT: true; the input reads as it did. -/
def digraphPathSpec : ChangeSpec := { name := "digraphPath", fn := fun _ => fun
  | [d1, d2, d3] => { results := [.lit (.bool true)], args := [d1, d2, d3] }
  | _ => none }
def digraphPathRow : OpenClaim := { program := "ytpgoaohglhjbcaa", sum := "34e0e49a0826b0f679e40c021954bed6c9152afd38a815b6d87fcc6dfe5271d9", func := "keyhole/keyholelaw06.DigraphPath", spec := "digraphPath", unfollowed := true, recurses := true, apart := false }
def DigraphPathSaid : Prop := digraphPathRow.holds Try.pinned (OpenSpec.ofChange digraphPathSpec)

/-- ITS FALSE NEIGHBOUR: 'it returns false'. Refute it at one input. -/
def digraphPathWrong : ChangeSpec := { name := "digraphPath", fn := fun _ => fun
  | [d1, d2, d3] => { results := [.lit (.bool false)], args := [d1, d2, d3] }
  | _ => none }
def DigraphPathWrongFalsely : Prop := digraphPathRow.holds Try.pinned (OpenSpec.ofChange digraphPathWrong)

/-- 'keyholelaw06.DigraphOrder': WHATEVER THE INPUT: true; the input reads as it did. -/
def digraphOrderSpec : ChangeSpec := { name := "digraphOrder", fn := fun _ => fun
  | [d] => { results := [.lit (.bool true)], args := [d] }
  | _ => none }
def digraphOrderRow : OpenClaim := { program := "ytpgoaohglhjbcaa", sum := "34e0e49a0826b0f679e40c021954bed6c9152afd38a815b6d87fcc6dfe5271d9", func := "keyhole/keyholelaw06.DigraphOrder", spec := "digraphOrder", unfollowed := true, recurses := true, apart := false }
def DigraphOrderSaid : Prop := digraphOrderRow.holds Try.pinned (OpenSpec.ofChange digraphOrderSpec)

/-- ITS FALSE NEIGHBOUR: 'it returns false'. Refute it at one input. -/
def digraphOrderWrong : ChangeSpec := { name := "digraphOrder", fn := fun _ => fun
  | [d] => { results := [.lit (.bool false)], args := [d] }
  | _ => none }
def DigraphOrderWrongFalsely : Prop := digraphOrderRow.holds Try.pinned (OpenSpec.ofChange digraphOrderWrong)

/-- 'keyholelaw06.DigraphComponents': WHATEVER THE INPUT: true; the input reads as it did. -/
def digraphComponentsSpec : ChangeSpec := { name := "digraphComponents", fn := fun _ => fun
  | [d] => { results := [.lit (.bool true)], args := [d] }
  | _ => none }
def digraphComponentsRow : OpenClaim := { program := "ytpgoaohglhjbcaa", sum := "34e0e49a0826b0f679e40c021954bed6c9152afd38a815b6d87fcc6dfe5271d9", func := "keyhole/keyholelaw06.DigraphComponents", spec := "digraphComponents", unfollowed := true, recurses := true, apart := false }
def DigraphComponentsSaid : Prop := digraphComponentsRow.holds Try.pinned (OpenSpec.ofChange digraphComponentsSpec)

/-- ITS FALSE NEIGHBOUR: 'it returns false'. Refute it at one input. -/
def digraphComponentsWrong : ChangeSpec := { name := "digraphComponents", fn := fun _ => fun
  | [d] => { results := [.lit (.bool false)], args := [d] }
  | _ => none }
def DigraphComponentsWrongFalsely : Prop := digraphComponentsRow.holds Try.pinned (OpenSpec.ofChange digraphComponentsWrong)

/-- 'keyholelaw06.DigraphDistance': WHATEVER THE INPUT: true; the input reads as it did. -/
def digraphDistanceSpec : ChangeSpec := { name := "digraphDistance", fn := fun _ => fun
  | [d1, d2] => { results := [.lit (.bool true)], args := [d1, d2] }
  | _ => none }
def digraphDistanceRow : OpenClaim := { program := "ytpgoaohglhjbcaa", sum := "34e0e49a0826b0f679e40c021954bed6c9152afd38a815b6d87fcc6dfe5271d9", func := "keyhole/keyholelaw06.DigraphDistance", spec := "digraphDistance", unfollowed := true, recurses := true, apart := false }
def DigraphDistanceSaid : Prop := digraphDistanceRow.holds Try.pinned (OpenSpec.ofChange digraphDistanceSpec)

/-- ITS FALSE NEIGHBOUR: 'it returns false'. Refute it at one input. -/
def digraphDistanceWrong : ChangeSpec := { name := "digraphDistance", fn := fun _ => fun
  | [d1, d2] => { results := [.lit (.bool false)], args := [d1, d2] }
  | _ => none }
def DigraphDistanceWrongFalsely : Prop := digraphDistanceRow.holds Try.pinned (OpenSpec.ofChange digraphDistanceWrong)

/-- 'keyholelaw06.DigraphSimple': WHATEVER THE INPUT: true; the input reads as it did. -/
def digraphSimpleSpec : ChangeSpec := { name := "digraphSimple", fn := fun _ => fun
  | [d] => { results := [.lit (.bool true)], args := [d] }
  | _ => none }
def digraphSimpleRow : OpenClaim := { program := "ytpgoaohglhjbcaa", sum := "34e0e49a0826b0f679e40c021954bed6c9152afd38a815b6d87fcc6dfe5271d9", func := "keyhole/keyholelaw06.DigraphSimple", spec := "digraphSimple", unfollowed := true, recurses := true, apart := false }
def DigraphSimpleSaid : Prop := digraphSimpleRow.holds Try.pinned (OpenSpec.ofChange digraphSimpleSpec)

/-- ITS FALSE NEIGHBOUR: 'it returns false'. Refute it at one input. -/
def digraphSimpleWrong : ChangeSpec := { name := "digraphSimple", fn := fun _ => fun
  | [d] => { results := [.lit (.bool false)], args := [d] }
  | _ => none }
def DigraphSimpleWrongFalsely : Prop := digraphSimpleRow.holds Try.pinned (OpenSpec.ofChange digraphSimpleWrong)

/-- 'keyholelaw06.DigraphCycle': WHATEVER THE INPUT: true; the input reads as it did. -/
def digraphCycleSpec : ChangeSpec := { name := "digraphCycle", fn := fun _ => fun
  | [d] => { results := [.lit (.bool true)], args := [d] }
  | _ => none }
def digraphCycleRow : OpenClaim := { program := "ytpgoaohglhjbcaa", sum := "34e0e49a0826b0f679e40c021954bed6c9152afd38a815b6d87fcc6dfe5271d9", func := "keyhole/keyholelaw06.DigraphCycle", spec := "digraphCycle", unfollowed := true, recurses := true, apart := false }
def DigraphCycleSaid : Prop := digraphCycleRow.holds Try.pinned (OpenSpec.ofChange digraphCycleSpec)

/-- ITS FALSE NEIGHBOUR: 'it returns false'. Refute it at one input. -/
def digraphCycleWrong : ChangeSpec := { name := "digraphCycle", fn := fun _ => fun
  | [d] => { results := [.lit (.bool false)], args := [d] }
  | _ => none }
def DigraphCycleWrongFalsely : Prop := digraphCycleRow.holds Try.pinned (OpenSpec.ofChange digraphCycleWrong)

/-- 'keyholelaw06.DigraphClosure': WHATEVER THE INPUT: true; the input reads as it did. -/
def digraphClosureSpec : ChangeSpec := { name := "digraphClosure", fn := fun _ => fun
  | [d] => { results := [.lit (.bool true)], args := [d] }
  | _ => none }
def digraphClosureRow : OpenClaim := { program := "ytpgoaohglhjbcaa", sum := "34e0e49a0826b0f679e40c021954bed6c9152afd38a815b6d87fcc6dfe5271d9", func := "keyhole/keyholelaw06.DigraphClosure", spec := "digraphClosure", unfollowed := true, recurses := true, apart := false }
def DigraphClosureSaid : Prop := digraphClosureRow.holds Try.pinned (OpenSpec.ofChange digraphClosureSpec)

/-- ITS FALSE NEIGHBOUR: 'it returns false'. Refute it at one input. -/
def digraphClosureWrong : ChangeSpec := { name := "digraphClosure", fn := fun _ => fun
  | [d] => { results := [.lit (.bool false)], args := [d] }
  | _ => none }
def DigraphClosureWrongFalsely : Prop := digraphClosureRow.holds Try.pinned (OpenSpec.ofChange digraphClosureWrong)

/-- 'keyholelaw06.DigraphCheck': WHATEVER THE INPUT: true; the input reads as it did. -/
def digraphCheckSpec : ChangeSpec := { name := "digraphCheck", fn := fun _ => fun
  | [d1, d2, d3] => { results := [.lit (.bool true)], args := [d1, d2, d3] }
  | _ => none }
def digraphCheckRow : OpenClaim := { program := "ytpgoaohglhjbcaa", sum := "34e0e49a0826b0f679e40c021954bed6c9152afd38a815b6d87fcc6dfe5271d9", func := "keyhole/keyholelaw06.DigraphCheck", spec := "digraphCheck", unfollowed := true, recurses := true, apart := false }
def DigraphCheckSaid : Prop := digraphCheckRow.holds Try.pinned (OpenSpec.ofChange digraphCheckSpec)

/-- ITS FALSE NEIGHBOUR: 'it returns false'. Refute it at one input. -/
def digraphCheckWrong : ChangeSpec := { name := "digraphCheck", fn := fun _ => fun
  | [d1, d2, d3] => { results := [.lit (.bool false)], args := [d1, d2, d3] }
  | _ => none }
def DigraphCheckWrongFalsely : Prop := digraphCheckRow.holds Try.pinned (OpenSpec.ofChange digraphCheckWrong)

/-- 'keyholelaw06.DigraphReach': WHATEVER THE INPUT: true; the input reads as it did. -/
def digraphReachSpec : ChangeSpec := { name := "digraphReach", fn := fun _ => fun
  | [d1, d2] => { results := [.lit (.bool true)], args := [d1, d2] }
  | _ => none }
def digraphReachRow : OpenClaim := { program := "ytpgoaohglhjbcaa", sum := "34e0e49a0826b0f679e40c021954bed6c9152afd38a815b6d87fcc6dfe5271d9", func := "keyhole/keyholelaw06.DigraphReach", spec := "digraphReach", unfollowed := true, recurses := true, apart := false }
def DigraphReachSaid : Prop := digraphReachRow.holds Try.pinned (OpenSpec.ofChange digraphReachSpec)

/-- ITS FALSE NEIGHBOUR: 'it returns false'. Refute it at one input. -/
def digraphReachWrong : ChangeSpec := { name := "digraphReach", fn := fun _ => fun
  | [d1, d2] => { results := [.lit (.bool false)], args := [d1, d2] }
  | _ => none }
def DigraphReachWrongFalsely : Prop := digraphReachRow.holds Try.pinned (OpenSpec.ofChange digraphReachWrong)

/-- 'keyholelaw06.DigraphCondense': WHATEVER THE INPUT: true; the input reads as it did. -/
def digraphCondenseSpec : ChangeSpec := { name := "digraphCondense", fn := fun _ => fun
  | [d] => { results := [.lit (.bool true)], args := [d] }
  | _ => none }
def digraphCondenseRow : OpenClaim := { program := "ytpgoaohglhjbcaa", sum := "34e0e49a0826b0f679e40c021954bed6c9152afd38a815b6d87fcc6dfe5271d9", func := "keyhole/keyholelaw06.DigraphCondense", spec := "digraphCondense", unfollowed := true, recurses := true, apart := false }
def DigraphCondenseSaid : Prop := digraphCondenseRow.holds Try.pinned (OpenSpec.ofChange digraphCondenseSpec)

/-- ITS FALSE NEIGHBOUR: 'it returns false'. Refute it at one input. -/
def digraphCondenseWrong : ChangeSpec := { name := "digraphCondense", fn := fun _ => fun
  | [d] => { results := [.lit (.bool false)], args := [d] }
  | _ => none }
def DigraphCondenseWrongFalsely : Prop := digraphCondenseRow.holds Try.pinned (OpenSpec.ofChange digraphCondenseWrong)

/- THE SECOND FORM. 'bulk': how many values and letters a reading holds, each counted each time it is reached (what is shared counts as often as it is met; a slice's spare places count too). A statement '..UptoSaid' is the law's where the arguments, and the package variables that the reading takes, are together of bulk at most 1048576: NARROWER than '..Said'. Prove '..Said' where nothing that the law and all that it calls make is longer than what came in: it says more and counts as full. Else prove '..UptoSaid'. A law counts once. -/
mutual
def uptoBulk {H : Type} : DataW H → Nat
  | .lit (.string bytes) => bytes.length + 1
  | .lit _ => 1
  | .nil => 1
  | .ptr d => uptoBulk d + 1
  | .slice elems spare => uptoBulkAll elems + uptoBulkAll spare + 1
  | .agg parts => uptoBulkAll parts + 1
  | .iface _ d => uptoBulk d + 1
  | .map entries => uptoBulkEntries entries + 1
  | .held _ => 1
def uptoBulkAll {H : Type} : List (DataW H) → Nat
  | [] => 0
  | d :: r => uptoBulk d + uptoBulkAll r
def uptoBulkEntries {H : Type} : List (Lit × DataW H) → Nat
  | [] => 0
  | x :: r => uptoBulkEntry x + uptoBulkEntries r
def uptoBulkEntry {H : Type} : Lit × DataW H → Nat
  | (.string bytes, d) => bytes.length + uptoBulk d + 1
  | (_, d) => uptoBulk d + 1
 end
def uptoSmall : (H : Type) → List (DataW H) → Bool := fun _ ds => decide (uptoBulkAll ds ≤ 1048576)
def OpenSpec.upto (s : _root_.Go.ChangeSpec) : _root_.Go.OpenSpec := { _root_.Go.OpenSpec.ofChange s with cond := some uptoSmall }

/-- 'keyholelaw06.DigraphPath', WHERE WHAT IT READS IS OF BULK AT MOST 1048576: true; the input reads as it did. -/
def digraphPathUptoRow : OpenClaim := { program := "ytpgoaohglhjbcaa", sum := "34e0e49a0826b0f679e40c021954bed6c9152afd38a815b6d87fcc6dfe5271d9", func := "keyhole/keyholelaw06.DigraphPath", spec := "digraphPath", unfollowed := true, recurses := true, apart := false, narrowed := true }
def DigraphPathUptoSaid : Prop := digraphPathUptoRow.holds Try.pinned (OpenSpec.upto digraphPathSpec)

/-- 'keyholelaw06.DigraphOrder', WHERE WHAT IT READS IS OF BULK AT MOST 1048576: true; the input reads as it did. -/
def digraphOrderUptoRow : OpenClaim := { program := "ytpgoaohglhjbcaa", sum := "34e0e49a0826b0f679e40c021954bed6c9152afd38a815b6d87fcc6dfe5271d9", func := "keyhole/keyholelaw06.DigraphOrder", spec := "digraphOrder", unfollowed := true, recurses := true, apart := false, narrowed := true }
def DigraphOrderUptoSaid : Prop := digraphOrderUptoRow.holds Try.pinned (OpenSpec.upto digraphOrderSpec)

/-- 'keyholelaw06.DigraphComponents', WHERE WHAT IT READS IS OF BULK AT MOST 1048576: true; the input reads as it did. -/
def digraphComponentsUptoRow : OpenClaim := { program := "ytpgoaohglhjbcaa", sum := "34e0e49a0826b0f679e40c021954bed6c9152afd38a815b6d87fcc6dfe5271d9", func := "keyhole/keyholelaw06.DigraphComponents", spec := "digraphComponents", unfollowed := true, recurses := true, apart := false, narrowed := true }
def DigraphComponentsUptoSaid : Prop := digraphComponentsUptoRow.holds Try.pinned (OpenSpec.upto digraphComponentsSpec)

/-- 'keyholelaw06.DigraphDistance', WHERE WHAT IT READS IS OF BULK AT MOST 1048576: true; the input reads as it did. -/
def digraphDistanceUptoRow : OpenClaim := { program := "ytpgoaohglhjbcaa", sum := "34e0e49a0826b0f679e40c021954bed6c9152afd38a815b6d87fcc6dfe5271d9", func := "keyhole/keyholelaw06.DigraphDistance", spec := "digraphDistance", unfollowed := true, recurses := true, apart := false, narrowed := true }
def DigraphDistanceUptoSaid : Prop := digraphDistanceUptoRow.holds Try.pinned (OpenSpec.upto digraphDistanceSpec)

/-- 'keyholelaw06.DigraphSimple', WHERE WHAT IT READS IS OF BULK AT MOST 1048576: true; the input reads as it did. -/
def digraphSimpleUptoRow : OpenClaim := { program := "ytpgoaohglhjbcaa", sum := "34e0e49a0826b0f679e40c021954bed6c9152afd38a815b6d87fcc6dfe5271d9", func := "keyhole/keyholelaw06.DigraphSimple", spec := "digraphSimple", unfollowed := true, recurses := true, apart := false, narrowed := true }
def DigraphSimpleUptoSaid : Prop := digraphSimpleUptoRow.holds Try.pinned (OpenSpec.upto digraphSimpleSpec)

/-- 'keyholelaw06.DigraphCycle', WHERE WHAT IT READS IS OF BULK AT MOST 1048576: true; the input reads as it did. -/
def digraphCycleUptoRow : OpenClaim := { program := "ytpgoaohglhjbcaa", sum := "34e0e49a0826b0f679e40c021954bed6c9152afd38a815b6d87fcc6dfe5271d9", func := "keyhole/keyholelaw06.DigraphCycle", spec := "digraphCycle", unfollowed := true, recurses := true, apart := false, narrowed := true }
def DigraphCycleUptoSaid : Prop := digraphCycleUptoRow.holds Try.pinned (OpenSpec.upto digraphCycleSpec)

/-- 'keyholelaw06.DigraphClosure', WHERE WHAT IT READS IS OF BULK AT MOST 1048576: true; the input reads as it did. -/
def digraphClosureUptoRow : OpenClaim := { program := "ytpgoaohglhjbcaa", sum := "34e0e49a0826b0f679e40c021954bed6c9152afd38a815b6d87fcc6dfe5271d9", func := "keyhole/keyholelaw06.DigraphClosure", spec := "digraphClosure", unfollowed := true, recurses := true, apart := false, narrowed := true }
def DigraphClosureUptoSaid : Prop := digraphClosureUptoRow.holds Try.pinned (OpenSpec.upto digraphClosureSpec)

/-- 'keyholelaw06.DigraphCheck', WHERE WHAT IT READS IS OF BULK AT MOST 1048576: true; the input reads as it did. -/
def digraphCheckUptoRow : OpenClaim := { program := "ytpgoaohglhjbcaa", sum := "34e0e49a0826b0f679e40c021954bed6c9152afd38a815b6d87fcc6dfe5271d9", func := "keyhole/keyholelaw06.DigraphCheck", spec := "digraphCheck", unfollowed := true, recurses := true, apart := false, narrowed := true }
def DigraphCheckUptoSaid : Prop := digraphCheckUptoRow.holds Try.pinned (OpenSpec.upto digraphCheckSpec)

/-- 'keyholelaw06.DigraphReach', WHERE WHAT IT READS IS OF BULK AT MOST 1048576: true; the input reads as it did. -/
def digraphReachUptoRow : OpenClaim := { program := "ytpgoaohglhjbcaa", sum := "34e0e49a0826b0f679e40c021954bed6c9152afd38a815b6d87fcc6dfe5271d9", func := "keyhole/keyholelaw06.DigraphReach", spec := "digraphReach", unfollowed := true, recurses := true, apart := false, narrowed := true }
def DigraphReachUptoSaid : Prop := digraphReachUptoRow.holds Try.pinned (OpenSpec.upto digraphReachSpec)

/-- 'keyholelaw06.DigraphCondense', WHERE WHAT IT READS IS OF BULK AT MOST 1048576: true; the input reads as it did. -/
def digraphCondenseUptoRow : OpenClaim := { program := "ytpgoaohglhjbcaa", sum := "34e0e49a0826b0f679e40c021954bed6c9152afd38a815b6d87fcc6dfe5271d9", func := "keyhole/keyholelaw06.DigraphCondense", spec := "digraphCondense", unfollowed := true, recurses := true, apart := false, narrowed := true }
def DigraphCondenseUptoSaid : Prop := digraphCondenseUptoRow.holds Try.pinned (OpenSpec.upto digraphCondenseSpec)

end Rows
end Go.Proofs.Ytpgoaohglhjbcaa
