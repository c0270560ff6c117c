/-
  No cell of these rows narrows 'for every input' (looked for: loops, veiled, ifaces, maps, wideKeys, modest, calm, conditions, laid).
  DERIVED. THE GIVEN ROWS OF THIS SEAT. 8 by the template 'for every input the law returns true; each argument reads behind the call as it read before'; 0 by the template 'total and deterministic' (their statements: YtnjfafnflbackaaTotals.lean).
  GIVEN WITH THE SEED: the statements are not yours to turn. If you find one false, say at which input.
  Laid BY PROGRAM, IN A SANDBOX (cutbox-rows.mjs): the forced cells as the released guide's own fill.sh prints them over the translation 7964c8ba9d554ead… (all of the seat's roots in one cut). By AI agents, Wed Nov 11 2026. No macro, syntax, notation, axiom, sorry.
-/
import Derived.Test.YtnjfafnflbackaaChecked
import GoSem.Claim
import GoSem.ClaimJoined
import GoSem.ClaimMapViews
import Derived.JoinedTies
import Derived.KernelRfl
namespace Go.Proofs.Ytnjfafnflbackaa
/- THE CELL 'sum', in the pinned program and in every row, IS THE sha256 OF THE DUMP (.gsa) THAT YtnjfafnflbackaaProg.lean LOADS. Nothing in Lean hashes anything: it is a label: what it is worth is what the hold of that sum in a sandbox is worth. -/
noncomputable def Try.pinned : Pinned := { name := "ytnjfafnflbackaa", sum := "7964c8ba9d554ead809708c025b70127b4248a5e7206e04dbe0e15a385fdb08c", checked := Try.checked }
namespace Rows
def none {H : Type} : Left H := { results := [], args := [] }

/-- 'keyholelaw43.AdaptiveProves': WHATEVER THE INPUT: true; the input reads as it did. -/
def adaptiveProvesSpec : ChangeSpec := { name := "adaptiveProves", fn := fun _ => fun
  | [d1, d2, d3] => { results := [.lit (.bool true)], args := [d1, d2, d3] }
  | _ => none }
def adaptiveProvesRow : OpenClaim := { program := "ytnjfafnflbackaa", sum := "7964c8ba9d554ead809708c025b70127b4248a5e7206e04dbe0e15a385fdb08c", func := "keyhole/keyholelaw43.AdaptiveProves", spec := "adaptiveProves", unfollowed := true, recurses := true, plainKeys := false, apart := false }
def AdaptiveProvesSaid : Prop := adaptiveProvesRow.holds Try.pinned (OpenSpec.ofChange adaptiveProvesSpec)

/-- ITS FALSE NEIGHBOUR: 'it returns false'. Refute it at one input. -/
def adaptiveProvesWrong : ChangeSpec := { name := "adaptiveProves", fn := fun _ => fun
  | [d1, d2, d3] => { results := [.lit (.bool false)], args := [d1, d2, d3] }
  | _ => none }
def AdaptiveProvesWrongFalsely : Prop := adaptiveProvesRow.holds Try.pinned (OpenSpec.ofChange adaptiveProvesWrong)

/-- 'keyholelaw43.AdaptiveBounds': WHATEVER THE INPUT: true; the input reads as it did. -/
def adaptiveBoundsSpec : ChangeSpec := { name := "adaptiveBounds", fn := fun _ => fun
  | [d1, d2, d3] => { results := [.lit (.bool true)], args := [d1, d2, d3] }
  | _ => none }
def adaptiveBoundsRow : OpenClaim := { program := "ytnjfafnflbackaa", sum := "7964c8ba9d554ead809708c025b70127b4248a5e7206e04dbe0e15a385fdb08c", func := "keyhole/keyholelaw43.AdaptiveBounds", spec := "adaptiveBounds", unfollowed := true, recurses := true, plainKeys := false, apart := false }
def AdaptiveBoundsSaid : Prop := adaptiveBoundsRow.holds Try.pinned (OpenSpec.ofChange adaptiveBoundsSpec)

/-- ITS FALSE NEIGHBOUR: 'it returns false'. Refute it at one input. -/
def adaptiveBoundsWrong : ChangeSpec := { name := "adaptiveBounds", fn := fun _ => fun
  | [d1, d2, d3] => { results := [.lit (.bool false)], args := [d1, d2, d3] }
  | _ => none }
def AdaptiveBoundsWrongFalsely : Prop := adaptiveBoundsRow.holds Try.pinned (OpenSpec.ofChange adaptiveBoundsWrong)

/-- 'keyholelaw43.AdaptiveOrder': WHATEVER THE INPUT: true; the input reads as it did. -/
def adaptiveOrderSpec : ChangeSpec := { name := "adaptiveOrder", fn := fun _ => fun
  | [d1, d2, d3] => { results := [.lit (.bool true)], args := [d1, d2, d3] }
  | _ => none }
def adaptiveOrderRow : OpenClaim := { program := "ytnjfafnflbackaa", sum := "7964c8ba9d554ead809708c025b70127b4248a5e7206e04dbe0e15a385fdb08c", func := "keyhole/keyholelaw43.AdaptiveOrder", spec := "adaptiveOrder", unfollowed := true, recurses := true, plainKeys := false, apart := false }
def AdaptiveOrderSaid : Prop := adaptiveOrderRow.holds Try.pinned (OpenSpec.ofChange adaptiveOrderSpec)

/-- ITS FALSE NEIGHBOUR: 'it returns false'. Refute it at one input. -/
def adaptiveOrderWrong : ChangeSpec := { name := "adaptiveOrder", fn := fun _ => fun
  | [d1, d2, d3] => { results := [.lit (.bool false)], args := [d1, d2, d3] }
  | _ => none }
def AdaptiveOrderWrongFalsely : Prop := adaptiveOrderRow.holds Try.pinned (OpenSpec.ofChange adaptiveOrderWrong)

/-- 'keyholelaw43.AdaptiveBest': WHATEVER THE INPUT: true; the input reads as it did. -/
def adaptiveBestSpec : ChangeSpec := { name := "adaptiveBest", fn := fun _ => fun
  | [d1, d2, d3] => { results := [.lit (.bool true)], args := [d1, d2, d3] }
  | _ => none }
def adaptiveBestRow : OpenClaim := { program := "ytnjfafnflbackaa", sum := "7964c8ba9d554ead809708c025b70127b4248a5e7206e04dbe0e15a385fdb08c", func := "keyhole/keyholelaw43.AdaptiveBest", spec := "adaptiveBest", unfollowed := true, recurses := true, plainKeys := false, apart := false }
def AdaptiveBestSaid : Prop := adaptiveBestRow.holds Try.pinned (OpenSpec.ofChange adaptiveBestSpec)

/-- ITS FALSE NEIGHBOUR: 'it returns false'. Refute it at one input. -/
def adaptiveBestWrong : ChangeSpec := { name := "adaptiveBest", fn := fun _ => fun
  | [d1, d2, d3] => { results := [.lit (.bool false)], args := [d1, d2, d3] }
  | _ => none }
def AdaptiveBestWrongFalsely : Prop := adaptiveBestRow.holds Try.pinned (OpenSpec.ofChange adaptiveBestWrong)

/-- 'keyholelaw43.AdaptiveReaches': WHATEVER THE INPUT: true; the input reads as it did. -/
def adaptiveReachesSpec : ChangeSpec := { name := "adaptiveReaches", fn := fun _ => fun
  | [d1, d2, d3] => { results := [.lit (.bool true)], args := [d1, d2, d3] }
  | _ => none }
def adaptiveReachesRow : OpenClaim := { program := "ytnjfafnflbackaa", sum := "7964c8ba9d554ead809708c025b70127b4248a5e7206e04dbe0e15a385fdb08c", func := "keyhole/keyholelaw43.AdaptiveReaches", spec := "adaptiveReaches", unfollowed := true, recurses := true, plainKeys := false, apart := false }
def AdaptiveReachesSaid : Prop := adaptiveReachesRow.holds Try.pinned (OpenSpec.ofChange adaptiveReachesSpec)

/-- ITS FALSE NEIGHBOUR: 'it returns false'. Refute it at one input. -/
def adaptiveReachesWrong : ChangeSpec := { name := "adaptiveReaches", fn := fun _ => fun
  | [d1, d2, d3] => { results := [.lit (.bool false)], args := [d1, d2, d3] }
  | _ => none }
def AdaptiveReachesWrongFalsely : Prop := adaptiveReachesRow.holds Try.pinned (OpenSpec.ofChange adaptiveReachesWrong)

/-- 'keyholelaw43.AdaptiveFixed': WHATEVER THE INPUT: true; the input reads as it did. -/
def adaptiveFixedSpec : ChangeSpec := { name := "adaptiveFixed", fn := fun _ => fun
  | [d1, d2, d3] => { results := [.lit (.bool true)], args := [d1, d2, d3] }
  | _ => none }
def adaptiveFixedRow : OpenClaim := { program := "ytnjfafnflbackaa", sum := "7964c8ba9d554ead809708c025b70127b4248a5e7206e04dbe0e15a385fdb08c", func := "keyhole/keyholelaw43.AdaptiveFixed", spec := "adaptiveFixed", unfollowed := true, recurses := true, plainKeys := false, apart := false }
def AdaptiveFixedSaid : Prop := adaptiveFixedRow.holds Try.pinned (OpenSpec.ofChange adaptiveFixedSpec)

/-- ITS FALSE NEIGHBOUR: 'it returns false'. Refute it at one input. -/
def adaptiveFixedWrong : ChangeSpec := { name := "adaptiveFixed", fn := fun _ => fun
  | [d1, d2, d3] => { results := [.lit (.bool false)], args := [d1, d2, d3] }
  | _ => none }
def AdaptiveFixedWrongFalsely : Prop := adaptiveFixedRow.holds Try.pinned (OpenSpec.ofChange adaptiveFixedWrong)

/-- 'keyholelaw43.AdaptiveHard': WHATEVER THE INPUT: true; the input reads as it did. -/
def adaptiveHardSpec : ChangeSpec := { name := "adaptiveHard", fn := fun _ => fun
  | [d1, d2] => { results := [.lit (.bool true)], args := [d1, d2] }
  | _ => none }
def adaptiveHardRow : OpenClaim := { program := "ytnjfafnflbackaa", sum := "7964c8ba9d554ead809708c025b70127b4248a5e7206e04dbe0e15a385fdb08c", func := "keyhole/keyholelaw43.AdaptiveHard", spec := "adaptiveHard", unfollowed := true, recurses := true, plainKeys := false, apart := false }
def AdaptiveHardSaid : Prop := adaptiveHardRow.holds Try.pinned (OpenSpec.ofChange adaptiveHardSpec)

/-- ITS FALSE NEIGHBOUR: 'it returns false'. Refute it at one input. -/
def adaptiveHardWrong : ChangeSpec := { name := "adaptiveHard", fn := fun _ => fun
  | [d1, d2] => { results := [.lit (.bool false)], args := [d1, d2] }
  | _ => none }
def AdaptiveHardWrongFalsely : Prop := adaptiveHardRow.holds Try.pinned (OpenSpec.ofChange adaptiveHardWrong)

/-- 'keyholelaw43.AdaptiveDepths': WHATEVER THE INPUT: true; the input reads as it did. -/
def adaptiveDepthsSpec : ChangeSpec := { name := "adaptiveDepths", fn := fun _ => fun
  | [d1, d2, d3] => { results := [.lit (.bool true)], args := [d1, d2, d3] }
  | _ => none }
def adaptiveDepthsRow : OpenClaim := { program := "ytnjfafnflbackaa", sum := "7964c8ba9d554ead809708c025b70127b4248a5e7206e04dbe0e15a385fdb08c", func := "keyhole/keyholelaw43.AdaptiveDepths", spec := "adaptiveDepths", unfollowed := true, recurses := true, plainKeys := false, apart := false }
def AdaptiveDepthsSaid : Prop := adaptiveDepthsRow.holds Try.pinned (OpenSpec.ofChange adaptiveDepthsSpec)

/-- ITS FALSE NEIGHBOUR: 'it returns false'. Refute it at one input. -/
def adaptiveDepthsWrong : ChangeSpec := { name := "adaptiveDepths", fn := fun _ => fun
  | [d1, d2, d3] => { results := [.lit (.bool false)], args := [d1, d2, d3] }
  | _ => none }
def AdaptiveDepthsWrongFalsely : Prop := adaptiveDepthsRow.holds Try.pinned (OpenSpec.ofChange adaptiveDepthsWrong)

/- THE SECOND FORM. 'bulk': how many values and letters a reading holds, each counted each time it is reached (what is shared counts as often as it is met; a slice's spare places count too). A statement '..UptoSaid' is the law's where the arguments, and the package variables that the reading takes, are together of bulk at most 1048576: NARROWER than '..Said'. Prove '..Said' where nothing that the law and all that it calls make is longer than what came in: it says more and counts as full. Else prove '..UptoSaid'. A law counts once. -/
mutual
def uptoBulk {H : Type} : DataW H → Nat
  | .lit (.string bytes) => bytes.length + 1
  | .lit _ => 1
  | .nil => 1
  | .ptr d => uptoBulk d + 1
  | .slice elems spare => uptoBulkAll elems + uptoBulkAll spare + 1
  | .agg parts => uptoBulkAll parts + 1
  | .iface _ d => uptoBulk d + 1
  | .map entries => uptoBulkEntries entries + 1
  | .held _ => 1
def uptoBulkAll {H : Type} : List (DataW H) → Nat
  | [] => 0
  | d :: r => uptoBulk d + uptoBulkAll r
def uptoBulkEntries {H : Type} : List (Lit × DataW H) → Nat
  | [] => 0
  | x :: r => uptoBulkEntry x + uptoBulkEntries r
def uptoBulkEntry {H : Type} : Lit × DataW H → Nat
  | (.string bytes, d) => bytes.length + uptoBulk d + 1
  | (_, d) => uptoBulk d + 1
 end
def uptoSmall : (H : Type) → List (DataW H) → Bool := fun _ ds => decide (uptoBulkAll ds ≤ 1048576)
def OpenSpec.upto (s : _root_.Go.ChangeSpec) : _root_.Go.OpenSpec := { _root_.Go.OpenSpec.ofChange s with cond := some uptoSmall }

/-- 'keyholelaw43.AdaptiveProves', WHERE WHAT IT READS IS OF BULK AT MOST 1048576: true; the input reads as it did. -/
def adaptiveProvesUptoRow : OpenClaim := { program := "ytnjfafnflbackaa", sum := "7964c8ba9d554ead809708c025b70127b4248a5e7206e04dbe0e15a385fdb08c", func := "keyhole/keyholelaw43.AdaptiveProves", spec := "adaptiveProves", unfollowed := true, recurses := true, plainKeys := false, apart := false, narrowed := true }
def AdaptiveProvesUptoSaid : Prop := adaptiveProvesUptoRow.holds Try.pinned (OpenSpec.upto adaptiveProvesSpec)

/-- 'keyholelaw43.AdaptiveBounds', WHERE WHAT IT READS IS OF BULK AT MOST 1048576: true; the input reads as it did. -/
def adaptiveBoundsUptoRow : OpenClaim := { program := "ytnjfafnflbackaa", sum := "7964c8ba9d554ead809708c025b70127b4248a5e7206e04dbe0e15a385fdb08c", func := "keyhole/keyholelaw43.AdaptiveBounds", spec := "adaptiveBounds", unfollowed := true, recurses := true, plainKeys := false, apart := false, narrowed := true }
def AdaptiveBoundsUptoSaid : Prop := adaptiveBoundsUptoRow.holds Try.pinned (OpenSpec.upto adaptiveBoundsSpec)

/-- 'keyholelaw43.AdaptiveOrder', WHERE WHAT IT READS IS OF BULK AT MOST 1048576: true; the input reads as it did. -/
def adaptiveOrderUptoRow : OpenClaim := { program := "ytnjfafnflbackaa", sum := "7964c8ba9d554ead809708c025b70127b4248a5e7206e04dbe0e15a385fdb08c", func := "keyhole/keyholelaw43.AdaptiveOrder", spec := "adaptiveOrder", unfollowed := true, recurses := true, plainKeys := false, apart := false, narrowed := true }
def AdaptiveOrderUptoSaid : Prop := adaptiveOrderUptoRow.holds Try.pinned (OpenSpec.upto adaptiveOrderSpec)

/-- 'keyholelaw43.AdaptiveBest', WHERE WHAT IT READS IS OF BULK AT MOST 1048576: true; the input reads as it did. -/
def adaptiveBestUptoRow : OpenClaim := { program := "ytnjfafnflbackaa", sum := "7964c8ba9d554ead809708c025b70127b4248a5e7206e04dbe0e15a385fdb08c", func := "keyhole/keyholelaw43.AdaptiveBest", spec := "adaptiveBest", unfollowed := true, recurses := true, plainKeys := false, apart := false, narrowed := true }
def AdaptiveBestUptoSaid : Prop := adaptiveBestUptoRow.holds Try.pinned (OpenSpec.upto adaptiveBestSpec)

/-- 'keyholelaw43.AdaptiveReaches', WHERE WHAT IT READS IS OF BULK AT MOST 1048576: true; the input reads as it did. -/
def adaptiveReachesUptoRow : OpenClaim := { program := "ytnjfafnflbackaa", sum := "7964c8ba9d554ead809708c025b70127b4248a5e7206e04dbe0e15a385fdb08c", func := "keyhole/keyholelaw43.AdaptiveReaches", spec := "adaptiveReaches", unfollowed := true, recurses := true, plainKeys := false, apart := false, narrowed := true }
def AdaptiveReachesUptoSaid : Prop := adaptiveReachesUptoRow.holds Try.pinned (OpenSpec.upto adaptiveReachesSpec)

/-- 'keyholelaw43.AdaptiveFixed', WHERE WHAT IT READS IS OF BULK AT MOST 1048576: true; the input reads as it did. -/
def adaptiveFixedUptoRow : OpenClaim := { program := "ytnjfafnflbackaa", sum := "7964c8ba9d554ead809708c025b70127b4248a5e7206e04dbe0e15a385fdb08c", func := "keyhole/keyholelaw43.AdaptiveFixed", spec := "adaptiveFixed", unfollowed := true, recurses := true, plainKeys := false, apart := false, narrowed := true }
def AdaptiveFixedUptoSaid : Prop := adaptiveFixedUptoRow.holds Try.pinned (OpenSpec.upto adaptiveFixedSpec)

/-- 'keyholelaw43.AdaptiveHard', WHERE WHAT IT READS IS OF BULK AT MOST 1048576: true; the input reads as it did. -/
def adaptiveHardUptoRow : OpenClaim := { program := "ytnjfafnflbackaa", sum := "7964c8ba9d554ead809708c025b70127b4248a5e7206e04dbe0e15a385fdb08c", func := "keyhole/keyholelaw43.AdaptiveHard", spec := "adaptiveHard", unfollowed := true, recurses := true, plainKeys := false, apart := false, narrowed := true }
def AdaptiveHardUptoSaid : Prop := adaptiveHardUptoRow.holds Try.pinned (OpenSpec.upto adaptiveHardSpec)

/-- 'keyholelaw43.AdaptiveDepths', WHERE WHAT IT READS IS OF BULK AT MOST 1048576: true; the input reads as it did. -/
def adaptiveDepthsUptoRow : OpenClaim := { program := "ytnjfafnflbackaa", sum := "7964c8ba9d554ead809708c025b70127b4248a5e7206e04dbe0e15a385fdb08c", func := "keyhole/keyholelaw43.AdaptiveDepths", spec := "adaptiveDepths", unfollowed := true, recurses := true, plainKeys := false, apart := false, narrowed := true }
def AdaptiveDepthsUptoSaid : Prop := adaptiveDepthsUptoRow.holds Try.pinned (OpenSpec.upto adaptiveDepthsSpec)

end Rows
end Go.Proofs.Ytnjfafnflbackaa
