/-
  No cell of these rows narrows 'for every input' (looked for: loops, veiled, ifaces, maps, wideKeys, modest, calm, conditions, laid).
  DERIVED. THE GIVEN ROWS OF THIS SEAT. 6 by the template 'for every input the law returns true; each argument reads behind the call as it read before'; 0 by the template 'total and deterministic' (their statements: YtakifbcgkbfclaaTotals.lean).
  GIVEN WITH THE SEED: the statements are not yours to turn. If you find one false, say at which input.
  Laid BY PROGRAM, IN A SANDBOX (cutbox-rows.mjs): the forced cells as the released guide's own fill.sh prints them over the translation 44e719a81a949ce3… (all of the seat's roots in one cut). By AI agents, Wed Nov 11 2026. No macro, syntax, notation, axiom, sorry.
-/
import Derived.Test.YtakifbcgkbfclaaChecked
import GoSem.Claim
import GoSem.ClaimJoined
import GoSem.ClaimMapViews
import Derived.JoinedTies
import Derived.KernelRfl
namespace Go.Proofs.Ytakifbcgkbfclaa
/- THE CELL 'sum', in the pinned program and in every row, IS THE sha256 OF THE DUMP (.gsa) THAT YtakifbcgkbfclaaProg.lean LOADS. Nothing in Lean hashes anything: it is a label: what it is worth is what the hold of that sum in a sandbox is worth. -/
noncomputable def Try.pinned : Pinned := { name := "ytakifbcgkbfclaa", sum := "44e719a81a949ce39edd1472c24b95dde8388492ed6bbbf2552ecd34ba70003f", checked := Try.checked }
namespace Rows
def none {H : Type} : Left H := { results := [], args := [] }

/-- 'keyholelaw44.BucketChecks': WHATEVER THE INPUT: true; the input reads as it did. -/
def bucketChecksSpec : ChangeSpec := { name := "bucketChecks", fn := fun _ => fun
  | [d1, d2, d3] => { results := [.lit (.bool true)], args := [d1, d2, d3] }
  | _ => none }
def bucketChecksRow : OpenClaim := { program := "ytakifbcgkbfclaa", sum := "44e719a81a949ce39edd1472c24b95dde8388492ed6bbbf2552ecd34ba70003f", func := "keyhole/keyholelaw44.BucketChecks", spec := "bucketChecks", unfollowed := true, recurses := true, apart := false }
def BucketChecksSaid : Prop := bucketChecksRow.holds Try.pinned (OpenSpec.ofChange bucketChecksSpec)

/-- ITS FALSE NEIGHBOUR: 'it returns false'. Refute it at one input. -/
def bucketChecksWrong : ChangeSpec := { name := "bucketChecks", fn := fun _ => fun
  | [d1, d2, d3] => { results := [.lit (.bool false)], args := [d1, d2, d3] }
  | _ => none }
def BucketChecksWrongFalsely : Prop := bucketChecksRow.holds Try.pinned (OpenSpec.ofChange bucketChecksWrong)

/-- 'keyholelaw44.BucketProves': WHATEVER THE INPUT: true; the input reads as it did. -/
def bucketProvesSpec : ChangeSpec := { name := "bucketProves", fn := fun _ => fun
  | [d1, d2, d3] => { results := [.lit (.bool true)], args := [d1, d2, d3] }
  | _ => none }
def bucketProvesRow : OpenClaim := { program := "ytakifbcgkbfclaa", sum := "44e719a81a949ce39edd1472c24b95dde8388492ed6bbbf2552ecd34ba70003f", func := "keyhole/keyholelaw44.BucketProves", spec := "bucketProves", unfollowed := true, recurses := true, apart := false }
def BucketProvesSaid : Prop := bucketProvesRow.holds Try.pinned (OpenSpec.ofChange bucketProvesSpec)

/-- ITS FALSE NEIGHBOUR: 'it returns false'. Refute it at one input. -/
def bucketProvesWrong : ChangeSpec := { name := "bucketProves", fn := fun _ => fun
  | [d1, d2, d3] => { results := [.lit (.bool false)], args := [d1, d2, d3] }
  | _ => none }
def BucketProvesWrongFalsely : Prop := bucketProvesRow.holds Try.pinned (OpenSpec.ofChange bucketProvesWrong)

/-- 'keyholelaw44.BucketSettles': WHATEVER THE INPUT: true; the input reads as it did. -/
def bucketSettlesSpec : ChangeSpec := { name := "bucketSettles", fn := fun _ => fun
  | [d1, d2, d3] => { results := [.lit (.bool true)], args := [d1, d2, d3] }
  | _ => none }
def bucketSettlesRow : OpenClaim := { program := "ytakifbcgkbfclaa", sum := "44e719a81a949ce39edd1472c24b95dde8388492ed6bbbf2552ecd34ba70003f", func := "keyhole/keyholelaw44.BucketSettles", spec := "bucketSettles", unfollowed := true, recurses := true, apart := false }
def BucketSettlesSaid : Prop := bucketSettlesRow.holds Try.pinned (OpenSpec.ofChange bucketSettlesSpec)

/-- ITS FALSE NEIGHBOUR: 'it returns false'. Refute it at one input. -/
def bucketSettlesWrong : ChangeSpec := { name := "bucketSettles", fn := fun _ => fun
  | [d1, d2, d3] => { results := [.lit (.bool false)], args := [d1, d2, d3] }
  | _ => none }
def BucketSettlesWrongFalsely : Prop := bucketSettlesRow.holds Try.pinned (OpenSpec.ofChange bucketSettlesWrong)

/-- 'keyholelaw44.BucketMoves': WHATEVER THE INPUT: true; the input reads as it did. -/
def bucketMovesSpec : ChangeSpec := { name := "bucketMoves", fn := fun _ => fun
  | [d1, d2, d3] => { results := [.lit (.bool true)], args := [d1, d2, d3] }
  | _ => none }
def bucketMovesRow : OpenClaim := { program := "ytakifbcgkbfclaa", sum := "44e719a81a949ce39edd1472c24b95dde8388492ed6bbbf2552ecd34ba70003f", func := "keyhole/keyholelaw44.BucketMoves", spec := "bucketMoves", unfollowed := true, recurses := true, apart := false }
def BucketMovesSaid : Prop := bucketMovesRow.holds Try.pinned (OpenSpec.ofChange bucketMovesSpec)

/-- ITS FALSE NEIGHBOUR: 'it returns false'. Refute it at one input. -/
def bucketMovesWrong : ChangeSpec := { name := "bucketMoves", fn := fun _ => fun
  | [d1, d2, d3] => { results := [.lit (.bool false)], args := [d1, d2, d3] }
  | _ => none }
def BucketMovesWrongFalsely : Prop := bucketMovesRow.holds Try.pinned (OpenSpec.ofChange bucketMovesWrong)

/-- 'keyholelaw44.BucketCurve': WHATEVER THE INPUT: true; the input reads as it did. -/
def bucketCurveSpec : ChangeSpec := { name := "bucketCurve", fn := fun _ => fun
  | [d1, d2] => { results := [.lit (.bool true)], args := [d1, d2] }
  | _ => none }
def bucketCurveRow : OpenClaim := { program := "ytakifbcgkbfclaa", sum := "44e719a81a949ce39edd1472c24b95dde8388492ed6bbbf2552ecd34ba70003f", func := "keyhole/keyholelaw44.BucketCurve", spec := "bucketCurve", unfollowed := true, recurses := true, apart := false }
def BucketCurveSaid : Prop := bucketCurveRow.holds Try.pinned (OpenSpec.ofChange bucketCurveSpec)

/-- ITS FALSE NEIGHBOUR: 'it returns false'. Refute it at one input. -/
def bucketCurveWrong : ChangeSpec := { name := "bucketCurve", fn := fun _ => fun
  | [d1, d2] => { results := [.lit (.bool false)], args := [d1, d2] }
  | _ => none }
def BucketCurveWrongFalsely : Prop := bucketCurveRow.holds Try.pinned (OpenSpec.ofChange bucketCurveWrong)

/-- 'keyholelaw44.BucketBest': WHATEVER THE INPUT: true; the input reads as it did. -/
def bucketBestSpec : ChangeSpec := { name := "bucketBest", fn := fun _ => fun
  | [d1, d2] => { results := [.lit (.bool true)], args := [d1, d2] }
  | _ => none }
def bucketBestRow : OpenClaim := { program := "ytakifbcgkbfclaa", sum := "44e719a81a949ce39edd1472c24b95dde8388492ed6bbbf2552ecd34ba70003f", func := "keyhole/keyholelaw44.BucketBest", spec := "bucketBest", unfollowed := true, recurses := true, apart := false }
def BucketBestSaid : Prop := bucketBestRow.holds Try.pinned (OpenSpec.ofChange bucketBestSpec)

/-- ITS FALSE NEIGHBOUR: 'it returns false'. Refute it at one input. -/
def bucketBestWrong : ChangeSpec := { name := "bucketBest", fn := fun _ => fun
  | [d1, d2] => { results := [.lit (.bool false)], args := [d1, d2] }
  | _ => none }
def BucketBestWrongFalsely : Prop := bucketBestRow.holds Try.pinned (OpenSpec.ofChange bucketBestWrong)

/- THE SECOND FORM. 'bulk': how many values and letters a reading holds, each counted each time it is reached (what is shared counts as often as it is met; a slice's spare places count too). A statement '..UptoSaid' is the law's where the arguments, and the package variables that the reading takes, are together of bulk at most 1048576: NARROWER than '..Said'. Prove '..Said' where nothing that the law and all that it calls make is longer than what came in: it says more and counts as full. Else prove '..UptoSaid'. A law counts once. -/
mutual
def uptoBulk {H : Type} : DataW H → Nat
  | .lit (.string bytes) => bytes.length + 1
  | .lit _ => 1
  | .nil => 1
  | .ptr d => uptoBulk d + 1
  | .slice elems spare => uptoBulkAll elems + uptoBulkAll spare + 1
  | .agg parts => uptoBulkAll parts + 1
  | .iface _ d => uptoBulk d + 1
  | .map entries => uptoBulkEntries entries + 1
  | .held _ => 1
def uptoBulkAll {H : Type} : List (DataW H) → Nat
  | [] => 0
  | d :: r => uptoBulk d + uptoBulkAll r
def uptoBulkEntries {H : Type} : List (Lit × DataW H) → Nat
  | [] => 0
  | x :: r => uptoBulkEntry x + uptoBulkEntries r
def uptoBulkEntry {H : Type} : Lit × DataW H → Nat
  | (.string bytes, d) => bytes.length + uptoBulk d + 1
  | (_, d) => uptoBulk d + 1
 end
def uptoSmall : (H : Type) → List (DataW H) → Bool := fun _ ds => decide (uptoBulkAll ds ≤ 1048576)
def OpenSpec.upto (s : _root_.Go.ChangeSpec) : _root_.Go.OpenSpec := { _root_.Go.OpenSpec.ofChange s with cond := some uptoSmall }

/-- 'keyholelaw44.BucketChecks', WHERE WHAT IT READS IS OF BULK AT MOST 1048576: true; the input reads as it did. -/
def bucketChecksUptoRow : OpenClaim := { program := "ytakifbcgkbfclaa", sum := "44e719a81a949ce39edd1472c24b95dde8388492ed6bbbf2552ecd34ba70003f", func := "keyhole/keyholelaw44.BucketChecks", spec := "bucketChecks", unfollowed := true, recurses := true, apart := false, narrowed := true }
def BucketChecksUptoSaid : Prop := bucketChecksUptoRow.holds Try.pinned (OpenSpec.upto bucketChecksSpec)

/-- 'keyholelaw44.BucketProves', WHERE WHAT IT READS IS OF BULK AT MOST 1048576: true; the input reads as it did. -/
def bucketProvesUptoRow : OpenClaim := { program := "ytakifbcgkbfclaa", sum := "44e719a81a949ce39edd1472c24b95dde8388492ed6bbbf2552ecd34ba70003f", func := "keyhole/keyholelaw44.BucketProves", spec := "bucketProves", unfollowed := true, recurses := true, apart := false, narrowed := true }
def BucketProvesUptoSaid : Prop := bucketProvesUptoRow.holds Try.pinned (OpenSpec.upto bucketProvesSpec)

/-- 'keyholelaw44.BucketSettles', WHERE WHAT IT READS IS OF BULK AT MOST 1048576: true; the input reads as it did. -/
def bucketSettlesUptoRow : OpenClaim := { program := "ytakifbcgkbfclaa", sum := "44e719a81a949ce39edd1472c24b95dde8388492ed6bbbf2552ecd34ba70003f", func := "keyhole/keyholelaw44.BucketSettles", spec := "bucketSettles", unfollowed := true, recurses := true, apart := false, narrowed := true }
def BucketSettlesUptoSaid : Prop := bucketSettlesUptoRow.holds Try.pinned (OpenSpec.upto bucketSettlesSpec)

/-- 'keyholelaw44.BucketMoves', WHERE WHAT IT READS IS OF BULK AT MOST 1048576: true; the input reads as it did. -/
def bucketMovesUptoRow : OpenClaim := { program := "ytakifbcgkbfclaa", sum := "44e719a81a949ce39edd1472c24b95dde8388492ed6bbbf2552ecd34ba70003f", func := "keyhole/keyholelaw44.BucketMoves", spec := "bucketMoves", unfollowed := true, recurses := true, apart := false, narrowed := true }
def BucketMovesUptoSaid : Prop := bucketMovesUptoRow.holds Try.pinned (OpenSpec.upto bucketMovesSpec)

/-- 'keyholelaw44.BucketCurve', WHERE WHAT IT READS IS OF BULK AT MOST 1048576: true; the input reads as it did. -/
def bucketCurveUptoRow : OpenClaim := { program := "ytakifbcgkbfclaa", sum := "44e719a81a949ce39edd1472c24b95dde8388492ed6bbbf2552ecd34ba70003f", func := "keyhole/keyholelaw44.BucketCurve", spec := "bucketCurve", unfollowed := true, recurses := true, apart := false, narrowed := true }
def BucketCurveUptoSaid : Prop := bucketCurveUptoRow.holds Try.pinned (OpenSpec.upto bucketCurveSpec)

/-- 'keyholelaw44.BucketBest', WHERE WHAT IT READS IS OF BULK AT MOST 1048576: true; the input reads as it did. -/
def bucketBestUptoRow : OpenClaim := { program := "ytakifbcgkbfclaa", sum := "44e719a81a949ce39edd1472c24b95dde8388492ed6bbbf2552ecd34ba70003f", func := "keyhole/keyholelaw44.BucketBest", spec := "bucketBest", unfollowed := true, recurses := true, apart := false, narrowed := true }
def BucketBestUptoSaid : Prop := bucketBestUptoRow.holds Try.pinned (OpenSpec.upto bucketBestSpec)

end Rows
end Go.Proofs.Ytakifbcgkbfclaa
