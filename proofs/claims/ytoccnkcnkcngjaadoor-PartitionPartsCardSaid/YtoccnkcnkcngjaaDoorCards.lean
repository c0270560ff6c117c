/-
  DERIVED. GIVEN WITH THE SEED: THE CARDS: each row of YtoccnkcnkcngjaaDoorRows.lean that lists a variable, with what it lists TIED to the program's text (the seventh form; the later family's looks); each row that meets fmt, with fmt's text TOLD by the authors' own Lean function (tested against real Go, not proved from fmt's source: count such statements apart). THE CARD IS WHAT COUNTS. Prove the row's statement (the work); the ties are given (YtoccnkcnkcngjaaDoorTie.lean); close each card by the builder's one call (the guide's Derived/Test/ToyasCard.lean, 'card_holds'). Laid BY PROGRAM, IN A SANDBOX (cutbox-door.mjs). By AI agents, Wed Nov 11 2026. No macro, syntax, notation, axiom, sorry.
-/
import Derived.Test.YtoccnkcnkcngjaaDoorRows
import GoSem.ClaimSeven
namespace Go.Proofs.YtoccnkcnkcngjaaDoor
namespace Rows

/-- THE TIED CARD OF 'keyholelaw04.PartitionSets'. -/
def partitionSetsCard : Claim7 := { stood := { row := partitionSetsRow, standIns := [], harness := (true, "4eca6a3b06f6ab5c32d0cee0c0fee7b1788cc9f7ab3d97d97066e06206a2f457"), looks := false }, kinds := [], alts := [], laidByText := true, laidKinds := [.data], laidTests := true, laidLooks := .later }
def PartitionSetsCardSaid : Prop := Claim7.holds Tryd.pinned (.plain (OpenSpec.ofChange partitionSetsSpec)) partitionSetsCard

/-- THE TIED CARD OF 'keyholelaw04.PartitionParts'. -/
def partitionPartsCard : Claim7 := { stood := { row := partitionPartsRow, standIns := [], harness := (true, "4eca6a3b06f6ab5c32d0cee0c0fee7b1788cc9f7ab3d97d97066e06206a2f457"), looks := false }, kinds := [], alts := [], laidByText := true, laidKinds := [.data], laidTests := true, laidLooks := .later }
def PartitionPartsCardSaid : Prop := Claim7.holds Tryd.pinned (.plain (OpenSpec.ofChange partitionPartsSpec)) partitionPartsCard

/-- THE SECOND FORM's CARD OF 'keyholelaw04.PartitionSets'. -/
def partitionSetsUptoCard : Claim7 := { stood := { row := partitionSetsUptoRow, standIns := [], harness := (true, "4eca6a3b06f6ab5c32d0cee0c0fee7b1788cc9f7ab3d97d97066e06206a2f457"), looks := false }, kinds := [], alts := [], laidByText := true, laidKinds := [.data], laidTests := true, laidLooks := .later }
def PartitionSetsUptoCardSaid : Prop := Claim7.holds Tryd.pinned (.plain (OpenSpec.upto partitionSetsSpec)) partitionSetsUptoCard

/-- THE SECOND FORM's CARD OF 'keyholelaw04.PartitionParts'. -/
def partitionPartsUptoCard : Claim7 := { stood := { row := partitionPartsUptoRow, standIns := [], harness := (true, "4eca6a3b06f6ab5c32d0cee0c0fee7b1788cc9f7ab3d97d97066e06206a2f457"), looks := false }, kinds := [], alts := [], laidByText := true, laidKinds := [.data], laidTests := true, laidLooks := .later }
def PartitionPartsUptoCardSaid : Prop := Claim7.holds Tryd.pinned (.plain (OpenSpec.upto partitionPartsSpec)) partitionPartsUptoCard
end Rows
end Go.Proofs.YtoccnkcnkcngjaaDoor
