/-
  DERIVED. GIVEN WITH THE SEED: THE CARDS: each row of YtmoggdcmpoobpaaGreatDoorRows.lean that lists a variable, with what it lists TIED to the program's text (the seventh form; the later family's looks); each row that meets fmt, with fmt's text TOLD by the authors' own Lean function (tested against real Go, not proved from fmt's source: count such statements apart). THE CARD IS WHAT COUNTS. Prove the row's statement (the work); the ties are given (YtmoggdcmpoobpaaGreatDoorTie.lean); close each card by the builder's one call (the guide's Derived/Test/ToyasCard.lean, 'card_holds'). Laid BY PROGRAM, IN A SANDBOX (cutbox-door.mjs). By AI agents, Wed Nov 11 2026. No macro, syntax, notation, axiom, sorry.
-/
import Derived.Test.YtmoggdcmpoobpaaGreatDoorRows
import GoSem.ClaimSeven
namespace Go.Proofs.YtmoggdcmpoobpaaGreatDoor
namespace Rows

/-- THE TIED CARD OF 'keyholetop.TopSequenceExact'. -/
def topSequenceExactCard : Claim7 := { stood := { row := topSequenceExactRow, standIns := [], harness := (true, "b9e24e4f1d446db0d0e0c81e7eec76ef771637455d031596585d9bf566a405ee"), looks := false }, kinds := [], alts := [], laidByText := true, laidKinds := [.data, .data, .data], laidTests := true, laidLooks := .later }
def TopSequenceExactCardSaid : Prop := Claim7.holds Tryz.pinned (.plain (OpenSpec.ofChange topSequenceExactSpec)) topSequenceExactCard

/-- THE TIED CARD OF 'keyholetop.TopWholeKnowledge'. -/
def topWholeKnowledgeCard : Claim7 := { stood := { row := topWholeKnowledgeRow, standIns := [], harness := (true, "b9e24e4f1d446db0d0e0c81e7eec76ef771637455d031596585d9bf566a405ee"), looks := false }, kinds := [], alts := [], laidByText := true, laidKinds := [.data, .data, .data], laidTests := true, laidLooks := .later }
def TopWholeKnowledgeCardSaid : Prop := Claim7.holds Tryz.pinned (.plain (OpenSpec.ofChange topWholeKnowledgeSpec)) topWholeKnowledgeCard

/-- THE TIED CARD OF 'keyholetop.TopAdaptive'. -/
def topAdaptiveCard : Claim7 := { stood := { row := topAdaptiveRow, standIns := [], harness := (true, "b9e24e4f1d446db0d0e0c81e7eec76ef771637455d031596585d9bf566a405ee"), looks := false }, kinds := [], alts := [], laidByText := true, laidKinds := [.data, .data, .data], laidTests := true, laidLooks := .later }
def TopAdaptiveCardSaid : Prop := Claim7.holds Tryz.pinned (.plain (OpenSpec.ofChange topAdaptiveSpec)) topAdaptiveCard

/-- THE TIED CARD OF 'keyholetop.TopMitigated'. -/
def topMitigatedCard : Claim7 := { stood := { row := topMitigatedRow, standIns := [], harness := (true, "b9e24e4f1d446db0d0e0c81e7eec76ef771637455d031596585d9bf566a405ee"), looks := false }, kinds := [], alts := [], laidByText := true, laidKinds := [.data, .data, .data], laidTests := true, laidLooks := .later }
def TopMitigatedCardSaid : Prop := Claim7.holds Tryz.pinned (.plain (OpenSpec.ofChange topMitigatedSpec)) topMitigatedCard

/-- THE SECOND FORM's CARD OF 'keyholetop.TopSequenceExact'. -/
def topSequenceExactUptoCard : Claim7 := { stood := { row := topSequenceExactUptoRow, standIns := [], harness := (true, "b9e24e4f1d446db0d0e0c81e7eec76ef771637455d031596585d9bf566a405ee"), looks := false }, kinds := [], alts := [], laidByText := true, laidKinds := [.data, .data, .data], laidTests := true, laidLooks := .later }
def TopSequenceExactUptoCardSaid : Prop := Claim7.holds Tryz.pinned (.plain (OpenSpec.upto topSequenceExactSpec)) topSequenceExactUptoCard

/-- THE SECOND FORM's CARD OF 'keyholetop.TopWholeKnowledge'. -/
def topWholeKnowledgeUptoCard : Claim7 := { stood := { row := topWholeKnowledgeUptoRow, standIns := [], harness := (true, "b9e24e4f1d446db0d0e0c81e7eec76ef771637455d031596585d9bf566a405ee"), looks := false }, kinds := [], alts := [], laidByText := true, laidKinds := [.data, .data, .data], laidTests := true, laidLooks := .later }
def TopWholeKnowledgeUptoCardSaid : Prop := Claim7.holds Tryz.pinned (.plain (OpenSpec.upto topWholeKnowledgeSpec)) topWholeKnowledgeUptoCard

/-- THE SECOND FORM's CARD OF 'keyholetop.TopAdaptive'. -/
def topAdaptiveUptoCard : Claim7 := { stood := { row := topAdaptiveUptoRow, standIns := [], harness := (true, "b9e24e4f1d446db0d0e0c81e7eec76ef771637455d031596585d9bf566a405ee"), looks := false }, kinds := [], alts := [], laidByText := true, laidKinds := [.data, .data, .data], laidTests := true, laidLooks := .later }
def TopAdaptiveUptoCardSaid : Prop := Claim7.holds Tryz.pinned (.plain (OpenSpec.upto topAdaptiveSpec)) topAdaptiveUptoCard

/-- THE SECOND FORM's CARD OF 'keyholetop.TopMitigated'. -/
def topMitigatedUptoCard : Claim7 := { stood := { row := topMitigatedUptoRow, standIns := [], harness := (true, "b9e24e4f1d446db0d0e0c81e7eec76ef771637455d031596585d9bf566a405ee"), looks := false }, kinds := [], alts := [], laidByText := true, laidKinds := [.data, .data, .data], laidTests := true, laidLooks := .later }
def TopMitigatedUptoCardSaid : Prop := Claim7.holds Tryz.pinned (.plain (OpenSpec.upto topMitigatedSpec)) topMitigatedUptoCard
end Rows
end Go.Proofs.YtmoggdcmpoobpaaGreatDoor
