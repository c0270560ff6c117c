/-
  The function that spells an observation: what it gives, for every observation.
-/
import Derived.Test.YtmoggdcmpoobpaaGreatDoorKzSR
set_option linter.unusedSimpArgs false
namespace Go.Proofs
open Go.Shelf Go.RowKit Go.Kz
set_option linter.unusedVariables false
end Go.Proofs
namespace Go.Kz
open Go.Proofs
end Go.Kz
