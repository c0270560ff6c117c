/-
  The layer adaptive: the planned strategy; its table is accepted; plain laws.
-/
import Derived.Test.YtnjfafnflbackaaKzFI
set_option linter.unusedVariables false
set_option linter.unusedSimpArgs false
namespace Go.Kz
end Go.Kz
