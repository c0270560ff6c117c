/-
  The layer adaptive: Fixed; plain laws.
-/
import Derived.Test.YtnjfafnflbackaaGreatKzFKz
set_option linter.unusedVariables false
set_option linter.unusedSimpArgs false
namespace Go.Kz
section
variable {m:z1m} {g:List (List Int)}
end
end Go.Kz
