/-
  The layer adaptive: the model's code of depths; the laws Depths and Hard.
-/
import Derived.Test.YtnjfafnflbackaaKzFQ
set_option linter.unusedVariables false
set_option linter.unusedSimpArgs false
namespace Go.Kz
end Go.Kz
