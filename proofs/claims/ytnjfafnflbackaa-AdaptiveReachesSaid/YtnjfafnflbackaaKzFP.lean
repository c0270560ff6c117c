/-
  The layer adaptive: questions chosen in advance, by the model; the law Fixed.
-/
import Derived.Test.YtnjfafnflbackaaKzFO
set_option linter.unusedVariables false
set_option linter.unusedSimpArgs false
namespace Go.Kz
end Go.Kz
