/-
  The layer adaptive: strategies by the model; the law Bounds.
-/
import Derived.Test.YtnjfafnflbackaaKzFN
set_option linter.unusedVariables false
set_option linter.unusedSimpArgs false
namespace Go.Kz
end Go.Kz
