/-
  The layer adaptive: ProveLeast and the model's; the laws Depths and Hard.
-/
import Derived.Test.YtnjfafnflbackaaKzFP
set_option linter.unusedVariables false
set_option linter.unusedSimpArgs false
namespace Go.Kz
end Go.Kz
