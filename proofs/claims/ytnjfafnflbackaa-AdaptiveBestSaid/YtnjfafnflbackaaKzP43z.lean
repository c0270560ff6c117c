/-
  The printed functions, all of them.
-/
import Derived.Test.YtnjfafnflbackaaKzP43f
set_option linter.unusedVariables false
set_option linter.unusedSimpArgs false

