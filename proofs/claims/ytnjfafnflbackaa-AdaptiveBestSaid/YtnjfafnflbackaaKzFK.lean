/-
  The layer adaptive: Prove accepts the table of Best; plain laws.
-/
import Derived.Test.YtnjfafnflbackaaKzFJ
set_option linter.unusedVariables false
set_option linter.unusedSimpArgs false
namespace Go.Kz
section
variable {m:z1i} {g:List (List Int)} {n:Nat} {K:List Key} (hs:Slv m g n K)
include hs
end
end Go.Kz
