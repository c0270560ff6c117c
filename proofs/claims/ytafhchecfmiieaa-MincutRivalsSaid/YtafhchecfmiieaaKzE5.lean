/-
  Layer 07, plain: what the functions on networks compute: link, push, used, search.
-/
import Derived.Test.YtafhchecfmiieaaKzE4
set_option linter.unusedVariables false
set_option linter.unusedSimpArgs false
namespace Go.Kz
variable {W:Nw} {ld:Nat→Nat→Bool} {r:Nat→Nat→Int}
end Go.Kz
