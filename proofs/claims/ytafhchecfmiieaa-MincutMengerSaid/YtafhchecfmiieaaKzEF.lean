/-
  Layer 07, plain: both checkers, and the laws Checks and Rivals.
-/
import Derived.Test.YtafhchecfmiieaaKzEE
set_option linter.unusedVariables false
set_option linter.unusedSimpArgs false
namespace Go.Kz
theorem rep_map {α:Type} (n:Nat) (c:α):List.replicate n c=(List.range n).map fun _=>c:=by
 apply List.ext_getElem?
 intro i
 by_cases hi:i < n
 ·rw [map_range_get _ hi,List.getElem?_replicate_of_lt hi]
 ·rw [List.getElem?_eq_none (by simp;omega),List.getElem?_eq_none (by simp;omega)]
section
variable {n:Nat} {E:List (Nat×Nat)} {A B:List Nat} {w:List Int}
end
end Go.Kz
