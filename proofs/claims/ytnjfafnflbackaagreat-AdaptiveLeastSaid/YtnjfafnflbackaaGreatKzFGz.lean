/-
  The layer adaptive: the plan, and Best; plain laws.
-/
import Derived.Test.YtnjfafnflbackaaGreatKzFEz
set_option linter.unusedVariables false
set_option linter.unusedSimpArgs false
namespace Go.Kz
def zyk (N:Nat):Prop:=∀ n:Nat,n≤62->f56 N [-1] (n:Int)=some (List.replicate n (-1))
end Go.Kz
