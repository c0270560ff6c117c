/-
  The layer adaptive: the solver's values; plain laws.
-/
import Derived.Test.YtnjfafnflbackaaGreatKzFBz
set_option linter.unusedVariables false
set_option linter.unusedSimpArgs false
namespace Go.Kz
def WK (m:z1m) (g:List (List Int)) (n:Nat) (p:Key):Int:=VV m.2.1 g n p.2.1.toNat p.1.toNat
structure Slv (m:z1m) (g:List (List Int)) (n:Nat) (K:List Key):Prop where
 menu:MenuP m n
 gain:GainP g n
 nd:K.Nodup
 keys:∀ p∈K,KeyU n 8 p
 closed:∀ p∈K,∀ q∈zz0 m.2.1 p,q∈K
end Go.Kz
