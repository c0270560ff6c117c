/-
  The layer adaptive: strategies, and what an accepted table bounds; plain laws.
-/
import Derived.Test.YtnjfafnflbackaaKzF7
set_option linter.unusedVariables false
set_option linter.unusedSimpArgs false
namespace Go.Kz
structure NodeP (vs:List (List Int)) (len i:Nat) (c:z2u) (n:Nat):Prop where
 ask0:0≤c.1
 ask1:c.1.toNat < vs.length
 next:c.2.1.length=z3c (vs.getD c.1.toNat [])
 to:∀ d,d < c.2.1.length->c.2.1.getD d (-1) = -1∨((i:Int) < c.2.1.getD d (-1)∧c.2.1.getD d (-1) < (len:Int))
 mem:vs.getD c.1.toNat []∈vs
structure TableP (m:z1o) (g:List (List Int)) (n:Nat) (t:List z6m):Prop where
 ent:∀ x∈t,zcl g n x=true
 rel:∀ x∈t,zpq m t x=true
end Go.Kz
