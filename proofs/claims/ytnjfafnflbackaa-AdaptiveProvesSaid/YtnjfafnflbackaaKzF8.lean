/-
  The layer adaptive: strategies, and what an accepted table bounds; plain laws.
-/
import Derived.Test.YtnjfafnflbackaaKzF7
set_option linter.unusedVariables false
set_option linter.unusedSimpArgs false
namespace Go.Kz
structure NodeP (vs:List (List Int)) (len i:Nat) (c:z2s) (n:Nat):Prop where
 ask0:0≤c.1
 ask1:c.1.toNat < vs.length
 next:c.2.1.length=z38 (vs.getD c.1.toNat [])
 to:∀ d,d < c.2.1.length->c.2.1.getD d (-1) = -1∨((i:Int) < c.2.1.getD d (-1)∧c.2.1.getD d (-1) < (len:Int))
 mem:vs.getD c.1.toNat []∈vs
structure TableP (m:z1v) (g:List (List Int)) (n:Nat) (t:List z5h):Prop where
 ent:∀ x∈t,z6g g n x=true
 rel:∀ x∈t,zf8 m t x=true
end Go.Kz
