/-
  The layer adaptive: Prove and the reference's; plain laws.
-/
import Derived.Test.YtnjfafnflbackaaGreatKzF4z
set_option linter.unusedVariables false
set_option linter.unusedSimpArgs false
namespace Go.Kz
def sumL:List (Option Int)->Option Int
 | []=>some 0
 | x :: l=>x.bind fun a=>(sumL l).map (a + ·)
def sumV (v:List Int) (S:Nat) (h:Nat->Option Int):Option Int:=sumL ((List.range (z1z v)).map fun c=>if part v S c=0 then some 0 else h (part v S c))
def bndV (vs:List (List Int)) (S:Nat) (h:Nat->Option Int) (b:Int):Bool:=vs.all fun v=>match sumV v S h with
 | none=>false
 | some s=>decide (s≤b)
def entOK (g:List (List Int)) (n:Nat) (x:zai):Bool:=decide (0≤x.2.1) && decide (1≤x.1) && decide (x.1≤(z2y n:Int)) && decide (leafP g n x.1.toNat.testBit≤x.2.2.1) && decide (x.2.2.1≤1099511627776)
def nextB (t:List zai) (x:zai):Nat->Option Int:=fun y=>look t (y:Int) (z0g (x.2.1-1))
def relOK (m:z1m) (t:List zai) (x:zai):Bool:=!decide (0 < x.2.1) || bndV m.2.1 x.1.toNat (nextB t x) x.2.2.1
def ValB (M:List (Key×Int)):Prop:=∀ key v,lk M key=some v->0≤v∧v≤1099511627776
end Go.Kz
