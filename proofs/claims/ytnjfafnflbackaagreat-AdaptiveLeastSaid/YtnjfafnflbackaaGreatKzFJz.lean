/-
  The layer adaptive: the planned strategy; its table is accepted; plain laws.
-/
import Derived.Test.YtnjfafnflbackaaGreatKzFIz
set_option linter.unusedVariables false
set_option linter.unusedSimpArgs false
namespace Go.Kz
theorem zes {vs:List (List Int)} {a b i:Nat} {c:z14} (h:z4g vs a i c=true) (hab:a≤b):z4g vs b i c=true:=by
 simp only [z4g,zA,decide_eq_true_eq,List.all_eq_true] at h ⊢;refine ⟨h.1,fun z hz=>?_⟩;have:=h.2 z hz;simp only [zeu,Bool.or_eq_true,zA,decide_eq_true_eq] at this ⊢;omega
def AtL (st:List z14) (base:Nat) (L:List z14):Prop:=∀ j c,L[j]? = some c->st[base+j]? = some c
end Go.Kz
