/-
  The layer adaptive: strategies, and what an accepted table bounds; plain laws.
-/
import Derived.Test.YtnjfafnflbackaaKzF7
set_option linter.unusedVariables false
set_option linter.unusedSimpArgs false
namespace Go.Kz
def zs8 (len i:Nat) (z:Int):Bool:=decide (z = -1) || (decide ((i:Int) < z) && decide (z < (len:Int)))
def ze0 (vs:List (List Int)) (len i:Nat) (c:z1c):Bool:=decide (0≤c.1) && decide (c.1 < (vs.length:Int)) && decide (c.2.1.length=z2f (vs.getD c.1.toNat [])) && c.2.1.all (zs8 len i)
def zyf (vs:List (List Int)) (st:List z1c):Prop:=∀ i (h:i < st.length),ze0 vs st.length i st[i]=true
structure NodeP (vs:List (List Int)) (len i:Nat) (c:z1c) (n:Nat):Prop where
 ask0:0≤c.1
 ask1:c.1.toNat < vs.length
 next:c.2.1.length=z2f (vs.getD c.1.toNat [])
 to:∀ d,d < c.2.1.length->c.2.1.getD d (-1) = -1∨((i:Int) < c.2.1.getD d (-1)∧c.2.1.getD d (-1) < (len:Int))
 mem:vs.getD c.1.toNat []∈vs
theorem zyf.node {vs:List (List Int)} {st:List z1c} (h:zyf vs st) (n:Nat) {i:Nat} (hi:i < st.length):NodeP vs st.length i st[i] n:=by
 have h1:=h i hi;simp only [ze0,zA,decide_eq_true_eq] at h1;obtain ⟨⟨⟨a,b⟩,c⟩,d⟩:=h1;have hl:st[i].1.toNat < vs.length:=by omega
 refine ⟨a,hl,c,fun e he=>?_,?_⟩
 ·have:=List.all_eq_true.1 d _ (List.getElem_mem he);simp only [zs8,Bool.or_eq_true,zA,decide_eq_true_eq] at this;rw [List.getD_eq_getElem?_getD,List.getElem?_eq_getElem he];exact this
 ·rw [List.getD_eq_getElem?_getD,List.getElem?_eq_getElem hl];exact List.getElem_mem hl
structure TableP (m:z1i) (g:List (List Int)) (n:Nat) (t:List z56):Prop where
 ent:∀ x∈t,zcg g n x=true
 rel:∀ x∈t,zq6 m t x=true
end Go.Kz
