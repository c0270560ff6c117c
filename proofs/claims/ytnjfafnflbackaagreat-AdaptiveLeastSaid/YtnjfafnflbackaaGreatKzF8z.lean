/-
  The layer adaptive: strategies, and what an accepted table bounds; plain laws.
-/
import Derived.Test.YtnjfafnflbackaaGreatKzF7z
set_option linter.unusedVariables false
set_option linter.unusedSimpArgs false
namespace Go.Kz
def z89 (vs:List (List Int)) (st:List z14):Nat->Int->Nat->List Ans
 | 0,_,_=>[]
 | k+1,at0,x=>if at0 < 0 then [] else match st[at0.toNat]? with
  | none=>[]
  | some c=>(c.1,((vs.getD c.1.toNat []).getD x 0,())) :: z89 vs st k (c.2.1.getD ((vs.getD c.1.toNat []).getD x 0).toNat (-1)) x
def zeu (len i:Nat) (z:Int):Bool:=decide (z = -1) || (decide ((i:Int) < z) && decide (z < (len:Int)))
def z4g (vs:List (List Int)) (len i:Nat) (c:z14):Bool:=decide (0≤c.1) && decide (c.1 < (vs.length:Int)) && decide (c.2.1.length=z1z (vs.getD c.1.toNat [])) && c.2.1.all (zeu len i)
def zd8 (vs:List (List Int)) (st:List z14):Prop:=∀ i (h:i < st.length),z4g vs st.length i st[i]=true
structure NodeP (vs:List (List Int)) (len i:Nat) (c:z14) (n:Nat):Prop where
 ask0:0≤c.1
 ask1:c.1.toNat < vs.length
 next:c.2.1.length=z1z (vs.getD c.1.toNat [])
 to:∀ d,d < c.2.1.length->c.2.1.getD d (-1) = -1∨((i:Int) < c.2.1.getD d (-1)∧c.2.1.getD d (-1) < (len:Int))
 mem:vs.getD c.1.toNat []∈vs
theorem zd8.node {vs:List (List Int)} {st:List z14} (h:zd8 vs st) (n:Nat) {i:Nat} (hi:i < st.length):NodeP vs st.length i st[i] n:=by
 have h1:=h i hi;simp only [z4g,zA,decide_eq_true_eq] at h1;obtain ⟨⟨⟨a,b⟩,c⟩,d⟩:=h1;have hl:st[i].1.toNat < vs.length:=by omega
 refine ⟨a,hl,c,fun e he=>?_,?_⟩
 ·have:=List.all_eq_true.1 d _ (List.getElem_mem he);simp only [zeu,Bool.or_eq_true,zA,decide_eq_true_eq] at this;rw [List.getD_eq_getElem?_getD,List.getElem?_eq_getElem he];exact this
 ·rw [List.getD_eq_getElem?_getD,List.getElem?_eq_getElem hl];exact List.getElem_mem hl
structure TableP (m:z1m) (g:List (List Int)) (n:Nat) (t:List zai):Prop where
 ent:∀ x∈t,entOK g n x=true
 rel:∀ x∈t,relOK m t x=true
end Go.Kz
