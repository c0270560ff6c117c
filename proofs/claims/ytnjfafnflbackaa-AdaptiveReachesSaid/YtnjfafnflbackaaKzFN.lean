/-
  The layer adaptive: the reference's partitions; plain laws.
-/
import Derived.Test.YtnjfafnflbackaaKzFM
set_option linter.unusedVariables false
set_option linter.unusedSimpArgs false
namespace Go.Kz
theorem f47_eq (N:Nat) (l:List Int) (hN:l.length < N) (hl:l.length < 4294967296):f47 N l=some (ofL l):=by
 unfold f47;refine z2v (fun x:Int×Int×List Int=>∃ (k:Nat),x.1=k∧k≤l.length∧x.2.1=((z8s [] (l.take k)).length:Int)∧x.2.2=ofL (l.take k)) (fun x=>l.length-x.1.toNat) ?_ N _
  ⟨0,rfl,by omega,by simp [z8s],by simp [ofL,zec]⟩ (by simpa using hN)
 rintro ⟨i,nx,out⟩ w ⟨k,hi,hk,hnx,hout⟩ hw;simp only at hi hnx hout;subst hi;subst hnx;subst hout;simp only [zt4];have hnl:(z8s [] (l.take k)).length≤k:=by
  have:=zb0 [] (l.take k);simp at this;omega
 have hol:(ofL (l.take k)).length=k:=by simp [ofL,zbg];omega
 by_cases hlt:k < l.length
 ·have e2:decide ((k:Int) < len l)=true:=by simp [len,hlt]
  rw [e2,cond_true];have htk:l.take (k+1)=l.take k++[l[k]]:=by rw [List.take_succ_eq_append_getElem hlt]
  refine z2v (fun x:Int×Int=>∃ (j:Nat),x.1=j∧j≤k∧x.2=if l[k]∈l.take j then ((z5i l[k] (z8s [] (l.take k)):Nat):Int) else ((z8s [] (l.take k)).length:Int)) (fun x=>k-x.1.toNat) ?_ N _
   ⟨0,rfl,by omega,by simp⟩ (by simp;omega)
  rintro ⟨j,c⟩ v ⟨j',hj,hjk,hc⟩ hv;simp only at hj hc;subst hj;simp only [zt3];by_cases hjlt:j' < k
  ·have e3:decide ((j':Int) < k)=true:=by simp [hjlt]
   rw [e3,cond_true,z0t (l:=l) (k:=j') (by omega),z0t hlt];simp only [Option.bind_some];have htj:l.take (j'+1)=l.take j'++[l[j']'(by omega)]:=by rw [List.take_succ_eq_append_getElem (by omega)]
   by_cases he:l[j']'(by omega)=l[k]
   ·have hget:idx (ofL (l.take k)) (j':Int)=some ((z5i l[k] (z8s [] (l.take k)):Nat):Int):=by
     rw [zqs];have:=zf8 [] (l.take k) j' (by simp;omega);rw [ofL,this];congr 3;simp [he]
    simp only [he,decide_true,cond_true];rw [z0m (z3m (by rw [hol];exact hjlt)),hget];simp only [Option.bind_some];rw [z09 (by omega) (by omega)];refine hv _ ⟨j'+1,by simp,by omega,?_⟩ (by simp;omega);simp only;rw [if_pos (by rw [htj];simp [he])]
   ·simp only [he,decide_false,cond_false];rw [z09 (by omega) (by omega)];refine hv _ ⟨j'+1,by simp,by omega,?_⟩ (by simp;omega);simp only;rw [hc,htj];have:(l[k]∈l.take j'++[l[j']'(by omega)])=(l[k]∈l.take j'):=by
     simp only [List.mem_append,List.mem_singleton,eq_iff_iff];constructor
     ·rintro (h | h)
      ·exact h
      ·exact absurd h.symm he
     ·exact .inl
    simp only [this]
  ·have hjk':j'=k:=by omega
   subst hjk';have e3:decide ((j':Int) < (j':Int))=false:=by simp
   rw [e3,cond_false];by_cases hmem:l[j']∈l.take j'
   ·rw [if_pos hmem] at hc;have hmn:l[j']∈z8s [] (l.take j'):=by rw [za1];exact .inr hmem
    have hp:=za0 hmn;have e4:decide (c=((z8s [] (l.take j')).length:Int))=false:=by rw [hc];simp;omega
    rw [e4,cond_false,z0m (by simp [z3k,hol];omega),z09 (by omega) (by omega)];refine hw _ ⟨j'+1,by simp,by omega,?_,?_⟩ (by simp;omega)
    ·have key:∀ (acc m:List Int) (x:Int),x∈z8s acc m->z8s acc (m++[x])=z8s acc m:=by
      intro acc m
      induction m generalizing acc with
      | nil=>intro x hx;simp only [List.nil_append,z8s] at hx ⊢;rw [if_pos hx]
      | cons y m ih=>
       intro x hx;simp only [List.cons_append,z8s] at hx ⊢;split
       ·rename_i hy;rw [if_pos hy] at hx;exact ih acc x hx
       ·rename_i hy;rw [if_neg hy] at hx;exact ih _ x hx
     simp only;rw [htk,key _ _ _ hmn]
    ·simp only;rw [htk,ofL,ofL,zdl];simp only [zec,if_pos hmn,hc]
   ·rw [if_neg hmem] at hc;have hmn:l[j']∉z8s [] (l.take j'):=by rw [za1];simpa using hmem
    have e4:decide (c=((z8s [] (l.take j')).length:Int))=true:=by rw [hc];simp
    rw [e4,cond_true,z0m (by simp [z3k,hol];omega),z09 (by omega) (by omega),z09 (by omega) (by omega)];refine hw _ ⟨j'+1,by simp,by omega,?_,?_⟩ (by simp;omega)
    ·have key:∀ (acc m:List Int) (x:Int),x∉z8s acc m->z8s acc (m++[x])=z8s acc m++[x]:=by
      intro acc m
      induction m generalizing acc with
      | nil=>intro x hx;simp only [List.nil_append,z8s] at hx ⊢;rw [if_neg hx]
      | cons y m ih=>
       intro x hx;simp only [List.cons_append,z8s] at hx ⊢;split
       ·rename_i hy;rw [if_pos hy] at hx;exact ih acc x hx
       ·rename_i hy;rw [if_neg hy] at hx;exact ih _ x hx
     simp only;rw [htk,key _ _ _ hmn];simp
    ·simp only;rw [htk,ofL,ofL,zdl];simp only [zec,if_neg hmn,hc]
 ·have e2:decide ((k:Int) < len l)=false:=by simp [len];omega
  rw [e2,cond_false,List.take_of_length_le (by omega)]
def le (n:Nat) (p q:List Int):Prop:=∀ i j,i < n->j < n->p[i]? = p[j]?->q[i]? = q[j]?
theorem le_trans {n:Nat} {p q r:List Int} (h:le n p q) (k:le n q r):le n p r:=fun i j hi hj e=>k i j hi hj (h i j hi hj e)
def Both (a b:List Int) (i j:Nat):Prop:=a[i]? = a[j]?∧b[i]? = b[j]?
structure IsMeet (n:Nat) (a b m:List Int):Prop where
 ok:okP m=true
 len:m.length=n
 pat:∀ i j,i < n->j < n->(m[i]? = m[j]?↔Both a b i j)
end Go.Kz
