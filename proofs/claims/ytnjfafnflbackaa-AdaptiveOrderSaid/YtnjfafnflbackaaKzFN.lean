/-
  The layer adaptive: the reference's partitions; plain laws.
-/
import Derived.Test.YtnjfafnflbackaaKzFM
set_option linter.unusedVariables false
set_option linter.unusedSimpArgs false
namespace Go.Kz
theorem f47_eq (N:Nat) (l:List Int) (hN:l.length < N) (hl:l.length < 4294967296):f47 N l=some (ofL l):=by
 unfold f47;refine z2s (fun x:Int×Int×List Int=>∃ (k:Nat),x.1=k∧k≤l.length∧x.2.1=((z88 [] (l.take k)).length:Int)∧x.2.2=ofL (l.take k)) (fun x=>l.length-x.1.toNat) ?_ N _
  ⟨0,rfl,by omega,by simp [z88],by simp [ofL,zee]⟩ (by simpa using hN)
 rintro ⟨i,nx,out⟩ w ⟨k,hi,hk,hnx,hout⟩ hw;simp only at hi hnx hout;subst hi;subst hnx;subst hout;simp only [zsp];have hnl:(z88 [] (l.take k)).length≤k:=by
  have:=zb4 [] (l.take k);simp at this;omega
 have hol:(ofL (l.take k)).length=k:=by simp [ofL,zbk];omega
 by_cases hlt:k < l.length
 ·have e2:decide ((k:Int) < len l)=true:=by simp [len,hlt]
  rw [e2,cond_true];have htk:l.take (k+1)=l.take k++[l[k]]:=by rw [List.take_succ_eq_append_getElem hlt]
  refine z2s (fun x:Int×Int=>∃ (j:Nat),x.1=j∧j≤k∧x.2=if l[k]∈l.take j then ((z5h l[k] (z88 [] (l.take k)):Nat):Int) else ((z88 [] (l.take k)).length:Int)) (fun x=>k-x.1.toNat) ?_ N _
   ⟨0,rfl,by omega,by simp⟩ (by simp;omega)
  rintro ⟨j,c⟩ v ⟨j',hj,hjk,hc⟩ hv;simp only at hj hc;subst hj;simp only [zso];by_cases hjlt:j' < k
  ·have e3:decide ((j':Int) < k)=true:=by simp [hjlt]
   rw [e3,cond_true,z0s (l:=l) (k:=j') (by omega),z0s hlt];simp only [Option.bind_some];have htj:l.take (j'+1)=l.take j'++[l[j']'(by omega)]:=by rw [List.take_succ_eq_append_getElem (by omega)]
   by_cases he:l[j']'(by omega)=l[k]
   ·have hget:idx (ofL (l.take k)) (j':Int)=some ((z5h l[k] (z88 [] (l.take k)):Nat):Int):=by
     rw [zqd];have:=zaa [] (l.take k) j' (by simp;omega);rw [ofL,this];congr 3;simp [he]
    simp only [he,decide_true,cond_true];rw [z0k (z3n (by rw [hol];exact hjlt)),hget];simp only [Option.bind_some];rw [z09 (by omega) (by omega)];refine hv _ ⟨j'+1,by simp,by omega,?_⟩ (by simp;omega);simp only;rw [if_pos (by rw [htj];simp [he])]
   ·simp only [he,decide_false,cond_false];rw [z09 (by omega) (by omega)];refine hv _ ⟨j'+1,by simp,by omega,?_⟩ (by simp;omega);simp only;rw [hc,htj];have:(l[k]∈l.take j'++[l[j']'(by omega)])=(l[k]∈l.take j'):=by
     simp only [List.mem_append,List.mem_singleton,eq_iff_iff];constructor
     ·rintro (h | h)
      ·exact h
      ·exact absurd h.symm he
     ·exact .inl
    simp only [this]
  ·have hjk':j'=k:=by omega
   subst hjk';have e3:decide ((j':Int) < (j':Int))=false:=by simp
   rw [e3,cond_false];by_cases hmem:l[j']∈l.take j'
   ·rw [if_pos hmem] at hc;have hmn:l[j']∈z88 [] (l.take j'):=by rw [z6x];exact .inr hmem
    have hp:=z9z hmn;have e4:decide (c=((z88 [] (l.take j')).length:Int))=false:=by rw [hc];simp;omega
    rw [e4,cond_false,z0k (by simp [z3i,hol];omega),z09 (by omega) (by omega)];refine hw _ ⟨j'+1,by simp,by omega,?_,?_⟩ (by simp;omega)
    ·have key:∀ (acc m:List Int) (x:Int),x∈z88 acc m->z88 acc (m++[x])=z88 acc m:=by
      intro acc m
      induction m generalizing acc with
      | nil=>intro x hx;simp only [List.nil_append,z88] at hx ⊢;rw [if_pos hx]
      | cons y m ih=>
       intro x hx;simp only [List.cons_append,z88] at hx ⊢;split
       ·rename_i hy;rw [if_pos hy] at hx;exact ih acc x hx
       ·rename_i hy;rw [if_neg hy] at hx;exact ih _ x hx
     simp only;rw [htk,key _ _ _ hmn]
    ·simp only;rw [htk,ofL,ofL,zdp];simp only [zee,if_pos hmn,hc]
   ·rw [if_neg hmem] at hc;have hmn:l[j']∉z88 [] (l.take j'):=by rw [z6x];simpa using hmem
    have e4:decide (c=((z88 [] (l.take j')).length:Int))=true:=by rw [hc];simp
    rw [e4,cond_true,z0k (by simp [z3i,hol];omega),z09 (by omega) (by omega),z09 (by omega) (by omega)];refine hw _ ⟨j'+1,by simp,by omega,?_,?_⟩ (by simp;omega)
    ·have key:∀ (acc m:List Int) (x:Int),x∉z88 acc m->z88 acc (m++[x])=z88 acc m++[x]:=by
      intro acc m
      induction m generalizing acc with
      | nil=>intro x hx;simp only [List.nil_append,z88] at hx ⊢;rw [if_neg hx]
      | cons y m ih=>
       intro x hx;simp only [List.cons_append,z88] at hx ⊢;split
       ·rename_i hy;rw [if_pos hy] at hx;exact ih acc x hx
       ·rename_i hy;rw [if_neg hy] at hx;exact ih _ x hx
     simp only;rw [htk,key _ _ _ hmn];simp
    ·simp only;rw [htk,ofL,ofL,zdp];simp only [zee,if_neg hmn,hc]
 ·have e2:decide ((k:Int) < len l)=false:=by simp [len];omega
  rw [e2,cond_false,List.take_of_length_le (by omega)]
def le (n:Nat) (p q:List Int):Prop:=∀ i j,i < n->j < n->p[i]? = p[j]?->q[i]? = q[j]?
theorem le_refl (n:Nat) (p:List Int):le n p p:=fun _ _ _ _ h=>h
theorem le_trans {n:Nat} {p q r:List Int} (h:le n p q) (k:le n q r):le n p r:=fun i j hi hj e=>k i j hi hj (h i j hi hj e)
theorem ofL_pat {l:List Int} {i j:Nat} (hi:i < l.length) (hj:j < l.length):(ofL l)[i]? = (ofL l)[j]?↔l[i]? = l[j]? := by
 have h1:=zaa [] l i hi;have h2:=zaa [] l j hj;rw [ofL,h1,h2,List.getElem?_eq_getElem hi,List.getElem?_eq_getElem hj];simp only [zI];constructor
 ·intro h;exact zme (l:=z88 [] l) (by rw [z6x];exact .inr (List.getElem_mem hi)) (by rw [z6x];exact .inr (List.getElem_mem hj)) (by omega)
 ·intro h;rw [h]
theorem zv5 {p:List Int}:okP p=true->∀ c,0≤c->c < top 0 p->c∈p:=by
 induction p using zb0 with
 | h0=>intro _ c h0 h1;simp [top] at h1;omega
 | h1 q x ih=>
  intro h c h0 h1;obtain ⟨a1,a2,a3⟩:=zg2.1 h;rw [z82] at h1;by_cases hx:c=x
  ·subst hx;simp
  ·have:=ih a1 c h0 (by omega);simp [this]
theorem zto {q:List Int} {n:Nat} (h:q.length=n+1):∃ q' y,q=q'++[y]∧q'.length=n:=by
 have hne:q≠[]:=by intro e;subst e;simp at h
 exact ⟨q.dropLast,q.getLast hne,(List.dropLast_concat_getLast hne).symm,by simp [h]⟩
theorem z5r {q:List Int} {y:Int} {i:Nat} (h:i < q.length):(q++[y])[i]? = q[i]? := List.getElem?_append_left h
theorem zkz {q:List Int} {y:Int} {n:Nat} (h:q.length=n):(q++[y])[n]? = some y:=by subst h;simp
theorem zq7 {p:List Int}:∀ {q:List Int},okP p=true->okP q=true->q.length=p.length->le p.length p q->le p.length q p->p=q:=by
 induction p using zb0 with
 | h0=>intro q _ _ h _ _;simp at h;exact h.symm
 | h1 p x ih=>
  intro q hp hq hl h1 h2;simp only [List.length_append,List.length_singleton] at hl h1 h2;obtain ⟨q',y,rfl,hl'⟩:=zto hl;obtain ⟨a1,a2,a3⟩:=zg2.1 hp;obtain ⟨b1,b2,b3⟩:=zg2.1 hq;have e:p=q':=by
   refine ih a1 b1 hl' ?_ ?_
   ·intro i j hi hj h;have:=h1 i j (by omega) (by omega);rw [z5r hi,z5r hj,z5r (by omega),z5r (by omega)] at this;exact this h
   ·intro i j hi hj h;have:=h2 i j (by omega) (by omega);rw [z5r hi,z5r hj,z5r (by omega),z5r (by omega)] at this;exact this h
  subst e;have key:x=y:=by
   by_cases hx:x∈p
   ·obtain ⟨i,hi,hix⟩:=List.mem_iff_getElem.1 hx;have:=h1 i p.length (by omega) (by omega);rw [z5r hi,zkz rfl,z5r hi,zkz rfl,List.getElem?_eq_getElem hi,hix] at this;simpa using this rfl
   ·by_cases hy:y∈p
    ·obtain ⟨i,hi,hiy⟩:=List.mem_iff_getElem.1 hy;have:=h2 i p.length (by omega) (by omega);rw [z5r hi,zkz rfl,z5r hi,zkz rfl,List.getElem?_eq_getElem hi,hiy] at this;simpa using (this rfl).symm
    ·have hx':¬ x < top 0 p:=fun h=>hx (zv5 a1 x a2 h)
     have hy':¬ y < top 0 p:=fun h=>hy (zv5 a1 y b2 h)
     omega
  rw [key]
def zyt (a b:List Int) (i j:Nat):Prop:=a[i]? = a[j]?∧b[i]? = b[j]?
structure IsMeet (n:Nat) (a b m:List Int):Prop where
 ok:okP m=true
 len:m.length=n
 pat:∀ i j,i < n->j < n->(m[i]? = m[j]?↔zyt a b i j)
theorem IsMeet.unique {n:Nat} {a b m k:List Int} (h:IsMeet n a b m) (g:IsMeet n a b k):m=k:=by
 refine zq7 h.ok g.ok (by rw [h.len,g.len]) ?_ ?_
 ·rw [h.len];exact fun i j hi hj e=>(g.pat i j hi hj).2 ((h.pat i j hi hj).1 e)
 ·rw [h.len];exact fun i j hi hj e=>(h.pat i j hi hj).2 ((g.pat i j hi hj).1 e)
theorem zj9 {n:Nat} {a b l:List Int} (hl:l.length=n) (h:∀ i j,i < n->j < n->(l[i]? = l[j]?↔zyt a b i j)):IsMeet n a b (ofL l):=
 ⟨zkm l,by rw [z5p,hl],fun i j hi hj=>by rw [ofL_pat (by omega) (by omega)];exact h i j hi hj⟩
theorem get_le {p:List Int} {n:Nat} (hp:okP p=true) (hl:p.length=n) {k:Nat} (hk:k < p.length):0≤p[k]∧p[k] < n:=by
 obtain ⟨b1,b2,b3⟩:=z2o hp;have:=b3 _ (List.getElem_mem hk);omega
def zipL (n:Nat) (a b:List Int):List Int:=List.zipWith (fun x y=>x*((n:Int)+1)+y) a b
theorem zr3 {n:Nat} {a b:List Int} {i:Nat} (ha:i < a.length) (hb:i < b.length):(zipL n a b)[i]? = some (a[i]*((n:Int)+1)+b[i]):=by
 simp [zipL,List.getElem?_zipWith,List.getElem?_eq_getElem ha,List.getElem?_eq_getElem hb]
theorem zq1 {n x y u v:Int} (hn:0≤n) (hy:0≤y∧y < n) (hv:0≤v∧v < n) (h:x*(n+1)+y=u*(n+1)+v):x=u∧y=v:=by
 have h1:(x*(n+1)+y) / (n+1)=x:=by rw [Int.mul_comm,Int.mul_add_ediv_left _ _ (by omega),Int.ediv_eq_zero_of_lt hy.1 (by omega)];omega
 have h2:(u*(n+1)+v) / (n+1)=u:=by rw [Int.mul_comm,Int.mul_add_ediv_left _ _ (by omega),Int.ediv_eq_zero_of_lt hv.1 (by omega)];omega
 have:x=u:=by rw [←h1,←h2,h]
 subst this;exact ⟨rfl,by omega⟩
theorem f99_eq (N:Nat) (a b:List Int) (hN:100≤N) (ha:a.length≤64) (hb:b.length≤64) :
  f99 N a b=some (if (okP a && okP b)=true then (if a.length=b.length then 0 else 2) else 1):=by
 unfold f99;rw [zsk N a (by omega) (by omega)];simp only [Option.bind_some]
 cases h1:okP a with
 | false=>rfl
 | true=>
  simp only [Bool.not_true,cond_false,zsk N b (by omega) (by omega),Option.bind_some]
  cases h2:okP b with
  | false=>rfl
  | true=>
   simp only [Bool.not_true,cond_false,Bool.and_self,if_true];by_cases hl:a.length=b.length
   ·have:decide (len a=len b)=true:=by simp [len,hl]
    rw [this,if_pos hl];rfl
   ·have:decide (len a=len b)=false:=by simp [len];omega
    simp [this,hl]
theorem chk_make {R:Type} {n:Nat} {x:Option R} (h:n≤64):chk (((decide (0≤(n:Int))) && (decide ((n:Int)≤(n:Int)))) && (decide ((n:Int)≤((z3i:Nat):Int)))) x=x:=
 z0k (by simp [show ((z3i:Nat):Int)=4294967296 from rfl];omega)
theorem zr2 {n:Nat} {a b:List Int} (hl:a.length=n) (hab:b.length=n) (ha:okP a=true) (hb:okP b=true):IsMeet n a b (ofL (zipL n a b)):=by
 refine zj9 (by simp [zipL];omega) fun i j hi hj=>?_
 have e1:a[i]? = some (a[i]'(by omega)):=List.getElem?_eq_getElem (by omega);have e2:a[j]? = some (a[j]'(by omega)):=List.getElem?_eq_getElem (by omega);have e3:b[i]? = some (b[i]'(by omega)):=List.getElem?_eq_getElem (by omega);have e4:b[j]? = some (b[j]'(by omega)):=List.getElem?_eq_getElem (by omega);rw [zr3 (by omega) (by omega),zr3 (by omega) (by omega)];unfold zyt;rw [e1,e2,e3,e4];simp only [zI];constructor
 ·exact fun h=>zq1 (by omega) (get_le hb hab (by omega)) (get_le hb hab (by omega)) h
 ·rintro ⟨h1,h2⟩;rw [h1,h2]
theorem f84_eq (N:Nat) (a b:List Int) (hN:100≤N) (hl:a.length≤64) (hab:b.length=a.length) (ha:okP a=true) (hb:okP b=true) :
  ∃ m,f84 N a b=some (m,0)∧IsMeet a.length a b m:=by
 refine ⟨ofL (zipL a.length a b),?_,zr2 rfl hab ha hb⟩;unfold f84;rw [f99_eq N a b hN hl (by omega),ha,hb];simp only [Bool.and_self,if_true,hab,Option.bind_some,decide_true,Bool.not_true,cond_false,len];rw [chk_make hl];refine z1w (fun k s=>s.length=a.length∧∀ i,i < k->∃ m:Nat,s[i]? = some (m:Int)∧m≤i∧zyt a b m i∧∀ l,l < m->¬ zyt a b l i) a.length ?_ ?_ N (by omega) _ ⟨by simp,by intro i hi;omega⟩
 ·rintro k s w hk ⟨hs,hi⟩ hw;simp only [zng];rw [z1g hk,cond_true,z0k (z3n (by omega)),z0s (l:=s) (by omega)];simp only [Option.bind_some];rw [z09 (by omega) (by omega),z09 (by omega) (by omega),z5c];refine z2s (fun x:Int×List Int=>∃ j m:Nat,x.1=(j:Int)-1∧j≤k∧x.2=s.set k (m:Int)∧j≤m∧m≤k∧zyt a b m k∧∀ l,j≤l->l < m->¬ zyt a b l k) (fun x=>(x.1+1).toNat) ?_ N _
   ⟨k,k,rfl,by omega,rfl,by omega,by omega,⟨rfl,rfl⟩,by intro l h1 h2;omega⟩ (by simp only;omega)
  rintro ⟨x,u⟩ v ⟨j,m,hx,hj,hu,hm1,hm2,hm3,hm4⟩ hv;simp only at hx hu;subst hx;subst hu;simp only [zl6]
  cases j with
  | zero=>
   have:decide ((0:Int)≤((0:Nat):Int)-1)=false:=by simp
   rw [this,cond_false];refine hw _ ⟨by simp [hs],fun i hi'=>?_⟩;by_cases he:k=i
   ·subst he;exact ⟨m,by rw [List.getElem?_set_self (by omega)],hm2,hm3,fun l hl=>hm4 l (by omega) hl⟩
   ·rw [List.getElem?_set_ne he];exact hi i (by omega)
  | succ j=>
   have e0:((j+1:Nat):Int)-1=(j:Int):=by omega
   have e1:decide ((0:Int)≤(j:Int))=true:=by simp
   rw [e0,e1,cond_true,z0s (l:=a) (k:=j) (by omega),z0s (l:=a) (k:=k) hk];simp only [Option.bind_some];have pa:a[j]? = a[k]?↔a[j]'(by omega)=a[k]:=by rw [List.getElem?_eq_getElem (by omega),List.getElem?_eq_getElem hk];simp
   have pb:b[j]? = b[k]?↔b[j]'(by omega)=b[k]'(by omega):=by rw [List.getElem?_eq_getElem (by omega),List.getElem?_eq_getElem (by omega)];simp
   have key:(cond (decide (a[j]'(by omega)=a[k])) ((idx b (j:Int)).bind fun x_4=>(idx b (k:Int)).bind fun x_5=>some (decide (x_4=x_5))) (some false))=some (decide (a[j]'(by omega)=a[k]∧b[j]'(by omega)=b[k]'(by omega))):=by
    by_cases h:a[j]'(by omega)=a[k]
    ·simp only [h,decide_true,cond_true,true_and,z0s (l:=b) (k:=j) (by omega),z0s (l:=b) (k:=k) (by omega),Option.bind_some]
    ·simp [h]
   rw [key];simp only [Option.bind_some];rw [z09 (by omega) (by omega)];by_cases hB:a[j]'(by omega)=a[k]∧b[j]'(by omega)=b[k]'(by omega)
   ·have hbt:zyt a b j k:=⟨pa.2 hB.1,pb.2 hB.2⟩;simp only [hB,decide_true,cond_true,and_self];rw [z0k (z3n (by simp;omega)),z0s (k:=k) (by simp;omega)];simp only [Option.bind_some,z5c,List.set_set];exact hv _ ⟨j,j,by simp,by omega,rfl,by omega,by omega,hbt,by intro l h1 h2;omega⟩ (by simp only;omega)
   ·have hbf:¬ zyt a b j k:=fun h=>hB ⟨pa.1 h.1,pb.1 h.2⟩
    rw [decide_eq_false hB,cond_false];refine hv _ ⟨j,m,by simp,by omega,rfl,by omega,by omega,hm3,?_⟩ (by simp only;omega);intro l h1 h2;by_cases he:l=j
    ·subst he;exact hbf
    ·exact hm4 l (by omega) h2
 ·rintro s w ⟨hs,hi⟩;simp only [zng];rw [z11,cond_false,f47_eq N s (by omega) (by omega)];simp only [Option.bind_some,zI,Prod.mk.injEq,and_true];refine IsMeet.unique (n:=a.length) (a:=a) (b:=b) (zj9 hs fun i j h1 h2=>?_) (zr2 rfl hab ha hb);obtain ⟨m,a1,a2,a3,a4⟩:=hi i h1;obtain ⟨l,b1,b2,b3,b4⟩:=hi j h2;rw [a1,b1];simp only [zI];constructor
  ·intro h;have:m=l:=by omega
   subst this;exact ⟨a3.1.symm.trans b3.1,a3.2.symm.trans b3.2⟩
  ·rintro ⟨h3,h4⟩;have c1:¬ m < l:=fun h=>b4 m h ⟨a3.1.trans h3,a3.2.trans h4⟩
   have c2:¬ l < m:=fun h=>a4 l h ⟨b3.1.trans h3.symm,b3.2.trans h4.symm⟩
   omega
end Go.Kz
