/-
  The layer adaptive: Joint, and what it is worth; plain laws.
-/
import Derived.Test.YtnjfafnflbackaaKzFG
set_option linter.unusedVariables false
set_option linter.unusedSimpArgs false
namespace Go.Kz
theorem zrf {m:z1i} (hm:z41 m=true) {q:Int} (h0:0≤q) (h1:q < (m.2.1.length:Int)):idx m.2.1 q=some (m.2.1.getD q.toNat [])∧len (m.2.1.getD q.toNat [])=m.1∧okP (m.2.1.getD q.toNat [])=true:=by
 have hM:=zhx hm;have hq:q.toNat < m.2.1.length:=by omega
 obtain ⟨e1,hv⟩:=hM.at hq;have hs:=hM.secrets;refine ⟨?_,?_,hv.ok⟩
 ·have:q=(q.toNat:Int):=by omega
  rw [this,z0s hq,e1];rfl
 ·have:=hv.len;show len (z05 m q.toNat)=m.1;simp only [len];omega
theorem zwx {R:Type} {F:(Int->Option R)->Int->Option R} {α:Type} (l:List α) (p:α->Bool) (A B:Option R)
  (step:∀ (k:Nat) (w:Int->Option R) (hk:k < l.length),F w (k:Int)=if p l[k] then w ((k:Int)+1) else B)
  (last:∀ (w:Int->Option R),l.all p=true->F w (l.length:Int)=A) (N:Nat) (hN:l.length < N):iter F N 0=if l.all p then A else B:=by
 refine zc8 (fun k=>(l.take k).all p=true) l.length ?_ ?_ N hN (by simp)
 ·intro k w hk hi hw;rw [step k w hk]
  cases hp:p l[k] with
  | true=>
   simp only [if_true]
   exact hw (by rw [z1h hk,List.all_append,hi,List.all_cons,hp];rfl)
  | false=>
   simp only [Bool.false_eq_true,if_false];have:l.all p=false:=by
    rw [List.all_eq_false];exact ⟨l[k],List.getElem_mem hk,by simp [hp]⟩
   rw [this];rfl
 ·intro w hi;rw [List.take_length] at hi;rw [last w hi,hi];rfl
theorem ziw:(n:Nat)->(k:Int)->0≤k->z40 k (List.replicate n 0)=true
 | 0,_,_=>rfl
 | n+1,k,h=>by
  rw [List.replicate_succ];simp only [z40,ziw n (max k (0+1)) (by omega),Bool.and_true,zA,decide_eq_true_eq];omega
def z5m (m:z1i) (q:Int):List Int:=m.2.1.getD q.toNat []
def zqn (m:z1i) (qs:List Int) (x:Nat):List Int:=qs.map fun q=>(z5m m q).getD x 0
def z2a (m:z1i) (qs:List Int):List Int:=ofL ((List.range m.1.toNat).map fun x=>zqn m qs x)
def zhf (m:z1i) (q:Int):Bool:=decide (0≤q) && decide (q < (m.2.1.length:Int))
theorem zwt (m:z1i) (qs:List Int) (q:Int) (x:Nat):zqn m (qs++[q]) x=zqn m qs x++[(z5m m q).getD x 0]:=by simp [zqn]
theorem zue {m:z1i} (hm:z41 m=true) {qs:List Int} {q:Int} (hq:zhf m q=true) {l:List Int} (hl:l.length=m.1.toNat)
  (hv:∀ x (hx:x < l.length),l[x]=((z2a m qs).getD x 0)*m.1+(z5m m q).getD x 0):ofL l=z2a m (qs++[q]):=by
 simp only [zhf,zA,decide_eq_true_eq] at hq;obtain ⟨v1,v2,v3⟩:=zrf hm hq.1 hq.2;obtain ⟨m1,m2,_,_⟩:=z68.1 hm;obtain ⟨t1,t2,t3⟩:=z2u v3;have hvl:(z5m m q).length=m.1.toNat:=by simp only [z5m,len] at v2 ⊢;omega
 have hcl:∀ x,x < m.1.toNat->0≤(z5m m q).getD x 0∧(z5m m q).getD x 0 < m.1:=by
  intro x hx;have hx':x < (z5m m q).length:=by omega
  have hg:(z5m m q).getD x 0=(z5m m q)[x]:=by rw [List.getD_eq_getElem?_getD,List.getElem?_eq_getElem hx'];rfl
  have:=t3 _ (List.getElem_mem hx');rw [hg];simp only [z5m] at this ⊢;simp only [len] at v2;omega
 have hjl:(z2a m qs).length=m.1.toNat:=by simp [z2a,z6i]
 unfold z2a;refine zn8 (by simp [hl]) ?_;intro i j hi hj;rw [hv i hi,hv j hj];simp only [List.getElem_map,List.getElem_range,zwt];have ki:(z2a m qs).getD i 0=(z2a m qs)[i]'(by omega):=by rw [List.getD_eq_getElem?_getD,List.getElem?_eq_getElem (by omega)];rfl
 have kj:(z2a m qs).getD j 0=(z2a m qs)[j]'(by omega):=by rw [List.getD_eq_getElem?_getD,List.getElem?_eq_getElem (by omega)];rfl
 have hs:(z2a m qs)[i]'(by omega)=(z2a m qs)[j]'(by omega)↔zqn m qs i=zqn m qs j:=by
  have:=zs3 (l:=(List.range m.1.toNat).map fun x=>zqn m qs x) (i:=i) (j:=j) (by simp;omega) (by simp;omega);simp only [List.getElem_map,List.getElem_range] at this;exact this
 rw [ki,kj];have ci:=hcl i (by omega);have cj:=hcl j (by omega);generalize (z2a m qs)[i]'(by omega)=a at hs;generalize (z2a m qs)[j]'(by omega)=b at hs;generalize (z5m m q).getD i 0=c at ci;generalize (z5m m q).getD j 0=d at cj;constructor
 ·intro h;have h1:c=d:=by
   have e1:(a*m.1+c) % m.1=c:=by rw [Int.add_comm,Int.add_mul_emod_self_right];exact Int.emod_eq_of_lt ci.1 ci.2
   have e2:(b*m.1+d) % m.1=d:=by rw [Int.add_comm,Int.add_mul_emod_self_right];exact Int.emod_eq_of_lt cj.1 cj.2
   rw [←e1,←e2,h]
  have h2:a=b:=by
   have h3:a*m.1=b*m.1:=by omega
   exact Int.eq_of_mul_eq_mul_right (by omega) h3
  rw [h1,hs.1 h2]
 ·intro h;have h1:=List.append_inj h (by simp [zqn]);have h2:c=d:=by simpa using h1.2
  rw [hs.2 h1.1,h2]
theorem f49_eq (N:Nat) (hN:400 < N) (m:z1i) (qs:List Int) (hq:qs.length≤300) :
  f49 N m qs=some (if z41 m then (if qs.all (zhf m) then (z2a m qs,0) else ([],3)) else ([],1)):=by
 unfold f49;rw [zxk N hN];simp only [Option.bind_some,zc1]
 cases hm:z41 m with
 | false=>simp
 | true=>
 obtain ⟨m1,m2,m3,m4⟩:=z68.1 hm;simp only [if_true,decide_true,Bool.not_true,cond_false];have hroom:((z3e:Nat):Int)=4294967296:=rfl;rw [zwx qs (zhf m) (some (z2a m qs,0)) (some ([],3)) ?_ ?_ N (by omega)]
 ·split <;> rfl
 ·intro k w hk;simp only [zo6];rw [z17 hk,cond_true,z0s hk];simp only [Option.bind_some];rw [z07 (by omega) (by omega)];generalize qs[k]=q;simp only [zhf];by_cases h1:q < 0
  ·have:¬ 0≤q:=by omega
   simp [h1,this]
  ·have h1':0≤q:=by omega
   by_cases h2:len m.2.1≤q
   ·have:¬ q < (m.2.1.length:Int):=by simp only [len] at h2;omega
    simp [h1,h1',h2,this]
   ·have:q < (m.2.1.length:Int):=by simp only [len] at h2;omega
    simp [h1,h1',h2,this]
 ·intro w hok;simp only [zo6];rw [z0v,cond_false];rw [z0h (by rw [hroom];simp;omega)];refine z2h (fun k o=>o=z2a m (qs.take k)) qs.length ?_ ?_ N (by omega) _ ?_
  ·intro k o w hk ho hw;subst ho;have hqk:zhf m qs[k]=true:=List.all_eq_true.1 hok _ (List.getElem_mem hk);have hqk':=hqk;simp only [zhf,zA,decide_eq_true_eq] at hqk';obtain ⟨v1,v2,v3⟩:=zrf hm hqk'.1 hqk'.2;obtain ⟨t1,t2,t3⟩:=z2u v3;have hjl:(z2a m (qs.take k)).length=m.1.toNat:=by simp [z2a,z6i]
   have hjb:=z2u (zqe ((List.range m.1.toNat).map fun x=>zqn m (qs.take k) x));have hvl:(z5m m qs[k]).length=m.1.toNat:=by simp only [z5m,len] at v2 ⊢;omega
   simp only [zgv];rw [z17 hk,cond_true,z0s hk];simp only [Option.bind_some];rw [v1];simp only [Option.bind_some];show iter (fun w_1=>zdc N (z5m m qs[k]) qs (len qs) (k:Int) (len (z5m m qs[k])) m w_1 _) N (0,z2a m (qs.take k))=_;refine z2h (fun j o=>o.length=m.1.toNat∧(∀ x (hx:x < o.length),o[x]=if x < j then ((z2a m (qs.take k)).getD x 0)*m.1+(z5m m qs[k]).getD x 0 else (z2a m (qs.take k)).getD x 0)) (z5m m qs[k]).length ?_ ?_ N (by omega) _ ?_
   ·intro j o w2 hj ho hw2;obtain ⟨hol,hov⟩:=ho;have hjo:j < o.length:=by omega
    simp only [zdc];rw [z17 hj,cond_true,z0s hj];simp only [Option.bind_some];rw [z0h (z2m hjo),z0s hjo];simp only [Option.bind_some];have hoj:=hov j hjo;simp only [Nat.lt_irrefl,if_false] at hoj;have hjj:(z2a m (qs.take k)).getD j 0=(z2a m (qs.take k))[j]'(by omega):=by rw [List.getD_eq_getElem?_getD,List.getElem?_eq_getElem (by omega)];rfl
    have hjv:=hjb.2.2 _ (List.getElem_mem (l:=z2a m (qs.take k)) (n:=j) (by omega));have hjt:=hjb.2.1;rw [z6i] at hjt;simp only [List.length_map,List.length_range] at hjt;have hvj:=t3 _ (List.getElem_mem (l:=z5m m qs[k]) (n:=j) hj);have hvg:(z5m m qs[k]).getD j 0=(z5m m qs[k])[j]:=by rw [List.getD_eq_getElem?_getD,List.getElem?_eq_getElem hj];rfl
    have hv62:(z5m m qs[k])[j]≤62:=by
     have a1:=hvj.2;have a2:((m.2.1.getD qs[k].toNat []).length:Int)=m.1:=v2;omega
    have hv0:0≤(z5m m qs[k])[j]:=hvj.1;have hmul:0≤o[j]*m.1∧o[j]*m.1≤62*62:=by
     rw [hoj,hjj];refine ⟨Int.mul_nonneg hjv.1 (by omega),Int.mul_le_mul (by omega) m2 (by omega) (by omega)⟩
    rw [z07 (n:=o[j]*m.1) (by omega) (by omega),z07 (n:=o[j]*m.1+_) (by omega) (by omega),z07 (by omega) (by omega),z5i];rw [z0h (z2m hjo)];refine hw2 _ ⟨(List.length_set ..).trans hol,fun x hx=>?_⟩;rw [List.getElem_set];by_cases hxj:j=x
    ·subst hxj;simp only [if_true,show j < j+1 from by omega];rw [hoj,hvg]
    ·have hx':x < o.length:=by simpa using hx
     have:=hov x hx';simp only [hxj,if_false];rw [this];by_cases h1:x < j
     ·have h2:x < j+1:=by omega
      simp [h1,h2]
     ·have h2:¬ x < j+1:=by omega
      simp [h1,h2]
   ·intro o w2 ho;obtain ⟨hol,hov⟩:=ho;simp only [zdc];rw [z0v,cond_false,f78_eq N _ (by omega) (by omega)];simp only [Option.bind_some];rw [z07 (by omega) (by omega)];refine hw _ ?_;rw [z1h hk];refine zue hm hqk hol (fun x hx=>?_);rw [hov x hx,if_pos (by omega)]
   ·refine ⟨hjl,fun x hx=>?_⟩;simp only [Nat.not_lt_zero,if_false];rw [List.getD_eq_getElem?_getD,List.getElem?_eq_getElem hx];rfl
  ·intro o w ho;subst ho;have hjl:(z2a m qs).length=m.1.toNat:=by simp [z2a,z6i]
   simp only [zgv];rw [z0v,cond_false,List.take_length,f78_eq N _ (by omega) (by omega)];simp only [Option.bind_some];rw [show ofL (z2a m qs)=z2a m qs from (zix _).2 (zqe _)]
  ·have h1:ofL (List.replicate m.1.toNat (0:Int))=List.replicate m.1.toNat 0:=(zix _).2 (ziw _ 0 (by omega));rw [←h1];refine zn8 (by simp) ?_;intro i j hi hj;simp [zqn]
end Go.Kz
