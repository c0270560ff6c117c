/-
  The layer adaptive: Joint, and what it is worth; plain laws.
-/
import Derived.Test.YtnjfafnflbackaaGreatKzFGz
set_option linter.unusedVariables false
set_option linter.unusedSimpArgs false
namespace Go.Kz
theorem zou {m:z1m} (hm:z4a m=true) {q:Int} (h0:0≤q) (h1:q < (m.2.1.length:Int)):idx m.2.1 q=some (m.2.1.getD q.toNat [])∧len (m.2.1.getD q.toNat [])=m.1∧okP (m.2.1.getD q.toNat [])=true:=by
 have hM:=ztk hm;have hq:q.toNat < m.2.1.length:=by omega
 obtain ⟨e1,hv⟩:=hM.at hq;have hs:=hM.secrets;refine ⟨?_,?_,hv.ok⟩
 ·have:q=(q.toNat:Int):=by omega
  rw [this,z0s hq,e1];rfl
 ·have:=hv.len;show len (z07 m q.toNat)=m.1;simp only [len];omega
theorem ztv {R:Type} {F:(Int->Option R)->Int->Option R} {α:Type} (l:List α) (p:α->Bool) (A B:Option R)
  (step:∀ (k:Nat) (w:Int->Option R) (hk:k < l.length),F w (k:Int)=if p l[k] then w ((k:Int)+1) else B)
  (last:∀ (w:Int->Option R),l.all p=true->F w (l.length:Int)=A) (N:Nat) (hN:l.length < N):iter F N 0=if l.all p then A else B:=by
 refine zb6 (fun k=>(l.take k).all p=true) l.length ?_ ?_ N hN (by simp)
 ·intro k w hk hi hw;rw [step k w hk]
  cases hp:p l[k] with
  | true=>
   simp only [if_true]
   exact hw (by rw [z27 hk,List.all_append,hi,List.all_cons,hp];rfl)
  | false=>
   simp only [Bool.false_eq_true,if_false];have:l.all p=false:=by
    rw [List.all_eq_false];exact ⟨l[k],List.getElem_mem hk,by simp [hp]⟩
   rw [this];rfl
 ·intro w hi;rw [List.take_length] at hi;rw [last w hi,hi];rfl
theorem zby:(n:Nat)->(k:Int)->0≤k->z49 k (List.replicate n 0)=true
 | 0,_,_=>rfl
 | n+1,k,h=>by
  rw [List.replicate_succ];simp only [z49,zby n (max k (0+1)) (by omega),Bool.and_true,zA,decide_eq_true_eq];omega
def z3z (m:z1m) (q:Int):List Int:=m.2.1.getD q.toNat []
def ziz (m:z1m) (qs:List Int) (x:Nat):List Int:=qs.map fun q=>(z3z m q).getD x 0
def z1l (m:z1m) (qs:List Int):List Int:=ofL ((List.range m.1.toNat).map fun x=>ziz m qs x)
def zck (m:z1m) (q:Int):Bool:=decide (0≤q) && decide (q < (m.2.1.length:Int))
theorem zf3 (m:z1m) (qs:List Int) (q:Int) (x:Nat):ziz m (qs++[q]) x=ziz m qs x++[(z3z m q).getD x 0]:=by simp [ziz]
theorem zrl {m:z1m} (hm:z4a m=true) {qs:List Int} {q:Int} (hq:zck m q=true) {l:List Int} (hl:l.length=m.1.toNat)
  (hv:∀ x (hx:x < l.length),l[x]=((z1l m qs).getD x 0)*m.1+(z3z m q).getD x 0):ofL l=z1l m (qs++[q]):=by
 simp only [zck,zA,decide_eq_true_eq] at hq;obtain ⟨v1,v2,v3⟩:=zou hm hq.1 hq.2;obtain ⟨m1,m2,_,_⟩:=zc5.1 hm;obtain ⟨t1,t2,t3⟩:=z3e v3;have hvl:(z3z m q).length=m.1.toNat:=by simp only [z3z,len] at v2 ⊢;omega
 have hcl:∀ x,x < m.1.toNat->0≤(z3z m q).getD x 0∧(z3z m q).getD x 0 < m.1:=by
  intro x hx;have hx':x < (z3z m q).length:=by omega
  have hg:(z3z m q).getD x 0=(z3z m q)[x]:=by rw [List.getD_eq_getElem?_getD,List.getElem?_eq_getElem hx'];rfl
  have:=t3 _ (List.getElem_mem hx');rw [hg];simp only [z3z] at this ⊢;simp only [len] at v2;omega
 have hjl:(z1l m qs).length=m.1.toNat:=by simp [z1l,z57]
 unfold z1l;refine z8e (by simp [hl]) ?_;intro i j hi hj;rw [hv i hi,hv j hj];simp only [List.getElem_map,List.getElem_range,zf3];have ki:(z1l m qs).getD i 0=(z1l m qs)[i]'(by omega):=by rw [List.getD_eq_getElem?_getD,List.getElem?_eq_getElem (by omega)];rfl
 have kj:(z1l m qs).getD j 0=(z1l m qs)[j]'(by omega):=by rw [List.getD_eq_getElem?_getD,List.getElem?_eq_getElem (by omega)];rfl
 have hs:(z1l m qs)[i]'(by omega)=(z1l m qs)[j]'(by omega)↔ziz m qs i=ziz m qs j:=by
  have:=zpb (l:=(List.range m.1.toNat).map fun x=>ziz m qs x) (i:=i) (j:=j) (by simp;omega) (by simp;omega);simp only [List.getElem_map,List.getElem_range] at this;exact this
 rw [ki,kj];have ci:=hcl i (by omega);have cj:=hcl j (by omega);generalize (z1l m qs)[i]'(by omega)=a at hs;generalize (z1l m qs)[j]'(by omega)=b at hs;generalize (z3z m q).getD i 0=c at ci;generalize (z3z m q).getD j 0=d at cj;constructor
 ·intro h;have h1:c=d:=by
   have e1:(a*m.1+c) % m.1=c:=by rw [Int.add_comm,Int.add_mul_emod_self_right];exact Int.emod_eq_of_lt ci.1 ci.2
   have e2:(b*m.1+d) % m.1=d:=by rw [Int.add_comm,Int.add_mul_emod_self_right];exact Int.emod_eq_of_lt cj.1 cj.2
   rw [←e1,←e2,h]
  have h2:a=b:=by
   have h3:a*m.1=b*m.1:=by omega
   exact Int.eq_of_mul_eq_mul_right (by omega) h3
  rw [h1,hs.1 h2]
 ·intro h;have h1:=List.append_inj h (by simp [ziz]);have h2:c=d:=by simpa using h1.2
  rw [hs.2 h1.1,h2]
theorem f44_eq (N:Nat) (hN:400 < N) (m:z1m) (qs:List Int) (hq:qs.length≤300) :
  f44 N m qs=some (if z4a m then (if qs.all (zck m) then (z1l m qs,0) else ([],3)) else ([],1)):=by
 unfold f44;rw [zut N hN];simp only [Option.bind_some,zb2]
 cases hm:z4a m with
 | false=>simp
 | true=>
 obtain ⟨m1,m2,m3,m4⟩:=zc5.1 hm;simp only [if_true,decide_true,Bool.not_true,cond_false];have hroom:((z31:Nat):Int)=4294967296:=rfl;rw [ztv qs (zck m) (some (z1l m qs,0)) (some ([],3)) ?_ ?_ N (by omega)]
 ·split <;> rfl
 ·intro k w hk;simp only [zlh];rw [z1p hk,cond_true,z0s hk];simp only [Option.bind_some];rw [z0c (by omega) (by omega)];generalize qs[k]=q;simp only [zck];by_cases h1:q < 0
  ·have:¬ 0≤q:=by omega
   simp [h1,this]
  ·have h1':0≤q:=by omega
   by_cases h2:len m.2.1≤q
   ·have:¬ q < (m.2.1.length:Int):=by simp only [len] at h2;omega
    simp [h1,h1',h2,this]
   ·have:q < (m.2.1.length:Int):=by simp only [len] at h2;omega
    simp [h1,h1',h2,this]
 ·intro w hok;simp only [zlh];rw [z1e,cond_false];rw [z0x (by rw [hroom];simp;omega)];refine z2x (fun k o=>o=z1l m (qs.take k)) qs.length ?_ ?_ N (by omega) _ ?_
  ·intro k o w hk ho hw;subst ho;have hqk:zck m qs[k]=true:=List.all_eq_true.1 hok _ (List.getElem_mem hk);have hqk':=hqk;simp only [zck,zA,decide_eq_true_eq] at hqk';obtain ⟨v1,v2,v3⟩:=zou hm hqk'.1 hqk'.2;obtain ⟨t1,t2,t3⟩:=z3e v3;have hjl:(z1l m (qs.take k)).length=m.1.toNat:=by simp [z1l,z57]
   have hjb:=z3e (zio ((List.range m.1.toNat).map fun x=>ziz m (qs.take k) x));have hvl:(z3z m qs[k]).length=m.1.toNat:=by simp only [z3z,len] at v2 ⊢;omega
   simp only [zff];rw [z1p hk,cond_true,z0s hk];simp only [Option.bind_some];rw [v1];simp only [Option.bind_some];show iter (fun w_1=>zcc N (z3z m qs[k]) qs (len qs) (k:Int) (len (z3z m qs[k])) m w_1 _) N (0,z1l m (qs.take k))=_;refine z2x (fun j o=>o.length=m.1.toNat∧(∀ x (hx:x < o.length),o[x]=if x < j then ((z1l m (qs.take k)).getD x 0)*m.1+(z3z m qs[k]).getD x 0 else (z1l m (qs.take k)).getD x 0)) (z3z m qs[k]).length ?_ ?_ N (by omega) _ ?_
   ·intro j o w2 hj ho hw2;obtain ⟨hol,hov⟩:=ho;have hjo:j < o.length:=by omega
    simp only [zcc];rw [z1p hj,cond_true,z0s hj];simp only [Option.bind_some];rw [z0x (z5b hjo),z0s hjo];simp only [Option.bind_some];have hoj:=hov j hjo;simp only [Nat.lt_irrefl,if_false] at hoj;have hjj:(z1l m (qs.take k)).getD j 0=(z1l m (qs.take k))[j]'(by omega):=by rw [List.getD_eq_getElem?_getD,List.getElem?_eq_getElem (by omega)];rfl
    have hjv:=hjb.2.2 _ (List.getElem_mem (l:=z1l m (qs.take k)) (n:=j) (by omega));have hjt:=hjb.2.1;rw [z57] at hjt;simp only [List.length_map,List.length_range] at hjt;have hvj:=t3 _ (List.getElem_mem (l:=z3z m qs[k]) (n:=j) hj);have hvg:(z3z m qs[k]).getD j 0=(z3z m qs[k])[j]:=by rw [List.getD_eq_getElem?_getD,List.getElem?_eq_getElem hj];rfl
    have hv62:(z3z m qs[k])[j]≤62:=by
     have a1:=hvj.2;have a2:((m.2.1.getD qs[k].toNat []).length:Int)=m.1:=v2;omega
    have hv0:0≤(z3z m qs[k])[j]:=hvj.1;have hmul:0≤o[j]*m.1∧o[j]*m.1≤62*62:=by
     rw [hoj,hjj];refine ⟨Int.mul_nonneg hjv.1 (by omega),Int.mul_le_mul (by omega) m2 (by omega) (by omega)⟩
    rw [z0c (n:=o[j]*m.1) (by omega) (by omega),z0c (n:=o[j]*m.1+_) (by omega) (by omega),z0c (by omega) (by omega),z92];rw [z0x (z5b hjo)];refine hw2 _ ⟨(List.length_set ..).trans hol,fun x hx=>?_⟩;rw [List.getElem_set];by_cases hxj:j=x
    ·subst hxj;simp only [if_true,show j < j+1 from by omega];rw [hoj,hvg]
    ·have hx':x < o.length:=by simpa using hx
     have:=hov x hx';simp only [hxj,if_false];rw [this];by_cases h1:x < j
     ·have h2:x < j+1:=by omega
      simp [h1,h2]
     ·have h2:¬ x < j+1:=by omega
      simp [h1,h2]
   ·intro o w2 ho;obtain ⟨hol,hov⟩:=ho;simp only [zcc];rw [z1e,cond_false,zza N _ (by omega) (by omega)];simp only [Option.bind_some];rw [z0c (by omega) (by omega)];refine hw _ ?_;rw [z27 hk];refine zrl hm hqk hol (fun x hx=>?_);rw [hov x hx,if_pos (by omega)]
   ·refine ⟨hjl,fun x hx=>?_⟩;simp only [Nat.not_lt_zero,if_false];rw [List.getD_eq_getElem?_getD,List.getElem?_eq_getElem hx];rfl
  ·intro o w ho;subst ho;have hjl:(z1l m qs).length=m.1.toNat:=by simp [z1l,z57]
   simp only [zff];rw [z1e,cond_false,List.take_length,zza N _ (by omega) (by omega)];simp only [Option.bind_some];rw [show ofL (z1l m qs)=z1l m qs from (zc0 _).2 (zio _)]
  ·have h1:ofL (List.replicate m.1.toNat (0:Int))=List.replicate m.1.toNat 0:=(zc0 _).2 (zby _ 0 (by omega));rw [←h1];refine z8e (by simp) ?_;intro i j hi hj;simp [ziz]
end Go.Kz
