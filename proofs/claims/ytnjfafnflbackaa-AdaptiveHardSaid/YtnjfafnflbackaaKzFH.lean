/-
  The layer adaptive: Joint, and what it is worth; plain laws.
-/
import Derived.Test.YtnjfafnflbackaaKzFG
set_option linter.unusedVariables false
set_option linter.unusedSimpArgs false
namespace Go.Kz
theorem zrw {m:z1n} (hm:z3g m=true) {q:Int} (h0:0≤q) (h1:q < (m.2.1.length:Int)):idx m.2.1 q=some (m.2.1.getD q.toNat [])∧len (m.2.1.getD q.toNat [])=m.1∧okP (m.2.1.getD q.toNat [])=true:=by
 have hM:=zeu hm;have hq:q.toNat < m.2.1.length:=by omega
 obtain ⟨e1,hv⟩:=hM.at hq;have hs:=hM.secrets;refine ⟨?_,?_,hv.ok⟩
 ·have:q=(q.toNat:Int):=by omega
  rw [this,z0k hq,e1];rfl
 ·have:=hv.len;show len (z0b m q.toNat)=m.1;simp only [len];omega
theorem zxl {R:Type} {F:(Int->Option R)->Int->Option R} {α:Type} (l:List α) (p:α->Bool) (A B:Option R)
  (step:∀ (k:Nat) (w:Int->Option R) (hk:k < l.length),F w (k:Int)=if p l[k] then w ((k:Int)+1) else B)
  (last:∀ (w:Int->Option R),l.all p=true->F w (l.length:Int)=A) (N:Nat) (hN:l.length < N):iter F N 0=if l.all p then A else B:=by
 refine zgr (fun k=>(l.take k).all p=true) l.length ?_ ?_ N hN (by simp)
 ·intro k w hk hi hw;rw [step k w hk]
  cases hp:p l[k] with
  | true=>
   simp only [if_true]
   exact hw (by rw [z1k hk,List.all_append,hi,List.all_cons,hp];rfl)
  | false=>
   simp only [Bool.false_eq_true,if_false];have:l.all p=false:=by
    rw [List.all_eq_false];exact ⟨l[k],List.getElem_mem hk,by simp [hp]⟩
   rw [this];rfl
 ·intro w hi;rw [List.take_length] at hi;rw [last w hi,hi];rfl
theorem zdc:(n:Nat)->(k:Int)->0≤k->z40 k (List.replicate n 0)=true
 | 0,_,_=>rfl
 | n+1,k,h=>by
  rw [List.replicate_succ];simp only [z40,zdc n (max k (0+1)) (by omega),Bool.and_true,zA,decide_eq_true_eq];omega
def z4i (m:z1n) (q:Int):List Int:=m.2.1.getD q.toNat []
def zle (m:z1n) (qs:List Int) (x:Nat):List Int:=qs.map fun q=>(z4i m q).getD x 0
def z1i (m:z1n) (qs:List Int):List Int:=ofL ((List.range m.1.toNat).map fun x=>zle m qs x)
def z9m (m:z1n) (q:Int):Bool:=decide (0≤q) && decide (q < (m.2.1.length:Int))
theorem zgo (m:z1n) (qs:List Int) (q:Int) (x:Nat):zle m (qs++[q]) x=zle m qs x++[(z4i m q).getD x 0]:=by simp [zle]
theorem zv2 {m:z1n} (hm:z3g m=true) {qs:List Int} {q:Int} (hq:z9m m q=true) {l:List Int} (hl:l.length=m.1.toNat)
  (hv:∀ x (hx:x < l.length),l[x]=((z1i m qs).getD x 0)*m.1+(z4i m q).getD x 0):ofL l=z1i m (qs++[q]):=by
 simp only [z9m,zA,decide_eq_true_eq] at hq;obtain ⟨v1,v2,v3⟩:=zrw hm hq.1 hq.2;obtain ⟨m1,m2,_,_⟩:=z7o.1 hm;obtain ⟨t1,t2,t3⟩:=z2r v3;have hvl:(z4i m q).length=m.1.toNat:=by simp only [z4i,len] at v2 ⊢;omega
 have hcl:∀ x,x < m.1.toNat->0≤(z4i m q).getD x 0∧(z4i m q).getD x 0 < m.1:=by
  intro x hx;have hx':x < (z4i m q).length:=by omega
  have hg:(z4i m q).getD x 0=(z4i m q)[x]:=by rw [List.getD_eq_getElem?_getD,List.getElem?_eq_getElem hx'];rfl
  have:=t3 _ (List.getElem_mem hx');rw [hg];simp only [z4i] at this ⊢;simp only [len] at v2;omega
 have hjl:(z1i m qs).length=m.1.toNat:=by simp [z1i,z5o]
 unfold z1i;refine zc9 (by simp [hl]) ?_;intro i j hi hj;rw [hv i hi,hv j hj];simp only [List.getElem_map,List.getElem_range,zgo];have ki:(z1i m qs).getD i 0=(z1i m qs)[i]'(by omega):=by rw [List.getD_eq_getElem?_getD,List.getElem?_eq_getElem (by omega)];rfl
 have kj:(z1i m qs).getD j 0=(z1i m qs)[j]'(by omega):=by rw [List.getD_eq_getElem?_getD,List.getElem?_eq_getElem (by omega)];rfl
 have hs:(z1i m qs)[i]'(by omega)=(z1i m qs)[j]'(by omega)↔zle m qs i=zle m qs j:=by
  have:=zsn (l:=(List.range m.1.toNat).map fun x=>zle m qs x) (i:=i) (j:=j) (by simp;omega) (by simp;omega);simp only [List.getElem_map,List.getElem_range] at this;exact this
 rw [ki,kj];have ci:=hcl i (by omega);have cj:=hcl j (by omega);generalize (z1i m qs)[i]'(by omega)=a at hs;generalize (z1i m qs)[j]'(by omega)=b at hs;generalize (z4i m q).getD i 0=c at ci;generalize (z4i m q).getD j 0=d at cj;constructor
 ·intro h;have h1:c=d:=by
   have e1:(a*m.1+c) % m.1=c:=by rw [Int.add_comm,Int.add_mul_emod_self_right];exact Int.emod_eq_of_lt ci.1 ci.2
   have e2:(b*m.1+d) % m.1=d:=by rw [Int.add_comm,Int.add_mul_emod_self_right];exact Int.emod_eq_of_lt cj.1 cj.2
   rw [←e1,←e2,h]
  have h2:a=b:=by
   have h3:a*m.1=b*m.1:=by omega
   exact Int.eq_of_mul_eq_mul_right (by omega) h3
  rw [h1,hs.1 h2]
 ·intro h;have h1:=List.append_inj h (by simp [zle]);have h2:c=d:=by simpa using h1.2
  rw [hs.2 h1.1,h2]
theorem f49_eq (N:Nat) (hN:400 < N) (m:z1n) (qs:List Int) (hq:qs.length≤300) :
  f49 N m qs=some (if z3g m then (if qs.all (z9m m) then (z1i m qs,0) else ([],3)) else ([],1)):=by
 unfold f49;rw [ztf N hN];simp only [Option.bind_some,za3]
 cases hm:z3g m with
 | false=>simp
 | true=>
 obtain ⟨m1,m2,m3,m4⟩:=z7o.1 hm;simp only [if_true,decide_true,Bool.not_true,cond_false];have hroom:((z38:Nat):Int)=4294967296:=rfl;rw [zxl qs (z9m m) (some (z1i m qs,0)) (some ([],3)) ?_ ?_ N (by omega)]
 ·split <;> rfl
 ·intro k w hk;simp only [zom];rw [z12 hk,cond_true,z0k hk];simp only [Option.bind_some];rw [z06 (by omega) (by omega)];generalize qs[k]=q;simp only [z9m];by_cases h1:q < 0
  ·have:¬ 0≤q:=by omega
   simp [h1,this]
  ·have h1':0≤q:=by omega
   by_cases h2:len m.2.1≤q
   ·have:¬ q < (m.2.1.length:Int):=by simp only [len] at h2;omega
    simp [h1,h1',h2,this]
   ·have:q < (m.2.1.length:Int):=by simp only [len] at h2;omega
    simp [h1,h1',h2,this]
 ·intro w hok;simp only [zom];rw [z0u,cond_false];rw [z0l (by rw [hroom];simp;omega)];refine z1r (fun k o=>o=z1i m (qs.take k)) qs.length ?_ ?_ N (by omega) _ ?_
  ·intro k o w hk ho hw;subst ho;have hqk:z9m m qs[k]=true:=List.all_eq_true.1 hok _ (List.getElem_mem hk);have hqk':=hqk;simp only [z9m,zA,decide_eq_true_eq] at hqk';obtain ⟨v1,v2,v3⟩:=zrw hm hqk'.1 hqk'.2;obtain ⟨t1,t2,t3⟩:=z2r v3;have hjl:(z1i m (qs.take k)).length=m.1.toNat:=by simp [z1i,z5o]
   have hjb:=z2r (zl4 ((List.range m.1.toNat).map fun x=>zle m (qs.take k) x));have hvl:(z4i m qs[k]).length=m.1.toNat:=by simp only [z4i,len] at v2 ⊢;omega
   simp only [zhb];rw [z12 hk,cond_true,z0k hk];simp only [Option.bind_some];rw [v1];simp only [Option.bind_some];show iter (fun w_1=>zdn N (z4i m qs[k]) qs (len qs) (k:Int) (len (z4i m qs[k])) m w_1 _) N (0,z1i m (qs.take k))=_;refine z1r (fun j o=>o.length=m.1.toNat∧(∀ x (hx:x < o.length),o[x]=if x < j then ((z1i m (qs.take k)).getD x 0)*m.1+(z4i m qs[k]).getD x 0 else (z1i m (qs.take k)).getD x 0)) (z4i m qs[k]).length ?_ ?_ N (by omega) _ ?_
   ·intro j o w2 hj ho hw2;obtain ⟨hol,hov⟩:=ho;have hjo:j < o.length:=by omega
    simp only [zdn];rw [z12 hj,cond_true,z0k hj];simp only [Option.bind_some];rw [z0l (z33 hjo),z0k hjo];simp only [Option.bind_some];have hoj:=hov j hjo;simp only [Nat.lt_irrefl,if_false] at hoj;have hjj:(z1i m (qs.take k)).getD j 0=(z1i m (qs.take k))[j]'(by omega):=by rw [List.getD_eq_getElem?_getD,List.getElem?_eq_getElem (by omega)];rfl
    have hjv:=hjb.2.2 _ (List.getElem_mem (l:=z1i m (qs.take k)) (n:=j) (by omega));have hjt:=hjb.2.1;rw [z5o] at hjt;simp only [List.length_map,List.length_range] at hjt;have hvj:=t3 _ (List.getElem_mem (l:=z4i m qs[k]) (n:=j) hj);have hvg:(z4i m qs[k]).getD j 0=(z4i m qs[k])[j]:=by rw [List.getD_eq_getElem?_getD,List.getElem?_eq_getElem hj];rfl
    have hv62:(z4i m qs[k])[j]≤62:=by
     have a1:=hvj.2;have a2:((m.2.1.getD qs[k].toNat []).length:Int)=m.1:=v2;omega
    have hv0:0≤(z4i m qs[k])[j]:=hvj.1;have hmul:0≤o[j]*m.1∧o[j]*m.1≤62*62:=by
     rw [hoj,hjj];refine ⟨Int.mul_nonneg hjv.1 (by omega),Int.mul_le_mul (by omega) m2 (by omega) (by omega)⟩
    rw [z06 (n:=o[j]*m.1) (by omega) (by omega),z06 (n:=o[j]*m.1+_) (by omega) (by omega),z06 (by omega) (by omega),z5c];rw [z0l (z33 hjo)];refine hw2 _ ⟨(List.length_set ..).trans hol,fun x hx=>?_⟩;rw [List.getElem_set];by_cases hxj:j=x
    ·subst hxj;simp only [if_true,show j < j+1 from by omega];rw [hoj,hvg]
    ·have hx':x < o.length:=by simpa using hx
     have:=hov x hx';simp only [hxj,if_false];rw [this];by_cases h1:x < j
     ·have h2:x < j+1:=by omega
      simp [h1,h2]
     ·have h2:¬ x < j+1:=by omega
      simp [h1,h2]
   ·intro o w2 ho;obtain ⟨hol,hov⟩:=ho;simp only [zdn];rw [z0u,cond_false,f78_eq N _ (by omega) (by omega)];simp only [Option.bind_some];rw [z06 (by omega) (by omega)];refine hw _ ?_;rw [z1k hk];refine zv2 hm hqk hol (fun x hx=>?_);rw [hov x hx,if_pos (by omega)]
   ·refine ⟨hjl,fun x hx=>?_⟩;simp only [Nat.not_lt_zero,if_false];rw [List.getD_eq_getElem?_getD,List.getElem?_eq_getElem hx];rfl
  ·intro o w ho;subst ho;have hjl:(z1i m qs).length=m.1.toNat:=by simp [z1i,z5o]
   simp only [zhb];rw [z0u,cond_false,List.take_length,f78_eq N _ (by omega) (by omega)];simp only [Option.bind_some];rw [show ofL (z1i m qs)=z1i m qs from (zde _).2 (zl4 _)]
  ·have h1:ofL (List.replicate m.1.toNat (0:Int))=List.replicate m.1.toNat 0:=(zde _).2 (zdc _ 0 (by omega));rw [←h1];refine zc9 (by simp) ?_;intro i j hi hj;simp [zle]
end Go.Kz
