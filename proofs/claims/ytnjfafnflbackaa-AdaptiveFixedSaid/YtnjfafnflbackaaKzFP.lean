/-
  The layer adaptive: questions chosen in advance, by the model; the law Fixed.
-/
import Derived.Test.YtnjfafnflbackaaKzFO
set_option linter.unusedVariables false
set_option linter.unusedSimpArgs false
namespace Go.Kz
theorem zru {m:z1w} {n:Nat} (hm:MenuP m n) (qs:List Int) {i j:Nat} (hi:i < n) (hj:j < n):(z1i m qs)[i]? = (z1i m qs)[j]?↔zkq m qs i=zkq m qs j:=by
 have hl:=(z54 hm qs).len;have:=zgf hm qs hi hj;rw [List.getD_eq_getElem?_getD,List.getD_eq_getElem?_getD,List.getElem?_eq_getElem (by omega),List.getElem?_eq_getElem (by omega)] at this;rw [List.getElem?_eq_getElem (by omega),List.getElem?_eq_getElem (by omega),zI];exact this
theorem zty {m:z1w} {n:Nat} (hm:MenuP m n) (qs:List Int) {q:Int} (h0:0≤q) (h1:q < (m.2.1.length:Int)):IsMeet n (z1i m qs) (z49 m q) (z1i m (qs++[q])):=by
 have hv:=z54 hm (qs++[q]);have hq:q.toNat < m.2.1.length:=by omega
 obtain ⟨e1,hw⟩:=hm.at hq;have hwl:=hw.len;have hvi:z49 m q=z0d m q.toNat:=rfl;refine ⟨hv.ok,hv.len,fun i j hi hj=>?_⟩;rw [zru hm _ hi hj,zgd,zgd];unfold zyd;rw [zru hm _ hi hj,hvi];have e2:(z0d m q.toNat)[i]? = some ((z0d m q.toNat).getD i 0):=by rw [List.getD_eq_getElem?_getD,List.getElem?_eq_getElem (by omega)];rfl
 have e3:(z0d m q.toNat)[j]? = some ((z0d m q.toNat).getD j 0):=by rw [List.getD_eq_getElem?_getD,List.getElem?_eq_getElem (by omega)];rfl
 rw [e2,e3,zI];constructor
 ·intro h;have h1:=List.append_inj h (by simp [zkq]);exact ⟨h1.1,by simpa using h1.2⟩
 ·rintro ⟨a,b⟩;rw [a,b]
theorem zwe (m:z1w):List.replicate m.1.toNat (0:Int)=z1i m []:=by
 have h1:ofL (List.replicate m.1.toNat (0:Int))=List.replicate m.1.toNat 0:=(zd3 _).2 (zd1 _ 0 (by omega));rw [←h1];refine zfx (by simp) ?_;intro i j hi hj;simp [zkq]
theorem f57_eq (N:Nat) (hN:5000 < N) {m:z1w} {n:Nat} (hm:MenuP m n) {qs:List Int} (hl:qs.length≤300) (hq:qs.all (zbf m)=true):f57 N m qs=some (z1i m qs):=by
 have hn:=hm.few;have hs:=hm.secrets;unfold f57;rw [z0k (by rw [show ((z3g:Nat):Int)=4294967296 from rfl];simp;omega)];refine z1t (fun k o=>o=z1i m (qs.take k)) qs.length ?_ ?_ N (by omega) _ ?_
 ·intro k o w hk ho hw;subst ho;have hqk:=List.all_eq_true.1 hq _ (List.getElem_mem hk);simp only [zbf,zA,decide_eq_true_eq] at hqk;have hqn:qs[k].toNat < m.2.1.length:=by omega
  obtain ⟨e1,hv⟩:=hm.at hqn;have hvl:=hv.len;have hj:=z54 hm (qs.take k);have hjl:=hj.len;have hidx:idx m.2.1 qs[k]=some (z49 m qs[k]):=by
   have:qs[k]=(qs[k].toNat:Int):=by omega
   conv=>lhs;rw [this]
   rw [z0n hqn,e1];rfl
  simp only [znh];rw [z1f hk,cond_true,z0n hk];simp only [Option.bind_some];rw [hidx];simp only [Option.bind_some];obtain ⟨mm,h84,hmm⟩:=f84_eq N (z1i m (qs.take k)) (z49 m qs[k]) (by omega) (by omega) (by rw [hjl];exact hvl) hj.ok hv.ok;rw [h84];simp only [Option.bind_some];rw [z09 (by omega) (by omega)];refine hw _ ?_;rw [hjl] at hmm;rw [z1r hk];exact IsMeet.unique hmm (zty hm _ hqk.1 hqk.2)
 ·intro o w ho;subst ho;simp only [znh];rw [z10,cond_false,List.take_length]
 ·rw [zwe];rfl
def lexC:List Int->List Int->Int
 | [],[]=>0
 | [],_ :: _=>-1
 | _ :: _,[]=>1
 | x :: a,y :: b=>if cmpI x y=0 then lexC a b else cmpI x y
theorem f66_eq (N:Nat) (hN:300 < N) (a b:List Int) (ha:a.length≤200) (hb:b.length≤200):f66 N a b=some (lexC a b):=by
 unfold f66;refine z2d (fun x:Int=>∃ k:Nat,x=(k:Int)∧k≤a.length∧lexC a b=lexC (a.drop k) (b.drop k)∧(k≤b.length)) (fun x=>a.length-x.toNat) ?_ N _ ⟨0,rfl,Nat.zero_le _,rfl,Nat.zero_le _⟩ (by simp;omega);rintro x w ⟨k,rfl,hk,hlex,hkb⟩ hw;simp only [zsa];by_cases hlt:k < a.length
 ·rw [z1f hlt,cond_true,z0n hlt];simp only [Option.bind_some];rw [List.drop_eq_getElem_cons hlt] at hlex;by_cases hbl:k < b.length
  ·have e1:decide (len b≤(k:Int))=false:=by simp [len];omega
   rw [e1,cond_false,z0n hbl];simp only [Option.bind_some];rw [zx3 N];simp only [Option.bind_some];rw [List.drop_eq_getElem_cons hbl] at hlex;simp only [lexC] at hlex;by_cases hc:cmpI a[k] b[k]=0
   ·rw [if_pos hc] at hlex;rw [decide_eq_true hc];simp only [Bool.not_true,cond_false];rw [z09 (by omega) (by omega)];exact hw _ ⟨k+1,by simp,by omega,hlex,by omega⟩ (by simp;omega)
   ·rw [if_neg hc] at hlex;rw [decide_eq_false hc,hlex];rfl
  ·have e1:decide (len b≤(k:Int))=true:=by simp [len];omega
   rw [show b.drop k=[] from List.drop_eq_nil_of_le (by omega)] at hlex;rw [e1,cond_true,hlex];rfl
 ·have he:k=a.length:=by omega
  subst he;rw [z10,cond_false,hlex,List.drop_eq_nil_of_le (Nat.le_refl _)];by_cases hab:a.length < b.length
  ·have e1:decide (len a < len b)=true:=by simp [len,hab]
   rw [List.drop_eq_getElem_cons hab,e1];rfl
  ·have e1:decide (len a < len b)=false:=by simp [len];omega
   rw [List.drop_eq_nil_of_le (by omega),e1];rfl
def preB (a b:List Int):Bool:=decide (a.length < b.length) || (decide (a.length=b.length) && decide (lexC a b < 0))
def zac (V:List Int->Int) (k:Nat) (st:Int×List Int) (a:List Int):Int×List Int:=if k < a.length then st else if st.1 < V a∨(V a=st.1∧preB a st.2=true) then (V a,a) else st
def zci (nv mask:Nat):List Int:=((List.range nv).filter mask.testBit).map fun (q:Nat)=>(q:Int)
def ze2 (nv:Nat):List (List Int):=(List.range (2 ^ nv)).map (zci nv)
theorem zm3 (V:List Int->Int) (hV:∀ a,0≤V a):(P:List (List Int))->P≠[]->∃ i,∃ h:i < P.length,zhq V (-1,[]) P=(V P[i],P[i])∧∀ j (hj:j < P.length),V P[j]≤V P[i]∧(j < i->V P[j] < V P[i]):=by
 intro P
 induction P using z8z with
 | h0=>intro h;exact absurd rfl h
 | h1 P x ih=>
  intro _;by_cases hP:P=[]
  ·subst hP;refine ⟨0,by simp,?_,?_⟩
   ·have:=hV x;simp only [List.nil_append,zhq,List.foldl_cons,List.foldl_nil,zv0];rw [if_pos (by omega)];rfl
   ·intro j hj;simp only [List.nil_append,List.length_singleton] at hj;have:j=0:=by omega
    subst this;exact ⟨Int.le_refl _,fun h=>absurd h (by omega)⟩
  ·obtain ⟨i,hi,h1,h2⟩:=ih hP;rw [zep,h1];simp only [zhq,List.foldl_cons,List.foldl_nil,zv0];by_cases hlt:V P[i] < V x
   ·rw [if_pos hlt];refine ⟨P.length,by simp,by simp,fun j hj=>?_⟩;simp only [List.getElem_concat_length];by_cases hjl:j < P.length
    ·rw [List.getElem_append_left hjl];have:=(h2 j hjl).1;omega
    ·have:j=P.length:=by simp at hj;omega
     subst this;simp
   ·rw [if_neg hlt];have hil:i < (P++[x]).length:=by simp;omega
    have hg:(P++[x])[i]'hil=P[i]:=List.getElem_append_left hi;refine ⟨i,hil,by rw [hg],fun j hj=>?_⟩;rw [hg];by_cases hjl:j < P.length
    ·rw [List.getElem_append_left hjl];exact h2 j hjl
    ·have:j=P.length:=by simp at hj;omega
     subst this;simp only [List.getElem_concat_length];omega
theorem zv6 (V:List Int->Int) (hV:∀ a,0≤V a) (k:Nat) (r:List Int->Nat):(M:List (List Int))->(∀ a∈M,∀ b∈M,a.length≤k->b.length≤k->preB a b=decide (r a < r b))->
  ((∀ a∈M,k < a.length)∧M.foldl (zac V k) (-1,[])=(-1,[]))∨∃ c∈M,c.length≤k∧M.foldl (zac V k) (-1,[])=(V c,c)∧∀ a∈M,a.length≤k->V a≤V c∧(V a=V c->r c≤r a):=by
 intro M
 induction M using z8z with
 | h0=>intro _;left;exact ⟨by simp,rfl⟩
 | h1 M x ih=>
  intro hr;rw [List.foldl_append];simp only [List.foldl_cons,List.foldl_nil];rcases ih (fun a ha b hb=>hr a (by simp [ha]) b (by simp [hb])) with ⟨h1,h2⟩ | ⟨c,hc,hcl,h1,h2⟩
  ·rw [h2];unfold zac;by_cases hx:k < x.length
   ·rw [if_pos hx];left;refine ⟨fun a ha=>?_,rfl⟩;rcases List.mem_append.1 ha with h | h
    ·exact h1 a h
    ·simp only [List.mem_singleton] at h;subst h;exact hx
   ·rw [if_neg hx,if_pos (.inl (by have:=hV x;simp only;omega))];right;refine ⟨x,by simp,by omega,rfl,fun a ha hal=>?_⟩;rcases List.mem_append.1 ha with h | h
    ·exact absurd (h1 a h) (by omega)
    ·simp only [List.mem_singleton] at h;subst h;exact ⟨Int.le_refl _,fun _=>Nat.le_refl _⟩
  ·rw [h1];right;unfold zac;by_cases hx:k < x.length
   ·rw [if_pos hx];refine ⟨c,by simp [hc],hcl,rfl,fun a ha hal=>?_⟩;rcases List.mem_append.1 ha with h | h
    ·exact h2 a h hal
    ·simp only [List.mem_singleton] at h;subst h;omega
   ·rw [if_neg hx];have hp:=hr x (by simp) c (by simp [hc]) (by omega) hcl;by_cases hb:V c < V x∨(V x=V c∧preB x c=true)
    ·rw [if_pos hb];refine ⟨x,by simp,by omega,rfl,fun a ha hal=>?_⟩;rcases List.mem_append.1 ha with h | h
     ·have:=h2 a h hal;rcases hb with hb | ⟨hb1,hb2⟩
      ·exact ⟨by omega,fun e=>by omega⟩
      ·rw [hp,decide_eq_true_eq] at hb2;refine ⟨by omega,fun e=>?_⟩;have:=this.2 (by omega);omega
     ·simp only [List.mem_singleton] at h;subst h;exact ⟨Int.le_refl _,fun _=>Nat.le_refl _⟩
    ·rw [if_neg hb];refine ⟨c,by simp [hc],hcl,rfl,fun a ha hal=>?_⟩;rcases List.mem_append.1 ha with h | h
     ·exact h2 a h hal
     ·simp only [List.mem_singleton] at h;subst h;rw [hp,decide_eq_true_eq] at hb;refine ⟨by omega,fun e=>?_⟩;omega
def zu4 (nv k:Nat):Bool:=
 let P:=allC nv (min k nv)
 (P.all fun a=>P.all fun b=>decide (preB a b=decide (P.idxOf a < P.idxOf b))) && ((List.range P.length).all fun i=>decide (P.idxOf (P.getD i [])=i)) &&
  ((ze2 nv).all fun a=>decide (k < a.length) || decide (a∈P)) && (P.all fun a=>decide (a∈ze2 nv) && decide (a.length≤k)) && decide (P≠[])
theorem fix_same (V:List Int->Int) (hV:∀ a,0≤V a) (nv k:Nat) (h:zu4 nv k=true):zhq V (-1,[]) (allC nv (min k nv))=(ze2 nv).foldl (zac V k) (-1,[]):=by
 simp only [zu4,zA,List.all_eq_true,decide_eq_true_eq,Bool.or_eq_true,List.mem_range] at h;obtain ⟨⟨⟨⟨h1,h2⟩,h3⟩,h4⟩,h5⟩:=h;generalize allC nv (min k nv)=P at *;obtain ⟨i,hi,e1,e2⟩:=zm3 V hV P h5;have hmem:∀ a∈ze2 nv,a.length≤k->a∈P:=fun a ha hl=>(h3 a ha).resolve_left (by omega)
 rcases zv6 V hV k P.idxOf (ze2 nv) (fun a ha b hb hal hbl=>h1 a (hmem a ha hal) b (hmem b hb hbl)) with ⟨g1,_⟩ | ⟨c,hc,hcl,g1,g2⟩
 ·have hPi:=h4 P[i] (List.getElem_mem hi);have:=g1 _ hPi.1;omega
 ·rw [e1,g1];have hidx:∀ j (hj:j < P.length),P.idxOf P[j]=j:=by
   intro j hj;have:=h2 j hj
   rwa [List.getD_eq_getElem?_getD,List.getElem?_eq_getElem hj] at this
  obtain ⟨j,hj,rfl⟩:=List.mem_iff_getElem.1 (hmem c hc hcl);have hPi:=h4 P[i] (List.getElem_mem hi);have a1:=e2 j hj;have a2:=g2 P[i] hPi.1 hPi.2;have a3:V P[i]=V P[j]:=by omega
  have a4:=a2.2 a3;rw [hidx i hi,hidx j hj] at a4;have:i=j:=by
   apply Classical.byContradiction;intro hne;have:=a1.2 (by omega);omega
  subst this;rfl
theorem fix_all:((List.range 6).all fun nv=>(List.range 9).all fun k=>zu4 nv k)=true:=by kernel_rfl
theorem f26_eq (N:Nat) (hN:5000 < N) {m:z1w} {g:List (List Int)} (hmk:z3p m=true) (hgk:z5h g m.1=true) (k:Nat):f26 N m g (k:Int)=some ((ze2 m.2.1.length).foldl (zac (za9 m g m.1.toNat) k) (-1,[])):=by
 have hm:=zhu hmk;have hsec:=hm.secrets;have hg:GainP g m.1.toNat:=gainP (by rw [←hsec];exact hgk);have hv8:=hm.views;have hp8:2 ^ m.2.1.length≤256:=by
  have:=Nat.pow_le_pow_right (n:=2) (by omega) hv8;have e:(2:Nat) ^ 8=256:=by decide
  omega
 unfold f26;have e0:decide (len m.2.1 < 0)=false:=by simp [len]
 have e1:z0l (1*(2 ^ (min (Int.toNat (len m.2.1)) 64)))=((2 ^ m.2.1.length:Nat):Int):=shl1 (by omega);rw [e0,cond_false,e1];refine z1t (fun q x=>x=((List.range q).map (zci m.2.1.length)).foldl (zac (za9 m g m.1.toNat) k) (-1,[])) (2 ^ m.2.1.length) ?_ ?_ N (by omega) _ rfl
 ·rintro q ⟨t,o⟩ w hq hx hw;simp only [zo0];rw [dlt hq,cond_true];have hnext:∀ y:Int×List Int,y=zac (za9 m g m.1.toNat) k (t,o) (zci m.2.1.length q)->w ((q:Int)+1,y)=some ((ze2 m.2.1.length).foldl (zac (za9 m g m.1.toNat) k) (-1,[])):=by
   intro y hy;refine hw y ?_;rw [List.range_succ,List.map_append,List.foldl_append,←hx];exact hy
  have hq62:q < 2 ^ 62:=by omega
  refine z1t (fun j (o2:List Int)=>o2=zci j q) m.2.1.length ?_ ?_ N (by omega) _ rfl
  ·intro j o2 v hj ho hv;subst ho;have hbl:(zci j q).length≤j:=by
    have:=List.length_filter_le q.testBit (List.range j);simp only [zci,List.length_map];simp only [List.length_range] at this;exact this
   simp only [znz];rw [z1f hj,cond_true,f65_eq N hq62 (by omega)];simp only [Option.bind_some];rw [z09 (by omega) (by omega)]
   cases hb:q.testBit j with
   | true=>
    rw [cond_true,za6 (by omega)]
    exact hv _ (by simp [zci,List.range_succ,hb])
   | false=>
    rw [cond_false];exact hv _ (by simp [zci,List.range_succ,hb])
  ·intro o2 v ho;subst ho;simp only [znz];rw [z10,cond_false,z09 (by omega) (by omega)];generalize hB:zci m.2.1.length q=B at *;have hbl:B.length≤m.2.1.length:=by
    have:=List.length_filter_le q.testBit (List.range m.2.1.length);rw [←hB];simp only [zci,List.length_map];simp only [List.length_range] at this;exact this
   have hBq:B.all (zbf m)=true:=by
    rw [←hB,List.all_eq_true];intro z hz;simp only [zci,List.mem_map,List.mem_filter,List.mem_range] at hz;obtain ⟨a,⟨ha,_⟩,rfl⟩:=hz;simp only [zbf,zA,decide_eq_true_eq];omega
   by_cases hk:k < B.length
   ·have e2:decide ((k:Int) < len B)=true:=by simp [len,hk]
    rw [e2,cond_true];exact hnext (t,o) (by unfold zac;rw [if_pos hk])
   ·have e2:decide ((k:Int) < len B)=false:=by simp [len];omega
    have hov:o.length≤200:=by
     have:∀ (l:List (List Int)) (st:Int×List Int),(∀ a∈l,a.length≤200)->st.2.length≤200->(l.foldl (zac (za9 m g m.1.toNat) k) st).2.length≤200:=by
      intro l
      induction l with
      | nil=>intro st _ h;exact h
      | cons a l ih=>
       intro st h h2;simp only [List.foldl_cons];refine ih _ (fun b hb=>h b (by simp [hb])) ?_;unfold zac;split
       ·exact h2
       ·split
        ·exact h a (by simp)
        ·exact h2
     have h2:=this ((List.range q).map (zci m.2.1.length)) (-1,[]) (fun a ha=>by
      obtain ⟨z,_,rfl⟩:=List.mem_map.1 ha;have:=List.length_filter_le z.testBit (List.range m.2.1.length);simp only [zci,List.length_map];simp only [List.length_range] at this;omega) (by simp)
     rw [←hx] at h2;exact h2
    rw [e2,cond_false,f57_eq N hN hm (by omega) hBq];simp only [Option.bind_some];rw [f18_eq N hN hm hg (z54 hm B),zf9 hm];simp only [Option.bind_some];have h66:=f66_eq N (by omega) B o (by omega) hov;have hstep:zac (za9 m g m.1.toNat) k (t,o) B=if t < za9 m g m.1.toNat B∨(za9 m g m.1.toNat B=t∧preB B o=true) then (za9 m g m.1.toNat B,B) else (t,o):=by
     unfold zac;rw [if_neg hk]
    generalize za9 m g m.1.toNat B=z at *;have hlb:decide (len B < len o)=decide (B.length < o.length):=by simp [len]
    have hle:decide (len B=len o)=decide (B.length=o.length):=by
     rw [Bool.eq_iff_iff];simp only [decide_eq_true_eq,len];omega
    rw [h66,hlb,hle];by_cases c1:t < z
    ·rw [decide_eq_true c1];simp only [cond_true,Option.bind_some];exact hnext _ (by rw [hstep,if_pos (.inl c1)])
    ·rw [decide_eq_false c1];simp only [cond_false];by_cases c2:z=t
     ·rw [decide_eq_true c2];simp only [cond_true];have hpre:preB B o=(decide (B.length < o.length) || (decide (B.length=o.length) && decide (lexC B o < 0))):=rfl
      cases c3:decide (B.length < o.length) with
      | true=>
       simp only [cond_true,Option.bind_some]
       exact hnext _ (by rw [hstep,if_pos (.inr ⟨c2,by rw [hpre,c3];rfl⟩)])
      | false=>
       simp only [cond_false]
       cases c4:decide (B.length=o.length) with
       | true=>
        simp only [cond_true,Option.bind_some]
        cases c5:decide (lexC B o < 0) with
        | true=>
         simp only [cond_true]
         exact hnext _ (by rw [hstep,if_pos (.inr ⟨c2,by rw [hpre,c4,c5];simp⟩)])
        | false=>
         simp only [cond_false]
         exact hnext _ (by rw [hstep,if_neg];rw [hpre,c3,c4,c5];simp [c1])
       | false=>
        simp only [cond_false,Option.bind_some];exact hnext _ (by rw [hstep,if_neg];rw [hpre,c3,c4];simp [c1])
     ·rw [decide_eq_false c2];simp only [cond_false,Option.bind_some];exact hnext _ (by rw [hstep,if_neg];simp [c1,c2])
 ·rintro ⟨t,o⟩ w hx;simp only [zo0];rw [dnlt,cond_false,←show ((List.range (2 ^ m.2.1.length)).map (zci m.2.1.length)).foldl (zac (za9 m g m.1.toNat) k) (-1,[])=(ze2 m.2.1.length).foldl (zac (za9 m g m.1.toNat) k) (-1,[]) from rfl,←hx]
theorem law8 (m:z1w) (g:List (List Int)) (k:Int):f8 100000 m g k=some true:=by
 unfold f8;rw [known];simp only [Option.bind_some,Bool.not_true,cond_false];rw [f12_eq 100000 (by omega) m g _ _ (by omega)];simp only [Option.bind_some]
 cases hf:fewB m g 8 5 with
 | false=>rfl
 | true=>
 simp only [Bool.not_true,cond_false];rw [f19_eq 100000 (by omega),f15_eq 100000 (by omega)];simp only [Option.bind_some]
 cases ha:zst m g k with
 | false=>rfl
 | true=>
 obtain ⟨a1,a2,a3,a4⟩:=zf3.1 ha;have hm:=zhu a1;have hsec:=hm.secrets;have hg:GainP g m.1.toNat:=gainP (by rw [←hsec];exact a2);have hk:k=(k.toNat:Int):=by omega
 have hnv:m.2.1.length≤5:=by
  simp only [fewB,zA,Bool.not_eq_true',decide_eq_false_iff_not,len] at hf;have:=hf.1.1.1.2;omega
 have hfix:zu4 m.2.1.length k.toNat=true:=by
  have:=List.all_eq_true.1 fix_all m.2.1.length (List.mem_range.2 (by omega));exact List.all_eq_true.1 this k.toNat (List.mem_range.2 (by omega))
 have hsame:=fix_same (za9 m g m.1.toNat) (fun a=>(zfa hm hg a).1) m.2.1.length k.toNat hfix;have h26:=f26_eq 100000 (by omega) a1 a2 k.toNat;rw [←hk,←hsame] at h26;simp only [if_true,Bool.not_true,cond_false];rw [h26];simp only [Option.bind_some,decide_true,cond_true];have h27:∀ l:List Int,l.length≤200->f27 100000 l l=some true:=by
  intro l hl;rw [f27_eq 100000 _ _ (by omega) (by omega)];simp
 rw [h27]
 ·rfl
 ·obtain ⟨i,hi,e1,_⟩:=zm3 (za9 m g m.1.toNat) (fun a=>(zfa hm hg a).1) (allC m.2.1.length (min k.toNat m.2.1.length)) (by
   simp only [zu4,zA,decide_eq_true_eq] at hfix;exact hfix.2)
  rw [e1];simp only;simp only [zu4,zA,List.all_eq_true,decide_eq_true_eq] at hfix;have:=(hfix.1.2 _ (List.getElem_mem hi)).2;omega
end Go.Kz
