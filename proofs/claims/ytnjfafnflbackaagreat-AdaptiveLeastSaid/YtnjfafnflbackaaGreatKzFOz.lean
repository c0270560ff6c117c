/-
  The layer adaptive: strategies by the model; the law Bounds.
-/
import Derived.Test.YtnjfafnflbackaaGreatKzFNz
set_option linter.unusedVariables false
set_option linter.unusedSimpArgs false
namespace Go.Kz
theorem f34_eq (N:Nat) (a b:List Ans) (hN:a.length < N) (hl:a.length < 4294967296):f34 N a b=some (decide (a=b)):=by
 unfold f34;by_cases hlen:a.length=b.length
 ·have e1:(!decide (len a=len b))=false:=by simp [len,hlen]
  rw [e1,cond_false];refine zb6 (fun k=>∀ j,j < k->a[j]? = b[j]?) a.length ?_ ?_ N hN (by intro j hj;omega)
  ·intro k w hk hi hw;simp only [zlk];rw [z1p hk,cond_true,z0s hk,z0s (l:=b) (by omega)];simp only [Option.bind_some,eqK];by_cases he:a[k]=b[k]'(by omega)
   ·rw [z0c (by omega) (by omega)];simp only [he,decide_true,Bool.not_true,cond_false];refine hw fun j hj=>?_
    by_cases hjk:j=k
    ·subst hjk;rw [List.getElem?_eq_getElem hk,List.getElem?_eq_getElem (by omega),he]
    ·exact hi j (by omega)
   ·have hne:a≠b:=by intro h;subst h;exact he rfl
    simp [he,hne]
  ·intro w hi;simp only [zlk];rw [z1e,cond_false];have:a=b:=by
    apply List.ext_getElem?;intro j;by_cases hj:j < a.length
    ·exact hi j hj
    ·rw [List.getElem?_eq_none (by omega),List.getElem?_eq_none (by omega)]
   simp [this]
 ·have e1:(!decide (len a=len b))=true:=by simp [len];omega
  have hne:a≠b:=by intro h;subst h;exact hlen rfl
  rw [e1,cond_true];simp [hne]
def zox (m:z1m) (s:List z14):Bool:=decide (s.length≤256) && (List.range s.length).all fun i=>z4g m.2.1 s.length i (s.getD i (0,[],()))
theorem zsf {m:z1m} {s:List z14} (hl:s.length≤256) (h:zd8 m.2.1 s):zox m s=true:=by
 simp only [zox,zA,decide_eq_true_eq,List.all_eq_true,List.mem_range];refine ⟨hl,fun i hi=>?_⟩;rw [List.getD_eq_getElem?_getD,List.getElem?_eq_getElem hi];exact h i hi
theorem f11_eq (N:Nat) (hN:5000 < N) {m:z1m} {n:Nat} (hm:MenuP m n) {s:List z14}:f11 N m s=some (zox m s):=by
 unfold f11 zox;by_cases hl:s.length≤256
 ·have e1:decide ((256:Int) < len s)=false:=by simp [len];omega
  rw [e1,cond_false,decide_eq_true hl,Bool.true_and];have hr:∀ k (h:k < (List.range s.length).length),(List.range s.length)[k]=k:=fun k h=>by simp
  have:=z7m (F:=fun w=>zhq N s s (len s) m w (fun t4_1=>some t4_1) (fun (_:Unit)=>some true)) (List.range s.length) (fun i=>z4g m.2.1 s.length i (s.getD i (0,[],()))) (some true) (some false) ?_ ?_ N (by simp;omega)
  ·rw [this];cases (List.range s.length).all (fun i=>z4g m.2.1 s.length i (s.getD i (0,[],()))) <;> rfl
  ·intro k w hk;have hk':k < s.length:=by simpa using hk
   rw [hr k hk];simp only [zhq];rw [z1p hk',cond_true,z0s hk'];simp only [Option.bind_some];have hg:s.getD k (0,[],())=s[k]:=by rw [List.getD_eq_getElem?_getD,List.getElem?_eq_getElem hk'];rfl
   rw [hg];generalize s[k]=c;by_cases h0:c.1 < 0
   ·have:z4g m.2.1 s.length k c=false:=by
     have:¬ 0≤c.1:=by omega
     simp [z4g,this]
    simp [h0,this]
   ·by_cases h1:len m.2.1≤c.1
    ·have:z4g m.2.1 s.length k c=false:=by
      have:¬ c.1 < (m.2.1.length:Int):=by simp only [len] at h1;omega
      simp [z4g,this]
     simp [h0,h1,this]
    ·have hq:c.1.toNat < m.2.1.length:=by simp only [len] at h1;omega
     obtain ⟨e1,hv⟩:=hm.at hq;have hvl:=hv.len;have htl2:=z9t hv;have hn:=hm.few;have hc1:c.1=(c.1.toNat:Int):=by omega
     have htb:=(z3e hv.ok).1;have htn:((z1z (z07 m c.1.toNat):Nat):Int)=top 0 (z07 m c.1.toNat):=by simp only [z1z];omega
     have hidx:idx m.2.1 c.1=some (z07 m c.1.toNat):=by rw [hc1,z0s hq,e1,Int.toNat_natCast]
     have hqv:m.2.1.getD c.1.toNat []=z07 m c.1.toNat:=rfl;simp only [decide_eq_false h0,decide_eq_false h1,cond_false,Option.bind_some];rw [hidx];simp only [Option.bind_some];rw [zzg N _ (by omega) (by omega) hv.ok];simp only [Option.bind_some,←htn];by_cases h2:c.2.1.length=z1z (z07 m c.1.toNat)
     ·have e2:decide (len c.2.1=((z1z (z07 m c.1.toNat):Nat):Int))=true:=by simp only [len,decide_eq_true_eq];omega
      rw [e2];simp only [Bool.not_true,cond_false];have hin:=z7m (F:=fun w_1=>zhp N s (k:Int) c.2.1 s (len s) (k:Int) (len c.2.1) m w_1 (fun t4=>some t4) (fun (_:Unit)=>w (z0g ((k:Int)+1)))) c.2.1 (zeu s.length k) (w (z0g ((k:Int)+1))) (some false) ?_ ?_ N (by omega)
      ·rw [hin,z0c (by omega) (by omega)];have:z4g m.2.1 s.length k c=c.2.1.all (zeu s.length k):=by
        have a1:0≤c.1:=by omega
        have a2:c.1 < (m.2.1.length:Int):=by omega
        simp only [z4g,a1,a2,hqv,h2,decide_true,Bool.true_and]
       rw [this]
      ·intro j w2 hj;simp only [zhp];rw [z1p hj,cond_true,z0s hj];simp only [Option.bind_some];rw [z0c (by omega) (by omega)];generalize c.2.1[j]=z;simp only [zeu,len];by_cases z1:z = -1
       ·simp [z1]
       ·by_cases z2:z≤(k:Int)
        ·have:¬ (k:Int) < z:=by omega
         simp [z1,z2,this]
        ·have z2':(k:Int) < z:=by omega
         by_cases z3:(s.length:Int)≤z
         ·have:¬ z < (s.length:Int):=by omega
          simp [z1,z2,z2',z3,this]
         ·have:z < (s.length:Int):=by omega
          simp [z1,z2,z2',z3,this]
      ·intro w2;simp only [zhp];rw [z1e,cond_false]
     ·have e2:decide (len c.2.1=((z1z (z07 m c.1.toNat):Nat):Int))=false:=by simp only [len,decide_eq_false_iff_not];omega
      have:z4g m.2.1 s.length k c=false:=by simp only [z4g,hqv,decide_eq_false h2,Bool.and_false,Bool.false_and]
      rw [e2,this];rfl
  ·intro w;simp only [zhq];have:((List.range s.length).length:Int)=(s.length:Int):=by simp
   rw [this,z1e,cond_false]
 ·have e1:decide ((256:Int) < len s)=true:=by simp [len];omega
  rw [e1,cond_true,decide_eq_false hl];rfl
def zct (s:List z14):Int:=if s.length=0 then -1 else 0
def trS (m:z1m) (s:List z14) (x:Nat):List Ans:=z89 m.2.1 s s.length (zct s) x
theorem zid (vs:List (List Int)) (s:List z14) (x:Nat):(k:Nat)->(at0:Int)->(z89 vs s k at0 x).length≤k
 | 0,_=>by simp [z89]
 | k+1,at0=>by
  simp only [z89];split
  ·simp
  ·split
   ·simp
   ·simp only [List.length_cons];have:=zid vs s x k;rename_i c _;have:=this (c.2.1.getD ((vs.getD c.1.toNat []).getD x 0).toNat (-1));omega
theorem f33_eq (N:Nat) (hN:5000 < N) {m:z1m} {n:Nat} (hm:MenuP m n) {s:List z14} (hs:zd8 m.2.1 s) (hl:s.length≤256) {x:Nat} (hx:x < n):f33 N m s (x:Int)=some (trS m s x):=by
 have key:∀ at1:Int,at1=zct s->iter (fun w=>zhm N (x:Int) s m w (fun o0_1=>some o0_1)) N (at1,([]:List Ans))=some (trS m s x):=by
  intro at1 hat;subst hat;refine z2r (fun y:Int×List Ans=>∃ k:Nat,(y.1 = -1∨(0≤y.1∧y.1 < s.length∧s.length-y.1.toNat≤k))∧y.2++z89 m.2.1 s k y.1 x=trS m s x) (fun y=>if y.1 = -1 then 0 else s.length-y.1.toNat) ?_ N _ ⟨s.length,?_,rfl⟩ ?_
  ·rintro ⟨i,o⟩ w ⟨k,hi,hrun⟩ hw;simp only at hi hrun;have hol:o.length≤256:=by
    have h1:(o++z89 m.2.1 s k i x).length=(trS m s x).length:=by rw [hrun]
    have h2:=zid m.2.1 s x s.length (zct s);simp only [List.length_append] at h1;unfold trS at h1;omega
   simp only [zhm];rcases hi with rfl | ⟨h0,h1,hk⟩
   ·simp only [decide_true,Bool.not_true,cond_false];have:z89 m.2.1 s k (-1) x=[]:=by cases k <;> simp [z89]
    rw [this,List.append_nil] at hrun;rw [hrun]
   ·have hne:¬ i = -1:=by omega
    rw [decide_eq_false hne];simp only [Bool.not_false,cond_true];obtain ⟨i,rfl⟩:=Int.eq_ofNat_of_zero_le h0;simp only [Int.toNat_natCast] at hk;have hil:i < s.length:=by omega
    have hnode:=hs.node n hil;have hq:=hnode.ask1;obtain ⟨e1,hv⟩:=hm.at hq;have hqv:m.2.1.getD s[i].1.toNat []=z07 m s[i].1.toNat:=rfl;have hxv:x < (z07 m s[i].1.toNat).length:=by rw [hv.len];exact hx
    obtain ⟨c,c1,c2,c3⟩:=zm4 hv hxv;have hidx:idx m.2.1 s[i].1=some (z07 m s[i].1.toNat):=by
     have:=hnode.ask0;have hc1:s[i].1=(s[i].1.toNat:Int):=by omega
     conv=>lhs;rw [hc1]
     rw [z0s hq,e1]
    obtain ⟨k,rfl⟩:∃ j,k=j+1:=⟨k-1,by omega⟩;have hneg:¬ ((i:Int) < 0):=by omega
    have hrun':z89 m.2.1 s (k+1) (i:Int) x=(s[i].1,((c:Int),())) :: z89 m.2.1 s k (s[i].2.1.getD c (-1)) x:=by
     simp only [z89,if_neg hneg,Int.toNat_natCast,List.getElem?_eq_getElem hil,hqv,c3]
    have hcl:c < s[i].2.1.length:=by rw [hnode.next,hqv];exact c2
    have hto:=hnode.to c hcl;have hgd:s[i].2.1.getD c (-1)=s[i].2.1[c]:=by rw [List.getD_eq_getElem?_getD,List.getElem?_eq_getElem hcl];rfl
    rw [z0s hil];simp only [Option.bind_some];rw [hidx];simp only [Option.bind_some];rw [z0s hxv,c1];simp only [Option.bind_some];rw [z5g (by omega),z0s hcl];simp only [Option.bind_some];rw [hgd] at hto hrun';refine hw _ ⟨k,?_,?_⟩ ?_
    ·rcases hto with h | h
     ·exact .inl h
     ·exact .inr ⟨by simp only;omega,h.2,by simp only;omega⟩
    ·simp only;rw [←hrun,hrun'];simp
    ·simp only [hne,if_false,Int.toNat_natCast];split
     ·omega
     ·rename_i h;have:=hto.resolve_left h;omega
  ·simp only [zct];by_cases h:s.length=0
   ·left;rw [if_pos h]
   ·right;rw [if_neg h];simp only [Int.toNat_zero];omega
  ·simp only;split <;> omega
 unfold f33;by_cases h:s.length=0
 ·have e:decide (len s=0)=true:=by simp [len,h]
  rw [e,cond_true];exact key (-1) (by simp [zct,h])
 ·have e:decide (len s=0)=false:=by simp [len,h]
  rw [e,cond_false];exact key 0 (by simp [zct,h])
def zrq (T:Nat->List Ans) (x:Nat):Nat:=((List.range x).find? fun j=>decide (T j=T x)).getD x
theorem zj6 (T:Nat->List Ans) (x:Nat):T (zrq T x)=T x:=by
 unfold zrq
 cases h:(List.range x).find? fun j=>decide (T j=T x) with
 | none=>rfl
 | some j=>
  have:=List.find?_some h;simpa using this
theorem zhg (T:Nat->List Ans) {j x:Nat} (h:j < zrq T x):¬ T j=T x:=by
 unfold zrq at h
 cases hf:(List.range x).find? fun j=>decide (T j=T x) with
 | none=>
  rw [hf] at h;simp only [Option.getD_none] at h;have:=List.find?_eq_none.1 hf j (List.mem_range.2 h)
  simpa using this
 | some k=>
  rw [hf] at h;simp only [Option.getD_some] at h;rw [List.find?_eq_some_iff_getElem] at hf;obtain ⟨_,i,hi,e,hlt⟩:=hf;simp only [List.getElem_range] at e;subst e;have:=hlt j h;simpa using this
theorem zl8 (T:Nat->List Ans) (x y:Nat):zrq T x=zrq T y↔T x=T y:=by
 constructor
 ·intro h;rw [←zj6 T x,←zj6 T y,h]
 ·intro h;apply Classical.byContradiction;intro hne;rcases Nat.lt_or_gt_of_ne hne with hlt | hlt
  ·exact zhg T hlt (by rw [zj6 T x,h])
  ·exact zhg T hlt (by rw [zj6 T y,h])
def zy5 (T:Nat->List Ans) (n:Nat):Int:=(List.range n).foldl (fun b x=>max b (len (T x))) 0
theorem depT_le (T:Nat->List Ans) {n x:Nat} (h:x < n):len (T x)≤zy5 T n:=zfb (fun x=>len (T x)) (List.mem_range.2 h)
theorem zuy (T:Nat->List Ans) {n:Nat} {B:Int} (h0:0≤B) (h:∀ x,x < n->len (T x)≤B):zy5 T n≤B:=zj7 (fun x=>len (T x)) h0 fun x hx=>h x (List.mem_range.1 hx)
def clsT (T:Nat->List Ans) (n:Nat):List Int:=ofL ((List.range n).map T)
theorem f12_eq (N:Nat) (hN:5000 < N) {m:z1m} {n:Nat} (hm:MenuP m n) {s:List z14} (hs:zd8 m.2.1 s) (hl:s.length≤256):f12 N m s=some (clsT (trS m s) n,zy5 (trS m s) n):=by
 have hn:=hm.few;have htl:∀ x,(trS m s x).length≤256:=fun x=>Nat.le_trans (zid _ _ _ _ _) hl
 unfold f12;rw [hm.secrets];refine z2x (fun k x=>x=(zy5 (trS m s) k,(List.range k).map (fun i=>((zrq (trS m s) i:Nat):Int)),(List.range k).map (trS m s))) n ?_ ?_ N (by omega) _ rfl
 ·intro k x w hk hx hw;subst hx;simp only [zlt];rw [dlt hk,cond_true,f33_eq N hN hm hs hl hk];simp only [Option.bind_some];have hll:((List.range k).map (trS m s)).length=k:=by simp
  have hll2:((List.range k).map (fun i=>((zrq (trS m s) i:Nat):Int))).length=k:=by simp
  rw [z5g (by rw [hll];omega)];have hall:(List.range k).map (trS m s)++[trS m s k]=(List.range (k+1)).map (trS m s):=by simp [List.range_succ]
  rw [hall];have hfin:∀ t:Int,t=((zrq (trS m s) k:Nat):Int)->w (z0g ((k:Int)+1),zky (zy5 (trS m s) k) (len (trS m s k)),(List.range k).map (fun i=>((zrq (trS m s) i:Nat):Int))++[t],(List.range (k+1)).map (trS m s))=some (clsT (trS m s) n,zy5 (trS m s) n):=by
   intro t ht;subst ht;rw [z0c (by omega) (by omega),ziv];refine hw _ ?_;simp [zy5,List.range_succ]
  refine z2x (fun j (t:Int)=>t=if (List.range j).any (fun i=>decide (trS m s i=trS m s k)) then ((zrq (trS m s) k:Nat):Int) else (k:Int)) k ?_ ?_ N (by omega) _ (by simp)
  ·intro j t v hj ht hv;subst ht;have hjl:j < ((List.range (k+1)).map (trS m s)).length:=by simp;omega
   have hjl2:j < ((List.range k).map (fun i=>((zrq (trS m s) i:Nat):Int))).length:=by simp;omega
   simp only [zfk];rw [dlt hj,cond_true,z0x (z5b hjl),z0s hjl];simp only [Option.bind_some,List.getElem_map,List.getElem_range];rw [f34_eq N _ _ (by have:=htl j;omega) (by have:=htl j;omega)];simp only [Option.bind_some];rw [z0c (by omega) (by omega)];by_cases he:trS m s j=trS m s k
   ·rw [decide_eq_true he,cond_true,z0x (z5b hjl2),z0s hjl2];simp only [Option.bind_some,List.getElem_map,List.getElem_range];refine hv _ ?_;have:(List.range (j+1)).any (fun i=>decide (trS m s i=trS m s k))=true:=by simp [List.range_succ,he]
    rw [this,if_pos rfl,(zl8 (trS m s) j k).2 he]
   ·rw [decide_eq_false he,cond_false];refine hv _ ?_;have:(List.range (j+1)).any (fun i=>decide (trS m s i=trS m s k))=(List.range j).any (fun i=>decide (trS m s i=trS m s k)):=by simp [List.range_succ,he]
    rw [this]
  ·intro t v ht;subst ht;simp only [zfk];rw [dnlt,cond_false,z5g (by rw [hll2];omega)];refine hfin _ ?_
   cases ha:(List.range k).any (fun i=>decide (trS m s i=trS m s k)) with
   | true=>rfl
   | false=>
    simp only [Bool.false_eq_true,if_false];have:(List.range k).find? (fun j=>decide (trS m s j=trS m s k))=none:=by
     rw [List.find?_eq_none];intro j hj hc;have:(List.range k).any (fun i=>decide (trS m s i=trS m s k))=true:=List.any_eq_true.2 ⟨j,hj,hc⟩;rw [ha] at this;exact absurd this (by simp)
    rw [zrq,this];rfl
 ·intro x w hx;subst hx;simp only [zlt];rw [dnlt,cond_false,zzf N _ (by simp;omega) (by simp;omega)];simp only [Option.bind_some,zI,Prod.mk.injEq,and_true];refine z8e (by simp) fun i j hi hj=>?_
  simp only [List.getElem_map,List.getElem_range];rw [←zl8 (trS m s) i j];omega
end Go.Kz
