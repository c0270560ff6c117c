/-
  The layer adaptive: Prove and the reference's; plain laws.
-/
import Derived.Test.YtnjfafnflbackaaKzF4
set_option linter.unusedVariables false
set_option linter.unusedSimpArgs false
namespace Go.Kz
def zpp:List (Option Int)->Option Int
 | []=>some 0
 | x :: l=>x.bind fun a=>(zpp l).map (a + ·)
theorem zkd:(l m:List (Option Int))->zpp (l++m)=(zpp l).bind fun s=>(zpp m).map (s + ·)
 | [],m=>by simp [zpp]
 | x :: l,m=>by
  simp only [List.cons_append,zpp,zkd l m]
  cases x with
  | none=>rfl
  | some a=>
   simp only [Option.bind_some]
   cases zpp l with
   | none=>rfl
   | some s=>
    simp only [Option.bind_some,Option.map_some]
    cases zpp m with
    | none=>rfl
    | some r=>simp only [Option.map_some,Int.add_assoc]
theorem zmd (l:List (Option Int)) (x:Option Int):zpp (l++[x])=(zpp l).bind fun s=>x.map (s + ·):=by
 rw [zkd];cases x <;> simp [zpp]
theorem iter_sum {R:Type} {F:(Int×Int->Option R)->Int×Int->Option R} (l:List (Option Int)) (B:Int) (hb:∀ x∈l,∀ a,x=some a->0≤a∧a≤B) (A:Int->Option R) (E:Option R)
  (step:∀ (k:Nat) (s:Int) (w:Int×Int->Option R) (hk:k < l.length),0≤s->s≤k*B->F w ((k:Int),s)=match l[k] with
   | none=>E
   | some a=>w ((k:Int)+1,s+a))
  (last:∀ (s:Int) (w:Int×Int->Option R),F w ((l.length:Int),s)=A s) (N:Nat) (hN:l.length < N):iter F N (0,0)=match zpp l with
   | none=>E
   | some s=>A s:=by
 refine z2h (fun k s=>zpp (l.take k)=some s∧0≤s∧s≤k*B) l.length ?_ ?_ N hN 0 ⟨by simp [zpp],by omega,by simp⟩
 ·rintro k s w hk ⟨h1,h2,h3⟩ hw;rw [step k s w hk h2 h3];have hs:=z1h hk
  cases hx:l[k] with
  | none=>
   have:zpp l=none:=by
    conv=>lhs;rw [←List.take_append_drop (k+1) l,zkd,hs,zmd,h1,hx]
    rfl
   rw [this]
  | some a=>
   have hb':=hb _ (List.getElem_mem hk) a hx;refine hw _ ⟨?_,by omega,?_⟩
   ·rw [hs,zmd,h1,hx];rfl
   ·push_cast;rw [Int.add_mul,Int.one_mul];omega
 ·rintro s w ⟨h1,_,_⟩;rw [List.take_length] at h1;rw [last s w,h1]
def sumV (v:List Int) (S:Nat) (h:Nat->Option Int):Option Int:=zpp ((List.range (z2f v)).map fun c=>if part v S c=0 then some 0 else h (part v S c))
def bndV (vs:List (List Int)) (S:Nat) (h:Nat->Option Int) (b:Int):Bool:=vs.all fun v=>match sumV v S h with
 | none=>false
 | some s=>decide (s≤b)
def zcg (g:List (List Int)) (n:Nat) (x:z56):Bool:=decide (0≤x.2.1) && decide (1≤x.1) && decide (x.1≤(z6u n:Int)) && decide (z1m g n x.1.toNat.testBit≤x.2.2.1) && decide (x.2.2.1≤1099511627776)
def nextB (t:List z56) (x:z56):Nat->Option Int:=fun y=>look t (y:Int) (z0l (x.2.1-1))
def zq6 (m:z1i) (t:List z56) (x:z56):Bool:=!decide (0 < x.2.1) || bndV m.2.1 x.1.toNat (nextB t x) x.2.2.1
def zvw (m:z1i) (g:List (List Int)) (k:Int) (t:List z56) (b:Int):Int:=
 if zr5 m g k then
  if t.length≤4096 then
   if ztv t then
    if t.all (zcg g m.1.toNat) then
     if t.all (zq6 m t) then
      match look t (z6u m.1.toNat) k with
      | none=>13
      | some v=>if b < v then 13 else 0
     else 13
    else 13
   else 10
  else 4
 else 1
theorem zh4 {g:List (List Int)} {n:Nat} {x:z56}:zcg g n x=true↔0≤x.2.1∧1≤x.1∧x.1≤(z6u n:Int)∧z1m g n x.1.toNat.testBit≤x.2.2.1∧x.2.2.1≤1099511627776:=by
 simp [zcg,and_assoc]
def ValB (M:List (Key×Int)):Prop:=∀ key v,lk M key=some v->0≤v∧v≤1099511627776
theorem valB_of {g:List (List Int)} {n:Nat} {t:List z56} (hg:GainP g n) (h:t.all (zcg g n)=true):ValB (zud t):=by
 intro key v hv;have:=lk_mem hv;simp only [zud,List.mem_map] at this;obtain ⟨x,hx,he⟩:=this;have h1:=zh4.1 (List.all_eq_true.1 h x hx);simp only [Prod.mk.injEq] at he;have:=(zg7 (n:=n) x.1.toNat.testBit hg.row).1;omega
theorem zz5 {v:List Int} {S:Nat} {h:Nat->Option Int} {B:Int} (hB:0≤B) (hb:∀ y a,h y=some a->0≤a∧a≤B):∀ x∈(List.range (z2f v)).map (fun c=>if part v S c=0 then some 0 else h (part v S c)),∀ a,x=some a->0≤a∧a≤B:=by
 intro x hx a ha;obtain ⟨c,_,rfl⟩:=List.mem_map.1 hx;split at ha
 ·simp only [zI] at ha;omega
 ·exact hb _ _ ha
theorem f37_eq (N:Nat) (hN:5000 < N) {m:z1i} {n:Nat} (hm:MenuP m n) {M:List (Key×Int)} (hM:ValB M) (x:z56) {S:Nat} (hS:S < 2 ^ 62) (hx:x.1=(S:Int)) :
  f37 N m x M=some (((),(bndV m.2.1 S (fun y=>lk M ((y:Int),z0l (x.2.1-1),())) x.2.2.1,())),(M,())):=by
 have hv8:=hm.views;have hn:=hm.few;unfold f37
 rw [z8h m.2.1 (fun v=>match sumV v S (fun y=>lk M ((y:Int),z0l (x.2.1-1),())) with
  | none=>false
  | some s=>decide (s≤x.2.2.1)) (some (((),(true,())),(M,()))) (some (((),(false,())),(M,()))) ?_ ?_ N (by omega)]
 ·unfold bndV
  cases m.2.1.all (fun v=>match sumV v S (fun y=>lk M ((y:Int),z0l (x.2.1-1),())) with
   | none=>false
   | some s=>decide (s≤x.2.2.1)) <;> rfl
 ·intro q w hq;obtain ⟨e1,hv⟩:=hm.at hq;have htl:=z57 hv;have hpl:(z51 (z05 m q) S).length=z2f (z05 m q):=z2v _ _;simp only [zof];rw [z17 hq,cond_true,z0s hq,e1,hx];simp only [Option.bind_some];rw [znx N (by omega) hv hm.pos hm.few hS];simp only [Option.bind_some];have:=iter_sum (F:=fun w_1=>zjm N m.2.1 (len m.2.1) (q:Int) (len (z51 (z05 m q) S)) M x (z51 (z05 m q) S) w_1 (fun t6=>some (((),(t6,())),(M,())))
    (fun t9_1=>cond (decide (x.2.2.1 < t9_1)) (some (((),(false,())),(M,()))) (w (z0l ((q:Int)+1)))))
   ((List.range (z2f (z05 m q))).map fun c=>if part (z05 m q) S c=0 then some 0 else lk M (((part (z05 m q) S c:Nat):Int),z0l (x.2.1-1),())) 1099511627776
   (zz5 (h:=fun y=>lk M ((y:Int),z0l (x.2.1-1),())) (by omega) (fun y a ha=>hM _ _ ha))
   (fun t9_1=>cond (decide (x.2.2.1 < t9_1)) (some (((),(false,())),(M,()))) (w (z0l ((q:Int)+1)))) (some (((),(false,())),(M,()))) ?_ ?_ N (by simp;omega)
  ·rw [this];unfold sumV;split
   ·rename_i hs;rw [hs];rfl
   ·rename_i s hs;rw [hs];rw [z07 (n:=(q:Int)+1) (by omega) (by omega)];by_cases hle:s≤x.2.2.1
    ·have:¬ x.2.2.1 < s:=by omega
     simp [hle,this]
    ·have:x.2.2.1 < s:=by omega
     simp [hle,this]
  ·intro c s w2 hc h0 h1;have hc':c < z2f (z05 m q):=by simpa using hc
   have hcp:c < (z51 (z05 m q) S).length:=by omega
   have hs:s≤62*1099511627776:=by
    have:(c:Int)*1099511627776≤62*1099511627776:=by omega
    omega
   simp only [zjm];rw [z17 hcp,cond_true,z0h (z2m hcp),z0s hcp];have e2:(z51 (z05 m q) S)[c]=((part (z05 m q) S c:Nat):Int):=z4l _;simp only [Option.bind_some,e2,List.getElem_map,List.getElem_range,z99 eqK];rw [z07 (n:=(c:Int)+1) (by omega) (by omega)];by_cases hp:part (z05 m q) S c=0
   ·simp [hp]
   ·have hp':¬ (((part (z05 m q) S c:Nat):Int)=0):=by omega
    rw [if_neg hp,decide_eq_false hp',cond_false]
    cases hl:lk M (((part (z05 m q) S c:Nat):Int),z0l (x.2.1-1),()) with
    | none=>simp
    | some a=>
     have:=hM _ _ hl;simp only [Option.isSome_some,Bool.not_true,cond_false,Option.getD_some];rw [z07 (by omega) (by omega)]
  ·intro s w2;have e3:(((List.range (z2f (z05 m q))).map fun c=>if part (z05 m q) S c=0 then some 0 else lk M (((part (z05 m q) S c:Nat):Int),z0l (x.2.1-1),())).length:Int)=len (z51 (z05 m q) S):=by simp [len,hpl]
   simp only [zjm];rw [e3];have e4:decide (len (z51 (z05 m q) S) < len (z51 (z05 m q) S))=false:=by simp
   rw [e4,cond_false]
 ·intro w;simp only [zof];rw [z0v];rfl
theorem zwm (t:List z56) (x:z56):zud (t++[x])=zud t++[((x.1,x.2.1,()),x.2.2.1)]:=by simp [zud]
theorem zz3 {t:List z56} (h:ztv t=true) {k:Nat} (hk:k < t.length):lk (zud (t.take k)) (t[k].1,t[k].2.1,())=none:=by
 rw [zqi];intro p hp;simp only [zud,List.mem_map] at hp;obtain ⟨x,hx,rfl⟩:=hp;obtain ⟨i,hi,rfl⟩:=List.mem_iff_getElem.1 hx;simp only [List.length_take] at hi;rw [List.getElem_take];intro he;simp only [Prod.mk.injEq,and_true] at he;have:=zrj h (i:=i) (k-i-1) (by omega);have e:i+(k-i-1+1)=k:=by omega
 simp only [e] at this;exact befB_ne this he
theorem f13_eq (N:Nat) (hN:5000 < N) (m:z1i) (g:List (List Int)) (k:Int) (t:List z56) (b:Int):f13 N m g k t b=some (zvw m g k t b):=by
 unfold f13 zvw;rw [zsx N (by omega)];simp only [Option.bind_some]
 cases ha:zr5 m g k with
 | false=>rfl
 | true=>
 simp only [if_true,decide_true,Bool.not_true,cond_false];simp only [zr5,zA,decide_eq_true_eq] at ha;obtain ⟨⟨⟨hmo,hgo⟩,hk0⟩,hk8⟩:=ha;have hm:=zhx hmo;have hsec:=hm.secrets;rw [hsec] at hgo;have hg:=gainP hgo;generalize m.1.toNat=n at hm hg hsec;by_cases hl:t.length≤4096
 ·have e1:decide (4096 < len t)=false:=by simp [len];omega
  rw [e1,cond_false,if_pos hl,zpy N hN t hl]
  cases hs:ztv t with
  | false=>rfl
  | true=>
  simp only [if_true];refine z2h (fun i M=>M=zud (t.take i)∧(t.take i).all (zcg g n)=true) t.length ?_ ?_ N (by omega) _ ⟨rfl,by simp⟩
  ·rintro i M w hi ⟨rfl,hall⟩ hw;have hs1:=z1h hi;have hfail:zcg g n t[i]=false->t.all (zcg g n)=false:=fun hh=>by
    rw [List.all_eq_false];exact ⟨_,List.getElem_mem hi,by simp [hh]⟩
   simp only [zgz];rw [z17 hi,cond_true,z0s hi];simp only [Option.bind_some];by_cases c1:t[i].2.1 < 0
   ·rw [hfail (by simp [zcg];omega)];simp [c1]
   by_cases c2:t[i].1 < 1
   ·rw [hfail (by simp [zcg];omega)];simp [c1,c2]
   rw [zsw N hm];by_cases c3:(z6u n:Int) < t[i].1
   ·rw [hfail (by simp [zcg];omega)];simp [c1,c2,c3]
   obtain ⟨S,hS⟩:=Int.eq_ofNat_of_zero_le (show 0≤t[i].1 by omega);have hSl:S < 2 ^ 62:=zsc hm.few (by have:=zhl n;omega);rw [hS,zxt N (by omega) hg hm.few hSl];have c2':¬ ((S:Int) < 1):=by omega
   have c3':¬ ((z6u n:Int) < (S:Int)):=by omega
   have eS:t[i].1.toNat=S:=by omega
   by_cases c4:t[i].2.2.1 < z1m g n S.testBit
   ·rw [hfail (by simp [zcg,eS];omega)];simp [c1,c2',c3',c4]
   by_cases c5:1099511627776 < t[i].2.2.1
   ·rw [hfail (by simp [zcg];omega)];simp [c1,c2',c3',c4,c5]
   have hent:zcg g n t[i]=true:=zh4.2 ⟨by omega,by omega,by omega,by rw [eS];omega,by omega⟩;simp only [c1,c2',c3',c4,c5,decide_false,cond_false,Option.bind_some];rw [z07 (n:=(i:Int)+1) (by omega) (by omega),zfy eqK];refine hw _ ⟨?_,?_⟩
   ·rw [hs1,zwm,←hS];exact zvv (zz3 hs hi)
   ·rw [hs1,List.all_append,hall];simp [hent]
  ·rintro M w ⟨rfl,hall⟩;rw [List.take_length] at hall ⊢;simp only [zgz];rw [z0v,cond_false,hall];simp only [if_true];have hM:=valB_of hg hall;refine z2h (fun i M=>M=zud t∧(t.take i).all (zq6 m t)=true) t.length ?_ ?_ N (by omega) _ ⟨rfl,by simp⟩
   ·rintro i M w hi ⟨rfl,hrel⟩ hw;have hs1:=z1h hi;have hent:=zh4.1 (List.all_eq_true.1 hall _ (List.getElem_mem hi));obtain ⟨S,hS⟩:=Int.eq_ofNat_of_zero_le (show 0≤t[i].1 by omega);have hSl:S < 2 ^ 62:=zsc hm.few (by have:=zhl n;omega);have eS:t[i].1.toNat=S:=by omega
    simp only [zgy];rw [z17 hi,cond_true,z0s hi];simp only [Option.bind_some];rw [z07 (n:=(i:Int)+1) (by omega) (by omega),f37_eq N hN hm hM _ hSl hS];simp only [Option.bind_some];by_cases c1:0 < t[i].2.1
    ·rw [decide_eq_true c1,cond_true];have er:zq6 m t t[i]=bndV m.2.1 S (fun y=>lk (zud t) ((y:Int),z0l (t[i].2.1-1),())) t[i].2.2.1:=by
      simp only [zq6,c1,decide_true,Bool.not_true,Bool.false_or,eS];rfl
     cases hb:bndV m.2.1 S (fun y=>lk (zud t) ((y:Int),z0l (t[i].2.1-1),())) t[i].2.2.1 with
     | true=>
      simp only [Bool.not_true,cond_false]
      exact hw _ ⟨rfl,by rw [hs1,List.all_append,hrel];simp [er,hb]⟩
     | false=>
      have:t.all (zq6 m t)=false:=by
       rw [List.all_eq_false];exact ⟨_,List.getElem_mem hi,by simp [er,hb]⟩
      rw [this];rfl
    ·rw [decide_eq_false c1,cond_false];refine hw _ ⟨rfl,?_⟩;rw [hs1,List.all_append,hrel];simp [zq6,c1]
   ·rintro M w ⟨rfl,hrel⟩;rw [List.take_length] at hrel;simp only [zgy];rw [z0v,cond_false,hrel,zsw N hm];simp only [if_true,Option.bind_some,z99 eqK,look]
    cases lk (zud t) ((z6u n:Int),k,()) with
    | none=>rfl
    | some v=>
     simp only [Option.isSome_some,Bool.not_true,cond_false,Option.getD_some,Option.bind_some];by_cases hb:b < v <;> simp [hb]
 ·have e1:decide (4096 < len t)=true:=by simp [len];omega
  rw [e1,cond_true,if_neg hl]
end Go.Kz
