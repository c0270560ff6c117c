/-
  The layer adaptive: Prove and the reference's; plain laws.
-/
import Derived.Test.YtnjfafnflbackaaKzF4
set_option linter.unusedVariables false
set_option linter.unusedSimpArgs false
namespace Go.Kz
def zhc:List (Option Int)->Option Int
 | []=>some 0
 | x :: l=>x.bind fun a=>(zhc l).map (a + ·)
theorem zjo:(l m:List (Option Int))->zhc (l++m)=(zhc l).bind fun s=>(zhc m).map (s + ·)
 | [],m=>by simp [zhc]
 | x :: l,m=>by
  simp only [List.cons_append,zhc,zjo l m]
  cases x with
  | none=>rfl
  | some a=>
   simp only [Option.bind_some]
   cases zhc l with
   | none=>rfl
   | some s=>
    simp only [Option.bind_some,Option.map_some]
    cases zhc m with
    | none=>rfl
    | some r=>simp only [Option.map_some,Int.add_assoc]
theorem zll (l:List (Option Int)) (x:Option Int):zhc (l++[x])=(zhc l).bind fun s=>x.map (s + ·):=by
 rw [zjo];cases x <;> simp [zhc]
theorem zul {α:Type} (p:α->Bool) (h:α->Option Int):(l:List α)->zhc (l.map fun x=>if p x then h x else some 0)=zhc ((l.filter p).map h)
 | []=>rfl
 | x :: l=>by
  have ih:=zul p h l
  cases hp:p x with
  | true=>simp [zhc,hp,ih]
  | false=>
   simp only [List.map_cons,hp,Bool.false_eq_true,if_false,zhc,Option.bind_some,ih,List.filter_cons];cases zhc ((l.filter p).map h) <;> simp
theorem zrp {R:Type} {F:(Int×Int->Option R)->Int×Int->Option R} (l:List (Option Int)) (B:Int) (hb:∀ x∈l,∀ a,x=some a->0≤a∧a≤B) (A:Int->Option R) (E:Option R)
  (step:∀ (k:Nat) (s:Int) (w:Int×Int->Option R) (hk:k < l.length),0≤s->s≤k*B->F w ((k:Int),s)=match l[k] with
   | none=>E
   | some a=>w ((k:Int)+1,s+a))
  (last:∀ (s:Int) (w:Int×Int->Option R),F w ((l.length:Int),s)=A s) (N:Nat) (hN:l.length < N):iter F N (0,0)=match zhc l with
   | none=>E
   | some s=>A s:=by
 refine z2f (fun k s=>zhc (l.take k)=some s∧0≤s∧s≤k*B) l.length ?_ ?_ N hN 0 ⟨by simp [zhc],by omega,by simp⟩
 ·rintro k s w hk ⟨h1,h2,h3⟩ hw;rw [step k s w hk h2 h3];have hs:=z1s hk
  cases hx:l[k] with
  | none=>
   have:zhc l=none:=by
    conv=>lhs;rw [←List.take_append_drop (k+1) l,zjo,hs,zll,h1,hx]
    rfl
   rw [this]
  | some a=>
   have hb':=hb _ (List.getElem_mem hk) a hx;refine hw _ ⟨?_,by omega,?_⟩
   ·rw [hs,zll,h1,hx];rfl
   ·push_cast;rw [Int.add_mul,Int.one_mul];omega
 ·rintro s w ⟨h1,_,_⟩;rw [List.take_length] at h1;rw [last s w,h1]
def sumV (v:List Int) (S:Nat) (h:Nat->Option Int):Option Int:=zhc ((List.range (z3c v)).map fun c=>if z17 v S c=0 then some 0 else h (z17 v S c))
theorem zt1 (v:List Int) (S:Nat) (h:Nat->Option Int):sumV v S h=zhc ((z4h v S).map h):=by
 have:=zul (fun y=>decide (y≠0)) h ((List.range (z3c v)).map (z17 v S));rw [z4h,←this,sumV,List.map_map];congr 1;apply List.map_congr_left;intro c _;by_cases hp:z17 v S c=0 <;> simp [hp]
def bndV (vs:List (List Int)) (S:Nat) (h:Nat->Option Int) (b:Int):Bool:=vs.all fun v=>match sumV v S h with
 | none=>false
 | some s=>decide (s≤b)
def z6i (g:List (List Int)) (n:Nat) (x:z5k):Bool:=decide (0≤x.2.1) && decide (1≤x.1) && decide (x.1≤(z8p n:Int)) && decide (z26 g n x.1.toNat.testBit≤x.2.2.1) && decide (x.2.2.1≤1099511627776)
def ztj (t:List z5k) (x:z5k):Nat->Option Int:=fun y=>zzs t (y:Int) (z0i (x.2.1-1))
def zfb (m:z1z) (t:List z5k) (x:z5k):Bool:=!decide (0 < x.2.1) || bndV m.2.1 x.1.toNat (ztj t x) x.2.2.1
def zm3 (m:z1z) (g:List (List Int)) (k:Int) (t:List z5k) (b:Int):Int:=
 if zqe m g k then
  if t.length≤4096 then
   if zlp t then
    if t.all (z6i g m.1.toNat) then
     if t.all (zfb m t) then
      match zzs t (z8p m.1.toNat) k with
      | none=>13
      | some v=>if b < v then 13 else 0
     else 13
    else 13
   else 10
  else 4
 else 1
theorem z9b {g:List (List Int)} {n:Nat} {x:z5k}:z6i g n x=true↔0≤x.2.1∧1≤x.1∧x.1≤(z8p n:Int)∧z26 g n x.1.toNat.testBit≤x.2.2.1∧x.2.2.1≤1099511627776:=by
 simp [z6i,and_assoc]
def ValB (M:List (Key×Int)):Prop:=∀ key v,lk M key=some v->0≤v∧v≤1099511627776
theorem zug {g:List (List Int)} {n:Nat} {t:List z5k} (hg:GainP g n) (h:t.all (z6i g n)=true):ValB (zri t):=by
 intro key v hv;have:=lk_mem hv;simp only [zri,List.mem_map] at this;obtain ⟨x,hx,he⟩:=this;have h1:=z9b.1 (List.all_eq_true.1 h x hx);simp only [Prod.mk.injEq] at he;have:=(zfu (n:=n) x.1.toNat.testBit hg.row).1;omega
theorem zyh {v:List Int} {S:Nat} {h:Nat->Option Int} {B:Int} (hB:0≤B) (hb:∀ y a,h y=some a->0≤a∧a≤B):∀ x∈(List.range (z3c v)).map (fun c=>if z17 v S c=0 then some 0 else h (z17 v S c)),∀ a,x=some a->0≤a∧a≤B:=by
 intro x hx a ha;obtain ⟨c,_,rfl⟩:=List.mem_map.1 hx;split at ha
 ·simp only [zI] at ha;omega
 ·exact hb _ _ ha
theorem f37_eq (N:Nat) (hN:5000 < N) {m:z1z} {n:Nat} (hm:MenuP m n) {M:List (Key×Int)} (hM:ValB M) (x:z5k) {S:Nat} (hS:S < 2 ^ 62) (hx:x.1=(S:Int)) :
  f37 N m x M=some (((),(bndV m.2.1 S (fun y=>lk M ((y:Int),z0i (x.2.1-1),())) x.2.2.1,())),(M,())):=by
 have hv8:=hm.views;have hn:=hm.few;unfold f37
 rw [z5u m.2.1 (fun v=>match sumV v S (fun y=>lk M ((y:Int),z0i (x.2.1-1),())) with
  | none=>false
  | some s=>decide (s≤x.2.2.1)) (some (((),(true,())),(M,()))) (some (((),(false,())),(M,()))) ?_ ?_ N (by omega)]
 ·unfold bndV
  cases m.2.1.all (fun v=>match sumV v S (fun y=>lk M ((y:Int),z0i (x.2.1-1),())) with
   | none=>false
   | some s=>decide (s≤x.2.2.1)) <;> rfl
 ·intro q w hq;obtain ⟨e1,hv⟩:=hm.at hq;have htl:=z7z hv;have hpl:(z4w (z0a m q) S).length=z3c (z0a m q):=z2q _ _;simp only [znq];rw [z1c hq,cond_true,z0v hq,e1,hx];simp only [Option.bind_some];rw [zn8 N (by omega) hv hm.pos hm.few hS];simp only [Option.bind_some];have:=zrp (F:=fun w_1=>zj0 N m.2.1 (len m.2.1) (q:Int) (len (z4w (z0a m q) S)) M x (z4w (z0a m q) S) w_1 (fun t6=>some (((),(t6,())),(M,())))
    (fun t9_1=>cond (decide (x.2.2.1 < t9_1)) (some (((),(false,())),(M,()))) (w (z0i ((q:Int)+1)))))
   ((List.range (z3c (z0a m q))).map fun c=>if z17 (z0a m q) S c=0 then some 0 else lk M (((z17 (z0a m q) S c:Nat):Int),z0i (x.2.1-1),())) 1099511627776
   (zyh (h:=fun y=>lk M ((y:Int),z0i (x.2.1-1),())) (by omega) (fun y a ha=>hM _ _ ha))
   (fun t9_1=>cond (decide (x.2.2.1 < t9_1)) (some (((),(false,())),(M,()))) (w (z0i ((q:Int)+1)))) (some (((),(false,())),(M,()))) ?_ ?_ N (by simp;omega)
  ·rw [this];unfold sumV;split
   ·rename_i hs;rw [hs];rfl
   ·rename_i s hs;rw [hs];rw [z09 (n:=(q:Int)+1) (by omega) (by omega)];by_cases hle:s≤x.2.2.1
    ·have:¬ x.2.2.1 < s:=by omega
     simp [hle,this]
    ·have:x.2.2.1 < s:=by omega
     simp [hle,this]
  ·intro c s w2 hc h0 h1;have hc':c < z3c (z0a m q):=by simpa using hc
   have hcp:c < (z4w (z0a m q) S).length:=by omega
   have hs:s≤62*1099511627776:=by
    have:(c:Int)*1099511627776≤62*1099511627776:=by omega
    omega
   simp only [zj0];rw [z1c hcp,cond_true,z0u (z3y hcp),z0v hcp];have e2:(z4w (z0a m q) S)[c]=((z17 (z0a m q) S c:Nat):Int):=z4k _;simp only [Option.bind_some,e2,List.getElem_map,List.getElem_range,zau eqK];rw [z09 (n:=(c:Int)+1) (by omega) (by omega)];by_cases hp:z17 (z0a m q) S c=0
   ·simp [hp]
   ·have hp':¬ (((z17 (z0a m q) S c:Nat):Int)=0):=by omega
    rw [if_neg hp,decide_eq_false hp',cond_false]
    cases hl:lk M (((z17 (z0a m q) S c:Nat):Int),z0i (x.2.1-1),()) with
    | none=>simp
    | some a=>
     have:=hM _ _ hl;simp only [Option.isSome_some,Bool.not_true,cond_false,Option.getD_some];rw [z09 (by omega) (by omega)]
  ·intro s w2;have e3:(((List.range (z3c (z0a m q))).map fun c=>if z17 (z0a m q) S c=0 then some 0 else lk M (((z17 (z0a m q) S c:Nat):Int),z0i (x.2.1-1),())).length:Int)=len (z4w (z0a m q) S):=by simp [len,hpl]
   simp only [zj0];rw [e3];have e4:decide (len (z4w (z0a m q) S) < len (z4w (z0a m q) S))=false:=by simp
   rw [e4,cond_false]
 ·intro w;simp only [znq];rw [z0z];rfl
theorem zvr (t:List z5k) (x:z5k):zri (t++[x])=zri t++[((x.1,x.2.1,()),x.2.2.1)]:=by simp [zri]
theorem zyf {t:List z5k} (h:zlp t=true) {k:Nat} (hk:k < t.length):lk (zri (t.take k)) (t[k].1,t[k].2.1,())=none:=by
 rw [zpo];intro p hp;simp only [zri,List.mem_map] at hp;obtain ⟨x,hx,rfl⟩:=hp;obtain ⟨i,hi,rfl⟩:=List.mem_iff_getElem.1 hx;simp only [List.length_take] at hi;rw [List.getElem_take];intro he;simp only [Prod.mk.injEq,and_true] at he;have:=zqs h (i:=i) (k-i-1) (by omega);have e:i+(k-i-1+1)=k:=by omega
 simp only [e] at this;exact befB_ne this he
theorem f13_eq (N:Nat) (hN:5000 < N) (m:z1z) (g:List (List Int)) (k:Int) (t:List z5k) (b:Int):f13 N m g k t b=some (zm3 m g k t b):=by
 unfold f13 zm3;rw [zx0 N (by omega)];simp only [Option.bind_some]
 cases ha:zqe m g k with
 | false=>rfl
 | true=>
 simp only [if_true,decide_true,Bool.not_true,cond_false];simp only [zqe,zA,decide_eq_true_eq] at ha;obtain ⟨⟨⟨hmo,hgo⟩,hk0⟩,hk8⟩:=ha;have hm:=zkb hmo;have hsec:=hm.secrets;rw [hsec] at hgo;have hg:=gainP hgo;generalize m.1.toNat=n at hm hg hsec;by_cases hl:t.length≤4096
 ·have e1:decide (4096 < len t)=false:=by simp [len];omega
  rw [e1,cond_false,if_pos hl,zp4 N hN t hl]
  cases hs:zlp t with
  | false=>rfl
  | true=>
  simp only [if_true];refine z2f (fun i M=>M=zri (t.take i)∧(t.take i).all (z6i g n)=true) t.length ?_ ?_ N (by omega) _ ⟨rfl,by simp⟩
  ·rintro i M w hi ⟨rfl,hall⟩ hw;have hs1:=z1s hi;have hfail:z6i g n t[i]=false->t.all (z6i g n)=false:=fun hh=>by
    rw [List.all_eq_false];exact ⟨_,List.getElem_mem hi,by simp [hh]⟩
   simp only [zgo];rw [z1c hi,cond_true,z0v hi];simp only [Option.bind_some];by_cases c1:t[i].2.1 < 0
   ·rw [hfail (by simp [z6i];omega)];simp [c1]
   by_cases c2:t[i].1 < 1
   ·rw [hfail (by simp [z6i];omega)];simp [c1,c2]
   rw [zs7 N hm];by_cases c3:(z8p n:Int) < t[i].1
   ·rw [hfail (by simp [z6i];omega)];simp [c1,c2,c3]
   obtain ⟨S,hS⟩:=Int.eq_ofNat_of_zero_le (show 0≤t[i].1 by omega);have hSl:S < 2 ^ 62:=zy4 hm.few (by have:=zh8 n;omega);rw [hS,zwy N (by omega) hg hm.few hSl];have c2':¬ ((S:Int) < 1):=by omega
   have c3':¬ ((z8p n:Int) < (S:Int)):=by omega
   have eS:t[i].1.toNat=S:=by omega
   by_cases c4:t[i].2.2.1 < z26 g n S.testBit
   ·rw [hfail (by simp [z6i,eS];omega)];simp [c1,c2',c3',c4]
   by_cases c5:1099511627776 < t[i].2.2.1
   ·rw [hfail (by simp [z6i];omega)];simp [c1,c2',c3',c4,c5]
   have hent:z6i g n t[i]=true:=z9b.2 ⟨by omega,by omega,by omega,by rw [eS];omega,by omega⟩;simp only [c1,c2',c3',c4,c5,decide_false,cond_false,Option.bind_some];rw [z09 (n:=(i:Int)+1) (by omega) (by omega),zka eqK];refine hw _ ⟨?_,?_⟩
   ·rw [hs1,zvr,←hS];exact zv5 (zyf hs hi)
   ·rw [hs1,List.all_append,hall];simp [hent]
  ·rintro M w ⟨rfl,hall⟩;rw [List.take_length] at hall ⊢;simp only [zgo];rw [z0z,cond_false,hall];simp only [if_true];have hM:=zug hg hall;refine z2f (fun i M=>M=zri t∧(t.take i).all (zfb m t)=true) t.length ?_ ?_ N (by omega) _ ⟨rfl,by simp⟩
   ·rintro i M w hi ⟨rfl,hrel⟩ hw;have hs1:=z1s hi;have hent:=z9b.1 (List.all_eq_true.1 hall _ (List.getElem_mem hi));obtain ⟨S,hS⟩:=Int.eq_ofNat_of_zero_le (show 0≤t[i].1 by omega);have hSl:S < 2 ^ 62:=zy4 hm.few (by have:=zh8 n;omega);have eS:t[i].1.toNat=S:=by omega
    simp only [zgn];rw [z1c hi,cond_true,z0v hi];simp only [Option.bind_some];rw [z09 (n:=(i:Int)+1) (by omega) (by omega),f37_eq N hN hm hM _ hSl hS];simp only [Option.bind_some];by_cases c1:0 < t[i].2.1
    ·rw [decide_eq_true c1,cond_true];have er:zfb m t t[i]=bndV m.2.1 S (fun y=>lk (zri t) ((y:Int),z0i (t[i].2.1-1),())) t[i].2.2.1:=by
      simp only [zfb,c1,decide_true,Bool.not_true,Bool.false_or,eS];rfl
     cases hb:bndV m.2.1 S (fun y=>lk (zri t) ((y:Int),z0i (t[i].2.1-1),())) t[i].2.2.1 with
     | true=>
      simp only [Bool.not_true,cond_false]
      exact hw _ ⟨rfl,by rw [hs1,List.all_append,hrel];simp [er,hb]⟩
     | false=>
      have:t.all (zfb m t)=false:=by
       rw [List.all_eq_false];exact ⟨_,List.getElem_mem hi,by simp [er,hb]⟩
      rw [this];rfl
    ·rw [decide_eq_false c1,cond_false];refine hw _ ⟨rfl,?_⟩;rw [hs1,List.all_append,hrel];simp [zfb,c1]
   ·rintro M w ⟨rfl,hrel⟩;rw [List.take_length] at hrel;simp only [zgn];rw [z0z,cond_false,hrel,zs7 N hm];simp only [if_true,Option.bind_some,zau eqK,zzs]
    cases lk (zri t) ((z8p n:Int),k,()) with
    | none=>rfl
    | some v=>
     simp only [Option.isSome_some,Bool.not_true,cond_false,Option.getD_some,Option.bind_some];by_cases hb:b < v <;> simp [hb]
 ·have e1:decide (4096 < len t)=true:=by simp [len];omega
  rw [e1,cond_true,if_neg hl]
theorem f14_eq (N:Nat) (hN:5000 < N) (m:z1z) (g:List (List Int)) (k:Int) (t:List z5k) (b:Int):f14 N m g k t b=some (zm3 m g k t b):=by
 unfold f14 zm3;rw [f15_eq N (by omega)];simp only [Option.bind_some]
 cases ha:zqe m g k with
 | false=>rfl
 | true=>
 simp only [if_true,Bool.not_true,cond_false];simp only [zqe,zA,decide_eq_true_eq] at ha;obtain ⟨⟨⟨hmo,hgo⟩,hk0⟩,hk8⟩:=ha;have hm:=zkb hmo;have hsec:=hm.secrets;rw [hsec] at hgo;have hg:=gainP hgo;generalize m.1.toNat=n at hm hg hsec;have hv8:=hm.views;have hn:=hm.few;by_cases hl:t.length≤4096
 ·have e1:decide (4096 < len t)=false:=by simp [len];omega
  rw [e1,cond_false,if_pos hl,zp3 N hN t hl]
  cases hs:zlp t with
  | false=>rfl
  | true=>
  simp only [if_true];refine zfz (fun i=>(t.take i).all (z6i g n)=true) t.length ?_ ?_ N (by omega) (by simp)
  ·intro i w hi hal hw;have hs1:=z1s hi;have hfail:z6i g n t[i]=false->t.all (z6i g n)=false:=fun hh=>by
    rw [List.all_eq_false];exact ⟨_,List.getElem_mem hi,by simp [hh]⟩
   simp only [zgl];rw [z1c hi,cond_true,z0v hi];simp only [Option.bind_some];by_cases c1:t[i].2.1 < 0
   ·rw [hfail (by simp [z6i];omega)];simp [c1]
   by_cases c2:t[i].1 < 1
   ·rw [hfail (by simp [z6i];omega)];simp [c1,c2]
   rw [f39_eq N hm];by_cases c3:(z8p n:Int) < t[i].1
   ·rw [hfail (by simp [z6i];omega)];simp [c1,c2,c3]
   obtain ⟨S,hS⟩:=Int.eq_ofNat_of_zero_le (show 0≤t[i].1 by omega);have hSl:S < 2 ^ 62:=zy4 hm.few (by have:=zh8 n;omega);have eS:t[i].1.toNat=S:=by omega
   rw [hS,f40_eq N (by omega) hm hg hSl];have c2':¬ ((S:Int) < 1):=by omega
   have c3':¬ ((z8p n:Int) < (S:Int)):=by omega
   by_cases c4:t[i].2.2.1 < z26 g n S.testBit
   ·rw [hfail (by simp [z6i,eS];omega)];simp [c1,c2',c3',c4]
   by_cases c5:1099511627776 < t[i].2.2.1
   ·rw [hfail (by simp [z6i];omega)];simp [c1,c2',c3',c4,c5]
   have hent:z6i g n t[i]=true:=z9b.2 ⟨by omega,by omega,by omega,by rw [eS];omega,by omega⟩;simp only [c1,c2',c3',c4,c5,decide_false,cond_false,Option.bind_some];rw [z09 (n:=(i:Int)+1) (by omega) (by omega)];exact hw (by rw [hs1,List.all_append,hal];simp [hent])
  ·intro w hall;rw [List.take_length] at hall;simp only [zgl];rw [z0z,cond_false,hall];simp only [if_true]
   ·have hM:=zug hg hall
    rw [z5u t (zfb m t) (some (match zzs t (z8p n) k with
      | none=>13
      | some v=>if b < v then 13 else 0)) (some 13) ?_ ?_ N (by omega)]
    ·cases t.all (zfb m t) <;> rfl
    ·intro i w hi;have hent:=z9b.1 (List.all_eq_true.1 hall _ (List.getElem_mem hi));obtain ⟨S,hS⟩:=Int.eq_ofNat_of_zero_le (show 0≤t[i].1 by omega);have hSl:S < 2 ^ 62:=zy4 hm.few (by have:=zh8 n;omega);have eS:t[i].1.toNat=S:=by omega
     simp only [zgk];rw [z1c hi,cond_true,z0v hi];simp only [Option.bind_some];rw [z09 (n:=(i:Int)+1) (by omega) (by omega)]
     rw [z5u m.2.1 (fun v=>decide (t[i].2.1=0) || (match sumV v S (ztj t t[i]) with
      | none=>false
      | some s=>decide (s≤t[i].2.2.1))) (w ((i:Int)+1)) (some 13) ?_ ?_ N (by omega)]
     ·have er:zfb m t t[i]=m.2.1.all (fun v=>decide (t[i].2.1=0) || (match sumV v S (ztj t t[i]) with
        | none=>false
        | some s=>decide (s≤t[i].2.2.1))):=by
       simp only [zfb,eS,bndV];by_cases c1:t[i].2.1=0
       ·simp [c1]
       ·have:0 < t[i].2.1:=by omega
        simp only [this,decide_true,Bool.not_true,Bool.false_or,c1,decide_false]
      rw [er]
     ·intro q w2 hq;obtain ⟨e1,hv⟩:=hm.at hq;have htl:=z7z hv;simp only [zgj];rw [z1c hq,cond_true,z09 (n:=(q:Int)+1) (by omega) (by omega)];by_cases c1:t[i].2.1=0
      ·simp [c1]
      ·rw [decide_eq_false c1,cond_false,hS,f41_eq N (by omega) hm hq hSl,e1];simp only [Option.bind_some,Bool.false_or];have hpn:(z4h (z0a m q) S).length≤62:=by
        have:=List.length_filter_le (fun y=>decide (y≠0)) ((List.range (z3c (z0a m q))).map (z17 (z0a m q) S));simp only [List.length_map,List.length_range] at this;simp only [z4h];omega
       have:=zrp (F:=fun w_1=>zd2 N t t k b (len t) (i:Int) (len m.2.1) (q:Int) (len (zrq (z4h (z0a m q) S))) t[i] (zrq (z4h (z0a m q) S)) m w_1 (fun t10_2=>some t10_2)
         (fun t17_1=>cond (decide (t[i].2.2.1 < t17_1)) (some 13) (w2 ((q:Int)+1))))
        ((z4h (z0a m q) S).map (ztj t t[i])) 1099511627776
        (fun y hy a ha=>by
         obtain ⟨z,_,rfl⟩:=List.mem_map.1 hy;exact hM _ _ ha)
        (fun t17_1=>cond (decide (t[i].2.2.1 < t17_1)) (some 13) (w2 ((q:Int)+1))) (some 13) ?_ ?_ N (by simp;omega)
       ·have this':=this;rw [zt1];refine Eq.trans ?_ (Eq.trans this' ?_)
        ·rfl
        ·split
         ·rfl
         ·rename_i s hs;by_cases hle:s≤t[i].2.2.1
          ·have:¬ t[i].2.2.1 < s:=by omega
           simp [hle,this]
          ·have:t[i].2.2.1 < s:=by omega
           simp [hle,this]
       ·intro c s w3 hc h0 h1;have hc':c < (z4h (z0a m q) S).length:=by simpa using hc
        have hci:c < (zrq (z4h (z0a m q) S)).length:=by rw [zkg];exact hc'
        have hs:s≤62*1099511627776:=by
         have:(c:Int)*1099511627776≤62*1099511627776:=by omega
         omega
        simp only [zd2];rw [z1c hci,cond_true,z0u (z3y hci),z0v hci];have e2:(zrq (z4h (z0a m q) S))[c]=(((z4h (z0a m q) S)[c]:Nat):Int):=by simp [zrq]
        simp only [Option.bind_some,e2,List.getElem_map];obtain ⟨r,hr,hr2⟩:=f42_eq N hN t hl (((z4h (z0a m q) S)[c]:Nat):Int) (z0i (t[i].2.1-1));rw [hr];simp only [Option.bind_some,ztj]
        cases hlk:zzs t (((z4h (z0a m q) S)[c]:Nat):Int) (z0i (t[i].2.1-1)) with
        | none=>rw [hlk] at hr2;simp only at hr2;subst hr2;rfl
        | some a=>
         rw [hlk] at hr2;simp only at hr2;obtain ⟨hr0,y,hy,hya⟩:=hr2;have hb:=hM _ _ hlk;have e5:decide (r < 0)=false:=by simp;omega
         rw [e5,cond_false,hy];simp only [Option.bind_some];rw [hya,z09 (by omega) (by omega),z09 (by omega) (by omega)]
       ·intro s w3;have e3:(((z4h (z0a m q) S).map (ztj t t[i])).length:Int)=len (zrq (z4h (z0a m q) S)):=by simp [len,zkg]
        simp only [zd2];rw [e3];have e4:decide (len (zrq (z4h (z0a m q) S)) < len (zrq (z4h (z0a m q) S)))=false:=by simp
        rw [e4,cond_false]
     ·intro w2;simp only [zgj];rw [z0z];rfl
    ·intro w2;simp only [zgk];rw [z0z,cond_false,f39_eq N hm];simp only [Option.bind_some];obtain ⟨r,hr,hr2⟩:=f42_eq N hN t hl (z8p n:Int) k;rw [hr];simp only [Option.bind_some]
     cases hlk:zzs t (z8p n:Int) k with
     | none=>rw [hlk] at hr2;simp only at hr2;subst hr2;rfl
     | some a=>
      rw [hlk] at hr2;simp only at hr2;obtain ⟨hr0,y,hy,hya⟩:=hr2;have e5:decide (r < 0)=false:=by simp;omega
      rw [e5,cond_false,hy];simp only [Option.bind_some,hya];by_cases hb:b < a <;> simp [hb]
 ·have e1:decide (4096 < len t)=true:=by simp [len];omega
  rw [e1,cond_true,if_neg hl]
end Go.Kz
