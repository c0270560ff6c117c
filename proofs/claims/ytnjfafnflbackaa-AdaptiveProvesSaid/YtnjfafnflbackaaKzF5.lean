/-
  The layer adaptive: Prove and the reference's; plain laws.
-/
import Derived.Test.YtnjfafnflbackaaKzF4
set_option linter.unusedVariables false
set_option linter.unusedSimpArgs false
namespace Go.Kz
def zh9:List (Option Int)->Option Int
 | []=>some 0
 | x :: l=>x.bind fun a=>(zh9 l).map (a + ·)
theorem zjm:(l m:List (Option Int))->zh9 (l++m)=(zh9 l).bind fun s=>(zh9 m).map (s + ·)
 | [],m=>by simp [zh9]
 | x :: l,m=>by
  simp only [List.cons_append,zh9,zjm l m]
  cases x with
  | none=>rfl
  | some a=>
   simp only [Option.bind_some]
   cases zh9 l with
   | none=>rfl
   | some s=>
    simp only [Option.bind_some,Option.map_some]
    cases zh9 m with
    | none=>rfl
    | some r=>simp only [Option.map_some,Int.add_assoc]
theorem zlj (l:List (Option Int)) (x:Option Int):zh9 (l++[x])=(zh9 l).bind fun s=>x.map (s + ·):=by
 rw [zjm];cases x <;> simp [zh9]
theorem zuh {α:Type} (p:α->Bool) (h:α->Option Int):(l:List α)->zh9 (l.map fun x=>if p x then h x else some 0)=zh9 ((l.filter p).map h)
 | []=>rfl
 | x :: l=>by
  have ih:=zuh p h l
  cases hp:p x with
  | true=>simp [zh9,hp,ih]
  | false=>
   simp only [List.map_cons,hp,Bool.false_eq_true,if_false,zh9,Option.bind_some,ih,List.filter_cons];cases zh9 ((l.filter p).map h) <;> simp
theorem zrl {R:Type} {F:(Int×Int->Option R)->Int×Int->Option R} (l:List (Option Int)) (B:Int) (hb:∀ x∈l,∀ a,x=some a->0≤a∧a≤B) (A:Int->Option R) (E:Option R)
  (step:∀ (k:Nat) (s:Int) (w:Int×Int->Option R) (hk:k < l.length),0≤s->s≤k*B->F w ((k:Int),s)=match l[k] with
   | none=>E
   | some a=>w ((k:Int)+1,s+a))
  (last:∀ (s:Int) (w:Int×Int->Option R),F w ((l.length:Int),s)=A s) (N:Nat) (hN:l.length < N):iter F N (0,0)=match zh9 l with
   | none=>E
   | some s=>A s:=by
 refine z2d (fun k s=>zh9 (l.take k)=some s∧0≤s∧s≤k*B) l.length ?_ ?_ N hN 0 ⟨by simp [zh9],by omega,by simp⟩
 ·rintro k s w hk ⟨h1,h2,h3⟩ hw;rw [step k s w hk h2 h3];have hs:=z1o hk
  cases hx:l[k] with
  | none=>
   have:zh9 l=none:=by
    conv=>lhs;rw [←List.take_append_drop (k+1) l,zjm,hs,zlj,h1,hx]
    rfl
   rw [this]
  | some a=>
   have hb':=hb _ (List.getElem_mem hk) a hx;refine hw _ ⟨?_,by omega,?_⟩
   ·rw [hs,zlj,h1,hx];rfl
   ·push_cast;rw [Int.add_mul,Int.one_mul];omega
 ·rintro s w ⟨h1,_,_⟩;rw [List.take_length] at h1;rw [last s w,h1]
def sumV (v:List Int) (S:Nat) (h:Nat->Option Int):Option Int:=zh9 ((List.range (z38 v)).map fun c=>if part v S c=0 then some 0 else h (part v S c))
theorem zsw (v:List Int) (S:Nat) (h:Nat->Option Int):sumV v S h=zh9 ((z4e v S).map h):=by
 have:=zuh (fun y=>decide (y≠0)) h ((List.range (z38 v)).map (part v S));rw [z4e,←this,sumV,List.map_map];congr 1;apply List.map_congr_left;intro c _;by_cases hp:part v S c=0 <;> simp [hp]
def bndV (vs:List (List Int)) (S:Nat) (h:Nat->Option Int) (b:Int):Bool:=vs.all fun v=>match sumV v S h with
 | none=>false
 | some s=>decide (s≤b)
def z6g (g:List (List Int)) (n:Nat) (x:z5h):Bool:=decide (0≤x.2.1) && decide (1≤x.1) && decide (x.1≤(z8m n:Int)) && decide (z20 g n x.1.toNat.testBit≤x.2.2.1) && decide (x.2.2.1≤1099511627776)
def zte (t:List z5h) (x:z5h):Nat->Option Int:=fun y=>zzg t (y:Int) (z0k (x.2.1-1))
def zf8 (m:z1v) (t:List z5h) (x:z5h):Bool:=!decide (0 < x.2.1) || bndV m.2.1 x.1.toNat (zte t x) x.2.2.1
def zm1 (m:z1v) (g:List (List Int)) (k:Int) (t:List z5h) (b:Int):Int:=
 if zqa m g k then
  if t.length≤4096 then
   if zln t then
    if t.all (z6g g m.1.toNat) then
     if t.all (zf8 m t) then
      match zzg t (z8m m.1.toNat) k with
      | none=>13
      | some v=>if b < v then 13 else 0
     else 13
    else 13
   else 10
  else 4
 else 1
theorem z98 {g:List (List Int)} {n:Nat} {x:z5h}:z6g g n x=true↔0≤x.2.1∧1≤x.1∧x.1≤(z8m n:Int)∧z20 g n x.1.toNat.testBit≤x.2.2.1∧x.2.2.1≤1099511627776:=by
 simp [z6g,and_assoc]
def ValB (M:List (Key×Int)):Prop:=∀ key v,lk M key=some v->0≤v∧v≤1099511627776
theorem zuc {g:List (List Int)} {n:Nat} {t:List z5h} (hg:GainP g n) (h:t.all (z6g g n)=true):ValB (zre t):=by
 intro key v hv;have:=lk_mem hv;simp only [zre,List.mem_map] at this;obtain ⟨x,hx,he⟩:=this;have h1:=z98.1 (List.all_eq_true.1 h x hx);simp only [Prod.mk.injEq] at he;have:=(zfr (n:=n) x.1.toNat.testBit hg.row).1;omega
theorem zy5 {v:List Int} {S:Nat} {h:Nat->Option Int} {B:Int} (hB:0≤B) (hb:∀ y a,h y=some a->0≤a∧a≤B):∀ x∈(List.range (z38 v)).map (fun c=>if part v S c=0 then some 0 else h (part v S c)),∀ a,x=some a->0≤a∧a≤B:=by
 intro x hx a ha;obtain ⟨c,_,rfl⟩:=List.mem_map.1 hx;split at ha
 ·simp only [zI] at ha;omega
 ·exact hb _ _ ha
theorem f37_eq (N:Nat) (hN:5000 < N) {m:z1v} {n:Nat} (hm:MenuP m n) {M:List (Key×Int)} (hM:ValB M) (x:z5h) {S:Nat} (hS:S < 2 ^ 62) (hx:x.1=(S:Int)) :
  f37 N m x M=some (((),(bndV m.2.1 S (fun y=>lk M ((y:Int),z0k (x.2.1-1),())) x.2.2.1,())),(M,())):=by
 have hv8:=hm.views;have hn:=hm.few;unfold f37
 rw [z5s m.2.1 (fun v=>match sumV v S (fun y=>lk M ((y:Int),z0k (x.2.1-1),())) with
  | none=>false
  | some s=>decide (s≤x.2.2.1)) (some (((),(true,())),(M,()))) (some (((),(false,())),(M,()))) ?_ ?_ N (by omega)]
 ·unfold bndV
  cases m.2.1.all (fun v=>match sumV v S (fun y=>lk M ((y:Int),z0k (x.2.1-1),())) with
   | none=>false
   | some s=>decide (s≤x.2.2.1)) <;> rfl
 ·intro q w hq;obtain ⟨e1,hv⟩:=hm.at hq;have htl:=z7x hv;have hpl:(z4t (z0a m q) S).length=z38 (z0a m q):=z2o _ _;simp only [zno];rw [z1b hq,cond_true,z0u hq,e1,hx];simp only [Option.bind_some];rw [zn6 N (by omega) hv hm.pos hm.few hS];simp only [Option.bind_some];have:=zrl (F:=fun w_1=>ziy N m.2.1 (len m.2.1) (q:Int) (len (z4t (z0a m q) S)) M x (z4t (z0a m q) S) w_1 (fun t6=>some (((),(t6,())),(M,())))
    (fun t9_1=>cond (decide (x.2.2.1 < t9_1)) (some (((),(false,())),(M,()))) (w (z0k ((q:Int)+1)))))
   ((List.range (z38 (z0a m q))).map fun c=>if part (z0a m q) S c=0 then some 0 else lk M (((part (z0a m q) S c:Nat):Int),z0k (x.2.1-1),())) 1099511627776
   (zy5 (h:=fun y=>lk M ((y:Int),z0k (x.2.1-1),())) (by omega) (fun y a ha=>hM _ _ ha))
   (fun t9_1=>cond (decide (x.2.2.1 < t9_1)) (some (((),(false,())),(M,()))) (w (z0k ((q:Int)+1)))) (some (((),(false,())),(M,()))) ?_ ?_ N (by simp;omega)
  ·rw [this];unfold sumV;split
   ·rename_i hs;rw [hs];rfl
   ·rename_i s hs;rw [hs];rw [z09 (n:=(q:Int)+1) (by omega) (by omega)];by_cases hle:s≤x.2.2.1
    ·have:¬ x.2.2.1 < s:=by omega
     simp [hle,this]
    ·have:x.2.2.1 < s:=by omega
     simp [hle,this]
  ·intro c s w2 hc h0 h1;have hc':c < z38 (z0a m q):=by simpa using hc
   have hcp:c < (z4t (z0a m q) S).length:=by omega
   have hs:s≤62*1099511627776:=by
    have:(c:Int)*1099511627776≤62*1099511627776:=by omega
    omega
   simp only [ziy];rw [z1b hcp,cond_true,z0p (z3v hcp),z0u hcp];have e2:(z4t (z0a m q) S)[c]=((part (z0a m q) S c:Nat):Int):=z4h _;simp only [Option.bind_some,e2,List.getElem_map,List.getElem_range,zar eqK];rw [z09 (n:=(c:Int)+1) (by omega) (by omega)];by_cases hp:part (z0a m q) S c=0
   ·simp [hp]
   ·have hp':¬ (((part (z0a m q) S c:Nat):Int)=0):=by omega
    rw [if_neg hp,decide_eq_false hp',cond_false]
    cases hl:lk M (((part (z0a m q) S c:Nat):Int),z0k (x.2.1-1),()) with
    | none=>simp
    | some a=>
     have:=hM _ _ hl;simp only [Option.isSome_some,Bool.not_true,cond_false,Option.getD_some];rw [z09 (by omega) (by omega)]
  ·intro s w2;have e3:(((List.range (z38 (z0a m q))).map fun c=>if part (z0a m q) S c=0 then some 0 else lk M (((part (z0a m q) S c:Nat):Int),z0k (x.2.1-1),())).length:Int)=len (z4t (z0a m q) S):=by simp [len,hpl]
   simp only [ziy];rw [e3];have e4:decide (len (z4t (z0a m q) S) < len (z4t (z0a m q) S))=false:=by simp
   rw [e4,cond_false]
 ·intro w;simp only [zno];rw [z0y];rfl
theorem zvn (t:List z5h) (x:z5h):zre (t++[x])=zre t++[((x.1,x.2.1,()),x.2.2.1)]:=by simp [zre]
theorem zy3 {t:List z5h} (h:zln t=true) {k:Nat} (hk:k < t.length):lk (zre (t.take k)) (t[k].1,t[k].2.1,())=none:=by
 rw [zpl];intro p hp;simp only [zre,List.mem_map] at hp;obtain ⟨x,hx,rfl⟩:=hp;obtain ⟨i,hi,rfl⟩:=List.mem_iff_getElem.1 hx;simp only [List.length_take] at hi;rw [List.getElem_take];intro he;simp only [Prod.mk.injEq,and_true] at he;have:=zqo h (i:=i) (k-i-1) (by omega);have e:i+(k-i-1+1)=k:=by omega
 simp only [e] at this;exact befB_ne this he
theorem f13_eq (N:Nat) (hN:5000 < N) (m:z1v) (g:List (List Int)) (k:Int) (t:List z5h) (b:Int):f13 N m g k t b=some (zm1 m g k t b):=by
 unfold f13 zm1;rw [zwt N (by omega)];simp only [Option.bind_some]
 cases ha:zqa m g k with
 | false=>rfl
 | true=>
 simp only [if_true,decide_true,Bool.not_true,cond_false];simp only [zqa,zA,decide_eq_true_eq] at ha;obtain ⟨⟨⟨hmo,hgo⟩,hk0⟩,hk8⟩:=ha;have hm:=zk9 hmo;have hsec:=hm.secrets;rw [hsec] at hgo;have hg:=gainP hgo;generalize m.1.toNat=n at hm hg hsec;by_cases hl:t.length≤4096
 ·have e1:decide (4096 < len t)=false:=by simp [len];omega
  rw [e1,cond_false,if_pos hl,zp2 N hN t hl]
  cases hs:zln t with
  | false=>rfl
  | true=>
  simp only [if_true];refine z2d (fun i M=>M=zre (t.take i)∧(t.take i).all (z6g g n)=true) t.length ?_ ?_ N (by omega) _ ⟨rfl,by simp⟩
  ·rintro i M w hi ⟨rfl,hall⟩ hw;have hs1:=z1o hi;have hfail:z6g g n t[i]=false->t.all (z6g g n)=false:=fun hh=>by
    rw [List.all_eq_false];exact ⟨_,List.getElem_mem hi,by simp [hh]⟩
   simp only [zgl];rw [z1b hi,cond_true,z0u hi];simp only [Option.bind_some];by_cases c1:t[i].2.1 < 0
   ·rw [hfail (by simp [z6g];omega)];simp [c1]
   by_cases c2:t[i].1 < 1
   ·rw [hfail (by simp [z6g];omega)];simp [c1,c2]
   rw [zs2 N hm];by_cases c3:(z8m n:Int) < t[i].1
   ·rw [hfail (by simp [z6g];omega)];simp [c1,c2,c3]
   obtain ⟨S,hS⟩:=Int.eq_ofNat_of_zero_le (show 0≤t[i].1 by omega);have hSl:S < 2 ^ 62:=zxs hm.few (by have:=zh5 n;omega);rw [hS,zwr N (by omega) hg hm.few hSl];have c2':¬ ((S:Int) < 1):=by omega
   have c3':¬ ((z8m n:Int) < (S:Int)):=by omega
   have eS:t[i].1.toNat=S:=by omega
   by_cases c4:t[i].2.2.1 < z20 g n S.testBit
   ·rw [hfail (by simp [z6g,eS];omega)];simp [c1,c2',c3',c4]
   by_cases c5:1099511627776 < t[i].2.2.1
   ·rw [hfail (by simp [z6g];omega)];simp [c1,c2',c3',c4,c5]
   have hent:z6g g n t[i]=true:=z98.2 ⟨by omega,by omega,by omega,by rw [eS];omega,by omega⟩;simp only [c1,c2',c3',c4,c5,decide_false,cond_false,Option.bind_some];rw [z09 (n:=(i:Int)+1) (by omega) (by omega),zk8 eqK];refine hw _ ⟨?_,?_⟩
   ·rw [hs1,zvn,←hS];exact zv1 (zy3 hs hi)
   ·rw [hs1,List.all_append,hall];simp [hent]
  ·rintro M w ⟨rfl,hall⟩;rw [List.take_length] at hall ⊢;simp only [zgl];rw [z0y,cond_false,hall];simp only [if_true];have hM:=zuc hg hall;refine z2d (fun i M=>M=zre t∧(t.take i).all (zf8 m t)=true) t.length ?_ ?_ N (by omega) _ ⟨rfl,by simp⟩
   ·rintro i M w hi ⟨rfl,hrel⟩ hw;have hs1:=z1o hi;have hent:=z98.1 (List.all_eq_true.1 hall _ (List.getElem_mem hi));obtain ⟨S,hS⟩:=Int.eq_ofNat_of_zero_le (show 0≤t[i].1 by omega);have hSl:S < 2 ^ 62:=zxs hm.few (by have:=zh5 n;omega);have eS:t[i].1.toNat=S:=by omega
    simp only [zgk];rw [z1b hi,cond_true,z0u hi];simp only [Option.bind_some];rw [z09 (n:=(i:Int)+1) (by omega) (by omega),f37_eq N hN hm hM _ hSl hS];simp only [Option.bind_some];by_cases c1:0 < t[i].2.1
    ·rw [decide_eq_true c1,cond_true];have er:zf8 m t t[i]=bndV m.2.1 S (fun y=>lk (zre t) ((y:Int),z0k (t[i].2.1-1),())) t[i].2.2.1:=by
      simp only [zf8,c1,decide_true,Bool.not_true,Bool.false_or,eS];rfl
     cases hb:bndV m.2.1 S (fun y=>lk (zre t) ((y:Int),z0k (t[i].2.1-1),())) t[i].2.2.1 with
     | true=>
      simp only [Bool.not_true,cond_false]
      exact hw _ ⟨rfl,by rw [hs1,List.all_append,hrel];simp [er,hb]⟩
     | false=>
      have:t.all (zf8 m t)=false:=by
       rw [List.all_eq_false];exact ⟨_,List.getElem_mem hi,by simp [er,hb]⟩
      rw [this];rfl
    ·rw [decide_eq_false c1,cond_false];refine hw _ ⟨rfl,?_⟩;rw [hs1,List.all_append,hrel];simp [zf8,c1]
   ·rintro M w ⟨rfl,hrel⟩;rw [List.take_length] at hrel;simp only [zgk];rw [z0y,cond_false,hrel,zs2 N hm];simp only [if_true,Option.bind_some,zar eqK,zzg]
    cases lk (zre t) ((z8m n:Int),k,()) with
    | none=>rfl
    | some v=>
     simp only [Option.isSome_some,Bool.not_true,cond_false,Option.getD_some,Option.bind_some];by_cases hb:b < v <;> simp [hb]
 ·have e1:decide (4096 < len t)=true:=by simp [len];omega
  rw [e1,cond_true,if_neg hl]
theorem f14_eq (N:Nat) (hN:5000 < N) (m:z1v) (g:List (List Int)) (k:Int) (t:List z5h) (b:Int):f14 N m g k t b=some (zm1 m g k t b):=by
 unfold f14 zm1;rw [f15_eq N (by omega)];simp only [Option.bind_some]
 cases ha:zqa m g k with
 | false=>rfl
 | true=>
 simp only [if_true,Bool.not_true,cond_false];simp only [zqa,zA,decide_eq_true_eq] at ha;obtain ⟨⟨⟨hmo,hgo⟩,hk0⟩,hk8⟩:=ha;have hm:=zk9 hmo;have hsec:=hm.secrets;rw [hsec] at hgo;have hg:=gainP hgo;generalize m.1.toNat=n at hm hg hsec;have hv8:=hm.views;have hn:=hm.few;by_cases hl:t.length≤4096
 ·have e1:decide (4096 < len t)=false:=by simp [len];omega
  rw [e1,cond_false,if_pos hl,zp1 N hN t hl]
  cases hs:zln t with
  | false=>rfl
  | true=>
  simp only [if_true];refine zfw (fun i=>(t.take i).all (z6g g n)=true) t.length ?_ ?_ N (by omega) (by simp)
  ·intro i w hi hal hw;have hs1:=z1o hi;have hfail:z6g g n t[i]=false->t.all (z6g g n)=false:=fun hh=>by
    rw [List.all_eq_false];exact ⟨_,List.getElem_mem hi,by simp [hh]⟩
   simp only [zgi];rw [z1b hi,cond_true,z0u hi];simp only [Option.bind_some];by_cases c1:t[i].2.1 < 0
   ·rw [hfail (by simp [z6g];omega)];simp [c1]
   by_cases c2:t[i].1 < 1
   ·rw [hfail (by simp [z6g];omega)];simp [c1,c2]
   rw [f39_eq N hm];by_cases c3:(z8m n:Int) < t[i].1
   ·rw [hfail (by simp [z6g];omega)];simp [c1,c2,c3]
   obtain ⟨S,hS⟩:=Int.eq_ofNat_of_zero_le (show 0≤t[i].1 by omega);have hSl:S < 2 ^ 62:=zxs hm.few (by have:=zh5 n;omega);have eS:t[i].1.toNat=S:=by omega
   rw [hS,f40_eq N (by omega) hm hg hSl];have c2':¬ ((S:Int) < 1):=by omega
   have c3':¬ ((z8m n:Int) < (S:Int)):=by omega
   by_cases c4:t[i].2.2.1 < z20 g n S.testBit
   ·rw [hfail (by simp [z6g,eS];omega)];simp [c1,c2',c3',c4]
   by_cases c5:1099511627776 < t[i].2.2.1
   ·rw [hfail (by simp [z6g];omega)];simp [c1,c2',c3',c4,c5]
   have hent:z6g g n t[i]=true:=z98.2 ⟨by omega,by omega,by omega,by rw [eS];omega,by omega⟩;simp only [c1,c2',c3',c4,c5,decide_false,cond_false,Option.bind_some];rw [z09 (n:=(i:Int)+1) (by omega) (by omega)];exact hw (by rw [hs1,List.all_append,hal];simp [hent])
  ·intro w hall;rw [List.take_length] at hall;simp only [zgi];rw [z0y,cond_false,hall];simp only [if_true]
   ·have hM:=zuc hg hall
    rw [z5s t (zf8 m t) (some (match zzg t (z8m n) k with
      | none=>13
      | some v=>if b < v then 13 else 0)) (some 13) ?_ ?_ N (by omega)]
    ·cases t.all (zf8 m t) <;> rfl
    ·intro i w hi;have hent:=z98.1 (List.all_eq_true.1 hall _ (List.getElem_mem hi));obtain ⟨S,hS⟩:=Int.eq_ofNat_of_zero_le (show 0≤t[i].1 by omega);have hSl:S < 2 ^ 62:=zxs hm.few (by have:=zh5 n;omega);have eS:t[i].1.toNat=S:=by omega
     simp only [zgh];rw [z1b hi,cond_true,z0u hi];simp only [Option.bind_some];rw [z09 (n:=(i:Int)+1) (by omega) (by omega)]
     rw [z5s m.2.1 (fun v=>decide (t[i].2.1=0) || (match sumV v S (zte t t[i]) with
      | none=>false
      | some s=>decide (s≤t[i].2.2.1))) (w ((i:Int)+1)) (some 13) ?_ ?_ N (by omega)]
     ·have er:zf8 m t t[i]=m.2.1.all (fun v=>decide (t[i].2.1=0) || (match sumV v S (zte t t[i]) with
        | none=>false
        | some s=>decide (s≤t[i].2.2.1))):=by
       simp only [zf8,eS,bndV];by_cases c1:t[i].2.1=0
       ·simp [c1]
       ·have:0 < t[i].2.1:=by omega
        simp only [this,decide_true,Bool.not_true,Bool.false_or,c1,decide_false]
      rw [er]
     ·intro q w2 hq;obtain ⟨e1,hv⟩:=hm.at hq;have htl:=z7x hv;simp only [zgg];rw [z1b hq,cond_true,z09 (n:=(q:Int)+1) (by omega) (by omega)];by_cases c1:t[i].2.1=0
      ·simp [c1]
      ·rw [decide_eq_false c1,cond_false,hS,f41_eq N (by omega) hm hq hSl,e1];simp only [Option.bind_some,Bool.false_or];have hpn:(z4e (z0a m q) S).length≤62:=by
        have:=List.length_filter_le (fun y=>decide (y≠0)) ((List.range (z38 (z0a m q))).map (part (z0a m q) S));simp only [List.length_map,List.length_range] at this;simp only [z4e];omega
       have:=zrl (F:=fun w_1=>zcz N t t k b (len t) (i:Int) (len m.2.1) (q:Int) (len (zrm (z4e (z0a m q) S))) t[i] (zrm (z4e (z0a m q) S)) m w_1 (fun t10_2=>some t10_2)
         (fun t17_1=>cond (decide (t[i].2.2.1 < t17_1)) (some 13) (w2 ((q:Int)+1))))
        ((z4e (z0a m q) S).map (zte t t[i])) 1099511627776
        (fun y hy a ha=>by
         obtain ⟨z,_,rfl⟩:=List.mem_map.1 hy;exact hM _ _ ha)
        (fun t17_1=>cond (decide (t[i].2.2.1 < t17_1)) (some 13) (w2 ((q:Int)+1))) (some 13) ?_ ?_ N (by simp;omega)
       ·have this':=this;rw [zsw];refine Eq.trans ?_ (Eq.trans this' ?_)
        ·rfl
        ·split
         ·rfl
         ·rename_i s hs;by_cases hle:s≤t[i].2.2.1
          ·have:¬ t[i].2.2.1 < s:=by omega
           simp [hle,this]
          ·have:t[i].2.2.1 < s:=by omega
           simp [hle,this]
       ·intro c s w3 hc h0 h1;have hc':c < (z4e (z0a m q) S).length:=by simpa using hc
        have hci:c < (zrm (z4e (z0a m q) S)).length:=by rw [zke];exact hc'
        have hs:s≤62*1099511627776:=by
         have:(c:Int)*1099511627776≤62*1099511627776:=by omega
         omega
        simp only [zcz];rw [z1b hci,cond_true,z0p (z3v hci),z0u hci];have e2:(zrm (z4e (z0a m q) S))[c]=(((z4e (z0a m q) S)[c]:Nat):Int):=by simp [zrm]
        simp only [Option.bind_some,e2,List.getElem_map];obtain ⟨r,hr,hr2⟩:=f42_eq N hN t hl (((z4e (z0a m q) S)[c]:Nat):Int) (z0k (t[i].2.1-1));rw [hr];simp only [Option.bind_some,zte]
        cases hlk:zzg t (((z4e (z0a m q) S)[c]:Nat):Int) (z0k (t[i].2.1-1)) with
        | none=>rw [hlk] at hr2;simp only at hr2;subst hr2;rfl
        | some a=>
         rw [hlk] at hr2;simp only at hr2;obtain ⟨hr0,y,hy,hya⟩:=hr2;have hb:=hM _ _ hlk;have e5:decide (r < 0)=false:=by simp;omega
         rw [e5,cond_false,hy];simp only [Option.bind_some];rw [hya,z09 (by omega) (by omega),z09 (by omega) (by omega)]
       ·intro s w3;have e3:(((z4e (z0a m q) S).map (zte t t[i])).length:Int)=len (zrm (z4e (z0a m q) S)):=by simp [len,zke]
        simp only [zcz];rw [e3];have e4:decide (len (zrm (z4e (z0a m q) S)) < len (zrm (z4e (z0a m q) S)))=false:=by simp
        rw [e4,cond_false]
     ·intro w2;simp only [zgg];rw [z0y];rfl
    ·intro w2;simp only [zgh];rw [z0y,cond_false,f39_eq N hm];simp only [Option.bind_some];obtain ⟨r,hr,hr2⟩:=f42_eq N hN t hl (z8m n:Int) k;rw [hr];simp only [Option.bind_some]
     cases hlk:zzg t (z8m n:Int) k with
     | none=>rw [hlk] at hr2;simp only at hr2;subst hr2;rfl
     | some a=>
      rw [hlk] at hr2;simp only at hr2;obtain ⟨hr0,y,hy,hya⟩:=hr2;have e5:decide (r < 0)=false:=by simp;omega
      rw [e5,cond_false,hy];simp only [Option.bind_some,hya];by_cases hb:b < a <;> simp [hb]
 ·have e1:decide (4096 < len t)=true:=by simp [len];omega
  rw [e1,cond_true,if_neg hl]
end Go.Kz
