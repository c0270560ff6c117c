/-
  The layer adaptive: Prove and the reference's; plain laws.
-/
import Derived.Test.YtnjfafnflbackaaKzF4
set_option linter.unusedVariables false
set_option linter.unusedSimpArgs false
namespace Go.Kz
def zmh:List (Option Int)->Option Int
 | []=>some 0
 | x :: l=>x.bind fun a=>(zmh l).map (a + ·)
theorem zkj:(l m:List (Option Int))->zmh (l++m)=(zmh l).bind fun s=>(zmh m).map (s + ·)
 | [],m=>by simp [zmh]
 | x :: l,m=>by
  simp only [List.cons_append,zmh,zkj l m]
  cases x with
  | none=>rfl
  | some a=>
   simp only [Option.bind_some]
   cases zmh l with
   | none=>rfl
   | some s=>
    simp only [Option.bind_some,Option.map_some]
    cases zmh m with
    | none=>rfl
    | some r=>simp only [Option.map_some,Int.add_assoc]
theorem zfq (l:List (Option Int)) (x:Option Int):zmh (l++[x])=(zmh l).bind fun s=>x.map (s + ·):=by
 rw [zkj];cases x <;> simp [zmh]
theorem iter_sum {R:Type} {F:(Int×Int->Option R)->Int×Int->Option R} (l:List (Option Int)) (B:Int) (hb:∀ x∈l,∀ a,x=some a->0≤a∧a≤B) (A:Int->Option R) (E:Option R)
  (step:∀ (k:Nat) (s:Int) (w:Int×Int->Option R) (hk:k < l.length),0≤s->s≤k*B->F w ((k:Int),s)=match l[k] with
   | none=>E
   | some a=>w ((k:Int)+1,s+a))
  (last:∀ (s:Int) (w:Int×Int->Option R),F w ((l.length:Int),s)=A s) (N:Nat) (hN:l.length < N):iter F N (0,0)=match zmh l with
   | none=>E
   | some s=>A s:=by
 refine z26 (fun k s=>zmh (l.take k)=some s∧0≤s∧s≤k*B) l.length ?_ ?_ N hN 0 ⟨by simp [zmh],by omega,by simp⟩
 ·rintro k s w hk ⟨h1,h2,h3⟩ hw;rw [step k s w hk h2 h3];have hs:=z1y hk
  cases hx:l[k] with
  | none=>
   have:zmh l=none:=by
    conv=>lhs;rw [←List.take_append_drop (k+1) l,zkj,hs,zfq,h1,hx]
    rfl
   rw [this]
  | some a=>
   have hb':=hb _ (List.getElem_mem hk) a hx;refine hw _ ⟨?_,by omega,?_⟩
   ·rw [hs,zfq,h1,hx];rfl
   ·push_cast;rw [Int.add_mul,Int.one_mul];omega
 ·rintro s w ⟨h1,_,_⟩;rw [List.take_length] at h1;rw [last s w,h1]
def sumV (v:List Int) (S:Nat) (h:Nat->Option Int):Option Int:=zmh ((List.range (z2j v)).map fun c=>if part v S c=0 then some 0 else h (part v S c))
def bndV (vs:List (List Int)) (S:Nat) (h:Nat->Option Int) (b:Int):Bool:=vs.all fun v=>match sumV v S h with
 | none=>false
 | some s=>decide (s≤b)
def zah (g:List (List Int)) (n:Nat) (x:z5m):Bool:=decide (0≤x.2.1) && decide (1≤x.1) && decide (x.1≤(z3v n:Int)) && decide (z1q g n x.1.toNat.testBit≤x.2.2.1) && decide (x.2.2.1≤1099511627776)
def zwi (t:List z5m) (x:z5m):Nat->Option Int:=fun y=>look t (y:Int) (z0k (x.2.1-1))
def zi4 (m:z1s) (t:List z5m) (x:z5m):Bool:=!decide (0 < x.2.1) || bndV m.2.1 x.1.toNat (zwi t x) x.2.2.1
def zmy (m:z1s) (g:List (List Int)) (k:Int) (t:List z5m) (b:Int):Int:=
 if zr8 m g k then
  if t.length≤4096 then
   if zkk t then
    if t.all (zah g m.1.toNat) then
     if t.all (zi4 m t) then
      match look t (z3v m.1.toNat) k with
      | none=>13
      | some v=>if b < v then 13 else 0
     else 13
    else 13
   else 10
  else 4
 else 1
theorem zcj {g:List (List Int)} {n:Nat} {x:z5m}:zah g n x=true↔0≤x.2.1∧1≤x.1∧x.1≤(z3v n:Int)∧z1q g n x.1.toNat.testBit≤x.2.2.1∧x.2.2.1≤1099511627776:=by
 simp [zah,and_assoc]
def ValB (M:List (Key×Int)):Prop:=∀ key v,lk M key=some v->0≤v∧v≤1099511627776
theorem valB_of {g:List (List Int)} {n:Nat} {t:List z5m} (hg:GainP g n) (h:t.all (zah g n)=true):ValB (zsi t):=by
 intro key v hv;have:=lk_mem hv;simp only [zsi,List.mem_map] at this;obtain ⟨x,hx,he⟩:=this;have h1:=zcj.1 (List.all_eq_true.1 h x hx);simp only [Prod.mk.injEq] at he;have:=(z8e (n:=n) x.1.toNat.testBit hg.row).1;omega
theorem zzf {v:List Int} {S:Nat} {h:Nat->Option Int} {B:Int} (hB:0≤B) (hb:∀ y a,h y=some a->0≤a∧a≤B):∀ x∈(List.range (z2j v)).map (fun c=>if part v S c=0 then some 0 else h (part v S c)),∀ a,x=some a->0≤a∧a≤B:=by
 intro x hx a ha;obtain ⟨c,_,rfl⟩:=List.mem_map.1 hx;split at ha
 ·simp only [zI] at ha;omega
 ·exact hb _ _ ha
theorem f37_eq (N:Nat) (hN:5000 < N) {m:z1s} {n:Nat} (hm:MenuP m n) {M:List (Key×Int)} (hM:ValB M) (x:z5m) {S:Nat} (hS:S < 2 ^ 62) (hx:x.1=(S:Int)) :
  f37 N m x M=some (((),(bndV m.2.1 S (fun y=>lk M ((y:Int),z0k (x.2.1-1),())) x.2.2.1,())),(M,())):=by
 have hv8:=hm.views;have hn:=hm.few;unfold f37
 rw [z5w m.2.1 (fun v=>match sumV v S (fun y=>lk M ((y:Int),z0k (x.2.1-1),())) with
  | none=>false
  | some s=>decide (s≤x.2.2.1)) (some (((),(true,())),(M,()))) (some (((),(false,())),(M,()))) ?_ ?_ N (by omega)]
 ·unfold bndV
  cases m.2.1.all (fun v=>match sumV v S (fun y=>lk M ((y:Int),z0k (x.2.1-1),())) with
   | none=>false
   | some s=>decide (s≤x.2.2.1)) <;> rfl
 ·intro q w hq;obtain ⟨e1,hv⟩:=hm.at hq;have htl:=z84 hv;have hpl:(z4y (z0b m q) S).length=z2j (z0b m q):=z2s _ _;simp only [zoh];rw [z1h hq,cond_true,z0t hq,e1,hx];simp only [Option.bind_some];rw [zo0 N (by omega) hv hm.pos hm.few hS];simp only [Option.bind_some];have:=iter_sum (F:=fun w_1=>zjs N m.2.1 (len m.2.1) (q:Int) (len (z4y (z0b m q) S)) M x (z4y (z0b m q) S) w_1 (fun t6=>some (((),(t6,())),(M,())))
    (fun t9_1=>cond (decide (x.2.2.1 < t9_1)) (some (((),(false,())),(M,()))) (w (z0k ((q:Int)+1)))))
   ((List.range (z2j (z0b m q))).map fun c=>if part (z0b m q) S c=0 then some 0 else lk M (((part (z0b m q) S c:Nat):Int),z0k (x.2.1-1),())) 1099511627776
   (zzf (h:=fun y=>lk M ((y:Int),z0k (x.2.1-1),())) (by omega) (fun y a ha=>hM _ _ ha))
   (fun t9_1=>cond (decide (x.2.2.1 < t9_1)) (some (((),(false,())),(M,()))) (w (z0k ((q:Int)+1)))) (some (((),(false,())),(M,()))) ?_ ?_ N (by simp;omega)
  ·rw [this];unfold sumV;split
   ·rename_i hs;rw [hs];rfl
   ·rename_i s hs;rw [hs];rw [z09 (n:=(q:Int)+1) (by omega) (by omega)];by_cases hle:s≤x.2.2.1
    ·have:¬ x.2.2.1 < s:=by omega
     simp [hle,this]
    ·have:x.2.2.1 < s:=by omega
     simp [hle,this]
  ·intro c s w2 hc h0 h1;have hc':c < z2j (z0b m q):=by simpa using hc
   have hcp:c < (z4y (z0b m q) S).length:=by omega
   have hs:s≤62*1099511627776:=by
    have:(c:Int)*1099511627776≤62*1099511627776:=by omega
    omega
   simp only [zjs];rw [z1h hcp,cond_true,z0m (z3m hcp),z0t hcp];have e2:(z4y (z0b m q) S)[c]=((part (z0b m q) S c:Nat):Int):=z4k _;simp only [Option.bind_some,e2,List.getElem_map,List.getElem_range,zb2 eqK];rw [z09 (n:=(c:Int)+1) (by omega) (by omega)];by_cases hp:part (z0b m q) S c=0
   ·simp [hp]
   ·have hp':¬ (((part (z0b m q) S c:Nat):Int)=0):=by omega
    rw [if_neg hp,decide_eq_false hp',cond_false]
    cases hl:lk M (((part (z0b m q) S c:Nat):Int),z0k (x.2.1-1),()) with
    | none=>simp
    | some a=>
     have:=hM _ _ hl;simp only [Option.isSome_some,Bool.not_true,cond_false,Option.getD_some];rw [z09 (by omega) (by omega)]
  ·intro s w2;have e3:(((List.range (z2j (z0b m q))).map fun c=>if part (z0b m q) S c=0 then some 0 else lk M (((part (z0b m q) S c:Nat):Int),z0k (x.2.1-1),())).length:Int)=len (z4y (z0b m q) S):=by simp [len,hpl]
   simp only [zjs];rw [e3];have e4:decide (len (z4y (z0b m q) S) < len (z4y (z0b m q) S))=false:=by simp
   rw [e4,cond_false]
 ·intro w;simp only [zoh];rw [z11];rfl
theorem zwo (t:List z5m) (x:z5m):zsi (t++[x])=zsi t++[((x.1,x.2.1,()),x.2.2.1)]:=by simp [zsi]
theorem zzc {t:List z5m} (h:zkk t=true) {k:Nat} (hk:k < t.length):lk (zsi (t.take k)) (t[k].1,t[k].2.1,())=none:=by
 rw [zqj];intro p hp;simp only [zsi,List.mem_map] at hp;obtain ⟨x,hx,rfl⟩:=hp;obtain ⟨i,hi,rfl⟩:=List.mem_iff_getElem.1 hx;simp only [List.length_take] at hi;rw [List.getElem_take];intro he;simp only [Prod.mk.injEq,and_true] at he;have:=zro h (i:=i) (k-i-1) (by omega);have e:i+(k-i-1+1)=k:=by omega
 simp only [e] at this;exact befB_ne this he
theorem zy4 (N:Nat) (hN:5000 < N) (m:z1s) (g:List (List Int)) (k:Int) (t:List z5m) (b:Int):f13 N m g k t b=some (zmy m g k t b):=by
 unfold f13 zmy;rw [zxz N (by omega)];simp only [Option.bind_some]
 cases ha:zr8 m g k with
 | false=>rfl
 | true=>
 simp only [if_true,decide_true,Bool.not_true,cond_false];simp only [zr8,zA,decide_eq_true_eq] at ha;obtain ⟨⟨⟨hmo,hgo⟩,hk0⟩,hk8⟩:=ha;have hm:=zl9 hmo;have hsec:=hm.secrets;rw [hsec] at hgo;have hg:=gainP hgo;generalize m.1.toNat=n at hm hg hsec;by_cases hl:t.length≤4096
 ·have e1:decide (4096 < len t)=false:=by simp [len];omega
  rw [e1,cond_false,if_pos hl,zq1 N hN t hl]
  cases hs:zkk t with
  | false=>rfl
  | true=>
  simp only [if_true];refine z26 (fun i M=>M=zsi (t.take i)∧(t.take i).all (zah g n)=true) t.length ?_ ?_ N (by omega) _ ⟨rfl,by simp⟩
  ·rintro i M w hi ⟨rfl,hall⟩ hw;have hs1:=z1y hi;have hfail:zah g n t[i]=false->t.all (zah g n)=false:=fun hh=>by
    rw [List.all_eq_false];exact ⟨_,List.getElem_mem hi,by simp [hh]⟩
   simp only [zhc];rw [z1h hi,cond_true,z0t hi];simp only [Option.bind_some];by_cases c1:t[i].2.1 < 0
   ·rw [hfail (by simp [zah];omega)];simp [c1]
   by_cases c2:t[i].1 < 1
   ·rw [hfail (by simp [zah];omega)];simp [c1,c2]
   rw [zxx N hm];by_cases c3:(z3v n:Int) < t[i].1
   ·rw [hfail (by simp [zah];omega)];simp [c1,c2,c3]
   obtain ⟨S,hS⟩:=Int.eq_ofNat_of_zero_le (show 0≤t[i].1 by omega);have hSl:S < 2 ^ 62:=lt62 hm.few (by have:=zly n;omega);rw [hS,zxw N (by omega) hg hm.few hSl];have c2':¬ ((S:Int) < 1):=by omega
   have c3':¬ ((z3v n:Int) < (S:Int)):=by omega
   have eS:t[i].1.toNat=S:=by omega
   by_cases c4:t[i].2.2.1 < z1q g n S.testBit
   ·rw [hfail (by simp [zah,eS];omega)];simp [c1,c2',c3',c4]
   by_cases c5:1099511627776 < t[i].2.2.1
   ·rw [hfail (by simp [zah];omega)];simp [c1,c2',c3',c4,c5]
   have hent:zah g n t[i]=true:=zcj.2 ⟨by omega,by omega,by omega,by rw [eS];omega,by omega⟩;simp only [c1,c2',c3',c4,c5,decide_false,cond_false,Option.bind_some];rw [z09 (n:=(i:Int)+1) (by omega) (by omega),zl8 eqK];refine hw _ ⟨?_,?_⟩
   ·rw [hs1,zwo,←hS];exact zw1 (zzc hs hi)
   ·rw [hs1,List.all_append,hall];simp [hent]
  ·rintro M w ⟨rfl,hall⟩;rw [List.take_length] at hall ⊢;simp only [zhc];rw [z11,cond_false,hall];simp only [if_true];have hM:=valB_of hg hall;refine z26 (fun i M=>M=zsi t∧(t.take i).all (zi4 m t)=true) t.length ?_ ?_ N (by omega) _ ⟨rfl,by simp⟩
   ·rintro i M w hi ⟨rfl,hrel⟩ hw;have hs1:=z1y hi;have hent:=zcj.1 (List.all_eq_true.1 hall _ (List.getElem_mem hi));obtain ⟨S,hS⟩:=Int.eq_ofNat_of_zero_le (show 0≤t[i].1 by omega);have hSl:S < 2 ^ 62:=lt62 hm.few (by have:=zly n;omega);have eS:t[i].1.toNat=S:=by omega
    simp only [zhb];rw [z1h hi,cond_true,z0t hi];simp only [Option.bind_some];rw [z09 (n:=(i:Int)+1) (by omega) (by omega),f37_eq N hN hm hM _ hSl hS];simp only [Option.bind_some];by_cases c1:0 < t[i].2.1
    ·rw [decide_eq_true c1,cond_true];have er:zi4 m t t[i]=bndV m.2.1 S (fun y=>lk (zsi t) ((y:Int),z0k (t[i].2.1-1),())) t[i].2.2.1:=by
      simp only [zi4,c1,decide_true,Bool.not_true,Bool.false_or,eS];rfl
     cases hb:bndV m.2.1 S (fun y=>lk (zsi t) ((y:Int),z0k (t[i].2.1-1),())) t[i].2.2.1 with
     | true=>
      simp only [Bool.not_true,cond_false]
      exact hw _ ⟨rfl,by rw [hs1,List.all_append,hrel];simp [er,hb]⟩
     | false=>
      have:t.all (zi4 m t)=false:=by
       rw [List.all_eq_false];exact ⟨_,List.getElem_mem hi,by simp [er,hb]⟩
      rw [this];rfl
    ·rw [decide_eq_false c1,cond_false];refine hw _ ⟨rfl,?_⟩;rw [hs1,List.all_append,hrel];simp [zi4,c1]
   ·rintro M w ⟨rfl,hrel⟩;rw [List.take_length] at hrel;simp only [zhb];rw [z11,cond_false,hrel,zxx N hm];simp only [if_true,Option.bind_some,zb2 eqK,look]
    cases lk (zsi t) ((z3v n:Int),k,()) with
    | none=>rfl
    | some v=>
     simp only [Option.isSome_some,Bool.not_true,cond_false,Option.getD_some,Option.bind_some];by_cases hb:b < v <;> simp [hb]
 ·have e1:decide (4096 < len t)=true:=by simp [len];omega
  rw [e1,cond_true,if_neg hl]
end Go.Kz
