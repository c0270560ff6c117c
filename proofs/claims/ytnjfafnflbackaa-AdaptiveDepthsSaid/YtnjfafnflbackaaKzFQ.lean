/-
  The layer adaptive: ProveLeast and the model's; the laws Depths and Hard.
-/
import Derived.Test.YtnjfafnflbackaaKzFP
set_option linter.unusedVariables false
set_option linter.unusedSimpArgs false
namespace Go.Kz
theorem zcl {σ R:Type} {F:(Int×σ->Option R)->Int×σ->Option R} {α:Type} (s:Nat->σ) (l:List α) (p:α->Bool) (A B:Option R)
  (step:∀ (k:Nat) (w:Int×σ->Option R) (hk:k < l.length),F w ((k:Int),s k)=if p l[k] then w ((k:Int)+1,s (k+1)) else B)
  (last:∀ (w:Int×σ->Option R),F w ((l.length:Int),s l.length)=A) (N:Nat) (hN:l.length < N):iter F N (0,s 0)=if l.all p then A else B:=by
 refine z1m (fun k x=>x=s k∧(l.take k).all p=true) l.length ?_ ?_ N hN (s 0) ⟨rfl,by simp⟩
 ·rintro k x w hk ⟨hx,hi⟩ hw;subst hx;rw [step k w hk]
  cases hp:p l[k] with
  | true=>
   simp only [if_true]
   exact hw _ ⟨rfl,by rw [z1e hk,List.all_append,hi,List.all_cons,hp];rfl⟩
  | false=>
   simp only [Bool.false_eq_true,if_false];have:l.all p=false:=by
    rw [List.all_eq_false];exact ⟨l[k],List.getElem_mem hk,by simp [hp]⟩
   rw [this];rfl
 ·rintro x w ⟨hx,hi⟩;subst hx;rw [List.take_length] at hi;rw [last w,hi];rfl
theorem keyI (x y:Int):z2y (.int .i64) x y=decide (x=y):=rfl
def z6p (p:List Int) (S:Nat):Nat->Int
 | 0=>-1
 | k+1=>if S.testBit k then p.getD k 0 else z6p p S k
theorem zdk {p:List Int} {S:Nat}:{k:Nat}->(∀ s,s < k->0≤p.getD s 0)->(z6p p S k < 0↔∀ s,s < k->S.testBit s=false)
 | 0,_=>by simp [z6p]
 | k+1,h=>by
  have ih:=zdk (p:=p) (S:=S) (k:=k) fun s hs=>h s (by omega)
  simp only [z6p]
  cases hb:S.testBit k with
  | true=>
   have:=h k (by omega);simp only [if_true];constructor
   ·intro h2;omega
   ·intro h2;rw [h2 k (by omega)] at hb;exact absurd hb (by simp)
  | false=>
   simp only [Bool.false_eq_true,if_false];rw [ih];constructor
   ·intro h2 s hs;by_cases he:s=k
    ·subst he;exact hb
    ·exact h2 s (by omega)
   ·exact fun h2 s hs=>h2 s (by omega)
def oneC (p:List Int) (S k:Nat):Prop:=∀ r s,r < k->s < k->S.testBit r=true->S.testBit s=true->p.getD r 0=p.getD s 0
theorem zl8 {p:List Int} {S:Nat}:{k:Nat}->{s:Nat}->oneC p S k->s < k->S.testBit s=true->z6p p S k=p.getD s 0
 | k+1,s,h,hs,hb=>by
  simp only [z6p]
  cases hk:S.testBit k with
  | true=>simp only [if_true];exact h k s (by omega) hs hk hb
  | false=>
   simp only [Bool.false_eq_true,if_false];have hne:s≠k:=fun e=>by subst e;rw [hb] at hk;exact absurd hk (by simp)
   exact zl8 (fun r s hr hs=>h r s (by omega) (by omega)) (by omega) hb
theorem z91 {n S:Nat} {p:List Int}:z5t n S p=false↔oneC p S n:=by
 constructor
 ·exact fun h r s hr hs h1 h2=>zvs h hr hs h1 h2
 ·intro h
  cases hs:z5t n S p with
  | false=>rfl
  | true=>
   obtain ⟨r,s,h1,h2,h3,h4,h5⟩:=zu2 hs;exact absurd (h r s h1 h2 h3 h4) h5
theorem z7p {p:List Int} {S k:Nat} (h:oneC p S k) (hp:∀ s,s < k->0≤p.getD s 0) (hc:S.testBit k=true->z6p p S k < 0∨p.getD k 0=z6p p S k):oneC p S (k+1):=by
 have key:∀ s,s < k->S.testBit s=true->S.testBit k=true->p.getD k 0=p.getD s 0:=by
  intro s hs hb hk;rcases hc hk with h1 | h1
  ·have:=(zdk hp).1 h1 s hs;rw [hb] at this;exact absurd this (by simp)
  ·rw [h1];exact zl8 h hs hb
 intro r s hr hs h1 h2;by_cases e1:r=k
 ·by_cases e2:s=k
  ·rw [e1,e2]
  ·subst e1;exact key s (by omega) h2 h1
 ·by_cases e2:s=k
  ·subst e2;exact (key r (by omega) h1 h2).symm
  ·exact h r s (by omega) (by omega) h1 h2
theorem zwr {p:List Int} {S k n:Nat} (hk:k < n) (hp:∀ s,s < k->0≤p.getD s 0) (h:oneC p S k) (hb:S.testBit k=true) (h0:¬ z6p p S k < 0) (h1:¬ p.getD k 0=z6p p S k):z5t n S p=true:=by
 cases hs:z5t n S p with
 | true=>rfl
 | false=>
  have ho:=z91.1 hs;have:∃ s,s < k∧S.testBit s=true:=by
   apply Classical.byContradiction;intro hno;apply h0;rw [zdk hp];intro s hs
   cases hb:S.testBit s with
   | false=>rfl
   | true=>exact absurd ⟨s,hs,hb⟩ hno
  obtain ⟨s,hs,hbs⟩:=this;rw [zl8 h hs hbs] at h1;exact absurd (ho k s hk (by omega) hb hbs) h1
theorem zyk (A k:Nat) (hA:A < 2 ^ 62) (hk:k < 64) :
  decide ((z0i (((((BitVec.ofInt 64 (Int.fdiv (A:Int) (Int.pow 2 (min (Int.toNat (k:Int)) 64)))).and (BitVec.ofInt 64 1)).toNat):Nat):Int))=0) = !A.testBit k:=by
 rw [←zhr A k hA hk];have h3:((BitVec.ofInt 64 (Int.fdiv (A:Int) (Int.pow 2 (min (Int.toNat (k:Int)) 64)))).and (BitVec.ofInt 64 1)).toNat < 2:=by
  show ((BitVec.ofInt 64 (Int.fdiv (A:Int) (Int.pow 2 (min (Int.toNat (k:Int)) 64)))) &&& (BitVec.ofInt 64 1)).toNat < 2;rw [BitVec.toNat_and];have h1:(BitVec.ofInt 64 1).toNat=1:=by decide
  rw [h1,Nat.and_one_is_mod];exact Nat.mod_lt _ (by omega)
 generalize ((BitVec.ofInt 64 (Int.fdiv (A:Int) (Int.pow 2 (min (Int.toNat (k:Int)) 64)))).and (BitVec.ofInt 64 1)).toNat=b at *;rw [z06 (by omega) (by omega)];rw [Bool.eq_iff_iff];simp only [decide_eq_true_eq,Bool.not_eq_true',decide_eq_false_iff_not];omega
theorem f70_eq (N:Nat) (hN:400 < N) {n:Nat} {p:List Int} (hp:View n p) (hn:n≤62) {S:Nat} (hS:S < 2 ^ 62):f70 N p (S:Int)=some (!z5t n S p):=by
 have hl:=hp.len;unfold f70;refine z1m (fun k t=>t=z6p p S k∧oneC p S k) n ?_ ?_ N (by omega) _ ⟨rfl,fun r s hr=>absurd hr (by omega)⟩
 ·rintro k t w hk ⟨ht,ho⟩ hw;subst ht;have hkp:k < p.length:=by omega
  have hnn:∀ s,s < k->0≤p.getD s 0:=fun s hs=>zho hp (by omega)
  have e0:decide ((k:Int) < 0)=false:=by simp
  have eg:p[k]=p.getD k 0:=by rw [List.getD_eq_getElem?_getD,List.getElem?_eq_getElem hkp];rfl
  simp only [zo5];rw [z10 hkp,cond_true,z0l hkp];simp only [Option.bind_some];rw [e0,cond_false,zyk S k hS (by omega),z06 (n:=(k:Int)+1) (by omega) (by omega),eg]
  cases hb:S.testBit k with
  | false=>
   simp only [Bool.not_false,cond_true]
   exact hw _ ⟨by simp [z6p,hb],z7p ho hnn (fun h=>by rw [hb] at h;exact absurd h (by simp))⟩
  | true=>
   simp only [Bool.not_true,cond_false];by_cases h0:0≤z6p p S k
   ·rw [decide_eq_true h0];simp only [cond_true,Option.bind_some];by_cases h1:p.getD k 0=z6p p S k
    ·rw [decide_eq_true h1];simp only [Bool.not_true,cond_false];exact hw _ ⟨by simp only [z6p,hb,if_true],z7p ho hnn (fun _=>.inr h1)⟩
    ·rw [decide_eq_false h1];simp only [Bool.not_false,cond_true];rw [zwr hk hnn ho hb (by omega) h1];rfl
   ·rw [decide_eq_false h0];simp only [cond_false,Option.bind_some];exact hw _ ⟨by simp only [z6p,hb,if_true],z7p ho hnn (fun _=>.inl (by omega))⟩
 ·rintro t w ⟨ht,ho⟩;simp only [zo5];rw [←hl,z0t,cond_false,hl,z91.2 ho];rfl
theorem f72_eq (N:Nat) (hN:400 < N) {m:z1q} {n:Nat} (hm:MenuP m n) {p:List Int} (hp:View n p) {S:Nat} (hS:S < 2 ^ 62):f72 N m p (S:Int)=some (!z5t n S p):=by
 have hl:=hp.len;have hn:=hm.few;unfold f72;rw [hm.secrets];refine z1m (fun k t=>t=z6p p S k∧oneC p S k) n ?_ ?_ N (by omega) _ ⟨rfl,fun r s hr=>absurd hr (by omega)⟩
 ·rintro k t w hk ⟨ht,ho⟩ hw;subst ht;have hkp:k < p.length:=by omega
  have hnn:∀ s,s < k->0≤p.getD s 0:=fun s hs=>zho hp (by omega)
  have eg:p[k]=p.getD k 0:=by rw [List.getD_eq_getElem?_getD,List.getElem?_eq_getElem hkp];rfl
  simp only [zo4];rw [dlt hk,cond_true,f65_eq N hS (by omega)];simp only [Option.bind_some];rw [z06 (n:=(k:Int)+1) (by omega) (by omega),z0l hkp,eg];simp only [Option.bind_some]
  cases hb:S.testBit k with
  | false=>
   simp only [cond_false]
   exact hw _ ⟨by simp [z6p,hb],z7p ho hnn (fun h=>by rw [hb] at h;exact absurd h (by simp))⟩
  | true=>
   simp only [cond_true];by_cases h0:0≤z6p p S k
   ·rw [decide_eq_true h0];simp only [cond_true,Option.bind_some];by_cases h1:p.getD k 0=z6p p S k
    ·rw [decide_eq_true h1.symm];simp only [Bool.not_true,cond_false];exact hw _ ⟨by simp only [z6p,hb,if_true],z7p ho hnn (fun _=>.inr h1)⟩
    ·rw [decide_eq_false (fun h=>h1 h.symm)];simp only [Bool.not_false,cond_true];rw [zwr hk hnn ho hb (by omega) h1];rfl
   ·rw [decide_eq_false h0];simp only [cond_false,Option.bind_some];exact hw _ ⟨by simp only [z6p,hb,if_true],z7p ho hnn (fun _=>.inl (by omega))⟩
 ·rintro t w ⟨ht,ho⟩;simp only [zo4];rw [dnlt,cond_false,z91.2 ho];rfl
def askAll (m:z1q):List Int:=z86 m.2.1.length
theorem zpc (m:z1q):(askAll m).all (z9q m)=true:=by
 rw [List.all_eq_true];intro q hq;have:=z90.1 hq;simp only [z9q,zA,decide_eq_true_eq];exact this
def z33 (m:z1q):List Int:=z1j m (askAll m)
theorem f69_eq (N:Nat) (hN:5000 < N) {m:z1q} (hmk:z3g m=true):f69 N m=some (z33 m):=by
 have hm:=zeu hmk;have hv8:=hm.views;unfold f69;refine z1m (fun k o=>o=z86 k) m.2.1.length ?_ ?_ N (by omega) _ rfl
 ·intro k o w hk ho hw;subst ho;simp only [zo6];rw [z10 hk,cond_true,z71 (by simp [z86];omega),z06 (by omega) (by omega)];exact hw _ (z9x k).symm
 ·intro o w ho;subst ho;simp only [zo6];rw [z0t,cond_false,f49_eq N (by omega) m _ (by simp [z86];omega),hmk,show (z86 m.2.1.length).all (z9q m)=true from zpc m];rfl
theorem f21_eq (N:Nat) (hN:5000 < N) {m:z1q} (hmk:z3g m=true):f21 N m=some (z33 m):=by
 have hm:=zeu hmk;have hv8:=hm.views;unfold f21;refine z1m (fun k o=>o=z86 k) m.2.1.length ?_ ?_ N (by omega) _ rfl
 ·intro k o w hk ho hw;subst ho;simp only [zon];rw [z10 hk,cond_true,z71 (by simp [z86];omega),z06 (by omega) (by omega)];exact hw _ (z9x k).symm
 ·intro o w ho;subst ho;simp only [zon];rw [z0t,cond_false,f57_eq N hN hm (by simp [z86];omega) (show (z86 m.2.1.length).all (z9q m)=true from zpc m)];rfl
theorem zgs {m:z1q} {n:Nat} (hm:MenuP m n):View n (z33 m):=z5a hm _
def zbc (t:List Hrd):List (Int×Int):=t.map fun x=>(x.1,x.2.1)
def zr6 (t:List Hrd) (j:Nat):Bool:=decide (0 < j) && decide ((t.getD j (0,0,())).1≤(t.getD (j-1) (0,0,())).1)
def zao (t:List Hrd):Bool:=(List.range t.length).all fun j=>!zr6 t j
theorem zaz {t:List Hrd} (h:zao t=true):{i j:Nat}->i < j->(hj:j < t.length)->(t.getD i (0,0,())).1 < (t.getD j (0,0,())).1
 | i,j+1,hij,hj=>by
  have:=List.all_eq_true.1 h (j+1) (List.mem_range.2 hj);simp only [zr6,Nat.add_sub_cancel,Bool.not_eq_true',Bool.and_eq_false_iff,decide_eq_false_iff_not] at this;have h1:(t.getD j (0,0,())).1 < (t.getD (j+1) (0,0,())).1:=by omega
  by_cases he:i=j
  ·subst he;exact h1
  ·have:=zaz h (i:=i) (j:=j) (by omega) (by omega);omega
theorem zzq {t:List Hrd} (h:zao t=true):((zbc t).map Prod.fst).Nodup:=by
 rw [List.Nodup,List.pairwise_iff_getElem];intro i j hi hj hij;simp only [zbc,List.length_map] at hi hj;have:=zaz h hij hj;rw [List.getD_eq_getElem?_getD,List.getD_eq_getElem?_getD,List.getElem?_eq_getElem hi,List.getElem?_eq_getElem hj] at this;simp only [zbc,List.getElem_map,Option.getD_some] at this ⊢;omega
theorem zgh {t:List Hrd} (h:zao t=true) {y v:Int}:lk (zbc t) y=some v↔∃ x∈t,x.1=y∧x.2.1=v:=by
 constructor
 ·intro hl;have:=zx0 hl;simp only [zbc,List.mem_map,Prod.mk.injEq] at this;exact this
 ·rintro ⟨x,hx,rfl,rfl⟩;exact zsf (zzq h) (List.mem_map.2 ⟨x,hx,rfl⟩)
def zys (t:List Hrd) (d:Int) (y:Int):Bool:=!decide (y=0) && (lk (zbc t) y).isSome && decide (d≤(lk (zbc t) y).getD 0)
theorem any_hard {t:List Hrd} (h:zao t=true) {n:Nat} {v:List Int} (S:Nat) (d:Int):(z3t v S).any (zys t d)=z7b t (z3p v S) d:=by
 rw [Bool.eq_iff_iff,zxk];simp only [List.any_eq_true,zys,zA,Bool.not_eq_true',decide_eq_false_iff_not,decide_eq_true_eq,Option.isSome_iff_exists];constructor
 ·rintro ⟨y,hy,⟨h0,z,hz⟩,hd⟩;simp only [z3t,zd1,List.mem_map,List.mem_range] at hy;obtain ⟨c,hc,rfl⟩:=hy;obtain ⟨x,hx,e1,e2⟩:=(zgh h).1 hz;rw [hz,Option.getD_some] at hd;refine ⟨x,hx,by omega,part v S c,?_,e1.symm⟩;simp only [z3p,List.mem_filter,List.mem_map,List.mem_range,decide_eq_true_eq];exact ⟨⟨c,hc,rfl⟩,by omega⟩
 ·rintro ⟨x,hx,hd,y,hy,e⟩;obtain ⟨h0,c,hc,rfl⟩:=zuo hy;have hl:lk (zbc t) ((part v S c:Nat):Int)=some x.2.1:=(zgh h).2 ⟨x,hx,e.symm,rfl⟩;refine ⟨((part v S c:Nat):Int),?_,⟨by omega,_,hl⟩,by rw [hl];exact hd⟩;simp only [z3t,zd1,List.mem_map,List.mem_range];exact ⟨c,hc,rfl⟩
theorem f90_eq (N:Nat) (y:Int) (t:List Hrd) (x:Hrd):f90 N y (zbc t) x=some (((),((),(zys t (z0i (x.2.1-1)) y,()))),((),(zbc t,(x,())))):=by
 unfold f90;simp only [z8h keyI];by_cases h0:y=0
 ·simp [h0,zys]
 ·cases hl:lk (zbc t) y with
  | none=>simp [h0,zys,hl]
  | some v=>simp [h0,zys,hl]
theorem f110_eq (N:Nat) (l:List Int) (hN:l.length < N) (hl:l.length≤1000) (t:List Hrd) (x:Hrd):∃ i,zoq N l (zbc t) x=some (((),(((),((),())),(i,()))),(l,((),(zbc t,(x,())))))∧decide (0≤i)=l.any (zys t (z0i (x.2.1-1))):=by
 unfold zoq;have key:∀ (M k:Nat),k≤l.length->l.length-k < M->(l.take k).any (zys t (z0i (x.2.1-1)))=false->∃ i,iter (fun w=>z9m N (len l) l w
  (fun t4 o2_2 o3_2=>
   some (((),(((),((),())),(t4,()))),(l,((),(o2_2,(o3_2,()))))))
  (fun o2_3 o3_3=>
   some (((),(((),((),())),((-1),()))),(l,((),(o2_3,(o3_3,()))))))) M ((k:Int),zbc t,x)=some (((),(((),((),())),(i,()))),(l,((),(zbc t,(x,())))))∧decide (0≤i)=l.any (zys t (z0i (x.2.1-1))):=by
  intro M
  induction M with
  | zero=>intro k _ h;omega
  | succ M ih=>
   intro k hk hM ha;simp only [iter,z9m];by_cases hlt:k < l.length
   ·rw [z10 hlt,cond_true,z0m (z3h hlt),z0l hlt];simp only [Option.bind_some,f90_eq];rw [z06 (n:=(k:Int)+1) (by omega) (by omega)]
    cases hp:zys t (z0i (x.2.1-1)) l[k] with
    | true=>
     simp only [cond_true];refine ⟨(k:Int),rfl,?_⟩;have:l.any (zys t (z0i (x.2.1-1)))=true:=List.any_eq_true.2 ⟨_,List.getElem_mem hlt,hp⟩
     rw [this];simp
    | false=>
     simp only [cond_false];exact ih (k+1) (by omega) (by omega) (by rw [z1e hlt,List.any_append,ha];simp [hp])
   ·have he:k=l.length:=by omega
    subst he;rw [z0t,cond_false];rw [List.take_length] at ha;exact ⟨-1,rfl,by rw [ha];rfl⟩
 exact key N 0 (Nat.zero_le _) (by omega) (by simp)
theorem f71_eq (N:Nat) (hN:5000 < N) {m:z1q} {n:Nat} (hm:MenuP m n) {t:List Hrd} (h:zao t=true) (x:Hrd) {S:Nat} (hS:S < 2 ^ 62) (hx:x.1=(S:Int)) :
  f71 N m x (zbc t)=some (((),(m.2.1.all (fun v=>z7b t (z3p v S) (z0i (x.2.1-1))),())),(zbc t,())):=by
 have hv8:=hm.views;have hn:=hm.few;unfold f71;have:=zcl (F:=fun w=>zjm N m.2.1 (len m.2.1) w (fun t6 o0_2=>some (((),(t6,())),(o0_2,()))) (fun o0_3=>some (((),(true,())),(o0_3,())))) (fun _=>(zbc t,x)) m.2.1 (fun v=>z7b t (z3p v S) (z0i (x.2.1-1))) (some (((),(true,())),(zbc t,()))) (some (((),(false,())),(zbc t,()))) ?_ ?_ N (by omega)
 ·rw [this];cases m.2.1.all (fun v=>z7b t (z3p v S) (z0i (x.2.1-1))) <;> rfl
 ·intro q w hq;obtain ⟨e1,hv⟩:=hm.at hq;have htl:=z74 hv;have hpl:(z3t (z0b m q) S).length=z3e (z0b m q):=z2m _ _;simp only [zjm];rw [z10 hq,cond_true,z0l hq,e1,hx];simp only [Option.bind_some];rw [zjk N (by omega) hv hm.pos hn hS];simp only [Option.bind_some];obtain ⟨i,h110,hi⟩:=f110_eq N (z3t (z0b m q) S) (by omega) (by omega) t x;have h89:zxw N (z3t (z0b m q) S) (zbc t) x=some (((),(((),((),())),(decide (0≤i),()))),(z3t (z0b m q) S,((),(zbc t,(x,()))))):=by
   unfold zxw;rw [h110];rfl
  rw [h89];simp only [Option.bind_some];rw [hi,any_hard h (n:=n),z06 (n:=(q:Int)+1) (by omega) (by omega)];cases z7b t (z3p (z0b m q) S) (z0i (x.2.1-1)) <;> rfl
 ·intro w;simp only [zjm];rw [z0t,cond_false]
def zsi (m:z1q) (t:List Hrd) (d:Int):Int:=
 if z3g m then
  if t.length≤4096 then
   if zao t then
    if t.all (z8z m m.1.toNat (z33 m) t) then
     if d≤0∨∃ x∈t,x.1=(z4x m.1.toNat:Int)∧d≤x.2.1 then 0 else 13
    else 13
   else 10
  else 4
 else 1
theorem f29_eq (N:Nat) (hN:5000 < N) (m:z1q) (t:List Hrd) (d:Int):f29 N m t d=some (zsi m t d):=by
 unfold f29 zsi;rw [zsz N (by omega)];simp only [Option.bind_some,za6]
 cases hmk:z3g m with
 | false=>simp
 | true=>
 simp only [if_true,decide_true,Bool.not_true,cond_false];have hm:=zeu hmk;have hn:=hm.few;by_cases hl:t.length≤4096
 ·have e1:decide ((4096:Int) < len t)=false:=by simp [len];omega
  have hroom:z3f=4294967296:=rfl;rw [e1,cond_false,if_pos hl]
  cases hs:zao t with
  | false=>
   simp only [Bool.false_eq_true,if_false];obtain ⟨j,hj,hbad⟩:∃ j,j < t.length∧zr6 t j=true:=by
    simp only [zao,List.all_eq_false,List.mem_range,Bool.not_eq_true',Bool.not_eq_false] at hs;exact hs
   refine z2d (fun x:Int×List (Int×Int)=>∃ k:Nat,x.1=(k:Int)∧k≤j) (fun x=>t.length-x.1.toNat) ?_ N _ ⟨0,rfl,Nat.zero_le _⟩ (by simp;omega);rintro ⟨i,M⟩ w ⟨k,hi,hk⟩ hw;simp only at hi;subst hi;have hkt:k < t.length:=by omega
   simp only [zjt];rw [z10 hkt,cond_true,z0l hkt];simp only [Option.bind_some];have hstep:∀ b,b=zr6 t k->(cond b (some 10) (w (z0i ((k:Int)+1),zbb (z2y (.int .i64)) M t[k].1 t[k].2.1)))=some 10:=by
    intro b hb;subst hb
    cases hbk:zr6 t k with
    | true=>rfl
    | false=>
     rw [cond_false,z06 (by omega) (by omega)];have hne:k≠j:=fun e=>by subst e;rw [hbad] at hbk;exact absurd hbk (by simp)
     exact hw _ ⟨k+1,by simp,by omega⟩ (by simp;omega)
   by_cases h0:0 < k
   ·have e0:decide ((0:Int) < (k:Int))=true:=by simp;omega
    have e2:z0i ((k:Int)-1)=((k-1:Nat):Int):=by rw [z06 (by omega) (by omega)];omega
    rw [e0,cond_true,e2,z0l (l:=t) (k:=k-1) (by omega)];simp only [Option.bind_some];refine hstep _ ?_;rw [zr6,List.getD_eq_getElem?_getD,List.getD_eq_getElem?_getD,List.getElem?_eq_getElem hkt,List.getElem?_eq_getElem (show k-1 < t.length by omega)];simp [h0]
   ·have e0:decide ((0:Int) < (k:Int))=false:=by simp;omega
    rw [e0,cond_false];simp only [Option.bind_some]
    exact hstep _ (by simp [zr6,h0])
  | true=>
   simp only [if_true];refine z1m (fun k M=>M=zbc (t.take k)) t.length ?_ ?_ N (by omega) _ rfl
   ·intro k M w hk hM hw;subst hM;have hbad:=List.all_eq_true.1 hs k (List.mem_range.2 hk);simp only [Bool.not_eq_true'] at hbad;simp only [zjt];rw [z10 hk,cond_true,z0l hk];simp only [Option.bind_some];have hput:zbb (z2y (.int .i64)) (zbc (t.take k)) t[k].1 t[k].2.1=zbc (t.take (k+1)):=by
     rw [zgd keyI,zrx]
     ·rw [z1e hk,zbc,zbc,List.map_append];rfl
     ·rw [zl7];intro e he;simp only [zbc,List.mem_map] at he;obtain ⟨x,hx,rfl⟩:=he;obtain ⟨i,hi,rfl⟩:=List.mem_iff_getElem.1 hx;simp only [List.length_take] at hi;have:=zaz hs (i:=i) (j:=k) (by omega) hk;rw [List.getD_eq_getElem?_getD,List.getD_eq_getElem?_getD,List.getElem?_eq_getElem (show i < t.length by omega),List.getElem?_eq_getElem hk] at this;simp only [List.getElem_take,Option.getD_some] at this ⊢;omega
    have hstep:∀ b,b=zr6 t k->(cond b (some 10) (w (z0i ((k:Int)+1),zbb (z2y (.int .i64)) (zbc (t.take k)) t[k].1 t[k].2.1)))=some (if t.all (z8z m m.1.toNat (z33 m) t)=true then if d≤0∨∃ x∈t,x.1=(z4x m.1.toNat:Int)∧d≤x.2.1 then 0 else 13 else 13):=by
     intro b hb;subst hb;rw [hbad,cond_false,z06 (by omega) (by omega)];exact hw _ hput
    by_cases h0:0 < k
    ·have e0:decide ((0:Int) < (k:Int))=true:=by simp;omega
     have e2:z0i ((k:Int)-1)=((k-1:Nat):Int):=by rw [z06 (by omega) (by omega)];omega
     rw [e0,cond_true,e2,z0l (l:=t) (k:=k-1) (by omega)];simp only [Option.bind_some];refine hstep _ ?_;rw [zr6,List.getD_eq_getElem?_getD,List.getD_eq_getElem?_getD,List.getElem?_eq_getElem hk,List.getElem?_eq_getElem (show k-1 < t.length by omega)];simp [h0]
    ·have e0:decide ((0:Int) < (k:Int))=false:=by simp;omega
     rw [e0,cond_false];simp only [Option.bind_some];exact hstep _ (by simp [zr6,h0])
   ·intro M w hM;subst hM;simp only [zjt];rw [z0t,cond_false,List.take_length,f69_eq N hN hmk];simp only [Option.bind_some];have hjv:=zgs hm;have:=zcl (F:=fun w=>zdq N t d (len t) m (z33 m) w (fun t6_1=>some t6_1) (fun o1_2=>
       (f35 N m).bind fun r_10=>
       (cond (decide (0 < d))
         ((cond (!(Option.isSome (z8i (z2y (.int .i64)) o1_2 r_10)))
           (some true)
           (some (decide ((Option.getD (z8i (z2y (.int .i64)) o1_2 r_10) 0) < d)))).bind fun b_1=>
         some b_1)
         (some false)).bind fun b_2=>
       cond b_2
        (some 13)
        (some 0))) (fun _=>zbc t) t (z8z m m.1.toNat (z33 m) t) (some (if d≤0∨∃ x∈t,x.1=(z4x m.1.toNat:Int)∧d≤x.2.1 then 0 else 13)) (some 13) ?_ ?_ N (by omega)
    ·rw [this];cases t.all (z8z m m.1.toNat (z33 m) t) <;> rfl
    ·intro k w2 hk;simp only [zdq,z4m];rw [z10 hk,cond_true,z0l hk];simp only [Option.bind_some];generalize t[k]=x;by_cases h1:x.1 < 1
     ·have:z8z m m.1.toNat (z33 m) t x=false:=by
       have:¬ 1≤x.1:=by omega
       simp [z8z,this]
      rw [decide_eq_true h1,cond_true,this];rfl
     ·rw [decide_eq_false h1,cond_false,zjr N hm];simp only [Option.bind_some];by_cases h2:((z4x m.1.toNat:Nat):Int) < x.1
      ·have:z8z m m.1.toNat (z33 m) t x=false:=by
        have:¬ x.1≤((z4x m.1.toNat:Nat):Int):=by omega
        simp [z8z,this]
       rw [decide_eq_true h2,cond_true,this];rfl
      ·have hle:=zx3 (n:=m.1.toNat) (x:=x.1) (by omega) (by omega);have hS:=zz9 hn hle.1;have h71:=f71_eq N hN hm hs x hS hle.2.2;have h70:f70 N (z33 m) x.1=some (!z5t m.1.toNat x.1.toNat (z33 m)):=by
        conv=>lhs;rw [hle.2.2]
        exact f70_eq N (by omega) hjv hn hS
       have hok:z8z m m.1.toNat (z33 m) t x=((!decide (0 < x.2.1) || z5t m.1.toNat x.1.toNat (z33 m)) && (!decide (1 < x.2.1) || m.2.1.all fun v=>z7b t (z3p v x.1.toNat) (z0i (x.2.1-1)))):=by
        have a1:1≤x.1:=by omega
        have a2:x.1≤((z4x m.1.toNat:Nat):Int):=by omega
        simp only [z8z,a1,a2,decide_true,Bool.true_and]
       rw [decide_eq_false h2,cond_false,hok,h70,h71];simp only [Option.bind_some];rw [z06 (n:=(k:Int)+1) (by omega) (by omega)];cases decide (0 < x.2.1) <;> cases z5t m.1.toNat x.1.toNat (z33 m) <;> cases decide (1 < x.2.1) <;> cases m.2.1.all (fun v=>z7b t (z3p v x.1.toNat) (z0i (x.2.1-1))) <;> rfl
    ·intro w2;simp only [zdq];rw [z0t,cond_false,zjr N hm];simp only [Option.bind_some,z8h keyI];by_cases h0:0 < d
     ·rw [decide_eq_true h0]
      cases hlk:lk (zbc t) ((z4x m.1.toNat:Nat):Int) with
      | none=>
       have:¬ (d≤0∨∃ x∈t,x.1=(z4x m.1.toNat:Int)∧d≤x.2.1):=by
        rintro (h | ⟨x,hx,e1,_⟩)
        ·omega
        ·have:=(zgh hs).2 ⟨x,hx,e1,rfl⟩;rw [hlk] at this;exact absurd this (by simp)
       rw [if_neg this]
       rfl
      | some v=>
       simp only [cond_true,Option.isSome_some,Bool.not_true,cond_false,Option.bind_some,Option.getD_some];by_cases hv:v < d
       ·have:¬ (d≤0∨∃ x∈t,x.1=(z4x m.1.toNat:Int)∧d≤x.2.1):=by
         rintro (h | ⟨x,hx,e1,h⟩)
         ·omega
         ·have:=(zgh hs).2 ⟨x,hx,e1,rfl⟩;rw [hlk] at this;simp only [zI] at this;omega
        rw [if_neg this,decide_eq_true hv];rfl
       ·obtain ⟨x,hx,e1,e2⟩:=(zgh hs).1 hlk;rw [if_pos (.inr ⟨x,hx,e1,by omega⟩),decide_eq_false hv];rfl
     ·rw [decide_eq_false h0,if_pos (.inl (by omega))];rfl
 ·have e1:decide ((4096:Int) < len t)=true:=by simp [len];omega
  rw [e1,cond_true,if_neg hl]
end Go.Kz
