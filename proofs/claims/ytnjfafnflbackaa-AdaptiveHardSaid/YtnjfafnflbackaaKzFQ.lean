/-
  The layer adaptive: ProveLeast and the model's; the laws Depths and Hard.
-/
import Derived.Test.YtnjfafnflbackaaKzFP
set_option linter.unusedVariables false
set_option linter.unusedSimpArgs false
namespace Go.Kz
theorem znx {σ R:Type} {F:(Int×σ->Option R)->Int×σ->Option R} {α:Type} (s:Nat->σ) (l:List α) (p:α->Bool) (A B:Option R)
  (step:∀ (k:Nat) (w:Int×σ->Option R) (hk:k < l.length),F w ((k:Int),s k)=if p l[k] then w ((k:Int)+1,s (k+1)) else B)
  (last:∀ (w:Int×σ->Option R),F w ((l.length:Int),s l.length)=A) (N:Nat) (hN:l.length < N):iter F N (0,s 0)=if l.all p then A else B:=by
 refine z1r (fun k x=>x=s k∧(l.take k).all p=true) l.length ?_ ?_ N hN (s 0) ⟨rfl,by simp⟩
 ·rintro k x w hk ⟨hx,hi⟩ hw;subst hx;rw [step k w hk]
  cases hp:p l[k] with
  | true=>
   simp only [if_true]
   exact hw _ ⟨rfl,by rw [z1k hk,List.all_append,hi,List.all_cons,hp];rfl⟩
  | false=>
   simp only [Bool.false_eq_true,if_false];have:l.all p=false:=by
    rw [List.all_eq_false];exact ⟨l[k],List.getElem_mem hk,by simp [hp]⟩
   rw [this];rfl
 ·rintro x w ⟨hx,hi⟩;subst hx;rw [List.take_length] at hi;rw [last w,hi];rfl
theorem keyI (x y:Int):z2y (.int .i64) x y=decide (x=y):=rfl
def zaj (p:List Int) (S:Nat):Nat->Int
 | 0=>-1
 | k+1=>if S.testBit k then p.getD k 0 else zaj p S k
theorem zdi {p:List Int} {S:Nat}:{k:Nat}->(∀ s,s < k->0≤p.getD s 0)->(zaj p S k < 0↔∀ s,s < k->S.testBit s=false)
 | 0,_=>by simp [zaj]
 | k+1,h=>by
  have ih:=zdi (p:=p) (S:=S) (k:=k) fun s hs=>h s (by omega)
  simp only [zaj]
  cases hb:S.testBit k with
  | true=>
   have:=h k (by omega);simp only [if_true];constructor
   ·intro h2;omega
   ·intro h2;rw [h2 k (by omega)] at hb;exact absurd hb (by simp)
  | false=>
   simp only [Bool.false_eq_true,if_false];rw [ih];constructor
   ·intro h2 s hs;by_cases he:s=k
    ·subst he;exact hb
    ·exact h2 s (by omega)
   ·exact fun h2 s hs=>h2 s (by omega)
def oneC (p:List Int) (S k:Nat):Prop:=∀ r s,r < k->s < k->S.testBit r=true->S.testBit s=true->p.getD r 0=p.getD s 0
theorem zlc {p:List Int} {S:Nat}:{k:Nat}->{s:Nat}->oneC p S k->s < k->S.testBit s=true->zaj p S k=p.getD s 0
 | k+1,s,h,hs,hb=>by
  simp only [zaj]
  cases hk:S.testBit k with
  | true=>simp only [if_true];exact h k s (by omega) hs hk hb
  | false=>
   simp only [Bool.false_eq_true,if_false];have hne:s≠k:=fun e=>by subst e;rw [hb] at hk;exact absurd hk (by simp)
   exact zlc (fun r s hr hs=>h r s (by omega) (by omega)) (by omega) hb
theorem ze5 {n S:Nat} {p:List Int}:z7j n S p=false↔oneC p S n:=by
 constructor
 ·exact fun h r s hr hs h1 h2=>zw5 h hr hs h1 h2
 ·intro h
  cases hs:z7j n S p with
  | false=>rfl
  | true=>
   obtain ⟨r,s,h1,h2,h3,h4,h5⟩:=zd4 hs;exact absurd (h r s h1 h2 h3 h4) h5
theorem zg4 {p:List Int} {S k:Nat} (h:oneC p S k) (hp:∀ s,s < k->0≤p.getD s 0) (hc:S.testBit k=true->zaj p S k < 0∨p.getD k 0=zaj p S k):oneC p S (k+1):=by
 have key:∀ s,s < k->S.testBit s=true->S.testBit k=true->p.getD k 0=p.getD s 0:=by
  intro s hs hb hk;rcases hc hk with h1 | h1
  ·have:=(zdi hp).1 h1 s hs;rw [hb] at this;exact absurd this (by simp)
  ·rw [h1];exact zlc h hs hb
 intro r s hr hs h1 h2;by_cases e1:r=k
 ·by_cases e2:s=k
  ·rw [e1,e2]
  ·subst e1;exact key s (by omega) h2 h1
 ·by_cases e2:s=k
  ·subst e2;exact (key r (by omega) h1 h2).symm
  ·exact h r s (by omega) (by omega) h1 h2
theorem not_one {p:List Int} {S k n:Nat} (hk:k < n) (hp:∀ s,s < k->0≤p.getD s 0) (h:oneC p S k) (hb:S.testBit k=true) (h0:¬ zaj p S k < 0) (h1:¬ p.getD k 0=zaj p S k):z7j n S p=true:=by
 cases hs:z7j n S p with
 | true=>rfl
 | false=>
  have ho:=ze5.1 hs;have:∃ s,s < k∧S.testBit s=true:=by
   apply Classical.byContradiction;intro hno;apply h0;rw [zdi hp];intro s hs
   cases hb:S.testBit s with
   | false=>rfl
   | true=>exact absurd ⟨s,hs,hb⟩ hno
  obtain ⟨s,hs,hbs⟩:=this;rw [zlc h hs hbs] at h1;exact absurd (ho k s hk (by omega) hb hbs) h1
theorem zyv (A k:Nat) (hA:A < 2 ^ 62) (hk:k < 64) :
  decide ((z0i (((((BitVec.ofInt 64 (Int.fdiv (A:Int) (Int.pow 2 (min (Int.toNat (k:Int)) 64)))).and (BitVec.ofInt 64 1)).toNat):Nat):Int))=0) = !A.testBit k:=by
 rw [←zpj A k hA hk];have h3:((BitVec.ofInt 64 (Int.fdiv (A:Int) (Int.pow 2 (min (Int.toNat (k:Int)) 64)))).and (BitVec.ofInt 64 1)).toNat < 2:=by
  show ((BitVec.ofInt 64 (Int.fdiv (A:Int) (Int.pow 2 (min (Int.toNat (k:Int)) 64)))) &&& (BitVec.ofInt 64 1)).toNat < 2;rw [BitVec.toNat_and];have h1:(BitVec.ofInt 64 1).toNat=1:=by decide
  rw [h1,Nat.and_one_is_mod];exact Nat.mod_lt _ (by omega)
 generalize ((BitVec.ofInt 64 (Int.fdiv (A:Int) (Int.pow 2 (min (Int.toNat (k:Int)) 64)))).and (BitVec.ofInt 64 1)).toNat=b at *;rw [z06 (by omega) (by omega)];rw [Bool.eq_iff_iff];simp only [decide_eq_true_eq,Bool.not_eq_true',decide_eq_false_iff_not];omega
theorem f70_eq (N:Nat) (hN:400 < N) {n:Nat} {p:List Int} (hp:View n p) (hn:n≤62) {S:Nat} (hS:S < 2 ^ 62):f70 N p (S:Int)=some (!z7j n S p):=by
 have hl:=hp.len;unfold f70;refine z1r (fun k t=>t=zaj p S k∧oneC p S k) n ?_ ?_ N (by omega) _ ⟨rfl,fun r s hr=>absurd hr (by omega)⟩
 ·rintro k t w hk ⟨ht,ho⟩ hw;subst ht;have hkp:k < p.length:=by omega
  have hnn:∀ s,s < k->0≤p.getD s 0:=fun s hs=>zej hp (by omega)
  have e0:decide ((k:Int) < 0)=false:=by simp
  have eg:p[k]=p.getD k 0:=by rw [List.getD_eq_getElem?_getD,List.getElem?_eq_getElem hkp];rfl
  simp only [zod];rw [z12 hkp,cond_true,z0k hkp];simp only [Option.bind_some];rw [e0,cond_false,zyv S k hS (by omega),z06 (n:=(k:Int)+1) (by omega) (by omega),eg]
  cases hb:S.testBit k with
  | false=>
   simp only [Bool.not_false,cond_true]
   exact hw _ ⟨by simp [zaj,hb],zg4 ho hnn (fun h=>by rw [hb] at h;exact absurd h (by simp))⟩
  | true=>
   simp only [Bool.not_true,cond_false];by_cases h0:0≤zaj p S k
   ·rw [decide_eq_true h0];simp only [cond_true,Option.bind_some];by_cases h1:p.getD k 0=zaj p S k
    ·rw [decide_eq_true h1];simp only [Bool.not_true,cond_false];exact hw _ ⟨by simp only [zaj,hb,if_true],zg4 ho hnn (fun _=>.inr h1)⟩
    ·rw [decide_eq_false h1];simp only [Bool.not_false,cond_true];rw [not_one hk hnn ho hb (by omega) h1];rfl
   ·rw [decide_eq_false h0];simp only [cond_false,Option.bind_some];exact hw _ ⟨by simp only [zaj,hb,if_true],zg4 ho hnn (fun _=>.inl (by omega))⟩
 ·rintro t w ⟨ht,ho⟩;simp only [zod];rw [←hl,z0u,cond_false,hl,ze5.2 ho];rfl
def askAll (m:z1n):List Int:=z82 m.2.1.length
theorem zpo (m:z1n):(askAll m).all (z9m m)=true:=by
 rw [List.all_eq_true];intro q hq;have:=z8x.1 hq;simp only [z9m,zA,decide_eq_true_eq];exact this
def z5r (m:z1n):List Int:=z1i m (askAll m)
theorem f69_eq (N:Nat) (hN:5000 < N) {m:z1n} (hmk:z3g m=true):f69 N m=some (z5r m):=by
 have hm:=zeu hmk;have hv8:=hm.views;unfold f69;refine z1r (fun k o=>o=z82 k) m.2.1.length ?_ ?_ N (by omega) _ rfl
 ·intro k o w hk ho hw;subst ho;simp only [zoe];rw [z12 hk,cond_true,z5e (by simp [z82];omega),z06 (by omega) (by omega)];exact hw _ (z9t k).symm
 ·intro o w ho;subst ho;simp only [zoe];rw [z0u,cond_false,f49_eq N (by omega) m _ (by simp [z82];omega),hmk,show (z82 m.2.1.length).all (z9m m)=true from zpo m];rfl
theorem f21_eq (N:Nat) (hN:5000 < N) {m:z1n} (hmk:z3g m=true):f21 N m=some (z5r m):=by
 have hm:=zeu hmk;have hv8:=hm.views;unfold f21;refine z1r (fun k o=>o=z82 k) m.2.1.length ?_ ?_ N (by omega) _ rfl
 ·intro k o w hk ho hw;subst ho;simp only [zow];rw [z12 hk,cond_true,z5e (by simp [z82];omega),z06 (by omega) (by omega)];exact hw _ (z9t k).symm
 ·intro o w ho;subst ho;simp only [zow];rw [z0u,cond_false,f57_eq N hN hm (by simp [z82];omega) (show (z82 m.2.1.length).all (z9m m)=true from zpo m)];rfl
theorem zr3 {m:z1n} {n:Nat} (hm:MenuP m n):View n (z5r m):=z58 hm _
def zb8 (t:List Hrd):List (Int×Int):=t.map fun x=>(x.1,x.2.1)
def zzl (t:List Hrd) (j:Nat):Bool:=decide (0 < j) && decide ((t.getD j (0,0,())).1≤(t.getD (j-1) (0,0,())).1)
def ze6 (t:List Hrd):Bool:=(List.range t.length).all fun j=>!zzl t j
theorem zav {t:List Hrd} (h:ze6 t=true):{i j:Nat}->i < j->(hj:j < t.length)->(t.getD i (0,0,())).1 < (t.getD j (0,0,())).1
 | i,j+1,hij,hj=>by
  have:=List.all_eq_true.1 h (j+1) (List.mem_range.2 hj);simp only [zzl,Nat.add_sub_cancel,Bool.not_eq_true',Bool.and_eq_false_iff,decide_eq_false_iff_not] at this;have h1:(t.getD j (0,0,())).1 < (t.getD (j+1) (0,0,())).1:=by omega
  by_cases he:i=j
  ·subst he;exact h1
  ·have:=zav h (i:=i) (j:=j) (by omega) (by omega);omega
theorem sortH_nd {t:List Hrd} (h:ze6 t=true):((zb8 t).map Prod.fst).Nodup:=by
 rw [List.Nodup,List.pairwise_iff_getElem];intro i j hi hj hij;simp only [zb8,List.length_map] at hi hj;have:=zav h hij hj;rw [List.getD_eq_getElem?_getD,List.getD_eq_getElem?_getD,List.getElem?_eq_getElem hi,List.getElem?_eq_getElem hj] at this;simp only [zb8,List.getElem_map,Option.getD_some] at this ⊢;omega
theorem zgg {t:List Hrd} (h:ze6 t=true) {y v:Int}:lk (zb8 t) y=some v↔∃ x∈t,x.1=y∧x.2.1=v:=by
 constructor
 ·intro hl;have:=zxc hl;simp only [zb8,List.mem_map,Prod.mk.injEq] at this;exact this
 ·rintro ⟨x,hx,rfl,rfl⟩;exact zsw (sortH_nd h) (List.mem_map.2 ⟨x,hx,rfl⟩)
def zz3 (t:List Hrd) (d:Int) (y:Int):Bool:=!decide (y=0) && (lk (zb8 t) y).isSome && decide (d≤(lk (zb8 t) y).getD 0)
theorem any_hard {t:List Hrd} (h:ze6 t=true) {n:Nat} {v:List Int} (S:Nat) (d:Int):(z3r v S).any (zz3 t d)=zh0 t (z6t v S) d:=by
 rw [Bool.eq_iff_iff,zo1];simp only [List.any_eq_true,zz3,zA,Bool.not_eq_true',decide_eq_false_iff_not,decide_eq_true_eq,Option.isSome_iff_exists];constructor
 ·rintro ⟨y,hy,⟨h0,z,hz⟩,hd⟩;simp only [z3r,zcy,List.mem_map,List.mem_range] at hy;obtain ⟨c,hc,rfl⟩:=hy;obtain ⟨x,hx,e1,e2⟩:=(zgg h).1 hz;rw [hz,Option.getD_some] at hd;refine ⟨x,hx,by omega,part v S c,?_,e1.symm⟩;simp only [z6t,List.mem_filter,List.mem_map,List.mem_range,decide_eq_true_eq];exact ⟨⟨c,hc,rfl⟩,by omega⟩
 ·rintro ⟨x,hx,hd,y,hy,e⟩;obtain ⟨h0,c,hc,rfl⟩:=zj9 hy;have hl:lk (zb8 t) ((part v S c:Nat):Int)=some x.2.1:=(zgg h).2 ⟨x,hx,e.symm,rfl⟩;refine ⟨((part v S c:Nat):Int),?_,⟨by omega,_,hl⟩,by rw [hl];exact hd⟩;simp only [z3r,zcy,List.mem_map,List.mem_range];exact ⟨c,hc,rfl⟩
theorem f90_eq (N:Nat) (y:Int) (t:List Hrd) (x:Hrd):f90 N y (zb8 t) x=some (((),((),(zz3 t (z0i (x.2.1-1)) y,()))),((),(zb8 t,(x,())))):=by
 unfold f90;simp only [z8e keyI];by_cases h0:y=0
 ·simp [h0,zz3]
 ·cases hl:lk (zb8 t) y with
  | none=>simp [h0,zz3,hl]
  | some v=>simp [h0,zz3,hl]
theorem f110_eq (N:Nat) (l:List Int) (hN:l.length < N) (hl:l.length≤1000) (t:List Hrd) (x:Hrd):∃ i,zp0 N l (zb8 t) x=some (((),(((),((),())),(i,()))),(l,((),(zb8 t,(x,())))))∧decide (0≤i)=l.any (zz3 t (z0i (x.2.1-1))):=by
 unfold zp0;have key:∀ (M k:Nat),k≤l.length->l.length-k < M->(l.take k).any (zz3 t (z0i (x.2.1-1)))=false->∃ i,iter (fun w=>z9i N (len l) l w
  (fun t4 o2_2 o3_2=>
   some (((),(((),((),())),(t4,()))),(l,((),(o2_2,(o3_2,()))))))
  (fun o2_3 o3_3=>
   some (((),(((),((),())),((-1),()))),(l,((),(o2_3,(o3_3,()))))))) M ((k:Int),zb8 t,x)=some (((),(((),((),())),(i,()))),(l,((),(zb8 t,(x,())))))∧decide (0≤i)=l.any (zz3 t (z0i (x.2.1-1))):=by
  intro M
  induction M with
  | zero=>intro k _ h;omega
  | succ M ih=>
   intro k hk hM ha;simp only [iter,z9i];by_cases hlt:k < l.length
   ·rw [z12 hlt,cond_true,z0l (z33 hlt),z0k hlt];simp only [Option.bind_some,f90_eq];rw [z06 (n:=(k:Int)+1) (by omega) (by omega)]
    cases hp:zz3 t (z0i (x.2.1-1)) l[k] with
    | true=>
     simp only [cond_true];refine ⟨(k:Int),rfl,?_⟩;have:l.any (zz3 t (z0i (x.2.1-1)))=true:=List.any_eq_true.2 ⟨_,List.getElem_mem hlt,hp⟩
     rw [this];simp
    | false=>
     simp only [cond_false];exact ih (k+1) (by omega) (by omega) (by rw [z1k hlt,List.any_append,ha];simp [hp])
   ·have he:k=l.length:=by omega
    subst he;rw [z0u,cond_false];rw [List.take_length] at ha;exact ⟨-1,rfl,by rw [ha];rfl⟩
 exact key N 0 (Nat.zero_le _) (by omega) (by simp)
theorem f71_eq (N:Nat) (hN:5000 < N) {m:z1n} {n:Nat} (hm:MenuP m n) {t:List Hrd} (h:ze6 t=true) (x:Hrd) {S:Nat} (hS:S < 2 ^ 62) (hx:x.1=(S:Int)) :
  f71 N m x (zb8 t)=some (((),(m.2.1.all (fun v=>zh0 t (z6t v S) (z0i (x.2.1-1))),())),(zb8 t,())):=by
 have hv8:=hm.views;have hn:=hm.few;unfold f71;have:=znx (F:=fun w=>zjo N m.2.1 (len m.2.1) w (fun t6 o0_2=>some (((),(t6,())),(o0_2,()))) (fun o0_3=>some (((),(true,())),(o0_3,())))) (fun _=>(zb8 t,x)) m.2.1 (fun v=>zh0 t (z6t v S) (z0i (x.2.1-1))) (some (((),(true,())),(zb8 t,()))) (some (((),(false,())),(zb8 t,()))) ?_ ?_ N (by omega)
 ·rw [this];cases m.2.1.all (fun v=>zh0 t (z6t v S) (z0i (x.2.1-1))) <;> rfl
 ·intro q w hq;obtain ⟨e1,hv⟩:=hm.at hq;have htl:=z84 hv;have hpl:(z3r (z0b m q) S).length=z37 (z0b m q):=z2n _ _;simp only [zjo];rw [z12 hq,cond_true,z0k hq,e1,hx];simp only [Option.bind_some];rw [zjm N (by omega) hv hm.pos hn hS];simp only [Option.bind_some];obtain ⟨i,h110,hi⟩:=f110_eq N (z3r (z0b m q) S) (by omega) (by omega) t x;have h89:zy6 N (z3r (z0b m q) S) (zb8 t) x=some (((),(((),((),())),(decide (0≤i),()))),(z3r (z0b m q) S,((),(zb8 t,(x,()))))):=by
   unfold zy6;rw [h110];rfl
  rw [h89];simp only [Option.bind_some];rw [hi,any_hard h (n:=n),z06 (n:=(q:Int)+1) (by omega) (by omega)];cases zh0 t (z6t (z0b m q) S) (z0i (x.2.1-1)) <;> rfl
 ·intro w;simp only [zjo];rw [z0u,cond_false]
def zsz (m:z1n) (t:List Hrd) (d:Int):Int:=
 if z3g m then
  if t.length≤4096 then
   if ze6 t then
    if t.all (zdl m m.1.toNat (z5r m) t) then
     if d≤0∨∃ x∈t,x.1=(z7e m.1.toNat:Int)∧d≤x.2.1 then 0 else 13
    else 13
   else 10
  else 4
 else 1
theorem f29_eq (N:Nat) (hN:5000 < N) (m:z1n) (t:List Hrd) (d:Int):f29 N m t d=some (zsz m t d):=by
 unfold f29 zsz;rw [ztf N (by omega)];simp only [Option.bind_some,za3]
 cases hmk:z3g m with
 | false=>simp
 | true=>
 simp only [if_true,decide_true,Bool.not_true,cond_false];have hm:=zeu hmk;have hn:=hm.few;by_cases hl:t.length≤4096
 ·have e1:decide ((4096:Int) < len t)=false:=by simp [len];omega
  have hroom:z38=4294967296:=rfl;rw [e1,cond_false,if_pos hl]
  cases hs:ze6 t with
  | false=>
   simp only [Bool.false_eq_true,if_false];obtain ⟨j,hj,hbad⟩:∃ j,j < t.length∧zzl t j=true:=by
    simp only [ze6,List.all_eq_false,List.mem_range,Bool.not_eq_true',Bool.not_eq_false] at hs;exact hs
   refine z28 (fun x:Int×List (Int×Int)=>∃ k:Nat,x.1=(k:Int)∧k≤j) (fun x=>t.length-x.1.toNat) ?_ N _ ⟨0,rfl,Nat.zero_le _⟩ (by simp;omega);rintro ⟨i,M⟩ w ⟨k,hi,hk⟩ hw;simp only at hi;subst hi;have hkt:k < t.length:=by omega
   simp only [zju];rw [z12 hkt,cond_true,z0k hkt];simp only [Option.bind_some];have hstep:∀ b,b=zzl t k->(cond b (some 10) (w (z0i ((k:Int)+1),zb7 (z2y (.int .i64)) M t[k].1 t[k].2.1)))=some 10:=by
    intro b hb;subst hb
    cases hbk:zzl t k with
    | true=>rfl
    | false=>
     rw [cond_false,z06 (by omega) (by omega)];have hne:k≠j:=fun e=>by subst e;rw [hbad] at hbk;exact absurd hbk (by simp)
     exact hw _ ⟨k+1,by simp,by omega⟩ (by simp;omega)
   by_cases h0:0 < k
   ·have e0:decide ((0:Int) < (k:Int))=true:=by simp;omega
    have e2:z0i ((k:Int)-1)=((k-1:Nat):Int):=by rw [z06 (by omega) (by omega)];omega
    rw [e0,cond_true,e2,z0k (l:=t) (k:=k-1) (by omega)];simp only [Option.bind_some];refine hstep _ ?_;rw [zzl,List.getD_eq_getElem?_getD,List.getD_eq_getElem?_getD,List.getElem?_eq_getElem hkt,List.getElem?_eq_getElem (show k-1 < t.length by omega)];simp [h0]
   ·have e0:decide ((0:Int) < (k:Int))=false:=by simp;omega
    rw [e0,cond_false];simp only [Option.bind_some]
    exact hstep _ (by simp [zzl,h0])
  | true=>
   simp only [if_true];refine z1r (fun k M=>M=zb8 (t.take k)) t.length ?_ ?_ N (by omega) _ rfl
   ·intro k M w hk hM hw;subst hM;have hbad:=List.all_eq_true.1 hs k (List.mem_range.2 hk);simp only [Bool.not_eq_true'] at hbad;simp only [zju];rw [z12 hk,cond_true,z0k hk];simp only [Option.bind_some];have hput:zb7 (z2y (.int .i64)) (zb8 (t.take k)) t[k].1 t[k].2.1=zb8 (t.take (k+1)):=by
     rw [zgb keyI,zsb]
     ·rw [z1k hk,zb8,zb8,List.map_append];rfl
     ·rw [zlb];intro e he;simp only [zb8,List.mem_map] at he;obtain ⟨x,hx,rfl⟩:=he;obtain ⟨i,hi,rfl⟩:=List.mem_iff_getElem.1 hx;simp only [List.length_take] at hi;have:=zav hs (i:=i) (j:=k) (by omega) hk;rw [List.getD_eq_getElem?_getD,List.getD_eq_getElem?_getD,List.getElem?_eq_getElem (show i < t.length by omega),List.getElem?_eq_getElem hk] at this;simp only [List.getElem_take,Option.getD_some] at this ⊢;omega
    have hstep:∀ b,b=zzl t k->(cond b (some 10) (w (z0i ((k:Int)+1),zb7 (z2y (.int .i64)) (zb8 (t.take k)) t[k].1 t[k].2.1)))=some (if t.all (zdl m m.1.toNat (z5r m) t)=true then if d≤0∨∃ x∈t,x.1=(z7e m.1.toNat:Int)∧d≤x.2.1 then 0 else 13 else 13):=by
     intro b hb;subst hb;rw [hbad,cond_false,z06 (by omega) (by omega)];exact hw _ hput
    by_cases h0:0 < k
    ·have e0:decide ((0:Int) < (k:Int))=true:=by simp;omega
     have e2:z0i ((k:Int)-1)=((k-1:Nat):Int):=by rw [z06 (by omega) (by omega)];omega
     rw [e0,cond_true,e2,z0k (l:=t) (k:=k-1) (by omega)];simp only [Option.bind_some];refine hstep _ ?_;rw [zzl,List.getD_eq_getElem?_getD,List.getD_eq_getElem?_getD,List.getElem?_eq_getElem hk,List.getElem?_eq_getElem (show k-1 < t.length by omega)];simp [h0]
    ·have e0:decide ((0:Int) < (k:Int))=false:=by simp;omega
     rw [e0,cond_false];simp only [Option.bind_some];exact hstep _ (by simp [zzl,h0])
   ·intro M w hM;subst hM;simp only [zju];rw [z0u,cond_false,List.take_length,f69_eq N hN hmk];simp only [Option.bind_some];have hjv:=zr3 hm;have:=znx (F:=fun w=>zdo N t d (len t) m (z5r m) w (fun t6_1=>some t6_1) (fun o1_2=>
       (f35 N m).bind fun r_10=>
       (cond (decide (0 < d))
         ((cond (!(Option.isSome (z8f (z2y (.int .i64)) o1_2 r_10)))
           (some true)
           (some (decide ((Option.getD (z8f (z2y (.int .i64)) o1_2 r_10) 0) < d)))).bind fun b_1=>
         some b_1)
         (some false)).bind fun b_2=>
       cond b_2
        (some 13)
        (some 0))) (fun _=>zb8 t) t (zdl m m.1.toNat (z5r m) t) (some (if d≤0∨∃ x∈t,x.1=(z7e m.1.toNat:Int)∧d≤x.2.1 then 0 else 13)) (some 13) ?_ ?_ N (by omega)
    ·rw [this];cases t.all (zdl m m.1.toNat (z5r m) t) <;> rfl
    ·intro k w2 hk;simp only [zdo,z4k];rw [z12 hk,cond_true,z0k hk];simp only [Option.bind_some];generalize t[k]=x;by_cases h1:x.1 < 1
     ·have:zdl m m.1.toNat (z5r m) t x=false:=by
       have:¬ 1≤x.1:=by omega
       simp [zdl,this]
      rw [decide_eq_true h1,cond_true,this];rfl
     ·rw [decide_eq_false h1,cond_false,zou N hm];simp only [Option.bind_some];by_cases h2:((z7e m.1.toNat:Nat):Int) < x.1
      ·have:zdl m m.1.toNat (z5r m) t x=false:=by
        have:¬ x.1≤((z7e m.1.toNat:Nat):Int):=by omega
        simp [zdl,this]
       rw [decide_eq_true h2,cond_true,this];rfl
      ·have hle:=zqz (n:=m.1.toNat) (x:=x.1) (by omega) (by omega);have hS:=lt62 hn hle.1;have h71:=f71_eq N hN hm hs x hS hle.2.2;have h70:f70 N (z5r m) x.1=some (!z7j m.1.toNat x.1.toNat (z5r m)):=by
        conv=>lhs;rw [hle.2.2]
        exact f70_eq N (by omega) hjv hn hS
       have hok:zdl m m.1.toNat (z5r m) t x=((!decide (0 < x.2.1) || z7j m.1.toNat x.1.toNat (z5r m)) && (!decide (1 < x.2.1) || m.2.1.all fun v=>zh0 t (z6t v x.1.toNat) (z0i (x.2.1-1)))):=by
        have a1:1≤x.1:=by omega
        have a2:x.1≤((z7e m.1.toNat:Nat):Int):=by omega
        simp only [zdl,a1,a2,decide_true,Bool.true_and]
       rw [decide_eq_false h2,cond_false,hok,h70,h71];simp only [Option.bind_some];rw [z06 (n:=(k:Int)+1) (by omega) (by omega)];cases decide (0 < x.2.1) <;> cases z7j m.1.toNat x.1.toNat (z5r m) <;> cases decide (1 < x.2.1) <;> cases m.2.1.all (fun v=>zh0 t (z6t v x.1.toNat) (z0i (x.2.1-1))) <;> rfl
    ·intro w2;simp only [zdo];rw [z0u,cond_false,zou N hm];simp only [Option.bind_some,z8e keyI];by_cases h0:0 < d
     ·rw [decide_eq_true h0]
      cases hlk:lk (zb8 t) ((z7e m.1.toNat:Nat):Int) with
      | none=>
       have:¬ (d≤0∨∃ x∈t,x.1=(z7e m.1.toNat:Int)∧d≤x.2.1):=by
        rintro (h | ⟨x,hx,e1,_⟩)
        ·omega
        ·have:=(zgg hs).2 ⟨x,hx,e1,rfl⟩;rw [hlk] at this;exact absurd this (by simp)
       rw [if_neg this]
       rfl
      | some v=>
       simp only [cond_true,Option.isSome_some,Bool.not_true,cond_false,Option.bind_some,Option.getD_some];by_cases hv:v < d
       ·have:¬ (d≤0∨∃ x∈t,x.1=(z7e m.1.toNat:Int)∧d≤x.2.1):=by
         rintro (h | ⟨x,hx,e1,h⟩)
         ·omega
         ·have:=(zgg hs).2 ⟨x,hx,e1,rfl⟩;rw [hlk] at this;simp only [zI] at this;omega
        rw [if_neg this,decide_eq_true hv];rfl
       ·obtain ⟨x,hx,e1,e2⟩:=(zgg hs).1 hlk;rw [if_pos (.inr ⟨x,hx,e1,by omega⟩),decide_eq_false hv];rfl
     ·rw [decide_eq_false h0,if_pos (.inl (by omega))];rfl
 ·have e1:decide ((4096:Int) < len t)=true:=by simp [len];omega
  rw [e1,cond_true,if_neg hl]
end Go.Kz
