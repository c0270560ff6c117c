/-
  The layer adaptive: menus and gains, plain laws.
-/
import Derived.Test.YtnjfafnflbackaaKzF1
set_option linter.unusedVariables false
set_option linter.unusedSimpArgs false
namespace Go.Kz
section
variable {R β:Type}
theorem z8h {F:(Int->Option R)->Int->Option R} {α:Type} (l:List α) (p:α->Bool) (A B:Option R)
  (step:∀ (k:Nat) (w:Int->Option R) (hk:k < l.length),F w (k:Int)=if p l[k] then w ((k:Int)+1) else B)
  (last:∀ (w:Int->Option R),F w (l.length:Int)=A) (N:Nat) (hN:l.length < N):iter F N 0=if l.all p then A else B:=by
 refine zc8 (fun k=>(l.take k).all p=true) l.length ?_ ?_ N hN (by simp)
 ·intro k w hk hi hw;rw [step k w hk]
  cases hp:p l[k] with
  | true=>
   simp only [if_true]
   exact hw (by rw [z1h hk,List.all_append,hi,List.all_cons,hp];rfl)
  | false=>
   simp only [Bool.false_eq_true,if_false];have:l.all p=false:=by
    rw [List.all_eq_false];exact ⟨l[k],List.getElem_mem hk,by simp [hp]⟩
   rw [this];rfl
 ·intro w hi;rw [List.take_length] at hi;rw [last w,hi];rfl
end
abbrev z1i:=Int×(List (List Int)×Unit)
abbrev z1c:=Int×(List Int×Unit)
def zfb (n:Int) (v:List Int):Bool:=decide (len v=n) && okP v
def z41 (m:z1i):Bool:=decide (1≤m.1) && decide (m.1≤62) && decide (m.2.1.length≤8) && m.2.1.all (zfb m.1)
def zc1 (m:z1i):Int:=if z41 m then 0 else 1
theorem z68 {m:z1i}:z41 m=true↔1≤m.1∧m.1≤62∧m.2.1.length≤8∧∀ v∈m.2.1,len v=m.1∧okP v=true:=by
 simp [z41,zfb,and_assoc]
theorem zxk (N:Nat) (hN:400 < N) (m:z1i):f68 N m=some (zc1 m):=by
 unfold f68 zc1 z41;by_cases h1:m.1 < 1
 ·have e:decide (1≤m.1)=false:=by simp;omega
  simp [h1,e]
 by_cases h2:62 < m.1
 ·have e:decide (m.1≤62)=false:=by simp;omega
  simp [h1,h2,e]
 by_cases h3:8 < len m.2.1
 ·have e:decide (m.2.1.length≤8)=false:=by simp [len] at h3 ⊢;omega
  simp [h1,h2,h3,e]
 have e1:decide (1≤m.1)=true:=by simp;omega
 have e2:decide (m.1≤62)=true:=by simp;omega
 have e3:decide (m.2.1.length≤8)=true:=by simp [len] at h3 ⊢;omega
 simp only [decide_eq_true_eq] at e3;simp only [h1,h2,h3,e1,e2,e3,decide_false,decide_true,cond_false,Option.bind_some,Bool.true_and];rw [z8h m.2.1 (zfb m.1) (some 0) (some 1) ?_ ?_ N (by omega)]
 ·split <;> rfl
 ·intro k w hk;simp only [znz];rw [z17 hk,cond_true,z0s hk];simp only [Option.bind_some,zfb];by_cases hl:len m.2.1[k]=m.1
  ·have hl':m.2.1[k].length≤62:=by simp [len] at hl;omega
   simp only [hl,decide_true,Bool.not_true,cond_false,Bool.true_and];rw [zxj N _ (by omega) (by omega),z07 (by omega) (by omega)];cases okP m.2.1[k] <;> simp
  ·simp [hl]
 ·intro w;simp only [znz];rw [z0v];rfl
theorem f28_eq (N:Nat) (hN:400 < N) (m:z1i):f28 N m=some (z41 m):=by
 unfold f28 z41;by_cases h1:m.1 < 1
 ·have e:decide (1≤m.1)=false:=by simp;omega
  simp [h1,e]
 by_cases h2:62 < m.1
 ·have e:decide (m.1≤62)=false:=by simp;omega
  simp [h1,h2,e]
 by_cases h3:8 < len m.2.1
 ·have e:decide (m.2.1.length≤8)=false:=by simp [len] at h3 ⊢;omega
  simp [h1,h2,h3,e]
 have e1:decide (1≤m.1)=true:=by simp;omega
 have e2:decide (m.1≤62)=true:=by simp;omega
 have e3:decide (m.2.1.length≤8)=true:=by simp [len] at h3 ⊢;omega
 simp only [decide_eq_true_eq] at e3;simp only [h1,h2,h3,e1,e2,e3,decide_false,decide_true,cond_false,Option.bind_some,Bool.true_and];rw [z8h m.2.1 (zfb m.1) (some true) (some false) ?_ ?_ N (by omega)]
 ·cases m.2.1.all (zfb m.1) <;> rfl
 ·intro k w hk;simp only [zoi];rw [z17 hk,cond_true,z0s hk];simp only [Option.bind_some,zfb];by_cases hl:len m.2.1[k]=m.1
  ·have hl':m.2.1[k].length≤62:=by simp [len] at hl;omega
   simp only [hl,decide_true,Bool.not_true,cond_false,Bool.true_and];rw [f67_eq N _ (by omega) (by omega),z07 (by omega) (by omega)];cases okP m.2.1[k] <;> simp
  ·simp [hl]
 ·intro w;simp only [zoi];rw [z0v];rfl
def fewB (m:z1i) (g:List (List Int)) (a b:Int):Bool:=
 !decide (a < m.1) && !decide (b < len m.2.1) && !decide (12 < len g) && m.2.1.all (fun v=>!decide (z0l (a+2) < len v)) && g.all (fun v=>!decide (z0l (a+2) < len v))
theorem f12_eq (N:Nat) (hN:400 < N) (m:z1i) (g:List (List Int)) (a b:Int) (hb:b≤300):f12 N m g a b=some (fewB m g a b):=by
 unfold f12 fewB;by_cases h1:a < m.1
 ·simp [h1]
 by_cases h2:b < len m.2.1
 ·simp [h1,h2]
 by_cases h3:12 < len g
 ·simp [h1,h2,h3]
 have hv:m.2.1.length≤300:=by simp [len] at h2;omega
 have hg:g.length≤12:=by simp [len] at h3;omega
 simp only [h1,h2,h3,decide_false,cond_false,Option.bind_some,Bool.not_false,Bool.true_and];rw [z8h m.2.1 (fun v=>!decide (z0l (a+2) < len v)) (if g.all (fun v=>!decide (z0l (a+2) < len v)) then some true else some false) (some false) ?_ ?_ N (by omega)]
 ·cases m.2.1.all (fun v=>!decide (z0l (a+2) < len v)) <;> cases g.all (fun v=>!decide (z0l (a+2) < len v)) <;> rfl
 ·intro k w hk;simp only [zom];rw [z17 hk,cond_true,z0s hk,z07 (n:=(k:Int)+1) (by omega) (by omega)];simp only [Option.bind_some];cases decide (z0l (a+2) < len m.2.1[k]) <;> simp
 ·intro w;simp only [zom];rw [z0v,cond_false];rw [z8h g (fun v=>!decide (z0l (a+2) < len v)) (some true) (some false) ?_ ?_ N (by omega)]
  ·intro k w hk;simp only [zh0];rw [z17 hk,cond_true,z0s hk,z07 (n:=(k:Int)+1) (by omega) (by omega)];simp only [Option.bind_some];cases decide (z0l (a+2) < len g[k]) <;> simp
  ·intro w;simp only [zh0];rw [z0v];rfl
def z1r:Nat->(Nat->Int)->Int
 | 0,_=>0
 | n+1,f=>z1r n f+f n
theorem z1j {f g:Nat->Int}:{n:Nat}->(∀ i,i < n->f i=g i)->z1r n f=z1r n g
 | 0,_=>rfl
 | n+1,h=>by simp only [z1r,h n (by omega),z1j (n:=n) (fun i hi=>h i (by omega))]
theorem z7p {f g:Nat->Int}:{n:Nat}->(∀ i,i < n->f i≤g i)->z1r n f≤z1r n g
 | 0,_=>by simp [z1r]
 | n+1,h=>by
  have h1:=h n (by omega);have h2:=z7p (n:=n) (fun i hi=>h i (by omega));simp only [z1r];omega
theorem z59:(n:Nat)->z1r n (fun _=>0)=0
 | 0=>rfl
 | n+1=>by simp only [z1r,z59 n];rfl
theorem z4f {f:Nat->Int} {n:Nat} (h:∀ i,i < n->0≤f i):0≤z1r n f:=by
 have:=z7p (f:=fun _=>0) (g:=f) h;rw [z59] at this;exact this
theorem zmb (f g:Nat->Int):(n:Nat)->z1r n (fun i=>f i+g i)=z1r n f+z1r n g
 | 0=>rfl
 | n+1=>by simp only [z1r,zmb f g n];omega
theorem zcs (f:Nat->Nat->Int) (m:Nat):(n:Nat)->z1r n (fun i=>z1r m (fun j=>f i j))=z1r m (fun j=>z1r n (fun i=>f i j))
 | 0=>(z59 m).symm
 | n+1=>by
  simp only [z1r];rw [zcs f m n,←zmb]
theorem zma {n d:Nat} (x:Int) (h:d < n):z1r n (fun i=>if i=d then x else 0)=x:=by
 induction n with
 | zero=>omega
 | succ n ih=>
  simp only [z1r];by_cases he:d=n
  ·subst he;have:z1r d (fun i=>if i=d then x else 0)=0:=(z1j (fun i hi=>if_neg (by omega))).trans (z59 d);rw [this];simp
  ·rw [ih (by omega),if_neg (by omega)];omega
theorem z4c {f:Nat->Int} {b:Int}:{n:Nat}->(∀ i,i < n->f i≤b)->z1r n f≤n*b
 | 0,_=>by simp [z1r]
 | n+1,h=>by
  have h1:=h n (by omega);have h2:=z4c (n:=n) (fun i hi=>h i (by omega));simp only [z1r];push_cast;rw [Int.add_mul,Int.one_mul];omega
def zdq (K:Nat) (S:Nat->Int):List Int:=(List.range K).map S
theorem z2v (K:Nat) (S:Nat->Int):(zdq K S).length=K:=by simp [zdq]
theorem z4l {K:Nat} {S:Nat->Int} {c:Nat} (h:c < (zdq K S).length):(zdq K S)[c]=S c:=by simp [zdq]
theorem zkb (K:Nat) (S:Nat->Int) (c:Nat) (x:Int):(zdq K S).set c x=zdq K (fun d=>if d=c then x else S d):=by
 apply List.ext_getElem
 ·simp [zdq]
 ·intro i h1 h2;have h3:i < K:=by rw [List.length_set,z2v] at h1;exact h1
  rw [List.getElem_set,z4l,z4l (by rw [z2v];exact h3)];by_cases h:c=i
  ·subst h;simp
  ·have:¬ i=c:=fun e=>h e.symm
   simp [h,this]
theorem zkc (K:Nat):List.replicate K (0:Int)=zdq K (fun _=>0):=by
 apply List.ext_getElem
 ·simp [zdq]
 ·intro i h1 h2;simp [zdq]
theorem z58 {K:Nat} {S T:Nat->Int} (h:∀ c,c < K->S c=T c):zdq K S=zdq K T:=by
 apply List.map_congr_left;intro c hc;exact h c (List.mem_range.1 hc)
def zna (x:Int):Bool:=decide (0≤x) && decide (x≤1024)
def z92 (n:Int) (row:List Int):Bool:=decide (len row=n) && row.all zna
def z5x (g:List (List Int)) (n:Int):Bool:=decide (1≤len g) && decide (len g≤64) && g.all (z92 n)
theorem zwv {R:Type} {F:(Int->Option R)->Int->Option R} {α:Type} (l:List α) (p:α->Bool) (Q:Bool->R->Prop)
  (step:∀ (k:Nat) (w:Int->Option R) (hk:k < l.length),if p l[k] then F w (k:Int)=w ((k:Int)+1) else ∃ r,F w (k:Int)=some r∧Q false r)
  (last:∀ (w:Int->Option R),∃ r,F w (l.length:Int)=some r∧Q true r) (N:Nat) (hN:l.length < N):∃ r,iter F N 0=some r∧Q (l.all p) r:=by
 have key:∀ (M k:Nat),k≤l.length->l.length-k < M->(l.take k).all p=true->∃ r,iter F M (k:Int)=some r∧Q (l.all p) r:=by
  intro M
  induction M with
  | zero=>intro k _ h;omega
  | succ M ih=>
   intro k hk hM hall;simp only [iter];by_cases hlt:k < l.length
   ·have hs:=step k (iter F M) hlt
    cases hp:p l[k] with
    | true=>
     rw [hp] at hs;simp only [if_true] at hs;rw [hs]
     exact ih (k+1) (by omega) (by omega) (by rw [z1h hlt,List.all_append,hall,List.all_cons,hp];rfl)
    | false=>
     rw [hp] at hs;simp only [Bool.false_eq_true,if_false] at hs;have:l.all p=false:=by
      rw [List.all_eq_false];exact ⟨l[k],List.getElem_mem hlt,by simp [hp]⟩
     rw [this];exact hs
   ·have hkl:k=l.length:=by omega
    subst hkl;rw [List.take_length] at hall;rw [hall];exact last _
 exact key N 0 (by omega) (by omega) (by simp)
theorem f89_eq (N:Nat) (row:List Int) (hN:row.length < N) (hl:row.length < 4294967296):f89 N row ()=some (!(row.all zna)):=by
 obtain ⟨r,h1,h2⟩:=zwv (F:=fun w=>zde N row () (len row) w (fun t4=>some t4) (fun (_:Unit)=>some (-1))) row zna (fun b r=>decide (0≤r) = !b)
  (fun k w hk=>by
   simp only [zde];rw [z17 hk,cond_true,z0s hk];simp only [Option.bind_some,f96,zna];by_cases a:row[k] < 0
   ·have:¬ 0≤row[k]:=by omega
    simp [a,this]
   ·have a':0≤row[k]:=by omega
    by_cases b:1024 < row[k]
    ·have:¬ row[k]≤1024:=by omega
     simp [a,a',b,this]
    ·have b':row[k]≤1024:=by omega
     rw [z07 (by omega) (by omega)];simp [a,a',b,b'])
  (fun w=>by
   simp only [zde];rw [z0v,cond_false];exact ⟨-1,rfl,by simp⟩) N hN
 unfold f89 f110;rw [h1];simp only [Option.bind_some,h2]
theorem f79_eq (N:Nat) (hN:400 < N) {m:z1i} (hm:z41 m=true) (g:List (List Int)):f79 N m g=some (z5x g m.1):=by
 obtain ⟨m1,m2,m3,m4⟩:=z68.1 hm;unfold f79 z5x;by_cases h1:len g < 1
 ·have e:¬ 1≤len g:=by omega
  simp [h1,e]
 by_cases h2:64 < len g
 ·have e:¬ len g≤64:=by omega
  simp [h1,h2,e]
 have e1:1≤len g:=by omega
 have e2:len g≤64:=by omega
 have hgl:g.length≤64:=by simp only [len] at e2;omega
 simp only [h1,h2,e1,e2,decide_true,decide_false,cond_false,Option.bind_some,Bool.true_and];obtain ⟨r,h3,h4⟩:=zwv (F:=fun w=>zdd N g (m,()) (len g) w (fun t4=>some t4) (fun (_:Unit)=>some (-1))) g (z92 m.1) (fun b r=>decide (0≤r) = !b)
  (fun k w hk=>by
   simp only [zdd];rw [z17 hk,cond_true,z0s hk];simp only [Option.bind_some,f95,z92];by_cases a:len g[k]=m.1
   ·have hrl:g[k].length≤62:=by simp only [len] at a;omega
    simp only [a,decide_true,Bool.not_true,cond_false,Bool.true_and];rw [f89_eq N _ (by omega) (by omega),z07 (by omega) (by omega)];cases g[k].all zna <;> simp
   ·simp [a])
  (fun w=>by
   simp only [zdd];rw [z0v,cond_false];exact ⟨-1,rfl,by simp⟩) N (by omega)
 unfold f94 f112;rw [h3];simp only [Option.bind_some,h4,Bool.not_not]
def zv2 (row part:List Int) (n:Nat) (c:Int):Int:=z1r n fun s=>if part.getD s 0=c then row.getD s 0 else 0
def z7l (g:List (List Int)) (part:List Int) (c:Int):Int:=g.foldl (fun b row=>max b (zv2 row part part.length c)) 0
def zm4 (g:List (List Int)) (part:List Int):Int:=z1r (top 0 part).toNat fun c=>z7l g part (c:Int)
theorem zdv {n:Int} {row:List Int} (h:z92 n row=true):len row=n∧∀ s,0≤row.getD s 0∧row.getD s 0≤1024:=by
 simp only [z92,zA,decide_eq_true_eq] at h;refine ⟨h.1,fun s=>?_⟩;by_cases hs:s < row.length
 ·have:=List.all_eq_true.1 h.2 _ (List.getElem_mem hs);simp only [zna,zA,decide_eq_true_eq] at this;rw [List.getD_eq_getElem?_getD,List.getElem?_eq_getElem hs];exact this
 ·rw [List.getD_eq_getElem?_getD,List.getElem?_eq_none (by omega)];simp
theorem zju {n:Int} {row:List Int} (h:z92 n row=true) (part:List Int) (k:Nat) (c:Int):0≤zv2 row part k c∧zv2 row part k c≤k*1024:=by
 have hr:=(zdv h).2;constructor
 ·refine z4f fun i _=>?_
  have:=hr i;split <;> omega
 ·refine z4c fun i _=>?_
  have:=hr i;split <;> omega
theorem zp7 (g:List (List Int)) (row:List Int) (part:List Int) (c:Int):z7l (g++[row]) part c=max (z7l g part c) (zv2 row part part.length c):=by simp [z7l]
theorem zdi {n:Int} {part:List Int} (c:Int):{g:List (List Int)}->(∀ row∈g,z92 n row=true)->0≤z7l g part c∧z7l g part c≤part.length*1024:=by
 intro g
 induction g using zfk with
 | h0=>intro _;simp only [z7l,List.foldl_nil];omega
 | h1 g row ih=>
  intro h;have h1:=ih (fun r hr=>h r (by simp [hr]));have h2:=zju (h row (by simp)) part part.length c;rw [zp7];omega
theorem f43_eq (N:Nat) (hN:400 < N) {m:z1i} (hm:z41 m=true) (g:List (List Int)):f43 N m g=some (z5x g m.1):=by
 obtain ⟨m1,m2,m3,m4⟩:=z68.1 hm;unfold f43 z5x;by_cases h1:len g < 1
 ·have e:¬ 1≤len g:=by omega
  simp [h1,e]
 by_cases h2:64 < len g
 ·have e:¬ len g≤64:=by omega
  simp [h1,h2,e]
 have e1:1≤len g:=by omega
 have e2:len g≤64:=by omega
 have hgl:g.length≤64:=by simp only [len] at e2;omega
 simp only [h1,h2,e1,e2,decide_true,decide_false,cond_false,Option.bind_some,Bool.true_and];rw [z8h g (z92 m.1) (some true) (some false) ?_ ?_ N (by omega)]
 ·cases g.all (z92 m.1) <;> rfl
 ·intro k w hk;simp only [zob];rw [z17 hk,cond_true,z0s hk];simp only [Option.bind_some,z92];by_cases a:len g[k]=m.1
  ·have hrl:g[k].length≤62:=by simp only [len] at a;omega
   simp only [a,decide_true,Bool.not_true,cond_false,Bool.true_and];rw [←a,z8h g[k] zna (w ((k:Int)+1)) (some false) ?_ ?_ N (by omega)]
   ·intro j v hj;simp only [zoa];rw [z17 hj,cond_true,z0s hj,z07 (by omega) (by omega)];simp only [Option.bind_some,zna];generalize g[k][j]=x;by_cases b:x < 0
    ·have:¬ 0≤x:=by omega
     simp [b,this]
    ·have b':0≤x:=by omega
     by_cases c:1024 < x
     ·have:¬ x≤1024:=by omega
      simp [b,b',c,this]
     ·have c':x≤1024:=by omega
      simp [b,b',c,c']
   ·intro v;simp only [zoa];rw [z0v,cond_false,z07 (by omega) (by omega)]
  ·simp [a]
 ·intro w;simp only [zob];rw [z0v];rfl
end Go.Kz
