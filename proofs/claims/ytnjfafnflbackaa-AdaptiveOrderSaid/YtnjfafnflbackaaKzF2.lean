/-
  The layer adaptive: menus and gains, plain laws.
-/
import Derived.Test.YtnjfafnflbackaaKzF1
set_option linter.unusedVariables false
set_option linter.unusedSimpArgs false
namespace Go.Kz
section
variable {R β:Type}
theorem z8d {F:(Int->Option R)->Int->Option R} {α:Type} (l:List α) (p:α->Bool) (A B:Option R)
  (step:∀ (k:Nat) (w:Int->Option R) (hk:k < l.length),F w (k:Int)=if p l[k] then w ((k:Int)+1) else B)
  (last:∀ (w:Int->Option R),F w (l.length:Int)=A) (N:Nat) (hN:l.length < N):iter F N 0=if l.all p then A else B:=by
 refine zn5 (fun k=>(l.take k).all p=true) l.length ?_ ?_ N hN (by simp)
 ·intro k w hk hi hw;rw [step k w hk]
  cases hp:p l[k] with
  | true=>
   simp only [if_true]
   exact hw (by rw [z1s hk,List.all_append,hi,List.all_cons,hp];rfl)
  | false=>
   simp only [Bool.false_eq_true,if_false];have:l.all p=false:=by
    rw [List.all_eq_false];exact ⟨l[k],List.getElem_mem hk,by simp [hp]⟩
   rw [this];rfl
 ·intro w hi;rw [List.take_length] at hi;rw [last w,hi];rfl
end
abbrev z1o:=Int×(List (List Int)×Unit)
abbrev z2u:=Int×(List Int×Unit)
def zfm (n:Int) (v:List Int):Bool:=decide (len v=n) && okP v
def z3r (m:z1o):Bool:=decide (1≤m.1) && decide (m.1≤62) && decide (m.2.1.length≤8) && m.2.1.all (zfm m.1)
def zc9 (m:z1o):Int:=if z3r m then 0 else 1
theorem z61 {m:z1o}:z3r m=true↔1≤m.1∧m.1≤62∧m.2.1.length≤8∧∀ v∈m.2.1,len v=m.1∧okP v=true:=by
 simp [z3r,zfm,and_assoc]
theorem zxd (N:Nat) (hN:400 < N) (m:z1o):f68 N m=some (zc9 m):=by
 unfold f68 zc9 z3r;by_cases h1:m.1 < 1
 ·have e:decide (1≤m.1)=false:=by simp;omega
  simp [h1,e]
 by_cases h2:62 < m.1
 ·have e:decide (m.1≤62)=false:=by simp;omega
  simp [h1,h2,e]
 by_cases h3:8 < len m.2.1
 ·have e:decide (m.2.1.length≤8)=false:=by simp [len] at h3 ⊢;omega
  simp [h1,h2,h3,e]
 have e1:decide (1≤m.1)=true:=by simp;omega
 have e2:decide (m.1≤62)=true:=by simp;omega
 have e3:decide (m.2.1.length≤8)=true:=by simp [len] at h3 ⊢;omega
 simp only [decide_eq_true_eq] at e3;simp only [h1,h2,h3,e1,e2,e3,decide_false,decide_true,cond_false,Option.bind_some,Bool.true_and];rw [z8d m.2.1 (zfm m.1) (some 0) (some 1) ?_ ?_ N (by omega)]
 ·split <;> rfl
 ·intro k w hk;simp only [znk];rw [z1g hk,cond_true,z0s hk];simp only [Option.bind_some,zfm];by_cases hl:len m.2.1[k]=m.1
  ·have hl':m.2.1[k].length≤62:=by simp [len] at hl;omega
   simp only [hl,decide_true,Bool.not_true,cond_false,Bool.true_and];rw [zxc N _ (by omega) (by omega),z09 (by omega) (by omega)];cases okP m.2.1[k] <;> simp
  ·simp [hl]
 ·intro w;simp only [znk];rw [z11];rfl
theorem f28_eq (N:Nat) (hN:400 < N) (m:z1o):f28 N m=some (z3r m):=by
 unfold f28 z3r;by_cases h1:m.1 < 1
 ·have e:decide (1≤m.1)=false:=by simp;omega
  simp [h1,e]
 by_cases h2:62 < m.1
 ·have e:decide (m.1≤62)=false:=by simp;omega
  simp [h1,h2,e]
 by_cases h3:8 < len m.2.1
 ·have e:decide (m.2.1.length≤8)=false:=by simp [len] at h3 ⊢;omega
  simp [h1,h2,h3,e]
 have e1:decide (1≤m.1)=true:=by simp;omega
 have e2:decide (m.1≤62)=true:=by simp;omega
 have e3:decide (m.2.1.length≤8)=true:=by simp [len] at h3 ⊢;omega
 simp only [decide_eq_true_eq] at e3;simp only [h1,h2,h3,e1,e2,e3,decide_false,decide_true,cond_false,Option.bind_some,Bool.true_and];rw [z8d m.2.1 (zfm m.1) (some true) (some false) ?_ ?_ N (by omega)]
 ·cases m.2.1.all (zfm m.1) <;> rfl
 ·intro k w hk;simp only [zo2];rw [z1g hk,cond_true,z0s hk];simp only [Option.bind_some,zfm];by_cases hl:len m.2.1[k]=m.1
  ·have hl':m.2.1[k].length≤62:=by simp [len] at hl;omega
   simp only [hl,decide_true,Bool.not_true,cond_false,Bool.true_and];rw [zsk N _ (by omega) (by omega),z09 (by omega) (by omega)];cases okP m.2.1[k] <;> simp
  ·simp [hl]
 ·intro w;simp only [zo2];rw [z11];rfl
def fewB (m:z1o) (g:List (List Int)) (a b:Int):Bool:=
 !decide (a < m.1) && !decide (b < len m.2.1) && !decide (12 < len g) && m.2.1.all (fun v=>!decide (z0l (a+2) < len v)) && g.all (fun v=>!decide (z0l (a+2) < len v))
theorem f12_eq (N:Nat) (hN:400 < N) (m:z1o) (g:List (List Int)) (a b:Int) (hb:b≤300):f12 N m g a b=some (fewB m g a b):=by
 unfold f12 fewB;by_cases h1:a < m.1
 ·simp [h1]
 by_cases h2:b < len m.2.1
 ·simp [h1,h2]
 by_cases h3:12 < len g
 ·simp [h1,h2,h3]
 have hv:m.2.1.length≤300:=by simp [len] at h2;omega
 have hg:g.length≤12:=by simp [len] at h3;omega
 simp only [h1,h2,h3,decide_false,cond_false,Option.bind_some,Bool.not_false,Bool.true_and];rw [z8d m.2.1 (fun v=>!decide (z0l (a+2) < len v)) (if g.all (fun v=>!decide (z0l (a+2) < len v)) then some true else some false) (some false) ?_ ?_ N (by omega)]
 ·cases m.2.1.all (fun v=>!decide (z0l (a+2) < len v)) <;> cases g.all (fun v=>!decide (z0l (a+2) < len v)) <;> rfl
 ·intro k w hk;simp only [zo7];rw [z1g hk,cond_true,z0s hk,z09 (n:=(k:Int)+1) (by omega) (by omega)];simp only [Option.bind_some];cases decide (z0l (a+2) < len m.2.1[k]) <;> simp
 ·intro w;simp only [zo7];rw [z11,cond_false];rw [z8d g (fun v=>!decide (z0l (a+2) < len v)) (some true) (some false) ?_ ?_ N (by omega)]
  ·intro k w hk;simp only [zh8];rw [z1g hk,cond_true,z0s hk,z09 (n:=(k:Int)+1) (by omega) (by omega)];simp only [Option.bind_some];cases decide (z0l (a+2) < len g[k]) <;> simp
  ·intro w;simp only [zh8];rw [z11];rfl
def z1k:Nat->(Nat->Int)->Int
 | 0,_=>0
 | n+1,f=>z1k n f+f n
theorem z12 {f g:Nat->Int}:{n:Nat}->(∀ i,i < n->f i=g i)->z1k n f=z1k n g
 | 0,_=>rfl
 | n+1,h=>by simp only [z1k,h n (by omega),z12 (n:=n) (fun i hi=>h i (by omega))]
theorem z7k {f g:Nat->Int}:{n:Nat}->(∀ i,i < n->f i≤g i)->z1k n f≤z1k n g
 | 0,_=>by simp [z1k]
 | n+1,h=>by
  have h1:=h n (by omega);have h2:=z7k (n:=n) (fun i hi=>h i (by omega));simp only [z1k];omega
theorem z3x:(n:Nat)->z1k n (fun _=>0)=0
 | 0=>rfl
 | n+1=>by simp only [z1k,z3x n];rfl
theorem z35 {f:Nat->Int} {n:Nat} (h:∀ i,i < n->0≤f i):0≤z1k n f:=by
 have:=z7k (f:=fun _=>0) (g:=f) h;rw [z3x] at this;exact this
theorem zlw (f g:Nat->Int):(n:Nat)->z1k n (fun i=>f i+g i)=z1k n f+z1k n g
 | 0=>rfl
 | n+1=>by simp only [z1k,zlw f g n];omega
theorem zd0 (f:Nat->Nat->Int) (m:Nat):(n:Nat)->z1k n (fun i=>z1k m (fun j=>f i j))=z1k m (fun j=>z1k n (fun i=>f i j))
 | 0=>(z3x m).symm
 | n+1=>by
  simp only [z1k];rw [zd0 f m n,←zlw]
theorem zlv {n d:Nat} (x:Int) (h:d < n):z1k n (fun i=>if i=d then x else 0)=x:=by
 induction n with
 | zero=>omega
 | succ n ih=>
  simp only [z1k];by_cases he:d=n
  ·subst he;have:z1k d (fun i=>if i=d then x else 0)=0:=(z12 (fun i hi=>if_neg (by omega))).trans (z3x d);rw [this];simp
  ·rw [ih (by omega),if_neg (by omega)];omega
theorem z3q {f:Nat->Int} {b:Int}:{n:Nat}->(∀ i,i < n->f i≤b)->z1k n f≤n*b
 | 0,_=>by simp [z1k]
 | n+1,h=>by
  have h1:=h n (by omega);have h2:=z3q (n:=n) (fun i hi=>h i (by omega));simp only [z1k];push_cast;rw [Int.add_mul,Int.one_mul];omega
def zdz (K:Nat) (S:Nat->Int):List Int:=(List.range K).map S
theorem z2p (K:Nat) (S:Nat->Int):(zdz K S).length=K:=by simp [zdz]
theorem z4j {K:Nat} {S:Nat->Int} {c:Nat} (h:c < (zdz K S).length):(zdz K S)[c]=S c:=by simp [zdz]
theorem zk4 (K:Nat) (S:Nat->Int) (c:Nat) (x:Int):(zdz K S).set c x=zdz K (fun d=>if d=c then x else S d):=by
 apply List.ext_getElem
 ·simp [zdz]
 ·intro i h1 h2;have h3:i < K:=by rw [List.length_set,z2p] at h1;exact h1
  rw [List.getElem_set,z4j,z4j (by rw [z2p];exact h3)];by_cases h:c=i
  ·subst h;simp
  ·have:¬ i=c:=fun e=>h e.symm
   simp [h,this]
theorem zk5 (K:Nat):List.replicate K (0:Int)=zdz K (fun _=>0):=by
 apply List.ext_getElem
 ·simp [zdz]
 ·intro i h1 h2;simp [zdz]
theorem z4y {K:Nat} {S T:Nat->Int} (h:∀ c,c < K->S c=T c):zdz K S=zdz K T:=by
 apply List.map_congr_left;intro c hc;exact h c (List.mem_range.1 hc)
def zmu (x:Int):Bool:=decide (0≤x) && decide (x≤1024)
def z92 (n:Int) (row:List Int):Bool:=decide (len row=n) && row.all zmu
def z5s (g:List (List Int)) (n:Int):Bool:=decide (1≤len g) && decide (len g≤64) && g.all (z92 n)
theorem zwp {R:Type} {F:(Int->Option R)->Int->Option R} {α:Type} (l:List α) (p:α->Bool) (Q:Bool->R->Prop)
  (step:∀ (k:Nat) (w:Int->Option R) (hk:k < l.length),if p l[k] then F w (k:Int)=w ((k:Int)+1) else ∃ r,F w (k:Int)=some r∧Q false r)
  (last:∀ (w:Int->Option R),∃ r,F w (l.length:Int)=some r∧Q true r) (N:Nat) (hN:l.length < N):∃ r,iter F N 0=some r∧Q (l.all p) r:=by
 have key:∀ (M k:Nat),k≤l.length->l.length-k < M->(l.take k).all p=true->∃ r,iter F M (k:Int)=some r∧Q (l.all p) r:=by
  intro M
  induction M with
  | zero=>intro k _ h;omega
  | succ M ih=>
   intro k hk hM hall;simp only [iter];by_cases hlt:k < l.length
   ·have hs:=step k (iter F M) hlt
    cases hp:p l[k] with
    | true=>
     rw [hp] at hs;simp only [if_true] at hs;rw [hs]
     exact ih (k+1) (by omega) (by omega) (by rw [z1s hlt,List.all_append,hall,List.all_cons,hp];rfl)
    | false=>
     rw [hp] at hs;simp only [Bool.false_eq_true,if_false] at hs;have:l.all p=false:=by
      rw [List.all_eq_false];exact ⟨l[k],List.getElem_mem hlt,by simp [hp]⟩
     rw [this];exact hs
   ·have hkl:k=l.length:=by omega
    subst hkl;rw [List.take_length] at hall;rw [hall];exact last _
 exact key N 0 (by omega) (by omega) (by simp)
theorem f89_eq (N:Nat) (row:List Int) (hN:row.length < N) (hl:row.length < 4294967296):f89 N row ()=some (!(row.all zmu)):=by
 obtain ⟨r,h1,h2⟩:=zwp (F:=fun w=>zdm N row () (len row) w (fun t4=>some t4) (fun (_:Unit)=>some (-1))) row zmu (fun b r=>decide (0≤r) = !b)
  (fun k w hk=>by
   simp only [zdm];rw [z1g hk,cond_true,z0s hk];simp only [Option.bind_some,f96,zmu];by_cases a:row[k] < 0
   ·have:¬ 0≤row[k]:=by omega
    simp [a,this]
   ·have a':0≤row[k]:=by omega
    by_cases b:1024 < row[k]
    ·have:¬ row[k]≤1024:=by omega
     simp [a,a',b,this]
    ·have b':row[k]≤1024:=by omega
     rw [z09 (by omega) (by omega)];simp [a,a',b,b'])
  (fun w=>by
   simp only [zdm];rw [z11,cond_false];exact ⟨-1,rfl,by simp⟩) N hN
 unfold f89 f110;rw [h1];simp only [Option.bind_some,h2]
theorem f79_eq (N:Nat) (hN:400 < N) {m:z1o} (hm:z3r m=true) (g:List (List Int)):f79 N m g=some (z5s g m.1):=by
 obtain ⟨m1,m2,m3,m4⟩:=z61.1 hm;unfold f79 z5s;by_cases h1:len g < 1
 ·have e:¬ 1≤len g:=by omega
  simp [h1,e]
 by_cases h2:64 < len g
 ·have e:¬ len g≤64:=by omega
  simp [h1,h2,e]
 have e1:1≤len g:=by omega
 have e2:len g≤64:=by omega
 have hgl:g.length≤64:=by simp only [len] at e2;omega
 simp only [h1,h2,e1,e2,decide_true,decide_false,cond_false,Option.bind_some,Bool.true_and];obtain ⟨r,h3,h4⟩:=zwp (F:=fun w=>zdl N g (m,()) (len g) w (fun t4=>some t4) (fun (_:Unit)=>some (-1))) g (z92 m.1) (fun b r=>decide (0≤r) = !b)
  (fun k w hk=>by
   simp only [zdl];rw [z1g hk,cond_true,z0s hk];simp only [Option.bind_some,f95,z92];by_cases a:len g[k]=m.1
   ·have hrl:g[k].length≤62:=by simp only [len] at a;omega
    simp only [a,decide_true,Bool.not_true,cond_false,Bool.true_and];rw [f89_eq N _ (by omega) (by omega),z09 (by omega) (by omega)];cases g[k].all zmu <;> simp
   ·simp [a])
  (fun w=>by
   simp only [zdl];rw [z11,cond_false];exact ⟨-1,rfl,by simp⟩) N (by omega)
 unfold f94 f112;rw [h3];simp only [Option.bind_some,h4,Bool.not_not]
def zuz (row part:List Int) (n:Nat) (c:Int):Int:=z1k n fun s=>if part.getD s 0=c then row.getD s 0 else 0
def z7g (g:List (List Int)) (part:List Int) (c:Int):Int:=g.foldl (fun b row=>max b (zuz row part part.length c)) 0
def zbo (g:List (List Int)) (part:List Int):Int:=z1k (top 0 part).toNat fun c=>z7g g part (c:Int)
theorem ze3 {n:Int} {row:List Int} (h:z92 n row=true):len row=n∧∀ s,0≤row.getD s 0∧row.getD s 0≤1024:=by
 simp only [z92,zA,decide_eq_true_eq] at h;refine ⟨h.1,fun s=>?_⟩;by_cases hs:s < row.length
 ·have:=List.all_eq_true.1 h.2 _ (List.getElem_mem hs);simp only [zmu,zA,decide_eq_true_eq] at this;rw [List.getD_eq_getElem?_getD,List.getElem?_eq_getElem hs];exact this
 ·rw [List.getD_eq_getElem?_getD,List.getElem?_eq_none (by omega)];simp
theorem zjp {n:Int} {row:List Int} (h:z92 n row=true) (part:List Int) (k:Nat) (c:Int):0≤zuz row part k c∧zuz row part k c≤k*1024:=by
 have hr:=(ze3 h).2;constructor
 ·refine z35 fun i _=>?_
  have:=hr i;split <;> omega
 ·refine z3q fun i _=>?_
  have:=hr i;split <;> omega
theorem zor (g:List (List Int)) (row:List Int) (part:List Int) (c:Int):z7g (g++[row]) part c=max (z7g g part c) (zuz row part part.length c):=by simp [z7g]
theorem zdr {n:Int} {part:List Int} (c:Int):{g:List (List Int)}->(∀ row∈g,z92 n row=true)->0≤z7g g part c∧z7g g part c≤part.length*1024:=by
 intro g
 induction g using zb0 with
 | h0=>intro _;simp only [z7g,List.foldl_nil];omega
 | h1 g row ih=>
  intro h;have h1:=ih (fun r hr=>h r (by simp [hr]));have h2:=zjp (h row (by simp)) part part.length c;rw [zor];omega
theorem f43_eq (N:Nat) (hN:400 < N) {m:z1o} (hm:z3r m=true) (g:List (List Int)):f43 N m g=some (z5s g m.1):=by
 obtain ⟨m1,m2,m3,m4⟩:=z61.1 hm;unfold f43 z5s;by_cases h1:len g < 1
 ·have e:¬ 1≤len g:=by omega
  simp [h1,e]
 by_cases h2:64 < len g
 ·have e:¬ len g≤64:=by omega
  simp [h1,h2,e]
 have e1:1≤len g:=by omega
 have e2:len g≤64:=by omega
 have hgl:g.length≤64:=by simp only [len] at e2;omega
 simp only [h1,h2,e1,e2,decide_true,decide_false,cond_false,Option.bind_some,Bool.true_and];rw [z8d g (z92 m.1) (some true) (some false) ?_ ?_ N (by omega)]
 ·cases g.all (z92 m.1) <;> rfl
 ·intro k w hk;simp only [znw];rw [z1g hk,cond_true,z0s hk];simp only [Option.bind_some,z92];by_cases a:len g[k]=m.1
  ·have hrl:g[k].length≤62:=by simp only [len] at a;omega
   simp only [a,decide_true,Bool.not_true,cond_false,Bool.true_and];rw [←a,z8d g[k] zmu (w ((k:Int)+1)) (some false) ?_ ?_ N (by omega)]
   ·intro j v hj;simp only [znv];rw [z1g hj,cond_true,z0s hj,z09 (by omega) (by omega)];simp only [Option.bind_some,zmu];generalize g[k][j]=x;by_cases b:x < 0
    ·have:¬ 0≤x:=by omega
     simp [b,this]
    ·have b':0≤x:=by omega
     by_cases c:1024 < x
     ·have:¬ x≤1024:=by omega
      simp [b,b',c,this]
     ·have c':x≤1024:=by omega
      simp [b,b',c,c']
   ·intro v;simp only [znv];rw [z11,cond_false,z09 (by omega) (by omega)]
  ·simp [a]
 ·intro w;simp only [znw];rw [z11];rfl
end Go.Kz
