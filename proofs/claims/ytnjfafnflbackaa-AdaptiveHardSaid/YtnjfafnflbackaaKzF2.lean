/-
  The layer adaptive: menus and gains, plain laws.
-/
import Derived.Test.YtnjfafnflbackaaKzF1
set_option linter.unusedVariables false
set_option linter.unusedSimpArgs false
namespace Go.Kz
section
variable {R β:Type}
theorem z8g {F:(Int->Option R)->Int->Option R} {α:Type} (l:List α) (p:α->Bool) (A B:Option R)
  (step:∀ (k:Nat) (w:Int->Option R) (hk:k < l.length),F w (k:Int)=if p l[k] then w ((k:Int)+1) else B)
  (last:∀ (w:Int->Option R),F w (l.length:Int)=A) (N:Nat) (hN:l.length < N):iter F N 0=if l.all p then A else B:=by
 refine zgr (fun k=>(l.take k).all p=true) l.length ?_ ?_ N hN (by simp)
 ·intro k w hk hi hw;rw [step k w hk]
  cases hp:p l[k] with
  | true=>
   simp only [if_true]
   exact hw (by rw [z1k hk,List.all_append,hi,List.all_cons,hp];rfl)
  | false=>
   simp only [Bool.false_eq_true,if_false];have:l.all p=false:=by
    rw [List.all_eq_false];exact ⟨l[k],List.getElem_mem hk,by simp [hp]⟩
   rw [this];rfl
 ·intro w hi;rw [List.take_length] at hi;rw [last w,hi];rfl
end
abbrev z1n:=Int×(List (List Int)×Unit)
abbrev z1j:=Int×(List Int×Unit)
abbrev Ans:=Int×(Int×Unit)
def zfo (n:Int) (v:List Int):Bool:=decide (len v=n) && okP v
def z3g (m:z1n):Bool:=decide (1≤m.1) && decide (m.1≤62) && decide (m.2.1.length≤8) && m.2.1.all (zfo m.1)
def za3 (m:z1n):Int:=if z3g m then 0 else 1
theorem z7o {m:z1n}:z3g m=true↔1≤m.1∧m.1≤62∧m.2.1.length≤8∧∀ v∈m.2.1,len v=m.1∧okP v=true:=by
 simp [z3g,zfo,and_assoc]
theorem ztf (N:Nat) (hN:400 < N) (m:z1n):f68 N m=some (za3 m):=by
 unfold f68 za3 z3g;by_cases h1:m.1 < 1
 ·have e:decide (1≤m.1)=false:=by simp;omega
  simp [h1,e]
 by_cases h2:62 < m.1
 ·have e:decide (m.1≤62)=false:=by simp;omega
  simp [h1,h2,e]
 by_cases h3:8 < len m.2.1
 ·have e:decide (m.2.1.length≤8)=false:=by simp [len] at h3 ⊢;omega
  simp [h1,h2,h3,e]
 have e1:decide (1≤m.1)=true:=by simp;omega
 have e2:decide (m.1≤62)=true:=by simp;omega
 have e3:decide (m.2.1.length≤8)=true:=by simp [len] at h3 ⊢;omega
 simp only [decide_eq_true_eq] at e3;simp only [h1,h2,h3,e1,e2,e3,decide_false,decide_true,cond_false,Option.bind_some,Bool.true_and];rw [z8g m.2.1 (zfo m.1) (some 0) (some 1) ?_ ?_ N (by omega)]
 ·split <;> rfl
 ·intro k w hk;simp only [zof];rw [z12 hk,cond_true,z0k hk];simp only [Option.bind_some,zfo];by_cases hl:len m.2.1[k]=m.1
  ·have hl':m.2.1[k].length≤62:=by simp [len] at hl;omega
   simp only [hl,decide_true,Bool.not_true,cond_false,Bool.true_and];rw [zy8 N _ (by omega) (by omega),z06 (by omega) (by omega)];cases okP m.2.1[k] <;> simp
  ·simp [hl]
 ·intro w;simp only [zof];rw [z0u];rfl
theorem f28_eq (N:Nat) (hN:400 < N) (m:z1n):f28 N m=some (z3g m):=by
 unfold f28 z3g;by_cases h1:m.1 < 1
 ·have e:decide (1≤m.1)=false:=by simp;omega
  simp [h1,e]
 by_cases h2:62 < m.1
 ·have e:decide (m.1≤62)=false:=by simp;omega
  simp [h1,h2,e]
 by_cases h3:8 < len m.2.1
 ·have e:decide (m.2.1.length≤8)=false:=by simp [len] at h3 ⊢;omega
  simp [h1,h2,h3,e]
 have e1:decide (1≤m.1)=true:=by simp;omega
 have e2:decide (m.1≤62)=true:=by simp;omega
 have e3:decide (m.2.1.length≤8)=true:=by simp [len] at h3 ⊢;omega
 simp only [decide_eq_true_eq] at e3;simp only [h1,h2,h3,e1,e2,e3,decide_false,decide_true,cond_false,Option.bind_some,Bool.true_and];rw [z8g m.2.1 (zfo m.1) (some true) (some false) ?_ ?_ N (by omega)]
 ·cases m.2.1.all (zfo m.1) <;> rfl
 ·intro k w hk;simp only [zov];rw [z12 hk,cond_true,z0k hk];simp only [Option.bind_some,zfo];by_cases hl:len m.2.1[k]=m.1
  ·have hl':m.2.1[k].length≤62:=by simp [len] at hl;omega
   simp only [hl,decide_true,Bool.not_true,cond_false,Bool.true_and];rw [ztg N _ (by omega) (by omega),z06 (by omega) (by omega)];cases okP m.2.1[k] <;> simp
  ·simp [hl]
 ·intro w;simp only [zov];rw [z0u];rfl
def fewB (m:z1n) (g:List (List Int)) (a b:Int):Bool:=
 !decide (a < m.1) && !decide (b < len m.2.1) && !decide (12 < len g) && m.2.1.all (fun v=>!decide (z0i (a+2) < len v)) && g.all (fun v=>!decide (z0i (a+2) < len v))
theorem f12_eq (N:Nat) (hN:400 < N) (m:z1n) (g:List (List Int)) (a b:Int) (hb:b≤300):f12 N m g a b=some (fewB m g a b):=by
 unfold f12 fewB;by_cases h1:a < m.1
 ·simp [h1]
 by_cases h2:b < len m.2.1
 ·simp [h1,h2]
 by_cases h3:12 < len g
 ·simp [h1,h2,h3]
 have hv:m.2.1.length≤300:=by simp [len] at h2;omega
 have hg:g.length≤12:=by simp [len] at h3;omega
 simp only [h1,h2,h3,decide_false,cond_false,Option.bind_some,Bool.not_false,Bool.true_and];rw [z8g m.2.1 (fun v=>!decide (z0i (a+2) < len v)) (if g.all (fun v=>!decide (z0i (a+2) < len v)) then some true else some false) (some false) ?_ ?_ N (by omega)]
 ·cases m.2.1.all (fun v=>!decide (z0i (a+2) < len v)) <;> cases g.all (fun v=>!decide (z0i (a+2) < len v)) <;> rfl
 ·intro k w hk;simp only [zoz];rw [z12 hk,cond_true,z0k hk,z06 (n:=(k:Int)+1) (by omega) (by omega)];simp only [Option.bind_some];cases decide (z0i (a+2) < len m.2.1[k]) <;> simp
 ·intro w;simp only [zoz];rw [z0u,cond_false];rw [z8g g (fun v=>!decide (z0i (a+2) < len v)) (some true) (some false) ?_ ?_ N (by omega)]
  ·intro k w hk;simp only [zhg];rw [z12 hk,cond_true,z0k hk,z06 (n:=(k:Int)+1) (by omega) (by omega)];simp only [Option.bind_some];cases decide (z0i (a+2) < len g[k]) <;> simp
  ·intro w;simp only [zhg];rw [z0u];rfl
def z1w:Nat->(Nat->Int)->Int
 | 0,_=>0
 | n+1,f=>z1w n f+f n
theorem z1g {f g:Nat->Int}:{n:Nat}->(∀ i,i < n->f i=g i)->z1w n f=z1w n g
 | 0,_=>rfl
 | n+1,h=>by simp only [z1w,h n (by omega),z1g (n:=n) (fun i hi=>h i (by omega))]
theorem z7h {f g:Nat->Int}:{n:Nat}->(∀ i,i < n->f i≤g i)->z1w n f≤z1w n g
 | 0,_=>by simp [z1w]
 | n+1,h=>by
  have h1:=h n (by omega);have h2:=z7h (n:=n) (fun i hi=>h i (by omega));simp only [z1w];omega
theorem z4y:(n:Nat)->z1w n (fun _=>0)=0
 | 0=>rfl
 | n+1=>by simp only [z1w,z4y n];rfl
theorem z4e {f:Nat->Int} {n:Nat} (h:∀ i,i < n->0≤f i):0≤z1w n f:=by
 have:=z7h (f:=fun _=>0) (g:=f) h;rw [z4y] at this;exact this
theorem zmm (f g:Nat->Int):(n:Nat)->z1w n (fun i=>f i+g i)=z1w n f+z1w n g
 | 0=>rfl
 | n+1=>by simp only [z1w,zmm f g n];omega
theorem zd3 (f:Nat->Nat->Int) (m:Nat):(n:Nat)->z1w n (fun i=>z1w m (fun j=>f i j))=z1w m (fun j=>z1w n (fun i=>f i j))
 | 0=>(z4y m).symm
 | n+1=>by
  simp only [z1w];rw [zd3 f m n,←zmm]
theorem zml {n d:Nat} (x:Int) (h:d < n):z1w n (fun i=>if i=d then x else 0)=x:=by
 induction n with
 | zero=>omega
 | succ n ih=>
  simp only [z1w];by_cases he:d=n
  ·subst he;have:z1w d (fun i=>if i=d then x else 0)=0:=(z1g (fun i hi=>if_neg (by omega))).trans (z4y d);rw [this];simp
  ·rw [ih (by omega),if_neg (by omega)];omega
theorem z4a {f:Nat->Int} {b:Int}:{n:Nat}->(∀ i,i < n->f i≤b)->z1w n f≤n*b
 | 0,_=>by simp [z1w]
 | n+1,h=>by
  have h1:=h n (by omega);have h2:=z4a (n:=n) (fun i hi=>h i (by omega));simp only [z1w];push_cast;rw [Int.add_mul,Int.one_mul];omega
def zcy (K:Nat) (S:Nat->Int):List Int:=(List.range K).map S
theorem z2n (K:Nat) (S:Nat->Int):(zcy K S).length=K:=by simp [zcy]
theorem z4j {K:Nat} {S:Nat->Int} {c:Nat} (h:c < (zcy K S).length):(zcy K S)[c]=S c:=by simp [zcy]
theorem zkk (K:Nat) (S:Nat->Int) (c:Nat) (x:Int):(zcy K S).set c x=zcy K (fun d=>if d=c then x else S d):=by
 apply List.ext_getElem
 ·simp [zcy]
 ·intro i h1 h2;have h3:i < K:=by rw [List.length_set,z2n] at h1;exact h1
  rw [List.getElem_set,z4j,z4j (by rw [z2n];exact h3)];by_cases h:c=i
  ·subst h;simp
  ·have:¬ i=c:=fun e=>h e.symm
   simp [h,this]
theorem zkl (K:Nat):List.replicate K (0:Int)=zcy K (fun _=>0):=by
 apply List.ext_getElem
 ·simp [zcy]
 ·intro i h1 h2;simp [zcy]
theorem z4x {K:Nat} {S T:Nat->Int} (h:∀ c,c < K->S c=T c):zcy K S=zcy K T:=by
 apply List.map_congr_left;intro c hc;exact h c (List.mem_range.1 hc)
def zuy (x:Int):Bool:=decide (0≤x) && decide (x≤1024)
def zc1 (n:Int) (row:List Int):Bool:=decide (len row=n) && row.all zuy
def z7u (g:List (List Int)) (n:Int):Bool:=decide (1≤len g) && decide (len g≤64) && g.all (zc1 n)
theorem zxj {R:Type} {F:(Int->Option R)->Int->Option R} {α:Type} (l:List α) (p:α->Bool) (Q:Bool->R->Prop)
  (step:∀ (k:Nat) (w:Int->Option R) (hk:k < l.length),if p l[k] then F w (k:Int)=w ((k:Int)+1) else ∃ r,F w (k:Int)=some r∧Q false r)
  (last:∀ (w:Int->Option R),∃ r,F w (l.length:Int)=some r∧Q true r) (N:Nat) (hN:l.length < N):∃ r,iter F N 0=some r∧Q (l.all p) r:=by
 have key:∀ (M k:Nat),k≤l.length->l.length-k < M->(l.take k).all p=true->∃ r,iter F M (k:Int)=some r∧Q (l.all p) r:=by
  intro M
  induction M with
  | zero=>intro k _ h;omega
  | succ M ih=>
   intro k hk hM hall;simp only [iter];by_cases hlt:k < l.length
   ·have hs:=step k (iter F M) hlt
    cases hp:p l[k] with
    | true=>
     rw [hp] at hs;simp only [if_true] at hs;rw [hs]
     exact ih (k+1) (by omega) (by omega) (by rw [z1k hlt,List.all_append,hall,List.all_cons,hp];rfl)
    | false=>
     rw [hp] at hs;simp only [Bool.false_eq_true,if_false] at hs;have:l.all p=false:=by
      rw [List.all_eq_false];exact ⟨l[k],List.getElem_mem hlt,by simp [hp]⟩
     rw [this];exact hs
   ·have hkl:k=l.length:=by omega
    subst hkl;rw [List.take_length] at hall;rw [hall];exact last _
 exact key N 0 (by omega) (by omega) (by simp)
theorem f89_eq (N:Nat) (row:List Int) (hN:row.length < N) (hl:row.length < 4294967296):f89 N row ()=some (!(row.all zuy)):=by
 obtain ⟨r,h1,h2⟩:=zxj (F:=fun w=>zdq N row () (len row) w (fun t4=>some t4) (fun (_:Unit)=>some (-1))) row zuy (fun b r=>decide (0≤r) = !b)
  (fun k w hk=>by
   simp only [zdq];rw [z12 hk,cond_true,z0k hk];simp only [Option.bind_some,f96,zuy];by_cases a:row[k] < 0
   ·have:¬ 0≤row[k]:=by omega
    simp [a,this]
   ·have a':0≤row[k]:=by omega
    by_cases b:1024 < row[k]
    ·have:¬ row[k]≤1024:=by omega
     simp [a,a',b,this]
    ·have b':row[k]≤1024:=by omega
     rw [z06 (by omega) (by omega)];simp [a,a',b,b'])
  (fun w=>by
   simp only [zdq];rw [z0u,cond_false];exact ⟨-1,rfl,by simp⟩) N hN
 unfold f89 f110;rw [h1];simp only [Option.bind_some,h2]
theorem f79_eq (N:Nat) (hN:400 < N) {m:z1n} (hm:z3g m=true) (g:List (List Int)):f79 N m g=some (z7u g m.1):=by
 obtain ⟨m1,m2,m3,m4⟩:=z7o.1 hm;unfold f79 z7u;by_cases h1:len g < 1
 ·have e:¬ 1≤len g:=by omega
  simp [h1,e]
 by_cases h2:64 < len g
 ·have e:¬ len g≤64:=by omega
  simp [h1,h2,e]
 have e1:1≤len g:=by omega
 have e2:len g≤64:=by omega
 have hgl:g.length≤64:=by simp only [len] at e2;omega
 simp only [h1,h2,e1,e2,decide_true,decide_false,cond_false,Option.bind_some,Bool.true_and];obtain ⟨r,h3,h4⟩:=zxj (F:=fun w=>zdp N g (m,()) (len g) w (fun t4=>some t4) (fun (_:Unit)=>some (-1))) g (zc1 m.1) (fun b r=>decide (0≤r) = !b)
  (fun k w hk=>by
   simp only [zdp];rw [z12 hk,cond_true,z0k hk];simp only [Option.bind_some,f95,zc1];by_cases a:len g[k]=m.1
   ·have hrl:g[k].length≤62:=by simp only [len] at a;omega
    simp only [a,decide_true,Bool.not_true,cond_false,Bool.true_and];rw [f89_eq N _ (by omega) (by omega),z06 (by omega) (by omega)];cases g[k].all zuy <;> simp
   ·simp [a])
  (fun w=>by
   simp only [zdp];rw [z0u,cond_false];exact ⟨-1,rfl,by simp⟩) N (by omega)
 unfold f94 f112;rw [h3];simp only [Option.bind_some,h4,Bool.not_not]
def zvt (row part:List Int) (n:Nat) (c:Int):Int:=z1w n fun s=>if part.getD s 0=c then row.getD s 0 else 0
def z7c (g:List (List Int)) (part:List Int) (c:Int):Int:=g.foldl (fun b row=>max b (zvt row part part.length c)) 0
def zme (g:List (List Int)) (part:List Int):Int:=z1w (top 0 part).toNat fun c=>z7c g part (c:Int)
theorem ziu {n:Int} {row:List Int} (h:zc1 n row=true):len row=n∧∀ s,0≤row.getD s 0∧row.getD s 0≤1024:=by
 simp only [zc1,zA,decide_eq_true_eq] at h;refine ⟨h.1,fun s=>?_⟩;by_cases hs:s < row.length
 ·have:=List.all_eq_true.1 h.2 _ (List.getElem_mem hs);simp only [zuy,zA,decide_eq_true_eq] at this;rw [List.getD_eq_getElem?_getD,List.getElem?_eq_getElem hs];exact this
 ·rw [List.getD_eq_getElem?_getD,List.getElem?_eq_none (by omega)];simp
theorem zk3 {n:Int} {row:List Int} (h:zc1 n row=true) (part:List Int) (k:Nat) (c:Int):0≤zvt row part k c∧zvt row part k c≤k*1024:=by
 have hr:=(ziu h).2;constructor
 ·refine z4e fun i _=>?_
  have:=hr i;split <;> omega
 ·refine z4a fun i _=>?_
  have:=hr i;split <;> omega
theorem zpl (g:List (List Int)) (row:List Int) (part:List Int) (c:Int):z7c (g++[row]) part c=max (z7c g part c) (zvt row part part.length c):=by simp [z7c]
theorem zdv {n:Int} {part:List Int} (c:Int):{g:List (List Int)}->(∀ row∈g,zc1 n row=true)->0≤z7c g part c∧z7c g part c≤part.length*1024:=by
 intro g
 induction g using zd7 with
 | h0=>intro _;simp only [z7c,List.foldl_nil];omega
 | h1 g row ih=>
  intro h;have h1:=ih (fun r hr=>h r (by simp [hr]));have h2:=zk3 (h row (by simp)) part part.length c;rw [zpl];omega
end Go.Kz
