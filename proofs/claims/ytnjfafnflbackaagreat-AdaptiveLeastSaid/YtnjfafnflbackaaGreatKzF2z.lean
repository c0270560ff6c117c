/-
  The layer adaptive: menus and gains, plain laws.
-/
import Derived.Test.YtnjfafnflbackaaGreatKzF1z
set_option linter.unusedVariables false
set_option linter.unusedSimpArgs false
namespace Go.Kz
section
variable {R β:Type}
theorem z7m {F:(Int->Option R)->Int->Option R} {α:Type} (l:List α) (p:α->Bool) (A B:Option R)
  (step:∀ (k:Nat) (w:Int->Option R) (hk:k < l.length),F w (k:Int)=if p l[k] then w ((k:Int)+1) else B)
  (last:∀ (w:Int->Option R),F w (l.length:Int)=A) (N:Nat) (hN:l.length < N):iter F N 0=if l.all p then A else B:=by
 refine zb6 (fun k=>(l.take k).all p=true) l.length ?_ ?_ N hN (by simp)
 ·intro k w hk hi hw;rw [step k w hk]
  cases hp:p l[k] with
  | true=>
   simp only [if_true]
   exact hw (by rw [z27 hk,List.all_append,hi,List.all_cons,hp];rfl)
  | false=>
   simp only [Bool.false_eq_true,if_false];have:l.all p=false:=by
    rw [List.all_eq_false];exact ⟨l[k],List.getElem_mem hk,by simp [hp]⟩
   rw [this];rfl
 ·intro w hi;rw [List.take_length] at hi;rw [last w,hi];rfl
end
abbrev z1m:=Int×(List (List Int)×Unit)
abbrev z14:=Int×(List Int×Unit)
abbrev Ans:=Int×(Int×Unit)
def ze7 (n:Int) (v:List Int):Bool:=decide (len v=n) && okP v
def z4a (m:z1m):Bool:=decide (1≤m.1) && decide (m.1≤62) && decide (m.2.1.length≤8) && m.2.1.all (ze7 m.1)
def zb2 (m:z1m):Int:=if z4a m then 0 else 1
theorem zc5 {m:z1m}:z4a m=true↔1≤m.1∧m.1≤62∧m.2.1.length≤8∧∀ v∈m.2.1,len v=m.1∧okP v=true:=by
 simp [z4a,ze7,and_assoc]
theorem zut (N:Nat) (hN:400 < N) (m:z1m):f21 N m=some (zb2 m):=by
 unfold f21 zb2 z4a;by_cases h1:m.1 < 1
 ·have e:decide (1≤m.1)=false:=by simp;omega
  simp [h1,e]
 by_cases h2:62 < m.1
 ·have e:decide (m.1≤62)=false:=by simp;omega
  simp [h1,h2,e]
 by_cases h3:8 < len m.2.1
 ·have e:decide (m.2.1.length≤8)=false:=by simp [len] at h3 ⊢;omega
  simp [h1,h2,h3,e]
 have e1:decide (1≤m.1)=true:=by simp;omega
 have e2:decide (m.1≤62)=true:=by simp;omega
 have e3:decide (m.2.1.length≤8)=true:=by simp [len] at h3 ⊢;omega
 simp only [decide_eq_true_eq] at e3;simp only [h1,h2,h3,e1,e2,e3,decide_false,decide_true,cond_false,Option.bind_some,Bool.true_and];rw [z7m m.2.1 (ze7 m.1) (some 0) (some 1) ?_ ?_ N (by omega)]
 ·split <;> rfl
 ·intro k w hk;simp only [zls];rw [z1p hk,cond_true,z0s hk];simp only [Option.bind_some,ze7];by_cases hl:len m.2.1[k]=m.1
  ·have hl':m.2.1[k].length≤62:=by simp [len] at hl;omega
   simp only [hl,decide_true,Bool.not_true,cond_false,Bool.true_and];rw [f52_eq N _ (by omega) (by omega),z0c (by omega) (by omega)];cases okP m.2.1[k] <;> simp
  ·simp [hl]
 ·intro w;simp only [zls];rw [z1e];rfl
theorem f7_eq (N:Nat) (hN:400 < N) (m:z1m):f7 N m=some (z4a m):=by
 unfold f7 z4a;by_cases h1:m.1 < 1
 ·have e:decide (1≤m.1)=false:=by simp;omega
  simp [h1,e]
 by_cases h2:62 < m.1
 ·have e:decide (m.1≤62)=false:=by simp;omega
  simp [h1,h2,e]
 by_cases h3:8 < len m.2.1
 ·have e:decide (m.2.1.length≤8)=false:=by simp [len] at h3 ⊢;omega
  simp [h1,h2,h3,e]
 have e1:decide (1≤m.1)=true:=by simp;omega
 have e2:decide (m.1≤62)=true:=by simp;omega
 have e3:decide (m.2.1.length≤8)=true:=by simp [len] at h3 ⊢;omega
 simp only [decide_eq_true_eq] at e3;simp only [h1,h2,h3,e1,e2,e3,decide_false,decide_true,cond_false,Option.bind_some,Bool.true_and];rw [z7m m.2.1 (ze7 m.1) (some true) (some false) ?_ ?_ N (by omega)]
 ·cases m.2.1.all (ze7 m.1) <;> rfl
 ·intro k w hk;simp only [zuc];rw [z1p hk,cond_true,z0s hk];simp only [Option.bind_some,ze7];by_cases hl:len m.2.1[k]=m.1
  ·have hl':m.2.1[k].length≤62:=by simp [len] at hl;omega
   simp only [hl,decide_true,Bool.not_true,cond_false,Bool.true_and];rw [zq1 N _ (by omega) (by omega),z0c (by omega) (by omega)];cases okP m.2.1[k] <;> simp
  ·simp [hl]
 ·intro w;simp only [zuc];rw [z1e];rfl
def fewB (m:z1m) (g:List (List Int)) (a b:Int):Bool:=
 !decide (a < m.1) && !decide (b < len m.2.1) && !decide (12 < len g) && m.2.1.all (fun v=>!decide (z0g (a+2) < len v)) && g.all (fun v=>!decide (z0g (a+2) < len v))
theorem f5_eq (N:Nat) (hN:400 < N) (m:z1m) (g:List (List Int)) (a b:Int) (hb:b≤300):f5 N m g a b=some (fewB m g a b):=by
 unfold f5 fewB;by_cases h1:a < m.1
 ·simp [h1]
 by_cases h2:b < len m.2.1
 ·simp [h1,h2]
 by_cases h3:12 < len g
 ·simp [h1,h2,h3]
 have hv:m.2.1.length≤300:=by simp [len] at h2;omega
 have hg:g.length≤12:=by simp [len] at h3;omega
 simp only [h1,h2,h3,decide_false,cond_false,Option.bind_some,Bool.not_false,Bool.true_and];rw [z7m m.2.1 (fun v=>!decide (z0g (a+2) < len v)) (if g.all (fun v=>!decide (z0g (a+2) < len v)) then some true else some false) (some false) ?_ ?_ N (by omega)]
 ·cases m.2.1.all (fun v=>!decide (z0g (a+2) < len v)) <;> cases g.all (fun v=>!decide (z0g (a+2) < len v)) <;> rfl
 ·intro k w hk;simp only [zuf];rw [z1p hk,cond_true,z0s hk,z0c (n:=(k:Int)+1) (by omega) (by omega)];simp only [Option.bind_some];cases decide (z0g (a+2) < len m.2.1[k]) <;> simp
 ·intro w;simp only [zuf];rw [z1e,cond_false];rw [z7m g (fun v=>!decide (z0g (a+2) < len v)) (some true) (some false) ?_ ?_ N (by omega)]
  ·intro k w hk;simp only [zle];rw [z1p hk,cond_true,z0s hk,z0c (n:=(k:Int)+1) (by omega) (by omega)];simp only [Option.bind_some];cases decide (z0g (a+2) < len g[k]) <;> simp
  ·intro w;simp only [zle];rw [z1e];rfl
def z2z:Nat->(Nat->Int)->Int
 | 0,_=>0
 | n+1,f=>z2z n f+f n
theorem z4n {f g:Nat->Int}:{n:Nat}->(∀ i,i < n->f i=g i)->z2z n f=z2z n g
 | 0,_=>rfl
 | n+1,h=>by simp only [z2z,h n (by omega),z4n (n:=n) (fun i hi=>h i (by omega))]
theorem z8y {f g:Nat->Int}:{n:Nat}->(∀ i,i < n->f i≤g i)->z2z n f≤z2z n g
 | 0,_=>by simp [z2z]
 | n+1,h=>by
  have h1:=h n (by omega);have h2:=z8y (n:=n) (fun i hi=>h i (by omega));simp only [z2z];omega
theorem z6p:(n:Nat)->z2z n (fun _=>0)=0
 | 0=>rfl
 | n+1=>by simp only [z2z,z6p n];rfl
theorem zk3 {f:Nat->Int} {n:Nat} (h:∀ i,i < n->0≤f i):0≤z2z n f:=by
 have:=z8y (f:=fun _=>0) (g:=f) h;rw [z6p] at this;exact this
theorem zec (f g:Nat->Int):(n:Nat)->z2z n (fun i=>f i+g i)=z2z n f+z2z n g
 | 0=>rfl
 | n+1=>by simp only [z2z,zec f g n];omega
theorem zgg (f:Nat->Nat->Int) (m:Nat):(n:Nat)->z2z n (fun i=>z2z m (fun j=>f i j))=z2z m (fun j=>z2z n (fun i=>f i j))
 | 0=>(z6p m).symm
 | n+1=>by
  simp only [z2z];rw [zgg f m n,←zec]
theorem zea {n d:Nat} (x:Int) (h:d < n):z2z n (fun i=>if i=d then x else 0)=x:=by
 induction n with
 | zero=>omega
 | succ n ih=>
  simp only [z2z];by_cases he:d=n
  ·subst he;have:z2z d (fun i=>if i=d then x else 0)=0:=(z4n (fun i hi=>if_neg (by omega))).trans (z6p d);rw [this];simp
  ·rw [ih (by omega),if_neg (by omega)];omega
theorem zeb {f:Nat->Int} {b:Int}:{n:Nat}->(∀ i,i < n->f i≤b)->z2z n f≤n*b
 | 0,_=>by simp [z2z]
 | n+1,h=>by
  have h1:=h n (by omega);have h2:=zeb (n:=n) (fun i hi=>h i (by omega));simp only [z2z];push_cast;rw [Int.add_mul,Int.one_mul];omega
def zmx (K:Nat) (S:Nat->Int):List Int:=(List.range K).map S
theorem z7a (K:Nat) (S:Nat->Int):(zmx K S).length=K:=by simp [zmx]
theorem z8x {K:Nat} {S:Nat->Int} {c:Nat} (h:c < (zmx K S).length):(zmx K S)[c]=S c:=by simp [zmx]
theorem zw7 (K:Nat) (S:Nat->Int) (c:Nat) (x:Int):(zmx K S).set c x=zmx K (fun d=>if d=c then x else S d):=by
 apply List.ext_getElem
 ·simp [zmx]
 ·intro i h1 h2;have h3:i < K:=by rw [List.length_set,z7a] at h1;exact h1
  rw [List.getElem_set,z8x,z8x (by rw [z7a];exact h3)];by_cases h:c=i
  ·subst h;simp
  ·have:¬ i=c:=fun e=>h e.symm
   simp [h,this]
theorem zw8 (K:Nat):List.replicate K (0:Int)=zmx K (fun _=>0):=by
 apply List.ext_getElem
 ·simp [zmx]
 ·intro i h1 h2;simp [zmx]
theorem zqz {K:Nat} {S T:Nat->Int} (h:∀ c,c < K->S c=T c):zmx K S=zmx K T:=by
 apply List.map_congr_left;intro c hc;exact h c (List.mem_range.1 hc)
def numOK (x:Int):Bool:=decide (0≤x) && decide (x≤1024)
def rowOK (n:Int) (row:List Int):Bool:=decide (len row=n) && row.all numOK
end Go.Kz
