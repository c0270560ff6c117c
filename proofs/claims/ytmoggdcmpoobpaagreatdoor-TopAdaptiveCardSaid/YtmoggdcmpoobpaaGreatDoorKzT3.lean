/-
  The layer adaptive: lists and their classes, plain laws.
-/
import Derived.Test.YtmoggdcmpoobpaaGreatDoorKzPTz
import Derived.Test.YtmoggdcmpoobpaaGreatDoorKzAM
import Derived.Test.YtmoggdcmpoobpaaGreatDoorKzAR
set_option linter.unusedVariables false
set_option linter.unusedSimpArgs false
namespace Go.Kz
def wX:Int->List Int->Bool
 | _,[]=>true
 | n,c :: l=>decide (0<=c) && decide (c<=n) && wX (max n (c+1)) l
def Pb (p:List Int):Bool:=wX 0 p
theorem Np (N:Nat) (p:List Int) (hN:p.length < N) (hl:p.length < 4294967296):f94 N p=some (Pb p):=by
 unfold f94;refine uh (fun x:Int×Int=>∃ k:Nat,x.1=k/\k<=p.length/\0<=x.2/\x.2<=k/\Pb p=wX x.2 (p.drop k)) (fun x=>p.length-x.1.toNat) ?_ N (0,0) ⟨0,rfl,by omega,by simp,by simp,by simp [Pb]⟩ (by simpa using hN);rintro ⟨i,n⟩ w ⟨k,hi,hk,hn0,hnk,heq⟩ hw;simp only at hi hn0 hnk heq;subst hi;simp only [Nu];by_cases qx:k < p.length
 ·have e2:decide ((k:Int) < len p)=true:=by simp [len,qx]
  rw [e2,zB,zg qx];simp only [zP];rw [Z2q qx] at heq;simp only [wX] at heq;by_cases h0:p[k] < 0
  ·have:¬ (0<=p[k]):=by omega
   simp [h0,heq,this]
  ·by_cases h1:n < p[k]
   ·have h2:¬ (p[k]<=n):=by omega
    simp [h0,h1,heq,h2]
   ·have e3:decide (0<=p[k])=true:=by simp;omega
    have e4:decide (p[k]<=n)=true:=by simp;omega
    rw [e3,e4] at heq;simp only [h0,h1,Z2l,zU,zP];rw [zw (by omega) (by omega),zw (by omega) (by omega)];have hm:gR n (p[k]+1)=max n (p[k]+1):=by simp only [gR];split <;> omega
    rw [hm];exact hw _ ⟨k+1,by simp,by omega,by simp only;omega,by simp only;omega,by simpa using heq⟩ (by simp;omega)
 ·have e2:decide ((k:Int) < len p)=false:=by simp [len];omega
  rw [e2,zU,heq,MZ (by omega)];rfl
def jD {I:Type} [DecidableEq I]:List I->List I->List I
 | acc,[]=>acc
 | acc,x :: l=>if x∈acc then jD acc l else jD (acc++[x]) l
def posOf {I:Type} [DecidableEq I] (x:I):List I->Nat
 | []=>0
 | y :: l=>if y=x then 0 else posOf x l+1
def QJ {I:Type} [DecidableEq I]:List I->List I->List Int
 | _,[]=>[]
 | acc,x :: l=>if x∈acc then (posOf x acc:Int) :: QJ acc l else (acc.length:Int) :: QJ (acc++[x]) l
def PJ {I:Type} [DecidableEq I] (l:List I):List Int:=QJ [] l
theorem YY {I:Type} [DecidableEq I] {x:I}:{l:List I}->x∈l->posOf x l < l.length
 | y :: l,h=>by
  simp only [posOf];split
  ·simp
  ·rename_i je;have:x∈l:=by
    rcases pK.1 h with rfl | h
    ·exact absurd rfl je
    ·exact h
   have:=YY this;simp only [Vy];omega
theorem kW {I:Type} [DecidableEq I] {x:I}:{l m:List I}->x∈l->posOf x (l++m)=posOf x l
 | y :: l,m,h=>by
  simp only [xA,posOf];split
  ·rfl
  ·rename_i je;have:x∈l:=by
    rcases pK.1 h with rfl | h
    ·exact absurd rfl je
    ·exact h
   rw [kW this]
theorem JF {I:Type} [DecidableEq I] {x:I}:{l:List I}->x∉l->posOf x (l++[x])=l.length
 | [],_=>by simp [posOf]
 | y :: l,h=>by
  have h1:y≠x:=by intro he;subst he;simp at h
  have h2:x∉l:=by intro hm;exact h (by simp [hm])
  simp only [xA,posOf,qZ h1,JF h2,Vy]
def mapOf:List Int->Int->List (Int×Int)
 | [],_=>[]
 | x :: l,n=>(x,n) :: mapOf l (n+1)
theorem Dv (l:List Int) (n:Int):(mapOf l n).length=l.length:=by
 induction l generalizing n with
 | nil=>rfl
 | cons x l ih=>simp [mapOf,ih]
theorem A1 (x:Int):(l:List Int)->(n:Int)->wJ (ju (.int .i64)) (mapOf l n) x=if x∈l then some (n+posOf x l) else none
 | [],n=>rfl
 | y :: l,n=>by
  simp only [mapOf,wJ,ju,posOf];by_cases h:x=y
  ·subst h;simp
  ·have h2:¬ y=x:=fun e=>h e.symm
   simp only [h,Z2l,zU,pK,false_or,A1 x l (n+1),qZ h2];split
   ·congr 1;push_cast;omega
   ·rfl
theorem A0 (x:Int):(l:List Int)->(n:Int)->x∉l->gp (ju (.int .i64)) (mapOf l n) x (n+l.length)=mapOf (l++[x]) n
 | [],n,_=>by simp [mapOf,gp]
 | y :: l,n,h=>by
  have h1:¬ x=y:=by intro he;subst he;simp at h
  have h2:x∉l:=by intro hm;exact h (by simp [hm])
  have:=A0 x l (n+1) h2;simp only [mapOf,gp,ju,h1,Z2l,zU,xA,Vy];rw [<-this];congr 2;push_cast;omega
theorem zlt (N:Nat) (l:List Int) (hN:l.length < N) (hl:l.length < 4294967296):f80 N l=some (PJ l):=by
 unfold f80;rw [zf (by rw [show ((room:Nat):Int)=4294967296 from rfl];simp [len];omega)];refine uh (fun x:Int×List Int×List (Int×Int)=>∃ (k:Nat) (acc:List Int),x.1=k/\k<=l.length/\x.2.2=mapOf acc 0/\acc.length<=k/\x.2.1.length=k/\PJ l=x.2.1++QJ acc (l.drop k)) (fun x=>l.length-x.1.toNat) ?_ N _
  ⟨0,[],rfl,by omega,rfl,by simp,by simp,by simp [PJ]⟩ (by simpa using hN)
 rintro ⟨i,out,m⟩ w ⟨k,acc,hi,hk,hm,hacc,xk,heq⟩ hw;simp only at hi hm xk heq;subst hi;subst hm;simp only [Nx];by_cases qx:k < l.length
 ·have e2:decide ((k:Int) < len l)=true:=by simp [len,qx]
  rw [e2,zB,zg qx];simp only [zP];rw [Z2q qx] at heq;simp only [QJ] at heq;rw [A1];by_cases hmem:l[k]∈acc
  ·rw [yQ hmem] at heq;simp only [yQ hmem,Z4q,xU,zU];rw [zf (by simp [room];omega),zw (by omega) (by omega)];refine hw _ ⟨k+1,acc,by simp,by omega,rfl,by omega,by simp [xk],?_⟩ (by simp;omega);simp only [Z2h,Int.zero_add,Gj,List.singleton_append];exact heq
  ·rw [qZ hmem] at heq;simp only [qZ hmem,Z5b,Z2t,zB];rw [zf (by simp [room,Dv];omega),zf (by simp [room];omega),zw (by omega) (by omega)];have hp:=A0 l[k] acc 0 hmem;rw [Int.zero_add] at hp;have hlen:len (mapOf acc 0)=(acc.length:Int):=by simp [len,Dv]
   rw [hlen,hp];refine hw _ ⟨k+1,acc++[l[k]],by simp,by omega,rfl,by simp;omega,by simp [xk],?_⟩ (by simp;omega);simp only [Gj,List.singleton_append];exact heq
 ·have e2:decide ((k:Int) < len l)=false:=by simp [len];omega
  rw [e2,zU,heq,MZ (by omega)];simp [QJ]
theorem PF {I:Type} [DecidableEq I]:(acc l:List I)->(QJ acc l).length=l.length
 | _,[]=>rfl
 | acc,x :: l=>by simp only [QJ];split <;> simp [PF _ l]
theorem pN {I:Type} [DecidableEq I] {x:I}:{acc l:List I}->(x∈jD acc l↔x∈acc\/x∈l)
 | acc,[]=>by simp [jD]
 | acc,y :: l=>by
  simp only [jD];split
  ·rename_i h;rw [pN];simp only [pK];constructor
   ·rintro (h1 | h1)
    ·exact .inl h1
    ·exact .inr (.inr h1)
   ·rintro (h1 | rfl | h1)
    ·exact .inl h1
    ·exact .inl h
    ·exact .inr h1
  ·rw [pN];simp [or_assoc]
theorem K2 {I:Type} [DecidableEq I]:(acc l:List I)->∃ ys,jD acc l=acc++ys
 | acc,[]=>⟨[],by simp [jD]⟩
 | acc,x :: l=>by
  simp only [jD];split
  ·exact K2 acc l
  ·obtain ⟨ys,h⟩:=K2 (acc++[x]) l;exact ⟨x :: ys,by rw [h];simp⟩
theorem BJ {I:Type} [DecidableEq I]:(acc l:List I)->(j:Nat)->(h:j < l.length)->(QJ acc l)[j]? = some ((posOf l[j] (jD acc l):Nat):Int)
 | acc,x :: l,0,_=>by
  simp only [QJ,jD,Z5c];split
  ·rename_i hm;obtain ⟨ys,hy⟩:=K2 acc l;rw [hy,kW hm];rfl
  ·rename_i hm;obtain ⟨ys,hy⟩:=K2 (acc++[x]) l
   rw [hy,kW (by simp),JF hm];rfl
 | acc,x :: l,j+1,h=>by
  have h':j < l.length:=by simpa using h
  simp only [QJ,jD,Z3i];split
  ·simpa using BJ acc l j h'
  ·simpa using BJ (acc++[x]) l j h'
theorem Vd {I:Type} [DecidableEq I]:(acc l:List I)->wX (acc.length:Int) (QJ acc l)=true
 | _,[]=>rfl
 | acc,x :: l=>by
  simp only [QJ];split
  ·rename_i hm;have:=YY hm;have hmx:max (acc.length:Int) ((posOf x acc:Int)+1)=acc.length:=by omega
   simp only [wX,hmx,Vd acc l,Z2f,zA,yR];omega
  ·have hmx:max (acc.length:Int) ((acc.length:Int)+1)=((acc++[x]).length:Int):=by simp;omega
   simp only [wX,hmx,Vd (acc++[x]) l,Z2f,zA,yR];omega
theorem EB {I:Type} [DecidableEq I] (l:List I):Pb (PJ l)=true:=Vd [] l
def Vk (n:Nat):List Int:=(List.range n).map fun (i:Nat)=>(i:Int)
theorem JP {n:Nat} {x:Int}:x∈Vk n↔0<=x/\x < n:=by
 simp only [Vk,Gq,Z21];constructor
 ·rintro ⟨i,hi,rfl⟩;omega
 ·rintro ⟨h0,h1⟩;exact ⟨x.toNat,by omega,by omega⟩
theorem Xj (n:Nat):Vk (n+1)=Vk n++[(n:Int)]:=by simp [Vk,Tf]
theorem Hm {n:Nat} {x:Int} (h0:0<=x) (h1:x < n):(posOf x (Vk n):Int)=x:=by
 induction n with
 | zero=>omega
 | succ n ih=>
  rw [Xj];by_cases hx:x=n
  ·subst hx;rw [JF (by rw [JP];omega)];simp [Vk]
  ·rw [kW (by rw [JP];omega),ih (by omega)]
theorem P8:(p:List Int)->(n:Nat)->(QJ (Vk n) p=p↔wX (n:Int) p=true)
 | [],n=>by simp [QJ,wX]
 | x :: p,n=>by
  simp only [QJ,wX];by_cases hx:0<=x/\x < n
  ·rw [yQ (JP.2 hx),Hm hx.1 hx.2];have hm:max (n:Int) (x+1)=n:=by omega
   have e1:decide (0<=x)=true:=by simp [hx.1]
   have e2:decide (x<=(n:Int))=true:=by simp;omega
   rw [hm,e1,e2];simp [P8 p n]
  ·rw [qZ (fun h=>hx (JP.1 h))];have hl:((Vk n).length:Int)=n:=by simp [Vk]
   rw [hl];by_cases he:x=n
   ·subst he;have hm:max (n:Int) ((n:Int)+1)=((n+1:Nat):Int):=by omega
    rw [<-Xj,hm];simp [P8 p (n+1)]
   ·have e:(decide (0<=x) && decide (x<=(n:Int)))=false:=by simp;omega
    rw [e];simp only [Bool.false_and,Mu,iff_false];intro h;simp at h;exact he h.1.symm
theorem Ml (p:List Int):PJ p=p↔Pb p=true:=P8 p 0
def top:Int->List Int->Int
 | n,[]=>n
 | n,c :: l=>top (max n (c+1)) l
theorem Xk:(n:Int)->(a b:List Int)->top n (a++b)=top (top n a) b
 | _,[],_=>rfl
 | n,x :: a,b=>by simp only [xA,top,Xk _ a b]
theorem Z0:(n:Int)->(a b:List Int)->wX n (a++b)=(wX n a && wX (top n a) b)
 | _,[],_=>by simp [wX,top]
 | n,x :: a,b=>by simp only [xA,wX,top,Z0 _ a b,Bool.and_assoc]
theorem WR (q:List Int) (x:Int):top 0 (q++[x])=max (top 0 q) (x+1):=by rw [Xk];rfl
theorem OW {q:List Int} {x:Int}:Pb (q++[x])=true↔Pb q=true/\0<=x/\x<=top 0 q:=by
 simp [Pb,Z0,wX]
theorem kY {q:List Int}:Pb q=true->0<=top 0 q/\top 0 q<=q.length/\∀ c∈q,0<=c/\c < top 0 q:=by
 induction q using Uz with
 | h0=>intro _;simp [top]
 | h1 q x ih=>
  intro h;obtain ⟨h1,h2,h3⟩:=OW.1 h;obtain ⟨i1,i2,i3⟩:=ih h1;rw [WR];refine ⟨by omega,by simp;omega,?_⟩;intro c hc;rcases U5.1 hc with hc | hc
  ·have:=i3 c hc;omega
  ·simp only [Mp] at hc;subst hc;omega
theorem EA {p:List Int} (h:Pb p=true) (k:Nat):Pb (p.take k)=true:=by
 have:=h;rw [<-Mx k p] at this;simp only [Pb,Z0,zA] at this;exact this.1
theorem z2o {p:List Int} (h:Pb p=true) {k:Nat} (hk:k < p.length):0<=p[k]/\p[k]<=top 0 (p.take k):=by
 have:=EA h (k+1);rw [take_succ hk] at this;exact (OW.1 this).2
def cnt (c:Int) (p:List Int):Int:=((p.count c:Nat):Int)
theorem Bx (c:Int) (q:List Int) (x:Int):cnt c (q++[x])=cnt c q+(if x=c then 1 else 0):=by
 simp only [cnt,List.count_append,List.count_singleton];split <;> simp_all
theorem NX (c:Int) (q:List Int):0<=cnt c q:=by simp [cnt]
theorem zme (c:Int) (q:List Int):cnt c q<=q.length:=by
 have:=List.count_le_length (a:=c) (l:=q);simp only [cnt];omega
theorem z6y {c:Int} {q:List Int} (h:c∉q):cnt c q=0:=by simp [cnt,List.count_eq_zero_of_not_mem h]
def Bo (p:List Int):List Int:=(List.range (top 0 p).toNat).map fun (i:Nat)=>cnt (i:Int) p
theorem O6 {p:List Int}:(Bo p).length=(top 0 p).toNat:=by simp [Bo]
theorem Ey {p:List Int} {k:Nat} (h:k < (Bo p).length):(Bo p)[k]=cnt (k:Int) p:=by simp [Bo]
theorem zb4 {q:List Int} {x:Int} (h:Pb q=true) (hx:x=top 0 q):Bo (q++[x])=Bo q++[1]:=by
 obtain ⟨b1,b2,b3⟩:=kY h;have ht:(top 0 (q++[x])).toNat=(top 0 q).toNat+1:=by rw [WR];omega
 simp only [Bo,ht,Tf,Z2e,WY,Z28];congr 1
 ·apply Z4e;intro i hi;simp only [Z21] at hi;rw [Bx,qZ (by omega)];simp
 ·have:((top 0 q).toNat:Int)=x:=by omega
  rw [this,Bx,yQ rfl,z6y (fun hm=>by have:=b3 x hm;omega)];rfl
theorem zb3 {q:List Int} {k:Nat} (hx:(k:Int) < top 0 q):Bo (q++[(k:Int)])=(Bo q).set k (cnt k q+1):=by
 have ht:top 0 (q++[(k:Int)])=top 0 q:=by rw [WR];omega
 apply Z3a
 ·simp [Bo,ht]
 ·intro i h1 h2;rw [Ey,Z4u];rw [Bx];by_cases he:k=i
  ·subst he;simp
  ·rw [qZ (by omega),qZ he,Ey];simp
theorem zeq (N:Nat) (p:List Int) (hN:p.length < N) (hl:p.length < 4294967296):f101 N p=some (if Pb p then Bo p else []):=by
 unfold f101;rw [Np N p hN hl];simp only [zP]
 cases zS:Pb p with
 | false=>rfl
 | true=>
  simp only [xU,zU,WQ];refine k8 (fun k s=>s=Bo (p.take k)) p.length ?_ ?_ N hN [] ?_
  ·intro k s w hk hs hw;subst hs;simp only [Ur];have hq:=EA zS k;obtain ⟨b1,b2,b3⟩:=kY hq;obtain ⟨a1,a2⟩:=z2o zS hk;have Mj:(Bo (p.take k)).length=(top 0 (p.take k)).toNat:=O6;simp only [P9] at b2;rw [zK hk,zB,zg hk];simp only [zP];by_cases he:p[k]=top 0 (p.take k)
   ·have e1:decide (p[k]=len (Bo (p.take k)))=true:=by simp only [len,Mj,yR];omega
    have hc:p[k]=(((Bo (p.take k)).length:Nat):Int):=by omega
    have ZC:=zb4 hq he;rw [e1,zB,LV (by simp;omega),hc,zf (pQ (by simp)),zg (by simp)];simp only [zP,Z51 (yN _),Z3b,Z5c];rw [zw (by omega) (by omega),Y2];have:(Bo (p.take k)++[0]).set (Bo (p.take k)).length (zz (0+1))=Bo (p.take (k+1)):=by
     rw [zw (by omega) (by omega),take_succ hk,ZC];simp
    rw [this,zf (pQ (by simp))];exact hw _ rfl
   ·have e1:decide (p[k]=len (Bo (p.take k)))=false:=by simp only [len,Mj,u7];omega
    obtain ⟨j,hj⟩:=Z4n a1;have hjl:j < (Bo (p.take k)).length:=by omega
    rw [e1,zU,hj,zf (pQ hjl),zg hjl];simp only [zP];have hc:=NX (j:Int) (p.take k);have GQ:=zme (j:Int) (p.take k);simp only [P9] at GQ;rw [zf (pQ hjl),zw (by omega) (by omega),Ey,zw (by omega) (by omega),Y2];apply hw;rw [take_succ hk,hj,zb3 (by omega)]
  ·intro s w hs;subst hs;simp only [Ur];rw [zV,zU,Qi]
  ·rfl
theorem z62 (N:Nat) (p:List Int) (hN:p.length < N) (hl:p.length < 4294967296):f31 N p=some (if Pb p then top 0 p else 0):=by
 unfold f31;rw [zeq N p hN hl];simp only [zP]
 cases h:Pb p with
 | false=>rfl
 | true=>
  simp only [WQ,len,O6];have:=(kY h).1;congr 1;omega
section
variable {I Z:Type} [DecidableEq I] [DecidableEq Z]
theorem gN (l:List I):(PJ l).length=l.length:=PF [] l
theorem uc {x:I}:{l:List I}->x∈l->l[posOf x l]? = some x
 | y :: l,h=>by
  simp only [posOf];split
  ·rename_i he;simp [he]
  ·rename_i je;have:x∈l:=by
    rcases pK.1 h with rfl | h
    ·exact absurd rfl je
    ·exact h
   simpa using uc this
theorem T5 {x y:I} {l:List I} (hx:x∈l) (hy:y∈l) (h:posOf x l=posOf y l):x=y:=by
 have h1:=uc hx;have h2:=uc hy;rw [h,h2] at h1;simpa using h1.symm
theorem Uy {l:List I} {j:Nat} (h:j < l.length):(PJ l)[j]? = some ((posOf l[j] (jD [] l):Nat):Int):=BJ [] l j h
theorem z2q {l:List I} {i j:Nat} (hi:i < l.length) (hj:j < l.length):(PJ l)[i]'(by rw [gN];exact hi)=(PJ l)[j]'(by rw [gN];exact hj)↔l[i]=l[j]:=by
 have h1:=Uy hi;have h2:=Uy hj;rw [wP (by rw [gN];exact hi)] at h1;rw [wP (by rw [gN];exact hj)] at h2;simp only [zI] at h1 h2;rw [h1,h2];constructor
 ·intro h;exact T5 (l:=jD [] l) (by rw [pN];right;exact ku hi) (by rw [pN];right;exact ku hj) (by omega)
 ·intro h;rw [h]
theorem D2 {f:I->Z} {x:I}:{l:List I}->(∀ y∈l,f y=f x->y=x)->posOf (f x) (l.map f)=posOf x l
 | [],_=>rfl
 | y :: l,h=>by
  have ih:=D2 (f:=f) (x:=x) (l:=l) (fun z hz=>h z (by simp [hz]));simp only [WY,posOf];by_cases he:y=x
  ·simp [he]
  ·have:¬ f y=f x:=fun hf=>he (h y (by simp) hf)
   simp [he,this,ih]
theorem BY {f:I->Z}:(acc l:List I)->(∀ x∈acc++l,∀ y∈acc++l,f x=f y->x=y)->QJ (acc.map f) (l.map f)=QJ acc l
 | _,[],_=>rfl
 | acc,x :: l,h=>by
  simp only [WY,QJ];by_cases hm:x∈acc
  ·have h1:f x∈acc.map f:=Gq.2 ⟨x,hm,rfl⟩;rw [yQ hm,yQ h1,D2 (fun y hy he=>h y (by simp [hy]) x (by simp) he),BY acc l (fun a ha b hb=>h a (by simp at ha ⊢;rcases ha with ha | ha <;> simp [ha]) b (by simp at hb ⊢;rcases hb with hb | hb <;> simp [hb]))]
  ·have h1:f x∉acc.map f:=by
    intro hh;obtain ⟨y,hy,he⟩:=Gq.1 hh;exact hm (by rw [<-h y (by simp [hy]) x (by simp) he];exact hy)
   rw [qZ hm,qZ h1,Gy];have:=BY (f:=f) (acc++[x]) l (fun a ha b hb=>h a (by simpa using ha) b (by simpa using hb));simp only [Z2e,WY,Z28] at this;rw [this]
theorem zbu {f:I->Z} {l:List I} (h:∀ x∈l,∀ y∈l,f x=f y->x=y):PJ (l.map f)=PJ l:=BY [] l (by simpa using h)
end
end Go.Kz
namespace Go.Kz
section
variable {R Z:Type}
theorem IY {F:(Int->Option R)->Int->Option R} {I:Type} (l:List I) (p:I->Bool) (A B:Option R)
  (step:∀ (k:Nat) (w:Int->Option R) (hk:k < l.length),F w (k:Int)=if p l[k] then w ((k:Int)+1) else B)
  (last:∀ (w:Int->Option R),F w (l.length:Int)=A) (N:Nat) (hN:l.length < N):iter F N 0=if l.all p then A else B:=by
 refine TV (fun k=>(l.take k).all p=true) l.length ?_ ?_ N hN (by simp)
 ·intro k w hk hi hw;rw [step k w hk]
  cases hp:p l[k] with
  | true=>
   simp only [WQ]
   exact hw (by rw [take_succ hk,Z3g,hi,Z4r,hp];rfl)
  | false=>
   simp only [Mu,Dh];have:l.all p=false:=by
    rw [Z41];exact ⟨l[k],ku hk,by simp [hp]⟩
   rw [this];rfl
 ·intro w hi;rw [Qi] at hi;rw [last w,hi];rfl
end
abbrev gC:=Int×(List (List Int)×Unit)
abbrev Choice:=Int×(List Int×Unit)
abbrev Ans:=Int×(Int×Unit)
def E6 (n:Int) (v:List Int):Bool:=decide (len v=n) && Pb v
def pZ (m:gC):Bool:=decide (1<=m.1) && decide (m.1<=62) && decide (m.2.1.length<=8) && m.2.1.all (E6 m.1)
def YC (m:gC):Int:=if pZ m then 0 else 1
theorem Q9 {m:gC}:pZ m=true↔1<=m.1/\m.1<=62/\m.2.1.length<=8/\∀ v∈m.2.1,len v=m.1/\Pb v=true:=by
 simp [pZ,E6,and_assoc]
theorem FC (N:Nat) (hN:400 < N) (m:gC):f100 N m=some (YC m):=by
 unfold f100 YC pZ;by_cases h1:m.1 < 1
 ·have e:decide (1<=m.1)=false:=by simp;omega
  simp [h1,e]
 by_cases h2:62 < m.1
 ·have e:decide (m.1<=62)=false:=by simp;omega
  simp [h1,h2,e]
 by_cases h3:8 < len m.2.1
 ·have e:decide (m.2.1.length<=8)=false:=by simp [len] at h3 ⊢;omega
  simp [h1,h2,h3,e]
 have e1:decide (1<=m.1)=true:=by simp;omega
 have e2:decide (m.1<=62)=true:=by simp;omega
 have e3:decide (m.2.1.length<=8)=true:=by simp [len] at h3 ⊢;omega
 simp only [yR] at e3;simp only [h1,h2,h3,e1,e2,e3,Z2l,Vz,zU,zP,LM];rw [IY m.2.1 (E6 m.1) (some 0) (some 1) ?_ ?_ N (by omega)]
 ·split <;> rfl
 ·intro k w hk;simp only [Us];rw [zK hk,zB,zg hk];simp only [zP,E6];by_cases hl:len m.2.1[k]=m.1
  ·have Nz:m.2.1[k].length<=62:=by simp [len] at hl;omega
   simp only [hl,Vz,xU,zU,LM];rw [Np N _ (by omega) (by omega),zw (by omega) (by omega)];cases Pb m.2.1[k] <;> simp
  ·simp [hl]
 ·intro w;simp only [Us];rw [zV];rfl
def qh:Nat->(Nat->Int)->Int
 | 0,_=>0
 | n+1,f=>qh n f+f n
theorem jP {f g:Nat->Int}:{n:Nat}->(∀ i,i < n->f i=g i)->qh n f=qh n g
 | 0,_=>rfl
 | n+1,h=>by simp only [qh,h n (by omega),jP (n:=n) (fun i hi=>h i (by omega))]
theorem VO {f g:Nat->Int}:{n:Nat}->(∀ i,i < n->f i<=g i)->qh n f<=qh n g
 | 0,_=>by simp [qh]
 | n+1,h=>by
  have h1:=h n (by omega);have h2:=VO (n:=n) (fun i hi=>h i (by omega));simp only [qh];omega
theorem pv:(n:Nat)->qh n (fun _=>0)=0
 | 0=>rfl
 | n+1=>by simp only [qh,pv n];rfl
theorem uX {f:Nat->Int} {n:Nat} (h:∀ i,i < n->0<=f i):0<=qh n f:=by
 have:=VO (f:=fun _=>0) (g:=f) h;rw [pv] at this;exact this
theorem CN (f g:Nat->Int):(n:Nat)->qh n (fun i=>f i+g i)=qh n f+qh n g
 | 0=>rfl
 | n+1=>by simp only [qh,CN f g n];omega
theorem Xx (f:Nat->Nat->Int) (m:Nat):(n:Nat)->qh n (fun i=>qh m (fun j=>f i j))=qh m (fun j=>qh n (fun i=>f i j))
 | 0=>(pv m).symm
 | n+1=>by
  simp only [qh];rw [Xx f m n,<-CN]
theorem Sd {n d:Nat} (x:Int) (h:d < n):qh n (fun i=>if i=d then x else 0)=x:=by
 induction n with
 | zero=>omega
 | succ n ih=>
  simp only [qh];by_cases he:d=n
  ·subst he;have:qh d (fun i=>if i=d then x else 0)=0:=(jP (fun i hi=>qZ (by omega))).trans (pv d);rw [this];simp
  ·rw [ih (by omega),qZ (by omega)];omega
theorem pH {f:Nat->Int} {b:Int}:{n:Nat}->(∀ i,i < n->f i<=b)->qh n f<=n*b
 | 0,_=>by simp [qh]
 | n+1,h=>by
  have h1:=h n (by omega);have h2:=pH (n:=n) (fun i hi=>h i (by omega));simp only [qh];push_cast;rw [Z43,Int.one_mul];omega
def jF (K:Nat) (S:Nat->Int):List Int:=(List.range K).map S
theorem jz (K:Nat) (S:Nat->Int):(jF K S).length=K:=by simp [jF]
theorem kS {K:Nat} {S:Nat->Int} {c:Nat} (h:c < (jF K S).length):(jF K S)[c]=S c:=by simp [jF]
theorem WT (K:Nat) (S:Nat->Int) (c:Nat) (x:Int):(jF K S).set c x=jF K (fun d=>if d=c then x else S d):=by
 apply Z3a
 ·simp [jF]
 ·intro i h1 h2;have h3:i < K:=by rw [List.length_set,jz] at h1;exact h1
  rw [Z4u,kS,kS (by rw [jz];exact h3)];by_cases h:c=i
  ·subst h;simp
  ·have:¬ i=c:=fun e=>h e.symm
   simp [h,this]
theorem Wa (K:Nat):List.replicate K (0:Int)=jF K (fun _=>0):=by
 apply Z3a
 ·simp [jF]
 ·intro i h1 h2;simp [jF]
theorem vV {K:Nat} {S T:Nat->Int} (h:∀ c,c < K->S c=T c):jF K S=jF K T:=by
 apply Z4e;intro c hc;exact h c (Z21.1 hc)
def Dq (x:Int):Bool:=decide (0<=x) && decide (x<=1024)
def ZZ (n:Int) (row:List Int):Bool:=decide (len row=n) && row.all Dq
def Z8 (g:List (List Int)) (n:Int):Bool:=decide (1<=len g) && decide (len g<=64) && g.all (ZZ n)
theorem EN {R:Type} {F:(Int->Option R)->Int->Option R} {I:Type} (l:List I) (p:I->Bool) (Q:Bool->R->Prop)
  (step:∀ (k:Nat) (w:Int->Option R) (hk:k < l.length),if p l[k] then F w (k:Int)=w ((k:Int)+1) else ∃ r,F w (k:Int)=some r/\Q false r)
  (last:∀ (w:Int->Option R),∃ r,F w (l.length:Int)=some r/\Q true r) (N:Nat) (hN:l.length < N):∃ r,iter F N 0=some r/\Q (l.all p) r:=by
 have key:∀ (M k:Nat),k<=l.length->l.length-k < M->(l.take k).all p=true->∃ r,iter F M (k:Int)=some r/\Q (l.all p) r:=by
  intro M
  induction M with
  | zero=>intro k _ h;omega
  | succ M ih=>
   intro k hk hM hall;simp only [iter];by_cases qx:k < l.length
   ·have hs:=step k (iter F M) qx
    cases hp:p l[k] with
    | true=>
     rw [hp] at hs;simp only [WQ] at hs;rw [hs]
     exact ih (k+1) (by omega) (by omega) (by rw [take_succ qx,Z3g,hall,Z4r,hp];rfl)
    | false=>
     rw [hp] at hs;simp only [Mu,Dh] at hs;have:l.all p=false:=by
      rw [Z41];exact ⟨l[k],ku qx,by simp [hp]⟩
     rw [this];exact hs
   ·have VG:k=l.length:=by omega
    subst VG;rw [Qi] at hall;rw [hall];exact last _
 exact key N 0 (by omega) (by omega) (by simp)
theorem zm7 (N:Nat) (row:List Int) (hN:row.length < N) (hl:row.length < 4294967296):f32 N row ()=some (!(row.all Dq)):=by
 obtain ⟨r,h1,h2⟩:=EN (F:=fun w=>Ko N row () (len row) w (fun t4=>some t4) (fun (_:Unit)=>some (-1))) row Dq (fun b r=>decide (0<=r) = !b)
  (fun k w hk=>by
   simp only [Ko];rw [zK hk,zB,zg hk];simp only [zP,f324,Dq];by_cases a:row[k] < 0
   ·have:¬ 0<=row[k]:=by omega
    simp [a,this]
   ·have a':0<=row[k]:=by omega
    by_cases b:1024 < row[k]
    ·have:¬ row[k]<=1024:=by omega
     simp [a,a',b,this]
    ·have b':row[k]<=1024:=by omega
     rw [zw (by omega) (by omega)];simp [a,a',b,b'])
  (fun w=>by
   simp only [Ko];rw [zV,zU];exact ⟨-1,rfl,by simp⟩) N hN
 unfold f32 f102;rw [h1];simp only [zP,h2]
theorem zdu (N:Nat) (hN:400 < N) {m:gC} (hm:pZ m=true) (g:List (List Int)):f270 N m g=some (Z8 g m.1):=by
 obtain ⟨m1,m2,m3,m4⟩:=Q9.1 hm;unfold f270 Z8;by_cases h1:len g < 1
 ·have e:¬ 1<=len g:=by omega
  simp [h1,e]
 by_cases h2:64 < len g
 ·have e:¬ len g<=64:=by omega
  simp [h1,h2,e]
 have e1:1<=len g:=by omega
 have e2:len g<=64:=by omega
 have hgl:g.length<=64:=by simp only [len] at e2;omega
 simp only [h1,h2,e1,e2,Vz,Z2l,zU,zP,LM];obtain ⟨r,h3,h4⟩:=EN (F:=fun w=>KK N g (m,()) (len g) w (fun t4=>some t4) (fun (_:Unit)=>some (-1))) g (ZZ m.1) (fun b r=>decide (0<=r) = !b)
  (fun k w hk=>by
   simp only [KK];rw [zK hk,zB,zg hk];simp only [zP,f323,ZZ];by_cases a:len g[k]=m.1
   ·have hrl:g[k].length<=62:=by simp only [len] at a;omega
    simp only [a,Vz,xU,zU,LM];rw [zm7 N _ (by omega) (by omega),zw (by omega) (by omega)];cases g[k].all Dq <;> simp
   ·simp [a])
  (fun w=>by
   simp only [KK];rw [zV,zU];exact ⟨-1,rfl,by simp⟩) N (by omega)
 unfold f322 f357;rw [h3];simp only [zP,h4,Bool.not_not]
def BQ (row part:List Int) (n:Nat) (c:Int):Int:=qh n fun s=>if part.getD s 0=c then row.getD s 0 else 0
def gi (g:List (List Int)) (part:List Int) (c:Int):Int:=g.foldl (fun b row=>max b (BQ row part part.length c)) 0
def z0n (g:List (List Int)) (part:List Int):Int:=qh (top 0 part).toNat fun c=>gi g part (c:Int)
theorem Va {n:Int} {row:List Int} (h:ZZ n row=true):len row=n/\∀ s,0<=row.getD s 0/\row.getD s 0<=1024:=by
 simp only [ZZ,zA,yR] at h;refine ⟨h.1,fun s=>?_⟩;by_cases hs:s < row.length
 ·have:=BH.1 h.2 _ (ku hs);simp only [Dq,zA,yR] at this;rw [VF,wP hs];exact this
 ·rw [VF,Z2g (by omega)];simp
theorem BZ {n:Int} {row:List Int} (h:ZZ n row=true) (part:List Int) (k:Nat) (c:Int):0<=BQ row part k c/\BQ row part k c<=k*1024:=by
 have hr:=(Va h).2;constructor
 ·refine uX fun i _=>?_
  have:=hr i;split <;> omega
 ·refine pH fun i _=>?_
  have:=hr i;split <;> omega
theorem DR (g:List (List Int)) (row:List Int) (part:List Int) (c:Int):gi (g++[row]) part c=max (gi g part c) (BQ row part part.length c):=by simp [gi]
theorem Wp {n:Int} {part:List Int} (c:Int):{g:List (List Int)}->(∀ row∈g,ZZ n row=true)->0<=gi g part c/\gi g part c<=part.length*1024:=by
 intro g
 induction g using Uz with
 | h0=>intro _;simp only [gi,Z2m];omega
 | h1 g row ih=>
  intro h;have h1:=ih (fun r hr=>h r (by simp [hr]));have h2:=BZ (h row (by simp)) part part.length c;rw [DR];omega
end Go.Kz
namespace Go.Kz
theorem EH (a b:Int):gR a b=max a b:=by simp only [gR];split <;> omega
theorem zoy:(2:Nat) ^ 62=4611686018427387904:=by decide
theorem zzm (k:Nat):Int.pow 2 k=((2 ^ k:Nat):Int):=by
 show (2:Int) ^ k=_;push_cast;rfl
theorem TT (A k:Nat) (hA:A < 2 ^ 62) (hk:k < 64) :
  decide ((zz (((((BitVec.ofInt 64 (Int.fdiv (A:Int) (Int.pow 2 (min (Int.toNat (k:Int)) 64)))).and (BitVec.ofInt 64 1)).toNat):Nat):Int))=1)=A.testBit k:=by
 have e1:min (Int.toNat (k:Int)) 64=k:=by simp;omega
 have e2:Int.fdiv (A:Int) (Int.pow 2 k)=((A / 2 ^ k:Nat):Int):=by
  rw [zzm,Z5m _ (Z4t _)];rfl
 rw [e1,e2];have e3:((BitVec.ofInt 64 ((A / 2 ^ k:Nat):Int)).and (BitVec.ofInt 64 1)).toNat=A / 2 ^ k % 2:=by
  show ((BitVec.ofInt 64 ((A / 2 ^ k:Nat):Int)) &&& (BitVec.ofInt 64 1)).toNat=_;rw [BitVec.toNat_and,BitVec.ofInt_natCast,BitVec.toNat_ofNat];have h1:(BitVec.ofInt 64 1).toNat=1:=by decide
  have h2:A / 2 ^ k < 2 ^ 64:=Nat.lt_of_le_of_lt (Nat.div_le_self _ _) (by omega);rw [h1,Z4o h2,Nat.and_one_is_mod]
 rw [e3,Nat.testBit_eq_decide_div_mod_eq];have h3:A / 2 ^ k % 2 < 2:=Z2r _ (by omega);rw [zw (by omega) (by omega)];rw [Rt];simp only [yR];omega
theorem Hl {k:Nat} (h:k<=62):2 ^ k<=4611686018427387904:=by
 have:=Z3j (n:=2) (by omega) h;rw [zoy] at this;exact this
theorem CU {a:Nat} (h:a<=4611686018427387904*2-1):zz (a:Int)=(a:Int):=zw (by omega) (by omega)
theorem zwf {k:Nat} (hk:k<=62):zz (1*(2 ^ (min (Int.toNat (k:Int)) 64)))=((2 ^ k:Nat):Int):=by
 have e1:min (Int.toNat (k:Int)) 64=k:=by simp;omega
 have h:=Hl hk;have e2:(1*2 ^ k:Int)=((2 ^ k:Nat):Int):=by push_cast;simp
 rw [e1,e2];exact CU (by omega)
theorem U8 {a:Nat} (h:a < 2 ^ 62):(BitVec.ofInt 64 (a:Int)).toNat=a:=by
 rw [BitVec.ofInt_natCast,BitVec.toNat_ofNat,Z4o (by omega)]
theorem Mc (X S k:Nat) (hX:X < 2 ^ 62) (hS:S < 2 ^ 62) (hk:k < 62) :
  zz (((((BitVec.ofInt 64 (X:Int)).or (BitVec.ofInt 64 (Go.IntKind.i64.wrap ↑((BitVec.ofInt 64 (S:Int)).and (BitVec.ofInt 64 (Go.IntKind.i64.wrap (Int.mul 1 (Int.pow 2 (min (Int.toNat (k:Int)) 64)))))).toNat))).toNat):Nat):Int)=((X ||| (S &&& 2 ^ k):Nat):Int):=by
 have e1:min (Int.toNat (k:Int)) 64=k:=by simp;omega
 have hp:2 ^ k < 2 ^ 62:=Nat.pow_lt_pow_right (by omega) (by omega);have e2:Go.IntKind.i64.wrap (Int.mul 1 (Int.pow 2 k))=((2 ^ k:Nat):Int):=by
  have:Int.mul 1 (Int.pow 2 k)=((2 ^ k:Nat):Int):=by
   show (1:Int)*(2:Int) ^ k=_;push_cast;simp
  rw [this];exact CU (by omega)
 rw [e1,e2];have hand:S &&& 2 ^ k < 2 ^ 62:=Nat.lt_of_le_of_lt Nat.and_le_left hS;have e3:((BitVec.ofInt 64 (S:Int)).and (BitVec.ofInt 64 ((2 ^ k:Nat):Int))).toNat=S &&& 2 ^ k:=by
  show ((BitVec.ofInt 64 (S:Int)) &&& (BitVec.ofInt 64 ((2 ^ k:Nat):Int))).toNat=_;rw [BitVec.toNat_and,U8 hS,U8 hp]
 have e4:Go.IntKind.i64.wrap ((S &&& 2 ^ k:Nat):Int)=((S &&& 2 ^ k:Nat):Int):=zw (n:=((S &&& 2 ^ k:Nat):Int)) (by omega) (by omega);rw [e3,e4];have hor:X ||| (S &&& 2 ^ k) < 2 ^ 62:=Nat.or_lt_two_pow hX hand;have e5:((BitVec.ofInt 64 (X:Int)).or (BitVec.ofInt 64 ((S &&& 2 ^ k:Nat):Int))).toNat=X ||| (S &&& 2 ^ k):=by
  show ((BitVec.ofInt 64 (X:Int)) ||| (BitVec.ofInt 64 ((S &&& 2 ^ k:Nat):Int))).toNat=_;rw [BitVec.toNat_or,U8 hX,U8 hand]
 rw [e5];exact zw (by omega) (by omega)
def xJ (b:Nat->Bool):Nat->Nat
 | 0=>0
 | n+1=>xJ b n+if b n then 2 ^ n else 0
theorem G2 (b:Nat->Bool):(n:Nat)->xJ b n < 2 ^ n
 | 0=>by simp [xJ]
 | n+1=>by
  have:=G2 b n;simp only [xJ,Z4p];split <;> omega
theorem Jl (b:Nat->Bool) (i:Nat):(n:Nat)->(xJ b n).testBit i=(decide (i < n) && b i)
 | 0=>by simp [xJ]
 | n+1=>by
  have hl:=G2 b n;have ih:=Jl b i n;simp only [xJ];by_cases h1:i < n
  ·have e1:decide (i < n+1)=true:=by simp;omega
   have e2:decide (i < n)=true:=by simp [h1]
   rw [e1];rw [e2] at ih;split
   ·rw [Z39,Nat.testBit_two_pow_add_gt h1,ih]
   ·exact ih
  ·by_cases h2:i=n
   ·subst h2;have e1:decide (i < i+1)=true:=by simp
    rw [e1,LM];have e3:(xJ b i).testBit i=false:=Z5d hl;split
    ·rename_i hb;rw [Z39,Nat.testBit_two_pow_add_eq,e3,hb];rfl
    ·rename_i hb;rw [S1,e3];simp [hb]
   ·have e1:decide (i < n+1)=false:=by simp;omega
    rw [e1,Bool.false_and];apply Z5d;have:2 ^ (n+1)<=2 ^ i:=Z3j (by omega) (by omega);rw [Z4p] at this;split <;> omega
theorem z7h (b:Nat->Bool) (S k:Nat) (h:b k=S.testBit k):xJ b k ||| (S &&& 2 ^ k)=xJ b (k+1):=by
 apply Nat.eq_of_testBit_eq;intro i;rw [Nat.testBit_or,Nat.testBit_and,Nat.testBit_two_pow,Jl,Jl];by_cases h1:i < k
 ·have e:¬ k=i:=by omega
  have e2:i < k+1:=by omega
  simp [h1,e,e2]
 ·by_cases h2:k=i
  ·subst h2;simp [h]
  ·have e2:¬ i < k+1:=by omega
   simp [h1,h2,e2]
theorem z7i {a b:Nat} (h:a<=b) (f:Nat->Bool):xJ f a < 2 ^ b:=Z2o (G2 f a) (Z3j (by omega) h)
def wC (m:gC) (q:Nat):List Int:=m.2.1.getD q []
def part (v:List Int) (S c:Nat):Nat:=xJ (fun s=>S.testBit s && decide (v.getD s 0=(c:Int))) v.length
def uU (v:List Int):Nat:=(top 0 v).toNat
def Wr (v:List Int) (S:Nat):List Int:=jF (uU v) fun c=>((part v S c:Nat):Int)
structure View (n:Nat) (v:List Int):Prop where
 len:v.length=n
 ok:Pb v=true
structure Ds (m:gC) (n:Nat):Prop where
 Eg:m.1=(n:Int)
 pos:1<=n
 F6:n<=62
 views:m.2.1.length<=8
 view:∀ v∈m.2.1,View n v
theorem z3f {m:gC} (h:pZ m=true):Ds m m.1.toNat:=by
 obtain ⟨m1,m2,m3,m4⟩:=Q9.1 h;refine ⟨by omega,by omega,by omega,m3,fun v hv=>⟨?_,(m4 v hv).2⟩⟩;have:=(m4 v hv).1;simp only [len] at this;omega
theorem Ds.at {m:gC} {n q:Nat} (h:Ds m n) (hq:q < m.2.1.length):m.2.1[q]=wC m q/\View n (wC m q):=by
 have e:wC m q=m.2.1[q]:=by simp [wC,hq]
 rw [e];exact ⟨rfl,h.view _ (ku hq)⟩
theorem z29 (v:List Int) (S c s:Nat):(part v S c).testBit s=(decide (s < v.length) && (S.testBit s && decide (v.getD s 0=(c:Int)))):=Jl _ _ _
theorem zbg (v:List Int) (S c:Nat):part v S c < 2 ^ v.length:=G2 _ _
theorem zay {n:Nat} {v:List Int} (h:View n v):uU v<=n:=by
 have:=(kY h.ok).2.1;rw [<-h.len];simp only [uU];omega
theorem FT {n:Nat} {v:List Int} (h:View n v) {s:Nat} (hs:s < v.length):∃ c:Nat,v[s]=(c:Int)/\c < uU v/\v.getD s 0=(c:Int):=by
 have:=(kY h.ok).2.2 _ (ku hs);refine ⟨v[s].toNat,by omega,by simp only [uU];omega,?_⟩;rw [VF,wP hs];simp;omega
theorem zdr (N:Nat) (hN:400 < N) {n:Nat} {v:List Int} (h:View n v) (hn:1<=n) (UJ:n<=62):f277 N v=some (top 0 v-1):=by
 have hl:=h.len;unfold f277;have e1:decide (len v < 1)=false:=by simp [len];omega
 rw [e1,zU];have h0:0 < v.length:=by omega
 rw [show (0:Int)=((0:Nat):Int) from rfl,zg h0];simp only [zP];have ha:=z2o h.ok h0;simp only [Ti,top] at ha;refine uh (fun x:Int×Int=>∃ k:Nat,x.1=k/\1<=k/\k<=v.length/\x.2=top 0 (v.take k)-1) (fun x=>v.length-x.1.toNat) ?_ N (1,v[0]) ⟨1,rfl,by omega,by omega,?_⟩ (by simp;omega)
 ·rintro ⟨i,t⟩ w ⟨k,hi,Qg,hk,ht⟩ hw;simp only at hi ht;subst hi;subst ht;simp only [FQ];by_cases qx:k < v.length
  ·obtain ⟨b1,b2,b3⟩:=kY (EA h.ok k);obtain ⟨a1,a2⟩:=z2o h.ok qx;rw [zK qx,zB,zg qx];simp only [zP];rw [zw (by omega) (by omega)];refine hw _ ⟨k+1,by simp,by omega,by omega,?_⟩ (by simp;omega);rw [take_succ qx,WR,EH];simp only;omega
  ·have Bi:k=v.length:=by omega
   subst Bi;rw [zV,zU,Qi];rfl
 ·rw [take_succ h0];simp only [Ti,QP,top];omega
theorem ze2 (N:Nat) (hN:400 < N) {n:Nat} {v:List Int} (h:View n v) (hn:1<=n) (UJ:n<=62) {S:Nat} (hS:S < 2 ^ 62):f197 N v (S:Int)=some (Wr v S):=by
 have hl:=h.len;obtain ⟨t1,t2,t3⟩:=kY h.ok;have htn:((uU v:Nat):Int)=top 0 v:=by simp only [uU];omega
 have kT:((room:Nat):Int)=4294967296:=rfl;unfold f197;rw [zdr N hN h hn UJ];simp only [zP];have e0:zz (top 0 v-1+1)=top 0 v:=by rw [zw (by omega) (by omega)];omega
 rw [e0,zf (by rw [kT];simp;omega)];refine k8 (fun k o=>o=jF (uU v) fun c=>((xJ (fun s=>S.testBit s && decide (v.getD s 0=(c:Int))) k:Nat):Int)) v.length ?_ ?_ N (by omega) _ ?_
 ·intro k o w hk ho hw;subst ho;obtain ⟨c,hc1,GQ,hc3⟩:=FT h hk;simp only [US];have hct:c < (jF (uU v) fun c=>((xJ (fun s=>S.testBit s && decide (v.getD s 0=(c:Int))) k:Nat):Int)).length:=by rw [jz];exact GQ
  have e1:decide ((k:Int) < 0)=false:=by simp
  rw [zK hk,zB,zg hk];simp only [zP];rw [hc1,zf (pQ hct),zg hct];simp only [zP];rw [e1,zU,zf (pQ hct),kS,Mc _ S k (z7i (by omega) _) hS (by omega),zw (by omega) (by omega),Y2,WT,z7h _ S k (by rw [hc3];simp)];refine hw _ (vV fun d hd=>?_);by_cases hdc:d=c
  ·subst hdc;simp
  ·have:¬ v.getD k 0=(d:Int):=by rw [hc3];omega
   simp only [hdc,Dh,xJ,this,Z2l,Bool.and_false,Mu,S1]
 ·intro o w ho;subst ho;simp only [US];rw [zV,zU];rfl
 ·have:(top 0 v).toNat=uU v:=rfl;rw [this,Wa];rfl
def Zq (n:Nat):Nat:=2 ^ n-1
theorem X1 (n:Nat):Zq n < 2 ^ n:=by have:=Nat.two_pow_pos n;simp only [Zq];omega
theorem z7u (n s:Nat):(Zq n).testBit s=decide (s < n):=by simp only [Zq];exact Nat.testBit_two_pow_sub_one n s
theorem zp6 {n S:Nat} (hn:n<=62) (h:S < 2 ^ n):S < 2 ^ 62:=Z2o h (Z3j (by omega) hn)
theorem Rb (N:Nat) {m:gC} {n:Nat} (hm:Ds m n):f105 N m=some ((Zq n:Nat):Int):=by
 have:=hm.F6;have hp:=Nat.two_pow_pos n;unfold f105;rw [hm.Eg];have e1:decide ((n:Int) < 0)=false:=by simp
 have:=Hl (k:=n) (by omega);rw [e1,zU,zwf (by omega),zw (by omega) (by omega)];simp only [Zq];congr 1;omega
def Wd (row:List Int) (n:Nat) (P:Nat->Bool):Int:=qh n fun s=>if P s then row.getD s 0 else 0
def jb (g:List (List Int)) (n:Nat) (P:Nat->Bool):Int:=g.foldl (fun b row=>max b (Wd row n P)) 0
theorem Vm (g:List (List Int)) (row:List Int) (n:Nat) (P:Nat->Bool):jb (g++[row]) n P=max (jb g n P) (Wd row n P):=by simp [jb]
structure Ba (g:List (List Int)) (n:Nat):Prop where
 pos:1<=g.length
 F6:g.length<=64
 row:∀ row∈g,ZZ (n:Int) row=true
theorem zh5 {g:List (List Int)} {n:Nat} (h:Z8 g (n:Int)=true):Ba g n:=by
 simp only [Z8,zA,yR,len] at h;exact ⟨by omega,by omega,fun row hr=>BH.1 h.2 row hr⟩
theorem Zs {n:Nat} {row:List Int} (h:ZZ (n:Int) row=true) (k:Nat) (P:Nat->Bool):0<=Wd row k P/\Wd row k P<=k*1024:=by
 have hr:=(Va h).2;constructor
 ·refine uX fun i _=>?_
  have:=hr i;split <;> omega
 ·refine pH fun i _=>?_
  have:=hr i;split <;> omega
theorem IZ {n:Nat} (P:Nat->Bool):{g:List (List Int)}->(∀ row∈g,ZZ (n:Int) row=true)->0<=jb g n P/\jb g n P<=n*1024:=by
 intro g
 induction g using Uz with
 | h0=>intro _;simp only [jb,Z2m];omega
 | h1 g row ih=>
  intro h;have h1:=ih (fun r hr=>h r (by simp [hr]));have h2:=Zs (h row (by simp)) n P;rw [Vm];omega
theorem zeo (N:Nat) (hN:400 < N) {g:List (List Int)} {n:Nat} (hg:Ba g n) (hn:n<=62) {S:Nat} (hS:S < 2 ^ 62):f106 N g (S:Int)=some (jb g n S.testBit):=by
 have hgl:=hg.F6;unfold f106;refine k8 (fun i b=>b=jb (g.take i) n S.testBit) g.length ?_ ?_ N (by omega) _ (by simp [jb])
 ·intro i b w hi hb hw;subst hb;have hri:=hg.row _ (ku hi);have IK:=(Va hri).1;have hrl:g[i].length=n:=by simp only [len] at IK;omega
  simp only [Uo];rw [zK hi,zB,zg hi];simp only [zP];refine k8 (fun k x=>x=Wd g[i] k S.testBit) n ?_ ?_ N (by omega) _ rfl
  ·intro k x w2 hk hx hw2;subst hx;have hb:=Zs hri k S.testBit;have hkg:k < g[i].length:=by omega
   have hgk:g[i].getD k 0=g[i][k]:=by rw [VF,wP hkg];rfl
   have AW:=(Va hri).2 k;rw [hgk] at AW;have e2:decide ((k:Int) < 0)=false:=by simp
   simp only [Un];rw [zK hkg,zB,zg hkg];simp only [zP];rw [e2,zU,TT S k hS (by omega),zw (n:=(k:Int)+1) (by omega) (by omega)]
   cases hb:S.testBit k with
   | true=>
    rw [zB,zw (by omega) (by omega)]
    exact hw2 _ (by simp only [Wd,qh,hb,WQ,hgk])
   | false=>
    rw [zU];exact hw2 _ (by simp only [Wd,qh,hb,Mu,Dh];omega)
  ·intro x w2 hx;subst hx;simp only [Un];rw [<-hrl,zV,zU,zw (by omega) (by omega),EH,hrl];exact hw _ (by rw [take_succ hi,Vm])
 ·intro b w hb;subst hb;simp only [Uo];rw [zV,zU,Qi]
end Go.Kz
namespace Go.Kz
theorem ze4 (N:Nat) (hN:400 < N) (m:gC) (g:List (List Int)) (part:List Int) :
  f191 N m g part=some (if pZ m=true/\Z8 g m.1=true/\len part=m.1/\Pb part=true then (z0n g part,0) else (0,1)):=by
 unfold f191;rw [FC N hN];simp only [zP,YC]
 cases hm:pZ m with
 | false=>simp
 | true=>
 obtain ⟨m1,m2,m3,m4⟩:=Q9.1 hm;simp only [WQ,Vz,xU,zU];rw [zdu N hN hm];simp only [zP]
 cases hg:Z8 g m.1 with
 | false=>simp
 | true=>
 simp only [xU,zU,zP];by_cases hl:len part=m.1
 ·have gV:part.length<=62:=by simp only [len] at hl;omega
  simp only [hl,Vz,xU,zU,zP];rw [Np N _ (by omega) (by omega)];simp only [zP]
  cases zS:Pb part with
  | false=>simp
  | true=>
  simp only [xU,zU];rw [z62 N _ (by omega) (by omega),zS];simp only [WQ,zP,and_self];obtain ⟨t1,t2,t3⟩:=kY zS;have kT:((room:Nat):Int)=4294967296:=rfl;rw [zf (by rw [kT];simp;omega)];simp only [Z8,zA,yR] at hg;have hgl:g.length<=64:=by have:=hg.1.2;simp only [len] at this;omega
  have vk:∀ row∈g,ZZ m.1 row=true:=fun row hr=>BH.1 hg.2 row hr
  have hpm:part.length=m.1.toNat:=by simp only [len] at hl;omega
  generalize hK:(top 0 part).toNat=K;have hK62:K<=62:=by omega
  have z5j:∀ s (hs:s < part.length),∃ c:Nat,part[s]=(c:Int)/\c < K:=by
   intro s hs;have:=t3 _ (ku hs);exact ⟨part[s].toNat,by omega,by omega⟩
  refine k8 (fun i b=>b=jF K fun c=>gi (g.take i) part (c:Int)) g.length ?_ ?_ N (by omega) _ ?_
  ·intro i b w hi hb hw;subst hb;have hri:=vk _ (ku hi);have hrt:∀ row∈g.take i,ZZ m.1 row=true:=fun row hr=>vk row (Z3x hr)
   have IK:=(Va hri).1;have hrl:g[i].length=part.length:=by simp only [len] at IK;omega
   have QH:len (jF K fun c=>gi (g.take i) part (c:Int))=(K:Int):=by simp [len,jz]
   simp only [UT];rw [zK hi,zB,zg hi];simp only [zP];rw [zf (by rw [kT,QH];simp;omega),QH];refine k8 (fun k o=>o=jF K fun c=>BQ g[i] part k (c:Int)) part.length ?_ ?_ N (by omega) _ ?_
   ·intro k o w2 hk ho hw2;subst ho;obtain ⟨c,hc,hcK⟩:=z5j k hk;have hct:c < (jF K fun c=>BQ g[i] part k (c:Int)).length:=by rw [jz];exact hcK
    have hb:=BZ hri part k (c:Int);have hgk:g[i].getD k 0=g[i][k]:=by rw [VF,wP (by omega)];rfl
    have AW:=(Va hri).2 k;rw [hgk] at AW;simp only [KN];rw [zK hk,zB,zg hk];simp only [zP];rw [hc,zf (pQ hct),zg hct,zg (l:=g[i]) (k:=k) (by omega)];simp only [zP,kS];rw [zf (pQ hct),zw (n:=(k:Int)+1) (by omega) (by omega),zw (by omega) (by omega),Y2,WT];refine hw2 _ (vV fun d hd=>?_);have hpk:part.getD k 0=(c:Int):=by rw [VF,wP hk];exact hc
    simp only [BQ,qh,hpk,hgk];by_cases hdc:d=c
    ·subst hdc;simp
    ·have:¬ ((c:Int)=(d:Int)):=by omega
     simp [hdc,this]
   ·intro o w2 ho;subst ho;simp only [KN];rw [zV,zU];have Mj:len (jF K fun c=>BQ g[i] part part.length (c:Int))=(K:Int):=by simp [len,jz]
    rw [Mj];refine k8 (fun j o=>o=jF K fun c=>if c < j then max (gi (g.take i) part (c:Int)) (BQ g[i] part part.length (c:Int)) else gi (g.take i) part (c:Int)) K ?_ ?_ N (by omega) _ ?_
    ·intro j o w3 hj ho hw3;subst ho;simp only [KM];have e:decide ((j:Int) < (K:Int))=true:=by simp;omega
     have hjt:j < (jF K fun c=>BQ g[i] part part.length (c:Int)).length:=by rw [jz];exact hj
     have hjo:j < (jF K fun c=>if c < j then max (gi (g.take i) part (c:Int)) (BQ g[i] part part.length (c:Int)) else gi (g.take i) part (c:Int)).length:=by rw [jz];exact hj
     rw [e,zB,zf (pQ hjt),zg hjt];simp only [zP];rw [zf (pQ hjo),zg hjo];simp only [zP];rw [zf (pQ hjo),zw (by omega) (by omega),Y2,WT,kS,kS,EH];refine hw3 _ (vV fun d hd=>?_);by_cases hdj:d=j
     ·subst hdj;simp
     ·by_cases h1:d < j
      ·have h2:d < j+1:=by omega
       simp [hdj,h1,h2]
      ·have h2:¬ d < j+1:=by omega
       simp [hdj,h1,h2]
    ·intro o w3 ho;subst ho;simp only [KM];have e:decide ((K:Int) < (K:Int))=false:=by simp
     rw [e,zU,zw (by omega) (by omega)];refine hw _ ?_;rw [take_succ hi];refine vV fun d hd=>?_
     rw [DR,yQ hd]
    ·refine vV fun d hd=>?_
     simp
   ·rw [LL,Wa];refine vV fun d hd=>?_
    rfl
  ·intro b w hb;subst hb;simp only [UT];rw [zV,zU,Qi];have QH:len (jF K fun c=>gi g part (c:Int))=(K:Int):=by simp [len,jz]
   rw [QH];refine k8 (fun j t=>t=qh j fun c=>gi g part (c:Int)) K ?_ ?_ N (by omega) _ rfl
   ·intro j t w2 hj ht hw2;subst ht;simp only [KL];have e:decide ((j:Int) < (K:Int))=true:=by simp;omega
    have hjt:j < (jF K fun c=>gi g part (c:Int)).length:=by rw [jz];exact hj
    have hb0:=Wp (n:=m.1) (part:=part) (j:Int) vk;have hs0:0<=qh j fun c=>gi g part (c:Int):=uX fun i _=>(Wp (n:=m.1) (part:=part) (i:Int) vk).1
    have Pm:(qh j fun c=>gi g part (c:Int))<=j*(part.length*1024):=pH fun i _=>(Wp (n:=m.1) (part:=part) (i:Int) vk).2
    have hs2:(j:Int)*(part.length*1024)<=62*(62*1024):=Z3k (by omega) (by omega) (by omega) (by omega);rw [e,zB,zf (pQ hjt),zg hjt];simp only [zP,kS];rw [zw (by omega) (by omega),zw (by omega) (by omega)];exact hw2 _ rfl
   ·intro t w2 ht;subst ht;simp only [KL];have e:decide ((K:Int) < (K:Int))=false:=by simp
    rw [e,zU];simp only [z0n,hK]
  ·rw [Wa];refine vV fun d hd=>?_
   simp [gi]
 ·simp [hl]
def LX (m:gC) (g:List (List Int)) (k:Int):Bool:=pZ m && Z8 g m.1 && decide (0<=k) && decide (k<=8)
theorem zbt:(n:Nat)->Pb (List.replicate n (0:Int))=true:=by
 have key:∀ (n:Nat) (d:Int),0<=d->wX d (List.replicate n (0:Int))=true:=by
  intro n
  induction n with
  | zero=>intro d _;rfl
  | succ n ih=>
   intro d hd;have e:decide ((0:Int)<=d)=true:=by simp [hd]
   simp only [Z4h,wX,e,Z2f,LM];simp only [Z30,Vz,LM];exact ih _ (by omega)
 exact fun n=>key n 0 (by omega)
theorem zep (N:Nat) (hN:400 < N) (m:gC) (g:List (List Int)) (k:Int):f103 N m g k=some (if LX m g k then 0 else 1):=by
 unfold f103 LX;rw [FC N hN];simp only [zP,YC]
 cases hm:pZ m with
 | false=>simp
 | true=>
 have hmp:=z3f hm;have h1:=hmp.Eg;have h2:=hmp.F6;simp only [WQ,Vz,xU,zU,LM];rw [zf (by rw [show ((room:Nat):Int)=4294967296 from rfl];simp;omega),ze4 N hN];have e1:len (List.replicate m.1.toNat (0:Int))=m.1:=by simp only [len,List.length_replicate];omega
 simp only [hm,e1,zbt,Vq,U6]
 cases hg:Z8 g m.1 with
 | false=>simp
 | true=>
  simp only [WQ,zP,Vz,xU,zU,LM];by_cases h3:k < 0
  ·have:¬ 0<=k:=by omega
   simp [h3,this]
  ·have h3':0<=k:=by omega
   by_cases h4:8 < k
   ·have:¬ k<=8:=by omega
    simp [h3,h3',h4,this]
   ·have h4':k<=8:=by omega
    simp [h3,h3',h4,h4']
abbrev jI:=Int×(Int×(Int×Unit))
abbrev Key:=Int×(Int×Unit)
def TR (a b:Int):Int:=if a < b then -1 else if b < a then 1 else 0
theorem Ra (N:Nat) (a b:Int):f149 N a b=some (TR a b):=by
 unfold f149 TR;simp only [f230,zP,Vz,xU,zU];by_cases h1:a < b
 ·simp [h1]
 ·by_cases h2:b < a
  ·simp [h1,h2]
  ·simp [h1,h2]
def z2a (x y:jI):Int:=if TR y.2.1 x.2.1=0 then TR x.1 y.1 else TR y.2.1 x.2.1
theorem ze3 (N:Nat) (hN:3<=N) (a b:Int):f196 N [a,b]=some (if a=0 then b else a):=by
 obtain ⟨k,rfl⟩:∃ k,N=k+3:=⟨N-3,by omega⟩;unfold f196;by_cases ha:a=0
 ·have w1:zz 1=1:=zw (by omega) (by omega);have w2:zz 2=2:=zw (by omega) (by omega);by_cases hb:b=0
  ·subst ha;subst hb;simp [iter,KI,idx,len,w1,w2]
  ·subst ha;simp [iter,KI,idx,len,hb,w1]
 ·simp [iter,KI,idx,len,ha]
theorem FB (N:Nat) (hN:3<=N) (x y:jI):f104 N x y=some (z2a x y):=by
 unfold f104 z2a;rw [Ra,Ra];simp only [zP];rw [ze3 N hN];rfl
def p6 (x y:jI):Bool:=if x.2.1=y.2.1 then decide (x.1 < y.1) else decide (y.2.1 < x.2.1)
theorem OY (x y:jI):decide (0<=z2a x y) = !p6 x y:=by
 unfold z2a p6 TR;by_cases h1:x.2.1=y.2.1
 ·simp only [h1,Int.lt_irrefl,Dh,WQ];by_cases h2:x.1 < y.1
  ·simp [h2]
  ·by_cases h3:y.1 < x.1 <;> simp [h2,h3]
 ·by_cases h2:y.2.1 < x.2.1
  ·simp [h1,h2]
  ·have h3:x.2.1 < y.2.1:=by omega
   simp [h1,h2,h3]
def z7j (t:List jI) (i:Nat):Bool:=decide (0 < i) && !p6 (t.getD (i-1) (0,0,0,())) (t.getD i (0,0,0,()))
def Ca (t:List jI):Bool:=(List.range (t.length-0)).all fun j=>!z7j t (0+j)
theorem HM {t:List jI} (h:Ca t=true) {i:Nat} (hi:i+1 < t.length):p6 t[i] t[i+1]=true:=by
 have:=BH.1 h (i+1) (by simp;omega);have e1:t.getD i (0,0,0,())=t[i]:=by rw [VF,wP (by omega)];rfl
 have e2:t.getD (i+1) (0,0,0,())=t[i+1]:=by rw [VF,wP (by omega)];rfl
 simp only [z7j,Zf,Z4s,e1,e2] at this;simpa using this
theorem NI {x y z:jI} (h1:p6 x y=true) (h2:p6 y z=true):p6 x z=true:=by
 simp only [p6] at h1 h2 ⊢;split at h1 <;> split at h2 <;> split <;> simp only [yR] at h1 h2 ⊢ <;> omega
theorem zey {x y:jI} (h:p6 x y=true):¬ (x.1=y.1/\x.2.1=y.2.1):=by
 rintro ⟨h1,h2⟩;simp [p6,h1,h2] at h
theorem HL {t:List jI} (h:Ca t=true) {i:Nat}:∀ (d:Nat) (hd:i+(d+1) < t.length),p6 (t[i]'(by omega)) t[i+(d+1)]=true
 | 0,hd=>HM h hd
 | d+1,hd=>NI (HL h d (by omega)) (HM h hd)
theorem HC {R:Type} (N:Nat) (hN:5000 < N) (t:List jI) (ht:t.length<=4096) (a1:List (List Int)) (b1 b2:Int) (o:gC) (zO:Int->Option R) (kx:Unit->Option R) :
  iter (fun w=>Gs N t a1 b1 b2 (len t) o w zO kx) N 0=if Ca t then kx () else zO 10:=by
 have:=Ja (F:=fun w=>Gs N t a1 b1 b2 (len t) o w zO kx) 0 t.length (by omega) (fun i=>!z7j t i) (kx ()) (zO 10) ?_ ?_ N (by omega)
 ·exact this
 ·intro k w _ hk;simp only [Gs];have e2:t.getD k (0,0,0,())=t[k]:=by rw [VF,wP hk];rfl
  rw [zK hk,zB,zw (n:=(k:Int)+1) (by omega) (by omega)];by_cases h0:k=0
  ·subst h0;simp [z7j]
  ·have e3:decide (0 < (k:Int))=true:=by simp;omega
   have e1:t.getD (k-1) (0,0,0,())=t[k-1]:=by rw [VF,wP (by omega)];rfl
   rw [e3,zB,ua (by omega) (by omega),zg (k:=k-1) (by omega),zg hk];simp only [zP];rw [FB N (by omega)];simp only [zP,OY,z7j,e1,e2];have e4:decide (0 < k)=true:=by simp;omega
   rw [e4];cases p6 t[k-1] t[k] <;> rfl
 ·intro w;simp only [Gs];rw [zV];rfl
theorem eqK (x y:Key):VC (.pair (.int .i64) (.pair (.int .i64) .unit)) x y=decide (x=y):=by
 obtain ⟨a,b,u⟩:=x;obtain ⟨c,d,v⟩:=y;simp only [VC,ju,Z2f];rw [Rt];simp
section
variable {I Z:Type} [DecidableEq I]
def lk:List (I×Z)->I->Option Z
 | [],_=>none
 | (k,v) :: l,x=>if x=k then some v else lk l x
def pt:List (I×Z)->I->Z->List (I×Z)
 | [],x,y=>[(x,y)]
 | (k,v) :: l,x,y=>if x=k then (k,y) :: l else (k,v) :: pt l x y
theorem Uk {e:I->I->Bool} (he:∀ x y,e x y=decide (x=y)) (x:I):(l:List (I×Z))->wJ e l x=lk l x
 | []=>rfl
 | (k,v) :: l=>by
  simp only [wJ,lk,he,Uk he x l];by_cases h:x=k <;> simp [h]
theorem OU {e:I->I->Bool} (he:∀ x y,e x y=decide (x=y)) (x:I) (y:Z):(l:List (I×Z))->gp e l x y=pt l x y
 | []=>rfl
 | (k,v) :: l=>by
  simp only [gp,pt,he,OU he x y l];by_cases h:x=k <;> simp [h]
theorem z1z {x:I} {y:Z}:{l:List (I×Z)}->lk l x=none->pt l x y=l++[(x,y)]
 | [],_=>rfl
 | (k,v) :: l,h=>by
  simp only [lk] at h;split at h
  ·simp at h
  ·rename_i je;simp only [pt,qZ je,xA,z1z h]
theorem OB {x:I}:{l:List (I×Z)}->lk l x=none↔∀ p∈l,p.1≠x
 | []=>by simp [lk]
 | (k,v) :: l=>by
  simp only [lk];split
  ·rename_i h;subst h;simp
  ·rename_i h;rw [OB];simp only [pK,forall_eq_or_imp];constructor
   ·intro h2;exact ⟨fun e=>h e.symm,h2⟩
   ·intro h2;exact h2.2
theorem EI {x:I} {y:Z}:{l:List (I×Z)}->lk l x=some y->(x,y)∈l
 | (k,v) :: l,h=>by
  simp only [lk] at h;split at h
  ·rename_i he;subst he;simp only [zI] at h;subst h;simp
  ·exact Th _ (EI h)
end
def K7 (t:List jI):List (Key×Int):=t.map fun x=>((x.1,x.2.1,()),x.2.2.1)
def look (t:List jI) (S l:Int):Option Int:=lk (K7 t) (S,l,())
end Go.Kz
namespace Go.Kz
def Zk:List (Option Int)->Option Int
 | []=>some 0
 | x :: l=>x.bind fun a=>(Zk l).map (a + ·)
theorem XZ:(l m:List (Option Int))->Zk (l++m)=(Zk l).bind fun s=>(Zk m).map (s + ·)
 | [],m=>by simp [Zk]
 | x :: l,m=>by
  simp only [xA,Zk,XZ l m]
  cases x with
  | none=>rfl
  | some a=>
   simp only [zP]
   cases Zk l with
   | none=>rfl
   | some s=>
    simp only [zP,Z23]
    cases Zk m with
    | none=>rfl
    | some r=>simp only [Z23,Int.add_assoc]
theorem CR (l:List (Option Int)) (x:Option Int):Zk (l++[x])=(Zk l).bind fun s=>x.map (s + ·):=by
 rw [XZ];cases x <;> simp [Zk]
theorem z42 {R:Type} {F:(Int×Int->Option R)->Int×Int->Option R} (l:List (Option Int)) (B:Int) (hb:∀ x∈l,∀ a,x=some a->0<=a/\a<=B) (A:Int->Option R) (E:Option R)
  (step:∀ (k:Nat) (s:Int) (w:Int×Int->Option R) (hk:k < l.length),0<=s->s<=k*B->F w ((k:Int),s)=match l[k] with
   | none=>E
   | some a=>w ((k:Int)+1,s+a))
  (last:∀ (s:Int) (w:Int×Int->Option R),F w ((l.length:Int),s)=A s) (N:Nat) (hN:l.length < N):iter F N (0,0)=match Zk l with
   | none=>E
   | some s=>A s:=by
 refine k8 (fun k s=>Zk (l.take k)=some s/\0<=s/\s<=k*B) l.length ?_ ?_ N hN 0 ⟨by simp [Zk],by omega,by simp⟩
 ·rintro k s w hk ⟨h1,h2,h3⟩ hw;rw [step k s w hk h2 h3];have hs:=take_succ hk
  cases hx:l[k] with
  | none=>
   have:Zk l=none:=by
    conv=>lhs;rw [<-Mx (k+1) l,XZ,hs,CR,h1,hx]
    rfl
   rw [this]
  | some a=>
   have Z6:=hb _ (ku hk) a hx;refine hw _ ⟨?_,by omega,?_⟩
   ·rw [hs,CR,h1,hx];rfl
   ·push_cast;rw [Z43,Int.one_mul];omega
 ·rintro s w ⟨h1,_,_⟩;rw [Qi] at h1;rw [last s w,h1]
def Sc (v:List Int) (S:Nat) (h:Nat->Option Int):Option Int:=Zk ((List.range (uU v)).map fun c=>if part v S c=0 then some 0 else h (part v S c))
def z7g (vs:List (List Int)) (S:Nat) (h:Nat->Option Int) (b:Int):Bool:=vs.all fun v=>match Sc v S h with
 | none=>false
 | some s=>decide (s<=b)
def xd (g:List (List Int)) (n:Nat) (x:jI):Bool:=decide (0<=x.2.1) && decide (1<=x.1) && decide (x.1<=(Zq n:Int)) && decide (jb g n x.1.toNat.testBit<=x.2.2.1) && decide (x.2.2.1<=1099511627776)
def z34 (t:List jI) (x:jI):Nat->Option Int:=fun y=>look t (y:Int) (zz (x.2.1-1))
def PQ (m:gC) (t:List jI) (x:jI):Bool:=!decide (0 < x.2.1) || z7g m.2.1 x.1.toNat (z34 t x) x.2.2.1
def EG (m:gC) (g:List (List Int)) (k:Int) (t:List jI) (b:Int):Int:=
 if LX m g k then
  if t.length<=4096 then
   if Ca t then
    if t.all (xd g m.1.toNat) then
     if t.all (PQ m t) then
      match look t (Zq m.1.toNat) k with
      | none=>13
      | some v=>if b < v then 13 else 0
     else 13
    else 13
   else 10
  else 4
 else 1
theorem ZT {g:List (List Int)} {n:Nat} {x:jI}:xd g n x=true↔0<=x.2.1/\1<=x.1/\x.1<=(Zq n:Int)/\jb g n x.1.toNat.testBit<=x.2.2.1/\x.2.2.1<=1099511627776:=by
 simp [xd,and_assoc]
def z84 (M:List (Key×Int)):Prop:=∀ key v,lk M key=some v->0<=v/\v<=1099511627776
theorem zar {g:List (List Int)} {n:Nat} {t:List jI} (hg:Ba g n) (h:t.all (xd g n)=true):z84 (K7 t):=by
 intro key v hv;have:=EI hv;simp only [K7,Gq] at this;obtain ⟨x,hx,he⟩:=this;have h1:=ZT.1 (BH.1 h x hx);simp only [gP] at he;have:=(IZ (n:=n) x.1.toNat.testBit hg.row).1;omega
theorem z19 {v:List Int} {S:Nat} {h:Nat->Option Int} {B:Int} (hB:0<=B) (hb:∀ y a,h y=some a->0<=a/\a<=B):∀ x∈(List.range (uU v)).map (fun c=>if part v S c=0 then some 0 else h (part v S c)),∀ a,x=some a->0<=a/\a<=B:=by
 intro x hx a ha;obtain ⟨c,_,rfl⟩:=Gq.1 hx;split at ha
 ·simp only [zI] at ha;omega
 ·exact hb _ _ ha
theorem zen (N:Nat) (hN:5000 < N) {m:gC} {n:Nat} (hm:Ds m n) {M:List (Key×Int)} (hM:z84 M) (x:jI) {S:Nat} (hS:S < 2 ^ 62) (hx:x.1=(S:Int)) :
  f107 N m x M=some (((),(z7g m.2.1 S (fun y=>lk M ((y:Int),zz (x.2.1-1),())) x.2.2.1,())),(M,())):=by
 have hv8:=hm.views;have hn:=hm.F6;unfold f107
 rw [IY m.2.1 (fun v=>match Sc v S (fun y=>lk M ((y:Int),zz (x.2.1-1),())) with
  | none=>false
  | some s=>decide (s<=x.2.2.1)) (some (((),(true,())),(M,()))) (some (((),(false,())),(M,()))) ?_ ?_ N (by omega)]
 ·unfold z7g
  cases m.2.1.all (fun v=>match Sc v S (fun y=>lk M ((y:Int),zz (x.2.1-1),())) with
   | none=>false
   | some s=>decide (s<=x.2.2.1)) <;> rfl
 ·intro q w hq;obtain ⟨e1,hv⟩:=hm.at hq;have htl:=zay hv;have gV:(Wr (wC m q) S).length=uU (wC m q):=jz _ _;simp only [Um];rw [zK hq,zB,zg hq,e1,hx];simp only [zP];rw [ze2 N (by omega) hv hm.pos hm.F6 hS];simp only [zP];have:=z42 (F:=fun w_1=>Kn N m.2.1 (len m.2.1) (q:Int) (len (Wr (wC m q) S)) M x (Wr (wC m q) S) w_1 (fun t6=>some (((),(t6,())),(M,())))
    (fun HG=>cond (decide (x.2.2.1 < HG)) (some (((),(false,())),(M,()))) (w (zz ((q:Int)+1)))))
   ((List.range (uU (wC m q))).map fun c=>if part (wC m q) S c=0 then some 0 else lk M (((part (wC m q) S c:Nat):Int),zz (x.2.1-1),())) 1099511627776
   (z19 (h:=fun y=>lk M ((y:Int),zz (x.2.1-1),())) (by omega) (fun y a ha=>hM _ _ ha))
   (fun HG=>cond (decide (x.2.2.1 < HG)) (some (((),(false,())),(M,()))) (w (zz ((q:Int)+1)))) (some (((),(false,())),(M,()))) ?_ ?_ N (by simp;omega)
  ·rw [this];unfold Sc;split
   ·rename_i hs;rw [hs];rfl
   ·rename_i s hs;rw [hs];rw [zw (n:=(q:Int)+1) (by omega) (by omega)];by_cases hle:s<=x.2.2.1
    ·have:¬ x.2.2.1 < s:=by omega
     simp [hle,this]
    ·have:x.2.2.1 < s:=by omega
     simp [hle,this]
  ·intro c s w2 hc h0 h1;have Cw:c < uU (wC m q):=by simpa using hc
   have hcp:c < (Wr (wC m q) S).length:=by omega
   have hs:s<=62*1099511627776:=by
    have:(c:Int)*1099511627776<=62*1099511627776:=by omega
    omega
   simp only [Kn];rw [zK hcp,zB,zf (pQ hcp),zg hcp];have e2:(Wr (wC m q) S)[c]=((part (wC m q) S c:Nat):Int):=kS _;simp only [zP,e2,Z29,List.getElem_range,Uk eqK];rw [zw (n:=(c:Int)+1) (by omega) (by omega)];by_cases hp:part (wC m q) S c=0
   ·simp [hp]
   ·have hp':¬ (((part (wC m q) S c:Nat):Int)=0):=by omega
    rw [qZ hp,qO hp',zU]
    cases hl:lk M (((part (wC m q) S c:Nat):Int),zz (x.2.1-1),()) with
    | none=>simp
    | some a=>
     have:=hM _ _ hl;simp only [Z4q,xU,zU,Z2h];rw [zw (by omega) (by omega)]
  ·intro s w2;have e3:(((List.range (uU (wC m q))).map fun c=>if part (wC m q) S c=0 then some 0 else lk M (((part (wC m q) S c:Nat):Int),zz (x.2.1-1),())).length:Int)=len (Wr (wC m q) S):=by simp [len,gV]
   simp only [Kn];rw [e3];have e4:decide (len (Wr (wC m q) S) < len (Wr (wC m q) S))=false:=by simp
   rw [e4,zU]
 ·intro w;simp only [Um];rw [zV];rfl
theorem Tp (t:List jI) (x:jI):K7 (t++[x])=K7 t++[((x.1,x.2.1,()),x.2.2.1)]:=by simp [K7]
theorem z11 {t:List jI} (h:Ca t=true) {k:Nat} (hk:k < t.length):lk (K7 (t.take k)) (t[k].1,t[k].2.1,())=none:=by
 rw [OB];intro p hp;simp only [K7,Gq] at hp;obtain ⟨x,hx,rfl⟩:=hp;obtain ⟨i,hi,rfl⟩:=Jo.1 hx;simp only [P9] at hi;rw [Z2w];intro he;simp only [gP,U6] at he;have:=HL h (i:=i) (k-i-1) (by omega);have e:i+(k-i-1+1)=k:=by omega
 simp only [e] at this;exact zey this he
theorem zm5 (N:Nat) (hN:5000 < N) (m:gC) (g:List (List Int)) (k:Int) (t:List jI) (b:Int):f34 N m g k t b=some (EG m g k t b):=by
 unfold f34 EG;rw [zep N (by omega)];simp only [zP]
 cases ha:LX m g k with
 | false=>rfl
 | true=>
 simp only [WQ,Vz,xU,zU];simp only [LX,zA,yR] at ha;obtain ⟨⟨⟨hmo,hgo⟩,hk0⟩,hk8⟩:=ha;have hm:=z3f hmo;have zr1:=hm.Eg;rw [zr1] at hgo;have hg:=zh5 hgo;generalize m.1.toNat=n at hm hg zr1;by_cases hl:t.length<=4096
 ·have e1:decide (4096 < len t)=false:=by simp [len];omega
  rw [e1,zU,yQ hl,HC N hN t hl]
  cases hs:Ca t with
  | false=>rfl
  | true=>
  simp only [WQ];refine k8 (fun i M=>M=K7 (t.take i)/\(t.take i).all (xd g n)=true) t.length ?_ ?_ N (by omega) _ ⟨rfl,by simp⟩
  ·rintro i M w hi ⟨rfl,hall⟩ hw;have Pm:=take_succ hi;have II:xd g n t[i]=false->t.all (xd g n)=false:=fun hh=>by
    rw [Z41];exact ⟨_,ku hi,by simp [hh]⟩
   simp only [UB];rw [zK hi,zB,zg hi];simp only [zP];by_cases c1:t[i].2.1 < 0
   ·rw [II (by simp [xd];omega)];simp [c1]
   by_cases c2:t[i].1 < 1
   ·rw [II (by simp [xd];omega)];simp [c1,c2]
   rw [Rb N hm];by_cases c3:(Zq n:Int) < t[i].1
   ·rw [II (by simp [xd];omega)];simp [c1,c2,c3]
   obtain ⟨S,hS⟩:=Z4n (show 0<=t[i].1 by omega);have hSl:S < 2 ^ 62:=zp6 hm.F6 (by have:=X1 n;omega);rw [hS,zeo N (by omega) hg hm.F6 hSl];have c2':¬ ((S:Int) < 1):=by omega
   have c3':¬ ((Zq n:Int) < (S:Int)):=by omega
   have eS:t[i].1.toNat=S:=by omega
   by_cases c4:t[i].2.2.1 < jb g n S.testBit
   ·rw [II (by simp [xd,eS];omega)];simp [c1,c2',c3',c4]
   by_cases c5:1099511627776 < t[i].2.2.1
   ·rw [II (by simp [xd];omega)];simp [c1,c2',c3',c4,c5]
   have Ps:xd g n t[i]=true:=ZT.2 ⟨by omega,by omega,by omega,by rw [eS];omega,by omega⟩;simp only [c1,c2',c3',c4,c5,Z2l,zU,zP];rw [zw (n:=(i:Int)+1) (by omega) (by omega),OU eqK];refine hw _ ⟨?_,?_⟩
   ·rw [Pm,Tp,<-hS];exact z1z (z11 hs hi)
   ·rw [Pm,Z3g,hall];simp [Ps]
  ·rintro M w ⟨rfl,hall⟩;rw [Qi] at hall ⊢;simp only [UB];rw [zV,zU,hall];simp only [WQ];have hM:=zar hg hall;refine k8 (fun i M=>M=K7 t/\(t.take i).all (PQ m t)=true) t.length ?_ ?_ N (by omega) _ ⟨rfl,by simp⟩
   ·rintro i M w hi ⟨rfl,Gi⟩ hw;have Pm:=take_succ hi;have Ps:=ZT.1 (BH.1 hall _ (ku hi));obtain ⟨S,hS⟩:=Z4n (show 0<=t[i].1 by omega);have hSl:S < 2 ^ 62:=zp6 hm.F6 (by have:=X1 n;omega);have eS:t[i].1.toNat=S:=by omega
    simp only [UA];rw [zK hi,zB,zg hi];simp only [zP];rw [zw (n:=(i:Int)+1) (by omega) (by omega),zen N hN hm hM _ hSl hS];simp only [zP];by_cases c1:0 < t[i].2.1
    ·rw [jY c1,zB];have er:PQ m t t[i]=z7g m.2.1 S (fun y=>lk (K7 t) ((y:Int),zz (t[i].2.1-1),())) t[i].2.2.1:=by
      simp only [PQ,c1,Vz,xU,Bool.false_or,eS];rfl
     cases hb:z7g m.2.1 S (fun y=>lk (K7 t) ((y:Int),zz (t[i].2.1-1),())) t[i].2.2.1 with
     | true=>
      simp only [xU,zU]
      exact hw _ ⟨rfl,by rw [Pm,Z3g,Gi];simp [er,hb]⟩
     | false=>
      have:t.all (PQ m t)=false:=by
       rw [Z41];exact ⟨_,ku hi,by simp [er,hb]⟩
      rw [this];rfl
    ·rw [qO c1,zU];refine hw _ ⟨rfl,?_⟩;rw [Pm,Z3g,Gi];simp [PQ,c1]
   ·rintro M w ⟨rfl,Gi⟩;rw [Qi] at Gi;simp only [UA];rw [zV,zU,Gi,Rb N hm];simp only [WQ,zP,Uk eqK,look]
    cases lk (K7 t) ((Zq n:Int),k,()) with
    | none=>rfl
    | some v=>
     simp only [Z4q,xU,zU,Z2h,zP];by_cases hb:b < v <;> simp [hb]
 ·have e1:decide (4096 < len t)=true:=by simp [len];omega
  rw [e1,zB,qZ hl]
end Go.Kz
namespace Go.Kz
theorem Sm {R:Type} (x:Option R):qQ [x,x]=x:=by simp [qQ]
theorem Nb {R:Type} {I:Type} {f:I->Option R} {r:Option R}:{l:List I}->l≠[]->(∀ x∈l,f x=r)->Dc f l=r
 | [],h,_=>absurd rfl h
 | a :: l,_,h=>by
  have ha:=h a (by simp);simp only [Dc];rw [yQ (fun b hb=>(h b (by simp [hb])).trans ha.symm)];exact ha
theorem L0 {I Z:Type} {f g:I->Option Z}:{l:List I}->(∀ x∈l,f x=g x)->l.filterMap f=l.filterMap g
 | [],_=>rfl
 | x :: l,h=>by simp only [List.filterMap_cons,h x (by simp),L0 (l:=l) (fun y hy=>h y (by simp [hy]))]
theorem X0 {x y:jI}:p6 x y=true↔y.2.1 < x.2.1\/(x.2.1=y.2.1/\x.1 < y.1):=by
 unfold p6;split
 ·rename_i h;simp only [yR];omega
 ·simp only [yR];omega
theorem NH {x y:jI}:p6 x y=false↔¬ (y.2.1 < x.2.1\/(x.2.1=y.2.1/\x.1 < y.1)):=by rw [<-X0];simp
theorem Tc (x y:jI) (h:¬ (x.1=y.1/\x.2.1=y.2.1)):p6 x y=true\/p6 y x=true:=by rw [X0,X0];omega
theorem Fe (p:jI->Prop):Gu p6 p where
 irrefl:=fun x _=>by rw [NH];omega
 trans:=fun x y z _ _ _ h1 h2=>by rw [X0] at *;omega
 ntrans:=fun x y z _ _ _ h1 h2=>by rw [NH] at *;omega
def H6 (l:List jI):Prop:=∀ x∈l,∀ y∈l,x.1=y.1->x.2.1=y.2.1->x=y
def Pp (l:List jI):List jI:=Ag p6 l
theorem MC {l m:List jI} (hk:H6 l) (h:l.Perm m):Pp l=Pp m:=by
 refine BU (lt:=p6) (fun x y hx hy h1 h2=>?_) (((k9 p6 l).trans h).trans (k9 p6 m).symm) (Qv (Fe fun _=>True) l fun _ _=>trivial) (Qv (Fe fun _=>True) m fun _ _=>trivial);have Gh:=(k9 p6 l).mem_iff.1 hx;have hy':=(k9 p6 l).mem_iff.1 hy;rw [NH] at h1 h2;exact hk x Gh y hy' (by omega) (by omega)
theorem zjr (N:Nat) (hN:3<=N):Pc (gh fun x y:jI=>f104 N x y)=p6:=by
 funext x y;have:gh (fun x y:jI=>f104 N x y) x y=z2a x y:=by
  simp only [gh,FB N hN];rfl
 simp only [Pc,this];have h:=OY x y
 cases hb:p6 x y with
 | true=>rw [hb] at h;simp only [xU,u7] at h;simp;omega
 | false=>rw [hb] at h;simp only [Z2t,yR] at h;simp;omega
theorem zdv (N:Nat) (hN:3<=N) {l:List jI} (hk:H6 l) (hl:l.length < 4611686018427387904):f269 N () l=some (((),()),(Pp l,())):=by
 have IX:Gu (Pc (gh fun x y:jI=>f104 N x y)) (·∈l):=by rw [zjr N hN];exact Fe _
 have hB:Mb (fun x y:jI=>f104 N x y) l=true:=zbh IX fun x _ y _=>by rw [FB N hN];rfl
 have hS:zb9 (DB (.pair (.int .i64) (.pair (.int .i64) (.pair (.int .i64) .unit)))) (Pc (gh fun x y:jI=>f104 N x y)) l=true:=by
  unfold zb9;rw [Ze];intro x hx;rw [Ze];intro y hy;rw [zjr N hN];by_cases h:x.1=y.1/\x.2.1=y.2.1
  ·have he:=hk x hx y hy h.1 h.2;subst he;have:=xQ (.pair (.int .i64) (.pair (.int .i64) (.pair (.int .i64) .unit))) x;rw [this];simp
  ·have:p6 x y=true\/p6 y x=true:=Tc x y h;rcases this with h | h <;> simp [h]
 unfold f269 HD;rw [hB,hS,show Nat.blt l.length 4611686018427387904=true from by rw [Z32];exact hl,zjr N hN];rfl
abbrev BT:=List (Key×Int)
def back (m:gC) (g:List (List Int)) (M:BT):((gC×(List (List Int)×(Unit×Unit)))×(BT×Unit)):=((m,(g,((),()))),(M,()))
theorem z6g (N k:Nat) (m:gC) (g:List (List Int)) (M:BT) {p:Key} {v:Int} (h:lk M p=some v) (h0:0<=v):z6h N (k+1) p m g M=some (((),(v,())),back m g M):=by
 show RB N (z6h N k) p m g M=_;unfold RB;simp only [Uk eqK,h,Z2h];rw [jY h0,zB];rfl
def wA (e:Key×Int):jI:=(e.1.1,e.1.2.1,e.2,())
theorem Xy:(n:Nat)->upto n=(List.range n).map fun (i:Nat)=>(i:Int)
 | 0=>rfl
 | n+1=>by simp [upto,Xy n,Tf]
def Ns (M:BT):Prop:=(M.map Prod.fst).Nodup
theorem OC:{M:BT}->Ns M->∀ {i:Nat} (hi:i < M.length),lk M (M[i].1)=some M[i].2
 | (k,v) :: M,hd,0,_=>by simp [lk]
 | (k,v) :: M,hd,i+1,hi=>by
  have hd':(k∉M.map Prod.fst)/\Ns M:=by simpa [Ns] using hd
  have wT:i < M.length:=by simpa using hi
  have je:¬ M[i].1=k:=fun he=>hd'.1 (by rw [<-he];exact Gq.2 ⟨_,ku wT,rfl⟩)
  simp only [Z3i,lk,qZ je];exact OC hd'.2 wT
theorem DP (N:Nat) (hN:5000 < N) {R:Type} (m:gC) (g:List (List Int)) (M:BT) (hd:Ns M) (hM:z84 M) (hl:M.length<=4096) (K:gC->List (List Int)->BT->List jI->Option R) (r:List jI->Option R)
  (hK:∀ a b:List jI,a.Perm b->(b.Perm (M.map wA))->K m g M a=r b) :
  ∀ (n F:Nat) (left:List Nat) (o2:List jI) (j:Int),left.length=n->n < F->left.Nodup->(∀ i∈left,i < M.length)->(o2++left.filterMap (fun i=>M[i]?.map wA)).Perm (M.map wA)->
   iter (fun w=>KR ES N (len M) w K) F (m,g,M,o2,left.map (fun (i:Nat)=>(i:Int)),j)=r (o2++left.filterMap (fun i=>M[i]?.map wA))
 | 0,F,left,o2,j,hn,hF,hnd,qx,hp=>by
  obtain ⟨F,rfl⟩:∃ f,F=f+1:=⟨F-1,by omega⟩;have:left=[]:=Z27 hn;subst this;simp only [iter,KR,Z28,YB,List.filterMap_nil,Di];rw [zf (by simp)];simp only [List.filterMap_nil,Di] at hp
  exact hK _ _ (Z31 _) hp
 | n+1,F,left,o2,j,hn,hF,hnd,qx,hp=>by
  obtain ⟨F,rfl⟩:∃ f,F=f+1:=⟨F-1,by omega⟩;have je:left≠[]:=by intro h;subst h;simp at hn
  have hol:o2.length<=4096:=by
   have:=hp.length_eq;simp at this;omega
  simp only [iter,KR];rw [zf (by simp)]
  have Od:∃ x l,left=x :: l:=by cases left with
   | nil=>exact absurd rfl je
   | cons x l=>exact ⟨x,l,rfl⟩
  obtain ⟨x0,l0,hx0⟩:=Od;have UQ:∀ (done:Option R) (f:Int->List Int->Option R),YB (left.map fun (i:Nat)=>(i:Int)) done f=Dc (fun j'=>f j' ((left.map fun (i:Nat)=>(i:Int)).filter fun i=>!decide (i=j'))) (left.map fun (i:Nat)=>(i:Int)):=by
   intro done f;rw [hx0];rfl
  rw [UQ];refine Nb (by rw [hx0];simp) fun jj hjj=>?_
  obtain ⟨i,hi,rfl⟩:=Gq.1 hjj;have Hv:=qx i hi;have hlk:=OC hd Hv;have hb:=hM _ _ hlk;rw [zg Hv];simp only [zP];rw [zf (by simp)];simp only [ES];obtain ⟨N',rfl⟩:∃ k,N=k+1:=⟨N-1,by omega⟩;have h53:f185 (N'+1) M[i].1 m g M=some (((),(M[i].2,())),back m g M):=z6g (N'+1) N' m g M hlk hb.1;rw [h53];simp only [zP,back];rw [LV (by omega)];have q1o:((left.map fun (i:Nat)=>(i:Int)).filter fun k=>!decide (k=(i:Int)))=(left.erase i).map fun (i:Nat)=>(i:Int):=by
   rw [hnd.erase_eq_filter,List.filter_map];have he:((fun k:Int=>!decide (k=(i:Int))) ∘ fun (i:Nat)=>(i:Int))=fun x=>x != i:=by
    funext k;rw [Rt];simp;omega
   rw [he]
  rw [q1o];have hpe:=List.perm_cons_erase hi;have z4p:(o2++left.filterMap (fun i=>M[i]?.map wA)).Perm ((o2++[(M[i].1.1,(M[i].1.2.1,(M[i].2,())))])++(left.erase i).filterMap (fun i=>M[i]?.map wA)):=by
   rw [Gj];refine List.Perm.append_left _ ?_;have:=hpe.filterMap (fun i=>M[i]?.map wA);rw [List.filterMap_cons,wP Hv] at this;exact this
  have ih:=DP (N'+1) hN m g M hd hM hl K r hK n F (left.erase i) (o2++[(M[i].1.1,(M[i].1.2.1,(M[i].2,())))]) (i:Int) (by rw [List.length_erase_of_mem hi];omega) (by omega) (hnd.erase i) (fun k hk=>qx k (List.mem_of_mem_erase hk)) (z4p.symm.trans hp);rw [ih];have h1:=hK _ _ (Z31 _) (z4p.symm.trans hp);have h2:=hK _ _ z4p.symm hp;rw [<-h1,<-h2]
 termination_by n=>n
theorem TJ {M:BT} (hd:Ns M):H6 (M.map wA):=by
 intro x hx y hy h1 h2;obtain ⟨a,ha,rfl⟩:=Gq.1 hx;obtain ⟨b,hb,rfl⟩:=Gq.1 hy;obtain ⟨i,hi,rfl⟩:=Jo.1 ha;obtain ⟨j,hj,rfl⟩:=Jo.1 hb;have Mw:=OC hd hi;have hkj:=OC hd hj;have e:M[i].1=M[j].1:=by
  simp only [wA] at h1 h2;generalize M[i].1=p at *;generalize M[j].1=q at *;obtain ⟨a,b,u⟩:=p;obtain ⟨c,d,v⟩:=q;simp only at h1 h2;subst h1;subst h2;rfl
 rw [e,hkj] at Mw;simp only [zI] at Mw;simp only [wA,e,Mw]
theorem ze7 (N:Nat) (hN:5000 < N) (m:gC) (g:List (List Int)) (M:BT) (hd:Ns M) (hM:z84 M) (hl:M.length<=4096) :
  f188 N m g M=some (((),((),())),((m,(g,((),()))),(M,(Pp (M.map wA),())))):=by
 have Mw:=TJ hd;unfold f188 z6e;rw [Xy];have wk:(List.range M.length).filterMap (fun i=>M[i]?.map wA)=M.map wA:=by
  have:∀ (L:List (Key×Int)),(List.range L.length).filterMap (fun i=>L[i]?.map wA)=L.map wA:=by
   intro L
   induction L using Uz with
   | h0=>rfl
   | h1 L x ih=>
    rw [VH,Z36,Tf,List.filterMap_append,Z2e,<-ih];congr 1
    ·apply L0;intro i hi;rw [Z3w (Z21.1 hi)]
    ·simp
  exact this M
 have:=DP N hN m g M hd hM hl (fun jO YU wq vq=>(f269 N () vq).bind fun ub=>some (((),((),())),((jO,(YU,((),()))),(wq,(ub.2.1,())))))
  (fun b=>some (((),((),())),((m,(g,((),()))),(M,(Pp b,())))))
  (fun a b Jq hb=>by
   have hka:H6 a:=fun x hx y hy=>Mw x ((Jq.trans hb).mem_iff.1 hx) y ((Jq.trans hb).mem_iff.1 hy)
   have hla:a.length=M.length:=by have:=(Jq.trans hb).length_eq;simpa using this
   rw [zdv N (by omega) hka (by omega),MC hka Jq];rfl)
  M.length N (List.range M.length) [] (-1) (by simp) (by omega) List.nodup_range (fun i hi=>Z21.1 hi) (by rw [wk];exact Z31 _)
 rw [wk,QP] at this;exact this
end Go.Kz
namespace Go.Kz
theorem MU {n a:Nat} (x:Int) (h:a < n):qh n (fun i=>if a=i then x else 0)=x:=by
 refine (jP fun i _=>?_).trans (Sd x h);by_cases hi:i=a
 ·subst hi;rfl
 ·rw [qZ hi,qZ (fun e=>hi e.symm)]
theorem xO (g:List (List Int)) {n:Nat} {P Q:Nat->Bool} (h:∀ s,s < n->P s=Q s):jb g n P=jb g n Q:=by
 have:∀ row,Wd row n P=Wd row n Q:=fun row=>jP fun s hs=>by rw [h s hs]
 simp only [jb,this]
theorem Vn (g:List (List Int)) {n:Nat} {P:Nat->Bool} (h:∀ s,s < n->P s=false):jb g n P=0:=by
 have:∀ row,Wd row n P=0:=fun row=>(jP fun s hs=>by rw [h s hs];rfl).trans (pv n)
 simp only [jb,this]
 induction g with
 | nil=>rfl
 | cons a g ih=>simpa using ih
theorem Is {I:Type} (h:I->Int):(l:List I)->(b:Int)->b<=l.foldl (fun b x=>max b (h x)) b
 | [],_=>Z30 _
 | x :: l,b=>by
  have:=Is h l (max b (h x));simp only [Z26];omega
theorem Ir {I:Type} (h:I->Int):{l:List I}->{b B:Int}->b<=B->(∀ x∈l,h x<=B)->l.foldl (fun b x=>max b (h x)) b<=B
 | [],_,_,hb,_=>hb
 | a :: l,b,B,hb,hl=>by
  simp only [Z26];have:=hl a (by simp);exact Ir h (by omega) fun x hx=>hl x (by simp [hx])
theorem Kq (g:List (List Int)) (n:Nat) (P:Nat->Bool):0<=jb g n P:=Is _ g 0
def jl {τ:Type} [DecidableEq τ] (P:Nat->Bool) (f:Nat->τ) (s:Nat):Bool:=P s && (List.range s).all fun r=>!(P r && decide (f r=f s))
def Cx {τ:Type} [DecidableEq τ] (P:Nat->Bool) (f:Nat->τ) (s:Nat):Nat->Bool:=fun r=>P r && decide (f r=f s)
def WW {τ:Type} [DecidableEq τ] (g:List (List Int)) (n:Nat) (P:Nat->Bool) (f:Nat->τ):Int:=qh n fun s=>if jl P f s then jb g n (Cx P f s) else 0
theorem KV {τ τ':Type} [DecidableEq τ] [DecidableEq τ'] {P Q:Nat->Bool} {f:Nat->τ} {f':Nat->τ'} {s:Nat} (hP:P s=Q s) (h:∀ r,r < s->(P r && decide (f r=f s))=(Q r && decide (f' r=f' s))):jl P f s=jl Q f' s:=by
 simp only [jl,hP];congr 1;rw [Rt];simp only [BH,Z21];constructor
 ·intro H r hr;rw [<-h r hr];exact H r hr
 ·intro H r hr;rw [h r hr];exact H r hr
theorem BO {τ τ':Type} [DecidableEq τ] [DecidableEq τ'] (g:List (List Int)) {n:Nat} {P Q:Nat->Bool} {f:Nat->τ} {f':Nat->τ'} (hP:∀ s,s < n->P s=Q s) (hf:∀ r s,r < n->s < n->P r=true->P s=true->(f r=f s↔f' r=f' s)):WW g n P f=WW g n Q f':=by
 refine jP fun s hs=>?_
 cases hp:P s with
 | false=>
  have h1:jl P f s=false:=by simp [jl,hp]
  have h2:jl Q f' s=false:=by simp [jl,<-hP s hs,hp]
  rw [h1,h2]
  rfl
 | true=>
  have key:∀ r,r < n->(P r && decide (f r=f s))=(Q r && decide (f' r=f' s)):=by
   intro r hr;rw [<-hP r hr]
   cases hq:P r with
   | false=>simp
   | true=>simp [hf r s hr hs hq hp]
  rw [KV (hP s hs) (fun r hr=>key r (by omega)),xO g (P:=Cx P f s) (Q:=Cx Q f' s) key]
theorem z81 {τ:Type} [DecidableEq τ] (g:List (List Int)) {n:Nat} {P:Nat->Bool} {f:Nat->τ} (v:Nat->Nat) (K:Nat) (hv:∀ s,s < n->P s=true->v s < K) (hf:∀ r s,r < n->s < n->P r=true->P s=true->f r=f s->v r=v s) :
  WW g n P f=qh K fun c=>WW g n (fun s=>P s && decide (v s=c)) f:=by
 unfold WW;rw [Xx];refine jP fun s hs=>?_
 cases hp:P s with
 | false=>
  rw [show jl P f s=false from by simp [jl,hp]];have:∀ c,jl (fun s=>P s && decide (v s=c)) f s=false:=fun c=>by simp [jl,hp]
  simp only [this]
  simp [pv]
 | true=>
  have WX:=hv s hs hp;have key:∀ r,r < n->Cx (fun s'=>P s' && decide (v s'=v s)) f s r=Cx P f s r:=by
   intro r hr;simp only [Cx]
   cases hq:P r with
   | false=>simp
   | true=>
    by_cases he:f r=f s
    ·have:=hf r s hr hs hq hp he;simp [he,this]
    ·simp [he]
  have hall:∀ c,(if jl (fun s'=>P s' && decide (v s'=c)) f s then jb g n (Cx (fun s'=>P s' && decide (v s'=c)) f s) else 0)=if v s=c then (if jl P f s then jb g n (Cx P f s) else 0) else 0:=by
   intro c;by_cases hc:v s=c
   ·subst hc;rw [yQ rfl,xO g key,KV (P:=fun s'=>P s' && decide (v s'=v s)) (Q:=P) (f':=f) (by simp [hp]) (fun r hr=>key r (by omega))]
   ·rw [qZ hc];have:jl (fun s'=>P s' && decide (v s'=c)) f s=false:=by simp [jl,hc]
    rw [this];rfl
  simp only [hall];rw [MU _ WX]
theorem CM (P:Nat->Bool) (x:Int):(n:Nat)->qh n (fun s=>if (P s && (List.range s).all fun r=>!P r) then x else 0)=if (List.range n).any P then x else 0
 | 0=>rfl
 | n+1=>by
  simp only [qh];rw [CM P x n];have e:(List.range (n+1)).any P=((List.range n).any P || P n):=by simp [Tf]
  have e2:((List.range n).all fun r=>!P r) = !(List.range n).any P:=by simp [List.all_eq_not_any_not]
  rw [e,e2];cases (List.range n).any P <;> cases P n <;> simp
theorem BN {τ:Type} [DecidableEq τ] (g:List (List Int)) {n:Nat} {P:Nat->Bool} {f:Nat->τ} (hc:∀ r s,r < n->s < n->P r=true->P s=true->f r=f s):WW g n P f=jb g n P:=by
 have h:WW g n P f=qh n (fun s=>if (P s && (List.range s).all fun r=>!P r) then jb g n P else 0):=by
  refine jP fun s hs=>?_
  cases hp:P s with
  | false=>simp [jl,hp]
  | true=>
   have key:∀ r,r < n->(P r && decide (f r=f s))=P r:=by
    intro r hr
    cases hq:P r with
    | false=>simp
    | true=>simp [hc r s hr hs hq hp]
   have h1:jl P f s=(P s && (List.range s).all fun r=>!P r):=by
    simp only [jl];congr 1;rw [Rt];simp only [BH,Z21];constructor
    ·intro H r hr;rw [<-key r (by omega)];exact H r hr
    ·intro H r hr;rw [key r (by omega)];exact H r hr
   rw [h1,hp,xO g (P:=Cx P f s) (Q:=P) key]
 rw [h,CM]
 cases ha:(List.range n).any P with
 | true=>rfl
 | false=>
  rw [Vn g]
  ·rfl
  ·intro s hs
   cases hp:P s with
   | false=>rfl
   | true=>
    have:(List.range n).any P=true:=List.any_eq_true.2 ⟨s,Z21.2 hs,hp⟩;rw [this] at ha;exact absurd ha (by simp)
def zb6 (v:List Int) (S:Nat) (h:Nat->Int):Int:=qh (uU v) fun c=>if part v S c=0 then 0 else h (part v S c)
theorem Se {v:List Int} {S:Nat} {h h':Nat->Int} (H:∀ c,c < uU v->part v S c≠0->h (part v S c)<=h' (part v S c)):zb6 v S h<=zb6 v S h':=
 VO fun c hc=>by
  split
  ·exact Z30 _
  ·exact H c hc (by assumption)
theorem D5 {n:Nat} {v:List Int} (h:View n v) (S c:Nat) {s:Nat} (hs:s < n):(part v S c).testBit s=(S.testBit s && decide ((v.getD s 0).toNat=c)):=by
 have hl:=h.len;obtain ⟨d,_,_,hd⟩:=FT h (s:=s) (by omega);rw [z29,hd];have:decide (s < v.length)=true:=by simp;omega
 rw [this,LM];congr 1;rw [Rt];simp only [yR];omega
theorem z73 {n:Nat} {v:List Int} (h:View n v) {s:Nat} (hs:s < n):(v.getD s 0).toNat < uU v:=by
 have hl:=h.len;obtain ⟨d,_,h2,hd⟩:=FT h (s:=s) (by omega);rw [hd];simpa using h2
theorem z71 {n:Nat} {v:List Int} (h:View n v) {s:Nat} (hs:s < n):0<=v.getD s 0:=by
 have hl:=h.len;obtain ⟨d,_,h2,hd⟩:=FT h (s:=s) (by omega);rw [hd];omega
theorem zfc {τ:Type} [DecidableEq τ] (g:List (List Int)) (n:Nat) (f:Nat->τ):WW g n (0:Nat).testBit f=0:=by
 rw [BN g (by intro r s _ _ h;simp at h)];exact Vn g (by simp)
theorem z83 {τ:Type} [DecidableEq τ] (g:List (List Int)) {n:Nat} {v:List Int} (hv:View n v) (S:Nat) (f:Nat->τ) (hf:∀ r s,r < n->s < n->S.testBit r=true->S.testBit s=true->f r=f s->v.getD r 0=v.getD s 0) :
  WW g n S.testBit f=zb6 v S fun y=>WW g n y.testBit f:=by
 rw [z81 g (P:=S.testBit) (f:=f) (fun s=>(v.getD s 0).toNat) (uU v) (fun s hs _=>z73 hv hs) (fun r s hr hs h1 h2 h3=>by rw [hf r s hr hs h1 h2 h3])];refine jP fun c hc=>?_
 have e:WW g n (fun s=>S.testBit s && decide ((v.getD s 0).toNat=c)) f=WW g n (part v S c).testBit f:=BO g (fun s hs=>(D5 hv S c hs).symm) (fun r s _ _ _ _=>Iff.rfl);rw [e];split
 ·rename_i h0;rw [h0,zfc]
 ·rfl
theorem z27 {n:Nat} {v:List Int} (hv:View n v) (S c:Nat):part v S c < 2 ^ n:=by
 have:=zbg v S c
 rwa [hv.len] at this
end Go.Kz
namespace Go.Kz
def runT (vs:List (List Int)) (st:List Choice):Nat->Int->Nat->List Ans
 | 0,_,_=>[]
 | k+1,Zm,x=>if Zm < 0 then [] else match st[Zm.toNat]? with
  | none=>[]
  | some c=>(c.1,((vs.getD c.1.toNat []).getD x 0,())) :: runT vs st k (c.2.1.getD ((vs.getD c.1.toNat []).getD x 0).toNat (-1)) x
def Xo (len i:Nat) (z:Int):Bool:=decide (z = -1) || (decide ((i:Int) < z) && decide (z < (len:Int)))
def EE (vs:List (List Int)) (len i:Nat) (c:Choice):Bool:=decide (0<=c.1) && decide (c.1 < (vs.length:Int)) && decide (c.2.1.length=uU (vs.getD c.1.toNat [])) && c.2.1.all (Xo len i)
def Pq (vs:List (List Int)) (st:List Choice):Prop:=∀ i (h:i < st.length),EE vs st.length i st[i]=true
structure zu1 (vs:List (List Int)) (len i:Nat) (c:Choice) (n:Nat):Prop where
 q4c:0<=c.1
 zte:c.1.toNat < vs.length
 next:c.2.1.length=uU (vs.getD c.1.toNat [])
 to:∀ d,d < c.2.1.length->c.2.1.getD d (-1) = -1\/((i:Int) < c.2.1.getD d (-1)/\c.2.1.getD d (-1) < (len:Int))
 mem:vs.getD c.1.toNat []∈vs
theorem Pq.node {vs:List (List Int)} {st:List Choice} (h:Pq vs st) (n:Nat) {i:Nat} (hi:i < st.length):zu1 vs st.length i st[i] n:=by
 have h1:=h i hi;simp only [EE,zA,yR] at h1;obtain ⟨⟨⟨a,b⟩,c⟩,d⟩:=h1;have hl:st[i].1.toNat < vs.length:=by omega
 refine ⟨a,hl,c,fun e he=>?_,?_⟩
 ·have:=BH.1 d _ (ku he);simp only [Xo,Df,zA,yR] at this;rw [VF,wP he];exact this
 ·rw [VF,wP hl];exact ku hl
theorem CO:{l:List (Option Int)}->{s:Int}->Zk l=some s->(∀ x∈l,∃ a,x=some a)/\s=(l.map fun x=>x.getD 0).foldr (· + ·) 0
 | [],s,h=>by simp only [Zk,zI] at h;subst h;simp
 | x :: l,s,h=>by
  simp only [Zk] at h
  cases x with
  | none=>simp at h
  | some a=>
   cases hl:Zk l with
   | none=>rw [hl] at h;simp at h
   | some t=>
    rw [hl] at h;simp only [zP,Z23,zI] at h;obtain ⟨h1,h2⟩:=CO hl;refine ⟨fun y hy=>?_,?_⟩
    ·rcases pK.1 hy with rfl | hy
     ·exact ⟨a,rfl⟩
     ·exact h1 y hy
    ·simp only [WY,Z2h,Z5e,<-h2,h]
theorem PC (f:Nat->Int):(n:Nat)->((List.range n).map f).foldr (· + ·) 0=qh n f
 | 0=>rfl
 | n+1=>by
  have e:∀ (l:List Int) (b:Int),l.foldr (· + ·) b=l.foldr (· + ·) 0+b:=by
   intro l b
   induction l with
   | nil=>simp
   | cons x l ih=>simp only [Z5e,ih];omega
  simp only [Tf,Z2e,WY,Z28,List.foldr_append,Z5e,List.foldr_nil];rw [e,PC f n];simp only [qh];omega
theorem Sb {v:List Int} {S:Nat} {h:Nat->Option Int} {s:Int} (hs:Sc v S h=some s):(∀ c,c < uU v->part v S c≠0->∃ a,h (part v S c)=some a)/\s=zb6 v S fun y=>(h y).getD 0:=by
 obtain ⟨h1,h2⟩:=CO hs;refine ⟨fun c hc hp=>?_,?_⟩
 ·have:=h1 _ (Gq.2 ⟨c,Z21.2 hc,rfl⟩)
  rwa [qZ hp] at this
 ·rw [h2,Z4d,PC];refine jP fun c _=>?_
  simp only [Function.comp];split <;> rfl
structure z89 (m:gC) (g:List (List Int)) (n:Nat) (t:List jI):Prop where
 ent:∀ x∈t,xd g n x=true
 rel:∀ x∈t,PQ m t x=true
theorem Ip {t:List jI} {S l v:Int} (h:look t S l=some v):∃ x∈t,x.1=S/\x.2.1=l/\x.2.2.1=v:=by
 have:=EI h;simp only [K7,Gq] at this;obtain ⟨x,hx,he⟩:=this;simp only [gP] at he;exact ⟨x,hx,he.1.1,he.1.2.1,he.2⟩
theorem zj2 {m:gC} {g:List (List Int)} {k:Int} {t:List jI} {b:Int} (h:EG m g k t b=0):LX m g k=true/\z89 m g m.1.toNat t/\∃ v,look t (Zq m.1.toNat) k=some v/\v<=b:=by
 unfold EG at h;split at h
 ·rename_i ha;split at h
  ·split at h
   ·split at h
    ·rename_i he;split at h
     ·rename_i hr;refine ⟨ha,⟨fun x hx=>BH.1 he x hx,fun x hx=>BH.1 hr x hx⟩,?_⟩;split at h
      ·exact absurd h (by decide)
      ·rename_i v hv;refine ⟨v,hv,?_⟩;split at h
       ·exact absurd h (by decide)
       ·omega
     ·exact absurd h (by decide)
    ·exact absurd h (by decide)
   ·exact absurd h (by decide)
  ·exact absurd h (by decide)
 ·exact absurd h (by decide)
theorem Cf {m:gC} {g:List (List Int)} {n:Nat} {t:List jI} (hm:Ds m n) (ht:z89 m g n t) {st:List Choice} (zy:Pq m.2.1 st) :
  ∀ (k:Nat) (Zm:Int) (l S:Nat) (v:Int),(Zm = -1\/(0<=Zm/\Zm < st.length))->S < 2 ^ n->S≠0->l<=8->(∀ s,s < n->S.testBit s=true->(runT m.2.1 st k Zm s).length<=l)->look t (S:Int) (l:Int)=some v->
   WW g n S.testBit (runT m.2.1 st k Zm)<=v:=by
 intro k
 induction k with
 | zero=>
  intro Zm l S v _ _ _ _ _ hv;rw [BN g (by intro r s _ _ _ _;rfl)];obtain ⟨x,hx,h1,h2,h3⟩:=Ip hv;have:=ZT.1 (ht.ent x hx);rw [h1,h3,LL] at this
  exact this.2.2.2.1
 | succ k ih=>
  intro Zm l S v ha hS h0 hl8 hl hv;obtain ⟨x,hx,h1,h2,h3⟩:=Ip hv;have Ps:=ZT.1 (ht.ent x hx);rw [h1,h3,LL] at Ps;by_cases zrg:Zm < 0
  ·rw [BN g (by intro r s _ _ _ _;simp [runT,zrg])];exact Ps.2.2.2.1
  ·have hi:Zm.toNat < st.length:=by omega
   have J9:=zy.node n hi;have AQ:View n (m.2.1.getD st[Zm.toNat].1.toNat []):=hm.view _ J9.mem;generalize hu:m.2.1.getD st[Zm.toNat].1.toNat []=u at *;have zc:∀ s,runT m.2.1 st (k+1) Zm s=(st[Zm.toNat].1,(u.getD s 0,())) :: runT m.2.1 st k (st[Zm.toNat].2.1.getD (u.getD s 0).toNat (-1)) s:=by
    intro s;simp only [runT,qZ zrg,wP hi,hu]
   obtain ⟨s0,hs0,hb0⟩:∃ s,s < n/\S.testBit s=true:=by
    apply Z5f;intro UY;apply h0;apply Nat.eq_of_testBit_eq;intro i;rw [Nat.zero_testBit];by_cases hi:i < n
    ·cases hb:S.testBit i with
     | false=>rfl
     | true=>exact absurd ⟨i,hi,hb⟩ UY
    ·exact Z5d (Z2o hS (Z3j (by omega) (by omega)))
   have DY:=hl s0 hs0 hb0;rw [zc] at DY;simp only [Vy] at DY;have Gi:=ht.rel x hx;simp only [PQ,Df,PO,u7,h1,h2,h3,LL] at Gi;rcases Gi with Gi | Gi
   ·omega
   ·have hb:=BH.1 Gi u (hu ▸ J9.mem)
    cases hs:Sc u S (z34 t x) with
    | none=>rw [hs] at hb;exact absurd hb (by simp)
    | some s'=>
     rw [hs] at hb;simp only [yR] at hb;obtain ⟨p1,p2⟩:=Sb hs;refine Int.le_trans ?_ hb;rw [p2,z83 g AQ S _ (fun r s _ _ _ _ he=>by
      rw [zc,zc] at he;simp only [BL,gP] at he;exact he.1.2.1)]
     refine Se fun c hc hp=>?_
     obtain ⟨a,ha2⟩:=p1 c hc hp;rw [ha2,Z2h];have z5j:∀ s,s < n->(part u S c).testBit s=true->(u.getD s 0).toNat=c/\S.testBit s=true:=by
      intro s WA hb;rw [D5 AQ S c WA] at hb;simp only [zA,yR] at hb;exact ⟨hb.2,hb.1⟩
     have hw:WW g n (part u S c).testBit (runT m.2.1 st (k+1) Zm)=WW g n (part u S c).testBit (runT m.2.1 st k (st[Zm.toNat].2.1.getD c (-1))):=by
      refine BO g (fun _ _=>rfl) fun r s hr WA b1 b2=>?_
      obtain ⟨c1,_⟩:=z5j r hr b1;obtain ⟨c2,_⟩:=z5j s WA b2;have e:u.getD r 0=u.getD s 0:=by have:=z71 AQ hr;have:=z71 AQ WA;omega
      rw [zc,zc,c1,c2,e];simp
     rw [hw];have gE:c < st[Zm.toNat].2.1.length:=by rw [J9.next,hu];exact hc
     refine ih _ (l-1) _ a ?_ (z27 AQ S c) hp (by omega) ?_ ?_
     ·rcases J9.to c gE with h | h
      ·exact .inl h
      ·exact .inr ⟨by omega,h.2⟩
     ·intro s WA b1;obtain ⟨c1,c2⟩:=z5j s WA b1;have:=hl s WA c2;rw [zc,c1] at this;simp only [Vy] at this;omega
     ·simp only [z34,h2] at ha2;rw [zw (by omega) (by omega)] at ha2;rw [<-ha2];congr 1;omega
end Go.Kz
namespace Go.Kz
theorem z2p {I:Type} [DecidableEq I] {n:Nat} {l:List I} (h:l.length=n):View n (PJ l):=⟨by rw [gN,h],EB l⟩
theorem z2r {I:Type} [DecidableEq I] {l:List I} {i j:Nat} (hi:i < l.length) (hj:j < l.length):(PJ l).getD i 0=(PJ l).getD j 0↔l[i]=l[j]:=by
 have:=z2q hi hj;rw [VF,VF,wP (by rw [gN];exact hi),wP (by rw [gN];exact hj)];exact this
theorem z7q {m:gC} {g:List (List Int)} {k:Int}:LX m g k=true↔pZ m=true/\Z8 g m.1=true/\0<=k/\k<=8:=by
 simp [LX,and_assoc]
theorem zeh (N:Nat) (l:List Int) (h:l.length<=1000):f123 N l=some l:=by
 have kT:room=4294967296:=rfl;unfold f123;rw [zf (by rw [yR,kT];omega)]
end Go.Kz
namespace Go.Kz
abbrev qY:=List UInt8×(Int×(Int×(Int×(Int×Unit))))
abbrev Dm:=Int×(Int×(List Tm×Unit))
abbrev CW:=List UInt8×(Int×(Int×(Dm×Unit)))
abbrev zh:=List qY×(List CW×(List Sp×Unit))
@[reducible] def gD (x:Tm):Dm:=(x.op,(x.n,(x.kids,())))
@[reducible] def FN (t:Dm):Tm:=⟨t.1,t.2.1,t.2.2.1⟩
theorem Re (x:Tm):FN (gD x)=x:=by cases x;rfl
mutual
def Zv:Tm->Nat
 | ⟨_,_,ks⟩=>1+uP ks
def uP:List Tm->Nat
 | []=>0
 | k :: ks=>Zv k+uP ks
end
mutual
def ssz:Sp->Nat
 | ⟨_,_,_,_,t,a,b,l⟩=>1+Zv t+yS a+yS b+l.length
def yS:List Sp->Nat
 | []=>0
 | s :: l=>ssz s+yS l
end
theorem uq (x:Tm):Zv x=1+uP x.kids:=by cases x;simp only [Zv]
theorem yX (x:Tm):1<=Zv x:=by rw [uq];omega
theorem kF (x:Sp):ssz x=1+Zv x.term+yS x.j4+yS x.uQ+x.bounds.length:=by cases x;simp only [ssz]
theorem wa:∀ {l:List Tm} {x:Tm},x∈l->Zv x<=uP l
 | y :: l,x,h=>by
  simp only [uP];rcases pK.1 h with rfl | h
  ·omega
  ·have:=wa h;omega
theorem kO:∀ (l:List Tm),l.length<=uP l
 | []=>by simp
 | y :: l=>by
  have:=kO l;have:=yX y;simp only [uP,Vy];omega
theorem Qn {l:List Tm} {k:Nat} (h:k < l.length):uP (l.take (k+1))=uP (l.take k)+Zv l[k]:=by
 induction l generalizing k with
 | nil=>simp at h
 | cons x l ih=>
  cases k with
  | zero=>simp [uP]
  | succ k=>
   have:=ih (k:=k) (by simpa using h);simp only [Z2s,uP,Z3i];omega
theorem E8 (l:List Tm) (k:Nat):uP (l.take k)<=uP l:=by
 induction l generalizing k with
 | nil=>simp [uP]
 | cons x l ih=>
  cases k with
  | zero=>simp [uP]
  | succ k=>have:=ih k;simp only [Z2s,uP];omega
theorem wb:∀ {l:List Sp} {x:Sp},x∈l->ssz x<=yS l
 | y :: l,x,h=>by
  simp only [yS];rcases pK.1 h with rfl | h
  ·omega
  ·have:=wb h;omega
theorem zb8 (x:Sp):2<=ssz x:=by have:=yX x.term;rw [kF];omega
theorem wx:∀ (l:List Sp),2*l.length<=yS l
 | []=>by simp
 | y :: l=>by
  have:=wx l;have:=zb8 y;simp only [yS,Vy];omega
theorem Qt {l:List Sp} {k:Nat} (h:k < l.length):yS (l.take (k+1))=yS (l.take k)+ssz l[k]:=by
 induction l generalizing k with
 | nil=>simp at h
 | cons x l ih=>
  cases k with
  | zero=>simp [yS]
  | succ k=>
   have:=ih (k:=k) (by simpa using h);simp only [Z2s,yS,Z3i];omega
theorem Ew (l:List Sp) (k:Nat):yS (l.take k)<=yS l:=by
 induction l generalizing k with
 | nil=>simp [yS]
 | cons x l ih=>
  cases k with
  | zero=>simp [yS]
  | succ k=>have:=ih k;simp only [Z2s,yS];omega
def Left (left:Int) (n:Nat) (r:Int):Prop:=r<=left-1/\min left 0-1<=r/\(0<=r->r=left-n)
theorem Lg (N:Nat) (hN:200<=N):∀ (M:Nat) (t:Dm) (left:Int),left<=100->-4294967000<=left->left.toNat+2<=M->zx (z6m N M t left) (Left left (Zv (FN t)))
 | 0,t,left,_,_,h=>by omega
 | M+1,t,left,h1,h2,h3=>by
  show zx (RR N (z6m N M) t left) _;unfold RR;rw [zw (by omega) (by omega)];have qC:Zv (FN t)=1+uP t.2.2.1:=by rw [uq]
  refine zx.iter (fun x:Int×Int=>∃ k:Nat,x.1=k/\k<=t.2.2.1.length/\x.2<=left-1-k/\min left 0-1<=x.2/\(0<=x.2->x.2=left-1-uP (t.2.2.1.take k))) (fun x=>(x.2+1).toNat) ?_ N _ ⟨0,rfl,jt _,by simp,by simp only;omega,fun _=>by simp [uP]⟩ (by simp;omega);rintro ⟨i,r⟩ w ⟨k,hi,hk,hr,Kx,pT⟩ hw;simp only at hi hr Kx pT;subst hi;simp only [B6];by_cases qx:k < t.2.2.1.length
  ·rw [zK qx,zB];simp only [zP];by_cases h0:0<=r
   ·rw [jY h0,zB,zg qx];simp only [zP];refine zx.then (Lg N hN M (gD t.2.2.1[k]) r (by omega) (by omega) (by omega)) fun r' UZ=>?_
    obtain ⟨q1,q2,q3⟩:=UZ;rw [zu (by have:=kO t.2.2.1;omega)];refine hw _ ⟨k+1,by simp,qx,by simp only;omega,by simp only;omega,fun h=>?_⟩ (by simp only;omega);have e:=q3 h;have e2:=pT h0;rw [Re] at e;rw [Qn qx];simp only at h ⊢;omega
   ·rw [qO h0,zU];exact zx.ret ⟨by omega,by omega,fun h=>absurd h h0⟩
  ·have hke:k=t.2.2.1.length:=by omega
   have:decide ((k:Int) < len t.2.2.1)=false:=by simp [len];omega
   rw [this,zU];simp only [zP,zU];refine zx.ret ⟨by omega,by omega,fun h=>?_⟩;have e:=pT h;rw [hke,Qi] at e;rw [qC];omega
theorem RO (N:Nat) (hN:200<=N) (t:Dm) (left:Int) (h1:left<=100) (h2 : -4294967000<=left):zx (f151 N t left) (Left left (Zv (FN t))):=
 Lg N hN N t left h1 h2 (by omega)
def zhq (left:Int) (n:Nat) (r:Int):Prop:=r<=left/\((left < 0->r=left)/\(0<=left->-2<=r))/\(0<=r->r=left-n)
theorem B7 (N:Nat) (hN:200<=N):∀ (M:Nat) (l:List Sp) (left:Int),left<=100->-4294967296<=left->left.toNat+1<=M->zx (z6n N M l left) (zhq left (yS l))
 | 0,l,left,_,_,h=>by omega
 | M+1,l,left,h1,h2,h3=>by
  show zx (RT N (z6n N M) l left) _;unfold RT;refine zx.iter (fun x:Int×Int=>∃ k:Nat,x.1=k/\k<=l.length/\((x.2=left/\k=0)\/(0<=left/\-2<=x.2/\x.2<=left-k))/\(0<=x.2->x.2=left-yS (l.take k))) (fun x=>(x.2+1).toNat) ?_ N _ ⟨0,rfl,jt _,.inl ⟨rfl,rfl⟩,fun _=>by simp [yS]⟩ (by simp;omega);rintro ⟨i,r⟩ w ⟨k,hi,hk,hr,pT⟩ hw;simp only at hi hr pT;subst hi;simp only [B8];by_cases qx:k < l.length
  ·rw [zK qx,zB];simp only [zP];by_cases h0:0<=r
   ·rw [jY h0,zB,zg qx];simp only [zP];have hll:=wx (l.take k);rw [P9,Z4i hk] at hll;have e0:=pT h0;rw [zw (by omega) (by omega)];refine zx.then (RO N hN (gD l[k].term) (r-1) (by omega) (by omega)) fun r1 IK=>?_
    obtain ⟨q1,q2,q3⟩:=IK;rw [Re] at q3;by_cases hb:r1 < len l[k].bounds
    ·rw [jY hb,zB];exact zx.ret ⟨by omega,⟨by omega,by omega⟩,fun h=>by omega⟩
    ·rw [qO hb,zU];simp only [len] at hb ⊢;rw [zw (by omega) (by omega)];refine zx.then (B7 N hN M l[k].j4 (r1-(l[k].bounds.length:Int)) (by omega) (by omega) (by omega)) fun r2 Bh=>?_
     obtain ⟨p1,p2,p3⟩:=Bh;refine zx.then (B7 N hN M l[k].uQ r2 (by omega) (by omega) (by omega)) fun r3 hr3=>?_
     obtain ⟨s1,s2,s3⟩:=hr3;rw [zu (by omega)];refine hw _ ⟨k+1,by simp,qx,.inr ⟨by omega,by simp only;omega,by simp only;omega⟩,fun h=>?_⟩ (by simp only;omega);simp only at h ⊢;have a3:=s3 h;have a2:=p3 (by omega);have a1:=q3 (by omega);rw [Qt qx,kF];omega
   ·rw [qO h0,zU];exact zx.ret ⟨by omega,⟨by omega,by omega⟩,fun h=>absurd h h0⟩
  ·have hke:k=l.length:=by omega
   have:decide ((k:Int) < len l)=false:=by simp [len];omega
   rw [this,zU];simp only [zP,zU];refine zx.ret ⟨by omega,⟨by omega,by omega⟩,fun h=>?_⟩;have e:=pT h;rw [hke,Qi] at e;exact e
theorem zeg (N:Nat) (hN:200<=N) (l:List Sp) (left:Int) (h1:left<=100) (h2 : -4294967296<=left):zx (f150 N l left) (zhq left (yS l)):=
 B7 N hN N l left h1 h2 (by omega)
def qC (h:CW):Nat:=Zv (FN h.2.2.2.1)
def xj:List CW->Nat
 | []=>0
 | h :: l=>qC h+xj l
theorem xy:∀ {l:List CW} {x:CW},x∈l->qC x<=xj l
 | y :: l,x,h=>by
  simp only [xj];rcases pK.1 h with rfl | h
  ·omega
  ·have:=xy h;omega
theorem YT {l:List CW} {k:Nat} (h:k < l.length):xj (l.take (k+1))=xj (l.take k)+qC l[k]:=by
 induction l generalizing k with
 | nil=>simp at h
 | cons x l ih=>
  cases k with
  | zero=>simp [xj]
  | succ k=>
   have:=ih (k:=k) (by simpa using h);simp only [Z2s,xj,Z3i];omega
theorem Ee (l:List CW) (k:Nat):xj (l.take k)<=xj l:=by
 induction l generalizing k with
 | nil=>simp [xj]
 | cons x l ih=>
  cases k with
  | zero=>simp [xj]
  | succ k=>have:=ih k;simp only [Z2s,xj];omega
structure zfd (f:zh):Prop where
 vars:f.1.length<=10
 Ie:f.2.1.length<=10
 size:yS f.2.2.1+xj f.2.1<=80
theorem zlw (N:Nat) (hN:200<=N) (f:zh):zx (f65 N f 10 80) fun b=>b=true->zfd f:=by
 unfold f65;have e1:(cond (decide (10 < len f.1)) (some true) (some (decide (10 < len f.2.1))))=some (decide (10 < len f.1) || decide (10 < len f.2.1)):=by cases decide (10 < len f.1) <;> rfl
 rw [e1,zP];refine zx.cond (fun _=>zx.ret (by simp)) fun hb=>?_
 simp only [JY,u7,len] at hb;refine zx.then (zeg N hN f.2.2.1 80 (by omega) (by omega)) fun r hr=>?_
 obtain ⟨p1,p2,p3⟩:=hr;refine zx.up (fun k r1=>k<=f.2.1.length/\r1<=80/\-2-(k:Int)<=r1/\(0<=r1->r1=80-yS f.2.2.1-xj (f.2.1.take k))) f.2.1.length ?_ ?_ N 0 (jt _) (by omega) r ⟨jt _,by omega,by omega,fun h=>by have:=p3 h;simp [xj];omega⟩
 ·rintro k r1 w hk ⟨q1,q2,q3,q4⟩ hw;simp only [Fv];rw [zK hk,zB,zg hk];simp only [zP]
  ·refine zx.then (RO N hN (f.2.1[k].2.2.2.1) r1 (by omega) (by omega)) fun r2 Bh=>?_
   obtain ⟨s1,s2,s3⟩:=Bh;rw [zu (by omega)];refine hw _ ⟨by omega,by omega,by omega,fun h=>?_⟩;have:=s3 h;have:=q4 (by omega);rw [YT hk];simp only [qC];omega
 ·rintro r1 w ⟨_,q2,q3,q4⟩;simp only [Fv];rw [show decide (((f.2.1.length:Nat):Int) < len f.2.1)=false from zV _,zU];refine zx.ret fun h=>?_
  have h0:=BI h;have:=q4 h0;rw [Qi] at this;exact ⟨by omega,by omega,by omega⟩
end Go.Kz
namespace Go.Kz
theorem Z7 (a b:Bool):(cond a (some true) (some b):Option Bool)=some (a || b):=by cases a <;> rfl
theorem wR (a b:Bool):(cond a (some b) (some false):Option Bool)=some (a && b):=by cases a <;> rfl
theorem gid {I:Type} (x:Option I):(x.bind fun y=>some y)=x:=by cases x <;> rfl
def chB (i:Nat) (c:UInt8):Bool:=(decide (97<=((c.toNat:Nat):Int)) && decide (((c.toNat:Nat):Int)<=122)) || (!decide (i=0) && ((decide (48<=((c.toNat:Nat):Int)) && decide (((c.toNat:Nat):Int)<=57)) || decide (((c.toNat:Nat):Int)=46) || decide (((c.toNat:Nat):Int)=95)))
def VY (s:List UInt8):Bool:=decide (1<=s.length) && decide (s.length<=40) && (List.range s.length).all fun i=>match s[i]? with
 | some c=>chB i c
 | none=>true
theorem RN (N:Nat) (hN:200<=N) (s:List UInt8):f154 N s=some (VY s):=by
 unfold f154;have e1:(cond (decide (len s < 1)) (some true) (some (decide (40 < len s))))=some (decide (len s < 1) || decide (40 < len s)):=by cases decide (len s < 1) <;> rfl
 rw [e1,zP];by_cases hl:1<=s.length/\s.length<=40
 ·have e2:(decide (len s < 1) || decide (40 < len s))=false:=by simp [len];omega
  rw [e2,zU]
  have:=Ja (F:=fun w=>Km N s w (fun t2=>some t2) fun (_:Unit)=>some true) 0 s.length (jt _) (fun i=>match s[i]? with
   | some c=>chB i c
   | none=>true) (some true) (some false) ?_ ?_ N (by omega)
  ·rw [show ((0:Nat):Int)=0 from rfl] at this;rw [this];simp only [Z4l,Zf,VY,hl.1,hl.2,Vz,LM];cases (List.range s.length).all _ <;> rfl
  ·intro k w _ hk;simp only [Km];rw [zK hk,zB,zg hk];simp only [zP,wP hk,chB];have ek:decide ((k:Int)=0)=decide (k=0):=by congr 1;simp
   rw [ek];have ew:zz ((k:Int)+1)=(k:Int)+1:=zu (by omega);rw [ew];simp only [Z7,wR,zP];have hc:((s[k].1.toNat:Nat):Int)=((s[k].toNat:Nat):Int):=rfl;rw [hc];generalize ((s[k].toNat:Nat):Int)=c;cases decide (97<=c) <;> cases decide (c<=122) <;> cases decide (k=0) <;> cases decide (48<=c) <;> cases decide (c<=57) <;> cases decide (c=46) <;> cases decide (c=95) <;> rfl
  ·intro w;simp only [Km];rw [show decide (((s.length:Nat):Int) < len s)=false from zV _,zU]
 ·have e2:(decide (len s < 1) || decide (40 < len s))=true:=by simp [len];omega
  rw [e2,zB];have:VY s=false:=by
   simp only [VY];by_cases h1:1<=s.length
   ·have h2:¬ s.length<=40:=fun h=>hl ⟨h1,h⟩
    simp [h2]
   ·simp [h1]
  rw [this]
theorem Rk (N:Nat) (hN:200<=N) (s:List UInt8):f241 N s=some (VY s):=by
 unfold f241;rw [Z7,zP];by_cases hl:1<=s.length/\s.length<=40
 ·have je:¬ s=[]:=fun h=>by rw [h] at hl;simp at hl
  have e2:(decide (s=([]:List _)) || decide (40 < len s))=false:=by simp [len,je];omega
  rw [e2,zU]
  have:=Ja (F:=fun w=>KA N s (len s) w (fun t2=>some t2) fun (_:Unit)=>some true) 0 s.length (jt _) (fun i=>match s[i]? with
   | some c=>chB i c
   | none=>true) (some true) (some false) ?_ ?_ N (by omega)
  ·rw [show ((0:Nat):Int)=0 from rfl] at this;rw [this];simp only [Z4l,Zf,VY,hl.1,hl.2,Vz,LM];cases (List.range s.length).all _ <;> rfl
  ·intro k w _ hk;simp only [KA];rw [show decide ((k:Int) < len s)=true from zK hk,zB,zg hk];simp only [zP,wP hk,chB];have ek:decide ((k:Int)=0)=decide (k=0):=by congr 1;simp
   rw [ek];have ew:zz ((k:Int)+1)=(k:Int)+1:=zu (by omega);rw [ew];simp only [Z7,wR,gid,zP];have hc:((s[k].1.toNat:Nat):Int)=((s[k].toNat:Nat):Int):=rfl;rw [hc];generalize ((s[k].toNat:Nat):Int)=c;have h1:decide (c < 48) = !decide (48<=c):=by
    by_cases h:48<=c
    ·simp [h]
    ·simp [h];omega
   have h2:decide (57 < c) = !decide (c<=57):=by
    by_cases h:c<=57
    ·simp [h]
    ·simp [h];omega
   rw [h1,h2];cases decide (97<=c) <;> cases decide (c<=122) <;> cases decide (k=0) <;> cases decide (48<=c) <;> cases decide (c<=57) <;> cases decide (c=46) <;> cases decide (c=95) <;> rfl
  ·intro w;simp only [KA];rw [show decide (((s.length:Nat):Int) < len s)=false from zV _,zU]
 ·have e2:(decide (s=([]:List _)) || decide (40 < len s))=true:=by
   cases s with
   | nil=>rfl
   | cons c t=>simp [len] at hl ⊢;omega
  rw [e2,zB];have:VY s=false:=by
   simp only [VY];by_cases h1:1<=s.length
   ·have h2:¬ s.length<=40:=fun h=>hl ⟨h1,h⟩
    simp [h2]
   ·simp [h1]
  rw [this]
def ML (a b:Int):Bool:=(decide (a<=b) && decide (-1048576<=a)) && decide (b<=1048576)
theorem Wm {a b:Int}:ML a b=true↔a<=b/\-1048576<=a/\b<=1048576:=by
 simp only [ML,zA,yR];omega
theorem RM (N:Nat) (a b:Int):f155 N a b=some (ML a b):=by
 unfold f155;simp only [wR,zP,ML]
theorem Rw (N:Nat) (a b:Int):f242 N a b=some (ML a b):=by
 unfold f242;simp only [wR,zP,ML]
def Vw (v:qY):Int:=v.2.2.2.1-v.2.2.1+1
def zN:List qY->Int
 | []=>1
 | v :: l=>Vw v*zN l
def jX (vs:List qY) (k:Int):List qY:=vs.filter fun v=>decide (v.2.1=k)
def pG (v:qY):Prop:=v.2.2.1<=v.2.2.2.1/\-1048576<=v.2.2.1/\v.2.2.2.1<=1048576
theorem WH {v:qY} (h:pG v):1<=Vw v/\Vw v<=2097153:=by
 obtain ⟨h1,h2,h3⟩:=h;simp only [Vw];omega
theorem Xz {v:qY} (h:pG v):zz ((zz (v.2.2.2.1-v.2.2.1))+1)=Vw v:=by
 obtain ⟨h1,h2,h3⟩:=h;rw [zw (n:=v.2.2.2.1-v.2.2.1) (by omega) (by omega),zw (by omega) (by omega)];rfl
theorem Vb (l:List qY) (v:qY):zN (l++[v])=zN l*Vw v:=by
 induction l with
 | nil=>simp [zN]
 | cons x l ih=>simp only [xA,zN,ih,Int.mul_assoc]
theorem vw:∀ {l:List qY},(∀ v∈l,pG v)->1<=zN l
 | [],_=>by simp [zN]
 | v :: l,h=>by
  have h1:=(WH (h v (Z20 ..))).1;have h2:=vw (l:=l) fun x hx=>h x (Th _ hx)
  simp only [zN];have:=Z3k h1 h2 (by omega) (by omega);omega
theorem D0 (a b:List qY):zN (a++b)=zN a*zN b:=by
 induction a with
 | nil=>simp [zN]
 | cons x l ih=>simp only [xA,zN,ih,Int.mul_assoc]
theorem Vx {l:List qY} (h:∀ v∈l,pG v) (k:Nat):zN (l.take k)<=zN l:=by
 have e:=D0 (l.take k) (l.drop k);rw [Mx] at e;rw [e];have h1:=vw (l:=l.take k) fun v hv=>h v (Z3x hv)
 have h2:=vw (l:=l.drop k) fun v hv=>h v (Z44 hv)
 have:=Int.mul_le_mul_of_nonneg_left h2 (show 0<=zN (l.take k) by omega);omega
theorem qy {I:Type} {l:List I} {k:Nat} (h:k < l.length):l.take (k+1)=l.take k++[l[k]]:=by simp
theorem x6 (l:List qY) (v:qY) (k:Int):jX (l++[v]) k=if v.2.1=k then jX l k++[v] else jX l k:=by
 simp only [jX,List.filter_append];by_cases h:v.2.1=k <;> simp [h]
theorem uL {vs:List qY} (h:∀ v∈vs,pG v) (k:Int):∀ v∈jX vs k,pG v:=fun v hv=>h v (Z56.1 hv).1
theorem uM (vs:List qY) (k:Int):(jX vs k).length<=vs.length:=List.length_filter_le ..
theorem Ms {n:Int} {v:qY} (h1:1<=n) (h2:n<=4096) (hv:pG v):zz (n*Vw v)=n*Vw v/\1<=n*Vw v:=by
 obtain ⟨a,b⟩:=WH hv;have e1:=Z3k h1 a (by omega) (by omega);have e2:=Z3k h2 b (by omega) (by omega);exact ⟨zw (by omega) (by omega),by omega⟩
theorem FJ (N:Nat) (hN:200<=N) (vs:List qY) (hl:vs.length<=10) (hr:∀ v∈vs,pG v) (k:Int):zx (f236 N vs k) fun r=>r=4097\/(r=zN (jX vs k)/\r<=4096):=by
 unfold f236;refine zx.up (fun j n=>n=zN (jX (vs.take j) k)/\1<=n/\n<=4096) vs.length ?_ ?_ N 0 (jt _) (by omega) 1 ⟨by simp [jX,zN],by omega,by omega⟩
 ·rintro j n w hj ⟨h1,h2,h3⟩ hw;have hv:=hr _ (ku hj);simp only [UR];rw [zK hj,zB,zg hj];simp only [zP];rw [Xz hv,zu (by omega)];obtain ⟨e1,e2⟩:=Ms h2 h3 hv;rw [e1];refine zx.cond (fun hb=>?_) fun hb=>zx.cond (fun _=>zx.ret (.inl rfl)) fun w5=>?_
  ·simp only [PO,u7] at hb;refine hw _ ⟨?_,h2,h3⟩;rw [qy hj,x6,qZ hb];exact h1
  ·simp only [Bl,yR] at hb;simp only [u7] at w5;refine hw _ ⟨?_,e2,by omega⟩;rw [qy hj,x6,yQ hb,Vb,<-h1]
 ·rintro n w ⟨h1,h2,h3⟩;simp only [UR];rw [zV,zU];rw [Qi] at h1;exact zx.ret (.inr ⟨h1,h3⟩)
theorem Fz (N:Nat) (hN:200<=N) (vs:List qY) (hl:vs.length<=10) (k:Int):f68 N vs k=some (jX vs k):=by
 refine zx.eq ?_;unfold f68;refine zx.up (fun j o=>o=jX (vs.take j) k) vs.length ?_ ?_ N 0 (jt _) (by omega) [] rfl
 ·rintro j o w hj rfl hw;simp only [Fq];rw [zK hj,zB,zg hj];simp only [zP];rw [zu (by omega)];have hle:=uM (vs.take j) k;rw [P9] at hle;refine zx.cond (fun hb=>zx.qW (by simp only [yR];exact Z22 (m:=100) (by omega) (by decide)) (hw _ ?_)) fun hb=>hw _ ?_
  ·rw [qy hj,x6,yQ (BI hb)]
  ·rw [qy hj,x6,qZ (Rs hb)]
 ·rintro o w rfl;simp only [Fq];rw [zV,zU,Qi];exact zx.ret rfl
structure zty (vs:List qY) (i:Nat) (v:qY):Prop where
 name:VY v.1=true
 new:∀ j (h:j < vs.length),j < i->vs[j].1≠v.1
 z3q:0<=v.2.1
 z3p:v.2.1<=3
 JA:pG v
 init:v.2.1=0->v.2.2.1<=v.2.2.2.2.1/\v.2.2.2.2.1<=v.2.2.2.1
 zero:v.2.1≠0->v.2.2.2.2.1=0
structure u6 (vs:List qY):Prop where
 len:vs.length<=10
 each:∀ i (h:i < vs.length),zty vs i vs[i]
 sec:zN (jX vs 1)<=4096
 pub:zN (jX vs 2)<=4096
 rnd:zN (jX vs 3)<=256
theorem u6.JA {vs:List qY} (h:u6 vs):∀ v∈vs,pG v:=fun v hv=>by
 obtain ⟨i,hi,rfl⟩:=Jo.1 hv;exact (h.each i hi).JA
theorem zee (N:Nat) (hN:200<=N) (vs:List qY) (hl:vs.length<=10):zx (f153 N vs) fun c=>c=0->u6 vs:=by
 unfold f153;refine zx.Bn (fun j=>∀ i (h:i < vs.length),i < j->zty vs i vs[i]) vs.length ?_ ?_ N 0 (jt _) (by omega) (fun i h hi=>by omega)
 ·intro k w hk hinv hw;simp only [Uh];rw [zK hk,zB,zg hk];simp only [zP];rw [RN N hN];simp only [zP];refine zx.cond (fun _=>zx.ret (by simp)) fun Zl=>?_
  refine zx.Bn (fun j=>∀ i (h:i < vs.length),i < j->vs[i].1≠vs[k].1) k ?_ ?_ N 0 (jt _) (by omega) (fun i h hi=>by omega)
  ·intro j w' hj AU GZ;simp only [Uf];have:decide ((j:Int) < (k:Int))=true:=by simpa using hj
   rw [this,zB,zg (show j < vs.length by omega)];simp only [zP];refine zx.cond (fun _=>zx.ret (by simp)) fun je=>?_
   rw [zu (by omega)];refine GZ fun i h hi=>?_
   by_cases e:i=j
   ·subst e;exact Rs je
   ·exact AU i h (by omega)
  ·intro w' AU;simp only [Uf];rw [zt1 k,zU];simp only [Z7,wR,gid,zP,RM];refine zx.cond (fun _=>zx.ret (by simp)) fun hkd=>?_
   refine zx.cond (fun _=>zx.ret (by simp)) fun hr=>?_
   refine zx.cond (fun _=>zx.ret (by simp)) fun hi=>?_
   rw [zu (by omega)];refine hw fun i h wT=>?_
   by_cases e:i=k
   ·subst e;simp only [Bl] at Zl hr;rw [Wm] at hr;have hkd':vs[i].2.1=0\/vs[i].2.1=1\/vs[i].2.1=2\/vs[i].2.1=3:=by
     by_cases a0:vs[i].2.1=0
     ·exact .inl a0
     by_cases a1:vs[i].2.1=1
     ·exact .inr (.inl a1)
     by_cases a2:vs[i].2.1=2
     ·exact .inr (.inr (.inl a2))
     by_cases a3:vs[i].2.1=3
     ·exact .inr (.inr (.inr a3))
     simp [a0,a1,a2,a3] at hkd
    simp only [JY,Rr,u7,Bl,yR] at hi;refine ⟨Zl,fun j h hj=>AU j h hj,by omega,by omega,hr,fun h0=>?_,fun h0=>?_⟩
    ·rcases hi.1 with h | h
     ·exact absurd h0 h
     ·omega
    ·rcases hi.2 with h | h
     ·exact absurd h h0
     ·exact h
   ·exact hinv i h (by omega)
 ·intro w hinv;simp only [Uh];rw [zV,zU];have hr:∀ v∈vs,pG v:=fun v hv=>by
   obtain ⟨i,hi,rfl⟩:=Jo.1 hv;exact (hinv i hi hi).JA
  refine zx.then (FJ N hN vs hl hr 1) fun r1 h1=>?_
  refine zx.then (P:=fun b=>b=false->r1<=4096/\zN (jX vs 2)<=4096) ?_ fun b hb=>?_
  ·refine zx.cond (fun _=>zx.ret (by simp)) fun h=>zx.then (FJ N hN vs hl hr 2) fun r2 h2=>zx.ret fun h'=>?_
   simp only [u7] at h h';omega
  refine zx.then (P:=fun b'=>b'=false->b=false/\zN (jX vs 3)<=256) ?_ fun b' Z6=>?_
  ·refine zx.cond (fun _=>zx.ret (by simp)) fun h=>zx.then (FJ N hN vs hl hr 3) fun r2 h2=>zx.ret fun h'=>?_
   simp only [u7] at h';exact ⟨h,by omega⟩
  refine zx.cond (fun _=>zx.ret (by simp)) fun h=>zx.ret fun _=>?_
  obtain ⟨q1,q2⟩:=Z6 h;obtain ⟨q3,q4⟩:=hb q1;exact ⟨hl,fun i h=>hinv i h h,by omega,q4,q2⟩
theorem Gt (N:Nat) (hN:200<=N) {vs:List qY} (hl:vs.length<=10) (hr:∀ v∈vs,pG v) (k:Int) (hk:0<=k/\k<=3) (hp:zN (jX vs k)<=4096):f18 N vs k=some (zN (jX vs k),0):=by
 refine zx.eq ?_;unfold f18;have Bi:k=0\/k=1\/k=2\/k=3:=by omega
 have eb:(((!decide (k=0) && !decide (k=1)) && !decide (k=2)) && !decide (k=3))=false:=by
  rcases Bi with rfl | rfl | rfl | rfl <;> rfl
 simp only [wR,zP];rw [eb,zU,Fz N hN vs hl];simp only [zP];have VG:=uM vs k;have Z5:=uL hr k;generalize jX vs k=l at *;have ck:∀ {R:Type} (j:Nat) (hj:j < l.length) (x:Option R),qW (vU l (j:Int)) x=x:=fun j hj x=>zf (by simp only [vU,zA,yR,len];omega)
 refine zx.Bn (fun _=>True) l.length ?_ ?_ N 0 (jt _) (by omega) trivial
 ·intro j w hj _ hw;simp only [FG];rw [zK hj,zB];simp only [ck j hj,zg hj,zP,Z7];obtain ⟨a,b,c⟩:=Z5 _ (ku hj);have:((decide (l[j].2.2.2.1 < l[j].2.2.1) || decide (l[j].2.2.1 < -1048576)) || decide (1048576 < l[j].2.2.2.1))=false:=by
   simp only [JY,u7];omega
  rw [this,zU,zu (by omega)];exact hw trivial
 ·intro w _;simp only [FG];rw [zV,zU];refine zx.up (fun j n=>n=zN (l.take j)/\1<=n/\n<=4096) l.length ?_ ?_ N 0 (jt _) (by omega) 1 ⟨rfl,by omega,by omega⟩
  ·rintro j n w hj ⟨h1,h2,h3⟩ hw;have hv:=Z5 _ (ku hj);simp only [Ua];rw [zK hj,zB];simp only [ck j hj,zg hj,zP];obtain ⟨e1,e2⟩:=Ms h2 h3 hv;rw [Xz hv,e1,zu (by omega)];have e3:n*Vw l[j]=zN (l.take (j+1)):=by rw [qy hj,Vb,<-h1]
   have e4:=Vx Z5 (j+1);refine zx.cond (fun h=>?_) fun _=>hw _ ⟨e3,e2,by omega⟩
   simp only [yR] at h;omega
  ·rintro n w ⟨h1,h2,h3⟩;simp only [Ua];rw [zV,zU,h1,Qi];exact zx.ret rfl
theorem FU (N:Nat) (hN:200<=N) {vs:List qY} (hl:vs.length<=10) (hr:∀ v∈vs,pG v) (k:Int) (hk:0<=k/\k<=3) (hp:zN (jX vs k)<=4096):f165 N vs k=some (jX vs k,(zN (jX vs k),0)):=by
 have key:iter (fun w=>xa N k vs (len vs) w (fun t5 t6=>some (([]:List qY),(t5,t6)))
   (fun zn=>iter (fun w=>pf N (len zn) zn w (fun Wb Zw=>some (([]:List qY),(Wb,Zw))) (fun Xu=>some (zn,(Xu,0)))) N (0,1))) N (0,([]:List qY))=some (jX vs k,(zN (jX vs k),0)):=by
  refine zx.eq ?_;refine zx.up (fun j o=>o=jX (vs.take j) k) vs.length ?_ ?_ N 0 (jt _) (by omega) [] rfl
  ·rintro j o w hj rfl hw;simp only [xa];rw [zK hj,zB,zg hj];simp only [zP,Z7];rw [zu (by omega)];have hle:=uM (vs.take j) k;rw [P9] at hle;obtain ⟨a,b,c⟩:=hr _ (ku hj);have:((decide (vs[j].2.2.2.1 < vs[j].2.2.1) || decide (vs[j].2.2.1 < -1048576)) || decide (1048576 < vs[j].2.2.2.1))=false:=by
    simp only [JY,u7];omega
   rw [this,zU];refine zx.cond (fun hb=>hw _ ?_) fun hb=>zx.qW (by simp only [yR];exact Z22 (m:=100) (by omega) (by decide)) (hw _ ?_)
   ·simp only [PO,u7] at hb;rw [qy hj,x6,qZ hb]
   ·simp only [Bl,yR] at hb;rw [qy hj,x6,yQ hb]
  ·rintro o w rfl;simp only [xa];rw [show decide (((vs.length:Nat):Int) < len vs)=false from zV _,zU,Qi];have VG:=uM vs k;have Z5:=uL hr k;generalize jX vs k=l at *;refine zx.up (fun j n=>n=zN (l.take j)/\1<=n/\n<=4096) l.length ?_ ?_ N 0 (jt _) (by omega) 1 ⟨rfl,by omega,by omega⟩
   ·rintro j n w hj ⟨h1,h2,h3⟩ hw;have hv:=Z5 _ (ku hj);simp only [pf,f166];rw [zK hj,zB,zf (by simp only [vU,zA,yR,len];omega),zg hj];simp only [zP];obtain ⟨e1,e2⟩:=Ms h2 h3 hv;rw [Xz hv,e1,zu (by omega)];have e3:n*Vw l[j]=zN (l.take (j+1)):=by rw [qy hj,Vb,<-h1]
    have e4:=Vx Z5 (j+1);refine zx.cond (fun h=>?_) fun _=>hw _ ⟨e3,e2,by omega⟩
    simp only [yR] at h;omega
   ·rintro n w ⟨h1,h2,h3⟩;simp only [pf];rw [show decide (((l.length:Nat):Int) < len l)=false from zV _,zU,h1,Qi];exact zx.ret rfl
 unfold f165;have Bi:k=0\/k=1\/k=2\/k=3:=by omega
 rcases Bi with rfl | rfl | rfl | rfl <;> exact key
theorem AR (N:Nat) (hN:200<=N) {vs:List qY} (hl:vs.length<=10) (hr:∀ v∈vs,pG v) (k:Int) (hk:0<=k/\k<=3) (hp:zN (jX vs k)<=4096):f71 N vs k=some (zN (jX vs k),0):=by
 unfold f71;rw [FU N hN hl hr k hk hp];rfl
theorem zos {I:Type} (l:List I) (k:Nat):sub l 0 (k:Int)=l.take k:=by simp [sub]
theorem z5x (N:Nat) (hN:200<=N) (vs:List qY) (hl:vs.length<=10) (x:qY) (h:∀ j (hj:j < vs.length),vs[j].1≠x.1):f67 N vs (x,())=some (-1):=by
 refine zx.eq ?_;unfold f67;refine zx.Bn (fun _=>True) vs.length ?_ ?_ N 0 (jt _) (by omega) trivial
 ·intro k w hk _ hw;simp only [Fy];rw [show decide ((k:Int) < len vs)=true from zK hk,zB,zg hk];simp only [zP,f240];rw [qO (h k hk),zU,zu (by omega)];exact hw trivial
 ·intro w _;simp only [Fy];rw [show decide (((vs.length:Nat):Int) < len vs)=false from zV _,zU];exact zx.ret rfl
theorem zed (N:Nat) (hN:200<=N) {vs:List qY} (hv:u6 vs):f161 N vs=some 0:=by
 have hl:=hv.len;refine zx.eq ?_;unfold f161;refine zx.Bn (fun _=>True) vs.length ?_ ?_ N 0 (jt _) (by omega) trivial
 ·intro k w hk _ hw;obtain ⟨q1,q2,q3,q4,q5,q6,q7⟩:=hv.each k hk;simp only [Ud];rw [show decide ((k:Int) < len vs)=true from zK hk,zB,zg hk];simp only [zP];rw [Rk N hN,zP,q1];rw [show (!true)=false from rfl,zU,zf (by simp only [zA,yR,len];omega),zos];unfold f16;rw [z5x N hN (vs.take k) (by rw [P9];omega) vs[k] (fun j hj=>by
   have ZD:j < k:=by rw [P9] at hj;omega
   rw [Z2w];exact q2 j (by omega) ZD)]
  simp only [zP,Z7,wR,gid,Rw];rw [show decide ((0:Int)<=-1)=false from rfl,zU];have e1:(decide (vs[k].2.1 < 0) || decide (3 < vs[k].2.1))=false:=by simp only [JY,u7];omega
  rw [e1,zU,Wm.2 q5];rw [show (!true)=false from rfl,zU];have e2:(!decide (vs[k].2.1=0) && !decide (vs[k].2.2.2.2.1=0))=false:=by
   by_cases h:vs[k].2.1=0
   ·simp [h]
   ·simp [q7 h]
  have e3:(decide (vs[k].2.1=0) && (decide (vs[k].2.2.2.2.1 < vs[k].2.2.1) || decide (vs[k].2.2.2.1 < vs[k].2.2.2.2.1)))=false:=by
   by_cases h:vs[k].2.1=0
   ·have:=q6 h;simp only [Rr,JY,u7];right;omega
   ·simp [h]
  rw [e2,zU,e3,zU,zu (by omega)];exact hw trivial
 ·intro w _;simp only [Ud];rw [show decide (((vs.length:Nat):Int) < len vs)=false from zV _,zU];refine zx.Bn (fun _=>True) 3 ?_ ?_ N 0 (jt _) (by omega) trivial
  ·intro k w' hk _ GZ;simp only [Kf];have Bi:k=0\/k=1\/k=2:=by omega
   rcases Bi with rfl | rfl | rfl
   ·rw [show decide (((0:Nat):Int) < ((3:Nat):Int))=true from rfl,zB];refine zx.qW rfl ?_;rw [show idx ((1:Int) :: (2 :: (3 :: ([]:List Int)))) ((0:Nat):Int)=some 1 from rfl,zP,AR N hN hl hv.JA 1 (by omega) hv.sec];exact GZ trivial
   ·rw [show decide (((1:Nat):Int) < ((3:Nat):Int))=true from rfl,zB];refine zx.qW rfl ?_;rw [show idx ((1:Int) :: (2 :: (3 :: ([]:List Int)))) ((1:Nat):Int)=some 2 from rfl,zP,AR N hN hl hv.JA 2 (by omega) hv.pub];exact GZ trivial
   ·rw [show decide (((2:Nat):Int) < ((3:Nat):Int))=true from rfl,zB];refine zx.qW rfl ?_;have h3:=hv.rnd;rw [show idx ((1:Int) :: (2 :: (3 :: ([]:List Int)))) ((2:Nat):Int)=some 3 from rfl,zP,AR N hN hl hv.JA 3 (by omega) (by omega)];simp only [zP,Z7,wR,gid];have e1:decide (256 < zN (jX vs 3))=false:=by simp only [u7];omega
    rw [e1];exact GZ trivial
  ·intro w' _;simp only [Kf];exact zx.ret rfl
end Go.Kz
namespace Go.Kz
def wH (op:Int):Int:=if op=0\/op=24 then 0 else if op=6\/op=7 then 1 else if 8<=op/\op<=22 then 2 else if op=23 then 3 else if op=25 then -2 else -1
theorem zdo (N:Nat) (op:Int):f292 N op=some (wH op):=by
 by_cases h0:op=0
 ·subst h0;rfl
 by_cases xT:op=24
 ·subst xT;rfl
 by_cases h6:op=6
 ·subst h6;rfl
 by_cases h7:op=7
 ·subst h7;rfl
 by_cases hm:8<=op/\op<=22
 ·have:op=8\/op=9\/op=10\/op=11\/op=12\/op=13\/op=14\/op=15\/op=16\/op=17\/op=18\/op=19\/op=20\/op=21\/op=22:=by omega
  rcases this with rfl | rfl | rfl | rfl | rfl | rfl | rfl | rfl | rfl | rfl | rfl | rfl | rfl | rfl | rfl <;> rfl
 by_cases AB:op=23
 ·subst AB;rfl
 by_cases AA:op=25
 ·subst AA;rfl
 have hk:wH op = -1:=by simp [wH,h0,xT,h6,h7,hm,AB,AA]
 rw [hk];unfold f292;simp only [qO h0,qO xT,qO h6,qO h7,qO (show ¬ op=8 by omega),qO (show ¬ op=9 by omega),qO (show ¬ op=10 by omega),qO (show ¬ op=11 by omega),qO (show ¬ op=12 by omega),qO (show ¬ op=13 by omega),qO (show ¬ op=14 by omega),qO (show ¬ op=15 by omega),qO (show ¬ op=16 by omega),qO (show ¬ op=17 by omega),qO (show ¬ op=18 by omega),qO (show ¬ op=19 by omega),qO (show ¬ op=20 by omega),qO (show ¬ op=21 by omega),qO (show ¬ op=22 by omega),qO AB,qO AA,zU]
theorem z3s (op:Int) : -2<=wH op:=by
 simp only [wH];repeat' split
 all_goals omega
def NO (r:Int) (k:Nat):Bool:=if r = -2 then decide (2<=(k:Int)) && decide ((k:Int)<=33) else decide ((k:Int)=r)
theorem zde (N:Nat) (op:Int):f339 N op=some (if wH op = -2 then (2,33) else (wH op,wH op)):=by
 unfold f339;simp only [Z7,wR,zP];by_cases h0:op=0\/op=24
 ·have:(decide (op=0) || decide (op=24))=true:=by simpa using h0
  rw [this,zB];simp [wH,h0]
 have e0:(decide (op=0) || decide (op=24))=false:=by simpa using h0
 rw [e0,zU];by_cases h6:op=6\/op=7
 ·have:(decide (op=6) || decide (op=7))=true:=by simpa using h6
  rw [this,zB];simp [wH,h0,h6]
 have e6:(decide (op=6) || decide (op=7))=false:=by simpa using h6
 rw [e6,zU];by_cases hm:8<=op/\op<=22
 ·have:(decide (8<=op) && decide (op<=22))=true:=by simpa using hm
  rw [this,zB];simp [wH,h0,h6,hm]
 have em:(decide (8<=op) && decide (op<=22))=false:=by
  simp only [Rr,u7];omega
 rw [em,zU];by_cases AB:op=23
 ·subst AB;rfl
 by_cases AA:op=25
 ·subst AA;rfl
 rw [qO AB,qO AA];simp [wH,h0,h6,hm,AB,AA]
def DJ (vs:List qY) (vl:Bool) (op n:Int) (k:Nat):Bool:=
 NO (wH op) k && (if op=24 then (decide (0<=n) && decide (n < len vs)) && !(vl && (match vs[n.toNat]? with
  | some v=>decide (v.2.1=0)
  | none=>true)) else decide (op=0) || decide (n=0))
mutual
def AL (vs:List qY) (vl:Bool):Tm->Bool
 | ⟨op,n,ks⟩=>DJ vs vl op n ks.length && fmL vs vl ks
def fmL (vs:List qY) (vl:Bool):List Tm->Bool
 | []=>true
 | k :: ks=>AL vs vl k && fmL vs vl ks
end
theorem Oo (vs:List qY) (vl:Bool):∀ l:List Tm,fmL vs vl l=l.all (AL vs vl)
 | []=>rfl
 | k :: ks=>by simp only [fmL,Z4r,Oo vs vl ks]
theorem AI (vs:List qY) (vl:Bool) (t:Tm):AL vs vl t=(DJ vs vl t.op t.n t.kids.length && t.kids.all (AL vs vl)):=by
 cases t;simp only [AL,Oo]
theorem zov {vs:List qY} {n:Int} {vl:Bool}:(cond (decide (n < 0) || decide (len vs<=n)) (some true) (cond vl ((idx vs n).bind fun x=>some (decide (x.2.1=0))) (some false))) =
  some (!((decide (0<=n) && decide (n < len vs)) && !(vl && (match vs[n.toNat]? with
  | some v=>decide (v.2.1=0)
  | none=>true)))):=by
 by_cases h:0<=n/\n < len vs
 ·have e1:(decide (n < 0) || decide (len vs<=n))=false:=by simp only [JY,u7];omega
  have e2:(decide (0<=n) && decide (n < len vs))=true:=by simpa using h
  have h2:n.toNat < vs.length:=by have:=h.2;simp only [len] at this;omega
  have e3:idx vs n=some vs[n.toNat]:=Z2 h.1 (by have:=h.2;simp only [len] at this;omega);rw [e1,e2,zU,e3,wP h2];cases vl <;> simp
 ·have e1:(decide (n < 0) || decide (len vs<=n))=true:=by simp only [Df,yR];omega
  have e2:(decide (0<=n) && decide (n < len vs))=false:=by simp only [Rr,u7];omega
  rw [e1,e2];rfl
theorem q4e {r:Int} (hr : -2<=r) (l:List Tm):((decide (r = -1) || (decide (0<=r) && !decide (len l=r))) || (decide (r = -2) && (decide (len l < 2) || decide (33 < len l)))) = !NO r l.length:=by
 rw [Rt];unfold NO;simp only [len];by_cases h2:r = -2
 ·subst h2;simp
 ·simp only [h2,Dh];by_cases h1:r = -1
  ·subst h1;simp
  ·simp [h1,h2];omega
theorem q4d {r:Int} (l:List Tm):((decide ((if r = -2 then ((2:Int),(33:Int)) else (r,r)).1 < 0) || decide (len l < (if r = -2 then ((2:Int),(33:Int)) else (r,r)).1)) || decide ((if r = -2 then ((2:Int),(33:Int)) else (r,r)).2 < len l)) = !NO r l.length:=by
 rw [Rt];unfold NO;simp only [len];by_cases h2:r = -2
 ·subst h2;simp
 ·simp only [h2,Dh];simp;omega
theorem Lq (N:Nat) (hN:200<=N) (vs:List qY) (vl:Bool):∀ (M:Nat) (t:Tm),Zv t<=M->Zv t<=100->DK N M vs (gD t) vl=some (AL vs vl t)
 | 0,t,h,_=>by have:=yX t;omega
 | M+1,t,h,ht=>by
  show Rp N (DK N M) vs (gD t) vl=_;have qC:=uq t;have VG:=kO t.kids;unfold Rp;simp only [zdo,zP,Z7,wR,gid];rw [AI];have hlp:iter (fun w=>pV N (DK N M) vl vs (gD t) w (fun t6=>some t6) (fun (_:Unit)=>some true)) N 0=some (t.kids.all (AL vs vl)):=by
   have:=Gd (F:=fun w=>pV N (DK N M) vl vs (gD t) w (fun t6=>some t6) (fun (_:Unit)=>some true)) t.kids (AL vs vl) (some true) (some false) ?_ ?_ N (by omega)
   ·rw [this];cases t.kids.all (AL vs vl) <;> rfl
   ·intro k w hk;simp only [pV];have hm:=wa (ku hk);rw [show decide ((k:Int) < len t.kids)=true from zK hk,zB,zg hk];simp only [zP];rw [show DK N M vs (t.kids[k].1,(t.kids[k].2,(t.kids[k].3,()))) vl=some (AL vs vl t.kids[k]) from Lq N hN vs vl M _ (by omega) (by omega)];rw [zu (by omega)];cases AL vs vl t.kids[k] <;> rfl
   ·intro w;simp only [pV];rw [show decide (((t.kids.length:Nat):Int) < len t.kids)=false from zV _,zU]
  rw [hlp];rw [q4e (z3s t.op) t.kids];simp only [DJ]
  cases ha:NO (wH t.op) t.kids.length with
  | false=>rfl
  | true=>
   simp only [xU,zU,LM];by_cases xT:t.op=24
   ·rw [jY xT,zB,yQ xT,zov,zP];cases (decide (0<=t.n) && decide (t.n < len vs)) && !(vl && _) <;> rfl
   ·rw [qO xT,zU,qZ xT];by_cases h0:t.op=0
    ·simp [h0]
    ·by_cases hn:t.n=0
     ·simp [h0,hn]
     ·simp [h0,hn]
theorem ze1 (N:Nat) (hN:200<=N) (vs:List qY) (vl:Bool) (t:Tm) (ht:Zv t<=100):f237 N vs (gD t) vl=some (AL vs vl t):=Lq N hN vs vl N t (by omega) ht
theorem L9 (N:Nat) (hN:200<=N) (vs:List qY) (vl:Bool):∀ (M:Nat) (t:Tm),Zv t<=M->Zv t<=100->DW N M vs (gD t) vl=some (AL vs vl t)
 | 0,t,h,_=>by have:=yX t;omega
 | M+1,t,h,ht=>by
  show R8 N (DW N M) vs (gD t) vl=_;have qC:=uq t;have VG:=kO t.kids;unfold R8;simp only [zde,zP,Z7,wR,gid];rw [AI];have hlp:iter (fun w=>gW N (DW N M) vl vs (gD t).2.2.1 (len (gD t).2.2.1) w (fun t6=>some t6) (fun (_:Unit)=>some true)) N 0=some (t.kids.all (AL vs vl)):=by
   have:=Gd (F:=fun w=>gW N (DW N M) vl vs (gD t).2.2.1 (len (gD t).2.2.1) w (fun t6=>some t6) (fun (_:Unit)=>some true)) t.kids (AL vs vl) (some true) (some false) ?_ ?_ N (by omega)
   ·rw [this];cases t.kids.all (AL vs vl) <;> rfl
   ·intro k w hk;simp only [gW];have hm:=wa (ku hk);rw [show decide ((k:Int) < len t.kids)=true from zK hk,zB,zg hk];simp only [zP];rw [show DW N M vs (t.kids[k].1,(t.kids[k].2,(t.kids[k].3,()))) vl=some (AL vs vl t.kids[k]) from L9 N hN vs vl M _ (by omega) (by omega)];rw [zu (by omega)];cases AL vs vl t.kids[k] <;> rfl
   ·intro w;simp only [gW];rw [show decide (((t.kids.length:Nat):Int) < len t.kids)=false from zV _,zU]
  rw [hlp];rw [q4d t.kids];simp only [DJ]
  cases ha:NO (wH t.op) t.kids.length with
  | false=>rfl
  | true=>
   simp only [xU,zU,LM];by_cases xT:t.op=24
   ·rw [qO (show ¬ t.op=0 by omega),zU,jY xT,zB,yQ xT,zov,zP];cases (decide (0<=t.n) && decide (t.n < len vs)) && !(vl && _) <;> rfl
   ·rw [qO xT,zU,qZ xT];by_cases h0:t.op=0
    ·simp [h0]
    ·by_cases hn:t.n=0
     ·simp [h0,hn]
     ·simp [h0,hn]
theorem zdk (N:Nat) (hN:200<=N) (vs:List qY) (vl:Bool) (t:Tm) (ht:Zv t<=100):f297 N vs (gD t) vl=some (AL vs vl t):=L9 N hN vs vl N t (by omega) ht
end Go.Kz
