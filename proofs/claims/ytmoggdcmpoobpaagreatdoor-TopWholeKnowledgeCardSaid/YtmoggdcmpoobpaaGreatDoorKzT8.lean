/-
  Lists and their classes, plain laws.
-/
import Derived.Test.YtmoggdcmpoobpaaGreatDoorKzPTz
import Derived.Test.YtmoggdcmpoobpaaGreatDoorKzAR
set_option linter.unusedVariables false
set_option linter.unusedSimpArgs false
namespace Go.Kz
def kI:Int->List Int->Bool
 | _,[]=>true
 | n,c :: l=>decide (0<=c) && decide (c<=n) && kI (max n (c+1)) l
def xJ (p:List Int):Bool:=kI 0 p
theorem D7 (N:Nat) (p:List Int) (hN:p.length < N) (hl:p.length < 4294967296):f94 N p=some (xJ p):=by
 unfold f94;refine YN (fun x:Int×Int=>∃ k:Nat,x.1=k/\k<=p.length/\0<=x.2/\x.2<=k/\xJ p=kI x.2 (p.drop k)) (fun x=>p.length-x.1.toNat) ?_ N (0,0) ⟨0,rfl,by omega,by simp,by simp,by simp [xJ]⟩ (by simpa using hN);rintro ⟨i,n⟩ w ⟨k,hi,hk,hn0,hnk,heq⟩ hw;simp only at hi hn0 hnk heq;subst hi;simp only [Ih];by_cases qJ:k < p.length
 ·have e2:decide ((k:Int) < len p)=true:=by simp [len,qJ]
  rw [e2,zD,zJ qJ];simp only [zB];rw [Z23 qJ] at heq;simp only [kI] at heq;by_cases h0:p[k] < 0
  ·have:¬ (0<=p[k]):=by omega
   simp [h0,heq,this]
  ·by_cases h1:n < p[k]
   ·have h2:¬ (p[k]<=n):=by omega
    simp [h0,h1,heq,h2]
   ·have e3:decide (0<=p[k])=true:=by simp;omega
    have e4:decide (p[k]<=n)=true:=by simp;omega
    rw [e3,e4] at heq;simp only [h0,h1,Z3k,zW,zB];rw [zw (by omega) (by omega),zw (by omega) (by omega)];have hm:xW n (p[k]+1)=max n (p[k]+1):=by simp only [xW];split <;> omega
    rw [hm];exact hw _ ⟨k+1,by simp,by omega,by simp only;omega,by simp only;omega,by simpa using heq⟩ (by simp;omega)
 ·have e2:decide ((k:Int) < len p)=false:=by simp [len];omega
  rw [e2,zW,heq,Dt (by omega)];rfl
def jY {I:Type} [DecidableEq I]:List I->List I->List I
 | acc,[]=>acc
 | acc,x :: l=>if x∈acc then jY acc l else jY (acc++[x]) l
def posOf {I:Type} [DecidableEq I] (x:I):List I->Nat
 | []=>0
 | y :: l=>if y=x then 0 else posOf x l+1
def JK {I:Type} [DecidableEq I]:List I->List I->List Int
 | _,[]=>[]
 | acc,x :: l=>if x∈acc then (posOf x acc:Int) :: JK acc l else (acc.length:Int) :: JK (acc++[x]) l
def AQ {I:Type} [DecidableEq I] (l:List I):List Int:=JK [] l
theorem uX {I:Type} [DecidableEq I] {x:I}:{l:List I}->x∈l->posOf x l < l.length
 | y :: l,h=>by
  simp only [posOf];split
  ·simp
  ·rename_i vI;have:x∈l:=by
    rcases gX.1 h with rfl | h
    ·exact absurd rfl vI
    ·exact h
   have:=uX this;simp only [GO];omega
theorem u4 {I:Type} [DecidableEq I] {x:I}:{l m:List I}->x∈l->posOf x (l++m)=posOf x l
 | y :: l,m,h=>by
  simp only [ue,posOf];split
  ·rfl
  ·rename_i vI;have:x∈l:=by
    rcases gX.1 h with rfl | h
    ·exact absurd rfl vI
    ·exact h
   rw [u4 this]
theorem KH {I:Type} [DecidableEq I] {x:I}:{l:List I}->x∉l->posOf x (l++[x])=l.length
 | [],_=>by simp [posOf]
 | y :: l,h=>by
  have h1:y≠x:=by intro he;subst he;simp at h
  have h2:x∉l:=by intro hm;exact h (by simp [hm])
  simp only [ue,posOf,qQ h1,KH h2,GO]
def mapOf:List Int->Int->List (Int×Int)
 | [],_=>[]
 | x :: l,n=>(x,n) :: mapOf l (n+1)
theorem BX (l:List Int) (n:Int):(mapOf l n).length=l.length:=by
 induction l generalizing n with
 | nil=>rfl
 | cons x l ih=>simp [mapOf,ih]
theorem UT (x:Int):(l:List Int)->(n:Int)->jW (yI (.int .i64)) (mapOf l n) x=if x∈l then some (n+posOf x l) else none
 | [],n=>rfl
 | y :: l,n=>by
  simp only [mapOf,jW,yI,posOf];by_cases h:x=y
  ·subst h;simp
  ·have h2:¬ y=x:=fun e=>h e.symm
   simp only [h,Z3k,zW,gX,false_or,UT x l (n+1),qQ h2];split
   ·congr 1;push_cast;omega
   ·rfl
theorem US (x:Int):(l:List Int)->(n:Int)->x∉l->js (yI (.int .i64)) (mapOf l n) x (n+l.length)=mapOf (l++[x]) n
 | [],n,_=>by simp [mapOf,js]
 | y :: l,n,h=>by
  have h1:¬ x=y:=by intro he;subst he;simp at h
  have h2:x∉l:=by intro hm;exact h (by simp [hm])
  have:=US x l (n+1) h2;simp only [mapOf,js,yI,h1,Z3k,zW,ue,GO];rw [<-this];congr 2;push_cast;omega
theorem z0g (N:Nat) (l:List Int) (hN:l.length < N) (hl:l.length < 4294967296):f80 N l=some (AQ l):=by
 unfold f80;rw [qx (by rw [show ((room:Nat):Int)=4294967296 from rfl];simp [len];omega)];refine YN (fun x:Int×List Int×List (Int×Int)=>∃ (k:Nat) (acc:List Int),x.1=k/\k<=l.length/\x.2.2=mapOf acc 0/\acc.length<=k/\x.2.1.length=k/\AQ l=x.2.1++JK acc (l.drop k)) (fun x=>l.length-x.1.toNat) ?_ N _
  ⟨0,[],rfl,by omega,rfl,by simp,by simp,by simp [AQ]⟩ (by simpa using hN)
 rintro ⟨i,out,m⟩ w ⟨k,acc,hi,hk,hm,hacc,uL,heq⟩ hw;simp only at hi hm uL heq;subst hi;subst hm;simp only [Il];by_cases qJ:k < l.length
 ·have e2:decide ((k:Int) < len l)=true:=by simp [len,qJ]
  rw [e2,zD,zJ qJ];simp only [zB];rw [Z23 qJ] at heq;simp only [JK] at heq;rw [UT];by_cases hmem:l[k]∈acc
  ·rw [yW hmem] at heq;simp only [yW hmem,Option.isSome_some,pE,zW];rw [qx (by simp [room];omega),zw (by omega) (by omega)];refine hw _ ⟨k+1,acc,by simp,by omega,rfl,by omega,by simp [uL],?_⟩ (by simp;omega);simp only [Z44,Int.zero_add,VO,Z5j];exact heq
  ·rw [qQ hmem] at heq;simp only [qQ hmem,Z5h,Z2b,zD];rw [qx (by simp [room,BX];omega),qx (by simp [room];omega),zw (by omega) (by omega)];have hp:=US l[k] acc 0 hmem;rw [Int.zero_add] at hp;have hlen:len (mapOf acc 0)=(acc.length:Int):=by simp [len,BX]
   rw [hlen,hp];refine hw _ ⟨k+1,acc++[l[k]],by simp,by omega,rfl,by simp;omega,by simp [uL],?_⟩ (by simp;omega);simp only [VO,Z5j];exact heq
 ·have e2:decide ((k:Int) < len l)=false:=by simp [len];omega
  rw [e2,zW,heq,Dt (by omega)];simp [JK]
theorem GF {I:Type} [DecidableEq I]:(acc l:List I)->(JK acc l).length=l.length
 | _,[]=>rfl
 | acc,x :: l=>by simp only [JK];split <;> simp [GF _ l]
theorem QL {I:Type} [DecidableEq I] {x:I}:{acc l:List I}->(x∈jY acc l↔x∈acc\/x∈l)
 | acc,[]=>by simp [jY]
 | acc,y :: l=>by
  simp only [jY];split
  ·rename_i h;rw [QL];simp only [gX];constructor
   ·rintro (h1 | h1)
    ·exact .inl h1
    ·exact .inr (.inr h1)
   ·rintro (h1 | rfl | h1)
    ·exact .inl h1
    ·exact .inl h
    ·exact .inr h1
  ·rw [QL];simp [or_assoc]
theorem W9 {I:Type} [DecidableEq I]:(acc l:List I)->∃ ys,jY acc l=acc++ys
 | acc,[]=>⟨[],by simp [jY]⟩
 | acc,x :: l=>by
  simp only [jY];split
  ·exact W9 acc l
  ·obtain ⟨ys,h⟩:=W9 (acc++[x]) l;exact ⟨x :: ys,by rw [h];simp⟩
theorem Xd {I:Type} [DecidableEq I]:(acc l:List I)->(j:Nat)->(h:j < l.length)->(JK acc l)[j]? = some ((posOf l[j] (jY acc l):Nat):Int)
 | acc,x :: l,0,_=>by
  simp only [JK,jY,Z5k];split
  ·rename_i hm;obtain ⟨ys,hy⟩:=W9 acc l;rw [hy,u4 hm];rfl
  ·rename_i hm;obtain ⟨ys,hy⟩:=W9 (acc++[x]) l
   rw [hy,u4 (by simp),KH hm];rfl
 | acc,x :: l,j+1,h=>by
  have h':j < l.length:=by simpa using h
  simp only [JK,jY,Z45];split
  ·simpa using Xd acc l j h'
  ·simpa using Xd (acc++[x]) l j h'
theorem V9 {I:Type} [DecidableEq I]:(acc l:List I)->kI (acc.length:Int) (JK acc l)=true
 | _,[]=>rfl
 | acc,x :: l=>by
  simp only [JK];split
  ·rename_i hm;have:=uX hm;have hmx:max (acc.length:Int) ((posOf x acc:Int)+1)=acc.length:=by omega
   simp only [kI,hmx,V9 acc l,Z31,zA,jL];omega
  ·have hmx:max (acc.length:Int) ((acc.length:Int)+1)=((acc++[x]).length:Int):=by simp;omega
   simp only [kI,hmx,V9 (acc++[x]) l,Z31,zA,jL];omega
theorem P8 {I:Type} [DecidableEq I] (l:List I):xJ (AQ l)=true:=V9 [] l
def vK (n:Nat):List Int:=(List.range n).map fun (i:Nat)=>(i:Int)
theorem KW {n:Nat} {x:Int}:x∈vK n↔0<=x/\x < n:=by
 simp only [vK,Jo,Nw];constructor
 ·rintro ⟨i,hi,rfl⟩;omega
 ·rintro ⟨h0,h1⟩;exact ⟨x.toNat,by omega,by omega⟩
theorem Pl (n:Nat):vK (n+1)=vK n++[(n:Int)]:=by simp [vK,RW]
def top:Int->List Int->Int
 | n,[]=>n
 | n,c :: l=>top (max n (c+1)) l
theorem Pr:(n:Int)->(a b:List Int)->top n (a++b)=top (top n a) b
 | _,[],_=>rfl
 | n,x :: a,b=>by simp only [ue,top,Pr _ a b]
theorem JR:(n:Int)->(a b:List Int)->kI n (a++b)=(kI n a && kI (top n a) b)
 | _,[],_=>by simp [kI,top]
 | n,x :: a,b=>by simp only [ue,kI,top,JR _ a b,Bool.and_assoc]
theorem Rc (q:List Int) (x:Int):top 0 (q++[x])=max (top 0 q) (x+1):=by rw [Pr];rfl
theorem z5z {q:List Int} {x:Int}:xJ (q++[x])=true↔xJ q=true/\0<=x/\x<=top 0 q:=by
 simp [xJ,JR,kI]
theorem Nl {q:List Int}:xJ q=true->0<=top 0 q/\top 0 q<=q.length/\∀ c∈q,0<=c/\c < top 0 q:=by
 induction q using z5h with
 | h0=>intro _;simp [top]
 | h1 q x ih=>
  intro h;obtain ⟨h1,h2,h3⟩:=z5z.1 h;obtain ⟨i1,i2,i3⟩:=ih h1;rw [Rc];refine ⟨by omega,by simp;omega,?_⟩;intro c hc;rcases Gt.1 hc with hc | hc
  ·have:=i3 c hc;omega
  ·simp only [EY] at hc;subst hc;omega
section
variable {I Z:Type} [DecidableEq I] [DecidableEq Z]
theorem x9 (l:List I):(AQ l).length=l.length:=GF [] l
theorem gN {x:I}:{l:List I}->x∈l->l[posOf x l]? = some x
 | y :: l,h=>by
  simp only [posOf];split
  ·rename_i he;simp [he]
  ·rename_i vI;have:x∈l:=by
    rcases gX.1 h with rfl | h
    ·exact absurd rfl vI
    ·exact h
   simpa using gN this
theorem YU {x y:I} {l:List I} (hx:x∈l) (hy:y∈l) (h:posOf x l=posOf y l):x=y:=by
 have h1:=gN hx;have h2:=gN hy;rw [h,h2] at h1;simpa using h1.symm
theorem CE {l:List I} {j:Nat} (h:j < l.length):(AQ l)[j]? = some ((posOf l[j] (jY [] l):Nat):Int):=Xd [] l j h
theorem SS {l:List I} {i j:Nat} (hi:i < l.length) (hj:j < l.length):(AQ l)[i]'(by rw [x9];exact hi)=(AQ l)[j]'(by rw [x9];exact hj)↔l[i]=l[j]:=by
 have h1:=CE hi;have h2:=CE hj;rw [gj (by rw [x9];exact hi)] at h1;rw [gj (by rw [x9];exact hj)] at h2;simp only [zI] at h1 h2;rw [h1,h2];constructor
 ·intro h;exact YU (l:=jY [] l) (by rw [QL];right;exact kK hi) (by rw [QL];right;exact kK hj) (by omega)
 ·intro h;rw [h]
theorem KI {f:I->Z} {x:I}:{l:List I}->(∀ y∈l,f y=f x->y=x)->posOf (f x) (l.map f)=posOf x l
 | [],_=>rfl
 | y :: l,h=>by
  have ih:=KI (f:=f) (x:=x) (l:=l) (fun z hz=>h z (by simp [hz]));simp only [JU,posOf];by_cases he:y=x
  ·simp [he]
  ·have:¬ f y=f x:=fun hf=>he (h y (by simp) hf)
   simp [he,this,ih]
theorem Xc {f:I->Z}:(acc l:List I)->(∀ x∈acc++l,∀ y∈acc++l,f x=f y->x=y)->JK (acc.map f) (l.map f)=JK acc l
 | _,[],_=>rfl
 | acc,x :: l,h=>by
  simp only [JU,JK];by_cases hm:x∈acc
  ·have h1:f x∈acc.map f:=Jo.2 ⟨x,hm,rfl⟩;rw [yW hm,yW h1,KI (fun y hy he=>h y (by simp [hy]) x (by simp) he),Xc acc l (fun a ha b hb=>h a (by simp at ha ⊢;rcases ha with ha | ha <;> simp [ha]) b (by simp at hb ⊢;rcases hb with hb | hb <;> simp [hb]))]
  ·have h1:f x∉acc.map f:=by
    intro hh;obtain ⟨y,hy,he⟩:=Jo.1 hh;exact hm (by rw [<-h y (by simp [hy]) x (by simp) he];exact hy)
   rw [qQ hm,qQ h1,Jk];have:=Xc (f:=f) (acc++[x]) l (fun a ha b hb=>h a (by simpa using ha) b (by simpa using hb));simp only [RK,JU,Z2i] at this;rw [this]
theorem Li {f:I->Z} {l:List I} (h:∀ x∈l,∀ y∈l,f x=f y->x=y):AQ (l.map f)=AQ l:=Xc [] l (by simpa using h)
theorem OY {l:List I} {m:List Z} (hlen:l.length=m.length) (h:∀ i j (hi:i < l.length) (hj:j < l.length),l[i]=l[j]↔m[i]'(by omega)=m[j]'(by omega)):AQ l=AQ m:=by
 have hm:m.map some=l.map (fun x=>m[posOf x l]?):=by
  apply Z2y
  ·simp [hlen]
  ·intro j h1 h2;have hj:j < l.length:=by simpa using h2
   have hp:=uX (kK hj);have hg:=gN (kK hj);rw [gj hp] at hg;simp only [zI] at hg;simp only [Np];rw [gj (by omega)];congr 1;exact ((h _ _ hp hj).1 hg).symm
 have h1:AQ (m.map some)=AQ m:=Li (fun x _ y _ he=>by simpa using he);rw [<-h1,hm];symm;apply Li;intro x hx y hy he;have hpx:=uX hx;have hpy:=uX hy;have hgx:=gN hx;have hgy:=gN hy;rw [gj hpx] at hgx;rw [gj hpy] at hgy;simp only [zI] at hgx hgy;rw [gj (by omega),gj (by omega)] at he;simp only [zI] at he;rw [<-hgx,<-hgy];exact (h _ _ hpx hpy).2 he
end
theorem F0 {I:Type} [DecidableEq I] {l:List I} {i j:Nat} (hi:i < l.length) (hj:j < l.length):(AQ l).getD i 0=(AQ l).getD j 0↔l[i]=l[j]:=by
 have:=SS hi hj;rw [E0,E0,gj (by rw [x9];exact hi),gj (by rw [x9];exact hj)];exact this
theorem N4 (N:Nat) (l:List Int) (h:l.length<=1000):f123 N l=some l:=by
 have kS:room=4294967296:=rfl;unfold f123;rw [qx (by rw [jL,kS];omega)]
theorem xT {I:Type} [DecidableEq I]:∀ (acc l m:List I),jY acc (l++m)=jY (jY acc l) m
 | acc,[],m=>rfl
 | acc,x :: l,m=>by
  simp only [ue,jY];split
  ·exact xT acc l m
  ·exact xT (acc++[x]) l m
theorem UE {I:Type} [DecidableEq I]:∀ (acc l:List I),∃ r,jY acc l=acc++r
 | acc,[]=>⟨[],by simp [jY]⟩
 | acc,x :: l=>by
  simp only [jY];split
  ·exact UE acc l
  ·obtain ⟨r,h⟩:=UE (acc++[x]) l;exact ⟨x :: r,by rw [h];simp⟩
theorem ZX {I:Type} [DecidableEq I]:∀ (acc l:List I),(jY acc l).length<=acc.length+l.length
 | acc,[]=>by simp [jY]
 | acc,x :: l=>by
  simp only [jY];split
  ·have:=ZX acc l;simp only [GO];omega
  ·have:=ZX (acc++[x]) l;simp only [GO,Kj,He] at *;omega
theorem Sf {I:Type} [DecidableEq I] (acc l:List I) (x:I) (h:x∈jY acc l):jY acc (l++[x])=jY acc l:=by
 rw [xT];simp only [jY];rw [yW h]
theorem Ll {I:Type} [DecidableEq I] (acc l:List I) (x:I) (h:x∉jY acc l):jY acc (l++[x])=jY acc l++[x]:=by
 rw [xT];simp only [jY];rw [qQ h]
section
variable {I:Type} [DecidableEq I]
def AY:List I->Int->List (I×Int)
 | [],_=>[]
 | x :: l,n=>(x,n) :: AY l (n+1)
theorem BU {eq:I->I->Bool} (he:∀ a b,eq a b=decide (a=b)) (x:I):(l:List I)->(n:Int)->jW eq (AY l n) x=if x∈l then some (n+posOf x l) else none
 | [],n=>rfl
 | y :: l,n=>by
  simp only [AY,jW,he,posOf];by_cases h:x=y
  ·subst h;simp
  ·have h2:¬ y=x:=fun e=>h e.symm
   simp only [h,Z3k,zW,gX,false_or,BU he x l (n+1),qQ h2];split
   ·congr 1;push_cast;omega
   ·rfl
theorem BV {eq:I->I->Bool} (he:∀ a b,eq a b=decide (a=b)) (x:I):(l:List I)->(n:Int)->x∉l->js eq (AY l n) x (n+l.length)=AY (l++[x]) n
 | [],n,_=>by simp [AY,js]
 | y :: l,n,h=>by
  have h1:¬ x=y:=by intro he;subst he;simp at h
  have h2:x∉l:=by intro hm;exact h (by simp [hm])
  have:=BV he x l (n+1) h2;simp only [AY,js,he,h1,Z3k,zW,ue,GO];rw [<-this];congr 2;push_cast;omega
end
end Go.Kz
namespace Go.Kz
abbrev qp:=List UInt8×(Int×(Int×(Int×(Int×Unit))))
abbrev C8:=Int×(Int×(List Tm×Unit))
abbrev AS:=List UInt8×(Int×(Int×(C8×Unit)))
abbrev zf:=List qp×(List AS×(List Sp×Unit))
@[reducible] def uG (x:Tm):C8:=(x.op,(x.n,(x.kids,())))
@[reducible] def H6 (t:C8):Tm:=⟨t.1,t.2.1,t.2.2.1⟩
theorem N6 (x:Tm):H6 (uG x)=x:=by cases x;rfl
mutual
def Zv:Tm->Nat
 | ⟨_,_,ks⟩=>1+pS ks
def pS:List Tm->Nat
 | []=>0
 | k :: ks=>Zv k+pS ks
end
mutual
def ssz:Sp->Nat
 | ⟨_,_,_,_,t,a,b,l⟩=>1+Zv t+jq a+jq b+l.length
def jq:List Sp->Nat
 | []=>0
 | s :: l=>ssz s+jq l
end
theorem pW (x:Tm):Zv x=1+pS x.kids:=by cases x;simp only [Zv]
theorem yH (x:Tm):1<=Zv x:=by rw [pW];omega
theorem kC (x:Sp):ssz x=1+Zv x.term+jq x.jG+jq x.uw+x.bounds.length:=by cases x;simp only [ssz]
theorem wJ:∀ {l:List Tm} {x:Tm},x∈l->Zv x<=pS l
 | y :: l,x,h=>by
  simp only [pS];rcases gX.1 h with rfl | h
  ·omega
  ·have:=wJ h;omega
theorem ku:∀ (l:List Tm),l.length<=pS l
 | []=>by simp
 | y :: l=>by
  have:=ku l;have:=yH y;simp only [pS,GO];omega
theorem Qu {l:List Tm} {k:Nat} (h:k < l.length):pS (l.take (k+1))=pS (l.take k)+Zv l[k]:=by
 induction l generalizing k with
 | nil=>simp at h
 | cons x l ih=>
  cases k with
  | zero=>simp [pS]
  | succ k=>
   have:=ih (k:=k) (by simpa using h);simp only [Z2p,pS,Z45];omega
theorem Ck (l:List Tm) (k:Nat):pS (l.take k)<=pS l:=by
 induction l generalizing k with
 | nil=>simp [pS]
 | cons x l ih=>
  cases k with
  | zero=>simp [pS]
  | succ k=>have:=ih k;simp only [Z2p,pS];omega
theorem kQ:∀ {l:List Sp} {x:Sp},x∈l->ssz x<=jq l
 | y :: l,x,h=>by
  simp only [jq];rcases gX.1 h with rfl | h
  ·omega
  ·have:=kQ h;omega
theorem z5e (x:Sp):2<=ssz x:=by have:=yH x.term;rw [kC];omega
theorem wV:∀ (l:List Sp),2*l.length<=jq l
 | []=>by simp
 | y :: l=>by
  have:=wV l;have:=z5e y;simp only [jq,GO];omega
theorem QZ {l:List Sp} {k:Nat} (h:k < l.length):jq (l.take (k+1))=jq (l.take k)+ssz l[k]:=by
 induction l generalizing k with
 | nil=>simp at h
 | cons x l ih=>
  cases k with
  | zero=>simp [jq]
  | succ k=>
   have:=ih (k:=k) (by simpa using h);simp only [Z2p,jq,Z45];omega
theorem CZ (l:List Sp) (k:Nat):jq (l.take k)<=jq l:=by
 induction l generalizing k with
 | nil=>simp [jq]
 | cons x l ih=>
  cases k with
  | zero=>simp [jq]
  | succ k=>have:=ih k;simp only [Z2p,jq];omega
def Left (left:Int) (n:Nat) (r:Int):Prop:=r<=left-1/\min left 0-1<=r/\(0<=r->r=left-n)
theorem Ft (N:Nat) (hN:200<=N):∀ (M:Nat) (t:C8) (left:Int),left<=100->-4294967000<=left->left.toNat+2<=M->zp (z14 N M t left) (Left left (Zv (H6 t)))
 | 0,t,left,_,_,h=>by omega
 | M+1,t,left,h1,h2,h3=>by
  show zp (N1 N (z14 N M) t left) _;unfold N1;rw [zw (by omega) (by omega)];have qK:Zv (H6 t)=1+pS t.2.2.1:=by rw [pW]
  refine zp.iter (fun x:Int×Int=>∃ k:Nat,x.1=k/\k<=t.2.2.1.length/\x.2<=left-1-k/\min left 0-1<=x.2/\(0<=x.2->x.2=left-1-pS (t.2.2.1.take k))) (fun x=>(x.2+1).toNat) ?_ N _ ⟨0,rfl,jE _,by simp,by simp only;omega,fun _=>by simp [pS]⟩ (by simp;omega);rintro ⟨i,r⟩ w ⟨k,hi,hk,hr,WJ,pk⟩ hw;simp only at hi hr WJ pk;subst hi;simp only [XE];by_cases qJ:k < t.2.2.1.length
  ·rw [zP qJ,zD];simp only [zB];by_cases h0:0<=r
   ·rw [jg h0,zD,zJ qJ];simp only [zB];refine zp.then (Ft N hN M (uG t.2.2.1[k]) r (by omega) (by omega) (by omega)) fun r' Pw=>?_
    obtain ⟨q1,q2,q3⟩:=Pw;rw [zk (by have:=ku t.2.2.1;omega)];refine hw _ ⟨k+1,by simp,qJ,by simp only;omega,by simp only;omega,fun h=>?_⟩ (by simp only;omega);have e:=q3 h;have e2:=pk h0;rw [N6] at e;rw [Qu qJ];simp only at h ⊢;omega
   ·rw [qW h0,zW];exact zp.ret ⟨by omega,by omega,fun h=>absurd h h0⟩
  ·have hke:k=t.2.2.1.length:=by omega
   have:decide ((k:Int) < len t.2.2.1)=false:=by simp [len];omega
   rw [this,zW];simp only [zB,zW];refine zp.ret ⟨by omega,by omega,fun h=>?_⟩;have e:=pk h;rw [hke,KJ] at e;rw [qK];omega
theorem N0 (N:Nat) (hN:200<=N) (t:C8) (left:Int) (h1:left<=100) (h2 : -4294967000<=left):zp (f151 N t left) (Left left (Zv (H6 t))):=
 Ft N hN N t left h1 h2 (by omega)
def zbd (left:Int) (n:Nat) (r:Int):Prop:=r<=left/\((left < 0->r=left)/\(0<=left->-2<=r))/\(0<=r->r=left-n)
theorem XF (N:Nat) (hN:200<=N):∀ (M:Nat) (l:List Sp) (left:Int),left<=100->-4294967296<=left->left.toNat+1<=M->zp (z15 N M l left) (zbd left (jq l))
 | 0,l,left,_,_,h=>by omega
 | M+1,l,left,h1,h2,h3=>by
  show zp (N2 N (z15 N M) l left) _;unfold N2;refine zp.iter (fun x:Int×Int=>∃ k:Nat,x.1=k/\k<=l.length/\((x.2=left/\k=0)\/(0<=left/\-2<=x.2/\x.2<=left-k))/\(0<=x.2->x.2=left-jq (l.take k))) (fun x=>(x.2+1).toNat) ?_ N _ ⟨0,rfl,jE _,.inl ⟨rfl,rfl⟩,fun _=>by simp [jq]⟩ (by simp;omega);rintro ⟨i,r⟩ w ⟨k,hi,hk,hr,pk⟩ hw;simp only at hi hr pk;subst hi;simp only [XH];by_cases qJ:k < l.length
  ·rw [zP qJ,zD];simp only [zB];by_cases h0:0<=r
   ·rw [jg h0,zD,zJ qJ];simp only [zB];have HT:=wV (l.take k);rw [P0,Z4h hk] at HT;have e0:=pk h0;rw [zw (by omega) (by omega)];refine zp.then (N0 N hN (uG l[k].term) (r-1) (by omega) (by omega)) fun r1 OC=>?_
    obtain ⟨q1,q2,q3⟩:=OC;rw [N6] at q3;by_cases hb:r1 < len l[k].bounds
    ·rw [jg hb,zD];exact zp.ret ⟨by omega,⟨by omega,by omega⟩,fun h=>by omega⟩
    ·rw [qW hb,zW];simp only [len] at hb ⊢;rw [zw (by omega) (by omega)];refine zp.then (XF N hN M l[k].jG (r1-(l[k].bounds.length:Int)) (by omega) (by omega) (by omega)) fun r2 A8=>?_
     obtain ⟨p1,p2,p3⟩:=A8;refine zp.then (XF N hN M l[k].uw r2 (by omega) (by omega) (by omega)) fun r3 hr3=>?_
     obtain ⟨s1,s2,s3⟩:=hr3;rw [zk (by omega)];refine hw _ ⟨k+1,by simp,qJ,.inr ⟨by omega,by simp only;omega,by simp only;omega⟩,fun h=>?_⟩ (by simp only;omega);simp only at h ⊢;have a3:=s3 h;have a2:=p3 (by omega);have a1:=q3 (by omega);rw [QZ qJ,kC];omega
   ·rw [qW h0,zW];exact zp.ret ⟨by omega,⟨by omega,by omega⟩,fun h=>absurd h h0⟩
  ·have hke:k=l.length:=by omega
   have:decide ((k:Int) < len l)=false:=by simp [len];omega
   rw [this,zW];simp only [zB,zW];refine zp.ret ⟨by omega,⟨by omega,by omega⟩,fun h=>?_⟩;have e:=pk h;rw [hke,KJ] at e;exact e
theorem z8c (N:Nat) (hN:200<=N) (l:List Sp) (left:Int) (h1:left<=100) (h2 : -4294967296<=left):zp (f150 N l left) (zbd left (jq l)):=
 XF N hN N l left h1 h2 (by omega)
def qK (h:AS):Nat:=Zv (H6 h.2.2.2.1)
def uf:List AS->Nat
 | []=>0
 | h :: l=>qK h+uf l
theorem xm:∀ {l:List AS} {x:AS},x∈l->qK x<=uf l
 | y :: l,x,h=>by
  simp only [uf];rcases gX.1 h with rfl | h
  ·omega
  ·have:=xm h;omega
theorem Qf {l:List AS} {k:Nat} (h:k < l.length):uf (l.take (k+1))=uf (l.take k)+qK l[k]:=by
 induction l generalizing k with
 | nil=>simp at h
 | cons x l ih=>
  cases k with
  | zero=>simp [uf]
  | succ k=>
   have:=ih (k:=k) (by simpa using h);simp only [Z2p,uf,Z45];omega
theorem Cf (l:List AS) (k:Nat):uf (l.take k)<=uf l:=by
 induction l generalizing k with
 | nil=>simp [uf]
 | cons x l ih=>
  cases k with
  | zero=>simp [uf]
  | succ k=>have:=ih k;simp only [Z2p,uf];omega
structure z92 (f:zf):Prop where
 vars:f.1.length<=10
 IN:f.2.1.length<=10
 size:jq f.2.2.1+uf f.2.1<=80
theorem zfm (N:Nat) (hN:200<=N) (f:zf):zp (f65 N f 10 80) fun b=>b=true->z92 f:=by
 unfold f65;have e1:(cond (decide (10 < len f.1)) (some true) (some (decide (10 < len f.2.1))))=some (decide (10 < len f.1) || decide (10 < len f.2.1)):=by cases decide (10 < len f.1) <;> rfl
 rw [e1,zB];refine zp.cond (fun _=>zp.ret (by simp)) fun hb=>?_
 simp only [VH,xB,len] at hb;refine zp.then (z8c N hN f.2.2.1 80 (by omega) (by omega)) fun r hr=>?_
 obtain ⟨p1,p2,p3⟩:=hr;refine zp.up (fun k r1=>k<=f.2.1.length/\r1<=80/\-2-(k:Int)<=r1/\(0<=r1->r1=80-jq f.2.2.1-uf (f.2.1.take k))) f.2.1.length ?_ ?_ N 0 (jE _) (by omega) r ⟨jE _,by omega,by omega,fun h=>by have:=p3 h;simp [uf];omega⟩
 ·rintro k r1 w hk ⟨q1,q2,q3,q4⟩ hw;simp only [DQ];rw [zP hk,zD,zJ hk];simp only [zB]
  ·refine zp.then (N0 N hN (f.2.1[k].2.2.2.1) r1 (by omega) (by omega)) fun r2 A8=>?_
   obtain ⟨s1,s2,s3⟩:=A8;rw [zk (by omega)];refine hw _ ⟨by omega,by omega,by omega,fun h=>?_⟩;have:=s3 h;have:=q4 (by omega);rw [Qf hk];simp only [qK];omega
 ·rintro r1 w ⟨_,q2,q3,q4⟩;simp only [DQ];rw [show decide (((f.2.1.length:Nat):Int) < len f.2.1)=false from zM _,zW];refine zp.ret fun h=>?_
  have h0:=AM h;have:=q4 h0;rw [KJ] at this;exact ⟨by omega,by omega,by omega⟩
end Go.Kz
namespace Go.Kz
theorem Jf (a b:Bool):(cond a (some true) (some b):Option Bool)=some (a || b):=by cases a <;> rfl
theorem kM (a b:Bool):(cond a (some b) (some false):Option Bool)=some (a && b):=by cases a <;> rfl
theorem gid {I:Type} (x:Option I):(x.bind fun y=>some y)=x:=by cases x <;> rfl
def chB (i:Nat) (c:UInt8):Bool:=(decide (97<=((c.toNat:Nat):Int)) && decide (((c.toNat:Nat):Int)<=122)) || (!decide (i=0) && ((decide (48<=((c.toNat:Nat):Int)) && decide (((c.toNat:Nat):Int)<=57)) || decide (((c.toNat:Nat):Int)=46) || decide (((c.toNat:Nat):Int)=95)))
def JS (s:List UInt8):Bool:=decide (1<=s.length) && decide (s.length<=40) && (List.range s.length).all fun i=>match s[i]? with
 | some c=>chB i c
 | none=>true
theorem Mt (N:Nat) (hN:200<=N) (s:List UInt8):f154 N s=some (JS s):=by
 unfold f154;have e1:(cond (decide (len s < 1)) (some true) (some (decide (40 < len s))))=some (decide (len s < 1) || decide (40 < len s)):=by cases decide (len s < 1) <;> rfl
 rw [e1,zB];by_cases hl:1<=s.length/\s.length<=40
 ·have e2:(decide (len s < 1) || decide (40 < len s))=false:=by simp [len];omega
  rw [e2,zW]
  have:=Kn (F:=fun w=>Wm N s w (fun t2=>some t2) fun (_:Unit)=>some true) 0 s.length (jE _) (fun i=>match s[i]? with
   | some c=>chB i c
   | none=>true) (some true) (some false) ?_ ?_ N (by omega)
  ·rw [show ((0:Nat):Int)=0 from rfl] at this;rw [this];simp only [Z4q,Zp,JS,hl.1,hl.2,A0,Z2q];cases (List.range s.length).all _ <;> rfl
  ·intro k w _ hk;simp only [Wm];rw [zP hk,zD,zJ hk];simp only [zB,gj hk,chB];have ek:decide ((k:Int)=0)=decide (k=0):=by congr 1;simp
   rw [ek];have ew:zz ((k:Int)+1)=(k:Int)+1:=zk (by omega);rw [ew];simp only [Jf,kM,zB];have hc:((s[k].1.toNat:Nat):Int)=((s[k].toNat:Nat):Int):=rfl;rw [hc];generalize ((s[k].toNat:Nat):Int)=c;cases decide (97<=c) <;> cases decide (c<=122) <;> cases decide (k=0) <;> cases decide (48<=c) <;> cases decide (c<=57) <;> cases decide (c=46) <;> cases decide (c=95) <;> rfl
  ·intro w;simp only [Wm];rw [show decide (((s.length:Nat):Int) < len s)=false from zM _,zW]
 ·have e2:(decide (len s < 1) || decide (40 < len s))=true:=by simp [len];omega
  rw [e2,zD];have:JS s=false:=by
   simp only [JS];by_cases h1:1<=s.length
   ·have h2:¬ s.length<=40:=fun h=>hl ⟨h1,h⟩
    simp [h2]
   ·simp [h1]
  rw [this]
theorem MH (N:Nat) (hN:200<=N) (s:List UInt8):f241 N s=some (JS s):=by
 unfold f241;rw [Jf,zB];by_cases hl:1<=s.length/\s.length<=40
 ·have vI:¬ s=[]:=fun h=>by rw [h] at hl;simp at hl
  have e2:(decide (s=([]:List _)) || decide (40 < len s))=false:=by simp [len,vI];omega
  rw [e2,zW]
  have:=Kn (F:=fun w=>WD N s (len s) w (fun t2=>some t2) fun (_:Unit)=>some true) 0 s.length (jE _) (fun i=>match s[i]? with
   | some c=>chB i c
   | none=>true) (some true) (some false) ?_ ?_ N (by omega)
  ·rw [show ((0:Nat):Int)=0 from rfl] at this;rw [this];simp only [Z4q,Zp,JS,hl.1,hl.2,A0,Z2q];cases (List.range s.length).all _ <;> rfl
  ·intro k w _ hk;simp only [WD];rw [show decide ((k:Int) < len s)=true from zP hk,zD,zJ hk];simp only [zB,gj hk,chB];have ek:decide ((k:Int)=0)=decide (k=0):=by congr 1;simp
   rw [ek];have ew:zz ((k:Int)+1)=(k:Int)+1:=zk (by omega);rw [ew];simp only [Jf,kM,gid,zB];have hc:((s[k].1.toNat:Nat):Int)=((s[k].toNat:Nat):Int):=rfl;rw [hc];generalize ((s[k].toNat:Nat):Int)=c;have h1:decide (c < 48) = !decide (48<=c):=by
    by_cases h:48<=c
    ·simp [h]
    ·simp [h];omega
   have h2:decide (57 < c) = !decide (c<=57):=by
    by_cases h:c<=57
    ·simp [h]
    ·simp [h];omega
   rw [h1,h2];cases decide (97<=c) <;> cases decide (c<=122) <;> cases decide (k=0) <;> cases decide (48<=c) <;> cases decide (c<=57) <;> cases decide (c=46) <;> cases decide (c=95) <;> rfl
  ·intro w;simp only [WD];rw [show decide (((s.length:Nat):Int) < len s)=false from zM _,zW]
 ·have e2:(decide (s=([]:List _)) || decide (40 < len s))=true:=by
   cases s with
   | nil=>rfl
   | cons c t=>simp [len] at hl ⊢;omega
  rw [e2,zD];have:JS s=false:=by
   simp only [JS];by_cases h1:1<=s.length
   ·have h2:¬ s.length<=40:=fun h=>hl ⟨h1,h⟩
    simp [h2]
   ·simp [h1]
  rw [this]
def I9 (a b:Int):Bool:=(decide (a<=b) && decide (-1048576<=a)) && decide (b<=1048576)
theorem Vn {a b:Int}:I9 a b=true↔a<=b/\-1048576<=a/\b<=1048576:=by
 simp only [I9,zA,jL];omega
theorem Ms (N:Nat) (a b:Int):f155 N a b=some (I9 a b):=by
 unfold f155;simp only [kM,zB,I9]
theorem MF (N:Nat) (a b:Int):f242 N a b=some (I9 a b):=by
 unfold f242;simp only [kM,zB,I9]
def JB (v:qp):Int:=v.2.2.2.1-v.2.2.1+1
def zS:List qp->Int
 | []=>1
 | v :: l=>JB v*zS l
def jD (vs:List qp) (k:Int):List qp:=vs.filter fun v=>decide (v.2.1=k)
def gd (v:qp):Prop:=v.2.2.1<=v.2.2.2.1/\-1048576<=v.2.2.1/\v.2.2.2.1<=1048576
theorem VT {v:qp} (h:gd v):1<=JB v/\JB v<=2097153:=by
 obtain ⟨h1,h2,h3⟩:=h;simp only [JB];omega
theorem Pf {v:qp} (h:gd v):zz ((zz (v.2.2.2.1-v.2.2.1))+1)=JB v:=by
 obtain ⟨h1,h2,h3⟩:=h;rw [zw (n:=v.2.2.2.1-v.2.2.1) (by omega) (by omega),zw (by omega) (by omega)];rfl
theorem V6 (l:List qp) (v:qp):zS (l++[v])=zS l*JB v:=by
 induction l with
 | nil=>simp [zS]
 | cons x l ih=>simp only [ue,zS,ih,Int.mul_assoc]
theorem vE:∀ {l:List qp},(∀ v∈l,gd v)->1<=zS l
 | [],_=>by simp [zS]
 | v :: l,h=>by
  have h1:=(VT (h v (Nk ..))).1;have h2:=vE (l:=l) fun x hx=>h x (LZ _ hx)
  simp only [zS];have:=Z4t h1 h2 (by omega) (by omega);omega
theorem By (a b:List qp):zS (a++b)=zS a*zS b:=by
 induction a with
 | nil=>simp [zS]
 | cons x l ih=>simp only [ue,zS,ih,Int.mul_assoc]
theorem JM {l:List qp} (h:∀ v∈l,gd v) (k:Nat):zS (l.take k)<=zS l:=by
 have e:=By (l.take k) (l.drop k);rw [RU] at e;rw [e];have h1:=vE (l:=l.take k) fun v hv=>h v (Z3f hv)
 have h2:=vE (l:=l.drop k) fun v hv=>h v (Z46 hv)
 have:=Int.mul_le_mul_of_nonneg_left h2 (show 0<=zS (l.take k) by omega);omega
theorem zo {I:Type} {l:List I} {k:Nat} (h:k < l.length):l.take (k+1)=l.take k++[l[k]]:=by simp
theorem uB (l:List qp) (v:qp) (k:Int):jD (l++[v]) k=if v.2.1=k then jD l k++[v] else jD l k:=by
 simp only [jD,Z2t];by_cases h:v.2.1=k <;> simp [h]
theorem u6 {vs:List qp} (h:∀ v∈vs,gd v) (k:Int):∀ v∈jD vs k,gd v:=fun v hv=>h v (Z30.1 hv).1
theorem xz (vs:List qp) (k:Int):(jD vs k).length<=vs.length:=Z3l ..
theorem IK {n:Int} {v:qp} (h1:1<=n) (h2:n<=4096) (hv:gd v):zz (n*JB v)=n*JB v/\1<=n*JB v:=by
 obtain ⟨a,b⟩:=VT hv;have e1:=Z4t h1 a (by omega) (by omega);have e2:=Z4t h2 b (by omega) (by omega);exact ⟨zw (by omega) (by omega),by omega⟩
theorem DX (N:Nat) (hN:200<=N) (vs:List qp) (hl:vs.length<=10) (hr:∀ v∈vs,gd v) (k:Int):zp (f236 N vs k) fun r=>r=4097\/(r=zS (jD vs k)/\r<=4096):=by
 unfold f236;refine zp.up (fun j n=>n=zS (jD (vs.take j) k)/\1<=n/\n<=4096) vs.length ?_ ?_ N 0 (jE _) (by omega) 1 ⟨by simp [jD,zS],by omega,by omega⟩
 ·rintro j n w hj ⟨h1,h2,h3⟩ hw;have hv:=hr _ (kK hj);simp only [PG];rw [zP hj,zD,zJ hj];simp only [zB];rw [Pf hv,zk (by omega)];obtain ⟨e1,e2⟩:=IK h2 h3 hv;rw [e1];refine zp.cond (fun hb=>?_) fun hb=>zp.cond (fun _=>zp.ret (.inl rfl)) fun vT=>?_
  ·simp only [A1,xB] at hb;refine hw _ ⟨?_,h2,h3⟩;rw [zo hj,uB,qQ hb];exact h1
  ·simp only [HY,jL] at hb;simp only [xB] at vT;refine hw _ ⟨?_,e2,by omega⟩;rw [zo hj,uB,yW hb,V6,<-h1]
 ·rintro n w ⟨h1,h2,h3⟩;simp only [PG];rw [zM,zW];rw [KJ] at h1;exact zp.ret (.inr ⟨h1,h3⟩)
theorem z0k (N:Nat) (hN:200<=N) (vs:List qp) (hl:vs.length<=10) (k:Int):f68 N vs k=some (jD vs k):=by
 refine zp.eq ?_;unfold f68;refine zp.up (fun j o=>o=jD (vs.take j) k) vs.length ?_ ?_ N 0 (jE _) (by omega) [] rfl
 ·rintro j o w hj rfl hw;simp only [Du];rw [zP hj,zD,zJ hj];simp only [zB];rw [zk (by omega)];have hle:=xz (vs.take j) k;rw [P0] at hle;refine zp.cond (fun hb=>zp.qR (by simp only [jL];exact Z1e (m:=100) (by omega) (by decide)) (hw _ ?_)) fun hb=>hw _ ?_
  ·rw [zo hj,uB,yW (AM hb)]
  ·rw [zo hj,uB,qQ (RJ hb)]
 ·rintro o w rfl;simp only [Du];rw [zM,zW,KJ];exact zp.ret rfl
structure zn4 (vs:List qp) (i:Nat) (v:qp):Prop where
 name:JS v.1=true
 new:∀ j (h:j < vs.length),j < i->vs[j].1≠v.1
 za3:0<=v.2.1
 za2:v.2.1<=3
 Qy:gd v
 init:v.2.1=0->v.2.2.1<=v.2.2.2.2.1/\v.2.2.2.2.1<=v.2.2.2.1
 zero:v.2.1≠0->v.2.2.2.2.1=0
structure Zq (vs:List qp):Prop where
 len:vs.length<=10
 each:∀ i (h:i < vs.length),zn4 vs i vs[i]
 sec:zS (jD vs 1)<=4096
 pub:zS (jD vs 2)<=4096
 rnd:zS (jD vs 3)<=256
theorem Zq.Qy {vs:List qp} (h:Zq vs):∀ v∈vs,gd v:=fun v hv=>by
 obtain ⟨i,hi,rfl⟩:=VI.1 hv;exact (h.each i hi).Qy
theorem z8a (N:Nat) (hN:200<=N) (vs:List qp) (hl:vs.length<=10):zp (f153 N vs) fun c=>c=0->Zq vs:=by
 unfold f153;refine zp.Kp (fun j=>∀ i (h:i < vs.length),i < j->zn4 vs i vs[i]) vs.length ?_ ?_ N 0 (jE _) (by omega) (fun i h hi=>by omega)
 ·intro k w hk hinv hw;simp only [PM];rw [zP hk,zD,zJ hk];simp only [zB];rw [Mt N hN];simp only [zB];refine zp.cond (fun _=>zp.ret (by simp)) fun Zw=>?_
  refine zp.Kp (fun j=>∀ i (h:i < vs.length),i < j->vs[i].1≠vs[k].1) k ?_ ?_ N 0 (jE _) (by omega) (fun i h hi=>by omega)
  ·intro j w' hj Xv GG;simp only [PL];have:decide ((j:Int) < (k:Int))=true:=by simpa using hj
   rw [this,zD,zJ (show j < vs.length by omega)];simp only [zB];refine zp.cond (fun _=>zp.ret (by simp)) fun vI=>?_
   rw [zk (by omega)];refine GG fun i h hi=>?_
   by_cases e:i=j
   ·subst e;exact RJ vI
   ·exact Xv i h (by omega)
  ·intro w' Xv;simp only [PL];rw [zma k,zW];simp only [Jf,kM,gid,zB,Ms];refine zp.cond (fun _=>zp.ret (by simp)) fun hkd=>?_
   refine zp.cond (fun _=>zp.ret (by simp)) fun hr=>?_
   refine zp.cond (fun _=>zp.ret (by simp)) fun hi=>?_
   rw [zk (by omega)];refine hw fun i h vf=>?_
   by_cases e:i=k
   ·subst e;simp only [HY] at Zw hr;rw [Vn] at hr;have hkd':vs[i].2.1=0\/vs[i].2.1=1\/vs[i].2.1=2\/vs[i].2.1=3:=by
     by_cases a0:vs[i].2.1=0
     ·exact .inl a0
     by_cases a1:vs[i].2.1=1
     ·exact .inr (.inl a1)
     by_cases a2:vs[i].2.1=2
     ·exact .inr (.inr (.inl a2))
     by_cases a3:vs[i].2.1=3
     ·exact .inr (.inr (.inr a3))
     simp [a0,a1,a2,a3] at hkd
    simp only [VH,RY,xB,HY,jL] at hi;refine ⟨Zw,fun j h hj=>Xv j h hj,by omega,by omega,hr,fun h0=>?_,fun h0=>?_⟩
    ·rcases hi.1 with h | h
     ·exact absurd h0 h
     ·omega
    ·rcases hi.2 with h | h
     ·exact absurd h h0
     ·exact h
   ·exact hinv i h (by omega)
 ·intro w hinv;simp only [PM];rw [zM,zW];have hr:∀ v∈vs,gd v:=fun v hv=>by
   obtain ⟨i,hi,rfl⟩:=VI.1 hv;exact (hinv i hi hi).Qy
  refine zp.then (DX N hN vs hl hr 1) fun r1 h1=>?_
  refine zp.then (P:=fun b=>b=false->r1<=4096/\zS (jD vs 2)<=4096) ?_ fun b hb=>?_
  ·refine zp.cond (fun _=>zp.ret (by simp)) fun h=>zp.then (DX N hN vs hl hr 2) fun r2 h2=>zp.ret fun h'=>?_
   simp only [xB] at h h';omega
  refine zp.then (P:=fun b'=>b'=false->b=false/\zS (jD vs 3)<=256) ?_ fun b' Zg=>?_
  ·refine zp.cond (fun _=>zp.ret (by simp)) fun h=>zp.then (DX N hN vs hl hr 3) fun r2 h2=>zp.ret fun h'=>?_
   simp only [xB] at h';exact ⟨h,by omega⟩
  refine zp.cond (fun _=>zp.ret (by simp)) fun h=>zp.ret fun _=>?_
  obtain ⟨q1,q2⟩:=Zg h;obtain ⟨q3,q4⟩:=hb q1;exact ⟨hl,fun i h=>hinv i h h,by omega,q4,q2⟩
theorem G7 (N:Nat) (hN:200<=N) {vs:List qp} (hl:vs.length<=10) (hr:∀ v∈vs,gd v) (k:Int) (hk:0<=k/\k<=3) (hp:zS (jD vs k)<=4096):f18 N vs k=some (zS (jD vs k),0):=by
 refine zp.eq ?_;unfold f18;have A9:k=0\/k=1\/k=2\/k=3:=by omega
 have eb:(((!decide (k=0) && !decide (k=1)) && !decide (k=2)) && !decide (k=3))=false:=by
  rcases A9 with rfl | rfl | rfl | rfl <;> rfl
 simp only [kM,zB];rw [eb,zW,z0k N hN vs hl];simp only [zB];have KQ:=xz vs k;have uh:=u6 hr k;generalize jD vs k=l at *;have ck:∀ {R:Type} (j:Nat) (hj:j < l.length) (x:Option R),qR (gU l (j:Int)) x=x:=fun j hj x=>qx (by simp only [gU,zA,jL,len];omega)
 refine zp.Kp (fun _=>True) l.length ?_ ?_ N 0 (jE _) (by omega) trivial
 ·intro j w hj _ hw;simp only [DD];rw [zP hj,zD];simp only [ck j hj,zJ hj,zB,Jf];obtain ⟨a,b,c⟩:=uh _ (kK hj);have:((decide (l[j].2.2.2.1 < l[j].2.2.1) || decide (l[j].2.2.1 < -1048576)) || decide (1048576 < l[j].2.2.2.1))=false:=by
   simp only [VH,xB];omega
  rw [this,zW,zk (by omega)];exact hw trivial
 ·intro w _;simp only [DD];rw [zM,zW];refine zp.up (fun j n=>n=zS (l.take j)/\1<=n/\n<=4096) l.length ?_ ?_ N 0 (jE _) (by omega) 1 ⟨rfl,by omega,by omega⟩
  ·rintro j n w hj ⟨h1,h2,h3⟩ hw;have hv:=uh _ (kK hj);simp only [PB];rw [zP hj,zD];simp only [ck j hj,zJ hj,zB];obtain ⟨e1,e2⟩:=IK h2 h3 hv;rw [Pf hv,e1,zk (by omega)];have e3:n*JB l[j]=zS (l.take (j+1)):=by rw [zo hj,V6,<-h1]
   have e4:=JM uh (j+1);refine zp.cond (fun h=>?_) fun _=>hw _ ⟨e3,e2,by omega⟩
   simp only [jL] at h;omega
  ·rintro n w ⟨h1,h2,h3⟩;simp only [PB];rw [zM,zW,h1,KJ];exact zp.ret rfl
theorem DH (N:Nat) (hN:200<=N) {vs:List qp} (hl:vs.length<=10) (hr:∀ v∈vs,gd v) (k:Int) (hk:0<=k/\k<=3) (hp:zS (jD vs k)<=4096):f165 N vs k=some (jD vs k,(zS (jD vs k),0)):=by
 have key:iter (fun w=>xw N k vs (len vs) w (fun t5 t6=>some (([]:List qp),(t5,t6)))
   (fun qO=>iter (fun w=>px N (len qO) qO w (fun U0 Pt=>some (([]:List qp),(U0,Pt))) (fun EE=>some (qO,(EE,0)))) N (0,1))) N (0,([]:List qp))=some (jD vs k,(zS (jD vs k),0)):=by
  refine zp.eq ?_;refine zp.up (fun j o=>o=jD (vs.take j) k) vs.length ?_ ?_ N 0 (jE _) (by omega) [] rfl
  ·rintro j o w hj rfl hw;simp only [xw];rw [zP hj,zD,zJ hj];simp only [zB,Jf];rw [zk (by omega)];have hle:=xz (vs.take j) k;rw [P0] at hle;obtain ⟨a,b,c⟩:=hr _ (kK hj);have:((decide (vs[j].2.2.2.1 < vs[j].2.2.1) || decide (vs[j].2.2.1 < -1048576)) || decide (1048576 < vs[j].2.2.2.1))=false:=by
    simp only [VH,xB];omega
   rw [this,zW];refine zp.cond (fun hb=>hw _ ?_) fun hb=>zp.qR (by simp only [jL];exact Z1e (m:=100) (by omega) (by decide)) (hw _ ?_)
   ·simp only [A1,xB] at hb;rw [zo hj,uB,qQ hb]
   ·simp only [HY,jL] at hb;rw [zo hj,uB,yW hb]
  ·rintro o w rfl;simp only [xw];rw [show decide (((vs.length:Nat):Int) < len vs)=false from zM _,zW,KJ];have KQ:=xz vs k;have uh:=u6 hr k;generalize jD vs k=l at *;refine zp.up (fun j n=>n=zS (l.take j)/\1<=n/\n<=4096) l.length ?_ ?_ N 0 (jE _) (by omega) 1 ⟨rfl,by omega,by omega⟩
   ·rintro j n w hj ⟨h1,h2,h3⟩ hw;have hv:=uh _ (kK hj);simp only [px,f166];rw [zP hj,zD,qx (by simp only [gU,zA,jL,len];omega),zJ hj];simp only [zB];obtain ⟨e1,e2⟩:=IK h2 h3 hv;rw [Pf hv,e1,zk (by omega)];have e3:n*JB l[j]=zS (l.take (j+1)):=by rw [zo hj,V6,<-h1]
    have e4:=JM uh (j+1);refine zp.cond (fun h=>?_) fun _=>hw _ ⟨e3,e2,by omega⟩
    simp only [jL] at h;omega
   ·rintro n w ⟨h1,h2,h3⟩;simp only [px];rw [show decide (((l.length:Nat):Int) < len l)=false from zM _,zW,h1,KJ];exact zp.ret rfl
 unfold f165;have A9:k=0\/k=1\/k=2\/k=3:=by omega
 rcases A9 with rfl | rfl | rfl | rfl <;> exact key
theorem VK (N:Nat) (hN:200<=N) {vs:List qp} (hl:vs.length<=10) (hr:∀ v∈vs,gd v) (k:Int) (hk:0<=k/\k<=3) (hp:zS (jD vs k)<=4096):f71 N vs k=some (zS (jD vs k),0):=by
 unfold f71;rw [DH N hN hl hr k hk hp];rfl
theorem zi8 {I:Type} (l:List I) (k:Nat):sub l 0 (k:Int)=l.take k:=by simp [sub]
theorem z0n (N:Nat) (hN:200<=N) (vs:List qp) (hl:vs.length<=10) (x:qp) (h:∀ j (hj:j < vs.length),vs[j].1≠x.1):f67 N vs (x,())=some (-1):=by
 refine zp.eq ?_;unfold f67;refine zp.Kp (fun _=>True) vs.length ?_ ?_ N 0 (jE _) (by omega) trivial
 ·intro k w hk _ hw;simp only [Dx];rw [show decide ((k:Int) < len vs)=true from zP hk,zD,zJ hk];simp only [zB,f240];rw [qW (h k hk),zW,zk (by omega)];exact hw trivial
 ·intro w _;simp only [Dx];rw [show decide (((vs.length:Nat):Int) < len vs)=false from zM _,zW];exact zp.ret rfl
theorem z89 (N:Nat) (hN:200<=N) {vs:List qp} (hv:Zq vs):f161 N vs=some 0:=by
 have hl:=hv.len;refine zp.eq ?_;unfold f161;refine zp.Kp (fun _=>True) vs.length ?_ ?_ N 0 (jE _) (by omega) trivial
 ·intro k w hk _ hw;obtain ⟨q1,q2,q3,q4,q5,q6,q7⟩:=hv.each k hk;simp only [PH];rw [show decide ((k:Int) < len vs)=true from zP hk,zD,zJ hk];simp only [zB];rw [MH N hN,zB,q1];rw [show (!true)=false from rfl,zW,qx (by simp only [zA,jL,len];omega),zi8];unfold f16;rw [z0n N hN (vs.take k) (by rw [P0];omega) vs[k] (fun j hj=>by
   have v7:j < k:=by rw [P0] at hj;omega
   rw [Z38];exact q2 j (by omega) v7)]
  simp only [zB,Jf,kM,gid,MF];rw [show decide ((0:Int)<=-1)=false from rfl,zW];have e1:(decide (vs[k].2.1 < 0) || decide (3 < vs[k].2.1))=false:=by simp only [VH,xB];omega
  rw [e1,zW,Vn.2 q5];rw [show (!true)=false from rfl,zW];have e2:(!decide (vs[k].2.1=0) && !decide (vs[k].2.2.2.2.1=0))=false:=by
   by_cases h:vs[k].2.1=0
   ·simp [h]
   ·simp [q7 h]
  have e3:(decide (vs[k].2.1=0) && (decide (vs[k].2.2.2.2.1 < vs[k].2.2.1) || decide (vs[k].2.2.2.1 < vs[k].2.2.2.2.1)))=false:=by
   by_cases h:vs[k].2.1=0
   ·have:=q6 h;simp only [RY,VH,xB];right;omega
   ·simp [h]
  rw [e2,zW,e3,zW,zk (by omega)];exact hw trivial
 ·intro w _;simp only [PH];rw [show decide (((vs.length:Nat):Int) < len vs)=false from zM _,zW];refine zp.Kp (fun _=>True) 3 ?_ ?_ N 0 (jE _) (by omega) trivial
  ·intro k w' hk _ GG;simp only [Wf];have A9:k=0\/k=1\/k=2:=by omega
   rcases A9 with rfl | rfl | rfl
   ·rw [show decide (((0:Nat):Int) < ((3:Nat):Int))=true from rfl,zD];refine zp.qR rfl ?_;rw [show idx ((1:Int) :: (2 :: (3 :: ([]:List Int)))) ((0:Nat):Int)=some 1 from rfl,zB,VK N hN hl hv.Qy 1 (by omega) hv.sec];exact GG trivial
   ·rw [show decide (((1:Nat):Int) < ((3:Nat):Int))=true from rfl,zD];refine zp.qR rfl ?_;rw [show idx ((1:Int) :: (2 :: (3 :: ([]:List Int)))) ((1:Nat):Int)=some 2 from rfl,zB,VK N hN hl hv.Qy 2 (by omega) hv.pub];exact GG trivial
   ·rw [show decide (((2:Nat):Int) < ((3:Nat):Int))=true from rfl,zD];refine zp.qR rfl ?_;have h3:=hv.rnd;rw [show idx ((1:Int) :: (2 :: (3 :: ([]:List Int)))) ((2:Nat):Int)=some 3 from rfl,zB,VK N hN hl hv.Qy 3 (by omega) (by omega)];simp only [zB,Jf,kM,gid];have e1:decide (256 < zS (jD vs 3))=false:=by simp only [xB];omega
    rw [e1];exact GG trivial
  ·intro w' _;simp only [Wf];exact zp.ret rfl
end Go.Kz
namespace Go.Kz
def wB (op:Int):Int:=if op=0\/op=24 then 0 else if op=6\/op=7 then 1 else if 8<=op/\op<=22 then 2 else if op=23 then 3 else if op=25 then -2 else -1
theorem z7s (N:Nat) (op:Int):f292 N op=some (wB op):=by
 by_cases h0:op=0
 ·subst h0;rfl
 by_cases Q9:op=24
 ·subst Q9;rfl
 by_cases h6:op=6
 ·subst h6;rfl
 by_cases h7:op=7
 ·subst h7;rfl
 by_cases hm:8<=op/\op<=22
 ·have:op=8\/op=9\/op=10\/op=11\/op=12\/op=13\/op=14\/op=15\/op=16\/op=17\/op=18\/op=19\/op=20\/op=21\/op=22:=by omega
  rcases this with rfl | rfl | rfl | rfl | rfl | rfl | rfl | rfl | rfl | rfl | rfl | rfl | rfl | rfl | rfl <;> rfl
 by_cases Hd:op=23
 ·subst Hd;rfl
 by_cases Hc:op=25
 ·subst Hc;rfl
 have hk:wB op = -1:=by simp [wB,h0,Q9,h6,h7,hm,Hd,Hc]
 rw [hk];unfold f292;simp only [qW h0,qW Q9,qW h6,qW h7,qW (show ¬ op=8 by omega),qW (show ¬ op=9 by omega),qW (show ¬ op=10 by omega),qW (show ¬ op=11 by omega),qW (show ¬ op=12 by omega),qW (show ¬ op=13 by omega),qW (show ¬ op=14 by omega),qW (show ¬ op=15 by omega),qW (show ¬ op=16 by omega),qW (show ¬ op=17 by omega),qW (show ¬ op=18 by omega),qW (show ¬ op=19 by omega),qW (show ¬ op=20 by omega),qW (show ¬ op=21 by omega),qW (show ¬ op=22 by omega),qW Hd,qW Hc,zW]
theorem Tj (op:Int) : -2<=wB op:=by
 simp only [wB];repeat' split
 all_goals omega
def Ny (r:Int) (k:Nat):Bool:=if r = -2 then decide (2<=(k:Int)) && decide ((k:Int)<=33) else decide ((k:Int)=r)
theorem z7k (N:Nat) (op:Int):f339 N op=some (if wB op = -2 then (2,33) else (wB op,wB op)):=by
 unfold f339;simp only [Jf,kM,zB];by_cases h0:op=0\/op=24
 ·have:(decide (op=0) || decide (op=24))=true:=by simpa using h0
  rw [this,zD];simp [wB,h0]
 have e0:(decide (op=0) || decide (op=24))=false:=by simpa using h0
 rw [e0,zW];by_cases h6:op=6\/op=7
 ·have:(decide (op=6) || decide (op=7))=true:=by simpa using h6
  rw [this,zD];simp [wB,h0,h6]
 have e6:(decide (op=6) || decide (op=7))=false:=by simpa using h6
 rw [e6,zW];by_cases hm:8<=op/\op<=22
 ·have:(decide (8<=op) && decide (op<=22))=true:=by simpa using hm
  rw [this,zD];simp [wB,h0,h6,hm]
 have em:(decide (8<=op) && decide (op<=22))=false:=by
  simp only [RY,xB];omega
 rw [em,zW];by_cases Hd:op=23
 ·subst Hd;rfl
 by_cases Hc:op=25
 ·subst Hc;rfl
 rw [qW Hd,qW Hc];simp [wB,h0,h6,hm,Hd,Hc]
def BN (vs:List qp) (vR:Bool) (op n:Int) (k:Nat):Bool:=
 Ny (wB op) k && (if op=24 then (decide (0<=n) && decide (n < len vs)) && !(vR && (match vs[n.toNat]? with
  | some v=>decide (v.2.1=0)
  | none=>true)) else decide (op=0) || decide (n=0))
mutual
def XZ (vs:List qp) (vR:Bool):Tm->Bool
 | ⟨op,n,ks⟩=>BN vs vR op n ks.length && fmL vs vR ks
def fmL (vs:List qp) (vR:Bool):List Tm->Bool
 | []=>true
 | k :: ks=>XZ vs vR k && fmL vs vR ks
end
theorem MG (vs:List qp) (vR:Bool):∀ l:List Tm,fmL vs vR l=l.all (XZ vs vR)
 | []=>rfl
 | k :: ks=>by simp only [fmL,List.all_cons,MG vs vR ks]
theorem Xx (vs:List qp) (vR:Bool) (t:Tm):XZ vs vR t=(BN vs vR t.op t.n t.kids.length && t.kids.all (XZ vs vR)):=by
 cases t;simp only [XZ,MG]
theorem zib {vs:List qp} {n:Int} {vR:Bool}:(cond (decide (n < 0) || decide (len vs<=n)) (some true) (cond vR ((idx vs n).bind fun x=>some (decide (x.2.1=0))) (some false))) =
  some (!((decide (0<=n) && decide (n < len vs)) && !(vR && (match vs[n.toNat]? with
  | some v=>decide (v.2.1=0)
  | none=>true)))):=by
 by_cases h:0<=n/\n < len vs
 ·have e1:(decide (n < 0) || decide (len vs<=n))=false:=by simp only [VH,xB];omega
  have e2:(decide (0<=n) && decide (n < len vs))=true:=by simpa using h
  have h2:n.toNat < vs.length:=by have:=h.2;simp only [len] at this;omega
  have e3:idx vs n=some vs[n.toNat]:=Vx h.1 (by have:=h.2;simp only [len] at this;omega);rw [e1,e2,zW,e3,gj h2];cases vR <;> simp
 ·have e1:(decide (n < 0) || decide (len vs<=n))=true:=by simp only [HJ,jL];omega
  have e2:(decide (0<=n) && decide (n < len vs))=false:=by simp only [RY,xB];omega
  rw [e1,e2];rfl
theorem zwn {r:Int} (hr : -2<=r) (l:List Tm):((decide (r = -1) || (decide (0<=r) && !decide (len l=r))) || (decide (r = -2) && (decide (len l < 2) || decide (33 < len l)))) = !Ny r l.length:=by
 rw [Z40];unfold Ny;simp only [len];by_cases h2:r = -2
 ·subst h2;simp
 ·simp only [h2,Lp];by_cases h1:r = -1
  ·subst h1;simp
  ·simp [h1,h2];omega
theorem zwm {r:Int} (l:List Tm):((decide ((if r = -2 then ((2:Int),(33:Int)) else (r,r)).1 < 0) || decide (len l < (if r = -2 then ((2:Int),(33:Int)) else (r,r)).1)) || decide ((if r = -2 then ((2:Int),(33:Int)) else (r,r)).2 < len l)) = !Ny r l.length:=by
 rw [Z40];unfold Ny;simp only [len];by_cases h2:r = -2
 ·subst h2;simp
 ·simp only [h2,Lp];simp;omega
theorem Fm (N:Nat) (hN:200<=N) (vs:List qp) (vR:Bool):∀ (M:Nat) (t:Tm),Zv t<=M->Zv t<=100->BT N M vs (uG t) vR=some (XZ vs vR t)
 | 0,t,h,_=>by have:=yH t;omega
 | M+1,t,h,ht=>by
  show ML N (BT N M) vs (uG t) vR=_;have qK:=pW t;have KQ:=ku t.kids;unfold ML;simp only [z7s,zB,Jf,kM,gid];rw [Xx];have hlp:iter (fun w=>ga N (BT N M) vR vs (uG t) w (fun t6=>some t6) (fun (_:Unit)=>some true)) N 0=some (t.kids.all (XZ vs vR)):=by
   have:=Ko (F:=fun w=>ga N (BT N M) vR vs (uG t) w (fun t6=>some t6) (fun (_:Unit)=>some true)) t.kids (XZ vs vR) (some true) (some false) ?_ ?_ N (by omega)
   ·rw [this];cases t.kids.all (XZ vs vR) <;> rfl
   ·intro k w hk;simp only [ga];have hm:=wJ (kK hk);rw [show decide ((k:Int) < len t.kids)=true from zP hk,zD,zJ hk];simp only [zB];rw [show BT N M vs (t.kids[k].1,(t.kids[k].2,(t.kids[k].3,()))) vR=some (XZ vs vR t.kids[k]) from Fm N hN vs vR M _ (by omega) (by omega)];rw [zk (by omega)];cases XZ vs vR t.kids[k] <;> rfl
   ·intro w;simp only [ga];rw [show decide (((t.kids.length:Nat):Int) < len t.kids)=false from zM _,zW]
  rw [hlp];rw [zwn (Tj t.op) t.kids];simp only [BN]
  cases ha:Ny (wB t.op) t.kids.length with
  | false=>rfl
  | true=>
   simp only [pE,zW,Z2q];by_cases Q9:t.op=24
   ·rw [jg Q9,zD,yW Q9,zib,zB];cases (decide (0<=t.n) && decide (t.n < len vs)) && !(vR && _) <;> rfl
   ·rw [qW Q9,zW,qQ Q9];by_cases h0:t.op=0
    ·simp [h0]
    ·by_cases hn:t.n=0
     ·simp [h0,hn]
     ·simp [h0,hn]
theorem z7y (N:Nat) (hN:200<=N) (vs:List qp) (vR:Bool) (t:Tm) (ht:Zv t<=100):f237 N vs (uG t) vR=some (XZ vs vR t):=Fm N hN vs vR N t (by omega) ht
theorem Fi (N:Nat) (hN:200<=N) (vs:List qp) (vR:Bool):∀ (M:Nat) (t:Tm),Zv t<=M->Zv t<=100->BS N M vs (uG t) vR=some (XZ vs vR t)
 | 0,t,h,_=>by have:=yH t;omega
 | M+1,t,h,ht=>by
  show MB N (BS N M) vs (uG t) vR=_;have qK:=pW t;have KQ:=ku t.kids;unfold MB;simp only [z7k,zB,Jf,kM,gid];rw [Xx];have hlp:iter (fun w=>ka N (BS N M) vR vs (uG t).2.2.1 (len (uG t).2.2.1) w (fun t6=>some t6) (fun (_:Unit)=>some true)) N 0=some (t.kids.all (XZ vs vR)):=by
   have:=Ko (F:=fun w=>ka N (BS N M) vR vs (uG t).2.2.1 (len (uG t).2.2.1) w (fun t6=>some t6) (fun (_:Unit)=>some true)) t.kids (XZ vs vR) (some true) (some false) ?_ ?_ N (by omega)
   ·rw [this];cases t.kids.all (XZ vs vR) <;> rfl
   ·intro k w hk;simp only [ka];have hm:=wJ (kK hk);rw [show decide ((k:Int) < len t.kids)=true from zP hk,zD,zJ hk];simp only [zB];rw [show BS N M vs (t.kids[k].1,(t.kids[k].2,(t.kids[k].3,()))) vR=some (XZ vs vR t.kids[k]) from Fi N hN vs vR M _ (by omega) (by omega)];rw [zk (by omega)];cases XZ vs vR t.kids[k] <;> rfl
   ·intro w;simp only [ka];rw [show decide (((t.kids.length:Nat):Int) < len t.kids)=false from zM _,zW]
  rw [hlp];rw [zwm t.kids];simp only [BN]
  cases ha:Ny (wB t.op) t.kids.length with
  | false=>rfl
  | true=>
   simp only [pE,zW,Z2q];by_cases Q9:t.op=24
   ·rw [qW (show ¬ t.op=0 by omega),zW,jg Q9,zD,yW Q9,zib,zB];cases (decide (0<=t.n) && decide (t.n < len vs)) && !(vR && _) <;> rfl
   ·rw [qW Q9,zW,qQ Q9];by_cases h0:t.op=0
    ·simp [h0]
    ·by_cases hn:t.n=0
     ·simp [h0,hn]
     ·simp [h0,hn]
theorem z7o (N:Nat) (hN:200<=N) (vs:List qp) (vR:Bool) (t:Tm) (ht:Zv t<=100):f297 N vs (uG t) vR=some (XZ vs vR t):=Fi N hN vs vR N t (by omega) ht
end Go.Kz
namespace Go.Kz
theorem YI (x y:Int):uy x y=min x y:=by simp only [uy];split <;> omega
theorem YL (x y:Int):xW x y=max x y:=by simp only [xW];split <;> omega
theorem Wn (N:Nat) (a b:Int):f120 N a b=some (min a b):=by
 unfold f120;by_cases h:a < b
 ·rw [jg h,zD];congr 1;omega
 ·rw [qW h,zW];congr 1;omega
theorem J8 (N:Nat) (a b:Int):f119 N a b=some (max a b):=by
 unfold f119;by_cases h:b < a
 ·rw [jg h,zD];congr 1;omega
 ·rw [qW h,zW];congr 1;omega
def RP (p:Int×Int):Prop:=-1048576<=p.1/\p.1<=p.2/\p.2<=1048576
def X8 (a b:Int×Int):Int×Int:=(min a.1 b.1,max a.2 b.2)
def j3 (vs:List qp) (op n:Int) (l:List (Int×Int)):Int×Int:=
 let p:=l.getD 0 (0,0);let q:=l.getD 1 (0,0)
 if op=0 then (n,n)
 else if op=24 then (match vs[n.toNat]? with
  | some v=>(v.2.2.1,v.2.2.2.1)
  | none=>(0,0))
 else if op=6 then (-p.2,-p.1)
 else if op=8 then (p.1+q.1,p.2+q.2)
 else if op=9 then (p.1-q.2,p.2-q.1)
 else if op=10 then (min (min (p.1*q.1) (p.1*q.2)) (min (p.2*q.1) (p.2*q.2)),max (max (p.1*q.1) (p.1*q.2)) (max (p.2*q.1) (p.2*q.2)))
 else if op=11 then (if 0<=p.1/\0<=q.1 then 0 else -(max p.2 (-p.1)),max p.2 (-p.1))
 else if op=12 then (if q.1 < 0 then min (q.1+1) 0 else 0,if 0 < q.2 then max (q.2-1) 0 else 0)
 else if op=21 then (min p.1 q.1,min p.2 q.2)
 else if op=22 then (max p.1 q.1,max p.2 q.2)
 else if op=23\/op=25 then (l.drop 2).foldl X8 q
 else (0,1)
structure Head (vs:List qp) (op n:Int) (k:Nat):Prop where
 ar:Ny (wB op) k=true
 ref:op=24->0<=n/\n < len vs
theorem VV {vs:List qp} {vR:Bool} {op n:Int} {k:Nat} (h:BN vs vR op n k=true):Head vs op n k:=by
 simp only [BN,zA] at h;refine ⟨h.1,fun Q9=>?_⟩;have:=h.2;rw [yW Q9] at this;simp only [zA,jL] at this;exact this.1
theorem Head.one {vs:List qp} {op n:Int} {I:Type} {l:List I} (h:Head vs op n l.length) (ho:op=6\/op=7):∃ p,l=[p]:=by
 have h1:wB op=1:=by rcases ho with rfl | rfl <;> rfl
 have:=h.ar;rw [h1] at this;simp [Ny] at this
 match l,this with
 | [p],_=>exact ⟨p,rfl⟩
theorem Head.two {vs:List qp} {op n:Int} {I:Type} {l:List I} (h:Head vs op n l.length) (ho:8<=op/\op<=22):∃ p q,l=[p,q]:=by
 have h1:wB op=2:=by
  simp only [wB];rw [qQ (by omega),qQ (by omega),yW ho]
 have:=h.ar;rw [h1] at this;simp [Ny] at this;have h2:l.length=2:=by omega
 match l,h2 with
 | [p,q],_=>exact ⟨p,q,rfl⟩
theorem Head.many {vs:List qp} {op n:Int} {I:Type} {l:List I} (h:Head vs op n l.length) (ho:op=23\/op=25):2<=l.length/\l.length<=33:=by
 have:=h.ar;rcases ho with rfl | rfl
 ·simp [Ny,show wB 23=3 from rfl] at this;omega
 ·simp [Ny,show wB 25 = -2 from rfl] at this;omega
theorem z6o {a b:Int×Int} (ha:a.1<=a.2):(X8 a b).1<=(X8 a b).2:=by
 simp only [X8];omega
theorem Ji:∀ (l:List (Int×Int)) (a:Int×Int),a.1<=a.2->(l.foldl X8 a).1<=(l.foldl X8 a).2
 | [],a,h=>h
 | x :: l,a,h=>Ji l (X8 a x) (z6o h)
theorem MV {l:List (Int×Int)} (hl:∀ p∈l,RP p) (i:Nat):RP (l.getD i (0,0)):=by
 rw [E0]
 cases h:l[i]? with
 | none=>simp [RP]
 | some p=>exact hl p (Z42 h)
set_option maxHeartbeats 2000000 in
theorem S2 {vs:List qp} (hr:∀ v∈vs,gd v) (op n:Int) {l:List (Int×Int)} (hl:∀ p∈l,RP p):(j3 vs op n l).1<=(j3 vs op n l).2:=by
 obtain ⟨a1,a2,a3⟩:=MV hl 0;obtain ⟨b1,b2,b3⟩:=MV hl 1;simp only [j3];generalize l.getD 0 (0,0)=p at *;generalize hq:l.getD 1 (0,0)=q at *;split
 ·simp
 split
 ·split
  ·rename_i v hv;exact (hr v (Z42 hv)).1
  ·simp
 split
 ·simp only;omega
 split
 ·simp only;omega
 split
 ·simp only;omega
 split
 ·simp only;omega
 split
 ·simp only;split <;> omega
 split
 ·simp only;split <;> split <;> omega
 split
 ·simp only;omega
 split
 ·simp only;omega
 split
 ·exact Ji _ _ b2
 ·simp
theorem zdj {a b:Int} (ha : -1048576<=a/\a<=1048576) (hb : -1048576<=b/\b<=1048576) : -1099511627776<=a*b/\a*b<=1099511627776:=by
 have h:(a*b).natAbs<=1048576*1048576:=by
  rw [Int.natAbs_mul];exact Nat.mul_le_mul (by omega) (by omega)
 omega
theorem xq {a b:Int} (ha : -1048576<=a/\a<=1048576) (hb : -1048576<=b/\b<=1048576):zz (a*b)=a*b:=by
 have:=zdj ha hb;exact zw (by omega) (by omega)
def U5 (vs:List qp) (op n:Int) (l:List (Int×Int)):Int×Int:=if op=0/\(n < -1048576\/1048576 < n) then (-1048577,1048577) else j3 vs op n l
theorem z7r (N:Nat) (hN:200<=N) (vs:List qp) (op n:Int) (ks:List Tm) (l:List (Int×Int)) (hh:Head vs op n l.length) (hl:∀ p∈l,RP p) :
  f293 N vs (op,(n,(ks,()))) (l.map Prod.fst) (l.map Prod.snd)=some (U5 vs op n l):=by
 unfold f293;simp only [Jf,zB];by_cases h0:op=0
 ·subst h0;rw [show decide ((0:Int)=0)=true from rfl,zD];by_cases hn:n < -1048576\/1048576 < n
  ·have:(decide (n < -1048576) || decide (1048576 < n))=true:=by simpa using hn
   rw [this,zD];simp [U5,hn]
  ·have:(decide (n < -1048576) || decide (1048576 < n))=false:=by simpa using hn
   rw [this,zW];simp [U5,j3,hn]
 have eR:U5 vs op n l=j3 vs op n l:=by simp [U5,h0]
 rw [qW h0,zW,eR];by_cases Q9:op=24
 ·obtain ⟨q1,q2⟩:=hh.ref Q9;have h2:n.toNat < vs.length:=by simp only [len] at q2;omega
  have e3:idx vs n=some vs[n.toNat]:=Vx q1 (by simp only [len] at q2;omega);rw [jg Q9,zD,e3];subst Q9;simp [j3,h2]
 rw [qW Q9,zW];by_cases h6:op=6
 ·obtain ⟨p,rfl⟩:=hh.one (.inl h6);have:=hl p (by simp);obtain ⟨a1,a2,a3⟩:=this;subst h6;rw [show decide ((6:Int)=6)=true from rfl,zD];rw [show idx (List.map Prod.snd [p]) 0=some p.2 from rfl,show idx (List.map Prod.fst [p]) 0=some p.1 from rfl];simp only [zB];rw [zw (by omega) (by omega),zw (by omega) (by omega)];simp [j3]
 rw [qW h6,zW];by_cases h2:8<=op/\op<=22
 ·obtain ⟨p,q,rfl⟩:=hh.two h2;obtain ⟨a1,a2,a3⟩:=hl p (by simp);obtain ⟨b1,b2,b3⟩:=hl q (by simp);have i1:idx (List.map Prod.fst [p,q]) 0=some p.1:=rfl;have i2:idx (List.map Prod.fst [p,q]) 1=some q.1:=rfl;have i3:idx (List.map Prod.snd [p,q]) 0=some p.2:=rfl;have i4:idx (List.map Prod.snd [p,q]) 1=some q.2:=rfl;simp only [i1,i2,i3,i4,zB];have sp:∀ x:Int×Int,j3 vs op n [p,q]=x->some x=some (j3 vs op n [p,q]):=fun x h=>by rw [h]
  by_cases h8:op=8
  ·rw [jg h8,zD,zw (by omega) (by omega),zw (by omega) (by omega)];subst h8;rfl
  rw [qW h8,zW];by_cases h9:op=9
  ·rw [jg h9,zD,zw (by omega) (by omega),zw (by omega) (by omega)];subst h9;rfl
  rw [qW h9,zW];by_cases h10:op=10
  ·rw [jg h10,zD];simp only [Wn,J8,zB];rw [xq ⟨a1,by omega⟩ ⟨b1,by omega⟩,xq ⟨a1,by omega⟩ ⟨by omega,b3⟩,xq ⟨by omega,a3⟩ ⟨b1,by omega⟩,xq ⟨by omega,a3⟩ ⟨by omega,b3⟩];subst h10;rfl
  rw [qW h10,zW];by_cases h11:op=11
  ·rw [jg h11,zD];have f3:∀ x:Int,-1048576<=x->x<=1048576->f337 N x=some (if x < 0 then -x else x):=fun x c1 c2=>by
    unfold f337;by_cases hx:x < 0
    ·rw [jg hx,zD,zw (by omega) (by omega),yW hx];congr 1;omega
    ·rw [qW hx,zW,qQ hx]
   rw [f3 _ a1 (by omega),f3 _ (by omega) a3];simp only [zB,J8];have em:max (if p.1 < 0 then -p.1 else p.1) (if p.2 < 0 then -p.2 else p.2)=max p.2 (-p.1):=by split <;> split <;> omega
   rw [em];simp only [kM,zB];subst h11;by_cases hc:0<=p.1/\0<=q.1
   ·have:(decide (0<=p.1) && decide (0<=q.1))=true:=by simpa using hc
    rw [this,zD];simp [j3,hc]
   ·have:(decide (0<=p.1) && decide (0<=q.1))=false:=by
     simp only [RY,xB];omega
    rw [this,zW,zw (by omega) (by omega)];simp [j3,hc]
  rw [qW h11,zW];by_cases Rx:op=12
  ·rw [jg Rx,zD];subst Rx;unfold f338;simp only [Wn,J8,zB];by_cases c1:q.1 < 0
   ·rw [jg c1,zD,zw (n:=q.1+1) (by omega) (by omega)];by_cases c2:0 < q.2
    ·rw [jg c2,zD,zw (by omega) (by omega)];simp [j3,c1,c2];omega
    ·rw [qW c2,zW];simp [j3,c1,c2];omega
   ·rw [qW c1,zW];by_cases c2:0 < q.2
    ·rw [jg c2,zD,zw (by omega) (by omega)];simp [j3,c1,c2];omega
    ·rw [qW c2,zW];simp [j3,c1,c2]
  rw [qW Rx,zW];by_cases h21:op=21
  ·rw [jg h21,zD];simp only [Wn,zB];subst h21;rfl
  rw [qW h21,zW];by_cases h22:op=22
  ·rw [jg h22,zD];simp only [J8,zB];subst h22;rfl
  rw [qW h22,zW,qW (show ¬ op=23 by omega),zW,qW (show ¬ op=25 by omega),zW];have:¬ (op=23\/op=25):=by omega
  simp [j3,h0,Q9,h6,h8,h9,h10,h11,Rx,h21,h22,this]
 rw [qW (show ¬ op=8 by omega),zW,qW (show ¬ op=9 by omega),zW,qW (show ¬ op=10 by omega),zW,qW (show ¬ op=11 by omega),zW,qW (show ¬ op=12 by omega),zW,qW (show ¬ op=21 by omega),zW,qW (show ¬ op=22 by omega),zW];have sE:¬ (op=23\/op=25)->j3 vs op n l=(0,1):=fun h=>by
  simp [j3,h0,Q9,h6,show ¬ op=8 by omega,show ¬ op=9 by omega,show ¬ op=10 by omega,show ¬ op=11 by omega,show ¬ op=12 by omega,show ¬ op=21 by omega,show ¬ op=22 by omega,h]
 by_cases hm:op=23\/op=25
 ·obtain ⟨g1,g2⟩:=hh.many hm;have i2:idx (List.map Prod.fst l) 1=some l[1].1:=by
   rw [show (1:Int)=((1:Nat):Int) from rfl,zJ (by rw [Jk];omega)];simp
  have i4:idx (List.map Prod.snd l) 1=some l[1].2:=by
   rw [show (1:Int)=((1:Nat):Int) from rfl,zJ (by rw [Jk];omega)];simp
  have key:iter (fun w=>Z5 N (List.map Prod.snd l) (List.map Prod.fst l) w (fun Rn LD=>some (LD,Rn))) N (2,l[1].2,l[1].1)=some ((l.drop 2).foldl X8 l[1]):=by
   refine zp.eq ?_;refine zp.up (fun j s=>2<=j/\(s.2,s.1)=((l.take j).drop 2).foldl X8 l[1]) l.length ?_ ?_ N 2 g1 (by omega) _ ?_
   ·rintro j ⟨hi,lo⟩ w hj ⟨Rv,hinv⟩ hw;simp only [Z5];rw [show decide ((j:Int) < len (List.map Prod.fst l))=true from zP (by simpa using hj),zD,zJ (by simpa using hj),zJ (by simpa using hj)];simp only [zB,Wn,J8,Np];rw [zk (by omega)];refine hw _ ⟨by omega,?_⟩;simp only at hinv;rw [show (l.take (j+1)).drop 2=(l.take j).drop 2++[l[j]] by rw [zo hj,Z34 (by rw [P0];omega)],Z47,<-hinv];rfl
   ·rintro ⟨hi,lo⟩ w ⟨_,hinv⟩;simp only [Z5];rw [show decide ((l.length:Int) < len (List.map Prod.fst l))=false by simp [len],zW];rw [KJ] at hinv;exact zp.ret hinv
   ·exact ⟨yS _,by rw [show (l.take 2).drop 2=[] from Dt (by rw [P0];omega)];rfl⟩
  have hq:l.getD 1 (0,0)=l[1]:=by rw [E0,gj (by omega)];rfl
  rcases hm with rfl | rfl
  ·rw [show decide ((23:Int)=23)=true from rfl,zD,zD,i2,i4];simp only [zB];rw [key,<-hq];rfl
  ·rw [show decide ((25:Int)=23)=false from rfl,zW,show decide ((25:Int)=25)=true from rfl,zD,i2,i4];simp only [zB];rw [key,<-hq];rfl
 ·rw [qW (show ¬ op=23 by omega),zW,qW (show ¬ op=25 by omega),zW,sE hm]
end Go.Kz
namespace Go.Kz
theorem I7 {R:Type} (x:Option R):qu [x,x]=x:=by simp [qu]
@[reducible] def JZ (p:Int×Int):Int×(Int×Unit):=(p.1,(p.2,()))
theorem MX (N:Nat) (a b:Int×(Int×Unit)):f365 N a b=some (min a.1 b.1,(max a.2.1 b.2.1,())):=by
 unfold f365;rw [YI,YL]
theorem z7i (N:Nat) (hN:200<=N) (p q:Int×Int) (hp:RP p) (hq:RP q):f363 N (JZ p) (JZ q) ()=some (min (min (p.1*q.1) (p.1*q.2)) (min (p.2*q.1) (p.2*q.2)),(max (max (p.1*q.1) (p.1*q.2)) (max (p.2*q.1) (p.2*q.2)),())):=by
 obtain ⟨a1,a2,a3⟩:=hp;obtain ⟨b1,b2,b3⟩:=hq;unfold f363;simp only [f364,zB];rw [xq ⟨a1,by omega⟩ ⟨b1,by omega⟩,xq ⟨a1,by omega⟩ ⟨by omega,b3⟩,xq ⟨by omega,a3⟩ ⟨b1,by omega⟩,xq ⟨by omega,a3⟩ ⟨by omega,b3⟩];generalize p.1*q.1=a;generalize p.1*q.2=b;generalize p.2*q.1=c;generalize p.2*q.2=d;obtain ⟨n,rfl⟩:∃ n,N=n+4:=⟨N-4,by omega⟩;have st:∀ (k:Nat) (hk:k < 3) (s:Int×(Int×Unit)) (w:Int×(Int×(Int×Unit))->Option (Int×(Int×Unit))) (kx:(Int×(Int×Unit))->Option (Int×(Int×Unit))),
   WB (n+4) (((Nat.succ (Nat.succ 1)):Nat):Int) (b :: (c :: (d :: ([]:List Int)))) (0,(0,())) w kx ((k:Int),s)=w ((k:Int)+1,(min s.1 ([b,c,d][k]'hk),(max s.2.1 ([b,c,d][k]'hk),()))):=by
  intro k hk s w kx;simp only [WB];rw [show decide ((k:Int) < (((Nat.succ (Nat.succ 1)):Nat):Int))=true by simp;omega,zD,qx (by simp [gU];omega),zJ (l:=[b,c,d]) hk];simp only [zB,MX];rw [zk (by omega)]
 simp only [iter];have s0:=st 0 (by omega);have s1:=st 1 (by omega);have s2:=st 2 (by omega);simp only [show ((0:Nat):Int)=0 from rfl,show ((1:Nat):Int)=1 from rfl,show ((2:Nat):Int)=2 from rfl,show (0:Int)+1=1 from rfl,show (1:Int)+1=2 from rfl,show (2:Int)+1=3 from rfl] at s0 s1 s2;rw [s0,s1,s2];simp only [WB];rw [show decide ((3:Int) < (((Nat.succ (Nat.succ 1)):Nat):Int))=false from rfl,zW];simp only [Z5k,Z45,zI,gB,Ds];omega
theorem z7j (N:Nat) (hN:200<=N) (vs:List qp) (op n:Int) (ks:List Tm) (l:List (Int×Int)) (hh:Head vs op n l.length) (hl:∀ p∈l,RP p) :
  f340 N vs (op,(n,(ks,()))) (l.map JZ)=some (JZ (j3 vs op n l)):=by
 unfold f340;by_cases h0:op=0
 ·subst h0;rfl
 rw [qW h0,zW];by_cases Q9:op=24
 ·obtain ⟨q1,q2⟩:=hh.ref Q9;have h2:n.toNat < vs.length:=by simp only [len] at q2;omega
  have e3:idx vs n=some vs[n.toNat]:=Vx q1 (by simp only [len] at q2;omega);rw [jg Q9,zD,e3];subst Q9;simp [j3,h2]
 rw [qW Q9,zW];by_cases h6:op=6
 ·obtain ⟨p,rfl⟩:=hh.one (.inl h6);have:=hl p (by simp);obtain ⟨a1,a2,a3⟩:=this;subst h6;rw [show decide ((6:Int)=6)=true from rfl,zD];rw [show idx (List.map JZ [p]) 0=some (JZ p) from rfl];simp only [zB];rw [zw (by omega) (by omega),zw (by omega) (by omega)];simp [j3]
 rw [qW h6,zW];by_cases h2:8<=op/\op<=22
 ·obtain ⟨p,q,rfl⟩:=hh.two h2;have hp:=hl p (by simp);have hq:=hl q (by simp);obtain ⟨a1,a2,a3⟩:=hp;obtain ⟨b1,b2,b3⟩:=hq;have i1:idx (List.map JZ [p,q]) 0=some (JZ p):=rfl;have i2:idx (List.map JZ [p,q]) 1=some (JZ q):=rfl;simp only [i1,i2,zB,YI,YL];by_cases h8:op=8
  ·rw [jg h8,zD,zw (by omega) (by omega),zw (by omega) (by omega)];subst h8;rfl
  rw [qW h8,zW];by_cases h9:op=9
  ·rw [jg h9,zD,zw (by omega) (by omega),zw (by omega) (by omega)];subst h9;rfl
  rw [qW h9,zW];by_cases h10:op=10
  ·rw [jg h10,zD];rw [show f363 N (p.1,(p.2,())) (q.1,(q.2,())) ()=_ from z7i N hN p q ⟨a1,a2,a3⟩ ⟨b1,b2,b3⟩];subst h10;rfl
  rw [qW h10,zW];by_cases h11:op=11
  ·rw [jg h11,zD];simp only [kM,zB];rw [zw (n:=0-p.1) (by omega) (by omega)];subst h11;by_cases hc:0<=p.1/\0<=q.1
   ·have:(decide (0<=p.1) && decide (0<=q.1))=true:=by simpa using hc
    rw [this,zD];simp [j3,hc]
   ·have:(decide (0<=p.1) && decide (0<=q.1))=false:=by
     simp only [RY,xB];omega
    rw [this,zW,zw (by omega) (by omega)];simp [j3,hc]
  rw [qW h11,zW];by_cases Rx:op=12
  ·rw [jg Rx,zD];subst Rx;by_cases c1:q.1 < 0
   ·rw [jg c1,zD,zw (n:=q.1+1) (by omega) (by omega)];by_cases c2:0 < q.2
    ·rw [jg c2,zD,zw (by omega) (by omega)];simp [j3,c1,c2]
    ·rw [qW c2,zW];simp [j3,c1,c2]
   ·rw [qW c1,zW];by_cases c2:0 < q.2
    ·rw [jg c2,zD,zw (by omega) (by omega)];simp [j3,c1,c2]
    ·rw [qW c2,zW];simp [j3,c1,c2]
  rw [qW Rx,zW];by_cases h21:op=21
  ·rw [jg h21,zD];subst h21;rfl
  rw [qW h21,zW];by_cases h22:op=22
  ·rw [jg h22,zD];subst h22;rfl
  rw [qW h22,zW,qW (show ¬ op=23 by omega),zW,qW (show ¬ op=25 by omega),zW];have:¬ (op=23\/op=25):=by omega
  simp [j3,h0,Q9,h6,h8,h9,h10,h11,Rx,h21,h22,this]
 rw [qW (show ¬ op=8 by omega),zW,qW (show ¬ op=9 by omega),zW,qW (show ¬ op=10 by omega),zW,qW (show ¬ op=11 by omega),zW,qW (show ¬ op=12 by omega),zW,qW (show ¬ op=21 by omega),zW,qW (show ¬ op=22 by omega),zW];have sE:¬ (op=23\/op=25)->j3 vs op n l=(0,1):=fun h=>by
  simp [j3,h0,Q9,h6,show ¬ op=8 by omega,show ¬ op=9 by omega,show ¬ op=10 by omega,show ¬ op=11 by omega,show ¬ op=12 by omega,show ¬ op=21 by omega,show ¬ op=22 by omega,h]
 by_cases hm:op=23\/op=25
 ·obtain ⟨g1,g2⟩:=hh.many hm;have i2:idx (List.map JZ l) 1=some (JZ l[1]):=by
   rw [show (1:Int)=((1:Nat):Int) from rfl,zJ (by rw [Jk];omega)];simp
  have es:sub (l.map JZ) 2 (len (l.map JZ))=(l.drop 2).map JZ:=by
   have e:(l.map JZ).drop 2=(l.drop 2).map JZ:=by rw [List.map_drop]
   show ((l.map JZ).drop 2).take _=_;rw [e,Z2d];simp only [len,Jk,Lx];omega
  have hd:(l.drop 2).length<=33:=by rw [Lx];omega
  have key:iter (fun w=>Z4 N ((l.drop 2).map JZ) (len ((l.drop 2).map JZ)) (0,(0,())) w (fun jd=>some jd)) N (0,JZ l[1])=some (JZ ((l.drop 2).foldl X8 l[1])):=by
   generalize l.drop 2=m at *;refine zp.eq ?_;refine zp.up (fun j s=>s=JZ ((m.take j).foldl X8 l[1])) m.length ?_ ?_ N 0 (jE _) (by omega) _ rfl
   ·rintro j s w hj rfl hw;simp only [Z4];rw [show decide ((j:Int) < len (List.map JZ m))=true from zP (by simpa using hj),zD,zJ (by simpa using hj)];simp only [zB,MX,Np];rw [zk (by omega)];refine hw _ ?_;rw [zo hj,Z47];rfl
   ·rintro s w rfl;simp only [Z4];rw [show decide ((m.length:Int) < len (List.map JZ m))=false by simp [len],zW,KJ];exact zp.ret rfl
  have hq:l.getD 1 (0,0)=l[1]:=by rw [E0,gj (by omega)];rfl
  have hc:(decide (2<=len (l.map JZ)) && decide (len (l.map JZ)<=len (l.map JZ)))=true:=by
   simp only [zA,jL,len,Jk];omega
  rw [hc];simp only [qR,zD];rw [es,i2];simp only [zB];rcases hm with rfl | rfl
  ·rw [show decide ((23:Int)=23)=true from rfl,zD,zD,key,<-hq];rfl
  ·rw [show decide ((25:Int)=23)=false from rfl,zW,show decide ((25:Int)=25)=true from rfl,zD,key,<-hq];rfl
 ·rw [qW (show ¬ op=23 by omega),zW,qW (show ¬ op=25 by omega),zW,sE hm]
def okR (r:Int×Int):Bool:=decide (-1048576<=r.1) && decide (r.2<=1048576)
mutual
def O6 (vs:List qp):Tm->Option (Int×Int)
 | ⟨op,n,ks⟩=>(A6 vs ks).bind fun l=>cond (okR (j3 vs op n l)) (some (j3 vs op n l)) none
def A6 (vs:List qp):List Tm->Option (List (Int×Int))
 | []=>some []
 | k :: ks=>(O6 vs k).bind fun r=>(A6 vs ks).bind fun l=>some (r :: l)
end
theorem CK (vs:List qp) (t:Tm):O6 vs t=(A6 vs t.kids).bind fun l=>cond (okR (j3 vs t.op t.n l)) (some (j3 vs t.op t.n l)) none:=by
 cases t;simp only [O6]
theorem Ea {vs:List qp}:∀ {ks:List Tm} {l:List (Int×Int)} {k:Tm} {r:Int×Int},A6 vs ks=some l->O6 vs k=some r->A6 vs (ks++[k])=some (l++[r])
 | [],l,k,r,h,hk=>by
  simp only [A6,zI] at h;subst h
  simp only [Zu,A6,hk,zB]
 | x :: ks,l,k,r,h,hk=>by
  simp only [A6] at h;rw [ue];simp only [A6]
  cases hx:O6 vs x with
  | none=>rw [hx] at h;simp at h
  | some rx=>
   rw [hx] at h;simp only [zB] at h
   cases hl:A6 vs ks with
   | none=>rw [hl] at h;simp at h
   | some m=>
    rw [hl] at h;simp only [zB,zI] at h;subst h;rw [Ea hl hk];rfl
theorem P5 {vs:List qp}:∀ {ks:List Tm} {l:List (Int×Int)},A6 vs ks=some l->l.length=ks.length
 | [],l,h=>by simp only [A6,zI] at h;subst h;rfl
 | x :: ks,l,h=>by
  simp only [A6] at h
  cases hx:O6 vs x with
  | none=>rw [hx] at h;simp at h
  | some rx=>
   rw [hx] at h;simp only [zB] at h
   cases hl:A6 vs ks with
   | none=>rw [hl] at h;simp at h
   | some m=>
    rw [hl] at h;simp only [zB,zI] at h;subst h;simp [P5 hl]
theorem YW {vs:List qp}:∀ {ks:List Tm} {l:List (Int×Int)},A6 vs ks=some l->∀ (i:Nat) (h:i < ks.length) (h':i < l.length),O6 vs ks[i]=some l[i]
 | [],l,h,i,hi,_=>by simp at hi
 | x :: ks,l,h,i,hi,h'=>by
  simp only [A6] at h
  cases hx:O6 vs x with
  | none=>rw [hx] at h;simp at h
  | some rx=>
   rw [hx] at h;simp only [zB] at h
   cases hl:A6 vs ks with
   | none=>rw [hl] at h;simp at h
   | some m=>
    rw [hl] at h;simp only [zB,zI] at h;subst h
    cases i with
    | zero=>exact hx
    | succ i=>exact YW hl i (by simpa using hi) (by simpa using h')
theorem Iz {vs:List qp} (hr:∀ v∈vs,gd v):∀ (n:Nat) (t:Tm),Zv t<=n->∀ r,O6 vs t=some r->RP r
 | 0,t,h,_,_=>by have:=yH t;omega
 | n+1,t,h,r,ZH=>by
  rw [CK] at ZH;have qK:=pW t
  cases hl:A6 vs t.kids with
  | none=>rw [hl] at ZH;simp at ZH
  | some l=>
   rw [hl] at ZH;simp only [zB] at ZH;have hlen:=P5 hl;have hlP:∀ p∈l,RP p:=fun p hp=>by
    obtain ⟨i,hi,rfl⟩:=VI.1 hp;have h1:i < t.kids.length:=by omega
    have:=wJ (kK h1);exact Iz hr n _ (by omega) _ (YW hl i h1 hi)
   have hle:=S2 hr t.op t.n hlP
   cases zR:okR (j3 vs t.op t.n l) with
   | false=>rw [zR] at ZH;simp at ZH
   | true=>
    rw [zR] at ZH;simp only [zD,zI] at ZH;subst ZH;simp only [okR,zA,jL] at zR;exact ⟨zR.1,hle,zR.2⟩
theorem vP:100<=room:=by decide
theorem Fl (N:Nat) (hN:200<=N) (vs:List qp) (hr:∀ v∈vs,gd v) (vR:Bool):∀ (M:Nat) (t:Tm),Zv t<=M->Zv t<=100->XZ vs vR t=true->zp (z0r N M vs (uG t)) fun r=>r.2.2=true->O6 vs t=some (r.1,r.2.1)
 | 0,t,h,_,_=>by have:=yH t;omega
 | M+1,t,h,ht,hf=>by
  show zp (MI N (z0r N M) vs (uG t)) _;have qK:=pW t;have KQ:=ku t.kids;have r1:=vP;rw [Xx,zA,Z2k] at hf;obtain ⟨hhd,hkf⟩:=hf;unfold MI;refine zp.up (fun j s=>j<=t.kids.length/\∃ l:List (Int×Int),s.1=l.map Prod.snd/\s.2=l.map Prod.fst/\l.length=j/\A6 vs (t.kids.take j)=some l) t.kids.length ?_ ?_ N 0 (jE _) (by omega) ([],[]) ⟨jE _,[],rfl,rfl,rfl,by simp [A6]⟩
  ·rintro j ⟨o0,o1⟩ w hj ⟨_,l,h1,h2,h3,h4⟩ hw;simp only at h1 h2;subst h1 h2;simp only [WE];have hm:=wJ (kK hj);rw [show decide ((j:Int) < len t.kids)=true from zP hj,zD,zJ hj];simp only [zB];refine zp.then (Fl N hN vs hr vR M t.kids[j] (by omega) (by omega) (hkf _ (kK hj))) fun r hrr=>?_
   refine zp.cond (fun _=>zp.ret (by simp)) fun zR=>?_
   simp only [HY] at zR;refine zp.qR (by simp only [jL,Jk];omega) (zp.qR (by simp only [jL,Jk];omega) ?_);rw [zk (by omega)];refine hw _ ⟨hj,l++[(r.1,r.2.1)],by simp,by simp,by simp [h3],?_⟩;rw [zo hj];exact Ea h4 (hrr zR)
  ·rintro ⟨o0,o1⟩ w ⟨_,l,h1,h2,h3,h4⟩;simp only at h1 h2;subst h1 h2;simp only [WE];rw [show decide (((t.kids.length:Nat):Int) < len t.kids)=false from zM _,zW];rw [KJ] at h4;have hlP:∀ p∈l,RP p:=fun p hp=>by
    obtain ⟨i,hi,rfl⟩:=VI.1 hp;exact Iz hr _ _ (yS _) _ (YW h4 i (by omega) hi)
   rw [show f293 N vs (uG t) (List.map Prod.fst l) (List.map Prod.snd l)=_ from z7r N hN vs t.op t.n t.kids l (by rw [h3];exact VV hhd) hlP];simp only [zB,kM];refine zp.ret fun hb=>?_
   simp only at hb;rw [CK,h4,zB];have e:U5 vs t.op t.n l=j3 vs t.op t.n l:=by
    unfold U5 at hb ⊢;split
    ·rename_i hc;rw [yW hc] at hb;simp at hb
    ·rfl
   rw [e] at hb ⊢;have:okR (j3 vs t.op t.n l)=true:=hb;rw [this];rfl
theorem Fh (N:Nat) (hN:200<=N) (vs:List qp) (hr:∀ v∈vs,gd v) (vR:Bool):∀ (M:Nat) (t:Tm),Zv t<=M->Zv t<=100->XZ vs vR t=true->∀ r,O6 vs t=some r->MA N M vs (uG t)=some (JZ r,true)
 | 0,t,h,_,_,_,_=>by have:=yH t;omega
 | M+1,t,h,ht,hf,r,ZH=>by
  show z0q N (MA N M) vs (uG t)=_;have qK:=pW t;have KQ:=ku t.kids;have r1:=vP;rw [Xx,zA,Z2k] at hf;obtain ⟨hhd,hkf⟩:=hf;rw [CK] at ZH
  cases hl:A6 vs t.kids with
  | none=>rw [hl] at ZH;simp at ZH
  | some l=>
  rw [hl] at ZH;simp only [zB] at ZH;have hlen:=P5 hl;have hlP:∀ p∈l,RP p:=fun p hp=>by
   obtain ⟨i,hi,rfl⟩:=VI.1 hp;exact Iz hr _ _ (yS _) _ (YW hl i (by omega) hi)
  unfold z0q DV;refine zp.eq ?_;refine zp.up (fun j s=>s=(l.take j).map JZ) t.kids.length ?_ ?_ N 0 (jE _) (by omega) [] rfl
  ·rintro j s w hj rfl hw;simp only [WC];have hm:=wJ (kK hj);rw [show decide ((j:Int) < len t.kids)=true from zP hj,zD,zJ hj];simp only [zB];rw [show MA N M vs (t.kids[j].1,(t.kids[j].2,(t.kids[j].3,())))=some (JZ l[j],true) from Fh N hN vs hr vR M t.kids[j] (by omega) (by omega) (hkf _ (kK hj)) _ (YW hl j hj (by omega))];simp only [zB,pE,zW];refine zp.qR (by simp only [jL,Jk,P0];omega) ?_;rw [zk (by omega)];refine hw _ ?_;rw [zo (show j < l.length by omega),RK];rfl
  ·rintro s w rfl;simp only [WC];rw [show decide (((t.kids.length:Nat):Int) < len t.kids)=false from zM _,zW,<-hlen,KJ];rw [show f340 N vs (uG t) (l.map JZ)=_ from z7j N hN vs t.op t.n t.kids l (by rw [hlen];exact VV hhd) hlP];simp only [zB]
   cases zR:okR (j3 vs t.op t.n l) with
   | false=>rw [zR] at ZH;simp at ZH
   | true=>
    rw [zR] at ZH;simp only [zD,zI] at ZH;subst ZH;simp only [okR,zA,jL] at zR;rw [jg zR.1,zD,jg zR.2];simp only [idS];exact zp.ret rfl
def C7 (vs:List qp) (vR:Bool) (t:Tm):Prop:=XZ vs vR t=true/\∃ r,O6 vs t=some r
theorem Mr (N:Nat) (hN:200<=N) (vs:List qp) (hr:∀ v∈vs,gd v) (vR:Bool) (t:Tm) (ht:Zv t<=100):zp (f156 N vs (uG t) vR) fun c=>c=0->C7 vs vR t:=by
 unfold f156;rw [z7y N hN vs vR t ht,zB];refine zp.cond (fun _=>zp.ret (by simp)) fun hf=>?_
 simp only [HY] at hf;refine zp.then (Fl N hN vs hr vR N t (by omega) ht hf) fun r hrr=>?_
 refine zp.cond (fun _=>zp.ret (by simp)) fun hk=>zp.ret fun _=>⟨hf,_,hrr ?_⟩
 simpa using hk
theorem ME (N:Nat) (hN:200<=N) (vs:List qp) (hr:∀ v∈vs,gd v) (vR:Bool) (t:Tm) (ht:Zv t<=100) (h:C7 vs vR t):f245 N vs (uG t) vR=some 0:=by
 obtain ⟨hf,r,ZH⟩:=h;unfold f245;rw [z7o N hN vs vR t ht,hf,zB,show (!true)=false from rfl,zW];rw [show f298 N vs (uG t)=some (JZ r,true) from Fh N hN vs hr vR N t (by omega) ht hf r ZH];rfl
end Go.Kz
namespace Go.Kz
mutual
def ZZ:Tm->Nat
 | ⟨_,_,ks⟩=>Zl ks+1
def Zl:List Tm->Nat
 | []=>0
 | k :: ks=>max (ZZ k) (Zl ks)
end
mutual
def I5:Sp->Nat
 | ⟨_,_,_,_,_,a,b,_⟩=>max (pq a) (pq b)+1
def pq:List Sp->Nat
 | []=>0
 | s :: l=>max (I5 s) (pq l)
end
mutual
def dpS:Sp->Bool
 | ⟨_,_,_,_,t,a,b,_⟩=>(decide (ZZ t<=12) && N5 a) && N5 b
def N5:List Sp->Bool
 | []=>true
 | s :: l=>dpS s && N5 l
end
theorem LC (t:Tm):ZZ t=Zl t.kids+1:=by cases t;simp only [ZZ]
theorem LI (s:Sp):I5 s=max (pq s.jG) (pq s.uw)+1:=by cases s;simp only [I5]
theorem z1e (s:Sp):dpS s=((decide (ZZ s.term<=12) && N5 s.jG) && N5 s.uw):=by cases s;simp only [dpS]
theorem Hn (l:List Tm) (x:Tm):Zl (l++[x])=max (Zl l) (ZZ x):=by
 induction l with
 | nil=>simp [Zl]
 | cons y l ih=>simp only [ue,Zl,ih];omega
theorem I4 (l:List Sp) (x:Sp):pq (l++[x])=max (pq l) (I5 x):=by
 induction l with
 | nil=>simp [pq]
 | cons y l ih=>simp only [ue,pq,ih];omega
theorem DS:∀ l:List Sp,N5 l=l.all dpS
 | []=>rfl
 | s :: l=>by simp only [N5,List.all_cons,DS l]
theorem Al:∀ {l:List Tm} {x:Tm},x∈l->ZZ x<=Zl l
 | y :: l,x,h=>by
  simp only [Zl];rcases gX.1 h with rfl | h
  ·omega
  ·have:=Al h;omega
theorem Ar:∀ {l:List Sp} {x:Sp},x∈l->I5 x<=pq l
 | y :: l,x,h=>by
  simp only [pq];rcases gX.1 h with rfl | h
  ·omega
  ·have:=Ar h;omega
mutual
theorem z5b:∀ t:Tm,ZZ t<=Zv t
 | ⟨_,_,ks⟩=>by have:=Ps ks;simp only [ZZ,Zv];omega
theorem Ps:∀ l:List Tm,Zl l<=pS l
 | []=>yS _
 | k :: ks=>by have:=z5b k;have:=Ps ks;simp only [Zl,pS];omega
end
mutual
theorem z5f:∀ s:Sp,I5 s<=ssz s
 | ⟨_,_,_,_,t,a,b,_⟩=>by have:=QG a;have:=QG b;have:=yH t;simp only [I5,ssz];omega
theorem QG:∀ l:List Sp,pq l<=jq l
 | []=>yS _
 | s :: l=>by have:=z5f s;have:=QG l;simp only [pq,jq];omega
end
theorem XG (N:Nat) (hN:200<=N):∀ (M:Nat) (t:Tm),Zv t<=M->Zv t<=100->zp (z0t N M (uG t)) fun _=>True
 | 0,t,h,_=>by have:=yH t;omega
 | M+1,t,h,ht=>by
  show zp (MT N (z0t N M) (uG t)) _;have qK:=pW t;have KQ:=ku t.kids;unfold MT;refine zp.up (fun _ _=>True) t.kids.length ?_ ?_ N 0 (jE _) (by omega) _ trivial
  ·rintro j s w hj _ hw;simp only [WL];have hm:=wJ (kK hj);rw [show decide ((j:Int) < len t.kids)=true from zP hj,zD,zJ hj];simp only [zB];refine zp.then (XG N hN M t.kids[j] (by omega) (by omega)) fun r _=>?_
   rw [zk (by omega)];exact hw _ trivial
  ·rintro s w _;simp only [WL];rw [show decide (((t.kids.length:Nat):Int) < len t.kids)=false from zM _,zW];exact zp.ret trivial
theorem XP (N:Nat) (hN:200<=N):∀ (M:Nat) (l:List Sp),jq l < M->jq l<=100->zp (z0u N M l) fun _=>True
 | 0,l,h,_=>by omega
 | M+1,l,h,ht=>by
  show zp (Ma N (z0u N M) l) _;have KQ:=wV l;unfold Ma;refine zp.up (fun _ _=>True) l.length ?_ ?_ N 0 (jE _) (by omega) _ trivial
  ·rintro j s w hj _ hw;simp only [WM];have hm:=kQ (kK hj);have he:=kC l[j];have hp:=yH l[j].term;rw [zP hj,zD,zJ hj];simp only [zB];refine zp.then (XG N hN N l[j].term (by omega) (by omega)) fun r _=>?_
   refine zp.then (XP N hN M l[j].jG (by omega) (by omega)) fun r _=>?_
   refine zp.then (XP N hN M l[j].uw (by omega) (by omega)) fun r _=>?_
   rw [zk (by omega)];exact hw _ trivial
  ·rintro s w _;simp only [WM];rw [show decide (((l.length:Nat):Int) < len l)=false from zM _,zW];exact zp.ret trivial
theorem XK (N:Nat) (hN:200<=N):∀ (M:Nat) (t:Tm),Zv t<=M->Zv t<=100->MR N M (uG t)=some (ZZ t:Int)
 | 0,t,h,_=>by have:=yH t;omega
 | M+1,t,h,ht=>by
  show MS N (MR N M) (uG t)=_;have qK:=pW t;have KQ:=ku t.kids;unfold MS;refine zp.eq ?_;refine zp.up (fun j s=>s=(Zl (t.kids.take j):Int)) t.kids.length ?_ ?_ N 0 (jE _) (by omega) _ rfl
  ·rintro j s w hj rfl hw;simp only [WI];have hm:=wJ (kK hj);rw [show decide ((j:Int) < len t.kids)=true from zP hj,zD,zJ hj];simp only [zB];rw [show MR N M (t.kids[j].1,(t.kids[j].2,(t.kids[j].3,())))=some (ZZ t.kids[j]:Int) from XK N hN M t.kids[j] (by omega) (by omega)];simp only [zB];rw [zk (by omega)];have e:=Hn (t.kids.take j) t.kids[j];refine zp.cond (fun hb=>hw _ ?_) fun hb=>hw _ ?_
   ·have:=AM hb;rw [zo hj,e];omega
   ·have:=RJ hb;rw [zo hj,e];omega
  ·rintro s w rfl;simp only [WI];rw [show decide (((t.kids.length:Nat):Int) < len t.kids)=false from zM _,zW,KJ];have:=Ps t.kids;rw [zk (by omega)];refine zp.ret ?_;rw [LC];omega
theorem XW (N:Nat) (hN:200<=N):∀ (M:Nat) (l:List Sp),jq l < M->jq l<=100->z0s N M l=some (pq l:Int)
 | 0,l,h,_=>by omega
 | M+1,l,h,ht=>by
  show MO N (z0s N M) l=_;have KQ:=wV l;unfold MO;refine zp.eq ?_;refine zp.up (fun j s=>s=(pq (l.take j):Int)) l.length ?_ ?_ N 0 (jE _) (by omega) _ rfl
  ·rintro j s w hj rfl hw;simp only [WH];have hm:=kQ (kK hj);have he:=kC l[j];have hp:=yH l[j].term;rw [zP hj,zD,zJ hj];simp only [zB];rw [XW N hN M l[j].jG (by omega) (by omega),XW N hN M l[j].uw (by omega) (by omega)];simp only [zB];have b1:=QG l[j].jG;have b2:=QG l[j].uw;rw [zk (by omega),zk (by omega),zk (by omega)];have e:=I4 (l.take j) l[j];rw [LI] at e;refine zp.cond (fun hb=>zp.cond (fun vT=>hw _ ?_) fun vT=>hw _ ?_) fun hb=>zp.cond (fun vT=>hw _ ?_) fun vT=>hw _ ?_
   ·have:=AM hb;have:=AM vT;rw [zo hj,e];omega
   ·have:=AM hb;have:=RJ vT;rw [zo hj,e];omega
   ·have:=RJ hb;have:=AM vT;rw [zo hj,e];omega
   ·have:=RJ hb;have:=RJ vT;rw [zo hj,e];omega
  ·rintro s w rfl;simp only [WH];rw [show decide (((l.length:Nat):Int) < len l)=false from zM _,zW,KJ];exact zp.ret rfl
theorem XV (N:Nat) (hN:200<=N):∀ (M:Nat) (l:List Sp),jq l < M->jq l<=100->MM N M l=some (!N5 l)
 | 0,l,h,_=>by omega
 | M+1,l,h,ht=>by
  show MN N (MM N M) l=_;have KQ:=wV l;unfold MN;have:=Ko (F:=fun w=>Qt N (MM N M) l w (fun t2=>some t2) (fun (_:Unit)=>some false)) l dpS (some false) (some true) ?_ ?_ N (by omega)
  ·rw [this,DS];cases l.all dpS <;> rfl
  ·intro j w hj;simp only [Qt];have hm:=kQ (kK hj);have he:=kC l[j];have hp:=yH l[j].term;rw [zP hj,zD,zJ hj];simp only [zB];rw [show f233 N (l[j].5.1,(l[j].5.2,(l[j].5.3,())))=some (ZZ l[j].term:Int) from XK N hN N l[j].term (by omega) (by omega)];rw [XV N hN M l[j].jG (by omega) (by omega),XV N hN M l[j].uw (by omega) (by omega)];simp only [zB,Jf];rw [zk (by omega),z1e];by_cases Rx:ZZ l[j].term<=12
   ·rw [qW (show ¬ (12 < (ZZ l[j].term:Int)) by omega),jg Rx];cases N5 l[j].jG <;> cases N5 l[j].uw <;> rfl
   ·rw [jg (show 12 < (ZZ l[j].term:Int) by omega),qW Rx];cases N5 l[j].jG <;> cases N5 l[j].uw <;> rfl
  ·intro w;simp only [Qt];rw [show decide (((l.length:Nat):Int) < len l)=false from zM _,zW]
structure zbe (f:zf):Prop where
 few:z92 f
 zlw:f.2.1.length<=8
 IN:∀ h∈f.2.1,ZZ (H6 h.2.2.2.1)<=12
 steps:pq f.2.2.1<=12
 zi3:N5 f.2.2.1=true
theorem z8b (N:Nat) (hN:200<=N) (f:zf) (hf:z92 f):zp (f152 N f) fun b=>b=true->zbe f:=by
 obtain ⟨q1,q2,q3⟩:=id hf;unfold f152;simp only [Jf,zB];refine zp.cond (fun _=>zp.ret (by simp)) fun hb=>?_
 simp only [VH,xB,len] at hb;refine zp.then (XP N hN N f.2.2.1 (by omega) (by omega)) fun r _=>?_
 refine zp.up (fun j _=>∀ i (h:i < f.2.1.length),i < j->ZZ (H6 f.2.1[i].2.2.2.1)<=12) f.2.1.length ?_ ?_ N 0 (jE _) (by omega) _ (fun i h hi=>by omega)
 ·rintro j s w hj hinv hw;simp only [PN];have hm:qK f.2.1[j]<=uf f.2.1:=xm (kK hj);simp only [qK] at hm;rw [show decide ((j:Int) < len f.2.1)=true from zP hj,zD,zJ hj];simp only [zB];refine zp.then (XG N hN N (H6 f.2.1[j].2.2.2.1) (by omega) (by omega)) fun r _=>?_
  rw [show f233 N (f.2.1[j].2.2.2.1.1,f.2.1[j].2.2.2.1.2)=some (ZZ (H6 f.2.1[j].2.2.2.1):Int) from XK N hN N (H6 f.2.1[j].2.2.2.1) (by omega) (by omega)];simp only [zB];refine zp.cond (fun _=>zp.ret (by simp)) fun hd=>?_
  have hd':=RJ hd;rw [zk (by omega)];refine hw _ fun i h hi=>?_
  by_cases e:i=j
  ·subst e;omega
  ·exact hinv i h (by omega)
 ·rintro s w hinv;simp only [PN];rw [show decide (((f.2.1.length:Nat):Int) < len f.2.1)=false from zM _,zW];rw [show f234 N f.2.2.1=_ from XW N hN N f.2.2.1 (by omega) (by omega),show f235 N f.2.2.1=_ from XV N hN N f.2.2.1 (by omega) (by omega)];simp only [zB,kM];refine zp.ret fun h=>?_
  simp only [zA,A1,HY,jL] at h;refine ⟨hf,by omega,fun x hx=>?_,by omega,h.2⟩;obtain ⟨i,hi,rfl⟩:=VI.1 hx;exact hinv i hi hi
@[reducible] def xV (n:Int):Int×(Bool×Unit):=(n,(false,()))
theorem PI (N:Nat) (n:Int) (h:n<=1024):f159 N (xV n)=some (((),(false,())),(xV n,())):=by
 unfold f159;rw [Jf,zB,qW (show ¬ 1024 < (xV n).1 by simp only;omega)];rfl
theorem XB (N:Nat) (hN:200<=N):∀ (M:Nat) (t:Tm) (d n:Int),Zv t<=M->Zv t<=100->1<=d->d+ZZ t<=13->0<=n->n+Zv t<=1024->Ml N M (uG t) d (xV n)=some (((),()),(xV (n+Zv t),()))
 | 0,t,_,_,h,_,_,_,_,_=>by have:=yH t;omega
 | M+1,t,d,n,h,ht,h1,hd,hn,hs=>by
  show Mm N (Ml N M) (uG t) d (xV n)=_;have qK:=pW t;have KQ:=ku t.kids;have hdp:=LC t;unfold Mm;rw [Jf,zB,qW (show ¬ 12 < d by omega)];rw [show ((xV n).2.1 || false)=false from rfl,zw (n:=(xV n).1+1) (by simp only;omega) (by simp only;omega)];rw [show f159 N ((xV n).1+1,(false,(xV n).2.2))=_ from PI N (n+1) (by omega)];simp only [zB,zW];refine zp.eq ?_;refine zp.up (fun j s=>s=xV (n+1+pS (t.kids.take j))) t.kids.length ?_ ?_ N 0 (jE _) (by omega) _ (by simp [pS])
  ·rintro j s w hj rfl hw;simp only [Wh];have hm:=wJ (kK hj);have hm2:=Al (kK hj);have ht1:=Qu hj;have ht2:=Ck t.kids (j+1);rw [show decide ((j:Int) < len t.kids)=true from zP hj,zD,zJ hj];simp only [zB];rw [zw (n:=d+1) (by omega) (by omega)];rw [show Ml N M (t.kids[j].1,(t.kids[j].2,(t.kids[j].3,()))) (d+1) (xV (n+1+pS (t.kids.take j)))=_ from XB N hN M t.kids[j] (d+1) _ (by omega) (by omega) (by omega) (by omega) (by omega) (by omega)];simp only [zB];rw [zk (by omega)];refine hw _ ?_;simp only [xV,gB,Ds];omega
  ·rintro s w rfl;simp only [Wh];rw [show decide (((t.kids.length:Nat):Int) < len t.kids)=false from zM _,zW,KJ];refine zp.ret ?_;simp only [xV,gB,Ds,VL];omega
theorem XC (N:Nat) (hN:200<=N):∀ (M:Nat) (l:List Sp) (d n:Int),jq l < M->jq l<=100->1<=d->(l≠[]->d+pq l<=13)->N5 l=true->0<=n->n+jq l<=1024->zp (z13 N M l d (xV n)) fun r=>∃ n':Int,r=(((),()),(xV n',()))/\n<=n'/\n'<=n+jq l
 | 0,l,_,_,h,_,_,_,_,_,_=>by omega
 | M+1,l,d,n,h,ht,h1,hd,hp,hn,hs=>by
  show zp (Mn N (z13 N M) l d (xV n)) _;have KQ:=wV l;unfold Mn;refine zp.up (fun j s=>∃ m:Int,s=xV m/\n<=m/\m<=n+jq (l.take j)) l.length ?_ ?_ N 0 (jE _) (by omega) _ ⟨n,rfl,by omega,by simp [jq]⟩
  ·rintro j s w hj ⟨m,rfl,hm1,hm2⟩ hw;simp only [Wi];have hm:=kQ (kK hj);have hdm:=Ar (kK hj);have ht1:=QZ hj;have ht2:=CZ l (j+1);have he:=kC l[j];have hde:=LI l[j];have htp:=yH l[j].term;have hd':=hd (fun e=>by rw [e] at hj;simp at hj);rw [DS,Z2k] at hp;have hpj:=hp _ (kK hj);rw [z1e] at hpj;simp only [zA,jL] at hpj;obtain ⟨⟨p1,p2⟩,p3⟩:=hpj;rw [show decide ((j:Int) < len l)=true from zP hj,zD,zJ hj];simp only [zB];rw [Jf,zB,qW (show ¬ 12 < d by omega),Bool.or_false];rw [zw (n:=m+1) (by omega) (by omega)];rw [show f159 N (m+1,(false,()))=_ from PI N (m+1) (by omega)];simp only [zB,zW];rw [show f160 N (l[j].5.1,(l[j].5.2,(l[j].5.3,()))) 1 (xV (m+1))=_ from XB N hN N l[j].term 1 (m+1) (by omega) (by omega) (by omega) (by omega) (by omega) (by omega)];simp only [zB];rw [zw (n:=d+1) (by omega) (by omega)];refine zp.then (XC N hN M l[j].jG (d+1) _ (by omega) (by omega) (by omega) (fun _=>by omega) p2 (by omega) (by omega)) ?_;rintro _ ⟨m1,rfl,c1,c2⟩;refine zp.then (XC N hN M l[j].uw (d+1) m1 (by omega) (by omega) (by omega) (fun _=>by omega) p3 (by omega) (by omega)) ?_;rintro _ ⟨m2,rfl,c3,c4⟩;rw [zk (by omega)];exact hw _ ⟨m2,rfl,by omega,by omega⟩
  ·rintro s w ⟨m,rfl,hm1,hm2⟩;simp only [Wi];rw [show decide (((l.length:Nat):Int) < len l)=false from zM _,zW];rw [KJ] at hm2;exact zp.ret ⟨m,rfl,hm1,hm2⟩
end Go.Kz
namespace Go.Kz
abbrev zn5:=Int×(Int×(Int×(Int×(C8×(List Sp×(List Sp×(List Int×Unit)))))))
@[reducible] def R9 (s:Sp):zn5:=(s.act,(s.cost,(s.var,(s.n,(uG s.term,(s.jG,(s.uw,(s.bounds,()))))))))
def CR (vs:List qp) (v:Int):Bool:=(decide (0<=v) && decide (v < len vs)) && (match vs[v.toNat]? with
 | some x=>decide (x.2.1=0)
 | none=>false)
theorem zdm (vs:List qp) (v:Int):(cond (decide (0<=v) && decide (v < len vs)) ((idx vs v).bind fun x=>some (decide (x.2.1=0))) (some false))=some (CR vs v):=by
 unfold CR;by_cases h:0<=v/\v < len vs
 ·have e2:(decide (0<=v) && decide (v < len vs))=true:=by simpa using h
  have h2:v.toNat < vs.length:=by have:=h.2;simp only [len] at this;omega
  have e3:idx vs v=some vs[v.toNat]:=Vx h.1 (by have:=h.2;simp only [len] at this;omega);rw [e2,zD,e3,gj h2];rfl
 ·have e2:(decide (0<=v) && decide (v < len vs))=false:=by simp only [RY,xB];omega
  rw [e2];rfl
theorem z6c (vs:List qp) (v:Int):(cond (decide (v < 0) || decide (len vs<=v)) (some true) ((idx vs v).bind fun x=>some (!decide (x.2.1=0))))=some (!CR vs v):=by
 unfold CR;by_cases h:0<=v/\v < len vs
 ·have e1:(decide (v < 0) || decide (len vs<=v))=false:=by simp only [VH,xB];omega
  have e2:(decide (0<=v) && decide (v < len vs))=true:=by simpa using h
  have h2:v.toNat < vs.length:=by have:=h.2;simp only [len] at this;omega
  have e3:idx vs v=some vs[v.toNat]:=Vx h.1 (by have:=h.2;simp only [len] at this;omega);rw [e1,e2,zW,e3,gj h2];rfl
 ·have e1:(decide (v < 0) || decide (len vs<=v))=true:=by simp only [HJ,jL];omega
  have e2:(decide (0<=v) && decide (v < len vs))=false:=by simp only [RY,xB];omega
  rw [e1,e2];rfl
theorem T8 {vs:List qp} {v:Int} (h:CR vs v=true):∃ k:Nat,∃ hk:k < vs.length,v=k/\vs[k].2.1=0:=by
 simp only [CR,zA,jL,len] at h;obtain ⟨⟨h1,h2⟩,h3⟩:=h;have hk:v.toNat < vs.length:=by omega
 rw [gj hk] at h3;exact ⟨v.toNat,hk,by omega,AM h3⟩
def z4k (t:Tm):Bool:=(decide (t.op=0) && decide (t.n=0)) && decide (len t.kids=0)
theorem z7q (N:Nat) (t:Tm):f294 N (uG t)=some (z4k t):=by
 unfold f294;simp only [kM,zB];rfl
theorem z7n (N:Nat) (t:Tm):f302 N (uG t)=some (z4k t):=by
 unfold f302;simp only [kM,zB];rfl
structure Nx (l:List Int):Prop where
 one:1<=l.length
 zdk:l.length<=32
 first:∀ h:0 < l.length,(0:Int)<=l[0]
 up:∀ i (_:0 < i) (h2:i < l.length),l[i-1] < l[i]
theorem z7p (N:Nat) (hN:200<=N) (l:List Int):zp (f295 N l) fun b=>b=true->Nx l:=by
 unfold f295;rw [Jf,zB];by_cases hl:1<=l.length/\l.length<=32
 ·have e:(decide (len l < 1) || decide (32 < len l))=false:=by simp only [VH,xB,len];omega
  rw [e,zW,show idx l 0=some l[0] from zJ (k:=0) (by omega)];simp only [zB];refine zp.cond (fun _=>zp.ret (by simp)) fun h0=>?_
  have h0':=RJ h0;refine zp.Kp (fun j=>1<=j/\∀ i (_:0 < i) (h2:i < l.length),i < j->l[i-1] < l[i]) l.length ?_ ?_ N 1 hl.1 (by omega) ⟨yS _,fun i h1 h2 h3=>by omega⟩
  ·rintro j w hj ⟨hj1,hinv⟩ hw;simp only [PV];rw [zP hj,zD,zJ hj,uu (by omega) (by omega),zJ (show j-1 < l.length by omega)];simp only [zB];refine zp.cond (fun _=>zp.ret (by simp)) fun hc=>?_
   have BO:=RJ hc;rw [zk (by omega)];refine hw ⟨by omega,fun i h1 h2 h3=>?_⟩;by_cases e:i=j
   ·subst e;omega
   ·exact hinv i h1 h2 (by omega)
  ·rintro w ⟨_,hinv⟩;simp only [PV];rw [zM,zW];exact zp.ret fun _=>⟨hl.1,hl.2,fun _=>by omega,fun i h1 h2=>hinv i h1 h2 h2⟩
 ·have e:(decide (len l < 1) || decide (32 < len l))=true:=by simp only [HJ,jL,len];omega
  rw [e,zD];exact zp.ret (by simp)
theorem z7m (N:Nat) (hN:200<=N) (l:List Int) (h:Nx l):f303 N l=some true:=by
 obtain ⟨h1,h2,h3,h4⟩:=h;unfold f303;refine zp.eq ?_;refine zp.Kp (fun _=>True) l.length ?_ ?_ N 0 (jE _) (by omega) trivial
 ·intro j w hj _ hw;simp only [PY];rw [show decide ((j:Int) < len l)=true from zP hj,zD];by_cases h0:0 < j
  ·rw [jg (show (0:Int) < j by omega),zD,zJ hj,uu h0 (by omega),zJ (show j-1 < l.length by omega)];simp only [zB];have:=h4 j h0 hj;rw [qW (show ¬ l[j]<=l[j-1] by omega),zW,zk (by omega)];exact hw trivial
  ·rw [qW (show ¬ (0:Int) < j by omega),zW];simp only [zB,zW];rw [zk (by omega)];exact hw trivial
 ·intro w _;simp only [PY];rw [show decide (((l.length:Nat):Int) < len l)=false from zM _,zW];exact zp.ret rfl
structure E8 (f:zf) (last:Bool) (s:Sp):Prop where
 act0:0<=s.act
 act6:s.act<=6
 var:s.act=0\/s.act=5->CR f.1 s.var=true
 var0:¬ (s.act=0\/s.act=5)->s.var=0
 n0:¬ (s.act=4\/s.act=5)->s.n=0
 rel:s.act=5->0<=s.n/\s.n < len f.2.1
 zero:s.act=2\/s.act=5\/s.act=6->z4k s.term=true
 jG:s.act≠3->s.act≠4->s.jG=[]
 uw:s.act≠3->s.uw=[]
 bnd:s.act≠6->s.bounds=[]
 set:s.act=6->last=true/\Nx s.bounds
theorem ZB {I:Type} {l:List I}:(len l=0)=(l=[]):=by
 cases l with
 | nil=>simp [len]
 | cons x l=>simp only [len,GO,reduceCtorEq,eq_iff_iff,iff_false];omega
theorem z7x (N:Nat) (hN:200<=N) (f:zf) (s:Sp) (last:Bool):zp (f239 N f (R9 s) last) fun b=>b=true->E8 f last s:=by
 unfold f239;simp only [kM,gid,zB,zdm];rw [show f294 N ((R9 s).2.2.2.2.1.1,(R9 s).2.2.2.2.1.2)=_ from z7q N s.term];simp only [kM,zB];refine zp.cond (fun h=>zp.ret fun hb=>?_) fun a0=>?_
 ·simp only [zA,jL,ZB] at h hb;obtain ⟨⟨⟨⟨b1,b2⟩,b3⟩,b4⟩,b5⟩:=hb;exact ⟨by omega,by omega,fun _=>b3,fun c=>absurd (.inl h) c,fun _=>b4,fun c=>by omega,fun c=>by omega,fun _ _=>b1,fun _=>b2,fun _=>b5,fun c=>by omega⟩
 refine zp.cond (fun h=>zp.ret fun hb=>?_) fun a1=>?_
 ·simp only [zA,jL,ZB] at h hb;obtain ⟨⟨⟨⟨b1,b2⟩,b3⟩,b4⟩,b5⟩:=hb;exact ⟨by omega,by omega,fun c=>by omega,fun _=>b3,fun _=>b4,fun c=>by omega,fun c=>by omega,fun _ _=>b1,fun _=>b2,fun _=>b5,fun c=>by omega⟩
 refine zp.cond (fun h=>zp.ret fun hb=>?_) fun a2=>?_
 ·simp only [zA,jL,ZB] at h hb;obtain ⟨⟨⟨⟨⟨b1,b2⟩,b3⟩,b4⟩,b5⟩,b6⟩:=hb;exact ⟨by omega,by omega,fun c=>by omega,fun _=>b3,fun _=>b4,fun c=>by omega,fun _=>b6,fun _ _=>b1,fun _=>b2,fun _=>b5,fun c=>by omega⟩
 refine zp.cond (fun h=>zp.ret fun hb=>?_) fun a3=>?_
 ·simp only [zA,jL,ZB] at h hb;obtain ⟨⟨b3,b4⟩,b5⟩:=hb;exact ⟨by omega,by omega,fun c=>by omega,fun _=>b3,fun _=>b4,fun c=>by omega,fun c=>by omega,fun c=>absurd h c,fun c=>absurd h c,fun _=>b5,fun c=>by omega⟩
 refine zp.cond (fun h=>zp.ret fun hb=>?_) fun a4=>?_
 ·simp only [zA,jL,ZB] at h hb;obtain ⟨⟨b3,b2⟩,b5⟩:=hb;exact ⟨by omega,by omega,fun c=>by omega,fun _=>b3,fun c=>absurd (.inl h) c,fun c=>by omega,fun c=>by omega,fun _ c=>absurd h c,fun _=>b2,fun _=>b5,fun c=>by omega⟩
 refine zp.cond (fun h=>zp.ret fun hb=>?_) fun a5=>?_
 ·simp only [zA,jL,ZB] at h hb;obtain ⟨⟨⟨⟨⟨⟨b1,b2⟩,b3⟩,b4⟩,b5⟩,b6⟩,b7⟩:=hb;exact ⟨by omega,by omega,fun _=>b3,fun c=>absurd (.inr h) c,fun c=>absurd (.inr h) c,fun _=>⟨b4,b5⟩,fun _=>b7,fun _ _=>b1,fun _=>b2,fun _=>b6,fun c=>by omega⟩
 refine zp.cond (fun h=>?_) fun a6=>zp.ret (by simp)
 refine zp.cond (fun hb=>zp.mono (z7p N hN s.bounds) fun b vT hb3=>?_) fun _=>zp.ret (by simp)
 simp only [zA,jL,ZB] at h hb;obtain ⟨⟨⟨⟨⟨b1,b2⟩,b3⟩,b4⟩,b5⟩,b6⟩:=hb;exact ⟨by omega,by omega,fun c=>by omega,fun _=>b4,fun _=>b5,fun c=>by omega,fun _=>b6,fun _ _=>b1,fun _=>b2,fun c=>absurd h c,fun _=>⟨b3,vT hb3⟩⟩
theorem z7w (N:Nat) (hN:200<=N) (f:zf) (s:Sp) (last:Bool) (h:E8 f last s):f246 N f (R9 s) last=some true:=by
 obtain ⟨q1,q2,q3,q4,q5,q6,q7,q8,q9,qa,qb⟩:=h;have eN:∀ l:List Int,len l=(l.length:Int):=fun _=>rfl
 have za1:((cond (!(decide (s.act=6))) (some true) ((cond last (some (decide (0 < (len s.bounds)))) (some false)).bind fun zg8=>(cond zg8 (some (decide ((len s.bounds)<=32))) (some false)).bind fun zg7=>(cond zg7 ((idx s.bounds 0).bind fun x_9=>some (decide (0<=x_9))) (some false)).bind fun zg6=>(cond zg6 ((f303 N s.bounds).bind fun Vs=>some Vs) (some false)).bind fun zg5=>some zg5)).bind fun zg4=>some zg4)=some true:=by
  by_cases h6:s.act=6
  ·obtain ⟨b1,b2⟩:=qb h6;have c1:=b2.one;have c2:=b2.zdk;have c3:=b2.first (by omega);rw [jg h6,show (!true)=false from rfl,zW,b1,zD,zB,jg (show 0 < len s.bounds by rw [eN];omega),zD,zB,jg (show len s.bounds<=32 by rw [eN];omega),zD];rw [show idx s.bounds 0=some s.bounds[0] from zJ (k:=0) (by omega),zB,jg c3,zB,zD,z7m N hN _ b2];rfl
  ·rw [qW h6];rfl
 have n0:∀ {I:Type} {l:List I},l=[]->decide (0 < len l)=false:=fun h=>by rw [h];rfl
 unfold f246 f299 f300 f301;simp only [Jf,kM,gid,zB];rw [show f302 N ((R9 s).2.2.2.2.1.1,(R9 s).2.2.2.2.1.2)=_ from z7n N s.term];simp only [zB,kM];have e1:(decide (s.act < 0) || decide (6 < s.act))=false:=by simp only [VH,xB];omega
 have e2:(!(decide (s.act=0) || decide (s.act=5)) && !decide (s.var=0))=false:=by
  by_cases h:s.act=0\/s.act=5
  ·have:(decide (s.act=0) || decide (s.act=5))=true:=by simpa using h
   rw [this];rfl
  ·rw [jg (q4 h)];simp
 have e3:(!(decide (s.act=4) || decide (s.act=5)) && !decide (s.n=0))=false:=by
  by_cases h:s.act=4\/s.act=5
  ·have:(decide (s.act=4) || decide (s.act=5))=true:=by simpa using h
   rw [this];rfl
  ·rw [jg (q5 h)];simp
 have e4:(!(((decide (s.act=0) || decide (s.act=1)) || decide (s.act=3)) || decide (s.act=4)) && !z4k s.term)=false:=by
  by_cases h:s.act=2\/s.act=5\/s.act=6
  ·rw [q7 h];simp
  ·have:(((decide (s.act=0) || decide (s.act=1)) || decide (s.act=3)) || decide (s.act=4))=true:=by
    simp only [HJ,jL];omega
   rw [this];rfl
 have e5:((!decide (s.act=3) && !decide (s.act=4)) && decide (0 < len s.jG))=false:=by
  by_cases h3:s.act=3
  ·rw [jg h3];rfl
  by_cases h4:s.act=4
  ·rw [jg h4];simp
  ·rw [n0 (q8 h3 h4)];simp
 have e6:(!decide (s.act=3) && decide (0 < len s.uw))=false:=by
  by_cases h3:s.act=3
  ·rw [jg h3];rfl
  ·rw [n0 (q9 h3)];simp
 have e7:(!decide (s.act=6) && decide (0 < len s.bounds))=false:=by
  by_cases h3:s.act=6
  ·rw [jg h3];rfl
  ·rw [n0 (qa h3)];simp
 have e8:(cond (decide (s.act=0) || decide (s.act=5)) (cond (decide (s.var < 0) || decide (len f.1<=s.var)) (some true) ((idx f.1 s.var).bind fun x=>some (!decide (x.2.1=0)))) (some false))=some false:=by
  by_cases h:s.act=0\/s.act=5
  ·have:(decide (s.act=0) || decide (s.act=5))=true:=by simpa using h
   rw [this,zD,z6c,q3 h];rfl
  ·have:(decide (s.act=0) || decide (s.act=5))=false:=by simpa using h
   rw [this];rfl
 have e9:(decide (s.act=5) && (decide (s.n < 0) || decide (len f.2.1<=s.n)))=false:=by
  by_cases h:s.act=5
  ·have:=q6 h;simp only [RY,VH,xB];right;omega
  ·rw [qW h];rfl
 simp only [Jf,kM,gid,zB] at za1;rw [e1,zW,e2,zW,e3,zW,e4,zW,e5,zW,e6,zW,e7,zW,e8,zB,zW,e9,zW];exact za1
end Go.Kz
namespace Go.Kz
structure zgz (s:Sp):Prop where
 z1h:0<=s.cost
 cost:s.cost<=67108864
 zz8:s.act≠2->s.cost<=10000
 n0:0<=s.n
 n:s.act=4->s.n<=4096
 bnd:∀ h:0 < s.bounds.length,s.bounds[s.bounds.length-1]<=(67108864:Int)
def zn7 (f:zf) (last:Bool) (s:Sp):Prop:=E8 f last s/\zgz s/\C7 f.1 false s.term
mutual
def stP (f:zf) (last:Bool):Sp->Prop
 | ⟨a,c,v,n,t,x,y,b⟩=>zn7 f last ⟨a,c,v,n,t,x,y,b⟩/\JD f false x/\JD f false y
def JD (f:zf) (top:Bool):List Sp->Prop
 | []=>True
 | s :: l=>stP f (top && l.isEmpty) s/\JD f top l
end
theorem ZQ (f:zf) (last:Bool) (s:Sp):stP f last s↔zn7 f last s/\JD f false s.jG/\JD f false s.uw:=by cases s;simp only [stP]
theorem YV {f:zf} {top:Bool}:∀ {l:List Sp},JD f top l->∀ i (h:i < l.length),stP f (top && decide (i+1=l.length)) l[i]
 | [],_,i,h=>by simp at h
 | s :: l,hs,0,h=>by
  simp only [JD] at hs;have:(decide (0+1=(s :: l).length))=l.isEmpty:=by cases l <;> simp
  rw [this];exact hs.1
 | s :: l,hs,i+1,h=>by
  simp only [JD] at hs;have:=YV hs.2 i (by simpa using h);have e:decide (i+1+1=(s :: l).length)=decide (i+1=l.length):=by simp
  rw [e];exact this
theorem Ho {f:zf} {top:Bool}:∀ {l:List Sp},(∀ i (h:i < l.length),stP f (top && decide (i+1=l.length)) l[i])->JD f top l
 | [],_=>by simp only [JD]
 | s :: l,hs=>by
  simp only [JD];refine ⟨?_,Ho fun i h=>?_⟩
  ·have:=hs 0 (by simp);have e:(decide (0+1=(s :: l).length))=l.isEmpty:=by cases l <;> simp
   rw [e] at this;exact this
  ·have:=hs (i+1) (by simpa using h);have e:decide (i+1+1=(s :: l).length)=decide (i+1=l.length):=by simp
   rw [e] at this;exact this
theorem zi1 {l:List Sp} {j:Nat} (hl:l.length<=100) (hj:j < l.length) (top:Bool):(cond top (some (decide ((j:Int)=zz (len l-1)))) (some false))=some (top && decide (j+1=l.length)):=by
 have:zz (len l-1)=((l.length-1:Nat):Int):=by
  rw [show len l=(l.length:Int) from rfl,uu (by omega) (by omega)]
 rw [kM,this];congr 2;by_cases h:j+1=l.length
 ·rw [jg h,jg];omega
 ·rw [qW h,qW];omega
theorem XD (N:Nat) (hN:200<=N) (f:zf) (hr:∀ v∈f.1,gd v):∀ (M:Nat) (l:List Sp) (top:Bool),jq l < M->jq l<=100->zp (Fs N M f l top) fun c=>c=0->JD f top l
 | 0,l,_,h,_=>by omega
 | M+1,l,top,h,ht=>by
  show zp (Mo N (Fs N M) f l top) _;have KQ:=wV l;unfold Mo;refine zp.Kp (fun j=>∀ i (h:i < l.length),i < j->stP f (top && decide (i+1=l.length)) l[i]) l.length ?_ ?_ N 0 (jE _) (by omega) (fun i h hi=>by omega)
  ·intro j w hj hinv hw;have hm:=kQ (kK hj);have he:=kC l[j];have htp:=yH l[j].term;simp only [Wl];rw [zP hj,zD,zJ hj];simp only [zB];rw [zi1 (by omega) hj,zB];refine zp.then (z7x N hN f l[j] _) fun b hb=>?_
   refine zp.cond (fun _=>zp.ret (by simp)) fun vT=>?_
   simp only [HY] at vT;have AW:=hb vT;have fin:zgz l[j]->zp ((f156 N f.1 (l[j].5.1,(l[j].5.2,(l[j].5.3,()))) false).bind fun qX=>
     cond (!(decide (qX=0))) (some qX) ((Fs N M f l[j].6 false).bind fun vw=>
      cond (!(decide (vw=0))) (some vw) ((Fs N M f l[j].7 false).bind fun kY=>
       cond (!(decide (kY=0))) (some kY) (w (zz ((j:Int)+1)))))) fun c=>c=0->JD f top l:=by
    intro IE;refine zp.then (Mr N hN f.1 hr false l[j].term (by omega)) fun c1 hc1=>?_
    refine zp.cond (fun vI=>zp.ret fun e=>by subst e;simp at vI) fun e1=>?_
    refine zp.then (XD N hN f hr M l[j].jG false (by omega) (by omega)) fun c2 Pg=>?_
    refine zp.cond (fun vI=>zp.ret fun e=>by subst e;simp at vI) fun e2=>?_
    refine zp.then (XD N hN f hr M l[j].uw false (by omega) (by omega)) fun c3 hc3=>?_
    refine zp.cond (fun vI=>zp.ret fun e=>by subst e;simp at vI) fun e3=>?_
    simp only [HY,jL] at e1 e2 e3;rw [zk (by omega)];refine hw fun i h hi=>?_
    by_cases e:i=j
    ·subst e;exact (ZQ ..).2 ⟨⟨AW,IE,hc1 e1⟩,Pg e2,hc3 e3⟩
    ·exact hinv i h (by omega)
   have bnd:∀ (K:Bool->Option Int),zp (K true) (fun c=>c=0->JD f top l)->((∀ h:0 < l[j].bounds.length,l[j].bounds[l[j].bounds.length-1]<=(67108864:Int))->zp (K false) fun c=>c=0->JD f top l)->
     zp ((cond (decide (0 < (len l[j].8))) ((idx l[j].8 (zz ((len l[j].8)-1))).bind fun ja=>some (decide (67108864 < ja))) (some false)).bind K) fun c=>c=0->JD f top l:=by
    intro K k1 k2;by_cases h0:0 < l[j].bounds.length
    ·by_cases hb:l[j].bounds.length < 9223372036854775807
     ·rw [show decide (0 < len l[j].8)=true from jg (by simp only [len];omega),zD,show len l[j].8=(l[j].bounds.length:Int) from rfl,uu h0 (by omega),zJ (show l[j].bounds.length-1 < l[j].bounds.length by omega)];simp only [zB];by_cases hc:l[j].bounds[l[j].bounds.length-1]<=(67108864:Int)
      ·rw [qW (by omega)];exact k2 fun _=>hc
      ·rw [jg (by omega)];exact k1
     ·omega
    ·rw [show decide (0 < len l[j].8)=false from qW (by simp only [len];omega),zW,zB];exact k2 fun h=>absurd h h0
   simp only [Jf,kM,gid,zB];refine zp.cond (fun h2=>?_) fun h2=>?_
   ·have h2':=AM h2;refine zp.cond (fun _=>zp.ret (by simp)) fun hc=>?_
    simp only [VH,RY,xB] at hc;refine bnd (fun b=>cond b (some 3) _) (zp.ret (by simp)) fun hb=>fin ⟨by omega,by omega,fun c=>absurd h2' c,by omega,fun c=>by omega,hb⟩
   ·have h2':=RJ h2;refine zp.cond (fun _=>zp.ret (by simp)) fun hc=>?_
    simp only [VH,RY,xB] at hc;refine bnd (fun b=>cond b (some 3) _) (zp.ret (by simp)) fun hb=>fin ⟨by omega,by omega,fun _=>by omega,by omega,fun c=>by omega,hb⟩
  ·intro w hinv;simp only [Wl];rw [zM,zW];exact zp.ret fun _=>Ho fun i h=>hinv i h h
theorem z7v (N:Nat) (s:Sp) (f:zf) (last:Bool) (hs:E8 f last s) (h:zgz s):f247 N (R9 s)=some true:=by
 obtain ⟨a1,a2,a3,a4,a5,a6⟩:=h;unfold f247;have e6:(cond (!decide (s.act=6)) (some true) ((idx s.bounds (zz (len s.bounds-1))).bind fun x=>some (decide (x<=67108864))))=some true:=by
  by_cases h6:s.act=6
  ·have hb:=(hs.set h6).2;have h1:=hb.one;have h2:=hb.zdk;rw [jg h6,show (!true)=false from rfl,zW,show len s.bounds=(s.bounds.length:Int) from rfl,uu (by omega) (by omega),zJ (show s.bounds.length-1 < s.bounds.length by omega)];rw [zB,jg (a6 (by omega))]
  ·rw [qW h6];rfl
 simp only [Jf,kM,gid,zB];have en:(decide (s.act=4) && (decide (s.n < 0) || decide (4096 < s.n)))=false:=by
  by_cases h4:s.act=4
  ·have:=a5 h4;simp only [RY,VH,xB];right;omega
  ·rw [qW h4];rfl
 rw [en];by_cases h2:s.act=2
 ·rw [jg h2,zD];rw [show (decide (s.cost < 0) || decide (67108864 < s.cost))=false by simp only [VH,xB];omega];exact e6
 ·have:=a3 h2;rw [qW h2,zW];rw [show (decide (s.cost < 0) || decide (10000 < s.cost))=false by simp only [VH,xB];omega];exact e6
theorem XA (N:Nat) (hN:200<=N) (f:zf) (hr:∀ v∈f.1,gd v):∀ (M:Nat) (l:List Sp) (top:Bool),jq l < M->jq l<=100->JD f top l->z11 N M f l top=some 0
 | 0,l,_,h,_,_=>by omega
 | M+1,l,top,h,ht,hs=>by
  show Mi N (z11 N M) f l top=_;have KQ:=wV l;unfold Mi;refine zp.eq ?_;refine zp.Kp (fun _=>True) l.length ?_ ?_ N 0 (jE _) (by omega) trivial
  ·intro j w hj _ hw;have hm:=kQ (kK hj);have he:=kC l[j];have htp:=yH l[j].term;obtain ⟨⟨q1,q2,q3⟩,q4,q5⟩:=(ZQ ..).1 (YV hs j hj);simp only [We];rw [show decide ((j:Int) < len l)=true from zP hj,zD,zJ hj];simp only [zB];rw [zi1 (by omega) hj,zB];rw [show f246 N f (l[j].1,(l[j].2,(l[j].3,(l[j].4,((l[j].5.1,(l[j].5.2,(l[j].5.3,()))),(l[j].6,(l[j].7,(l[j].8,())))))))) _=some true from z7w N hN f l[j] _ q1];rw [show f247 N (l[j].1,(l[j].2,(l[j].3,(l[j].4,((l[j].5.1,(l[j].5.2,(l[j].5.3,()))),(l[j].6,(l[j].7,(l[j].8,()))))))))=some true from z7v N l[j] f _ q1 q2];rw [show f245 N f.1 (l[j].5.1,(l[j].5.2,(l[j].5.3,()))) false=some 0 from ME N hN f.1 hr false l[j].term (by omega) q3];simp only [zB,pE,zW,A0];refine zp.Kp (fun _=>True) 2 ?_ ?_ N 0 (jE _) (by omega) trivial
   ·intro k w' hk _ GG;simp only [J7];have A9:k=0\/k=1:=by omega
    rcases A9 with rfl | rfl
    ·rw [show decide (((0:Nat):Int) < (((Nat.succ 1):Nat):Int))=true from rfl,zD];refine zp.qR rfl ?_;rw [show idx (l[j].6 :: (l[j].7 :: ([]:List (List Sp)))) ((0:Nat):Int)=some l[j].jG from rfl,zB,XA N hN f hr M l[j].jG false (by omega) (by omega) q4];exact GG trivial
    ·rw [show decide (((1:Nat):Int) < (((Nat.succ 1):Nat):Int))=true from rfl,zD];refine zp.qR rfl ?_;rw [show idx (l[j].6 :: (l[j].7 :: ([]:List (List Sp)))) ((1:Nat):Int)=some l[j].uw from rfl,zB,XA N hN f hr M l[j].uw false (by omega) (by omega) q5];exact GG trivial
   ·intro w' _;simp only [J7];rw [show decide (((2:Nat):Int) < (((Nat.succ 1):Nat):Int))=false from rfl,zW,zk (by omega)];exact hw trivial
  ·intro w _;simp only [We];rw [show decide (((l.length:Nat):Int) < len l)=false from zM _,zW];exact zp.ret rfl
end Go.Kz
