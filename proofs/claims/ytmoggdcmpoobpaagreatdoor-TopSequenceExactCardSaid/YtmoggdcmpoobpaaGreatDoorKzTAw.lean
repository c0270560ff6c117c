/-
  Lists and their classes, plain laws.
-/
import Derived.Test.YtmoggdcmpoobpaaGreatDoorKzPTz
import Derived.Test.YtmoggdcmpoobpaaGreatDoorKzAR
set_option linter.unusedVariables false
set_option linter.unusedSimpArgs false
namespace Go.Kz
def kV{I:Type}[DecidableEq I]:List I->List I->List I
 |acc,[]=>acc
 |acc,x::l=>if x∈acc then kV acc l else kV (acc++[x]) l
def posOf{I:Type}[DecidableEq I](x:I):List I->Nat
 |[]=>0
 |y::l=>if y=x then 0 else posOf x l+1
theorem QJ{I:Type}[DecidableEq I]{x:I}:{l:List I}->x∈l->posOf x l<l.length
 |y::l,h=>by
  simp only[posOf];split
  ·simp
  ·rename_i va;have:x∈l:=by
    rcases gJ.1 h with rfl|h
    ·exact absurd rfl va
    ·exact h
   have:=QJ this;simp only[X4];omega
theorem G8{I:Type}[DecidableEq I]{x:I}:{l m:List I}->x∈l->posOf x (l++m)=posOf x l
 |y::l,m,h=>by
  simp only[Qm,posOf];split
  ·rfl
  ·rename_i va;have:x∈l:=by
    rcases gJ.1 h with rfl|h
    ·exact absurd rfl va
    ·exact h
   rw[G8 this]
theorem Df{I:Type}[DecidableEq I]{x:I}:{l:List I}->x∉l->posOf x (l++[x])=l.length
 |[],_=>by simp[posOf]
 |y::l,h=>by
  have h1:y≠x:=by intro he;subst he;simp at h
  have h2:x∉l:=by intro hm;exact h (by simp[hm])
  simp only[Qm,posOf,qP h1,Df h2,X4]
theorem Gj{I:Type}[DecidableEq I]{x:I}:{acc l:List I}->(x∈kV acc l↔x∈acc\/x∈l)
 |acc,[]=>by simp[kV]
 |acc,y::l=>by
  simp only[kV];split
  ·rename_i h;rw[Gj];simp only[gJ];constructor
   ·rintro (h1|h1)
    ·exact .inl h1
    ·exact .inr (.inr h1)
   ·rintro (h1|rfl|h1)
    ·exact .inl h1
    ·exact .inl h
    ·exact .inr h1
  ·rw[Gj];simp[or_assoc]
def wq(n:Nat):List Int:=(List.range n).map λ(i:Nat)=>(i:Int)
theorem VE{n:Nat}{x:Int}:x∈wq n↔0<=x/\x<n:=by
 simp only[wq,pe,Du];constructor
 ·rintro⟨i,hi,rfl⟩;omega
 ·rintro⟨h0,h1⟩;exact⟨x.toNat,by omega,by omega⟩
section
variable {I Z:Type} [DecidableEq I] [DecidableEq Z]
theorem Pm{x:I}:{l:List I}->x∈l->l[posOf x l]? = some x
 |y::l,h=>by
  simp only[posOf];split
  ·rename_i he;simp[he]
  ·rename_i va;have:x∈l:=by
    rcases gJ.1 h with rfl|h
    ·exact absurd rfl va
    ·exact h
   simpa using Pm this
theorem Pl{f:I->Z}{x:I}:{l:List I}->(∀y∈l,f y=f x->y=x)->posOf (f x) (l.map f)=posOf x l
 |[],_=>rfl
 |y::l,h=>by
  have ih:=Pl (f:=f) (x:=x) (l:=l) (λz hz=>h z (by simp[hz]));simp only[Qw,posOf];by_cases he:y=x
  ·simp[he]
  ·have:¬f y=f x:=λhf=>he (h y (by simp) hf)
   simp[he,this,ih]
end
theorem zg0(N:Nat)(l:List Int)(h:l.length<=1000):f123 N l=some l:=by
 have pv:room=4294967296:=rfl;unfold f123;rw[qx (by rw[jc,pv];omega)]
theorem V0{I:Type}[DecidableEq I]:∀(acc l m:List I),kV acc (l++m)=kV (kV acc l) m
 |acc,[],m=>rfl
 |acc,x::l,m=>by
  simp only[Qm,kV];split
  ·exact V0 acc l m
  ·exact V0 (acc++[x]) l m
theorem Am{I:Type}[DecidableEq I]:∀(acc l:List I),∃r,kV acc l=acc++r
 |acc,[]=>⟨[],by simp[kV]⟩
 |acc,x::l=>by
  simp only[kV];split
  ·exact Am acc l
  ·obtain⟨r,h⟩:=Am (acc++[x]) l;exact⟨x::r,by rw[h];simp⟩
theorem Vd{I:Type}[DecidableEq I]:∀(acc l:List I),(kV acc l).length<=acc.length+l.length
 |acc,[]=>by simp[kV]
 |acc,x::l=>by
  simp only[kV];split
  ·have:=Vd acc l;simp only[X4];omega
  ·have:=Vd (acc++[x]) l;simp only[X4,Jz,Z1y]at *;omega
theorem z5x{I:Type}[DecidableEq I](acc l:List I)(x:I)(h:x∈kV acc l):kV acc (l++[x])=kV acc l:=by
 rw[V0];simp only[kV];rw[qn h]
theorem RL{I:Type}[DecidableEq I](acc l:List I)(x:I)(h:x∉kV acc l):kV acc (l++[x])=kV acc l++[x]:=by
 rw[V0];simp only[kV];rw[qP h]
section
variable {I:Type} [DecidableEq I]
def Ct:List I->Int->List (I×Int)
 |[],_=>[]
 |x::l,n=>(x,n)::Ct l (n+1)
theorem U6{eq:I->I->Bool}(he:∀a b,eq a b=decide (a=b))(x:I):(l:List I)->(n:Int)->jF eq (Ct l n) x=if x∈l then some (n+posOf x l) else none
 |[],n=>rfl
 |y::l,n=>by
  simp only[Ct,jF,he,posOf];by_cases h:x=y
  ·subst h;simp
  ·have h2:¬y=x:=λe=>h e.symm
   simp only[h,decide_false,zU,gJ,false_or,U6 he x l (n+1),qP h2];split
   ·congr 1;push_cast;omega
   ·rfl
theorem U5{eq:I->I->Bool}(he:∀a b,eq a b=decide (a=b))(x:I):(l:List I)->(n:Int)->x∉l->ve eq (Ct l n) x (n+l.length)=Ct (l++[x]) n
 |[],n,_=>by simp[Ct,ve]
 |y::l,n,h=>by
  have h1:¬x=y:=by intro he;subst he;simp at h
  have h2:x∉l:=by intro hm;exact h (by simp[hm])
  have:=U5 he x l (n+1) h2;simp only[Ct,ve,he,h1,decide_false,zU,Qm,X4];rw[<-this];congr 2;push_cast;omega
end
end Go.Kz
namespace Go.Kz
abbrev zi:=List UInt8×(Int×(Int×(Int×(Int×Unit))))
abbrev CC:=Int×(Int×(List Tm×Unit))
abbrev Jv:=List UInt8×(Int×(Int×(CC×Unit)))
abbrev zt:=List zi×(List Jv×(List Sp×Unit))
@[reducible] def ga (x:Tm):CC:=(x.op,(x.n,(x.kids,())))
@[reducible] def Xu (t:CC):Tm:=⟨t.1,t.2.1,t.2.2.1⟩
theorem A2(x:Tm):Xu (ga x)=x:=by cases x;rfl
mutual
def xP:Tm->Nat
 |⟨_,_,ks⟩=>1+uq ks
def uq:List Tm->Nat
 |[]=>0
 |k::ks=>xP k+uq ks
end
mutual
def ssz:Sp->Nat
 |⟨_,_,_,_,t,a,b,l⟩=>1+xP t+yA a+yA b+l.length
def yA:List Sp->Nat
 |[]=>0
 |s::l=>ssz s+yA l
end
theorem pC(x:Tm):xP x=1+uq x.kids:=by cases x;simp only[xP]
theorem yG(x:Tm):1<=xP x:=by rw[pC];omega
theorem kX(x:Sp):ssz x=1+xP x.term+yA x.jM+yA x.ui+x.bounds.length:=by cases x;simp only[ssz]
theorem wy:∀{l:List Tm}{x:Tm},x∈l->xP x<=uq l
 |y::l,x,h=>by
  simp only[uq];rcases gJ.1 h with rfl|h
  ·omega
  ·have:=wy h;omega
theorem kP:∀(l:List Tm),l.length<=uq l
 |[]=>by simp
 |y::l=>by
  have:=kP l;have:=yG y;simp only[uq,X4];omega
theorem JH{l:List Tm}{k:Nat}(h:k<l.length):uq (l.take (k+1))=uq (l.take k)+xP l[k]:=by
 induction l generalizing k with
 |nil=>simp at h
 |cons x l ih=>
  cases k with
  |zero=>simp[uq]
  |succ k=>
   have:=ih (k:=k) (by simpa using h);simp only[Z2u,uq,Z52];omega
theorem F1(l:List Tm)(k:Nat):uq (l.take k)<=uq l:=by
 induction l generalizing k with
 |nil=>simp[uq]
 |cons x l ih=>
  cases k with
  |zero=>simp[uq]
  |succ k=>have:=ih k;simp only[Z2u,uq];omega
theorem kA:∀{l:List Sp}{x:Sp},x∈l->ssz x<=yA l
 |y::l,x,h=>by
  simp only[yA];rcases gJ.1 h with rfl|h
  ·omega
  ·have:=kA h;omega
theorem zd4(x:Sp):2<=ssz x:=by have:=yG x.term;rw[kX];omega
theorem vU:∀(l:List Sp),2*l.length<=yA l
 |[]=>by simp
 |y::l=>by
  have:=vU l;have:=zd4 y;simp only[yA,X4];omega
theorem JN{l:List Sp}{k:Nat}(h:k<l.length):yA (l.take (k+1))=yA (l.take k)+ssz l[k]:=by
 induction l generalizing k with
 |nil=>simp at h
 |cons x l ih=>
  cases k with
  |zero=>simp[yA]
  |succ k=>
   have:=ih (k:=k) (by simpa using h);simp only[Z2u,yA,Z52];omega
theorem F5(l:List Sp)(k:Nat):yA (l.take k)<=yA l:=by
 induction l generalizing k with
 |nil=>simp[yA]
 |cons x l ih=>
  cases k with
  |zero=>simp[yA]
  |succ k=>have:=ih k;simp only[Z2u,yA];omega
def Left(left:Int)(n:Nat)(r:Int):Prop:=r<=left-1/\min left 0-1<=r/\(0<=r->r=left-n)
theorem M9(N:Nat)(hN:1000<=N):∀(M:Nat)(t:CC)(left:Int),left<=200->-4294967000<=left->left.toNat+2<=M->zp (z9b N M t left) (Left left (xP (Xu t)))
 |0,t,left,_,_,h=>by omega
 |M+1,t,left,h1,h2,h3=>by
  show zp (T4 N (z9b N M) t left) _;unfold T4;rw[zx (by omega) (by omega)];have ql:xP (Xu t)=1+uq t.2.2.1:=by rw[pC]
  refine zp.iter (λx:Int×Int=>∃k:Nat,x.1=k/\k<=t.2.2.1.length/\x.2<=left-1-k/\min left 0-1<=x.2/\(0<=x.2->x.2=left-1-uq (t.2.2.1.take k))) (λx=>(x.2+1).toNat) ?_ N _ ⟨0,rfl,v8 _,by simp,by simp only;omega,λ_=>by simp[uq]⟩ (by simp;omega);rintro⟨i,r⟩ w ⟨k,hi,hk,hr,WQ,pO⟩ hw;simp only at hi hr WQ pO;subst hi;simp only[C1];by_cases yP:k<t.2.2.1.length
  ·rw[zb yP,zJ];simp only[zO];by_cases h0:0<=r
   ·rw[jQ h0,zJ,zY yP];simp only[zO];refine zp.then (M9 N hN M (ga t.2.2.1[k]) r (by omega) (by omega) (by omega)) λr' UT=>?_
    obtain⟨q1,q2,q3⟩:=UT;rw[zk (by have:=kP t.2.2.1;omega)];refine hw _ ⟨k+1,by simp,yP,by simp only;omega,by simp only;omega,λh=>?_⟩ (by simp only;omega);have e:=q3 h;have e2:=pO h0;rw[A2]at e;rw[JH yP];simp only at h⊢;omega
   ·rw[qd h0,zU];exact zp.ret ⟨by omega,by omega,λh=>absurd h h0⟩
  ·have hke:k=t.2.2.1.length:=by omega
   have:decide ((k:Int)<len t.2.2.1)=false:=by simp[len];omega
   rw[this,zU];simp only[zO,zU];refine zp.ret ⟨by omega,by omega,λh=>?_⟩;have e:=pO h;rw[hke,Ki]at e;rw[ql];omega
theorem T3(N:Nat)(hN:1000<=N)(t:CC)(left:Int)(h1:left<=200)(h2 : -4294967000<=left):zp (f151 N t left) (Left left (xP (Xu t))):=
 M9 N hN N t left h1 h2 (by omega)
def ziv(left:Int)(n:Nat)(r:Int):Prop:=r<=left/\((left<0->r=left)/\(0<=left->-2<=r))/\(0<=r->r=left-n)
theorem C2(N:Nat)(hN:1000<=N):∀(M:Nat)(l:List Sp)(left:Int),left<=200->-4294967296<=left->left.toNat+1<=M->zp (z9c N M l left) (ziv left (yA l))
 |0,l,left,_,_,h=>by omega
 |M+1,l,left,h1,h2,h3=>by
  show zp (T5 N (z9c N M) l left) _;unfold T5;refine zp.iter (λx:Int×Int=>∃k:Nat,x.1=k/\k<=l.length/\((x.2=left/\k=0)\/(0<=left/\-2<=x.2/\x.2<=left-k))/\(0<=x.2->x.2=left-yA (l.take k))) (λx=>(x.2+1).toNat) ?_ N _ ⟨0,rfl,v8 _,.inl ⟨rfl,rfl⟩,λ_=>by simp[yA]⟩ (by simp;omega);rintro⟨i,r⟩ w ⟨k,hi,hk,hr,pO⟩ hw;simp only at hi hr pO;subst hi;simp only[C3];by_cases yP:k<l.length
  ·rw[zb yP,zJ];simp only[zO];by_cases h0:0<=r
   ·rw[jQ h0,zJ,zY yP];simp only[zO];have hll:=vU (l.take k);rw[CB,Z43 hk]at hll;have e0:=pO h0;rw[zx (by omega) (by omega)];refine zp.then (T3 N hN (ga l[k].term) (r-1) (by omega) (by omega)) λr1 hr1=>?_
    obtain⟨q1,q2,q3⟩:=hr1;rw[A2]at q3;by_cases hb:r1<len l[k].bounds
    ·rw[jQ hb,zJ];exact zp.ret ⟨by omega,⟨by omega,by omega⟩,λh=>by omega⟩
    ·rw[qd hb,zU];simp only[len]at hb⊢;rw[zx (by omega) (by omega)];refine zp.then (C2 N hN M l[k].jM (r1-(l[k].bounds.length:Int)) (by omega) (by omega) (by omega)) λr2 Ov=>?_
     obtain⟨p1,p2,p3⟩:=Ov;refine zp.then (C2 N hN M l[k].ui r2 (by omega) (by omega) (by omega)) λr3 hr3=>?_
     obtain⟨s1,s2,s3⟩:=hr3;rw[zk (by omega)];refine hw _ ⟨k+1,by simp,yP,.inr ⟨by omega,by simp only;omega,by simp only;omega⟩,λh=>?_⟩ (by simp only;omega);simp only at h⊢;have a3:=s3 h;have a2:=p3 (by omega);have a1:=q3 (by omega);rw[JN yP,kX];omega
   ·rw[qd h0,zU];exact zp.ret ⟨by omega,⟨by omega,by omega⟩,λh=>absurd h h0⟩
  ·have hke:k=l.length:=by omega
   have:decide ((k:Int)<len l)=false:=by simp[len];omega
   rw[this,zU];simp only[zO,zU];refine zp.ret ⟨by omega,⟨by omega,by omega⟩,λh=>?_⟩;have e:=pO h;rw[hke,Ki]at e;exact e
theorem zfy(N:Nat)(hN:1000<=N)(l:List Sp)(left:Int)(h1:left<=200)(h2 : -4294967296<=left):zp (f150 N l left) (ziv left (yA l)):=
 C2 N hN N l left h1 h2 (by omega)
def ql(h:Jv):Nat:=xP (Xu h.2.2.2.1)
def p4:List Jv->Nat
 |[]=>0
 |h::l=>ql h+p4 l
theorem Zy:∀{l:List Jv}{x:Jv},x∈l->ql x<=p4 l
 |y::l,x,h=>by
  simp only[p4];rcases gJ.1 h with rfl|h
  ·omega
  ·have:=Zy h;omega
theorem Vq{l:List Jv}{k:Nat}(h:k<l.length):p4 (l.take (k+1))=p4 (l.take k)+ql l[k]:=by
 induction l generalizing k with
 |nil=>simp at h
 |cons x l ih=>
  cases k with
  |zero=>simp[p4]
  |succ k=>
   have:=ih (k:=k) (by simpa using h);simp only[Z2u,p4,Z52];omega
theorem FR(l:List Jv)(k:Nat):p4 (l.take k)<=p4 l:=by
 induction l generalizing k with
 |nil=>simp[p4]
 |cons x l ih=>
  cases k with
  |zero=>simp[p4]
  |succ k=>have:=ih k;simp only[Z2u,p4];omega
structure zgq (f:zt):Prop where
 vars:f.1.length<=20
 GD:f.2.1.length<=20
 size:yA f.2.2.1+p4 f.2.1<=160
structure Mh (f:zt):Prop where
 vars:f.1.length<=10
 GD:f.2.1.length<=10
 size:yA f.2.2.1+p4 f.2.1<=80
theorem Mh.few{f:zt}(h:Mh f):zgq f:=⟨by have:=h.vars;omega,by have:=h.GD;omega,by have:=h.size;omega⟩
theorem zn2(N:Nat)(hN:1000<=N)(f:zt):zp (f65 N f 10 80) λb=>b=true->Mh f:=by
 unfold f65;have e1:(cond (decide (10<len f.1)) (some true) (some (decide (10<len f.2.1))))=some (decide (10<len f.1)||decide (10<len f.2.1)):=by cases decide (10<len f.1)<;>rfl
 rw[e1,zO];refine zp.cond (λ_=>zp.ret (by simp)) λhb=>?_
 simp only[Wh,Q9,len]at hb;refine zp.then (zfy N hN f.2.2.1 80 (by omega) (by omega)) λr hr=>?_
 obtain⟨p1,p2,p3⟩:=hr;refine zp.up (λk r1=>k<=f.2.1.length/\r1<=80/\-2-(k:Int)<=r1/\(0<=r1->r1=80-yA f.2.2.1-p4 (f.2.1.take k))) f.2.1.length ?_ ?_ N 0 (v8 _) (by omega) r ⟨v8 _,by omega,by omega,λh=>by have:=p3 h;simp[p4];omega⟩
 ·rintro k r1 w hk ⟨q1,q2,q3,q4⟩ hw;simp only[H8];rw[zb hk,zJ,zY hk];simp only[zO]
  ·refine zp.then (T3 N hN (f.2.1[k].2.2.2.1) r1 (by omega) (by omega)) λr2 Ov=>?_
   obtain⟨s1,s2,s3⟩:=Ov;rw[zk (by omega)];refine hw _ ⟨by omega,by omega,by omega,λh=>?_⟩;have:=s3 h;have:=q4 (by omega);rw[Vq hk];simp only[ql];omega
 ·rintro r1 w ⟨_,q2,q3,q4⟩;simp only[H8];rw[show decide (((f.2.1.length:Nat):Int)<len f.2.1)=false from zH _,zU];refine zp.ret λh=>?_
  have h0:=X1 h;have:=q4 h0;rw[Ki]at this;exact⟨by omega,by omega,by omega⟩
end Go.Kz
namespace Go.Kz
theorem KV(a b:Bool):(cond a (some true) (some b):Option Bool)=some (a||b):=by cases a<;>rfl
theorem p5(a b:Bool):(cond a (some b) (some false):Option Bool)=some (a&&b):=by cases a<;>rfl
theorem gid{I:Type}(x:Option I):(x.bind λy=>some y)=x:=by cases x<;>rfl
def chB(i:Nat)(c:UInt8):Bool:=(decide (97<=((c.toNat:Nat):Int))&&decide (((c.toNat:Nat):Int)<=122))||(!decide (i=0)&&((decide (48<=((c.toNat:Nat):Int))&&decide (((c.toNat:Nat):Int)<=57))||decide (((c.toNat:Nat):Int)=46)||decide (((c.toNat:Nat):Int)=95)))
def WH(s:List UInt8):Bool:=decide (1<=s.length)&&decide (s.length<=40)&&(List.range s.length).all λi=>match s[i]? with
 |some c=>chB i c
 |none=>true
theorem T2(N:Nat)(hN:1000<=N)(s:List UInt8):f154 N s=some (WH s):=by
 unfold f154;have e1:(cond (decide (len s<1)) (some true) (some (decide (40<len s))))=some (decide (len s<1)||decide (40<len s)):=by cases decide (len s<1)<;>rfl
 rw[e1,zO];by_cases hl:1<=s.length/\s.length<=40
 ·have e2:(decide (len s<1)||decide (40<len s))=false:=by simp[len];omega
  rw[e2,zU]
  have:=Uz (F:=λw=>P8 N s w (λt2=>some t2) λ(_:Unit)=>some true) 0 s.length (v8 _) (λi=>match s[i]? with
   |some c=>chB i c
   |none=>true) (some true) (some false) ?_ ?_ N (by omega)
  ·rw[show((0:Nat):Int)=0 from rfl]at this;rw[this];simp only[Nat.sub_zero,Wq,WH,hl.1,hl.2,Nq,Z3k];cases (List.range s.length).all _<;>rfl
  ·intro k w _ hk;simp only[P8];rw[zb hk,zJ,zY hk];simp only[zO,wV hk,chB];have ek:decide ((k:Int)=0)=decide (k=0):=by congr 1;simp
   rw[ek];have ew:zz ((k:Int)+1)=(k:Int)+1:=zk (by omega);rw[ew];simp only[KV,p5,zO];have hc:((s[k].1.toNat:Nat):Int)=((s[k].toNat:Nat):Int):=rfl;rw[hc];generalize ((s[k].toNat:Nat):Int)=c;cases decide (97<=c)<;>cases decide (c<=122)<;>cases decide (k=0)<;>cases decide (48<=c)<;>cases decide (c<=57)<;>cases decide (c=46)<;>cases decide (c=95)<;>rfl
  ·intro w;simp only[P8];rw[show decide (((s.length:Nat):Int)<len s)=false from zH _,zU]
 ·have e2:(decide (len s<1)||decide (40<len s))=true:=by simp[len];omega
  rw[e2,zJ];have:WH s=false:=by
   simp only[WH];by_cases h1:1<=s.length
   ·have h2:¬s.length<=40:=λh=>hl ⟨h1,h⟩
    simp[h2]
   ·simp[h1]
  rw[this]
theorem SN(N:Nat)(hN:1000<=N)(s:List UInt8):f241 N s=some (WH s):=by
 unfold f241;rw[KV,zO];by_cases hl:1<=s.length/\s.length<=40
 ·have va:¬s=[]:=λh=>by rw[h]at hl;simp at hl
  have e2:(decide (s=([]:List _))||decide (40<len s))=false:=by simp[len,va];omega
  rw[e2,zU]
  have:=Uz (F:=λw=>Gc N s (len s) w (λt2=>some t2) λ(_:Unit)=>some true) 0 s.length (v8 _) (λi=>match s[i]? with
   |some c=>chB i c
   |none=>true) (some true) (some false) ?_ ?_ N (by omega)
  ·rw[show((0:Nat):Int)=0 from rfl]at this;rw[this];simp only[Nat.sub_zero,Wq,WH,hl.1,hl.2,Nq,Z3k];cases (List.range s.length).all _<;>rfl
  ·intro k w _ hk;simp only[Gc];rw[show decide ((k:Int)<len s)=true from zb hk,zJ,zY hk];simp only[zO,wV hk,chB];have ek:decide ((k:Int)=0)=decide (k=0):=by congr 1;simp
   rw[ek];have ew:zz ((k:Int)+1)=(k:Int)+1:=zk (by omega);rw[ew];simp only[KV,p5,gid,zO];have hc:((s[k].1.toNat:Nat):Int)=((s[k].toNat:Nat):Int):=rfl;rw[hc];generalize ((s[k].toNat:Nat):Int)=c;have h1:decide (c<48)=!decide (48<=c):=by
    by_cases h:48<=c
    ·simp[h]
    ·simp[h];omega
   have h2:decide (57<c)=!decide (c<=57):=by
    by_cases h:c<=57
    ·simp[h]
    ·simp[h];omega
   rw[h1,h2];cases decide (97<=c)<;>cases decide (c<=122)<;>cases decide (k=0)<;>cases decide (48<=c)<;>cases decide (c<=57)<;>cases decide (c=46)<;>cases decide (c=95)<;>rfl
  ·intro w;simp only[Gc];rw[show decide (((s.length:Nat):Int)<len s)=false from zH _,zU]
 ·have e2:(decide (s=([]:List _))||decide (40<len s))=true:=by
   cases s with
   |nil=>rfl
   |cons c t=>simp[len]at hl⊢;omega
  rw[e2,zJ];have:WH s=false:=by
   simp only[WH];by_cases h1:1<=s.length
   ·have h2:¬s.length<=40:=λh=>hl ⟨h1,h⟩
    simp[h2]
   ·simp[h1]
  rw[this]
def NI(a b:Int):Bool:=(decide (a<=b)&&decide (-1048576<=a))&&decide (b<=1048576)
theorem G6{a b:Int}:NI a b=true↔a<=b/\-1048576<=a/\b<=1048576:=by
 simp only[NI,zA,jc];omega
theorem T1(N:Nat)(a b:Int):f155 N a b=some (NI a b):=by
 unfold f155;simp only[p5,zO,NI]
theorem SI(N:Nat)(a b:Int):f242 N a b=some (NI a b):=by
 unfold f242;simp only[p5,zO,NI]
def KR(v:zi):Int:=v.2.2.2.1-v.2.2.1+1
def zf:List zi->Int
 |[]=>1
 |v::l=>KR v*zf l
def qh(vs:List zi)(k:Int):List zi:=vs.filter λv=>decide (v.2.1=k)
def pz(v:zi):Prop:=v.2.2.1<=v.2.2.2.1/\-1048576<=v.2.2.1/\v.2.2.2.1<=1048576
theorem XJ{v:zi}(h:pz v):1<=KR v/\KR v<=2097153:=by
 obtain⟨h1,h2,h3⟩:=h;simp only[KR];omega
theorem Eo{v:zi}(h:pz v):zz ((zz (v.2.2.2.1-v.2.2.1))+1)=KR v:=by
 obtain⟨h1,h2,h3⟩:=h;rw[zx (n:=v.2.2.2.1-v.2.2.1) (by omega) (by omega),zx (by omega) (by omega)];rfl
theorem K3(l:List zi)(v:zi):zf (l++[v])=zf l*KR v:=by
 induction l with
 |nil=>simp[zf]
 |cons x l ih=>simp only[Qm,zf,ih,Z53]
theorem ji:∀{l:List zi},(∀v∈l,pz v)->1<=zf l
 |[],_=>by simp[zf]
 |v::l,h=>by
  have h1:=(XJ (h v (Z2c ..))).1;have h2:=ji (l:=l) λx hx=>h x (On _ hx)
  simp only[zf];have:=Z3r h1 h2 (by omega) (by omega);omega
theorem QY(a b:List zi):zf (a++b)=zf a*zf b:=by
 induction a with
 |nil=>simp[zf]
 |cons x l ih=>simp only[Qm,zf,ih,Z53]
theorem WB{l:List zi}(h:∀v∈l,pz v)(k:Nat):zf (l.take k)<=zf l:=by
 have e:=QY (l.take k) (l.drop k);rw[Z1v]at e;rw[e];have h1:=ji (l:=l.take k) λv hv=>h v (Z2l hv)
 have h2:=ji (l:=l.drop k) λv hv=>h v (Z3s hv)
 have:=Int.mul_le_mul_of_nonneg_left h2 (show 0<=zf (l.take k) by omega);omega
theorem qX{I:Type}{l:List I}{k:Nat}(h:k<l.length):l.take (k+1)=l.take k++[l[k]]:=by simp
theorem Z4(l:List zi)(v:zi)(k:Int):qh (l++[v]) k=if v.2.1=k then qh l k++[v] else qh l k:=by
 simp only[qh,Z26];by_cases h:v.2.1=k<;>simp[h]
theorem kz{vs:List zi}(h:∀v∈vs,pz v)(k:Int):∀v∈qh vs k,pz v:=λv hv=>h v (Z35.1 hv).1
theorem YP(vs:List zi)(k:Int):(qh vs k).length<=vs.length:=Z37 ..
theorem O5{n:Int}{v:zi}(h1:1<=n)(h2:n<=4096)(hv:pz v):zz (n*KR v)=n*KR v/\1<=n*KR v:=by
 obtain⟨a,b⟩:=XJ hv;have e1:=Z3r h1 a (by omega) (by omega);have e2:=Z3r h2 b (by omega) (by omega);exact⟨zx (by omega) (by omega),by omega⟩
theorem HZ(N:Nat)(hN:1000<=N)(vs:List zi)(hl:vs.length<=20)(hr:∀v∈vs,pz v)(k:Int):zp (f236 N vs k) λr=>r=4097\/(r=zf (qh vs k)/\r<=4096):=by
 unfold f236;refine zp.up (λj n=>n=zf (qh (vs.take j) k)/\1<=n/\n<=4096) vs.length ?_ ?_ N 0 (v8 _) (by omega) 1 ⟨by simp[qh,zf],by omega,by omega⟩
 ·rintro j n w hj ⟨h1,h2,h3⟩ hw;have hv:=hr _ (wB hj);simp only[XT];rw[zb hj,zJ,zY hj];simp only[zO];rw[Eo hv,zk (by omega)];obtain⟨e1,e2⟩:=O5 h2 h3 hv;rw[e1];refine zp.cond (λhb=>?_) λhb=>zp.cond (λ_=>zp.ret (.inl rfl)) λpX=>?_
  ·simp only[PF,Q9]at hb;refine hw _ ⟨?_,h2,h3⟩;rw[qX hj,Z4,qP hb];exact h1
  ·simp only[Hb,jc]at hb;simp only[Q9]at pX;refine hw _ ⟨?_,e2,by omega⟩;rw[qX hj,Z4,qn hb,K3,<-h1]
 ·rintro n w ⟨h1,h2,h3⟩;simp only[XT];rw[zH,zU];rw[Ki]at h1;exact zp.ret (.inr ⟨h1,h3⟩)
theorem z8t(N:Nat)(hN:1000<=N)(vs:List zi)(hl:vs.length<=20)(k:Int):f68 N vs k=some (qh vs k):=by
 refine zp.eq ?_;unfold f68;refine zp.up (λj o=>o=qh (vs.take j) k) vs.length ?_ ?_ N 0 (v8 _) (by omega) [] rfl
 ·rintro j o w hj rfl hw;simp only[H5];rw[zb hj,zJ,zY hj];simp only[zO];rw[zk (by omega)];have hle:=YP (vs.take j) k;rw[CB]at hle;refine zp.cond (λhb=>zp.qV (by simp only[jc];exact Z1o (m:=200) (by omega) (by decide)) (hw _ ?_)) λhb=>hw _ ?_
  ·rw[qX hj,Z4,qn (X1 hb)]
  ·rw[qX hj,Z4,qP (Z27 hb)]
 ·rintro o w rfl;simp only[H5];rw[zH,zU,Ki];exact zp.ret rfl
structure zv5 (vs:List zi) (i:Nat) (v:zi):Prop where
 name:WH v.1=true
 new:∀j (h:j<vs.length),j<i->vs[j].1≠v.1
 LY:0<=v.2.1
 LQ:v.2.1<=3
 Qs:pz v
 init:v.2.1=0->v.2.2.1<=v.2.2.2.2.1/\v.2.2.2.2.1<=v.2.2.2.1
 zero:v.2.1≠0->v.2.2.2.2.1=0
structure Qn (vs:List zi):Prop where
 len:vs.length<=20
 each:∀i (h:i<vs.length),zv5 vs i vs[i]
 sec:zf (qh vs 1)<=4096
 pub:zf (qh vs 2)<=4096
 rnd:zf (qh vs 3)<=256
theorem Qn.Qs{vs:List zi}(h:Qn vs):∀v∈vs,pz v:=λv hv=>by
 obtain⟨i,hi,rfl⟩:=Wl.1 hv;exact(h.each i hi).Qs
theorem zfw(N:Nat)(hN:1000<=N)(vs:List zi)(hl:vs.length<=20):zp (f153 N vs) λc=>c=0->Qn vs:=by
 unfold f153;refine zp.CT (λj=>∀i (h:i<vs.length),i<j->zv5 vs i vs[i]) vs.length ?_ ?_ N 0 (v8 _) (by omega) (λi h hi=>by omega)
 ·intro k w hk hinv hw;simp only[Xm];rw[zb hk,zJ,zY hk];simp only[zO];rw[T2 N hN];simp only[zO];refine zp.cond (λ_=>zp.ret (by simp)) λYL=>?_
  refine zp.CT (λj=>∀i (h:i<vs.length),i<j->vs[i].1≠vs[k].1) k ?_ ?_ N 0 (v8 _) (by omega) (λi h hi=>by omega)
  ·intro j w' hj BC PD;simp only[Xl];have:decide ((j:Int)<(k:Int))=true:=by simpa using hj
   rw[this,zJ,zY (show j<vs.length by omega)];simp only[zO];refine zp.cond (λ_=>zp.ret (by simp)) λva=>?_
   rw[zk (by omega)];refine PD λi h hi=>?_
   by_cases e:i=j
   ·subst e;exact Z27 va
   ·exact BC i h (by omega)
  ·intro w' BC;simp only[Xl];rw[z9m k,zU];simp only[KV,p5,gid,zO,T1];refine zp.cond (λ_=>zp.ret (by simp)) λhkd=>?_
   refine zp.cond (λ_=>zp.ret (by simp)) λhr=>?_
   refine zp.cond (λ_=>zp.ret (by simp)) λhi=>?_
   rw[zk (by omega)];refine hw λi h wu=>?_
   by_cases e:i=k
   ·subst e;simp only[Hb]at YL hr;rw[G6]at hr;have hkd':vs[i].2.1=0\/vs[i].2.1=1\/vs[i].2.1=2\/vs[i].2.1=3:=by
     by_cases a0:vs[i].2.1=0
     ·exact .inl a0
     by_cases a1:vs[i].2.1=1
     ·exact .inr (.inl a1)
     by_cases a2:vs[i].2.1=2
     ·exact .inr (.inr (.inl a2))
     by_cases a3:vs[i].2.1=3
     ·exact .inr (.inr (.inr a3))
     simp[a0,a1,a2,a3]at hkd
    simp only[Wh,Z28,Q9,Hb,jc]at hi;refine⟨YL,λj h hj=>BC j h hj,by omega,by omega,hr,λh0=>?_,λh0=>?_⟩
    ·rcases hi.1 with h|h
     ·exact absurd h0 h
     ·omega
    ·rcases hi.2 with h|h
     ·exact absurd h h0
     ·exact h
   ·exact hinv i h (by omega)
 ·intro w hinv;simp only[Xm];rw[zH,zU];have hr:∀v∈vs,pz v:=λv hv=>by
   obtain⟨i,hi,rfl⟩:=Wl.1 hv;exact(hinv i hi hi).Qs
  refine zp.then (HZ N hN vs hl hr 1) λr1 h1=>?_
  refine zp.then (P:=λb=>b=false->r1<=4096/\zf (qh vs 2)<=4096) ?_ λb hb=>?_
  ·refine zp.cond (λ_=>zp.ret (by simp)) λh=>zp.then (HZ N hN vs hl hr 2) λr2 h2=>zp.ret λh'=>?_
   simp only[Q9]at h h';omega
  refine zp.then (P:=λb'=>b'=false->b=false/\zf (qh vs 3)<=256) ?_ λb' Zk=>?_
  ·refine zp.cond (λ_=>zp.ret (by simp)) λh=>zp.then (HZ N hN vs hl hr 3) λr2 h2=>zp.ret λh'=>?_
   simp only[Q9]at h';exact⟨h,by omega⟩
  refine zp.cond (λ_=>zp.ret (by simp)) λh=>zp.ret λ_=>?_
  obtain⟨q1,q2⟩:=Zk h;obtain⟨q3,q4⟩:=hb q1;exact⟨hl,λi h=>hinv i h h,by omega,q4,q2⟩
theorem HY(N:Nat)(hN:1000<=N){vs:List zi}(hl:vs.length<=20)(hr:∀v∈vs,pz v)(k:Int)(hk:0<=k/\k<=3)(hp:zf (qh vs k)<=4096):f18 N vs k=some (zf (qh vs k),0):=by
 refine zp.eq ?_;unfold f18;have pg:k=0\/k=1\/k=2\/k=3:=by omega
 have eb:(((!decide (k=0) && !decide (k=1)) && !decide (k=2)) && !decide (k=3))=false:=by
  rcases pg with rfl|rfl|rfl|rfl<;>rfl
 simp only[p5,zO];rw[eb,zU,z8t N hN vs hl];simp only[zO];have Uc:=YP vs k;have Qt:=kz hr k;generalize qh vs k=l at *;have ck:∀{R:Type}(j:Nat)(hj:j<l.length)(x:Option R),qV (wY l (j:Int)) x=x:=λj hj x=>qx (by simp only[wY,zA,jc,len];omega)
 refine zp.CT (λ_=>True) l.length ?_ ?_ N 0 (v8 _) (by omega) trivial
 ·intro j w hj _ hw;simp only[HJ];rw[zb hj,zJ];simp only[ck j hj,zY hj,zO,KV];obtain⟨a,b,c⟩:=Qt _ (wB hj);have:((decide (l[j].2.2.2.1<l[j].2.2.1)||decide (l[j].2.2.1 < -1048576))||decide (1048576<l[j].2.2.2.1))=false:=by
   simp only[Wh,Q9];omega
  rw[this,zU,zk (by omega)];exact hw trivial
 ·intro w _;simp only[HJ];rw[zH,zU];refine zp.up (λj n=>n=zf (l.take j)/\1<=n/\n<=4096) l.length ?_ ?_ N 0 (v8 _) (by omega) 1 ⟨rfl,by omega,by omega⟩
  ·rintro j n w hj ⟨h1,h2,h3⟩ hw;have hv:=Qt _ (wB hj);simp only[Xd];rw[zb hj,zJ];simp only[ck j hj,zY hj,zO];obtain⟨e1,e2⟩:=O5 h2 h3 hv;rw[Eo hv,e1,zk (by omega)];have e3:n*KR l[j]=zf (l.take (j+1)):=by rw[qX hj,K3,<-h1]
   have e4:=WB Qt (j+1);refine zp.cond (λh=>?_) λ_=>hw _ ⟨e3,e2,by omega⟩
   simp only[jc]at h;omega
  ·rintro n w ⟨h1,h2,h3⟩;simp only[Xd];rw[zH,zU,h1,Ki];exact zp.ret rfl
theorem HG(N:Nat)(hN:1000<=N){vs:List zi}(hl:vs.length<=20)(hr:∀v∈vs,pz v)(k:Int)(hk:0<=k/\k<=3)(hp:zf (qh vs k)<=4096):f165 N vs k=some (qh vs k,(zf (qh vs k),0)):=by
 have key:iter (λw=>Za N k vs (len vs) w (λt5 t6=>some (([]:List zi),(t5,t6)))
   (λyE=>iter (λw=>ue N (len yE) yE w (λPN X9=>some (([]:List zi),(PN,X9))) (λRQ=>some (yE,(RQ,0)))) N (0,1))) N (0,([]:List zi))=some (qh vs k,(zf (qh vs k),0)):=by
  refine zp.eq ?_;refine zp.up (λj o=>o=qh (vs.take j) k) vs.length ?_ ?_ N 0 (v8 _) (by omega) [] rfl
  ·rintro j o w hj rfl hw;simp only[Za];rw[zb hj,zJ,zY hj];simp only[zO,KV];rw[zk (by omega)];have hle:=YP (vs.take j) k;rw[CB]at hle;obtain⟨a,b,c⟩:=hr _ (wB hj);have:((decide (vs[j].2.2.2.1<vs[j].2.2.1)||decide (vs[j].2.2.1 < -1048576))||decide (1048576<vs[j].2.2.2.1))=false:=by
    simp only[Wh,Q9];omega
   rw[this,zU];refine zp.cond (λhb=>hw _ ?_) λhb=>zp.qV (by simp only[jc];exact Z1o (m:=200) (by omega) (by decide)) (hw _ ?_)
   ·simp only[PF,Q9]at hb;rw[qX hj,Z4,qP hb]
   ·simp only[Hb,jc]at hb;rw[qX hj,Z4,qn hb]
  ·rintro o w rfl;simp only[Za];rw[show decide (((vs.length:Nat):Int)<len vs)=false from zH _,zU,Ki];have Uc:=YP vs k;have Qt:=kz hr k;generalize qh vs k=l at *;refine zp.up (λj n=>n=zf (l.take j)/\1<=n/\n<=4096) l.length ?_ ?_ N 0 (v8 _) (by omega) 1 ⟨rfl,by omega,by omega⟩
   ·rintro j n w hj ⟨h1,h2,h3⟩ hw;have hv:=Qt _ (wB hj);simp only[ue,f166];rw[zb hj,zJ,qx (by simp only[wY,zA,jc,len];omega),zY hj];simp only[zO];obtain⟨e1,e2⟩:=O5 h2 h3 hv;rw[Eo hv,e1,zk (by omega)];have e3:n*KR l[j]=zf (l.take (j+1)):=by rw[qX hj,K3,<-h1]
    have e4:=WB Qt (j+1);refine zp.cond (λh=>?_) λ_=>hw _ ⟨e3,e2,by omega⟩
    simp only[jc]at h;omega
   ·rintro n w ⟨h1,h2,h3⟩;simp only[ue];rw[show decide (((l.length:Nat):Int)<len l)=false from zH _,zU,h1,Ki];exact zp.ret rfl
 unfold f165;have pg:k=0\/k=1\/k=2\/k=3:=by omega
 rcases pg with rfl|rfl|rfl|rfl<;>exact key
theorem Bc(N:Nat)(hN:1000<=N){vs:List zi}(hl:vs.length<=20)(hr:∀v∈vs,pz v)(k:Int)(hk:0<=k/\k<=3)(hp:zf (qh vs k)<=4096):f71 N vs k=some (zf (qh vs k),0):=by
 unfold f71;rw[HG N hN hl hr k hk hp];rfl
theorem zq4{I:Type}(l:List I)(k:Nat):sub l 0 (k:Int)=l.take k:=by simp[sub]
theorem z8u(N:Nat)(hN:1000<=N)(vs:List zi)(hl:vs.length<=20)(x:zi)(h:∀j (hj:j<vs.length),vs[j].1≠x.1):f67 N vs (x,())=some (-1):=by
 refine zp.eq ?_;unfold f67;refine zp.CT (λ_=>True) vs.length ?_ ?_ N 0 (v8 _) (by omega) trivial
 ·intro k w hk _ hw;simp only[H6];rw[show decide ((k:Int)<len vs)=true from zb hk,zJ,zY hk];simp only[zO,f240];rw[qd (h k hk),zU,zk (by omega)];exact hw trivial
 ·intro w _;simp only[H6];rw[show decide (((vs.length:Nat):Int)<len vs)=false from zH _,zU];exact zp.ret rfl
theorem zfv(N:Nat)(hN:1000<=N){vs:List zi}(hv:Qn vs):f161 N vs=some 0:=by
 have hl:=hv.len;refine zp.eq ?_;unfold f161;refine zp.CT (λ_=>True) vs.length ?_ ?_ N 0 (v8 _) (by omega) trivial
 ·intro k w hk _ hw;obtain⟨q1,q2,q3,q4,q5,q6,q7⟩:=hv.each k hk;simp only[Xh];rw[show decide ((k:Int)<len vs)=true from zb hk,zJ,zY hk];simp only[zO];rw[SN N hN,zO,q1];rw[show(!true)=false from rfl,zU,qx (by simp only[zA,jc,len];omega),zq4];unfold f16;rw[z8u N hN (vs.take k) (by rw[CB];omega) vs[k] (λj hj=>by
   have gg:j<k:=by rw[CB]at hj;omega
   rw[Z40];exact q2 j (by omega) gg)]
  simp only[zO,KV,p5,gid,SI];rw[show decide ((0:Int)<=-1)=false from rfl,zU];have e1:(decide (vs[k].2.1<0)||decide (3<vs[k].2.1))=false:=by simp only[Wh,Q9];omega
  rw[e1,zU,G6.2 q5];rw[show(!true)=false from rfl,zU];have e2:(!decide (vs[k].2.1=0) && !decide (vs[k].2.2.2.2.1=0))=false:=by
   by_cases h:vs[k].2.1=0
   ·simp[h]
   ·simp[q7 h]
  have e3:(decide (vs[k].2.1=0)&&(decide (vs[k].2.2.2.2.1<vs[k].2.2.1)||decide (vs[k].2.2.2.1<vs[k].2.2.2.2.1)))=false:=by
   by_cases h:vs[k].2.1=0
   ·have:=q6 h;simp only[Z28,Wh,Q9];right;omega
   ·simp[h]
  rw[e2,zU,e3,zU,zk (by omega)];exact hw trivial
 ·intro w _;simp only[Xh];rw[show decide (((vs.length:Nat):Int)<len vs)=false from zH _,zU];refine zp.CT (λ_=>True) 3 ?_ ?_ N 0 (v8 _) (by omega) trivial
  ·intro k w' hk _ PD;simp only[P4];have pg:k=0\/k=1\/k=2:=by omega
   rcases pg with rfl|rfl|rfl
   ·rw[show decide (((0:Nat):Int)<((3:Nat):Int))=true from rfl,zJ];refine zp.qV rfl ?_;rw[show idx ((1:Int)::(2::(3::([]:List Int)))) ((0:Nat):Int)=some 1 from rfl,zO,Bc N hN hl hv.Qs 1 (by omega) hv.sec];exact PD trivial
   ·rw[show decide (((1:Nat):Int)<((3:Nat):Int))=true from rfl,zJ];refine zp.qV rfl ?_;rw[show idx ((1:Int)::(2::(3::([]:List Int)))) ((1:Nat):Int)=some 2 from rfl,zO,Bc N hN hl hv.Qs 2 (by omega) hv.pub];exact PD trivial
   ·rw[show decide (((2:Nat):Int)<((3:Nat):Int))=true from rfl,zJ];refine zp.qV rfl ?_;have h3:=hv.rnd;rw[show idx ((1:Int)::(2::(3::([]:List Int)))) ((2:Nat):Int)=some 3 from rfl,zO,Bc N hN hl hv.Qs 3 (by omega) (by omega)];simp only[zO,KV,p5,gid];have e1:decide (256<zf (qh vs 3))=false:=by simp only[Q9];omega
    rw[e1];exact PD trivial
  ·intro w' _;simp only[P4];exact zp.ret rfl
end Go.Kz
namespace Go.Kz
def kH(op:Int):Int:=if op=0\/op=24 then 0 else if op=6\/op=7 then 1 else if 8<=op/\op<=22 then 2 else if op=23 then 3 else if op=25 then -2 else -1
theorem zfm(N:Nat)(op:Int):f292 N op=some (kH op):=by
 by_cases h0:op=0
 ·subst h0;rfl
 by_cases xV:op=24
 ·subst xV;rfl
 by_cases h6:op=6
 ·subst h6;rfl
 by_cases h7:op=7
 ·subst h7;rfl
 by_cases hm:8<=op/\op<=22
 ·have:op=8\/op=9\/op=10\/op=11\/op=12\/op=13\/op=14\/op=15\/op=16\/op=17\/op=18\/op=19\/op=20\/op=21\/op=22:=by omega
  rcases this with rfl|rfl|rfl|rfl|rfl|rfl|rfl|rfl|rfl|rfl|rfl|rfl|rfl|rfl|rfl<;>rfl
 by_cases N9:op=23
 ·subst N9;rfl
 by_cases N8:op=25
 ·subst N8;rfl
 have hk:kH op = -1:=by simp[kH,h0,xV,h6,h7,hm,N9,N8]
 rw[hk];unfold f292;simp only[qd h0,qd xV,qd h6,qd h7,qd (show ¬op=8 by omega),qd (show ¬op=9 by omega),qd (show ¬op=10 by omega),qd (show ¬op=11 by omega),qd (show ¬op=12 by omega),qd (show ¬op=13 by omega),qd (show ¬op=14 by omega),qd (show ¬op=15 by omega),qd (show ¬op=16 by omega),qd (show ¬op=17 by omega),qd (show ¬op=18 by omega),qd (show ¬op=19 by omega),qd (show ¬op=20 by omega),qd (show ¬op=21 by omega),qd (show ¬op=22 by omega),qd N9,qd N8,zU]
theorem z6r(op:Int): -2<=kH op:=by
 simp only[kH];repeat' split
 all_goals omega
def TY(r:Int)(k:Nat):Bool:=if r = -2 then decide (2<=(k:Int))&&decide ((k:Int)<=33) else decide ((k:Int)=r)
theorem zfe(N:Nat)(op:Int):f339 N op=some (if kH op = -2 then (2,33) else (kH op,kH op)):=by
 unfold f339;simp only[KV,p5,zO];by_cases h0:op=0\/op=24
 ·have:(decide (op=0)||decide (op=24))=true:=by simpa using h0
  rw[this,zJ];simp[kH,h0]
 have e0:(decide (op=0)||decide (op=24))=false:=by simpa using h0
 rw[e0,zU];by_cases h6:op=6\/op=7
 ·have:(decide (op=6)||decide (op=7))=true:=by simpa using h6
  rw[this,zJ];simp[kH,h0,h6]
 have e6:(decide (op=6)||decide (op=7))=false:=by simpa using h6
 rw[e6,zU];by_cases hm:8<=op/\op<=22
 ·have:(decide (8<=op)&&decide (op<=22))=true:=by simpa using hm
  rw[this,zJ];simp[kH,h0,h6,hm]
 have em:(decide (8<=op)&&decide (op<=22))=false:=by
  simp only[Z28,Q9];omega
 rw[em,zU];by_cases N9:op=23
 ·subst N9;rfl
 by_cases N8:op=25
 ·subst N8;rfl
 rw[qd N9,qd N8];simp[kH,h0,h6,hm,N9,N8]
def Ex(vs:List zi)(vW:Bool)(op n:Int)(k:Nat):Bool:=
 TY (kH op) k&&(if op=24 then (decide (0<=n)&&decide (n<len vs)) && !(vW&&(match vs[n.toNat]? with
  |some v=>decide (v.2.1=0)
  |none=>true)) else decide (op=0)||decide (n=0))
mutual
def GN(vs:List zi)(vW:Bool):Tm->Bool
 |⟨op,n,ks⟩=>Ex vs vW op n ks.length&&fmL vs vW ks
def fmL(vs:List zi)(vW:Bool):List Tm->Bool
 |[]=>true
 |k::ks=>GN vs vW k&&fmL vs vW ks
end
theorem SP(vs:List zi)(vW:Bool):∀l:List Tm,fmL vs vW l=l.all (GN vs vW)
 |[]=>rfl
 |k::ks=>by simp only[fmL,List.all_cons,SP vs vW ks]
theorem KK(vs:List zi)(vW:Bool)(t:Tm):GN vs vW t=(Ex vs vW t.op t.n t.kids.length&&t.kids.all (GN vs vW)):=by
 cases t;simp only[GN,SP]
theorem zq6{vs:List zi}{n:Int}{vW:Bool}:(cond (decide (n<0)||decide (len vs<=n)) (some true) (cond vW ((idx vs n).bind λx=>some (decide (x.2.1=0))) (some false))) =
  some (!((decide (0<=n)&&decide (n<len vs)) && !(vW&&(match vs[n.toNat]? with
  |some v=>decide (v.2.1=0)
  |none=>true)))):=by
 by_cases h:0<=n/\n<len vs
 ·have e1:(decide (n<0)||decide (len vs<=n))=false:=by simp only[Wh,Q9];omega
  have e2:(decide (0<=n)&&decide (n<len vs))=true:=by simpa using h
  have h2:n.toNat<vs.length:=by have:=h.2;simp only[len]at this;omega
  have e3:idx vs n=some vs[n.toNat]:=Kx h.1 (by have:=h.2;simp only[len]at this;omega);rw[e1,e2,zU,e3,wV h2];cases vW<;>simp
 ·have e1:(decide (n<0)||decide (len vs<=n))=true:=by simp only[CX,jc];omega
  have e2:(decide (0<=n)&&decide (n<len vs))=false:=by simp only[Z28,Q9];omega
  rw[e1,e2];rfl
theorem q4r{r:Int}(hr : -2<=r)(l:List Tm):((decide (r = -1)||(decide (0<=r) && !decide (len l=r)))||(decide (r = -2)&&(decide (len l<2)||decide (33<len l))))=!TY r l.length:=by
 rw[Z3j];unfold TY;simp only[len];by_cases h2:r = -2
 ·subst h2;simp
 ·simp only[h2,Z1w];by_cases h1:r = -1
  ·subst h1;simp
  ·simp[h1,h2];omega
theorem q4q{r:Int}(l:List Tm):((decide ((if r = -2 then ((2:Int),(33:Int)) else (r,r)).1<0)||decide (len l<(if r = -2 then ((2:Int),(33:Int)) else (r,r)).1))||decide ((if r = -2 then ((2:Int),(33:Int)) else (r,r)).2<len l))=!TY r l.length:=by
 rw[Z3j];unfold TY;simp only[len];by_cases h2:r = -2
 ·subst h2;simp
 ·simp only[h2,Z1w];simp;omega
theorem M7(N:Nat)(hN:1000<=N)(vs:List zi)(vW:Bool):∀(M:Nat)(t:Tm),xP t<=M->xP t<=200->EG N M vs (ga t) vW=some (GN vs vW t)
 |0,t,h,_=>by have:=yG t;omega
 |M+1,t,h,ht=>by
  show SR N (EG N M) vs (ga t) vW=_;have ql:=pC t;have Uc:=kP t.kids;unfold SR;simp only[zfm,zO,KV,p5,gid];rw[KK];have hlp:iter (λw=>uJ N (EG N M) vW vs (ga t) w (λt6=>some t6) (λ(_:Unit)=>some true)) N 0=some (t.kids.all (GN vs vW)):=by
   have:=Uq (F:=λw=>uJ N (EG N M) vW vs (ga t) w (λt6=>some t6) (λ(_:Unit)=>some true)) t.kids (GN vs vW) (some true) (some false) ?_ ?_ N (by omega)
   ·rw[this];cases t.kids.all (GN vs vW)<;>rfl
   ·intro k w hk;simp only[uJ];have hm:=wy (wB hk);rw[show decide ((k:Int)<len t.kids)=true from zb hk,zJ,zY hk];simp only[zO];rw[show EG N M vs (t.kids[k].1,(t.kids[k].2,(t.kids[k].3,()))) vW=some (GN vs vW t.kids[k]) from M7 N hN vs vW M _ (by omega) (by omega)];rw[zk (by omega)];cases GN vs vW t.kids[k]<;>rfl
   ·intro w;simp only[uJ];rw[show decide (((t.kids.length:Nat):Int)<len t.kids)=false from zH _,zU]
  rw[hlp];rw[q4r (z6r t.op) t.kids];simp only[Ex]
  cases ha:TY (kH t.op) t.kids.length with
  |false=>rfl
  |true=>
   simp only[Qv,zU,Z3k];by_cases xV:t.op=24
   ·rw[jQ xV,zJ,qn xV,zq6,zO];cases (decide (0<=t.n)&&decide (t.n<len vs)) && !(vW&&_)<;>rfl
   ·rw[qd xV,zU,qP xV];by_cases h0:t.op=0
    ·simp[h0]
    ·by_cases hn:t.n=0
     ·simp[h0,hn]
     ·simp[h0,hn]
theorem zfs(N:Nat)(hN:1000<=N)(vs:List zi)(vW:Bool)(t:Tm)(ht:xP t<=200):f237 N vs (ga t) vW=some (GN vs vW t):=M7 N hN vs vW N t (by omega) ht
theorem M5(N:Nat)(hN:1000<=N)(vs:List zi)(vW:Bool):∀(M:Nat)(t:Tm),xP t<=M->xP t<=200->EK N M vs (ga t) vW=some (GN vs vW t)
 |0,t,h,_=>by have:=yG t;omega
 |M+1,t,h,ht=>by
  show SD N (EK N M) vs (ga t) vW=_;have ql:=pC t;have Uc:=kP t.kids;unfold SD;simp only[zfe,zO,KV,p5,gid];rw[KK];have hlp:iter (λw=>pZ N (EK N M) vW vs (ga t).2.2.1 (len (ga t).2.2.1) w (λt6=>some t6) (λ(_:Unit)=>some true)) N 0=some (t.kids.all (GN vs vW)):=by
   have:=Uq (F:=λw=>pZ N (EK N M) vW vs (ga t).2.2.1 (len (ga t).2.2.1) w (λt6=>some t6) (λ(_:Unit)=>some true)) t.kids (GN vs vW) (some true) (some false) ?_ ?_ N (by omega)
   ·rw[this];cases t.kids.all (GN vs vW)<;>rfl
   ·intro k w hk;simp only[pZ];have hm:=wy (wB hk);rw[show decide ((k:Int)<len t.kids)=true from zb hk,zJ,zY hk];simp only[zO];rw[show EK N M vs (t.kids[k].1,(t.kids[k].2,(t.kids[k].3,()))) vW=some (GN vs vW t.kids[k]) from M5 N hN vs vW M _ (by omega) (by omega)];rw[zk (by omega)];cases GN vs vW t.kids[k]<;>rfl
   ·intro w;simp only[pZ];rw[show decide (((t.kids.length:Nat):Int)<len t.kids)=false from zH _,zU]
  rw[hlp];rw[q4q t.kids];simp only[Ex]
  cases ha:TY (kH t.op) t.kids.length with
  |false=>rfl
  |true=>
   simp only[Qv,zU,Z3k];by_cases xV:t.op=24
   ·rw[qd (show ¬t.op=0 by omega),zU,jQ xV,zJ,qn xV,zq6,zO];cases (decide (0<=t.n)&&decide (t.n<len vs)) && !(vW&&_)<;>rfl
   ·rw[qd xV,zU,qP xV];by_cases h0:t.op=0
    ·simp[h0]
    ·by_cases hn:t.n=0
     ·simp[h0,hn]
     ·simp[h0,hn]
theorem zfi(N:Nat)(hN:1000<=N)(vs:List zi)(vW:Bool)(t:Tm)(ht:xP t<=200):f297 N vs (ga t) vW=some (GN vs vW t):=M5 N hN vs vW N t (by omega) ht
end Go.Kz
namespace Go.Kz
theorem Vi(x y:Int):xI x y=min x y:=by simp only[xI];split<;>omega
theorem Vl(x y:Int):JK x y=max x y:=by simp only[JK];split<;>omega
theorem Pz(N:Nat)(a b:Int):f120 N a b=some (min a b):=by
 unfold f120;by_cases h:a<b
 ·rw[jQ h,zJ];congr 1;omega
 ·rw[qd h,zU];congr 1;omega
theorem W5(N:Nat)(a b:Int):f119 N a b=some (max a b):=by
 unfold f119;by_cases h:b<a
 ·rw[jQ h,zJ];congr 1;omega
 ·rw[qd h,zU];congr 1;omega
def RP(p:Int×Int):Prop:=-1048576<=p.1/\p.1<=p.2/\p.2<=1048576
def BG(a b:Int×Int):Int×Int:=(min a.1 b.1,max a.2 b.2)
def jW(vs:List zi)(op n:Int)(l:List (Int×Int)):Int×Int:=
 let p:=l.getD 0 (0,0);let q:=l.getD 1 (0,0)
 if op=0 then (n,n)
 else if op=24 then (match vs[n.toNat]? with
  |some v=>(v.2.2.1,v.2.2.2.1)
  |none=>(0,0))
 else if op=6 then (-p.2,-p.1)
 else if op=8 then (p.1+q.1,p.2+q.2)
 else if op=9 then (p.1-q.2,p.2-q.1)
 else if op=10 then (min (min (p.1*q.1) (p.1*q.2)) (min (p.2*q.1) (p.2*q.2)),max (max (p.1*q.1) (p.1*q.2)) (max (p.2*q.1) (p.2*q.2)))
 else if op=11 then (if 0<=p.1/\0<=q.1 then 0 else -(max p.2 (-p.1)),max p.2 (-p.1))
 else if op=12 then (if q.1<0 then min (q.1+1) 0 else 0,if 0<q.2 then max (q.2-1) 0 else 0)
 else if op=21 then (min p.1 q.1,min p.2 q.2)
 else if op=22 then (max p.1 q.1,max p.2 q.2)
 else if op=23\/op=25 then (l.drop 2).foldl BG q
 else (0,1)
structure Head (vs:List zi) (op n:Int) (k:Nat):Prop where
 ar:TY (kH op) k=true
 ref:op=24->0<=n/\n<len vs
theorem Zv{vs:List zi}{vW:Bool}{op n:Int}{k:Nat}(h:Ex vs vW op n k=true):Head vs op n k:=by
 simp only[Ex,zA]at h;refine⟨h.1,λxV=>?_⟩;have:=h.2;rw[qn xV]at this;simp only[zA,jc]at this;exact this.1
theorem Head.one{vs:List zi}{op n:Int}{I:Type}{l:List I}(h:Head vs op n l.length)(ho:op=6\/op=7):∃p,l=[p]:=by
 have h1:kH op=1:=by rcases ho with rfl|rfl<;>rfl
 have:=h.ar;rw[h1]at this;simp[TY]at this
 match l,this with
 |[p],_=>exact⟨p,rfl⟩
theorem Head.two{vs:List zi}{op n:Int}{I:Type}{l:List I}(h:Head vs op n l.length)(ho:8<=op/\op<=22):∃p q,l=[p,q]:=by
 have h1:kH op=2:=by
  simp only[kH];rw[qP (by omega),qP (by omega),qn ho]
 have:=h.ar;rw[h1]at this;simp[TY]at this;have h2:l.length=2:=by omega
 match l,h2 with
 |[p,q],_=>exact⟨p,q,rfl⟩
theorem Head.many{vs:List zi}{op n:Int}{I:Type}{l:List I}(h:Head vs op n l.length)(ho:op=23\/op=25):2<=l.length/\l.length<=33:=by
 have:=h.ar;rcases ho with rfl|rfl
 ·simp[TY,show kH 23=3 from rfl]at this;omega
 ·simp[TY,show kH 25 = -2 from rfl]at this;omega
theorem zef{a b:Int×Int}(ha:a.1<=a.2):(BG a b).1<=(BG a b).2:=by
 simp only[BG];omega
theorem Wb:∀(l:List (Int×Int)) (a:Int×Int),a.1<=a.2->(l.foldl BG a).1<=(l.foldl BG a).2
 |[],a,h=>h
 |x::l,a,h=>Wb l (BG a x) (zef h)
theorem SY{l:List (Int×Int)}(hl:∀p∈l,RP p)(i:Nat):RP (l.getD i (0,0)):=by
 rw[ZB]
 cases h:l[i]? with
 |none=>simp[RP]
 |some p=>exact hl p (Z4d h)
set_option maxHeartbeats 2000000 in
theorem z4j{vs:List zi}(hr:∀v∈vs,pz v)(op n:Int){l:List (Int×Int)}(hl:∀p∈l,RP p):(jW vs op n l).1<=(jW vs op n l).2:=by
 obtain⟨a1,a2,a3⟩:=SY hl 0;obtain⟨b1,b2,b3⟩:=SY hl 1;simp only[jW];generalize l.getD 0 (0,0)=p at *;generalize hq:l.getD 1 (0,0)=q at *;split
 ·simp
 split
 ·split
  ·rename_i v hv;exact(hr v (Z4d hv)).1
  ·simp
 split
 ·simp only;omega
 split
 ·simp only;omega
 split
 ·simp only;omega
 split
 ·simp only;omega
 split
 ·simp only;split<;>omega
 split
 ·simp only;split<;>split<;>omega
 split
 ·simp only;omega
 split
 ·simp only;omega
 split
 ·exact Wb _ _ b2
 ·simp
theorem zkz{a b:Int}(ha : -1048576<=a/\a<=1048576)(hb : -1048576<=b/\b<=1048576): -1099511627776<=a*b/\a*b<=1099511627776:=by
 have h:(a*b).natAbs<=1048576*1048576:=by
  rw[Int.natAbs_mul];exact Z25 (by omega) (by omega)
 omega
theorem ZO{a b:Int}(ha : -1048576<=a/\a<=1048576)(hb : -1048576<=b/\b<=1048576):zz (a*b)=a*b:=by
 have:=zkz ha hb;exact zx (by omega) (by omega)
def Au(vs:List zi)(op n:Int)(l:List (Int×Int)):Int×Int:=if op=0/\(n < -1048576\/1048576<n) then (-1048577,1048577) else jW vs op n l
theorem zfl(N:Nat)(hN:1000<=N)(vs:List zi)(op n:Int)(ks:List Tm)(l:List (Int×Int))(hh:Head vs op n l.length)(hl:∀p∈l,RP p):
  f293 N vs (op,(n,(ks,()))) (l.map Prod.fst) (l.map Prod.snd)=some (Au vs op n l):=by
 unfold f293;simp only[KV,zO];by_cases h0:op=0
 ·subst h0;rw[show decide ((0:Int)=0)=true from rfl,zJ];by_cases hn:n < -1048576\/1048576<n
  ·have:(decide (n < -1048576)||decide (1048576<n))=true:=by simpa using hn
   rw[this,zJ];simp[Au,hn]
  ·have:(decide (n < -1048576)||decide (1048576<n))=false:=by simpa using hn
   rw[this,zU];simp[Au,jW,hn]
 have eR:Au vs op n l=jW vs op n l:=by simp[Au,h0]
 rw[qd h0,zU,eR];by_cases xV:op=24
 ·obtain⟨q1,q2⟩:=hh.ref xV;have h2:n.toNat<vs.length:=by simp only[len]at q2;omega
  have e3:idx vs n=some vs[n.toNat]:=Kx q1 (by simp only[len]at q2;omega);rw[jQ xV,zJ,e3];subst xV;simp[jW,h2]
 rw[qd xV,zU];by_cases h6:op=6
 ·obtain⟨p,rfl⟩:=hh.one (.inl h6);have:=hl p (by simp);obtain⟨a1,a2,a3⟩:=this;subst h6;rw[show decide ((6:Int)=6)=true from rfl,zJ];rw[show idx (List.map Prod.snd [p]) 0=some p.2 from rfl,show idx (List.map Prod.fst [p]) 0=some p.1 from rfl];simp only[zO];rw[zx (by omega) (by omega),zx (by omega) (by omega)];simp[jW]
 rw[qd h6,zU];by_cases h2:8<=op/\op<=22
 ·obtain⟨p,q,rfl⟩:=hh.two h2;obtain⟨a1,a2,a3⟩:=hl p (by simp);obtain⟨b1,b2,b3⟩:=hl q (by simp);have i1:idx (List.map Prod.fst [p,q]) 0=some p.1:=rfl;have i2:idx (List.map Prod.fst [p,q]) 1=some q.1:=rfl;have i3:idx (List.map Prod.snd [p,q]) 0=some p.2:=rfl;have i4:idx (List.map Prod.snd [p,q]) 1=some q.2:=rfl;simp only[i1,i2,i3,i4,zO];have sp:∀x:Int×Int,jW vs op n [p,q]=x->some x=some (jW vs op n [p,q]):=λx h=>by rw[h]
  by_cases h8:op=8
  ·rw[jQ h8,zJ,zx (by omega) (by omega),zx (by omega) (by omega)];subst h8;rfl
  rw[qd h8,zU];by_cases h9:op=9
  ·rw[jQ h9,zJ,zx (by omega) (by omega),zx (by omega) (by omega)];subst h9;rfl
  rw[qd h9,zU];by_cases h10:op=10
  ·rw[jQ h10,zJ];simp only[Pz,W5,zO];rw[ZO ⟨a1,by omega⟩ ⟨b1,by omega⟩,ZO ⟨a1,by omega⟩ ⟨by omega,b3⟩,ZO ⟨by omega,a3⟩ ⟨b1,by omega⟩,ZO ⟨by omega,a3⟩ ⟨by omega,b3⟩];subst h10;rfl
  rw[qd h10,zU];by_cases h11:op=11
  ·rw[jQ h11,zJ];have f3:∀x:Int,-1048576<=x->x<=1048576->f337 N x=some (if x<0 then -x else x):=λx c1 c2=>by
    unfold f337;by_cases hx:x<0
    ·rw[jQ hx,zJ,zx (by omega) (by omega),qn hx];congr 1;omega
    ·rw[qd hx,zU,qP hx]
   rw[f3 _ a1 (by omega),f3 _ (by omega) a3];simp only[zO,W5];have em:max (if p.1<0 then -p.1 else p.1) (if p.2<0 then -p.2 else p.2)=max p.2 (-p.1):=by split<;>split<;>omega
   rw[em];simp only[p5,zO];subst h11;by_cases hc:0<=p.1/\0<=q.1
   ·have:(decide (0<=p.1)&&decide (0<=q.1))=true:=by simpa using hc
    rw[this,zJ];simp[jW,hc]
   ·have:(decide (0<=p.1)&&decide (0<=q.1))=false:=by
     simp only[Z28,Q9];omega
    rw[this,zU,zx (by omega) (by omega)];simp[jW,hc]
  rw[qd h11,zU];by_cases h12:op=12
  ·rw[jQ h12,zJ];subst h12;unfold f338;simp only[Pz,W5,zO];by_cases c1:q.1<0
   ·rw[jQ c1,zJ,zx (n:=q.1+1) (by omega) (by omega)];by_cases c2:0<q.2
    ·rw[jQ c2,zJ,zx (by omega) (by omega)];simp[jW,c1,c2];omega
    ·rw[qd c2,zU];simp[jW,c1,c2];omega
   ·rw[qd c1,zU];by_cases c2:0<q.2
    ·rw[jQ c2,zJ,zx (by omega) (by omega)];simp[jW,c1,c2];omega
    ·rw[qd c2,zU];simp[jW,c1,c2]
  rw[qd h12,zU];by_cases h21:op=21
  ·rw[jQ h21,zJ];simp only[Pz,zO];subst h21;rfl
  rw[qd h21,zU];by_cases h22:op=22
  ·rw[jQ h22,zJ];simp only[W5,zO];subst h22;rfl
  rw[qd h22,zU,qd (show ¬op=23 by omega),zU,qd (show ¬op=25 by omega),zU];have:¬(op=23\/op=25):=by omega
  simp[jW,h0,xV,h6,h8,h9,h10,h11,h12,h21,h22,this]
 rw[qd (show ¬op=8 by omega),zU,qd (show ¬op=9 by omega),zU,qd (show ¬op=10 by omega),zU,qd (show ¬op=11 by omega),zU,qd (show ¬op=12 by omega),zU,qd (show ¬op=21 by omega),zU,qd (show ¬op=22 by omega),zU];have sE:¬(op=23\/op=25)->jW vs op n l=(0,1):=λh=>by
  simp[jW,h0,xV,h6,show ¬op=8 by omega,show ¬op=9 by omega,show ¬op=10 by omega,show ¬op=11 by omega,show ¬op=12 by omega,show ¬op=21 by omega,show ¬op=22 by omega,h]
 by_cases hm:op=23\/op=25
 ·obtain⟨g1,g2⟩:=hh.many hm;have i2:idx (List.map Prod.fst l) 1=some l[1].1:=by
   rw[show(1:Int)=((1:Nat):Int) from rfl,zY (by rw[J9];omega)];simp
  have i4:idx (List.map Prod.snd l) 1=some l[1].2:=by
   rw[show(1:Int)=((1:Nat):Int) from rfl,zY (by rw[J9];omega)];simp
  have key:iter (λw=>Qc N (List.map Prod.snd l) (List.map Prod.fst l) w (λz4d Rx=>some (Rx,z4d))) N (2,l[1].2,l[1].1)=some ((l.drop 2).foldl BG l[1]):=by
   refine zp.eq ?_;refine zp.up (λj s=>2<=j/\(s.2,s.1)=((l.take j).drop 2).foldl BG l[1]) l.length ?_ ?_ N 2 g1 (by omega) _ ?_
   ·rintro j ⟨hi,lo⟩ w hj ⟨hj2,hinv⟩ hw;simp only[Qc];rw[show decide ((j:Int)<len (List.map Prod.fst l))=true from zb (by simpa using hj),zJ,zY (by simpa using hj),zY (by simpa using hj)];simp only[zO,Pz,W5,R0];rw[zk (by omega)];refine hw _ ⟨by omega,?_⟩;simp only at hinv;rw[show(l.take (j+1)).drop 2=(l.take j).drop 2++[l[j]] by rw[qX hj,Z2y (by rw[CB];omega)],Z54,<-hinv];rfl
   ·rintro⟨hi,lo⟩ w ⟨_,hinv⟩;simp only[Qc];rw[show decide ((l.length:Int)<len (List.map Prod.fst l))=false by simp[len],zU];rw[Ki]at hinv;exact zp.ret hinv
   ·exact⟨jq _,by rw[show(l.take 2).drop 2=[] from I4 (by rw[CB];omega)];rfl⟩
  have hq:l.getD 1 (0,0)=l[1]:=by rw[ZB,wV (by omega)];rfl
  rcases hm with rfl|rfl
  ·rw[show decide ((23:Int)=23)=true from rfl,zJ,zJ,i2,i4];simp only[zO];rw[key,<-hq];rfl
  ·rw[show decide ((25:Int)=23)=false from rfl,zU,show decide ((25:Int)=25)=true from rfl,zJ,i2,i4];simp only[zO];rw[key,<-hq];rfl
 ·rw[qd (show ¬op=23 by omega),zU,qd (show ¬op=25 by omega),zU,sE hm]
end Go.Kz
namespace Go.Kz
theorem NF{R:Type}(x:Option R):wK [x,x]=x:=by simp[wK]
@[reducible] def Wp (p:Int×Int):Int×(Int×Unit):=(p.1,(p.2,()))
theorem SA(N:Nat)(a b:Int×(Int×Unit)):f365 N a b=some (min a.1 b.1,(max a.2.1 b.2.1,())):=by
 unfold f365;rw[Vi,Vl]
theorem zfc(N:Nat)(hN:1000<=N)(p q:Int×Int)(hp:RP p)(hq:RP q):f363 N (Wp p) (Wp q) ()=some (min (min (p.1*q.1) (p.1*q.2)) (min (p.2*q.1) (p.2*q.2)),(max (max (p.1*q.1) (p.1*q.2)) (max (p.2*q.1) (p.2*q.2)),())):=by
 obtain⟨a1,a2,a3⟩:=hp;obtain⟨b1,b2,b3⟩:=hq;unfold f363;simp only[f364,zO];rw[ZO ⟨a1,by omega⟩ ⟨b1,by omega⟩,ZO ⟨a1,by omega⟩ ⟨by omega,b3⟩,ZO ⟨by omega,a3⟩ ⟨b1,by omega⟩,ZO ⟨by omega,a3⟩ ⟨by omega,b3⟩];generalize p.1*q.1=a;generalize p.1*q.2=b;generalize p.2*q.1=c;generalize p.2*q.2=d;obtain⟨n,rfl⟩:∃n,N=n+4:=⟨N-4,by omega⟩;have st:∀(k:Nat) (hk:k<3) (s:Int×(Int×Unit)) (w:Int×(Int×(Int×Unit))->Option (Int×(Int×Unit))) (kx:(Int×(Int×Unit))->Option (Int×(Int×Unit))),
   Ga (n+4) (((Nat.succ (Nat.succ 1)):Nat):Int) (b::(c::(d::([]:List Int)))) (0,(0,())) w kx ((k:Int),s)=w ((k:Int)+1,(min s.1 ([b,c,d][k]'hk),(max s.2.1 ([b,c,d][k]'hk),()))):=by
  intro k hk s w kx;simp only[Ga];rw[show decide ((k:Int)<(((Nat.succ (Nat.succ 1)):Nat):Int))=true by simp;omega,zJ,qx (by simp[wY];omega),zY (l:=[b,c,d]) hk];simp only[zO,SA];rw[zk (by omega)]
 simp only[iter];have s0:=st 0 (by omega);have s1:=st 1 (by omega);have s2:=st 2 (by omega);simp only[show((0:Nat):Int)=0 from rfl,show((1:Nat):Int)=1 from rfl,show((2:Nat):Int)=2 from rfl,show(0:Int)+1=1 from rfl,show(1:Int)+1=2 from rfl,show(2:Int)+1=3 from rfl]at s0 s1 s2;rw[s0,s1,s2];simp only[Ga];rw[show decide ((3:Int)<(((Nat.succ (Nat.succ 1)):Nat):Int))=false from rfl,zU];simp only[List.getElem_cons_zero,Z52,zI,p8,Dx];omega
theorem zfd(N:Nat)(hN:1000<=N)(vs:List zi)(op n:Int)(ks:List Tm)(l:List (Int×Int))(hh:Head vs op n l.length)(hl:∀p∈l,RP p):
  f340 N vs (op,(n,(ks,()))) (l.map Wp)=some (Wp (jW vs op n l)):=by
 unfold f340;by_cases h0:op=0
 ·subst h0;rfl
 rw[qd h0,zU];by_cases xV:op=24
 ·obtain⟨q1,q2⟩:=hh.ref xV;have h2:n.toNat<vs.length:=by simp only[len]at q2;omega
  have e3:idx vs n=some vs[n.toNat]:=Kx q1 (by simp only[len]at q2;omega);rw[jQ xV,zJ,e3];subst xV;simp[jW,h2]
 rw[qd xV,zU];by_cases h6:op=6
 ·obtain⟨p,rfl⟩:=hh.one (.inl h6);have:=hl p (by simp);obtain⟨a1,a2,a3⟩:=this;subst h6;rw[show decide ((6:Int)=6)=true from rfl,zJ];rw[show idx (List.map Wp [p]) 0=some (Wp p) from rfl];simp only[zO];rw[zx (by omega) (by omega),zx (by omega) (by omega)];simp[jW]
 rw[qd h6,zU];by_cases h2:8<=op/\op<=22
 ·obtain⟨p,q,rfl⟩:=hh.two h2;have hp:=hl p (by simp);have hq:=hl q (by simp);obtain⟨a1,a2,a3⟩:=hp;obtain⟨b1,b2,b3⟩:=hq;have i1:idx (List.map Wp [p,q]) 0=some (Wp p):=rfl;have i2:idx (List.map Wp [p,q]) 1=some (Wp q):=rfl;simp only[i1,i2,zO,Vi,Vl];by_cases h8:op=8
  ·rw[jQ h8,zJ,zx (by omega) (by omega),zx (by omega) (by omega)];subst h8;rfl
  rw[qd h8,zU];by_cases h9:op=9
  ·rw[jQ h9,zJ,zx (by omega) (by omega),zx (by omega) (by omega)];subst h9;rfl
  rw[qd h9,zU];by_cases h10:op=10
  ·rw[jQ h10,zJ];rw[show f363 N (p.1,(p.2,())) (q.1,(q.2,())) ()=_ from zfc N hN p q ⟨a1,a2,a3⟩ ⟨b1,b2,b3⟩];subst h10;rfl
  rw[qd h10,zU];by_cases h11:op=11
  ·rw[jQ h11,zJ];simp only[p5,zO];rw[zx (n:=0-p.1) (by omega) (by omega)];subst h11;by_cases hc:0<=p.1/\0<=q.1
   ·have:(decide (0<=p.1)&&decide (0<=q.1))=true:=by simpa using hc
    rw[this,zJ];simp[jW,hc]
   ·have:(decide (0<=p.1)&&decide (0<=q.1))=false:=by
     simp only[Z28,Q9];omega
    rw[this,zU,zx (by omega) (by omega)];simp[jW,hc]
  rw[qd h11,zU];by_cases h12:op=12
  ·rw[jQ h12,zJ];subst h12;by_cases c1:q.1<0
   ·rw[jQ c1,zJ,zx (n:=q.1+1) (by omega) (by omega)];by_cases c2:0<q.2
    ·rw[jQ c2,zJ,zx (by omega) (by omega)];simp[jW,c1,c2]
    ·rw[qd c2,zU];simp[jW,c1,c2]
   ·rw[qd c1,zU];by_cases c2:0<q.2
    ·rw[jQ c2,zJ,zx (by omega) (by omega)];simp[jW,c1,c2]
    ·rw[qd c2,zU];simp[jW,c1,c2]
  rw[qd h12,zU];by_cases h21:op=21
  ·rw[jQ h21,zJ];subst h21;rfl
  rw[qd h21,zU];by_cases h22:op=22
  ·rw[jQ h22,zJ];subst h22;rfl
  rw[qd h22,zU,qd (show ¬op=23 by omega),zU,qd (show ¬op=25 by omega),zU];have:¬(op=23\/op=25):=by omega
  simp[jW,h0,xV,h6,h8,h9,h10,h11,h12,h21,h22,this]
 rw[qd (show ¬op=8 by omega),zU,qd (show ¬op=9 by omega),zU,qd (show ¬op=10 by omega),zU,qd (show ¬op=11 by omega),zU,qd (show ¬op=12 by omega),zU,qd (show ¬op=21 by omega),zU,qd (show ¬op=22 by omega),zU];have sE:¬(op=23\/op=25)->jW vs op n l=(0,1):=λh=>by
  simp[jW,h0,xV,h6,show ¬op=8 by omega,show ¬op=9 by omega,show ¬op=10 by omega,show ¬op=11 by omega,show ¬op=12 by omega,show ¬op=21 by omega,show ¬op=22 by omega,h]
 by_cases hm:op=23\/op=25
 ·obtain⟨g1,g2⟩:=hh.many hm;have i2:idx (List.map Wp l) 1=some (Wp l[1]):=by
   rw[show(1:Int)=((1:Nat):Int) from rfl,zY (by rw[J9];omega)];simp
  have es:sub (l.map Wp) 2 (len (l.map Wp))=(l.drop 2).map Wp:=by
   have e:(l.map Wp).drop 2=(l.drop 2).map Wp:=by rw[Z51]
   show((l.map Wp).drop 2).take _=_;rw[e,Z21];simp only[len,J9,Z20];omega
  have hd:(l.drop 2).length<=33:=by rw[Z20];omega
  have key:iter (λw=>Qb N ((l.drop 2).map Wp) (len ((l.drop 2).map Wp)) (0,(0,())) w (λvp=>some vp)) N (0,Wp l[1])=some (Wp ((l.drop 2).foldl BG l[1])):=by
   generalize l.drop 2=m at *;refine zp.eq ?_;refine zp.up (λj s=>s=Wp ((m.take j).foldl BG l[1])) m.length ?_ ?_ N 0 (v8 _) (by omega) _ rfl
   ·rintro j s w hj rfl hw;simp only[Qb];rw[show decide ((j:Int)<len (List.map Wp m))=true from zb (by simpa using hj),zJ,zY (by simpa using hj)];simp only[zO,SA,R0];rw[zk (by omega)];refine hw _ ?_;rw[qX hj,Z54];rfl
   ·rintro s w rfl;simp only[Qb];rw[show decide ((m.length:Int)<len (List.map Wp m))=false by simp[len],zU,Ki];exact zp.ret rfl
  have hq:l.getD 1 (0,0)=l[1]:=by rw[ZB,wV (by omega)];rfl
  have hc:(decide (2<=len (l.map Wp))&&decide (len (l.map Wp)<=len (l.map Wp)))=true:=by
   simp only[zA,jc,len,J9];omega
  rw[hc];simp only[qV,zJ];rw[es,i2];simp only[zO];rcases hm with rfl|rfl
  ·rw[show decide ((23:Int)=23)=true from rfl,zJ,zJ,key,<-hq];rfl
  ·rw[show decide ((25:Int)=23)=false from rfl,zU,show decide ((25:Int)=25)=true from rfl,zJ,key,<-hq];rfl
 ·rw[qd (show ¬op=23 by omega),zU,qd (show ¬op=25 by omega),zU,sE hm]
def okR(r:Int×Int):Bool:=decide (-1048576<=r.1)&&decide (r.2<=1048576)
mutual
def rgT(vs:List zi):Tm->Option (Int×Int)
 |⟨op,n,ks⟩=>(CL vs ks).bind λl=>cond (okR (jW vs op n l)) (some (jW vs op n l)) none
def CL(vs:List zi):List Tm->Option (List (Int×Int))
 |[]=>some []
 |k::ks=>(rgT vs k).bind λr=>(CL vs ks).bind λl=>some (r::l)
end
theorem Fp(vs:List zi)(t:Tm):rgT vs t=(CL vs t.kids).bind λl=>cond (okR (jW vs t.op t.n l)) (some (jW vs t.op t.n l)) none:=by
 cases t;simp only[rgT]
theorem IA{vs:List zi}:∀{ks:List Tm}{l:List (Int×Int)}{k:Tm}{r:Int×Int},CL vs ks=some l->rgT vs k=some r->CL vs (ks++[k])=some (l++[r])
 |[],l,k,r,h,hk=>by
  simp only[CL,zI]at h;subst h
  simp only[JD,CL,hk,zO]
 |x::ks,l,k,r,h,hk=>by
  simp only[CL]at h;rw[Qm];simp only[CL]
  cases hx:rgT vs x with
  |none=>rw[hx]at h;simp at h
  |some rx=>
   rw[hx]at h;simp only[zO]at h
   cases hl:CL vs ks with
   |none=>rw[hl]at h;simp at h
   |some m=>
    rw[hl]at h;simp only[zO,zI]at h;subst h;rw[IA hl hk];rfl
theorem XU{vs:List zi}:∀{ks:List Tm}{l:List (Int×Int)},CL vs ks=some l->l.length=ks.length
 |[],l,h=>by simp only[CL,zI]at h;subst h;rfl
 |x::ks,l,h=>by
  simp only[CL]at h
  cases hx:rgT vs x with
  |none=>rw[hx]at h;simp at h
  |some rx=>
   rw[hx]at h;simp only[zO]at h
   cases hl:CL vs ks with
   |none=>rw[hl]at h;simp at h
   |some m=>
    rw[hl]at h;simp only[zO,zI]at h;subst h;simp[XU hl]
theorem VO{vs:List zi}:∀{ks:List Tm}{l:List (Int×Int)},CL vs ks=some l->∀(i:Nat)(h:i<ks.length)(h':i<l.length),rgT vs ks[i]=some l[i]
 |[],l,h,i,hi,_=>by simp at hi
 |x::ks,l,h,i,hi,h'=>by
  simp only[CL]at h
  cases hx:rgT vs x with
  |none=>rw[hx]at h;simp at h
  |some rx=>
   rw[hx]at h;simp only[zO]at h
   cases hl:CL vs ks with
   |none=>rw[hl]at h;simp at h
   |some m=>
    rw[hl]at h;simp only[zO,zI]at h;subst h
    cases i with
    |zero=>exact hx
    |succ i=>exact VO hl i (by simpa using hi) (by simpa using h')
theorem NL{vs:List zi}(hr:∀v∈vs,pz v):∀(n:Nat)(t:Tm),xP t<=n->∀r,rgT vs t=some r->RP r
 |0,t,h,_,_=>by have:=yG t;omega
 |n+1,t,h,r,YH=>by
  rw[Fp]at YH;have ql:=pC t
  cases hl:CL vs t.kids with
  |none=>rw[hl]at YH;simp at YH
  |some l=>
   rw[hl]at YH;simp only[zO]at YH;have hlen:=XU hl;have hlP:∀p∈l,RP p:=λp hp=>by
    obtain⟨i,hi,rfl⟩:=Wl.1 hp;have h1:i<t.kids.length:=by omega
    have:=wy (wB h1);exact NL hr n _ (by omega) _ (VO hl i h1 hi)
   have hle:=z4j hr t.op t.n hlP
   cases zc:okR (jW vs t.op t.n l) with
   |false=>rw[zc]at YH;simp at YH
   |true=>
    rw[zc]at YH;simp only[zJ,zI]at YH;subst YH;simp only[okR,zA,jc]at zc;exact⟨zc.1,hle,zc.2⟩
theorem XP:200<=room:=by decide
theorem M6(N:Nat)(hN:1000<=N)(vs:List zi)(hr:∀v∈vs,pz v)(vW:Bool):∀(M:Nat)(t:Tm),xP t<=M->xP t<=200->GN vs vW t=true->zp (z92 N M vs (ga t)) λr=>r.2.2=true->rgT vs t=some (r.1,r.2.1)
 |0,t,h,_,_=>by have:=yG t;omega
 |M+1,t,h,ht,hf=>by
  show zp (SO N (z92 N M) vs (ga t)) _;have ql:=pC t;have Uc:=kP t.kids;have r1:=XP;rw[KK,zA,Z2j]at hf;obtain⟨hhd,hkf⟩:=hf;unfold SO;refine zp.up (λj s=>j<=t.kids.length/\∃l:List (Int×Int),s.1=l.map Prod.snd/\s.2=l.map Prod.fst/\l.length=j/\CL vs (t.kids.take j)=some l) t.kids.length ?_ ?_ N 0 (v8 _) (by omega) ([],[]) ⟨v8 _,[],rfl,rfl,rfl,by simp[CL]⟩
  ·rintro j ⟨o0,o1⟩ w hj ⟨_,l,h1,h2,h3,h4⟩ hw;simp only at h1 h2;subst h1 h2;simp only[Gd];have hm:=wy (wB hj);rw[show decide ((j:Int)<len t.kids)=true from zb hj,zJ,zY hj];simp only[zO];refine zp.then (M6 N hN vs hr vW M t.kids[j] (by omega) (by omega) (hkf _ (wB hj))) λr hrr=>?_
   refine zp.cond (λ_=>zp.ret (by simp)) λzc=>?_
   simp only[Hb]at zc;refine zp.qV (by simp only[jc,J9];omega) (zp.qV (by simp only[jc,J9];omega) ?_);rw[zk (by omega)];refine hw _ ⟨hj,l++[(r.1,r.2.1)],by simp,by simp,by simp[h3],?_⟩;rw[qX hj];exact IA h4 (hrr zc)
  ·rintro⟨o0,o1⟩ w ⟨_,l,h1,h2,h3,h4⟩;simp only at h1 h2;subst h1 h2;simp only[Gd];rw[show decide (((t.kids.length:Nat):Int)<len t.kids)=false from zH _,zU];rw[Ki]at h4;have hlP:∀p∈l,RP p:=λp hp=>by
    obtain⟨i,hi,rfl⟩:=Wl.1 hp;exact NL hr _ _ (jq _) _ (VO h4 i (by omega) hi)
   rw[show f293 N vs (ga t) (List.map Prod.fst l) (List.map Prod.snd l)=_ from zfl N hN vs t.op t.n t.kids l (by rw[h3];exact Zv hhd) hlP];simp only[zO,p5];refine zp.ret λhb=>?_
   simp only at hb;rw[Fp,h4,zO];have e:Au vs t.op t.n l=jW vs t.op t.n l:=by
    unfold Au at hb⊢;split
    ·rename_i hc;rw[qn hc]at hb;simp at hb
    ·rfl
   rw[e]at hb⊢;have:okR (jW vs t.op t.n l)=true:=hb;rw[this];rfl
theorem M4(N:Nat)(hN:1000<=N)(vs:List zi)(hr:∀v∈vs,pz v)(vW:Bool):∀(M:Nat)(t:Tm),xP t<=M->xP t<=200->GN vs vW t=true->∀r,rgT vs t=some r->SC N M vs (ga t)=some (Wp r,true)
 |0,t,h,_,_,_,_=>by have:=yG t;omega
 |M+1,t,h,ht,hf,r,YH=>by
  show z90 N (SC N M) vs (ga t)=_;have ql:=pC t;have Uc:=kP t.kids;have r1:=XP;rw[KK,zA,Z2j]at hf;obtain⟨hhd,hkf⟩:=hf;rw[Fp]at YH
  cases hl:CL vs t.kids with
  |none=>rw[hl]at YH;simp at YH
  |some l=>
  rw[hl]at YH;simp only[zO]at YH;have hlen:=XU hl;have hlP:∀p∈l,RP p:=λp hp=>by
   obtain⟨i,hi,rfl⟩:=Wl.1 hp;exact NL hr _ _ (jq _) _ (VO hl i (by omega) hi)
  unfold z90 Hu;refine zp.eq ?_;refine zp.up (λj s=>s=(l.take j).map Wp) t.kids.length ?_ ?_ N 0 (v8 _) (by omega) [] rfl
  ·rintro j s w hj rfl hw;simp only[Gb];have hm:=wy (wB hj);rw[show decide ((j:Int)<len t.kids)=true from zb hj,zJ,zY hj];simp only[zO];rw[show SC N M vs (t.kids[j].1,(t.kids[j].2,(t.kids[j].3,())))=some (Wp l[j],true) from M4 N hN vs hr vW M t.kids[j] (by omega) (by omega) (hkf _ (wB hj)) _ (VO hl j hj (by omega))];simp only[zO,Qv,zU];refine zp.qV (by simp only[jc,J9,CB];omega) ?_;rw[zk (by omega)];refine hw _ ?_;rw[qX (show j<l.length by omega),XZ];rfl
  ·rintro s w rfl;simp only[Gb];rw[show decide (((t.kids.length:Nat):Int)<len t.kids)=false from zH _,zU,<-hlen,Ki];rw[show f340 N vs (ga t) (l.map Wp)=_ from zfd N hN vs t.op t.n t.kids l (by rw[hlen];exact Zv hhd) hlP];simp only[zO]
   cases zc:okR (jW vs t.op t.n l) with
   |false=>rw[zc]at YH;simp at YH
   |true=>
    rw[zc]at YH;simp only[zJ,zI]at YH;subst YH;simp only[okR,zA,jc]at zc;rw[jQ zc.1,zJ,jQ zc.2];simp only[idS];exact zp.ret rfl
def Ec(vs:List zi)(vW:Bool)(t:Tm):Prop:=GN vs vW t=true/\∃r,rgT vs t=some r
theorem T0(N:Nat)(hN:1000<=N)(vs:List zi)(hr:∀v∈vs,pz v)(vW:Bool)(t:Tm)(ht:xP t<=200):zp (f156 N vs (ga t) vW) λc=>c=0->Ec vs vW t:=by
 unfold f156;rw[zfs N hN vs vW t ht,zO];refine zp.cond (λ_=>zp.ret (by simp)) λhf=>?_
 simp only[Hb]at hf;refine zp.then (M6 N hN vs hr vW N t (by omega) ht hf) λr hrr=>?_
 refine zp.cond (λ_=>zp.ret (by simp)) λhk=>zp.ret λ_=>⟨hf,_,hrr ?_⟩
 simpa using hk
theorem SH(N:Nat)(hN:1000<=N)(vs:List zi)(hr:∀v∈vs,pz v)(vW:Bool)(t:Tm)(ht:xP t<=200)(h:Ec vs vW t):f245 N vs (ga t) vW=some 0:=by
 obtain⟨hf,r,YH⟩:=h;unfold f245;rw[zfi N hN vs vW t ht,hf,zO,show(!true)=false from rfl,zU];rw[show f298 N vs (ga t)=some (Wp r,true) from M4 N hN vs hr vW N t (by omega) ht hf r YH];rfl
end Go.Kz
namespace Go.Kz
mutual
def Y6:Tm->Nat
 |⟨_,_,ks⟩=>Jg ks+1
def Jg:List Tm->Nat
 |[]=>0
 |k::ks=>max (Y6 k) (Jg ks)
end
mutual
def NC:Sp->Nat
 |⟨_,_,_,_,_,a,b,_⟩=>max (uL a) (uL b)+1
def uL:List Sp->Nat
 |[]=>0
 |s::l=>max (NC s) (uL l)
end
mutual
def dpS:Sp->Bool
 |⟨_,_,_,_,t,a,b,_⟩=>(decide (Y6 t<=12)&&Tj a)&&Tj b
def Tj:List Sp->Bool
 |[]=>true
 |s::l=>dpS s&&Tj l
end
theorem Ru(t:Tm):Y6 t=Jg t.kids+1:=by cases t;simp only[Y6]
theorem RW(s:Sp):NC s=max (uL s.jM) (uL s.ui)+1:=by cases s;simp only[NC]
theorem z9k(s:Sp):dpS s=((decide (Y6 s.term<=12)&&Tj s.jM)&&Tj s.ui):=by cases s;simp only[dpS]
theorem NZ(l:List Tm)(x:Tm):Jg (l++[x])=max (Jg l) (Y6 x):=by
 induction l with
 |nil=>simp[Jg]
 |cons y l ih=>simp only[Qm,Jg,ih];omega
theorem NB(l:List Sp)(x:Sp):uL (l++[x])=max (uL l) (NC x):=by
 induction l with
 |nil=>simp[uL]
 |cons y l ih=>simp only[Qm,uL,ih];omega
theorem HF:∀l:List Sp,Tj l=l.all dpS
 |[]=>rfl
 |s::l=>by simp only[Tj,List.all_cons,HF l]
theorem DA:∀{l:List Tm}{x:Tm},x∈l->Y6 x<=Jg l
 |y::l,x,h=>by
  simp only[Jg];rcases gJ.1 h with rfl|h
  ·omega
  ·have:=DA h;omega
theorem DE:∀{l:List Sp}{x:Sp},x∈l->NC x<=uL l
 |y::l,x,h=>by
  simp only[uL];rcases gJ.1 h with rfl|h
  ·omega
  ·have:=DE h;omega
mutual
theorem zcz:∀t:Tm,Y6 t<=xP t
 |⟨_,_,ks⟩=>by have:=Ap ks;simp only[Y6,xP];omega
theorem Ap:∀l:List Tm,Jg l<=uq l
 |[]=>jq _
 |k::ks=>by have:=zcz k;have:=Ap ks;simp only[Jg,uq];omega
end
mutual
theorem zd5:∀s:Sp,NC s<=ssz s
 |⟨_,_,_,_,t,a,b,_⟩=>by have:=Jb a;have:=Jb b;have:=yG t;simp only[NC,ssz];omega
theorem Jb:∀l:List Sp,uL l<=yA l
 |[]=>jq _
 |s::l=>by have:=zd5 s;have:=Jb l;simp only[uL,yA];omega
end
theorem Bl(N:Nat)(hN:1000<=N):∀(M:Nat)(t:Tm),xP t<=M->xP t<=200->zp (z95 N M (ga t)) λ_=>True
 |0,t,h,_=>by have:=yG t;omega
 |M+1,t,h,ht=>by
  show zp (Se N (z95 N M) (ga t)) _;have ql:=pC t;have Uc:=kP t.kids;unfold Se;refine zp.up (λ_ _=>True) t.kids.length ?_ ?_ N 0 (v8 _) (by omega) _ trivial
  ·rintro j s w hj _ hw;simp only[Gh];have hm:=wy (wB hj);rw[show decide ((j:Int)<len t.kids)=true from zb hj,zJ,zY hj];simp only[zO];refine zp.then (Bl N hN M t.kids[j] (by omega) (by omega)) λr _=>?_
   rw[zk (by omega)];exact hw _ trivial
  ·rintro s w _;simp only[Gh];rw[show decide (((t.kids.length:Nat):Int)<len t.kids)=false from zH _,zU];exact zp.ret trivial
theorem Bm(N:Nat)(hN:1000<=N):∀(M:Nat)(l:List Sp),yA l<M->yA l<=200->zp (z96 N M l) λ_=>True
 |0,l,h,_=>by omega
 |M+1,l,h,ht=>by
  show zp (Sf N (z96 N M) l) _;have Uc:=vU l;unfold Sf;refine zp.up (λ_ _=>True) l.length ?_ ?_ N 0 (v8 _) (by omega) _ trivial
  ·rintro j s w hj _ hw;simp only[Gi];have hm:=kA (wB hj);have he:=kX l[j];have hp:=yG l[j].term;rw[zb hj,zJ,zY hj];simp only[zO];refine zp.then (Bl N hN N l[j].term (by omega) (by omega)) λr _=>?_
   refine zp.then (Bm N hN M l[j].jM (by omega) (by omega)) λr _=>?_
   refine zp.then (Bm N hN M l[j].ui (by omega) (by omega)) λr _=>?_
   rw[zk (by omega)];exact hw _ trivial
  ·rintro s w _;simp only[Gi];rw[show decide (((l.length:Nat):Int)<len l)=false from zH _,zU];exact zp.ret trivial
theorem Bi(N:Nat)(hN:1000<=N):∀(M:Nat)(t:Tm),xP t<=M->xP t<=200->Sc N M (ga t)=some (Y6 t:Int)
 |0,t,h,_=>by have:=yG t;omega
 |M+1,t,h,ht=>by
  show Sd N (Sc N M) (ga t)=_;have ql:=pC t;have Uc:=kP t.kids;unfold Sd;refine zp.eq ?_;refine zp.up (λj s=>s=(Jg (t.kids.take j):Int)) t.kids.length ?_ ?_ N 0 (v8 _) (by omega) _ rfl
  ·rintro j s w hj rfl hw;simp only[Gf];have hm:=wy (wB hj);rw[show decide ((j:Int)<len t.kids)=true from zb hj,zJ,zY hj];simp only[zO];rw[show Sc N M (t.kids[j].1,(t.kids[j].2,(t.kids[j].3,())))=some (Y6 t.kids[j]:Int) from Bi N hN M t.kids[j] (by omega) (by omega)];simp only[zO];rw[zk (by omega)];have e:=NZ (t.kids.take j) t.kids[j];refine zp.cond (λhb=>hw _ ?_) λhb=>hw _ ?_
   ·have:=X1 hb;rw[qX hj,e];omega
   ·have:=Z27 hb;rw[qX hj,e];omega
  ·rintro s w rfl;simp only[Gf];rw[show decide (((t.kids.length:Nat):Int)<len t.kids)=false from zH _,zU,Ki];have:=Ap t.kids;rw[zk (by omega)];refine zp.ret ?_;rw[Ru];omega
theorem Bh(N:Nat)(hN:1000<=N):∀(M:Nat)(l:List Sp),yA l<M->yA l<=200->z94 N M l=some (uL l:Int)
 |0,l,h,_=>by omega
 |M+1,l,h,ht=>by
  show Sb N (z94 N M) l=_;have Uc:=vU l;unfold Sb;refine zp.eq ?_;refine zp.up (λj s=>s=(uL (l.take j):Int)) l.length ?_ ?_ N 0 (v8 _) (by omega) _ rfl
  ·rintro j s w hj rfl hw;simp only[Ge];have hm:=kA (wB hj);have he:=kX l[j];have hp:=yG l[j].term;rw[zb hj,zJ,zY hj];simp only[zO];rw[Bh N hN M l[j].jM (by omega) (by omega),Bh N hN M l[j].ui (by omega) (by omega)];simp only[zO];have b1:=Jb l[j].jM;have b2:=Jb l[j].ui;rw[zk (by omega),zk (by omega),zk (by omega)];have e:=NB (l.take j) l[j];rw[RW]at e;refine zp.cond (λhb=>zp.cond (λpX=>hw _ ?_) λpX=>hw _ ?_) λhb=>zp.cond (λpX=>hw _ ?_) λpX=>hw _ ?_
   ·have:=X1 hb;have:=X1 pX;rw[qX hj,e];omega
   ·have:=X1 hb;have:=Z27 pX;rw[qX hj,e];omega
   ·have:=Z27 hb;have:=X1 pX;rw[qX hj,e];omega
   ·have:=Z27 hb;have:=Z27 pX;rw[qX hj,e];omega
  ·rintro s w rfl;simp only[Ge];rw[show decide (((l.length:Nat):Int)<len l)=false from zH _,zU,Ki];exact zp.ret rfl
theorem Bf(N:Nat)(hN:1000<=N):∀(M:Nat)(l:List Sp),yA l<M->yA l<=200->SS N M l=some (!Tj l)
 |0,l,h,_=>by omega
 |M+1,l,h,ht=>by
  show Sa N (SS N M) l=_;have Uc:=vU l;unfold Sa;have:=Uq (F:=λw=>VZ N (SS N M) l w (λt2=>some t2) (λ(_:Unit)=>some false)) l dpS (some false) (some true) ?_ ?_ N (by omega)
  ·rw[this,HF];cases l.all dpS<;>rfl
  ·intro j w hj;simp only[VZ];have hm:=kA (wB hj);have he:=kX l[j];have hp:=yG l[j].term;rw[zb hj,zJ,zY hj];simp only[zO];rw[show f233 N (l[j].5.1,(l[j].5.2,(l[j].5.3,())))=some (Y6 l[j].term:Int) from Bi N hN N l[j].term (by omega) (by omega)];rw[Bf N hN M l[j].jM (by omega) (by omega),Bf N hN M l[j].ui (by omega) (by omega)];simp only[zO,KV];rw[zk (by omega),z9k];by_cases h12:Y6 l[j].term<=12
   ·rw[qd (show ¬(12<(Y6 l[j].term:Int)) by omega),jQ h12];cases Tj l[j].jM<;>cases Tj l[j].ui<;>rfl
   ·rw[jQ (show 12<(Y6 l[j].term:Int) by omega),qd h12];cases Tj l[j].jM<;>cases Tj l[j].ui<;>rfl
  ·intro w;simp only[VZ];rw[show decide (((l.length:Nat):Int)<len l)=false from zH _,zU]
structure ziw (f:zt):Prop where
 few:zgq f
 ztr:f.2.1.length<=8
 GD:∀h∈f.2.1,Y6 (Xu h.2.2.2.1)<=12
 steps:uL f.2.2.1<=12
 zpx:Tj f.2.2.1=true
theorem zfx(N:Nat)(hN:1000<=N)(f:zt)(hf:zgq f):zp (f152 N f) λb=>b=true->ziw f:=by
 obtain⟨q1,q2,q3⟩:=id hf;unfold f152;simp only[KV,zO];refine zp.cond (λ_=>zp.ret (by simp)) λhb=>?_
 simp only[Wh,Q9,len]at hb;refine zp.then (Bm N hN N f.2.2.1 (by omega) (by omega)) λr _=>?_
 refine zp.up (λj _=>∀i (h:i<f.2.1.length),i<j->Y6 (Xu f.2.1[i].2.2.2.1)<=12) f.2.1.length ?_ ?_ N 0 (v8 _) (by omega) _ (λi h hi=>by omega)
 ·rintro j s w hj hinv hw;simp only[Xn];have hm:ql f.2.1[j]<=p4 f.2.1:=Zy (wB hj);simp only[ql]at hm;rw[show decide ((j:Int)<len f.2.1)=true from zb hj,zJ,zY hj];simp only[zO];refine zp.then (Bl N hN N (Xu f.2.1[j].2.2.2.1) (by omega) (by omega)) λr _=>?_
  rw[show f233 N (f.2.1[j].2.2.2.1.1,f.2.1[j].2.2.2.1.2)=some (Y6 (Xu f.2.1[j].2.2.2.1):Int) from Bi N hN N (Xu f.2.1[j].2.2.2.1) (by omega) (by omega)];simp only[zO];refine zp.cond (λ_=>zp.ret (by simp)) λhd=>?_
  have I1:=Z27 hd;rw[zk (by omega)];refine hw _ λi h hi=>?_
  by_cases e:i=j
  ·subst e;omega
  ·exact hinv i h (by omega)
 ·rintro s w hinv;simp only[Xn];rw[show decide (((f.2.1.length:Nat):Int)<len f.2.1)=false from zH _,zU];rw[show f234 N f.2.2.1=_ from Bh N hN N f.2.2.1 (by omega) (by omega),show f235 N f.2.2.1=_ from Bf N hN N f.2.2.1 (by omega) (by omega)];simp only[zO,p5];refine zp.ret λh=>?_
  simp only[zA,PF,Hb,jc]at h;refine⟨hf,by omega,λx hx=>?_,by omega,h.2⟩;obtain⟨i,hi,rfl⟩:=Wl.1 hx;exact hinv i hi hi
@[reducible] def Zr (n:Int):Int×(Bool×Unit):=(n,(false,()))
theorem Xi(N:Nat)(n:Int)(h:n<=1024):f159 N (Zr n)=some (((),(false,())),(Zr n,())):=by
 unfold f159;rw[KV,zO,qd (show ¬1024<(Zr n).1 by simp only;omega)];rfl
theorem Bs(N:Nat)(hN:1000<=N):∀(M:Nat)(t:Tm)(d n:Int),xP t<=M->xP t<=200->1<=d->d+Y6 t<=13->0<=n->n+xP t<=1024->Sm N M (ga t) d (Zr n)=some (((),()),(Zr (n+xP t),()))
 |0,t,_,_,h,_,_,_,_,_=>by have:=yG t;omega
 |M+1,t,d,n,h,ht,h1,hd,hn,hs=>by
  show Sn N (Sm N M) (ga t) d (Zr n)=_;have ql:=pC t;have Uc:=kP t.kids;have hdp:=Ru t;unfold Sn;rw[KV,zO,qd (show ¬12<d by omega)];rw[show((Zr n).2.1||false)=false from rfl,zx (n:=(Zr n).1+1) (by simp only;omega) (by simp only;omega)];rw[show f159 N ((Zr n).1+1,(false,(Zr n).2.2))=_ from Xi N (n+1) (by omega)];simp only[zO,zU];refine zp.eq ?_;refine zp.up (λj s=>s=Zr (n+1+uq (t.kids.take j))) t.kids.length ?_ ?_ N 0 (v8 _) (by omega) _ (by simp[uq])
  ·rintro j s w hj rfl hw;simp only[P5];have hm:=wy (wB hj);have hm2:=DA (wB hj);have ht1:=JH hj;have ht2:=F1 t.kids (j+1);rw[show decide ((j:Int)<len t.kids)=true from zb hj,zJ,zY hj];simp only[zO];rw[zx (n:=d+1) (by omega) (by omega)];rw[show Sm N M (t.kids[j].1,(t.kids[j].2,(t.kids[j].3,()))) (d+1) (Zr (n+1+uq (t.kids.take j)))=_ from Bs N hN M t.kids[j] (d+1) _ (by omega) (by omega) (by omega) (by omega) (by omega) (by omega)];simp only[zO];rw[zk (by omega)];refine hw _ ?_;simp only[Zr,p8,Dx];omega
  ·rintro s w rfl;simp only[P5];rw[show decide (((t.kids.length:Nat):Int)<len t.kids)=false from zH _,zU,Ki];refine zp.ret ?_;simp only[Zr,p8,Dx,X3];omega
theorem Bt(N:Nat)(hN:1000<=N):∀(M:Nat)(l:List Sp)(d n:Int),yA l<M->yA l<=200->1<=d->(l≠[]->d+uL l<=13)->Tj l=true->0<=n->n+yA l<=1024->zp (z9a N M l d (Zr n)) λr=>∃n':Int,r=(((),()),(Zr n',()))/\n<=n'/\n'<=n+yA l
 |0,l,_,_,h,_,_,_,_,_,_=>by omega
 |M+1,l,d,n,h,ht,h1,hd,hp,hn,hs=>by
  show zp (Sr N (z9a N M) l d (Zr n)) _;have Uc:=vU l;unfold Sr;refine zp.up (λj s=>∃m:Int,s=Zr m/\n<=m/\m<=n+yA (l.take j)) l.length ?_ ?_ N 0 (v8 _) (by omega) _ ⟨n,rfl,by omega,by simp[yA]⟩
  ·rintro j s w hj ⟨m,rfl,hm1,hm2⟩ hw;simp only[P6];have hm:=kA (wB hj);have hdm:=DE (wB hj);have ht1:=JN hj;have ht2:=F5 l (j+1);have he:=kX l[j];have hde:=RW l[j];have htp:=yG l[j].term;have I1:=hd (λe=>by rw[e]at hj;simp at hj);rw[HF,Z2j]at hp;have hpj:=hp _ (wB hj);rw[z9k]at hpj;simp only[zA,jc]at hpj;obtain⟨⟨p1,p2⟩,p3⟩:=hpj;rw[show decide ((j:Int)<len l)=true from zb hj,zJ,zY hj];simp only[zO];rw[KV,zO,qd (show ¬12<d by omega),Bool.or_false];rw[zx (n:=m+1) (by omega) (by omega)];rw[show f159 N (m+1,(false,()))=_ from Xi N (m+1) (by omega)];simp only[zO,zU];rw[show f160 N (l[j].5.1,(l[j].5.2,(l[j].5.3,()))) 1 (Zr (m+1))=_ from Bs N hN N l[j].term 1 (m+1) (by omega) (by omega) (by omega) (by omega) (by omega) (by omega)];simp only[zO];rw[zx (n:=d+1) (by omega) (by omega)];refine zp.then (Bt N hN M l[j].jM (d+1) _ (by omega) (by omega) (by omega) (λ_=>by omega) p2 (by omega) (by omega)) ?_;rintro _ ⟨m1,rfl,c1,c2⟩;refine zp.then (Bt N hN M l[j].ui (d+1) m1 (by omega) (by omega) (by omega) (λ_=>by omega) p3 (by omega) (by omega)) ?_;rintro _ ⟨m2,rfl,c3,c4⟩;rw[zk (by omega)];exact hw _ ⟨m2,rfl,by omega,by omega⟩
  ·rintro s w ⟨m,rfl,hm1,hm2⟩;simp only[P6];rw[show decide (((l.length:Nat):Int)<len l)=false from zH _,zU];rw[Ki]at hm2;exact zp.ret ⟨m,rfl,hm1,hm2⟩
end Go.Kz
namespace Go.Kz
abbrev zv6:=Int×(Int×(Int×(Int×(CC×(List Sp×(List Sp×(List Int×Unit)))))))
@[reducible] def spD (s:Sp):zv6:=(s.act,(s.cost,(s.var,(s.n,(ga s.term,(s.jM,(s.ui,(s.bounds,()))))))))
def JG(vs:List zi)(v:Int):Bool:=(decide (0<=v)&&decide (v<len vs))&&(match vs[v.toNat]? with
 |some x=>decide (x.2.1=0)
 |none=>false)
theorem zl3(vs:List zi)(v:Int):(cond (decide (0<=v)&&decide (v<len vs)) ((idx vs v).bind λx=>some (decide (x.2.1=0))) (some false))=some (JG vs v):=by
 unfold JG;by_cases h:0<=v/\v<len vs
 ·have e2:(decide (0<=v)&&decide (v<len vs))=true:=by simpa using h
  have h2:v.toNat<vs.length:=by have:=h.2;simp only[len]at this;omega
  have e3:idx vs v=some vs[v.toNat]:=Kx h.1 (by have:=h.2;simp only[len]at this;omega);rw[e2,zJ,e3,wV h2];rfl
 ·have e2:(decide (0<=v)&&decide (v<len vs))=false:=by simp only[Z28,Q9];omega
  rw[e2];rfl
theorem ze0(vs:List zi)(v:Int):(cond (decide (v<0)||decide (len vs<=v)) (some true) ((idx vs v).bind λx=>some (!decide (x.2.1=0))))=some (!JG vs v):=by
 unfold JG;by_cases h:0<=v/\v<len vs
 ·have e1:(decide (v<0)||decide (len vs<=v))=false:=by simp only[Wh,Q9];omega
  have e2:(decide (0<=v)&&decide (v<len vs))=true:=by simpa using h
  have h2:v.toNat<vs.length:=by have:=h.2;simp only[len]at this;omega
  have e3:idx vs v=some vs[v.toNat]:=Kx h.1 (by have:=h.2;simp only[len]at this;omega);rw[e1,e2,zU,e3,wV h2];rfl
 ·have e1:(decide (v<0)||decide (len vs<=v))=true:=by simp only[CX,jc];omega
  have e2:(decide (0<=v)&&decide (v<len vs))=false:=by simp only[Z28,Q9];omega
  rw[e1,e2];rfl
theorem Gu{vs:List zi}{v:Int}(h:JG vs v=true):∃k:Nat,∃hk:k<vs.length,v=k/\vs[k].2.1=0:=by
 simp only[JG,zA,jc,len]at h;obtain⟨⟨h1,h2⟩,h3⟩:=h;have hk:v.toNat<vs.length:=by omega
 rw[wV hk]at h3;exact⟨v.toNat,hk,by omega,X1 h3⟩
def zcl(t:Tm):Bool:=(decide (t.op=0)&&decide (t.n=0))&&decide (len t.kids=0)
theorem zfk(N:Nat)(t:Tm):f294 N (ga t)=some (zcl t):=by
 unfold f294;simp only[p5,zO];rfl
theorem zfh(N:Nat)(t:Tm):f302 N (ga t)=some (zcl t):=by
 unfold f302;simp only[p5,zO];rfl
structure TW (l:List Int):Prop where
 one:1<=l.length
 zl1:l.length<=32
 first:∀h:0<l.length,(0:Int)<=l[0]
 up:∀i (_:0<i) (h2:i<l.length),l[i-1]<l[i]
theorem zfj(N:Nat)(hN:1000<=N)(l:List Int):zp (f295 N l) λb=>b=true->TW l:=by
 unfold f295;rw[KV,zO];by_cases hl:1<=l.length/\l.length<=32
 ·have e:(decide (len l<1)||decide (32<len l))=false:=by simp only[Wh,Q9,len];omega
  rw[e,zU,show idx l 0=some l[0] from zY (k:=0) (by omega)];simp only[zO];refine zp.cond (λ_=>zp.ret (by simp)) λh0=>?_
  have h0':=Z27 h0;refine zp.CT (λj=>1<=j/\∀i (_:0<i) (h2:i<l.length),i<j->l[i-1]<l[i]) l.length ?_ ?_ N 1 hl.1 (by omega) ⟨jq _,λi h1 h2 h3=>by omega⟩
  ·rintro j w hj ⟨hj1,hinv⟩ hw;simp only[XO];rw[zb hj,zJ,zY hj,xS (by omega) (by omega),zY (show j-1<l.length by omega)];simp only[zO];refine zp.cond (λ_=>zp.ret (by simp)) λhc=>?_
   have Ke:=Z27 hc;rw[zk (by omega)];refine hw ⟨by omega,λi h1 h2 h3=>?_⟩;by_cases e:i=j
   ·subst e;omega
   ·exact hinv i h1 h2 (by omega)
  ·rintro w ⟨_,hinv⟩;simp only[XO];rw[zH,zU];exact zp.ret λ_=>⟨hl.1,hl.2,λ_=>by omega,λi h1 h2=>hinv i h1 h2 h2⟩
 ·have e:(decide (len l<1)||decide (32<len l))=true:=by simp only[CX,jc,len];omega
  rw[e,zJ];exact zp.ret (by simp)
theorem zfg(N:Nat)(hN:1000<=N)(l:List Int)(h:TW l):f303 N l=some true:=by
 obtain⟨h1,h2,h3,h4⟩:=h;unfold f303;refine zp.eq ?_;refine zp.CT (λ_=>True) l.length ?_ ?_ N 0 (v8 _) (by omega) trivial
 ·intro j w hj _ hw;simp only[XM];rw[show decide ((j:Int)<len l)=true from zb hj,zJ];by_cases h0:0<j
  ·rw[jQ (show(0:Int)<j by omega),zJ,zY hj,xS h0 (by omega),zY (show j-1<l.length by omega)];simp only[zO];have:=h4 j h0 hj;rw[qd (show ¬l[j]<=l[j-1] by omega),zU,zk (by omega)];exact hw trivial
  ·rw[qd (show ¬(0:Int)<j by omega),zU];simp only[zO,zU];rw[zk (by omega)];exact hw trivial
 ·intro w _;simp only[XM];rw[show decide (((l.length:Nat):Int)<len l)=false from zH _,zU];exact zp.ret rfl
structure Hi (f:zt) (last:Bool) (s:Sp):Prop where
 act0:0<=s.act
 act6:s.act<=6
 var:s.act=0\/s.act=5->JG f.1 s.var=true
 var0:¬(s.act=0\/s.act=5)->s.var=0
 n0:¬(s.act=4\/s.act=5)->s.n=0
 rel:s.act=5->0<=s.n/\s.n<len f.2.1
 zero:s.act=2\/s.act=5\/s.act=6->zcl s.term=true
 jM:s.act≠3->s.act≠4->s.jM=[]
 ui:s.act≠3->s.ui=[]
 bnd:s.act≠6->s.bounds=[]
 set:s.act=6->last=true/\TW s.bounds
theorem YB{I:Type}{l:List I}:(len l=0)=(l=[]):=by
 cases l with
 |nil=>simp[len]
 |cons x l=>simp only[len,X4,reduceCtorEq,eq_iff_iff,iff_false];omega
theorem zfr(N:Nat)(hN:1000<=N)(f:zt)(s:Sp)(last:Bool):zp (f239 N f (spD s) last) λb=>b=true->Hi f last s:=by
 unfold f239;simp only[p5,gid,zO,zl3];rw[show f294 N ((spD s).2.2.2.2.1.1,(spD s).2.2.2.2.1.2)=_ from zfk N s.term];simp only[p5,zO];refine zp.cond (λh=>zp.ret λhb=>?_) λa0=>?_
 ·simp only[zA,jc,YB]at h hb;obtain⟨⟨⟨⟨b1,b2⟩,b3⟩,b4⟩,b5⟩:=hb;exact⟨by omega,by omega,λ_=>b3,λc=>absurd (.inl h) c,λ_=>b4,λc=>by omega,λc=>by omega,λ_ _=>b1,λ_=>b2,λ_=>b5,λc=>by omega⟩
 refine zp.cond (λh=>zp.ret λhb=>?_) λa1=>?_
 ·simp only[zA,jc,YB]at h hb;obtain⟨⟨⟨⟨b1,b2⟩,b3⟩,b4⟩,b5⟩:=hb;exact⟨by omega,by omega,λc=>by omega,λ_=>b3,λ_=>b4,λc=>by omega,λc=>by omega,λ_ _=>b1,λ_=>b2,λ_=>b5,λc=>by omega⟩
 refine zp.cond (λh=>zp.ret λhb=>?_) λa2=>?_
 ·simp only[zA,jc,YB]at h hb;obtain⟨⟨⟨⟨⟨b1,b2⟩,b3⟩,b4⟩,b5⟩,b6⟩:=hb;exact⟨by omega,by omega,λc=>by omega,λ_=>b3,λ_=>b4,λc=>by omega,λ_=>b6,λ_ _=>b1,λ_=>b2,λ_=>b5,λc=>by omega⟩
 refine zp.cond (λh=>zp.ret λhb=>?_) λa3=>?_
 ·simp only[zA,jc,YB]at h hb;obtain⟨⟨b3,b4⟩,b5⟩:=hb;exact⟨by omega,by omega,λc=>by omega,λ_=>b3,λ_=>b4,λc=>by omega,λc=>by omega,λc=>absurd h c,λc=>absurd h c,λ_=>b5,λc=>by omega⟩
 refine zp.cond (λh=>zp.ret λhb=>?_) λa4=>?_
 ·simp only[zA,jc,YB]at h hb;obtain⟨⟨b3,b2⟩,b5⟩:=hb;exact⟨by omega,by omega,λc=>by omega,λ_=>b3,λc=>absurd (.inl h) c,λc=>by omega,λc=>by omega,λ_ c=>absurd h c,λ_=>b2,λ_=>b5,λc=>by omega⟩
 refine zp.cond (λh=>zp.ret λhb=>?_) λa5=>?_
 ·simp only[zA,jc,YB]at h hb;obtain⟨⟨⟨⟨⟨⟨b1,b2⟩,b3⟩,b4⟩,b5⟩,b6⟩,b7⟩:=hb;exact⟨by omega,by omega,λ_=>b3,λc=>absurd (.inr h) c,λc=>absurd (.inr h) c,λ_=>⟨b4,b5⟩,λ_=>b7,λ_ _=>b1,λ_=>b2,λ_=>b6,λc=>by omega⟩
 refine zp.cond (λh=>?_) λa6=>zp.ret (by simp)
 refine zp.cond (λhb=>zp.mono (zfj N hN s.bounds) λb pX hb3=>?_) λ_=>zp.ret (by simp)
 simp only[zA,jc,YB]at h hb;obtain⟨⟨⟨⟨⟨b1,b2⟩,b3⟩,b4⟩,b5⟩,b6⟩:=hb;exact⟨by omega,by omega,λc=>by omega,λ_=>b4,λ_=>b5,λc=>by omega,λ_=>b6,λ_ _=>b1,λ_=>b2,λc=>absurd h c,λ_=>⟨b3,pX hb3⟩⟩
theorem zfq(N:Nat)(hN:1000<=N)(f:zt)(s:Sp)(last:Bool)(h:Hi f last s):f246 N f (spD s) last=some true:=by
 obtain⟨q1,q2,q3,q4,q5,q6,q7,q8,q9,qa,qb⟩:=h;have eN:∀l:List Int,len l=(l.length:Int):=λ_=>rfl
 have zhq:((cond (!(decide (s.act=6))) (some true) ((cond last (some (decide (0<(len s.bounds)))) (some false)).bind λzni=>(cond zni (some (decide ((len s.bounds)<=32))) (some false)).bind λznh=>(cond znh ((idx s.bounds 0).bind λMo=>some (decide (0<=Mo))) (some false)).bind λzng=>(cond zng ((f303 N s.bounds).bind λNS=>some NS) (some false)).bind λznf=>some znf)).bind λzne=>some zne)=some true:=by
  by_cases h6:s.act=6
  ·obtain⟨b1,b2⟩:=qb h6;have c1:=b2.one;have c2:=b2.zl1;have c3:=b2.first (by omega);rw[jQ h6,show(!true)=false from rfl,zU,b1,zJ,zO,jQ (show 0<len s.bounds by rw[eN];omega),zJ,zO,jQ (show len s.bounds<=32 by rw[eN];omega),zJ];rw[show idx s.bounds 0=some s.bounds[0] from zY (k:=0) (by omega),zO,jQ c3,zO,zJ,zfg N hN _ b2];rfl
  ·rw[qd h6];rfl
 have n0:∀{I:Type}{l:List I},l=[]->decide (0<len l)=false:=λh=>by rw[h];rfl
 unfold f246 f299 f300 f301;simp only[KV,p5,gid,zO];rw[show f302 N ((spD s).2.2.2.2.1.1,(spD s).2.2.2.2.1.2)=_ from zfh N s.term];simp only[zO,p5];have e1:(decide (s.act<0)||decide (6<s.act))=false:=by simp only[Wh,Q9];omega
 have e2:(!(decide (s.act=0)||decide (s.act=5)) && !decide (s.var=0))=false:=by
  by_cases h:s.act=0\/s.act=5
  ·have:(decide (s.act=0)||decide (s.act=5))=true:=by simpa using h
   rw[this];rfl
  ·rw[jQ (q4 h)];simp
 have e3:(!(decide (s.act=4)||decide (s.act=5)) && !decide (s.n=0))=false:=by
  by_cases h:s.act=4\/s.act=5
  ·have:(decide (s.act=4)||decide (s.act=5))=true:=by simpa using h
   rw[this];rfl
  ·rw[jQ (q5 h)];simp
 have e4:(!(((decide (s.act=0)||decide (s.act=1))||decide (s.act=3))||decide (s.act=4)) && !zcl s.term)=false:=by
  by_cases h:s.act=2\/s.act=5\/s.act=6
  ·rw[q7 h];simp
  ·have:(((decide (s.act=0)||decide (s.act=1))||decide (s.act=3))||decide (s.act=4))=true:=by
    simp only[CX,jc];omega
   rw[this];rfl
 have e5:((!decide (s.act=3) && !decide (s.act=4))&&decide (0<len s.jM))=false:=by
  by_cases h3:s.act=3
  ·rw[jQ h3];rfl
  by_cases h4:s.act=4
  ·rw[jQ h4];simp
  ·rw[n0 (q8 h3 h4)];simp
 have e6:(!decide (s.act=3)&&decide (0<len s.ui))=false:=by
  by_cases h3:s.act=3
  ·rw[jQ h3];rfl
  ·rw[n0 (q9 h3)];simp
 have e7:(!decide (s.act=6)&&decide (0<len s.bounds))=false:=by
  by_cases h3:s.act=6
  ·rw[jQ h3];rfl
  ·rw[n0 (qa h3)];simp
 have e8:(cond (decide (s.act=0)||decide (s.act=5)) (cond (decide (s.var<0)||decide (len f.1<=s.var)) (some true) ((idx f.1 s.var).bind λx=>some (!decide (x.2.1=0)))) (some false))=some false:=by
  by_cases h:s.act=0\/s.act=5
  ·have:(decide (s.act=0)||decide (s.act=5))=true:=by simpa using h
   rw[this,zJ,ze0,q3 h];rfl
  ·have:(decide (s.act=0)||decide (s.act=5))=false:=by simpa using h
   rw[this];rfl
 have e9:(decide (s.act=5)&&(decide (s.n<0)||decide (len f.2.1<=s.n)))=false:=by
  by_cases h:s.act=5
  ·have:=q6 h;simp only[Z28,Wh,Q9];right;omega
  ·rw[qd h];rfl
 simp only[KV,p5,gid,zO]at zhq;rw[e1,zU,e2,zU,e3,zU,e4,zU,e5,zU,e6,zU,e7,zU,e8,zO,zU,e9,zU];exact zhq
end Go.Kz
namespace Go.Kz
structure zoc (s:Sp):Prop where
 z9o:0<=s.cost
 cost:s.cost<=67108864
 q7x:s.act≠2->s.cost<=10000
 n0:0<=s.n
 n:s.act=4->s.n<=4096
 bnd:∀h:0<s.bounds.length,s.bounds[s.bounds.length-1]<=(67108864:Int)
def zva(f:zt)(last:Bool)(s:Sp):Prop:=Hi f last s/\zoc s/\Ec f.1 false s.term
mutual
def stP(f:zt)(last:Bool):Sp->Prop
 |⟨a,c,v,n,t,x,y,b⟩=>zva f last ⟨a,c,v,n,t,x,y,b⟩/\JM f false x/\JM f false y
def JM(f:zt)(top:Bool):List Sp->Prop
 |[]=>True
 |s::l=>stP f (top&&l.isEmpty) s/\JM f top l
end
theorem Z1(f:zt)(last:Bool)(s:Sp):stP f last s↔zva f last s/\JM f false s.jM/\JM f false s.ui:=by cases s;simp only[stP]
theorem Y7{f:zt}{top:Bool}:∀{l:List Sp},JM f top l->∀i (h:i<l.length),stP f (top&&decide (i+1=l.length)) l[i]
 |[],_,i,h=>by simp at h
 |s::l,hs,0,h=>by
  simp only[JM]at hs;have:(decide (0+1=(s::l).length))=l.isEmpty:=by cases l<;>simp
  rw[this];exact hs.1
 |s::l,hs,i+1,h=>by
  simp only[JM]at hs;have:=Y7 hs.2 i (by simpa using h);have e:decide (i+1+1=(s::l).length)=decide (i+1=l.length):=by simp
  rw[e];exact this
theorem NV{f:zt}{top:Bool}:∀{l:List Sp},(∀i (h:i<l.length),stP f (top&&decide (i+1=l.length)) l[i])->JM f top l
 |[],_=>by simp only[JM]
 |s::l,hs=>by
  simp only[JM];refine⟨?_,NV λi h=>?_⟩
  ·have:=hs 0 (by simp);have e:(decide (0+1=(s::l).length))=l.isEmpty:=by cases l<;>simp
   rw[e]at this;exact this
  ·have:=hs (i+1) (by simpa using h);have e:decide (i+1+1=(s::l).length)=decide (i+1=l.length):=by simp
   rw[e]at this;exact this
theorem zpv{l:List Sp}{j:Nat}(hl:l.length<=200)(hj:j<l.length)(top:Bool):(cond top (some (decide ((j:Int)=zz (len l-1)))) (some false))=some (top&&decide (j+1=l.length)):=by
 have:zz (len l-1)=((l.length-1:Nat):Int):=by
  rw[show len l=(l.length:Int) from rfl,xS (by omega) (by omega)]
 rw[p5,this];congr 2;by_cases h:j+1=l.length
 ·rw[jQ h,jQ];omega
 ·rw[qd h,qd];omega
theorem C0(N:Nat)(hN:1000<=N)(f:zt)(hr:∀v∈f.1,pz v):∀(M:Nat)(l:List Sp)(top:Bool),yA l<M->yA l<=200->zp (M8 N M f l top) λc=>c=0->JM f top l
 |0,l,_,h,_=>by omega
 |M+1,l,top,h,ht=>by
  show zp (Ss N (M8 N M) f l top) _;have Uc:=vU l;unfold Ss;refine zp.CT (λj=>∀i (h:i<l.length),i<j->stP f (top&&decide (i+1=l.length)) l[i]) l.length ?_ ?_ N 0 (v8 _) (by omega) (λi h hi=>by omega)
  ·intro j w hj hinv hw;have hm:=kA (wB hj);have he:=kX l[j];have htp:=yG l[j].term;simp only[P7];rw[zb hj,zJ,zY hj];simp only[zO];rw[zpv (by omega) hj,zO];refine zp.then (zfr N hN f l[j] _) λb hb=>?_
   refine zp.cond (λ_=>zp.ret (by simp)) λpX=>?_
   simp only[Hb]at pX;have D5:=hb pX;have fin:zoc l[j]->zp ((f156 N f.1 (l[j].5.1,(l[j].5.2,(l[j].5.3,()))) false).bind λy7=>
     cond (!(decide (y7=0))) (some y7) ((M8 N M f l[j].6 false).bind λvd=>
      cond (!(decide (vd=0))) (some vd) ((M8 N M f l[j].7 false).bind λpU=>
       cond (!(decide (pU=0))) (some pU) (w (zz ((j:Int)+1)))))) λc=>c=0->JM f top l:=by
    intro z7r;refine zp.then (T0 N hN f.1 hr false l[j].term (by omega)) λc1 hc1=>?_
    refine zp.cond (λva=>zp.ret λe=>by subst e;simp at va) λe1=>?_
    refine zp.then (C0 N hN f hr M l[j].jM false (by omega) (by omega)) λc2 WY=>?_
    refine zp.cond (λva=>zp.ret λe=>by subst e;simp at va) λe2=>?_
    refine zp.then (C0 N hN f hr M l[j].ui false (by omega) (by omega)) λc3 hc3=>?_
    refine zp.cond (λva=>zp.ret λe=>by subst e;simp at va) λe3=>?_
    simp only[Hb,jc]at e1 e2 e3;rw[zk (by omega)];refine hw λi h hi=>?_
    by_cases e:i=j
    ·subst e;exact(Z1 ..).2 ⟨⟨D5,z7r,hc1 e1⟩,WY e2,hc3 e3⟩
    ·exact hinv i h (by omega)
   have bnd:∀(K:Bool->Option Int),zp (K true) (λc=>c=0->JM f top l)->((∀h:0<l[j].bounds.length,l[j].bounds[l[j].bounds.length-1]<=(67108864:Int))->zp (K false) λc=>c=0->JM f top l)->
     zp ((cond (decide (0<(len l[j].8))) ((idx l[j].8 (zz ((len l[j].8)-1))).bind λvD=>some (decide (67108864<vD))) (some false)).bind K) λc=>c=0->JM f top l:=by
    intro K k1 k2;by_cases h0:0<l[j].bounds.length
    ·by_cases hb:l[j].bounds.length<9223372036854775807
     ·rw[show decide (0<len l[j].8)=true from jQ (by simp only[len];omega),zJ,show len l[j].8=(l[j].bounds.length:Int) from rfl,xS h0 (by omega),zY (show l[j].bounds.length-1<l[j].bounds.length by omega)];simp only[zO];by_cases hc:l[j].bounds[l[j].bounds.length-1]<=(67108864:Int)
      ·rw[qd (by omega)];exact k2 λ_=>hc
      ·rw[jQ (by omega)];exact k1
     ·omega
    ·rw[show decide (0<len l[j].8)=false from qd (by simp only[len];omega),zU,zO];exact k2 λh=>absurd h h0
   simp only[KV,p5,gid,zO];refine zp.cond (λh2=>?_) λh2=>?_
   ·have h2':=X1 h2;refine zp.cond (λ_=>zp.ret (by simp)) λhc=>?_
    simp only[Wh,Z28,Q9]at hc;refine bnd (λb=>cond b (some 3) _) (zp.ret (by simp)) λhb=>fin ⟨by omega,by omega,λc=>absurd h2' c,by omega,λc=>by omega,hb⟩
   ·have h2':=Z27 h2;refine zp.cond (λ_=>zp.ret (by simp)) λhc=>?_
    simp only[Wh,Z28,Q9]at hc;refine bnd (λb=>cond b (some 3) _) (zp.ret (by simp)) λhb=>fin ⟨by omega,by omega,λ_=>by omega,by omega,λc=>by omega,hb⟩
  ·intro w hinv;simp only[P7];rw[zH,zU];exact zp.ret λ_=>NV λi h=>hinv i h h
theorem zfp(N:Nat)(s:Sp)(f:zt)(last:Bool)(hs:Hi f last s)(h:zoc s):f247 N (spD s)=some true:=by
 obtain⟨a1,a2,a3,a4,a5,a6⟩:=h;unfold f247;have e6:(cond (!decide (s.act=6)) (some true) ((idx s.bounds (zz (len s.bounds-1))).bind λx=>some (decide (x<=67108864))))=some true:=by
  by_cases h6:s.act=6
  ·have hb:=(hs.set h6).2;have h1:=hb.one;have h2:=hb.zl1;rw[jQ h6,show(!true)=false from rfl,zU,show len s.bounds=(s.bounds.length:Int) from rfl,xS (by omega) (by omega),zY (show s.bounds.length-1<s.bounds.length by omega)];rw[zO,jQ (a6 (by omega))]
  ·rw[qd h6];rfl
 simp only[KV,p5,gid,zO];have en:(decide (s.act=4)&&(decide (s.n<0)||decide (4096<s.n)))=false:=by
  by_cases h4:s.act=4
  ·have:=a5 h4;simp only[Z28,Wh,Q9];right;omega
  ·rw[qd h4];rfl
 rw[en];by_cases h2:s.act=2
 ·rw[jQ h2,zJ];rw[show(decide (s.cost<0)||decide (67108864<s.cost))=false by simp only[Wh,Q9];omega];exact e6
 ·have:=a3 h2;rw[qd h2,zU];rw[show(decide (s.cost<0)||decide (10000<s.cost))=false by simp only[Wh,Q9];omega];exact e6
theorem Br(N:Nat)(hN:1000<=N)(f:zt)(hr:∀v∈f.1,pz v):∀(M:Nat)(l:List Sp)(top:Bool),yA l<M->yA l<=200->JM f top l->z98 N M f l top=some 0
 |0,l,_,h,_,_=>by omega
 |M+1,l,top,h,ht,hs=>by
  show Sl N (z98 N M) f l top=_;have Uc:=vU l;unfold Sl;refine zp.eq ?_;refine zp.CT (λ_=>True) l.length ?_ ?_ N 0 (v8 _) (by omega) trivial
  ·intro j w hj _ hw;have hm:=kA (wB hj);have he:=kX l[j];have htp:=yG l[j].term;obtain⟨⟨q1,q2,q3⟩,q4,q5⟩:=(Z1 ..).1 (Y7 hs j hj);simp only[P3];rw[show decide ((j:Int)<len l)=true from zb hj,zJ,zY hj];simp only[zO];rw[zpv (by omega) hj,zO];rw[show f246 N f (l[j].1,(l[j].2,(l[j].3,(l[j].4,((l[j].5.1,(l[j].5.2,(l[j].5.3,()))),(l[j].6,(l[j].7,(l[j].8,())))))))) _=some true from zfq N hN f l[j] _ q1];rw[show f247 N (l[j].1,(l[j].2,(l[j].3,(l[j].4,((l[j].5.1,(l[j].5.2,(l[j].5.3,()))),(l[j].6,(l[j].7,(l[j].8,()))))))))=some true from zfp N l[j] f _ q1 q2];rw[show f245 N f.1 (l[j].5.1,(l[j].5.2,(l[j].5.3,()))) false=some 0 from SH N hN f.1 hr false l[j].term (by omega) q3];simp only[zO,Qv,zU,Nq];refine zp.CT (λ_=>True) 2 ?_ ?_ N 0 (v8 _) (by omega) trivial
   ·intro k w' hk _ PD;simp only[W4];have pg:k=0\/k=1:=by omega
    rcases pg with rfl|rfl
    ·rw[show decide (((0:Nat):Int)<(((Nat.succ 1):Nat):Int))=true from rfl,zJ];refine zp.qV rfl ?_;rw[show idx (l[j].6::(l[j].7::([]:List (List Sp)))) ((0:Nat):Int)=some l[j].jM from rfl,zO,Br N hN f hr M l[j].jM false (by omega) (by omega) q4];exact PD trivial
    ·rw[show decide (((1:Nat):Int)<(((Nat.succ 1):Nat):Int))=true from rfl,zJ];refine zp.qV rfl ?_;rw[show idx (l[j].6::(l[j].7::([]:List (List Sp)))) ((1:Nat):Int)=some l[j].ui from rfl,zO,Br N hN f hr M l[j].ui false (by omega) (by omega) q5];exact PD trivial
   ·intro w' _;simp only[W4];rw[show decide (((2:Nat):Int)<(((Nat.succ 1):Nat):Int))=false from rfl,zU,zk (by omega)];exact hw trivial
  ·intro w _;simp only[P3];rw[show decide (((l.length:Nat):Int)<len l)=false from zH _,zU];exact zp.ret rfl
end Go.Kz
namespace Go.Kz
mutual
def ubS:Sp->Int×(Int×Int)
 |⟨a,c,_,n,_,x,y,_⟩=>
  if a=1 then (1,1,c)
  else if a=3 then (1+max (qf x).1 (qf y).1,max (qf x).2.1 (qf y).2.1,c+max (qf x).2.2 (qf y).2.2)
  else if a=4 then (1+n*(1+(qf x).1),n*(0+(qf x).2.1),n*(c+(qf x).2.2))
  else (1,0,c)
def qf:List Sp->Int×(Int×Int)
 |[]=>(0,0,0)
 |s::l=>((ubS s).1+(qf l).1,(ubS s).2.1+(qf l).2.1,(ubS s).2.2+(qf l).2.2)
end
theorem Av(s:Sp):ubS s=if s.act=1 then (1,1,s.cost)
  else if s.act=3 then (1+max (qf s.jM).1 (qf s.ui).1,max (qf s.jM).2.1 (qf s.ui).2.1,s.cost+max (qf s.jM).2.2 (qf s.ui).2.2)
  else if s.act=4 then (1+s.n*(1+(qf s.jM).1),s.n*(0+(qf s.jM).2.1),s.n*(s.cost+(qf s.jM).2.2))
  else (1,0,s.cost):=by cases s;simp only[ubS]
theorem Aw(l:List Sp)(s:Sp):qf (l++[s])=((qf l).1+(ubS s).1,(qf l).2.1+(ubS s).2.1,(qf l).2.2+(ubS s).2.2):=by
 induction l with
 |nil=>simp[qf]
 |cons x l ih=>simp only[Qm,qf,ih,p8];omega
def Nn(x:Int×(Int×Int)):Prop:=0<=x.1/\0<=x.2.1/\0<=x.2.2
theorem xn(f:zt):∀(M:Nat)(l:List Sp)(top:Bool),yA l<M->JM f top l->Nn (qf l)
 |0,l,_,h,_=>by omega
 |M+1,[],_,_,_=>by simp[qf,Nn]
 |M+1,s::l,top,h,hs=>by
  simp only[yA]at h;have he:=kX s;have hp:=yG s.term;simp only[JM]at hs;obtain⟨⟨q1,q2,q3⟩,q4,q5⟩:=(Z1 ..).1 hs.1;obtain⟨a1,a2,a3⟩:=xn f M s.jM false (by omega) q4;obtain⟨b1,b2,b3⟩:=xn f M s.ui false (by omega) q5;obtain⟨c1,c2,c3⟩:=xn f M l top (by omega) hs.2;have d1:=q2.z9o;have d2:=q2.n0;have m1:0<=s.n*(1+(qf s.jM).1):=Ol d2 (by omega);have m2:0<=s.n*(0+(qf s.jM).2.1):=Ol d2 (by omega);have m3:0<=s.n*(s.cost+(qf s.jM).2.2):=Ol d2 (by omega);simp only[qf,Nn];rw[Av];split
  ·simp only;omega
  split
  ·simp only;omega
  split
  ·simp only;omega
  ·simp only;omega
theorem Et(f:zt)(last:Bool)(s:Sp)(h:stP f last s):Nn (ubS s):=by
 have:=xn f (yA [s]+1) [s] last (by omega) (by simp only[JM,List.isEmpty_nil,Z4c];exact⟨h,trivial⟩);simp only[qf,Nn]at this⊢;omega
theorem W8{n c p k:Int}(hn:0<=n)(hc:0<=c)(hp:0<=p)(hk:0<=k):min (n*(c+min p k)) k=min (n*(c+p)) k:=by
 by_cases h:p<=k
 ·rw[show min p k=p by omega]
 ·rw[show min p k=k by omega];by_cases h0:n=0
  ·subst h0;simp
  ·have e1:c+k<=n*(c+k):=by
    have:=Z42 (show(1:Int)<=n by omega) (show 0<=c+k by omega);omega
   have e2:c+p<=n*(c+p):=by
    have:=Z42 (show(1:Int)<=n by omega) (show 0<=c+p by omega);omega
   omega
theorem xb{n x B:Int}(h0:0<=n)(h1:n<=4096)(hx:0<=x)(hB:x<=B):0<=n*x/\n*x<=4096*B:=by
 refine⟨Ol h0 hx,?_⟩;exact Z3r h1 hB hx (by omega)
theorem XI(N:Nat)(hN:1000<=N)(f:zt):∀(M:Nat)(l:List Sp)(top:Bool),yA l<M->yA l<=200->JM f top l->zn6 N M l=some (min (qf l).1 4097,(min (qf l).2.1 9,min (qf l).2.2 67108865))
 |0,l,_,h,_,_=>by omega
 |M+1,l,top,h,ht,hs=>by
  show zfb N (zn6 N M) l=_;have Uc:=vU l;unfold zfb;refine zp.eq ?_;refine zp.up (λj s=>s=(min (qf (l.take j)).2.2 67108865,(min (qf (l.take j)).2.1 9,min (qf (l.take j)).1 4097))/\Nn (qf (l.take j))) l.length ?_ ?_ N 0 (v8 _) (by omega) _ ⟨by simp only[Z29,qf,p8,Dx];omega,by simp[qf,Nn]⟩
  ·rintro j s w hj ⟨rfl,n1,n2,n3⟩ hw;have hm:=kA (wB hj);have he:=kX l[j];have htp:=yG l[j].term;have zq:=Y7 hs j hj;have Zt:=Et f _ _ zq;obtain⟨⟨q1,q2,q3⟩,q4,q5⟩:=(Z1 ..).1 zq;obtain⟨a1,a2,a3⟩:=xn f _ l[j].jM false (Eb _) q4;obtain⟨b1,b2,b3⟩:=xn f _ l[j].ui false (Eb _) q5;have d1:=q2.z9o;have d2:=q2.n0;have d3:=q2.cost;have N4:=Aw (l.take j) l[j];rw[<-qX hj]at N4;simp only[XL];rw[zb hj,zJ,zY hj];simp only[zO];rw[XI N hN f M l[j].jM false (by omega) (by omega) q4,XI N hN f M l[j].ui false (by omega) (by omega) q5];simp only[zO,W5,Pz];have hnn:Nn (qf (l.take (j+1))):=by
    obtain⟨u1,u2,u3⟩:=Zt;rw[N4];simp only[Nn];omega
   have step:∀t o n:Int,t=min (qf (l.take (j+1))).2.2 67108865->o=min (qf (l.take (j+1))).2.1 9->n=min (qf (l.take (j+1))).1 4097->zp (w (zz ((j:Int)+1),(t,(o,n)))) λy=>y=(min (qf l).1 4097,(min (qf l).2.1 9,min (qf l).2.2 67108865)):=by
    intro t o n e1 e2 e3;rw[zk (by omega)];exact hw _ ⟨by rw[e1,e2,e3],hnn⟩
   rw[N4]at step;simp only at step;rw[Av]at step;by_cases h4:l[j].act=4
   ·have d4:=q2.n h4;rw[jQ h4,zJ,qd (show ¬l[j].act=1 by omega),zU];rw[qP (show ¬l[j].act=1 by omega),qP (show ¬l[j].act=3 by omega),qn h4]at step;obtain⟨m1,m2⟩:=xb (x:=1+min (qf l[j].jM).1 4097) (B:=4098) d2 d4 (by omega) (by omega);obtain⟨m3,m4⟩:=xb (x:=min (qf l[j].jM).2.1 9) (B:=9) d2 d4 (by omega) (by omega);obtain⟨m5,m6⟩:=xb (x:=l[j].cost+min (qf l[j].jM).2.2 67108865) (B:=134217729) d2 d4 (by omega) (by omega);rw[zx (n:=1+min (qf l[j].jM).1 4097) (by omega) (by omega),zx (n:=l[j].n*(1+min (qf l[j].jM).1 4097)) (by omega) (by omega),zx (n:=1+l[j].n*(1+min (qf l[j].jM).1 4097)) (by omega) (by omega),zx (n:=min (qf (l.take j)).1 4097+(1+l[j].n*(1+min (qf l[j].jM).1 4097))) (by omega) (by omega)];rw[zx (n:=l[j].n*min (qf l[j].jM).2.1 9) (by omega) (by omega),zx (n:=min (qf (l.take j)).2.1 9+l[j].n*min (qf l[j].jM).2.1 9) (by omega) (by omega)];rw[zx (n:=l[j].cost+min (qf l[j].jM).2.2 67108865) (by omega) (by omega),zx (n:=l[j].n*(l[j].cost+min (qf l[j].jM).2.2 67108865)) (by omega) (by omega),zx (n:=min (qf (l.take j)).2.2 67108865+l[j].n*(l[j].cost+min (qf l[j].jM).2.2 67108865)) (by omega) (by omega)];have c1:=W8 (n:=l[j].n) (c:=1) (p:=(qf l[j].jM).1) (k:=4097) d2 (by omega) a1 (by omega);have c2:=W8 (n:=l[j].n) (c:=0) (p:=(qf l[j].jM).2.1) (k:=9) d2 (by omega) a2 (by omega);have c3:=W8 (n:=l[j].n) (c:=l[j].cost) (p:=(qf l[j].jM).2.2) (k:=67108865) d2 d1 a3 (by omega);rw[show(0:Int)+min (qf l[j].jM).2.1 9=min (qf l[j].jM).2.1 9 by omega]at c2;have g1:0<=l[j].n*(1+(qf l[j].jM).1):=Ol d2 (by omega);have g2:0<=l[j].n*(0+(qf l[j].jM).2.1):=Ol d2 (by omega);have g3:0<=l[j].n*(l[j].cost+(qf l[j].jM).2.2):=Ol d2 (by omega);refine step _ _ _ ?_ ?_ ?_<;>simp only<;>omega
   ·rw[qd h4,zU];by_cases h1:l[j].act=1
    ·have z1:=q1.jM (by omega) (by omega);have z2:=q1.ui (by omega);rw[jQ h1,zJ];rw[qn h1]at step;rw[z1,z2];simp only[qf];rw[zx (n:=1+max (min 0 4097) (min 0 4097)) (by omega) (by omega),zx (n:=min (qf (l.take j)).1 4097+(1+max (min 0 4097) (min 0 4097))) (by omega) (by omega),zx (n:=min (qf (l.take j)).2.1 9+1) (by omega) (by omega),zx (n:=l[j].cost+max (min 0 67108865) (min 0 67108865)) (by omega) (by omega),zx (n:=min (qf (l.take j)).2.2 67108865+(l[j].cost+max (min 0 67108865) (min 0 67108865))) (by omega) (by omega)];refine step _ _ _ ?_ ?_ ?_<;>simp only<;>omega
    ·rw[qd h1,zU];rw[zx (n:=1+max (min (qf l[j].jM).1 4097) (min (qf l[j].ui).1 4097)) (by omega) (by omega),zx (n:=min (qf (l.take j)).1 4097+(1+max (min (qf l[j].jM).1 4097) (min (qf l[j].ui).1 4097))) (by omega) (by omega),zx (n:=min (qf (l.take j)).2.1 9+max (min (qf l[j].jM).2.1 9) (min (qf l[j].ui).2.1 9)) (by omega) (by omega),zx (n:=l[j].cost+max (min (qf l[j].jM).2.2 67108865) (min (qf l[j].ui).2.2 67108865)) (by omega) (by omega),zx (n:=min (qf (l.take j)).2.2 67108865+(l[j].cost+max (min (qf l[j].jM).2.2 67108865) (min (qf l[j].ui).2.2 67108865))) (by omega) (by omega)];rw[qP h1]at step;by_cases h3:l[j].act=3
     ·rw[qn h3]at step;refine step _ _ _ ?_ ?_ ?_<;>simp only<;>omega
     ·have z1:=q1.jM h3 h4;have z2:=q1.ui h3;rw[qP h3,qP h4]at step;rw[z1,z2];simp only[qf];refine step _ _ _ ?_ ?_ ?_<;>simp only<;>omega
  ·rintro s w ⟨rfl,_⟩;simp only[XL];rw[show decide (((l.length:Nat):Int)<len l)=false from zH _,zU,Ki];exact zp.ret rfl
@[reducible] def much:Int:=1099511627776
theorem Bo(N:Nat)(hN:1000<=N)(f:zt):∀(M:Nat)(l:List Sp)(top:Bool),yA l<M->yA l<=200->JM f top l->z97 N M l=some (min (qf l).1 1099511627776,(min (qf l).2.1 1099511627776,(min (qf l).2.2 1099511627776,())))
 |0,l,_,h,_,_=>by omega
 |M+1,l,top,h,ht,hs=>by
  show Si N (z97 N M) l=_;have Uc:=vU l;unfold Si;refine zp.eq ?_;refine zp.up (λj s=>s=(min (qf (l.take j)).1 1099511627776,(min (qf (l.take j)).2.1 1099511627776,(min (qf (l.take j)).2.2 1099511627776,())))/\Nn (qf (l.take j))) l.length ?_ ?_ N 0 (v8 _) (by omega) _ ⟨by simp only[Z29,qf,p8,Dx];omega,by simp[qf,Nn]⟩
  ·rintro j s w hj ⟨rfl,n1,n2,n3⟩ hw;have hm:=kA (wB hj);have he:=kX l[j];have htp:=yG l[j].term;have zq:=Y7 hs j hj;have Zt:=Et f _ _ zq;obtain⟨⟨q1,q2,q3⟩,q4,q5⟩:=(Z1 ..).1 zq;obtain⟨a1,a2,a3⟩:=xn f _ l[j].jM false (Eb _) q4;obtain⟨b1,b2,b3⟩:=xn f _ l[j].ui false (Eb _) q5;have d1:=q2.z9o;have d2:=q2.n0;have d3:=q2.cost;have N4:=Aw (l.take j) l[j];rw[<-qX hj]at N4;simp only[P2];rw[show decide ((j:Int)<len l)=true from zb hj,zJ,zY hj];simp only[zO];rw[Bo N hN f M l[j].jM false (by omega) (by omega) q4,Bo N hN f M l[j].ui false (by omega) (by omega) q5];simp only[zO,Vi,Vl];have hnn:Nn (qf (l.take (j+1))):=by
    obtain⟨u1,u2,u3⟩:=Zt;rw[N4];simp only[Nn];omega
   have step:∀n o t:Int,n=min (qf (l.take (j+1))).1 1099511627776->o=min (qf (l.take (j+1))).2.1 1099511627776->t=min (qf (l.take (j+1))).2.2 1099511627776->zp (w (zz ((j:Int)+1),(n,(o,(t,()))))) λy=>y=(min (qf l).1 1099511627776,(min (qf l).2.1 1099511627776,(min (qf l).2.2 1099511627776,()))):=by
    intro t o n e1 e2 e3;rw[zk (by omega)];exact hw _ ⟨by rw[e1,e2,e3],hnn⟩
   rw[N4]at step;simp only at step;rw[Av]at step;by_cases h1:l[j].act=1
   ·rw[jQ h1,zJ];rw[qn h1]at step;rw[zx (n:=min (qf (l.take j)).1 1099511627776+1) (by omega) (by omega),zx (n:=min (qf (l.take j)).2.1 1099511627776+1) (by omega) (by omega),zx (n:=min (qf (l.take j)).2.2 1099511627776+l[j].cost) (by omega) (by omega)];refine step _ _ _ ?_ ?_ ?_<;>simp only<;>omega
   rw[qd h1,zU];rw[qP h1]at step;by_cases h3:l[j].act=3
   ·rw[jQ h3,zJ];rw[qn h3]at step;rw[zx (n:=1+max (min (qf l[j].jM).1 1099511627776) (min (qf l[j].ui).1 1099511627776)) (by omega) (by omega),zx (n:=min (qf (l.take j)).1 1099511627776+(1+max (min (qf l[j].jM).1 1099511627776) (min (qf l[j].ui).1 1099511627776))) (by omega) (by omega),zx (n:=min (qf (l.take j)).2.1 1099511627776+max (min (qf l[j].jM).2.1 1099511627776) (min (qf l[j].ui).2.1 1099511627776)) (by omega) (by omega),zx (n:=l[j].cost+max (min (qf l[j].jM).2.2 1099511627776) (min (qf l[j].ui).2.2 1099511627776)) (by omega) (by omega),zx (n:=min (qf (l.take j)).2.2 1099511627776+(l[j].cost+max (min (qf l[j].jM).2.2 1099511627776) (min (qf l[j].ui).2.2 1099511627776))) (by omega) (by omega)];refine step _ _ _ ?_ ?_ ?_<;>simp only<;>omega
   rw[qd h3,zU];rw[qP h3]at step;by_cases h4:l[j].act=4
   ·have d4:=q2.n h4;rw[jQ h4,zJ];rw[qn h4]at step;obtain⟨m1,m2⟩:=xb (x:=1+min (qf l[j].jM).1 1099511627776) (B:=1099511627777) d2 d4 (by omega) (by omega);obtain⟨m3,m4⟩:=xb (x:=min (qf l[j].jM).2.1 1099511627776) (B:=1099511627776) d2 d4 (by omega) (by omega);obtain⟨m5,m6⟩:=xb (x:=l[j].cost+min (qf l[j].jM).2.2 1099511627776) (B:=1099578736640) d2 d4 (by omega) (by omega);rw[zx (n:=1+min (qf l[j].jM).1 1099511627776) (by omega) (by omega),zx (n:=l[j].n*(1+min (qf l[j].jM).1 1099511627776)) (by omega) (by omega),zx (n:=1+l[j].n*(1+min (qf l[j].jM).1 1099511627776)) (by omega) (by omega),zx (n:=min (qf (l.take j)).1 1099511627776+(1+l[j].n*(1+min (qf l[j].jM).1 1099511627776))) (by omega) (by omega)];rw[zx (n:=l[j].n*min (qf l[j].jM).2.1 1099511627776) (by omega) (by omega),zx (n:=min (qf (l.take j)).2.1 1099511627776+l[j].n*min (qf l[j].jM).2.1 1099511627776) (by omega) (by omega)];rw[zx (n:=l[j].cost+min (qf l[j].jM).2.2 1099511627776) (by omega) (by omega),zx (n:=l[j].n*(l[j].cost+min (qf l[j].jM).2.2 1099511627776)) (by omega) (by omega),zx (n:=min (qf (l.take j)).2.2 1099511627776+l[j].n*(l[j].cost+min (qf l[j].jM).2.2 1099511627776)) (by omega) (by omega)];have c1:=W8 (n:=l[j].n) (c:=1) (p:=(qf l[j].jM).1) (k:=1099511627776) d2 (by omega) a1 (by omega);have c2:=W8 (n:=l[j].n) (c:=0) (p:=(qf l[j].jM).2.1) (k:=1099511627776) d2 (by omega) a2 (by omega);have c3:=W8 (n:=l[j].n) (c:=l[j].cost) (p:=(qf l[j].jM).2.2) (k:=1099511627776) d2 d1 a3 (by omega);rw[show(0:Int)+min (qf l[j].jM).2.1 1099511627776=min (qf l[j].jM).2.1 1099511627776 by omega]at c2;have g1:0<=l[j].n*(1+(qf l[j].jM).1):=Ol d2 (by omega);have g2:0<=l[j].n*(0+(qf l[j].jM).2.1):=Ol d2 (by omega);have g3:0<=l[j].n*(l[j].cost+(qf l[j].jM).2.2):=Ol d2 (by omega);refine step _ _ _ ?_ ?_ ?_<;>simp only<;>omega
   rw[qd h4,zU];rw[qP h4]at step;rw[zx (n:=min (qf (l.take j)).1 1099511627776+1) (by omega) (by omega),zx (n:=min (qf (l.take j)).2.1 1099511627776+0) (by omega) (by omega),zx (n:=min (qf (l.take j)).2.2 1099511627776+l[j].cost) (by omega) (by omega)];refine step _ _ _ ?_ ?_ ?_<;>simp only<;>omega
  ·rintro s w ⟨rfl,_⟩;simp only[P2];rw[show decide (((l.length:Nat):Int)<len l)=false from zH _,zU,Ki];exact zp.ret rfl
structure zvf (f:zt) (i:Nat) (h:Jv):Prop where
 name:WH h.1=true
 new:∀j (hj:j<f.2.1.length),j<i->f.2.1[j].1≠h.1
 Qs:NI h.2.1 h.2.2.1=true
 term:Ec f.1 true (Xu h.2.2.2.1)
structure WF (f:zt):Prop where
 deep:ziw f
 vars:Qn f.1
 GD:∀i (h:i<f.2.1.length),zvf f i f.2.1[i]
 steps:JM f true f.2.2.1
 ub1:(qf f.2.2.1).1<=4096
 ub2:(qf f.2.2.1).2.1<=8
 ub3:(qf f.2.2.1).2.2<=67108864
theorem z8v(N:Nat)(hN:1000<=N)(f:zt)(hf:zgq f):zp (f66 N f) λc=>c=0->WF f:=by
 obtain⟨g1,g2,g3⟩:=id hf;unfold f66;refine zp.then (zfx N hN f hf) λb hb=>?_
 refine zp.cond (λ_=>zp.ret (by simp)) λpX=>?_
 simp only[Hb]at pX;have hd:=hb pX;refine zp.then (zfw N hN f.1 g1) λc hc=>?_
 refine zp.cond (λva=>zp.ret λe=>by subst e;simp at va) λhe=>?_
 simp only[Hb,jc]at he;have hv:=hc he;refine zp.CT (λj=>∀i (h:i<f.2.1.length),i<j->zvf f i f.2.1[i]) f.2.1.length ?_ ?_ N 0 (v8 _) (by omega) (λi h hi=>by omega)
 ·intro k w hk hinv hw;have hz:ql f.2.1[k]<=p4 f.2.1:=Zy (wB hk);simp only[ql]at hz;simp only[H7];rw[show decide ((k:Int)<len f.2.1)=true from zb hk,zJ,zY hk];simp only[zO];rw[T2 N hN];simp only[zO];refine zp.cond (λ_=>zp.ret (by simp)) λYL=>?_
  refine zp.CT (λj=>∀i (h:i<f.2.1.length),i<j->f.2.1[i].1≠f.2.1[k].1) k ?_ ?_ N 0 (v8 _) (by omega) (λi h hi=>by omega)
  ·intro j w' hj BC PD;simp only[XH];have:decide ((j:Int)<(k:Int))=true:=by simpa using hj
   rw[this,zJ,zY (show j<f.2.1.length by omega)];simp only[zO];refine zp.cond (λ_=>zp.ret (by simp)) λva=>?_
   rw[zk (by omega)];refine PD λi h hi=>?_
   by_cases e:i=j
   ·subst e;exact Z27 va
   ·exact BC i h (by omega)
  ·intro w' BC;simp only[XH];rw[z9m k,zU];simp only[zO,T1];refine zp.cond (λ_=>zp.ret (by simp)) λhr=>?_
   refine zp.then (T0 N hN f.1 hv.Qs true (Xu f.2.1[k].2.2.2.1) (by omega)) λc1 hc1=>?_
   refine zp.cond (λva=>zp.ret λe=>by subst e;simp at va) λhe1=>?_
   simp only[Hb,jc]at he1 YL hr;rw[zk (by omega)];refine hw λi h wu=>?_
   by_cases e:i=k
   ·subst e;exact⟨YL,λj h hj=>BC j h hj,hr,hc1 he1⟩
   ·exact hinv i h (by omega)
 ·intro w hinv;simp only[H7];rw[show decide (((f.2.1.length:Nat):Int)<len f.2.1)=false from zH _,zU];refine zp.then (C0 N hN f hv.Qs N f.2.2.1 true (by omega) (by omega)) λc2 WY=>?_
  refine zp.cond (λva=>zp.ret λe=>by subst e;simp at va) λhe2=>?_
  simp only[Hb,jc]at he2;have hs:=WY he2;rw[show f43 N f.2.2.1=_ from XI N hN f N f.2.2.1 true (by omega) (by omega) hs];simp only[zO,KV];refine zp.cond (λ_=>zp.ret (by simp)) λhb3=>zp.ret λ_=>?_
  simp only[Wh,Q9]at hb3;obtain⟨n1,n2,n3⟩:=xn f _ f.2.2.1 true (Eb _) hs;exact⟨hd,hv,λi h=>hinv i h h,hs,by omega,by omega,by omega⟩
theorem z1r(N:Nat)(hN:1000<=N)(vs:List Jv)(hl:vs.length<=20)(x:Jv)(h:∀j (hj:j<vs.length),vs[j].1≠x.1):f296 N vs (x,())=some (-1):=by
 refine zp.eq ?_;unfold f296;refine zp.CT (λ_=>True) vs.length ?_ ?_ N 0 (v8 _) (by omega) trivial
 ·intro k w hk _ hw;simp only[XN];rw[show decide ((k:Int)<len vs)=true from zb hk,zJ,zY hk];simp only[zO,f243];rw[qd (h k hk),zU,zk (by omega)];exact hw trivial
 ·intro w _;simp only[XN];rw[show decide (((vs.length:Nat):Int)<len vs)=false from zH _,zU];exact zp.ret rfl
theorem zfu(N:Nat)(hN:1000<=N)(f:zt)(h:WF f):f162 N f=some 0:=by
 obtain⟨g1,g2,g3⟩:=h.deep.few;refine zp.eq ?_;unfold f162;refine zp.CT (λ_=>True) f.2.1.length ?_ ?_ N 0 (v8 _) (by omega) trivial
 ·intro k w hk _ hw;have hz:ql f.2.1[k]<=p4 f.2.1:=Zy (wB hk);simp only[ql]at hz;obtain⟨q1,q2,q3,q4⟩:=h.GD k hk;simp only[Xf];rw[show decide ((k:Int)<len f.2.1)=true from zb hk,zJ,zY hk];simp only[zO];rw[SN N hN,zO,q1];rw[show(!true)=false from rfl,zU,qx (by simp only[zA,jc,len];omega),zq4];unfold f244;rw[z1r N hN (f.2.1.take k) (by rw[CB];omega) f.2.1[k] (λj hj=>by
   have gg:j<k:=by rw[CB]at hj;omega
   rw[Z40];exact q2 j (by omega) gg)]
  simp only[zO,SI];rw[show decide ((0:Int)<=-1)=false from rfl,zU,q3];rw[show(!true)=false from rfl,zU];rw[show f245 N f.1 (f.2.1[k].2.2.2.1.1,f.2.1[k].2.2.2.1.2) true=some 0 from SH N hN f.1 h.vars.Qs true (Xu f.2.1[k].2.2.2.1) (by omega) q4];simp only[zO,Nq,Qv,zU];rw[zk (by omega)];exact hw trivial
 ·intro w _;simp only[Xf];rw[show decide (((f.2.1.length:Nat):Int)<len f.2.1)=false from zH _,zU];exact zp.ret rfl
theorem z8s(N:Nat)(hN:1000<=N)(f:zt)(h:WF f):f69 N f=some 0:=by
 obtain⟨g1,g2,g3⟩:=h.deep.few;have h8:=h.deep.ztr;have hd:=h.deep.steps;refine zp.eq ?_;unfold f69;refine zp.then (Bt N hN N f.2.2.1 1 0 (by omega) (by omega) (by omega) (λ_=>by omega) h.deep.zpx (by omega) (by omega)) ?_;rintro _ ⟨n',rfl,c1,c2⟩;refine zp.up (λj s=>∃m:Int,s=Zr m/\0<=m/\m<=yA f.2.2.1+p4 (f.2.1.take j)) f.2.1.length ?_ ?_ N 0 (v8 _) (by omega) _ ⟨n',rfl,by omega,by simp[p4];omega⟩
 ·rintro j s w hj ⟨m,rfl,d1,d2⟩ hw;have Xw:ql f.2.1[j]<=p4 f.2.1:=Zy (wB hj);simp only[ql]at Xw;have t1:=Vq hj;have t2:=FR f.2.1 (j+1);simp only[ql]at t1;have hdp:=h.deep.GD _ (wB hj);simp only[H4];rw[show decide ((j:Int)<len f.2.1)=true from zb hj,zJ,zY hj];simp only[zO];rw[Xi N m (by omega)];simp only[zO,Z1z,zJ];rw[show f160 N (f.2.1[j].2.2.2.1.1,f.2.1[j].2.2.2.1.2) 1 (Zr m)=_ from Bs N hN N (Xu f.2.1[j].2.2.2.1) 1 m (by omega) (by omega) (by omega) (by omega) (by omega) (by omega)];simp only[zO];rw[zk (by omega)];exact hw _ ⟨_,rfl,by omega,by omega⟩
 ·rintro s w ⟨m,rfl,d1,d2⟩;rw[Ki]at d2;simp only[H4];rw[show decide (((f.2.1.length:Nat):Int)<len f.2.1)=false from zH _,zU];rw[KV,zO,show(decide (64<len f.1)||decide (8<len f.2.1))=false by simp only[Wh,Q9,len];omega,zU];rw[Xi N m (by omega)];simp only[zO,zU];rw[zfv N hN h.vars,zfu N hN f h];simp only[zO,Nq,Qv,zU];rw[show f163 N f f.2.2.1 true=_ from Br N hN f h.vars.Qs N f.2.2.1 true (by omega) (by omega) h.steps];simp only[zO,Nq,Qv,zU];rw[show f164 N f.2.2.1=_ from Bo N hN f N f.2.2.1 true (by omega) (by omega) h.steps];simp only[zO,KV];have:=h.ub1;have:=h.ub2;have:=h.ub3;obtain⟨n1,n2,n3⟩:=xn f _ f.2.2.1 true (Eb _) h.steps;rw[show((decide (4096<min (qf f.2.2.1).1 1099511627776)||decide (8<min (qf f.2.2.1).2.1 1099511627776))||decide (67108864<min (qf f.2.2.1).2.2 1099511627776))=false by simp only[Wh,Q9];omega,zU];exact zp.ret rfl
end Go.Kz
namespace Go.Kz
def za2(op a b:Int):Int:=(f306 0 op a b).getD 0
theorem Mg(N:Nat)(a b:Int):∃r,f341 N a b=some r:=by
 unfold f341;by_cases h:b=0
 ·rw[jQ h];exact⟨0,rfl⟩
 ·rw[qd h];simp only[zU,p5,zO];cases (!decide (Int.tmod a b=0) && !decide (decide (a<0)=decide (b<0)))<;>exact⟨_,rfl⟩
theorem z6h(N:Nat)(a b:Int):∃r,f342 N a b=some r:=by
 obtain⟨r,h1⟩:=Mg N a b;unfold f342;rw[h1];cases decide (b=0)<;>exact⟨_,rfl⟩
theorem z9z(N:Nat)(op a b:Int):∃r,f306 N op a b=some r:=by
 obtain⟨q,h1⟩:=Mg N a b;obtain⟨m,h3⟩:=z6h N a b;have fl:∀c:Bool,f305 N c=some (cond c 1 0):=λc=>by cases c<;>rfl
 unfold f306;rw[h1,h3];simp only[KV,p5,zO,fl,Vi,Vl];have cd:∀(c:Bool)(x y:Option Int),(∃r,x=some r)->(∃r,y=some r)->∃r,cond c x y=some r:=λc x y hx hy=>by cases c<;>assumption
 have w:∀x:Int,∃r,some x=some r:=λx=>⟨_,rfl⟩
 exact cd _ _ _ (w _) (cd _ _ _ (w _) (cd _ _ _ (w _) (cd _ _ _ (w _) (cd _ _ _ (w _) (cd _ _ _ (w _) (cd _ _ _ (w _) (cd _ _ _ (w _) (cd _ _ _ (w _) (cd _ _ _ (w _) (cd _ _ _ (w _) (cd _ _ _ (w _) (cd _ _ _ (w _) (cd _ _ _ (w _) (w _))))))))))))))
theorem zff(N:Nat)(op a b:Int):f306 N op a b=some (za2 op a b):=by
 obtain⟨r,h1⟩:=z9z N op a b;have:f306 0 op a b=f306 N op a b:=rfl;rw[h1,za2,this,h1];rfl
def xY(n low high:Int):Int:=if n<low then low else if high<n then high else n
theorem Hx(N:Nat)(n low high:Int)(h:low<=high):f248 N n low high=some (xY n low high):=by
 unfold f248 xY;rw[Vi,Vl];congr 1;split
 ·omega
 split<;>omega
def L9(vals:List Int)(op n:Int)(l:List Int):Int:=
 if op=0 then n
 else if op=24 then vals.getD n.toNat 0
 else if op=6 then zz (0-l.getD 0 0)
 else if op=7 then (if l.getD 0 0=0 then 1 else 0)
 else if op=23 then (if l.getD 0 0=0 then l.getD 2 0 else l.getD 1 0)
 else if op=25 then l.getD (1+(xY (l.getD 0 0) 0 (l.length-2)).toNat) 0
 else za2 op (l.getD 0 0) (l.getD 1 0)
mutual
def wD(vals:List Int):Tm->Int
 |⟨op,n,ks⟩=>L9 vals op n (zcp vals ks)
def zcp(vals:List Int):List Tm->List Int
 |[]=>[]
 |k::ks=>wD vals k::zcp vals ks
end
theorem Iz(vals:List Int):∀l:List Tm,zcp vals l=l.map (wD vals)
 |[]=>rfl
 |k::ks=>by simp only[zcp,Qw,Iz vals ks]
theorem XW(vals:List Int)(t:Tm):wD vals t=L9 vals t.op t.n (t.kids.map (wD vals)):=by
 cases t;simp only[wD,Iz]
theorem getD_map{vals:List Int}{l:List Tm}{k:Nat}(h:k<l.length):(l.map (wD vals)).getD k 0=wD vals l[k]:=by
 rw[ZB,Ny,wV h];rfl
theorem Head.bin{vs:List zi}{op n:Int}{I:Type}{l:List I}(h:Head vs op n l.length)(h0:¬op=0)(xV:¬op=24)(h6:¬op=6)(h7:¬op=7)(N9:¬op=23)(N8:¬op=25):2<=l.length:=by
 have:=h.ar;simp only[kH]at this;by_cases hm:8<=op/\op<=22
 ·obtain⟨p,q,rfl⟩:=h.two hm;simp
 ·rw[qP (by omega),qP (by omega),qP hm,qP N9,qP N8]at this;simp[TY]at this
theorem I9(N:Nat)(hN:1000<=N)(vs:List zi)(vW:Bool)(vals:List Int)(hv:vals.length=vs.length):∀(M:Nat)(t:Tm),xP t<=M->xP t<=200->GN vs vW t=true->Qd N M vals (ga t)=some (wD vals t)
 |0,t,h,_,_=>by have:=yG t;omega
 |M+1,t,h,ht,hf=>by
  have ql:=pC t;have Uc:=kP t.kids;rw[KK,zA,Z2j]at hf;obtain⟨hhd,hkf⟩:=hf;have hh:=Zv hhd;have kid:∀k (hk:k<t.kids.length),Qd N M vals (t.kids[k].1,(t.kids[k].2,(t.kids[k].3,())))=some (wD vals t.kids[k]):=λk hk=>by
   have hm:=wy (wB hk);exact I9 N hN vs vW vals hv M t.kids[k] (by omega) (by omega) (hkf _ (wB hk))
  have FI:∀k (hk:k<t.kids.length),f304 N (Qd N M) (k:Int) vals (ga t)=some (wD vals t.kids[k]):=λk hk=>by
   unfold f304;rw[show idx (ga t).2.2.1 (k:Int)=some t.kids[k] from zY hk,zO,kid k hk];rfl
  rw[XW];show SF N (Qd N M) vals (ga t)=_;unfold SF L9;by_cases h0:t.op=0
  ·rw[jQ h0,zJ,qn h0]
  rw[qd h0,zU,qP h0];by_cases xV:t.op=24
  ·obtain⟨q1,q2⟩:=hh.ref xV;simp only[len]at q2;have h2:t.n.toNat<vals.length:=by omega
   rw[jQ xV,zJ,qn xV,show idx vals (ga t).2.1=some vals[t.n.toNat] from Kx q1 (by omega),ZB,wV h2];rfl
  rw[qd xV,zU,qP xV];by_cases h6:t.op=6
  ·obtain⟨p,hp⟩:=hh.one (l:=t.kids) (.inl h6);have hk:0<t.kids.length:=by rw[hp];simp
   rw[jQ h6,zJ,qn h6,show f304 N (Qd N M) 0 vals (ga t)=_ from FI 0 hk,getD_map hk];rfl
  rw[qd h6,zU,qP h6];by_cases h7:t.op=7
  ·obtain⟨p,hp⟩:=hh.one (l:=t.kids) (.inr h7);have hk:0<t.kids.length:=by rw[hp];simp
   rw[jQ h7,zJ,qn h7,show f304 N (Qd N M) 0 vals (ga t)=_ from FI 0 hk,getD_map hk];simp only[zO,f305];by_cases hz:wD vals t.kids[0]=0<;>simp[hz]
  rw[qd h7,zU,qP h7];by_cases N9:t.op=23
  ·have hl:t.kids.length=3:=by
    have:=hh.ar;rw[N9]at this;simp[TY,show kH 23=3 from rfl]at this;omega
   rw[jQ N9,zJ,qn N9,show f304 N (Qd N M) 0 vals (ga t)=_ from FI 0 (by omega),getD_map (show 0<t.kids.length by omega),getD_map (show 1<t.kids.length by omega),getD_map (show 2<t.kids.length by omega)];simp only[zO];rw[show f304 N (Qd N M) 1 vals (ga t)=_ from FI 1 (by omega),show f304 N (Qd N M) 2 vals (ga t)=_ from FI 2 (by omega)];by_cases hz:wD vals t.kids[0]=0<;>simp[hz]
  rw[qd N9,zU,qP N9];by_cases N8:t.op=25
  ·obtain⟨g1,g2⟩:=hh.many (l:=t.kids) (.inr N8);rw[jQ N8,zJ,qn N8,show f304 N (Qd N M) 0 vals (ga t)=_ from FI 0 (by omega),getD_map (show 0<t.kids.length by omega)];simp only[zO,J9];rw[show len (ga t).2.2.1=(t.kids.length:Int) from rfl,zx (n:=(t.kids.length:Int)-2) (by omega) (by omega),Hx N _ 0 _ (by omega)];simp only[zO];have hb:0<=xY (wD vals t.kids[0]) 0 (t.kids.length-2)/\xY (wD vals t.kids[0]) 0 (t.kids.length-2)<=t.kids.length-2:=by
    simp only[xY];split
    ·omega
    split<;>omega
   generalize xY (wD vals t.kids[0]) 0 (t.kids.length-2)=e at *;have hk:1+e.toNat<t.kids.length:=by omega
   rw[zx (n:=1+e) (by omega) (by omega),show(1+e:Int)=((1+e.toNat:Nat):Int) by omega,FI _ hk,getD_map hk];rfl
  rw[qd N8,zU,qP N8];have g:=hh.bin (l:=t.kids) h0 xV h6 h7 N9 N8;rw[show f304 N (Qd N M) 0 vals (ga t)=_ from FI 0 (by omega),show f304 N (Qd N M) 1 vals (ga t)=_ from FI 1 (by omega),getD_map (show 0<t.kids.length by omega),getD_map (show 1<t.kids.length by omega)];simp only[zO];rw[zff];rfl
end Go.Kz
