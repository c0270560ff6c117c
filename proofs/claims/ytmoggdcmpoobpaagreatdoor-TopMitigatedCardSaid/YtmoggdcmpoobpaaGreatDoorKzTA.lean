/-
  Terms and steps: sizes, and what the first guards bound.
-/
import Derived.Test.YtmoggdcmpoobpaaGreatDoorKzPTz
import Derived.Test.YtmoggdcmpoobpaaGreatDoorKzAR
set_option linter.unusedVariables false
set_option linter.unusedSimpArgs false
namespace Go.Kz
abbrev qU:=List UInt8×(Int×(Int×(Int×(Int×Unit))))
abbrev PL:=Int×(Int×(List Tm×Unit))
abbrev BX:=List UInt8×(Int×(Int×(PL×Unit)))
abbrev zX:=List qU×(List BX×(List Sp×Unit))
@[reducible] def w7 (x:Tm):PL:=(x.op,(x.n,(x.kids,())))
@[reducible] def Ps (t:PL):Tm:=⟨t.1,t.2.1,t.2.2.1⟩
theorem R1(x:Tm):Ps (w7 x)=x:=by cases x;rfl
mutual
def uA:Tm->Nat
 |⟨_,_,ks⟩=>1+uz ks
def uz:List Tm->Nat
 |[]=>0
 |k::ks=>uA k+uz ks
end
mutual
def Xk:Sp->Nat
 |⟨_,_,_,_,t,a,b,l⟩=>1+uA t+qM a+qM b+l.length
def qM:List Sp->Nat
 |[]=>0
 |s::l=>Xk s+qM l
end
theorem gY(x:Tm):uA x=1+uz x.kids:=by cases x;simp only[uA]
theorem qn(x:Tm):1<=uA x:=by rw[gY];omega
theorem v8(x:Sp):Xk x=1+uA x.term+qM x.yW+qM x.ke+x.bounds.length:=by cases x;simp only[Xk]
theorem w5:∀{l:List Tm}{x:Tm},x∈l->uA x<=uz l
 |y::l,x,h=>by
  simp only[uz];rcases pF.1 h with rfl|h
  ·omega
  ·have:=w5 h;omega
theorem w6:∀(l:List Tm),l.length<=uz l
 |[]=>by simp
 |y::l=>by
  have:=w6 l;have:=qn y;simp only[uz,BF];omega
theorem Y4{l:List Tm}{k:Nat}(h:k<l.length):uz (l.take (k+1))=uz (l.take k)+uA l[k]:=by
 induction l generalizing k with
 |nil=>simp at h
 |cons x l ih=>
  cases k with
  |zero=>simp[uz]
  |succ k=>
   have:=ih (k:=k) (by simpa using h);simp only[Z2k,uz,Z4k];omega
theorem DI(l:List Tm)(k:Nat):uz (l.take k)<=uz l:=by
 induction l generalizing k with
 |nil=>simp[uz]
 |cons x l ih=>
  cases k with
  |zero=>simp[uz]
  |succ k=>have:=ih k;simp only[Z2k,uz];omega
theorem vK:∀{l:List Sp}{x:Sp},x∈l->Xk x<=qM l
 |y::l,x,h=>by
  simp only[qM];rcases pF.1 h with rfl|h
  ·omega
  ·have:=vK h;omega
theorem za0(x:Sp):2<=Xk x:=by have:=qn x.term;rw[v8];omega
theorem jN:∀(l:List Sp),2*l.length<=qM l
 |[]=>by simp
 |y::l=>by
  have:=jN l;have:=za0 y;simp only[qM,BF];omega
theorem xz{l:List Sp}{k:Nat}(h:k<l.length):qM (l.take (k+1))=qM (l.take k)+Xk l[k]:=by
 induction l generalizing k with
 |nil=>simp at h
 |cons x l ih=>
  cases k with
  |zero=>simp[qM]
  |succ k=>
   have:=ih (k:=k) (by simpa using h);simp only[Z2k,qM,Z4k];omega
theorem WD(l:List Sp)(k:Nat):qM (l.take k)<=qM l:=by
 induction l generalizing k with
 |nil=>simp[qM]
 |cons x l ih=>
  cases k with
  |zero=>simp[qM]
  |succ k=>have:=ih k;simp only[Z2k,qM];omega
def Left(left:Int)(n:Nat)(r:Int):Prop:=r<=left-1/\min left 0-1<=r/\(0<=r->r=left-n)
theorem Iv(N:Nat)(hN:200<=N):∀(M:Nat)(t:PL)(left:Int),left<=100->-4294967000<=left->left.toNat+2<=M->zg (z5j N M t left) (Left left (uA (Ps t)))
 |0,t,left,_,_,h=>by omega
 |M+1,t,left,h1,h2,h3=>by
  show zg (Oh N (z5j N M) t left) _;unfold Oh;rw[zx (by omega) (by omega)];have qG:uA (Ps t)=1+uz t.2.2.1:=by rw[gY]
  refine zg.iter (λx:Int×Int=>∃k:Nat,x.1=k/\k<=t.2.2.1.length/\x.2<=left-1-k/\min left 0-1<=x.2/\(0<=x.2->x.2=left-1-uz (t.2.2.1.take k))) (λx=>(x.2+1).toNat) ?_ N _ ⟨0,rfl,jF _,by simp,by simp only;omega,λ_=>by simp[uz]⟩ (by simp;omega);rintro⟨i,r⟩ w ⟨k,hi,hk,hr,Vh,pc⟩ hw;simp only at hi hr Vh pc;subst hi;simp only[Al];by_cases qk:k<t.2.2.1.length
  ·rw[zM qk,zB];simp only[zK];by_cases h0:0<=r
   ·rw[ju h0,zB,zY qk];simp only[zK];refine zg.then (Iv N hN M (w7 t.2.2.1[k]) r (by omega) (by omega) (by omega)) λr' PQ=>?_
    obtain⟨q1,q2,q3⟩:=PQ;rw[zy (by have:=w6 t.2.2.1;omega)];refine hw _ ⟨k+1,by simp,qk,by simp only;omega,by simp only;omega,λh=>?_⟩ (by simp only;omega);have e:=q3 h;have e2:=pc h0;rw[R1]at e;rw[Y4 qk];simp only at h⊢;omega
   ·rw[ql h0,zP];exact zg.ret ⟨by omega,by omega,λh=>absurd h h0⟩
  ·have hke:k=t.2.2.1.length:=by omega
   have:decide ((k:Int)<len t.2.2.1)=false:=by simp[len];omega
   rw[this,zP];simp only[zK,zP];refine zg.ret ⟨by omega,by omega,λh=>?_⟩;have e:=pc h;rw[hke,G9]at e;rw[qG];omega
theorem Of(N:Nat)(hN:200<=N)(t:PL)(left:Int)(h1:left<=100)(h2 : -4294967000<=left):zg (f151 N t left) (Left left (uA (Ps t))):=
 Iv N hN N t left h1 h2 (by omega)
def zg9(left:Int)(n:Nat)(r:Int):Prop:=r<=left/\((left<0->r=left)/\(0<=left->-2<=r))/\(0<=r->r=left-n)
theorem Am(N:Nat)(hN:200<=N):∀(M:Nat)(l:List Sp)(left:Int),left<=100->-4294967296<=left->left.toNat+1<=M->zg (z5k N M l left) (zg9 left (qM l))
 |0,l,left,_,_,h=>by omega
 |M+1,l,left,h1,h2,h3=>by
  show zg (Oi N (z5k N M) l left) _;unfold Oi;refine zg.iter (λx:Int×Int=>∃k:Nat,x.1=k/\k<=l.length/\((x.2=left/\k=0)\/(0<=left/\-2<=x.2/\x.2<=left-k))/\(0<=x.2->x.2=left-qM (l.take k))) (λx=>(x.2+1).toNat) ?_ N _ ⟨0,rfl,jF _,.inl ⟨rfl,rfl⟩,λ_=>by simp[qM]⟩ (by simp;omega);rintro⟨i,r⟩ w ⟨k,hi,hk,hr,pc⟩ hw;simp only at hi hr pc;subst hi;simp only[An];by_cases qk:k<l.length
  ·rw[zM qk,zB];simp only[zK];by_cases h0:0<=r
   ·rw[ju h0,zB,zY qk];simp only[zK];have Tu:=jN (l.take k);rw[Us,Z4a hk]at Tu;have e0:=pc h0;rw[zx (by omega) (by omega)];refine zg.then (Of N hN (w7 l[k].term) (r-1) (by omega) (by omega)) λr1 FK=>?_
    obtain⟨q1,q2,q3⟩:=FK;rw[R1]at q3;by_cases hb:r1<len l[k].bounds
    ·rw[ju hb,zB];exact zg.ret ⟨by omega,⟨by omega,by omega⟩,λh=>by omega⟩
    ·rw[ql hb,zP];simp only[len]at hb⊢;rw[zx (by omega) (by omega)];refine zg.then (Am N hN M l[k].yW (r1-(l[k].bounds.length:Int)) (by omega) (by omega) (by omega)) λr2 Bm=>?_
     obtain⟨p1,p2,p3⟩:=Bm;refine zg.then (Am N hN M l[k].ke r2 (by omega) (by omega) (by omega)) λr3 hr3=>?_
     obtain⟨s1,s2,s3⟩:=hr3;rw[zy (by omega)];refine hw _ ⟨k+1,by simp,qk,.inr ⟨by omega,by simp only;omega,by simp only;omega⟩,λh=>?_⟩ (by simp only;omega);simp only at h⊢;have a3:=s3 h;have a2:=p3 (by omega);have a1:=q3 (by omega);rw[xz qk,v8];omega
   ·rw[ql h0,zP];exact zg.ret ⟨by omega,⟨by omega,by omega⟩,λh=>absurd h h0⟩
  ·have hke:k=l.length:=by omega
   have:decide ((k:Int)<len l)=false:=by simp[len];omega
   rw[this,zP];simp only[zK,zP];refine zg.ret ⟨by omega,⟨by omega,by omega⟩,λh=>?_⟩;have e:=pc h;rw[hke,G9]at e;exact e
theorem zcv(N:Nat)(hN:200<=N)(l:List Sp)(left:Int)(h1:left<=100)(h2 : -4294967296<=left):zg (f150 N l left) (zg9 left (qM l)):=
 Am N hN N l left h1 h2 (by omega)
def qG(h:BX):Nat:=uA (Ps h.2.2.2.1)
def pJ:List BX->Nat
 |[]=>0
 |h::l=>qG h+pJ l
theorem pS:∀{l:List BX}{x:BX},x∈l->qG x<=pJ l
 |y::l,x,h=>by
  simp only[pJ];rcases pF.1 h with rfl|h
  ·omega
  ·have:=pS h;omega
theorem YN{l:List BX}{k:Nat}(h:k<l.length):pJ (l.take (k+1))=pJ (l.take k)+qG l[k]:=by
 induction l generalizing k with
 |nil=>simp at h
 |cons x l ih=>
  cases k with
  |zero=>simp[pJ]
  |succ k=>
   have:=ih (k:=k) (by simpa using h);simp only[Z2k,pJ,Z4k];omega
theorem Eu(l:List BX)(k:Nat):pJ (l.take k)<=pJ l:=by
 induction l generalizing k with
 |nil=>simp[pJ]
 |cons x l ih=>
  cases k with
  |zero=>simp[pJ]
  |succ k=>have:=ih k;simp only[Z2k,pJ];omega
structure zdv (f:zX):Prop where
 vars:f.1.length<=10
 EP:f.2.1.length<=10
 size:qM f.2.2.1+pJ f.2.1<=96
theorem zjl(N:Nat)(hN:200<=N)(f:zX):zg (f65 N f 10 80) λb=>b=true->zdv f/\qM f.2.2.1+pJ f.2.1<=80:=by
 unfold f65;have e1:(cond (decide (10<len f.1)) (some true) (some (decide (10<len f.2.1))))=some (decide (10<len f.1)||decide (10<len f.2.1)):=by cases decide (10<len f.1)<;>rfl
 rw[e1,zK];refine zg.cond (λ_=>zg.ret (by simp)) λhb=>?_
 simp only[VG,Qi,len]at hb;refine zg.then (zcv N hN f.2.2.1 80 (by omega) (by omega)) λr hr=>?_
 obtain⟨p1,p2,p3⟩:=hr;refine zg.up (λk r1=>k<=f.2.1.length/\r1<=80/\-2-(k:Int)<=r1/\(0<=r1->r1=80-qM f.2.2.1-pJ (f.2.1.take k))) f.2.1.length ?_ ?_ N 0 (jF _) (by omega) r ⟨jF _,by omega,by omega,λh=>by have:=p3 h;simp[pJ];omega⟩
 ·rintro k r1 w hk ⟨q1,q2,q3,q4⟩ hw;simp only[EM];rw[zM hk,zB,zY hk];simp only[zK]
  ·refine zg.then (Of N hN (f.2.1[k].2.2.2.1) r1 (by omega) (by omega)) λr2 Bm=>?_
   obtain⟨s1,s2,s3⟩:=Bm;rw[zy (by omega)];refine hw _ ⟨by omega,by omega,by omega,λh=>?_⟩;have:=s3 h;have:=q4 (by omega);rw[YN hk];simp only[qG];omega
 ·rintro r1 w ⟨_,q2,q3,q4⟩;simp only[EM];rw[show decide (((f.2.1.length:Nat):Int)<len f.2.1)=false from zC _,zP];refine zg.ret λh=>?_
  have h0:=DA h;have:=q4 h0;rw[G9]at this;exact⟨⟨by omega,by omega,by omega⟩,by omega⟩
end Go.Kz
namespace Go.Kz
theorem Qw(a b:Bool):(cond a (some true) (some b):Option Bool)=some (a||b):=by cases a<;>rfl
theorem gP(a b:Bool):(cond a (some b) (some false):Option Bool)=some (a&&b):=by cases a<;>rfl
theorem gid{I:Type}(x:Option I):(x.bind λy=>some y)=x:=by cases x<;>rfl
def chB(i:Nat)(c:UInt8):Bool:=(decide (97<=((c.toNat:Nat):Int))&&decide (((c.toNat:Nat):Int)<=122))||(!decide (i=0)&&((decide (48<=((c.toNat:Nat):Int))&&decide (((c.toNat:Nat):Int)<=57))||decide (((c.toNat:Nat):Int)=46)||decide (((c.toNat:Nat):Int)=95)))
def Vp(s:List UInt8):Bool:=decide (1<=s.length)&&decide (s.length<=40)&&(List.range s.length).all λi=>match s[i]? with
 |some c=>chB i c
 |none=>true
theorem Oe(N:Nat)(hN:200<=N)(s:List UInt8):f154 N s=some (Vp s):=by
 unfold f154;have e1:(cond (decide (len s<1)) (some true) (some (decide (40<len s))))=some (decide (len s<1)||decide (40<len s)):=by cases decide (len s<1)<;>rfl
 rw[e1,zK];by_cases hl:1<=s.length/\s.length<=40
 ·have e2:(decide (len s<1)||decide (40<len s))=false:=by simp[len];omega
  rw[e2,zP]
  have:=Gd (F:=λw=>Kf N s w (λt2=>some t2) λ(_:Unit)=>some true) 0 s.length (jF _) (λi=>match s[i]? with
   |some c=>chB i c
   |none=>true) (some true) (some false) ?_ ?_ N (by omega)
  ·rw[show((0:Nat):Int)=0 from rfl]at this;rw[this];simp only[Z4h,QK,Vp,hl.1,hl.2,Uo,Z2w];cases (List.range s.length).all _<;>rfl
  ·intro k w _ hk;simp only[Kf];rw[zM hk,zB,zY hk];simp only[zK,uX hk,chB];have ek:decide ((k:Int)=0)=decide (k=0):=by congr 1;simp
   rw[ek];have ew:zz ((k:Int)+1)=(k:Int)+1:=zy (by omega);rw[ew];simp only[Qw,gP,zK];have hc:((s[k].1.toNat:Nat):Int)=((s[k].toNat:Nat):Int):=rfl;rw[hc];generalize ((s[k].toNat:Nat):Int)=c;cases decide (97<=c)<;>cases decide (c<=122)<;>cases decide (k=0)<;>cases decide (48<=c)<;>cases decide (c<=57)<;>cases decide (c=46)<;>cases decide (c=95)<;>rfl
  ·intro w;simp only[Kf];rw[show decide (((s.length:Nat):Int)<len s)=false from zC _,zP]
 ·have e2:(decide (len s<1)||decide (40<len s))=true:=by simp[len];omega
  rw[e2,zB];have:Vp s=false:=by
   simp only[Vp];by_cases h1:1<=s.length
   ·have h2:¬s.length<=40:=λh=>hl ⟨h1,h⟩
    simp[h2]
   ·simp[h1]
  rw[this]
theorem Ow(N:Nat)(hN:200<=N)(s:List UInt8):f241 N s=some (Vp s):=by
 unfold f241;rw[Qw,zK];by_cases hl:1<=s.length/\s.length<=40
 ·have vg:¬s=[]:=λh=>by rw[h]at hl;simp at hl
  have e2:(decide (s=([]:List _))||decide (40<len s))=false:=by simp[len,vg];omega
  rw[e2,zP]
  have:=Gd (F:=λw=>KJ N s (len s) w (λt2=>some t2) λ(_:Unit)=>some true) 0 s.length (jF _) (λi=>match s[i]? with
   |some c=>chB i c
   |none=>true) (some true) (some false) ?_ ?_ N (by omega)
  ·rw[show((0:Nat):Int)=0 from rfl]at this;rw[this];simp only[Z4h,QK,Vp,hl.1,hl.2,Uo,Z2w];cases (List.range s.length).all _<;>rfl
  ·intro k w _ hk;simp only[KJ];rw[show decide ((k:Int)<len s)=true from zM hk,zB,zY hk];simp only[zK,uX hk,chB];have ek:decide ((k:Int)=0)=decide (k=0):=by congr 1;simp
   rw[ek];have ew:zz ((k:Int)+1)=(k:Int)+1:=zy (by omega);rw[ew];simp only[Qw,gP,gid,zK];have hc:((s[k].1.toNat:Nat):Int)=((s[k].toNat:Nat):Int):=rfl;rw[hc];generalize ((s[k].toNat:Nat):Int)=c;have h1:decide (c<48)=!decide (48<=c):=by
    by_cases h:48<=c
    ·simp[h]
    ·simp[h];omega
   have h2:decide (57<c)=!decide (c<=57):=by
    by_cases h:c<=57
    ·simp[h]
    ·simp[h];omega
   rw[h1,h2];cases decide (97<=c)<;>cases decide (c<=122)<;>cases decide (k=0)<;>cases decide (48<=c)<;>cases decide (c<=57)<;>cases decide (c=46)<;>cases decide (c=95)<;>rfl
  ·intro w;simp only[KJ];rw[show decide (((s.length:Nat):Int)<len s)=false from zC _,zP]
 ·have e2:(decide (s=([]:List _))||decide (40<len s))=true:=by
   cases s with
   |nil=>rfl
   |cons c t=>simp[len]at hl⊢;omega
  rw[e2,zB];have:Vp s=false:=by
   simp only[Vp];by_cases h1:1<=s.length
   ·have h2:¬s.length<=40:=λh=>hl ⟨h1,h⟩
    simp[h2]
   ·simp[h1]
  rw[this]
def LD(a b:Int):Bool:=(decide (a<=b)&&decide (-1048576<=a))&&decide (b<=1048576)
theorem XX{a b:Int}:LD a b=true↔a<=b/\-1048576<=a/\b<=1048576:=by
 simp only[LD,zA,ve];omega
theorem Od(N:Nat)(a b:Int):f155 N a b=some (LD a b):=by
 unfold f155;simp only[gP,zK,LD]
theorem Ov(N:Nat)(a b:Int):f242 N a b=some (LD a b):=by
 unfold f242;simp only[gP,zK,LD]
def Zh(v:qU):Int:=v.2.2.2.1-v.2.2.1+1
def zV:List qU->Int
 |[]=>1
 |v::l=>Zh v*zV l
def jA(vs:List qU)(k:Int):List qU:=vs.filter λv=>decide (v.2.1=k)
def uS(v:qU):Prop:=v.2.2.1<=v.2.2.2.1/\-1048576<=v.2.2.1/\v.2.2.2.1<=1048576
theorem JJ{v:qU}(h:uS v):1<=Zh v/\Zh v<=2097153:=by
 obtain⟨h1,h2,h3⟩:=h;simp only[Zh];omega
theorem GQ{v:qU}(h:uS v):zz ((zz (v.2.2.2.1-v.2.2.1))+1)=Zh v:=by
 obtain⟨h1,h2,h3⟩:=h;rw[zx (n:=v.2.2.2.1-v.2.2.1) (by omega) (by omega),zx (by omega) (by omega)];rfl
theorem xy(l:List qU)(v:qU):zV (l++[v])=zV l*Zh v:=by
 induction l with
 |nil=>simp[zV]
 |cons x l ih=>simp only[QI,zV,ih,Int.mul_assoc]
theorem qh:∀{l:List qU},(∀v∈l,uS v)->1<=zV l
 |[],_=>by simp[zV]
 |v::l,h=>by
  have h1:=(JJ (h v (Z2v ..))).1;have h2:=qh (l:=l) λx hx=>h x (TX _ hx)
  simp only[zV];have:=Z2f h1 h2 (by omega) (by omega);omega
theorem CH(a b:List qU):zV (a++b)=zV a*zV b:=by
 induction a with
 |nil=>simp[zV]
 |cons x l ih=>simp only[QI,zV,ih,Int.mul_assoc]
theorem pU{l:List qU}(h:∀v∈l,uS v)(k:Nat):zV (l.take k)<=zV l:=by
 have e:=CH (l.take k) (l.drop k);rw[T4]at e;rw[e];have h1:=qh (l:=l.take k) λv hv=>h v (Z3g hv)
 have h2:=qh (l:=l.drop k) λv hv=>h v (Z3n hv)
 have:=Z5e h2 (show 0<=zV (l.take k) by omega);omega
theorem zl{I:Type}{l:List I}{k:Nat}(h:k<l.length):l.take (k+1)=l.take k++[l[k]]:=by simp
theorem xw(l:List qU)(v:qU)(k:Int):jA (l++[v]) k=if v.2.1=k then jA l k++[v] else jA l k:=by
 simp only[jA,List.filter_append];by_cases h:v.2.1=k<;>simp[h]
theorem jT{vs:List qU}(h:∀v∈vs,uS v)(k:Int):∀v∈jA vs k,uS v:=λv hv=>h v (Z58.1 hv).1
theorem xS(vs:List qU)(k:Int):(jA vs k).length<=vs.length:=Z5f ..
theorem M0{n:Int}{v:qU}(h1:1<=n)(h2:n<=4096)(hv:uS v):zz (n*Zh v)=n*Zh v/\1<=n*Zh v:=by
 obtain⟨a,b⟩:=JJ hv;have e1:=Z2f h1 a (by omega) (by omega);have e2:=Z2f h2 b (by omega) (by omega);exact⟨zx (by omega) (by omega),by omega⟩
theorem Ec(N:Nat)(hN:200<=N)(vs:List qU)(hl:vs.length<=10)(hr:∀v∈vs,uS v)(k:Int):zg (f236 N vs k) λr=>r=4097\/(r=zV (jA vs k)/\r<=4096):=by
 unfold f236;refine zg.up (λj n=>n=zV (jA (vs.take j) k)/\1<=n/\n<=4096) vs.length ?_ ?_ N 0 (jF _) (by omega) 1 ⟨by simp[jA,zV],by omega,by omega⟩
 ·rintro j n w hj ⟨h1,h2,h3⟩ hw;have hv:=hr _ (gU hj);simp only[UP];rw[zM hj,zB,zY hj];simp only[zK];rw[GQ hv,zy (by omega)];obtain⟨e1,e2⟩:=M0 h2 h3 hv;rw[e1];refine zg.cond (λhb=>?_) λhb=>zg.cond (λ_=>zg.ret (.inl rfl)) λwU=>?_
  ·simp only[U0,Qi]at hb;refine hw _ ⟨?_,h2,h3⟩;rw[zl hj,xw,qW hb];exact h1
  ·simp only[Mo,ve]at hb;simp only[Qi]at wU;refine hw _ ⟨?_,e2,by omega⟩;rw[zl hj,xw,yX hb,xy,<-h1]
 ·rintro n w ⟨h1,h2,h3⟩;simp only[UP];rw[zC,zP];rw[G9]at h1;exact zg.ret (.inr ⟨h1,h3⟩)
theorem z4v(N:Nat)(hN:200<=N)(vs:List qU)(hl:vs.length<=10)(k:Int):f68 N vs k=some (jA vs k):=by
 refine zg.eq ?_;unfold f68;refine zg.up (λj o=>o=jA (vs.take j) k) vs.length ?_ ?_ N 0 (jF _) (by omega) [] rfl
 ·rintro j o w hj rfl hw;simp only[EH];rw[zM hj,zB,zY hj];simp only[zK];rw[zy (by omega)];have hle:=xS (vs.take j) k;rw[Us]at hle;refine zg.cond (λhb=>zg.zo (by simp only[ve];exact Z1n (m:=100) (by omega) (by decide)) (hw _ ?_)) λhb=>hw _ ?_
  ·rw[zl hj,xw,yX (DA hb)]
  ·rw[zl hj,xw,qW (TG hb)]
 ·rintro o w rfl;simp only[EH];rw[zC,zP,G9];exact zg.ret rfl
structure zs6 (vs:List qU) (i:Nat) (v:qU):Prop where
 name:Vp v.1=true
 new:∀j (h:j<vs.length),j<i->vs[j].1≠v.1
 z2m:0<=v.2.1
 z2l:v.2.1<=3
 Z0:uS v
 init:v.2.1=0->v.2.2.1<=v.2.2.2.2.1/\v.2.2.2.2.1<=v.2.2.2.1
 zero:v.2.1≠0->v.2.2.2.2.1=0
structure u6 (vs:List qU):Prop where
 len:vs.length<=10
 each:∀i (h:i<vs.length),zs6 vs i vs[i]
 sec:zV (jA vs 1)<=4096
 pub:zV (jA vs 2)<=4096
 rnd:zV (jA vs 3)<=256
theorem u6.Z0{vs:List qU}(h:u6 vs):∀v∈vs,uS v:=λv hv=>by
 obtain⟨i,hi,rfl⟩:=Gz.1 hv;exact(h.each i hi).Z0
theorem zct(N:Nat)(hN:200<=N)(vs:List qU)(hl:vs.length<=10):zg (f153 N vs) λc=>c=0->u6 vs:=by
 unfold f153;refine zg.WW (λj=>∀i (h:i<vs.length),i<j->zs6 vs i vs[i]) vs.length ?_ ?_ N 0 (jF _) (by omega) (λi h hi=>by omega)
 ·intro k w hk hinv hw;simp only[UL];rw[zM hk,zB,zY hk];simp only[zK];rw[Oe N hN];simp only[zK];refine zg.cond (λ_=>zg.ret (by simp)) λZq=>?_
  refine zg.WW (λj=>∀i (h:i<vs.length),i<j->vs[i].1≠vs[k].1) k ?_ ?_ N 0 (jF _) (by omega) (λi h hi=>by omega)
  ·intro j w' hj AY QA;simp only[UI];have:decide ((j:Int)<(k:Int))=true:=by simpa using hj
   rw[this,zB,zY (show j<vs.length by omega)];simp only[zK];refine zg.cond (λ_=>zg.ret (by simp)) λvg=>?_
   rw[zy (by omega)];refine QA λi h hi=>?_
   by_cases e:i=j
   ·subst e;exact TG vg
   ·exact AY i h (by omega)
  ·intro w' AY;simp only[UI];rw[zrd k,zP];simp only[Qw,gP,gid,zK,Od];refine zg.cond (λ_=>zg.ret (by simp)) λhkd=>?_
   refine zg.cond (λ_=>zg.ret (by simp)) λhr=>?_
   refine zg.cond (λ_=>zg.ret (by simp)) λhi=>?_
   rw[zy (by omega)];refine hw λi h wm=>?_
   by_cases e:i=k
   ·subst e;simp only[Mo]at Zq hr;rw[XX]at hr;have hkd':vs[i].2.1=0\/vs[i].2.1=1\/vs[i].2.1=2\/vs[i].2.1=3:=by
     by_cases a0:vs[i].2.1=0
     ·exact .inl a0
     by_cases a1:vs[i].2.1=1
     ·exact .inr (.inl a1)
     by_cases a2:vs[i].2.1=2
     ·exact .inr (.inr (.inl a2))
     by_cases a3:vs[i].2.1=3
     ·exact .inr (.inr (.inr a3))
     simp[a0,a1,a2,a3]at hkd
    simp only[VG,TK,Qi,Mo,ve]at hi;refine⟨Zq,λj h hj=>AY j h hj,by omega,by omega,hr,λh0=>?_,λh0=>?_⟩
    ·rcases hi.1 with h|h
     ·exact absurd h0 h
     ·omega
    ·rcases hi.2 with h|h
     ·exact absurd h h0
     ·exact h
   ·exact hinv i h (by omega)
 ·intro w hinv;simp only[UL];rw[zC,zP];have hr:∀v∈vs,uS v:=λv hv=>by
   obtain⟨i,hi,rfl⟩:=Gz.1 hv;exact(hinv i hi hi).Z0
  refine zg.then (Ec N hN vs hl hr 1) λr1 h1=>?_
  refine zg.then (P:=λb=>b=false->r1<=4096/\zV (jA vs 2)<=4096) ?_ λb hb=>?_
  ·refine zg.cond (λ_=>zg.ret (by simp)) λh=>zg.then (Ec N hN vs hl hr 2) λr2 h2=>zg.ret λh'=>?_
   simp only[Qi]at h h';omega
  refine zg.then (P:=λb'=>b'=false->b=false/\zV (jA vs 3)<=256) ?_ λb' jt=>?_
  ·refine zg.cond (λ_=>zg.ret (by simp)) λh=>zg.then (Ec N hN vs hl hr 3) λr2 h2=>zg.ret λh'=>?_
   simp only[Qi]at h';exact⟨h,by omega⟩
  refine zg.cond (λ_=>zg.ret (by simp)) λh=>zg.ret λ_=>?_
  obtain⟨q1,q2⟩:=jt h;obtain⟨q3,q4⟩:=hb q1;exact⟨hl,λi h=>hinv i h h,by omega,q4,q2⟩
theorem Vt(N:Nat)(hN:200<=N){vs:List qU}(hl:vs.length<=10)(hr:∀v∈vs,uS v)(k:Int)(hk:0<=k/\k<=3)(hp:zV (jA vs k)<=4096):f18 N vs k=some (zV (jA vs k),0):=by
 refine zg.eq ?_;unfold f18;have U9:k=0\/k=1\/k=2\/k=3:=by omega
 have eb:(((!decide (k=0) && !decide (k=1)) && !decide (k=2)) && !decide (k=3))=false:=by
  rcases U9 with rfl|rfl|rfl|rfl<;>rfl
 simp only[gP,zK];rw[eb,zP,z4v N hN vs hl];simp only[zK];have pB:=xS vs k;have uL:=jT hr k;generalize jA vs k=l at *;have ck:∀{R:Type}(j:Nat)(hj:j<l.length)(x:Option R),zo (jY l (j:Int)) x=x:=λj hj x=>zu (by simp only[jY,zA,ve,len];omega)
 refine zg.WW (λ_=>True) l.length ?_ ?_ N 0 (jF _) (by omega) trivial
 ·intro j w hj _ hw;simp only[Ee];rw[zM hj,zB];simp only[ck j hj,zY hj,zK,Qw];obtain⟨a,b,c⟩:=uL _ (gU hj);have:((decide (l[j].2.2.2.1<l[j].2.2.1)||decide (l[j].2.2.1 < -1048576))||decide (1048576<l[j].2.2.2.1))=false:=by
   simp only[VG,Qi];omega
  rw[this,zP,zy (by omega)];exact hw trivial
 ·intro w _;simp only[Ee];rw[zC,zP];refine zg.up (λj n=>n=zV (l.take j)/\1<=n/\n<=4096) l.length ?_ ?_ N 0 (jF _) (by omega) 1 ⟨rfl,by omega,by omega⟩
  ·rintro j n w hj ⟨h1,h2,h3⟩ hw;have hv:=uL _ (gU hj);simp only[UC];rw[zM hj,zB];simp only[ck j hj,zY hj,zK];obtain⟨e1,e2⟩:=M0 h2 h3 hv;rw[GQ hv,e1,zy (by omega)];have e3:n*Zh l[j]=zV (l.take (j+1)):=by rw[zl hj,xy,<-h1]
   have e4:=pU uL (j+1);refine zg.cond (λh=>?_) λ_=>hw _ ⟨e3,e2,by omega⟩
   simp only[ve]at h;omega
  ·rintro n w ⟨h1,h2,h3⟩;simp only[UC];rw[zC,zP,h1,G9];exact zg.ret rfl
theorem Ei(N:Nat)(hN:200<=N){vs:List qU}(hl:vs.length<=10)(hr:∀v∈vs,uS v)(k:Int)(hk:0<=k/\k<=3)(hp:zV (jA vs k)<=4096):f165 N vs k=some (jA vs k,(zV (jA vs k),0)):=by
 have key:iter (λw=>xh N k vs (len vs) w (λt5 t6=>some (([]:List qU),(t5,t6)))
   (λqH=>iter (λw=>pf N (len qH) qH w (λuo GW=>some (([]:List qU),(uo,GW))) (λgN=>some (qH,(gN,0)))) N (0,1))) N (0,([]:List qU))=some (jA vs k,(zV (jA vs k),0)):=by
  refine zg.eq ?_;refine zg.up (λj o=>o=jA (vs.take j) k) vs.length ?_ ?_ N 0 (jF _) (by omega) [] rfl
  ·rintro j o w hj rfl hw;simp only[xh];rw[zM hj,zB,zY hj];simp only[zK,Qw];rw[zy (by omega)];have hle:=xS (vs.take j) k;rw[Us]at hle;obtain⟨a,b,c⟩:=hr _ (gU hj);have:((decide (vs[j].2.2.2.1<vs[j].2.2.1)||decide (vs[j].2.2.1 < -1048576))||decide (1048576<vs[j].2.2.2.1))=false:=by
    simp only[VG,Qi];omega
   rw[this,zP];refine zg.cond (λhb=>hw _ ?_) λhb=>zg.zo (by simp only[ve];exact Z1n (m:=100) (by omega) (by decide)) (hw _ ?_)
   ·simp only[U0,Qi]at hb;rw[zl hj,xw,qW hb]
   ·simp only[Mo,ve]at hb;rw[zl hj,xw,yX hb]
  ·rintro o w rfl;simp only[xh];rw[show decide (((vs.length:Nat):Int)<len vs)=false from zC _,zP,G9];have pB:=xS vs k;have uL:=jT hr k;generalize jA vs k=l at *;refine zg.up (λj n=>n=zV (l.take j)/\1<=n/\n<=4096) l.length ?_ ?_ N 0 (jF _) (by omega) 1 ⟨rfl,by omega,by omega⟩
   ·rintro j n w hj ⟨h1,h2,h3⟩ hw;have hv:=uL _ (gU hj);simp only[pf,f166];rw[zM hj,zB,zu (by simp only[jY,zA,ve,len];omega),zY hj];simp only[zK];obtain⟨e1,e2⟩:=M0 h2 h3 hv;rw[GQ hv,e1,zy (by omega)];have e3:n*Zh l[j]=zV (l.take (j+1)):=by rw[zl hj,xy,<-h1]
    have e4:=pU uL (j+1);refine zg.cond (λh=>?_) λ_=>hw _ ⟨e3,e2,by omega⟩
    simp only[ve]at h;omega
   ·rintro n w ⟨h1,h2,h3⟩;simp only[pf];rw[show decide (((l.length:Nat):Int)<len l)=false from zC _,zP,h1,G9];exact zg.ret rfl
 unfold f165;have U9:k=0\/k=1\/k=2\/k=3:=by omega
 rcases U9 with rfl|rfl|rfl|rfl<;>exact key
theorem ED(N:Nat)(hN:200<=N){vs:List qU}(hl:vs.length<=10)(hr:∀v∈vs,uS v)(k:Int)(hk:0<=k/\k<=3)(hp:zV (jA vs k)<=4096):f71 N vs k=some (zV (jA vs k),0):=by
 unfold f71;rw[Ei N hN hl hr k hk hp];rfl
theorem zmz{I:Type}(l:List I)(k:Nat):sub l 0 (k:Int)=l.take k:=by simp[sub]
theorem z4w(N:Nat)(hN:200<=N)(vs:List qU)(hl:vs.length<=10)(x:qU)(h:∀j (hj:j<vs.length),vs[j].1≠x.1):f67 N vs (x,())=some (-1):=by
 refine zg.eq ?_;unfold f67;refine zg.WW (λ_=>True) vs.length ?_ ?_ N 0 (jF _) (by omega) trivial
 ·intro k w hk _ hw;simp only[EI];rw[show decide ((k:Int)<len vs)=true from zM hk,zB,zY hk];simp only[zK,f240];rw[ql (h k hk),zP,zy (by omega)];exact hw trivial
 ·intro w _;simp only[EI];rw[show decide (((vs.length:Nat):Int)<len vs)=false from zC _,zP];exact zg.ret rfl
theorem zcs(N:Nat)(hN:200<=N){vs:List qU}(hv:u6 vs):f161 N vs=some 0:=by
 have hl:=hv.len;refine zg.eq ?_;unfold f161;refine zg.WW (λ_=>True) vs.length ?_ ?_ N 0 (jF _) (by omega) trivial
 ·intro k w hk _ hw;obtain⟨q1,q2,q3,q4,q5,q6,q7⟩:=hv.each k hk;simp only[UF];rw[show decide ((k:Int)<len vs)=true from zM hk,zB,zY hk];simp only[zK];rw[Ow N hN,zK,q1];rw[show(!true)=false from rfl,zP,zu (by simp only[zA,ve,len];omega),zmz];unfold f16;rw[z4w N hN (vs.take k) (by rw[Us];omega) vs[k] (λj hj=>by
   have Zy:j<k:=by rw[Us]at hj;omega
   rw[Z35];exact q2 j (by omega) Zy)]
  simp only[zK,Qw,gP,gid,Ov];rw[show decide ((0:Int)<=-1)=false from rfl,zP];have e1:(decide (vs[k].2.1<0)||decide (3<vs[k].2.1))=false:=by simp only[VG,Qi];omega
  rw[e1,zP,XX.2 q5];rw[show(!true)=false from rfl,zP];have e2:(!decide (vs[k].2.1=0) && !decide (vs[k].2.2.2.2.1=0))=false:=by
   by_cases h:vs[k].2.1=0
   ·simp[h]
   ·simp[q7 h]
  have e3:(decide (vs[k].2.1=0)&&(decide (vs[k].2.2.2.2.1<vs[k].2.2.1)||decide (vs[k].2.2.2.1<vs[k].2.2.2.2.1)))=false:=by
   by_cases h:vs[k].2.1=0
   ·have:=q6 h;simp only[TK,VG,Qi];right;omega
   ·simp[h]
  rw[e2,zP,e3,zP,zy (by omega)];exact hw trivial
 ·intro w _;simp only[UF];rw[show decide (((vs.length:Nat):Int)<len vs)=false from zC _,zP];refine zg.WW (λ_=>True) 3 ?_ ?_ N 0 (jF _) (by omega) trivial
  ·intro k w' hk _ QA;simp only[Kb];have U9:k=0\/k=1\/k=2:=by omega
   rcases U9 with rfl|rfl|rfl
   ·rw[show decide (((0:Nat):Int)<((3:Nat):Int))=true from rfl,zB];refine zg.zo rfl ?_;rw[show idx ((1:Int)::(2::(3::([]:List Int)))) ((0:Nat):Int)=some 1 from rfl,zK,ED N hN hl hv.Z0 1 (by omega) hv.sec];exact QA trivial
   ·rw[show decide (((1:Nat):Int)<((3:Nat):Int))=true from rfl,zB];refine zg.zo rfl ?_;rw[show idx ((1:Int)::(2::(3::([]:List Int)))) ((1:Nat):Int)=some 2 from rfl,zK,ED N hN hl hv.Z0 2 (by omega) hv.pub];exact QA trivial
   ·rw[show decide (((2:Nat):Int)<((3:Nat):Int))=true from rfl,zB];refine zg.zo rfl ?_;have h3:=hv.rnd;rw[show idx ((1:Int)::(2::(3::([]:List Int)))) ((2:Nat):Int)=some 3 from rfl,zK,ED N hN hl hv.Z0 3 (by omega) (by omega)];simp only[zK,Qw,gP,gid];have e1:decide (256<zV (jA vs 3))=false:=by simp only[Qi];omega
    rw[e1];exact QA trivial
  ·intro w' _;simp only[Kb];exact zg.ret rfl
end Go.Kz
namespace Go.Kz
def wD(op:Int):Int:=if op=0\/op=24 then 0 else if op=6\/op=7 then 1 else if 8<=op/\op<=22 then 2 else if op=23 then 3 else if op=25 then -2 else -1
theorem zcd(N:Nat)(op:Int):f292 N op=some (wD op):=by
 by_cases h0:op=0
 ·subst h0;rfl
 by_cases xf:op=24
 ·subst xf;rfl
 by_cases h6:op=6
 ·subst h6;rfl
 by_cases h7:op=7
 ·subst h7;rfl
 by_cases hm:8<=op/\op<=22
 ·have:op=8\/op=9\/op=10\/op=11\/op=12\/op=13\/op=14\/op=15\/op=16\/op=17\/op=18\/op=19\/op=20\/op=21\/op=22:=by omega
  rcases this with rfl|rfl|rfl|rfl|rfl|rfl|rfl|rfl|rfl|rfl|rfl|rfl|rfl|rfl|rfl<;>rfl
 by_cases AG:op=23
 ·subst AG;rfl
 by_cases AK:op=25
 ·subst AK;rfl
 have hk:wD op = -1:=by simp[wD,h0,xf,h6,h7,hm,AG,AK]
 rw[hk];unfold f292;simp only[ql h0,ql xf,ql h6,ql h7,ql (show ¬op=8 by omega),ql (show ¬op=9 by omega),ql (show ¬op=10 by omega),ql (show ¬op=11 by omega),ql (show ¬op=12 by omega),ql (show ¬op=13 by omega),ql (show ¬op=14 by omega),ql (show ¬op=15 by omega),ql (show ¬op=16 by omega),ql (show ¬op=17 by omega),ql (show ¬op=18 by omega),ql (show ¬op=19 by omega),ql (show ¬op=20 by omega),ql (show ¬op=21 by omega),ql (show ¬op=22 by omega),ql AG,ql AK,zP]
theorem z2o(op:Int): -2<=wD op:=by
 simp only[wD];repeat' split
 all_goals omega
def Lk(r:Int)(k:Nat):Bool:=if r = -2 then decide (2<=(k:Int))&&decide ((k:Int)<=33) else decide ((k:Int)=r)
theorem zc3(N:Nat)(op:Int):f339 N op=some (if wD op = -2 then (2,33) else (wD op,wD op)):=by
 unfold f339;simp only[Qw,gP,zK];by_cases h0:op=0\/op=24
 ·have:(decide (op=0)||decide (op=24))=true:=by simpa using h0
  rw[this,zB];simp[wD,h0]
 have e0:(decide (op=0)||decide (op=24))=false:=by simpa using h0
 rw[e0,zP];by_cases h6:op=6\/op=7
 ·have:(decide (op=6)||decide (op=7))=true:=by simpa using h6
  rw[this,zB];simp[wD,h0,h6]
 have e6:(decide (op=6)||decide (op=7))=false:=by simpa using h6
 rw[e6,zP];by_cases hm:8<=op/\op<=22
 ·have:(decide (8<=op)&&decide (op<=22))=true:=by simpa using hm
  rw[this,zB];simp[wD,h0,h6,hm]
 have em:(decide (8<=op)&&decide (op<=22))=false:=by
  simp only[TK,Qi];omega
 rw[em,zP];by_cases AG:op=23
 ·subst AG;rfl
 by_cases AK:op=25
 ·subst AK;rfl
 rw[ql AG,ql AK];simp[wD,h0,h6,hm,AG,AK]
def AJ(vs:List qU)(vX:Bool)(op n:Int)(k:Nat):Bool:=
 Lk (wD op) k&&(if op=24 then (decide (0<=n)&&decide (n<len vs)) && !(vX&&(match vs[n.toNat]? with
  |some v=>decide (v.2.1=0)
  |none=>true)) else decide (op=0)||decide (n=0))
mutual
def AB(vs:List qU)(vX:Bool):Tm->Bool
 |⟨op,n,ks⟩=>AJ vs vX op n ks.length&&fmL vs vX ks
def fmL(vs:List qU)(vX:Bool):List Tm->Bool
 |[]=>true
 |k::ks=>AB vs vX k&&fmL vs vX ks
end
theorem O3(vs:List qU)(vX:Bool):∀l:List Tm,fmL vs vX l=l.all (AB vs vX)
 |[]=>rfl
 |k::ks=>by simp only[fmL,List.all_cons,O3 vs vX ks]
theorem Gs(vs:List qU)(vX:Bool)(t:Tm):AB vs vX t=(AJ vs vX t.op t.n t.kids.length&&t.kids.all (AB vs vX)):=by
 cases t;simp only[AB,O3]
theorem zn2{vs:List qU}{n:Int}{vX:Bool}:(cond (decide (n<0)||decide (len vs<=n)) (some true) (cond vX ((idx vs n).bind λx=>some (decide (x.2.1=0))) (some false))) =
  some (!((decide (0<=n)&&decide (n<len vs)) && !(vX&&(match vs[n.toNat]? with
  |some v=>decide (v.2.1=0)
  |none=>true)))):=by
 by_cases h:0<=n/\n<len vs
 ·have e1:(decide (n<0)||decide (len vs<=n))=false:=by simp only[VG,Qi];omega
  have e2:(decide (0<=n)&&decide (n<len vs))=true:=by simpa using h
  have h2:n.toNat<vs.length:=by have:=h.2;simp only[len]at this;omega
  have e3:idx vs n=some vs[n.toNat]:=Qy h.1 (by have:=h.2;simp only[len]at this;omega);rw[e1,e2,zP,e3,uX h2];cases vX<;>simp
 ·have e1:(decide (n<0)||decide (len vs<=n))=true:=by simp only[FX,ve];omega
  have e2:(decide (0<=n)&&decide (n<len vs))=false:=by simp only[TK,Qi];omega
  rw[e1,e2];rfl
theorem q2n{r:Int}(hr : -2<=r)(l:List Tm):((decide (r = -1)||(decide (0<=r) && !decide (len l=r)))||(decide (r = -2)&&(decide (len l<2)||decide (33<len l))))=!Lk r l.length:=by
 rw[Z4d];unfold Lk;simp only[len];by_cases h2:r = -2
 ·subst h2;simp
 ·simp only[h2,TC];by_cases h1:r = -1
  ·subst h1;simp
  ·simp[h1,h2];omega
theorem q2m{r:Int}(l:List Tm):((decide ((if r = -2 then ((2:Int),(33:Int)) else (r,r)).1<0)||decide (len l<(if r = -2 then ((2:Int),(33:Int)) else (r,r)).1))||decide ((if r = -2 then ((2:Int),(33:Int)) else (r,r)).2<len l))=!Lk r l.length:=by
 rw[Z4d];unfold Lk;simp only[len];by_cases h2:r = -2
 ·subst h2;simp
 ·simp only[h2,TC];simp;omega
theorem Iq(N:Nat)(hN:200<=N)(vs:List qU)(vX:Bool):∀(M:Nat)(t:Tm),uA t<=M->uA t<=100->Dq N M vs (w7 t) vX=some (AB vs vX t)
 |0,t,h,_=>by have:=qn t;omega
 |M+1,t,h,ht=>by
  show Ou N (Dq N M) vs (w7 t) vX=_;have qG:=gY t;have pB:=w6 t.kids;unfold Ou;simp only[zcd,zK,Qw,gP,gid];rw[Gs];have hlp:iter (λw=>pK N (Dq N M) vX vs (w7 t) w (λt6=>some t6) (λ(_:Unit)=>some true)) N 0=some (t.kids.all (AB vs vX)):=by
   have:=Ge (F:=λw=>pK N (Dq N M) vX vs (w7 t) w (λt6=>some t6) (λ(_:Unit)=>some true)) t.kids (AB vs vX) (some true) (some false) ?_ ?_ N (by omega)
   ·rw[this];cases t.kids.all (AB vs vX)<;>rfl
   ·intro k w hk;simp only[pK];have hm:=w5 (gU hk);rw[show decide ((k:Int)<len t.kids)=true from zM hk,zB,zY hk];simp only[zK];rw[show Dq N M vs (t.kids[k].1,(t.kids[k].2,(t.kids[k].3,()))) vX=some (AB vs vX t.kids[k]) from Iq N hN vs vX M _ (by omega) (by omega)];rw[zy (by omega)];cases AB vs vX t.kids[k]<;>rfl
   ·intro w;simp only[pK];rw[show decide (((t.kids.length:Nat):Int)<len t.kids)=false from zC _,zP]
  rw[hlp];rw[q2n (z2o t.op) t.kids];simp only[AJ]
  cases ha:Lk (wD t.op) t.kids.length with
  |false=>rfl
  |true=>
   simp only[Gu,zP,Z2w];by_cases xf:t.op=24
   ·rw[ju xf,zB,yX xf,zn2,zK];cases (decide (0<=t.n)&&decide (t.n<len vs)) && !(vX&&_)<;>rfl
   ·rw[ql xf,zP,qW xf];by_cases h0:t.op=0
    ·simp[h0]
    ·by_cases hn:t.n=0
     ·simp[h0,hn]
     ·simp[h0,hn]
theorem zcl(N:Nat)(hN:200<=N)(vs:List qU)(vX:Bool)(t:Tm)(ht:uA t<=100):f237 N vs (w7 t) vX=some (AB vs vX t):=Iq N hN vs vX N t (by omega) ht
theorem I9(N:Nat)(hN:200<=N)(vs:List qU)(vX:Bool):∀(M:Nat)(t:Tm),uA t<=M->uA t<=100->Dz N M vs (w7 t) vX=some (AB vs vX t)
 |0,t,h,_=>by have:=qn t;omega
 |M+1,t,h,ht=>by
  show Oz N (Dz N M) vs (w7 t) vX=_;have qG:=gY t;have pB:=w6 t.kids;unfold Oz;simp only[zc3,zK,Qw,gP,gid];rw[Gs];have hlp:iter (λw=>gC N (Dz N M) vX vs (w7 t).2.2.1 (len (w7 t).2.2.1) w (λt6=>some t6) (λ(_:Unit)=>some true)) N 0=some (t.kids.all (AB vs vX)):=by
   have:=Ge (F:=λw=>gC N (Dz N M) vX vs (w7 t).2.2.1 (len (w7 t).2.2.1) w (λt6=>some t6) (λ(_:Unit)=>some true)) t.kids (AB vs vX) (some true) (some false) ?_ ?_ N (by omega)
   ·rw[this];cases t.kids.all (AB vs vX)<;>rfl
   ·intro k w hk;simp only[gC];have hm:=w5 (gU hk);rw[show decide ((k:Int)<len t.kids)=true from zM hk,zB,zY hk];simp only[zK];rw[show Dz N M vs (t.kids[k].1,(t.kids[k].2,(t.kids[k].3,()))) vX=some (AB vs vX t.kids[k]) from I9 N hN vs vX M _ (by omega) (by omega)];rw[zy (by omega)];cases AB vs vX t.kids[k]<;>rfl
   ·intro w;simp only[gC];rw[show decide (((t.kids.length:Nat):Int)<len t.kids)=false from zC _,zP]
  rw[hlp];rw[q2m t.kids];simp only[AJ]
  cases ha:Lk (wD t.op) t.kids.length with
  |false=>rfl
  |true=>
   simp only[Gu,zP,Z2w];by_cases xf:t.op=24
   ·rw[ql (show ¬t.op=0 by omega),zP,ju xf,zB,yX xf,zn2,zK];cases (decide (0<=t.n)&&decide (t.n<len vs)) && !(vX&&_)<;>rfl
   ·rw[ql xf,zP,qW xf];by_cases h0:t.op=0
    ·simp[h0]
    ·by_cases hn:t.n=0
     ·simp[h0,hn]
     ·simp[h0,hn]
theorem zc9(N:Nat)(hN:200<=N)(vs:List qU)(vX:Bool)(t:Tm)(ht:uA t<=100):f297 N vs (w7 t) vX=some (AB vs vX t):=I9 N hN vs vX N t (by omega) ht
end Go.Kz
namespace Go.Kz
theorem Wi(x y:Int):k8 x y=min x y:=by simp only[k8];split<;>omega
theorem Wl(x y:Int):gG x y=max x y:=by simp only[gG];split<;>omega
theorem Jh(N:Nat)(a b:Int):f120 N a b=some (min a b):=by
 unfold f120;by_cases h:a<b
 ·rw[ju h,zB];congr 1;omega
 ·rw[ql h,zP];congr 1;omega
theorem Qu(N:Nat)(a b:Int):f119 N a b=some (max a b):=by
 unfold f119;by_cases h:b<a
 ·rw[ju h,zB];congr 1;omega
 ·rw[ql h,zP];congr 1;omega
def RP(p:Int×Int):Prop:=-1048576<=p.1/\p.1<=p.2/\p.2<=1048576
def Ax(a b:Int×Int):Int×Int:=(min a.1 b.1,max a.2 b.2)
def jP(vs:List qU)(op n:Int)(l:List (Int×Int)):Int×Int:=
 let p:=l.getD 0 (0,0);let q:=l.getD 1 (0,0)
 if op=0 then (n,n)
 else if op=24 then (match vs[n.toNat]? with
  |some v=>(v.2.2.1,v.2.2.2.1)
  |none=>(0,0))
 else if op=6 then (-p.2,-p.1)
 else if op=8 then (p.1+q.1,p.2+q.2)
 else if op=9 then (p.1-q.2,p.2-q.1)
 else if op=10 then (min (min (p.1*q.1) (p.1*q.2)) (min (p.2*q.1) (p.2*q.2)),max (max (p.1*q.1) (p.1*q.2)) (max (p.2*q.1) (p.2*q.2)))
 else if op=11 then (if 0<=p.1/\0<=q.1 then 0 else -(max p.2 (-p.1)),max p.2 (-p.1))
 else if op=12 then (if q.1<0 then min (q.1+1) 0 else 0,if 0<q.2 then max (q.2-1) 0 else 0)
 else if op=21 then (min p.1 q.1,min p.2 q.2)
 else if op=22 then (max p.1 q.1,max p.2 q.2)
 else if op=23\/op=25 then (l.drop 2).foldl Ax q
 else (0,1)
structure Head (vs:List qU) (op n:Int) (k:Nat):Prop where
 ar:Lk (wD op) k=true
 ref:op=24->0<=n/\n<len vs
theorem Vm{vs:List qU}{vX:Bool}{op n:Int}{k:Nat}(h:AJ vs vX op n k=true):Head vs op n k:=by
 simp only[AJ,zA]at h;refine⟨h.1,λxf=>?_⟩;have:=h.2;rw[yX xf]at this;simp only[zA,ve]at this;exact this.1
theorem Head.one{vs:List qU}{op n:Int}{I:Type}{l:List I}(h:Head vs op n l.length)(ho:op=6\/op=7):∃p,l=[p]:=by
 have h1:wD op=1:=by rcases ho with rfl|rfl<;>rfl
 have:=h.ar;rw[h1]at this;simp[Lk]at this
 match l,this with
 |[p],_=>exact⟨p,rfl⟩
theorem Head.two{vs:List qU}{op n:Int}{I:Type}{l:List I}(h:Head vs op n l.length)(ho:8<=op/\op<=22):∃p q,l=[p,q]:=by
 have h1:wD op=2:=by
  simp only[wD];rw[qW (by omega),qW (by omega),yX ho]
 have:=h.ar;rw[h1]at this;simp[Lk]at this;have h2:l.length=2:=by omega
 match l,h2 with
 |[p,q],_=>exact⟨p,q,rfl⟩
theorem Head.many{vs:List qU}{op n:Int}{I:Type}{l:List I}(h:Head vs op n l.length)(ho:op=23\/op=25):2<=l.length/\l.length<=33:=by
 have:=h.ar;rcases ho with rfl|rfl
 ·simp[Lk,show wD 23=3 from rfl]at this;omega
 ·simp[Lk,show wD 25 = -2 from rfl]at this;omega
theorem zbd{a b:Int×Int}(ha:a.1<=a.2):(Ax a b).1<=(Ax a b).2:=by
 simp only[Ax];omega
theorem VV:∀(l:List (Int×Int)) (a:Int×Int),a.1<=a.2->(l.foldl Ax a).1<=(l.foldl Ax a).2
 |[],a,h=>h
 |x::l,a,h=>VV l (Ax a x) (zbd h)
theorem O1{l:List (Int×Int)}(hl:∀p∈l,RP p)(i:Nat):RP (l.getD i (0,0)):=by
 rw[FA]
 cases h:l[i]? with
 |none=>simp[RP]
 |some p=>exact hl p (Z5a h)
set_option maxHeartbeats 2000000 in
theorem z0n{vs:List qU}(hr:∀v∈vs,uS v)(op n:Int){l:List (Int×Int)}(hl:∀p∈l,RP p):(jP vs op n l).1<=(jP vs op n l).2:=by
 obtain⟨a1,a2,a3⟩:=O1 hl 0;obtain⟨b1,b2,b3⟩:=O1 hl 1;simp only[jP];generalize l.getD 0 (0,0)=p at *;generalize hq:l.getD 1 (0,0)=q at *;split
 ·simp
 split
 ·split
  ·rename_i v hv;exact(hr v (Z5a hv)).1
  ·simp
 split
 ·simp only;omega
 split
 ·simp only;omega
 split
 ·simp only;omega
 split
 ·simp only;omega
 split
 ·simp only;split<;>omega
 split
 ·simp only;split<;>split<;>omega
 split
 ·simp only;omega
 split
 ·simp only;omega
 split
 ·exact VV _ _ b2
 ·simp
theorem zhr{a b:Int}(ha : -1048576<=a/\a<=1048576)(hb : -1048576<=b/\b<=1048576): -1099511627776<=a*b/\a*b<=1099511627776:=by
 have h:(a*b).natAbs<=1048576*1048576:=by
  rw[Int.natAbs_mul];exact Z3e (by omega) (by omega)
 omega
theorem xa{a b:Int}(ha : -1048576<=a/\a<=1048576)(hb : -1048576<=b/\b<=1048576):zz (a*b)=a*b:=by
 have:=zhr ha hb;exact zx (by omega) (by omega)
def Xu(vs:List qU)(op n:Int)(l:List (Int×Int)):Int×Int:=if op=0/\(n < -1048576\/1048576<n) then (-1048577,1048577) else jP vs op n l
theorem zcc(N:Nat)(hN:200<=N)(vs:List qU)(op n:Int)(ks:List Tm)(l:List (Int×Int))(hh:Head vs op n l.length)(hl:∀p∈l,RP p):
  f293 N vs (op,(n,(ks,()))) (l.map Prod.fst) (l.map Prod.snd)=some (Xu vs op n l):=by
 unfold f293;simp only[Qw,zK];by_cases h0:op=0
 ·subst h0;rw[show decide ((0:Int)=0)=true from rfl,zB];by_cases hn:n < -1048576\/1048576<n
  ·have:(decide (n < -1048576)||decide (1048576<n))=true:=by simpa using hn
   rw[this,zB];simp[Xu,hn]
  ·have:(decide (n < -1048576)||decide (1048576<n))=false:=by simpa using hn
   rw[this,zP];simp[Xu,jP,hn]
 have eR:Xu vs op n l=jP vs op n l:=by simp[Xu,h0]
 rw[ql h0,zP,eR];by_cases xf:op=24
 ·obtain⟨q1,q2⟩:=hh.ref xf;have h2:n.toNat<vs.length:=by simp only[len]at q2;omega
  have e3:idx vs n=some vs[n.toNat]:=Qy q1 (by simp only[len]at q2;omega);rw[ju xf,zB,e3];subst xf;simp[jP,h2]
 rw[ql xf,zP];by_cases h6:op=6
 ·obtain⟨p,rfl⟩:=hh.one (.inl h6);have:=hl p (by simp);obtain⟨a1,a2,a3⟩:=this;subst h6;rw[show decide ((6:Int)=6)=true from rfl,zB];rw[show idx (List.map Prod.snd [p]) 0=some p.2 from rfl,show idx (List.map Prod.fst [p]) 0=some p.1 from rfl];simp only[zK];rw[zx (by omega) (by omega),zx (by omega) (by omega)];simp[jP]
 rw[ql h6,zP];by_cases h2:8<=op/\op<=22
 ·obtain⟨p,q,rfl⟩:=hh.two h2;obtain⟨a1,a2,a3⟩:=hl p (by simp);obtain⟨b1,b2,b3⟩:=hl q (by simp);have i1:idx (List.map Prod.fst [p,q]) 0=some p.1:=rfl;have i2:idx (List.map Prod.fst [p,q]) 1=some q.1:=rfl;have i3:idx (List.map Prod.snd [p,q]) 0=some p.2:=rfl;have i4:idx (List.map Prod.snd [p,q]) 1=some q.2:=rfl;simp only[i1,i2,i3,i4,zK];have sp:∀x:Int×Int,jP vs op n [p,q]=x->some x=some (jP vs op n [p,q]):=λx h=>by rw[h]
  by_cases h8:op=8
  ·rw[ju h8,zB,zx (by omega) (by omega),zx (by omega) (by omega)];subst h8;rfl
  rw[ql h8,zP];by_cases h9:op=9
  ·rw[ju h9,zB,zx (by omega) (by omega),zx (by omega) (by omega)];subst h9;rfl
  rw[ql h9,zP];by_cases SH:op=10
  ·rw[ju SH,zB];simp only[Jh,Qu,zK];rw[xa ⟨a1,by omega⟩ ⟨b1,by omega⟩,xa ⟨a1,by omega⟩ ⟨by omega,b3⟩,xa ⟨by omega,a3⟩ ⟨b1,by omega⟩,xa ⟨by omega,a3⟩ ⟨by omega,b3⟩];subst SH;rfl
  rw[ql SH,zP];by_cases h11:op=11
  ·rw[ju h11,zB];have f3:∀x:Int,-1048576<=x->x<=1048576->f337 N x=some (if x<0 then -x else x):=λx c1 c2=>by
    unfold f337;by_cases hx:x<0
    ·rw[ju hx,zB,zx (by omega) (by omega),yX hx];congr 1;omega
    ·rw[ql hx,zP,qW hx]
   rw[f3 _ a1 (by omega),f3 _ (by omega) a3];simp only[zK,Qu];have em:max (if p.1<0 then -p.1 else p.1) (if p.2<0 then -p.2 else p.2)=max p.2 (-p.1):=by split<;>split<;>omega
   rw[em];simp only[gP,zK];subst h11;by_cases hc:0<=p.1/\0<=q.1
   ·have:(decide (0<=p.1)&&decide (0<=q.1))=true:=by simpa using hc
    rw[this,zB];simp[jP,hc]
   ·have:(decide (0<=p.1)&&decide (0<=q.1))=false:=by
     simp only[TK,Qi];omega
    rw[this,zP,zx (by omega) (by omega)];simp[jP,hc]
  rw[ql h11,zP];by_cases TV:op=12
  ·rw[ju TV,zB];subst TV;unfold f338;simp only[Jh,Qu,zK];by_cases c1:q.1<0
   ·rw[ju c1,zB,zx (n:=q.1+1) (by omega) (by omega)];by_cases c2:0<q.2
    ·rw[ju c2,zB,zx (by omega) (by omega)];simp[jP,c1,c2];omega
    ·rw[ql c2,zP];simp[jP,c1,c2];omega
   ·rw[ql c1,zP];by_cases c2:0<q.2
    ·rw[ju c2,zB,zx (by omega) (by omega)];simp[jP,c1,c2];omega
    ·rw[ql c2,zP];simp[jP,c1,c2]
  rw[ql TV,zP];by_cases h21:op=21
  ·rw[ju h21,zB];simp only[Jh,zK];subst h21;rfl
  rw[ql h21,zP];by_cases h22:op=22
  ·rw[ju h22,zB];simp only[Qu,zK];subst h22;rfl
  rw[ql h22,zP,ql (show ¬op=23 by omega),zP,ql (show ¬op=25 by omega),zP];have:¬(op=23\/op=25):=by omega
  simp[jP,h0,xf,h6,h8,h9,SH,h11,TV,h21,h22,this]
 rw[ql (show ¬op=8 by omega),zP,ql (show ¬op=9 by omega),zP,ql (show ¬op=10 by omega),zP,ql (show ¬op=11 by omega),zP,ql (show ¬op=12 by omega),zP,ql (show ¬op=21 by omega),zP,ql (show ¬op=22 by omega),zP];have sE:¬(op=23\/op=25)->jP vs op n l=(0,1):=λh=>by
  simp[jP,h0,xf,h6,show ¬op=8 by omega,show ¬op=9 by omega,show ¬op=10 by omega,show ¬op=11 by omega,show ¬op=12 by omega,show ¬op=21 by omega,show ¬op=22 by omega,h]
 by_cases hm:op=23\/op=25
 ·obtain⟨g1,g2⟩:=hh.many hm;have i2:idx (List.map Prod.fst l) 1=some l[1].1:=by
   rw[show(1:Int)=((1:Nat):Int) from rfl,zY (by rw[GZ];omega)];simp
  have i4:idx (List.map Prod.snd l) 1=some l[1].2:=by
   rw[show(1:Int)=((1:Nat):Int) from rfl,zY (by rw[GZ];omega)];simp
  have key:iter (λw=>ZO N (List.map Prod.snd l) (List.map Prod.fst l) w (λz0g wS=>some (wS,z0g))) N (2,l[1].2,l[1].1)=some ((l.drop 2).foldl Ax l[1]):=by
   refine zg.eq ?_;refine zg.up (λj s=>2<=j/\(s.2,s.1)=((l.take j).drop 2).foldl Ax l[1]) l.length ?_ ?_ N 2 g1 (by omega) _ ?_
   ·rintro j ⟨hi,lo⟩ w hj ⟨hj2,hinv⟩ hw;simp only[ZO];rw[show decide ((j:Int)<len (List.map Prod.fst l))=true from zM (by simpa using hj),zB,zY (by simpa using hj),zY (by simpa using hj)];simp only[zK,Jh,Qu,Rq];rw[zy (by omega)];refine hw _ ⟨by omega,?_⟩;simp only at hinv;rw[show(l.take (j+1)).drop 2=(l.take j).drop 2++[l[j]] by rw[zl hj,Z2p (by rw[Us];omega)],Z3o,<-hinv];rfl
   ·rintro⟨hi,lo⟩ w ⟨_,hinv⟩;simp only[ZO];rw[show decide ((l.length:Int)<len (List.map Prod.fst l))=false by simp[len],zP];rw[G9]at hinv;exact zg.ret hinv
   ·exact⟨yH _,by rw[show(l.take 2).drop 2=[] from Lg (by rw[Us];omega)];rfl⟩
  have hq:l.getD 1 (0,0)=l[1]:=by rw[FA,uX (by omega)];rfl
  rcases hm with rfl|rfl
  ·rw[show decide ((23:Int)=23)=true from rfl,zB,zB,i2,i4];simp only[zK];rw[key,<-hq];rfl
  ·rw[show decide ((25:Int)=23)=false from rfl,zP,show decide ((25:Int)=25)=true from rfl,zB,i2,i4];simp only[zK];rw[key,<-hq];rfl
 ·rw[ql (show ¬op=23 by omega),zP,ql (show ¬op=25 by omega),zP,sE hm]
end Go.Kz
namespace Go.Kz
@[reducible] def V1 (p:Int×Int):Int×(Int×Unit):=(p.1,(p.2,()))
theorem O5(N:Nat)(a b:Int×(Int×Unit)):f365 N a b=some (min a.1 b.1,(max a.2.1 b.2.1,())):=by
 unfold f365;rw[Wi,Wl]
theorem zc0(N:Nat)(hN:200<=N)(p q:Int×Int)(hp:RP p)(hq:RP q):f363 N (V1 p) (V1 q) ()=some (min (min (p.1*q.1) (p.1*q.2)) (min (p.2*q.1) (p.2*q.2)),(max (max (p.1*q.1) (p.1*q.2)) (max (p.2*q.1) (p.2*q.2)),())):=by
 obtain⟨a1,a2,a3⟩:=hp;obtain⟨b1,b2,b3⟩:=hq;unfold f363;simp only[f364,zK];rw[xa ⟨a1,by omega⟩ ⟨b1,by omega⟩,xa ⟨a1,by omega⟩ ⟨by omega,b3⟩,xa ⟨by omega,a3⟩ ⟨b1,by omega⟩,xa ⟨by omega,a3⟩ ⟨by omega,b3⟩];generalize p.1*q.1=a;generalize p.1*q.2=b;generalize p.2*q.1=c;generalize p.2*q.2=d;obtain⟨n,rfl⟩:∃n,N=n+4:=⟨N-4,by omega⟩;have st:∀(k:Nat) (hk:k<3) (s:Int×(Int×Unit)) (w:Int×(Int×(Int×Unit))->Option (Int×(Int×Unit))) (kx:(Int×(Int×Unit))->Option (Int×(Int×Unit))),
   Kx (n+4) (((Nat.succ (Nat.succ 1)):Nat):Int) (b::(c::(d::([]:List Int)))) (0,(0,())) w kx ((k:Int),s)=w ((k:Int)+1,(min s.1 ([b,c,d][k]'hk),(max s.2.1 ([b,c,d][k]'hk),()))):=by
  intro k hk s w kx;simp only[Kx];rw[show decide ((k:Int)<(((Nat.succ (Nat.succ 1)):Nat):Int))=true by simp;omega,zB,zu (by simp[jY];omega),zY (l:=[b,c,d]) hk];simp only[zK,O5];rw[zy (by omega)]
 simp only[iter];have s0:=st 0 (by omega);have s1:=st 1 (by omega);have s2:=st 2 (by omega);simp only[show((0:Nat):Int)=0 from rfl,show((1:Nat):Int)=1 from rfl,show((2:Nat):Int)=2 from rfl,show(0:Int)+1=1 from rfl,show(1:Int)+1=2 from rfl,show(2:Int)+1=3 from rfl]at s0 s1 s2;rw[s0,s1,s2];simp only[Kx];rw[show decide ((3:Int)<(((Nat.succ (Nat.succ 1)):Nat):Int))=false from rfl,zP];simp only[List.getElem_cons_zero,Z4k,zI,pv,Fy];omega
theorem zc2(N:Nat)(hN:200<=N)(vs:List qU)(op n:Int)(ks:List Tm)(l:List (Int×Int))(hh:Head vs op n l.length)(hl:∀p∈l,RP p):
  f340 N vs (op,(n,(ks,()))) (l.map V1)=some (V1 (jP vs op n l)):=by
 unfold f340;by_cases h0:op=0
 ·subst h0;rfl
 rw[ql h0,zP];by_cases xf:op=24
 ·obtain⟨q1,q2⟩:=hh.ref xf;have h2:n.toNat<vs.length:=by simp only[len]at q2;omega
  have e3:idx vs n=some vs[n.toNat]:=Qy q1 (by simp only[len]at q2;omega);rw[ju xf,zB,e3];subst xf;simp[jP,h2]
 rw[ql xf,zP];by_cases h6:op=6
 ·obtain⟨p,rfl⟩:=hh.one (.inl h6);have:=hl p (by simp);obtain⟨a1,a2,a3⟩:=this;subst h6;rw[show decide ((6:Int)=6)=true from rfl,zB];rw[show idx (List.map V1 [p]) 0=some (V1 p) from rfl];simp only[zK];rw[zx (by omega) (by omega),zx (by omega) (by omega)];simp[jP]
 rw[ql h6,zP];by_cases h2:8<=op/\op<=22
 ·obtain⟨p,q,rfl⟩:=hh.two h2;have hp:=hl p (by simp);have hq:=hl q (by simp);obtain⟨a1,a2,a3⟩:=hp;obtain⟨b1,b2,b3⟩:=hq;have i1:idx (List.map V1 [p,q]) 0=some (V1 p):=rfl;have i2:idx (List.map V1 [p,q]) 1=some (V1 q):=rfl;simp only[i1,i2,zK,Wi,Wl];by_cases h8:op=8
  ·rw[ju h8,zB,zx (by omega) (by omega),zx (by omega) (by omega)];subst h8;rfl
  rw[ql h8,zP];by_cases h9:op=9
  ·rw[ju h9,zB,zx (by omega) (by omega),zx (by omega) (by omega)];subst h9;rfl
  rw[ql h9,zP];by_cases SH:op=10
  ·rw[ju SH,zB];rw[show f363 N (p.1,(p.2,())) (q.1,(q.2,())) ()=_ from zc0 N hN p q ⟨a1,a2,a3⟩ ⟨b1,b2,b3⟩];subst SH;rfl
  rw[ql SH,zP];by_cases h11:op=11
  ·rw[ju h11,zB];simp only[gP,zK];rw[zx (n:=0-p.1) (by omega) (by omega)];subst h11;by_cases hc:0<=p.1/\0<=q.1
   ·have:(decide (0<=p.1)&&decide (0<=q.1))=true:=by simpa using hc
    rw[this,zB];simp[jP,hc]
   ·have:(decide (0<=p.1)&&decide (0<=q.1))=false:=by
     simp only[TK,Qi];omega
    rw[this,zP,zx (by omega) (by omega)];simp[jP,hc]
  rw[ql h11,zP];by_cases TV:op=12
  ·rw[ju TV,zB];subst TV;by_cases c1:q.1<0
   ·rw[ju c1,zB,zx (n:=q.1+1) (by omega) (by omega)];by_cases c2:0<q.2
    ·rw[ju c2,zB,zx (by omega) (by omega)];simp[jP,c1,c2]
    ·rw[ql c2,zP];simp[jP,c1,c2]
   ·rw[ql c1,zP];by_cases c2:0<q.2
    ·rw[ju c2,zB,zx (by omega) (by omega)];simp[jP,c1,c2]
    ·rw[ql c2,zP];simp[jP,c1,c2]
  rw[ql TV,zP];by_cases h21:op=21
  ·rw[ju h21,zB];subst h21;rfl
  rw[ql h21,zP];by_cases h22:op=22
  ·rw[ju h22,zB];subst h22;rfl
  rw[ql h22,zP,ql (show ¬op=23 by omega),zP,ql (show ¬op=25 by omega),zP];have:¬(op=23\/op=25):=by omega
  simp[jP,h0,xf,h6,h8,h9,SH,h11,TV,h21,h22,this]
 rw[ql (show ¬op=8 by omega),zP,ql (show ¬op=9 by omega),zP,ql (show ¬op=10 by omega),zP,ql (show ¬op=11 by omega),zP,ql (show ¬op=12 by omega),zP,ql (show ¬op=21 by omega),zP,ql (show ¬op=22 by omega),zP];have sE:¬(op=23\/op=25)->jP vs op n l=(0,1):=λh=>by
  simp[jP,h0,xf,h6,show ¬op=8 by omega,show ¬op=9 by omega,show ¬op=10 by omega,show ¬op=11 by omega,show ¬op=12 by omega,show ¬op=21 by omega,show ¬op=22 by omega,h]
 by_cases hm:op=23\/op=25
 ·obtain⟨g1,g2⟩:=hh.many hm;have i2:idx (List.map V1 l) 1=some (V1 l[1]):=by
   rw[show(1:Int)=((1:Nat):Int) from rfl,zY (by rw[GZ];omega)];simp
  have es:sub (l.map V1) 2 (len (l.map V1))=(l.drop 2).map V1:=by
   have e:(l.map V1).drop 2=(l.drop 2).map V1:=by rw[List.map_drop]
   show((l.map V1).drop 2).take _=_;rw[e,Z1y];simp only[len,GZ,Lp];omega
  have hd:(l.drop 2).length<=33:=by rw[Lp];omega
  have key:iter (λw=>ZN N ((l.drop 2).map V1) (len ((l.drop 2).map V1)) (0,(0,())) w (λj7=>some j7)) N (0,V1 l[1])=some (V1 ((l.drop 2).foldl Ax l[1])):=by
   generalize l.drop 2=m at *;refine zg.eq ?_;refine zg.up (λj s=>s=V1 ((m.take j).foldl Ax l[1])) m.length ?_ ?_ N 0 (jF _) (by omega) _ rfl
   ·rintro j s w hj rfl hw;simp only[ZN];rw[show decide ((j:Int)<len (List.map V1 m))=true from zM (by simpa using hj),zB,zY (by simpa using hj)];simp only[zK,O5,Rq];rw[zy (by omega)];refine hw _ ?_;rw[zl hj,Z3o];rfl
   ·rintro s w rfl;simp only[ZN];rw[show decide ((m.length:Int)<len (List.map V1 m))=false by simp[len],zP,G9];exact zg.ret rfl
  have hq:l.getD 1 (0,0)=l[1]:=by rw[FA,uX (by omega)];rfl
  have hc:(decide (2<=len (l.map V1))&&decide (len (l.map V1)<=len (l.map V1)))=true:=by
   simp only[zA,ve,len,GZ];omega
  rw[hc];simp only[zo,zB];rw[es,i2];simp only[zK];rcases hm with rfl|rfl
  ·rw[show decide ((23:Int)=23)=true from rfl,zB,zB,key,<-hq];rfl
  ·rw[show decide ((25:Int)=23)=false from rfl,zP,show decide ((25:Int)=25)=true from rfl,zB,key,<-hq];rfl
 ·rw[ql (show ¬op=23 by omega),zP,ql (show ¬op=25 by omega),zP,sE hm]
def okR(r:Int×Int):Bool:=decide (-1048576<=r.1)&&decide (r.2<=1048576)
mutual
def Tv(vs:List qU):Tm->Option (Int×Int)
 |⟨op,n,ks⟩=>(BB vs ks).bind λl=>cond (okR (jP vs op n l)) (some (jP vs op n l)) none
def BB(vs:List qU):List Tm->Option (List (Int×Int))
 |[]=>some []
 |k::ks=>(Tv vs k).bind λr=>(BB vs ks).bind λl=>some (r::l)
end
theorem Df(vs:List qU)(t:Tm):Tv vs t=(BB vs t.kids).bind λl=>cond (okR (jP vs t.op t.n l)) (some (jP vs t.op t.n l)) none:=by
 cases t;simp only[Tv]
theorem H3{vs:List qU}:∀{ks:List Tm}{l:List (Int×Int)}{k:Tm}{r:Int×Int},BB vs ks=some l->Tv vs k=some r->BB vs (ks++[k])=some (l++[r])
 |[],l,k,r,h,hk=>by
  simp only[BB,zI]at h;subst h
  simp only[Ql,BB,hk,zK]
 |x::ks,l,k,r,h,hk=>by
  simp only[BB]at h;rw[QI];simp only[BB]
  cases hx:Tv vs x with
  |none=>rw[hx]at h;simp at h
  |some rx=>
   rw[hx]at h;simp only[zK]at h
   cases hl:BB vs ks with
   |none=>rw[hl]at h;simp at h
   |some m=>
    rw[hl]at h;simp only[zK,zI]at h;subst h;rw[H3 hl hk];rfl
theorem Dh{vs:List qU}:∀{ks:List Tm}{l:List (Int×Int)},BB vs ks=some l->l.length=ks.length
 |[],l,h=>by simp only[BB,zI]at h;subst h;rfl
 |x::ks,l,h=>by
  simp only[BB]at h
  cases hx:Tv vs x with
  |none=>rw[hx]at h;simp at h
  |some rx=>
   rw[hx]at h;simp only[zK]at h
   cases hl:BB vs ks with
   |none=>rw[hl]at h;simp at h
   |some m=>
    rw[hl]at h;simp only[zK,zI]at h;subst h;simp[Dh hl]
theorem WI{vs:List qU}:∀{ks:List Tm}{l:List (Int×Int)},BB vs ks=some l->∀(i:Nat)(h:i<ks.length)(h':i<l.length),Tv vs ks[i]=some l[i]
 |[],l,h,i,hi,_=>by simp at hi
 |x::ks,l,h,i,hi,h'=>by
  simp only[BB]at h
  cases hx:Tv vs x with
  |none=>rw[hx]at h;simp at h
  |some rx=>
   rw[hx]at h;simp only[zK]at h
   cases hl:BB vs ks with
   |none=>rw[hl]at h;simp at h
   |some m=>
    rw[hl]at h;simp only[zK,zI]at h;subst h
    cases i with
    |zero=>exact hx
    |succ i=>exact WI hl i (by simpa using hi) (by simpa using h')
theorem LI{vs:List qU}(hr:∀v∈vs,uS v):∀(n:Nat)(t:Tm),uA t<=n->∀r,Tv vs t=some r->RP r
 |0,t,h,_,_=>by have:=qn t;omega
 |n+1,t,h,r,Pe=>by
  rw[Df]at Pe;have qG:=gY t
  cases hl:BB vs t.kids with
  |none=>rw[hl]at Pe;simp at Pe
  |some l=>
   rw[hl]at Pe;simp only[zK]at Pe;have hlen:=Dh hl;have hlP:∀p∈l,RP p:=λp hp=>by
    obtain⟨i,hi,rfl⟩:=Gz.1 hp;have h1:i<t.kids.length:=by omega
    have:=w5 (gU h1);exact LI hr n _ (by omega) _ (WI hl i h1 hi)
   have hle:=z0n hr t.op t.n hlP
   cases za:okR (jP vs t.op t.n l) with
   |false=>rw[za]at Pe;simp at Pe
   |true=>
    rw[za]at Pe;simp only[zB,zI]at Pe;subst Pe;simp only[okR,zA,ve]at za;exact⟨za.1,hle,za.2⟩
theorem vr:100<=room:=by decide
theorem Iz(N:Nat)(hN:200<=N)(vs:List qU)(hr:∀v∈vs,uS v)(vX:Bool):∀(M:Nat)(t:Tm),uA t<=M->uA t<=100->AB vs vX t=true->zg (z56 N M vs (w7 t)) λr=>r.2.2=true->Tv vs t=some (r.1,r.2.1)
 |0,t,h,_,_=>by have:=qn t;omega
 |M+1,t,h,ht,hf=>by
  show zg (Og N (z56 N M) vs (w7 t)) _;have qG:=gY t;have pB:=w6 t.kids;have r1:=vr;rw[Gs,zA,Z2m]at hf;obtain⟨hhd,hkf⟩:=hf;unfold Og;refine zg.up (λj s=>j<=t.kids.length/\∃l:List (Int×Int),s.1=l.map Prod.snd/\s.2=l.map Prod.fst/\l.length=j/\BB vs (t.kids.take j)=some l) t.kids.length ?_ ?_ N 0 (jF _) (by omega) ([],[]) ⟨jF _,[],rfl,rfl,rfl,by simp[BB]⟩
  ·rintro j ⟨o0,o1⟩ w hj ⟨_,l,h1,h2,h3,h4⟩ hw;simp only at h1 h2;subst h1 h2;simp only[KV];have hm:=w5 (gU hj);rw[show decide ((j:Int)<len t.kids)=true from zM hj,zB,zY hj];simp only[zK];refine zg.then (Iz N hN vs hr vX M t.kids[j] (by omega) (by omega) (hkf _ (gU hj))) λr hrr=>?_
   refine zg.cond (λ_=>zg.ret (by simp)) λza=>?_
   simp only[Mo]at za;refine zg.zo (by simp only[ve,GZ];omega) (zg.zo (by simp only[ve,GZ];omega) ?_);rw[zy (by omega)];refine hw _ ⟨hj,l++[(r.1,r.2.1)],by simp,by simp,by simp[h3],?_⟩;rw[zl hj];exact H3 h4 (hrr za)
  ·rintro⟨o0,o1⟩ w ⟨_,l,h1,h2,h3,h4⟩;simp only at h1 h2;subst h1 h2;simp only[KV];rw[show decide (((t.kids.length:Nat):Int)<len t.kids)=false from zC _,zP];rw[G9]at h4;have hlP:∀p∈l,RP p:=λp hp=>by
    obtain⟨i,hi,rfl⟩:=Gz.1 hp;exact LI hr _ _ (yH _) _ (WI h4 i (by omega) hi)
   rw[show f293 N vs (w7 t) (List.map Prod.fst l) (List.map Prod.snd l)=_ from zcc N hN vs t.op t.n t.kids l (by rw[h3];exact Vm hhd) hlP];simp only[zK,gP];refine zg.ret λhb=>?_
   simp only at hb;rw[Df,h4,zK];have e:Xu vs t.op t.n l=jP vs t.op t.n l:=by
    unfold Xu at hb⊢;split
    ·rename_i hc;rw[yX hc]at hb;simp at hb
    ·rfl
   rw[e]at hb⊢;have:okR (jP vs t.op t.n l)=true:=hb;rw[this];rfl
theorem I8(N:Nat)(hN:200<=N)(vs:List qU)(hr:∀v∈vs,uS v)(vX:Bool):∀(M:Nat)(t:Tm),uA t<=M->uA t<=100->AB vs vX t=true->∀r,Tv vs t=some r->O9 N M vs (w7 t)=some (V1 r,true)
 |0,t,h,_,_,_,_=>by have:=qn t;omega
 |M+1,t,h,ht,hf,r,Pe=>by
  show z4z N (O9 N M) vs (w7 t)=_;have qG:=gY t;have pB:=w6 t.kids;have r1:=vr;rw[Gs,zA,Z2m]at hf;obtain⟨hhd,hkf⟩:=hf;rw[Df]at Pe
  cases hl:BB vs t.kids with
  |none=>rw[hl]at Pe;simp at Pe
  |some l=>
  rw[hl]at Pe;simp only[zK]at Pe;have hlen:=Dh hl;have hlP:∀p∈l,RP p:=λp hp=>by
   obtain⟨i,hi,rfl⟩:=Gz.1 hp;exact LI hr _ _ (yH _) _ (WI hl i (by omega) hi)
  unfold z4z ES;refine zg.eq ?_;refine zg.up (λj s=>s=(l.take j).map V1) t.kids.length ?_ ?_ N 0 (jF _) (by omega) [] rfl
  ·rintro j s w hj rfl hw;simp only[KZ];have hm:=w5 (gU hj);rw[show decide ((j:Int)<len t.kids)=true from zM hj,zB,zY hj];simp only[zK];rw[show O9 N M vs (t.kids[j].1,(t.kids[j].2,(t.kids[j].3,())))=some (V1 l[j],true) from I8 N hN vs hr vX M t.kids[j] (by omega) (by omega) (hkf _ (gU hj)) _ (WI hl j hj (by omega))];simp only[zK,Gu,zP];refine zg.zo (by simp only[ve,GZ,Us];omega) ?_;rw[zy (by omega)];refine hw _ ?_;rw[zl (show j<l.length by omega),TU];rfl
  ·rintro s w rfl;simp only[KZ];rw[show decide (((t.kids.length:Nat):Int)<len t.kids)=false from zC _,zP,<-hlen,G9];rw[show f340 N vs (w7 t) (l.map V1)=_ from zc2 N hN vs t.op t.n t.kids l (by rw[hlen];exact Vm hhd) hlP];simp only[zK]
   cases za:okR (jP vs t.op t.n l) with
   |false=>rw[za]at Pe;simp at Pe
   |true=>
    rw[za]at Pe;simp only[zB,zI]at Pe;subst Pe;simp only[okR,zA,ve]at za;rw[ju za.1,zB,ju za.2];simp only[Cm];exact zg.ret rfl
def PI(vs:List qU)(vX:Bool)(t:Tm):Prop:=AB vs vX t=true/\∃r,Tv vs t=some r
theorem Oc(N:Nat)(hN:200<=N)(vs:List qU)(hr:∀v∈vs,uS v)(vX:Bool)(t:Tm)(ht:uA t<=100):zg (f156 N vs (w7 t) vX) λc=>c=0->PI vs vX t:=by
 unfold f156;rw[zcl N hN vs vX t ht,zK];refine zg.cond (λ_=>zg.ret (by simp)) λhf=>?_
 simp only[Mo]at hf;refine zg.then (Iz N hN vs hr vX N t (by omega) ht hf) λr hrr=>?_
 refine zg.cond (λ_=>zg.ret (by simp)) λhk=>zg.ret λ_=>⟨hf,_,hrr ?_⟩
 simpa using hk
theorem Oj(N:Nat)(hN:200<=N)(vs:List qU)(hr:∀v∈vs,uS v)(vX:Bool)(t:Tm)(ht:uA t<=100)(h:PI vs vX t):f245 N vs (w7 t) vX=some 0:=by
 obtain⟨hf,r,Pe⟩:=h;unfold f245;rw[zc9 N hN vs vX t ht,hf,zK,show(!true)=false from rfl,zP];rw[show f298 N vs (w7 t)=some (V1 r,true) from I8 N hN vs hr vX N t (by omega) ht hf r Pe];rfl
end Go.Kz
namespace Go.Kz
mutual
def Zl:Tm->Nat
 |⟨_,_,ks⟩=>Zv ks+1
def Zv:List Tm->Nat
 |[]=>0
 |k::ks=>max (Zl k) (Zv ks)
end
mutual
def Fi:Sp->Nat
 |⟨_,_,_,_,_,a,b,_⟩=>max (gT a) (gT b)+1
def gT:List Sp->Nat
 |[]=>0
 |s::l=>max (Fi s) (gT l)
end
mutual
def dpS:Sp->Bool
 |⟨_,_,_,_,t,a,b,_⟩=>(decide (Zl t<=12)&&Lw a)&&Lw b
def Lw:List Sp->Bool
 |[]=>true
 |s::l=>dpS s&&Lw l
end
theorem DM(t:Tm):Zl t=Zv t.kids+1:=by cases t;simp only[Zl]
theorem DT(s:Sp):Fi s=max (gT s.yW) (gT s.ke)+1:=by cases s;simp only[Fi]
theorem MH(s:Sp):dpS s=((decide (Zl s.term<=12)&&Lw s.yW)&&Lw s.ke):=by cases s;simp only[dpS]
theorem LV(l:List Tm)(x:Tm):Zv (l++[x])=max (Zv l) (Zl x):=by
 induction l with
 |nil=>simp[Zv]
 |cons y l ih=>simp only[QI,Zv,ih];omega
theorem XV(l:List Sp)(x:Sp):gT (l++[x])=max (gT l) (Fi x):=by
 induction l with
 |nil=>simp[gT]
 |cons y l ih=>simp only[QI,gT,ih];omega
theorem Um:∀l:List Sp,Lw l=l.all dpS
 |[]=>rfl
 |s::l=>by simp only[Lw,List.all_cons,Um l]
theorem CQ:∀{l:List Tm}{x:Tm},x∈l->Zl x<=Zv l
 |y::l,x,h=>by
  simp only[Zv];rcases pF.1 h with rfl|h
  ·omega
  ·have:=CQ h;omega
theorem CP:∀{l:List Sp}{x:Sp},x∈l->Fi x<=gT l
 |y::l,x,h=>by
  simp only[gT];rcases pF.1 h with rfl|h
  ·omega
  ·have:=CP h;omega
mutual
theorem z9v:∀t:Tm,Zl t<=uA t
 |⟨_,_,ks⟩=>by have:=X9 ks;simp only[Zl,uA];omega
theorem X9:∀l:List Tm,Zv l<=uz l
 |[]=>yH _
 |k::ks=>by have:=z9v k;have:=X9 ks;simp only[Zv,uz];omega
end
mutual
theorem za1:∀s:Sp,Fi s<=Xk s
 |⟨_,_,_,_,t,a,b,_⟩=>by have:=YZ a;have:=YZ b;have:=qn t;simp only[Fi,Xk];omega
theorem YZ:∀l:List Sp,gT l<=qM l
 |[]=>yH _
 |s::l=>by have:=za1 s;have:=YZ l;simp only[gT,qM];omega
end
theorem AO(N:Nat)(hN:200<=N):∀(M:Nat)(t:Tm),uA t<=M->uA t<=100->zg (z5a N M (w7 t)) λ_=>True
 |0,t,h,_=>by have:=qn t;omega
 |M+1,t,h,ht=>by
  show zg (OV N (z5a N M) (w7 t)) _;have qG:=gY t;have pB:=w6 t.kids;unfold OV;refine zg.up (λ_ _=>True) t.kids.length ?_ ?_ N 0 (jF _) (by omega) _ trivial
  ·rintro j s w hj _ hw;simp only[KG];have hm:=w5 (gU hj);rw[show decide ((j:Int)<len t.kids)=true from zM hj,zB,zY hj];simp only[zK];refine zg.then (AO N hN M t.kids[j] (by omega) (by omega)) λr _=>?_
   rw[zy (by omega)];exact hw _ trivial
  ·rintro s w _;simp only[KG];rw[show decide (((t.kids.length:Nat):Int)<len t.kids)=false from zC _,zP];exact zg.ret trivial
theorem AR(N:Nat)(hN:200<=N):∀(M:Nat)(l:List Sp),qM l<M->qM l<=100->zg (z5b N M l) λ_=>True
 |0,l,h,_=>by omega
 |M+1,l,h,ht=>by
  show zg (OW N (z5b N M) l) _;have pB:=jN l;unfold OW;refine zg.up (λ_ _=>True) l.length ?_ ?_ N 0 (jF _) (by omega) _ trivial
  ·rintro j s w hj _ hw;simp only[KP];have hm:=vK (gU hj);have he:=v8 l[j];have hp:=qn l[j].term;rw[zM hj,zB,zY hj];simp only[zK];refine zg.then (AO N hN N l[j].term (by omega) (by omega)) λr _=>?_
   refine zg.then (AR N hN M l[j].yW (by omega) (by omega)) λr _=>?_
   refine zg.then (AR N hN M l[j].ke (by omega) (by omega)) λr _=>?_
   rw[zy (by omega)];exact hw _ trivial
  ·rintro s w _;simp only[KP];rw[show decide (((l.length:Nat):Int)<len l)=false from zC _,zP];exact zg.ret trivial
theorem AN(N:Nat)(hN:200<=N):∀(M:Nat)(t:Tm),uA t<=M->uA t<=100->OY N M (w7 t)=some (Zl t:Int)
 |0,t,h,_=>by have:=qn t;omega
 |M+1,t,h,ht=>by
  show OJ N (OY N M) (w7 t)=_;have qG:=gY t;have pB:=w6 t.kids;unfold OJ;refine zg.eq ?_;refine zg.up (λj s=>s=(Zv (t.kids.take j):Int)) t.kids.length ?_ ?_ N 0 (jF _) (by omega) _ rfl
  ·rintro j s w hj rfl hw;simp only[KK];have hm:=w5 (gU hj);rw[show decide ((j:Int)<len t.kids)=true from zM hj,zB,zY hj];simp only[zK];rw[show OY N M (t.kids[j].1,(t.kids[j].2,(t.kids[j].3,())))=some (Zl t.kids[j]:Int) from AN N hN M t.kids[j] (by omega) (by omega)];simp only[zK];rw[zy (by omega)];have e:=LV (t.kids.take j) t.kids[j];refine zg.cond (λhb=>hw _ ?_) λhb=>hw _ ?_
   ·have:=DA hb;rw[zl hj,e];omega
   ·have:=TG hb;rw[zl hj,e];omega
  ·rintro s w rfl;simp only[KK];rw[show decide (((t.kids.length:Nat):Int)<len t.kids)=false from zC _,zP,G9];have:=X9 t.kids;rw[zy (by omega)];refine zg.ret ?_;rw[DM];omega
theorem AM(N:Nat)(hN:200<=N):∀(M:Nat)(l:List Sp),qM l<M->qM l<=100->z57 N M l=some (gT l:Int)
 |0,l,h,_=>by omega
 |M+1,l,h,ht=>by
  show OQ N (z57 N M) l=_;have pB:=jN l;unfold OQ;refine zg.eq ?_;refine zg.up (λj s=>s=(gT (l.take j):Int)) l.length ?_ ?_ N 0 (jF _) (by omega) _ rfl
  ·rintro j s w hj rfl hw;simp only[KW];have hm:=vK (gU hj);have he:=v8 l[j];have hp:=qn l[j].term;rw[zM hj,zB,zY hj];simp only[zK];rw[AM N hN M l[j].yW (by omega) (by omega),AM N hN M l[j].ke (by omega) (by omega)];simp only[zK];have b1:=YZ l[j].yW;have b2:=YZ l[j].ke;rw[zy (by omega),zy (by omega),zy (by omega)];have e:=XV (l.take j) l[j];rw[DT]at e;refine zg.cond (λhb=>zg.cond (λwU=>hw _ ?_) λwU=>hw _ ?_) λhb=>zg.cond (λwU=>hw _ ?_) λwU=>hw _ ?_
   ·have:=DA hb;have:=DA wU;rw[zl hj,e];omega
   ·have:=DA hb;have:=TG wU;rw[zl hj,e];omega
   ·have:=TG hb;have:=DA wU;rw[zl hj,e];omega
   ·have:=TG hb;have:=TG wU;rw[zl hj,e];omega
  ·rintro s w rfl;simp only[KW];rw[show decide (((l.length:Nat):Int)<len l)=false from zC _,zP,G9];exact zg.ret rfl
theorem AL(N:Nat)(hN:200<=N):∀(M:Nat)(l:List Sp),qM l<M->qM l<=100->Ox N M l=some (!Lw l)
 |0,l,h,_=>by omega
 |M+1,l,h,ht=>by
  show OZ N (Ox N M) l=_;have pB:=jN l;unfold OZ;have:=Ge (F:=λw=>Jz N (Ox N M) l w (λt2=>some t2) (λ(_:Unit)=>some false)) l dpS (some false) (some true) ?_ ?_ N (by omega)
  ·rw[this,Um];cases l.all dpS<;>rfl
  ·intro j w hj;simp only[Jz];have hm:=vK (gU hj);have he:=v8 l[j];have hp:=qn l[j].term;rw[zM hj,zB,zY hj];simp only[zK];rw[show f233 N (l[j].5.1,(l[j].5.2,(l[j].5.3,())))=some (Zl l[j].term:Int) from AN N hN N l[j].term (by omega) (by omega)];rw[AL N hN M l[j].yW (by omega) (by omega),AL N hN M l[j].ke (by omega) (by omega)];simp only[zK,Qw];rw[zy (by omega),MH];by_cases TV:Zl l[j].term<=12
   ·rw[ql (show ¬(12<(Zl l[j].term:Int)) by omega),ju TV];cases Lw l[j].yW<;>cases Lw l[j].ke<;>rfl
   ·rw[ju (show 12<(Zl l[j].term:Int) by omega),ql TV];cases Lw l[j].yW<;>cases Lw l[j].ke<;>rfl
  ·intro w;simp only[Jz];rw[show decide (((l.length:Nat):Int)<len l)=false from zC _,zP]
structure zga (f:zX):Prop where
 FU:zdv f
 zfl:f.2.1.length<=8
 EP:∀h∈f.2.1,Zl (Ps h.2.2.2.1)<=12
 steps:gT f.2.2.1<=12
 zek:Lw f.2.2.1=true
theorem zcu(N:Nat)(hN:200<=N)(f:zX)(hf:zdv f):zg (f152 N f) λb=>b=true->zga f:=by
 obtain⟨q1,q2,q3⟩:=id hf;unfold f152;simp only[Qw,zK];refine zg.cond (λ_=>zg.ret (by simp)) λhb=>?_
 simp only[VG,Qi,len]at hb;refine zg.then (AR N hN N f.2.2.1 (by omega) (by omega)) λr _=>?_
 refine zg.up (λj _=>∀i (h:i<f.2.1.length),i<j->Zl (Ps f.2.1[i].2.2.2.1)<=12) f.2.1.length ?_ ?_ N 0 (jF _) (by omega) _ (λi h hi=>by omega)
 ·rintro j s w hj hinv hw;simp only[UM];have hm:qG f.2.1[j]<=pJ f.2.1:=pS (gU hj);simp only[qG]at hm;rw[show decide ((j:Int)<len f.2.1)=true from zM hj,zB,zY hj];simp only[zK];refine zg.then (AO N hN N (Ps f.2.1[j].2.2.2.1) (by omega) (by omega)) λr _=>?_
  rw[show f233 N (f.2.1[j].2.2.2.1.1,f.2.1[j].2.2.2.1.2)=some (Zl (Ps f.2.1[j].2.2.2.1):Int) from AN N hN N (Ps f.2.1[j].2.2.2.1) (by omega) (by omega)];simp only[zK];refine zg.cond (λ_=>zg.ret (by simp)) λhd=>?_
  have hd':=TG hd;rw[zy (by omega)];refine hw _ λi h hi=>?_
  by_cases e:i=j
  ·subst e;omega
  ·exact hinv i h (by omega)
 ·rintro s w hinv;simp only[UM];rw[show decide (((f.2.1.length:Nat):Int)<len f.2.1)=false from zC _,zP];rw[show f234 N f.2.2.1=_ from AM N hN N f.2.2.1 (by omega) (by omega),show f235 N f.2.2.1=_ from AL N hN N f.2.2.1 (by omega) (by omega)];simp only[zK,gP];refine zg.ret λh=>?_
  simp only[zA,U0,Mo,ve]at h;refine⟨hf,by omega,λx hx=>?_,by omega,h.2⟩;obtain⟨i,hi,rfl⟩:=Gz.1 hx;exact hinv i hi hi
@[reducible] def Z3 (n:Int):Int×(Bool×Unit):=(n,(false,()))
theorem UH(N:Nat)(n:Int)(h:n<=1024):f159 N (Z3 n)=some (((),(false,())),(Z3 n,())):=by
 unfold f159;rw[Qw,zK,ql (show ¬1024<(Z3 n).1 by simp only;omega)];rfl
theorem Af(N:Nat)(hN:200<=N):∀(M:Nat)(t:Tm)(d n:Int),uA t<=M->uA t<=100->1<=d->d+Zl t<=13->0<=n->n+uA t<=1024->OS N M (w7 t) d (Z3 n)=some (((),()),(Z3 (n+uA t),()))
 |0,t,_,_,h,_,_,_,_,_=>by have:=qn t;omega
 |M+1,t,d,n,h,ht,h1,hd,hn,hs=>by
  show OT N (OS N M) (w7 t) d (Z3 n)=_;have qG:=gY t;have pB:=w6 t.kids;have hdp:=DM t;unfold OT;rw[Qw,zK,ql (show ¬12<d by omega)];rw[show((Z3 n).2.1||false)=false from rfl,zx (n:=(Z3 n).1+1) (by simp only;omega) (by simp only;omega)];rw[show f159 N ((Z3 n).1+1,(false,(Z3 n).2.2))=_ from UH N (n+1) (by omega)];simp only[zK,zP];refine zg.eq ?_;refine zg.up (λj s=>s=Z3 (n+1+uz (t.kids.take j))) t.kids.length ?_ ?_ N 0 (jF _) (by omega) _ (by simp[uz])
  ·rintro j s w hj rfl hw;simp only[Kc];have hm:=w5 (gU hj);have hm2:=CQ (gU hj);have ht1:=Y4 hj;have ht2:=DI t.kids (j+1);rw[show decide ((j:Int)<len t.kids)=true from zM hj,zB,zY hj];simp only[zK];rw[zx (n:=d+1) (by omega) (by omega)];rw[show OS N M (t.kids[j].1,(t.kids[j].2,(t.kids[j].3,()))) (d+1) (Z3 (n+1+uz (t.kids.take j)))=_ from Af N hN M t.kids[j] (d+1) _ (by omega) (by omega) (by omega) (by omega) (by omega) (by omega)];simp only[zK];rw[zy (by omega)];refine hw _ ?_;simp only[Z3,pv,Fy];omega
  ·rintro s w rfl;simp only[Kc];rw[show decide (((t.kids.length:Nat):Int)<len t.kids)=false from zC _,zP,G9];refine zg.ret ?_;simp only[Z3,pv,Fy,Ur];omega
theorem Ah(N:Nat)(hN:200<=N):∀(M:Nat)(l:List Sp)(d n:Int),qM l<M->qM l<=100->1<=d->(l≠[]->d+gT l<=13)->Lw l=true->0<=n->n+qM l<=1024->zg (z5i N M l d (Z3 n)) λr=>∃n':Int,r=(((),()),(Z3 n',()))/\n<=n'/\n'<=n+qM l
 |0,l,_,_,h,_,_,_,_,_,_=>by omega
 |M+1,l,d,n,h,ht,h1,hd,hp,hn,hs=>by
  show zg (Oa N (z5i N M) l d (Z3 n)) _;have pB:=jN l;unfold Oa;refine zg.up (λj s=>∃m:Int,s=Z3 m/\n<=m/\m<=n+qM (l.take j)) l.length ?_ ?_ N 0 (jF _) (by omega) _ ⟨n,rfl,by omega,by simp[qM]⟩
  ·rintro j s w hj ⟨m,rfl,hm1,hm2⟩ hw;simp only[Kd];have hm:=vK (gU hj);have hdm:=CP (gU hj);have ht1:=xz hj;have ht2:=WD l (j+1);have he:=v8 l[j];have hde:=DT l[j];have htp:=qn l[j].term;have hd':=hd (λe=>by rw[e]at hj;simp at hj);rw[Um,Z2m]at hp;have hpj:=hp _ (gU hj);rw[MH]at hpj;simp only[zA,ve]at hpj;obtain⟨⟨p1,p2⟩,p3⟩:=hpj;rw[show decide ((j:Int)<len l)=true from zM hj,zB,zY hj];simp only[zK];rw[Qw,zK,ql (show ¬12<d by omega),Bool.or_false];rw[zx (n:=m+1) (by omega) (by omega)];rw[show f159 N (m+1,(false,()))=_ from UH N (m+1) (by omega)];simp only[zK,zP];rw[show f160 N (l[j].5.1,(l[j].5.2,(l[j].5.3,()))) 1 (Z3 (m+1))=_ from Af N hN N l[j].term 1 (m+1) (by omega) (by omega) (by omega) (by omega) (by omega) (by omega)];simp only[zK];rw[zx (n:=d+1) (by omega) (by omega)];refine zg.then (Ah N hN M l[j].yW (d+1) _ (by omega) (by omega) (by omega) (λ_=>by omega) p2 (by omega) (by omega)) ?_;rintro _ ⟨m1,rfl,c1,c2⟩;refine zg.then (Ah N hN M l[j].ke (d+1) m1 (by omega) (by omega) (by omega) (λ_=>by omega) p3 (by omega) (by omega)) ?_;rintro _ ⟨m2,rfl,c3,c4⟩;rw[zy (by omega)];exact hw _ ⟨m2,rfl,by omega,by omega⟩
  ·rintro s w ⟨m,rfl,hm1,hm2⟩;simp only[Kd];rw[show decide (((l.length:Nat):Int)<len l)=false from zC _,zP];rw[G9]at hm2;exact zg.ret ⟨m,rfl,hm1,hm2⟩
end Go.Kz
namespace Go.Kz
abbrev zg8:=Int×(Int×(Int×(Int×(PL×(List Sp×(List Sp×(List Int×Unit)))))))
@[reducible] def Zg (s:Sp):zg8:=(s.act,(s.cost,(s.var,(s.n,(w7 s.term,(s.yW,(s.ke,(s.bounds,()))))))))
def Bi(vs:List qU)(v:Int):Bool:=(decide (0<=v)&&decide (v<len vs))&&(match vs[v.toNat]? with
 |some x=>decide (x.2.1=0)
 |none=>false)
theorem zhu(vs:List qU)(v:Int):(cond (decide (0<=v)&&decide (v<len vs)) ((idx vs v).bind λx=>some (decide (x.2.1=0))) (some false))=some (Bi vs v):=by
 unfold Bi;by_cases h:0<=v/\v<len vs
 ·have e2:(decide (0<=v)&&decide (v<len vs))=true:=by simpa using h
  have h2:v.toNat<vs.length:=by have:=h.2;simp only[len]at this;omega
  have e3:idx vs v=some vs[v.toNat]:=Qy h.1 (by have:=h.2;simp only[len]at this;omega);rw[e2,zB,e3,uX h2];rfl
 ·have e2:(decide (0<=v)&&decide (v<len vs))=false:=by simp only[TK,Qi];omega
  rw[e2];rfl
theorem zat(vs:List qU)(v:Int):(cond (decide (v<0)||decide (len vs<=v)) (some true) ((idx vs v).bind λx=>some (!decide (x.2.1=0))))=some (!Bi vs v):=by
 unfold Bi;by_cases h:0<=v/\v<len vs
 ·have e1:(decide (v<0)||decide (len vs<=v))=false:=by simp only[VG,Qi];omega
  have e2:(decide (0<=v)&&decide (v<len vs))=true:=by simpa using h
  have h2:v.toNat<vs.length:=by have:=h.2;simp only[len]at this;omega
  have e3:idx vs v=some vs[v.toNat]:=Qy h.1 (by have:=h.2;simp only[len]at this;omega);rw[e1,e2,zP,e3,uX h2];rfl
 ·have e1:(decide (v<0)||decide (len vs<=v))=true:=by simp only[FX,ve];omega
  have e2:(decide (0<=v)&&decide (v<len vs))=false:=by simp only[TK,Qi];omega
  rw[e1,e2];rfl
theorem z2h{vs:List qU}{v:Int}(h:Bi vs v=true):∃k:Nat,∃hk:k<vs.length,v=k/\vs[k].2.1=0:=by
 simp only[Bi,zA,ve,len]at h;obtain⟨⟨h1,h2⟩,h3⟩:=h;have hk:v.toNat<vs.length:=by omega
 rw[uX hk]at h3;exact⟨v.toNat,hk,by omega,DA h3⟩
def TO(t:Tm):Bool:=(decide (t.op=0)&&decide (t.n=0))&&decide (len t.kids=0)
theorem zcb(N:Nat)(t:Tm):f294 N (w7 t)=some (TO t):=by
 unfold f294;simp only[gP,zK];rfl
theorem zc8(N:Nat)(t:Tm):f302 N (w7 t)=some (TO t):=by
 unfold f302;simp only[gP,zK];rfl
structure Ry (l:List Int):Prop where
 one:1<=l.length
 zar:l.length<=32
 first:∀h:0<l.length,(0:Int)<=l[0]
 up:∀i (_:0<i) (h2:i<l.length),l[i-1]<l[i]
theorem zca(N:Nat)(hN:200<=N)(l:List Int):zg (f295 N l) λb=>b=true->Ry l:=by
 unfold f295;rw[Qw,zK];by_cases hl:1<=l.length/\l.length<=32
 ·have e:(decide (len l<1)||decide (32<len l))=false:=by simp only[VG,Qi,len];omega
  rw[e,zP,show idx l 0=some l[0] from zY (k:=0) (by omega)];simp only[zK];refine zg.cond (λ_=>zg.ret (by simp)) λh0=>?_
  have h0':=TG h0;refine zg.WW (λj=>1<=j/\∀i (_:0<i) (h2:i<l.length),i<j->l[i-1]<l[i]) l.length ?_ ?_ N 1 hl.1 (by omega) ⟨yH _,λi h1 h2 h3=>by omega⟩
  ·rintro j w hj ⟨hj1,hinv⟩ hw;simp only[UQ];rw[zM hj,zB,zY hj,jJ (by omega) (by omega),zY (show j-1<l.length by omega)];simp only[zK];refine zg.cond (λ_=>zg.ret (by simp)) λhc=>?_
   have D7:=TG hc;rw[zy (by omega)];refine hw ⟨by omega,λi h1 h2 h3=>?_⟩;by_cases e:i=j
   ·subst e;omega
   ·exact hinv i h1 h2 (by omega)
  ·rintro w ⟨_,hinv⟩;simp only[UQ];rw[zC,zP];exact zg.ret λ_=>⟨hl.1,hl.2,λ_=>by omega,λi h1 h2=>hinv i h1 h2 h2⟩
 ·have e:(decide (len l<1)||decide (32<len l))=true:=by simp only[FX,ve,len];omega
  rw[e,zB];exact zg.ret (by simp)
theorem zc7(N:Nat)(hN:200<=N)(l:List Int)(h:Ry l):f303 N l=some true:=by
 obtain⟨h1,h2,h3,h4⟩:=h;unfold f303;refine zg.eq ?_;refine zg.WW (λ_=>True) l.length ?_ ?_ N 0 (jF _) (by omega) trivial
 ·intro j w hj _ hw;simp only[Ux];rw[show decide ((j:Int)<len l)=true from zM hj,zB];by_cases h0:0<j
  ·rw[ju (show(0:Int)<j by omega),zB,zY hj,jJ h0 (by omega),zY (show j-1<l.length by omega)];simp only[zK];have:=h4 j h0 hj;rw[ql (show ¬l[j]<=l[j-1] by omega),zP,zy (by omega)];exact hw trivial
  ·rw[ql (show ¬(0:Int)<j by omega),zP];simp only[zK,zP];rw[zy (by omega)];exact hw trivial
 ·intro w _;simp only[Ux];rw[show decide (((l.length:Nat):Int)<len l)=false from zC _,zP];exact zg.ret rfl
structure Fg (f:zX) (last:Bool) (s:Sp):Prop where
 zrq:0<=s.act
 zrp:s.act<=6
 var:s.act=0\/s.act=5->Bi f.1 s.var=true
 zmg:¬(s.act=0\/s.act=5)->s.var=0
 n0:¬(s.act=4\/s.act=5)->s.n=0
 rel:s.act=5->0<=s.n/\s.n<len f.2.1
 zero:s.act=2\/s.act=5\/s.act=6->TO s.term=true
 yW:s.act≠3->s.act≠4->s.yW=[]
 ke:s.act≠3->s.ke=[]
 bnd:s.act≠6->s.bounds=[]
 set:s.act=6->last=true/\Ry s.bounds
theorem Q9{I:Type}{l:List I}:(len l=0)=(l=[]):=by
 cases l with
 |nil=>simp[len]
 |cons x l=>simp only[len,BF,reduceCtorEq,eq_iff_iff,iff_false];omega
theorem zck(N:Nat)(hN:200<=N)(f:zX)(s:Sp)(last:Bool):zg (f239 N f (Zg s) last) λb=>b=true->Fg f last s:=by
 unfold f239;simp only[gP,gid,zK,zhu];rw[show f294 N ((Zg s).2.2.2.2.1.1,(Zg s).2.2.2.2.1.2)=_ from zcb N s.term];simp only[gP,zK];refine zg.cond (λh=>zg.ret λhb=>?_) λa0=>?_
 ·simp only[zA,ve,Q9]at h hb;obtain⟨⟨⟨⟨b1,b2⟩,b3⟩,b4⟩,b5⟩:=hb;exact⟨by omega,by omega,λ_=>b3,λc=>absurd (.inl h) c,λ_=>b4,λc=>by omega,λc=>by omega,λ_ _=>b1,λ_=>b2,λ_=>b5,λc=>by omega⟩
 refine zg.cond (λh=>zg.ret λhb=>?_) λa1=>?_
 ·simp only[zA,ve,Q9]at h hb;obtain⟨⟨⟨⟨b1,b2⟩,b3⟩,b4⟩,b5⟩:=hb;exact⟨by omega,by omega,λc=>by omega,λ_=>b3,λ_=>b4,λc=>by omega,λc=>by omega,λ_ _=>b1,λ_=>b2,λ_=>b5,λc=>by omega⟩
 refine zg.cond (λh=>zg.ret λhb=>?_) λa2=>?_
 ·simp only[zA,ve,Q9]at h hb;obtain⟨⟨⟨⟨⟨b1,b2⟩,b3⟩,b4⟩,b5⟩,b6⟩:=hb;exact⟨by omega,by omega,λc=>by omega,λ_=>b3,λ_=>b4,λc=>by omega,λ_=>b6,λ_ _=>b1,λ_=>b2,λ_=>b5,λc=>by omega⟩
 refine zg.cond (λh=>zg.ret λhb=>?_) λa3=>?_
 ·simp only[zA,ve,Q9]at h hb;obtain⟨⟨b3,b4⟩,b5⟩:=hb;exact⟨by omega,by omega,λc=>by omega,λ_=>b3,λ_=>b4,λc=>by omega,λc=>by omega,λc=>absurd h c,λc=>absurd h c,λ_=>b5,λc=>by omega⟩
 refine zg.cond (λh=>zg.ret λhb=>?_) λa4=>?_
 ·simp only[zA,ve,Q9]at h hb;obtain⟨⟨b3,b2⟩,b5⟩:=hb;exact⟨by omega,by omega,λc=>by omega,λ_=>b3,λc=>absurd (.inl h) c,λc=>by omega,λc=>by omega,λ_ c=>absurd h c,λ_=>b2,λ_=>b5,λc=>by omega⟩
 refine zg.cond (λh=>zg.ret λhb=>?_) λa5=>?_
 ·simp only[zA,ve,Q9]at h hb;obtain⟨⟨⟨⟨⟨⟨b1,b2⟩,b3⟩,b4⟩,b5⟩,b6⟩,b7⟩:=hb;exact⟨by omega,by omega,λ_=>b3,λc=>absurd (.inr h) c,λc=>absurd (.inr h) c,λ_=>⟨b4,b5⟩,λ_=>b7,λ_ _=>b1,λ_=>b2,λ_=>b6,λc=>by omega⟩
 refine zg.cond (λh=>?_) λa6=>zg.ret (by simp)
 refine zg.cond (λhb=>zg.mono (zca N hN s.bounds) λb wU hb3=>?_) λ_=>zg.ret (by simp)
 simp only[zA,ve,Q9]at h hb;obtain⟨⟨⟨⟨⟨b1,b2⟩,b3⟩,b4⟩,b5⟩,b6⟩:=hb;exact⟨by omega,by omega,λc=>by omega,λ_=>b4,λ_=>b5,λc=>by omega,λ_=>b6,λ_ _=>b1,λ_=>b2,λc=>absurd h c,λ_=>⟨b3,wU hb3⟩⟩
theorem zcj(N:Nat)(hN:200<=N)(f:zX)(s:Sp)(last:Bool)(h:Fg f last s):f246 N f (Zg s) last=some true:=by
 obtain⟨q1,q2,q3,q4,q5,q6,q7,q8,q9,qa,qb⟩:=h;have eN:∀l:List Int,len l=(l.length:Int):=λ_=>rfl
 have zf2:((cond (!(decide (s.act=6))) (some true) ((cond last (some (decide (0<(len s.bounds)))) (some false)).bind λzk2=>(cond zk2 (some (decide ((len s.bounds)<=32))) (some false)).bind λzk1=>(cond zk1 ((idx s.bounds 0).bind λPq=>some (decide (0<=Pq))) (some false)).bind λzk0=>(cond zk0 ((f303 N s.bounds).bind λLR=>some LR) (some false)).bind λzjz=>some zjz)).bind λzjy=>some zjy)=some true:=by
  by_cases h6:s.act=6
  ·obtain⟨b1,b2⟩:=qb h6;have c1:=b2.one;have c2:=b2.zar;have c3:=b2.first (by omega);rw[ju h6,show(!true)=false from rfl,zP,b1,zB,zK,ju (show 0<len s.bounds by rw[eN];omega),zB,zK,ju (show len s.bounds<=32 by rw[eN];omega),zB];rw[show idx s.bounds 0=some s.bounds[0] from zY (k:=0) (by omega),zK,ju c3,zK,zB,zc7 N hN _ b2];rfl
  ·rw[ql h6];rfl
 have n0:∀{I:Type}{l:List I},l=[]->decide (0<len l)=false:=λh=>by rw[h];rfl
 unfold f246 f299 f300 f301;simp only[Qw,gP,gid,zK];rw[show f302 N ((Zg s).2.2.2.2.1.1,(Zg s).2.2.2.2.1.2)=_ from zc8 N s.term];simp only[zK,gP];have e1:(decide (s.act<0)||decide (6<s.act))=false:=by simp only[VG,Qi];omega
 have e2:(!(decide (s.act=0)||decide (s.act=5)) && !decide (s.var=0))=false:=by
  by_cases h:s.act=0\/s.act=5
  ·have:(decide (s.act=0)||decide (s.act=5))=true:=by simpa using h
   rw[this];rfl
  ·rw[ju (q4 h)];simp
 have e3:(!(decide (s.act=4)||decide (s.act=5)) && !decide (s.n=0))=false:=by
  by_cases h:s.act=4\/s.act=5
  ·have:(decide (s.act=4)||decide (s.act=5))=true:=by simpa using h
   rw[this];rfl
  ·rw[ju (q5 h)];simp
 have e4:(!(((decide (s.act=0)||decide (s.act=1))||decide (s.act=3))||decide (s.act=4)) && !TO s.term)=false:=by
  by_cases h:s.act=2\/s.act=5\/s.act=6
  ·rw[q7 h];simp
  ·have:(((decide (s.act=0)||decide (s.act=1))||decide (s.act=3))||decide (s.act=4))=true:=by
    simp only[FX,ve];omega
   rw[this];rfl
 have e5:((!decide (s.act=3) && !decide (s.act=4))&&decide (0<len s.yW))=false:=by
  by_cases h3:s.act=3
  ·rw[ju h3];rfl
  by_cases h4:s.act=4
  ·rw[ju h4];simp
  ·rw[n0 (q8 h3 h4)];simp
 have e6:(!decide (s.act=3)&&decide (0<len s.ke))=false:=by
  by_cases h3:s.act=3
  ·rw[ju h3];rfl
  ·rw[n0 (q9 h3)];simp
 have e7:(!decide (s.act=6)&&decide (0<len s.bounds))=false:=by
  by_cases h3:s.act=6
  ·rw[ju h3];rfl
  ·rw[n0 (qa h3)];simp
 have e8:(cond (decide (s.act=0)||decide (s.act=5)) (cond (decide (s.var<0)||decide (len f.1<=s.var)) (some true) ((idx f.1 s.var).bind λx=>some (!decide (x.2.1=0)))) (some false))=some false:=by
  by_cases h:s.act=0\/s.act=5
  ·have:(decide (s.act=0)||decide (s.act=5))=true:=by simpa using h
   rw[this,zB,zat,q3 h];rfl
  ·have:(decide (s.act=0)||decide (s.act=5))=false:=by simpa using h
   rw[this];rfl
 have e9:(decide (s.act=5)&&(decide (s.n<0)||decide (len f.2.1<=s.n)))=false:=by
  by_cases h:s.act=5
  ·have:=q6 h;simp only[TK,VG,Qi];right;omega
  ·rw[ql h];rfl
 simp only[Qw,gP,gid,zK]at zf2;rw[e1,zP,e2,zP,e3,zP,e4,zP,e5,zP,e6,zP,e7,zP,e8,zK,zP,e9,zP];exact zf2
end Go.Kz
namespace Go.Kz
structure zkr (s:Sp):Prop where
 R3:0<=s.cost
 cost:s.cost<=67108864
 q5e:s.act≠2->s.cost<=10000
 n0:0<=s.n
 n:s.act=4->s.n<=4096
 bnd:∀h:0<s.bounds.length,s.bounds[s.bounds.length-1]<=(67108864:Int)
def zdu(f:zX)(last:Bool)(s:Sp):Prop:=Fg f last s/\zkr s/\PI f.1 false s.term
mutual
def stP(f:zX)(last:Bool):Sp->Prop
 |⟨a,c,v,n,t,x,y,b⟩=>zdu f last ⟨a,c,v,n,t,x,y,b⟩/\Zk f false x/\Zk f false y
def Zk(f:zX)(top:Bool):List Sp->Prop
 |[]=>True
 |s::l=>stP f (top&&l.isEmpty) s/\Zk f top l
end
theorem gO(f:zX)(last:Bool)(s:Sp):stP f last s↔zdu f last s/\Zk f false s.yW/\Zk f false s.ke:=by cases s;simp only[stP]
theorem gR{f:zX}{top:Bool}:∀{l:List Sp},Zk f top l->∀i (h:i<l.length),stP f (top&&decide (i+1=l.length)) l[i]
 |[],_,i,h=>by simp at h
 |s::l,hs,0,h=>by
  simp only[Zk]at hs;have:(decide (0+1=(s::l).length))=l.isEmpty:=by cases l<;>simp
  rw[this];exact hs.1
 |s::l,hs,i+1,h=>by
  simp only[Zk]at hs;have:=gR hs.2 i (by simpa using h);have e:decide (i+1+1=(s::l).length)=decide (i+1=l.length):=by simp
  rw[e];exact this
theorem Xw{f:zX}{top:Bool}:∀{l:List Sp},(∀i (h:i<l.length),stP f (top&&decide (i+1=l.length)) l[i])->Zk f top l
 |[],_=>by simp only[Zk]
 |s::l,hs=>by
  simp only[Zk];refine⟨?_,Xw λi h=>?_⟩
  ·have:=hs 0 (by simp);have e:(decide (0+1=(s::l).length))=l.isEmpty:=by cases l<;>simp
   rw[e]at this;exact this
  ·have:=hs (i+1) (by simpa using h);have e:decide (i+1+1=(s::l).length)=decide (i+1=l.length):=by simp
   rw[e]at this;exact this
theorem zmi{l:List Sp}{j:Nat}(hl:l.length<=100)(hj:j<l.length)(top:Bool):(cond top (some (decide ((j:Int)=zz (len l-1)))) (some false))=some (top&&decide (j+1=l.length)):=by
 have:zz (len l-1)=((l.length-1:Nat):Int):=by
  rw[show len l=(l.length:Int) from rfl,jJ (by omega) (by omega)]
 rw[gP,this];congr 2;by_cases h:j+1=l.length
 ·rw[ju h,ju];omega
 ·rw[ql h,ql];omega
theorem Ai(N:Nat)(hN:200<=N)(f:zX)(hr:∀v∈f.1,uS v):∀(M:Nat)(l:List Sp)(top:Bool),qM l<M->qM l<=100->zg (Ij N M f l top) λc=>c=0->Zk f top l
 |0,l,_,h,_=>by omega
 |M+1,l,top,h,ht=>by
  show zg (Ob N (Ij N M) f l top) _;have pB:=jN l;unfold Ob;refine zg.WW (λj=>∀i (h:i<l.length),i<j->stP f (top&&decide (i+1=l.length)) l[i]) l.length ?_ ?_ N 0 (jF _) (by omega) (λi h hi=>by omega)
  ·intro j w hj hinv hw;have hm:=vK (gU hj);have he:=v8 l[j];have htp:=qn l[j].term;simp only[Ke];rw[zM hj,zB,zY hj];simp only[zK];rw[zmi (by omega) hj,zK];refine zg.then (zck N hN f l[j] _) λb hb=>?_
   refine zg.cond (λ_=>zg.ret (by simp)) λwU=>?_
   simp only[Mo]at wU;have Bl:=hb wU;have fin:zkr l[j]->zg ((f156 N f.1 (l[j].5.1,(l[j].5.2,(l[j].5.3,()))) false).bind λqj=>
     cond (!(decide (qj=0))) (some qj) ((Ij N M f l[j].6 false).bind λqi=>
      cond (!(decide (qi=0))) (some qi) ((Ij N M f l[j].7 false).bind λjc=>
       cond (!(decide (jc=0))) (some jc) (w (zz ((j:Int)+1)))))) λc=>c=0->Zk f top l:=by
    intro My;refine zg.then (Oc N hN f.1 hr false l[j].term (by omega)) λc1 hc1=>?_
    refine zg.cond (λvg=>zg.ret λe=>by subst e;simp at vg) λe1=>?_
    refine zg.then (Ai N hN f hr M l[j].yW false (by omega) (by omega)) λc2 Uq=>?_
    refine zg.cond (λvg=>zg.ret λe=>by subst e;simp at vg) λe2=>?_
    refine zg.then (Ai N hN f hr M l[j].ke false (by omega) (by omega)) λc3 hc3=>?_
    refine zg.cond (λvg=>zg.ret λe=>by subst e;simp at vg) λe3=>?_
    simp only[Mo,ve]at e1 e2 e3;rw[zy (by omega)];refine hw λi h hi=>?_
    by_cases e:i=j
    ·subst e;exact(gO ..).2 ⟨⟨Bl,My,hc1 e1⟩,Uq e2,hc3 e3⟩
    ·exact hinv i h (by omega)
   have bnd:∀(K:Bool->Option Int),zg (K true) (λc=>c=0->Zk f top l)->((∀h:0<l[j].bounds.length,l[j].bounds[l[j].bounds.length-1]<=(67108864:Int))->zg (K false) λc=>c=0->Zk f top l)->
     zg ((cond (decide (0<(len l[j].8))) ((idx l[j].8 (zz ((len l[j].8)-1))).bind λyL=>some (decide (67108864<yL))) (some false)).bind K) λc=>c=0->Zk f top l:=by
    intro K k1 k2;by_cases h0:0<l[j].bounds.length
    ·by_cases hb:l[j].bounds.length<9223372036854775807
     ·rw[show decide (0<len l[j].8)=true from ju (by simp only[len];omega),zB,show len l[j].8=(l[j].bounds.length:Int) from rfl,jJ h0 (by omega),zY (show l[j].bounds.length-1<l[j].bounds.length by omega)];simp only[zK];by_cases hc:l[j].bounds[l[j].bounds.length-1]<=(67108864:Int)
      ·rw[ql (by omega)];exact k2 λ_=>hc
      ·rw[ju (by omega)];exact k1
     ·omega
    ·rw[show decide (0<len l[j].8)=false from ql (by simp only[len];omega),zP,zK];exact k2 λh=>absurd h h0
   simp only[Qw,gP,gid,zK];refine zg.cond (λh2=>?_) λh2=>?_
   ·have h2':=DA h2;refine zg.cond (λ_=>zg.ret (by simp)) λhc=>?_
    simp only[VG,TK,Qi]at hc;refine bnd (λb=>cond b (some 3) _) (zg.ret (by simp)) λhb=>fin ⟨by omega,by omega,λc=>absurd h2' c,by omega,λc=>by omega,hb⟩
   ·have h2':=TG h2;refine zg.cond (λ_=>zg.ret (by simp)) λhc=>?_
    simp only[VG,TK,Qi]at hc;refine bnd (λb=>cond b (some 3) _) (zg.ret (by simp)) λhb=>fin ⟨by omega,by omega,λ_=>by omega,by omega,λc=>by omega,hb⟩
  ·intro w hinv;simp only[Ke];rw[zC,zP];exact zg.ret λ_=>Xw λi h=>hinv i h h
theorem zci(N:Nat)(s:Sp)(f:zX)(last:Bool)(hs:Fg f last s)(h:zkr s):f247 N (Zg s)=some true:=by
 obtain⟨a1,a2,a3,a4,a5,a6⟩:=h;unfold f247;have e6:(cond (!decide (s.act=6)) (some true) ((idx s.bounds (zz (len s.bounds-1))).bind λx=>some (decide (x<=67108864))))=some true:=by
  by_cases h6:s.act=6
  ·have hb:=(hs.set h6).2;have h1:=hb.one;have h2:=hb.zar;rw[ju h6,show(!true)=false from rfl,zP,show len s.bounds=(s.bounds.length:Int) from rfl,jJ (by omega) (by omega),zY (show s.bounds.length-1<s.bounds.length by omega)];rw[zK,ju (a6 (by omega))]
  ·rw[ql h6];rfl
 simp only[Qw,gP,gid,zK];have en:(decide (s.act=4)&&(decide (s.n<0)||decide (4096<s.n)))=false:=by
  by_cases h4:s.act=4
  ·have:=a5 h4;simp only[TK,VG,Qi];right;omega
  ·rw[ql h4];rfl
 rw[en];by_cases h2:s.act=2
 ·rw[ju h2,zB];rw[show(decide (s.cost<0)||decide (67108864<s.cost))=false by simp only[VG,Qi];omega];exact e6
 ·have:=a3 h2;rw[ql h2,zP];rw[show(decide (s.cost<0)||decide (10000<s.cost))=false by simp only[VG,Qi];omega];exact e6
theorem Ae(N:Nat)(hN:200<=N)(f:zX)(hr:∀v∈f.1,uS v):∀(M:Nat)(l:List Sp)(top:Bool),qM l<M->qM l<=100->Zk f top l->z5h N M f l top=some 0
 |0,l,_,h,_,_=>by omega
 |M+1,l,top,h,ht,hs=>by
  show OR N (z5h N M) f l top=_;have pB:=jN l;unfold OR;refine zg.eq ?_;refine zg.WW (λ_=>True) l.length ?_ ?_ N 0 (jF _) (by omega) trivial
  ·intro j w hj _ hw;have hm:=vK (gU hj);have he:=v8 l[j];have htp:=qn l[j].term;obtain⟨⟨q1,q2,q3⟩,q4,q5⟩:=(gO ..).1 (gR hs j hj);simp only[Ka];rw[show decide ((j:Int)<len l)=true from zM hj,zB,zY hj];simp only[zK];rw[zmi (by omega) hj,zK];rw[show f246 N f (l[j].1,(l[j].2,(l[j].3,(l[j].4,((l[j].5.1,(l[j].5.2,(l[j].5.3,()))),(l[j].6,(l[j].7,(l[j].8,())))))))) _=some true from zcj N hN f l[j] _ q1];rw[show f247 N (l[j].1,(l[j].2,(l[j].3,(l[j].4,((l[j].5.1,(l[j].5.2,(l[j].5.3,()))),(l[j].6,(l[j].7,(l[j].8,()))))))))=some true from zci N l[j] f _ q1 q2];rw[show f245 N f.1 (l[j].5.1,(l[j].5.2,(l[j].5.3,()))) false=some 0 from Oj N hN f.1 hr false l[j].term (by omega) q3];simp only[zK,Gu,zP,Uo];refine zg.WW (λ_=>True) 2 ?_ ?_ N 0 (jF _) (by omega) trivial
   ·intro k w' hk _ QA;simp only[JT];have U9:k=0\/k=1:=by omega
    rcases U9 with rfl|rfl
    ·rw[show decide (((0:Nat):Int)<(((Nat.succ 1):Nat):Int))=true from rfl,zB];refine zg.zo rfl ?_;rw[show idx (l[j].6::(l[j].7::([]:List (List Sp)))) ((0:Nat):Int)=some l[j].yW from rfl,zK,Ae N hN f hr M l[j].yW false (by omega) (by omega) q4];exact QA trivial
    ·rw[show decide (((1:Nat):Int)<(((Nat.succ 1):Nat):Int))=true from rfl,zB];refine zg.zo rfl ?_;rw[show idx (l[j].6::(l[j].7::([]:List (List Sp)))) ((1:Nat):Int)=some l[j].ke from rfl,zK,Ae N hN f hr M l[j].ke false (by omega) (by omega) q5];exact QA trivial
   ·intro w' _;simp only[JT];rw[show decide (((2:Nat):Int)<(((Nat.succ 1):Nat):Int))=false from rfl,zP,zy (by omega)];exact hw trivial
  ·intro w _;simp only[Ka];rw[show decide (((l.length:Nat):Int)<len l)=false from zC _,zP];exact zg.ret rfl
end Go.Kz
namespace Go.Kz
mutual
def FQ:Sp->Int×(Int×Int)
 |⟨a,c,_,n,_,x,y,_⟩=>
  if a=1 then (1,1,c)
  else if a=3 then (1+max (qw x).1 (qw y).1,max (qw x).2.1 (qw y).2.1,c+max (qw x).2.2 (qw y).2.2)
  else if a=4 then (1+n*(1+(qw x).1),n*(0+(qw x).2.1),n*(c+(qw x).2.2))
  else (1,0,c)
def qw:List Sp->Int×(Int×Int)
 |[]=>(0,0,0)
 |s::l=>((FQ s).1+(qw l).1,(FQ s).2.1+(qw l).2.1,(FQ s).2.2+(qw l).2.2)
end
theorem Y1(s:Sp):FQ s=if s.act=1 then (1,1,s.cost)
  else if s.act=3 then (1+max (qw s.yW).1 (qw s.ke).1,max (qw s.yW).2.1 (qw s.ke).2.1,s.cost+max (qw s.yW).2.2 (qw s.ke).2.2)
  else if s.act=4 then (1+s.n*(1+(qw s.yW).1),s.n*(0+(qw s.yW).2.1),s.n*(s.cost+(qw s.yW).2.2))
  else (1,0,s.cost):=by cases s;simp only[FQ]
theorem um(l:List Sp)(s:Sp):qw (l++[s])=((qw l).1+(FQ s).1,(qw l).2.1+(FQ s).2.1,(qw l).2.2+(FQ s).2.2):=by
 induction l with
 |nil=>simp[qw]
 |cons x l ih=>simp only[QI,qw,ih,pv];omega
def Nn(x:Int×(Int×Int)):Prop:=0<=x.1/\0<=x.2.1/\0<=x.2.2
theorem kF(f:zX):∀(M:Nat)(l:List Sp)(top:Bool),qM l<M->Zk f top l->Nn (qw l)
 |0,l,_,h,_=>by omega
 |M+1,[],_,_,_=>by simp[qw,Nn]
 |M+1,s::l,top,h,hs=>by
  simp only[qM]at h;have he:=v8 s;have hp:=qn s.term;simp only[Zk]at hs;obtain⟨⟨q1,q2,q3⟩,q4,q5⟩:=(gO ..).1 hs.1;obtain⟨a1,a2,a3⟩:=kF f M s.yW false (by omega) q4;obtain⟨b1,b2,b3⟩:=kF f M s.ke false (by omega) q5;obtain⟨c1,c2,c3⟩:=kF f M l top (by omega) hs.2;have d1:=q2.R3;have d2:=q2.n0;have m1:0<=s.n*(1+(qw s.yW).1):=C4 d2 (by omega);have m2:0<=s.n*(0+(qw s.yW).2.1):=C4 d2 (by omega);have m3:0<=s.n*(s.cost+(qw s.yW).2.2):=C4 d2 (by omega);simp only[qw,Nn];rw[Y1];split
  ·simp only;omega
  split
  ·simp only;omega
  split
  ·simp only;omega
  ·simp only;omega
theorem GV(f:zX)(last:Bool)(s:Sp)(h:stP f last s):Nn (FQ s):=by
 have:=kF f (qM [s]+1) [s] last (by omega) (by simp only[Zk,Z5g,Z42];exact⟨h,trivial⟩);simp only[qw,Nn]at this⊢;omega
theorem Ji{n c p k:Int}(hn:0<=n)(hc:0<=c)(hp:0<=p)(hk:0<=k):min (n*(c+min p k)) k=min (n*(c+p)) k:=by
 by_cases h:p<=k
 ·rw[show min p k=p by omega]
 ·rw[show min p k=k by omega];by_cases h0:n=0
  ·subst h0;simp
  ·have e1:c+k<=n*(c+k):=by
    have:=Z3a (show(1:Int)<=n by omega) (show 0<=c+k by omega);omega
   have e2:c+p<=n*(c+p):=by
    have:=Z3a (show(1:Int)<=n by omega) (show 0<=c+p by omega);omega
   omega
theorem ua{n x B:Int}(h0:0<=n)(h1:n<=4096)(hx:0<=x)(hB:x<=B):0<=n*x/\n*x<=4096*B:=by
 refine⟨C4 h0 hx,?_⟩;exact Z2f h1 hB hx (by omega)
theorem Kw(N:Nat)(hN:200<=N)(f:zX):∀(M:Nat)(l:List Sp)(top:Bool),qM l<M->qM l<=100->Zk f top l->zjr N M l=some (min (qw l).1 4097,(min (qw l).2.1 9,min (qw l).2.2 67108865))
 |0,l,_,h,_,_=>by omega
 |M+1,l,top,h,ht,hs=>by
  show zbz N (zjr N M) l=_;have pB:=jN l;unfold zbz;refine zg.eq ?_;refine zg.up (λj s=>s=(min (qw (l.take j)).2.2 67108865,(min (qw (l.take j)).2.1 9,min (qw (l.take j)).1 4097))/\Nn (qw (l.take j))) l.length ?_ ?_ N 0 (jF _) (by omega) _ ⟨by simp only[Z1z,qw,pv,Fy];omega,by simp[qw,Nn]⟩
  ·rintro j s w hj ⟨rfl,n1,n2,n3⟩ hw;have hm:=vK (gU hj);have he:=v8 l[j];have htp:=qn l[j].term;have zj:=gR hs j hj;have Qn:=GV f _ _ zj;obtain⟨⟨q1,q2,q3⟩,q4,q5⟩:=(gO ..).1 zj;obtain⟨a1,a2,a3⟩:=kF f _ l[j].yW false (BV _) q4;obtain⟨b1,b2,b3⟩:=kF f _ l[j].ke false (BV _) q5;have d1:=q2.R3;have d2:=q2.n0;have d3:=q2.cost;have YO:=um (l.take j) l[j];rw[<-zl hj]at YO;simp only[Uk];rw[zM hj,zB,zY hj];simp only[zK];rw[Kw N hN f M l[j].yW false (by omega) (by omega) q4,Kw N hN f M l[j].ke false (by omega) (by omega) q5];simp only[zK,Qu,Jh];have hnn:Nn (qw (l.take (j+1))):=by
    obtain⟨u1,u2,u3⟩:=Qn;rw[YO];simp only[Nn];omega
   have step:∀t o n:Int,t=min (qw (l.take (j+1))).2.2 67108865->o=min (qw (l.take (j+1))).2.1 9->n=min (qw (l.take (j+1))).1 4097->zg (w (zz ((j:Int)+1),(t,(o,n)))) λy=>y=(min (qw l).1 4097,(min (qw l).2.1 9,min (qw l).2.2 67108865)):=by
    intro t o n e1 e2 e3;rw[zy (by omega)];exact hw _ ⟨by rw[e1,e2,e3],hnn⟩
   rw[YO]at step;simp only at step;rw[Y1]at step;by_cases h4:l[j].act=4
   ·have d4:=q2.n h4;rw[ju h4,zB,ql (show ¬l[j].act=1 by omega),zP];rw[qW (show ¬l[j].act=1 by omega),qW (show ¬l[j].act=3 by omega),yX h4]at step;obtain⟨m1,m2⟩:=ua (x:=1+min (qw l[j].yW).1 4097) (B:=4098) d2 d4 (by omega) (by omega);obtain⟨m3,m4⟩:=ua (x:=min (qw l[j].yW).2.1 9) (B:=9) d2 d4 (by omega) (by omega);obtain⟨m5,m6⟩:=ua (x:=l[j].cost+min (qw l[j].yW).2.2 67108865) (B:=134217729) d2 d4 (by omega) (by omega);rw[zx (n:=1+min (qw l[j].yW).1 4097) (by omega) (by omega),zx (n:=l[j].n*(1+min (qw l[j].yW).1 4097)) (by omega) (by omega),zx (n:=1+l[j].n*(1+min (qw l[j].yW).1 4097)) (by omega) (by omega),zx (n:=min (qw (l.take j)).1 4097+(1+l[j].n*(1+min (qw l[j].yW).1 4097))) (by omega) (by omega)];rw[zx (n:=l[j].n*min (qw l[j].yW).2.1 9) (by omega) (by omega),zx (n:=min (qw (l.take j)).2.1 9+l[j].n*min (qw l[j].yW).2.1 9) (by omega) (by omega)];rw[zx (n:=l[j].cost+min (qw l[j].yW).2.2 67108865) (by omega) (by omega),zx (n:=l[j].n*(l[j].cost+min (qw l[j].yW).2.2 67108865)) (by omega) (by omega),zx (n:=min (qw (l.take j)).2.2 67108865+l[j].n*(l[j].cost+min (qw l[j].yW).2.2 67108865)) (by omega) (by omega)];have c1:=Ji (n:=l[j].n) (c:=1) (p:=(qw l[j].yW).1) (k:=4097) d2 (by omega) a1 (by omega);have c2:=Ji (n:=l[j].n) (c:=0) (p:=(qw l[j].yW).2.1) (k:=9) d2 (by omega) a2 (by omega);have c3:=Ji (n:=l[j].n) (c:=l[j].cost) (p:=(qw l[j].yW).2.2) (k:=67108865) d2 d1 a3 (by omega);rw[show(0:Int)+min (qw l[j].yW).2.1 9=min (qw l[j].yW).2.1 9 by omega]at c2;have g1:0<=l[j].n*(1+(qw l[j].yW).1):=C4 d2 (by omega);have g2:0<=l[j].n*(0+(qw l[j].yW).2.1):=C4 d2 (by omega);have g3:0<=l[j].n*(l[j].cost+(qw l[j].yW).2.2):=C4 d2 (by omega);refine step _ _ _ ?_ ?_ ?_<;>simp only<;>omega
   ·rw[ql h4,zP];by_cases h1:l[j].act=1
    ·have z1:=q1.yW (by omega) (by omega);have z2:=q1.ke (by omega);rw[ju h1,zB];rw[yX h1]at step;rw[z1,z2];simp only[qw];rw[zx (n:=1+max (min 0 4097) (min 0 4097)) (by omega) (by omega),zx (n:=min (qw (l.take j)).1 4097+(1+max (min 0 4097) (min 0 4097))) (by omega) (by omega),zx (n:=min (qw (l.take j)).2.1 9+1) (by omega) (by omega),zx (n:=l[j].cost+max (min 0 67108865) (min 0 67108865)) (by omega) (by omega),zx (n:=min (qw (l.take j)).2.2 67108865+(l[j].cost+max (min 0 67108865) (min 0 67108865))) (by omega) (by omega)];refine step _ _ _ ?_ ?_ ?_<;>simp only<;>omega
    ·rw[ql h1,zP];rw[zx (n:=1+max (min (qw l[j].yW).1 4097) (min (qw l[j].ke).1 4097)) (by omega) (by omega),zx (n:=min (qw (l.take j)).1 4097+(1+max (min (qw l[j].yW).1 4097) (min (qw l[j].ke).1 4097))) (by omega) (by omega),zx (n:=min (qw (l.take j)).2.1 9+max (min (qw l[j].yW).2.1 9) (min (qw l[j].ke).2.1 9)) (by omega) (by omega),zx (n:=l[j].cost+max (min (qw l[j].yW).2.2 67108865) (min (qw l[j].ke).2.2 67108865)) (by omega) (by omega),zx (n:=min (qw (l.take j)).2.2 67108865+(l[j].cost+max (min (qw l[j].yW).2.2 67108865) (min (qw l[j].ke).2.2 67108865))) (by omega) (by omega)];rw[qW h1]at step;by_cases h3:l[j].act=3
     ·rw[yX h3]at step;refine step _ _ _ ?_ ?_ ?_<;>simp only<;>omega
     ·have z1:=q1.yW h3 h4;have z2:=q1.ke h3;rw[qW h3,qW h4]at step;rw[z1,z2];simp only[qw];refine step _ _ _ ?_ ?_ ?_<;>simp only<;>omega
  ·rintro s w ⟨rfl,_⟩;simp only[Uk];rw[show decide (((l.length:Nat):Int)<len l)=false from zC _,zP,G9];exact zg.ret rfl
@[reducible] def much:Int:=1099511627776
theorem KR(N:Nat)(hN:200<=N)(f:zX):∀(M:Nat)(l:List Sp)(top:Bool),qM l<M->qM l<=100->Zk f top l->z5f N M l=some (min (qw l).1 1099511627776,(min (qw l).2.1 1099511627776,(min (qw l).2.2 1099511627776,())))
 |0,l,_,h,_,_=>by omega
 |M+1,l,top,h,ht,hs=>by
  show z5g N (z5f N M) l=_;have pB:=jN l;unfold z5g El;refine zg.eq ?_;refine zg.up (λj s=>s=(min (qw (l.take j)).1 1099511627776,(min (qw (l.take j)).2.1 1099511627776,(min (qw (l.take j)).2.2 1099511627776,())))/\Nn (qw (l.take j))) l.length ?_ ?_ N 0 (jF _) (by omega) _ ⟨by simp only[Z1z,qw,pv,Fy];omega,by simp[qw,Nn]⟩
  ·rintro j s w hj ⟨rfl,n1,n2,n3⟩ hw;have hm:=vK (gU hj);have he:=v8 l[j];have htp:=qn l[j].term;have zj:=gR hs j hj;have Qn:=GV f _ _ zj;obtain⟨⟨q1,q2,q3⟩,q4,q5⟩:=(gO ..).1 zj;obtain⟨a1,a2,a3⟩:=kF f _ l[j].yW false (BV _) q4;obtain⟨b1,b2,b3⟩:=kF f _ l[j].ke false (BV _) q5;have d1:=q2.R3;have d2:=q2.n0;have d3:=q2.cost;have YO:=um (l.take j) l[j];rw[<-zl hj]at YO;simp only[KS,idB];rw[show decide ((j:Int)<len l)=true from zM hj,zB,zY hj];simp only[zK];rw[KR N hN f M l[j].yW false (by omega) (by omega) q4,KR N hN f M l[j].ke false (by omega) (by omega) q5];simp only[zK,Wi,Wl];have hnn:Nn (qw (l.take (j+1))):=by
    obtain⟨u1,u2,u3⟩:=Qn;rw[YO];simp only[Nn];omega
   have step:∀n o t:Int,n=min (qw (l.take (j+1))).1 1099511627776->o=min (qw (l.take (j+1))).2.1 1099511627776->t=min (qw (l.take (j+1))).2.2 1099511627776->zg (w (zz ((j:Int)+1),(n,(o,(t,()))))) λy=>y=(min (qw l).1 1099511627776,(min (qw l).2.1 1099511627776,(min (qw l).2.2 1099511627776,()))):=by
    intro t o n e1 e2 e3;rw[zy (by omega)];exact hw _ ⟨by rw[e1,e2,e3],hnn⟩
   rw[YO]at step;simp only at step;rw[Y1]at step;by_cases h1:l[j].act=1
   ·rw[ju h1,zB];rw[yX h1]at step;rw[zx (n:=min (qw (l.take j)).1 1099511627776+1) (by omega) (by omega),zx (n:=min (qw (l.take j)).2.1 1099511627776+1) (by omega) (by omega),zx (n:=min (qw (l.take j)).2.2 1099511627776+l[j].cost) (by omega) (by omega)];refine step _ _ _ ?_ ?_ ?_<;>simp only<;>omega
   rw[ql h1,zP];rw[qW h1]at step;by_cases h3:l[j].act=3
   ·rw[ju h3,zB];rw[yX h3]at step;rw[zx (n:=1+max (min (qw l[j].yW).1 1099511627776) (min (qw l[j].ke).1 1099511627776)) (by omega) (by omega),zx (n:=min (qw (l.take j)).1 1099511627776+(1+max (min (qw l[j].yW).1 1099511627776) (min (qw l[j].ke).1 1099511627776))) (by omega) (by omega),zx (n:=min (qw (l.take j)).2.1 1099511627776+max (min (qw l[j].yW).2.1 1099511627776) (min (qw l[j].ke).2.1 1099511627776)) (by omega) (by omega),zx (n:=l[j].cost+max (min (qw l[j].yW).2.2 1099511627776) (min (qw l[j].ke).2.2 1099511627776)) (by omega) (by omega),zx (n:=min (qw (l.take j)).2.2 1099511627776+(l[j].cost+max (min (qw l[j].yW).2.2 1099511627776) (min (qw l[j].ke).2.2 1099511627776))) (by omega) (by omega)];refine step _ _ _ ?_ ?_ ?_<;>simp only<;>omega
   rw[ql h3,zP];rw[qW h3]at step;by_cases h4:l[j].act=4
   ·have d4:=q2.n h4;rw[ju h4,zB];rw[yX h4]at step;obtain⟨m1,m2⟩:=ua (x:=1+min (qw l[j].yW).1 1099511627776) (B:=1099511627777) d2 d4 (by omega) (by omega);obtain⟨m3,m4⟩:=ua (x:=min (qw l[j].yW).2.1 1099511627776) (B:=1099511627776) d2 d4 (by omega) (by omega);obtain⟨m5,m6⟩:=ua (x:=l[j].cost+min (qw l[j].yW).2.2 1099511627776) (B:=1099578736640) d2 d4 (by omega) (by omega);rw[zx (n:=1+min (qw l[j].yW).1 1099511627776) (by omega) (by omega),zx (n:=l[j].n*(1+min (qw l[j].yW).1 1099511627776)) (by omega) (by omega),zx (n:=1+l[j].n*(1+min (qw l[j].yW).1 1099511627776)) (by omega) (by omega),zx (n:=min (qw (l.take j)).1 1099511627776+(1+l[j].n*(1+min (qw l[j].yW).1 1099511627776))) (by omega) (by omega)];rw[zx (n:=l[j].n*min (qw l[j].yW).2.1 1099511627776) (by omega) (by omega),zx (n:=min (qw (l.take j)).2.1 1099511627776+l[j].n*min (qw l[j].yW).2.1 1099511627776) (by omega) (by omega)];rw[zx (n:=l[j].cost+min (qw l[j].yW).2.2 1099511627776) (by omega) (by omega),zx (n:=l[j].n*(l[j].cost+min (qw l[j].yW).2.2 1099511627776)) (by omega) (by omega),zx (n:=min (qw (l.take j)).2.2 1099511627776+l[j].n*(l[j].cost+min (qw l[j].yW).2.2 1099511627776)) (by omega) (by omega)];have c1:=Ji (n:=l[j].n) (c:=1) (p:=(qw l[j].yW).1) (k:=1099511627776) d2 (by omega) a1 (by omega);have c2:=Ji (n:=l[j].n) (c:=0) (p:=(qw l[j].yW).2.1) (k:=1099511627776) d2 (by omega) a2 (by omega);have c3:=Ji (n:=l[j].n) (c:=l[j].cost) (p:=(qw l[j].yW).2.2) (k:=1099511627776) d2 d1 a3 (by omega);rw[show(0:Int)+min (qw l[j].yW).2.1 1099511627776=min (qw l[j].yW).2.1 1099511627776 by omega]at c2;have g1:0<=l[j].n*(1+(qw l[j].yW).1):=C4 d2 (by omega);have g2:0<=l[j].n*(0+(qw l[j].yW).2.1):=C4 d2 (by omega);have g3:0<=l[j].n*(l[j].cost+(qw l[j].yW).2.2):=C4 d2 (by omega);refine step _ _ _ ?_ ?_ ?_<;>simp only<;>omega
   rw[ql h4,zP];rw[qW h4]at step;rw[zx (n:=min (qw (l.take j)).1 1099511627776+1) (by omega) (by omega),zx (n:=min (qw (l.take j)).2.1 1099511627776+0) (by omega) (by omega),zx (n:=min (qw (l.take j)).2.2 1099511627776+l[j].cost) (by omega) (by omega)];refine step _ _ _ ?_ ?_ ?_<;>simp only<;>omega
  ·rintro s w ⟨rfl,_⟩;simp only[KS,idB];rw[show decide (((l.length:Nat):Int)<len l)=false from zC _,zP,G9];exact zg.ret rfl
structure zsc (f:zX) (i:Nat) (h:BX):Prop where
 name:Vp h.1=true
 new:∀j (hj:j<f.2.1.length),j<i->f.2.1[j].1≠h.1
 Z0:LD h.2.1 h.2.2.1=true
 term:PI f.1 true (Ps h.2.2.2.1)
structure WF (f:zX):Prop where
 deep:zga f
 vars:u6 f.1
 EP:∀i (h:i<f.2.1.length),zsc f i f.2.1[i]
 steps:Zk f true f.2.2.1
 ub1:(qw f.2.2.1).1<=4096
 ub2:(qw f.2.2.1).2.1<=8
 ub3:(qw f.2.2.1).2.2<=67108864
theorem zjk(N:Nat)(hN:200<=N)(f:zX)(hf:zdv f):zg (f66 N f) λc=>c=0->WF f:=by
 obtain⟨g1,g2,g3⟩:=id hf;unfold f66;refine zg.then (zcu N hN f hf) λb hb=>?_
 refine zg.cond (λ_=>zg.ret (by simp)) λwU=>?_
 simp only[Mo]at wU;have hd:=hb wU;refine zg.then (zct N hN f.1 g1) λc hc=>?_
 refine zg.cond (λvg=>zg.ret λe=>by subst e;simp at vg) λhe=>?_
 simp only[Mo,ve]at he;have hv:=hc he;refine zg.WW (λj=>∀i (h:i<f.2.1.length),i<j->zsc f i f.2.1[i]) f.2.1.length ?_ ?_ N 0 (jF _) (by omega) (λi h hi=>by omega)
 ·intro k w hk hinv hw;have hz:qG f.2.1[k]<=pJ f.2.1:=pS (gU hk);simp only[qG]at hz;simp only[EL];rw[show decide ((k:Int)<len f.2.1)=true from zM hk,zB,zY hk];simp only[zK];rw[Oe N hN];simp only[zK];refine zg.cond (λ_=>zg.ret (by simp)) λZq=>?_
  refine zg.WW (λj=>∀i (h:i<f.2.1.length),i<j->f.2.1[i].1≠f.2.1[k].1) k ?_ ?_ N 0 (jF _) (by omega) (λi h hi=>by omega)
  ·intro j w' hj AY QA;simp only[Uv];have:decide ((j:Int)<(k:Int))=true:=by simpa using hj
   rw[this,zB,zY (show j<f.2.1.length by omega)];simp only[zK];refine zg.cond (λ_=>zg.ret (by simp)) λvg=>?_
   rw[zy (by omega)];refine QA λi h hi=>?_
   by_cases e:i=j
   ·subst e;exact TG vg
   ·exact AY i h (by omega)
  ·intro w' AY;simp only[Uv];rw[zrd k,zP];simp only[zK,Od];refine zg.cond (λ_=>zg.ret (by simp)) λhr=>?_
   refine zg.then (Oc N hN f.1 hv.Z0 true (Ps f.2.1[k].2.2.2.1) (by omega)) λc1 hc1=>?_
   refine zg.cond (λvg=>zg.ret λe=>by subst e;simp at vg) λhe1=>?_
   simp only[Mo,ve]at he1 Zq hr;rw[zy (by omega)];refine hw λi h wm=>?_
   by_cases e:i=k
   ·subst e;exact⟨Zq,λj h hj=>AY j h hj,hr,hc1 he1⟩
   ·exact hinv i h (by omega)
 ·intro w hinv;simp only[EL];rw[show decide (((f.2.1.length:Nat):Int)<len f.2.1)=false from zC _,zP];refine zg.then (Ai N hN f hv.Z0 N f.2.2.1 true (by omega) (by omega)) λc2 Uq=>?_
  refine zg.cond (λvg=>zg.ret λe=>by subst e;simp at vg) λhe2=>?_
  simp only[Mo,ve]at he2;have hs:=Uq he2;rw[show f43 N f.2.2.1=_ from Kw N hN f N f.2.2.1 true (by omega) (by omega) hs];simp only[zK,Qw];refine zg.cond (λ_=>zg.ret (by simp)) λhb3=>zg.ret λ_=>?_
  simp only[VG,Qi]at hb3;obtain⟨n1,n2,n3⟩:=kF f _ f.2.2.1 true (BV _) hs;exact⟨hd,hv,λi h=>hinv i h h,hs,by omega,by omega,by omega⟩
theorem SS(N:Nat)(hN:200<=N)(vs:List BX)(hl:vs.length<=10)(x:BX)(h:∀j (hj:j<vs.length),vs[j].1≠x.1):f296 N vs (x,())=some (-1):=by
 refine zg.eq ?_;unfold f296;refine zg.WW (λ_=>True) vs.length ?_ ?_ N 0 (jF _) (by omega) trivial
 ·intro k w hk _ hw;simp only[UZ];rw[show decide ((k:Int)<len vs)=true from zM hk,zB,zY hk];simp only[zK,f243];rw[ql (h k hk),zP,zy (by omega)];exact hw trivial
 ·intro w _;simp only[UZ];rw[show decide (((vs.length:Nat):Int)<len vs)=false from zC _,zP];exact zg.ret rfl
theorem zcr(N:Nat)(hN:200<=N)(f:zX)(h:WF f):f162 N f=some 0:=by
 obtain⟨g1,g2,g3⟩:=h.deep.FU;refine zg.eq ?_;unfold f162;refine zg.WW (λ_=>True) f.2.1.length ?_ ?_ N 0 (jF _) (by omega) trivial
 ·intro k w hk _ hw;have hz:qG f.2.1[k]<=pJ f.2.1:=pS (gU hk);simp only[qG]at hz;obtain⟨q1,q2,q3,q4⟩:=h.EP k hk;simp only[UE];rw[show decide ((k:Int)<len f.2.1)=true from zM hk,zB,zY hk];simp only[zK];rw[Ow N hN,zK,q1];rw[show(!true)=false from rfl,zP,zu (by simp only[zA,ve,len];omega),zmz];unfold f244;rw[SS N hN (f.2.1.take k) (by rw[Us];omega) f.2.1[k] (λj hj=>by
   have Zy:j<k:=by rw[Us]at hj;omega
   rw[Z35];exact q2 j (by omega) Zy)]
  simp only[zK,Ov];rw[show decide ((0:Int)<=-1)=false from rfl,zP,q3];rw[show(!true)=false from rfl,zP];rw[show f245 N f.1 (f.2.1[k].2.2.2.1.1,f.2.1[k].2.2.2.1.2) true=some 0 from Oj N hN f.1 h.vars.Z0 true (Ps f.2.1[k].2.2.2.1) (by omega) q4];simp only[zK,Uo,Gu,zP];rw[zy (by omega)];exact hw trivial
 ·intro w _;simp only[UE];rw[show decide (((f.2.1.length:Nat):Int)<len f.2.1)=false from zC _,zP];exact zg.ret rfl
theorem Gt(N:Nat)(hN:200<=N)(f:zX)(h:WF f):f69 N f=some 0:=by
 obtain⟨g1,g2,g3⟩:=h.deep.FU;have h8:=h.deep.zfl;have hd:=h.deep.steps;refine zg.eq ?_;unfold f69;refine zg.then (Ah N hN N f.2.2.1 1 0 (by omega) (by omega) (by omega) (λ_=>by omega) h.deep.zek (by omega) (by omega)) ?_;rintro _ ⟨n',rfl,c1,c2⟩;refine zg.up (λj s=>∃m:Int,s=Z3 m/\0<=m/\m<=qM f.2.2.1+pJ (f.2.1.take j)) f.2.1.length ?_ ?_ N 0 (jF _) (by omega) _ ⟨n',rfl,by omega,by simp[pJ];omega⟩
 ·rintro j s w hj ⟨m,rfl,d1,d2⟩ hw;have Pa:qG f.2.1[j]<=pJ f.2.1:=pS (gU hj);simp only[qG]at Pa;have t1:=YN hj;have t2:=Eu f.2.1 (j+1);simp only[qG]at t1;have hdp:=h.deep.EP _ (gU hj);simp only[EF];rw[show decide ((j:Int)<len f.2.1)=true from zM hj,zB,zY hj];simp only[zK];rw[UH N m (by omega)];simp only[zK,Z40,zB];rw[show f160 N (f.2.1[j].2.2.2.1.1,f.2.1[j].2.2.2.1.2) 1 (Z3 m)=_ from Af N hN N (Ps f.2.1[j].2.2.2.1) 1 m (by omega) (by omega) (by omega) (by omega) (by omega) (by omega)];simp only[zK];rw[zy (by omega)];exact hw _ ⟨_,rfl,by omega,by omega⟩
 ·rintro s w ⟨m,rfl,d1,d2⟩;rw[G9]at d2;simp only[EF];rw[show decide (((f.2.1.length:Nat):Int)<len f.2.1)=false from zC _,zP];rw[Qw,zK,show(decide (64<len f.1)||decide (8<len f.2.1))=false by simp only[VG,Qi,len];omega,zP];rw[UH N m (by omega)];simp only[zK,zP];rw[zcs N hN h.vars,zcr N hN f h];simp only[zK,Uo,Gu,zP];rw[show f163 N f f.2.2.1 true=_ from Ae N hN f h.vars.Z0 N f.2.2.1 true (by omega) (by omega) h.steps];simp only[zK,Uo,Gu,zP];rw[show f164 N f.2.2.1=_ from KR N hN f N f.2.2.1 true (by omega) (by omega) h.steps];simp only[zK,Qw];have:=h.ub1;have:=h.ub2;have:=h.ub3;obtain⟨n1,n2,n3⟩:=kF f _ f.2.2.1 true (BV _) h.steps;rw[show((decide (4096<min (qw f.2.2.1).1 1099511627776)||decide (8<min (qw f.2.2.1).2.1 1099511627776))||decide (67108864<min (qw f.2.2.1).2.2 1099511627776))=false by simp only[VG,Qi];omega,zP];exact zg.ret rfl
end Go.Kz
namespace Go.Kz
def z62(op a b:Int):Int:=(f306 0 op a b).getD 0
theorem IY(N:Nat)(a b:Int):∃r,f341 N a b=some r/\f370 N a b=some r:=by
 unfold f341 f370;by_cases h:b=0
 ·rw[ju h];exact⟨0,rfl,rfl⟩
 ·rw[ql h];simp only[zP,gP,zK];cases (!decide (Int.tmod a b=0) && !decide (decide (a<0)=decide (b<0)))<;>exact⟨_,rfl,rfl⟩
theorem z2c(N:Nat)(a b:Int):∃r,f342 N a b=some r/\f371 N a b=some r:=by
 obtain⟨r,h1,h2⟩:=IY N a b;unfold f342 f371;rw[h1,h2];cases decide (b=0)<;>exact⟨_,rfl,rfl⟩
theorem IU(N:Nat)(op a b:Int):∃r,f306 N op a b=some r/\f358 N op a b=some r:=by
 obtain⟨q,h1,h2⟩:=IY N a b;obtain⟨m,h3,h4⟩:=z2c N a b;have fl:∀c:Bool,f305 N c=some (cond c 1 0)/\f278 N c=some (cond c 1 0):=λc=>by cases c<;>exact⟨rfl,rfl⟩
 unfold f306 f358;rw[h1,h2,h3,h4];simp only[Qw,gP,zK,(fl _).1,(fl _).2,Jh,Qu,Wi,Wl];cases decide (op=8)
 ·cases decide (op=9)
  ·cases decide (op=10)
   ·cases decide (op=11)
    ·cases decide (op=12)
     ·cases decide (op=13)
      ·cases decide (op=14)
       ·cases decide (op=15)
        ·cases decide (op=16)
         ·cases decide (op=17)
          ·cases decide (op=18)
           ·cases decide (op=19)
            ·cases decide (op=20)
             ·cases decide (op=21)<;>exact⟨_,rfl,rfl⟩
             ·exact⟨_,rfl,rfl⟩
            ·exact⟨_,rfl,rfl⟩
           ·exact⟨_,rfl,rfl⟩
          ·exact⟨_,rfl,rfl⟩
         ·exact⟨_,rfl,rfl⟩
        ·exact⟨_,rfl,rfl⟩
       ·exact⟨_,rfl,rfl⟩
      ·exact⟨_,rfl,rfl⟩
     ·exact⟨_,rfl,rfl⟩
    ·exact⟨_,rfl,rfl⟩
   ·exact⟨_,rfl,rfl⟩
  ·exact⟨_,rfl,rfl⟩
 ·exact⟨_,rfl,rfl⟩
theorem zc6(N:Nat)(op a b:Int):f306 N op a b=some (z62 op a b):=by
 obtain⟨r,h1,_⟩:=IU N op a b;have:f306 0 op a b=f306 N op a b:=rfl;rw[h1,z62,this,h1];rfl
theorem zc1(N:Nat)(op a b:Int):f358 N op a b=some (z62 op a b):=by
 obtain⟨r,h1,h2⟩:=IU N op a b;have:f306 0 op a b=f306 N op a b:=rfl;rw[h2,z62,this,h1];rfl
def kM(n low high:Int):Int:=if n<low then low else if high<n then high else n
theorem ER(N:Nat)(n low high:Int):f331 N n low high=some (kM n low high):=by
 unfold f331 kM;by_cases h1:n<low
 ·rw[ju h1,yX h1];rfl
 ·rw[ql h1,qW h1,zP];by_cases h2:high<n
  ·rw[ju h2,yX h2];rfl
  ·rw[ql h2,qW h2];rfl
theorem Eb(N:Nat)(n low high:Int)(h:low<=high):f248 N n low high=some (kM n low high):=by
 unfold f248 kM;rw[Wi,Wl];congr 1;split
 ·omega
 split<;>omega
def NP(vals:List Int)(op n:Int)(l:List Int):Int:=
 if op=0 then n
 else if op=24 then vals.getD n.toNat 0
 else if op=6 then zz (0-l.getD 0 0)
 else if op=7 then (if l.getD 0 0=0 then 1 else 0)
 else if op=23 then (if l.getD 0 0=0 then l.getD 2 0 else l.getD 1 0)
 else if op=25 then l.getD (1+(kM (l.getD 0 0) 0 (l.length-2)).toNat) 0
 else z62 op (l.getD 0 0) (l.getD 1 0)
mutual
def wJ(vals:List Int):Tm->Int
 |⟨op,n,ks⟩=>NP vals op n (z9n vals ks)
def z9n(vals:List Int):List Tm->List Int
 |[]=>[]
 |k::ks=>wJ vals k::z9n vals ks
end
theorem FL(vals:List Int):∀l:List Tm,z9n vals l=l.map (wJ vals)
 |[]=>rfl
 |k::ks=>by simp only[z9n,PE,FL vals ks]
theorem z9m(vals:List Int)(t:Tm):wJ vals t=NP vals t.op t.n (t.kids.map (wJ vals)):=by
 cases t;simp only[wJ,FL]
theorem getD_map{vals:List Int}{l:List Tm}{k:Nat}(h:k<l.length):(l.map (wJ vals)).getD k 0=wJ vals l[k]:=by
 rw[FA,Z2d,uX h];rfl
theorem Head.bin{vs:List qU}{op n:Int}{I:Type}{l:List I}(h:Head vs op n l.length)(h0:¬op=0)(xf:¬op=24)(h6:¬op=6)(h7:¬op=7)(AG:¬op=23)(AK:¬op=25):2<=l.length:=by
 have:=h.ar;simp only[wD]at this;by_cases hm:8<=op/\op<=22
 ·obtain⟨p,q,rfl⟩:=h.two hm;simp
 ·rw[qW (by omega),qW (by omega),qW hm,qW AG,qW AK]at this;simp[Lk]at this
theorem FI(N:Nat)(hN:200<=N)(vs:List qU)(vX:Bool)(vals:List Int)(hv:vals.length=vs.length):∀(M:Nat)(t:Tm),uA t<=M->uA t<=100->AB vs vX t=true->ZR N M vals (w7 t)=some (wJ vals t)/\O6 N M vals (w7 t)=some (wJ vals t)
 |0,t,h,_,_=>by have:=qn t;omega
 |M+1,t,h,ht,hf=>by
  have qG:=gY t;have pB:=w6 t.kids;rw[Gs,zA,Z2m]at hf;obtain⟨hhd,hkf⟩:=hf;have hh:=Vm hhd;have kid:∀k (hk:k<t.kids.length),ZR N M vals (t.kids[k].1,(t.kids[k].2,(t.kids[k].3,())))=some (wJ vals t.kids[k])/\O6 N M vals (t.kids[k].1,(t.kids[k].2,(t.kids[k].3,())))=some (wJ vals t.kids[k]):=λk hk=>by
   have hm:=w5 (gU hk);exact FI N hN vs vX vals hv M t.kids[k] (by omega) (by omega) (hkf _ (gU hk))
  have Ey:∀k (hk:k<t.kids.length),f304 N (ZR N M) (k:Int) vals (w7 t)=some (wJ vals t.kids[k]):=λk hk=>by
   unfold f304;rw[show idx (w7 t).2.2.1 (k:Int)=some t.kids[k] from zY hk,zK,(kid k hk).1];rfl
  have ix:∀k (hk:k<t.kids.length),idx (w7 t).2.2.1 (k:Int)=some t.kids[k]:=λk hk=>zY hk
  rw[z9m];constructor
  ·show Oy N (ZR N M) vals (w7 t)=_;unfold Oy NP;by_cases h0:t.op=0
   ·rw[ju h0,zB,yX h0]
   rw[ql h0,zP,qW h0];by_cases xf:t.op=24
   ·obtain⟨q1,q2⟩:=hh.ref xf;simp only[len]at q2;have h2:t.n.toNat<vals.length:=by omega
    rw[ju xf,zB,yX xf,show idx vals (w7 t).2.1=some vals[t.n.toNat] from Qy q1 (by omega),FA,uX h2];rfl
   rw[ql xf,zP,qW xf];by_cases h6:t.op=6
   ·obtain⟨p,hp⟩:=hh.one (l:=t.kids) (.inl h6);have hk:0<t.kids.length:=by rw[hp];simp
    rw[ju h6,zB,yX h6,show f304 N (ZR N M) 0 vals (w7 t)=_ from Ey 0 hk,getD_map hk];rfl
   rw[ql h6,zP,qW h6];by_cases h7:t.op=7
   ·obtain⟨p,hp⟩:=hh.one (l:=t.kids) (.inr h7);have hk:0<t.kids.length:=by rw[hp];simp
    rw[ju h7,zB,yX h7,show f304 N (ZR N M) 0 vals (w7 t)=_ from Ey 0 hk,getD_map hk];simp only[zK,f305];by_cases hz:wJ vals t.kids[0]=0<;>simp[hz]
   rw[ql h7,zP,qW h7];by_cases AG:t.op=23
   ·have hl:t.kids.length=3:=by
     have:=hh.ar;rw[AG]at this;simp[Lk,show wD 23=3 from rfl]at this;omega
    rw[ju AG,zB,yX AG,show f304 N (ZR N M) 0 vals (w7 t)=_ from Ey 0 (by omega),getD_map (show 0<t.kids.length by omega),getD_map (show 1<t.kids.length by omega),getD_map (show 2<t.kids.length by omega)];simp only[zK];rw[show f304 N (ZR N M) 1 vals (w7 t)=_ from Ey 1 (by omega),show f304 N (ZR N M) 2 vals (w7 t)=_ from Ey 2 (by omega)];by_cases hz:wJ vals t.kids[0]=0<;>simp[hz]
   rw[ql AG,zP,qW AG];by_cases AK:t.op=25
   ·obtain⟨g1,g2⟩:=hh.many (l:=t.kids) (.inr AK);rw[ju AK,zB,yX AK,show f304 N (ZR N M) 0 vals (w7 t)=_ from Ey 0 (by omega),getD_map (show 0<t.kids.length by omega)];simp only[zK,GZ];rw[show len (w7 t).2.2.1=(t.kids.length:Int) from rfl,zx (n:=(t.kids.length:Int)-2) (by omega) (by omega),Eb N _ 0 _ (by omega)];simp only[zK];have hb:0<=kM (wJ vals t.kids[0]) 0 (t.kids.length-2)/\kM (wJ vals t.kids[0]) 0 (t.kids.length-2)<=t.kids.length-2:=by
     simp only[kM];split
     ·omega
     split<;>omega
    generalize kM (wJ vals t.kids[0]) 0 (t.kids.length-2)=e at *;have hk:1+e.toNat<t.kids.length:=by omega
    rw[zx (n:=1+e) (by omega) (by omega),show(1+e:Int)=((1+e.toNat:Nat):Int) by omega,Ey _ hk,getD_map hk];rfl
   rw[ql AK,zP,qW AK];have g:=hh.bin (l:=t.kids) h0 xf h6 h7 AG AK;rw[show f304 N (ZR N M) 0 vals (w7 t)=_ from Ey 0 (by omega),show f304 N (ZR N M) 1 vals (w7 t)=_ from Ey 1 (by omega),getD_map (show 0<t.kids.length by omega),getD_map (show 1<t.kids.length by omega)];simp only[zK];rw[zc6];rfl
  ·show O7 N (O6 N M) vals (w7 t)=_;unfold O7 NP;by_cases h0:t.op=0
   ·rw[ju h0,zB,yX h0]
   rw[ql h0,zP,qW h0];by_cases xf:t.op=24
   ·obtain⟨q1,q2⟩:=hh.ref xf;simp only[len]at q2;have h2:t.n.toNat<vals.length:=by omega
    rw[ju xf,zB,yX xf,show idx vals (w7 t).2.1=some vals[t.n.toNat] from Qy q1 (by omega),FA,uX h2];rfl
   rw[ql xf,zP,qW xf];by_cases h6:t.op=6
   ·obtain⟨p,hp⟩:=hh.one (l:=t.kids) (.inl h6);have hk:0<t.kids.length:=by rw[hp];simp
    rw[ju h6,zB,yX h6,show idx (w7 t).2.2.1 0=_ from ix 0 hk,zK,(kid 0 hk).2,getD_map hk];rfl
   rw[ql h6,zP,qW h6];by_cases h7:t.op=7
   ·obtain⟨p,hp⟩:=hh.one (l:=t.kids) (.inr h7);have hk:0<t.kids.length:=by rw[hp];simp
    rw[ju h7,zB,yX h7,show idx (w7 t).2.2.1 0=_ from ix 0 hk,zK,(kid 0 hk).2,getD_map hk];simp only[zK,f278];by_cases hz:wJ vals t.kids[0]=0<;>simp[hz]
   rw[ql h7,zP,qW h7];by_cases AG:t.op=23
   ·have hl:t.kids.length=3:=by
     have:=hh.ar;rw[AG]at this;simp[Lk,show wD 23=3 from rfl]at this;omega
    rw[ju AG,zB,yX AG,show idx (w7 t).2.2.1 0=_ from ix 0 (by omega),getD_map (show 0<t.kids.length by omega),getD_map (show 1<t.kids.length by omega),getD_map (show 2<t.kids.length by omega)];simp only[zK];rw[(kid 0 (by omega)).2];simp only[zK];rw[show idx (w7 t).2.2.1 1=_ from ix 1 (by omega),show idx (w7 t).2.2.1 2=_ from ix 2 (by omega)];simp only[zK];rw[(kid 1 (by omega)).2,(kid 2 (by omega)).2];by_cases hz:wJ vals t.kids[0]=0<;>simp[hz]
   rw[ql AG,zP,qW AG];by_cases AK:t.op=25
   ·obtain⟨g1,g2⟩:=hh.many (l:=t.kids) (.inr AK);rw[ju AK,zB,yX AK,show idx (w7 t).2.2.1 0=_ from ix 0 (by omega),getD_map (show 0<t.kids.length by omega)];simp only[zK,GZ];rw[(kid 0 (by omega)).2];simp only[zK];rw[show len (w7 t).2.2.1=(t.kids.length:Int) from rfl,zx (n:=(t.kids.length:Int)-2) (by omega) (by omega),ER N];simp only[zK];have hb:0<=kM (wJ vals t.kids[0]) 0 (t.kids.length-2)/\kM (wJ vals t.kids[0]) 0 (t.kids.length-2)<=t.kids.length-2:=by
     simp only[kM];split
     ·omega
     split<;>omega
    generalize kM (wJ vals t.kids[0]) 0 (t.kids.length-2)=e at *;have hk:1+e.toNat<t.kids.length:=by omega
    rw[zx (n:=1+e) (by omega) (by omega),show(1+e:Int)=((1+e.toNat:Nat):Int) by omega,ix _ hk,getD_map hk,zK,(kid _ hk).2];rfl
   rw[ql AK,zP,qW AK];have g:=hh.bin (l:=t.kids) h0 xf h6 h7 AG AK;rw[show idx (w7 t).2.2.1 0=_ from ix 0 (by omega),show idx (w7 t).2.2.1 1=_ from ix 1 (by omega),getD_map (show 0<t.kids.length by omega),getD_map (show 1<t.kids.length by omega)];simp only[zK];rw[(kid 0 (by omega)).2,(kid 1 (by omega)).2];simp only[zK];rw[zc1];rfl
end Go.Kz
