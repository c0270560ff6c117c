/-
  Settle, Same and the times of a program: what they answer.
-/
import Derived.Test.YtmoggdcmpoobpaaGreatDoorKzM4
set_option linter.unusedSectionVars false
set_option linter.unusedVariables false
set_option linter.unusedSimpArgs false
namespace Go.Kz
theorem MZ{f:zX}(h:WF f){x:BX}(hx:x∈f.2.1):uA (Ps x.2.2.2.1)<=96:=by
 have:=pS hx;have:=h.deep.FU.size;have:uA (Ps x.2.2.2.1)<=qG x:=by unfold qG;omega
 omega
theorem zd0(N:Nat)(hN:200<=N){f:zX}(h:WF f):f122 N f=some (f.1,(f.2.1,(f.2.2.1.map Zg,()))):=by
 obtain⟨g1,g2,g3⟩:=h.deep.FU;have r1:=vr;refine zg.eq ?_;unfold f122;rw[show f134 N f.1=some f.1 from zu (ju (by omega)),show f135 N f.2.1=some f.2.1 from zu (ju (by omega))];simp only[zK];refine zg.up (λk s=>s=f.2.1) f.2.1.length ?_ ?_ N 0 (jF _) (by omega) _ rfl
 ·rintro j s w hj rfl hw;simp only[Ue];have ht:=MZ h (gU hj);rw[show decide ((j:Int)<len f.2.1)=true from zM hj,zB,zu (jk hj),zY hj];simp only[zK];rw[show f201 N (f.2.1[j].2.2.2.1.1,f.2.1[j].2.2.2.1.2)=_ from Ac N hN N (Ps f.2.1[j].2.2.2.1) (by omega) (by omega),zK,zu (jk hj),zy (by omega),jv];exact hw _ (Z4n hj)
 ·rintro s w rfl;simp only[Ue];rw[show decide (((f.2.1.length:Nat):Int)<len f.2.1)=false from zC _,zP,show f202 N f.2.2.1=_ from Ab N hN N f.2.2.1 (by omega) (by omega),zK];exact zg.ret rfl
theorem zd1(N:Nat)(hN:200<=N){f:zX}(h:WF f):zg (f121 N f) λr=>r.2.2.1=(qw f.2.2.1).2.2/\r.2.2.2=0:=by
 obtain⟨g1,g2,g3⟩:=h.deep.FU;have:=h.ub3;unfold f121;rw[Gt N hN f h,zK,qR rfl,show(!true)=false from rfl,zP,show f164 N f.2.2.1=_ from KR N hN f N f.2.2.1 true (by omega) (by omega) h.steps,zK];exact zg.ret ⟨by simp only;omega,rfl⟩
theorem zjq(N:Nat)(hN:200<=N){f:zX}(h:Cz N f)(ho:Open f)(vg:0<f.2.2.1.length){bs:List Int}(hb:Cq f bs):f44 N f bs=some (vf f bs,0):=by
 have hw:=h.wf;have hwa:=z00 h ho hb;obtain⟨g1,g2,g3⟩:=hw.deep.FU;obtain⟨⟨p1,p2,p3,p4⟩,b1,b2⟩:=hb;have r1:=vr;have hl:=jN f.2.2.1;refine zg.eq ?_;unfold f44;refine zg.then (zd1 N hN hw) ?_;rintro⟨c1,c2,c3,c4⟩ ⟨rfl,rfl⟩;rw[qR rfl,show(!true)=false from rfl,zP];simp only;have e1:(cond (decide (0<len f.2.2.1)) ((idx f.2.2.1 (zz (len f.2.2.1-1))).bind λx=>some (decide (x.1=6))) (some false))=some false:=by
  rw[qR (by simp only[len];omega),zB,wM,jJ vg (by omega),zY (by omega),zK,qX (ho _ (gU _))]
 rw[e1,zK,zP];have e2:(cond (decide (len bs<1)) (some true) (some (decide (32<len bs))))=some false:=by
  rw[qX (by simp only[len];omega),zP,qX (by simp only[len];omega)]
 rw[e2,zK,zP,show idx bs 0=some (bs[0]'p1) from zY p1,zK];have:=p3 (by omega);rw[qX (by omega),zK,zP];refine zg.WW (λk=>1<=k) bs.length ?_ ?_ N 1 (by omega) (by omega) (yH _)
 ·rintro j w hj h1 QA;simp only[Uw];have:=p4 j (by omega) hj;rw[show decide ((j:Int)<len bs)=true from zM hj,zB,zY hj,zK,jJ (by omega) (by omega),zY (by omega),zK,qX (by omega),zP,zy (by omega)];exact QA (by omega)
 ·rintro w h1;simp only[Uw];have wU:=b2 (by omega);rw[show decide (((bs.length:Nat):Int)<len bs)=false from zC _,zP,wM,jJ (by omega) (by omega),zY (by omega),zK,qX (by omega),zP,qX (by omega),zK,zP];rw[zd0 N hN hw,zK,Er N bs (by omega),zK,zu (ju (by simp only[GZ];omega))];have e3:f124 N (vf f bs)=some (vf f bs,0):=by
   unfold f124;rw[Gt N hN _ hwa];rfl
  have e4:(f.1,(f.2.1,(List.map (kp 1) (f.2.2.1.map Zg++[Zg (wB bs)]),())))=vf f bs:=by
   have:=(Jn (List.map (kp 1)) (TU (f:=Zg) (l₁:=f.2.2.1) (l₂:=[wB bs]))).symm.trans (VS (f.2.2.1++[wB bs]));exact Jn (λz=>((f.1,(f.2.1,(z,()))):zX)) this
  refine zg.then (zg.of ((Jn (f124 N) e4).trans e3) rfl) ?_;rintro r rfl;exact zg.ret rfl
theorem Ud(N:Nat)(hN:200<=N){f g:zX}(h:WF f)(hg:WF g):f125 N f g=some 0:=by
 unfold f125;rw[Gt N hN f h,zK,qR rfl,show(!true)=false from rfl,zP,Gt N hN g hg];rfl
theorem On(N:Nat)(hN:200<=N){f:zX}(h:WF f):f126 N f=some ((f.1,(f.2.1,(QN N f.2.2.1,()))),0):=by
 obtain⟨g1,g2,g3⟩:=h.deep.FU;have r1:=vr;refine zg.eq ?_;unfold f126 z5m;rw[Gt N hN f h,zK,qR rfl,show(!true)=false from rfl,zP];simp only[idT];rw[show f134 N f.1=some f.1 from zu (ju (by omega)),show f135 N f.2.1=some f.2.1 from zu (ju (by omega)),show f203 N f.2.2.1=_ from(KC N hN N f.2.2.1 (by omega) (by omega)).1];simp only[zK];refine zg.up (λk s=>s=f.2.1) f.2.1.length ?_ ?_ N 0 (jF _) (by omega) _ rfl
 ·rintro j s w hj rfl hw;simp only[Uc];have ht:=MZ h (gU hj);rw[show decide ((j:Int)<len f.2.1)=true from zM hj,zB,zu (jk hj),zY hj];simp only[zK];rw[show f204 N (f.2.1[j].2.2.2.1.1,f.2.1[j].2.2.2.1.2)=_ from Aa N hN N (Ps f.2.1[j].2.2.2.1) (by omega) (by omega),zK,zu (jk hj),zy (by omega),jv];exact hw _ (Z4n hj)
 ·rintro s w rfl;simp only[Uc];rw[show decide (((f.2.1.length:Nat):Int)<len f.2.1)=false from zC _,zP];exact zg.ret (Jn (λz=>(((f.1,(f.2.1,(z,()))):zX),(0:Int))) (VS (QN N f.2.2.1)))
theorem zjp(N:Nat)(hN:200<=N){f:zX}(h:WF f){bs:List Int}(hg:WF (vf f bs)):f45 N f (vf f bs)=some 0:=by
 obtain⟨g1,g2,g3⟩:=h.deep.FU;have e:QN N (f.2.2.1++[wB bs])=QN N f.2.2.1:=by
  rw[XQ,yX (.inr rfl)]
 have e2:f126 N (vf f bs)=some ((f.1,(f.2.1,(QN N f.2.2.1,()))),0):=(On N hN hg).trans (Jn (λz=>some (((f.1,(f.2.1,(z,()))):zX),(0:Int))) e);have hs:=(KC N hN N f.2.2.1 (by omega) (by omega)).2;unfold f45;rw[Ud N hN h hg,zK,qR rfl,show(!true)=false from rfl,zP,On N hN h,zK,e2,zK];rw[show f127 N (f.1,(f.2.1,(QN N f.2.2.1,()))) (f.1,(f.2.1,(QN N f.2.2.1,())))=some true from zcz N hN _ (by simp only;omega) (by simp only;omega) (λx hx=>by have:=MZ h hx;omega) (by simp only;omega)];rfl
theorem KU(N:Nat)(hN:200<=N){f:zX}(hv:u6 f.1)(h1:zV (jA f.1 1)<=4096)(h2:zV (jA f.1 2)<=4096)(h3:zV (jA f.1 3)<=4096):f211 N f=some [zV (jA f.1 1),zV (jA f.1 2),zV (jA f.1 3)]:=by
 refine zg.eq ?_;unfold f211;rw[show f214 N=some [1,2,3] from rfl,zK];have key:∀k,(k=1\/k=2\/k=3)->f71 N f.1 k=some (zV (jA f.1 k),0):=by
  intro k hk;refine ED N hN hv.len hv.Z0 k (by omega) ?_;rcases hk with rfl|rfl|rfl<;>assumption
 have k1:=key 1 (by omega);have k2:=key 2 (by omega);have k3:=key 3 (by omega);clear key;generalize zV (jA f.1 1)=a at *;generalize zV (jA f.1 2)=b at *;generalize zV (jA f.1 3)=c at *;refine zg.up (λk o=>o=[if 0<k then a else 0,if 1<k then b else 0,if 2<k then c else 0]) 3 ?_ ?_ N 0 (by omega) (by omega) _ rfl
 ·rintro j s w hj rfl hw;obtain rfl|rfl|rfl:j=0\/j=1\/j=2:=by omega
  ·exact zg.bind (zg.of k1 (hw _ rfl))
  ·exact zg.bind (zg.of k2 (hw _ rfl))
  ·exact zg.bind (zg.of k3 (hw _ rfl))
 ·rintro s w rfl;exact zg.ret rfl
structure Sm (g:zX):Prop where
 wf:WF g
 sec:zV (jA g.1 1)<=16
 pub:zV (jA g.1 2)<=4
 rnd:zV (jA g.1 3)<=4
theorem Cz.sm{N:Nat}{f:zX}(h:Cz N f):Sm f:=⟨h.wf,h.sec,h.pub,h.rnd⟩
theorem Cz.add{N:Nat}{f:zX}(h:Cz N f)(ho:Open f){bs:List Int}(hb:Cq f bs):Sm (vf f bs):=⟨z00 h ho hb,h.sec,h.pub,h.rnd⟩
theorem Ub(N:Nat)(hN:200<=N){f:zX}(h:Sm f):f128 N f=some true:=by
 obtain⟨hw,h1,h2,h3⟩:=h;have p1:=qh (jT hw.vars.Z0 1);have p2:=qh (jT hw.vars.Z0 2);have p3:=qh (jT hw.vars.Z0 3);unfold f128;rw[KU N hN hw.vars (by omega) (by omega) (by omega),zK];generalize zV (jA f.1 1)=a at *;generalize zV (jA f.1 2)=b at *;generalize zV (jA f.1 3)=c at *;have m1:=Z2f h1 h2 (by omega) (by omega);have m0:=C4 (show 0<=a by omega) (show 0<=b by omega);have n1:=Z2f m1 h3 (by omega) (by omega);have n0:=C4 m0 (show 0<=c by omega);show some (decide (zz (zz (a*b)*c)<=4096))=some true;rw[zx (n:=a*b) (by omega) (by omega),zx (n:=a*b*c) (by omega) (by omega),qR (by omega)]
end Go.Kz
set_option linter.unusedVariables false
set_option linter.unusedSimpArgs false
namespace Go.Kz
theorem LS{I Z:Type}[DecidableEq Z](R:I->Z->Prop):∀(L:List I)(M:List Z),L.Nodup->(∀x∈L,∃y∈M,R x y)->(∀x∈L,∀x'∈L,∀y,R x y->R x' y->x=x')->L.length<=M.length
 |[],_,_,_,_=>jF _
 |x::L,M,hn,he,hi=>by
  obtain⟨y,hy,hr⟩:=he x (by simp);obtain⟨hx,HS⟩:=Z2e.1 hn;have:=LS R L (M.erase y) HS (λx' Vd=>by
   obtain⟨y',hy',PQ⟩:=he x' (by simp[Vd]);by_cases e:y'=y
   ·subst e;have:=hi x (by simp) x' (by simp[Vd]) y' hr PQ;subst this;exact absurd Vd hx
   ·exact⟨y',(List.mem_erase_of_ne e).2 hy',PQ⟩) (λa ha b hb=>hi a (by simp[ha]) b (by simp[hb]))
  rw[List.length_erase_of_mem hy]at this;have:0<M.length:=List.length_pos_of_mem hy;simp only[BF];omega
abbrev Mp:=List (List UInt8×Bool)
def ms{I:Type}(k:I->List UInt8)(l:List I):Mp:=l.foldl (λm a=>vQ (jX .str) m (k a) true) []
theorem NX{I:Type}(k:I->List UInt8)(l:List I)(x:I):ms k (l++[x])=vQ (jX .str) (ms k l) (k x) true:=by simp[ms,Z3o]
theorem HU(x:List UInt8):∀m:Mp,(vQ (jX .str) m x true).map (·.1)=if x∈m.map (·.1) then m.map (·.1) else m.map (·.1)++[x]
 |[]=>by simp[vQ]
 |(y,b)::m=>by
  have ih:=HU x m;simp only[vQ,jX];by_cases h:x=y
  ·subst h;simp
  ·rw[ql h,zP,PE,ih];simp only[PE,pF,h,false_or];split<;>rfl
theorem Cc{I:Type}(k:I->List UInt8)(l:List I):((ms k l).map (·.1)).Nodup/\(∀x,x∈(ms k l).map (·.1)↔∃a∈l,k a=x)/\(ms k l).length<=l.length:=by
 induction l using za3 with
 |h0=>simp[ms]
 |h1 l x ih=>
  obtain⟨h1,h2,h3⟩:=ih;have e:=HU (k x) (ms k l);have el:=Jn List.length e;rw[NX,e];simp only[GZ]at el;rw[el];by_cases h:k x∈(ms k l).map (·.1)
  ·rw[yX h]at el⊢;refine⟨h1,λy=>?_,by simp;omega⟩;rw[h2];constructor
   ·rintro⟨a,ha,rfl⟩;exact⟨a,by simp[ha],rfl⟩
   ·rintro⟨a,ha,rfl⟩;rcases Gx.1 ha with ha|ha
    ·exact⟨a,ha,rfl⟩
    ·simp only[II]at ha;subst ha;exact(h2 _).1 h
  ·rw[qW h];refine⟨?_,λy=>?_,by simp;omega⟩
   ·rw[Z4g];exact⟨h1,by simp,λa ha b hb=>by simp only[II]at hb;subst hb;intro e;subst e;exact h ha⟩
   ·rw[Gx,h2];simp only[II,Gx];constructor
    ·rintro (⟨a,ha,rfl⟩|rfl)
     ·exact⟨a,.inl ha,rfl⟩
     ·exact⟨x,.inr rfl,rfl⟩
    ·rintro⟨a,ha|rfl,rfl⟩
     ·exact .inl ⟨a,ha,rfl⟩
     ·exact .inr rfl
theorem z2b{I:Type}{k k':I->List UInt8}{l:List I}(h:∀a∈l,∀b∈l,k a=k b->k' a=k' b):(ms k' l).length<=(ms k l).length:=by
 have h1:=Cc k l;have h2:=Cc k' l;have:=LS (λx y=>∃a∈l,k' a=x/\k a=y) ((ms k' l).map (·.1)) ((ms k l).map (·.1)) h2.1 (λx hx=>by
  obtain⟨a,ha,e⟩:=(h2.2.1 x).1 hx;exact⟨k a,(h1.2.1 _).2 ⟨a,ha,rfl⟩,a,ha,e,rfl⟩) (λx _ x' _ y ⟨a,ha,e1,e2⟩ ⟨b,hb,e3,e4⟩=>by rw[<-e1,<-e3];exact h a ha b hb (e2.trans e4.symm))
 simpa using this
theorem zhs{I:Type}{k k':I->List UInt8}{l:List I}(B:List Int)(t:I->Int)(hB:∀a∈l,t a∈B)(h:∀a∈l,∀b∈l,k a=k b->t a=t b->k' a=k' b):(ms k' l).length<=B.length*(ms k l).length:=by
 have h1:=Cc k l;have h2:=Cc k' l;have el:∀B:List Int,(B.flatMap λt=>((ms k l).map (·.1)).map λy=>(t,y)).length=B.length*(ms k l).length:=λB=>by
  induction B with
  |nil=>simp
  |cons x B ih=>rw[Z5c,WQ,ih];simp[kq];omega
 have:=LS (λx y=>∃a∈l,k' a=x/\k a=y.2/\t a=y.1) ((ms k' l).map (·.1)) (B.flatMap λt=>((ms k l).map (·.1)).map λy=>(t,y)) h2.1 (λx hx=>by
  obtain⟨a,ha,e⟩:=(h2.2.1 x).1 hx;refine⟨(t a,k a),?_,a,ha,e,rfl,rfl⟩;exact List.mem_flatMap.2 ⟨t a,hB a ha,Z22.2 ⟨k a,(h1.2.1 _).2 ⟨a,ha,rfl⟩,rfl⟩⟩) (λx _ x' _ y ⟨a,ha,e1,e2,e3⟩ ⟨b,hb,e4,e5,e6⟩=>by rw[<-e1,<-e4];exact h a ha b hb (e2.trans e5.symm) (e3.trans e6.symm))
 rw[el]at this;simpa using this
def E7(f:Nat->Int):Nat->Int
 |0=>0
 |n+1=>gG (E7 f n) (f n)
theorem z1z(f:Nat->Int):∀n,0<=E7 f n
 |0=>Z23 _
 |n+1=>by have:=z1z f n;simp only[E7,gG];split<;>omega
theorem E6{f g:Nat->Int}{c:Int}(hc:0<=c):∀n,(∀q,q<n->f q<=c*g q)->E7 f n<=c*E7 g n
 |0,_=>by simp[E7]
 |n+1,h=>by
  have ih:=E6 hc n λq hq=>h q (by omega)
  have hn:=h n (by omega);have m1:E7 g n<=E7 g (n+1):=by simp only[E7,gG];split<;>omega
  have m2:g n<=E7 g (n+1):=by simp only[E7,gG];split<;>omega
  have k1:=Z5e m1 hc;have k2:=Z5e m2 hc;simp only[E7]at *;rw[gG];split<;>omega
theorem Lr{f g:Nat->Int}(n:Nat)(h:∀q,q<n->f q<=g q):E7 f n<=E7 g n:=by
 have:=E6 (f:=f) (g:=g) (c:=1) (by omega) n λq hq=>by have:=h q hq;omega
 omega
theorem M6(n:Int):(97:UInt8)∉YI n:=by
 intro h
 cases n with
 |ofNat m=>
  have:=Un 20 m 97 h
  simp at this
 |negSucc m=>
  rcases pF.1 h with h|h
  ·exact absurd h (by decide)
  ·have:=Un 20 (m+1) 97 h;simp at this
theorem zft:∀{a c b d:List UInt8},(97:UInt8)∉a->(97:UInt8)∉c->a++97::b=c++97::d->a=c/\b=d
 |[],[],b,d,_,_,h=>by simpa using h
 |[],y::c,b,d,_,hc,h=>by
  simp only[Ql,QI,N0]at h
  exact absurd (by rw[<-h.1];exact Z2v ..) hc
 |x::a,[],b,d,ha,_,h=>by
  simp only[Ql,QI,N0]at h
  exact absurd (by rw[h.1];exact Z2v ..) ha
 |x::a,y::c,b,d,ha,hc,h=>by
  simp only[QI,N0]at h;obtain⟨q1,q2⟩:=zft (λh'=>ha (TX _ h')) (λh'=>hc (TX _ h')) h.2;exact⟨by rw[h.1,q1],q2⟩
theorem Pw(l:List Int):(97:UInt8)∉xr l:=by
 intro h;obtain⟨n,_,hn⟩:=List.mem_flatMap.1 h;rcases Gx.1 hn with hn|hn
 ·exact M6 n hn
 ·simp at hn
theorem JY{a b:List Int×(Int×Unit)}(h:u7 a=u7 b):xr a.1=xr b.1/\(I64 a.2.1->I64 b.2.1->a.2.1=b.2.1):=by
 obtain⟨h1,h2⟩:=zft (Pw _) (Pw _) h;refine⟨h1,λha hb=>?_⟩;have:YI a.2.1=YI b.2.1:=by simpa using h2
 rw[<-Cl ha,this,Cl hb]
theorem WV{a b:List Int×(Int×Unit)}(h:xr a.1=xr b.1)(h2:a.2.1=b.2.1):u7 a=u7 b:=by simp only[u7,h,h2]
end Go.Kz
set_option linter.unusedVariables false
set_option linter.unusedSimpArgs false
namespace Go.Kz
theorem GH{f:zX}(h:WF f)(a:kz):(jW f a).outs.length<=8:=by
 have:=(pI f (AW f (Wu f.1 a f.1.length)) _ f.2.2.1 true (BV _) h.steps ⟨Wu f.1 a f.1.length,[],0⟩).outs;have h2:=h.ub2;simp only[TA]at this;have e:(jW f a)=vZ f (AW f (Wu f.1 a f.1.length)) f.2.2.1 ⟨Wu f.1 a f.1.length,[],0⟩:=rfl;rw[e];omega
theorem MG(N:Nat)(hN:200<=N){g:zX}(h:Sm g)(s p r:Int)(hs:0<=s/\s<zV (jA g.1 1))(hp:0<=p/\p<zV (jA g.1 2))(hr:0<=r/\r<zV (jA g.1 3)):f72 N g.1 s p r=some (vX g s p r,0):=by
 obtain⟨hw,h1,h2,h3⟩:=h;unfold f72;rw[Ef N hN hw.vars 1 (by omega) (by omega) s hs.1 hs.2,Ef N hN hw.vars 2 (by omega) (by omega) p hp.1 hp.2,Ef N hN hw.vars 3 (by omega) (by omega) r hr.1 hr.2];rfl
def uY(g:zX)(tm:Bool)(a:kz):List UInt8:=u7 ((jW g a).outs,(cond tm (jW g a).time 0,()))
def De(N:Nat)(g:zX)(a:kz):Int:=((f70 N g.1 2 a.2.1).getD (0,0)).1
theorem zn1(N:Nat)(hN:200<=N){g:zX}(h:Sm g){a:kz}(ha:Zd g.1 a):zg (f70 N g.1 2 a.2.1) λr=>r.1=De N g a/\0<=De N g a/\De N g a<zV (jA g.1 2):=by
 have:=h.pub;obtain⟨r,hr,h0,h1⟩:=zjj N hN h.wf.vars 2 (by omega) (by omega) a.2.1 (ha 2 (by omega) (by omega));have e:De N g a=r.1:=by unfold De;rw[hr];rfl
 exact⟨r,hr,e.symm,by omega,by omega⟩
theorem z4u(N:Nat){g:zX}(h:WF g)(tm:Bool)(a:kz):f74 N ((jW g a).outs,((jW g a).time,())) tm=some ((jW g a).outs,(cond tm (jW g a).time 0,())):=by
 have:=GH h a;unfold f74;rw[show f123 N (jW g a).outs=_ from Er N _ (by omega),zK];cases tm<;>rfl
theorem OB(N:Nat){g:zX}(h:WF g)(tm:Bool)(a:kz):f213 N ((jW g a).outs,(cond tm (jW g a).time 0,()))=some (uY g tm a):=by
 have:=GH h a;have:=vr;exact zu (ju (by simp only;omega))
structure Rows (N:Nat) (g:zX) (tm:Bool) (P:Nat) (X:List kz) (o:List (Option Mp)):Prop where
 len:o.length=P
 row:∀q,q<P->(o.getD q none).getD []=ms (uY g tm) (X.filter λa=>decide (De N g a=(q:Int)))
theorem Rows.next{N:Nat}{g:zX}{tm:Bool}{P:Nat}{X:List kz}{o:List (Option Mp)}(h:Rows N g tm P X o)(a:kz)(k:Nat)(hk:k<P)(e:De N g a=(k:Int)):
  Rows N g tm P (X++[a]) (o.set k (some (vQ (jX .str) ((o.getD k none).getD []) (uY g tm a) true))):=by
 refine⟨by rw[Z4q];exact h.len,λq hq=>?_⟩;have hr:=h.row q hq;have hl:=h.len;rw[List.filter_append];by_cases hqk:q=k
 ·subst hqk;rw[show [a].filter (λa=>decide (De N g a=(q:Int)))=[a] by simp[e],NX,<-hr];rw[FA (l:=o.set ..),Z3p (by omega)];rfl
 ·rw[show [a].filter (λa=>decide (De N g a=(q:Int)))=[] by simp[e];omega,DX,<-hr];rw[FA,List.getElem?_set_ne (λh=>hqk h.symm),<-FA]
theorem zco(N:Nat)(hN:5000<=N){g:zX}(h:Sm g)(tm:Bool){P:Nat}(hP:zV (jA g.1 2)=(P:Int)){a:kz}(ha:Zd g.1 a){X:List kz}{o:List (Option Mp)}(hr:Rows N g tm P X o):
  zg (f212 N a g o tm) λr=>∃o',r=(((),((),((),(true,())))),(g,((),(o',(tm,())))))/\Rows N g tm P (X++[a]) o':=by
 unfold f212;refine zg.then (zn1 N (by omega) h ha) ?_;rintro r ⟨hk,h0,h1⟩;rw[hk];obtain⟨k,hk⟩:=Mr h0;have hn:=hr.next a k (by omega) hk;have hl:=hr.len;rw[hk];have hko:k<o.length:=by omega
 rw[AH N hN g h.wf a ha,zK,zu (jk hko),zY hko];simp only[zK];rw[FA,uX hko,Z3m]at hn
 cases e:o[k]with
 |none=>
  rw[e]at hn;have K6:k<(o.set k (some ([]:Mp))).length:=by rw[Z4q];exact hko
  simp only[Option.isNone_none,zB,jv];rw[zu (jk hko),zu (jk hko),zu (jk K6),zY K6,zK,z4u N h.wf,zK];simp only;rw[OB N h.wf,zK,zK,List.getElem_set_self,Option.isSome_some,zu rfl,Z2z]
  exact zg.ret ⟨_,rfl,hn⟩
 |some m=>
  rw[e]at hn;simp only[Option.isNone_some,zP,jv];rw[zu (jk hko),z4u N h.wf,zK];simp only;rw[OB N h.wf,zK,Option.isSome_some,zu rfl];exact zg.ret ⟨_,rfl,hn⟩
def H0(g:zX)(s p:Int)(r:Nat):List kz:=(List.range r).map λk:Nat=>vX g s p (k:Int)
def BL(g:zX)(s:Int)(p R:Nat):List kz:=(List.range p).flatMap λk:Nat=>H0 g s (k:Int) R
def ZQ(g:zX)(s P R:Nat):List kz:=(List.range s).flatMap λk:Nat=>BL g (k:Int) P R
theorem zh6(g:zX)(s p:Int)(r:Nat):H0 g s p (r+1)=H0 g s p r++[vX g s p (r:Int)]:=by simp[H0,Z2n]
theorem z11(g:zX)(s:Int)(p R:Nat):BL g s (p+1) R=BL g s p R++H0 g s (p:Int) R:=by simp[BL,Z2n,Z5d]
theorem z10(g:zX)(s P R:Nat):ZQ g (s+1) P R=ZQ g s P R++BL g (s:Int) P R:=by simp[ZQ,Z2n,Z5d]
theorem H2(g:zX)(s:Int)(R:Nat):∀p,(BL g s p R).length=p*R
 |0=>by simp[BL]
 |p+1=>by rw[z11,WQ,H2 g s R p,kq];simp[H0]
theorem XK(g:zX)(P R:Nat):∀s,(ZQ g s P R).length=s*(P*R)
 |0=>by simp[ZQ]
 |s+1=>by rw[z10,WQ,XK g P R s,H2,kq];simp
theorem zcy(N:Nat)(hN:5000<=N){g:zX}(h:Sm g)(tm:Bool){S P R:Nat}(hS:zV (jA g.1 1)=(S:Int))(hP:zV (jA g.1 2)=(P:Int))(hR:zV (jA g.1 3)=(R:Int)):
  zg (f131 N g g (List.replicate P none:List (Option Mp)) tm) λr=>Rows N g tm P (ZQ g S P R) r.2.2.2.1:=by
 obtain⟨hw,h1,h2,h3⟩:=id h;unfold f131;rw[KU N (by omega) hw.vars (by omega) (by omega) (by omega),zK,hS,hP,hR];refine zg.up (λs z=>∃o,z=(g,o,tm)/\Rows N g tm P (ZQ g s P R) o) S ?_ ?_ N 0 (jF _) (by omega) _ ⟨_,rfl,by simp,λq hq=>by simp[ZQ,ms,FA,hq]⟩
 ·rintro s z w hs ⟨o,rfl,ho⟩ QA;simp only[US];rw[ju (show(s:Int)<S by omega),zB];refine zg.up (λp z=>∃o,z=(g,o,tm)/\Rows N g tm P (ZQ g s P R++BL g (s:Int) p R) o) P ?_ ?_ N 0 (jF _) (by omega) _ ⟨o,rfl,by simpa[BL]using ho⟩
  ·rintro p z w1 hp ⟨o,rfl,ho⟩ hw1;simp only[UR];rw[ju (show(p:Int)<P by omega),zB];refine zg.up (λr z=>∃o,z=(g,o,tm)/\Rows N g tm P (ZQ g s P R++BL g (s:Int) p R++H0 g (s:Int) (p:Int) r) o) R ?_ ?_ N 0 (jF _) (by omega) _ ⟨o,rfl,by simpa[H0]using ho⟩
   ·rintro r z w2 hr ⟨o,rfl,ho⟩ hw2;simp only[UO];rw[ju (show(r:Int)<R by omega),zB,MG N (by omega) h s p r ⟨by omega,by omega⟩ ⟨by omega,by omega⟩ ⟨by omega,by omega⟩,zK];refine zg.then (zco N hN h tm hP (Ew hw.vars s p r) ho) ?_;rintro _ ⟨o',rfl,Pf⟩;rw[zy (show r<9223372036854775807 by omega)];refine hw2 _ ⟨o',rfl,?_⟩;rw[zh6,<-PF];exact Pf
   ·rintro z w2 ⟨o,rfl,ho⟩;simp only[UO];rw[ql (by omega),zP,zy (show p<9223372036854775807 by omega)];exact hw1 _ ⟨o,rfl,by rw[z11,<-PF];exact ho⟩
  ·rintro z w1 ⟨o,rfl,ho⟩;simp only[UR];rw[ql (by omega),zP,zy (show s<9223372036854775807 by omega)];exact QA _ ⟨o,rfl,by rw[z10];exact ho⟩
 ·rintro z w ⟨o,rfl,ho⟩;simp only[US];rw[ql (by omega),zP];exact zg.ret ho
def YE(N:Nat)(g:zX)(tm:Bool)(S P R:Nat):Int:=E7 (λq=>((ms (uY g tm) ((ZQ g S P R).filter λa=>decide (De N g a=(q:Int)))).length:Int)) P
theorem Om(N:Nat)(hN:5000<=N){g:zX}(h:Sm g)(tm:Bool){S P R:Nat}(hS:zV (jA g.1 1)=(S:Int))(hP:zV (jA g.1 2)=(P:Int))(hR:zV (jA g.1 3)=(R:Int)):
  f129 N g tm=some (YE N g tm S P R):=by
 obtain⟨hw,h1,h2,h3⟩:=id h;have hc1:((room:Nat):Int)=4294967296:=rfl;refine zg.eq ?_;unfold f129;rw[KU N (by omega) hw.vars (by omega) (by omega) (by omega),zK,hS,hP,hR];rw[show jY [(S:Int),P,R] 1=true from rfl,zu rfl,show idx [(S:Int),P,R] 1=some (P:Int) from rfl,zK,zu (by simp only[zA,ve];omega),Z3f];refine zg.then (zcy N hN h tm hS hP hR) λr hr=>?_
 generalize r.2.2.2.1=o at *;have hl:=hr.len;refine zg.up (λq x=>x=E7 (λq=>((ms (uY g tm) ((ZQ g S P R).filter λa=>decide (De N g a=(q:Int)))).length:Int)) q) P ?_ ?_ N 0 (jF _) (by omega) _ rfl
 ·rintro q x w hq rfl QA;simp only[Ua];have hqo:q<o.length:=by omega
  have wy:=hr.row q hq;rw[FA,uX hqo,Z3m]at wy;have hle:(ms (uY g tm) ((ZQ g S P R).filter λa=>decide (De N g a=(q:Int)))).length<=256:=by
   have a1:=(Cc (uY g tm) ((ZQ g S P R).filter λa=>decide (De N g a=(q:Int)))).2.2;have a2:=Z5f (λa=>decide (De N g a=(q:Int))) (ZQ g S P R);rw[XK]at a2;have a3:P*R<=4*4:=Z3e (by omega) (by omega);have a4:S*(P*R)<=16*(4*4):=Z3e (by omega) a3;omega
  rw[show decide ((q:Int)<len o)=true from zM hqo,zB,zu (jk hqo),zY hqo];simp only[zK];rw[wy,zu (ju (by omega)),zy (by omega)];exact QA _ rfl
 ·rintro x w rfl;simp only[Ua];rw[show decide ((P:Int)<len o)=false by simp[len,hl],zP];exact zg.ret rfl
end Go.Kz
set_option linter.unusedVariables false
set_option linter.unusedSimpArgs false
namespace Go.Kz
theorem z4y(N:Nat)(hN:5000<=N){f g:zX}(h:Sm f)(hg:Sm g)(tm:Bool){S P R:Nat}(hS:zV (jA f.1 1)=(S:Int))(hP:zV (jA f.1 2)=(P:Int))(hR:zV (jA f.1 3)=(R:Int))(hS':zV (jA g.1 1)=(S:Int))(hP':zV (jA g.1 2)=(P:Int))(hR':zV (jA g.1 3)=(R:Int)):
  f46 N f g tm=some (YE N f tm S P R,(YE N g tm S P R,0)):=by
 unfold f46;rw[Ud N (by omega) h.wf hg.wf,zK,qR rfl,show(!true)=false from rfl,zP,Ub N (by omega) h,zK,show(!true)=false from rfl,zP,Ub N (by omega) hg,zK,zK,show(!true)=false from rfl,zP,Om N hN h tm hS hP hR,Om N hN hg tm hS' hP' hR'];rfl
theorem zcm(N:Nat)(hN:200<=N)(f:zX)(hl:f.1.length<=10)(x:Int):zg (f216 N f x) λr=>r.length<=10:=by
 have r1:=vr;unfold f216;refine zg.up (λk o=>o.length<=k) f.1.length ?_ ?_ N 0 (jF _) (by omega) _ (yH _)
 ·rintro j o w hj ho hw;simp only[UU];rw[show decide ((j:Int)<len f.1)=true from zM hj,zB,zY hj,zK,zy (by omega)];refine zg.cond (λ_=>?_) λ_=>hw _ (by omega)
  rw[zu (ju (by omega))];exact hw _ (by simp;omega)
 ·rintro o w ho;simp only[UU];rw[show decide (((f.1.length:Nat):Int)<len f.1)=false from zC _,zP];exact zg.ret (by omega)
theorem eqA(l:List Int):P4 (.arr 2 (.int .i64)) l l=true:=by
 show kY (jX (.int .i64)) l l=true
 induction l with
 |nil=>rfl
 |cons x l ih=>simp only[kY,ih,jX,Uo];rfl
theorem zcn(N:Nat)(hN:200<=N)(l:List (List Int))(hl:l.length<=10):f215 N l l=some true:=by
 refine zg.eq ?_;unfold f215;rw[qR rfl,show(!true)=false from rfl,zP];refine zg.WW (λ_=>True) l.length ?_ ?_ N 0 (jF _) (by omega) trivial
 ·rintro j w hj _ hw;simp only[UX];rw[show decide ((j:Int)<len l)=true from zM hj,zB,zY hj,zK,zK,eqA,show(!true)=false from rfl,zP,zy (by omega)];exact hw trivial
 ·rintro w _;simp only[UX];rw[show decide (((l.length:Nat):Int)<len l)=false from zC _,zP];exact zg.ret rfl
theorem Ol(N:Nat)(hN:200<=N){f g:zX}(e:∀x,f216 N g x=f216 N f x)(hl:f.1.length<=10):f130 N f g=some true:=by
 refine zg.eq ?_;unfold f130;rw[show f214 N=some [1,2,3] from rfl,zK];refine zg.WW (λ_=>True) [(1:Int),2,3].length ?_ ?_ N 0 (jF _) (by simp;omega) trivial
 ·rintro j w hj _ hw;simp only[UT];rw[show decide ((j:Int)<len [(1:Int),2,3])=true from zM hj,zB,zu (jk hj),zY hj,zK,e];obtain⟨r,hr,zyu⟩:=zcm N hN f hl [(1:Int),2,3][j];rw[hr,zK,zK,zcn N hN r zyu,zK,show(!true)=false from rfl,zP,zy (by simp at hj;omega)];exact hw trivial
 ·rintro w _;simp only[UT];rw[show decide ((([(1:Int),2,3].length:Nat):Int)<len [(1:Int),2,3])=false from zC _,zP];exact zg.ret rfl
abbrev Wit:=List Int×(List Int×(List Int×Unit))
theorem zcx(N:Nat)(hN:5000<=N){f g:zX}(h:WF f)(hg:WF g)(a:kz)(ha:Zd f.1 a)(hb:Zd g.1 a)(e:(jW g a).outs=(jW f a).outs)(o4:Wit):
  f132 N a f g [] o4 false=some (((),((),((),((),((),(true,())))))),(f,(g,((),([],(o4,(false,()))))))):=by
 have:=GH h a;refine zg.eq ?_;unfold f132;rw[AH N hN f h a ha,AH N hN g hg a hb,e];simp only[zK];refine zg.WW (λ_=>True) (jW f a).outs.length ?_ ?_ N 0 (jF _) (by omega) trivial
 ·rintro j w hj _ hw;simp only[UN];rw[show decide ((j:Int)<len (jW f a).outs)=true from zM hj,zB,zY hj,zK];simp only[vL,Option.isSome_none,zP];rw[zy (by omega)];exact hw trivial
 ·rintro w _;simp only[UN];rw[show decide ((((jW f a).outs.length:Nat):Int)<len (jW f a).outs)=false from zC _,zP,z5l N _ (by omega) (by omega)];exact zg.ret rfl
theorem Sb(N:Nat)(hN:5000<=N){f g:zX}(h:Sm f)(hg:WF g)(hi:∀a,Zd f.1 a->Zd g.1 a)(e:∀a,(jW g a).outs=(jW f a).outs)(o4:Wit):
  zg (Eo N f f g [] o4 false) λr=>r.2.2.2.2.2.2.1=false:=by
 obtain⟨hw,h1,h2,h3⟩:=id h;have p1:=qh (jT hw.vars.Z0 1);have p2:=qh (jT hw.vars.Z0 2);have p3:=qh (jT hw.vars.Z0 3);obtain⟨S,hS⟩:=Mr (show 0<=zV (jA f.1 1) by omega);obtain⟨P,hP⟩:=Mr (show 0<=zV (jA f.1 2) by omega);obtain⟨R,hR⟩:=Mr (show 0<=zV (jA f.1 3) by omega);unfold Eo;rw[KU N (by omega) hw.vars (by omega) (by omega) (by omega),zK,hS,hP,hR];refine zg.up (λs z=>z=(f,g,[],o4,false)) S ?_ ?_ N 0 (jF _) (by omega) _ rfl
 ·rintro s z w hs rfl QA;simp only[Jf];rw[ju (show(s:Int)<S by omega),zB];refine zg.up (λp z=>z=(f,g,[],o4,false)) P ?_ ?_ N 0 (jF _) (by omega) _ rfl
  ·rintro p z w1 hp rfl hw1;simp only[Je];rw[ju (show(p:Int)<P by omega),zB];refine zg.up (λr z=>z=(f,g,[],o4,false)) R ?_ ?_ N 0 (jF _) (by omega) _ rfl
   ·rintro r z w2 hr rfl hw2;simp only[Jd];have ha:=Ew hw.vars s p r;rw[ju (show(r:Int)<R by omega),zB,MG N (by omega) h s p r ⟨by omega,by omega⟩ ⟨by omega,by omega⟩ ⟨by omega,by omega⟩,zK];refine zg.then (zg.of (zcx N hN hw hg (vX f s p r) ha (hi _ ha) (e _) o4) rfl) ?_;rintro _ rfl;rw[zy (show r<9223372036854775807 by omega)];exact hw2 _ rfl
   ·rintro z w2 rfl;simp only[Jd];rw[ql (by omega),zP,zy (show p<9223372036854775807 by omega)];exact hw1 _ rfl
  ·rintro z w1 rfl;simp only[Je];rw[ql (by omega),zP,zy (show s<9223372036854775807 by omega)];exact QA _ rfl
 ·rintro z w rfl;simp only[Jf];rw[ql (by omega),zP];exact zg.ret rfl
theorem zjn(N:Nat)(hN:5000<=N){f g:zX}(h:Sm f)(hg:WF g)(hi:∀a,Zd f.1 a->Zd g.1 a)(e:∀a,(jW g a).outs=(jW f a).outs)(e2:∀x,f216 N g x=f216 N f x):
  zg (f47 N f g [] []) λr=>r.2.1=false/\r.2.2=0:=by
 unfold f47 zjo;rw[Ud N (by omega) h.wf hg,zK,qR rfl,show(!true)=false from rfl,zP,Ol N (by omega) e2 h.wf.vars.len,zK,show(!true)=false from rfl,zP,qR rfl,show(!true)=false from rfl,zK,zP];obtain⟨n,rfl⟩:∃n,N=n+1:=⟨N-1,by omega⟩;rw[iter];simp only[MP];rw[show decide ((0:Int)<len ([]:List Int))=false from rfl,zP,Ub (n+1) (by omega) h,zK,show(!true)=false from rfl,zP];refine zg.then (Sb (n+1) hN h hg hi e _) λr hr=>?_
 exact zg.ret ⟨hr,rfl⟩
theorem zcw(N:Nat)(hN:5000<=N){f g:zX}(h:WF f)(hg:WF g)(a:kz)(ha:Zd f.1 a)(hb:Zd g.1 a)(e:zz ((jW f a).time-(jW g a).time)<=0)(b:Bool)(x:Int)(hx:x<=0):
  zg (f133 N a g f b x) λr=>∃b' x',r=(((),((),((),((),(true,()))))),(g,(f,(b',(x',())))))/\x'<=0:=by
 unfold f133;rw[AH N hN f h a ha,AH N hN g hg a hb];simp only[zK];have:∀c:Bool,zg (cond c (some ((((),((),((),((),(true,()))))),(g,(f,(true,((zz ((jW f a).time-(jW g a).time)),()))))))) (some ((((),((),((),((),(true,()))))),(g,(f,(b,(x,())))))))) λr=>∃b' x',r=(((),((),((),((),(true,()))))),(g,(f,(b',(x',())))))/\x'<=0:=λc=>by
  cases c
  ·exact zg.ret ⟨_,_,rfl,hx⟩
  ·exact zg.ret ⟨_,_,rfl,e⟩
 cases b
 ·exact this true
 ·exact this (decide _)
theorem Sa(N:Nat)(hN:5000<=N){f g:zX}(h:Sm g)(hf:WF f)(hi:∀a,Zd g.1 a->Zd f.1 a)(e:∀a,zz ((jW f a).time-(jW g a).time)<=0):
  zg (En N g g f false 0) λr=>r.2.2.2.2.1<=0:=by
 obtain⟨hw,h1,h2,h3⟩:=id h;have p1:=qh (jT hw.vars.Z0 1);have p2:=qh (jT hw.vars.Z0 2);have p3:=qh (jT hw.vars.Z0 3);obtain⟨S,hS⟩:=Mr (show 0<=zV (jA g.1 1) by omega);obtain⟨P,hP⟩:=Mr (show 0<=zV (jA g.1 2) by omega);obtain⟨R,hR⟩:=Mr (show 0<=zV (jA g.1 3) by omega);unfold En;rw[KU N (by omega) hw.vars (by omega) (by omega) (by omega),zK,hS,hP,hR];refine zg.up (λs z=>∃b x,z=(g,f,b,x)/\x<=0) S ?_ ?_ N 0 (jF _) (by omega) _ ⟨_,_,rfl,Z23 _⟩
 ·rintro s z w hs ⟨b,x,rfl,hx⟩ QA;simp only[Jc];rw[ju (show(s:Int)<S by omega),zB];refine zg.up (λp z=>∃b x,z=(g,f,b,x)/\x<=0) P ?_ ?_ N 0 (jF _) (by omega) _ ⟨_,_,rfl,hx⟩
  ·rintro p z w1 hp ⟨b,x,rfl,hx⟩ hw1;simp only[Jb];rw[ju (show(p:Int)<P by omega),zB];refine zg.up (λr z=>∃b x,z=(g,f,b,x)/\x<=0) R ?_ ?_ N 0 (jF _) (by omega) _ ⟨_,_,rfl,hx⟩
   ·rintro r z w2 hr ⟨b,x,rfl,hx⟩ hw2;simp only[Ja];have ha:=Ew hw.vars s p r;rw[ju (show(r:Int)<R by omega),zB,MG N (by omega) h s p r ⟨by omega,by omega⟩ ⟨by omega,by omega⟩ ⟨by omega,by omega⟩,zK];refine zg.then (zcw N hN hf hw (vX g s p r) (hi _ ha) ha (e _) b x hx) ?_;rintro _ ⟨b',x',rfl,Vd⟩;rw[zy (show r<9223372036854775807 by omega)];exact hw2 _ ⟨_,_,rfl,Vd⟩
   ·rintro z w2 ⟨b,x,rfl,hx⟩;simp only[Ja];rw[ql (by omega),zP,zy (show p<9223372036854775807 by omega)];exact hw1 _ ⟨_,_,rfl,hx⟩
  ·rintro z w1 ⟨b,x,rfl,hx⟩;simp only[Jb];rw[ql (by omega),zP,zy (show s<9223372036854775807 by omega)];exact QA _ ⟨_,_,rfl,hx⟩
 ·rintro z w ⟨b,x,rfl,hx⟩;simp only[Jc];rw[ql (by omega),zP];exact zg.ret hx
theorem zjm(N:Nat)(hN:5000<=N){f g:zX}(h:Sm g)(hf:WF f)(hi:∀a,Zd g.1 a->Zd f.1 a)(e:∀a,zz ((jW f a).time-(jW g a).time)<=0)(e2:∀x,f216 N f x=f216 N g x):
  zg (f48 N g f) λr=>r.1<=0/\r.2=0:=by
 unfold f48;rw[Ud N (by omega) h.wf hf,zK,qR rfl,show(!true)=false from rfl,zP,Ol N (by omega) e2 h.wf.vars.len,zK,show(!true)=false from rfl,zP,Ub N (by omega) h,zK,show(!true)=false from rfl,zP];refine zg.then (Sa N hN h hf hi e) λr hr=>?_
 exact zg.ret ⟨hr,rfl⟩
end Go.Kz
set_option linter.unusedVariables false
set_option linter.unusedSimpArgs false
namespace Go.Kz
theorem Gn{c:Nat->Nat->Int}{n:Nat}:∀(j h:Nat)(B:List Nat),Wg c n j h B->B.length=j/\(∀i∈B,h<i/\i<=n)/\B.Pairwise (· < ·)
 |0,h,[],_=>by simp
 |0,h,_::_,hg=>by simp[Wg]at hg
 |j+1,h,[],hg=>by simp[Wg]at hg
 |j+1,h,i::r,hg=>by
  obtain⟨h1,h2,_,_,h5⟩:=hg;obtain⟨a,b,d⟩:=Gn j i r h5;refine⟨by simp[a],λx hx=>?_,Z3j.2 ⟨λx hx=>(b x hx).1,d⟩⟩;rcases pF.1 hx with rfl|hx
  ·exact⟨h1,h2⟩
  ·have:=b x hx;omega
def raise(bs:List Int)(u:Int):List Int:=bs.set (bs.length-1) (gG (bs.getD (bs.length-1) 0) u)
theorem zd7{f:zX}{l:List wL}(hl:wR l){g:Nat}(hg:1<=g)(h8:g<=8){B:List Nat}(h:Wg (jg l) l.length g 0 B)(hu:0<=(qw f.2.2.1).2.2/\(qw f.2.2.1).2.2<=67108864):Cq f (raise (ends l B) (qw f.2.2.1).2.2):=by
 obtain⟨b1,b2,b3⟩:=Gn g 0 B h;have el:(ends l B).length=g:=by simp[ends,b1]
 have hx:∀i (hi:i<(ends l B).length),0<=(ends l B)[i]/\(ends l B)[i]<=67108864:=λi hi=>by
  simp only[ends,Rq];have:=b2 _ (gU (show i<B.length by simpa[ends]using hi));rw[Uy (by omega)];have:=hl.F3 (k:=B[i]'(by simpa[ends]using hi)-1) (by omega);omega
 have hup:∀i (h0:0<i) (hi:i<(ends l B).length),(ends l B)[i-1]<(ends l B)[i]:=λi h0 hi=>by
  simp only[ends,Rq];have wm:i<B.length:=by simpa[ends]using hi
  have a1:=b2 _ (gU (show i-1<B.length by omega));have a2:=b2 _ (gU wm);have a3:=Z5b.1 b3 (i-1) i (by omega) wm (by omega);rw[Uy (by omega),Uy (by omega)];exact hl.zet (by omega) (by omega)
 have zfe:=hx (g-1) (by omega);have hm:gG ((ends l B).getD ((ends l B).length-1) 0) (qw f.2.2.1).2.2=max (ends l B)[g-1] (qw f.2.2.1).2.2:=by
  rw[FA,uX (show(ends l B).length-1<_ by omega),Z3m];simp only[el];simp only[gG];split<;>omega
 have wG:∀i (hi:i<(raise (ends l B) (qw f.2.2.1).2.2).length),(raise (ends l B) (qw f.2.2.1).2.2)[i]=if i=g-1 then max (ends l B)[g-1] (qw f.2.2.1).2.2 else (ends l B)[i]'(by simpa[raise]using hi):=λi hi=>by
  have e0:(raise (ends l B) (qw f.2.2.1).2.2)[i]=((ends l B).set ((ends l B).length-1) (max (ends l B)[g-1] (qw f.2.2.1).2.2))[i]'(by simpa[raise]using hi):=by
   simp only[raise,hm]
  rw[e0,List.getElem_set];by_cases e:i=g-1
  ·rw[yX e,yX (by omega)]
  ·rw[qW e,qW (by omega)]
 have er:(raise (ends l B) (qw f.2.2.1).2.2).length=g:=by simp[raise,el]
 refine⟨⟨by omega,by omega,λh0=>?_,λi h0 hi=>?_⟩,by omega,λh0=>?_⟩
 ·rw[wG];have:=hx 0 (by omega);split<;>omega
 ·rw[wG,wG];have:=hup i h0 (by omega);rw[qW (by omega)];split
  ·rename_i e;subst e;omega
  ·exact this
 ·rw[wG,yX (by omega)];omega
theorem Cq.some{f:zX}{bs:List Int}(h:Cq f bs){t:Int}(ht:t<=(qw f.2.2.1).2.2):∃x∈bs,t<=x:=by
 have h1:=h.za2.one;have:=h.top h1;exact⟨_,gU (show bs.length-1<bs.length by omega),by omega⟩
theorem Cq.le{f:zX}{bs:List Int}(h:Cq f bs):∀x∈bs,0<=x/\x<=67108864:=by
 have h1:=h.za2.one;have h2:=h.top h1;have up:∀(k i:Nat)(hi:i+k<bs.length),bs[i]<=bs[i+k]:=λk=>by
  induction k with
  |zero=>intro i hi;exact Z23 _
  |succ k ih=>
   intro i hi;have a:=ih i (by omega);have b:=h.za2.up (i+(k+1)) (by omega) hi;simp only[show i+(k+1)-1=i+k by omega]at b;omega
 intro x hx;obtain⟨i,hi,rfl⟩:=Gz.1 hx;have a:=up i 0 (by omega);have b:=up (bs.length-1-i) i (by omega);simp only[QK]at a;simp only[show i+(bs.length-1-i)=bs.length-1 by omega]at b;have:=h.za2.first h1;omega
theorem IH{f:zX}(h:WF f)(ho:Open f){bs:List Int}(hb:Cq f bs)(a:kz):(jW f a).time<=(jW (vf f bs) a).time/\(jW (vf f bs) a).time∈bs:=by
 rw[G6 h ho];exact zh2 (hb.some (B5 h ho a).2)
theorem zav(N:Nat)(g:zX)(tm:Bool){S P R:Nat}(hS:S<=16)(hP:P<=4)(hR:R<=4):YE N g tm S P R<=256:=by
 have key:∀n,E7 (λq=>((ms (uY g tm) ((ZQ g S P R).filter λa=>decide (De N g a=(q:Int)))).length:Int)) n<=256:=λn=>by
  induction n with
  |zero=>simp[E7]
  |succ n ih=>
   have a1:=(Cc (uY g tm) ((ZQ g S P R).filter λa=>decide (De N g a=(n:Int)))).2.2;have a2:=Z5f (λa=>decide (De N g a=(n:Int))) (ZQ g S P R);rw[XK]at a2;have a3:P*R<=4*4:=Z3e hP hR;have a4:S*(P*R)<=16*(4*4):=Z3e hS a3;simp only[E7,gG];split<;>omega
 exact key P
structure zs9 (a b c d n:Int):Prop where
 cd:c=d
 ca:c<=a
 db:d<=b
 bn:b<=n*c
 ba:b<=a
 nn:0<=c/\c<=256
theorem XG(f:zX)(bs:List Int)(S P R:Nat):ZQ (vf f bs) S P R=ZQ f S P R:=rfl
theorem LH(N:Nat)(f:zX)(bs:List Int):De N (vf f bs)=De N f:=rfl
theorem xI{f:zX}(a:kz):uY f false a=u7 ((jW f a).outs,(0,())):=rfl
theorem Zr{f:zX}(a:kz):uY f true a=u7 ((jW f a).outs,((jW f a).time,())):=rfl
theorem z2j(N:Nat){f:zX}(h:WF f)(ho:Open f){bs:List Int}(hb:Cq f bs){S P R:Nat}(hS:S<=16)(hP:P<=4)(hR:R<=4):zs9 (YE N f true S P R) (YE N (vf f bs) true S P R) (YE N f false S P R) (YE N (vf f bs) false S P R) (bs.length:Int):=by
 have i64:∀a,I64 (jW f a).time:=λa=>by
  have:=B5 h ho a;have:=h.ub3;unfold I64;omega
 have outs:∀a,(jW (vf f bs) a).outs=(jW f a).outs:=λa=>by rw[G6 h ho]
 have ht:∀a,(jW (vf f bs) a).time=WC bs (jW f a).time:=λa=>by rw[G6 h ho]
 have sn:∀a,uY (vf f bs) false a=uY f false a:=λa=>by rw[xI,xI,outs]
 have st:∀a,uY (vf f bs) true a=u7 ((jW f a).outs,(WC bs (jW f a).time,())):=λa=>by rw[Zr,outs,ht]
 have xX:∀a,WC bs (jW f a).time∈bs:=λa=>by have:=(IH h ho hb a).2;rwa [ht]at this
 refine⟨?_,?_,?_,?_,?_,z1z _ _,zav N f false hS hP hR⟩
 ·unfold YE;rw[show uY (vf f bs) false=uY f false from funext sn,XG,LH]
 ·unfold YE;refine Lr P λq hq=>Z4r.2 (z2b λa _ b _ e=>?_)
  rw[Zr,Zr]at e;rw[xI,xI];exact WV (JY e).1 (by simp only)
 ·unfold YE;refine Lr P λq hq=>Z4r.2 (z2b λa _ b _ e=>?_)
  rw[Zr,Zr]at e;rw[xI,xI];exact WV (JY e).1 (by simp only)
 ·unfold YE;rw[XG,LH];refine E6 (by omega) P λq hq=>?_
  rw[<-Int.natCast_mul];refine Z4r.2 (zhs bs (λa=>WC bs (jW f a).time) (λa _=>xX a) λa _ b _ e et=>?_);rw[xI,xI]at e;rw[st,st];exact WV (JY e).1 et
 ·unfold YE;rw[XG,LH];refine Lr P λq hq=>Z4r.2 (z2b λa _ b _ e=>?_)
  rw[Zr,Zr]at e;rw[st,st];obtain⟨e1,e2⟩:=JY e;have e3:=e2 (i64 a) (i64 b);exact WV e1 (Jn (WC bs) e3)
theorem law6(f:zX)(k:Int)(hk:(Ty.int .u8).fits k):f6 100000 f k=some true:=by
 have U9:0<=k/\k<=255:=hk;refine zg.eq ?_;unfold f6;rw[zax,zK,Gu,zP];refine zg.then (zju 100000 (by omega) f) λr1 FK=>?_
 cases r1 with
 |false=>
  simp only[Z40,zB,zK]
  exact zg.ret rfl
 |true=>
 have h:=FK rfl;simp only[Gu,zP,zK];have hw:=h.wf;obtain⟨g1,g2,g3⟩:=hw.deep.FU;have hlb:=jN f.2.2.1;by_cases h0:f.2.2.1.length=0
 ·rw[qR (by simp[len,h0]),zB,zK,zB];exact zg.ret rfl
 have hn:0<f.2.2.1.length:=by omega
 rw[qX (by simp only[len];omega),zP,wM,jJ hn (by omega),zY (show f.2.2.1.length-1<f.2.2.1.length by omega),zK,zK];by_cases h6:f.2.2.1[f.2.2.1.length-1].act=6
 ·rw[qR h6,zB];exact zg.ret rfl
 rw[qX h6,zP];have ho:Open f:=by
  intro x hx h6';obtain⟨i,hi,rfl⟩:=Gz.1 hx;have:=((((gO ..).1 (gR hw.steps i hi)).1).1.set h6').1;simp only[Z2w,ve]at this;obtain rfl:i=f.2.2.1.length-1:=by omega
  exact h6 h6'
 refine zg.then (zjt 100000 (by omega) h ho) ?_;rintro l ⟨hl,vg⟩;by_cases h64:(64:Int)<len l
 ·rw[qR h64,zB];exact zg.ret rfl
 rw[qX h64,zP];have hld:=hl.load vg (by simp only[len]at h64;omega);have t0:=Z4s 8 U9.1;have t1:=Int.tmod_lt_of_pos k (show(0:Int)<8 by omega);obtain⟨m,hm⟩:=Mr t0;have ek:zz (1+Int.tmod (zz k) 8)=((m+1:Nat):Int):=by
  rw[zx (n:=k) (by omega) (by omega),hm,zx (by omega) (by omega)];omega
 rw[ek];refine zg.then (zjs hld (show 1<=m+1 by omega) (by omega)) ?_;rintro _ ⟨g,B,hgr,hgy,rfl⟩;have gp:=hgr.pos;have gl:=hgr.le;have el:(ends l B).length=g:=by simp[ends,(Gn g 0 B hgy).1]
 have hub:=kF f _ f.2.2.1 true (BV _) hw.steps;have hb:=zd7 (f:=f) hld gp (by omega) hgy ⟨hub.2.2,hw.ub3⟩;simp only[Uo,Gu,zP,zK];rw[qX (by simp only[len];omega),zP,zK,qX (by simp only[len];omega),zP];rw[show f43 100000 f.2.2.1=_ from Kw 100000 (by omega) f 100000 f.2.2.1 true (by omega) (by omega) hw.steps,zK];have ja:(ends l B).length-1<(ends l B).length:=by omega
 have er:(ends l B).set ((ends l B).length-1) (gG ((ends l B)[(ends l B).length-1]) (min (qw f.2.2.1).2.2 67108865))=raise (ends l B) (qw f.2.2.1).2.2:=by
  have:=hw.ub3;unfold raise;rw[FA,uX ja,Z3m,show min (qw f.2.2.1).2.2 67108865=(qw f.2.2.1).2.2 by omega]
 have elr:(raise (ends l B) (qw f.2.2.1).2.2).length=g:=by simp[raise,el]
 rw[wM (ends l B),jJ (by omega) (by omega),zu (jk ja),zY ja];simp only[zK];rw[zu (jk ja),jv,er];generalize raise (ends l B) (qw f.2.2.1).2.2=bs at hb elr⊢;have hs:=h.sm;have ha:=h.add ho hb;have hwa:=ha.wf;rw[zjq 100000 (by omega) h ho hn hb,zK];simp only[Uo,Gu,zP];have p1:=qh (jT hw.vars.Z0 1);have p2:=qh (jT hw.vars.Z0 2);have p3:=qh (jT hw.vars.Z0 3);obtain⟨S,hS⟩:=Mr (show 0<=zV (jA f.1 1) by omega);obtain⟨P,hP⟩:=Mr (show 0<=zV (jA f.1 2) by omega);obtain⟨R,hR⟩:=Mr (show 0<=zV (jA f.1 3) by omega);obtain⟨s1,s2,s3⟩:=(⟨h.sec,h.pub,h.rnd⟩:_/\_/\_);obtain⟨q1,q2,q3,q4,q5,q6,q7⟩:=z2j 100000 hw ho hb (S:=S) (P:=P) (R:=R) (by omega) (by omega) (by omega);rw[show f45 100000 f ((vf f bs).1,(vf f bs).2)=_ from zjp 100000 (by omega) hw hwa,zK,zK];simp only[Uo,Gu,zP];rw[show f46 100000 f ((vf f bs).1,(vf f bs).2) true=_ from z4y 100000 (by omega) hs ha true hS hP hR hS hP hR,show f46 100000 f ((vf f bs).1,(vf f bs).2) false=_ from z4y 100000 (by omega) hs ha false hS hP hR hS hP hR,zK,zK];have outs:∀a,(jW (vf f bs) a).outs=(jW f a).outs:=λa=>by rw[G6 hw ho]
 have tms:∀a,zz ((jW f a).time-(jW (vf f bs) a).time)<=0:=λa=>by
  have a1:=B5 hw ho a;have a2:=hw.ub3;have a3:=IH hw ho hb a;have a4:=hb.le _ a3.2;rw[zx (by omega) (by omega)];omega
 refine zg.then (show zg (f47 100000 f ((vf f bs).1,(vf f bs).2) [] []) _ from zjn 100000 (by omega) hs hwa (λ_ h=>h) outs (λ_=>rfl)) ?_;rintro⟨c1,c2,c3⟩ ⟨rfl,rfl⟩;refine zg.then (show zg (f48 100000 ((vf f bs).1,(vf f bs).2) f) _ from zjm 100000 (by omega) ha hw (λ_ h=>h) tms (λ_=>rfl)) ?_;rintro⟨d1,d2⟩ ⟨hd,rfl⟩;simp only at hd;have hlen:bs.length<=8:=hb.len;generalize YE 100000 f true S P R=a at *;generalize YE 100000 (vf f bs) true S P R=b at *;generalize YE 100000 f false S P R=c at *;generalize YE 100000 (vf f bs) false S P R=d at *;subst q1;simp only[Uo,Gu,zP,zB,zK];rw[qX (show ¬0<d1 by omega),zP,qR q2,zB,qR q3,zK,zB];have m1:(bs.length:Int)*c<=8*256:=Z2f (by omega) q7 q6 (by omega);have m0:0<=(bs.length:Int)*c:=C4 (by omega) q6;rw[wM,zx (by omega) (by omega),qR q4,zK,zB,qR q5];exact zg.ret rfl
end Go.Kz
