/-
  Runs of steps: the program and the reference go the same way.
-/
import Derived.Test.YtmoggdcmpoobpaaGreatDoorKzTAw
set_option linter.unusedVariables false
set_option linter.unusedSimpArgs false
namespace Go.Kz
structure RS where
 vals:List Int
 outs:List Int
 time:Int
def F3(t:Int)(s:Int×Bool)(x:Int):Int×Bool:=if t<=x/\(s.2=false\/x<s.1) then (x,true) else s
def Ts(l:List Int)(t:Int):Int:=(l.foldl (F3 t) (t,false)).1
theorem zfn(N:Nat)(hN:1000<=N)(l:List Int)(t:Int)(hl:l.length<=32):f252 N l t=some (Ts l t):=by
 refine zp.eq ?_;unfold f252;refine zp.up (λj s=>s=(l.take j).foldl (F3 t) (t,false)) l.length ?_ ?_ N 0 (v8 _) (by omega) _ rfl
 ·rintro j ⟨b,fd⟩ w hj hinv hw;simp only[XR];rw[show decide ((j:Int)<len l)=true from zb hj,zJ,zY hj];simp only[zO,KV,p5,gid];have e:=Z54 (f:=F3 t) (b:=(t,false)) (l:=l.take j) (l':=[l[j]]);rw[<-qX hj,<-hinv]at e;rw[zk (by omega)];refine zp.cond (λhb=>hw _ ?_) λhb=>hw _ ?_
  ·simp only[zA,CX,PF,jc]at hb;rw[e];simp only[Z33,Z4g,F3];rw[qn hb]
  ·rw[e];simp only[Z33,Z4g,F3];rw[qP];intro hc;have:(decide (t<=l[j])&&(!fd||decide (l[j]<b)))=true:=by
    simp only[zA,CX,PF,jc];exact hc
   rw[hb]at this;simp at this
 ·rintro⟨b,fd⟩ w hinv;simp only[XR];rw[show decide (((l.length:Nat):Int)<len l)=false from zH _,zU];rw[Ki]at hinv;refine zp.ret ?_;rw[Ts,<-hinv]
def Tl(f:zt)(v:Int):Int:=match f.1[v.toNat]? with
 |some x=>x.2.2.1
 |none=>0
def Tn(f:zt)(v:Int):Int:=match f.1[v.toNat]? with
 |some x=>x.2.2.2.1
 |none=>0
def Je(c:Int)(t:Tm)(body:RS->RS):Nat->RS->RS
 |0,s=>s
 |n+1,s=>if wD s.vals t=0 then ⟨s.vals,s.outs,zz (s.time+c)⟩ else Je c t body n (body ⟨s.vals,s.outs,zz (s.time+c)⟩)
mutual
def AK(f:zt)(hs:List Int):Sp->RS->RS
 |⟨a,c,v,n,t,x,y,b⟩,s=>
  if a=4 then Je c t (λs=>vc f hs x s) n.toNat s
  else if a=0 then ⟨qR s.vals v (xY (wD s.vals t) (Tl f v) (Tn f v)),s.outs,zz (s.time+c)⟩
  else if a=1 then ⟨s.vals,s.outs++[wD s.vals t],zz (s.time+c)⟩
  else if a=3 then (if wD s.vals t=0 then vc f hs y ⟨s.vals,s.outs,zz (s.time+c)⟩ else vc f hs x ⟨s.vals,s.outs,zz (s.time+c)⟩)
  else if a=5 then ⟨qR s.vals v (xY (hs.getD n.toNat 0) (Tl f v) (Tn f v)),s.outs,zz (s.time+c)⟩
  else if a=6 then ⟨s.vals,s.outs,Ts b (zz (s.time+c))⟩
  else ⟨s.vals,s.outs,zz (s.time+c)⟩
def vc(f:zt)(hs:List Int):List Sp->RS->RS
 |[],s=>s
 |x::l,s=>vc f hs l (AK f hs x s)
end
theorem VN(f:zt)(hs:List Int)(x:Sp)(s:RS):AK f hs x s =
  if x.act=4 then Je x.cost x.term (λs=>vc f hs x.jM s) x.n.toNat s
  else if x.act=0 then ⟨qR s.vals x.var (xY (wD s.vals x.term) (Tl f x.var) (Tn f x.var)),s.outs,zz (s.time+x.cost)⟩
  else if x.act=1 then ⟨s.vals,s.outs++[wD s.vals x.term],zz (s.time+x.cost)⟩
  else if x.act=3 then (if wD s.vals x.term=0 then vc f hs x.ui ⟨s.vals,s.outs,zz (s.time+x.cost)⟩ else vc f hs x.jM ⟨s.vals,s.outs,zz (s.time+x.cost)⟩)
  else if x.act=5 then ⟨qR s.vals x.var (xY (hs.getD x.n.toNat 0) (Tl f x.var) (Tn f x.var)),s.outs,zz (s.time+x.cost)⟩
  else if x.act=6 then ⟨s.vals,s.outs,Ts x.bounds (zz (s.time+x.cost))⟩
  else ⟨s.vals,s.outs,zz (s.time+x.cost)⟩:=by cases x;simp only[AK]
theorem DN(f:zt)(hs:List Int):∀(l:List Sp)(x:Sp)(s:RS),vc f hs (l++[x]) s=AK f hs x (vc f hs l s)
 |[],x,s=>by simp only[JD,vc]
 |y::l,x,s=>by simp only[Qm,vc,DN f hs l x]
structure z2m (s s':RS) (o:Int):Prop where
 vals:s'.vals.length=s.vals.length
 outs:(s'.outs.length:Int)<=s.outs.length+o
 more:s.outs.length<=s'.outs.length
theorem DS{c:Int}{t:Tm}{body:RS->RS}{o:Int}(ho:0<=o)(hb:∀s,z2m s (body s) o):∀(n:Nat)(s:RS),z2m s (Je c t body n s) (n*o)
 |0,s=>⟨rfl,by simp[Je],jq _⟩
 |n+1,s=>by
  simp only[Je];have hn:(0:Int)<=n*o:=Ol (by omega) ho;have e:((n+1:Nat):Int)*o=n*o+o:=by rw[Int.natCast_add,Z55];simp
  split
  ·exact⟨rfl,by simp only;rw[e];omega,jq _⟩
  ·obtain⟨a1,a2,a3⟩:=hb ⟨s.vals,s.outs,zz (s.time+c)⟩;obtain⟨b1,b2,b3⟩:=DS ho hb n (body ⟨s.vals,s.outs,zz (s.time+c)⟩);exact⟨by rw[b1,a1],by rw[e];simp only at a2;omega,Z1o a3 b3⟩
theorem IK(l:List Int)(i x:Int):(qR l i x).length=l.length:=by simp[qR]
theorem QZ(f:zt)(hs:List Int):∀(M:Nat)(l:List Sp)(top:Bool),yA l<M->JM f top l->∀s,z2m s (vc f hs l s) (qf l).2.1
 |0,l,_,h,_,_=>by omega
 |M+1,[],_,_,_,s=>⟨rfl,by simp[vc,qf],jq _⟩
 |M+1,x::l,top,h,zq,s=>by
  simp only[yA]at h;have he:=kX x;have hp:=yG x.term;simp only[JM]at zq;have Zt:=Et f _ _ zq.1;obtain⟨⟨q1,q2,q3⟩,q4,q5⟩:=(Z1 ..).1 zq.1;obtain⟨a1,a2,a3⟩:=xn f _ x.jM false (Eb _) q4;obtain⟨b1,b2,b3⟩:=xn f _ x.ui false (Eb _) q5;have kx:=λs=>QZ f hs M x.jM false (by omega) q4 s
  have ky:=λs=>QZ f hs M x.ui false (by omega) q5 s
  have kl:=λs=>QZ f hs M l top (by omega) zq.2 s
  have one:z2m s (AK f hs x s) (ubS x).2.1:=by
   rw[VN,Av];by_cases h4:x.act=4
   ·rw[qn h4,qP (show ¬x.act=1 by omega),qP (show ¬x.act=3 by omega),qn h4];have:=DS (c:=x.cost) (t:=x.term) (body:=λs=>vc f hs x.jM s) a2 kx x.n.toNat s;have e:((x.n.toNat:Nat):Int)=x.n:=by have:=q2.n0;omega
    rw[e]at this;simp only;rw[show(0:Int)+(qf x.jM).2.1=(qf x.jM).2.1 by omega];exact this
   rw[qP h4];by_cases h0:x.act=0
   ·rw[qn h0,qP (show ¬x.act=1 by omega),qP (show ¬x.act=3 by omega),qP h4];exact⟨IK ..,by simp,jq _⟩
   rw[qP h0];by_cases h1:x.act=1
   ·rw[qn h1,qn h1];exact⟨rfl,by simp,by simp⟩
   rw[qP h1,qP h1];by_cases h3:x.act=3
   ·rw[qn h3,qn h3];simp only;split
    ·obtain⟨c1,c2,c3⟩:=ky ⟨s.vals,s.outs,zz (s.time+x.cost)⟩;simp only at c2;exact⟨c1,by omega,c3⟩
    ·obtain⟨c1,c2,c3⟩:=kx ⟨s.vals,s.outs,zz (s.time+x.cost)⟩;simp only at c2;exact⟨c1,by omega,c3⟩
   rw[qP h3,qP h3,qP h4];by_cases h5:x.act=5
   ·rw[qn h5];exact⟨IK ..,by simp,jq _⟩
   rw[qP h5];by_cases h6:x.act=6
   ·rw[qn h6];exact⟨rfl,by simp,jq _⟩
   rw[qP h6];exact⟨rfl,by simp,jq _⟩
  simp only[vc,qf];obtain⟨c1,c2,c3⟩:=one;obtain⟨d1,d2,d3⟩:=kl (AK f hs x s);exact⟨by rw[d1,c1],by omega,Z1o c3 d3⟩
end Go.Kz
namespace Go.Kz
abbrev zvd:=(zt×(Unit×(Unit×(Unit×(Int×Unit)))))×((List Int)×((List Int)×((List Int)×Unit)))
@[reducible] def z0q (f:zt) (hs:List Int) (s:RS):zvd:=((f,((),((),((),(s.time,()))))),(s.vals,(hs,(s.outs,()))))
theorem zjx{f:zt}{v:Int}(h:JG f.1 v=true):∃k:Nat,∃hk:k<f.1.length,v=k/\idx f.1 v=some f.1[k]/\Tl f v=f.1[k].2.2.1/\Tn f v=f.1[k].2.2.2.1:=by
 obtain⟨k,hk,rfl,_⟩:=Gu h;exact⟨k,hk,rfl,zY hk,by simp[Tl,hk],by simp[Tn,hk]⟩
theorem SE(N:Nat)(f:zt)(hv:Qn f.1)(hs:List Int)(v n:Int)(h:JG f.1 v=true)(s:RS)(hl:s.vals.length=f.1.length):
  f251 N v n f s.time s.vals hs s.outs=some (((),()),z0q f hs ⟨qR s.vals v (xY n (Tl f v) (Tn f v)),s.outs,s.time⟩):=by
 obtain⟨k,hk,rfl,e1,e2,e3⟩:=zjx h;unfold f251;rw[e1];simp only[zO];rw[Hx N n _ _ (hv.each k hk).Qs.1,zO,qx (by simp only[wY,zA,jc];omega)];rw[zY (show k<s.vals.length by omega)];simp only[zO];rw[e2,e3]
theorem z3u(N:Nat)(hN:5000<=N)(f:zt)(t:Tm)(ht:xP t<=200)(vW:Bool)(h:Ec f.1 vW t)(vals:List Int)(hl:vals.length=f.1.length):f249 N vals (t.1,(t.2,(t.3,())))=some (wD vals t):=
 I9 N (by omega) f.1 vW vals hl N t (by omega) ht h.1
theorem zfo(N:Nat)(hN:5000<=N)(f:zt)(hs:List Int)(pV:PX)(x:Sp)(o:Int)(ho:0<=o)(B:Int)(h0:0<=x.n)(h4:x.n<=4096)(ht:xP x.term<=200)(hT:Ec f.1 false x.term)
  (hk:∀s,z2m s (vc f hs x.jM s) o)
  (hr:∀s:RS,s.vals.length=f.1.length->s.outs.length+o<=B->pV x.jM f s.time s.vals hs s.outs=some (((),()),z0q f hs (vc f hs x.jM s)))
  (s:RS) (hl:s.vals.length=f.1.length) (hB:s.outs.length+x.n*o<=B) :
  f250 N pV (spD x) f s.time s.vals hs s.outs=some (((),()),z0q f hs (Je x.cost x.term (λs=>vc f hs x.jM s) x.n.toNat s)):=by
 unfold f250;refine zp.eq ?_;obtain⟨n,hn⟩:∃n:Nat,x.n=n:=⟨x.n.toNat,by omega⟩;rw[hn]at hB h4;rw[show x.n.toNat=n by omega];refine zp.up (λj u=>∃z:RS,u=(f,(z.time,(z.vals,(hs,z.outs))))/\z.vals.length=f.1.length/\z.outs.length+((n-j:Nat):Int)*o<=B/\
   Je x.cost x.term (λs=>vc f hs x.jM s) n s=Je x.cost x.term (λs=>vc f hs x.jM s) (n-j) z) n ?_ ?_ N 0 (v8 _) (by omega) _ ⟨s,rfl,hl,by simpa using hB,rfl⟩
 ·rintro j u w hj ⟨z,rfl,z1,z2,z3⟩ hw;simp only[XS];rw[jQ (show(j:Int)<x.n by omega),zJ];rw[show f249 N z.vals ((spD x).2.2.2.2.1.1,(spD x).2.2.2.2.1.2)=_ from(z3u N hN f x.term ht false hT z.vals z1)];simp only[zO];obtain⟨m,hm⟩:∃m,n-j=m+1:=⟨n-j-1,by omega⟩;rw[hm]at z2 z3;simp only[Je]at z3;by_cases hz:wD z.vals x.term=0
  ·rw[jQ hz,zJ];rw[qn hz]at z3;rw[z3];exact zp.ret rfl
  ·rw[qd hz,zU];rw[qP hz]at z3;have em:((m+1:Nat):Int)*o=m*o+o:=by rw[Int.natCast_add,Z55];simp
   have em2:(0:Int)<=m*o:=Ol (by omega) ho;rw[show pV (spD x).2.2.2.2.2.1 f (zz (z.time+(spD x).2.1)) z.vals hs z.outs=_ from hr ⟨z.vals,z.outs,zz (z.time+x.cost)⟩ z1 (by simp only;omega)];simp only[zO];rw[zk (by omega)];obtain⟨k1,k2,k3⟩:=hk ⟨z.vals,z.outs,zz (z.time+x.cost)⟩;refine hw _ ⟨_,rfl,by rw[k1];exact z1,?_,by rw[z3,show n-(j+1)=m by omega]⟩;simp only at k2;rw[show n-(j+1)=m by omega];omega
 ·rintro u w ⟨z,rfl,z1,z2,z3⟩;simp only[XS];rw[qd (show ¬(n:Int)<x.n by omega),zU];rw[Z44]at z3;rw[z3];exact zp.ret rfl
theorem AU:(4294967296:Int)<=(room:Int):=by decide
theorem Gs(N:Nat)(hN:5000<=N)(f:zt)(hv:Qn f.1)(hs:List Int)(hhs:hs.length=f.2.1.length):∀(M:Nat)(l:List Sp)(top:Bool),yA l<M->yA l<=200->JM f top l->∀s:RS,s.vals.length=f.1.length->s.outs.length+(qf l).2.1<=1000000->
  Bn N M l f s.time s.vals hs s.outs=some (((),()),z0q f hs (vc f hs l s))
 |0,l,_,h,_,_,_,_,_=>by omega
 |M+1,l,top,h,ht,zq,s,hl,hB=>by
  show Sh N (Bn N M) l f s.time s.vals hs s.outs=_;have Uc:=vU l;have rb:=AU;unfold Sh;refine zp.eq ?_;refine zp.up (λj u=>∃z:RS,z=vc f hs (l.take j) s/\u=(f,(z.time,(z.vals,(hs,z.outs))))/\z.vals.length=f.1.length/\z.outs.length<=s.outs.length+(qf (l.take j)).2.1/\0<=(qf (l.take j)).2.1) l.length ?_ ?_ N 0 (v8 _) (by omega) _ ⟨s,by simp[vc],rfl,hl,by simp[qf],by simp[qf]⟩
  ·rintro j u w hj ⟨z,hz,rfl,z1,z2,z4⟩ hw;have hm:=kA (wB hj);have he:=kX l[j];have htp:=yG l[j].term;have hsj:=Y7 zq j hj;have Zt:=Et f _ _ hsj;obtain⟨⟨q1,q2,q3⟩,q4,q5⟩:=(Z1 ..).1 hsj;obtain⟨a1,a2,a3⟩:=xn f _ l[j].jM false (Eb _) q4;obtain⟨b1,b2,b3⟩:=xn f _ l[j].ui false (Eb _) q5;have N4:=Aw (l.take j) l[j];rw[<-qX hj]at N4;have hrn:=DN f hs (l.take j) l[j] s;rw[<-qX hj,<-hz]at hrn;have hle:(qf (l.take (j+1))).2.1<=(qf l).2.1:=by
    have:JM f top (l.drop (j+1)):=NV λi h=>by
     have hi:j+1+i<l.length:=by rw[Z20]at h;omega
     have:=Y7 zq (j+1+i) hi;rw[Z4r];have e:decide (i+1=(l.drop (j+1)).length)=decide (j+1+i+1=l.length):=by
      rw[Z20];congr 1;simp only[eq_iff_iff];omega
     rw[e];exact this
    have hd:=xn f _ (l.drop (j+1)) top (Eb _) this;have app:∀a b:List Sp,(qf (a++b)).2.1=(qf a).2.1+(qf b).2.1:=λa b=>by
     induction a with
     |nil=>simp[qf]
     |cons x a ih=>simp only[Qm,qf,ih];omega
    have e:=app (l.take (j+1)) (l.drop (j+1));rw[Z1v]at e;have:=hd.2.1;omega
   have BP:(qf (l.take (j+1))).2.1=(qf (l.take j)).2.1+(ubS l[j]).2.1:=by rw[N4]
   have hkp:z2m z (AK f hs l[j] z) (ubS l[j]).2.1:=by
    have:=QZ f hs (yA [l[j]]+1) [l[j]] (top&&decide (j+1=l.length)) (by omega) (by simp only[JM,List.isEmpty_nil,Z4c];exact⟨hsj,trivial⟩) z;simpa only[vc,qf,Int.add_zero]using this
   obtain⟨k1,k2,k3⟩:=hkp;have step:∀u:zt×(Int×(List Int×(List Int×List Int))),u=(f,((AK f hs l[j] z).time,((AK f hs l[j] z).vals,(hs,(AK f hs l[j] z).outs))))->zp (w (zz ((j:Int)+1),u)) λy=>y=(((),()),z0q f hs (vc f hs l s)):=by
    rintro u rfl;rw[zk (by omega)];exact hw _ ⟨AK f hs l[j] z,hrn.symm,rfl,by rw[k1];exact z1,by rw[BP];omega,by rw[BP];have:=Zt.2.1;omega⟩
   rw[VN]at step;rw[Av]at BP;simp only[Gt];rw[show decide ((j:Int)<len l)=true from zb hj,zJ,zY hj];simp only[zO];by_cases h4:l[j].act=4
   ·rw[jQ h4,zJ];rw[qn h4]at step;rw[qP (show ¬l[j].act=1 by omega),qP (show ¬l[j].act=3 by omega),qn h4]at BP;simp only at BP;rw[show(0:Int)+(qf l[j].jM).2.1=(qf l[j].jM).2.1 by omega]at BP;rw[show f250 N (Bn N M) (l[j].1,(l[j].2,(l[j].3,(l[j].4,((l[j].5.1,(l[j].5.2,(l[j].5.3,()))),(l[j].6,(l[j].7,(l[j].8,())))))))) f z.time z.vals hs z.outs=_ from
     zfo N hN f hs (Bn N M) l[j] (qf l[j].jM).2.1 a2 1000000 q2.n0 (q2.n h4) (by omega) q3 (λs=>QZ f hs _ l[j].jM false (Eb _) q4 s)
      (λs c1 c2=>Gs N hN f hv hs hhs M l[j].jM false (by omega) (by omega) q4 s c1 c2) z z1 (by omega)]
    simp only[zO];exact step _ rfl
   rw[qd h4,zU];rw[qP h4]at step;have vt:=λvals hl=>(z3u N hN f l[j].term (by omega) false q3 vals hl)
   by_cases h0:l[j].act=0
   ·rw[jQ h0,zJ,NF];rw[qn h0]at step;rw[vt z.vals z1,zO];rw[show f251 N l[j].3 (wD z.vals l[j].term) f (zz (z.time+l[j].2)) z.vals hs z.outs=_ from SE N f hv hs l[j].var _ (q1.var (.inl h0)) ⟨z.vals,z.outs,zz (z.time+l[j].cost)⟩ z1];simp only[zO];exact step _ rfl
   rw[qd h0,zU];rw[qP h0]at step;by_cases h1:l[j].act=1
   ·rw[jQ h1,zJ];rw[qn h1]at step BP;rw[vt z.vals z1,zO];simp only at BP;refine zp.qV (by simp only[jc];omega) ?_;exact step _ rfl
   rw[qd h1,zU];rw[qP h1]at step BP;by_cases h3:l[j].act=3
   ·rw[jQ h3,zJ];rw[qn h3]at step BP;simp only at BP;rw[vt z.vals z1,zO];by_cases LU:wD z.vals l[j].term=0
    ·rw[jQ LU,show(!true)=false from rfl,zU];rw[qn LU]at step;rw[show Bn N M l[j].7 f (zz (z.time+l[j].2)) z.vals hs z.outs=_ from Gs N hN f hv hs hhs M l[j].ui false (by omega) (by omega) q5 ⟨z.vals,z.outs,zz (z.time+l[j].cost)⟩ z1 (by simp only;omega)];simp only[zO];exact step _ rfl
    ·rw[qd LU,show(!false)=true from rfl,zJ];rw[qP LU]at step;rw[show Bn N M l[j].6 f (zz (z.time+l[j].2)) z.vals hs z.outs=_ from Gs N hN f hv hs hhs M l[j].jM false (by omega) (by omega) q4 ⟨z.vals,z.outs,zz (z.time+l[j].cost)⟩ z1 (by simp only;omega)];simp only[zO];exact step _ rfl
   rw[qd h3,zU];rw[qP h3]at step;by_cases h5:l[j].act=5
   ·rw[jQ h5,zJ];rw[qn h5]at step;obtain⟨r1,r2⟩:=q1.rel h5;simp only[len]at r2;have hk:l[j].n.toNat<hs.length:=by omega
    have ei:idx hs l[j].4=some (hs.getD l[j].n.toNat 0):=by
     rw[show idx hs l[j].4=some hs[l[j].n.toNat] from Kx r1 (by omega),ZB,wV hk];rfl
    refine zp.qV (by simp only[wY,zA,jc];omega) ?_;rw[ei,zO];rw[show f251 N l[j].3 (hs.getD l[j].n.toNat 0) f (zz (z.time+l[j].2)) z.vals hs z.outs=_ from SE N f hv hs l[j].var _ (q1.var (.inr h5)) ⟨z.vals,z.outs,zz (z.time+l[j].cost)⟩ z1];simp only[zO];exact step _ rfl
   rw[qd h5,zU];rw[qP h5]at step;by_cases h6:l[j].act=6
   ·rw[jQ h6,zJ];rw[qn h6]at step;rw[zfn N (by omega) _ _ (q1.set h6).2.zl1,zO];exact step _ rfl
   rw[qd h6,zU];rw[qP h6]at step;exact step _ rfl
  ·rintro u w ⟨z,hz,rfl,z1,z2,z4⟩;simp only[Gt];rw[show decide (((l.length:Nat):Int)<len l)=false from zH _,zU];rw[Ki]at hz;rw[<-hz];exact zp.ret rfl
end Go.Kz
namespace Go.Kz
abbrev Jj:=List Int×(List Int×(List Int×Unit))
def QE(a:Jj)(k:Int):List Int:=if k=1 then a.1 else if k=2 then a.2.1 else a.2.2.1
structure Fits (l:List zi) (xs:List Int):Prop where
 len:xs.length=l.length
 bd:∀i (h:i<l.length) (h':i<xs.length),l[i].2.2.1<=xs[i]/\xs[i]<=l[i].2.2.2.1
def Ry(vs:List zi)(a:Jj):Prop:=∀k:Int,1<=k->k<=3->Fits (qh vs k) (QE a k)
def jA(vs:List zi)(k:Int)(j:Nat):Nat:=(qh (vs.take j) k).length
def CI(vs:List zi)(a:Jj)(j:Nat):Int:=match vs[j]? with
 |some v=>if v.2.1=0 then v.2.2.2.2.1 else (QE a v.2.1).getD (jA vs v.2.1 j) 0
 |none=>0
def Wg(vs:List zi)(a:Jj)(n:Nat):List Int:=(List.range n).map (CI vs a)
theorem IQ(vs:List zi)(a:Jj)(n:Nat):Wg vs a (n+1)=Wg vs a n++[CI vs a n]:=by
 simp[Wg,Z2d]
theorem VM(vs:List zi)(a:Jj)(n:Nat):(Wg vs a n).length=n:=by simp[Wg]
theorem kr(vs:List zi)(k:Int){j:Nat}(hj:j<vs.length):jA vs k (j+1)=if vs[j].2.1=k then jA vs k j+1 else jA vs k j:=by
 unfold jA;rw[qX hj,Z4];split<;>simp
theorem Qh(vs:List zi)(k:Int):jA vs k vs.length=(qh vs k).length:=by simp[jA]
theorem z5s(vs:List zi){j:Nat}(hj:j<vs.length):∃h:jA vs vs[j].2.1 j<(qh vs vs[j].2.1).length,(qh vs vs[j].2.1)[jA vs vs[j].2.1 j]=vs[j]:=by
 have e:qh vs vs[j].2.1=qh (vs.take j) vs[j].2.1++(vs[j]::qh (vs.drop (j+1)) vs[j].2.1):=by
  have h1:vs=vs.take j++(vs[j]::vs.drop (j+1)):=by
   rw[Z5z,Z1v]
  have h2:∀(l m:List zi)(v:zi),qh (l++(v::m)) v.2.1=qh l v.2.1++(v::qh m v.2.1):=λl m v=>by
   simp[qh]
  have:=h2 (vs.take j) (vs.drop (j+1)) vs[j];rw[<-h1]at this;exact this
 have hl:jA vs vs[j].2.1 j<(qh vs vs[j].2.1).length:=by rw[e];simp[jA]
 refine⟨hl,?_⟩;have:(qh vs vs[j].2.1)[jA vs vs[j].2.1 j]? = some vs[j]:=by rw[e];simp[jA]
 rw[wV hl]at this;exact Option.some.inj this
theorem z73{vs:List zi}{a:Jj}(hv:Qn vs)(ha:Ry vs a){j:Nat}(hj:j<vs.length)(h0:¬vs[j].2.1=0):
  ∃h:jA vs vs[j].2.1 j<(QE a vs[j].2.1).length,CI vs a j=(QE a vs[j].2.1)[jA vs vs[j].2.1 j]/\vs[j].2.2.1<=CI vs a j/\CI vs a j<=vs[j].2.2.2.1:=by
 have hk:=hv.each j hj;have f:=ha vs[j].2.1 (by have:=hk.LY;omega) hk.LQ;obtain⟨h1,h2⟩:=z5s vs hj;have h3:jA vs vs[j].2.1 j<(QE a vs[j].2.1).length:=by rw[f.len];exact h1
 have e:CI vs a j=(QE a vs[j].2.1)[jA vs vs[j].2.1 j]:=by
  simp only[CI,wV hj];rw[qP h0,ZB,wV h3];rfl
 have b:=f.bd _ h1 h3;rw[h2,<-e]at b;exact⟨h3,e,b⟩
theorem IZ{vs:List zi}{a:Jj}(hv:Qn vs){j:Nat}(hj:j<vs.length)(h0:vs[j].2.1=0):CI vs a j=vs[j].2.2.2.2.1/\vs[j].2.2.1<=CI vs a j/\CI vs a j<=vs[j].2.2.2.1:=by
 have e:CI vs a j=vs[j].2.2.2.2.1:=by
  simp only[CI,wV hj];rw[qn h0]
 have:=(hv.each j hj).init h0;exact⟨e,by omega,by omega⟩
end Go.Kz
namespace Go.Kz
@[reducible] def V7 (vs:List zi) (a:Jj) (j:Nat):List (List Int):=[[],a.1.drop (jA vs 1 j),a.2.1.drop (jA vs 2 j),a.2.2.1.drop (jA vs 3 j)]
def GF(f:zt)(vals:List Int):List Int:=f.2.1.map λh=>xY (wD vals (Xu h.2.2.2.1)) h.2.1 h.2.2.1
theorem zft(N:Nat)(hN:5000<=N)(f:zt)(h:WF f)(a:Jj)(ha:Ry f.1 a):f168 N f a=some (((),(0,())),z0q f (GF f (Wg f.1 a f.1.length)) ⟨Wg f.1 a f.1.length,[],0⟩):=by
 obtain⟨g1,g2,g3⟩:=h.deep.few;have hv:=h.vars;have r1:=XP;refine zp.eq ?_;unfold f168;rw[z8s N (by omega) f h];simp only[zO,Nq,Qv,zU];refine zp.up (λj s=>s=(false,(Wg f.1 a j,V7 f.1 a j))) f.1.length ?_ ?_ N 0 (v8 _) (by omega) _ (by simp[Wg,V7,jA,qh])
 ·rintro j s w hj rfl hw;have hk0:=(hv.each j hj).LY;have hk3:=(hv.each j hj).LQ;have hlen:=VM f.1 a j;have c1:=kr f.1 1 hj;have c2:=kr f.1 2 hj;have c3:=kr f.1 3 hj;have KS:decide ((Nat.succ (List.length (Wg f.1 a j)))<=room)=true:=by simp only[jc];omega
  have nb:∀x:Int,f.1[j].2.2.1<=x->x<=f.1[j].2.2.2.1->((false||decide (x<f.1[j].2.2.1))||decide (f.1[j].2.2.2.1<x))=false:=λx b1 b2=>by
   simp only[Wh,Q9,X3];omega
  simp only[Xe];rw[show decide ((j:Int)<len f.1)=true from zb hj,zJ,zY hj];simp only[zO];by_cases h0:f.1[j].2.1=0
  ·obtain⟨q2,q3,q4⟩:=IZ (a:=a) hv hj h0;rw[jQ h0,show(!true)=false from rfl,zU,KS];refine zp.qV rfl ?_;rw[zk (by omega),<-q2];refine hw _ ?_;simp only[V7];rw[c1,c2,c3,qP (by omega),qP (by omega),qP (by omega),IQ]
  rw[qd h0,show(!false)=true from rfl,zJ];obtain⟨q1,q2,q3,q4⟩:=z73 hv ha hj h0;have dr:∀(l:List Int)(c:Nat),c<l.length->len (l.drop c)≠0/\idx (l.drop c) 0=l[c]?/\sub (l.drop c) 1 (len (l.drop c))=l.drop (c+1):=λl c hc=>by
   refine⟨by simp only[len,Z20];omega,?_,?_⟩
   ·rw[show(0:Int)=((0:Nat):Int) from rfl,FM,Z34];rfl
   ·show((l.drop c).drop 1).take _=_;rw[Z1t,Z21];simp only[len,Z20];omega
  have N6:f.1[j].2.1=((f.1[j].2.1.toNat:Nat):Int):=by omega
  have hib:wY (V7 f.1 a j) f.1[j].2.1=true:=by simp only[wY,V7,X4,Z1y,zA,jc];omega
  have key:idx (V7 f.1 a j) f.1[j].2.1=some ((QE a f.1[j].2.1).drop (jA f.1 f.1[j].2.1 j))/\qR (V7 f.1 a j) f.1[j].2.1 ((QE a f.1[j].2.1).drop (jA f.1 f.1[j].2.1 j+1))=V7 f.1 a (j+1):=by
   have:f.1[j].2.1=1\/f.1[j].2.1=2\/f.1[j].2.1=3:=by omega
   simp only[V7];rw[c1,c2,c3];rcases this with e|e|e<;>rw[e]<;>exact⟨rfl,rfl⟩
  obtain⟨d1,d2,d3⟩:=dr (QE a f.1[j].2.1) (jA f.1 f.1[j].2.1 j) q1;rw[hib,key.1];refine zp.qV rfl ?_;simp only[zO];rw[qd d1,zU,d2,wV q1,<-q2];refine zp.qV rfl ?_;simp only[zO];refine zp.qV rfl (zp.qV ?_ (zp.qV rfl ?_))
  ·simp only[zA,jc];have:len ((QE a f.1[j].2.1).drop (jA f.1 f.1[j].2.1 j))=(((QE a f.1[j].2.1).length-jA f.1 f.1[j].2.1 j:Nat):Int):=by simp only[len,Z20]
   rw[this];omega
  simp only[KV,zO];rw[nb _ q3 q4,KS,d3,key.2];refine zp.qV rfl ?_;rw[zk (by omega)];refine hw _ ?_;rw[IQ]
 ·rintro s w rfl;simp only[Xe];rw[show decide (((f.1.length:Nat):Int)<len f.1)=false from zH _,zU];have em:∀k:Nat,(hk:k<4)->((V7 f.1 a f.1.length)[k]'hk)=[]:=by
   intro k hk;have d1:a.1.drop (jA f.1 1 f.1.length)=[]:=I4 (by rw[Qh,<-(ha 1 (by omega) (by omega)).len];exact jq _);have d2:a.2.1.drop (jA f.1 2 f.1.length)=[]:=I4 (by rw[Qh,<-(ha 2 (by omega) (by omega)).len];exact jq _);have d3:a.2.2.1.drop (jA f.1 3 f.1.length)=[]:=I4 (by rw[Qh,<-(ha 3 (by omega) (by omega)).len];exact jq _);have:k=0\/k=1\/k=2\/k=3:=by omega
   rcases this with rfl|rfl|rfl|rfl
   ·rfl
   ·exact d1
   ·exact d2
   ·exact d3
  refine zp.CT (λ_=>True) 4 ?_ ?_ N 0 (v8 _) (by omega) trivial
  ·intro k w' hk _ PD;simp only[P1];rw[jQ (show(k:Int)<4 by omega),zJ,zY (l:=V7 f.1 a f.1.length) hk,em k hk];simp only[zO];rw[show decide (0<len ([]:List Int))=false from rfl,zU,zk (by omega)];exact PD trivial
  ·intro w' _;simp only[P1];rw[show decide (((4:Nat):Int)<4)=false from rfl,zU,zU];generalize LX:Wg f.1 a f.1.length=vals;have hl:vals.length=f.1.length:=by rw[<-LX,VM]
   refine zp.up (λj s=>s=(f.2.1.take j).map λh=>xY (wD vals (Xu h.2.2.2.1)) h.2.1 h.2.2.1) f.2.1.length ?_ ?_ N 0 (v8 _) (by omega) [] rfl
   ·rintro j s w hj rfl hw;have hz:ql f.2.1[j]<=p4 f.2.1:=Zy (wB hj);simp only[ql]at hz;simp only[P0];rw[show decide ((j:Int)<len f.2.1)=true from zb hj,zJ,zY hj];simp only[zO];rw[show f249 N vals (f.2.1[j].2.2.2.1.1,f.2.1[j].2.2.2.1.2)=_ from(z3u N hN f (Xu f.2.1[j].2.2.2.1) (by omega) true (h.GD j hj).term vals hl)];simp only[zO];rw[Hx N _ _ _ (G6.1 (h.GD j hj).Qs).1];simp only[zO];refine zp.qV (by simp only[jc,J9,CB];omega) ?_;rw[zk (by omega)];refine hw _ ?_;rw[qX hj,XZ];rfl
   ·rintro s w rfl;simp only[P0];rw[show decide (((f.2.1.length:Nat):Int)<len f.2.1)=false from zH _,zU,Ki];exact zp.ret rfl
def Q5(f:zt)(a:Jj):RS:=vc f (GF f (Wg f.1 a f.1.length)) f.2.2.1 ⟨Wg f.1 a f.1.length,[],0⟩
theorem zn0(N:Nat)(hN:5000<=N)(f:zt)(h:WF f)(a:Jj)(ha:Ry f.1 a):f73 N f a=some (((Q5 f a).outs,((Q5 f a).time,())),0):=by
 obtain⟨g1,g2,g3⟩:=h.deep.few;have h2:=h.ub2;unfold f73;rw[zft N hN f h a ha];simp only[zO,Nq,Qv,zU];rw[show f169 N f.2.2.1 f 0 (Wg f.1 a f.1.length) (GF f (Wg f.1 a f.1.length)) []=_ from Gs N hN f h.vars _ (by simp[GF]) N f.2.2.1 true (by omega) (by omega) h.steps ⟨Wg f.1 a f.1.length,[],0⟩ (VM ..) (by simp only[Z1y];omega)];rfl
end Go.Kz
namespace Go.Kz
theorem zn1(N:Nat)(hN:1000<=N){vs:List zi}(hv:Qn vs)(k:Int)(hk:0<=k/\k<=3)(hp:zf (qh vs k)<=4096)(xs:List Int)(hf:Fits (qh vs k) xs):zp (f70 N vs k xs) λr=>r.2=0:=by
 have hl:=hv.len;unfold f70;rw[HG N hN hl hv.Qs k hk hp];simp only[zO,Nq,Qv,zU];have Uc:=YP vs k;generalize qh vs k=l at *;obtain⟨h1,h2⟩:=hf;rw[jQ (show len xs=len l by simp only[len];omega),show(!true)=false from rfl,zU];refine zp.up (λ_ _=>True) l.length ?_ ?_ N 0 (v8 _) (by omega) _ trivial
 ·rintro j s w hj _ hw;have gg:j<xs.length:=by omega
  have:=h2 j hj gg;simp only[H3,f166];rw[show decide ((j:Int)<len l)=true from zb hj,zJ,qx (by simp only[wY,zA,jc];omega),zY hj,zY gg];simp only[zO,KV];rw[show(decide (xs[j]<l[j].2.2.1)||decide (l[j].2.2.2.1<xs[j]))=false by simp only[Wh,Q9];omega,zU,zk (by omega)];exact hw _ trivial
 ·rintro s w _;simp only[H3];rw[show decide (((l.length:Nat):Int)<len l)=false from zH _,zU];exact zp.ret rfl
def OH(l:List zi)(r:Int)(i:Nat):Int:=match l[i]? with
 |some v=>v.2.2.1+(r/zf (l.drop (i+1)))%KR v
 |none=>0
def xu(l:List zi)(r:Int)(n:Nat):List Int:=(List.range n).map (OH l r)
theorem xG(l:List zi)(r:Int)(n:Nat):(xu l r n).length=n:=by simp[xu]
theorem Iq{l:List zi}(hr:∀v∈l,pz v)(r:Int):Fits l (xu l r l.length):=by
 refine⟨xG ..,λi h h'=>?_⟩;have hv:=XJ (hr _ (wB h));have e:(xu l r l.length)[i]=l[i].2.2.1+(r/zf (l.drop (i+1)))%KR l[i]:=by simp[xu,OH,h]
 rw[e];have a:=Int.emod_nonneg (r/zf (l.drop (i+1))) (show KR l[i]≠0 by omega);have b:=Int.emod_lt_of_pos (r/zf (l.drop (i+1))) (show 0<KR l[i] by omega);simp only[KR]at b⊢ a;omega
theorem Nb{l:List zi}{j:Nat}(hj:j<l.length):zf (l.drop j)=KR l[j]*zf (l.drop (j+1)):=by
 rw[<-Z5z hj];rfl
theorem Cf{l:List zi}(h:∀v∈l,pz v)(k:Nat):zf (l.drop k)<=zf l:=by
 have e:=QY (l.take k) (l.drop k);rw[Z1v]at e;rw[e];have h1:=ji (l:=l.take k) λv hv=>h v (Z2l hv)
 have h2:=ji (l:=l.drop k) λv hv=>h v (Z3s hv)
 have:=Z42 h1 (show 0<=zf (l.drop k) by omega);omega
theorem HV(N:Nat)(hN:1000<=N){vs:List zi}(hv:Qn vs)(k:Int)(hk:0<=k/\k<=3)(hp:zf (qh vs k)<=4096)(r:Int)(h0:0<=r)(h1:r<zf (qh vs k)):f167 N vs k r=some (xu (qh vs k) r (qh vs k).length,0):=by
 have hl:=hv.len;have r1:=AU;refine zp.eq ?_;unfold f167;rw[HG N hN hl hv.Qs k hk hp];simp only[zO,Nq,Qv,zU,KV];rw[show(decide (r<0)||decide (zf (qh vs k)<=r))=false by simp only[Wh,Q9];omega,zU];have Uc:=YP vs k;have Qt:=kz hv.Qs k;generalize qh vs k=l at *;refine zp.qV (by simp only[zA,jc,len];omega) ?_;refine zp.iter (λx=>∃m:Nat,x.1=(m:Int)-1/\m<=l.length/\x.2.1=r/zf (l.drop m)/\x.2.2=List.replicate m 0++(xu l r l.length).drop m) (λx=>(x.1+1).toNat) ?_ N _ ⟨l.length,?_,jq _,?_,?_⟩ ?_
 ·rintro⟨i,q,o⟩ w ⟨m,e1,hm,e2,e3⟩ hw;simp only at e1 e2 e3;subst e1 e2 e3;simp only[HW,f166]
  cases m with
  |zero=>
   rw[show decide ((0:Int)<=((0:Nat):Int)-1)=false from rfl,zU];simp only[List.replicate_zero,JD,Z3g]
   exact zp.ret rfl
  |succ m=>
   have hj:m<l.length:=hm;have hrj:=Qt _ (wB hj);obtain⟨s1,s2⟩:=XJ hrj;have pd:=Nb hj;have p1:=ji (l:=l.drop (m+1)) λv hv=>Qt v (Z3s hv)
   have p2:=ji (l:=l.drop m) λv hv=>Qt v (Z3s hv)
   have p3:=Cf Qt m;rw[show((m+1:Nat):Int)-1=(m:Int) by omega];rw[jQ (show(0:Int)<=(m:Int) by omega),zJ,qx (by simp only[wY,zA,jc];omega),zY hj];simp only[zO];rw[Eo hrj,qd (show ¬KR l[m]=0 by omega),zU,zU];have ho:(List.replicate (m+1) (0:Int)++(xu l r l.length).drop (m+1)).length=l.length:=by
    rw[Jz,Z60,Z20,xG];omega
   rw[qx (by simp only[wY,zA,jc];omega),zY (show m<(List.replicate (m+1) (0:Int)++(xu l r l.length).drop (m+1)).length by omega)];simp only[zO];have d1:0<=r/zf (l.drop (m+1)):=Z3b h0 (by omega);have d2:r/zf (l.drop (m+1))<=r:=Z3x _ h0;have t1:Int.tdiv (r/zf (l.drop (m+1))) (KR l[m])=r/zf (l.drop m):=by
    rw[Z65 d1,pd,Int.mul_comm (KR l[m]),Int.ediv_ediv_of_nonneg (by omega)]
   have d3:0<=r/zf (l.drop m):=Z3b h0 (by omega);have d4:r/zf (l.drop m)<=r:=Z3x _ h0;have t2:Int.tmod (r/zf (l.drop (m+1))) (KR l[m])=(r/zf (l.drop (m+1)))%KR l[m]:=Int.tmod_eq_emod_of_nonneg d1;have m1:=Int.emod_nonneg (r/zf (l.drop (m+1))) (show KR l[m]≠0 by omega);have m2:=Int.emod_lt_of_pos (r/zf (l.drop (m+1))) (show 0<KR l[m] by omega);have hd:OH l r m=l[m].2.2.1+(r/zf (l.drop (m+1)))%KR l[m]:=by simp[OH,hj]
   obtain⟨b1,b2,b3⟩:=hrj;rw[t1,t2,<-hd,zx (n:=OH l r m) (by omega) (by omega),zx (n:=r/zf (l.drop m)) (by omega) (by omega),zx (n:=(m:Int)-1) (by omega) (by omega)];have hu:(xu l r l.length).drop m=OH l r m::(xu l r l.length).drop (m+1):=by
    have hml:m<(xu l r l.length).length:=by rw[xG];exact hj
    rw[<-Z5z hml];congr 1;simp[xu]
   have hs:qR (List.replicate (m+1) (0:Int)++(xu l r l.length).drop (m+1)) (m:Int) (OH l r m)=List.replicate m 0++(xu l r l.length).drop m:=by
    rw[hu];show List.set _ ((m:Int).toNat) _=_;rw[show((m:Int).toNat)=m from Wi m,List.replicate_succ',XQ,List.set_append_right _ _ (by simp)];simp
   rw[hs];refine zp.qV (by simp only[wY,zA,jc];omega) ?_;exact hw ((m:Int)-1,(r/zf (l.drop m),List.replicate m 0++(xu l r l.length).drop m)) ⟨m,rfl,by omega,rfl,rfl⟩ (by simp only;omega)
 ·simp only[len];rw[zx (by omega) (by omega)]
 ·simp[zf]
 ·simp only[len,Wi];rw[I4 (by rw[xG];exact jq _),Hc]
 ·simp only[len];rw[zx (by omega) (by omega)];omega
end Go.Kz
namespace Go.Kz
def gK(x:Int):Prop:=-9223372036854775808<=x/\x<=9223372036854775807
def OI(l:List UInt8):Nat:=l.foldl (λa c=>a*10+(c.toNat-48)) 0
def zg3:List UInt8->Int
 |45::l=>-(OI l:Int)
 |l=>(OI l:Int)
theorem VK{d:Nat}(h:d<10):(UInt8.ofNat (48+d)).toNat=48+d:=by
 rw[UInt8.toNat_ofNat'];exact Z3q (by omega)
theorem Cj:∀(k u:Nat),u<10 ^ (k+1)->OI (Pk (k+1) u)=u
 |0,u,h=>by
  have h':u<10:=by simpa using h
  have hb:Nat.blt u 10=true:=by simpa[Z2w]using h'
  simp only[Pk,hb,zJ,OI,Z33,Z4g]
  rw[VK h'];omega
 |k+1,u,h=>by
  rw[Pk]
  cases hb:Nat.blt u 10 with
  |true=>
   have h':u<10:=by simpa[Z2w]using hb
   simp only[zJ,OI,Z33,Z4g]
   rw[VK h'];omega
  |false=>
   simp only[zU,OI,Z54,Z33,Z4g];have hq:u/10<10 ^ (k+1):=by
    rw[Nat.pow_succ]at h;exact Z2g (by omega)
   have ih:=Cj k (u/10) hq;simp only[OI]at ih;rw[ih,VK (Z23 _ (by omega))];omega
theorem A1:∀(k u:Nat),∀c∈Pk k u,48<=c.toNat/\c.toNat<=57
 |0,u,c,h=>by simp[Pk]at h
 |k+1,u,c,h=>by
  rw[Pk]at h
  cases hb:Nat.blt u 10 with
  |true=>
   have h':u<10:=by simpa[Z2w]using hb
   rw[hb]at h;simp only[zJ,Om]at h
   rw[h,VK h'];omega
  |false=>
   rw[hb]at h;simp only[zU,PH,Om]at h;rcases h with h|h
   ·exact A1 k _ c h
   ·have:u%10<10:=Z23 _ (by omega);rw[h,VK this];omega
theorem Ew{n:Int}(h:gK n):zg3 (WN n)=n:=by
 obtain⟨h0,h1⟩:=h
 cases n with
 |ofNat m=>
  have hm:m<10 ^ 20:=by have:(Int.ofNat m:Int)=(m:Int):=rfl;omega
  simp only[WN];have hd:=Cj 19 m hm;have hc:=A1 20 m
  cases hl:Pk 20 m with
  |nil=>rw[hl]at hd;simp only[zg3];rw[hd];rfl
  |cons c l=>
   rw[hl]at hd hc;have:=hc c (Z2c ..);unfold zg3;split
   ·rename_i l' e;injection e with e1 e2;subst e1;simp at this
   ·rw[hd];rfl
 |negSucc m=>
  have hm0:(Int.negSucc m:Int) = -((m:Int)+1):=by omega
  have hm:m+1<10 ^ 20:=by omega
  simp only[WN,zg3];rw[Cj 19 (m+1) hm];omega
theorem BJ(n:Int):(32:UInt8)∉WN n:=by
 intro h
 cases n with
 |ofNat m=>
  have:=A1 20 m 32 h
  simp at this
 |negSucc m=>
  simp only[WN,gJ]at h;rcases h with h|h
  ·exact absurd h (by decide)
  ·have:=A1 20 (m+1) 32 h;simp at this
theorem zig:∀{a c b d:List UInt8},(32:UInt8)∉a->(32:UInt8)∉c->a++32::b=c++32::d->a=c/\b=d
 |[],[],b,d,_,_,h=>by simpa using h
 |[],y::c,b,d,_,hc,h=>by
  simp only[JD,Qm,CA]at h
  exact absurd (by rw[<-h.1];exact Z2c ..) hc
 |x::a,[],b,d,ha,_,h=>by
  simp only[JD,Qm,CA]at h
  exact absurd (by rw[h.1];exact Z2c ..) ha
 |x::a,y::c,b,d,ha,hc,h=>by
  simp only[Qm,CA]at h;obtain⟨q1,q2⟩:=zig (λh'=>ha (On _ h')) (λh'=>hc (On _ h')) h.2;exact⟨by rw[h.1,q1],q2⟩
theorem ZD(x:Int)(l:List Int):wv (x::l)=WN x++32::wv l:=by simp[wv]
theorem K1:∀{l m:List Int},(∀x∈l,gK x)->(∀x∈m,gK x)->wv l=wv m->l=m
 |[],[],_,_,_=>rfl
 |[],y::m,_,_,h=>by rw[ZD]at h;simp[wv]at h
 |x::l,[],_,_,h=>by rw[ZD]at h;simp[wv]at h
 |x::l,y::m,hl,hm,h=>by
  rw[ZD,ZD]at h;obtain⟨q1,q2⟩:=zig (BJ x) (BJ y) h;have e:x=y:=by
   have a:=Ew (hl x (Z2c ..));have b:=Ew (hm y (Z2c ..));rw[<-a,q1,b]
  rw[e,K1 (λz hz=>hl z (On _ hz)) (λz hz=>hm z (On _ hz)) q2]
end Go.Kz
namespace Go.Kz
theorem ka(x:Int):gK (zz x):=wz .i64 x
theorem zf8(c:Bool):gK (cond c 1 0):=by cases c<;>simp[gK]
theorem zhp{a b:Int}(ha:gK a)(hb:gK b):gK (min a b)/\gK (max a b):=by
 simp only[gK]at *;omega
theorem zg7{op a b:Int}(ha:gK a)(hb:gK b):gK (za2 op a b):=by
 have h:∃r,f306 0 op a b=some r/\gK r:=by
  have dv:∃r,f341 0 a b=some r/\gK r:=by
   unfold f341;by_cases h:b=0
   ·rw[jQ h];exact⟨0,rfl,by simp[gK]⟩
   ·rw[qd h];simp only[zU,p5,zO];cases (!decide (Int.tmod a b=0) && !decide (decide (a<0)=decide (b<0)))<;>exact⟨_,rfl,ka _⟩
  obtain⟨q,h1,Lf⟩:=dv;have md:∃r,f342 0 a b=some r/\gK r:=by
   unfold f342;rw[h1];by_cases h:b=0
   ·rw[jQ h];exact⟨0,rfl,by simp[gK]⟩
   ·rw[qd h];exact⟨_,rfl,ka _⟩
  obtain⟨m,h3,h3'⟩:=md;have fl:∀c:Bool,f305 0 c=some (cond c 1 0):=λc=>by cases c<;>rfl
  unfold f306;rw[h1,h3];simp only[KV,p5,zO,fl,Vi,Vl];have cd:∀(c:Bool)(x y:Option Int),(∃r,x=some r/\gK r)->(∃r,y=some r/\gK r)->∃r,cond c x y=some r/\gK r:=λc x y hx hy=>by cases c<;>assumption
  have w:∀x:Int,∃r,some (zz x)=some r/\gK r:=λx=>⟨_,rfl,ka x⟩
  have g:∀c:Bool,∃r,some (cond c 1 0)=some r/\gK r:=λc=>⟨_,rfl,zf8 c⟩
  exact cd _ _ _ (w _) (cd _ _ _ (w _) (cd _ _ _ (w _) (cd _ _ _ ⟨_,rfl,Lf⟩ (cd _ _ _ ⟨_,rfl,h3'⟩ (cd _ _ _ (g _) (cd _ _ _ (g _) (cd _ _ _ (g _) (cd _ _ _ (g _) (cd _ _ _ (g _) (cd _ _ _ (g _) (cd _ _ _ (g _) (cd _ _ _ (g _) (cd _ _ _ ⟨_,rfl,(zhp ha hb).1⟩ ⟨_,rfl,(zhp ha hb).2⟩)))))))))))))
 obtain⟨r,h1,h2⟩:=h;rw[za2,h1];exact h2
theorem Vt{l:List Int}(h:∀x∈l,gK x)(k:Nat):gK (l.getD k 0):=by
 rw[ZB]
 cases e:l[k]? with
 |none=>simp[gK]
 |some x=>exact h x (Z4d e)
theorem Es{vs:List zi}(hr:∀v∈vs,pz v){vals:List Int}(hv:∀x∈vals,gK x):∀(M:Nat)(t:Tm),xP t<=M->∀r,rgT vs t=some r->gK (wD vals t)
 |0,t,h,_,_=>by have:=yG t;omega
 |M+1,t,h,r,YH=>by
  have ql:=pC t;have hrg0:=YH;rw[Fp]at YH
  cases hl:CL vs t.kids with
  |none=>rw[hl]at YH;simp at YH
  |some l=>
  have hk:∀x∈t.kids.map (wD vals),gK x:=λx hx=>by
   obtain⟨y,hy,rfl⟩:=pe.1 hx;obtain⟨i,hi,rfl⟩:=Wl.1 hy;have:=wy (wB hi);have hlen:=XU hl;exact Es hr hv M _ (by omega) _ (VO hl i hi (by omega))
  rw[XW];unfold L9;split
  ·rename_i h0;rw[hl]at YH;simp only[zO]at YH;have e:jW vs t.op t.n l=(t.n,t.n):=by simp[jW,h0]
   rw[e]at YH
   cases ho:okR (t.n,t.n) with
   |false=>rw[ho]at YH;simp at YH
   |true=>
    simp only[okR,zA,jc]at ho;simp only[gK];omega
  split
  ·exact Vt hv _
  split
  ·exact ka _
  split
  ·split<;>simp[gK]
  split
  ·split<;>exact Vt hk _
  split
  ·exact Vt hk _
  ·exact zg7 (Vt hk _) (Vt hk _)
theorem BD{n low high:Int}(h:gK n)(h1:gK low)(h2:gK high):gK (xY n low high):=by
 unfold xY;split
 ·exact h1
 split
 ·exact h2
 ·exact h
theorem zjw{f:zt}(hr:∀v∈f.1,pz v)(v:Int):gK (Tl f v)/\gK (Tn f v):=by
 unfold Tl Tn
 cases h:f.1[v.toNat]? with
 |none=>simp[gK]
 |some x=>
  obtain⟨a,b,c⟩:=hr x (Z4d h);simp only[gK];omega
theorem RV{l:List Int}(h:∀x∈l,gK x)(i:Int){y:Int}(hy:gK y):∀x∈qR l i y,gK x:=λx hx=>by
 rcases List.mem_or_eq_of_mem_set (show x∈l.set i.toNat y from hx) with h1|h1
 ·exact h x h1
 ·rw[h1];exact hy
structure InS (s:RS):Prop where
 vals:∀x∈s.vals,gK x
 outs:∀x∈s.outs,gK x
theorem RA{c:Int}{t:Tm}{body:RS->RS}(hb:∀s,InS s->InS (body s)):∀(n:Nat)(s:RS),InS s->InS (Je c t body n s)
 |0,s,h=>h
 |n+1,s,h=>by
  simp only[Je];split
  ·exact⟨h.vals,h.outs⟩
  ·exact RA hb n _ (hb _ ⟨h.vals,h.outs⟩)
theorem Fq(f:zt)(hr:∀v∈f.1,pz v){hs:List Int}(hh:∀x∈hs,gK x):∀(M:Nat)(l:List Sp)(top:Bool),yA l<M->JM f top l->∀s,InS s->InS (vc f hs l s)
 |0,l,_,h,_,_,_=>by omega
 |M+1,[],_,_,_,s,h=>by simp only[vc];exact h
 |M+1,x::l,top,h,zq,s,hi=>by
  simp only[yA]at h;have he:=kX x;have hp:=yG x.term;simp only[JM]at zq;obtain⟨⟨q1,q2,q3⟩,q4,q5⟩:=(Z1 ..).1 zq.1;obtain⟨_,r,YH⟩:=q3;have vt:∀s,InS s->gK (wD s.vals x.term):=λs h=>Es hr h.vals _ _ (jq _) r YH
  have kx:=λs=>Fq f hr hh M x.jM false (by omega) q4 s
  have ky:=λs=>Fq f hr hh M x.ui false (by omega) q5 s
  obtain⟨b1,b2⟩:=zjw hr x.var;simp only[vc];refine Fq f hr hh M l top (by omega) zq.2 _ ?_;rw[VN];split
  ·exact RA kx _ _ hi
  split
  ·exact⟨RV hi.vals _ (BD (vt s hi) b1 b2),hi.outs⟩
  split
  ·refine⟨hi.vals,λy hy=>?_⟩;rcases PH.1 hy with hy|hy
   ·exact hi.outs y hy
   ·rw[Om.1 hy];exact vt s hi
  split
  ·split
   ·exact ky _ ⟨hi.vals,hi.outs⟩
   ·exact kx _ ⟨hi.vals,hi.outs⟩
  split
  ·exact⟨RV hi.vals _ (BD (Vt hh _) b1 b2),hi.outs⟩
  split
  ·exact⟨hi.vals,hi.outs⟩
  ·exact⟨hi.vals,hi.outs⟩
theorem zk4{vs:List zi}(hv:Qn vs)(a:Jj)(ha:Ry vs a):∀x∈Wg vs a vs.length,gK x:=λx hx=>by
 obtain⟨j,hj,rfl⟩:=pe.1 hx;have gg:j<vs.length:=Du.1 hj;obtain⟨c1,c2,c3⟩:=(hv.each j gg).Qs;by_cases h0:vs[j].2.1=0
 ·obtain⟨_,e1,e2⟩:=IZ (a:=a) hv gg h0;simp only[gK];omega
 ·obtain⟨_,_,e1,e2⟩:=z73 hv ha gg h0;simp only[gK];omega
theorem zg2{f:zt}(h:WF f)(a:Jj)(ha:Ry f.1 a):∀x∈(Q5 f a).outs,gK x:=by
 have hs:=zk4 h.vars a ha;refine(Fq f h.vars.Qs (hs:=GF f (Wg f.1 a f.1.length)) (λx hx=>?_) _ f.2.2.1 true (Eb _) h.steps ⟨Wg f.1 a f.1.length,[],0⟩ ⟨hs,by simp⟩).outs;obtain⟨y,hy,rfl⟩:=pe.1 hx;obtain⟨i,hi,rfl⟩:=Wl.1 hy;have q:=h.GD i hi;obtain⟨c1,c2,c3⟩:=G6.1 q.Qs;obtain⟨_,r,YH⟩:=q.term;exact BD (Es h.vars.Qs hs _ _ (jq _) r YH) (by simp only[gK];omega) (by simp only[gK];omega)
end Go.Kz
namespace Go.Kz
abbrev vQ:=List Int×(Int×Unit)
theorem z99(N:Nat)(hN:1000<=N)(f:zt)(sa sb sc:Int):zp (f15 N f sa sb sc) λb=>b=true->WF f/\Mh f/\zf (qh f.1 1)<=sa/\zf (qh f.1 3)<=sc:=by
 unfold f15;refine zp.then (zn2 N hN f) λr hr=>?_
 refine zp.then (P:=λb=>b=false->WF f/\Mh f) ?_ λb hb=>?_
 ·refine zp.cond (λ_=>zp.ret (by simp)) λh=>?_
  simp only[Hb]at h;obtain⟨c,hc,hw⟩:=z8v N hN f (hr h).few;rw[hc,zO];refine zp.ret λh0=>?_
  simp only[Hb,jc]at h0;exact⟨hw h0,hr h⟩
 ·refine zp.cond (λ_=>zp.ret (by simp)) λh=>?_
  obtain⟨hw,hc⟩:=hb h;have hv:=hw.vars;have p1:=hv.sec;have p2:=hv.pub;have p3:=hv.rnd;obtain⟨g1,g2,g3⟩:=hw.deep.few;rw[HY N hN hv.len hv.Qs 1 (by omega) p1,HY N hN hv.len hv.Qs 2 (by omega) p2,HY N hN hv.len hv.Qs 3 (by omega) (by omega)];rw[show f43 N f.2.2.1=_ from XI N hN f N f.2.2.1 true (by omega) (by omega) hw.steps];simp only[zO,p5];refine zp.ret λhh=>⟨hw,hc,?_⟩
  simp only[zA,jc]at hh;exact⟨hh.1.1.1,hh.1.2⟩
@[reducible] def zrk (f:zt) (p:List Int) (s:Int):Jj:=(xu (qh f.1 1) s (qh f.1 1).length,(p,([],())))
@[reducible] def obsO (f:zt) (p:List Int) (s:Int):List Int×(Int×Unit):=((Q5 f (zrk f p s)).outs,((Q5 f (zrk f p s)).time,()))
theorem E1{f:zt}(h:WF f)(a:Jj):(Q5 f a).outs.length<=8:=by
 have:=(QZ f (GF f (Wg f.1 a f.1.length)) _ f.2.2.1 true (Eb _) h.steps ⟨Wg f.1 a f.1.length,[],0⟩).outs;have h2:=h.ub2;simp only[Z1y]at this;have e:(Q5 f a)=vc f (GF f (Wg f.1 a f.1.length)) f.2.2.1 ⟨Wg f.1 a f.1.length,[],0⟩:=rfl;rw[e];omega
theorem z4e:∀(l:List Int)(t:Int)(s:Int×Bool),(l.foldl (F3 t) s).1∈l\/(l.foldl (F3 t) s).1=s.1
 |[],_,_=>.inr rfl
 |x::l,t,s=>by
  simp only[Z33];rcases z4e l t (F3 t s x) with h|h
  ·exact .inl (On _ h)
  ·rw[h];unfold F3;split
   ·exact .inl (Z2c ..)
   ·exact .inr rfl
theorem zd8{l:List Int}(h:TW l)(hb:∀h:0<l.length,l[l.length-1]<=(67108864:Int)):∀x∈l,gK x:=by
 have up:∀(k i:Nat)(hk:i+k<l.length),l[i]<=l[i+k]:=by
  intro k
  induction k with
  |zero=>intro i hk;exact Z4z _
  |succ k ih=>
   intro i hk;have h1:=ih i (by omega);have h2:l[i+k]'(by omega)<l[i+(k+1)]:=h.up (i+(k+1)) (by omega) hk;omega
 intro x hx;obtain⟨i,hi,rfl⟩:=Wl.1 hx;have h0:=h.first (by omega);have h1:=up i 0 (by omega);have h2:=up (l.length-1-i) i (by omega);have h3:=hb (by omega);simp only[Wq]at h1;have e:l[i+(l.length-1-i)]'(by omega)=l[l.length-1]'(by omega):=by congr 1;omega
 rw[e]at h2;simp only[gK];omega
theorem DR{c:Int}{t:Tm}{body:RS->RS}(hb:∀s,gK s.time->gK (body s).time):∀(n:Nat)(s:RS),gK s.time->gK (Je c t body n s).time
 |0,s,h=>h
 |n+1,s,h=>by
  simp only[Je];split
  ·exact ka _
  ·exact DR hb n _ (hb _ (ka _))
theorem G4(f:zt){hs:List Int}:∀(M:Nat)(l:List Sp)(top:Bool),yA l<M->JM f top l->∀s,gK s.time->gK (vc f hs l s).time
 |0,l,_,h,_,_,_=>by omega
 |M+1,[],_,_,_,s,h=>by simp only[vc];exact h
 |M+1,x::l,top,h,zq,s,hi=>by
  simp only[yA]at h;have he:=kX x;have hp:=yG x.term;simp only[JM]at zq;obtain⟨⟨q1,q2,q3⟩,q4,q5⟩:=(Z1 ..).1 zq.1;have kx:=λs=>G4 f (hs:=hs) M x.jM false (by omega) q4 s
  have ky:=λs=>G4 f (hs:=hs) M x.ui false (by omega) q5 s
  simp only[vc];refine G4 f M l top (by omega) zq.2 _ ?_;rw[VN];split
  ·exact DR kx _ _ hi
  split
  ·exact ka _
  split
  ·exact ka _
  split
  ·split
   ·exact ky _ (ka _)
   ·exact kx _ (ka _)
  split
  ·exact ka _
  split
  ·rename_i h6;have hr:=zd8 (q1.set h6).2 q2.bnd;rcases z4e x.bounds (zz (s.time+x.cost)) (zz (s.time+x.cost),false) with h|h
   ·exact hr _ h
   ·show gK (Ts x.bounds (zz (s.time+x.cost)));rw[Ts,h];exact ka _
  ·exact ka _
theorem zl6{f:zt}(h:WF f)(a:Jj)(ha:Ry f.1 a):∀x∈(Q5 f a).time::(Q5 f a).outs,gK x:=by
 intro x hx;rcases gJ.1 hx with rfl|hx
 ·exact G4 f _ f.2.2.1 true (Eb _) h.steps ⟨Wg f.1 a f.1.length,[],0⟩ (by simp[gK])
 ·exact zg2 h a ha x hx
end Go.Kz
namespace Go.Kz
def VW(a b:Int):Int:=if a<b then -1 else if b<a then 1 else 0
def w5:List Int->List Int->Int
 |[],[]=>0
 |[],_::_=>-1
 |_::_,[]=>1
 |x::l,y::m=>if VW x y=0 then w5 l m else VW x y
def ON(a b:vQ):Int:=if w5 a.1 b.1=0 then VW a.2.1 b.2.1 else w5 a.1 b.1
structure zvg {Z:Type} (c:Z->Z->Int):Prop where
 zero:∀x y,c x y=0↔x=y
 neg:∀x y,c y x = -c x y
 trans:∀x y z,c x y<0->c y z<0->c x z<0
theorem Zc:zvg VW where
 zero:=λx y=>by
  unfold VW;split
  ·omega
  ·split<;>omega
 neg:=λx y=>by
  unfold VW;by_cases h1:x<y
  ·rw[qn h1,qP (by omega),qn h1];rfl
  ·by_cases h2:y<x
   ·rw[qn h2,qP h1,qn h2]
   ·simp[h1,h2]
 trans:=λx y z h1 h2=>by
  have k:∀x y,VW x y<0->x<y:=λx y h=>by
   unfold VW at h;split at h
   ·assumption
   ·split at h<;>omega
  have:=k x y h1;have:=k y z h2;unfold VW;rw[qn (by omega)];omega
theorem xh:∀l m,w5 l m=0↔l=m
 |[],[]=>by simp[w5]
 |[],_::_=>by simp[w5]
 |_::_,[]=>by simp[w5]
 |x::l,y::m=>by
  have h:=Zc.zero x y;have ih:=xh l m;simp only[w5,CA];split
  ·rename_i h0;rw[ih];simp[h.1 h0]
  ·rename_i h0;simp only[h0,false_iff];intro e;exact h0 (h.2 e.1)
theorem Ck:∀l m,w5 m l = -w5 l m
 |[],[]=>by simp[w5]
 |[],_::_=>by simp[w5]
 |_::_,[]=>by simp[w5]
 |x::l,y::m=>by
  have h:=Zc.neg x y;have ih:=Ck l m;simp only[w5];by_cases h0:VW x y=0
  ·rw[qn h0,qn (by omega),ih]
  ·rw[qP h0,qP (by omega),h]
theorem KD:∀a b c,w5 a b<0->w5 b c<0->w5 a c<0
 |[],[],_,h,_=>by simp[w5]at h
 |_::_,[],_,h,_=>by simp[w5]at h
 |[],_::_,[],_,h=>by simp[w5]at h
 |[],_::_,_::_,_,_=>by simp[w5]
 |_::_,_::_,[],_,h=>by simp[w5]at h
 |x::l,y::m,z::n,h1,h2=>by
  have ih:=KD l m n;have t:=Zc.trans x y z;have e1:=Zc.zero x y;have e2:=Zc.zero y z;simp only[w5]at *;by_cases a:VW x y=0
  ·have:=e1.1 a;subst this;rw[qn a]at h1;by_cases b:VW x z=0
   ·rw[qn b]at *;exact ih h1 h2
   ·rw[qP b]at *;exact h2
  ·rw[qP a]at h1;by_cases b:VW y z=0
   ·have:=e2.1 b;subst this;rw[qP a];exact h1
   ·rw[qP b]at h2;have:=t h1 h2;rw[qP (by omega)];exact this
theorem A4:zvg ON where
 zero:=λx y=>by
  obtain⟨x1,x2,x3⟩:=x;obtain⟨y1,y2,y3⟩:=y;have h1:=xh x1 y1;have h2:=Zc.zero x2 y2;simp only[ON,p8];split
  ·rename_i h;rw[h2];simp[h1.1 h]
  ·rename_i h;simp only[h,false_iff];exact λe=>h (h1.2 e.1)
 neg:=λx y=>by
  have h1:=Ck x.1 y.1;have h2:=Zc.neg x.2.1 y.2.1;simp only[ON];by_cases h:w5 x.1 y.1=0
  ·rw[qn h,qn (by omega),h2]
  ·rw[qP h,qP (by omega),h1]
 trans:=λx y z h1 h2=>by
  have t:=KD x.1 y.1 z.1;have u:=Zc.trans x.2.1 y.2.1 z.2.1;have e1:=xh x.1 y.1;have e2:=xh y.1 z.1;simp only[ON]at *;by_cases a:w5 x.1 y.1=0
  ·rw[qn a]at h1;rw[e1.1 a];by_cases b:w5 y.1 z.1=0
   ·rw[qn b]at *;exact u h1 h2
   ·rw[qP b]at *;exact h2
  ·rw[qP a]at h1;by_cases b:w5 y.1 z.1=0
   ·rw[<-e2.1 b,qP a];exact h1
   ·rw[qP b]at h2;have:=t h1 h2;rw[qP (by omega)];exact this
theorem zfz(N:Nat)(a b:Int):f149 N a b=some (VW a b):=by
 unfold f149 f230 VW;simp only[Nq,Qv,zO,zU];by_cases h1:a<b
 ·rw[qn h1,jQ h1];rfl
 ·rw[qP h1,qd h1];by_cases h2:b<a
  ·rw[qn h2,jQ h2];rfl
  ·rw[qP h2,qd h2];rfl
theorem z8w(N:Nat)(l m:List Int)(hN:l.length<N)(hl:l.length<4294967296):f64 N l m=some (w5 l m):=by
 refine zp.eq ?_;unfold f64;refine zp.CT (λj=>j<=m.length/\w5 l m=w5 (l.drop j) (m.drop j)) l.length ?_ ?_ N 0 (v8 _) (by omega) ⟨v8 _,rfl⟩
 ·rintro j w hj ⟨h1,h2⟩ hw;simp only[H9];rw[show decide ((j:Int)<len l)=true from zb hj,zJ,zY hj];simp only[zO];rw[Z2a hj]at h2;by_cases hm:j<m.length
  ·rw[qd (show ¬len m<=(j:Int) by simp only[len];omega),zU,zY hm];simp only[zO];rw[Z2a hm]at h2;simp only[w5]at h2;rw[zfz,zO];by_cases h:VW l[j] m[j]=0
   ·rw[qn h]at h2;rw[jQ h,Qv,zU,zk (by omega)];exact hw ⟨hm,h2⟩
   ·rw[qP h]at h2;rw[qd h,Z1z,zJ];exact zp.ret h2.symm
  ·rw[jQ (show len m<=(j:Int) by simp only[len];omega),zJ];rw[I4 (show m.length<=j by omega)]at h2;exact zp.ret h2.symm
 ·rintro w ⟨h1,h2⟩;simp only[H9];rw[show decide (((l.length:Nat):Int)<len l)=false from zH _,zU];rw[I4 (jq _)]at h2;by_cases hm:l.length<m.length
  ·rw[jQ (show len l<len m by simp only[len];omega),zJ];rw[Z2a hm]at h2;exact zp.ret h2.symm
  ·rw[qd (show ¬len l<len m by simp only[len];omega),zU];rw[I4 (by omega)]at h2;exact zp.ret h2.symm
theorem zmz(N:Nat)(hN:1000<=N)(a b:vQ)(ha:a.1.length<=200):f77 N a b=some (ON a b):=by
 unfold f77 ON;rw[z8w N _ _ (by omega) (by omega),zO];by_cases h:w5 a.1 b.1=0
 ·rw[jQ h,qn h,Qv,zU];unfold VW;by_cases h1:a.2.1<b.2.1
  ·rw[qn h1,jQ h1];rfl
  ·rw[qP h1,qd h1];by_cases h2:b.2.1<a.2.1
   ·rw[qn h2,jQ h2];rfl
   ·rw[qP h2,qd h2];rfl
 ·rw[qd h,qP h,Z1z,zJ]
theorem z03{t:Ty}{Fc:t.den->t.den->Option Int}{c:t.den->t.den->Int}{l:List t.den}(hF:∀x∈l,∀y∈l,Fc x y=some (c x y))(h0:∀x∈l,∀y∈l,c x y=0->x=y)
  (hr:∀x∈l,c x x=0) (hn:∀x∈l,∀y∈l,c y x = -c x y) (ht:∀x∈l,∀y∈l,∀z∈l,c x y<0->c y z<0->c x z<0) (hl:l.length<4611686018427387904) :
  ∃l',Ju t Fc l=some l'/\l'.Perm l:=by
 have lt:∀x∈l,∀y∈l,JB (kW Fc) x y=decide (c x y<0):=λx hx y hy=>by
  simp only[JB,kW,hF x hx y hy,CU]
 have D7:X6 (JB (kW Fc)) (·∈l):=by
  refine⟨λx hx=>?_,λx y z hx hy hz h1 h2=>?_,λx y z hx hy hz h1 h2=>?_⟩
  ·have:=hr x hx;rw[lt x hx x hx,qd (by omega)]
  ·rw[lt x hx y hy,jc]at h1;rw[lt y hy z hz,jc]at h2;rw[lt x hx z hz,jc];exact ht x hx y hy z hz h1 h2
  ·rw[lt x hx y hy,Q9]at h1;rw[lt y hy z hz,Q9]at h2;rw[lt x hx z hz,Q9];have n1:=hn x hx y hy;have n2:=hn y hy z hz;have n3:=hn x hx z hz;by_cases a:c x y=0
   ·rw[h0 x hx y hy a];exact h2
   by_cases b:c y z=0
   ·rw[<-h0 y hy z hz b];exact h1
   have:=ht z hz y hy x hx (by omega) (by omega);omega
 have hB:Nc Fc l=true:=RE D7 λx hx y hy=>by rw[hF x hx y hy];rfl
 have hS:NA (Dy t) (JB (kW Fc)) l=true:=by
  unfold NA;rw[x4];intro x hx;rw[x4];intro y hy;rw[lt x hx y hy,lt y hy x hx];have n1:=hn x hx y hy;by_cases h:c x y=0
  ·rw[h0 x hx y hy h,uh];simp
  ·have:c x y<0\/c y x<0:=by omega
   simp only[CX,jc];exact .inl this
 refine⟨V9 (JB (kW Fc)) l,?_,wP _ l⟩;unfold Ju;rw[hB,hS,show Nat.blt l.length 4611686018427387904=true from by rw[Z2w];exact hl];rfl
def zob(o:vQ):Prop:=∀x∈o.2.1::o.1,gK x
def D3(o:vQ):List UInt8:=wv (o.2.1::o.1)
theorem z6u{a b:vQ}(ha:zob a)(hb:zob b)(h:D3 a=D3 b):a=b:=by
 obtain⟨a1,a2,a3⟩:=a;obtain⟨b1,b2,b3⟩:=b;have q:=K1 ha hb h;simp only[CA]at q;rw[q.1,q.2]
section
variable {I Z:Type} [DecidableEq I] [DecidableEq Z]
theorem FB{x:I}{l:List I}:x∈kV [] l↔x∈l:=by rw[Gj];simp
end
end Go.Kz
namespace Go.Kz
section
variable {I:Type} [DecidableEq I]
theorem QG:(acc l:List I)->acc.Nodup->(kV acc l).Nodup
 |acc,[],h=>h
 |acc,x::l,h=>by
  simp only[kV];split
  ·exact QG acc l h
  ·rename_i hx;refine QG (acc++[x]) l ?_;rw[Z49];exact⟨h,by simp,λa ha b hb e=>by simp only[Om]at hb;subst hb;exact hx (e ▸ ha)⟩
end
theorem E6{I:Type}{l:List I}(h:l.Nodup){i j:Nat}(hi:i<l.length)(hj:j<l.length)(e:l[i]=l[j]):i=j:=by
 rcases Z56 i j with q|q|q
 ·exact absurd e (Z4e.1 h i j hi hj q)
 ·exact q
 ·exact absurd e.symm (Z4e.1 h j i hj hi q)
theorem Ng(n:Nat):(wq n).Nodup:=by
 unfold wq;rw[Z4h,Z5y];exact List.Pairwise.imp (λh e=>h (by omega)) (Z4h.1 List.nodup_range)
theorem zq8(a b c d:Int):qE (a,(b,())) (c,(d,()))=(decide (a=c)&&decide (b=d)):=by simp[qE,Ui,ja]
end Go.Kz
namespace Go.Kz
theorem IM{l:List zi}{k:Nat}(hk:k<l.length):zf l=zf (l.take k)*(KR l[k]*zf (l.drop (k+1))):=by
 conv=>lhs;rw[<-Z1v k l]
 rw[QY,Z2a hk];rfl
theorem Rg{a b:List zi}(ha:∀v∈a,pz v)(hb:∀v∈b,pz v)(r1 r2:Int)(h0:0<=r2)(h1:r2<zf b):
  xu (a++b) (r1*zf b+r2) (a++b).length=xu a r1 a.length++xu b r2 b.length:=by
 have pb:=ji hb;apply I3
 ·simp[xu]
 ·intro i h2 h3;have hi:i<(a++b).length:=by simpa[xu]using h2
  rw[List.getElem_append];have el:(xu (a++b) (r1*zf b+r2) (a++b).length)[i]=OH (a++b) (r1*zf b+r2) i:=by simp[xu]
  rw[el];split
  ·rename_i hia;have zet:i<a.length:=by simpa[xu]using hia
   have er:(xu a r1 a.length)[i]=OH a r1 i:=by simp[xu]
   rw[er];simp only[OH];rw[Z2k zet,wV zet];simp only;rw[Z2y (by omega),QY];congr 2;rw[Int.mul_comm (zf (a.drop (i+1))),<-Int.ediv_ediv_of_nonneg (by omega),Int.add_comm,Int.add_mul_ediv_right _ _ (by omega),Int.ediv_eq_zero_of_lt h0 h1,Int.zero_add]
  ·rename_i hia;have zet:a.length<=i:=by simpa[xu]using hia
   have hk:i-a.length<b.length:=by simp only[Jz]at hi;omega
   have er:(xu b r2 b.length)[i-(xu a r1 a.length).length]'(by rw[xG,xG];exact hk)=OH b r2 (i-a.length):=by simp[xu]
   rw[er];simp only[OH];rw[Z36 zet,wV hk];simp only;rw[show i+1=a.length+(i-a.length+1) by omega,Z3a];simp only[I4 (show a.length<=a.length+(i-a.length+1) by omega),JD,Z3i];have hd:=ji (l:=b.drop (i-a.length+1)) λv hv=>hb v (Z3s hv)
   congr 1;rw[IM hk];generalize zf (b.drop (i-a.length+1))=D at hd⊢;generalize KR b[i-a.length]=z;generalize zf (b.take (i-a.length))=T;rw[show r1*(T*(z*D))+r2=r2+r1*T*z*D by rw[Int.add_comm];congr 1;simp only[Z53],Int.add_mul_ediv_right _ _ (by omega),Int.add_mul_emod_self_right]
end Go.Kz
namespace Go.Kz
def gV(l:List Int):Prop:=∀x∈l,0<=x
def yD(l:List Int):Nat:=l.foldr (λx d=>Nat.gcd x.toNat d) 0
theorem Zp:∀{l:List Int}{x:Int},x∈l->yD l ∣ x.toNat
 |y::l,x,h=>by
  simp only[yD,Z38];rcases gJ.1 h with rfl|h
  ·exact Nat.gcd_dvd_left _ _
  ·exact Nat.dvd_trans (Nat.gcd_dvd_right _ _) (Zp h)
theorem Pj{k:Nat}:∀{l:List Int},(∀x∈l,k ∣ x.toNat)->k ∣ yD l
 |[],_=>Nat.dvd_zero k
 |y::l,h=>by
  simp only[yD,Z38];exact Nat.dvd_gcd (h y (by simp)) (Pj λx hx=>h x (by simp[hx]))
theorem EY{l m:List Int}(h:l.Perm m):yD l=yD m:=
 Nat.dvd_antisymm (Pj λ_ hx=>Zp (h.mem_iff.2 hx)) (Pj λ_ hx=>Zp (h.mem_iff.1 hx))
def sc(m:Nat)(q:List Int):List Int:=q.map λx=>(m:Int)*x
theorem zk8(m:Nat)(q:List Int):(sc m q).length=q.length:=by simp[sc]
theorem toNat_mul(m:Nat){x:Int}(h:0<=x):((m:Int)*x).toNat=m*x.toNat:=by
 obtain⟨n,rfl⟩:=Z5v h;rfl
theorem H0(m:Nat):∀{q:List Int},gV q->yD (sc m q)=m*yD q
 |[],_=>by simp[sc,yD]
 |x::q,h=>by
  have ih:=H0 m (q:=q) λy hy=>h y (by simp[hy])
  simp only[sc,yD,Qw,Z38]at ih⊢;rw[ih,toNat_mul m (h x (by simp)),Nat.gcd_mul_left]
def vE(l:List Int):List Int:=l.map λx=>x/(yD l:Int)
theorem z5b(l:List Int):(vE l).length=l.length:=by simp[vE]
theorem De{l:List Int}(h:gV l):gV (vE l):=λx hx=>by
 obtain⟨y,hy,rfl⟩:=pe.1 hx;exact Z3b (h y hy) (by omega)
theorem XG{l:List Int}(h:gV l):sc (yD l) (vE l)=l:=by
 unfold sc vE;rw[Oo]
 conv=>rhs;rw[<-List.map_id l]
 refine TV λx hx=>?_
 have hd:=Zp hx;have h0:=h x hx;simp only[Function.comp,id];refine Int.mul_ediv_cancel' ?_;obtain⟨n,rfl⟩:=Z5v h0;exact Int.natCast_dvd_natCast.2 hd
theorem z1j{l:List Int}(h:gV l)(h0:0<yD l):yD (vE l)=1:=by
 have e:=H0 (yD l) (De h);rw[XG h]at e;have:yD l*yD (vE l)=yD l*1:=by omega
 exact Nat.eq_of_mul_eq_mul_left h0 this
theorem zka(m m':Nat)(q:List Int):List.zipWith (· + ·) (sc m q) (sc m' q)=sc (m+m') q:=by
 apply I3
 ·simp[sc]
 ·intro i h1 h2;simp only[sc,Z57,R0];rw[<-Z55];congr 1
def CS(cs:List (List Int))(q:List Int):Nat:=((cs.filter λc=>decide (yD c≠0)&&decide (vE c=q)).map yD).sum
theorem z3q{cs ds:List (List Int)}(h:cs.Perm ds)(q:List Int):CS cs q=CS ds q:=by
 unfold CS;exact((h.filter _).map _).sum_nat
theorem Km(cs:List (List Int))(c q:List Int):CS (cs++[c]) q=CS cs q+if yD c≠0/\vE c=q then yD c else 0:=by
 unfold CS;rw[Z26,XZ,Z61];congr 1;by_cases h:yD c≠0/\vE c=q
 ·rw[qn h,Z3t (by simp[h])];simp
 ·rw[qP h,Z4i (by simpa using h)];simp
def jr(cs:List (List Int)):List (List Int):=kV [] ((cs.filter λc=>decide (yD c≠0)).map vE)
theorem uV(cs:List (List Int))(c:List Int):jr (cs++[c])=if yD c=0\/vE c∈jr cs then jr cs else jr cs++[vE c]:=by
 unfold jr;rw[Z26,XZ];by_cases h:yD c=0
 ·rw[qn (.inl h),Z4i (by simp[h])];simp
 ·rw[Z3t (by simp[h])];by_cases hm:vE c∈kV [] ((cs.filter λc=>decide (yD c≠0)).map vE)
  ·rw[qn (.inr hm)];exact z5x _ _ _ hm
  ·rw[qP (λe=>e.elim h hm)];exact RL _ _ _ hm
def pc(cs:List (List Int)):List (List Int):=(jr cs).map λq=>sc (CS cs q) q
theorem ZJ{cs:List (List Int)}{q:List Int}:q∈jr cs↔∃c∈cs,yD c≠0/\vE c=q:=by
 unfold jr;rw[Gj];simp only[List.not_mem_nil,false_or,pe,Z35,jc];constructor
 ·rintro⟨c,⟨h1,h2⟩,h3⟩;exact⟨c,h1,h2,h3⟩
 ·rintro⟨c,h1,h2,h3⟩;exact⟨c,⟨h1,h2⟩,h3⟩
theorem z3r{cs:List (List Int)}{q:List Int}(h:q∉jr cs):CS cs q=0:=by
 unfold CS;rw[Z4j.2]
 ·rfl
 ·intro c hc e;simp only[zA,jc]at e;exact h (ZJ.2 ⟨c,hc,e.1,e.2⟩)
theorem Lv{cs:List (List Int)}{c:List Int}(h:yD c=0):pc (cs++[c])=pc cs:=by
 unfold pc;rw[uV,qn (.inl h)];refine TV λq _=>?_
 rw[Km,qP (λe=>e.1 h),Ot]
theorem Rb{cs:List (List Int)}{c:List Int}(hc:gV c)(h:yD c≠0)(hn:vE c∉jr cs):pc (cs++[c])=pc cs++[c]:=by
 unfold pc;rw[uV,qP (λe=>e.elim h hn),XZ];congr 1
 ·refine TV λq hq=>?_
  rw[Km,qP (λe:yD c≠0/\vE c=q=>hn (e.2 ▸ hq)),Ot]
 ·simp only[Qw,Z2b];rw[Km,qn ⟨h,rfl⟩,z3r hn,Wq,XG hc]
theorem Kq{I:Type}[DecidableEq I]:(acc l:List I)->acc.Nodup->(kV acc l).Nodup
 |acc,[],h=>h
 |acc,x::l,h=>by
  simp only[kV];split
  ·exact Kq acc l h
  ·rename_i hx;refine Kq (acc++[x]) l ?_;rw[Z49];exact⟨h,by simp,λa ha b hb e=>by simp only[Om]at hb;subst hb;exact hx (e ▸ ha)⟩
theorem J0(cs:List (List Int)):(jr cs).Nodup:=Kq _ _ (by simp)
theorem pL(cs:List (List Int)):(pc cs).length=(jr cs).length:=by simp[pc]
theorem Ra{cs:List (List Int)}{c:List Int}(hc:gV c)(h:yD c≠0)(hm:vE c∈jr cs):
  pc (cs++[c])=(pc cs).set (posOf (vE c) (jr cs)) (List.zipWith (· + ·) ((pc cs).getD (posOf (vE c) (jr cs)) []) c):=by
 have hp:=QJ hm;have hg:=Pm hm;rw[wV hp,zI]at hg;apply I3
 ·rw[List.length_set,pL,pL,uV,qn (.inr hm)]
 ·intro i h1 h2;have hi:i<(jr cs).length:=by rw[List.length_set,pL]at h2;exact h2
  have e1:(pc (cs++[c]))[i]=sc (CS (cs++[c]) (jr cs)[i]) (jr cs)[i]:=by
   have ed:jr (cs++[c])=jr cs:=by rw[uV,qn (.inr hm)]
   simp only[pc,R0,ed]
  rw[e1,Km,Z2z];by_cases e:posOf (vE c) (jr cs)=i
  ·subst e;rw[qn rfl,hg,qn ⟨h,rfl⟩];have eo:(pc cs).getD (posOf (vE c) (jr cs)) []=sc (CS cs (vE c)) (vE c):=by
    rw[ZB,wV (by rw[pL];exact hp)];simp only[pc,R0,hg,CU]
   rw[eo]
   conv=>rhs;rw[<-XG hc]
   rw[<-zka,XG hc]
  ·rw[qP e,qP,Ot]
   ·simp[pc]
   ·rintro⟨_,e2⟩;refine e ?_;rcases Z56 (posOf (vE c) (jr cs)) i with q|q|q
    ·exact absurd (hg.trans e2) (Z4e.1 (J0 cs) _ i hp hi q)
    ·exact q
    ·exact absurd (hg.trans e2).symm (Z4e.1 (J0 cs) i _ hi hp q)
theorem z1v{cs ds:List (List Int)}(h:cs.Perm ds):(jr cs).Perm (jr ds):=by
 refine(Z66 (J0 cs) (J0 ds)).2 λq=>?_
 rw[ZJ,ZJ];exact⟨λ⟨c,h1,h2⟩=>⟨c,h.mem_iff.1 h1,h2⟩,λ⟨c,h1,h2⟩=>⟨c,h.mem_iff.2 h1,h2⟩⟩
theorem Lw{cs ds:List (List Int)}(h:cs.Perm ds):(pc cs).Perm (pc ds):=by
 unfold pc;rw[show(λq=>sc (CS ds q) q)=λq=>sc (CS cs q) q from funext λq=>by rw[z3q h]];exact(z1v h).map _
def cmn(l:List (List Int)):Nat:=yD l.flatten
theorem z9s{l m:List (List Int)}(h:l.Perm m):cmn l=cmn m:=EY h.flatten
def Ky(cs:List (List Int)):List (List Int):=(pc cs).map λc=>c.map λx=>x/(cmn (pc cs):Int)
theorem z61{cs ds:List (List Int)}(h:cs.Perm ds):(Ky cs).Perm (Ky ds):=by
 unfold Ky;rw[z9s (Lw h)];exact(Lw h).map _
theorem RY:∀{l:List Nat}{x:Nat},x∈l->0<x->0<l.sum
 |y::l,x,h,h0=>by
  simp only[Z2x];rcases gJ.1 h with rfl|h
  ·omega
  ·have:=RY h h0;omega
theorem Tv{cs:List (List Int)}(h:∀c∈cs,gV c){q:List Int}(hq:q∈jr cs):gV q/\yD q=1/\0<CS cs q:=by
 obtain⟨c,hc,h0,rfl⟩:=ZJ.1 hq;refine⟨De (h c hc),z1j (h c hc) (Z58 h0),?_⟩;unfold CS;refine RY (x:=yD c) (pe.2 ⟨c,Z35.2 ⟨hc,by simp[h0]⟩,rfl⟩) (Z58 h0)
theorem zk9{G m:Nat}(hG:G ∣ m)(h0:0<G)(q:List Int):(sc m q).map (λx=>x/(G:Int))=sc (m/G) q:=by
 obtain⟨k,rfl⟩:=hG;unfold sc;rw[Oo,Nat.mul_div_cancel_left k h0];refine TV λx _=>?_
 simp only[Function.comp];rw[show((G*k:Nat):Int)*x=(G:Int)*((k:Int)*x) by rw[Int.natCast_mul,Z53]];exact Int.mul_ediv_cancel_left _ (by omega)
theorem TZ{cs:List (List Int)}(h:∀c∈cs,gV c){q:List Int}(hq:q∈jr cs):cmn (pc cs) ∣ CS cs q:=by
 obtain⟨h1,h2,h3⟩:=Tv h hq;have e:=H0 (CS cs q) h1;rw[h2,Z2h]at e;rw[<-e];refine Pj λx hx=>?_
 exact Zp (Z4y.2 ⟨_,pe.2 ⟨q,hq,rfl⟩,hx⟩)
theorem Tx{cs:List (List Int)}(h:∀c∈cs,gV c){q:List Int}(hq:q∈jr cs):0<cmn (pc cs):=
 Nat.pos_of_dvd_of_pos (TZ h hq) (Tv h hq).2.2
theorem zkw{cs:List (List Int)}(h:∀c∈cs,gV c):Ky cs=(jr cs).map λq=>sc (CS cs q/cmn (pc cs)) q:=by
 unfold Ky
 conv=>lhs;rw[pc,Oo]
 exact TV λq hq=>zk9 (TZ h hq) (Tx h hq) q
theorem RN{cs:List (List Int)}{n:Nat}(h:∀c∈cs,gV c)(hl:∀c∈cs,c.length=n):∀c∈Ky cs,c.length=n:=by
 rw[zkw h];intro c hc;obtain⟨q,hq,rfl⟩:=pe.1 hc;obtain⟨c',Ke,_,rfl⟩:=ZJ.1 hq;rw[zk8,z5b,hl c' Ke]
theorem B6(cs:List (List Int)):pc (cs.filter λc=>decide (yD c≠0))=pc cs:=by
 have e1:jr (cs.filter λc=>decide (yD c≠0))=jr cs:=by
  unfold jr;rw[Z47];simp only[Z46]
 have e2:∀q,CS (cs.filter λc=>decide (yD c≠0)) q=CS cs q:=λq=>by
  unfold CS;rw[Z47];congr 2;refine Z3m λc _=>?_
  cases decide (yD c≠0)<;>simp
 unfold pc;rw[e1];simp only[e2]
theorem z5z{cs ds:List (List Int)}(h:(cs.filter λc=>decide (yD c≠0)).Perm (ds.filter λc=>decide (yD c≠0))):(Ky cs).Perm (Ky ds):=by
 have:=z61 h;unfold Ky at this⊢
 rwa [B6,B6]at this
end Go.Kz
namespace Go.Kz
mutual
def CM(m:Int->Int):Tm->Tm
 |⟨op,n,ks⟩=>⟨op,if op=24 then m n else n,Lj m ks⟩
def Lj(m:Int->Int):List Tm->List Tm
 |[]=>[]
 |k::ks=>CM m k::Lj m ks
end
theorem Ly(m:Int->Int):∀l:List Tm,Lj m l=l.map (CM m)
 |[]=>rfl
 |k::ks=>by simp only[Lj,Qw,Ly m ks]
theorem z6a(m:Int->Int)(t:Tm):CM m t=⟨t.op,if t.op=24 then m t.n else t.n,t.kids.map (CM m)⟩:=by cases t;simp only[CM,Ly]
mutual
theorem O3:∀t:Tm,CM (λn=>n) t=t
 |⟨op,n,ks⟩=>by simp only[CM,ite_self,RT ks]
theorem RT:∀l:List Tm,Lj (λn=>n) l=l
 |[]=>rfl
 |k::ks=>by simp only[Lj,O3 k,RT ks]
end
theorem XV(vs:List zi)(vW:Bool)(m:Int->Int)(vals Rk:List Int)(hv:∀n,0<=n->n<len vs->Rk.getD (m n).toNat 0=vals.getD n.toNat 0):
  ∀(M:Nat)(t:Tm),xP t<=M->GN vs vW t=true->wD Rk (CM m t)=wD vals t
 |0,t,h,_=>by have:=yG t;omega
 |M+1,t,h,hf=>by
  have ql:=pC t;rw[KK,zA,Z2j]at hf;obtain⟨hhd,hkf⟩:=hf;have hh:=Zv hhd;rw[XW,XW vals,z6a];have ek:(t.kids.map (CM m)).map (wD Rk)=t.kids.map (wD vals):=by
   rw[Oo];refine TV λk hk=>?_
   have:=wy hk;exact XV vs vW m vals Rk hv M k (by omega) (hkf k hk)
  simp only[ek];unfold L9;by_cases h0:t.op=0
  ·rw[qn h0,qn h0,qP (by omega)]
  rw[qP h0,qP h0];by_cases xV:t.op=24
  ·obtain⟨q1,q2⟩:=hh.ref xV;rw[qn xV,qn xV,qn xV];exact hv _ q1 q2
  rw[qP xV,qP xV]
mutual
def mvS(m:Int->Int)(k:Int):Sp->Sp
 |⟨a,c,v,n,t,x,y,b⟩=>⟨a,c,if a=0\/a=5 then m v else v,if a=5 then n+k else n,CM m t,xH m k x,xH m k y,b⟩
def xH(m:Int->Int)(k:Int):List Sp->List Sp
 |[]=>[]
 |x::l=>mvS m k x::xH m k l
end
theorem z6b(m:Int->Int)(k:Int)(x:Sp):mvS m k x=⟨x.act,x.cost,if x.act=0\/x.act=5 then m x.var else x.var,if x.act=5 then x.n+k else x.n,CM m x.term,xH m k x.jM,xH m k x.ui,x.bounds⟩:=by cases x;simp only[mvS]
mutual
theorem zkx:∀x:Sp,mvS (λn=>n) 0 x=x
 |⟨a,c,v,n,t,x,y,b⟩=>by simp only[mvS,ite_self,Int.add_zero,O3,XB x,XB y]
theorem XB:∀l:List Sp,xH (λn=>n) 0 l=l
 |[]=>rfl
 |x::l=>by simp only[xH,zkx x,XB l]
end
structure WV (vs:List zi) (m:Int->Int) (pre w0:List Int) (s s':RS):Prop where
 ln:s.vals.length=vs.length
 vals:∀n,0<=n->n<len vs->s'.vals.getD (m n).toNat 0=s.vals.getD n.toNat 0
 outs:s'.outs=pre++s.outs
 ln':s'.vals.length=w0.length
 vV:∀i:Nat,(∀v,JG vs v=true->(m v).toNat≠i)->s'.vals.getD i 0=w0.getD i 0
structure zvc (vs:List zi) (m:Int->Int) (L:Nat):Prop where
 Qs:∀n,0<=n->n<len vs->0<=m n/\m n<L
 inj:∀n n',0<=n->n<len vs->0<=n'->n'<len vs->m n=m n'->n=n'
variable {vs:List zi}{m:Int->Int}{pre w0:List Int}
theorem WV.time{s s':RS}(h:WV vs m pre w0 s s')(t t':Int):WV vs m pre w0 ⟨s.vals,s.outs,t⟩ ⟨s'.vals,s'.outs,t'⟩:=⟨h.ln,h.vals,h.outs,h.ln',h.vV⟩
theorem WV.val{s s':RS}(h:WV vs m pre w0 s s'){t:Tm}{vW:Bool}(ht:GN vs vW t=true):wD s'.vals (CM m t)=wD s.vals t:=XV vs vW m s.vals s'.vals h.vals _ t (jq _) ht
theorem BM(l:List Int)(i j:Nat)(x:Int)(hi:i<l.length):(l.set i x).getD j 0=if i=j then x else l.getD j 0:=by
 rw[ZB,ZB,List.getElem?_set];split
 ·rename_i e;simp_all
 ·rfl
theorem WV.set{s s':RS}(hm:zvc vs m w0.length)(h:WV vs m pre w0 s s'){v:Int}(hv:JG vs v=true)(x t t':Int):WV vs m pre w0 ⟨qR s.vals v x,s.outs,t⟩ ⟨qR s'.vals (m v) x,s'.outs,t'⟩:=by
 obtain⟨k,hk,rfl,_⟩:=Gu hv;obtain⟨r1,r2⟩:=hm.Qs (k:Int) (by omega) (by simp only[Go.Kz.len];omega);refine⟨by simp[qR,h.ln],λn h0 h1=>?_,h.outs,by simp[qR,h.ln'],λi hi=>?_⟩
 ·simp only[qR];have Lf:n.toNat<s.vals.length:=by rw[h.ln];simp only[Go.Kz.len]at h1;omega
  rw[BM _ _ _ _ (by rw[h.ln'];omega),BM _ _ _ _ (by rw[h.ln];simpa using hk)];obtain⟨r3,r4⟩:=hm.Qs n h0 h1;by_cases e:(k:Int)=n
  ·subst e;rw[qn rfl,qn rfl]
  ·have:¬m (k:Int)=m n:=λc=>e (hm.inj _ _ (by omega) (by simp only[Go.Kz.len];omega) h0 h1 c)
   rw[qP (by omega),qP (by omega)];exact h.vals n h0 h1
 ·simp only[qR];rw[BM _ _ _ _ (by rw[h.ln'];omega),qP (hi _ hv)];exact h.vV i hi
theorem z4w{c c':Int}{t t':Tm}{body zil:RS->RS}(hb:∀s s',WV vs m pre w0 s s'->WV vs m pre w0 (body s) (zil s'))(hv:∀s s',WV vs m pre w0 s s'->wD s'.vals t'=wD s.vals t):
  ∀(n:Nat)(s s':RS),WV vs m pre w0 s s'->WV vs m pre w0 (Je c t body n s) (Je c' t' zil n s')
 |0,s,s',h=>h
 |n+1,s,s',h=>by
  simp only[Je,hv s s' h];split
  ·exact h.time _ _
  ·exact z4w hb hv n _ _ (hb _ _ (h.time _ _))
theorem AW(f g:zt)(hs FT:List Int)(k:Int)(hm:zvc f.1 m w0.length)(hb:∀v,JG f.1 v=true->Tl g (m v)=Tl f v/\Tn g (m v)=Tn f v)(hh:∀n,0<=n->n<len f.2.1->FT.getD (n+k).toNat 0=hs.getD n.toNat 0):
  ∀(M:Nat)(l:List Sp)(top:Bool),yA l<M->JM f top l->∀s s',WV f.1 m pre w0 s s'->WV f.1 m pre w0 (vc f hs l s) (vc g FT (xH m k l) s')
 |0,l,_,h,_,_,_,_=>by omega
 |M+1,[],_,_,_,s,s',h=>by simp only[vc,xH];exact h
 |M+1,x::l,top,h,zq,s,s',hi=>by
  simp only[yA]at h;have he:=kX x;have hp:=yG x.term;simp only[JM]at zq;obtain⟨⟨q1,q2,q3⟩,q4,q5⟩:=(Z1 ..).1 zq.1;have kx:=λs s'=>AW f g hs FT k hm hb hh M x.jM false (by omega) q4 s s'
  have ky:=λs s'=>AW f g hs FT k hm hb hh M x.ui false (by omega) q5 s s'
  simp only[vc,xH];refine AW f g hs FT k hm hb hh M l top (by omega) zq.2 _ _ ?_;rw[VN,VN,z6b];have vt:=λs s' (h:WV f.1 m pre w0 s s')=>h.val q3.1
  simp only;by_cases a4:x.act=4
  ·rw[qn a4,qn a4,qP (by omega)];exact z4w kx vt _ _ _ hi
  rw[qP a4,qP a4];by_cases a0:x.act=0
  ·have hl:=q1.var (.inl a0);rw[qn a0,qn a0,qn (.inl a0),(hb _ hl).1,(hb _ hl).2,vt _ _ hi];exact hi.set hm hl _ _ _
  rw[qP a0,qP a0];by_cases a1:x.act=1
  ·rw[qn a1,qn a1,vt _ _ hi];exact⟨hi.ln,hi.vals,by simp only[hi.outs,XQ],hi.ln',hi.vV⟩
  rw[qP a1,qP a1];by_cases a3:x.act=3
  ·rw[qn a3,qn a3,vt _ _ hi];split
   ·exact ky _ _ (hi.time _ _)
   ·exact kx _ _ (hi.time _ _)
  rw[qP a3,qP a3];by_cases a5:x.act=5
  ·have hl:=q1.var (.inr a5);obtain⟨r1,r2⟩:=q1.rel a5;rw[qn a5,qn a5,qn (.inr a5),qn a5,(hb _ hl).1,(hb _ hl).2,hh _ r1 r2];exact hi.set hm hl _ _ _
  rw[qP a5,qP a5];split
  ·exact hi.time _ _
  ·exact hi.time _ _
end Go.Kz
namespace Go.Kz
theorem B7{I Z:Type}{eq:I->I->Bool}[DecidableEq I](he:∀a b,eq a b=decide (a=b))(k k':I)(v:Z):(m:List (I×Z))->jF eq (ve eq m k v) k'=if k'=k then some v else jF eq m k'
 |[]=>by
  simp only[ve,jF,he];by_cases h:k'=k
  ·rw[jQ h,qn h];rfl
  ·rw[qd h,qP h];rfl
 |(a,b)::m=>by
  have ih:=B7 he k k' v m;simp only[ve,he];by_cases h:k=a
  ·subst h;rw[jQ rfl,zJ];simp only[jF,he];by_cases h2:k'=k
   ·rw[jQ h2,qn h2];rfl
   ·rw[qd h2,qP h2];rfl
  ·rw[qd h,zU];simp only[jF,he,ih];by_cases h2:k'=a
   ·subst h2;have h':¬k'=k:=λe=>h e.symm
    simp only[qP h',Nq,zJ]
   ·rw[qd h2];rfl
theorem Lk{I Z:Type}(eq:I->I->Bool)(k:I)(v:Z):(m:List (I×Z))->(ve eq m k v).length<=m.length+1
 |[]=>by simp[ve]
 |(a,b)::m=>by
  have:=Lk eq k v m;simp only[ve];cases eq k a<;>simp;omega
theorem zkh(a b:E2):qE a b=decide (a=b):=by
 obtain⟨a1,a2,⟨⟩⟩:=a;obtain⟨b1,b2,⟨⟩⟩:=b;rw[zq8];simp only[p8,Dx];rw[Z3j];simp
@[reducible] def gn (f:zt) (p:List Int) (s r:Int):Jj:=(xu (qh f.1 1) s (qh f.1 1).length,(p,(xu (qh f.1 3) r (qh f.1 3).length,())))
theorem S0{f:zt}(hw:WF f){p:List Int}(hp:Fits (qh f.1 2) p)(s r:Int):Ry f.1 (gn f p s r):=by
 intro k h1 h3;have:k=1\/k=2\/k=3:=by omega
 rcases this with rfl|rfl|rfl
 ·exact Iq (kz hw.vars.Qs 1) s
 ·exact hp
 ·exact Iq (kz hw.vars.Qs 3) r
def Wx(f:zt)(p:List Int)(td:Bool)(s r:Int):vQ:=((Q5 f (gn f p s r)).outs,((cond td (Q5 f (gn f p s r)).time 0),()))
theorem RI{f:zt}(hw:WF f){p:List Int}(hp:Fits (qh f.1 2) p)(td:Bool)(s r:Int):zob (Wx f p td s r):=by
 have h:=zl6 hw (gn f p s r) (S0 hw hp s r);intro x hx;rcases gJ.1 hx with rfl|hx
 ·cases td
  ·exact⟨by simp[Wx],by simp[Wx]⟩
  ·exact h _ (Z2c ..)
 ·exact h _ (On _ hx)
section
variable (f:zt) (p:List Int) (td:Bool) (R:Nat)
def Xz(i:Nat):vQ:=Wx f p td ((i/R:Nat):Int) ((i%R:Nat):Int)
def Xp(n:Nat):List vQ:=(List.range n).map (Xz f p td R)
def jU(n:Nat):List vQ:=kV [] (Xp f p td R n)
def JP(n i:Nat):Int:=(posOf (Xz f p td R i) (jU f p td R n):Int)
def xO(n i a:Nat)(b:Int):Int:=(((List.range i).filter λj=>decide (j/R=a)&&decide (JP f p td R n j=b)).length:Int)
end
section
variable {f:zt}{p:List Int}{td:Bool}{R:Nat}
theorem EJ(n:Nat):Xp f p td R (n+1)=Xp f p td R n++[Xz f p td R n]:=by simp[Xp,Z2d]
theorem Ls(m:Nat):∀n,∃r,Xp f p td R (m+n)=Xp f p td R m++r
 |0=>⟨[],by simp⟩
 |n+1=>by
  obtain⟨r,h⟩:=Ls m n;exact⟨r++[Xz f p td R (m+n)],by rw[<-Z2e,EJ,h];simp⟩
theorem F9{j n:Nat}(h:j<n):Xz f p td R j∈jU f p td R n:=by
 rw[jU,FB];exact pe.2 ⟨j,Du.2 h,rfl⟩
theorem O6{j S:Nat}(h:j<S):(posOf (Xz f p td R j) (jU f p td R (j+1)):Int)=JP f p td R S j:=by
 obtain⟨r,hr⟩:=Ls (f:=f) (p:=p) (td:=td) (R:=R) (j+1) (S-(j+1));rw[show j+1+(S-(j+1))=S by omega]at hr;unfold JP jU;rw[hr,V0];obtain⟨q,hq⟩:=Am (kV [] (Xp f p td R (j+1))) r;rw[hq,G8];exact F9 (Eb j)
theorem Al(n:Nat):(jU f p td R n).length<=n:=by
 have:=Vd [] (Xp f p td R n);simpa[jU,Xp]using this
theorem RM{n:Nat}{x:vQ}(h:x∈jU f p td R n):∃s r:Int,x=Wx f p td s r:=by
 rw[jU,FB]at h;obtain⟨i,_,rfl⟩:=pe.1 h;exact⟨_,_,rfl⟩
theorem z1z(n i a:Nat)(b:Int):xO f p td R n (i+1) a b=xO f p td R n i a b+if i/R=a/\JP f p td R n i=b then 1 else 0:=by
 unfold xO;rw[Z2d,Z26,Jz];by_cases h:i/R=a/\JP f p td R n i=b
 ·rw[qn h,Z3t (by simp[h])];simp
 ·rw[qP h,Z4i (by simpa using h)];simp
theorem Cw(n i a:Nat)(b:Int):0<=xO f p td R n i a b/\xO f p td R n i a b<=i:=by
 unfold xO;have:=Z37 (λj=>decide (j/R=a)&&decide (JP f p td R n j=b)) (List.range i);rw[Z59]at this;omega
end
structure zv8 (f:zt) (p:List Int) (td:Bool) (R T i:Nat) (s:List (E2×Int)×List vQ×List (List UInt8×Int)):Prop where
 cnt:∀(a:Nat)(b:Int),(jF qE s.1 ((a:Int),(b,()))).getD 0=xO f p td R T i a b
 len:s.1.length<=i
 obs:s.2.1=jU f p td R i
 idx:s.2.2=Ct ((jU f p td R i).map D3) 0
theorem zds(N:Nat)(hN:5000<=N){f:zt}(hw:WF f){p:List Int}(hp:Fits (qh f.1 2) p)(td:Bool){S R:Nat}(hS:zf (qh f.1 1)=(S:Int))(hR:zf (qh f.1 3)=(R:Int))(hT:S*R<=256)(h16:S<=256){A:Type}(kx:List vQ->List (E2×Int)->Option A)(Q:A->Prop)
  (hk:∀m:List (E2×Int),(∀(a:Nat)(b:Int),(jF qE m ((a:Int),(b,()))).getD 0=xO f p td R (S*R) (S*R) a b)->zp (kx (jU f p td R (S*R)) m) Q) (t10:Int) :
  zp (iter (λw=>Gr idM N (R:Int) t10 (S:Int) (p,(td,())) f w kx) N (0,([]:List (E2×Int)),([]:List vQ),([]:List (List UInt8×Int)))) Q:=by
 have hv:=hw.vars;have r1:=XP;have rb:=AU;have q2:=ji (l:=qh f.1 2) (kz hv.Qs 2);have q3:=ji (l:=qh f.1 3) (kz hv.Qs 3);have hR0:0<R:=by omega
 refine zp.up (λj s=>zv8 f p td R (S*R) (j*R) s) S ?_ ?_ N 0 (v8 _) (by omega) _ ⟨λa b=>by simp[jF,xO],by simp,by simp[jU,Xp,kV],by simp[jU,Xp,kV,Ct]⟩
 ·rintro j s w hj hs PD;simp only[Gr];rw[jQ (show(j:Int)<(S:Int) by omega),zJ];have hjR:j*R+R<=S*R:=by
   have:=wI R (show j+1<=S by omega);rw[kK]at this;omega
  refine zp.up (λi s=>zv8 f p td R (S*R) (j*R+i) s) R ?_ ?_ N 0 (v8 _) (by have:=Nat.le_mul_of_pos_left R (show 0<S by omega);omega) _ (by simpa using hs)
  ·rintro i ⟨m,U,ix⟩ w2 hi ⟨c1,c2,c3,c4⟩ hw2;simp only at c1 c2 c3 c4;subst c3;subst c4;have hdiv:(j*R+i)/R=j:=by rw[DZ,Z3o hR0,Z3p hi];rfl
   have zsp:(j*R+i)%R=i:=by rw[DZ,Z5a,Z3q hi]
   have LM:=Al (f:=f) (p:=p) (td:=td) (R:=R) (j*R+i);have zly:Xz f p td R (j*R+i)=Wx f p td (j:Int) (i:Int):=by unfold Xz;rw[hdiv,zsp]
   have sh:(Q5 f (gn f p (j:Int) (i:Int))).outs.length<=8:=E1 hw (gn f p (j:Int) (i:Int));simp only[Xb];rw[jQ (show(i:Int)<(R:Int) by omega),zJ];unfold f72;rw[HV N (by omega) hv 1 (by omega) hv.sec (j:Int) (by omega) (by omega),HV N (by omega) hv 2 (by omega) hv.pub 0 (by omega) (by omega),HV N (by omega) hv 3 (by omega) (by have:=hv.rnd;omega) (i:Int) (by omega) (by omega)];simp only[zO,Nq,Qv,zU];rw[show f73 N f (xu (qh f.1 1) (j:Int) (qh f.1 1).length,(p,(xu (qh f.1 3) (i:Int) (qh f.1 3).length,())))=some (((Q5 f (gn f p (j:Int) (i:Int))).outs,((Q5 f (gn f p (j:Int) (i:Int))).time,())),0) from zn0 N hN f hw (gn f p (j:Int) (i:Int)) (S0 hw hp _ _)];have e74:f74 N ((Q5 f (gn f p (j:Int) (i:Int))).outs,((Q5 f (gn f p (j:Int) (i:Int))).time,())) td=some (Wx f p td (j:Int) (i:Int)):=by
    unfold f74;simp only[zg0 N (Q5 f (gn f p (j:Int) (i:Int))).outs (by omega)];cases td<;>rfl
   simp only[zO];rw[e74];have sh2:(Wx f p td (j:Int) (i:Int)).1.length<=8:=sh;have hoi:=RI hw hp td (j:Int) (i:Int);have Ou:=O6 (f:=f) (p:=p) (td:=td) (R:=R) (show j*R+i<S*R by omega);have z7j:∀q,jU f p td R (j*R+i+1)=q↔kV [] (Xp f p td R (j*R+i)++[Wx f p td (j:Int) (i:Int)])=q:=λq=>by rw[jU,EJ,zly]
   rw[zly]at Ou;generalize ho:Wx f p td (j:Int) (i:Int)=o at sh2 hoi Ou z7j zly⊢;simp only[zO];rw[qx (by simp only[jc];show 1+o.1.length<=room;omega)];unfold f60 K2;rw[qx (by simp only[jc,X4];omega)];simp only[zO];rw[show wv (o.2.1::o.1)=D3 o from rfl];have he:∀a b:List UInt8,ja .str a b=decide (a=b):=λa b=>rfl
   have inj:∀y∈jU f p td R (j*R+i),D3 y=D3 o->y=o:=λy hy e=>by
    obtain⟨s1,r1,rfl⟩:=RM hy;exact z6u (RI hw hp td _ _) hoi e
   have mem:D3 o∈(jU f p td R (j*R+i)).map D3↔o∈jU f p td R (j*R+i):=by
    constructor
    ·intro hx;obtain⟨y,hy,e⟩:=pe.1 hx;exact inj y hy e ▸ hy
    ·exact λhx=>pe.2 ⟨_,hx,rfl⟩
   have fin:∀k:Int,k=JP f p td R (S*R) (j*R+i)->∀F:List (E2×Int)->Option A,(∀m',(∀(a:Nat)(b:Int),(jF qE m' ((a:Int),(b,()))).getD 0=xO f p td R (S*R) (j*R+i+1) a b)->m'.length<=j*R+i+1->zp (F m') Q)->zp (idM A m ((j:Int),(k,())) F) Q:=by
    rintro k rfl F hF;unfold idM;refine zp.qV (by simp only[jc];omega) (hF _ (λa b=>?_) ?_)
    ·rw[B7 zkh,z1z,hdiv];have hc:=Cw (f:=f) (p:=p) (td:=td) (R:=R) (S*R) (j*R+i) j (JP f p td R (S*R) (j*R+i));by_cases e:j=a/\JP f p td R (S*R) (j*R+i)=b
     ·obtain⟨rfl,rfl⟩:=e;rw[qn rfl,qn ⟨rfl,rfl⟩,CU,c1,zx (by omega) (by omega)]
     ·rw[qP (λq=>e (by simp only[p8]at q;exact⟨by omega,q.2.1.symm⟩)),qP e,c1];omega
    ·have:=Lk qE ((j:Int),(JP f p td R (S*R) (j*R+i),())) (zz ((jF qE m ((j:Int),(JP f p td R (S*R) (j*R+i),()))).getD 0+1)) m;omega
   rw[U6 he];by_cases hm:o∈jU f p td R (j*R+i)
   ·have hnb:jU f p td R (j*R+i+1)=jU f p td R (j*R+i):=(z7j _).2 (z5x _ _ _ hm);rw[qn (mem.2 hm),Pl inj];simp only[Option.isSome_some,Qv,zU,CU];refine fin _ (by rw[<-Ou,hnb];omega) _ λm' d1 d2=>?_
    rw[zk (by omega)];exact hw2 _ ⟨d1,d2,hnb.symm,by rw[show j*R+(i+1)=j*R+i+1 from rfl,hnb]⟩
   ·have hnb:jU f p td R (j*R+i+1)=jU f p td R (j*R+i)++[o]:=(z7j _).2 (RL _ _ _ hm);rw[qP (λq=>hm (mem.1 q))];simp only[Option.isSome_none,Z1z,zJ];refine zp.qV (by simp only[jc];omega) ?_;refine fin _ (by rw[<-Ou,hnb,Df hm]) _ λm' d1 d2=>?_
    rw[zk (by omega)];refine hw2 _ ⟨d1,d2,hnb.symm,?_⟩;have hp2:=U5 he (D3 o) ((jU f p td R (j*R+i)).map D3) 0 (λq=>hm (mem.1 q));rw[Int.zero_add,J9]at hp2;rw[show len (jU f p td R (j*R+i))=((jU f p td R (j*R+i)).length:Int) from rfl,hp2,show j*R+(i+1)=j*R+i+1 from rfl,hnb,XZ];rfl
  ·rintro s2 w2 hs2;simp only[Xb];rw[qd (by omega),zU,zk (by omega)];exact PD _ (by rw[kK,Z41];exact hs2)
 ·rintro⟨m,U,ix⟩ w ⟨c1,c2,c3,c4⟩;simp only[Gr];rw[qd (by omega),zU];simp only at c1 c3;subst c3;exact hk m c1
end Go.Kz
namespace Go.Kz
theorem zdr{R:Type}(N m:Nat)(hm:m<=256)(hN:5000<=N)(t:Int)(o2:List vQ)(o3:List (E2×Int))(kx:List Int->Option R)(Q:R->Prop)(hk:zp (kx (wq m)) Q):
  zp (iter (λw=>Gn idM N t (m:Int) o2 o3 w kx) N (0,(List.replicate m 0:List Int))) Q:=by
 refine zp.up (λk s=>s.length=m/\∀i (h:i<s.length),i<k->s[i]=(i:Int)) m ?_ ?_ N 0 (v8 _) (by omega) _ ⟨by simp,λi h hi=>by omega⟩
 ·rintro j s w hj ⟨hl,hs⟩ hw;have gg:j<s.length:=by omega
  simp only[Gn];rw[jQ (show(j:Int)<(m:Int) by omega),zJ,wh gg,qx rfl,zY gg];simp only[zO];rw[zk (by omega)];refine hw _ ⟨by simp[qR,hl],λi h hi=>?_⟩;simp only[qR,Wi,Z2z];split
  ·rename_i e;omega
  ·rename_i e;exact hs i (by simpa[qR]using h) (by omega)
 ·rintro s w ⟨hl,hs⟩;simp only[Gn];rw[qd (by omega),zU];have:s=wq m:=by
   apply I3
   ·simp[wq,hl]
   ·intro i h1 h2;rw[hs i h1 (by omega)];simp[wq]
  rw[this];exact hk
theorem zfa(N:Nat)(hN:5000<=N)(U:List vQ)(hu:U.Nodup)(hl:U.length<=256)(hs:∀x∈U,x.1.length<=200):∃l',f75 N (U,()) (wq U.length)=some (((),()),(l',()))/\l'.Perm (wq U.length):=by
 have at_:∀x∈wq U.length,∃i:Nat,x=(i:Int)/\i<U.length:=λx hx=>by
  have:=VE.1 hx;exact⟨x.toNat,by omega,by omega⟩
 let g:Int->vQ:=λx=>U.getD x.toNat ([],(0,()))
 have gi:∀(i:Nat)(hi:i<U.length),g (i:Int)=U[i]:=λi hi=>by
  simp only[g,Wi,ZB,wV hi,CU]
 have inj:∀x∈wq U.length,∀y∈wq U.length,g x=g y->x=y:=λx hx y hy e=>by
  obtain⟨i,rfl,hi⟩:=at_ x hx;obtain⟨j,rfl,hj⟩:=at_ y hy;rw[gi i hi,gi j hj]at e;rw[E6 hu hi hj e]
 obtain⟨l',h1,h2⟩:=z03 (t:=.int .i64) (Fc:=λx y=>f76 N x y U) (c:=λx y=>ON (g x) (g y)) (l:=wq U.length) (λx hx y hy=>by
   obtain⟨i,rfl,hi⟩:=at_ x hx;obtain⟨j,rfl,hj⟩:=at_ y hy;unfold f76;rw[zY hi,zY hj];simp only[zO];rw[zmz N (by omega) _ _ (hs _ (wB hi)),gi i hi,gi j hj];rfl) (λx hx y hy h=>inj x hx y hy ((A4.zero _ _).1 h)) (λx _=>(A4.zero _ _).2 rfl) (λx _ y _=>A4.neg _ _) (λx _ y _ z _=>A4.trans _ _ _) (by simp[wq];omega)
 refine⟨l',?_,h2⟩;unfold f75;rw[h1];rfl
def Dg(U:List vQ)(k:Int):vQ:=U.getD k.toNat ([],(0,()))
theorem zdq{A:Type}(N m:Nat)(hm:m<=256)(hN:5000<=N)(t:Int)(o1:List vQ)(ho:o1.length=m)(ord:List Int)(hp:ord.Perm (wq m))(o4:List (E2×Int))(kx:List vQ->Option A)(Q:A->Prop)(hk:zp (kx (ord.map (Dg o1))) Q):
  zp (iter (λw=>Gm idM N t (len ord) o1 ord o4 w kx) N (0,([]:List vQ))) Q:=by
 have r1:room=4294967296:=rfl;have hl:ord.length=m:=by rw[hp.length_eq];simp[wq]
 refine zp.up (λk s=>s=(ord.take k).map (Dg o1)) m ?_ ?_ N 0 (v8 _) (by omega) _ rfl
 ·rintro j s w hj rfl hw;have gg:j<ord.length:=by omega
  have hmem:=VE.1 (hp.mem_iff.1 (wB gg));simp only[Gm];rw[show decide ((j:Int)<len ord)=true from zb gg,zJ,wh gg,qx rfl,zY gg];simp only[zO];obtain⟨i,hi⟩:∃i:Nat,ord[j]=(i:Int):=⟨ord[j].toNat,by omega⟩;rw[qX gg,XZ]at hw;rw[hi]at hmem hw⊢;have wu:i<o1.length:=by omega
  rw[wh wu,qx rfl,zY wu];simp only[zO];refine zp.qV (by simp only[jc,J9,CB];omega) ?_;rw[zk (by omega)];refine hw _ ?_;simp only[Qw,Z2b,Dg,Wi,ZB,wV wu,CU]
 ·rintro s w rfl;simp only[Gm];rw[show decide ((m:Int)<len ord)=false by simp[len,hl],zU,Z21 (by omega)];exact hk
theorem zdp{A:Type}(N:Nat)(hN:5000<=N)(C:Int->Int)(s:Nat)(m:List (E2×Int))(hm:∀b:Int,(jF qE m ((s:Int),(b,()))).getD 0=C b)(ord:List Int)(hl:ord.length<=256)(a b:Int)(o4:List (List Int))(o6:List vQ)(kx:List Int->Option A)(Q:A->Prop)(hk:zp (kx (ord.map C)) Q):
  zp (iter (λw=>Gl idM N (s:Int) a b (len ord) m ord o4 o6 w kx) N (0,(List.replicate ord.length 0:List Int))) Q:=by
 refine zp.up (λk s1=>s1.length=ord.length/\∀i (h:i<s1.length) (h':i<ord.length),i<k->s1[i]=C ord[i]) ord.length ?_ ?_ N 0 (v8 _) (by omega) _ ⟨by simp,λi h h' hi=>by omega⟩
 ·rintro j s1 w hj ⟨e1,e2⟩ hw;have gg:j<s1.length:=by omega
  simp only[Gl];rw[show decide ((j:Int)<len ord)=true from zb hj,zJ,wh hj,qx rfl,zY hj];simp only[zO];rw[wh gg,qx rfl,zY gg];simp only[zO];rw[zk (by omega),show Ui (.pair (.int .i64) (.pair (.int .i64) .unit))=qE from rfl,hm];refine hw _ ⟨by simp[qR,e1],λi h h' hi=>?_⟩;simp only[qR,Wi,Z2z];split
  ·rename_i e;subst e;rfl
  ·rename_i e;exact e2 i (by simpa[qR]using h) h' (by omega)
 ·rintro s1 w ⟨e1,e2⟩;simp only[Gl];rw[show decide (((ord.length:Nat):Int)<len ord)=false from zH _,zU];have:s1=ord.map C:=by
   apply I3
   ·simp[e1]
   ·intro i h1 h2;rw[e2 i h1 (by omega) (by omega)];simp
  rw[this];exact hk
theorem HQ(N:Nat)(hN:5000<=N){f:zt}(hw:WF f){p:List Int}(hp:Fits (qh f.1 2) p)(td:Bool){S R:Nat}(hS:zf (qh f.1 1)=(S:Int))(hR:zf (qh f.1 3)=(R:Int))(hT:S*R<=256)(h16:S<=256):
  zp (f21 N f (p,(td,()))) λr=>r.2.2=0/\∃ord:List Int,ord.Perm (wq (jU f p td R (S*R)).length)/\r.1=((List.range S).map (λs=>ord.map λk=>xO f p td R (S*R) (S*R) s k),())/\r.2.1=ord.map (Dg (jU f p td R (S*R))):=by
 have hv:=hw.vars;have rb:room=4294967296:=rfl;have LM:=Al (f:=f) (p:=p) (td:=td) (R:=R) (S*R);unfold f21 zn7;rw[z8s N (by omega) f hw,zO,jQ rfl,Qv,zU];refine zp.then (zn1 N (by omega) hv 2 (by omega) hv.pub p hp) λr hr=>?_
 rw[jQ hr,Qv,zU,Bc N (by omega) hv.len hv.Qs 1 (by omega) hv.sec,Bc N (by omega) hv.len hv.Qs 3 (by omega) (by have:=hv.rnd;omega)];simp only[zO];rw[hS,hR,qd (show ¬(256:Int)<(S:Int) by omega),zU];refine zds N hN hw hp td hS hR hT h16 _ _ (λm hm=>?_) _;rw[qd (show ¬(256:Int)<len (jU f p td R (S*R)) by simp only[len];omega),zU];refine zp.qV (by simp only[zA,jc,len];omega) ?_;simp only[len,Wi,Z60];refine zdr N _ (by omega) (by omega) _ _ _ _ _ ?_;obtain⟨ord,o1,o2⟩:=zfa N (by omega) (jU f p td R (S*R)) (QG _ _ (by simp)) (by omega) λx hx=>by
  obtain⟨s,r,rfl⟩:=RM hx;have:(Wx f p td s r).1.length<=8:=E1 hw (gn f p s r);omega
 have hol:ord.length=(jU f p td R (S*R)).length:=by rw[o2.length_eq];simp[wq]
 rw[o1,zO];refine zdq N _ (by omega) (by omega) _ _ rfl _ o2 _ _ _ ?_;refine zp.up (λj s=>s=(List.range j).map λs=>ord.map λk=>xO f p td R (S*R) (S*R) s k) S ?_ ?_ N 0 (v8 _) (by omega) _ rfl
 ·rintro j s w hj rfl PD;simp only[Xa];rw[jQ (show(j:Int)<(S:Int) by omega),zJ];refine zp.qV (by simp only[zA,jc,len];omega) ?_;rw[show Int.toNat (len ord)=ord.length from rfl];refine zdp N (by omega) (λk=>xO f p td R (S*R) (S*R) j k) j m (λb=>hm j b) ord (by omega) _ _ _ _ _ _ ?_;refine zp.qV (by simp only[jc,J9,Z59];omega) ?_;rw[zk (by omega)];refine PD _ ?_;rw[Z2d,XZ];rfl
 ·rintro s w rfl;simp only[Xa];rw[qd (by omega),zU];exact zp.ret ⟨rfl,ord,o2,rfl,rfl⟩
end Go.Kz
namespace Go.Kz
def xr(l:List Int):Int:=l.sum
theorem DB(l:List Int)(x:Int):xr (l++[x])=xr l+x:=by simp[xr]
theorem uI:∀{l:List Int},(∀x∈l,0<=x)->0<=xr l
 |[],_=>by simp[xr]
 |x::l,h=>by
  have:=uI (l:=l) λy hy=>h y (by simp[hy])
  have:=h x (by simp);simp only[xr,Z2x]at *;omega
theorem PO{l:List Int}(h:∀x∈l,0<=x)(k:Nat):xr (l.take k)<=xr l:=by
 have e:xr l=xr (l.take k)+xr (l.drop k):=by
  rw[show xr l=xr (l.take k++l.drop k) by rw[Z1v]];simp only[xr,Z61]
 have:=uI (l:=l.drop k) λx hx=>h x (Z3s hx)
 omega
theorem Ix{l:List Int}(h:∀x∈l,0<=x){x:Int}(hx:x∈l):x<=xr l:=by
 obtain⟨i,hi,rfl⟩:=Wl.1 hx;have h1:=PO h (i+1);rw[qX hi,DB]at h1;have:=uI (l:=l.take i) λx hx=>h x (Z2l hx)
 omega
theorem Mz(N:Nat)(hN:5000<=N)(l:List Int)(hl:l.length<=256)(h:∀x∈l,0<=x)(ht:xr l<=1048576):f140 N l=some (xr l):=by
 refine zp.eq ?_;unfold f140;refine zp.up (λk s=>s=xr (l.take k)) l.length ?_ ?_ N 0 (v8 _) (by omega) _ rfl
 ·rintro j s w hj rfl hw;have hx:=h _ (wB hj);have h0:=uI (l:=l.take j) λx hx=>h x (Z2l hx)
  have h1:=PO h (j+1);rw[qX hj,DB]at h1 hw;simp only[Xo];rw[show decide ((j:Int)<len l)=true from zb hj,zJ,zY hj];simp only[zO];rw[qd (by omega),zU,zO,zx (n:=1048576-xr (l.take j)) (by omega) (by omega),qd (by omega),zU,zk (by omega),zx (by omega) (by omega)];exact hw _ rfl
 ·rintro s w rfl;simp only[Xo];rw[show decide (((l.length:Nat):Int)<len l)=false from zH _,zU,Ki];exact zp.ret rfl
structure ZK (rows:List (List Int)) (n w:Nat) (t:Int):Prop where
 n1:1<=n/\n<=256
 w1:1<=w/\w<=256
 t1:1<=t/\t<=1048576
 len:rows.length=n
 wid:∀r∈rows,r.length=w
 pos:∀r∈rows,∀x∈r,0<=x
 sum:∀r∈rows,xr r=t
theorem OA(N:Nat)(l:List (List Int))(hl:l.length<=256)(hN:5000<=N)(t:Int×(Int×Unit))(h:∀x∈l,f142 N x t.1 t.2.1=some false):f217 N l t=some (-1):=by
 refine zp.eq ?_;unfold f217;refine zp.CT (λ_=>True) l.length ?_ ?_ N 0 (v8 _) (by omega) trivial
 ·intro j w hj _ hw;simp only[Xc];rw[show decide ((j:Int)<len l)=true from zb hj,zJ,zY hj];simp only[zO];rw[h _ (wB hj),zO,zU,zk (by omega)];exact hw trivial
 ·intro w _;simp only[Xc];rw[show decide (((l.length:Nat):Int)<len l)=false from zH _,zU];exact zp.ret rfl
theorem Hw(N:Nat)(hN:5000<=N){rows:List (List Int)}{n w:Nat}{t:Int}(h:ZK rows n w t):f57 N (rows,())=some true:=by
 obtain⟨⟨n1,n2⟩,⟨w1,w2⟩,⟨t1,t2⟩,hl,hw,hp,hs⟩:=h;have hi:0<rows.length:=by omega
 have hm:=wB hi;have ztz:∀x∈rows,f140 N x=some t:=λx hx=>by rw[Mz N hN x (by rw[hw x hx];omega) (hp x hx) (by rw[hs x hx];omega),hs x hx]
 unfold f57;rw[qd (show ¬Go.Kz.len rows<1 by simp only[Go.Kz.len];omega),zU,zO,qd (show ¬(256:Int)<Go.Kz.len rows by simp only[Go.Kz.len];omega),zU];rw[show idx rows 0=some rows[0] from zY hi];simp only[zO];rw[ztz _ hm];simp only[zO];have el:Go.Kz.len rows[0]=(w:Int):=by simp only[Go.Kz.len,hw _ hm]
 rw[el,qd (show ¬(w:Int)<1 by omega),zU,zO,qd (show ¬(256:Int)<(w:Int) by omega),zU,zO,qd (show ¬t<1 by omega),zU];unfold f141;rw[OA N _ (by omega) hN _ λx hx=>by
  unfold f142;rw[show Go.Kz.len x=(w:Int) by simp only[Go.Kz.len,hw x hx],jQ rfl,Qv,zU,ztz x hx,zO,jQ rfl];rfl]
 rfl
def Pn(a b:List (List Int))(n w w':Nat):List (List Int):=(List.range n).map λx=>(List.range (w*w')).map λy=>(a.getD x []).getD (y/w') 0*(b.getD x []).getD (y%w') 0
theorem Fv{rows:List (List Int)}{n w:Nat}{t:Int}(h:ZK rows n w t){x y:Nat}(hx:x<n)(hy:y<w):∃r,idx rows (x:Int)=some r/\idx r (y:Int)=some ((rows.getD x []).getD y 0)/\0<=(rows.getD x []).getD y 0/\(rows.getD x []).getD y 0<=t:=by
 have QF:x<rows.length:=by rw[h.len];exact hx
 have hm:=wB QF;have hy':y<rows[x].length:=by rw[h.wid _ hm];exact hy
 have e:(rows.getD x []).getD y 0=rows[x][y]:=by
  simp only[ZB,wV QF,CU,wV hy']
 refine⟨rows[x],zY QF,by rw[e];exact zY hy',?_,?_⟩
 ·rw[e];exact h.pos _ hm _ (wB hy')
 ·rw[e,<-h.sum _ hm];exact Ix (h.pos _ hm) (wB hy')
theorem zu2(N:Nat)(hN:5000<=N){a b:List (List Int)}{n w w':Nat}{t t':Int}(ha:ZK a n w t)(hb:ZK b n w' t')(hw:w*w'<=256)(ht:t*t'<=1048576):f9 N (a,()) (b,())=some ((Pn a b n w w',()),0):=by
 have rb:room=4294967296:=rfl;obtain⟨n1,n2⟩:=ha.n1;obtain⟨t1,t2⟩:=ha.t1;obtain⟨t1',t2'⟩:=hb.t1;obtain⟨v1,v2⟩:=hb.w1;have h52:∀{rows:List (List Int)}{w:Nat}{t:Int},ZK rows n w t->f52 N (rows,())=some (w:Int):=λ{rows w t} h=>by
  have hi:0<rows.length:=by rw[h.len];omega
  unfold f52;rw[show idx rows 0=some rows[0] from zY hi,zO,show Go.Kz.len rows[0]=(w:Int) by simp only[Go.Kz.len,h.wid _ (wB hi)]]
 have h54:∀{rows:List (List Int)}{w:Nat}{t:Int},ZK rows n w t->f54 N (rows,())=some t:=λ{rows w t} h=>by
  have hi:0<rows.length:=by rw[h.len];omega
  have hm:=wB hi;obtain⟨w1,w2⟩:=h.w1;obtain⟨q1,q2⟩:=h.t1;unfold f54;rw[Hw N hN h,zO,Qv,zU,show idx rows 0=some rows[0] from zY hi,zO,Mz N hN _ (by rw[h.wid _ hm];omega) (h.pos _ hm) (by rw[h.sum _ hm];omega),h.sum _ hm];rfl
 have hww:((w*w':Nat):Int)=(w:Int)*(w':Int):=by simp
 have wi:0<=t*t':=Ol (by omega) (by omega);refine zp.eq ?_;unfold f9 f51;rw[Hw N hN ha,zO,Qv,zU,Hw N hN hb,zO,Qv,zO,zU,zO,jQ rfl,Qv,zU];rw[show decide (Go.Kz.len a=Go.Kz.len b)=true by simp only[Go.Kz.len,ha.len,hb.len,Nq],Qv,zU,h52 hb,h52 ha,zO,zO,h54 ha,h54 hb,zO,zO,<-hww,zx (n:=((w*w':Nat):Int)) (by omega) (by omega),zx (n:=t*t') (by omega) (by omega)];unfold f53;rw[qd (show ¬(256:Int)<((w*w':Nat):Int) by omega),zU,zO,qd (show ¬(1048576:Int)<t*t' by omega),zU,zO,jQ rfl,Qv,zU,zO];refine zp.then (P:=λr=>r=(Pn a b n w w',())) ?_ λr hr=>by subst hr;exact zp.ret rfl
 unfold f55;rw[show Go.Kz.len a=(n:Int) by simp only[Go.Kz.len,ha.len],<-hww,zx (n:=((w*w':Nat):Int)) (by omega) (by omega)];refine zp.up (λk s=>s=(List.range k).map λx=>(List.range (w*w')).map λy=>(a.getD x []).getD (y/w') 0*(b.getD x []).getD (y%w') 0) n ?_ ?_ N 0 (v8 _) (by omega) _ rfl
 ·rintro j s q hj rfl hq;simp only[Hg];rw[jQ (show(j:Int)<(n:Int) by omega),zJ];refine zp.qV (by simp only[zA,jc];omega) ?_;rw[Wi];simp only[Go.Kz.len,Z60];refine zp.up (λk s=>s.length=w*w'/\∀i (h:i<s.length),i<k->s[i]=(a.getD j []).getD (i/w') 0*(b.getD j []).getD (i%w') 0) (w*w') ?_ ?_ N 0 (v8 _) (by omega) _ ⟨by simp,λi h hi=>by omega⟩
  ·rintro k s q2 hk ⟨e1,e2⟩ S7;have pg:k<s.length:=by omega
   have d1:k/w'<w:=Z2g (by rw[DZ];exact hk);have d2:k%w'<w':=Z23 _ (by omega);have x2:=ha.w1.2;have z0:(0:Int)<=((k/w':Nat):Int):=Int.natCast_nonneg _;have z1:((k/w':Nat):Int)<=((256:Nat):Int):=Int.ofNat_le.2 (Z1o (Nat.le_of_lt d1) x2);obtain⟨ra,a1,a2,a3,a4⟩:=Fv ha hj d1;obtain⟨rb',b1,b2,b3,b4⟩:=Fv hb hj d2;simp only[Hk];rw[jQ (show(k:Int)<((w*w':Nat):Int) by omega),zJ];unfold f56;rw[a1,zO,qd (show ¬(w':Int)=0 by omega),zU,show Int.tdiv (k:Int) (w':Int)=((k/w':Nat):Int) from(Int.ofNat_tdiv k w').symm,zx (n:=((k/w':Nat):Int)) (by omega) (by omega),a2,zO,b1,zO,zU,show Int.tmod (k:Int) (w':Int)=((k%w':Nat):Int) from(Z5b k w').symm,b2,zO,zO];have m1:=Ol a3 b3;have m2:(a.getD j []).getD (k/w') 0*(b.getD j []).getD (k%w') 0<=t*t':=Z3r a4 b4 b3 (by omega);rw[wh pg,qx rfl,zY pg,zO,zO,zk (by omega),zx (by omega) (by omega)];refine S7 _ ⟨by simp[qR,e1],λi h hi=>?_⟩;simp only[qR,Wi,Z2z];split
   ·rename_i e;subst e;rfl
   ·rename_i e;exact e2 i (by simpa[qR]using h) (by omega)
  ·rintro s q2 ⟨e1,e2⟩;simp only[Hk];rw[qd (by omega),zU];refine zp.qV (by simp only[jc,J9,Z59];omega) ?_;rw[zk (by omega)];refine hq _ ?_;rw[Z2d,XZ];congr 1;simp only[Qw,Z2b,CA,Dx];apply I3
   ·simp[e1]
   ·intro i h1 h2;rw[e2 i h1 (by omega)];simp
 ·rintro s q rfl;simp only[Hg];rw[qd (by omega),zU];exact zp.ret rfl
end Go.Kz
namespace Go.Kz
theorem RJ(x:Int):∀{l:List Int},l.Nodup->x∈l->(l.map λk=>if x=k then (1:Int) else 0).sum=1
 |y::l,hn,h=>by
  have Ff:=Z2m.1 hn;simp only[Qw,Z2x];by_cases e:x=y
  ·subst e;have z:∀{m:List Int},x∉m->(m.map λk=>if x=k then (1:Int) else 0).sum=0:=λ{m} hm=>by
    induction m with
    |nil=>rfl
    |cons a m ih=>
     simp only[Qw,Z2x];rw[qP (λe=>hm (by simp[e])),ih (λq=>hm (by simp[q]))];rfl
   rw[qn rfl,z Ff.1];rfl
  ·rw[qP e,RJ x Ff.2 (by simpa[e]using h)];rfl
theorem sum_add(f g:Int->Int):∀l:List Int,(l.map λk=>f k+g k).sum=(l.map f).sum+(l.map g).sum
 |[]=>rfl
 |x::l=>by
  simp only[Qw,Z2x,sum_add f g l];omega
theorem Tg(g:Nat->Int){ord:List Int}(hn:ord.Nodup):∀J:List Nat,(∀j∈J,g j∈ord)->(ord.map λk=>((J.filter λj=>decide (g j=k)).length:Int)).sum=J.length
 |[],_=>by
  have:∀l:List Int,(l.map λ_=>(0:Int)).sum=0:=λl=>by
   induction l with
   |nil=>rfl
   |cons a l ih=>simp only[Qw,Z2x,ih];rfl
  exact this ord
 |j::J,h=>by
  have ih:=Tg g hn J λi hi=>h i (by simp[hi])
  have e:(λk=>(((j::J).filter λj=>decide (g j=k)).length:Int))=λk=>((J.filter λj=>decide (g j=k)).length:Int)+(if g j=k then (1:Int) else 0):=by
   funext k;by_cases q:g j=k
   ·rw[Z3t (by simp[q]),qn q];simp
   ·rw[Z4i (by simp[q]),qP q];simp
  rw[e,sum_add,ih,RJ (g j) hn (h j (by simp))];simp
theorem zd6{S R a:Nat}(hR:0<R)(ha:a<S):(List.range (S*R)).filter (λj=>decide (j/R=a))=(List.range R).map λi=>a*R+i:=by
 have h1:S*R=a*R+(R+(S*R-(a*R+R))):=by
  have:=wI R (show a+1<=S by omega);rw[kK]at this;omega
 rw[h1,Z5c,Z26,Z5c,XZ,Z26];have z1:(List.range (a*R)).filter (λj=>decide (j/R=a))=[]:=by
  rw[Z4j];intro j hj;have hj:=Du.1 hj;have:j/R<a:=Z2g (by rw[DZ];exact hj);simp only[jc];omega
 have z2:((List.range R).map λx=>a*R+x).filter (λj=>decide (j/R=a))=(List.range R).map λx=>a*R+x:=by
  rw[List.filter_eq_self];intro j hj;obtain⟨i,hi,rfl⟩:=pe.1 hj;have hi:=Du.1 hi;rw[jc,DZ,Z3o hR,Z3p hi];rfl
 have z3:(((List.range (S*R-(a*R+R))).map λx=>R+x).map λx=>a*R+x).filter (λj=>decide (j/R=a))=[]:=by
  rw[Z4j];intro j hj;obtain⟨i,hi,rfl⟩:=pe.1 hj;obtain⟨k,_,rfl⟩:=pe.1 hi;have:a+1<=(a*R+(R+k))/R:=(Nat.le_div_iff_mul_le hR).2 (by rw[kK];omega);simp only[jc];omega
 rw[z1,z2,z3];simp
theorem EF{f:zt}{p:List Int}{td:Bool}{S R a:Nat}(hR:0<R)(ha:a<S)(b:Int):
  xO f p td R (S*R) (S*R) a b=((((List.range R).map λi=>a*R+i).filter λj=>decide (JP f p td R (S*R) j=b)).length:Int):=by
 unfold xO;rw[<-zd6 hR ha,Z47];congr 2;refine Z3m λj _=>?_
 exact Bool.and_comm _ _
theorem FX{f:zt}{p:List Int}{td:Bool}{S R:Nat}(hS:1<=S/\S<=256)(hR:1<=R/\R<=256)(hT:S*R<=256){ord:List Int}(ho:ord.Perm (wq (jU f p td R (S*R)).length)):
  ZK ((List.range S).map λs=>ord.map λk=>xO f p td R (S*R) (S*R) s k) S ord.length (R:Int):=by
 have hol:ord.length=(jU f p td R (S*R)).length:=by rw[ho.length_eq];simp[wq]
 have hnd:ord.Nodup:=ho.nodup_iff.2 (Ng _);have LM:=Al (f:=f) (p:=p) (td:=td) (R:=R) (S*R);have Ou:∀j,j<S*R->JP f p td R (S*R) j∈ord:=λj hj=>by
  rw[ho.mem_iff,VE];have:=QJ (F9 (f:=f) (p:=p) (td:=td) (R:=R) hj);unfold JP;omega
 have u6:∀s,s<S->∀i,i<R->s*R+i<S*R:=λs hs i hi=>by
  have:=wI R (show s+1<=S by omega);rw[kK]at this;omega
 refine⟨hS,⟨?_,by omega⟩,⟨by omega,by omega⟩,by simp,?_,?_,?_⟩
 ·exact List.length_pos_of_mem (Ou 0 (by have:=u6 0 (by omega) 0 (by omega);omega))
 ·intro r hr;obtain⟨s,_,rfl⟩:=pe.1 hr;simp
 ·intro r hr x hx;obtain⟨s,_,rfl⟩:=pe.1 hr;obtain⟨k,_,rfl⟩:=pe.1 hx;exact(Cw (S*R) (S*R) s k).1
 ·intro r hr;obtain⟨s,hs,rfl⟩:=pe.1 hr;have hs:=Du.1 hs;unfold xr;rw[show(λk=>xO f p td R (S*R) (S*R) s k)=λk=>((((List.range R).map λi=>s*R+i).filter λj=>decide (JP f p td R (S*R) j=k)).length:Int) from funext λk=>EF (by omega) hs k];rw[Tg (λj=>JP f p td R (S*R) j) hnd]
  ·simp
  ·intro j hj;obtain⟨i,hi,rfl⟩:=pe.1 hj;exact Ou _ (u6 s hs i (Du.1 hi))
end Go.Kz
namespace Go.Kz
theorem Zx{I Z:Type}{f g:I->List Z}:∀{l:List I},(∀a∈l,f a=g a)->l.flatMap f=l.flatMap g
 |[],_=>rfl
 |x::l,h=>by rw[Z4f,Z4f,h x (by simp),Zx (l:=l) λa ha=>h a (by simp[ha])]
def GV(a b:vQ):vQ:=(a.1++b.1,(0,()))
def WJ(S R:Nat)(F:Nat->Nat->vQ)(o:vQ):List Int:=(List.range S).map λs=>(((List.range R).filter λr=>decide (F s r=o)).length:Int)
theorem UZ:∀{l:List Int},(∀x∈l,x=0)->yD l=0
 |[],_=>rfl
 |x::l,h=>by
  simp only[yD,Z38];have:=UZ (l:=l) λy hy=>h y (by simp[hy])
  simp only[yD]at this;rw[this,h x (by simp)];rfl
theorem MZ{S R:Nat}{F:Nat->Nat->vQ}{o:vQ}(h:yD (WJ S R F o)≠0):∃s r,s<S/\r<R/\F s r=o:=by
 refine Z5u λhn=>h (UZ λx hx=>?_)
 obtain⟨s,hs,rfl⟩:=pe.1 hx;rw[Z4j.2]
 ·rfl
 ·intro r hr e;exact hn ⟨s,r,Du.1 hs,Du.1 hr,X1 e⟩
theorem Tp(R2:Nat)(P Q:Nat->Bool)(T:Nat->Bool):∀R1:Nat,(∀r1 r2,r1<R1->r2<R2->T (r1*R2+r2)=(P r1&&Q r2))->
  ((List.range (R1*R2)).filter T).length=((List.range R1).filter P).length*((List.range R2).filter Q).length
 |0,_=>by simp
 |n+1,h=>by
  have ih:=Tp R2 P Q T n λr1 r2 h1 h2=>h r1 r2 (by omega) h2
  rw[kK,Z41,Z5c,Z26,Jz,ih,Z4k,J9,Z2d,Z26,Jz,kK];congr 1;have e:(List.range R2).filter (T ∘ λx=>n*R2+x)=(List.range R2).filter λr2=>P n&&Q r2:=by
   refine Z3m λr2 hr=>?_
   exact h n r2 (Eb n) (Du.1 hr)
  rw[e]
  cases hp:P n with
  |true=>
   rw[Z3t hp]
   simp
  |false=>
   rw[Z4i (by simp[hp])];simp
section
variable {S R1 R2:Nat}{F G H:Nat->Nat->vQ}
structure zo7 (S R1 R2:Nat) (F G H:Nat->Nat->vQ):Prop where
 run:∀s r1 r2,s<S->r1<R1->r2<R2->H s (r1*R2+r2)=GV (F s r1) (G s r2)
 same:∀s r s' r',s<S->r<R1->s'<S->r'<R1->(F s r).1.length=(F s' r').1.length
 zF:∀s r,(F s r).2.1=0
 zG:∀s r,(G s r).2.1=0
theorem Tq{a b:vQ}(h:a.1=b.1)(h2:a.2.1=b.2.1):a=b:=by
 obtain⟨a1,a2,a3⟩:=a;obtain⟨b1,b2,b3⟩:=b;simp only at h h2;rw[h,h2]
theorem BY{a a' b b':vQ}(hl:a.1.length=a'.1.length)(z1:a.2.1=0)(z2:a'.2.1=0)(z3:b.2.1=0)(z4:b'.2.1=0)(h:GV a b=GV a' b'):a=a'/\b=b':=by
 simp only[GV,p8,Dx]at h;obtain⟨e1,e2⟩:=Z3c h hl;exact⟨Tq e1 (by rw[z1,z2]),Tq e2 (by rw[z3,z4])⟩
def Occ(S R:Nat)(F:Nat->Nat->vQ)(o:vQ):Prop:=∃s r,s<S/\r<R/\F s r=o
theorem z9p(h:zo7 S R1 R2 F G H){a b:vQ}(ha:Occ S R1 F a)(hb:Occ S R2 G b):List.zipWith (· * ·) (WJ S R1 F a) (WJ S R2 G b)=WJ S (R1*R2) H (GV a b):=by
 obtain⟨s0,r0,q1,q2,rfl⟩:=ha;obtain⟨s1,r1,q3,q4,rfl⟩:=hb;unfold WJ;apply I3
 ·simp
 ·intro i h1 h2;have hi:i<S:=by simpa using h2
  simp only[Z57,R0,Z4l];rw[Tp R2 (λr=>decide (F i r=F s0 r0)) (λr=>decide (G i r=G s1 r1)) _ R1 λx y hx hy=>?_]
  ·simp
  ·rw[h.run i x y hi hx hy,Z3j];simp only[jc,zA];constructor
   ·exact λe=>BY (h.same i x s0 r0 hi hx q1 q2) (h.zF _ _) (h.zF _ _) (h.zG _ _) (h.zG _ _) e
   ·rintro⟨e1,e2⟩;rw[e1,e2]
theorem z4k(h:zo7 S R1 R2 F G H)(hR:0<R2){l0 l1 l2:List vQ}(n0:l0.Nodup)(n1:l1.Nodup)(n2:l2.Nodup)(m0:∀o,o∈l0↔Occ S R1 F o)(m1:∀o,o∈l1↔Occ S R2 G o)(m2:∀o,o∈l2↔Occ S (R1*R2) H o):
  ((l0.flatMap λa=>l1.map λb=>List.zipWith (· * ·) (WJ S R1 F a) (WJ S R2 G b)).filter λc=>decide (yD c≠0)).Perm ((l2.map (WJ S (R1*R2) H)).filter λc=>decide (yD c≠0)):=by
 have e1:(l0.flatMap λa=>l1.map λb=>List.zipWith (· * ·) (WJ S R1 F a) (WJ S R2 G b))=(l0.flatMap λa=>l1.map λb=>GV a b).map (WJ S (R1*R2) H):=by
  rw[List.map_flatMap];refine Zx λa ha=>?_
  rw[Oo];exact TV λb hb=>z9p h ((m0 a).1 ha) ((m1 b).1 hb)
 rw[e1,Z4k,Z4k];refine List.Perm.map _ ?_;have nd:(l0.flatMap λa=>l1.map λb=>GV a b).Nodup:=by
  rw[Z4h,List.pairwise_flatMap];refine⟨λa ha=>?_,?_⟩
  ·rw[Z5y];refine List.Pairwise.imp_of_mem (λ{b b'} hb Zk va e=>va ?_) (Z4h.1 n1);obtain⟨s,r,_,_,rfl⟩:=(m0 a).1 ha;obtain⟨s1,r1,_,_,rfl⟩:=(m1 b).1 hb;obtain⟨s2,r2,_,_,rfl⟩:=(m1 b').1 Zk;exact(BY rfl (h.zF _ _) (h.zF _ _) (h.zG _ _) (h.zG _ _) e).2
  ·refine List.Pairwise.imp_of_mem (λ{a a'} ha ha' va=>?_) (Z4h.1 n0);intro x hx y hy e;obtain⟨b,hb,rfl⟩:=pe.1 hx;obtain⟨b',Zk,rfl⟩:=pe.1 hy;obtain⟨s,r,c1,c2,rfl⟩:=(m0 a).1 ha;obtain⟨s',r',c3,c4,rfl⟩:=(m0 a').1 ha';obtain⟨s1,r1,_,_,rfl⟩:=(m1 b).1 hb;obtain⟨s2,r2,_,_,rfl⟩:=(m1 b').1 Zk;exact va (BY (h.same _ _ _ _ c1 c2 c3 c4) (h.zF _ _) (h.zF _ _) (h.zG _ _) (h.zG _ _) e).1
 refine(Z66 (List.Pairwise.filter _ nd) (List.Pairwise.filter _ n2)).2 λo=>?_
 rw[Z35,Z35];refine and_congr_left λhq=>?_
 simp only[Function.comp,jc]at hq;obtain⟨s,r,hs,hr,ho⟩:=MZ hq;have d1:r/R2<R1:=Z2g (by rw[DZ];exact hr);have d2:r%R2<R2:=Z23 _ hR;have hj:=h.run s (r/R2) (r%R2) hs d1 d2;rw[show r/R2*R2+r%R2=r by rw[DZ];exact Z3e r R2,ho]at hj;constructor
 ·exact λ_=>(m2 o).2 ⟨s,r,hs,hr,ho⟩
 ·intro _;rw[List.mem_flatMap];exact⟨_,(m0 _).2 ⟨s,_,hs,d1,rfl⟩,pe.2 ⟨_,(m1 _).2 ⟨s,_,hs,d2,rfl⟩,hj.symm⟩⟩
end
end Go.Kz
namespace Go.Kz
def vF(rows:List (List Int))(w:Nat):List (List Int):=(List.range w).map λy=>rows.map λr=>r.getD y 0
section
variable {f:zt}{p:List Int}{td:Bool}{S R:Nat}
abbrev AG(f:zt)(p:List Int)(td:Bool)(s r:Nat):vQ:=Wx f p td (s:Int) (r:Int)
theorem z4l(hR:0<R){s i:Nat}(hi:i<R):Xz f p td R (s*R+i)=AG f p td s i:=by
 unfold Xz;rw[show(s*R+i)/R=s by rw[DZ,Z3o hR,Z3p hi];rfl,show(s*R+i)%R=i by rw[DZ,Z5a,Z3q hi]]
theorem ze4{n j:Nat}(hj:j<n){k:Nat}(hk:k<(jU f p td R n).length):JP f p td R n j=(k:Int)↔Xz f p td R j=Dg (jU f p td R n) (k:Int):=by
 have hm:=F9 (f:=f) (p:=p) (td:=td) (R:=R) hj;have hg:=Pm hm;have hp:=QJ hm;rw[wV hp,zI]at hg;have ea:Dg (jU f p td R n) (k:Int)=(jU f p td R n)[k]:=by
  simp only[Dg,Wi,ZB,wV hk,CU]
 rw[ea];unfold JP;constructor
 ·intro e;have e':posOf (Xz f p td R j) (jU f p td R n)=k:=by omega
  subst e';exact hg.symm
 ·intro e;have hnd:(jU f p td R n).Nodup:=QG _ _ (by simp);rw[E6 hnd hp hk (by rw[hg,e])]
theorem zna(hR:0<R){k:Nat}(hk:k<(jU f p td R (S*R)).length):((List.range S).map λs=>xO f p td R (S*R) (S*R) s (k:Int))=WJ S R (AG f p td) (Dg (jU f p td R (S*R)) (k:Int)):=by
 unfold WJ;refine TV λs hs=>?_
 have hs:=Du.1 hs;rw[EF hR hs,Z4k,J9];congr 2;refine Z3m λi hi=>?_
 have hi:=Du.1 hi;have hj:s*R+i<S*R:=by
  have:=wI R (show s+1<=S by omega);rw[kK]at this;omega
 simp only[Function.comp];rw[decide_eq_decide,ze4 hj hk,z4l hR hi]
theorem Nx(hR:0<R){ord:List Int}(ho:ord.Perm (wq (jU f p td R (S*R)).length)):
  vF ((List.range S).map λs=>ord.map λk=>xO f p td R (S*R) (S*R) s k) ord.length=(ord.map (Dg (jU f p td R (S*R)))).map (WJ S R (AG f p td)):=by
 apply I3
 ·simp[vF]
 ·intro y h1 h2;have hy:y<ord.length:=by simpa[vF]using h1
  have hmem:=VE.1 (ho.mem_iff.1 (wB hy));obtain⟨k,hk⟩:∃k:Nat,ord[y]=(k:Int):=⟨ord[y].toNat,by omega⟩;rw[hk]at hmem;simp only[vF,R0,Z4l];rw[hk,<-zna hR (by omega),Oo];refine TV λs _=>?_
  simp only[Function.comp,ZB,Ny,wV hy,Z24,CU,hk]
theorem AV(hR:0<R){ord:List Int}(ho:ord.Perm (wq (jU f p td R (S*R)).length)):(ord.map (Dg (jU f p td R (S*R)))).Nodup/\∀o,o∈ord.map (Dg (jU f p td R (S*R)))↔Occ S R (AG f p td) o:=by
 have hpu:(ord.map (Dg (jU f p td R (S*R)))).Perm (jU f p td R (S*R)):=by
  have e:(wq (jU f p td R (S*R)).length).map (Dg (jU f p td R (S*R)))=jU f p td R (S*R):=by
   apply I3
   ·simp[wq]
   ·intro i h1 h2;simp only[wq,R0,Z4l,Dg,Wi,ZB,wV h2,CU]
  have:=ho.map (Dg (jU f p td R (S*R)))
  rwa [e]at this
 refine⟨hpu.nodup_iff.2 (QG _ _ (by simp)),λo=>?_⟩;rw[hpu.mem_iff,jU,FB];constructor
 ·intro h;obtain⟨j,hj,rfl⟩:=pe.1 h;have hj:=Du.1 hj;have d1:j/R<S:=Z2g (by rw[DZ];exact hj);exact⟨j/R,j%R,d1,Z23 _ hR,rfl⟩
 ·rintro⟨s,r,hs,hr,rfl⟩;refine pe.2 ⟨s*R+r,Du.2 ?_,z4l hR hr⟩;have:=wI R (show s+1<=S by omega);rw[kK]at this;omega
end
theorem Dc(w w':Nat){I:Type}(f:Nat->I):(List.range (w*w')).map f=(List.range w).flatMap λi=>(List.range w').map λj=>f (i*w'+j):=by
 induction w with
 |zero=>simp
 |succ n ih=>
  rw[kK,Z41,Z5c,XZ,ih,Z2d,List.flatMap_append];congr 1;simp
theorem zcx{a b:List (List Int)}{n w w':Nat}{t t':Int}(ha:ZK a n w t)(hb:ZK b n w' t'):vF (Pn a b n w w') (w*w')=(vF a w).flatMap λx=>(vF b w').map λy=>List.zipWith (· * ·) x y:=by
 obtain⟨v1,v2⟩:=hb.w1;unfold vF;rw[Dc,Z62];refine Zx λi hi=>?_
 rw[Oo];refine TV λj hj=>?_
 have hi:=Du.1 hi;have hj:=Du.1 hj;apply I3
 ·simp[Pn,ha.len,hb.len]
 ·intro s h1 h2;have hs:s<n:=by simpa[Pn]using h1
  have ea:s<a.length:=by rw[ha.len];exact hs
  have eb:s<b.length:=by rw[hb.len];exact hs
  have ZP:i*w'+j<w*w':=by
   have:=wI w' (show i+1<=w by omega);rw[kK]at this;omega
  simp only[Pn,Function.comp,R0,Z4l,Z57,ZB,Ny,Z4w ZP,Z24,CU];rw[show(i*w'+j)/w'=i by rw[DZ,Z3o (by omega),Z3p hj];rfl,show(i*w'+j)%w'=j by rw[DZ,Z5a,Z3q hj],wV ea,wV eb];rfl
end Go.Kz
namespace Go.Kz
theorem AZ{t:Ty}{Fc:t.den->t.den->Option Int}{c:t.den->t.den->Int}{l:List t.den}(hF:∀x∈l,∀y∈l,Fc x y=some (c x y))(h0:∀x∈l,∀y∈l,c x y=0->x=y)
  (hr:∀x∈l,c x x=0) (hn:∀x∈l,∀y∈l,c y x = -c x y) (ht:∀x∈l,∀y∈l,∀z∈l,c x y<0->c y z<0->c x z<0) (hl:l.length<4611686018427387904) :
  Ju t Fc l=some (V9 (JB (kW Fc)) l)/\X6 (JB (kW Fc)) (·∈l)/\∀x∈l,∀y∈l,JB (kW Fc) x y=decide (c x y<0):=by
 have lt:∀x∈l,∀y∈l,JB (kW Fc) x y=decide (c x y<0):=λx hx y hy=>by
  simp only[JB,kW,hF x hx y hy,CU]
 have D7:X6 (JB (kW Fc)) (·∈l):=by
  refine⟨λx hx=>?_,λx y z hx hy hz h1 h2=>?_,λx y z hx hy hz h1 h2=>?_⟩
  ·have:=hr x hx;rw[lt x hx x hx,qd (by omega)]
  ·rw[lt x hx y hy,jc]at h1;rw[lt y hy z hz,jc]at h2;rw[lt x hx z hz,jc];exact ht x hx y hy z hz h1 h2
  ·rw[lt x hx y hy,Q9]at h1;rw[lt y hy z hz,Q9]at h2;rw[lt x hx z hz,Q9];have n1:=hn x hx y hy;have n2:=hn y hy z hz;have n3:=hn x hx z hz;by_cases a:c x y=0
   ·rw[h0 x hx y hy a];exact h2
   by_cases b:c y z=0
   ·rw[<-h0 y hy z hz b];exact h1
   have:=ht z hz y hy x hx (by omega) (by omega);omega
 have hB:Nc Fc l=true:=RE D7 λx hx y hy=>by rw[hF x hx y hy];rfl
 have hS:NA (Dy t) (JB (kW Fc)) l=true:=by
  unfold NA;rw[x4];intro x hx;rw[x4];intro y hy;rw[lt x hx y hy,lt y hy x hx];have n1:=hn x hx y hy;by_cases h:c x y=0
  ·rw[h0 x hx y hy h,uh];simp
  ·have:c x y<0\/c y x<0:=by omega
   simp only[CX,jc];exact .inl this
 refine⟨?_,D7,lt⟩;unfold Ju;rw[hB,hS,show Nat.blt l.length 4611686018427387904=true from by rw[Z2w];exact hl];rfl
theorem z02{t:Ty}{Fc:t.den->t.den->Option Int}{c:t.den->t.den->Int}{l m:List t.den}(hp:l.Perm m)(hF:∀x∈l,∀y∈l,Fc x y=some (c x y))(h0:∀x∈l,∀y∈l,c x y=0->x=y)
  (hr:∀x∈l,c x x=0) (hn:∀x∈l,∀y∈l,c y x = -c x y) (ht:∀x∈l,∀y∈l,∀z∈l,c x y<0->c y z<0->c x z<0) (hl:l.length<4611686018427387904):Ju t Fc l=Ju t Fc m:=by
 have mi:∀x,x∈m->x∈l:=λx h=>hp.mem_iff.2 h
 obtain⟨a1,a2,a3⟩:=AZ hF h0 hr hn ht hl;obtain⟨b1,b2,_⟩:=AZ (l:=m) (λx hx y hy=>hF x (mi x hx) y (mi y hy)) (λx hx y hy=>h0 x (mi x hx) y (mi y hy)) (λx hx=>hr x (mi x hx)) (λx hx y hy=>hn x (mi x hx) y (mi y hy)) (λx hx y hy z hz=>ht x (mi x hx) y (mi y hy) z (mi z hz)) (by rw[<-hp.length_eq];exact hl);rw[a1,b1];congr 1;have pl:=wP (JB (kW Fc)) l;have pm:=wP (JB (kW Fc)) m;refine CY (lt:=JB (kW Fc)) (λx y hx hy h1 h2=>?_) ((pl.trans hp).trans pm.symm) (YD a2 l λy hy=>hy) (YD b2 m λy hy=>hy);have QF:=pl.mem_iff.1 hx;have hy':=pl.mem_iff.1 hy;rw[a3 x QF y hy',Q9]at h1;rw[a3 y hy' x QF,Q9]at h2;have:=hn x QF y hy';exact h0 x QF y hy' (by omega)
end Go.Kz
namespace Go.Kz
theorem z8z(N:Nat)(hN:5000<=N){rows:List (List Int)}{w:Nat}(h0:0<rows.length)(hw:∀r∈rows,r.length=w)(hl:rows.length<=4096)(hw2:w<=4096):f58 N rows=some (((),()),(vF rows w,())):=by
 refine zp.eq ?_;unfold f58;rw[show idx rows (0:Int)=some rows[0] from zY (k:=0) h0,zO,show Go.Kz.len rows[0]=(w:Int) by simp only[Go.Kz.len,hw _ (wB h0)]];refine zp.up (λk s=>s=(List.range k).map λy=>rows.map λr=>r.getD y 0) w ?_ ?_ N 0 (v8 _) (by omega) _ rfl
 ·rintro k s kb hk rfl hkb;simp only[Hv];rw[dlt hk,zJ];refine zp.up (λi s=>s=(rows.take i).map λr=>r.getD k 0) rows.length ?_ ?_ N 0 (v8 _) (by omega) _ rfl
  ·rintro i s w2 hi rfl hw2;have pg:k<rows[i].length:=by rw[hw _ (wB hi)];exact hk
   simp only[Hj];rw[zb hi,zJ,zY hi,zO,zY pg,zO,vR (by simp only[J9,CB];omega),zk (by omega)];refine hw2 _ ?_;rw[take_succ hi,XZ,Qw,Z2b,ZB,wV pg];rfl
  ·rintro s w2 rfl;simp only[Hj];rw[show decide (((rows.length:Nat):Int)<Go.Kz.len rows)=false from zH _,zU,Ki,vR (by simp only[J9,Z59];omega),zk (by omega)];exact hkb _ (by rw[Z2d,XZ];rfl)
 ·rintro s kb rfl;simp only[Hv];rw[z9m,zU];exact zp.ret rfl
theorem z1i(l:List Int)(x:Int):yD (l++[x])=Nat.gcd (yD l) x.toNat:=by
 rw[EY (List.perm_append_comm),List.singleton_append];simp only[yD,Z38];rw[Nat.gcd_comm]
theorem z1o{R:Type}(N:Nat)(l:List Int)(a b:Int){n d:Nat}(hN:n<N)(kx:Int->Option R)(Q:R->Prop)(hk:zp (kx (Nat.gcd d n:Int)) Q):
  zp (iter (λw=>Hq N l a b w kx) N ((n:Int),(d:Int))) Q:=by
 refine zp.iter (λx=>∃n' d':Nat,x=((n':Int),(d':Int))/\Nat.gcd d' n'=Nat.gcd d n) (λx=>x.1.toNat) ?_ N _ ⟨n,d,rfl,rfl⟩ (by simpa using hN);rintro x w ⟨n',d',rfl,hg⟩ hw;simp only[Hq];by_cases h0:n'=0
 ·subst h0;rw[show decide (((0:Nat):Int)=0)=true from rfl,Qv,zU];rw[Nat.gcd_zero_right]at hg;rw[hg];exact hk
 ·rw[qd (by omega),Z1z,zJ,zU];refine hw _ ⟨d'%n',n',?_,?_⟩ ?_
  ·rw[show Int.tmod (d':Int) (n':Int)=((d'%n':Nat):Int) from(Z5b d' n').symm]
  ·rw[<-hg,Nat.gcd_comm d' n',Nat.gcd_rec n' d',Nat.gcd_comm]
  ·rw[show Int.tmod (d':Int) (n':Int)=((d'%n':Nat):Int) from(Z5b d' n').symm];show Int.toNat ((d'%n':Nat):Int)<Int.toNat ((n':Nat):Int);rw[Wi,Wi];exact Z23 d' (show 0<n' by omega)
theorem z8y(N:Nat)(hN:2000000<=N){l:List Int}(h:gV l)(hb:∀x∈l,x<=1048576)(hl:l.length<=4096):f59 N l=some (yD l:Int):=by
 refine zp.eq ?_;unfold f59;refine zp.upR (λk (s:Int)=>s=(yD (l.take k):Int)) l.length ?_ ?_ N 0 (v8 _) (by omega) _ rfl
 ·rintro k s w hk rfl hw;have h1:=h _ (wB hk);have h2:=hb _ (wB hk);simp only[Hy];rw[zb hk,zJ,zY hk,zO];obtain⟨n,hn⟩:∃n:Nat,l[k]=(n:Int):=⟨l[k].toNat,(Z2o h1).symm⟩;rw[hn];refine z1o N l _ _ (by omega) _ _ ?_;rw[zk (by omega)];refine hw _ ?_;rw[take_succ hk,z1i,hn,Wi]
 ·rintro s w rfl;simp only[Hy];rw[show decide (((l.length:Nat):Int)<Go.Kz.len l)=false from zH _,zU,Ki];exact zp.ret rfl
theorem z8x(N:Nat)(hN:5000<=N){l:List Int}(h:gV l)(hb:∀x∈l,x<=1048576)(hl:l.length<=4096){d:Nat}(hd:0<d):f61 N l (d:Int)=some (l.map λx=>x/(d:Int)):=by
 have rb:room=4294967296:=rfl;refine zp.eq ?_;unfold f61;refine zp.qV (by simp only[Go.Kz.len,zA,jc];omega) ?_;rw[show Int.toNat (Go.Kz.len l)=l.length from Wi _];refine zp.up (λk (s:List Int)=>s.length=l.length/\∀i (hi:i<l.length) (hs:i<s.length),i<k->s[i]=l[i]/(d:Int)) l.length ?_ ?_ N 0 (v8 _) (by omega) _ ⟨by simp,λi _ _ h=>by omega⟩
 ·rintro k s w hk ⟨e1,e2⟩ hw;have pg:k<s.length:=by omega
  have h1:=h _ (wB hk);have h2:=hb _ (wB hk);have e3:Int.tdiv l[k] (d:Int)=l[k]/(d:Int):=Z65 h1;have b1:0<=l[k]/(d:Int):=Z3b h1 (by omega);have b2:l[k]/(d:Int)<=l[k]:=Z3x _ h1;simp only[Hz];rw[zb hk,zJ,zY hk,zO,qd (by omega),zU,wh pg,qx rfl,zY pg,zO,zO,zk (by omega),e3,zx (by omega) (by omega)];refine hw _ ⟨by simp[qR,e1],λi hi hs hik=>?_⟩;simp only[qR,Wi,Z2z];split
  ·rename_i e;subst e;rfl
  ·rename_i e;exact e2 i hi (by simpa[qR]using hs) (by omega)
 ·rintro s w ⟨e1,e2⟩;simp only[Hz];rw[show decide (((l.length:Nat):Int)<Go.Kz.len l)=false from zH _,zU];refine zp.ret ?_;apply I3
  ·simp[e1]
  ·intro i h1 h2;rw[e2 i (by omega) h1 (by omega)];simp
end Go.Kz
