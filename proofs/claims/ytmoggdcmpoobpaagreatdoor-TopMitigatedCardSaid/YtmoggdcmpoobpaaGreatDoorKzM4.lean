/-
  Runs of steps: the program and the reference go the same way.
-/
import Derived.Test.YtmoggdcmpoobpaaGreatDoorKzTA
import Derived.Test.YtmoggdcmpoobpaaGreatDoorKzPTz
set_option linter.unusedSectionVars false
namespace Go.Kz
structure RS where
 vals:List Int
 outs:List Int
 time:Int
def VA(t:Int)(s:Int×Bool)(x:Int):Int×Bool:=if t<=x/\(s.2=false\/x<s.1) then (x,true) else s
def WC(l:List Int)(t:Int):Int:=(l.foldl (VA t) (t,false)).1
theorem zc4(N:Nat)(hN:200<=N)(l:List Int)(t:Int)(hl:l.length<=32):f330 N l t=some (WC l t):=by
 refine zg.eq ?_;unfold f330;refine zg.up (λj s=>s=(l.take j).foldl (VA t) (t,false)) l.length ?_ ?_ N 0 (jF _) (by omega) _ rfl
 ·rintro j ⟨b,fd⟩ w hj hinv hw;simp only[Up];rw[zM hj,zB,zY hj];simp only[zK,Qw,gP,gid];have e:=Z3o (f:=VA t) (b:=(t,false)) (l:=l.take j) (l':=[l[j]]);rw[<-zl hj,<-hinv]at e;rw[zy (by omega)];refine zg.cond (λhb=>hw _ ?_) λhb=>hw _ ?_
  ·simp only[zA,FX,U0,ve]at hb;rw[e];simp only[Z2c,Z2x,VA];rw[yX hb]
  ·rw[e];simp only[Z2c,Z2x,VA];rw[qW];intro hc;have:(decide (t<=l[j])&&(!fd||decide (l[j]<b)))=true:=by
    simp only[zA,FX,U0,ve];exact hc
   rw[hb]at this;simp at this
 ·rintro⟨b,fd⟩ w hinv;simp only[Up];rw[zC,zP];rw[G9]at hinv;refine zg.ret ?_;rw[WC,<-hinv]
theorem zcg(N:Nat)(hN:200<=N)(l:List Int)(t:Int)(hl:l.length<=32):f252 N l t=some (WC l t):=by
 refine zg.eq ?_;unfold f252;refine zg.up (λj s=>s=(l.take j).foldl (VA t) (t,false)) l.length ?_ ?_ N 0 (jF _) (by omega) _ rfl
 ·rintro j ⟨b,fd⟩ w hj hinv hw;simp only[UK];rw[show decide ((j:Int)<len l)=true from zM hj,zB,zY hj];simp only[zK,Qw,gP,gid];have e:=Z3o (f:=VA t) (b:=(t,false)) (l:=l.take j) (l':=[l[j]]);rw[<-zl hj,<-hinv]at e;rw[zy (by omega)];refine zg.cond (λhb=>hw _ ?_) λhb=>hw _ ?_
  ·simp only[zA,FX,U0,ve]at hb;rw[e];simp only[Z2c,Z2x,VA];rw[yX hb]
  ·rw[e];simp only[Z2c,Z2x,VA];rw[qW];intro hc;have:(decide (t<=l[j])&&(!fd||decide (l[j]<b)))=true:=by
    simp only[zA,FX,U0,ve];exact hc
   rw[hb]at this;simp at this
 ·rintro⟨b,fd⟩ w hinv;simp only[UK];rw[show decide (((l.length:Nat):Int)<len l)=false from zC _,zP];rw[G9]at hinv;refine zg.ret ?_;rw[WC,<-hinv]
def vlo(f:zX)(v:Int):Int:=match f.1[v.toNat]? with
 |some x=>x.2.2.1
 |none=>0
def vhi(f:zX)(v:Int):Int:=match f.1[v.toNat]? with
 |some x=>x.2.2.2.1
 |none=>0
def QR(c:Int)(t:Tm)(body:RS->RS):Nat->RS->RS
 |0,s=>s
 |n+1,s=>if wJ s.vals t=0 then ⟨s.vals,s.outs,zz (s.time+c)⟩ else QR c t body n (body ⟨s.vals,s.outs,zz (s.time+c)⟩)
mutual
def QO(f:zX)(hs:List Int):Sp->RS->RS
 |⟨a,c,v,n,t,x,y,b⟩,s=>
  if a=4 then QR c t (λs=>vZ f hs x s) n.toNat s
  else if a=0 then ⟨qN s.vals v (kM (wJ s.vals t) (vlo f v) (vhi f v)),s.outs,zz (s.time+c)⟩
  else if a=1 then ⟨s.vals,s.outs++[wJ s.vals t],zz (s.time+c)⟩
  else if a=3 then (if wJ s.vals t=0 then vZ f hs y ⟨s.vals,s.outs,zz (s.time+c)⟩ else vZ f hs x ⟨s.vals,s.outs,zz (s.time+c)⟩)
  else if a=5 then ⟨qN s.vals v (kM (hs.getD n.toNat 0) (vlo f v) (vhi f v)),s.outs,zz (s.time+c)⟩
  else if a=6 then ⟨s.vals,s.outs,WC b (zz (s.time+c))⟩
  else ⟨s.vals,s.outs,zz (s.time+c)⟩
def vZ(f:zX)(hs:List Int):List Sp->RS->RS
 |[],s=>s
 |x::l,s=>vZ f hs l (QO f hs x s)
end
theorem Zs(f:zX)(hs:List Int)(x:Sp)(s:RS):QO f hs x s =
  if x.act=4 then QR x.cost x.term (λs=>vZ f hs x.yW s) x.n.toNat s
  else if x.act=0 then ⟨qN s.vals x.var (kM (wJ s.vals x.term) (vlo f x.var) (vhi f x.var)),s.outs,zz (s.time+x.cost)⟩
  else if x.act=1 then ⟨s.vals,s.outs++[wJ s.vals x.term],zz (s.time+x.cost)⟩
  else if x.act=3 then (if wJ s.vals x.term=0 then vZ f hs x.ke ⟨s.vals,s.outs,zz (s.time+x.cost)⟩ else vZ f hs x.yW ⟨s.vals,s.outs,zz (s.time+x.cost)⟩)
  else if x.act=5 then ⟨qN s.vals x.var (kM (hs.getD x.n.toNat 0) (vlo f x.var) (vhi f x.var)),s.outs,zz (s.time+x.cost)⟩
  else if x.act=6 then ⟨s.vals,s.outs,WC x.bounds (zz (s.time+x.cost))⟩
  else ⟨s.vals,s.outs,zz (s.time+x.cost)⟩:=by cases x;simp only[QO]
theorem JG(f:zX)(hs:List Int):∀(l:List Sp)(x:Sp)(s:RS),vZ f hs (l++[x]) s=QO f hs x (vZ f hs l s)
 |[],x,s=>by simp only[Ql,vZ]
 |y::l,x,s=>by simp only[QI,vZ,JG f hs l x]
structure L4 (s s':RS) (o:Int):Prop where
 vals:s'.vals.length=s.vals.length
 outs:(s'.outs.length:Int)<=s.outs.length+o
 more:s.outs.length<=s'.outs.length
theorem CC{c:Int}{t:Tm}{body:RS->RS}{o:Int}(ho:0<=o)(hb:∀s,L4 s (body s) o):∀(n:Nat)(s:RS),L4 s (QR c t body n s) (n*o)
 |0,s=>⟨rfl,by simp[QR],yH _⟩
 |n+1,s=>by
  simp only[QR];have hn:(0:Int)<=n*o:=C4 (by omega) ho;have e:((n+1:Nat):Int)*o=n*o+o:=by rw[Z4l,Z44];simp
  split
  ·exact⟨rfl,by simp only;rw[e];omega,yH _⟩
  ·obtain⟨a1,a2,a3⟩:=hb ⟨s.vals,s.outs,zz (s.time+c)⟩;obtain⟨b1,b2,b3⟩:=CC ho hb n (body ⟨s.vals,s.outs,zz (s.time+c)⟩);exact⟨by rw[b1,a1],by rw[e];simp only at a2;omega,Z1n a3 b3⟩
theorem Fh(l:List Int)(i x:Int):(qN l i x).length=l.length:=by simp[qN]
theorem pI(f:zX)(hs:List Int):∀(M:Nat)(l:List Sp)(top:Bool),qM l<M->Zk f top l->∀s,L4 s (vZ f hs l s) (qw l).2.1
 |0,l,_,h,_,_=>by omega
 |M+1,[],_,_,_,s=>⟨rfl,by simp[vZ,qw],yH _⟩
 |M+1,x::l,top,h,zj,s=>by
  simp only[qM]at h;have he:=v8 x;have hp:=qn x.term;simp only[Zk]at zj;have Qn:=GV f _ _ zj.1;obtain⟨⟨q1,q2,q3⟩,q4,q5⟩:=(gO ..).1 zj.1;obtain⟨a1,a2,a3⟩:=kF f _ x.yW false (BV _) q4;obtain⟨b1,b2,b3⟩:=kF f _ x.ke false (BV _) q5;have kx:=λs=>pI f hs M x.yW false (by omega) q4 s
  have ky:=λs=>pI f hs M x.ke false (by omega) q5 s
  have kl:=λs=>pI f hs M l top (by omega) zj.2 s
  have one:L4 s (QO f hs x s) (FQ x).2.1:=by
   rw[Zs,Y1];by_cases h4:x.act=4
   ·rw[yX h4,qW (show ¬x.act=1 by omega),qW (show ¬x.act=3 by omega),yX h4];have:=CC (c:=x.cost) (t:=x.term) (body:=λs=>vZ f hs x.yW s) a2 kx x.n.toNat s;have e:((x.n.toNat:Nat):Int)=x.n:=by have:=q2.n0;omega
    rw[e]at this;simp only;rw[show(0:Int)+(qw x.yW).2.1=(qw x.yW).2.1 by omega];exact this
   rw[qW h4];by_cases h0:x.act=0
   ·rw[yX h0,qW (show ¬x.act=1 by omega),qW (show ¬x.act=3 by omega),qW h4];exact⟨Fh ..,by simp,yH _⟩
   rw[qW h0];by_cases h1:x.act=1
   ·rw[yX h1,yX h1];exact⟨rfl,by simp,by simp⟩
   rw[qW h1,qW h1];by_cases h3:x.act=3
   ·rw[yX h3,yX h3];simp only;split
    ·obtain⟨c1,c2,c3⟩:=ky ⟨s.vals,s.outs,zz (s.time+x.cost)⟩;simp only at c2;exact⟨c1,by omega,c3⟩
    ·obtain⟨c1,c2,c3⟩:=kx ⟨s.vals,s.outs,zz (s.time+x.cost)⟩;simp only at c2;exact⟨c1,by omega,c3⟩
   rw[qW h3,qW h3,qW h4];by_cases h5:x.act=5
   ·rw[yX h5];exact⟨Fh ..,by simp,yH _⟩
   rw[qW h5];by_cases h6:x.act=6
   ·rw[yX h6];exact⟨rfl,by simp,yH _⟩
   rw[qW h6];exact⟨rfl,by simp,yH _⟩
  simp only[vZ,qw];obtain⟨c1,c2,c3⟩:=one;obtain⟨d1,d2,d3⟩:=kl (QO f hs x s);exact⟨by rw[d1,c1],by omega,Z1n c3 d3⟩
end Go.Kz
namespace Go.Kz
abbrev zs8:=(zX×(Unit×(Unit×(Unit×(Int×Unit)))))×((List Int)×((List Int)×((List Int)×Unit)))
@[reducible] def Sg (f:zX) (hs:List Int) (s:RS):zs8:=((f,((),((),((),(s.time,()))))),(s.vals,(hs,(s.outs,()))))
theorem z03{f:zX}{v:Int}(h:Bi f.1 v=true):∃k:Nat,∃hk:k<f.1.length,v=k/\idx f.1 v=some f.1[k]/\vlo f v=f.1[k].2.2.1/\vhi f v=f.1[k].2.2.2.1:=by
 obtain⟨k,hk,rfl,_⟩:=z2h h;exact⟨k,hk,rfl,zY hk,by simp[vlo,hk],by simp[vhi,hk]⟩
theorem Oq(N:Nat)(f:zX)(hv:u6 f.1)(hs:List Int)(v n:Int)(h:Bi f.1 v=true)(s:RS)(hl:s.vals.length=f.1.length):
  f251 N v n f s.time s.vals hs s.outs=some (((),()),Sg f hs ⟨qN s.vals v (kM n (vlo f v) (vhi f v)),s.outs,s.time⟩):=by
 obtain⟨k,hk,rfl,e1,e2,e3⟩:=z03 h;unfold f251;rw[e1];simp only[zK];rw[Eb N n _ _ (hv.each k hk).Z0.1,zK,zu (by simp only[jY,zA,ve];omega)];rw[zY (show k<s.vals.length by omega)];simp only[zK];rw[e2,e3]
theorem O8(N:Nat)(f:zX)(hv:u6 f.1)(v n:Int)(h:Bi f.1 v=true)(l:List Int)(hl:l.length=f.1.length):
  f328 N f l v n=some (qN l v (kM n (vlo f v) (vhi f v))):=by
 obtain⟨k,hk,rfl,e1,e2,e3⟩:=z03 h;have SH:=hv.len;have r1:=vr;unfold f328;rw[zu (by simp only[ve,Nat.add_eq];omega),e1];simp only[zK];rw[ER,zK,zu (by simp only[jY,zA,ve];omega)];rw[zY (show k<l.length by omega)];simp only[zK];rw[e2,e3]
theorem Ck(N:Nat)(hN:5000<=N)(f:zX)(t:Tm)(ht:uA t<=100)(vX:Bool)(h:PI f.1 vX t)(vals:List Int)(hl:vals.length=f.1.length):f249 N vals (t.1,(t.2,(t.3,())))=some (wJ vals t)/\f329 N vals (t.1,(t.2,(t.3,())))=some (wJ vals t):=
 FI N (by omega) f.1 vX vals hl N t (by omega) ht h.1
theorem zch(N:Nat)(hN:5000<=N)(f:zX)(hs:List Int)(kS:Wk)(x:Sp)(o:Int)(ho:0<=o)(B:Int)(h0:0<=x.n)(h4:x.n<=4096)(ht:uA x.term<=100)(hT:PI f.1 false x.term)
  (hk:∀s,L4 s (vZ f hs x.yW s) o)
  (hr:∀s:RS,s.vals.length=f.1.length->s.outs.length+o<=B->kS x.yW f s.time s.vals hs s.outs=some (((),()),Sg f hs (vZ f hs x.yW s)))
  (s:RS) (hl:s.vals.length=f.1.length) (hB:s.outs.length+x.n*o<=B) :
  f250 N kS (Zg x) f s.time s.vals hs s.outs=some (((),()),Sg f hs (QR x.cost x.term (λs=>vZ f hs x.yW s) x.n.toNat s)):=by
 unfold f250;refine zg.eq ?_;obtain⟨n,hn⟩:∃n:Nat,x.n=n:=⟨x.n.toNat,by omega⟩;rw[hn]at hB h4;rw[show x.n.toNat=n by omega];refine zg.up (λj u=>∃z:RS,u=(f,(z.time,(z.vals,(hs,z.outs))))/\z.vals.length=f.1.length/\z.outs.length+((n-j:Nat):Int)*o<=B/\
   QR x.cost x.term (λs=>vZ f hs x.yW s) n s=QR x.cost x.term (λs=>vZ f hs x.yW s) (n-j) z) n ?_ ?_ N 0 (jF _) (by omega) _ ⟨s,rfl,hl,by simpa using hB,rfl⟩
 ·rintro j u w hj ⟨z,rfl,z1,z2,z3⟩ hw;simp only[UG];rw[ju (show(j:Int)<x.n by omega),zB];rw[show f249 N z.vals ((Zg x).2.2.2.2.1.1,(Zg x).2.2.2.2.1.2)=_ from(Ck N hN f x.term ht false hT z.vals z1).1];simp only[zK];obtain⟨m,hm⟩:∃m,n-j=m+1:=⟨n-j-1,by omega⟩;rw[hm]at z2 z3;simp only[QR]at z3;by_cases hz:wJ z.vals x.term=0
  ·rw[ju hz,zB];rw[yX hz]at z3;rw[z3];exact zg.ret rfl
  ·rw[ql hz,zP];rw[qW hz]at z3;have em:((m+1:Nat):Int)*o=m*o+o:=by rw[Z4l,Z44];simp
   have em2:(0:Int)<=m*o:=C4 (by omega) ho;rw[show kS (Zg x).2.2.2.2.2.1 f (zz (z.time+(Zg x).2.1)) z.vals hs z.outs=_ from hr ⟨z.vals,z.outs,zz (z.time+x.cost)⟩ z1 (by simp only;omega)];simp only[zK];rw[zy (by omega)];obtain⟨k1,k2,k3⟩:=hk ⟨z.vals,z.outs,zz (z.time+x.cost)⟩;refine hw _ ⟨_,rfl,by rw[k1];exact z1,?_,by rw[z3,show n-(j+1)=m by omega]⟩;simp only at k2;rw[show n-(j+1)=m by omega];omega
 ·rintro u w ⟨z,rfl,z1,z2,z3⟩;simp only[UG];rw[ql (show ¬(n:Int)<x.n by omega),zP];rw[Z3v]at z3;rw[z3];exact zg.ret rfl
theorem XP:(4294967296:Int)<=(room:Int):=by decide
theorem KI(N:Nat)(hN:5000<=N)(f:zX)(hv:u6 f.1)(hs:List Int)(hhs:hs.length=f.2.1.length):∀(M:Nat)(l:List Sp)(top:Bool),qM l<M->qM l<=100->Zk f top l->∀s:RS,s.vals.length=f.1.length->s.outs.length+(qw l).2.1<=1000000->
  Ad N M l f s.time s.vals hs s.outs=some (((),()),Sg f hs (vZ f hs l s))
 |0,l,_,h,_,_,_,_,_=>by omega
 |M+1,l,top,h,ht,zj,s,hl,hB=>by
  show z5e N (Ad N M) l f s.time s.vals hs s.outs=_;have pB:=jN l;have rb:=XP;unfold z5e;refine zg.eq ?_;refine zg.up (λj u=>∃z:RS,z=vZ f hs (l.take j) s/\u=(f,(z.time,(z.vals,(hs,z.outs))))/\z.vals.length=f.1.length/\z.outs.length<=s.outs.length+(qw (l.take j)).2.1/\0<=(qw (l.take j)).2.1) l.length ?_ ?_ N 0 (jF _) (by omega) _ ⟨s,by simp[vZ],rfl,hl,by simp[qw],by simp[qw]⟩
  ·rintro j u w hj ⟨z,hz,rfl,z1,z2,z4⟩ hw;have hm:=vK (gU hj);have he:=v8 l[j];have htp:=qn l[j].term;have hsj:=gR zj j hj;have Qn:=GV f _ _ hsj;obtain⟨⟨q1,q2,q3⟩,q4,q5⟩:=(gO ..).1 hsj;obtain⟨a1,a2,a3⟩:=kF f _ l[j].yW false (BV _) q4;obtain⟨b1,b2,b3⟩:=kF f _ l[j].ke false (BV _) q5;have YO:=um (l.take j) l[j];rw[<-zl hj]at YO;have hrn:=JG f hs (l.take j) l[j] s;rw[<-zl hj,<-hz]at hrn;have hle:(qw (l.take (j+1))).2.1<=(qw l).2.1:=by
    have:Zk f top (l.drop (j+1)):=Xw λi h=>by
     have hi:j+1+i<l.length:=by rw[Lp]at h;omega
     have:=gR zj (j+1+i) hi;rw[Z36];have e:decide (i+1=(l.drop (j+1)).length)=decide (j+1+i+1=l.length):=by
      rw[Lp];congr 1;simp only[eq_iff_iff];omega
     rw[e];exact this
    have hd:=kF f _ (l.drop (j+1)) top (BV _) this;have app:∀a b:List Sp,(qw (a++b)).2.1=(qw a).2.1+(qw b).2.1:=λa b=>by
     induction a with
     |nil=>simp[qw]
     |cons x a ih=>simp only[QI,qw,ih];omega
    have e:=app (l.take (j+1)) (l.drop (j+1));rw[T4]at e;have:=hd.2.1;omega
   have xZ:(qw (l.take (j+1))).2.1=(qw (l.take j)).2.1+(FQ l[j]).2.1:=by rw[YO]
   have hkp:L4 z (QO f hs l[j] z) (FQ l[j]).2.1:=by
    have:=pI f hs (qM [l[j]]+1) [l[j]] (top&&decide (j+1=l.length)) (by omega) (by simp only[Zk,Z5g,Z42];exact⟨hsj,trivial⟩) z;simpa only[vZ,qw,Int.add_zero]using this
   obtain⟨k1,k2,k3⟩:=hkp;have step:∀u:zX×(Int×(List Int×(List Int×List Int))),u=(f,((QO f hs l[j] z).time,((QO f hs l[j] z).vals,(hs,(QO f hs l[j] z).outs))))->zg (w (zz ((j:Int)+1),u)) λy=>y=(((),()),Sg f hs (vZ f hs l s)):=by
    rintro u rfl;rw[zy (by omega)];exact hw _ ⟨QO f hs l[j] z,hrn.symm,rfl,by rw[k1];exact z1,by rw[xZ];omega,by rw[xZ];have:=Qn.2.1;omega⟩
   rw[Zs]at step;rw[Y1]at xZ;simp only[KL];rw[show decide ((j:Int)<len l)=true from zM hj,zB,zY hj];simp only[zK];by_cases h4:l[j].act=4
   ·rw[ju h4,zB];rw[yX h4]at step;rw[qW (show ¬l[j].act=1 by omega),qW (show ¬l[j].act=3 by omega),yX h4]at xZ;simp only at xZ;rw[show(0:Int)+(qw l[j].yW).2.1=(qw l[j].yW).2.1 by omega]at xZ;rw[show f250 N (Ad N M) (l[j].1,(l[j].2,(l[j].3,(l[j].4,((l[j].5.1,(l[j].5.2,(l[j].5.3,()))),(l[j].6,(l[j].7,(l[j].8,())))))))) f z.time z.vals hs z.outs=_ from
     zch N hN f hs (Ad N M) l[j] (qw l[j].yW).2.1 a2 1000000 q2.n0 (q2.n h4) (by omega) q3 (λs=>pI f hs _ l[j].yW false (BV _) q4 s)
      (λs c1 c2=>KI N hN f hv hs hhs M l[j].yW false (by omega) (by omega) q4 s c1 c2) z z1 (by omega)]
    simp only[zK];exact step _ rfl
   rw[ql h4,zP];rw[qW h4]at step;have vt:=λvals hl=>(Ck N hN f l[j].term (by omega) false q3 vals hl).1
   by_cases h0:l[j].act=0
   ·rw[ju h0,zB];simp only[Cm];rw[yX h0]at step;rw[vt z.vals z1,zK];rw[show f251 N l[j].3 (wJ z.vals l[j].term) f (zz (z.time+l[j].2)) z.vals hs z.outs=_ from Oq N f hv hs l[j].var _ (q1.var (.inl h0)) ⟨z.vals,z.outs,zz (z.time+l[j].cost)⟩ z1];simp only[zK];exact step _ rfl
   rw[ql h0,zP];rw[qW h0]at step;by_cases h1:l[j].act=1
   ·rw[ju h1,zB];rw[yX h1]at step xZ;rw[vt z.vals z1,zK];simp only at xZ;refine zg.zo (by simp only[ve];omega) ?_;exact step _ rfl
   rw[ql h1,zP];rw[qW h1]at step xZ;by_cases h3:l[j].act=3
   ·rw[ju h3,zB];rw[yX h3]at step xZ;simp only at xZ;rw[vt z.vals z1,zK];by_cases Cn:wJ z.vals l[j].term=0
    ·rw[ju Cn,show(!true)=false from rfl,zP];rw[yX Cn]at step;rw[show Ad N M l[j].7 f (zz (z.time+l[j].2)) z.vals hs z.outs=_ from KI N hN f hv hs hhs M l[j].ke false (by omega) (by omega) q5 ⟨z.vals,z.outs,zz (z.time+l[j].cost)⟩ z1 (by simp only;omega)];simp only[zK];exact step _ rfl
    ·rw[ql Cn,show(!false)=true from rfl,zB];rw[qW Cn]at step;rw[show Ad N M l[j].6 f (zz (z.time+l[j].2)) z.vals hs z.outs=_ from KI N hN f hv hs hhs M l[j].yW false (by omega) (by omega) q4 ⟨z.vals,z.outs,zz (z.time+l[j].cost)⟩ z1 (by simp only;omega)];simp only[zK];exact step _ rfl
   rw[ql h3,zP];rw[qW h3]at step;by_cases h5:l[j].act=5
   ·rw[ju h5,zB];rw[yX h5]at step;obtain⟨r1,r2⟩:=q1.rel h5;simp only[len]at r2;have hk:l[j].n.toNat<hs.length:=by omega
    have ei:idx hs l[j].4=some (hs.getD l[j].n.toNat 0):=by
     rw[show idx hs l[j].4=some hs[l[j].n.toNat] from Qy r1 (by omega),FA,uX hk];rfl
    refine zg.zo (by simp only[jY,zA,ve];omega) ?_;rw[ei,zK];rw[show f251 N l[j].3 (hs.getD l[j].n.toNat 0) f (zz (z.time+l[j].2)) z.vals hs z.outs=_ from Oq N f hv hs l[j].var _ (q1.var (.inr h5)) ⟨z.vals,z.outs,zz (z.time+l[j].cost)⟩ z1];simp only[zK];exact step _ rfl
   rw[ql h5,zP];rw[qW h5]at step;by_cases h6:l[j].act=6
   ·rw[ju h6,zB];rw[yX h6]at step;rw[zcg N (by omega) _ _ (q1.set h6).2.zar,zK];exact step _ rfl
   rw[ql h6,zP];rw[qW h6]at step;exact step _ rfl
  ·rintro u w ⟨z,hz,rfl,z1,z2,z4⟩;simp only[KL];rw[show decide (((l.length:Nat):Int)<len l)=false from zC _,zP];rw[G9]at hz;rw[<-hz];exact zg.ret rfl
end Go.Kz
namespace Go.Kz
@[reducible] def Nk (s:RS):List Int×(List Int×(Int×Unit)):=(s.vals,(s.outs,(s.time,())))
theorem zc5(N:Nat)(hN:5000<=N)(f:zX)(hs:List Int)(kR:Ww)(x:Sp)(o:Int)(ho:0<=o)(B:Int)(h0:0<=x.n)(h4:x.n<=4096)(ht:uA x.term<=100)(hT:PI f.1 false x.term)
  (hk:∀s,L4 s (vZ f hs x.yW s) o)
  (hr:∀s:RS,s.vals.length=f.1.length->s.outs.length+o<=B->kR f hs x.yW (Nk s)=some (Nk (vZ f hs x.yW s)))
  (s:RS) (hl:s.vals.length=f.1.length) (hB:s.outs.length+x.n*o<=B) :
  f327 N kR f hs (Zg x) (Nk s)=some (Nk (QR x.cost x.term (λs=>vZ f hs x.yW s) x.n.toNat s)):=by
 unfold f327;refine zg.eq ?_;obtain⟨n,hn⟩:∃n:Nat,x.n=n:=⟨x.n.toNat,by omega⟩;rw[hn]at hB h4;rw[show x.n.toNat=n by omega];refine zg.up (λj u=>∃z:RS,u=Nk z/\z.vals.length=f.1.length/\z.outs.length+((n-j:Nat):Int)*o<=B/\
   QR x.cost x.term (λs=>vZ f hs x.yW s) n s=QR x.cost x.term (λs=>vZ f hs x.yW s) (n-j) z) n ?_ ?_ N 0 (jF _) (by omega) _ ⟨s,rfl,hl,by simpa using hB,rfl⟩
 ·rintro j u w hj ⟨z,rfl,z1,z2,z3⟩ hw;simp only[Uu];rw[ju (show(j:Int)<x.n by omega),zB];rw[show f329 N (Nk z).1 ((Zg x).2.2.2.2.1.1,(Zg x).2.2.2.2.1.2)=_ from(Ck N hN f x.term ht false hT z.vals z1).2];simp only[zK];obtain⟨m,hm⟩:∃m,n-j=m+1:=⟨n-j-1,by omega⟩;rw[hm]at z2 z3;simp only[QR]at z3;by_cases hz:wJ z.vals x.term=0
  ·rw[ju hz,zB];rw[yX hz]at z3;rw[z3];exact zg.ret rfl
  ·rw[ql hz,zP];rw[qW hz]at z3;have em:((m+1:Nat):Int)*o=m*o+o:=by rw[Z4l,Z44];simp
   have em2:(0:Int)<=m*o:=C4 (by omega) ho;rw[show kR f hs (Zg x).2.2.2.2.2.1 (Nk ⟨z.vals,z.outs,zz (z.time+x.cost)⟩)=_ from hr ⟨z.vals,z.outs,zz (z.time+x.cost)⟩ z1 (by simp only;omega)];simp only[zK];rw[zy (by omega)];obtain⟨k1,k2,k3⟩:=hk ⟨z.vals,z.outs,zz (z.time+x.cost)⟩;refine hw _ ⟨_,rfl,by rw[k1];exact z1,?_,by rw[z3,show n-(j+1)=m by omega]⟩;simp only at k2;rw[show n-(j+1)=m by omega];omega
 ·rintro u w ⟨z,rfl,z1,z2,z3⟩;simp only[Uu];rw[ql (show ¬(n:Int)<x.n by omega),zP];rw[Z3v]at z3;rw[z3];exact zg.ret rfl
theorem KQ(N:Nat)(hN:5000<=N)(f:zX)(hv:u6 f.1)(hs:List Int)(hhs:hs.length=f.2.1.length):∀(M:Nat)(l:List Sp)(top:Bool),qM l<M->qM l<=100->Zk f top l->∀s:RS,s.vals.length=f.1.length->s.outs.length+(qw l).2.1<=1000000->
  AI N M f hs l (Nk s)=some (Nk (vZ f hs l s))
 |0,l,_,h,_,_,_,_,_=>by omega
 |M+1,l,top,h,ht,zj,s,hl,hB=>by
  show z52 N (AI N M) f hs l (Nk s)=_;have pB:=jN l;have rb:=XP;unfold z52 Ea;refine zg.eq ?_;refine zg.up (λj u=>∃z:RS,z=vZ f hs (l.take j) s/\u=Nk z/\z.vals.length=f.1.length/\z.outs.length<=s.outs.length+(qw (l.take j)).2.1/\0<=(qw (l.take j)).2.1) l.length ?_ ?_ N 0 (jF _) (by omega) _ ⟨s,by simp[vZ],rfl,hl,by simp[qw],by simp[qw]⟩
  ·rintro j u w hj ⟨z,hz,rfl,z1,z2,z4⟩ hw;have hm:=vK (gU hj);have he:=v8 l[j];have htp:=qn l[j].term;have hsj:=gR zj j hj;have Qn:=GV f _ _ hsj;obtain⟨⟨q1,q2,q3⟩,q4,q5⟩:=(gO ..).1 hsj;obtain⟨a1,a2,a3⟩:=kF f _ l[j].yW false (BV _) q4;obtain⟨b1,b2,b3⟩:=kF f _ l[j].ke false (BV _) q5;have YO:=um (l.take j) l[j];rw[<-zl hj]at YO;have hrn:=JG f hs (l.take j) l[j] s;rw[<-zl hj,<-hz]at hrn;have hle:(qw (l.take (j+1))).2.1<=(qw l).2.1:=by
    have:Zk f top (l.drop (j+1)):=Xw λi h=>by
     have hi:j+1+i<l.length:=by rw[Lp]at h;omega
     have:=gR zj (j+1+i) hi;rw[Z36];have e:decide (i+1=(l.drop (j+1)).length)=decide (j+1+i+1=l.length):=by
      rw[Lp];congr 1;simp only[eq_iff_iff];omega
     rw[e];exact this
    have hd:=kF f _ (l.drop (j+1)) top (BV _) this;have app:∀a b:List Sp,(qw (a++b)).2.1=(qw a).2.1+(qw b).2.1:=λa b=>by
     induction a with
     |nil=>simp[qw]
     |cons x a ih=>simp only[QI,qw,ih];omega
    have e:=app (l.take (j+1)) (l.drop (j+1));rw[T4]at e;have:=hd.2.1;omega
   have xZ:(qw (l.take (j+1))).2.1=(qw (l.take j)).2.1+(FQ l[j]).2.1:=by rw[YO]
   have hkp:L4 z (QO f hs l[j] z) (FQ l[j]).2.1:=by
    have:=pI f hs (qM [l[j]]+1) [l[j]] (top&&decide (j+1=l.length)) (by omega) (by simp only[Zk,Z5g,Z42];exact⟨hsj,trivial⟩) z;simpa only[vZ,qw,Int.add_zero]using this
   obtain⟨k1,k2,k3⟩:=hkp;have step:∀u:List Int×(List Int×(Int×Unit)),u=Nk (QO f hs l[j] z)->zg (w (zz ((j:Int)+1),u)) λy=>y=Nk (vZ f hs l s):=by
    rintro u rfl;rw[zy (by omega)];exact hw _ ⟨QO f hs l[j] z,hrn.symm,rfl,by rw[k1];exact z1,by rw[xZ];omega,by rw[xZ];have:=Qn.2.1;omega⟩
   rw[Zs]at step;rw[Y1]at xZ;simp only[KY,Cm];rw[zM hj,zB,zY hj];simp only[zK];by_cases h4:l[j].act=4
   ·rw[ju h4,zB];rw[yX h4]at step;rw[qW (show ¬l[j].act=1 by omega),qW (show ¬l[j].act=3 by omega),yX h4]at xZ;simp only at xZ;rw[show(0:Int)+(qw l[j].yW).2.1=(qw l[j].yW).2.1 by omega]at xZ;rw[show f327 N (AI N M) f hs (l[j].1,(l[j].2,(l[j].3,(l[j].4,((l[j].5.1,(l[j].5.2,(l[j].5.3,()))),(l[j].6,(l[j].7,(l[j].8,())))))))) (Nk z)=_ from
     zc5 N hN f hs (AI N M) l[j] (qw l[j].yW).2.1 a2 1000000 q2.n0 (q2.n h4) (by omega) q3 (λs=>pI f hs _ l[j].yW false (BV _) q4 s)
      (λs c1 c2=>KQ N hN f hv hs hhs M l[j].yW false (by omega) (by omega) q4 s c1 c2) z z1 (by omega)]
    simp only[zK];exact step _ rfl
   rw[ql h4,zP];rw[qW h4]at step;have vt:=λvals hl=>(Ck N hN f l[j].term (by omega) false q3 vals hl).2
   by_cases h0:l[j].act=0
   ·rw[ju h0,zB];rw[yX h0]at step;rw[vt z.vals z1,zK];rw[O8 N f hv l[j].var _ (q1.var (.inl h0)) z.vals z1];simp only[zK];exact step _ rfl
   rw[ql h0,zP];rw[qW h0]at step;by_cases h1:l[j].act=1
   ·rw[ju h1,zB];rw[yX h1]at step xZ;simp only at xZ;refine zg.zo (by simp only[ve,Nat.add_eq];omega) ?_;rw[vt z.vals z1,zK];refine zg.zo (by simp only[ve];omega) ?_;exact step _ rfl
   rw[ql h1,zP];rw[qW h1]at step xZ;by_cases h5:l[j].act=5
   ·rw[ju h5,zB];rw[qW (show ¬l[j].act=3 by omega),yX h5]at step;obtain⟨r1,r2⟩:=q1.rel h5;simp only[len]at r2;have hk:l[j].n.toNat<hs.length:=by omega
    have ei:idx hs l[j].4=some (hs.getD l[j].n.toNat 0):=by
     rw[show idx hs l[j].4=some hs[l[j].n.toNat] from Qy r1 (by omega),FA,uX hk];rfl
    rw[ei,zK];rw[O8 N f hv l[j].var _ (q1.var (.inr h5)) z.vals z1];simp only[zK];exact step _ rfl
   rw[ql h5,zP];by_cases h3:l[j].act=3
   ·rw[ju h3,zB];rw[yX h3]at step xZ;simp only at xZ;rw[vt z.vals z1,zK];by_cases Cn:wJ z.vals l[j].term=0
    ·rw[ju Cn,show(!true)=false from rfl,zP];rw[yX Cn]at step;rw[show AI N M f hs l[j].7 _=_ from KQ N hN f hv hs hhs M l[j].ke false (by omega) (by omega) q5 ⟨z.vals,z.outs,zz (z.time+l[j].cost)⟩ z1 (by simp only;omega)];simp only[zK];exact step _ rfl
    ·rw[ql Cn,show(!false)=true from rfl,zB];rw[qW Cn]at step;rw[show AI N M f hs l[j].6 _=_ from KQ N hN f hv hs hhs M l[j].yW false (by omega) (by omega) q4 ⟨z.vals,z.outs,zz (z.time+l[j].cost)⟩ z1 (by simp only;omega)];simp only[zK];exact step _ rfl
   rw[ql h3,zP];rw[qW h3,qW h5]at step;by_cases h6:l[j].act=6
   ·rw[ju h6,zB];rw[yX h6]at step;rw[zc4 N (by omega) _ _ (q1.set h6).2.zar,zK];exact step _ rfl
   rw[ql h6,zP];rw[qW h6]at step;exact step _ rfl
  ·rintro u w ⟨z,hz,rfl,z1,z2,z4⟩;simp only[KY,Cm];rw[show decide (((l.length:Nat):Int)<len l)=false from zC _,zP];rw[G9]at hz;rw[<-hz];exact zg.ret rfl
end Go.Kz
namespace Go.Kz
abbrev kz:=List Int×(List Int×(List Int×Unit))
def Wt(a:kz)(k:Int):List Int:=if k=1 then a.1 else if k=2 then a.2.1 else a.2.2.1
structure Fits (l:List qU) (xs:List Int):Prop where
 len:xs.length=l.length
 bd:∀i (h:i<l.length) (h':i<xs.length),l[i].2.2.1<=xs[i]/\xs[i]<=l[i].2.2.2.1
def Zd(vs:List qU)(a:kz):Prop:=∀k:Int,1<=k->k<=3->Fits (jA vs k) (Wt a k)
def wv(vs:List qU)(k:Int)(j:Nat):Nat:=(jA (vs.take j) k).length
def Tj(vs:List qU)(a:kz)(j:Nat):Int:=match vs[j]? with
 |some v=>if v.2.1=0 then v.2.2.2.2.1 else (Wt a v.2.1).getD (wv vs v.2.1 j) 0
 |none=>0
def Wu(vs:List qU)(a:kz)(n:Nat):List Int:=(List.range n).map (Tj vs a)
theorem Zw(vs:List qU)(a:kz)(n:Nat):Wu vs a (n+1)=Wu vs a n++[Tj vs a n]:=by
 simp[Wu,Z2n]
theorem JK(vs:List qU)(a:kz)(n:Nat):(Wu vs a n).length=n:=by simp[Wu]
theorem uf(vs:List qU)(k:Int){j:Nat}(hj:j<vs.length):wv vs k (j+1)=if vs[j].2.1=k then wv vs k j+1 else wv vs k j:=by
 unfold wv;rw[zl hj,xw];split<;>simp
theorem ZT(vs:List qU)(k:Int):wv vs k vs.length=(jA vs k).length:=by simp[wv]
theorem zhg(vs:List qU){j:Nat}(hj:j<vs.length):∃h:wv vs vs[j].2.1 j<(jA vs vs[j].2.1).length,(jA vs vs[j].2.1)[wv vs vs[j].2.1 j]=vs[j]:=by
 have e:jA vs vs[j].2.1=jA (vs.take j) vs[j].2.1++(vs[j]::jA (vs.drop (j+1)) vs[j].2.1):=by
  have h1:vs=vs.take j++(vs[j]::vs.drop (j+1)):=by
   rw[Z4m,T4]
  have h2:∀(l m:List qU)(v:qU),jA (l++(v::m)) v.2.1=jA l v.2.1++(v::jA m v.2.1):=λl m v=>by
   simp[jA]
  have:=h2 (vs.take j) (vs.drop (j+1)) vs[j];rw[<-h1]at this;exact this
 have hl:wv vs vs[j].2.1 j<(jA vs vs[j].2.1).length:=by rw[e];simp[wv]
 refine⟨hl,?_⟩;have:(jA vs vs[j].2.1)[wv vs vs[j].2.1 j]? = some vs[j]:=by rw[e];simp[wv]
 rw[uX hl]at this;exact Option.some.inj this
theorem Ev{vs:List qU}{a:kz}(hv:u6 vs)(ha:Zd vs a){j:Nat}(hj:j<vs.length)(h0:¬vs[j].2.1=0):
  ∃h:wv vs vs[j].2.1 j<(Wt a vs[j].2.1).length,Tj vs a j=(Wt a vs[j].2.1)[wv vs vs[j].2.1 j]/\vs[j].2.2.1<=Tj vs a j/\Tj vs a j<=vs[j].2.2.2.1:=by
 have hk:=hv.each j hj;have f:=ha vs[j].2.1 (by have:=hk.z2m;omega) hk.z2l;obtain⟨h1,h2⟩:=zhg vs hj;have h3:wv vs vs[j].2.1 j<(Wt a vs[j].2.1).length:=by rw[f.len];exact h1
 have e:Tj vs a j=(Wt a vs[j].2.1)[wv vs vs[j].2.1 j]:=by
  simp only[Tj,uX hj];rw[qW h0,FA,uX h3];rfl
 have b:=f.bd _ h1 h3;rw[h2,<-e]at b;exact⟨h3,e,b⟩
theorem Fa{vs:List qU}{a:kz}(hv:u6 vs){j:Nat}(hj:j<vs.length)(h0:vs[j].2.1=0):Tj vs a j=vs[j].2.2.2.2.1/\vs[j].2.2.1<=Tj vs a j/\Tj vs a j<=vs[j].2.2.2.1:=by
 have e:Tj vs a j=vs[j].2.2.2.2.1:=by
  simp only[Tj,uX hj];rw[yX h0]
 have:=(hv.each j hj).init h0;exact⟨e,by omega,by omega⟩
theorem zcf(N:Nat)(hN:200<=N){vs:List qU}(hv:u6 vs)(a:kz)(ha:Zd vs a):f279 N vs a=some (Wu vs a vs.length,0):=by
 have SH:=hv.len;have r1:=vr;refine zg.eq ?_;unfold f279;refine zg.up (λj s=>s=(((wv vs 1 j:Nat):Int),((wv vs 2 j:Nat):Int),((wv vs 3 j:Nat):Int),true,Wu vs a j)) vs.length ?_ ?_ N 0 (jF _) (by omega) _ (by simp[wv,jA,Wu])
 ·rintro j s w hj rfl hw;have hk0:=(hv.each j hj).z2m;have hk3:=(hv.each j hj).z2l;have hlen:=JK vs a j;have at_:∀(l:List Int)(c:Nat)(h:c<l.length),f326 N l (c:Int)=some (l[c],true):=λl c h=>by
   unfold f326;rw[ql (show ¬len l<=(c:Int) by simp only[len];omega),zP,zY h];rfl
  simp only[UW];rw[zM hj,zB,zY hj];simp only[zK];have c1:=uf vs 1 hj;have c2:=uf vs 2 hj;have c3:=uf vs 3 hj;have le:∀k,wv vs k j<=10:=λk=>by
   have:=xS (vs.take j) k;rw[Us]at this;simp only[wv];omega
  have l1:=le 1;have l2:=le 2;have l3:=le 3;have nb:∀x:Int,vs[j].2.2.1<=x->x<=vs[j].2.2.2.1->(decide (x<vs[j].2.2.1)||decide (vs[j].2.2.2.1<x))=false:=λx b1 b2=>by
   simp only[VG,Qi];omega
  have Qd:decide ((Nat.succ (List.length (Wu vs a j)))<=room)=true:=by simp only[ve];omega
  by_cases h1:vs[j].2.1=1
  ·obtain⟨g1,g2,g3,g4⟩:=Ev hv ha hj (by omega);simp only[h1]at g1 g2;rw[ju h1,zB,show f326 N a.1 ((wv vs 1 j:Nat):Int)=_ from at_ (Wt a 1) _ g1];simp only[zK,Gu,zP,Qw];rw[<-g2,nb _ g3 g4,zP,Qd];refine zg.zo rfl ?_;rw[zy (by omega),zy (by omega)];refine hw _ ?_;rw[c1,c2,c3,yX h1,qW (by omega),qW (by omega),Zw];rfl
  rw[ql h1,zP];by_cases h2:vs[j].2.1=2
  ·obtain⟨g1,g2,g3,g4⟩:=Ev hv ha hj (by omega);simp only[h2]at g1 g2;rw[ju h2,zB,show f326 N a.2.1 ((wv vs 2 j:Nat):Int)=_ from at_ (Wt a 2) _ g1];simp only[zK,Gu,zP,Qw];rw[<-g2,nb _ g3 g4,zP,Qd];refine zg.zo rfl ?_;rw[zy (by omega),zy (by omega)];refine hw _ ?_;rw[c1,c2,c3,qW h1,yX h2,qW (by omega),Zw];rfl
  rw[ql h2,zP];by_cases h3:vs[j].2.1=3
  ·obtain⟨g1,g2,g3,g4⟩:=Ev hv ha hj (by omega);simp only[h3]at g1 g2;rw[ju h3,zB,show f326 N a.2.2.1 ((wv vs 3 j:Nat):Int)=_ from at_ (Wt a 3) _ g1];simp only[zK,Gu,zP,Qw];rw[<-g2,nb _ g3 g4,zP,Qd];refine zg.zo rfl ?_;rw[zy (by omega),zy (by omega)];refine hw _ ?_;rw[c1,c2,c3,qW h1,qW h2,yX h3,Zw];rfl
  rw[ql h3,zP];obtain⟨g2,g3,g4⟩:=Fa (a:=a) hv hj (by omega);simp only[Qw,zK];rw[<-g2,nb _ g3 g4,zP,Qd];refine zg.zo rfl ?_;rw[zy (by omega)];refine hw _ ?_;rw[c1,c2,c3,qW h1,qW h2,qW h3,Zw]
 ·rintro s w rfl;simp only[UW];rw[zC,zP];have e1:(wv vs 1 vs.length:Int)=len a.1:=by rw[ZT,<-(ha 1 (by omega) (by omega)).len];rfl
  have e2:(wv vs 2 vs.length:Int)=len a.2.1:=by rw[ZT,<-(ha 2 (by omega) (by omega)).len];rfl
  have e3:(wv vs 3 vs.length:Int)=len a.2.2.1:=by rw[ZT,<-(ha 3 (by omega) (by omega)).len];rfl
  rw[e1,e2,e3];simp only[Qw,zK,Uo,Gu,Bool.or_false,zP];exact zg.ret rfl
end Go.Kz
namespace Go.Kz
@[reducible] def YD (vs:List qU) (a:kz) (j:Nat):List (List Int):=[[],a.1.drop (wv vs 1 j),a.2.1.drop (wv vs 2 j),a.2.2.1.drop (wv vs 3 j)]
def AW(f:zX)(vals:List Int):List Int:=f.2.1.map λh=>kM (wJ vals (Ps h.2.2.2.1)) h.2.1 h.2.2.1
theorem zce(N:Nat)(hN:5000<=N)(f:zX)(h:WF f)(vals:List Int)(hl:vals.length=f.1.length):f281 N f vals=some (AW f vals):=by
 obtain⟨g1,g2,g3⟩:=h.deep.FU;have r1:=vr;refine zg.eq ?_;unfold f281;refine zg.up (λj s=>s=(f.2.1.take j).map λh=>kM (wJ vals (Ps h.2.2.2.1)) h.2.1 h.2.2.1) f.2.1.length ?_ ?_ N 0 (jF _) (by omega) [] rfl
 ·rintro j s w hj rfl hw;have hz:qG f.2.1[j]<=pJ f.2.1:=pS (gU hj);simp only[qG]at hz;simp only[UJ];rw[show decide ((j:Int)<len f.2.1)=true from zM hj,zB,zY hj];simp only[zK];rw[show f329 N vals (f.2.1[j].2.2.2.1.1,f.2.1[j].2.2.2.1.2)=_ from(Ck N hN f (Ps f.2.1[j].2.2.2.1) (by omega) true (h.EP j hj).term vals hl).2];simp only[zK,ER];refine zg.zo (by simp only[ve,GZ,Us];omega) ?_;rw[zy (by omega)];refine hw _ ?_;rw[zl hj,TU];rfl
 ·rintro s w rfl;simp only[UJ];rw[show decide (((f.2.1.length:Nat):Int)<len f.2.1)=false from zC _,zP,G9];exact zg.ret rfl
theorem zcq(N:Nat)(hN:5000<=N)(f:zX)(h:WF f)(a:kz)(ha:Zd f.1 a):f168 N f a=some (((),(0,())),Sg f (AW f (Wu f.1 a f.1.length)) ⟨Wu f.1 a f.1.length,[],0⟩):=by
 obtain⟨g1,g2,g3⟩:=h.deep.FU;have hv:=h.vars;have r1:=vr;refine zg.eq ?_;unfold f168;rw[Gt N (by omega) f h];simp only[zK,Uo,Gu,zP];refine zg.up (λj s=>s=(false,(Wu f.1 a j,YD f.1 a j))) f.1.length ?_ ?_ N 0 (jF _) (by omega) _ (by simp[Wu,YD,wv,jA])
 ·rintro j s w hj rfl hw;have hk0:=(hv.each j hj).z2m;have hk3:=(hv.each j hj).z2l;have hlen:=JK f.1 a j;have c1:=uf f.1 1 hj;have c2:=uf f.1 2 hj;have c3:=uf f.1 3 hj;have Qd:decide ((Nat.succ (List.length (Wu f.1 a j)))<=room)=true:=by simp only[ve];omega
  have nb:∀x:Int,f.1[j].2.2.1<=x->x<=f.1[j].2.2.2.1->((false||decide (x<f.1[j].2.2.1))||decide (f.1[j].2.2.2.1<x))=false:=λx b1 b2=>by
   simp only[VG,Qi,Ur];omega
  simp only[UD];rw[show decide ((j:Int)<len f.1)=true from zM hj,zB,zY hj];simp only[zK];by_cases h0:f.1[j].2.1=0
  ·obtain⟨q2,q3,q4⟩:=Fa (a:=a) hv hj h0;rw[ju h0,show(!true)=false from rfl,zP,Qd];refine zg.zo rfl ?_;rw[zy (by omega),<-q2];refine hw _ ?_;simp only[YD];rw[c1,c2,c3,qW (by omega),qW (by omega),qW (by omega),Zw]
  rw[ql h0,show(!false)=true from rfl,zB];obtain⟨q1,q2,q3,q4⟩:=Ev hv ha hj h0;have dr:∀(l:List Int)(c:Nat),c<l.length->len (l.drop c)≠0/\idx (l.drop c) 0=l[c]?/\sub (l.drop c) 1 (len (l.drop c))=l.drop (c+1):=λl c hc=>by
   refine⟨by simp only[len,Lp];omega,?_,?_⟩
   ·rw[show(0:Int)=((0:Nat):Int) from rfl,U8,Z2j];rfl
   ·show((l.drop c).drop 1).take _=_;rw[TF,Z1y];simp only[len,Lp];omega
  have D5:f.1[j].2.1=((f.1[j].2.1.toNat:Nat):Int):=by omega
  have hib:jY (YD f.1 a j) f.1[j].2.1=true:=by simp only[jY,YD,BF,TA,zA,ve];omega
  have key:idx (YD f.1 a j) f.1[j].2.1=some ((Wt a f.1[j].2.1).drop (wv f.1 f.1[j].2.1 j))/\qN (YD f.1 a j) f.1[j].2.1 ((Wt a f.1[j].2.1).drop (wv f.1 f.1[j].2.1 j+1))=YD f.1 a (j+1):=by
   have:f.1[j].2.1=1\/f.1[j].2.1=2\/f.1[j].2.1=3:=by omega
   simp only[YD];rw[c1,c2,c3];rcases this with e|e|e<;>rw[e]<;>exact⟨rfl,rfl⟩
  obtain⟨d1,d2,d3⟩:=dr (Wt a f.1[j].2.1) (wv f.1 f.1[j].2.1 j) q1;rw[hib,key.1];refine zg.zo rfl ?_;simp only[zK];rw[ql d1,zP,d2,uX q1,<-q2];refine zg.zo rfl ?_;simp only[zK];refine zg.zo rfl (zg.zo ?_ (zg.zo rfl ?_))
  ·simp only[zA,ve];have:len ((Wt a f.1[j].2.1).drop (wv f.1 f.1[j].2.1 j))=(((Wt a f.1[j].2.1).length-wv f.1 f.1[j].2.1 j:Nat):Int):=by simp only[len,Lp]
   rw[this];omega
  simp only[Qw,zK];rw[nb _ q3 q4,Qd,d3,key.2];refine zg.zo rfl ?_;rw[zy (by omega)];refine hw _ ?_;rw[Zw]
 ·rintro s w rfl;simp only[UD];rw[show decide (((f.1.length:Nat):Int)<len f.1)=false from zC _,zP];have em:∀k:Nat,(hk:k<4)->((YD f.1 a f.1.length)[k]'hk)=[]:=by
   intro k hk;have d1:a.1.drop (wv f.1 1 f.1.length)=[]:=Lg (by rw[ZT,<-(ha 1 (by omega) (by omega)).len];exact yH _);have d2:a.2.1.drop (wv f.1 2 f.1.length)=[]:=Lg (by rw[ZT,<-(ha 2 (by omega) (by omega)).len];exact yH _);have d3:a.2.2.1.drop (wv f.1 3 f.1.length)=[]:=Lg (by rw[ZT,<-(ha 3 (by omega) (by omega)).len];exact yH _);have:k=0\/k=1\/k=2\/k=3:=by omega
   rcases this with rfl|rfl|rfl|rfl
   ·rfl
   ·exact d1
   ·exact d2
   ·exact d3
  refine zg.WW (λ_=>True) 4 ?_ ?_ N 0 (jF _) (by omega) trivial
  ·intro k w' hk _ QA;simp only[KN];rw[ju (show(k:Int)<4 by omega),zB,zY (l:=YD f.1 a f.1.length) hk,em k hk];simp only[zK];rw[show decide (0<len ([]:List Int))=false from rfl,zP,zy (by omega)];exact QA trivial
  ·intro w' _;simp only[KN];rw[show decide (((4:Nat):Int)<4)=false from rfl,zP,zP];generalize Au:Wu f.1 a f.1.length=vals;have hl:vals.length=f.1.length:=by rw[<-Au,JK]
   refine zg.up (λj s=>s=(f.2.1.take j).map λh=>kM (wJ vals (Ps h.2.2.2.1)) h.2.1 h.2.2.1) f.2.1.length ?_ ?_ N 0 (jF _) (by omega) [] rfl
   ·rintro j s w hj rfl hw;have hz:qG f.2.1[j]<=pJ f.2.1:=pS (gU hj);simp only[qG]at hz;simp only[KM];rw[show decide ((j:Int)<len f.2.1)=true from zM hj,zB,zY hj];simp only[zK];rw[show f249 N vals (f.2.1[j].2.2.2.1.1,f.2.1[j].2.2.2.1.2)=_ from(Ck N hN f (Ps f.2.1[j].2.2.2.1) (by omega) true (h.EP j hj).term vals hl).1];simp only[zK];rw[Eb N _ _ _ (XX.1 (h.EP j hj).Z0).1];simp only[zK];refine zg.zo (by simp only[ve,GZ,Us];omega) ?_;rw[zy (by omega)];refine hw _ ?_;rw[zl hj,TU];rfl
   ·rintro s w rfl;simp only[KM];rw[show decide (((f.2.1.length:Nat):Int)<len f.2.1)=false from zC _,zP,G9];exact zg.ret rfl
def jW(f:zX)(a:kz):RS:=vZ f (AW f (Wu f.1 a f.1.length)) f.2.2.1 ⟨Wu f.1 a f.1.length,[],0⟩
theorem AH(N:Nat)(hN:5000<=N)(f:zX)(h:WF f)(a:kz)(ha:Zd f.1 a):f73 N f a=some (((jW f a).outs,((jW f a).time,())),0):=by
 obtain⟨g1,g2,g3⟩:=h.deep.FU;have h2:=h.ub2;unfold f73;rw[zcq N hN f h a ha];simp only[zK,Uo,Gu,zP];rw[show f169 N f.2.2.1 f 0 (Wu f.1 a f.1.length) (AW f (Wu f.1 a f.1.length)) []=_ from KI N hN f h.vars _ (by simp[AW]) N f.2.2.1 true (by omega) (by omega) h.steps ⟨Wu f.1 a f.1.length,[],0⟩ (JK ..) (by simp only[TA];omega)];rfl
theorem zd4(N:Nat)(hN:5000<=N)(f:zX)(h:WF f)(hc:f66 N f=some 0)(a:kz)(ha:Zd f.1 a):f115 N f a=some (((jW f a).outs,((jW f a).time,())),0):=by
 obtain⟨g1,g2,g3⟩:=h.deep.FU;have h2:=h.ub2;unfold f115 f199;rw[hc];simp only[zK,Uo,Gu,zP];rw[zcf N (by omega) h.vars a ha];simp only[zK,Uo,Gu,zP];rw[zce N hN f h _ (JK ..)];simp only[zK];rw[show f280 N f (AW f (Wu f.1 a f.1.length)) f.2.2.1 (Wu f.1 a f.1.length,(([]:List Int),(0,())))=_ from KQ N hN f h.vars _ (by simp[AW]) N f.2.2.1 true (by omega) (by omega) h.steps ⟨Wu f.1 a f.1.length,[],0⟩ (JK ..) (by simp only[TA];omega)];rfl
end Go.Kz
namespace Go.Kz
theorem zjj(N:Nat)(hN:200<=N){vs:List qU}(hv:u6 vs)(k:Int)(hk:0<=k/\k<=3)(hp:zV (jA vs k)<=4096)(xs:List Int)(hf:Fits (jA vs k) xs):zg (f70 N vs k xs) λr=>0<=r.1/\r.1<zV (jA vs k):=by
 have hl:=hv.len;unfold f70;rw[Ei N hN hl hv.Z0 k hk hp];simp only[zK,Uo,Gu,zP];have pB:=xS vs k;have hrl:=jT hv.Z0 k;generalize jA vs k=l at *;obtain⟨h1,h2⟩:=hf;rw[ju (show len xs=len l by simp only[len];omega),show(!true)=false from rfl,zP];refine zg.up (λj n=>0<=n/\n<zV (l.take j)) l.length ?_ ?_ N 0 (jF _) (by omega) _ (by simp[zV])
 ·rintro j s w hj ⟨i1,i2⟩ hw;have Zy:j<xs.length:=by omega
  have:=h2 j hj Zy;simp only[EE,f166];rw[show decide ((j:Int)<len l)=true from zM hj,zB,zu (by simp only[jY,zA,ve];omega),zY hj,zY Zy];simp only[zK,Qw];rw[show(decide (xs[j]<l[j].2.2.1)||decide (l[j].2.2.2.1<xs[j]))=false by simp only[VG,Qi];omega,zP,zy (by omega)];have e1:=pU hrl j;have e2:=pU hrl (j+1);have r1:=hrl _ (gU hj);obtain⟨v1,v2⟩:=JJ r1;rw[zl hj,xy]at e2;have hm:(s+1)*Zh l[j]<=zV (l.take j)*Zh l[j]:=Z3a (by omega) (by omega);rw[Z44]at hm;have hm0:0<=s*Zh l[j]:=C4 i1 (by omega);have hx:xs[j]-l[j].2.2.1<Zh l[j]:=by simp only[Zh];omega
  obtain⟨r2,r3,r4⟩:=r1;refine hw _ ?_;rw[zl hj,xy,GQ ⟨r2,r3,r4⟩,zx (n:=s*Zh l[j]) (by omega) (by omega),zx (n:=s*Zh l[j]+xs[j]) (by omega) (by omega),zx (by omega) (by omega)];omega
 ·rintro s w hi;simp only[EE];rw[show decide (((l.length:Nat):Int)<len l)=false from zC _,zP];rw[G9]at hi;exact zg.ret hi
def dig(l:List qU)(r:Int)(i:Nat):Int:=match l[i]? with
 |some v=>v.2.2.1+(r/zV (l.drop (i+1)))%Zh v
 |none=>0
def PM(l:List qU)(r:Int)(n:Nat):List Int:=(List.range n).map (dig l r)
theorem z06(l:List qU)(r:Int)(n:Nat):PM l r (n+1)=PM l r n++[dig l r n]:=by simp[PM,Z2n]
theorem WK(l:List qU)(r:Int)(n:Nat):(PM l r n).length=n:=by simp[PM]
theorem z07{l:List qU}(hr:∀v∈l,uS v)(r:Int):Fits l (PM l r l.length):=by
 refine⟨WK ..,λi h h'=>?_⟩;have hv:=JJ (hr _ (gU h));have e:(PM l r l.length)[i]=l[i].2.2.1+(r/zV (l.drop (i+1)))%Zh l[i]:=by simp[PM,dig,h]
 rw[e];have a:=Z5h (r/zV (l.drop (i+1))) (show Zh l[i]≠0 by omega);have b:=Z5i (r/zV (l.drop (i+1))) (show 0<Zh l[i] by omega);simp only[Zh]at b⊢ a;omega
theorem Xb{l:List qU}{j:Nat}(hj:j<l.length):zV (l.drop j)=Zh l[j]*zV (l.drop (j+1)):=by
 rw[<-Z4m hj];rfl
theorem Z1{l:List qU}(h:∀v∈l,uS v)(k:Nat):zV (l.drop k)<=zV l:=by
 have e:=CH (l.take k) (l.drop k);rw[T4]at e;rw[e];have h1:=qh (l:=l.take k) λv hv=>h v (Z3g hv)
 have h2:=qh (l:=l.drop k) λv hv=>h v (Z3n hv)
 have:=Z3a h1 (show 0<=zV (l.drop k) by omega);omega
theorem MA(N:Nat)(hN:200<=N){vs:List qU}(hv:u6 vs)(k:Int)(hk:0<=k/\k<=3)(hp:zV (jA vs k)<=4096)(r:Int)(h0:0<=r)(h1:r<zV (jA vs k)):f20 N vs k r=some (PM (jA vs k) r (jA vs k).length,0):=by
 have hl:=hv.len;have r1:=vr;refine zg.eq ?_;unfold f20;rw[Vt N hN hl hv.Z0 k hk hp];simp only[zK,Uo,Gu,zP,Qw];rw[show(decide (r<0)||decide (zV (jA vs k)<=r))=false by simp only[VG,Qi];omega,zP];rw[z4v N hN vs hl];simp only[zK];have pB:=xS vs k;have uL:=jT hv.Z0 k;generalize jA vs k=l at *;have ck:∀{R:Type}(j:Nat)(hj:j<l.length)(x:Option R),zo (jY l (j:Int)) x=x:=λj hj x=>zu (by simp only[jY,zA,ve];omega)
 refine zg.up (λj s=>s=(zV (l.drop j),PM l r j)) l.length ?_ ?_ N 0 (jF _) (by omega) _ (by simp[PM])
 ·rintro j s w hj rfl hw;have hrj:=uL _ (gU hj);obtain⟨s1,s2⟩:=JJ hrj;have pd:=Xb hj;have p1:=qh (l:=l.drop (j+1)) λv hv=>uL v (Z3n hv)
  have p2:=Z1 uL (j+1);have p3:=Z1 uL j;have hq:Int.tdiv (zV (l.drop j)) (Zh l[j])=zV (l.drop (j+1)):=by
   rw[pd,Int.mul_tdiv_cancel_left _ (by omega)]
  have hd:dig l r j=l[j].2.2.1+(r/zV (l.drop (j+1)))%Zh l[j]:=by simp[dig,hj]
  simp only[Ed];rw[zM hj,zB];simp only[ck j hj,zY hj,zK];rw[GQ hrj,hq,zx (n:=zV (l.drop (j+1))) (by omega) (by omega)];rw[ql (show ¬Zh l[j]=0 by omega),zP,ql (show ¬zV (l.drop (j+1))=0 by omega),zP,zP];have hu:=WK l r j;rw[zu (by simp only[ve];omega)];have t1:Int.tdiv r (zV (l.drop (j+1)))=r/zV (l.drop (j+1)):=Z5p h0;have d1:0<=r/zV (l.drop (j+1)):=Z46 h0 (by omega);have d2:r/zV (l.drop (j+1))<=r:=Z47 _ h0;rw[t1,zx (n:=r/zV (l.drop (j+1))) (by omega) (by omega)];have t2:Int.tmod (r/zV (l.drop (j+1))) (Zh l[j])=(r/zV (l.drop (j+1)))%Zh l[j]:=Z5q d1;have m1:=Z5h (r/zV (l.drop (j+1))) (show Zh l[j]≠0 by omega);have m2:=Z5i (r/zV (l.drop (j+1))) (show 0<Zh l[j] by omega);obtain⟨b1,b2,b3⟩:=hrj;rw[t2,<-hd,zx (n:=dig l r j) (by omega) (by omega),zy (by omega)];refine hw _ ?_;rw[z06]
 ·rintro s w rfl;simp only[Ed];rw[zC,zP];exact zg.ret rfl
theorem Ef(N:Nat)(hN:200<=N){vs:List qU}(hv:u6 vs)(k:Int)(hk:0<=k/\k<=3)(hp:zV (jA vs k)<=4096)(r:Int)(h0:0<=r)(h1:r<zV (jA vs k)):f167 N vs k r=some (PM (jA vs k) r (jA vs k).length,0):=by
 have hl:=hv.len;have r1:=XP;refine zg.eq ?_;unfold f167;rw[Ei N hN hl hv.Z0 k hk hp];simp only[zK,Uo,Gu,zP,Qw];rw[show(decide (r<0)||decide (zV (jA vs k)<=r))=false by simp only[VG,Qi];omega,zP];have pB:=xS vs k;have uL:=jT hv.Z0 k;generalize jA vs k=l at *;refine zg.zo (by simp only[zA,ve,len];omega) ?_;refine zg.iter (λx=>∃m:Nat,x.1=(m:Int)-1/\m<=l.length/\x.2.1=r/zV (l.drop m)/\x.2.2=List.replicate m 0++(PM l r l.length).drop m) (λx=>(x.1+1).toNat) ?_ N _ ⟨l.length,?_,yH _,?_,?_⟩ ?_
 ·rintro⟨i,q,o⟩ w ⟨m,e1,hm,e2,e3⟩ hw;simp only at e1 e2 e3;subst e1 e2 e3;simp only[Eh,f166]
  cases m with
  |zero=>
   rw[show decide ((0:Int)<=((0:Nat):Int)-1)=false from rfl,zP];simp only[List.replicate_zero,Ql,Z3b]
   exact zg.ret rfl
  |succ m=>
   have hj:m<l.length:=hm;have hrj:=uL _ (gU hj);obtain⟨s1,s2⟩:=JJ hrj;have pd:=Xb hj;have p1:=qh (l:=l.drop (m+1)) λv hv=>uL v (Z3n hv)
   have p2:=qh (l:=l.drop m) λv hv=>uL v (Z3n hv)
   have p3:=Z1 uL m;rw[show((m+1:Nat):Int)-1=(m:Int) by omega];rw[ju (show(0:Int)<=(m:Int) by omega),zB,zu (by simp only[jY,zA,ve];omega),zY hj];simp only[zK];rw[GQ hrj,ql (show ¬Zh l[m]=0 by omega),zP,zP];have ho:(List.replicate (m+1) (0:Int)++(PM l r l.length).drop (m+1)).length=l.length:=by
    rw[WQ,Z2y,Lp,WK];omega
   rw[zu (by simp only[jY,zA,ve];omega),zY (show m<(List.replicate (m+1) (0:Int)++(PM l r l.length).drop (m+1)).length by omega)];simp only[zK];have d1:0<=r/zV (l.drop (m+1)):=Z46 h0 (by omega);have d2:r/zV (l.drop (m+1))<=r:=Z47 _ h0;have t1:Int.tdiv (r/zV (l.drop (m+1))) (Zh l[m])=r/zV (l.drop m):=by
    rw[Z5p d1,pd,Int.mul_comm (Zh l[m]),Int.ediv_ediv_of_nonneg (by omega)]
   have d3:0<=r/zV (l.drop m):=Z46 h0 (by omega);have d4:r/zV (l.drop m)<=r:=Z47 _ h0;have t2:Int.tmod (r/zV (l.drop (m+1))) (Zh l[m])=(r/zV (l.drop (m+1)))%Zh l[m]:=Z5q d1;have m1:=Z5h (r/zV (l.drop (m+1))) (show Zh l[m]≠0 by omega);have m2:=Z5i (r/zV (l.drop (m+1))) (show 0<Zh l[m] by omega);have hd:dig l r m=l[m].2.2.1+(r/zV (l.drop (m+1)))%Zh l[m]:=by simp[dig,hj]
   obtain⟨b1,b2,b3⟩:=hrj;rw[t1,t2,<-hd,zx (n:=dig l r m) (by omega) (by omega),zx (n:=r/zV (l.drop m)) (by omega) (by omega),zx (n:=(m:Int)-1) (by omega) (by omega)];have hu:(PM l r l.length).drop m=dig l r m::(PM l r l.length).drop (m+1):=by
    have hml:m<(PM l r l.length).length:=by rw[WK];exact hj
    rw[<-Z4m hml];congr 1;simp[PM]
   have hs:qN (List.replicate (m+1) (0:Int)++(PM l r l.length).drop (m+1)) (m:Int) (dig l r m)=List.replicate m 0++(PM l r l.length).drop m:=by
    rw[hu];show List.set _ ((m:Int).toNat) _=_;rw[show((m:Int).toNat)=m from Z3f m,List.replicate_succ',PF,List.set_append_right _ _ (by simp)];simp
   rw[hs];refine zg.zo (by simp only[jY,zA,ve];omega) ?_;exact hw ((m:Int)-1,(r/zV (l.drop m),List.replicate m 0++(PM l r l.length).drop m)) ⟨m,rfl,by omega,rfl,rfl⟩ (by simp only;omega)
 ·simp only[len];rw[zx (by omega) (by omega)]
 ·simp[zV]
 ·simp only[len,Z3f];rw[Lg (by rw[WK];exact yH _),DX]
 ·simp only[len];rw[zx (by omega) (by omega)];omega
end Go.Kz
namespace Go.Kz
def I64(x:Int):Prop:=-9223372036854775808<=x/\x<=9223372036854775807
def MI(l:List UInt8):Nat:=l.foldl (λa c=>a*10+(c.toNat-48)) 0
def zd8:List UInt8->Int
 |45::l=>-(MI l:Int)
 |l=>(MI l:Int)
theorem Jk{d:Nat}(h:d<10):(UInt8.ofNat (48+d)).toNat=48+d:=by
 rw[UInt8.toNat_ofNat'];exact Nat.mod_eq_of_lt (by omega)
theorem B9:∀(k u:Nat),u<10 ^ (k+1)->MI (Km (k+1) u)=u
 |0,u,h=>by
  have h':u<10:=by simpa using h
  have hb:Nat.blt u 10=true:=by simpa[Z3l]using h'
  simp only[Km,hb,zB,MI,Z2c,Z2x]
  rw[Jk h'];omega
 |k+1,u,h=>by
  rw[Km]
  cases hb:Nat.blt u 10 with
  |true=>
   have h':u<10:=by simpa[Z3l]using hb
   simp only[zB,MI,Z2c,Z2x]
   rw[Jk h'];omega
  |false=>
   simp only[zP,MI,Z3o,Z2c,Z2x];have hq:u/10<10 ^ (k+1):=by
    rw[Nat.pow_succ]at h;exact Z3t (by omega)
   have ih:=B9 k (u/10) hq;simp only[MI]at ih;rw[ih,Jk (Z2t _ (by omega))];omega
theorem Un:∀(k u:Nat),∀c∈Km k u,48<=c.toNat/\c.toNat<=57
 |0,u,c,h=>by simp[Km]at h
 |k+1,u,c,h=>by
  rw[Km]at h
  cases hb:Nat.blt u 10 with
  |true=>
   have h':u<10:=by simpa[Z3l]using hb
   rw[hb]at h;simp only[zB,II]at h
   rw[h,Jk h'];omega
  |false=>
   rw[hb]at h;simp only[zP,Gx,II]at h;rcases h with h|h
   ·exact Un k _ c h
   ·have:u%10<10:=Z2t _ (by omega);rw[h,Jk this];omega
theorem Cl{n:Int}(h:I64 n):zd8 (YI n)=n:=by
 obtain⟨h0,h1⟩:=h
 cases n with
 |ofNat m=>
  have hm:m<10 ^ 20:=by have:(Int.ofNat m:Int)=(m:Int):=rfl;omega
  simp only[YI];have hd:=B9 19 m hm;have hc:=Un 20 m
  cases hl:Km 20 m with
  |nil=>rw[hl]at hd;simp only[zd8];rw[hd];rfl
  |cons c l=>
   rw[hl]at hd hc;have:=hc c (Z2v ..);unfold zd8;split
   ·rename_i l' e;injection e with e1 e2;subst e1;simp at this
   ·rw[hd];rfl
 |negSucc m=>
  have hm0:(Int.negSucc m:Int) = -((m:Int)+1):=by omega
  have hm:m+1<10 ^ 20:=by omega
  simp only[YI,zd8];rw[B9 19 (m+1) hm];omega
end Go.Kz
namespace Go.Kz
theorem zax:f40 100000=some true:=by kernel_rfl
end Go.Kz
set_option linter.unusedVariables false
set_option linter.unusedSimpArgs false
namespace Go.Kz
noncomputable section
theorem zot(x:Tm):kp 0 (w7 x)=x:=by cases x;rfl
theorem HI(x:Sp):kp 1 (Zg x)=x:=by cases x with|mk a b c d t e f g=>cases t;rfl
theorem M3:∀l:List Tm,List.map (kp 0) (l.map w7)=l
 |[]=>rfl
 |x::l=>congr (Jn List.cons (zot x)) (M3 l)
theorem VS:∀l:List Sp,List.map (kp 1) (l.map Zg)=l
 |[]=>rfl
 |x::l=>congr (Jn List.cons (HI x)) (VS l)
theorem IV{x:Sp}{a b:List Sp}(h1:a=x.yW)(h2:b=x.ke):((x.act,(x.cost,(x.var,(x.n,(w7 x.term,(a,(b,(x.bounds,())))))))):zg8)=Zg x:=by rw[h1,h2]
theorem FO{I Z:Type}{f:I->Z}{l:List I}{k:Nat}(h:k<l.length):(l.take (k+1)).map f=(l.take k).map f++[f l[k]]:=by
 rw[zl h,TU];rfl
theorem Ac(N:Nat)(hN:200<=N):∀(M:Nat)(t:Tm),uA t<=M->uA t<=100->ON N M (w7 t)=some (w7 t)
 |0,t,h,_=>by have:=qn t;omega
 |M+1,t,h,ht=>by
  show OO N (ON N M) (w7 t)=_;have qG:=gY t;have pB:=w6 t.kids;have r1:=vr;refine zg.eq ?_;unfold OO;refine zg.up (λk o=>o=(t.kids.take k).map w7) t.kids.length ?_ ?_ N 0 (jF _) (by omega) _ rfl
  ·rintro j s w hj rfl hw;simp only[KH];have hm:=w5 (gU hj);rw[show decide ((j:Int)<len t.kids)=true from zM hj,zB,zY hj];simp only[zK];rw[show ON N M (t.kids[j].1,(t.kids[j].2,(t.kids[j].3,())))=_ from Ac N hN M t.kids[j] (by omega) (by omega),zK,zy (by omega),zu (ju (by simp only[GZ,Us];omega))];exact hw _ (FO hj).symm
  ·rintro s w rfl;simp only[KH];rw[show decide (((t.kids.length:Nat):Int)<len t.kids)=false from zC _,zP,G9];exact zg.ret (Jn (λk=>((t.op,(t.n,(k,()))):PL)) (M3 t.kids))
theorem Er(N:Nat)(l:List Int)(h:l.length<=1000):f123 N l=some l:=by
 unfold f123;rw[zu];exact ju (by unfold room;omega)
theorem Ab(N:Nat)(hN:200<=N):∀(M:Nat)(l:List Sp),qM l<M->qM l<=100->z5d N M l=some (l.map Zg)
 |0,l,h,_=>by omega
 |M+1,l,h,ht=>by
  show OM N (z5d N M) l=_;have pB:=jN l;have r1:=vr;refine zg.eq ?_;unfold OM;refine zg.up (λk o=>o=(l.take k).map Zg) l.length ?_ ?_ N 0 (jF _) (by omega) _ rfl
  ·rintro j s w hj rfl hw;simp only[KF];have hm:=vK (gU hj);have he:=v8 l[j];have hp:=qn l[j].term;rw[show decide ((j:Int)<len l)=true from zM hj,zB,zY hj];simp only[zK];rw[show f201 N (l[j].5.1,(l[j].5.2,(l[j].5.3,())))=_ from Ac N hN N l[j].term (by omega) (by omega),Ab N hN M l[j].yW (by omega) (by omega),Ab N hN M l[j].ke (by omega) (by omega),Er N l[j].bounds (by omega)];simp only[zK];rw[zy (by omega),zu (ju (by simp only[GZ,Us];omega))];exact hw _ ((Jn (λz=>(l.take j).map Zg++[z]) (IV (x:=l[j]) (VS _) (VS _))).trans (FO hj).symm)
  ·rintro s w rfl;simp only[KF];rw[show decide (((l.length:Nat):Int)<len l)=false from zC _,zP,G9];exact zg.ret rfl
theorem Aa(N:Nat)(hN:200<=N):∀(M:Nat)(t:Tm),uA t<=M->uA t<=100->OH N M (w7 t)=some (w7 t)
 |0,t,h,_=>by have:=qn t;omega
 |M+1,t,h,ht=>by
  show OI N (OH N M) (w7 t)=_;have qG:=gY t;have pB:=w6 t.kids;have r1:=vr;refine zg.eq ?_;unfold OI;rw[show f283 N (w7 t).2.2.1=some (t.kids.map w7) from zu (ju (by rw[GZ];show 0+t.kids.length<=_;omega)),zK];refine zg.up (λk o=>o=t.kids.map w7) t.kids.length ?_ ?_ N 0 (jF _) (by omega) _ rfl
  ·rintro j s w hj rfl hw;simp only[KB];have hm:=w5 (gU hj);have Zy:j<(t.kids.map w7).length:=by simpa using hj
   rw[show decide ((j:Int)<len (t.kids.map w7))=true from zM Zy,zB,zu (jk Zy),zY Zy,zK,Rq];rw[show OH N M ((w7 t.kids[j]).1,(w7 t.kids[j]).2)=_ from Aa N hN M t.kids[j] (by omega) (by omega),zK,zu (jk Zy),zK,zK,zy (by omega)];refine hw _ ?_;show List.set _ j (w7 t.kids[j])=_;have:=Z4n Zy
   rwa [Rq]at this
  ·rintro s w rfl;simp only[KB];rw[show decide (((t.kids.length:Nat):Int)<len (t.kids.map w7))=false by simp[len],zP];exact zg.ret (Jn (λk=>((t.op,(t.n,(k,()))):PL)) (M3 t.kids))
def cmn(N:Nat)(x:Sp):Sp:=kp 1 ((f282 N (Zg x)).getD (Zg x))
theorem zjw(N:Nat)(hN:200<=N)(x:Sp)(hx:Xk x<=100):f282 N (Zg x)=some (Zg (cmn N x))/\Xk (cmn N x)<=Xk x:=by
 have key:zg (f282 N (Zg x)) λr=>∃y:Sp,r=Zg y/\Xk y<=Xk x:=by
  unfold f282;refine zg.iter (λo=>∃y:Sp,o=Zg y/\Xk y<=Xk x) (λo=>Xk (kp 1 o)) ?_ N _ ⟨x,rfl,yH _⟩ (by rw[HI];omega);rintro o w ⟨y,rfl,hy⟩ hw;simp only[ET];have xX:=HI y;have hs:=v8 y;have stop:zg (some (Zg y)) λr=>∃y:Sp,r=Zg y/\Xk y<=Xk x:=zg.ret ⟨y,rfl,hy⟩
  simp only[gP,zK];refine zg.cond (λhb=>?_) λ_=>stop
  simp only[zA,ve]at hb;have hlen:y.yW.length=1:=by have:=hb.2;simp only[len]at this;omega
  have h0:0<y.yW.length:=by omega
  rw[show idx y.yW 0=some y.yW[0] from zY h0,zK];simp only[Qw,zK];refine zg.cond (λ_=>stop) λhc=>?_
  simp only[Cm];have hi:=v8 y.yW[0];have hm:=vK (gU h0);have e:=v8 ⟨y.act,y.cost,y.var,y.n,y.yW[0].term,y.yW[0].yW,y.ke,y.bounds⟩;simp only at e;refine hw _ ⟨⟨y.act,y.cost,y.var,y.n,y.yW[0].term,y.yW[0].yW,y.ke,y.bounds⟩,rfl,by omega⟩ ?_;rw[xX,show kp 1 _=(⟨y.act,y.cost,y.var,y.n,y.yW[0].term,y.yW[0].yW,y.ke,y.bounds⟩:Sp) from HI ⟨y.act,y.cost,y.var,y.n,y.yW[0].term,y.yW[0].yW,y.ke,y.bounds⟩];omega
 obtain⟨r,hr,y,rfl,hy⟩:=key;have:cmn N x=y:=by unfold cmn;rw[hr];exact HI y
 rw[this];exact⟨hr,hy⟩
mutual
def skS(N:Nat):Sp->Sp
 |⟨act,_,var,n,t,a,b,l⟩=>if act=4 then cmn N ⟨act,0,var,n,t,QN N a,QN N b,l⟩ else ⟨act,0,var,n,t,QN N a,QN N b,l⟩
def QN(N:Nat):List Sp->List Sp
 |[]=>[]
 |x::l=>if x.act=2\/x.act=6 then QN N l else skS N x::QN N l
end
theorem zh3(N:Nat)(x:Sp):skS N x=if x.act=4 then cmn N ⟨x.act,0,x.var,x.n,x.term,QN N x.yW,QN N x.ke,x.bounds⟩ else ⟨x.act,0,x.var,x.n,x.term,QN N x.yW,QN N x.ke,x.bounds⟩:=by cases x;simp only[skS]
theorem XQ(N:Nat)(x:Sp):∀l:List Sp,QN N (l++[x])=if x.act=2\/x.act=6 then QN N l else QN N l++[skS N x]
 |[]=>by simp only[Ql,QN]
 |y::l=>by
  simp only[QI,QN,XQ N x l];split<;>split<;>rfl
theorem KC(N:Nat)(hN:200<=N):∀(M:Nat)(l:List Sp),qM l<M->qM l<=100->z5c N M l=some ((QN N l).map Zg)/\qM (QN N l)<=qM l
 |0,l,h,_=>by omega
 |M+1,l,h,ht=>by
  have pB:=jN l;have r1:=vr;have key:zg (OL N (z5c N M) l) λr=>r=(QN N l).map Zg/\qM (QN N l)<=qM l:=by
   unfold OL;refine zg.up (λk o=>o=(QN N (l.take k)).map Zg/\qM (QN N (l.take k))<=qM (l.take k)) l.length ?_ ?_ N 0 (jF _) (by omega) _ ⟨rfl,yH _⟩
   ·rintro j s w hj ⟨rfl,qG⟩ hw;simp only[KD];have hm:=vK (gU hj);have he:=v8 l[j];have hp:=qn l[j].term;have hts:=xz hj;have htl:=WD l j;have D2:=jN (QN N (l.take j));rw[show decide ((j:Int)<len l)=true from zM hj,zB,zY hj];simp only[zK,Qw];rw[zy (by omega)];have YO:=XQ N l[j] (l.take j);rw[<-zl hj]at YO;by_cases hc:l[j].act=2\/l[j].act=6
    ·rw[show(decide (l[j].1=2)||decide (l[j].1=6))=true by simpa using hc,zB];rw[yX hc]at YO;exact hw _ ⟨by rw[YO],by rw[YO];omega⟩
    ·rw[show(decide (l[j].1=2)||decide (l[j].1=6))=false by simpa using hc,zP];rw[qW hc]at YO;obtain⟨a1,a2⟩:=KC N hN M l[j].yW (by omega) (by omega);obtain⟨b1,b2⟩:=KC N hN M l[j].ke (by omega) (by omega);rw[show f204 N (l[j].5.1,(l[j].5.2,(l[j].5.3,())))=_ from Aa N hN N l[j].term (by omega) (by omega),a1,b1];simp only[zK];have hz:=IV (x:=⟨l[j].act,0,l[j].var,l[j].n,l[j].term,QN N l[j].yW,QN N l[j].ke,l[j].bounds⟩) (VS _) (VS _);have hss:=zh3 N l[j];have hy:=v8 ⟨l[j].act,0,l[j].var,l[j].n,l[j].term,QN N l[j].yW,QN N l[j].ke,l[j].bounds⟩;simp only at hy;have fin:∀z,Xk z<=Xk l[j]->qM (QN N (l.take j)++[z])<=qM (l.take (j+1)):=λz hz=>by
      have:∀(a:List Sp),qM (a++[z])=qM a+Xk z:=λa=>by
       induction a with
       |nil=>simp[qM]
       |cons x a ih=>simp only[QI,qM,ih];omega
      rw[this];omega
     by_cases h4:l[j].act=4
     ·rw[yX h4]at hss;obtain⟨c1,c2⟩:=zjw N hN ⟨l[j].act,0,l[j].var,l[j].n,l[j].term,QN N l[j].yW,QN N l[j].ke,l[j].bounds⟩ (by omega);rw[ju h4,zB];refine zg.then (P:=λr=>r=_) (zg.of ((Jn (f282 N) hz).trans c1) rfl) λr hr=>?_
      subst hr;rw[zu (ju (by simp only[GZ];omega))];exact hw _ ⟨by rw[YO,hss,TU];rfl,by rw[YO];exact fin _ (by rw[hss];omega)⟩
     ·rw[qW h4]at hss;rw[ql h4,zP,zu (ju (by simp only[GZ];omega))];exact hw _ ⟨by rw[YO,hss,TU];exact Jn (λz=>(QN N (l.take j)).map Zg++[z]) hz,by rw[YO];exact fin _ (by rw[hss];omega)⟩
   ·rintro s w ⟨rfl,qG⟩;simp only[KD];rw[show decide (((l.length:Nat):Int)<len l)=false from zC _,zP];rw[G9]at qG⊢;exact zg.ret ⟨rfl,qG⟩
  obtain⟨r,hr,rfl,hs⟩:=key;exact⟨hr,hs⟩
theorem AT(N:Nat)(hN:200<=N):∀(M:Nat)(t:Tm),uA t<=M->uA t<=100->Iy N M (w7 t) (w7 t)=some true
 |0,t,h,_=>by have:=qn t;omega
 |M+1,t,h,ht=>by
  show OF N (Iy N M) (w7 t) (w7 t)=_;have qG:=gY t;have pB:=w6 t.kids;have e:f284 N (Iy N M) t.kids t.kids ()=some true:=by
   refine zg.eq ?_;unfold f284;rw[qR rfl,show(!true)=false from rfl,zP];refine zg.WW (λ_=>True) t.kids.length ?_ ?_ N 0 (jF _) (by omega) trivial
   ·rintro j w hj _ hw;simp only[UY];have hm:=w5 (gU hj);rw[show decide ((j:Int)<len t.kids)=true from zM hj,zB,zY hj,zK,zK];rw[show Iy N M (t.kids[j].1,(t.kids[j].2,(t.kids[j].3,()))) (t.kids[j].1,(t.kids[j].2,(t.kids[j].3,())))=_ from AT N hN M t.kids[j] (by omega) (by omega),zK,show(!true)=false from rfl,zP,zy (by omega)];exact hw trivial
   ·rintro w _;simp only[UY];rw[show decide (((t.kids.length:Nat):Int)<len t.kids)=false from zC _,zP];exact zg.ret rfl
  unfold OF;simp only[Uo,zB,zK,e]
theorem z5l(N:Nat)(l:List Int)(hl:l.length<N)(h2:l.length<=1000):f13 N l l=some true:=by
 refine zg.eq ?_;unfold f13;rw[qR rfl,show(!true)=false from rfl,zP];refine zg.WW (λ_=>True) l.length ?_ ?_ N 0 (jF _) (by omega) trivial
 ·rintro j w hj _ hw;simp only[Em];rw[show decide ((j:Int)<len l)=true from zM hj,zB,zY hj,zK,zK,qR rfl,show(!true)=false from rfl,zP,zy (by omega)];exact hw trivial
 ·rintro w _;simp only[Em];rw[show decide (((l.length:Nat):Int)<len l)=false from zC _,zP];exact zg.ret rfl
theorem AS(N:Nat)(hN:200<=N):∀(M:Nat)(l:List Sp),qM l<M->qM l<=100->OD N M l l ()=some true
 |0,l,h,_=>by omega
 |M+1,l,h,ht=>by
  show OE N (OD N M) l l ()=_;have pB:=jN l;refine zg.eq ?_;unfold OE;rw[qR rfl,show(!true)=false from rfl,zP];refine zg.WW (λ_=>True) l.length ?_ ?_ N 0 (jF _) (by omega) trivial
  ·rintro j w hj _ hw;simp only[KA];have hm:=vK (gU hj);have he:=v8 l[j];have hp:=qn l[j].term;rw[show decide ((j:Int)<len l)=true from zM hj,zB,zY hj,zK,zK];have e1:f206 N (l[j].5.1,(l[j].5.2,(l[j].5.3,()))) (l[j].5.1,(l[j].5.2,(l[j].5.3,())))=some true:=AT N hN N l[j].term (by omega) (by omega);have e:f210 N (OD N M) (Zg l[j]) (Zg l[j])=some true:=by
    unfold f210;simp only[Uo,zB,zK,e1,AS N hN M l[j].yW (by omega) (by omega),AS N hN M l[j].ke (by omega) (by omega),z5l N l[j].bounds (by omega) (by omega)]
   rw[show f210 N _ _ _=_ from e,zK,show(!true)=false from rfl,zP,zy (by omega)];exact hw trivial
  ·rintro w _;simp only[KA];rw[show decide (((l.length:Nat):Int)<len l)=false from zC _,zP];exact zg.ret rfl
theorem eqV(v:qU):P4 (.pair .str (.pair (.int .i64) (.pair (.int .i64) (.pair (.int .i64) (.pair (.int .i64) .unit))))) v v=true:=by simp[P4,jX]
theorem zcz(N:Nat)(hN:200<=N)(f:zX)(h1:f.1.length<=100)(h2:f.2.1.length<=100)(hh:∀h∈f.2.1,uA (Ps h.2.2.2.1)<=100)(hs:qM f.2.2.1<=100):f127 N f f=some true:=by
 have e1:f207 N f.1 f.1=some true:=by
  refine zg.eq ?_;unfold f207;rw[qR rfl,show(!true)=false from rfl,zP];refine zg.WW (λ_=>True) f.1.length ?_ ?_ N 0 (jF _) (by omega) trivial
  ·rintro j w hj _ hw;simp only[UB];rw[show decide ((j:Int)<len f.1)=true from zM hj,zB,zY hj,zK,zK,eqV,show(!true)=false from rfl,zP,zy (by omega)];exact hw trivial
  ·rintro w _;simp only[UB];rw[show decide (((f.1.length:Nat):Int)<len f.1)=false from zC _,zP];exact zg.ret rfl
 have e2:f208 N f.2.1 f.2.1 ()=some true:=by
  refine zg.eq ?_;unfold f208;rw[qR rfl,show(!true)=false from rfl,zP];refine zg.WW (λ_=>True) f.2.1.length ?_ ?_ N 0 (jF _) (by omega) trivial
  ·rintro j w hj _ hw;simp only[UA];have ht:=hh _ (gU hj);rw[show decide ((j:Int)<len f.2.1)=true from zM hj,zB,zY hj,zK,zK];have e3:f206 N (f.2.1[j].2.2.2.1.1,f.2.1[j].2.2.2.1.2) (f.2.1[j].2.2.2.1.1,f.2.1[j].2.2.2.1.2)=some true:=AT N hN N (Ps f.2.1[j].2.2.2.1) (by omega) (by omega);have e:f205 N f.2.1[j] f.2.1[j]=some true:=by
    unfold f205;simp only[Uo,zB,zK,e3]
   rw[e,zK,show(!true)=false from rfl,zP,zy (by omega)];exact hw trivial
  ·rintro w _;simp only[UA];rw[show decide (((f.2.1.length:Nat):Int)<len f.2.1)=false from zC _,zP];exact zg.ret rfl
 unfold f127;simp only[e1,e2,zK,zB,show f209 N f.2.2.1 f.2.2.1 ()=_ from AS N hN N f.2.2.1 (by omega) hs]
end
end Go.Kz
set_option linter.unusedVariables false
set_option linter.unusedSimpArgs false
namespace Go.Kz
abbrev wL:=Int×(Int×Unit)
def wR(l:List wL):Prop:=l≠[]/\l.length<=64/\(∀x∈l,0<=x.1/\x.1<=67108864/\1<=x.2.1/\x.2.1<=65536)/\∀(k:Nat)(h:k+1<l.length),(l[k]'(by omega)).1<l[k+1].1
def pw(l:List wL)(j:Nat):Int:=((l.take j).map λx=>x.2.1).sum
def pp(l:List wL)(j:Nat):Int:=((l.take j).map λx=>x.2.1*x.1).sum
theorem Dr{l:List wL}{j:Nat}(h:j<l.length):pw l (j+1)=pw l j+l[j].2.1:=by
 grind[pw,take_succ]
theorem E0{l:List wL}{j:Nat}(h:j<l.length):pp l (j+1)=pp l j+l[j].2.1*l[j].1:=by
 grind[pp,take_succ]
theorem NW(l:List wL):pw l 0=0:=by simp[pw]
theorem NK(l:List wL):pp l 0=0:=by simp[pp]
theorem wR.F3{l:List wL}(h:wR l){k:Nat}(hk:k<l.length):0<=l[k].1/\l[k].1<=67108864/\1<=l[k].2.1/\l[k].2.1<=65536:=h.2.2.1 _ (gU hk)
theorem wR.prod{l:List wL}(h:wR l){k:Nat}(hk:k<l.length):0<=l[k].2.1*l[k].1/\l[k].2.1*l[k].1<=4398046511104:=by
 obtain⟨h1,h2,h3,h4⟩:=h.F3 hk;refine⟨C4 (by omega) h1,?_⟩;have:=Z2f h4 h2 h1 (by omega);omega
theorem wR.zh1{l:List wL}(h:wR l){a b:Nat}(uN:a<=b)(hb:b<=l.length):
  0<=pw l b-pw l a/\pw l b-pw l a<=65536*((b:Int)-a)/\0<=pp l b-pp l a/\pp l b-pp l a<=4398046511104*((b:Int)-a):=by
 induction b with
 |zero=>grind
 |succ b ih=>
  by_cases he:a=b+1
  ·grind
  ·obtain⟨h1,h2,h3,h4⟩:=ih (by omega) (by omega);obtain⟨k1,k2,k3,k4⟩:=h.F3 (k:=b) (by omega);obtain⟨m1,m2⟩:=h.prod (k:=b) (by omega)
   grind[Dr,E0]
theorem wR.zun{l:List wL}(h:wR l){b:Nat}(hb:b<=l.length):0<=pw l b/\pw l b<=4194304/\0<=pp l b/\pp l b<=281474976710656:=by
 obtain⟨h1,h2,h3,h4⟩:=h.zh1 (jF b) hb;rw[NW,NK]at *;have:=h.2.1;omega
def jg(l:List wL)(h i:Nat):Int:=if h=i then 0 else (l.getD (i-1) (0,0,())).1*(pw l i-pw l h)-(pp l i-pp l h)
theorem zd2{l:List wL}(h:wR l):zg (f118 100000 l) λr=>r.1=l/\r.2.1.length=l.length+1/\r.2.2.1.length=l.length+1/\
  (∀j,j<=l.length->r.2.1[j]? = some (pw l j))/\(∀j,j<=l.length->r.2.2.1[j]? = some (pp l j)):=by
 have hl:=h.2.1;unfold f118 z5n;simp only[idC];rw[wM,zy (by omega)];have wi:((decide (0<=(l.length:Int)+1)&&decide ((l.length:Int)+1<=(l.length:Int)+1))&&decide ((l.length:Int)+1<=((room:Nat):Int)))=true:=by
  grind[room]
 refine zg.zo wi ?_;have e1:Int.toNat ((l.length:Int)+1)=l.length+1:=by omega
 rw[e1];refine zg.up (λk s=>s.1.length=l.length+1/\s.2.length=l.length+1/\(∀j,j<=k->s.2[j]? = some (pw l j))/\(∀j,j<=k->s.1[j]? = some (pp l j))) l.length ?_ ?_ 100000 0 (jF _) (by omega) _ ⟨by simp,by simp,λj hj=>?_,λj hj=>?_⟩
 ·rintro k ⟨o1,o3⟩ w hk ⟨h1,h3,hw3,hp1⟩ hw;simp only at h1 h3 hw3 hp1;simp only[Uf];rw[dlt hk];simp only[zB];refine zg.bind (zg.Ek hk ?_);rw[zy (by omega)];have e2:(k:Int)+1=((k+1:Nat):Int):=by omega
  rw[e2];refine zg.zo (jk (by omega)) (zg.bind (zg.Ek (by omega) (zg.zo (jk (by omega)) (zg.bind (zg.Ek (by omega) (zg.bind (zg.Ek (by omega) ?_)))))));refine zg.zo (jk (by omega)) (zg.bind (zg.Ek (by omega) (zg.zo (jk (by omega)) (zg.bind (zg.Ek (by omega) (zg.bind (zg.Ek (by omega) ?_)))))));have ew:o3[k]'(by omega)=pw l k:=by grind
  have ep:o1[k]'(by omega)=pp l k:=by grind
  rw[ew,ep,jv,jv];obtain⟨q1,q2,q3,q4⟩:=h.zun (b:=k) (by omega);obtain⟨k1,k2,k3,k4⟩:=h.F3 hk;obtain⟨m1,m2⟩:=h.prod hk
  grind[zx,Dr,E0]
 all_goals grind[Uf,zg.ret,NW,NK]
theorem D8{l:List wL}(h:wR l){a b:Nat}(uN:a<=b)(hb:b<=l.length)(t:Int)(h0:0<=t)(h1:t<=67108864):
  0<=t*(pw l b-pw l a)/\t*(pw l b-pw l a)<=281474976710656/\0<=pp l b-pp l a/\pp l b-pp l a<=281474976710656:=by
 obtain⟨s1,s2,s3,s4⟩:=h.zh1 uN hb;have hl:=h.2.1;have hx:pw l b-pw l a<=4194304:=by omega
 refine⟨C4 h0 s1,?_,s3,by omega⟩;have:=Z2f h1 hx s1 (by omega);omega
theorem zcp{l:List wL}(h:wR l){W P:List Int}(hW:∀j,j<=l.length->W[j]? = some (pw l j))(hP:∀j,j<=l.length->P[j]? = some (pp l j)){a b:Nat}(uN:a<=b)(hb:b<=l.length):
  f200 100000 (a:Int) (b:Int) l W P=some (jg l a b):=by
 have hl:=h.2.1;unfold f200 jg;by_cases he:a=b
 ·grind
 ·rw[qX (by omega),qW he,jJ (by omega) (by omega)];simp only[zP,U8];rw[hW b hb,hW a (by omega),hP b hb,hP a (by omega),uX (show b-1<l.length by omega)];simp only[zK];rw[FA,uX (show b-1<l.length by omega)];simp only[Z3m];obtain⟨k1,k2,_,_⟩:=h.F3 (k:=b-1) (by omega);obtain⟨g1,g2,g3,g4⟩:=D8 h uN hb _ k1 k2;obtain⟨s1,s2,s3,s4⟩:=h.zh1 uN hb
  grind[zx]
def Vu(f:Nat->Int):Nat->Int
 |0=>f 0
 |n+1=>k8 (Vu f n) (f (n+1))
theorem Wh(f:Nat->Int):(n h:Nat)->h<=n->Vu f n<=f h
 |0,h,hh=>by
  obtain rfl:h=0:=by omega
  exact Z23 _
 |n+1,h,hh=>by
  simp only[Vu,k8];by_cases he:h=n+1
  ·grind
  ·have:=Wh f n h (by omega);omega
theorem GS(f:Nat->Int):(n:Nat)->∃h,h<=n/\Vu f n=f h
 |0=>⟨0,yH _,rfl⟩
 |n+1=>by
  obtain⟨h,h1,h2⟩:=GS f n
  grind[Vu,k8]
def dp(c:Nat->Nat->Int):Nat->Nat->Int
 |0,i=>c 0 i
 |j+1,i=>Vu (λh=>dp c j h+c h i) i
theorem wR.mono{l:List wL}(h:wR l){a:Nat}:(b:Nat)->(uN:a<=b)->(hb:b<l.length)->(l[a]'(by omega)).1<=l[b].1
 |0,uN,hb=>by grind
 |b+1,uN,hb=>by
  by_cases he:a=b+1
  ·grind
  ·have h1:=h.mono (a:=a) b (by omega) (by omega);have h2:=h.2.2.2 b hb;omega
theorem wR.zet{l:List wL}(h:wR l){a b:Nat}(uN:a<b)(hb:b<l.length):(l[a]'(by omega)).1<l[b].1:=by
 have h1:=h.mono (a:=a+1) b (by omega) hb;have h2:=h.2.2.2 a (by omega);omega
theorem Xj{l:List wL}(h:wR l){a:Nat}{t:Int}:(b:Nat)->(uN:a<=b)->(hb:b<=l.length)->(∀(x:Nat)(hx:x<b),(l[x]'(by omega)).1<=t)->0<=t*(pw l b-pw l a)-(pp l b-pp l a)
 |0,uN,hb,_=>by grind
 |b+1,uN,hb,ht=>by
  by_cases he:a=b+1
  ·grind
  ·have ih:=Xj h (a:=a) b (by omega) (by omega) λx hx=>ht x (by omega)
   rw[Dr (by omega),E0 (by omega)];have h1:0<=l[b].2.1*(t-l[b].1):=by
    have:=ht b (by omega);have h3:=(h.F3 (k:=b) (by omega)).2.2.1;exact C4 (by omega) (by omega)
   grind[Int.mul_comm]
theorem Uy{l:List wL}{k:Nat}(h:k<l.length):l.getD k (0,0,())=l[k]:=by
 grind
theorem Kj(l:List wL)(a:Nat):jg l a a=0:=by simp[jg]
theorem zjh{l:List wL}{a b:Nat}(uN:a<b)(hb:b<=l.length):jg l a b=(l[b-1]'(by omega)).1*(pw l b-pw l a)-(pp l b-pp l a):=by
 grind[jg]
theorem pW{l:List wL}(h:wR l){a b:Nat}(uN:a<=b)(hb:b<=l.length):0<=jg l a b/\jg l a b<=281474976710656:=by
 by_cases he:a=b
 ·grind[Kj]
 ·rw[zjh (by omega) hb];obtain⟨k1,k2,_,_⟩:=h.F3 (k:=b-1) (by omega);obtain⟨g1,g2,g3,g4⟩:=D8 h uN hb _ k1 k2;have:=Xj h (t:=l[b-1].1) b uN hb λx hx=>h.mono (b-1) (by omega) (by omega)
  omega
theorem Kl{l:List wL}(h:wR l):(j i:Nat)->i<=l.length->0<=dp (jg l) j i/\dp (jg l) j i<=281474976710656
 |0,i,hi=>pW h (jF _) hi
 |j+1,i,hi=>by
  simp only[dp];obtain⟨x,h1,h2⟩:=GS (λh=>dp (jg l) j h+jg l h i) i;have h3:=Wh (λh=>dp (jg l) j h+jg l h i) i i (yH _);have:=Kl h j i hi;have h4:=Kl h j x (by omega);have h5:=pW h h1 hi
  grind[Kj]
def Dv(l:List wL):Nat->Nat->Int
 |0,i=>if i=0 then 0 else 1152921504606846976
 |j+1,i=>dp (jg l) j i
def rowOf(l:List wL)(j:Nat):List Int:=(List.range (l.length+1)).map (Dv l j)
def MR(l:List wL)(k:Nat):List (List Int):=(List.range (k+1)).map (rowOf l)
theorem JP{l:List wL}{j i:Nat}(hi:i<=l.length):(rowOf l j)[i]? = some (Dv l j i):=by
 grind[rowOf]
theorem Bv{l:List wL}{k j:Nat}(hj:j<=k):(MR l k)[j]? = some (rowOf l j):=by
 grind[MR]
theorem yU{I:Type}{l:List I}{k:Nat}{x:I}(h:l[k]? = some x):idx l (k:Int)=some x:=h
theorem jq{I:Type}{l:List I}{k:Nat}{x:I}(h:l[k]? = some x):jY l (k:Int)=true:=jk (Z32.1 h).1
def cel(l:List wL)(j i:Nat):Nat->Int
 |0=>1152921504606846976
 |k+1=>if j=1 then dp (jg l) 0 i else Vu (λh=>dp (jg l) (j-2) h+jg l h i) k
theorem zdb{l:List wL}{j i:Nat}(hj:1<=j):cel l j i (i+1)=Dv l j i:=by
 simp only[cel];by_cases h:j=1
 ·subst h;rfl
 ·rw[qW h];obtain⟨m,rfl⟩:∃m,j=m+2:=⟨j-2,by omega⟩;rfl
structure C7 (l:List wL) (r:List wL×(List Int×(List Int×Unit))):Prop where
 e:r.1=l
 W:∀j,j<=l.length->r.2.1[j]? = some (pw l j)
 P:∀j,j<=l.length->r.2.2.1[j]? = some (pp l j)
theorem Dy{l:List wL}(h:wR l):zg (f118 100000 l) (C7 l):=(zd2 h).mono λr hr=>⟨hr.1,hr.2.2.2.1,hr.2.2.2.2⟩
theorem C7.jg{l:List wL}(h:wR l){r:List wL×(List Int×(List Int×Unit))}(hr:C7 l r){a b:Nat}(uN:a<=b)(hb:b<=l.length):f200 100000 (a:Int) (b:Int) r.1 r.2.1 r.2.2.1=some (Go.Kz.jg l a b):=by
 rw[hr.e];exact zcp h hr.W hr.P uN hb
theorem zgu{R:Type}{Q:R->Prop}{l:List wL}(h:wR l){r:List wL×(List Int×(List Int×Unit))}(hr:C7 l r){j i:Nat}(hj:1<=j)(hj2:j<=64)(hi:i<=l.length){o0:List (List Int)}(ho:o0[j-1]? = some (rowOf l (j-1)))
  {base:List Int} (hb:base.length=l.length+1) (t17 t18 t26 t27:Int) {kx:List Int->Option R} (hk:zg (kx (base.set i (Dv l j i))) Q) :
  zg (iter (λw=>Jq 100000 (i:Int) r (j:Int) l t17 t18 t26 t27 (zz ((i:Int)+1)) o0 w kx) 100000 (0,qN base (i:Int) 1152921504606846976)) Q:=by
 have hl:=h.2.1;rw[jv];refine zg.up (λk row=>row=base.set i (cel l j i k)) (i+1) ?_ ?_ 100000 0 (jF _) (by omega) _ rfl
 ·rintro k row w Z5 rfl hw;have hlen:(base.set i (cel l j i k)).length=l.length+1:=by grind
  have wG:(base.set i (cel l j i k))[i]? = some (cel l j i k):=by
   grind
  simp only[Jq];rw[zy (show i<9223372036854775807 by omega),qR (show(k:Int)<(i:Int)+1 by omega)];simp only[zB];have hg:(cond (decide (1<(j:Int))) (some true) (some (decide ((k:Int)=0))))=some (decide (1<j)||decide (k=0)):=by
   grind[qX]
  rw[hg];simp only[zK];rw[zy (show k<9223372036854775807 by omega)];by_cases hgo:1<j\/k=0
  ·have:(decide (1<j)||decide (k=0))=true:=by grind
   rw[this];simp only[zB];have wy:(rowOf l (j-1))[k]? = some (Dv l (j-1) k):=JP (by omega);rw[jJ (by omega) (by omega)];rw[zu (jq wG),yU wG];simp only[zK];rw[zu (jq ho),yU ho];simp only[zK];rw[zu (jq wy),yU wy,hr.jg h (by omega) hi];simp only[zK];rw[zu (jq wG),jv,Z2z];refine hw _ ?_;congr 1;have hg2:=pW h (show k<=i by omega) hi;by_cases h1:j=1
   ·subst h1
    grind[cel,Dv,dp,zx,k8]
   ·obtain⟨m,rfl⟩:∃m,j=m+2:=⟨j-2,by omega⟩;have hd:=Kl h m k (by omega);have e1:Dv l (m+2-1) k=dp (jg l) m k:=rfl;rw[e1,zx (by omega) (by omega)]
    cases k with
    |zero=>
     grind[cel,Vu,k8]
    |succ k=>
     grind[cel,Vu]
  ·have:(decide (1<j)||decide (k=0))=false:=by
    grind
   rw[this];simp only[zP];refine hw _ ?_;congr 1;obtain rfl:j=1:=by omega
   cases k with
   |zero=>omega
   |succ k=>grind[cel]
 grind[Jq,zy,zdb]
theorem pN{I:Type}{l:List I}{n:Nat}{f:Nat->I}(hl:l.length=n)(h:∀x,x<n->l[x]? = some (f x)):l=(List.range n).map f:=by
 apply Z2o
 grind
theorem zmk{R:Type}{Q:R->Prop}{l:List wL}(h:wR l){r:List wL×(List Int×(List Int×Unit))}(hr:C7 l r){j:Nat}(hj2:j<=64){o0:List (List Int)}(ho:1<=j->o0[j-1]? = some (rowOf l (j-1)))
  (t17 t18:Int) {kx:List Int->Option R} (hk:∀row:List Int,row.length=l.length+1->(∀x,x<=l.length->row[x]? = some (if j=0 then 1152921504606846976 else Dv l j x))->zg (kx row) Q) :
  zg (iter (λw=>Kh 100000 r (j:Int) l t17 t18 (len (List.replicate (l.length+1) 0:List Int)) o0 w kx) 100000 (0,(List.replicate (l.length+1) 0:List Int))) Q:=by
 have hl:=h.2.1;refine zg.up (λk row=>row.length=l.length+1/\∀x,x<k->row[x]? = some (if j=0 then 1152921504606846976 else Dv l j x)) (l.length+1) ?_ ?_ 100000 0 (jF _) (by omega) _ ⟨by simp,λx hx=>by omega⟩
 ·rintro k row w Z5 ⟨h1,h2⟩ hw;simp only[Kh];rw[qR (by grind),zy (show k<9223372036854775807 by omega)];simp only[zB];rw[zu (jk (by omega)),zY (by omega)];simp only[zK];have ZE:∀v,v=(if j=0 then 1152921504606846976 else Dv l j k)->(row.set k v).length=l.length+1/\∀x,x<k+1->(row.set k v)[x]? = some (if j=0 then 1152921504606846976 else Dv l j x):=by
   grind
  by_cases h0:j=0
  ·grind[jv]
  ·rw[qX (by omega)];simp only[zP];have:=zgu h hr (j:=j) (i:=k) (by omega) hj2 (by omega) (ho (by omega)) h1 t17 t18 (len (List.replicate (l.length+1) 0:List Int)) (k:Int) (Q:=Q) (kx:=λo=>w ((k:Int)+1,o)) (hw _ (ZE _ (by omega)));rw[zy (show k<9223372036854775807 by omega)]at this;exact this
 grind[Kh]
theorem zd3{l:List wL}(h:wR l){k:Nat}(hk:k<=64):f117 100000 l (k:Int)=some (MR l k):=by
 have hl:=h.2.1;refine zg.eq ?_;unfold f117;refine zg.then (Dy h) λr hr=>?_
 rw[zy (show k<9223372036854775807 by omega)];have wi:((decide (0<=(k:Int)+1)&&decide ((k:Int)+1<=(k:Int)+1))&&decide ((k:Int)+1<=((room:Nat):Int)))=true:=by
  simp only[zA,ve];unfold room;omega
 rw[zu wi,show Int.toNat ((k:Int)+1)=k+1 from by omega];refine zg.up (λj o=>o.length=k+1/\∀y,y<j->o[y]? = some (rowOf l y)) (k+1) ?_ ?_ 100000 0 (jF _) (by omega) _ ⟨by simp,λy hy=>by omega⟩
 ·rintro j o w hj ⟨h1,h2⟩ hw;simp only[Uh];rw[qR (by rw[wM,Z2y];omega),wM l,zy (show l.length<9223372036854775807 by omega),zy (show j<9223372036854775807 by omega)];simp only[zB];have zik:((decide (0<=(l.length:Int)+1)&&decide ((l.length:Int)+1<=(l.length:Int)+1))&&decide ((l.length:Int)+1<=((room:Nat):Int)))=true:=by
   simp only[zA,ve];unfold room;omega
  rw[zu zik,show Int.toNat ((l.length:Int)+1)=l.length+1 from by omega];refine zmk h hr (j:=j) (by omega) (λh0=>h2 (j-1) (by omega)) _ _ λrow FK Bm=>?_
  have wE:∀v:List Int,v=rowOf l j->(o.set j v).length=k+1/\∀y,y<j+1->(o.set j v)[y]? = some (rowOf l y):=by
   intro v hv;refine⟨by simp[h1],λy hy=>?_⟩;rw[Z4o];by_cases he:j=y
   ·rw[yX he,yX (by omega),hv,he]
   ·rw[qW he];exact h2 y (by omega)
  by_cases h0:j=0
  ·rw[qR (by omega)];simp only[zB];refine zg.zo (jk (k:=0) (by omega)) ?_;refine zg.bind (zg.Ek (k:=0) (by omega) ?_);refine zg.bind (zg.Ek (k:=0) (by omega) ?_);rw[zu (jk (by omega)),zY (by omega)];simp only[zK];rw[jv];refine hw _ (wE _ ?_);rw[show qN row (0:Int) 0=row.set 0 0 from rfl];subst h0;refine pN (by simp[FK]) λx hx=>?_
   rw[Z4o];by_cases he:0=x
   ·rw[yX he,yX (by omega),<-he];rfl
   ·rw[qW he,Bm x (by omega),yX rfl];simp only[Dv];rw[qW (by omega)]
  ·rw[qX (by omega)];simp only[zP];rw[zu (jk (by omega)),zY (by omega)];simp only[zK];rw[jv];refine hw _ (wE _ ?_);refine pN FK λx hx=>?_
   rw[Bm x (by omega),qW h0]
 ·rintro o w ⟨h1,h2⟩;simp only[Uh];rw[qX (by rw[wM,Z2y];omega)];simp only[zP];exact zg.ret (pN h1 h2)
theorem Sc{l:List wL}(h:wR l):f116 100000 l=some 0:=by
 have hl:=h.2.1;have vg:0<l.length:=by
  rcases Z29 l.length with h0|h0
  ·exact absurd (T3 h0) h.1
  ·exact h0
 unfold f116;rw[qX (by rw[wM];omega),qX (by rw[wM];omega)];simp only[zP];refine zg.eq ?_;refine zg.WW (λ_=>True) l.length ?_ ?_ 100000 0 (jF _) (by omega) trivial
 ·rintro k w hk _ hw;simp only[Ui];rw[zM hk,zY hk];simp only[zB,zK];obtain⟨h1,h2,h3,h4⟩:=h.F3 hk;rw[qX (show ¬l[k].1<0 by omega),qX (show ¬67108864<l[k].1 by omega),qX (show ¬l[k].2.1<1 by omega),qX (show ¬65536<l[k].2.1 by omega)];simp only[zP,zK];rw[zy (by omega)];by_cases h0:0<k
  ·rw[qR (show(0:Int)<(k:Int) by omega),jJ h0 (by omega),zY (show k-1<l.length by omega)];simp only[zB,zK];have:=h.zet (a:=k-1) (b:=k) (by omega) hk;rw[qX (by omega)];simp only[zP];exact hw trivial
  ·rw[qX (show ¬(0:Int)<(k:Int) by omega)];simp only[zP,zK];exact hw trivial
 ·rintro w _;simp only[Ui];rw[zC];exact zg.ret rfl
def jf(c:Nat->Nat->Int):Nat->List Nat->Int
 |_,[]=>0
 |h,i::r=>c h i+jf c i r
def gX(n:Nat):Nat->List Nat->Prop
 |h,[]=>h=n
 |h,i::r=>h<=i/\i<=n/\gX n i r
theorem gX.le{n:Nat}:{h:Nat}->{l:List Nat}->gX n h l->h<=n
 |_,[],h=>Z2i h
 |_,_::_,h=>Z1n h.1 h.2.1
def Px:Nat->List Nat->Nat
 |h,[]=>h
 |_,i::r=>Px i r
theorem Jw(c:Nat->Nat->Int)(i:Nat):(l:List Nat)->(h:Nat)->jf c h (l++[i])=jf c h l+c (Px h l) i
 |[],h=>by simp[jf,Px]
 |j::l,h=>by
  simp only[QI,jf,Jw c i l j,Px];omega
theorem gX.snoc{n i:Nat}(hi:n<=i):{l:List Nat}->{h:Nat}->gX n h l->gX i h (l++[i])/\Px h l=n
 |[],h,hw=>by
  have hw:h=n:=hw;subst hw
  exact⟨⟨hi,yH _,rfl⟩,rfl⟩
 |j::l,h,hw=>by
  obtain⟨h1,h2,h3⟩:=hw;obtain⟨k1,k2⟩:=h3.snoc hi;exact⟨⟨h1,by omega,k1⟩,k2⟩
theorem IQ(c:Nat->Nat->Int):(j i:Nat)->∃A,gX i 0 A/\A.length=j+1/\jf c 0 A=dp c j i
 |0,i=>⟨[i],⟨jF _,yH _,rfl⟩,rfl,by simp[jf,dp]⟩
 |j+1,i=>by
  obtain⟨h,h1,h2⟩:=GS (λh=>dp c j h+c h i) i;obtain⟨A,hA,lA,cA⟩:=IQ c j h;obtain⟨k1,k2⟩:=hA.snoc h1;refine⟨A++[i],k1,by simp[lA],?_⟩;rw[Jw,k2,cA];simp only[dp];exact h2.symm
theorem IZ(c:Nat->Nat->Int):(j i:Nat)->(A:List Nat)->gX i 0 A->A.length=j+1->dp c j i<=jf c 0 A
 |0,i,A,hA,lA=>by
  match A,lA with
  |[x],_=>
   have:x=i:=hA.2.2;subst this
   simp[jf,dp]
 |j+1,i,A,hA,lA=>by
  have vg:A≠[]:=by intro h;subst h;simp at lA
  obtain⟨B,x,rfl⟩:∃B x,A=B++[x]:=⟨A.dropLast,A.getLast vg,(Z5o vg).symm⟩;have lB:B.length=j+1:=by simpa using lA
  have key:∀(B:List Nat)(h:Nat),gX i h (B++[x])->x=i/\Px h B<=i/\gX (Px h B) h B:=by
   intro B
   induction B with
   |nil=>
    intro h hw;have hw:h<=x/\x<=i/\x=i:=hw
    exact⟨hw.2.2,by simp only[Px];omega,rfl⟩
   |cons y B ih=>
    intro h hw;have hw:h<=y/\y<=i/\gX i y (B++[x]):=hw;obtain⟨e,k1,k2⟩:=ih y hw.2.2;exact⟨e,k1,hw.1,gX.le k2,k2⟩
  obtain⟨e,k1,k2⟩:=key B 0 hA;subst e;rw[Jw];have h1:=IZ c j _ B k2 lB;have h2:=Wh (λh=>dp c j h+c h x) x _ k1;have h5:dp c (j+1) x=Vu (λh=>dp c j h+c h x) x:=rfl;omega
theorem z5r{c:Nat->Nat->Int}{i:Nat}(h0:c i i=0)(j:Nat):dp c (j+1) i<=dp c j i:=by
 have:=Wh (λh=>dp c j h+c h i) i i (yH _);simp only[dp];simp only[h0]at this;omega
theorem R0{c:Nat->Nat->Int}{i:Nat}(h0:c i i=0){j:Nat}:{k:Nat}->j<=k->dp c k i<=dp c j i
 |0,h=>by
  obtain rfl:j=0:=by omega
  exact Z23 _
 |k+1,h=>by
  by_cases he:j=k+1
  ·subst he;exact Z23 _
  ·have:=R0 h0 (j:=j) (k:=k) (by omega);have:=z5r h0 k;omega
abbrev NV:Int:=1152921504606846976
def Z6(c:Nat->Nat->Int)(f:Nat->Int)(h:Nat):Nat->Int
 |0=>NV
 |m+1=>if f (h+m+1)<NV then k8 (Z6 c f h m) (c h (h+m+1)+f (h+m+1)) else Z6 c f h m
def ex(c:Nat->Nat->Int)(n:Nat):Nat->Nat->Int
 |0,h=>if h=n then 0 else NV
 |j+1,h=>Z6 c (ex c n j) h (n-h)
theorem As(c:Nat->Nat->Int)(f:Nat->Int)(h:Nat):(m:Nat)->Z6 c f h m<=NV
 |0=>Z23 _
 |m+1=>by
  have:=As c f h m;simp only[Z6];split
  ·unfold k8;split<;>omega
  ·exact this
theorem Oo{c:Nat->Nat->Int}{f:Nat->Int}{h:Nat}:(m x:Nat)->x<m->f (h+x+1)<NV->Z6 c f h m<=c h (h+x+1)+f (h+x+1)
 |m+1,x,hx,hf=>by
  simp only[Z6];by_cases he:x=m
  ·subst he;rw[yX hf];unfold k8;split<;>omega
  ·have:=Oo (c:=c) m x (by omega) hf;split
   ·unfold k8;split<;>omega
   ·exact this
theorem Ar{c:Nat->Nat->Int}{f:Nat->Int}{h:Nat}:(m:Nat)->Z6 c f h m<NV->∃x,x<m/\f (h+x+1)<NV/\c h (h+x+1)+f (h+x+1)=Z6 c f h m
 |0,qk=>by simp[Z6]at qk
 |m+1,qk=>by
  simp only[Z6]at qk⊢;by_cases hf:f (h+m+1)<NV
  ·rw[yX hf]at qk⊢;unfold k8 at qk⊢;by_cases hc:c h (h+m+1)+f (h+m+1)<Z6 c f h m
   ·rw[yX hc];exact⟨m,by omega,hf,rfl⟩
   ·rw[qW hc]at qk⊢;obtain⟨x,h1,h2,h3⟩:=Ar m qk;exact⟨x,by omega,h2,h3⟩
  ·rw[qW hf]at qk⊢;obtain⟨x,h1,h2,h3⟩:=Ar m qk;exact⟨x,by omega,h2,h3⟩
theorem MD{c:Nat->Nat->Int}{n j h:Nat}(qk:ex c n (j+1) h<NV):∃i,h<i/\i<=n/\ex c n j i<NV/\c h i+ex c n j i=ex c n (j+1) h:=by
 simp only[ex]at qk⊢;obtain⟨x,h1,h2,h3⟩:=Ar _ qk;exact⟨h+x+1,by omega,by omega,h2,h3⟩
theorem zra{c:Nat->Nat->Int}{n j h i:Nat}(h1:h<i)(h2:i<=n)(hf:ex c n j i<NV):ex c n (j+1) h<=c h i+ex c n j i:=by
 have:=Oo (c:=c) (f:=ex c n j) (h:=h) (n-h) (i-h-1) (by omega) (by rw[show h+(i-h-1)+1=i from by omega];exact hf);rw[show h+(i-h-1)+1=i from by omega]at this;exact this
def uZ(n:Nat):Nat->List Nat->Prop
 |h,[]=>h=n
 |h,i::r=>h<i/\i<=n/\uZ n i r
theorem uZ.z01{n:Nat}:{h:Nat}->{l:List Nat}->uZ n h l->gX n h l
 |_,[],h=>h
 |_,_::_,h=>⟨Z4p h.1,h.2.1,uZ.z01 h.2.2⟩
theorem uZ.len{n:Nat}:{h:Nat}->{l:List Nat}->uZ n h l->l.length+h<=n
 |_,[],h=>by have h:_=n:=h;simp;omega
 |_,i::r,h=>by have:=uZ.len h.2.2;have:=h.1;simp only[BF];omega
theorem PG{l:List wL}(hl:wR l):{h:Nat}->{A:List Nat}->gX l.length h A->0<=jf (jg l) h A/\jf (jg l) h A<=281474976710656*(A.length:Int)
 |_,[],_=>by simp[jf]
 |h,i::r,hw=>by
  have h1:=pW hl hw.1 hw.2.1;have h2:=PG hl hw.2.2;simp only[jf,BF];omega
def Wg(c:Nat->Nat->Int)(n:Nat):Nat->Nat->List Nat->Prop
 |0,h,[]=>h=n
 |j+1,h,i::r=>h<i/\i<=n/\(ex c n j i<NV/\c h i+ex c n j i=ex c n (j+1) h)/\(∀x,h<x->x<i->¬(ex c n j x<NV/\c h x+ex c n j x=ex c n (j+1) h))/\Wg c n j i r
 |_,_,_=>False
theorem PU{l:List wL}(hl:wR l){h:Nat}{A:List Nat}(hA:uZ l.length h A):jf (jg l) h A<NV:=by
 have h1:=PG hl hA.z01;have h2:=hA.len;have h3:=hl.2.1;unfold NV;omega
theorem Ik{l:List wL}(hl:wR l):{j h:Nat}->{A:List Nat}->uZ l.length h A->A.length=j->ex (jg l) l.length j h<=jf (jg l) h A
 |0,h,[],hA,_=>by
  have hA:h=l.length:=hA
  simp[ex,jf,hA]
 |j+1,h,i::r,hA,lA=>by
  have h1:=Ik hl hA.2.2 (j:=j) (by simpa using lA);have h2:=PU hl hA.2.2;have h3:=zra (c:=jg l) (n:=l.length) (j:=j) hA.1 hA.2.1 (by omega);simp only[jf]
  omega
 |0,h,_::_,_,lA=>by simp at lA
 |_+1,h,[],_,lA=>by simp at lA
theorem CV{c:Nat->Nat->Int}(h0:∀i,c i i=0){n:Nat}:{h:Nat}->{A:List Nat}->gX n h A->∃B,uZ n h B/\B.length<=A.length/\jf c h B=jf c h A
 |h,[],hA=>⟨[],hA,yH _,rfl⟩
 |h,i::r,hA=>by
  obtain⟨B,h1,h2,h3⟩:=CV h0 hA.2.2;by_cases he:h=i
  ·subst he;exact⟨B,h1,by simp;omega,by simp only[jf,h0,h3];omega⟩
  ·have:=hA.1;exact⟨i::B,⟨by omega,hA.2.1,h1⟩,by simp;omega,by simp only[jf,h3]⟩
structure T8 (l:List wL) (k g:Nat):Prop where
 pos:1<=g
 le:g<=k
 eq:dp (jg l) (g-1) l.length=dp (jg l) (k-1) l.length
 least:∀x,1<=x->x<g->dp (jg l) (x-1) l.length≠dp (jg l) (k-1) l.length
theorem T8.FU{l:List wL}{k g:Nat}(hg:T8 l k g){A:List Nat}(hA:uZ l.length 0 A)(h1:1<=A.length)(hk:A.length<=k):dp (jg l) (k-1) l.length<=jf (jg l) 0 A/\(jf (jg l) 0 A=dp (jg l) (k-1) l.length->g<=A.length):=by
 have h2:=IZ (jg l) (A.length-1) l.length A hA.z01 (by omega);have h3:=R0 (c:=jg l) (i:=l.length) (Kj l _) (j:=A.length-1) (k:=k-1) (by omega);refine⟨by omega,λhe=>?_⟩;by_cases qk:A.length<g
 ·exact absurd (by omega) (hg.least A.length h1 qk)
 ·omega
theorem T8.ex{l:List wL}(hl:wR l){k g:Nat}(hg:T8 l k g):ex (jg l) l.length g 0=dp (jg l) (k-1) l.length:=by
 have hn:0<l.length:=by
  rcases Z29 l.length with h0|h0
  ·exact absurd (T3 h0) hl.1
  ·exact h0
 have EY:=hg.pos;have hle:=hg.le;obtain⟨A,hA,lA,cA⟩:=IQ (jg l) (g-1) l.length;obtain⟨B,hB,lB,cB⟩:=CV (Kj l) hA;have hB1:1<=B.length:=by
  rcases Z29 B.length with h0|h0
  ·have:=T3 h0;subst this;have hB:0=l.length:=hB;omega
  ·exact h0
 have heq:=hg.eq;have h1:=(hg.FU hB hB1 (by omega)).2 (by omega);have h2:=Ik hl hB (j:=g) (by omega);have h3:=PU hl hB;have key:∀(j h:Nat),Go.Kz.ex (jg l) l.length j h<NV->h<=l.length->∃C,uZ l.length h C/\C.length=j/\jf (jg l) h C=Go.Kz.ex (jg l) l.length j h:=by
  intro j
  induction j with
  |zero=>
   intro h qk hh;simp only[Go.Kz.ex]at qk⊢;by_cases he:h=l.length
   ·exact⟨[],he,rfl,by simp[jf,he]⟩
   ·rw[qW he]at qk;exact absurd qk (by unfold NV;omega)
  |succ j ih=>
   intro h qk hh;obtain⟨i,k1,k2,k3,k4⟩:=MD qk;obtain⟨C,c1,c2,c3⟩:=ih i k3 k2;exact⟨i::C,⟨k1,k2,c1⟩,by simp[c2],by simp only[jf,c3,k4]⟩
 obtain⟨C,c1,c2,c3⟩:=key g 0 (by omega) (jF _);have h4:=(hg.FU c1 (by omega) (by omega)).1;omega
def uP(l:List wL)(j:Nat):List Int:=(List.range (l.length+1)).map (ex (jg l) l.length j)
theorem P2{l:List wL}{j i:Nat}(hi:i<=l.length):(uP l j)[i]? = some (ex (jg l) l.length j i):=by
 unfold uP;rw[Z2d,Z3z (by omega)];rfl
theorem Ao{l:List wL}(hl:wR l):(j h:Nat)->h<=l.length->0<=ex (jg l) l.length j h/\ex (jg l) l.length j h<=NV
 |0,h,hh=>by simp only[ex];split<;>(unfold NV;omega)
 |j+1,h,hh=>by
  have h1:=As (jg l) (ex (jg l) l.length j) h (l.length-h);refine⟨?_,h1⟩;by_cases qk:ex (jg l) l.length (j+1) h<NV
  ·obtain⟨i,k1,k2,k3,k4⟩:=MD qk;have h2:=Ao hl j i k2;have h3:=pW hl (Z4p k1) k2;omega
  ·unfold NV at qk;omega
theorem R7{R:Type}{Q:R->Prop}{l:List wL}(hl:wR l){r:List wL×(List Int×(List Int×Unit))}(hr:C7 l r){j h g:Nat}(hj:j<=g)(hg:g<=64)(hh:h<=l.length){T0:List (List Int)}(hT:T0.length=g+1)
  (Nd:1<=j->T0[j-1]? = some (uP l (j-1))) {base:List Int} (hb:base.length=l.length+1) (t9:List (List Int)) (t11 t12 t62 t63 t76 t77:Int) {kx:List (List Int)->Option R}
  (h0:Int) (hh0:h0=if j=0 then ex (jg l) l.length 0 h else NV) (hk:zg (kx (T0.set j (base.set h (ex (jg l) l.length j h)))) Q) :
  zg (iter (λw=>Qp 100000 (j:Int) (h:Int) r (l.length:Int) l t9 t11 t12 t62 t63 t76 t77 w kx) 100000 (zz ((h:Int)+1),T0.set j (base.set h h0))) Q:=by
 have hlen:=hl.2.1;rw[zy (show h<9223372036854775807 by omega),show(h:Int)+1=((h+1:Nat):Int) from by omega];by_cases hj0:j=0
 ·subst hj0;rw[yX rfl]at hh0;subst hh0;refine zg.first (by omega) λw=>?_
  simp only[Qp];rw[qX (show ¬(0:Int)<((0:Nat):Int) by omega)];simp only[zP,zK];exact hk
 ·rw[qW hj0]at hh0;subst hh0;obtain⟨m,rfl⟩:∃m,j=m+1:=⟨j-1,by omega⟩;have hp:=Nd (by omega);simp only[Z30]at hp;refine zg.up (λi T=>h+1<=i/\T=T0.set (m+1) (base.set h (Z6 (jg l) (ex (jg l) l.length m) h (i-(h+1))))) (l.length+1) ?_ ?_ 100000 (h+1) (by omega) (by omega) _ ⟨yH _,?_⟩
  ·rintro i T w hi ⟨hi0,rfl⟩ hw;have xX:i<=l.length:=by omega
   obtain⟨q,rfl⟩:∃q,i=h+q+1:=⟨i-(h+1),by omega⟩;have hq:h+q+1-(h+1)=q:=by omega
   rw[hq];have g0:(T0.set (m+1) (base.set h (Z6 (jg l) (ex (jg l) l.length m) h q)))[m]? = some (uP l m):=by
    rw[List.getElem?_set_ne (by omega)];exact hp
   have g1:(T0.set (m+1) (base.set h (Z6 (jg l) (ex (jg l) l.length m) h q)))[m+1]? = some (base.set h (Z6 (jg l) (ex (jg l) l.length m) h q)):=by
    rw[Z3p (by omega)]
   have g2:(base.set h (Z6 (jg l) (ex (jg l) l.length m) h q))[h]? = some (Z6 (jg l) (ex (jg l) l.length m) h q):=by
    rw[Z3p (by omega)]
   have g3:(uP l m)[h+q+1]? = some (ex (jg l) l.length m (h+q+1)):=P2 xX;simp only[Qp];rw[qR (show(0:Int)<((m+1:Nat):Int) by omega),qR (show((h+q+1:Nat):Int)<=(l.length:Int) by omega),jJ (show 0<m+1 by omega) (by omega),zy (by omega)];simp only[zB,zK,Z30];rw[zu (jq g0),yU g0];simp only[zK];rw[zu (jq g3),yU g3];simp only[zK];have hgr:=pW hl (show h<=h+q+1 by omega) xX;have hxr:=Ao hl m (h+q+1) xX;by_cases qk:ex (jg l) l.length m (h+q+1)<NV
   ·rw[qR qk];simp only[zB];rw[zu (jq g1),yU g1];simp only[zK];rw[zu (jq g1)];rw[zu (jq g2),yU g2];simp only[zK];rw[zu (jq g0)];rw[zu (jq g3)];rw[hr.jg hl (show h<=h+q+1 by omega) xX];simp only[zK];rw[zu (jq g2)];rw[jv,jv,Z2z,Z2z,zx (by unfold NV at qk;omega) (by unfold NV at qk;omega)];refine hw _ ⟨by omega,?_⟩;rw[show h+q+1+1-(h+1)=q+1 from by omega];simp only[Z6];rw[yX qk]
   ·rw[qX qk];simp only[zP];refine hw _ ⟨by omega,?_⟩;rw[show h+q+1+1-(h+1)=q+1 from by omega];simp only[Z6];rw[qW qk]
  ·rintro T w ⟨_,rfl⟩;simp only[Qp];rw[qR (show(0:Int)<((m+1:Nat):Int) by omega),qX (by omega)];simp only[zB,zP,zK];have:l.length+1-(h+1)=l.length-h:=by omega
   rw[this];exact hk
  ·simp[Z6]
theorem zde{R:Type}{Q:R->Prop}{l:List wL}(hl:wR l){r:List wL×(List Int×(List Int×Unit))}(hr:C7 l r){j g:Nat}(hj:j<=g)(hg:g<=64){T0:List (List Int)}(hT:T0.length=g+1)
  (Nd:1<=j->T0[j-1]? = some (uP l (j-1))) (t9:List (List Int)) (t11 t12 t62 t63:Int) {kx:List (List Int)->Option R}
  (hk:zg (kx (T0.set j (uP l j))) Q) :
  zg (iter (λw=>Kg 100000 (j:Int) r (l.length:Int) l t9 t11 t12 t62 t63 (len (List.replicate (l.length+1) 0:List Int)) w kx) 100000 (0,T0.set j (List.replicate (l.length+1) 0:List Int))) Q:=by
 have hlen:=hl.2.1;refine zg.up (λh T=>∃row:List Int,T=T0.set j row/\row.length=l.length+1/\∀x,x<h->row[x]? = some (ex (jg l) l.length j x)) (l.length+1) ?_ ?_ 100000 0 (jF _) (by omega) _ ⟨_,rfl,by simp,λx hx=>by omega⟩
 ·rintro h T w hh ⟨row,rfl,h1,h2⟩ hw;have g1:∀v:List Int,(T0.set j v)[j]? = some v:=λv=>by rw[Z3p (by omega)]
  simp only[Kg];rw[qR (show(h:Int)<len (List.replicate (l.length+1) 0:List Int) by rw[wM,Z2y];omega),zy (show h<9223372036854775807 by omega)];simp only[zB];rw[zu (jq (g1 row)),yU (g1 row)];simp only[zK];rw[zu (jk (by omega)),zY (show h<row.length by omega)];simp only[zK];rw[jv,jv,Z2z];have z4d:zg (w ((h:Int)+1,T0.set j (row.set h (ex (jg l) l.length j h)))) Q:=by
   refine hw _ ⟨_,rfl,by simp[h1],λx hx=>?_⟩;rw[Z4o];by_cases he:h=x
   ·rw[yX he,yX (by omega),he]
   ·rw[qW he];exact h2 x (by omega)
  by_cases hc:j=0/\h=l.length
  ·obtain⟨c1,c2⟩:=hc;have hb:(cond (decide ((j:Int)=0)) (some (decide ((h:Int)=(l.length:Int)))) (some false))=some true:=by
    rw[qR (by omega),qR (by omega)];rfl
   rw[hb];simp only[zK,zB];rw[zu (jq (g1 _)),yU (g1 _)];simp only[zK];have g2:(row.set h 1152921504606846976)[h]? = some 1152921504606846976:=by rw[Z3p (by omega)]
   rw[zu (jq g2),yU g2];simp only[zK];rw[jv,jv,Z2z,Z2z];have:=R7 hl hr hj hg (show h<=l.length by omega) hT Nd h1 t9 t11 t12 t62 t63 (len (List.replicate (l.length+1) 0:List Int)) (h:Int) (Q:=Q) (kx:=λo=>w ((h:Int)+1,o)) 0 (by rw[yX c1];simp[ex,c2]) z4d;rw[zy (show h<9223372036854775807 by omega)]at this;exact this
  ·have hb:(cond (decide ((j:Int)=0)) (some (decide ((h:Int)=(l.length:Int)))) (some false))=some false:=by
    by_cases c1:j=0
    ·rw[qR (by omega),qX (by omega)];rfl
    ·rw[qX (by omega)];rfl
   rw[hb];simp only[zK,zP];have:=R7 hl hr hj hg (show h<=l.length by omega) hT Nd h1 t9 t11 t12 t62 t63 (len (List.replicate (l.length+1) 0:List Int)) (h:Int) (Q:=Q) (kx:=λo=>w ((h:Int)+1,o)) 1152921504606846976 (by
    by_cases c1:j=0
    ·rw[yX c1];simp only[ex];rw[qW (by omega)]
    ·rw[qW c1]) z4d
   rw[zy (show h<9223372036854775807 by omega)]at this;exact this
 ·rintro T w ⟨row,rfl,h1,h2⟩;simp only[Kg];rw[qX (by rw[wM,Z2y];omega)];simp only[zP];have:row=uP l j:=pN h1 h2;rw[this];exact hk
theorem zdf{R:Type}{Q:R->Prop}{l:List wL}(hl:wR l){r:List wL×(List Int×(List Int×Unit))}(hr:C7 l r){g:Nat}(hg:g<=64)(t9:List (List Int))(t11 t12:Int){kx:List (List Int)->Option R}
  (hk:zg (kx ((List.range (g+1)).map (uP l))) Q) :
  zg (iter (λw=>JS 100000 r (l.length:Int) l t9 t11 t12 (len (List.replicate (g+1) ([]:List Int):List (List Int))) w kx) 100000 (0,(List.replicate (g+1) ([]:List Int):List (List Int)))) Q:=by
 have hlen:=hl.2.1;refine zg.up (λj T=>T.length=g+1/\∀y,y<j->T[y]? = some (uP l y)) (g+1) ?_ ?_ 100000 0 (jF _) (by omega) _ ⟨by simp,λy hy=>by omega⟩
 ·rintro j T w hj ⟨h1,h2⟩ hw;simp only[JS];rw[qR (by rw[wM,Z2y];omega),zy (show l.length<9223372036854775807 by omega),zy (show j<9223372036854775807 by omega)];simp only[zB];rw[zu (by simp only[zA,ve];unfold room;omega),show Int.toNat ((l.length:Int)+1)=l.length+1 from by omega];rw[zu (jk (by omega)),zY (show j<T.length by omega)];simp only[zK];rw[jv];have g1:(T.set j (List.replicate (l.length+1) 0:List Int))[j]? = some (List.replicate (l.length+1) 0:List Int):=by rw[Z3p (by omega)]
  rw[zu (jq g1),yU g1];simp only[zK];refine zde hl hr (j:=j) (g:=g) (by omega) hg h1 (λh0=>h2 (j-1) (by omega)) t9 t11 t12 _ _ (hw _ ⟨by simp[h1],λy hy=>?_⟩);rw[Z4o];by_cases he:j=y
  ·rw[yX he,yX (by omega),he]
  ·rw[qW he];exact h2 y (by omega)
 ·rintro T w ⟨h1,h2⟩;simp only[JS];rw[qX (by rw[wM,Z2y];omega)];simp only[zP];have:T=(List.range (g+1)).map (uP l):=pN h1 h2;rw[this];exact hk
def ends(l:List wL)(B:List Nat):List Int:=B.map λi=>(l.getD (i-1) (0,0,())).1
theorem zdd{R:Type}{Q:R->Prop}{l:List wL}(hl:wR l){r:List wL×(List Int×(List Int×Unit))}(hr:C7 l r){j h g:Nat}(hj:j+1<=g)(hg:g<=64)(hh:h<=l.length)(qk:ex (jg l) l.length (j+1) h<NV)
  (t9:List (List Int)) (t11:Int) (out:List Int) (ho:out.length<=64) {kx:Int->List Int->Option R}
  (hk:∀i,h<i->i<=l.length->ex (jg l) l.length j i<NV/\jg l h i+ex (jg l) l.length j i=ex (jg l) l.length (j+1) h->(∀x,h<x->x<i->¬(ex (jg l) l.length j x<NV/\jg l h x+ex (jg l) l.length j x=ex (jg l) l.length (j+1) h))->
   zg (kx (i:Int) (out++[(l.getD (i-1) (0,0,())).1])) Q) :
  zg (iter (λw=>Kk 100000 l r (l.length:Int) t9 t11 ((j+1:Nat):Int) (h:Int) ((List.range (g+1)).map (uP l)) out w kx) 100000 (zz ((h:Int)+1))) Q:=by
 have hlen:=hl.2.1;obtain⟨i0,e1,e2,e3⟩:=MD qk;have hhn:h+1<=l.length:=by omega
 rw[zy (show h<9223372036854775807 by omega),show(h:Int)+1=((h+1:Nat):Int) from by omega];refine zg.WW (λi=>h<i/\∀x,h<x->x<i->¬(ex (jg l) l.length j x<NV/\jg l h x+ex (jg l) l.length j x=ex (jg l) l.length (j+1) h)) i0 ?_ ?_ 100000 (h+1) (by omega) (by omega) ⟨by omega,λx h1 h2=>by omega⟩
 all_goals
  have rows:∀y,y<=g->((List.range (g+1)).map (uP l))[y]? = some (uP l y):=λy hy=>by
   rw[Z2d,Z3z (by omega)];rfl
  have step:∀(i:Nat)(w:Int->Option R),h<i->i<=l.length->(∀x,h<x->x<i->¬(ex (jg l) l.length j x<NV/\jg l h x+ex (jg l) l.length j x=ex (jg l) l.length (j+1) h))->
    (¬(ex (jg l) l.length j i<NV/\jg l h i+ex (jg l) l.length j i=ex (jg l) l.length (j+1) h)->zg (w ((i:Int)+1)) Q)->zg (Kk 100000 l r (l.length:Int) t9 t11 ((j+1:Nat):Int) (h:Int) ((List.range (g+1)).map (uP l)) out w kx (i:Int)) Q:=by
   intro i w Qe QC Mg hw;simp only[Kk];rw[qR (show(i:Int)<=(l.length:Int) by omega),jJ (show 0<j+1 by omega) (by omega),jJ (show 0<i by omega) (by omega),zy (show i<9223372036854775807 by omega)];simp only[zB,Z30];have g0:=rows j (by omega);have g1:=rows (j+1) (by omega);have g2:=P2 (l:=l) (j:=j) QC;have g3:=P2 (l:=l) (j:=j+1) hh;rw[zu (jq g0),yU g0];simp only[zK];rw[zu (jq g2),yU g2];simp only[zK];have hgr:=pW hl (Z4p Qe) QC;have hxr:=Ao hl j i QC;by_cases D4:ex (jg l) l.length j i<NV
   ·rw[qR D4];simp only[zB];rw[zu (jq g0)];rw[zu (jq g2)];rw[zu (jq g1),yU g1];simp only[zK];rw[zu (jq g3),yU g3];simp only[zK];rw[hr.jg hl (Z4p Qe) QC];simp only[zK];rw[zx (by unfold NV at D4;omega) (by unfold NV at D4;omega)];by_cases heq:jg l h i+ex (jg l) l.length j i=ex (jg l) l.length (j+1) h
    ·rw[qR heq];simp only[zB];rw[zY (show i-1<l.length by omega)];simp only[zK];rw[zu (ju (by unfold room;omega))];have:=hk i Qe QC ⟨D4,heq⟩ Mg;rw[Uy (by omega)]at this;exact this
    ·rw[qX heq];simp only[zP];exact hw λhc=>heq hc.2
   ·rw[qX D4];simp only[zP,zK];exact hw λhc=>D4 hc.1
 ·rintro i w hi ⟨Qe,hf⟩ hw;exact step i w Qe (by omega) hf λhn=>hw ⟨by omega,λx h1 h2=>by
   by_cases he:x=i
   ·subst he;exact hn
   ·exact hf x h1 (by omega)⟩
 ·rintro w ⟨_,hf⟩;exact step i0 w e1 e2 hf λhn=>absurd e3 hn
theorem R6{R:Type}{Q:R->Prop}{l:List wL}(hl:wR l){r:List wL×(List Int×(List Int×Unit))}(hr:C7 l r){g:Nat}(hg:g<=64)
  (t9:List (List Int)) (t11:Int) {kx:List Int->Option R}:(N j h:Nat)->j<N->j<=g->h<=l.length->(out:List Int)->out.length+j<=64->ex (jg l) l.length j h<NV->
  (∀B,Wg (jg l) l.length j h B->zg (kx (out++ends l B)) Q)->
  zg (iter (λw=>JR 100000 l r (l.length:Int) t9 t11 ((List.range (g+1)).map (uP l)) w kx) N ((j:Int),(h:Int),out)) Q
 |0,j,h,hN,_,_,_,_,_,_=>by omega
 |N+1,0,h,hN,hj,hh,out,ho,qk,hk=>by
  rw[iter];simp only[JR];rw[qX (show ¬(0:Int)<((0:Nat):Int) by omega)];simp only[zP];have hn:h=l.length:=by
   simp only[ex]at qk;by_cases he:h=l.length
   ·exact he
   ·rw[qW he]at qk;exact absurd qk (by unfold NV;omega)
  have:=hk [] hn
  simpa[ends]using this
 |N+1,j+1,h,hN,hj,hh,out,ho,qk,hk=>by
  rw[iter];simp only[JR];rw[qR (show(0:Int)<((j+1:Nat):Int) by omega)];simp only[zB];refine zdd hl hr hj hg hh qk t9 t11 out (by omega) λi h1 h2 h3 h4=>?_
  rw[jJ (show 0<j+1 by omega) (by omega),Z30];refine R6 hl hr hg t9 t11 N j i (by omega) (by omega) h2 _ (by simp;omega) h3.1 λB hB=>?_
  have:=hk (i::B) ⟨h1,h2,h3,h4,hB⟩;simpa[ends,PF]using this
structure z6y (l:List wL) (k g:Nat) (B:List Nat) (r:List Int×(Int×(List (List Int)×Int))):Prop where
 grps:T8 l k g
 q1k:Wg (jg l) l.length g 0 B
 eq:r=(ends l B,(dp (jg l) (k-1) l.length,(MR l k,0)))
theorem zjs{l:List wL}(hl:wR l){k:Nat}(Z5:1<=k)(hk:k<=32):zg (f42 100000 l (k:Int)) λr=>∃g B,z6y l k g B r:=by
 have hlen:=hl.2.1;have hn:0<l.length:=by
  rcases Z29 l.length with h0|h0
  ·exact absurd (T3 h0) hl.1
  ·exact h0
 unfold f42;rw[Sc hl];simp only[zK,Uo,Gu,zP];rw[qX (show ¬(k:Int)<1 by omega),qX (show ¬(32:Int)<(k:Int) by omega)];simp only[zP,zK];rw[zd3 hl (show k<=64 by omega)];simp only[zK];rw[yU (Bv (l:=l) (yH k))];simp only[zK];rw[wM l,yU (JP (l:=l) (j:=k) (yH _))];simp only[zK];obtain⟨m,rfl⟩:∃m,k=m+1:=⟨k-1,by omega⟩;have K8:∀x,1<=x->Dv l x l.length=dp (jg l) (x-1) l.length:=λx hx=>by
  obtain⟨y,rfl⟩:∃y,x=y+1:=⟨x-1,by omega⟩;rfl
 have fin:∀g,T8 l (m+1) g->zg
   ((f118 100000 l).bind λqi=>
     zo (((decide (0<=(zz ((g:Int)+1))))&&(decide ((zz ((g:Int)+1))<=(zz ((g:Int)+1)))))&&(decide ((zz ((g:Int)+1))<=((room:Nat):Int))))<|
     iter (λw=>JS 100000 qi (l.length:Int) l (MR l (m+1)) (Dv l (m+1) l.length) (g:Int) (len (List.replicate (Int.toNat (zz ((g:Int)+1))) ([]:List Int):List (List Int))) w
      (λXh=>
       iter (λw=>JR 100000 l qi (l.length:Int) (MR l (m+1)) (Dv l (m+1) l.length) Xh w
        (λxk=>
         zo (((decide (0<=(len xk)))&&(decide ((len xk)<=(len xk))))&&(decide ((len xk)<=(len xk))))<|
         some ((sub xk 0 (len xk)),((Dv l (m+1) l.length),((MR l (m+1)),(0:Int)))))) 100000 ((g:Int),0,([]:List Int)))) 100000 (0,(List.replicate (Int.toNat (zz ((g:Int)+1))) ([]:List Int):List (List Int))))
   λr=>∃g B,z6y l (m+1) g B r:=by
  intro g hg;have Pm:=hg.le;have hgp:=hg.pos;refine zg.then (Dy hl) λr hr=>?_
  rw[zy (show g<9223372036854775807 by omega),zu (by simp only[zA,ve];unfold room;omega),show Int.toNat ((g:Int)+1)=g+1 from by omega];refine zdf hl hr (by omega) _ _ _ ?_;have hx:=hg.ex hl;have hd:=Kl hl m l.length (yH _);refine R6 hl hr (g:=g) (by omega) _ _ 100000 g 0 (by omega) (yH _) (jF _) [] (by simp;omega) ?_ λB hB=>?_
  ·rw[hx,Z30];unfold NV;omega
  ·simp only[Ql];rw[zu (by simp[wM])];refine zg.ret ⟨g,B,hg,hB,?_⟩;have e1:sub (ends l B) 0 (len (ends l B))=ends l B:=by simp[sub,wM]
   rw[e1,K8 _ (by omega)]
 refine zg.WW (λg=>1<=g/\∀x,1<=x->x<g->dp (jg l) (x-1) l.length≠dp (jg l) m l.length) (m+1) ?_ ?_ 100000 1 (by omega) (by omega) ⟨yH _,λx h1 h2=>by omega⟩
 ·rintro g w hg ⟨h1,h2⟩ hw;simp only[Ug];rw[yU (Bv (l:=l) (show g<=m+1 by omega))];simp only[zK];rw[yU (JP (l:=l) (j:=g) (yH _))];simp only[zK];by_cases he:Dv l g l.length=Dv l (m+1) l.length
  ·rw[qR he];simp only[Gu,zP];refine fin g ⟨h1,by omega,?_,λx k1 k2=>?_⟩
   ·rw[K8 _ h1,K8 _ (by omega)]at he;exact he
   ·rw[Z30];exact h2 x k1 k2
  ·rw[qX he];simp only[Z40,zB];rw[zy (by omega)];refine hw ⟨by omega,λx k1 k2=>?_⟩;by_cases hx:x=g
   ·subst hx;rw[K8 _ h1,K8 _ (by omega)]at he;exact he
   ·exact h2 x k1 (by omega)
 ·rintro w ⟨h1,h2⟩;simp only[Ug];rw[yU (Bv (l:=l) (yH (m+1)))];simp only[zK];rw[yU (JP (l:=l) (j:=m+1) (yH _))];simp only[zK];simp only[Uo,Gu,zP];exact fin (m+1) ⟨h1,yH _,rfl,λx k1 k2=>by rw[Z30];exact h2 x k1 k2⟩
end Go.Kz
set_option linter.unusedVariables false
set_option linter.unusedSimpArgs false
namespace Go.Kz
structure Cz (N:Nat) (f:zX):Prop where
 wf:WF f
 zo:f66 N f=some 0
 size:qM f.2.2.1+pJ f.2.1<=80
 sec:zV (jA f.1 1)<=16
 pub:zV (jA f.1 2)<=4
 rnd:zV (jA f.1 3)<=4
 steps:(qw f.2.2.1).1<=400
theorem zju(N:Nat)(hN:200<=N)(f:zX):zg (f15 N f 16 4 4) λb=>b=true->Cz N f:=by
 unfold f15;refine zg.then (zjl N hN f) λr hr=>?_
 refine zg.then (P:=λb=>b=false->(WF f/\f66 N f=some 0)/\qM f.2.2.1+pJ f.2.1<=80) ?_ λb hb=>?_
 ·refine zg.cond (λ_=>zg.ret (by simp)) λh=>?_
  simp only[Mo]at h;obtain⟨c,hc,hw⟩:=zjk N hN f (hr h).1;rw[hc,zK];refine zg.ret λh0=>?_
  simp only[Mo,ve]at h0;exact⟨⟨hw h0,by rw[h0]⟩,(hr h).2⟩
 ·refine zg.cond (λ_=>zg.ret (by simp)) λh=>?_
  obtain⟨⟨hw,hc⟩,h80⟩:=hb h;have hv:=hw.vars;have p1:=hv.sec;have p2:=hv.pub;have p3:=hv.rnd;obtain⟨g1,g2,g3⟩:=hw.deep.FU;rw[Vt N hN hv.len hv.Z0 1 (by omega) p1,Vt N hN hv.len hv.Z0 2 (by omega) p2,Vt N hN hv.len hv.Z0 3 (by omega) (by omega)];rw[show f43 N f.2.2.1=_ from Kw N hN f N f.2.2.1 true (by omega) (by omega) hw.steps];simp only[zK,gP];refine zg.ret λhh=>?_
  simp only[zA,ve]at hh;exact⟨hw,hc,h80,hh.1.1.1,hh.1.1.2,hh.1.2,by omega⟩
def vX(f:zX)(s p r:Int):kz:=(PM (jA f.1 1) s (jA f.1 1).length,(PM (jA f.1 2) p (jA f.1 2).length,(PM (jA f.1 3) r (jA f.1 3).length,())))
theorem Ew{f:zX}(hv:u6 f.1)(s p r:Int):Zd f.1 (vX f s p r):=by
 intro k h1 h3;have e:k=1\/k=2\/k=3:=by omega
 rcases e with rfl|rfl|rfl<;>exact z07 (jT hv.Z0 _) _
theorem zd5(N:Nat)(hN:200<=N){f:zX}(h:Cz N f)(s p r:Int)(hs:0<=s/\s<zV (jA f.1 1))(hp:0<=p/\p<zV (jA f.1 2))(hr:0<=r/\r<zV (jA f.1 3)):f114 N f.1 s p r=some (vX f s p r,0):=by
 obtain⟨hw,_,_,h1,h2,h3,_⟩:=h;unfold f114;rw[MA N hN hw.vars 1 (by omega) (by omega) s hs.1 hs.2,MA N hN hw.vars 2 (by omega) (by omega) p hp.1 hp.2,MA N hN hw.vars 3 (by omega) (by omega) r hr.1 hr.2];rfl
theorem GM{f:zX}{l:List Sp}(h:Zk f false l):∀x∈l,x.act≠6:=by
 intro x hx h6;obtain⟨i,hi,rfl⟩:=Gz.1 hx;have:=((((gO ..).1 (gR h i hi)).1).1.set h6).1;simp at this
theorem NZ{c:Int}{t:Tm}{body:RS->RS}{o:Int}(hc:0<=c)(ho:0<=o)(hb:∀s,0<=s.time->s.time+o<=1000000000000->s.time<=(body s).time/\(body s).time<=s.time+o):
  ∀(n:Nat)(s:RS),0<=s.time->s.time+n*(c+o)<=1000000000000->s.time<=(QR c t body n s).time/\(QR c t body n s).time<=s.time+n*(c+o)
 |0,s,_,_=>by simp[QR]
 |n+1,s,h0,h1=>by
  have hn:(0:Int)<=n*(c+o):=C4 (by omega) (by omega);have e:((n+1:Nat):Int)*(c+o)=n*(c+o)+(c+o):=by rw[Z4l,Z44];simp
  rw[e]at h1⊢;simp only[QR];rw[zx (by omega) (by omega)];split
  ·simp only;omega
  ·obtain⟨a1,a2⟩:=hb ⟨s.vals,s.outs,s.time+c⟩ (by simp only;omega) (by simp only;omega);simp only at a1 a2;obtain⟨b1,b2⟩:=NZ (t:=t) hc ho hb n (body ⟨s.vals,s.outs,s.time+c⟩) (by omega) (by omega);omega
theorem XW(f:zX)(hs:List Int):∀(M:Nat)(l:List Sp)(top:Bool),qM l<M->Zk f top l->(∀x∈l,x.act≠6)->∀s,0<=s.time->s.time+(qw l).2.2<=1000000000000->s.time<=(vZ f hs l s).time/\(vZ f hs l s).time<=s.time+(qw l).2.2
 |0,l,_,h,_,_,_,_,_=>by omega
 |M+1,[],_,_,_,_,s,_,_=>by simp[vZ,qw]
 |M+1,x::l,top,h,zj,h6,s,h0,h1=>by
  simp only[qM]at h;have he:=v8 x;have hp:=qn x.term;simp only[Zk]at zj;obtain⟨q,qa,qb⟩:=(gO ..).1 zj.1;have hn:=GV f _ x zj.1;obtain⟨n1,n2,n3⟩:=kF f M l top (by omega) zj.2;obtain⟨a1,a2,a3⟩:=kF f M x.yW false (by omega) qa;obtain⟨b1,b2,b3⟩:=kF f M x.ke false (by omega) qb;have D6:=q.2.1.R3;have hx6:=h6 x (by simp);simp only[qw]at h1⊢;simp only[vZ];have hu:=Y1 x;have key:s.time<=(QO f hs x s).time/\(QO f hs x s).time<=s.time+(FQ x).2.2:=by
   rw[Zs];obtain⟨_,_,EJ⟩:=hn;by_cases e4:x.act=4
   ·rw[qW (by omega),qW (by omega),yX e4]at hu;rw[yX e4];have e:((x.n.toNat:Nat):Int)=x.n:=Z20 q.2.1.n0;have:=NZ (t:=x.term) (body:=λs=>vZ f hs x.yW s) D6 a3 (λs c1 c2=>XW f hs M x.yW false (by omega) qa (GM qa) s c1 c2) x.n.toNat s h0 (by rw[e];rw[hu]at h1;simp only at h1;omega);rw[e]at this;rw[hu];exact this
   rw[qW e4];have hw:∀c,(FQ x).2.2=x.cost+c->0<=c->zz (s.time+x.cost)=s.time+x.cost:=λc hc h0'=>zx (by omega) (by omega)
   by_cases e3:x.act=3
   ·rw[qW (by omega),yX e3]at hu;have hu2:=Jn (λz=>z.2.2) hu;simp only at hu2;rw[qW (by omega),qW (by omega),yX e3,hw _ hu2 (by omega)];split
    ·have:=XW f hs M x.ke false (by omega) qb (GM qb) ⟨s.vals,s.outs,s.time+x.cost⟩ (by simp only;omega) (by simp only;omega);simp only at this;omega
    ·have:=XW f hs M x.yW false (by omega) qa (GM qa) ⟨s.vals,s.outs,s.time+x.cost⟩ (by simp only;omega) (by simp only;omega);simp only at this;omega
   have hu2:(FQ x).2.2=x.cost+0:=by
    rw[hu];split
    ·simp
    ·simp
   have hwt:=hw _ hu2 (by omega);rw[qW e3,qW hx6];split
   ·simp only[hwt];omega
   split
   ·simp only[hwt];omega
   split
   ·simp only[hwt];omega
   ·simp only[hwt];omega
  obtain⟨_,_,EJ⟩:=hn;have:=XW f hs M l top (by omega) zj.2 (λy hy=>h6 y (by simp[hy])) (QO f hs x s) (by omega) (by omega);omega
def Open(f:zX):Prop:=∀x∈f.2.2.1,x.act≠6
theorem B5{f:zX}(h:WF f)(ho:Open f)(a:kz):0<=(jW f a).time/\(jW f a).time<=(qw f.2.2.1).2.2:=by
 have:=h.ub3;have:=XW f (AW f (Wu f.1 a f.1.length)) _ f.2.2.1 true (BV _) h.steps ho ⟨Wu f.1 a f.1.length,[],0⟩ (by simp) (by simp only;omega);simpa[jW]using this
structure TP (m:Nat) (l:List wL):Prop where
 F3:∀x∈l,0<=x.1/\x.1<=67108864/\1<=x.2.1/\x.2.1<=(m:Int)
 asc:(l.map (·.1)).Pairwise (· < ·)
 len:l.length<=m
theorem TP.set{m:Nat}{l:List wL}(h:TP m l){k:Nat}(hk:k<l.length):TP (m+1) (l.set k (l[k].1,(l[k].2.1+1,l[k].2.2))):=by
 refine⟨λx hx=>?_,?_,by rw[Z4q];have:=h.len;omega⟩
 ·rcases List.mem_or_eq_of_mem_set hx with hx|rfl
  ·have:=h.F3 x hx;omega
  ·have:=h.F3 _ (gU hk);simp only;omega
 ·have e:(l.map (·.1)).set k l[k].1=l.map (·.1):=by
   have:=Z4n (show k<(l.map (·.1)).length by simpa using hk)
   rwa [Rq]at this
  rw[List.map_set];simp only;rw[e];exact h.asc
theorem TP.ins{m:Nat}{l:List wL}(h:TP m l){k:Nat}(hk:k<=l.length){t:Int}(h0:0<=t)(h1:t<=67108864)(qk:∀x∈l.take k,x.1<t)(SD:∀x∈l.drop k,t<x.1):TP (m+1) (l.take k++(t,(1,()))::l.drop k):=by
 refine⟨λx hx=>?_,?_,by simp;have:=h.len;omega⟩
 ·rcases Gx.1 hx with hx|hx
  ·have:=h.F3 x (Z3g hx);omega
  ·rcases pF.1 hx with rfl|hx
   ·simp only;omega
   ·have:=h.F3 x (Z3n hx);omega
 ·have ha:=h.asc;rw[<-T4 k l,TU,Z5j]at ha;rw[TU,PE,Z5j,Z3j];refine⟨ha.1,⟨λy hy=>?_,ha.2.1⟩,λx hx y hy=>?_⟩
  ·obtain⟨z,hz,rfl⟩:=Z22.1 hy;exact SD z hz
  ·obtain⟨z,hz,rfl⟩:=Z22.1 hx;rcases pF.1 hy with rfl|hy
   ·exact qk z hz
   ·exact ha.2.2 _ hx _ hy
theorem zi9(l:List wL)(z x:wL){k:Nat}(hk:k<=l.length)(hl:l.length<=1000):qN (wo (l++[z]) (zz ((k:Int)+1)) (len (l++[z])) (sub (l++[z]) k (len (l++[z])))) (k:Int) x=l.take k++x::l.drop k:=by
 have e1:sub (l++[z]) (k:Int) (len (l++[z]))=l.drop k++[z]:=by
  simp only[sub,len,Z3f];rw[Z2p hk,Z1y (by simp;omega)]
 rw[zy (by omega),e1,jv];simp only[wo,len];have e2:((k:Int)+1).toNat=k+1:=by omega
 have e3:(((l++[z]).length:Int)-((k:Int)+1)).toNat=l.length-k:=by simp;omega
 have e4:Nat.min (l.drop k++[z]).length (l.length-k)=l.length-k:=Nat.min_eq_right (by simp);rw[e2,e3,e4,show(l++[z]).drop (k+1+(l.length-k))=[] from Lg (by simp;omega),DX,Z2q (show l.length-k<=(l.drop k).length by simp),Z1y (show(l.drop k).length<=l.length-k by simp)];have e5:(l++[z]).take (k+1)=l.take k++[(l++[z])[k]'(by simp;omega)]:=by
  rw[zl (by simp;omega),Z2q hk]
 rw[e5,PF,List.set_append_right _ _ (by simp;omega)];simp[Z4a hk]
theorem MU{R:Type}{Q:R->Prop}(N:Nat)(x0 x1 x2 x3 x4 x5 x6 x7 x8 x9:Int)(l:List wL)(hl:l.length<N)(h2:l.length<=1000)(f:zX)(o:List Int×(Int×Unit))(K:Int->Option R)
  (fin:∀k:Nat,k<=l.length->(∀x∈l.take k,x.1<o.2.1)->(∀hk:k<l.length,o.2.1<=l[k].1)->zg (K k) Q):zg (iter (λw=>Kp N x0 x1 x2 x3 x4 x5 x6 x7 x8 x9 l f o w K) N 0) Q:=by
 refine zg.WW (λk=>∀x∈l.take k,x.1<o.2.1) l.length ?_ ?_ N 0 (jF _) (by omega) (by simp)
 ·intro k w' hk qk QA;simp only[Kp];rw[show decide ((k:Int)<len l)=true from zM hk,zB,zu (jk hk),zY hk];simp only[zK];by_cases hc:l[k].1<o.2.1
  ·rw[ju hc,zB,zy (by omega)];refine QA λx hx=>?_
   rw[zl hk]at hx;rcases Gx.1 hx with hx|hx
   ·exact qk x hx
   ·simp only[II]at hx;rw[hx];exact hc
  ·rw[ql hc,zP];exact fin k (by omega) qk (λ_=>by omega)
 ·intro w' qk;simp only[Kp];rw[show decide (((l.length:Nat):Int)<len l)=false from zC _,zP,zK,zP];exact fin l.length (yH _) qk (λh=>by omega)
theorem MX{Q:List wL->Prop}(N:Nat)(hN:5000<=N){f:zX}(h:Cz N f)(ho:Open f)(s p:Int)(hs:0<=s/\s<zV (jA f.1 1))(hp:0<=p/\p<zV (jA f.1 2))(x0 x1 x2 x3 x4 x5:Int){kx:List wL->Option (List wL)}(m:Nat)(hm:m<=900)
  {R:Nat} (hR:zV (jA f.1 3)=(R:Int)) (hk:∀l,TP (m+R) l->(0<R->l≠[])->zg (kx l) Q) (l0:List wL) (h0:TP m l0) (hR4:R<=4):zg (iter (λw=>Ku N p s x0 x1 x2 x3 x4 x5 (R:Int) f w kx) N (0,l0)) Q:=by
 refine zg.up (λk l=>TP (m+k) l/\(0<k->l≠[])) R ?_ ?_ N 0 (jF _) (by omega) l0 ⟨h0,λh=>by omega⟩
 ·rintro r l w hr ⟨hl,_⟩ hw;simp only[Ku];rw[ju (show(r:Int)<R by omega),zB,zd5 N (by omega) h s p r hs hp ⟨by omega,by omega⟩,zK];rw[show f115 N f ((vX f s p r).1,(vX f s p r).2)=_ from zd4 N hN f h.wf h.zo (vX f s p r) (Ew h.wf.vars s p r),zK];obtain⟨t0,t1⟩:=B5 h.wf ho (vX f s p r);have ub:=h.wf.ub3;generalize jW f (vX f s p r)=es at *;have hlen:=hl.len;refine MU N _ _ _ _ _ _ _ _ _ _ l (by omega) (by omega) f (es.outs,(es.time,())) _ λk hk qk Pm=>?_
  simp only at qk Pm⊢;rw[zy (show r<9223372036854775807 by omega)];by_cases he:∃hk:k<l.length,l[k].1=es.time
  ·obtain⟨pB,he⟩:=he;rw[show decide ((k:Int)<len l)=true from zM pB,zB,zu (jk pB),zY pB];simp only[zK];have hx:=hl.F3 _ (gU pB);rw[ju he,zB,zu (jk pB),zu (jk pB),zx (by omega) (by omega),jv];exact hw _ ⟨hl.set pB,λ_ hn=>by have:=Jn List.length hn;simp at this;rw[this]at pB;simp at pB⟩
  ·have hb:(cond (decide ((k:Int)<len l)) (zo (jY l k) ((idx l k).bind λkN=>(idx l k).bind λuQ=>some (decide (uQ.1=es.time)))) (some false))=some false:=by
    by_cases pB:k<l.length
    ·rw[show decide ((k:Int)<len l)=true from zM pB,zB,zu (jk pB),zY pB];simp only[zK];rw[ql λe=>he ⟨pB,e⟩]
    ·rw[ql (by simp only[len];omega),zP]
   have SD:∀x∈l.drop k,es.time<x.1:=by
    intro x hx;by_cases pB:k<l.length
    ·have h1:=Pm pB;have h2:l[k].1≠es.time:=λe=>he ⟨pB,e⟩
     have ha:=hl.asc;rw[<-T4 k l,TU,Z5j]at ha;rw[<-Z4m pB]at hx ha;rcases pF.1 hx with rfl|hx
     ·omega
     ·have:l[k].1<x.1:=(Z3j.1 ha.2.1).1 x.1 (List.mem_map_of_mem hx);omega
    ·rw[Lg (by omega)]at hx;simp at hx
   rw[hb,zK,zP];have hie:=zi9 l (0,(0,())) (es.time,(1,())) hk (by omega);have hc:k<(wo (l++[(0,(0,()))]) (zz ((k:Int)+1)) (len (l++[(0,(0,()))])) (sub (l++[(0,(0,()))]) k (len (l++[(0,(0,()))])))).length:=by
    have:=Jn List.length hie;simp only[qN,Z4q]at this;rw[this];simp;omega
   rw[zu (ju (by unfold room;omega)),zu (by rw[zy (by omega)];simp[len];omega),zu (by simp[len];omega),zu (jk hc),zY hc,zK,zK,hie];exact hw _ ⟨hl.ins hk t0 (by omega) qk SD,λ_=>by simp⟩
 ·rintro l w ⟨hl,vg⟩;simp only[Ku];rw[ql (by omega),zP];exact hk l hl vg
theorem zjt(N:Nat)(hN:5000<=N){f:zX}(h:Cz N f)(ho:Open f):zg (f41 N f) λl=>TP 256 l/\l≠[]:=by
 have hv:=h.wf.vars;have g1:=h.sec;have g2:=h.pub;have g3:=h.rnd;have k1:=qh (jT hv.Z0 1);have k2:=qh (jT hv.Z0 2);have k3:=qh (jT hv.Z0 3);unfold f41;rw[Vt N (by omega) hv.len hv.Z0 1 (by omega) (by omega),Vt N (by omega) hv.len hv.Z0 2 (by omega) (by omega),Vt N (by omega) hv.len hv.Z0 3 (by omega) (by omega)];simp only[zK];obtain⟨S,hS⟩:=Mr (show 0<=zV (jA f.1 1) by omega);obtain⟨P,hP⟩:=Mr (show 0<=zV (jA f.1 2) by omega);obtain⟨R,hR⟩:=Mr (show 0<=zV (jA f.1 3) by omega);rw[hS,hP,hR];have mono:∀{a b:Nat}{l:List wL},a<=b->TP a l->TP b l:=λuN h=>⟨λx hx=>by have:=h.F3 x hx;omega,h.asc,Z1n h.len uN⟩
 refine zg.up (λs l=>TP (16*s) l/\(0<s->l≠[])) S ?_ ?_ N 0 (jF _) (by omega) _ ⟨⟨by simp,by simp,by simp⟩,λh=>by omega⟩
 ·rintro s l w hs ⟨hl,_⟩ hw;simp only[EO];rw[ju (show(s:Int)<S by omega),zB];refine zg.up (λp l=>TP (16*s+4*p) l/\(0<p->l≠[])) P ?_ ?_ N 0 (jF _) (by omega) _ ⟨hl,λh=>by omega⟩
  ·rintro p l w' hp ⟨hl,_⟩ QA;simp only[EN];rw[ju (show(p:Int)<P by omega),zB];refine MX N hN h ho s p ⟨by omega,by omega⟩ ⟨by omega,by omega⟩ _ _ _ _ _ _ (16*s+4*p) (by omega) hR (λl hl vg=>?_) l hl (by omega);rw[zy (by omega)];exact QA _ ⟨mono (by omega) hl,λ_=>vg (by omega)⟩
  ·rintro l w' ⟨hl,vg⟩;simp only[EN];rw[ql (by omega),zP,zy (by omega)];exact hw _ ⟨mono (by omega) hl,λ_=>vg (by omega)⟩
 ·rintro l w ⟨hl,vg⟩;simp only[EO];rw[ql (by omega),zP];exact zg.ret ⟨mono (by omega) hl,vg (by omega)⟩
theorem TP.load{l:List wL}(h:TP 256 l)(vg:l≠[])(hl:l.length<=64):wR l:=by
 refine⟨vg,hl,λx hx=>by have:=h.F3 x hx;omega,λk hk=>?_⟩;have:=Z5b.1 h.asc k (k+1) (by simp;omega) (by simpa using hk) (by omega);simpa using this
end Go.Kz
set_option linter.unusedVariables false
set_option linter.unusedSimpArgs false
namespace Go.Kz
def wB(bs:List Int):Sp:=⟨6,0,0,0,⟨0,0,[]⟩,[],[],bs⟩
def vf(f:zX)(bs:List Int):zX:=(f.1,(f.2.1,(f.2.2.1++[wB bs],())))
structure Cq (f:zX) (bs:List Int):Prop where
 za2:Ry bs
 len:bs.length<=8
 top:∀h:0<bs.length,bs[bs.length-1]<=(67108864:Int)/\(qw f.2.2.1).2.2<=bs[bs.length-1]
theorem CW(x:Sp):∀l:List Sp,qM (l++[x])=qM l+Xk x
 |[]=>by simp[qM]
 |y::l=>by simp only[QI,qM,CW x l];omega
theorem zao{f:zX}{bs:List Int}{last:Bool}{s:Sp}(h:zdu f last s):zdu (vf f bs) last s:=
 ⟨⟨h.1.zrq,h.1.zrp,h.1.var,h.1.zmg,h.1.n0,h.1.rel,h.1.zero,h.1.yW,h.1.ke,h.1.bnd,h.1.set⟩,h.2.1,h.2.2⟩
mutual
theorem Nj{f:zX}{bs:List Int}:∀(last:Bool)(s:Sp),stP f last s->stP (vf f bs) last s
 |last,⟨a,c,v,n,t,x,y,b⟩,h=>by
  simp only[stP]at h⊢;exact⟨zao h.1,DO false x h.2.1,DO false y h.2.2⟩
theorem DO{f:zX}{bs:List Int}:∀(top:Bool)(l:List Sp),Zk f top l->Zk (vf f bs) top l
 |_,[],_=>by simp only[Zk]
 |top,s::l,h=>by
  simp only[Zk]at h⊢;exact⟨Nj _ s h.1,DO top l h.2⟩
end
theorem Ra(vs:List qU):PI vs false ⟨0,0,[]⟩:=by
 refine⟨by simp[Gs,AJ,wD,Lk],(0,0),?_⟩;rw[Df];simp[BB,jP,okR]
theorem z00{N:Nat}{f:zX}(h:Cz N f)(ho:Open f){bs:List Int}(hb:Cq f bs):WF (vf f bs):=by
 obtain⟨hw,_,h80,_,_,_,h400⟩:=h;obtain⟨hr,hl,ht⟩:=hb;have hd:=hw.deep;obtain⟨g1,g2,g3⟩:=hd.FU;have hs:Xk (wB bs)=2+bs.length:=by rw[v8];simp[wB,gY,uz,qM]
 have hu:FQ (wB bs)=(1,0,0):=by rw[Y1];simp[wB]
 have vg:0<bs.length:=hr.one;refine⟨⟨⟨g1,g2,?_⟩,hd.zfl,hd.EP,?_,?_⟩,hw.vars,λi hi=>?_,?_,?_,?_,?_⟩
 ·show qM (f.2.2.1++[wB bs])+pJ f.2.1<=96;rw[CW,hs];omega
 ·show gT (f.2.2.1++[wB bs])<=12;rw[XV];have:=hd.steps;have e:Fi (wB bs)=1:=by rw[DT];simp[wB,gT]
  omega
 ·show Lw (f.2.2.1++[wB bs])=true;have:=hd.zek;rw[Um]at this⊢;rw[List.all_append,this];simp[MH,wB,DM,Zv,Lw]
 ·have:=hw.EP i hi;exact⟨this.name,this.new,this.Z0,this.term⟩
 ·show Zk (vf f bs) true (f.2.2.1++[wB bs]);refine Xw λi hi=>?_
  rw[WQ,Z3w]at hi;by_cases qk:i<f.2.2.1.length
  ·rw[Z4c qk];have h1:=Nj (bs:=bs) _ _ (gR hw.steps i qk);have h6:=ho _ (gU qk);have e:(true&&decide (i+1=(f.2.2.1++[wB bs]).length))=false:=by simp;omega
   rw[e];obtain⟨⟨q1,q2,q3⟩,q4⟩:=(gO ..).1 h1;exact(gO ..).2 ⟨⟨⟨q1.zrq,q1.zrp,q1.var,q1.zmg,q1.n0,q1.rel,q1.zero,q1.yW,q1.ke,q1.bnd,λh=>absurd h h6⟩,q2,q3⟩,q4⟩
  ·obtain rfl:i=f.2.2.1.length:=by omega
   rw[show(f.2.2.1++[wB bs])[f.2.2.1.length]=wB bs by simp];have e:(true&&decide (f.2.2.1.length+1=(f.2.2.1++[wB bs]).length))=true:=by simp
   rw[e];refine(gO ..).2 ⟨⟨⟨by simp[wB],by simp[wB],by simp[wB],λ_=>rfl,λ_=>rfl,by simp[wB],λ_=>by simp[wB,TO,len],λ_ _=>rfl,λ_=>rfl,λh=>absurd rfl h,λ_=>⟨rfl,hr⟩⟩,⟨by simp[wB],by simp[wB],λ_=>by simp[wB],by simp[wB],by simp[wB],λh=>(ht h).1⟩,Ra _⟩,by simp[wB,Zk],by simp[wB,Zk]⟩
 ·show(qw (f.2.2.1++[wB bs])).1<=4096;rw[um,hu];simp only;omega
 ·show(qw (f.2.2.1++[wB bs])).2.1<=8;have:=hw.ub2;rw[um,hu];simp only;omega
 ·show(qw (f.2.2.1++[wB bs])).2.2<=67108864;have:=hw.ub3;rw[um,hu];simp only;omega
theorem Xv(t:Int):∀(l:List Int)(s:Int×Bool),t<=s.1->t<=(l.foldl (VA t) s).1/\(l.foldl (VA t) s=s\/(l.foldl (VA t) s).1∈l)/\(s.2=true\/(∃x∈l,t<=x)->(l.foldl (VA t) s).2=true)
 |[],s,h=>by simp[h]
 |x::l,s,h=>by
  simp only[Z2c];by_cases hc:t<=x/\(s.2=false\/x<s.1)
  ·rw[show VA t s x=(x,true) from yX hc];obtain⟨a,b,c⟩:=Xv t l (x,true) hc.1;refine⟨a,.inr ?_,λ_=>c (.inl rfl)⟩;rcases b with b|b
   ·rw[b];simp
   ·exact TX _ b
  ·rw[show VA t s x=s from qW hc];obtain⟨a,b,c⟩:=Xv t l s h;refine⟨a,b.imp id (TX _),λhs=>c ?_⟩;rcases hs with hs|⟨y,hy,wu⟩
   ·exact .inl hs
   ·rcases pF.1 hy with rfl|hy
    ·left;cases h2:s.2
     ·exact absurd ⟨wu,.inl h2⟩ hc
     ·rfl
    ·exact .inr ⟨y,hy,wu⟩
theorem zh2{l:List Int}{t:Int}(h:∃x∈l,t<=x):t<=WC l t/\WC l t∈l:=by
 obtain⟨a,b,c⟩:=Xv t l (t,false) (Z23 _);refine⟨a,?_⟩;rcases b with b|b
 ·have:=c (.inr h);rw[b]at this;simp at this
 ·exact b
theorem Ju(f:zX)(bs:List Int)(hs:List Int):∀(M:Nat)(l:List Sp),qM l<M->∀s:RS,vZ (vf f bs) hs l s=vZ f hs l s
 |0,l,h,_=>by omega
 |M+1,[],_,s=>by simp only[vZ]
 |M+1,x::l,h,s=>by
  simp only[qM]at h;have he:=v8 x;have hp:=qn x.term;simp only[vZ];rw[Ju f bs hs M l (by omega)];congr 1;rw[Zs,Zs,show(λs=>vZ (vf f bs) hs x.yW s)=λs=>vZ f hs x.yW s from funext (Ju f bs hs M x.yW (by omega)),Ju f bs hs M x.yW (by omega),Ju f bs hs M x.ke (by omega)];rfl
theorem G6{f:zX}(h:WF f)(ho:Open f)(bs:List Int)(a:kz):jW (vf f bs) a={ jW f a with time:=WC bs (jW f a).time }:=by
 obtain⟨t0,t1⟩:=B5 h ho a;have:=h.ub3;have e:jW (vf f bs) a=QO f (AW f (Wu f.1 a f.1.length)) (wB bs) (jW f a):=(Ju f bs _ _ _ (BV _) _).trans (JG f _ f.2.2.1 (wB bs) _);rw[e,Zs];simp only[wB];simp only[Int.add_zero,zx (show -9223372036854775808<=(jW f a).time by omega) (by omega)];rfl
end Go.Kz
