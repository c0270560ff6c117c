/-
  Parts of abstract values in cells: read, replaced; states.
-/
import Derived.Test.YtmoggdcmpoobpaaGreatDoorKzE
set_option linter.unusedVariables false
set_option linter.unusedSimpArgs false
namespace Go.Kz
variable {R:Type}
theorem ZL{w:World}{g:z8}{z6:qZ}:{a:z7}->{p:Path}->{k:z7->Option R}->{r:R}->{cs:List Value}->
  jM w g z6 a cs->xQ a p k=some r->
  ∃a' off,k a'=some r/\a.sk.off p=some (off,a'.sk)/\jM w g z6 a' (qS cs off a'.sk.size)/\∀m,m∉a.ids->m∉a'.ids
 |a,[],k,r,cs,za,h=>by
  have hk:k a=some r:=by cases a<;>simpa[xQ]using h
  exact⟨a,0,hk,by simp[Sk.off],by rw[<-za.len,gx];exact za,λm hm=>hm⟩
 |.agg c,s::p,k,r,cs,za,h=>by
  simp only[xQ]at h
  exact ZL (a:=c) (show jM w g z6 c cs from za) h
 |.pr a b,.fst::p,k,r,cs,za,h=>by
  simp only[xQ]at h;obtain⟨c1,c2,rfl,h1,h2⟩:=za;obtain⟨a',off,hk,ho,hr,hi⟩:=ZL h1 h;have:=Sk.kZ ho;refine⟨a',off,hk,by simpa[z7.sk,Sk.off]using ho,?_,λm hm=>hi m (by simp[z7.ids]at hm;exact hm.1)⟩
  rw[yK _ _ _ _ (by rw[h1.len];exact this)];exact hr
 |.pr a b,.snd::p,k,r,cs,za,h=>by
  simp only[xQ]at h;obtain⟨c1,c2,rfl,h1,h2⟩:=za;obtain⟨a',off,hk,ho,hr,hi⟩:=ZL h2 h;refine⟨a',a.sk.size+off,hk,by simp[z7.sk,Sk.off,ho],?_,λm hm=>hi m (by simp[z7.ids]at hm;exact hm.2)⟩
  rw[yD _ _ _ _ _ h1.len.symm];exact hr
 |.data t d,s::p,k,r,cs,za,h=>by
  have h':zb t d (s::p) (λu e=>k (.data u e))=some r:=by cases s<;>simpa[xQ]using h
  obtain⟨u,e,off,hk,hu,ho,hr⟩:=ZH za.1 za.2 h'
  exact⟨.data u e,off,hk,by simpa[z7.sk]using ho,⟨hu,by simpa[z7.sk,Ty.zW]using hr⟩,λm _=>by simp[z7.ids]⟩
 |.zi,s::_,_,_,_,_,h=>by cases s<;>simp[xQ]at h
 |.ref _ _ _,s::_,_,_,_,_,h=>by cases s<;>simp[xQ]at h
 |.view _ _ _ _ _,s::_,_,_,_,_,h=>by cases s<;>simp[xQ]at h
 |.zq _ _,s::_,_,_,_,_,h=>by cases s<;>simp[xQ]at h
 |.va _ _ _,s::_,_,_,_,_,h=>by cases s<;>simp[xQ]at h
 |.qV _,s::_,_,_,_,_,h=>by cases s<;>simp[xQ]at h
 |.nv _ _ _ _,s::_,_,_,_,_,h=>by cases s<;>simp[xQ]at h
 |.qP _ _,s::_,_,_,_,_,h=>by cases s<;>simp[xQ]at h
 |.jS _,s::_,_,_,_,_,h=>by cases s<;>simp[xQ]at h
 |.un,s::_,_,_,_,_,h=>by cases s<;>simp[xQ]at h
 |.pr _ _,.idx _::_,_,_,_,_,h=>by simp[xQ]at h
theorem Zm{w:World}{g:z8}{z6:qZ}:{t:Ty}->{d:t.den}->{cs:List Value}->t.zG=true->zN w g none t d cs->
  (jj t d).sk=t.sk->jM w g z6 (jj t d) cs
 |.pair a b,(x,y),cs,ht,h,hs=>by
  obtain⟨c1,c2,rfl,h1,h2⟩:=h;simp only[Ty.zG,zA]at ht;simp only[jj,z7.sk,Ty.sk,Sk.pair.injEq,Ur]at hs
  exact⟨c1,c2,rfl,⟨ht.1,h1⟩,Zm ht.2 h2 hs⟩
 |.unit,_,cs,_,h,_=>h
 |.int _,_,_,_,_,hs=>by simp[jj,z7.sk,Ty.sk]at hs
 |.bool,_,_,_,_,hs=>by simp[jj,z7.sk,Ty.sk]at hs
 |.str,_,_,_,_,hs=>by simp[jj,z7.sk,Ty.sk]at hs
 |.arr _ _,_,_,_,_,hs=>by simp[jj,z7.sk,Ty.sk]at hs
 |.sl _ _,_,_,_,_,hs=>by simp[jj,z7.sk,Ty.sk]at hs
 |.ptr _,_,_,_,_,hs=>by simp[jj,z7.sk,Ty.sk]at hs
 |.fn _ _,_,_,_,_,hs=>by simp[jj,z7.sk,Ty.sk]at hs
 |.tree _,_,_,_,_,hs=>by simp[jj,z7.sk,Ty.sk]at hs
 |.mp _,_,_,_,_,hs=>by simp[jj,z7.sk,Ty.sk]at hs
theorem VB:(t:Ty)->(d:t.den)->(jj t d).ids=[]
 |.pair a b,(x,y)=>by simp[jj,z7.ids,VB b y]
 |.int _,_=>by simp[jj,z7.ids]
 |.bool,_=>by simp[jj,z7.ids]
 |.str,_=>by simp[jj,z7.ids]
 |.unit,_=>by simp[jj,z7.ids]
 |.arr _ _,_=>by simp[jj,z7.ids]
 |.sl _ _,_=>by simp[jj,z7.ids]
 |.ptr _,_=>by simp[jj,z7.ids]
 |.fn _ _,_=>by simp[jj,z7.ids]
 |.tree _,_=>by simp[jj,z7.ids]
 |.mp _,_=>by simp[jj,z7.ids]
theorem VC(c1 c2 C0:List Value)(h:C0.length=c1.length):zD (c1++c2) 0 C0=C0++c2:=by
 simp only[zD,Z1z,Ql,QK,h,List.drop_left]
theorem Zo{w:World}{g:z8}{z6:qZ}{new:z7}{C0:List Value}(hn:jM w g z6 new C0):
  {t:Ty}->{d:t.den}->{p:Path}->{k:z7->Option R}->{r:R}->{cs:List Value}->{off:Nat}->
  t.zG=true->zN w g none t d cs->t.sk.off p=some (off,new.sk)->jV new t d p k=some r->
  ∃u,k u=some r/\(∀m,m∉new.ids->m∉u.ids)/\(u.sk=t.sk->jM w g z6 u (zD cs off C0))
 |.pair a b,(x,y),[.fst],k,r,cs,off,ht,h,ho,hk=>by
  obtain⟨c1,c2,rfl,h1,h2⟩:=h;simp only[Ty.zG,zA]at ht;simp only[Ty.sk,Sk.off,zI,pv]at ho;obtain⟨rfl,hs⟩:=ho;refine⟨_,hk,λm hm=>by simp[z7.ids,VB,hm],λhe=>?_⟩;simp only[z7.sk,Ty.sk,Sk.pair.injEq]at he;rw[VC _ _ _ (by rw[hn.len,h1.len,<-hs,Ty.zW])]
  exact⟨C0,c2,rfl,hn,Zm ht.2 h2 he.2⟩
 |.pair a b,(x,y),.fst::s::p,k,r,cs,off,ht,h,ho,hk=>by
  obtain⟨c1,c2,rfl,h1,h2⟩:=h;simp only[Ty.zG,zA]at ht;simp only[Ty.sk,Sk.off]at ho;simp only[jV]at hk;obtain⟨u,hu,hi,za⟩:=Zo hn ht.1 h1 ho hk;refine⟨_,hu,λm hm=>by simp[z7.ids,VB,hi m hm],λhe=>?_⟩;simp only[z7.sk,Ty.sk,Sk.pair.injEq]at he;have:=Sk.kZ ho;rw[Ty.zW]at this;rw[wV _ _ _ _ (by rw[h1.len,hn.len];exact this)]
  exact⟨_,c2,rfl,za he.1,Zm ht.2 h2 he.2⟩
 |.pair a b,(x,y),.snd::p,k,r,cs,off,ht,h,ho,hk=>by
  obtain⟨c1,c2,rfl,h1,h2⟩:=h;simp only[Ty.zG,zA]at ht;simp only[Ty.sk,Sk.off,wO,pv]at ho;obtain⟨⟨o,s⟩,ho,rfl,rfl⟩:=ho;have U9:jV new b y p (λu=>k (.pr (.data a x) u))=some r:=by simpa[jV]using hk
  obtain⟨u,hu,hi,za⟩:=Zo hn ht.2 h2 ho U9;refine⟨_,hu,λm hm=>by simp[z7.ids,hi m hm],λhe=>?_⟩;simp only[z7.sk,Ty.sk,Sk.pair.injEq]at he;rw[vo _ _ _ _ _ (by rw[h1.len,Ty.zW])]
  exact⟨c1,_,rfl,⟨ht.1,h1⟩,za he.2⟩
 |.pair _ _,_,[],_,_,_,_,_,_,_,hk=>by simp[jV]at hk
 |.pair _ _,_,.idx _::_,_,_,_,_,_,_,_,hk=>by simp[jV]at hk
 |.int _,_,_,_,_,_,_,_,_,_,hk=>by simp[jV]at hk
 |.bool,_,_,_,_,_,_,_,_,_,hk=>by simp[jV]at hk
 |.str,_,_,_,_,_,_,_,_,_,hk=>by simp[jV]at hk
 |.unit,_,_,_,_,_,_,_,_,_,hk=>by simp[jV]at hk
 |.arr _ _,_,_,_,_,_,_,_,_,_,hk=>by simp[jV]at hk
 |.sl _ _,_,_,_,_,_,_,_,_,_,hk=>by simp[jV]at hk
 |.ptr _,_,_,_,_,_,_,_,_,_,hk=>by simp[jV]at hk
 |.fn _ _,_,_,_,_,_,_,_,_,_,hk=>by simp[jV]at hk
 |.tree _,_,_,_,_,_,_,_,_,_,hk=>by simp[jV]at hk
 |.mp _,_,_,_,_,_,_,_,_,_,hk=>by simp[jV]at hk
theorem Y8{w:World}{g:z8}{z6:qZ}{new:z7}{C0:List Value}(hn:jM w g z6 new C0):
  {a:z7}->{p:Path}->{k:z7->Option R}->{r:R}->{cs:List Value}->{off:Nat}->
  jM w g z6 a cs->a.sk.off p=some (off,new.sk)->xq new a p k=some r->
  ∃a',k a'=some r/\a'.sk=a.sk/\jM w g z6 a' (zD cs off C0)/\∀m,m∉a.ids->m∉new.ids->m∉a'.ids
 |a,[],k,r,cs,off,za,ho,h=>by
  have hk:k new=some r:=by cases a<;>simpa[xq]using h
  simp only[Sk.off,zI,pv]at ho;obtain⟨rfl,hs⟩:=ho;have:zD cs 0 C0=C0:=by
   simp only[zD,Z1z,Ql,QK];rw[hn.len,<-hs,<-za.len];simp
  exact⟨new,hk,hs.symm,by rw[this];exact hn,λm _ h=>h⟩
 |.agg c,s::p,k,r,cs,off,za,ho,h=>by
  simp only[xq]at h;obtain⟨a',hk,hs,hr,hi⟩:=Y8 hn (a:=c) (show jM w g z6 c cs from za) ho h
  exact⟨.agg a',hk,hs,hr,hi⟩
 |.pr a b,.fst::p,k,r,cs,off,za,ho,h=>by
  simp only[xq]at h;obtain⟨c1,c2,rfl,h1,h2⟩:=za;have Pf:a.sk.off p=some (off,new.sk):=by simpa[z7.sk,Sk.off]using ho
  obtain⟨a',hk,hs,hr,hi⟩:=Y8 hn h1 Pf h;have:=Sk.kZ Pf;refine⟨.pr a' b,hk,by simp[z7.sk,hs],?_,λm hm hn=>by simp[z7.ids]at hm⊢;exact⟨hi m hm.1 hn,hm.2⟩⟩;rw[wV _ _ _ _ (by rw[h1.len,hn.len];exact this)]
  exact⟨_,_,rfl,hr,h2⟩
 |.pr a b,.snd::p,k,r,cs,off,za,ho,h=>by
  simp only[xq]at h;obtain⟨c1,c2,rfl,h1,h2⟩:=za;simp only[z7.sk,Sk.off,wO,pv]at ho;obtain⟨⟨o,s⟩,ho,rfl,rfl⟩:=ho;obtain⟨a',hk,hs,hr,hi⟩:=Y8 hn h2 ho h;refine⟨.pr a a',hk,by simp[z7.sk,hs],?_,λm hm hn=>by simp[z7.ids]at hm⊢;exact⟨hm.1,hi m hm.2 hn⟩⟩;rw[vo _ _ _ _ _ h1.len.symm]
  exact⟨_,_,rfl,h1,hr⟩
 |.data t d,s::p,k,r,cs,off,za,ho,h=>by
  have h':cond (MW t (s::p) new) (LA new t d (s::p) k)
   (jV new t d (s::p) λu=>cond (u.sk.same t.sk) (k (.agg u)) none)=some r:=by cases s<;>simpa[xq]using h
  cases hf:MW t (s::p) new with
  |true=>
   rw[hf]at h'
   cases new with
   |data u e=>
    obtain⟨d',VF,hk,Pf,hr⟩:=Zu za.1 za.2 hn.2 h';simp only[z7.sk]at ho;rw[Pf]at ho;simp only[zI,pv]at ho;obtain⟨rfl,_⟩:=ho
    exact⟨_,hk,rfl,⟨za.1,hr⟩,λm _ _=>by simp[z7.ids]⟩
   |_=>simp[LA]at h'
  |false=>
   rw[hf]at h';obtain⟨u,hu,hi,K4⟩:=Zo hn za.1 za.2 (by simpa[z7.sk]using ho) h'
   cases hs:u.sk.same t.sk with
   |true=>
    rw[hs]at hu
    exact⟨.agg u,hu,Sk.qQ hs,K4 (Sk.qQ hs),λm _ hm=>hi m hm⟩
   |false=>rw[hs]at hu;simp at hu
 |.zi,s::_,_,_,_,_,_,_,h=>by cases s<;>simp[xq]at h
 |.ref _ _ _,s::_,_,_,_,_,_,_,h=>by cases s<;>simp[xq]at h
 |.view _ _ _ _ _,s::_,_,_,_,_,_,_,h=>by cases s<;>simp[xq]at h
 |.zq _ _,s::_,_,_,_,_,_,_,h=>by cases s<;>simp[xq]at h
 |.va _ _ _,s::_,_,_,_,_,_,_,h=>by cases s<;>simp[xq]at h
 |.qV _,s::_,_,_,_,_,_,_,h=>by cases s<;>simp[xq]at h
 |.nv _ _ _ _,s::_,_,_,_,_,_,_,h=>by cases s<;>simp[xq]at h
 |.qP _ _,s::_,_,_,_,_,_,_,h=>by cases s<;>simp[xq]at h
 |.jS _,s::_,_,_,_,_,_,_,h=>by cases s<;>simp[xq]at h
 |.un,s::_,_,_,_,_,_,_,h=>by cases s<;>simp[xq]at h
 |.pr _ _,.idx _::_,_,_,_,_,_,_,h=>by simp[xq]at h
end Go.Kz
namespace Go.Kz
def yI(w:World)(g:z8)(kt vt:Ty):List MapEntry->List (kt.den×vt.den)->Prop
 |[],[]=>True
 |e::es,(k,v)::m=>(∃cs,zN w g none kt k cs/\e.key=jh kt.sk.isAgg cs)/\(∃cs,zN w g none vt v cs/\e.val=jh vt.sk.isAgg cs)/\yI w g kt vt es m
 |_,_=>False
theorem yI.kept{w w':World}{g g':z8}(hr:zT w g w' g'){kt vt:Ty}:{es:List MapEntry}->{m:List (kt.den×vt.den)}->yI w g kt vt es m->yI w' g' kt vt es m
 |[],[],_=>trivial
 |_::_,(_,_)::_,⟨⟨c1,h1,e1⟩,⟨c2,h2,e2⟩,h⟩=>⟨⟨c1,h1.kept hr,e1⟩,⟨c2,h2.kept hr,e2⟩,yI.kept hr h⟩
 |[],_::_,h=>h.elim
 |_::_,[],h=>h.elim
structure N5 (w:World) (g:z8) (w':World) (g':z8) (id:Nat) (p:Path) (b0:Nat):Prop where
 ro:zT w g w' g'
 sv:∀q,¬p <+: q->g'.sv id q=g.sv id q
 qp:∀q b,g.tag b=.row id q->¬p <+: q->g'.tag b=.row id q/\(b≠b0->w'.heap[b]? = w.heap[b]?)
def Fx(w:World)(g:z8)(id:Nat)(t:Ty)(l:List t.den)(p:Path):Prop:=
 (∃bk o cap,g.sv id []=.slice (some ⟨bk,o,none⟩) l.length cap)/\
 ∃v b0 off c e pre,FY t p=some v/\place g id (.sl true t) [] 0 0 p=some (b0,off)/\g.tag b0=.row id pre/\pre.length<p.length/\w.heap[b0]? = some (.cells c e (0,0))/\off<c.size/\
  ∀(w':World)(g':z8)(l1:List v.den)(x:Value),N5 w g w' g' id p b0->w'.heap[b0]? = some (.cells (zD c.toList off [x]).toArray e (0,0))->zN w' g' (some (id,p)) (.sl true v) l1 [x]->
   ∀{R:Type}(f:List t.den->Option R)(r:R),jn (.sl true t) l p (.sl true v) l1 f=some r->∃l2,f l2=some r/\zN w' g' (some (id,[])) (.sl true t) l2 [g'.sv id []]
def z6q(w:World)(g:z8)(z6:qZ)(id:Nat)(a:z7):Prop:=
 ∃(Gk n bm:Nat)(seen:Array Nat)(cur:Int),a=uJ Gk (n:Int) ((upto n).filter λi=>!seen.contains i.toNat) cur/\w.heap[g.qp id]? = some (.mapIter (some bm) n seen n)/\
  g.tag (g.qp id)=.box id/\(∀c:Nat,cur=(c:Int)->seen.back? = some c)/\∀kt vt m,z6 Gk=some (.map kt vt m)->bm=g.qp Gk
def z6s(w:World)(g:z8)(z6:qZ)(id:Nat)(a:z7):Prop:=∃c e,w.heap[g.qp id]? = some (.cells c e (0,0))/\g.tag (g.qp id)=.ro/\jM w g z6 a c.toList
def z6n(w:World)(g:z8)(z6:qZ)(id:Nat):z7->Prop
 |.jS (.agg x)=>z6s w g z6 id (.agg x)
 |.jS (.qV i)=>z6s w g z6 id (.qV i)
 |a=>z6q w g z6 id a
def zn(w:World)(g:z8)(z6:qZ)(id:Nat):Obj->Prop
 |.row t l _=>t.zG=true/\zN w g (some (id,[])) (.sl true t) l [g.sv id []]
 |.cell a=>if a.we then z6n w g z6 id a else ∃c e,w.heap[g.qp id]? = some (.cells c e (0,0))/\g.tag (g.qp id)=.box id/\jM w g z6 a c.toList
 |.map kt vt m=>∃es clock,w.heap[g.qp id]? = some (.map es clock)/\g.tag (g.qp id)=.box id/\kt.zG=true/\vt.zG=true/\yI w g kt vt es.toList m/\clock=es.size/\kG es.toList
 |.nest t l _ _ none=>zN w g (some (id,[])) (.sl true t) l [g.sv id []]
 |.nest t l _ _ (some p)=>Fx w g id t l p
theorem jM.zn8{w:World}{g:z8}{z6:qZ}:{a:z7}->{cs:List Value}->jM w g z6 a cs->a.we=false
 |.jS _,_,h=>h.elim
 |.data _ _,_,_ |.zi,_,_ |.ref _ _ _,_,_ |.view _ _ _ _ _,_,_ |.zq _ _,_,_ |.va _ _ _,_,_ |.qV _,_,_ |.nv _ _ _ _,_,_ |.qP _ _,_,_ | .V6 _ _,_,_ |.agg _,_,_ |.pr _ _,_,_ |.un,_,_=>rfl
theorem zn.mk{w:World}{g:z8}{z6:qZ}{id:Nat}{a:z7}(h:∃c e,w.heap[g.qp id]? = some (.cells c e (0,0))/\g.tag (g.qp id)=.box id/\jM w g z6 a c.toList):zn w g z6 id (.cell a):=by
 obtain⟨c,e,h1,h2,h3⟩:=h;show(if a.we=true then z6n w g z6 id a else ∃c e,w.heap[g.qp id]? = some (.cells c e (0,0))/\g.tag (g.qp id)=.box id/\jM w g z6 a c.toList);rw[qW (by simp[h3.zn8])];exact⟨c,e,h1,h2,h3⟩
theorem zn.out{w:World}{g:z8}{z6:qZ}{id:Nat}{a:z7}(ht:a.we=false)(h:zn w g z6 id (.cell a)):∃c e,w.heap[g.qp id]? = some (.cells c e (0,0))/\g.tag (g.qp id)=.box id/\jM w g z6 a c.toList:=by
 have h:(if a.we=true then z6n w g z6 id a else ∃c e,w.heap[g.qp id]? = some (.cells c e (0,0))/\g.tag (g.qp id)=.box id/\jM w g z6 a c.toList):=h;rw[qW (by simp[ht])]at h;exact h
theorem zn.iter{w:World}{g:z8}{z6:qZ}{id:Nat}{a:z7}(ht:a.we=true)(hc:a.wh=false:=by rfl):zn w g z6 id (.cell a)↔z6q w g z6 id a:=by
 cases a with
 |jS c=>cases c<;>first|exact Iff.rfl|simp[z7.wh]at hc
 |_=>simp[z7.we]at ht
theorem zn.Zj{w:World}{g:z8}{z6:qZ}{id:Nat}{c:z7}(hc:(z7.jS c).wh=true:=by rfl):zn w g z6 id (.cell (.jS c))↔z6s w g z6 id c:=by
 cases c<;>first|exact Iff.rfl|simp[z7.wh]at hc
theorem Ag{a:z7}(h:a.wh=true):∃c,a=.jS c:=by
 cases a with
 |jS c=>exact⟨_,rfl⟩
 |_=>simp[z7.wh]at h
theorem HE{a:z7}(h:(z7.jS a).wh=true):a.we=false:=by
 cases a<;>first|rfl|simp[z7.wh]at h
theorem VO{R:Type}{a:z7}{x:Option R}{r:R}(h:cond a.we none x=some r):a.we=false/\x=some r:=by
 cases ht:a.we with
 |true=>rw[ht]at h;simp at h
 |false=>rw[ht]at h;exact⟨rfl,h⟩
structure yC (w:World) (g:z8) (z6:qZ):Prop where
 z6:∀id o,z6 id=some o->zn w g z6 id o
 tags:∀b,g.tag b≠.zt->b<w.heap.size
def Known(w:World)(g:z8):Prop:=∀b e,tab b=some e->e.t.zG=true/\zN w g none (.ptr (.arr e.n e.t)) e.l [.pointer (some ⟨b,0,none⟩)]/\∃c ty fz,w.heap[b]? = some (.cells c ty fz)/\c.size=e.n*e.t.size
theorem Known.kept{w w':World}{g g':z8}(hr:zT w g w' g')(h:Known w g):Known w' g':=λb e he=>by
 obtain⟨h1,h2,c,ty,fz,h3,h4⟩:=h b e he;refine⟨h1,h2.kept hr,c,ty,fz,?_,h4⟩;obtain⟨b',off,c',e',fz',hp,ht,_⟩:=h2;simp only[N0,Value.pointer.injEq,zI,Addr.mk.injEq,Fy]at hp;rw[(hr.qp b (by rw[hp.1];exact ht)).2,h3]
structure zU (n:Nat) (g:z8) (w:World) (a:Act) (J:St):Prop where
 zk:∀i av,J.zk i=some av->∃v,a.tmps[i]? = some v/\zm w g J.z6 av v
 heap:yC w g J.z6
 size:a.tmps.size=n
 defers:a.defers=[]
 known:Known w g
structure zJ (g:z8) (J:St) (m:Nat):Prop where
 z6:J.z6 m=none
 row:∀b p,g.tag b≠.row m p
 box:∀b,g.tag b≠.box m
 zk:∀i av,J.zk i=some av->m∉av.ids
 cells:∀id av,J.z6 id=some (.cell av)->m∉av.ids
structure Ext (w:World) (g:z8) (w':World) (g':z8):Prop where
 os:w'.os=w.os
 tape:w'.tape=w.tape
 output:w'.output=w.output
 drawn:w.drawn<=w'.drawn
 size:w.heap.size<=w'.heap.size
 vE:∀b,b<w.heap.size->(g.tag b=.zt\/g.tag b=.ro)->w'.heap[b]? = w.heap[b]?/\g'.tag b=g.tag b
theorem Ext.refl(w:World)(g:z8):Ext w g w g:=⟨rfl,rfl,rfl,yH _,yH _,λ_ _ _=>⟨rfl,rfl⟩⟩
theorem Ext.trans{w w' w'':World}{g g' g'':z8}(h:Ext w g w' g')(k:Ext w' g' w'' g''):Ext w g w'' g'':=by
 refine⟨k.os.trans h.os,k.tape.trans h.tape,k.output.trans h.output,Z1n h.drawn k.drawn,Z1n h.size k.size,λb hb ht=>?_⟩;obtain⟨h1,h2⟩:=h.vE b hb ht;obtain⟨k1,k2⟩:=k.vE b (Z2r hb h.size) (by rw[h2];exact ht);exact⟨k1.trans h1,k2.trans h2⟩
theorem Ext.ro{w w':World}{g g':z8}(h:Ext w g w' g')(ht:∀b,g.tag b≠.zt->b<w.heap.size):zT w g w' g':=
 ⟨λb hb=>let k:=h.vE b (ht b (by rw[hb];simp)) (.inr hb);⟨k.2.trans hb,k.1⟩⟩
def qq(g g':z8)(id:Nat)(o o':Option Obj):Prop:=
 o'=none\/
 (∃t l l' e e',o=some (.row t l e)/\o'=some (.row t l' e')/\(e<e'\/(e'=e/\l'.length=l.length/\∀p,g'.sv id p=g.sv id p)))\/
 (∃a a',o=some (.cell a)/\o'=some (.cell a')/\a'.sk=a.sk/\g'.qp id=g.qp id)\/
 (∃kt vt m m',o=some (.map kt vt m)/\o'=some (.map kt vt m')/\g'.qp id=g.qp id)\/
 (∃t l l' e e' i i' h h',o=some (.nest t l e i h)/\o'=some (.nest t l' e' i' h')/\e<=e'/\i<=i'/\(e=e'->g'.sv id []=g.sv id [])/\(i=i'->∀p,g'.sv id p=g.sv id p))
theorem vk{g g':z8}{id:Nat}(h:∀p,g'.sv id p=g.sv id p):{t:Ty}->{pre:Path}->{b off:Nat}->{p:Path}->
  place g' id t pre b off p=place g id t pre b off p
 |_,_,_,_,[]=>by simp[place]
 |.pair a c,pre,b,off,.fst::p=>by simp only[place];exact vk h
 |.pair a c,pre,b,off,.snd::p=>by simp only[place];exact vk h
 |.arr n t,pre,b,off,.idx i::p=>by simp only[place];exact vk h
 |.sl true t,pre,b,off,.idx i::p=>by
  simp only[place,h];split
  ·exact vk h
  ·rfl
 |.sl false t,_,_,_,s::_=>by cases s<;>simp[place]
 |.sl true t,_,_,_,.fst::_=>by simp[place]
 |.sl true t,_,_,_,.snd::_=>by simp[place]
 |.int _,_,_,_,s::_=>by cases s<;>simp[place]
 |.bool,_,_,_,s::_=>by cases s<;>simp[place]
 |.str,_,_,_,s::_=>by cases s<;>simp[place]
 |.unit,_,_,_,s::_=>by cases s<;>simp[place]
 |.ptr _,_,_,_,s::_=>by cases s<;>simp[place]
 |.fn _ _,_,_,_,s::_=>by cases s<;>simp[place]
 |.tree _,_,_,_,s::_=>by cases s<;>simp[place]
 |.mp _,_,_,_,s::_=>by cases s<;>simp[place]
 |.pair _ _,_,_,_,.idx _::_=>by simp[place]
 |.arr _ _,_,_,_,.fst::_=>by simp[place]
 |.arr _ _,_,_,_,.snd::_=>by simp[place]
theorem jM.frame{w w':World}{g g':z8}{z6 wT:qZ}(hr:zT w g w' g'):{a:z7}->{cs:List Value}->
  (∀id,id∈a.ids->qq g g' id (z6 id) (wT id))->jM w g z6 a cs->jM w' g' wT a cs
 |.data t d,_,_,h=>⟨h.1,h.2.kept hr⟩
 |.zi,_,_,h=>h
 |.ref id p ep,_,hi,⟨v,hv,qc,h⟩=>by
  refine⟨v,hv,qc,λt l e ho=>?_⟩;rcases hi id (by simp[z7.ids]) with hk|⟨t0,l0,l1,e0,e1,h0,h1,hk⟩|⟨a,a',h0,h1,_⟩|⟨Ay,X6,m0,m1,h0,h1,Nl⟩|⟨t0,l0,l1,e0,e1,i0,i1,h0',Nt,h0,h1,hk⟩
  ·rw[hk]at ho;simp at ho
  ·rw[h1]at ho;simp only[zI,Obj.row.injEq]at ho;obtain⟨rfl,hl,rfl⟩:=ho;have:=h _ _ _ h0;rcases hk with hk|⟨rfl,_,yZ⟩
   ·exact⟨by omega,λhe=>by omega⟩
   ·exact⟨this.1,λhe=>by rw[yZ];exact this.2 he⟩
  ·rw[h1]at ho;simp at ho
  ·rw[h1]at ho;simp at ho
  ·rw[h1]at ho;simp at ho
 |.view id p ep a b,_,hi,⟨v,hv,qc,h⟩=>by
  refine⟨v,hv,qc,λt l e ho=>?_⟩;rcases hi id (by simp[z7.ids]) with hk|⟨t0,l0,l1,e0,e1,h0,h1,hk⟩|⟨a,a',h0,h1,_⟩|⟨Ay,X6,m0,m1,h0,h1,Nl⟩|⟨t0,l0,l1,e0,e1,i0,i1,h0',Nt,h0,h1,hk⟩
  ·rw[hk]at ho;simp at ho
  ·rw[h1]at ho;simp only[zI,Obj.row.injEq]at ho;obtain⟨rfl,hl,rfl⟩:=ho;have:=h _ _ _ h0;rcases hk with hk|⟨rfl,hlen,yZ⟩
   ·exact⟨by omega,λhe=>by omega⟩
   ·refine⟨this.1,λhe=>?_⟩;obtain⟨hp,ha,uN,hb,gi⟩:=this.2 he;refine⟨hp,ha,uN,?_,by rw[yZ];exact gi⟩;have:l=l1:=(Z34 hl).symm;rw[this,hlen];exact hb
  ·rw[h1]at ho;simp at ho
  ·rw[h1]at ho;simp at ho
  ·rw[h1]at ho;simp at ho
 |.zq id p,_,hi,⟨v,hv,qc,h⟩=>by
  refine⟨v,hv,qc,λa ho=>?_⟩;rcases hi id (by simp[z7.ids]) with hk|⟨t0,l0,l1,e0,e1,h0,h1,hk⟩|⟨a0,a1,h0,h1,hs,hb⟩|⟨Ay,X6,m0,m1,h0,h1,Nl⟩|⟨t0,l0,l1,e0,e1,i0,i1,h0',Nt,h0,h1,hk⟩
  ·rw[hk]at ho;simp at ho
  ·rw[h1]at ho;simp at ho
  ·rw[h1]at ho;simp only[zI,Obj.cell.injEq]at ho;subst ho;rw[hs,hb];exact h _ h0
  ·rw[h1]at ho;simp at ho
  ·rw[h1]at ho;simp at ho
 |.va id p ep,_,hi,⟨v,hv,qc,h⟩=>by
  refine⟨v,hv,qc,λt l e ho=>?_⟩;rcases hi id (by simp[z7.ids]) with hk|⟨t0,l0,l1,e0,e1,h0,h1,hk⟩|⟨a,a',h0,h1,_⟩|⟨Ay,X6,m0,m1,h0,h1,Nl⟩|⟨t0,l0,l1,e0,e1,i0,i1,h0',Nt,h0,h1,hk⟩
  ·rw[hk]at ho;simp at ho
  ·rw[h1]at ho;simp only[zI,Obj.row.injEq]at ho;obtain⟨rfl,hl,rfl⟩:=ho;have:=h _ _ _ h0;rcases hk with hk|⟨rfl,hlen,yZ⟩
   ·exact⟨by omega,λhe=>by omega⟩
   ·exact⟨this.1,λhe=>by rw[vk yZ];exact this.2 he⟩
  ·rw[h1]at ho;simp at ho
  ·rw[h1]at ho;simp at ho
  ·rw[h1]at ho;simp at ho
 |.qV id,_,hi,⟨v,hv,qc,h⟩=>by
  refine⟨v,hv,qc,λkt vt m ho=>?_⟩;rcases hi id (by simp[z7.ids]) with hk|⟨t0,l0,l1,e0,e1,h0,h1,hk⟩|⟨a,a',h0,h1,_⟩|⟨Ay,X6,m0,m1,h0,h1,Nl⟩|⟨t0,l0,l1,e0,e1,i0,i1,h0',Nt,h0,h1,hk⟩
  ·rw[hk]at ho;simp at ho
  ·rw[h1]at ho;simp at ho
  ·rw[h1]at ho;simp at ho
  ·rw[h1]at ho;simp only[zI,Obj.map.injEq]at ho;obtain⟨rfl,rfl,_⟩:=ho;rw[Nl];exact h _ _ _ h0
  ·rw[h1]at ho;simp at ho
 |.nv pt id p ep,_,hi,⟨v,hv,qc,h⟩=>by
  refine⟨v,hv,qc,λt l e i h' ho=>?_⟩;rcases hi id (by simp[z7.ids]) with hk|⟨t0,l0,l1,e0,e1,h0,h1,hk⟩|⟨a,a',h0,h1,_⟩|⟨Ay,X6,m0,m1,h0,h1,Nl⟩|⟨t0,l0,l1,e0,e1,i0,i1,h0',Nt,h0,h1,he,hi,hse,hsi⟩
  ·rw[hk]at ho;simp at ho
  ·rw[h1]at ho;simp at ho
  ·rw[h1]at ho;simp at ho
  ·rw[h1]at ho;simp at ho
  ·rw[h1]at ho;simp only[zI,Obj.nest.injEq]at ho;obtain⟨rfl,_,rfl,rfl,_⟩:=ho;obtain⟨hle,hx⟩:=h _ _ _ _ _ h0;have zq2:HG pt p e0 i0<=HG pt p e1 i1:=by
    unfold HG;split
    ·exact he
    ·exact hi
   refine⟨Z1n hle zq2,λheq=>?_⟩;have zbp:HG pt p e0 i0=ep:=by omega
   obtain⟨hx1,hx2⟩:=hx zbp;refine⟨λhp=>?_,λhp=>?_⟩
   ·subst hp;rw[hx1 rfl]
    cases p with
    |nil=>
     simp only[HG]at heq zbp
     exact(hse (by omega)).symm
    |cons s q=>
     simp only[HG]at heq zbp;exact(hsi (by omega) _).symm
   ·subst hp;have Mw:i0=i1:=by
     simp only[HG]at heq zbp;omega
    rw[vk (hsi Mw)]
    exact hx2 rfl
 |.qP f c,_,hi,⟨vs,hv,h⟩=>⟨vs,hv,jM.frame hr (a:=c) (λid h=>hi id h) h⟩
 | .V6 t c,_,hi,⟨x,Du,hv,h,hx⟩=>⟨x,Du,hv,jM.frame hr (a:=c) (λid h=>hi id h) h,hx⟩
 |.agg c,_,hi,h=>jM.frame hr (a:=c) (λid h=>hi id h) h
 |.jS _,_,_,h=>h.elim
 |.pr a b,_,hi,⟨c1,c2,hc,h1,h2⟩=>
  ⟨c1,c2,hc,jM.frame hr (λid h=>hi id (by simp[z7.ids,h])) h1,jM.frame hr (λid h=>hi id (by simp[z7.ids,h])) h2⟩
 |.un,_,_,h=>h
theorem jz{w:World}{g:z8}{z6:qZ}{a:z7}{v:Value}{cs:List Value}(h:jM w g z6 a cs)(hv:v=jh a.isAgg cs)
  (h1:∀x y,a≠.pr x y) (h2:a≠.un):zm w g z6 a v:=by
 cases a with
 |jS c=>exact h.elim
 |pr x y=>exact absurd rfl (h1 x y)
 |un=>exact absurd rfl h2
 |_=>exact⟨cs,h,hv⟩
theorem kB{w:World}{g:z8}{z6:qZ}{a:z7}{v:Value}(h:zm w g z6 a v)(ht:∀c,a≠.jS c):
  ∃cs,jM w g z6 a cs/\v=jh a.isAgg cs:=by
 cases a with
 |jS c=>exact absurd rfl (ht c)
 |pr x y=>exact h.elim
 |un=>exact h.elim
 |_=>exact h
mutual
theorem zm.frame{w w':World}{g g':z8}{z6 wT:qZ}(hr:zT w g w' g'):{a:z7}->{v:Value}->
  (∀id,id∈a.ids->qq g g' id (z6 id) (wT id))->zm w g z6 a v->zm w' g' wT a v
 |.jS c,_,hi,h=>by
  simp only[zm]at h⊢;obtain⟨vs,hv,h⟩:=h
  exact⟨vs,hv,qx.frame hr (a:=c) (λid h=>hi id (by simpa[z7.ids]using h)) h⟩
 |.pr _ _,_,_,h=>by simp only[zm]at h
 |.un,_,_,h=>by simp only[zm]at h
 |.data t d,_,hi,h=>by simp only[zm]at h⊢;obtain⟨cs,h,hv⟩:=h;exact⟨cs,jM.frame hr hi h,hv⟩
 |.zi,_,hi,h=>by simp only[zm]at h⊢;obtain⟨cs,h,hv⟩:=h;exact⟨cs,jM.frame hr hi h,hv⟩
 |.ref _ _ _,_,hi,h=>by simp only[zm]at h⊢;obtain⟨cs,h,hv⟩:=h;exact⟨cs,jM.frame hr hi h,hv⟩
 |.view _ _ _ _ _,_,hi,h=>by simp only[zm]at h⊢;obtain⟨cs,h,hv⟩:=h;exact⟨cs,jM.frame hr hi h,hv⟩
 |.zq _ _,_,hi,h=>by simp only[zm]at h⊢;obtain⟨cs,h,hv⟩:=h;exact⟨cs,jM.frame hr hi h,hv⟩
 |.va _ _ _,_,hi,h=>by simp only[zm]at h⊢;obtain⟨cs,h,hv⟩:=h;exact⟨cs,jM.frame hr hi h,hv⟩
 |.qV _,_,hi,h=>by simp only[zm]at h⊢;obtain⟨cs,h,hv⟩:=h;exact⟨cs,jM.frame hr hi h,hv⟩
 |.nv _ _ _ _,_,hi,h=>by simp only[zm]at h⊢;obtain⟨cs,h,hv⟩:=h;exact⟨cs,jM.frame hr hi h,hv⟩
 |.qP _ _,_,hi,h=>by simp only[zm]at h⊢;obtain⟨cs,h,hv⟩:=h;exact⟨cs,jM.frame hr hi h,hv⟩
 | .V6 _ _,_,hi,h=>by simp only[zm]at h⊢;obtain⟨cs,h,hv⟩:=h;exact⟨cs,jM.frame hr hi h,hv⟩
 |.agg _,_,hi,h=>by simp only[zm]at h⊢;obtain⟨cs,h,hv⟩:=h;exact⟨cs,jM.frame hr hi h,hv⟩
theorem qx.frame{w w':World}{g g':z8}{z6 wT:qZ}(hr:zT w g w' g'):{a:z7}->{vs:List Value}->
  (∀id,id∈a.ids->qq g g' id (z6 id) (wT id))->qx w g z6 a vs->qx w' g' wT a vs
 |.pr a b,_,hi,h=>by
  simp only[qx]at h⊢;obtain⟨v,r,hv,h1,h2⟩:=h
  exact⟨v,r,hv,zm.frame hr (λid h=>hi id (by simp[z7.ids,h])) h1,qx.frame hr (λid h=>hi id (by simp[z7.ids,h])) h2⟩
 |.un,_,_,h=>by simp only[qx]at h⊢;exact h
 |.jS _,_,_,h=>by simp only[qx]at h
 |.data _ _,_,_,h=>by simp only[qx]at h
 |.zi,_,_,h=>by simp only[qx]at h
 |.ref _ _ _,_,_,h=>by simp only[qx]at h
 |.view _ _ _ _ _,_,_,h=>by simp only[qx]at h
 |.zq _ _,_,_,h=>by simp only[qx]at h
 |.va _ _ _,_,_,h=>by simp only[qx]at h
 |.qV _,_,_,h=>by simp only[qx]at h
 |.nv _ _ _ _,_,_,h=>by simp only[qx]at h
 |.qP _ _,_,_,h=>by simp only[qx]at h
 | .V6 _ _,_,_,h=>by simp only[qx]at h
 |.agg _,_,_,h=>by simp only[qx]at h
end
structure xC (w:World) (g:z8) (w':World) (g':z8) (id:Nat):Prop where
 row:xG w g w' g' id [] id []
 qp:g'.qp id=g.qp id
 box:g.tag (g.qp id)=.box id->g'.tag (g.qp id)=.box id/\w'.heap[g.qp id]? = w.heap[g.qp id]?
theorem zn.frame{w w':World}{g g':z8}{z6 wT:qZ}(hr:zT w g w' g'){id:Nat}{o:Obj}(hs:xC w g w' g' id)
  (hi:∀a,o=.cell a->∀id,id∈a.ids->qq g g' id (z6 id) (wT id)) (h:zn w g z6 id o):zn w' g' wT id o:=by
 cases o with
 |row t l e=>
  refine⟨h.1,?_⟩;have:=hs.row.sv [];simp only[DX]at this;rw[this]
  exact zN.move hr (o:=some (id,[])) (o':=some (id,[])) hs.row h.2
 |cell a=>
  cases Qc:a.we with
  |true=>
   cases p9:a.wh with
   |true=>
    obtain⟨x,rfl⟩:=Ag p9;obtain⟨c,e,hc,ht,za⟩:=(zn.Zj p9).1 h;obtain⟨h1,h2⟩:=hr.qp _ ht
    exact(zn.Zj p9).2 ⟨c,e,by rw[hs.qp,h2];exact hc,by rw[hs.qp];exact h1,jM.frame hr (λi wm=>hi _ rfl i wm) za⟩
   |false=>
   refine(zn.iter Qc p9).2 ?_;obtain⟨Gk,n,bm,seen,last,ha,hc,ht,hn,hb⟩:=(zn.iter Qc p9).1 h;obtain⟨h1,h2⟩:=hs.box ht;refine⟨Gk,n,bm,seen,last,ha,by rw[hs.qp,h2];exact hc,by rw[hs.qp];exact h1,hn,λkt vt m ho=>?_⟩;rcases hi a rfl Gk (by rw[ha];simp[uJ,z7.ids]) with hk|⟨_,_,_,_,_,_,hk,_⟩|⟨_,_,_,hk,_⟩|⟨Ay,X6,m0,m1,h0,h1,Nl⟩|⟨_,_,_,_,_,_,_,_,_,_,hk,_⟩
   ·rw[hk]at ho;simp at ho
   ·rw[hk]at ho;simp at ho
   ·rw[hk]at ho;simp at ho
   ·rw[Nl];exact hb _ _ _ h0
   ·rw[hk]at ho;simp at ho
  |false=>
   obtain⟨c,e,hc,ht,za⟩:=h.out Qc;obtain⟨h1,h2⟩:=hs.box ht;refine zn.mk ⟨c,e,?_,?_,jM.frame hr (hi a rfl) za⟩
   ·rw[hs.qp,h2];exact hc
   ·rw[hs.qp];exact h1
 |map kt vt m=>
  obtain⟨es,ck,hc,ht,h1,h2,hm,h3⟩:=h;obtain⟨k1,k2⟩:=hs.box ht
  exact⟨es,ck,by rw[hs.qp,k2];exact hc,by rw[hs.qp];exact k1,h1,h2,hm.kept hr,h3⟩
 |nest t l e i hole=>
  have yZ:∀q,g'.sv id q=g.sv id q:=λq=>by have:=hs.row.sv q;simpa using this
  have hblk:∀q b,g.tag b=.row id q->g'.tag b=.row id q/\w'.heap[b]? = w.heap[b]? := λq b hb=>by have:=hs.row.qp q b (by simpa using hb);simpa using this
  cases hole with
  |none=>
   have h':zN w g (some (id,[])) (.sl true t) l [g.sv id []]:=h;show zN w' g' (some (id,[])) (.sl true t) l [g'.sv id []];rw[yZ]
   exact zN.move hr (o:=some (id,[])) (o':=some (id,[])) hs.row h'
  |some p=>
   obtain⟨⟨bk,o0,zjx,zpb⟩,v,b0,off,c,ee,pre,wu,p8,zS,xB,zZ,jO,hw⟩:=h;obtain⟨k1,k2⟩:=hblk _ _ zS;refine⟨⟨bk,o0,zjx,by rw[yZ];exact zpb⟩,v,b0,off,c,ee,pre,wu,by rw[vk yZ];exact p8,k1,xB,by rw[k2];exact zZ,jO,λw2 g2 l1 x hn Uq zF R f r wE=>?_⟩;refine hw w2 g2 l1 x ⟨⟨λb hb=>?_⟩,λq hq=>(hn.sv q hq).trans (yZ q),λq b hb hq=>?_⟩ Uq zF f r wE
   ·obtain⟨j1,j2⟩:=hr.qp b hb;obtain⟨m1,m2⟩:=hn.ro.qp b j1;exact⟨m1,m2.trans j2⟩
   ·obtain⟨j1,j2⟩:=hblk q b hb;obtain⟨m1,m2⟩:=hn.qp q b j1 hq;exact⟨m1,λvg=>(m2 vg).trans j2⟩
theorem qq.refl(g:z8)(id:Nat)(o:Option Obj):qq g g id o o:=by
 cases o with
 |none=>exact .inl rfl
 |some o=>cases o with
  |row t l e=>exact .inr (.inl ⟨t,l,l,e,e,rfl,rfl,.inr ⟨rfl,rfl,λ_=>rfl⟩⟩)
  |cell a=>exact .inr (.inr (.inl ⟨a,a,rfl,rfl,rfl,rfl⟩))
  |map k v m=>exact .inr (.inr (.inr (.inl ⟨k,v,m,m,rfl,rfl,rfl⟩)))
  |nest t l e i h=>exact .inr (.inr (.inr (.inr ⟨t,l,l,e,e,i,i,h,h,rfl,rfl,yH _,yH _,λ_=>rfl,λ_ _=>rfl⟩)))
theorem qq.same{w w':World}{g g':z8}{id:Nat}{o:Option Obj}(hs:xC w g w' g' id):qq g g' id o o:=by
 cases o with
 |none=>exact .inl rfl
 |some o=>cases o with
  |row t l e=>exact .inr (.inl ⟨t,l,l,e,e,rfl,rfl,.inr ⟨rfl,rfl,λp=>by have:=hs.row.sv p;simpa using this⟩⟩)
  |cell a=>exact .inr (.inr (.inl ⟨a,a,rfl,rfl,rfl,hs.qp⟩))
  |map k v m=>exact .inr (.inr (.inr (.inl ⟨k,v,m,m,rfl,rfl,hs.qp⟩)))
  |nest t l e i h=>exact .inr (.inr (.inr (.inr ⟨t,l,l,e,e,i,i,h,h,rfl,rfl,yH _,yH _,λ_=>by have:=hs.row.sv [];simpa using this,λ_ p=>by have:=hs.row.sv p;simpa using this⟩)))
theorem JB{a:Act}{d:Option Nat}{v:Value}{i:Nat}:(a.put d v).tmps[i]? = if d=some i/\i<a.tmps.size then some v else a.tmps[i]? := by
 cases d with
 |none=>simp[Act.put]
 |some j=>
  simp only[Act.put,zI];rw[Z5k];by_cases h:j=i
  ·subst h;by_cases h2:j<a.tmps.size
   ·simp[h2]
   ·simp[h2]
  ·simp[h]
theorem H7{a:Act}{d:Option Nat}{v:Value}:(a.put d v).tmps.size=a.tmps.size:=by cases d<;>simp[Act.put]
theorem put_defers{a:Act}{d:Option Nat}{v:Value}:(a.put d v).defers=a.defers:=by cases d<;>simp[Act.put]
theorem z5o{a:Act}{t:Nat}{v:Value}(h:a.tmps[t]? = some v):a.eval (.tmp t)=v:=by
 simp[Act.eval,Z2g,h]
end Go.Kz
namespace Go.Kz
variable {R:Type}
def vp(w w':World):Prop:=∀b,b<w.heap.size->w'.heap[b]? = w.heap[b]?
theorem vp.refl(w:World):vp w w:=λ_ _=>rfl
def N6(o:Oper)(w w':World):Prop:=isP o=false->vp w w'
theorem N6.refl(o:Oper)(w:World):N6 o w w:=λ_=>vp.refl w
def vY(n:Nat)(k:St->Option R)(r:R)(g:z8)(w:World)(J:St)(base:Nat)(mo:Bool)(K:Act->World->Prop):Prop:=
 ∀J' g' a' w',k J'=some r->zU n g' w' a' J'->Ext w g w' g'->(∀m,(m<base\/base+8<=m)->zJ g J m->zJ g' J' m)->J'.next=J.next->(mo=false->vp w w')->K a' w'
theorem zU.put{n:Nat}{g:z8}{w:World}{a:Act}{J:St}(h:zU n g w a J){d:Nat}(hd:d<n){av:z7}{v:Value}(hv:zm w g J.z6 av v):
  zU n g w (a.put (some d) v) (J.set d av):=by
 refine⟨λi x hx=>?_,h.heap,by rw[H7];exact h.size,by rw[put_defers];exact h.defers,h.known⟩;simp only[St.set,GJ]at hx;rw[JB];by_cases hi:i=d
 ·subst hi;have:Nat.beq i i=true:=Mt i;rw[this]at hx;simp only[zB,zI]at hx;subst hx;exact⟨v,by rw[yX ⟨rfl,by rw[h.size];exact hd⟩],hv⟩
 ·have:Nat.beq i d=false:=by
   cases hb:Nat.beq i d with
   |true=>exact absurd (zE hb) hi
   |false=>rfl
  rw[this]at hx;simp only[zP]at hx;obtain⟨u,hu,za⟩:=h.zk i x hx;exact⟨u,by rw[qW (by intro hh;simp at hh;exact hi hh.1.symm)];exact hu,za⟩
theorem zU.zh9{n:Nat}{g:z8}{w:World}{a:Act}{J:St}(h:zU n g w a J)(d:Option Nat)(v:Value):zU n g w (a.put d v) (J.kD d):=by
 cases d with
 |none=>exact h
 |some d=>
  refine⟨λi x hx=>?_,h.heap,by rw[H7];exact h.size,by rw[put_defers];exact h.defers,h.known⟩;simp only[St.kD,GJ]at hx;rw[JB]
  cases hb:Nat.beq i d with
  |true=>rw[hb]at hx;simp at hx
  |false=>
   rw[hb]at hx;simp only[zP]at hx;obtain⟨u,hu,za⟩:=h.zk i x hx;refine⟨u,?_,za⟩;rw[qW (by intro hh;simp at hh;rw[hh.1]at hb;rw[Mt]at hb;simp at hb)];exact hu
theorem zJ.set{g:z8}{J:St}{m:Nat}(h:zJ g J m)(d:Nat){av:z7}(hv:m∉av.ids):zJ g (J.set d av) m:=by
 refine⟨h.z6,h.row,h.box,λi x hx=>?_,h.cells⟩;simp only[St.set,GJ]at hx
 cases hb:Nat.beq i d with
 |true=>rw[hb]at hx;simp at hx;subst hx;exact hv
 |false=>rw[hb]at hx;exact h.zk i x hx
theorem zJ.kD{g:z8}{J:St}{m:Nat}(h:zJ g J m)(d:Option Nat):zJ g (J.kD d) m:=by
 cases d with
 |none=>exact h
 |some d=>
  refine⟨h.z6,h.row,h.box,λi x hx=>?_,h.cells⟩;simp only[St.kD,GJ]at hx
  cases hb:Nat.beq i d with
  |true=>rw[hb]at hx;simp at hx
  |false=>rw[hb]at hx;exact h.zk i x hx
theorem pQ{c:Ctx}{J:St}{d:Option Nat}{av:z7}{k:St->Option R}{r:R}(h:J.qo c d av k=some r):
  (d=none/\k J=some r)\/∃i,d=some i/\i<c.ntmps/\k (J.set i av)=some r:=by
 cases d with
 |none=>exact .inl ⟨rfl,h⟩
 |some i=>
  simp only[St.qo]at h
  cases hb:Nat.blt i c.ntmps with
  |false=>rw[hb]at h;simp at h
  |true=>
   rw[hb]at h;refine .inr ⟨i,rfl,?_,h⟩;have:=zL hb;omega
structure wk (P:Program) (o:Oper) (a:Act) (w:World) (g:z8) (J:St) (c:Ctx) (k:St->Option R) (r:R):Prop where
 out:∃av v,(∀w',N6 o w w'->(execOp a.eval o).run P w'=.ok (.value v) w')/\zm w g J.z6 av v/\(∀m,zJ g J m->m∉av.ids)/\J.qo c o.dst av k=some r
theorem Zf{P:Program}{o:Oper}{a:Act}{w:World}{c:Ctx}{J:St}{g:z8}{k:St->Option R}{r:R}{av:z7}{v:Value}
  (ze:∀w',N6 o w w'->(execOp a.eval o).run P w'=.ok (.value v) w') (hv:zm w g J.z6 av v) (gI:∀m,zJ g J m->m∉av.ids) (h:J.qo c o.dst av k=some r):wk P o a w g J c k r:=
 ⟨av,v,ze,hv,gI,h⟩
theorem wp_pure{P:Program}{o:Oper}{a:Act}{w:World}{K:Act->World->Prop}{Q:Exit->Act->World->Prop}{c:Ctx}{J:St}{g:z8}{k:St->Option R}{r:R}{base:Nat}{mo:Bool}
  {av:z7}{v:Value} (zj:zU c.ntmps g w a J) (ze:(execOp a.eval o).run P w=.ok (.value v) w)
  (hv:zm w g J.z6 av v) (gI:∀m,zJ g J m->m∉av.ids) (h:J.qo c o.dst av k=some r) (hK:vY c.ntmps k r g w J base mo K):o.wp P a w K Q:=by
 unfold Oper.wp;rw[ze,Oper.upon_value];rcases pQ h with⟨hd,hk⟩|⟨i,hd,hi,hk⟩
 ·rw[hd];exact hK J g a w hk zj (Ext.refl _ _) (λm _ hm=>hm) rfl (λ_=>vp.refl w)
 ·rw[hd];exact hK _ g _ w hk (zj.put hi hv) (Ext.refl _ _) (λm _ hm=>hm.set i (gI m hm)) rfl (λ_=>vp.refl w)
theorem wk.wp{P:Program}{o:Oper}{a:Act}{w:World}{K:Act->World->Prop}{Q:Exit->Act->World->Prop}{c:Ctx}{J:St}{g:z8}{k:St->Option R}{r:R}{base:Nat}{mo:Bool}
  (hy:wk P o a w g J c k r) (zj:zU c.ntmps g w a J) (hK:vY c.ntmps k r g w J base mo K):o.wp P a w K Q:=by
 obtain⟨av,v,h1,h2,h3,h4⟩:=hy.out;exact wp_pure zj (h1 w (N6.refl o w)) h2 h3 h4 hK
theorem jL{w:World}{g:z8}{z6:qZ}{k:IntKind}{n:Int}{v:Value}(h:zm w g z6 (.data (.int k) n) v):v=.int k n/\k.min<=n/\n<=k.max:=by
 simp only[zm]at h;obtain⟨cs,⟨_,hc,h1,h2⟩,hv⟩:=h;subst hc;exact⟨hv,h1,h2⟩
theorem jm{w:World}{g:z8}{z6:qZ}{k:IntKind}{n:Int}(h:k.min<=n/\n<=k.max):zm w g z6 (.data (.int k) n) (.int k n):=by
 simp only[zm];exact⟨[.int k n],⟨rfl,rfl,h⟩,rfl⟩
theorem xK{w:World}{g:z8}{z6:qZ}{b:Bool}{v:Value}(h:zm w g z6 (.data .bool b) v):v=.bool b:=by
 simp only[zm]at h;obtain⟨cs,⟨_,hc⟩,hv⟩:=h;cases hc;exact hv
theorem kK{w:World}{g:z8}{z6:qZ}(b:Bool):zm w g z6 (.data .bool b) (.bool b):=by
 simp only[zm];exact⟨[.bool b],⟨rfl,rfl⟩,rfl⟩
theorem Gy{w:World}{g:z8}{z6:qZ}{l:List UInt8}{v:Value}(h:zm w g z6 (.data .str l) v):∃s:ByteArray,v=.string s/\s.data.toList=l/\s.size<=maxLen:=by
 simp only[zm]at h;obtain⟨cs,⟨_,s,rfl,h1,h2⟩,hv⟩:=h;exact⟨s,hv,h1,h2⟩
theorem Wv{w:World}{g:z8}{z6:qZ}{l:List UInt8}{s:ByteArray}(h1:s.data.toList=l)(h2:s.size<=maxLen):zm w g z6 (.data .str l) (.string s):=by
 simp only[zm];exact⟨[.string s],⟨rfl,s,rfl,h1,h2⟩,rfl⟩
theorem QG{w:World}{g:z8}{z6:qZ}{v:Value}:zm w g z6 .zi v↔v=.slice none 0 0:=by
 simp only[zm];exact⟨λ⟨cs,h,hv⟩=>by cases h;exact hv,λh=>⟨_,rfl,h⟩⟩
theorem wX(k:IntKind)(n:Int):k.min<=k.wrap n/\k.wrap n<=k.max:=by
 cases k<;>simp only[IntKind.wrap,IntKind.min,IntKind.max,IntKind.bits,IntKind.signed]<;>simp<;>(try split)<;>omega
theorem qD{n:Nat}{g:z8}{w:World}{a:Act}{J:St}(zj:zU n g w a J){x:Operand}{av:z7}(h:ev J x=some av):
  zm w g J.z6 av (a.eval x)/\∀m,zJ g J m->m∉av.ids:=by
 cases x with
 |tmp t=>
  obtain⟨v,hv,za⟩:=zj.zk t av h;rw[z5o hv]
  exact⟨za,λm hm=>hm.zk t av h⟩
 |const v=>
  cases v with
  |int k i=>
   simp only[ev]at h
   cases hb:(decide (k.min<=i)&&decide (i<=k.max)) with
   |false=>rw[hb]at h;simp at h
   |true=>
    rw[hb]at h;simp only[zB,zI]at h;subst h;simp at hb
    exact⟨jm hb,λm _=>by simp[z7.ids]⟩
  |bool b=>
   simp only[ev,zI]at h;subst h
   exact⟨kK b,λm _=>by simp[z7.ids]⟩
  |string s=>
   simp only[ev]at h
   cases hb:Nat.ble s.size 100000 with
   |false=>rw[hb]at h;simp at h
   |true=>
    rw[hb]at h;simp only[zB,zI]at h;subst h;refine⟨?_,λm _=>by simp[z7.ids]⟩;have:=zL hb;simp only[zm]
    exact⟨[.string s],⟨rfl,s,rfl,rfl,by unfold maxLen;omega⟩,rfl⟩
  |slice b l cp=>
   cases b with
   |some _=>simp[ev]at h
   |none=>
    cases l with
    |succ _=>simp[ev]at h
    |zero=>
     cases cp with
     |succ _=>simp[ev]at h
     |zero=>
      simp only[ev,zI]at h;subst h
      exact⟨QG.2 rfl,λm _=>by simp[z7.ids]⟩
  |map b=>
   cases b with
   |some _=>simp[ev]at h
   |none=>
    simp only[ev,zI]at h;subst h;refine⟨?_,λm _=>by simp[z7.ids]⟩;simp only[zm]
    exact⟨[.map none],⟨rfl,_,rfl,rfl⟩,rfl⟩
  |_=>simp[ev]at h
 |global b=>
  simp only[ev]at h;split at h
  ·rename_i e he;simp only[zI]at h;subst h;obtain⟨h1,h2,_⟩:=zj.known b e he;refine⟨?_,λm _=>by simp[z7.ids]⟩;simp only[zm];exact⟨[.pointer (some ⟨b,0,none⟩)],⟨h1,h2⟩,rfl⟩
  ·simp at h
 |func f=>
  simp only[ev,zI]at h;subst h;refine⟨?_,λm _=>by simp[z7.ids]⟩;simp only[zm];exact⟨[.func (.func f) #[] #[]],⟨[],rfl,rfl⟩,rfl⟩
theorem W6{n:Nat}{g:z8}{w:World}{a:Act}{J:St}(zj:zU n g w a J):{l:List Operand}->{av:z7}->TW J l=some av->
  qx w g J.z6 av (l.map a.eval)/\∀m,zJ g J m->m∉av.ids
 |[],av,h=>by
  simp only[TW,zI]at h;subst h
  exact⟨by simp[qx],λm _=>by simp[z7.ids]⟩
 |x::l,av,h=>by
  simp only[TW]at h;split at h
  ·rename_i a1 c1 h1 h2;simp only[zI]at h;subst h;have e1:=qD zj h1;have e2:=W6 zj h2;refine⟨?_,λm hm=>?_⟩
   ·simp only[qx,PE];exact⟨_,_,rfl,e1.1,e2.1⟩
   ·simp only[z7.ids,Gx,not_or];exact⟨e1.2 m hm,e2.2 m hm⟩
  ·simp at h
end Go.Kz
namespace Go.Kz
variable {R:Type}
section
variable {P:Program}{o:Oper}{a:Act}{w:World}{K:Act->World->Prop}{Q:Exit->Act->World->Prop}{c:Ctx}{J:St}{g:z8}{k:St->Option R}{r:R}{base:Nat}
theorem NG{x:Operand}(ho:o.op=.move x\/o.op=.assign x)(zj:zU c.ntmps g w a J)(h:yE c J base o k=some r):wk P o a w g J c k r:=by
 rcases ho with ho|ho<;>simp only[yE,ho]at h<;>split at h
 ·rename_i av Pr;obtain⟨hv,hf⟩:=qD zj Pr;exact Zf (v:=a.eval x) (λ_ _=>by simp[execOp,ho]) hv hf h
 ·simp at h
 ·rename_i av Pr;obtain⟨hv,hf⟩:=qD zj Pr;exact Zf (v:=a.eval x) (λ_ _=>by simp[execOp,ho]) hv hf h
 ·simp at h
theorem zab{t x y:Operand}(ho:o.op=.pick t x y)(zj:zU c.ntmps g w a J)(h:yE c J base o k=some r):wk P o a w g J c k r:=by
 simp only[yE,ho]at h;split at h
 ·rename_i b hb;have ht:=xK (qD zj hb).1
  cases b with
  |true=>
   simp only[zB]at h;split at h
   ·rename_i av Pr;obtain⟨hv,hf⟩:=qD zj Pr;exact Zf (v:=a.eval x) (λ_ _=>by simp[execOp,ho,ht,asBool]) hv hf h
   ·simp at h
  |false=>
   simp only[zP]at h;split at h
   ·rename_i av Pr;obtain⟨hv,hf⟩:=qD zj Pr;exact Zf (v:=a.eval y) (λ_ _=>by simp[execOp,ho,ht,asBool]) hv hf h
   ·simp at h
 ·simp at h
structure Plain (f:z7->Option R) (r:R) (s:Sem Value) (P:Program):Prop where
 out:∃av v,f av=some r/\(∀w,s.run P w=.ok v w)/\av.ids=[]/\∀w g z6,zm w g z6 av v
theorem Plain.int{f:z7->Option R}{s:Sem Value}{k:IntKind}{n:Int}(h:f (.data (.int k) n)=some r)(hs:∀w,s.run P w=.ok (.int k n) w)(hn:k.min<=n/\n<=k.max):Plain f r s P:=
 ⟨_,_,h,hs,rfl,λ_ _ _=>jm hn⟩
theorem Plain.bool{f:z7->Option R}{s:Sem Value}{b:Bool}(h:f (.data .bool b)=some r)(hs:∀w,s.run P w=.ok (.bool b) w):Plain f r s P:=
 ⟨_,_,h,hs,rfl,λ_ _ _=>kK b⟩
theorem bytes_beq(a b:ByteArray):(a.toList == b.toList)=decide (a.data.toList=b.data.toList):=by
 rw[ByteArray.toList_eq,ByteArray.toList_eq];by_cases h:a.data.toList=b.data.toList
 ·simp[h]
 ·rw[ql h,beq_eq_false_iff_ne];exact h
theorem Sr{op:BinOp}{x y:ByteArray}{f:z7->Option R}(T:TypeId)(h:MS op x.data.toList y.data.toList f=some r):Plain f r (binOp op T (.string x) (.string y)) P:=by
 cases op<;>simp only[MS]at h
 case add=>
  obtain⟨hc,h⟩:decide (x.data.toList.length+y.data.toList.length<=room)=true/\f (.data .str (x.data.toList++y.data.toList))=some r:=by
   cases hb:decide (x.data.toList.length+y.data.toList.length<=room) with
   |true=>rw[hb]at h;exact⟨rfl,h⟩
   |false=>rw[hb]at h;simp[zo]at h
  replace hc:=DA hc;simp only[room,vl]at hc;have hx:x.size=x.data.size:=rfl;have hy:y.size=y.data.size:=rfl;refine⟨_,.string (x++y),h,λw=>?_,rfl,λ_ _ _=>Wv (by simp) ?_⟩
  ·have:¬((x.size+y.size:Nat):Int)>IntKind.i64.max:=by
    simp only[IntKind.max,IntKind.bits,IntKind.signed];simp;omega
   simp only[binOp,Op.stringOp,this,TC,Sem.run_pure]
  ·rw[ByteArray.size_append];simp only[maxLen];omega
 case eql=>exact .bool h (λ_=>by simp only[binOp,Op.stringOp,bytes_beq,Sem.run_pure])
 case neq=>exact .bool h (λ_=>by simp only[binOp,Op.stringOp,bytes_beq,Sem.run_pure])
 all_goals simp at h
theorem Ss{op:BinOp}{kd:IntKind}{x y:Int}{f:z7->Option R}(hx:kd.min<=x/\x<=kd.max)(T:TypeId)(Bl:U6 op=false)
  (h:MT op kd x y f=some r):Plain f r (binOp op T (.int kd x) (.int kd y)) P:=by
 cases op<;>simp only[MT]at h<;>simp only[U6]at Bl
 case add=>exact .int h (λ_=>by simp[binOp,Op.intArith]) (wX _ _)
 case sub=>exact .int h (λ_=>by simp[binOp,Op.intArith]) (wX _ _)
 case mul=>exact .int h (λ_=>by simp[binOp,Op.intArith]) (wX _ _)
 case quo=>
  cases hb:(y == 0) with
  |true=>rw[hb]at h;simp at h
  |false=>
   rw[hb]at h;have hy:¬y=0:=by simpa using hb
   exact .int h (λ_=>by simp[binOp,Op.intDiv,hy]) (wX _ _)
 case rem=>
  cases hb:(y == 0) with
  |true=>rw[hb]at h;simp at h
  |false=>
   rw[hb]at h;have hy:¬y=0:=by simpa using hb
   refine .int h (λ_=>by simp[binOp,Op.intDiv,hy]) ?_;have h0:kd.min<=0/\0<=kd.max:=by cases kd<;>simp[IntKind.min,IntKind.max,IntKind.bits,IntKind.signed]
   have h3:(x.tmod y).natAbs<=x.natAbs:=by rw[Int.natAbs_tmod];exact Nat.mod_le _ _
   rcases Int.le_total 0 x with hp|hp
   ·have h1:=Z4s y hp;omega
   ·have h1:x.tmod y<=0:=by
     have:=Z4s y (a:=-x) (by omega);rw[Int.neg_tmod]at this;omega
    omega
 case and=>exact .int h (λ_=>by simp[binOp,Op.intBits]) (wX _ _)
 case or=>exact .int h (λ_=>by simp[binOp,Op.intBits]) (wX _ _)
 case xor=>exact .int h (λ_=>by simp[binOp,Op.intBits]) (wX _ _)
 case andNot=>exact .int h (λ_=>by simp[binOp,Op.intBits]) (wX _ _)
 case eql=>exact .bool h (λ_=>by simp[binOp,Op.intCmp])
 case neq=>exact .bool h (λ_=>by simp[binOp,Op.intCmp])
 case lss=>exact .bool h (λ_=>by simp[binOp,Op.intCmp])
 case leq=>exact .bool h (λ_=>by simp[binOp,Op.intCmp])
 case gtr=>exact .bool h (λ_=>by simp[binOp,Op.intCmp])
 case geq=>exact .bool h (λ_=>by simp[binOp,Op.intCmp])
 all_goals simp at Bl h
theorem Fe{op:BinOp}{kd j:IntKind}{x y:Int}{f:z7->Option R}(hx:kd.min<=x/\x<=kd.max)(T:TypeId)
  (h:XY op kd x y f=some r):Plain f r (binOp op T (.int kd x) (.int j y)) P:=by
 cases op<;>simp only[XY]at h
 case shl=>
  cases hb:decide (y<0) with
  |true=>rw[hb]at h;simp at h
  |false=>
   rw[hb]at h;have hy:¬y<0:=by simpa using hb
   exact .int h (λ_=>by simp[binOp,Op.shift,hy]) (wX _ _)
 case shr=>
  cases hb:decide (y<0) with
  |true=>rw[hb]at h;simp at h
  |false=>
   rw[hb]at h;have hy:¬y<0:=by simpa using hb
   refine .int h (λ_=>by simp[binOp,Op.shift,hy]) ?_;have h0:kd.min<=0/\0<=kd.max:=by cases kd<;>simp[IntKind.min,IntKind.max,IntKind.bits,IntKind.signed]
   have h2:(1:Int)<=2 ^ (min y.toNat kd.bits):=by
    have:=Nat.one_le_two_pow (n:=min y.toNat kd.bits)
    exact_mod_cast this
   generalize hz:(2:Int) ^ (min y.toNat kd.bits)=z at h2;rw[Int.fdiv_eq_ediv_of_nonneg _ (by omega)];rcases Int.le_total 0 x with hp|hp
   ·have h3:=Z46 hp (show 0<=z by omega);have h4:=Z47 z hp;omega
   ·have h3:x/z<=0:=Int.ediv_le_of_le_mul (by omega) (by omega);have h4:x<=x/z:=by
     have:=Int.le_ediv_of_mul_le (a:=x) (b:=x) (c:=z) (by omega) (by
      have:=Int.mul_le_mul_of_nonpos_left (a:=x) (b:=z) (c:=1) hp h2;rw[Int.mul_one]at this;exact this)
     exact this
    omega
 all_goals simp at h
end
end Go.Kz
namespace Go.Kz
variable {R:Type}
theorem Q7{a b:Nat}:(Nat.beq a b=true)=(a=b):=propext ⟨zE,λh=>h ▸ Mt a⟩
def zeroCells:Ty->List Value
 |.int k=>[.int k 0]
 |.bool=>[.bool false]
 |.str=>[.string ByteArray.empty]
 |.unit=>[]
 |.pair a b=>zeroCells a++zeroCells b
 |.arr n t=>(List.replicate n (zeroCells t)).flatten
 |.sl _ _=>[.slice none 0 0]
 |.ptr _=>[.pointer none]
 |.fn f _=>cond (Nat.beq f 999983) [.map none] [.nilFunc]
 |.tree k=>zn3 k
 |.mp _=>[.map none]
structure j4 (P:Program) (T:TypeId) (t:Ty):Prop where
 info:∃i z,P.info? T=some i/\i.size=t.size/\i.bytes<=32768/\i.zero=some z/\z.cells.toList=zeroCells t/\0<i.size
mutual
def qv(P:Program):Ty->TypeId->Prop
 |.int k,T=>P.underlying T=some (.int k)/\j4 P T (.int k)
 |.bool,T=>P.underlying T=some .bool/\j4 P T .bool
 |.str,T=>P.underlying T=some .string/\j4 P T .str
 |.unit,_=>False
 |.pair a b,T=>(∃fs,P.underlying T=some (.struct fs)/\vJ P (.pair a b) fs.toList 0)/\j4 P T (.pair a b)
 |.arr n t,T=>(∃E,P.underlying T=some (.array n E)/\qv P t E)/\j4 P T (.arr n t)
 |.sl o t,T=>(∃E,P.underlying T=some (.slice E)/\qv P t E)/\j4 P T (.sl o t)
 |.ptr t,T=>(∃E,P.underlying T=some (.pointer E))/\j4 P T (.ptr t)
 |.fn f c,T=>((∃a b d,P.underlying T=some (.func a b d))\/∃a b,P.underlying T=some (.map a b))/\j4 P T (.fn f c)
 |.mp o,T=>(∃a b,P.underlying T=some (.map a b))/\j4 P T (.mp o)
 |.tree k,T=>(T=za6 k/\recOn k=true/\∃fs,P.underlying T=some (.struct fs))/\j4 P T (.tree k)
def vJ(P:Program):Ty->List Field->Nat->Prop
 |.pair a b,f::fs,off=>f.offset=off/\qv P a f.type/\vJ P b fs (off+a.size)
 |.unit,[],_=>True
 |_,_,_=>False
end
theorem qv.info{P:Program}{t:Ty}{T:TypeId}(h:qv P t T):j4 P T t:=by
 cases t<;>simp only[qv]at h<;>first|exact h.2|exact h.elim
def z0r:Value->Value->Bool
 |.int j a,.int k b=>(match decEq j k with
   |isTrue _=>true
   |isFalse _=>false)&&decide (a=b)
 |.bool a,.bool b=>a == b
 |.string a,.string b=>Nat.beq a.size 0&&Nat.beq b.size 0
 |.slice none a b,.slice none c d=>Nat.beq a c&&Nat.beq b d
 |.pointer none,.pointer none=>true
 |.nilFunc,.nilFunc=>true
 |.map none,.map none=>true
 |_,_=>false
def GU:List Value->List Value->Bool
 |[],[]=>true
 |a::l,b::m=>z0r a b&&GU l m
 |_,_=>false
theorem z0q{a b:Value}(h:z0r a b=true):a=b:=by
 unfold z0r at h;split at h
 ·rename_i j a k b;simp only[zA,ve]at h;obtain⟨h1,rfl⟩:=h;split at h1
  ·rename_i h2 _;rw[h2]
  ·simp at h1
 ·simpa using h
 ·rename_i a b;simp only[zA,Q7]at h;have ha:a=ByteArray.empty:=by
   cases a with|mk a=>congr 1;exact Z4t h.1
  have hb:b=ByteArray.empty:=by
   cases b with|mk a=>congr 1;exact Z4t h.2
  rw[ha,hb]
 ·simp only[zA,Q7]at h;rw[h.1,h.2]
 ·rfl
 ·rfl
 ·rfl
 ·simp at h
theorem CU:{a b:List Value}->GU a b=true->a=b
 |[],[],_=>rfl
 |a::l,b::m,h=>by
  simp only[GU,zA]at h
  rw[z0q h.1,CU h.2]
 |[],_::_,h=>by simp[GU]at h
 |_::_,[],h=>by simp[GU]at h
def kH(P:Program)(T:TypeId)(t:Ty):Bool:=
 match P.info? T with
 |some i=>match i.zero with
  |some z=>Nat.beq i.size t.size&&Nat.ble i.bytes 32768&&GU z.cells.toList (zeroCells t)&&Nat.blt 0 i.size
  |none=>false
 |none=>false
theorem gj{P:Program}{T:TypeId}{t:Ty}(h:kH P T t=true):j4 P T t:=by
 unfold kH at h;split at h
 ·rename_i i hi;split at h
  ·rename_i z hz;simp only[zA,Q7]at h;exact⟨⟨i,z,hi,h.1.1.1,zL h.1.1.2,hz,CU h.1.2,zL h.2⟩⟩
  ·simp at h
 ·simp at h
def QM(P:Program):Ty->(TypeId->Bool)×(List Field->Nat->Bool)
 |.int k=>(λT=>(match P.underlying T with
  |some (.int j)=>(match decEq j k with
   |isTrue _=>true
   |isFalse _=>false)
  |_=>false)&&kH P T (.int k),λ_ _=>false)
 |.bool=>(λT=>(match P.underlying T with
  |some .bool=>true
  |_=>false)&&kH P T .bool,λ_ _=>false)
 |.str=>(λT=>(match P.underlying T with
  |some .string=>true
  |_=>false)&&kH P T .str,λ_ _=>false)
 |.unit=>(λ_=>false,λfs _=>match fs with
  |[]=>true
  |_=>false)
 |.pair a b=>
  let f:List Field->Nat->Bool:=λfs off=>match fs with
   |f::fs=>Nat.beq f.offset off&&(QM P a).1 f.type&&(QM P b).2 fs (off+a.size)
   |[]=>false
  (λT=>(match P.underlying T with
   |some (.struct fs)=>f fs.toList 0
   |_=>false)&&kH P T (.pair a b),f)
 |.arr n t=>(λT=>(match P.underlying T with
  |some (.array m E)=>Nat.beq m n&&(QM P t).1 E
  |_=>false)&&kH P T (.arr n t),λ_ _=>false)
 |.sl o t=>(λT=>(match P.underlying T with
  |some (.slice E)=>(QM P t).1 E
  |_=>false)&&kH P T (.sl o t),λ_ _=>false)
 |.ptr t=>(λT=>(match P.underlying T with
  |some (.pointer _)=>true
  |_=>false)&&kH P T (.ptr t),λ_ _=>false)
 |.fn f c=>(λT=>(match P.underlying T with
  |some (.func _ _ _)=>true
  |some (.map _ _)=>true
  |_=>false)&&kH P T (.fn f c),λ_ _=>false)
 |.mp o=>(λT=>(match P.underlying T with
  |some (.map _ _)=>true
  |_=>false)&&kH P T (.mp o),λ_ _=>false)
 |.tree k=>(λT=>(match P.underlying T with
  |some (.struct _)=>Nat.beq T (za6 k)&&recOn k
  |_=>false)&&kH P T (.tree k),λ_ _=>false)
def FJ(P:Program)(t:Ty)(T:TypeId):Bool:=(QM P t).1 T
def MV(P:Program)(t:Ty)(fs:List Field)(off:Nat):Bool:=(QM P t).2 fs off
theorem z9s{P:Program}{k:IntKind}{T:TypeId}:FJ P (.int k) T=((match P.underlying T with
  |some (.int j)=>(match decEq j k with
   |isTrue _=>true
   |isFalse _=>false)
  |_=>false)&&kH P T (.int k)):=rfl
theorem z0a{P:Program}{T:TypeId}:FJ P .bool T=((match P.underlying T with
  |some .bool=>true
  |_=>false)&&kH P T .bool):=rfl
theorem z9q{P:Program}{T:TypeId}:FJ P .str T=((match P.underlying T with
  |some .string=>true
  |_=>false)&&kH P T .str):=rfl
theorem z9r{P:Program}{t:Ty}{T:TypeId}:FJ P (.ptr t) T=((match P.underlying T with
  |some (.pointer _)=>true
  |_=>false)&&kH P T (.ptr t)):=rfl
theorem zgt{P:Program}{f:Nat}{c:Ty}{T:TypeId}:FJ P (.fn f c) T=((match P.underlying T with
  |some (.func _ _ _)=>true
  |some (.map _ _)=>true
  |_=>false)&&kH P T (.fn f c)):=rfl
theorem zgs{P:Program}{o:Bool}{T:TypeId}:FJ P (.mp o) T=((match P.underlying T with
  |some (.map _ _)=>true
  |_=>false)&&kH P T (.mp o)):=rfl
theorem z08{P:Program}{k:Nat}{T:TypeId}:FJ P (.tree k) T=((match P.underlying T with
  |some (.struct _)=>Nat.beq T (za6 k)&&recOn k
  |_=>false)&&kH P T (.tree k)):=rfl
theorem z09{P:Program}{a b:Ty}{T:TypeId}:FJ P (.pair a b) T=((match P.underlying T with
  |some (.struct fs)=>MV P (.pair a b) fs.toList 0
  |_=>false)&&kH P T (.pair a b)):=rfl
theorem z9t{P:Program}{n:Nat}{t:Ty}{T:TypeId}:FJ P (.arr n t) T=((match P.underlying T with
  |some (.array m E)=>Nat.beq m n&&FJ P t E
  |_=>false)&&kH P T (.arr n t)):=rfl
theorem zgr{P:Program}{o:Bool}{t:Ty}{T:TypeId}:FJ P (.sl o t) T=((match P.underlying T with
  |some (.slice E)=>FJ P t E
  |_=>false)&&kH P T (.sl o t)):=rfl
theorem z4q{P:Program}{a b:Ty}{f:Field}{fs:List Field}{off:Nat}:MV P (.pair a b) (f::fs) off=(Nat.beq f.offset off&&FJ P a f.type&&MV P b fs (off+a.size)):=rfl
mutual
theorem tyB_ok{P:Program}:{t:Ty}->{T:TypeId}->FJ P t T=true->qv P t T
 |.int k,T,h=>by
  simp only[z9s,zA]at h;simp only[qv];refine⟨?_,gj h.2⟩;have h1:=h.1;split at h1
  ·rename_i j hj;split at h1
   ·rename_i hk _;rw[hj,hk]
   ·simp at h1
  ·simp at h1
 |.bool,T,h=>by
  simp only[z0a,zA]at h;simp only[qv];refine⟨?_,gj h.2⟩;have h1:=h.1;split at h1
  ·rename_i hj;exact hj
  ·simp at h1
 |.str,T,h=>by
  simp only[z9q,zA]at h;simp only[qv];refine⟨?_,gj h.2⟩;have h1:=h.1;split at h1
  ·rename_i hj;exact hj
  ·simp at h1
 |.unit,_,h=>by simp[FJ,QM]at h
 |.pair a b,T,h=>by
  simp only[z09,zA]at h;simp only[qv];refine⟨?_,gj h.2⟩;have h1:=h.1;split at h1
  ·rename_i fs hj;exact⟨fs,hj,z4r h1⟩
  ·simp at h1
 |.arr n t,T,h=>by
  simp only[z9t,zA]at h;simp only[qv];refine⟨?_,gj h.2⟩;have h1:=h.1;split at h1
  ·rename_i m E hj;simp only[zA,Q7]at h1;exact⟨E,by rw[hj,h1.1],tyB_ok h1.2⟩
  ·simp at h1
 |.sl o t,T,h=>by
  simp only[zgr,zA]at h;simp only[qv];refine⟨?_,gj h.2⟩;have h1:=h.1;split at h1
  ·rename_i E hj;exact⟨E,hj,tyB_ok h1⟩
  ·simp at h1
 |.ptr t,T,h=>by
  simp only[z9r,zA]at h;simp only[qv];refine⟨?_,gj h.2⟩;have h1:=h.1;split at h1
  ·rename_i E hj;exact⟨E,hj⟩
  ·simp at h1
 |.tree k,T,h=>by
  simp only[z08,zA]at h;simp only[qv];refine⟨?_,gj h.2⟩;have h1:=h.1;split at h1
  ·rename_i fs hj;rw[zA]at h1;exact⟨zE h1.1,h1.2,fs,hj⟩
  ·simp at h1
 |.mp o,T,h=>by
  simp only[zgs,zA]at h;simp only[qv];refine⟨?_,gj h.2⟩;have h1:=h.1;split at h1
  ·rename_i a b hj;exact⟨a,b,hj⟩
  ·simp at h1
 |.fn f c,T,h=>by
  simp only[zgt,zA]at h;simp only[qv];refine⟨?_,gj h.2⟩;have h1:=h.1;split at h1
  ·rename_i a b d hj;exact .inl ⟨a,b,d,hj⟩
  ·rename_i a b hj;exact .inr ⟨a,b,hj⟩
  ·simp at h1
theorem z4r{P:Program}:{t:Ty}->{fs:List Field}->{off:Nat}->MV P t fs off=true->vJ P t fs off
 |.pair a b,f::fs,off,h=>by
  simp only[z4q,zA,Q7]at h;simp only[vJ]
  exact⟨h.1.1,tyB_ok h.1.2,z4r h.2⟩
 |.unit,[],_,_=>by simp only[vJ]
 |.unit,_::_,_,h=>by simp[MV,QM]at h
 |.pair _ _,[],_,h=>by simp[MV,QM]at h
 |.int _,_,_,h=>by simp[MV,QM]at h
 |.bool,_,_,h=>by simp[MV,QM]at h
 |.str,_,_,h=>by simp[MV,QM]at h
 |.arr _ _,_,_,h=>by simp[MV,QM]at h
 |.sl _ _,_,_,h=>by simp[MV,QM]at h
 |.ptr _,_,_,h=>by simp[MV,QM]at h
 |.fn _ _,_,_,h=>by simp[MV,QM]at h
 |.tree _,_,_,h=>by simp[MV,QM]at h
 |.mp _,_,_,h=>by simp[MV,QM]at h
end
def RecOK(P:Program):Prop:=∀k,recOn k=true->qv P (.pair (uE k) (uD k)) (za6 k)
def p6(P:Program)(tt:Nat->Option Ty):Prop:=∀T u,tt T=some u->qv P u T
def ttB(P:Program):List (Nat×Ty)->Bool
 |[]=>true
 |(T,u)::l=>FJ P u T&&ttB P l
theorem z0b{P:Program}:{l:List (Nat×Ty)}->ttB P l=true->p6 P (yO l)
 |[],_,_,_,h=>by simp[yO]at h
 |(T,u)::l,hb,T',u',h=>by
  simp only[ttB,zA]at hb;simp only[yO]at h
  cases he:Nat.beq T T' with
  |true=>
   rw[he]at h;simp only[zB,zI]at h;subst h;rw[<-zE he]
   exact tyB_ok hb.1
  |false=>
   rw[he]at h;exact z0b hb.2 T' u' h
end Go.Kz
namespace Go.Kz
variable {R:Type}
def Jt:Ty->Path->Option Sk
 |t,[]=>some t.sk
 |.pair a _,.fst::p=>Jt a p
 |.pair _ b,.snd::p=>Jt b p
 |.arr _ t,.idx _::p=>Jt t p
 |.sl true t,.idx _::p=>Jt t p
 |_,_=>none
def Wp:Ty->Path->Option Ty
 |t,[]=>some t
 |.pair a _,.fst::p=>Wp a p
 |.pair _ b,.snd::p=>Wp b p
 |.arr _ t,.idx _::p=>Wp t p
 |.sl true t,.idx _::p=>Wp t p
 |_,_=>none
theorem X8:{t:Ty}->{p:Path}->{v:Ty}->Wp t p=some (.sl true v)->vW t p=some v
 |t,[],v,h=>by
  simp only[Wp,zI]at h
  subst h;rfl
 |.pair a _,.fst::p,v,h=>by simp only[Wp,vW]at h⊢;exact X8 h
 |.pair _ b,.snd::p,v,h=>by simp only[Wp,vW]at h⊢;exact X8 h
 |.arr _ t,.idx _::p,v,h=>by simp only[Wp,vW]at h⊢;exact X8 h
 |.sl true t,.idx _::p,v,h=>by simp only[Wp,vW]at h⊢;exact X8 h
 |.sl true _,.fst::_,_,h |.sl true _,.snd::_,_,h=>by simp[Wp]at h
 |.sl false _,s::_,_,h=>by grind[Wp]
 |.int _,s::_,_,h=>by grind[Wp]
 |.bool,s::_,_,h=>by grind[Wp]
 |.str,s::_,_,h=>by grind[Wp]
 |.unit,s::_,_,h=>by grind[Wp]
 |.ptr _,s::_,_,h=>by grind[Wp]
 |.fn _ _,s::_,_,h=>by grind[Wp]
 |.tree _,s::_,_,h=>by grind[Wp]
 |.mp _,s::_,_,h=>by grind[Wp]
 |.pair _ _,.idx _::_,_,h=>by simp[Wp]at h
 |.arr _ _,.fst::_,_,h |.arr _ _,.snd::_,_,h=>by simp[Wp]at h
theorem gV{g:z8}{id:Nat}{j:Int}{bk o n cp:Nat}:{t:Ty}->{pre:Path}->{b off:Nat}->{p:Path}->{v:Ty}->{x:Nat×Nat}->vW t p=some v->place g id t pre b off p=some x->
  g.sv id (pre++p)=.slice (some ⟨bk,o,none⟩) n cp->place g id t pre b off (p++[.idx j])=some (bk,o+j.toNat*v.size)
 |.sl true t,pre,b,off,[],v,x,hq,_,yZ=>by
  grind[vW,place]
 |.pair a _,pre,b,off,.fst::p,v,x,hq,hp,yZ=>by
  simp only[vW,place,QI]at hq hp⊢
  exact gV hq hp (by rw[PF];exact yZ)
 |.pair _ c,pre,b,off,.snd::p,v,x,hq,hp,yZ=>by
  simp only[vW,place,QI]at hq hp⊢
  exact gV hq hp (by rw[PF];exact yZ)
 |.arr _ t,pre,b,off,.idx i::p,v,x,hq,hp,yZ=>by
  simp only[vW,place,QI]at hq hp⊢
  exact gV hq hp (by rw[PF];exact yZ)
 |.sl true t,pre,b,off,.idx i::p,v,x,hq,hp,yZ=>by
  simp only[vW,place,QI]at hq hp⊢;split at hp
  ·exact gV hq hp (by rw[PF];exact yZ)
  grind
 |.sl true _,_,_,_,.fst::_,_,_,h,_,_ |.sl true _,_,_,_,.snd::_,_,_,h,_,_=>by simp[vW]at h
 |.sl false _,_,_,_,p,_,_,h,_,_=>by grind[vW]
 |.int _,_,_,_,p,_,_,h,_,_=>by grind[vW]
 |.bool,_,_,_,p,_,_,h,_,_=>by grind[vW]
 |.str,_,_,_,p,_,_,h,_,_=>by grind[vW]
 |.unit,_,_,_,p,_,_,h,_,_=>by grind[vW]
 |.ptr _,_,_,_,p,_,_,h,_,_=>by grind[vW]
 |.fn _ _,_,_,_,p,_,_,h,_,_=>by grind[vW]
 |.tree _,_,_,_,p,_,_,h,_,_=>by grind[vW]
 |.mp _,_,_,_,p,_,_,h,_,_=>by grind[vW]
 |.pair _ _,_,_,_,[],_,_,h,_,_=>by simp[vW]at h
 |.pair _ _,_,_,_,.idx _::_,_,_,h,_,_=>by simp[vW]at h
 |.arr _ _,_,_,_,[],_,_,h,_,_=>by simp[vW]at h
 |.arr _ _,_,_,_,.fst::_,_,_,h,_,_ |.arr _ _,_,_,_,.snd::_,_,_,h,_,_=>by simp[vW]at h
theorem Dt{p q:Path}(h:q.length<p.length):¬p <+: q:=by
 grind
theorem ZZ(l:List Value)(off n m:Nat)(h:off+(n+m)<=l.length):qS l off (n+m)=qS l off n++qS l (off+n) m:=by
 grind[qS,List.drop_drop]
theorem Xg{l:List Value}{off:Nat}{x:Value}(h:off<l.length):qS (zD l off [x]) off 1=[x]:=uq l off [x] (by grind)
theorem N5.side{w w':World}{g g':z8}{id b0:Nat}{p q:Path}(hn:N5 w g w' g' id p b0)(hq:∀r,¬p <+: q++r)(hB:∀r,g.tag b0≠.row id (q++r)):xG w g w' g' id q id q:=
 ⟨λr=>hn.sv _ (hq r),λr b hb=>let h:=hn.qp _ b hb (hq r);⟨h.1,h.2 (λhe=>hB r (he ▸ hb))⟩⟩
def Rw(w:World)(g:z8)(id:Nat)(t:Ty):Prop:=
 ∀{R:Type}{pre:Path}{d:t.den}{p:Path}{v:Ty}{k:(u:Ty)->u.den->Option R}{r:R}{b off:Nat}{c:Array Value}{e:TypeId}{pb:Path},
  vW t p=some v->g.tag b=.row id pb->pb.length<pre.length->w.heap[b]? = some (.cells c e (0,0))->off+t.size<=c.size->zN w g (some (id,pre)) t d (qS c.toList off t.size)->zb t d p k=some r->
  ∃(l1:List v.den)(bh oh:Nat)(ch:Array Value)(eh:TypeId)(ph:Path),k (.sl true v) l1=some r/\place g id t pre b off p=some (bh,oh)/\g.tag bh=.row id ph/\ph.length<(pre++p).length/\
   w.heap[bh]? = some (.cells ch eh (0,0))/\oh<ch.size/\zN w g (some (id,pre++p)) (.sl true v) l1 (qS ch.toList oh 1)/\(bh=b\/(bh≠b/\pre <+: ph))/\
   ∀(w':World)(g':z8)(l':List v.den)(x:Value),N5 w g w' g' id (pre++p) bh->w'.heap[bh]? = some (.cells (zD ch.toList oh [x]).toArray eh (0,0))->zN w' g' (some (id,pre++p)) (.sl true v) l' [x]->
    ∀{R':Type}(f:t.den->Option R')(r':R'),jn t d p (.sl true v) l' f=some r'->
     ∃d',f d'=some r'/\∃c',w'.heap[b]? = some (.cells c' e (0,0))/\c'.size=c.size/\(∀a n,a+n<=off\/off+t.size<=a->qS c'.toList a n=qS c.toList a n)/\zN w' g' (some (id,pre)) t d' (qS c'.toList off t.size)
theorem Gr{w:World}{g:z8}{id:Nat}{t:Ty}(ih:Rw w g id t){pre:Path}{l:List t.den}{i:Int}{p:Path}{v:Ty}{k:(u:Ty)->u.den->Option R}{r:R}{hd:Value}
  (wu:vW t p=some v) (zF:zN w g (some (id,pre)) (.sl true t) l [hd]) (h:zb (.sl true t) l (.idx i::p) k=some r) :
  ∃(l1:List v.den)(bh oh:Nat)(ch:Array Value)(eh:TypeId)(ph:Path),k (.sl true v) l1=some r/\(∀b off,place g id (.sl true t) pre b off (.idx i::p)=some (bh,oh))/\g.tag bh=.row id ph/\
   ph.length<(pre++.idx i::p).length/\pre <+: ph/\w.heap[bh]? = some (.cells ch eh (0,0))/\oh<ch.size/\zN w g (some (id,pre++.idx i::p)) (.sl true v) l1 (qS ch.toList oh 1)/\
   ∀(w':World)(g':z8)(l':List v.den)(x:Value),N5 w g w' g' id (pre++.idx i::p) bh->w'.heap[bh]? = some (.cells (zD ch.toList oh [x]).toArray eh (0,0))->zN w' g' (some (id,pre++.idx i::p)) (.sl true v) l' [x]->
    ∀{R':Type}(f:List t.den->Option R')(r':R'),jn (.sl true t) l (.idx i::p) (.sl true v) l' f=some r'->∃l2,f l2=some r'/\l2.length=l.length/\zN w' g' (some (id,pre)) (.sl true t) l2 [hd]:=by
 simp only[zb,WZ]at h;obtain⟨x,hx,h⟩:=h;obtain⟨h0,hi,rfl,qk⟩:=jr hx;obtain⟨a,cap,pe,yZ,K5,Vn,wy⟩:=zF;have Mw:((i.toNat:Nat):Int)=i:=Z20 h0;rcases wy with⟨_,hl,_⟩|⟨b,o,c,e,rfl,zS,zZ,qG,ja⟩
 ·omega
 ·have Qf:(i.toNat+1)*t.size<=cap*t.size:=kn _ (by omega);rw[kq]at Qf;have xe:=ja _ hi;rw[Mw]at xe;obtain⟨l1,bh,oh,ch,eh,ph,hk,p8,wq,FG,ug,Tp,gB,halt,hw⟩:=ih wu zS (by simp) zZ (by omega) xe h;have EZ:pre++[Step.idx i]++p=pre++.idx i::p:=by simp
  rw[EZ]at FG gB;have xB:pre <+: ph:=by
   rcases halt with rfl|⟨_,⟨z,hz⟩⟩
   all_goals grind
  refine⟨l1,bh,oh,ch,eh,ph,hk,λb' VF=>?_,wq,FG,xB,ug,Tp,gB,λw' g' l' x hn D7 PQ R' f r' wE=>?_⟩
  ·grind[place]
  ·simp only[jn]at wE;rw[hx]at wE;simp only[zK]at wE;obtain⟨d',hf,c',Uq,xu,Qj,uV⟩:=hw w' g' l' x (by grind) D7 (by grind) _ _ wE;have hnp:¬(pre++.idx i::p) <+: pre:=Dt (by simp);refine⟨_,hf,qJ _ _ _,some ⟨b,o,none⟩,cap,by grind[qJ],by rw[qJ,hn.sv _ hnp];exact yZ,by grind[qJ],Vn,.inr ⟨b,o,c',e,rfl,(hn.qp _ b zS hnp).1,Uq,by omega,λj hj=>?_⟩⟩;have Zy:j<l.length:=by grind[qJ]
   rw[Zx];by_cases Ze:i.toNat=j
   ·grind
   ·rw[qW Ze];have zpf:xG w g w' g' id (pre++[Step.idx (j:Int)]) id (pre++[Step.idx (j:Int)]):=by
     refine hn.side (λz hz=>?_) (λz hz=>?_)
     all_goals grind[List.prefix_append_right_inj]
    have:=zN.move hn.ro (o:=some (id,pre++[Step.idx (j:Int)])) (o':=some (id,pre++[Step.idx (j:Int)])) zpf (ja j Zy);rw[Qj _ _ (by
     rcases Z33 Ze with Vf|SD
     ·right;have h3:(i.toNat+1)*t.size<=j*t.size:=kn _ Vf
      grind
     ·left;have h3:(j+1)*t.size<=i.toNat*t.size:=kn _ SD
      grind)]
    exact this
theorem focus(w:World)(g:z8)(id:Nat):(t:Ty)->Rw w g id t
 |.sl true t=>by
  rename_i R pre p v k r b off c e pb d;intro wu zS hpb zZ qG zF h;have uk:c.toList.length=c.size:=vl
  cases p with
  |nil=>
   simp only[vW,zI]at wu;subst wu;have h':k (.sl true t) d=some r:=by simpa[zb]using h
   have Pa:off+1<=c.size:=qG;refine⟨d,b,off,c,e,pb,h',by simp[place],zS,by simpa using hpb,zZ,by omega,by rw[DX];exact zF,.inl rfl,λw' g' l' x hn D7 PQ R' f r' wE=>?_⟩;have zpi:u4 (.sl true t) (.sl true t) l' f=some r':=by simpa[jn]using wE
   obtain⟨hh,hf⟩:=yY zpi;refine⟨_,hf,_,D7,by rw[Z24,j5 _ _ _ (by simp;omega),uk],λa n han=>?_,?_⟩
   ·rcases han with han|han
    ·exact jy _ _ _ _ _ han (by omega)
    ·have q0i:off+1<=a:=han;exact vu _ _ _ _ _ (by simpa using q0i) (by simp;omega)
   ·show zN w' g' (some (id,pre)) (.sl true t) l' (qS (zD c.toList off [x]) off 1);rw[Xg (by omega)]
    simpa using PQ
  |cons s q=>
   cases s with
   |fst=>simp[vW]at wu
   |snd=>simp[vW]at wu
   |idx i=>
    simp only[vW]at wu;have Pa:off+1<=c.size:=qG;have hlen:(qS c.toList off 1).length=1:=yS (by omega);obtain⟨hd,hhd⟩:=Z28.1 hlen;have K2:zN w g (some (id,pre)) (.sl true t) d [hd]:=by rw[<-hhd];exact zF
    obtain⟨l1,bh,oh,ch,eh,ph,hk,p8,wq,FG,xB,ug,Tp,gB,hw⟩:=Gr (focus w g id t) wu K2 h;have vg:bh≠b:=by
     intro he;subst he;rw[zS]at wq;simp only[Tag.row.injEq,Ur]at wq;subst wq;have:=xB.length_le;omega
    refine⟨l1,bh,oh,ch,eh,ph,hk,p8 b off,wq,FG,ug,Tp,gB,.inr ⟨vg,xB⟩,λw' g' l' x hn D7 PQ R' f r' wE=>?_⟩;obtain⟨l2,hf,Tu,uV⟩:=hw w' g' l' x hn D7 PQ f r' wE;refine⟨l2,hf,c,?_,rfl,λ_ _ _=>rfl,?_⟩
    ·rw[(hn.qp pb b zS (Dt (by simp;omega))).2 (λhe=>vg he.symm)];exact zZ
    ·show zN w' g' (some (id,pre)) (.sl true t) l2 (qS c.toList off 1)
     rw[hhd];exact uV
 |.pair ta tb=>by
  rename_i R pre p v k r b off c e pb d;intro wu zS hpb zZ qG zF h;have uk:c.toList.length=c.size:=vl;obtain⟨x,y⟩:=d;obtain⟨c1,c2,hcc,h1,h2⟩:=zF;have hs:off+(ta.size+tb.size)<=c.size:=qG;have hsp:=ZZ c.toList off ta.size tb.size (by omega);have Hs:qS c.toList off (ta.size+tb.size)=c1++c2:=hcc;rw[hsp]at Hs;obtain⟨e1,e2⟩:=Z3r Hs (by rw[yS (by omega),h1.len]);rw[<-e1]at h1;rw[<-e2]at h2;have h1:zN w g (some (id,pre++[Step.fst])) ta x (qS c.toList off ta.size):=h1;have h2:zN w g (some (id,pre++[Step.snd])) tb y (qS c.toList (off+ta.size) tb.size):=h2
  cases p with
  |nil=>simp[vW]at wu
  |cons s q=>
   cases s with
   |idx i=>simp[vW]at wu
   |fst=>
    simp only[vW]at wu;simp only[zb]at h;obtain⟨l1,bh,oh,ch,eh,ph,hk,p8,wq,FG,ug,Tp,gB,halt,hw⟩:=focus w g id ta (pre:=pre++[.fst]) wu zS (by simp;omega) zZ (by omega) h1 h;have EZ:pre++[Step.fst]++q=pre++.fst::q:=by simp
    rw[EZ]at FG gB;refine⟨l1,bh,oh,ch,eh,ph,hk,by simp only[place];exact p8,wq,FG,ug,Tp,gB,halt.imp_right (λz=>⟨z.1,(Z4u pre [.fst]).trans z.2⟩),λw' g' l' x' hn D7 PQ R' f r' wE=>?_⟩;simp only[jn]at wE;obtain⟨d',hf,c',Uq,xu,Qj,uV⟩:=hw w' g' l' x' (by rw[EZ];exact hn) D7 (by rw[EZ];exact PQ) _ _ wE;have Po:c'.toList.length=c'.size:=vl;refine⟨_,hf,c',Uq,xu,λa n han=>Qj a n (by have:(Ty.pair ta tb).size=ta.size+tb.size:=rfl;omega),qS c'.toList off ta.size,qS c'.toList (off+ta.size) tb.size,?_,uV,?_⟩
    ·exact ZZ _ _ _ _ (by omega)
    ·rw[Qj _ _ (.inr (yH _))];refine zN.move hn.ro (o:=some (id,pre++[Step.snd])) (o':=some (id,pre++[Step.snd])) (hn.side (λz hz=>?_) (λz hz=>?_)) h2
     ·rw[PF,Z48]at hz;obtain⟨y',hy⟩:=hz;simp at hy
     ·rw[wq]at hz;simp only[Tag.row.injEq,Ur]at hz;rcases halt with rfl|⟨_,⟨y',hy⟩⟩
      ·rw[zS]at wq;simp only[Tag.row.injEq,Ur]at wq;rw[<-wq]at hz;have:=Jn List.length hz;simp at this;omega
      ·rw[<-hy,PF,PF]at hz;have:=Z4v hz
       simp at this
   |snd=>
    simp only[vW]at wu;simp only[zb]at h;obtain⟨l1,bh,oh,ch,eh,ph,hk,p8,wq,FG,ug,Tp,gB,halt,hw⟩:=focus w g id tb (pre:=pre++[.snd]) wu zS (by simp;omega) zZ (by omega) h2 h;have EZ:pre++[Step.snd]++q=pre++.snd::q:=by simp
    rw[EZ]at FG gB;refine⟨l1,bh,oh,ch,eh,ph,hk,by simp only[place];exact p8,wq,FG,ug,Tp,gB,halt.imp_right (λz=>⟨z.1,(Z4u pre [.snd]).trans z.2⟩),λw' g' l' x' hn D7 PQ R' f r' wE=>?_⟩;simp only[jn]at wE;obtain⟨d',hf,c',Uq,xu,Qj,uV⟩:=hw w' g' l' x' (by rw[EZ];exact hn) D7 (by rw[EZ];exact PQ) _ _ wE;have Po:c'.toList.length=c'.size:=vl;refine⟨_,hf,c',Uq,xu,λa n han=>Qj a n (by have:(Ty.pair ta tb).size=ta.size+tb.size:=rfl;omega),qS c'.toList off ta.size,qS c'.toList (off+ta.size) tb.size,?_,?_,uV⟩
    ·exact ZZ _ _ _ _ (by omega)
    ·rw[Qj _ _ (.inl (yH _))];refine zN.move hn.ro (o:=some (id,pre++[Step.fst])) (o':=some (id,pre++[Step.fst])) (hn.side (λz hz=>?_) (λz hz=>?_)) h1
     ·rw[PF,Z48]at hz;obtain⟨y',hy⟩:=hz;simp at hy
     ·rw[wq]at hz;simp only[Tag.row.injEq,Ur]at hz;rcases halt with rfl|⟨_,⟨y',hy⟩⟩
      ·rw[zS]at wq;simp only[Tag.row.injEq,Ur]at wq;rw[<-wq]at hz;have:=Jn List.length hz;simp at this;omega
      ·rw[<-hy,PF,PF]at hz;have:=Z4v hz
       simp at this
 |.arr n t=>by
  rename_i R pre p v k r b off c e pb d;intro wu zS hpb zZ qG zF h;have uk:c.toList.length=c.size:=vl;have hs:off+n*t.size<=c.size:=qG
  cases p with
  |nil=>simp[vW]at wu
  |cons s q=>
   cases s with
   |fst=>simp[vW]at wu
   |snd=>simp[vW]at wu
   |idx i=>
    simp only[vW]at wu;simp only[zb,WZ]at h;obtain⟨x,hx,h⟩:=h;obtain⟨h0,hi,rfl,qk⟩:=jr hx;have Mw:((i.toNat:Nat):Int)=i:=Z20 h0;obtain⟨D2,K5,ja⟩:=zF;have xX:i.toNat<n:=by rw[<-D2];exact hi
    have hmul:(i.toNat+1)*t.size<=n*t.size:=kn _ xX;rw[kq]at hmul;have z4g:∀(j:Nat)(hj:j<List.length d),zN w g (some (id,pre++[Step.idx (j:Int)])) t (List.get d ⟨j,hj⟩) (qS c.toList (off+j*t.size) t.size):=by
     intro j hj;have VQ:j<n:=by rw[<-D2];exact hj
     have h3:(j+1)*t.size<=n*t.size:=kn _ VQ;rw[kq]at h3;have:=ja j hj;rw[show(Ty.arr n t).size=n*t.size from rfl,pP _ _ _ _ _ (by omega)]at this;exact this
    have xe:=z4g _ hi;rw[Mw]at xe;obtain⟨l1,bh,oh,ch,eh,ph,hk,p8,wq,FG,ug,Tp,gB,halt,hw⟩:=focus w g id t (pre:=pre++[.idx i]) wu zS (by simp;omega) zZ (by omega) xe h;have EZ:pre++[Step.idx i]++q=pre++.idx i::q:=by simp
    rw[EZ]at FG gB;refine⟨l1,bh,oh,ch,eh,ph,hk,by simp only[place];exact p8,wq,FG,ug,Tp,gB,halt.imp_right (λz=>⟨z.1,(Z4u pre [.idx i]).trans z.2⟩),λw' g' l' x' hn D7 PQ R' f r' wE=>?_⟩;simp only[jn]at wE;rw[hx]at wE;simp only[zK]at wE;obtain⟨d',hf,c',Uq,xu,Qj,uV⟩:=hw w' g' l' x' (by rw[EZ];exact hn) D7 (by rw[EZ];exact PQ) _ _ wE;have Po:c'.toList.length=c'.size:=vl;refine⟨_,hf,c',Uq,xu,λa m han=>Qj a m (by have:(Ty.arr n t).size=n*t.size:=rfl;omega),by rw[qJ];exact D2,by rw[yS (by rw[Po,xu];exact qG)];rfl,λj hj=>?_⟩;have Zy:j<List.length d:=by rw[qJ]at hj;exact hj
    have VQ:j<n:=by rw[<-D2];exact Zy
    have h3:(j+1)*t.size<=n*t.size:=kn _ VQ;rw[kq]at h3;rw[show(Ty.arr n t).size=n*t.size from rfl,pP _ _ _ _ _ (by omega),Zx];by_cases Ze:i.toNat=j
    ·rw[yX Ze];subst Ze;show zN w' g' (some (id,pre++[Step.idx ((i.toNat:Nat):Int)])) t d' _;rw[Mw];exact uV
    ·rw[qW Ze,Qj _ _ (by
      rcases Z33 Ze with Vf|SD
      ·right;have h3:(i.toNat+1)*t.size<=j*t.size:=kn _ Vf;rw[kq]at h3;omega
      ·left;have h3:(j+1)*t.size<=i.toNat*t.size:=kn _ SD;rw[kq]at h3;omega)]
     refine zN.move hn.ro (o:=some (id,pre++[Step.idx (j:Int)])) (o':=some (id,pre++[Step.idx (j:Int)])) (hn.side (λz hz=>?_) (λz hz=>?_)) (z4g j Zy)
     ·rw[PF,Z48]at hz;obtain⟨y,hy⟩:=hz;simp only[QI,Ql,N0,Step.idx.injEq]at hy;exact Ze (by rw[hy.1];simp)
     ·rw[wq]at hz;simp only[Tag.row.injEq,Ur]at hz;rcases halt with rfl|⟨_,⟨y,hy⟩⟩
      ·rw[zS]at wq;simp only[Tag.row.injEq,Ur]at wq;rw[<-wq]at hz;have:=Jn List.length hz;simp at this;omega
      ·rw[<-hy,PF,PF]at hz;have:=Z4v hz;simp only[QI,Ql,N0,Step.idx.injEq]at this
       exact Ze (by rw[this.1];simp)
 |.int _ |.bool |.str |.unit |.sl false _ |.ptr _ |.fn _ _ |.tree _ |.mp _=>by
  intro wu;simp[vW]at wu
theorem z1w{w:World}{g:z8}{id:Nat}:{t:Ty}->{pre:Path}->{d:t.den}->{p:Path}->{k:(u:Ty)->u.den->Option R}->{r:R}->{b off:Nat}->{c:Array Value}->{e:TypeId}->{pb:Path}->
  g.tag b=.row id pb->w.heap[b]? = some (.cells c e (0,0))->off+t.size<=c.size->zN w g (some (id,pre)) t d (qS c.toList off t.size)->zb t d p k=some r->
  ∃(u:Ty)(x:u.den)(bh oh:Nat)(ch:Array Value)(eh:TypeId)(ph:Path),k u x=some r/\place g id t pre b off p=some (bh,oh)/\Jt t p=some u.sk/\Wp t p=some u/\g.tag bh=.row id ph/\
   w.heap[bh]? = some (.cells ch eh (0,0))/\oh+u.size<=ch.size/\zN w g (some (id,pre++p)) u x (qS ch.toList oh u.size)
 |t,pre,d,[],k,r,b,off,c,e,pb,zS,zZ,qG,zF,h=>by
  have h':k t d=some r:=by cases t<;>simpa[zb]using h
  exact⟨t,d,b,off,c,e,pb,h',by simp[place],by simp[Jt],by simp[Wp],zS,zZ,qG,by simpa using zF⟩
 |.pair ta tb,pre,(x,y),.fst::q,k,r,b,off,c,e,pb,zS,zZ,qG,zF,h=>by
  have uk:c.toList.length=c.size:=vl;simp only[zb]at h;obtain⟨c1,c2,hcc,h1,h2⟩:=zF;have hs:off+(ta.size+tb.size)<=c.size:=qG;have Hs:qS c.toList off (ta.size+tb.size)=c1++c2:=hcc;rw[ZZ c.toList off ta.size tb.size (by omega)]at Hs;obtain⟨e1,e2⟩:=Z3r Hs (by rw[yS (by omega),h1.len]);rw[<-e1]at h1;have h1:zN w g (some (id,pre++[Step.fst])) ta x (qS c.toList off ta.size):=h1;have:=z1w (pre:=pre++[.fst]) zS zZ (by omega) h1 h
  simpa[place,Jt,Wp]using this
 |.pair ta tb,pre,(x,y),.snd::q,k,r,b,off,c,e,pb,zS,zZ,qG,zF,h=>by
  have uk:c.toList.length=c.size:=vl;simp only[zb]at h;obtain⟨c1,c2,hcc,h1,h2⟩:=zF;have hs:off+(ta.size+tb.size)<=c.size:=qG;have Hs:qS c.toList off (ta.size+tb.size)=c1++c2:=hcc;rw[ZZ c.toList off ta.size tb.size (by omega)]at Hs;obtain⟨e1,e2⟩:=Z3r Hs (by rw[yS (by omega),h1.len]);rw[<-e2]at h2;have h2:zN w g (some (id,pre++[Step.snd])) tb y (qS c.toList (off+ta.size) tb.size):=h2;have:=z1w (pre:=pre++[.snd]) zS zZ (by omega) h2 h
  simpa[place,Jt,Wp]using this
 |.arr n t,pre,d,.idx i::q,k,r,b,off,c,e,pb,zS,zZ,qG,zF,h=>by
  have uk:c.toList.length=c.size:=vl;have hs:off+n*t.size<=c.size:=qG;simp only[zb,WZ]at h;obtain⟨x,hx,h⟩:=h;obtain⟨h0,hi,rfl,qk⟩:=jr hx;have Mw:((i.toNat:Nat):Int)=i:=Z20 h0;obtain⟨D2,K5,ja⟩:=zF;have xX:i.toNat<n:=by rw[<-D2];exact hi
  have hmul:(i.toNat+1)*t.size<=n*t.size:=kn _ xX;rw[kq]at hmul;have xe:zN w g (some (id,pre++[Step.idx ((i.toNat:Nat):Int)])) t _ _:=ja _ hi;rw[Mw,show(Ty.arr n t).size=n*t.size from rfl,pP _ _ _ _ _ (by omega)]at xe;have:=z1w (pre:=pre++[.idx i]) zS zZ (by omega) xe h
  simpa[place,Jt,Wp]using this
 |.sl true t,pre,d,.idx i::q,k,r,b,off,c,e,pb,zS,zZ,qG,zF,h=>by
  simp only[zb,WZ]at h;obtain⟨x,hx,h⟩:=h;obtain⟨h0,hi,rfl,qk⟩:=jr hx;have Mw:((i.toNat:Nat):Int)=i:=Z20 h0;obtain⟨a,cap,pe,yZ,K5,Vn,wy⟩:=zF;rcases wy with⟨_,hl,_⟩|⟨b2,o2,c2,e2,rfl,Co,Qv,xu,ja⟩
  ·rw[hl]at hi;simp at hi
  ·have Qf:(i.toNat+1)*t.size<=cap*t.size:=kn _ (by omega);rw[kq]at Qf;have xe:=ja _ hi;rw[Mw]at xe;have:=z1w (pre:=pre++[.idx i]) Co Qv (by omega) xe h
   simpa[place,Jt,Wp,yZ]using this
 |.sl true _,_,_,.fst::_,_,_,_,_,_,_,_,_,_,_,_,h=>by simp[zb]at h
 |.sl true _,_,_,.snd::_,_,_,_,_,_,_,_,_,_,_,_,h=>by simp[zb]at h
 |.sl false _,_,_,s::_,_,_,_,_,_,_,_,_,_,_,_,h=>by cases s<;>simp[zb]at h
 |.int _,_,_,s::_,_,_,_,_,_,_,_,_,_,_,_,h=>by cases s<;>simp[zb]at h
 |.bool,_,_,s::_,_,_,_,_,_,_,_,_,_,_,_,h=>by cases s<;>simp[zb]at h
 |.str,_,_,s::_,_,_,_,_,_,_,_,_,_,_,_,h=>by cases s<;>simp[zb]at h
 |.unit,_,_,s::_,_,_,_,_,_,_,_,_,_,_,_,h=>by cases s<;>simp[zb]at h
 |.ptr _,_,_,s::_,_,_,_,_,_,_,_,_,_,_,_,h=>by cases s<;>simp[zb]at h
 |.fn _ _,_,_,s::_,_,_,_,_,_,_,_,_,_,_,_,h=>by cases s<;>simp[zb]at h
 |.tree _,_,_,s::_,_,_,_,_,_,_,_,_,_,_,_,h=>by cases s<;>simp[zb]at h
 |.mp _,_,_,s::_,_,_,_,_,_,_,_,_,_,_,_,h=>by cases s<;>simp[zb]at h
 |.pair _ _,_,(_,_),.idx _::_,_,_,_,_,_,_,_,_,_,_,_,h=>by simp[zb]at h
 |.arr _ _,_,_,.fst::_,_,_,_,_,_,_,_,_,_,_,_,h=>by simp[zb]at h
 |.arr _ _,_,_,.snd::_,_,_,_,_,_,_,_,_,_,_,_,h=>by simp[zb]at h
theorem ZG{w:World}{g:z8}{J:St}(hh:yC w g J.z6){pt:Bool}{id:Nat}{p:Path}{ep:Nat}{k:(u:Ty)->u.den->Option R}{r:R}(h:xT J pt id p ep k=some r):
  ∃t l e i,J.z6 id=some (.nest t l e i none)/\HG pt p e i=ep/\zN w g (some (id,[])) (.sl true t) l [g.sv id []]/\zb (.sl true t) l p k=some r:=by
 unfold xT at h;split at h
 ·rename_i t l e i ho
  cases hb:Nat.beq (HG pt p e i) ep with
  |false=>rw[hb]at h;simp at h
  |true=>
   rw[hb]at h;exact⟨t,l,e,i,ho,zE hb,hh.z6 id _ ho,h⟩
 ·simp at h
theorem pM{w:World}{g:z8}{id:Nat}{t:Ty}{l:List t.den}{s:Step}{p:Path}{k:(u:Ty)->u.den->Option R}{r:R}(zF:zN w g (some (id,[])) (.sl true t) l [g.sv id []])
  (h:zb (.sl true t) l (s::p) k=some r):∃(u:Ty)(x:u.den)(bh oh:Nat)(ch:Array Value)(eh:TypeId)(ph:Path),k u x=some r/\place g id (.sl true t) [] 0 0 (s::p)=some (bh,oh)/\
   Jt (.sl true t) (s::p)=some u.sk/\Wp (.sl true t) (s::p)=some u/\g.tag bh=.row id ph/\w.heap[bh]? = some (.cells ch eh (0,0))/\oh+u.size<=ch.size/\zN w g (some (id,s::p)) u x (qS ch.toList oh u.size):=by
 cases s with
 |fst=>simp[zb]at h
 |snd=>simp[zb]at h
 |idx i=>
  simp only[zb,WZ]at h;obtain⟨x,hx,h⟩:=h;obtain⟨h0,hi,rfl,qk⟩:=jr hx;have Mw:((i.toNat:Nat):Int)=i:=Z20 h0;obtain⟨a,cap,pe,yZ,K5,Vn,wy⟩:=zF;rcases wy with⟨_,hl,_⟩|⟨b2,o2,c2,e2,rfl,Co,Qv,xu,ja⟩
  ·rw[hl]at hi;simp at hi
  ·have Qf:(i.toNat+1)*t.size<=cap*t.size:=kn _ (by omega);rw[kq]at Qf;have xe:=ja _ hi;rw[Mw]at xe;have:=z1w (pre:=[.idx i]) Co Qv (by omega) xe h;simpa[place,Jt,Wp,yZ]using this
theorem U5{w:World}{g:z8}{J:St}(hh:yC w g J.z6){id:Nat}{p:Path}{ep:Nat}{k:(v:Ty)->List v.den->Option R}{r:R}(h:Xl J id p ep k=some r):
  ∃t l0 e i v l,J.z6 id=some (.nest t l0 e i none)/\HG false p e i=ep/\zN w g (some (id,p)) (.sl true v) l [g.sv id p]/\k v l=some r/\vW (.sl true t) p=some v/\∃x,place g id (.sl true t) [] 0 0 p=some x:=by
 unfold Xl at h;obtain⟨t,l0,e,i,ho,Br,zF,h⟩:=ZG hh h
 cases p with
 |nil=>
  have h':k t l0=some r:=by simpa[zb]using h
  exact⟨t,l0,e,i,t,l0,ho,Br,zF,h',rfl,(0,0),by simp[place]⟩
 |cons s q=>
  obtain⟨u,x,bh,oh,ch,eh,ph,hk,p8,_,Qc,_,_,_,hr⟩:=pM zF h
  cases u with
  |sl o v=>
   cases o with
   |false=>simp at hk
   |true=>
    refine⟨t,l0,e,i,v,x,ho,Br,?_,hk,X8 Qc,_,p8⟩;obtain⟨a,cap,pe,yZ,h1⟩:=hr
    exact⟨a,cap,by rw[yZ],yZ,h1⟩
  |_=>simp at hk
end Go.Kz
namespace Go.Kz
variable {R:Type}
def CA(g:z8):z8:={ g with tag:=λb=>match g.tag b with
 |.zt=>.zt
 |_=>.ro }
theorem YQ(w:World)(g:z8):zT w g w (CA g):=⟨λb hb=>⟨by simp[CA,hb],rfl⟩⟩
theorem Zt(w:World)(g:z8)(id:Nat)(p:Path):Zz w g w (CA g) id p:=⟨λq b hb=>⟨by simp[CA,hb],rfl⟩⟩
theorem Nu{g:z8}{b id:Nat}{p:Path}(h:g.tag b=.row id p):(CA g).tag b=.ro:=by simp[CA,h]
theorem Ty.gZ:(t:Ty)->t.ro.zG=true
 |.int _=>rfl
 |.bool=>rfl
 |.str=>rfl
 |.unit=>rfl
 |.pair a b=>by simp[Ty.ro,Ty.zG,Ty.gZ a,Ty.gZ b]
 |.arr _ t=>by simp[Ty.ro,Ty.zG,Ty.gZ t]
 |.sl _ t=>by simp[Ty.ro,Ty.zG,Ty.gZ t]
 |.ptr t=>by simp[Ty.ro,Ty.zG,Ty.gZ t]
 |.fn _ c=>by simp[Ty.ro,Ty.zG,Ty.gZ c]
 |.tree _=>rfl
 |.mp _=>rfl
theorem ZI:{t:Ty}->{d:t.den}->{p:Path}->{k:(u:Ty)->u.den->Option R}->{r:R}->t.zG=true->zb t d p k=some r->
  ∃u e,k u e=some r/\u.zG=true
 |t,d,[],k,r,ht,h=>⟨t,d,by cases t<;>simpa[zb]using h,ht⟩
 |.pair a b,(x,y),.fst::p,k,r,ht,h=>by
  simp only[zb]at h;simp only[Ty.zG,zA]at ht
  exact ZI ht.1 h
 |.pair a b,(x,y),.snd::p,k,r,ht,h=>by
  simp only[zb]at h;simp only[Ty.zG,zA]at ht
  exact ZI ht.2 h
 |.arr n t,l,.idx i::p,k,r,ht,h=>by
  simp only[zb,WZ]at h;obtain⟨x,_,h⟩:=h
  exact ZI (by simpa[Ty.zG]using ht) h
 |.sl true t,l,.idx i::p,k,r,ht,h=>by simp[Ty.zG]at ht
 |.sl false t,l,s::p,k,r,ht,h=>by cases s<;>simp[zb]at h
 |.sl true t,l,.fst::p,k,r,ht,h=>by simp[zb]at h
 |.sl true t,l,.snd::p,k,r,ht,h=>by simp[zb]at h
 |.int _,_,s::_,_,_,_,h=>by cases s<;>simp[zb]at h
 |.bool,_,s::_,_,_,_,h=>by cases s<;>simp[zb]at h
 |.str,_,s::_,_,_,_,h=>by cases s<;>simp[zb]at h
 |.unit,_,s::_,_,_,_,h=>by cases s<;>simp[zb]at h
 |.ptr _,_,s::_,_,_,_,h=>by cases s<;>simp[zb]at h
 |.fn _ _,_,s::_,_,_,_,h=>by cases s<;>simp[zb]at h
 |.tree _,_,s::_,_,_,_,h=>by cases s<;>simp[zb]at h
 |.mp _,_,s::_,_,_,_,h=>by cases s<;>simp[zb]at h
 |.pair _ _,_,.idx _::_,_,_,_,h=>by simp[zb]at h
 |.arr _ _,_,.fst::_,_,_,_,h=>by simp[zb]at h
 |.arr _ _,_,.snd::_,_,_,_,h=>by simp[zb]at h
theorem pY{g:z8}{id:Nat}:{t:Ty}->{pre:Path}->{b off:Nat}->{q:Path}->{o:Nat}->{s:Sk}->t.sk.off q=some (o,s)->place g id t pre b off q=some (b,off+o)
 |t,pre,b,off,[],o,s,h=>by
  simp only[Sk.off,zI,pv]at h;obtain⟨rfl,_⟩:=h
  simp[place]
 |.pair a c,pre,b,off,.fst::q,o,s,h=>by
  simp only[Ty.sk,Sk.off]at h;simp only[place]
  exact pY h
 |.pair a c,pre,b,off,.snd::q,o,s,h=>by
  simp only[Ty.sk,Sk.off,wO,pv]at h;obtain⟨⟨o',s'⟩,h,rfl,rfl⟩:=h
  simp only[place,pY h,Ty.zW,TD]
 |.arr n t,pre,b,off,.idx i::q,o,s,h=>by
  simp only[Ty.sk,Sk.off]at h;split at h
  ·simp only[wO,pv]at h;obtain⟨⟨o',s'⟩,h,rfl,rfl⟩:=h;simp only[place,pY h,Ty.zW,TD]
  ·simp at h
 |.int _,_,_,_,s::_,_,_,h=>by cases s<;>simp[Ty.sk,Sk.off]at h
 |.bool,_,_,_,s::_,_,_,h=>by cases s<;>simp[Ty.sk,Sk.off]at h
 |.str,_,_,_,s::_,_,_,h=>by cases s<;>simp[Ty.sk,Sk.off]at h
 |.unit,_,_,_,s::_,_,_,h=>by cases s<;>simp[Ty.sk,Sk.off]at h
 |.ptr _,_,_,_,s::_,_,_,h=>by cases s<;>simp[Ty.sk,Sk.off]at h
 |.fn _ _,_,_,_,s::_,_,_,h=>by cases s<;>simp[Ty.sk,Sk.off]at h
 |.tree _,_,_,_,s::_,_,_,h=>by cases s<;>simp[Ty.sk,Sk.off]at h
 |.mp _,_,_,_,s::_,_,_,h=>by cases s<;>simp[Ty.sk,Sk.off]at h
 |.sl _ _,_,_,_,s::_,_,_,h=>by cases s<;>simp[Ty.sk,Sk.off]at h
 |.pair _ _,_,_,_,.idx _::_,_,_,h=>by simp[Ty.sk,Sk.off]at h
 |.arr _ _,_,_,_,.fst::_,_,_,h=>by simp[Ty.sk,Sk.off]at h
 |.arr _ _,_,_,_,.snd::_,_,_,h=>by simp[Ty.sk,Sk.off]at h
theorem U4:{t:Ty}->{q:Path}->{o:Nat}->{s:Sk}->t.sk.off q=some (o,s)->Jt t q=some s
 |t,[],o,s,h=>by
  simp only[Sk.off,zI,pv]at h
  simp only[Jt,h.2]
 |.pair a c,.fst::q,o,s,h=>by
  simp only[Ty.sk,Sk.off]at h
  simp only[Jt];exact U4 h
 |.pair a c,.snd::q,o,s,h=>by
  simp only[Ty.sk,Sk.off,wO,pv]at h;obtain⟨⟨o',s'⟩,h,rfl,rfl⟩:=h
  simp only[Jt];exact U4 h
 |.arr n t,.idx i::q,o,s,h=>by
  simp only[Ty.sk,Sk.off]at h;split at h
  ·simp only[wO,pv]at h;obtain⟨⟨o',s'⟩,h,rfl,rfl⟩:=h;simp only[Jt];exact U4 h
  ·simp at h
 |.int _,s::_,_,_,h=>by cases s<;>simp[Ty.sk,Sk.off]at h
 |.bool,s::_,_,_,h=>by cases s<;>simp[Ty.sk,Sk.off]at h
 |.str,s::_,_,_,h=>by cases s<;>simp[Ty.sk,Sk.off]at h
 |.unit,s::_,_,_,h=>by cases s<;>simp[Ty.sk,Sk.off]at h
 |.ptr _,s::_,_,_,h=>by cases s<;>simp[Ty.sk,Sk.off]at h
 |.fn _ _,s::_,_,_,h=>by cases s<;>simp[Ty.sk,Sk.off]at h
 |.tree _,s::_,_,_,h=>by cases s<;>simp[Ty.sk,Sk.off]at h
 |.mp _,s::_,_,_,h=>by cases s<;>simp[Ty.sk,Sk.off]at h
 |.sl _ _,s::_,_,_,h=>by cases s<;>simp[Ty.sk,Sk.off]at h
 |.pair _ _,.idx _::_,_,_,h=>by simp[Ty.sk,Sk.off]at h
 |.arr _ _,.fst::_,_,_,h=>by simp[Ty.sk,Sk.off]at h
 |.arr _ _,.snd::_,_,_,h=>by simp[Ty.sk,Sk.off]at h
theorem kV{w:World}{g:z8}{J:St}(hh:yC w g J.z6){id:Nat}{p:Path}{ep:Nat}{k:(u:Ty)->List u.den->Option R}{r:R}
  (h:xY J id p ep k=some r):∃t l,J.z6 id=some (.row t l ep)/\p=[]/\t.zG=true/\k t l=some r:=by
 unfold xY at h;split at h
 ·rename_i t l e ho;have za:=hh.z6 id _ ho
  cases hb:Nat.beq e ep with
  |false=>rw[hb]at h;simp at h
  |true=>
   rw[hb]at h;have he:e=ep:=zE hb;subst he;simp only[zB,z13]at h
   cases p with
   |nil=>
    have h':k t l=some r:=by simpa[zb]using h
    exact⟨t,l,ho,rfl,za.1,h'⟩
   |cons s q=>
    cases s with
    |idx i=>
     simp only[zb,WZ]at h;obtain⟨x,_,h⟩:=h;obtain⟨u,e',hu,qY⟩:=ZI za.1 h;split at hu
     ·simp[Ty.zG]at qY
     ·simp at hu
    |fst=>simp[zb]at h
    |snd=>simp[zb]at h
 ·simp at h
theorem ue{w:World}{g:z8}{J:St}(hh:yC w g J.z6){id:Nat}{p:Path}{ep:Nat}{k:(u:Ty)->u.den->Option R}{r:R}(hp:p≠[])
  (h:pE J id p ep k=some r):∃t l u e b off c ee,J.z6 id=some (.row t l ep)/\t.zG=true/\k u e=some r/\u.zG=true/\
   place g id (.sl true t) [] 0 0 p=some (b,off)/\Jt (.sl true t) p=some u.sk/\g.tag b=.row id []/\w.heap[b]? = some (.cells c ee (0,0))/\off+u.size<=c.size/\zN w g none u e (qS c.toList off u.size):=by
 unfold pE at h;split at h
 ·rename_i t l e ho;have za:=hh.z6 id _ ho
  cases hb:Nat.beq e ep with
  |false=>rw[hb]at h;simp at h
  |true=>
   rw[hb]at h;have he:e=ep:=zE hb;subst he;simp only[zB,z13]at h
   cases p with
   |nil=>exact absurd rfl hp
   |cons s q=>
    cases s with
    |idx i=>
     simp only[zb,WZ]at h;obtain⟨x,hx,h⟩:=h;obtain⟨h0,hi,rfl,qk⟩:=jr hx;obtain⟨a,cap,pe,yZ,K5,Vn,wy⟩:=za.2;rcases wy with⟨_,hl,_⟩|⟨b,off,c,ee,ha,zS,zZ,qG,K9⟩
     ·rw[hl]at hi;simp at hi
     ·have ja:=zN.yJ (o':=none) za.1 (K9 _ hi);obtain⟨u,e',o,hk,hu,jO,hr⟩:=ZH za.1 ja h;have hle:=Sk.kZ jO;rw[Ty.zW,Ty.zW]at hle;have Qf:(i.toNat+1)*t.size<=cap*t.size:=kn _ (by omega);rw[kq]at Qf;refine⟨t,l,u,e',b,off+i.toNat*t.size+o,c,ee,ho,za.1,hk,hu,?_,by simp only[Jt];exact U4 jO,zS,zZ,by omega,?_⟩
      ·simp only[place,yZ,ha,Ql];exact pY jO
      ·rw[pP _ _ _ _ _ hle]at hr
       exact hr
    |fst=>simp[zb]at h
    |snd=>simp[zb]at h
 ·simp at h
theorem Cw{w:World}{g:z8}{J:St}(hh:yC w g J.z6){id:Nat}{p:Path}{k:z7->Option R}{r:R}
  (h:JV J id p k=some r):∃a a' off c e,J.z6 id=some (.cell a)/\k a'=some r/\a.sk.off p=some (off,a'.sk)/\
   w.heap[g.qp id]? = some (.cells c e (0,0))/\g.tag (g.qp id)=.box id/\off+a'.sk.size<=c.size/\jM w g J.z6 a c.toList/\jM w g J.z6 a' (qS c.toList off a'.sk.size)/\∀m,m∉a.ids->m∉a'.ids:=by
 unfold JV at h;split at h
 ·rename_i a ho;obtain⟨hnt,h⟩:=VO h;obtain⟨c,e,hc,ht,za⟩:=(hh.z6 id _ ho).out hnt;obtain⟨a',off,hk,jO,hr,hi⟩:=ZL za h;refine⟨a,a',off,c,e,ho,hk,jO,hc,ht,?_,za,hr,hi⟩;have:=Sk.kZ jO;have h2:=za.len;rw[vl]at h2;omega
 ·simp at h
theorem zda{w:World}{g:z8}{z6:qZ}{id:Nat}{a x:z7}(hc:a.cont=some x)(h:zn w g z6 id (.cell a)):
  ∃c e,w.heap[g.qp id]? = some (.cells c e (0,0))/\(g.tag (g.qp id)=.box id\/g.tag (g.qp id)=.ro)/\jM w g z6 x c.toList/\x.sk=a.sk/\x.ids=a.ids:=by
 cases ht:a.we with
 |true=>
  cases a<;>simp[z7.we]at ht;rename_i c;cases c<;>simp[z7.cont]at hc
  ·subst hc;obtain⟨c,e,h1,h2,h3⟩:=(zn.Zj rfl).1 h;exact⟨c,e,h1,.inr h2,h3,rfl,rfl⟩
  ·subst hc;obtain⟨c,e,h1,h2,h3⟩:=(zn.Zj rfl).1 h
   exact⟨c,e,h1,.inr h2,h3,rfl,rfl⟩
 |false=>
  obtain⟨c,e,h1,h2,h3⟩:=h.out ht;have hx:x=a:=by
   cases a<;>simp[z7.we]at ht<;>simp[z7.cont]at hc<;>exact hc.symm
  subst hx;exact⟨c,e,h1,.inl h2,h3,rfl,rfl⟩
theorem Zb{w:World}{g:z8}{J:St}(hh:yC w g J.z6){id:Nat}{p:Path}{k:z7->Option R}{r:R}
  (h:Jl J id p k=some r):∃a a' off c e,J.z6 id=some (.cell a)/\k a'=some r/\a.sk.off p=some (off,a'.sk)/\
   w.heap[g.qp id]? = some (.cells c e (0,0))/\(g.tag (g.qp id)=.box id\/g.tag (g.qp id)=.ro)/\off+a'.sk.size<=c.size/\jM w g J.z6 a' (qS c.toList off a'.sk.size)/\∀m,m∉a.ids->m∉a'.ids:=by
 unfold Jl at h;split at h
 ·rename_i a ho;split at h
  ·rename_i x hx;obtain⟨c,e,hc,ht,za,ko,gI⟩:=zda hx (hh.z6 id _ ho);obtain⟨a',off,hk,jO,hr,hi⟩:=ZL za h;refine⟨a,a',off,c,e,ho,hk,by rw[<-ko];exact jO,hc,ht,?_,hr,λm hm=>hi m (by rw[gI];exact hm)⟩;have:=Sk.kZ jO;have h2:=za.len;rw[vl]at h2;omega
  ·simp at h
 ·simp at h
theorem ur{I:Type}(l:List I)(a b:Int)(h0:0<=a)(uN:a<=b)(hb:b<=(l.length:Int)):(sub l a b).length=b.toNat-a.toNat:=by
 simp only[sub,Us,Lp];omega
theorem WB{I:Type}(l:List I)(a b:Int)(i:Nat)(h:i<(sub l a b).length)(h':a.toNat+i<l.length):(sub l a b).get ⟨i,h⟩=l.get ⟨a.toNat+i,h'⟩:=by
 simp[sub,Z35,Z36]
theorem zN.z0c{w:World}{g:z8}{k:Nat}{l:List (Rec k)}{cs:List Value}:zN w g none (.sl false (.tree k)) l cs↔zN w g none (.sl false (.pair (uE k) (uD k))) (List.map (vz k) l) cs:=by
 have hz:(Ty.tree k).size=(Ty.pair (uE k) (uD k)).size:=XE k;have hl:(List.map (vz k) l).length=List.length l:=GZ ..;have ja:∀(i:Nat) (h:i<List.length l) (h':i<(List.map (vz k) l).length) cs,zN w g none (.tree k) (List.get l ⟨i,h⟩) cs↔zN w g none (.pair (uE k) (uD k)) ((List.map (vz k) l).get ⟨i,h'⟩) cs:=λi h h' cs=>by
  rw[zN.WG];simp
 constructor
 ·rintro⟨a,cap,rfl,h1,h2,h3⟩;refine⟨a,cap,?_,?_,h2,λhn=>?_⟩
  ·show _=[Value.slice a (List.map (vz k) l).length cap];rw[hl]
  ·show(List.map (vz k) l).length<=cap;rw[hl];exact h1
  obtain⟨b,off,c,e,fz,ha,ht,hb,hs,he⟩:=h3 (by intro h;apply hn;rw[h];rfl);refine⟨b,off,c,e,fz,ha,ht,hb,?_,λi hi=>?_⟩
  ·show off+(List.map (vz k) l).length*_<=_;rw[hl,<-hz];exact hs
  ·have wm:i<List.length l:=by rw[<-hl];exact hi
   have:=(ja i wm hi _).1 (he i wm);rw[hz]at this;exact this
 ·rintro⟨a,cap,rfl,h1,h2,h3⟩;have Nt:(List.map (vz k) l).length<=cap:=h1;refine⟨a,cap,?_,?_,h2,λhn=>?_⟩
  ·show [Value.slice a (List.map (vz k) l).length cap]=_;rw[hl]
  ·rw[<-hl];exact h1
  obtain⟨b,off,c,e,fz,ha,ht,hb,hs,he⟩:=h3 (by intro h;apply hn;exact List.map_eq_nil_iff.1 h);refine⟨b,off,c,e,fz,ha,ht,hb,?_,λi hi=>?_⟩
  ·have Nc:off+(List.map (vz k) l).length*(Ty.pair (uE k) (uD k)).size<=c.size:=hs;rw[hz,<-hl];exact Nc
  ·have wm:i<(List.map (vz k) l).length:=by rw[hl];exact hi
   have:=(ja i hi wm _).2 (he i wm);rw[<-hz]at this;exact this
theorem A4(k:Nat)(l:List ((uE k).den×(uD k).den)):List.map (vz k) (List.map (kp k) l)=l:=by
 rw[List.map_map];exact(List.map_congr_left λy _=>CF k y).trans (List.map_id l)
theorem J9{a b:Ty}{d:a.den}{k:b.den->Option R}{r:R}(h:ZM a b d k=some r):a.sk=b.sk:=by
 unfold ZM at h;split at h
 ·rfl
 ·rfl
 ·obtain⟨rfl,_⟩:=yY h;rfl
theorem vT{a b:Ty}{d:a.den}{k:b.den->Option R}{r:R}(h:ZM a b d k=some r)(ha:a.zG=true):∃d',k d'=some r/\b.zG=true/\∀w g cs,zN w g none a d cs->zN w g none b d' cs:=by
 unfold ZM at h;split at h
 ·obtain⟨e,h⟩:=yY h;cases e;exact⟨_,h,by simpa[Ty.zG]using z19 _,λw g cs hr=>zN.z0c.1 hr⟩
 ·obtain⟨e,h⟩:=yY h;cases e;refine⟨_,h,rfl,λw g cs hr=>zN.z0c.2 ?_⟩;rw[A4];exact hr
 ·obtain⟨rfl,h⟩:=yY h;exact⟨_,h,ha,λ_ _ _ hr=>hr⟩
theorem gE{w:World}{g:z8}{J:St}(hh:yC w g J.z6):(n:Nat)->{a:z7}->{t:Ty}->{k:t.den->Option R}->{r:R}->{cs:List Value}->
  jM w g J.z6 a cs->asData J n a t k=some r->∃d,k d=some r/\t.zG=true/\zN w (CA g) none t d cs
 |0,_,_,_,_,_,_,h=>by simp[asData]at h
 |n+1,.data t' d,t,k,r,cs,za,h=>by
  simp only[asData]at h;obtain⟨_,h,qY,zF⟩:=vT h za.1
  exact⟨_,h,qY,zF _ _ _ (za.2.kept (YQ w g))⟩
 |n+1,.zi,t,k,r,cs,za,h=>by
  simp only[asData]at h
  cases hb:t.zG with
  |false=>rw[hb]at h;simp at h
  |true=>
   rw[hb]at h
   cases t with
   |sl o t=>
    cases o with
    |true=>simp[Ty.zG]at hb
    |false=>
     refine⟨([]:List t.den),h,rfl,?_⟩;have K4:cs=[.slice none 0 0]:=za;subst K4
     exact⟨none,0,rfl,yH _,jF _,λhn=>absurd rfl hn⟩
   |_=>simp[z1v]at h
 |n+1,.ref id p ep,t,k,r,cs,za,h=>by
  simp only[asData]at h;obtain⟨v,l,ho,rfl,qY,h⟩:=kV hh h;obtain⟨_,h,pV,K1⟩:=vT h (Ty.gZ _);obtain⟨x,rfl,_,hx⟩:=za;have Vd:=(hx _ _ _ ho).2 rfl;have zp:=hh.z6 id _ ho;refine⟨_,h,pV,K1 _ _ _ ?_⟩;have:=zN.freeze (YQ w g) (o:=some (id,[])) (Zt w g id []) zp.2;rw[Vd]
  exact this
 |n+1,.view id p ep a b,t,k,r,cs,za,h=>by
  simp only[asData]at h;obtain⟨v,l,ho,rfl,qY,h⟩:=kV hh h;obtain⟨_,h,pV,K1⟩:=vT h (Ty.gZ _);obtain⟨x,rfl,_,hx⟩:=za;obtain⟨_,h0,uN,Vs,hv⟩:=(hx _ _ _ ho).2 rfl;have zp:=hh.z6 id _ ho;refine⟨_,h,pV,K1 _ _ _ ?_⟩;obtain⟨ad,cap,pe,yZ,K5,Vn,wy⟩:=zp.2;have hlen:=ur l a b h0 uN Vs;show zN w (CA g) none (.sl false v.ro) (Ty.gz (.sl false v) (sub l a b)) [x];rw[WU,hv,yZ];have D2:(List.map (Ty.gz v) (sub l a b)).length=(b-a).toNat:=by rw[GZ,hlen];omega
  refine⟨_,cap-a.toNat,by simp only[jC];rw[D2],by rw[D2];omega,by omega,λvg=>?_⟩;have EY:0<(b-a).toNat:=by
   rw[<-D2];exact Z3s.2 vg
  rcases wy with⟨_,hl,_⟩|⟨bk,off,c,ee,ha,zS,zZ,qG,K9⟩
  ·rw[hl]at Vs;simp at Vs;omega
  ·subst ha;refine⟨bk,off+a.toNat*v.size,c,ee,(0,0),?_,Nu zS,zZ,?_,λi hi=>?_⟩
   ·rw[qW (by omega)];simp only[Z2h,Addr.add];split
    ·rename_i hz;rw[hz];simp
    ·rfl
   ·rw[D2,Ty.qd];have:(b-a).toNat+a.toNat<=cap:=by omega
    have:=kn v.size this;rw[kq]at this;omega
   ·have QC:i<(sub l a b).length:=by simpa using hi
    have Bo:a.toNat+i<l.length:=by omega
    have he:=zN.freeze (YQ w g) (o:=some (id,[]++[Step.idx ((a.toNat+i:Nat):Int)])) (Zt w g id _) (K9 (a.toNat+i) Bo);rw[IL,Rq];have hg:=WB l a b i QC Bo;rw[IL]at hg;rw[hg,Ty.qd];have e:off+a.toNat*v.size+i*v.size=off+(a.toNat+i)*v.size:=by rw[kq];omega
    rw[e]
    exact he
 |n+1,.zq id p,t,k,r,cs,za,h=>by
  cases t with
  |ptr t=>
   simp only[asData]at h;obtain⟨a,a',off,c,e,ho,hk,jO,hc,ht,qG,YS,_⟩:=Zb hh h;obtain⟨d,hd,qY,zF⟩:=gE hh n YS hk;obtain⟨v,rfl,_,hv⟩:=za;obtain⟨VF,s,kJ,rfl⟩:=hv _ ho;rw[jO]at kJ;simp only[zI,pv]at kJ;obtain⟨rfl,_⟩:=kJ;have hl:=zF.len;rw[yS (by rw[vl];exact qG)]at hl;refine⟨d,hd,qY,?_⟩
   exact⟨g.qp id,off,c,e,(0,0),rfl,by rcases ht with ht|ht<;>simp[CA,ht],hc,by omega,by rw[<-hl];exact zF⟩
  |_=>simp[asData]at h
 |n+1,.va id p ep,t,k,r,cs,za,h=>by
  cases t with
  |ptr t=>
   simp only[asData]at h;obtain⟨v,rfl,_,hv⟩:=za;have zp:∃t l,J.z6 id=some (.row t l ep):=by
    unfold pE at h;split at h
    ·rename_i t l e ho
     cases hb:Nat.beq e ep with
     |false=>rw[hb]at h;simp at h
     |true=>exact⟨t,l,by rw[ho,zE hb]⟩
    ·simp at h
   obtain⟨t0,l0,FP⟩:=zp;obtain⟨hp,b0,j6,p8,jl⟩:=(hv _ _ _ FP).2 rfl;obtain⟨t1,l1,u,e,b,off,c,ee,ho,qY,hk,hu,ka,_,zS,zZ,qG,zF⟩:=ue hh hp h;rw[FP]at ho;simp only[zI,Obj.row.injEq]at ho;obtain⟨rfl,_,_⟩:=ho;rw[p8]at ka;simp only[zI,pv]at ka;obtain⟨rfl,rfl⟩:=ka;obtain⟨rfl,hk⟩:=yY hk;refine⟨_,hk,by simp only[Ty.zG];exact Ty.gZ u,?_⟩;have hf:=zN.freeze (YQ w g) (o:=none) trivial zF
   exact⟨b0,j6,c,ee,(0,0),by rw[jl],Nu zS,zZ,by rw[Ty.qd];exact qG,by rw[Ty.qd];exact hf⟩
  |_=>simp[asData]at h
 |n+1,.qP f c,t,k,r,cs,za,h=>by
  cases t with
  |fn gid t=>
   simp only[asData]at h
   cases hb:Nat.beq f gid with
   |false=>rw[hb]at h;simp at h
   |true=>
    rw[hb]at h;have he:f=gid:=zE hb;subst he;obtain⟨vs,rfl,hc⟩:=za;obtain⟨d,hd,qY,zF⟩:=gE hh n hc h
    exact⟨d,hd,qY,vs,rfl,zF⟩
  |_=>simp[asData]at h
 |n+1,.agg c,t,k,r,cs,za,h=>by
  simp only[asData]at h
  exact gE hh n (a:=c) za h
 |n+1,.pr a b,t,k,r,cs,za,h=>by
  cases t with
  |pair t u=>
   simp only[asData]at h;obtain⟨c1,c2,rfl,h1,h2⟩:=za;obtain⟨x,hx,SV,zpp⟩:=gE hh n h1 h;obtain⟨y,hy,hry,zpo⟩:=gE hh n h2 hx
   exact⟨(x,y),hy,by simp[Ty.zG,SV,hry],c1,c2,rfl,zpp,zpo⟩
  |_=>simp[asData]at h
 |n+1,.un,t,k,r,cs,za,h=>by
  cases t with
  |unit=>
   simp only[asData]at h
   exact⟨(),h,rfl,za⟩
  |_=>simp[asData]at h
 |n+1,.qV _,t,k,r,cs,za,h=>by cases t<;>simp[asData]at h
 |n+1,.nv true _ _ _,t,k,r,cs,za,h=>by cases t<;>simp[asData]at h
 |n+1,.nv false id p ep,t,k,r,cs,za,h=>by
  simp only[asData]at h;obtain⟨t0,l0,e,i,v,l,ho,Br,zF,h,_,_⟩:=U5 hh h;obtain⟨_,h,pV,K1⟩:=vT h (Ty.gZ _);obtain⟨x,rfl,_,hx⟩:=za;have Vd:=((hx _ _ _ _ _ ho).2 Br).1 rfl;refine⟨_,h,pV,K1 _ _ _ ?_⟩;have:=zN.freeze (YQ w g) (o:=some (id,p)) (Zt w g id p) zF;rw[Vd]
  exact this
 |n+1,.jS _,t,k,r,cs,za,h=>za.elim
end Go.Kz
namespace Go.Kz
variable {R:Type}
section
variable {P:Program}{o:Oper}{a:Act}{w:World}{K:Act->World->Prop}{Q:Exit->Act->World->Prop}{c:Ctx}{J:St}{g:z8}{k:St->Option R}{r:R}{base:Nat}
theorem kr{f:z7->Option R}{s:Sem Value}(hf:f=λv=>J.qo c o.dst v k)(hs:Plain f r s P)
  (ze:∀w v,s.run P w=.ok v w->(execOp a.eval o).run P w=.ok (.value v) w):wk P o a w g J c k r:=by
 subst hf;obtain⟨av,v,h1,h2,h3,h4⟩:=hs.out;exact Zf (λw' _=>ze w' v (h2 w')) (h4 _ _ _) (λm _=>by rw[h3];simp) h1
theorem F0(d:Nat){T:TypeId}(hT:P.underlying T=some .bool)(x y:Bool)(w:World):(Op.equalIn (d+1) T (.bool x) (.bool y)).run P w=.ok (x == y) w:=by
 have hu:=run_underlying hT w;rw[Op.equalIn];rw[Sem.run_bind,hu];rfl
theorem ME{T:TypeId}(hT:P.underlying T=some .bool)(x y:Bool)(w:World):(Op.equal T (.bool x) (.bool y)).run P w=.ok (x == y) w:=
 F0 9999 hT x y w
theorem z1u(hh:yC w g J.z6){id:Nat}{p:Path}{ep:Nat}{f:Option (List (List UInt8×Bool))->Option R}{r:R}
  (h:(xT J false id p ep λu d=>match u,d with
   |.mp true,m=>f m
   |_,_=>none)=some r):∃m,f m=some r/\∀v,zm w g J.z6 (.nv false id p ep) v->Gw w (λb=>g.tag b=.row id p) m v:=by
 obtain⟨t,l,e,i,ho,Br,zF,h⟩:=ZG hh h
 cases p with
 |nil=>simp[zb]at h
 |cons s q=>
  obtain⟨u,x,bh,oh,ch,eh,ph,hk,p8,_,_,_,_,_,hr⟩:=pM zF h;split at hk
  ·refine⟨_,hk,λv hv=>?_⟩;simp only[zm]at hv;obtain⟨cs,⟨v',rfl,_,hx⟩,rfl⟩:=hv;have:=((hx _ _ _ _ _ ho).2 Br).1 rfl;subst this;exact hr.2
  ·simp at hk
theorem Gw.val{w:World}{T:Nat->Prop}{m:Option (List (List UInt8×Bool))}{v:Value}(h:Gw w T m v):∃b,v=.map b/\b.isNone=m.isNone:=by
 cases m with
 |none=>exact⟨none,h,rfl⟩
 |some m=>obtain⟨b,_,_,hv,_⟩:=h;exact⟨some b,hv,rfl⟩
theorem Sd{T K E:TypeId}(hT:P.underlying T=some (.map K E))(x:Option Nat)(w:World):(Op.equal T (.map x) (.map none)).run P w=.ok x.isNone w:=by
 have hu:=run_underlying hT w;show(Op.equalIn (9999+1) T _ _).run P w=_;rw[Op.equalIn,Sem.run_bind,hu];cases x<;>rfl
theorem z1n(kA:p6 P c.tt){op:BinOp}{t t':TypeId}{x y:Operand}
  (hS:∀ax ay,ev J x=some ax->ev J y=some ay->∀u,c.tt t=some u->
   cond (c.eqs t&&yQ u&&ax.val&&ay.val) (asData J 20 ax u λd=>asData J 20 ay u λe=>Ig op (P4 u d e) λv=>J.qo c o.dst v k) none=some r->wk P o a w g J c k r)
  (ho:o.op=.binOp op t x y t') (zj:zU c.ntmps g w a J) (h:yE c J base o k=some r):wk P o a w g J c k r:=by
 simp only[yE,ho]at h;split at h
 ·rename_i ax ay hx hy;have ex:=(qD zj hx).1;have ey:=(qD zj hy).1;unfold zrj at h;split at h
  ·rename_i kx nx ky ny;obtain⟨vx,bx⟩:=jL ex;obtain⟨vy,_⟩:=jL ey
   cases hs:U6 op with
   |true=>
    rw[hs]at h
    exact kr rfl (Fe (P:=P) (j:=ky) bx t h) (λw v hv=>by simp[execOp,ho,vx,vy,eqGuard,hv])
   |false=>
    rw[hs]at h;simp only[zP]at h;split at h
    ·rename_i hk _;subst hk;exact kr rfl (Ss (P:=P) bx t hs h) (λw v hv=>by simp[execOp,ho,vx,vy,eqGuard,hv])
    ·simp at h
  ·rename_i bx by';have vx:=xK ex;have vy:=xK ey;split at h
   ·rename_i htb;have hT:=kA _ _ htb;simp only[qv]at hT;have hu:=ME hT.1 bx by';refine kr (f:=λv=>J.qo c o.dst v k) (s:=binOp op t (.bool bx) (.bool by')) rfl ?_ (λw v hv=>by simp[execOp,ho,vx,vy,eqGuard,hv]);cases op<;>simp only[R5]at h
    case eql=>exact Plain.bool h (λw=>by simp only[binOp,Sem.run_bind,hu,Result.andThen_ok,Sem.run_pure])
    case neq=>exact Plain.bool h (λw=>by simp only[binOp,Sem.run_bind,hu,Result.andThen_ok,Sem.run_pure])
    all_goals simp at h
   ·simp at h
  ·rename_i lx ly;obtain⟨sx,vx,rfl,_⟩:=Gy ex;obtain⟨sy,vy,rfl,_⟩:=Gy ey;exact kr rfl (Sr (P:=P) t h) (λw v hv=>by simp[execOp,ho,vx,vy,eqGuard,hv])
  ·rename_i id p ep;split at h
   ·rename_i htm;have hT:=kA _ _ htm;simp only[qv]at hT;obtain⟨⟨K,E,hT⟩,_⟩:=hT;obtain⟨m,h,hm⟩:=z1u zj.heap h;obtain⟨b,vx,hb⟩:=(hm _ ex).val;have vy:a.eval y=.map none:=by
     simp only[zm]at ey;obtain⟨_,⟨_,_,rfl,hv⟩,rfl⟩:=ey;exact hv
    have hu:=Sd hT b;rw[hb]at hu;refine kr (f:=λv=>J.qo c o.dst v k) (s:=binOp op t (.map b) (.map none)) rfl ?_ (λw v hv=>by simp[execOp,ho,vx,vy,eqGuard,hv]);cases op<;>simp only[Ig]at h
    case eql=>exact Plain.bool h (λw=>by simp only[binOp,Sem.run_bind,hu,Result.andThen_ok,Sem.run_pure])
    case neq=>exact Plain.bool h (λw=>by simp only[binOp,Sem.run_bind,hu,Result.andThen_ok,Sem.run_pure])
    all_goals simp at h
   ·simp at h
  ·split at h
   ·rename_i u Qc;exact hS ax ay hx hy u Qc h
   ·simp at h
 ·simp at h
theorem zaa{op:UnOp}{t:TypeId}{x:Operand}(ho:o.op=.unOp op t x)(zj:zU c.ntmps g w a J)(h:yE c J base o k=some r):wk P o a w g J c k r:=by
 simp only[yE,ho]at h;split at h
 ·rename_i ax hx;have ex:=(qD zj hx).1;unfold unK at h;split at h
  ·have vx:=xK ex;exact kr rfl (Plain.bool (s:=Op.unary .not (a.eval x)) h (λ_=>by simp[vx,Op.unary])) (λw v hv=>by simp[execOp,ho,hv])
  ·rename_i kx nx;obtain⟨vx,bx⟩:=jL ex;exact kr rfl (Plain.int (s:=Op.unary .neg (a.eval x)) h (λ_=>by simp[vx,Op.unary,Op.intArith]) (wX _ _)) (λw v hv=>by simp[execOp,ho,hv])
  ·rename_i kx nx;obtain⟨vx,bx⟩:=jL ex;exact kr rfl (Plain.int (s:=Op.unary .xor (a.eval x)) h (λ_=>by simp[vx,Op.unary,Op.intBits]) (wX _ _)) (λw v hv=>by simp[execOp,ho,hv])
  ·simp at h
 ·simp at h
theorem Ld(kA:p6 P c.tt){t t':TypeId}{x:Operand}(ho:o.op=.convert t t' x)(zj:zU c.ntmps g w a J)(h:yE c J base o k=some r):wk P o a w g J c k r:=by
 simp only[yE,ho]at h;split at h
 ·rename_i k0 j k1 kd hx ht ht';have ex:=(qD zj hx).1;obtain⟨vx,bx⟩:=jL ex;have h1:=kA _ _ ht;have h2:=kA _ _ ht';simp only[qv]at h1 h2;have u1:=λw=>run_underlying (P:=P) (w:=w) h1.1
  have u2:=λw=>run_underlying (P:=P) (w:=w) h2.1
  exact kr (f:=λv=>J.qo c o.dst v k) rfl (Plain.int (s:=convert t t' (a.eval x)) h (λw=>by simp[vx,convert,u1,u2,Conv.intToInt]) (wX _ _)) (λw v hv=>by simp[execOp,ho,hv])
 ·simp at h
theorem VX{z6:qZ}:{ac:z7}->{vs:List Value}->{i:Nat}->{av:z7}->qx w g z6 ac vs->jB ac i=some av->
  ∃v,vs[i]? = some v/\zm w g z6 av v/\∀m,m∉ac.ids->m∉av.ids
 |.pr x y,vs,0,av,h,ht=>by
  simp only[qx]at h;obtain⟨v,rest,rfl,h1,h2⟩:=h;simp only[jB,zI]at ht;subst ht
  exact⟨v,rfl,h1,λm hm=>by simp[z7.ids]at hm;exact hm.1⟩
 |.pr x y,vs,i+1,av,h,ht=>by
  simp only[qx]at h;obtain⟨v,rest,rfl,h1,h2⟩:=h;simp only[jB]at ht;obtain⟨v',jl,h3,h4⟩:=VX h2 ht
  exact⟨v',by simpa using jl,h3,λm hm=>h4 m (by simp[z7.ids]at hm;exact hm.2)⟩
 |.un,_,_,_,_,ht=>by simp[jB]at ht
 |.data _ _,_,_,_,_,ht=>by simp[jB]at ht
 |.zi,_,_,_,_,ht=>by simp[jB]at ht
 |.ref _ _ _,_,_,_,_,ht=>by simp[jB]at ht
 |.view _ _ _ _ _,_,_,_,_,ht=>by simp[jB]at ht
 |.zq _ _,_,_,_,_,ht=>by simp[jB]at ht
 |.va _ _ _,_,_,_,_,ht=>by simp[jB]at ht
 |.qV _,_,_,_,_,ht=>by simp[jB]at ht
 |.nv _ _ _ _,_,_,_,_,ht=>by simp[jB]at ht
 |.qP _ _,_,_,_,_,ht=>by simp[jB]at ht
 |.agg _,_,_,_,_,ht=>by simp[jB]at ht
 |.jS _,_,_,_,_,ht=>by simp[jB]at ht
theorem Lc{x:Operand}{i:Nat}(ho:o.op=.extract x i)(zj:zU c.ntmps g w a J)(h:yE c J base o k=some r):wk P o a w g J c k r:=by
 simp only[yE,ho]at h;split at h
 ·rename_i ac hx;obtain⟨ex,ef⟩:=qD zj hx;simp only[zm]at ex;obtain⟨vs,hv,Gg⟩:=ex;split at h
  ·rename_i av Pr;obtain⟨v,h1,h2,h3⟩:=VX Gg Pr;refine Zf (v:=v) ?_ h2 (λm hm=>h3 m (by have:=ef m hm;simpa[z7.ids]using this)) h;intro w' _;simp[execOp,ho,hv,Instr.extract,h1]
  ·simp at h
 ·simp at h
theorem QW{z6:qZ}:{ac:z7}->{vs:List Value}->yV ac=true->qx w g z6 ac vs->jM w g z6 ac vs
 |.un,vs,_,h=>by simp only[qx]at h;exact h
 |.pr (.zq id p) y,vs,hp,h=>by
  simp only[qx]at h;obtain⟨v,rest,rfl,h1,h2⟩:=h;simp only[zm]at h1;obtain⟨cs,h1,hv⟩:=h1;have Nt:=h1;obtain⟨x,rfl,_⟩:=h1;have jl:v=x:=hv;subst jl
  exact⟨[v],rest,rfl,Nt,QW (by simpa[yV]using hp) h2⟩
 |.pr (.data (.ptr t) d) y,vs,hp,h=>by
  simp only[qx]at h;obtain⟨v,rest,rfl,h1,h2⟩:=h;simp only[zm]at h1;obtain⟨cs,h1,hv⟩:=h1;have Nt:=h1;obtain⟨_,b,off,c,e,fz,rfl,_⟩:=h1;have jl:v=.pointer (some ⟨b,off,none⟩):=hv;subst jl
  exact⟨_,rest,rfl,Nt,QW (by simpa[yV]using hp) h2⟩
 |.data _ _,_,hp,_=>by simp[yV]at hp
 |.zi,_,hp,_=>by simp[yV]at hp
 |.ref _ _ _,_,hp,_=>by simp[yV]at hp
 |.view _ _ _ _ _,_,hp,_=>by simp[yV]at hp
 |.zq _ _,_,hp,_=>by simp[yV]at hp
 |.va _ _ _,_,hp,_=>by simp[yV]at hp
 |.qV _,_,hp,_=>by simp[yV]at hp
 |.nv _ _ _ _,_,hp,_=>by simp[yV]at hp
 |.qP _ _,_,hp,_=>by simp[yV]at hp
 |.agg _,_,hp,_=>by simp[yV]at hp
 |.jS _,_,hp,_=>by simp[yV]at hp
 |.pr (.data (.int _) _) _,_,hp,_=>by simp[yV]at hp
 |.pr (.data .bool _) _,_,hp,_=>by simp[yV]at hp
 |.pr (.data .str _) _,_,hp,_=>by simp[yV]at hp
 |.pr (.data .unit _) _,_,hp,_=>by simp[yV]at hp
 |.pr (.data (.pair _ _) _) _,_,hp,_=>by simp[yV]at hp
 |.pr (.data (.arr _ _) _) _,_,hp,_=>by simp[yV]at hp
 |.pr (.data (.sl _ _) _) _,_,hp,_=>by simp[yV]at hp
 |.pr (.data (.fn _ _) _) _,_,hp,_=>by simp[yV]at hp
 |.pr (.data (.tree _) _) _,_,hp,_=>by simp[yV]at hp
 |.pr (.data (.mp _) _) _,_,hp,_=>by simp[yV]at hp
 |.pr .zi _,_,hp,_=>by simp[yV]at hp
 |.pr (.ref _ _ _) _,_,hp,_=>by simp[yV]at hp
 |.pr (.view _ _ _ _ _) _,_,hp,_=>by simp[yV]at hp
 |.pr (.va _ _ _) _,_,hp,_=>by simp[yV]at hp
 |.pr (.qV _) _,_,hp,_=>by simp[yV]at hp
 |.pr (.nv _ _ _ _) _,_,hp,_=>by simp[yV]at hp
 |.pr (.qP _ _) _,_,hp,_=>by simp[yV]at hp
 |.pr (.agg _) _,_,hp,_=>by simp[yV]at hp
 |.pr (.jS _) _,_,hp,_=>by simp[yV]at hp
 |.pr (.pr _ _) _,_,hp,_=>by simp[yV]at hp
 |.pr .un _,_,hp,_=>by simp[yV]at hp
theorem Hk{f:FuncId}{first cap:Array Operand}(ho:o.op=.makeFunc (.func f) first cap)(zj:zU c.ntmps g w a J)(h:yE c J base o k=some r):wk P o a w g J c k r:=by
 simp only[yE,ho]at h;split at h
 ·rename_i Mg;split at h
  ·rename_i ac hac;obtain⟨ex,ef⟩:=W6 zj hac
   cases hp:yV ac with
   |false=>rw[hp]at h;simp at h
   |true=>
    rw[hp]at h;have vG:=QW hp ex;have hf0:first=#[]:=by
     apply C5.1;simpa using Mg
    refine Zf (v:=.func (.func f) #[] (cap.toList.map a.eval).toArray) ?_ ?_ (λm hm=>by simpa[z7.ids]using ef m hm) h
    ·intro w' _;simp[execOp,ho,Instr.makeFunc,hf0,<-Z4w]
    ·simp only[zm];exact⟨_,⟨_,rfl,vG⟩,rfl⟩
  ·simp at h
 ·simp at h
theorem Fj{z6:qZ}{av:z7}{v:Value}(hp:z2t av=true)(h:zm w g z6 av v):
  (∃t d b off c e fz,av=.data (.ptr t) d/\v=.pointer (some ⟨b,off,none⟩)/\t.zG=true/\g.tag b=.ro/\w.heap[b]? = some (.cells c e fz)/\off+t.size<=c.size/\zN w g none t d (qS c.toList off t.size))\/
  (∃id p,av=.zq id p/\∀x,z6 id=some (.cell x)->∃off s,x.sk.off p=some (off,s)/\v=.pointer (some ⟨g.qp id,off,none⟩))\/
  (∃id p ep,av=.va id p ep/\∀t l e,z6 id=some (.row t l e)->ep<=e/\(e=ep->p≠[]/\∃b off,place g id (.sl true t) [] 0 0 p=some (b,off)/\v=.pointer (some ⟨b,off,none⟩))):=by
 cases av with
 |zq id p=>
  simp only[zm]at h;obtain⟨cs,⟨x,rfl,_,hx⟩,hv⟩:=h;have jl:v=x:=hv;subst jl
  exact .inr (.inl ⟨id,p,rfl,hx⟩)
 |va id p ep=>
  simp only[zm]at h;obtain⟨cs,⟨x,rfl,_,hx⟩,hv⟩:=h;have jl:v=x:=hv;subst jl
  exact .inr (.inr ⟨id,p,ep,rfl,hx⟩)
 |data t d=>
  cases t with
  |ptr t=>
   simp only[zm]at h;obtain⟨cs,⟨qY,b,off,c,e,fz,rfl,h1,h2,h3,h4⟩,hv⟩:=h
   exact .inl ⟨t,d,b,off,c,e,fz,rfl,hv,by simpa[Ty.zG]using qY,h1,h2,h3,h4⟩
  |_=>simp[z2t]at hp
 |_=>simp[z2t]at hp
theorem Hv{x:Operand}(ho:o.op=.nilCheck x)(zj:zU c.ntmps g w a J)(h:yE c J base o k=some r):wk P o a w g J c k r:=by
 simp only[yE,ho]at h;split at h
 ·rename_i av Pr;obtain⟨ex,ef⟩:=qD zj Pr
  cases hp:holds J av with
  |false=>rw[hp]at h;simp at h
  |true=>
   rw[hp]at h;simp only[zB]at h;have hv:∃ad,a.eval x=.pointer (some ad):=by
    unfold holds at hp;split at hp
    ·rcases Fj rfl ex with⟨t,d,b,off,cc,e,fz,h1,h2,_⟩|⟨_,_,h1,_⟩|⟨_,_,_,h1,_⟩
     ·exact⟨_,h2⟩
     ·simp at h1
     ·simp at h1
    ·rcases Fj rfl ex with⟨t,d,b,off,cc,e,fz,h1,h2,_⟩|⟨_,_,h1,h2⟩|⟨_,_,_,h1,_⟩
     ·simp at h1
     ·simp only[z7.zq.injEq]at h1;obtain⟨rfl,rfl⟩:=h1;split at hp
      ·rename_i xx hxx;obtain⟨off,s,_,hv⟩:=h2 _ hxx;exact⟨_,hv⟩
      ·simp at hp
     ·simp at h1
    ·rcases Fj rfl ex with⟨t,d,b,off,cc,e,fz,h1,h2,_⟩|⟨_,_,h1,h2⟩|⟨_,_,_,h1,h2⟩
     ·simp at h1
     ·simp at h1
     ·simp only[z7.va.injEq]at h1;obtain⟨rfl,rfl,rfl⟩:=h1;split at hp
      ·rename_i t l e hxx;obtain⟨_,h3⟩:=h2 _ _ _ hxx;obtain⟨_,b,off,_,hv⟩:=h3 (zE hp);exact⟨_,hv⟩
      ·simp at hp
    ·simp only[zm]at ex;obtain⟨cs,⟨y,rfl,_,hx⟩,hv⟩:=ex;split at hp
     ·rename_i t l e i hxx;obtain⟨_,h3⟩:=hx _ _ _ _ _ hxx;obtain⟨_,b,off,_,ud⟩:=(h3 (zE hp)).2 rfl;exact⟨_,hv.trans ud⟩
     ·simp at hp
    ·simp at hp
   obtain⟨ad,hv⟩:=hv;exact Zf (v:=a.eval x) (λ_ _=>by simp[execOp,ho,hv]) ex ef h
 ·simp at h
theorem J8{z6:qZ}{gf:Int->Int->Int}{b2:Value->Value->Sem Value}{kd:IntKind}(hb:∀w x y,(b2 (.int kd x) (.int kd y)).run P w=.ok (.int kd (gf x y)) w)
  (hg:∀x y,gf x y=x\/gf x y=y):{ac:z7}->{vs:List Value}->{x:Int}->{f:Int->Option R}->qx w g z6 ac vs->kd.min<=x/\x<=kd.max->qy gf kd x ac f=some r->
  ∃z,f z=some r/\kd.min<=z/\z<=kd.max/\∀w,(vs.foldlM b2 (.int kd x)).run P w=.ok (.int kd z) w
 |.un,vs,x,f,hv,hx,h=>by
  simp only[qx]at hv;subst hv
  exact⟨x,h,hx.1,hx.2,λ_=>by simp[List.foldlM]⟩
 |.pr (.data (.int j) y) ac,vs,x,f,hv,hx,h=>by
  simp only[qx]at hv;obtain⟨v,rest,rfl,h1,h2⟩:=hv;obtain⟨rfl,hy⟩:=jL h1;simp only[qy]at h;split at h
  ·rename_i hk _;subst hk;have hz:kd.min<=gf x y/\gf x y<=kd.max:=by
    rcases hg x y with e|e<;>rw[e]
    ·exact hx
    ·exact hy
   obtain⟨z,hf,z1,z2,ze⟩:=J8 hb hg h2 hz h;refine⟨z,hf,z1,z2,λw=>?_⟩;simp only[List.foldlM_cons,Sem.run_bind,hb,Result.andThen_ok];exact ze w
  ·simp at h
 |.data _ _,_,_,_,_,_,h=>by simp[qy]at h
 |.zi,_,_,_,_,_,h=>by simp[qy]at h
 |.ref _ _ _,_,_,_,_,_,h=>by simp[qy]at h
 |.view _ _ _ _ _,_,_,_,_,_,h=>by simp[qy]at h
 |.zq _ _,_,_,_,_,_,h=>by simp[qy]at h
 |.va _ _ _,_,_,_,_,_,h=>by simp[qy]at h
 |.qV _,_,_,_,_,_,h=>by simp[qy]at h
 |.nv _ _ _ _,_,_,_,_,_,h=>by simp[qy]at h
 |.qP _ _,_,_,_,_,_,h=>by simp[qy]at h
 |.agg _,_,_,_,_,_,h=>by simp[qy]at h
 |.jS _,_,_,_,_,_,h=>by simp[qy]at h
 |.pr (.data .bool _) _,_,_,_,_,_,h=>by simp[qy]at h
 |.pr (.data .str _) _,_,_,_,_,_,h=>by simp[qy]at h
 |.pr (.data .unit _) _,_,_,_,_,_,h=>by simp[qy]at h
 |.pr (.data (.pair _ _) _) _,_,_,_,_,_,h=>by simp[qy]at h
 |.pr (.data (.arr _ _) _) _,_,_,_,_,_,h=>by simp[qy]at h
 |.pr (.data (.sl _ _) _) _,_,_,_,_,_,h=>by simp[qy]at h
 |.pr (.data (.ptr _) _) _,_,_,_,_,_,h=>by simp[qy]at h
 |.pr (.data (.fn _ _) _) _,_,_,_,_,_,h=>by simp[qy]at h
 |.pr (.data (.tree _) _) _,_,_,_,_,_,h=>by simp[qy]at h
 |.pr (.data (.mp _) _) _,_,_,_,_,_,h=>by simp[qy]at h
 |.pr .zi _,_,_,_,_,_,h=>by simp[qy]at h
 |.pr (.ref _ _ _) _,_,_,_,_,_,h=>by simp[qy]at h
 |.pr (.view _ _ _ _ _) _,_,_,_,_,_,h=>by simp[qy]at h
 |.pr (.zq _ _) _,_,_,_,_,_,h=>by simp[qy]at h
 |.pr (.va _ _ _) _,_,_,_,_,_,h=>by simp[qy]at h
 |.pr (.qV _) _,_,_,_,_,_,h=>by simp[qy]at h
 |.pr (.nv _ _ _ _) _,_,_,_,_,_,h=>by simp[qy]at h
 |.pr (.qP _ _) _,_,_,_,_,_,h=>by simp[qy]at h
 |.pr (.agg _) _,_,_,_,_,_,h=>by simp[qy]at h
 |.pr (.jS _) _,_,_,_,_,_,h=>by simp[qy]at h
 |.pr (.pr _ _) _,_,_,_,_,_,h=>by simp[qy]at h
 |.pr .un _,_,_,_,_,_,h=>by simp[qy]at h
theorem zhd{args:Array Operand}{ts:Array TypeId}(ho:o.op=.call { callee:=.builtin .max,args:=args,argTypes:=ts })(zj:zU c.ntmps g w a J)(h:yE c J base o k=some r):wk P o a w g J c k r:=by
 simp only[yE,ho]at h;split at h
 ·rename_i kd x ac hx;obtain⟨ex,_⟩:=W6 zj hx;simp only[qx]at ex;obtain⟨v,rest,Gg,h1,h2⟩:=ex;obtain⟨rfl,hb⟩:=jL h1;obtain⟨z,hz,z1,z2,ze⟩:=J8 (P:=P) (b2:=Builtin.max2) (λw x y=>by simp[Builtin.max2,gG]) (λx y=>by unfold gG;split<;>simp) h2 hb h;refine Zf (v:=.int kd z) ?_ (jm ⟨z1,z2⟩) (λm _=>by simp[z7.ids]) hz;intro w' _;have e:(args.map a.eval).toList=.int kd x::rest:=by rw[Z2s];exact Gg
  simp only[execOp,ho,resolve,Sem.run_bind,Sem.run_pure,Result.andThen_ok,invoke,builtin,Builtin.max_,e,ze]
 ·simp at h
theorem zhc{args:Array Operand}{ts:Array TypeId}(ho:o.op=.call { callee:=.builtin .min,args:=args,argTypes:=ts })(zj:zU c.ntmps g w a J)(h:yE c J base o k=some r):wk P o a w g J c k r:=by
 simp only[yE,ho]at h;split at h
 ·rename_i kd x ac hx;obtain⟨ex,_⟩:=W6 zj hx;simp only[qx]at ex;obtain⟨v,rest,Gg,h1,h2⟩:=ex;obtain⟨rfl,hb⟩:=jL h1;obtain⟨z,hz,z1,z2,ze⟩:=J8 (P:=P) (b2:=Builtin.min2) (λw x y=>by simp[Builtin.min2,k8]) (λx y=>by unfold k8;split<;>simp) h2 hb h;refine Zf (v:=.int kd z) ?_ (jm ⟨z1,z2⟩) (λm _=>by simp[z7.ids]) hz;intro w' _;have e:(args.map a.eval).toList=.int kd x::rest:=by rw[Z2s];exact Gg
  simp only[execOp,ho,resolve,Sem.run_bind,Sem.run_pure,Result.andThen_ok,invoke,builtin,Builtin.min_,e,ze]
 ·simp at h
end
end Go.Kz
