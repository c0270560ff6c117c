/-
  Rows of rows turned: an element of one of the rows; a row put in its place; a row taken out.
-/
import Derived.Test.YtmoggdcmpoobpaaGreatDoorKzR
set_option linter.unusedVariables false
set_option linter.unusedSimpArgs false
namespace Go.Kz
variable {R:Type}
theorem JN:(t:Ty)->(d:t.den)->(p:Path)->{k:(u:Ty)->u.den->Option R}->{r:R}->zb t d p k=some r->
  ∃(u:Ty)(e:u.den),k u e=some r/\∀(R':Type) (k':(u:Ty)->u.den->Option R'),zb t d p k'=k' u e
 |t,d,[],k,r,h=>⟨t,d,by grind[zb],λR' k'=>by grind[zb]⟩
 |.pair a _,(x,_),.fst::p,k,r,h=>by simp only[zb]at h⊢;exact JN a x p h
 |.pair _ b,(_,y),.snd::p,k,r,h=>by simp only[zb]at h⊢;exact JN b y p h
 |.arr _ t,l,.idx i::p,k,r,h=>by
  simp only[zb]at h⊢;obtain⟨x,hx,h⟩:=WZ.1 h;obtain⟨u,e,hk,ha⟩:=JN t x p h
  grind
 |.sl true t,l,.idx i::p,k,r,h=>by
  simp only[zb]at h⊢;obtain⟨x,hx,h⟩:=WZ.1 h;obtain⟨u,e,hk,ha⟩:=JN t x p h
  grind
 |.int _,d,s::p,k,r,h=>by grind[zb]
 |.bool,d,s::p,k,r,h=>by grind[zb]
 |.str,d,s::p,k,r,h=>by grind[zb]
 |.unit,d,s::p,k,r,h=>by grind[zb]
 |.sl false _,d,s::p,k,r,h=>by grind[zb]
 |.ptr _,d,s::p,k,r,h=>by grind[zb]
 |.fn _ _,d,s::p,k,r,h=>by grind[zb]
 |.tree _,d,s::p,k,r,h=>by grind[zb]
 |.mp _,d,s::p,k,r,h=>by grind[zb]
 |.pair _ _,(_,_),.idx _::p,k,r,h=>by simp[zb]at h
 |.arr _ _,d,.fst::p,k,r,h=>by simp[zb]at h
 |.arr _ _,d,.snd::p,k,r,h=>by simp[zb]at h
 |.sl true _,d,.fst::p,k,r,h=>by simp[zb]at h
 |.sl true _,d,.snd::p,k,r,h=>by simp[zb]at h
theorem Y7:(t:Ty)->(d:t.den)->(p:Path)->{v:Ty}->{e:List v.den}->{f:t.den->Option R}->{r:R}->vW t p=some v->jn t d p (.sl true v) e f=some r->
  ∃x:List v.den,∀(R':Type) (k':(u:Ty)->u.den->Option R'),zb t d p k'=k' (.sl true v) x
 |.sl true t,d,[],v,e,f,r,hq,h=>by
  simp only[vW,zI]at hq;subst hq
  exact⟨d,λR' k'=>by simp[zb]⟩
 |.pair a _,(x,_),.fst::p,v,e,f,r,hq,h=>by simp only[jn,vW,zb]at h hq⊢;exact Y7 a x p hq h
 |.pair _ b,(_,y),.snd::p,v,e,f,r,hq,h=>by simp only[jn,vW,zb]at h hq⊢;exact Y7 b y p hq h
 |.arr _ t,l,.idx i::p,v,e,f,r,hq,h=>by
  simp only[jn,vW,zb]at h hq⊢;obtain⟨x,hx,h⟩:=WZ.1 h;obtain⟨y,hy⟩:=Y7 t x p hq h
  exact⟨y,λR' k'=>by grind⟩
 |.sl true t,l,.idx i::p,v,e,f,r,hq,h=>by
  simp only[jn,vW,zb]at h hq⊢;obtain⟨x,hx,h⟩:=WZ.1 h;obtain⟨y,hy⟩:=Y7 t x p hq h
  exact⟨y,λR' k'=>by grind⟩
 |.sl true _,_,.fst::_,_,_,_,_,h,_ |.sl true _,_,.snd::_,_,_,_,_,h,_=>by simp[vW]at h
 |.sl false _,_,p,_,_,_,_,h,_=>by grind[vW]
 |.int _,_,p,_,_,_,_,h,_=>by grind[vW]
 |.bool,_,p,_,_,_,_,h,_=>by grind[vW]
 |.str,_,p,_,_,_,_,h,_=>by grind[vW]
 |.unit,_,p,_,_,_,_,h,_=>by grind[vW]
 |.ptr _,_,p,_,_,_,_,h,_=>by grind[vW]
 |.fn _ _,_,p,_,_,_,_,h,_=>by grind[vW]
 |.tree _,_,p,_,_,_,_,h,_=>by grind[vW]
 |.mp _,_,p,_,_,_,_,h,_=>by grind[vW]
 |.pair _ _,_,[],_,_,_,_,h,_=>by simp[vW]at h
 |.pair _ _,_,.idx _::_,_,_,_,_,h,_=>by simp[vW]at h
 |.arr _ _,_,[],_,_,_,_,h,_=>by simp[vW]at h
 |.arr _ _,_,.fst::_,_,_,_,_,h,_ |.arr _ _,_,.snd::_,_,_,_,_,h,_=>by simp[vW]at h
theorem I2{v:Ty}(qY:v.zG=true){l:List v.den}{j:Int}{q:Path}{k:(u:Ty)->u.den->Option R}{r:R}(h:zb (.sl true v) l (.idx j::q) k=some r):∃u x,k u x=some r/\u.zG=true:=by
 grind[zb,Option.bind_eq_some_iff,ZI]
theorem Y2{j:Int}:{t:Ty}->{p:Path}->{v:Ty}->vW t p=some v->Jt t (p++[.idx j])=some v.sk
 |.sl true t,[],v,hq=>by
  grind[vW,Jt]
 |.pair a _,.fst::p,v,hq=>by simp only[vW,Jt,QI]at hq⊢;exact Y2 hq
 |.pair _ c,.snd::p,v,hq=>by simp only[vW,Jt,QI]at hq⊢;exact Y2 hq
 |.arr _ t,.idx i::p,v,hq=>by simp only[vW,Jt,QI]at hq⊢;exact Y2 hq
 |.sl true t,.idx i::p,v,hq=>by simp only[vW,Jt,QI]at hq⊢;exact Y2 hq
 |.sl true _,.fst::_,_,h |.sl true _,.snd::_,_,h=>by simp[vW]at h
 |.sl false _,p,_,h=>by grind[vW]
 |.int _,p,_,h=>by grind[vW]
 |.bool,p,_,h=>by grind[vW]
 |.str,p,_,h=>by grind[vW]
 |.unit,p,_,h=>by grind[vW]
 |.ptr _,p,_,h=>by grind[vW]
 |.fn _ _,p,_,h=>by grind[vW]
 |.tree _,p,_,h=>by grind[vW]
 |.mp _,p,_,h=>by grind[vW]
 |.pair _ _,[],_,h=>by simp[vW]at h
 |.pair _ _,.idx _::_,_,h=>by simp[vW]at h
 |.arr _ _,[],_,h=>by simp[vW]at h
 |.arr _ _,.fst::_,_,h |.arr _ _,.snd::_,_,h=>by simp[vW]at h
theorem A9:{p:Path}->{q:Path}->{j:Int}->{r:Path}->Wo p=some (q,j,r)->p=q++.idx j::r
 |[],_,_,_,h=>by simp[Wo]at h
 |s::p,q,j,r,h=>by
  simp only[Wo]at h;split at h
  ·rename_i q' j' r' hl;simp only[zI,pv]at h;obtain⟨rfl,rfl,rfl⟩:=h;rw[A9 hl];rfl
  grind
theorem JD:{p q:Path}->Z2 p q=true->p=q
 |[],[],_=>rfl
 |.fst::p,.fst::q,h=>by simp only[Z2]at h;rw[JD h]
 |.snd::p,.snd::q,h=>by simp only[Z2]at h;rw[JD h]
 |.idx i::p,.idx j::q,h=>by
  simp only[Z2,zA,ve]at h
  rw[h.1,JD h.2]
 |[],_::_,h|_::_,[],h=>by simp[Z2]at h
 |.fst::_,.snd::_,h |.fst::_,.idx _::_,h |.snd::_,.fst::_,h |.snd::_,.idx _::_,h |.idx _::_,.fst::_,h |.idx _::_,.snd::_,h=>by simp[Z2]at h
section
variable {w:World}{g:z8}{J:St}
theorem zU.step{n:Nat}{w':World}{a:Act}{g':z8}{J':St}{m:Nat}(zj:zU n g w a J)(hr:zT w g w' g')(hs:J'.zk=J.zk)(hm:zJ g J m\/qq g g' m (J.z6 m) (J'.z6 m))
  (hk:∀j,j≠m->qq g g' j (J.z6 j) (J'.z6 j))
  (zp:∀j x,J'.z6 j=some x->zn w' g' J'.z6 j x\/(J.z6 j=some x/\xC w g w' g' j)) (ht:∀b,g'.tag b≠.zt->b<w'.heap.size):zU n g' w' a J':=by
 have U9:∀j,(zJ g J m->j≠m)->qq g g' j (J.z6 j) (J'.z6 j):=by
  grind
 refine⟨λi av hi=>?_,⟨λid x hx=>?_,ht⟩,zj.size,zj.defers,zj.known.kept hr⟩
 ·rw[hs]at hi;obtain⟨u,hu,za⟩:=zj.zk i av hi;refine⟨u,hu,zm.frame hr (λj hj=>U9 j (λhf he=>?_)) za⟩;subst he;exact hf.zk i av hi hj
 ·rcases zp id x hx with h|⟨h,kI⟩
  ·exact h
  ·refine zn.frame hr kI (λy hy j hj=>U9 j (λhf he=>?_)) (zj.heap.z6 id x h);subst he;subst hy;exact hf.cells id y h hj
theorem Db{id:Nat}{pp:Path}{t:Ty}{l:List t.den}{i:Int}{q:Path}{u:Ty}{d:u.den}{cs:List Value}{f:List t.den->Option R}{r:R}{hd:Value}(qY:t.zG=true)
  (wy:zN w g (some (id,pp)) (.sl true t) l [hd]) (zF:zN w g none u d cs) (h:jn (.sl true t) l (.idx i::q) u d f=some r) :
  ∃l' b0 j6 n cp o' cc ee,f l'=some r/\l'.length=l.length/\g.sv id pp=.slice (some ⟨b0,j6,none⟩) n cp/\t.sk.off q=some (o',u.sk)/\w.heap[b0]? = some (.cells cc ee (0,0))/\g.tag b0=.row id pp/\
   j6+i.toNat*t.size+o'+u.size<=cc.size/\
   zN (w.setRow b0 (zD cc.toList (j6+i.toNat*t.size+o') cs).toArray) g (some (id,pp)) (.sl true t) l' [hd]:=by
 simp only[jn,WZ]at h;obtain⟨x,hx,h⟩:=h;obtain⟨h0,hi,rfl,qk⟩:=jr hx;obtain⟨ad,cap,pe,yZ,K5,Vn,wy⟩:=wy;rcases wy with⟨_,hl,_⟩|⟨b,off,cc,ee,rfl,zS,zZ,qG,K9⟩
 ·omega
 ·have ja:=zN.yJ (o':=none) qY (K9 _ hi);obtain⟨d',o',hk,jO,hr⟩:=Zu qY ja zF h;have hle:=Sk.kZ jO;rw[Ty.zW,Ty.zW]at hle;have Qf:(i.toNat+1)*t.size<=cap*t.size:=kn _ (by omega);rw[kq]at Qf;have uk:cs.length=u.size:=zF.len;have Vo:cc.toList.length=cc.size:=vl;refine⟨_,b,off,l.length,cap,o',cc,ee,hk,qJ _ _ _,yZ,jO,zZ,zS,by omega,some ⟨b,off,none⟩,cap,?_,?_,?_,Vn,.inr ⟨b,off,(zD cc.toList (off+i.toNat*t.size+o') cs).toArray,ee,rfl,zS,?_,?_,λj hj=>?_⟩⟩
  ·grind[qJ]
  ·grind[qJ]
  ·grind[qJ]
  ·grind[setRow_heap]
  ·grind[j5]
  ·have TJ:zT w g (w.setRow b (zD cc.toList (off+i.toNat*t.size+o') cs).toArray) g:=(jb (id:=id) _ (.inl ⟨pp,zS⟩)).ro;have Zy:j<l.length:=by grind[qJ]
   have He:(j+1)*t.size<=cap*t.size:=kn _ (by omega);rw[kq]at He;rw[Zx];refine zN.yJ qY (o:=none) ?_;by_cases Ze:i.toNat=j
   ·rw[yX Ze];subst Ze;rw[pZ _ _ _ _ _ (by omega) (by omega)];exact hr.kept TJ
   ·rw[qW Ze];have hold:=(zN.yJ (o':=none) qY (K9 j Zy)).kept TJ;rcases Z33 Ze with Vf|SD
    ·have h3:(i.toNat+1)*t.size<=j*t.size:=kn _ Vf
     grind[vu]
    ·have h3:(j+1)*t.size<=i.toNat*t.size:=kn _ SD
     grind[jy]
theorem CK{l:List Value}{off:Nat}{x:Value}(h:off<l.length)(hs:qS l off 1=[x]):zD l off [x]=l:=by
 grind[zD,qS,List.drop_drop,List.take_append_drop]
theorem Ln{id:Nat}{t:Ty}{l:List t.den}{e i:Nat}{s:Step}{p:Path}{v:Ty}{l1:List v.den}{j:Int}{q:Path}{u:Ty}{d:u.den}{cs:List Value}{f:List t.den->Option R}{r:R}{b0 j6:Nat}
  (hh:yC w g J.z6) (ho:J.z6 id=some (.nest t l e i none)) (qY:v.zG=true) (wG:∀(R':Type) (k':(u:Ty)->u.den->Option R'),zb (.sl true t) l (s::p) k'=k' (.sl true v) l1)
  (zF:zN w g none u d cs) (p8:place g id (.sl true t) [] 0 0 (s::p++.idx j::q)=some (b0,j6))
  (h:(jn (.sl true v) l1 (.idx j::q) u d λl1=>jn (.sl true t) l (s::p) (.sl true v) l1 f)=some r) :
  ∃l' cc ee,f l'=some r/\w.heap[b0]? = some (.cells cc ee (0,0))/\g.tag b0=.row id (s::p)/\j6+u.size<=cc.size/\
   zn (w.setRow b0 (zD cc.toList j6 cs).toArray) g (J.setObj id (.nest t l' e i none)).z6 id (.nest t l' e i none):=by
 have zp:zN w g (some (id,[])) (.sl true t) l [g.sv id []]:=hh.z6 id _ ho;have hg:zb (.sl true t) l (s::p) (λu x=>some (⟨u,x⟩:(u:Ty)×u.den))=some ⟨.sl true v,l1⟩:=wG _ _;obtain⟨U,X,bx,ox,_,_,_,hk,zyy,_,wu,_,_,_,_⟩:=pM zp hg;simp only[zI,Z4b]at hk;obtain⟨rfl,_⟩:=hk;have hq:=X8 wu
 cases s with
 |fst=>grind[vW]
 |snd=>grind[vW]
 |idx i0=>
  have hq':vW t p=some v:=by grind[vW]
  obtain⟨l1',bh,oh,ch,eh,ph,hk,zpt,wq,FG,_,ug,Tp,gB,hw⟩:=Gr (focus w g id t) (pre:=[]) hq' zp hg;simp only[zI,Z4b,heq_eq_eq,Ur]at hk;subst hk;simp only[Ql]at FG gB hw;have hchl:ch.toList.length=ch.size:=vl;obtain⟨x,hx⟩:=Z28.1 (yS (l:=ch.toList) (off:=oh) (n:=1) (by omega));rw[hx]at gB;obtain⟨l2,b2,o2,n2,cp2,o',cc,ee,hf,Tu,yZ,jO,zZ,zS,qG,uV⟩:=Db qY gB zF h;have e1:=gV (j:=j) (pre:=[]) (t:=.sl true t) (b:=0) (off:=0) (x:=(bx,ox)) hq zyy yZ;have e2:=vq e1 (Y2 hq) jO;have EZ:Step.idx i0::p++[Step.idx j]++q=.idx i0::p++.idx j::q:=by simp
  rw[EZ,p8]at e2;simp only[zI,pv]at e2;obtain⟨rfl,rfl⟩:=e2;have vg:bh≠b0:=by
   grind
  have EX:=jb (w:=w) (g:=g) (id:=id) (b0:=b0) (zD cc.toList (o2+j.toNat*v.size+o') cs).toArray (.inl ⟨_,zS⟩);have z3q:N5 w g (w.setRow b0 (zD cc.toList (o2+j.toNat*v.size+o') cs).toArray) g id (.idx i0::p) bh:=by
   refine⟨EX.ro,λ_ _=>rfl,λq' b hb hq'=>⟨hb,λ_=>setRow_other w b0 b _ ?_⟩⟩
   grind
  obtain⟨l3,hf3,_,zpq⟩:=hw _ g l2 x z3q (by
   simp_all[CK,setRow_other]) uV _ _ hf
  exact⟨l3,cc,ee,hf3,zZ,zS,qG,zpq⟩
theorem VZ{id:Nat}{t:Ty}{l:List t.den}{p:Path}{v:Ty}{l1:List v.den}(zp:zN w g (some (id,[])) (.sl true t) l [g.sv id []])(wu:FY t p=some v)
  (wG:∀(R':Type) (k':(u:Ty)->u.den->Option R'),zb (.sl true t) l p k'=k' (.sl true v) l1) :
  Fx w g id t l p/\zN w g (some (id,p)) (.sl true v) l1 [g.sv id p]:=by
 cases p with
 |nil=>grind[FY]
 |cons s p=>
  cases s with
  |fst=>grind[FY]
  |snd=>grind[FY]
  |idx i0=>
   simp only[FY]at wu;have hg:zb (.sl true t) l (.idx i0::p) (λu x=>some (⟨u,x⟩:(u:Ty)×u.den))=some ⟨.sl true v,l1⟩:=wG _ _;obtain⟨l1',bh,oh,ch,eh,ph,hk,zpt,wq,FG,_,ug,Tp,gB,hw⟩:=Gr (focus w g id t) (pre:=[]) wu zp hg;simp only[zI,Z4b,heq_eq_eq,Ur]at hk;subst hk;simp only[Ql]at FG gB hw;have hlen:∃bk o cap,g.sv id []=.slice (some ⟨bk,o,none⟩) l.length cap:=by
    obtain⟨a,cap,_,yZ,_,_,h3⟩:=zp;rcases h3 with⟨_,rfl,_⟩|⟨b,off,c,e,rfl,_⟩
    ·simp only[zb]at hg;cases i0<;>simp[idx]at hg
    grind
   refine⟨⟨hlen,v,bh,oh,ch,eh,ph,wu,zpt 0 0,wq,FG,ug,Tp,λw' g' l' x hn D7 PQ R' f r' wE=>?_⟩,?_⟩
   ·obtain⟨l2,hf,_,Bm⟩:=hw w' g' l' x hn D7 PQ f r' wE;refine⟨l2,hf,?_⟩;rw[hn.sv [] (Dt (by simp))];exact Bm
   ·obtain⟨a,cap,pe,yZ,h1⟩:=gB;exact⟨a,cap,by rw[yZ],yZ,h1⟩
open Classical in
noncomputable def gk(g:z8)(from_:Option Nat)(id:Nat)(p:Path)(x:Value):z8 where
 tag:=λb=>match g.tag b with
  |.row i q=>if some i=from_ then .row id (p++q) else .row i q
  |t=>t
 sv:=λi q=>if i=id/\q=p then x else g.sv i q
 qp:=g.qp
theorem I5{fr:Option Nat}{id:Nat}{p:Path}{x:Value}{b:Nat}:(gk g fr id p x).tag b=.ro↔g.tag b=.ro:=by
 grind[gk]
theorem PK{fr:Option Nat}{id:Nat}{p:Path}{x:Value}{b:Nat}:(gk g fr id p x).tag b=.zt↔g.tag b=.zt:=by
 grind[gk]
theorem D9{fr:Option Nat}{id:Nat}{p:Path}{x:Value}{b i:Nat}{q:Path}(h:g.tag b=.row i q)(hi:some i≠fr):(gk g fr id p x).tag b=.row i q:=by
 grind[gk]
theorem SR{fr:Option Nat}{id:Nat}{p:Path}{x:Value}{b i:Nat}(h:g.tag b=.box i):(gk g fr id p x).tag b=.box i:=by
 grind[gk]
theorem z1x{n:Nat}{a:Act}{id:Nat}{t:Ty}{l:List t.den}{e i:Nat}{h0:Option Path}{p:Path}{av:z7}{x:Value}{f:St->Option R}{r:R}{b0 j6:Nat}
  (zj:zU n g w a J) (ho:J.z6 id=some (.nest t l e i h0)) (z3z:∀v,FY t p=some v->(∃l1:List v.den,∀(R':Type) (k':(u:Ty)->u.den->Option R'),zb (.sl true t) l p k'=k' (.sl true v) l1)->Fx w g id t l p)
  (p8:place g id (.sl true t) [] 0 0 p=some (b0,j6)) (hx:jM w g J.z6 av [x]) (h:AD J id t l e i p av f=some r) :
  ∃cc ee pre J' g',f J'=some r/\w.heap[b0]? = some (.cells cc ee (0,0))/\g.tag b0=.row id pre/\j6<cc.size/\zU n g' (w.setRow b0 (zD cc.toList j6 [x]).toArray) a J'/\
   Ext w g (w.setRow b0 (zD cc.toList j6 [x]).toArray) g'/\(∀m,zJ g J m->zJ g' J' m)/\J'.next=J.next:=by
 unfold AD at h;split at h
 ·rename_i v wu
  cases qY:v.zG with
  |false=>grind
  |true=>
   rw[qY]at h;simp only[zB]at h;have key:∃(fr:Option Nat)(d:List v.den)(J1:St),J1.zk=J.zk/\J1.next=J.next/\(∀j,some j≠fr->J1.z6 j=J.z6 j)/\(∀j,some j=fr->J1.z6 j=none/\j≠id/\J.z6 j≠none)/\
     (jn (.sl true t) l p (.sl true v) d λl=>f (J1.setObj id (.nest t l e (i+1) none)))=some r/\
     (∀w' g',zT w g w' g'->g'.sv id p=x->(∀b,(∃j,some j=fr/\g.tag b=.row j [])->g'.tag b=.row id p/\w'.heap[b]? = w.heap[b]?)->zN w' g' (some (id,p)) (.sl true v) d [x]):=by
    unfold uO at h;split at h
    ·refine⟨none,[],J,rfl,rfl,λ_ _=>rfl,λ_ h=>by simp at h,h,λw' g' _ yZ _=>?_⟩;have Vd:[x]=[.slice none 0 0]:=hx;simp only[N0,Fy]at Vd;subst Vd;exact⟨none,0,rfl,yZ,yH _,jF _,.inl ⟨rfl,rfl,rfl⟩⟩
    ·rename_i vF ep';split at h
     ·rename_i t' l' e' Pf
      cases hb:Nat.beq e' ep' with
      |false=>grind
      |true=>
       rw[hb]at h;have he:=zE hb;subst he;simp only[zB]at h;obtain⟨hc,h⟩:=yY h;have D7:t'=v:=by grind
       subst D7;have vg:vF≠id:=by grind
       refine⟨some vF,_,J.kill vF,rfl,rfl,λj hj=>?_,λj hj=>?_,h,λw' g' hr yZ Qo=>?_⟩
       ·simp_all[St.kill,zf]
       ·simp_all[St.kill,GJ]
       ·obtain⟨v0,Tk,_,gi⟩:=hx;simp only[N0,Fy]at Tk;subst Tk;have hxs:=(gi _ _ _ Pf).2 rfl;obtain⟨Pd,ad,cap,pe,SJ,h1,h2,h3⟩:=zj.heap.z6 vF _ Pf;refine⟨ad,cap,by grind,by grind,h1,h2,?_⟩;rcases h3 with h3|⟨b,off,c,ee,ha,zS,zZ,hs,ja⟩
        ·grind
        ·obtain⟨k1,k2⟩:=Qo b ⟨vF,rfl,zS⟩;exact .inr ⟨b,off,c,ee,ha,k1,k2.trans zZ,hs,λi hi=>zN.yJ (o:=none) Pd ((zN.yJ (o':=none) Pd (ja i hi)).kept hr)⟩
     grind
    grind
   obtain⟨fr,d,J1,BD,Qr,z3n,Mq,wE,hmv⟩:=key;have hp:p≠[]:=by grind[FY]
   have hqq:∃i0 p',p=.idx i0::p':=by
    cases p with
    |nil=>grind
    |cons s p'=>cases s with
     |idx i0=>grind
     |fst=>grind[FY]
     |snd=>grind[FY]
   have zye:vW (.sl true t) p=some v:=by
    grind[FY,vW]
   obtain⟨l1,D4⟩:=Y7 (.sl true t) l p zye wE;obtain⟨_,v',b1,off1,c,ee,pre,z38,zin,zS,xB,zZ,jO,z30⟩:=z3z v wu ⟨l1,D4⟩;rw[wu]at z38;simp only[zI]at z38;subst z38;rw[p8]at zin;simp only[zI,pv]at zin;obtain⟨rfl,rfl⟩:=zin;have zzr:some id≠fr:=λhc=>(Mq id hc).2.1 rfl
   have q53:c.toList.length=c.size:=vl;have vb:∀b,b≠b0->(w.setRow b0 (zD c.toList j6 [x]).toArray).heap[b]? = w.heap[b]? := λb hb=>setRow_other w b0 b _ hb
   have pV:zT w g (w.setRow b0 (zD c.toList j6 [x]).toArray) (gk g fr id p x):=
    ⟨λb hb=>⟨I5.2 hb,vb b (λhe=>by grind)⟩⟩
   have zF:=hmv _ (gk g fr id p x) pV (by simp[gk]) (λb hb=>by
    grind[gk])
   have z3q:N5 w g (w.setRow b0 (zD c.toList j6 [x]).toArray) (gk g fr id p x) id p b0:=by
    refine⟨pV,λq hq=>?_,λq b hb hq=>⟨D9 hb zzr,λvg=>vb b vg⟩⟩
    grind[gk]
   obtain⟨l2,Pn,uV⟩:=z30 _ _ d x z3q (setRow_heap w b0 c _ ee _ zZ) zF _ _ wE;have kI:∀j,j≠id->some j≠fr->xC w g (w.setRow b0 (zD c.toList j6 [x]).toArray) (gk g fr id p x) j:=by
    intro j hj TZ;refine⟨⟨λq=>by grind[gk],λq b hb=>⟨D9 hb TZ,vb b (λhe=>?_)⟩⟩,rfl,λhb=>⟨SR hb,vb _ (λhe=>?_)⟩⟩
    all_goals grind
   have hσ:∀j,(J1.setObj id (.nest t l2 e (i+1) none)).z6 j=if j=id then some (.nest t l2 e (i+1) none) else J1.z6 j:=by
    intro j;by_cases hj:j=id
    all_goals simp_all[St.setObj,zO,zf]
   have gm:∀j,qq g (gk g fr id p x) j (J.z6 j) ((J1.setObj id (.nest t l2 e (i+1) none)).z6 j):=by
    intro j;rw[hσ];by_cases hj:j=id
    ·subst hj;rw[yX rfl];exact .inr (.inr (.inr (.inr ⟨t,l,l2,e,e,i,i+1,h0,none,ho,rfl,yH _,Z1h _,λ_=>by grind[gk],λh=>by omega⟩)))
    ·rw[qW hj];by_cases TZ:some j=fr
     ·exact .inl (Mq j TZ).1
     grind[qq.same]
   refine⟨c,ee,pre,_,gk g fr id p x,Pn,zZ,zS,jO,?_,?_,?_,Qr⟩
   ·refine zj.step (m:=id) pV (show(J1.setObj id _).zk=J.zk from BD) (.inr (gm id)) (λj _=>gm j) (λj y hy=>?_) (λb hb=>?_)
    ·rw[hσ]at hy;by_cases hj:j=id
     ·subst hj;rw[yX rfl]at hy;simp only[zI]at hy;subst hy;exact .inl uV
     grind
    ·have:=zj.heap.tags b (λh=>hb (PK.2 h));simp_all
   ·refine⟨rfl,rfl,rfl,yH _,by simp_all,λb _ hb=>⟨vb b (λhe=>?_),?_⟩⟩
    ·grind
    ·rcases hb with hb|hb
     ·rw[hb];exact PK.2 hb
     ·rw[hb];exact I5.2 hb
   ·intro m hm;have Mv:m≠id:=by intro he;subst he;have:=hm.z6;grind
    have hmf:some m≠fr:=λhc=>(Mq m hc).2.2 hm.z6
    refine⟨by rw[hσ,qW Mv,z3n m hmf];exact hm.z6,λb q hb=>?_,λb hb=>?_,λj av hj=>hm.zk j av (by rw[<-BD];exact hj),λj av hj=>?_⟩
    ·simp only[gk]at hb;split at hb
     ·rename_i i' q' hg';split at hb
      ·grind
      ·exact hm.row b q (by grind)
     grind
    ·simp only[gk]at hb;split at hb
     ·grind
     ·exact hm.box b hb
    ·rw[hσ]at hj;split at hj
     ·grind
     ·by_cases TZ:some j=fr
      ·grind
      ·rw[z3n j TZ]at hj;exact hm.cells j av hj
 grind
open Classical in
noncomputable def La(g:z8)(id:Nat)(p:Path)(m:Nat):z8 where
 tag:=λb=>if g.tag b=.row id p then .row m [] else g.tag b
 sv:=λi q=>if i=m then g.sv id p else g.sv i q
 qp:=g.qp
theorem zha{n:Nat}{a:Act}{id base:Nat}{t:Ty}{l:List t.den}{e i:Nat}{p:Path}{v:Ty}{l1:List v.den}(zj:zU n g w a J)(hf:zJ g J base)(ho:J.z6 id=some (.nest t l e i none))
  (qY:v.zG=true) (wu:FY t p=some v) (wG:∀(R':Type) (k':(u:Ty)->u.den->Option R'),zb (.sl true t) l p k'=k' (.sl true v) l1) :
  let g':=La g id p base;let J':=(J.setObj id (.nest t l e i (some p))).setObj base (.row v l1 0)
  zU n g' w a J'/\Ext w g w g'/\(∀m,m≠base->zJ g J m->zJ g' J' m)/\g'.sv base []=g.sv id p/\zT w g w g':=by
 intro g' J';have zp:zN w g (some (id,[])) (.sl true t) l [g.sv id []]:=zj.heap.z6 id _ ho;obtain⟨⟨⟨bk0,o0,zjx,zpb⟩,v',b0,off,c,ee,pre,z38,p8,zS,xB,zZ,jO,z30⟩,wy⟩:=VZ zp wu wG;have hbid:base≠id:=by intro he;subst he;have:=hf.z6;grind
 have Qo:∀b,g.tag b≠.row id p->g'.tag b=g.tag b:=λb hb=>by grind[La]
 have yZ:∀j q,j≠base->g'.sv j q=g.sv j q:=λj q hj=>by grind[La]
 have pV:zT w g w g':=⟨λb hb=>⟨by grind,rfl⟩⟩;have kI:∀j,j≠id->j≠base->xC w g w g' j:=by
  intro j hj hjb;refine⟨⟨λq=>yZ j _ hjb,λq b hb=>⟨?_,rfl⟩⟩,rfl,λhb=>⟨?_,rfl⟩⟩
  all_goals grind
 have hσ:∀j,J'.z6 j=if j=base then some (.row v l1 0) else if j=id then some (.nest t l e i (some p)) else J.z6 j:=by
  intro j;by_cases hj:j=base
  ·subst hj;simp[J',St.setObj,zO]
  ·simp only[J',St.setObj,qW hj]
   grind[zf,zO]
 have gm:∀j,j≠base->qq g g' j (J.z6 j) (J'.z6 j):=by
  intro j hj;rw[hσ,qW hj];by_cases hj2:j=id
  ·subst hj2;rw[yX rfl];exact .inr (.inr (.inr (.inr ⟨t,l,l,e,e,i,i,none,some p,ho,rfl,yH _,yH _,λ_=>yZ _ _ hj,λ_ _=>yZ _ _ hj⟩)))
  ·rw[qW hj2];exact qq.same (kI j hj2 hj)
 have zyl:g'.sv base []=g.sv id p:=by simp[g',La]
 refine⟨?_,⟨rfl,rfl,rfl,yH _,yH _,λb _ hb=>⟨rfl,Qo b (by grind)⟩⟩,λm hm vc=>?_,zyl,pV⟩
 ·refine zj.step (m:=base) pV rfl (.inl hf) gm (λj y hy=>?_) (λb hb=>?_)
  ·rw[hσ]at hy;by_cases hj:j=base
   ·subst hj;rw[yX rfl]at hy;simp only[zI]at hy;subst hy;left;refine⟨qY,?_⟩;obtain⟨ad,cap,pe,SJ,h1,h2,h3⟩:=wy;refine⟨ad,cap,by grind,by grind,h1,h2,?_⟩;rcases h3 with h3|⟨b,of,cc,e3,ha,zf6,Mx,hs,ja⟩
    ·grind
    ·exact .inr ⟨b,of,cc,e3,ha,by grind[La],Mx,hs,λi hi=>zN.yJ (o:=none) qY ((zN.yJ (o':=none) qY (ja i hi)).kept pV)⟩
   ·rw[qW hj]at hy;by_cases hj2:j=id
    ·subst hj2;rw[yX rfl]at hy;simp only[zI]at hy;subst hy;left;have hnp:∀q,¬p <+: q->q≠p:=λq hq he=>hq (by grind)
     refine⟨⟨bk0,o0,zjx,by grind⟩,v',b0,off,c,ee,pre,z38,by grind[vk],?_,xB,zZ,jO,λw2 g2 l3 x hn Uq Bm R f r wE=>?_⟩
     ·grind
     ·refine z30 w2 g2 l3 x ⟨⟨λb hb=>?_⟩,λq hq=>(hn.sv q hq).trans (yZ j q hj),λq b hb hq=>?_⟩ Uq Bm f r wE
      ·exact hn.ro.qp b (pV.qp b hb).1
      ·have:g'.tag b=.row j q:=by
        grind
       exact hn.qp q b this hq
    grind
  ·by_cases wU:g.tag b=.row id p
   ·exact zj.heap.tags b (by grind)
   ·rw[Qo b wU]at hb;exact zj.heap.tags b hb
 ·have Mv:m≠id:=by intro he;subst he;have:=vc.z6;grind
  refine⟨by rw[hσ,qW hm,qW Mv];exact vc.z6,λb q hb=>?_,λb hb=>?_,vc.zk,λj av hj=>?_⟩
  ·by_cases wU:g.tag b=.row id p
   ·grind[La]
   ·rw[Qo b wU]at hb;exact vc.row b q hb
  ·by_cases wU:g.tag b=.row id p
   ·grind[La]
   ·rw[Qo b wU]at hb;exact vc.box b hb
  ·rw[hσ]at hj;split at hj
   ·grind
   ·split at hj
    ·grind
    ·exact vc.cells j av hj
end
end Go.Kz
namespace Go.Kz
variable {R:Type}
section
variable {P:Program}{o:Oper}{a:Act}{w:World}{K:Act->World->Prop}{Q:Exit->Act->World->Prop}{c:Ctx}{J:St}{g:z8}{k:St->Option R}{r:R}{base:Nat}{mo:Bool}
theorem MK{id:Nat}{t:Ty}{l:List t.den}{e i:Nat}{p:Path}{av:z7}{f:St->Option R}(h:AD J id t l e i p av f=some r):av.sk=.leaf:=by
 unfold AD at h;split at h
 ·rename_i v _
  cases qY:v.zG with
  |false=>rw[qY]at h;simp at h
  |true=>
   rw[qY]at h;simp only[zB]at h;unfold uO at h;split at h
   ·rfl
   ·rfl
   ·simp at h
 ·simp at h
theorem Bb{t:TypeId}{x y:Operand}{u:Ty}{bv:z7}{cs:List Value}{id:Nat}{p:Path}{ep:Nat}(ho:o.op=.store t x y)(uM:o.dst=none)(hT:qv P u t)(zj:zU c.ntmps g w a J)
  (ex:zm w g J.z6 (.nv true id p ep) (a.eval x)) (za:jM w g J.z6 bv cs) (vG:(a.eval y).cells.toList=cs) (uk:cs.length=u.size) (ko:u.sk=bv.sk)
  (h:E5 J id p ep bv k=some r) (hK:vY c.ntmps k r g w J base true K):o.wp P a w K Q:=by
 simp only[zm]at ex;obtain⟨cs0,⟨v0,rfl,qc,hv⟩,jl⟩:=ex;have PV:∀{t1:Ty}{l1:List t1.den}{e i:Nat}{h0:Option Path},J.z6 id=some (.nest t1 l1 e i h0)->i=ep->
   (∀v,FY t1 p=some v->(∃l2:List v.den,∀(R':Type) (k':(u:Ty)->u.den->Option R'),zb (.sl true t1) l1 p k'=k' (.sl true v) l2)->Fx w g id t1 l1 p)->
   AD J id t1 l1 e i p bv k=some r->o.wp P a w K Q:=by
  intro t1 l1 e i h0 zp hi z3z h;obtain⟨hp,b0,j6,p8,gi⟩:=((hv _ _ _ _ _ zp).2 hi).2 rfl;have hl:=MK h;have D4:cs.length=1:=by rw[za.len,hl];rfl
  obtain⟨z,rfl⟩:=Z28.1 D4;obtain⟨cc,ee,pre,J',g',hk,zZ,zS,jO,qO,qf,vO,hn⟩:=z1x zj zp z3z p8 za h;have ze:=ga (P:=P) (w:=w) (off:=j6) hT zZ vG uk (by rw[<-uk];simp;omega) za.one;have ud:a.eval x=.pointer (some ⟨b0,j6,none⟩):=by rw[jl];exact gi
  refine wp_skip uM ?_ qO qf (λm _ vc=>vO m vc) hn hk (λh=>Bool.noConfusion h) hK;simp[execOp,ho,ud,Instr.storeAt,Instr.sureAddr,ze]
 unfold E5 at h;split at h
 ·rename_i t1 l1 e i zp
  cases hb:Nat.beq i ep with
  |false=>rw[hb]at h;simp at h
  |true=>
   rw[hb]at h;have hi:=zE hb;simp only[zB]at h;have Ep:zN w g (some (id,[])) (.sl true t1) l1 [g.sv id []]:=zj.heap.z6 id _ zp
   cases hs:(FY t1 p).isSome with
   |true=>
    rw[hs]at h;simp only[zB]at h
    exact PV zp hi (λv wu ⟨l2,D3⟩=>(VZ Ep wu D3).1) h
   |false=>
    rw[hs]at h;simp only[zP]at h;split at h
    ·rename_i s p1 j q zfe;have EZ:=A9 zfe;obtain⟨U,X,Z5,wG⟩:=JN _ _ _ h;split at Z5
     ·rename_i v l2
      cases qY:v.zG with
      |false=>rw[qY]at Z5;simp at Z5
      |true=>
       rw[qY]at Z5;simp only[zB]at Z5;obtain⟨u1,x1,K6,FV⟩:=I2 qY Z5;obtain⟨d,J1,g1,hk3,h1,h2,h3,uW⟩:=gQ 20 zj.heap za FV K6;have yN:=h3.st h1 zj;split at hk3
       ·rename_i t2 l3 e2 i2 Cr;have kI:J1.z6 id=J.z6 id:=by
         rcases h3.z6 id with e|e
         ·exact e
         ·rw[e]at Cr;simp at Cr
        have Cs:J1.z6 id=some (.nest t1 l1 e i none):=kI.trans zp;obtain⟨hp,b0,j6,p8,gi⟩:=((hv _ _ _ _ _ zp).2 hi).2 rfl;have zim:place g1 id (.sl true t1) [] 0 0 (s::p1++.idx j::q)=some (b0,j6):=by
         rw[<-EZ];exact(vk (g:=g) (g':=g1) (λp=>by rw[h3.sv])).trans p8
        obtain⟨l',cc,ee,hf,zZ,zS,qG,yF⟩:=Ln yN.heap Cs qY wG uW zim hk3;have hur:u1.size=u.size:=by rw[<-uW.len,uk]
        have ze:=ga (P:=P) (w:=w) hT zZ vG uk (by rw[<-hur];exact qG) za.one;have EX:=jb (w:=w) (g:=g1) (id:=id) (b0:=b0) (zD cc.toList j6 cs).toArray (.inl ⟨_,zS⟩);have k9:=EX.st yN (o':=.nest t1 l' e i none) (.inr (.inr (.inr (.inr ⟨t1,l1,l',e,e,i,i,none,none,Cs,rfl,yH _,yH _,λ_=>rfl,λ_ _=>rfl⟩)))) yF;have ud:a.eval x=.pointer (some ⟨b0,j6,none⟩):=by rw[jl];exact gi
        refine wp_skip uM ?_ k9 (h3.ext.trans EX.ext) (λm _ vc=>?_) h2 hf (λh=>Bool.noConfusion h) hK
        ·simp[execOp,ho,ud,Instr.storeAt,Instr.sureAddr,ze]
        ·exact EX.fresh (by rw[Cs];simp) (λy hy=>by simp at hy) (h3.fresh h1 vc)
       ·simp at hk3
     ·simp at Z5
    ·simp at h
 ·rename_i t1 l1 e i h0 zp
  cases hb:Nat.beq i ep with
  |false=>rw[hb]at h;simp at h
  |true=>
   rw[hb]at h;have hi:=zE hb;simp only[zB]at h;obtain⟨hpe,hfk⟩:=qB h;obtain rfl:=JD hpe;exact PV zp hi (λv wu _=>zj.heap.z6 id _ zp) hfk
 ·simp at h
open Classical in
noncomputable def ND(g:z8)(m id:Nat)(p:Path)(x:Value):z8 where
 tag:=λb=>if g.tag b=.box m then .row id p else g.tag b
 sv:=λi q=>if i=id/\q=p then x else g.sv i q
 qp:=g.qp
theorem zaq{m id:Nat}{p:Path}{x:Value}{b:Nat}(h:g.tag b≠.box m):(ND g m id p x).tag b=g.tag b:=by simp only[ND,qW h]
theorem NC{w':World}{g':z8}{id:Nat}{l:List (Option (List (List UInt8×Bool)))}{j:Int}{m:Option (List (List UInt8×Bool))}{x:Value}{b off cap:Nat}{c:Array Value}{e:TypeId}
  (yZ:g.sv id []=.slice (some ⟨b,off,none⟩) l.length cap) (K5:l.length<=cap) (Vn:cap<=maxLen) (qG:off+cap<=c.size)
  (ja:∀(i:Nat)(h:i<l.length),zN w g (some (id,[.idx i])) (.mp true) (l.get ⟨i,h⟩) (qS c.toList (off+i) 1)) (hj:0<=j) (hjl:j<l.length)
  (Pb:∀q,q≠[.idx j]->g'.sv id q=g.sv id q) (zS:g'.tag b=.row id []) (zZ:w'.heap[b]? = some (.cells (zD c.toList (off+j.toNat) [x]).toArray e (0,0)))
  (Bn:∀(i:Nat) b,(i:Int)≠j->g.tag b=.row id [.idx i]->g'.tag b=.row id [.idx i]/\w'.heap[b]? = w.heap[b]?)
  (hx:g'.sv id [.idx j]=x) (hm:Gw w' (λb=>g'.tag b=.row id [.idx j]) m x):zN w' g' (some (id,[])) (.sl true (.mp true)) (qN l j m) [g'.sv id []]:=by
 have uk:c.toList.length=c.size:=vl;have hs0:=Pb [] (by simp);refine⟨some ⟨b,off,none⟩,cap,by rw[qJ,hs0,yZ],by rw[qJ,hs0,yZ],by rw[qJ];exact K5,Vn,.inr ⟨b,off,_,e,rfl,zS,zZ,?_,λi hi=>?_⟩⟩
 ·rw[Z24,j5 _ _ _ (by simp;omega),uk];simpa[Ty.size]using qG
 ·have wm:i<l.length:=by rw[qJ]at hi;exact hi
  rw[Zx];simp only[Ty.size,TB];by_cases Ze:j.toNat=i
  ·rw[yX Ze];subst Ze;rw[Xg (by omega)];have hjj:((j.toNat:Nat):Int)=j:=Z20 hj;show zN w' g' (some (id,[Step.idx ((j.toNat:Nat):Int)])) (.mp true) m [x];rw[hjj];exact⟨by rw[hx],by rw[hx];exact hm⟩
  ·rw[qW Ze];have vg:(i:Int)≠j:=by omega
   have hold:=ja i wm;have BD:=Pb [.idx i] (by simp;exact vg);have zbh:qS (zD c.toList (off+j.toNat) [x]) (off+i) 1=qS c.toList (off+i) 1:=by
    rcases Z33 Ze with h|h
    ·exact vu _ _ _ _ _ (by simp;omega) (by simp;omega)
    ·exact jy _ _ _ _ _ (by omega) (by omega)
   show zN w' g' (some (id,[Step.idx (i:Int)])) (.mp true) (l.get ⟨i,wm⟩) _;rw[zbh];exact⟨by rw[BD];exact hold.1,by rw[BD];exact hold.2.mono λb hb=>Bn i b vg hb⟩
theorem Hj{t:TypeId}{x y:Operand}{u:Ty}{cs:List Value}{id m:Nat}{p:Path}{ep:Nat}(ho:o.op=.store t x y)(uM:o.dst=none)(hT:qv P u t)(zj:zU c.ntmps g w a J)
  (ex:zm w g J.z6 (.nv true id p ep) (a.eval x)) (za:jM w g J.z6 (.qV m) cs) (vG:(a.eval y).cells.toList=cs) (uk:cs.length=u.size)
  (h:E8 J id p ep m k=some r) (hK:vY c.ntmps k r g w J base true K):o.wp P a w K Q:=by
 simp only[zm]at ex;obtain⟨cs0,⟨v0,rfl,qc,hv⟩,jl⟩:=ex;unfold E8 at h;split at h
 ·rename_i j l e i es zp hm
  cases hb:Nat.beq i ep with
  |false=>rw[hb]at h;simp at h
  |true=>
   rw[hb]at h;have hi:=zE hb;simp only[zB]at h;obtain⟨xX,h⟩:=qB h;simp only[jY,zA,ve]at xX;obtain⟨hp,b0,j6,p8,gi⟩:=((hv _ _ _ _ _ zp).2 hi).2 rfl;have zF:zN w g (some (id,[])) (.sl true (.mp true)) l [g.sv id []]:=zj.heap.z6 id _ zp;obtain⟨ad,cap,pe,yZ,K5,Vn,h3⟩:=zF;rcases h3 with⟨_,hl,_⟩|⟨b,off,cc,ee,rfl,zS,zZ,qG,ja⟩
   ·rw[hl]at xX;simp at xX;omega
   simp only[place,yZ,Ty.size,TB,zI,pv]at p8;obtain⟨rfl,rfl⟩:=p8;obtain⟨Bt,ck,hblk,hbt,_,_,hmr,Hr,p7⟩:=zj.heap.z6 m _ hm;obtain⟨z,rfl,_,hz⟩:=za;have hz:=hz _ _ _ hm;have vg:m≠id:=by intro he;rw[he,zp]at hm;simp at hm
   have qG:off+cap<=cc.size:=by simpa[Ty.size]using qG
   have ze:=ga (P:=P) (w:=w) (off:=off+j.toNat) hT zZ vG uk (by rw[<-uk];simp;omega) (λv hv=>by simp at hv;rw[hv,hz];rfl);have ud:a.eval x=.pointer (some ⟨b,off+j.toNat,none⟩):=by rw[jl];exact gi
   have vb:∀b',b'≠b->(w.setRow b (zD cc.toList (off+j.toNat) [z]).toArray).heap[b']? = w.heap[b']? := λb' jt=>setRow_other w b b' _ jt
   have Qo:∀b',g.tag b'≠.box m->(ND g m id [.idx j] z).tag b'=g.tag b':=λb' h=>zaq h
   have qY:zT w g (w.setRow b (zD cc.toList (off+j.toNat) [z]).toArray) (ND g m id [.idx j] z):=
    ⟨λb' jt=>⟨by rw[Qo b' (by rw[jt];simp)];exact jt,vb b' (λhe=>by rw[he,zS]at jt;simp at jt)⟩⟩
   have kI:∀q,q≠id->q≠m->xC w g (w.setRow b (zD cc.toList (off+j.toNat) [z]).toArray) (ND g m id [.idx j] z) q:=by
    intro q hq SK;refine⟨⟨λp=>by simp only[ND];rw[qW (λh=>hq h.1)],λp b' jt=>⟨by rw[Qo b' (by rw[jt];simp)];exact jt,vb b' (λhe=>?_)⟩⟩,rfl,λjt=>⟨by rw[Qo _ (by rw[jt];simp;exact SK)];exact jt,vb _ (λhe=>?_)⟩⟩
    ·rw[he,zS]at jt;simp only[Tag.row.injEq]at jt;exact hq jt.1.symm
    ·rw[he,zS]at jt;simp at jt
   have hbn:g.qp m≠b:=λhe=>by rw[he,zS]at hbt;simp at hbt
   have hσ:∀q,((J.kill m).setObj id (.nest (.mp true) (qN l j (some es)) e (i+1) none)).z6 q=if q=id then some (.nest (.mp true) (qN l j (some es)) e (i+1) none) else if q=m then none else J.z6 q:=by
    intro q;by_cases hq:q=id
    ·subst hq;simp[St.setObj,zO]
    ·simp only[St.setObj,qW hq,St.kill];rw[zf _ _ hq];by_cases SK:q=m
     ·subst SK;simp[zO]
     ·rw[qW SK,zf _ _ SK]
   have gm:∀q,qq g (ND g m id [.idx j] z) q (J.z6 q) (((J.kill m).setObj id (.nest (.mp true) (qN l j (some es)) e (i+1) none)).z6 q):=by
    intro q;rw[hσ];by_cases hq:q=id
    ·subst hq;rw[yX rfl];exact .inr (.inr (.inr (.inr ⟨_,l,qN l j (some es),e,e,i,i+1,none,none,zp,rfl,yH _,Z1h _,λ_=>by simp[ND],λh=>by omega⟩)))
    ·rw[qW hq];by_cases SK:q=m
     ·rw[yX SK];exact .inl rfl
     ·rw[qW SK];exact qq.same (kI q hq SK)
   have hob:zn (w.setRow b (zD cc.toList (off+j.toNat) [z]).toArray) (ND g m id [.idx j] z) ((J.kill m).setObj id (.nest (.mp true) (qN l j (some es)) e (i+1) none)).z6 id (.nest (.mp true) (qN l j (some es)) e (i+1) none):=by
    refine NC (w:=w) (g:=g) yZ K5 Vn qG (λi hi=>by have:=ja i hi;simpa[Ty.size]using this) xX.1 xX.2 (λq hq=>by simp only[ND];rw[qW (λh=>hq h.2)]) (by rw[Qo b (by rw[zS];simp)];exact zS) (setRow_heap w b cc _ ee _ zZ)
     (λi' b' wm jt=>⟨by rw[Qo b' (by rw[jt];simp)];exact jt,vb b' (λhe=>by rw[he,zS]at jt;simp at jt)⟩) (by simp[ND]) ?_
    exact⟨g.qp m,Bt,ck,hz,by simp only[ND,yX hbt],(vb _ hbn).trans hblk,QL.of hmr,Hr,p7⟩
   refine wp_skip (J:=J) uM ?_ (zj.step (m:=id) (J':=(J.kill m).setObj id (.nest (.mp true) (qN l j (some es)) e (i+1) none)) qY rfl (.inr (gm id)) (λq _=>gm q) (λq y hy=>?_) (λb' jt=>?_)) ⟨rfl,rfl,rfl,yH _,by simp[World.setRow],λb' _ jt=>⟨vb b' (λhe=>?_),Qo b' (by rcases jt with h|h<;>rw[h]<;>simp)⟩⟩ (λn _ vc=>?_) rfl h (λh=>Bool.noConfusion h) hK
   ·simp[execOp,ho,ud,Instr.storeAt,Instr.sureAddr,ze]
   ·rw[hσ]at hy;by_cases hq:q=id
    ·subst hq;rw[yX rfl]at hy;simp only[zI]at hy;subst hy;exact .inl hob
    ·rw[qW hq]at hy;by_cases SK:q=m
     ·rw[yX SK]at hy;simp at hy
     ·rw[qW SK]at hy;exact .inr ⟨hy,kI q hq SK⟩
   ·have:g.tag b'≠.zt:=by
     intro h;exact jt (by rw[Qo b' (by rw[h];simp)];exact h)
    simpa[World.setRow]using zj.heap.tags b' this
   ·rw[he,zS]at jt;simp at jt
   ·have hni:n≠id:=by intro he;subst he;have:=vc.z6;rw[zp]at this;simp at this
    have Zq:n≠m:=by intro he;subst he;have:=vc.z6;rw[hm]at this;simp at this
    refine⟨by rw[hσ,qW hni,qW Zq];exact vc.z6,λb' q jt=>?_,λb' jt=>?_,vc.zk,λq av hq=>?_⟩
    ·simp only[ND]at jt;split at jt
     ·simp only[Tag.row.injEq]at jt;exact hni jt.1.symm
     ·exact vc.row b' q jt
    ·simp only[ND]at jt;split at jt
     ·simp at jt
     ·exact vc.box b' jt
    ·rw[hσ]at hq;split at hq
     ·simp at hq
     ·split at hq
      ·simp at hq
      ·exact vc.cells q av hq
 ·simp at h
theorem z1e(kA:p6 P c.tt){t:TypeId}{x y:Operand}(ho:o.op=.store t x y)(zj:zU c.ntmps g w a J)(h:yE c J base o k=some r)(hK:vY c.ntmps k r g w J base true K):o.wp P a w K Q:=by
 simp only[yE,ho]at h;split at h
 ·rename_i av bv u hx hy hu uM
  cases hb:(bv.val&&u.sk.same bv.sk) with
  |false=>rw[hb]at h;simp at h
  |true=>
   rw[hb]at h;simp only[zB]at h;simp only[zA]at hb;have ko:=Sk.qQ hb.2;have hT:=kA _ _ hu;obtain⟨ex,efx⟩:=qD zj hx;obtain⟨ey,efy⟩:=qD zj hy;obtain⟨cs,za,Qs,vG⟩:=vP hb.1 ey;have uk:cs.length=u.size:=by rw[za.len,<-ko,Ty.zW]
   unfold z0j at h;split at h
   ·rename_i id p ep;split at h
    ·simp at h
    ·rename_i s q;obtain⟨t0,l0,FP⟩:=xV h;simp only[zm]at ex;obtain⟨cs0,⟨v,rfl,qc,hv⟩,jl⟩:=ex;obtain⟨hp,b0,j6,p8,gi⟩:=(hv _ _ _ FP).2 rfl;obtain⟨t1,l1,u1,e1,b,off,cc,ee,Cs,qY,hk,FV,ka,wu,zS,zZ,qG,zF⟩:=ue zj.heap hp h;obtain⟨d,J1,g1,Z5,h1,h2,h3,uW⟩:=gQ 20 zj.heap za FV hk;have yN:=h3.st h1 zj;split at Z5
     ·rename_i t2 l2 e2 Cr
      cases EG:Nat.beq e2 ep with
      |false=>rw[EG]at Z5;simp at Z5
      |true=>
       rw[EG]at Z5;have Hm:=zE EG;subst Hm;simp only[zB]at Z5;have kI:J1.z6 id=J.z6 id:=by
        rcases h3.z6 id with e|e
        ·exact e
        ·rw[e]at Cr;simp at Cr
       have zim:place g1 id (.sl true t0) [] 0 0 (s::q)=some (b0,j6):=by
        exact(vk (g:=g) (g':=g1) (λp=>by rw[h3.sv])).trans p8
       have zyj:t2=t0:=by
        rw[kI,FP]at Cr;simp only[zI,Obj.row.injEq]at Cr;exact Cr.1.symm
       subst zyj
       cases s with
       |fst=>simp[jn]at Z5
       |snd=>simp[jn]at Z5
       |idx i=>
        obtain⟨l',cc',ee',hf,Tu,Gm,zp8,Pa,yF⟩:=Rs yN.heap Cr FV uW zim Z5;have hur:u1.size=u.size:=by rw[<-uW.len,uk]
        have ze:=ga (P:=P) (w:=w) hT Gm vG uk (by rw[<-hur];exact Pa) za.one;have EX:=jb (w:=w) (g:=g1) (id:=id) (b0:=b0) (zD cc'.toList j6 cs).toArray (.inl ⟨[],zp8⟩);have k9:=EX.st yN (o':=.row t2 l' e2) (.inr (.inl ⟨t2,l2,l',e2,e2,Cr,rfl,.inr ⟨rfl,Tu,λ_=>rfl⟩⟩)) yF;have ud:a.eval x=.pointer (some ⟨b0,j6,none⟩):=by rw[jl];exact gi
        refine wp_skip uM ?_ k9 (h3.ext.trans EX.ext) (λm _ vc=>?_) h2 hf (λh=>Bool.noConfusion h) hK
        ·simp[execOp,ho,ud,Instr.storeAt,Instr.sureAddr,ze]
        ·exact EX.fresh (by rw[Cr];simp) (λy hy=>by simp at hy) (h3.fresh h1 vc)
     ·simp at Z5
   ·rename_i id p;split at h
    ·rename_i whole zp;obtain⟨hnt,h⟩:=VO h;obtain⟨cc,e,zZ,zS,hall⟩:=(zj.heap.z6 id _ zp).out hnt;obtain⟨old,off,hk,jO,YS,_⟩:=ZL hall h
     cases hbo:old.sk.same bv.sk with
     |false=>rw[hbo]at hk;simp at hk
     |true=>
      rw[hbo]at hk;simp only[zB]at hk;have Tg:=Sk.qQ hbo;rw[Tg]at jO;obtain⟨DF,K6,hws,zba,gI⟩:=Y8 za hall jO hk;simp only[zm]at ex;obtain⟨cs0,⟨v,rfl,qc,hv⟩,jl⟩:=ex;obtain⟨VF,s,kJ,gi⟩:=hv _ zp;rw[jO]at kJ;simp only[zI,pv]at kJ;obtain⟨rfl,_⟩:=kJ;have hle:=Sk.kZ jO;have zr1:=hall.len;rw[vl]at zr1;have Qt:bv.sk.size=u.size:=by rw[<-ko,Ty.zW]
      have ze:=ga (P:=P) (w:=w) (u:=u) (off:=off) hT zZ vG uk (by omega) za.one;have EX:=jb (w:=w) (g:=g) (id:=id) (b0:=g.qp id) (zD cc.toList off cs).toArray (.inr zS);have gm:∀i,qq g g i (J.z6 i) ((J.setObj id (.cell DF)).z6 i):=by
       intro i;by_cases hi:i=id
       ·subst hi;simp only[St.setObj,zO];exact .inr (.inr (.inl ⟨whole,DF,zp,rfl,hws,rfl⟩))
       ·simp only[St.setObj];rw[zf _ _ hi];exact qq.same (EX.same hi)
      have k9:=EX.st zj (o':=.cell DF) (.inr (.inr (.inl ⟨whole,DF,zp,rfl,hws,rfl⟩))) (by
       refine zn.mk ⟨(zD cc.toList off cs).toArray,e,setRow_heap w _ cc _ e _ zZ,zS,?_⟩;exact jM.frame EX.ro (λi _=>gm i) zba)
      have ud:a.eval x=.pointer (some ⟨g.qp id,off,none⟩):=by rw[jl];exact gi
      refine wp_skip (J:=J) uM ?_ k9 EX.ext (λm _ vc=>?_) rfl K6 (λh=>Bool.noConfusion h) hK
      ·simp[execOp,ho,ud,Instr.storeAt,Instr.sureAddr,ze]
      ·refine EX.fresh (by rw[zp];simp) (λy hy=>?_) vc;simp only[Obj.cell.injEq]at hy;subst hy;exact gI m (vc.cells _ _ zp) (efy m vc)
    ·simp at h
   ·rename_i id p ep;split at h
    ·exact Hj ho uM hT zj ex za vG uk h hK
    ·exact Bb ho uM hT zj ex za vG uk ko h hK
   ·simp at h
 ·simp at h
end
end Go.Kz
namespace Go.Kz
variable {R:Type}
section
variable {P:Program}{o:Oper}{a:Act}{w:World}{K:Act->World->Prop}{Q:Exit->Act->World->Prop}{c:Ctx}{J:St}{g:z8}{k:St->Option R}{r:R}{base:Nat}
structure wH (P:Program) (w:World) (g:z8) (t:Ty) (x:Value) (m:List t.den) (news:List Value):Prop where
 len:∀w':World,w'.heap=w.heap->(Builtin.lenOf x).run P w'=.ok m.length w'
 cells:∀w':World,w'.heap=w.heap->(Builtin.firstCells t.size m.length x).run P w'=.ok news.toArray w'
 pre:∀n,n<=m.length->∀w':World,w'.heap=w.heap->(Builtin.firstCells t.size n x).run P w'=.ok (news.take (n*t.size)).toArray w'
 length:news.length=m.length*t.size
 elts:∀(i:Nat)(h:i<m.length),zN w g none t (m.get ⟨i,h⟩) (qS news (i*t.size) t.size)
 one:∀v∈news,v.oneCell'=true
theorem PB{w w':World}(h:w'.heap=w.heap)(ad:Addr):w'.cell? ad=w.cell? ad:=by simp[World.cell?,h]
theorem wH.YG{t:Ty}{m:List t.den}{b off cap:Nat}{cc:Array Value}{e:TypeId}{fz:Nat×Nat}(hc:w.heap[b]? = some (.cells cc e fz))(hs:off+m.length*t.size<=cc.size)
  (ja:∀(i:Nat)(h:i<m.length),zN w g none t (m.get ⟨i,h⟩) (qS cc.toList (off+i*t.size) t.size)) :
  wH P w g t (.slice (some ⟨b,off,none⟩) m.length cap) m (qS cc.toList off (m.length*t.size)):=by
 have hlen:(qS cc.toList off (m.length*t.size)).length=m.length*t.size:=yS (by rw[vl];exact hs);refine⟨λw' _=>rfl,λw' QA=>?_,λn hn w' QA=>?_,hlen,λi hi=>?_,λv hv=>?_⟩
 ·refine run_firstCells_some (P:=P) w' t.size m.length ⟨b,off,none⟩ m.length cap _ hlen (λj v hv=>?_);rw[Addr.add_lit,PB QA,cell_of_row w b (off+j) cc e fz hc];simp only[qS,Z39,Z2j]at hv;split at hv
  ·simpa using hv
  ·simp at hv
 ·have Zq:n*t.size<=m.length*t.size:=kn _ hn;refine run_firstCells_some (P:=P) w' t.size n ⟨b,off,none⟩ m.length cap _ (by rw[Us,hlen];omega) (λj v hv=>?_);rw[Addr.add_lit,PB QA,cell_of_row w b (off+j) cc e fz hc];simp only[qS,Z39,Z2j]at hv;split at hv
  ·split at hv
   ·simpa using hv
   ·simp at hv
  ·simp at hv
 ·have hmul:(i+1)*t.size<=m.length*t.size:=kn _ hi;rw[kq]at hmul;rw[pP _ _ _ _ _ (by omega)];exact ja i hi
 ·obtain⟨j,hj,rfl⟩:=Gz.1 hv;have Zy:=hj;rw[hlen]at Zy;have htz:0<t.size:=by
   rcases Z29 t.size with hz|hz
   ·rw[hz]at Zy;omega
   ·exact hz
  have hi:j/t.size<m.length:=Z3t (by rw[Z21];omega);have h1:=(ja _ hi).one;refine h1 _ ?_;have hm:=Z2t j htz;have hdm:=Z3u j t.size;have hmul:(j/t.size+1)*t.size<=m.length*t.size:=kn _ hi;rw[kq]at hmul;refine Gz.2 ⟨j%t.size,?_,?_⟩
  ·rw[yS (by rw[vl];omega)];exact hm
  ·simp only[qS,Z35,Z36];congr 1;rw[TD,Z21 (j/t.size),hdm]
theorem wH.of_nil{t:Ty}{b:Option Addr}{cap:Nat}:wH P w g t (.slice b 0 cap) ([]:List t.den) []:=by
 have h0:∀w':World,(Builtin.firstCells t.size 0 (.slice b 0 cap)).run P w'=.ok #[] w':=λw'=>by
  cases b with
  |none=>simp[Builtin.firstCells]
  |some b=>simp[Builtin.firstCells,loadCells,loadCellsFrom]
 refine⟨λw' _=>rfl,λw' _=>h0 w',λn hn w' _=>?_,by simp,λi h=>by simp at h,by simp⟩;have:n=0:=by simpa using hn
 subst this;simpa using h0 w'
theorem Np(w:World)(g:z8):zT w g w g:=⟨λ_ hb=>⟨hb,rfl⟩⟩
theorem wH.tree{k:Nat}{v:Value}{l:List (Rec k)}{news:List Value}:wH P w g (.tree k) v l news↔wH P w g (.pair (uE k) (uD k)) v (List.map (vz k) l) news:=by
 have hz:(Ty.tree k).size=(Ty.pair (uE k) (uD k)).size:=XE k;have hl:(List.map (vz k) l).length=List.length l:=GZ ..;have ja:∀(i:Nat) (h:i<List.length l) (h':i<(List.map (vz k) l).length) cs,zN w g none (.tree k) (List.get l ⟨i,h⟩) cs↔zN w g none (.pair (uE k) (uD k)) ((List.map (vz k) l).get ⟨i,h'⟩) cs:=λi h h' cs=>by
  rw[zN.WG];simp
 constructor
 ·rintro⟨h1,h2,h3,h4,h5,h6⟩;refine⟨?_,?_,?_,?_,λi hi=>?_,h6⟩
  ·rw[hl];exact h1
  ·rw[hl,<-hz];exact h2
  ·rw[hl,<-hz];exact h3
  ·rw[hl,<-hz];exact h4
  ·have wm:i<List.length l:=by rw[<-hl];exact hi
   have:=(ja i wm hi _).1 (h5 i wm);rw[hz]at this;exact this
 ·rintro⟨h1,h2,h3,h4,h5,h6⟩;rw[hl]at h1 h2 h3 h4;rw[<-hz]at h2 h3 h4;refine⟨h1,h2,h3,h4,λi hi=>?_,h6⟩;have wm:i<(List.map (vz k) l).length:=by rw[hl];exact hi
  have:=(ja i hi wm _).2 (h5 i wm);rw[<-hz]at this;exact this
theorem AA{a b:Ty}{l:List a.den}{f:List b.den->Option R}{r:R}(h:ZM (.sl false a) (.sl false b) l f=some r):∃m,f m=some r/\∀v news,wH P w g a v l news->wH P w g b v m news:=by
 unfold ZM at h;split at h
 ·rename_i j x y l' k' h1 h2 h3 h4;simp only[Ty.sl.injEq,Ur]at h1 h2;subst h1;subst h2;cases h3;cases h4;obtain⟨e,h⟩:=yY h;cases e;exact⟨_,h,λv news hr=>wH.tree.1 hr⟩
 ·rename_i x y j l' k' h1 h2 h3 h4;simp only[Ty.sl.injEq,Ur]at h1 h2;subst h1;subst h2;cases h3;cases h4;obtain⟨e,h⟩:=yY h;cases e;refine⟨_,h,λv news hr=>wH.tree.2 ?_⟩;rw[A4];exact hr
 ·obtain⟨e,h⟩:=yY h;cases e;exact⟨_,h,λ_ _ hr=>hr⟩
theorem JW(hh:yC w g J.z6){x:z7}{v:Value}{t:Ty}{f:List t.den->Option R}(ht:t.zG=true)(hx:zm w g J.z6 x v)(h:asData J 20 x (.sl false t) f=some r)(hval:x.val=true)(SX:x.M8=false):
  ∃m news,f m=some r/\wH P w g t v m news:=by
 cases x with
 |data t' d=>
  simp only[asData]at h;simp only[zm]at hx;obtain⟨cs,⟨qY,zF⟩,hv⟩:=hx;have ko:=J9 h;obtain⟨d,h,_,hF⟩:=vT h qY;obtain⟨b,cap,rfl,h1,h2,h3⟩:=hF _ _ _ zF;simp only[z7.isAgg,z7.sk,ko,Ty.sk]at hv;have jl:v=.slice b (List.length d) cap:=hv;subst jl;refine⟨d,?_⟩;by_cases hn:d=[]
  ·subst hn;exact⟨[],h,wH.of_nil⟩
  ·obtain⟨bk,off,cc,e,fz,rfl,zS,zZ,qG,ja⟩:=h3 hn
   exact⟨_,h,wH.YG zZ qG ja⟩
 |zi=>
  simp only[asData]at h;have hv:=QG.1 hx;subst hv;have h':f []=some r:=by
   have:(Ty.sl false t).zG=true:=by simp[Ty.zG,ht]
   rw[this]at h;exact h
  exact⟨[],[],h',wH.of_nil⟩
 |ref id p ep=>
  simp only[asData]at h;obtain⟨t',l,zp,rfl,qY,h⟩:=kV hh h;rw[WU]at h;replace h:=AA (P:=P) (w:=w) (g:=g) (a:=t'.ro) h;obtain⟨m,h,hT⟩:=h;simp only[zm]at hx;obtain⟨cs,⟨x,rfl,_,hv⟩,jl⟩:=hx;have e1:=(hv _ _ _ zp).2 rfl;obtain⟨b,cap,_,yZ,h1,h2,h3⟩:=(hh.z6 _ _ zp).2;have gi:v=.slice b l.length cap:=by rw[<-yZ,<-e1];exact jl
  subst gi;rcases h3 with⟨rfl,hl,rfl⟩|⟨bk,off,cc,e,rfl,zS,zZ,qG,ja⟩
  ·subst hl;exact⟨m,[],h,hT _ _ wH.of_nil⟩
  ·refine⟨m,qS cc.toList off (l.length*t'.ro.size),h,hT _ _ ?_⟩;have AQ:(l.map (Ty.gz t')).length=l.length:=by simp
   have Qf:l.length*t'.size<=cap*t'.size:=kn _ h1;have:=wH.YG (P:=P) (w:=w) (g:=g) (t:=t'.ro) (m:=l.map (Ty.gz t')) (b:=bk) (off:=off) (cap:=cap) zZ (by rw[AQ,Ty.qd];omega) (λi hi=>by
    have wm:i<l.length:=by rw[AQ]at hi;exact hi
    have hf:=zN.freeze (Np w g) (o:=none) trivial (zN.yJ (o':=none) qY (ja i wm));simp only[IL,Rq,Ty.qd]at hf⊢;exact hf)
   rw[AQ]at this
   exact this
 |view id p ep av bv=>
  simp only[asData]at h;obtain⟨t',l,zp,rfl,qY,h⟩:=kV hh h;rw[WU]at h;replace h:=AA (P:=P) (w:=w) (g:=g) (a:=t'.ro) h;obtain⟨m,h,hT⟩:=h;simp only[zm]at hx;obtain⟨cs,⟨x,rfl,_,hv⟩,jl⟩:=hx;obtain⟨_,h0,uN,Vs,e1⟩:=(hv _ _ _ zp).2 rfl;obtain⟨b,cap,_,yZ,h1,h2,h3⟩:=(hh.z6 _ _ zp).2;have gi:v=jC (.slice b l.length cap) t'.size av bv:=by rw[<-yZ,<-e1];exact jl
  have hsl:=ur l av bv h0 uN Vs;have AQ:((sub l av bv).map (Ty.gz t')).length=(bv-av).toNat:=by rw[GZ,hsl];omega
  by_cases hz:(bv-av).toNat=0
  ·have z3o:(sub l av bv).map (Ty.gz t')=[]:=T3 (AQ.trans hz);refine⟨m,[],h,hT _ _ ?_⟩;rw[z3o,gi];simp only[jC,hz];exact wH.of_nil
  ·rcases h3 with⟨rfl,hl,rfl⟩|⟨bk,off,cc,e,rfl,zS,zZ,qG,ja⟩
   ·rw[hl]at Vs;simp at Vs;omega
   ·refine⟨m,qS cc.toList (off+av.toNat*t'.size) ((bv-av).toNat*t'.ro.size),h,hT _ _ ?_⟩;have Qf:(av.toNat+(bv-av).toNat)*t'.size<=cap*t'.size:=kn _ (by omega);rw[kq]at Qf;have:=wH.YG (P:=P) (w:=w) (g:=g) (t:=t'.ro) (m:=(sub l av bv).map (Ty.gz t')) (b:=bk) (off:=off+av.toNat*t'.size) (cap:=cap-av.toNat) zZ (by rw[AQ,Ty.qd];omega) (λi hi=>by
     have Qe:i<(sub l av bv).length:=by simpa using hi
     have QC:av.toNat+i<l.length:=by omega
     have hf:=zN.freeze (Np w g) (o:=none) trivial (zN.yJ (o':=none) qY (ja _ QC));have hg:=WB l av bv i Qe QC;rw[IL]at hg;rw[IL,Rq,hg,Ty.qd];have e3:off+av.toNat*t'.size+i*t'.size=off+(av.toNat+i)*t'.size:=by rw[kq];omega
     rw[e3];exact hf)
    rw[AQ]at this;rw[gi];simp only[jC];rw[qW (by omega)];simp only[Z2h,Addr.add_lit]
    exact this
 |agg c=>cases c<;>simp[z7.val]at hval<;>simp[asData]at h
 |nv pt id p ep=>simp[z7.M8]at SX
 |_=>simp[asData]at h
theorem uw{T E:TypeId}{t u:Ty}(qu:P.underlying T=some (.slice E))(hE:j4 P E u)(YM:u.size=t.size){ty:TypeId}{b off n cap:Nat}{cc:Array Value}{e:TypeId}{x:Value}{m:List t.den}{news:List Value}
  (hc:w.heap[b]? = some (.cells cc e (0,0))) (ht:wH P w g t x m news) (wi:n+m.length<=cap) (qG:off+cap*t.size<=cc.size) :
  (Builtin.append_ #[T,T] ty #[.slice (some ⟨b,off,none⟩) n cap,x]).run P w=.ok (.slice (some ⟨b,off,none⟩) (n+m.length) cap) (w.setRow b (zD cc.toList (off+n*t.size) news).toArray):=by
 have hs:=hE.sizeOf w;rw[YM]at hs;have h1:=ht.len w rfl;have h2:=ht.cells w rfl;have hmul:(n+m.length)*t.size<=cap*t.size:=kn _ wi;rw[kq]at hmul;have zj:=run_storeCells_at P b (off+n*t.size) e news 0 cc w hc (by rw[ht.length];omega) ht.one;simp only[TE]at zj;simp[Builtin.append_,run_underlying qu,hs,h1,wi,h2,Addr.add_lit,zj,zD]
theorem uj{T E:TypeId}{t u:Ty}(qu:P.underlying T=some (.slice E))(hE:j4 P E u)(YM:u.size=t.size){ty:TypeId}{x:Value}{news:List Value}(ht:wH P w g t x ([]:List t.den) news):
  (Builtin.append_ #[T,T] ty #[.slice none 0 0,x]).run P w=.ok (.slice none 0 0) w:=by
 have hs:=hE.sizeOf w;rw[YM]at hs;have h1:=ht.len w rfl;have h2:=ht.cells w rfl;simp only[TA]at h1 h2;simp[Builtin.append_,run_underlying qu,hs,h1,h2]
theorem uv{T E:TypeId}{t u:Ty}(qu:P.underlying T=some (.slice E))(hE:j4 P E u)(YM:u.size=t.size){ty:TypeId}{b:Option Addr}{n cap:Nat}{x:Value}{m:List t.den}{news gH:List Value}
  (ht:wH P w g t x m news) (wi:cap<n+m.length) (Bs:n+m.length<=4294967296)
  (hold:∀w':World,w'.heap=w.heap->(Builtin.firstCells t.size n (.slice b n cap)).run P w'=.ok gH.toArray w') :
  ∃zs,(Builtin.append_ #[T,T] ty #[.slice b n cap,x]).run P w=.ok (.slice (some ⟨w.heap.size,0,none⟩) (n+m.length) (grownCap w (n+m.length) cap E))
   (w.drew.alloc (.cells (gH.toArray++news.toArray++zs) E))/\zs.size=(grownCap w (n+m.length) cap E-(n+m.length))*t.size:=by
 obtain⟨i,z,Qe,QC,Bo,TY,TQ,hi6⟩:=hE.info;rw[YM]at QC;have h1:=ht.len w rfl;have h2:=ht.cells w.drew rfl;have h3:=hold w.drew rfl;have hn:¬(n+m.length<=cap):=by omega
 have Nl:(n+m.length)*i.bytes<=4294967296*32768:=Z3e Bs Bo;have hfit:=growslice_fits (need:=n+m.length) (old:=cap) (bytes:=i.bytes) wi (by omega);have q0x:¬(281474976710656<Builtin.nextslicecap (n+m.length) cap*i.bytes):=by omega
 have q0v:¬(9223372036854775807<((n:Int)+(m.length:Int))):=by omega
 refine⟨Builtin.zeroCells z.cells (grownCap w (n+m.length) cap E-(n+m.length)),?_,?_⟩
 ·rw[<-QC]at h2 h3;simp[Builtin.append_,run_underlying qu,Go.sizeOf,typeInfo,zeroValue,Qe,TY,h1,hn,q0v,q0x,Question.forced,h2,h3,newRow,grownCap];rw[show(gH++news).toArray=gH.toArray++news.toArray from by simp,Array.append_assoc]
 ·rw[size_zeroCells,<-vl,TQ,qm,YM]
end
end Go.Kz
namespace Go.Kz
variable {R:Type}
theorem xH(l:List Value)(off:Nat)(x:List Value)(j n:Nat)(h:j+n<=x.length)(hl:off+x.length<=l.length):qS (zD l off x) (off+j) n=qS x j n:=by
 rw[<-pP _ off x.length j n h,uq _ _ _ hl]
section
variable {w:World}{g:z8}{J:St}{o:Obj}{m:Nat}{tg:Tag}{v:Value}
theorem zU.pg{n:Nat}{a:Act}{w':World}{g':z8}{id:Nat}(zj:zU n g w a J)(hr:zT w g w' g')(hs:∀i,i≠id->xC w g w' g' i)
  (hk:qq g g' id (J.z6 id) (some o)\/zJ g J id) (zp:zn w' g' (J.setObj id o).z6 id o) (ht:∀b,g'.tag b≠.zt->b<w'.heap.size):zU n g' w' a (J.setObj id o):=by
 have ziq:∀i,i≠id->qq g g' i (J.z6 i) ((J.setObj id o).z6 i):=by
  intro i hi;simp only[St.setObj];rw[zf _ _ hi];exact qq.same (hs i hi)
 have hme:∀i,(zJ g J id->i≠id)->qq g g' i (J.z6 i) ((J.setObj id o).z6 i):=by
  intro i hi;by_cases he:i=id
  ·subst he;rcases hk with hk|hk
   ·simp only[St.setObj,zO];exact hk
   ·exact absurd rfl (hi hk)
  ·exact ziq i he
 refine⟨λi av hi=>?_,⟨λi x hx=>?_,ht⟩,zj.size,zj.defers,zj.known.kept hr⟩
 ·obtain⟨u,hu,za⟩:=zj.zk i av hi;refine⟨u,hu,zm.frame hr (λj hj=>hme j (λhf he=>?_)) za⟩;subst he;exact hf.zk i av hi hj
 ·by_cases hi:i=id
  ·subst hi;simp only[St.setObj,zO,zI]at hx;subst hx;exact zp
  ·have Vd:J.z6 i=some x:=by simpa[St.setObj,zf _ _ hi]using hx
   refine zn.frame hr (hs i hi) (λy hy j hj=>hme j (λhf he=>?_)) (zj.heap.z6 i x Vd);subst he;subst hy;exact hf.cells i y Vd hj
theorem zJ.pg{g':z8}{id:Nat}(ht:∀b,g'.tag b=g.tag b\/∃p,g'.tag b=.row id p)(hm:m≠id)(ho:∀y,o≠.cell y)(hf:zJ g J m):zJ g' (J.setObj id o) m:=by
 refine⟨by simp only[St.setObj];rw[zf _ _ hm];exact hf.z6,λb p hb=>?_,λb hb=>?_,hf.zk,λi av hi=>?_⟩
 ·rcases ht b with h|⟨q,h⟩
  ·rw[h]at hb;exact hf.row b p hb
  ·rw[h]at hb;simp only[Tag.row.injEq]at hb;exact hm hb.1.symm
 ·rcases ht b with h|⟨q,h⟩
  ·rw[h]at hb;exact hf.box b hb
  ·rw[h]at hb;simp at hb
 ·by_cases he:i=id
  ·subst he;simp only[St.setObj,zO,zI]at hi;exact absurd hi (ho av)
  ·simp only[St.setObj]at hi;rw[zf _ _ he]at hi;exact hf.cells i av hi
def pH(g:z8)(id:Nat)(v:Value):z8:={ g with sv:=λi p=>if i=id then v else g.sv i p }
theorem Y5{id i:Nat}(h:i≠id):xC w g w (pH g id v) i:=
 ⟨⟨λq=>by simp[pH,h],λ_ b hb=>⟨hb,rfl⟩⟩,rfl,λhb=>⟨hb,rfl⟩⟩
theorem zU.Vl{n:Nat}{a:Act}{w':World}(h:w'.heap=w.heap)(zj:zU n g w a J):zU n g w' a J:=by
 have hr:zT w g w' g:=⟨λb hb=>⟨hb,by rw[h]⟩⟩;have hs:∀id,xC w g w' g id:=λid=>⟨⟨λ_=>rfl,λ_ b hb=>⟨hb,by rw[h]⟩⟩,rfl,λhb=>⟨hb,by rw[h]⟩⟩
 have hk:∀id,qq g g id (J.z6 id) (J.z6 id):=λid=>qq.refl g id _
 refine⟨λi av hi=>?_,⟨λid x hx=>?_,λb hb=>?_⟩,zj.size,zj.defers,zj.known.kept hr⟩
 ·obtain⟨u,hu,za⟩:=zj.zk i av hi;exact⟨u,hu,zm.frame hr (λid _=>hk id) za⟩
 ·exact zn.frame hr (hs id) (λ_ _ vF _=>hk vF) (zj.heap.z6 id x hx)
 ·rw[h];exact zj.heap.tags b hb
theorem Ext.Vl{w':World}(h:w'.heap=w.heap)(ho:w'.os=w.os)(ht:w'.tape=w.tape)(hp:w'.output=w.output)(hd:w.drawn<=w'.drawn):Ext w g w' g:=
 ⟨ho,ht,hp,hd,by rw[h];exact yH _,λb _ _=>⟨by rw[h],rfl⟩⟩
end
section
variable {P:Program}{o:Oper}{a:Act}{w:World}{K:Act->World->Prop}{Q:Exit->Act->World->Prop}{c:Ctx}{J:St}{g:z8}{k:St->Option R}{r:R}{base:Nat}{mo:Bool}
theorem ji{J':St}{g':z8}{w':World}{av:z7}{v:Value}(ze:(execOp a.eval o).run P w=.ok (.value v) w')(zj:zU c.ntmps g' w' a J')(qf:Ext w g w' g')
  (vO:∀m,(m<base\/base+8<=m)->zJ g J m->zJ g' J' m/\m∉av.ids) (hn:J'.next=J.next) (hv:zm w' g' J'.z6 av v)
  (h:J'.qo c o.dst av k=some r) (wx:mo=false->vp w w') (hK:vY c.ntmps k r g w J base mo K):o.wp P a w K Q:=by
 unfold Oper.wp;rw[ze,Oper.upon_value];rcases pQ h with⟨hd,hk⟩|⟨i,hd,hi,hk⟩
 ·rw[hd];exact hK J' g' a w' hk zj qf (λm hm hf=>(vO m hm hf).1) hn wx
 ·rw[hd];exact hK _ g' _ w' hk (zj.put hi hv) qf (λm hm hf=>(vO m hm hf).1.set i (vO m hm hf).2) hn wx
theorem uR{z6:qZ}{u:Ty}{l:List u.den}{v:Value}{ep id:Nat}(ho:z6 id=some (.row u l ep))(yZ:v=g.sv id [])(qc:v.oneCell'=true):
  zm w g z6 (.ref id [] ep) v:=by
 simp only[zm];refine⟨_,⟨v,rfl,qc,λt l' e hx=>?_⟩,rfl⟩;rw[ho]at hx;simp only[zI,Obj.row.injEq]at hx;obtain⟨_,_,rfl⟩:=hx;exact⟨yH _,λ_=>yZ⟩
theorem px{t:Ty}{x:z7}{f:List t.den->Option R}(h:Pv J t x f=some r):t.zG=true/\x.val=true/\asData J 20 x (.sl false t) f=some r/\x.M8=false:=by
 unfold Pv at h
 cases hb:(t.zG&&x.val && !x.M8) with
 |false=>rw[hb]at h;simp at h
 |true=>
  rw[hb]at h;simp only[zA,U0]at hb;exact⟨hb.1.1,hb.1.2,h,hb.2⟩
theorem Ft{t:Ty}{l m:List t.den}{b off cap:Nat}{cc:Array Value}{news:List Value}{e:TypeId}{x:Value}{id:Nat}{w:World}{g g':z8}
  (qY:t.zG=true) (yM:wH P w g t x m news) (wi:l.length+m.length<=cap) (qG:off+cap*t.size<=cc.size)
  (zZ:w.heap[b]? = some (.cells cc e (0,0)))
  (ja:∀(i:Nat)(h:i<l.length),zN w g none t (l.get ⟨i,h⟩) (qS cc.toList (off+i*t.size) t.size))
  (hr:zT w g (w.setRow b (zD cc.toList (off+l.length*t.size) news).toArray) g') (i:Nat) (h:i<(l++m).length) :
  zN (w.setRow b (zD cc.toList (off+l.length*t.size) news).toArray) g' none t ((l++m).get ⟨i,h⟩) (qS (zD cc.toList (off+l.length*t.size) news) (off+i*t.size) t.size):=by
 have hcc:cc.toList.length=cc.size:=vl;have hmul:(l.length+m.length)*t.size<=cap*t.size:=kn _ wi;rw[kq]at hmul;have Nf:=yM.length;have hi:i<l.length+m.length:=by simpa using h
 by_cases Hf:i<l.length
 ·have h3:(i+1)*t.size<=l.length*t.size:=kn _ Hf;rw[kq]at h3;rw[jy _ _ _ _ _ (by omega) (by rw[hcc];omega)];have:=(ja i Hf).kept hr;simp only[IL]at this⊢;rw[Z4c Hf];exact this
 ·obtain⟨j,rfl⟩:∃j,i=l.length+j:=⟨i-l.length,by omega⟩;have hj:j<m.length:=by omega
  have h3:(j+1)*t.size<=m.length*t.size:=kn _ hj;rw[kq]at h3;have e1:off+(l.length+j)*t.size=(off+l.length*t.size)+j*t.size:=by rw[kq];omega
  rw[e1,xH _ _ _ _ _ (by omega) (by omega)];have:=(yM.elts j hj).kept hr;simp only[IL]at this⊢;rw[List.getElem_append_right (by omega)];simpa using this
theorem Rt{t:Ty}{l m:List t.den}{gH news:List Value}{zs:Array Value}{x:Value}{w w':World}{g g':z8}
  (yM:wH P w g t x m news) (ho:gH.length=l.length*t.size)
  (ja:∀(i:Nat)(h:i<l.length),zN w g none t (l.get ⟨i,h⟩) (qS gH (i*t.size) t.size)) (hr:zT w g w' g') (i:Nat) (h:i<(l++m).length) :
  zN w' g' none t ((l++m).get ⟨i,h⟩) (qS (gH.toArray++news.toArray++zs).toList (i*t.size) t.size):=by
 have Nf:=yM.length;have hi:i<l.length+m.length:=by simpa using h
 have e0:(gH.toArray++news.toArray++zs).toList=gH++(news++zs.toList):=by simp
 rw[e0];by_cases Hf:i<l.length
 ·have h3:(i+1)*t.size<=l.length*t.size:=kn _ Hf;rw[kq]at h3;rw[yK _ _ _ _ (by omega)];have:=(ja i Hf).kept hr;simp only[IL]at this⊢;rw[Z4c Hf];exact this
 ·obtain⟨j,rfl⟩:∃j,i=l.length+j:=⟨i-l.length,by omega⟩;have hj:j<m.length:=by omega
  have h3:(j+1)*t.size<=m.length*t.size:=kn _ hj;rw[kq]at h3;rw[kq,yD _ _ _ _ _ ho.symm,yK _ _ _ _ (by omega)];have:=(yM.elts j hj).kept hr;simp only[IL]at this⊢;rw[List.getElem_append_right (by omega)];simpa using this
theorem Jp{T E:TypeId}{t u:Ty}(qu:P.underlying T=some (.slice E))(hE:j4 P E u)(YM:u.size=t.size)(ht:∀b,g.tag b≠.zt->b<w.heap.size)(qY:t.zG=true)
  {ty:TypeId}{b:Option Addr}{cap:Nat}{l m:List t.den}{gH news:List Value}{x:Value} (hold:wH P w g t (.slice b l.length cap) l gH) (yM:wH P w g t x m news)
  (wi:cap<l.length+m.length) (Bs:l.length+m.length<=4294967296) (z6:qZ) (id ep:Nat) :
  ∃cells ux,(Builtin.append_ #[T,T] ty #[.slice b l.length cap,x]).run P w=.ok (.slice (some ⟨w.heap.size,0,none⟩) (l.length+m.length) ux) (w.drew.alloc (.cells cells E))/\
   zn (w.drew.alloc (.cells cells E)) (qe g w.heap.size id (.row id []) (.slice (some ⟨w.heap.size,0,none⟩) (l.length+m.length) ux)) z6 id (.row t (l++m) ep):=by
 obtain⟨zs,ze,PS⟩:=uv (ty:=ty) qu hE YM yM wi Bs (λw' QA=>hold.cells w' QA);refine⟨_,_,ze,?_⟩;have hlen:(l++m).length=l.length+m.length:=by simp
 have Pm:=grownCap_ge w (l.length+m.length) cap E;have:=Dc (w:=w.drew) (g:=g) (base:=id) (u:=t) (l:=l++m) (cells:=gH.toArray++news.toArray++zs) (e:=E) (cap:=grownCap w (l.length+m.length) cap E) ht qY
  (by rw[hlen];exact Pm) (grownCap_le_maxLen w (l.length+m.length) cap E (by unfold maxLen;omega))
  (by
   have h1:=hold.length;have h2:=yM.length;simp only[Z50,Z24,PS,h1,h2];rw[<-kq,<-kq];exact kn _ (by omega))
  (λi hi=>Rt yM hold.length hold.elts (w':=w.drew) (g':=g) ⟨λb hb=>⟨hb,rfl⟩⟩ i hi) z6 ep
 rw[hlen]at this;exact this
theorem jw{x y:Operand}{args:Array Operand}{ts:Array TypeId}{t:TypeId}{v:Value}{w':World}(ho:o.op=.call { callee:=.builtin .append,args:=args,argTypes:=ts })(ha:args.toList=[x,y])(ht:ts.toList=[t,t])
  (h:∀ty,(Builtin.append_ #[t,t] ty #[a.eval x,a.eval y]).run P w=.ok v w'):(execOp a.eval o).run P w=.ok (.value v) w':=by
 have e1:args=#[x,y]:=by apply C5.1;simpa using ha
 have e2:ts=#[t,t]:=by apply C5.1;simpa using ht
 subst e1;subst e2;simp[execOp,ho,resolve,invoke,builtin,h]
end
end Go.Kz
namespace Go.Kz
variable {R:Type}
section
variable {P:Program}{o:Oper}{a:Act}{w:World}{K:Act->World->Prop}{Q:Exit->Act->World->Prop}{c:Ctx}{J:St}{g:z8}{k:St->Option R}{r:R}{base:Nat}{mo:Bool}
theorem B8{m:Nat}{tg:Tag}{v:Value}(ht:∀b,g.tag b≠.zt->b<w.heap.size)(ob:Go.Obj):zT w g (w.drew.alloc ob) (qe g w.heap.size m tg v):=
 ⟨λb hb=>(pX (w:=w.drew) ht ob).qp b hb⟩
theorem W8{m:Nat}{tg:Tag}{v:Value}(ht:∀b,g.tag b≠.zt->b<w.heap.size)(ob:Go.Obj){id:Nat}(hid:id≠m):xC w g (w.drew.alloc ob) (qe g w.heap.size m tg v) id:=
 let h:=ZP (w:=w.drew) (g:=g) (m:=m) (tg:=tg) (v:=v) ht ob hid
 ⟨⟨h.row.sv,h.row.qp⟩,h.qp,h.box⟩
theorem P6{m:Nat}{tg:Tag}{v:Value}(ht:∀b,g.tag b≠.zt->b<w.heap.size)(ob:Go.Obj):Ext w g (w.drew.alloc ob) (qe g w.heap.size m tg v):=
 let h:=ZU (w:=w.drew) (g:=g) (m:=m) (tg:=tg) (v:=v) ht ob
 ⟨h.os,h.tape,h.output,Z1n (Z1h _) h.drawn,h.size,h.vE⟩
theorem Hx{id:Nat}{t:Ty}{l:List t.den}{e:Nat}(zp:zn w g J.z6 id (.row t l e)):
  ∃b cap gH,g.sv id []=.slice b l.length cap/\l.length<=cap/\cap<=maxLen/\wH P w g t (.slice b l.length cap) l gH/\
   ((b=none/\l=[]/\cap=0)\/∃bk off cc ee,b=some ⟨bk,off,none⟩/\g.tag bk=.row id []/\w.heap[bk]? = some (.cells cc ee (0,0))/\off+cap*t.size<=cc.size/\
    ∀(i:Nat)(h:i<l.length),zN w g none t (l.get ⟨i,h⟩) (qS cc.toList (off+i*t.size) t.size)):=by
 obtain⟨qY,b,cap,_,yZ,h1,h2,h3⟩:=zp;rcases h3 with⟨rfl,hl,rfl⟩|⟨bk,off,cc,ee,rfl,zS,zZ,qG,ja⟩
 ·subst hl;exact⟨none,0,[],yZ,h1,h2,wH.of_nil,.inl ⟨rfl,rfl,rfl⟩⟩
 ·have Qf:l.length*t.size<=cap*t.size:=kn _ h1;have z4g:∀(i:Nat)(h:i<l.length),zN w g none t (l.get ⟨i,h⟩) (qS cc.toList (off+i*t.size) t.size):=λi hi=>zN.yJ qY (ja i hi)
  exact⟨_,cap,qS cc.toList off (l.length*t.size),yZ,h1,h2,wH.YG zZ (by omega) z4g,.inr ⟨bk,off,cc,ee,rfl,zS,zZ,qG,z4g⟩⟩
theorem Wy{args:Array Operand}{ts:Array TypeId}{x y:Operand}{t E:TypeId}{t1 u:Ty}{l m:List t1.den}{e id:Nat}{news:List Value}
  (ho:o.op=.call { callee:=.builtin .append,args:=args,argTypes:=ts }) (hargs:args.toList=[x,y]) (pR:ts.toList=[t,t])
  (qu:P.underlying t=some (.slice E)) (vB:j4 P E u) (YM:u.size=t1.size) (zj:zU c.ntmps g w a J) (kL:J.z6 id=some (.row t1 l e)) (Mu:a.eval x=g.sv id [])
  (qY:t1.zG=true) (yM:wH P w g t1 (a.eval y) m news) (Qd:l.length+m.length<=4294967296)
  (h:(J.setObj id (.row t1 (l++m) (e+1))).qo c o.dst (.ref id [] (e+1)) k=some r) (hK:vY c.ntmps k r g w J base true K):o.wp P a w K Q:=by
 obtain⟨b,cap,gH,yZ,K5,Vn,hold,wy⟩:=Hx (P:=P) (zj.heap.z6 _ _ kL);have Nb:a.eval x=.slice b l.length cap:=by rw[<-yZ];exact Mu
 have gI:∀n,zJ g J n->n≠id:=by
  intro n hn he;subst he;have:=hn.z6;rw[kL]at this;simp at this
 have vO:∀n,zJ g J n->n∉(z7.ref id [] (e+1)).ids:=by
  intro n hn;simp only[z7.ids,II];exact gI n hn
 have hk0:∀g':z8,qq g g' id (J.z6 id) (some (.row t1 (l++m) (e+1))):=λg'=>.inr (.inl ⟨t1,l,l++m,e,e+1,kL,rfl,.inl (by omega)⟩)
 by_cases Ha:cap<l.length+m.length
 ·obtain⟨cells,ux,pT,zp⟩:=Jp (P:=P) (ty:=0) qu vB YM zj.heap.tags qY hold yM Ha (by omega) (J.setObj id (.row t1 (l++m) (e+1))).z6 id (e+1);have ze:=jw (P:=P) ho hargs pR (λty=>by rw[Nb];exact pT);refine ji (g:=g) (base:=base) (J':=J.setObj id (.row t1 (l++m) (e+1))) (g':=qe g w.heap.size id (.row id []) (.slice (some ⟨w.heap.size,0,none⟩) (l.length+m.length) ux)) ze ?_ ?_ (λn hn hfn=>⟨zJ.pg (g:=g) (λb=>?_) (gI n hfn) (by simp) hfn,vO n hfn⟩) rfl ?_ h (λh=>Bool.noConfusion h) hK
  ·refine zj.pg (B8 zj.heap.tags _) (λi hi=>W8 zj.heap.tags _ hi) (.inl (hk0 _)) zp ?_;intro b hb;simp only[qe]at hb;split at hb
   ·rename_i he;subst he;simp
   ·have:=zj.heap.tags b hb;simp;omega
  ·exact P6 zj.heap.tags _
  ·simp only[qe];by_cases he:b=w.heap.size
   ·right;exact⟨[],by simp[he]⟩
   ·left;simp[he]
  ·exact uR (u:=t1) (l:=l++m) (by simp[St.setObj,zO]) (by simp[qe]) rfl
 ·have hle:l.length+m.length<=cap:=by omega
  rcases wy with⟨rfl,hl,rfl⟩|⟨bk,off,cc,ee,rfl,zS,zZ,qG,ja⟩
  ·subst hl;have hm:m=[]:=T3 (by simpa using hle);subst hm;have ze:=jw (P:=P) (v:=.slice none 0 0) (w':=w) ho hargs pR (λty=>by rw[Nb];exact uj (ty:=ty) qu vB YM yM);refine ji (g:=g) (base:=base) (J':=J.setObj id (.row t1 ([]++[]) (e+1))) (g':=pH g id (.slice none 0 0)) ze ?_ ?_ (λn hn hfn=>⟨zJ.pg (g:=g) (λb=>.inl rfl) (gI n hfn) (by simp) hfn,vO n hfn⟩) rfl ?_ h (λh=>Bool.noConfusion h) hK
   ·refine zj.pg ⟨λb hb=>⟨hb,rfl⟩⟩ (λi hi=>Y5 hi) (.inl (hk0 _)) ?_ zj.heap.tags;exact⟨qY,none,0,by simp[pH],by simp[pH],yH _,jF _,.inl ⟨rfl,rfl,rfl⟩⟩
   ·exact⟨rfl,rfl,rfl,yH _,yH _,λb _ _=>⟨rfl,rfl⟩⟩
   ·exact uR (u:=t1) (l:=([]++[]:List t1.den)) (by simp[St.setObj,zO]) (by simp[pH]) rfl
  ·have ze:=jw (P:=P) ho hargs pR (λty=>by rw[Nb];exact uw (ty:=ty) qu vB YM zZ yM hle qG);have Nf:=yM.length;have hmul:(l.length+m.length)*t1.size<=cap*t1.size:=kn _ hle;rw[kq]at hmul;have hcc:cc.toList.length=cc.size:=vl;have pV:zT w g (w.setRow bk (zD cc.toList (off+l.length*t1.size) news).toArray) (pH g id (.slice (some ⟨bk,off,none⟩) (l.length+m.length) cap)):=by
    refine⟨λb hb=>⟨hb,setRow_other w bk b _ ?_⟩⟩;intro he;subst he;rw[zS]at hb;simp at hb
   refine ji (g:=g) (base:=base) (J':=J.setObj id (.row t1 (l++m) (e+1))) (g':=pH g id (.slice (some ⟨bk,off,none⟩) (l.length+m.length) cap)) ze ?_ ?_ (λn hn hfn=>⟨zJ.pg (g:=g) (λb=>.inl rfl) (gI n hfn) (by simp) hfn,vO n hfn⟩) rfl ?_ h (λh=>Bool.noConfusion h) hK
   ·refine zj.pg pV (λi hi=>?_) (.inl (hk0 _)) ?_ ?_
    ·refine⟨⟨λq=>by simp[pH,hi],λq b hb=>⟨hb,setRow_other w bk b _ ?_⟩⟩,rfl,λhb=>⟨hb,setRow_other w bk _ _ ?_⟩⟩
     ·intro he;subst he;rw[zS]at hb;simp only[Tag.row.injEq]at hb;exact hi hb.1.symm
     ·intro he;rw[he,zS]at hb;simp at hb
    ·refine⟨qY,some ⟨bk,off,none⟩,cap,by simp[pH],by simp[pH],by simpa using hle,Vn,.inr ⟨bk,off,_,ee,rfl,zS,setRow_heap w bk cc _ ee _ zZ,?_,λi hi=>?_⟩⟩
     ·rw[Z24,j5 _ _ _ (by omega),hcc];exact qG
     ·refine zN.yJ qY (o:=none) ?_;exact Ft (id:=id) qY yM hle qG zZ ja pV i hi
    ·intro b hb;have:=zj.heap.tags b hb;simpa[World.setRow]using this
   ·refine⟨rfl,rfl,rfl,yH _,by simp[World.setRow],λb _ hb=>⟨setRow_other w bk b _ ?_,rfl⟩⟩;intro he;subst he;rw[zS]at hb;simp at hb
   ·exact uR (u:=t1) (l:=l++m) (by simp[St.setObj,zO]) (by simp[pH]) rfl
theorem FT{id:Nat}{t:Ty}{l l':List t.den}{e e':Nat}{v:Value}(zj:zU c.ntmps g w a J)(zp:J.z6 id=some (.row t l e))(he:e<e')
  (za:zn w (pH g id v) (J.setObj id (.row t l' e')).z6 id (.row t l' e')) :
  zU c.ntmps (pH g id v) w a (J.setObj id (.row t l' e'))/\Ext w g w (pH g id v)/\∀m,zJ g J m->zJ (pH g id v) (J.setObj id (.row t l' e')) m:=by
 refine⟨zj.pg ⟨λb hb=>⟨hb,rfl⟩⟩ (λi hi=>Y5 hi) (.inl (.inr (.inl ⟨t,l,l',e,e',zp,rfl,.inl he⟩))) za zj.heap.tags,⟨rfl,rfl,rfl,yH _,yH _,λb _ _=>⟨rfl,rfl⟩⟩,λm hm=>?_⟩;refine zJ.pg (g:=g) (λb=>.inl rfl) ?_ (by simp) hm;intro heq;subst heq;have:=hm.z6;rw[zp]at this;simp at this
theorem CB{id:Nat}{t:Ty}{l:List t.den}{e e':Nat}{p q:Int}(zj:zU c.ntmps g w a J)(zp:J.z6 id=some (.row t l e))(h0:0<=p)(hpq:p<=q)(hq:q<=(l.length:Int))(he:e<e'):
  zU c.ntmps (pH g id (jC (g.sv id []) t.size p q)) w a (J.setObj id (.row t (sub l p q) e'))/\Ext w g w (pH g id (jC (g.sv id []) t.size p q))/\
   ∀m,zJ g J m->zJ (pH g id (jC (g.sv id []) t.size p q)) (J.setObj id (.row t (sub l p q) e')) m:=by
 refine FT zj zp he ?_;obtain⟨qY,ad,cap,_,yZ,K5,Vn,wy⟩:=zj.heap.z6 _ _ zp;have hlen:(sub l p q).length=(q-p).toNat:=by rw[ur l p q h0 hpq hq];omega
 have hv:jC (g.sv id []) t.size p q=.slice (if cap-p.toNat=0 then ad else ad.map (·.add (p.toNat*t.size))) (sub l p q).length (cap-p.toNat):=by rw[yZ,hlen];rfl
 refine⟨qY,_,_,by simp only[pH,Ms];exact Jn (λv=>[v]) hv,by simp only[pH,Ms];exact hv,by rw[hlen];omega,by omega,?_⟩;rcases wy with⟨rfl,hl,rfl⟩|⟨b,off,c',ee,rfl,zS,zZ,qG,ja⟩
 ·left;refine⟨by simp,?_,by simp⟩;rw[hl]at hq;simp only[TA]at hq;exact T3 (by rw[hlen];omega)
 ·right;have hmul:cap*t.size=(cap-p.toNat)*t.size+p.toNat*t.size:=by rw[<-kq];congr 1;omega
  by_cases hz:cap-p.toNat=0
  ·refine⟨b,off,c',ee,by rw[yX hz],zS,zZ,by rw[hz];omega,λi hi=>?_⟩;exfalso;have:i<(sub l p q).length:=hi;omega
  ·refine⟨b,off+p.toNat*t.size,c',ee,?_,zS,zZ,by omega,λi hi=>?_⟩
   ·rw[qW hz];simp only[Z2h,Addr.add_lit]
   ·have wm:i<(sub l p q).length:=hi;have Bo:p.toNat+i<l.length:=by omega
    have:=zN.yJ (o':=none) qY (ja (p.toNat+i) Bo);have hg:=WB l p q i wm Bo;refine zN.yJ qY (o:=none) ?_;have e1:off+p.toNat*t.size+i*t.size=off+(p.toNat+i)*t.size:=by rw[kq];omega
    rw[e1];have h2:(sub l p q).get ⟨i,wm⟩=l.get ⟨p.toNat+i,Bo⟩:=hg;show zN w _ none t ((sub l p q).get ⟨i,wm⟩) _;rw[h2];exact zN.kept (show zT w g w (pH g id (jC (g.sv id []) t.size p q)) from⟨λb hb=>⟨hb,rfl⟩⟩) this
theorem vY.pre{n:Nat}{g0:z8}{J0:St}(h:vY n k r g w J base mo K)(he:Ext w g w g0)(hf:∀m,zJ g J m->zJ g0 J0 m)(hn:J0.next=J.next):vY n k r g0 w J0 base mo K:=
 λJ' g' a' w' hk zj qf vO Wx wx=>h J' g' a' w' hk zj (he.trans qf) (λm hm vc=>vO m hm (hf m vc)) (Wx.trans hn) wx
theorem vY.zup{n:Nat}{g0:z8}{J0:St}(h:vY n k r g w J base mo K)(he:Ext w g w g0)(hf:∀m,(m<base\/base+8<=m)->zJ g J m->zJ g0 J0 m)(hn:J0.next=J.next):vY n k r g0 w J0 base mo K:=
 λJ' g' a' w' hk zj qf vO Wx wx=>h J' g' a' w' hk zj (he.trans qf) (λm hm vc=>vO m hm (hf m hm vc)) (Wx.trans hn) wx
theorem wH.congr{g':z8}{t:Ty}{x:Value}{m:List t.den}{news:List Value}(h:wH P w g t x m news)(hr:zT w g w g'):wH P w g' t x m news:=
 ⟨h.len,h.cells,h.pre,h.length,λi hi=>(h.elts i hi).kept hr,h.one⟩
theorem Vy(J:St)(i:Nat)(x y:Obj):(J.setObj i x).setObj i y=J.setObj i y:=by
 simp only[St.setObj,St.mk.injEq,Ur,Fy];funext j;simp only[GJ];cases Nat.beq j i<;>rfl
theorem X7{id e:Nat}{n:Int}{i:Nat}{av:z7}(h:(views J id e n).zk i=some av):J.zk i=some av\/(J.zk i=some (.ref id [] e)/\av=.view id [] (e+1) 0 n):=by
 simp only[views]at h;split at h
 ·rename_i j p e' hs;split at h
  ·cases hb:(Nat.beq j id&&Nat.beq e' e) with
   |true=>
    rw[hb]at h;simp only[zA]at hb;obtain rfl:=zE hb.1;obtain rfl:=zE hb.2;simp only[zB,zI]at h
    exact .inr ⟨hs,h.symm⟩
   |false=>
    rw[hb]at h;simp only[zP]at h;exact .inl (hs.trans h)
  ·exact .inl (hs.trans h)
 ·exact .inl h
theorem Ro{l:List (Option R)}(h:qA l=some r):∀y∈l,y=some r:=by
 cases l with
 |nil=>simp
 |cons x l=>
  simp only[qA]at h;split at h
  ·rename_i hq;intro y hy;rcases pF.1 hy with rfl|hy
   ·exact h
   ·rw[hq y hy];exact h
  ·simp at h
theorem FH{n:Nat}{w':World}{g':z8}{id e:Nat}{t:Ty}{l l2:List t.den}(zj:zU n g w a J)(qO:zU n g' w' a (J.setObj id (.row t l2 (e+1))))(kL:J.z6 id=some (.row t l e))
  (yZ:jC (g'.sv id []) t.size 0 (l.length:Int)=g.sv id []) (hle:l.length<=l2.length):zU n g' w' a ((views J id e (l.length:Int)).setObj id (.row t l2 (e+1))):=by
 refine⟨λi av hi=>?_,qO.heap,qO.size,qO.defers,qO.known⟩;rcases X7 hi with h1|⟨h1,rfl⟩
 ·exact qO.zk i av h1
 ·obtain⟨v,hv,za⟩:=zj.zk i _ h1;refine⟨v,hv,?_⟩;simp only[zm]at za;obtain⟨cs,⟨u,rfl,qc,hu⟩,hvu⟩:=za;have e1:=(hu _ _ _ kL).2 rfl;simp only[zm];refine⟨[u],⟨_,rfl,qc,λt2 l3 e2 Cr=>?_⟩,hvu⟩;have ho3:some (Obj.row t l2 (e+1))=some (.row t2 l3 e2):=by
   rw[<-Cr];simp[St.setObj,zO,views]
  simp only[zI,Obj.row.injEq]at ho3;obtain⟨rfl,hl3,rfl⟩:=ho3;have hl3:=Z34 hl3;subst hl3;exact⟨yH _,λ_=>⟨rfl,Z23 0,Int.natCast_nonneg _,by omega,by rw[yZ];exact e1⟩⟩
theorem Py{g':z8}{id e:Nat}{n:Int}{ob:Obj}{m:Nat}(h:zJ g' (J.setObj id ob) m):zJ g' ((views J id e n).setObj id ob) m:=by
 refine⟨h.z6,h.row,h.box,λi av hi=>?_,h.cells⟩;rcases X7 hi with h1|⟨h1,rfl⟩
 ·exact h.zk i av h1
 ·have:=h.zk i _ h1;simpa[z7.ids]using this
theorem Lf(kA:p6 P c.tt){args:Array Operand}{ts:Array TypeId}(ho:o.op=.call { callee:=.builtin .append,args:=args,argTypes:=ts }){x y:Operand}{t:TypeId}{ow:Bool}{u:Ty}{av bv:z7}
  (hargs:args.toList=[x,y]) (pR:ts.toList=[t,t]) (PT:c.tt t=some (.sl ow u)) (hx:ev J x=some av) (hy:ev J y=some bv)
  (zj:zU c.ntmps g w a J) (hf:zJ g J base) (h:F9 J base u av bv (λv J=>J.qo c o.dst v k)=some r) (hK:vY c.ntmps k r g w J base true K):o.wp P a w K Q:=by
 have hT:=kA _ _ PT;simp only[qv]at hT;obtain⟨⟨E,qu,hE⟩,_⟩:=hT;have vB:=hE.info;obtain⟨ex,efx⟩:=qD zj hx;obtain⟨ey,efy⟩:=qD zj hy;unfold F9 at h;split at h
 ·rename_i id ep;split at h
  ·rename_i t1 l e kL
   cases Qt:(Nat.beq e ep&&t1.sk.same u.sk) with
   |false=>rw[Qt]at h;simp at h
   |true=>
    rw[Qt]at h;simp only[zB]at h;simp only[zA]at Qt;have Hm:=zE Qt.1;subst Hm;have ko:=Sk.qQ Qt.2;have YM:u.size=t1.size:=by rw[<-Ty.zW,<-Ty.zW,ko]
    obtain⟨qY,hval,h,SX⟩:=px h;obtain⟨m,news,h,yM⟩:=JW (P:=P) zj.heap qY ey h hval SX;obtain⟨Qd,h⟩:=qB h;have Qd:=DA Qd;unfold room at Qd;have hall:=Ro h;have hA:=hall _ (Z2v);have hB:=hall _ (TX _ Z2v);clear hall h;obtain⟨b,cap,gH,yZ,K5,Vn,hold,wy⟩:=Hx (P:=P) (zj.heap.z6 _ _ kL);simp only[zm]at ex;obtain⟨cs,⟨v,rfl,qc,hv⟩,jl⟩:=ex;have e1:=(hv _ _ _ kL).2 rfl;have Nb:a.eval x=.slice b l.length cap:=by rw[<-yZ,<-e1];exact jl
    have gI:∀n,zJ g J n->n≠id:=by
     intro n hn he;subst he;have:=hn.z6;rw[kL]at this;simp at this
    by_cases Ha:cap<l.length+m.length
    ·obtain⟨cells,ux,pT,zp⟩:=Jp (P:=P) (ty:=0) qu vB YM zj.heap.tags qY hold yM Ha (by omega) (J.setObj base (.row t1 (l++m) 1)).z6 base 1;have ze:=jw (P:=P) ho hargs pR (λty=>by rw[Nb];exact pT);refine ji (g:=g) (base:=base) (J':=J.setObj base (.row t1 (l++m) 1)) (g':=qe g w.heap.size base (.row base []) (.slice (some ⟨w.heap.size,0,none⟩) (l.length+m.length) ux)) ze ?_ ?_ (λn hn hfn=>⟨zJ.pg (g:=g) (λb=>?_) (by omega) (by simp) hfn,by simp[z7.ids];omega⟩) rfl ?_ hB (λh=>Bool.noConfusion h) hK
     ·refine zj.pg (B8 zj.heap.tags _) (λi hi=>W8 zj.heap.tags _ hi) (.inr hf) zp ?_;intro b hb;simp only[qe]at hb;split at hb
      ·rename_i he;subst he;simp
      ·have:=zj.heap.tags b hb;simp;omega
     ·exact P6 zj.heap.tags _
     ·simp only[qe];by_cases he:b=w.heap.size
      ·right;exact⟨[],by simp[he]⟩
      ·left;simp[he]
     ·exact uR (u:=t1) (l:=l++m) (by simp[St.setObj,zO]) (by simp[qe]) rfl
    ·have hle:l.length+m.length<=cap:=by omega
     have hk0:∀g':z8,qq g g' id (J.z6 id) (some (.row t1 (l++m) (e+1))):=λg'=>.inr (.inl ⟨t1,l,l++m,e,e+1,kL,rfl,.inl (by omega)⟩)
     have vO:∀n,zJ g J n->n∉(z7.ref id [] (e+1)).ids:=by
      intro n hn;simp only[z7.ids,II];exact gI n hn
     have hlen:l.length<=(l++m).length:=by simp
     rcases wy with⟨rfl,hl,rfl⟩|⟨bk,off,cc,ee,rfl,zS,zZ,qG,ja⟩
     ·subst hl;have hm:m=[]:=T3 (by simpa using hle);subst hm;have ze:=jw (P:=P) (v:=.slice none 0 0) (w':=w) ho hargs pR (λty=>by rw[Nb];exact uj (ty:=ty) qu vB YM yM);refine ji (g:=g) (base:=base) (J':=(views J id e ((List.length ([]:List t1.den):Nat):Int)).setObj id (.row t1 ([]++[]) (e+1))) (g':=pH g id (.slice none 0 0)) ze ?_ ?_ (λn hn hfn=>⟨Py (zJ.pg (g:=g) (λb=>.inl rfl) (gI n hfn) (by simp) hfn),vO n hfn⟩) rfl ?_ hA (λh=>Bool.noConfusion h) hK
      ·refine FH zj (zj.pg ⟨λb hb=>⟨hb,rfl⟩⟩ (λi hi=>Y5 hi) (.inl (hk0 _)) ?_ zj.heap.tags) kL ?_ (by simp)
       ·exact⟨qY,none,0,by simp[pH],by simp[pH],yH _,jF _,.inl ⟨rfl,rfl,rfl⟩⟩
       ·rw[yZ];simp[pH,jC]
      ·exact⟨rfl,rfl,rfl,yH _,yH _,λb _ _=>⟨rfl,rfl⟩⟩
      ·exact uR (u:=t1) (l:=([]++[]:List t1.den)) (by simp[St.setObj,zO]) (by simp[pH]) rfl
     ·have ze:=jw (P:=P) ho hargs pR (λty=>by rw[Nb];exact uw (ty:=ty) qu vB YM zZ yM hle qG);have Nf:=yM.length;have hmul:(l.length+m.length)*t1.size<=cap*t1.size:=kn _ hle;rw[kq]at hmul;have hcc:cc.toList.length=cc.size:=vl;have pV:zT w g (w.setRow bk (zD cc.toList (off+l.length*t1.size) news).toArray) (pH g id (.slice (some ⟨bk,off,none⟩) (l.length+m.length) cap)):=by
       refine⟨λb hb=>⟨hb,setRow_other w bk b _ ?_⟩⟩;intro he;subst he;rw[zS]at hb;simp at hb
      refine ji (g:=g) (base:=base) (J':=(views J id e (l.length:Int)).setObj id (.row t1 (l++m) (e+1))) (g':=pH g id (.slice (some ⟨bk,off,none⟩) (l.length+m.length) cap)) ze ?_ ?_ (λn hn hfn=>⟨Py (zJ.pg (g:=g) (λb=>.inl rfl) (gI n hfn) (by simp) hfn),vO n hfn⟩) rfl ?_ hA (λh=>Bool.noConfusion h) hK
      ·refine FH zj (zj.pg pV (λi hi=>?_) (.inl (hk0 _)) ?_ ?_) kL ?_ hlen
       ·refine⟨⟨λq=>by simp[pH,hi],λq b hb=>⟨hb,setRow_other w bk b _ ?_⟩⟩,rfl,λhb=>⟨hb,setRow_other w bk _ _ ?_⟩⟩
        ·intro he;subst he;rw[zS]at hb;simp only[Tag.row.injEq]at hb;exact hi hb.1.symm
        ·intro he;rw[he,zS]at hb;simp at hb
       ·refine⟨qY,some ⟨bk,off,none⟩,cap,by simp[pH],by simp[pH],by simpa using hle,Vn,.inr ⟨bk,off,_,ee,rfl,zS,setRow_heap w bk cc _ ee _ zZ,?_,λi hi=>?_⟩⟩
        ·rw[Z24,j5 _ _ _ (by omega),hcc];exact qG
        ·refine zN.yJ qY (o:=none) ?_;exact Ft (id:=id) qY yM hle qG zZ ja pV i hi
       ·intro b hb;have:=zj.heap.tags b hb;simpa[World.setRow]using this
       ·rw[yZ];simp only[pH,Ms,jC];have e0:(⟨bk,off,none⟩:Addr).add 0=⟨bk,off,none⟩:=by rw[Addr.add_lit];rfl
        simp[e0]
      ·refine⟨rfl,rfl,rfl,yH _,by simp[World.setRow],λb _ hb=>⟨setRow_other w bk b _ ?_,rfl⟩⟩;intro he;subst he;rw[zS]at hb;simp at hb
      ·exact uR (u:=t1) (l:=l++m) (by simp[St.setObj,zO]) (by simp[pH]) rfl
  ·simp at h
 ·simp at h
theorem S8(kA:p6 P c.tt){args:Array Operand}{ts:Array TypeId}(ho:o.op=.call { callee:=.builtin .append,args:=args,argTypes:=ts })
  (zj:zU c.ntmps g w a J) (hf:zJ g J base)
  (Nh:∀x y t u ow av bv,args.toList=[x,y]->ts.toList=[t,t]->c.tt t=some (.sl ow u)->ev J x=some av->ev J y=some bv->G2 J u av bv (λv J=>J.qo c o.dst v k)=some r->o.wp P a w K Q)
  (h:yE c J base o k=some r) (hK:vY c.ntmps k r g w J base true K):o.wp P a w K Q:=by
 simp only[yE,ho]at h;split at h
 ·rename_i x y t t' hargs pR;split at h
  ·rename_i av bv ot u hx hy PT
   cases hb:Nat.beq t t' with
   |false=>rw[hb]at h;simp at h
   |true=>
    rw[hb]at h;have htq:=zE hb;subst htq;simp only[zB]at h;have hT:=kA _ _ PT;simp only[qv]at hT;obtain⟨⟨E,qu,hE⟩,_⟩:=hT;have vB:=hE.info;obtain⟨ex,efx⟩:=qD zj hx;obtain⟨ey,efy⟩:=qD zj hy;unfold R9 at h;split at h
    ·-- nil
     have hv:=QG.1 ex
     cases hbn:bv.M8 with
     |true=>rw[hbn]at h;exact Nh x y t u ot _ bv hargs pR PT hx hy h
     |false=>
     rw[hbn]at h;simp only[zP]at h;split at h
     ·rename_i t1 _
      cases Qt:t1.sk.same u.sk with
      |false=>rw[Qt]at h;simp at h
      |true=>
       rw[Qt]at h;simp only[zB]at h;have ko:=Sk.qQ Qt;have YM:u.size=t1.size:=by rw[<-Ty.zW,<-Ty.zW,ko]
       obtain⟨qY,hval,h,SX⟩:=px h;obtain⟨m,news,h,yM⟩:=JW (P:=P) zj.heap qY ey h hval SX;obtain⟨Qd,h⟩:=qB h;have Qd:=DA Qd;unfold room at Qd;by_cases hm:m=[]
       ·subst hm;have ze:=jw (P:=P) (v:=.slice none 0 0) (w':=w) ho hargs pR (λty=>by rw[hv];exact uj (ty:=ty) qu vB YM yM);refine ji (g:=g) (base:=base) (J':=J.setObj base (.row t1 [] 1)) (g':=pH g base (.slice none 0 0)) ze ?_ ?_ (λn hn hfn=>⟨zJ.pg (g:=g) (λb=>.inl rfl) (by omega) (by simp) hfn,by simp[z7.ids];omega⟩) rfl ?_ h (λh=>Bool.noConfusion h) hK
        ·refine zj.pg ⟨λb hb=>⟨hb,rfl⟩⟩ (λi hi=>Y5 hi) (.inr hf) ?_ zj.heap.tags;exact⟨qY,none,0,by simp[pH],by simp[pH],yH _,jF _,.inl ⟨rfl,rfl,rfl⟩⟩
        ·exact⟨rfl,rfl,rfl,yH _,yH _,λb _ _=>⟨rfl,rfl⟩⟩
        ·exact uR (u:=t1) (l:=[]) (by simp[St.setObj,zO]) (by simp[pH]) rfl
       ·have EY:0<m.length:=Z3s.2 hm;obtain⟨cells,ux,pT,zp⟩:=Jp (P:=P) (ty:=0) (b:=none) (cap:=0) (l:=([]:List t1.den)) qu vB YM zj.heap.tags qY wH.of_nil yM (by simpa using EY) (by simpa using Qd) (J.setObj base (.row t1 m 1)).z6 base 1;simp only[TA,QK,Ql]at pT zp;have ze:=jw (P:=P) ho hargs pR (λty=>by rw[hv];exact pT);refine ji (g:=g) (base:=base) (J':=J.setObj base (.row t1 m 1)) (g':=qe g w.heap.size base (.row base []) (.slice (some ⟨w.heap.size,0,none⟩) m.length ux)) ze ?_ ?_ (λn hn hfn=>⟨zJ.pg (g:=g) (λb=>?_) (by omega) (by simp) hfn,by simp[z7.ids];omega⟩) rfl ?_ h (λh=>Bool.noConfusion h) hK
        ·refine zj.pg (B8 zj.heap.tags _) (λi hi=>W8 zj.heap.tags _ hi) (.inr hf) zp ?_;intro b hb;simp only[qe]at hb;split at hb
         ·rename_i he;subst he;simp
         ·have:=zj.heap.tags b hb;simp;omega
        ·exact P6 zj.heap.tags _
        ·simp only[qe];by_cases he:b=w.heap.size
         ·right;exact⟨[],by simp[he]⟩
         ·left;simp[he]
        ·exact uR (u:=t1) (l:=m) (by simp[St.setObj,zO]) (by simp[qe]) rfl
     ·simp at h
    ·-- an owned row
     rename_i id ep;split at h
     ·rename_i t1 l e kL
      cases Qt:(Nat.beq e ep&&t1.sk.same u.sk) with
      |false=>rw[Qt]at h;simp at h
      |true=>
       rw[Qt]at h;simp only[zB]at h;simp only[zA]at Qt;have Hm:=zE Qt.1;subst Hm;have ko:=Sk.qQ Qt.2;have YM:u.size=t1.size:=by rw[<-Ty.zW,<-Ty.zW,ko]
       obtain⟨qY,hval,h,SX⟩:=px h;obtain⟨m,news,h,yM⟩:=JW (P:=P) zj.heap qY ey h hval SX;obtain⟨Qd,h⟩:=qB h;have Qd:=DA Qd;unfold room at Qd;simp only[zm]at ex;obtain⟨cs,⟨v,rfl,qc,hv⟩,jl⟩:=ex;have e1:=(hv _ _ _ kL).2 rfl;exact Wy ho hargs pR qu vB YM zj kL (by rw[<-e1];exact jl) qY yM Qd h hK
     ·simp at h
    ·-- a part of an owned row
     rename_i id ep pa pb;split at h
     ·rename_i t1 l e kL
      cases Qt:(Nat.beq e ep&&t1.sk.same u.sk) with
      |false=>rw[Qt]at h;simp at h
      |true=>
       rw[Qt]at h;simp only[zB]at h;simp only[zA]at Qt;have Hm:=zE Qt.1;subst Hm;have ko:=Sk.qQ Qt.2;have YM:u.size=t1.size:=by rw[<-Ty.zW,<-Ty.zW,ko]
       obtain⟨qY,hval,h,SX⟩:=px h;obtain⟨m,news,h,yM⟩:=JW (P:=P) zj.heap qY ey h hval SX;obtain⟨Qd,h⟩:=qB h;have Qd:=DA Qd;unfold room at Qd;simp only[zm]at ex;obtain⟨cs,⟨v,rfl,qc,hv⟩,jl⟩:=ex;obtain⟨_,h0,uN,Vs,e1⟩:=(hv _ _ _ kL).2 rfl;obtain⟨yN,yA,z47⟩:=CB (e':=e+1) zj kL h0 uN Vs (BV _);refine Wy (id:=id) (e:=e+1) (l:=sub l pa pb) ho hargs pR qu vB YM yN (by simp[St.setObj,zO]) ?_ qY (yM.congr ⟨λb hb=>⟨hb,rfl⟩⟩) Qd (by rw[Vy];exact h) (hK.pre yA z47 rfl);rw[jl];simp only[pH,Ms];exact e1
     ·simp at h
    ·-- a row of rows
     exact Nh x y t u ot _ bv hargs pR PT hx hy h
    ·-- one of the rows of a row of rows
     rename_i id q0 p0 ep;split at h
     ·rename_i t1 l0 e0 i0 kL
      cases hb0:Nat.beq i0 ep with
      |false=>rw[hb0]at h;simp at h
      |true=>
       rw[hb0]at h;have Hm:=zE hb0;subst Hm;simp only[zB]at h;have Ep:zN w g (some (id,[])) (.sl true t1) l0 [g.sv id []]:=zj.heap.z6 id _ kL;obtain⟨U,X,_,_,_,_,_,Z5,_,_,Qc,_,_,_,_⟩:=pM Ep h;obtain⟨U',X',Gi,wG⟩:=JN _ _ _ h;split at Gi
       ·rename_i v l1
        cases Qt:v.sk.same u.sk with
        |false=>rw[Qt]at Gi;simp at Gi
        |true=>
         rw[Qt]at Gi;simp only[zB]at Gi;have ko:=Sk.qQ Qt;have YM:u.size=v.size:=by rw[<-Ty.zW,<-Ty.zW,ko]
         obtain⟨qY,hval,Gi,SX⟩:=px Gi;obtain⟨m,news,Gi,yM⟩:=JW (P:=P) zj.heap qY ey Gi hval SX;obtain⟨Qd,Gi⟩:=qB Gi;have Qd:=DA Qd;unfold room at Qd;have zyd:FY t1 (q0::p0)=some v:=by
          have hg:zb (.sl true t1) l0 (q0::p0) (λu x=>some (⟨u,x⟩:(u:Ty)×u.den))=some ⟨.sl true v,l1⟩:=wG _ _;obtain⟨U2,X2,_,_,_,_,_,K6,_,_,zyf,_,_,_,_⟩:=pM Ep hg;simp only[zI,Z4b]at K6;obtain⟨rfl,_⟩:=K6;have:=X8 zyf
          cases q0 with
          |fst=>simp[vW]at this
          |snd=>simp[vW]at this
          |idx j0=>simpa[FY,vW]using this
         simp only[zm]at ex;obtain⟨cs,⟨vv,rfl,qc,hv⟩,jl⟩:=ex;have e1:=((hv _ _ _ _ _ kL).2 rfl).1 rfl;obtain⟨yN,yA,z47,zpa,zbi⟩:=zha zj hf kL qY zyd wG;refine Wy (id:=base) (e:=0) (l:=l1) ho hargs pR qu vB YM yN (by simp[St.setObj,zO]) ?_ qY (yM.congr zbi) Qd (by rw[Vy];exact Gi) (hK.zup yA (λm hm=>z47 m (by omega)) rfl);rw[zpa];exact(jl.trans e1)
       ·simp at Gi
     ·simp at h
    ·simp at h
  ·simp at h
 ·simp at h
end
end Go.Kz
namespace Go.Kz
variable {R:Type}
section
variable {w:World}{g:z8}{J:St}
theorem NF{n:Nat}{a:Act}{w':World}{g':z8}{J':St}{m:Nat}(zj:zU n g w a J)(hr:zT w g w' g')(hs:J'.zk=J.zk)(hm:zJ g J m\/qq g g' m (J.z6 m) (J'.z6 m))
  (zpj:∀x,J'.z6 m=some x->zn w' g' J'.z6 m x) (Bn:∀j,j≠m->J'.z6 j=none\/(J'.z6 j=J.z6 j/\xC w g w' g' j)) (ht:∀b,g'.tag b≠.zt->b<w'.heap.size):zU n g' w' a J':=by
 refine zj.step hr hs hm (λj hj=>?_) (λj x hx=>?_) ht
 ·rcases Bn j hj with h|⟨h,h2⟩
  ·exact .inl h
  ·rw[h];exact qq.same h2
 ·by_cases hj:j=m
  ·subst hj;exact .inl (zpj x hx)
  ·rcases Bn j hj with h|⟨h,h2⟩
   ·rw[h]at hx;simp at hx
   ·rw[h]at hx;exact .inr ⟨hx,h2⟩
theorem VR{g':z8}{J':St}{base m:Nat}(hm:m≠base)(zS:∀b,g'.tag b=g.tag b\/∃p,g'.tag b=.row base p)(uK:∀j,j≠base->J'.z6 j=none\/J'.z6 j=J.z6 j)
  (Ht:∀y,J'.z6 base≠some (.cell y)) (hs:J'.zk=J.zk) (hf:zJ g J m):zJ g' J' m:=by
 refine⟨?_,λb p hb=>?_,λb hb=>?_,by rw[hs];exact hf.zk,λi av hi=>?_⟩
 ·rcases uK m hm with h|h
  ·exact h
  ·rw[h];exact hf.z6
 ·rcases zS b with h|⟨q,h⟩
  ·rw[h]at hb;exact hf.row b p hb
  ·rw[h]at hb;simp only[Tag.row.injEq]at hb;exact hm hb.1.symm
 ·rcases zS b with h|⟨q,h⟩
  ·rw[h]at hb;exact hf.box b hb
  ·rw[h]at hb;simp at hb
 ·by_cases he:i=base
  ·subst he;exact absurd hi (Ht av)
  ·rcases uK i he with h|h
   ·rw[h]at hi;simp at hi
   ·rw[h]at hi;exact hf.cells i av hi
theorem MJ(hh:yC w g J.z6){v:Ty}(qY:v.zG=true){av:z7}{x:Value}{k:List v.den->St->Option R}{r:R}(hx:jM w g J.z6 av [x])(h:uO J av v k=some r):
  ∃(fr:Option Nat)(d:List v.den)(J1:St),J1.zk=J.zk/\J1.next=J.next/\(∀j,some j≠fr->J1.z6 j=J.z6 j)/\(∀j,some j=fr->J1.z6 j=none/\J.z6 j≠none)/\k d J1=some r/\
   ∀w' g' id p,zT w g w' g'->g'.sv id p=x->(∀b j,some j=fr->g.tag b=.row j []->g'.tag b=.row id p/\w'.heap[b]? = w.heap[b]?)->zN w' g' (some (id,p)) (.sl true v) d [x]:=by
 unfold uO at h;split at h
 ·refine⟨none,[],J,rfl,rfl,λ_ _=>rfl,λ_ h=>by simp at h,h,λw' g' id p _ yZ _=>?_⟩;have Vd:[x]=[.slice none 0 0]:=hx;simp only[N0,Fy]at Vd;subst Vd;exact⟨none,0,rfl,yZ,yH _,jF _,.inl ⟨rfl,rfl,rfl⟩⟩
 ·rename_i vF ep';split at h
  ·rename_i t' l' e' Pf
   cases hb:Nat.beq e' ep' with
   |false=>rw[hb]at h;simp at h
   |true=>
    rw[hb]at h;have he:=zE hb;subst he;simp only[zB]at h;obtain⟨hc,h⟩:=yY h;have D7:t'=v:=by simpa using hc
    subst D7;refine⟨some vF,_,J.kill vF,rfl,rfl,λj hj=>?_,λj hj=>?_,h,λw' g' id p hr yZ Qo=>?_⟩
    ·simp only[St.kill];exact zf _ _ (λh=>hj (by rw[h]))
    ·simp only[zI]at hj;subst hj;exact⟨by simp[St.kill,GJ],by rw[Pf];simp⟩
    ·obtain⟨v0,Tk,_,gi⟩:=hx;simp only[N0,Fy]at Tk;subst Tk;have hxs:=(gi _ _ _ Pf).2 rfl;obtain⟨Pd,ad,cap,pe,SJ,h1,h2,h3⟩:=hh.z6 vF _ Pf;refine⟨ad,cap,by rw[hxs,SJ];rfl,by rw[yZ,hxs,SJ];rfl,h1,h2,?_⟩;rcases h3 with h3|⟨b,off,c,ee,ha,zS,zZ,hs,ja⟩
     ·exact .inl h3
     ·obtain⟨k1,k2⟩:=Qo b vF rfl zS;exact .inr ⟨b,off,c,ee,ha,k1,k2.trans zZ,hs,λi hi=>zN.yJ (o:=none) Pd ((zN.yJ (o':=none) Pd (ja i hi)).kept hr)⟩
  ·simp at h
 ·simp at h
def q0:Path:=[.idx 0,.snd,.fst]
open Classical in
noncomputable def Z8(g:z8)(nb base:Nat)(zu2 x:Value)(fr:Option Nat):z8 where
 tag:=λb=>if b=nb then .row base [] else if ∃j,fr=some j/\g.tag b=.row j [] then .row base q0 else g.tag b
 sv:=λi q=>if i=base then (if q=[] then zu2 else x) else g.sv i q
 qp:=g.qp
theorem HK{u:Ty}(h:GR u=true):∃t v,u=.pair t (.pair (.sl true v) .unit)/\t.zG=true/\v.zG=true:=by
 unfold GR at h;split at h
 ·simp only[zA]at h;exact⟨_,_,rfl,h.1,h.2⟩
 ·simp at h
theorem MY{a:z7}{t v:Ty}{k:(Ty.pair t (.pair (.sl true v) .unit)).den->St->Option R}{r:R}(h:AU J a (.pair t (.pair (.sl true v) .unit)) k=some r):
  ∃x y,a=.agg (.pr x (.pr y .un))/\t.zG=true/\v.zG=true/\x.val=true/\(jG 20 x t J λd J=>uO J y v λl J=>k (d,l,()) J)=some r:=by
 cases a with
 |agg c=>cases c with
  |pr x c2=>cases c2 with
   |pr y c3=>cases c3 with
    |un=>
     simp only[AU]at h
     cases hb:(t.zG&&v.zG&&x.val) with
     |false=>rw[hb]at h;simp at h
     |true=>
      rw[hb]at h;simp only[zA]at hb
      exact⟨x,y,rfl,hb.1.1,hb.1.2,hb.2,h⟩
    |_=>simp[AU]at h
   |_=>simp[AU]at h
  |_=>simp[AU]at h
 |_=>simp[AU]at h
theorem EB{a:z7}{v:Ty}{k:List v.den->St->Option R}{r:R}(h:uO J a v k=some r):a.sk=.leaf:=by
 unfold uO at h;split at h
 ·rfl
 ·rfl
 ·simp at h
section
variable {P:Program}{o:Oper}{a:Act}{K:Act->World->Prop}{Q:Exit->Act->World->Prop}{c:Ctx}{k:St->Option R}{r:R}{base:Nat}{mo:Bool}
theorem Jx{z6:qZ}{u:Ty}{l:List u.den}{v:Value}{e i id:Nat}(ho:z6 id=some (.nest u l e i none))(yZ:v=g.sv id [])(qc:v.oneCell'=true):zm w g z6 (.nv false id [] e) v:=by
 simp only[zm];refine⟨_,⟨v,rfl,qc,λt l' e' i' h hx=>?_⟩,rfl⟩;rw[ho]at hx;simp only[zI,Obj.nest.injEq]at hx;obtain⟨_,_,rfl,rfl,_⟩:=hx;exact⟨yH _,λ_=>⟨λ_=>yZ,λh=>by simp at h⟩⟩
theorem Jg{t E:TypeId}{u:Ty}(qu:P.underlying t=some (.slice E))(vB:j4 P E u){len:Nat}(Bs:len*u.size<=100000){ps:Array (Nat×Operand)}(xX:xd 0 ps.toList=true)(hlen:ps.toList.length=len)
  (Gg:∀x∈ps.toList,(a.eval x.2).cells.size=u.size) :
  ∃cells:Array Value,cells.toList=(ps.toList.map λx=>(a.eval x.2).cells.toList).flatten/\(Instr.buildSlice t len (ps.map λx=>(x.1,a.eval x.2))).run P w=.ok (.slice (some ⟨w.heap.size,0,none⟩) len len) (w.alloc (.cells cells E)):=by
 obtain⟨i,zv,Qe,QC,Bo,TY,TQ,hi6⟩:=vB.info;let vs:List Value:=ps.toList.map λx=>a.eval x.2
 have zy6:∀v∈vs,v.cells.size=u.size:=by
  intro v hv;obtain⟨x,hx,rfl⟩:=Z22.1 hv;exact Gg x hx
 have Au:vs.length=len:=by simp[vs];rw[<-hlen];simp
 let WY:Array Value:=(Array.range (len*i.size)).map (zv.cells[· % zv.cells.size]!);have z2x:WY.size=len*u.size:=by simp[WY,QC]
 obtain⟨cells,PV,uk⟩:=Uj vs 0 WY zy6 (by rw[z2x,QK,Au];exact yH _);have Po:cells.toList=(ps.toList.map λx=>(a.eval x.2).cells.toList).flatten:=by
  rw[uk];simp only[Z2b,Z1z,Ql,QK,Au];rw[Lg (by rw[vl,z2x];exact yH _),DX];simp[vs];rfl
 refine⟨cells,Po,?_⟩;have My:ps.toList.map (λx=>(x.1,a.eval x.2))=zc 0 vs:=kX xX a.eval;have Ni:¬(2 ^ 24<len*i.size):=by rw[QC];omega
 unfold Instr.buildSlice;simp only[Sem.run_bind,run_underlying qu,Result.andThen_ok];by_cases hz:len*i.size=0
 ·have Pl:len=0:=by
   rcases Nat.mul_eq_zero.1 hz with h0|h0
   ·exact h0
   ·omega
  have SP:ps=#[]:=by apply C5.1;exact T3 (hlen.trans Pl)
  have D6:cells.toList=[]:=by
   rw[Po,SP];rfl
  have zj9:cells=#[]:=by apply C5.1;rw[D6]
  simp[Go.sizeOf,typeInfo,Qe,Pl,SP,Instr.fill,newRow,zj9,Array.range_zero']
 ·have Vi:=PV;simp only[WY]at Vi;rw[<-QC]at Vi;simp[Go.sizeOf,typeInfo,Qe,Ni,hz,zeroValue,TY,My,Vi,newRow]
theorem Lo{u:Ty}{cells:Array Value}{E:TypeId}{g':z8}{w':World}{nb base:Nat}(h1:g'.tag nb=.row base [])(h2:g'.sv base []=.slice (some ⟨nb,0,none⟩) 0 0)(h3:w'.heap[nb]? = some (.cells cells E)):
  zN w' g' (some (base,[])) (.sl true u) [] [g'.sv base []]:=by
 refine⟨some ⟨nb,0,none⟩,0,by rw[h2];rfl,h2,yH _,jF _,.inr ⟨nb,0,cells,E,rfl,h1,h3,by simp,λi hi=>by simp at hi⟩⟩
theorem zad(kA:p6 P c.tt){t:TypeId}{len:Nat}{ps:Array (Nat×Operand)}(ho:o.op=.buildSlice t len ps)(zj:zU c.ntmps g w a J)(hf:zJ g J base)
  {ow:Bool}{u:Ty} (Qc:Cp c o.dst t=some (.sl ow u)) (hu:GR u=true) (Bs:len*u.size<=100000) (h:NU c J base o.dst u len ps.toList k=some r)
  (hK:vY c.ntmps k r g w J base mo K):o.wp P a w K Q:=by
 obtain⟨E,v0,qu,hv,hvu⟩:=Y3 kA Qc;have vB:j4 P E u:=hv.info.congr hvu;have ht:=zj.heap.tags;unfold NU at h;split at h
 ·rename_i SP;obtain⟨cells,_,ze⟩:=Jg (a:=a) (w:=w) qu vB Bs (ps:=ps) (by rw[SP];rfl) (by rw[SP];rfl) (by rw[SP];simp);refine ji (g:=g) (J:=J) (J':=J.setObj base (.nest u [] 0 0 none)) (base:=base) (g':=qe g w.heap.size base (.row base []) (.slice (some ⟨w.heap.size,0,none⟩) 0 0)) (v:=.slice (some ⟨w.heap.size,0,none⟩) 0 0) (w':=w.alloc (.cells cells E)) ?_ ?_ (ZU ht _) (λm hm vc=>⟨?_,?_⟩) rfl ?_ h (λ_ b hb=>heap_alloc_old w _ hb) hK
  ·simp only[execOp,ho];simp[ze]
  ·refine zj.new hf _ (by simp) ?_;exact Lo (by simp[qe]) (by simp[qe]) (heap_alloc_new w _)
  ·refine VR (J:=J) (base:=base) (by omega) (λb=>?_) (λj hj=>.inr (by simp only[St.setObj];exact zf _ _ hj)) (by simp[St.setObj,zO]) rfl vc;simp only[qe];split
   ·exact .inr ⟨[],rfl⟩
   ·exact .inl rfl
  ·simp[z7.ids];omega
  ·exact Jx (u:=u) (l:=[]) (e:=0) (i:=0) (by simp[St.setObj,zO]) (by simp[qe]) rfl
 ·rename_i x SP;split at h
  ·rename_i av Pr;obtain⟨ex,ef⟩:=qD zj Pr;obtain⟨t1,v1,rfl,zbi,Pd⟩:=HK hu;obtain⟨ax,ay,rfl,_,_,hxv,h⟩:=MY h;obtain⟨cs,za,Qs,vG⟩:=vP (av:=.agg (.pr ax (.pr ay .un))) rfl ex;obtain⟨c1,c23,rfl,zz4,c2,c3,rfl,HR,rfl⟩:=za;rw[DX]at vG;obtain⟨d,J1,g1,Z5,h1,h2,h3,uW⟩:=gQ 20 zj.heap zz4 zbi h;have yN:=h3.st h1 zj;have zfb:=jM.frame (wT:=J1.z6) (h3.ro w) (λi _=>h3.kept zj.heap i) HR;have D3:=zfb.len;rw[EB Z5]at D3;obtain⟨x0,rfl⟩:=Z28.1 (show c2.length=1 from D3);obtain⟨fr,l,J2,hs2,PY,z3n,Mq,K6,hmv⟩:=MJ yN.heap Pd zfb Z5;have qG:(a.eval x).cells.size=t1.size+1:=by
    rw[<-vl,vG,WQ,uW.len];rfl
   obtain⟨cells,uk,ze⟩:=Jg (a:=a) (w:=w) qu vB Bs (ps:=ps) (by rw[SP];rfl) (by rw[SP];rfl) (by rw[SP];intro y hy;simp only[II]at hy;subst hy;exact qG);rw[SP]at uk;simp only[PE,Z3c,Z2u,List.flatten_nil,DX,vG]at uk;have ZF:=h3.fresh h1 hf;let vn:Value:=.slice (some ⟨w.heap.size,0,none⟩) 1 1;let g':=Z8 g1 w.heap.size base vn x0 fr;have ht1:=yN.heap.tags;have Qo:∀b,b<w.heap.size->(∀j,fr=some j->g1.tag b≠.row j [])->g'.tag b=g1.tag b:=by
    intro b hb hj;simp only[g',Z8];rw[qW (by omega),qW (by rintro⟨j,h,h'⟩;exact hj j h h')]
   have pV:zT w g1 (w.alloc (.cells cells E)) g':=by
    refine⟨λb hb=>?_⟩;have qk:=ht1 b (by rw[hb];simp);exact⟨by rw[Qo b qk (λj _=>by rw[hb];simp)];exact hb,heap_alloc_old w _ qk⟩
   have hq0:q0≠[]:=by simp[q0]
   have wy:zN (w.alloc (.cells cells E)) g' (some (base,q0)) (.sl true v1) l [x0]:=by
    refine hmv _ _ base q0 pV (by simp[g',Z8,hq0]) (λb j hj hb=>?_);have qk:=ht1 b (by rw[hb];simp);refine⟨?_,heap_alloc_old w _ qk⟩;simp only[g',Z8];rw[qW (by omega),yX ⟨j,hj.symm,hb⟩]
   have hfrb:∀j,some j=fr->j≠base:=λj hj he=>by subst he;exact(Mq j hj).2 ZF.z6
   refine ji (g:=g) (J:=J) (base:=base) (J':=J2.setObj base (.nest (.pair t1 (.pair (.sl true v1) .unit)) [(d,l,())] 0 0 none)) (g':=g') (v:=vn) (w':=w.alloc (.cells cells E)) ?_ ?_ (h3.ext.trans ?_) (λm hm vc=>⟨?_,?_⟩) ?_ ?_ K6 (λ_ b hb=>heap_alloc_old w _ hb) hK
   ·simp only[execOp,ho];simp[ze,vn]
   ·refine NF (m:=base) yN pV (by simp[St.setObj,hs2]) (.inl ZF) (λy hy=>?_) (λj hj=>?_) (λb hb=>?_)
    ·simp only[St.setObj,zO,zI]at hy;subst hy;have yZ:g'.sv base []=vn:=by simp[g',Z8]
     refine⟨some ⟨w.heap.size,0,none⟩,1,by rw[yZ];rfl,yZ,yH _,by unfold maxLen;omega,.inr ⟨w.heap.size,0,cells,E,rfl,by simp[g',Z8],heap_alloc_new w _,?_,λi hi=>?_⟩⟩
     ·rw[<-vl,uk,WQ,uW.len];simp[Ty.size]
     ·have hi0:i=0:=by simpa using hi
      subst hi0;simp only[Z2b,QK];have hs:(Ty.pair t1 (.pair (.sl true v1) .unit)).size=(c1++[x0]).length:=by
       rw[WQ,uW.len];rfl
      rw[uk,hs,gx];exact⟨c1,[x0],rfl,zN.yJ (o:=none) zbi (uW.kept pV),[x0],[],by simp,wy,rfl⟩
    ·simp only[St.setObj];rw[zf _ _ hj];by_cases TZ:some j=fr
     ·exact .inl (Mq j TZ).1
     ·refine .inr ⟨z3n j TZ,⟨λq=>by simp[g',Z8,hj],λq b hb=>?_⟩,rfl,λhb=>?_⟩
      ·have qk:=ht1 b (by rw[hb];simp);refine⟨?_,heap_alloc_old w _ qk⟩;rw[Qo b qk (λi hi wU=>?_)]
       ·exact hb
       ·rw[hb]at wU;simp only[Tag.row.injEq]at wU;exact TZ (by rw[hi,wU.1])
      ·have qk:=ht1 _ (by rw[hb];simp);exact⟨by rw[Qo _ qk (λi _=>by rw[hb];simp)];exact hb,heap_alloc_old w _ qk⟩
    ·simp only[g',Z8]at hb;split at hb
     ·rename_i he;subst he;simp
     ·split at hb
      ·rename_i he;obtain⟨j,_,wU⟩:=he;have:=ht1 b (by rw[wU];simp);simp;omega
      ·have:=ht1 b hb;simp;omega
   ·refine⟨rfl,rfl,rfl,yH _,by simp,λb hb wU=>⟨heap_alloc_old w _ hb,Qo b hb (λj _ hb3=>?_)⟩⟩;rw[hb3]at wU;simp at wU
   ·refine VR (base:=base) (by omega) (λb=>?_) (λj hj=>?_) (by simp[St.setObj,zO]) (by simp[St.setObj,hs2]) (h3.fresh h1 vc)
    ·simp only[g',Z8];split
     ·exact .inr ⟨[],rfl⟩
     ·split
      ·exact .inr ⟨q0,rfl⟩
      ·exact .inl rfl
    ·simp only[St.setObj];rw[zf _ _ hj];by_cases TZ:some j=fr
     ·exact .inl (Mq j TZ).1
     ·exact .inr (z3n j TZ)
   ·simp[z7.ids];omega
   ·simp[St.setObj,PY,h2]
   ·exact Jx (u:=.pair t1 (.pair (.sl true v1) .unit)) (l:=[(d,l,())]) (e:=0) (i:=0) (by simp[St.setObj,zO]) (by simp[g',Z8]) rfl
  ·simp at h
 ·simp at h
theorem GO{id:Nat}{t:Ty}{l:List t.den}{v:Value}(h:zN w g (some (id,[])) (.sl true t) l [v]):
  ∃b cap gH,v=.slice b l.length cap/\g.sv id []=v/\l.length<=cap/\cap<=maxLen/\wH P w (CA g) t.ro v (l.map (Ty.gz t)) gH/\
   ((b=none/\l=[]/\cap=0/\gH=[])\/∃bk off cc ee,b=some ⟨bk,off,none⟩/\g.tag bk=.row id []/\w.heap[bk]? = some (.cells cc ee (0,0))/\off+cap*t.size<=cc.size/\gH=qS cc.toList off (l.length*t.size)/\
    ∀(i:Nat)(h:i<l.length),zN w g (some (id,[Step.idx (i:Int)])) t (l.get ⟨i,h⟩) (qS cc.toList (off+i*t.size) t.size)):=by
 obtain⟨b,cap,hv,yZ,h1,h2,h3⟩:=h;simp only[N0,Fy]at hv;subst hv;rcases h3 with⟨rfl,hl,rfl⟩|⟨bk,off,cc,ee,rfl,zS,zZ,qG,ja⟩
 ·subst hl;exact⟨none,0,[],rfl,yZ,h1,h2,wH.of_nil,.inl ⟨rfl,rfl,rfl,rfl⟩⟩
 ·have Qf:l.length*t.size<=cap*t.size:=kn _ h1;have AQ:(l.map (Ty.gz t)).length=l.length:=by simp
  have htl:=wH.YG (P:=P) (w:=w) (g:=CA g) (t:=t.ro) (m:=l.map (Ty.gz t)) (b:=bk) (off:=off) (cap:=cap) zZ (by rw[AQ,Ty.qd];omega) (λi hi=>by
   have wm:i<l.length:=by rw[AQ]at hi;exact hi
   have hf:=zN.freeze (YQ w g) (o:=some (id,[]++[Step.idx (i:Int)])) (Zt w g id _) (ja i wm);simp only[IL,Rq,Ty.qd]at hf⊢;exact hf)
  rw[AQ,Ty.qd]at htl;exact⟨_,cap,_,rfl,yZ,h1,h2,htl,.inr ⟨bk,off,cc,ee,rfl,zS,zZ,qG,rfl,λi hi=>ja i hi⟩⟩
def V7(g:z8)(id:Nat)(nb:Option Nat)(v:Value)(n i2:Nat):z8 where
 tag:=λb=>if nb=some b then .row id [] else match g.tag b with
  |.row i (.idx j::q)=>if i=i2/\j=0 then .row id (.idx (n:Int)::q) else .row i (.idx j::q)
  |t=>t
 sv:=λi q=>if i=id then (match q with
  |[]=>v
  |.idx j::q'=>if j=(n:Int) then g.sv i2 (.idx 0::q') else g.sv id (.idx j::q')
  |q=>g.sv id q) else g.sv i q
 qp:=g.qp
theorem G4{id n i2 b:Nat}{nb:Option Nat}{v:Value}(hb:nb≠some b)(h:∀q,g.tag b≠.row i2 (.idx 0::q)):(V7 g id nb v n i2).tag b=g.tag b:=by
 simp only[V7,qW hb];split
 ·rename_i i j q he;rw[qW (λhc=>h q (by rw[he,hc.1,hc.2]))];exact he.symm
 ·rfl
theorem Mi{n:Nat}{w':World}{J':St}{id i2:Nat}{t:Ty}{l l0:List t.den}{d:t.den}{e i e' i':Nat}{nb:Option Nat}{v:Value}{nb0 off cap:Nat}{c:Array Value}{ee:TypeId}{ol:Nat->List Value}{news:List Value}
  (zj:zU n g w a J) (zp:J.z6 id=some (.nest t l0 e i none)) (he:e<e') (hi:i<i') (hs:J'.zk=J.zk) (ho:J'.z6 id=some (.nest t (l++[d]) e' i' none))
  (Bn:∀j,j≠id->(j=i2/\J'.z6 j=none)\/(j≠i2/\J'.z6 j=J.z6 j)) (h2:i2=id->l=[])
  (Ni:∀b,nb=some b->w.heap.size<=b/\b<w'.heap.size) (vb:∀b,b<w.heap.size->g.tag b≠.row id []->w'.heap[b]? = w.heap[b]?) (YR:w.heap.size<=w'.heap.size)
  (Tg:w'.os=w.os) (htp:w'.tape=w.tape) (Qj:w'.output=w.output) (hdr:w.drawn<=w'.drawn)
  (hv:v=.slice (some ⟨nb0,off,none⟩) (l.length+1) cap) (Qf:l.length+1<=cap) (zzg:cap<=maxLen) (zS:(V7 g id nb v l.length i2).tag nb0=.row id []) (zZ:w'.heap[nb0]? = some (.cells c ee (0,0))) (qG:off+cap*t.size<=c.size)
  (hold:∀(k:Nat)(h:k<l.length),zN w g (some (id,[Step.idx (k:Int)])) t (l.get ⟨k,h⟩) (ol k)) (zir:∀k,k<l.length->qS c.toList (off+k*t.size) t.size=ol k)
  (ZE:zN w g (some (i2,[Step.idx 0])) t d news) (hnc:qS c.toList (off+l.length*t.size) t.size=news) :
  zU n (V7 g id nb v l.length i2) w' a J'/\Ext w g w' (V7 g id nb v l.length i2)/\(∀m,zJ g J m->zJ (V7 g id nb v l.length i2) J' m)/\(V7 g id nb v l.length i2).sv id []=v:=by
 let g':=V7 g id nb v l.length i2;have ht:=zj.heap.tags;have qk:∀b,g.tag b≠.zt->b<w.heap.size/\nb≠some b:=λb hb=>⟨ht b hb,λhc=>by have:=Ni b hc;have:=ht b hb;omega⟩
 have PJ:∀b,g.tag b≠.zt->(∀q,g.tag b≠.row i2 (.idx 0::q))->g.tag b≠.row id []->g'.tag b=g.tag b/\w'.heap[b]? = w.heap[b]? := λb hb hq hr=>
  ⟨G4 (qk b hb).2 hq,vb b (qk b hb).1 hr⟩
 have qY:zT w g w' g':=⟨λb hb=>by
  obtain⟨h1,h2⟩:=PJ b (by rw[hb];simp) (by rw[hb];simp) (by rw[hb];simp);exact⟨h1.trans hb,h2⟩⟩
 have yZ:g'.sv id []=v:=by simp[g',V7]
 refine⟨?_,?_,λm vc=>?_,yZ⟩
 ·refine NF (m:=id) zj qY hs (.inr ?_) (λy hy=>?_) (λj hj=>?_) (λb hb=>?_)
  ·rw[zp,ho];exact .inr (.inr (.inr (.inr ⟨t,l0,l++[d],e,e',i,i',none,none,rfl,rfl,by omega,by omega,λh=>by omega,λh=>by omega⟩)))
  ·rw[ho]at hy;simp only[zI]at hy;subst hy;have hlen:(l++[d]).length=l.length+1:=by simp
   refine⟨some ⟨nb0,off,none⟩,cap,by rw[yZ,hlen,hv],by rw[yZ,hlen,hv],by rw[hlen];exact Qf,zzg,.inr ⟨nb0,off,c,ee,rfl,zS,zZ,qG,λk hk=>?_⟩⟩;by_cases pB:k<l.length
   ·have vg:i2≠id:=λh=>by rw[h2 h]at pB;simp at pB
    rw[zir k pB];have wG:(l++[d]).get ⟨k,hk⟩=l.get ⟨k,pB⟩:=by simp[Z4c pB]
    rw[wG];refine zN.move qY (o:=some (id,[Step.idx (k:Int)])) (o':=some (id,[]++[Step.idx (k:Int)])) ⟨λq=>?_,λq b hb=>?_⟩ (hold k pB)
    ·have:((k:Int)=(l.length:Int))=False:=by simp;omega
     simp[g',V7,this]
    ·simp only[QI,Ql]at hb⊢;obtain⟨h3,h4⟩:=PJ b (by rw[hb];simp) (by rw[hb];intro q hq;simp at hq;exact vg hq.1.symm) (by rw[hb];simp);exact⟨h3.trans hb,h4⟩
   ·have zzl:k=l.length:=by rw[hlen]at hk;omega
    subst zzl;rw[hnc];have wG:(l++[d]).get ⟨l.length,hk⟩=d:=by simp
    rw[wG];refine zN.move qY (o:=some (i2,[Step.idx 0])) (o':=some (id,[]++[Step.idx (l.length:Int)])) ⟨λq=>?_,λq b hb=>?_⟩ ZE
    ·simp[g',V7]
    ·simp only[QI,Ql]at hb⊢;refine⟨?_,vb b (qk b (by rw[hb];simp)).1 (by rw[hb];simp)⟩;simp only[g',V7,qW (qk b (by rw[hb];simp)).2,hb];rw[yX (by simp)]
  ·rcases Bn j hj with⟨_,h⟩|⟨h3,h⟩
   ·exact .inl h
   ·refine .inr ⟨h,⟨λq=>by simp[g',V7,hj],λq b hb=>?_⟩,rfl,λhb=>?_⟩
    ·simp only[Ql]at hb⊢;obtain⟨h4,h5⟩:=PJ b (by rw[hb];simp) (by rw[hb];intro q hq;simp at hq;exact h3 hq.1) (by rw[hb];simp;intro hc;exact absurd hc hj);exact⟨h4.trans hb,h5⟩
    ·obtain⟨h4,h5⟩:=PJ _ (by rw[hb];simp) (by rw[hb];simp) (by rw[hb];simp);exact⟨h4.trans hb,h5⟩
  ·by_cases hc:nb=some b
   ·exact(Ni b hc).2
   ·by_cases ha:g.tag b=.zt
    ·rw[G4 hc (by rw[ha];simp)]at hb;exact absurd ha hb
    ·have:=ht b ha;omega
 ·refine⟨Tg,htp,Qj,hdr,YR,λb hb wU=>⟨vb b hb (by rcases wU with h|h<;>rw[h]<;>simp),G4 (λhc=>by have:=Ni b hc;omega) (by rcases wU with h|h<;>rw[h]<;>simp)⟩⟩
 ·have Mv:m≠id:=λh=>by subst h;have:=vc.z6;rw[zp]at this;simp at this
  have zp7:∀b,g'.tag b=g.tag b\/∃p,g'.tag b=.row id p:=by
   intro b;simp only[g',V7];split
   ·exact .inr ⟨_,rfl⟩
   ·split
    ·rename_i he;split
     ·exact .inr ⟨_,rfl⟩
     ·exact .inl he.symm
    ·exact .inl rfl
  refine VR (base:=id) Mv zp7 (λj hj=>?_) (by rw[ho];simp) hs vc;rcases Bn j hj with⟨_,h⟩|⟨_,h⟩
  ·exact .inl h
  ·exact .inr h
theorem CR{x:z7}{f:(t:Ty)->(id e i:Nat)->t.den->Option R}{r:R}(h:zaj J x f=some r):∃id e i t d,x=.nv false id [] e/\J.z6 id=some (.nest t [d] e i none)/\t.wN=true/\f t id e i d=some r:=by
 unfold zaj at h;split at h
 ·rename_i id ep;split at h
  ·rename_i t d e i ho
   cases hb:(Nat.beq e ep&&t.wN) with
   |false=>rw[hb]at h;simp at h
   |true=>
    rw[hb]at h;simp only[zA]at hb;have he:=zE hb.1;subst he;exact⟨id,e,i,t,d,rfl,ho,hb.2,h⟩
  ·simp at h
 ·simp at h
theorem N2{id e i:Nat}{t:Ty}{l:List t.den}{v:Value}{h:Option Path}(ho:J.z6 id=some (.nest t l e i h))(hv:zm w g J.z6 (.nv false id [] e) v):v=g.sv id []:=by
 simp only[zm]at hv;obtain⟨cs,⟨x,rfl,_,hx⟩,hv⟩:=hv;have:=((hx _ _ _ _ _ ho).2 rfl).1 rfl;rw[hv];exact this
set_option maxHeartbeats 2000000 in
theorem Le(kA:p6 P c.tt){args:Array Operand}{ts:Array TypeId}(ho:o.op=.call { callee:=.builtin .append,args:=args,argTypes:=ts })(zj:zU c.ntmps g w a J)
  {x y:Operand}{t:TypeId}{u:Ty}{ow:Bool}{av bv:z7} (hargs:args.toList=[x,y]) (pR:ts.toList=[t,t]) (Qc:c.tt t=some (.sl ow u)) (hx:ev J x=some av) (hy:ev J y=some bv)
  (h:G2 J u av bv (λv J=>J.qo c o.dst v k)=some r) (hK:vY c.ntmps k r g w J base true K):o.wp P a w K Q:=by
 have hT:=kA _ _ Qc;simp only[qv]at hT;obtain⟨⟨E,qu,hE⟩,_⟩:=hT;have vB:=hE.info;obtain⟨ex,efx⟩:=qD zj hx;obtain⟨ey,efy⟩:=qD zj hy;unfold G2 at h;split at h
 ·-- to nil
  have hv:=QG.1 ex;obtain⟨i2,e2,n2,t1,d,rfl,YT,_,h⟩:=CR h
  cases Qt:t1.sk.same u.sk with
  |false=>rw[Qt]at h;simp at h
  |true=>
   rw[Qt]at h;simp only[zB]at h;have ko:=Sk.qQ Qt;have YM:u.size=t1.ro.size:=by rw[Ty.qd,<-Ty.zW,<-Ty.zW,ko]
   obtain⟨b2,q1o,news,ud,SJ,_,_,yM,wy⟩:=GO (P:=P) (zj.heap.z6 _ _ YT:zN w g (some (i2,[])) (.sl true t1) [d] [g.sv i2 []]);have hyv:=N2 YT ey;rcases wy with⟨_,hl,_⟩|⟨bk,off,cc,ee,rfl,zS,zZ,qG,z3p,ja⟩
   ·simp at hl
   ·rw[<-hyv]at yM;obtain⟨zs,pT,PS⟩:=uv (P:=P) (w:=w) (ty:=0) (t:=t1.ro) (b:=none) (n:=0) (cap:=0) (gH:=[]) qu vB YM yM (by simp) (by simp) (λw' _=>by simp[Builtin.firstCells]);have ze:=jw (P:=P) ho hargs pR (λty=>by rw[hv];exact pT);have Nf:news.length=t1.size:=by rw[yM.length];simp[Ty.qd]
    have Pm:=grownCap_ge w (0+([d].map (Ty.gz t1)).length) 0 E;simp only[GZ,Z3w,QK]at ze Pm PS;have hgm:=grownCap_le_maxLen w 1 0 E (by unfold maxLen;omega);let ux:=grownCap w 1 0 E;obtain⟨r1,r2,r3,r4⟩:=Mi (g:=g) (J:=J) (id:=i2) (i2:=i2) (t:=t1) (l:=[]) (l0:=[d]) (d:=d) (e':=e2+1) (i':=n2+1) (nb:=some w.heap.size) (nb0:=w.heap.size) (off:=0) (cap:=ux) (ol:=λ_=>[]) (news:=news)
     (v:=.slice (some ⟨w.heap.size,0,none⟩) 1 ux) (J':=J.setObj i2 (.nest t1 [d] (e2+1) (n2+1) none)) (w':=w.drew.alloc (.cells (([]:List Value).toArray++news.toArray++zs) E)) (c:=([]:List Value).toArray++news.toArray++zs) (ee:=E)
     zj YT (by omega) (by omega) rfl (by simp[St.setObj,zO]) (λj hj=>.inr ⟨hj,by simp only[St.setObj];exact zf _ _ hj⟩) (λ_=>rfl) (λb hb=>by simp only[zI]at hb;subst hb;simp)
     (λb hb _=>heap_alloc_old w.drew _ hb) (by simp) rfl rfl rfl (Z1h _) (by simp) (by simpa using Pm) hgm (by simp[V7]) (heap_alloc_new w.drew _)
     (by
      simp only[Z50,Z24,PS,Nf,TA,Ty.qd,QK];rw[Nat.sub_mul];have:1*t1.size<=ux*t1.size:=kn _ Pm;show ux*t1.size<=t1.size+(ux*t1.size-1*t1.size);omega)
     (λk hk=>by simp at hk) (λk hk=>by simp at hk)
     (by
      have:=ja 0 (by simp);rw[z3p];simpa using this)
     (by
      simp only[TA,Z2b,TE,Z51,Ql];rw[<-Nf];rw[yK _ _ _ _ (by simp)];exact gx _)
    refine ji (g:=g) (J:=J) (base:=base) ze r1 r2 (λm _ vc=>⟨r3 m vc,?_⟩) rfl (Jx (u:=t1) (l:=[d]) (e:=e2+1) (i:=n2+1) (by simp[St.setObj,zO]) r4.symm rfl) h (λh=>Bool.noConfusion h) hK;have:=efy m vc;simpa[z7.ids]using this
 ·-- to a row
  rename_i id ep;split at h
  ·rename_i t1 l e i zp
   cases Qt:(Nat.beq e ep&&t1.sk.same u.sk) with
   |false=>rw[Qt]at h;simp at h
   |true=>
    rw[Qt]at h;simp only[zB]at h;simp only[zA]at Qt;have Hm:=zE Qt.1;subst Hm;have ko:=Sk.qQ Qt.2;have YM:u.size=t1.ro.size:=by rw[Ty.qd,<-Ty.zW,<-Ty.zW,ko]
    obtain⟨i2,e2,n2,t2,d2,rfl,YT,_,h⟩:=CR h
    cases hbi:Nat.beq id i2 with
    |true=>rw[hbi]at h;simp at h
    |false=>
     rw[hbi]at h;simp only[zP]at h;have vg:i2≠id:=λhc=>by subst hc;rw[Mt]at hbi;simp at hbi
     obtain⟨hc,h⟩:=yY h;subst hc;obtain⟨Qd,h⟩:=qB h;have Qd:=DA Qd;unfold room at Qd;obtain⟨b2,q1o,news,ud,SJ,_,_,yM,zpm⟩:=GO (P:=P) (zj.heap.z6 _ _ YT:zN w g (some (i2,[])) (.sl true t2) [d2] [g.sv i2 []]);obtain⟨b1,C2,gH,SY,zpa,D4,hm1,z3b,zf9⟩:=GO (P:=P) (zj.heap.z6 _ _ zp:zN w g (some (id,[])) (.sl true t2) l [g.sv id []]);have hyv:=N2 YT ey;have hxv:=N2 zp ex;rcases zpm with⟨_,hl,_⟩|⟨bk2,zuq,cc2,ee2,rfl,Co,Qv,xu,zit,q01⟩
     ·simp at hl
     rw[<-hyv]at yM;have Nf:news.length=t2.size:=by rw[yM.length];simp[Ty.qd]
     have ZE:zN w g (some (i2,[Step.idx 0])) t2 d2 news:=by
      have:=q01 0 (by simp);rw[zit];simpa using this
     have hσ:∀j,j≠id->(j=i2/\((J.kill i2).setObj id (.nest t2 (l++[d2]) (e+1) (i+1) none)).z6 j=none)\/(j≠i2/\((J.kill i2).setObj id (.nest t2 (l++[d2]) (e+1) (i+1) none)).z6 j=J.z6 j):=by
      intro j hj;simp only[St.setObj,St.kill];rw[zf _ _ hj];by_cases h2:j=i2
      ·subst h2;exact .inl ⟨rfl,zO _ _ _⟩
      ·exact .inr ⟨h2,zf _ _ h2⟩
     have z4d:∀m,zJ g J m->m∉(z7.nv false id [] (e+1)).ids:=λm vc=>by
      have:=efx m vc;simpa[z7.ids]using this
     have Nb:a.eval x=.slice b1 l.length C2:=hxv.trans SY;by_cases Ha:C2<l.length+1
     ·obtain⟨zs,pT,PS⟩:=uv (P:=P) (w:=w) (ty:=0) (t:=t2.ro) (b:=b1) (n:=l.length) (cap:=C2) (gH:=gH) qu vB YM yM (by simpa using Ha) (by simpa using Qd) (λw' QA=>by
       have:=z3b.cells w' QA;rw[SY]at this;simpa using this)
      have ze:=jw (P:=P) ho hargs pR (λty=>by rw[Nb];exact pT);simp only[GZ,Z3w]at ze PS;have Pm:=grownCap_ge w (l.length+1) C2 E;have hgm:=grownCap_le_maxLen w (l.length+1) C2 E (by unfold maxLen;omega);let ux:=grownCap w (l.length+1) C2 E;have hol:gH.length=l.length*t2.size:=by rw[z3b.length];simp[Ty.qd]
      obtain⟨ol,hold,zir⟩:∃ol:Nat->List Value,(∀(k:Nat)(h:k<l.length),zN w g (some (id,[Step.idx (k:Int)])) t2 (l.get ⟨k,h⟩) (ol k))/\∀k,k<l.length->qS gH (k*t2.size) t2.size=ol k:=by
       rcases zf9 with⟨_,hl,_,_⟩|⟨bk,off,cc,ee,_,_,zZ,qG,zpu,ja⟩
       ·exact⟨λ_=>[],λk hk=>by rw[hl]at hk;simp at hk,λk hk=>by rw[hl]at hk;simp at hk⟩
       ·refine⟨_,ja,λk hk=>?_⟩;have h3:(k+1)*t2.size<=l.length*t2.size:=kn _ hk;rw[kq]at h3;rw[zpu,pP _ _ _ _ _ (by omega)]
      obtain⟨r1,r2,r3,r4⟩:=Mi (g:=g) (J:=J) (id:=id) (i2:=i2) (t:=t2) (l:=l) (l0:=l) (d:=d2) (e':=e+1) (i':=i+1) (nb:=some w.heap.size) (nb0:=w.heap.size) (off:=0) (cap:=ux) (ol:=ol) (news:=news)
       (v:=.slice (some ⟨w.heap.size,0,none⟩) (l.length+1) ux) (J':=(J.kill i2).setObj id (.nest t2 (l++[d2]) (e+1) (i+1) none)) (w':=w.drew.alloc (.cells (gH.toArray++news.toArray++zs) E)) (c:=gH.toArray++news.toArray++zs) (ee:=E)
       zj zp (by omega) (by omega) rfl (by simp[St.setObj,zO]) hσ (λh=>absurd h vg) (λb hb=>by simp only[zI]at hb;subst hb;simp)
       (λb hb _=>heap_alloc_old w.drew _ hb) (by simp) rfl rfl rfl (Z1h _) rfl Pm hgm (by simp[V7]) (heap_alloc_new w.drew _)
       (by
        simp only[Z50,Z24,PS,Nf,hol,Ty.qd,QK];rw[Nat.sub_mul];have:(l.length+1)*t2.size<=ux*t2.size:=kn _ Pm;rw[kq]at this⊢;show ux*t2.size<=l.length*t2.size+t2.size+(ux*t2.size-(l.length*t2.size+1*t2.size));omega)
       hold (λk hk=>by
        have h3:(k+1)*t2.size<=l.length*t2.size:=kn _ hk;rw[kq]at h3;rw[<-zir k hk,QK];simp only[Z51,PF];exact yK _ _ _ _ (by omega))
       ZE (by
        rw[QK];simp only[Z51,PF];have:=yD gH (news++zs.toList) (l.length*t2.size) 0 t2.size hol.symm;rw[TE]at this;rw[this,yK _ _ _ _ (by omega),<-Nf,gx])
      exact ji (g:=g) (J:=J) (base:=base) ze r1 r2 (λm _ vc=>⟨r3 m vc,z4d m vc⟩) rfl (Jx (u:=t2) (l:=l++[d2]) (e:=e+1) (i:=i+1) (by simp[St.setObj,zO]) r4.symm rfl) h (λh=>Bool.noConfusion h) hK
     ·rcases zf9 with⟨_,hl,D6,_⟩|⟨bk,off,cc,ee,rfl,z3c,z4k,HM,zpu,ja⟩
      ·omega
      ·have Vo:cc.toList.length=cc.size:=vl;have hmul:(l.length+1)*t2.size<=C2*t2.size:=kn _ (by omega);rw[kq]at hmul;have pT:=uw (P:=P) (w:=w) (ty:=0) (t:=t2.ro) (n:=l.length) (cap:=C2) (off:=off) qu vB YM z4k yM (by simp;omega) (by rw[Ty.qd];exact HM);have ze:=jw (P:=P) ho hargs pR (λty=>by rw[Nb];exact pT);simp only[GZ,Z3w,Ty.qd]at ze;obtain⟨r1,r2,r3,r4⟩:=Mi (g:=g) (J:=J) (id:=id) (i2:=i2) (t:=t2) (l:=l) (l0:=l) (d:=d2) (e':=e+1) (i':=i+1) (nb:=none) (nb0:=bk) (off:=off) (cap:=C2) (ol:=λk=>qS cc.toList (off+k*t2.size) t2.size) (news:=news)
        (v:=.slice (some ⟨bk,off,none⟩) (l.length+1) C2) (J':=(J.kill i2).setObj id (.nest t2 (l++[d2]) (e+1) (i+1) none)) (w':=w.setRow bk (zD cc.toList (off+l.length*t2.size) news).toArray) (c:=(zD cc.toList (off+l.length*t2.size) news).toArray) (ee:=ee)
        zj zp (by omega) (by omega) rfl (by simp[St.setObj,zO]) hσ (λh=>absurd h vg) (λb hb=>by simp at hb)
        (λb hb wU=>setRow_other w bk b _ (λhe=>wU (he ▸ z3c))) (by simp[World.setRow]) rfl rfl rfl (yH _) rfl (by omega) hm1 (by rw[G4 (by simp) (by rw[z3c];simp)];exact z3c) (setRow_heap w bk cc _ ee _ z4k)
        (by rw[Z24,j5 _ _ _ (by omega),Vo];exact HM)
        ja (λk hk=>by
         have h3:(k+1)*t2.size<=l.length*t2.size:=kn _ hk;rw[kq]at h3;exact jy _ _ _ _ _ (by omega) (by omega))
        ZE (by
         have:=uq cc.toList (off+l.length*t2.size) news (by omega);rw[Nf]at this;exact this)
       exact ji (g:=g) (J:=J) (base:=base) ze r1 r2 (λm _ vc=>⟨r3 m vc,z4d m vc⟩) rfl (Jx (u:=t2) (l:=l++[d2]) (e:=e+1) (i:=i+1) (by simp[St.setObj,zO]) r4.symm rfl) h (λh=>Bool.noConfusion h) hK
  ·simp at h
 ·simp at h
end
end
end Go.Kz
