/-
  Rows of rows turned: an element of one of the rows; a row put in its place; a row taken out.
-/
import Derived.Test.YtmoggdcmpoobpaaGreatDoorKzR
set_option linter.unusedVariables false
set_option linter.unusedSimpArgs false
namespace Go.Kz
variable {R:Type}
theorem Vs:(t:Ty)->(d:t.den)->(p:Path)->{k:(u:Ty)->u.den->Option R}->{r:R}->zR t d p k=some r->
  ∃(u:Ty)(e:u.den),k u e=some r/\∀(R':Type) (k':(u:Ty)->u.den->Option R'),zR t d p k'=k' u e
 |t,d,[],k,r,h=>⟨t,d,by grind[zR],λR' k'=>by grind[zR]⟩
 |.pair a _,(x,_),.fst::p,k,r,h=>by simp only[zR]at h⊢;exact Vs a x p h
 |.pair _ b,(_,y),.snd::p,k,r,h=>by simp only[zR]at h⊢;exact Vs b y p h
 |.arr _ t,l,.idx i::p,k,r,h=>by
  simp only[zR]at h⊢;obtain⟨x,hx,h⟩:=Zh.1 h;obtain⟨u,e,hk,ha⟩:=Vs t x p h
  grind
 |.sl true t,l,.idx i::p,k,r,h=>by
  simp only[zR]at h⊢;obtain⟨x,hx,h⟩:=Zh.1 h;obtain⟨u,e,hk,ha⟩:=Vs t x p h
  grind
 |.int _,d,s::p,k,r,h=>by grind[zR]
 |.bool,d,s::p,k,r,h=>by grind[zR]
 |.str,d,s::p,k,r,h=>by grind[zR]
 |.unit,d,s::p,k,r,h=>by grind[zR]
 |.sl false _,d,s::p,k,r,h=>by grind[zR]
 |.ptr _,d,s::p,k,r,h=>by grind[zR]
 |.fn _ _,d,s::p,k,r,h=>by grind[zR]
 |.tree _,d,s::p,k,r,h=>by grind[zR]
 |.pair _ _,(_,_),.idx _::p,k,r,h=>by simp[zR]at h
 |.arr _ _,d,.fst::p,k,r,h=>by simp[zR]at h
 |.arr _ _,d,.snd::p,k,r,h=>by simp[zR]at h
 |.sl true _,d,.fst::p,k,r,h=>by simp[zR]at h
 |.sl true _,d,.snd::p,k,r,h=>by simp[zR]at h
theorem JR:(t:Ty)->(d:t.den)->(p:Path)->{v:Ty}->{e:List v.den}->{f:t.den->Option R}->{r:R}->vj t p=some v->yT t d p (.sl true v) e f=some r->
  ∃x:List v.den,∀(R':Type) (k':(u:Ty)->u.den->Option R'),zR t d p k'=k' (.sl true v) x
 |.sl true t,d,[],v,e,f,r,hq,h=>by
  simp only[vj,zI]at hq;subst hq
  exact⟨d,λR' k'=>by simp[zR]⟩
 |.pair a _,(x,_),.fst::p,v,e,f,r,hq,h=>by simp only[yT,vj,zR]at h hq⊢;exact JR a x p hq h
 |.pair _ b,(_,y),.snd::p,v,e,f,r,hq,h=>by simp only[yT,vj,zR]at h hq⊢;exact JR b y p hq h
 |.arr _ t,l,.idx i::p,v,e,f,r,hq,h=>by
  simp only[yT,vj,zR]at h hq⊢;obtain⟨x,hx,h⟩:=Zh.1 h;obtain⟨y,hy⟩:=JR t x p hq h
  exact⟨y,λR' k'=>by grind⟩
 |.sl true t,l,.idx i::p,v,e,f,r,hq,h=>by
  simp only[yT,vj,zR]at h hq⊢;obtain⟨x,hx,h⟩:=Zh.1 h;obtain⟨y,hy⟩:=JR t x p hq h
  exact⟨y,λR' k'=>by grind⟩
 |.sl true _,_,.fst::_,_,_,_,_,h,_ |.sl true _,_,.snd::_,_,_,_,_,h,_=>by simp[vj]at h
 |.sl false _,_,p,_,_,_,_,h,_=>by grind[vj]
 |.int _,_,p,_,_,_,_,h,_=>by grind[vj]
 |.bool,_,p,_,_,_,_,h,_=>by grind[vj]
 |.str,_,p,_,_,_,_,h,_=>by grind[vj]
 |.unit,_,p,_,_,_,_,h,_=>by grind[vj]
 |.ptr _,_,p,_,_,_,_,h,_=>by grind[vj]
 |.fn _ _,_,p,_,_,_,_,h,_=>by grind[vj]
 |.tree _,_,p,_,_,_,_,h,_=>by grind[vj]
 |.pair _ _,_,[],_,_,_,_,h,_=>by simp[vj]at h
 |.pair _ _,_,.idx _::_,_,_,_,_,h,_=>by simp[vj]at h
 |.arr _ _,_,[],_,_,_,_,h,_=>by simp[vj]at h
 |.arr _ _,_,.fst::_,_,_,_,_,h,_ |.arr _ _,_,.snd::_,_,_,_,_,h,_=>by simp[vj]at h
theorem Ll{v:Ty}(qU:v.zW=true){l:List v.den}{j:Int}{q:Path}{k:(u:Ty)->u.den->Option R}{r:R}(h:zR (.sl true v) l (.idx j::q) k=some r):∃u x,k u x=some r/\u.zW=true:=by
 grind[zR,Option.bind_eq_some_iff,QT]
theorem JE{j:Int}:{t:Ty}->{p:Path}->{v:Ty}->vj t p=some v->Wv t (p++[.idx j])=some v.sk
 |.sl true t,[],v,hq=>by
  grind[vj,Wv]
 |.pair a _,.fst::p,v,hq=>by simp only[vj,Wv,Qm]at hq⊢;exact JE hq
 |.pair _ c,.snd::p,v,hq=>by simp only[vj,Wv,Qm]at hq⊢;exact JE hq
 |.arr _ t,.idx i::p,v,hq=>by simp only[vj,Wv,Qm]at hq⊢;exact JE hq
 |.sl true t,.idx i::p,v,hq=>by simp only[vj,Wv,Qm]at hq⊢;exact JE hq
 |.sl true _,.fst::_,_,h |.sl true _,.snd::_,_,h=>by simp[vj]at h
 |.sl false _,p,_,h=>by grind[vj]
 |.int _,p,_,h=>by grind[vj]
 |.bool,p,_,h=>by grind[vj]
 |.str,p,_,h=>by grind[vj]
 |.unit,p,_,h=>by grind[vj]
 |.ptr _,p,_,h=>by grind[vj]
 |.fn _ _,p,_,h=>by grind[vj]
 |.tree _,p,_,h=>by grind[vj]
 |.pair _ _,[],_,h=>by simp[vj]at h
 |.pair _ _,.idx _::_,_,h=>by simp[vj]at h
 |.arr _ _,[],_,h=>by simp[vj]at h
 |.arr _ _,.fst::_,_,h |.arr _ _,.snd::_,_,h=>by simp[vj]at h
theorem Bx:{p:Path}->{q:Path}->{j:Int}->{r:Path}->GQ p=some (q,j,r)->p=q++.idx j::r
 |[],_,_,_,h=>by simp[GQ]at h
 |s::p,q,j,r,h=>by
  simp only[GQ]at h;split at h
  ·rename_i q' j' r' hl;simp only[zI,p8]at h;obtain⟨rfl,rfl,rfl⟩:=h;rw[Bx hl];rfl
  grind
theorem Vc:{p q:Path}->Zm p q=true->p=q
 |[],[],_=>rfl
 |.fst::p,.fst::q,h=>by simp only[Zm]at h;rw[Vc h]
 |.snd::p,.snd::q,h=>by simp only[Zm]at h;rw[Vc h]
 |.idx i::p,.idx j::q,h=>by
  simp only[Zm,zA,jc]at h
  rw[h.1,Vc h.2]
 |[],_::_,h|_::_,[],h=>by simp[Zm]at h
 |.fst::_,.snd::_,h |.fst::_,.idx _::_,h |.snd::_,.fst::_,h |.snd::_,.idx _::_,h |.idx _::_,.fst::_,h |.idx _::_,.snd::_,h=>by simp[Zm]at h
section
variable {w:World}{g:z8}{σ:St}
theorem zP.step{n:Nat}{w':World}{a:Act}{g':z8}{σ':St}{m:Nat}(zq:zP n g w a σ)(hr:zS w g w' g')(hs:σ'.zy=σ.zy)(hm:zu g σ m\/qu g g' m (σ.z6 m) (σ'.z6 m))
  (hk:∀j,j≠m->qu g g' j (σ.z6 j) (σ'.z6 j))
  (zg:∀j x,σ'.z6 j=some x->qz w' g' σ'.z6 j x\/(σ.z6 j=some x/\Qr w g w' g' j)) (ht:∀b,g'.tag b≠.qw->b<w'.heap.size):zP n g' w' a σ':=by
 have pg:∀j,(zu g σ m->j≠m)->qu g g' j (σ.z6 j) (σ'.z6 j):=by
  grind
 refine⟨λi av hi=>?_,⟨λid x hx=>?_,ht⟩,zq.size,zq.defers,zq.known.kept hr⟩
 ·rw[hs]at hi;obtain⟨u,hu,zc⟩:=zq.zy i av hi;refine⟨u,hu,qy.frame hr (λj hj=>pg j (λhf he=>?_)) zc⟩;subst he;exact hf.zy i av hi hj
 ·rcases zg id x hx with h|⟨h,pj⟩
  ·exact h
  ·refine qz.frame hr pj (λy hy j hj=>pg j (λhf he=>?_)) (zq.heap.z6 id x h);subst he;subst hy;exact hf.cells id y h hj
theorem Fy{id:Nat}{pp:Path}{t:Ty}{l:List t.den}{i:Int}{q:Path}{u:Ty}{d:u.den}{cs:List Value}{f:List t.den->Option R}{r:R}{hd:Value}(qU:t.zW=true)
  (wJ:zM w g (some (id,pp)) (.sl true t) l [hd]) (zN:zM w g none u d cs) (h:yT (.sl true t) l (.idx i::q) u d f=some r) :
  ∃l' b0 j6 n cp o' cc ee,f l'=some r/\l'.length=l.length/\g.sv id pp=.slice (some ⟨b0,j6,none⟩) n cp/\t.sk.off q=some (o',u.sk)/\w.heap[b0]? = some (.cells cc ee (0,0))/\g.tag b0=.row id pp/\
   j6+i.toNat*t.size+o'+u.size<=cc.size/\
   zM (w.setRow b0 (zB cc.toList (j6+i.toNat*t.size+o') cs).toArray) g (some (id,pp)) (.sl true t) l' [hd]:=by
 simp only[yT,Zh]at h;obtain⟨x,hx,h⟩:=h;obtain⟨h0,hi,rfl,yP⟩:=jt hx;obtain⟨ad,cap,Zw,yU,Kb,QR,wJ⟩:=wJ;rcases wJ with⟨_,hl,_⟩|⟨b,off,cc,ee,rfl,ze,zZ,ql,GA⟩
 ·omega
 ·have vw:=zM.yy (o':=none) qU (GA _ hi);obtain⟨d',o',hk,jH,hr⟩:=Qu qU vw zN h;have hle:=Sk.we jH;rw[Ty.zX,Ty.zX]at hle;have JX:(i.toNat+1)*t.size<=cap*t.size:=wI _ (by omega);rw[kK]at JX;have ZA:cs.length=u.size:=zN.len;have Q3:cc.toList.length=cc.size:=gT;refine⟨_,b,off,l.length,cap,o',cc,ee,hk,qt _ _ _,yU,jH,zZ,ze,by omega,some ⟨b,off,none⟩,cap,?_,?_,?_,QR,.inr ⟨b,off,(zB cc.toList (off+i.toNat*t.size+o') cs).toArray,ee,rfl,ze,?_,?_,λj hj=>?_⟩⟩
  ·grind[qt]
  ·grind[qt]
  ·grind[qt]
  ·grind[setRow_heap]
  ·grind[yS]
  ·have SZ:zS w g (w.setRow b (zB cc.toList (off+i.toNat*t.size+o') cs).toArray) g:=(jj (id:=id) _ (.inl ⟨pp,ze⟩)).ro;have gg:j<l.length:=by grind[qt]
   have BB:(j+1)*t.size<=cap*t.size:=wI _ (by omega);rw[kK]at BB;rw[JS];refine zM.yy qU (o:=none) ?_;by_cases ZP:i.toNat=j
   ·rw[qn ZP];subst ZP;rw[uj _ _ _ _ _ (by omega) (by omega)];exact hr.kept SZ
   ·rw[qP ZP];have hold:=(zM.yy (o':=none) qU (GA j gg)).kept SZ;rcases Z3v ZP with KQ|hgt
    ·have h3:(i.toNat+1)*t.size<=j*t.size:=wI _ KQ
     grind[vJ]
    ·have h3:(j+1)*t.size<=i.toNat*t.size:=wI _ hgt
     grind[j9]
theorem Tt{l:List Value}{off:Nat}{x:Value}(h:off<l.length)(hs:qi l off 1=[x]):zB l off [x]=l:=by
 grind[zB,qi,List.drop_drop,List.take_append_drop]
theorem O1{id:Nat}{t:Ty}{l:List t.den}{e i:Nat}{s:Step}{p:Path}{v:Ty}{l1:List v.den}{j:Int}{q:Path}{u:Ty}{d:u.den}{cs:List Value}{f:List t.den->Option R}{r:R}{b0 j6:Nat}
  (hh:yH w g σ.z6) (ho:σ.z6 id=some (.nest t l e i none)) (qU:v.zW=true) (pP:∀(R':Type) (k':(u:Ty)->u.den->Option R'),zR (.sl true t) l (s::p) k'=k' (.sl true v) l1)
  (zN:zM w g none u d cs) (gX:place g id (.sl true t) [] 0 0 (s::p++.idx j::q)=some (b0,j6))
  (h:(yT (.sl true v) l1 (.idx j::q) u d λl1=>yT (.sl true t) l (s::p) (.sl true v) l1 f)=some r) :
  ∃l' cc ee,f l'=some r/\w.heap[b0]? = some (.cells cc ee (0,0))/\g.tag b0=.row id (s::p)/\j6+u.size<=cc.size/\
   qz (w.setRow b0 (zB cc.toList j6 cs).toArray) g (σ.setObj id (.nest t l' e i none)).z6 id (.nest t l' e i none):=by
 have zg:zM w g (some (id,[])) (.sl true t) l [g.sv id []]:=hh.z6 id _ ho;have hg:zR (.sl true t) l (s::p) (λu x=>some (⟨u,x⟩:(u:Ty)×u.den))=some ⟨.sl true v,l1⟩:=pP _ _;obtain⟨U,X,bx,ox,_,_,_,hk,q14,_,wM,_,_,_,_⟩:=Z6 (.inl zg) hg;simp only[zI,Z4t]at hk;obtain⟨rfl,_⟩:=hk;have hq:=Ak wM
 cases s with
 |fst=>grind[vj]
 |snd=>grind[vj]
 |idx i0=>
  have hq':vj t p=some v:=by grind[vj]
  obtain⟨l1',bh,oh,ch,eh,ph,hk,zsc,jm,Hs,_,xj,hoh,pw,hw⟩:=UQ (focus w g id t) (pre:=[]) hq' zg hg;simp only[zI,Z4t,heq_eq_eq,X3]at hk;subst hk;simp only[JD]at Hs pw hw;have hchl:ch.toList.length=ch.size:=gT;obtain⟨x,hx⟩:=Z2f.1 (yO (l:=ch.toList) (off:=oh) (n:=1) (by omega));rw[hx]at pw;obtain⟨l2,b2,o2,n2,cp2,o',cc,ee,hf,hll,yU,jH,zZ,ze,ql,ub⟩:=Fy qU pw zN h;have e1:=ug (j:=j) (pre:=[]) (t:=.sl true t) (b:=0) (off:=0) (x:=(bx,ox)) hq q14 yU;have e2:=vk e1 (JE hq) jH;have D6:Step.idx i0::p++[Step.idx j]++q=.idx i0::p++.idx j::q:=by simp
  rw[D6,gX]at e2;simp only[zI,p8]at e2;obtain⟨rfl,rfl⟩:=e2;have va:bh≠b0:=by
   grind
  have BF:=jj (w:=w) (g:=g) (id:=id) (b0:=b0) (zB cc.toList (o2+j.toNat*v.size+o') cs).toArray (.inl ⟨_,ze⟩);have z7w:Rq w g (w.setRow b0 (zB cc.toList (o2+j.toNat*v.size+o') cs).toArray) g id (.idx i0::p) bh:=by
   refine⟨BF.ro,λ_ _=>rfl,λq' b hb hq'=>⟨hb,λ_=>setRow_other w b0 b _ ?_⟩⟩
   grind
  obtain⟨l3,hf3,_,zsb⟩:=hw _ g l2 x z7w (by
   simp_all[Tt,setRow_other]) ub _ _ hf
  exact⟨l3,cc,ee,hf3,zZ,ze,ql,zsb⟩
theorem WO{id:Nat}{t:Ty}{l:List t.den}{p:Path}{v:Ty}{l1:List v.den}(zg:zM w g (some (id,[])) (.sl true t) l [g.sv id []])(wM:F0 t p=some v)
  (pP:∀(R':Type) (k':(u:Ty)->u.den->Option R'),zR (.sl true t) l p k'=k' (.sl true v) l1) :
  Hn w g id t l p/\zM w g (some (id,p)) (.sl true v) l1 [g.sv id p]:=by
 cases p with
 |nil=>grind[F0]
 |cons s p=>
  cases s with
  |fst=>grind[F0]
  |snd=>grind[F0]
  |idx i0=>
   simp only[F0]at wM;have hg:zR (.sl true t) l (.idx i0::p) (λu x=>some (⟨u,x⟩:(u:Ty)×u.den))=some ⟨.sl true v,l1⟩:=pP _ _;obtain⟨l1',bh,oh,ch,eh,ph,hk,zsc,jm,Hs,_,xj,hoh,pw,hw⟩:=UQ (focus w g id t) (pre:=[]) wM zg hg;simp only[zI,Z4t,heq_eq_eq,X3]at hk;subst hk;simp only[JD]at Hs pw hw;have hlen:∃bk o cap,g.sv id []=.slice (some ⟨bk,o,none⟩) l.length cap:=by
    obtain⟨a,cap,_,yU,_,_,h3⟩:=zg;rcases h3 with⟨_,rfl,_⟩|⟨b,off,c,e,rfl,_⟩
    ·simp only[zR]at hg;cases i0<;>simp[idx]at hg
    grind
   refine⟨⟨hlen,v,bh,oh,ch,eh,ph,wM,zsc 0 0,jm,Hs,xj,hoh,λw' g' l' x hn Ke UT R' f r' wm=>?_⟩,?_⟩
   ·obtain⟨l2,hf,_,Ov⟩:=hw w' g' l' x hn Ke UT f r' wm;refine⟨l2,hf,?_⟩;rw[hn.sv [] (FJ (by simp))];exact Ov
   ·obtain⟨a,cap,Zw,yU,h1⟩:=pw;exact⟨a,cap,by rw[yU],yU,h1⟩
open Classical in
noncomputable def gE(g:z8)(from_:Option Nat)(id:Nat)(p:Path)(x:Value):z8 where
 tag:=λb=>match g.tag b with
  |.row i q=>if some i=from_ then .row id (p++q) else .row i q
  |t=>t
 sv:=λi q=>if i=id/\q=p then x else g.sv i q
 qY:=g.qY
theorem M1{fr:Option Nat}{id:Nat}{p:Path}{x:Value}{b:Nat}:(gE g fr id p x).tag b=.ro↔g.tag b=.ro:=by
 grind[gE]
theorem Uh{fr:Option Nat}{id:Nat}{p:Path}{x:Value}{b:Nat}:(gE g fr id p x).tag b=.qw↔g.tag b=.qw:=by
 grind[gE]
theorem EW{fr:Option Nat}{id:Nat}{p:Path}{x:Value}{b i:Nat}{q:Path}(h:g.tag b=.row i q)(hi:some i≠fr):(gE g fr id p x).tag b=.row i q:=by
 grind[gE]
theorem z1n{fr:Option Nat}{id:Nat}{p:Path}{x:Value}{b i:Nat}(h:g.tag b=.box i):(gE g fr id p x).tag b=.box i:=by
 grind[gE]
theorem z68{n:Nat}{a:Act}{id:Nat}{t:Ty}{l:List t.den}{e i:Nat}{h0:Option PB}{p:Path}{av:z7}{x:Value}{f:St->Option R}{r:R}{b0 j6:Nat}
  (zq:zP n g w a σ) (ho:σ.z6 id=some (.nest t l e i h0)) (z89:∀v,F0 t p=some v->(∃l1:List v.den,∀(R':Type) (k':(u:Ty)->u.den->Option R'),zR (.sl true t) l p k'=k' (.sl true v) l1)->Hn w g id t l p)
  (gX:place g id (.sl true t) [] 0 0 p=some (b0,j6)) (hx:jO w g σ.z6 av [x]) (h:Vx σ id t l e i p av f=some r) :
  ∃cc ee pre σ' g',f σ'=some r/\w.heap[b0]? = some (.cells cc ee (0,0))/\g.tag b0=.row id pre/\j6<cc.size/\zP n g' (w.setRow b0 (zB cc.toList j6 [x]).toArray) a σ'/\
   Ext w g (w.setRow b0 (zB cc.toList j6 [x]).toArray) g'/\(∀m,zu g σ m->zu g' σ' m)/\σ'.next=σ.next:=by
 unfold Vx at h;split at h
 ·rename_i v wM
  cases qU:v.zW with
  |false=>grind
  |true=>
   rw[qU]at h;simp only[zJ]at h;have key:∃(fr:Option Nat)(d:List v.den)(σ1:St),σ1.zy=σ.zy/\σ1.next=σ.next/\(∀j,some j≠fr->σ1.z6 j=σ.z6 j)/\(∀j,some j=fr->σ1.z6 j=none/\j≠id/\σ.z6 j≠none)/\
     (yT (.sl true t) l p (.sl true v) d λl=>f (σ1.setObj id (.nest t l e (i+1) none)))=some r/\
     (∀w' g',zS w g w' g'->g'.sv id p=x->(∀b,(∃j,some j=fr/\g.tag b=.row j [])->g'.tag b=.row id p/\w'.heap[b]? = w.heap[b]?)->zM w' g' (some (id,p)) (.sl true v) d [x]):=by
    unfold wF at h;split at h
    ·refine⟨none,[],σ,rfl,rfl,λ_ _=>rfl,λ_ h=>by simp at h,h,λw' g' _ yU _=>?_⟩;have QF:[x]=[.slice none 0 0]:=hx;simp only[CA,Dx]at QF;subst QF;exact⟨none,0,rfl,yU,jq _,v8 _,.inl ⟨rfl,rfl,rfl⟩⟩
    ·rename_i vT ep';split at h
     ·rename_i t' l' e' Ka
      cases hb:Nat.beq e' ep' with
      |false=>grind
      |true=>
       rw[hb]at h;have he:=zE hb;subst he;simp only[zJ]at h;obtain⟨hc,h⟩:=yz h;have Ke:t'=v:=by grind
       subst Ke;have va:vT≠id:=by grind
       refine⟨some vT,_,σ.kill vT,rfl,rfl,λj hj=>?_,λj hj=>?_,h,λw' g' hr yU CN=>?_⟩
       ·simp_all[St.kill,zm]
       ·simp_all[St.kill,Y4]
       ·obtain⟨v0,hv0,_,uZ⟩:=hx;simp only[CA,Dx]at hv0;subst hv0;have hxs:=(uZ _ _ _ Ka).2 rfl;obtain⟨Vj,ad,cap,Zw,zeh,h1,h2,h3⟩:=zq.heap.z6 vT _ Ka;refine⟨ad,cap,by grind,by grind,h1,h2,?_⟩;rcases h3 with h3|⟨b,off,c,ee,ha,ze,zZ,hs,vw⟩
        ·grind
        ·obtain⟨k1,k2⟩:=CN b ⟨vT,rfl,ze⟩;exact .inr ⟨b,off,c,ee,ha,k1,k2.trans zZ,hs,λi hi=>zM.yy (o:=none) Vj ((zM.yy (o':=none) Vj (vw i hi)).kept hr)⟩
     grind
    grind
   obtain⟨fr,d,σ1,BU,WR,LL,Fb,wm,hmv⟩:=key;have hp:p≠[]:=by grind[F0]
   have hqq:∃i0 p',p=.idx i0::p':=by
    cases p with
    |nil=>grind
    |cons s p'=>cases s with
     |idx i0=>grind
     |fst=>grind[F0]
     |snd=>grind[F0]
   have q0i:vj (.sl true t) p=some v:=by
    grind[F0,vj]
   obtain⟨l1,hl1⟩:=JR (.sl true t) l p q0i wm;obtain⟨_,v',b1,off1,c,ee,pre,z7e,zm0,ze,xN,zZ,jH,z7b⟩:=z89 v wM ⟨l1,hl1⟩;rw[wM]at z7e;simp only[zI]at z7e;subst z7e;rw[gX]at zm0;simp only[zI,p8]at zm0;obtain⟨rfl,rfl⟩:=zm0;have q1x:some id≠fr:=λhc=>(Fb id hc).2.1 rfl
   have q7h:c.toList.length=c.size:=gT;have gB:∀b,b≠b0->(w.setRow b0 (zB c.toList j6 [x]).toArray).heap[b]? = w.heap[b]? := λb hb=>setRow_other w b0 b _ hb
   have gU:zS w g (w.setRow b0 (zB c.toList j6 [x]).toArray) (gE g fr id p x):=
    ⟨λb hb=>⟨M1.2 hb,gB b (λhe=>by grind)⟩⟩
   have zN:=hmv _ (gE g fr id p x) gU (by simp[gE]) (λb hb=>by
    grind[gE])
   have z7w:Rq w g (w.setRow b0 (zB c.toList j6 [x]).toArray) (gE g fr id p x) id p b0:=by
    refine⟨gU,λq hq=>?_,λq b hb hq=>⟨EW hb q1x,λva=>gB b va⟩⟩
    grind[gE]
   obtain⟨l2,Xg,ub⟩:=z7b _ _ d x z7w (setRow_heap w b0 c _ ee _ zZ) zN _ _ wm;have pj:∀j,j≠id->some j≠fr->Qr w g (w.setRow b0 (zB c.toList j6 [x]).toArray) (gE g fr id p x) j:=by
    intro j hj hjf;refine⟨⟨λq=>by grind[gE],λq b hb=>⟨EW hb hjf,gB b (λhe=>?_)⟩⟩,rfl,λhb=>⟨z1n hb,gB _ (λhe=>?_)⟩⟩
    all_goals grind
   have hσ:∀j,(σ1.setObj id (.nest t l2 e (i+1) none)).z6 j=if j=id then some (.nest t l2 e (i+1) none) else σ1.z6 j:=by
    intro j;by_cases hj:j=id
    all_goals simp_all[St.setObj,zD,zm]
   have u4:∀j,qu g (gE g fr id p x) j (σ.z6 j) ((σ1.setObj id (.nest t l2 e (i+1) none)).z6 j):=by
    intro j;rw[hσ];by_cases hj:j=id
    ·subst hj;rw[qn rfl];exact .inr (.inr (.inr (.inr ⟨t,l,l2,e,e,i,i+1,h0,none,ho,rfl,jq _,Z1h _,λ_=>by grind[gE],λh=>by omega⟩)))
    ·rw[qP hj];by_cases hjf:some j=fr
     ·exact .inl (Fb j hjf).1
     grind[qu.same]
   refine⟨c,ee,pre,_,gE g fr id p x,Xg,zZ,ze,jH,?_,?_,?_,WR⟩
   ·refine zq.step (m:=id) gU (show(σ1.setObj id _).zy=σ.zy from BU) (.inr (u4 id)) (λj _=>u4 j) (λj y hy=>?_) (λb hb=>?_)
    ·rw[hσ]at hy;by_cases hj:j=id
     ·subst hj;rw[qn rfl]at hy;simp only[zI]at hy;subst hy;exact .inl ub
     grind
    ·have:=zq.heap.tags b (λh=>hb (Uh.2 h));simp_all
   ·refine⟨rfl,rfl,rfl,jq _,by simp_all,λb _ hb=>⟨gB b (λhe=>?_),?_⟩⟩
    ·grind
    ·rcases hb with hb|hb
     ·rw[hb];exact Uh.2 hb
     ·rw[hb];exact M1.2 hb
   ·intro m hm;have LN:m≠id:=by intro he;subst he;have:=hm.z6;grind
    have hmf:some m≠fr:=λhc=>(Fb m hc).2.2 hm.z6
    refine⟨by rw[hσ,qP LN,LL m hmf];exact hm.z6,λb q hb=>?_,λb hb=>?_,λj av hj=>hm.zy j av (by rw[<-BU];exact hj),λj av hj=>?_⟩
    ·simp only[gE]at hb;split at hb
     ·rename_i i' q' hg';split at hb
      ·grind
      ·exact hm.row b q (by grind)
     grind
    ·simp only[gE]at hb;split at hb
     ·grind
     ·exact hm.box b hb
    ·rw[hσ]at hj;split at hj
     ·grind
     ·by_cases hjf:some j=fr
      ·grind
      ·rw[LL j hjf]at hj;exact hm.cells j av hj
 grind
open Classical in
noncomputable def Zn(g:z8)(id:Nat)(p:Path)(m:Nat):z8 where
 tag:=λb=>if g.tag b=.row id p then .row m [] else g.tag b
 sv:=λi q=>if i=m then g.sv id p else g.sv i q
 qY:=g.qY
theorem Ia{n:Nat}{a:Act}{id base:Nat}{t:Ty}{l:List t.den}{e i:Nat}{h0 h1:Option PB}{p:Path}{v:Ty}{l1:List v.den}(zq:zP n g w a σ)(hf:zu g σ base)(ho:σ.z6 id=some (.nest t l e i h0))
  (qU:v.zW=true) (wJ:zM w g (some (id,p)) (.sl true v) l1 [g.sv id p]) (Q0:base≠id->zS w g w (Zn g id p base)->∀z6,qz w (Zn g id p base) z6 id (.nest t l e i h1)) :
  let g':=Zn g id p base;let σ':=(σ.setObj id (.nest t l e i h1)).setObj base (.row v l1 0)
  zP n g' w a σ'/\Ext w g w g'/\(∀m,m≠base->zu g σ m->zu g' σ' m)/\g'.sv base []=g.sv id p/\zS w g w g':=by
 intro g' σ';have ztp:base≠id:=by intro he;subst he;have:=hf.z6;grind
 have CN:∀b,g.tag b≠.row id p->g'.tag b=g.tag b:=λb hb=>by grind[Zn]
 have yU:∀j q,j≠base->g'.sv j q=g.sv j q:=λj q hj=>by grind[Zn]
 have gU:zS w g w g':=⟨λb hb=>⟨by grind,rfl⟩⟩;have pj:∀j,j≠id->j≠base->Qr w g w g' j:=by
  intro j hj hjb;refine⟨⟨λq=>yU j _ hjb,λq b hb=>⟨?_,rfl⟩⟩,rfl,λhb=>⟨?_,rfl⟩⟩
  all_goals grind
 have hσ:∀j,σ'.z6 j=if j=base then some (.row v l1 0) else if j=id then some (.nest t l e i h1) else σ.z6 j:=by
  intro j;by_cases hj:j=base
  ·subst hj;simp[σ',St.setObj,zD]
  ·simp only[σ',St.setObj,qP hj]
   grind[zm,zD]
 have u4:∀j,j≠base->qu g g' j (σ.z6 j) (σ'.z6 j):=by
  intro j hj;rw[hσ,qP hj];by_cases hj2:j=id
  ·subst hj2;rw[qn rfl];exact .inr (.inr (.inr (.inr ⟨t,l,l,e,e,i,i,h0,h1,ho,rfl,jq _,jq _,λ_=>yU _ _ hj,λ_ _=>yU _ _ hj⟩)))
  ·rw[qP hj2];exact qu.same (pj j hj2 hj)
 have q0q:g'.sv base []=g.sv id p:=by simp[g',Zn]
 refine⟨?_,⟨rfl,rfl,rfl,jq _,jq _,λb _ hb=>⟨rfl,CN b (by grind)⟩⟩,λm hm wX=>?_,q0q,gU⟩
 ·refine zq.step (m:=base) gU rfl (.inl hf) u4 (λj y hy=>?_) (λb hb=>?_)
  ·rw[hσ]at hy;by_cases hj:j=base
   ·subst hj;rw[qn rfl]at hy;simp only[zI]at hy;subst hy;left;refine⟨qU,?_⟩;obtain⟨ad,cap,Zw,zeh,h1,h2,h3⟩:=wJ;refine⟨ad,cap,by grind,by grind,h1,h2,?_⟩;rcases h3 with h3|⟨b,of,cc,e3,ha,zhv,OV,hs,vw⟩
    ·grind
    ·exact .inr ⟨b,of,cc,e3,ha,by grind[Zn],OV,hs,λi hi=>zM.yy (o:=none) qU ((zM.yy (o':=none) qU (vw i hi)).kept gU)⟩
   grind
  ·by_cases pX:g.tag b=.row id p
   ·exact zq.heap.tags b (by grind)
   ·rw[CN b pX]at hb;exact zq.heap.tags b hb
 ·have LN:m≠id:=by intro he;subst he;have:=wX.z6;grind
  refine⟨by rw[hσ,qP hm,qP LN];exact wX.z6,λb q hb=>?_,λb hb=>?_,wX.zy,λj av hj=>?_⟩
  ·by_cases pX:g.tag b=.row id p
   ·grind[Zn]
   ·rw[CN b pX]at hb;exact wX.row b q hb
  ·by_cases pX:g.tag b=.row id p
   ·grind[Zn]
   ·rw[CN b pX]at hb;exact wX.box b hb
  ·rw[hσ]at hj;split at hj
   ·grind
   ·split at hj
    ·grind
    ·exact wX.cells j av hj
theorem zkj{n:Nat}{a:Act}{id base:Nat}{t:Ty}{l:List t.den}{e i:Nat}{p:Path}{v:Ty}{l1:List v.den}(zq:zP n g w a σ)(hf:zu g σ base)(ho:σ.z6 id=some (.nest t l e i none))
  (qU:v.zW=true) (wM:F0 t p=some v) (pP:∀(R':Type) (k':(u:Ty)->u.den->Option R'),zR (.sl true t) l p k'=k' (.sl true v) l1) :
  let g':=Zn g id p base;let σ':=(σ.setObj id (.nest t l e i (some (.one p)))).setObj base (.row v l1 0)
  zP n g' w a σ'/\Ext w g w g'/\(∀m,m≠base->zu g σ m->zu g' σ' m)/\g'.sv base []=g.sv id p/\zS w g w g':=by
 have zg:zM w g (some (id,[])) (.sl true t) l [g.sv id []]:=zq.heap.z6 id _ ho;obtain⟨⟨⟨bk0,o0,OS,zei⟩,v',b0,off,c,ee,pre,z7e,gX,ze,xN,zZ,jH,z7b⟩,wJ⟩:=WO zg wM pP;refine Ia zq hf ho qU wJ λztp gU z6=>?_
 have CN:∀b,g.tag b≠.row id p->(Zn g id p base).tag b=g.tag b:=λb hb=>by grind[Zn]
 have yU:∀q,(Zn g id p base).sv id q=g.sv id q:=λq=>by grind[Zn]
 have hnp:∀q,¬p <+: q->q≠p:=λq hq he=>hq (by grind)
 refine⟨⟨bk0,o0,OS,by grind⟩,v',b0,off,c,ee,pre,z7e,by grind[vY],?_,xN,zZ,jH,λw2 g2 l3 x hn WY Ov R f r wm=>?_⟩
 ·grind
 ·refine z7b w2 g2 l3 x ⟨⟨λb hb=>?_⟩,λq hq=>(hn.sv q hq).trans (yU q),λq b hb hq=>?_⟩ WY Ov f r wm
  ·exact hn.ro.qY b (gU.qY b hb).1
  ·have:(Zn g id p base).tag b=.row id q:=by
    grind
   exact hn.qY q b this hq
theorem Rf{z6:qQ}{id:Nat}{t:Ty}{l:List t.den}{e i:Nat}{h0:Option PB}{d:Int}(hob:qz w g z6 id (.nest t l e i h0))(hl:Rh h0=some d)(va:l≠[]):TK w g id t l d:=by
 match h0,hl,hob with
 |none,_,hob=>
  obtain⟨a,cap,_,yU,h1,h2,h3⟩:=(show zM w g (some (id,[])) (.sl true t) l [g.sv id []] from hob);rcases h3 with⟨_,h3,_⟩|⟨b,off,c,e,rfl,h3,h4,h5,h6⟩
  ·grind
  ·exact⟨⟨b,off,cap,yU⟩,b,off,c,e,cap,yU,h1,h2,h3,h4,h5,λi hi _=>h6 i hi⟩
 |some (.low d'),hl,hob=>
  simp only[Rh,zI]at hl
  subst hl;exact hob
 |some (.one p),hl,_=>grind[Rh]
theorem NQ{n:Nat}{a:Act}{m:Nat}{av:z7}{v:Value}{k:z7->St->Option R}{r:R}(zq:zP n g w a σ)(hf:zu g σ m)(ex:qy w g σ.z6 av v)(h:ZC σ m av k=some r):
  ∃av' σ' g',k av' σ'=some r/\zP n g' w a σ'/\Ext w g w g'/\(∀m',m'≠m->zu g σ m'->zu g' σ' m')/\qy w g' σ'.z6 av' v/\σ'.next=σ.next:=by
 unfold ZC at h;split at h
 ·rename_i id j ep;split at h
  ·rename_i v1 l e i h0 ho;split at h
   ·rename_i d hd
    cases hb:(Nat.beq i ep&&v1.zW) with
    |false=>grind
    |true=>
     rw[hb]at h;simp only[zA]at hb;have hi:=zE hb.1;subst hi;simp only[zJ]at h;obtain⟨hdj,h⟩:=qT h;have hdj:=X1 hdj;obtain⟨x,hx,h⟩:=Zh.1 h;obtain⟨j0,hi,rfl,yP⟩:=jt hx;have hjj:((j.toNat:Nat):Int)=j:=Z2o j0;obtain⟨_,b,off,c,ee,cap,h1,h2,h3,h4,h5,h6,h7⟩:=Rf (zq.heap.z6 id _ ho) hd (by grind);have vw:=h7 _ hi (by omega);rw[hjj]at vw;obtain⟨ad,cp,_,z14,k1,k2,k3⟩:=vw;have wJ:zM w g (some (id,[.idx j])) (.sl true v1) (l.get ⟨j.toNat,hi⟩) [g.sv id [.idx j]]:=⟨ad,cp,by rw[z14],z14,k1,k2,k3⟩;have Q0:m≠id->zS w g w (Zn g id [.idx j] m)->∀z6,qz w (Zn g id [.idx j] m) z6 id (.nest (.sl true v1) l e i (some (.low (j+1)))):=by
      intro ztp gU z6;have yU:∀q,(Zn g id [.idx j] m).sv id q=g.sv id q:=λq=>by grind[Zn]
      have CN:∀b,g.tag b≠.row id [.idx j]->(Zn g id [.idx j] m).tag b=g.tag b:=λb hb=>by grind[Zn]
      refine⟨⟨b,off,cap,by grind⟩,b,off,c,ee,cap,by grind,h2,h3,by grind,h5,h6,λi' wu I1=>?_⟩;refine zM.move gU (o:=some (id,[.idx i'])) (o':=some (id,[.idx i'])) ⟨λq=>yU _,λq b hb=>⟨?_,rfl⟩⟩ (h7 i' wu (by omega))
      grind
     obtain⟨q1,q2,q3,q4,_⟩:=Ia (h1:=some (.low (j+1))) zq hf ho hb.2 wJ Q0;refine⟨_,_,_,h,q1,q2,q3,?_,rfl⟩;simp only[qy]at ex⊢;obtain⟨cs,⟨v0,rfl,qN,hv⟩,je⟩:=ex;refine⟨_,⟨v0,rfl,qN,λt' l' e' Ka=>?_⟩,je⟩;simp only[St.setObj,zD,zI,Obj.row.injEq]at Ka;obtain⟨_,_,rfl⟩:=Ka;exact⟨jq _,λ_=>by rw[q4];exact((hv _ _ _ _ _ ho).2 rfl).1 rfl⟩
   grind
  grind
 grind[Ext.refl]
end
end Go.Kz
namespace Go.Kz
variable {R:Type}
section
variable {P:Program}{o:Oper}{a:Act}{w:World}{K:Act->World->Prop}{Q:Exit->Act->World->Prop}{c:Ctx}{σ:St}{g:z8}{k:St->Option R}{r:R}{base:Nat}{mo:Bool}
theorem OK{id:Nat}{t:Ty}{l:List t.den}{e i:Nat}{p:Path}{av:z7}{f:St->Option R}(h:Vx σ id t l e i p av f=some r):av.sk=.leaf:=by
 unfold Vx at h;split at h
 ·rename_i v _
  cases qU:v.zW with
  |false=>rw[qU]at h;simp at h
  |true=>
   rw[qU]at h;simp only[zJ]at h;unfold wF at h;split at h
   ·rfl
   ·rfl
   ·simp at h
 ·simp at h
theorem Cl{t:TypeId}{x y:Operand}{u:Ty}{bv:z7}{cs:List Value}{id:Nat}{p:Path}{ep:Nat}(ho:o.op=.store t x y)(vl:o.dst=none)(hT:qZ P u t)(zq:zP c.ntmps g w a σ)
  (ex:qy w g σ.z6 (.nv true id p ep) (a.eval x)) (zc:jO w g σ.z6 bv cs) (vo:(a.eval y).cells.toList=cs) (ZA:cs.length=u.size) (po:u.sk=bv.sk)
  (h:xF σ id p ep bv k=some r) (hK:vz c.ntmps k r g w σ base true K):o.wp P a w K Q:=by
 simp only[qy]at ex;obtain⟨cs0,⟨v0,rfl,qN,hv⟩,je⟩:=ex;have Ud:∀{t1:Ty}{l1:List t1.den}{e i:Nat}{h0:Option PB},σ.z6 id=some (.nest t1 l1 e i h0)->i=ep->
   (∀v,F0 t1 p=some v->(∃l2:List v.den,∀(R':Type) (k':(u:Ty)->u.den->Option R'),zR (.sl true t1) l1 p k'=k' (.sl true v) l2)->Hn w g id t1 l1 p)->
   Vx σ id t1 l1 e i p bv k=some r->o.wp P a w K Q:=by
  intro t1 l1 e i h0 zg hi z89 h;obtain⟨hp,b0,j6,gX,uZ⟩:=((hv _ _ _ _ _ zg).2 hi).2 rfl;have hl:=OK h;have hl1:cs.length=1:=by rw[zc.len,hl];rfl
  obtain⟨z,rfl⟩:=Z2f.1 hl1;obtain⟨cc,ee,pre,σ',g',hk,zZ,ze,jH,qG,qm,v7,hn⟩:=z68 zq zg z89 gX zc h;have zn:=xU (P:=P) (w:=w) (off:=j6) hT zZ vo ZA (by rw[<-ZA];simp;omega) zc.one;have xy:a.eval x=.pointer (some ⟨b0,j6,none⟩):=by rw[je];exact uZ
  refine wp_skip vl ?_ qG qm (λm _ wX=>v7 m wX) hn hk (λh=>Bool.noConfusion h) hK;simp[execOp,ho,xy,Instr.storeAt,Instr.sureAddr,zn]
 unfold xF at h;split at h
 ·rename_i t1 l1 e i zg
  cases hb:Nat.beq i ep with
  |false=>rw[hb]at h;simp at h
  |true=>
   rw[hb]at h;have hi:=zE hb;simp only[zJ]at h;have FO:zM w g (some (id,[])) (.sl true t1) l1 [g.sv id []]:=zq.heap.z6 id _ zg
   cases hs:(F0 t1 p).isSome with
   |true=>
    rw[hs]at h;simp only[zJ]at h
    exact Ud zg hi (λv wM ⟨l2,I0⟩=>(WO FO wM I0).1) h
   |false=>
    rw[hs]at h;simp only[zU]at h;split at h
    ·rename_i s p1 j q zsv;have D6:=Bx zsv;obtain⟨U,X,Y0,pP⟩:=Vs _ _ _ h;split at Y0
     ·rename_i v l2
      cases qU:v.zW with
      |false=>rw[qU]at Y0;simp at Y0
      |true=>
       rw[qU]at Y0;simp only[zJ]at Y0;obtain⟨u1,x1,Kc,Oq⟩:=Ll qU Y0;obtain⟨d,σ1,g1,hk3,h1,h2,h3,ZS⟩:=gS 20 zq.heap zc Oq Kc;have yM:=h3.st h1 zq;split at hk3
       ·rename_i t2 l3 e2 i2 CO;have pj:σ1.z6 id=σ.z6 id:=by
         rcases h3.z6 id with e|e
         ·exact e
         ·rw[e]at CO;simp at CO
        have CR:σ1.z6 id=some (.nest t1 l1 e i none):=pj.trans zg;obtain⟨hp,b0,j6,gX,uZ⟩:=((hv _ _ _ _ _ zg).2 hi).2 rfl;have zlz:place g1 id (.sl true t1) [] 0 0 (s::p1++.idx j::q)=some (b0,j6):=by
         rw[<-D6];exact(vY (g:=g) (g':=g1) (λp=>by rw[h3.sv])).trans gX
        obtain⟨l',cc,ee,hf,zZ,ze,ql,jk⟩:=O1 yM.heap CR qU pP ZS zlz hk3;have hur:u1.size=u.size:=by rw[<-ZS.len,ZA]
        have zn:=xU (P:=P) (w:=w) hT zZ vo ZA (by rw[<-hur];exact ql) zc.one;have BF:=jj (w:=w) (g:=g1) (id:=id) (b0:=b0) (zB cc.toList j6 cs).toArray (.inl ⟨_,ze⟩);have wS:=BF.st yM (o':=.nest t1 l' e i none) (.inr (.inr (.inr (.inr ⟨t1,l1,l',e,e,i,i,none,none,CR,rfl,jq _,jq _,λ_=>rfl,λ_ _=>rfl⟩)))) jk;have xy:a.eval x=.pointer (some ⟨b0,j6,none⟩):=by rw[je];exact uZ
        refine wp_skip vl ?_ wS (h3.ext.trans BF.ext) (λm _ wX=>?_) h2 hf (λh=>Bool.noConfusion h) hK
        ·simp[execOp,ho,xy,Instr.storeAt,Instr.sureAddr,zn]
        ·exact BF.fresh (by rw[CR];simp) (λy hy=>by simp at hy) (h3.fresh h1 wX)
       ·simp at hk3
     ·simp at Y0
    ·simp at h
 ·rename_i t1 l1 e i h0 zg
  cases hb:Nat.beq i ep with
  |false=>rw[hb]at h;simp at h
  |true=>
   rw[hb]at h;have hi:=zE hb;simp only[zJ]at h;obtain⟨hpe,hfk⟩:=qT h;obtain rfl:=Vc hpe;exact Ud zg hi (λv wM _=>zq.heap.z6 id _ zg) hfk
 ·simp at h
theorem z5e(wi:gH P c.tt){t:TypeId}{x y:Operand}(ho:o.op=.store t x y)(zq:zP c.ntmps g w a σ)(h:qq c σ base o k=some r)(hK:vz c.ntmps k r g w σ base true K):o.wp P a w K Q:=by
 simp only[qq,ho]at h;split at h
 ·rename_i av bv u hx hy hu vl
  cases hb:(bv.val&&u.sk.same bv.sk) with
  |false=>rw[hb]at h;simp at h
  |true=>
   rw[hb]at h;simp only[zJ]at h;simp only[zA]at hb;have po:=Sk.qJ hb.2;have hT:=wi _ _ hu;obtain⟨ex,efx⟩:=qH zq hx;obtain⟨ey,efy⟩:=qH zq hy;obtain⟨cs,zc,Vw,vo⟩:=jg hb.1 ey;have ZA:cs.length=u.size:=by rw[zc.len,<-po,Ty.zX]
   unfold JL at h;split at h
   ·rename_i id p ep;split at h
    ·simp at h
    ·rename_i s q;obtain⟨t0,l0,Ht⟩:=ZY h;simp only[qy]at ex;obtain⟨cs0,⟨v,rfl,qN,hv⟩,je⟩:=ex;obtain⟨hp,b0,j6,gX,uZ⟩:=(hv _ _ _ Ht).2 rfl;obtain⟨t1,l1,u1,e1,b,off,cc,ee,CR,qU,hk,Oq,gQ,wM,ze,zZ,ql,zN⟩:=xf zq.heap hp h;obtain⟨d,σ1,g1,Y0,h1,h2,h3,ZS⟩:=gS 20 zq.heap zc Oq hk;have yM:=h3.st h1 zq;split at Y0
     ·rename_i t2 l2 e2 CO
      cases XE:Nat.beq e2 ep with
      |false=>rw[XE]at Y0;simp at Y0
      |true=>
       rw[XE]at Y0;have Fs:=zE XE;subst Fs;simp only[zJ]at Y0;have pj:σ1.z6 id=σ.z6 id:=by
        rcases h3.z6 id with e|e
        ·exact e
        ·rw[e]at CO;simp at CO
       have zlz:place g1 id (.sl true t0) [] 0 0 (s::q)=some (b0,j6):=by
        exact(vY (g:=g) (g':=g1) (λp=>by rw[h3.sv])).trans gX
       have q0o:t2=t0:=by
        rw[pj,Ht]at CO;simp only[zI,Obj.row.injEq]at CO;exact CO.1.symm
       subst q0o
       cases s with
       |fst=>simp[yT]at Y0
       |snd=>simp[yT]at Y0
       |idx i=>
        obtain⟨l',cc',ee',hf,hll,Uu,zrx,Xw,jk⟩:=z08 yM.heap CO Oq ZS zlz Y0;have hur:u1.size=u.size:=by rw[<-ZS.len,ZA]
        have zn:=xU (P:=P) (w:=w) hT Uu vo ZA (by rw[<-hur];exact Xw) zc.one;have BF:=jj (w:=w) (g:=g1) (id:=id) (b0:=b0) (zB cc'.toList j6 cs).toArray (.inl ⟨[],zrx⟩);have wS:=BF.st yM (o':=.row t2 l' e2) (.inr (.inl ⟨t2,l2,l',e2,e2,CO,rfl,.inr ⟨rfl,hll,λ_=>rfl⟩⟩)) jk;have xy:a.eval x=.pointer (some ⟨b0,j6,none⟩):=by rw[je];exact uZ
        refine wp_skip vl ?_ wS (h3.ext.trans BF.ext) (λm _ wX=>?_) h2 hf (λh=>Bool.noConfusion h) hK
        ·simp[execOp,ho,xy,Instr.storeAt,Instr.sureAddr,zn]
        ·exact BF.fresh (by rw[CO];simp) (λy hy=>by simp at hy) (h3.fresh h1 wX)
     ·simp at Y0
   ·rename_i id p;split at h
    ·rename_i whole zg;obtain⟨hnt,h⟩:=Z5 h;obtain⟨cc,e,zZ,ze,hall⟩:=(zq.heap.z6 id _ zg).out hnt;obtain⟨old,off,hk,jH,QI,_⟩:=Zg hall h
     cases hbo:old.sk.same bv.sk with
     |false=>rw[hbo]at hk;simp at hk
     |true=>
      rw[hbo]at hk;simp only[zJ]at hk;have hos:=Sk.qJ hbo;rw[hos]at jH;obtain⟨En,Kc,hws,zed,gA⟩:=JT zc hall jH hk;simp only[qy]at ex;obtain⟨cs0,⟨v,rfl,qN,hv⟩,je⟩:=ex;obtain⟨K8,s,kL,uZ⟩:=hv _ zg;rw[jH]at kL;simp only[zI,p8]at kL;obtain⟨rfl,_⟩:=kL;have hle:=Sk.we jH;have ztu:=hall.len;rw[gT]at ztu;have GB:bv.sk.size=u.size:=by rw[<-po,Ty.zX]
      have zn:=xU (P:=P) (w:=w) (u:=u) (off:=off) hT zZ vo ZA (by omega) zc.one;have BF:=jj (w:=w) (g:=g) (id:=id) (b0:=g.qY id) (zB cc.toList off cs).toArray (.inr ze);have u4:∀i,qu g g i (σ.z6 i) ((σ.setObj id (.cell En)).z6 i):=by
       intro i;by_cases hi:i=id
       ·subst hi;simp only[St.setObj,zD];exact .inr (.inr (.inl ⟨whole,En,zg,rfl,hws,rfl⟩))
       ·simp only[St.setObj];rw[zm _ _ hi];exact qu.same (BF.same hi)
      have wS:=BF.st zq (o':=.cell En) (.inr (.inr (.inl ⟨whole,En,zg,rfl,hws,rfl⟩))) (by
       refine qz.mk ⟨(zB cc.toList off cs).toArray,e,setRow_heap w _ cc _ e _ zZ,ze,?_⟩;exact jO.frame BF.ro (λi _=>u4 i) zed)
      have xy:a.eval x=.pointer (some ⟨g.qY id,off,none⟩):=by rw[je];exact uZ
      refine wp_skip (σ:=σ) vl ?_ wS BF.ext (λm _ wX=>?_) rfl Kc (λh=>Bool.noConfusion h) hK
      ·simp[execOp,ho,xy,Instr.storeAt,Instr.sureAddr,zn]
      ·refine BF.fresh (by rw[zg];simp) (λy hy=>?_) wX;simp only[Obj.cell.injEq]at hy;subst hy;exact gA m (wX.cells _ _ zg) (efy m wX)
    ·simp at h
   ·rename_i id p ep;exact Cl ho vl hT zq ex zc vo ZA po h hK
   ·simp at h
 ·simp at h
end
end Go.Kz
namespace Go.Kz
variable {R:Type}
section
variable {P:Program}{o:Oper}{a:Act}{w:World}{K:Act->World->Prop}{Q:Exit->Act->World->Prop}{c:Ctx}{σ:St}{g:z8}{k:St->Option R}{r:R}{base:Nat}
structure wW (P:Program) (w:World) (g:z8) (t:Ty) (x:Value) (m:List t.den) (news:List Value):Prop where
 len:∀w':World,w'.heap=w.heap->(Builtin.lenOf x).run P w'=.ok m.length w'
 cells:∀w':World,w'.heap=w.heap->(Builtin.firstCells t.size m.length x).run P w'=.ok news.toArray w'
 pre:∀n,n<=m.length->∀w':World,w'.heap=w.heap->(Builtin.firstCells t.size n x).run P w'=.ok (news.take (n*t.size)).toArray w'
 length:news.length=m.length*t.size
 elts:∀(i:Nat)(h:i<m.length),zM w g none t (m.get ⟨i,h⟩) (qi news (i*t.size) t.size)
 one:∀v∈news,v.oneCell'=true
theorem Un{w w':World}(h:w'.heap=w.heap)(ad:Addr):w'.cell? ad=w.cell? ad:=by simp[World.cell?,h]
theorem wW.QW{t:Ty}{m:List t.den}{b off cap:Nat}{cc:Array Value}{e:TypeId}{fz:Nat×Nat}(hc:w.heap[b]? = some (.cells cc e fz))(hs:off+m.length*t.size<=cc.size)
  (vw:∀(i:Nat)(h:i<m.length),zM w g none t (m.get ⟨i,h⟩) (qi cc.toList (off+i*t.size) t.size)) :
  wW P w g t (.slice (some ⟨b,off,none⟩) m.length cap) m (qi cc.toList off (m.length*t.size)):=by
 have hlen:(qi cc.toList off (m.length*t.size)).length=m.length*t.size:=yO (by rw[gT];exact hs);refine⟨λw' _=>rfl,λw' PD=>?_,λn hn w' PD=>?_,hlen,λi hi=>?_,λv hv=>?_⟩
 ·refine run_firstCells_some (P:=P) w' t.size m.length ⟨b,off,none⟩ m.length cap _ hlen (λj v hv=>?_);rw[Addr.add_lit,Un PD,cell_of_row w b (off+j) cc e fz hc];simp only[qi,Z45,Z34]at hv;split at hv
  ·simpa using hv
  ·simp at hv
 ·have YL:n*t.size<=m.length*t.size:=wI _ hn;refine run_firstCells_some (P:=P) w' t.size n ⟨b,off,none⟩ m.length cap _ (by rw[CB,hlen];omega) (λj v hv=>?_);rw[Addr.add_lit,Un PD,cell_of_row w b (off+j) cc e fz hc];simp only[qi,Z45,Z34]at hv;split at hv
  ·split at hv
   ·simpa using hv
   ·simp at hv
  ·simp at hv
 ·have hmul:(i+1)*t.size<=m.length*t.size:=wI _ hi;rw[kK]at hmul;rw[uP _ _ _ _ _ (by omega)];exact vw i hi
 ·obtain⟨j,hj,rfl⟩:=Wl.1 hv;have gg:=hj;rw[hlen]at gg;have htz:0<t.size:=by
   rcases Z4q t.size with hz|hz
   ·rw[hz]at gg;omega
   ·exact hz
  have hi:j/t.size<m.length:=Z2g (by rw[DZ];omega);have h1:=(vw _ hi).one;refine h1 _ ?_;have hm:=Z23 j htz;have hdm:=Z3e j t.size;have hmul:(j/t.size+1)*t.size<=m.length*t.size:=wI _ hi;rw[kK]at hmul;refine Wl.2 ⟨j%t.size,?_,?_⟩
  ·rw[yO (by rw[gT];omega)];exact hm
  ·simp only[qi,Z40,Z4r];congr 1;rw[Z2e,DZ (j/t.size),hdm]
theorem wW.of_nil{t:Ty}{b:Option Addr}{cap:Nat}:wW P w g t (.slice b 0 cap) ([]:List t.den) []:=by
 have h0:∀w':World,(Builtin.firstCells t.size 0 (.slice b 0 cap)).run P w'=.ok #[] w':=λw'=>by
  cases b with
  |none=>simp[Builtin.firstCells]
  |some b=>simp[Builtin.firstCells,loadCells,loadCellsFrom]
 refine⟨λw' _=>rfl,λw' _=>h0 w',λn hn w' _=>?_,by simp,λi h=>by simp at h,by simp⟩;have:n=0:=by simpa using hn
 subst this;simpa using h0 w'
theorem Fw(w:World)(g:z8):zS w g w g:=⟨λ_ hb=>⟨hb,rfl⟩⟩
theorem wW.tree{k:Nat}{v:Value}{l:List (Rec k)}{news:List Value}:wW P w g (.tree k) v l news↔wW P w g (.pair (xq k) (xz k)) v (List.map (jR k) l) news:=by
 have hz:(Ty.tree k).size=(Ty.pair (xq k) (xz k)).size:=AF k;have hl:(List.map (jR k) l).length=List.length l:=J9 ..;have vw:∀(i:Nat) (h:i<List.length l) (h':i<(List.map (jR k) l).length) cs,zM w g none (.tree k) (List.get l ⟨i,h⟩) cs↔zM w g none (.pair (xq k) (xz k)) ((List.map (jR k) l).get ⟨i,h'⟩) cs:=λi h h' cs=>by
  rw[zM.Ks];simp
 constructor
 ·rintro⟨h1,h2,h3,h4,h5,h6⟩;refine⟨?_,?_,?_,?_,λi hi=>?_,h6⟩
  ·rw[hl];exact h1
  ·rw[hl,<-hz];exact h2
  ·rw[hl,<-hz];exact h3
  ·rw[hl,<-hz];exact h4
  ·have wu:i<List.length l:=by rw[<-hl];exact hi
   have:=(vw i wu hi _).1 (h5 i wu);rw[hz]at this;exact this
 ·rintro⟨h1,h2,h3,h4,h5,h6⟩;rw[hl]at h1 h2 h3 h4;rw[<-hz]at h2 h3 h4;refine⟨h1,h2,h3,h4,λi hi=>?_,h6⟩;have wu:i<(List.map (jR k) l).length:=by rw[hl];exact hi
  have:=(vw i hi wu _).2 (h5 i wu);rw[<-hz]at this;exact this
theorem KW{a b:Ty}{l:List a.den}{f:List b.den->Option R}{r:R}(h:kO (.sl false a) (.sl false b) l f=some r):∃m,f m=some r/\∀v news,wW P w g a v l news->wW P w g b v m news:=by
 unfold kO at h;split at h
 ·rename_i j x y l' k' h1 h2 h3 h4;simp only[Ty.sl.injEq,X3]at h1 h2;subst h1;subst h2;cases h3;cases h4;obtain⟨e,h⟩:=yz h;cases e;exact⟨_,h,λv news hr=>wW.tree.1 hr⟩
 ·rename_i x y j l' k' h1 h2 h3 h4;simp only[Ty.sl.injEq,X3]at h1 h2;subst h1;subst h2;cases h3;cases h4;obtain⟨e,h⟩:=yz h;cases e;refine⟨_,h,λv news hr=>wW.tree.2 ?_⟩;rw[Bj];exact hr
 ·obtain⟨e,h⟩:=yz h;cases e;exact⟨_,h,λ_ _ hr=>hr⟩
theorem VI(hh:yH w g σ.z6){x:z7}{v:Value}{t:Ty}{f:List t.den->Option R}(ht:t.zW=true)(hx:qy w g σ.z6 x v)(h:tailD σ t x f=some r)(hval:x.val=true):
  ∃m news,f m=some r/\wW P w g t v m news:=by
 cases x with
 |data t' d=>
  simp only[tailD,asData]at h;simp only[qy]at hx;obtain⟨cs,⟨qU,zN⟩,hv⟩:=hx;have po:=Vu h;obtain⟨d,h,_,hF⟩:=vr h qU;obtain⟨b,cap,rfl,h1,h2,h3⟩:=hF _ _ _ zN;simp only[z7.isAgg,z7.sk,po,Ty.sk]at hv;have je:v=.slice b (List.length d) cap:=hv;subst je;refine⟨d,?_⟩;by_cases hn:d=[]
  ·subst hn;exact⟨[],h,wW.of_nil⟩
  ·obtain⟨bk,off,cc,e,fz,rfl,ze,zZ,ql,vw⟩:=h3 hn
   exact⟨_,h,wW.QW zZ ql vw⟩
 |za=>
  simp only[tailD,asData]at h;have hv:=Jq.1 hx;subst hv;have h':f []=some r:=by
   have:(Ty.sl false t).zW=true:=by simp[Ty.zW,ht]
   rw[this]at h;exact h
  exact⟨[],[],h',wW.of_nil⟩
 |ref id p ep=>
  simp only[tailD,asData]at h;obtain⟨t',l,zg,rfl,qU,h⟩:=kR hh h;rw[VF]at h;replace h:=KW (P:=P) (w:=w) (g:=g) (a:=t'.ro) h;obtain⟨m,h,hT⟩:=h;simp only[qy]at hx;obtain⟨cs,⟨x,rfl,_,hv⟩,je⟩:=hx;have e1:=(hv _ _ _ zg).2 rfl;obtain⟨b,cap,_,yU,h1,h2,h3⟩:=(hh.z6 _ _ zg).2;have uZ:v=.slice b l.length cap:=by rw[<-yU,<-e1];exact je
  subst uZ;rcases h3 with⟨rfl,hl,rfl⟩|⟨bk,off,cc,e,rfl,ze,zZ,ql,vw⟩
  ·subst hl;exact⟨m,[],h,hT _ _ wW.of_nil⟩
  ·refine⟨m,qi cc.toList off (l.length*t'.ro.size),h,hT _ _ ?_⟩;have BA:(l.map (Ty.kU t')).length=l.length:=by simp
   have JX:l.length*t'.size<=cap*t'.size:=wI _ h1;have:=wW.QW (P:=P) (w:=w) (g:=g) (t:=t'.ro) (m:=l.map (Ty.kU t')) (b:=bk) (off:=off) (cap:=cap) zZ (by rw[BA,Ty.qo];omega) (λi hi=>by
    have wu:i<l.length:=by rw[BA]at hi;exact hi
    have hf:=zM.freeze (Fw w g) (o:=none) trivial (zM.yy (o':=none) qU (vw i wu));simp only[R3,R0,Ty.qo]at hf⊢;exact hf)
   rw[BA]at this
   exact this
 |view id p ep av bv=>
  simp only[tailD,asData]at h;obtain⟨t',l,zg,rfl,qU,h⟩:=kR hh h;rw[VF]at h;replace h:=KW (P:=P) (w:=w) (g:=g) (a:=t'.ro) h;obtain⟨m,h,hT⟩:=h;simp only[qy]at hx;obtain⟨cs,⟨x,rfl,_,hv⟩,je⟩:=hx;obtain⟨_,h0,Kh,Vo,e1⟩:=(hv _ _ _ zg).2 rfl;obtain⟨b,cap,_,yU,h1,h2,h3⟩:=(hh.z6 _ _ zg).2;have uZ:v=j5 (.slice b l.length cap) t'.size av bv:=by rw[<-yU,<-e1];exact je
  have Oj:=Z0 l av bv h0 Kh Vo;have BA:((sub l av bv).map (Ty.kU t')).length=(bv-av).toNat:=by rw[J9,Oj];omega
  by_cases hz:(bv-av).toNat=0
  ·have z7v:(sub l av bv).map (Ty.kU t')=[]:=Z3h (BA.trans hz);refine⟨m,[],h,hT _ _ ?_⟩;rw[z7v,uZ];simp only[j5,hz];exact wW.of_nil
  ·rcases h3 with⟨rfl,hl,rfl⟩|⟨bk,off,cc,e,rfl,ze,zZ,ql,vw⟩
   ·rw[hl]at Vo;simp at Vo;omega
   ·refine⟨m,qi cc.toList (off+av.toNat*t'.size) ((bv-av).toNat*t'.ro.size),h,hT _ _ ?_⟩;have JX:(av.toNat+(bv-av).toNat)*t'.size<=cap*t'.size:=wI _ (by omega);rw[kK]at JX;have:=wW.QW (P:=P) (w:=w) (g:=g) (t:=t'.ro) (m:=(sub l av bv).map (Ty.kU t')) (b:=bk) (off:=off+av.toNat*t'.size) (cap:=cap-av.toNat) zZ (by rw[BA,Ty.qo];omega) (λi hi=>by
     have XD:i<(sub l av bv).length:=by simpa using hi
     have Eu:av.toNat+i<l.length:=by omega
     have hf:=zM.freeze (Fw w g) (o:=none) trivial (zM.yy (o':=none) qU (vw _ Eu));have hg:=Kt l av bv i XD Eu;rw[R3]at hg;rw[R3,R0,hg,Ty.qo];have e3:off+av.toNat*t'.size+i*t'.size=off+(av.toNat+i)*t'.size:=by rw[kK];omega
     rw[e3];exact hf)
    rw[BA]at this;rw[uZ];simp only[j5];rw[qP (by omega)];simp only[Z24,Addr.add_lit]
    exact this
 |agg c=>cases c<;>simp[z7.val]at hval<;>simp[tailD,asData]at h
 |nv pt id p ep=>
  cases pt with
  |true=>simp[tailD,asData]at h
  |false=>
   simp only[tailD]at h;obtain⟨_,_,_,_,_,t',l,zg,Fo,zN,h,_,_⟩:=Gv hh h
   cases qU:t'.zW with
   |false=>rw[qU]at h;simp at h
   |true=>
   rw[qU,zJ]at h;rw[VF]at h;replace h:=KW (P:=P) (w:=w) (g:=g) (a:=t'.ro) h;obtain⟨m,h,hT⟩:=h;simp only[qy]at hx;obtain⟨cs,⟨x,rfl,_,hv⟩,je⟩:=hx;have e1:=((hv _ _ _ _ _ zg).2 Fo).1 rfl;obtain⟨b,cap,_,yU,h1,h2,h3⟩:=zN;have uZ:v=.slice b l.length cap:=by rw[<-yU,<-e1];exact je
   subst uZ;rcases h3 with⟨rfl,hl,rfl⟩|⟨bk,off,cc,e,rfl,ze,zZ,ql,vw⟩
   ·subst hl;exact⟨m,[],h,hT _ _ wW.of_nil⟩
   ·refine⟨m,qi cc.toList off (l.length*t'.ro.size),h,hT _ _ ?_⟩;have BA:(l.map (Ty.kU t')).length=l.length:=by simp
    have JX:l.length*t'.size<=cap*t'.size:=wI _ h1;have:=wW.QW (P:=P) (w:=w) (g:=g) (t:=t'.ro) (m:=l.map (Ty.kU t')) (b:=bk) (off:=off) (cap:=cap) zZ (by rw[BA,Ty.qo];omega) (λi hi=>by
     have wu:i<l.length:=by rw[BA]at hi;exact hi
     have hf:=zM.freeze (Fw w g) (o:=none) trivial (zM.yy (o':=none) qU (vw i wu));simp only[R3,R0,Ty.qo]at hf⊢;exact hf)
    rw[BA]at this
    exact this
 |_=>simp[tailD,asData]at h
theorem x9{T E:TypeId}{t u:Ty}(qB:P.underlying T=some (.slice E))(hE:j8 P E u)(Vn:u.size=t.size){ty:TypeId}{b off n cap:Nat}{cc:Array Value}{e:TypeId}{x:Value}{m:List t.den}{news:List Value}
  (hc:w.heap[b]? = some (.cells cc e (0,0))) (ht:wW P w g t x m news) (pv:n+m.length<=cap) (ql:off+cap*t.size<=cc.size) :
  (Builtin.append_ #[T,T] ty #[.slice (some ⟨b,off,none⟩) n cap,x]).run P w=.ok (.slice (some ⟨b,off,none⟩) (n+m.length) cap) (w.setRow b (zB cc.toList (off+n*t.size) news).toArray):=by
 have hs:=hE.sizeOf w;rw[Vn]at hs;have h1:=ht.len w rfl;have h2:=ht.cells w rfl;have hmul:(n+m.length)*t.size<=cap*t.size:=wI _ pv;rw[kK]at hmul;have zq:=run_storeCells_at P b (off+n*t.size) e news 0 cc w hc (by rw[ht.length];omega) ht.one;simp only[Ot]at zq;simp[Builtin.append_,run_underlying qB,hs,h1,pv,h2,Addr.add_lit,zq,zB]
theorem x7{T E:TypeId}{t u:Ty}(qB:P.underlying T=some (.slice E))(hE:j8 P E u)(Vn:u.size=t.size){ty:TypeId}{x:Value}{news:List Value}(ht:wW P w g t x ([]:List t.den) news):
  (Builtin.append_ #[T,T] ty #[.slice none 0 0,x]).run P w=.ok (.slice none 0 0) w:=by
 have hs:=hE.sizeOf w;rw[Vn]at hs;have h1:=ht.len w rfl;have h2:=ht.cells w rfl;simp only[Z1y]at h1 h2;simp[Builtin.append_,run_underlying qB,hs,h1,h2]
theorem x8{T E:TypeId}{t u:Ty}(qB:P.underlying T=some (.slice E))(hE:j8 P E u)(Vn:u.size=t.size){ty:TypeId}{b:Option Addr}{n cap:Nat}{x:Value}{m:List t.den}{news pK:List Value}
  (ht:wW P w g t x m news) (pv:cap<n+m.length) (Dq:n+m.length<=4294967296)
  (hold:∀w':World,w'.heap=w.heap->(Builtin.firstCells t.size n (.slice b n cap)).run P w'=.ok pK.toArray w') :
  ∃zs,(Builtin.append_ #[T,T] ty #[.slice b n cap,x]).run P w=.ok (.slice (some ⟨w.heap.size,0,none⟩) (n+m.length) (grownCap w (n+m.length) cap E))
   (w.drew.alloc (.cells (pK.toArray++news.toArray++zs) E))/\zs.size=(grownCap w (n+m.length) cap E-(n+m.length))*t.size:=by
 obtain⟨i,z,XD,Eu,Fl,hi4,hi5,hi6⟩:=hE.info;rw[Vn]at Eu;have h1:=ht.len w rfl;have h2:=ht.cells w.drew rfl;have h3:=hold w.drew rfl;have hn:¬(n+m.length<=cap):=by omega
 have N5:(n+m.length)*i.bytes<=4294967296*32768:=Z25 Dq Fl;have hfit:=growslice_fits (need:=n+m.length) (old:=cap) (bytes:=i.bytes) pv (by omega);have q35:¬(281474976710656<Builtin.nextslicecap (n+m.length) cap*i.bytes):=by omega
 have q33:¬(9223372036854775807<((n:Int)+(m.length:Int))):=by omega
 refine⟨Builtin.zeroCells z.cells (grownCap w (n+m.length) cap E-(n+m.length)),?_,?_⟩
 ·rw[<-Eu]at h2 h3;simp[Builtin.append_,run_underlying qB,Go.sizeOf,typeInfo,zeroValue,XD,hi4,h1,hn,q33,q35,Question.forced,h2,h3,newRow,grownCap];rw[show(pK++news).toArray=pK.toArray++news.toArray from by simp,Array.append_assoc]
 ·rw[size_zeroCells,<-gT,hi5,qD,Vn]
end
end Go.Kz
namespace Go.Kz
variable {R:Type}
theorem pF(l:List Value)(off:Nat)(x:List Value)(j n:Nat)(h:j+n<=x.length)(hl:off+x.length<=l.length):qi (zB l off x) (off+j) n=qi x j n:=by
 rw[<-uP _ off x.length j n h,x5 _ _ _ hl]
section
variable {w:World}{g:z8}{σ:St}{o:Obj}{m:Nat}{tg:Tag}{v:Value}
theorem zP.pf{n:Nat}{a:Act}{w':World}{g':z8}{id:Nat}(zq:zP n g w a σ)(hr:zS w g w' g')(hs:∀i,i≠id->Qr w g w' g' i)
  (hk:qu g g' id (σ.z6 id) (some o)\/zu g σ id) (zg:qz w' g' (σ.setObj id o).z6 id o) (ht:∀b,g'.tag b≠.qw->b<w'.heap.size):zP n g' w' a (σ.setObj id o):=by
 have zm1:∀i,i≠id->qu g g' i (σ.z6 i) ((σ.setObj id o).z6 i):=by
  intro i hi;simp only[St.setObj];rw[zm _ _ hi];exact qu.same (hs i hi)
 have hme:∀i,(zu g σ id->i≠id)->qu g g' i (σ.z6 i) ((σ.setObj id o).z6 i):=by
  intro i hi;by_cases he:i=id
  ·subst he;rcases hk with hk|hk
   ·simp only[St.setObj,zD];exact hk
   ·exact absurd rfl (hi hk)
  ·exact zm1 i he
 refine⟨λi av hi=>?_,⟨λi x hx=>?_,ht⟩,zq.size,zq.defers,zq.known.kept hr⟩
 ·obtain⟨u,hu,zc⟩:=zq.zy i av hi;refine⟨u,hu,qy.frame hr (λj hj=>hme j (λhf he=>?_)) zc⟩;subst he;exact hf.zy i av hi hj
 ·by_cases hi:i=id
  ·subst hi;simp only[St.setObj,zD,zI]at hx;subst hx;exact zg
  ·have QF:σ.z6 i=some x:=by simpa[St.setObj,zm _ _ hi]using hx
   refine qz.frame hr (hs i hi) (λy hy j hj=>hme j (λhf he=>?_)) (zq.heap.z6 i x QF);subst he;subst hy;exact hf.cells i y QF hj
theorem zu.pf{g':z8}{id:Nat}(ht:∀b,g'.tag b=g.tag b\/∃p,g'.tag b=.row id p)(hm:m≠id)(ho:∀y,o≠.cell y)(hf:zu g σ m):zu g' (σ.setObj id o) m:=by
 refine⟨by simp only[St.setObj];rw[zm _ _ hm];exact hf.z6,λb p hb=>?_,λb hb=>?_,hf.zy,λi av hi=>?_⟩
 ·rcases ht b with h|⟨q,h⟩
  ·rw[h]at hb;exact hf.row b p hb
  ·rw[h]at hb;simp only[Tag.row.injEq]at hb;exact hm hb.1.symm
 ·rcases ht b with h|⟨q,h⟩
  ·rw[h]at hb;exact hf.box b hb
  ·rw[h]at hb;simp at hb
 ·by_cases he:i=id
  ·subst he;simp only[St.setObj,zD,zI]at hi;exact absurd hi (ho av)
  ·simp only[St.setObj]at hi;rw[zm _ _ he]at hi;exact hf.cells i av hi
def pn(g:z8)(id:Nat)(v:Value):z8:={ g with sv:=λi p=>if i=id then v else g.sv i p }
theorem JI{id i:Nat}(h:i≠id):Qr w g w (pn g id v) i:=
 ⟨⟨λq=>by simp[pn,h],λ_ b hb=>⟨hb,rfl⟩⟩,rfl,λhb=>⟨hb,rfl⟩⟩
theorem zP.YM{n:Nat}{a:Act}{w':World}(h:w'.heap=w.heap)(zq:zP n g w a σ):zP n g w' a σ:=by
 have hr:zS w g w' g:=⟨λb hb=>⟨hb,by rw[h]⟩⟩;have hs:∀id,Qr w g w' g id:=λid=>⟨⟨λ_=>rfl,λ_ b hb=>⟨hb,by rw[h]⟩⟩,rfl,λhb=>⟨hb,by rw[h]⟩⟩
 have hk:∀id,qu g g id (σ.z6 id) (σ.z6 id):=λid=>qu.refl g id _
 refine⟨λi av hi=>?_,⟨λid x hx=>?_,λb hb=>?_⟩,zq.size,zq.defers,zq.known.kept hr⟩
 ·obtain⟨u,hu,zc⟩:=zq.zy i av hi;exact⟨u,hu,qy.frame hr (λid _=>hk id) zc⟩
 ·exact qz.frame hr (hs id) (λ_ _ vT _=>hk vT) (zq.heap.z6 id x hx)
 ·rw[h];exact zq.heap.tags b hb
theorem Ext.YM{w':World}(h:w'.heap=w.heap)(ho:w'.os=w.os)(ht:w'.tape=w.tape)(hp:w'.output=w.output)(hd:w.drawn<=w'.drawn):Ext w g w' g:=
 ⟨ho,ht,hp,hd,by rw[h];exact jq _,λb _ _=>⟨by rw[h],rfl⟩⟩
end
section
variable {P:Program}{o:Oper}{a:Act}{w:World}{K:Act->World->Prop}{Q:Exit->Act->World->Prop}{c:Ctx}{σ:St}{g:z8}{k:St->Option R}{r:R}{base:Nat}{mo:Bool}
theorem jL{σ':St}{g':z8}{w':World}{av:z7}{v:Value}(zn:(execOp a.eval o).run P w=.ok (.value v) w')(zq:zP c.ntmps g' w' a σ')(qm:Ext w g w' g')
  (v7:∀m,(m<base\/base+8<=m)->zu g σ m->zu g' σ' m/\m∉av.ids) (hn:σ'.next=σ.next) (hv:qy w' g' σ'.z6 av v)
  (h:σ'.qM c o.dst av k=some r) (w8:mo=false->vq w w') (hK:vz c.ntmps k r g w σ base mo K):o.wp P a w K Q:=by
 unfold Oper.wp;rw[zn,Oper.upon_value];rcases uw h with⟨hd,hk⟩|⟨i,hd,hi,hk⟩
 ·rw[hd];exact hK σ' g' a w' hk zq qm (λm hm hf=>(v7 m hm hf).1) hn w8
 ·rw[hd];exact hK _ g' _ w' hk (zq.put hi hv) qm (λm hm hf=>(v7 m hm hf).1.set i (v7 m hm hf).2) hn w8
theorem xR{z6:qQ}{u:Ty}{l:List u.den}{v:Value}{ep id:Nat}(ho:z6 id=some (.row u l ep))(yU:v=g.sv id [])(qN:v.oneCell'=true):
  qy w g z6 (.ref id [] ep) v:=by
 simp only[qy];refine⟨_,⟨v,rfl,qN,λt l' e hx=>?_⟩,rfl⟩;rw[ho]at hx;simp only[zI,Obj.row.injEq]at hx;obtain⟨_,_,rfl⟩:=hx;exact⟨jq _,λ_=>yU⟩
theorem uy{t:Ty}{x:z7}{f:List t.den->Option R}(h:Jp σ t x f=some r):t.zW=true/\x.val=true/\tailD σ t x f=some r:=by
 unfold Jp at h
 cases hb:(t.zW&&x.val) with
 |false=>rw[hb]at h;simp at h
 |true=>
  rw[hb]at h;simp only[zA]at hb;exact⟨hb.1,hb.2,h⟩
theorem IX{t:Ty}{l m:List t.den}{b off cap:Nat}{cc:Array Value}{news:List Value}{e:TypeId}{x:Value}{id:Nat}{w:World}{g g':z8}
  (qU:t.zW=true) (yI:wW P w g t x m news) (pv:l.length+m.length<=cap) (ql:off+cap*t.size<=cc.size)
  (zZ:w.heap[b]? = some (.cells cc e (0,0)))
  (vw:∀(i:Nat)(h:i<l.length),zM w g none t (l.get ⟨i,h⟩) (qi cc.toList (off+i*t.size) t.size))
  (hr:zS w g (w.setRow b (zB cc.toList (off+l.length*t.size) news).toArray) g') (i:Nat) (h:i<(l++m).length) :
  zM (w.setRow b (zB cc.toList (off+l.length*t.size) news).toArray) g' none t ((l++m).get ⟨i,h⟩) (qi (zB cc.toList (off+l.length*t.size) news) (off+i*t.size) t.size):=by
 have hcc:cc.toList.length=cc.size:=gT;have hmul:(l.length+m.length)*t.size<=cap*t.size:=wI _ pv;rw[kK]at hmul;have LM:=yI.length;have hi:i<l.length+m.length:=by simpa using h
 by_cases N7:i<l.length
 ·have h3:(i+1)*t.size<=l.length*t.size:=wI _ N7;rw[kK]at h3;rw[j9 _ _ _ _ _ (by omega) (by rw[hcc];omega)];have:=(vw i N7).kept hr;simp only[R3]at this⊢;rw[Z5l N7];exact this
 ·obtain⟨j,rfl⟩:∃j,i=l.length+j:=⟨i-l.length,by omega⟩;have hj:j<m.length:=by omega
  have h3:(j+1)*t.size<=m.length*t.size:=wI _ hj;rw[kK]at h3;have e1:off+(l.length+j)*t.size=(off+l.length*t.size)+j*t.size:=by rw[kK];omega
  rw[e1,pF _ _ _ _ _ (by omega) (by omega)];have:=(yI.elts j hj).kept hr;simp only[R3]at this⊢;rw[List.getElem_append_right (by omega)];simpa using this
theorem z09{t:Ty}{l m:List t.den}{pK news:List Value}{zs:Array Value}{x:Value}{w w':World}{g g':z8}
  (yI:wW P w g t x m news) (ho:pK.length=l.length*t.size)
  (vw:∀(i:Nat)(h:i<l.length),zM w g none t (l.get ⟨i,h⟩) (qi pK (i*t.size) t.size)) (hr:zS w g w' g') (i:Nat) (h:i<(l++m).length) :
  zM w' g' none t ((l++m).get ⟨i,h⟩) (qi (pK.toArray++news.toArray++zs).toList (i*t.size) t.size):=by
 have LM:=yI.length;have hi:i<l.length+m.length:=by simpa using h
 have e0:(pK.toArray++news.toArray++zs).toList=pK++(news++zs.toList):=by simp
 rw[e0];by_cases N7:i<l.length
 ·have h3:(i+1)*t.size<=l.length*t.size:=wI _ N7;rw[kK]at h3;rw[yJ _ _ _ _ (by omega)];have:=(vw i N7).kept hr;simp only[R3]at this⊢;rw[Z5l N7];exact this
 ·obtain⟨j,rfl⟩:∃j,i=l.length+j:=⟨i-l.length,by omega⟩;have hj:j<m.length:=by omega
  have h3:(j+1)*t.size<=m.length*t.size:=wI _ hj;rw[kK]at h3;rw[kK,yB _ _ _ _ _ ho.symm,yJ _ _ _ _ (by omega)];have:=(yI.elts j hj).kept hr;simp only[R3]at this⊢;rw[List.getElem_append_right (by omega)];simpa using this
theorem VU{T E:TypeId}{t u:Ty}(qB:P.underlying T=some (.slice E))(hE:j8 P E u)(Vn:u.size=t.size)(ht:∀b,g.tag b≠.qw->b<w.heap.size)(qU:t.zW=true)
  {ty:TypeId}{b:Option Addr}{cap:Nat}{l m:List t.den}{pK news:List Value}{x:Value} (hold:wW P w g t (.slice b l.length cap) l pK) (yI:wW P w g t x m news)
  (pv:cap<l.length+m.length) (Dq:l.length+m.length<=4294967296) (z6:qQ) (id ep:Nat) :
  ∃cells J3,(Builtin.append_ #[T,T] ty #[.slice b l.length cap,x]).run P w=.ok (.slice (some ⟨w.heap.size,0,none⟩) (l.length+m.length) J3) (w.drew.alloc (.cells cells E))/\
   qz (w.drew.alloc (.cells cells E)) (yx g w.heap.size id (.row id []) (.slice (some ⟨w.heap.size,0,none⟩) (l.length+m.length) J3)) z6 id (.row t (l++m) ep):=by
 obtain⟨zs,zn,D4⟩:=x8 (ty:=ty) qB hE Vn yI pv Dq (λw' PD=>hold.cells w' PD);refine⟨_,_,zn,?_⟩;have hlen:(l++m).length=l.length+m.length:=by simp
 have PE:=grownCap_ge w (l.length+m.length) cap E;have:=Fj (w:=w.drew) (g:=g) (base:=id) (u:=t) (l:=l++m) (cells:=pK.toArray++news.toArray++zs) (e:=E) (cap:=grownCap w (l.length+m.length) cap E) ht qU
  (by rw[hlen];exact PE) (grownCap_le_maxLen w (l.length+m.length) cap E (by unfold maxLen;omega))
  (by
   have h1:=hold.length;have h2:=yI.length;simp only[Array.size_append,Z3z,D4,h1,h2];rw[<-kK,<-kK];exact wI _ (by omega))
  (λi hi=>z09 yI hold.length hold.elts (w':=w.drew) (g':=g) ⟨λb hb=>⟨hb,rfl⟩⟩ i hi) z6 ep
 rw[hlen]at this;exact this
theorem jv{x y:Operand}{args:Array Operand}{ts:Array TypeId}{t:TypeId}{v:Value}{w':World}(ho:o.op=.call { callee:=.builtin .append,args:=args,argTypes:=ts })(ha:args.toList=[x,y])(ht:ts.toList=[t,t])
  (h:∀ty,(Builtin.append_ #[t,t] ty #[a.eval x,a.eval y]).run P w=.ok v w'):(execOp a.eval o).run P w=.ok (.value v) w':=by
 have e1:args=#[x,y]:=by apply Z22.1;simpa using ha
 have e2:ts=#[t,t]:=by apply Z22.1;simpa using ht
 subst e1;subst e2;simp[execOp,ho,resolve,invoke,builtin,h]
end
end Go.Kz
namespace Go.Kz
variable {R:Type}
section
variable {P:Program}{o:Oper}{a:Act}{w:World}{K:Act->World->Prop}{Q:Exit->Act->World->Prop}{c:Ctx}{σ:St}{g:z8}{k:St->Option R}{r:R}{base:Nat}{mo:Bool}
theorem Cy{m:Nat}{tg:Tag}{v:Value}(ht:∀b,g.tag b≠.qw->b<w.heap.size)(ob:Go.Obj):zS w g (w.drew.alloc ob) (yx g w.heap.size m tg v):=
 ⟨λb hb=>(uU (w:=w.drew) ht ob).qY b hb⟩
theorem KA{m:Nat}{tg:Tag}{v:Value}(ht:∀b,g.tag b≠.qw->b<w.heap.size)(ob:Go.Obj){id:Nat}(hid:id≠m):Qr w g (w.drew.alloc ob) (yx g w.heap.size m tg v) id:=
 let h:=QU (w:=w.drew) (g:=g) (m:=m) (tg:=tg) (v:=v) ht ob hid
 ⟨⟨h.row.sv,h.row.qY⟩,h.qY,h.box⟩
theorem UK{m:Nat}{tg:Tag}{v:Value}(ht:∀b,g.tag b≠.qw->b<w.heap.size)(ob:Go.Obj):Ext w g (w.drew.alloc ob) (yx g w.heap.size m tg v):=
 let h:=QX (w:=w.drew) (g:=g) (m:=m) (tg:=tg) (v:=v) ht ob
 ⟨h.os,h.tape,h.output,Z1o (Z1h _) h.drawn,h.size,h.vV⟩
theorem L0{id:Nat}{t:Ty}{l:List t.den}{e:Nat}(zg:qz w g σ.z6 id (.row t l e)):
  ∃b cap pK,g.sv id []=.slice b l.length cap/\l.length<=cap/\cap<=maxLen/\wW P w g t (.slice b l.length cap) l pK/\
   ((b=none/\l=[]/\cap=0)\/∃bk off cc ee,b=some ⟨bk,off,none⟩/\g.tag bk=.row id []/\w.heap[bk]? = some (.cells cc ee (0,0))/\off+cap*t.size<=cc.size/\
    ∀(i:Nat)(h:i<l.length),zM w g none t (l.get ⟨i,h⟩) (qi cc.toList (off+i*t.size) t.size)):=by
 obtain⟨qU,b,cap,_,yU,h1,h2,h3⟩:=zg;rcases h3 with⟨rfl,hl,rfl⟩|⟨bk,off,cc,ee,rfl,ze,zZ,ql,vw⟩
 ·subst hl;exact⟨none,0,[],yU,h1,h2,wW.of_nil,.inl ⟨rfl,rfl,rfl⟩⟩
 ·have JX:l.length*t.size<=cap*t.size:=wI _ h1;have z8g:∀(i:Nat)(h:i<l.length),zM w g none t (l.get ⟨i,h⟩) (qi cc.toList (off+i*t.size) t.size):=λi hi=>zM.yy qU (vw i hi)
  exact⟨_,cap,qi cc.toList off (l.length*t.size),yU,h1,h2,wW.QW zZ (by omega) z8g,.inr ⟨bk,off,cc,ee,rfl,ze,zZ,ql,z8g⟩⟩
theorem KH{args:Array Operand}{ts:Array TypeId}{x y:Operand}{t E:TypeId}{t1 u:Ty}{l m:List t1.den}{e id:Nat}{news:List Value}
  (ho:o.op=.call { callee:=.builtin .append,args:=args,argTypes:=ts }) (hargs:args.toList=[x,y]) (QH:ts.toList=[t,t])
  (qB:P.underlying t=some (.slice E)) (vN:j8 P E u) (Vn:u.size=t1.size) (zq:zP c.ntmps g w a σ) (pk:σ.z6 id=some (.row t1 l e)) (hev:a.eval x=g.sv id [])
  (qU:t1.zW=true) (yI:wW P w g t1 (a.eval y) m news) (KS:l.length+m.length<=4294967296)
  (h:(σ.setObj id (.row t1 (l++m) (e+1))).qM c o.dst (.ref id [] (e+1)) k=some r) (hK:vz c.ntmps k r g w σ base true K):o.wp P a w K Q:=by
 obtain⟨b,cap,pK,yU,Kb,QR,hold,wJ⟩:=L0 (P:=P) (zq.heap.z6 _ _ pk);have S5:a.eval x=.slice b l.length cap:=by grind
 have gA:∀n,zu g σ n->n≠id:=by
  intro n hn he;subst he;have:=hn.z6;grind
 have v7:∀n,zu g σ n->n∉(z7.ref id [] (e+1)).ids:=by
  grind[z7.ids]
 have hk0:∀g':z8,qu g g' id (σ.z6 id) (some (.row t1 (l++m) (e+1))):=λg'=>.inr (.inl ⟨t1,l,l++m,e,e+1,pk,rfl,.inl (by omega)⟩)
 by_cases Sy:cap<l.length+m.length
 ·obtain⟨cells,J3,ua,zg⟩:=VU (P:=P) (ty:=0) qB vN Vn zq.heap.tags qU hold yI Sy (by omega) (σ.setObj id (.row t1 (l++m) (e+1))).z6 id (e+1);have zn:=jv (P:=P) ho hargs QH (λty=>by rw[S5];exact ua);refine jL (g:=g) (base:=base) (σ':=σ.setObj id (.row t1 (l++m) (e+1))) (g':=yx g w.heap.size id (.row id []) (.slice (some ⟨w.heap.size,0,none⟩) (l.length+m.length) J3)) zn ?_ ?_ (λn hn hfn=>⟨zu.pf (g:=g) (λb=>?_) (gA n hfn) (by simp) hfn,v7 n hfn⟩) rfl ?_ h (λh=>Bool.noConfusion h) hK
  ·refine zq.pf (Cy zq.heap.tags _) (λi hi=>KA zq.heap.tags _ hi) (.inl (hk0 _)) zg ?_;intro b hb;simp only[yx]at hb;split at hb
   ·simp_all
   ·have:=zq.heap.tags b hb;simp;omega
  ·exact UK zq.heap.tags _
  ·grind[yx]
  ·exact xR (u:=t1) (l:=l++m) (by simp[St.setObj,zD]) (by simp[yx]) rfl
 ·have hle:l.length+m.length<=cap:=by omega
  rcases wJ with⟨rfl,hl,rfl⟩|⟨bk,off,cc,ee,rfl,ze,zZ,ql,vw⟩
  ·subst hl;have hm:m=[]:=Z3h (by omega);subst hm;have zn:=jv (P:=P) (v:=.slice none 0 0) (w':=w) ho hargs QH (λty=>by rw[S5];exact x7 (ty:=ty) qB vN Vn yI);refine jL (g:=g) (base:=base) (σ':=σ.setObj id (.row t1 ([]++[]) (e+1))) (g':=pn g id (.slice none 0 0)) zn ?_ ?_ (λn hn hfn=>⟨zu.pf (g:=g) (λb=>.inl rfl) (gA n hfn) (by simp) hfn,v7 n hfn⟩) rfl ?_ h (λh=>Bool.noConfusion h) hK
   ·refine zq.pf ⟨λb hb=>⟨hb,rfl⟩⟩ (λi hi=>JI hi) (.inl (hk0 _)) ?_ zq.heap.tags;exact⟨qU,none,0,by simp[pn],by simp[pn],jq _,v8 _,.inl ⟨rfl,rfl,rfl⟩⟩
   ·exact⟨rfl,rfl,rfl,jq _,jq _,λb _ _=>⟨rfl,rfl⟩⟩
   ·exact xR (u:=t1) (l:=([]++[]:List t1.den)) (by simp[St.setObj,zD]) (by simp[pn]) rfl
  ·have zn:=jv (P:=P) ho hargs QH (λty=>by rw[S5];exact x9 (ty:=ty) qB vN Vn zZ yI hle ql);have LM:=yI.length;have hmul:(l.length+m.length)*t1.size<=cap*t1.size:=wI _ hle;rw[kK]at hmul;have hcc:cc.toList.length=cc.size:=gT;have gU:zS w g (w.setRow bk (zB cc.toList (off+l.length*t1.size) news).toArray) (pn g id (.slice (some ⟨bk,off,none⟩) (l.length+m.length) cap)):=by
    refine⟨λb hb=>⟨hb,setRow_other w bk b _ ?_⟩⟩
    grind
   refine jL (g:=g) (base:=base) (σ':=σ.setObj id (.row t1 (l++m) (e+1))) (g':=pn g id (.slice (some ⟨bk,off,none⟩) (l.length+m.length) cap)) zn ?_ ?_ (λn hn hfn=>⟨zu.pf (g:=g) (λb=>.inl rfl) (gA n hfn) (by simp) hfn,v7 n hfn⟩) rfl ?_ h (λh=>Bool.noConfusion h) hK
   ·refine zq.pf gU (λi hi=>?_) (.inl (hk0 _)) ?_ ?_
    ·refine⟨⟨λq=>by simp[pn,hi],λq b hb=>⟨hb,setRow_other w bk b _ ?_⟩⟩,rfl,λhb=>⟨hb,setRow_other w bk _ _ ?_⟩⟩
     all_goals grind
    ·refine⟨qU,some ⟨bk,off,none⟩,cap,by simp[pn],by simp[pn],by grind,QR,.inr ⟨bk,off,_,ee,rfl,ze,setRow_heap w bk cc _ ee _ zZ,?_,λi hi=>?_⟩⟩
     ·grind[yS]
     ·refine zM.yy qU (o:=none) ?_;exact IX (id:=id) qU yI hle ql zZ vw gU i hi
    ·intro b hb;have:=zq.heap.tags b hb;simp_all
   ·refine⟨rfl,rfl,rfl,jq _,by simp_all,λb _ hb=>⟨setRow_other w bk b _ ?_,rfl⟩⟩
    grind
   ·exact xR (u:=t1) (l:=l++m) (by simp[St.setObj,zD]) (by simp[pn]) rfl
theorem Iu{id:Nat}{t:Ty}{l l':List t.den}{e e':Nat}{v:Value}(zq:zP c.ntmps g w a σ)(zg:σ.z6 id=some (.row t l e))(he:e<e')
  (zc:qz w (pn g id v) (σ.setObj id (.row t l' e')).z6 id (.row t l' e')) :
  zP c.ntmps (pn g id v) w a (σ.setObj id (.row t l' e'))/\Ext w g w (pn g id v)/\∀m,zu g σ m->zu (pn g id v) (σ.setObj id (.row t l' e')) m:=by
 refine⟨zq.pf ⟨λb hb=>⟨hb,rfl⟩⟩ (λi hi=>JI hi) (.inl (.inr (.inl ⟨t,l,l',e,e',zg,rfl,.inl he⟩))) zc zq.heap.tags,⟨rfl,rfl,rfl,jq _,jq _,λb _ _=>⟨rfl,rfl⟩⟩,λm hm=>?_⟩;refine zu.pf (g:=g) (λb=>.inl rfl) ?_ (by simp) hm;intro heq;subst heq;have:=hm.z6;grind
theorem DO{id:Nat}{t:Ty}{l:List t.den}{e e':Nat}{p q:Int}(zq:zP c.ntmps g w a σ)(zg:σ.z6 id=some (.row t l e))(h0:0<=p)(hpq:p<=q)(hq:q<=(l.length:Int))(he:e<e'):
  zP c.ntmps (pn g id (j5 (g.sv id []) t.size p q)) w a (σ.setObj id (.row t (sub l p q) e'))/\Ext w g w (pn g id (j5 (g.sv id []) t.size p q))/\
   ∀m,zu g σ m->zu (pn g id (j5 (g.sv id []) t.size p q)) (σ.setObj id (.row t (sub l p q) e')) m:=by
 refine Iu zq zg he ?_;obtain⟨qU,ad,cap,_,yU,Kb,QR,wJ⟩:=zq.heap.z6 _ _ zg;have hlen:(sub l p q).length=(q-p).toNat:=by grind[Z0]
 have hv:j5 (g.sv id []) t.size p q=.slice (if cap-p.toNat=0 then ad else ad.map (·.add (p.toNat*t.size))) (sub l p q).length (cap-p.toNat):=by rw[yU,hlen];rfl
 refine⟨qU,_,_,by simp only[pn,Z1x];exact Wm (λv=>[v]) hv,by grind[pn],by omega,by omega,?_⟩;rcases wJ with⟨rfl,hl,rfl⟩|⟨b,off,c',ee,rfl,ze,zZ,ql,vw⟩
 ·grind
 ·right;have hmul:cap*t.size=(cap-p.toNat)*t.size+p.toNat*t.size:=by rw[<-kK];grind
  by_cases hz:cap-p.toNat=0
  ·refine⟨b,off,c',ee,by grind,ze,zZ,by omega,λi hi=>?_⟩;omega
  ·refine⟨b,off+p.toNat*t.size,c',ee,?_,ze,zZ,by omega,λi hi=>?_⟩
   ·grind[Addr.add_lit]
   ·have wu:i<(sub l p q).length:=hi;have Fl:p.toNat+i<l.length:=by omega
    have:=zM.yy (o':=none) qU (vw (p.toNat+i) Fl);have hg:=Kt l p q i wu Fl;refine zM.yy qU (o:=none) ?_;have e1:off+p.toNat*t.size+i*t.size=off+(p.toNat+i)*t.size:=by grind
    rw[e1];have h2:(sub l p q).get ⟨i,wu⟩=l.get ⟨p.toNat+i,Fl⟩:=hg;show zM w _ none t ((sub l p q).get ⟨i,wu⟩) _;rw[h2];exact zM.kept (show zS w g w (pn g id (j5 (g.sv id []) t.size p q)) from⟨λb hb=>⟨hb,rfl⟩⟩) this
theorem vz.pre{n:Nat}{g0:z8}{σ0:St}(h:vz n k r g w σ base mo K)(he:Ext w g w g0)(hf:∀m,zu g σ m->zu g0 σ0 m)(hn:σ0.next=σ.next):vz n k r g0 w σ0 base mo K:=
 λσ' g' a' w' hk zq qm v7 Fe w8=>h σ' g' a' w' hk zq (he.trans qm) (λm hm wX=>v7 m hm (hf m wX)) (Fe.trans hn) w8
theorem vz.zxz{n:Nat}{g0:z8}{σ0:St}(h:vz n k r g w σ base mo K)(he:Ext w g w g0)(hf:∀m,(m<base\/base+8<=m)->zu g σ m->zu g0 σ0 m)(hn:σ0.next=σ.next):vz n k r g0 w σ0 base mo K:=
 λσ' g' a' w' hk zq qm v7 Fe w8=>h σ' g' a' w' hk zq (he.trans qm) (λm hm wX=>v7 m hm (hf m hm wX)) (Fe.trans hn) w8
theorem wW.congr{g':z8}{t:Ty}{x:Value}{m:List t.den}{news:List Value}(h:wW P w g t x m news)(hr:zS w g w g'):wW P w g' t x m news:=
 ⟨h.len,h.cells,h.pre,h.length,λi hi=>(h.elts i hi).kept hr,h.one⟩
theorem WX(σ:St)(i:Nat)(x y:Obj):(σ.setObj i x).setObj i y=σ.setObj i y:=by
 simp only[St.setObj,St.mk.injEq,X3,Dx]
 grind[Y4]
theorem Aj{id e:Nat}{n:Int}{i:Nat}{av:z7}(h:(views σ id e n).zy i=some av):σ.zy i=some av\/(σ.zy i=some (.ref id [] e)/\av=.view id [] (e+1) 0 n):=by
 grind[views,zE]
theorem z07{l:List (Option R)}(h:wK l=some r):∀y∈l,y=some r:=by
 cases l with
 |nil=>simp
 |cons x l=>
  grind[wK]
theorem I8{n:Nat}{w':World}{g':z8}{id e:Nat}{t:Ty}{l l2:List t.den}(zq:zP n g w a σ)(qG:zP n g' w' a (σ.setObj id (.row t l2 (e+1))))(pk:σ.z6 id=some (.row t l e))
  (yU:j5 (g'.sv id []) t.size 0 (l.length:Int)=g.sv id []) (hle:l.length<=l2.length):zP n g' w' a ((views σ id e (l.length:Int)).setObj id (.row t l2 (e+1))):=by
 refine⟨λi av hi=>?_,qG.heap,qG.size,qG.defers,qG.known⟩;rcases Aj hi with h1|⟨h1,rfl⟩
 ·exact qG.zy i av h1
 ·obtain⟨v,hv,zc⟩:=zq.zy i _ h1;refine⟨v,hv,?_⟩;simp only[qy]at zc;obtain⟨cs,⟨u,rfl,qN,hu⟩,hvu⟩:=zc;have e1:=(hu _ _ _ pk).2 rfl;simp only[qy];refine⟨[u],⟨_,rfl,qN,λt2 l3 e2 CO=>?_⟩,hvu⟩;have ho3:some (Obj.row t l2 (e+1))=some (.row t2 l3 e2):=by
   simp_all[St.setObj,zD]
  grind
theorem UF{g':z8}{id e:Nat}{n:Int}{ob:Obj}{m:Nat}(h:zu g' (σ.setObj id ob) m):zu g' ((views σ id e n).setObj id ob) m:=by
 refine⟨h.z6,h.row,h.box,λi av hi=>?_,h.cells⟩;rcases Aj hi with h1|⟨h1,rfl⟩
 ·exact h.zy i av h1
 ·have:=h.zy i _ h1
  grind[z7.ids]
theorem Nl(wi:gH P c.tt){args:Array Operand}{ts:Array TypeId}(ho:o.op=.call { callee:=.builtin .append,args:=args,argTypes:=ts }){x y:Operand}{t:TypeId}{ow:Bool}{u:Ty}{av bv:z7}
  (hargs:args.toList=[x,y]) (QH:ts.toList=[t,t]) (LA:c.tt t=some (.sl ow u)) (hx:ev σ x=some av) (hy:ev σ y=some bv)
  (zq:zP c.ntmps g w a σ) (hf:zu g σ base) (h:HT σ base u av bv (λv σ=>σ.qM c o.dst v k)=some r) (hK:vz c.ntmps k r g w σ base true K):o.wp P a w K Q:=by
 have hT:=wi _ _ LA;simp only[qZ]at hT;obtain⟨⟨E,qB,hE⟩,_⟩:=hT;have vN:=hE.info;obtain⟨ex,efx⟩:=qH zq hx;obtain⟨ey,efy⟩:=qH zq hy;unfold HT at h;split at h
 ·rename_i id ep;split at h
  ·rename_i t1 l e pk
   cases GB:(Nat.beq e ep&&t1.sk.same u.sk) with
   |false=>grind
   |true=>
    rw[GB]at h;simp only[zJ]at h;simp only[zA]at GB;have Fs:=zE GB.1;subst Fs;have po:=Sk.qJ GB.2;have Vn:u.size=t1.size:=by grind[Ty.zX]
    obtain⟨qU,hval,h⟩:=uy h;obtain⟨m,news,h,yI⟩:=VI (P:=P) zq.heap qU ey h hval;obtain⟨KS,h⟩:=qT h;have KS:=X1 KS;unfold room at KS;have hall:=z07 h;have hA:=hall _ (Z2c);have hB:=hall _ (On _ Z2c);clear hall h;obtain⟨b,cap,pK,yU,Kb,QR,hold,wJ⟩:=L0 (P:=P) (zq.heap.z6 _ _ pk);simp only[qy]at ex;obtain⟨cs,⟨v,rfl,qN,hv⟩,je⟩:=ex;have e1:=(hv _ _ _ pk).2 rfl;have S5:a.eval x=.slice b l.length cap:=by rw[<-yU,<-e1];exact je
    have gA:∀n,zu g σ n->n≠id:=by
     intro n hn he;subst he;have:=hn.z6;grind
    by_cases Sy:cap<l.length+m.length
    ·obtain⟨cells,J3,ua,zg⟩:=VU (P:=P) (ty:=0) qB vN Vn zq.heap.tags qU hold yI Sy (by omega) (σ.setObj base (.row t1 (l++m) 1)).z6 base 1;have zn:=jv (P:=P) ho hargs QH (λty=>by rw[S5];exact ua);refine jL (g:=g) (base:=base) (σ':=σ.setObj base (.row t1 (l++m) 1)) (g':=yx g w.heap.size base (.row base []) (.slice (some ⟨w.heap.size,0,none⟩) (l.length+m.length) J3)) zn ?_ ?_ (λn hn hfn=>⟨zu.pf (g:=g) (λb=>?_) (by omega) (by simp) hfn,by grind[z7.ids]⟩) rfl ?_ hB (λh=>Bool.noConfusion h) hK
     ·refine zq.pf (Cy zq.heap.tags _) (λi hi=>KA zq.heap.tags _ hi) (.inr hf) zg ?_;intro b hb;simp only[yx]at hb;split at hb
      ·rename_i he;subst he;simp
      ·have:=zq.heap.tags b hb;simp;omega
     ·exact UK zq.heap.tags _
     ·grind[yx]
     ·exact xR (u:=t1) (l:=l++m) (by simp[St.setObj,zD]) (by simp[yx]) rfl
    ·have hle:l.length+m.length<=cap:=by omega
     have hk0:∀g':z8,qu g g' id (σ.z6 id) (some (.row t1 (l++m) (e+1))):=λg'=>.inr (.inl ⟨t1,l,l++m,e,e+1,pk,rfl,.inl (by omega)⟩)
     have v7:∀n,zu g σ n->n∉(z7.ref id [] (e+1)).ids:=by
      grind[z7.ids]
     have hlen:l.length<=(l++m).length:=by simp
     rcases wJ with⟨rfl,hl,rfl⟩|⟨bk,off,cc,ee,rfl,ze,zZ,ql,vw⟩
     ·subst hl;have hm:m=[]:=Z3h (by omega);subst hm;have zn:=jv (P:=P) (v:=.slice none 0 0) (w':=w) ho hargs QH (λty=>by rw[S5];exact x7 (ty:=ty) qB vN Vn yI);refine jL (g:=g) (base:=base) (σ':=(views σ id e ((List.length ([]:List t1.den):Nat):Int)).setObj id (.row t1 ([]++[]) (e+1))) (g':=pn g id (.slice none 0 0)) zn ?_ ?_ (λn hn hfn=>⟨UF (zu.pf (g:=g) (λb=>.inl rfl) (gA n hfn) (by simp) hfn),v7 n hfn⟩) rfl ?_ hA (λh=>Bool.noConfusion h) hK
      ·refine I8 zq (zq.pf ⟨λb hb=>⟨hb,rfl⟩⟩ (λi hi=>JI hi) (.inl (hk0 _)) ?_ zq.heap.tags) pk ?_ (by simp)
       ·exact⟨qU,none,0,by simp[pn],by simp[pn],jq _,v8 _,.inl ⟨rfl,rfl,rfl⟩⟩
       grind[pn,j5]
      ·exact⟨rfl,rfl,rfl,jq _,jq _,λb _ _=>⟨rfl,rfl⟩⟩
      ·exact xR (u:=t1) (l:=([]++[]:List t1.den)) (by simp[St.setObj,zD]) (by simp[pn]) rfl
     ·have zn:=jv (P:=P) ho hargs QH (λty=>by rw[S5];exact x9 (ty:=ty) qB vN Vn zZ yI hle ql);have LM:=yI.length;have hmul:(l.length+m.length)*t1.size<=cap*t1.size:=wI _ hle;rw[kK]at hmul;have hcc:cc.toList.length=cc.size:=gT;have gU:zS w g (w.setRow bk (zB cc.toList (off+l.length*t1.size) news).toArray) (pn g id (.slice (some ⟨bk,off,none⟩) (l.length+m.length) cap)):=by
       refine⟨λb hb=>⟨hb,setRow_other w bk b _ ?_⟩⟩
       grind
      refine jL (g:=g) (base:=base) (σ':=(views σ id e (l.length:Int)).setObj id (.row t1 (l++m) (e+1))) (g':=pn g id (.slice (some ⟨bk,off,none⟩) (l.length+m.length) cap)) zn ?_ ?_ (λn hn hfn=>⟨UF (zu.pf (g:=g) (λb=>.inl rfl) (gA n hfn) (by simp) hfn),v7 n hfn⟩) rfl ?_ hA (λh=>Bool.noConfusion h) hK
      ·refine I8 zq (zq.pf gU (λi hi=>?_) (.inl (hk0 _)) ?_ ?_) pk ?_ hlen
       ·refine⟨⟨λq=>by simp[pn,hi],λq b hb=>⟨hb,setRow_other w bk b _ ?_⟩⟩,rfl,λhb=>⟨hb,setRow_other w bk _ _ ?_⟩⟩
        all_goals grind
       ·refine⟨qU,some ⟨bk,off,none⟩,cap,by simp[pn],by simp[pn],by grind,QR,.inr ⟨bk,off,_,ee,rfl,ze,setRow_heap w bk cc _ ee _ zZ,?_,λi hi=>?_⟩⟩
        ·grind[yS]
        ·refine zM.yy qU (o:=none) ?_;exact IX (id:=id) qU yI hle ql zZ vw gU i hi
       ·intro b hb;have:=zq.heap.tags b hb
        grind[World.setRow]
       grind[pn,j5,Addr.add_lit]
      ·refine⟨rfl,rfl,rfl,jq _,by simp[World.setRow],λb _ hb=>⟨setRow_other w bk b _ ?_,rfl⟩⟩
       grind
      ·exact xR (u:=t1) (l:=l++m) (by simp[St.setObj,zD]) (by simp[pn]) rfl
  grind
 grind
theorem z0l(wi:gH P c.tt){args:Array Operand}{ts:Array TypeId}(ho:o.op=.call { callee:=.builtin .append,args:=args,argTypes:=ts })
  (zq:zP c.ntmps g w a σ) (hf:zu g σ base)
  (zsi:∀x y t u ow av bv,args.toList=[x,y]->ts.toList=[t,t]->c.tt t=some (.sl ow u)->ev σ x=some av->ev σ y=some bv->uE σ u av bv (λv σ=>σ.qM c o.dst v k)=some r->o.wp P a w K Q)
  (h:qq c σ base o k=some r) (hK:vz c.ntmps k r g w σ base true K):o.wp P a w K Q:=by
 simp only[qq,ho]at h;split at h
 ·rename_i x y t t' hargs QH;split at h
  ·rename_i av bv ot u hx hy LA
   cases hb:Nat.beq t t' with
   |false=>grind
   |true=>
    rw[hb]at h;have htq:=zE hb;subst htq;simp only[zJ]at h;have hT:=wi _ _ LA;simp only[qZ]at hT;obtain⟨⟨E,qB,hE⟩,_⟩:=hT;have vN:=hE.info;obtain⟨ex,efx⟩:=qH zq hx;obtain⟨ey,efy⟩:=qH zq hy;unfold pT at h;split at h
    ·-- nil
     have hv:=Jq.1 ex
     cases hbn:bv.zli with
     |true=>grind
     |false=>
     rw[hbn]at h;simp only[zU]at h;split at h
     ·rename_i t1 _
      cases GB:t1.sk.same u.sk with
      |false=>grind
      |true=>
       rw[GB]at h;simp only[zJ]at h;have po:=Sk.qJ GB;have Vn:u.size=t1.size:=by grind[Ty.zX]
       obtain⟨qU,hval,h⟩:=uy h;obtain⟨m,news,h,yI⟩:=VI (P:=P) zq.heap qU ey h hval;obtain⟨KS,h⟩:=qT h;have KS:=X1 KS;unfold room at KS;by_cases hm:m=[]
       ·subst hm;have zn:=jv (P:=P) (v:=.slice none 0 0) (w':=w) ho hargs QH (λty=>by rw[hv];exact x7 (ty:=ty) qB vN Vn yI);refine jL (g:=g) (base:=base) (σ':=σ.setObj base (.row t1 [] 1)) (g':=pn g base (.slice none 0 0)) zn ?_ ?_ (λn hn hfn=>⟨zu.pf (g:=g) (λb=>.inl rfl) (by omega) (by simp) hfn,by grind[z7.ids]⟩) rfl ?_ h (λh=>Bool.noConfusion h) hK
        ·refine zq.pf ⟨λb hb=>⟨hb,rfl⟩⟩ (λi hi=>JI hi) (.inr hf) ?_ zq.heap.tags;exact⟨qU,none,0,by simp[pn],by simp[pn],jq _,v8 _,.inl ⟨rfl,rfl,rfl⟩⟩
        ·exact⟨rfl,rfl,rfl,jq _,jq _,λb _ _=>⟨rfl,rfl⟩⟩
        ·exact xR (u:=t1) (l:=[]) (by simp[St.setObj,zD]) (by simp[pn]) rfl
       ·have z16:0<m.length:=Z5m.2 hm;obtain⟨cells,J3,ua,zg⟩:=VU (P:=P) (ty:=0) (b:=none) (cap:=0) (l:=([]:List t1.den)) qB vN Vn zq.heap.tags qU wW.of_nil yI (by omega) (by grind) (σ.setObj base (.row t1 m 1)).z6 base 1;simp only[Z1y,Wq,JD]at ua zg;have zn:=jv (P:=P) ho hargs QH (λty=>by rw[hv];exact ua);refine jL (g:=g) (base:=base) (σ':=σ.setObj base (.row t1 m 1)) (g':=yx g w.heap.size base (.row base []) (.slice (some ⟨w.heap.size,0,none⟩) m.length J3)) zn ?_ ?_ (λn hn hfn=>⟨zu.pf (g:=g) (λb=>?_) (by omega) (by simp) hfn,by grind[z7.ids]⟩) rfl ?_ h (λh=>Bool.noConfusion h) hK
        ·refine zq.pf (Cy zq.heap.tags _) (λi hi=>KA zq.heap.tags _ hi) (.inr hf) zg ?_;intro b hb;simp only[yx]at hb;split at hb
         ·simp_all
         ·have:=zq.heap.tags b hb;simp;omega
        ·exact UK zq.heap.tags _
        ·grind[yx]
        ·exact xR (u:=t1) (l:=m) (by simp[St.setObj,zD]) (by simp[yx]) rfl
     grind
    ·-- an owned row
     rename_i id ep;split at h
     ·rename_i t1 l e pk
      cases GB:(Nat.beq e ep&&t1.sk.same u.sk) with
      |false=>grind
      |true=>
       rw[GB]at h;simp only[zJ]at h;simp only[zA]at GB;have Fs:=zE GB.1;subst Fs;have po:=Sk.qJ GB.2;have Vn:u.size=t1.size:=by grind[Ty.zX]
       obtain⟨qU,hval,h⟩:=uy h;obtain⟨m,news,h,yI⟩:=VI (P:=P) zq.heap qU ey h hval;obtain⟨KS,h⟩:=qT h;have KS:=X1 KS;unfold room at KS;simp only[qy]at ex;obtain⟨cs,⟨v,rfl,qN,hv⟩,je⟩:=ex;have e1:=(hv _ _ _ pk).2 rfl;exact KH ho hargs QH qB vN Vn zq pk (by rw[<-e1];exact je) qU yI KS h hK
     grind
    ·-- a part of an owned row
     rename_i id ep pa pb;split at h
     ·rename_i t1 l e pk
      cases GB:(Nat.beq e ep&&t1.sk.same u.sk) with
      |false=>grind
      |true=>
       rw[GB]at h;simp only[zJ]at h;simp only[zA]at GB;have Fs:=zE GB.1;subst Fs;have po:=Sk.qJ GB.2;have Vn:u.size=t1.size:=by grind[Ty.zX]
       obtain⟨qU,hval,h⟩:=uy h;obtain⟨m,news,h,yI⟩:=VI (P:=P) zq.heap qU ey h hval;obtain⟨KS,h⟩:=qT h;have KS:=X1 KS;unfold room at KS;simp only[qy]at ex;obtain⟨cs,⟨v,rfl,qN,hv⟩,je⟩:=ex;obtain⟨_,h0,Kh,Vo,e1⟩:=(hv _ _ _ pk).2 rfl;obtain⟨yM,yC,z8c⟩:=DO (e':=e+1) zq pk h0 Kh Vo (Eb _);refine KH (id:=id) (e:=e+1) (l:=sub l pa pb) ho hargs QH qB vN Vn yM (by simp[St.setObj,zD]) ?_ qU (yI.congr ⟨λb hb=>⟨hb,rfl⟩⟩) KS (by grind[WX]) (hK.pre yC z8c rfl);rw[je];simp only[pn,Z1x];exact e1
     grind
    ·-- a row of rows
     grind
    ·-- one of the rows of a row of rows
     rename_i id q0 p0 ep;split at h
     ·rename_i t1 l0 e0 i0 pk
      cases hb0:Nat.beq i0 ep with
      |false=>grind
      |true=>
       rw[hb0]at h;have Fs:=zE hb0;subst Fs;simp only[zJ]at h;have FO:zM w g (some (id,[])) (.sl true t1) l0 [g.sv id []]:=zq.heap.z6 id _ pk;obtain⟨U,X,_,_,_,_,_,Y0,_,_,JZ,_,_,_,_⟩:=Z6 (.inl FO) h;obtain⟨U',X',Fi,pP⟩:=Vs _ _ _ h;split at Fi
       ·rename_i v l1
        cases GB:v.sk.same u.sk with
        |false=>grind
        |true=>
         rw[GB]at Fi;simp only[zJ]at Fi;have po:=Sk.qJ GB;have Vn:u.size=v.size:=by grind[Ty.zX]
         obtain⟨qU,hval,Fi⟩:=uy Fi;obtain⟨m,news,Fi,yI⟩:=VI (P:=P) zq.heap qU ey Fi hval;obtain⟨KS,Fi⟩:=qT Fi;have KS:=X1 KS;unfold room at KS;have q0h:F0 t1 (q0::p0)=some v:=by
          have hg:zR (.sl true t1) l0 (q0::p0) (λu x=>some (⟨u,x⟩:(u:Ty)×u.den))=some ⟨.sl true v,l1⟩:=pP _ _;obtain⟨U2,X2,_,_,_,_,_,Kc,_,_,q0j,_,_,_,_⟩:=Z6 (.inl FO) hg;simp only[zI,Z4t]at Kc;obtain⟨rfl,_⟩:=Kc;have:=Ak q0j
          cases q0 with
          |fst=>grind[vj]
          |snd=>grind[vj]
          |idx j0=>grind[F0,vj]
         simp only[qy]at ex;obtain⟨cs,⟨vv,rfl,qN,hv⟩,je⟩:=ex;have e1:=((hv _ _ _ _ _ pk).2 rfl).1 rfl;obtain⟨yM,yC,z8c,z14,z15⟩:=zkj zq hf pk qU q0h pP;refine KH (id:=base) (e:=0) (l:=l1) ho hargs QH qB vN Vn yM (by simp[St.setObj,zD]) ?_ qU (yI.congr z15) KS (by grind[WX]) (hK.zxz yC (λm hm=>z8c m (by omega)) rfl);rw[z14];exact(je.trans e1)
       grind
     grind
    grind
  grind
 grind
end
end Go.Kz
namespace Go.Kz
variable {R:Type}
section
variable {w:World}{g:z8}{σ:St}
theorem FE{n:Nat}{a:Act}{w':World}{g':z8}{σ':St}{m:Nat}(zq:zP n g w a σ)(hr:zS w g w' g')(hs:σ'.zy=σ.zy)(hm:zu g σ m\/qu g g' m (σ.z6 m) (σ'.z6 m))
  (q6m:∀x,σ'.z6 m=some x->qz w' g' σ'.z6 m x) (zm2:∀j,j≠m->σ'.z6 j=none\/(σ'.z6 j=σ.z6 j/\Qr w g w' g' j)) (ht:∀b,g'.tag b≠.qw->b<w'.heap.size):zP n g' w' a σ':=by
 refine zq.step hr hs hm (λj hj=>?_) (λj x hx=>?_) ht
 ·rcases zm2 j hj with h|⟨h,h2⟩
  ·exact .inl h
  grind[qu.same]
 grind
theorem Kv{g':z8}{σ':St}{base m:Nat}(hm:m≠base)(ze:∀b,g'.tag b=g.tag b\/∃p,g'.tag b=.row base p)(xQ:∀j,j≠base->σ'.z6 j=none\/σ'.z6 j=σ.z6 j)
  (Sg:∀y,σ'.z6 base≠some (.cell y)) (hs:σ'.zy=σ.zy) (hf:zu g σ m):zu g' σ' m:=by
 refine⟨?_,λb p hb=>?_,λb hb=>?_,by rw[hs];exact hf.zy,λi av hi=>?_⟩
 ·rcases xQ m hm with h|h
  ·exact h
  ·rw[h];exact hf.z6
 ·rcases ze b with h|⟨q,h⟩
  ·rw[h]at hb;exact hf.row b p hb
  grind
 ·rcases ze b with h|⟨q,h⟩
  ·rw[h]at hb;exact hf.box b hb
  grind
 ·by_cases he:i=base
  ·grind
  ·rcases xQ i he with h|h
   ·grind
   ·rw[h]at hi;exact hf.cells i av hi
theorem BL(hh:yH w g σ.z6){v:Ty}(qU:v.zW=true){av:z7}{x:Value}{k:List v.den->St->Option R}{r:R}(hx:jO w g σ.z6 av [x])(h:wF σ av v k=some r):
  ∃(fr:Option Nat)(d:List v.den)(σ1:St),σ1.zy=σ.zy/\σ1.next=σ.next/\(∀j,some j≠fr->σ1.z6 j=σ.z6 j)/\(∀j,some j=fr->σ1.z6 j=none/\σ.z6 j≠none)/\k d σ1=some r/\
   ∀w' g' id p,zS w g w' g'->g'.sv id p=x->(∀b j,some j=fr->g.tag b=.row j []->g'.tag b=.row id p/\w'.heap[b]? = w.heap[b]?)->zM w' g' (some (id,p)) (.sl true v) d [x]:=by
 unfold wF at h;split at h
 ·refine⟨none,[],σ,rfl,rfl,λ_ _=>rfl,λ_ h=>by simp at h,h,λw' g' id p _ yU _=>?_⟩;have QF:[x]=[.slice none 0 0]:=hx;simp only[CA,Dx]at QF;subst QF;exact⟨none,0,rfl,yU,jq _,v8 _,.inl ⟨rfl,rfl,rfl⟩⟩
 ·rename_i vT ep';split at h
  ·rename_i t' l' e' Ka
   cases hb:Nat.beq e' ep' with
   |false=>grind
   |true=>
    rw[hb]at h;have he:=zE hb;subst he;simp only[zJ]at h;obtain⟨hc,h⟩:=yz h;have Ke:t'=v:=by grind
    subst Ke;refine⟨some vT,_,σ.kill vT,rfl,rfl,λj hj=>?_,λj hj=>?_,h,λw' g' id p hr yU CN=>?_⟩
    ·simp_all[St.kill,zm]
    ·simp_all[St.kill,Y4]
    ·obtain⟨v0,hv0,_,uZ⟩:=hx;simp only[CA,Dx]at hv0;subst hv0;have hxs:=(uZ _ _ _ Ka).2 rfl;obtain⟨Vj,ad,cap,Zw,zeh,h1,h2,h3⟩:=hh.z6 vT _ Ka;refine⟨ad,cap,by grind,by grind,h1,h2,?_⟩;rcases h3 with h3|⟨b,off,c,ee,ha,ze,zZ,hs,vw⟩
     ·grind
     ·obtain⟨k1,k2⟩:=CN b vT rfl ze;exact .inr ⟨b,off,c,ee,ha,k1,k2.trans zZ,hs,λi hi=>zM.yy (o:=none) Vj ((zM.yy (o':=none) Vj (vw i hi)).kept hr)⟩
  grind
 grind
def qS:Ty->Path
 |.sl _ _=>[.idx 0]
 |_=>[.idx 0,.snd,.fst]
open Classical in
noncomputable def Q7(g:z8)(nb base:Nat)(zx8 x:Value)(fr:Option Nat)(q0:Path):z8 where
 tag:=λb=>if b=nb then .row base [] else if ∃j,fr=some j/\g.tag b=.row j [] then .row base q0 else g.tag b
 sv:=λi q=>if i=base then (if q=[] then zx8 else x) else g.sv i q
 qY:=g.qY
theorem UO{u:Ty}(h:V3 u=true):(∃t v,u=.pair t (.pair (.sl true v) .unit)/\t.zW=true/\v.zW=true)\/∃v,u=.sl true v/\v.zW=true:=by
 unfold V3 at h
 grind
theorem BI{a:z7}{t v:Ty}{k:(Ty.pair t (.pair (.sl true v) .unit)).den->St->Option R}{r:R}(h:ZT σ a (.pair t (.pair (.sl true v) .unit)) k=some r):
  ∃x y,a=.agg (.pr x (.pr y .un))/\t.zW=true/\v.zW=true/\x.val=true/\(qO 20 x t σ λd σ=>wF σ y v λl σ=>k (d,l,()) σ)=some r:=by
 cases a with
 |agg c=>cases c with
  |pr x c2=>cases c2 with
   |pr y c3=>cases c3 with
    |un=>
     grind[ZT]
    |_=>simp[ZT]at h
   |_=>simp[ZT]at h
  |_=>simp[ZT]at h
 |_=>simp[ZT]at h
theorem EZ{a:z7}{v:Ty}{k:(Ty.sl true v).den->St->Option R}{r:R}(h:ZT σ a (.sl true v) k=some r):v.zW=true/\wF σ a v k=some r:=by
 grind[ZT]
theorem GH{a:z7}{v:Ty}{k:List v.den->St->Option R}{r:R}(h:wF σ a v k=some r):a.sk=.leaf/\a.val=true:=by
 unfold wF at h;split at h
 ·exact⟨rfl,rfl⟩
 ·exact⟨rfl,rfl⟩
 grind
theorem z8k{n:Nat}{a:Act}(zq:zP n g w a σ){u:Ty}(hu:V3 u=true){av:z7}{v:Value}{k:u.den->St->Option R}{r:R}(ex:qy w g σ.z6 av v)(h:ZT σ av u k=some r):
  ∃(d:u.den)(σ1:St)(g1:z8)(fr:Option Nat)(σ2:St)(c1:List Value)(x0:Value),k d σ2=some r/\v.cells.toList=c1++[x0]/\u.size=(c1++[x0]).length/\σ1.zy=σ.zy/\σ1.next=σ.next/\jB g σ.z6 g1 σ1.z6/\
   σ2.zy=σ1.zy/\σ2.next=σ1.next/\(∀j,some j≠fr->σ2.z6 j=σ1.z6 j)/\(∀j,some j=fr->σ2.z6 j=none/\σ1.z6 j≠none)/\
   ∀w' g' base,zS w g1 w' g'->g'.sv base (qS u)=x0->(∀b j,some j=fr->g1.tag b=.row j []->g'.tag b=.row base (qS u)/\w'.heap[b]? = w.heap[b]?)->zM w' g' (some (base,[.idx 0])) u d (c1++[x0]):=by
 rcases UO hu with⟨t1,v1,rfl,z15,Vj⟩|⟨v1,rfl,Vj⟩
 ·obtain⟨ax,ay,rfl,_,_,hxv,h⟩:=BI h;obtain⟨cs,zc,Vw,vo⟩:=jg (av:=.agg (.pr ax (.pr ay .un))) rfl ex;obtain⟨c1,c23,rfl,q1b,c2,c3,rfl,z19,rfl⟩:=zc;rw[Hc]at vo;obtain⟨d,σ1,g1,Y0,h1,h2,h3,ZS⟩:=gS 20 zq.heap q1b z15 h;have yM:=h3.st h1 zq;have zhz:=jO.frame (kq:=σ1.z6) (h3.ro w) (λi _=>h3.kept zq.heap i) z19;have I0:=zhz.len;rw[(GH Y0).1]at I0;obtain⟨x0,rfl⟩:=Z2f.1 (show c2.length=1 from I0);obtain⟨fr,l,σ2,hs2,GX,LL,Fb,Kc,hmv⟩:=BL yM.heap Vj zhz Y0;refine⟨_,σ1,g1,fr,σ2,c1,x0,Kc,vo,by rw[Jz,ZS.len];rfl,h1,h2,h3,hs2,GX,LL,Fb,λw' g' base hr yU ze=>?_⟩;exact⟨c1,[x0],rfl,zM.yy (o:=none) z15 (ZS.kept hr),[x0],[],by simp,hmv w' g' base _ hr yU ze,rfl⟩
 ·obtain⟨_,h⟩:=EZ h;obtain⟨hlf,hval⟩:=GH h;obtain⟨cs,zc,Vw,vo⟩:=jg hval ex;have I0:=zc.len;rw[hlf]at I0;obtain⟨x0,rfl⟩:=Z2f.1 (show cs.length=1 from I0);obtain⟨fr,l,σ2,hs2,GX,LL,Fb,Kc,hmv⟩:=BL zq.heap Vj zc h;exact⟨_,σ,g,fr,σ2,[],x0,Kc,vo,rfl,rfl,rfl,.refl _ _,hs2,GX,LL,Fb,λw' g' base hr yU ze=>hmv w' g' base _ hr yU ze⟩
section
variable {P:Program}{o:Oper}{a:Act}{K:Act->World->Prop}{Q:Exit->Act->World->Prop}{c:Ctx}{k:St->Option R}{r:R}{base:Nat}{mo:Bool}
theorem VB{z6:qQ}{u:Ty}{l:List u.den}{v:Value}{e i id:Nat}(ho:z6 id=some (.nest u l e i none))(yU:v=g.sv id [])(qN:v.oneCell'=true):qy w g z6 (.nv false id [] e) v:=by
 simp only[qy];refine⟨_,⟨v,rfl,qN,λt l' e' i' h hx=>?_⟩,rfl⟩;rw[ho]at hx;simp only[zI,Obj.nest.injEq]at hx;obtain⟨_,_,rfl,rfl,_⟩:=hx;exact⟨jq _,λ_=>⟨λ_=>yU,λh=>by simp at h⟩⟩
theorem VP{t E:TypeId}{u:Ty}(qB:P.underlying t=some (.slice E))(vN:j8 P E u){len:Nat}(Dq:len*u.size<=100000){ps:Array (Nat×Operand)}(u6:uA 0 ps.toList=true)(hlen:ps.toList.length=len)
  (Uv:∀x∈ps.toList,(a.eval x.2).cells.size=u.size) :
  ∃cells:Array Value,cells.toList=(ps.toList.map λx=>(a.eval x.2).cells.toList).flatten/\(Instr.buildSlice t len (ps.map λx=>(x.1,a.eval x.2))).run P w=.ok (.slice (some ⟨w.heap.size,0,none⟩) len len) (w.alloc (.cells cells E)):=by
 obtain⟨i,zv,XD,Eu,Fl,hi4,hi5,hi6⟩:=vN.info;let vs:List Value:=ps.toList.map λx=>a.eval x.2
 have q0b:∀v∈vs,v.cells.size=u.size:=by
  grind
 have LX:vs.length=len:=by grind
 let A6:Array Value:=(Array.range (len*i.size)).map (zv.cells[· % zv.cells.size]!);have q02:A6.size=len*u.size:=by grind
 obtain⟨cells,Ud,ZA⟩:=XF vs 0 A6 q0b (by grind);have OJ:cells.toList=(ps.toList.map λx=>(a.eval x.2).cells.toList).flatten:=by
  rw[ZA];simp only[Z32,Z29,JD,Wq,LX];rw[I4 (by grind),Hc];simp[vs];rfl
 refine⟨cells,OJ,?_⟩;have z7r:ps.toList.map (λx=>(x.1,a.eval x.2))=zV 0 vs:=kn u6 a.eval;have hnb:¬(2 ^ 24<len*i.size):=by grind
 unfold Instr.buildSlice;simp only[Sem.run_bind,run_underlying qB,Result.andThen_ok];by_cases hz:len*i.size=0
 ·simp_all[Go.sizeOf,typeInfo,newRow,Array.range_zero']
 ·have OY:=Ud;simp only[A6]at OY;simp_all[Go.sizeOf,typeInfo,zeroValue,newRow]
theorem O2{u:Ty}{cells:Array Value}{E:TypeId}{g':z8}{w':World}{nb base:Nat}(h1:g'.tag nb=.row base [])(h2:g'.sv base []=.slice (some ⟨nb,0,none⟩) 0 0)(h3:w'.heap[nb]? = some (.cells cells E)):
  zM w' g' (some (base,[])) (.sl true u) [] [g'.sv base []]:=by
 refine⟨some ⟨nb,0,none⟩,0,by grind,h2,jq _,v8 _,.inr ⟨nb,0,cells,E,rfl,h1,h3,by simp,λi hi=>by grind⟩⟩
theorem vz.take{n:Nat}{σ σ':St}{g g':z8}{w:World}(hK:vz n k r g w σ base mo K)(qm:Ext w g w g')(v7:∀m,(m<base\/base+8<=m)->zu g σ m->zu g' σ' m)(hn:σ'.next=σ.next):vz n k r g' w σ' base mo K:=
 λσ'' g'' a' w' h1 h2 h3 h4 h5 h6=>hK σ'' g'' a' w' h1 h2 (qm.trans h3) (λm hm hf=>h4 m hm (v7 m hm hf)) (h5.trans hn) h6
theorem zdi(wi:gH P c.tt){t:TypeId}{len:Nat}{ps:Array (Nat×Operand)}(ho:o.op=.buildSlice t len ps)(zq:zP c.ntmps g w a σ)(v7:∀m,base<=m->m<base+8->zu g σ m)
  {ow:Bool}{u:Ty} (JZ:DG c o.dst t=some (.sl ow u)) (hu:V3 u=true) (Dq:len*u.size<=100000) (h:Ar c σ base o.dst u len ps.toList k=some r)
  (hK:vz c.ntmps k r g w σ base mo K):o.wp P a w K Q:=by
 obtain⟨E,v0,qB,hv,hvu⟩:=Kr wi JZ;have vN:j8 P E u:=hv.info.congr hvu;have ht:=zq.heap.tags;unfold Ar at h;split at h
 ·rename_i hps;have hf:zu g σ base:=v7 base (jq _) (by omega);obtain⟨cells,_,zn⟩:=VP (a:=a) (w:=w) qB vN Dq (ps:=ps) (by rw[hps];rfl) (by grind) (by grind);refine jL (g:=g) (σ:=σ) (σ':=σ.setObj base (.nest u [] 0 0 none)) (base:=base) (g':=yx g w.heap.size base (.row base []) (.slice (some ⟨w.heap.size,0,none⟩) 0 0)) (v:=.slice (some ⟨w.heap.size,0,none⟩) 0 0) (w':=w.alloc (.cells cells E)) ?_ ?_ (QX ht _) (λm hm wX=>⟨?_,?_⟩) rfl ?_ h (λ_ b hb=>heap_alloc_old w _ hb) hK
  ·simp_all[execOp]
  ·refine zq.new hf _ (by simp) ?_;exact O2 (by simp[yx]) (by simp[yx]) (heap_alloc_new w _)
  ·refine Kv (σ:=σ) (base:=base) (by omega) (λb=>?_) (λj hj=>.inr (by simp_all[St.setObj,zm])) (by simp[St.setObj,zD]) rfl wX
   grind[yx]
  ·grind[z7.ids]
  ·exact VB (u:=u) (l:=[]) (e:=0) (i:=0) (by simp[St.setObj,zD]) (by simp[yx]) rfl
 ·rename_i x hps;split at h
  ·rename_i av Kf;obtain⟨ex,ef⟩:=qH zq Kf;obtain⟨av',σ',g',h,qG,kM,Fm,ex',q1e⟩:=NQ zq (v7 (base+1) (by omega) (by omega)) ex h;have hK:=hK.take kM (λm hm h=>Fm m (by omega) h) q1e;have hf:=Fm base (by omega) (v7 base (jq _) (by omega));clear ex ef v7 Fm kM Kf;revert qG ex' hK hf h;generalize g'=g,σ'=σ,av'=av;intro h zq ex hK hf;obtain⟨d,σ1,g1,fr,σ2,c1,x0,Kc,vo,husz,h1,h2,h3,hs2,GX,LL,Fb,hmv⟩:=z8k zq hu ex h;have yM:=h3.st h1 zq;have ql:(a.eval x).cells.size=u.size:=by grind
   obtain⟨cells,ZA,zn⟩:=VP (a:=a) (w:=w) qB vN Dq (ps:=ps) (by rw[hps];rfl) (by grind) (by grind);rw[hps]at ZA;simp only[Qw,Z2b,Z3f,List.flatten_nil,Hc,vo]at ZA;have hq0:qS u≠[]:=by unfold qS;grind
   have QO:=h3.fresh h1 hf;let vn:Value:=.slice (some ⟨w.heap.size,0,none⟩) 1 1;let g':=Q7 g1 w.heap.size base vn x0 fr (qS u);have ht1:=yM.heap.tags;have CN:∀b,b<w.heap.size->(∀j,fr=some j->g1.tag b≠.row j [])->g'.tag b=g1.tag b:=by
    grind[Q7]
   have gU:zS w g1 (w.alloc (.cells cells E)) g':=by
    refine⟨λb hb=>?_⟩
    grind[heap_alloc_old]
   have wJ:zM (w.alloc (.cells cells E)) g' (some (base,[.idx 0])) u d (c1++[x0]):=by
    refine hmv _ _ base gU (by grind[Q7]) (λb j hj hb=>?_);have yP:=ht1 b (by grind);refine⟨?_,heap_alloc_old w _ yP⟩;simp only[g',Q7];rw[qP (by omega),qn ⟨j,hj.symm,hb⟩]
   have hfrb:∀j,some j=fr->j≠base:=λj hj he=>by subst he;exact(Fb j hj).2 QO.z6
   refine jL (g:=g) (σ:=σ) (base:=base) (σ':=σ2.setObj base (.nest u [d] 0 0 none)) (g':=g') (v:=vn) (w':=w.alloc (.cells cells E)) ?_ ?_ (h3.ext.trans ?_) (λm hm wX=>⟨?_,?_⟩) ?_ ?_ Kc (λ_ b hb=>heap_alloc_old w _ hb) hK
   ·simp only[execOp,ho];simp[zn,vn]
   ·refine FE (m:=base) yM gU (by simp[St.setObj,hs2]) (.inl QO) (λy hy=>?_) (λj hj=>?_) (λb hb=>?_)
    ·simp only[St.setObj,zD,zI]at hy;subst hy;have yU:g'.sv base []=vn:=by simp[g',Q7]
     refine⟨some ⟨w.heap.size,0,none⟩,1,by grind,yU,jq _,by grind[maxLen],.inr ⟨w.heap.size,0,cells,E,rfl,by simp[g',Q7],heap_alloc_new w _,?_,λi hi=>?_⟩⟩
     all_goals grind[gM]
    ·simp only[St.setObj];rw[zm _ _ hj];by_cases hjf:some j=fr
     ·grind
     ·refine .inr ⟨LL j hjf,⟨λq=>by grind[Q7],λq b hb=>?_⟩,rfl,λhb=>?_⟩
      all_goals grind[heap_alloc_old]
    ·simp only[g',Q7]at hb;split at hb
     ·simp_all
     ·split at hb
      ·rename_i he;obtain⟨j,_,pX⟩:=he;have:=ht1 b (by grind);simp;omega
      ·have:=ht1 b hb;simp;omega
   ·refine⟨rfl,rfl,rfl,jq _,by simp,λb hb pX=>⟨heap_alloc_old w _ hb,CN b hb (λj _ hb3=>?_)⟩⟩
    grind
   ·refine Kv (base:=base) (by omega) (λb=>?_) (λj hj=>?_) (by simp[St.setObj,zD]) (by simp[St.setObj,hs2]) (h3.fresh h1 wX)
    ·simp only[g',Q7];split
     ·grind
     ·split
      all_goals grind
    ·simp only[St.setObj]
     grind[zm]
   ·grind[z7.ids]
   ·grind[St.setObj]
   ·exact VB (u:=u) (l:=[d]) (e:=0) (i:=0) (by simp[St.setObj,zD]) (by simp[g',Q7]) rfl
  grind
 grind
theorem U4{id:Nat}{t:Ty}{l:List t.den}{v:Value}(h:zM w g (some (id,[])) (.sl true t) l [v]):
  ∃b cap pK,v=.slice b l.length cap/\g.sv id []=v/\l.length<=cap/\cap<=maxLen/\wW P w (Fk g) t.ro v (l.map (Ty.kU t)) pK/\
   ((b=none/\l=[]/\cap=0/\pK=[])\/∃bk off cc ee,b=some ⟨bk,off,none⟩/\g.tag bk=.row id []/\w.heap[bk]? = some (.cells cc ee (0,0))/\off+cap*t.size<=cc.size/\pK=qi cc.toList off (l.length*t.size)/\
    ∀(i:Nat)(h:i<l.length),zM w g (some (id,[Step.idx (i:Int)])) t (l.get ⟨i,h⟩) (qi cc.toList (off+i*t.size) t.size)):=by
 obtain⟨b,cap,hv,yU,h1,h2,h3⟩:=h;simp only[CA,Dx]at hv;subst hv;rcases h3 with⟨rfl,hl,rfl⟩|⟨bk,off,cc,ee,rfl,ze,zZ,ql,vw⟩
 ·grind[wW.of_nil]
 ·have JX:l.length*t.size<=cap*t.size:=wI _ h1;have BA:(l.map (Ty.kU t)).length=l.length:=by simp
  have htl:=wW.QW (P:=P) (w:=w) (g:=Fk g) (t:=t.ro) (m:=l.map (Ty.kU t)) (b:=bk) (off:=off) (cap:=cap) zZ (by grind[Ty.qo]) (λi hi=>by
   have wu:i<l.length:=by omega
   have hf:=zM.freeze (Jd w g) (o:=some (id,[]++[Step.idx (i:Int)])) (YY w g id _) (vw i wu)
   grind[Ty.qo])
  rw[BA,Ty.qo]at htl;exact⟨_,cap,_,rfl,yU,h1,h2,htl,.inr ⟨bk,off,cc,ee,rfl,ze,zZ,ql,rfl,λi hi=>vw i hi⟩⟩
def KL(g:z8)(id:Nat)(nb:Option Nat)(v:Value)(n i2:Nat):z8 where
 tag:=λb=>if nb=some b then .row id [] else match g.tag b with
  |.row i (.idx j::q)=>if i=i2/\j=0 then .row id (.idx (n:Int)::q) else .row i (.idx j::q)
  |t=>t
 sv:=λi q=>if i=id then (match q with
  |[]=>v
  |.idx j::q'=>if j=(n:Int) then g.sv i2 (.idx 0::q') else g.sv id (.idx j::q')
  |q=>g.sv id q) else g.sv i q
 qY:=g.qY
theorem PQ{id n i2 b:Nat}{nb:Option Nat}{v:Value}(hb:nb≠some b)(h:∀q,g.tag b≠.row i2 (.idx 0::q)):(KL g id nb v n i2).tag b=g.tag b:=by
 grind[KL]
theorem Oe{n:Nat}{w':World}{σ':St}{id i2:Nat}{t:Ty}{l l0:List t.den}{d:t.den}{e i e' i':Nat}{nb:Option Nat}{v:Value}{nb0 off cap:Nat}{c:Array Value}{ee:TypeId}{ol:Nat->List Value}{news:List Value}
  (zq:zP n g w a σ) (zg:σ.z6 id=some (.nest t l0 e i none)) (he:e<e') (hi:i<i') (hs:σ'.zy=σ.zy) (ho:σ'.z6 id=some (.nest t (l++[d]) e' i' none))
  (zm2:∀j,j≠id->(j=i2/\σ'.z6 j=none)\/(j≠i2/\σ'.z6 j=σ.z6 j)) (h2:i2=id->l=[])
  (hnb:∀b,nb=some b->w.heap.size<=b/\b<w'.heap.size) (gB:∀b,b<w.heap.size->g.tag b≠.row id []->w'.heap[b]? = w.heap[b]?) (Vy:w.heap.size<=w'.heap.size)
  (hos:w'.os=w.os) (htp:w'.tape=w.tape) (YI:w'.output=w.output) (hdr:w.drawn<=w'.drawn)
  (hv:v=.slice (some ⟨nb0,off,none⟩) (l.length+1) cap) (JX:l.length+1<=cap) (q1l:cap<=maxLen) (ze:(KL g id nb v l.length i2).tag nb0=.row id []) (zZ:w'.heap[nb0]? = some (.cells c ee (0,0))) (ql:off+cap*t.size<=c.size)
  (hold:∀(k:Nat)(h:k<l.length),zM w g (some (id,[Step.idx (k:Int)])) t (l.get ⟨k,h⟩) (ol k)) (zsd:∀k,k<l.length->qi c.toList (off+k*t.size) t.size=ol k)
  (Q0:zM w g (some (i2,[Step.idx 0])) t d news) (hnc:qi c.toList (off+l.length*t.size) t.size=news) :
  zP n (KL g id nb v l.length i2) w' a σ'/\Ext w g w' (KL g id nb v l.length i2)/\(∀m,zu g σ m->zu (KL g id nb v l.length i2) σ' m)/\(KL g id nb v l.length i2).sv id []=v:=by
 let g':=KL g id nb v l.length i2;have ht:=zq.heap.tags;have yP:∀b,g.tag b≠.qw->b<w.heap.size/\nb≠some b:=λb hb=>⟨ht b hb,λhc=>by grind⟩
 have LS:∀b,g.tag b≠.qw->(∀q,g.tag b≠.row i2 (.idx 0::q))->g.tag b≠.row id []->g'.tag b=g.tag b/\w'.heap[b]? = w.heap[b]? := λb hb hq hr=>
  ⟨PQ (yP b hb).2 hq,gB b (yP b hb).1 hr⟩
 have qU:zS w g w' g':=⟨λb hb=>by
  grind⟩
 have yU:g'.sv id []=v:=by simp[g',KL]
 refine⟨?_,?_,λm wX=>?_,yU⟩
 ·refine FE (m:=id) zq qU hs (.inr ?_) (λy hy=>?_) (λj hj=>?_) (λb hb=>?_)
  ·rw[zg,ho];exact .inr (.inr (.inr (.inr ⟨t,l0,l++[d],e,e',i,i',none,none,rfl,rfl,by omega,by omega,λh=>by omega,λh=>by omega⟩)))
  ·rw[ho]at hy;simp only[zI]at hy;subst hy;have hlen:(l++[d]).length=l.length+1:=by simp
   refine⟨some ⟨nb0,off,none⟩,cap,by grind,by grind,by omega,q1l,.inr ⟨nb0,off,c,ee,rfl,ze,zZ,ql,λk hk=>?_⟩⟩;by_cases Uc:k<l.length
   ·have va:i2≠id:=λh=>by grind
    rw[zsd k Uc];have pP:(l++[d]).get ⟨k,hk⟩=l.get ⟨k,Uc⟩:=by grind
    rw[pP];refine zM.move qU (o:=some (id,[Step.idx (k:Int)])) (o':=some (id,[]++[Step.idx (k:Int)])) ⟨λq=>?_,λq b hb=>?_⟩ (hold k Uc)
    ·have:((k:Int)=(l.length:Int))=False:=by grind
     grind[KL]
    grind
   ·have q1s:k=l.length:=by omega
    subst q1s;rw[hnc];have pP:(l++[d]).get ⟨l.length,hk⟩=d:=by simp
    rw[pP];refine zM.move qU (o:=some (i2,[Step.idx 0])) (o':=some (id,[]++[Step.idx (l.length:Int)])) ⟨λq=>?_,λq b hb=>?_⟩ Q0
    all_goals grind[KL]
  ·rcases zm2 j hj with⟨_,h⟩|⟨h3,h⟩
   ·grind
   ·refine .inr ⟨h,⟨λq=>by grind[KL],λq b hb=>?_⟩,rfl,λhb=>?_⟩
    ·simp only[JD]at hb⊢;obtain⟨h4,h5⟩:=LS b (by grind) (by grind) (by grind)
     grind
    grind
  grind[PQ]
 ·refine⟨hos,htp,YI,hdr,Vy,λb hb pX=>⟨gB b hb (by grind),PQ (λhc=>by grind) (by grind)⟩⟩
 ·have LN:m≠id:=λh=>by subst h;have:=wX.z6;grind
  have zrv:∀b,g'.tag b=g.tag b\/∃p,g'.tag b=.row id p:=by
   intro b;simp only[g',KL];split
   ·grind
   ·split
    all_goals grind
  refine Kv (base:=id) LN zrv (λj hj=>?_) (by grind) hs wX
  grind
theorem Ps{x:z7}{f:(t:Ty)->(id e i:Nat)->t.den->Option R}{r:R}(h:Nr σ x f=some r):∃id e i t d,x=.nv false id [] e/\σ.z6 id=some (.nest t [d] e i none)/\t.gY=true/\f t id e i d=some r:=by
 unfold Nr at h
 grind[zE]
theorem R7{id e i:Nat}{t:Ty}{l:List t.den}{v:Value}{h:Option PB}(ho:σ.z6 id=some (.nest t l e i h))(hv:qy w g σ.z6 (.nv false id [] e) v):v=g.sv id []:=by
 simp only[qy]at hv;obtain⟨cs,⟨x,rfl,_,hx⟩,hv⟩:=hv;have:=((hx _ _ _ _ _ ho).2 rfl).1 rfl;rw[hv];exact this
set_option maxHeartbeats 2000000 in
theorem Ni(wi:gH P c.tt){args:Array Operand}{ts:Array TypeId}(ho:o.op=.call { callee:=.builtin .append,args:=args,argTypes:=ts })(zq:zP c.ntmps g w a σ)
  {x y:Operand}{t:TypeId}{u:Ty}{ow:Bool}{av bv:z7} (hargs:args.toList=[x,y]) (QH:ts.toList=[t,t]) (JZ:c.tt t=some (.sl ow u)) (hx:ev σ x=some av) (hy:ev σ y=some bv)
  (h:uE σ u av bv (λv σ=>σ.qM c o.dst v k)=some r) (hK:vz c.ntmps k r g w σ base true K):o.wp P a w K Q:=by
 have hT:=wi _ _ JZ;simp only[qZ]at hT;obtain⟨⟨E,qB,hE⟩,_⟩:=hT;have vN:=hE.info;obtain⟨ex,efx⟩:=qH zq hx;obtain⟨ey,efy⟩:=qH zq hy;unfold uE at h;split at h
 ·-- to nil
  have hv:=Jq.1 ex;obtain⟨i2,e2,n2,t1,d,rfl,Vv,_,h⟩:=Ps h
  cases GB:t1.sk.same u.sk with
  |false=>grind
  |true=>
   rw[GB]at h;simp only[zJ]at h;have po:=Sk.qJ GB;have Vn:u.size=t1.ro.size:=by grind[Ty.qo,Ty.zX]
   obtain⟨b2,znc,news,xy,zeh,_,_,yI,wJ⟩:=U4 (P:=P) (zq.heap.z6 _ _ Vv:zM w g (some (i2,[])) (.sl true t1) [d] [g.sv i2 []]);have hyv:=R7 Vv ey;rcases wJ with⟨_,hl,_⟩|⟨bk,off,cc,ee,rfl,ze,zZ,ql,zi2,vw⟩
   ·grind
   ·rw[<-hyv]at yI;obtain⟨zs,ua,D4⟩:=x8 (P:=P) (w:=w) (ty:=0) (t:=t1.ro) (b:=none) (n:=0) (cap:=0) (pK:=[]) qB vN Vn yI (by simp) (by simp) (λw' _=>by simp[Builtin.firstCells]);have zn:=jv (P:=P) ho hargs QH (λty=>by rw[hv];exact ua);have LM:news.length=t1.size:=by rw[yI.length];simp[Ty.qo]
    have PE:=grownCap_ge w (0+([d].map (Ty.kU t1)).length) 0 E;simp only[J9,Z3y,Wq]at zn PE D4;have hgm:=grownCap_le_maxLen w 1 0 E (by grind);let J3:=grownCap w 1 0 E;obtain⟨r1,r2,r3,r4⟩:=Oe (g:=g) (σ:=σ) (id:=i2) (i2:=i2) (t:=t1) (l:=[]) (l0:=[d]) (d:=d) (e':=e2+1) (i':=n2+1) (nb:=some w.heap.size) (nb0:=w.heap.size) (off:=0) (cap:=J3) (ol:=λ_=>[]) (news:=news)
     (v:=.slice (some ⟨w.heap.size,0,none⟩) 1 J3) (σ':=σ.setObj i2 (.nest t1 [d] (e2+1) (n2+1) none)) (w':=w.drew.alloc (.cells (([]:List Value).toArray++news.toArray++zs) E)) (c:=([]:List Value).toArray++news.toArray++zs) (ee:=E)
     zq Vv (by omega) (by omega) rfl (by simp[St.setObj,zD]) (λj hj=>.inr ⟨hj,by simp_all[St.setObj,zm]⟩) (λ_=>rfl) (λb hb=>by simp_all)
     (λb hb _=>heap_alloc_old w.drew _ hb) (by simp) rfl rfl rfl (Z1h _) (by simp) (by omega) hgm (by simp[KL]) (heap_alloc_new w.drew _)
     (by
      grind[Ty.qo,Nat.sub_mul])
     (λk hk=>by grind) (λk hk=>by grind)
     (by
      simp_all)
     (by
      simp only[Z1y,Z32,Ot,Z5n,JD]
      grind[yJ,gM])
    refine jL (g:=g) (σ:=σ) (base:=base) zn r1 r2 (λm _ wX=>⟨r3 m wX,?_⟩) rfl (VB (u:=t1) (l:=[d]) (e:=e2+1) (i:=n2+1) (by simp[St.setObj,zD]) r4.symm rfl) h (λh=>Bool.noConfusion h) hK
    grind[z7.ids]
 ·-- to a row
  rename_i id ep;split at h
  ·rename_i t1 l e i zg
   cases GB:(Nat.beq e ep&&t1.sk.same u.sk) with
   |false=>grind
   |true=>
    rw[GB]at h;simp only[zJ]at h;simp only[zA]at GB;have Fs:=zE GB.1;subst Fs;have po:=Sk.qJ GB.2;have Vn:u.size=t1.ro.size:=by grind[Ty.qo,Ty.zX]
    obtain⟨i2,e2,n2,t2,d2,rfl,Vv,_,h⟩:=Ps h
    cases hbi:Nat.beq id i2 with
    |true=>grind
    |false=>
     rw[hbi]at h;simp only[zU]at h;have va:i2≠id:=λhc=>by simp_all
     obtain⟨hc,h⟩:=yz h;subst hc;obtain⟨KS,h⟩:=qT h;have KS:=X1 KS;unfold room at KS;obtain⟨b2,znc,news,xy,zeh,_,_,yI,zs8⟩:=U4 (P:=P) (zq.heap.z6 _ _ Vv:zM w g (some (i2,[])) (.sl true t2) [d2] [g.sv i2 []]);obtain⟨b1,Dk,pK,Oz,z14,hl1,hm1,z7g,zhy⟩:=U4 (P:=P) (zq.heap.z6 _ _ zg:zM w g (some (id,[])) (.sl true t2) l [g.sv id []]);have hyv:=R7 Vv ey;have hxv:=R7 zg ex;rcases zs8 with⟨_,hl,_⟩|⟨bk2,zko,cc2,ee2,rfl,GP,uQ,ZX,q1h,ztg⟩
     ·grind
     rw[<-hyv]at yI;have LM:news.length=t2.size:=by rw[yI.length];simp[Ty.qo]
     have Q0:zM w g (some (i2,[Step.idx 0])) t2 d2 news:=by
      simp_all
     have hσ:∀j,j≠id->(j=i2/\((σ.kill i2).setObj id (.nest t2 (l++[d2]) (e+1) (i+1) none)).z6 j=none)\/(j≠i2/\((σ.kill i2).setObj id (.nest t2 (l++[d2]) (e+1) (i+1) none)).z6 j=σ.z6 j):=by
      intro j hj;simp only[St.setObj,St.kill]
      grind[zm,zD]
     have zte:∀m,zu g σ m->m∉(z7.nv false id [] (e+1)).ids:=λm wX=>by
      grind[z7.ids]
     have S5:a.eval x=.slice b1 l.length Dk:=hxv.trans Oz;by_cases Sy:Dk<l.length+1
     ·obtain⟨zs,ua,D4⟩:=x8 (P:=P) (w:=w) (ty:=0) (t:=t2.ro) (b:=b1) (n:=l.length) (cap:=Dk) (pK:=pK) qB vN Vn yI (by grind) (by grind) (λw' PD=>by
       have:=z7g.cells w' PD
       grind)
      have zn:=jv (P:=P) ho hargs QH (λty=>by rw[S5];exact ua);simp only[J9,Z3y]at zn D4;have PE:=grownCap_ge w (l.length+1) Dk E;have hgm:=grownCap_le_maxLen w (l.length+1) Dk E (by grind[maxLen]);let J3:=grownCap w (l.length+1) Dk E;have hol:pK.length=l.length*t2.size:=by rw[z7g.length];simp[Ty.qo]
      obtain⟨ol,hold,zsd⟩:∃ol:Nat->List Value,(∀(k:Nat)(h:k<l.length),zM w g (some (id,[Step.idx (k:Int)])) t2 (l.get ⟨k,h⟩) (ol k))/\∀k,k<l.length->qi pK (k*t2.size) t2.size=ol k:=by
       rcases zhy with⟨_,hl,_,_⟩|⟨bk,off,cc,ee,_,_,zZ,ql,q1a,vw⟩
       ·simp_all
       ·refine⟨_,vw,λk hk=>?_⟩;have h3:(k+1)*t2.size<=l.length*t2.size:=wI _ hk
        grind[uP]
      obtain⟨r1,r2,r3,r4⟩:=Oe (g:=g) (σ:=σ) (id:=id) (i2:=i2) (t:=t2) (l:=l) (l0:=l) (d:=d2) (e':=e+1) (i':=i+1) (nb:=some w.heap.size) (nb0:=w.heap.size) (off:=0) (cap:=J3) (ol:=ol) (news:=news)
       (v:=.slice (some ⟨w.heap.size,0,none⟩) (l.length+1) J3) (σ':=(σ.kill i2).setObj id (.nest t2 (l++[d2]) (e+1) (i+1) none)) (w':=w.drew.alloc (.cells (pK.toArray++news.toArray++zs) E)) (c:=pK.toArray++news.toArray++zs) (ee:=E)
       zq zg (by omega) (by omega) rfl (by simp[St.setObj,zD]) hσ (λh=>absurd h va) (λb hb=>by simp_all)
       (λb hb _=>heap_alloc_old w.drew _ hb) (by simp) rfl rfl rfl (Z1h _) rfl PE hgm (by simp[KL]) (heap_alloc_new w.drew _)
       (by
        grind[Ty.qo,Nat.sub_mul])
       hold (λk hk=>by
        have h3:(k+1)*t2.size<=l.length*t2.size:=wI _ hk
        grind[yJ])
       Q0 (by
        rw[Wq];simp only[Z5n,XQ];have:=yB pK (news++zs.toList) (l.length*t2.size) 0 t2.size hol.symm
        grind[yJ,gM])
      exact jL (g:=g) (σ:=σ) (base:=base) zn r1 r2 (λm _ wX=>⟨r3 m wX,zte m wX⟩) rfl (VB (u:=t2) (l:=l++[d2]) (e:=e+1) (i:=i+1) (by simp[St.setObj,zD]) r4.symm rfl) h (λh=>Bool.noConfusion h) hK
     ·rcases zhy with⟨_,hl,Sw,_⟩|⟨bk,off,cc,ee,rfl,zrw,z8i,zrz,q1a,vw⟩
      ·omega
      ·have Q3:cc.toList.length=cc.size:=gT;have hmul:(l.length+1)*t2.size<=Dk*t2.size:=wI _ (by omega);rw[kK]at hmul;have ua:=x9 (P:=P) (w:=w) (ty:=0) (t:=t2.ro) (n:=l.length) (cap:=Dk) (off:=off) qB vN Vn z8i yI (by grind) (by grind[Ty.qo]);have zn:=jv (P:=P) ho hargs QH (λty=>by rw[S5];exact ua);simp only[J9,Z3y,Ty.qo]at zn;obtain⟨r1,r2,r3,r4⟩:=Oe (g:=g) (σ:=σ) (id:=id) (i2:=i2) (t:=t2) (l:=l) (l0:=l) (d:=d2) (e':=e+1) (i':=i+1) (nb:=none) (nb0:=bk) (off:=off) (cap:=Dk) (ol:=λk=>qi cc.toList (off+k*t2.size) t2.size) (news:=news)
        (v:=.slice (some ⟨bk,off,none⟩) (l.length+1) Dk) (σ':=(σ.kill i2).setObj id (.nest t2 (l++[d2]) (e+1) (i+1) none)) (w':=w.setRow bk (zB cc.toList (off+l.length*t2.size) news).toArray) (c:=(zB cc.toList (off+l.length*t2.size) news).toArray) (ee:=ee)
        zq zg (by omega) (by omega) rfl (by simp[St.setObj,zD]) hσ (λh=>absurd h va) (λb hb=>by grind)
        (λb hb pX=>setRow_other w bk b _ (λhe=>pX (he ▸ zrw))) (by simp_all) rfl rfl rfl (jq _) rfl (by omega) hm1 (by grind[PQ]) (setRow_heap w bk cc _ ee _ z8i)
        (by grind[yS])
        vw (λk hk=>by
         have h3:(k+1)*t2.size<=l.length*t2.size:=wI _ hk
         grind[j9])
        Q0 (by
         grind[x5])
       exact jL (g:=g) (σ:=σ) (base:=base) zn r1 r2 (λm _ wX=>⟨r3 m wX,zte m wX⟩) rfl (VB (u:=t2) (l:=l++[d2]) (e:=e+1) (i:=i+1) (by simp[St.setObj,zD]) r4.symm rfl) h (λh=>Bool.noConfusion h) hK
  grind
 grind
end
end
end Go.Kz
namespace Go.Kz
variable {R:Type}
def zv7(P:Program)(f:FuncId)(vals:Array Value)(w:World)(R:Value->World->Prop):Prop:=
 ((callFunc f vals).run P w=.ok (.enter f vals) w/\Calls P f vals w λe w'=>∃v,e=.returned v/\R v w')\/
 ∃v w',(callFunc f vals).run P w=.ok (.value v) w'/\R v w'
def Qz(w:World)(g:z8):(p:kG)->p.den->List Value->Prop
 |.pr (.val t) q,(x,y),v::vs=>t.zW=true/\(∃cs,zM w g none t x cs/\v=jl t.sk.isAgg cs)/\Qz w g q y vs
 |.un,_,[]=>True
 |_,_,_=>False
def PA(w:World)(g:z8)(x:z7×List Obj)(v:Value):Prop:=yH w g (zT x.2)/\qy w g (zT x.2) x.1 v
def qe(P:Program)(f:FuncId):Callee->Prop
 |.pure p res F=>∀w g d vals r,(∀b,g.tag b≠.qw->g.tag b=.ro/\b<w.heap.size)->Known w g->Qz w g p d vals->F d=some r->
   zv7 P f vals.toArray w λv w'=>∃g',Ext w g w' g'/\PA w' g' (zK res r 0) v
 |.mut fin jf qv F=>∀w g d (vals:List Value) r,vals.length=fin.zy.length->zP vals.length g w ⟨vals.toArray,[]⟩ (St.of (vb fin.zy d.1) (wO fin.z6 d.2))->
   (∀m,fin.z6.length<=m->zu g (St.of (vb fin.zy d.1) (wO fin.z6 d.2)) m)->F d=some r->
   zv7 P f vals.toArray w λv w'=>∃g',Ext w g w' g'/\yH w' g' (zT (wO qv.z6 r.2))/\
    (∀k i av,zT jf k=some i->zT ((vb qv.zy r.1).map Prod.snd) k=some av->∃u,vals[i]? = some u/\qy w' g' (zT (wO qv.z6 r.2)) av u)/\
    qy w' g' (zT (wO qv.z6 r.2)) (gd (pQ jf.length ((vb qv.zy r.1).map Prod.snd))) v
def CH(P:Program)(env:Nat->List Callee):Prop:=∀f c,c∈env f->qe P f c
def vu(g gc:z8)(n len size:Nat):z8 where
 tag:=λb=>if b<size then g.tag b else match gc.tag b with
  |.row i p=>if i<len then .row (n+i) p else .qw
  |.box i=>if i<len then .box (n+i) else .qw
  |t=>t
 sv:=λi p=>if n<=i/\i<n+len then gc.sv (i-n) p else g.sv i p
 qY:=λi=>if n<=i/\i<n+len then gc.qY (i-n) else g.qY i
theorem PW:(os:List Obj)->(σ:St)->(n id:Nat)->(σ.gz n os).z6 id=if n<=id/\id<n+os.length then zT os (id-n) else σ.z6 id
 |[],σ,n,id=>by simp[St.gz];intro h1 h2;omega
 |o::os,σ,n,id=>by
  simp only[St.gz,PW os,X4];by_cases h1:id=n
  ·subst h1;rw[qP (by omega),qn (by omega)];simp only[St.setObj,zD,Z44,zT]
  ·by_cases h2:n+1<=id/\id<n+1+os.length
   ·rw[qn h2,qn (by omega)];obtain⟨j,rfl⟩:∃j,id=n+1+j:=⟨id-(n+1),by omega⟩;have e1:n+1+j-(n+1)=j:=by omega
    have e2:n+1+j-n=j+1:=by omega
    rw[e1,e2];rfl
   ·rw[qP h2,qP (by omega)];simp only[St.setObj];rw[zm _ _ h1]
theorem Wf:(os:List Obj)->(σ:St)->(n:Nat)->(σ.gz n os).zy=σ.zy
 |[],_,_=>rfl
 |_::os,σ,n=>by simp only[St.gz];rw[Wf os];rfl
theorem PK:(os:List Obj)->(σ:St)->(n:Nat)->(σ.gz n os).next=σ.next
 |[],_,_=>rfl
 |_::os,σ,n=>by simp only[St.gz];rw[PK os];rfl
theorem zM.yV{w w':World}{g g':z8}:{o o':Ee}->{t:Ty}->{d:t.den}->{cs:List Value}->t.yV=true->zM w g o t d cs->zM w' g' o' t d cs
 |_,_,.int _,_,_,_,h=>h
 |_,_,.bool,_,_,_,h=>h
 |_,_,.str,_,_,_,h=>h
 |_,_,.unit,_,_,_,h=>h
 |_,_,.pair a b,(x,y),_,ht,h=>by
  obtain⟨c1,c2,rfl,h1,h2⟩:=h;simp only[Ty.yV,zA]at ht
  exact⟨c1,c2,rfl,zM.yV ht.1 h1,zM.yV ht.2 h2⟩
 |_,_,.arr n t,_,_,ht,h=>⟨h.1,h.2.1,λi hi=>zM.yV (by simpa[Ty.yV]using ht) (h.2.2 i hi)⟩
 |_,_,.sl _ _,_,_,ht,_=>by simp[Ty.yV]at ht
 |_,_,.ptr _,_,_,ht,_=>by simp[Ty.yV]at ht
 |_,_,.fn _ _,_,_,ht,_=>by simp[Ty.yV]at ht
 |_,_,.tree _,_,_,ht,_=>by simp[Ty.yV]at ht
theorem H2:{t:Ty}->t.flat=true->t.zW=true->t.yV=true
 |.int _,_,_=>rfl
 |.bool,_,_=>rfl
 |.str,_,_=>rfl
 |.unit,_,_=>rfl
 |.pair a b,h,k=>by
  simp only[Ty.flat,zA]at h;simp only[Ty.zW,zA]at k
  simp only[Ty.yV,H2 h.1 k.1,H2 h.2 k.2,Z46]
 |.arr _ t,h,_=>h
 |.sl true t,_,k=>by simp[Ty.zW]at k
 |.sl false t,h,_=>by simp[Ty.flat,Ty.yV]at h
 |.ptr _,h,_=>by simp[Ty.flat,Ty.yV]at h
 |.fn _ _,h,_=>by simp[Ty.flat,Ty.yV]at h
 |.tree _,h,_=>by simp[Ty.flat,Ty.yV]at h
def Carry(w:World)(g g':z8)(t:Ty):Prop:=zS w g w g'\/t.flat=true
theorem Carry.rep{w:World}{g g':z8}{t:Ty}(h:Carry w g g' t)(ht:t.zW=true){d:t.den}{cs:List Value}(hr:zM w g none t d cs):zM w g' none t d cs:=by
 rcases h with h|h
 ·exact hr.kept h
 ·exact zM.yV (H2 h ht) hr
theorem Carry.row{w:World}{g g':z8}{t:Ty}(h:Carry w g g' (.sl true t)){l:List t.den}{i j:Nat}(hm:Zi w g w g' i [] j []){v:Value}(hr:zM w g (some (i,[])) (.sl true t) l [v]):
  zM w g' (some (j,[])) (.sl true t) l [v]:=by
 rcases h with h|h
 ·exact zM.move h (o:=some (i,[])) (o':=some (j,[])) hm hr
 ·obtain⟨a,cap,hv,h0,h1,h2,h3⟩:=hr;have yU:=hm.sv [];simp only[Hc]at yU;refine⟨a,cap,hv,yU.trans h0,h1,h2,?_⟩;rcases h3 with h3|⟨b,off,c,e,ha,ht,hb,hs,he⟩
  ·exact .inl h3
  ·have hk:=hm.qY [] b (by simpa using ht);simp only[Hc]at hk;exact .inr ⟨b,off,c,e,ha,hk.1,hb,hs,λi hi=>zM.yV h (he i hi)⟩
theorem wA:(t:Ty)->(d:t.den)->(n m:Nat)->(zj t d n).2=(zj t d m).2/\(zj.zr t d n).2=(zj.zr t d m).2
 |.sl true t,l,n,m=>⟨rfl,rfl⟩
 |.sl false t,l,n,m=>⟨rfl,rfl⟩
 |.int _,_,_,_=>⟨rfl,rfl⟩
 |.bool,_,_,_=>⟨rfl,rfl⟩
 |.str,_,_,_=>⟨rfl,rfl⟩
 |.unit,_,_,_=>⟨rfl,rfl⟩
 |.arr _ _,_,_,_=>⟨rfl,rfl⟩
 |.ptr _,_,_,_=>⟨rfl,rfl⟩
 |.fn _ _,_,_,_=>⟨rfl,rfl⟩
 |.tree _,_,_,_=>⟨rfl,rfl⟩
 |.pair a b,(x,y),n,m=>by
  have ha:=(wA a x n m).1;have hb:=λn m=>(wA b y n m).2
  have e2:(zj.zr (.pair a b) (x,y) n).2=(zj.zr (.pair a b) (x,y) m).2:=by
   simp only[zj.zr];rw[ha,hb _ (m+(zj a x m).2.length)]
  refine⟨?_,e2⟩;simp only[zj];cases (Ty.pair a b).zW
  ·simp only[zU];rw[ha,hb _ (m+(zj a x m).2.length)]
  ·rfl
theorem Zb:(t:Ty)->(d:t.den)->(n:Nat)->(∀o∈(zj t d n).2,∃u l,o=Obj.row u l 0/\(t.flat=true->u.yV=true))/\
  (∀o∈(zj.zr t d n).2,∃u l,o=Obj.row u l 0/\(t.flat=true->u.yV=true))
 |.sl true t,l,n=>⟨by intro o ho;simp only[zj,Om]at ho;exact⟨t,l,ho,λh=>h⟩,by simp[zj.zr]⟩
 |.sl false t,l,n=>⟨by simp[zj],by simp[zj.zr]⟩
 |.int _,_,_=>⟨by simp[zj],by simp[zj.zr]⟩
 |.bool,_,_=>⟨by simp[zj],by simp[zj.zr]⟩
 |.str,_,_=>⟨by simp[zj],by simp[zj.zr]⟩
 |.unit,_,_=>⟨by simp[zj],by simp[zj.zr]⟩
 |.arr _ _,_,_=>⟨by simp[zj],by simp[zj.zr]⟩
 |.ptr _,_,_=>⟨by simp[zj],by simp[zj.zr]⟩
 |.fn _ _,_,_=>⟨by simp[zj],by simp[zj.zr]⟩
 |.tree _,_,_=>⟨by simp[zj],by simp[zj.zr]⟩
 |.pair a b,(x,y),n=>by
  have ha:=λn=>(Zb a x n).1
  have hb:=λn=>(Zb b y n).2
  have e2:∀o∈(zj.zr (.pair a b) (x,y) n).2,∃u l,o=Obj.row u l 0/\((Ty.pair a b).flat=true->u.yV=true):=by
   intro o ho;simp only[zj.zr,PH]at ho;rcases ho with ho|ho
   ·obtain⟨u,l,h1,h2⟩:=ha _ o ho;exact⟨u,l,h1,λh=>h2 (by simp only[Ty.flat,zA]at h;exact h.1)⟩
   ·obtain⟨u,l,h1,h2⟩:=hb _ o ho;exact⟨u,l,h1,λh=>h2 (by simp only[Ty.flat,zA]at h;exact h.2)⟩
  refine⟨?_,e2⟩;intro o ho;simp only[zj]at ho
  cases hr:(Ty.pair a b).zW with
  |true=>rw[hr]at ho;simp at ho
  |false=>
   rw[hr]at ho;exact e2 o ho
structure Mf (gc g:z8) (n len:Nat) (oc o:qQ):Prop where
 z6:∀i,i<len->o (n+i)=oc i
 sv:∀i p,i<len->g.sv (n+i) p=gc.sv i p
theorem Carry.left{w:World}{g g':z8}{a b:Ty}(h:Carry w g g' (.pair a b)):Carry w g g' a:=by
 rcases h with h|h
 ·exact .inl h
 ·simp only[Ty.flat,zA]at h;exact .inr h.1
theorem Carry.right{w:World}{g g':z8}{a b:Ty}(h:Carry w g g' (.pair a b)):Carry w g g' b:=by
 rcases h with h|h
 ·exact .inl h
 ·simp only[Ty.flat,zA]at h;exact .inr h.2
theorem KP{w:World}{gc g:z8}{n len:Nat}{oc o:qQ}(hs:Mf gc g n len oc o):(t:Ty)->(d:t.den)->(m:Nat)->Carry w gc g t->
  (∀cs,m+(zj t d m).2.length<=len->jO w gc oc (zj t d m).1 cs->jO w g o (zj t d (n+m)).1 cs)/\
  (∀cs,m+(zj.zr t d m).2.length<=len->jO w gc oc (zj.zr t d m).1 cs->jO w g o (zj.zr t d (n+m)).1 cs)
 |.sl true t,l,m,hc=>by
  refine⟨λcs hl h=>?_,λcs _ h=>h⟩;obtain⟨v,hv,qN,hx⟩:=h;have hm:m<len:=by simp only[zj,Z3y]at hl;omega
  refine⟨v,hv,qN,λt l e he=>?_⟩;rw[hs.z6 m hm]at he;obtain⟨h1,h2⟩:=hx _ _ _ he
  exact⟨h1,λh=>by rw[hs.sv m [] hm];exact h2 h⟩
 |.sl false t,l,m,hc=>⟨λcs _ h=>⟨h.1,hc.rep h.1 h.2⟩,λcs _ h=>h⟩
 |.int _,_,m,hc=>⟨λcs _ h=>⟨h.1,hc.rep h.1 h.2⟩,λcs _ h=>h⟩
 |.bool,_,m,hc=>⟨λcs _ h=>⟨h.1,hc.rep h.1 h.2⟩,λcs _ h=>h⟩
 |.str,_,m,hc=>⟨λcs _ h=>⟨h.1,hc.rep h.1 h.2⟩,λcs _ h=>h⟩
 |.unit,_,m,hc=>⟨λcs _ h=>⟨h.1,hc.rep h.1 h.2⟩,λcs _ h=>h⟩
 |.arr _ _,_,m,hc=>⟨λcs _ h=>⟨h.1,hc.rep h.1 h.2⟩,λcs _ h=>h⟩
 |.ptr _,_,m,hc=>⟨λcs _ h=>⟨h.1,hc.rep h.1 h.2⟩,λcs _ h=>h⟩
 |.fn _ _,_,m,hc=>⟨λcs _ h=>⟨h.1,hc.rep h.1 h.2⟩,λcs _ h=>h⟩
 |.tree _,_,m,hc=>⟨λcs _ h=>⟨h.1,hc.rep h.1 h.2⟩,λcs _ h=>h⟩
 |.pair a b,(x,y),m,hc=>by
  have ha:=λm=>(KP hs a x m hc.left).1
  have hb:=λm=>(KP hs b y m hc.right).2
  have hl:(zj a x (n+m)).2.length=(zj a x m).2.length:=by rw[(wA a x (n+m) m).1]
  have key:∀cs,m+((zj a x m).2++(zj.zr b y (m+(zj a x m).2.length)).2).length<=len->
    (∃c1 c2,cs=c1++c2/\jO w gc oc (zj a x m).1 c1/\jO w gc oc (zj.zr b y (m+(zj a x m).2.length)).1 c2)->
    ∃c1 c2,cs=c1++c2/\jO w g o (zj a x (n+m)).1 c1/\jO w g o (zj.zr b y (n+m+(zj a x (n+m)).2.length)).1 c2:=by
   intro cs hle ⟨c1,c2,Zw,h1,h2⟩;rw[Jz]at hle;refine⟨c1,c2,Zw,ha m c1 (by omega) h1,?_⟩;rw[hl,Z2e];exact hb _ c2 (by omega) h2
  refine⟨λcs hle h=>?_,λcs hle h=>key cs (by simpa only[zj.zr]using hle) h⟩;simp only[zj]at hle h⊢
  cases hr:(Ty.pair a b).zW with
  |true=>
   rw[hr]at h;simp only[zJ]at h⊢
   exact⟨h.1,hc.rep h.1 h.2⟩
  |false=>
   rw[hr]at h hle;simp only[zU]at h hle⊢;exact key cs hle h
theorem OC:(t:Ty)->(d:t.den)->(n m:Nat)->(zj t d n).1.isAgg=(zj t d m).1.isAgg
 |.sl true t,l,n,m=>rfl
 |.sl false t,l,n,m=>rfl
 |.int _,_,_,_=>rfl
 |.bool,_,_,_=>rfl
 |.str,_,_,_=>rfl
 |.unit,_,_,_=>rfl
 |.arr _ _,_,_,_=>rfl
 |.ptr _,_,_,_=>rfl
 |.fn _ _,_,_,_=>rfl
 |.tree _,_,_,_=>rfl
 |.pair a b,(x,y),n,m=>by
  simp only[zj];cases (Ty.pair a b).zW<;>rfl
theorem uf:(t:Ty)->(d:t.den)->(n:Nat)->(∀x y,(zj t d n).1≠.pr x y)/\(zj t d n).1≠.un/\∀c,(zj t d n).1≠.jD c
 |.sl true t,l,n=>⟨by simp[zj],by simp[zj],by simp[zj]⟩
 |.sl false t,l,n=>⟨by simp[zj],by simp[zj],by simp[zj]⟩
 |.int _,_,_=>⟨by simp[zj],by simp[zj],by simp[zj]⟩
 |.bool,_,_=>⟨by simp[zj],by simp[zj],by simp[zj]⟩
 |.str,_,_=>⟨by simp[zj],by simp[zj],by simp[zj]⟩
 |.unit,_,_=>⟨by simp[zj],by simp[zj],by simp[zj]⟩
 |.arr _ _,_,_=>⟨by simp[zj],by simp[zj],by simp[zj]⟩
 |.ptr _,_,_=>⟨by simp[zj],by simp[zj],by simp[zj]⟩
 |.fn _ _,_,_=>⟨by simp[zj],by simp[zj],by simp[zj]⟩
 |.tree _,_,_=>⟨by simp[zj],by simp[zj],by simp[zj]⟩
 |.pair a b,(x,y),n=>by
  simp only[zj];cases (Ty.pair a b).zW<;>simp
theorem KG{w:World}{gc g:z8}{n len:Nat}{oc o:qQ}(hs:Mf gc g n len oc o)(t:Ty)(d:t.den)(m:Nat)(hc:Carry w gc g t){v:Value}
  (hl:m+(zj t d m).2.length<=len) (h:qy w gc oc (zj t d m).1 v):qy w g o (zj t d (n+m)).1 v:=by
 obtain⟨cs,zc,hv⟩:=gq h (uf t d m).2.2;exact y8 ((KP hs t d m hc).1 cs hl zc) (by rw[hv,OC t d (n+m) m]) (uf t d _).1 (uf t d _).2.1
theorem ZZ:(t:Ty)->(d:t.den)->(n:Nat)->(∀i∈(zj t d n).1.ids,n<=i/\i<n+(zj t d n).2.length)/\(∀i∈(zj.zr t d n).1.ids,n<=i/\i<n+(zj.zr t d n).2.length)
 |.sl true t,l,n=>⟨by simp[zj,z7.ids],by simp[zj.zr,z7.ids]⟩
 |.sl false t,l,n=>⟨by simp[zj,z7.ids],by simp[zj.zr,z7.ids]⟩
 |.int _,_,_=>⟨by simp[zj,z7.ids],by simp[zj.zr,z7.ids]⟩
 |.bool,_,_=>⟨by simp[zj,z7.ids],by simp[zj.zr,z7.ids]⟩
 |.str,_,_=>⟨by simp[zj,z7.ids],by simp[zj.zr,z7.ids]⟩
 |.unit,_,_=>⟨by simp[zj,z7.ids],by simp[zj.zr,z7.ids]⟩
 |.arr _ _,_,_=>⟨by simp[zj,z7.ids],by simp[zj.zr,z7.ids]⟩
 |.ptr _,_,_=>⟨by simp[zj,z7.ids],by simp[zj.zr,z7.ids]⟩
 |.fn _ _,_,_=>⟨by simp[zj,z7.ids],by simp[zj.zr,z7.ids]⟩
 |.tree _,_,_=>⟨by simp[zj,z7.ids],by simp[zj.zr,z7.ids]⟩
 |.pair a b,(x,y),n=>by
  have ha:=λn=>(ZZ a x n).1
  have hb:=λn=>(ZZ b y n).2
  have e2:∀i∈(zj.zr (.pair a b) (x,y) n).1.ids,n<=i/\i<n+(zj.zr (.pair a b) (x,y) n).2.length:=by
   intro i hi;simp only[zj.zr,z7.ids,PH,Jz]at hi⊢;rcases hi with hi|hi
   ·have:=ha _ i hi;omega
   ·have:=hb _ i hi;omega
  refine⟨?_,e2⟩;intro i hi;simp only[zj]at hi⊢
  cases hr:(Ty.pair a b).zW with
  |true=>rw[hr]at hi;simp[z7.ids]at hi
  |false=>
   rw[hr]at hi;rw[zU]at hi⊢;exact e2 i hi
end Go.Kz
