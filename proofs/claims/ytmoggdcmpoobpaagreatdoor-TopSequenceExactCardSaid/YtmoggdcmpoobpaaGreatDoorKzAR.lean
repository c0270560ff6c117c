/-
  Regions whose order is drawn: operations that look at different objects may be taken in any order.
-/
import Derived.Test.YtmoggdcmpoobpaaGreatDoorKzADE
import Derived.LoopN
import Derived.OpenShut
import Derived.ShutString
import Derived.ChangeOld
import Derived.Below
import Derived.Laws.Cover3
set_option linter.unusedVariables false
set_option linter.unusedSimpArgs false
namespace Go.Kz
variable {R:Type}
structure Ef where
 i:Nat
 o:Oper
 F:List Nat
 e:xp
structure Good (base:Nat) (t:Ef):Prop where
 guard:t.o.guard=none
 q00:Kg t.o=false
 sl:∀d v,t.e.sl=some (d,v)->t.o.dst=some d
 ob:∀x∈t.e.ob,N1 base t.i t.F x.1=true
 y:gP t.o=true->t.e.ob=[]
def Loc(c:Ctx)(base:Nat)(t:Ef)(σ:St):Prop:=
 ∀τ,xg t.o.op.operands.toList σ τ->(∀id,N1 base t.i t.F id=true->τ.z6 id=σ.z6 id)->∀(R':Type)(k':St->Option R'),qq c τ (base+8*t.i) t.o k'=k' (t.e.app τ)
def Tr(c:Ctx)(base:Nat):List Ef->St->St->Prop
 |[],σ,σE=>σ=σE
 |t::T,σ,σE=>Loc c base t σ/\Tr c base T (t.e.app σ) σE
abbrev Ind(base:Nat)(dst:Nat->Option Nat)(s t:Ef):Prop:=indep base dst s.i s.o s.F t.i t.o t.F=true
theorem Loc.zu5{c:Ctx}{base:Nat}{t:Ef}{σ σ':St}(h:Loc c base t σ)(hs:xg t.o.op.operands.toList σ σ')(ho:∀id,N1 base t.i t.F id=true->σ'.z6 id=σ.z6 id):Loc c base t σ':=
 λτ h1 h2=>h τ (λx hx=>(h1 x hx).trans (hs x hx)) (λid hid=>(h2 id hid).trans (ho id hid))
theorem xp.z04(e:xp)(σ:St):(e.slot σ).z6=σ.z6:=by unfold xp.slot;split<;>rfl
theorem xp.z05(e:xp)(σ:St):(e.slot σ).next=σ.next:=by unfold xp.slot;split<;>rfl
theorem xp.W9{e:xp}{σ:St}{i:Nat}(h:i∉e.ob.map Prod.fst):(e.app σ).z6 i=σ.z6 i:=by
 grind[xp.app,Jm,xp.z04]
theorem xp.xm(e:xp)(σ:St):(e.app σ).zy=(e.slot σ).zy:=YW _ _
theorem xp.MP(e:xp)(σ:St):(e.app σ).next=σ.next:=by
 grind[xp.app,Dd,xp.z05]
theorem zd7{c:Ctx}{base:Nat}{i:Nat}{o:Oper}{F:List Nat}{e:xp}{σ:St}(h:Run c (σ.only (N1 base i F)) (base+8*i) o e):Loc c base ⟨i,o,F,e⟩ σ:=by
 intro τ hs ho R' k';refine h.eq τ hs (λid x hx=>?_) R' k'
 grind[St.only]
theorem z13{base i:Nat}{F:List Nat}{x:Nat}(h:base+8*i<=x/\x<base+8*i+8):N1 base i F x=true:=by
 grind[Nat.ble_eq_true_of_le,Nat.blt,N1]
theorem XC{base i:Nat}{F:List Nat}{x:Nat}:N1 base i F x=true↔x∈F\/(base+8*i<=x/\x<base+8*i+8):=by
 simp_all[N1,jK]
theorem zkc{c:Ctx}{base:Nat}{i:Nat}{o:Oper}{F:List Nat}{e:xp}{σ:St}(h:Run c (σ.only (N1 base i F)) (base+8*i) o e):∀x∈e.ob,N1 base i F x.1=true:=by
 intro x hx;rcases h.ob x hx with⟨y,hy⟩|h2
 all_goals grind[St.only,z13]
theorem zdd{p:Nat->Bool}{e:xp}{σ:St}(h:∀x∈e.ob,p x.1=true):σ.over (e.app (σ.only p)) p=e.app σ:=by
 refine St.ext' ?_ ?_ ?_
 ·simp only[St.over,xp.xm];unfold xp.slot;split<;>rfl
 ·funext i;simp only[St.over]
  cases hp:p i with
  |true=>
   simp only[zJ];by_cases hm:i∈e.ob.map Prod.fst
   ·exact XX _ _ _ hm
   grind[xp.W9,St.only]
  |false=>
   grind[xp.W9]
 ·exact(xp.MP e σ).symm
theorem Na{c:Ctx}{σ:St}{p:Nat->Bool}{o:Oper}(h:Jx c σ o=true):Jx c (σ.only p) o=true:=by
 have he:∀x,ev (σ.only p) x=ev σ x:=λx=>zo (l:=[x]) (λ_ _=>rfl) (by simp)
 grind[VG,Jx]
theorem Io{base:Nat}{dst:Nat->Option Nat}{j:Nat}{p:Oper}{G:List Nat}:{acc:zgp}->RH base dst j p G acc=true->∀a∈acc,j∈a.2.2\/indep base dst a.1.1 a.1.2 a.2.1 j p G=true
 |[],_,a,ha=>by grind
 |((i,o),F,lat)::l,h,a,ha=>by
  simp only[RH,zA,CX,jK]at h;rcases gJ.1 ha with rfl|ha
  ·grind
  ·exact Io h.2 a ha
theorem SV{c:Ctx}{base:Nat}{dst:Nat->Option Nat}{all:List (Nat×Oper)}:(B:List (Nat×Oper))->{acc:zgp}->{σ:St}->{k:St->Option R}->{r:R}->FW B=true->zf5 c base dst all B acc σ k=some r->
  ∃T σE,T.map (λt:Ef=>(t.i,t.o))=B/\Tr c base T σ σE/\k σE=some r/\(∀t∈T,Good base t)/\(∀t∈T,∀a∈acc,t.i∈a.2.2\/indep base dst a.1.1 a.1.2 a.2.1 t.i t.o t.F=true)/\
   T.Pairwise λs t=>t.i∈jT s.i all []\/Ind base dst s t
 |[],acc,σ,k,r,_,h=>⟨[],σ,rfl,rfl,h,by simp,by simp,List.Pairwise.nil⟩
 |(i,o)::B,acc,σ,k,r,hp,h=>by
  simp only[FW,zA,PF]at hp;simp only[zf5]at h;obtain⟨hc,h⟩:=zh h;simp only[zA]at hc;obtain⟨e,h,zn⟩:=z5q (Na hc.1) h;have hob:=zkc zn;rw[zdd hob]at h;obtain⟨T,σE,h1,h2,h3,h4,h5,h6⟩:=SV B hp.2 h;refine⟨⟨i,o,Lo σ o,e⟩::T,σE,by grind,⟨zd7 zn,h2⟩,h3,?_,?_,?_⟩
  ·intro t ht;rcases gJ.1 ht with rfl|ht
   ·refine⟨?_,hp.1.2,zn.sl,hob,zn.y⟩
    grind
   grind
  ·intro t ht a ha
   grind[Io]
  simp_all
theorem FG{base i:Nat}:{l:List Nat}->z5d base i l=true->∀x∈l,¬(base+8*i<=x/\x<base+8*i+8)
 |[],_,x,hx=>by grind
 |y::l,h,x,hx=>by
  simp only[z5d,zA,PF]at h;rcases gJ.1 hx with rfl|hx
  ·grind[Nat.ble_eq_true_of_le,Nat.blt]
  ·exact FG h.2 x hx
structure zix (base:Nat) (dst:Nat->Option Nat) (s t:Ef):Prop where
 ne:s.i≠t.i
 ap:VX dst s.o t.o=true
 st:∀x∈s.e.ob,N1 base t.i t.F x.1=false
 ts:∀x∈t.e.ob,N1 base s.i s.F x.1=false
theorem z11{base:Nat}{dst:Nat->Option Nat}{s t:Ef}(hs:Good base s)(ht:Good base t)(h:Ind base dst s t):zix base dst s t:=by
 unfold Ind indep at h;simp only[zA,CX,PF]at h;obtain⟨⟨⟨⟨h1,h2⟩,h3⟩,h4⟩,h5⟩:=h;have va:s.i≠t.i:=by
  grind[Nat.beq_refl]
 have h4':=FG h4;have h5':=FG h5;have fl:∀{b:Bool},(b=true->False)->b=false:=λ{b} h=>by grind
 refine⟨va,h2,λx hx=>fl λu6=>?_,λx hx=>fl λu6=>?_⟩
 ·rcases h3 with⟨hy,_⟩|Ua
  ·rw[hs.y hy]at hx;grind
  ·rw[gh]at Ua;rcases XC.1 (hs.ob x hx) with h|h<;>rcases XC.1 u6 with h'|h'
   all_goals grind
 ·rcases h3 with⟨_,hy⟩|Ua
  ·rw[ht.y hy]at hx;grind
  ·rw[gh]at Ua;rcases XC.1 (ht.ob x hx) with h|h<;>rcases XC.1 u6 with h'|h'
   all_goals grind
theorem Ut{dst:Nat->Option Nat}{x y:Oper}(h:VX dst x y=true):
  (∀d,x.dst=some d->(.tmp d)∉y.op.operands.toList)/\(∀d,y.dst=some d->(.tmp d)∉x.op.operands.toList)/\∀d,x.dst=some d->y.dst≠some d:=by
 unfold VX at h;simp only[zA]at h;obtain⟨h1,h2⟩:=h;refine⟨λd hd hm=>?_,λd hd hm=>?_,λd hd he=>?_⟩
 ·rw[hd]at h1;simp only[zA,PF,Kw,Wh]at h1;rw[qA]at h1;exact h1.1.1 (VH.2 hm)
 ·rw[hd]at h2;simp only[PF,Kw,Wh]at h2;rw[qA]at h2;exact h2.1 (VH.2 hm)
 simp_all
theorem IG{base:Nat}{s:Ef}{l:List Operand}(hs:Good base s)(h:∀d,s.o.dst=some d->(.tmp d)∉l)(σ:St):xg l σ (s.e.app σ):=by
 intro x hx;rw[xp.xm];unfold xp.slot;split
 ·rename_i d v Oj;simp only[St.set,Y4];have hb:Nat.beq x d=false:=by
   cases hb:Nat.beq x d with
   |false=>rfl
   |true=>
    have he:=zE hb;subst he;exact absurd hx (h x (hs.sl x v Oj))
  grind
 ·rfl
theorem It{base i:Nat}{F:List Nat}{s:Ef}(h:∀x∈s.e.ob,N1 base i F x.1=false)(σ:St):∀id,N1 base i F id=true->(s.e.app σ).z6 id=σ.z6 id:=by
 grind[xp.W9]
theorem za9{base:Nat}{dst:Nat->Option Nat}{s t:Ef}(hs:Good base s)(ht:Good base t)(h:zix base dst s t)(σ:St):t.e.app (s.e.app σ)=s.e.app (t.e.app σ):=by
 have Ua:∀i,i∈s.e.ob.map Prod.fst->i∉t.e.ob.map Prod.fst:=by
  intro i h1 h2;obtain⟨x,hx,rfl⟩:=pe.1 h1;obtain⟨y,hy,he⟩:=pe.1 h2;have q1:=h.st x hx;have q2:=ht.ob y hy
  grind
 refine St.ext' ?_ ?_ ?_
 ·rw[xp.xm,xp.xm];funext i;have e1:∀(e:xp)(a b:St),a.zy=b.zy->(e.slot a).zy=(e.slot b).zy:=by
   grind[xp.slot,St.set]
  rw[e1 t.e _ _ (xp.xm s.e σ),e1 s.e _ _ (xp.xm t.e σ)];unfold xp.slot
  cases Oj:s.e.sl with
  |none=>rfl
  |some x=>
   obtain⟨d,v⟩:=x
   cases htl:t.e.sl with
   |none=>rfl
   |some y=>
    obtain⟨d',v'⟩:=y;have hd:=hs.sl d v Oj;have I1:=ht.sl d' v' htl;have va:d≠d':=λhe=>(Ut h.ap).2.2 d hd (by grind)
    simp only[St.set,Y4]
    grind[zE]
 ·funext i;by_cases h1:i∈s.e.ob.map Prod.fst
  ·rw[xp.W9 (Ua i h1)];exact XX _ _ _ h1
  ·rw[xp.W9 h1];by_cases h2:i∈t.e.ob.map Prod.fst
   ·exact XX _ _ _ h2
   grind[xp.W9]
 grind[xp.MP]
theorem Ij{c:Ctx}{base:Nat}{dst:Nat->Option Nat}{t:Ef}{post:List Ef}{σE:St}(ht:Good base t):(pre:List Ef)->{σ:St}->(∀s∈pre,Good base s/\Ind base dst s t)->Tr c base (pre++t::post) σ σE->
  Loc c base t σ/\Tr c base (pre++post) (t.e.app σ) σE
 |[],σ,_,h=>h
 |s::pre,σ,hp,h=>by
  obtain⟨hg,hi⟩:=hp s (by simp);have ha:=z11 hg ht hi;obtain⟨h1,h2⟩:=h;obtain⟨h3,h4⟩:=Ij ht pre (λx hx=>hp x (by grind)) h2;have hl:=Ut ha.ap;have pj:xg t.o.op.operands.toList σ (s.e.app σ):=IG hg hl.1 σ;refine⟨h3.zu5 (λx hx=>(pj x hx).symm) (λid hid=>(It ha.st σ id hid).symm),?_⟩;refine⟨h1.zu5 (IG ht hl.2.1 σ) (It ha.ts σ),?_⟩;rw[<-za9 hg ht ha];exact h4
def Lin:List Nat->List (Nat×Oper)->Prop
 |_,[]=>True
 |d,(i,o)::l=>(∀x∈w9 o.after.toList,x∈d)/\Lin (i::d) l
theorem Lin.mono:{l:List (Nat×Oper)}->{d d':List Nat}->(∀x∈d,x∈d')->Lin d l->Lin d' l
 |[],_,_,_,_=>trivial
 |(i,o)::l,d,d',hd,h=>⟨λx hx=>hd x (h.1 x hx),Lin.mono (λx hx=>by
   grind) h.2⟩
theorem Lin.take{j:Nat}{p:Oper}{post:List (Nat×Oper)}:(pre:List (Nat×Oper))->{d:List Nat}->Lin d (pre++(j,p)::post)->Lin (j::d) (pre++post)
 |[],d,h=>h.2
 |(i,o)::pre,d,h=>⟨λx hx=>On _ (h.1 x hx),by
   refine(Lin.take pre h.2).mono λx hx=>?_
   grind⟩
section
variable {P:Program}{ops:Array Oper}{Q:Exit->Act->World->Prop}
theorem Bp{b:Nat}:zal .any ops b (jT b (zV 0 ops.toList) [])/\∀x∈jT b (zV 0 ops.toList) [],x<ops.size:=by
 have:=Z9 (i:=b) (l:=zV 0 ops.toList) (acc:=[]) (G:=λx=>x<ops.size/\∀ox,ops[x]? = some ox->∃e∈ox.after,Region.binds .any e=true/\(e.on=b\/e.on∈jT b (zV 0 ops.toList) [])) (by simp) (λj oj hm hy=>by
  have gR:=ju _ hm;refine⟨vM gR,λox Ow=>?_⟩;simp only at gR;rw[gR]at Ow;simp only[zI]at Ow;subst Ow;obtain⟨y,hy1,hy2⟩:=hy;obtain⟨e,he,XE,rfl⟩:=jb.1 hy1
  grind)
 exact⟨λx hx=>(this x hx).2,λx hx=>(this x hx).1⟩
theorem z8m{c:Ctx}{base:Nat}{g0:z8}{w0:World}{σ0 σE:St}{B0:List Nat}(hc:xW P c)
  (HK:∀g a w,zP c.ntmps g w a σE->Ext w0 g0 w g->(∀m,(∀i∈B0,m<base+8*i\/base+8*i+8<=m)->zu g0 σ0 m->zu g σE m)->Q .normal a w) :
  (n:Nat)->{T:List Ef}->T.length=n->{σ:St}->{g:z8}->{a:Act}->{w:World}->{listed:Array Bool}->{done:List Nat}->
  Tr c base T σ σE->(∀t∈T,Good base t/\ops[t.i]? = some t.o/\t.i∈B0)->(T.Pairwise λs t=>t.i∈jT s.i (zV 0 ops.toList) []\/Ind base (gu ops.toList) s t)->(T.map Ef.i).Nodup->
  Lin done (T.map λt=>(t.i,t.o))->zP c.ntmps g w a σ->(∀t∈T,∀m,base+8*t.i<=m->m<base+8*t.i+8->zu g σ m)->Rel ops listed done->(∀x∈done,x<ops.size)->(∀x,x<ops.size->(x∈done↔x∉T.map Ef.i))->
  (∀t∈T,∀x∈jT t.i (zV 0 ops.toList) [],x∉done)->Ext w0 g0 w g->(∀m,(∀i∈B0,m<base+8*i\/base+8*i+8<=m)->zu g0 σ0 m->zu g σ m)->Q8 false P .any ops Q n listed a w
 |0,T,hl,σ,g,a,w,listed,done,htr,_,_,_,_,zq,_,Uw,hds,hdn,_,qm,hfo=>by
  have hT:T=[]:=Z3h hl;subst hT;have zlr:σ=σE:=htr;subst zlr;refine⟨?_,HK g a w zq qm hfo⟩;rw[Z4x];intro j hj;obtain⟨_,oj,gR,_⟩:=mem_ready.1 hj;have h1:=(jS Uw hds gR).1 hj
  grind
 |n+1,T,hl,σ,g,a,w,listed,done,htr,hT,hpw,hnd,zst,zq,v7,Uw,hds,hdn,hinv,qm,hfo=>by
  refine⟨λh0=>?_,λj hj=>?_⟩
  ·exfalso
   cases T with
   |nil=>grind
   |cons t T=>
    obtain⟨_,hto,_⟩:=hT t (by simp);have:t.i∈Region.ready .any ops listed:=by
     refine(jS Uw hds hto).2 ⟨λhd=>?_,?_⟩
     ·grind
     ·unfold Zl;rw[Wz];exact zst.1
    grind
  ·obtain⟨zes,oj,gR,_⟩:=mem_ready.1 hj;have hrd:=(jS Uw hds gR).1 hj;have hjT:j∈T.map Ef.i:=by
    grind
   obtain⟨t,htT,hti⟩:=pe.1 hjT;obtain⟨pre,post,rfl⟩:=List.append_of_mem htT;obtain⟨hg,hto,htB⟩:=hT t htT;have hmem:∀x∈pre++post,x∈pre++t::post:=by
    grind
   have xN:∀s∈pre,Good base s/\Ind base (gu ops.toList) s t:=by
    intro s hs;have hsT:s∈pre++t::post:=PH.2 (.inl hs);obtain⟨hgs,Eg,_⟩:=hT s hsT;refine⟨hgs,?_⟩;rcases (List.pairwise_append.1 hpw).2.2 s hs t (by simp) with h|h
    ·exfalso;have hw:=Bp (ops:=ops) (b:=s.i);refine PL hw.1 (λx hx=>?_) ?_ hj (hti ▸ h)
     ·rw[Uw.getD (hw.2 x hx)];exact qA.2 (hinv s hsT x hx)
     ·rw[Uw.getD (vM Eg)];refine qA.2 λhd=>?_
      grind
    omega
   obtain⟨q1p,zlr⟩:=Ij hg pre xN htr;have q1c:oj=t.o:=by
    grind
   subst q1c;subst hti;have va:∀x∈pre++post,x.i≠t.i:=by
    grind
   have hk:No c σ (base+8*t.i) t.o some=some (t.e.app σ):=by
    simp only[No,hg.q00,zU];exact q1p σ (λ_ _=>rfl) (λ_ _=>rfl) St some
   have yQ:t.o.wp P a w (λa' w'=>(N0 t.o=false->vq w w')/\Q8 false P .any ops Q n (listed.setIfInBounds t.i true) a' w') Q:=by
    refine UM (base:=base+8*t.i) hc zq (λm h1 h2=>v7 t htT m h1 h2) hk ?_;intro σ1 g1 a1 w1 h1 yM yC QO WR w8;refine⟨w8,?_⟩;simp only[zI]at h1;subst h1;refine z8m hc HK n (T:=pre++post) ?_ zlr (λx hx=>hT x (hmem x hx)) ?_ ?_ ?_ yM (λx hx m q1 q2=>QO m ?_ (v7 x (hmem x hx) m q1 q2)) Uw.add (λx hx=>?_) (λx hx=>?_) (λx hx y hy=>?_) (qm.trans yC) (λm hm hf=>QO m (hm _ htB) (hfo m hm hf))
    ·grind
    ·grind
    ·grind
    ·grind[Lin.take]
    ·grind
    ·grind
    ·grind
    ·intro hyd;have hxT:=hmem x hx;obtain⟨_,hxo,_⟩:=hT x hxT;rcases gJ.1 hyd with rfl|hyd
     ·have hw:=Bp (ops:=ops) (b:=x.i);refine PL hw.1 (λz hz=>?_) ?_ hj hy
      ·rw[Uw.getD (hw.2 z hz)];exact qA.2 (hinv x hxT z hz)
      ·rw[Uw.getD (vM hxo)];refine qA.2 λhd=>?_
       grind
     grind
   unfold Go.wpOp;simp only[hto];have hw:Region.wanted t.o (yielded ops a.tmps)=true:=uH hg.guard;rw[qn hw];left;refine Oper.wp_mono (λa' w' hh=>⟨λo' Ka hm=>hh.1 (by simp only[zI]at Ka;rw[Ka];exact hm),hh.2⟩) yQ
theorem Rn{all:List (Nat×Oper)}{done:List Nat}:{l:List (Nat×Oper)}->{d:List Nat}->ze2 all done d l=true->Lin d l/\∀x∈l,∀y∈jT x.1 all [],y∉done
 |[],d,_=>⟨trivial,by simp⟩
 |(i,o)::l,d,h=>by
  simp only[ze2,zA]at h;obtain⟨h1,h2⟩:=Rn h.2;refine⟨⟨Wz.1 h.1.1,h1⟩,λx hx=>?_⟩;rcases gJ.1 hx with rfl|hx
  ·exact gh.1 h.1.2
  grind
theorem uv{done:List Nat}{x:Nat×Oper}:{l:List (Nat×Oper)}->(x∈Z2 done l↔x∈l/\x.1∉done)
 |[]=>by simp[Z2]
 |(i,o)::l=>by
  simp only[Z2]
  cases hm:qs i done with
  |true=>
   rw[zJ,uv (l:=l)];have:=jK.1 hm
   grind
  |false=>
   rw[zU,gJ,uv (l:=l)];have:=qA.1 hm
   grind
theorem Pe{done:List Nat}:(l:List (Nat×Oper))->(Z2 done l).Sublist l
 |[]=>List.Sublist.slnil
 |(i,o)::l=>by
  simp only[Z2]
  cases qs i done with
  |true=>exact(Pe l).cons _
  |false=>exact(Pe l).cons_cons _
theorem FF:(l:List (Nat×Oper))->z6n l=l.length
 |[]=>rfl
 |_::l=>by simp only[z6n,FF l,X4]
end
section
variable {P:Program}{c:Ctx}
theorem ND{R:Type}{l:List (Option R)}{r:R}(h:wK l=some r):∀y∈l,y=some r:=by
 cases l with
 |nil=>simp
 |cons x l=>
  grind[wK]
theorem Ao{q:Bool}{dst:Nat->Option Nat}{all:List (Nat×Oper)}{done:List Nat}{i:Nat}{o:Oper}:{l:List (Nat×Oper)}->Gk q dst all done l=some (i,o)->(i,o)∈l/\i∉done/\Cs q dst all done i o=true
 |[],h=>by simp[Gk]at h
 |(j,oj)::l,h=>by
  simp only[Gk]at h
  cases hc:(!qs j done&&Cs q dst all done j oj) with
  |true=>
   rw[hc]at h;simp only[zJ,zI,p8]at h;obtain⟨rfl,rfl⟩:=h;simp only[zA,PF]at hc
   exact⟨by simp,qA.1 hc.1,hc.2⟩
  |false=>
   rw[hc]at h;simp only[zU]at h;obtain⟨h1,h2⟩:=Ao h
   grind
theorem ke{done:List Nat}{i:Nat}{o:Oper}:{l:List (Nat×Oper)}->((i,o)∈pH done l↔(i,o)∈l/\i∉done/\Zl done o=true)
 |[]=>by simp[pH]
 |(j,oj)::l=>by
  simp only[pH]
  cases hc:(!qs j done&&Zl done oj) with
  |true=>
   simp only[zJ,gJ,ke (l:=l)];simp only[zA,PF]at hc;constructor
   ·rintro (h|h)
    ·simp only[p8]at h;obtain⟨rfl,rfl⟩:=h;exact⟨.inl rfl,qA.1 hc.1,hc.2⟩
    grind
   grind
  |false=>
   simp only[zU,gJ,ke (l:=l)];constructor
   ·grind
   ·rintro⟨h|h,h2,h3⟩
    ·simp only[p8]at h;obtain⟨rfl,rfl⟩:=h;rw[h3,qA.2 h2]at hc;grind
    grind
theorem z6k{q:Bool}(hc:xW P c){ops:Array Oper}{Q:Exit->Act->World->Prop}{K:Act->World->Prop}{b0:Nat}{o:Oper}{σ:St}{g:z8}{a:Act}{w:World}{kk:St->Option R}{r:R}(hw:Region.wanted o (yielded ops a.tmps)=true)(h:opM q c σ b0 o kk=some r)(zq:zP c.ntmps g w a σ)
  (v7:∀m,b0<=m->m<b0+8->zu g σ m)
  (hK:∀σ1 g1 a1 w1,kk σ1=some r->zP c.ntmps g1 w1 a1 σ1->Ext w g w1 g1->(∀m,(m<b0\/b0+8<=m)->zu g σ m->zu g1 σ1 m)->σ1.next=σ.next->(∀s,o.dst≠some s->a1.tmps[s]? = a.tmps[s]?)->K a1 w1):yZ q P ops Q o K a w:=by
 refine yZ.mono (λa1 w1 hh=>hh.2 hh.1.2) (yZ.frame (K:=λa1 w1=>(∀s,o.dst≠some s->a1.tmps[s]? = a.tmps[s]?)->K a1 w1) ?_);unfold yZ;rw[qn hw]
 cases hy:Mt o with
 |true=>
  left;obtain⟨av,v,h1,h2,h3,h4⟩:=(Af hc hy zq (by rw[<-zhk hy];exact h)).out;refine⟨rfl,v,h1,λUg=>?_⟩;rcases uw h4 with⟨hd,hk⟩|⟨d,hd,yP,hk⟩
  ·rw[hd]at Ug⊢;exact hK σ g a w hk zq (Ext.refl _ _) (λ_ _ hm=>hm) rfl (by grind)
  ·rw[hd]at Ug⊢;exact hK _ g _ w hk (zq.put yP h2) (Ext.refl _ _) (λm _ hm=>hm.set d (h3 m hm)) rfl (by grind)
 |false=>
  right;refine⟨rfl,z5p (base:=b0) hc zq v7 h ?_⟩;intro σ1 g1 a1 w1 h1 yM yC QO WR w8
  grind
theorem z6l{q:Bool}{ops:Array Oper}{Q:Exit->Act->World->Prop}{K:Act->World->Prop}{o:Oper}{a:Act}{w:World}(hw:Region.wanted o (yielded ops a.tmps)=false)(h:K (a.put o.dst undef) w):yZ q P ops Q o K a w:=by
 grind[yZ]
theorem z4b(hc:xW P c){ops:Array Oper}{Q:Exit->Act->World->Prop}{K:Act->World->Prop}{b0:Nat}{o:Oper}{opened uz:List Nat}{σ:St}{g:z8}{a:Act}{w:World}{kk:List Nat->List Nat->St->Option R}{r:R}
  (h:Ig c (gu ops.toList) b0 o opened uz σ kk=some r) (zq:zP c.ntmps g w a σ) (Zt:Und a uz) (v7:∀m,b0<=m->m<b0+8->zu g σ m)
  (hK:∀op1 un1 σ1 g1 a1 w1,kk op1 un1 σ1=some r->zP c.ntmps g1 w1 a1 σ1->Und a1 un1->Ext w g w1 g1->(∀m,(m<b0\/b0+8<=m)->zu g σ m->zu g1 σ1 m)->σ1.next=σ.next->K a1 w1):yZ true P ops Q o K a w:=by
 have one:∀{op1:List Nat}{σ':St},opM true c σ' b0 o (λσ=>kk op1 (JQ o.dst uz) σ)=some r->zP c.ntmps g w a σ'->(∀m,zu g σ m->zu g σ' m)->σ'.next=σ.next->Region.wanted o (yielded ops a.tmps)=true->yZ true P ops Q o K a w:=by
  intro op1 σ' h qG hf hn hw;refine z6k hc hw h qG (λm h1 h2=>hf m (v7 m h1 h2)) (λσ1 g1 a1 w1 h1 yM yC QO WR Ug=>?_);exact hK _ _ σ1 g1 a1 w1 h1 yM (Zt.vV Ug) yC (λm hm wX=>QO m hm (hf m wX)) (WR.trans hn)
 have skip:∀{op1:List Nat}{σ':St},kk op1 (Ha o.dst uz) (σ'.gj o.dst)=some r->zP c.ntmps g w a σ'->(∀m,zu g σ m->zu g σ' m)->σ'.next=σ.next->Region.wanted o (yielded ops a.tmps)=false->yZ true P ops Q o K a w:=by
  intro op1 σ' h qG hf hn hw;refine z6l hw (hK _ _ _ g _ w h (qG.zki o.dst undef) Zt.skip (Ext.refl _ _) (λm _ wX=>(hf m wX).gj o.dst) ?_);rw[<-hn];cases o.dst<;>rfl
 unfold Ig at h;split at h
 ·grind[uH]
 ·rename_i j want hg;split at h
  ·simp at h
  ·rename_i t hdt;rw[Pv]at hdt;split at h
   ·rename_i b hb;have hw:=Kn (o:=o) (a:=a) hg hdt (F4 zq hb)
    cases hm:qs j opened with
    |true=>
     grind
    |false=>
     rw[hm]at h;simp only[zU]at h;have Xk:=AJ zq hb
     cases b with
     |true=>
      simp only[zJ]at h
      cases want with
      |true=>exact one h Xk (λm hf=>hf.set t (by simp[z7.ids])) rfl hw
      |false=>exact skip h Xk (λm hf=>hf.set t (by simp[z7.ids])) rfl hw
     |false=>
      simp only[zU]at h
      cases want with
      |true=>exact skip h Xk (λm hf=>hf.set t (by simp[z7.ids])) rfl hw
      |false=>exact one h Xk (λm hf=>hf.set t (by simp[z7.ids])) rfl hw
   ·cases hmu:qs t uz with
    |false=>grind
    |true=>
     rw[hmu]at h;simp only[zJ]at h;exact skip h zq (λ_ hm=>hm) rfl (Ay hg hdt (Zt t (U7.1 hmu)))
   grind
theorem L8:{n:Nat}->{l:List Nat}->l.Nodup->(∀x∈l,x<n)->l.length<=n
 |0,l,_,hl=>by
  cases l with
  |nil=>simp
  |cons x l=>have:=hl x (by simp);omega
 |n+1,l,h,hl=>by
  have h1:=L8 (n:=n) (h.erase n) (λx hx=>by
   grind)
  grind
theorem TJ(hc:xW P c){ops:Array Oper}{Q:Exit->Act->World->Prop}(hp:CD ops)(hQ:∀c a w,¬Q (.panic c) a w){base:Nat}:
  (n:Nat)->{done opened uz:List Nat}->{listed:Array Bool}->{σ:St}->{g:z8}->{a:Act}->{w:World}->{k:St->Option R}->{r:R}->{fuel:Nat}->Of c base (gu ops.toList) (zV 0 ops.toList) n done opened uz σ k=some r->
  zP c.ntmps g w a σ->Und a uz->Rel ops listed done->(∀x∈done,x<ops.size)->done.Nodup->fuel+done.length=ops.size->(∀i,i<ops.size->i∉done->∀m,base+8*i<=m->m<base+8*i+8->zu g σ m)->
  (∀σ' g' a' w',k σ'=some r->zP c.ntmps g' w' a' σ'->Ext w g w' g'->(∀m,(∀i,i<ops.size->m<base+8*i\/base+8*i+8<=m)->zu g σ m->zu g' σ' m)->σ'.next=σ.next->Q .normal a' w')->
  Q8 true P .any ops Q fuel listed a w
 |0,_,_,_,_,_,_,_,_,_,_,_,h,_,_,_,_,_,_,_,_=>by simp[Of]at h
 |n+1,done,opened,uz,listed,σ,g,a,w,k,r,fuel,h,zq,Zt,hr,hd,hnd,hfu,v7,hK=>by
  have step:∀(i:Nat)(o:Oper),(i,o)∈zV 0 ops.toList->i∉done->Ig c (gu ops.toList) (base+8*i) o opened uz σ (λopened uz σ=>Of c base (gu ops.toList) (zV 0 ops.toList) n (i::done) opened uz σ k)=some r->
    ∃f,fuel=f+1/\i<ops.size/\ops[i]? = some o/\yZ true P ops Q o (λa' w'=>Q8 true P .any ops Q f (listed.setIfInBounds i true) a' w') a w:=by
   intro i o hm hi h;have hio:=ju _ hm;have yP:i<ops.size:=vM hio;have I1:∀x∈i::done,x<ops.size:=by
    grind
   have zsk:(i::done).Nodup:=Z2m.2 ⟨hi,hnd⟩;have hle:=L8 zsk I1;simp only[X4]at hle;obtain⟨f,rfl⟩:∃f,fuel=f+1:=⟨fuel-1,by omega⟩;refine⟨f,rfl,yP,hio,z4b (b0:=base+8*i) hc h zq Zt (v7 i yP hi) (λop1 un1 σ1 g1 a1 w1 h1 yM q0g yC QO WR=>?_)⟩;refine TJ hc hp hQ n h1 yM q0g hr.add I1 zsk (by grind) (λj hj hjd m q1 q2=>?_) (λσ2 g2 a2 w2 h2 wS wT Xg GX=>?_)
   ·grind
   ·exact hK σ2 g2 a2 w2 h2 wS (yC.trans wT) (λm hm hf=>Xg m hm (QO m (hm i yP) hf)) (GX.trans WR)
  simp only[Of]at h;split at h
  ·rename_i i o Fe;obtain⟨hm,hi,hat⟩:=Ao Fe;obtain⟨f,rfl,yP,hio,hL⟩:=step i o hm hi h;exact zd3 hp hQ hio hr hd hi hat hL (λa' w' hh=>hh)
  ·split at h
   ·rename_i hra;have QM:Region.ready .any ops listed=[]:=by
     rw[Z4x];intro j hj;obtain⟨_,o,gR,_⟩:=mem_ready.1 hj;have h1:=(jS hr hd gR).1 hj;have:(j,o)∈pH done (zV 0 ops.toList):=ke.2 ⟨yR gR,h1.1,h1.2⟩
     grind
    have hq:=hK σ g a w h zq (Ext.refl _ _) (λm _ hf=>hf) rfl
    cases fuel with
    |zero=>exact⟨QM,hq⟩
    |succ f=>exact⟨λ_=>hq,λi hi=>by grind⟩
   ·rename_i x l hra;have hall:=ND h;have qN:∀i o,(i,o)∈pH done (zV 0 ops.toList)->∃f,fuel=f+1/\i<ops.size/\ops[i]? = some o/\yZ true P ops Q o (λa' w'=>Q8 true P .any ops Q f (listed.setIfInBounds i true) a' w') a w:=by
     intro i o hm;obtain⟨h1,h2,_⟩:=ke.1 hm;refine step i o h1 h2 (hall _ ?_)
     grind
    obtain⟨xi,xo⟩:=x;obtain⟨f,rfl,_⟩:=qN xi xo (by grind);refine⟨λh0=>?_,λj hj=>?_⟩
    ·obtain⟨h1,h2,h3⟩:=ke.1 (show(xi,xo)∈pH done (zV 0 ops.toList) by grind);have:=(jS hr hd (ju _ h1)).2 ⟨h2,h3⟩
     grind
    ·obtain⟨_,o,gR,_⟩:=mem_ready.1 hj;have h1:=(jS hr hd gR).1 hj;obtain⟨f',KY,yP,hio,hL⟩:=qN j o (ke.2 ⟨yR gR,h1.1,h1.2⟩);have:f'=f:=by omega
     subst this;exact hL.wpOp hio
theorem Mk{q:Bool}(hc:xW P c)(hm:P.follows .mixedOrders=true){id:Nat}{ops:Array Oper}{Q:Exit->Act->World->Prop}{σ:St}{g:z8}{a:Act}{w:World}{k:St->Option R}{r:R}
  (hQ:∀c a w,¬Q (.panic c) a w) (zc:UG q ops.toList=true) (h:Rm q c ops.toList (kQ q ops.toList) σ k=some r) (zq:zP c.ntmps g w a σ) (hf:qC g σ)
  (hK:∀σ' g' a' w',k σ'=some r->zP c.ntmps g' w' a' σ'->Ext w g w' g'->qC g' σ'->(∀s,(∀o∈ops.toList,o.dst≠some s)->a'.tmps[s]? = a.tmps[s]?)->Q .normal a' w'):(Code.region id ops true).wp P Q a w:=by
 have hQ1:∀c a' w,¬Rr ops a Q (.panic c) a' w:=λc a' w h=>hQ c a' w (h (by simp))
 simp only[UG,zA]at zc;have hnd:=WE zc.2;have hp:=Ac zc.1;have hmem:∀x∈kQ q ops.toList,x∈zV 0 ops.toList:=λx hx=>K6 x hx
 refine wp_region_any hm (u7 (a0:=a) _ _ _ _ (λ_ _=>rfl) (Y3 _ _ _ _ (Ic hp hQ1 _ (λx hx=>ju _ (hmem x hx)) ?_ Rel.start (by simp) zc.2 ?_)))
 ·grind[Ad,kQ]
 ·have he:({ w with drawn:=w.drawn+1 }:World).heap=w.heap:=rfl;refine Rl hc (λx hx=>uR (hmem x hx)) hnd.1 h (zq.YM he) hf (λσ' g' a' w' hk qG kM KY=>?_);exact λu4=>hK σ' g' a' w' hk qG ((Ext.YM (g:=g) he rfl rfl rfl (Z1h _)).trans kM) KY (u4 rfl)
theorem z0d(hc:xW P c)(hm:P.follows .mixedOrders=true){id:Nat}{ops:Array Oper}{draw:Bool}{Q:Exit->Act->World->Prop}{σ:St}{g:z8}{a:Act}{w:World}{k:St->Option R}{r:R}
  (hQ:∀c a w,¬Q (.panic c) a w) (h:FZ c ops draw σ k=some r) (zq:zP c.ntmps g w a σ) (hf:qC g σ)
  (hK:∀σ' g' a' w',k σ'=some r->zP c.ntmps g' w' a' σ'->Ext w g w' g'->qC g' σ'->(∀s,(∀o∈ops.toList,o.dst≠some s)->a'.tmps[s]? = a.tmps[s]?)->Q .normal a' w'):(Code.region id ops draw).wp P Q a w:=by
 have hQ1:∀c a' w,¬Rr ops a Q (.panic c) a' w:=λc a' w h=>hQ c a' w (h (by simp))
 unfold FZ at h
 cases draw with
 |false=>
  simp only[zU]at h;have hL:=Rl (K:=λa' w'=>(∀s,(∀o∈ops.toList,o.dst≠some s)->a'.tmps[s]? = a.tmps[s]?)->Q .normal a' w') (Q:=Q) hc (λx hx=>uR hx) (Jt _ _) h zq hf hK;refine zcn (Az (λa' w' hh=>hh.2 λs hs=>hh.1 s λx hx=>hs x.2 ?_) _ _ _ (DJ _ _ _ hL));have:=ju x hx
  grind
 |true=>
  simp only[zJ]at h
  cases z19:UG true ops.toList with
  |true=>
   grind[Mk]
  |false=>
  rw[z19]at h;simp only[zU]at h
  cases zc:(UG false ops.toList && !Ux c σ (zV 0 ops.toList)) with
  |false=>
   rw[zc]at h;simp only[zU]at h
   cases PE:(z8o ops.toList && !Ux c σ (zV 0 ops.toList)) with
   |false=>
    rw[PE]at h;simp only[zU]at h;obtain⟨D6,h⟩:=zh h;have hp:=Ac D6;have he:({ w with drawn:=w.drawn+1 }:World).heap=w.heap:=rfl;refine wp_region_any hm (u7 (a0:=a) _ _ _ _ (λ_ _=>rfl) (Y3 (q:=true) _ _ _ _ ?_));refine TJ (base:=σ.next) hc hp hQ1 _ h (zq.YM he) (by intro s hs;grind) Rel.start (by simp) (by simp) (by simp) (λi hi _ m q1 q2=>hf m (by omega)) (λσ' g' a' w' hk qG kM KY Ff=>?_);refine λu4=>hK _ g' a' w' hk ⟨qG.zy,qG.heap,qG.size,qG.defers,qG.known⟩ ((Ext.YM (g:=g) he rfl rfl rfl (Z1h _)).trans kM) (λm hm=>?_) (u4 rfl)
    have Ub:σ.next+8*ops.toList.length<=m:=hm;have:=KY m (λi hi=>.inr (by grind)) (hf m (by omega))
    exact⟨this.z6,this.row,this.box,this.zy,this.cells⟩
   |true=>
   rw[PE]at h;simp only[zJ]at h;replace PE:=(Bool.and_eq_true_iff.1 PE).1;simp only[z8o,z8n,zA]at PE;replace PE:=PE.2;obtain⟨⟨⟨⟨gX,zn⟩,hpg⟩,hlg⟩,hlen⟩:=PE;have hlen:=zE hlen;rw[FF,FF]at hlen;unfold SJ at h;have hp:=Ac gX;have he:({ w with drawn:=w.drawn+1 }:World).heap=w.heap:=rfl;have hmem:∀x∈kQ false ops.toList,x∈zV 0 ops.toList:=λx hx=>K6 x hx
   have hLN:=Dt zn;obtain⟨zst,q1q⟩:=Rn hlg;have zi7:∀x,x∈jn (kQ false ops.toList) []↔x∈(kQ false ops.toList).map Prod.fst:=λx=>by rw[X0];simp
   have q2a:∀x∈jn (kQ false ops.toList) [],x<ops.size:=by
    intro x hx;obtain⟨y,hy,rfl⟩:=pe.1 ((zi7 x).1 hx);exact vM (ju _ (hmem y hy))
   refine wp_region_any hm (u7 (a0:=a) _ _ _ _ (λ_ _=>rfl) (Y3 (q:=false) _ _ _ _ ?_));refine ET (n:=(kQ false ops.toList).length+(Z2 (jn (kQ false ops.toList) []) (zV 0 ops.toList)).length) (by omega) ?_;refine Dm hp hQ1 _ (λx hx=>ju _ (hmem x hx)) Rel.start (by simp) zn ?_;refine YK hc Pv _ _ h (zq.YM he) (by intro s hs;grind) hLN.1 (λx _ m h1 _=>hf m (by omega)) (λσ1 g1 a1 w1 h1 yM yC QO WR=>?_);intro listed Uw;obtain⟨T,σE,hT,htr,hk,zt6,_,hpw⟩:=SV _ hpg h1;have hTi:T.map Ef.i=(Z2 (jn (kQ false ops.toList) []) (zV 0 ops.toList)).map Prod.fst:=by
    rw[<-hT,Oo];rfl
   have hTm:∀t∈T,(t.i,t.o)∈Z2 (jn (kQ false ops.toList) []) (zV 0 ops.toList):=by
    grind
   have hTl:T.length=(Z2 (jn (kQ false ops.toList) []) (zV 0 ops.toList)).length:=by
    grind
   refine ET hTl ?_;have gB:({ w with drawn:=w.drawn+1 }:World).heap=w.heap:=rfl;refine z8m (base:=σ.next) (g0:=g1) (w0:=w1) (σ0:=σ1) (σE:=σE) (B0:=T.map Ef.i) hc (λg' a' w' qG kM KY=>?_) T.length rfl htr (λt ht=>⟨zt6 t ht,ju _ (uv.1 (hTm t ht)).1,pe.2 ⟨t,ht,rfl⟩⟩) hpw ?_ ?_ yM (λt ht m q1 q2=>?_) Uw q2a (λx hx=>?_) (λt ht=>q1q _ (hTm t ht)) (Ext.refl _ _) (λm _ hf=>hf)
   ·refine λu4=>hK _ g' a' w' hk ⟨qG.zy,qG.heap,qG.size,qG.defers,qG.known⟩ ((Ext.YM (g:=g) he rfl rfl rfl (Z1h _)).trans (yC.trans kM)) (λm hm=>?_) (u4 rfl)
    have Ub:σ.next+8*ops.toList.length<=m:=hm;have:=KY m (λi hi=>.inr ?_) (QO m (λx hx=>.inr (by have:=uR (hmem x hx);omega)) (hf m (by omega)))
    ·exact⟨this.z6,this.row,this.box,this.zy,this.cells⟩
    ·rw[hTi]at hi;obtain⟨y,hy,rfl⟩:=pe.1 hi;have:=uR (uv.1 hy).1;omega
   ·grind[Jt,Pe]
   ·grind
   ·refine QO m (λx hx=>?_) (hf m (by omega));have va:x.1≠t.i:=by
     intro he2;have:=(uv.1 (hTm t ht)).2
     grind
    omega
   ·rw[hTi];constructor
    ·intro hd hm2;obtain⟨y,hy,rfl⟩:=pe.1 hm2;exact(uv.1 hy).2 hd
    ·intro hn;refine Z5u λhd=>hn ?_
     obtain⟨o,ho⟩:∃o,ops[x]? = some o:=⟨ops[x],by grind⟩
     exact pe.2 ⟨(x,o),uv.2 ⟨yR ho,hd⟩,rfl⟩
  |true=>
   grind[Mk]
end
end Go.Kz
namespace Go.Kz
variable {R:Type}
section
variable {n:Nat}{w:World}{a:Act}{g:z8}{σ:St}{k:St->Option R}{r:R}
theorem jB.zf7{g':z8}{σ':St}(h:jB g σ.z6 g' σ'.z6)(hs:σ'.zy=σ.zy)(hn:σ'.next=σ.next)(hf:qC g σ):qC g' σ':=
 λm hm=>h.fresh hs (hf m (by omega))
theorem qC.ids{i:Nat}{av:z7}(hf:qC g σ)(h:σ.zy i=some av):∀m,σ.next<=m->m∉av.ids:=λm hm=>(hf m hm).zy i av h
structure zam (w:World) (g:z8) (σ:St) (x:z7) (cs:List Value) (g':z8) (σ':St) (x':z7):Prop where
 ok:jO w g' σ'.z6 x' cs
 sk:x'.sk=x.sk
 agg:x'.isAgg=x.isAgg
 val:x'.val=true
 ids:∀m,σ'.next<=m->m∉x'.ids
 zy:σ'.zy=σ.zy
 next:σ.next<=σ'.next
 cells:∀id z,σ'.z6 id=some (.cell z)->σ.z6 id=some (.cell z)/\g'.qY id=g.qY id
theorem z1w{x:z7}{f:z7->St->Option R}{cs:List Value}(zq:zP n g w a σ)(hf:qC g σ)(hval:x.val=true)(hx:jO w g σ.z6 x cs)(gA:∀m,σ.next<=m->m∉x.ids)(h:OL σ x f=some r):
  ∃x' σ' g',f x' σ'=some r/\zP n g' w a σ'/\Ext w g w g'/\qC g' σ'/\zam w g σ x cs g' σ' x':=by
 unfold OL at h;split at h
 ·rename_i id ep p q;split at h
  ·rename_i t l e zg
   cases hb:Nat.beq e ep with
   |false=>grind
   |true=>
    rw[hb]at h;have he:=zE hb;subst he;simp only[zJ]at h;obtain⟨u,rfl,qN,hv⟩:=hx;obtain⟨_,h0,Kh,Vo,e1⟩:=(hv _ _ _ zg).2 rfl;let c:Ctx:=⟨0,λ_=>none,λ_=>none,n,λ_=>[],λ_=>none,λ_ _=>none,⟨[],[]⟩,λ_=>none,λ_=>none,λ_=>false,λ_=>false,λ_ _=>none⟩;obtain⟨yM,yC,z8c⟩:=DO (c:=c) (e':=e+1) zq zg h0 Kh Vo (Eb _);refine⟨_,_,_,h,yM,yC,λm hm=>z8c m (hf m hm),⟨u,rfl,qN,λt' l' e' Ka=>?_⟩,rfl,rfl,rfl,λm hm=>gA m hm,rfl,jq _,λi z hz=>?_⟩
    ·simp_all[St.setObj,zD,pn]
    ·by_cases hi:i=id
     ·simp_all[St.setObj,zD]
     ·simp only[St.setObj]at hz;rw[zm _ _ hi]at hz;exact⟨hz,rfl⟩
  grind
 ·exact⟨_,σ,g,h,zq,Ext.refl w g,hf,hx,rfl,rfl,hval,gA,rfl,jq _,λ_ _ hz=>⟨hz,rfl⟩⟩
theorem qC.RR{o:Obj}(zq:zP n g w a σ)(hf:qC g σ)(hc:∀y,o≠.cell y)(zc:qz w (pn g σ.next (.slice none 0 0)) (σ.setObj σ.next o).z6 σ.next o):
  zP n (pn g σ.next (.slice none 0 0)) w a { σ.setObj σ.next o with next:=σ.next+1 }/\Ext w g w (pn g σ.next (.slice none 0 0))/\
   qC (pn g σ.next (.slice none 0 0)) { σ.setObj σ.next o with next:=σ.next+1 }:=by
 have qG:zP n (pn g σ.next (.slice none 0 0)) w a (σ.setObj σ.next o):=
  zq.pf ⟨λb hb=>⟨hb,rfl⟩⟩ (λi hi=>JI hi) (.inr (hf _ (jq _))) zc zq.heap.tags
 refine⟨⟨qG.zy,qG.heap,qG.size,qG.defers,qG.known⟩,⟨rfl,rfl,rfl,jq _,jq _,λb _ _=>⟨rfl,rfl⟩⟩,λm hm=>?_⟩;have Ub:σ.next+1<=m:=hm;have:=zu.pf (g:=g) (g':=pn g σ.next (.slice none 0 0)) (o:=o) (id:=σ.next) (λb=>.inl rfl) (by omega) hc (hf m (by omega));exact⟨this.z6,this.row,this.box,this.zy,this.cells⟩
theorem RO{t:Ty}{id:Nat}:zM w (pn g id (.slice none 0 0)) (some (id,[])) (.sl true t) [] [(pn g id (.slice none 0 0)).sv id []]:=
 ⟨none,0,by simp[pn],by simp[pn],jq _,v8 _,.inl ⟨rfl,rfl,rfl⟩⟩
open Classical in
noncomputable def Ln(g:z8)(id m:Nat):z8 where
 tag:=λb=>match g.tag b with
  |.row i q=>if i=id then (if q=[] then .row m [] else .ro) else .row i q
  |t=>t
 sv:=λi q=>if i=m then g.sv id q else g.sv i q
 qY:=g.qY
theorem uY{id m b:Nat}(h:∀q,g.tag b≠.row id q):(Ln g id m).tag b=g.tag b:=by
 grind[Ln]
theorem GM{id m b:Nat}{q:Path}(h:g.tag b=.row id q):(Ln g id m).tag b=if q=[] then .row m [] else .ro:=by grind[Ln]
theorem zmx{id e i:Nat}{v:Ty}{l:List (List v.den)}{m:Nat}(zq:zP n g w a σ)(hf:zu g σ m)(ho:σ.z6 id=some (.nest (.sl true v) l e i none))(qU:v.zW=true):
  let g':=Ln g id m;let σ':=(σ.kill id).setObj m (.row (.sl false v) l 0)
  zP n g' w a σ'/\Ext w g w g'/\(∀m',m'≠m->zu g σ m'->zu g' σ' m')/\g'.sv m []=g.sv id []:=by
 intro g' σ';have LN:m≠id:=by intro he;subst he;have:=hf.z6;grind
 have zN:zM w g (some (id,[])) (.sl true (.sl true v)) l [g.sv id []]:=zq.heap.z6 id _ ho;have yU:g'.sv m []=g.sv id []:=by simp[g',Ln]
 have gU:zS w g w g':=⟨λb hb=>⟨by grind[uY],rfl⟩⟩;have hσ:∀j,σ'.z6 j=if j=m then some (.row (.sl false v) l 0) else if j=id then none else σ.z6 j:=by
  intro j;by_cases hj:j=m
  ·subst hj;simp[σ',St.setObj,zD]
  ·simp only[σ',St.setObj,St.kill,qP hj]
   grind[zm,zD]
 refine⟨?_,⟨rfl,rfl,rfl,jq _,jq _,λb _ hb=>⟨rfl,by grind[uY]⟩⟩,λm' Ub wX=>?_,yU⟩
 ·refine FE (m:=m) zq gU rfl (.inl hf) (λx hx=>?_) (λj hj=>?_) (λb hb=>?_)
  ·rw[hσ,qn rfl]at hx;simp only[zI]at hx;subst hx;refine⟨qU,?_⟩;obtain⟨ad,cap,Zw,z14,k1,k2,k3⟩:=zN;refine⟨ad,cap,by grind,by grind,k1,k2,?_⟩;rcases k3 with k3|⟨b,off,c,ee,ha,ze,zZ,ql,vw⟩
   ·grind
   ·refine .inr ⟨b,off,c,ee,ha,by grind[GM],zZ,ql,λi hi=>?_⟩;obtain⟨ad2,znc,q2h,_,j1,j2,j3⟩:=vw i hi;refine⟨ad2,znc,q2h,j1,j2,λva=>?_⟩;rcases j3 with⟨_,Fh,_⟩|⟨b2,zko,c2,e2,ha2,GP,uQ,ZX,ztg⟩
    ·grind
    ·refine⟨b2,zko,c2,e2,_,ha2,by grind[GM],uQ,?_,λi2 Eu=>(zM.yy (o':=none) qU (ztg i2 Eu)).kept gU⟩;have:=wI v.size j1;omega
  ·rw[hσ,qP hj];by_cases hj2:j=id
   ·grind
   ·rw[qP hj2];refine .inr ⟨rfl,⟨λq=>by grind[Ln],λq b hb=>⟨?_,rfl⟩⟩,rfl,λhb=>⟨?_,rfl⟩⟩
    all_goals grind[uY]
  ·refine zq.heap.tags b λhe=>hb ?_
   grind[uY]
 ·have hmi:m'≠id:=by intro he;subst he;have:=wX.z6;grind
  refine⟨by rw[hσ,qP Ub,qP hmi];exact wX.z6,λb q hb=>?_,λb hb=>?_,wX.zy,λj av hj=>?_⟩
  ·by_cases pX:∃q,g.tag b=.row id q
   ·grind[GM]
   ·simp only[g']at hb;rw[uY (λq h=>pX ⟨q,h⟩)]at hb;exact wX.row b q hb
  ·by_cases pX:∃q,g.tag b=.row id q
   ·grind[GM]
   ·simp only[g']at hb;rw[uY (λq h=>pX ⟨q,h⟩)]at hb;exact wX.box b hb
  ·rw[hσ]at hj;split at hj
   ·grind
   ·split at hj
    ·grind
    ·exact wX.cells j av hj
theorem Mu{x:z7}{cv:Conv}{f:z7->St->Option R}{cs:List Value}(zq:zP n g w a σ)(hf:qC g σ)(hval:x.val=true)(hx:jO w g σ.z6 x cs)(gA:∀m,σ.next<=m->m∉x.ids)(h:Wd σ x cv f=some r):
  ∃x' σ' g',f x' σ'=some r/\zP n g' w a σ'/\Ext w g w g'/\qC g' σ'/\zam w g σ x cs g' σ' x':=by
 cases cv with
 |row t=>
  simp only[Wd]at h;split at h
  ·cases ht:t.zW with
   |false=>grind
   |true=>
    rw[ht]at h;simp only[zJ]at h;obtain⟨h1,h2,h3⟩:=qC.RR zq hf (by simp) (o:=.row t [] 0) ⟨ht,RO⟩;have QF:cs=[.slice none 0 0]:=hx;subst QF;refine⟨_,_,_,h,h1,h2,h3,⟨_,rfl,rfl,λt' l' e' Ka=>?_⟩,rfl,rfl,rfl,λm hm=>?_,rfl,Z1h _,λi z hz=>?_⟩
    ·grind[pn]
    ·grind[z7.ids]
    ·by_cases hi:i=σ.next
     ·simp_all[St.setObj,zD]
     ·simp only[St.setObj]at hz;rw[zm _ _ hi]at hz;exact⟨hz,rfl⟩
  grind[z1w]
 |dat t=>
  simp only[Wd]at h
  cases hb:(t.zW&&x.val&&x.sk.same t.sk) with
  |false=>grind
  |true=>
   rw[hb]at h;simp only[zJ]at h;simp only[zA]at hb;have po:=Sk.qJ hb.2;obtain⟨d,σ',g',hk,hs,hn,D5,zN⟩:=gS 20 zq.heap hx hb.1.1 h;refine⟨_,σ',g',hk,D5.st hs zq,D5.ext,D5.zf7 hs hn hf,⟨hb.1.1,zN⟩,po.symm,?_,rfl,λm _=>by simp[z7.ids],hs,by omega,λi z hz=>?_⟩
   ·rw[(jh hval).1,po];rfl
   ·rcases D5.z6 i with e|e
    ·rw[<-e];exact⟨hz,by rw[D5.qY]⟩
    grind
 |W7=>simp[Wd]at h
 |low=>
  simp only[Wd]at h;split at h
  ·rename_i id ep;split at h
   ·rename_i t l e i zg
    cases hb:Nat.beq e ep with
    |false=>grind
    |true=>
     rw[hb]at h;have he:=zE hb;subst he;simp only[zJ]at h;obtain⟨hl,h⟩:=qT h;have hl:=X1 hl;obtain⟨u,rfl,qN,hv⟩:=hx;have q1o:=Rf (d:=0) (zq.heap.z6 id _ zg) rfl (by grind);have hk:qu g g id (σ.z6 id) (some (.nest t l e i (some (.low 0)))):=.inr (.inr (.inr (.inr ⟨t,l,l,e,e,i,i,_,_,zg,rfl,jq _,jq _,λ_=>rfl,λ_ _=>rfl⟩)));refine⟨_,_,g,h,zq.pf ⟨λb hb=>⟨hb,rfl⟩⟩ (λi hi=>⟨⟨λ_=>rfl,λ_ b hb=>⟨hb,rfl⟩⟩,rfl,λhb=>⟨hb,rfl⟩⟩) (.inl hk) q1o zq.heap.tags,Ext.refl w g,λm hm=>?_,⟨u,rfl,qN,λt' l' e' i' h' Ka=>?_⟩,rfl,rfl,rfl,gA,rfl,jq _,λj z hz=>?_⟩
     ·exact zu.pf (λb=>.inl rfl) (by intro he;subst he;have:=(hf _ hm).z6;grind) (by simp) (hf m hm)
     ·simp only[St.setObj,zD,zI,Obj.nest.injEq]at Ka
      grind
     ·by_cases hi:j=id
      all_goals simp_all[St.setObj,zD,zm]
   ·exact⟨_,σ,g,h,zq,Ext.refl w g,hf,hx,rfl,rfl,hval,gA,rfl,jq _,λ_ _ hz=>⟨hz,rfl⟩⟩
   grind
  grind
 |nst t=>
  simp only[Wd]at h;split at h
  ·obtain⟨h1,h2,h3⟩:=qC.RR zq hf (by simp) (o:=.nest t [] 0 0 none) RO;have QF:cs=[.slice none 0 0]:=hx;subst QF;refine⟨_,_,_,h,h1,h2,h3,⟨_,rfl,rfl,λt' l' e' i' hh Ka=>?_⟩,rfl,rfl,rfl,λm hm=>?_,rfl,Z1h _,λi z hz=>?_⟩
   ·grind[pn]
   ·grind[z7.ids]
   ·by_cases hi:i=σ.next
    ·simp_all[St.setObj,zD]
    ·simp only[St.setObj]at hz;rw[zm _ _ hi]at hz;exact⟨hz,rfl⟩
  ·exact⟨_,σ,g,h,zq,Ext.refl w g,hf,hx,rfl,rfl,hval,gA,rfl,jq _,λ_ _ hz=>⟨hz,rfl⟩⟩
 |fro=>
  simp only[Wd]at h;split at h
  ·rename_i id ep;split at h
   ·rename_i v l e i zg
    cases hb:(Nat.beq e ep&&v.zW) with
    |false=>grind
    |true=>
     rw[hb]at h;simp only[zA]at hb;have he:=zE hb.1;subst he;simp only[zJ]at h;obtain⟨u,rfl,qN,hv⟩:=hx;have hu:u=g.sv id []:=((hv _ _ _ _ _ zg).2 rfl).1 rfl;have zN:zM w g (some (id,[])) (.sl true (.sl true v)) l [g.sv id []]:=zq.heap.z6 id _ zg;obtain⟨q1,q2,q3,q4⟩:=zmx zq (hf _ (jq _)) zg hb.2;refine⟨_,_,Ln g id σ.next,h,⟨q1.zy,q1.heap,q1.size,q1.defers,q1.known⟩,q2,λm hm=>?_,⟨u,rfl,qN,λt' l' e' Ka=>?_⟩,rfl,rfl,rfl,λm hm=>?_,rfl,Z1h _,λj z hz=>?_⟩
     ·have Ub:σ.next+1<=m:=hm;have:=q3 m (by omega) (hf m (by omega));exact⟨this.z6,this.row,this.box,this.zy,this.cells⟩
     ·grind
     ·grind[z7.ids]
     ·by_cases hi:j=σ.next
      ·simp_all[St.setObj,zD]
      ·simp only[St.setObj,St.kill]at hz;rw[zm _ _ hi]at hz;by_cases hj:j=id
       ·grind[zD]
       ·rw[zm _ _ hj]at hz;exact⟨hz,rfl⟩
   grind
  ·exact⟨_,σ,g,h,zq,Ext.refl w g,hf,hx,rfl,rfl,hval,gA,rfl,jq _,λ_ _ hz=>⟨hz,rfl⟩⟩
theorem IJ(l:List Value)(off n:Nat)(h:off+n<=l.length):zB l off (qi l off n)=l:=by
 grind[qi,yO,zB,List.drop_drop,List.take_append_drop]
theorem zP.set{i:Nat}{x:z7}{v:Value}(zq:zP n g w a σ)(hv:a.tmps[i]? = some v)(hx:qy w g σ.z6 x v):zP n g w a (σ.set i x):=by
 refine⟨λj y hj=>?_,zq.heap,zq.size,zq.defers,zq.known⟩;simp only[St.set,Y4]at hj
 cases hb:Nat.beq j i with
 |true=>
  rw[hb]at hj;simp only[zJ,zI]at hj;subst hj;have:=zE hb;subst this
  exact⟨v,hv,hx⟩
 |false=>rw[hb]at hj;exact zq.zy j y hj
theorem z9t{id:Nat}{x x':z7}(zq:zP n g w a σ)(zg:σ.z6 id=some (.cell x))(po:x'.sk=x.sk)
  (zc:∃c e,w.heap[g.qY id]? = some (.cells c e (0,0))/\g.tag (g.qY id)=.box id/\jO w g σ.z6 x' c.toList):zP n g w a (σ.setObj id (.cell x')):=by
 have hk:qu g g id (σ.z6 id) (some (.cell x')):=.inr (.inr (.inl ⟨x,x',zg,rfl,po,rfl⟩));refine zq.pf ⟨λb hb=>⟨hb,rfl⟩⟩ (λi hi=>⟨⟨λ_=>rfl,λ_ b hb=>⟨hb,rfl⟩⟩,rfl,λhb=>⟨hb,rfl⟩⟩) (.inl hk) ?_ zq.heap.tags;obtain⟨c,e,h1,h2,h3⟩:=zc;refine qz.mk ⟨c,e,h1,h2,?_⟩;refine jO.frame ⟨λb hb=>⟨hb,rfl⟩⟩ (λi _=>?_) h3;by_cases hi:i=id
 all_goals simp_all[St.setObj,zD,zm,qu.refl]
theorem OO{id m:Nat}{x x':z7}(hf:zu g σ m)(zg:σ.z6 id=some (.cell x))(hx:m∉x'.ids):zu g (σ.setObj id (.cell x')) m:=by
 have hm:m≠id:=by intro he;subst he;have:=hf.z6;grind
 refine⟨by simp only[St.setObj];rw[zm _ _ hm];exact hf.z6,hf.row,hf.box,hf.zy,λi y hi=>?_⟩;by_cases he:i=id
 ·simp_all[St.setObj,zD]
 ·simp only[St.setObj]at hi;rw[zm _ _ he]at hi;exact hf.cells i y hi
theorem Qf(i:Nat)(p:Path)(cv:Conv)(l:List (Nat×Option Path×Conv))
  (ih:∀{g:z8}{σ:St}{k:St->Option R},zP n g w a σ->qC g σ->Wc l σ k=some r->∃σ' g',k σ'=some r/\zP n g' w a σ'/\Ext w g w g'/\qC g' σ')
  (hcv:cv≠.W7) {g:z8}{σ:St}{k:St->Option R} (zq:zP n g w a σ) (hf:qC g σ) (h:Wc ((i,some p,cv)::l) σ k=some r) :
  ∃σ' g',k σ'=some r/\zP n g' w a σ'/\Ext w g w g'/\qC g' σ':=by
  have h:(match σ.zy i with
   |some (.zw id _)=>VD σ id p λa=>cond a.val (Wd σ a cv λa σ=>VD σ id [] λwhole=>w6 a whole p λwhole=>Wc l (σ.setObj id (.cell whole)) k) none
   |_=>none)=some r:=by
   cases cv with
   |W7=>grind
   |row u=>exact h
   |dat u=>exact h
   |low=>exact h
   |fro=>exact h
   |nst u=>exact h
  split at h
  ·rename_i id q hx;obtain⟨y,y',off,cc,e,zg,h,jH,zZ,ze,ql,hall,QI,gA⟩:=DW zq.heap h;have hym:∀m,σ.next<=m->m∉y'.ids:=λm hm=>gA m ((hf m hm).cells id y zg)
   cases hval:y'.val with
   |false=>grind
   |true=>
    rw[hval]at h;simp only[zJ]at h;obtain⟨x',σ1,g1,h,yM,yC,QO,ht⟩:=Mu zq hf hval QI hym h;obtain⟨z,z',zko,cc2,e2,Vv,h,zi0,uQ,GP,ZX,ztt,q17,zt4⟩:=DW yM.heap h;have OV:=uQ;have zhv:=GP;obtain⟨hz,hblk⟩:=ht.cells id z Vv;rw[zg]at hz;simp only[zI,Obj.cell.injEq]at hz;subst hz;rw[hblk,zZ]at uQ;simp only[zI,Go.Obj.cells.injEq]at uQ;obtain⟨rfl,_,_⟩:=uQ;simp only[Sk.off,zI,p8]at zi0;obtain⟨rfl,D4⟩:=zi0;have hz':jO w g1 σ1.z6 z' cc.toList:=by
     have hl:z'.sk.size=cc.toList.length:=by rw[<-D4,<-ztt.len]
     grind[gM]
    rw[D4,<-ht.sk]at jH;obtain⟨w',hk,hws,zed,zrp⟩:=JT ht.ok hz' jH h;rw[IJ _ _ _ (by omega)]at zed;obtain⟨σ2,g2,h2,wS,wT,Xg⟩:=ih (z9t yM Vv (hws.trans D4.symm) ⟨_,_,OV,zhv,zed⟩)
     (λm hm=>OO (QO m hm) Vv (zrp m (zt4 m ((QO m hm).cells _ _ Vv)) (ht.ids m hm))) hk
    exact⟨σ2,g2,h2,wS,yC.trans wT,Xg⟩
  grind
theorem pR:(l:List (Nat×Option Path×Conv))->{g:z8}->{σ:St}->{k:St->Option R}->zP n g w a σ->qC g σ->Wc l σ k=some r->
  ∃σ' g',k σ'=some r/\zP n g' w a σ'/\Ext w g w g'/\qC g' σ'
 |[],g,σ,k,zq,hf,h=>⟨σ,g,h,zq,Ext.refl w g,hf⟩
 |(i,none,cv)::l,g,σ,k,zq,hf,h=>by
  simp only[Wc]at h;split at h
  ·rename_i x hx;obtain⟨v,hv,zc⟩:=zq.zy i x hx
   cases hval:x.val with
   |false=>grind
   |true=>
    rw[hval]at h;simp only[zJ]at h;obtain⟨w8,WR,GX,Og⟩:=jh hval;obtain⟨cs,Zw,Vw⟩:=gq zc Og;obtain⟨x',σ1,g1,h,yM,yC,QO,ht⟩:=Mu zq hf hval Zw (hf.ids hx) h;obtain⟨_,hm1,hm2,_⟩:=jh ht.val;have Oz:qy w g1 σ1.z6 x' v:=y8 ht.ok (by rw[ht.agg];exact Vw) hm1 hm2;obtain⟨σ2,g2,h2,wS,wT,Xg⟩:=pR l (yM.set hv Oz) (λm hm=>(QO m hm).set i (ht.ids m hm)) h;exact⟨σ2,g2,h2,wS,yC.trans wT,Xg⟩
  grind
 |(i,some p,.W7)::l,g,σ,k,zq,hf,h=>by
  simp only[Wc,zii]at h;split at h
  ·rename_i id q hx;split at h
   ·exact pR l zq hf h
   ·rename_i x _ ho
    cases uc:(z7.jD x).kp with
    |false=>grind
    |true=>
    rw[uc]at h;simp only[zJ]at h;obtain⟨g1,h1,h2,h2r,h3,h4⟩:=Tk zq ho uc;obtain⟨σ2,g2,k1,k2,k3,k4⟩:=pR l h1 (λm hm=>h3 m (hf m hm)) h;exact⟨σ2,g2,k1,k2,h2.trans k3,k4⟩
   grind
  grind
 |(i,some p,.row u)::l,g,σ,k,zq,hf,h=>Qf i p (.row u) l (λ{_ _ _} a b c=>pR l a b c) (by simp) zq hf h
 |(i,some p,.dat u)::l,g,σ,k,zq,hf,h=>Qf i p (.dat u) l (λ{_ _ _} a b c=>pR l a b c) (by simp) zq hf h
 |(i,some p,.nst u)::l,g,σ,k,zq,hf,h=>Qf i p (.nst u) l (λ{_ _ _} a b c=>pR l a b c) (by simp) zq hf h
 |(i,some p,.low)::l,g,σ,k,zq,hf,h=>Qf i p (.low) l (λ{_ _ _} a b c=>pR l a b c) (by simp) zq hf h
 |(i,some p,.fro)::l,g,σ,k,zq,hf,h=>Qf i p (.fro) l (λ{_ _ _} a b c=>pR l a b c) (by simp) zq hf h
theorem Gw{cut:Cut}{k:List (Nat×z7)->List Obj->Option R}(zq:zP n g w a σ)(hf:qC g σ)(h:UN cut σ k=some r):
  ∃sl os g',k sl os=some r/\zP n g' w a (St.of sl os)/\Ext w g w g'/\qC g' (St.of sl os):=by
 obtain⟨σ1,g1,h,yM,yC,QO⟩:=pR cut.conv zq hf h;split at h
 ·rename_i l hl;obtain⟨sl,os,g2,h2,wS,wT,Xg⟩:=z4x (V5 hl) yM h;exact⟨sl,os,g2,h2,wS,yC.trans wT,Xg⟩
 grind
theorem Ve{cut:Cut}(zq:zP n g w a σ)(hf:qC g σ)(h:norm cut σ k=some r):
  ∃σ' g',k σ'=some r/\zP n g' w a σ'/\Ext w g w g'/\qC g' σ':=by
 obtain⟨sl,os,g',h1,h2,h3,h4⟩:=Gw zq hf h
 grind
end
end Go.Kz
namespace Go.Kz
variable {R:Type}
def vS.to:vS->Exit
 |.normal=>.normal
 |.exit i=>.exit i
 |.ret=>.ret
def Em(s:Nat):List Oper->Bool
 |[]=>false
 |o::l=>(match o.dst with
  |some d=>Nat.beq d s
  |none=>false)||Em s l
def wrote(s:Nat):Code->Bool
 |.region _ ops _=>Em s ops.toList
 |.seq a b=>wrote s a||wrote s b
 |.cond _ a b=>wrote s a||wrote s b
 |.block _ b=>wrote s b
 |.loop b=>wrote s b
 |_=>false
theorem DY{s:Nat}:{l:List Oper}->Em s l=false->∀o∈l,o.dst≠some s
 |[],_,o,h=>by simp at h
 |x::l,hw,o,h=>by
  simp only[Em,Wh]at hw;rcases gJ.1 h with rfl|h
  ·intro hd;have h1:=hw.1;rw[hd]at h1;simp only[R4]at h1;cases h1
  ·exact DY hw.2 o h
def Kept(b:Code)(a a':Act):Prop:=∀s,wrote s b=false->a'.tmps[s]? = a.tmps[s]?
def zap(n:Nat)(g:z8)(w:World)(k:vS->St->Option R)(r:R)(F:Act->Prop)(Q:Exit->Act->World->Prop):Prop:=
 ∀e σ' g' a' w',k e σ'=some r->zP n g' w' a' σ'->Ext w g w' g'->qC g' σ'->F a'->Q e.to a' w'
theorem zap.later{n:Nat}{g g':z8}{w w':World}{k:vS->St->Option R}{r:R}{F F':Act->Prop}{Q:Exit->Act->World->Prop}(h:zap n g w k r F Q)(he:Ext w g w' g')(hF:∀a,F' a->F a):zap n g' w' k r F' Q:=
 λe σ' g2 a' w2 hk zq qm hf hF'=>h e σ' g2 a' w2 hk zq (he.trans qm) hf (hF a' hF')
section
variable {P:Program}{c:Ctx}
theorem ko(hc:xW P c)(hm:P.follows .mixedOrders=true):(code:Code)->(∀b∈j4 code,Jy c b)->{σ:St}->{g:z8}->{a:Act}->{w:World}->{k:vS->St->Option R}->{r:R}->{Q:Exit->Act->World->Prop}->
  (∀ch a w,¬Q (.panic ch) a w)->vA c code σ k=some r->zP c.ntmps g w a σ->qC g σ->zap c.ntmps g w k r (Kept code a) Q->code.wp P Q a w
 |.skip,_,σ,g,a,w,k,r,Q,_,h,zq,hf,hk=>Go.wp_skip (hk .normal σ g a w h zq (Ext.refl _ _) hf (λ_ _=>rfl))
 |.region id ops draw,_,σ,g,a,w,k,r,Q,hQ,h,zq,hf,hk=>z0d hc hm hQ h zq hf (λσ' g' a' w' h' qG kM KY hkp=>hk .normal σ' g' a' w' h' qG kM KY (λs hs=>hkp s (DY hs)))
 |.seq x y,WQ,σ,g,a,w,k,r,Q,hQ,h,zq,hf,hk=>by
  simp only[vA]at h;refine wp_seq (ko hc hm x (λb hb=>WQ b (by simp[j4,hb])) (Q:=Exit.then (y.wp P Q) Q) hQ h zq hf ?_);intro e σ1 g1 a1 w1 h1 yM yC QO zeo;have hy:∀a',Kept y a1 a'->Kept (.seq x y) a a':=λa' h s hs=>by
   simp only[wrote,Wh]at hs;rw[h s hs.2,zeo s hs.1]
  have hx:Kept (.seq x y) a a1:=λs hs=>by
   simp only[wrote,Wh]at hs;exact zeo s hs.1
  cases e with
  |normal=>
   simp only[ze7,ze9]at h1;show y.wp P Q a1 w1;split at h1
   ·obtain⟨σ2,g2,h2,wS,wT,Xg⟩:=Ve yM QO h1;exact ko hc hm y (λb hb=>WQ b (by simp[j4,hb])) hQ h2 wS Xg (hk.later (yC.trans wT) hy)
   ·exact ko hc hm y (λb hb=>WQ b (by simp[j4,hb])) hQ h1 yM QO (hk.later yC hy)
  |exit i=>exact hk (.exit i) σ1 g1 a1 w1 h1 yM yC QO hx
  |ret=>exact hk .ret σ1 g1 a1 w1 h1 yM yC QO hx
 |.cond x p q,WQ,σ,g,a,w,k,r,Q,hQ,h,zq,hf,hk=>by
  simp only[vA]at h;split at h
  ·rename_i t ht;have hv:=ZW (qH zq ht).1;refine wp_cond hv ?_
   cases t with
   |true=>exact ko hc hm p (λb hb=>WQ b (by simp[j4,hb])) hQ h zq hf (hk.later (Ext.refl _ _) λa' h s hs=>h s (by simp only[wrote,Wh]at hs;exact hs.1))
   |false=>exact ko hc hm q (λb hb=>WQ b (by simp[j4,hb])) hQ h zq hf (hk.later (Ext.refl _ _) λa' h s hs=>h s (by simp only[wrote,Wh]at hs;exact hs.2))
  ·simp at h
 |.block id b,WQ,σ,g,a,w,k,r,Q,hQ,h,zq,hf,hk=>by
  simp only[vA]at h;refine wp_block (ko hc hm b (λb' hb=>WQ b' (by simp[j4,hb])) (Q:=Exit.inBlock id Q) hQ h zq hf ?_);intro e σ1 g1 a1 w1 h1 yM yC QO zeo;have hx:Kept (.block id b) a a1:=zeo
  cases e with
  |normal=>exact hk .normal σ1 g1 a1 w1 h1 yM yC QO hx
  |exit i=>
   simp only[z6w]at h1;simp only[vS.to,Exit.inBlock]
   cases hb:Nat.beq i id with
   |true=>
    rw[hb]at h1;rw[qn (zE hb)]
    exact hk .normal σ1 g1 a1 w1 h1 yM yC QO hx
   |false=>
    rw[hb]at h1;rw[qP (λhe=>by subst he;rw[R4]at hb;simp at hb)]
    exact hk (.exit i) σ1 g1 a1 w1 h1 yM yC QO hx
  |ret=>exact hk .ret σ1 g1 a1 w1 h1 yM yC QO hx
 |.loop b,WQ,σ,g,a,w,k,r,Q,hQ,h,zq,hf,hk=>by
  simp only[vA]at h;split at h
  ·rename_i rg YH;split at h
   ·rename_i lv hlv;split at h
    ·rename_i L hL;obtain⟨sl0,os0,g0,h,Xk,z8f,hf0⟩:=Gw zq hf h;have h:=WQ b (by simp[j4]) rg lv L YH hlv hL R sl0 os0 k r h;refine wp_loop_rounds c.fuel ?_;have rounds:∀(n:Nat){sl:List (Nat×z7)}{os:List Obj}{g1:z8}{a1:Act}{w1:World},V4 (vA c b) lv n sl os (V8 c rg k)=some r->zP c.ntmps g1 w1 a1 (St.of sl os)->qC g1 (St.of sl os)->Ext w g w1 g1->Kept b a a1->Code.rounds P b Q n a1 w1:=by
      intro n
      induction n with
      |zero=>intro sl os g1 a1 w1 h;simp[V4]at h
      |succ n ih=>
      intro sl os g1 a1 w1 h zq hf qm hkp;simp only[V4]at h;rw[rounds_succ];refine ko hc hm b (λb' hb=>WQ b' (by simp[j4,hb])) (Q:=Exit.then (Code.rounds P b Q n) Q) hQ h zq hf ?_;intro e σ2 g2 a2 w2 h2 wS wT Xg q1r;have hx:Kept (.loop b) a a2:=λs hs=>(q1r s hs).trans (hkp s hs)
      cases e with
      |normal=>
       obtain⟨sl3,os3,g3,h3,Oy,Lb,hf3⟩:=Gw wS Xg h2
       exact ih h3 Oy hf3 ((qm.trans wT).trans Lb) hx
      |exit i=>
       simp only[V8]at h2;split at h2
       ·obtain⟨σ3,g3,h3,Oy,Lb,hf3⟩:=Ve wS Xg h2;exact hk (.exit i) σ3 g3 a2 w2 h3 Oy ((qm.trans wT).trans Lb) hf3 hx
       ·simp at h2
      |ret=>
       simp only[V8]at h2;obtain⟨σ3,g3,h3,Oy,Lb,hf3⟩:=Ve wS Xg h2;exact hk .ret σ3 g3 a2 w2 h3 Oy ((qm.trans wT).trans Lb) hf3 hx
     exact rounds c.fuel h Xk hf0 z8f (λ_ _=>rfl)
    ·simp at h
   ·simp at h
  ·simp at h
 |.exit id,_,σ,g,a,w,k,r,Q,_,h,zq,hf,hk=>wp_exit (hk (.exit id) σ g a w h zq (Ext.refl _ _) hf (λ_ _=>rfl))
 |.ret,_,σ,g,a,w,k,r,Q,_,h,zq,hf,hk=>wp_ret (hk .ret σ g a w h zq (Ext.refl _ _) hf (λ_ _=>rfl))
 |.goto _,_,_,_,_,_,_,_,_,_,h,_,_,_=>by simp[vA]at h
 |.label _,_,_,_,_,_,_,_,_,_,h,_,_,_=>by simp[vA]at h
 |.scope _,_,_,_,_,_,_,_,_,_,h,_,_,_=>by simp[vA]at h
 |.rangeFunc _ _ _ _,_,_,_,_,_,_,_,_,_,h,_,_,_=>by simp[vA]at h
 |.refuse _,_,_,_,_,_,_,_,_,_,h,_,_,_=>by simp[vA]at h
end
end Go.Kz
namespace Go.Kz
variable {R:Type}
def Ty.ku:Ty->Bool
 |.pair _ _ |.unit=>true
 |_=>false
def Ty.C6:Ty->Bool
 |.sl true t=>t.zW
 |.pair a b=>a.C6&&b.C6&&b.ku
 |t=>t.zW
structure XY (g:z8) (E4:qQ) (g':z8) (kq:qQ) (ml:List (Option Nat)):Prop where
 sv:g'.sv=g.sv
 qY:g'.qY=g.qY
 z6:∀i,kq i=E4 i\/kq i=none
 tag:∀b,g'.tag b=g.tag b\/(g'.tag b=.ro/\∃id,E4 id≠none/\kq id=none/\some id∉ml/\((∃p,g.tag b=.row id p)\/g.tag b=.box id))
 mv:∀i,some i∈ml->E4 i≠none/\kq i=none
 nodup:(ml.filterMap id).Nodup
theorem jB.shr{g g':z8}{o o':qQ}(h:jB g o g' o'):XY g o g' o' []:=by
 refine⟨h.sv,h.qY,h.z6,λb=>?_,λi hi=>by grind,by simp⟩;rcases h.tag b with e|⟨e,id,h1,h2,h3⟩
 all_goals grind
theorem XY.nil(g:z8)(z6:qQ):XY g z6 g z6 [none]:=⟨rfl,rfl,λ_=>.inl rfl,λ_=>.inl rfl,λi h=>by simp at h,by simp⟩
theorem XY.ro{g g':z8}{o o':qQ}{mv:List (Option Nat)}(h:XY g o g' o' mv)(w:World):zS w g w g':=by
 refine⟨λb hb=>⟨?_,rfl⟩⟩;rcases h.tag b with e|⟨e,_⟩
 all_goals grind
theorem XY.stays{g g':z8}{o o':qQ}{mv:List (Option Nat)}(h:XY g o g' o' mv)(w:World){id:Nat}(hid:o id=none\/o' id≠none\/some id∈mv):Qr w g w g' id:=by
 have Ua:∀vT,o vT≠none->o' vT=none->some vT∉mv->vT≠id:=by
  grind
 refine⟨⟨λq=>by rw[h.sv],λq b hb=>⟨?_,rfl⟩⟩,by rw[h.qY],λhb=>⟨?_,rfl⟩⟩
 ·rcases h.tag b with e|⟨_,vT,h1,h2,h3,ht⟩
  all_goals grind
 ·rcases h.tag (g.qY id) with e|⟨_,vT,h1,h2,h3,ht⟩
  all_goals grind
theorem XY.trans{g g' g'':z8}{o o' o'':qQ}{m1 m2:List (Option Nat)}(h:XY g o g' o' m1)(k:XY g' o' g'' o'' m2):XY g o g'' o'' (m1++m2):=by
 have Su:∀i,o' i≠Option.none->o i≠Option.none:=by
  intro i hi;rcases h.z6 i with e|e
  all_goals grind
 have zt8:∀i,o' i=Option.none->o'' i=Option.none:=by
  intro i hi;rcases k.z6 i with e|e
  all_goals grind
 refine⟨k.sv.trans h.sv,k.qY.trans h.qY,λi=>?_,λb=>?_,λi hi=>?_,?_⟩
 ·rcases k.z6 i with e|e
  ·rw[e];exact h.z6 i
  grind
 ·rcases k.tag b with e|⟨e,id,h1,h2,h3,ht⟩
  ·rcases h.tag b with e2|⟨e2,id,h1,h2,h3,ht⟩
   ·grind
   ·refine .inr ⟨e.trans e2,id,h1,zt8 id h2,λhm=>?_,ht⟩;rcases PH.1 hm with hm|hm
    ·grind
    ·exact absurd h2 (k.mv id hm).1
  ·rcases h.tag b with e2|⟨e2,_⟩
   ·rw[e2]at ht;refine .inr ⟨e,id,Su id h1,h2,λhm=>?_,ht⟩;rcases PH.1 hm with hm|hm
    ·exact h1 (h.mv id hm).2
    grind
   grind
 ·rcases PH.1 hi with hi|hi
  ·exact⟨(h.mv i hi).1,zt8 i (h.mv i hi).2⟩
  ·exact⟨Su i (k.mv i hi).1,(k.mv i hi).2⟩
 ·rw[List.filterMap_append,Z49];refine⟨h.nodup,k.nodup,λa ha b hb=>?_⟩;have ha':some a∈m1:=by grind
  have Zk:some b∈m2:=by grind
  intro he;subst he;exact(k.mv a Zk).1 (h.mv a ha').2
theorem XY.kept{w:World}{g g':z8}{o o':qQ}{mv:List (Option Nat)}(h:XY g o g' o' mv)(id:Nat):qu g g' id (o id) (o' id):=by
 rcases h.z6 id with e|e
 ·rw[e];by_cases hn:o' id=Option.none
  ·left;grind
  ·exact qu.same (h.stays w (.inr (.inl hn)))
 ·exact .inl e
theorem XY.heap{w:World}{g g':z8}{o o':qQ}{mv:List (Option Nat)}(h:XY g o g' o' mv)(hh:yH w g o):yH w g' o':=by
 refine⟨λid x hx=>?_,λb hb=>?_⟩
 ·have hid:o' id≠Option.none:=by grind
  have QF:o id=some x:=by
   rcases h.z6 id with e|e
   all_goals grind
  exact qz.frame (h.ro w) (h.stays w (.inr (.inl hid))) (λa ha vT _=>h.kept (w:=w) vT) (hh.z6 id x QF)
 ·refine hh.tags b ?_;rcases h.tag b with e|⟨e,vT,_,_,_,ht⟩
  all_goals grind
theorem XY.ext{w:World}{g g':z8}{o o':qQ}{mv:List (Option Nat)}(h:XY g o g' o' mv):Ext w g w g':=by
 refine⟨rfl,rfl,rfl,jq _,jq _,λb _ ht=>⟨rfl,?_⟩⟩;rcases h.tag b with e|⟨_,vT,_,_,_,h2⟩
 all_goals grind
theorem z6q{g:z8}{σ:St}{id:Nat}(hid:σ.z6 id≠none):XY g σ.z6 g (σ.kill id).z6 [some id]:=by
 refine⟨rfl,rfl,(wx (g:=g) (σ:=σ) id hid).z6,λb=>.inl rfl,λi hi=>?_,by simp⟩;simp_all[St.kill,Y4]
structure Laid (w:World) (g:z8) (mv:List (Option Nat)) (G:z8) (base:Nat):Prop where
 ro:zS w g w G
 row:∀j i,zT mv j=some (some i)->Zi w g w G i [] (base+j) []
 nil:∀j,zT mv j=some none->G.sv (base+j) []=.slice none 0 0
theorem kD{I:Type}:(l m:List I)->(i:Nat)->zT (l++m) i=if i<l.length then zT l i else zT m (i-l.length)
 |[],m,i=>by simp
 |x::l,m,0=>by simp[zT]
 |x::l,m,i+1=>by simp[zT,kD l m i]
theorem Laid.left{w:World}{g g' G:z8}{o o':qQ}{m1 m2:List (Option Nat)}{base:Nat}(k:XY g o g' o' m2)(hm:∀i,some i∈m1->o i=none)(h:Laid w g' (m1++m2) G base):Laid w g m1 G base:=by
 refine⟨⟨λb hb=>h.ro.qY b ((k.ro w).qY b hb).1⟩,λj i hj=>?_,λj hj=>?_⟩
 ·have yP:=kg hj;have hx:=h.row j i (by grind[kD]);have hs:=k.stays w (.inl (hm i (js hj)));refine⟨λq=>(hx.sv q).trans (hs.row.sv q),λq b hb=>?_⟩;exact hx.qY q b (hs.row.qY q b hb).1
 ·exact h.nil j (by grind[kD,kg])
theorem Laid.right{w:World}{g G:z8}{m1 m2:List (Option Nat)}{base:Nat}(h:Laid w g (m1++m2) G base):Laid w g m2 G (base+m1.length):=by
 refine⟨h.ro,λj i hj=>?_,λj hj=>?_⟩
 ·have:=h.row (m1.length+j) i (by grind[kD])
  grind
 ·have:=h.nil (m1.length+j) (by grind[kD])
  grind
theorem UY:(t:Ty)->(d:t.den)->(n:Nat)->t.zW=true->zj t d n=(.data t d,[])
 |.sl true t,l,n,h=>by simp[Ty.zW]at h
 |.sl false t,l,n,_=>rfl
 |.int _,_,_,_=>rfl
 |.bool,_,_,_=>rfl
 |.str,_,_,_=>rfl
 |.unit,_,_,_=>rfl
 |.arr _ _,_,_,_=>rfl
 |.ptr _,_,_,_=>rfl
 |.fn _ _,_,_,_=>rfl
 |.tree _,_,_,_=>rfl
 |.pair a b,(x,y),n,h=>by grind[zj]
theorem YT{w:World}{g:z8}{z6:qQ}:(t:Ty)->(d:t.den)->(n:Nat)->{cs:List Value}->t.zW=true->t.ku=true->t.C6=true->zM w g none t d cs->
  jO w g z6 (zj.zr t d n).1 cs/\(zj.zr t d n).2=[]
 |.unit,_,_,cs,_,_,_,h=>⟨h,rfl⟩
 |.pair a b,(x,y),n,cs,h,_,he,hr=>by
  obtain⟨c1,c2,rfl,h1,h2⟩:=hr;simp only[Ty.zW,zA]at h;simp only[Ty.C6,zA]at he;have ha:=UY a x n h.1;have hb:=λn=>YT (z6:=z6) b y n h.2 he.2 he.1.2 h2
  simp only[zj.zr,ha,Z1y,Ot,JD]
  exact⟨⟨c1,c2,rfl,⟨h.1,h1⟩,(hb n).1⟩,(hb n).2⟩
 |.int _,_,_,_,_,h,_,_=>by simp[Ty.ku]at h
 |.bool,_,_,_,_,h,_,_=>by simp[Ty.ku]at h
 |.str,_,_,_,_,h,_,_=>by simp[Ty.ku]at h
 |.arr _ _,_,_,_,_,h,_,_=>by simp[Ty.ku]at h
 |.sl _ _,_,_,_,_,h,_,_=>by simp[Ty.ku]at h
 |.ptr _,_,_,_,_,h,_,_=>by simp[Ty.ku]at h
 |.fn _ _,_,_,_,_,h,_,_=>by simp[Ty.ku]at h
 |.tree _,_,_,_,_,h,_,_=>by simp[Ty.ku]at h
structure Wj (w:World) (G:z8) (x:z7×List Obj) (base:Nat) (cs:List Value):Prop where
 ok:∀O,jO w G O x.1 cs
 z6:∀O j o,zT x.2 j=some o->qz w G O (base+j) o
theorem zf3{R:Type}{n:Nat}{pt:Bool}{id:Nat}{p:Path}{ep:Nat}{u:Ty}{σ:St}{k:u.den->St->Option R}{r:R}(h:qO n (.nv pt id p ep) u σ k=some r):∃v,u=.sl false v:=by
 cases n with
 |zero=>simp[qO]at h
 |succ n=>
  cases pt with
  |true=>simp[qO]at h
  |false=>
   cases p with
   |cons s q=>simp[qO]at h
   |nil=>
    grind[qO]
theorem GI{w:World}:(n:Nat)->{a:z7}->{u:Ty}->{σ:St}->{g:z8}->{k:u.den->St->Option R}->{r:R}->{cs:List Value}->
  yH w g σ.z6->jO w g σ.z6 a cs->u.C6=true->qO n a u σ k=some r->
  ∃d σ' g' mv,k d σ'=some r/\σ'.zy=σ.zy/\σ'.next=σ.next/\XY g σ.z6 g' σ'.z6 mv/\(∀m,(zj u d m).2.length=mv.length)/\
   (∀G base,Laid w g' mv G base->Wj w G (zj u d base) base cs)/\
   (u.ku=true->(∀m,(zj.zr u d m).2.length=mv.length)/\∀G base,Laid w g' mv G base->Wj w G (zj.zr u d base) base cs)
 |0,_,_,_,_,_,_,_,_,_,_,h=>by simp[qO]at h
 |n+1,a,u,σ,g,k,r,cs,hh,zc,hu,h=>by
  have ro:∀d σ' g',u.zW=true->k d σ'=some r->σ'.zy=σ.zy->σ'.next=σ.next->XY g σ.z6 g' σ'.z6 []->zM w g' none u d cs->
    ∃d σ' g' mv,k d σ'=some r/\σ'.zy=σ.zy/\σ'.next=σ.next/\XY g σ.z6 g' σ'.z6 mv/\(∀m,(zj u d m).2.length=mv.length)/\
     (∀G base,Laid w g' mv G base->Wj w G (zj u d base) base cs)/\
     (u.ku=true->(∀m,(zj.zr u d m).2.length=mv.length)/\∀G base,Laid w g' mv G base->Wj w G (zj.zr u d base) base cs):=by
   intro d σ' g' qU hk h1 h2 h3 zN;refine⟨d,σ',g',[],hk,h1,h2,h3,λm=>by grind[UY],λG base hl=>?_,λhch=>⟨λm=>?_,λG base hl=>?_⟩⟩
   ·rw[UY u d base qU];exact⟨λO=>⟨qU,zN.kept hl.ro⟩,λO j o hj=>by grind[zT]⟩
   ·rw[(YT (w:=w) (z6:=λ_=>none) u d m qU hch hu zN).2];rfl
   ·refine⟨λO=>(YT u d base qU hch hu (zN.kept hl.ro)).1,λO j o hj=>?_⟩;rw[(YT (w:=w) (z6:=λ_=>none) u d base qU hch hu zN).2]at hj
    grind[zT]
  cases qU:u.zW with
  |true=>
   obtain⟨d,σ',g',hk,h1,h2,h3,zN⟩:=gS (n+1) hh zc qU h
   exact ro d σ' g' qU hk h1 h2 h3.shr zN
  |false=>
  cases a with
  |data t d=>
   simp only[qO]at h;obtain⟨_,_,Vj,_⟩:=vr h zc.1
   grind
  |za=>
   simp only[qO]at h;obtain⟨o,v,rfl,h⟩:=Vf h;have Uk:cs=[.slice none 0 0]:=zc;subst Uk
   cases o with
   |false=>grind[Ty.C6]
   |true=>
    refine⟨_,σ,g,[none],h,rfl,rfl,XY.nil _ _,λm=>rfl,λG base hl=>?_,λhch=>by grind[Ty.ku]⟩;have yU:=hl.nil 0 rfl;refine⟨λO=>⟨_,rfl,rfl,λt l e _=>⟨v8 _,λ_=>yU.symm⟩⟩,λO j o hj=>?_⟩
    cases j with
    |succ j=>grind[zj,zT]
    |zero=>
     simp only[zj,zT,zI]at hj;subst hj;refine⟨hu,?_⟩;rw[yU]
     exact⟨none,0,rfl,yU,jq _,v8 _,.inl ⟨rfl,rfl,rfl⟩⟩
  |ref id p ep=>
   cases p with
   |cons s q=>simp[qO]at h
   |nil=>
    simp only[qO]at h;split at h
    ·rename_i t l e ho
     cases hb:Nat.beq e ep with
     |false=>grind
     |true=>
      have he:e=ep:=zE hb;subst he;rw[hb]at h;simp only[zJ]at h;obtain⟨v,rfl,_,hv⟩:=zc;have yU:=(hv _ _ _ ho).2 rfl;have zg:=hh.z6 id _ ho;split at h
      ·rename_i v' kk;obtain⟨he,h⟩:=yz h;simp only[Ty.sl.injEq,X3]at he;subst he;refine⟨_,σ.kill id,g,[some id],h,rfl,rfl,z6q (by grind),λm=>rfl,λG base hl=>?_,λhch=>by grind[Ty.ku]⟩;have hm:=hl.row 0 id rfl;have z7h:=hm.sv [];simp only[Hc]at z7h;refine⟨λO=>⟨_,rfl,?_,λt l e _=>⟨v8 _,λ_=>?_⟩⟩,λO j o hj=>?_⟩
       ·omega
       ·grind
       ·cases j with
        |succ j=>grind[zj,zT]
        |zero=>
         simp only[zj,zT,zI]at hj;subst hj;refine⟨zg.1,?_⟩;have:=zM.move hl.ro (o:=some (id,[])) (o':=some (base,[])) hm zg.2
         grind
      all_goals grind[Ty.C6]
    grind
  |zw id p=>
   cases u with
   |ptr u=>rw[show(Ty.ptr u).zW=true from hu]at qU;grind
   |_=>grind[qO]
  |qW f c=>
   cases u with
   |fn f' t=>rw[show(Ty.fn f' t).zW=true from hu]at qU;grind
   |_=>simp[qO]at h
  |ZU t c=>simp[qO]at h
  |agg c=>
   simp only[qO]at h
   exact GI n (a:=c) hh zc hu h
  |pr a b=>
   cases u with
   |pair t u=>
    simp only[qO]at h;simp only[Ty.C6,zA]at hu;obtain⟨c1,c2,rfl,ha,hb⟩:=zc;obtain⟨x,σ1,g1,mv1,Y0,h1,h2,h3,hl1,he1,_⟩:=GI n hh ha hu.1.1 h;have Zk:=jO.frame (kq:=σ1.z6) (h3.ro w) (λi _=>h3.kept (w:=w) i) hb;obtain⟨y,σ2,g2,mv2,Kc,h4,h5,h6,I0,he2,WY⟩:=GI n (h3.heap hh) Zk hu.1.2 Y0;obtain⟨hcl2,q2j⟩:=WY hu.2;have zsu:∀m,(zj.zr (.pair t u) (x,y) m).2.length=(mv1++mv2).length:=λm=>by
     grind[zj.zr]
    have zmg:∀G base,Laid w g2 (mv1++mv2) G base->Wj w G (zj.zr (.pair t u) (x,y) base) base (c1++c2):=λG base hl=>by
     have e1:=he1 G base (hl.left h6 (λi hi=>(h3.mv i hi).2));have e2:=q2j G (base+mv1.length) hl.right;simp only[zj.zr];rw[hl1 base];refine⟨λO=>⟨c1,c2,rfl,e1.ok O,e2.ok O⟩,λO j o hj=>?_⟩;rw[kD]at hj;split at hj
     ·exact e1.z6 O j o hj
     ·rename_i PE;rw[hl1 base]at hj PE;have:=e2.z6 O _ o hj
      grind
    refine⟨(x,y),σ2,g2,mv1++mv2,Kc,h4.trans h1,h5.trans h2,h3.trans h6,λm=>?_,λG base hl=>?_,λ_=>⟨zsu,zmg⟩⟩
    ·grind[zj]
    ·simp only[zj];rw[qU]
     exact⟨λO=>(zmg G base hl).ok O,(zmg G base hl).z6⟩
   |_=>simp[qO]at h
  |un=>
   cases u with
   |unit=>
    grind[Ty.zW]
   |_=>simp[qO]at h
  |view id p ep x y=>grind[qO]
  |jV id p ep=>grind[qO]
  |qF id=>grind[qO]
  |nv pt id p ep=>
   grind[zf3,Ty.C6]
  |jD c=>exact zc.elim
end Go.Kz
namespace Go.Kz
variable {R:Type}
def Ku(x:Nat):List (Option Nat)->Nat->Option Nat
 |[],_=>none
 |some y::l,i=>if y=x then some i else Ku x l (i+1)
 |none::l,i=>Ku x l (i+1)
theorem Kp{x:Nat}:{l:List (Option Nat)}->{k d:Nat}->(l.filterMap id).Nodup->zT l d=some (some x)->Ku x l k=some (k+d)
 |[],_,d,_,h=>by grind[zT]
 |none::l,k,d,hn,h=>by
  cases d with
  |zero=>simp[zT]at h
  |succ d=>
   simp only[Ku];rw[Kp (l:=l) (by grind) h]
   grind
 |some y::l,k,0,_,h=>by
  grind[zT,Ku]
 |some y::l,k,d+1,hn,h=>by
  have Ff:y∉l.filterMap id/\(l.filterMap id).Nodup:=by grind
  have hm:some x∈l:=js h;have va:y≠x:=by
   grind
  simp only[Ku,qP va];rw[Kp (l:=l) Ff.2 h]
  grind
def Zz(g:z8)(mv:List (Option Nat)):z8 where
 tag:=λb=>match g.tag b with
  |.row i p=>(match Ku i mv 0 with
   |some j=>.row j p
   |none=>.qw)
  |.box _=>.qw
  |t=>t
 sv:=λj p=>match zT mv j with
  |some (some i)=>g.sv i p
  |_=>.slice none 0 0
 qY:=λ_=>0
theorem Ro{w:World}{g:z8}{mv:List (Option Nat)}(hn:(mv.filterMap id).Nodup):Laid w g mv (Zz g mv) 0:=by
 refine⟨⟨λb hb=>⟨by simp[Zz,hb],rfl⟩⟩,λj i hj=>?_,λj hj=>by simp[Zz,hj]⟩;have hx:=Kp (k:=0) hn hj;rw[Wq]at hx⊢;exact⟨λq=>by simp[Zz,hj],λq b hb=>⟨by grind[Zz],rfl⟩⟩
theorem BZ{w:World}{g:z8}{mv:List (Option Nat)}:Ext w g w (Zz g mv):=by
 refine⟨rfl,rfl,rfl,jq _,jq _,λb _ ht=>⟨rfl,?_⟩⟩
 grind[Zz]
theorem HX:(t:Ty)->(d:t.den)->(n:Nat)->(zj t d n).1.isAgg=t.sk.isAgg
 |.sl true t,l,n=>rfl
 |.sl false t,l,n=>rfl
 |.int _,_,_=>rfl
 |.bool,_,_=>rfl
 |.str,_,_=>rfl
 |.unit,_,_=>rfl
 |.arr _ _,_,_=>rfl
 |.ptr _,_,_=>rfl
 |.fn _ _,_,_=>rfl
 |.tree _,_,_=>rfl
 |.pair a b,(x,y),n=>by
  simp only[zj];cases (Ty.pair a b).zW<;>rfl
theorem Mj{w:World}{G:z8}{t:Ty}{d:t.den}{base:Nat}{cs:List Value}{v:Value}{agg:Bool}(h:Wj w G (zj t d base) base cs)(hv:v=jl agg cs)(ha:agg=t.sk.isAgg)(O:qQ):
  qy w G O (zj t d base).1 v:=
 y8 (h.ok O) (by grind[HX]) (uf t d base).1 (uf t d base).2.1
section
variable {n:Nat}{w:World}{a:Act}{g:z8}{σ:St}{r:R}
def VY:List Ty->Bool
 |[]=>true
 |t::ts=>t.C6&&VY ts
def G3(tmps:Array Value):ResultVar->Sem Value
 |.tmp t=>pure (tmps.getD t undef)
 |.cell a t=>do loadVar t (<-asAddr (tmps.getD a undef))
theorem ze1{x:z7}{v:Value}{f:z7->Option R}{r:R}(hh:yH w g σ.z6)(ex:qy w g σ.z6 x v)(h:ZR σ x f=some r):
  ∃lv b off cc e fz,v=.pointer (some ⟨b,off,none⟩)/\w.heap[b]? = some (.cells cc e fz)/\off+lv.sk.size<=cc.size/\jO w g σ.z6 lv (qi cc.toList off lv.sk.size)/\f lv=some r:=by
 unfold ZR at h;split at h
 ·rename_i t' d;simp only[qy]at ex;obtain⟨cs,⟨qU,b,off,cc,e,fz,rfl,ze,zZ,ql,zN⟩,hv⟩:=ex;exact⟨.data t' d,b,off,cc,e,fz,hv,zZ,by grind[z7.sk,Ty.zX],⟨by grind[Ty.zW],by grind[z7.sk,Ty.zX]⟩,h⟩
 ·rename_i id p ep;split at h
  ·simp at h
  ·rename_i s q;obtain⟨t0,l0,Ht⟩:=ZY h;simp only[qy]at ex;obtain⟨cs,⟨v,rfl,qN,hv⟩,je⟩:=ex;obtain⟨hp,b0,j6,gX,uZ⟩:=(hv _ _ _ Ht).2 rfl;obtain⟨t1,l1,u1,e1,b,off,cc,ee,CR,qU,hk,Oq,gQ,wM,ze,zZ,ql,zN⟩:=xf hh hp h;rw[Ht]at CR;simp only[zI,Obj.row.injEq]at CR;obtain⟨rfl,_,_⟩:=CR;rw[gX]at gQ;simp only[zI,p8]at gQ;obtain⟨rfl,rfl⟩:=gQ;exact⟨.data u1 e1,b0,j6,cc,ee,(0,0),by rw[je];exact uZ,zZ,by grind[z7.sk,Ty.zX],⟨Oq,by grind[z7.sk,Ty.zX]⟩,hk⟩
 ·rename_i id p;obtain⟨xc,y,off,cc,e,zg,h2,jH,zZ,ze,hle,QI,hi⟩:=Qi hh h;simp only[qy]at ex;obtain⟨cs,⟨v,rfl,qN,hv⟩,je⟩:=ex;obtain⟨K8,s,kL,uZ⟩:=hv _ zg;rw[jH]at kL;simp only[zI,p8]at kL;obtain⟨rfl,_⟩:=kL;exact⟨y,g.qY id,off,cc,e,(0,0),by rw[je];exact uZ,zZ,hle,QI,h2⟩
 ·rename_i id p ep;obtain⟨t1,l1,e1,i1,h0,zg,Fo,zN,hk⟩:=Vh hh h;simp only[qy]at ex;obtain⟨cs,⟨v,rfl,qN,hv⟩,je⟩:=ex;obtain⟨hp,b0,j6,gX,uZ⟩:=((hv _ _ _ _ _ zg).2 Fo).2 rfl
  cases p with
  |nil=>grind
  |cons s q=>
   obtain⟨u1,x1,bh,oh,ch,eh,ph,hk,gQ,wM,_,ze,zZ,ql,hr⟩:=Z6 zN hk;rw[gX]at gQ;simp only[zI,p8]at gQ;obtain⟨rfl,rfl⟩:=gQ
   cases qU:u1.zW with
   |true=>
    rw[qU]at hk
    exact⟨.data u1 x1,b0,j6,ch,eh,(0,0),by rw[je];exact uZ,zZ,by grind[z7.sk,Ty.zX],⟨qU,by grind[z7.sk,Ty.zX,zM.yy]⟩,hk⟩
   |false=>
    rw[qU]at hk;simp only[zU]at hk;split at hk
    ·rename_i v1;obtain⟨ad,cp,Zw,yU,_⟩:=hr;refine⟨.nv false id (s::q) ep,b0,j6,ch,eh,(0,0),by rw[je];exact uZ,zZ,ql,⟨_,Zw,rfl,λt2 l2 e2 i2 h2 jk=>?_⟩,hk⟩;rw[zg]at jk;simp only[zI,Obj.nest.injEq]at jk;obtain⟨rfl,_,rfl,rfl,_⟩:=jk;have XD:i1=ep:=Fo;exact⟨Z3d XD.symm,λ_=>⟨λ_=>yU.symm,λh=>(by simp at h)⟩⟩
    grind
 grind
theorem zkb{P:Program}{tt:Nat->Option Ty}(wi:gH P tt){s:ResultVar}{f:z7->Option R}{r:R}(zq:zP n g w a σ){t:Ty}
  (h:rvK tt σ s (λav=>cond (av.val&&av.sk.same t.sk) (f av) none)=some r) :
  ∃av v cs,f av=some r/\(G3 a.tmps s).run P w=.ok v w/\jO w g σ.z6 av cs/\v=jl t.sk.isAgg cs:=by
 cases s with
 |tmp s=>
  simp only[rvK]at h;split at h
  ·rename_i av hs
   cases hb:(av.val&&av.sk.same t.sk) with
   |false=>grind
   |true=>
    rw[hb]at h;simp only[zJ]at h;simp only[zA]at hb;obtain⟨v,hv,zc⟩:=zq.zy s av hs;obtain⟨w8,_,_,Og⟩:=jh hb.1;obtain⟨cs,Zw,Vw⟩:=gq zc Og;have hvg:a.tmps.getD s undef=v:=by simp_all
    exact⟨av,v,cs,h,by simp[G3,hvg],Zw,by grind[Sk.qJ]⟩
  grind
 |cell s T=>
  simp only[rvK]at h;split at h
  ·rename_i x u hs hu;have hT:=wi _ _ hu;obtain⟨v,hv,zc⟩:=zq.zy s x hs;obtain⟨lv,b,off,cc,e,fz,hvp,zZ,hle,Uk,h⟩:=ze1 zq.heap zc h
   cases hc:u.sk.same lv.sk with
   |false=>grind
   |true=>
    rw[hc]at h;simp only[zJ]at h
    cases hb:(lv.val&&lv.sk.same t.sk) with
    |false=>grind
    |true=>
     rw[hb]at h;simp only[zJ]at h;simp only[zA]at hb;have po:=Sk.qJ hc;have hsk2:=Sk.qJ hb.2;have ql:u.size=lv.sk.size:=by grind[Ty.zX]
     have zn:=Jc (P:=P) (w:=w) hT zZ (by rw[ql];exact hle);have hvg:a.tmps.getD s undef=v:=by simp_all
     grind[G3,asAddr]
  grind
theorem Fu{P:Program}{tt:Nat->Option Ty}(wi:gH P tt){t:Ty}{s:ResultVar}{k:t.den->St->Option R}(zq:zP n g w a σ)(ht:t.C6=true)(h:rvK tt σ s (λa=>cond (a.val&&a.sk.same t.sk) (qO 20 a t σ k) none)=some r):
  ∃d σ' g' mv v,k d σ'=some r/\(G3 a.tmps s).run P w=.ok v w/\zP n g' w a σ'/\XY g σ.z6 g' σ'.z6 mv/\(∀m,(zj t d m).2.length=mv.length)/\
   ∀G base,Laid w g' mv G base->(∀O,qy w G O (zj t d base).1 v)/\∀O j o,zT (zj t d base).2 j=some o->qz w G O (base+j) o:=by
 obtain⟨av,v,cs,h,zn,Zw,Vw⟩:=zkb wi zq h;obtain⟨d,σ',g',mv,hk,h1,h2,h3,hl,he,_⟩:=GI 20 zq.heap Zw ht h;have qG:zP n g' w a σ':=by
  refine⟨λi x hi=>?_,h3.heap zq.heap,zq.size,zq.defers,zq.known.kept (h3.ro w)⟩;rw[h1]at hi;obtain⟨u,hu,hx⟩:=zq.zy i x hi;exact⟨u,hu,qy.frame (h3.ro w) (λid _=>h3.kept (w:=w) id) hx⟩
 refine⟨d,σ',g',mv,v,hk,zn,qG,h3,hl,λG base hL=>?_⟩;have hE:=he G base hL;exact⟨λO=>Mj hE Vw rfl O,hE.z6⟩
theorem ID{tt:Nat->Option Ty}{t:Ty}{rs:List ResultVar}{k:jY [t]->St->Option R}{r:R}(h:G7 tt σ [t] rs k=some r):
  ∃s,rs=[s]/\rvK tt σ s (λa=>cond (a.val&&a.sk.same t.sk) (qO 20 a t σ k) none)=some r:=by
 match rs,h with
 |[s],h=>exact⟨s,rfl,h⟩
 |[],h=>simp[G7]at h
 |_::_::_,h=>simp[G7]at h
theorem z0c{tt:Nat->Option Ty}{t u:Ty}{ts:List Ty}{rs:List ResultVar}{k:jY (t::u::ts)->St->Option R}{r:R}(h:G7 tt σ (t::u::ts) rs k=some r):
  ∃s l,rs=s::l/\rvK tt σ s (λa=>cond (a.val&&a.sk.same t.sk) (qO 20 a t σ λd σ=>G7 tt σ (u::ts) l λds σ=>k (d,ds) σ) none)=some r:=by
 match rs,h with
 |s::l,h=>exact⟨s,l,rfl,h⟩
 |[],h=>simp[G7]at h
def Reads(P:Program)(tmps:Array Value)(w:World):List ResultVar->List Value->Prop
 |[],[]=>True
 |s::l,v::vs=>(G3 tmps s).run P w=.ok v w/\Reads P tmps w l vs
 |_,_=>False
theorem RX{P:Program}{tt:Nat->Option Ty}(wi:gH P tt):(ts:List Ty)->(rs:List ResultVar)->{g:z8}->{σ:St}->{k:jY ts->St->Option R}->{r:R}->ts≠[]->zP n g w a σ->VY ts=true->G7 tt σ ts rs k=some r->
  ∃(d:jY ts) (σ':St) (g':z8) (mv:List (Option Nat)) (vs:List Value),k d σ'=some r/\Reads P a.tmps w rs vs/\vs.length=ts.length/\zP n g' w a σ'/\XY g σ.z6 g' σ'.z6 mv/\(∀m,(zK.chain ts d m).2.length=mv.length)/\
   (∀G base,Laid w g' mv G base->(∀O,qj w G O (zK.chain ts d base).1 vs)/\∀O j o,zT (zK.chain ts d base).2 j=some o->qz w G O (base+j) o)
 |[],_,_,_,_,_,va,_,_,_=>absurd rfl va
 |[t],rs,g,σ,k,r,_,zq,ht,h=>by
  simp only[VY,Z4c]at ht;obtain⟨s,rfl,h⟩:=ID h;obtain⟨d,σ',g',mv,v,hk,zn,qG,D5,hl,he⟩:=Fu wi zq ht h;refine⟨d,σ',g',mv,[v],hk,⟨zn,trivial⟩,rfl,qG,D5,λm=>by grind[zK.chain],λG base hL=>?_⟩
  grind[zK.chain,qj]
 |t::u::ts,rs,g,σ,k,r,_,zq,ht,h=>by
  simp only[VY,zA]at ht;obtain⟨s,l,rfl,h⟩:=z0c h;obtain⟨d,σ1,g1,mv1,v,hk,zn,yM,zs4,hl1,he1⟩:=Fu wi zq ht.1 h;obtain⟨ds,σ2,g2,mv2,vs,Kc,hss,hlen,wS,zs3,I0,he2⟩:=RX wi (u::ts) l (by simp) yM (by grind[VY]) hk;refine⟨(d,ds),σ2,g2,mv1++mv2,v::vs,Kc,⟨zn,hss⟩,by grind,wS,zs4.trans zs3,λm=>?_,λG base hL=>?_⟩
  ·grind[zK.chain]
  ·obtain⟨h1,h2⟩:=he1 G base (hL.left zs3 (λi hi=>(zs4.mv i hi).2));obtain⟨h3,h4⟩:=he2 G (base+mv1.length) hL.right;simp only[zK.chain];rw[hl1 base];refine⟨λO=>?_,λO j o hj=>?_⟩
   ·grind[qj]
   ·rw[kD]at hj;split at hj
    ·grind
    ·rename_i PE;rw[hl1 base]at hj PE;have:=h4 O _ o hj
     grind
theorem IP{P:Program}{tmps:Array Value}{w:World}:(rs:List ResultVar)->(vs:List Value)->Reads P tmps w rs vs->(rs.mapM (G3 tmps)).run P w=.ok vs w
 |[],[],_=>by simp
 |s::l,v::vs,h=>by
  have ih:=IP l vs h.2;rw[List.mapM_cons]
  simp only[Sem.run_bind,h.1,Result.andThen_ok,ih,Sem.run_pure]
 |[],_::_,h=>h.elim
 |_::_,[],h=>h.elim
def Np:List Value->Value
 |[v]=>v
 |vs=>.tuple vs.toArray
theorem ZH{P:Program}{fn:Func}(tmps:Array Value){w:World}{vs:List Value}(h:Reads P tmps w fn.results.toList vs):(results fn tmps).run P w=.ok (Np vs) w:=by
 have e:results fn tmps=(do let vs <-fn.results.mapM (G3 tmps);pure (if h:vs.size=1 then vs[0] else .tuple vs):Sem Value):=by
  unfold results;refine Wm (λf=>(Array.mapM f fn.results >>= λvs=>pure (if h:vs.size=1 then vs[0] else Value.tuple vs):Sem Value)) (funext λx=>?_);cases x<;>rfl
 have h1:=IP _ _ h;have h2:(fn.results.mapM (G3 tmps)).run P w=.ok vs.toArray w:=by
  simp_all[Array.mapM_eq_mapM_toList]
 rw[e];simp only[Sem.run_bind,h2,Result.andThen_ok,Sem.run_pure]
 match vs with
 |[]=>simp[Np]
 |[v]=>simp[Np]
 |_::_::_=>simp[Np]
theorem AA{O:List Obj}{mv:List (Option Nat)}{g':z8}(hh:∀b,g'.tag b≠.qw->b<w.heap.size)(ho:∀j o,zT O j=some o->qz w (Zz g' mv) (zT O) (0+j) o):yH w (Zz g' mv) (zT O):=by
 refine⟨λj o hj=>by grind,λb hb=>hh b (λh=>hb (by simp[Zz,h]))⟩
theorem z4v{P:Program}{tt:Nat->Option Ty}(wi:gH P tt){fn:Func}{ts:List Ty}{r:jY ts}(zq:zP n g w a σ)(ht:VY ts=true)(h:G7 tt σ ts fn.results.toList (λr _=>some r)=some r):
  ∃v g',(results fn a.tmps).run P w=.ok v w/\Ext w g w g'/\PA w g' (zK ts r 0) v:=by
 match ts,r,ht,h with
 |[],r,_,h=>
  have hr:fn.results.toList=[]:=by
   generalize fn.results.toList=rs at h
   cases rs with
   |nil=>rfl
   |cons x l=>simp[G7]at h
  refine⟨.tuple #[],Zz g [],ZH a.tmps (vs:=[]) (by rw[hr];trivial),BZ,AA zq.heap.tags (λj o hj=>by grind[zK,zT]),?_⟩
  grind[zK,qy,qj]
 |[t],r,ht,h=>
  simp only[VY,Z4c]at ht;obtain⟨s,hrs,h⟩:=ID h;obtain⟨d,σ',g',mv,v,hk,zn,qG,D5,BA,he⟩:=Fu wi zq ht h;simp only[zI]at hk;subst hk;obtain⟨h1,h2⟩:=he (Zz g' mv) 0 (Ro D5.nodup)
  exact⟨v,Zz g' mv,ZH a.tmps (vs:=[v]) (by rw[hrs];exact⟨zn,trivial⟩),D5.ext.trans BZ,AA qG.heap.tags (λj o hj=>h2 _ j o hj),h1 _⟩
 |t::u::ts,r,ht,h=>
  obtain⟨d,σ',g',mv,vs,hk,hss,hlen,qG,D5,BA,he⟩:=RX wi (t::u::ts) _ (by simp) zq ht h;simp only[zI]at hk;subst hk;obtain⟨h1,h2⟩:=he (Zz g' mv) 0 (Ro D5.nodup);have zn:=ZH a.tmps hss;refine⟨.tuple vs.toArray,Zz g' mv,?_,D5.ext.trans BZ,AA qG.heap.tags (λj o hj=>?_),?_⟩
  ·match vs,hlen,zn with
   |_::_::_,_,zn=>exact zn
  all_goals grind[zK,zK.chain,qy]
end
theorem Ur{w:World}{g:z8}{z6:qQ}:(p:kG)->(d:p.den)->(i0:Nat)->{vals:List Value}->Qz w g p d vals->∀i av,jP p d i0 i=some av->i0<=i/\∃v,vals[i-i0]? = some v/\qy w g z6 av v
 |.pr (.val t) q,(x,y),i0,v::vs,h,i,av,hi=>by
  obtain⟨qU,⟨cs,hr,hv⟩,pO⟩:=h;simp only[jP,Y4]at hi
  cases hb:Nat.beq i i0 with
  |true=>
   rw[hb]at hi;simp only[zJ,zI]at hi;subst hi;have:=zE hb;subst this
   exact⟨jq _,v,by simp,cs,⟨qU,hr⟩,hv⟩
  |false=>
   rw[hb]at hi;obtain⟨h1,u,h2,h3⟩:=Ur q y (i0+1) pO i av hi;refine⟨by omega,u,?_,h3⟩
   grind
 |.pr (.val t) q,(x,y),i0,[],h,i,av,hi=>h.elim
 |.un,_,_,_,_,_,_,hi=>by grind[jP]
 |.val _,_,_,_,_,_,_,hi=>by grind[jP]
 |.ref _,_,_,_,_,_,_,hi=>by grind[jP]
 |.zw _,_,_,_,_,_,_,hi=>by grind[jP]
 |.qW _ _,_,_,_,_,_,_,hi=>by grind[jP]
 |.agg _,_,_,_,_,_,_,hi=>by grind[jP]
 |.pr (.ref _) _,_,_,_,_,_,_,hi=>by grind[jP]
 |.pr (.zw _) _,_,_,_,_,_,_,hi=>by grind[jP]
 |.pr (.qW _ _) _,_,_,_,_,_,_,hi=>by grind[jP]
 |.pr (.agg _) _,_,_,_,_,_,_,hi=>by grind[jP]
 |.pr (.pr _ _) _,_,_,_,_,_,_,hi=>by grind[jP]
 |.pr .un _,_,_,_,_,_,_,hi=>by grind[jP]
def kG.len:kG->Nat
 |.pr _ q=>q.len+1
 |_=>0
theorem AX{w:World}{g:z8}:(p:kG)->(d:p.den)->{vals:List Value}->Qz w g p d vals->vals.length=p.len
 |.pr (.val t) q,(x,y),v::vs,h=>by simp[kG.len,AX q y h.2.2]
 |.pr (.val t) q,(x,y),[],h=>h.elim
 |.un,_,[],_=>rfl
 |.un,_,_::_,h=>h.elim
 |.val _,_,_,h=>h.elim
 |.ref _,_,_,h=>h.elim
 |.zw _,_,_,h=>h.elim
 |.qW _ _,_,_,h=>h.elim
 |.agg _,_,_,h=>h.elim
 |.pr (.ref _) _,_,_,h=>h.elim
 |.pr (.zw _) _,_,_,h=>h.elim
 |.pr (.qW _ _) _,_,_,h=>h.elim
 |.pr (.agg _) _,_,_,h=>h.elim
 |.pr (.pr _ _) _,_,_,h=>h.elim
 |.pr .un _,_,_,h=>h.elim
theorem Mw{w:World}{g:z8}{p:kG}{d:p.den}{vals:List Value}{n:Nat}(ht:∀b,g.tag b≠.qw->g.tag b=.ro/\b<w.heap.size)(N6:Known w g)(h:Qz w g p d vals)(hn:p.len<=n):
  zP n g w { tmps:=vals.toArray++Array.replicate (n-vals.toArray.size) undef,defers:=[] } (entry p d)/\qC g (entry p d):=by
 have hl:=AX p d h;refine⟨⟨λi av hi=>?_,⟨λid o ho=>by grind[entry],λb hb=>(ht b hb).2⟩,by grind,rfl,N6⟩,λm _=>⟨rfl,λb p hb=>?_,λb hb=>?_,λi av hi=>?_,λid av ho=>by grind[entry]⟩⟩
 ·obtain⟨_,v,h1,h2⟩:=Ur (z6:=(entry p d).z6) p d 0 h i av hi
  grind
 ·grind
 ·grind
 ·have key:∀(p:kG)(d:p.den)(i0:Nat)(i:Nat)(av:z7),jP p d i0 i=some av->av.ids=[]:=by
   intro p
   induction p with
   |pr a q iha ihq=>
    cases a with
    |val t=>
     intro d i0 i av hi;obtain⟨x,y⟩:=d;simp only[jP,Y4]at hi
     cases hb:Nat.beq i i0 with
     |true=>rw[hb]at hi;simp only[zJ,zI]at hi;subst hi;rfl
     |false=>grind
    |_=>grind[jP]
   |_=>grind[jP]
  rw[key p d 0 i av hi];simp
theorem zu0{P:Program}{f:Nat}{fn:Func}{body:Code}{c:Ctx}{p:kG}{ts:List Ty}{F:p.den->Option (jY ts)}(hf:P.funcs[f]? = some fn)(hb:fn.body=some body)(YL:(fn.name == "runtime.NumGoroutine")=false)
  (hc:xW P c) (hm:P.follows .mixedOrders=true) (hn:c.ntmps=fn.ntmps) (hp:p.len<=fn.ntmps) (ht:VY ts=true) (hl:ts.length<=6)
  (WQ:∀b∈j4 body,Jy c b) (heq:∀d,z9y c ts fn.results.toList body (entry p d)=F d):qe P f (.pure p ts F):=by
 intro w g d vals r ze N6 hargs hF;left;refine⟨?_,?_⟩
 ·simp_all[callFunc]
 rw[<-heq]at hF;obtain⟨zq,v7⟩:=Mw ze N6 hargs hp;rw[<-hn]at zq;refine calls_of_wp hf hb ?_;rw[<-hn];refine ko hc hm body WQ (Q:=bodyPost P fn _) (λch a w h=>?_) hF zq v7 ?_
 ·obtain⟨_,v,h,_⟩:=h;cases h
 ·intro e σ' g' a' w' hk qG kM KY _;have fin:∀{σ':St},norm c.res σ' (λσ=>G7 c.tt σ ts fn.results.toList λr _=>some r)=some r->zP c.ntmps g' w' a' σ'->qC g' σ'->
    ∃v,(results fn a'.tmps).run P w'=.ok v w'/\∃g',Ext w g w' g'/\PA w' g' (zK ts r 0) v:=by
   intro σ' hk qG KY;obtain⟨σ1,g1,h1,yM,yC,_⟩:=Ve qG KY hk;obtain⟨v,g2,hr,wT,KZ⟩:=z4v (P:=P) hc.tt yM ht h1;exact⟨v,hr,g2,(kM.trans yC).trans wT,KZ⟩
  cases e with
  |exit id=>grind
  |normal=>
   obtain⟨v,h1,h2⟩:=fin hk qG KY
   exact⟨qG.defers,v,h1,v,rfl,h2⟩
  |ret=>
   obtain⟨v,h1,h2⟩:=fin hk qG KY;exact⟨qG.defers,v,h1,v,rfl,h2⟩
end Go.Kz
namespace Go.Kz
variable {R:Type}
def Ej:List (Nat×zC)->List Nat
 |[]=>[]
 |(i,_)::l=>i::Ej l
theorem Y9:(l:List (Nat×zC))->(d:Qg l)->(vb l d).map Prod.fst=Ej l
 |[],_=>rfl
 |(i,p)::l,d=>by simp only[vb,Qw,Ej,Y9 l]
theorem Li{I:Type}:{l:List (Nat×I)}->{i:Nat}->{x:I}->(l.map Prod.fst).Nodup->(i,x)∈l->yN l i=some x
 |[],_,_,_,h=>by simp at h
 |(j,y)::l,i,x,hn,h=>by
  simp only[Qw,Z2m]at hn;simp only[yN];rcases gJ.1 h with h|h
  ·simp only[p8]at h;rw[<-h.1,R4,<-h.2];rfl
  ·have va:Nat.beq j i=false:=by
    cases hb:Nat.beq j i with
    |false=>rfl
    |true=>
     exfalso;apply hn.1;rw[zE hb];exact pe.2 ⟨_,h,rfl⟩
   rw[va];exact Li hn.2 h
theorem UW{I Z:Type}(f:I->Z):(n:Nat)->(l:List I)->(pQ n l).map f=pQ n (l.map f)
 |0,_=>rfl
 |_+1,[]=>rfl
 |n+1,_::l=>by simp only[pQ,Qw,UW f n l]
theorem EB{I:Type}:(n:Nat)->(l:List I)->∀x∈pQ n l,x∈l
 |0,_,x,h=>h
 |_+1,[],x,h=>h
 |n+1,a::l,x,h=>On _ (EB n l x h)
theorem EC{I:Type}:(l m:List I)->pQ l.length (l++m)=m
 |[],m=>rfl
 |a::l,m=>EC l m
theorem MY{w:World}{g:z8}{O:qQ}{tmps:Array Value}:(l:List (Nat×z7))->(∀x∈l,qy w g O x.2 (tmps.getD x.1 undef))->
  qj w g O (vZ (l.map Prod.snd)) (l.map λx=>tmps.getD x.1 undef)
 |[],_=>by simp[vZ,qj]
 |x::l,h=>by
  simp only[Qw,vZ,qj];exact⟨_,_,rfl,h x (by simp),MY l λy hy=>h y (by simp[hy])⟩
theorem zkd{w:World}{g:z8}{O:qQ}{tmps:Array Value}(l:List (Nat×z7))(h:∀x∈l,qy w g O x.2 (tmps.getD x.1 undef)):
  qy w g O (gd (l.map Prod.snd)) (Np (l.map λx=>tmps.getD x.1 undef)):=by
 have hc:=MY l h
 match l,h,hc with
 |[],_,hc=>simp only[Z2b,gd,Np,qy];exact⟨_,rfl,hc⟩
 |[x],h,_=>exact h x (by simp)
 |x::y::l,_,hc=>
  show qy w g O (.jD (vZ ((x::y::l).map Prod.snd))) (.tuple ((x::y::l).map λx=>tmps.getD x.1 undef).toArray);simp only[qy];exact⟨_,rfl,hc⟩
theorem AH{P:Program}{tmps:Array Value}{w:World}:(rs:List Nat)->Reads P tmps w (rs.map ResultVar.tmp) (rs.map λt=>tmps.getD t undef)
 |[]=>trivial
 |t::rs=>by
  simp only[Qw];refine⟨?_,AH rs⟩;simp[G3]
def MB(n:Nat)(b:Code):List Nat->Bool
 |[]=>true
 |i::l=>Nat.blt i n && !wrote i b&&MB n b l
theorem MA{n:Nat}{b:Code}:{l:List Nat}->MB n b l=true->∀i∈l,i<n/\wrote i b=false
 |[],_,i,h=>by simp at h
 |j::l,hb,i,h=>by
  simp only[MB,zA,PF]at hb;rcases gJ.1 h with rfl|h
  ·exact⟨zL hb.1.1,hb.1.2⟩
  ·exact MA hb.2 i h
theorem z1l{P:Program}{f:Nat}{fn:Func}{body:Code}{c:Ctx}{fin qv:wQ}{jf rs:List Nat}{F:fin.den->Option qv.den}(hf:P.funcs[f]? = some fn)(hb:fn.body=some body)(YL:(fn.name == "runtime.NumGoroutine")=false)
  (hc:xW P c) (hm:P.follows .mixedOrders=true) (hn:c.ntmps=fn.ntmps) (hp:fin.zy.length<=fn.ntmps) (hk:Ej qv.zy=jf++rs) (hnd:V1 (jf++rs)=true) (hrs:fn.results.toList=rs.map ResultVar.tmp)
  (Zt:∀i∈jf,i<fin.zy.length/\wrote i body=false)
  (WQ:∀b∈j4 body,Jy c b) (heq:∀d:fin.den,z9x c qv body (St.of (vb fin.zy d.1) (wO fin.z6 d.2))=F d):qe P f (.mut fin jf qv F):=by
 intro w g d vals r LX zq z8b hF;left;refine⟨?_,?_⟩
 ·have z7u:¬fn.name = "runtime.NumGoroutine" := by simpa using YL
  simp[callFunc,hf,hb,z7u]
 rw[<-heq]at hF;refine calls_of_wp hf hb ?_;have Xk:zP c.ntmps g w { tmps:=vals.toArray++Array.replicate (fn.ntmps-vals.toArray.size) undef,defers:=[] } (St.of (vb fin.zy d.1) (wO fin.z6 d.2)):=by
  refine⟨λi av hi=>?_,zq.heap,by simp;omega,rfl,zq.known⟩;obtain⟨v,h1,h2⟩:=zq.zy i av hi;refine⟨v,?_,h2⟩;have yP:i<vals.toArray.size:=(Z2p.1 h1).1;rw[Z50 yP];exact h1
 have v7:qC g (St.of (vb fin.zy d.1) (wO fin.z6 d.2)):=by
  intro m hm;refine z8b m ?_;have:(wO fin.z6 d.2).length<=m:=hm
  rwa [G9]at this
 refine ko hc hm body WQ (Q:=bodyPost P fn _) (λch a w h=>?_) hF Xk v7 ?_
 ·obtain⟨_,v,h,_⟩:=h;cases h
 ·intro e σ' g' a' w' Kc qG kM KY hkp;have fin:∀{σ':St},UN c.res σ' (λsl os=>qv.take sl os some)=some r->zP c.ntmps g' w' a' σ'->qC g' σ'->
    ∃v,(results fn a'.tmps).run P w'=.ok v w'/\∃g',Ext w g w' g'/\yH w' g' (zT (wO qv.z6 r.2))/\
    (∀k i av,zT jf k=some i->zT ((vb qv.zy r.1).map Prod.snd) k=some av->∃u,vals[i]? = some u/\qy w' g' (zT (wO qv.z6 r.2)) av u)/\
    qy w' g' (zT (wO qv.z6 r.2)) (gd (pQ jf.length ((vb qv.zy r.1).map Prod.snd))) v:=by
   intro σ' Kc qG KY;obtain⟨sl,os,g1,h1,yM,yC,_⟩:=Gw qG KY Kc;obtain⟨r1,h2,h3⟩:=JO qv.zy h1;obtain⟨r2,h4,h5⟩:=ZL qv.z6 h3;simp only[zI]at h5;subst h5;subst h2;subst h4;have N6:((vb qv.zy r1).map Prod.fst).Nodup:=by rw[Y9,hk];exact U1 hnd
   have hv:∀x∈vb qv.zy r1,∃v,a'.tmps[x.1]? = some v/\qy w' g1 (zT (wO qv.z6 r2)) x.2 v:=λx hx=>yM.zy x.1 x.2 (Li N6 hx)
   have hvd:∀x∈vb qv.zy r1,qy w' g1 (zT (wO qv.z6 r2)) x.2 (a'.tmps.getD x.1 undef):=by
    intro x hx;obtain⟨v,q1,q2⟩:=hv x hx;have:a'.tmps.getD x.1 undef=v:=by rw[Z4b,q1];rfl
    rw[this];exact q2
   have zth:(pQ jf.length (vb qv.zy r1)).map Prod.fst=rs:=by
    rw[UW,Y9,hk,EC]
   refine⟨Np (rs.map λt=>a'.tmps.getD t undef),ZH a'.tmps (by rw[hrs];exact AH rs),g1,kM.trans yC,yM.heap,λk i av hki hkv=>?_,?_⟩
   ·have Ox:(vb qv.zy r1)[k]? = some (i,av):=by
     rw[xE,Ny,kT]at hkv;obtain⟨x,hx,rfl⟩:=hkv;have h6:((vb qv.zy r1).map Prod.fst)[k]? = some x.1:=by rw[Ny,hx];rfl
     have yP:k<jf.length:=kg hki;rw[Y9,hk,Z2k yP,<-xE,hki]at h6;simp only[zI]at h6;rw[hx,h6]
    obtain⟨v,q1,q2⟩:=hv _ (Z4d Ox);obtain⟨yP,Ua⟩:=Zt i (js hki);refine⟨v,?_,q2⟩;have h7:=hkp i Ua;rw[q1]at h7;have q1n:i<vals.toArray.size:=by simp[LX];exact yP
    rw[Z50 q1n]at h7;simpa using h7.symm
   ·rw[<-UW];have:=zkd (pQ jf.length (vb qv.zy r1)) (λx hx=>hvd x (EB _ _ x hx));have e:(pQ jf.length (vb qv.zy r1)).map (λx=>a'.tmps.getD x.1 undef)=rs.map λt=>a'.tmps.getD t undef:=by
     rw[<-zth,Oo];rfl
    rw[e]at this;exact this
  cases e with
  |exit id=>simp at Kc
  |normal=>
   obtain⟨v,h1,h2⟩:=fin Kc qG KY
   exact⟨qG.defers,v,h1,v,rfl,h2⟩
  |ret=>
   obtain⟨v,h1,h2⟩:=fin Kc qG KY;exact⟨qG.defers,v,h1,v,rfl,h2⟩
end Go.Kz
namespace Go.Kz
variable {R:Type}
def iter{I:Type}(Body:(I->Option R)->I->Option R):Nat->I->Option R
 |0,_=>none
 |n+1,x=>Body (iter Body n) x
def Rs(c:Ctx)(r:Nat)(lv:Cut)(kb:List (Nat×z7)->List Obj->Option R)(k:vS->St->Option R):vS->St->Option R
 |.normal,σ=>UN lv σ kb
 |e,σ=>V8 c r k e σ
theorem Ri{c:Ctx}{b:Code}{r:Nat}{lv:Cut}{I:Type}{st:I->List (Nat×z7)×List Obj}{k:vS->St->Option R}{Body:(I->Option R)->I->Option R}
  (zhw:∀(kb:List (Nat×z7)->List Obj->Option R) (x:I),vA c b (St.of (st x).1 (st x).2) (Rs c r lv kb k)=Body (λy=>kb (st y).1 (st y).2) x) :
  ∀(n:Nat)(x:I),V4 (vA c b) lv n (st x).1 (st x).2 (V8 c r k)=iter Body n x
 |0,x=>rfl
 |n+1,x=>by
  have e:(λe σ=>match e with
    |.normal=>UN lv σ λsl os=>V4 (vA c b) lv n sl os (V8 c r k)
    |e=>V8 c r k e σ)=Rs c r lv (λsl os=>V4 (vA c b) lv n sl os (V8 c r k)) k:=by
   funext e σ;cases e<;>rfl
  have h:=zhw (λsl os=>V4 (vA c b) lv n sl os (V8 c r k)) x;simp only[V4,iter];refine(Wm (vA c b (St.of (st x).1 (st x).2)) e).trans (h.trans ?_);congr 1;funext y;exact Ri zhw n y
theorem zdz{c:Ctx}{b:Code}{r:Nat}{lv:Cut}{f:wQ}(F:(R:Type)->f.den->(vS->St->Option R)->Option R)(hr:jz b=some r)(hlv:c.cut r=some lv)
  (hL:c.lp r=some λR sl os k=>f.take sl os λd=>F R d k)
  (h:∀(R:Type)(k:vS->St->Option R)(d:f.den),V4 (vA c b) lv c.fuel (vb f.zy d.1) (wO f.z6 d.2) (V8 c r k)=F R d k):Jy c b:=by
 intro r' lv' L UT zm6 hL' R sl os k x hx;rw[hr]at UT;simp only[zI]at UT;subst UT;rw[hlv]at zm6;simp only[zI]at zm6;subst zm6;rw[hL]at hL';simp only[zI]at hL';subst hL';replace hx:=JO f.zy hx;obtain⟨d,rfl,hx⟩:=hx;replace hx:=ZL f.z6 hx;obtain⟨e,rfl,hx⟩:=hx;rw[h R k (d,e)];exact hx
theorem Xt{P:Program}:CH P λf=>((yN ([]:List (Nat×List Callee)) f).getD []):=by
 intro f c h;simp[yN]at h
def zl8(P:Program)(kt:Ty)(K:TypeId):Bool:=Iy P kt K&&(jG kt||zg1 P [K])
theorem ze5{P:Program}{kt:Ty}{K:TypeId}(h:zl8 P kt K=true):zaq P kt K:=by
 simp only[zl8,zA,CX]at h;refine⟨tyB_ok h.1,λhk=>?_⟩;rcases h.2 with h2|h2
 ·rw[hk]at h2;simp at h2
 ·obtain⟨h3,_,h4⟩:=HC h2 K (by simp[qs]);exact⟨h3,h4⟩
def mtB(P:Program):List (Nat×Ty×Ty)->Bool
 |[]=>true
 |(T,kt,vt)::l=>(match P.underlying T with
  |some (.map K E)=>zl8 P kt K&&Iy P vt E&&(match P.info? E with
   |some i=>(match i.zero with
    |some z=>(match vt.sk.isAgg,z with
     |true,.agg _=>true
     |false,.int _ _=>true
     |false,.bool _=>true
     |false,.string _=>true
     |_,_=>false)
    |none=>false)
   |none=>false)
  |_=>false)&&mtB P l
theorem z6e{P:Program}:{l:List (Nat×Ty×Ty)}->mtB P l=true->Hl P (yN l)
 |[],_,_,_,_,h=>by simp[yN]at h
 |(T,kt,vt)::l,hb,T',Xv,X8,h=>by
  simp only[mtB,zA]at hb;simp only[yN]at h
  cases he:Nat.beq T T' with
  |false=>rw[he]at h;exact z6e hb.2 T' Xv X8 h
  |true=>
   rw[he]at h;simp only[zJ,zI,p8]at h;obtain⟨rfl,rfl⟩:=h;obtain rfl:=zE he;have h1:=hb.1;split at h1
   ·rename_i K E hu;simp only[zA]at h1;refine⟨K,E,hu,ze5 h1.1.1,tyB_ok h1.1.2,?_⟩;have h2:=h1.2;split at h2
    ·rename_i i hi;split at h2
     ·rename_i z hz;refine⟨i,z,hi,hz,?_⟩;split at h2
      ·rename_i w8;rw[w8];simp[jl,Value.cells]
      ·rename_i w8;rw[w8];simp[jl,Value.cells]
      ·rename_i w8;rw[w8];simp[jl,Value.cells]
      ·rename_i w8;rw[w8];simp[jl,Value.cells]
      ·simp at h2
     ·simp at h2
    ·simp at h2
   ·simp at h1
@[reducible] def wi8 (n:Int):Int:=IntKind.i8.wrap n
@[reducible] def wi16 (n:Int):Int:=IntKind.i16.wrap n
@[reducible] def wi32 (n:Int):Int:=IntKind.i32.wrap n
@[reducible] def zz (n:Int):Int:=IntKind.i64.wrap n
@[reducible] def wu8 (n:Int):Int:=IntKind.u8.wrap n
@[reducible] def wu16 (n:Int):Int:=IntKind.u16.wrap n
@[reducible] def wu32 (n:Int):Int:=IntKind.u32.wrap n
@[reducible] def wu64 (n:Int):Int:=IntKind.u64.wrap n
@[reducible] def len {I:Type} (l:List I):Int:=(l.length:Int)
inductive VC (p:Code->Prop):List Code->Prop
 |nil:VC p []
 |cons {b:Code}{l:List Code} (h:p b) (t:VC p l):VC p (b::l)
theorem VC.mem{p:Code->Prop}{l:List Code}(h:VC p l):∀b∈l,p b:=by
 induction h with
 |nil=>intro b hb;simp at hb
 |cons h t ih=>
  intro b hb;rcases gJ.1 hb with rfl|hb
  ·exact h
  ·exact ih b hb
structure LF (f:wQ) where
 I:Type
 var:f.den->I
 put:f.den->I->f.den
 go:(R:Type)->f.den->(vS->St->Option R)->(I->Option R)->I->Option R
def LF.fn{f:wQ}(l:LF f)(N:Nat):CF:=λR sl os k=>f.take sl os λd=>iter (l.go R d k) N (l.var d)
def LF.st{f:wQ}(l:LF f)(d:f.den)(x:l.I):List (Nat×z7)×List Obj:=(vb f.zy (l.put d x).1,wO f.z6 (l.put d x).2)
def Tw(c:Ctx)(r:Nat):Cut:=(c.cut r).getD ⟨[],[]⟩
structure KE (P:Program) where
 f:Nat
 c:Callee
 ok:qe P f c
def kE{P:Program}{f:Nat}{c:Callee}(h:qe P f c):KE P:=⟨f,c,h⟩
def z1u{P:Program}:List (KE P)->Nat->List Callee
 |[],_=>[]
 |e::l,f=>cond (Nat.beq e.f f) (e.c::z1u l f) (z1u l f)
theorem HD{P:Program}:∀l:List (KE P),CH P (z1u l)
 |[],f,c,h=>by simp[z1u]at h
 |e::l,f,c,h=>by
  simp only[z1u]at h
  cases hb:Nat.beq e.f f with
  |true=>
   rw[hb]at h;rcases gJ.1 h with rfl|h
   ·have:=zE hb;subst this;exact e.ok
   ·exact HD l f c h
  |false=>rw[hb]at h;exact HD l f c h
def zic:List (Nat×CF)->Nat->Option CF
 |[],_=>none
 |(i,v)::l,j=>cond (Nat.beq i j) (some v) (zic l j)
def KX(P:Program):Type 1:={ c:Ctx // xW P c }
def L5:List Code->List Nat->Bool
 |[],[]=>true
 |b::l,r::rs=>(match jz b with
  |some r'=>Nat.beq r r'
  |none=>false) && !qs r rs&&L5 l rs
 |_,_=>false
theorem U8:∀{l:List Code}{rs:List Nat},L5 l rs=true->∀b∈l,∃r∈rs,b=Z8 r l
 |[],_,_,b,hb=>by simp at hb
 |c::l,[],h,_,_=>by simp[L5]at h
 |c::l,r::rs,h,b,hb=>by
  simp only[L5,zA]at h;obtain⟨⟨h1,h2⟩,h3⟩:=h;split at h1
  ·rename_i r' hr;obtain rfl:=zE h1;rcases gJ.1 hb with rfl|hb
   ·exact⟨r,Z2c ..,by simp[Z8,hr]⟩
   ·obtain⟨q,hq,e⟩:=U8 h3 b hb;refine⟨q,On _ hq,?_⟩;have:Nat.beq q r=false:=by
     cases hqr:Nat.beq q r with
     |false=>rfl
     |true=>
      obtain rfl:=zE hqr;have:=jK.2 hq;rw[this]at h2;simp at h2
    simp only[Z8,hr,this,zU];exact e
  ·simp at h1
def bOf(fn:Func):Code:=fn.body.getD .skip
inductive WK (c:Ctx) (fn:Func):List Nat->Prop
 |nil:WK c fn []
 |cons {r:Nat}{l:List Nat} (h:Jy c (Z8 r (j4 (bOf fn)))) (t:WK c fn l):WK c fn (r::l)
theorem WK.lf{c:Ctx}{fn:Func}{rs:List Nat}{f:wQ}(r:Nat)(l:LF f)(h0:(jz (Z8 r (j4 (bOf fn))),c.cut r,c.lp r)=(some r,some (Tw c r),some (l.fn c.fuel)))(hp:∀d,l.put d (l.var d)=d)
  (h:∀(R:Type) (k:vS->St->Option R) (d:f.den) (kb:List (Nat×z7)->List Obj->Option R) (x:l.I),
   vA c (Z8 r (j4 (bOf fn))) (St.of (l.st d x).1 (l.st d x).2) (Rs c r (Tw c r) kb k)=l.go R d k (λy=>kb (l.st d y).1 (l.st d y).2) x) (t:WK c fn rs):WK c fn (r::rs):=by
 refine .cons ?_ t;simp only[p8]at h0;refine zdz (λR d k=>iter (l.go R d k) c.fuel (l.var d)) h0.1 h0.2.1 h0.2.2 λR k d=>?_
 have:=Ri (st:=l.st d) (h R k d) c.fuel (l.var d);simp only[LF.st,hp]at this;exact this
theorem WK.ok{c:Ctx}{fn:Func}{rs:List Nat}(h:WK c fn rs):∀r∈rs,Jy c (Z8 r (j4 (bOf fn))):=by
 induction h with
 |nil=>intro r hr;simp at hr
 |cons h t ih=>
  intro r hr;rcases gJ.1 hr with rfl|hr
  ·exact h
  ·exact ih r hr
def fnB(P:Program)(fn:Func)(c:Ctx)(rs:List Nat): Bool := P.follows .mixedOrders && !(fn.name == "runtime.NumGoroutine")&&Nat.beq c.ntmps fn.ntmps&&fn.body.isSome&&L5 (j4 (bOf fn)) rs
theorem Lr{fn:Func}(h:fn.body.isSome=true):fn.body=some (bOf fn):=by
 unfold bOf
 cases hb:fn.body with
 |none=>rw[hb]at h;simp at h
 |some b=>rfl
theorem z8r{P:Program}{f:Nat}{fn:Func}{p:kG}{ts:List Ty}{F:p.den->Option (jY ts)}(c:KX P){rs:List Nat}(hf:P.funcs[f]? = some fn)
  (hB:(fnB P fn c.1 rs&&Nat.ble p.len fn.ntmps&&VY ts&&Nat.ble ts.length 6)=true) (WQ:WK c.1 fn rs)
  (heq:∀d,z9y c.1 ts fn.results.toList (bOf fn) (entry p d)=F d):qe P f (.pure p ts F):=by
 simp only[fnB,zA]at hB;obtain⟨⟨⟨⟨⟨⟨⟨h1,h2⟩,h3⟩,h4⟩,h5⟩,h6⟩,h7⟩,h8⟩:=hB;exact zu0 hf (Lr h4) (by simpa using h2) c.2 h1 (zE h3) (zL h6) h7 (zL h8)
  (λb hb=>by
   obtain⟨r,hr,e⟩:=U8 h5 b hb;rw[e];exact WQ.ok r hr) heq
def UH:List ResultVar->List Nat->Bool
 |[],[]=>true
 |.tmp i::l,j::m=>Nat.beq i j&&UH l m
 |_,_=>false
theorem Iw:∀{l:List ResultVar}{m:List Nat},UH l m=true->l=m.map ResultVar.tmp
 |[],[],_=>rfl
 |.tmp i::l,j::m,h=>by
  simp only[UH,zA]at h
  rw[zE h.1,Iw h.2];rfl
 |[],_::_,h=>by simp[UH]at h
 |.cell _ _::_,_,h=>by simp[UH]at h
 |.tmp _::_,[],h=>by simp[UH]at h
def YJ:List ResultVar->List Nat
 |.tmp i::l=>i::YJ l
 |_=>[]
def As:List Nat->List Nat->Bool
 |[],[]=>true
 |a::l,b::m=>Nat.beq a b&&As l m
 |_,_=>false
theorem Lq:∀{l m:List Nat},As l m=true->l=m
 |[],[],_=>rfl
 |a::l,b::m,h=>by
  simp only[As,zA]at h
  rw[zE h.1,Lq h.2]
 |[],_::_,h=>by simp[As]at h
 |_::_,[],h=>by simp[As]at h
theorem z1k{P:Program}{f:Nat}{fn:Func}{fin qv:wQ}{jf:List Nat}{F:fin.den->Option qv.den}(c:KX P){rs:List Nat}(hf:P.funcs[f]? = some fn)
  (hB:(fnB P fn c.1 rs&&Nat.ble fin.zy.length fn.ntmps&&As (Ej qv.zy) (jf++YJ fn.results.toList)&&V1 (jf++YJ fn.results.toList)&&UH fn.results.toList (YJ fn.results.toList)&&MB fin.zy.length (bOf fn) jf)=true) (WQ:WK c.1 fn rs)
  (heq:∀d:fin.den,z9x c.1 qv (bOf fn) (St.of (vb fin.zy d.1) (wO fin.z6 d.2))=F d):qe P f (.mut fin jf qv F):=by
 simp only[fnB,zA]at hB;obtain⟨⟨⟨⟨⟨⟨⟨⟨⟨h1,h2⟩,h3⟩,h4⟩,h5⟩,h6⟩,h7⟩,h8⟩,h9⟩,hA⟩:=hB;exact z1l hf (Lr h4) (by simpa using h2) c.2 h1 (zE h3) (zL h6) (Lq h7) h8 (Iw h9) (MA hA)
  (λb hb=>by
   obtain⟨r,hr,e⟩:=U8 h5 b hb;rw[e];exact WQ.ok r hr) heq
theorem y9{P:Program}{f:Nat}{T:Type}{C:T->Callee}{z:T}{s:T->T}(h0:qe P f (C z))(hs:∀r,qe P f (C r)->qe P f (C (s r))):∀M:Nat,qe P f (C (Nat.rec (motive:=λ_=>T) z (λ_ r=>s r) M))
 |0=>h0
 |M+1=>hs _ (y9 h0 hs M)
end Go.Kz
namespace Go.Kz
def wholeG(w:World):z8:=⟨λb=>if b<w.heap.size then .ro else .qw,λ_ _=>undef,λ_=>0⟩
theorem Wr{w:World}{b:Nat}(h:b<w.heap.size):(wholeG w).tag b=.ro:=by simp[wholeG,h]
theorem VQ{I:Type}{p:Nat->I->Prop}:(n:Nat)->(∀i,i<n->∃x,p i x)->∃l:List I,l.length=n/\∀(i:Nat)(h:i<l.length),p i (l.get ⟨i,h⟩)
 |0,_=>⟨[],rfl,λi h=>by simp at h⟩
 |n+1,h=>by
  obtain⟨x,hx⟩:=h 0 (by omega);obtain⟨l,hl,hp⟩:=VQ (p:=λi=>p (i+1)) n (λi hi=>h (i+1) (by omega));refine⟨x::l,by simp[hl],λi hi=>?_⟩
  cases i with
  |zero=>exact hx
  |succ i=>exact hp i (by simpa using hi)
theorem j8.cellsOf{P:Program}{T:TypeId}{t:Ty}(h:j8 P T t):P.cellsOf T=t.size/\0<t.size:=by
 obtain⟨i,z,h1,h2,_,_,_,h3⟩:=h.info;simp[Program.cellsOf,h1,h2];omega
section
variable {H:Type}{enc:TypeId×Value->H}{P:Program}{w:World}{base:Nat}{spare:Nat->Bool}{held:Bool}
theorem Ul{b off n:Nat}{cs:List Value}{c:Array Value}{e:TypeId}{fz:Nat×Nat}(hl:cs.length=n)(hc:∀j,j<n->w.cell? ⟨b,off+j,none⟩=cs[j]?)(hb:w.heap[b]? = some (.cells c e fz))(hn:0<n):
  off+n<=c.size/\qi c.toList off n=cs:=by
 have zZ:∀j,j<n->c[off+j]? = cs[j]? := λj hj=>by
  have:=hc j hj;simpa[World.cell?,hb]using this
 have hle:off+n<=c.size:=by
  have h1:=zZ (n-1) (by omega);have h2:cs[n-1]?≠none:=by simp;omega
  rw[<-h1]at h2;simp at h2;omega
 refine⟨hle,?_⟩;apply Z2v;intro j;by_cases hj:j<n
 ·rw[<-zZ j hj];simp[qi,Z45,hj]
 ·rw[Z2s (by rw[yO (by simpa using hle)];omega),Z2s (by rw[hl];omega)]
def R8(enc:TypeId×Value->H)(P:Program)(w:World)(base:Nat)(spare:Nat->Bool)(held:Bool)(m:Nat):Prop:=∀(k:Nat)(T:TypeId)(cs:List Value)(x:DataW H×List MemPlace),
 qZ P (.tree k) T->DataW.trod enc P w base spare held m T cs=some x->∃d,zM w (wholeG w) none (.tree k) d cs
mutual
theorem Gz{N:Nat}(hF:∀m,m<=N->R8 enc P w base spare held m):(t:Ty)->{T:TypeId}->{fuel:Nat}->{cs:List Value}->{x:DataW H×List MemPlace}->fuel<=N->t.plain=true->qZ P t T->DataW.trod enc P w base spare held fuel T cs=some x->∃d,zM w (wholeG w) none t d cs
 |.int k,T,fuel,cs,x,hN,_,hT,h=>by
  simp only[qZ]at hT;obtain⟨m,rfl,_,hw⟩:=DataW.trod_int hT.1 h;simp only[Lit.wf,zA,jc]at hw
  exact⟨m,rfl,hw.1,hw.2⟩
 |.bool,T,fuel,cs,x,hN,_,hT,h=>by
  simp only[qZ]at hT;obtain⟨b,rfl,_⟩:=DataW.trod_bool hT.1 h
  exact⟨b,rfl⟩
 |.str,T,fuel,cs,x,hN,_,hT,h=>by
  simp only[qZ]at hT;obtain⟨s,rfl,_,hs⟩:=DataW.trod_string hT.1 h
  exact⟨s.data.toList,s,rfl,rfl,hs⟩
 |.unit,T,fuel,cs,x,hN,_,hT,h=>by simp only[qZ]at hT
 |.pair a b,T,fuel,cs,x,hN,hp,hT,h=>by
  simp only[qZ]at hT;obtain⟨⟨fs,hu,D9⟩,vN⟩:=hT;obtain⟨xs,n,hfu,_,hl,hlen,hf⟩:=DataW.trod_struct hu h;obtain⟨hcz,_⟩:=vN.cellsOf;rw[hcz]at hl;obtain⟨d,hd⟩:=Jr hF (.pair a b) (off:=0) (cs:=cs) (n:=n) (by omega) hp D9 (by rw[hl];simp) (λi f hi=>by
   have wu:fs[i]? = some f:=by rw[<-Z2i];exact hi
   have:=hf i f wu;have yP:i<xs.length:=by rw[hlen];exact(Z2p.1 wu).1
   exact⟨xs[i],by rw[this];simp[yP]⟩)
  refine⟨d,?_⟩;have:qi cs 0 (Ty.pair a b).size=cs:=by rw[<-hl];exact gM cs
  rw[this]at hd
  exact hd
 |.arr n t,T,fuel,cs,x,hN,hp,hT,h=>by
  simp only[qZ]at hT;obtain⟨⟨E,hu,hE⟩,vN⟩:=hT;obtain⟨hcz,_⟩:=vN.cellsOf;obtain⟨hez,_⟩:=hE.info.cellsOf;obtain⟨xs,m,hfu,_,hl,hlen,hx⟩:=DataW.trod_array hu h;rw[hcz]at hl;rw[hez]at hx;have each:∀i,i<n->∃d,zM w (wholeG w) none t d (qi cs (i*t.size) t.size):=λi hi=>by
   have h1:=hx i hi;have h2:xs[i]? = some xs[i]:=by simp[hlen,hi]
   rw[h2]at h1;exact Gz hF t (by omega) (by simpa[Ty.plain]using hp) hE h1
  obtain⟨l,hll,vw⟩:=VQ n each
  exact⟨l,hll,hl,λi hi=>zM.yy (Ty.QV (by simpa[Ty.plain]using hp)) (vw i hi)⟩
 |.sl false t,T,fuel,cs,x,hN,hp,hT,h=>by
  simp only[qZ]at hT;obtain⟨⟨E,hu,hE⟩,_⟩:=hT;obtain⟨hez,z16⟩:=hE.info.cellsOf;rcases DataW.trod_slice hu h with⟨rfl,_⟩|⟨a,len,cap,elems,rest,n,hfu,rfl,_,hb,Kb,QR,hlen,vw,_⟩
  ·exact⟨([]:List t.den),none,0,rfl,jq _,v8 _,λhn=>absurd rfl hn⟩
  ·rw[hez]at vw;have each:∀i,i<len->∃d,(∃Dv,w.cells? base (a.add (i*t.size)) t.size=some Dv/\zM w (wholeG w) none t d Dv):=λi hi=>by
    have h1:=vw i hi;have h2:elems[i]? = some elems[i]:=by simp[hlen,hi]
    rw[h2,Zh]at h1;obtain⟨Dv,hc,hy⟩:=h1;obtain⟨d,hd⟩:=Gz hF t (by omega) (by simpa[Ty.plain]using hp) hE hy;exact⟨d,Dv,hc,hd⟩
   obtain⟨l,hll,hl⟩:=VQ len each;refine⟨l,some a,cap,by rw[hll],by rw[hll];exact Kb,QR,λva=>?_⟩;have hlp:0<len:=by rw[<-hll];exact Z5m.2 va
   obtain⟨cs0,Sw,_⟩:=hl 0 (by rw[hll];exact hlp);obtain⟨_,Fh,zmq⟩:=World.cells?_some Sw;have hz:=zmq 0 z16;simp only[Z32]at hz;have ha0:(a.add 0).add 0=a:=by simp[Addr.add]
   rw[ha0]at hz;have z7x:cs0[0]?≠none:=by
    rw[wV (by rw[Fh];exact z16)];simp
   rw[<-hz]at z7x;obtain⟨b,off,spot⟩:=a;have hsp:spot=none/\∃c e fz,w.heap[b]? = some (.cells c e fz):=by
    simp only[World.cell?]at z7x;split at z7x
    ·rename_i c e fz hblk;refine⟨?_,c,e,fz,hblk⟩
     cases spot with
     |none=>rfl
     |some s=>simp at z7x
    ·simp at z7x
   obtain⟨rfl,c,e,fz,hblk⟩:=hsp;have yP:b<w.heap.size:=(Z2p.1 hblk).1;have elt:∀(i:Nat)(hi:i<l.length),off+i*t.size+t.size<=c.size/\zM w (wholeG w) none t (l.get ⟨i,hi⟩) (qi c.toList (off+i*t.size) t.size):=λi hi=>by
    obtain⟨Dv,Ke,hr⟩:=hl i hi;obtain⟨_,hl',Uu⟩:=World.cells?_some Ke;have q2v:(⟨b,off,none⟩:Addr).add (i*t.size)=⟨b,off+i*t.size,none⟩:=Addr.add_lit ..;rw[q2v]at Uu;have h2:=Ul (b:=b) (off:=off+i*t.size) (n:=t.size) hl' (λj hj=>by
     have:=Uu j hj;rw[Addr.add_lit]at this;exact this) hblk z16
    exact⟨h2.1,by rw[h2.2];exact hr⟩
   refine⟨b,off,c,e,fz,rfl,Wr yP,hblk,?_,λi hi=>(elt i hi).2⟩;have:=(elt (l.length-1) (by omega)).1;have hm:(l.length-1+1)*t.size=l.length*t.size:=by rw[Nat.sub_add_cancel (by omega)]
   rw[kK]at hm
   omega
 |.sl true _,_,_,_,_,_,hp,_,_=>by simp[Ty.plain]at hp
 |.ptr _,_,_,_,_,_,hp,_,_=>by simp[Ty.plain]at hp
 |.fn _ _,_,_,_,_,_,hp,_,_=>by simp[Ty.plain]at hp
 |.tree k,T,fuel,cs,x,hN,_,hT,h=>hF fuel hN k T cs x hT h
theorem Jr{N:Nat}(hF:∀m,m<=N->R8 enc P w base spare held m):(t:Ty)->{fs:List Field}->{off:Nat}->{cs:List Value}->{n:Nat}->n<=N->t.plain=true->vC P t fs off->off+t.size<=cs.length->
  (∀(i:Nat)(f:Field),fs[i]? = some f->∃x,DataW.trod enc P w base spare held n f.type ((cs.drop f.offset).take (P.cellsOf f.type))=some x)->∃d,zM w (wholeG w) none t d (qi cs off t.size)
 |.pair a b,f::fs,off,cs,n,hN,hp,D9,hl,h=>by
  simp only[vC]at D9;obtain⟨ho,hta,htb⟩:=D9;simp only[Ty.plain,zA]at hp;simp only[Ty.size]at hl;obtain⟨y,hy⟩:=h 0 f rfl;rw[ho,(hta.info.cellsOf).1]at hy;obtain⟨d1,hd1⟩:=Gz hF a hN hp.1 hta hy;obtain⟨d2,hd2⟩:=Jr hF b (off:=off+a.size) hN hp.2 htb (by omega) (λi g hg=>h (i+1) g (by simpa using hg));refine⟨(d1,d2),qi cs off a.size,qi cs (off+a.size) b.size,?_,hd1,hd2⟩;simp only[qi,Ty.size,List.take_add]
  rw[Z1t]
 |.unit,[],off,cs,n,_,_,_,_,_=>⟨(),by simp[qi,Ty.size,zM]⟩
 |.unit,_::_,_,_,_,_,_,h,_,_=>by simp only[vC]at h
 |.pair _ _,[],_,_,_,_,_,h,_,_=>by simp only[vC]at h
 |.int _,_,_,_,_,_,_,h,_,_=>by simp only[vC]at h
 |.bool,_,_,_,_,_,_,h,_,_=>by simp only[vC]at h
 |.str,_,_,_,_,_,_,h,_,_=>by simp only[vC]at h
 |.arr _ _,_,_,_,_,_,_,h,_,_=>by simp only[vC]at h
 |.sl _ _,_,_,_,_,_,_,h,_,_=>by simp only[vC]at h
 |.ptr _,_,_,_,_,_,_,h,_,_=>by simp only[vC]at h
 |.fn _ _,_,_,_,_,_,_,h,_,_=>by simp only[vC]at h
 |.tree _,_,_,_,_,_,_,h,_,_=>by simp only[vC]at h
end
theorem F2(z7n:RecOK P):(N:Nat)->∀m,m<=N->R8 enc P w base spare held m
 |0,m,hm=>λk T cs x hT h=>by
  simp only[qZ]at hT;obtain⟨⟨_,_,fs,hu⟩,_⟩:=hT;obtain⟨_,n,hfu,_⟩:=DataW.trod_struct hu h
  omega
 |N+1,m,hm=>λk T cs x hT h=>by
  by_cases hmN:m<=N
  ·exact F2 z7n N m hmN k T cs x hT h
  simp only[qZ]at hT;obtain⟨⟨rfl,hon,_⟩,_⟩:=hT;have hp:=z7n k hon;simp only[qZ]at hp;obtain⟨⟨fs,hu,D9⟩,vN⟩:=hp;obtain⟨xs,n,hfu,_,hl,hlen,hf⟩:=DataW.trod_struct hu h;obtain⟨hcz,_⟩:=vN.cellsOf;rw[hcz]at hl;obtain⟨d,hd⟩:=Jr (F2 z7n N) (.pair (xq k) (xz k)) (off:=0) (cs:=cs) (n:=n) (by omega) (DT k) D9 (by rw[hl];simp) (λi f hi=>by
   have wu:fs[i]? = some f:=by rw[<-Z2i];exact hi
   have:=hf i f wu;have yP:i<xs.length:=by rw[hlen];exact(Z2p.1 wu).1
   exact⟨xs[i],by rw[this];simp[yP]⟩)
  have:qi cs 0 (Ty.pair (xq k) (xz k)).size=cs:=by rw[<-hl];exact gM cs
  rw[this]at hd;refine⟨wo k d,zM.Ks.2 ?_⟩;rw[Db];exact hd
theorem z0o{t:Ty}{T:TypeId}{v:Value}{r:Reach}(hp:t.plain=true)(hT:qZ P t T)(h:Value.okWide P w r base T v):v=jl t.sk.isAgg v.cells.toList:=by
 cases t with
 |int k=>simp only[qZ]at hT;obtain⟨n,rfl⟩:=Go.WideShapes.okWide_int hT.1 h;rfl
 |bool=>simp only[qZ]at hT;obtain⟨n,rfl⟩:=Go.WideShapes.okWide_bool hT.1 h;rfl
 |str=>simp only[qZ]at hT;obtain⟨n,rfl⟩:=Go.WideShapes.okWide_string hT.1 h;rfl
 |unit=>simp only[qZ]at hT
 |pair a b=>
  simp only[qZ]at hT;obtain⟨⟨fs,hu,_⟩,_⟩:=hT;obtain⟨cs,rfl,_⟩:=Z64 hu h
  simp[jl,Ty.sk,Sk.isAgg,Value.cells]
 |arr n t=>
  simp only[qZ]at hT;obtain⟨⟨E,hu,_⟩,_⟩:=hT;simp only[Value.okWide,hu]at h;obtain⟨cs,rfl,_⟩:=h
  simp[jl,Ty.sk,Sk.isAgg,Value.cells]
 |sl o t=>
  simp only[qZ]at hT;obtain⟨⟨E,hu,_⟩,_⟩:=hT;obtain⟨a,l,c,rfl⟩:=Go.WideShapes.okWide_slice hu h
  rfl
 |ptr t=>simp[Ty.plain]at hp
 |fn f t=>simp[Ty.plain]at hp
 |tree k=>
  simp only[qZ]at hT;obtain⟨⟨_,_,fs,hu⟩,_⟩:=hT;obtain⟨cs,rfl,_⟩:=Z64 hu h;simp[jl,Ty.sk,Sk.isAgg,Value.cells]
theorem arg_open{t:Ty}{T:TypeId}{v:Value}{r:Reach}{zu7:Nat}{d:DataW H}{ps:List MemPlace}(hp:t.plain=true)(hT:qZ P t T)(hv:Value.okWide P w r zu7 T v)(h:DataW.Trod enc P w base spare held T v d ps)(z7n:RecOK P:=by intro k h;simp[recOn]at h):
  ∃x,t.zW=true/\∃cs,zM w (wholeG w) none t x cs/\v=jl t.sk.isAgg cs:=by
 obtain⟨fuel,h⟩:=h;obtain⟨x,hx⟩:=Gz (F2 z7n fuel) t (jq _) hp hT h;exact⟨x,Ty.QV hp,_,hx,z0o hp hT hv⟩
end
theorem law_walk{P:Program}{f:Nat}{fn:Func}{body:Code}{p:kG}{F:p.den->Option Bool}{d:p.den}{vals:List Value}{w:World}(hf:P.funcs[f]? = some fn)(hb:fn.body=some body)(YL:(fn.name == "runtime.NumGoroutine")=false)
  (hc:qe P f (.pure p [.bool] F)) (hF:F d=some true) (ha:Qz w (wholeG w) p d vals) (N6:Known w (wholeG w):=by intro b e he;simp[Go.Kz.tab]at he) :
  Calls P f vals.toArray w λe w'=>e=.returned (.bool true)/\Go.RowKit.Below w.heap.size w w':=by
 have z7u:¬fn.name = "runtime.NumGoroutine" := by simpa using YL
 have z1c:(callFunc f vals.toArray).run P w=.ok (.enter f vals.toArray) w:=by simp[callFunc,hf,hb,z7u]
 rcases hc w (wholeG w) d vals true (λb hb=>by
  simp only[wholeG]at hb⊢;split at hb
  ·rename_i h;simp[h]
  ·simp at hb) N6 ha hF with⟨_,h⟩|⟨v,w',h,_⟩
 ·refine Calls.mono h λe w' he=>?_
  obtain⟨v,rfl,g',qm,KZ⟩:=he;have hv:=ZW KZ.2;refine⟨by rw[hv],qm.os,qm.tape,qm.output,qm.size,λk hk=>(qm.vV k hk (.inr (Wr hk))).1⟩
 ·rw[z1c]at h;cases h
theorem known_int{w:World}{b n:Nat}{k:IntKind}{l:List Int}(hl:l.length=n)(hn:0<n)(hr:∀x∈l,k.min<=x/\x<=k.max)(h:∀j,j<n->w.cell? ⟨b,j,none⟩=some (.int k (l.getD j 0))):
  zM w (wholeG w) none (.ptr (.arr n (.int k))) l [.pointer (some ⟨b,0,none⟩)]:=by
 have h0:=h 0 hn;have:∃c e fz,w.heap[b]? = some (.cells c e fz):=by
  simp only[World.cell?]at h0;split at h0
  ·rename_i c e fz hb;exact⟨c,e,fz,hb⟩
  ·simp at h0
 obtain⟨c,e,fz,hb⟩:=this;have yP:=(Z2p.1 hb).1;have Zw:∀j,j<n->w.cell? ⟨b,0+j,none⟩=(l.map (Value.int k))[j]? := by
  intro j hj;rw[Wq,h j hj];have gg:j<l.length:=by omega
  simp[gg]
 obtain⟨h1,h2⟩:=Ul (by simp[hl]) Zw hb hn;refine⟨b,0,c,e,fz,rfl,Wr yP,hb,by simp only[Ty.size];omega,hl,?_,λi hi=>?_⟩
 ·have:=yO (l:=c.toList) (off:=0) (n:=n*1) (by simp;omega);simpa[Ty.size]using this
 ·have e1:(Ty.arr n (.int k)).size=n:=by simp[Ty.size]
  have e2:(Ty.int k).size=1:=rfl;rw[e1,h2,e2];refine⟨?_,hr _ (Z2n _ _)⟩;have wu:i<l.length:=hi;simp only[qi,Z2h,R3];rw[<-Z51,Z2a wu];rfl
end Go.Kz
namespace Go.Kz
theorem FM{I:Type}(l:List I)(k:Nat):idx l (k:Int)=l[k]? := rfl
theorem Kx{I:Type}{l:List I}{i:Int}(h0:0<=i)(h1:i<l.length):idx l i=some (l[i.toNat]'(by omega)):=by
 obtain⟨k,rfl⟩:=Z5v h0;simp only[FM,Wi];exact wV (by omega)
theorem zY{I:Type}{l:List I}{k:Nat}(h:k<l.length):idx l (k:Int)=some l[k]:=by simp[FM,h]
theorem wh{I:Type}{l:List I}{k:Nat}(h:k<l.length):wY l (k:Int)=true:=by simp[wY,h]
theorem qx{R:Type}{b:Bool}{x:Option R}(h:b=true):qV b x=x:=by rw[h];rfl
theorem zx{n:Int}(h1 : -9223372036854775808<=n)(h2:n<=9223372036854775807):zz n=n:=by
 simp only[zz,IntKind.wrap,IntKind.min,IntKind.max,IntKind.bits,IntKind.signed];simp;omega
end Go.Kz
namespace Go.Kz
variable {σ R:Type}{r:Option R}
theorem dlt{k n:Nat}(h:k<n):decide ((k:Int)<(n:Int))=true:=by simp[h]
theorem z9m(n:Nat):decide ((n:Int)<(n:Int))=false:=by simp
theorem zb{I:Type}{l:List I}{k:Nat}(h:k<l.length):decide ((k:Int)<len l)=true:=by simp[len,h]
theorem zH{I:Type}(l:List I):decide (((l.length:Nat):Int)<len l)=false:=by simp[len]
theorem vR{n:Nat}{x:Option R}(h:n<=4294967296):qV (decide (n<=room)) x=x:=qx (jQ h)
theorem take_succ{I:Type}{l:List I}{k:Nat}(h:k<l.length):l.take (k+1)=l.take k++[l[k]]:=by rw[Z5i h]
theorem zd9{I:Type}{p:List I->Prop}(h0:p [])(h1:∀l x,p l->p (l++[x]))(l:List I):p l:=by
 have:∀n (l:List I),l.length=n->p l:=by
  intro n
  induction n with
  |zero=>intro l hl;have:=Z3h hl;subst this;exact h0
  |succ n ih=>
   intro l hl;have va:l≠[]:=by intro h;subst h;simp at hl
   rw[<-List.dropLast_concat_getLast va];exact h1 _ _ (ih _ (by simp[hl]))
 exact this _ l rfl
end Go.Kz
namespace Go.Kz
variable {R:Type}
def zl9(c:Ctx)(ts:List Ty)(rs:List ResultVar):vS->St->Option (jY ts):=λe σ=>match e with
 |.exit _=>none
 |_=>norm c.res σ λσ=>G7 c.tt σ ts rs λr _=>some r
theorem W0{P:Program}{f:Nat}{fn:Func}{c:Ctx}{p:kG}{ts:List Ty}{F:p.den->Option (jY ts)}{A B C:Code}{id:Nat}{o1 o2:Oper}{s d1 d2:Nat}{T T':TypeId}{t tT:Ty}{oT:Bool}{σ0:p.den->St}
  (hf:P.funcs[f]? = some fn) (YL:(fn.name == "runtime.NumGoroutine")=false) (hb:fn.body=some (.seq A (.seq (.seq (.region id #[o1, o2] false) C) B)))
  (hc:xW P c) (hm:P.follows .mixedOrders=true) (hn:c.ntmps=fn.ntmps) (hp:p.len<=fn.ntmps) (ht:VY ts=true)
  (hlA:∀b∈j4 A,Jy c b) (hlB:∀b∈j4 B,Jy c b) (hlC:∀b∈j4 C,Jy c b)
  (hA:∀d,vA c A (entry p d) (λe σ=>match e with |.normal=>some σ|_=>none)=some (σ0 d))
  (h1:o1.op=.move (.tmp s)) (h1d:o1.dst=some d1) (h1g:o1.guard=none)
  (h2:o2.op=.binOp .eql T (.tmp d1) (.const (.slice none 0 0)) T') (h2d:o2.dst=some d2) (h2g:o2.guard=none)
  (hd1:d1<c.ntmps) (hd2:d2<c.ntmps) (hT:c.tt T=some (.sl oT tT))
  (l:p.den->List t.den) (hs:∀d,(σ0 d).zy s=some (.data (.sl false t) (l d)))
  (heq:∀d b,(b=true->l d=[])->vA c C (((σ0 d).set d1 (.data (.sl false t) (l d))).set d2 (.data .bool b)) (ze7 (ze9 (cutAt c B) (vA c B)) (zl9 c ts fn.results.toList))=F d):qe P f (.pure p ts F):=by
 intro w g d vals r ze N6 hargs hF;left;refine⟨?_,?_⟩
 ·have z7u:¬fn.name = "runtime.NumGoroutine" := by simpa using YL
  simp[callFunc,hf,hb,z7u]
 obtain⟨zq,v7⟩:=Mw ze N6 hargs hp;rw[<-hn]at zq;refine calls_of_wp hf hb ?_;rw[<-hn];have hQ':∀ch a w',¬bodyPost P fn (λe w'=>∃v,e=.returned v/\∃g',Ext w g w' g'/\PA w' g' (zK ts r 0) v) (.panic ch) a w':=by
  intro ch a w h;obtain⟨_,v,h,_⟩:=h;cases h
 generalize hQd:bodyPost P fn (λe w'=>∃v,e=.returned v/\∃g',Ext w g w' g'/\PA w' g' (zK ts r 0) v)=Q at hQ'⊢;have fin:zap c.ntmps g w (zl9 c ts fn.results.toList) r (λ_=>True) Q:=by
  subst hQd;intro e σ' g' a' w' hk qG kM KY _;have fin:∀{σ':St},norm c.res σ' (λσ=>G7 c.tt σ ts fn.results.toList λr _=>some r)=some r->zP c.ntmps g' w' a' σ'->qC g' σ'->
    ∃v,(results fn a'.tmps).run P w'=.ok v w'/\∃g',Ext w g w' g'/\PA w' g' (zK ts r 0) v:=by
   intro σ' hk qG KY;obtain⟨σ1,g1,h1,yM,yC,_⟩:=Ve qG KY hk;obtain⟨v,g2,hr,wT,KZ⟩:=z4v (P:=P) hc.tt yM ht h1;exact⟨v,hr,g2,(kM.trans yC).trans wT,KZ⟩
  cases e with
  |exit id=>simp[zl9]at hk
  |normal=>
   obtain⟨v,h1,h2⟩:=fin hk qG KY
   exact⟨qG.defers,v,h1,v,rfl,h2⟩
  |ret=>
   obtain⟨v,h1,h2⟩:=fin hk qG KY;exact⟨qG.defers,v,h1,v,rfl,h2⟩
 refine wp_seq (ko hc hm A hlA (λch a w h=>hQ' ch a w h) (hA d) zq v7 ?_);intro e σ1 g1 a1 w1 Y0 yM yC QO _
 cases e with
 |exit i=>simp at Y0
 |ret=>simp at Y0
 |normal=>
  simp only[zI]at Y0;subst Y0;show Code.wp P _ _ a1 w1;refine wp_seq (wp_seq (wp_region ?_));obtain⟨v,hv,zc⟩:=yM.zy s _ (hs d);have hev:a1.eval (.tmp s)=v:=by simp[Act.eval,Z4b,hv]
  have hr:List.range (#[o1,o2]:Array Oper).size=[0,1]:=rfl;rw[hr];simp only[wpOps,List.getElem?_toArray,Z5s,List.getElem?_cons_succ,uH h1g,uH h2g,Z1x];left;have wS:zP c.ntmps g1 w1 (a1.put o1.dst v) ((σ0 d).set d1 (.data (.sl false t) (l d))):=by
   rw[h1d];exact yM.put hd1 zc
  refine PG (v:=v) (by simp[execOp,h1,hev]) ?_;left;obtain⟨v2,xy,z19⟩:=wS.zy d1 (.data (.sl false t) (l d)) (by simp[St.set,Y4,R4]);have q25:(a1.put o1.dst v).eval (.tmp d1)=v2:=by simp[Act.eval,Z4b,xy]
  have hvd:∃ad n cap,v2=.slice ad n cap/\(ad.isNone=true->l d=[]):=by
   simp only[qy]at z19;obtain⟨cs,⟨_,ad,cap,rfl,_,_,va⟩,Vw⟩:=z19;refine⟨ad,_,cap,by rw[Vw];rfl,λQM=>?_⟩;by_cases hl:l d=[]
   ·exact hl
   ·obtain⟨b,off,c',e,fz,he,_⟩:=va hl;rw[he]at QM;simp at QM
  obtain⟨ad,n,cap,rfl,z7v⟩:=hvd;have hTu:=hc.tt _ _ hT;simp only[qZ]at hTu;obtain⟨⟨E,hTE,_⟩,_⟩:=hTu;have zn:(execOp (a1.put o1.dst v).eval o2).run P w1=.ok (.value (.bool ad.isNone)) w1:=by
   have:=run_equal_slice_nil (P:=P) w1 T E ad n cap hTE;have h3:(binOp .eql T (.slice ad n cap) (.slice none 0 0)).run P w1=.ok (.bool ad.isNone) w1:=by
    simp only[binOp];simp[this]
   have Sw:(a1.put o1.dst v).eval (.const (.slice none 0 0))=.slice none 0 0:=rfl;simp[execOp,h2,q25,Sw,eqGuard,h3]
  refine PG zn ?_;have Oy:zP c.ntmps g1 w1 ((a1.put o1.dst v).put o2.dst (.bool ad.isNone)) (((σ0 d).set d1 (.data (.sl false t) (l d))).set d2 (.data .bool ad.isNone)):=by
   rw[h2d];exact wS.put hd2 (wC _)
  have hf3:qC g1 (((σ0 d).set d1 (.data (.sl false t) (l d))).set d2 (.data .bool ad.isNone)):=by
   intro m Ub;exact((QO m Ub).set d1 (by simp[z7.ids])).set d2 (by simp[z7.ids])
  show Code.wp P _ _ _ _;have he:=heq d ad.isNone z7v;rw[hF]at he;refine ko hc hm C hlC (Q:=Exit.then (B.wp P Q) Q) (λch a w h=>hQ' ch a w h) he Oy hf3 ?_;intro e σ4 g4 a4 w4 h4 zej Sv hf4 _
  cases e with
  |normal=>
   simp only[ze7,ze9]at h4;show B.wp P Q a4 w4;split at h4
   ·obtain⟨σ5,g5,h5,q0s,ztf,hf5⟩:=Ve zej hf4 h4;exact ko hc hm B hlB hQ' h5 q0s hf5 (fin.later ((yC.trans Sv).trans ztf) (λ_ _=>trivial))
   ·exact ko hc hm B hlB hQ' h4 zej hf4 (fin.later (yC.trans Sv) (λ_ _=>trivial))
  |exit i=>exact fin.later (F':=λ_=>True) (yC.trans Sv) (λ_ h=>h) (.exit i) σ4 g4 a4 w4 h4 zej (Ext.refl _ _) hf4 trivial
  |ret=>exact fin.later (F':=λ_=>True) (yC.trans Sv) (λ_ h=>h) .ret σ4 g4 a4 w4 h4 zej (Ext.refl _ _) hf4 trivial
end Go.Kz
namespace Go.Kz
variable {R I Z σ:Type}
def zp(x:Option R)(Q:R->Prop):Prop:=∃r,x=some r/\Q r
theorem zp.ret{r:R}{Q:R->Prop}(h:Q r):zp (some r) Q:=⟨r,rfl,h⟩
theorem zp.mono{x:Option R}{P Q:R->Prop}(h:zp x P)(hq:∀r,P r->Q r):zp x Q:=let ⟨r,h1,h2⟩:=h;⟨r,h1,hq r h2⟩
theorem zp.bind{m:Option I}{f:I->Option R}{Q:R->Prop}(h:zp m λa=>zp (f a) Q):zp (m.bind f) Q:=by
 obtain⟨a,rfl,r,h1,h2⟩:=h;exact⟨r,h1,h2⟩
theorem zp.then{m:Option I}{f:I->Option R}{P:I->Prop}{Q:R->Prop}(h:zp m P)(hf:∀a,P a->zp (f a) Q):zp (m.bind f) Q:=zp.bind (h.mono hf)
theorem zp.cond{b:Bool}{x y:Option R}{Q:R->Prop}(h1:b=true->zp x Q)(h2:b=false->zp y Q):zp (cond b x y) Q:=by
 cases b with
 |true=>exact h1 rfl
 |false=>exact h2 rfl
theorem zp.qV{b:Bool}{x:Option R}{Q:R->Prop}(hb:b=true)(h:zp x Q):zp (qV b x) Q:=by rw[hb];exact h
theorem zp.eq{x:Option R}{r:R}(h:zp x λy=>y=r):x=some r:=by obtain⟨y,rfl,rfl⟩:=h;rfl
theorem zp.iter{Q:R->Prop}{Body:(I->Option R)->I->Option R}(Inv:I->Prop)(m:I->Nat)
  (h:∀x w,Inv x->(∀y,Inv y->m y<m x->zp (w y) Q)->zp (Body w x) Q):∀(n:Nat)(x:I),Inv x->m x<n->zp (iter Body n x) Q
 |0,_,_,hn=>by omega
 |n+1,x,hx,hn=>h x _ hx λy hy hm=>zp.iter Inv m h n y hy (by omega)
theorem zp.up{Q:R->Prop}{F:(Int×σ->Option R)->Int×σ->Option R}(Inv:Nat->σ->Prop)(n:Nat)
  (step:∀(k:Nat)(s:σ)(w:Int×σ->Option R),k<n->Inv k s->(∀s',Inv (k+1) s'->zp (w ((k:Int)+1,s')) Q)->zp (F w ((k:Int),s)) Q)
  (last:∀(s:σ)(w:Int×σ->Option R),Inv n s->zp (F w ((n:Int),s)) Q) (N k0:Nat) (hk:k0<=n) (hN:n-k0<N) (s0:σ) (h0:Inv k0 s0):zp (Go.Kz.iter F N ((k0:Int),s0)) Q:=by
 refine zp.iter (λx=>∃k:Nat,x.1=(k:Int)/\k<=n/\Inv k x.2) (λx=>n-x.1.toNat) ?_ N _ ⟨k0,rfl,hk,h0⟩ (by simpa using hN);rintro⟨x,s⟩ w ⟨k,hx,hk,hi⟩ hw;simp only at hx hi;subst hx;by_cases yP:k<n
 ·exact step k s w yP hi λs' FT=>hw _ ⟨k+1,by simp,by omega,FT⟩ (by simp;omega)
 ·have:k=n:=by omega
  subst this;exact last s w hi
theorem zp.CT{Q:R->Prop}{F:(Int->Option R)->Int->Option R}(Inv:Nat->Prop)(n:Nat)
  (step:∀(k:Nat)(w:Int->Option R),k<n->Inv k->(Inv (k+1)->zp (w ((k:Int)+1)) Q)->zp (F w (k:Int)) Q)
  (last:∀(w:Int->Option R),Inv n->zp (F w (n:Int)) Q) (N k0:Nat) (hk:k0<=n) (hN:n-k0<N) (h0:Inv k0):zp (Go.Kz.iter F N (k0:Int)) Q:=by
 refine zp.iter (λx=>∃k:Nat,x=(k:Int)/\k<=n/\Inv k) (λx=>n-x.toNat) ?_ N _ ⟨k0,rfl,hk,h0⟩ (by simpa using hN);rintro x w ⟨k,hx,hk,hi⟩ hw;subst hx;by_cases yP:k<n
 ·exact step k w yP hi λFT=>hw _ ⟨k+1,by simp,by omega,FT⟩ (by simp;omega)
 ·have:k=n:=by omega
  subst this;exact last w hi
theorem zp.upR{Q:R->Prop}{F:(σ×Int->Option R)->σ×Int->Option R}(Inv:Nat->σ->Prop)(n:Nat)
  (step:∀(k:Nat)(s:σ)(w:σ×Int->Option R),k<n->Inv k s->(∀s',Inv (k+1) s'->zp (w (s',(k:Int)+1)) Q)->zp (F w (s,(k:Int))) Q)
  (last:∀(s:σ)(w:σ×Int->Option R),Inv n s->zp (F w (s,(n:Int))) Q) (N k0:Nat) (hk:k0<=n) (hN:n-k0<N) (s0:σ) (h0:Inv k0 s0):zp (Go.Kz.iter F N (s0,(k0:Int))) Q:=by
 refine zp.iter (λx=>∃k:Nat,x.2=(k:Int)/\k<=n/\Inv k x.1) (λx=>n-x.2.toNat) ?_ N _ ⟨k0,rfl,hk,h0⟩ (by simpa using hN);rintro⟨s,x⟩ w ⟨k,hx,hk,hi⟩ hw;simp only at hx hi;subst hx;by_cases yP:k<n
 ·exact step k s w yP hi λs' FT=>hw _ ⟨k+1,by simp,by omega,FT⟩ (by simp;omega)
 ·have:k=n:=by omega
  subst this;exact last s w hi
theorem Uz{F:(Int->Option R)->Int->Option R}(k0 n:Nat)(hk0:k0<=n)(p:Nat->Bool)(A B:Option R)
  (step:∀(k:Nat)(w:Int->Option R),k0<=k->k<n->F w (k:Int)=if p k then w ((k:Int)+1) else B)
  (last:∀(w:Int->Option R),F w (n:Int)=A) (N:Nat) (hN:n-k0<N):iter F N (k0:Int)=if (List.range (n-k0)).all (λj=>p (k0+j)) then A else B:=by
 have key:∀(M k:Nat),k<=n-k0->n-k0-k<M->((List.range k).all (λj=>p (k0+j))=true)->iter F M ((k0+k:Nat):Int)=if (List.range (n-k0)).all (λj=>p (k0+j)) then A else B:=by
  intro M
  induction M with
  |zero=>intro k _ h;omega
  |succ M ih=>
   intro k hk hM hall;simp only[iter];by_cases yP:k<n-k0
   ·rw[step (k0+k) _ (by omega) (by omega)]
    cases hp:p (k0+k) with
    |true=>
     simp only[Z1x];have:=ih (k+1) yP (by omega) (by rw[Z2d,List.all_append,hall];simp[hp]);rw[show(((k0+(k+1):Nat)):Int)=((k0+k:Nat):Int)+1 from by omega]at this
     exact this
    |false=>
     have:(List.range (n-k0)).all (λj=>p (k0+j))=false:=by
      rw[List.all_eq_false];exact⟨k,by simp[yP],by simp[hp]⟩
     rw[this];simp
   ·have:k=n-k0:=by omega
    subst this;rw[show k0+(n-k0)=n from by omega,last,hall];simp
 have:=key N 0 (v8 _) (by omega) rfl;simpa using this
theorem Uq{F:(Int->Option R)->Int->Option R}(l:List I)(p:I->Bool)(A B:Option R)
  (step:∀(k:Nat)(w:Int->Option R)(hk:k<l.length),F w (k:Int)=if p l[k] then w ((k:Int)+1) else B)
  (last:∀(w:Int->Option R),F w (l.length:Int)=A) (N:Nat) (hN:l.length<N):iter F N 0=if l.all p then A else B:=by
 have:=Uz (F:=F) 0 l.length (v8 _) (λk=>match l[k]? with
  |some x=>p x
  |none=>true) A B (λk w _ hk=>by rw[step k w hk];simp[hk]) last N (by omega)
 rw[show((0:Nat):Int)=0 from rfl]at this;rw[this];congr 1
 have e:((List.range (l.length-0)).all λj=>match l[0+j]? with
  |some x=>p x
  |none=>true)=l.all p:=by
  rw[Z3j,Z2j,Z2j];constructor
  ·intro h x hx;obtain⟨i,hi,rfl⟩:=Wl.1 hx;have:=h i (by simp[hi]);simpa[hi]using this
  ·intro h i hi;have wu:i<l.length:=by simpa using hi
   simp only[Wq,wV wu];exact h _ (wB wu)
 rw[e]
theorem zk{k:Nat}(h:k<9223372036854775807):zz ((k:Int)+1)=(k:Int)+1:=zx (by omega) (by omega)
theorem xS{k:Nat}(h:0<k)(h2:k<9223372036854775807):zz ((k:Int)-1)=((k-1:Nat):Int):=by
 rw[zx (by omega) (by omega)];omega
end Go.Kz
namespace Go.Kz
theorem qc{P:Go.Program}{f:Nat}{p:kG}{res:List Ty}{F:p.den->Option (jY res)}(h:∀d,F d=none):qe P f (.pure p res F):=by
 intro w g d vals r _ _ _ hF;rw[h]at hF;cases hF
theorem J4{P:Go.Program}{f:Nat}{fin:wQ}{jf:List Nat}{qv:wQ}{F:fin.den->Option qv.den}(h:∀d,F d=none):qe P f (.mut fin jf qv F):=by
 intro w g d vals r _ _ _ hF;rw[h]at hF;cases hF
end Go.Kz
