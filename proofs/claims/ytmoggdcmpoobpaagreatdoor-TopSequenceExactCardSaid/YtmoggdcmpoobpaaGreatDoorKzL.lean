/-
  Parts replaced; abstract values in cells.
-/
import Derived.Test.YtmoggdcmpoobpaaGreatDoorKzD
set_option linter.unusedVariables false
set_option linter.unusedSimpArgs false
namespace Go.Kz
variable {R:Type}
theorem zM.yy{w:World}{g:z8}:{o o':Ee}->{t:Ty}->{d:t.den}->{cs:List Value}->t.zW=true->zM w g o t d cs->zM w g o' t d cs
 |_,_,.int _,_,_,_,h=>h
 |_,_,.bool,_,_,_,h=>h
 |_,_,.str,_,_,_,h=>h
 |_,_,.unit,_,_,_,h=>h
 |_,_,.pair a b,(x,y),_,ht,h=>by
  simp only[Ty.zW,zA]at ht;obtain⟨c1,c2,rfl,h1,h2⟩:=h
  exact⟨c1,c2,rfl,zM.yy ht.1 h1,zM.yy ht.2 h2⟩
 |_,_,.arr n t,_,_,ht,h=>⟨h.1,h.2.1,λi hi=>zM.yy (by simpa[Ty.zW]using ht) (h.2.2 i hi)⟩
 |_,_,.sl false t,_,_,_,h=>h
 |_,_,.sl true t,_,_,ht,_=>by simp[Ty.zW]at ht
 |_,_,.ptr t,_,_,_,h=>h
 |_,_,.fn f t,_,_,_,h=>h
 |_,_,.tree _,_,_,_,h=>h
theorem yz{a b:Ty}{d:a.den}{k:b.den->Option R}{r:R}(h:wa a b d k=some r):∃e:a=b,k (cast (Wm Ty.den e) d)=some r:=by
 unfold wa at h;split at h
 ·rename_i x hx;exact⟨x.down,h⟩
 ·simp at h
theorem qt{I:Type}(l:List I)(i:Int)(x:I):(qR l i x).length=l.length:=by simp[qR]
theorem JS{I:Type}(l:List I)(i:Int)(x:I)(j:Nat)(hj:j<(qR l i x).length):
  (qR l i x).get ⟨j,hj⟩=if i.toNat=j then x else l.get ⟨j,by simpa[qR]using hj⟩:=by
 simp[qR,Z2z]
theorem Qu{w:World}{g:z8}:{t:Ty}->{d:t.den}->{p:Path}->{u:Ty}->{e:u.den}->{k:t.den->Option R}->{r:R}->{cs Dj:List Value}->
  t.zW=true->zM w g none t d cs->zM w g none u e Dj->yT t d p u e k=some r->
  ∃d' off,k d'=some r/\t.sk.off p=some (off,u.sk)/\zM w g none t d' (zB cs off Dj)
 |t,d,[],u,e,k,r,cs,Dj,ht,zN,Q0,h=>by
  have hk:wa u t e k=some r:=by cases t<;>simpa[yT]using h
  obtain⟨rfl,hk⟩:=yz hk;refine⟨e,0,hk,by simp[Sk.off],?_⟩;have:zB cs 0 Dj=Dj:=by
   simp only[zB,Z29,JD,Wq];rw[Q0.len,<-zN.len];simp
  rw[this];exact Q0
 |.pair a b,(x,y),.fst::p,u,e,k,r,cs,Dj,ht,zN,Q0,h=>by
  simp only[yT]at h;obtain⟨c1,c2,rfl,h1,h2⟩:=zN;simp only[Ty.zW,zA]at ht;obtain⟨d',off,hk,ho,hr⟩:=Qu ht.1 h1 Q0 h;refine⟨_,off,hk,by simpa[Ty.sk,Sk.off]using ho,?_⟩;have:=Sk.we ho;rw[Ty.zX,Ty.zX]at this;rw[wE _ _ _ _ (by rw[h1.len,Q0.len];exact this)]
  exact⟨_,_,rfl,hr,h2⟩
 |.pair a b,(x,y),.snd::p,u,e,k,r,cs,Dj,ht,zN,Q0,h=>by
  simp only[yT]at h;obtain⟨c1,c2,rfl,h1,h2⟩:=zN;simp only[Ty.zW,zA]at ht;obtain⟨d',off,hk,ho,hr⟩:=Qu ht.2 h2 Q0 h;refine⟨_,a.sk.size+off,hk,by simp[Ty.sk,Sk.off,ho],?_⟩;rw[w7 _ _ _ _ _ (by rw[h1.len,Ty.zX])]
  exact⟨_,_,rfl,h1,hr⟩
 |.arr n t,l,.idx i::p,u,e,k,r,cs,Dj,ht,zN,Q0,h=>by
  simp only[yT,Zh]at h;obtain⟨x,hx,h⟩:=h;obtain⟨h0,hi,rfl,yP⟩:=jt hx;have ht':t.zW=true:=by simpa[Ty.zW]using ht
  have hl:=zN.1;have ZA:=zN.2.1;have hn:i.toNat<n:=by rw[<-hl];exact hi
  obtain⟨d',off,hk,ho,hr⟩:=Qu ht' (zN.2.2 _ hi) Q0 h;have hle:=Sk.we ho;rw[Ty.zX,Ty.zX]at hle;have u6:(i.toNat+1)*t.size<=n*t.size:=wI _ hn;rw[kK]at u6;refine⟨_,i.toNat*t.sk.size+off,hk,?_,?_⟩
  ·simp only[Ty.sk,Sk.off];rw[qn ⟨h0,by omega⟩,ho];rfl
  ·rw[Ty.zX];refine⟨by rw[qt];exact hl,?_,λj hj=>?_⟩
   ·rw[yS _ _ _ (by rw[Q0.len];omega)];exact ZA
   ·rw[JS];split
    ·rename_i ZP;subst ZP;rw[uj _ _ _ _ _ (by rw[Q0.len];exact hle) (by omega)];exact hr
    ·rename_i ZP;have gg:j<List.length l:=by simpa[qR]using hj
     have WS:j<n:=by rw[<-hl];exact gg
     rcases Z3v ZP with KQ|hgt
     ·have h3:(i.toNat+1)*t.size<=j*t.size:=wI _ KQ;rw[kK]at h3;rw[vJ _ _ _ _ _ (by rw[Q0.len];omega) (by rw[Q0.len];omega)];exact zN.2.2 j gg
     ·have h3:(j+1)*t.size<=i.toNat*t.size:=wI _ hgt;rw[kK]at h3;rw[j9 _ _ _ _ _ (by omega) (by omega)]
      exact zN.2.2 j gg
 |.sl true t,l,.idx i::p,_,_,k,r,cs,_,ht,zN,_,h=>by simp[Ty.zW]at ht
 |.sl false t,l,s::p,_,_,k,r,cs,_,ht,zN,_,h=>by cases s<;>simp[yT]at h
 |.sl true t,l,.fst::p,_,_,k,r,cs,_,ht,zN,_,h=>by simp[yT]at h
 |.sl true t,l,.snd::p,_,_,k,r,cs,_,ht,zN,_,h=>by simp[yT]at h
 |.int _,_,s::_,_,_,_,_,_,_,_,_,_,h=>by cases s<;>simp[yT]at h
 |.bool,_,s::_,_,_,_,_,_,_,_,_,_,h=>by cases s<;>simp[yT]at h
 |.str,_,s::_,_,_,_,_,_,_,_,_,_,h=>by cases s<;>simp[yT]at h
 |.unit,_,s::_,_,_,_,_,_,_,_,_,_,h=>by cases s<;>simp[yT]at h
 |.ptr _,_,s::_,_,_,_,_,_,_,_,_,_,h=>by cases s<;>simp[yT]at h
 |.fn _ _,_,s::_,_,_,_,_,_,_,_,_,_,h=>by cases s<;>simp[yT]at h
 |.tree _,_,s::_,_,_,_,_,_,_,_,_,_,h=>by cases s<;>simp[yT]at h
 |.pair _ _,_,.idx _::_,_,_,_,_,_,_,_,_,_,h=>by simp[yT]at h
 |.arr _ _,_,.fst::_,_,_,_,_,_,_,_,_,_,h=>by simp[yT]at h
 |.arr _ _,_,.snd::_,_,_,_,_,_,_,_,_,_,h=>by simp[yT]at h
abbrev qQ:=Nat->Option Obj
def place(g:z8)(id:Nat):(t:Ty)->(pre:Path)->(b off:Nat)->Path->Option (Nat×Nat)
 |_,_,b,off,[]=>some (b,off)
 |.pair a _,pre,b,off,.fst::p=>place g id a (pre++[.fst]) b off p
 |.pair a c,pre,b,off,.snd::p=>place g id c (pre++[.snd]) b (off+a.size) p
 |.arr _ t,pre,b,off,.idx i::p=>place g id t (pre++[.idx i]) b (off+i.toNat*t.size) p
 |.sl true t,pre,_,_,.idx i::p=>match g.sv id pre with
  |.slice (some a) _ _=>place g id t (pre++[.idx i]) a.block (a.off+i.toNat*t.size) p
  |_=>none
 |_,_,_,_,_=>none
def j5(v:Value)(size:Nat)(a b:Int):Value:=match v with
 |.slice x _ cap=>.slice (if cap-a.toNat=0 then x else x.map (·.add (a.toNat*size))) (b-a).toNat (cap-a.toNat)
 |v=>v
def z7.isAgg:z7->Bool
 |.data t _=>t.sk.isAgg
 |.agg _=>true
 |_=>false
def jl(agg:Bool)(cs:List Value):Value:=if agg then .agg cs.toArray else cs.headD undef
def jO(w:World)(g:z8)(z6:qQ):z7->List Value->Prop
 |.data t d,cs=>t.zW=true/\zM w g none t d cs
 |.za,cs=>cs=[.slice none 0 0]
 |.ref id p ep,cs=>∃v,cs=[v]/\v.oneCell'=true/\∀t l e,z6 id=some (.row t l e)->ep<=e/\(e=ep->v=g.sv id p)
 |.view id p ep a b,cs=>∃v,cs=[v]/\v.oneCell'=true/\∀t l e,z6 id=some (.row t l e)->ep<=e/\
   (e=ep->p=[]/\0<=a/\a<=b/\b<=(l.length:Int)/\v=j5 (g.sv id p) t.size a b)
 |.zw id p,cs=>∃v,cs=[v]/\v.oneCell'=true/\∀a,z6 id=some (.cell a)->∃off s,a.sk.off p=some (off,s)/\v=.pointer (some ⟨g.qY id,off,none⟩)
 |.jV id p ep,cs=>∃v,cs=[v]/\v.oneCell'=true/\∀t l e,z6 id=some (.row t l e)->ep<=e/\
   (e=ep->p≠[]/\∃b off,place g id (.sl true t) [] 0 0 p=some (b,off)/\v=.pointer (some ⟨b,off,none⟩))
 |.qF id,cs=>∃v,cs=[v]/\v.oneCell'=true/\∀kt vt m,z6 id=some (.map kt vt m)->v=.map (some (g.qY id))
 |.nv pt id p ep,cs=>∃v,cs=[v]/\v.oneCell'=true/\∀t l e i h,z6 id=some (.nest t l e i h)->ep<=Hr pt p e i/\
   (Hr pt p e i=ep->(pt=false->v=g.sv id p)/\(pt=true->p≠[]/\∃b off,place g id (.sl true t) [] 0 0 p=some (b,off)/\v=.pointer (some ⟨b,off,none⟩)))
 |.qW f c,cs=>∃vs,cs=[.func (.func f) #[] vs.toArray]/\jO w g z6 c vs
 | .ZU t c,cs=>∃x Dv,cs=[.iface t x]/\jO w g z6 c Dv/\x=jl c.isAgg Dv
 |.agg c,cs=>jO w g z6 c cs
 |.jD _,_=>False
 |.pr a b,cs=>∃c1 c2,cs=c1++c2/\jO w g z6 a c1/\jO w g z6 b c2
 |.un,cs=>cs=[]
theorem jO.len{w:World}{g:z8}{z6:qQ}:{a:z7}->{cs:List Value}->jO w g z6 a cs->cs.length=a.sk.size
 |.data t d,_,h=>by rw[h.2.len];simp[z7.sk,Ty.zX]
 |.za,_,h=>by cases h;rfl
 |.ref _ _ _,_,h=>by obtain⟨v,rfl,_⟩:=h;rfl
 |.view _ _ _ _ _,_,h=>by obtain⟨v,rfl,_⟩:=h;rfl
 |.zw _ _,_,h=>by obtain⟨v,rfl,_⟩:=h;rfl
 |.jV _ _ _,_,h=>by obtain⟨v,rfl,_⟩:=h;rfl
 |.qF _,_,h=>by obtain⟨v,rfl,_⟩:=h;rfl
 |.nv _ _ _ _,_,h=>by obtain⟨v,rfl,_⟩:=h;rfl
 |.qW _ _,_,h=>by obtain⟨v,rfl,_⟩:=h;rfl
 | .ZU _ _,_,h=>by obtain⟨x,cs,rfl,_⟩:=h;rfl
 |.agg c,_,h=>jO.len (a:=c) h
 |.jD _,_,h=>h.elim
 |.pr a b,_,h=>by
  obtain⟨c1,c2,rfl,h1,h2⟩:=h
  simp only[Jz,z7.sk,Sk.size,h1.len,h2.len]
 |.un,_,h=>by cases h;rfl
mutual
def qy(w:World)(g:z8)(z6:qQ):z7->Value->Prop
 |.jD c,v=>∃vs,v=.tuple vs.toArray/\qj w g z6 c vs
 |.pr _ _,_=>False
 |.un,_=>False
 |a,v=>∃cs,jO w g z6 a cs/\v=jl a.isAgg cs
def qj(w:World)(g:z8)(z6:qQ):z7->List Value->Prop
 |.pr a b,vs=>∃v r,vs=v::r/\qy w g z6 a v/\qj w g z6 b r
 |.un,vs=>vs=[]
 |_,_=>False
end
end Go.Kz
namespace Go.Kz
variable {R:Type}
theorem Zg{w:World}{g:z8}{z6:qQ}:{a:z7}->{p:Path}->{k:z7->Option R}->{r:R}->{cs:List Value}->
  jO w g z6 a cs->gD a p k=some r->
  ∃a' off,k a'=some r/\a.sk.off p=some (off,a'.sk)/\jO w g z6 a' (qi cs off a'.sk.size)/\∀m,m∉a.ids->m∉a'.ids
 |a,[],k,r,cs,zc,h=>by
  have hk:k a=some r:=by cases a<;>simpa[gD]using h
  exact⟨a,0,hk,by simp[Sk.off],by rw[<-zc.len,gM];exact zc,λm hm=>hm⟩
 |.agg c,s::p,k,r,cs,zc,h=>by
  simp only[gD]at h
  exact Zg (a:=c) (show jO w g z6 c cs from zc) h
 |.pr a b,.fst::p,k,r,cs,zc,h=>by
  simp only[gD]at h;obtain⟨c1,c2,rfl,h1,h2⟩:=zc;obtain⟨a',off,hk,ho,hr,hi⟩:=Zg h1 h;have:=Sk.we ho;refine⟨a',off,hk,by simpa[z7.sk,Sk.off]using ho,?_,λm hm=>hi m (by simp[z7.ids]at hm;exact hm.1)⟩
  rw[yJ _ _ _ _ (by rw[h1.len];exact this)];exact hr
 |.pr a b,.snd::p,k,r,cs,zc,h=>by
  simp only[gD]at h;obtain⟨c1,c2,rfl,h1,h2⟩:=zc;obtain⟨a',off,hk,ho,hr,hi⟩:=Zg h2 h;refine⟨a',a.sk.size+off,hk,by simp[z7.sk,Sk.off,ho],?_,λm hm=>hi m (by simp[z7.ids]at hm;exact hm.2)⟩
  rw[yB _ _ _ _ _ h1.len.symm];exact hr
 |.data t d,s::p,k,r,cs,zc,h=>by
  have h':zR t d (s::p) (λu e=>k (.data u e))=some r:=by cases s<;>simpa[gD]using h
  obtain⟨u,e,off,hk,hu,ho,hr⟩:=QS zc.1 zc.2 h'
  exact⟨.data u e,off,hk,by simpa[z7.sk]using ho,⟨hu,by simpa[z7.sk,Ty.zX]using hr⟩,λm _=>by simp[z7.ids]⟩
 |.za,s::_,_,_,_,_,h=>by cases s<;>simp[gD]at h
 |.ref _ _ _,s::_,_,_,_,_,h=>by cases s<;>simp[gD]at h
 |.view _ _ _ _ _,s::_,_,_,_,_,h=>by cases s<;>simp[gD]at h
 |.zw _ _,s::_,_,_,_,_,h=>by cases s<;>simp[gD]at h
 |.jV _ _ _,s::_,_,_,_,_,h=>by cases s<;>simp[gD]at h
 |.qF _,s::_,_,_,_,_,h=>by cases s<;>simp[gD]at h
 |.nv _ _ _ _,s::_,_,_,_,_,h=>by cases s<;>simp[gD]at h
 |.qW _ _,s::_,_,_,_,_,h=>by cases s<;>simp[gD]at h
 |.jD _,s::_,_,_,_,_,h=>by cases s<;>simp[gD]at h
 |.un,s::_,_,_,_,_,h=>by cases s<;>simp[gD]at h
 |.pr _ _,.idx _::_,_,_,_,_,h=>by simp[gD]at h
theorem Y8{w:World}{g:z8}{z6:qQ}:{t:Ty}->{d:t.den}->{cs:List Value}->t.zW=true->zM w g none t d cs->
  (jy t d).sk=t.sk->jO w g z6 (jy t d) cs
 |.pair a b,(x,y),cs,ht,h,hs=>by
  obtain⟨c1,c2,rfl,h1,h2⟩:=h;simp only[Ty.zW,zA]at ht;simp only[jy,z7.sk,Ty.sk,Sk.pair.injEq,X3]at hs
  exact⟨c1,c2,rfl,⟨ht.1,h1⟩,Y8 ht.2 h2 hs⟩
 |.unit,_,cs,_,h,_=>h
 |.int _,_,_,_,_,hs=>by simp[jy,z7.sk,Ty.sk]at hs
 |.bool,_,_,_,_,hs=>by simp[jy,z7.sk,Ty.sk]at hs
 |.str,_,_,_,_,hs=>by simp[jy,z7.sk,Ty.sk]at hs
 |.arr _ _,_,_,_,_,hs=>by simp[jy,z7.sk,Ty.sk]at hs
 |.sl _ _,_,_,_,_,hs=>by simp[jy,z7.sk,Ty.sk]at hs
 |.ptr _,_,_,_,_,hs=>by simp[jy,z7.sk,Ty.sk]at hs
 |.fn _ _,_,_,_,_,hs=>by simp[jy,z7.sk,Ty.sk]at hs
 |.tree _,_,_,_,_,hs=>by simp[jy,z7.sk,Ty.sk]at hs
theorem Wt:(t:Ty)->(d:t.den)->(jy t d).ids=[]
 |.pair a b,(x,y)=>by simp[jy,z7.ids,Wt b y]
 |.int _,_=>by simp[jy,z7.ids]
 |.bool,_=>by simp[jy,z7.ids]
 |.str,_=>by simp[jy,z7.ids]
 |.unit,_=>by simp[jy,z7.ids]
 |.arr _ _,_=>by simp[jy,z7.ids]
 |.sl _ _,_=>by simp[jy,z7.ids]
 |.ptr _,_=>by simp[jy,z7.ids]
 |.fn _ _,_=>by simp[jy,z7.ids]
 |.tree _,_=>by simp[jy,z7.ids]
theorem K0(c1 c2 Dj:List Value)(h:Dj.length=c1.length):zB (c1++c2) 0 Dj=Dj++c2:=by
 simp only[zB,Z29,JD,Wq,h,List.drop_left]
theorem YQ{w:World}{g:z8}{z6:qQ}{new:z7}{Dj:List Value}(hn:jO w g z6 new Dj):
  {t:Ty}->{d:t.den}->{p:Path}->{k:z7->Option R}->{r:R}->{cs:List Value}->{off:Nat}->
  t.zW=true->zM w g none t d cs->t.sk.off p=some (off,new.sk)->qp new t d p k=some r->
  ∃u,k u=some r/\(∀m,m∉new.ids->m∉u.ids)/\(u.sk=t.sk->jO w g z6 u (zB cs off Dj))
 |.pair a b,(x,y),[.fst],k,r,cs,off,ht,h,ho,hk=>by
  obtain⟨c1,c2,rfl,h1,h2⟩:=h;simp only[Ty.zW,zA]at ht;simp only[Ty.sk,Sk.off,zI,p8]at ho;obtain⟨rfl,hs⟩:=ho;refine⟨_,hk,λm hm=>by simp[z7.ids,Wt,hm],λhe=>?_⟩;simp only[z7.sk,Ty.sk,Sk.pair.injEq]at he;rw[K0 _ _ _ (by rw[hn.len,h1.len,<-hs,Ty.zX])]
  exact⟨Dj,c2,rfl,hn,Y8 ht.2 h2 he.2⟩
 |.pair a b,(x,y),.fst::s::p,k,r,cs,off,ht,h,ho,hk=>by
  obtain⟨c1,c2,rfl,h1,h2⟩:=h;simp only[Ty.zW,zA]at ht;simp only[Ty.sk,Sk.off]at ho;simp only[qp]at hk;obtain⟨u,hu,hi,zc⟩:=YQ hn ht.1 h1 ho hk;refine⟨_,hu,λm hm=>by simp[z7.ids,Wt,hi m hm],λhe=>?_⟩;simp only[z7.sk,Ty.sk,Sk.pair.injEq]at he;have:=Sk.we ho;rw[Ty.zX]at this;rw[wE _ _ _ _ (by rw[h1.len,hn.len];exact this)]
  exact⟨_,c2,rfl,zc he.1,Y8 ht.2 h2 he.2⟩
 |.pair a b,(x,y),.snd::p,k,r,cs,off,ht,h,ho,hk=>by
  obtain⟨c1,c2,rfl,h1,h2⟩:=h;simp only[Ty.zW,zA]at ht;simp only[Ty.sk,Sk.off,kT,p8]at ho;obtain⟨⟨o,s⟩,ho,rfl,rfl⟩:=ho;have pg:qp new b y p (λu=>k (.pr (.data a x) u))=some r:=by simpa[qp]using hk
  obtain⟨u,hu,hi,zc⟩:=YQ hn ht.2 h2 ho pg;refine⟨_,hu,λm hm=>by simp[z7.ids,hi m hm],λhe=>?_⟩;simp only[z7.sk,Ty.sk,Sk.pair.injEq]at he;rw[w7 _ _ _ _ _ (by rw[h1.len,Ty.zX])]
  exact⟨c1,_,rfl,⟨ht.1,h1⟩,zc he.2⟩
 |.pair _ _,_,[],_,_,_,_,_,_,_,hk=>by simp[qp]at hk
 |.pair _ _,_,.idx _::_,_,_,_,_,_,_,_,hk=>by simp[qp]at hk
 |.int _,_,_,_,_,_,_,_,_,_,hk=>by simp[qp]at hk
 |.bool,_,_,_,_,_,_,_,_,_,hk=>by simp[qp]at hk
 |.str,_,_,_,_,_,_,_,_,_,hk=>by simp[qp]at hk
 |.unit,_,_,_,_,_,_,_,_,_,hk=>by simp[qp]at hk
 |.arr _ _,_,_,_,_,_,_,_,_,_,hk=>by simp[qp]at hk
 |.sl _ _,_,_,_,_,_,_,_,_,_,hk=>by simp[qp]at hk
 |.ptr _,_,_,_,_,_,_,_,_,_,hk=>by simp[qp]at hk
 |.fn _ _,_,_,_,_,_,_,_,_,_,hk=>by simp[qp]at hk
 |.tree _,_,_,_,_,_,_,_,_,_,hk=>by simp[qp]at hk
theorem JT{w:World}{g:z8}{z6:qQ}{new:z7}{Dj:List Value}(hn:jO w g z6 new Dj):
  {a:z7}->{p:Path}->{k:z7->Option R}->{r:R}->{cs:List Value}->{off:Nat}->
  jO w g z6 a cs->a.sk.off p=some (off,new.sk)->w6 new a p k=some r->
  ∃a',k a'=some r/\a'.sk=a.sk/\jO w g z6 a' (zB cs off Dj)/\∀m,m∉a.ids->m∉new.ids->m∉a'.ids
 |a,[],k,r,cs,off,zc,ho,h=>by
  have hk:k new=some r:=by cases a<;>simpa[w6]using h
  simp only[Sk.off,zI,p8]at ho;obtain⟨rfl,hs⟩:=ho;have:zB cs 0 Dj=Dj:=by
   simp only[zB,Z29,JD,Wq];rw[hn.len,<-hs,<-zc.len];simp
  exact⟨new,hk,hs.symm,by rw[this];exact hn,λm _ h=>h⟩
 |.agg c,s::p,k,r,cs,off,zc,ho,h=>by
  simp only[w6]at h;obtain⟨a',hk,hs,hr,hi⟩:=JT hn (a:=c) (show jO w g z6 c cs from zc) ho h
  exact⟨.agg a',hk,hs,hr,hi⟩
 |.pr a b,.fst::p,k,r,cs,off,zc,ho,h=>by
  simp only[w6]at h;obtain⟨c1,c2,rfl,h1,h2⟩:=zc;have Ka:a.sk.off p=some (off,new.sk):=by simpa[z7.sk,Sk.off]using ho
  obtain⟨a',hk,hs,hr,hi⟩:=JT hn h1 Ka h;have:=Sk.we Ka;refine⟨.pr a' b,hk,by simp[z7.sk,hs],?_,λm hm hn=>by simp[z7.ids]at hm⊢;exact⟨hi m hm.1 hn,hm.2⟩⟩;rw[wE _ _ _ _ (by rw[h1.len,hn.len];exact this)]
  exact⟨_,_,rfl,hr,h2⟩
 |.pr a b,.snd::p,k,r,cs,off,zc,ho,h=>by
  simp only[w6]at h;obtain⟨c1,c2,rfl,h1,h2⟩:=zc;simp only[z7.sk,Sk.off,kT,p8]at ho;obtain⟨⟨o,s⟩,ho,rfl,rfl⟩:=ho;obtain⟨a',hk,hs,hr,hi⟩:=JT hn h2 ho h;refine⟨.pr a a',hk,by simp[z7.sk,hs],?_,λm hm hn=>by simp[z7.ids]at hm⊢;exact⟨hm.1,hi m hm.2 hn⟩⟩;rw[w7 _ _ _ _ _ h1.len.symm]
  exact⟨_,_,rfl,h1,hr⟩
 |.data t d,s::p,k,r,cs,off,zc,ho,h=>by
  have h':cond (BS t (s::p) new) (PT new t d (s::p) k)
   (qp new t d (s::p) λu=>cond (u.sk.same t.sk) (k (.agg u)) none)=some r:=by cases s<;>simpa[w6]using h
  cases hf:BS t (s::p) new with
  |true=>
   rw[hf]at h'
   cases new with
   |data u e=>
    obtain⟨d',K8,hk,Ka,hr⟩:=Qu zc.1 zc.2 hn.2 h';simp only[z7.sk]at ho;rw[Ka]at ho;simp only[zI,p8]at ho;obtain⟨rfl,_⟩:=ho
    exact⟨_,hk,rfl,⟨zc.1,hr⟩,λm _ _=>by simp[z7.ids]⟩
   |_=>simp[PT]at h'
  |false=>
   rw[hf]at h';obtain⟨u,hu,hi,Uk⟩:=YQ hn zc.1 zc.2 (by simpa[z7.sk]using ho) h'
   cases hs:u.sk.same t.sk with
   |true=>
    rw[hs]at hu
    exact⟨.agg u,hu,Sk.qJ hs,Uk (Sk.qJ hs),λm _ hm=>hi m hm⟩
   |false=>rw[hs]at hu;simp at hu
 |.za,s::_,_,_,_,_,_,_,h=>by cases s<;>simp[w6]at h
 |.ref _ _ _,s::_,_,_,_,_,_,_,h=>by cases s<;>simp[w6]at h
 |.view _ _ _ _ _,s::_,_,_,_,_,_,_,h=>by cases s<;>simp[w6]at h
 |.zw _ _,s::_,_,_,_,_,_,_,h=>by cases s<;>simp[w6]at h
 |.jV _ _ _,s::_,_,_,_,_,_,_,h=>by cases s<;>simp[w6]at h
 |.qF _,s::_,_,_,_,_,_,_,h=>by cases s<;>simp[w6]at h
 |.nv _ _ _ _,s::_,_,_,_,_,_,_,h=>by cases s<;>simp[w6]at h
 |.qW _ _,s::_,_,_,_,_,_,_,h=>by cases s<;>simp[w6]at h
 |.jD _,s::_,_,_,_,_,_,_,h=>by cases s<;>simp[w6]at h
 |.un,s::_,_,_,_,_,_,_,h=>by cases s<;>simp[w6]at h
 |.pr _ _,.idx _::_,_,_,_,_,_,_,h=>by simp[w6]at h
end Go.Kz
namespace Go.Kz
def j7(w:World)(g:z8)(kt vt:Ty):List MapEntry->List (kt.den×vt.den)->Prop
 |[],[]=>True
 |e::es,(k,v)::m=>(∃cs,zM w g none kt k cs/\e.key=jl kt.sk.isAgg cs)/\(∃cs,zM w g none vt v cs/\e.val=jl vt.sk.isAgg cs)/\j7 w g kt vt es m
 |_,_=>False
theorem j7.kept{w w':World}{g g':z8}(hr:zS w g w' g'){kt vt:Ty}:{es:List MapEntry}->{m:List (kt.den×vt.den)}->j7 w g kt vt es m->j7 w' g' kt vt es m
 |[],[],_=>trivial
 |_::_,(_,_)::_,⟨⟨c1,h1,e1⟩,⟨c2,h2,e2⟩,h⟩=>⟨⟨c1,h1.kept hr,e1⟩,⟨c2,h2.kept hr,e2⟩,j7.kept hr h⟩
 |[],_::_,h=>h.elim
 |_::_,[],h=>h.elim
structure Rq (w:World) (g:z8) (w':World) (g':z8) (id:Nat) (p:Path) (b0:Nat):Prop where
 ro:zS w g w' g'
 sv:∀q,¬p <+: q->g'.sv id q=g.sv id q
 qY:∀q b,g.tag b=.row id q->¬p <+: q->g'.tag b=.row id q/\(b≠b0->w'.heap[b]? = w.heap[b]?)
def Hn(w:World)(g:z8)(id:Nat)(t:Ty)(l:List t.den)(p:Path):Prop:=
 (∃bk o cap,g.sv id []=.slice (some ⟨bk,o,none⟩) l.length cap)/\
 ∃v b0 off c e pre,F0 t p=some v/\place g id (.sl true t) [] 0 0 p=some (b0,off)/\g.tag b0=.row id pre/\pre.length<p.length/\w.heap[b0]? = some (.cells c e (0,0))/\off<c.size/\
  ∀(w':World)(g':z8)(l1:List v.den)(x:Value),Rq w g w' g' id p b0->w'.heap[b0]? = some (.cells (zB c.toList off [x]).toArray e (0,0))->zM w' g' (some (id,p)) (.sl true v) l1 [x]->
   ∀{R:Type}(f:List t.den->Option R)(r:R),yT (.sl true t) l p (.sl true v) l1 f=some r->∃l2,f l2=some r/\zM w' g' (some (id,[])) (.sl true t) l2 [g'.sv id []]
def TK(w:World)(g:z8)(id:Nat)(t:Ty)(l:List t.den)(d:Int):Prop:=
 (∃bk o cap,g.sv id []=.slice (some ⟨bk,o,none⟩) l.length cap)/\
 ∃b off c e cap,g.sv id []=.slice (some ⟨b,off,none⟩) l.length cap/\l.length<=cap/\cap<=maxLen/\g.tag b=.row id []/\w.heap[b]? = some (.cells c e (0,0))/\off+cap*t.size<=c.size/\
  ∀(i:Nat)(h:i<l.length),d<=i->zM w g (some (id,[.idx i])) t (l.get ⟨i,h⟩) (qi c.toList (off+i*t.size) t.size)
def zar(w:World)(g:z8)(z6:qQ)(id:Nat)(a:z7):Prop:=
 ∃(PC n bm:Nat)(seen:Array Nat)(cur:Int),a=xZ PC (n:Int) ((upto n).filter λi=>!seen.contains i.toNat) cur/\w.heap[g.qY id]? = some (.mapIter (some bm) n seen n)/\
  g.tag (g.qY id)=.box id/\(∀c:Nat,cur=(c:Int)->seen.back? = some c)/\∀kt vt m,z6 PC=some (.map kt vt m)->bm=g.qY PC
def zau(w:World)(g:z8)(z6:qQ)(id:Nat)(a:z7):Prop:=∃c e,w.heap[g.qY id]? = some (.cells c e (0,0))/\g.tag (g.qY id)=.ro/\jO w g z6 a c.toList
def zan(w:World)(g:z8)(z6:qQ)(id:Nat):z7->Prop
 |.jD (.agg x)=>zau w g z6 id (.agg x)
 |.jD (.qF i)=>zau w g z6 id (.qF i)
 |a=>zar w g z6 id a
def p9(es:List MapEntry):Prop:=es.map (·.born)=List.range es.length
def qz(w:World)(g:z8)(z6:qQ)(id:Nat):Obj->Prop
 |.row t l _=>t.zW=true/\zM w g (some (id,[])) (.sl true t) l [g.sv id []]
 |.cell a=>if a.kI then zan w g z6 id a else ∃c e,w.heap[g.qY id]? = some (.cells c e (0,0))/\g.tag (g.qY id)=.box id/\jO w g z6 a c.toList
 |.map kt vt m=>∃es clock,w.heap[g.qY id]? = some (.map es clock)/\g.tag (g.qY id)=.box id/\kt.zW=true/\vt.zW=true/\j7 w g kt vt es.toList m/\clock=es.size/\p9 es.toList
 |.nest t l _ _ none=>zM w g (some (id,[])) (.sl true t) l [g.sv id []]
 |.nest t l _ _ (some (.one p))=>Hn w g id t l p
 |.nest t l _ _ (some (.low d))=>TK w g id t l d
theorem qz.head{w:World}{g:z8}{z6:qQ}{id:Nat}{t:Ty}{l:List t.den}{e i:Nat}:{h:PB}->qz w g z6 id (.nest t l e i (some h))->∃bk o cap,g.sv id []=.slice (some ⟨bk,o,none⟩) l.length cap
 |.one _,h=>h.1
 |.low _,h=>h.1
theorem jO.zqg{w:World}{g:z8}{z6:qQ}:{a:z7}->{cs:List Value}->jO w g z6 a cs->a.kI=false
 |.jD _,_,h=>h.elim
 |.data _ _,_,_ |.za,_,_ |.ref _ _ _,_,_ |.view _ _ _ _ _,_,_ |.zw _ _,_,_ |.jV _ _ _,_,_ |.qF _,_,_ |.nv _ _ _ _,_,_ |.qW _ _,_,_ | .ZU _ _,_,_ |.agg _,_,_ |.pr _ _,_,_ |.un,_,_=>rfl
theorem qz.mk{w:World}{g:z8}{z6:qQ}{id:Nat}{a:z7}(h:∃c e,w.heap[g.qY id]? = some (.cells c e (0,0))/\g.tag (g.qY id)=.box id/\jO w g z6 a c.toList):qz w g z6 id (.cell a):=by
 obtain⟨c,e,h1,h2,h3⟩:=h;show(if a.kI=true then zan w g z6 id a else ∃c e,w.heap[g.qY id]? = some (.cells c e (0,0))/\g.tag (g.qY id)=.box id/\jO w g z6 a c.toList);rw[qP (by simp[h3.zqg])]
 grind
theorem qz.out{w:World}{g:z8}{z6:qQ}{id:Nat}{a:z7}(ht:a.kI=false)(h:qz w g z6 id (.cell a)):∃c e,w.heap[g.qY id]? = some (.cells c e (0,0))/\g.tag (g.qY id)=.box id/\jO w g z6 a c.toList:=by
 have h:(if a.kI=true then zan w g z6 id a else ∃c e,w.heap[g.qY id]? = some (.cells c e (0,0))/\g.tag (g.qY id)=.box id/\jO w g z6 a c.toList):=h
 grind
theorem qz.iter{w:World}{g:z8}{z6:qQ}{id:Nat}{a:z7}(ht:a.kI=true)(hc:a.kp=false:=by rfl):qz w g z6 id (.cell a)↔zar w g z6 id a:=by
 cases a with
 |jD c=>cases c<;>first|exact Iff.rfl|grind[z7.kp]
 |_=>grind[z7.kI]
theorem qz.W7{w:World}{g:z8}{z6:qQ}{id:Nat}{c:z7}(hc:(z7.jD c).kp=true:=by rfl):qz w g z6 id (.cell (.jD c))↔zau w g z6 id c:=by
 cases c<;>first|exact Iff.rfl|grind[z7.kp]
theorem BV{a:z7}(h:a.kp=true):∃c,a=.jD c:=by
 cases a with
 |jD c=>grind
 |_=>simp[z7.kp]at h
theorem LV{a:z7}(h:(z7.jD a).kp=true):a.kI=false:=by
 cases a<;>first|rfl|simp[z7.kp]at h
theorem Z5{R:Type}{a:z7}{x:Option R}{r:R}(h:cond a.kI none x=some r):a.kI=false/\x=some r:=by
 grind
structure yH (w:World) (g:z8) (z6:qQ):Prop where
 z6:∀id o,z6 id=some o->qz w g z6 id o
 tags:∀b,g.tag b≠.qw->b<w.heap.size
def Known(w:World)(g:z8):Prop:=∀b e,tab b=some e->e.t.zW=true/\zM w g none (.ptr (.arr e.n e.t)) e.l [.pointer (some ⟨b,0,none⟩)]/\∃c ty fz,w.heap[b]? = some (.cells c ty fz)/\c.size=e.n*e.t.size
theorem Known.kept{w w':World}{g g':z8}(hr:zS w g w' g')(h:Known w g):Known w' g':=λb e he=>by
 obtain⟨h1,h2,c,ty,fz,h3,h4⟩:=h b e he;refine⟨h1,h2.kept hr,c,ty,fz,?_,h4⟩;obtain⟨b',off,c',e',fz',hp,ht,_⟩:=h2;simp only[CA,Value.pointer.injEq,zI,Addr.mk.injEq,Dx]at hp;rw[(hr.qY b (by grind)).2,h3]
structure zP (n:Nat) (g:z8) (w:World) (a:Act) (σ:St):Prop where
 zy:∀i av,σ.zy i=some av->∃v,a.tmps[i]? = some v/\qy w g σ.z6 av v
 heap:yH w g σ.z6
 size:a.tmps.size=n
 defers:a.defers=[]
 known:Known w g
structure zu (g:z8) (σ:St) (m:Nat):Prop where
 z6:σ.z6 m=none
 row:∀b p,g.tag b≠.row m p
 box:∀b,g.tag b≠.box m
 zy:∀i av,σ.zy i=some av->m∉av.ids
 cells:∀id av,σ.z6 id=some (.cell av)->m∉av.ids
structure Ext (w:World) (g:z8) (w':World) (g':z8):Prop where
 os:w'.os=w.os
 tape:w'.tape=w.tape
 output:w'.output=w.output
 drawn:w.drawn<=w'.drawn
 size:w.heap.size<=w'.heap.size
 vV:∀b,b<w.heap.size->(g.tag b=.qw\/g.tag b=.ro)->w'.heap[b]? = w.heap[b]?/\g'.tag b=g.tag b
theorem Ext.refl(w:World)(g:z8):Ext w g w g:=⟨rfl,rfl,rfl,jq _,jq _,λ_ _ _=>⟨rfl,rfl⟩⟩
theorem Ext.trans{w w' w'':World}{g g' g'':z8}(h:Ext w g w' g')(k:Ext w' g' w'' g''):Ext w g w'' g'':=by
 refine⟨k.os.trans h.os,k.tape.trans h.tape,k.output.trans h.output,Z1o h.drawn k.drawn,Z1o h.size k.size,λb hb ht=>?_⟩;obtain⟨h1,h2⟩:=h.vV b hb ht;obtain⟨k1,k2⟩:=k.vV b (Z3w hb h.size) (by grind)
 grind
theorem Ext.ro{w w':World}{g g':z8}(h:Ext w g w' g')(ht:∀b,g.tag b≠.qw->b<w.heap.size):zS w g w' g':=
 ⟨λb hb=>let k:=h.vV b (ht b (by grind)) (.inr hb);⟨k.2.trans hb,k.1⟩⟩
def qu(g g':z8)(id:Nat)(o o':Option Obj):Prop:=
 o'=none\/
 (∃t l l' e e',o=some (.row t l e)/\o'=some (.row t l' e')/\(e<e'\/(e'=e/\l'.length=l.length/\∀p,g'.sv id p=g.sv id p)))\/
 (∃a a',o=some (.cell a)/\o'=some (.cell a')/\a'.sk=a.sk/\g'.qY id=g.qY id)\/
 (∃kt vt m m',o=some (.map kt vt m)/\o'=some (.map kt vt m')/\g'.qY id=g.qY id)\/
 (∃t l l' e e' i i' h h',o=some (.nest t l e i h)/\o'=some (.nest t l' e' i' h')/\e<=e'/\i<=i'/\(e=e'->g'.sv id []=g.sv id [])/\(i=i'->∀p,g'.sv id p=g.sv id p))
theorem vY{g g':z8}{id:Nat}(h:∀p,g'.sv id p=g.sv id p):{t:Ty}->{pre:Path}->{b off:Nat}->{p:Path}->
  place g' id t pre b off p=place g id t pre b off p
 |_,_,_,_,[]=>by simp[place]
 |.pair a c,pre,b,off,.fst::p=>by simp only[place];exact vY h
 |.pair a c,pre,b,off,.snd::p=>by simp only[place];exact vY h
 |.arr n t,pre,b,off,.idx i::p=>by simp only[place];exact vY h
 |.sl true t,pre,b,off,.idx i::p=>by
  simp only[place,h];split
  ·exact vY h
  ·rfl
 |.sl false t,_,_,_,s::_=>by grind[place]
 |.sl true t,_,_,_,.fst::_=>by simp[place]
 |.sl true t,_,_,_,.snd::_=>by simp[place]
 |.int _,_,_,_,s::_=>by grind[place]
 |.bool,_,_,_,s::_=>by grind[place]
 |.str,_,_,_,s::_=>by grind[place]
 |.unit,_,_,_,s::_=>by grind[place]
 |.ptr _,_,_,_,s::_=>by grind[place]
 |.fn _ _,_,_,_,s::_=>by grind[place]
 |.tree _,_,_,_,s::_=>by grind[place]
 |.pair _ _,_,_,_,.idx _::_=>by simp[place]
 |.arr _ _,_,_,_,.fst::_=>by simp[place]
 |.arr _ _,_,_,_,.snd::_=>by simp[place]
theorem jO.frame{w w':World}{g g':z8}{z6 kq:qQ}(hr:zS w g w' g'):{a:z7}->{cs:List Value}->
  (∀id,id∈a.ids->qu g g' id (z6 id) (kq id))->jO w g z6 a cs->jO w' g' kq a cs
 |.data t d,_,_,h=>⟨h.1,h.2.kept hr⟩
 |.za,_,_,h=>h
 |.ref id p ep,_,hi,⟨v,hv,qN,h⟩=>by
  refine⟨v,hv,qN,λt l e ho=>?_⟩;rcases hi id (by simp[z7.ids]) with hk|⟨t0,l0,l1,e0,e1,h0,h1,hk⟩|⟨a,a',h0,h1,_⟩|⟨Xv,X8,m0,m1,h0,h1,N5⟩|⟨t0,l0,l1,e0,e1,i0,i1,h0',Lf,h0,h1,hk⟩
  all_goals grind
 |.view id p ep a b,_,hi,⟨v,hv,qN,h⟩=>by
  refine⟨v,hv,qN,λt l e ho=>?_⟩;rcases hi id (by simp[z7.ids]) with hk|⟨t0,l0,l1,e0,e1,h0,h1,hk⟩|⟨a,a',h0,h1,_⟩|⟨Xv,X8,m0,m1,h0,h1,N5⟩|⟨t0,l0,l1,e0,e1,i0,i1,h0',Lf,h0,h1,hk⟩
  all_goals grind
 |.zw id p,_,hi,⟨v,hv,qN,h⟩=>by
  refine⟨v,hv,qN,λa ho=>?_⟩;rcases hi id (by simp[z7.ids]) with hk|⟨t0,l0,l1,e0,e1,h0,h1,hk⟩|⟨a0,a1,h0,h1,hs,hb⟩|⟨Xv,X8,m0,m1,h0,h1,N5⟩|⟨t0,l0,l1,e0,e1,i0,i1,h0',Lf,h0,h1,hk⟩
  all_goals grind
 |.jV id p ep,_,hi,⟨v,hv,qN,h⟩=>by
  refine⟨v,hv,qN,λt l e ho=>?_⟩;rcases hi id (by simp[z7.ids]) with hk|⟨t0,l0,l1,e0,e1,h0,h1,hk⟩|⟨a,a',h0,h1,_⟩|⟨Xv,X8,m0,m1,h0,h1,N5⟩|⟨t0,l0,l1,e0,e1,i0,i1,h0',Lf,h0,h1,hk⟩
  all_goals grind[vY]
 |.qF id,_,hi,⟨v,hv,qN,h⟩=>by
  refine⟨v,hv,qN,λkt vt m ho=>?_⟩;rcases hi id (by simp[z7.ids]) with hk|⟨t0,l0,l1,e0,e1,h0,h1,hk⟩|⟨a,a',h0,h1,_⟩|⟨Xv,X8,m0,m1,h0,h1,N5⟩|⟨t0,l0,l1,e0,e1,i0,i1,h0',Lf,h0,h1,hk⟩
  all_goals grind
 |.nv pt id p ep,_,hi,⟨v,hv,qN,h⟩=>by
  refine⟨v,hv,qN,λt l e i h' ho=>?_⟩;rcases hi id (by simp[z7.ids]) with hk|⟨t0,l0,l1,e0,e1,h0,h1,hk⟩|⟨a,a',h0,h1,_⟩|⟨Xv,X8,m0,m1,h0,h1,N5⟩|⟨t0,l0,l1,e0,e1,i0,i1,h0',Lf,h0,h1,he,hi,hse,hsi⟩
  ·grind
  ·grind
  ·grind
  ·grind
  ·rw[h1]at ho;simp only[zI,Obj.nest.injEq]at ho;obtain⟨rfl,_,rfl,rfl,_⟩:=ho;obtain⟨hle,hx⟩:=h _ _ _ _ _ h0;have zsn:Hr pt p e0 i0<=Hr pt p e1 i1:=by
    unfold Hr;grind
   refine⟨Z1o hle zsn,λheq=>?_⟩;have q27:Hr pt p e0 i0=ep:=by omega
   obtain⟨hx1,hx2⟩:=hx q27;refine⟨λhp=>?_,λhp=>?_⟩
   ·subst hp;rw[hx1 rfl]
    cases p with
    |nil=>
     grind[Hr]
    |cons s q=>
     grind[Hr]
   grind[Hr,vY]
 |.qW f c,_,hi,⟨vs,hv,h⟩=>⟨vs,hv,jO.frame hr (a:=c) (λid h=>hi id h) h⟩
 | .ZU t c,_,hi,⟨x,Dv,hv,h,hx⟩=>⟨x,Dv,hv,jO.frame hr (a:=c) (λid h=>hi id h) h,hx⟩
 |.agg c,_,hi,h=>jO.frame hr (a:=c) (λid h=>hi id h) h
 |.jD _,_,_,h=>h.elim
 |.pr a b,_,hi,⟨c1,c2,hc,h1,h2⟩=>
  ⟨c1,c2,hc,jO.frame hr (λid h=>hi id (by simp[z7.ids,h])) h1,jO.frame hr (λid h=>hi id (by simp[z7.ids,h])) h2⟩
 |.un,_,_,h=>h
theorem y8{w:World}{g:z8}{z6:qQ}{a:z7}{v:Value}{cs:List Value}(h:jO w g z6 a cs)(hv:v=jl a.isAgg cs)
  (h1:∀x y,a≠.pr x y) (h2:a≠.un):qy w g z6 a v:=by
 cases a with
 |jD c=>exact h.elim
 |pr x y=>grind
 |un=>grind
 |_=>exact⟨cs,h,hv⟩
theorem gq{w:World}{g:z8}{z6:qQ}{a:z7}{v:Value}(h:qy w g z6 a v)(ht:∀c,a≠.jD c):
  ∃cs,jO w g z6 a cs/\v=jl a.isAgg cs:=by
 cases a with
 |jD c=>grind
 |pr x y=>exact h.elim
 |un=>exact h.elim
 |_=>exact h
mutual
theorem qy.frame{w w':World}{g g':z8}{z6 kq:qQ}(hr:zS w g w' g'):{a:z7}->{v:Value}->
  (∀id,id∈a.ids->qu g g' id (z6 id) (kq id))->qy w g z6 a v->qy w' g' kq a v
 |.jD c,_,hi,h=>by
  simp only[qy]at h⊢;obtain⟨vs,hv,h⟩:=h
  exact⟨vs,hv,qj.frame hr (a:=c) (λid h=>hi id (by grind[z7.ids])) h⟩
 |.pr _ _,_,_,h=>by grind[qy]
 |.un,_,_,h=>by grind[qy]
 |.data t d,_,hi,h=>by grind[qy,jO.frame]
 |.za,_,hi,h=>by grind[qy,jO.frame]
 |.ref _ _ _,_,hi,h=>by grind[qy,jO.frame]
 |.view _ _ _ _ _,_,hi,h=>by grind[qy,jO.frame]
 |.zw _ _,_,hi,h=>by grind[qy,jO.frame]
 |.jV _ _ _,_,hi,h=>by grind[qy,jO.frame]
 |.qF _,_,hi,h=>by grind[qy,jO.frame]
 |.nv _ _ _ _,_,hi,h=>by grind[qy,jO.frame]
 |.qW _ _,_,hi,h=>by grind[qy,jO.frame]
 | .ZU _ _,_,hi,h=>by grind[qy,jO.frame]
 |.agg _,_,hi,h=>by grind[qy,jO.frame]
theorem qj.frame{w w':World}{g g':z8}{z6 kq:qQ}(hr:zS w g w' g'):{a:z7}->{vs:List Value}->
  (∀id,id∈a.ids->qu g g' id (z6 id) (kq id))->qj w g z6 a vs->qj w' g' kq a vs
 |.pr a b,_,hi,h=>by
  simp only[qj]at h⊢;obtain⟨v,r,hv,h1,h2⟩:=h
  exact⟨v,r,hv,qy.frame hr (λid h=>hi id (by simp[z7.ids,h])) h1,qj.frame hr (λid h=>hi id (by simp[z7.ids,h])) h2⟩
 |.un,_,_,h=>by grind[qj]
 |.jD _,_,_,h=>by grind[qj]
 |.data _ _,_,_,h=>by grind[qj]
 |.za,_,_,h=>by grind[qj]
 |.ref _ _ _,_,_,h=>by grind[qj]
 |.view _ _ _ _ _,_,_,h=>by grind[qj]
 |.zw _ _,_,_,h=>by grind[qj]
 |.jV _ _ _,_,_,h=>by grind[qj]
 |.qF _,_,_,h=>by grind[qj]
 |.nv _ _ _ _,_,_,h=>by grind[qj]
 |.qW _ _,_,_,h=>by grind[qj]
 | .ZU _ _,_,_,h=>by grind[qj]
 |.agg _,_,_,h=>by grind[qj]
end
structure Qr (w:World) (g:z8) (w':World) (g':z8) (id:Nat):Prop where
 row:Zi w g w' g' id [] id []
 qY:g'.qY id=g.qY id
 box:g.tag (g.qY id)=.box id->g'.tag (g.qY id)=.box id/\w'.heap[g.qY id]? = w.heap[g.qY id]?
theorem qz.frame{w w':World}{g g':z8}{z6 kq:qQ}(hr:zS w g w' g'){id:Nat}{o:Obj}(hs:Qr w g w' g' id)
  (hi:∀a,o=.cell a->∀id,id∈a.ids->qu g g' id (z6 id) (kq id)) (h:qz w g z6 id o):qz w' g' kq id o:=by
 cases o with
 |row t l e=>
  refine⟨h.1,?_⟩;have:=hs.row.sv [];simp only[Hc]at this;rw[this]
  exact zM.move hr (o:=some (id,[])) (o':=some (id,[])) hs.row h.2
 |cell a=>
  cases JZ:a.kI with
  |true=>
   cases uc:a.kp with
   |true=>
    obtain⟨x,rfl⟩:=BV uc;obtain⟨c,e,hc,ht,zc⟩:=(qz.W7 uc).1 h;obtain⟨h1,h2⟩:=hr.qY _ ht
    exact(qz.W7 uc).2 ⟨c,e,by rw[hs.qY,h2];exact hc,by rw[hs.qY];exact h1,jO.frame hr (λi wu=>hi _ rfl i wu) zc⟩
   |false=>
   refine(qz.iter JZ uc).2 ?_;obtain⟨PC,n,bm,seen,last,ha,hc,ht,hn,hb⟩:=(qz.iter JZ uc).1 h;obtain⟨h1,h2⟩:=hs.box ht;refine⟨PC,n,bm,seen,last,ha,by rw[hs.qY,h2];exact hc,by rw[hs.qY];exact h1,hn,λkt vt m ho=>?_⟩;rcases hi a rfl PC (by grind[xZ,z7.ids]) with hk|⟨_,_,_,_,_,_,hk,_⟩|⟨_,_,_,hk,_⟩|⟨Xv,X8,m0,m1,h0,h1,N5⟩|⟨_,_,_,_,_,_,_,_,_,_,hk,_⟩
   all_goals grind
  |false=>
   obtain⟨c,e,hc,ht,zc⟩:=h.out JZ;obtain⟨h1,h2⟩:=hs.box ht;refine qz.mk ⟨c,e,?_,?_,jO.frame hr (hi a rfl) zc⟩
   ·rw[hs.qY,h2];exact hc
   ·rw[hs.qY];exact h1
 |map kt vt m=>
  obtain⟨es,ck,hc,ht,h1,h2,hm,h3⟩:=h;obtain⟨k1,k2⟩:=hs.box ht
  exact⟨es,ck,by rw[hs.qY,k2];exact hc,by rw[hs.qY];exact k1,h1,h2,hm.kept hr,h3⟩
 |nest t l e i hole=>
  have yU:∀q,g'.sv id q=g.sv id q:=λq=>by have:=hs.row.sv q;grind
  have hblk:∀q b,g.tag b=.row id q->g'.tag b=.row id q/\w'.heap[b]? = w.heap[b]? := λq b hb=>by have:=hs.row.qY q b (by grind);grind
  cases hole with
  |none=>
   have h':zM w g (some (id,[])) (.sl true t) l [g.sv id []]:=h;show zM w' g' (some (id,[])) (.sl true t) l [g'.sv id []];rw[yU]
   exact zM.move hr (o:=some (id,[])) (o':=some (id,[])) hs.row h'
  |some hole=>cases hole with
  |low d=>
   obtain⟨⟨bk,o0,OS,zei⟩,b,off,c,e,cap,h1,h2,h3,h4,h5,h6,h7⟩:=h;obtain⟨k1,k2⟩:=hblk _ _ h4
   exact⟨⟨bk,o0,OS,by grind⟩,b,off,c,e,cap,by grind,h2,h3,k1,by grind,h6,λi hi hd=>zM.move hr (o:=some (id,[.idx i])) (o':=some (id,[.idx i])) (hs.row.step (.idx i)) (h7 i hi hd)⟩
  |one p=>
   obtain⟨⟨bk,o0,OS,zei⟩,v,b0,off,c,ee,pre,wM,gX,ze,xN,zZ,jH,hw⟩:=h;obtain⟨k1,k2⟩:=hblk _ _ ze;refine⟨⟨bk,o0,OS,by grind⟩,v,b0,off,c,ee,pre,wM,by grind[vY],k1,xN,by grind,jH,λw2 g2 l1 x hn WY zN R f r wm=>?_⟩;refine hw w2 g2 l1 x ⟨⟨λb hb=>?_⟩,λq hq=>(hn.sv q hq).trans (yU q),λq b hb hq=>?_⟩ WY zN f r wm
   ·obtain⟨j1,j2⟩:=hr.qY b hb;obtain⟨m1,m2⟩:=hn.ro.qY b j1
    grind
   ·obtain⟨j1,j2⟩:=hblk q b hb;obtain⟨m1,m2⟩:=hn.qY q b j1 hq
    grind
theorem qu.refl(g:z8)(id:Nat)(o:Option Obj):qu g g id o o:=by
 cases o with
 |none=>exact .inl rfl
 |some o=>cases o with
  |row t l e=>exact .inr (.inl ⟨t,l,l,e,e,rfl,rfl,.inr ⟨rfl,rfl,λ_=>rfl⟩⟩)
  |cell a=>exact .inr (.inr (.inl ⟨a,a,rfl,rfl,rfl,rfl⟩))
  |map k v m=>exact .inr (.inr (.inr (.inl ⟨k,v,m,m,rfl,rfl,rfl⟩)))
  |nest t l e i h=>exact .inr (.inr (.inr (.inr ⟨t,l,l,e,e,i,i,h,h,rfl,rfl,jq _,jq _,λ_=>rfl,λ_ _=>rfl⟩)))
theorem qu.same{w w':World}{g g':z8}{id:Nat}{o:Option Obj}(hs:Qr w g w' g' id):qu g g' id o o:=by
 cases o with
 |none=>exact .inl rfl
 |some o=>cases o with
  |row t l e=>exact .inr (.inl ⟨t,l,l,e,e,rfl,rfl,.inr ⟨rfl,rfl,λp=>by have:=hs.row.sv p;grind⟩⟩)
  |cell a=>exact .inr (.inr (.inl ⟨a,a,rfl,rfl,rfl,hs.qY⟩))
  |map k v m=>exact .inr (.inr (.inr (.inl ⟨k,v,m,m,rfl,rfl,hs.qY⟩)))
  |nest t l e i h=>exact .inr (.inr (.inr (.inr ⟨t,l,l,e,e,i,i,h,h,rfl,rfl,jq _,jq _,λ_=>by have:=hs.row.sv [];grind,λ_ p=>by have:=hs.row.sv p;grind⟩)))
theorem VT{a:Act}{d:Option Nat}{v:Value}{i:Nat}:(a.put d v).tmps[i]? = if d=some i/\i<a.tmps.size then some v else a.tmps[i]? := by
 cases d with
 |none=>simp[Act.put]
 |some j=>
  grind[Act.put]
theorem IF{a:Act}{d:Option Nat}{v:Value}:(a.put d v).tmps.size=a.tmps.size:=by cases d<;>simp[Act.put]
theorem put_defers{a:Act}{d:Option Nat}{v:Value}:(a.put d v).defers=a.defers:=by cases d<;>simp[Act.put]
theorem z9h{a:Act}{t:Nat}{v:Value}(h:a.tmps[t]? = some v):a.eval (.tmp t)=v:=by
 simp_all[Act.eval]
end Go.Kz
namespace Go.Kz
variable {R:Type}
def vq(w w':World):Prop:=∀b,b<w.heap.size->w'.heap[b]? = w.heap[b]?
theorem vq.refl(w:World):vq w w:=λ_ _=>rfl
def Mi(o:Oper)(w w':World):Prop:=isP o=false->vq w w'
theorem Mi.refl(o:Oper)(w:World):Mi o w w:=λ_=>vq.refl w
def vz(n:Nat)(k:St->Option R)(r:R)(g:z8)(w:World)(σ:St)(base:Nat)(mo:Bool)(K:Act->World->Prop):Prop:=
 ∀σ' g' a' w',k σ'=some r->zP n g' w' a' σ'->Ext w g w' g'->(∀m,(m<base\/base+8<=m)->zu g σ m->zu g' σ' m)->σ'.next=σ.next->(mo=false->vq w w')->K a' w'
theorem zP.put{n:Nat}{g:z8}{w:World}{a:Act}{σ:St}(h:zP n g w a σ){d:Nat}(hd:d<n){av:z7}{v:Value}(hv:qy w g σ.z6 av v):
  zP n g w (a.put (some d) v) (σ.set d av):=by
 refine⟨λi x hx=>?_,h.heap,by rw[IF];exact h.size,by rw[put_defers];exact h.defers,h.known⟩;simp only[St.set,Y4]at hx;rw[VT];by_cases hi:i=d
 ·subst hi;have:Nat.beq i i=true:=R4 i;rw[this]at hx;simp only[zJ,zI]at hx;subst hx;exact⟨v,by rw[qn ⟨rfl,by rw[h.size];exact hd⟩],hv⟩
 ·have:Nat.beq i d=false:=by
   cases hb:Nat.beq i d with
   |true=>exact absurd (zE hb) hi
   |false=>rfl
  rw[this]at hx;simp only[zU]at hx;obtain⟨u,hu,zc⟩:=h.zy i x hx;exact⟨u,by rw[qP (by intro hh;simp at hh;exact hi hh.1.symm)];exact hu,zc⟩
theorem zP.zki{n:Nat}{g:z8}{w:World}{a:Act}{σ:St}(h:zP n g w a σ)(d:Option Nat)(v:Value):zP n g w (a.put d v) (σ.gj d):=by
 cases d with
 |none=>exact h
 |some d=>
  refine⟨λi x hx=>?_,h.heap,by rw[IF];exact h.size,by rw[put_defers];exact h.defers,h.known⟩;simp only[St.gj,Y4]at hx;rw[VT]
  cases hb:Nat.beq i d with
  |true=>rw[hb]at hx;simp at hx
  |false=>
   rw[hb]at hx;simp only[zU]at hx;obtain⟨u,hu,zc⟩:=h.zy i x hx;refine⟨u,?_,zc⟩;rw[qP (by intro hh;simp at hh;rw[hh.1]at hb;rw[R4]at hb;simp at hb)];exact hu
theorem zu.set{g:z8}{σ:St}{m:Nat}(h:zu g σ m)(d:Nat){av:z7}(hv:m∉av.ids):zu g (σ.set d av) m:=by
 refine⟨h.z6,h.row,h.box,λi x hx=>?_,h.cells⟩;simp only[St.set,Y4]at hx
 cases hb:Nat.beq i d with
 |true=>rw[hb]at hx;simp at hx;subst hx;exact hv
 |false=>rw[hb]at hx;exact h.zy i x hx
theorem zu.gj{g:z8}{σ:St}{m:Nat}(h:zu g σ m)(d:Option Nat):zu g (σ.gj d) m:=by
 cases d with
 |none=>exact h
 |some d=>
  refine⟨h.z6,h.row,h.box,λi x hx=>?_,h.cells⟩;simp only[St.gj,Y4]at hx
  cases hb:Nat.beq i d with
  |true=>rw[hb]at hx;simp at hx
  |false=>rw[hb]at hx;exact h.zy i x hx
theorem uw{c:Ctx}{σ:St}{d:Option Nat}{av:z7}{k:St->Option R}{r:R}(h:σ.qM c d av k=some r):
  (d=none/\k σ=some r)\/∃i,d=some i/\i<c.ntmps/\k (σ.set i av)=some r:=by
 cases d with
 |none=>exact .inl ⟨rfl,h⟩
 |some i=>
  simp only[St.qM]at h
  cases hb:Nat.blt i c.ntmps with
  |false=>rw[hb]at h;simp at h
  |true=>
   rw[hb]at h;refine .inr ⟨i,rfl,?_,h⟩;have:=zL hb;omega
structure vH (P:Program) (o:Oper) (a:Act) (w:World) (g:z8) (σ:St) (c:Ctx) (k:St->Option R) (r:R):Prop where
 out:∃av v,(∀w',Mi o w w'->(execOp a.eval o).run P w'=.ok (.value v) w')/\qy w g σ.z6 av v/\(∀m,zu g σ m->m∉av.ids)/\σ.qM c o.dst av k=some r
theorem Qy{P:Program}{o:Oper}{a:Act}{w:World}{c:Ctx}{σ:St}{g:z8}{k:St->Option R}{r:R}{av:z7}{v:Value}
  (zn:∀w',Mi o w w'->(execOp a.eval o).run P w'=.ok (.value v) w') (hv:qy w g σ.z6 av v) (gA:∀m,zu g σ m->m∉av.ids) (h:σ.qM c o.dst av k=some r):vH P o a w g σ c k r:=
 ⟨av,v,zn,hv,gA,h⟩
theorem wp_pure{P:Program}{o:Oper}{a:Act}{w:World}{K:Act->World->Prop}{Q:Exit->Act->World->Prop}{c:Ctx}{σ:St}{g:z8}{k:St->Option R}{r:R}{base:Nat}{mo:Bool}
  {av:z7}{v:Value} (zq:zP c.ntmps g w a σ) (zn:(execOp a.eval o).run P w=.ok (.value v) w)
  (hv:qy w g σ.z6 av v) (gA:∀m,zu g σ m->m∉av.ids) (h:σ.qM c o.dst av k=some r) (hK:vz c.ntmps k r g w σ base mo K):o.wp P a w K Q:=by
 unfold Oper.wp;rw[zn,Oper.upon_value];rcases uw h with⟨hd,hk⟩|⟨i,hd,hi,hk⟩
 ·rw[hd];exact hK σ g a w hk zq (Ext.refl _ _) (λm _ hm=>hm) rfl (λ_=>vq.refl w)
 ·rw[hd];exact hK _ g _ w hk (zq.put hi hv) (Ext.refl _ _) (λm _ hm=>hm.set i (gA m hm)) rfl (λ_=>vq.refl w)
theorem vH.wp{P:Program}{o:Oper}{a:Act}{w:World}{K:Act->World->Prop}{Q:Exit->Act->World->Prop}{c:Ctx}{σ:St}{g:z8}{k:St->Option R}{r:R}{base:Nat}{mo:Bool}
  (hy:vH P o a w g σ c k r) (zq:zP c.ntmps g w a σ) (hK:vz c.ntmps k r g w σ base mo K):o.wp P a w K Q:=by
 obtain⟨av,v,h1,h2,h3,h4⟩:=hy.out;exact wp_pure zq (h1 w (Mi.refl o w)) h2 h3 h4 hK
theorem jo{w:World}{g:z8}{z6:qQ}{k:IntKind}{n:Int}{v:Value}(h:qy w g z6 (.data (.int k) n) v):v=.int k n/\k.min<=n/\n<=k.max:=by
 simp only[qy]at h;obtain⟨cs,⟨_,hc,h1,h2⟩,hv⟩:=h;subst hc;exact⟨hv,h1,h2⟩
theorem vB{w:World}{g:z8}{z6:qQ}{k:IntKind}{n:Int}(h:k.min<=n/\n<=k.max):qy w g z6 (.data (.int k) n) (.int k n):=by
 simp only[qy];exact⟨[.int k n],⟨rfl,rfl,h⟩,rfl⟩
theorem ZW{w:World}{g:z8}{z6:qQ}{b:Bool}{v:Value}(h:qy w g z6 (.data .bool b) v):v=.bool b:=by
 simp only[qy]at h;obtain⟨cs,⟨_,hc⟩,hv⟩:=h;cases hc;exact hv
theorem wC{w:World}{g:z8}{z6:qQ}(b:Bool):qy w g z6 (.data .bool b) (.bool b):=by
 simp only[qy];exact⟨[.bool b],⟨rfl,rfl⟩,rfl⟩
theorem PU{w:World}{g:z8}{z6:qQ}{l:List UInt8}{v:Value}(h:qy w g z6 (.data .str l) v):∃s:ByteArray,v=.string s/\s.data.toList=l/\s.size<=maxLen:=by
 simp only[qy]at h;obtain⟨cs,⟨_,s,rfl,h1,h2⟩,hv⟩:=h;exact⟨s,hv,h1,h2⟩
theorem KN{w:World}{g:z8}{z6:qQ}{l:List UInt8}{s:ByteArray}(h1:s.data.toList=l)(h2:s.size<=maxLen):qy w g z6 (.data .str l) (.string s):=by
 simp only[qy];exact⟨[.string s],⟨rfl,s,rfl,h1,h2⟩,rfl⟩
theorem Jq{w:World}{g:z8}{z6:qQ}{v:Value}:qy w g z6 .za v↔v=.slice none 0 0:=by
 simp only[qy];exact⟨λ⟨cs,h,hv⟩=>by cases h;exact hv,λh=>⟨_,rfl,h⟩⟩
theorem wz(k:IntKind)(n:Int):k.min<=k.wrap n/\k.wrap n<=k.max:=by
 cases k<;>simp only[IntKind.wrap,IntKind.min,IntKind.max,IntKind.bits,IntKind.signed]<;>simp<;>(try split)<;>omega
theorem qH{n:Nat}{g:z8}{w:World}{a:Act}{σ:St}(zq:zP n g w a σ){x:Operand}{av:z7}(h:ev σ x=some av):
  qy w g σ.z6 av (a.eval x)/\∀m,zu g σ m->m∉av.ids:=by
 cases x with
 |tmp t=>
  obtain⟨v,hv,zc⟩:=zq.zy t av h;rw[z9h hv]
  exact⟨zc,λm hm=>hm.zy t av h⟩
 |const v=>
  cases v with
  |int k i=>
   simp only[ev]at h
   cases hb:(decide (k.min<=i)&&decide (i<=k.max)) with
   |false=>rw[hb]at h;simp at h
   |true=>
    rw[hb]at h;simp only[zJ,zI]at h;subst h;simp at hb
    exact⟨vB hb,λm _=>by simp[z7.ids]⟩
  |bool b=>
   simp only[ev,zI]at h;subst h
   exact⟨wC b,λm _=>by simp[z7.ids]⟩
  |string s=>
   simp only[ev]at h
   cases hb:Nat.ble s.size 100000 with
   |false=>rw[hb]at h;simp at h
   |true=>
    rw[hb]at h;simp only[zJ,zI]at h;subst h;refine⟨?_,λm _=>by simp[z7.ids]⟩;have:=zL hb;simp only[qy]
    exact⟨[.string s],⟨rfl,s,rfl,rfl,by unfold maxLen;omega⟩,rfl⟩
  |slice b l cp=>
   cases b with
   |some _=>simp[ev]at h
   |none=>
    cases l with
    |succ _=>simp[ev]at h
    |zero=>
     cases cp with
     |succ _=>simp[ev]at h
     |zero=>
      simp only[ev,zI]at h;subst h
      exact⟨Jq.2 rfl,λm _=>by simp[z7.ids]⟩
  |_=>simp[ev]at h
 |global b=>
  simp only[ev]at h;split at h
  ·rename_i e he;simp only[zI]at h;subst h;obtain⟨h1,h2,_⟩:=zq.known b e he;refine⟨?_,λm _=>by simp[z7.ids]⟩;simp only[qy];exact⟨[.pointer (some ⟨b,0,none⟩)],⟨h1,h2⟩,rfl⟩
  ·simp at h
 |func f=>
  simp only[ev,zI]at h;subst h;refine⟨?_,λm _=>by simp[z7.ids]⟩;simp only[qy];exact⟨[.func (.func f) #[] #[]],⟨[],rfl,rfl⟩,rfl⟩
theorem VJ{n:Nat}{g:z8}{w:World}{a:Act}{σ:St}(zq:zP n g w a σ):{l:List Operand}->{av:z7}->I2 σ l=some av->
  qj w g σ.z6 av (l.map a.eval)/\∀m,zu g σ m->m∉av.ids
 |[],av,h=>by
  simp only[I2,zI]at h;subst h
  exact⟨by simp[qj],λm _=>by simp[z7.ids]⟩
 |x::l,av,h=>by
  simp only[I2]at h;split at h
  ·rename_i a1 c1 h1 h2;simp only[zI]at h;subst h;have e1:=qH zq h1;have e2:=VJ zq h2;refine⟨?_,λm hm=>?_⟩
   ·simp only[qj,Qw];exact⟨_,_,rfl,e1.1,e2.1⟩
   ·simp only[z7.ids,PH,not_or];exact⟨e1.2 m hm,e2.2 m hm⟩
  ·simp at h
end Go.Kz
namespace Go.Kz
variable {R:Type}
section
variable {P:Program}{o:Oper}{a:Act}{w:World}{K:Act->World->Prop}{Q:Exit->Act->World->Prop}{c:Ctx}{σ:St}{g:z8}{k:St->Option R}{r:R}{base:Nat}
theorem RF{x:Operand}(ho:o.op=.move x\/o.op=.assign x)(zq:zP c.ntmps g w a σ)(h:qq c σ base o k=some r):vH P o a w g σ c k r:=by
 rcases ho with ho|ho<;>simp only[qq,ho]at h<;>split at h
 ·rename_i av Kf;obtain⟨hv,hf⟩:=qH zq Kf;exact Qy (v:=a.eval x) (λ_ _=>by simp[execOp,ho]) hv hf h
 ·simp at h
 ·rename_i av Kf;obtain⟨hv,hf⟩:=qH zq Kf;exact Qy (v:=a.eval x) (λ_ _=>by simp[execOp,ho]) hv hf h
 ·simp at h
theorem zdg{t x y:Operand}(ho:o.op=.pick t x y)(zq:zP c.ntmps g w a σ)(h:qq c σ base o k=some r):vH P o a w g σ c k r:=by
 simp only[qq,ho]at h;split at h
 ·rename_i b hb;have ht:=ZW (qH zq hb).1
  cases b with
  |true=>
   simp only[zJ]at h;split at h
   ·rename_i av Kf;obtain⟨hv,hf⟩:=qH zq Kf;exact Qy (v:=a.eval x) (λ_ _=>by simp[execOp,ho,ht,asBool]) hv hf h
   ·simp at h
  |false=>
   simp only[zU]at h;split at h
   ·rename_i av Kf;obtain⟨hv,hf⟩:=qH zq Kf;exact Qy (v:=a.eval y) (λ_ _=>by simp[execOp,ho,ht,asBool]) hv hf h
   ·simp at h
 ·simp at h
structure Plain (f:z7->Option R) (r:R) (s:Sem Value) (P:Program):Prop where
 out:∃av v,f av=some r/\(∀w,s.run P w=.ok v w)/\av.ids=[]/\∀w g z6,qy w g z6 av v
theorem Plain.int{f:z7->Option R}{s:Sem Value}{k:IntKind}{n:Int}(h:f (.data (.int k) n)=some r)(hs:∀w,s.run P w=.ok (.int k n) w)(hn:k.min<=n/\n<=k.max):Plain f r s P:=
 ⟨_,_,h,hs,rfl,λ_ _ _=>vB hn⟩
theorem Plain.bool{f:z7->Option R}{s:Sem Value}{b:Bool}(h:f (.data .bool b)=some r)(hs:∀w,s.run P w=.ok (.bool b) w):Plain f r s P:=
 ⟨_,_,h,hs,rfl,λ_ _ _=>wC b⟩
theorem bytes_beq(a b:ByteArray):(a.toList == b.toList)=decide (a.data.toList=b.data.toList):=by
 rw[ByteArray.toList_eq,ByteArray.toList_eq];by_cases h:a.data.toList=b.data.toList
 ·simp[h]
 ·rw[qd h,beq_eq_false_iff_ne];exact h
theorem z2c{op:BinOp}{x y:ByteArray}{f:z7->Option R}(T:TypeId)(h:UX op x.data.toList y.data.toList f=some r):Plain f r (binOp op T (.string x) (.string y)) P:=by
 cases op<;>simp only[UX]at h
 case add=>
  obtain⟨hc,h⟩:decide (x.data.toList.length+y.data.toList.length<=room)=true/\f (.data .str (x.data.toList++y.data.toList))=some r:=by
   cases hb:decide (x.data.toList.length+y.data.toList.length<=room) with
   |true=>rw[hb]at h;exact⟨rfl,h⟩
   |false=>rw[hb]at h;simp[qV]at h
  replace hc:=X1 hc;simp only[room,gT]at hc;have hx:x.size=x.data.size:=rfl;have hy:y.size=y.data.size:=rfl;refine⟨_,.string (x++y),h,λw=>?_,rfl,λ_ _ _=>KN (by simp) ?_⟩
  ·have:¬((x.size+y.size:Nat):Int)>IntKind.i64.max:=by
    simp only[IntKind.max,IntKind.bits,IntKind.signed];simp;omega
   simp only[binOp,Op.stringOp,this,Z1w,Sem.run_pure]
  ·rw[ByteArray.size_append];simp only[maxLen];omega
 case eql=>exact .bool h (λ_=>by simp only[binOp,Op.stringOp,bytes_beq,Sem.run_pure])
 case neq=>exact .bool h (λ_=>by simp only[binOp,Op.stringOp,bytes_beq,Sem.run_pure])
 all_goals simp at h
theorem z2e{op:BinOp}{kd:IntKind}{x y:Int}{f:z7->Option R}(hx:kd.min<=x/\x<=kd.max)(T:TypeId)(D5:GW op=false)
  (h:UA op kd x y f=some r):Plain f r (binOp op T (.int kd x) (.int kd y)) P:=by
 cases op<;>simp only[UA]at h<;>simp only[GW]at D5
 case add=>exact .int h (λ_=>by simp[binOp,Op.intArith]) (wz _ _)
 case sub=>exact .int h (λ_=>by simp[binOp,Op.intArith]) (wz _ _)
 case mul=>exact .int h (λ_=>by simp[binOp,Op.intArith]) (wz _ _)
 case quo=>
  cases hb:(y == 0) with
  |true=>rw[hb]at h;simp at h
  |false=>
   rw[hb]at h;have hy:¬y=0:=by simpa using hb
   exact .int h (λ_=>by simp[binOp,Op.intDiv,hy]) (wz _ _)
 case rem=>
  cases hb:(y == 0) with
  |true=>rw[hb]at h;simp at h
  |false=>
   rw[hb]at h;have hy:¬y=0:=by simpa using hb
   refine .int h (λ_=>by simp[binOp,Op.intDiv,hy]) ?_;have h0:kd.min<=0/\0<=kd.max:=by cases kd<;>simp[IntKind.min,IntKind.max,IntKind.bits,IntKind.signed]
   have h3:(x.tmod y).natAbs<=x.natAbs:=by rw[Int.natAbs_tmod];exact Nat.mod_le _ _
   rcases Int.le_total 0 x with hp|hp
   ·have h1:=Int.tmod_nonneg y hp;omega
   ·have h1:x.tmod y<=0:=by
     have:=Int.tmod_nonneg y (a:=-x) (by omega);rw[Int.neg_tmod]at this;omega
    omega
 case and=>exact .int h (λ_=>by simp[binOp,Op.intBits]) (wz _ _)
 case or=>exact .int h (λ_=>by simp[binOp,Op.intBits]) (wz _ _)
 case xor=>exact .int h (λ_=>by simp[binOp,Op.intBits]) (wz _ _)
 case andNot=>exact .int h (λ_=>by simp[binOp,Op.intBits]) (wz _ _)
 case eql=>exact .bool h (λ_=>by simp[binOp,Op.intCmp])
 case neq=>exact .bool h (λ_=>by simp[binOp,Op.intCmp])
 case lss=>exact .bool h (λ_=>by simp[binOp,Op.intCmp])
 case leq=>exact .bool h (λ_=>by simp[binOp,Op.intCmp])
 case gtr=>exact .bool h (λ_=>by simp[binOp,Op.intCmp])
 case geq=>exact .bool h (λ_=>by simp[binOp,Op.intCmp])
 all_goals simp at D5 h
theorem IW{op:BinOp}{kd j:IntKind}{x y:Int}{f:z7->Option R}(hx:kd.min<=x/\x<=kd.max)(T:TypeId)
  (h:Qp op kd x y f=some r):Plain f r (binOp op T (.int kd x) (.int j y)) P:=by
 cases op<;>simp only[Qp]at h
 case shl=>
  cases hb:decide (y<0) with
  |true=>rw[hb]at h;simp at h
  |false=>
   rw[hb]at h;have hy:¬y<0:=by simpa using hb
   exact .int h (λ_=>by simp[binOp,Op.shift,hy]) (wz _ _)
 case shr=>
  cases hb:decide (y<0) with
  |true=>rw[hb]at h;simp at h
  |false=>
   rw[hb]at h;have hy:¬y<0:=by simpa using hb
   refine .int h (λ_=>by simp[binOp,Op.shift,hy]) ?_;have h0:kd.min<=0/\0<=kd.max:=by cases kd<;>simp[IntKind.min,IntKind.max,IntKind.bits,IntKind.signed]
   have h2:(1:Int)<=2 ^ (min y.toNat kd.bits):=by
    have:=Nat.one_le_two_pow (n:=min y.toNat kd.bits)
    exact_mod_cast this
   generalize hz:(2:Int) ^ (min y.toNat kd.bits)=z at h2;rw[Int.fdiv_eq_ediv_of_nonneg _ (by omega)];rcases Int.le_total 0 x with hp|hp
   ·have h3:=Z3b hp (show 0<=z by omega);have h4:=Z3x z hp;omega
   ·have h3:x/z<=0:=Int.ediv_le_of_le_mul (by omega) (by omega);have h4:x<=x/z:=by
     have:=Int.le_ediv_of_mul_le (a:=x) (b:=x) (c:=z) (by omega) (by
      have:=Int.mul_le_mul_of_nonpos_left (a:=x) (b:=z) (c:=1) hp h2;rw[Int.mul_one]at this;exact this)
     exact this
    omega
 all_goals simp at h
end
end Go.Kz
namespace Go.Kz
variable {R:Type}
theorem YX{a b:Nat}:(Nat.beq a b=true)=(a=b):=propext ⟨zE,λh=>h ▸ R4 a⟩
def zeroCells:Ty->List Value
 |.int k=>[.int k 0]
 |.bool=>[.bool false]
 |.str=>[.string ByteArray.empty]
 |.unit=>[]
 |.pair a b=>zeroCells a++zeroCells b
 |.arr n t=>(List.replicate n (zeroCells t)).flatten
 |.sl _ _=>[.slice none 0 0]
 |.ptr _=>[.pointer none]
 |.fn f _=>cond (Nat.beq f 999983) [.map none] [.nilFunc]
 |.tree k=>zq7 k
structure j8 (P:Program) (T:TypeId) (t:Ty):Prop where
 info:∃i z,P.info? T=some i/\i.size=t.size/\i.bytes<=32768/\i.zero=some z/\z.cells.toList=zeroCells t/\0<i.size
mutual
def qZ(P:Program):Ty->TypeId->Prop
 |.int k,T=>P.underlying T=some (.int k)/\j8 P T (.int k)
 |.bool,T=>P.underlying T=some .bool/\j8 P T .bool
 |.str,T=>P.underlying T=some .string/\j8 P T .str
 |.unit,_=>False
 |.pair a b,T=>(∃fs,P.underlying T=some (.struct fs)/\vC P (.pair a b) fs.toList 0)/\j8 P T (.pair a b)
 |.arr n t,T=>(∃E,P.underlying T=some (.array n E)/\qZ P t E)/\j8 P T (.arr n t)
 |.sl o t,T=>(∃E,P.underlying T=some (.slice E)/\qZ P t E)/\j8 P T (.sl o t)
 |.ptr t,T=>(∃E,P.underlying T=some (.pointer E))/\j8 P T (.ptr t)
 |.fn f c,T=>((∃a b d,P.underlying T=some (.func a b d))\/∃a b,P.underlying T=some (.map a b))/\j8 P T (.fn f c)
 |.tree k,T=>(T=zdc k/\recOn k=true/\∃fs,P.underlying T=some (.struct fs))/\j8 P T (.tree k)
def vC(P:Program):Ty->List Field->Nat->Prop
 |.pair a b,f::fs,off=>f.offset=off/\qZ P a f.type/\vC P b fs (off+a.size)
 |.unit,[],_=>True
 |_,_,_=>False
end
theorem qZ.info{P:Program}{t:Ty}{T:TypeId}(h:qZ P t T):j8 P T t:=by
 cases t<;>simp only[qZ]at h<;>first|exact h.2|exact h.elim
def z4n:Value->Value->Bool
 |.int j a,.int k b=>(match decEq j k with
   |isTrue _=>true
   |isFalse _=>false)&&decide (a=b)
 |.bool a,.bool b=>a == b
 |.string a,.string b=>Nat.beq a.size 0&&Nat.beq b.size 0
 |.slice none a b,.slice none c d=>Nat.beq a c&&Nat.beq b d
 |.pointer none,.pointer none=>true
 |.nilFunc,.nilFunc=>true
 |.map none,.map none=>true
 |_,_=>false
def Pb:List Value->List Value->Bool
 |[],[]=>true
 |a::l,b::m=>z4n a b&&Pb l m
 |_,_=>false
theorem z4m{a b:Value}(h:z4n a b=true):a=b:=by
 unfold z4n at h;split at h
 ·rename_i j a k b;simp only[zA,jc]at h;obtain⟨h1,rfl⟩:=h;split at h1
  ·rename_i h2 _;rw[h2]
  ·simp at h1
 ·simpa using h
 ·rename_i a b;simp only[zA,YX]at h;have ha:a=ByteArray.empty:=by
   cases a with|mk a=>congr 1;exact Z5e h.1
  have hb:b=ByteArray.empty:=by
   cases b with|mk a=>congr 1;exact Z5e h.2
  rw[ha,hb]
 ·simp only[zA,YX]at h;rw[h.1,h.2]
 ·rfl
 ·rfl
 ·rfl
 ·simp at h
theorem DF:{a b:List Value}->Pb a b=true->a=b
 |[],[],_=>rfl
 |a::l,b::m,h=>by
  simp only[Pb,zA]at h
  rw[z4m h.1,DF h.2]
 |[],_::_,h=>by simp[Pb]at h
 |_::_,[],h=>by simp[Pb]at h
def py(P:Program)(T:TypeId)(t:Ty):Bool:=
 match P.info? T with
 |some i=>match i.zero with
  |some z=>Nat.beq i.size t.size&&Nat.ble i.bytes 32768&&Pb z.cells.toList (zeroCells t)&&Nat.blt 0 i.size
  |none=>false
 |none=>false
theorem pN{P:Program}{T:TypeId}{t:Ty}(h:py P T t=true):j8 P T t:=by
 unfold py at h;split at h
 ·rename_i i hi;split at h
  ·rename_i z hz;simp only[zA,YX]at h;exact⟨⟨i,z,hi,h.1.1.1,zL h.1.1.2,hz,DF h.1.2,zL h.2⟩⟩
  ·simp at h
 ·simp at h
def JF(P:Program):Ty->(TypeId->Bool)×(List Field->Nat->Bool)
 |.int k=>(λT=>(match P.underlying T with
  |some (.int j)=>(match decEq j k with
   |isTrue _=>true
   |isFalse _=>false)
  |_=>false)&&py P T (.int k),λ_ _=>false)
 |.bool=>(λT=>(match P.underlying T with
  |some .bool=>true
  |_=>false)&&py P T .bool,λ_ _=>false)
 |.str=>(λT=>(match P.underlying T with
  |some .string=>true
  |_=>false)&&py P T .str,λ_ _=>false)
 |.unit=>(λ_=>false,λfs _=>match fs with
  |[]=>true
  |_=>false)
 |.pair a b=>
  let f:List Field->Nat->Bool:=λfs off=>match fs with
   |f::fs=>Nat.beq f.offset off&&(JF P a).1 f.type&&(JF P b).2 fs (off+a.size)
   |[]=>false
  (λT=>(match P.underlying T with
   |some (.struct fs)=>f fs.toList 0
   |_=>false)&&py P T (.pair a b),f)
 |.arr n t=>(λT=>(match P.underlying T with
  |some (.array m E)=>Nat.beq m n&&(JF P t).1 E
  |_=>false)&&py P T (.arr n t),λ_ _=>false)
 |.sl o t=>(λT=>(match P.underlying T with
  |some (.slice E)=>(JF P t).1 E
  |_=>false)&&py P T (.sl o t),λ_ _=>false)
 |.ptr t=>(λT=>(match P.underlying T with
  |some (.pointer _)=>true
  |_=>false)&&py P T (.ptr t),λ_ _=>false)
 |.fn f c=>(λT=>(match P.underlying T with
  |some (.func _ _ _)=>true
  |some (.map _ _)=>true
  |_=>false)&&py P T (.fn f c),λ_ _=>false)
 |.tree k=>(λT=>(match P.underlying T with
  |some (.struct _)=>Nat.beq T (zdc k)&&recOn k
  |_=>false)&&py P T (.tree k),λ_ _=>false)
def Iy(P:Program)(t:Ty)(T:TypeId):Bool:=(JF P t).1 T
def SK(P:Program)(t:Ty)(fs:List Field)(off:Nat):Bool:=(JF P t).2 fs off
theorem zcv{P:Program}{k:IntKind}{T:TypeId}:Iy P (.int k) T=((match P.underlying T with
  |some (.int j)=>(match decEq j k with
   |isTrue _=>true
   |isFalse _=>false)
  |_=>false)&&py P T (.int k)):=rfl
theorem z42{P:Program}{T:TypeId}:Iy P .bool T=((match P.underlying T with
  |some .bool=>true
  |_=>false)&&py P T .bool):=rfl
theorem zct{P:Program}{T:TypeId}:Iy P .str T=((match P.underlying T with
  |some .string=>true
  |_=>false)&&py P T .str):=rfl
theorem zcu{P:Program}{t:Ty}{T:TypeId}:Iy P (.ptr t) T=((match P.underlying T with
  |some (.pointer _)=>true
  |_=>false)&&py P T (.ptr t)):=rfl
theorem zk0{P:Program}{f:Nat}{c:Ty}{T:TypeId}:Iy P (.fn f c) T=((match P.underlying T with
  |some (.func _ _ _)=>true
  |some (.map _ _)=>true
  |_=>false)&&py P T (.fn f c)):=rfl
theorem z3y{P:Program}{k:Nat}{T:TypeId}:Iy P (.tree k) T=((match P.underlying T with
  |some (.struct _)=>Nat.beq T (zdc k)&&recOn k
  |_=>false)&&py P T (.tree k)):=rfl
theorem z3z{P:Program}{a b:Ty}{T:TypeId}:Iy P (.pair a b) T=((match P.underlying T with
  |some (.struct fs)=>SK P (.pair a b) fs.toList 0
  |_=>false)&&py P T (.pair a b)):=rfl
theorem zcw{P:Program}{n:Nat}{t:Ty}{T:TypeId}:Iy P (.arr n t) T=((match P.underlying T with
  |some (.array m E)=>Nat.beq m n&&Iy P t E
  |_=>false)&&py P T (.arr n t)):=rfl
theorem zjz{P:Program}{o:Bool}{t:Ty}{T:TypeId}:Iy P (.sl o t) T=((match P.underlying T with
  |some (.slice E)=>Iy P t E
  |_=>false)&&py P T (.sl o t)):=rfl
theorem z8p{P:Program}{a b:Ty}{f:Field}{fs:List Field}{off:Nat}:SK P (.pair a b) (f::fs) off=(Nat.beq f.offset off&&Iy P a f.type&&SK P b fs (off+a.size)):=rfl
mutual
theorem tyB_ok{P:Program}:{t:Ty}->{T:TypeId}->Iy P t T=true->qZ P t T
 |.int k,T,h=>by
  simp only[zcv,zA]at h;simp only[qZ];refine⟨?_,pN h.2⟩;have h1:=h.1;split at h1
  ·rename_i j hj;split at h1
   ·rename_i hk _;rw[hj,hk]
   ·simp at h1
  ·simp at h1
 |.bool,T,h=>by
  simp only[z42,zA]at h;simp only[qZ];refine⟨?_,pN h.2⟩;have h1:=h.1;split at h1
  ·rename_i hj;exact hj
  ·simp at h1
 |.str,T,h=>by
  simp only[zct,zA]at h;simp only[qZ];refine⟨?_,pN h.2⟩;have h1:=h.1;split at h1
  ·rename_i hj;exact hj
  ·simp at h1
 |.unit,_,h=>by simp[Iy,JF]at h
 |.pair a b,T,h=>by
  simp only[z3z,zA]at h;simp only[qZ];refine⟨?_,pN h.2⟩;have h1:=h.1;split at h1
  ·rename_i fs hj;exact⟨fs,hj,z8q h1⟩
  ·simp at h1
 |.arr n t,T,h=>by
  simp only[zcw,zA]at h;simp only[qZ];refine⟨?_,pN h.2⟩;have h1:=h.1;split at h1
  ·rename_i m E hj;simp only[zA,YX]at h1;exact⟨E,by rw[hj,h1.1],tyB_ok h1.2⟩
  ·simp at h1
 |.sl o t,T,h=>by
  simp only[zjz,zA]at h;simp only[qZ];refine⟨?_,pN h.2⟩;have h1:=h.1;split at h1
  ·rename_i E hj;exact⟨E,hj,tyB_ok h1⟩
  ·simp at h1
 |.ptr t,T,h=>by
  simp only[zcu,zA]at h;simp only[qZ];refine⟨?_,pN h.2⟩;have h1:=h.1;split at h1
  ·rename_i E hj;exact⟨E,hj⟩
  ·simp at h1
 |.tree k,T,h=>by
  simp only[z3y,zA]at h;simp only[qZ];refine⟨?_,pN h.2⟩;have h1:=h.1;split at h1
  ·rename_i fs hj;rw[zA]at h1;exact⟨zE h1.1,h1.2,fs,hj⟩
  ·simp at h1
 |.fn f c,T,h=>by
  simp only[zk0,zA]at h;simp only[qZ];refine⟨?_,pN h.2⟩;have h1:=h.1;split at h1
  ·rename_i a b d hj;exact .inl ⟨a,b,d,hj⟩
  ·rename_i a b hj;exact .inr ⟨a,b,hj⟩
  ·simp at h1
theorem z8q{P:Program}:{t:Ty}->{fs:List Field}->{off:Nat}->SK P t fs off=true->vC P t fs off
 |.pair a b,f::fs,off,h=>by
  simp only[z8p,zA,YX]at h;simp only[vC]
  exact⟨h.1.1,tyB_ok h.1.2,z8q h.2⟩
 |.unit,[],_,_=>by simp only[vC]
 |.unit,_::_,_,h=>by simp[SK,JF]at h
 |.pair _ _,[],_,h=>by simp[SK,JF]at h
 |.int _,_,_,h=>by simp[SK,JF]at h
 |.bool,_,_,h=>by simp[SK,JF]at h
 |.str,_,_,h=>by simp[SK,JF]at h
 |.arr _ _,_,_,h=>by simp[SK,JF]at h
 |.sl _ _,_,_,h=>by simp[SK,JF]at h
 |.ptr _,_,_,h=>by simp[SK,JF]at h
 |.fn _ _,_,_,h=>by simp[SK,JF]at h
 |.tree _,_,_,h=>by simp[SK,JF]at h
end
def RecOK(P:Program):Prop:=∀k,recOn k=true->qZ P (.pair (xq k) (xz k)) (zdc k)
def gH(P:Program)(tt:Nat->Option Ty):Prop:=∀T u,tt T=some u->qZ P u T
def ttB(P:Program):List (Nat×Ty)->Bool
 |[]=>true
 |(T,u)::l=>Iy P u T&&ttB P l
theorem z43{P:Program}:{l:List (Nat×Ty)}->ttB P l=true->gH P (yN l)
 |[],_,_,_,h=>by simp[yN]at h
 |(T,u)::l,hb,T',u',h=>by
  simp only[ttB,zA]at hb;simp only[yN]at h
  cases he:Nat.beq T T' with
  |true=>
   rw[he]at h;simp only[zJ,zI]at h;subst h;rw[<-zE he]
   exact tyB_ok hb.1
  |false=>
   rw[he]at h;exact z43 hb.2 T' u' h
end Go.Kz
namespace Go.Kz
variable {R:Type}
def Wv:Ty->Path->Option Sk
 |t,[]=>some t.sk
 |.pair a _,.fst::p=>Wv a p
 |.pair _ b,.snd::p=>Wv b p
 |.arr _ t,.idx _::p=>Wv t p
 |.sl true t,.idx _::p=>Wv t p
 |_,_=>none
def Ko:Ty->Path->Option Ty
 |t,[]=>some t
 |.pair a _,.fst::p=>Ko a p
 |.pair _ b,.snd::p=>Ko b p
 |.arr _ t,.idx _::p=>Ko t p
 |.sl true t,.idx _::p=>Ko t p
 |_,_=>none
theorem Ak:{t:Ty}->{p:Path}->{v:Ty}->Ko t p=some (.sl true v)->vj t p=some v
 |t,[],v,h=>by
  simp only[Ko,zI]at h
  subst h;rfl
 |.pair a _,.fst::p,v,h=>by simp only[Ko,vj]at h⊢;exact Ak h
 |.pair _ b,.snd::p,v,h=>by simp only[Ko,vj]at h⊢;exact Ak h
 |.arr _ t,.idx _::p,v,h=>by simp only[Ko,vj]at h⊢;exact Ak h
 |.sl true t,.idx _::p,v,h=>by simp only[Ko,vj]at h⊢;exact Ak h
 |.sl true _,.fst::_,_,h |.sl true _,.snd::_,_,h=>by simp[Ko]at h
 |.sl false _,s::_,_,h=>by cases s<;>simp[Ko]at h
 |.int _,s::_,_,h=>by cases s<;>simp[Ko]at h
 |.bool,s::_,_,h=>by cases s<;>simp[Ko]at h
 |.str,s::_,_,h=>by cases s<;>simp[Ko]at h
 |.unit,s::_,_,h=>by cases s<;>simp[Ko]at h
 |.ptr _,s::_,_,h=>by cases s<;>simp[Ko]at h
 |.fn _ _,s::_,_,h=>by cases s<;>simp[Ko]at h
 |.tree _,s::_,_,h=>by cases s<;>simp[Ko]at h
 |.pair _ _,.idx _::_,_,h=>by simp[Ko]at h
 |.arr _ _,.fst::_,_,h |.arr _ _,.snd::_,_,h=>by simp[Ko]at h
theorem ug{g:z8}{id:Nat}{j:Int}{bk o n cp:Nat}:{t:Ty}->{pre:Path}->{b off:Nat}->{p:Path}->{v:Ty}->{x:Nat×Nat}->vj t p=some v->place g id t pre b off p=some x->
  g.sv id (pre++p)=.slice (some ⟨bk,o,none⟩) n cp->place g id t pre b off (p++[.idx j])=some (bk,o+j.toNat*v.size)
 |.sl true t,pre,b,off,[],v,x,hq,_,yU=>by
  simp only[vj,zI]at hq;subst hq;simp only[Hc]at yU
  simp[place,yU]
 |.pair a _,pre,b,off,.fst::p,v,x,hq,hp,yU=>by
  simp only[vj,place,Qm]at hq hp⊢
  exact ug hq hp (by rw[XQ];exact yU)
 |.pair _ c,pre,b,off,.snd::p,v,x,hq,hp,yU=>by
  simp only[vj,place,Qm]at hq hp⊢
  exact ug hq hp (by rw[XQ];exact yU)
 |.arr _ t,pre,b,off,.idx i::p,v,x,hq,hp,yU=>by
  simp only[vj,place,Qm]at hq hp⊢
  exact ug hq hp (by rw[XQ];exact yU)
 |.sl true t,pre,b,off,.idx i::p,v,x,hq,hp,yU=>by
  simp only[vj,place,Qm]at hq hp⊢;split at hp
  ·exact ug hq hp (by rw[XQ];exact yU)
  ·simp at hp
 |.sl true _,_,_,_,.fst::_,_,_,h,_,_ |.sl true _,_,_,_,.snd::_,_,_,h,_,_=>by simp[vj]at h
 |.sl false _,_,_,_,p,_,_,h,_,_=>by cases p with|nil=>simp[vj]at h|cons s q=>cases s<;>simp[vj]at h
 |.int _,_,_,_,p,_,_,h,_,_=>by cases p with|nil=>simp[vj]at h|cons s q=>cases s<;>simp[vj]at h
 |.bool,_,_,_,p,_,_,h,_,_=>by cases p with|nil=>simp[vj]at h|cons s q=>cases s<;>simp[vj]at h
 |.str,_,_,_,p,_,_,h,_,_=>by cases p with|nil=>simp[vj]at h|cons s q=>cases s<;>simp[vj]at h
 |.unit,_,_,_,p,_,_,h,_,_=>by cases p with|nil=>simp[vj]at h|cons s q=>cases s<;>simp[vj]at h
 |.ptr _,_,_,_,p,_,_,h,_,_=>by cases p with|nil=>simp[vj]at h|cons s q=>cases s<;>simp[vj]at h
 |.fn _ _,_,_,_,p,_,_,h,_,_=>by cases p with|nil=>simp[vj]at h|cons s q=>cases s<;>simp[vj]at h
 |.tree _,_,_,_,p,_,_,h,_,_=>by cases p with|nil=>simp[vj]at h|cons s q=>cases s<;>simp[vj]at h
 |.pair _ _,_,_,_,[],_,_,h,_,_=>by simp[vj]at h
 |.pair _ _,_,_,_,.idx _::_,_,_,h,_,_=>by simp[vj]at h
 |.arr _ _,_,_,_,[],_,_,h,_,_=>by simp[vj]at h
 |.arr _ _,_,_,_,.fst::_,_,_,h,_,_ |.arr _ _,_,_,_,.snd::_,_,_,h,_,_=>by simp[vj]at h
theorem FJ{p q:Path}(h:q.length<p.length):¬p <+: q:=by
 rintro⟨r,hr⟩;have:=Wm List.length hr;rw[Jz]at this;omega
theorem Qx(l:List Value)(off n m:Nat)(h:off+(n+m)<=l.length):qi l off (n+m)=qi l off n++qi l (off+n) m:=by
 simp only[qi];rw[<-Z1t,<-List.take_add]
theorem NW{l:List Value}{off:Nat}{x:Value}(h:off<l.length):qi (zB l off [x]) off 1=[x]:=x5 l off [x] (by simp only[Z3y];omega)
theorem Rq.side{w w':World}{g g':z8}{id b0:Nat}{p q:Path}(hn:Rq w g w' g' id p b0)(hq:∀r,¬p <+: q++r)(hB:∀r,g.tag b0≠.row id (q++r)):Zi w g w' g' id q id q:=
 ⟨λr=>hn.sv _ (hq r),λr b hb=>let h:=hn.qY _ b hb (hq r);⟨h.1,h.2 (λhe=>hB r (he ▸ hb))⟩⟩
def TG(w:World)(g:z8)(id:Nat)(t:Ty):Prop:=
 ∀{R:Type}{pre:Path}{d:t.den}{p:Path}{v:Ty}{k:(u:Ty)->u.den->Option R}{r:R}{b off:Nat}{c:Array Value}{e:TypeId}{pb:Path},
  vj t p=some v->g.tag b=.row id pb->pb.length<pre.length->w.heap[b]? = some (.cells c e (0,0))->off+t.size<=c.size->zM w g (some (id,pre)) t d (qi c.toList off t.size)->zR t d p k=some r->
  ∃(l1:List v.den)(bh oh:Nat)(ch:Array Value)(eh:TypeId)(ph:Path),k (.sl true v) l1=some r/\place g id t pre b off p=some (bh,oh)/\g.tag bh=.row id ph/\ph.length<(pre++p).length/\
   w.heap[bh]? = some (.cells ch eh (0,0))/\oh<ch.size/\zM w g (some (id,pre++p)) (.sl true v) l1 (qi ch.toList oh 1)/\(bh=b\/(bh≠b/\pre <+: ph))/\
   ∀(w':World)(g':z8)(l':List v.den)(x:Value),Rq w g w' g' id (pre++p) bh->w'.heap[bh]? = some (.cells (zB ch.toList oh [x]).toArray eh (0,0))->zM w' g' (some (id,pre++p)) (.sl true v) l' [x]->
    ∀{R':Type}(f:t.den->Option R')(r':R'),yT t d p (.sl true v) l' f=some r'->
     ∃d',f d'=some r'/\∃c',w'.heap[b]? = some (.cells c' e (0,0))/\c'.size=c.size/\(∀a n,a+n<=off\/off+t.size<=a->qi c'.toList a n=qi c.toList a n)/\zM w' g' (some (id,pre)) t d' (qi c'.toList off t.size)
theorem UQ{w:World}{g:z8}{id:Nat}{t:Ty}(ih:TG w g id t){pre:Path}{l:List t.den}{i:Int}{p:Path}{v:Ty}{k:(u:Ty)->u.den->Option R}{r:R}{hd:Value}
  (wM:vj t p=some v) (zN:zM w g (some (id,pre)) (.sl true t) l [hd]) (h:zR (.sl true t) l (.idx i::p) k=some r) :
  ∃(l1:List v.den)(bh oh:Nat)(ch:Array Value)(eh:TypeId)(ph:Path),k (.sl true v) l1=some r/\(∀b off,place g id (.sl true t) pre b off (.idx i::p)=some (bh,oh))/\g.tag bh=.row id ph/\
   ph.length<(pre++.idx i::p).length/\pre <+: ph/\w.heap[bh]? = some (.cells ch eh (0,0))/\oh<ch.size/\zM w g (some (id,pre++.idx i::p)) (.sl true v) l1 (qi ch.toList oh 1)/\
   ∀(w':World)(g':z8)(l':List v.den)(x:Value),Rq w g w' g' id (pre++.idx i::p) bh->w'.heap[bh]? = some (.cells (zB ch.toList oh [x]).toArray eh (0,0))->zM w' g' (some (id,pre++.idx i::p)) (.sl true v) l' [x]->
    ∀{R':Type}(f:List t.den->Option R')(r':R'),yT (.sl true t) l (.idx i::p) (.sl true v) l' f=some r'->∃l2,f l2=some r'/\l2.length=l.length/\zM w' g' (some (id,pre)) (.sl true t) l2 [hd]:=by
 simp only[zR,Zh]at h;obtain⟨x,hx,h⟩:=h;obtain⟨h0,hi,rfl,yP⟩:=jt hx;obtain⟨a,cap,Zw,yU,Kb,QR,wJ⟩:=zN;have OZ:((i.toNat:Nat):Int)=i:=Z2o h0;rcases wJ with⟨_,hl,_⟩|⟨b,o,c,e,rfl,ze,zZ,ql,vw⟩
 ·rw[hl]at hi;simp at hi
 ·have JX:(i.toNat+1)*t.size<=cap*t.size:=wI _ (by omega);rw[kK]at JX;have xJ:=vw _ hi;rw[OZ]at xJ;obtain⟨l1,bh,oh,ch,eh,ph,hk,gX,jm,Hs,xj,hoh,pw,halt,hw⟩:=ih wM ze (by simp) zZ (by omega) xJ h;have D6:pre++[Step.idx i]++p=pre++.idx i::p:=by simp
  rw[D6]at Hs pw;have xN:pre <+: ph:=by
   rcases halt with rfl|⟨_,⟨z,hz⟩⟩
   ·rw[ze]at jm;simp only[Tag.row.injEq,X3]at jm;rw[jm];exact List.prefix_refl _
   ·exact⟨[.idx i]++z,by rw[<-hz];simp⟩
  refine⟨l1,bh,oh,ch,eh,ph,hk,λb' K8=>?_,jm,Hs,xN,xj,hoh,pw,λw' g' l' x hn Ke UT R' f r' wm=>?_⟩
  ·simp only[place,yU];exact gX
  ·simp only[yT]at wm;rw[hx]at wm;simp only[zO]at wm;obtain⟨d',hf,c',WY,ZX,YI,ub⟩:=hw w' g' l' x (by rw[D6];exact hn) Ke (by rw[D6];exact UT) _ _ wm;have hnp:¬(pre++.idx i::p) <+: pre:=FJ (by simp);refine⟨_,hf,qt _ _ _,some ⟨b,o,none⟩,cap,by rw[qt];exact Zw,by rw[qt,hn.sv _ hnp];exact yU,by rw[qt];exact Kb,QR,.inr ⟨b,o,c',e,rfl,(hn.qY _ b ze hnp).1,WY,by rw[ZX];exact ql,λj hj=>?_⟩⟩;have gg:j<l.length:=by rw[qt]at hj;exact hj
   rw[JS];by_cases ZP:i.toNat=j
   ·rw[qn ZP];subst ZP;rw[OZ];exact ub
   ·rw[qP ZP];have zs2:Zi w g w' g' id (pre++[Step.idx (j:Int)]) id (pre++[Step.idx (j:Int)]):=by
     refine hn.side (λz hz=>?_) (λz hz=>?_)
     ·rw[XQ,Z4o]at hz;obtain⟨y,hy⟩:=hz;simp only[Qm,JD,CA,Step.idx.injEq]at hy;exact ZP (by rw[hy.1];simp)
     ·rw[jm]at hz;simp only[Tag.row.injEq,X3]at hz;rcases halt with rfl|⟨_,⟨y,hy⟩⟩
      ·rw[ze]at jm;simp only[Tag.row.injEq,X3]at jm;rw[<-jm]at hz;have:=Wm List.length hz;simp at this
      ·rw[<-hy,XQ,XQ]at hz;have:=Z4p hz;simp only[Qm,JD,CA,Step.idx.injEq]at this;exact ZP (by rw[this.1];simp)
    have:=zM.move hn.ro (o:=some (id,pre++[Step.idx (j:Int)])) (o':=some (id,pre++[Step.idx (j:Int)])) zs2 (vw j gg);rw[YI _ _ (by
     rcases Z3v ZP with KQ|hgt
     ·right;have h3:(i.toNat+1)*t.size<=j*t.size:=wI _ KQ;rw[kK]at h3;omega
     ·left;have h3:(j+1)*t.size<=i.toNat*t.size:=wI _ hgt;rw[kK]at h3;omega)]
    exact this
theorem focus(w:World)(g:z8)(id:Nat):(t:Ty)->TG w g id t
 |.sl true t=>by
  rename_i R pre p v k r b off c e pb d;intro wM ze hpb zZ ql zN h;have ZA:c.toList.length=c.size:=gT
  cases p with
  |nil=>
   simp only[vj,zI]at wM;subst wM;have h':k (.sl true t) d=some r:=by simpa[zR]using h
   have Xw:off+1<=c.size:=ql;refine⟨d,b,off,c,e,pb,h',by simp[place],ze,by simpa using hpb,zZ,by omega,by rw[Hc];exact zN,.inl rfl,λw' g' l' x hn Ke UT R' f r' wm=>?_⟩;have zs5:wa (.sl true t) (.sl true t) l' f=some r':=by simpa[yT]using wm
   obtain⟨hh,hf⟩:=yz zs5;refine⟨_,hf,_,Ke,by rw[Z3z,yS _ _ _ (by simp;omega),ZA],λa n han=>?_,?_⟩
   ·rcases han with han|han
    ·exact j9 _ _ _ _ _ han (by omega)
    ·have q2r:off+1<=a:=han;exact vJ _ _ _ _ _ (by simpa using q2r) (by simp;omega)
   ·show zM w' g' (some (id,pre)) (.sl true t) l' (qi (zB c.toList off [x]) off 1);rw[NW (by omega)]
    simpa using UT
  |cons s q=>
   cases s with
   |fst=>simp[vj]at wM
   |snd=>simp[vj]at wM
   |idx i=>
    simp only[vj]at wM;have Xw:off+1<=c.size:=ql;have hlen:(qi c.toList off 1).length=1:=yO (by omega);obtain⟨hd,hhd⟩:=Z2f.1 hlen;have BX:zM w g (some (id,pre)) (.sl true t) d [hd]:=by rw[<-hhd];exact zN
    obtain⟨l1,bh,oh,ch,eh,ph,hk,gX,jm,Hs,xN,xj,hoh,pw,hw⟩:=UQ (focus w g id t) wM BX h;have va:bh≠b:=by
     intro he;subst he;rw[ze]at jm;simp only[Tag.row.injEq,X3]at jm;subst jm;have:=xN.length_le;omega
    refine⟨l1,bh,oh,ch,eh,ph,hk,gX b off,jm,Hs,xj,hoh,pw,.inr ⟨va,xN⟩,λw' g' l' x hn Ke UT R' f r' wm=>?_⟩;obtain⟨l2,hf,hll,ub⟩:=hw w' g' l' x hn Ke UT f r' wm;refine⟨l2,hf,c,?_,rfl,λ_ _ _=>rfl,?_⟩
    ·rw[(hn.qY pb b ze (FJ (by simp;omega))).2 (λhe=>va he.symm)];exact zZ
    ·show zM w' g' (some (id,pre)) (.sl true t) l2 (qi c.toList off 1)
     rw[hhd];exact ub
 |.pair ta tb=>by
  rename_i R pre p v k r b off c e pb d;intro wM ze hpb zZ ql zN h;have ZA:c.toList.length=c.size:=gT;obtain⟨x,y⟩:=d;obtain⟨c1,c2,hcc,h1,h2⟩:=zN;have hs:off+(ta.size+tb.size)<=c.size:=ql;have hsp:=Qx c.toList off ta.size tb.size (by omega);have Le:qi c.toList off (ta.size+tb.size)=c1++c2:=hcc;rw[hsp]at Le;obtain⟨e1,e2⟩:=Z3c Le (by rw[yO (by omega),h1.len]);rw[<-e1]at h1;rw[<-e2]at h2;have h1:zM w g (some (id,pre++[Step.fst])) ta x (qi c.toList off ta.size):=h1;have h2:zM w g (some (id,pre++[Step.snd])) tb y (qi c.toList (off+ta.size) tb.size):=h2
  cases p with
  |nil=>simp[vj]at wM
  |cons s q=>
   cases s with
   |idx i=>simp[vj]at wM
   |fst=>
    simp only[vj]at wM;simp only[zR]at h;obtain⟨l1,bh,oh,ch,eh,ph,hk,gX,jm,Hs,xj,hoh,pw,halt,hw⟩:=focus w g id ta (pre:=pre++[.fst]) wM ze (by simp;omega) zZ (by omega) h1 h;have D6:pre++[Step.fst]++q=pre++.fst::q:=by simp
    rw[D6]at Hs pw;refine⟨l1,bh,oh,ch,eh,ph,hk,by simp only[place];exact gX,jm,Hs,xj,hoh,pw,halt.imp_right (λz=>⟨z.1,(Z5f pre [.fst]).trans z.2⟩),λw' g' l' x' hn Ke UT R' f r' wm=>?_⟩;simp only[yT]at wm;obtain⟨d',hf,c',WY,ZX,YI,ub⟩:=hw w' g' l' x' (by rw[D6];exact hn) Ke (by rw[D6];exact UT) _ _ wm;have OJ:c'.toList.length=c'.size:=gT;refine⟨_,hf,c',WY,ZX,λa n han=>YI a n (by have:(Ty.pair ta tb).size=ta.size+tb.size:=rfl;omega),qi c'.toList off ta.size,qi c'.toList (off+ta.size) tb.size,?_,ub,?_⟩
    ·exact Qx _ _ _ _ (by omega)
    ·rw[YI _ _ (.inr (jq _))];refine zM.move hn.ro (o:=some (id,pre++[Step.snd])) (o':=some (id,pre++[Step.snd])) (hn.side (λz hz=>?_) (λz hz=>?_)) h2
     ·rw[XQ,Z4o]at hz;obtain⟨y',hy⟩:=hz;simp at hy
     ·rw[jm]at hz;simp only[Tag.row.injEq,X3]at hz;rcases halt with rfl|⟨_,⟨y',hy⟩⟩
      ·rw[ze]at jm;simp only[Tag.row.injEq,X3]at jm;rw[<-jm]at hz;have:=Wm List.length hz;simp at this;omega
      ·rw[<-hy,XQ,XQ]at hz;have:=Z4p hz
       simp at this
   |snd=>
    simp only[vj]at wM;simp only[zR]at h;obtain⟨l1,bh,oh,ch,eh,ph,hk,gX,jm,Hs,xj,hoh,pw,halt,hw⟩:=focus w g id tb (pre:=pre++[.snd]) wM ze (by simp;omega) zZ (by omega) h2 h;have D6:pre++[Step.snd]++q=pre++.snd::q:=by simp
    rw[D6]at Hs pw;refine⟨l1,bh,oh,ch,eh,ph,hk,by simp only[place];exact gX,jm,Hs,xj,hoh,pw,halt.imp_right (λz=>⟨z.1,(Z5f pre [.snd]).trans z.2⟩),λw' g' l' x' hn Ke UT R' f r' wm=>?_⟩;simp only[yT]at wm;obtain⟨d',hf,c',WY,ZX,YI,ub⟩:=hw w' g' l' x' (by rw[D6];exact hn) Ke (by rw[D6];exact UT) _ _ wm;have OJ:c'.toList.length=c'.size:=gT;refine⟨_,hf,c',WY,ZX,λa n han=>YI a n (by have:(Ty.pair ta tb).size=ta.size+tb.size:=rfl;omega),qi c'.toList off ta.size,qi c'.toList (off+ta.size) tb.size,?_,?_,ub⟩
    ·exact Qx _ _ _ _ (by omega)
    ·rw[YI _ _ (.inl (jq _))];refine zM.move hn.ro (o:=some (id,pre++[Step.fst])) (o':=some (id,pre++[Step.fst])) (hn.side (λz hz=>?_) (λz hz=>?_)) h1
     ·rw[XQ,Z4o]at hz;obtain⟨y',hy⟩:=hz;simp at hy
     ·rw[jm]at hz;simp only[Tag.row.injEq,X3]at hz;rcases halt with rfl|⟨_,⟨y',hy⟩⟩
      ·rw[ze]at jm;simp only[Tag.row.injEq,X3]at jm;rw[<-jm]at hz;have:=Wm List.length hz;simp at this;omega
      ·rw[<-hy,XQ,XQ]at hz;have:=Z4p hz
       simp at this
 |.arr n t=>by
  rename_i R pre p v k r b off c e pb d;intro wM ze hpb zZ ql zN h;have ZA:c.toList.length=c.size:=gT;have hs:off+n*t.size<=c.size:=ql
  cases p with
  |nil=>simp[vj]at wM
  |cons s q=>
   cases s with
   |fst=>simp[vj]at wM
   |snd=>simp[vj]at wM
   |idx i=>
    simp only[vj]at wM;simp only[zR,Zh]at h;obtain⟨x,hx,h⟩:=h;obtain⟨h0,hi,rfl,yP⟩:=jt hx;have OZ:((i.toNat:Nat):Int)=i:=Z2o h0;obtain⟨Sj,Kb,vw⟩:=zN;have u6:i.toNat<n:=by rw[<-Sj];exact hi
    have hmul:(i.toNat+1)*t.size<=n*t.size:=wI _ u6;rw[kK]at hmul;have z8g:∀(j:Nat)(hj:j<List.length d),zM w g (some (id,pre++[Step.idx (j:Int)])) t (List.get d ⟨j,hj⟩) (qi c.toList (off+j*t.size) t.size):=by
     intro j hj;have WS:j<n:=by rw[<-Sj];exact hj
     have h3:(j+1)*t.size<=n*t.size:=wI _ WS;rw[kK]at h3;have:=vw j hj;rw[show(Ty.arr n t).size=n*t.size from rfl,uP _ _ _ _ _ (by omega)]at this;exact this
    have xJ:=z8g _ hi;rw[OZ]at xJ;obtain⟨l1,bh,oh,ch,eh,ph,hk,gX,jm,Hs,xj,hoh,pw,halt,hw⟩:=focus w g id t (pre:=pre++[.idx i]) wM ze (by simp;omega) zZ (by omega) xJ h;have D6:pre++[Step.idx i]++q=pre++.idx i::q:=by simp
    rw[D6]at Hs pw;refine⟨l1,bh,oh,ch,eh,ph,hk,by simp only[place];exact gX,jm,Hs,xj,hoh,pw,halt.imp_right (λz=>⟨z.1,(Z5f pre [.idx i]).trans z.2⟩),λw' g' l' x' hn Ke UT R' f r' wm=>?_⟩;simp only[yT]at wm;rw[hx]at wm;simp only[zO]at wm;obtain⟨d',hf,c',WY,ZX,YI,ub⟩:=hw w' g' l' x' (by rw[D6];exact hn) Ke (by rw[D6];exact UT) _ _ wm;have OJ:c'.toList.length=c'.size:=gT;refine⟨_,hf,c',WY,ZX,λa m han=>YI a m (by have:(Ty.arr n t).size=n*t.size:=rfl;omega),by rw[qt];exact Sj,by rw[yO (by rw[OJ,ZX];exact ql)];rfl,λj hj=>?_⟩;have gg:j<List.length d:=by rw[qt]at hj;exact hj
    have WS:j<n:=by rw[<-Sj];exact gg
    have h3:(j+1)*t.size<=n*t.size:=wI _ WS;rw[kK]at h3;rw[show(Ty.arr n t).size=n*t.size from rfl,uP _ _ _ _ _ (by omega),JS];by_cases ZP:i.toNat=j
    ·rw[qn ZP];subst ZP;show zM w' g' (some (id,pre++[Step.idx ((i.toNat:Nat):Int)])) t d' _;rw[OZ];exact ub
    ·rw[qP ZP,YI _ _ (by
      rcases Z3v ZP with KQ|hgt
      ·right;have h3:(i.toNat+1)*t.size<=j*t.size:=wI _ KQ;rw[kK]at h3;omega
      ·left;have h3:(j+1)*t.size<=i.toNat*t.size:=wI _ hgt;rw[kK]at h3;omega)]
     refine zM.move hn.ro (o:=some (id,pre++[Step.idx (j:Int)])) (o':=some (id,pre++[Step.idx (j:Int)])) (hn.side (λz hz=>?_) (λz hz=>?_)) (z8g j gg)
     ·rw[XQ,Z4o]at hz;obtain⟨y,hy⟩:=hz;simp only[Qm,JD,CA,Step.idx.injEq]at hy;exact ZP (by rw[hy.1];simp)
     ·rw[jm]at hz;simp only[Tag.row.injEq,X3]at hz;rcases halt with rfl|⟨_,⟨y,hy⟩⟩
      ·rw[ze]at jm;simp only[Tag.row.injEq,X3]at jm;rw[<-jm]at hz;have:=Wm List.length hz;simp at this;omega
      ·rw[<-hy,XQ,XQ]at hz;have:=Z4p hz;simp only[Qm,JD,CA,Step.idx.injEq]at this
       exact ZP (by rw[this.1];simp)
 |.int _ |.bool |.str |.unit |.sl false _ |.ptr _ |.fn _ _ |.tree _=>by
  intro wM;simp[vj]at wM
theorem z65{w:World}{g:z8}{id:Nat}:{t:Ty}->{pre:Path}->{d:t.den}->{p:Path}->{k:(u:Ty)->u.den->Option R}->{r:R}->{b off:Nat}->{c:Array Value}->{e:TypeId}->{pb:Path}->
  g.tag b=.row id pb->w.heap[b]? = some (.cells c e (0,0))->off+t.size<=c.size->zM w g (some (id,pre)) t d (qi c.toList off t.size)->zR t d p k=some r->
  ∃(u:Ty)(x:u.den)(bh oh:Nat)(ch:Array Value)(eh:TypeId)(ph:Path),k u x=some r/\place g id t pre b off p=some (bh,oh)/\Wv t p=some u.sk/\Ko t p=some u/\g.tag bh=.row id ph/\
   w.heap[bh]? = some (.cells ch eh (0,0))/\oh+u.size<=ch.size/\zM w g (some (id,pre++p)) u x (qi ch.toList oh u.size)
 |t,pre,d,[],k,r,b,off,c,e,pb,ze,zZ,ql,zN,h=>by
  have h':k t d=some r:=by cases t<;>simpa[zR]using h
  exact⟨t,d,b,off,c,e,pb,h',by simp[place],by simp[Wv],by simp[Ko],ze,zZ,ql,by simpa using zN⟩
 |.pair ta tb,pre,(x,y),.fst::q,k,r,b,off,c,e,pb,ze,zZ,ql,zN,h=>by
  have ZA:c.toList.length=c.size:=gT;simp only[zR]at h;obtain⟨c1,c2,hcc,h1,h2⟩:=zN;have hs:off+(ta.size+tb.size)<=c.size:=ql;have Le:qi c.toList off (ta.size+tb.size)=c1++c2:=hcc;rw[Qx c.toList off ta.size tb.size (by omega)]at Le;obtain⟨e1,e2⟩:=Z3c Le (by rw[yO (by omega),h1.len]);rw[<-e1]at h1;have h1:zM w g (some (id,pre++[Step.fst])) ta x (qi c.toList off ta.size):=h1;have:=z65 (pre:=pre++[.fst]) ze zZ (by omega) h1 h
  simpa[place,Wv,Ko]using this
 |.pair ta tb,pre,(x,y),.snd::q,k,r,b,off,c,e,pb,ze,zZ,ql,zN,h=>by
  have ZA:c.toList.length=c.size:=gT;simp only[zR]at h;obtain⟨c1,c2,hcc,h1,h2⟩:=zN;have hs:off+(ta.size+tb.size)<=c.size:=ql;have Le:qi c.toList off (ta.size+tb.size)=c1++c2:=hcc;rw[Qx c.toList off ta.size tb.size (by omega)]at Le;obtain⟨e1,e2⟩:=Z3c Le (by rw[yO (by omega),h1.len]);rw[<-e2]at h2;have h2:zM w g (some (id,pre++[Step.snd])) tb y (qi c.toList (off+ta.size) tb.size):=h2;have:=z65 (pre:=pre++[.snd]) ze zZ (by omega) h2 h
  simpa[place,Wv,Ko]using this
 |.arr n t,pre,d,.idx i::q,k,r,b,off,c,e,pb,ze,zZ,ql,zN,h=>by
  have ZA:c.toList.length=c.size:=gT;have hs:off+n*t.size<=c.size:=ql;simp only[zR,Zh]at h;obtain⟨x,hx,h⟩:=h;obtain⟨h0,hi,rfl,yP⟩:=jt hx;have OZ:((i.toNat:Nat):Int)=i:=Z2o h0;obtain⟨Sj,Kb,vw⟩:=zN;have u6:i.toNat<n:=by rw[<-Sj];exact hi
  have hmul:(i.toNat+1)*t.size<=n*t.size:=wI _ u6;rw[kK]at hmul;have xJ:zM w g (some (id,pre++[Step.idx ((i.toNat:Nat):Int)])) t _ _:=vw _ hi;rw[OZ,show(Ty.arr n t).size=n*t.size from rfl,uP _ _ _ _ _ (by omega)]at xJ;have:=z65 (pre:=pre++[.idx i]) ze zZ (by omega) xJ h
  simpa[place,Wv,Ko]using this
 |.sl true t,pre,d,.idx i::q,k,r,b,off,c,e,pb,ze,zZ,ql,zN,h=>by
  simp only[zR,Zh]at h;obtain⟨x,hx,h⟩:=h;obtain⟨h0,hi,rfl,yP⟩:=jt hx;have OZ:((i.toNat:Nat):Int)=i:=Z2o h0;obtain⟨a,cap,Zw,yU,Kb,QR,wJ⟩:=zN;rcases wJ with⟨_,hl,_⟩|⟨b2,o2,c2,e2,rfl,GP,uQ,ZX,vw⟩
  ·rw[hl]at hi;simp at hi
  ·have JX:(i.toNat+1)*t.size<=cap*t.size:=wI _ (by omega);rw[kK]at JX;have xJ:=vw _ hi;rw[OZ]at xJ;have:=z65 (pre:=pre++[.idx i]) GP uQ (by omega) xJ h
   simpa[place,Wv,Ko,yU]using this
 |.sl true _,_,_,.fst::_,_,_,_,_,_,_,_,_,_,_,_,h=>by simp[zR]at h
 |.sl true _,_,_,.snd::_,_,_,_,_,_,_,_,_,_,_,_,h=>by simp[zR]at h
 |.sl false _,_,_,s::_,_,_,_,_,_,_,_,_,_,_,_,h=>by cases s<;>simp[zR]at h
 |.int _,_,_,s::_,_,_,_,_,_,_,_,_,_,_,_,h=>by cases s<;>simp[zR]at h
 |.bool,_,_,s::_,_,_,_,_,_,_,_,_,_,_,_,h=>by cases s<;>simp[zR]at h
 |.str,_,_,s::_,_,_,_,_,_,_,_,_,_,_,_,h=>by cases s<;>simp[zR]at h
 |.unit,_,_,s::_,_,_,_,_,_,_,_,_,_,_,_,h=>by cases s<;>simp[zR]at h
 |.ptr _,_,_,s::_,_,_,_,_,_,_,_,_,_,_,_,h=>by cases s<;>simp[zR]at h
 |.fn _ _,_,_,s::_,_,_,_,_,_,_,_,_,_,_,_,h=>by cases s<;>simp[zR]at h
 |.tree _,_,_,s::_,_,_,_,_,_,_,_,_,_,_,_,h=>by cases s<;>simp[zR]at h
 |.pair _ _,_,(_,_),.idx _::_,_,_,_,_,_,_,_,_,_,_,_,h=>by simp[zR]at h
 |.arr _ _,_,_,.fst::_,_,_,_,_,_,_,_,_,_,_,_,h=>by simp[zR]at h
 |.arr _ _,_,_,.snd::_,_,_,_,_,_,_,_,_,_,_,_,h=>by simp[zR]at h
def At(w:World)(g:z8)(id:Nat)(t:Ty)(l:List t.den)(p:Path):Prop:=
 zM w g (some (id,[])) (.sl true t) l [g.sv id []]\/∃d j q,p=.idx j::q/\d<=j/\TK w g id t l d
theorem z0r{R:Type}{h:Option PB}{p:Path}{x:Option R}{r:R}(hx:z0s h p x=some r):x=some r/\(h=none\/∃d j q,h=some (.low d)/\p=.idx j::q/\d<=j):=by
 unfold z0s at hx;split at hx
 ·exact⟨hx,.inl rfl⟩
 ·rename_i d j q;simp only[qV]at hx
  cases hb:decide (d<=j) with
  |false=>rw[hb]at hx;simp at hx
  |true=>rw[hb]at hx;exact⟨hx,.inr ⟨d,j,q,rfl,rfl,X1 hb⟩⟩
 ·simp at hx
theorem Vh{w:World}{g:z8}{σ:St}(hh:yH w g σ.z6){pt:Bool}{id:Nat}{p:Path}{ep:Nat}{k:(u:Ty)->u.den->Option R}{r:R}(h:pI σ pt id p ep k=some r):
  ∃t l e i h0,σ.z6 id=some (.nest t l e i h0)/\Hr pt p e i=ep/\At w g id t l p/\zR (.sl true t) l p k=some r:=by
 unfold pI at h;split at h
 ·rename_i t l e i h0 ho
  cases hb:Nat.beq (Hr pt p e i) ep with
  |false=>rw[hb]at h;simp at h
  |true=>
   rw[hb]at h;obtain⟨h,hl⟩:=z0r h;refine⟨t,l,e,i,h0,ho,zE hb,?_,h⟩;rcases hl with rfl|⟨d,j,q,rfl,rfl,hd⟩
   ·exact .inl (hh.z6 id _ ho)
   ·exact .inr ⟨d,j,q,rfl,hd,hh.z6 id _ ho⟩
 ·simp at h
theorem At.elem{w:World}{g:z8}{id:Nat}{t:Ty}{l:List t.den}{j:Int}{q:Path}(h:At w g id t l (.idx j::q))(h0:0<=j)(hi:j.toNat<l.length):
  ∃b off c e cap,g.sv id []=.slice (some ⟨b,off,none⟩) l.length cap/\l.length<=cap/\cap<=maxLen/\g.tag b=.row id []/\w.heap[b]? = some (.cells c e (0,0))/\off+cap*t.size<=c.size/\
   zM w g (some (id,[.idx j])) t (l.get ⟨j.toNat,hi⟩) (qi c.toList (off+j.toNat*t.size) t.size):=by
 have OZ:((j.toNat:Nat):Int)=j:=Z2o h0;rcases h with⟨a,cap,Zw,yU,Kb,QR,wJ⟩|⟨d,j',q',he,hd,_,b,off,c,e,cap,h1,h2,h3,h4,h5,h6,h7⟩
 ·rcases wJ with⟨_,hl,_⟩|⟨b2,o2,c2,e2,rfl,GP,uQ,ZX,vw⟩
  ·rw[hl]at hi;simp at hi
  ·have xJ:=vw _ hi;rw[OZ]at xJ;exact⟨b2,o2,c2,e2,cap,yU,Kb,QR,GP,uQ,ZX,xJ⟩
 ·simp only[CA,Step.idx.injEq]at he;obtain⟨rfl,rfl⟩:=he;have:=h7 _ hi (by omega);rw[OZ]at this;exact⟨b,off,c,e,cap,h1,h2,h3,h4,h5,h6,this⟩
theorem Z6{w:World}{g:z8}{id:Nat}{t:Ty}{l:List t.den}{s:Step}{p:Path}{k:(u:Ty)->u.den->Option R}{r:R}(zN:At w g id t l (s::p))
  (h:zR (.sl true t) l (s::p) k=some r):∃(u:Ty)(x:u.den)(bh oh:Nat)(ch:Array Value)(eh:TypeId)(ph:Path),k u x=some r/\place g id (.sl true t) [] 0 0 (s::p)=some (bh,oh)/\
   Wv (.sl true t) (s::p)=some u.sk/\Ko (.sl true t) (s::p)=some u/\g.tag bh=.row id ph/\w.heap[bh]? = some (.cells ch eh (0,0))/\oh+u.size<=ch.size/\zM w g (some (id,s::p)) u x (qi ch.toList oh u.size):=by
 cases s with
 |fst=>simp[zR]at h
 |snd=>simp[zR]at h
 |idx i=>
  simp only[zR,Zh]at h;obtain⟨x,hx,h⟩:=h;obtain⟨h0,hi,rfl,yP⟩:=jt hx;obtain⟨b2,o2,c2,e2,cap,yU,Kb,_,GP,uQ,ZX,xJ⟩:=zN.elem h0 hi;have JX:(i.toNat+1)*t.size<=cap*t.size:=wI _ (by omega);rw[kK]at JX;have:=z65 (pre:=[.idx i]) GP uQ (by omega) xJ h;simpa[place,Wv,Ko,yU]using this
theorem Gv{w:World}{g:z8}{σ:St}(hh:yH w g σ.z6){id:Nat}{p:Path}{ep:Nat}{k:(v:Ty)->List v.den->Option R}{r:R}(h:ZN σ id p ep k=some r):
  ∃t l0 e i h0 v l,σ.z6 id=some (.nest t l0 e i h0)/\Hr false p e i=ep/\zM w g (some (id,p)) (.sl true v) l [g.sv id p]/\k v l=some r/\vj (.sl true t) p=some v/\∃x,place g id (.sl true t) [] 0 0 p=some x:=by
 unfold ZN at h;obtain⟨t,l0,e,i,h0,ho,Fo,zN,h⟩:=Vh hh h
 cases p with
 |nil=>
  have h':k t l0=some r:=by simpa[zR]using h
  rcases zN with zN|⟨_,_,_,he,_⟩
  ·exact⟨t,l0,e,i,h0,t,l0,ho,Fo,zN,h',rfl,(0,0),by simp[place]⟩
  ·simp at he
 |cons s q=>
  obtain⟨u,x,bh,oh,ch,eh,ph,hk,gX,_,JZ,_,_,_,hr⟩:=Z6 zN h
  cases u with
  |sl o v=>
   cases o with
   |false=>simp at hk
   |true=>
    refine⟨t,l0,e,i,h0,v,x,ho,Fo,?_,hk,Ak JZ,_,gX⟩;obtain⟨a,cap,Zw,yU,h1⟩:=hr
    exact⟨a,cap,by rw[yU],yU,h1⟩
  |_=>simp at hk
end Go.Kz
namespace Go.Kz
variable {R:Type}
def Fk(g:z8):z8:={ g with tag:=λb=>match g.tag b with
 |.qw=>.qw
 |_=>.ro }
theorem Jd(w:World)(g:z8):zS w g w (Fk g):=⟨λb hb=>⟨by simp[Fk,hb],rfl⟩⟩
theorem YY(w:World)(g:z8)(id:Nat)(p:Path):Jw w g w (Fk g) id p:=⟨λq b hb=>⟨by simp[Fk,hb],rfl⟩⟩
theorem RG{g:z8}{b id:Nat}{p:Path}(h:g.tag b=.row id p):(Fk g).tag b=.ro:=by simp[Fk,h]
theorem Ty.gO:(t:Ty)->t.ro.zW=true
 |.int _=>rfl
 |.bool=>rfl
 |.str=>rfl
 |.unit=>rfl
 |.pair a b=>by simp[Ty.ro,Ty.zW,Ty.gO a,Ty.gO b]
 |.arr _ t=>by simp[Ty.ro,Ty.zW,Ty.gO t]
 |.sl _ t=>by simp[Ty.ro,Ty.zW,Ty.gO t]
 |.ptr t=>by simp[Ty.ro,Ty.zW,Ty.gO t]
 |.fn _ c=>by simp[Ty.ro,Ty.zW,Ty.gO c]
 |.tree _=>rfl
theorem QT:{t:Ty}->{d:t.den}->{p:Path}->{k:(u:Ty)->u.den->Option R}->{r:R}->t.zW=true->zR t d p k=some r->
  ∃u e,k u e=some r/\u.zW=true
 |t,d,[],k,r,ht,h=>⟨t,d,by grind[zR],ht⟩
 |.pair a b,(x,y),.fst::p,k,r,ht,h=>by
  simp only[zR]at h;simp only[Ty.zW,zA]at ht
  exact QT ht.1 h
 |.pair a b,(x,y),.snd::p,k,r,ht,h=>by
  simp only[zR]at h;simp only[Ty.zW,zA]at ht
  exact QT ht.2 h
 |.arr n t,l,.idx i::p,k,r,ht,h=>by
  simp only[zR,Zh]at h;obtain⟨x,_,h⟩:=h
  exact QT (by grind[Ty.zW]) h
 |.sl true t,l,.idx i::p,k,r,ht,h=>by grind[Ty.zW]
 |.sl false t,l,s::p,k,r,ht,h=>by grind[zR]
 |.sl true t,l,.fst::p,k,r,ht,h=>by simp[zR]at h
 |.sl true t,l,.snd::p,k,r,ht,h=>by simp[zR]at h
 |.int _,_,s::_,_,_,_,h=>by grind[zR]
 |.bool,_,s::_,_,_,_,h=>by grind[zR]
 |.str,_,s::_,_,_,_,h=>by grind[zR]
 |.unit,_,s::_,_,_,_,h=>by grind[zR]
 |.ptr _,_,s::_,_,_,_,h=>by grind[zR]
 |.fn _ _,_,s::_,_,_,_,h=>by grind[zR]
 |.tree _,_,s::_,_,_,_,h=>by grind[zR]
 |.pair _ _,_,.idx _::_,_,_,_,h=>by simp[zR]at h
 |.arr _ _,_,.fst::_,_,_,_,h=>by simp[zR]at h
 |.arr _ _,_,.snd::_,_,_,_,h=>by simp[zR]at h
theorem uk{g:z8}{id:Nat}:{t:Ty}->{pre:Path}->{b off:Nat}->{q:Path}->{o:Nat}->{s:Sk}->t.sk.off q=some (o,s)->place g id t pre b off q=some (b,off+o)
 |t,pre,b,off,[],o,s,h=>by
  grind[Sk.off,place]
 |.pair a c,pre,b,off,.fst::q,o,s,h=>by
  simp only[Ty.sk,Sk.off]at h;simp only[place]
  exact uk h
 |.pair a c,pre,b,off,.snd::q,o,s,h=>by
  simp only[Ty.sk,Sk.off,kT,p8]at h;obtain⟨⟨o',s'⟩,h,rfl,rfl⟩:=h
  simp only[place,uk h,Ty.zX,Z2e]
 |.arr n t,pre,b,off,.idx i::q,o,s,h=>by
  simp only[Ty.sk,Sk.off]at h;split at h
  ·simp only[kT,p8]at h;obtain⟨⟨o',s'⟩,h,rfl,rfl⟩:=h;simp only[place,uk h,Ty.zX,Z2e]
  grind
 |.int _,_,_,_,s::_,_,_,h=>by grind[Ty.sk,Sk.off]
 |.bool,_,_,_,s::_,_,_,h=>by grind[Ty.sk,Sk.off]
 |.str,_,_,_,s::_,_,_,h=>by grind[Ty.sk,Sk.off]
 |.unit,_,_,_,s::_,_,_,h=>by grind[Ty.sk,Sk.off]
 |.ptr _,_,_,_,s::_,_,_,h=>by grind[Ty.sk,Sk.off]
 |.fn _ _,_,_,_,s::_,_,_,h=>by grind[Ty.sk,Sk.off]
 |.tree _,_,_,_,s::_,_,_,h=>by grind[Ty.sk,Sk.off]
 |.sl _ _,_,_,_,s::_,_,_,h=>by grind[Ty.sk,Sk.off]
 |.pair _ _,_,_,_,.idx _::_,_,_,h=>by simp[Ty.sk,Sk.off]at h
 |.arr _ _,_,_,_,.fst::_,_,_,h=>by simp[Ty.sk,Sk.off]at h
 |.arr _ _,_,_,_,.snd::_,_,_,h=>by simp[Ty.sk,Sk.off]at h
theorem XA:{t:Ty}->{q:Path}->{o:Nat}->{s:Sk}->t.sk.off q=some (o,s)->Wv t q=some s
 |t,[],o,s,h=>by
  grind[Sk.off,Wv]
 |.pair a c,.fst::q,o,s,h=>by
  simp only[Ty.sk,Sk.off]at h
  simp only[Wv];exact XA h
 |.pair a c,.snd::q,o,s,h=>by
  simp only[Ty.sk,Sk.off,kT,p8]at h;obtain⟨⟨o',s'⟩,h,rfl,rfl⟩:=h
  simp only[Wv];exact XA h
 |.arr n t,.idx i::q,o,s,h=>by
  simp only[Ty.sk,Sk.off]at h;split at h
  ·simp only[kT,p8]at h;obtain⟨⟨o',s'⟩,h,rfl,rfl⟩:=h;simp only[Wv];exact XA h
  grind
 |.int _,s::_,_,_,h=>by grind[Ty.sk,Sk.off]
 |.bool,s::_,_,_,h=>by grind[Ty.sk,Sk.off]
 |.str,s::_,_,_,h=>by grind[Ty.sk,Sk.off]
 |.unit,s::_,_,_,h=>by grind[Ty.sk,Sk.off]
 |.ptr _,s::_,_,_,h=>by grind[Ty.sk,Sk.off]
 |.fn _ _,s::_,_,_,h=>by grind[Ty.sk,Sk.off]
 |.tree _,s::_,_,_,h=>by grind[Ty.sk,Sk.off]
 |.sl _ _,s::_,_,_,h=>by grind[Ty.sk,Sk.off]
 |.pair _ _,.idx _::_,_,_,h=>by simp[Ty.sk,Sk.off]at h
 |.arr _ _,.fst::_,_,_,h=>by simp[Ty.sk,Sk.off]at h
 |.arr _ _,.snd::_,_,_,h=>by simp[Ty.sk,Sk.off]at h
theorem kR{w:World}{g:z8}{σ:St}(hh:yH w g σ.z6){id:Nat}{p:Path}{ep:Nat}{k:(u:Ty)->List u.den->Option R}{r:R}
  (h:p7 σ id p ep k=some r):∃t l,σ.z6 id=some (.row t l ep)/\p=[]/\t.zW=true/\k t l=some r:=by
 unfold p7 at h;split at h
 ·rename_i t l e ho;have zc:=hh.z6 id _ ho
  cases hb:Nat.beq e ep with
  |false=>grind
  |true=>
   rw[hb]at h;have he:e=ep:=zE hb;subst he;simp only[zJ,AP]at h
   cases p with
   |nil=>
    have h':k t l=some r:=by grind[zR]
    exact⟨t,l,ho,rfl,zc.1,h'⟩
   |cons s q=>
    cases s with
    |idx i=>
     simp only[zR,Zh]at h;obtain⟨x,_,h⟩:=h;obtain⟨u,e',hu,qU⟩:=QT zc.1 h
     grind[Ty.zW]
    |fst=>simp[zR]at h
    |snd=>simp[zR]at h
 grind
theorem xf{w:World}{g:z8}{σ:St}(hh:yH w g σ.z6){id:Nat}{p:Path}{ep:Nat}{k:(u:Ty)->u.den->Option R}{r:R}(hp:p≠[])
  (h:kZ σ id p ep k=some r):∃t l u e b off c ee,σ.z6 id=some (.row t l ep)/\t.zW=true/\k u e=some r/\u.zW=true/\
   place g id (.sl true t) [] 0 0 p=some (b,off)/\Wv (.sl true t) p=some u.sk/\g.tag b=.row id []/\w.heap[b]? = some (.cells c ee (0,0))/\off+u.size<=c.size/\zM w g none u e (qi c.toList off u.size):=by
 unfold kZ at h;split at h
 ·rename_i t l e ho;have zc:=hh.z6 id _ ho
  cases hb:Nat.beq e ep with
  |false=>grind
  |true=>
   rw[hb]at h;have he:e=ep:=zE hb;subst he;simp only[zJ,AP]at h
   cases p with
   |nil=>grind
   |cons s q=>
    cases s with
    |idx i=>
     simp only[zR,Zh]at h;obtain⟨x,hx,h⟩:=h;obtain⟨h0,hi,rfl,yP⟩:=jt hx;obtain⟨a,cap,Zw,yU,Kb,QR,wJ⟩:=zc.2;rcases wJ with⟨_,hl,_⟩|⟨b,off,c,ee,ha,ze,zZ,ql,GA⟩
     ·omega
     ·have vw:=zM.yy (o':=none) zc.1 (GA _ hi);obtain⟨u,e',o,hk,hu,jH,hr⟩:=QS zc.1 vw h;have hle:=Sk.we jH;rw[Ty.zX,Ty.zX]at hle;have JX:(i.toNat+1)*t.size<=cap*t.size:=wI _ (by omega);rw[kK]at JX;refine⟨t,l,u,e',b,off+i.toNat*t.size+o,c,ee,ho,zc.1,hk,hu,?_,by grind[Wv,XA],ze,zZ,by omega,?_⟩
      ·simp only[place,yU,ha,JD];exact uk jH
      grind[uP]
    |fst=>simp[zR]at h
    |snd=>simp[zR]at h
 grind
theorem DW{w:World}{g:z8}{σ:St}(hh:yH w g σ.z6){id:Nat}{p:Path}{k:z7->Option R}{r:R}
  (h:VD σ id p k=some r):∃a a' off c e,σ.z6 id=some (.cell a)/\k a'=some r/\a.sk.off p=some (off,a'.sk)/\
   w.heap[g.qY id]? = some (.cells c e (0,0))/\g.tag (g.qY id)=.box id/\off+a'.sk.size<=c.size/\jO w g σ.z6 a c.toList/\jO w g σ.z6 a' (qi c.toList off a'.sk.size)/\∀m,m∉a.ids->m∉a'.ids:=by
 unfold VD at h;split at h
 ·rename_i a ho;obtain⟨hnt,h⟩:=Z5 h;obtain⟨c,e,hc,ht,zc⟩:=(hh.z6 id _ ho).out hnt;obtain⟨a',off,hk,jH,hr,hi⟩:=Zg zc h;refine⟨a,a',off,c,e,ho,hk,jH,hc,ht,?_,zc,hr,hi⟩;have:=Sk.we jH;have h2:=zc.len
  grind
 grind
theorem zg4{w:World}{g:z8}{z6:qQ}{id:Nat}{a x:z7}(hc:a.cont=some x)(h:qz w g z6 id (.cell a)):
  ∃c e,w.heap[g.qY id]? = some (.cells c e (0,0))/\(g.tag (g.qY id)=.box id\/g.tag (g.qY id)=.ro)/\jO w g z6 x c.toList/\x.sk=a.sk/\x.ids=a.ids:=by
 cases ht:a.kI with
 |true=>
  cases a<;>simp[z7.kI]at ht;rename_i c;cases c<;>simp[z7.cont]at hc
  ·subst hc;obtain⟨c,e,h1,h2,h3⟩:=(qz.W7 rfl).1 h;exact⟨c,e,h1,.inr h2,h3,rfl,rfl⟩
  ·subst hc;obtain⟨c,e,h1,h2,h3⟩:=(qz.W7 rfl).1 h
   exact⟨c,e,h1,.inr h2,h3,rfl,rfl⟩
 |false=>
  obtain⟨c,e,h1,h2,h3⟩:=h.out ht;have hx:x=a:=by
   cases a<;>simp[z7.kI]at ht<;>simp[z7.cont]at hc<;>exact hc.symm
  grind
theorem Qi{w:World}{g:z8}{σ:St}(hh:yH w g σ.z6){id:Nat}{p:Path}{k:z7->Option R}{r:R}
  (h:uD σ id p k=some r):∃a a' off c e,σ.z6 id=some (.cell a)/\k a'=some r/\a.sk.off p=some (off,a'.sk)/\
   w.heap[g.qY id]? = some (.cells c e (0,0))/\(g.tag (g.qY id)=.box id\/g.tag (g.qY id)=.ro)/\off+a'.sk.size<=c.size/\jO w g σ.z6 a' (qi c.toList off a'.sk.size)/\∀m,m∉a.ids->m∉a'.ids:=by
 unfold uD at h;split at h
 ·rename_i a ho;split at h
  ·rename_i x hx;obtain⟨c,e,hc,ht,zc,po,gA⟩:=zg4 hx (hh.z6 id _ ho);obtain⟨a',off,hk,jH,hr,hi⟩:=Zg zc h;refine⟨a,a',off,c,e,ho,hk,by grind,hc,ht,?_,hr,λm hm=>hi m (by grind)⟩;have:=Sk.we jH;have h2:=zc.len
   grind
  grind
 grind
theorem Z0{I:Type}(l:List I)(a b:Int)(h0:0<=a)(Kh:a<=b)(hb:b<=(l.length:Int)):(sub l a b).length=b.toNat-a.toNat:=by
 grind[sub]
theorem Kt{I:Type}(l:List I)(a b:Int)(i:Nat)(h:i<(sub l a b).length)(h':a.toNat+i<l.length):(sub l a b).get ⟨i,h⟩=l.get ⟨a.toNat+i,h'⟩:=by
 grind[sub]
theorem zM.z47{w:World}{g:z8}{k:Nat}{l:List (Rec k)}{cs:List Value}:zM w g none (.sl false (.tree k)) l cs↔zM w g none (.sl false (.pair (xq k) (xz k))) (List.map (jR k) l) cs:=by
 have hz:(Ty.tree k).size=(Ty.pair (xq k) (xz k)).size:=AF k;have hl:(List.map (jR k) l).length=List.length l:=J9 ..;have vw:∀(i:Nat) (h:i<List.length l) (h':i<(List.map (jR k) l).length) cs,zM w g none (.tree k) (List.get l ⟨i,h⟩) cs↔zM w g none (.pair (xq k) (xz k)) ((List.map (jR k) l).get ⟨i,h'⟩) cs:=λi h h' cs=>by
  rw[zM.Ks];simp
 constructor
 ·rintro⟨a,cap,rfl,h1,h2,h3⟩;refine⟨a,cap,?_,?_,h2,λhn=>?_⟩
  all_goals simp_all
 ·rintro⟨a,cap,rfl,h1,h2,h3⟩;have Lf:(List.map (jR k) l).length<=cap:=h1;refine⟨a,cap,?_,?_,h2,λhn=>?_⟩
  ·grind
  ·omega
  obtain⟨b,off,c,e,fz,ha,ht,hb,hs,he⟩:=h3 (by grind);refine⟨b,off,c,e,fz,ha,ht,hb,?_,λi hi=>?_⟩
  all_goals grind
theorem Bj(k:Nat)(l:List ((xq k).den×(xz k).den)):List.map (jR k) (List.map (wo k) l)=l:=by
 rw[Oo];exact(TV λy _=>Db k y).trans (List.map_id l)
theorem Vu{a b:Ty}{d:a.den}{k:b.den->Option R}{r:R}(h:kO a b d k=some r):a.sk=b.sk:=by
 unfold kO at h;split at h
 ·rfl
 ·rfl
 grind[yz]
theorem vr{a b:Ty}{d:a.den}{k:b.den->Option R}{r:R}(h:kO a b d k=some r)(ha:a.zW=true):∃d',k d'=some r/\b.zW=true/\∀w g cs,zM w g none a d cs->zM w g none b d' cs:=by
 unfold kO at h;split at h
 ·obtain⟨e,h⟩:=yz h;cases e;exact⟨_,h,by grind[Ty.zW,z52],λw g cs hr=>zM.z47.1 hr⟩
 ·obtain⟨e,h⟩:=yz h;cases e;refine⟨_,h,rfl,λw g cs hr=>zM.z47.2 ?_⟩
  grind[Bj]
 grind[yz]
theorem pY{w:World}{g:z8}{σ:St}(hh:yH w g σ.z6):(n:Nat)->{a:z7}->{t:Ty}->{k:t.den->Option R}->{r:R}->{cs:List Value}->
  jO w g σ.z6 a cs->asData σ n a t k=some r->∃d,k d=some r/\t.zW=true/\zM w (Fk g) none t d cs
 |0,_,_,_,_,_,_,h=>by simp[asData]at h
 |n+1,.data t' d,t,k,r,cs,zc,h=>by
  simp only[asData]at h;obtain⟨_,h,qU,zN⟩:=vr h zc.1
  exact⟨_,h,qU,zN _ _ _ (zc.2.kept (Jd w g))⟩
 |n+1,.za,t,k,r,cs,zc,h=>by
  simp only[asData]at h
  cases hb:t.zW with
  |false=>grind
  |true=>
   rw[hb]at h
   cases t with
   |sl o t=>
    cases o with
    |true=>grind[Ty.zW]
    |false=>
     refine⟨([]:List t.den),h,rfl,?_⟩;have Uk:cs=[.slice none 0 0]:=zc;subst Uk
     exact⟨none,0,rfl,jq _,v8 _,λhn=>absurd rfl hn⟩
   |_=>simp[FC]at h
 |n+1,.ref id p ep,t,k,r,cs,zc,h=>by
  simp only[asData]at h;obtain⟨v,l,ho,rfl,qU,h⟩:=kR hh h;obtain⟨_,h,gU,GU⟩:=vr h (Ty.gO _);obtain⟨x,rfl,_,hx⟩:=zc;have QF:=(hx _ _ _ ho).2 rfl;have zg:=hh.z6 id _ ho;refine⟨_,h,gU,GU _ _ _ ?_⟩;have:=zM.freeze (Jd w g) (o:=some (id,[])) (YY w g id []) zg.2;rw[QF]
  exact this
 |n+1,.view id p ep a b,t,k,r,cs,zc,h=>by
  simp only[asData]at h;obtain⟨v,l,ho,rfl,qU,h⟩:=kR hh h;obtain⟨_,h,gU,GU⟩:=vr h (Ty.gO _);obtain⟨x,rfl,_,hx⟩:=zc;obtain⟨_,h0,Kh,Vo,hv⟩:=(hx _ _ _ ho).2 rfl;have zg:=hh.z6 id _ ho;refine⟨_,h,gU,GU _ _ _ ?_⟩;obtain⟨ad,cap,Zw,yU,Kb,QR,wJ⟩:=zg.2;have hlen:=Z0 l a b h0 Kh Vo;show zM w (Fk g) none (.sl false v.ro) (Ty.kU (.sl false v) (sub l a b)) [x];rw[VF,hv,yU];have Sj:(List.map (Ty.kU v) (sub l a b)).length=(b-a).toNat:=by grind
  refine⟨_,cap-a.toNat,by simp only[j5];rw[Sj],by omega,by omega,λva=>?_⟩;have z16:0<(b-a).toNat:=by
   grind
  rcases wJ with⟨_,hl,_⟩|⟨bk,off,c,ee,ha,ze,zZ,ql,GA⟩
  ·omega
  ·subst ha;refine⟨bk,off+a.toNat*v.size,c,ee,(0,0),?_,RG ze,zZ,?_,λi hi=>?_⟩
   ·rw[qP (by omega)];simp_all[Addr.add]
   ·rw[Sj,Ty.qo];have:(b-a).toNat+a.toNat<=cap:=by omega
    have:=wI v.size this
    grind
   ·have Eu:i<(sub l a b).length:=by omega
    have Fl:a.toNat+i<l.length:=by omega
    have he:=zM.freeze (Jd w g) (o:=some (id,[]++[Step.idx ((a.toNat+i:Nat):Int)])) (YY w g id _) (GA (a.toNat+i) Fl);rw[R3,R0];have hg:=Kt l a b i Eu Fl;rw[R3]at hg;rw[hg,Ty.qo]
    grind
 |n+1,.zw id p,t,k,r,cs,zc,h=>by
  cases t with
  |ptr t=>
   simp only[asData]at h;obtain⟨a,a',off,c,e,ho,hk,jH,hc,ht,ql,QI,_⟩:=Qi hh h;obtain⟨d,hd,qU,zN⟩:=pY hh n QI hk;obtain⟨v,rfl,_,hv⟩:=zc;obtain⟨K8,s,kL,rfl⟩:=hv _ ho;rw[jH]at kL;simp only[zI,p8]at kL;obtain⟨rfl,_⟩:=kL;have hl:=zN.len;rw[yO (by omega)]at hl;refine⟨d,hd,qU,?_⟩
   exact⟨g.qY id,off,c,e,(0,0),rfl,by grind[Fk],hc,by omega,by grind⟩
  |_=>simp[asData]at h
 |n+1,.jV id p ep,t,k,r,cs,zc,h=>by
  cases t with
  |ptr t=>
   simp only[asData]at h;obtain⟨v,rfl,_,hv⟩:=zc;have zg:∃t l,σ.z6 id=some (.row t l ep):=by
    grind[kZ,zE]
   obtain⟨t0,l0,Ht⟩:=zg;obtain⟨hp,b0,j6,gX,je⟩:=(hv _ _ _ Ht).2 rfl;obtain⟨t1,l1,u,e,b,off,c,ee,ho,qU,hk,hu,gQ,_,ze,zZ,ql,zN⟩:=xf hh hp h;rw[Ht]at ho;simp only[zI,Obj.row.injEq]at ho;obtain⟨rfl,_,_⟩:=ho;rw[gX]at gQ;simp only[zI,p8]at gQ;obtain⟨rfl,rfl⟩:=gQ;obtain⟨rfl,hk⟩:=yz hk;refine⟨_,hk,by grind[Ty.zW,Ty.gO],?_⟩;have hf:=zM.freeze (Jd w g) (o:=none) trivial zN
   exact⟨b0,j6,c,ee,(0,0),by rw[je],RG ze,zZ,by grind[Ty.qo],by grind[Ty.qo]⟩
  |_=>simp[asData]at h
 |n+1,.qW f c,t,k,r,cs,zc,h=>by
  cases t with
  |fn gid t=>
   simp only[asData]at h
   cases hb:Nat.beq f gid with
   |false=>grind
   |true=>
    rw[hb]at h;have he:f=gid:=zE hb;subst he;obtain⟨vs,rfl,hc⟩:=zc;obtain⟨d,hd,qU,zN⟩:=pY hh n hc h
    exact⟨d,hd,qU,vs,rfl,zN⟩
  |_=>simp[asData]at h
 |n+1,.agg c,t,k,r,cs,zc,h=>by
  simp only[asData]at h
  exact pY hh n (a:=c) zc h
 |n+1,.pr a b,t,k,r,cs,zc,h=>by
  cases t with
  |pair t u=>
   simp only[asData]at h;obtain⟨c1,c2,rfl,h1,h2⟩:=zc;obtain⟨x,hx,hrx,zsa⟩:=pY hh n h1 h;obtain⟨y,hy,hry,zs9⟩:=pY hh n h2 hx
   exact⟨(x,y),hy,by grind[Ty.zW],c1,c2,rfl,zsa,zs9⟩
  |_=>simp[asData]at h
 |n+1,.un,t,k,r,cs,zc,h=>by
  cases t with
  |unit=>
   simp only[asData]at h
   exact⟨(),h,rfl,zc⟩
  |_=>simp[asData]at h
 |n+1,.qF _,t,k,r,cs,zc,h=>by grind[asData]
 |n+1,.nv true _ _ _,t,k,r,cs,zc,h=>by grind[asData]
 |n+1,.nv false id p ep,t,k,r,cs,zc,h=>by
  simp only[asData]at h;obtain⟨t0,l0,e,i,_,v,l,ho,Fo,zN,h,_,_⟩:=Gv hh h;obtain⟨_,h,gU,GU⟩:=vr h (Ty.gO _);obtain⟨x,rfl,_,hx⟩:=zc;have QF:=((hx _ _ _ _ _ ho).2 Fo).1 rfl;refine⟨_,h,gU,GU _ _ _ ?_⟩;have:=zM.freeze (Jd w g) (o:=some (id,p)) (YY w g id p) zN;rw[QF]
  exact this
 |n+1,.jD _,t,k,r,cs,zc,h=>zc.elim
end Go.Kz
namespace Go.Kz
variable {R:Type}
section
variable {P:Program}{o:Oper}{a:Act}{w:World}{K:Act->World->Prop}{Q:Exit->Act->World->Prop}{c:Ctx}{σ:St}{g:z8}{k:St->Option R}{r:R}{base:Nat}
theorem pA{f:z7->Option R}{s:Sem Value}(hf:f=λv=>σ.qM c o.dst v k)(hs:Plain f r s P)
  (zn:∀w v,s.run P w=.ok v w->(execOp a.eval o).run P w=.ok (.value v) w):vH P o a w g σ c k r:=by
 subst hf;obtain⟨av,v,h1,h2,h3,h4⟩:=hs.out;exact Qy (λw' _=>zn w' v (h2 w')) (h4 _ _ _) (λm _=>by rw[h3];simp) h1
theorem HB(d:Nat){T:TypeId}(hT:P.underlying T=some .bool)(x y:Bool)(w:World):(Op.equalIn (d+1) T (.bool x) (.bool y)).run P w=.ok (x == y) w:=by
 have hu:=run_underlying hT w;rw[Op.equalIn];rw[Sem.run_bind,hu];rfl
theorem OD{T:TypeId}(hT:P.underlying T=some .bool)(x y:Bool)(w:World):(Op.equal T (.bool x) (.bool y)).run P w=.ok (x == y) w:=
 HB 9999 hT x y w
theorem z5n(wi:gH P c.tt){op:BinOp}{t t':TypeId}{x y:Operand}
  (hS:∀ax ay,ev σ x=some ax->ev σ y=some ay->∀u,c.tt t=some u->
   cond (c.eqs t&&yF u&&ax.val&&ay.val) (asData σ 20 ax u λd=>asData σ 20 ay u λe=>C8 op (Ui u d e) λv=>σ.qM c o.dst v k) none=some r->vH P o a w g σ c k r)
  (ho:o.op=.binOp op t x y t') (zq:zP c.ntmps g w a σ) (h:qq c σ base o k=some r):vH P o a w g σ c k r:=by
 simp only[qq,ho]at h;split at h
 ·rename_i ax ay hx hy;have ex:=(qH zq hx).1;have ey:=(qH zq hy).1;unfold HR at h;split at h
  ·rename_i kx nx ky ny;obtain⟨vx,bx⟩:=jo ex;obtain⟨vy,_⟩:=jo ey
   cases hs:GW op with
   |true=>
    rw[hs]at h
    exact pA rfl (IW (P:=P) (j:=ky) bx t h) (λw v hv=>by simp[execOp,ho,vx,vy,eqGuard,hv])
   |false=>
    rw[hs]at h;simp only[zU]at h;split at h
    ·rename_i hk _;subst hk;exact pA rfl (z2e (P:=P) bx t hs h) (λw v hv=>by simp[execOp,ho,vx,vy,eqGuard,hv])
    ·simp at h
  ·rename_i bx by';have vx:=ZW ex;have vy:=ZW ey;split at h
   ·rename_i htb;have hT:=wi _ _ htb;simp only[qZ]at hT;have hu:=OD hT.1 bx by';refine pA (f:=λv=>σ.qM c o.dst v k) (s:=binOp op t (.bool bx) (.bool by')) rfl ?_ (λw v hv=>by simp[execOp,ho,vx,vy,eqGuard,hv]);cases op<;>simp only[Px]at h
    case eql=>exact Plain.bool h (λw=>by simp only[binOp,Sem.run_bind,hu,Result.andThen_ok,Sem.run_pure])
    case neq=>exact Plain.bool h (λw=>by simp only[binOp,Sem.run_bind,hu,Result.andThen_ok,Sem.run_pure])
    all_goals simp at h
   ·simp at h
  ·rename_i lx ly;obtain⟨sx,vx,rfl,_⟩:=PU ex;obtain⟨sy,vy,rfl,_⟩:=PU ey;exact pA rfl (z2c (P:=P) t h) (λw v hv=>by simp[execOp,ho,vx,vy,eqGuard,hv])
  ·split at h
   ·rename_i u JZ;exact hS ax ay hx hy u JZ h
   ·simp at h
 ·simp at h
theorem zdf{op:UnOp}{t:TypeId}{x:Operand}(ho:o.op=.unOp op t x)(zq:zP c.ntmps g w a σ)(h:qq c σ base o k=some r):vH P o a w g σ c k r:=by
 simp only[qq,ho]at h;split at h
 ·rename_i ax hx;have ex:=(qH zq hx).1;unfold unK at h;split at h
  ·have vx:=ZW ex;exact pA rfl (Plain.bool (s:=Op.unary .not (a.eval x)) h (λ_=>by simp[vx,Op.unary])) (λw v hv=>by simp[execOp,ho,hv])
  ·rename_i kx nx;obtain⟨vx,bx⟩:=jo ex;exact pA rfl (Plain.int (s:=Op.unary .neg (a.eval x)) h (λ_=>by simp[vx,Op.unary,Op.intArith]) (wz _ _)) (λw v hv=>by simp[execOp,ho,hv])
  ·rename_i kx nx;obtain⟨vx,bx⟩:=jo ex;exact pA rfl (Plain.int (s:=Op.unary .xor (a.eval x)) h (λ_=>by simp[vx,Op.unary,Op.intBits]) (wz _ _)) (λw v hv=>by simp[execOp,ho,hv])
  ·simp at h
 ·simp at h
theorem Nh(wi:gH P c.tt){t t':TypeId}{x:Operand}(ho:o.op=.convert t t' x)(zq:zP c.ntmps g w a σ)(h:qq c σ base o k=some r):vH P o a w g σ c k r:=by
 simp only[qq,ho]at h;split at h
 ·rename_i k0 j k1 kd hx ht ht';have ex:=(qH zq hx).1;obtain⟨vx,bx⟩:=jo ex;have h1:=wi _ _ ht;have h2:=wi _ _ ht';simp only[qZ]at h1 h2;have u1:=λw=>run_underlying (P:=P) (w:=w) h1.1
  have u2:=λw=>run_underlying (P:=P) (w:=w) h2.1
  exact pA (f:=λv=>σ.qM c o.dst v k) rfl (Plain.int (s:=convert t t' (a.eval x)) h (λw=>by simp[vx,convert,u1,u2,Conv.intToInt]) (wz _ _)) (λw v hv=>by simp[execOp,ho,hv])
 ·simp at h
theorem Ws{z6:qQ}:{ac:z7}->{vs:List Value}->{i:Nat}->{av:z7}->qj w g z6 ac vs->jX ac i=some av->
  ∃v,vs[i]? = some v/\qy w g z6 av v/\∀m,m∉ac.ids->m∉av.ids
 |.pr x y,vs,0,av,h,ht=>by
  simp only[qj]at h;obtain⟨v,rest,rfl,h1,h2⟩:=h;simp only[jX,zI]at ht;subst ht
  exact⟨v,rfl,h1,λm hm=>by simp[z7.ids]at hm;exact hm.1⟩
 |.pr x y,vs,i+1,av,h,ht=>by
  simp only[qj]at h;obtain⟨v,rest,rfl,h1,h2⟩:=h;simp only[jX]at ht;obtain⟨v',je,h3,h4⟩:=Ws h2 ht
  exact⟨v',by simpa using je,h3,λm hm=>h4 m (by simp[z7.ids]at hm;exact hm.2)⟩
 |.un,_,_,_,_,ht=>by simp[jX]at ht
 |.data _ _,_,_,_,_,ht=>by simp[jX]at ht
 |.za,_,_,_,_,ht=>by simp[jX]at ht
 |.ref _ _ _,_,_,_,_,ht=>by simp[jX]at ht
 |.view _ _ _ _ _,_,_,_,_,ht=>by simp[jX]at ht
 |.zw _ _,_,_,_,_,ht=>by simp[jX]at ht
 |.jV _ _ _,_,_,_,_,ht=>by simp[jX]at ht
 |.qF _,_,_,_,_,ht=>by simp[jX]at ht
 |.nv _ _ _ _,_,_,_,_,ht=>by simp[jX]at ht
 |.qW _ _,_,_,_,_,ht=>by simp[jX]at ht
 |.agg _,_,_,_,_,ht=>by simp[jX]at ht
 |.jD _,_,_,_,_,ht=>by simp[jX]at ht
theorem Nf{x:Operand}{i:Nat}(ho:o.op=.extract x i)(zq:zP c.ntmps g w a σ)(h:qq c σ base o k=some r):vH P o a w g σ c k r:=by
 simp only[qq,ho]at h;split at h
 ·rename_i ac hx;obtain⟨ex,ef⟩:=qH zq hx;simp only[qy]at ex;obtain⟨vs,hv,Uv⟩:=ex;split at h
  ·rename_i av Kf;obtain⟨v,h1,h2,h3⟩:=Ws Uv Kf;refine Qy (v:=v) ?_ h2 (λm hm=>h3 m (by have:=ef m hm;simpa[z7.ids]using this)) h;intro w' _;simp[execOp,ho,hv,Instr.extract,h1]
  ·simp at h
 ·simp at h
theorem J8{z6:qQ}:{ac:z7}->{vs:List Value}->yK ac=true->qj w g z6 ac vs->jO w g z6 ac vs
 |.un,vs,_,h=>by simp only[qj]at h;exact h
 |.pr (.zw id p) y,vs,hp,h=>by
  simp only[qj]at h;obtain⟨v,rest,rfl,h1,h2⟩:=h;simp only[qy]at h1;obtain⟨cs,h1,hv⟩:=h1;have Lf:=h1;obtain⟨x,rfl,_⟩:=h1;have je:v=x:=hv;subst je
  exact⟨[v],rest,rfl,Lf,J8 (by simpa[yK]using hp) h2⟩
 |.pr (.data (.ptr t) d) y,vs,hp,h=>by
  simp only[qj]at h;obtain⟨v,rest,rfl,h1,h2⟩:=h;simp only[qy]at h1;obtain⟨cs,h1,hv⟩:=h1;have Lf:=h1;obtain⟨_,b,off,c,e,fz,rfl,_⟩:=h1;have je:v=.pointer (some ⟨b,off,none⟩):=hv;subst je
  exact⟨_,rest,rfl,Lf,J8 (by simpa[yK]using hp) h2⟩
 |.data _ _,_,hp,_=>by simp[yK]at hp
 |.za,_,hp,_=>by simp[yK]at hp
 |.ref _ _ _,_,hp,_=>by simp[yK]at hp
 |.view _ _ _ _ _,_,hp,_=>by simp[yK]at hp
 |.zw _ _,_,hp,_=>by simp[yK]at hp
 |.jV _ _ _,_,hp,_=>by simp[yK]at hp
 |.qF _,_,hp,_=>by simp[yK]at hp
 |.nv _ _ _ _,_,hp,_=>by simp[yK]at hp
 |.qW _ _,_,hp,_=>by simp[yK]at hp
 |.agg _,_,hp,_=>by simp[yK]at hp
 |.jD _,_,hp,_=>by simp[yK]at hp
 |.pr (.data (.int _) _) _,_,hp,_=>by simp[yK]at hp
 |.pr (.data .bool _) _,_,hp,_=>by simp[yK]at hp
 |.pr (.data .str _) _,_,hp,_=>by simp[yK]at hp
 |.pr (.data .unit _) _,_,hp,_=>by simp[yK]at hp
 |.pr (.data (.pair _ _) _) _,_,hp,_=>by simp[yK]at hp
 |.pr (.data (.arr _ _) _) _,_,hp,_=>by simp[yK]at hp
 |.pr (.data (.sl _ _) _) _,_,hp,_=>by simp[yK]at hp
 |.pr (.data (.fn _ _) _) _,_,hp,_=>by simp[yK]at hp
 |.pr (.data (.tree _) _) _,_,hp,_=>by simp[yK]at hp
 |.pr .za _,_,hp,_=>by simp[yK]at hp
 |.pr (.ref _ _ _) _,_,hp,_=>by simp[yK]at hp
 |.pr (.view _ _ _ _ _) _,_,hp,_=>by simp[yK]at hp
 |.pr (.jV _ _ _) _,_,hp,_=>by simp[yK]at hp
 |.pr (.qF _) _,_,hp,_=>by simp[yK]at hp
 |.pr (.nv _ _ _ _) _,_,hp,_=>by simp[yK]at hp
 |.pr (.qW _ _) _,_,hp,_=>by simp[yK]at hp
 |.pr (.agg _) _,_,hp,_=>by simp[yK]at hp
 |.pr (.jD _) _,_,hp,_=>by simp[yK]at hp
 |.pr (.pr _ _) _,_,hp,_=>by simp[yK]at hp
 |.pr .un _,_,hp,_=>by simp[yK]at hp
theorem Ii{f:FuncId}{first cap:Array Operand}(ho:o.op=.makeFunc (.func f) first cap)(zq:zP c.ntmps g w a σ)(h:qq c σ base o k=some r):vH P o a w g σ c k r:=by
 simp only[qq,ho]at h;split at h
 ·rename_i zmf;split at h
  ·rename_i ac hac;obtain⟨ex,ef⟩:=VJ zq hac
   cases hp:yK ac with
   |false=>rw[hp]at h;simp at h
   |true=>
    rw[hp]at h;have vo:=J8 hp ex;have hf0:first=#[]:=by
     apply Z22.1;simpa using zmf
    refine Qy (v:=.func (.func f) #[] (cap.toList.map a.eval).toArray) ?_ ?_ (λm hm=>by simpa[z7.ids]using ef m hm) h
    ·intro w' _;simp[execOp,ho,Instr.makeFunc,hf0,<-Z5g]
    ·simp only[qy];exact⟨_,⟨_,rfl,vo⟩,rfl⟩
  ·simp at h
 ·simp at h
theorem Hd{z6:qQ}{av:z7}{v:Value}(hp:z6y av=true)(h:qy w g z6 av v):
  (∃t d b off c e fz,av=.data (.ptr t) d/\v=.pointer (some ⟨b,off,none⟩)/\t.zW=true/\g.tag b=.ro/\w.heap[b]? = some (.cells c e fz)/\off+t.size<=c.size/\zM w g none t d (qi c.toList off t.size))\/
  (∃id p,av=.zw id p/\∀x,z6 id=some (.cell x)->∃off s,x.sk.off p=some (off,s)/\v=.pointer (some ⟨g.qY id,off,none⟩))\/
  (∃id p ep,av=.jV id p ep/\∀t l e,z6 id=some (.row t l e)->ep<=e/\(e=ep->p≠[]/\∃b off,place g id (.sl true t) [] 0 0 p=some (b,off)/\v=.pointer (some ⟨b,off,none⟩))):=by
 cases av with
 |zw id p=>
  simp only[qy]at h;obtain⟨cs,⟨x,rfl,_,hx⟩,hv⟩:=h;have je:v=x:=hv;subst je
  exact .inr (.inl ⟨id,p,rfl,hx⟩)
 |jV id p ep=>
  simp only[qy]at h;obtain⟨cs,⟨x,rfl,_,hx⟩,hv⟩:=h;have je:v=x:=hv;subst je
  exact .inr (.inr ⟨id,p,ep,rfl,hx⟩)
 |data t d=>
  cases t with
  |ptr t=>
   simp only[qy]at h;obtain⟨cs,⟨qU,b,off,c,e,fz,rfl,h1,h2,h3,h4⟩,hv⟩:=h
   exact .inl ⟨t,d,b,off,c,e,fz,rfl,hv,by simpa[Ty.zW]using qU,h1,h2,h3,h4⟩
  |_=>simp[z6y]at hp
 |_=>simp[z6y]at hp
theorem Ie{x:Operand}(ho:o.op=.nilCheck x)(zq:zP c.ntmps g w a σ)(h:qq c σ base o k=some r):vH P o a w g σ c k r:=by
 simp only[qq,ho]at h;split at h
 ·rename_i av Kf;obtain⟨ex,ef⟩:=qH zq Kf
  cases hp:holds σ av with
  |false=>rw[hp]at h;simp at h
  |true=>
   rw[hp]at h;simp only[zJ]at h;have hv:∃ad,a.eval x=.pointer (some ad):=by
    unfold holds at hp;split at hp
    ·rcases Hd rfl ex with⟨t,d,b,off,cc,e,fz,h1,h2,_⟩|⟨_,_,h1,_⟩|⟨_,_,_,h1,_⟩
     ·exact⟨_,h2⟩
     ·simp at h1
     ·simp at h1
    ·rcases Hd rfl ex with⟨t,d,b,off,cc,e,fz,h1,h2,_⟩|⟨_,_,h1,h2⟩|⟨_,_,_,h1,_⟩
     ·simp at h1
     ·simp only[z7.zw.injEq]at h1;obtain⟨rfl,rfl⟩:=h1;split at hp
      ·rename_i xx hxx;obtain⟨off,s,_,hv⟩:=h2 _ hxx;exact⟨_,hv⟩
      ·simp at hp
     ·simp at h1
    ·rcases Hd rfl ex with⟨t,d,b,off,cc,e,fz,h1,h2,_⟩|⟨_,_,h1,h2⟩|⟨_,_,_,h1,h2⟩
     ·simp at h1
     ·simp at h1
     ·simp only[z7.jV.injEq]at h1;obtain⟨rfl,rfl,rfl⟩:=h1;split at hp
      ·rename_i t l e hxx;obtain⟨_,h3⟩:=h2 _ _ _ hxx;obtain⟨_,b,off,_,hv⟩:=h3 (zE hp);exact⟨_,hv⟩
      ·simp at hp
    ·simp only[qy]at ex;obtain⟨cs,⟨y,rfl,_,hx⟩,hv⟩:=ex;split at hp
     ·rename_i t l e i hxx;obtain⟨_,h3⟩:=hx _ _ _ _ _ hxx;obtain⟨_,b,off,_,xy⟩:=(h3 (zE hp)).2 rfl;exact⟨_,hv.trans xy⟩
     ·simp at hp
    ·simp at hp
   obtain⟨ad,hv⟩:=hv;exact Qy (v:=a.eval x) (λ_ _=>by simp[execOp,ho,hv]) ex ef h
 ·simp at h
theorem Vp{z6:qQ}{gf:Int->Int->Int}{b2:Value->Value->Sem Value}{kd:IntKind}(hb:∀w x y,(b2 (.int kd x) (.int kd y)).run P w=.ok (.int kd (gf x y)) w)
  (hg:∀x y,gf x y=x\/gf x y=y):{ac:z7}->{vs:List Value}->{x:Int}->{f:Int->Option R}->qj w g z6 ac vs->kd.min<=x/\x<=kd.max->zQ gf kd x ac f=some r->
  ∃z,f z=some r/\kd.min<=z/\z<=kd.max/\∀w,(vs.foldlM b2 (.int kd x)).run P w=.ok (.int kd z) w
 |.un,vs,x,f,hv,hx,h=>by
  simp only[qj]at hv;subst hv
  exact⟨x,h,hx.1,hx.2,λ_=>by simp[List.foldlM]⟩
 |.pr (.data (.int j) y) ac,vs,x,f,hv,hx,h=>by
  simp only[qj]at hv;obtain⟨v,rest,rfl,h1,h2⟩:=hv;obtain⟨rfl,hy⟩:=jo h1;simp only[zQ]at h;split at h
  ·rename_i hk _;subst hk;have hz:kd.min<=gf x y/\gf x y<=kd.max:=by
    rcases hg x y with e|e<;>rw[e]
    ·exact hx
    ·exact hy
   obtain⟨z,hf,z1,z2,zn⟩:=Vp hb hg h2 hz h;refine⟨z,hf,z1,z2,λw=>?_⟩;simp only[List.foldlM_cons,Sem.run_bind,hb,Result.andThen_ok];exact zn w
  ·simp at h
 |.data _ _,_,_,_,_,_,h=>by simp[zQ]at h
 |.za,_,_,_,_,_,h=>by simp[zQ]at h
 |.ref _ _ _,_,_,_,_,_,h=>by simp[zQ]at h
 |.view _ _ _ _ _,_,_,_,_,_,h=>by simp[zQ]at h
 |.zw _ _,_,_,_,_,_,h=>by simp[zQ]at h
 |.jV _ _ _,_,_,_,_,_,h=>by simp[zQ]at h
 |.qF _,_,_,_,_,_,h=>by simp[zQ]at h
 |.nv _ _ _ _,_,_,_,_,_,h=>by simp[zQ]at h
 |.qW _ _,_,_,_,_,_,h=>by simp[zQ]at h
 |.agg _,_,_,_,_,_,h=>by simp[zQ]at h
 |.jD _,_,_,_,_,_,h=>by simp[zQ]at h
 |.pr (.data .bool _) _,_,_,_,_,_,h=>by simp[zQ]at h
 |.pr (.data .str _) _,_,_,_,_,_,h=>by simp[zQ]at h
 |.pr (.data .unit _) _,_,_,_,_,_,h=>by simp[zQ]at h
 |.pr (.data (.pair _ _) _) _,_,_,_,_,_,h=>by simp[zQ]at h
 |.pr (.data (.arr _ _) _) _,_,_,_,_,_,h=>by simp[zQ]at h
 |.pr (.data (.sl _ _) _) _,_,_,_,_,_,h=>by simp[zQ]at h
 |.pr (.data (.ptr _) _) _,_,_,_,_,_,h=>by simp[zQ]at h
 |.pr (.data (.fn _ _) _) _,_,_,_,_,_,h=>by simp[zQ]at h
 |.pr (.data (.tree _) _) _,_,_,_,_,_,h=>by simp[zQ]at h
 |.pr .za _,_,_,_,_,_,h=>by simp[zQ]at h
 |.pr (.ref _ _ _) _,_,_,_,_,_,h=>by simp[zQ]at h
 |.pr (.view _ _ _ _ _) _,_,_,_,_,_,h=>by simp[zQ]at h
 |.pr (.zw _ _) _,_,_,_,_,_,h=>by simp[zQ]at h
 |.pr (.jV _ _ _) _,_,_,_,_,_,h=>by simp[zQ]at h
 |.pr (.qF _) _,_,_,_,_,_,h=>by simp[zQ]at h
 |.pr (.nv _ _ _ _) _,_,_,_,_,_,h=>by simp[zQ]at h
 |.pr (.qW _ _) _,_,_,_,_,_,h=>by simp[zQ]at h
 |.pr (.agg _) _,_,_,_,_,_,h=>by simp[zQ]at h
 |.pr (.jD _) _,_,_,_,_,_,h=>by simp[zQ]at h
 |.pr (.pr _ _) _,_,_,_,_,_,h=>by simp[zQ]at h
 |.pr .un _,_,_,_,_,_,h=>by simp[zQ]at h
theorem zkl{args:Array Operand}{ts:Array TypeId}(ho:o.op=.call { callee:=.builtin .max,args:=args,argTypes:=ts })(zq:zP c.ntmps g w a σ)(h:qq c σ base o k=some r):vH P o a w g σ c k r:=by
 simp only[qq,ho]at h;split at h
 ·rename_i kd x ac hx;obtain⟨ex,_⟩:=VJ zq hx;simp only[qj]at ex;obtain⟨v,rest,Uv,h1,h2⟩:=ex;obtain⟨rfl,hb⟩:=jo h1;obtain⟨z,hz,z1,z2,zn⟩:=Vp (P:=P) (b2:=Builtin.max2) (λw x y=>by simp[Builtin.max2,JK]) (λx y=>by unfold JK;split<;>simp) h2 hb h;refine Qy (v:=.int kd z) ?_ (vB ⟨z1,z2⟩) (λm _=>by simp[z7.ids]) hz;intro w' _;have e:(args.map a.eval).toList=.int kd x::rest:=by rw[Z30];exact Uv
  simp only[execOp,ho,resolve,Sem.run_bind,Sem.run_pure,Result.andThen_ok,invoke,builtin,Builtin.max_,e,zn]
 ·simp at h
theorem zkk{args:Array Operand}{ts:Array TypeId}(ho:o.op=.call { callee:=.builtin .min,args:=args,argTypes:=ts })(zq:zP c.ntmps g w a σ)(h:qq c σ base o k=some r):vH P o a w g σ c k r:=by
 simp only[qq,ho]at h;split at h
 ·rename_i kd x ac hx;obtain⟨ex,_⟩:=VJ zq hx;simp only[qj]at ex;obtain⟨v,rest,Uv,h1,h2⟩:=ex;obtain⟨rfl,hb⟩:=jo h1;obtain⟨z,hz,z1,z2,zn⟩:=Vp (P:=P) (b2:=Builtin.min2) (λw x y=>by simp[Builtin.min2,xI]) (λx y=>by unfold xI;split<;>simp) h2 hb h;refine Qy (v:=.int kd z) ?_ (vB ⟨z1,z2⟩) (λm _=>by simp[z7.ids]) hz;intro w' _;have e:(args.map a.eval).toList=.int kd x::rest:=by rw[Z30];exact Uv
  simp only[execOp,ho,resolve,Sem.run_bind,Sem.run_pure,Result.andThen_ok,invoke,builtin,Builtin.min_,e,zn]
 ·simp at h
end
end Go.Kz
