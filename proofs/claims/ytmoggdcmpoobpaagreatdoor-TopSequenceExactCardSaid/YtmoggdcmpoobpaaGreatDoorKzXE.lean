/-
  Results of calls carried over.
-/
import Derived.Test.YtmoggdcmpoobpaaGreatDoorKzV
import Derived.MapKept
import Derived.Laws.StructEq
import Derived.ChangeKeysEq
import Derived.WideKeyRuns
import Derived.Maps.RangeRun
set_option linter.unusedVariables false
set_option linter.unusedSimpArgs false
namespace Go.Kz
variable {R:Type}
abbrev chain:=zK.chain
theorem Cu:(ts:List Ty)->(d:jY ts)->(n m:Nat)->(chain ts d n).2=(chain ts d m).2
 |[],_,_,_=>rfl
 |[t],d,n,m=>(wA t d n m).1
 |t::u::ts,(d,ds),n,m=>by
  simp only[chain,zK.chain];rw[(wA t d n m).1];congr 1;exact Cu (u::ts) ds _ _
theorem KF:(ts:List Ty)->(d:jY ts)->(n:Nat)->∀o∈(chain ts d n).2,∃u l,o=Obj.row u l 0/\(ud ts=true->u.yV=true)
 |[],_,_,o,ho=>by simp[chain,zK.chain]at ho
 |[t],d,n,o,ho=>by
  obtain⟨u,l,h1,h2⟩:=(Zb t d n).1 o ho
  exact⟨u,l,h1,λh=>h2 (by simp only[ud,zA]at h;exact h.1)⟩
 |t::u::ts,(d,ds),n,o,ho=>by
  simp only[chain,zK.chain,PH]at ho;rcases ho with ho|ho
  ·obtain⟨u',l,h1,h2⟩:=(Zb t d n).1 o ho;exact⟨u',l,h1,λh=>h2 (by simp only[ud,zA]at h;exact h.1)⟩
  ·obtain⟨u',l,h1,h2⟩:=KF (u::ts) ds _ o ho;exact⟨u',l,h1,λh=>h2 (by rw[ud,zA]at h;exact h.2)⟩
theorem Cp{w:World}{gc g:z8}{n len:Nat}{oc o:qQ}(hs:Mf gc g n len oc o):(ts:List Ty)->(d:jY ts)->(m:Nat)->(∀t∈ts,Carry w gc g t)->
  ∀vs,m+(chain ts d m).2.length<=len->qj w gc oc (chain ts d m).1 vs->qj w g o (chain ts d (n+m)).1 vs
 |[],_,_,_,vs,_,h=>by simpa[chain,zK.chain,qj]using h
 |[t],d,m,hc,vs,hl,h=>by
  simp only[chain,zK.chain,qj]at hl h⊢;obtain⟨v,r,hv,h1,h2⟩:=h
  exact⟨v,r,hv,KG hs t d m (hc t (by simp)) hl h1,h2⟩
 |t::u::ts,(d,ds),m,hc,vs,hl,h=>by
  simp only[chain,zK.chain,qj,Jz]at hl h⊢;obtain⟨v,r,hv,h1,h2⟩:=h;refine⟨v,r,hv,KG hs t d m (hc t (by simp)) (by omega) h1,?_⟩;have e:(zj t d (n+m)).2.length=(zj t d m).2.length:=by rw[(wA t d (n+m) m).1]
  rw[e,Z2e];exact Cp hs (u::ts) ds _ (λt ht=>hc t (by simp at ht⊢;exact .inr ht)) r (by rw[<-Z2e]at hl;exact hl) h2
theorem EL:(ts:List Ty)->(d:jY ts)->(n:Nat)->∀i∈(chain ts d n).1.ids,n<=i/\i<n+(chain ts d n).2.length
 |[],_,_,i,hi=>by simp[chain,zK.chain,z7.ids]at hi
 |[t],d,n,i,hi=>by
  simp only[chain,zK.chain,z7.ids,Hc]at hi⊢
  exact(ZZ t d n).1 i hi
 |t::u::ts,(d,ds),n,i,hi=>by
  simp only[chain,zK.chain,z7.ids,PH,Jz]at hi⊢;rcases hi with hi|hi
  ·have:=(ZZ t d n).1 i hi;omega
  ·have:=EL (u::ts) ds _ i hi;simp only[chain]at this;omega
theorem IC:(ts:List Ty)->(d:jY ts)->(n m:Nat)->(zK ts d n).2=(zK ts d m).2
 |[],_,_,_=>rfl
 |[t],d,n,m=>(wA t d n m).1
 |t::u::ts,(d,ds),n,m=>by
  simp only[zK];rw[(wA t d n m).1];congr 1;exact Cu (u::ts) ds _ _
theorem IB:(ts:List Ty)->(d:jY ts)->(n:Nat)->∀o∈(zK ts d n).2,∃u l,o=Obj.row u l 0/\(ud ts=true->u.yV=true)
 |[],_,_,o,ho=>by simp[zK]at ho
 |[t],d,n,o,ho=>KF [t] d n o ho
 |t::u::ts,(d,ds),n,o,ho=>KF (t::u::ts) (d,ds) n o ho
theorem zdb:(ts:List Ty)->(d:jY ts)->(n:Nat)->∀i∈(zK ts d n).1.ids,n<=i/\i<n+(zK ts d n).2.length
 |[],_,_,i,hi=>by simp[zK,z7.ids]at hi
 |[t],d,n,i,hi=>(ZZ t d n).1 i hi
 |t::u::ts,(d,ds),n,i,hi=>EL (t::u::ts) (d,ds) n i hi
theorem zda{w:World}{gc g:z8}{n len:Nat}{oc o:qQ}(hs:Mf gc g n len oc o):(ts:List Ty)->(d:jY ts)->(∀t∈ts,Carry w gc g t)->
  ∀v,(zK ts d 0).2.length<=len->qy w gc oc (zK ts d 0).1 v->qy w g o (zK ts d n).1 v
 |[],_,_,v,_,h=>by
  simp only[zK,qy,qj]at h⊢;exact h
 |[t],d,hc,v,hl,h=>KG hs t d 0 (hc t (by simp)) (by simpa[zK]using hl) h
 |t::u::ts,(d,ds),hc,v,hl,h=>by
  have h':∃vs,v=.tuple vs.toArray/\qj w gc oc (chain (t::u::ts) (d,ds) 0).1 vs:=by
   simpa only[zK,qy,chain,zK.chain]using h
  obtain⟨vs,hv,h2⟩:=h';have:=Cp hs (t::u::ts) (d,ds) 0 hc vs (by rw[Wq];exact hl) h2;show qy w g o (.jD (chain (t::u::ts) (d,ds) n).1) v;simp only[qy];exact⟨vs,hv,this⟩
theorem z2a{w:World}{g g':z8}{ts:List Ty}(h:zS w g w g'\/ud ts=true):∀t∈ts,Carry w g g' t:=by
 rcases h with h|h
 ·exact λ_ _=>.inl h
 ·induction ts with
  |nil=>simp
  |cons t ts ih=>
   simp only[ud,zA]at h;intro u hu;rcases gJ.1 hu with rfl|hu
   ·exact .inr h.1
   ·exact ih h.2 u hu
theorem js{I:Type}:{l:List I}->{i:Nat}->{x:I}->zT l i=some x->x∈l
 |[],i,x,h=>by cases i<;>simp[zT]at h
 |y::l,0,x,h=>by simp only[zT,zI]at h;simp[h]
 |y::l,i+1,x,h=>by simp only[zT]at h;exact On _ (js h)
theorem kg{I:Type}:{l:List I}->{i:Nat}->{x:I}->zT l i=some x->i<l.length
 |[],i,x,h=>by cases i<;>simp[zT]at h
 |y::l,0,x,h=>by simp
 |y::l,i+1,x,h=>by simp only[zT]at h;have:=kg h;simp;omega
structure Hm (w:World) (g gl:z8):Prop where
 tags:∀b,gl.tag b≠.qw->gl.tag b=.ro/\b<w.heap.size
section
variable {w w':World}{g gl gc:z8}{n len:Nat}
theorem gm(hl:Hm w g gl)(he:Ext w gl w' gc){b:Nat}(hb:b<w.heap.size):w'.heap[b]? = w.heap[b]?/\gc.tag b=gl.tag b:=by
 refine he.vV b hb ?_;by_cases h:gl.tag b=.qw
 ·exact .inl h
 ·exact .inr (hl.tags b h).1
theorem z6j(hl:Hm w g gl)(he:Ext w gl w' gc)(ht:∀b,g.tag b≠.qw->b<w.heap.size):zS w g w' (vu g gc n len w.heap.size):=
 ⟨λb hb=>by
  have yP:=ht b (by rw[hb];simp);exact⟨by simp only[vu,qn yP];exact hb,(gm hl he yP).1⟩⟩
theorem B8(hl:Hm w g gl)(he:Ext w gl w' gc)(ht:∀b,g.tag b≠.qw->b<w.heap.size){id:Nat}(hid:id<n\/n+len<=id):Qr w g w' (vu g gc n len w.heap.size) id:=by
 refine⟨⟨λq=>by simp only[vu];rw[qP (by omega)],λq b hb=>?_⟩,by simp only[vu];rw[qP (by omega)],λhb=>?_⟩
 ·have yP:=ht b (by rw[hb];simp);exact⟨by simp only[vu,qn yP];exact hb,(gm hl he yP).1⟩
 ·have yP:=ht (g.qY id) (by rw[hb];simp);exact⟨by simp only[vu,qn yP];exact hb,(gm hl he yP).1⟩
theorem z0p(hl:Hm w g gl)(he:Ext w gl w' gc):Ext w g w' (vu g gc n len w.heap.size):=
 ⟨he.os,he.tape,he.output,he.drawn,he.size,λb hb _=>⟨(gm hl he hb).1,by simp only[vu,qn hb]⟩⟩
theorem Lg(hl:Hm w g gl)(he:Ext w gl w' gc){i:Nat}(hi:i<len):Zi w' gc w' (vu g gc n len w.heap.size) i [] (n+i) []:=by
 refine⟨λq=>?_,λq b hb=>⟨?_,rfl⟩⟩
 ·simp only[vu];rw[qn (by omega)];congr 1;omega
 ·have PE:¬b<w.heap.size:=by
   intro yP;have:=(gm hl he yP).2;rw[hb]at this;by_cases h:gl.tag b=.qw
   ·rw[h]at this;simp at this
   ·rw[(hl.tags b h).1]at this;simp at this
  simp only[vu,qP PE,hb,qn hi]
theorem z6i{N:Nat}{a:Act}{σ:St}{ts:List Ty}{d:jY ts}{v:Value}(zq:zP N g w a σ)(hl:Hm w g gl)(he:Ext w gl w' gc)
  (v7:∀m,n<=m->m<n+8->zu g σ m) (hlen:(zK ts d 0).2.length<=8) (hc:zS w' gc w' (vu g gc n (zK ts d 0).2.length w.heap.size)\/ud ts=true)
  (KZ:PA w' gc (zK ts d 0) v) :
  let g':=vu g gc n (zK ts d 0).2.length w.heap.size;let σ':=σ.gz n (zK ts d n).2
  zP N g' w' a σ'/\qy w' g' σ'.z6 (zK ts d n).1 v/\(∀m,(m<n\/n+8<=m)->zu g σ m->zu g' σ' m/\m∉(zK ts d n).1.ids):=by
 intro g' σ';have ht:=zq.heap.tags;let os:=(zK ts d 0).2;have hosl:os.length=(zK ts d 0).2.length:=rfl;have hos:(zK ts d n).2=os:=IC ts d n 0;have xQ:∀id,σ'.z6 id=if n<=id/\id<n+os.length then zT os (id-n) else σ.z6 id:=by
  intro id;show(σ.gz n (zK ts d n).2).z6 id=_;rw[PW,hos]
 have z7k:σ'.zy=σ.zy:=Wf _ _ _;have qU:zS w g w' g':=z6j hl he ht;have u4:∀id,¬zu g σ id->qu g g' id (σ.z6 id) (σ'.z6 id):=by
  intro id hid;have YI:id<n\/n+os.length<=id:=by
   by_cases h:n<=id/\id<n+os.length
   ·exact absurd (v7 id h.1 (by omega)) hid
   ·omega
  rw[xQ,qP (by omega)];exact qu.same (B8 hl he ht YI)
 have z7l:Mf gc g' n os.length (zT os) σ'.z6:=by
  refine⟨λi hi=>?_,λi p hi=>?_⟩
  ·rw[xQ,qn (by omega)];congr 1;omega
  ·show(vu g gc n os.length w.heap.size).sv (n+i) p=_;simp only[vu];rw[qn (by omega)];congr 1;omega
 have zmr:=z2a hc;refine⟨⟨λi av hi=>?_,⟨λid x hx=>?_,λb hb=>?_⟩,zq.size,zq.defers,zq.known.kept qU⟩,?_,λm hm hf=>⟨⟨?_,λb p hb=>?_,λb hb=>?_,λi av hi=>?_,λid av hi=>?_⟩,?_⟩⟩
 ·rw[z7k]at hi;obtain⟨u,hu,zc⟩:=zq.zy i av hi;exact⟨u,hu,qy.frame qU (λid hid=>u4 id (λhf=>hf.zy i av hi hid)) zc⟩
 ·rw[xQ]at hx;by_cases u6:n<=id/\id<n+os.length
  ·rw[qn u6]at hx;obtain⟨i,rfl⟩:∃i,id=n+i:=⟨id-n,by omega⟩;have hi:i<os.length:=by omega
   rw[Z3i]at hx;obtain⟨u,l,S4,z8e⟩:=IB ts d 0 x (js hx);have zg:=KZ.1.z6 i x hx;subst S4;refine⟨zg.1,?_⟩;have yU:=z7l.sv i [] hi;rw[yU];have hcr:Carry w' gc g' (.sl true u):=by
    rcases hc with h|h
    ·exact .inl h
    ·exact .inr (by simpa[Ty.flat]using z8e h)
   exact Carry.row hcr (Lg hl he hi) zg.2
  ·rw[qP u6]at hx;refine qz.frame qU (B8 hl he ht (by omega)) (λy hy vT OQ=>u4 vT (λhf=>?_)) (zq.heap.z6 id x hx);subst hy;exact hf.cells id y hx OQ
 ·have Zk:(vu g gc n os.length w.heap.size).tag b≠.qw:=hb;simp only[vu]at Zk;by_cases yP:b<w.heap.size
  ·have:=he.size;omega
  ·rw[qP yP]at Zk;refine KZ.1.tags b ?_;intro hal;rw[hal]at Zk;simp at Zk
 ·refine zda z7l ts d zmr v (jq _) KZ.2
 ·rw[xQ,qP (by omega)];exact hf.z6
 ·have Zk:(vu g gc n os.length w.heap.size).tag b=.row m p:=hb;simp only[vu]at Zk;split at Zk
  ·exact hf.row b p Zk
  ·split at Zk
   ·split at Zk
    ·simp only[Tag.row.injEq]at Zk;omega
    ·simp at Zk
   ·split at Zk<;>simp at Zk
   ·rename_i h1 _;exact h1 _ _ Zk
 ·have Zk:(vu g gc n os.length w.heap.size).tag b=.box m:=hb;simp only[vu]at Zk;split at Zk
  ·exact hf.box b Zk
  ·split at Zk
   ·split at Zk<;>simp at Zk
   ·split at Zk
    ·simp only[Tag.box.injEq]at Zk;omega
    ·simp at Zk
   ·rename_i _ h1;exact h1 _ Zk
 ·rw[z7k]at hi;exact hf.zy i av hi
 ·rw[xQ]at hi;split at hi
  ·obtain⟨u,l,S4,_⟩:=IB ts d 0 _ (js hi);simp at S4
  ·exact hf.cells id av hi
 ·intro Ub;have:=zdb ts d n m Ub;rw[hos]at this;omega
end
end Go.Kz
namespace Go.Kz
variable {R:Type}
theorem FH{w:World}{g:z8}{z6:qQ}:{a:z7}->{cs:List Value}->gk a=true->jO w g z6 a cs->qj w g z6 a cs
 |.pr x c,cs,hl,h=>by
  simp only[gk,zA,PF]at hl;obtain⟨c1,c2,rfl,h1,h2⟩:=h;obtain⟨w8,WR,GX,Og⟩:=jh hl.1.1;have hlen:=h1.len;have ql:x.sk.size=1:=by
   have:=hl.1.2;cases po:x.sk<;>rw[po]at this<;>simp[Sk.isAgg]at this;rfl
  rw[ql]at hlen;obtain⟨v,rfl⟩:=Z2f.1 hlen;simp only[qj];refine⟨v,c2,rfl,y8 h1 ?_ WR GX,FH hl.2 h2⟩
  rw[w8,hl.1.2];rfl
 |.un,cs,_,h=>by simp only[qj];exact h
 |.data _ _,_,hl,_=>by grind[gk]
 |.za,_,hl,_=>by grind[gk]
 |.ref _ _ _,_,hl,_=>by grind[gk]
 |.view _ _ _ _ _,_,hl,_=>by grind[gk]
 |.zw _ _,_,hl,_=>by grind[gk]
 |.jV _ _ _,_,hl,_=>by grind[gk]
 |.qF _,_,hl,_=>by grind[gk]
 |.nv _ _ _ _,_,hl,_=>by grind[gk]
 |.qW _ _,_,hl,_=>by grind[gk]
 |.agg _,_,hl,_=>by grind[gk]
 |.jD _,_,hl,_=>by grind[gk]
theorem PM{w:World}{g:z8}{z6:qQ}:{a c:z7}->{vs us:List Value}->qj w g z6 a vs->qj w g z6 c us->qj w g z6 (kJ a c) (vs++us)
 |.pr x y,c,vs,us,h,k=>by
  simp only[qj,kJ]at h⊢;obtain⟨v,r,rfl,h1,h2⟩:=h
  exact⟨v,r++us,rfl,h1,PM h2 k⟩
 |.un,c,vs,us,h,k=>by
  simp only[qj]at h;subst h
  exact k
 |.data _ _,_,_,_,h,_=>by simp[qj]at h
 |.za,_,_,_,h,_=>by simp[qj]at h
 |.ref _ _ _,_,_,_,h,_=>by simp[qj]at h
 |.view _ _ _ _ _,_,_,_,h,_=>by simp[qj]at h
 |.zw _ _,_,_,_,h,_=>by simp[qj]at h
 |.jV _ _ _,_,_,_,h,_=>by simp[qj]at h
 |.qF _,_,_,_,h,_=>by simp[qj]at h
 |.nv _ _ _ _,_,_,_,h,_=>by simp[qj]at h
 |.qW _ _,_,_,_,h,_=>by simp[qj]at h
 |.agg _,_,_,_,h,_=>by simp[qj]at h
 |.jD _,_,_,_,h,_=>by simp[qj]at h
theorem J7{w:World}{g:z8}{σ:St}(hh:yH w g σ.z6){a:z7}{t:Ty}{f:t.den->Option R}{r:R}(hv:a.val=true)(h:asData σ 20 a t f=some r):a.isAgg=t.sk.isAgg:=by
 cases a with
 |data t' d=>
  grind[asData,z7.isAgg,Vu]
 |za=>
  simp only[asData]at h
  cases hb:t.zW with
  |false=>grind
  |true=>
   rw[hb]at h;obtain⟨o,u,rfl,_⟩:=Vf h
   rfl
 |ref id p ep=>
  simp only[asData]at h;obtain⟨t',l,_,_,_,h⟩:=kR hh h
  rw[<-Vu h];rfl
 |view id p ep x y=>
  simp only[asData]at h;obtain⟨t',l,_,_,_,h⟩:=kR hh h
  rw[<-Vu h];rfl
 |zw id p=>cases t<;>simp[asData]at h<;>rfl
 |jV id p ep=>cases t<;>simp[asData]at h<;>rfl
 |qF id=>simp[asData]at h
 |ZU t c=>simp[asData]at h
 |nv pt id p ep=>
  cases pt with
  |true=>simp[asData]at h
  |false=>
   simp only[asData]at h;obtain⟨_,_,_,_,_,_,_,_,_,_,h,_⟩:=Gv hh h
   rw[<-Vu h];rfl
 |qW f c=>cases t<;>simp[asData]at h<;>rfl
 |agg c=>
  cases c with
  |pr x y=>
   simp only[asData]at h
   cases t<;>simp[asData]at h<;>rfl
  |un=>
   simp only[asData]at h
   cases t<;>simp[asData]at h<;>rfl
  |_=>grind[z7.val]
 |jD c=>grind[z7.val]
 |pr x y=>grind[z7.val]
 |un=>grind[z7.val]
theorem xl{w:World}{g:z8}{σ:St}:(n:Nat)->{a:z7}->{t:Ty}->{k:t.den->Option R}->{r:R}->{cs:List Value}->wR a=true->
  jO w g σ.z6 a cs->asData σ n a t k=some r->∃d,k d=some r/\t.zW=true/\zM w g none t d cs
 |0,_,_,_,_,_,_,_,h=>by simp[asData]at h
 |n+1,.data t' d,t,k,r,cs,_,zc,h=>by
  simp only[asData]at h;obtain⟨_,h,qU,hF⟩:=vr h zc.1
  exact⟨_,h,qU,hF _ _ _ zc.2⟩
 |n+1,.za,t,k,r,cs,_,zc,h=>by
  simp only[asData]at h
  cases hb:t.zW with
  |false=>grind
  |true=>
   rw[hb]at h;obtain⟨o,u,rfl,h⟩:=Vf h
   cases o with
   |true=>grind[Ty.zW]
   |false=>
    have Uk:cs=[.slice none 0 0]:=zc;subst Uk
    exact⟨_,h,rfl,none,0,rfl,jq _,v8 _,λhn=>absurd rfl hn⟩
 |n+1,.qW f c,t,k,r,cs,hn,zc,h=>by
  cases t with
  |fn f' t=>
   simp only[asData]at h
   cases hb:Nat.beq f f' with
   |false=>grind
   |true=>
    rw[hb]at h;have he:f=f':=zE hb;subst he;obtain⟨vs,rfl,hc⟩:=zc;obtain⟨d,hk,hr,zN⟩:=xl n (a:=c) (by grind[wR]) hc h
    exact⟨d,hk,by grind[Ty.zW],vs,rfl,zN⟩
  |_=>simp[asData]at h
 |n+1,.agg c,t,k,r,cs,hn,zc,h=>by
  simp only[asData]at h
  exact xl n (a:=c) (by grind[wR]) zc h
 |n+1,.pr a b,t,k,r,cs,hn,zc,h=>by
  cases t with
  |pair t u=>
   simp only[asData]at h;simp only[wR,zA]at hn;obtain⟨c1,c2,rfl,ha,hb⟩:=zc;obtain⟨x,hk,hr1,ZS⟩:=xl n hn.1 ha h;obtain⟨y,hk,Ov,ub⟩:=xl n hn.2 hb hk
   exact⟨(x,y),hk,by grind[Ty.zW],c1,c2,rfl,ZS,ub⟩
  |_=>simp[asData]at h
 |n+1,.un,t,k,r,cs,_,zc,h=>by
  cases t with
  |unit=>
   simp only[asData]at h
   exact⟨(),h,rfl,zc⟩
  |_=>simp[asData]at h
 |n+1,.ref _ _ _,_,_,_,_,hn,_,_=>by grind[wR]
 |n+1,.view _ _ _ _ _,_,_,_,_,hn,_,_=>by grind[wR]
 |n+1,.zw _ _,_,_,_,_,hn,_,_=>by grind[wR]
 |n+1,.jV _ _ _,_,_,_,_,hn,_,_=>by grind[wR]
 |n+1,.qF _,_,_,_,_,hn,_,_=>by grind[wR]
 |n+1,.nv _ _ _ _,_,_,_,_,hn,_,_=>by grind[wR]
 |n+1,.jD _,_,_,_,_,_,zc,_=>zc.elim
def VA(g:z8):z8:={ g with tag:=λb=>match g.tag b with
 |.ro=>.ro
 |_=>.qw }
theorem CP{g:z8}{b:Nat}:(VA g).tag b=.ro↔g.tag b=.ro:=by
 grind[VA]
theorem Ea(w:World)(g:z8):zS w g w (VA g):=⟨λb hb=>⟨CP.2 hb,rfl⟩⟩
theorem MD{w:World}{g:z8}(ht:∀b,g.tag b≠.qw->b<w.heap.size):Hm w g (VA g):=by
 refine⟨λb hb=>?_⟩
 grind[VA]
theorem z4u{w:World}{g:z8}(ht:∀b,g.tag b≠.qw->b<w.heap.size):Hm w g (Fk g):=by
 refine⟨λb hb=>?_⟩
 grind[Fk]
theorem TQ{w:World}{g gl:z8}{σ:St}(hh:yH w g σ.z6)(hgl:gl=Fk g\/gl=VA g):{p:kG}->{a:z7}->{vs:List Value}->{b:Y2}->{k:p.den->Y2->Option R}->{r:R}->
  (gl=Fk g\/wR a=true)->wZ p=true->vG a=true->qj w g σ.z6 a vs->jE σ p a b k=some r->∃d,k d b=some r/\Qz w gl p d vs
 |.pr (.val t) q,.pr x y,vs,b,k,r,hm,hp,hv,h,hk=>by
  simp only[jE]at hk;simp only[vG,zA]at hv;simp only[qj]at h;obtain⟨v,rest,rfl,h1,h2⟩:=h;obtain⟨w8,WR,GX,Og⟩:=jh hv.1;obtain⟨cs,zc,Vw⟩:=gq h1 Og;have hd:∃d,(jE σ q y b λdy b=>k (d,dy) b)=some r/\t.zW=true/\zM w gl none t d cs:=by
   rcases hm with rfl|hm
   ·grind[pY]
   ·simp only[wR,zA]at hm;obtain⟨d,hk,hr,zN⟩:=xl 20 hm.1 zc hk;refine⟨d,hk,hr,?_⟩;rcases hgl with rfl|rfl
    ·exact zN.kept (Jd w g)
    ·exact zN.kept (Ea w g)
  obtain⟨d,pg,hr,zN⟩:=hd;obtain⟨dy,Kc,hargs⟩:=TQ hh hgl (hm.imp _root_.id (λhm=>by grind[wR])) (by grind[wZ]) hv.2 h2 pg
  exact⟨(d,dy),Kc,hr,⟨cs,zN,by grind[J7]⟩,hargs⟩
 |.un,.un,vs,b,k,r,_,_,_,h,hk=>by
  simp only[jE]at hk;simp only[qj]at h;subst h
  exact⟨(),hk,trivial⟩
 |.un,.pr _ _,_,_,_,_,_,_,_,_,hk=>by grind[jE]
 |.un,.data _ _,_,_,_,_,_,_,hv,_,_=>by grind[vG]
 |.un,.za,_,_,_,_,_,_,hv,_,_=>by grind[vG]
 |.un,.ref _ _ _,_,_,_,_,_,_,hv,_,_=>by grind[vG]
 |.un,.view _ _ _ _ _,_,_,_,_,_,_,hv,_,_=>by grind[vG]
 |.un,.zw _ _,_,_,_,_,_,_,hv,_,_=>by grind[vG]
 |.un,.jV _ _ _,_,_,_,_,_,_,hv,_,_=>by grind[vG]
 |.un,.qF _,_,_,_,_,_,_,hv,_,_=>by grind[vG]
 |.un,.nv _ _ _ _,_,_,_,_,_,_,hv,_,_=>by grind[vG]
 |.un,.qW _ _,_,_,_,_,_,_,hv,_,_=>by grind[vG]
 |.un,.agg _,_,_,_,_,_,_,hv,_,_=>by grind[vG]
 |.un,.jD _,_,_,_,_,_,_,hv,_,_=>by grind[vG]
 |.pr (.val _) _,.un,_,_,_,_,_,_,_,_,hk=>by grind[jE]
 |.pr (.val _) _,.data _ _,_,_,_,_,_,_,hv,_,_=>by grind[vG]
 |.pr (.val _) _,.za,_,_,_,_,_,_,hv,_,_=>by grind[vG]
 |.pr (.val _) _,.ref _ _ _,_,_,_,_,_,_,hv,_,_=>by grind[vG]
 |.pr (.val _) _,.view _ _ _ _ _,_,_,_,_,_,_,hv,_,_=>by grind[vG]
 |.pr (.val _) _,.zw _ _,_,_,_,_,_,_,hv,_,_=>by grind[vG]
 |.pr (.val _) _,.jV _ _ _,_,_,_,_,_,_,hv,_,_=>by grind[vG]
 |.pr (.val _) _,.qF _,_,_,_,_,_,_,hv,_,_=>by grind[vG]
 |.pr (.val _) _,.nv _ _ _ _,_,_,_,_,_,_,hv,_,_=>by grind[vG]
 |.pr (.val _) _,.qW _ _,_,_,_,_,_,_,hv,_,_=>by grind[vG]
 |.pr (.val _) _,.agg _,_,_,_,_,_,_,hv,_,_=>by grind[vG]
 |.pr (.val _) _,.jD _,_,_,_,_,_,_,hv,_,_=>by grind[vG]
 |.pr (.ref _) _,_,_,_,_,_,_,hp,_,_,_=>by grind[wZ]
 |.pr (.zw _) _,_,_,_,_,_,_,hp,_,_,_=>by grind[wZ]
 |.pr (.qW _ _) _,_,_,_,_,_,_,hp,_,_,_=>by grind[wZ]
 |.pr (.agg _) _,_,_,_,_,_,_,hp,_,_,_=>by grind[wZ]
 |.pr (.pr _ _) _,_,_,_,_,_,_,hp,_,_,_=>by grind[wZ]
 |.pr .un _,_,_,_,_,_,_,hp,_,_,_=>by grind[wZ]
 |.val _,_,_,_,_,_,_,hp,_,_,_=>by grind[wZ]
 |.ref _,_,_,_,_,_,_,hp,_,_,_=>by grind[wZ]
 |.zw _,_,_,_,_,_,_,hp,_,_,_=>by grind[wZ]
 |.qW _ _,_,_,_,_,_,_,hp,_,_,_=>by grind[wZ]
 |.agg _,_,_,_,_,_,_,hp,_,_,_=>by grind[wZ]
section
variable {P:Program}{o:Oper}{a:Act}{w:World}{K:Act->World->Prop}{Q:Exit->Act->World->Prop}{c:Ctx}{σ:St}{g:z8}{k:St->Option R}{r:R}{base:Nat}{mo:Bool}
theorem z9l{σ':St}{g':z8}{w':World}{av:z7}{v:Value}(zq:zP c.ntmps g' w' a σ')(qm:Ext w g w' g')
  (v7:∀m,(m<base\/base+8<=m)->zu g σ m->zu g' σ' m/\m∉av.ids) (hn:σ'.next=σ.next) (hv:qy w' g' σ'.z6 av v)
  (h:σ'.qM c o.dst av k=some r) (w8:mo=false->vq w w') (hK:vz c.ntmps k r g w σ base mo K):K (a.put o.dst v) w':=by
 rcases uw h with⟨hd,hk⟩|⟨i,hd,hi,hk⟩
 ·rw[hd];exact hK σ' g' a w' hk zq qm (λm hm hf=>(v7 m hm hf).1) hn w8
 ·rw[hd];exact hK _ g' _ w' hk (zq.put hi hv) qm (λm hm hf=>(v7 m hm hf).1.set i (v7 m hm hf).2) hn w8
theorem EN{gv args all:z7}{fid:Nat}{x:Operand}{vs:List Value}(hg:qy w g σ.z6 gv (a.eval x))(hargs:qj w g σ.z6 args vs)
  (h:gF gv args=some (fid,all)) :
  ∃us,a.eval x=.func (.func fid) #[] us.toArray/\qj w g σ.z6 all (vs++us):=by
 unfold gF at h;split at h
 ·rename_i f cap
  cases hl:gk cap with
  |false=>grind
  |true=>
   rw[hl]at h;simp only[zJ,zI,p8]at h;obtain⟨rfl,rfl⟩:=h;simp only[qy]at hg;obtain⟨cs,⟨us,rfl,hc⟩,hv⟩:=hg;exact⟨us,hv,PM hargs (FH hl hc)⟩
 ·rename_i f t d
  cases hl:(gk (jy t d)&&(jy t d).sk.same t.sk) with
  |false=>grind
  |true=>
   rw[hl]at h;simp only[zJ,zI,p8]at h;obtain⟨rfl,rfl⟩:=h;simp only[zA]at hl;simp only[qy]at hg;obtain⟨cs,⟨qU,us,rfl,zN⟩,hv⟩:=hg;exact⟨us,hv,PM hargs (FH hl.1 (Y8 (by grind[Ty.zW]) zN (Sk.qJ hl.2)))⟩
 grind
theorem Vb{a:z7}:{l:List Callee}->{x:Callee}->WC a l=some x->x∈l
 |[],_,h=>by simp[WC]at h
 |y::l,x,h=>by
  simp only[WC]at h
  cases hf:y.fits a with
  |true=>grind
  |false=>rw[hf]at h;exact On _ (Vb h)
theorem Gq{fid:Nat}{p:kG}{res:List Ty}{F:p.den->Option (jY res)}(hco:qe P fid (.pure p res F)){all:z7}{vals:List Value}(zn:(execOp a.eval o).run P w=(callFunc fid vals.toArray).run P w)(hall:qj w g σ.z6 all vals)
  (zq:zP c.ntmps g w a σ) (v7:∀m,base<=m->m<base+8->zu g σ m)
  (h:(ur σ base all p res F λv σ=>σ.qM c o.dst v k)=some r) (hK:vz c.ntmps k r g w σ base mo K):o.wp P a w K Q:=by
 ·unfold ur at h
  cases hb:(wZ p&&vG all&&(ud res||wR all)) with
  |false=>grind
  |true=>
   rw[hb]at h;simp only[zJ]at h;simp only[zA,CX]at hb;have key:∀gl,(gl=Fk g\/gl=VA g)->(gl=Fk g\/wR all=true)->(gl=VA g\/ud res=true)->o.wp P a w K Q:=by
    intro gl hgl zso zm4;have LR:Hm w g gl:=by
     rcases hgl with rfl|rfl
     ·exact z4u zq.heap.tags
     ·exact MD zq.heap.tags
    obtain⟨d,hk,qU⟩:=TQ zq.heap hgl zso hb.1.1 hb.1.2 hall h;simp only[Zh]at hk;obtain⟨rv,hF,hk⟩:=hk
    cases pX:Nat.ble (zK res rv base).2.length 8 with
    |false=>grind
    |true=>
     rw[pX]at hk;simp only[zJ]at hk;have hlen:=zL pX;rw[IC res rv base 0]at hlen;have zi7:∀v w',(∃g',Ext w gl w' g'/\PA w' g' (zK res rv 0) v)->K (a.put o.dst v) w':=by
      intro v w' ⟨gc,qm,KZ⟩;have hc:zS w' gc w' (vu g gc base (zK res rv 0).2.length w.heap.size)\/ud res=true:=by
       rcases zm4 with rfl|hf
       ·left;refine⟨λb hb=>⟨?_,rfl⟩⟩;simp only[vu];by_cases yP:b<w.heap.size
        ·rw[qn yP];have:=(gm LR qm yP).2;rw[hb]at this;exact CP.1 this.symm
        grind
       grind
      obtain⟨h1,h2,h3⟩:=z6i zq LR qm v7 hlen hc KZ;exact z9l h1 (z0p LR qm) h3 (PK _ _ _) h2 hk (λ_ b hb=>(gm LR qm hb).1) hK
     have N6:Known w gl:=by
      rcases hgl with rfl|rfl
      ·exact zq.known.kept (Jd w g)
      ·exact zq.known.kept (Ea w g)
     rcases hco w gl d vals rv LR.tags N6 qU hF with⟨hr1,Ov⟩|⟨v,w',hr1,Ov⟩
     all_goals grind[Oper.wp,Oper.upon_enter,Calls.mono,Oper.upon_value]
   by_cases hn:wR all=true
   all_goals simp_all
theorem Uf{w:World}{R:Type}:(p:kG)->(all:z7)->{σ:St}->{g:z8}->{vals:List Value}->{k:z7->St->Option R}->{r:R}->yH w g σ.z6->qj w g σ.z6 all vals->vO p all σ k=some r->
  ∃zae σ' g',k zae σ'=some r/\σ'.zy=σ.zy/\σ'.next=σ.next/\jB g σ.z6 g' σ'.z6/\qj w g' σ'.z6 zae vals:=by
 intro p
 induction p with
 |pr p q _ ihq=>
  intro all σ g vals k r hh hv h
  cases p with
  |val t=>
   cases all with
   |pr a c=>
    simp only[vO]at h;obtain⟨hb,h⟩:=KC h;simp only[zA]at hb;obtain⟨⟨hval,qU⟩,po⟩:=hb;simp only[qj]at hv;obtain⟨v,vs,rfl,Oz,xy⟩:=hv;obtain⟨cs,Zw,Vw,_⟩:=jg hval Oz;obtain⟨d,σ1,g1,Y0,h1,h2,h3,zN⟩:=gS 20 hh Zw qU h;have q0d:qj w g1 σ1.z6 c vs:=qj.frame (h3.ro w) (λid _=>h3.kept hh id) xy;obtain⟨zae,σ2,g2,Kc,h4,h5,h6,Uv⟩:=ihq c (h3.heap hh) q0d Y0;refine⟨_,σ2,g2,Kc,h4.trans h1,h5.trans h2,h3.trans h6,?_⟩;simp only[qj];refine⟨v,vs,rfl,?_,Uv⟩;have w8:=(jh hval).1;rw[w8,Sk.qJ po]at Vw;simp only[qy]
    exact⟨cs,⟨qU,zM.kept (h6.ro w) zN⟩,Vw⟩
   |_=>simp[vO]at h
  |_=>simp[vO]at h
 |un=>
  intro all σ g vals k r hh hv h
  cases all with
  |un=>exact⟨.un,σ,g,by grind[vO],rfl,rfl,.refl _ _,hv⟩
  |_=>simp[vO]at h
 |_=>grind[vO]
theorem Il(Lc:CH P c.env){fid:Nat}{all:z7}{vals:List Value}(zn:(execOp a.eval o).run P w=(callFunc fid vals.toArray).run P w)(hall:qj w g σ.z6 all vals)
  (zq:zP c.ntmps g w a σ) (v7:∀m,base<=m->m<base+8->zu g σ m)
  (h:(match WC all (c.env fid) with
   |some (.pure p res F)=>kS σ base all p res F λv σ=>σ.qM c o.dst v k
   |_=>none)=some r) (hK:vz c.ntmps k r g w σ base mo K):o.wp P a w K Q:=by
 split at h
 ·rename_i p res F LD;have hco:=Lc fid _ (Vb LD);unfold kS at h
  cases hb:(ud res||wR all) with
  |true=>
   grind[Gq]
  |false=>
   rw[hb]at h;obtain⟨zae,σ1,g1,Y0,h1,h2,h3,Uv⟩:=Uf p all zq.heap hall h;refine Gq (mo:=mo) hco zn Uv (h3.st h1 zq) (λm hm1 hm2=>h3.fresh h1 (v7 m hm1 hm2)) Y0 ?_;intro σ' g' a' w' pg qG qm Fm Ff w8;exact hK σ' g' a' w' pg qG (h3.ext.trans qm) (λm hm hf=>Fm m hm (h3.fresh h1 hf)) (Ff.trans h2) w8
 grind
theorem zdn(Lc:CH P c.env){cl:Call}{x:Operand}(ho:o.op=.call cl)(ZA:cl.callee=.value x)
  (zq:zP c.ntmps g w a σ) (v7:∀m,base<=m->m<base+8->zu g σ m) {gv args:z7} (hx:ev σ x=some gv) (hargs:I2 σ cl.args.toList=some args)
  (h:(We c σ base gv args λv σ=>σ.qM c o.dst v k)=some r) (hK:vz c.ntmps k r g w σ base mo K):o.wp P a w K Q:=by
 obtain⟨eg,_⟩:=qH zq hx;obtain⟨ea,_⟩:=VJ zq hargs;unfold We at h;split at h
 ·rename_i fid all Ft;obtain⟨us,hfv,hall⟩:=EN eg ea Ft;refine Il Lc (fid:=fid) (all:=all) (vals:=(cl.args.toList.map a.eval)++us) ?_ hall zq v7 h hK;have e1:cl.args.map a.eval=(cl.args.toList.map a.eval).toArray:=by grind
  grind[execOp,resolve,Deferred.ofValue,invoke]
 grind
end
end Go.Kz
namespace Go.Kz
open Go.MapKept
variable {R:Type}
def YC:Ty->TypeDesc
 |.int k=>.int k
 |.str=>.string
 |_=>.bool
theorem Vm{P:Program}{t:Ty}{T:TypeId}(hk:jG t=true)(h:qZ P t T):P.underlying T=some (YC t):=by
 cases t<;>simp[jG]at hk<;>simp only[qZ]at h<;>exact h.1
theorem Kk{t:Ty}(hk:jG t=true):t.yV=true:=by
 cases t<;>simp[jG]at hk<;>rfl
theorem QD{w:World}{g:z8}{o:Ee}{t:Ty}{d:t.den}{cs:List Value}(hk:jG t=true)(h:zM w g o t d cs):IsKey (YC t) (jl t.sk.isAgg cs):=by
 cases t<;>simp[jG]at hk
 ·obtain⟨rfl,_⟩:=h;simp[YC,jl,Ty.sk,Sk.isAgg,IsKey]
 ·cases h;simp[YC,jl,Ty.sk,Sk.isAgg,IsKey]
 ·obtain⟨s,rfl,_⟩:=h;simp[YC,jl,Ty.sk,Sk.isAgg,IsKey]
theorem zl7{w:World}{g:z8}{o:Ee}{t:Ty}{d e:t.den}{cs es:List Value}(hk:jG t=true)(h:zM w g o t d cs)(h':zM w g o t e es):
  (jl t.sk.isAgg cs=jl t.sk.isAgg es)↔ja t d e=true:=by
 cases t<;>simp[jG]at hk
 ·obtain⟨rfl,_⟩:=h;obtain⟨rfl,_⟩:=h';grind[ja,jl]
 ·cases h;cases h';grind[ja,jl]
 ·obtain⟨s,rfl,hs,_⟩:=h;obtain⟨s',rfl,FT,_⟩:=h';simp only[ja,jl,Ty.sk,Sk.isAgg,Z2q,Z1w,Z2r,Value.string.injEq,jc];constructor
  ·grind
  ·intro he;obtain⟨⟨l⟩⟩:=s;obtain⟨⟨l'⟩⟩:=s'
   grind
theorem YR{d:TypeDesc}{k:Value}:(es:List MapEntry)->(i:Nat)->Instr.findNow d k es i=(Instr.findNow d k es 0).map λx=>x.map λy=>(i+y.1,y.2)
 |[],i=>by simp[Instr.findNow]
 |e::es,i=>by
  simp only[Instr.findNow]
  cases Instr.sameNow d k e.key with
  |none=>rfl
  |some b=>
   cases b with
   |true=>simp
   |false=>
    simp only;rw[YR es (i+1),YR es (0+1)]
    cases Instr.findNow d k es 0 with
    |none=>rfl
    |some x=>cases x with
     |none=>rfl
     |some y=>grind
theorem SU{w:World}{g:z8}{kt vt:Ty}(hk:jG kt=true){k:kt.den}{Zs:List Value}(Qt:zM w g none kt k Zs):{es:List MapEntry}->{m:List (kt.den×vt.den)}->j7 w g kt vt es m->
  (Instr.findNow (YC kt) (jl kt.sk.isAgg Zs) es 0=some none/\jF (ja kt) m k=none/\
   ∀d cs b,zM w g none vt d cs->j7 w g kt vt (es++[⟨jl kt.sk.isAgg Zs,jl vt.sk.isAgg cs,b⟩]) (ve (ja kt) m k d))\/
  ∃j e v cs,Instr.findNow (YC kt) (jl kt.sk.isAgg Zs) es 0=some (some (j,e.val))/\es[j]? = some e/\e.key=jl kt.sk.isAgg Zs/\(jF (ja kt) m k=some v/\gG (ja kt) m k=j)/\zM w g none vt v cs/\e.val=jl vt.sk.isAgg cs/\
   ∀d cs,zM w g none vt d cs->j7 w g kt vt (es.modify j λe=>{ e with key:=jl kt.sk.isAgg Zs,val:=jl vt.sk.isAgg cs }) (ve (ja kt) m k d)
 |[],[],_=>.inl ⟨rfl,rfl,λd cs b h=>⟨⟨Zs,Qt,rfl⟩,⟨cs,h,rfl⟩,trivial⟩⟩
 |[],_::_,h=>h.elim
 |_::_,[],h=>h.elim
 |e::es,(k',v')::m,⟨⟨c1,h1,e1⟩,⟨c2,h2,e2⟩,h⟩=>by
  have i1:=QD hk Qt;have i2:=QD hk h1;obtain⟨r,hr,hiff⟩:=sameNow_of_keys i1 i2;have hq:=zl7 hk Qt h1;have hrk:r=ja kt k k':=by
   grind
  rw[<-e1]at hr
  cases r with
  |true=>
   right;have hke:e.key=jl kt.sk.isAgg Zs:=by grind
   refine⟨0,e,v',c2,by simp[Instr.findNow,hr],rfl,hke,by grind[jF,gG],h2,e2,λd cs hd=>?_⟩;simp only[ve,<-hrk,zJ,Z5o]
   exact⟨⟨c1,h1,by grind⟩,⟨cs,hd,rfl⟩,h⟩
  |false=>
   rcases SU hk Qt h with⟨f1,f2,f3⟩|⟨j,e',v,cs,f1,f2,f3,f4,f5,f6,f7⟩
   ·left;refine⟨?_,by grind[jF],λd cs b hd=>?_⟩
    ·grind[Instr.findNow,YR]
    ·simp only[ve,<-hrk,zU,Qm];exact⟨⟨c1,h1,e1⟩,⟨c2,h2,e2⟩,f3 d cs b hd⟩
   ·right;refine⟨j+1,e',v,cs,?_,by grind,f3,by grind[jF,gG],f5,f6,λd cs hd=>?_⟩
    ·grind[Instr.findNow,YR]
    ·simp only[ve,<-hrk,zU,Z5p];exact⟨⟨c1,h1,e1⟩,⟨c2,h2,e2⟩,f7 d cs hd⟩
theorem UJ:{t:Ty}->yF t=true->t.yV=true
 |.unit,_=>rfl
 |.pair a b,h=>by
  simp only[yF,zA]at h
  simp only[Ty.yV,Kk h.1,UJ h.2,Z46]
 |.int _,h=>by simp[yF]at h
 |.bool,h=>by simp[yF]at h
 |.str,h=>by simp[yF]at h
 |.arr _ a,h=>by
  grind[yF,Ty.yV,Kk]
 |.sl _ _,h=>by simp[yF]at h
 |.ptr _,h=>by simp[yF]at h
 |.fn _ _,h=>by simp[yF]at h
 |.tree _,h=>by simp[yF]at h
theorem Ev{t:Ty}(h:kTy t=true):jG t=true\/∃a b,t=.pair a b/\yF (.pair a b)=true:=by
 cases t<;>first|exact .inl h|exact .inr ⟨_,_,rfl,h⟩
theorem GY{t:Ty}(h:kTy t=true):t.yV=true:=by
 grind[Ev,Kk,UJ]
section
variable {P:Program}{o:Oper}{a:Act}{w:World}{K:Act->World->Prop}{Q:Exit->Act->World->Prop}{c:Ctx}{σ:St}{g:z8}{k:St->Option R}{r:R}{base:Nat}{mo:Bool}
theorem Nd{t:TypeId}(ho:o.op=.makeMap t none)(zq:zP c.ntmps g w a σ)(hf:zu g σ base)(h:qq c σ base o k=some r)(hK:vz c.ntmps k r g w σ base mo K):o.wp P a w K Q:=by
 simp only[qq,ho]at h;split at h
 ·rename_i kt vt Sq
  cases hc:(kTy kt&&vt.yV) with
  |false=>grind
  |true=>
   rw[hc]at h;simp only[zJ]at h;simp only[zA]at hc;refine Wo (ob:=.map #[] 0) (obj:=.map kt vt []) (tg:=.box base) (v:=undef) (v':=.map (some w.heap.size)) zq hf (.inl rfl) ?_ rfl ?_ (by simp) ?_ h hK
   ·simp_all[execOp,Instr.makeMap]
   ·refine⟨#[],0,?_,?_,kf (GY hc.1),kf hc.2,trivial,rfl,rfl⟩
    all_goals grind[yx,heap_alloc_new]
   ·simp only[qy];refine⟨_,⟨_,rfl,rfl,λ_ _ _ _=>?_⟩,rfl⟩;simp[yx]
 grind
theorem KB{t:Ty}{d:t.den}{v:Value}{z6:qQ}{cs:List Value}(ht:t.yV=true){w':World}{g':z8}{o':Ee}(h:zM w' g' o' t d cs)(hv:v=jl t.sk.isAgg cs):qy w g z6 (.data t d) v:=
 ⟨cs,⟨kf ht,zM.yV ht h⟩,hv⟩
theorem Zq{i:Operand}{b:z7}{kt:Ty}{f:kt.den->Option R}(zq:zP c.ntmps g w a σ)(hk:kt.yV=true)(hb:b.val=true)(hi:ev σ i=some b)(h:asData σ 20 b kt f=some r):
  ∃d cs,f d=some r/\zM w g none kt d cs/\a.eval i=jl kt.sk.isAgg cs:=by
 obtain⟨cs,zc,Vw,_⟩:=jg hb (qH zq hi).1;obtain⟨d,hd,_,hr⟩:=pY zq.heap 20 zc h;exact⟨d,cs,hd,zM.yV hk hr,by rw[Vw,J7 zq.heap hb h]⟩
theorem Bz{id:Nat}{kt vt:Ty}{m m':List (kt.den×vt.den)}{es:Array MapEntry}{ck:Nat}(zq:zP c.ntmps g w a σ)(zg:σ.z6 id=some (.map kt vt m))(hm:j7 w g kt vt es.toList m')(BE:ck=es.size)(zlv:p9 es.toList):
  zP c.ntmps g { w with heap:=w.heap.setIfInBounds (g.qY id) (.map es ck) } a (σ.setObj id (.map kt vt m'))/\Ext w g { w with heap:=w.heap.setIfInBounds (g.qY id) (.map es ck) } g/\
   ∀n,zu g σ n->zu g (σ.setObj id (.map kt vt m')) n:=by
 obtain⟨es0,ck0,hblk,ze,Qt,hvr,_,_⟩:=zq.heap.z6 _ _ zg;obtain⟨h1,h2⟩:=heap_set (o':=.map es ck) hblk;have qU:zS w g { w with heap:=w.heap.setIfInBounds (g.qY id) (.map es ck) } g:=by
  refine⟨λb hb=>⟨hb,h2 b ?_⟩⟩
  grind
 refine⟨zq.pf qU (λi hi=>?_) (.inl (.inr (.inr (.inr (.inl ⟨kt,vt,m,m',zg,rfl,rfl⟩))))) ⟨es,ck,h1,ze,Qt,hvr,hm.kept qU,BE,zlv⟩ (λb hb=>?_),⟨rfl,rfl,rfl,jq _,by simp,λb _ hb=>⟨h2 b ?_,rfl⟩⟩,λn hn=>?_⟩
 ·refine⟨⟨λq=>rfl,λq b hb=>⟨hb,h2 b ?_⟩⟩,rfl,λhb=>⟨hb,h2 _ ?_⟩⟩
  all_goals grind
 ·have:=zq.heap.tags b hb;grind
 ·grind
 ·refine zu.pf (g:=g) (λb=>.inl rfl) ?_ (by simp) hn;intro heq;subst heq;have:=hn.z6;grind
theorem Pc{t E:TypeId}{s:Nat}(qB:P.underlying t=some (.slice E))(hs:(sizeOf E).run P w=.ok s w)(ad:Option Addr)(len cap:Nat)(lo hi:Option Value)(l h:Int)(Kb:len<=cap)
  (WQ:(lo=none/\l=0)\/∃k,lo=some (.int k l)) (hhi:(hi=none/\h=len)\/∃k,hi=some (.int k h)) (h0:0<=l) (h1:l<=h) (h2:h<=(len:Int)) :
  (Instr.sliceAt t (.slice ad len cap) lo hi none).run P w=.ok (.slice (if cap-l.toNat=0 then ad else ad.map (·.add (l.toNat*s))) (h-l).toNat (cap-l.toNat)) w:=by
 have hb:∀k code,(Instr.sliceBound (.int k h) cap code).run P w=.ok h.toNat w:=λk code=>run_sliceBound w k h cap code (by omega) (by omega)
 have pX:∀(k:IntKind) code (y:Nat),l<=(y:Int)->(Instr.sliceBound (.int k l) y code).run P w=.ok l.toNat w:=λk code y hy=>run_sliceBound w k l y code h0 hy
 have e1:(cap=l.toNat)=(cap-l.toNat=0):=propext (by omega);have e2:h.toNat-l.toNat=(h-l).toNat:=by omega
 have e3:len-l.toNat=((len:Int)-l).toNat:=by omega
 rcases WQ with⟨rfl,rfl⟩|⟨k,rfl⟩<;>rcases hhi with⟨rfl,rfl⟩|⟨k',rfl⟩
 ·simp[Instr.sliceAt,Instr.slice,Instr.sliceBounds,run_underlying qB,hs]
 ·simp_all[Instr.sliceAt,Instr.slice,Instr.sliceBounds,run_underlying]
 ·simp_all[Instr.sliceAt,Instr.slice,Instr.sliceBounds,run_underlying]
 ·have:=pX k .sliceB h.toNat (by omega);simp_all[Instr.sliceAt,Instr.slice,Instr.sliceBounds,run_underlying]
theorem Fz{t:TypeId}(qB:P.underlying t=some .string)(s:ByteArray)(lo hi:Option Value)(l h:Int)
  (WQ:(lo=none/\l=0)\/∃k,lo=some (.int k l)) (hhi:(hi=none/\h=s.size)\/∃k,hi=some (.int k h)) (h0:0<=l) (h1:l<=h) (h2:h<=(s.size:Int)) :
  (Instr.sliceAt t (.string s) lo hi none).run P w=.ok (.string (s.extract l.toNat h.toNat)) w:=by
 have hb:∀k code,(Instr.sliceBound (.int k h) s.size code).run P w=.ok h.toNat w:=λk code=>run_sliceBound w k h s.size code (by omega) (by omega)
 have pX:∀(k:IntKind) code (y:Nat),l<=(y:Int)->(Instr.sliceBound (.int k l) y code).run P w=.ok l.toNat w:=λk code y hy=>run_sliceBound w k l y code h0 hy
 rcases WQ with⟨rfl,rfl⟩|⟨k,rfl⟩<;>rcases hhi with⟨rfl,rfl⟩|⟨k',rfl⟩
 ·simp[Instr.sliceAt,Instr.slice,Instr.sliceBounds,run_underlying qB]
 ·simp[Instr.sliceAt,Instr.slice,Instr.sliceBounds,run_underlying qB,hb]
 ·simp_all[Instr.sliceAt,Instr.slice,Instr.sliceBounds,run_underlying]
 ·have:=pX k .sliceB h.toNat (by omega);simp_all[Instr.sliceAt,Instr.slice,Instr.sliceBounds,run_underlying]
theorem HA{σ:St}(zq:zP c.ntmps g w a σ){x:Option Operand}{n:Option Int}(h:evI σ x=some n):(x.map a.eval=none/\n=none)\/∃k i,x.map a.eval=some (.int k i)/\n=some i:=by
 cases x with
 |none=>grind[evI]
 |some x=>
  simp only[evI]at h;split at h
  ·rename_i k i hx;simp only[zI]at h;exact .inr ⟨k,i,by simp[(jo (qH zq hx).1).1],h.symm⟩
  grind
theorem z5f(wi:gH P c.tt){t:TypeId}{x:Operand}{lo hi:Option Operand}(ho:o.op=.slice t x lo hi none)(zq:zP c.ntmps g w a σ)(h:qq c σ base o k=some r):vH P o a w g σ c k r:=by
 simp only[qq,ho]at h;split at h
 ·rename_i av ow u l hn hx hu WQ hhi;have hT:=wi _ _ hu;simp only[qZ]at hT;obtain⟨⟨E,qB,hE⟩,_⟩:=hT;obtain⟨ex,ef⟩:=qH zq hx;clear ef;have z7z:(lo.map a.eval=none/\l.getD 0=0)\/∃k,lo.map a.eval=some (.int k (l.getD 0)):=by
   grind[HA]
  have z8a:∀n:Nat,(hi.map a.eval=none/\hn.getD (n:Int)=n)\/∃k,hi.map a.eval=some (.int k (hn.getD (n:Int))):=λn=>by
   grind[HA]
  have ql:∀w',(sizeOf E).run P w'=.ok u.size w':=hE.info.sizeOf;unfold PR at h;split at h
  ·-- nil
   have hv:=Jq.1 ex;obtain⟨hc,h⟩:=qT h;simp only[zA,jc]at hc;refine Qy (v:=.slice none 0 0) (λw' _=>?_) (Jq.2 rfl) (λm _=>by simp[z7.ids]) h;have:=Pc (w:=w') qB (ql w') none 0 0 _ _ (l.getD 0) (hn.getD ((0:Nat):Int)) (jq _) z7z (z8a 0) (by omega) (by grind) (by grind);simp_all[execOp]
  ·-- read-only data
   rename_i t' d
   cases hs:(z3v t').sk.same u.sk with
   |false=>grind
   |true=>
    rw[hs]at h;have po:=Sk.qJ hs;have Vn:u.size=t'.size:=by grind[DK,Ty.zX]
    simp only[zJ]at h;obtain⟨hc,h⟩:=qT h;simp only[zA,jc]at hc;obtain⟨⟨c0,c1⟩,c2⟩:=hc;simp only[qy]at ex;obtain⟨cs,⟨qU,ad,cap,rfl,h1,h2,h3⟩,hv⟩:=ex;have je:a.eval x=.slice ad (List.length d) cap:=hv;have hlen:=Z0 d (l.getD 0) (hn.getD (List.length d:Int)) c0 c1 c2;refine Qy (v:=.slice (if cap-(l.getD 0).toNat=0 then ad else ad.map (·.add ((l.getD 0).toNat*u.size))) (hn.getD (List.length d:Int)-l.getD 0).toNat (cap-(l.getD 0).toNat)) (λw' _=>?_) ?_ (λm _=>by simp[z7.ids]) h
    ·have:=Pc (w:=w') qB (ql w') ad (List.length d) cap _ _ (l.getD 0) (hn.getD (List.length d:Int)) h1 z7z (z8a _) c0 c1 c2;simp only[execOp,ho,je,Z5q];simp[this]
    ·have Sj:(sub d (l.getD 0) (hn.getD (List.length d:Int))).length=(hn.getD (List.length d:Int)-l.getD 0).toNat:=by omega
     refine⟨_,⟨qU,_,cap-(l.getD 0).toNat,rfl,by omega,by omega,λva=>?_⟩,by rw[Sj];rfl⟩;have z16:0<(hn.getD (List.length d:Int)-l.getD 0).toNat:=by grind
     have hdn:d≠[]:=by grind
     obtain⟨b,off,cc,e,fz,rfl,ze,zZ,Xw,vw⟩:=h3 hdn;refine⟨b,off+(l.getD 0).toNat*t'.size,cc,e,fz,?_,ze,zZ,?_,λi hi=>?_⟩
     ·grind[Addr.add_lit]
     ·rw[Sj];have:(hn.getD (List.length d:Int)-l.getD 0).toNat+(l.getD 0).toNat<=List.length d:=by omega
      have:=wI t'.size this
      grind
     grind[Kt]
  ·-- an owned row
   rename_i id ep;obtain⟨t',d,zg,_,qU,h⟩:=kR zq.heap h
   cases hs:t'.sk.same u.sk with
   |false=>grind
   |true=>
    rw[hs]at h;have po:=Sk.qJ hs;have Vn:u.size=t'.size:=by grind[Ty.zX]
    simp only[zJ]at h;obtain⟨hc,h⟩:=qT h;simp only[zA,jc]at hc;obtain⟨⟨c0,c1⟩,c2⟩:=hc;simp only[qy]at ex;obtain⟨cs,⟨v,rfl,qN,hv⟩,je⟩:=ex;have e1:=(hv _ _ _ zg).2 rfl;obtain⟨_,ad,cap,_,yU,h1,h2,_⟩:=zq.heap.z6 _ _ zg;have S5:a.eval x=.slice ad (List.length d) cap:=by rw[je];show v=_;grind
    refine Qy (v:=j5 (g.sv id []) t'.size (l.getD 0) (hn.getD (List.length d:Int))) (λw' _=>?_) ?_ (λm hm=>?_) h
    ·have:=Pc (w:=w') qB (ql w') ad (List.length d) cap _ _ (l.getD 0) (hn.getD (List.length d:Int)) h1 z7z (z8a _) c0 c1 c2;simp only[execOp,ho,S5,Z5q,yU,j5];rw[Vn]at this;simp[this]
    ·simp only[qy];refine⟨[j5 (g.sv id []) t'.size (l.getD 0) (hn.getD (List.length d:Int))],⟨_,rfl,by rw[yU];rfl,λt2 l2 e2 CO=>?_⟩,rfl⟩
     grind
    ·simp only[z7.ids,Om];intro he;subst he;have:=hm.z6;grind
  grind
 ·-- a part of a string
  rename_i d l hn hx hu WQ hhi;have hT:=wi _ _ hu;simp only[qZ]at hT;obtain⟨s,hv,hl,hs⟩:=PU (l:=d) (qH zq hx).1;subst hl;have z7z:(lo.map a.eval=none/\l.getD 0=0)\/∃k,lo.map a.eval=some (.int k (l.getD 0)):=by
   grind[HA]
  have ql:s.data.toList.length=s.size:=gT;rw[ql]at h;have z8a:(hi.map a.eval=none/\hn.getD (s.size:Int)=s.size)\/∃k,hi.map a.eval=some (.int k (hn.getD (s.size:Int))):=by
   grind[HA]
  obtain⟨hc,h⟩:=qT h;simp only[zA,jc]at hc;obtain⟨⟨c0,c1⟩,c2⟩:=hc;refine Qy (v:=.string (s.extract (l.getD 0).toNat (hn.getD (s.size:Int)).toNat)) (λw' _=>?_) (KN ?_ ?_) (λm _=>by simp[z7.ids]) h
  ·have:=Fz (w:=w') hT.1 s _ _ (l.getD 0) (hn.getD (s.size:Int)) z7z z8a c0 c1 c2;simp_all[execOp]
  all_goals grind[ByteArray.data_extract,Array.toList_extract,sub,ByteArray.size_extract]
 grind
theorem NH{t E:TypeId}{s:Nat}(qB:P.underlying t=some (.slice E))(hs:(sizeOf E).run P w=.ok s w)(ad:Option Addr)(len cap:Nat)(kh km:IntKind)(h m:Int)(h0:0<=h)(h1:h<=m)(h2:m<=(cap:Int)):
  (Instr.sliceAt t (.slice ad len cap) none (some (.int kh h)) (some (.int km m))).run P w=.ok (.slice (if m.toNat=0 then ad else ad.map (·.add (0*s))) h.toNat m.toNat) w:=by
 have hb:∀code,(Instr.sliceBound (.int km m) cap code).run P w=.ok m.toNat w:=λcode=>run_sliceBound w km m cap code (by omega) (by omega)
 have pX:∀code,(Instr.sliceBound (.int kh h) m.toNat code).run P w=.ok h.toNat w:=λcode=>run_sliceBound w kh h m.toNat code h0 (by omega)
 simp_all[Instr.sliceAt,Instr.slice,Instr.sliceBounds,run_underlying]
theorem z0g(wi:gH P c.tt){t:TypeId}{x:Operand}{lo hi:Option Operand}{mx:Operand}(ho:o.op=.slice t x lo hi (some mx))(zq:zP c.ntmps g w a σ)(h:qq c σ base o k=some r)
  (hK:vz c.ntmps k r g w σ base mo K):o.wp P a w K Q:=by
 cases lo with
 |some lo=>grind[qq]
 |none=>
 cases hi with
 |none=>grind[qq]
 |some hi=>
 simp only[qq,ho]at h;split at h
 ·rename_i id ep kh hn km m ow u hx hhi hmx hu;split at h
  ·rename_i t' l e zg
   cases hb:(Nat.beq e ep&&t'.sk.same u.sk) with
   |false=>grind
   |true=>
    rw[hb]at h;simp only[zJ]at h;simp only[zA]at hb;have Fs:=zE hb.1;subst Fs;have po:=Sk.qJ hb.2;have Vn:u.size=t'.size:=by grind[Ty.zX]
    obtain⟨hc,h⟩:=qT h;simp only[zA,jc]at hc;obtain⟨⟨c0,c1⟩,c2⟩:=hc;have c0:@LE.le Int Int.instLEInt 0 hn:=c0;have c1:@LE.le Int Int.instLEInt hn m:=c1;have c2:@LE.le Int Int.instLEInt m (l.length:Int):=c2;have hT:=wi _ _ hu;simp only[qZ]at hT;obtain⟨⟨E,qB,hE⟩,_⟩:=hT;obtain⟨ex,ef⟩:=qH zq hx;obtain⟨vh,_⟩:=jo (qH zq hhi).1;obtain⟨vm,_⟩:=jo (qH zq hmx).1;simp only[qy]at ex;obtain⟨cs,⟨v,rfl,qN,hv⟩,je⟩:=ex;have e1:=(hv _ _ _ zg).2 rfl;obtain⟨qU,ad,cap,_,yU,Kb,QR,wJ⟩:=zq.heap.z6 _ _ zg;have xy:a.eval x=.slice ad l.length cap:=by rw[<-yU,<-e1];exact je
    have hlen:(sub l 0 hn).length=hn.toNat:=by grind[Z0]
    have zn:=NH (P:=P) (w:=w) qB (hE.info.sizeOf w) ad l.length cap kh km hn m c0 c1 (by omega);have zc:qz w (pn g id (.slice (if m.toNat=0 then ad else ad.map (·.add (0*u.size))) hn.toNat m.toNat)) (σ.setObj id (.row t' (sub l 0 hn) (e+1))).z6 id (.row t' (sub l 0 hn) (e+1)):=by
     refine⟨qU,(if m.toNat=0 then ad else ad.map (·.add (0*u.size))),m.toNat,by grind[pn],by grind[pn],by omega,by omega,?_⟩;rcases wJ with⟨rfl,hl,rfl⟩|⟨b,off,c',ee,rfl,ze,zZ,ql,vw⟩
     ·grind
     ·right;have hmul:m.toNat*t'.size<=cap*t'.size:=wI _ (by omega);refine⟨b,off,c',ee,by grind[Addr.add],ze,zZ,by omega,λi hi=>?_⟩;have wu:i<(sub l 0 hn).length:=hi;have Fl:(0:Int).toNat+i<l.length:=by omega
      have:=zM.yy (o':=none) qU (vw ((0:Int).toNat+i) Fl);have hg:=Kt l 0 hn i wu Fl;refine zM.yy qU (o:=none) ?_;have h2:(sub l 0 hn).get ⟨i,wu⟩=l.get ⟨(0:Int).toNat+i,Fl⟩:=hg;show zM w _ none t' ((sub l 0 hn).get ⟨i,wu⟩) _;rw[h2];have e0:(0:Int).toNat+i=i:=by simp
      have:=zM.kept (show zS w g w (pn g id (.slice (if m.toNat=0 then some ⟨b,off,none⟩ else (some ⟨b,off,none⟩:Option Addr).map (·.add (0*u.size))) hn.toNat m.toNat)) from⟨λb hb=>⟨hb,rfl⟩⟩) this
      grind
    obtain⟨h1,h2,h3⟩:=Iu zq zg (Eb e) zc;refine jL (v:=.slice (if m.toNat=0 then ad else ad.map (·.add (0*u.size))) hn.toNat m.toNat) (g:=g) (base:=base) ?_ h1 h2 (λn _ hfn=>⟨h3 n hfn,by grind[z7.ids]⟩) rfl ?_ h (λ_=>vq.refl w) hK
    ·simp only[execOp,ho,xy,vh,vm,Z24,Z5q];simp[zn]
    ·exact xR (u:=t') (l:=sub l 0 hn) (by simp[St.setObj,zD]) (by simp[pn]) rfl
  grind
 grind
end
end Go.Kz
namespace Go.Kz
variable {R:Type}
def TP(P:Program)(eqs:Nat->Bool): Prop := ∀T, eqs T=true->P.stoodInHeld T=false/\P.eqGuardType P.depth T=false /\ ∀fs, P.underlying T=some (.struct fs) -> ∀f ∈ fs.toList, f.name ≠ "_"
def zg1(P:Program):List Nat->Bool
 |[]=>true
 |T::l=>(!P.stoodInHeld T && !P.eqGuardType P.depth T&&(match P.underlying T with
  |some (.struct fs) =>fs.toList.all λf => !(f.name == "_")
  |some (.array _ _)=>true
  |_=>false))&&zg1 P l
theorem HC{P:Program}:{l:List Nat}->zg1 P l=true->TP P (λT=>qs T l)
 |[],_,_,h=>by simp[qs]at h
 |T::l,hb,T',h=>by
  simp only[zg1,zA,PF]at hb;simp only[qs]at h
  cases he:Nat.beq T T' with
  |false=>rw[he]at h;exact HC hb.2 T' h
  |true=>
   obtain rfl:=zE he;refine⟨hb.1.1.1,hb.1.1.2,?_⟩;have h1:=hb.1.2;split at h1
   ·rename_i fs hu;intro fs' hu' f hf;rw[hu]at hu';cases hu';have:=Z2j.1 h1 f hf;simpa using this
   ·rename_i hu;intro fs' hu';rw[hu]at hu';cases hu'
   ·simp at h1
theorem Mv{P:Program}{w w':World}{g:z8}{t:Ty}{T:TypeId}{d e:t.den}{cs es:List Value}(D:Nat)(hk:jG t=true)(hT:qZ P t T)(h:zM w g none t d cs)(h':zM w g none t e es):
  ∃u v,cs=[u]/\es=[v]/\(Op.equalIn (D+1) T u v).run P w'=.ok (ja t d e) w':=by
 cases t<;>simp[jG]at hk<;>simp only[qZ]at hT
 ·obtain⟨rfl,_⟩:=h;obtain⟨rfl,_⟩:=h';refine⟨_,_,rfl,rfl,?_⟩;rw[run_equalIn_int w' D T _ _ _ _ hT.1];congr 1
 ·cases h;cases h';exact⟨_,_,rfl,rfl,run_equalIn_bool w' D T _ _ hT.1⟩
 ·obtain⟨s,rfl,hs,_⟩:=h;obtain⟨s',rfl,FT,_⟩:=h';refine⟨_,_,rfl,rfl,?_⟩;rw[run_equalIn_string w' D T _ _ hT.1,ByteArray.toList_eq,ByteArray.toList_eq];congr 1;rw[Z3j];simp[ja,hs,FT]
theorem VV{P:Program}{w w' : World}{g:z8}(D:Nat){xs ys:Array Value}: {t:Ty}->{fs:List Field}->{off:Nat}->{d e:t.den}->{cs es:List Value}->yF t=true->vC P t fs off->(∀f ∈ fs, f.name ≠ "_") ->
  zM w g none t d cs->zM w g none t e es->xs.toList.drop off=cs->ys.toList.drop off=es->(Op.eqFields (D+1) xs ys fs).run P w'=.ok (Ui t d e) w'
 |.unit,[],off,d,e,cs,es,_,_,_,_,_,_,_=>by simp[Op.eqFields,Ui]
 |.unit,_::_,off,d,e,cs,es,_,hf,_,_,_,_,_=>by simp[vC]at hf
 |.pair a b,[],off,d,e,cs,es,_,hf,_,_,_,_,_=>by simp[vC]at hf
 |.pair a b,f::fs,off,(x,u),(y,v),cs,es,ht,hf,hn,h,h',hx,hy=>by
  simp only[yF,zA]at ht;simp only[vC]at hf;obtain⟨c1,c2,rfl,h1,h2⟩:=h;obtain⟨e1,e2,rfl,h3,h4⟩:=h';obtain⟨p,q,rfl,rfl,zn⟩:=Mv (w':=w') D ht.1 hf.2.1 h1 h3;have ql:a.size=1:=by have:=h1.len;simpa using this.symm
  have gX:P.plainKey f.type=true:=by
   have:=Vm ht.1 hf.2.1;unfold Program.plainKey;rw[this];have hk:=ht.1;cases a<;>simp[jG]at hk<;>rfl
  have z8l:xs[off]? = some p:=by
   have:(xs.toList.drop off)[0]? = some p:=by rw[hx];rfl
   rw[Z34]at this;simpa using this
  have zmv:ys[off]? = some q:=by
   have:(ys.toList.drop off)[0]? = some q:=by rw[hy];rfl
   rw[Z34]at this;simpa using this
  have hxt:xs.toList.drop (off+a.size)=c2:=by
   rw[ql,<-Z1t,hx];rfl
  have hyt:ys.toList.drop (off+a.size)=e2:=by
   rw[ql,<-Z1t,hy];rfl
  have ih:=VV (w':=w') D ht.2 hf.2.2 (λf hf=>hn f (by simp[hf])) h2 h4 hxt hyt
  have hn0:f.name ≠ "_" := hn f (by simp)
  have p1:=run_part_plain w' gX z8l;have p2:=run_part_plain w' gX zmv;simp only[Op.eqFields,hf.1,hn0,ne_eq,not_false_eq_true,Z1x,Sem.run_bind,p1,p2,zn,Result.andThen_ok];simp only[Ui]
  cases ja a x y with
  |false=>simp
  |true=>simpa using ih
 |.int _,_,_,_,_,_,_,ht,_,_,_,_,_,_=>by simp[yF]at ht
 |.bool,_,_,_,_,_,_,ht,_,_,_,_,_,_=>by simp[yF]at ht
 |.str,_,_,_,_,_,_,ht,_,_,_,_,_,_=>by simp[yF]at ht
 |.arr _ _,_,_,_,_,_,_,_,hf,_,_,_,_,_=>by simp[vC]at hf
 |.sl _ _,_,_,_,_,_,_,ht,_,_,_,_,_,_=>by simp[yF]at ht
 |.ptr _,_,_,_,_,_,_,ht,_,_,_,_,_,_=>by simp[yF]at ht
 |.fn _ _,_,_,_,_,_,_,ht,_,_,_,_,_,_=>by simp[yF]at ht
 |.tree _,_,_,_,_,_,_,ht,_,_,_,_,_,_=>by simp[yF]at ht
section
variable {P:Program}{o:Oper}{a:Act}{w:World}{c:Ctx}{σ:St}{g:z8}{k:St->Option R}{r:R}{base:Nat}
theorem Cz{w':World}(D:Nat){xs ys:Array Value}{t:Ty}{E:TypeId}(hk:jG t=true)(hE:qZ P t E):(l m:List t.den)->(j:Nat)->l.length=m.length->
  (∀(i:Nat)(h:i<l.length),zM w g none t (l.get ⟨i,h⟩) (qi xs.toList (j+i) 1))->(∀(i:Nat)(h:i<m.length),zM w g none t (m.get ⟨i,h⟩) (qi ys.toList (j+i) 1))->
  (Op.eqItems (D+1) E 1 xs ys (List.range' j l.length)).run P w'=.ok (kF (ja t) l m) w'
 |[],[],j,_,_,_=>by simp[Op.eqItems,kF]
 |x::l,y::m,j,hl,hx,hy=>by
  have ih:=Cz (w':=w') D hk hE l m (j+1) (by simpa using hl) (λi h=>by
   have:=hx (i+1) (by simpa using h);rw[show j+1+i=j+(i+1) from by omega];exact this) (λi h=>by
   have:=hy (i+1) (by simpa using h);rw[show j+1+i=j+(i+1) from by omega];exact this)
  have h1:=hx 0 (by simp);have h2:=hy 0 (by simp);simp only[Ot]at h1 h2;obtain⟨p,q,e1,e2,zn⟩:=Mv (w':=w') D hk hE h1 h2;have z8l:xs[j]? = some p:=by
   have:=Wm (λl=>l[0]?) e1;simpa[qi]using this
  have zmv:ys[j]? = some q:=by
   have:=Wm (λl=>l[0]?) e2;simpa[qi]using this
  have gX:P.plainKey E=true:=by
   have:=Vm hk hE;unfold Program.plainKey;rw[this];cases t<;>simp[jG]at hk<;>rfl
  have p1:=run_part_plain w' gX z8l;have p2:=run_part_plain w' gX zmv;have ua:(Op.equalIn (D+1) E p q).run P w'=.ok (ja t x y) w':=zn;simp only[X4,List.range'_succ,Op.eqItems,Z2h,Sem.run_bind,p1,p2,ua,Result.andThen_ok,kF]
  cases ja t x y with
  |false=>simp
  |true=>simpa using ih
 |[],_::_,_,hl,_,_=>by simp at hl
 |_::_,[],_,hl,_,_=>by simp at hl
theorem Pd{T:TypeId}{ta tb:Ty}{d e:(Ty.pair ta tb).den}{cs es:List Value}(wM:yF (.pair ta tb)=true)(hT:qZ P (.pair ta tb) T)(hs:P.stoodInHeld T=false)(YL:∀fs, P.underlying T=some (.struct fs) -> ∀f ∈ fs.toList, f.name ≠ "_")
  (hr:zM w g none (.pair ta tb) d cs) (UT:zM w g none (.pair ta tb) e es) (w':World):(Op.equal T (.agg cs.toArray) (.agg es.toArray)).run P w'=.ok (Ui (.pair ta tb) d e) w':=by
 show(Op.equalIn (9999+1) T _ _).run P w'=_;simp only[qZ]at hT;obtain⟨⟨fs,hu,D9⟩,_⟩:=hT;have hfo:P.fieldsOf T=fs:=by simp[Program.fieldsOf,hu]
 rw[run_equalIn_struct w' 9999 T _ _ (by rw[hfo];exact hu) hs,hfo];exact VV 9998 wM D9 (YL fs hu) hr UT (by simp) (by simp)
theorem z0k(wi:gH P c.tt)(heq:TP P c.eqs){op:BinOp}{t t':TypeId}{x y:Operand}(ho:o.op=.binOp op t x y t')(zq:zP c.ntmps g w a σ)(h:qq c σ base o k=some r):vH P o a w g σ c k r:=by
 refine z5n wi (λax ay hx hy u JZ h=>?_) ho zq h
 cases hb:(c.eqs t&&yF u&&ax.val&&ay.val) with
 |false=>rw[hb]at h;simp at h
 |true=>
  rw[hb]at h;simp only[zJ]at h;simp only[zA]at hb;obtain⟨⟨⟨hq,wM⟩,S5⟩,hvy⟩:=hb;have Ua:=UJ wM;obtain⟨d,cs,h,hr,hev⟩:=Zq zq Ua S5 hx h;obtain⟨e,es,h,UT,q26⟩:=Zq zq Ua hvy hy h;have hT:=wi _ _ JZ;obtain⟨hs,hgd,YL⟩:=heq _ hq;have w8:u.sk.isAgg=true:=by
   cases u<;>simp[yF]at wM<;>first|rfl|(simp only[qZ]at hT)
  have zn:∀w',(Op.equal t (.agg cs.toArray) (.agg es.toArray)).run P w'=.ok (Ui u d e) w':=λw'=>by
   show(Op.equalIn (9999+1) t _ _).run P w'=_
   cases u with
   |pair ta tb=>
    simp only[qZ]at hT;obtain⟨⟨fs,hu,D9⟩,_⟩:=hT;have hfo:P.fieldsOf t=fs:=by simp[Program.fieldsOf,hu]
    rw[run_equalIn_struct w' 9999 t _ _ (by rw[hfo];exact hu) hs,hfo]
    exact VV 9998 wM D9 (YL fs hu) hr UT (by simp) (by simp)
   |arr n ta=>
    simp only[yF]at wM;simp only[qZ]at hT;obtain⟨⟨E,hu,hE⟩,_⟩:=hT;obtain⟨i,z,hi,ql,_⟩:=hE.info.info;have BU:ta.size=1:=by cases ta<;>simp[jG]at wM<;>rfl
    have hce:P.cellsOf E=1:=by simp[Program.cellsOf,hi,ql,BU]
    rw[run_equalIn_array w' 9999 _ _ hu hi,hce];obtain⟨l1,l2,l3⟩:=hr;obtain⟨m1,m2,m3⟩:=UT;have:=Cz (P:=P) (w:=w) (g:=g) (w':=w') 9998 (xs:=cs.toArray) (ys:=es.toArray) wM hE d e 0 (l1.trans m1.symm) (λi h=>by
     have:=l3 i h;rw[BU,Z2h]at this;simpa[stp]using this) (λi h=>by
     have:=m3 i h;rw[BU,Z2h]at this;simpa[stp]using this)
    rw[List.range_eq_range',<-l1]
    exact this
   |unit=>simp only[qZ]at hT
   |int _=>simp[yF]at wM
   |bool=>simp[yF]at wM
   |tree _=>simp[yF]at wM
   |str=>simp[yF]at wM
   |sl _ _=>simp[yF]at wM
   |ptr _=>simp[yF]at wM
   |fn _ _=>simp[yF]at wM
  have ex:a.eval x=.agg cs.toArray:=by rw[hev];simp[jl,w8]
  have ey:a.eval y=.agg es.toArray:=by rw[q26];simp[jl,w8]
  refine pA (f:=λv=>σ.qM c o.dst v k) (s:=binOp op t (.agg cs.toArray) (.agg es.toArray)) rfl ?_
   (λw v hv=>by simp[execOp,ho,ex,ey,run_eqGuard_agg w op t x y _ _ hgd,hv])
  cases op<;>simp only[C8]at h
  case eql=>exact Plain.bool h (λw=>by simp only[binOp,Sem.run_bind,zn,Result.andThen_ok,Sem.run_pure])
  case neq=>exact Plain.bool h (λw=>by simp only[binOp,Sem.run_bind,zn,Result.andThen_ok,Sem.run_pure])
  all_goals simp at h
end
end Go.Kz
namespace Go.Kz
open Go.MapKept
variable {R:Type}
theorem LJ{t:Ty}(hk:jG t=true){d e:t.den}(h:ja t d e=true):d=e:=by
 cases t<;>simp[jG]at hk<;>simpa[ja]using h
theorem z9i:{t:Ty}->yF t=true->(∀n u,t≠.arr n u)->{d e:t.den}->Ui t d e=true->d=e
 |.unit,_,_,_,_,_=>rfl
 |.pair a b,ht,_,(x,u),(y,v),h=>by
  simp only[yF,zA]at ht;simp only[Ui,zA]at h;have h1:=LJ ht.1 h.1;subst h1
  cases b with
  |arr n t=>
   simp only[Ui]at h;have:∀(l m:List t.den),kF (ja t) l m=true->l=m:=by
    intro l
    induction l with
    |nil=>intro m hm;cases m with
     |nil=>rfl
     |cons=>simp[kF]at hm
    |cons p l ih=>
     intro m hm
     cases m with
     |nil=>simp[kF]at hm
     |cons q m=>
      simp only[kF]at hm
      cases hc:ja t p q with
      |false=>rw[hc]at hm;simp at hm
      |true=>
       rw[hc]at hm;have:=LJ (by simpa[yF]using ht.2) hc;subst this;rw[ih m (by simpa using hm)]
   rw[this u v h.2]
  |pair c d=>rw[z9i ht.2 (by intro n u h;cases h) h.2]
  |unit=>rfl
  |int _=>simp[yF]at ht
  |bool=>simp[yF]at ht
  |str=>simp[yF]at ht
  |sl _ _=>simp[yF]at ht
  |ptr _=>simp[yF]at ht
  |fn _ _=>simp[yF]at ht
  |tree _=>simp[yF]at ht
 |.arr n t,_,hn,_,_,_=>absurd rfl (hn n t)
 |.int _,ht,_,_,_,_=>by simp[yF]at ht
 |.bool,ht,_,_,_,_=>by simp[yF]at ht
 |.str,ht,_,_,_,_=>by simp[yF]at ht
 |.sl _ _,ht,_,_,_,_=>by simp[yF]at ht
 |.ptr _,ht,_,_,_,_=>by simp[yF]at ht
 |.fn _ _,ht,_,_,_,_=>by simp[yF]at ht
 |.tree _,ht,_,_,_,_=>by simp[yF]at ht
theorem Ba{P:Program}{w w':World}{g:z8}(em:Bool)(n:Nat){xs:Array Value}:{t:Ty}->{fs:List Field}->{off:Nat}->{d:t.den}->{cs:List Value}->yF t=true->vC P t fs off->
  zM w g none t d cs->xs.toList.drop off=cs->∀f∈fs,∃a,(part f.type xs f.offset).run P w'=.ok a w'/\(Instr.checkKey em (n+1) f.type a).run P w'=.ok () w'
 |.unit,[],_,_,_,_,_,_,_=>by simp
 |.unit,_::_,_,_,_,_,hf,_,_=>by simp[vC]at hf
 |.pair _ _,[],_,_,_,_,hf,_,_=>by simp[vC]at hf
 |.pair a b,f::fs,off,(x,u),cs,ht,hf,h,hx=>by
  simp only[yF,zA]at ht;simp only[vC]at hf;obtain⟨c1,c2,rfl,h1,h2⟩:=h;have hk:=ht.1;have ql:a.size=1:=by cases a<;>simp[jG]at hk<;>rfl
  have hl:=h1.len;rw[ql]at hl;obtain⟨p,rfl⟩:=Z2f.1 hl;have w8:a.sk.isAgg=false:=by cases a<;>simp[jG]at hk<;>rfl
  have hik:=QD hk h1;simp only[jl,w8,Z2q,Z1w,Z2r]at hik;have qB:=Vm hk hf.2.1;have gX:P.plainKey f.type=true:=by
   unfold Program.plainKey;rw[qB];cases a<;>simp[jG]at hk<;>rfl
  have z8l:xs[off]? = some p:=by
   have:(xs.toList.drop off)[0]? = some p:=by rw[hx];rfl
   rw[Z34]at this;simpa using this
  have hxt:xs.toList.drop (off+a.size)=c2:=by
   rw[ql,<-Z1t,hx];rfl
  intro f' KY;rcases gJ.1 KY with rfl|KY
  ·exact⟨p,by rw[hf.1];exact run_part_plain w' gX z8l,run_checkKey qB hik em n⟩
  ·exact Ba em n ht.2 hf.2.2 h2 hxt f' KY
 |.int _,_,_,_,_,ht,_,_,_=>by simp[yF]at ht
 |.bool,_,_,_,_,ht,_,_,_=>by simp[yF]at ht
 |.str,_,_,_,_,ht,_,_,_=>by simp[yF]at ht
 |.arr _ _,_,_,_,_,_,hf,_,_=>by simp[vC]at hf
 |.sl _ _,_,_,_,_,ht,_,_,_=>by simp[yF]at ht
 |.ptr _,_,_,_,_,ht,_,_,_=>by simp[yF]at ht
 |.fn _ _,_,_,_,_,ht,_,_,_=>by simp[yF]at ht
 |.tree _,_,_,_,_,ht,_,_,_=>by simp[yF]at ht
theorem z0y{w:World}{g:z8}{t:Ty}{d:t.den}{cs es:List Value}(hk:jG t=true)(h:zM w g none t d cs)(h':zM w g none t d es):cs=es:=by
 cases t<;>simp[jG]at hk
 ·obtain⟨rfl,_⟩:=h;obtain⟨rfl,_⟩:=h';rfl
 ·cases h;cases h';rfl
 ·obtain⟨s,rfl,hs,_⟩:=h;obtain⟨s',rfl,FT,_⟩:=h';obtain⟨⟨l⟩⟩:=s;obtain⟨⟨l'⟩⟩:=s';simp only at hs FT;rw[hs,FT]
theorem z6s{w:World}{g:z8}{t:Ty}{d:t.den}{cs:List Value}(hk:jG t=true)(h:zM w g none t d cs):∀v∈cs,∀n,Instr.sameBits n v v=true:=by
 have hl:=h.len;have ql:t.size=1:=by cases t<;>simp[jG]at hk<;>rfl
 rw[ql]at hl;obtain⟨p,rfl⟩:=Z2f.1 hl;have w8:t.sk.isAgg=false:=by cases t<;>simp[jG]at hk<;>rfl
 have hik:=QD hk h;simp only[jl,w8,Z2q,Z1w,Z2r]at hik;intro v hv n;simp only[Om]at hv;subst hv;exact sameBits_self hik n
theorem C7{w:World}{g:z8}:{t:Ty}->{fs:List Field}->{P:Program}->{off:Nat}->{d:t.den}->{cs es:List Value}->yF t=true->vC P t fs off->zM w g none t d cs->zM w g none t d es->cs=es/\∀v∈cs,∀n,Instr.sameBits n v v=true
 |.unit,_,_,_,_,cs,es,_,_,h,h'=>by cases h;cases h';exact⟨rfl,by simp⟩
 |.pair a b,[],_,_,_,_,_,_,hf,_,_=>by simp[vC]at hf
 |.pair a b,f::fs,P,off,(x,u),cs,es,ht,hf,h,h'=>by
  simp only[yF,zA]at ht;simp only[vC]at hf;obtain⟨c1,c2,rfl,h1,h2⟩:=h;obtain⟨e1,e2,rfl,h3,h4⟩:=h';obtain⟨i1,i2⟩:=C7 ht.2 hf.2.2 h2 h4;refine⟨by rw[z0y ht.1 h1 h3,i1],λv hv n=>?_⟩;rcases PH.1 hv with hv|hv
  ·exact z6s ht.1 h1 v hv n
  ·exact i2 v hv n
 |.int _,_,_,_,_,_,_,ht,_,_,_=>by simp[yF]at ht
 |.bool,_,_,_,_,_,_,ht,_,_,_=>by simp[yF]at ht
 |.str,_,_,_,_,_,_,ht,_,_,_=>by simp[yF]at ht
 |.arr _ _,_,_,_,_,_,_,_,hf,_,_=>by simp[vC]at hf
 |.sl _ _,_,_,_,_,_,_,ht,_,_,_=>by simp[yF]at ht
 |.ptr _,_,_,_,_,_,_,ht,_,_,_=>by simp[yF]at ht
 |.fn _ _,_,_,_,_,_,_,ht,_,_,_=>by simp[yF]at ht
 |.tree _,_,_,_,_,_,_,ht,_,_,_=>by simp[yF]at ht
theorem HM{P:Program}{w:World}{g:z8}{T:TypeId}{ta tb:Ty}{d:(Ty.pair ta tb).den}{cs:List Value}(wM:yF (.pair ta tb)=true)(hT:qZ P (.pair ta tb) T)(h:zM w g none (.pair ta tb) d cs)(em:Bool)(w':World):
  (Instr.checkKey em 10000 T (.agg cs.toArray)).run P w'=.ok () w':=by
 simp only[qZ]at hT;obtain⟨⟨fs,hu,D9⟩,_⟩:=hT;have each:=Ba (w':=w') em 9998 (xs:=cs.toArray) wM D9 h (by simp);show(Instr.checkKey em (9999+1) T (.agg cs.toArray)).run P w'=.ok () w';rw[Instr.checkKey];simp only[Sem.run_bind,run_underlying hu,Result.andThen_ok];rw[<-Array.forIn_toList];generalize fs.toList=L at each;clear D9
 induction L with
 |nil=>simp
 |cons f L ih=>
  obtain⟨a,p1,p2⟩:=each f (by simp);have ih:=ih (λy hy=>each y (by simp[hy]))
  by_cases hn:f.name = "_"
  ·simp only[List.forIn_cons,Sem.run_bind,hn,ne_eq,not_true_eq_false,Z1w,Result.andThen_ok,Sem.run_pure];exact ih
  ·simp only[List.forIn_cons,Sem.run_bind,hn,ne_eq,not_false_eq_true,Z1x,Result.andThen_ok,p1,p2,Sem.run_pure];exact ih
def Rz(P:Program)(w:World)(g:z8)(kt vt:Ty)(KT:TypeId)(k:kt.den)(kv:Value)(es:List MapEntry)(m:List (kt.den×vt.den)):Prop:=
 ((∀w',(Instr.findKey KT kv es).run P w'=.ok none w')/\jF (GJ kt) m k=none/\
   ∀d cs b,zM w g none vt d cs->j7 w g kt vt (es++[⟨kv,jl vt.sk.isAgg cs,b⟩]) (ve (GJ kt) m k d))\/
  ∃j e v cs,(∀w',(Instr.findKey KT kv es).run P w'=.ok (some (j,e.val)) w')/\es[j]? = some e/\e.key=kv/\(∀w',(Instr.keyThatStays kv kv).run P w'=.ok kv w')/\(jF (GJ kt) m k=some v/\gG (GJ kt) m k=j)/\zM w g none vt v cs/\e.val=jl vt.sk.isAgg cs/\
   ∀d cs,zM w g none vt d cs->j7 w g kt vt (es.modify j λe=>{ e with key:=kv,val:=jl vt.sk.isAgg cs }) (ve (GJ kt) m k d)
theorem M0{P:Program}{w:World}{g:z8}{ta tb vt:Ty}{KT:TypeId}(wM:yF (.pair ta tb)=true)(hT:qZ P (.pair ta tb) KT)(hs:P.stoodInHeld KT=false)(YL:∀fs, P.underlying KT=some (.struct fs) -> ∀f ∈ fs.toList, f.name ≠ "_")
  {k:(Ty.pair ta tb).den}{Zs:List Value} (Qt:zM w g none (.pair ta tb) k Zs):{es:List MapEntry}->{m:List ((Ty.pair ta tb).den×vt.den)}->j7 w g (.pair ta tb) vt es m->
  ((∀w' i,(Instr.findAsking KT (.agg Zs.toArray) es i).run P w'=.ok none w')/\jF (Ui (.pair ta tb)) m k=none/\
   ∀d cs b,zM w g none vt d cs->j7 w g (.pair ta tb) vt (es++[⟨.agg Zs.toArray,jl vt.sk.isAgg cs,b⟩]) (ve (Ui (.pair ta tb)) m k d))\/
  ∃j e v cs,(∀w' i,(Instr.findAsking KT (.agg Zs.toArray) es i).run P w'=.ok (some (i+j,e.val)) w')/\es[j]? = some e/\e.key=.agg Zs.toArray/\(jF (Ui (.pair ta tb)) m k=some v/\gG (Ui (.pair ta tb)) m k=j)/\zM w g none vt v cs/\e.val=jl vt.sk.isAgg cs/\
   ∀d cs,zM w g none vt d cs->j7 w g (.pair ta tb) vt (es.modify j λe=>{ e with key:=.agg Zs.toArray,val:=jl vt.sk.isAgg cs }) (ve (Ui (.pair ta tb)) m k d)
 |[],[],_=>.inl ⟨λw' i=>by simp[Instr.findAsking],rfl,λd cs b h=>⟨⟨Zs,Qt,rfl⟩,⟨cs,h,rfl⟩,trivial⟩⟩
 |[],_::_,h=>h.elim
 |_::_,[],h=>h.elim
 |e::es,(k',v')::m,⟨⟨c1,h1,e1⟩,⟨c2,h2,e2⟩,h⟩=>by
  have e1:e.key=.agg c1.toArray:=e1;have hq:=Pd wM hT hs YL Qt h1;rw[<-e1]at hq
  cases hc:Ui (.pair ta tb) k k' with
  |true=>
   right;rw[hc]at hq;have hkk:k=k':=z9i wM (by intro n u h;cases h) hc;subst hkk;have hT':=hT;simp only[qZ]at hT';obtain⟨⟨fs,_,D9⟩,_⟩:=hT';have Zw:=(C7 wM D9 Qt h1).1;subst Zw;refine⟨0,e,v',c2,λw' i=>by simp[Instr.findAsking,hq],rfl,e1,by simp[jF,gG,hc],h2,e2,λd cs hd=>?_⟩;simp only[ve,hc,zJ,Z5o]
   exact⟨⟨Zs,h1,rfl⟩,⟨cs,hd,rfl⟩,h⟩
  |false=>
   rw[hc]at hq;rcases M0 wM hT hs YL Qt h with⟨f1,f2,f3⟩|⟨j,e',v,cs,f1,f2,f3,f4,f5,f6,f7⟩
   ·left;refine⟨λw' i=>by simp[Instr.findAsking,hq,f1],by simp[jF,hc,f2],λd cs b hd=>?_⟩;simp only[ve,hc,zU,Qm];exact⟨⟨c1,h1,e1⟩,⟨c2,h2,e2⟩,f3 d cs b hd⟩
   ·right;refine⟨j+1,e',v,cs,λw' i=>by simp[Instr.findAsking,hq,f1,Z2e,Z4s 1 j],by simpa using f2,f3,by simp[jF,gG,hc,f4],f5,f6,λd cs hd=>?_⟩;simp only[ve,hc,zU,Z5p];exact⟨⟨c1,h1,e1⟩,⟨c2,h2,e2⟩,f7 d cs hd⟩
theorem ze8{t:Ty}(h:jG t=true):GJ t=ja t:=by simp[GJ,h]
theorem z6v{a b:Ty}:GJ (.pair a b)=Ui (.pair a b):=rfl
theorem NU{P:Program}{w:World}{g:z8}{kt vt:Ty}{KT:TypeId}(hk:kTy kt=true)(hkT:zaq P kt KT){k:kt.den}{Zs:List Value}(Qt:zM w g none kt k Zs){es:List MapEntry}{m:List (kt.den×vt.den)}(hm:j7 w g kt vt es m):
  Rz P w g kt vt KT k (jl kt.sk.isAgg Zs) es m/\∀em w',(Instr.checkKey em 10000 KT (jl kt.sk.isAgg Zs)).run P w'=.ok () w':=by
 rcases Ev hk with hk|⟨a,b,rfl,wM⟩
 ·have hkd:=Vm hk hkT.1;have hik:=QD hk Qt;refine⟨?_,λem w'=>run_checkKey (P:=P) (w:=w') hkd hik em 9999⟩;unfold Rz;rw[ze8 hk];rcases SU hk Qt hm with⟨f1,f2,f3⟩|⟨j,e,v,cs,f1,f2,f3,f4,f5,f6,f7⟩
  ·exact .inl ⟨λw'=>run_findKey (P:=P) (w:=w') hkd f1,f2,f3⟩
  ·exact .inr ⟨j,e,v,cs,λw'=>run_findKey (P:=P) (w:=w') hkd f1,f2,f3,λw'=>run_keyThatStays (P:=P) (w:=w') hik,f4,f5,f6,f7⟩
 ·obtain⟨hT,h2⟩:=hkT;obtain⟨hs,YL⟩:=h2 rfl;refine⟨?_,λem w'=>HM wM hT Qt em w'⟩;have hT':=hT;simp only[qZ]at hT';obtain⟨⟨fs,hu,D9⟩,_⟩:=hT';have zht:(match P.underlying KT with|some (.array _ _)|some (.struct _)=>true|_=>false)=true:=by rw[hu]
  have Vw:jl (Ty.pair a b).sk.isAgg Zs=.agg Zs.toArray:=rfl;unfold Rz;rw[Vw,z6v];rcases M0 wM hT hs YL Qt hm with⟨f1,f2,f3⟩|⟨j,e,v,cs,f1,f2,f3,f4,f5,f6,f7⟩
  ·exact .inl ⟨λw'=>(run_findKey_eq w' zht _ _).trans (f1 w' 0),f2,f3⟩
  ·refine .inr ⟨j,e,v,cs,λw'=>(run_findKey_eq w' zht _ _).trans (by have:=f1 w' 0;rw[Wq]at this;exact this),f2,f3,λw'=>?_,f4,f5,f6,f7⟩;have hb:=(C7 wM D9 Qt Qt).2;have hsb:Instr.sameBits 10000 (.agg Zs.toArray) (.agg Zs.toArray)=true:=by
    show Instr.sameBits (9999+1) (.agg Zs.toArray) (.agg Zs.toArray)=true;simp only[Instr.sameBits,beq_self_eq_true,Z3k,Z2j];intro p hp;have h2:=List.of_mem_zip hp;have h3:p.1=p.2:=by
     obtain⟨i,hi,rfl⟩:=Wl.1 hp;simp
    rw[<-h3];exact hb _ (by simpa using h2.1) 9999
   simp[Instr.keyThatStays,hsb]
section
variable {P:Program}{o:Oper}{a:Act}{w:World}{K:Act->World->Prop}{Q:Exit->Act->World->Prop}{c:Ctx}{σ:St}{g:z8}{k:St->Option R}{r:R}{base:Nat}{mo:Bool}
theorem z0h(Sq:Hl P c.mt){t:TypeId}{x i:Operand}{ok:Bool}(ho:o.op=.lookup t x i ok)(zq:zP c.ntmps g w a σ)(h:qq c σ base o k=some r):vH P o a w g σ c k r:=by
 simp only[qq,ho]at h;split at h
 ·rename_i av bv hx hi;obtain⟨id,kt,vt,m,rfl,D8,zg,hkt,hvt,h⟩:=QA h;obtain⟨KT,E,qB,hkT,hvT,iz,z,hiz,hz,hzv⟩:=Sq _ _ _ D8
  cases hb:bv.val with
  |false=>rw[hb]at h;simp at h
  |true=>
   rw[hb]at h;simp only[zJ]at h;obtain⟨key,Zs,h,Qt,hev⟩:=Zq zq (GY hkt) hb hi h;obtain⟨es,ck,hblk,ze,_,_,zN,_⟩:=zq.heap.z6 _ _ zg;have hv:=Qo (qH zq hx).1 zg;have yP:g.qY id<w.heap.size:=zq.heap.tags _ (by rw[ze];simp);obtain⟨Eg,Up⟩:=NU hkt hkT Qt zN;split at h
   ·rename_i zd hzd;obtain⟨i0,z0,hi0,hs0,_,LU,Sw,_⟩:=hvT.info.info;have hzz:z0=z:=by rw[hiz]at hi0;cases hi0;rw[hz]at LU;cases LU;rfl
    subst hzz;have Ek:=vK (w:=w) (g:=g) (kf hvt) hzd;rw[<-Sw]at Ek;have z7a:∀w',(zeroValue E).run P w'=.ok z0 w':=λw'=>by simp[zeroValue,typeInfo,hiz,hz]
    have found:∃(vv:Value)(cs:List Value),zM w g none vt ((jF (GJ kt) m key).getD zd) cs/\vv=jl vt.sk.isAgg cs/\
      ∀w',vq w w'->(Instr.lookup t (.map (some (g.qY id))) (jl kt.sk.isAgg Zs) ok).run P w'=.ok (if ok then .tuple #[vv,.bool (jF (GJ kt) m key).isSome] else vv) w':=by
     rcases Eg with⟨f1,f2,_⟩|⟨j,e,v,cs,f1,f2,f3,_,f4,f5,f6,_⟩
     ·refine⟨z0,z0.cells.toList,by rw[f2];exact Ek,hzv,λw' w8=>?_⟩;have Zk:w'.heap[g.qY id]? = some (.map es ck):=by rw[w8 _ yP];exact hblk
      have hg:(getObj (g.qY id)).run P w'=.ok (.map es ck) w':=by simp[getObj,Sem.run,Zk]
      have BE:=Up es.isEmpty w';have hfk:=f1 w';simp[Instr.lookup,run_underlying qB,hg,BE,hfk,z7a,f2]
     ·refine⟨e.val,cs,by rw[f4.1];exact f5,f6,λw' w8=>?_⟩;have Zk:w'.heap[g.qY id]? = some (.map es ck):=by rw[w8 _ yP];exact hblk
      have hg:(getObj (g.qY id)).run P w'=.ok (.map es ck) w':=by simp[getObj,Sem.run,Zk]
      have BE:=Up es.isEmpty w';have hfk:=f1 w';simp[Instr.lookup,run_underlying qB,hg,BE,hfk,f4.1]
    obtain⟨vv,cs,hvr,uZ,zn⟩:=found;have ua:∀w',Mi o w w'->(execOp a.eval o).run P w'=.ok (.value (if ok then .tuple #[vv,.bool (jF (GJ kt) m key).isSome] else vv)) w':=λw' w8=>by
     have:=zn w' (w8 (by simp[isP,ho]));simp only[execOp,ho,hv,hev];simp[this]
    cases ok with
    |true=>
     simp only[zJ]at h;refine Qy (ua) ?_ (λm _=>by simp[z7.ids]) h;simp only[Z1x,qy];refine⟨[vv,.bool (jF (GJ kt) m key).isSome],rfl,?_⟩;simp only[qj]
     exact⟨vv,_,rfl,KB hvt hvr uZ,_,_,rfl,wC _,rfl⟩
    |false=>
     simp only[zU]at h;exact Qy ua (by simp only[Z2q,Z1w];exact KB hvt hvr uZ) (λm _=>by simp[z7.ids]) h
   ·simp at h
 ·simp at h
theorem FP(Sq:Hl P c.mt){t:TypeId}{x i y:Operand}(ho:o.op=.mapUpdate t x i y)(zq:zP c.ntmps g w a σ)(h:qq c σ base o k=some r)(hK:vz c.ntmps k r g w σ base true K):o.wp P a w K Q:=by
 simp only[qq,ho]at h;split at h
 ·rename_i av bv vv hx hi hy vl;obtain⟨id,kt,vt,m,rfl,D8,zg,hkt,hvt,h⟩:=QA h;obtain⟨KT,E,qB,hkT,hvT,_⟩:=Sq _ _ _ D8
  cases hb:(bv.val&&vv.val) with
  |false=>rw[hb]at h;simp at h
  |true=>
   rw[hb]at h;simp only[zJ]at h;simp only[zA]at hb;obtain⟨key,Zs,h,Qt,hev⟩:=Zq zq (GY hkt) hb.1 hi h;obtain⟨d,dcs,h,hdr,zmh⟩:=Zq zq hvt hb.2 hy h;obtain⟨es,ck,hblk,ze,_,_,zN,Dz,xM⟩:=zq.heap.z6 _ _ zg;have hv:=Qo (qH zq hx).1 zg;obtain⟨Eg,Up⟩:=NU hkt hkT Qt zN;have hg:(getObj (g.qY id)).run P w=.ok (.map es ck) w:=by simp[getObj,Sem.run,hblk]
   have wm:∀ob,(setObj (g.qY id) ob).run P w=.ok () { w with heap:=w.heap.setIfInBounds (g.qY id) ob }:=λob=>by simp[setObj,Sem.run,hblk]
   have BE:=Up false w;have key:∃es' ck',(Instr.mapUpdate t (.map (some (g.qY id))) (jl kt.sk.isAgg Zs) (jl vt.sk.isAgg dcs)).run P w=.ok () { w with heap:=w.heap.setIfInBounds (g.qY id) (.map es' ck') }/\j7 w g kt vt es'.toList (ve (GJ kt) m key d)/\ck'=es'.size/\p9 es'.toList:=by
    rcases Eg with⟨f1,f2,f3⟩|⟨j,e,v,cs,f1,f2,f3,hks,f4,f5,f6,f7⟩
    ·have hfk:=f1 w;refine⟨es.push ⟨jl kt.sk.isAgg Zs,jl vt.sk.isAgg dcs,ck⟩,ck+1,?_,?_,by simp[Dz],?_⟩
     ·simp[Instr.mapUpdate,run_underlying qB,hg,BE,hfk,wm]
     ·rw[Z4u];exact f3 d dcs ck hdr
     ·unfold p9 at xM⊢;rw[Z4u,XZ,xM,Jz,Dz];simp[Z2d]
    ·have hfk:=f1 w;have hks:=hks w;have hej:es[j]? = some e:=by rw[<-Z2i];exact f2
     refine⟨es.modify j λe=>{ e with key:=jl kt.sk.isAgg Zs,val:=jl vt.sk.isAgg dcs },ck,?_,?_,by simp[Dz],?_⟩
     ·simp[Instr.mapUpdate,run_underlying qB,hg,BE,hfk,wm,hej,f3,hks]
     ·rw[Z3l];exact f7 d dcs hdr
     ·unfold p9 at xM⊢;rw[Z3l,Z5r,<-xM];apply Z2v;intro i;simp only[Ny,Z4v];split
      ·cases es.toList[i]? <;>rfl
      ·simp
   obtain⟨es',ck',zn,BX,zmp,LC⟩:=key;obtain⟨qG,qm,v7⟩:=Bz (ck:=ck') zq zg BX zmp LC;refine wp_skip vl ?_ qG qm (λn _ hn=>v7 n hn) rfl h (λh=>Bool.noConfusion h) hK;simp only[execOp,ho,hv,hev,zmh];simp[zn]
 ·simp at h
theorem Ez{I Z:Type}{eq:I->I->Bool}:{m:List (I×Z)}->{k:I}->jF eq m k=none->gG eq m k=m.length
 |[],_,_=>rfl
 |(a,b)::m,k,h=>by
  simp only[jF,gG]at h⊢
  cases hc:eq k a with
  |true=>rw[hc]at h;simp at h
  |false=>rw[hc]at h;simp only[zU]at h⊢;rw[Ez h];rfl
theorem Re{I Z:Type}{eq:I->I->Bool}(k:I):(m:List (I×Z))->gG eq m k<=m.length
 |[]=>jq _
 |(a,b)::m=>by
  have:=Re k m (eq:=eq);simp only[gG,X4];cases eq k a
  ·simp only[zU];omega
  ·simp only[zJ];omega
theorem j7.set{w:World}{g:z8}{kt vt:Ty}{d:vt.den}{cs:List Value}(hd:zM w g none vt d cs):{es:List MapEntry}->{m:List (kt.den×vt.den)}->{j:Nat}->j7 w g kt vt es m->j7 w g kt vt (es.modify j λe=>{ e with val:=jl vt.sk.isAgg cs }) (B4 m j d)
 |[],[],_,_=>by simp[B4,j7]
 |e::_,(k,v)::_,0,h=>by
  simp only[B4,Z5o]
  exact⟨h.1,⟨cs,hd,rfl⟩,h.2.2⟩
 |e::_,(k,v)::_,j+1,h=>by
  simp only[B4,Z5p]
  exact⟨h.1,h.2.1,j7.set hd h.2.2⟩
 |[],_::_,_,h=>h.elim
 |_::_,[],_,h=>h.elim
theorem Ih(Sq:Hl P c.mt){t:TypeId}{x i:Operand}(ho:o.op=.mapEntry t x i)(zq:zP c.ntmps g w a σ)(h:qq c σ base o k=some r)(hK:vz c.ntmps k r g w σ base true K):o.wp P a w K Q:=by
 simp only[qq,ho]at h;split at h
 ·rename_i av bv hx hi;obtain⟨id,kt,vt,m,rfl,D8,zg,hkt,hvt,h⟩:=QA h;obtain⟨KT,E,qB,hkT,hvT,iz,z,hiz,hz,hzv⟩:=Sq _ _ _ D8
  cases hb:bv.val with
  |false=>rw[hb]at h;simp at h
  |true=>
   rw[hb]at h;simp only[zJ]at h;obtain⟨key,Zs,h,Qt,hev⟩:=Zq zq (GY hkt) hb hi h;obtain⟨es,ck,hblk,ze,_,_,zN,Dz,xM⟩:=zq.heap.z6 _ _ zg;have hv:=Qo (qH zq hx).1 zg;obtain⟨Eg,Up⟩:=NU hkt hkT Qt zN;split at h
   ·rename_i zd hzd;obtain⟨pv,h⟩:=qT h;have pv:=X1 pv;obtain⟨i0,z0,hi0,hs0,_,LU,Sw,_⟩:=hvT.info.info;have hzz:z0=z:=by rw[hiz]at hi0;cases hi0;rw[hz]at LU;cases LU;rfl
    subst hzz;have Ek:=vK (w:=w) (g:=g) (kf hvt) hzd;rw[<-Sw]at Ek;have z7a:(zeroValue E).run P w=.ok z0 w:=by simp[zeroValue,typeInfo,hiz,hz]
    have hg:(getObj (g.qY id)).run P w=.ok (.map es ck) w:=by simp[getObj,Sem.run,hblk]
    have wm:∀ob,(setObj (g.qY id) ob).run P w=.ok () { w with heap:=w.heap.setIfInBounds (g.qY id) ob }:=λob=>by simp[setObj,Sem.run,hblk]
    have BE:=Up false w;have hlen:=zN.length;have zmi:es.size=m.length:=by rw[<-hlen,gT]
    have key:∃es' ck' vv cs,(Instr.mapEntry t (.map (some (g.qY id))) (jl kt.sk.isAgg Zs)).run P w=.ok (.tuple #[vv,goInt (gG (GJ kt) m key)]) { w with heap:=w.heap.setIfInBounds (g.qY id) (.map es' ck') }/\
      j7 w g kt vt es'.toList (ve (GJ kt) m key ((jF (GJ kt) m key).getD zd))/\ck'=es'.size/\p9 es'.toList/\zM w g none vt ((jF (GJ kt) m key).getD zd) cs/\vv=jl vt.sk.isAgg cs:=by
     rcases Eg with⟨f1,f2,f3⟩|⟨j,e,v,cs,f1,f2,f3,hks,f4,f5,f6,f7⟩
     ·have hfk:=f1 w;refine⟨es.push ⟨jl kt.sk.isAgg Zs,z0,ck⟩,ck+1,z0,z0.cells.toList,?_,?_,by simp[Dz],?_,by rw[f2];exact Ek,hzv⟩
      ·rw[Ez f2,<-zmi,<-Dz];simp[Instr.mapEntry,run_underlying qB,hg,BE,hfk,wm,z7a]
      ·rw[Z4u,f2];have:=f3 zd z0.cells.toList ck Ek;rw[<-hzv]at this;exact this
      ·unfold p9 at xM⊢;rw[Z4u,XZ,xM,Jz,Dz];simp[Z2d]
     ·have hfk:=f1 w;have hks:=hks w;have hej:es[j]? = some e:=by rw[<-Z2i];exact f2
      have ztm:e.born=j:=by
       unfold p9 at xM;have h1:(es.toList.map (·.born))[j]? = some e.born:=by rw[Ny,f2];rfl
       rw[xM]at h1;have hj:j<es.toList.length:=(Z3u.1 f2).1;rw[Z4w hj]at h1;simpa using h1.symm
      refine⟨es.modify j λe=>{ e with key:=jl kt.sk.isAgg Zs },ck,e.val,cs,?_,?_,by simp[Dz],?_,by rw[f4.1];exact f5,f6⟩
      ·rw[show gG (GJ kt) m key=e.born from f4.2.trans ztm.symm];simp[Instr.mapEntry,run_underlying qB,hg,BE,hfk,wm,hej,f3,hks]
      ·have:=f7 v cs f5;rw[f4.1,Z3l];have e1:es.toList.modify j (λe=>{ e with key:=jl kt.sk.isAgg Zs,val:=jl vt.sk.isAgg cs })=es.toList.modify j (λe=>{ e with key:=jl kt.sk.isAgg Zs }):=by
        apply Z2v;intro q;simp only[Z4v];split
        ·rename_i hq;subst hq;rw[f2];simp[f6]
        ·rfl
       rw[e1]at this;exact this
      ·unfold p9 at xM⊢;rw[Z3l,Z5r,<-xM];apply Z2v;intro i;simp only[Ny,Z4v];split
       ·cases es.toList[i]? <;>rfl
       ·simp
    obtain⟨es',ck',vv,cs,zn,BX,zmp,LC,hvr,uZ⟩:=key;obtain⟨qG,qm,v7⟩:=Bz (ck:=ck') zq zg BX zmp LC;refine jL (v:=.tuple #[vv,goInt (gG (GJ kt) m key)]) ?_ qG qm (λn _ hn=>⟨v7 n hn,by simp[z7.ids]⟩) rfl ?_ h (λh=>Bool.noConfusion h) hK
    ·simp only[execOp,ho,hv,hev];simp[zn]
    ·simp only[qy];refine⟨[vv,goInt (gG (GJ kt) m key)],rfl,?_⟩;simp only[qj];refine⟨vv,_,rfl,?_,_,_,rfl,?_,rfl⟩
     ·have qU:zS w g { w with heap:=w.heap.setIfInBounds (g.qY id) (.map es' ck') } g:=qm.ro zq.heap.tags;exact KB hvt (hvr.kept qU) uZ
     ·have hle:gG (GJ kt) m key<=m.length:=Re key m;unfold room at pv;refine vB ?_;simp only[IntKind.min,IntKind.max,IntKind.bits,IntKind.signed];simp;omega
   ·simp at h
 ·simp at h
theorem Co(Sq:Hl P c.mt){t:TypeId}{x i y:Operand}(ho:o.op=.entryStore t x i y)(zq:zP c.ntmps g w a σ)(h:qq c σ base o k=some r)(hK:vz c.ntmps k r g w σ base true K):o.wp P a w K Q:=by
 simp only[qq,ho]at h;split at h
 ·rename_i av ik p vv hx hi hy vl;obtain⟨id,kt,vt,m,rfl,D8,zg,hkt,hvt,h⟩:=QA h
  cases hb:vv.val with
  |false=>rw[hb]at h;simp at h
  |true=>
   rw[hb]at h;simp only[zJ]at h;obtain⟨d,dcs,h,hdr,zmh⟩:=Zq zq hvt hb hy h;obtain⟨hr,h⟩:=qT h;simp only[zA,jc]at hr;obtain⟨hr0,hr1⟩:=hr;obtain⟨es,ck,hblk,ze,_,_,zN,Dz,xM⟩:=zq.heap.z6 _ _ zg;have hv:=Qo (qH zq hx).1 zg;have hiv:=(jo (qH zq hi).1).1;have hg:(getObj (g.qY id)).run P w=.ok (.map es ck) w:=by simp[getObj,Sem.run,hblk]
   have wm:∀ob,(setObj (g.qY id) ob).run P w=.ok () { w with heap:=w.heap.setIfInBounds (g.qY id) ob }:=λob=>by simp[setObj,Sem.run,hblk]
   have zmi:es.size=m.length:=by rw[<-zN.length,gT]
   have hpz:p.toNat<es.size:=by rw[zmi];exact(Int.toNat_lt hr0).2 hr1
   have hpi:(p.toNat:Int)=p:=Z2o hr0;have ztd:es.findIdx? (λe=>(e.born:Int) == p)=some p.toNat:=by
    rw[Array.findIdx?_eq_some_iff_getElem];unfold p9 at xM;have hb:∀(j:Nat)(hj:j<es.size),es[j].born=j:=λj hj=>by
     have h1:(es.toList.map (·.born))[j]? = some es[j].born:=by rw[Ny,Z2i,Z5k hj];rfl
     rw[xM,Z4w (by simpa using hj)]at h1;simpa using h1.symm
    refine⟨hpz,?_,λj hj=>?_⟩
    ·rw[hb _ hpz,hpi];simp
    ·rw[hb _ (Nat.lt_trans hj hpz),<-hpi];simp;omega
   have BX:j7 w g kt vt (es.modify p.toNat λe=>{ e with val:=jl vt.sk.isAgg dcs }).toList (B4 m p.toNat d):=by
    rw[Z3l];exact j7.set hdr zN
   have LC:p9 (es.modify p.toNat λe=>{ e with val:=jl vt.sk.isAgg dcs }).toList:=by
    unfold p9 at xM⊢;rw[Z3l,Z5r,<-xM];apply Z2v;intro i;simp only[Ny,Z4v];split
    ·cases es.toList[i]? <;>rfl
    ·simp
   obtain⟨qG,qm,v7⟩:=Bz (ck:=ck) zq zg BX (by simp[Dz]) LC;refine wp_skip vl ?_ qG qm (λn _ hn=>v7 n hn) rfl h (λh=>Bool.noConfusion h) hK;simp only[execOp,ho,hv,hiv,zmh];simp[Instr.entryStore,hg,asInt,asIntOf,ztd,wm]
 ·simp at h
end
end Go.Kz
namespace Go.Kz
open Go.ChangeMaps (setBlock)
open Go.MapKept
variable {R:Type}
theorem Oi{I:Type}{f:I->Option R}{l:List I}{r:R}(h:zad f l=some r):∀a∈l,f a=some r:=by
 cases l with
 |nil=>simp
 |cons a l=>
  simp only[zad]at h;split at h
  ·rename_i hall;intro b hb;rcases gJ.1 hb with rfl|hb
   ·exact h
   ·rw[hall b hb];exact h
  ·simp at h
theorem B9{n:Nat}{i:Int}:i∈upto n↔0<=i/\i<n:=by
 induction n with
 |zero=>simp[upto]
 |succ n ih=>simp only[upto,PH,ih,Om];omega
theorem j7.get{w:World}{g:z8}{kt vt:Ty}:{es:List MapEntry}->{m:List (kt.den×vt.den)}->j7 w g kt vt es m->{i:Nat}->{e:MapEntry}->es[i]? = some e->
  ∃k v,m[i]? = some (k,v)/\(∃cs,zM w g none kt k cs/\e.key=jl kt.sk.isAgg cs)/\∃cs,zM w g none vt v cs/\e.val=jl vt.sk.isAgg cs
 |[],_,_,i,e,he=>by simp at he
 |e0::es,(k,v)::m,⟨h1,h2,h⟩,i,e,he=>by
  cases i with
  |zero=>
   simp only[Z5s,zI]at he;subst he
   exact⟨k,v,rfl,h1,h2⟩
  |succ i=>
   obtain⟨k',v',h3,h4⟩:=h.get (i:=i) (e:=e) (by simpa using he)
   exact⟨k',v',by simpa using h3,h4⟩
 |_::_,[],h,_,_,_=>h.elim
theorem p9.at{es:List MapEntry}(h:p9 es){i:Nat}{e:MapEntry}(he:es[i]? = some e):e.born=i:=by
 unfold p9 at h;have h1:(es.map (·.born))[i]? = some e.born:=by simp[he]
 have hi:i<es.length:=(Z3u.1 he).1;rw[h,Z4w hi]at h1;simpa using h1.symm
section
variable {P:Program}{o:Oper}{a:Act}{w:World}{K:Act->World->Prop}{Q:Exit->Act->World->Prop}{c:Ctx}{σ:St}{g:z8}{k:St->Option R}{r:R}{base:Nat}{mo:Bool}
theorem z5g(Sq:Hl P c.mt){t:TypeId}{x:Operand}{av:z7}(ho:o.op=.range t x)(zq:zP c.ntmps g w a σ)(hf:zu g σ base)(hx:ev σ x=some av)(h:NR c σ base o.dst t av k=some r)
  (hK:vz c.ntmps k r g w σ base mo K):o.wp P a w K Q:=by
 unfold NR at h;split at h
 ·rename_i id mt D8;split at h
  ·rename_i kt vt m zg;obtain⟨KT,E,qB,_⟩:=Sq _ _ _ D8;have hv:=Qo (qH zq hx).1 zg;obtain⟨es,ck,hblk,ze,_,_,zN,BE,xM⟩:=zq.heap.z6 _ _ zg;have hl:=zN.length;have va:id≠base:=λhe=>by subst he;have:=hf.z6;rw[zg]at this;simp at this
   have zn:=run_range_map (P:=P) w t KT E (g.qY id) es ck qB hblk;have hn:ck=m.length:=by rw[BE,<-hl,gT]
   refine Wo (ob:=.mapIter (some (g.qY id)) ck #[] ck) (obj:=.cell (xZ id (m.length:Int) (upto m.length) (-1))) (tg:=.box base) (v:=undef) (v':=.pointer (some ⟨w.heap.size,0,none⟩)) zq hf (.inl rfl) ?_ rfl ?_ ?_ ?_ h hK
   ·simp only[execOp,ho,hv];simp[zn]
   ·refine(qz.iter rfl).2 ⟨id,m.length,g.qY id,#[],-1,?_,?_,by simp[yx],λc hc=>by omega,λXv X8 m' hm=>?_⟩
    ·congr 1;exact(List.filter_eq_self.2 (by simp)).symm
    ·have hb:(yx g w.heap.size base (.box base) undef).qY base=w.heap.size:=by simp[yx]
     rw[hb,hn];exact heap_alloc_new w _
    ·simp[yx,va]
   ·intro y hy m' _ wX;simp only[Obj.cell.injEq]at hy;subst hy;simp only[xZ,z7.ids,Hc,Om];intro he;subst he;have:=wX.z6;rw[zg]at this;simp at this
   ·simp only[qy];refine⟨_,⟨_,rfl,rfl,λy _=>?_⟩,rfl⟩;refine⟨0,y.sk,by simp[Sk.off],?_⟩;simp[yx]
  ·simp at h
 ·simp at h
set_option maxHeartbeats 2000000 in
theorem zdh{x:Operand}{av:z7}(ho:o.op=.next x false)(zq:zP c.ntmps g w a σ)(hx:ev σ x=some av)(h:z69 c σ o.dst av k=some r)(hK:vz c.ntmps k r g w σ base true K):o.wp P a w K Q:=by
 unfold z69 at h;split at h
 ·rename_i id;split at h
  ·rename_i PC n left curx zg;split at h
   ·rename_i kt vt m hmo;obtain⟨hn,h⟩:=qT h;have hn:=X1 hn;obtain⟨ex,ef⟩:=qH zq hx;simp only[qy]at ex;obtain⟨cs,⟨v,rfl,_,uZ⟩,hv⟩:=ex;obtain⟨off,s,jH,rfl⟩:=uZ _ zg;simp only[Sk.off,zI,p8]at jH;obtain⟨rfl,_⟩:=jH;have hv:a.eval x=.pointer (some ⟨g.qY id,0,none⟩):=hv;obtain⟨zy7,n',bm,seen,q3t,hit,hblk,ze,_,hbm⟩:=(qz.iter rfl).1 (zq.heap.z6 _ _ zg);simp only[xZ,z7.jD.injEq,z7.pr.injEq,z7.qF.injEq,z7.data.injEq,heq_eq_eq,X3,Dx]at hit;obtain⟨rfl,rfl,rfl,rfl⟩:=hit;obtain⟨es,ck,Ep,zsm,Qt,hvr,zN,BE,xM⟩:=zq.heap.z6 _ _ hmo;have hl:=zN.length;rw[gT]at hl;have Ff:n'=es.size:=by have:((n':Nat):Int)=((m.length:Nat):Int):=hn;omega
    rw[<-hbm _ _ _ hmo]at Ep;have hold:∀x∈es.toList,x.born<n':=by
     intro x hx;obtain⟨p,hp,rfl⟩:=Wl.1 hx;rw[xM.at (wV hp)];rw[gT]at hp;omega
    have inL:∀e,e∈(leftOf es seen).toList->es.toList[e.born]? = some e/\(e.born:Int)∈(upto n').filter (λi=>!seen.contains i.toNat):=by
     intro e he;obtain⟨h1,h2⟩:=mem_left he;obtain⟨p,hp,rfl⟩:=Wl.1 h1;have hb:=xM.at (wV hp);refine⟨by rw[hb];exact wV hp,Z35.2 ⟨B9.2 ⟨by omega,by have:=hold _ h1;omega⟩,?_⟩⟩;simp only[Wi,h2,Z1z]
    rcases run_next_at (P:=P) w o.type (g.qY id) bm n' n' seen es ck hblk Ep hold (jq _) with⟨hz,zn⟩|⟨e,he,w1,hw1,zn⟩
    ·have z7v:(upto n').filter (λi=>!seen.contains i.toNat)=[]:=by
      rw[Z4x];intro j hj;obtain⟨h1,h2⟩:=Z35.1 hj;rw[B9]at h1;have hp:j.toNat<es.toList.length:=by rw[gT];omega
      have hb:=xM.at (wV hp);have h0:leftOf es seen=#[]:=Z5e hz;have hm:es.toList[j.toNat]∈leftOf es seen:=by
       unfold leftOf;rw[Array.mem_filter];refine⟨Array.mem_toList_iff.1 (wB hp),?_⟩;rw[hb];exact h2
      rw[h0]at hm;simp at hm
     have h':An ((upto n').filter (λi=>!seen.contains i.toNat)) (σ.qM c o.dst (.jD (.pr (.data .bool false) .un)) k) _=some r:=h;rw[z7v]at h';simp only[An]at h';refine jL (g:=g) (g':=g) (σ:=σ) (σ':=σ) (base:=base) (v:=.tuple #[.bool false]) (w':=w) ?_ zq (Ext.refl w g) (λm _ wX=>⟨wX,by simp[z7.ids]⟩) rfl ?_ h' (λh=>Bool.noConfusion h) hK
     ·simp only[execOp,ho,hv];simp[zn]
     ·simp only[qy];refine⟨[.bool false],rfl,?_⟩;simp only[qj];exact⟨_,_,rfl,wC _,rfl⟩
    ·obtain⟨hei,vw⟩:=inL e he;have hf:∀(L:List Int)(D:Option R)(F:Int->List Int->Option R),(e.born:Int)∈L->An L D F=some r->F e.born (L.filter λi=>!decide (i=(e.born:Int)))=some r:=by
      intro L D F hL Fe
      cases L with
      |nil=>simp at hL
      |cons j l=>
       simp only[An]at Fe;exact Oi Fe _ hL
     have h2:=hf _ _ _ vw h;obtain⟨kk,vv,hm,⟨Zs,z84,Ox⟩,vcs,z7c,hval⟩:=zN.get hei;have q1w:idx m (e.born:Int)=some (kk,vv):=hm;rw[q1w]at h2;simp only[zO]at h2;have h3:(σ.setObj id (.cell (xZ PC (n':Int) (((upto n').filter (λi=>!seen.contains i.toNat)).filter (λi=>!decide (i=(e.born:Int)))) (e.born:Int)))).qM c o.dst (.jD (.pr (.data .bool true) (.pr (.data kt kk) (.pr (.data vt vv) .un)))) k=some r:=h2;clear h2 h hf;have pO:((upto n').filter (λi=>!seen.contains i.toNat)).filter (λi=>!decide (i=(e.born:Int)))=(upto n').filter (λi=>!(seen.push e.born).contains i.toNat):=by
      rw[Z47];refine Z3m λi hi=>?_
      rw[B9]at hi;by_cases hie:i=(e.born:Int)
      ·subst hie;simp
      ·have:i.toNat≠e.born:=by omega
       simp[hie,this]
     have yM:zP c.ntmps g w1 a σ:=by
      rcases hw1 with rfl|rfl
      ·exact zq
      ·exact zP.YM (w:=w) (w':=w.drew) rfl zq
     have yC:Ext w g w1 g:=by
      rcases hw1 with rfl|rfl
      ·exact Ext.refl _ g
      ·exact Ext.YM (w:=w) (w':=w.drew) rfl rfl rfl rfl (Z1h _)
     have gB:w1.heap=w.heap:=by rcases hw1 with rfl|rfl<;>rfl
     have zto:w1.heap[g.qY id]? = some (.mapIter (some bm) n' seen n'):=by rw[gB];exact hblk
     have hcn:ck=n':=by rw[BE,Ff]
     obtain⟨k1,k2⟩:=heap_set (o':=.mapIter (some bm) n' (seen.push e.born) ck) zto;let w2:World:=setBlock w1 (g.qY id) (.mapIter (some bm) n' (seen.push e.born) ck);have qU:zS w1 g w2 g:=⟨λb hb=>⟨hb,k2 b (λhe=>by subst he;rw[ze]at hb;simp at hb)⟩⟩;have LN:∀m',zu g σ m'->m'≠PC:=λm' wX he=>by subst he;have:=wX.z6;rw[hmo]at this;simp at this
     have q1y:∀m',zu g σ m'->m'≠id:=λm' wX he=>by subst he;have:=wX.z6;rw[zg]at this;simp at this
     have YL:PC≠id:=λhe=>by subst he;rw[hmo]at zg;simp at zg
     refine jL (g:=g) (g':=g) (σ:=σ) (base:=base) (σ':=σ.setObj id (.cell (xZ PC (n':Int) (((upto n').filter (λi=>!seen.contains i.toNat)).filter (λi=>!decide (i=(e.born:Int)))) (e.born:Int)))) (v:=.tuple #[.bool true,e.key,e.val]) (w':=w2) ?_ ?_ (yC.trans ?_) (λm' _ wX=>⟨?_,by simp[z7.ids]⟩) rfl ?_ h3 (λh=>Bool.noConfusion h) hK
     ·simp only[execOp,ho,hv];simp[zn,w2]
     ·refine yM.pf qU (λi hi=>?_) (.inl (.inr (.inr (.inl ⟨_,_,zg,rfl,rfl,rfl⟩)))) ?_ (λb hb=>?_)
      ·refine⟨⟨λq=>rfl,λq b hb=>⟨hb,k2 b (λhe=>?_)⟩⟩,rfl,λhb=>⟨hb,k2 _ (λhe=>?_)⟩⟩
       ·subst he;rw[ze]at hb;simp at hb
       ·rw[he,ze]at hb;simp only[Tag.box.injEq]at hb;exact hi hb.symm
      ·have h5:w2.heap[g.qY id]? = some (.mapIter (some bm) n' (seen.push e.born) ck):=k1;rw[hcn]at h5;have h6:∀c:Nat,(e.born:Int)=(c:Int)->(seen.push e.born).back? = some c:=by
        intro c hc;have:c=e.born:=by omega
        subst this;simp
       refine(qz.iter rfl).2 ⟨PC,n',bm,seen.push e.born,(e.born:Int),by rw[pO],h5,ze,h6,λXv X8 m' Ub=>?_⟩;simp only[St.setObj]at Ub;rw[zm _ _ YL]at Ub;exact hbm _ _ _ Ub
      ·have:=yM.heap.tags b hb;simpa[w2,setBlock]using this
     ·refine⟨rfl,rfl,rfl,jq _,by simp[w2,setBlock],λb _ hb=>⟨k2 b (λhe=>?_),rfl⟩⟩;subst he;rw[ze]at hb;simp at hb
     ·refine⟨?_,wX.row,wX.box,wX.zy,λi av hi=>?_⟩
      ·simp only[St.setObj];rw[zm _ _ (q1y m' wX)];exact wX.z6
      ·by_cases OZ:i=id
       ·subst OZ;simp only[St.setObj,zD,zI,Obj.cell.injEq]at hi;subst hi;simpa[xZ,z7.ids]using LN m' wX
       ·simp only[St.setObj]at hi;rw[zm _ _ OZ]at hi;exact wX.cells i av hi
     ·have Vj:zS w g w2 g:=⟨λb hb=>⟨hb,((qU.qY b hb).2).trans (by rw[gB])⟩⟩;simp only[qy];refine⟨[.bool true,e.key,e.val],rfl,?_⟩;simp only[qj];exact⟨_,_,rfl,wC _,_,_,rfl,⟨Zs,⟨Qt,z84.kept Vj⟩,Ox⟩,_,_,rfl,⟨vcs,⟨hvr,z7c.kept Vj⟩,hval⟩,rfl⟩
   ·simp at h
  ·simp at h
 ·simp at h
theorem z5j{x:Operand}{av:z7}(ho:o.op=.entry x)(zq:zP c.ntmps g w a σ)(hx:ev σ x=some av)(h:OE c σ o.dst av k=some r)(hK:vz c.ntmps k r g w σ base true K):o.wp P a w K Q:=by
 unfold OE at h;split at h
 ·rename_i id;split at h
  ·rename_i PC n left cur zg;split at h
   ·rename_i kt vt m hmo;have hn:=X1 (qT h).1;replace h:=(qT h).2;obtain⟨ex,ef⟩:=qH zq hx;simp only[qy]at ex;obtain⟨cs,⟨v,rfl,_,uZ⟩,hv⟩:=ex;obtain⟨off,s,jH,rfl⟩:=uZ _ zg;simp only[Sk.off,zI,p8]at jH;obtain⟨rfl,_⟩:=jH;have hv:a.eval x=.pointer (some ⟨g.qY id,0,none⟩):=hv;obtain⟨zy7,n',bm,seen,q3t,hit,hblk,ze,q2f,hbm⟩:=(qz.iter rfl).1 (zq.heap.z6 _ _ zg);simp only[xZ,z7.jD.injEq,z7.pr.injEq,z7.qF.injEq,z7.data.injEq,heq_eq_eq,X3,Dx]at hit;obtain⟨rfl,rfl,rfl,rfl⟩:=hit;obtain⟨es,ck,Ep,zsm,Qt,hvr,zN,BE,xM⟩:=zq.heap.z6 _ _ hmo;have hl:=zN.length;rw[gT]at hl;have Ff:n'=es.size:=by have:((n':Nat):Int)=((m.length:Nat):Int):=hn;omega
    rw[<-hbm _ _ _ hmo]at Ep;obtain⟨e,he,h⟩:=Zh.1 h;obtain⟨h0,him,rfl,yP⟩:=jt he;have hci:cur=((cur.toNat:Nat):Int):=(Z2o h0).symm;have Su:=q2f cur.toNat hci;have hp:cur.toNat<es.toList.length:=by rw[gT];omega
    have PE:=wV hp;obtain⟨kk,vv,hm,⟨Zs,z84,Ox⟩,vcs,z7c,hval⟩:=zN.get PE;have hb:=xM.at PE;have hml:m.get ⟨cur.toNat,him⟩=(kk,vv):=by
     have:=wV him;rw[this]at hm;simpa using hm
    rw[hml]at h;have hnd:(es.toList.map (·.born)).Nodup:=by
     have h2:es.toList.map (·.born)=List.range es.toList.length:=xM;rw[h2];exact List.nodup_range
    have hf:es.find? (λy=>y.born == cur.toNat)=some es.toList[cur.toNat]:=by
     have:=find_born es.toList[cur.toNat] es.toList hnd (wB hp);rw[hb]at this;rw[<-Array.find?_toList];exact this
    have zn:(Instr.entry (.pointer (some ⟨g.qY id,0,none⟩))).run P w=.ok (.tuple #[es.toList[cur.toNat].key,es.toList[cur.toNat].val]) w:=by
     have hcn:ck=n':=by rw[BE,Ff]
     rw[hcn]at Ep;simp only[Instr.entry,getObj,Sem.run_bind,Sem.run,hblk,Ep,Result.andThen,Su,bne_self_eq_false,Z2q,Z1w,hf];rfl
    refine jL (g:=g) (g':=g) (σ:=σ) (σ':=σ) (base:=base) (v:=.tuple #[es.toList[cur.toNat].key,es.toList[cur.toNat].val]) (w':=w) ?_ zq (Ext.refl w g) (λm _ wX=>⟨wX,by simp[z7.ids]⟩) rfl ?_ h (λh=>Bool.noConfusion h) hK
    ·simp only[execOp,ho,hv];simp[zn]
    ·simp only[qy];refine⟨[es.toList[cur.toNat].key,es.toList[cur.toNat].val],rfl,?_⟩;simp only[qj];exact⟨_,_,rfl,⟨Zs,⟨Qt,z84⟩,Ox⟩,_,_,rfl,⟨vcs,⟨hvr,z7c⟩,hval⟩,rfl⟩
   ·simp at h
  ·simp at h
 ·simp at h
end
end Go.Kz
namespace Go.Kz
variable {R:Type}
section
variable {P:Program}{o:Oper}{a:Act}{w:World}{c:Ctx}{σ:St}{g:z8}{k:St->Option R}{r:R}{base:Nat}
theorem DL{T:TypeId}{u:Ty}(hT:qZ P u T)(cs:List Value)(off:Nat)(hs:off+u.size<=cs.length)(w:World):
  (part T cs.toArray off).run P w=.ok (jl u.sk.isAgg (qi cs off u.size)) w:=by
 have w8:=DM hT w;unfold part;rw[Sem.run_bind,w8]
 cases hu:u.sk.isAgg with
 |true=>
  have ql:=hT.info.sizeOf w;simp only[Result.andThen_ok,Z1x,Sem.run_bind,ql,Sem.run_pure];congr 1;simp only[jl,Z1x,Value.agg.injEq];apply Z22.1
  simp[qi,List.extract]
 |false=>
  have h1:u.size=1:=by cases u<;>simp[Ty.sk,Sk.isAgg]at hu<;>simp[Ty.size]
  have yP:off<cs.length:=by omega
  have hg:cs.toArray[off]? = some cs[off]:=by simp[yP]
  simp only[Result.andThen_ok,Z2q,Z1w,hg,Sem.run_pure];congr 1;simp only[jl,Z2q,Z1w,qi,h1];rw[Z2a yP];rfl
theorem z0i(wi:gH P c.tt){t:TypeId}{x i:Operand}(ho:o.op=.index t x i)(zq:zP c.ntmps g w a σ)(h:qq c σ base o k=some r):vH P o a w g σ c k r:=by
 simp only[qq,ho]at h;split at h
 ·rename_i n t' l ki j m u hx hi hu;have hT:=wi _ _ hu;obtain⟨ex,ef⟩:=qH zq hx;obtain⟨vi,_⟩:=jo (qH zq hi).1
  cases hs:(Nat.beq n m&&t'.sk.same u.sk) with
  |false=>rw[hs]at h;simp at h
  |true=>
   rw[hs]at h;simp only[zA]at hs;have YL:n=m:=zE hs.1;subst YL;have po:=Sk.qJ hs.2;have ql:u.size=t'.size:=by rw[<-Ty.zX,<-Ty.zX,po]
   simp only[zJ,Zh]at h;obtain⟨d,hd,h⟩:=h;obtain⟨h0,wu,rfl,yP⟩:=jt hd;simp only[qZ]at hT;obtain⟨⟨E,qB,hE⟩,_⟩:=hT;simp only[qy]at ex;obtain⟨cs,⟨qU,hl,ZA,vw⟩,hv⟩:=ex;have WS:j.toNat<n:=by rw[<-hl];exact wu
   have hmul:(j.toNat+1)*t'.size<=n*t'.size:=wI _ WS;rw[kK]at hmul;have je:a.eval x=.agg cs.toArray:=by rw[hv];rfl
   have q1t:(j:Int)<(n:Int):=by rw[<-hl];exact yP
   refine Qy (v:=jl u.sk.isAgg (qi cs (j.toNat*t'.size) u.size)) ?_ ?_ (λm _=>by simp[z7.ids]) h
   ·intro w' _;have hsE:=hE.info.sizeOf w';have hp:=DL hE cs (j.toNat*u.size) (by rw[ql];omega) w';rw[ql]at hp hsE;simp[execOp,ho,je,vi,Instr.index,asIntOf,run_underlying qB,h0,q1t,hsE,hp,ql]
   ·simp only[qy];refine⟨qi cs (j.toNat*t'.size) t'.size,⟨by simpa[Ty.zW]using qU,vw _ wu⟩,by rw[ql,<-po];rfl⟩
 ·rename_i l ki j hx hi hu;have hT:=wi _ _ hu;simp only[qZ]at hT;obtain⟨vi,_⟩:=jo (qH zq hi).1;obtain⟨s,hv,hl,hs⟩:=PU (l:=l) (qH zq hx).1;subst hl;simp only[Zh]at h;obtain⟨d,hd,h⟩:=h;obtain⟨h0,wu,rfl,yP⟩:=jt hd;rw[gT]at wu;have ql:s.size=s.data.size:=rfl;have KQ:j.toNat<s.size:=by omega
  refine Qy (v:=.int .u8 (s[j.toNat]'KQ).toNat) ?_ ?_ (λm _=>by simp[z7.ids]) h
  ·intro w' _;have hg:s[j.toNat]? = some (s[j.toNat]'KQ):=getElem?_pos s j.toNat KQ;simp[execOp,ho,hv,vi,Instr.index,asIntOf,run_underlying hT.1,h0,hg]
  ·have e:(s[j.toNat]'KQ)=s.data.toList.get ⟨j.toNat,by rw[gT];exact wu⟩:=by rw[R3,Z5j];rfl
   rw[<-e];refine vB ⟨by simp[IntKind.min,IntKind.signed],?_⟩;have:=(s[j.toNat]'KQ).toNat_lt;simp only[IntKind.max,IntKind.bits,IntKind.signed];simp;omega
 ·simp at h
theorem z0j(wi:gH P c.tt){t:TypeId}{x:Operand}{i:Nat}(ho:o.op=.field t x i)(zq:zP c.ntmps g w a σ)(h:qq c σ base o k=some r):vH P o a w g σ c k r:=by
 simp only[qq,ho]at h;split at h
 ·rename_i av u hx hu;have hT:=wi _ _ hu;obtain⟨ex,ef⟩:=qH zq hx
  cases hs:(av.val&&av.sk.same u.sk&&(vP u (qL i)).isSome) with
  |false=>rw[hs]at h;simp at h
  |true=>
   rw[hs]at h;simp only[zJ]at h;simp only[zA]at hs;have po:=Sk.qJ hs.1.2;obtain⟨w8,_,_,_⟩:=jh hs.1.1;obtain⟨cs,zc,Vw,_⟩:=jg hs.1.1 ex;obtain⟨av',off,h,jH,QI,gA⟩:=Zg zc h;obtain⟨xa,ya,rfl⟩:=DP hs.2;simp only[qZ]at hT;obtain⟨⟨fs,qB,D9⟩,_⟩:=hT;obtain⟨f,s,h1,h2,h3,o',h4,h5⟩:=Bb D9 hs.2;rw[po,h4]at jH;simp only[zI,p8]at jH;obtain⟨rfl,hss⟩:=jH;have hf:fs[i]? = some f:=by rw[<-Z2i];exact h1
   have CO:f.offset=o':=by omega
   cases hb:av'.val with
   |false=>rw[hb]at h;simp at h
   |true=>
    rw[hb]at h;simp only[zJ]at h;obtain⟨q2u,WR,GX,Og⟩:=jh hb;have hle:=Sk.we h4;have hlen:=zc.len;rw[po]at hlen;rw[Ty.zX]at hle hlen;rw[Ty.zX]at hle;have q0p:s.size=av'.sk.size:=by rw[<-hss,Ty.zX]
    have je:a.eval x=.agg cs.toArray:=by rw[Vw,w8,po];rfl
    refine Qy (v:=jl s.sk.isAgg (qi cs o' s.size)) ?_ ?_ (λm hm=>gA m (ef m hm)) h
    ·intro w' _;have hp:=DL h3 cs o' (by omega) w';simp[execOp,ho,je,Instr.field,run_underlying qB,hf,asAgg,CO,hp]
    ·refine y8 QI ?_ WR GX;rw[q2u,<-hss,q0p,hss]
 ·simp at h
end
end Go.Kz
namespace Go.Kz
variable {R:Type}
theorem A7(z:Array Value)(n:Nat)(hz:0<z.size):(Builtin.zeroCells z n).toList=(List.replicate n z.toList).flatten:=by
 rw[<-Z7 z n hz];congr 1
theorem wb{I:Type}(z:I)(l:List I)(a b:Int):(uW z l a b).length=l.length:=by simp[uW]
theorem Cg{I:Type}(z:I)(l:List I)(a b:Int)(i:Nat)(h:i<(uW z l a b).length)(h':i<l.length):
  (uW z l a b).get ⟨i,h⟩=if a<=(i:Int)/\(i:Int)<b then z else l.get ⟨i,h'⟩:=by
 simp[uW,ZB,h']
theorem MQ{I:Type}(z:I)(l:List I)(a b:Int)(Kh:b<=a):uW z l a b=l:=by
 apply I3 (wb z l a b);intro i h1 h2;have:=Cg z l a b i h1 h2;simp only[R3]at this;rw[this,qP (by omega)]
theorem UI{σ:St}{id:Nat}{o:Obj}(h:σ.z6 id=some o):σ.setObj id o=σ:=by
 cases σ;simp only[St.setObj,St.mk.injEq,X3];simp only at h;refine⟨?_,trivial⟩;funext i;by_cases hi:i=id
 ·subst hi;rw[zD,h]
 ·rw[zm _ _ hi]
section
variable {P:Program}{o:Oper}{a:Act}{w:World}{K:Act->World->Prop}{Q:Exit->Act->World->Prop}{c:Ctx}{σ:St}{g:z8}{k:St->Option R}{r:R}{base:Nat}
theorem G5{x:Operand}{args:Array Operand}{ts:Array TypeId}{t:TypeId}{v:Value}{w':World}(ho:o.op=.call { callee:=.builtin .clear,args:=args,argTypes:=ts })(ha:args.toList=[x])(ht:ts.toList=[t])
  (h:∀ty,(Builtin.clear_ #[t] ty #[a.eval x]).run P w=.ok v w'):(execOp a.eval o).run P w=.ok (.value v) w':=by
 have e1:args=#[x]:=by apply Z22.1;simpa using ha
 have e2:ts=#[t]:=by apply Z22.1;simpa using ht
 subst e1;subst e2;simp[execOp,ho,resolve,invoke,builtin,h]
theorem DH{t u:Ty}(h:(Ty.same t u).isSome=true):t=u:=by
 cases hs:Ty.same t u with
 |none=>rw[hs]at h;simp at h
 |some e=>exact e.down
theorem z0a{id:Nat}{t:Ty}{l:List t.den}{z:t.den}{e b off cap:Nat}{cc:Array Value}{ee:TypeId}{av bv:Int}(qU:t.zW=true)(hz:t.zero=some z)
  (h0:0<=av) (Kh:av<=bv) (Vo:bv<=(l.length:Int)) (Kb:l.length<=cap) (QR:cap<=maxLen) (yU:g.sv id []=.slice (some ⟨b,off,none⟩) l.length cap)
  (ze:g.tag b=.row id []) (zZ:w.heap[b]? = some (.cells cc ee (0,0))) (ql:off+cap*t.size<=cc.size)
  (vw:∀(i:Nat)(h:i<l.length),zM w g (some (id,[.idx i])) t (l.get ⟨i,h⟩) (qi cc.toList (off+i*t.size) t.size)) (z6:qQ) :
  qz (w.setRow b (zB cc.toList (off+av.toNat*t.size) (List.replicate (bv-av).toNat (zeroCells t)).flatten).toArray) g z6 id (.row t (uW z l av bv) e):=by
 have Q3:cc.toList.length=cc.size:=gT;have Uj:(List.replicate (bv-av).toNat (zeroCells t)).flatten.length=(bv-av).toNat*t.size:=by rw[jw,qD]
 have hmul:(av.toNat+(bv-av).toNat)*t.size<=cap*t.size:=wI _ (by omega);rw[kK]at hmul;have SZ:zS w g (w.setRow b (zB cc.toList (off+av.toNat*t.size) (List.replicate (bv-av).toNat (zeroCells t)).flatten).toArray) g:=(jj (id:=id) _ (.inl ⟨[],ze⟩)).ro;refine⟨qU,some ⟨b,off,none⟩,cap,by rw[wb,yU],by rw[wb,yU],by rw[wb];exact Kb,QR,.inr ⟨b,off,_,ee,rfl,ze,setRow_heap w b cc _ ee _ zZ,?_,λj hj=>?_⟩⟩
 ·rw[Z3z,yS _ _ _ (by rw[Uj,Q3];omega),Q3];exact ql
 ·have gg:j<l.length:=by rw[wb]at hj;exact hj
  have BB:(j+1)*t.size<=cap*t.size:=wI _ (by omega);rw[kK]at BB;refine zM.yy qU (o:=none) ?_;rw[Cg z l av bv j hj gg];by_cases u6:av<=(j:Int)/\(j:Int)<bv
  ·rw[qn u6];obtain⟨m,hm⟩:∃m,j=av.toNat+m:=⟨j-av.toNat,by omega⟩;have hmm:m<(bv-av).toNat:=by omega
   have h3:(m+1)*t.size<=(bv-av).toNat*t.size:=wI _ hmm;rw[kK]at h3;have e1:off+j*t.size=(off+av.toNat*t.size)+m*t.size:=by rw[hm,kK];omega
   rw[e1,pF _ _ _ _ _ (by rw[Uj];omega) (by rw[Uj,Q3];omega)];have:=jN (bv-av).toNat (zeroCells t) m hmm;rw[qD]at this;rw[Z5t]at *;rw[this];exact vK qU hz
  ·rw[qP u6];have hold:=(zM.yy (o':=none) qU (vw j gg)).kept SZ;rcases Int.lt_or_le (j:Int) av with yP|PE
   ·have h3:(j+1)*t.size<=av.toNat*t.size:=wI _ (by omega);rw[kK]at h3;rw[j9 _ _ _ _ _ (by omega) (by rw[Q3];omega)];exact hold
   ·have h3:(av.toNat+(bv-av).toNat)*t.size<=j*t.size:=wI _ (by omega);rw[kK]at h3;rw[vJ _ _ _ _ _ (by rw[Uj];omega) (by rw[Uj,Q3];omega)];exact hold
theorem z5k(wi:gH P c.tt){args:Array Operand}{ts:Array TypeId}(ho:o.op=.call { callee:=.builtin .clear,args:=args,argTypes:=ts })(zq:zP c.ntmps g w a σ)(h:qq c σ base o k=some r)
  (hK:vz c.ntmps k r g w σ base true K):o.wp P a w K Q:=by
 simp only[qq,ho]at h;split at h
 ·rename_i x t hargs N3;split at h
  ·rename_i id ep av bv ow u hx hu;split at h
   ·rename_i t' l e zg
    cases hb:(Nat.beq e ep&&(Ty.same t' u).isSome) with
    |false=>rw[hb]at h;simp at h
    |true=>
     rw[hb]at h;simp only[zJ]at h;simp only[zA]at hb;have Fs:=zE hb.1;subst Fs;have JZ:=DH hb.2;subst JZ;split at h
     ·rename_i z hz;have hT:=wi _ _ hu;simp only[qZ]at hT;obtain⟨⟨E,qB,hE⟩,_⟩:=hT;obtain⟨ex,ef⟩:=qH zq hx;simp only[qy]at ex;obtain⟨cs,⟨v,rfl,qN,hv⟩,je⟩:=ex;obtain⟨_,h0,Kh,Vo,e1⟩:=(hv _ _ _ zg).2 rfl;obtain⟨qU,ad,cap,_,yU,Kb,QR,wJ⟩:=zq.heap.z6 _ _ zg;have xy:a.eval x=j5 (.slice ad l.length cap) t'.size av bv:=by rw[<-yU,<-e1];exact je
      by_cases hn:(bv-av).toNat=0
      ·have ZA:uW z l av bv=l:=MQ _ _ _ _ (by omega);rw[ZA,UI zg]at h;refine jL (v:=.tuple #[]) (g':=g) (w':=w) (σ':=σ) (G5 ho hargs N3 λty=>?_) zq (Ext.refl w g) (λm _ hf=>⟨hf,by simp[z7.ids]⟩) rfl ?_ h (λh=>Bool.noConfusion h) hK
       ·rw[xy];simp only[j5,hn];by_cases hc:cap-av.toNat=0
        ·cases ad<;>simp[Builtin.clear_,run_underlying qB,hc]
        ·cases ad<;>simp[Builtin.clear_,run_underlying qB,hc]
       ·simp[qy,qj]
      ·rcases wJ with⟨rfl,hl,rfl⟩|⟨b,off,cc,ee,rfl,ze,zZ,ql,vw⟩
       ·rw[hl]at Vo;simp at Vo;omega
       ·obtain⟨i,zv,XD,Eu,Fl,hi4,hi5,hi6⟩:=hE.info.info;have D4:zv.cells.size=t'.size:=by rw[<-gT,hi5,qD]
        have N2:(Builtin.zeroCells zv.cells (bv-av).toNat).toList=(List.replicate (bv-av).toNat (zeroCells t')).flatten:=by
         rw[A7 _ _ (by rw[D4,<-Eu];exact hi6),hi5]
        have Q3:cc.toList.length=cc.size:=gT;have Uj:(List.replicate (bv-av).toNat (zeroCells t')).flatten.length=(bv-av).toNat*t'.size:=by rw[jw,qD]
        have hmul:(av.toNat+(bv-av).toNat)*t'.size<=cap*t'.size:=wI _ (by omega);rw[kK]at hmul;have qG:=run_storeCells_at P b (off+av.toNat*t'.size) ee (List.replicate (bv-av).toNat (zeroCells t')).flatten 0 cc w zZ (by rw[Uj];omega) (λx hx=>by
         obtain⟨y,hy,hxy⟩:=Z4y.1 hx;rw[(List.mem_replicate.1 hy).2]at hxy;exact zM.one (w:=w) (g:=g) (vK qU hz) x hxy)
        simp only[Ot]at qG;have BF:=jj (w:=w) (g:=g) (id:=id) (b0:=b) (zB cc.toList (off+av.toNat*t'.size) (List.replicate (bv-av).toNat (zeroCells t')).flatten).toArray (.inl ⟨[],ze⟩);have jk:=z0a (e:=e) qU hz h0 Kh Vo Kb QR yU ze zZ ql (λi hi=>vw i hi) (σ.setObj id (.row t' (uW z l av bv) e)).z6;have wS:=BF.st zq (o':=.row t' (uW z l av bv) e) (.inr (.inl ⟨t',l,uW z l av bv,e,e,zg,rfl,.inr ⟨rfl,wb _ _ _ _,λ_=>rfl⟩⟩)) jk;refine jL (v:=.tuple #[]) (G5 ho hargs N3 λty=>?_) wS BF.ext (λm _ hf=>⟨BF.fresh (by rw[zg];simp) (λy hy=>by simp at hy) hf,by simp[z7.ids]⟩) rfl ?_ h (λh=>Bool.noConfusion h) hK
        ·rw[xy];obtain⟨n,Ff⟩:∃n,(bv-av).toNat=n+1:=⟨(bv-av).toNat-1,by omega⟩;simp only[j5];rw[qP (by omega)];rw[N2.symm]at qG;simp only[Ff]at qG⊢;simp[Builtin.clear_,run_underlying qB,zeroValue,typeInfo,XD,hi4,Addr.add_lit,qG,zB];rw[Ff]at N2;rw[N2,<-gT,N2,jw]
        ·simp[qy,qj]
     ·simp at h
   ·simp at h
  ·simp at h
 ·simp at h
end
end Go.Kz
namespace Go.Kz
variable {R:Type}
theorem Pg{I:Type}{l m:List I}{a b:Int}(h0:0<=a)(Kh:a<=b)(Vo:b<=(l.length:Int)):a.toNat+Nat.min m.length (b-a).toNat<=l.length:=by
 have:=Nat.min_le_right m.length (b-a).toNat;have e:Nat.min m.length (b-a).toNat<=(b-a).toNat:=this;omega
theorem J1{I:Type}(l m:List I){a b:Int}(h0:0<=a)(Kh:a<=b)(Vo:b<=(l.length:Int)):(uo l a b m).length=l.length:=by
 have h1:=Pg (m:=m) h0 Kh Vo;have h2:Nat.min m.length (b-a).toNat<=m.length:=Z48 ..;simp only[uo,Jz,CB,Z20];generalize Nat.min m.length (b-a).toNat=n at *;omega
theorem z1y{I:Type}(l m:List I){a b:Int}(h0:0<=a)(Kh:a<=b)(Vo:b<=(l.length:Int))(i:Nat)(h:i<(uo l a b m).length):
  (∃j,∃hj:j<m.length,i=a.toNat+j/\j<Nat.min m.length (b-a).toNat/\(uo l a b m).get ⟨i,h⟩=m.get ⟨j,hj⟩)\/
  (∃hl:i<l.length,(i<a.toNat\/a.toNat+Nat.min m.length (b-a).toNat<=i)/\(uo l a b m).get ⟨i,h⟩=l.get ⟨i,hl⟩):=by
 have hlen:=J1 l m h0 Kh Vo;have h1:=Pg (m:=m) h0 Kh Vo;have h2:Nat.min m.length (b-a).toNat<=m.length:=Z48 ..;have N7:i<l.length:=by rw[<-hlen];exact h
 have e:(uo l a b m)[i]? = if i<a.toNat then l[i]? else if i<a.toNat+Nat.min m.length (b-a).toNat then m[i-a.toNat]? else l[i]? := by
  simp only[uo];generalize Nat.min m.length (b-a).toNat=n at *;by_cases c1:i<a.toNat
  ·rw[qn c1,Z2k (by simp;omega),Z2k (by simp;omega),Z45,qn c1]
  ·rw[qP c1];by_cases c2:i<a.toNat+n
   ·rw[qn c2,Z2k (by simp;omega),Z36 (by simp;omega),CB,Z45];rw[qn (by omega)];congr 1;omega
   ·rw[qP c2,Z36 (by simp;omega),Z34];congr 1;simp only[Jz,CB];omega
 have e2:(uo l a b m)[i]? = some ((uo l a b m).get ⟨i,h⟩):=by rw[wV h];rfl
 rw[e2]at e;generalize Nat.min m.length (b-a).toNat=n at *;by_cases c1:i<a.toNat
 ·rw[qn c1,wV N7]at e;exact .inr ⟨N7,.inl c1,by simpa using e⟩
 ·rw[qP c1]at e;by_cases c2:i<a.toNat+n
  ·have hj:i-a.toNat<m.length:=by omega
   rw[qn c2,wV hj]at e;exact .inl ⟨i-a.toNat,hj,by omega,by omega,by simpa using e⟩
  ·rw[qP c2,wV N7]at e;exact .inr ⟨N7,.inr (by omega),by simpa using e⟩
theorem OM{I:Type}(l m:List I){a b:Int}(hn:Nat.min m.length (b-a).toNat=0):uo l a b m=l:=by
 simp[uo,hn]
section
variable {P:Program}{o:Oper}{a:Act}{w:World}{K:Act->World->Prop}{Q:Exit->Act->World->Prop}{c:Ctx}{σ:St}{g:z8}{k:St->Option R}{r:R}{base:Nat}
theorem UL{x y:Operand}{args:Array Operand}{ts:Array TypeId}{t t':TypeId}{v:Value}{w':World}(ho:o.op=.call { callee:=.builtin .copy,args:=args,argTypes:=ts })(ha:args.toList=[x,y])(ht:ts.toList=[t,t'])
  (h:∀ty,(Builtin.copy_ #[t,t'] ty #[a.eval x,a.eval y]).run P w=.ok v w'):(execOp a.eval o).run P w=.ok (.value v) w':=by
 have e1:args=#[x,y]:=by apply Z22.1;simpa using ha
 have e2:ts=#[t,t']:=by apply Z22.1;simpa using ht
 subst e1;subst e2;simp[execOp,ho,resolve,invoke,builtin,h]
theorem z4s{id:Nat}{t:Ty}{l m:List t.den}{news:List Value}{x:Value}{e b off cap:Nat}{cc:Array Value}{ee:TypeId}{av bv:Int}(qU:t.zW=true)
  (h0:0<=av) (Kh:av<=bv) (Vo:bv<=(l.length:Int)) (Kb:l.length<=cap) (QR:cap<=maxLen) (yU:g.sv id []=.slice (some ⟨b,off,none⟩) l.length cap)
  (ze:g.tag b=.row id []) (zZ:w.heap[b]? = some (.cells cc ee (0,0))) (ql:off+cap*t.size<=cc.size)
  (vw:∀(i:Nat)(h:i<l.length),zM w g (some (id,[.idx i])) t (l.get ⟨i,h⟩) (qi cc.toList (off+i*t.size) t.size)) (yI:wW P w g t x m news) (z6:qQ) :
  qz (w.setRow b (zB cc.toList (off+av.toNat*t.size) (news.take (Nat.min m.length (bv-av).toNat*t.size))).toArray) g z6 id (.row t (uo l av bv m) e):=by
 have Q3:cc.toList.length=cc.size:=gT;have hmn:=Pg (m:=m) h0 Kh Vo;have h2:Nat.min m.length (bv-av).toNat<=m.length:=Z48 ..;have hlen:=J1 l m h0 Kh Vo;have pP:=z1y l m h0 Kh Vo;generalize hn:Nat.min m.length (bv-av).toNat=n at *;have LM:=yI.length;have YL:n*t.size<=m.length*t.size:=wI _ h2;have Uj:(news.take (n*t.size)).length=n*t.size:=by rw[CB,LM];omega
 have hmul:(av.toNat+n)*t.size<=cap*t.size:=wI _ (by omega);rw[kK]at hmul;have SZ:zS w g (w.setRow b (zB cc.toList (off+av.toNat*t.size) (news.take (n*t.size))).toArray) g:=(jj (id:=id) _ (.inl ⟨[],ze⟩)).ro;refine⟨qU,some ⟨b,off,none⟩,cap,by rw[hlen,yU],by rw[hlen,yU],by rw[hlen];exact Kb,QR,.inr ⟨b,off,_,ee,rfl,ze,setRow_heap w b cc _ ee _ zZ,?_,λj hj=>?_⟩⟩
 ·rw[Z3z,yS _ _ _ (by rw[Uj,Q3];omega),Q3];exact ql
 ·refine zM.yy qU (o:=none) ?_;have hjl:j<l.length:=by rw[hlen]at hj;exact hj
  have BB:(j+1)*t.size<=cap*t.size:=wI _ (by omega);rw[kK]at BB;rcases pP j hj with⟨i,hi,e1,u6,e2⟩|⟨hl,YI,e2⟩
  ·rw[e2];have h3:(i+1)*t.size<=n*t.size:=wI _ u6;rw[kK]at h3;have e3:off+j*t.size=(off+av.toNat*t.size)+i*t.size:=by rw[e1,kK];omega
   rw[e3,Z5t,pF _ _ _ _ _ (by rw[Uj];omega) (by rw[Uj,Q3];omega)];have e4:qi (news.take (n*t.size)) (i*t.size) t.size=qi news (i*t.size) t.size:=by
    simp only[qi];rw[Z4n,Z2t];congr 1;omega
   rw[e4];exact(yI.elts i hi).kept SZ
  ·rw[e2];have hold:=(zM.yy (o':=none) qU (vw j hl)).kept SZ;rw[Z5t];rcases YI with yP|PE
   ·have h3:(j+1)*t.size<=av.toNat*t.size:=wI _ (by omega);rw[kK]at h3;rw[j9 _ _ _ _ _ (by omega) (by rw[Q3];omega)];exact hold
   ·have h3:(av.toNat+n)*t.size<=j*t.size:=wI _ PE;rw[kK]at h3;rw[vJ _ _ _ _ _ (by rw[Uj];omega) (by rw[Uj,Q3];omega)];exact hold
theorem EE(wi:gH P c.tt){args:Array Operand}{ts:Array TypeId}{x y:Operand}{t t2:TypeId}(ho:o.op=.call { callee:=.builtin .copy,args:=args,argTypes:=ts })(hargs:args.toList=[x,y])(N3:ts.toList=[t,t2])
  {ow:Bool}{u:Ty} (hu:c.tt t=some (.sl ow u)) {bv2:z7} (hy:qy w g σ.z6 bv2 (a.eval y)) (zq:zP c.ntmps g w a σ) {id ep:Nat}{av bv:Int}
  (hx:∀(t':Ty)(l:List t'.den)(e:Nat),σ.z6 id=some (.row t' l e)->e=ep->0<=av/\av<=bv/\bv<=(l.length:Int)/\∀ad cap,g.sv id []=.slice ad l.length cap->l.length<=cap->∃J3,a.eval x=.slice (ad.map λad=>ad.add (av.toNat*t'.size)) (bv-av).toNat J3\/((bv-av).toNat=0/\∃ad',a.eval x=.slice ad' 0 J3))
  (h:(HI σ u id ep av bv bv2 λn σ=>σ.qM c o.dst (.data (.int .i64) n) k)=some r)
  (hK:vz c.ntmps k r g w σ base true K):o.wp P a w K Q:=by
 unfold HI at h;split at h
 ·rename_i t' l e zg
  cases hb:(Nat.beq e ep&&(Ty.same t' u).isSome) with
  |false=>rw[hb]at h;simp at h
  |true=>
  rw[hb]at h;simp only[zJ]at h;simp only[zA]at hb;have Fs:=zE hb.1;subst Fs;have JZ:=DH hb.2;subst JZ;obtain⟨qU,hval,h⟩:=uy h;obtain⟨m,news,h,yI⟩:=VI (P:=P) zq.heap qU hy h hval;have hT:=wi _ _ hu;simp only[qZ]at hT;obtain⟨⟨E,qB,hE⟩,_⟩:=hT;obtain⟨i,zv,XD,Eu,Fl,hi4,hi5,hi6⟩:=hE.info.info;obtain⟨_,ad,cap,_,yU,Kb,QR,wJ⟩:=zq.heap.z6 _ _ zg;obtain⟨h0,Kh,Vo,S4⟩:=hx _ _ _ zg rfl;obtain⟨J3,S4⟩:=S4 ad cap yU Kb;have Vy:∀w':World,(sizeOf E).run P w'=.ok t'.size w':=λw'=>by simp[sizeOf,typeInfo,XD,Eu]
  have hmn:=Pg (m:=m) h0 Kh Vo;have h2:Nat.min m.length (bv-av).toNat<=m.length:=Z48 ..;have h3:Nat.min m.length (bv-av).toNat<=(bv-av).toNat:=Nat.min_le_right ..;have xN:=yI.pre _ h2 w rfl;have LO:=yI.len w rfl;have hint:qy w g (σ.setObj id (.row t' (uo l av bv m) e)).z6 (.data (.int .i64) (ED m av bv)) (goInt (Nat.min m.length (bv-av).toNat)):=by
   refine vB ⟨?_,?_⟩
   ·show(-9223372036854775808:Int)<=_;unfold ED;omega
   ·show _<=(9223372036854775807:Int);unfold ED;unfold maxLen at QR;omega
  by_cases hn:Nat.min m.length (bv-av).toNat=0
  ·have ZA:=OM l m hn;rw[ZA,UI zg]at h hint;refine jL (v:=goInt 0) (g':=g) (w':=w) (σ':=σ) (UL ho hargs N3 λty=>?_) zq (Ext.refl w g) (λm' _ hf=>⟨hf,by simp[z7.ids]⟩) rfl (by rw[hn]at hint;exact hint) h (λh=>Bool.noConfusion h) hK;rw[hn]at xN;rw[Z32,Z29]at xN;rcases S4 with S4|⟨hz,ad',S4⟩
   ·rw[S4]
    cases ad with
    |none=>simp[Builtin.copy_,run_underlying qB,LO,Vy,hn,xN]
    |some ad=>simp[Builtin.copy_,run_underlying qB,LO,Vy,hn,xN,storeCells]
   ·rw[S4];rw[hz]at hn
    cases ad' with
    |none=>simp[Builtin.copy_,run_underlying qB,LO,Vy,xN]
    |some ad=>simp[Builtin.copy_,run_underlying qB,LO,Vy,xN,storeCells]
  ·rcases wJ with⟨rfl,hl,rfl⟩|⟨b,off,cc,ee,rfl,ze,zZ,ql,vw⟩
   ·rw[hl]at hmn;simp only[Z1y]at hmn;omega
   ·have Q3:cc.toList.length=cc.size:=gT;have LM:=yI.length;have YL:Nat.min m.length (bv-av).toNat*t'.size<=m.length*t'.size:=wI _ h2;have Uj:(news.take (Nat.min m.length (bv-av).toNat*t'.size)).length=Nat.min m.length (bv-av).toNat*t'.size:=by rw[CB,LM];omega
    have hmul:(av.toNat+Nat.min m.length (bv-av).toNat)*t'.size<=cap*t'.size:=wI _ (by omega);rw[kK]at hmul;have qG:=run_storeCells_at P b (off+av.toNat*t'.size) ee (news.take (Nat.min m.length (bv-av).toNat*t'.size)) 0 cc w zZ (by rw[Uj];omega) (λx hx=>yI.one x (Z2l hx));simp only[Ot]at qG;have BF:=jj (w:=w) (g:=g) (id:=id) (b0:=b) (zB cc.toList (off+av.toNat*t'.size) (news.take (Nat.min m.length (bv-av).toNat*t'.size))).toArray (.inl ⟨[],ze⟩);have jk:=z4s (P:=P) (e:=e) qU h0 Kh Vo Kb QR yU ze zZ ql (λi hi=>vw i hi) yI (σ.setObj id (.row t' (uo l av bv m) e)).z6;have wS:=BF.st zq (o':=.row t' (uo l av bv m) e) (.inr (.inl ⟨t',l,uo l av bv m,e,e,zg,rfl,.inr ⟨rfl,J1 l m h0 Kh Vo,λ_=>rfl⟩⟩)) jk;refine jL (v:=goInt (Nat.min m.length (bv-av).toNat)) (UL ho hargs N3 λty=>?_) wS BF.ext (λm' _ hf=>⟨BF.fresh (by rw[zg];simp) (λy hy=>by simp at hy) hf,by simp[z7.ids]⟩) rfl ?_ h (λh=>Bool.noConfusion h) hK
    ·rcases S4 with S4|⟨hz,_⟩
     ·rw[S4];simp only[Z24,Addr.add_lit];simp[Builtin.copy_,run_underlying qB,LO,Vy,xN,qG,zB]
     ·omega
    ·exact vB (by
      refine⟨?_,?_⟩
      ·show(-9223372036854775808:Int)<=_;unfold ED;omega
      ·show _<=(9223372036854775807:Int);unfold ED;unfold maxLen at QR;omega)
 ·simp at h
theorem zdm(wi:gH P c.tt){args:Array Operand}{ts:Array TypeId}(ho:o.op=.call { callee:=.builtin .copy,args:=args,argTypes:=ts })(zq:zP c.ntmps g w a σ)(h:qq c σ base o k=some r)
  (hK:vz c.ntmps k r g w σ base true K):o.wp P a w K Q:=by
 simp only[qq,ho]at h;split at h
 ·rename_i x y t t2 hargs N3;split at h
  ·rename_i xv yv ow u hx hy hu;obtain⟨ex,efx⟩:=qH zq hx;obtain⟨ey,efy⟩:=qH zq hy;unfold zih at h;split at h
   ·rename_i id ep av bv;refine EE wi ho hargs N3 hu ey zq (λt' l e zg he=>?_) h hK;subst he;simp only[qy]at ex;obtain⟨cs,⟨v,rfl,qN,hv⟩,je⟩:=ex;obtain⟨_,h0,Kh,Vo,e1⟩:=(hv _ _ _ zg).2 rfl;refine⟨h0,Kh,Vo,λad cap yU Kb=>?_⟩;have xy:a.eval x=j5 (.slice ad l.length cap) t'.size av bv:=by rw[<-yU,<-e1];exact je
    simp only[j5]at xy;refine⟨cap-av.toNat,?_⟩;by_cases hc:cap-av.toNat=0
    ·rw[qn hc]at xy;have hz:(bv-av).toNat=0:=by omega
     rw[hz]at xy;exact .inr ⟨hz,ad,xy⟩
    ·rw[qP hc]at xy;exact .inl xy
   ·rename_i id ep;split at h
    ·rename_i t1 l1 e1 z7q;refine EE wi ho hargs N3 hu ey zq (λt' l e zg he=>?_) h hK;subst he;rw[zg]at z7q;simp only[zI,Obj.row.injEq]at z7q;obtain⟨rfl,h1,_⟩:=z7q;have h1:=eq_of_heq h1;subst h1;simp only[qy]at ex;obtain⟨cs,⟨v,rfl,qN,hv⟩,je⟩:=ex;have e2:=(hv _ _ _ zg).2 rfl;refine⟨Z4z _,by omega,by omega,λad cap yU Kb=>⟨cap,.inl ?_⟩⟩;rw[show a.eval x=g.sv id [] from by rw[<-e2];exact je,yU]
     cases ad with
     |none=>simp
     |some ad=>simp[Addr.add]
    ·simp at h
   ·simp at h
  ·simp at h
 ·simp at h
end
end Go.Kz
namespace Go.Kz
variable {R:Type}
def zat(P:Program)(ct:Nat->Bool):Prop:=∀t,ct t=true->∃d,P.underlying t=some d/\∀ms,d≠.interface ms
def ctB(P:Program):List Nat->Bool
 |[]=>true
 |t::l=>(match P.underlying t with
  |some (.interface _)=>false
  |some _=>true
  |none=>false)&&ctB P l
theorem z9n{P:Program}:{l:List Nat}->ctB P l=true->zat P (λt=>qs t l)
 |[],_,_,h=>by simp[qs]at h
 |t::l,hb,t',h=>by
  simp only[ctB,zA]at hb;simp only[qs]at h
  cases he:Nat.beq t t' with
  |false=>rw[he]at h;exact z9n hb.2 t' h
  |true=>
   obtain rfl:=zE he;have h1:=hb.1;split at h1
   ·simp at h1
   ·rename_i d hd hu;exact⟨d,hu,λms he=>hd ms he⟩
   ·simp at h1
def zvb(P:Program)(t:Nat)(nm:String)(f:Nat):Option Nat->Prop
 |none=>∀v w,(method (P.types.size+Made.depth) t v nm).run P w=.ok (f,v) w
 |some E=>∀(ad:Addr) x w,(loadVar E ad).run P w=.ok x w->(method (P.types.size+Made.depth) t (.pointer (some ad)) nm).run P w=.ok (f,x) w
def zgo(P:Program)(ms:Nat->String->Option (Nat×Option Nat)):Prop:=∀t nm f d,ms t nm=some (f,d)->zvb P t nm f d
def Wa:List (Nat×String×Nat×Option Nat)->Nat->String->Option (Nat×Option Nat)
 |[],_,_=>none
 |(t,nm,f,d)::l,t',nm'=>cond (Nat.beq t t'&&nm == nm') (some (f,d)) (Wa l t' nm')
def ptrTo(P:Program)(t:Nat):Option Nat:=match P.underlying t with
 |some (.pointer E)=>some E
 |_=>none
def z4z(P:Program)(t:Nat)(p:Bool):Option Nat->Bool
 |none=>p&&(ptrTo P t).isSome
 |some E=>!p&&(match ptrTo P t with
  |some E'=>Nat.beq E E'
  |none=>false)
def ms1(P:Program)(t:Nat)(nm:String)(f:Nat)(d:Option Nat):Bool:=match P.info? t with
 |some i=>match i.methods.find? (·.name == nm) with
  |some m=>m.path.isEmpty&&(match m.func with
   |some (f',p)=>Nat.beq f f'&&z4z P t p d
   |none=>false)
  |none=>false
 |none=>false
def msB(P:Program):List (Nat×String×Nat×Option Nat)->Bool
 |[]=>true
 |(t,nm,f,d)::l=>ms1 P t nm f d&&msB P l
theorem Aa{P:Program}{t E:Nat}(h:ptrTo P t=some E):P.underlying t=some (.pointer E):=by
 unfold ptrTo at h;split at h
 ·rename_i E' hu;simp only[zI]at h;rw[hu,h]
 ·simp at h
theorem z4q{P:Program}{w:World}(ts:Array TypeId)(t:TypeId)(ad:Addr)(s m:ByteArray):(Builtin.ssaWrapNilChk_ ts t #[.pointer (some ad),.string s,.string m]).run P w=.ok (.pointer (some ad)) w:=rfl
theorem zl0{P:Program}{t:Nat}{nm:String}{f:Nat}{d:Option Nat}(h:ms1 P t nm f d=true):zvb P t nm f d:=by
 obtain⟨n,hn⟩:∃n,P.types.size+Made.depth=n+1:=⟨P.types.size+(Made.depth-1),by simp[Made.depth]⟩;unfold ms1 at h;split at h
 ·rename_i i hi;split at h
  ·rename_i m hm;simp only[zA]at h;obtain⟨hp,h⟩:=h;have z7p:m.path=#[]:=by simpa using hp
   split at h
   ·rename_i f' p hf;simp only[zA]at h;obtain⟨h1,h2⟩:=h;obtain rfl:=zE h1
    cases d with
    |none=>
     simp only[z4z,zA]at h2;obtain⟨rfl,h2⟩:=h2;obtain⟨E,hE⟩:=Z31.1 h2;have hu:=Aa hE;intro v w;rw[hn]
     simp[method,typeInfo,hi,hm,z7p,follow,hf,receiverAt,run_underlying hu,Place.get]
    |some E=>
     simp only[z4z,zA,PF]at h2;obtain⟨rfl,h2⟩:=h2;split at h2
     ·rename_i E' hE;obtain rfl:=zE h2;have hu:=Aa hE;intro ad x w hx;rw[hn];simp[method,typeInfo,hi,hm,z7p,follow,hf,receiverAt,run_underlying hu,Place.get,z4q,strVal,asAddr,hx]
     ·simp at h2
   ·simp at h
  ·simp at h
 ·simp at h
theorem z6f{P:Program}:{l:List (Nat×String×Nat×Option Nat)}->msB P l=true->zgo P (Wa l)
 |[],_,_,_,_,_,h=>by simp[Wa]at h
 |(t,nm,f,d)::l,hb,t',nm',f',d',h=>by
  simp only[msB,zA]at hb;simp only[Wa]at h
  cases he:(Nat.beq t t'&&nm == nm') with
  |false=>rw[he]at h;exact z6f hb.2 t' nm' f' d' h
  |true=>
   rw[he]at h;simp only[zJ,zI,p8]at h;simp only[zA,beq_iff_eq]at he;obtain rfl:=zE he.1;obtain rfl:=he.2;obtain⟨rfl,rfl⟩:=h;exact zl0 hb.1
section
variable {P:Program}{o:Oper}{a:Act}{w:World}{c:Ctx}{σ:St}{g:z8}{k:St->Option R}{r:R}{base:Nat}
theorem zco{z6:qQ}{t:Nat}{av:z7}{x:Value}(hv:av.val=true)(h:qy w g z6 av x):qy w g z6 (.ZU t av) (.iface t x):=by
 obtain⟨cs,h1,h2,_⟩:=jg hv h;simp only[qy];exact⟨[.iface t x],⟨x,cs,rfl,h1,h2⟩,rfl⟩
theorem UE{z6:qQ}{t:Nat}{av:z7}{x:Value}(hv:av.val=true)(h:qy w g z6 (.ZU t av) x):∃y,x=.iface t y/\qy w g z6 av y:=by
 simp only[qy]at h;obtain⟨cs,⟨y,Dv,rfl,h1,h2⟩,h3⟩:=h;refine⟨y,h3,?_⟩;obtain⟨_,WR,GX,_⟩:=jh hv;exact y8 h1 h2 WR GX
theorem Pr(hct:zat P c.ct){t:TypeId}{x:Operand}(ho:o.op=.makeInterface t x)(zq:zP c.ntmps g w a σ)(h:qq c σ base o k=some r):vH P o a w g σ c k r:=by
 simp only[qq,ho]at h;split at h
 ·rename_i av hx
  cases hb:(av.val&&c.ct t) with
  |false=>rw[hb]at h;simp at h
  |true=>
   rw[hb]at h;simp only[zJ]at h;simp only[zA]at hb;obtain⟨e1,e2⟩:=qH zq hx;obtain⟨d,hu,hd⟩:=hct t hb.2;refine Qy (v:=.iface t (a.eval x)) (λw' _=>?_) (zco hb.1 e1) (λm hm=>by have:=e2 m hm;simpa[z7.ids]using this) h;have:(Instr.makeInterface t (a.eval x)).run P w'=.ok (.iface t (a.eval x)) w':=by
    unfold Instr.makeInterface;rw[Sem.run_bind,run_underlying hu,Result.andThen_ok];cases d<;>first|rfl|exact absurd rfl (hd _)
   simp[execOp,ho,this]
 ·simp at h
theorem Ci(hct:zat P c.ct){t xt:TypeId}{x:Operand}{ok:Bool}(ho:o.op=.typeAssert x xt t ok)(zq:zP c.ntmps g w a σ)(h:qq c σ base o k=some r):vH P o a w g σ c k r:=by
 simp only[qq,ho]at h;split at h
 ·rename_i u av hx
  cases hb:(Nat.beq u t&&c.ct t&&av.val) with
  |false=>rw[hb]at h;simp at h
  |true=>
   rw[hb]at h;simp only[zJ]at h;simp only[zA]at hb;have JZ:=zE hb.1.1;subst JZ;obtain⟨e1,e2⟩:=qH zq hx;obtain⟨y,hy,hvy⟩:=UE hb.2 e1;obtain⟨d,hu,hd⟩:=hct _ hb.1.2;have zn:∀w':World,(Instr.typeAssert (a.eval x) xt u ok).run P w'=.ok (if ok then .tuple #[y,.bool true] else y) w':=λw'=>by
    unfold Instr.typeAssert;rw[Sem.run_bind,run_underlying hu,Result.andThen_ok,hy];cases d<;>first|(exact absurd rfl (hd _))|(cases ok<;>simp)
   cases ok with
   |true=>
    simp only[zJ]at h;refine Qy (v:=.tuple #[y,.bool true]) (λw' _=>by simp[execOp,ho,zn]) ?_ (λm hm=>by have:=e2 m hm;simpa[z7.ids]using this) h;simp only[qy];refine⟨[y,.bool true],rfl,?_⟩;simp only[qj]
    exact⟨_,_,rfl,hvy,_,_,rfl,wC true,rfl⟩
   |false=>
    simp only[zU]at h;exact Qy (v:=y) (λw' _=>by simp[execOp,ho,zn]) hvy (λm hm=>by have:=e2 m hm;simpa[z7.ids]using this) h
 ·simp at h
theorem KI{z6:qQ}:{av:z7}->{vs:List Value}->qj w g z6 av vs->kJ av .un=av
 |.pr a b,vs,h=>by
  simp only[qj]at h;obtain⟨v,rest,rfl,_,h⟩:=h;simp only[kJ]
  rw[KI h]
 |.un,_,_=>rfl
 |.data _ _,_,h=>by simp[qj]at h
 |.za,_,h=>by simp[qj]at h
 |.ref _ _ _,_,h=>by simp[qj]at h
 |.view _ _ _ _ _,_,h=>by simp[qj]at h
 |.zw _ _,_,h=>by simp[qj]at h
 |.jV _ _ _,_,h=>by simp[qj]at h
 |.qF _,_,h=>by simp[qj]at h
 |.nv _ _ _ _,_,h=>by simp[qj]at h
 |.qW _ _,_,h=>by simp[qj]at h
 | .ZU _ _,_,h=>by simp[qj]at h
 |.agg _,_,h=>by simp[qj]at h
 |.jD _,_,h=>by simp[qj]at h
theorem z9w{σ:St}{n fid:Nat}{all:z7}{f:z7->St->Option R}{r:R}(h:We c σ n (.qW fid .un) all f=some r)(hu:kJ all .un=all):(match WC all (c.env fid) with
   |some (.pure p res F)=>kS σ n all p res F f
   |_=>none)=some r:=by
 unfold We at h;simp only[gF,gk,zJ,hu]at h;exact h
theorem Rt(wi:gH P c.tt)(hms:zgo P c.ms){x:Operand}{nm:String}{args:Array Operand}{ts:Array TypeId}(ho:o.op=.call { callee:=.invoke x nm,args:=args,argTypes:=ts })(zq:zP c.ntmps g w a σ)
  {xv av:z7} (hx:ev σ x=some xv) (ha:I2 σ args.toList=some av) {F:z7->z7->Option R}{r:R} (h:zea c σ nm xv av F=some r) :
  ∃fid all vals,(execOp a.eval o).run P w=(callFunc fid vals.toArray).run P w/\qj w g σ.z6 all vals/\kJ all .un=all/\F (.qW fid .un) all=some r:=by
 unfold zea at h;split at h
 ·rename_i t v;obtain⟨e1,ef⟩:=qH zq hx;obtain⟨e2,_⟩:=VJ zq ha
  cases hval:v.val with
  |false=>rw[hval]at h;simp at h
  |true=>
  rw[hval]at h;simp only[zJ]at h;obtain⟨y,k3,hvy⟩:=UE hval e1;have hargs:args.map a.eval=(args.toList.map a.eval).toArray:=by apply Z22.1;rw[Z30]
  have app:kJ (.pr v av) .un=.pr v av:=by simp only[kJ];rw[KI e2]
  have q4s:∀lv:z7,kJ (.pr lv av) .un=.pr lv av:=λlv=>by simp only[kJ];rw[KI e2]
  have call:∀(m:Nat)(u:Value),(method (P.types.size+Made.depth) t y nm).run P w=.ok (m,u) w->(execOp a.eval o).run P w=(callFunc m (u::args.toList.map a.eval).toArray).run P w:=by
   intro m u hm;have e5:(#[Value.iface t y]++args.map a.eval).extract 1 (#[Value.iface t y]++args.map a.eval).size=args.map a.eval:=by
    apply Z22.1;rw[Array.toList_extract];simp;exact Z21 (by simp)
   have e4:(invoke (.fn (.method nm) #[]) (#[Value.iface t y]++args.map a.eval)).run P w=(callFunc m (#[u]++args.map a.eval)).run P w:=by
    have h0:(#[Value.iface t y]++args.map a.eval)[0]? = some (.iface t y):=by rw[Z50 (show 0<1 from Nat.one_pos)];rfl
    unfold invoke;rw[h0];simp only[e5,callMethod,Sem.run_bind,run_program,Result.andThen_ok,hm]
   have e6 : #[u]++args.map a.eval=(u::args.toList.map a.eval).toArray:=by rw[hargs];simp
   rw[<-e6,<-e4];simp[execOp,ho,resolve,k3]
  unfold zhi at h;split at h
  ·rename_i m hm;exact⟨m,_,_,call m y (hms _ _ _ _ hm y w),by simp only[qj];exact⟨_,_,rfl,hvy,e2⟩,app,h⟩
  ·rename_i m E hm;split at h
   ·rename_i u hu;obtain⟨lv,b,off,cc,e,fz,hv,zZ,hle,zc,v7,JU⟩:=Lu (n:=c.ntmps) (xv:=y) zq hvy (λm hm=>by have:=ef m hm;simpa[z7.ids]using this) h
    cases hb:(lv.val&&u.sk.same lv.sk) with
    |false=>rw[hb]at JU;simp at JU
    |true=>
     rw[hb]at JU;simp only[zJ]at JU;simp only[zA]at hb;have po:=Sk.qJ hb.2;obtain⟨w8,WR,GX,Og⟩:=jh hb.1;have ql:u.size=lv.sk.size:=by rw[<-po,Ty.zX]
     have zn:=Jc (P:=P) (w:=w) (wi _ _ hu) zZ (by rw[ql];exact hle);have hmm:=hms _ _ _ _ hm ⟨b,off,none⟩ _ w zn;rw[<-hv]at hmm;refine⟨m,_,_,call m _ hmm,?_,q4s _,JU⟩;simp only[qj];refine⟨_,_,rfl,y8 zc ?_ WR GX,e2⟩;rw[w8,<-po,ql,po]
   ·simp at h
  ·simp at h
 ·simp at h
end
end Go.Kz
