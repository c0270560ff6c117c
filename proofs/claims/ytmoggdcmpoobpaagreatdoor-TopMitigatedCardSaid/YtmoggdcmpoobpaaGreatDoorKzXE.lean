/-
  Callees: what is asked of them; what a call leaves behind.
-/
import Derived.Test.YtmoggdcmpoobpaaGreatDoorKzUA
import Derived.MapKept
import Derived.Laws.StructEq
import Derived.ChangeKeysEq
import Derived.WideKeyRuns
import Derived.Maps.RangeRun
set_option linter.unusedVariables false
set_option linter.unusedSimpArgs false
namespace Go.Kz
variable {R:Type}
def zs7(P:Program)(f:FuncId)(vals:Array Value)(w:World)(R:Value->World->Prop):Prop:=
 ((callFunc f vals).run P w=.ok (.enter f vals) w/\Calls P f vals w λe w'=>∃v,e=.returned v/\R v w')\/
 ∃v w',(callFunc f vals).run P w=.ok (.value v) w'/\R v w'
def QP(w:World)(g:z8):(p:gg)->p.den->List Value->Prop
 |.pr (.val t) q,(x,y),v::vs=>t.zG=true/\(∃cs,zN w g none t x cs/\v=jh t.sk.isAgg cs)/\QP w g q y vs
 |.un,_,[]=>True
 |_,_,_=>False
def Gv(w:World)(g:z8)(x:z7×List Obj)(v:Value):Prop:=yC w g (zR x.2)/\zm w g (zR x.2) x.1 v
def qL(P:Program)(f:FuncId):Callee->Prop
 |.pure p res F=>∀w g d vals r,(∀b,g.tag b≠.zt->g.tag b=.ro/\b<w.heap.size)->Known w g->QP w g p d vals->F d=some r->
   zs7 P f vals.toArray w λv w'=>∃g',Ext w g w' g'/\Gv w' g' (zQ res r 0) v
 |.mut fin js zr F=>∀w g d (vals:List Value) r,vals.length=fin.zk.length->zU vals.length g w ⟨vals.toArray,[]⟩ (St.of (vR fin.zk d.1) (wC fin.z6 d.2))->
   (∀m,fin.z6.length<=m->zJ g (St.of (vR fin.zk d.1) (wC fin.z6 d.2)) m)->F d=some r->
   zs7 P f vals.toArray w λv w'=>∃g',Ext w g w' g'/\yC w' g' (zR (wC zr.z6 r.2))/\
    (∀k i av,zR js k=some i->zR ((vR zr.zk r.1).map Prod.snd) k=some av->∃u,vals[i]? = some u/\zm w' g' (zR (wC zr.z6 r.2)) av u)/\
    zm w' g' (zR (wC zr.z6 r.2)) (gJ (gD js.length ((vR zr.zk r.1).map Prod.snd))) v
def BA(P:Program)(env:Nat->List Callee):Prop:=∀f c,c∈env f->qL P f c
def vj(g gc:z8)(n len size:Nat):z8 where
 tag:=λb=>if b<size then g.tag b else match gc.tag b with
  |.row i p=>if i<len then .row (n+i) p else .zt
  |.box i=>if i<len then .box (n+i) else .zt
  |t=>t
 sv:=λi p=>if n<=i/\i<n+len then gc.sv (i-n) p else g.sv i p
 qp:=λi=>if n<=i/\i<n+len then gc.qp (i-n) else g.qp i
theorem G7:(os:List Obj)->(J:St)->(n id:Nat)->(J.p5 n os).z6 id=if n<=id/\id<n+os.length then zR os (id-n) else J.z6 id
 |[],J,n,id=>by simp[St.p5];intro h1 h2;omega
 |o::os,J,n,id=>by
  simp only[St.p5,G7 os,BF];by_cases h1:id=n
  ·subst h1;rw[qW (by omega),yX (by omega)];simp only[St.setObj,zO,Z3v,zR]
  ·by_cases h2:n+1<=id/\id<n+1+os.length
   ·rw[yX h2,yX (by omega)];obtain⟨j,rfl⟩:∃j,id=n+1+j:=⟨id-(n+1),by omega⟩;have e1:n+1+j-(n+1)=j:=by omega
    have e2:n+1+j-n=j+1:=by omega
    rw[e1,e2];rfl
   ·rw[qW h2,qW (by omega)];simp only[St.setObj];rw[zf _ _ h1]
theorem VK:(os:List Obj)->(J:St)->(n:Nat)->(J.p5 n os).zk=J.zk
 |[],_,_=>rfl
 |_::os,J,n=>by simp only[St.p5];rw[VK os];rfl
theorem G8:(os:List Obj)->(J:St)->(n:Nat)->(J.p5 n os).next=J.next
 |[],_,_=>rfl
 |_::os,J,n=>by simp only[St.p5];rw[G8 os];rfl
theorem zN.qs{w w':World}{g g':z8}:{o o':C8}->{t:Ty}->{d:t.den}->{cs:List Value}->t.qs=true->zN w g o t d cs->zN w' g' o' t d cs
 |_,_,.int _,_,_,_,h=>h
 |_,_,.bool,_,_,_,h=>h
 |_,_,.str,_,_,_,h=>h
 |_,_,.unit,_,_,_,h=>h
 |_,_,.pair a b,(x,y),_,ht,h=>by
  obtain⟨c1,c2,rfl,h1,h2⟩:=h;simp only[Ty.qs,zA]at ht
  exact⟨c1,c2,rfl,zN.qs ht.1 h1,zN.qs ht.2 h2⟩
 |_,_,.arr n t,_,_,ht,h=>⟨h.1,h.2.1,λi hi=>zN.qs (by simpa[Ty.qs]using ht) (h.2.2 i hi)⟩
 |_,_,.sl _ _,_,_,ht,_=>by simp[Ty.qs]at ht
 |_,_,.ptr _,_,_,ht,_=>by simp[Ty.qs]at ht
 |_,_,.fn _ _,_,_,ht,_=>by simp[Ty.qs]at ht
 |_,_,.tree _,_,_,ht,_=>by simp[Ty.qs]at ht
 |_,_,.mp _,_,_,ht,_=>by simp[Ty.qs]at ht
theorem EC:{t:Ty}->t.flat=true->t.zG=true->t.qs=true
 |.int _,_,_=>rfl
 |.bool,_,_=>rfl
 |.str,_,_=>rfl
 |.unit,_,_=>rfl
 |.pair a b,h,k=>by
  simp only[Ty.flat,zA]at h;simp only[Ty.zG,zA]at k
  simp only[Ty.qs,EC h.1 k.1,EC h.2 k.2,Bool.and_self]
 |.arr _ t,h,_=>h
 |.sl true t,_,k=>by simp[Ty.zG]at k
 |.sl false t,h,_=>by simp[Ty.flat,Ty.qs]at h
 |.ptr _,h,_=>by simp[Ty.flat,Ty.qs]at h
 |.fn _ _,h,_=>by simp[Ty.flat,Ty.qs]at h
 |.tree _,h,_=>by simp[Ty.flat,Ty.qs]at h
 |.mp _,h,_=>by simp[Ty.flat,Ty.qs]at h
def Carry(w:World)(g g':z8)(t:Ty):Prop:=zT w g w g'\/t.flat=true
theorem Carry.rep{w:World}{g g':z8}{t:Ty}(h:Carry w g g' t)(ht:t.zG=true){d:t.den}{cs:List Value}(hr:zN w g none t d cs):zN w g' none t d cs:=by
 rcases h with h|h
 ·exact hr.kept h
 ·exact zN.qs (EC h ht) hr
theorem Carry.row{w:World}{g g':z8}{t:Ty}(h:Carry w g g' (.sl true t)){l:List t.den}{i j:Nat}(hm:xG w g w g' i [] j []){v:Value}(hr:zN w g (some (i,[])) (.sl true t) l [v]):
  zN w g' (some (j,[])) (.sl true t) l [v]:=by
 rcases h with h|h
 ·exact zN.move h (o:=some (i,[])) (o':=some (j,[])) hm hr
 ·obtain⟨a,cap,hv,h0,h1,h2,h3⟩:=hr;have yZ:=hm.sv [];simp only[DX]at yZ;refine⟨a,cap,hv,yZ.trans h0,h1,h2,?_⟩;rcases h3 with h3|⟨b,off,c,e,ha,ht,hb,hs,he⟩
  ·exact .inl h3
  ·have hk:=hm.qp [] b (by simpa using ht);simp only[DX]at hk;exact .inr ⟨b,off,c,e,ha,hk.1,hb,hs,λi hi=>zN.qs h (he i hi)⟩
theorem wQ:(t:Ty)->(d:t.den)->(n m:Nat)->(zw t d n).2=(zw t d m).2/\(zw.zh t d n).2=(zw.zh t d m).2
 |.sl true t,l,n,m=>⟨rfl,rfl⟩
 |.sl false t,l,n,m=>⟨rfl,rfl⟩
 |.int _,_,_,_=>⟨rfl,rfl⟩
 |.bool,_,_,_=>⟨rfl,rfl⟩
 |.str,_,_,_=>⟨rfl,rfl⟩
 |.unit,_,_,_=>⟨rfl,rfl⟩
 |.arr _ _,_,_,_=>⟨rfl,rfl⟩
 |.ptr _,_,_,_=>⟨rfl,rfl⟩
 |.fn _ _,_,_,_=>⟨rfl,rfl⟩
 |.tree _,_,_,_=>⟨rfl,rfl⟩
 |.mp _,_,_,_=>⟨rfl,rfl⟩
 |.pair a b,(x,y),n,m=>by
  have ha:=(wQ a x n m).1;have hb:=λn m=>(wQ b y n m).2
  have e2:(zw.zh (.pair a b) (x,y) n).2=(zw.zh (.pair a b) (x,y) m).2:=by
   simp only[zw.zh];rw[ha,hb _ (m+(zw a x m).2.length)]
  refine⟨?_,e2⟩;simp only[zw];cases (Ty.pair a b).zG
  ·simp only[zP];rw[ha,hb _ (m+(zw a x m).2.length)]
  ·rfl
theorem xl:(t:Ty)->(d:t.den)->(n:Nat)->(∀o∈(zw t d n).2,∃u l,o=Obj.row u l 0/\(t.flat=true->u.qs=true))/\
  (∀o∈(zw.zh t d n).2,∃u l,o=Obj.row u l 0/\(t.flat=true->u.qs=true))
 |.sl true t,l,n=>⟨by intro o ho;simp only[zw,II]at ho;exact⟨t,l,ho,λh=>h⟩,by simp[zw.zh]⟩
 |.sl false t,l,n=>⟨by simp[zw],by simp[zw.zh]⟩
 |.int _,_,_=>⟨by simp[zw],by simp[zw.zh]⟩
 |.bool,_,_=>⟨by simp[zw],by simp[zw.zh]⟩
 |.str,_,_=>⟨by simp[zw],by simp[zw.zh]⟩
 |.unit,_,_=>⟨by simp[zw],by simp[zw.zh]⟩
 |.arr _ _,_,_=>⟨by simp[zw],by simp[zw.zh]⟩
 |.ptr _,_,_=>⟨by simp[zw],by simp[zw.zh]⟩
 |.fn _ _,_,_=>⟨by simp[zw],by simp[zw.zh]⟩
 |.tree _,_,_=>⟨by simp[zw],by simp[zw.zh]⟩
 |.mp _,_,_=>⟨by simp[zw],by simp[zw.zh]⟩
 |.pair a b,(x,y),n=>by
  have ha:=λn=>(xl a x n).1
  have hb:=λn=>(xl b y n).2
  have e2:∀o∈(zw.zh (.pair a b) (x,y) n).2,∃u l,o=Obj.row u l 0/\((Ty.pair a b).flat=true->u.qs=true):=by
   intro o ho;simp only[zw.zh,Gx]at ho;rcases ho with ho|ho
   ·obtain⟨u,l,h1,h2⟩:=ha _ o ho;exact⟨u,l,h1,λh=>h2 (by simp only[Ty.flat,zA]at h;exact h.1)⟩
   ·obtain⟨u,l,h1,h2⟩:=hb _ o ho;exact⟨u,l,h1,λh=>h2 (by simp only[Ty.flat,zA]at h;exact h.2)⟩
  refine⟨?_,e2⟩;intro o ho;simp only[zw]at ho
  cases hr:(Ty.pair a b).zG with
  |true=>rw[hr]at ho;simp at ho
  |false=>
   rw[hr]at ho;exact e2 o ho
structure L3 (gc g:z8) (n len:Nat) (oc o:qZ):Prop where
 z6:∀i,i<len->o (n+i)=oc i
 sv:∀i p,i<len->g.sv (n+i) p=gc.sv i p
theorem Carry.left{w:World}{g g':z8}{a b:Ty}(h:Carry w g g' (.pair a b)):Carry w g g' a:=by
 rcases h with h|h
 ·exact .inl h
 ·simp only[Ty.flat,zA]at h;exact .inr h.1
theorem Carry.right{w:World}{g g':z8}{a b:Ty}(h:Carry w g g' (.pair a b)):Carry w g g' b:=by
 rcases h with h|h
 ·exact .inl h
 ·simp only[Ty.flat,zA]at h;exact .inr h.2
theorem W5{w:World}{gc g:z8}{n len:Nat}{oc o:qZ}(hs:L3 gc g n len oc o):(t:Ty)->(d:t.den)->(m:Nat)->Carry w gc g t->
  (∀cs,m+(zw t d m).2.length<=len->jM w gc oc (zw t d m).1 cs->jM w g o (zw t d (n+m)).1 cs)/\
  (∀cs,m+(zw.zh t d m).2.length<=len->jM w gc oc (zw.zh t d m).1 cs->jM w g o (zw.zh t d (n+m)).1 cs)
 |.sl true t,l,m,hc=>by
  refine⟨λcs hl h=>?_,λcs _ h=>h⟩;obtain⟨v,hv,qc,hx⟩:=h;have hm:m<len:=by simp only[zw,Z3w]at hl;omega
  refine⟨v,hv,qc,λt l e he=>?_⟩;rw[hs.z6 m hm]at he;obtain⟨h1,h2⟩:=hx _ _ _ he
  exact⟨h1,λh=>by rw[hs.sv m [] hm];exact h2 h⟩
 |.sl false t,l,m,hc=>⟨λcs _ h=>⟨h.1,hc.rep h.1 h.2⟩,λcs _ h=>h⟩
 |.int _,_,m,hc=>⟨λcs _ h=>⟨h.1,hc.rep h.1 h.2⟩,λcs _ h=>h⟩
 |.bool,_,m,hc=>⟨λcs _ h=>⟨h.1,hc.rep h.1 h.2⟩,λcs _ h=>h⟩
 |.str,_,m,hc=>⟨λcs _ h=>⟨h.1,hc.rep h.1 h.2⟩,λcs _ h=>h⟩
 |.unit,_,m,hc=>⟨λcs _ h=>⟨h.1,hc.rep h.1 h.2⟩,λcs _ h=>h⟩
 |.arr _ _,_,m,hc=>⟨λcs _ h=>⟨h.1,hc.rep h.1 h.2⟩,λcs _ h=>h⟩
 |.ptr _,_,m,hc=>⟨λcs _ h=>⟨h.1,hc.rep h.1 h.2⟩,λcs _ h=>h⟩
 |.fn _ _,_,m,hc=>⟨λcs _ h=>⟨h.1,hc.rep h.1 h.2⟩,λcs _ h=>h⟩
 |.tree _,_,m,hc=>⟨λcs _ h=>⟨h.1,hc.rep h.1 h.2⟩,λcs _ h=>h⟩
 |.mp _,_,m,hc=>⟨λcs _ h=>⟨h.1,hc.rep h.1 h.2⟩,λcs _ h=>h⟩
 |.pair a b,(x,y),m,hc=>by
  have ha:=λm=>(W5 hs a x m hc.left).1
  have hb:=λm=>(W5 hs b y m hc.right).2
  have hl:(zw a x (n+m)).2.length=(zw a x m).2.length:=by rw[(wQ a x (n+m) m).1]
  have key:∀cs,m+((zw a x m).2++(zw.zh b y (m+(zw a x m).2.length)).2).length<=len->
    (∃c1 c2,cs=c1++c2/\jM w gc oc (zw a x m).1 c1/\jM w gc oc (zw.zh b y (m+(zw a x m).2.length)).1 c2)->
    ∃c1 c2,cs=c1++c2/\jM w g o (zw a x (n+m)).1 c1/\jM w g o (zw.zh b y (n+m+(zw a x (n+m)).2.length)).1 c2:=by
   intro cs hle ⟨c1,c2,pe,h1,h2⟩;rw[WQ]at hle;refine⟨c1,c2,pe,ha m c1 (by omega) h1,?_⟩;rw[hl,TD];exact hb _ c2 (by omega) h2
  refine⟨λcs hle h=>?_,λcs hle h=>key cs (by simpa only[zw.zh]using hle) h⟩;simp only[zw]at hle h⊢
  cases hr:(Ty.pair a b).zG with
  |true=>
   rw[hr]at h;simp only[zB]at h⊢
   exact⟨h.1,hc.rep h.1 h.2⟩
  |false=>
   rw[hr]at h hle;simp only[zP]at h hle⊢;exact key cs hle h
theorem MC:(t:Ty)->(d:t.den)->(n m:Nat)->(zw t d n).1.isAgg=(zw t d m).1.isAgg
 |.sl true t,l,n,m=>rfl
 |.sl false t,l,n,m=>rfl
 |.int _,_,_,_=>rfl
 |.bool,_,_,_=>rfl
 |.str,_,_,_=>rfl
 |.unit,_,_,_=>rfl
 |.arr _ _,_,_,_=>rfl
 |.ptr _,_,_,_=>rfl
 |.fn _ _,_,_,_=>rfl
 |.tree _,_,_,_=>rfl
 |.mp _,_,_,_=>rfl
 |.pair a b,(x,y),n,m=>by
  simp only[zw];cases (Ty.pair a b).zG<;>rfl
theorem pn:(t:Ty)->(d:t.den)->(n:Nat)->(∀x y,(zw t d n).1≠.pr x y)/\(zw t d n).1≠.un/\∀c,(zw t d n).1≠.jS c
 |.sl true t,l,n=>⟨by simp[zw],by simp[zw],by simp[zw]⟩
 |.sl false t,l,n=>⟨by simp[zw],by simp[zw],by simp[zw]⟩
 |.int _,_,_=>⟨by simp[zw],by simp[zw],by simp[zw]⟩
 |.bool,_,_=>⟨by simp[zw],by simp[zw],by simp[zw]⟩
 |.str,_,_=>⟨by simp[zw],by simp[zw],by simp[zw]⟩
 |.unit,_,_=>⟨by simp[zw],by simp[zw],by simp[zw]⟩
 |.arr _ _,_,_=>⟨by simp[zw],by simp[zw],by simp[zw]⟩
 |.ptr _,_,_=>⟨by simp[zw],by simp[zw],by simp[zw]⟩
 |.fn _ _,_,_=>⟨by simp[zw],by simp[zw],by simp[zw]⟩
 |.tree _,_,_=>⟨by simp[zw],by simp[zw],by simp[zw]⟩
 |.mp _,_,_=>⟨by simp[zw],by simp[zw],by simp[zw]⟩
 |.pair a b,(x,y),n=>by
  simp only[zw];cases (Ty.pair a b).zG<;>simp
theorem W0{w:World}{gc g:z8}{n len:Nat}{oc o:qZ}(hs:L3 gc g n len oc o)(t:Ty)(d:t.den)(m:Nat)(hc:Carry w gc g t){v:Value}
  (hl:m+(zw t d m).2.length<=len) (h:zm w gc oc (zw t d m).1 v):zm w g o (zw t d (n+m)).1 v:=by
 obtain⟨cs,za,hv⟩:=kB h (pn t d m).2.2;exact jz ((W5 hs t d m hc).1 cs hl za) (by rw[hv,MC t d (n+m) m]) (pn t d _).1 (pn t d _).2.1
theorem xJ:(t:Ty)->(d:t.den)->(n:Nat)->(∀i∈(zw t d n).1.ids,n<=i/\i<n+(zw t d n).2.length)/\(∀i∈(zw.zh t d n).1.ids,n<=i/\i<n+(zw.zh t d n).2.length)
 |.sl true t,l,n=>⟨by simp[zw,z7.ids],by simp[zw.zh,z7.ids]⟩
 |.sl false t,l,n=>⟨by simp[zw,z7.ids],by simp[zw.zh,z7.ids]⟩
 |.int _,_,_=>⟨by simp[zw,z7.ids],by simp[zw.zh,z7.ids]⟩
 |.bool,_,_=>⟨by simp[zw,z7.ids],by simp[zw.zh,z7.ids]⟩
 |.str,_,_=>⟨by simp[zw,z7.ids],by simp[zw.zh,z7.ids]⟩
 |.unit,_,_=>⟨by simp[zw,z7.ids],by simp[zw.zh,z7.ids]⟩
 |.arr _ _,_,_=>⟨by simp[zw,z7.ids],by simp[zw.zh,z7.ids]⟩
 |.ptr _,_,_=>⟨by simp[zw,z7.ids],by simp[zw.zh,z7.ids]⟩
 |.fn _ _,_,_=>⟨by simp[zw,z7.ids],by simp[zw.zh,z7.ids]⟩
 |.tree _,_,_=>⟨by simp[zw,z7.ids],by simp[zw.zh,z7.ids]⟩
 |.mp _,_,_=>⟨by simp[zw,z7.ids],by simp[zw.zh,z7.ids]⟩
 |.pair a b,(x,y),n=>by
  have ha:=λn=>(xJ a x n).1
  have hb:=λn=>(xJ b y n).2
  have e2:∀i∈(zw.zh (.pair a b) (x,y) n).1.ids,n<=i/\i<n+(zw.zh (.pair a b) (x,y) n).2.length:=by
   intro i hi;simp only[zw.zh,z7.ids,Gx,WQ]at hi⊢;rcases hi with hi|hi
   ·have:=ha _ i hi;omega
   ·have:=hb _ i hi;omega
  refine⟨?_,e2⟩;intro i hi;simp only[zw]at hi⊢
  cases hr:(Ty.pair a b).zG with
  |true=>rw[hr]at hi;simp[z7.ids]at hi
  |false=>
   rw[hr]at hi;rw[zP]at hi⊢;exact e2 i hi
end Go.Kz
namespace Go.Kz
variable {R:Type}
abbrev chain:=zQ.chain
theorem By:(ts:List Ty)->(d:jD ts)->(n m:Nat)->(chain ts d n).2=(chain ts d m).2
 |[],_,_,_=>rfl
 |[t],d,n,m=>(wQ t d n m).1
 |t::u::ts,(d,ds),n,m=>by
  simp only[chain,zQ.chain];rw[(wQ t d n m).1];congr 1;exact By (u::ts) ds _ _
theorem Wq:(ts:List Ty)->(d:jD ts)->(n:Nat)->∀o∈(chain ts d n).2,∃u l,o=Obj.row u l 0/\(uG ts=true->u.qs=true)
 |[],_,_,o,ho=>by simp[chain,zQ.chain]at ho
 |[t],d,n,o,ho=>by
  obtain⟨u,l,h1,h2⟩:=(xl t d n).1 o ho
  exact⟨u,l,h1,λh=>h2 (by simp only[uG,zA]at h;exact h.1)⟩
 |t::u::ts,(d,ds),n,o,ho=>by
  simp only[chain,zQ.chain,Gx]at ho;rcases ho with ho|ho
  ·obtain⟨u',l,h1,h2⟩:=(xl t d n).1 o ho;exact⟨u',l,h1,λh=>h2 (by simp only[uG,zA]at h;exact h.1)⟩
  ·obtain⟨u',l,h1,h2⟩:=Wq (u::ts) ds _ o ho;exact⟨u',l,h1,λh=>h2 (by rw[uG,zA]at h;exact h.2)⟩
theorem Bq{w:World}{gc g:z8}{n len:Nat}{oc o:qZ}(hs:L3 gc g n len oc o):(ts:List Ty)->(d:jD ts)->(m:Nat)->(∀t∈ts,Carry w gc g t)->
  ∀vs,m+(chain ts d m).2.length<=len->qx w gc oc (chain ts d m).1 vs->qx w g o (chain ts d (n+m)).1 vs
 |[],_,_,_,vs,_,h=>by simpa[chain,zQ.chain,qx]using h
 |[t],d,m,hc,vs,hl,h=>by
  simp only[chain,zQ.chain,qx]at hl h⊢;obtain⟨v,r,hv,h1,h2⟩:=h
  exact⟨v,r,hv,W0 hs t d m (hc t (by simp)) hl h1,h2⟩
 |t::u::ts,(d,ds),m,hc,vs,hl,h=>by
  simp only[chain,zQ.chain,qx,WQ]at hl h⊢;obtain⟨v,r,hv,h1,h2⟩:=h;refine⟨v,r,hv,W0 hs t d m (hc t (by simp)) (by omega) h1,?_⟩;have e:(zw t d (n+m)).2.length=(zw t d m).2.length:=by rw[(wQ t d (n+m) m).1]
  rw[e,TD];exact Bq hs (u::ts) ds _ (λt ht=>hc t (by simp at ht⊢;exact .inr ht)) r (by rw[<-TD]at hl;exact hl) h2
theorem DY:(ts:List Ty)->(d:jD ts)->(n:Nat)->∀i∈(chain ts d n).1.ids,n<=i/\i<n+(chain ts d n).2.length
 |[],_,_,i,hi=>by simp[chain,zQ.chain,z7.ids]at hi
 |[t],d,n,i,hi=>by
  simp only[chain,zQ.chain,z7.ids,DX]at hi⊢
  exact(xJ t d n).1 i hi
 |t::u::ts,(d,ds),n,i,hi=>by
  simp only[chain,zQ.chain,z7.ids,Gx,WQ]at hi⊢;rcases hi with hi|hi
  ·have:=(xJ t d n).1 i hi;omega
  ·have:=DY (u::ts) ds _ i hi;simp only[chain]at this;omega
theorem H5:(ts:List Ty)->(d:jD ts)->(n m:Nat)->(zQ ts d n).2=(zQ ts d m).2
 |[],_,_,_=>rfl
 |[t],d,n,m=>(wQ t d n m).1
 |t::u::ts,(d,ds),n,m=>by
  simp only[zQ];rw[(wQ t d n m).1];congr 1;exact By (u::ts) ds _ _
theorem H4:(ts:List Ty)->(d:jD ts)->(n:Nat)->∀o∈(zQ ts d n).2,∃u l,o=Obj.row u l 0/\(uG ts=true->u.qs=true)
 |[],_,_,o,ho=>by simp[zQ]at ho
 |[t],d,n,o,ho=>Wq [t] d n o ho
 |t::u::ts,(d,ds),n,o,ho=>Wq (t::u::ts) (d,ds) n o ho
theorem za5:(ts:List Ty)->(d:jD ts)->(n:Nat)->∀i∈(zQ ts d n).1.ids,n<=i/\i<n+(zQ ts d n).2.length
 |[],_,_,i,hi=>by simp[zQ,z7.ids]at hi
 |[t],d,n,i,hi=>(xJ t d n).1 i hi
 |t::u::ts,(d,ds),n,i,hi=>DY (t::u::ts) (d,ds) n i hi
theorem za4{w:World}{gc g:z8}{n len:Nat}{oc o:qZ}(hs:L3 gc g n len oc o):(ts:List Ty)->(d:jD ts)->(∀t∈ts,Carry w gc g t)->
  ∀v,(zQ ts d 0).2.length<=len->zm w gc oc (zQ ts d 0).1 v->zm w g o (zQ ts d n).1 v
 |[],_,_,v,_,h=>by
  simp only[zQ,zm,qx]at h⊢;exact h
 |[t],d,hc,v,hl,h=>W0 hs t d 0 (hc t (by simp)) (by simpa[zQ]using hl) h
 |t::u::ts,(d,ds),hc,v,hl,h=>by
  have h':∃vs,v=.tuple vs.toArray/\qx w gc oc (chain (t::u::ts) (d,ds) 0).1 vs:=by
   simpa only[zQ,zm,chain,zQ.chain]using h
  obtain⟨vs,hv,h2⟩:=h';have:=Bq hs (t::u::ts) (d,ds) 0 hc vs (by rw[QK];exact hl) h2;show zm w g o (.jS (chain (t::u::ts) (d,ds) n).1) v;simp only[zm];exact⟨vs,hv,this⟩
theorem Sl{w:World}{g g':z8}{ts:List Ty}(h:zT w g w g'\/uG ts=true):∀t∈ts,Carry w g g' t:=by
 rcases h with h|h
 ·exact λ_ _=>.inl h
 ·induction ts with
  |nil=>simp
  |cons t ts ih=>
   simp only[uG,zA]at h;intro u hu;rcases pF.1 hu with rfl|hu
   ·exact .inr h.1
   ·exact ih h.2 u hu
theorem jo{I:Type}:{l:List I}->{i:Nat}->{x:I}->zR l i=some x->x∈l
 |[],i,x,h=>by cases i<;>simp[zR]at h
 |y::l,0,x,h=>by simp only[zR,zI]at h;simp[h]
 |y::l,i+1,x,h=>by simp only[zR]at h;exact TX _ (jo h)
theorem wa{I:Type}:{l:List I}->{i:Nat}->{x:I}->zR l i=some x->i<l.length
 |[],i,x,h=>by cases i<;>simp[zR]at h
 |y::l,0,x,h=>by simp
 |y::l,i+1,x,h=>by simp only[zR]at h;have:=wa h;simp;omega
structure Fu (w:World) (g gl:z8):Prop where
 tags:∀b,gl.tag b≠.zt->gl.tag b=.ro/\b<w.heap.size
section
variable {w w':World}{g gl gc:z8}{n len:Nat}
theorem gK(hl:Fu w g gl)(he:Ext w gl w' gc){b:Nat}(hb:b<w.heap.size):w'.heap[b]? = w.heap[b]?/\gc.tag b=gl.tag b:=by
 refine he.vE b hb ?_;by_cases h:gl.tag b=.zt
 ·exact .inl h
 ·exact .inr (hl.tags b h).1
theorem z2e(hl:Fu w g gl)(he:Ext w gl w' gc)(ht:∀b,g.tag b≠.zt->b<w.heap.size):zT w g w' (vj g gc n len w.heap.size):=
 ⟨λb hb=>by
  have qk:=ht b (by rw[hb];simp);exact⟨by simp only[vj,yX qk];exact hb,(gK hl he qk).1⟩⟩
theorem A1(hl:Fu w g gl)(he:Ext w gl w' gc)(ht:∀b,g.tag b≠.zt->b<w.heap.size){id:Nat}(hid:id<n\/n+len<=id):xC w g w' (vj g gc n len w.heap.size) id:=by
 refine⟨⟨λq=>by simp only[vj];rw[qW (by omega)],λq b hb=>?_⟩,by simp only[vj];rw[qW (by omega)],λhb=>?_⟩
 ·have qk:=ht b (by rw[hb];simp);exact⟨by simp only[vj,yX qk];exact hb,(gK hl he qk).1⟩
 ·have qk:=ht (g.qp id) (by rw[hb];simp);exact⟨by simp only[vj,yX qk];exact hb,(gK hl he qk).1⟩
theorem Sw(hl:Fu w g gl)(he:Ext w gl w' gc):Ext w g w' (vj g gc n len w.heap.size):=
 ⟨he.os,he.tape,he.output,he.drawn,he.size,λb hb _=>⟨(gK hl he hb).1,by simp only[vj,yX hb]⟩⟩
theorem HX(hl:Fu w g gl)(he:Ext w gl w' gc){i:Nat}(hi:i<len):xG w' gc w' (vj g gc n len w.heap.size) i [] (n+i) []:=by
 refine⟨λq=>?_,λq b hb=>⟨?_,rfl⟩⟩
 ·simp only[vj];rw[yX (by omega)];congr 1;omega
 ·have Pm:¬b<w.heap.size:=by
   intro qk;have:=(gK hl he qk).2;rw[hb]at this;by_cases h:gl.tag b=.zt
   ·rw[h]at this;simp at this
   ·rw[(hl.tags b h).1]at this;simp at this
  simp only[vj,qW Pm,hb,yX hi]
theorem z2d{N:Nat}{a:Act}{J:St}{ts:List Ty}{d:jD ts}{v:Value}(zj:zU N g w a J)(hl:Fu w g gl)(he:Ext w gl w' gc)
  (vO:∀m,n<=m->m<n+8->zJ g J m) (hlen:(zQ ts d 0).2.length<=8) (hc:zT w' gc w' (vj g gc n (zQ ts d 0).2.length w.heap.size)\/uG ts=true)
  (Ve:Gv w' gc (zQ ts d 0) v) :
  let g':=vj g gc n (zQ ts d 0).2.length w.heap.size;let J':=J.p5 n (zQ ts d n).2
  zU N g' w' a J'/\zm w' g' J'.z6 (zQ ts d n).1 v/\(∀m,(m<n\/n+8<=m)->zJ g J m->zJ g' J' m/\m∉(zQ ts d n).1.ids):=by
 intro g' J';have ht:=zj.heap.tags;let os:=(zQ ts d 0).2;have hosl:os.length=(zQ ts d 0).2.length:=rfl;have Tg:(zQ ts d n).2=os:=H5 ts d n 0;have uK:∀id,J'.z6 id=if n<=id/\id<n+os.length then zR os (id-n) else J.z6 id:=by
  intro id;show(J.p5 n (zQ ts d n).2).z6 id=_;rw[G7,Tg]
 have z3e:J'.zk=J.zk:=VK _ _ _;have qY:zT w g w' g':=z2e hl he ht;have gm:∀id,¬zJ g J id->qq g g' id (J.z6 id) (J'.z6 id):=by
  intro id hid;have Qj:id<n\/n+os.length<=id:=by
   by_cases h:n<=id/\id<n+os.length
   ·exact absurd (vO id h.1 (by omega)) hid
   ·omega
  rw[uK,qW (by omega)];exact qq.same (A1 hl he ht Qj)
 have z3g:L3 gc g' n os.length (zR os) J'.z6:=by
  refine⟨λi hi=>?_,λi p hi=>?_⟩
  ·rw[uK,yX (by omega)];congr 1;omega
  ·show(vj g gc n os.length w.heap.size).sv (n+i) p=_;simp only[vj];rw[yX (by omega)];congr 1;omega
 have zj8:=Sl hc;refine⟨⟨λi av hi=>?_,⟨λid x hx=>?_,λb hb=>?_⟩,zj.size,zj.defers,zj.known.kept qY⟩,?_,λm hm hf=>⟨⟨?_,λb p hb=>?_,λb hb=>?_,λi av hi=>?_,λid av hi=>?_⟩,?_⟩⟩
 ·rw[z3e]at hi;obtain⟨u,hu,za⟩:=zj.zk i av hi;exact⟨u,hu,zm.frame qY (λid hid=>gm id (λhf=>hf.zk i av hi hid)) za⟩
 ·rw[uK]at hx;by_cases xX:n<=id/\id<n+os.length
  ·rw[yX xX]at hx;obtain⟨i,rfl⟩:∃i,id=n+i:=⟨id-n,by omega⟩;have hi:i<os.length:=by omega
   rw[Z52]at hx;obtain⟨u,l,Na,z4b⟩:=H4 ts d 0 x (jo hx);have zp:=Ve.1.z6 i x hx;subst Na;refine⟨zp.1,?_⟩;have yZ:=z3g.sv i [] hi;rw[yZ];have hcr:Carry w' gc g' (.sl true u):=by
    rcases hc with h|h
    ·exact .inl h
    ·exact .inr (by simpa[Ty.flat]using z4b h)
   exact Carry.row hcr (HX hl he hi) zp.2
  ·rw[qW xX]at hx;refine zn.frame qY (A1 hl he ht (by omega)) (λy hy vF Mk=>gm vF (λhf=>?_)) (zj.heap.z6 id x hx);subst hy;exact hf.cells id y hx Mk
 ·have jt:(vj g gc n os.length w.heap.size).tag b≠.zt:=hb;simp only[vj]at jt;by_cases qk:b<w.heap.size
  ·have:=he.size;omega
  ·rw[qW qk]at jt;refine Ve.1.tags b ?_;intro hal;rw[hal]at jt;simp at jt
 ·refine za4 z3g ts d zj8 v (yH _) Ve.2
 ·rw[uK,qW (by omega)];exact hf.z6
 ·have jt:(vj g gc n os.length w.heap.size).tag b=.row m p:=hb;simp only[vj]at jt;split at jt
  ·exact hf.row b p jt
  ·split at jt
   ·split at jt
    ·simp only[Tag.row.injEq]at jt;omega
    ·simp at jt
   ·split at jt<;>simp at jt
   ·rename_i h1 _;exact h1 _ _ jt
 ·have jt:(vj g gc n os.length w.heap.size).tag b=.box m:=hb;simp only[vj]at jt;split at jt
  ·exact hf.box b jt
  ·split at jt
   ·split at jt<;>simp at jt
   ·split at jt
    ·simp only[Tag.box.injEq]at jt;omega
    ·simp at jt
   ·rename_i _ h1;exact h1 _ jt
 ·rw[z3e]at hi;exact hf.zk i av hi
 ·rw[uK]at hi;split at hi
  ·obtain⟨u,l,Na,_⟩:=H4 ts d 0 _ (jo hi);simp at Na
  ·exact hf.cells id av hi
 ·intro Gp;have:=za5 ts d n m Gp;rw[Tg]at this;omega
end
end Go.Kz
namespace Go.Kz
variable {R:Type}
theorem Ez{w:World}{g:z8}{z6:qZ}:{a:z7}->{cs:List Value}->py a=true->jM w g z6 a cs->qx w g z6 a cs
 |.pr x c,cs,hl,h=>by
  simp only[py,zA,U0]at hl;obtain⟨c1,c2,rfl,h1,h2⟩:=h;obtain⟨wx,Qr,PY,EJ⟩:=wI hl.1.1;have hlen:=h1.len;have qG:x.sk.size=1:=by
   have:=hl.1.2;cases ko:x.sk<;>rw[ko]at this<;>simp[Sk.isAgg]at this;rfl
  rw[qG]at hlen;obtain⟨v,rfl⟩:=Z28.1 hlen;simp only[qx];refine⟨v,c2,rfl,jz h1 ?_ Qr PY,Ez hl.2 h2⟩
  rw[wx,hl.1.2];rfl
 |.un,cs,_,h=>by simp only[qx];exact h
 |.data _ _,_,hl,_=>by simp[py]at hl
 |.zi,_,hl,_=>by simp[py]at hl
 |.ref _ _ _,_,hl,_=>by simp[py]at hl
 |.view _ _ _ _ _,_,hl,_=>by simp[py]at hl
 |.zq _ _,_,hl,_=>by simp[py]at hl
 |.va _ _ _,_,hl,_=>by simp[py]at hl
 |.qV _,_,hl,_=>by simp[py]at hl
 |.nv _ _ _ _,_,hl,_=>by simp[py]at hl
 |.qP _ _,_,hl,_=>by simp[py]at hl
 |.agg _,_,hl,_=>by simp[py]at hl
 |.jS _,_,hl,_=>by simp[py]at hl
theorem GY{w:World}{g:z8}{z6:qZ}:{a c:z7}->{vs us:List Value}->qx w g z6 a vs->qx w g z6 c us->qx w g z6 (G3 a c) (vs++us)
 |.pr x y,c,vs,us,h,k=>by
  simp only[qx,G3]at h⊢;obtain⟨v,r,rfl,h1,h2⟩:=h
  exact⟨v,r++us,rfl,h1,GY h2 k⟩
 |.un,c,vs,us,h,k=>by
  simp only[qx]at h;subst h
  exact k
 |.data _ _,_,_,_,h,_=>by simp[qx]at h
 |.zi,_,_,_,h,_=>by simp[qx]at h
 |.ref _ _ _,_,_,_,h,_=>by simp[qx]at h
 |.view _ _ _ _ _,_,_,_,h,_=>by simp[qx]at h
 |.zq _ _,_,_,_,h,_=>by simp[qx]at h
 |.va _ _ _,_,_,_,h,_=>by simp[qx]at h
 |.qV _,_,_,_,h,_=>by simp[qx]at h
 |.nv _ _ _ _,_,_,_,h,_=>by simp[qx]at h
 |.qP _ _,_,_,_,h,_=>by simp[qx]at h
 |.agg _,_,_,_,h,_=>by simp[qx]at h
 |.jS _,_,_,_,h,_=>by simp[qx]at h
theorem QV{w:World}{g:z8}{J:St}(hh:yC w g J.z6){a:z7}{t:Ty}{f:t.den->Option R}{r:R}(hv:a.val=true)(h:asData J 20 a t f=some r):a.isAgg=t.sk.isAgg:=by
 cases a with
 |data t' d=>
  simp only[asData]at h
  simp only[z7.isAgg,J9 h]
 |zi=>
  simp only[asData]at h
  cases hb:t.zG with
  |false=>rw[hb]at h;simp at h
  |true=>
   rw[hb]at h;obtain⟨o,u,rfl,_⟩:=JH h
   rfl
 |ref id p ep=>
  simp only[asData]at h;obtain⟨t',l,_,_,_,h⟩:=kV hh h
  rw[<-J9 h];rfl
 |view id p ep x y=>
  simp only[asData]at h;obtain⟨t',l,_,_,_,h⟩:=kV hh h
  rw[<-J9 h];rfl
 |zq id p=>cases t<;>simp[asData]at h<;>rfl
 |va id p ep=>cases t<;>simp[asData]at h<;>rfl
 |qV id=>simp[asData]at h
 |V6 t c=>simp[asData]at h
 |nv pt id p ep=>
  cases pt with
  |true=>simp[asData]at h
  |false=>
   simp only[asData]at h;obtain⟨_,_,_,_,_,_,_,_,_,h,_⟩:=U5 hh h
   rw[<-J9 h];rfl
 |qP f c=>cases t<;>simp[asData]at h<;>rfl
 |agg c=>
  cases c with
  |pr x y=>
   simp only[asData]at h
   cases t<;>simp[asData]at h<;>rfl
  |un=>
   simp only[asData]at h
   cases t<;>simp[asData]at h<;>rfl
  |_=>simp[z7.val]at hv
 |jS c=>simp[z7.val]at hv
 |pr x y=>simp[z7.val]at hv
 |un=>simp[z7.val]at hv
theorem uh{w:World}{g:z8}{J:St}:(n:Nat)->{a:z7}->{t:Ty}->{k:t.den->Option R}->{r:R}->{cs:List Value}->wc a=true->
  jM w g J.z6 a cs->asData J n a t k=some r->∃d,k d=some r/\t.zG=true/\zN w g none t d cs
 |0,_,_,_,_,_,_,_,h=>by simp[asData]at h
 |n+1,.data t' d,t,k,r,cs,_,za,h=>by
  simp only[asData]at h;obtain⟨_,h,qY,hF⟩:=vT h za.1
  exact⟨_,h,qY,hF _ _ _ za.2⟩
 |n+1,.zi,t,k,r,cs,_,za,h=>by
  simp only[asData]at h
  cases hb:t.zG with
  |false=>rw[hb]at h;simp at h
  |true=>
   rw[hb]at h;obtain⟨o,u,rfl,h⟩:=JH h
   cases o with
   |true=>simp[Ty.zG]at hb
   |false=>
    have K4:cs=[.slice none 0 0]:=za;subst K4
    exact⟨_,h,rfl,none,0,rfl,yH _,jF _,λhn=>absurd rfl hn⟩
 |n+1,.qP f c,t,k,r,cs,hn,za,h=>by
  cases t with
  |fn f' t=>
   simp only[asData]at h
   cases hb:Nat.beq f f' with
   |false=>rw[hb]at h;simp at h
   |true=>
    rw[hb]at h;have he:f=f':=zE hb;subst he;obtain⟨vs,rfl,hc⟩:=za;obtain⟨d,hk,hr,zF⟩:=uh n (a:=c) (by simpa[wc]using hn) hc h
    exact⟨d,hk,by simpa[Ty.zG]using hr,vs,rfl,zF⟩
  |_=>simp[asData]at h
 |n+1,.agg c,t,k,r,cs,hn,za,h=>by
  simp only[asData]at h
  exact uh n (a:=c) (by simpa[wc]using hn) za h
 |n+1,.pr a b,t,k,r,cs,hn,za,h=>by
  cases t with
  |pair t u=>
   simp only[asData]at h;simp only[wc,zA]at hn;obtain⟨c1,c2,rfl,ha,hb⟩:=za;obtain⟨x,hk,FK,uW⟩:=uh n hn.1 ha h;obtain⟨y,hk,Bm,uV⟩:=uh n hn.2 hb hk
   exact⟨(x,y),hk,by simp[Ty.zG,FK,Bm],c1,c2,rfl,uW,uV⟩
  |_=>simp[asData]at h
 |n+1,.un,t,k,r,cs,_,za,h=>by
  cases t with
  |unit=>
   simp only[asData]at h
   exact⟨(),h,rfl,za⟩
  |_=>simp[asData]at h
 |n+1,.ref _ _ _,_,_,_,_,hn,_,_=>by simp[wc]at hn
 |n+1,.view _ _ _ _ _,_,_,_,_,hn,_,_=>by simp[wc]at hn
 |n+1,.zq _ _,_,_,_,_,hn,_,_=>by simp[wc]at hn
 |n+1,.va _ _ _,_,_,_,_,hn,_,_=>by simp[wc]at hn
 |n+1,.qV _,_,_,_,_,hn,_,_=>by simp[wc]at hn
 |n+1,.nv _ _ _ _,_,_,_,_,hn,_,_=>by simp[wc]at hn
 |n+1,.jS _,_,_,_,_,_,za,_=>za.elim
def Z9(g:z8):z8:={ g with tag:=λb=>match g.tag b with
 |.ro=>.ro
 |_=>.zt }
theorem Wj{g:z8}{b:Nat}:(Z9 g).tag b=.ro↔g.tag b=.ro:=by
 simp only[Z9];cases g.tag b<;>simp
theorem DU(w:World)(g:z8):zT w g w (Z9 g):=⟨λb hb=>⟨Wj.2 hb,rfl⟩⟩
theorem IF{w:World}{g:z8}(ht:∀b,g.tag b≠.zt->b<w.heap.size):Fu w g (Z9 g):=by
 refine⟨λb hb=>?_⟩;have h1:(Z9 g).tag b=.ro:=by
  simp only[Z9]at hb⊢;cases h:g.tag b<;>rw[h]at hb<;>simp at hb⊢
 exact⟨h1,ht b (by rw[Wj.1 h1];simp)⟩
theorem z14{w:World}{g:z8}(ht:∀b,g.tag b≠.zt->b<w.heap.size):Fu w g (CA g):=by
 refine⟨λb hb=>?_⟩;simp only[CA]at hb⊢
 cases h:g.tag b with
 |zt=>rw[h]at hb;simp at hb
 |ro=>exact⟨rfl,ht b (by rw[h];simp)⟩
 |row i p=>exact⟨rfl,ht b (by rw[h];simp)⟩
 |box i=>exact⟨rfl,ht b (by rw[h];simp)⟩
theorem R8{w:World}{g gl:z8}{J:St}(hh:yC w g J.z6)(hgl:gl=CA g\/gl=Z9 g):{p:gg}->{a:z7}->{vs:List Value}->{b:Qm}->{k:p.den->Qm->Option R}->{r:R}->
  (gl=CA g\/wc a=true)->kf p=true->vV a=true->qx w g J.z6 a vs->w9 J p a b k=some r->∃d,k d b=some r/\QP w gl p d vs
 |.pr (.val t) q,.pr x y,vs,b,k,r,hm,hp,hv,h,hk=>by
  simp only[w9]at hk;simp only[vV,zA]at hv;simp only[qx]at h;obtain⟨v,rest,rfl,h1,h2⟩:=h;obtain⟨wx,Qr,PY,EJ⟩:=wI hv.1;obtain⟨cs,za,Qs⟩:=kB h1 EJ;have hd:∃d,(w9 J q y b λdy b=>k (d,dy) b)=some r/\t.zG=true/\zN w gl none t d cs:=by
   rcases hm with rfl|hm
   ·exact gE hh 20 za hk
   ·simp only[wc,zA]at hm;obtain⟨d,hk,hr,zF⟩:=uh 20 hm.1 za hk;refine⟨d,hk,hr,?_⟩;rcases hgl with rfl|rfl
    ·exact zF.kept (YQ w g)
    ·exact zF.kept (DU w g)
  obtain⟨d,U9,hr,zF⟩:=hd;obtain⟨dy,K6,hargs⟩:=R8 hh hgl (hm.imp _root_.id (λhm=>by simp only[wc,zA]at hm;exact hm.2)) (by simpa[kf]using hp) hv.2 h2 U9
  exact⟨(d,dy),K6,hr,⟨cs,zF,by rw[Qs,QV hh hv.1 hk]⟩,hargs⟩
 |.un,.un,vs,b,k,r,_,_,_,h,hk=>by
  simp only[w9]at hk;simp only[qx]at h;subst h
  exact⟨(),hk,trivial⟩
 |.un,.pr _ _,_,_,_,_,_,_,_,_,hk=>by simp[w9]at hk
 |.un,.data _ _,_,_,_,_,_,_,hv,_,_=>by simp[vV]at hv
 |.un,.zi,_,_,_,_,_,_,hv,_,_=>by simp[vV]at hv
 |.un,.ref _ _ _,_,_,_,_,_,_,hv,_,_=>by simp[vV]at hv
 |.un,.view _ _ _ _ _,_,_,_,_,_,_,hv,_,_=>by simp[vV]at hv
 |.un,.zq _ _,_,_,_,_,_,_,hv,_,_=>by simp[vV]at hv
 |.un,.va _ _ _,_,_,_,_,_,_,hv,_,_=>by simp[vV]at hv
 |.un,.qV _,_,_,_,_,_,_,hv,_,_=>by simp[vV]at hv
 |.un,.nv _ _ _ _,_,_,_,_,_,_,hv,_,_=>by simp[vV]at hv
 |.un,.qP _ _,_,_,_,_,_,_,hv,_,_=>by simp[vV]at hv
 |.un,.agg _,_,_,_,_,_,_,hv,_,_=>by simp[vV]at hv
 |.un,.jS _,_,_,_,_,_,_,hv,_,_=>by simp[vV]at hv
 |.pr (.val _) _,.un,_,_,_,_,_,_,_,_,hk=>by simp[w9]at hk
 |.pr (.val _) _,.data _ _,_,_,_,_,_,_,hv,_,_=>by simp[vV]at hv
 |.pr (.val _) _,.zi,_,_,_,_,_,_,hv,_,_=>by simp[vV]at hv
 |.pr (.val _) _,.ref _ _ _,_,_,_,_,_,_,hv,_,_=>by simp[vV]at hv
 |.pr (.val _) _,.view _ _ _ _ _,_,_,_,_,_,_,hv,_,_=>by simp[vV]at hv
 |.pr (.val _) _,.zq _ _,_,_,_,_,_,_,hv,_,_=>by simp[vV]at hv
 |.pr (.val _) _,.va _ _ _,_,_,_,_,_,_,hv,_,_=>by simp[vV]at hv
 |.pr (.val _) _,.qV _,_,_,_,_,_,_,hv,_,_=>by simp[vV]at hv
 |.pr (.val _) _,.nv _ _ _ _,_,_,_,_,_,_,hv,_,_=>by simp[vV]at hv
 |.pr (.val _) _,.qP _ _,_,_,_,_,_,_,hv,_,_=>by simp[vV]at hv
 |.pr (.val _) _,.agg _,_,_,_,_,_,_,hv,_,_=>by simp[vV]at hv
 |.pr (.val _) _,.jS _,_,_,_,_,_,_,hv,_,_=>by simp[vV]at hv
 |.pr (.ref _) _,_,_,_,_,_,_,hp,_,_,_=>by simp[kf]at hp
 |.pr (.zq _) _,_,_,_,_,_,_,hp,_,_,_=>by simp[kf]at hp
 |.pr (.qP _ _) _,_,_,_,_,_,_,hp,_,_,_=>by simp[kf]at hp
 |.pr (.agg _) _,_,_,_,_,_,_,hp,_,_,_=>by simp[kf]at hp
 |.pr (.pr _ _) _,_,_,_,_,_,_,hp,_,_,_=>by simp[kf]at hp
 |.pr .un _,_,_,_,_,_,_,hp,_,_,_=>by simp[kf]at hp
 |.val _,_,_,_,_,_,_,hp,_,_,_=>by simp[kf]at hp
 |.ref _,_,_,_,_,_,_,hp,_,_,_=>by simp[kf]at hp
 |.zq _,_,_,_,_,_,_,hp,_,_,_=>by simp[kf]at hp
 |.qP _ _,_,_,_,_,_,_,hp,_,_,_=>by simp[kf]at hp
 |.agg _,_,_,_,_,_,_,hp,_,_,_=>by simp[kf]at hp
section
variable {P:Program}{o:Oper}{a:Act}{w:World}{K:Act->World->Prop}{Q:Exit->Act->World->Prop}{c:Ctx}{J:St}{g:z8}{k:St->Option R}{r:R}{base:Nat}{mo:Bool}
theorem z5s{J':St}{g':z8}{w':World}{av:z7}{v:Value}(zj:zU c.ntmps g' w' a J')(qf:Ext w g w' g')
  (vO:∀m,(m<base\/base+8<=m)->zJ g J m->zJ g' J' m/\m∉av.ids) (hn:J'.next=J.next) (hv:zm w' g' J'.z6 av v)
  (h:J'.qo c o.dst av k=some r) (wx:mo=false->vp w w') (hK:vY c.ntmps k r g w J base mo K):K (a.put o.dst v) w':=by
 rcases pQ h with⟨hd,hk⟩|⟨i,hd,hi,hk⟩
 ·rw[hd];exact hK J' g' a w' hk zj qf (λm hm hf=>(vO m hm hf).1) hn wx
 ·rw[hd];exact hK _ g' _ w' hk (zj.put hi hv) qf (λm hm hf=>(vO m hm hf).1.set i (vO m hm hf).2) hn wx
theorem DV{gv args all:z7}{fid:Nat}{x:Operand}{vs:List Value}(hg:zm w g J.z6 gv (a.eval x))(hargs:qx w g J.z6 args vs)
  (h:Ks gv args=some (fid,all)) :
  ∃us,a.eval x=.func (.func fid) #[] us.toArray/\qx w g J.z6 all (vs++us):=by
 unfold Ks at h;split at h
 ·rename_i f cap
  cases hl:py cap with
  |false=>rw[hl]at h;simp at h
  |true=>
   rw[hl]at h;simp only[zB,zI,pv]at h;obtain⟨rfl,rfl⟩:=h;simp only[zm]at hg;obtain⟨cs,⟨us,rfl,hc⟩,hv⟩:=hg;exact⟨us,hv,GY hargs (Ez hl hc)⟩
 ·rename_i f t d
  cases hl:(py (jj t d)&&(jj t d).sk.same t.sk) with
  |false=>rw[hl]at h;simp at h
  |true=>
   rw[hl]at h;simp only[zB,zI,pv]at h;obtain⟨rfl,rfl⟩:=h;simp only[zA]at hl;simp only[zm]at hg;obtain⟨cs,⟨qY,us,rfl,zF⟩,hv⟩:=hg;exact⟨us,hv,GY hargs (Ez hl.1 (Zm (by simpa[Ty.zG]using qY) zF (Sk.qQ hl.2)))⟩
 ·simp at h
theorem JC{a:z7}:{l:List Callee}->{x:Callee}->Pp a l=some x->x∈l
 |[],_,h=>by simp[Pp]at h
 |y::l,x,h=>by
  simp only[Pp]at h
  cases hf:y.fits a with
  |true=>rw[hf]at h;simp only[zB,zI]at h;simp[h]
  |false=>rw[hf]at h;exact TX _ (JC h)
theorem WR{fid:Nat}{p:gg}{res:List Ty}{F:p.den->Option (jD res)}(hco:qL P fid (.pure p res F)){all:z7}{vals:List Value}(ze:(execOp a.eval o).run P w=(callFunc fid vals.toArray).run P w)(hall:qx w g J.z6 all vals)
  (zj:zU c.ntmps g w a J) (vO:∀m,base<=m->m<base+8->zJ g J m)
  (h:(Kt J base all p res F λv J=>J.qo c o.dst v k)=some r) (hK:vY c.ntmps k r g w J base mo K):o.wp P a w K Q:=by
 ·unfold Kt at h
  cases hb:(kf p&&vV all&&(uG res||wc all)) with
  |false=>rw[hb]at h;simp at h
  |true=>
   rw[hb]at h;simp only[zB]at h;simp only[zA,FX]at hb;have key:∀gl,(gl=CA g\/gl=Z9 g)->(gl=CA g\/wc all=true)->(gl=Z9 g\/uG res=true)->o.wp P a w K Q:=by
    intro gl hgl zq3 ziv;have Hc:Fu w g gl:=by
     rcases hgl with rfl|rfl
     ·exact z14 zj.heap.tags
     ·exact IF zj.heap.tags
    obtain⟨d,hk,qY⟩:=R8 zj.heap hgl zq3 hb.1.1 hb.1.2 hall h;simp only[WZ]at hk;obtain⟨rv,hF,hk⟩:=hk
    cases wU:Nat.ble (zQ res rv base).2.length 8 with
    |false=>rw[wU]at hk;simp at hk
    |true=>
     rw[wU]at hk;simp only[zB]at hk;have hlen:=zL wU;rw[H5 res rv base 0]at hlen;have zfh:∀v w',(∃g',Ext w gl w' g'/\Gv w' g' (zQ res rv 0) v)->K (a.put o.dst v) w':=by
      intro v w' ⟨gc,qf,Ve⟩;have hc:zT w' gc w' (vj g gc base (zQ res rv 0).2.length w.heap.size)\/uG res=true:=by
       rcases ziv with rfl|hf
       ·left;refine⟨λb hb=>⟨?_,rfl⟩⟩;simp only[vj];by_cases qk:b<w.heap.size
        ·rw[yX qk];have:=(gK Hc qf qk).2;rw[hb]at this;exact Wj.1 this.symm
        ·rw[qW qk,hb]
       ·exact .inr hf
      obtain⟨h1,h2,h3⟩:=z2d zj Hc qf vO hlen hc Ve;exact z5s h1 (Sw Hc qf) h3 (G8 _ _ _) h2 hk (λ_ b hb=>(gK Hc qf hb).1) hK
     have D5:Known w gl:=by
      rcases hgl with rfl|rfl
      ·exact zj.known.kept (YQ w g)
      ·exact zj.known.kept (DU w g)
     rcases hco w gl d vals rv Hc.tags D5 qY hF with⟨FK,Bm⟩|⟨v,w',FK,Bm⟩
     ·unfold Oper.wp;rw[ze,FK,Oper.upon_enter];refine Calls.mono Bm (λe w' he=>?_);obtain⟨v,rfl,hv⟩:=he;exact zfh v w' hv
     ·unfold Oper.wp;rw[ze,FK,Oper.upon_value];exact zfh v w' Bm
   by_cases hn:wc all=true
   ·exact key (Z9 g) (.inr rfl) (.inr hn) (.inl rfl)
   ·exact key (CA g) (.inl rfl) (.inl rfl) (.inr (hb.2.resolve_right hn))
theorem PW{w:World}{R:Type}:(p:gg)->(all:z7)->{J:St}->{g:z8}->{vals:List Value}->{k:z7->St->Option R}->{r:R}->yC w g J.z6->qx w g J.z6 all vals->gn p all J k=some r->
  ∃z6f J' g',k z6f J'=some r/\J'.zk=J.zk/\J'.next=J.next/\jI g J.z6 g' J'.z6/\qx w g' J'.z6 z6f vals:=by
 intro p
 induction p with
 |pr p q _ ihq=>
  intro all J g vals k r hh hv h
  cases p with
  |val t=>
   cases all with
   |pr a c=>
    simp only[gn]at h;obtain⟨hb,h⟩:=Wz h;simp only[zA]at hb;obtain⟨⟨hval,qY⟩,ko⟩:=hb;simp only[qx]at hv;obtain⟨v,vs,rfl,SY,ud⟩:=hv;obtain⟨cs,pe,Qs,_⟩:=vP hval SY;obtain⟨d,J1,g1,Z5,h1,h2,h3,zF⟩:=gQ 20 hh pe qY h;have zy9:qx w g1 J1.z6 c vs:=qx.frame (h3.ro w) (λid _=>h3.kept hh id) ud;obtain⟨z6f,J2,g2,K6,h4,h5,h6,Gg⟩:=ihq c (h3.heap hh) zy9 Z5;refine⟨_,J2,g2,K6,h4.trans h1,h5.trans h2,h3.trans h6,?_⟩;simp only[qx];refine⟨v,vs,rfl,?_,Gg⟩;have wx:=(wI hval).1;rw[wx,Sk.qQ ko]at Qs;simp only[zm]
    exact⟨cs,⟨qY,zN.kept (h6.ro w) zF⟩,Qs⟩
   |_=>simp[gn]at h
  |_=>simp[gn]at h
 |un=>
  intro all J g vals k r hh hv h
  cases all with
  |un=>exact⟨.un,J,g,by simpa[gn]using h,rfl,rfl,.refl _ _,hv⟩
  |_=>simp[gn]at h
 |_=>intro all J g vals k r hh hv h;simp[gn]at h
theorem z1l(Hl:BA P c.env){fid:Nat}{all:z7}{vals:List Value}(ze:(execOp a.eval o).run P w=(callFunc fid vals.toArray).run P w)(hall:qx w g J.z6 all vals)
  (zj:zU c.ntmps g w a J) (vO:∀m,base<=m->m<base+8->zJ g J m)
  (h:(match Pp all (c.env fid) with
   |some (.pure p res F)=>Za J base all p res F λv J=>J.qo c o.dst v k
   |_=>none)=some r) (hK:vY c.ntmps k r g w J base mo K):o.wp P a w K Q:=by
 split at h
 ·rename_i p res F HN;have hco:=Hl fid _ (JC HN);unfold Za at h
  cases hb:(uG res||wc all) with
  |true=>
   rw[hb]at h
   exact WR hco ze hall zj vO h hK
  |false=>
   rw[hb]at h;obtain⟨z6f,J1,g1,Z5,h1,h2,h3,Gg⟩:=PW p all zj.heap hall h;refine WR (mo:=mo) hco ze Gg (h3.st h1 zj) (λm hm1 hm2=>h3.fresh h1 (vO m hm1 hm2)) Z5 ?_;intro J' g' a' w' U9 qO qf z48 HS wx;exact hK J' g' a' w' U9 qO (h3.ext.trans qf) (λm hm hf=>z48 m hm (h3.fresh h1 hf)) (HS.trans h2) wx
 ·simp at h
theorem zai(Hl:BA P c.env){cl:Call}{x:Operand}(ho:o.op=.call cl)(uk:cl.callee=.value x)
  (zj:zU c.ntmps g w a J) (vO:∀m,base<=m->m<base+8->zJ g J m) {gv args:z7} (hx:ev J x=some gv) (hargs:TW J cl.args.toList=some args)
  (h:(z5y c J base gv args λv J=>J.qo c o.dst v k)=some r) (hK:vY c.ntmps k r g w J base mo K):o.wp P a w K Q:=by
 obtain⟨eg,_⟩:=qD zj hx;obtain⟨ea,_⟩:=W6 zj hargs;unfold z5y at h;split at h
 ·rename_i fid all EK;obtain⟨us,hfv,hall⟩:=DV eg ea EK;refine z1l Hl (fid:=fid) (all:=all) (vals:=(cl.args.toList.map a.eval)++us) ?_ hall zj vO h hK;have e1:cl.args.map a.eval=(cl.args.toList.map a.eval).toArray:=by apply C5.1;rw[Z2s]
  simp[execOp,ho,resolve,uk,hfv,Deferred.ofValue,invoke,e1]
 ·simp at h
end
end Go.Kz
namespace Go.Kz
open Go.MapKept
variable {R:Type}
def Qz:Ty->TypeDesc
 |.int k=>.int k
 |.str=>.string
 |_=>.bool
theorem JI{P:Program}{t:Ty}{T:TypeId}(hk:jU t=true)(h:qv P t T):P.underlying T=some (Qz t):=by
 cases t<;>simp[jU]at hk<;>simp only[qv]at h<;>exact h.1
theorem Va{t:Ty}(hk:jU t=true):t.qs=true:=by
 cases t<;>simp[jU]at hk<;>rfl
theorem ZC{w:World}{g:z8}{o:C8}{t:Ty}{d:t.den}{cs:List Value}(hk:jU t=true)(h:zN w g o t d cs):IsKey (Qz t) (jh t.sk.isAgg cs):=by
 cases t<;>simp[jU]at hk
 ·obtain⟨rfl,_⟩:=h;simp[Qz,jh,Ty.sk,Sk.isAgg,IsKey]
 ·cases h;simp[Qz,jh,Ty.sk,Sk.isAgg,IsKey]
 ·obtain⟨s,rfl,_⟩:=h;simp[Qz,jh,Ty.sk,Sk.isAgg,IsKey]
theorem zhv{w:World}{g:z8}{o:C8}{t:Ty}{d e:t.den}{cs es:List Value}(hk:jU t=true)(h:zN w g o t d cs)(h':zN w g o t e es):
  (jh t.sk.isAgg cs=jh t.sk.isAgg es)↔jX t d e=true:=by
 cases t<;>simp[jU]at hk
 ·obtain⟨rfl,_⟩:=h;obtain⟨rfl,_⟩:=h';simp[jX,jh,Ty.sk,Sk.isAgg]
 ·cases h;cases h';simp[jX,jh,Ty.sk,Sk.isAgg]
 ·obtain⟨s,rfl,hs,_⟩:=h;obtain⟨s',rfl,Nc,_⟩:=h';simp only[jX,jh,Ty.sk,Sk.isAgg,Z2a,TC,Z2l,Value.string.injEq,ve];constructor
  ·rintro rfl;rw[<-hs,<-Nc]
  ·intro he;obtain⟨⟨l⟩⟩:=s;obtain⟨⟨l'⟩⟩:=s';simp only at hs Nc;rw[hs,Nc,he]
theorem Qg{d:TypeDesc}{k:Value}:(es:List MapEntry)->(i:Nat)->Instr.findNow d k es i=(Instr.findNow d k es 0).map λx=>x.map λy=>(i+y.1,y.2)
 |[],i=>by simp[Instr.findNow]
 |e::es,i=>by
  simp only[Instr.findNow]
  cases Instr.sameNow d k e.key with
  |none=>rfl
  |some b=>
   cases b with
   |true=>simp
   |false=>
    simp only;rw[Qg es (i+1),Qg es (0+1)]
    cases Instr.findNow d k es 0 with
    |none=>rfl
    |some x=>cases x with
     |none=>rfl
     |some y=>simp;omega
theorem O4{w:World}{g:z8}{kt vt:Ty}(hk:jU kt=true){k:kt.den}{xU:List Value}(uL:zN w g none kt k xU):{es:List MapEntry}->{m:List (kt.den×vt.den)}->yI w g kt vt es m->
  (Instr.findNow (Qz kt) (jh kt.sk.isAgg xU) es 0=some none/\vL (jX kt) m k=none/\
   ∀d cs b,zN w g none vt d cs->yI w g kt vt (es++[⟨jh kt.sk.isAgg xU,jh vt.sk.isAgg cs,b⟩]) (vQ (jX kt) m k d))\/
  ∃j e v cs,Instr.findNow (Qz kt) (jh kt.sk.isAgg xU) es 0=some (some (j,e.val))/\es[j]? = some e/\e.key=jh kt.sk.isAgg xU/\(vL (jX kt) m k=some v/\gy (jX kt) m k=j)/\zN w g none vt v cs/\e.val=jh vt.sk.isAgg cs/\
   ∀d cs,zN w g none vt d cs->yI w g kt vt (es.modify j λe=>{ e with key:=jh kt.sk.isAgg xU,val:=jh vt.sk.isAgg cs }) (vQ (jX kt) m k d)
 |[],[],_=>.inl ⟨rfl,rfl,λd cs b h=>⟨⟨xU,uL,rfl⟩,⟨cs,h,rfl⟩,trivial⟩⟩
 |[],_::_,h=>h.elim
 |_::_,[],h=>h.elim
 |e::es,(k',v')::m,⟨⟨c1,h1,e1⟩,⟨c2,h2,e2⟩,h⟩=>by
  have i1:=ZC hk uL;have i2:=ZC hk h1;obtain⟨r,hr,zj1⟩:=sameNow_of_keys i1 i2;have hq:=zhv hk uL h1;have hrk:r=jX kt k k':=by
   cases r with
   |true=>exact(hq.1 (zj1.1 rfl)).symm
   |false=>
    cases hc:jX kt k k' with
    |false=>rfl
    |true=>have:=zj1.2 (hq.2 hc);simp at this
  rw[<-e1]at hr
  cases r with
  |true=>
   right;have hke:e.key=jh kt.sk.isAgg xU:=by rw[e1];exact(zj1.1 rfl).symm
   refine⟨0,e,v',c2,by simp[Instr.findNow,hr],rfl,hke,by simp[vL,gy,<-hrk],h2,e2,λd cs hd=>?_⟩;simp only[vQ,<-hrk,zB,Z53]
   exact⟨⟨c1,h1,by rw[<-e1,hke]⟩,⟨cs,hd,rfl⟩,h⟩
  |false=>
   rcases O4 hk uL h with⟨f1,f2,f3⟩|⟨j,e',v,cs,f1,f2,f3,f4,f5,f6,f7⟩
   ·left;refine⟨?_,by simp[vL,<-hrk,f2],λd cs b hd=>?_⟩
    ·simp only[Instr.findNow,hr];rw[Qg,f1];rfl
    ·simp only[vQ,<-hrk,zP,QI];exact⟨⟨c1,h1,e1⟩,⟨c2,h2,e2⟩,f3 d cs b hd⟩
   ·right;refine⟨j+1,e',v,cs,?_,by simpa using f2,f3,by simp[vL,gy,<-hrk,f4],f5,f6,λd cs hd=>?_⟩
    ·simp only[Instr.findNow,hr];rw[Qg,f1];simp;omega
    ·simp only[vQ,<-hrk,zP,Z54];exact⟨⟨c1,h1,e1⟩,⟨c2,h2,e2⟩,f7 d cs hd⟩
theorem P3:{t:Ty}->yQ t=true->t.qs=true
 |.unit,_=>rfl
 |.pair a b,h=>by
  simp only[yQ,zA]at h
  simp only[Ty.qs,Va h.1,P3 h.2,Bool.and_self]
 |.int _,h=>by simp[yQ]at h
 |.bool,h=>by simp[yQ]at h
 |.str,h=>by simp[yQ]at h
 |.arr _ a,h=>by
  simp only[yQ]at h
  simp only[Ty.qs,Va h]
 |.sl _ _,h=>by simp[yQ]at h
 |.ptr _,h=>by simp[yQ]at h
 |.fn _ _,h=>by simp[yQ]at h
 |.tree _,h=>by simp[yQ]at h
 |.mp _,h=>by simp[yQ]at h
theorem Ci{t:Ty}(h:kTy t=true):jU t=true\/∃a b,t=.pair a b/\yQ (.pair a b)=true:=by
 cases t<;>first|exact .inl h|exact .inr ⟨_,_,rfl,h⟩
theorem Wr{t:Ty}(h:kTy t=true):t.qs=true:=by
 rcases Ci h with h|⟨a,b,rfl,h⟩
 ·exact Va h
 ·exact P3 h
section
variable {P:Program}{o:Oper}{a:Act}{w:World}{K:Act->World->Prop}{Q:Exit->Act->World->Prop}{c:Ctx}{J:St}{g:z8}{k:St->Option R}{r:R}{base:Nat}{mo:Bool}
theorem Lb{t:TypeId}(ho:o.op=.makeMap t none)(zj:zU c.ntmps g w a J)(hf:zJ g J base)(h:yE c J base o k=some r)(hK:vY c.ntmps k r g w J base mo K):o.wp P a w K Q:=by
 simp only[yE,ho]at h;split at h
 ·rename_i kt vt HT
  cases hc:(kTy kt&&vt.qs) with
  |false=>rw[hc]at h;simp at h
  |true=>
   rw[hc]at h;simp only[zB]at h;simp only[zA]at hc;refine Y0 (ob:=.map #[] 0) (obj:=.map kt vt []) (tg:=.box base) (v:=undef) (z:=undef) (v':=.map (some w.heap.size)) zj hf (.inl rfl) ?_ rfl ?_ (by simp) ?_ h hK
   ·simp only[execOp,ho];simp[Instr.makeMap]
   ·refine⟨#[],0,?_,?_,kU (Wr hc.1),kU hc.2,trivial,rfl,rfl⟩
    ·have hb:(qe g w.heap.size base (.box base) undef undef).qp base=w.heap.size:=by simp[qe]
     rw[hb];exact heap_alloc_new w _
    ·simp[qe]
   ·simp only[zm];refine⟨_,⟨_,rfl,rfl,λ_ _ _ _=>?_⟩,rfl⟩;simp[qe]
 ·simp at h
theorem W9{t:Ty}{d:t.den}{v:Value}{z6:qZ}{cs:List Value}(ht:t.qs=true){w':World}{g':z8}{o':C8}(h:zN w' g' o' t d cs)(hv:v=jh t.sk.isAgg cs):zm w g z6 (.data t d) v:=
 ⟨cs,⟨kU ht,zN.qs ht h⟩,hv⟩
theorem gh{i:Operand}{b:z7}{kt:Ty}{f:kt.den->Option R}(zj:zU c.ntmps g w a J)(hk:kt.qs=true)(hb:b.val=true)(hi:ev J i=some b)(h:asData J 20 b kt f=some r):
  ∃d cs,f d=some r/\zN w g none kt d cs/\a.eval i=jh kt.sk.isAgg cs:=by
 obtain⟨cs,za,Qs,_⟩:=vP hb (qD zj hi).1;obtain⟨d,hd,_,hr⟩:=gE zj.heap 20 za h;exact⟨d,cs,hd,zN.qs hk hr,by rw[Qs,QV zj.heap hb h]⟩
theorem A3{id:Nat}{kt vt:Ty}{m m':List (kt.den×vt.den)}{es:Array MapEntry}{ck:Nat}(zj:zU c.ntmps g w a J)(zp:J.z6 id=some (.map kt vt m))(hm:yI w g kt vt es.toList m')(Hr:ck=es.size)(zig:kG es.toList):
  zU c.ntmps g { w with heap:=w.heap.setIfInBounds (g.qp id) (.map es ck) } a (J.setObj id (.map kt vt m'))/\Ext w g { w with heap:=w.heap.setIfInBounds (g.qp id) (.map es ck) } g/\
   ∀n,zJ g J n->zJ g (J.setObj id (.map kt vt m')) n:=by
 obtain⟨es0,ck0,hblk,zS,uL,hvr,_,_⟩:=zj.heap.z6 _ _ zp;obtain⟨h1,h2⟩:=heap_set (o':=.map es ck) hblk;have qY:zT w g { w with heap:=w.heap.setIfInBounds (g.qp id) (.map es ck) } g:=by
  refine⟨λb hb=>⟨hb,h2 b ?_⟩⟩;intro he;subst he;rw[zS]at hb;simp at hb
 refine⟨zj.pg qY (λi hi=>?_) (.inl (.inr (.inr (.inr (.inl ⟨kt,vt,m,m',zp,rfl,rfl⟩))))) ⟨es,ck,h1,zS,uL,hvr,hm.kept qY,Hr,zig⟩ (λb hb=>?_),⟨rfl,rfl,rfl,yH _,by simp,λb _ hb=>⟨h2 b ?_,rfl⟩⟩,λn hn=>?_⟩
 ·refine⟨⟨λq=>rfl,λq b hb=>⟨hb,h2 b ?_⟩⟩,rfl,λhb=>⟨hb,h2 _ ?_⟩⟩
  ·intro he;subst he;rw[zS]at hb;simp at hb
  ·intro he;rw[he,zS]at hb;simp only[Tag.box.injEq]at hb;exact hi hb.symm
 ·have:=zj.heap.tags b hb;simpa using this
 ·intro he;subst he;rw[zS]at hb;simp at hb
 ·refine zJ.pg (g:=g) (λb=>.inl rfl) ?_ (by simp) hn;intro heq;subst heq;have:=hn.z6;rw[zp]at this;simp at this
theorem GX{t E:TypeId}{s:Nat}(qu:P.underlying t=some (.slice E))(hs:(sizeOf E).run P w=.ok s w)(ad:Option Addr)(len cap:Nat)(lo hi:Option Value)(l h:Int)(K5:len<=cap)
  (Vh:(lo=none/\l=0)\/∃k,lo=some (.int k l)) (hhi:(hi=none/\h=len)\/∃k,hi=some (.int k h)) (h0:0<=l) (h1:l<=h) (h2:h<=(len:Int)) :
  (Instr.sliceAt t (.slice ad len cap) lo hi none).run P w=.ok (.slice (if cap-l.toNat=0 then ad else ad.map (·.add (l.toNat*s))) (h-l).toNat (cap-l.toNat)) w:=by
 have hb:∀k code,(Instr.sliceBound (.int k h) cap code).run P w=.ok h.toNat w:=λk code=>run_sliceBound w k h cap code (by omega) (by omega)
 have wU:∀(k:IntKind) code (y:Nat),l<=(y:Int)->(Instr.sliceBound (.int k l) y code).run P w=.ok l.toNat w:=λk code y hy=>run_sliceBound w k l y code h0 hy
 have e1:(cap=l.toNat)=(cap-l.toNat=0):=propext (by constructor<;>omega);have e2:h.toNat-l.toNat=(h-l).toNat:=by omega
 have e3:len-l.toNat=((len:Int)-l).toNat:=by omega
 rcases Vh with⟨rfl,rfl⟩|⟨k,rfl⟩<;>rcases hhi with⟨rfl,rfl⟩|⟨k',rfl⟩
 ·simp[Instr.sliceAt,Instr.slice,Instr.sliceBounds,run_underlying qu,hs]
 ·simp[Instr.sliceAt,Instr.slice,Instr.sliceBounds,run_underlying qu,hs,hb]
 ·have:=wU k .sliceB len (by omega);simp[Instr.sliceAt,Instr.slice,Instr.sliceBounds,run_underlying qu,hs,this,e1,e3]
 ·have:=wU k .sliceB h.toNat (by omega);simp[Instr.sliceAt,Instr.slice,Instr.sliceBounds,run_underlying qu,hs,hb,this,e1,e2]
theorem Da{t:TypeId}(qu:P.underlying t=some .string)(s:ByteArray)(lo hi:Option Value)(l h:Int)
  (Vh:(lo=none/\l=0)\/∃k,lo=some (.int k l)) (hhi:(hi=none/\h=s.size)\/∃k,hi=some (.int k h)) (h0:0<=l) (h1:l<=h) (h2:h<=(s.size:Int)) :
  (Instr.sliceAt t (.string s) lo hi none).run P w=.ok (.string (s.extract l.toNat h.toNat)) w:=by
 have hb:∀k code,(Instr.sliceBound (.int k h) s.size code).run P w=.ok h.toNat w:=λk code=>run_sliceBound w k h s.size code (by omega) (by omega)
 have wU:∀(k:IntKind) code (y:Nat),l<=(y:Int)->(Instr.sliceBound (.int k l) y code).run P w=.ok l.toNat w:=λk code y hy=>run_sliceBound w k l y code h0 hy
 rcases Vh with⟨rfl,rfl⟩|⟨k,rfl⟩<;>rcases hhi with⟨rfl,rfl⟩|⟨k',rfl⟩
 ·simp[Instr.sliceAt,Instr.slice,Instr.sliceBounds,run_underlying qu]
 ·simp[Instr.sliceAt,Instr.slice,Instr.sliceBounds,run_underlying qu,hb]
 ·have:=wU k .sliceB s.size (by omega);simp[Instr.sliceAt,Instr.slice,Instr.sliceBounds,run_underlying qu,this]
 ·have:=wU k .sliceB h.toNat (by omega);simp[Instr.sliceAt,Instr.slice,Instr.sliceBounds,run_underlying qu,hb,this]
theorem Et{J:St}(zj:zU c.ntmps g w a J){x:Option Operand}{n:Option Int}(h:evI J x=some n):(x.map a.eval=none/\n=none)\/∃k i,x.map a.eval=some (.int k i)/\n=some i:=by
 cases x with
 |none=>simp only[evI,zI]at h;exact .inl ⟨rfl,h.symm⟩
 |some x=>
  simp only[evI]at h;split at h
  ·rename_i k i hx;simp only[zI]at h;exact .inr ⟨k,i,by simp[(jL (qD zj hx).1).1],h.symm⟩
  ·simp at h
theorem z1f(kA:p6 P c.tt){t:TypeId}{x:Operand}{lo hi:Option Operand}(ho:o.op=.slice t x lo hi none)(zj:zU c.ntmps g w a J)(h:yE c J base o k=some r):wk P o a w g J c k r:=by
 simp only[yE,ho]at h;split at h
 ·rename_i av ow u l hn hx hu Vh hhi;have hT:=kA _ _ hu;simp only[qv]at hT;obtain⟨⟨E,qu,hE⟩,_⟩:=hT;obtain⟨ex,ef⟩:=qD zj hx;clear ef;have z3t:(lo.map a.eval=none/\l.getD 0=0)\/∃k,lo.map a.eval=some (.int k (l.getD 0)):=by
   rcases Et zj Vh with⟨h1,rfl⟩|⟨k,i,h1,rfl⟩
   ·exact .inl ⟨h1,rfl⟩
   ·exact .inr ⟨k,h1⟩
  have z42:∀n:Nat,(hi.map a.eval=none/\hn.getD (n:Int)=n)\/∃k,hi.map a.eval=some (.int k (hn.getD (n:Int))):=λn=>by
   rcases Et zj hhi with⟨h1,rfl⟩|⟨k,i,h1,rfl⟩
   ·exact .inl ⟨h1,rfl⟩
   ·exact .inr ⟨k,h1⟩
  have qG:∀w',(sizeOf E).run P w'=.ok u.size w':=hE.info.sizeOf;unfold z0p at h;split at h
  ·-- nil
   have hv:=QG.1 ex;obtain⟨hc,h⟩:=qB h;simp only[zA,ve]at hc;refine Zf (v:=.slice none 0 0) (λw' _=>?_) (QG.2 rfl) (λm _=>by simp[z7.ids]) h;have:=GX (w:=w') qu (qG w') none 0 0 _ _ (l.getD 0) (hn.getD ((0:Nat):Int)) (yH _) z3t (z42 0) (by omega) (by simp;omega) (by simp;omega);simp only[execOp,ho,hv,Z3x];rw[hc.1]at this;simp only[Int.ofNat_zero]at this;rw[show hn.getD 0=0 from hc.2]at this;simp[this]
  ·-- read-only data
   rename_i t' d
   cases hs:(z04 t').sk.same u.sk with
   |false=>rw[hs]at h;simp at h
   |true=>
    rw[hs]at h;have ko:=Sk.qQ hs;have YM:u.size=t'.size:=by rw[<-Cg t',<-Ty.zW,<-Ty.zW,ko]
    simp only[zB]at h;obtain⟨hc,h⟩:=qB h;simp only[zA,ve]at hc;obtain⟨⟨c0,c1⟩,c2⟩:=hc;simp only[zm]at ex;obtain⟨cs,⟨qY,ad,cap,rfl,h1,h2,h3⟩,hv⟩:=ex;have jl:a.eval x=.slice ad (List.length d) cap:=hv;have hlen:=ur d (l.getD 0) (hn.getD (List.length d:Int)) c0 c1 c2;refine Zf (v:=.slice (if cap-(l.getD 0).toNat=0 then ad else ad.map (·.add ((l.getD 0).toNat*u.size))) (hn.getD (List.length d:Int)-l.getD 0).toNat (cap-(l.getD 0).toNat)) (λw' _=>?_) ?_ (λm _=>by simp[z7.ids]) h
    ·have:=GX (w:=w') qu (qG w') ad (List.length d) cap _ _ (l.getD 0) (hn.getD (List.length d:Int)) h1 z3t (z42 _) c0 c1 c2;simp only[execOp,ho,jl,Z3x];simp[this]
    ·have D2:(sub d (l.getD 0) (hn.getD (List.length d:Int))).length=(hn.getD (List.length d:Int)-l.getD 0).toNat:=by rw[hlen];omega
     refine⟨_,⟨qY,_,cap-(l.getD 0).toNat,rfl,by rw[D2];omega,by omega,λvg=>?_⟩,by rw[D2];rfl⟩;have EY:0<(hn.getD (List.length d:Int)-l.getD 0).toNat:=by rw[<-D2];exact Z3s.2 vg
     have hdn:d≠[]:=by intro he;subst he;simp at c2 EY;omega
     obtain⟨b,off,cc,e,fz,rfl,zS,zZ,Pa,ja⟩:=h3 hdn;refine⟨b,off+(l.getD 0).toNat*t'.size,cc,e,fz,?_,zS,zZ,?_,λi hi=>?_⟩
     ·rw[qW (by omega)];simp only[Z2h,Addr.add_lit,YM]
     ·rw[D2];have:(hn.getD (List.length d:Int)-l.getD 0).toNat+(l.getD 0).toNat<=List.length d:=by omega
      have:=kn t'.size this;rw[kq]at this;omega
     ·have Bo:(l.getD 0).toNat+i<List.length d:=by rw[D2]at hi;omega
      have hg:=WB d (l.getD 0) (hn.getD (List.length d:Int)) i hi Bo;rw[hg];have e1:off+(l.getD 0).toNat*t'.size+i*t'.size=off+((l.getD 0).toNat+i)*t'.size:=by rw[kq];omega
      rw[e1];exact ja _ Bo
  ·-- an owned row
   rename_i id ep;obtain⟨t',d,zp,_,qY,h⟩:=kV zj.heap h
   cases hs:t'.sk.same u.sk with
   |false=>rw[hs]at h;simp at h
   |true=>
    rw[hs]at h;have ko:=Sk.qQ hs;have YM:u.size=t'.size:=by rw[<-Ty.zW,<-Ty.zW,ko]
    simp only[zB]at h;obtain⟨hc,h⟩:=qB h;simp only[zA,ve]at hc;obtain⟨⟨c0,c1⟩,c2⟩:=hc;simp only[zm]at ex;obtain⟨cs,⟨v,rfl,qc,hv⟩,jl⟩:=ex;have e1:=(hv _ _ _ zp).2 rfl;obtain⟨_,ad,cap,_,yZ,h1,h2,_⟩:=zj.heap.z6 _ _ zp;have Nb:a.eval x=.slice ad (List.length d) cap:=by rw[jl];show v=_;rw[e1,yZ]
    refine Zf (v:=jC (g.sv id []) t'.size (l.getD 0) (hn.getD (List.length d:Int))) (λw' _=>?_) ?_ (λm hm=>?_) h
    ·have:=GX (w:=w') qu (qG w') ad (List.length d) cap _ _ (l.getD 0) (hn.getD (List.length d:Int)) h1 z3t (z42 _) c0 c1 c2;simp only[execOp,ho,Nb,Z3x,yZ,jC];rw[YM]at this;simp[this]
    ·simp only[zm];refine⟨[jC (g.sv id []) t'.size (l.getD 0) (hn.getD (List.length d:Int))],⟨_,rfl,by rw[yZ];rfl,λt2 l2 e2 Cr=>?_⟩,rfl⟩;rw[zp]at Cr;simp only[zI,Obj.row.injEq]at Cr;obtain⟨rfl,D3,rfl⟩:=Cr;have D3:=Z34 D3;subst D3;exact⟨yH _,λ_=>⟨rfl,c0,c1,c2,rfl⟩⟩
    ·simp only[z7.ids,II];intro he;subst he;have:=hm.z6;rw[zp]at this;simp at this
  ·simp at h
 ·-- a part of a string
  rename_i d l hn hx hu Vh hhi;have hT:=kA _ _ hu;simp only[qv]at hT;obtain⟨s,hv,hl,hs⟩:=Gy (l:=d) (qD zj hx).1;subst hl;have z3t:(lo.map a.eval=none/\l.getD 0=0)\/∃k,lo.map a.eval=some (.int k (l.getD 0)):=by
   rcases Et zj Vh with⟨h1,rfl⟩|⟨k,i,h1,rfl⟩
   ·exact .inl ⟨h1,rfl⟩
   ·exact .inr ⟨k,h1⟩
  have qG:s.data.toList.length=s.size:=vl;rw[qG]at h;have z42:(hi.map a.eval=none/\hn.getD (s.size:Int)=s.size)\/∃k,hi.map a.eval=some (.int k (hn.getD (s.size:Int))):=by
   rcases Et zj hhi with⟨h1,rfl⟩|⟨k,i,h1,rfl⟩
   ·exact .inl ⟨h1,rfl⟩
   ·exact .inr ⟨k,h1⟩
  obtain⟨hc,h⟩:=qB h;simp only[zA,ve]at hc;obtain⟨⟨c0,c1⟩,c2⟩:=hc;refine Zf (v:=.string (s.extract (l.getD 0).toNat (hn.getD (s.size:Int)).toNat)) (λw' _=>?_) (Wv ?_ ?_) (λm _=>by simp[z7.ids]) h
  ·have:=Da (w:=w') hT.1 s _ _ (l.getD 0) (hn.getD (s.size:Int)) z3t z42 c0 c1 c2;simp only[execOp,ho,hv,Z3x];simp[this]
  ·rw[ByteArray.data_extract,Array.toList_extract];simp only[List.extract,sub]
  ·rw[ByteArray.size_extract];simp only[maxLen]at hs⊢;omega
 ·simp at h
theorem LC{t E:TypeId}{s:Nat}(qu:P.underlying t=some (.slice E))(hs:(sizeOf E).run P w=.ok s w)(ad:Option Addr)(len cap:Nat)(kh km:IntKind)(h m:Int)(h0:0<=h)(h1:h<=m)(h2:m<=(cap:Int)):
  (Instr.sliceAt t (.slice ad len cap) none (some (.int kh h)) (some (.int km m))).run P w=.ok (.slice (if m.toNat=0 then ad else ad.map (·.add (0*s))) h.toNat m.toNat) w:=by
 have hb:∀code,(Instr.sliceBound (.int km m) cap code).run P w=.ok m.toNat w:=λcode=>run_sliceBound w km m cap code (by omega) (by omega)
 have wU:∀code,(Instr.sliceBound (.int kh h) m.toNat code).run P w=.ok h.toNat w:=λcode=>run_sliceBound w kh h m.toNat code h0 (by omega)
 simp[Instr.sliceAt,Instr.slice,Instr.sliceBounds,run_underlying qu,hs,hb,wU]
theorem S3(kA:p6 P c.tt){t:TypeId}{x:Operand}{lo hi:Option Operand}{mx:Operand}(ho:o.op=.slice t x lo hi (some mx))(zj:zU c.ntmps g w a J)(h:yE c J base o k=some r)
  (hK:vY c.ntmps k r g w J base mo K):o.wp P a w K Q:=by
 cases lo with
 |some lo=>simp[yE,ho]at h
 |none=>
 cases hi with
 |none=>simp[yE,ho]at h
 |some hi=>
 simp only[yE,ho]at h;split at h
 ·rename_i id ep kh hn km m ow u hx hhi hmx hu;split at h
  ·rename_i t' l e zp
   cases hb:(Nat.beq e ep&&t'.sk.same u.sk) with
   |false=>rw[hb]at h;simp at h
   |true=>
    rw[hb]at h;simp only[zB]at h;simp only[zA]at hb;have Hm:=zE hb.1;subst Hm;have ko:=Sk.qQ hb.2;have YM:u.size=t'.size:=by rw[<-Ty.zW,<-Ty.zW,ko]
    obtain⟨hc,h⟩:=qB h;simp only[zA,ve]at hc;obtain⟨⟨c0,c1⟩,c2⟩:=hc;have c0:@LE.le Int Int.instLEInt 0 hn:=c0;have c1:@LE.le Int Int.instLEInt hn m:=c1;have c2:@LE.le Int Int.instLEInt m (l.length:Int):=c2;have hT:=kA _ _ hu;simp only[qv]at hT;obtain⟨⟨E,qu,hE⟩,_⟩:=hT;obtain⟨ex,ef⟩:=qD zj hx;obtain⟨vh,_⟩:=jL (qD zj hhi).1;obtain⟨vm,_⟩:=jL (qD zj hmx).1;simp only[zm]at ex;obtain⟨cs,⟨v,rfl,qc,hv⟩,jl⟩:=ex;have e1:=(hv _ _ _ zp).2 rfl;obtain⟨qY,ad,cap,_,yZ,K5,Vn,wy⟩:=zj.heap.z6 _ _ zp;have ud:a.eval x=.slice ad l.length cap:=by rw[<-yZ,<-e1];exact jl
    have hlen:(sub l 0 hn).length=hn.toNat:=by rw[ur l 0 hn (Z23 0) c0 (by omega)];simp
    have ze:=LC (P:=P) (w:=w) qu (hE.info.sizeOf w) ad l.length cap kh km hn m c0 c1 (by omega);have za:zn w (pH g id (.slice (if m.toNat=0 then ad else ad.map (·.add (0*u.size))) hn.toNat m.toNat)) (J.setObj id (.row t' (sub l 0 hn) (e+1))).z6 id (.row t' (sub l 0 hn) (e+1)):=by
     refine⟨qY,(if m.toNat=0 then ad else ad.map (·.add (0*u.size))),m.toNat,by rw[hlen];simp[pH],by rw[hlen];simp[pH],by rw[hlen];omega,by omega,?_⟩;rcases wy with⟨rfl,hl,rfl⟩|⟨b,off,c',ee,rfl,zS,zZ,qG,ja⟩
     ·left;rw[hl]at c2;simp only[TA]at c2;exact⟨by simp,T3 (by rw[hlen];omega),by omega⟩
     ·right;have hmul:m.toNat*t'.size<=cap*t'.size:=kn _ (by omega);refine⟨b,off,c',ee,by split<;>simp[Addr.add],zS,zZ,by omega,λi hi=>?_⟩;have wm:i<(sub l 0 hn).length:=hi;have Bo:(0:Int).toNat+i<l.length:=by simp;omega
      have:=zN.yJ (o':=none) qY (ja ((0:Int).toNat+i) Bo);have hg:=WB l 0 hn i wm Bo;refine zN.yJ qY (o:=none) ?_;have h2:(sub l 0 hn).get ⟨i,wm⟩=l.get ⟨(0:Int).toNat+i,Bo⟩:=hg;show zN w _ none t' ((sub l 0 hn).get ⟨i,wm⟩) _;rw[h2];have e0:(0:Int).toNat+i=i:=by simp
      have:=zN.kept (show zT w g w (pH g id (.slice (if m.toNat=0 then some ⟨b,off,none⟩ else (some ⟨b,off,none⟩:Option Addr).map (·.add (0*u.size))) hn.toNat m.toNat)) from⟨λb hb=>⟨hb,rfl⟩⟩) this;simpa[e0]using this
    obtain⟨h1,h2,h3⟩:=FT zj zp (BV e) za;refine ji (v:=.slice (if m.toNat=0 then ad else ad.map (·.add (0*u.size))) hn.toNat m.toNat) (g:=g) (base:=base) ?_ h1 h2 (λn _ hfn=>⟨h3 n hfn,by simp only[z7.ids,II];intro he;subst he;have:=hfn.z6;rw[zp]at this;simp at this⟩) rfl ?_ h (λ_=>vp.refl w) hK
    ·simp only[execOp,ho,ud,vh,vm,Z2h,Z3x];simp[ze]
    ·exact uR (u:=t') (l:=sub l 0 hn) (by simp[St.setObj,zO]) (by simp[pH]) rfl
  ·simp at h
 ·simp at h
end
end Go.Kz
namespace Go.Kz
variable {R:Type}
def Rk(P:Program)(eqs:Nat->Bool): Prop := ∀T, eqs T=true->P.stoodInHeld T=false/\P.eqGuardType P.depth T=false /\ ∀fs, P.underlying T=some (.struct fs) -> ∀f ∈ fs.toList, f.name ≠ "_"
def zd6(P:Program):List Nat->Bool
 |[]=>true
 |T::l=>(!P.stoodInHeld T && !P.eqGuardType P.depth T&&(match P.underlying T with
  |some (.struct fs) =>fs.toList.all λf => !(f.name == "_")
  |some (.array _ _)=>true
  |_=>false))&&zd6 P l
theorem F1{P:Program}:{l:List Nat}->zd6 P l=true->Rk P (λT=>j8 T l)
 |[],_,_,h=>by simp[j8]at h
 |T::l,hb,T',h=>by
  simp only[zd6,zA,U0]at hb;simp only[j8]at h
  cases he:Nat.beq T T' with
  |false=>rw[he]at h;exact F1 hb.2 T' h
  |true=>
   obtain rfl:=zE he;refine⟨hb.1.1.1,hb.1.1.2,?_⟩;have h1:=hb.1.2;split at h1
   ·rename_i fs hu;intro fs' hu' f hf;rw[hu]at hu';cases hu';have:=Z2m.1 h1 f hf;simpa using this
   ·rename_i hu;intro fs' hu';rw[hu]at hu';cases hu'
   ·simp at h1
theorem Ip{P:Program}{w w':World}{g:z8}{t:Ty}{T:TypeId}{d e:t.den}{cs es:List Value}(D:Nat)(hk:jU t=true)(hT:qv P t T)(h:zN w g none t d cs)(h':zN w g none t e es):
  ∃u v,cs=[u]/\es=[v]/\(Op.equalIn (D+1) T u v).run P w'=.ok (jX t d e) w':=by
 cases t<;>simp[jU]at hk<;>simp only[qv]at hT
 ·obtain⟨rfl,_⟩:=h;obtain⟨rfl,_⟩:=h';refine⟨_,_,rfl,rfl,?_⟩;rw[run_equalIn_int w' D T _ _ _ _ hT.1];congr 1
 ·cases h;cases h';exact⟨_,_,rfl,rfl,run_equalIn_bool w' D T _ _ hT.1⟩
 ·obtain⟨s,rfl,hs,_⟩:=h;obtain⟨s',rfl,Nc,_⟩:=h';refine⟨_,_,rfl,rfl,?_⟩;rw[run_equalIn_string w' D T _ _ hT.1,ByteArray.toList_eq,ByteArray.toList_eq];congr 1;rw[Z4d];simp[jX,hs,Nc]
theorem Jv{P:Program}{w w' : World}{g:z8}(D:Nat){xs ys:Array Value}: {t:Ty}->{fs:List Field}->{off:Nat}->{d e:t.den}->{cs es:List Value}->yQ t=true->vJ P t fs off->(∀f ∈ fs, f.name ≠ "_") ->
  zN w g none t d cs->zN w g none t e es->xs.toList.drop off=cs->ys.toList.drop off=es->(Op.eqFields (D+1) xs ys fs).run P w'=.ok (P4 t d e) w'
 |.unit,[],off,d,e,cs,es,_,_,_,_,_,_,_=>by simp[Op.eqFields,P4]
 |.unit,_::_,off,d,e,cs,es,_,hf,_,_,_,_,_=>by simp[vJ]at hf
 |.pair a b,[],off,d,e,cs,es,_,hf,_,_,_,_,_=>by simp[vJ]at hf
 |.pair a b,f::fs,off,(x,u),(y,v),cs,es,ht,hf,hn,h,h',hx,hy=>by
  simp only[yQ,zA]at ht;simp only[vJ]at hf;obtain⟨c1,c2,rfl,h1,h2⟩:=h;obtain⟨e1,e2,rfl,h3,h4⟩:=h';obtain⟨p,q,rfl,rfl,ze⟩:=Ip (w':=w') D ht.1 hf.2.1 h1 h3;have qG:a.size=1:=by have:=h1.len;simpa using this.symm
  have p8:P.plainKey f.type=true:=by
   have:=JI ht.1 hf.2.1;unfold Program.plainKey;rw[this];have hk:=ht.1;cases a<;>simp[jU]at hk<;>rfl
  have zbx:xs[off]? = some p:=by
   have:(xs.toList.drop off)[0]? = some p:=by rw[hx];rfl
   rw[Z2j]at this;simpa using this
  have zji:ys[off]? = some q:=by
   have:(ys.toList.drop off)[0]? = some q:=by rw[hy];rfl
   rw[Z2j]at this;simpa using this
  have hxt:xs.toList.drop (off+a.size)=c2:=by
   rw[qG,<-TF,hx];rfl
  have hyt:ys.toList.drop (off+a.size)=e2:=by
   rw[qG,<-TF,hy];rfl
  have ih:=Jv (w':=w') D ht.2 hf.2.2 (λf hf=>hn f (by simp[hf])) h2 h4 hxt hyt
  have hn0:f.name ≠ "_" := hn f (by simp)
  have p1:=run_part_plain w' p8 zbx;have p2:=run_part_plain w' p8 zji;simp only[Op.eqFields,hf.1,hn0,ne_eq,not_false_eq_true,Ms,Sem.run_bind,p1,p2,ze,Result.andThen_ok];simp only[P4]
  cases jX a x y with
  |false=>simp
  |true=>simpa using ih
 |.int _,_,_,_,_,_,_,ht,_,_,_,_,_,_=>by simp[yQ]at ht
 |.bool,_,_,_,_,_,_,ht,_,_,_,_,_,_=>by simp[yQ]at ht
 |.str,_,_,_,_,_,_,ht,_,_,_,_,_,_=>by simp[yQ]at ht
 |.arr _ _,_,_,_,_,_,_,_,hf,_,_,_,_,_=>by simp[vJ]at hf
 |.sl _ _,_,_,_,_,_,_,ht,_,_,_,_,_,_=>by simp[yQ]at ht
 |.ptr _,_,_,_,_,_,_,ht,_,_,_,_,_,_=>by simp[yQ]at ht
 |.fn _ _,_,_,_,_,_,_,ht,_,_,_,_,_,_=>by simp[yQ]at ht
 |.tree _,_,_,_,_,_,_,ht,_,_,_,_,_,_=>by simp[yQ]at ht
 |.mp _,_,_,_,_,_,_,ht,_,_,_,_,_,_=>by simp[yQ]at ht
section
variable {P:Program}{o:Oper}{a:Act}{w:World}{c:Ctx}{J:St}{g:z8}{k:St->Option R}{r:R}{base:Nat}
theorem B4{w':World}(D:Nat){xs ys:Array Value}{t:Ty}{E:TypeId}(hk:jU t=true)(hE:qv P t E):(l m:List t.den)->(j:Nat)->l.length=m.length->
  (∀(i:Nat)(h:i<l.length),zN w g none t (l.get ⟨i,h⟩) (qS xs.toList (j+i) 1))->(∀(i:Nat)(h:i<m.length),zN w g none t (m.get ⟨i,h⟩) (qS ys.toList (j+i) 1))->
  (Op.eqItems (D+1) E 1 xs ys (List.range' j l.length)).run P w'=.ok (kY (jX t) l m) w'
 |[],[],j,_,_,_=>by simp[Op.eqItems,kY]
 |x::l,y::m,j,hl,hx,hy=>by
  have ih:=B4 (w':=w') D hk hE l m (j+1) (by simpa using hl) (λi h=>by
   have:=hx (i+1) (by simpa using h);rw[show j+1+i=j+(i+1) from by omega];exact this) (λi h=>by
   have:=hy (i+1) (by simpa using h);rw[show j+1+i=j+(i+1) from by omega];exact this)
  have h1:=hx 0 (by simp);have h2:=hy 0 (by simp);simp only[TE]at h1 h2;obtain⟨p,q,e1,e2,ze⟩:=Ip (w':=w') D hk hE h1 h2;have zbx:xs[j]? = some p:=by
   have:=Jn (λl=>l[0]?) e1;simpa[qS]using this
  have zji:ys[j]? = some q:=by
   have:=Jn (λl=>l[0]?) e2;simpa[qS]using this
  have p8:P.plainKey E=true:=by
   have:=JI hk hE;unfold Program.plainKey;rw[this];cases t<;>simp[jU]at hk<;>rfl
  have p1:=run_part_plain w' p8 zbx;have p2:=run_part_plain w' p8 zji;have pT:(Op.equalIn (D+1) E p q).run P w'=.ok (jX t x y) w':=ze;simp only[BF,List.range'_succ,Op.eqItems,TB,Sem.run_bind,p1,p2,pT,Result.andThen_ok,kY]
  cases jX t x y with
  |false=>simp
  |true=>simpa using ih
 |[],_::_,_,hl,_,_=>by simp at hl
 |_::_,[],_,hl,_,_=>by simp at hl
theorem GA{T:TypeId}{ta tb:Ty}{d e:(Ty.pair ta tb).den}{cs es:List Value}(wu:yQ (.pair ta tb)=true)(hT:qv P (.pair ta tb) T)(hs:P.stoodInHeld T=false)(Zq:∀fs, P.underlying T=some (.struct fs) -> ∀f ∈ fs.toList, f.name ≠ "_")
  (hr:zN w g none (.pair ta tb) d cs) (PQ:zN w g none (.pair ta tb) e es) (w':World):(Op.equal T (.agg cs.toArray) (.agg es.toArray)).run P w'=.ok (P4 (.pair ta tb) d e) w':=by
 show(Op.equalIn (9999+1) T _ _).run P w'=_;simp only[qv]at hT;obtain⟨⟨fs,hu,EV⟩,_⟩:=hT;have hfo:P.fieldsOf T=fs:=by simp[Program.fieldsOf,hu]
 rw[run_equalIn_struct w' 9999 T _ _ (by rw[hfo];exact hu) hs,hfo];exact Jv 9998 wu EV (Zq fs hu) hr PQ (by simp) (by simp)
theorem S7(kA:p6 P c.tt)(heq:Rk P c.eqs){op:BinOp}{t t':TypeId}{x y:Operand}(ho:o.op=.binOp op t x y t')(zj:zU c.ntmps g w a J)(h:yE c J base o k=some r):wk P o a w g J c k r:=by
 refine z1n kA (λax ay hx hy u Qc h=>?_) ho zj h
 cases hb:(c.eqs t&&yQ u&&ax.val&&ay.val) with
 |false=>rw[hb]at h;simp at h
 |true=>
  rw[hb]at h;simp only[zB]at h;simp only[zA]at hb;obtain⟨⟨⟨hq,wu⟩,Nb⟩,hvy⟩:=hb;have Ct:=P3 wu;obtain⟨d,cs,h,hr,Mu⟩:=gh zj Ct Nb hx h;obtain⟨e,es,h,PQ,q00⟩:=gh zj Ct hvy hy h;have hT:=kA _ _ Qc;obtain⟨hs,hgd,Zq⟩:=heq _ hq;have wx:u.sk.isAgg=true:=by
   cases u<;>simp[yQ]at wu<;>first|rfl|(simp only[qv]at hT)
  have ze:∀w',(Op.equal t (.agg cs.toArray) (.agg es.toArray)).run P w'=.ok (P4 u d e) w':=λw'=>by
   show(Op.equalIn (9999+1) t _ _).run P w'=_
   cases u with
   |pair ta tb=>
    simp only[qv]at hT;obtain⟨⟨fs,hu,EV⟩,_⟩:=hT;have hfo:P.fieldsOf t=fs:=by simp[Program.fieldsOf,hu]
    rw[run_equalIn_struct w' 9999 t _ _ (by rw[hfo];exact hu) hs,hfo]
    exact Jv 9998 wu EV (Zq fs hu) hr PQ (by simp) (by simp)
   |arr n ta=>
    simp only[yQ]at wu;simp only[qv]at hT;obtain⟨⟨E,hu,hE⟩,_⟩:=hT;obtain⟨i,z,hi,qG,_⟩:=hE.info.info;have BD:ta.size=1:=by cases ta<;>simp[jU]at wu<;>rfl
    have hce:P.cellsOf E=1:=by simp[Program.cellsOf,hi,qG,BD]
    rw[run_equalIn_array w' 9999 _ _ hu hi,hce];obtain⟨l1,l2,l3⟩:=hr;obtain⟨m1,m2,m3⟩:=PQ;have:=B4 (P:=P) (w:=w) (g:=g) (w':=w') 9998 (xs:=cs.toArray) (ys:=es.toArray) wu hE d e 0 (l1.trans m1.symm) (λi h=>by
     have:=l3 i h;rw[BD,TB]at this;simpa[stp]using this) (λi h=>by
     have:=m3 i h;rw[BD,TB]at this;simpa[stp]using this)
    rw[List.range_eq_range',<-l1]
    exact this
   |unit=>simp only[qv]at hT
   |int _=>simp[yQ]at wu
   |bool=>simp[yQ]at wu
   |tree _=>simp[yQ]at wu
   |mp _=>simp[yQ]at wu
   |str=>simp[yQ]at wu
   |sl _ _=>simp[yQ]at wu
   |ptr _=>simp[yQ]at wu
   |fn _ _=>simp[yQ]at wu
  have ex:a.eval x=.agg cs.toArray:=by rw[Mu];simp[jh,wx]
  have ey:a.eval y=.agg es.toArray:=by rw[q00];simp[jh,wx]
  refine kr (f:=λv=>J.qo c o.dst v k) (s:=binOp op t (.agg cs.toArray) (.agg es.toArray)) rfl ?_
   (λw v hv=>by simp[execOp,ho,ex,ey,run_eqGuard_agg w op t x y _ _ hgd,hv])
  cases op<;>simp only[Ig]at h
  case eql=>exact Plain.bool h (λw=>by simp only[binOp,Sem.run_bind,ze,Result.andThen_ok,Sem.run_pure])
  case neq=>exact Plain.bool h (λw=>by simp only[binOp,Sem.run_bind,ze,Result.andThen_ok,Sem.run_pure])
  all_goals simp at h
end
end Go.Kz
namespace Go.Kz
open Go.MapKept
variable {R:Type}
theorem HC{t:Ty}(hk:jU t=true){d e:t.den}(h:jX t d e=true):d=e:=by
 cases t<;>simp[jU]at hk<;>simpa[jX]using h
theorem z5p:{t:Ty}->yQ t=true->(∀n u,t≠.arr n u)->{d e:t.den}->P4 t d e=true->d=e
 |.unit,_,_,_,_,_=>rfl
 |.pair a b,ht,_,(x,u),(y,v),h=>by
  simp only[yQ,zA]at ht;simp only[P4,zA]at h;have h1:=HC ht.1 h.1;subst h1
  cases b with
  |arr n t=>
   simp only[P4]at h;have:∀(l m:List t.den),kY (jX t) l m=true->l=m:=by
    intro l
    induction l with
    |nil=>grind[kY]
    |cons p l ih=>
     intro m hm
     cases m with
     |nil=>grind[kY]
     |cons q m=>
      grind[kY,HC,yQ]
   grind
  |pair c d=>rw[z5p ht.2 (by grind) h.2]
  |unit=>rfl
  |int _=>grind[yQ]
  |bool=>grind[yQ]
  |str=>grind[yQ]
  |sl _ _=>grind[yQ]
  |ptr _=>grind[yQ]
  |fn _ _=>grind[yQ]
  |tree _=>grind[yQ]
  |mp _=>grind[yQ]
 |.arr n t,_,hn,_,_,_=>absurd rfl (hn n t)
 |.int _,ht,_,_,_,_=>by grind[yQ]
 |.bool,ht,_,_,_,_=>by grind[yQ]
 |.str,ht,_,_,_,_=>by grind[yQ]
 |.sl _ _,ht,_,_,_,_=>by grind[yQ]
 |.ptr _,ht,_,_,_,_=>by grind[yQ]
 |.fn _ _,ht,_,_,_,_=>by grind[yQ]
 |.tree _,ht,_,_,_,_=>by grind[yQ]
 |.mp _,ht,_,_,_,_=>by grind[yQ]
theorem AF{P:Program}{w w':World}{g:z8}(em:Bool)(n:Nat){xs:Array Value}:{t:Ty}->{fs:List Field}->{off:Nat}->{d:t.den}->{cs:List Value}->yQ t=true->vJ P t fs off->
  zN w g none t d cs->xs.toList.drop off=cs->∀f∈fs,∃a,(part f.type xs f.offset).run P w'=.ok a w'/\(Instr.checkKey em (n+1) f.type a).run P w'=.ok () w'
 |.unit,[],_,_,_,_,_,_,_=>by simp
 |.unit,_::_,_,_,_,_,hf,_,_=>by grind[vJ]
 |.pair _ _,[],_,_,_,_,hf,_,_=>by grind
 |.pair a b,f::fs,off,(x,u),cs,ht,hf,h,hx=>by
  simp only[yQ,zA]at ht;simp only[vJ]at hf;obtain⟨c1,c2,rfl,h1,h2⟩:=h;have hk:=ht.1;have qG:a.size=1:=by cases a<;>simp[jU]at hk<;>rfl
  have hl:=h1.len;rw[qG]at hl;obtain⟨p,rfl⟩:=Z28.1 hl;have wx:a.sk.isAgg=false:=by cases a<;>simp[jU]at hk<;>rfl
  have hik:=ZC hk h1;simp only[jh,wx,Z2a,TC,Z2l]at hik;have qu:=JI hk hf.2.1;have p8:P.plainKey f.type=true:=by
   unfold Program.plainKey;rw[qu];cases a<;>simp[jU]at hk<;>rfl
  have zbx:xs[off]? = some p:=by
   have:(xs.toList.drop off)[0]? = some p:=by grind
   grind
  have hxt:xs.toList.drop (off+a.size)=c2:=by
   rw[qG,<-TF,hx];rfl
  intro f' K7;rcases pF.1 K7 with rfl|K7
  ·simp_all[run_part_plain,run_checkKey]
  ·exact AF em n ht.2 hf.2.2 h2 hxt f' K7
 |.int _,_,_,_,_,ht,_,_,_=>by grind[yQ]
 |.bool,_,_,_,_,ht,_,_,_=>by grind[yQ]
 |.str,_,_,_,_,ht,_,_,_=>by grind[yQ]
 |.arr _ _,_,_,_,_,_,hf,_,_=>by grind[vJ]
 |.sl _ _,_,_,_,_,ht,_,_,_=>by grind[yQ]
 |.ptr _,_,_,_,_,ht,_,_,_=>by grind[yQ]
 |.fn _ _,_,_,_,_,ht,_,_,_=>by grind[yQ]
 |.tree _,_,_,_,_,ht,_,_,_=>by grind[yQ]
 |.mp _,_,_,_,_,ht,_,_,_=>by grind[yQ]
theorem Sx{w:World}{g:z8}{t:Ty}{d:t.den}{cs es:List Value}(hk:jU t=true)(h:zN w g none t d cs)(h':zN w g none t d es):cs=es:=by
 cases t<;>simp[jU]at hk
 ·obtain⟨rfl,_⟩:=h;obtain⟨rfl,_⟩:=h';rfl
 ·cases h;cases h';rfl
 ·obtain⟨s,rfl,hs,_⟩:=h;obtain⟨s',rfl,Nc,_⟩:=h';obtain⟨⟨l⟩⟩:=s;obtain⟨⟨l'⟩⟩:=s'
  grind
theorem z2p{w:World}{g:z8}{t:Ty}{d:t.den}{cs:List Value}(hk:jU t=true)(h:zN w g none t d cs):∀v∈cs,∀n,Instr.sameBits n v v=true:=by
 have hl:=h.len;have qG:t.size=1:=by cases t<;>simp[jU]at hk<;>rfl
 rw[qG]at hl;obtain⟨p,rfl⟩:=Z28.1 hl;have wx:t.sk.isAgg=false:=by cases t<;>simp[jU]at hk<;>rfl
 have hik:=ZC hk h
 grind[jh,sameBits_self]
theorem B2{w:World}{g:z8}:{t:Ty}->{fs:List Field}->{P:Program}->{off:Nat}->{d:t.den}->{cs es:List Value}->yQ t=true->vJ P t fs off->zN w g none t d cs->zN w g none t d es->cs=es/\∀v∈cs,∀n,Instr.sameBits n v v=true
 |.unit,_,_,_,_,cs,es,_,_,h,h'=>by cases h;cases h';grind
 |.pair a b,[],_,_,_,_,_,_,hf,_,_=>by grind[vJ]
 |.pair a b,f::fs,P,off,(x,u),cs,es,ht,hf,h,h'=>by
  simp only[yQ,zA]at ht;simp only[vJ]at hf;obtain⟨c1,c2,rfl,h1,h2⟩:=h;obtain⟨e1,e2,rfl,h3,h4⟩:=h';obtain⟨i1,i2⟩:=B2 ht.2 hf.2.2 h2 h4;refine⟨by rw[Sx ht.1 h1 h3,i1],λv hv n=>?_⟩;rcases Gx.1 hv with hv|hv
  ·exact z2p ht.1 h1 v hv n
  grind
 |.int _,_,_,_,_,_,_,ht,_,_,_=>by grind[yQ]
 |.bool,_,_,_,_,_,_,ht,_,_,_=>by grind[yQ]
 |.str,_,_,_,_,_,_,ht,_,_,_=>by grind[yQ]
 |.arr _ _,_,_,_,_,_,_,_,hf,_,_=>by grind[vJ]
 |.sl _ _,_,_,_,_,_,_,ht,_,_,_=>by grind[yQ]
 |.ptr _,_,_,_,_,_,_,ht,_,_,_=>by grind[yQ]
 |.fn _ _,_,_,_,_,_,_,ht,_,_,_=>by grind[yQ]
 |.tree _,_,_,_,_,_,_,ht,_,_,_=>by grind[yQ]
 |.mp _,_,_,_,_,_,_,ht,_,_,_=>by grind[yQ]
theorem F7{P:Program}{w:World}{g:z8}{T:TypeId}{ta tb:Ty}{d:(Ty.pair ta tb).den}{cs:List Value}(wu:yQ (.pair ta tb)=true)(hT:qv P (.pair ta tb) T)(h:zN w g none (.pair ta tb) d cs)(em:Bool)(w':World):
  (Instr.checkKey em 10000 T (.agg cs.toArray)).run P w'=.ok () w':=by
 simp only[qv]at hT;obtain⟨⟨fs,hu,EV⟩,_⟩:=hT;have each:=AF (w':=w') em 9998 (xs:=cs.toArray) wu EV h (by simp);show(Instr.checkKey em (9999+1) T (.agg cs.toArray)).run P w'=.ok () w';rw[Instr.checkKey];simp only[Sem.run_bind,run_underlying hu,Result.andThen_ok];rw[<-Array.forIn_toList];generalize fs.toList=L at each;clear EV
 induction L with
 |nil=>simp
 |cons f L ih=>
  obtain⟨a,p1,p2⟩:=each f (by simp);simp_all
def N4(P:Program)(w:World)(g:z8)(kt vt:Ty)(KT:TypeId)(k:kt.den)(kv:Value)(es:List MapEntry)(m:List (kt.den×vt.den)):Prop:=
 ((∀w',(Instr.findKey KT kv es).run P w'=.ok none w')/\vL (JL kt) m k=none/\
   ∀d cs b,zN w g none vt d cs->yI w g kt vt (es++[⟨kv,jh vt.sk.isAgg cs,b⟩]) (vQ (JL kt) m k d))\/
  ∃j e v cs,(∀w',(Instr.findKey KT kv es).run P w'=.ok (some (j,e.val)) w')/\es[j]? = some e/\e.key=kv/\(∀w',(Instr.keyThatStays kv kv).run P w'=.ok kv w')/\(vL (JL kt) m k=some v/\gy (JL kt) m k=j)/\zN w g none vt v cs/\e.val=jh vt.sk.isAgg cs/\
   ∀d cs,zN w g none vt d cs->yI w g kt vt (es.modify j λe=>{ e with key:=kv,val:=jh vt.sk.isAgg cs }) (vQ (JL kt) m k d)
theorem I4{P:Program}{w:World}{g:z8}{ta tb vt:Ty}{KT:TypeId}(wu:yQ (.pair ta tb)=true)(hT:qv P (.pair ta tb) KT)(hs:P.stoodInHeld KT=false)(Zq:∀fs, P.underlying KT=some (.struct fs) -> ∀f ∈ fs.toList, f.name ≠ "_")
  {k:(Ty.pair ta tb).den}{xU:List Value} (uL:zN w g none (.pair ta tb) k xU):{es:List MapEntry}->{m:List ((Ty.pair ta tb).den×vt.den)}->yI w g (.pair ta tb) vt es m->
  ((∀w' i,(Instr.findAsking KT (.agg xU.toArray) es i).run P w'=.ok none w')/\vL (P4 (.pair ta tb)) m k=none/\
   ∀d cs b,zN w g none vt d cs->yI w g (.pair ta tb) vt (es++[⟨.agg xU.toArray,jh vt.sk.isAgg cs,b⟩]) (vQ (P4 (.pair ta tb)) m k d))\/
  ∃j e v cs,(∀w' i,(Instr.findAsking KT (.agg xU.toArray) es i).run P w'=.ok (some (i+j,e.val)) w')/\es[j]? = some e/\e.key=.agg xU.toArray/\(vL (P4 (.pair ta tb)) m k=some v/\gy (P4 (.pair ta tb)) m k=j)/\zN w g none vt v cs/\e.val=jh vt.sk.isAgg cs/\
   ∀d cs,zN w g none vt d cs->yI w g (.pair ta tb) vt (es.modify j λe=>{ e with key:=.agg xU.toArray,val:=jh vt.sk.isAgg cs }) (vQ (P4 (.pair ta tb)) m k d)
 |[],[],_=>.inl ⟨λw' i=>by simp[Instr.findAsking],rfl,λd cs b h=>⟨⟨xU,uL,rfl⟩,⟨cs,h,rfl⟩,trivial⟩⟩
 |[],_::_,h=>h.elim
 |_::_,[],h=>h.elim
 |e::es,(k',v')::m,⟨⟨c1,h1,e1⟩,⟨c2,h2,e2⟩,h⟩=>by
  have e1:e.key=.agg c1.toArray:=e1;have hq:=GA wu hT hs Zq uL h1;rw[<-e1]at hq
  cases hc:P4 (.pair ta tb) k k' with
  |true=>
   right;rw[hc]at hq;have hkk:k=k':=z5p wu (by grind) hc;subst hkk;have hT':=hT;simp only[qv]at hT';obtain⟨⟨fs,_,EV⟩,_⟩:=hT';have pe:=(B2 wu EV uL h1).1;subst pe;refine⟨0,e,v',c2,λw' i=>by simp[Instr.findAsking,hq],rfl,e1,by simp[vL,gy,hc],h2,e2,λd cs hd=>?_⟩;simp only[vQ,hc,zB,Z53]
   exact⟨⟨xU,h1,rfl⟩,⟨cs,hd,rfl⟩,h⟩
  |false=>
   rw[hc]at hq;rcases I4 wu hT hs Zq uL h with⟨f1,f2,f3⟩|⟨j,e',v,cs,f1,f2,f3,f4,f5,f6,f7⟩
   ·left;refine⟨λw' i=>by simp[Instr.findAsking,hq,f1],by grind[vL],λd cs b hd=>?_⟩;simp only[vQ,hc,zP,QI];exact⟨⟨c1,h1,e1⟩,⟨c2,h2,e2⟩,f3 d cs b hd⟩
   ·right;refine⟨j+1,e',v,cs,λw' i=>by simp[Instr.findAsking,hq,f1,TD,Z49 1 j],by grind,f3,by grind[vL,gy],f5,f6,λd cs hd=>?_⟩;simp only[vQ,hc,zP,Z54];exact⟨⟨c1,h1,e1⟩,⟨c2,h2,e2⟩,f7 d cs hd⟩
theorem zb1{t:Ty}(h:jU t=true):JL t=jX t:=by simp[JL,h]
theorem z2q{a b:Ty}:JL (.pair a b)=P4 (.pair a b):=rfl
theorem LU{P:Program}{w:World}{g:z8}{kt vt:Ty}{KT:TypeId}(hk:kTy kt=true)(Tx:Rv P kt KT){k:kt.den}{xU:List Value}(uL:zN w g none kt k xU){es:List MapEntry}{m:List (kt.den×vt.den)}(hm:yI w g kt vt es m):
  N4 P w g kt vt KT k (jh kt.sk.isAgg xU) es m/\∀em w',(Instr.checkKey em 10000 KT (jh kt.sk.isAgg xU)).run P w'=.ok () w':=by
 rcases Ci hk with hk|⟨a,b,rfl,wu⟩
 ·have hkd:=JI hk Tx.1;have hik:=ZC hk uL;refine⟨?_,λem w'=>run_checkKey (P:=P) (w:=w') hkd hik em 9999⟩;unfold N4;rw[zb1 hk];rcases O4 hk uL hm with⟨f1,f2,f3⟩|⟨j,e,v,cs,f1,f2,f3,f4,f5,f6,f7⟩
  all_goals grind[run_findKey,run_keyThatStays]
 ·obtain⟨hT,h2⟩:=Tx;obtain⟨hs,Zq⟩:=h2 rfl;refine⟨?_,λem w'=>F7 wu hT uL em w'⟩;have hT':=hT;simp only[qv]at hT';obtain⟨⟨fs,hu,EV⟩,_⟩:=hT';have zoz:(match P.underlying KT with|some (.array _ _)|some (.struct _)=>true|_=>false)=true:=by rw[hu]
  have Qs:jh (Ty.pair a b).sk.isAgg xU=.agg xU.toArray:=rfl;unfold N4;rw[Qs,z2q];rcases I4 wu hT hs Zq uL hm with⟨f1,f2,f3⟩|⟨j,e,v,cs,f1,f2,f3,f4,f5,f6,f7⟩
  ·grind[run_findKey_eq]
  ·refine .inr ⟨j,e,v,cs,λw'=>(run_findKey_eq w' zoz _ _).trans (by grind),f2,f3,λw'=>?_,f4,f5,f6,f7⟩;have hb:=(B2 wu EV uL uL).2;have hsb:Instr.sameBits 10000 (.agg xU.toArray) (.agg xU.toArray)=true:=by
    show Instr.sameBits (9999+1) (.agg xU.toArray) (.agg xU.toArray)=true;simp only[Instr.sameBits,beq_self_eq_true,Z2w,Z2m];intro p hp;have h2:=List.of_mem_zip hp;have h3:p.1=p.2:=by
     obtain⟨i,hi,rfl⟩:=Gz.1 hp;simp
    grind
   simp[Instr.keyThatStays,hsb]
section
variable {P:Program}{o:Oper}{a:Act}{w:World}{K:Act->World->Prop}{Q:Exit->Act->World->Prop}{c:Ctx}{J:St}{g:z8}{k:St->Option R}{r:R}{base:Nat}{mo:Bool}
theorem S4(HT:C9 P c.mt){t:TypeId}{x i:Operand}{ok:Bool}(ho:o.op=.lookup t x i ok)(zj:zU c.ntmps g w a J)(h:yE c J base o k=some r):wk P o a w g J c k r:=by
 simp only[yE,ho]at h;split at h
 ·rename_i av bv hx hi;obtain⟨id,kt,vt,m,rfl,Ph,zp,hkt,hvt,h⟩:=ZX h;obtain⟨KT,E,qu,Tx,hvT,iz,z,hiz,hz,hzv⟩:=HT _ _ _ Ph
  cases hb:bv.val with
  |false=>grind
  |true=>
   rw[hb]at h;simp only[zB]at h;obtain⟨key,xU,h,uL,Mu⟩:=gh zj (Wr hkt) hb hi h;obtain⟨es,ck,hblk,zS,_,_,zF,_⟩:=zj.heap.z6 _ _ zp;have hv:=Zc (qD zj hx).1 zp;have qk:g.qp id<w.heap.size:=zj.heap.tags _ (by grind);obtain⟨FW,Gl⟩:=LU hkt Tx uL zF;split at h
   ·rename_i zd hzd;obtain⟨i0,z0,hi0,hs0,_,Cn,D6,_⟩:=hvT.info.info;have hzz:z0=z:=by grind
    subst hzz;have HL:=vH (w:=w) (g:=g) (kU hvt) hzd;rw[<-D6]at HL;have z2y:∀w',(zeroValue E).run P w'=.ok z0 w':=λw'=>by simp[zeroValue,typeInfo,hiz,hz]
    have found:∃(vv:Value)(cs:List Value),zN w g none vt ((vL (JL kt) m key).getD zd) cs/\vv=jh vt.sk.isAgg cs/\
      ∀w',vp w w'->(Instr.lookup t (.map (some (g.qp id))) (jh kt.sk.isAgg xU) ok).run P w'=.ok (if ok then .tuple #[vv,.bool (vL (JL kt) m key).isSome] else vv) w':=by
     rcases FW with⟨f1,f2,_⟩|⟨j,e,v,cs,f1,f2,f3,_,f4,f5,f6,_⟩
     ·refine⟨z0,z0.cells.toList,by grind,hzv,λw' wx=>?_⟩;have jt:w'.heap[g.qp id]? = some (.map es ck):=by rw[wx _ qk];exact hblk
      have hg:(getObj (g.qp id)).run P w'=.ok (.map es ck) w':=by simp[getObj,Sem.run,jt]
      have Hr:=Gl es.isEmpty w';have hfk:=f1 w';simp[Instr.lookup,run_underlying qu,hg,Hr,hfk,z2y,f2]
     ·refine⟨e.val,cs,by grind,f6,λw' wx=>?_⟩;have jt:w'.heap[g.qp id]? = some (.map es ck):=by rw[wx _ qk];exact hblk
      have hg:(getObj (g.qp id)).run P w'=.ok (.map es ck) w':=by simp[getObj,Sem.run,jt]
      have Hr:=Gl es.isEmpty w';have hfk:=f1 w';simp[Instr.lookup,run_underlying qu,hg,Hr,hfk,f4.1]
    obtain⟨vv,cs,hvr,gi,ze⟩:=found;have pT:∀w',N6 o w w'->(execOp a.eval o).run P w'=.ok (.value (if ok then .tuple #[vv,.bool (vL (JL kt) m key).isSome] else vv)) w':=λw' wx=>by
     have:=ze w' (wx (by simp[isP,ho]));simp only[execOp,ho,hv,Mu];simp[this]
    cases ok with
    |true=>
     simp only[zB]at h;refine Zf (pT) ?_ (λm _=>by simp[z7.ids]) h
     grind[zm,qx,W9,kK]
    |false=>
     simp only[zP]at h;exact Zf pT (by grind[W9]) (λm _=>by simp[z7.ids]) h
   grind
 grind
theorem N9{kt vt:Ty}{KT E:TypeId}{t:TypeId}{b:Nat}{es:Array MapEntry}{ck:Nat}{m:List (kt.den×vt.den)}{key:kt.den}{xU:List Value}{d:vt.den}{dcs:List Value}(qu:P.underlying t=some (.map KT E))(hkt:kTy kt=true)(Tx:Rv P kt KT)
  (hblk:w.heap[b]? = some (.map es ck)) (zF:yI w g kt vt es.toList m) (AV:ck=es.size) (p7:kG es.toList) (uL:zN w g none kt key xU) (hdr:zN w g none vt d dcs) :
  ∃Bt IK,(Instr.mapUpdate t (.map (some b)) (jh kt.sk.isAgg xU) (jh vt.sk.isAgg dcs)).run P w=.ok () { w with heap:=w.heap.setIfInBounds b (.map Bt IK) }/\yI w g kt vt Bt.toList (vQ (JL kt) m key d)/\IK=Bt.size/\kG Bt.toList:=by
 obtain⟨FW,Gl⟩:=LU hkt Tx uL zF;have hg:(getObj b).run P w=.ok (.map es ck) w:=by simp[getObj,Sem.run,hblk]
 have wE:∀ob,(setObj b ob).run P w=.ok () { w with heap:=w.heap.setIfInBounds b ob }:=λob=>by simp[setObj,Sem.run,hblk]
 have Hr:=Gl false w;rcases FW with⟨f1,f2,f3⟩|⟨j,e,v,cs,f1,f2,f3,hks,f4,f5,f6,f7⟩
 ·have hfk:=f1 w;refine⟨es.push ⟨jh kt.sk.isAgg xU,jh vt.sk.isAgg dcs,ck⟩,ck+1,?_,?_,by grind,?_⟩
  all_goals simp_all[Instr.mapUpdate,run_underlying,kG,Z2n]
 ·have hfk:=f1 w;have hks:=hks w;have hej:es[j]? = some e:=by grind
  refine⟨es.modify j λe=>{ e with key:=jh kt.sk.isAgg xU,val:=jh vt.sk.isAgg dcs },ck,?_,?_,by grind,?_⟩
  ·simp_all[Instr.mapUpdate,run_underlying]
  ·grind
  ·unfold kG at p7⊢;rw[Z3y,Z55,<-p7];apply Z2o
   grind
theorem E1(HT:C9 P c.mt){t:TypeId}{x i y:Operand}{id:Nat}{p:Path}{ep:Nat}{bv vv:z7}(ho:o.op=.mapUpdate t x i y)(zj:zU c.ntmps g w a J)(uM:o.dst=none)(hx:ev J x=some (.nv false id p ep))(hi:ev J i=some bv)(hy:ev J y=some vv)
  (Ph:c.mt t=some (.str,.bool)) (h:M1 J id p ep bv vv k=some r) (hK:vY c.ntmps k r g w J base true K):o.wp P a w K Q:=by
 obtain⟨KT,E,qu,Tx,hvT,_⟩:=HT _ _ _ Ph;unfold M1 at h;split at h
 ·rename_i j l e i1 zp
  cases hb:(Nat.beq i1 ep&&bv.val&&vv.val) with
  |false=>rw[hb]at h;simp at h
  |true=>
   rw[hb]at h;simp only[zB,WZ]at h;simp only[zA,Q7]at hb;obtain⟨m,hm,h⟩:=h;obtain⟨h0,hi0,hmj,qk⟩:=jr hm;obtain⟨zpe,h⟩:=qB h
   cases m with
   |none=>simp at zpe
   |some es=>
    obtain⟨key,xU,h,uL,Mu⟩:=gh zj rfl hb.1.2 hi h;obtain⟨d,dcs,h,hdr,z4f⟩:=gh zj rfl hb.2 hy h;have zF:zN w g (some (id,[])) (.sl true (.mp true)) l [g.sv id []]:=zj.heap.z6 id _ zp;obtain⟨ad,cap,pe,yZ,K5,Vn,h3⟩:=zF;rcases h3 with⟨_,hl,_⟩|⟨b0,off,cc,ee,rfl,zS,zZ,qG,ja⟩
    ·rw[hl]at qk;simp at qk;omega
    have ja:∀(i:Nat)(h:i<l.length),zN w g (some (id,[.idx i])) (.mp true) (l.get ⟨i,h⟩) (qS cc.toList (off+i) 1):=λi h=>by have:=ja i h;simpa[Ty.size]using this
    have qG:off+cap<=cc.size:=by simpa[Ty.size]using qG
    have hjj:((j.toNat:Nat):Int)=j:=Z20 h0;have hje:=ja _ hi0;rw[hmj,hjj]at hje;obtain⟨hjs,b,es0,ck,hbv,hbt,hblk,K8,AV,p7⟩:=hje;have hv:a.eval x=.map (some b):=by
     have ex:=(qD zj hx).1;simp only[zm]at ex;obtain⟨_,⟨v,rfl,_,gi⟩,jl⟩:=ex;have:=((gi _ _ _ _ _ zp).2 hb.1.1).1 rfl;rw[jl];exact this.trans hbv
    obtain⟨Bt,IK,ze,K2,z4j,AZ⟩:=N9 (t:=t) (b:=b) qu rfl Tx hblk K8.to AV p7 uL hdr;obtain⟨h1,h2⟩:=heap_set (o':=.map Bt IK) hblk;have Ni:∀b',g.tag b'≠.row id [.idx j]->({ w with heap:=w.heap.setIfInBounds b (.map Bt IK) }:World).heap[b']? = w.heap[b']? := λb' jt=>h2 b' (λhe=>jt (by rw[he];exact hbt))
    have qY:zT w g { w with heap:=w.heap.setIfInBounds b (.map Bt IK) } g:=⟨λb' jt=>⟨jt,Ni b' (by rw[jt];simp)⟩⟩;have hob:zn { w with heap:=w.heap.setIfInBounds b (.map Bt IK) } g (J.setObj id (.nest (.mp true) (qN l j (some (vQ (JL .str) ((some es).getD []) key d))) e i1 none)).z6 id (.nest (.mp true) (qN l j (some (vQ (JL .str) ((some es).getD []) key d))) e i1 none):=by
     have hse:=hjs;rw[<-hjj]at hse;refine NC (w:=w) (g:=g) (e:=ee) (x:=g.sv id [.idx j]) yZ K5 Vn qG ja h0 qk (λq _=>rfl) zS ?_ (λi' b' wm jt=>⟨jt,Ni b' (by rw[jt];simp;exact wm)⟩) rfl ⟨b,Bt,IK,hbv,hbt,h1,QL.of K2,z4j,AZ⟩;rw[CK (by rw[vl];omega) hjs];rw[Ni b0 (by rw[zS];simp)];simpa using zZ
    have hkp:qq g g id (J.z6 id) ((J.setObj id (.nest (.mp true) (qN l j (some (vQ (JL .str) ((some es).getD []) key d))) e i1 none)).z6 id):=by
     simp only[St.setObj,zO];exact .inr (.inr (.inr (.inr ⟨_,l,_,e,e,i1,i1,none,none,zp,rfl,yH _,yH _,λ_=>rfl,λ_ _=>rfl⟩)))
    have kI:∀q,q≠id->xC w g { w with heap:=w.heap.setIfInBounds b (.map Bt IK) } g q:=λq hq=>⟨⟨λq=>rfl,λp b' jt=>⟨jt,Ni b' (by rw[show g.tag b'=.row q p by simpa using jt];simp only[ne_eq,Tag.row.injEq,not_and];exact λh=>absurd h hq)⟩⟩,rfl,λjt=>⟨jt,Ni _ (by rw[jt];simp)⟩⟩
    have Bn:∀q,q≠id->(J.setObj id (.nest (.mp true) (qN l j (some (vQ (JL .str) ((some es).getD []) key d))) e i1 none)).z6 q=J.z6 q:=λq hq=>by simp only[St.setObj];exact zf _ _ hq
    refine wp_skip (J:=J) uM ?_ (zj.step (m:=id) (J':=J.setObj id (.nest (.mp true) (qN l j (some (vQ (JL .str) ((some es).getD []) key d))) e i1 none)) qY rfl (.inr hkp) (λq hq=>by rw[Bn q hq];exact qq.same (kI q hq)) (λq y hy=>?_) (λb' jt=>by simpa using zj.heap.tags b' jt))
     ⟨rfl,rfl,rfl,yH _,by simp,λb' _ jt=>⟨Ni b' (by rcases jt with h|h<;>rw[h]<;>simp),rfl⟩⟩ (λn _ vc=>?_) rfl h (λh=>Bool.noConfusion h) hK
    ·simp only[execOp,ho,hv,Mu,z4f];simp[ze]
    ·by_cases hq:q=id
     ·subst hq;simp only[St.setObj,zO,zI]at hy;subst hy;exact .inl hob
     ·rw[Bn q hq]at hy;exact .inr ⟨hy,kI q hq⟩
    ·refine zJ.pg (g:=g) (λb=>.inl rfl) ?_ (by simp) vc;intro heq;subst heq;have:=vc.z6;rw[zp]at this;simp at this
 ·simp at h
theorem zb7{t:Option (Ty×Ty)}(h:zb8 t=true):t=some (.str,.bool):=by
 unfold zb8 at h;split at h
 ·rfl
 ·simp at h
theorem E3(HT:C9 P c.mt){t:TypeId}{x i y:Operand}(ho:o.op=.mapUpdate t x i y)(zj:zU c.ntmps g w a J)(h:yE c J base o k=some r)(hK:vY c.ntmps k r g w J base true K):o.wp P a w K Q:=by
 simp only[yE,ho]at h;split at h
 ·rename_i id p ep bv vv hx hi hy uM
  cases hb:zb8 (c.mt t) with
  |false=>rw[hb]at h;simp at h
  |true=>rw[hb]at h;exact E1 HT ho zj uM hx hi hy (zb7 hb) h hK
 ·rename_i av bv vv _ hx hi hy uM;obtain⟨id,kt,vt,m,rfl,Ph,zp,hkt,hvt,h⟩:=ZX h;obtain⟨KT,E,qu,Tx,hvT,_⟩:=HT _ _ _ Ph
  cases hb:(bv.val&&vv.val) with
  |false=>rw[hb]at h;simp at h
  |true=>
   rw[hb]at h;simp only[zB]at h;simp only[zA]at hb;obtain⟨key,xU,h,uL,Mu⟩:=gh zj (Wr hkt) hb.1 hi h;obtain⟨d,dcs,h,hdr,z4f⟩:=gh zj hvt hb.2 hy h;obtain⟨es,ck,hblk,zS,_,_,zF,AV,p7⟩:=zj.heap.z6 _ _ zp;have hv:=Zc (qD zj hx).1 zp;obtain⟨Bt,IK,ze,K2,z4j,AZ⟩:=N9 (t:=t) qu hkt Tx hblk zF AV p7 uL hdr;obtain⟨qO,qf,vO⟩:=A3 (ck:=IK) zj zp K2 z4j AZ;refine wp_skip uM ?_ qO qf (λn _ hn=>vO n hn) rfl h (λh=>Bool.noConfusion h) hK;simp only[execOp,ho,hv,Mu,z4f];simp[ze]
 ·simp at h
theorem Cd{I Z:Type}{eq:I->I->Bool}:{m:List (I×Z)}->{k:I}->vL eq m k=none->gy eq m k=m.length
 |[],_,_=>rfl
 |(a,b)::m,k,h=>by
  simp only[vL,gy]at h⊢
  cases hc:eq k a with
  |true=>rw[hc]at h;simp at h
  |false=>rw[hc]at h;simp only[zP]at h⊢;rw[Cd h];rfl
theorem NB{I Z:Type}{eq:I->I->Bool}(k:I):(m:List (I×Z))->gy eq m k<=m.length
 |[]=>yH _
 |(a,b)::m=>by
  have:=NB k m (eq:=eq);simp only[gy,BF];cases eq k a
  ·simp only[zP];omega
  ·simp only[zB];omega
theorem yI.set{w:World}{g:z8}{kt vt:Ty}{d:vt.den}{cs:List Value}(hd:zN w g none vt d cs):{es:List MapEntry}->{m:List (kt.den×vt.den)}->{j:Nat}->yI w g kt vt es m->yI w g kt vt (es.modify j λe=>{ e with val:=jh vt.sk.isAgg cs }) (A0 m j d)
 |[],[],_,_=>by simp[A0,yI]
 |e::_,(k,v)::_,0,h=>by
  simp only[A0,Z53]
  exact⟨h.1,⟨cs,hd,rfl⟩,h.2.2⟩
 |e::_,(k,v)::_,j+1,h=>by
  simp only[A0,Z54]
  exact⟨h.1,h.2.1,yI.set hd h.2.2⟩
 |[],_::_,_,h=>h.elim
 |_::_,[],_,h=>h.elim
theorem Hw(HT:C9 P c.mt){t:TypeId}{x i:Operand}(ho:o.op=.mapEntry t x i)(zj:zU c.ntmps g w a J)(h:yE c J base o k=some r)(hK:vY c.ntmps k r g w J base true K):o.wp P a w K Q:=by
 simp only[yE,ho]at h;split at h
 ·rename_i av bv hx hi;obtain⟨id,kt,vt,m,rfl,Ph,zp,hkt,hvt,h⟩:=ZX h;obtain⟨KT,E,qu,Tx,hvT,iz,z,hiz,hz,hzv⟩:=HT _ _ _ Ph
  cases hb:bv.val with
  |false=>rw[hb]at h;simp at h
  |true=>
   rw[hb]at h;simp only[zB]at h;obtain⟨key,xU,h,uL,Mu⟩:=gh zj (Wr hkt) hb hi h;obtain⟨es,ck,hblk,zS,_,_,zF,AV,p7⟩:=zj.heap.z6 _ _ zp;have hv:=Zc (qD zj hx).1 zp;obtain⟨FW,Gl⟩:=LU hkt Tx uL zF;split at h
   ·rename_i zd hzd;obtain⟨wi,h⟩:=qB h;have wi:=DA wi;obtain⟨i0,z0,hi0,hs0,_,Cn,D6,_⟩:=hvT.info.info;have hzz:z0=z:=by rw[hiz]at hi0;cases hi0;rw[hz]at Cn;cases Cn;rfl
    subst hzz;have HL:=vH (w:=w) (g:=g) (kU hvt) hzd;rw[<-D6]at HL;have z2y:(zeroValue E).run P w=.ok z0 w:=by simp[zeroValue,typeInfo,hiz,hz]
    have hg:(getObj (g.qp id)).run P w=.ok (.map es ck) w:=by simp[getObj,Sem.run,hblk]
    have wE:∀ob,(setObj (g.qp id) ob).run P w=.ok () { w with heap:=w.heap.setIfInBounds (g.qp id) ob }:=λob=>by simp[setObj,Sem.run,hblk]
    have Hr:=Gl false w;have hlen:=zF.length;have zj4:es.size=m.length:=by rw[<-hlen,vl]
    have key:∃Bt IK vv cs,(Instr.mapEntry t (.map (some (g.qp id))) (jh kt.sk.isAgg xU)).run P w=.ok (.tuple #[vv,goInt (gy (JL kt) m key)]) { w with heap:=w.heap.setIfInBounds (g.qp id) (.map Bt IK) }/\
      yI w g kt vt Bt.toList (vQ (JL kt) m key ((vL (JL kt) m key).getD zd))/\IK=Bt.size/\kG Bt.toList/\zN w g none vt ((vL (JL kt) m key).getD zd) cs/\vv=jh vt.sk.isAgg cs:=by
     rcases FW with⟨f1,f2,f3⟩|⟨j,e,v,cs,f1,f2,f3,hks,f4,f5,f6,f7⟩
     ·have hfk:=f1 w;refine⟨es.push ⟨jh kt.sk.isAgg xU,z0,ck⟩,ck+1,z0,z0.cells.toList,?_,?_,by simp[AV],?_,by rw[f2];exact HL,hzv⟩
      ·rw[Cd f2,<-zj4,<-AV];simp[Instr.mapEntry,run_underlying qu,hg,Hr,hfk,wE,z2y]
      ·rw[Array.toList_push,f2];have:=f3 zd z0.cells.toList ck HL;rw[<-hzv]at this;exact this
      ·unfold kG at p7⊢;rw[Array.toList_push,TU,p7,WQ,AV];simp[Z2n]
     ·have hfk:=f1 w;have hks:=hks w;have hej:es[j]? = some e:=by rw[<-Z25];exact f2
      have zqw:e.born=j:=by
       unfold kG at p7;have h1:(es.toList.map (·.born))[j]? = some e.born:=by rw[Z2d,f2];rfl
       rw[p7]at h1;have hj:j<es.toList.length:=(Z32.1 f2).1;rw[Z3z hj]at h1;simpa using h1.symm
      refine⟨es.modify j λe=>{ e with key:=jh kt.sk.isAgg xU },ck,e.val,cs,?_,?_,by simp[AV],?_,by rw[f4.1];exact f5,f6⟩
      ·rw[show gy (JL kt) m key=e.born from f4.2.trans zqw.symm];simp[Instr.mapEntry,run_underlying qu,hg,Hr,hfk,wE,hej,f3,hks]
      ·have:=f7 v cs f5;rw[f4.1,Z3y];have e1:es.toList.modify j (λe=>{ e with key:=jh kt.sk.isAgg xU,val:=jh vt.sk.isAgg cs })=es.toList.modify j (λe=>{ e with key:=jh kt.sk.isAgg xU }):=by
        apply Z2o;intro q;simp only[Z56];split
        ·rename_i hq;subst hq;rw[f2];simp[f6]
        ·rfl
       rw[e1]at this;exact this
      ·unfold kG at p7⊢;rw[Z3y,Z55,<-p7];apply Z2o;intro i;simp only[Z2d,Z56];split
       ·cases es.toList[i]? <;>rfl
       ·simp
    obtain⟨Bt,IK,vv,cs,ze,K2,z4j,AZ,hvr,gi⟩:=key;obtain⟨qO,qf,vO⟩:=A3 (ck:=IK) zj zp K2 z4j AZ;refine ji (v:=.tuple #[vv,goInt (gy (JL kt) m key)]) ?_ qO qf (λn _ hn=>⟨vO n hn,by simp[z7.ids]⟩) rfl ?_ h (λh=>Bool.noConfusion h) hK
    ·simp only[execOp,ho,hv,Mu];simp[ze]
    ·simp only[zm];refine⟨[vv,goInt (gy (JL kt) m key)],rfl,?_⟩;simp only[qx];refine⟨vv,_,rfl,?_,_,_,rfl,?_,rfl⟩
     ·have qY:zT w g { w with heap:=w.heap.setIfInBounds (g.qp id) (.map Bt IK) } g:=qf.ro zj.heap.tags;exact W9 hvt (hvr.kept qY) gi
     ·have hle:gy (JL kt) m key<=m.length:=NB key m;unfold room at wi;refine jm ?_;simp only[IntKind.min,IntKind.max,IntKind.bits,IntKind.signed];simp;omega
   ·simp at h
 ·simp at h
theorem Be(HT:C9 P c.mt){t:TypeId}{x i y:Operand}(ho:o.op=.entryStore t x i y)(zj:zU c.ntmps g w a J)(h:yE c J base o k=some r)(hK:vY c.ntmps k r g w J base true K):o.wp P a w K Q:=by
 simp only[yE,ho]at h;split at h
 ·rename_i av ik p vv hx hi hy uM;obtain⟨id,kt,vt,m,rfl,Ph,zp,hkt,hvt,h⟩:=ZX h
  cases hb:vv.val with
  |false=>rw[hb]at h;simp at h
  |true=>
   rw[hb]at h;simp only[zB]at h;obtain⟨d,dcs,h,hdr,z4f⟩:=gh zj hvt hb hy h;obtain⟨hr,h⟩:=qB h;simp only[zA,ve]at hr;obtain⟨hr0,FK⟩:=hr;obtain⟨es,ck,hblk,zS,_,_,zF,AV,p7⟩:=zj.heap.z6 _ _ zp;have hv:=Zc (qD zj hx).1 zp;have hiv:=(jL (qD zj hi).1).1;have hg:(getObj (g.qp id)).run P w=.ok (.map es ck) w:=by simp[getObj,Sem.run,hblk]
   have wE:∀ob,(setObj (g.qp id) ob).run P w=.ok () { w with heap:=w.heap.setIfInBounds (g.qp id) ob }:=λob=>by simp[setObj,Sem.run,hblk]
   have zj4:es.size=m.length:=by rw[<-zF.length,vl]
   have hpz:p.toNat<es.size:=by rw[zj4];exact(Int.toNat_lt hr0).2 FK
   have hpi:(p.toNat:Int)=p:=Z20 hr0;have zqm:es.findIdx? (λe=>(e.born:Int) == p)=some p.toNat:=by
    rw[Array.findIdx?_eq_some_iff_getElem];unfold kG at p7;have hb:∀(j:Nat)(hj:j<es.size),es[j].born=j:=λj hj=>by
     have h1:(es.toList.map (·.born))[j]? = some es[j].born:=by rw[Z2d,Z25,Z3d hj];rfl
     rw[p7,Z3z (by simpa using hj)]at h1;simpa using h1.symm
    refine⟨hpz,?_,λj hj=>?_⟩
    ·rw[hb _ hpz,hpi];simp
    ·rw[hb _ (Nat.lt_trans hj hpz),<-hpi];simp;omega
   have K2:yI w g kt vt (es.modify p.toNat λe=>{ e with val:=jh vt.sk.isAgg dcs }).toList (A0 m p.toNat d):=by
    rw[Z3y];exact yI.set hdr zF
   have AZ:kG (es.modify p.toNat λe=>{ e with val:=jh vt.sk.isAgg dcs }).toList:=by
    unfold kG at p7⊢;rw[Z3y,Z55,<-p7];apply Z2o;intro i;simp only[Z2d,Z56];split
    ·cases es.toList[i]? <;>rfl
    ·simp
   obtain⟨qO,qf,vO⟩:=A3 (ck:=ck) zj zp K2 (by simp[AV]) AZ;refine wp_skip uM ?_ qO qf (λn _ hn=>vO n hn) rfl h (λh=>Bool.noConfusion h) hK;simp only[execOp,ho,hv,hiv,z4f];simp[Instr.entryStore,hg,asInt,asIntOf,zqm,wE]
 ·simp at h
end
end Go.Kz
namespace Go.Kz
open Go.ChangeMaps (setBlock)
open Go.MapKept
variable {R:Type}
theorem Mn{I:Type}{f:I->Option R}{l:List I}{r:R}(h:z6e f l=some r):∀a∈l,f a=some r:=by
 cases l with
 |nil=>simp
 |cons a l=>
  simp only[z6e]at h;split at h
  ·rename_i hall;intro b hb;rcases pF.1 hb with rfl|hb
   ·exact h
   ·rw[hall b hb];exact h
  ·simp at h
theorem A2{n:Nat}{i:Int}:i∈upto n↔0<=i/\i<n:=by
 induction n with
 |zero=>simp[upto]
 |succ n ih=>simp only[upto,Gx,ih,II];omega
theorem yI.get{w:World}{g:z8}{kt vt:Ty}:{es:List MapEntry}->{m:List (kt.den×vt.den)}->yI w g kt vt es m->{i:Nat}->{e:MapEntry}->es[i]? = some e->
  ∃k v,m[i]? = some (k,v)/\(∃cs,zN w g none kt k cs/\e.key=jh kt.sk.isAgg cs)/\∃cs,zN w g none vt v cs/\e.val=jh vt.sk.isAgg cs
 |[],_,_,i,e,he=>by simp at he
 |e0::es,(k,v)::m,⟨h1,h2,h⟩,i,e,he=>by
  cases i with
  |zero=>
   simp only[Z57,zI]at he;subst he
   exact⟨k,v,rfl,h1,h2⟩
  |succ i=>
   obtain⟨k',v',h3,h4⟩:=h.get (i:=i) (e:=e) (by simpa using he)
   exact⟨k',v',by simpa using h3,h4⟩
 |_::_,[],h,_,_,_=>h.elim
theorem kG.at{es:List MapEntry}(h:kG es){i:Nat}{e:MapEntry}(he:es[i]? = some e):e.born=i:=by
 unfold kG at h;have h1:(es.map (·.born))[i]? = some e.born:=by simp[he]
 have hi:i<es.length:=(Z32.1 he).1;rw[h,Z3z hi]at h1;simpa using h1.symm
section
variable {P:Program}{o:Oper}{a:Act}{w:World}{K:Act->World->Prop}{Q:Exit->Act->World->Prop}{c:Ctx}{J:St}{g:z8}{k:St->Option R}{r:R}{base:Nat}{mo:Bool}
theorem z1g(HT:C9 P c.mt){t:TypeId}{x:Operand}{av:z7}(ho:o.op=.range t x)(zj:zU c.ntmps g w a J)(hf:zJ g J base)(hx:ev J x=some av)(h:LO c J base o.dst t av k=some r)
  (hK:vY c.ntmps k r g w J base mo K):o.wp P a w K Q:=by
 unfold LO at h;split at h
 ·rename_i id mt Ph;split at h
  ·rename_i kt vt m zp;obtain⟨KT,E,qu,_⟩:=HT _ _ _ Ph;have hv:=Zc (qD zj hx).1 zp;obtain⟨es,ck,hblk,zS,_,_,zF,Hr,p7⟩:=zj.heap.z6 _ _ zp;have hl:=zF.length;have vg:id≠base:=λhe=>by subst he;have:=hf.z6;rw[zp]at this;simp at this
   have ze:=run_range_map (P:=P) w t KT E (g.qp id) es ck qu hblk;have hn:ck=m.length:=by rw[Hr,<-hl,vl]
   refine Y0 (ob:=.mapIter (some (g.qp id)) ck #[] ck) (obj:=.cell (uJ id (m.length:Int) (upto m.length) (-1))) (tg:=.box base) (v:=undef) (z:=undef) (v':=.pointer (some ⟨w.heap.size,0,none⟩)) zj hf (.inl rfl) ?_ rfl ?_ ?_ ?_ h hK
   ·simp only[execOp,ho,hv];simp[ze]
   ·refine(zn.iter rfl).2 ⟨id,m.length,g.qp id,#[],-1,?_,?_,by simp[qe],λc hc=>by omega,λAy X6 m' hm=>?_⟩
    ·congr 1;exact(List.filter_eq_self.2 (by simp)).symm
    ·have hb:(qe g w.heap.size base (.box base) undef undef).qp base=w.heap.size:=by simp[qe]
     rw[hb,hn];exact heap_alloc_new w _
    ·simp[qe,vg]
   ·intro y hy m' _ vc;simp only[Obj.cell.injEq]at hy;subst hy;simp only[uJ,z7.ids,DX,II];intro he;subst he;have:=vc.z6;rw[zp]at this;simp at this
   ·simp only[zm];refine⟨_,⟨_,rfl,rfl,λy _=>?_⟩,rfl⟩;refine⟨0,y.sk,by simp[Sk.off],?_⟩;simp[qe]
  ·simp at h
 ·simp at h
set_option maxHeartbeats 2000000 in
theorem zac{x:Operand}{av:z7}(ho:o.op=.next x false)(zj:zU c.ntmps g w a J)(hx:ev J x=some av)(h:z1y c J o.dst av k=some r)(hK:vY c.ntmps k r g w J base true K):o.wp P a w K Q:=by
 unfold z1y at h;split at h
 ·rename_i id;split at h
  ·rename_i Gk n left curx zp;split at h
   ·rename_i kt vt m hmo;obtain⟨hn,h⟩:=qB h;have hn:=DA hn;obtain⟨ex,ef⟩:=qD zj hx;simp only[zm]at ex;obtain⟨cs,⟨v,rfl,_,gi⟩,hv⟩:=ex;obtain⟨off,s,jO,rfl⟩:=gi _ zp;simp only[Sk.off,zI,pv]at jO;obtain⟨rfl,_⟩:=jO;have hv:a.eval x=.pointer (some ⟨g.qp id,0,none⟩):=hv;obtain⟨zv4,n',bm,seen,q1n,hit,hblk,zS,_,hbm⟩:=(zn.iter rfl).1 (zj.heap.z6 _ _ zp);simp only[uJ,z7.jS.injEq,z7.pr.injEq,z7.qV.injEq,z7.data.injEq,heq_eq_eq,Ur,Fy]at hit;obtain⟨rfl,rfl,rfl,rfl⟩:=hit;obtain⟨es,ck,D0,zq1,uL,hvr,zF,Hr,p7⟩:=zj.heap.z6 _ _ hmo;have hl:=zF.length;rw[vl]at hl;have HS:n'=es.size:=by have:((n':Nat):Int)=((m.length:Nat):Int):=hn;omega
    rw[<-hbm _ _ _ hmo]at D0;have hold:∀x∈es.toList,x.born<n':=by
     intro x hx;obtain⟨p,hp,rfl⟩:=Gz.1 hx;rw[p7.at (uX hp)];rw[vl]at hp;omega
    have inL:∀e,e∈(leftOf es seen).toList->es.toList[e.born]? = some e/\(e.born:Int)∈(upto n').filter (λi=>!seen.contains i.toNat):=by
     intro e he;obtain⟨h1,h2⟩:=mem_left he;obtain⟨p,hp,rfl⟩:=Gz.1 h1;have hb:=p7.at (uX hp);refine⟨by rw[hb];exact uX hp,Z58.2 ⟨A2.2 ⟨by omega,by have:=hold _ h1;omega⟩,?_⟩⟩;simp only[Z3f,h2,Z40]
    rcases run_next_at (P:=P) w o.type (g.qp id) bm n' n' seen es ck hblk D0 hold (yH _) with⟨hz,ze⟩|⟨e,he,w1,hw1,ze⟩
    ·have z3o:(upto n').filter (λi=>!seen.contains i.toNat)=[]:=by
      rw[Z59];intro j hj;obtain⟨h1,h2⟩:=Z58.1 hj;rw[A2]at h1;have hp:j.toNat<es.toList.length:=by rw[vl];omega
      have hb:=p7.at (uX hp);have h0:leftOf es seen=#[]:=Z4t hz;have hm:es.toList[j.toNat]∈leftOf es seen:=by
       unfold leftOf;rw[Array.mem_filter];refine⟨Array.mem_toList_iff.1 (gU hp),?_⟩;rw[hb];exact h2
      rw[h0]at hm;simp at hm
     have h':Xn ((upto n').filter (λi=>!seen.contains i.toNat)) (J.qo c o.dst (.jS (.pr (.data .bool false) .un)) k) _=some r:=h;rw[z3o]at h';simp only[Xn]at h';refine ji (g:=g) (g':=g) (J:=J) (J':=J) (base:=base) (v:=.tuple #[.bool false]) (w':=w) ?_ zj (Ext.refl w g) (λm _ vc=>⟨vc,by simp[z7.ids]⟩) rfl ?_ h' (λh=>Bool.noConfusion h) hK
     ·simp only[execOp,ho,hv];simp[ze]
     ·simp only[zm];refine⟨[.bool false],rfl,?_⟩;simp only[qx];exact⟨_,_,rfl,kK _,rfl⟩
    ·obtain⟨hei,ja⟩:=inL e he;have hf:∀(L:List Int)(D:Option R)(F:Int->List Int->Option R),(e.born:Int)∈L->Xn L D F=some r->F e.born (L.filter λi=>!decide (i=(e.born:Int)))=some r:=by
      intro L D F hL Wx
      cases L with
      |nil=>simp at hL
      |cons j l=>
       simp only[Xn]at Wx;exact Mn Wx _ hL
     have h2:=hf _ _ _ ja h;obtain⟨kk,vv,hm,⟨xU,z3v,z3x⟩,vcs,z36,hval⟩:=zF.get hei;have zzq:idx m (e.born:Int)=some (kk,vv):=hm;rw[zzq]at h2;simp only[zK]at h2;have h3:(J.setObj id (.cell (uJ Gk (n':Int) (((upto n').filter (λi=>!seen.contains i.toNat)).filter (λi=>!decide (i=(e.born:Int)))) (e.born:Int)))).qo c o.dst (.jS (.pr (.data .bool true) (.pr (.data kt kk) (.pr (.data vt vv) .un)))) k=some r:=h2;clear h2 h hf;have pc:((upto n').filter (λi=>!seen.contains i.toNat)).filter (λi=>!decide (i=(e.born:Int)))=(upto n').filter (λi=>!(seen.push e.born).contains i.toNat):=by
      rw[List.filter_filter];refine List.filter_congr λi hi=>?_
      rw[A2]at hi;by_cases hie:i=(e.born:Int)
      ·subst hie;simp
      ·have:i.toNat≠e.born:=by omega
       simp[hie,this]
     have yN:zU c.ntmps g w1 a J:=by
      rcases hw1 with rfl|rfl
      ·exact zj
      ·exact zU.Vl (w:=w) (w':=w.drew) rfl zj
     have yA:Ext w g w1 g:=by
      rcases hw1 with rfl|rfl
      ·exact Ext.refl _ g
      ·exact Ext.Vl (w:=w) (w':=w.drew) rfl rfl rfl rfl (Z1h _)
     have vb:w1.heap=w.heap:=by rcases hw1 with rfl|rfl<;>rfl
     have zqx:w1.heap[g.qp id]? = some (.mapIter (some bm) n' seen n'):=by rw[vb];exact hblk
     have hcn:ck=n':=by rw[Hr,HS]
     obtain⟨k1,k2⟩:=heap_set (o':=.mapIter (some bm) n' (seen.push e.born) ck) zqx;let w2:World:=setBlock w1 (g.qp id) (.mapIter (some bm) n' (seen.push e.born) ck);have qY:zT w1 g w2 g:=⟨λb hb=>⟨hb,k2 b (λhe=>by subst he;rw[zS]at hb;simp at hb)⟩⟩;have Mv:∀m',zJ g J m'->m'≠Gk:=λm' vc he=>by subst he;have:=vc.z6;rw[hmo]at this;simp at this
     have zzs:∀m',zJ g J m'->m'≠id:=λm' vc he=>by subst he;have:=vc.z6;rw[zp]at this;simp at this
     have Zq:Gk≠id:=λhe=>by subst he;rw[hmo]at zp;simp at zp
     refine ji (g:=g) (g':=g) (J:=J) (base:=base) (J':=J.setObj id (.cell (uJ Gk (n':Int) (((upto n').filter (λi=>!seen.contains i.toNat)).filter (λi=>!decide (i=(e.born:Int)))) (e.born:Int)))) (v:=.tuple #[.bool true,e.key,e.val]) (w':=w2) ?_ ?_ (yA.trans ?_) (λm' _ vc=>⟨?_,by simp[z7.ids]⟩) rfl ?_ h3 (λh=>Bool.noConfusion h) hK
     ·simp only[execOp,ho,hv];simp[ze,w2]
     ·refine yN.pg qY (λi hi=>?_) (.inl (.inr (.inr (.inl ⟨_,_,zp,rfl,rfl,rfl⟩)))) ?_ (λb hb=>?_)
      ·refine⟨⟨λq=>rfl,λq b hb=>⟨hb,k2 b (λhe=>?_)⟩⟩,rfl,λhb=>⟨hb,k2 _ (λhe=>?_)⟩⟩
       ·subst he;rw[zS]at hb;simp at hb
       ·rw[he,zS]at hb;simp only[Tag.box.injEq]at hb;exact hi hb.symm
      ·have h5:w2.heap[g.qp id]? = some (.mapIter (some bm) n' (seen.push e.born) ck):=k1;rw[hcn]at h5;have h6:∀c:Nat,(e.born:Int)=(c:Int)->(seen.push e.born).back? = some c:=by
        intro c hc;have:c=e.born:=by omega
        subst this;simp
       refine(zn.iter rfl).2 ⟨Gk,n',bm,seen.push e.born,(e.born:Int),by rw[pc],h5,zS,h6,λAy X6 m' Gp=>?_⟩;simp only[St.setObj]at Gp;rw[zf _ _ Zq]at Gp;exact hbm _ _ _ Gp
      ·have:=yN.heap.tags b hb;simpa[w2,setBlock]using this
     ·refine⟨rfl,rfl,rfl,yH _,by simp[w2,setBlock],λb _ hb=>⟨k2 b (λhe=>?_),rfl⟩⟩;subst he;rw[zS]at hb;simp at hb
     ·refine⟨?_,vc.row,vc.box,vc.zk,λi av hi=>?_⟩
      ·simp only[St.setObj];rw[zf _ _ (zzs m' vc)];exact vc.z6
      ·by_cases Mw:i=id
       ·subst Mw;simp only[St.setObj,zO,zI,Obj.cell.injEq]at hi;subst hi;simpa[uJ,z7.ids]using Mv m' vc
       ·simp only[St.setObj]at hi;rw[zf _ _ Mw]at hi;exact vc.cells i av hi
     ·have Pd:zT w g w2 g:=⟨λb hb=>⟨hb,((qY.qp b hb).2).trans (by rw[vb])⟩⟩;simp only[zm];refine⟨[.bool true,e.key,e.val],rfl,?_⟩;simp only[qx];exact⟨_,_,rfl,kK _,_,_,rfl,⟨xU,⟨uL,z3v.kept Pd⟩,z3x⟩,_,_,rfl,⟨vcs,⟨hvr,z36.kept Pd⟩,hval⟩,rfl⟩
   ·simp at h
  ·simp at h
 ·simp at h
theorem z1j{x:Operand}{av:z7}(ho:o.op=.entry x)(zj:zU c.ntmps g w a J)(hx:ev J x=some av)(h:MF c J o.dst av k=some r)(hK:vY c.ntmps k r g w J base true K):o.wp P a w K Q:=by
 unfold MF at h;split at h
 ·rename_i id;split at h
  ·rename_i Gk n left cur zp;split at h
   ·rename_i kt vt m hmo;have hn:=DA (qB h).1;replace h:=(qB h).2;obtain⟨ex,ef⟩:=qD zj hx;simp only[zm]at ex;obtain⟨cs,⟨v,rfl,_,gi⟩,hv⟩:=ex;obtain⟨off,s,jO,rfl⟩:=gi _ zp;simp only[Sk.off,zI,pv]at jO;obtain⟨rfl,_⟩:=jO;have hv:a.eval x=.pointer (some ⟨g.qp id,0,none⟩):=hv;obtain⟨zv4,n',bm,seen,q1n,hit,hblk,zS,q09,hbm⟩:=(zn.iter rfl).1 (zj.heap.z6 _ _ zp);simp only[uJ,z7.jS.injEq,z7.pr.injEq,z7.qV.injEq,z7.data.injEq,heq_eq_eq,Ur,Fy]at hit;obtain⟨rfl,rfl,rfl,rfl⟩:=hit;obtain⟨es,ck,D0,zq1,uL,hvr,zF,Hr,p7⟩:=zj.heap.z6 _ _ hmo;have hl:=zF.length;rw[vl]at hl;have HS:n'=es.size:=by have:((n':Nat):Int)=((m.length:Nat):Int):=hn;omega
    rw[<-hbm _ _ _ hmo]at D0;obtain⟨e,he,h⟩:=WZ.1 h;obtain⟨h0,him,rfl,qk⟩:=jr he;have hci:cur=((cur.toNat:Nat):Int):=(Z20 h0).symm;have Nr:=q09 cur.toNat hci;have hp:cur.toNat<es.toList.length:=by rw[vl];omega
    have Pm:=uX hp;obtain⟨kk,vv,hm,⟨xU,z3v,z3x⟩,vcs,z36,hval⟩:=zF.get Pm;have hb:=p7.at Pm;have hml:m.get ⟨cur.toNat,him⟩=(kk,vv):=by
     have:=uX him;rw[this]at hm;simpa using hm
    rw[hml]at h;have hnd:(es.toList.map (·.born)).Nodup:=by
     have h2:es.toList.map (·.born)=List.range es.toList.length:=p7;rw[h2];exact List.nodup_range
    have hf:es.find? (λy=>y.born == cur.toNat)=some es.toList[cur.toNat]:=by
     have:=find_born es.toList[cur.toNat] es.toList hnd (gU hp);rw[hb]at this;rw[<-Array.find?_toList];exact this
    have ze:(Instr.entry (.pointer (some ⟨g.qp id,0,none⟩))).run P w=.ok (.tuple #[es.toList[cur.toNat].key,es.toList[cur.toNat].val]) w:=by
     have hcn:ck=n':=by rw[Hr,HS]
     rw[hcn]at D0;simp only[Instr.entry,getObj,Sem.run_bind,Sem.run,hblk,D0,Result.andThen,Nr,bne_self_eq_false,Z2a,TC,hf];rfl
    refine ji (g:=g) (g':=g) (J:=J) (J':=J) (base:=base) (v:=.tuple #[es.toList[cur.toNat].key,es.toList[cur.toNat].val]) (w':=w) ?_ zj (Ext.refl w g) (λm _ vc=>⟨vc,by simp[z7.ids]⟩) rfl ?_ h (λh=>Bool.noConfusion h) hK
    ·simp only[execOp,ho,hv];simp[ze]
    ·simp only[zm];refine⟨[es.toList[cur.toNat].key,es.toList[cur.toNat].val],rfl,?_⟩;simp only[qx];exact⟨_,_,rfl,⟨xU,⟨uL,z3v⟩,z3x⟩,_,_,rfl,⟨vcs,⟨hvr,z36⟩,hval⟩,rfl⟩
   ·simp at h
  ·simp at h
 ·simp at h
end
end Go.Kz
namespace Go.Kz
variable {R:Type}
section
variable {P:Program}{o:Oper}{a:Act}{w:World}{c:Ctx}{J:St}{g:z8}{k:St->Option R}{r:R}{base:Nat}
theorem Rr{T:TypeId}{u:Ty}(hT:qv P u T)(cs:List Value)(off:Nat)(hs:off+u.size<=cs.length)(w:World):
  (part T cs.toArray off).run P w=.ok (jh u.sk.isAgg (qS cs off u.size)) w:=by
 have wx:=CX hT w;unfold part;rw[Sem.run_bind,wx]
 cases hu:u.sk.isAgg with
 |true=>
  have qG:=hT.info.sizeOf w;simp only[Result.andThen_ok,Ms,Sem.run_bind,qG,Sem.run_pure];congr 1;simp only[jh,Ms,Value.agg.injEq];apply C5.1
  simp[qS,List.extract]
 |false=>
  have h1:u.size=1:=by cases u<;>simp[Ty.sk,Sk.isAgg]at hu<;>simp[Ty.size]
  have qk:off<cs.length:=by omega
  have hg:cs.toArray[off]? = some cs[off]:=by simp[qk]
  simp only[Result.andThen_ok,Z2a,TC,hg,Sem.run_pure];congr 1;simp only[jh,Z2a,TC,qS,h1];rw[Z38 qk];rfl
theorem S5(kA:p6 P c.tt){t:TypeId}{x i:Operand}(ho:o.op=.index t x i)(zj:zU c.ntmps g w a J)(h:yE c J base o k=some r):wk P o a w g J c k r:=by
 simp only[yE,ho]at h;split at h
 ·rename_i n t' l ki j m u hx hi hu;have hT:=kA _ _ hu;obtain⟨ex,ef⟩:=qD zj hx;obtain⟨vi,_⟩:=jL (qD zj hi).1
  cases hs:(Nat.beq n m&&t'.sk.same u.sk) with
  |false=>rw[hs]at h;simp at h
  |true=>
   rw[hs]at h;simp only[zA]at hs;have Zq:n=m:=zE hs.1;subst Zq;have ko:=Sk.qQ hs.2;have qG:u.size=t'.size:=by rw[<-Ty.zW,<-Ty.zW,ko]
   simp only[zB,WZ]at h;obtain⟨d,hd,h⟩:=h;obtain⟨h0,wm,rfl,qk⟩:=jr hd;simp only[qv]at hT;obtain⟨⟨E,qu,hE⟩,_⟩:=hT;simp only[zm]at ex;obtain⟨cs,⟨qY,hl,uk,ja⟩,hv⟩:=ex;have VQ:j.toNat<n:=by rw[<-hl];exact wm
   have hmul:(j.toNat+1)*t'.size<=n*t'.size:=kn _ VQ;rw[kq]at hmul;have jl:a.eval x=.agg cs.toArray:=by rw[hv];rfl
   have zzn:(j:Int)<(n:Int):=by rw[<-hl];exact qk
   refine Zf (v:=jh u.sk.isAgg (qS cs (j.toNat*t'.size) u.size)) ?_ ?_ (λm _=>by simp[z7.ids]) h
   ·intro w' _;have hsE:=hE.info.sizeOf w';have hp:=Rr hE cs (j.toNat*u.size) (by rw[qG];omega) w';rw[qG]at hp hsE;simp[execOp,ho,jl,vi,Instr.index,asIntOf,run_underlying qu,h0,zzn,hsE,hp,qG]
   ·simp only[zm];refine⟨qS cs (j.toNat*t'.size) t'.size,⟨by simpa[Ty.zG]using qY,ja _ wm⟩,by rw[qG,<-ko];rfl⟩
 ·rename_i l ki j hx hi hu;have hT:=kA _ _ hu;simp only[qv]at hT;obtain⟨vi,_⟩:=jL (qD zj hi).1;obtain⟨s,hv,hl,hs⟩:=Gy (l:=l) (qD zj hx).1;subst hl;simp only[WZ]at h;obtain⟨d,hd,h⟩:=h;obtain⟨h0,wm,rfl,qk⟩:=jr hd;rw[vl]at wm;have qG:s.size=s.data.size:=rfl;have Vf:j.toNat<s.size:=by omega
  refine Zf (v:=.int .u8 (s[j.toNat]'Vf).toNat) ?_ ?_ (λm _=>by simp[z7.ids]) h
  ·intro w' _;have hg:s[j.toNat]? = some (s[j.toNat]'Vf):=getElem?_pos s j.toNat Vf;simp[execOp,ho,hv,vi,Instr.index,asIntOf,run_underlying hT.1,h0,hg]
  ·have e:(s[j.toNat]'Vf)=s.data.toList.get ⟨j.toNat,by rw[vl];exact wm⟩:=by rw[IL,Z4z];rfl
   rw[<-e];refine jm ⟨by simp[IntKind.min,IntKind.signed],?_⟩;have:=(s[j.toNat]'Vf).toNat_lt;simp only[IntKind.max,IntKind.bits,IntKind.signed];simp;omega
 ·simp at h
end
end Go.Kz
namespace Go.Kz
theorem Ff{J:St}{id:Nat}{o:Obj}(h:J.z6 id=some o):J.setObj id o=J:=by
 cases J;simp only[St.setObj,St.mk.injEq,Ur];simp only at h;refine⟨?_,trivial⟩;funext i;by_cases hi:i=id
 ·subst hi;rw[zO,h]
 ·rw[zf _ _ hi]
theorem Rn{t u:Ty}(h:(Ty.same t u).isSome=true):t=u:=by
 cases hs:Ty.same t u with
 |none=>rw[hs]at h;simp at h
 |some e=>exact e.down
end Go.Kz
namespace Go.Kz
variable {R:Type}
theorem Kn{I:Type}{l m:List I}{a b:Int}(h0:0<=a)(uN:a<=b)(Vs:b<=(l.length:Int)):a.toNat+Nat.min m.length (b-a).toNat<=l.length:=by
 have:=Nat.min_le_right m.length (b-a).toNat;have e:Nat.min m.length (b-a).toNat<=(b-a).toNat:=this;omega
theorem QZ{I:Type}(l m:List I){a b:Int}(h0:0<=a)(uN:a<=b)(Vs:b<=(l.length:Int)):(wo l a b m).length=l.length:=by
 have h1:=Kn (m:=m) h0 uN Vs;have h2:Nat.min m.length (b-a).toNat<=m.length:=Z4e ..;simp only[wo,WQ,Us,Lp];generalize Nat.min m.length (b-a).toNat=n at *;omega
theorem Sh{I:Type}(l m:List I){a b:Int}(h0:0<=a)(uN:a<=b)(Vs:b<=(l.length:Int))(i:Nat)(h:i<(wo l a b m).length):
  (∃j,∃hj:j<m.length,i=a.toNat+j/\j<Nat.min m.length (b-a).toNat/\(wo l a b m).get ⟨i,h⟩=m.get ⟨j,hj⟩)\/
  (∃hl:i<l.length,(i<a.toNat\/a.toNat+Nat.min m.length (b-a).toNat<=i)/\(wo l a b m).get ⟨i,h⟩=l.get ⟨i,hl⟩):=by
 have hlen:=QZ l m h0 uN Vs;have h1:=Kn (m:=m) h0 uN Vs;have h2:Nat.min m.length (b-a).toNat<=m.length:=Z4e ..;have Hf:i<l.length:=by rw[<-hlen];exact h
 have e:(wo l a b m)[i]? = if i<a.toNat then l[i]? else if i<a.toNat+Nat.min m.length (b-a).toNat then m[i-a.toNat]? else l[i]? := by
  simp only[wo];generalize Nat.min m.length (b-a).toNat=n at *;by_cases c1:i<a.toNat
  ·rw[yX c1,Z4f (by simp;omega),Z4f (by simp;omega),Z39,yX c1]
  ·rw[qW c1];by_cases c2:i<a.toNat+n
   ·rw[yX c2,Z4f (by simp;omega),Z5m (by simp;omega),Us,Z39];rw[yX (by omega)];congr 1;omega
   ·rw[qW c2,Z5m (by simp;omega),Z2j];congr 1;simp only[WQ,Us];omega
 have e2:(wo l a b m)[i]? = some ((wo l a b m).get ⟨i,h⟩):=by rw[uX h];rfl
 rw[e2]at e;generalize Nat.min m.length (b-a).toNat=n at *;by_cases c1:i<a.toNat
 ·rw[yX c1,uX Hf]at e;exact .inr ⟨Hf,.inl c1,by simpa using e⟩
 ·rw[qW c1]at e;by_cases c2:i<a.toNat+n
  ·have hj:i-a.toNat<m.length:=by omega
   rw[yX c2,uX hj]at e;exact .inl ⟨i-a.toNat,hj,by omega,by omega,by simpa using e⟩
  ·rw[qW c2,uX Hf]at e;exact .inr ⟨Hf,.inr (by omega),by simpa using e⟩
theorem MM{I:Type}(l m:List I){a b:Int}(hn:Nat.min m.length (b-a).toNat=0):wo l a b m=l:=by
 simp[wo,hn]
section
variable {P:Program}{o:Oper}{a:Act}{w:World}{K:Act->World->Prop}{Q:Exit->Act->World->Prop}{c:Ctx}{J:St}{g:z8}{k:St->Option R}{r:R}{base:Nat}
theorem Pg{x y:Operand}{args:Array Operand}{ts:Array TypeId}{t t':TypeId}{v:Value}{w':World}(ho:o.op=.call { callee:=.builtin .copy,args:=args,argTypes:=ts })(ha:args.toList=[x,y])(ht:ts.toList=[t,t'])
  (h:∀ty,(Builtin.copy_ #[t,t'] ty #[a.eval x,a.eval y]).run P w=.ok v w'):(execOp a.eval o).run P w=.ok (.value v) w':=by
 have e1:args=#[x,y]:=by apply C5.1;simpa using ha
 have e2:ts=#[t,t']:=by apply C5.1;simpa using ht
 subst e1;subst e2;simp[execOp,ho,resolve,invoke,builtin,h]
theorem z0y{id:Nat}{t:Ty}{l m:List t.den}{news:List Value}{x:Value}{e b off cap:Nat}{cc:Array Value}{ee:TypeId}{av bv:Int}(qY:t.zG=true)
  (h0:0<=av) (uN:av<=bv) (Vs:bv<=(l.length:Int)) (K5:l.length<=cap) (Vn:cap<=maxLen) (yZ:g.sv id []=.slice (some ⟨b,off,none⟩) l.length cap)
  (zS:g.tag b=.row id []) (zZ:w.heap[b]? = some (.cells cc ee (0,0))) (qG:off+cap*t.size<=cc.size)
  (ja:∀(i:Nat)(h:i<l.length),zN w g (some (id,[.idx i])) t (l.get ⟨i,h⟩) (qS cc.toList (off+i*t.size) t.size)) (yM:wH P w g t x m news) (z6:qZ) :
  zn (w.setRow b (zD cc.toList (off+av.toNat*t.size) (news.take (Nat.min m.length (bv-av).toNat*t.size))).toArray) g z6 id (.row t (wo l av bv m) e):=by
 have Vo:cc.toList.length=cc.size:=vl;have hmn:=Kn (m:=m) h0 uN Vs;have h2:Nat.min m.length (bv-av).toNat<=m.length:=Z4e ..;have hlen:=QZ l m h0 uN Vs;have wG:=Sh l m h0 uN Vs;generalize hn:Nat.min m.length (bv-av).toNat=n at *;have Nf:=yM.length;have Zq:n*t.size<=m.length*t.size:=kn _ h2;have Eg:(news.take (n*t.size)).length=n*t.size:=by rw[Us,Nf];omega
 have hmul:(av.toNat+n)*t.size<=cap*t.size:=kn _ (by omega);rw[kq]at hmul;have TJ:zT w g (w.setRow b (zD cc.toList (off+av.toNat*t.size) (news.take (n*t.size))).toArray) g:=(jb (id:=id) _ (.inl ⟨[],zS⟩)).ro;refine⟨qY,some ⟨b,off,none⟩,cap,by rw[hlen,yZ],by rw[hlen,yZ],by rw[hlen];exact K5,Vn,.inr ⟨b,off,_,ee,rfl,zS,setRow_heap w b cc _ ee _ zZ,?_,λj hj=>?_⟩⟩
 ·rw[Z24,j5 _ _ _ (by rw[Eg,Vo];omega),Vo];exact qG
 ·refine zN.yJ qY (o:=none) ?_;have hjl:j<l.length:=by rw[hlen]at hj;exact hj
  have He:(j+1)*t.size<=cap*t.size:=kn _ (by omega);rw[kq]at He;rcases wG j hj with⟨i,hi,e1,xX,e2⟩|⟨hl,Qj,e2⟩
  ·rw[e2];have h3:(i+1)*t.size<=n*t.size:=kn _ xX;rw[kq]at h3;have e3:off+j*t.size=(off+av.toNat*t.size)+i*t.size:=by rw[e1,kq];omega
   rw[e3,List.toList_toArray,xH _ _ _ _ _ (by rw[Eg];omega) (by rw[Eg,Vo];omega)];have e4:qS (news.take (n*t.size)) (i*t.size) t.size=qS news (i*t.size) t.size:=by
    simp only[qS];rw[Z45,Z31];congr 1;omega
   rw[e4];exact(yM.elts i hi).kept TJ
  ·rw[e2];have hold:=(zN.yJ (o':=none) qY (ja j hl)).kept TJ;rw[List.toList_toArray];rcases Qj with qk|Pm
   ·have h3:(j+1)*t.size<=av.toNat*t.size:=kn _ (by omega);rw[kq]at h3;rw[jy _ _ _ _ _ (by omega) (by rw[Vo];omega)];exact hold
   ·have h3:(av.toNat+n)*t.size<=j*t.size:=kn _ Pm;rw[kq]at h3;rw[vu _ _ _ _ _ (by rw[Eg];omega) (by rw[Eg,Vo];omega)];exact hold
theorem DZ(kA:p6 P c.tt){args:Array Operand}{ts:Array TypeId}{x y:Operand}{t t2:TypeId}(ho:o.op=.call { callee:=.builtin .copy,args:=args,argTypes:=ts })(hargs:args.toList=[x,y])(hts:ts.toList=[t,t2])
  {ow:Bool}{u:Ty} (hu:c.tt t=some (.sl ow u)) {bv2:z7} (hy:zm w g J.z6 bv2 (a.eval y)) (zj:zU c.ntmps g w a J) {id ep:Nat}{av bv:Int}
  (hx:∀(t':Ty)(l:List t'.den)(e:Nat),J.z6 id=some (.row t' l e)->e=ep->0<=av/\av<=bv/\bv<=(l.length:Int)/\∀ad cap,g.sv id []=.slice ad l.length cap->l.length<=cap->∃ux,a.eval x=.slice (ad.map λad=>ad.add (av.toNat*t'.size)) (bv-av).toNat ux\/((bv-av).toNat=0/\∃ad',a.eval x=.slice ad' 0 ux))
  (h:(F5 J u id ep av bv bv2 λn J=>J.qo c o.dst (.data (.int .i64) n) k)=some r)
  (hK:vY c.ntmps k r g w J base true K):o.wp P a w K Q:=by
 unfold F5 at h;split at h
 ·rename_i t' l e zp
  cases hb:(Nat.beq e ep&&(Ty.same t' u).isSome) with
  |false=>rw[hb]at h;simp at h
  |true=>
  rw[hb]at h;simp only[zB]at h;simp only[zA]at hb;have Hm:=zE hb.1;subst Hm;have Qc:=Rn hb.2;subst Qc;obtain⟨qY,hval,h,SX⟩:=px h;obtain⟨m,news,h,yM⟩:=JW (P:=P) zj.heap qY hy h hval SX;have hT:=kA _ _ hu;simp only[qv]at hT;obtain⟨⟨E,qu,hE⟩,_⟩:=hT;obtain⟨i,zv,Qe,QC,Bo,TY,TQ,hi6⟩:=hE.info.info;obtain⟨_,ad,cap,_,yZ,K5,Vn,wy⟩:=zj.heap.z6 _ _ zp;obtain⟨h0,uN,Vs,Na⟩:=hx _ _ _ zp rfl;obtain⟨ux,Na⟩:=Na ad cap yZ K5;have YR:∀w':World,(sizeOf E).run P w'=.ok t'.size w':=λw'=>by simp[sizeOf,typeInfo,Qe,QC]
  have hmn:=Kn (m:=m) h0 uN Vs;have h2:Nat.min m.length (bv-av).toNat<=m.length:=Z4e ..;have h3:Nat.min m.length (bv-av).toNat<=(bv-av).toNat:=Nat.min_le_right ..;have xB:=yM.pre _ h2 w rfl;have Hb:=yM.len w rfl;have hint:zm w g (J.setObj id (.row t' (wo l av bv m) e)).z6 (.data (.int .i64) (Dx m av bv)) (goInt (Nat.min m.length (bv-av).toNat)):=by
   refine jm ⟨?_,?_⟩
   ·show(-9223372036854775808:Int)<=_;unfold Dx;omega
   ·show _<=(9223372036854775807:Int);unfold Dx;unfold maxLen at Vn;omega
  by_cases hn:Nat.min m.length (bv-av).toNat=0
  ·have uk:=MM l m hn;rw[uk,Ff zp]at h hint;refine ji (v:=goInt 0) (g':=g) (w':=w) (J':=J) (Pg ho hargs hts λty=>?_) zj (Ext.refl w g) (λm' _ hf=>⟨hf,by simp[z7.ids]⟩) rfl (by rw[hn]at hint;exact hint) h (λh=>Bool.noConfusion h) hK;rw[hn]at xB;rw[Z2b,Z1z]at xB;rcases Na with Na|⟨hz,ad',Na⟩
   ·rw[Na]
    cases ad with
    |none=>simp[Builtin.copy_,run_underlying qu,Hb,YR,hn,xB]
    |some ad=>simp[Builtin.copy_,run_underlying qu,Hb,YR,hn,xB,storeCells]
   ·rw[Na];rw[hz]at hn
    cases ad' with
    |none=>simp[Builtin.copy_,run_underlying qu,Hb,YR,xB]
    |some ad=>simp[Builtin.copy_,run_underlying qu,Hb,YR,xB,storeCells]
  ·rcases wy with⟨rfl,hl,rfl⟩|⟨b,off,cc,ee,rfl,zS,zZ,qG,ja⟩
   ·rw[hl]at hmn;simp only[TA]at hmn;omega
   ·have Vo:cc.toList.length=cc.size:=vl;have Nf:=yM.length;have Zq:Nat.min m.length (bv-av).toNat*t'.size<=m.length*t'.size:=kn _ h2;have Eg:(news.take (Nat.min m.length (bv-av).toNat*t'.size)).length=Nat.min m.length (bv-av).toNat*t'.size:=by rw[Us,Nf];omega
    have hmul:(av.toNat+Nat.min m.length (bv-av).toNat)*t'.size<=cap*t'.size:=kn _ (by omega);rw[kq]at hmul;have qO:=run_storeCells_at P b (off+av.toNat*t'.size) ee (news.take (Nat.min m.length (bv-av).toNat*t'.size)) 0 cc w zZ (by rw[Eg];omega) (λx hx=>yM.one x (Z3g hx));simp only[TE]at qO;have EX:=jb (w:=w) (g:=g) (id:=id) (b0:=b) (zD cc.toList (off+av.toNat*t'.size) (news.take (Nat.min m.length (bv-av).toNat*t'.size))).toArray (.inl ⟨[],zS⟩);have yF:=z0y (P:=P) (e:=e) qY h0 uN Vs K5 Vn yZ zS zZ qG (λi hi=>ja i hi) yM (J.setObj id (.row t' (wo l av bv m) e)).z6;have k9:=EX.st zj (o':=.row t' (wo l av bv m) e) (.inr (.inl ⟨t',l,wo l av bv m,e,e,zp,rfl,.inr ⟨rfl,QZ l m h0 uN Vs,λ_=>rfl⟩⟩)) yF;refine ji (v:=goInt (Nat.min m.length (bv-av).toNat)) (Pg ho hargs hts λty=>?_) k9 EX.ext (λm' _ hf=>⟨EX.fresh (by rw[zp];simp) (λy hy=>by simp at hy) hf,by simp[z7.ids]⟩) rfl ?_ h (λh=>Bool.noConfusion h) hK
    ·rcases Na with Na|⟨hz,_⟩
     ·rw[Na];simp only[Z2h,Addr.add_lit];simp[Builtin.copy_,run_underlying qu,Hb,YR,xB,qO,zD]
     ·omega
    ·exact jm (by
      refine⟨?_,?_⟩
      ·show(-9223372036854775808:Int)<=_;unfold Dx;omega
      ·show _<=(9223372036854775807:Int);unfold Dx;unfold maxLen at Vn;omega)
 ·simp at h
theorem zah(kA:p6 P c.tt){args:Array Operand}{ts:Array TypeId}(ho:o.op=.call { callee:=.builtin .copy,args:=args,argTypes:=ts })(zj:zU c.ntmps g w a J)(h:yE c J base o k=some r)
  (hK:vY c.ntmps k r g w J base true K):o.wp P a w K Q:=by
 simp only[yE,ho]at h;split at h
 ·rename_i x y t t2 hargs hts;split at h
  ·rename_i xv yv ow u hx hy hu;obtain⟨ex,efx⟩:=qD zj hx;obtain⟨ey,efy⟩:=qD zj hy;unfold zfu at h;split at h
   ·rename_i id ep av bv;refine DZ kA ho hargs hts hu ey zj (λt' l e zp he=>?_) h hK;subst he;simp only[zm]at ex;obtain⟨cs,⟨v,rfl,qc,hv⟩,jl⟩:=ex;obtain⟨_,h0,uN,Vs,e1⟩:=(hv _ _ _ zp).2 rfl;refine⟨h0,uN,Vs,λad cap yZ K5=>?_⟩;have ud:a.eval x=jC (.slice ad l.length cap) t'.size av bv:=by rw[<-yZ,<-e1];exact jl
    simp only[jC]at ud;refine⟨cap-av.toNat,?_⟩;by_cases hc:cap-av.toNat=0
    ·rw[yX hc]at ud;have hz:(bv-av).toNat=0:=by omega
     rw[hz]at ud;exact .inr ⟨hz,ad,ud⟩
    ·rw[qW hc]at ud;exact .inl ud
   ·rename_i id ep;split at h
    ·rename_i t1 l1 e1 z3m;refine DZ kA ho hargs hts hu ey zj (λt' l e zp he=>?_) h hK;subst he;rw[zp]at z3m;simp only[zI,Obj.row.injEq]at z3m;obtain⟨rfl,h1,_⟩:=z3m;have h1:=Z34 h1;subst h1;simp only[zm]at ex;obtain⟨cs,⟨v,rfl,qc,hv⟩,jl⟩:=ex;have e2:=(hv _ _ _ zp).2 rfl;refine⟨Z23 _,by omega,by omega,λad cap yZ K5=>⟨cap,.inl ?_⟩⟩;rw[show a.eval x=g.sv id [] from by rw[<-e2];exact jl,yZ]
     cases ad with
     |none=>simp
     |some ad=>simp[Addr.add]
    ·simp at h
   ·simp at h
  ·simp at h
 ·simp at h
end
end Go.Kz
namespace Go.Kz
end Go.Kz
