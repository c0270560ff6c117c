/-
  Callees: what is asked of them; what a call leaves behind.
-/
import Derived.Test.YtmoggdcmpoobpaaGreatDoorKzUA
import Derived.MapKept
import Derived.Laws.StructEq
import Derived.ChangeKeysEq
import Derived.WideKeyRuns
import Derived.Maps.RangeRun
set_option linter.unusedVariables false
set_option linter.unusedSimpArgs false
namespace Go.Kz
variable {R:Type}
def zn6 (P:Program) (f:FuncId) (vals:Array Value) (w:World) (R:Value->World->Prop):Prop:=
 ((callFunc f vals).run P w = .ok (.enter f vals) w/\Calls P f vals w fun e w'=>∃ v,e = .returned v/\R v w')\/
 ∃ v w',(callFunc f vals).run P w = .ok (.value v) w'/\R v w'
def xA (w:World) (g:z8):(p:kG)->p.den->List Value->Prop
 | .pr (.val t) q,(x,y),v :: vs=>t.zV=true/\(∃ cs,zC w g none t x cs/\v=jA t.sk.isAgg cs)/\xA w g q y vs
 | .un,_,[]=>True
 | _,_,_=>False
def Kg (w:World) (g:z8) (x:z7×List Obj) (v:Value):Prop:=yZ w g (zF x.2)/\zl w g (zF x.2) x.1 v
def qD (P:Program) (f:FuncId):Callee->Prop
 | .pure p res F=>∀ w g d vals r,(∀ b,g.tag b≠.zn->g.tag b = .ro/\b < w.heap.size)->Known w g->xA w g p d vals->F d=some r->
   zn6 P f vals.toArray w fun v w'=>∃ g',Ext w g w' g'/\Kg w' g' (zx res r 0) v
 | .mut fin jI zi F=>∀ w g d (vals:List Value) r,vals.length=fin.zj.length->zK vals.length g w ⟨vals.toArray,[]⟩ (St.of (vY fin.zj d.1) (vr fin.z6 d.2))->
   (∀ m,fin.z6.length<=m->zY g (St.of (vY fin.zj d.1) (vr fin.z6 d.2)) m)->F d=some r->
   zn6 P f vals.toArray w fun v w'=>∃ g',Ext w g w' g'/\yZ w' g' (zF (vr zi.z6 r.2))/\
    (∀ k i av,zF jI k=some i->zF ((vY zi.zj r.1).map Prod.snd) k=some av->∃ u,vals[i]? = some u/\zl w' g' (zF (vr zi.z6 r.2)) av u)/\
    zl w' g' (zF (vr zi.z6 r.2)) (kF (ke jI.length ((vY zi.zj r.1).map Prod.snd))) v
def A5 (P:Program) (env:Nat->List Callee):Prop:=∀ f c,c∈env f->qD P f c
def jO (g gc:z8) (n len size:Nat):z8 where
 tag:=fun b=>if b < size then g.tag b else match gc.tag b with
  | .row i p=>if i < len then .row (n+i) p else .zn
  | .box i=>if i < len then .box (n+i) else .zn
  | t=>t
 sv:=fun i p=>if n<=i/\i < n+len then gc.sv (i-n) p else g.sv i p
 zt:=fun i=>if n<=i/\i < n+len then gc.zt (i-n) else g.zt i
theorem Kq:(os:List Obj)->(J:St)->(n id:Nat)->(J.gG n os).z6 id=if n<=id/\id < n+os.length then zF os (id-n) else J.z6 id
 | [],J,n,id=>by simp [St.gG];intro h1 h2;omega
 | o :: os,J,n,id=>by
  simp only [St.gG,Kq os,GO];by_cases h1:id=n
  ·subst h1;rw [qQ (by omega),yW (by omega)];simp only [St.setObj,zN,Z4i,zF]
  ·by_cases h2:n+1<=id/\id < n+1+os.length
   ·rw [yW h2,yW (by omega)];obtain ⟨j,rfl⟩:∃ j,id=n+1+j:=⟨id-(n+1),by omega⟩;have e1:n+1+j-(n+1)=j:=by omega
    have e2:n+1+j-n=j+1:=by omega
    rw [e1,e2];rfl
   ·rw [qQ h2,qQ (by omega)];simp only [St.setObj];rw [ze _ _ h1]
theorem Jn:(os:List Obj)->(J:St)->(n:Nat)->(J.gG n os).zj=J.zj
 | [],_,_=>rfl
 | _ :: os,J,n=>by simp only [St.gG];rw [Jn os];rfl
theorem Ky:(os:List Obj)->(J:St)->(n:Nat)->(J.gG n os).next=J.next
 | [],_,_=>rfl
 | _ :: os,J,n=>by simp only [St.gG];rw [Ky os];rfl
theorem zC.qn {w w':World} {g g':z8}:{o o':AR}->{t:Ty}->{d:t.den}->{cs:List Value}->t.qn=true->zC w g o t d cs->zC w' g' o' t d cs
 | _,_,.int _,_,_,_,h=>h
 | _,_,.bool,_,_,_,h=>h
 | _,_,.str,_,_,_,h=>h
 | _,_,.unit,_,_,_,h=>h
 | _,_,.pair a b,(x,y),_,ht,h=>by
  obtain ⟨c1,c2,rfl,h1,h2⟩:=h;simp only [Ty.qn,zA] at ht
  exact ⟨c1,c2,rfl,zC.qn ht.1 h1,zC.qn ht.2 h2⟩
 | _,_,.arr n t,_,_,ht,h=>⟨h.1,h.2.1,fun i hi=>zC.qn (by simpa [Ty.qn] using ht) (h.2.2 i hi)⟩
 | _,_,.sl _ _,_,_,ht,_=>by simp [Ty.qn] at ht
 | _,_,.ptr _,_,_,ht,_=>by simp [Ty.qn] at ht
 | _,_,.fn _ _,_,_,ht,_=>by simp [Ty.qn] at ht
 | _,_,.tree _,_,_,ht,_=>by simp [Ty.qn] at ht
theorem D6:{t:Ty}->t.flat=true->t.zV=true->t.qn=true
 | .int _,_,_=>rfl
 | .bool,_,_=>rfl
 | .str,_,_=>rfl
 | .unit,_,_=>rfl
 | .pair a b,h,k=>by
  simp only [Ty.flat,zA] at h;simp only [Ty.zV,zA] at k
  simp only [Ty.qn,D6 h.1 k.1,D6 h.2 k.2,Bool.and_self]
 | .arr _ t,h,_=>h
 | .sl true t,_,k=>by simp [Ty.zV] at k
 | .sl false t,h,_=>by simp [Ty.flat,Ty.qn] at h
 | .ptr _,h,_=>by simp [Ty.flat,Ty.qn] at h
 | .fn _ _,h,_=>by simp [Ty.flat,Ty.qn] at h
 | .tree _,h,_=>by simp [Ty.flat,Ty.qn] at h
def Carry (w:World) (g g':z8) (t:Ty):Prop:=zO w g w g'\/t.flat=true
theorem Carry.rep {w:World} {g g':z8} {t:Ty} (h:Carry w g g' t) (ht:t.zV=true) {d:t.den} {cs:List Value} (hr:zC w g none t d cs):zC w g' none t d cs:=by
 rcases h with h | h
 ·exact hr.kept h
 ·exact zC.qn (D6 h ht) hr
theorem Carry.row {w:World} {g g':z8} {t:Ty} (h:Carry w g g' (.sl true t)) {l:List t.den} {i j:Nat} (hm:xZ w g w g' i [] j []) {v:Value} (hr:zC w g (some (i,[])) (.sl true t) l [v]) :
  zC w g' (some (j,[])) (.sl true t) l [v]:=by
 rcases h with h | h
 ·exact zC.move h (o:=some (i,[])) (o':=some (j,[])) hm hr
 ·obtain ⟨a,cap,hv,h0,h1,h2,h3⟩:=hr;have qT:=hm.sv [];simp only [AL] at qT;refine ⟨a,cap,hv,qT.trans h0,h1,h2,?_⟩;rcases h3 with h3 | ⟨b,off,c,e,ha,ht,hb,hs,he⟩
  ·exact .inl h3
  ·have hk:=hm.zt [] b (by simpa using ht);simp only [AL] at hk;exact .inr ⟨b,off,c,e,ha,hk.1,hb,hs,fun i hi=>zC.qn h (he i hi)⟩
theorem va:(t:Ty)->(d:t.den)->(n m:Nat)->(zy t d n).2=(zy t d m).2/\(zy.zc t d n).2=(zy.zc t d m).2
 | .sl true t,l,n,m=>⟨rfl,rfl⟩
 | .sl false t,l,n,m=>⟨rfl,rfl⟩
 | .int _,_,_,_=>⟨rfl,rfl⟩
 | .bool,_,_,_=>⟨rfl,rfl⟩
 | .str,_,_,_=>⟨rfl,rfl⟩
 | .unit,_,_,_=>⟨rfl,rfl⟩
 | .arr _ _,_,_,_=>⟨rfl,rfl⟩
 | .ptr _,_,_,_=>⟨rfl,rfl⟩
 | .fn _ _,_,_,_=>⟨rfl,rfl⟩
 | .tree _,_,_,_=>⟨rfl,rfl⟩
 | .pair a b,(x,y),n,m=>by
  have ha:=(va a x n m).1;have hb:=fun n m=>(va b y n m).2
  have e2:(zy.zc (.pair a b) (x,y) n).2=(zy.zc (.pair a b) (x,y) m).2:=by
   simp only [zy.zc];rw [ha,hb _ (m+(zy a x m).2.length)]
  refine ⟨?_,e2⟩;simp only [zy];cases (Ty.pair a b).zV
  ·simp only [zW];rw [ha,hb _ (m+(zy a x m).2.length)]
  ·rfl
theorem xk:(t:Ty)->(d:t.den)->(n:Nat)->(∀ o∈(zy t d n).2,∃ u l,o=Obj.row u l 0/\(t.flat=true->u.qn=true))/\
  (∀ o∈(zy.zc t d n).2,∃ u l,o=Obj.row u l 0/\(t.flat=true->u.qn=true))
 | .sl true t,l,n=>⟨by intro o ho;simp only [zy,EY] at ho;exact ⟨t,l,ho,fun h=>h⟩,by simp [zy.zc]⟩
 | .sl false t,l,n=>⟨by simp [zy],by simp [zy.zc]⟩
 | .int _,_,_=>⟨by simp [zy],by simp [zy.zc]⟩
 | .bool,_,_=>⟨by simp [zy],by simp [zy.zc]⟩
 | .str,_,_=>⟨by simp [zy],by simp [zy.zc]⟩
 | .unit,_,_=>⟨by simp [zy],by simp [zy.zc]⟩
 | .arr _ _,_,_=>⟨by simp [zy],by simp [zy.zc]⟩
 | .ptr _,_,_=>⟨by simp [zy],by simp [zy.zc]⟩
 | .fn _ _,_,_=>⟨by simp [zy],by simp [zy.zc]⟩
 | .tree _,_,_=>⟨by simp [zy],by simp [zy.zc]⟩
 | .pair a b,(x,y),n=>by
  have ha:=fun n=>(xk a x n).1
  have hb:=fun n=>(xk b y n).2
  have e2:∀ o∈(zy.zc (.pair a b) (x,y) n).2,∃ u l,o=Obj.row u l 0/\((Ty.pair a b).flat=true->u.qn=true):=by
   intro o ho;simp only [zy.zc,Gt] at ho;rcases ho with ho | ho
   ·obtain ⟨u,l,h1,h2⟩:=ha _ o ho;exact ⟨u,l,h1,fun h=>h2 (by simp only [Ty.flat,zA] at h;exact h.1)⟩
   ·obtain ⟨u,l,h1,h2⟩:=hb _ o ho;exact ⟨u,l,h1,fun h=>h2 (by simp only [Ty.flat,zA] at h;exact h.2)⟩
  refine ⟨?_,e2⟩;intro o ho;simp only [zy] at ho
  cases hr:(Ty.pair a b).zV with
  | true=>rw [hr] at ho;simp at ho
  | false=>
   rw [hr] at ho;exact e2 o ho
structure HI (gc g:z8) (n len:Nat) (oc o:qk):Prop where
 z6:∀ i,i < len->o (n+i)=oc i
 sv:∀ i p,i < len->g.sv (n+i) p=gc.sv i p
theorem Carry.left {w:World} {g g':z8} {a b:Ty} (h:Carry w g g' (.pair a b)):Carry w g g' a:=by
 rcases h with h | h
 ·exact .inl h
 ·simp only [Ty.flat,zA] at h;exact .inr h.1
theorem Carry.right {w:World} {g g':z8} {a b:Ty} (h:Carry w g g' (.pair a b)):Carry w g g' b:=by
 rcases h with h | h
 ·exact .inl h
 ·simp only [Ty.flat,zA] at h;exact .inr h.2
theorem VP {w:World} {gc g:z8} {n len:Nat} {oc o:qk} (hs:HI gc g n len oc o):(t:Ty)->(d:t.den)->(m:Nat)->Carry w gc g t->
  (∀ cs,m+(zy t d m).2.length<=len->jV w gc oc (zy t d m).1 cs->jV w g o (zy t d (n+m)).1 cs)/\
  (∀ cs,m+(zy.zc t d m).2.length<=len->jV w gc oc (zy.zc t d m).1 cs->jV w g o (zy.zc t d (n+m)).1 cs)
 | .sl true t,l,m,hc=>by
  refine ⟨fun cs hl h=>?_,fun cs _ h=>h⟩;obtain ⟨v,hv,qL,hx⟩:=h;have hm:m < len:=by simp only [zy,Z3r] at hl;omega
  refine ⟨v,hv,qL,fun t l e he=>?_⟩;rw [hs.z6 m hm] at he;obtain ⟨h1,h2⟩:=hx _ _ _ he
  exact ⟨h1,fun h=>by rw [hs.sv m [] hm];exact h2 h⟩
 | .sl false t,l,m,hc=>⟨fun cs _ h=>⟨h.1,hc.rep h.1 h.2⟩,fun cs _ h=>h⟩
 | .int _,_,m,hc=>⟨fun cs _ h=>⟨h.1,hc.rep h.1 h.2⟩,fun cs _ h=>h⟩
 | .bool,_,m,hc=>⟨fun cs _ h=>⟨h.1,hc.rep h.1 h.2⟩,fun cs _ h=>h⟩
 | .str,_,m,hc=>⟨fun cs _ h=>⟨h.1,hc.rep h.1 h.2⟩,fun cs _ h=>h⟩
 | .unit,_,m,hc=>⟨fun cs _ h=>⟨h.1,hc.rep h.1 h.2⟩,fun cs _ h=>h⟩
 | .arr _ _,_,m,hc=>⟨fun cs _ h=>⟨h.1,hc.rep h.1 h.2⟩,fun cs _ h=>h⟩
 | .ptr _,_,m,hc=>⟨fun cs _ h=>⟨h.1,hc.rep h.1 h.2⟩,fun cs _ h=>h⟩
 | .fn _ _,_,m,hc=>⟨fun cs _ h=>⟨h.1,hc.rep h.1 h.2⟩,fun cs _ h=>h⟩
 | .tree _,_,m,hc=>⟨fun cs _ h=>⟨h.1,hc.rep h.1 h.2⟩,fun cs _ h=>h⟩
 | .pair a b,(x,y),m,hc=>by
  have ha:=fun m=>(VP hs a x m hc.left).1
  have hb:=fun m=>(VP hs b y m hc.right).2
  have hl:(zy a x (n+m)).2.length=(zy a x m).2.length:=by rw [(va a x (n+m) m).1]
  have key:∀ cs,m+((zy a x m).2++(zy.zc b y (m+(zy a x m).2.length)).2).length<=len->
    (∃ c1 c2,cs=c1++c2/\jV w gc oc (zy a x m).1 c1/\jV w gc oc (zy.zc b y (m+(zy a x m).2.length)).1 c2)->
    ∃ c1 c2,cs=c1++c2/\jV w g o (zy a x (n+m)).1 c1/\jV w g o (zy.zc b y (n+m+(zy a x (n+m)).2.length)).1 c2:=by
   intro cs hle ⟨c1,c2,pN,h1,h2⟩;rw [Kj] at hle;refine ⟨c1,c2,pN,ha m c1 (by omega) h1,?_⟩;rw [hl,R4];exact hb _ c2 (by omega) h2
  refine ⟨fun cs hle h=>?_,fun cs hle h=>key cs (by simpa only [zy.zc] using hle) h⟩;simp only [zy] at hle h ⊢
  cases hr:(Ty.pair a b).zV with
  | true=>
   rw [hr] at h;simp only [zD] at h ⊢
   exact ⟨h.1,hc.rep h.1 h.2⟩
  | false=>
   rw [hr] at h hle;simp only [zW] at h hle ⊢;exact key cs hle h
theorem Ir:(t:Ty)->(d:t.den)->(n m:Nat)->(zy t d n).1.isAgg=(zy t d m).1.isAgg
 | .sl true t,l,n,m=>rfl
 | .sl false t,l,n,m=>rfl
 | .int _,_,_,_=>rfl
 | .bool,_,_,_=>rfl
 | .str,_,_,_=>rfl
 | .unit,_,_,_=>rfl
 | .arr _ _,_,_,_=>rfl
 | .ptr _,_,_,_=>rfl
 | .fn _ _,_,_,_=>rfl
 | .tree _,_,_,_=>rfl
 | .pair a b,(x,y),n,m=>by
  simp only [zy];cases (Ty.pair a b).zV <;> rfl
theorem pZ:(t:Ty)->(d:t.den)->(n:Nat)->(∀ x y,(zy t d n).1≠.pr x y)/\(zy t d n).1≠.un/\∀ c,(zy t d n).1≠.jC c
 | .sl true t,l,n=>⟨by simp [zy],by simp [zy],by simp [zy]⟩
 | .sl false t,l,n=>⟨by simp [zy],by simp [zy],by simp [zy]⟩
 | .int _,_,_=>⟨by simp [zy],by simp [zy],by simp [zy]⟩
 | .bool,_,_=>⟨by simp [zy],by simp [zy],by simp [zy]⟩
 | .str,_,_=>⟨by simp [zy],by simp [zy],by simp [zy]⟩
 | .unit,_,_=>⟨by simp [zy],by simp [zy],by simp [zy]⟩
 | .arr _ _,_,_=>⟨by simp [zy],by simp [zy],by simp [zy]⟩
 | .ptr _,_,_=>⟨by simp [zy],by simp [zy],by simp [zy]⟩
 | .fn _ _,_,_=>⟨by simp [zy],by simp [zy],by simp [zy]⟩
 | .tree _,_,_=>⟨by simp [zy],by simp [zy],by simp [zy]⟩
 | .pair a b,(x,y),n=>by
  simp only [zy];cases (Ty.pair a b).zV <;> simp
theorem VG {w:World} {gc g:z8} {n len:Nat} {oc o:qk} (hs:HI gc g n len oc o) (t:Ty) (d:t.den) (m:Nat) (hc:Carry w gc g t) {v:Value}
  (hl:m+(zy t d m).2.length<=len) (h:zl w gc oc (zy t d m).1 v):zl w g o (zy t d (n+m)).1 v:=by
 obtain ⟨cs,zR,hv⟩:=wc h (pZ t d m).2.2;exact yA ((VP hs t d m hc).1 cs hl zR) (by rw [hv,Ir t d (n+m) m]) (pZ t d _).1 (pZ t d _).2.1
theorem uO:(t:Ty)->(d:t.den)->(n:Nat)->(∀ i∈(zy t d n).1.ids,n<=i/\i < n+(zy t d n).2.length)/\(∀ i∈(zy.zc t d n).1.ids,n<=i/\i < n+(zy.zc t d n).2.length)
 | .sl true t,l,n=>⟨by simp [zy,z7.ids],by simp [zy.zc,z7.ids]⟩
 | .sl false t,l,n=>⟨by simp [zy,z7.ids],by simp [zy.zc,z7.ids]⟩
 | .int _,_,_=>⟨by simp [zy,z7.ids],by simp [zy.zc,z7.ids]⟩
 | .bool,_,_=>⟨by simp [zy,z7.ids],by simp [zy.zc,z7.ids]⟩
 | .str,_,_=>⟨by simp [zy,z7.ids],by simp [zy.zc,z7.ids]⟩
 | .unit,_,_=>⟨by simp [zy,z7.ids],by simp [zy.zc,z7.ids]⟩
 | .arr _ _,_,_=>⟨by simp [zy,z7.ids],by simp [zy.zc,z7.ids]⟩
 | .ptr _,_,_=>⟨by simp [zy,z7.ids],by simp [zy.zc,z7.ids]⟩
 | .fn _ _,_,_=>⟨by simp [zy,z7.ids],by simp [zy.zc,z7.ids]⟩
 | .tree _,_,_=>⟨by simp [zy,z7.ids],by simp [zy.zc,z7.ids]⟩
 | .pair a b,(x,y),n=>by
  have ha:=fun n=>(uO a x n).1
  have hb:=fun n=>(uO b y n).2
  have e2:∀ i∈(zy.zc (.pair a b) (x,y) n).1.ids,n<=i/\i < n+(zy.zc (.pair a b) (x,y) n).2.length:=by
   intro i hi;simp only [zy.zc,z7.ids,Gt,Kj] at hi ⊢;rcases hi with hi | hi
   ·have:=ha _ i hi;omega
   ·have:=hb _ i hi;omega
  refine ⟨?_,e2⟩;intro i hi;simp only [zy] at hi ⊢
  cases hr:(Ty.pair a b).zV with
  | true=>rw [hr] at hi;simp [z7.ids] at hi
  | false=>
   rw [hr] at hi;rw [zW] at hi ⊢;exact e2 i hi
end Go.Kz
namespace Go.Kz
variable {R:Type}
abbrev chain:=zx.chain
theorem Xf:(ts:List Ty)->(d:jv ts)->(n m:Nat)->(chain ts d n).2=(chain ts d m).2
 | [],_,_,_=>rfl
 | [t],d,n,m=>(va t d n m).1
 | t :: u :: ts,(d,ds),n,m=>by
  simp only [chain,zx.chain];rw [(va t d n m).1];congr 1;exact Xf (u :: ts) ds _ _
theorem VD:(ts:List Ty)->(d:jv ts)->(n:Nat)->∀ o∈(chain ts d n).2,∃ u l,o=Obj.row u l 0/\(pR ts=true->u.qn=true)
 | [],_,_,o,ho=>by simp [chain,zx.chain] at ho
 | [t],d,n,o,ho=>by
  obtain ⟨u,l,h1,h2⟩:=(xk t d n).1 o ho
  exact ⟨u,l,h1,fun h=>h2 (by simp only [pR,zA] at h;exact h.1)⟩
 | t :: u :: ts,(d,ds),n,o,ho=>by
  simp only [chain,zx.chain,Gt] at ho;rcases ho with ho | ho
  ·obtain ⟨u',l,h1,h2⟩:=(xk t d n).1 o ho;exact ⟨u',l,h1,fun h=>h2 (by simp only [pR,zA] at h;exact h.1)⟩
  ·obtain ⟨u',l,h1,h2⟩:=VD (u :: ts) ds _ o ho;exact ⟨u',l,h1,fun h=>h2 (by rw [pR,zA] at h;exact h.2)⟩
theorem Xe {w:World} {gc g:z8} {n len:Nat} {oc o:qk} (hs:HI gc g n len oc o):(ts:List Ty)->(d:jv ts)->(m:Nat)->(∀ t∈ts,Carry w gc g t)->
  ∀ vs,m+(chain ts d m).2.length<=len->qj w gc oc (chain ts d m).1 vs->qj w g o (chain ts d (n+m)).1 vs
 | [],_,_,_,vs,_,h=>by simpa [chain,zx.chain,qj] using h
 | [t],d,m,hc,vs,hl,h=>by
  simp only [chain,zx.chain,qj] at hl h ⊢;obtain ⟨v,r,hv,h1,h2⟩:=h
  exact ⟨v,r,hv,VG hs t d m (hc t (by simp)) hl h1,h2⟩
 | t :: u :: ts,(d,ds),m,hc,vs,hl,h=>by
  simp only [chain,zx.chain,qj,Kj] at hl h ⊢;obtain ⟨v,r,hv,h1,h2⟩:=h;refine ⟨v,r,hv,VG hs t d m (hc t (by simp)) (by omega) h1,?_⟩;have e:(zy t d (n+m)).2.length=(zy t d m).2.length:=by rw [(va t d (n+m) m).1]
  rw [e,R4];exact Xe hs (u :: ts) ds _ (fun t ht=>hc t (by simp at ht ⊢;exact .inr ht)) r (by rw [<-R4] at hl;exact hl) h2
theorem Bm:(ts:List Ty)->(d:jv ts)->(n:Nat)->∀ i∈(chain ts d n).1.ids,n<=i/\i < n+(chain ts d n).2.length
 | [],_,_,i,hi=>by simp [chain,zx.chain,z7.ids] at hi
 | [t],d,n,i,hi=>by
  simp only [chain,zx.chain,z7.ids,AL] at hi ⊢
  exact (uO t d n).1 i hi
 | t :: u :: ts,(d,ds),n,i,hi=>by
  simp only [chain,zx.chain,z7.ids,Gt,Kj] at hi ⊢;rcases hi with hi | hi
  ·have:=(uO t d n).1 i hi;omega
  ·have:=Bm (u :: ts) ds _ i hi;simp only [chain] at this;omega
theorem Ec:(ts:List Ty)->(d:jv ts)->(n m:Nat)->(zx ts d n).2=(zx ts d m).2
 | [],_,_,_=>rfl
 | [t],d,n,m=>(va t d n m).1
 | t :: u :: ts,(d,ds),n,m=>by
  simp only [zx];rw [(va t d n m).1];congr 1;exact Xf (u :: ts) ds _ _
theorem Eb:(ts:List Ty)->(d:jv ts)->(n:Nat)->∀ o∈(zx ts d n).2,∃ u l,o=Obj.row u l 0/\(pR ts=true->u.qn=true)
 | [],_,_,o,ho=>by simp [zx] at ho
 | [t],d,n,o,ho=>VD [t] d n o ho
 | t :: u :: ts,(d,ds),n,o,ho=>VD (t :: u :: ts) (d,ds) n o ho
theorem z5j:(ts:List Ty)->(d:jv ts)->(n:Nat)->∀ i∈(zx ts d n).1.ids,n<=i/\i < n+(zx ts d n).2.length
 | [],_,_,i,hi=>by simp [zx,z7.ids] at hi
 | [t],d,n,i,hi=>(uO t d n).1 i hi
 | t :: u :: ts,(d,ds),n,i,hi=>Bm (t :: u :: ts) (d,ds) n i hi
theorem z5i {w:World} {gc g:z8} {n len:Nat} {oc o:qk} (hs:HI gc g n len oc o):(ts:List Ty)->(d:jv ts)->(∀ t∈ts,Carry w gc g t)->
  ∀ v,(zx ts d 0).2.length<=len->zl w gc oc (zx ts d 0).1 v->zl w g o (zx ts d n).1 v
 | [],_,_,v,_,h=>by
  simp only [zx,zl,qj] at h ⊢;exact h
 | [t],d,hc,v,hl,h=>VG hs t d 0 (hc t (by simp)) (by simpa [zx] using hl) h
 | t :: u :: ts,(d,ds),hc,v,hl,h=>by
  have h':∃ vs,v = .tuple vs.toArray/\qj w gc oc (chain (t :: u :: ts) (d,ds) 0).1 vs:=by
   simpa only [zx,zl,chain,zx.chain] using h
  obtain ⟨vs,hv,h2⟩:=h';have:=Xe hs (t :: u :: ts) (d,ds) 0 hc vs (by rw [Zp];exact hl) h2;show zl w g o (.jC (chain (t :: u :: ts) (d,ds) n).1) v;simp only [zl];exact ⟨vs,hv,this⟩
theorem Om {w:World} {g g':z8} {ts:List Ty} (h:zO w g w g'\/pR ts=true):∀ t∈ts,Carry w g g' t:=by
 rcases h with h | h
 ·exact fun _ _=>.inl h
 ·induction ts with
  | nil=>simp
  | cons t ts ih=>
   simp only [pR,zA] at h;intro u hu;rcases gX.1 hu with rfl | hu
   ·exact .inr h.1
   ·exact ih h.2 u hu
theorem jH {I:Type}:{l:List I}->{i:Nat}->{x:I}->zF l i=some x->x∈l
 | [],i,x,h=>by cases i <;> simp [zF] at h
 | y :: l,0,x,h=>by simp only [zF,zI] at h;simp [h]
 | y :: l,i+1,x,h=>by simp only [zF] at h;exact LZ _ (jH h)
theorem wj {I:Type}:{l:List I}->{i:Nat}->{x:I}->zF l i=some x->i < l.length
 | [],i,x,h=>by cases i <;> simp [zF] at h
 | y :: l,0,x,h=>by simp
 | y :: l,i+1,x,h=>by simp only [zF] at h;have:=wj h;simp;omega
structure Ey (w:World) (g gl:z8):Prop where
 tags:∀ b,gl.tag b≠.zn->gl.tag b = .ro/\b < w.heap.size
section
variable {w w':World} {g gl gc:z8} {n len:Nat}
theorem kL (hl:Ey w g gl) (he:Ext w gl w' gc) {b:Nat} (hb:b < w.heap.size):w'.heap[b]? = w.heap[b]?/\gc.tag b=gl.tag b:=by
 refine he.vj b hb ?_;by_cases h:gl.tag b = .zn
 ·exact .inl h
 ·exact .inr (hl.tags b h).1
theorem T5 (hl:Ey w g gl) (he:Ext w gl w' gc) (ht:∀ b,g.tag b≠.zn->b < w.heap.size):zO w g w' (jO g gc n len w.heap.size):=
 ⟨fun b hb=>by
  have qJ:=ht b (by rw [hb];simp);exact ⟨by simp only [jO,yW qJ];exact hb,(kL hl he qJ).1⟩⟩
theorem Ub (hl:Ey w g gl) (he:Ext w gl w' gc) (ht:∀ b,g.tag b≠.zn->b < w.heap.size) {id:Nat} (hid:id < n\/n+len<=id):Zj w g w' (jO g gc n len w.heap.size) id:=by
 refine ⟨⟨fun q=>by simp only [jO];rw [qQ (by omega)],fun q b hb=>?_⟩,by simp only [jO];rw [qQ (by omega)],fun hb=>?_⟩
 ·have qJ:=ht b (by rw [hb];simp);exact ⟨by simp only [jO,yW qJ];exact hb,(kL hl he qJ).1⟩
 ·have qJ:=ht (g.zt id) (by rw [hb];simp);exact ⟨by simp only [jO,yW qJ];exact hb,(kL hl he qJ).1⟩
theorem OJ (hl:Ey w g gl) (he:Ext w gl w' gc):Ext w g w' (jO g gc n len w.heap.size):=
 ⟨he.os,he.tape,he.output,he.drawn,he.size,fun b hb _=>⟨(kL hl he hb).1,by simp only [jO,yW hb]⟩⟩
theorem Fz (hl:Ey w g gl) (he:Ext w gl w' gc) {i:Nat} (hi:i < len):xZ w' gc w' (jO g gc n len w.heap.size) i [] (n+i) []:=by
 refine ⟨fun q=>?_,fun q b hb=>⟨?_,rfl⟩⟩
 ·simp only [jO];rw [yW (by omega)];congr 1;omega
 ·have AA:¬ b < w.heap.size:=by
   intro qJ;have:=(kL hl he qJ).2;rw [hb] at this;by_cases h:gl.tag b = .zn
   ·rw [h] at this;simp at this
   ·rw [(hl.tags b h).1] at this;simp at this
  simp only [jO,qQ AA,hb,yW hi]
theorem T4 {N:Nat} {a:Act} {J:St} {ts:List Ty} {d:jv ts} {v:Value} (zq:zK N g w a J) (hl:Ey w g gl) (he:Ext w gl w' gc)
  (vQ:∀ m,n<=m->m < n+8->zY g J m) (hlen:(zx ts d 0).2.length<=8) (hc:zO w' gc w' (jO g gc n (zx ts d 0).2.length w.heap.size)\/pR ts=true)
  (VZ:Kg w' gc (zx ts d 0) v) :
  let g':=jO g gc n (zx ts d 0).2.length w.heap.size;let J':=J.gG n (zx ts d n).2
  zK N g' w' a J'/\zl w' g' J'.z6 (zx ts d n).1 v/\(∀ m,(m < n\/n+8<=m)->zY g J m->zY g' J' m/\m∉(zx ts d n).1.ids):=by
 intro g' J';have ht:=zq.heap.tags;let os:=(zx ts d 0).2;have hosl:os.length=(zx ts d 0).2.length:=rfl;have Ry:(zx ts d n).2=os:=Ec ts d n 0;have pI:∀ id,J'.z6 id=if n<=id/\id < n+os.length then zF os (id-n) else J.z6 id:=by
  intro id;show (J.gG n (zx ts d n).2).z6 id=_;rw [Kq,Ry]
 have TC:J'.zj=J.zj:=Jn _ _ _;have qv:zO w g w' g':=T5 hl he ht;have pL:∀ id,¬ zY g J id->qz g g' id (J.z6 id) (J'.z6 id):=by
  intro id hid;have uL:id < n\/n+os.length<=id:=by
   by_cases h:n<=id/\id < n+os.length
   ·exact absurd (vQ id h.1 (by omega)) hid
   ·omega
  rw [pI,qQ (by omega)];exact qz.same (Ub hl he ht uL)
 have TD:HI gc g' n os.length (zF os) J'.z6:=by
  refine ⟨fun i hi=>?_,fun i p hi=>?_⟩
  ·rw [pI,yW (by omega)];congr 1;omega
  ·show (jO g gc n os.length w.heap.size).sv (n+i) p=_;simp only [jO];rw [yW (by omega)];congr 1;omega
 have zf6:=Om hc;refine ⟨⟨fun i av hi=>?_,⟨fun id x hx=>?_,fun b hb=>?_⟩,zq.size,zq.defers,zq.known.kept qv⟩,?_,fun m hm hf=>⟨⟨?_,fun b p hb=>?_,fun b hb=>?_,fun i av hi=>?_,fun id av hi=>?_⟩,?_⟩⟩
 ·rw [TC] at hi;obtain ⟨u,hu,zR⟩:=zq.zj i av hi;exact ⟨u,hu,zl.frame qv (fun id hid=>pL id (fun hf=>hf.zj i av hi hid)) zR⟩
 ·rw [pI] at hx;by_cases Qv:n<=id/\id < n+os.length
  ·rw [yW Qv] at hx;obtain ⟨i,rfl⟩:∃ i,id=n+i:=⟨id-n,by omega⟩;have hi:i < os.length:=by omega
   rw [Z58] at hx;obtain ⟨u,l,My,To⟩:=Eb ts d 0 x (jH hx);have zg:=VZ.1.z6 i x hx;subst My;refine ⟨zg.1,?_⟩;have qT:=TD.sv i [] hi;rw [qT];have hcr:Carry w' gc g' (.sl true u):=by
    rcases hc with h | h
    ·exact .inl h
    ·exact .inr (by simpa [Ty.flat] using To h)
   exact Carry.row hcr (Fz hl he hi) zg.2
  ·rw [qQ Qv] at hx;refine zm.frame qv (Ub hl he ht (by omega)) (fun y hy vu IL=>pL vu (fun hf=>?_)) (zq.heap.z6 id x hx);subst hy;exact hf.cells id y hx IL
 ·have Zg:(jO g gc n os.length w.heap.size).tag b≠.zn:=hb;simp only [jO] at Zg;by_cases qJ:b < w.heap.size
  ·have:=he.size;omega
  ·rw [qQ qJ] at Zg;refine VZ.1.tags b ?_;intro hal;rw [hal] at Zg;simp at Zg
 ·refine z5i TD ts d zf6 v (yS _) VZ.2
 ·rw [pI,qQ (by omega)];exact hf.z6
 ·have Zg:(jO g gc n os.length w.heap.size).tag b = .row m p:=hb;simp only [jO] at Zg;split at Zg
  ·exact hf.row b p Zg
  ·split at Zg
   ·split at Zg
    ·simp only [Tag.row.injEq] at Zg;omega
    ·simp at Zg
   ·split at Zg <;> simp at Zg
   ·rename_i h1 _;exact h1 _ _ Zg
 ·have Zg:(jO g gc n os.length w.heap.size).tag b = .box m:=hb;simp only [jO] at Zg;split at Zg
  ·exact hf.box b Zg
  ·split at Zg
   ·split at Zg <;> simp at Zg
   ·split at Zg
    ·simp only [Tag.box.injEq] at Zg;omega
    ·simp at Zg
   ·rename_i _ h1;exact h1 _ Zg
 ·rw [TC] at hi;exact hf.zj i av hi
 ·rw [pI] at hi;split at hi
  ·obtain ⟨u,l,My,_⟩:=Eb ts d 0 _ (jH hi);simp at My
  ·exact hf.cells id av hi
 ·intro Xy;have:=z5j ts d n m Xy;rw [Ry] at this;omega
end
end Go.Kz
namespace Go.Kz
variable {R:Type}
theorem CS {w:World} {g:z8} {z6:qk}:{a:z7}->{cs:List Value}->gC a=true->jV w g z6 a cs->qj w g z6 a cs
 | .pr x c,cs,hl,h=>by
  simp only [gC,zA,A1] at hl;obtain ⟨c1,c2,rfl,h1,h2⟩:=h;obtain ⟨vl,Zo,Xq,OH⟩:=w6 hl.1.1;have hlen:=h1.len;have qK:x.sk.size=1:=by
   have:=hl.1.2;cases w7:x.sk <;> rw [w7] at this <;> simp [Sk.isAgg] at this;rfl
  rw [qK] at hlen;obtain ⟨v,rfl⟩:=Z2e.1 hlen;simp only [qj];refine ⟨v,c2,rfl,yA h1 ?_ Zo Xq,CS hl.2 h2⟩
  rw [vl,hl.1.2];rfl
 | .un,cs,_,h=>by simp only [qj];exact h
 | .data _ _,_,hl,_=>by simp [gC] at hl
 | .qy,_,hl,_=>by simp [gC] at hl
 | .ref _ _ _,_,hl,_=>by simp [gC] at hl
 | .view _ _ _ _ _,_,hl,_=>by simp [gC] at hl
 | .zu _ _,_,hl,_=>by simp [gC] at hl
 | .vW _ _ _,_,hl,_=>by simp [gC] at hl
 | .qA _,_,hl,_=>by simp [gC] at hl
 | .nv _ _ _ _,_,hl,_=>by simp [gC] at hl
 | .yG _ _,_,hl,_=>by simp [gC] at hl
 | .agg _,_,hl,_=>by simp [gC] at hl
 | .jC _,_,hl,_=>by simp [gC] at hl
theorem KV {w:World} {g:z8} {z6:qk}:{a c:z7}->{vs us:List Value}->qj w g z6 a vs->qj w g z6 c us->qj w g z6 (K7 a c) (vs++us)
 | .pr x y,c,vs,us,h,k=>by
  simp only [qj,K7] at h ⊢;obtain ⟨v,r,rfl,h1,h2⟩:=h
  exact ⟨v,r++us,rfl,h1,KV h2 k⟩
 | .un,c,vs,us,h,k=>by
  simp only [qj] at h;subst h
  exact k
 | .data _ _,_,_,_,h,_=>by simp [qj] at h
 | .qy,_,_,_,h,_=>by simp [qj] at h
 | .ref _ _ _,_,_,_,h,_=>by simp [qj] at h
 | .view _ _ _ _ _,_,_,_,h,_=>by simp [qj] at h
 | .zu _ _,_,_,_,h,_=>by simp [qj] at h
 | .vW _ _ _,_,_,_,h,_=>by simp [qj] at h
 | .qA _,_,_,_,h,_=>by simp [qj] at h
 | .nv _ _ _ _,_,_,_,h,_=>by simp [qj] at h
 | .yG _ _,_,_,_,h,_=>by simp [qj] at h
 | .agg _,_,_,_,h,_=>by simp [qj] at h
 | .jC _,_,_,_,h,_=>by simp [qj] at h
theorem Zc {w:World} {g:z8} {J:St} (hh:yZ w g J.z6) {a:z7} {t:Ty} {f:t.den->Option R} {r:R} (hv:a.val=true) (h:asData J 20 a t f=some r):a.isAgg=t.sk.isAgg:=by
 cases a with
 | data t' d=>
  simp only [asData] at h
  simp only [z7.isAgg,Qs h]
 | qy=>
  simp only [asData] at h
  cases hb:t.zV with
  | false=>rw [hb] at h;simp at h
  | true=>
   rw [hb] at h;obtain ⟨o,u,rfl,_⟩:=YF h
   rfl
 | ref id p ep=>
  simp only [asData] at h;obtain ⟨t',l,_,_,_,h⟩:=wE hh h
  rw [<-Qs h];rfl
 | view id p ep x y=>
  simp only [asData] at h;obtain ⟨t',l,_,_,_,h⟩:=wE hh h
  rw [<-Qs h];rfl
 | zu id p=>cases t <;> simp [asData] at h <;> rfl
 | vW id p ep=>cases t <;> simp [asData] at h <;> rfl
 | qA id=>simp [asData] at h
 | JJ t c=>simp [asData] at h
 | nv pt id p ep=>
  cases pt with
  | true=>simp [asData] at h
  | false=>
   simp only [asData] at h;obtain ⟨_,_,_,_,_,_,_,_,_,h,_⟩:=Pq hh h
   rw [<-Qs h];rfl
 | yG f c=>cases t <;> simp [asData] at h <;> rfl
 | agg c=>
  cases c with
  | pr x y=>
   simp only [asData] at h
   cases t <;> simp [asData] at h <;> rfl
  | un=>
   simp only [asData] at h
   cases t <;> simp [asData] at h <;> rfl
  | _=>simp [z7.val] at hv
 | jC c=>simp [z7.val] at hv
 | pr x y=>simp [z7.val] at hv
 | un=>simp [z7.val] at hv
theorem uV {w:World} {g:z8} {J:St}:(n:Nat)->{a:z7}->{t:Ty}->{k:t.den->Option R}->{r:R}->{cs:List Value}->wv a=true->
  jV w g J.z6 a cs->asData J n a t k=some r->∃ d,k d=some r/\t.zV=true/\zC w g none t d cs
 | 0,_,_,_,_,_,_,_,h=>by simp [asData] at h
 | n+1,.data t' d,t,k,r,cs,_,zR,h=>by
  simp only [asData] at h;obtain ⟨_,h,qv,hF⟩:=vV h zR.1
  exact ⟨_,h,qv,hF _ _ _ zR.2⟩
 | n+1,.qy,t,k,r,cs,_,zR,h=>by
  simp only [asData] at h
  cases hb:t.zV with
  | false=>rw [hb] at h;simp at h
  | true=>
   rw [hb] at h;obtain ⟨o,u,rfl,h⟩:=YF h
   cases o with
   | true=>simp [Ty.zV] at hb
   | false=>
    have WY:cs=[.slice none 0 0]:=zR;subst WY
    exact ⟨_,h,rfl,none,0,rfl,yS _,jE _,fun hn=>absurd rfl hn⟩
 | n+1,.yG f c,t,k,r,cs,hn,zR,h=>by
  cases t with
  | fn f' t=>
   simp only [asData] at h
   cases hb:Nat.beq f f' with
   | false=>rw [hb] at h;simp at h
   | true=>
    rw [hb] at h;have he:f=f':=zE hb;subst he;obtain ⟨vs,rfl,hc⟩:=zR;obtain ⟨d,hk,hr,zX⟩:=uV n (a:=c) (by simpa [wv] using hn) hc h
    exact ⟨d,hk,by simpa [Ty.zV] using hr,vs,rfl,zX⟩
  | _=>simp [asData] at h
 | n+1,.agg c,t,k,r,cs,hn,zR,h=>by
  simp only [asData] at h
  exact uV n (a:=c) (by simpa [wv] using hn) zR h
 | n+1,.pr a b,t,k,r,cs,hn,zR,h=>by
  cases t with
  | pair t u=>
   simp only [asData] at h;simp only [wv,zA] at hn;obtain ⟨c1,c2,rfl,ha,hb⟩:=zR;obtain ⟨x,hk,OC,pH⟩:=uV n hn.1 ha h;obtain ⟨y,hk,A8,pg⟩:=uV n hn.2 hb hk
   exact ⟨(x,y),hk,by simp [Ty.zV,OC,A8],c1,c2,rfl,pH,pg⟩
  | _=>simp [asData] at h
 | n+1,.un,t,k,r,cs,_,zR,h=>by
  cases t with
  | unit=>
   simp only [asData] at h
   exact ⟨(),h,rfl,zR⟩
  | _=>simp [asData] at h
 | n+1,.ref _ _ _,_,_,_,_,hn,_,_=>by simp [wv] at hn
 | n+1,.view _ _ _ _ _,_,_,_,_,hn,_,_=>by simp [wv] at hn
 | n+1,.zu _ _,_,_,_,_,hn,_,_=>by simp [wv] at hn
 | n+1,.vW _ _ _,_,_,_,_,hn,_,_=>by simp [wv] at hn
 | n+1,.qA _,_,_,_,_,hn,_,_=>by simp [wv] at hn
 | n+1,.nv _ _ _ _,_,_,_,_,hn,_,_=>by simp [wv] at hn
 | n+1,.jC _,_,_,_,_,_,zR,_=>zR.elim
def xX (g:z8):z8:={ g with tag:=fun b=>match g.tag b with
 | .ro=>.ro
 | _=>.zn }
theorem VF {g:z8} {b:Nat}:(xX g).tag b = .ro↔g.tag b = .ro:=by
 simp only [xX];cases g.tag b <;> simp
theorem C5 (w:World) (g:z8):zO w g w (xX g):=⟨fun b hb=>⟨VF.2 hb,rfl⟩⟩
theorem HQ {w:World} {g:z8} (ht:∀ b,g.tag b≠.zn->b < w.heap.size):Ey w g (xX g):=by
 refine ⟨fun b hb=>?_⟩;have h1:(xX g).tag b = .ro:=by
  simp only [xX] at hb ⊢;cases h:g.tag b <;> rw [h] at hb <;> simp at hb ⊢
 exact ⟨h1,ht b (by rw [VF.1 h1];simp)⟩
theorem Sw {w:World} {g:z8} (ht:∀ b,g.tag b≠.zn->b < w.heap.size):Ey w g (B4 g):=by
 refine ⟨fun b hb=>?_⟩;simp only [B4] at hb ⊢
 cases h:g.tag b with
 | zn=>rw [h] at hb;simp at hb
 | ro=>exact ⟨rfl,ht b (by rw [h];simp)⟩
 | row i p=>exact ⟨rfl,ht b (by rw [h];simp)⟩
 | box i=>exact ⟨rfl,ht b (by rw [h];simp)⟩
theorem Nq {w:World} {g gl:z8} {J:St} (hh:yZ w g J.z6) (hgl:gl=B4 g\/gl=xX g):{p:kG}->{a:z7}->{vs:List Value}->{b:Qq}->{k:p.den->Qq->Option R}->{r:R}->
  (gl=B4 g\/wv a=true)->kq p=true->jc a=true->qj w g J.z6 a vs->vF J p a b k=some r->∃ d,k d b=some r/\xA w gl p d vs
 | .pr (.val t) q,.pr x y,vs,b,k,r,hm,hp,hv,h,hk=>by
  simp only [vF] at hk;simp only [jc,zA] at hv;simp only [qj] at h;obtain ⟨v,rest,rfl,h1,h2⟩:=h;obtain ⟨vl,Zo,Xq,OH⟩:=w6 hv.1;obtain ⟨cs,zR,Qj⟩:=wc h1 OH;have hd:∃ d,(vF J q y b fun dy b=>k (d,dy) b)=some r/\t.zV=true/\zC w gl none t d cs:=by
   rcases hm with rfl | hm
   ·exact kf hh 20 zR hk
   ·simp only [wv,zA] at hm;obtain ⟨d,hk,hr,zX⟩:=uV 20 hm.1 zR hk;refine ⟨d,hk,hr,?_⟩;rcases hgl with rfl | rfl
    ·exact zX.kept (QU w g)
    ·exact zX.kept (C5 w g)
  obtain ⟨d,A9,hr,zX⟩:=hd;obtain ⟨dy,GX,hargs⟩:=Nq hh hgl (hm.imp _root_.id (fun hm=>by simp only [wv,zA] at hm;exact hm.2)) (by simpa [kq] using hp) hv.2 h2 A9
  exact ⟨(d,dy),GX,hr,⟨cs,zX,by rw [Qj,Zc hh hv.1 hk]⟩,hargs⟩
 | .un,.un,vs,b,k,r,_,_,_,h,hk=>by
  simp only [vF] at hk;simp only [qj] at h;subst h
  exact ⟨(),hk,trivial⟩
 | .un,.pr _ _,_,_,_,_,_,_,_,_,hk=>by simp [vF] at hk
 | .un,.data _ _,_,_,_,_,_,_,hv,_,_=>by simp [jc] at hv
 | .un,.qy,_,_,_,_,_,_,hv,_,_=>by simp [jc] at hv
 | .un,.ref _ _ _,_,_,_,_,_,_,hv,_,_=>by simp [jc] at hv
 | .un,.view _ _ _ _ _,_,_,_,_,_,_,hv,_,_=>by simp [jc] at hv
 | .un,.zu _ _,_,_,_,_,_,_,hv,_,_=>by simp [jc] at hv
 | .un,.vW _ _ _,_,_,_,_,_,_,hv,_,_=>by simp [jc] at hv
 | .un,.qA _,_,_,_,_,_,_,hv,_,_=>by simp [jc] at hv
 | .un,.nv _ _ _ _,_,_,_,_,_,_,hv,_,_=>by simp [jc] at hv
 | .un,.yG _ _,_,_,_,_,_,_,hv,_,_=>by simp [jc] at hv
 | .un,.agg _,_,_,_,_,_,_,hv,_,_=>by simp [jc] at hv
 | .un,.jC _,_,_,_,_,_,_,hv,_,_=>by simp [jc] at hv
 | .pr (.val _) _,.un,_,_,_,_,_,_,_,_,hk=>by simp [vF] at hk
 | .pr (.val _) _,.data _ _,_,_,_,_,_,_,hv,_,_=>by simp [jc] at hv
 | .pr (.val _) _,.qy,_,_,_,_,_,_,hv,_,_=>by simp [jc] at hv
 | .pr (.val _) _,.ref _ _ _,_,_,_,_,_,_,hv,_,_=>by simp [jc] at hv
 | .pr (.val _) _,.view _ _ _ _ _,_,_,_,_,_,_,hv,_,_=>by simp [jc] at hv
 | .pr (.val _) _,.zu _ _,_,_,_,_,_,_,hv,_,_=>by simp [jc] at hv
 | .pr (.val _) _,.vW _ _ _,_,_,_,_,_,_,hv,_,_=>by simp [jc] at hv
 | .pr (.val _) _,.qA _,_,_,_,_,_,_,hv,_,_=>by simp [jc] at hv
 | .pr (.val _) _,.nv _ _ _ _,_,_,_,_,_,_,hv,_,_=>by simp [jc] at hv
 | .pr (.val _) _,.yG _ _,_,_,_,_,_,_,hv,_,_=>by simp [jc] at hv
 | .pr (.val _) _,.agg _,_,_,_,_,_,_,hv,_,_=>by simp [jc] at hv
 | .pr (.val _) _,.jC _,_,_,_,_,_,_,hv,_,_=>by simp [jc] at hv
 | .pr (.ref _) _,_,_,_,_,_,_,hp,_,_,_=>by simp [kq] at hp
 | .pr (.zu _) _,_,_,_,_,_,_,hp,_,_,_=>by simp [kq] at hp
 | .pr (.yG _ _) _,_,_,_,_,_,_,hp,_,_,_=>by simp [kq] at hp
 | .pr (.agg _) _,_,_,_,_,_,_,hp,_,_,_=>by simp [kq] at hp
 | .pr (.pr _ _) _,_,_,_,_,_,_,hp,_,_,_=>by simp [kq] at hp
 | .pr .un _,_,_,_,_,_,_,hp,_,_,_=>by simp [kq] at hp
 | .val _,_,_,_,_,_,_,hp,_,_,_=>by simp [kq] at hp
 | .ref _,_,_,_,_,_,_,hp,_,_,_=>by simp [kq] at hp
 | .zu _,_,_,_,_,_,_,hp,_,_,_=>by simp [kq] at hp
 | .yG _ _,_,_,_,_,_,_,hp,_,_,_=>by simp [kq] at hp
 | .agg _,_,_,_,_,_,_,hp,_,_,_=>by simp [kq] at hp
section
variable {P:Program} {o:Oper} {a:Act} {w:World} {K:Act->World->Prop} {Q:Exit->Act->World->Prop} {c:Ctx} {J:St} {g:z8} {k:St->Option R} {r:R} {base:Nat} {mo:Bool}
theorem z1f {J':St} {g':z8} {w':World} {av:z7} {v:Value} (zq:zK c.ntmps g' w' a J') (qM:Ext w g w' g')
  (vQ:∀ m,(m < base\/base+8<=m)->zY g J m->zY g' J' m/\m∉av.ids) (hn:J'.next=J.next) (hv:zl w' g' J'.z6 av v)
  (h:J'.qe c o.dst av k=some r) (vl:mo=false->jT w w') (hK:jt c.ntmps k r g w J base mo K):K (a.put o.dst v) w':=by
 rcases gM h with ⟨hd,hk⟩ | ⟨i,hd,hi,hk⟩
 ·rw [hd];exact hK J' g' a w' hk zq qM (fun m hm hf=>(vQ m hm hf).1) hn vl
 ·rw [hd];exact hK _ g' _ w' hk (zq.put hi hv) qM (fun m hm hf=>(vQ m hm hf).1.set i (vQ m hm hf).2) hn vl
theorem Bo {gv args all:z7} {fid:Nat} {x:Operand} {vs:List Value} (hg:zl w g J.z6 gv (a.eval x)) (hargs:qj w g J.z6 args vs)
  (h:K1 gv args=some (fid,all)) :
  ∃ us,a.eval x = .func (.func fid) #[] us.toArray/\qj w g J.z6 all (vs++us):=by
 unfold K1 at h;split at h
 ·rename_i f cap
  cases hl:gC cap with
  | false=>rw [hl] at h;simp at h
  | true=>
   rw [hl] at h;simp only [zD,zI,gB] at h;obtain ⟨rfl,rfl⟩:=h;simp only [zl] at hg;obtain ⟨cs,⟨us,rfl,hc⟩,hv⟩:=hg;exact ⟨us,hv,KV hargs (CS hl hc)⟩
 ·rename_i f t d
  cases hl:(gC (j5 t d) && (j5 t d).sk.same t.sk) with
  | false=>rw [hl] at h;simp at h
  | true=>
   rw [hl] at h;simp only [zD,zI,gB] at h;obtain ⟨rfl,rfl⟩:=h;simp only [zA] at hl;simp only [zl] at hg;obtain ⟨cs,⟨qv,us,rfl,zX⟩,hv⟩:=hg;exact ⟨us,hv,KV hargs (CS hl.1 (ZY (by simpa [Ty.zV] using qv) zX (Sk.qw hl.2)))⟩
 ·simp at h
theorem YX {a:z7}:{l:List Callee}->{x:Callee}->GV a l=some x->x∈l
 | [],_,h=>by simp [GV] at h
 | y :: l,x,h=>by
  simp only [GV] at h
  cases hf:y.fits a with
  | true=>rw [hf] at h;simp only [zD,zI] at h;simp [h]
  | false=>rw [hf] at h;exact LZ _ (YX h)
theorem W6 {fid:Nat} {p:kG} {res:List Ty} {F:p.den->Option (jv res)} (hco:qD P fid (.pure p res F)) {all:z7} {vals:List Value} (zb:(execOp a.eval o).run P w=(callFunc fid vals.toArray).run P w) (hall:qj w g J.z6 all vals)
  (zq:zK c.ntmps g w a J) (vQ:∀ m,base<=m->m < base+8->zY g J m)
  (h:(K2 J base all p res F fun v J=>J.qe c o.dst v k)=some r) (hK:jt c.ntmps k r g w J base mo K):o.wp P a w K Q:=by
 ·unfold K2 at h
  cases hb:(kq p && jc all && (pR res || wv all)) with
  | false=>rw [hb] at h;simp at h
  | true=>
   rw [hb] at h;simp only [zD] at h;simp only [zA,HJ] at hb;have key:∀ gl,(gl=B4 g\/gl=xX g)->(gl=B4 g\/wv all=true)->(gl=xX g\/pR res=true)->o.wp P a w K Q:=by
    intro gl hgl zkv zen;have FP:Ey w g gl:=by
     rcases hgl with rfl | rfl
     ·exact Sw zq.heap.tags
     ·exact HQ zq.heap.tags
    obtain ⟨d,hk,qv⟩:=Nq zq.heap hgl zkv hb.1.1 hb.1.2 hall h;simp only [VN] at hk;obtain ⟨rv,hF,hk⟩:=hk
    cases vT:Nat.ble (zx res rv base).2.length 8 with
    | false=>rw [vT] at hk;simp at hk
    | true=>
     rw [vT] at hk;simp only [zD] at hk;have hlen:=zL vT;rw [Ec res rv base 0] at hlen;have zao:∀ v w',(∃ g',Ext w gl w' g'/\Kg w' g' (zx res rv 0) v)->K (a.put o.dst v) w':=by
      intro v w' ⟨gc,qM,VZ⟩;have hc:zO w' gc w' (jO g gc base (zx res rv 0).2.length w.heap.size)\/pR res=true:=by
       rcases zen with rfl | hf
       ·left;refine ⟨fun b hb=>⟨?_,rfl⟩⟩;simp only [jO];by_cases qJ:b < w.heap.size
        ·rw [yW qJ];have:=(kL FP qM qJ).2;rw [hb] at this;exact VF.1 this.symm
        ·rw [qQ qJ,hb]
       ·exact .inr hf
      obtain ⟨h1,h2,h3⟩:=T4 zq FP qM vQ hlen hc VZ;exact z1f h1 (OJ FP qM) h3 (Ky _ _ _) h2 hk (fun _ b hb=>(kL FP qM hb).1) hK
     have AU:Known w gl:=by
      rcases hgl with rfl | rfl
      ·exact zq.known.kept (QU w g)
      ·exact zq.known.kept (C5 w g)
     rcases hco w gl d vals rv FP.tags AU qv hF with ⟨OC,A8⟩ | ⟨v,w',OC,A8⟩
     ·unfold Oper.wp;rw [zb,OC,Oper.upon_enter];refine Calls.mono A8 (fun e w' he=>?_);obtain ⟨v,rfl,hv⟩:=he;exact zao v w' hv
     ·unfold Oper.wp;rw [zb,OC,Oper.upon_value];exact zao v w' A8
   by_cases hn:wv all=true
   ·exact key (xX g) (.inr rfl) (.inr hn) (.inl rfl)
   ·exact key (B4 g) (.inl rfl) (.inl rfl) (.inr (hb.2.resolve_right hn))
theorem GC {w:World} {R:Type}:(p:kG)->(all:z7)->{J:St}->{g:z8}->{vals:List Value}->{k:z7->St->Option R}->{r:R}->yZ w g J.z6->qj w g J.z6 all vals->gW p all J k=some r->
  ∃ z29 J' g',k z29 J'=some r/\J'.zj=J.zj/\J'.next=J.next/\jQ g J.z6 g' J'.z6/\qj w g' J'.z6 z29 vals:=by
 intro p
 induction p with
 | pr p q _ ihq=>
  intro all J g vals k r hh hv h
  cases p with
  | val t=>
   cases all with
   | pr a c=>
    simp only [gW] at h;obtain ⟨hb,h⟩:=VC h;simp only [zA] at hb;obtain ⟨⟨hval,qv⟩,w7⟩:=hb;simp only [qj] at hv;obtain ⟨v,vs,rfl,OX,uc⟩:=hv;obtain ⟨cs,pN,Qj,_⟩:=ji hval OX;obtain ⟨d,J1,g1,Zk,h1,h2,h3,zX⟩:=kA 20 hh pN qv h;have zsq:qj w g1 J1.z6 c vs:=qj.frame (h3.ro w) (fun id _=>h3.kept hh id) uc;obtain ⟨z29,J2,g2,GX,h4,h5,h6,KZ⟩:=ihq c (h3.heap hh) zsq Zk;refine ⟨_,J2,g2,GX,h4.trans h1,h5.trans h2,h3.trans h6,?_⟩;simp only [qj];refine ⟨v,vs,rfl,?_,KZ⟩;have vl:=(w6 hval).1;rw [vl,Sk.qw w7] at Qj;simp only [zl]
    exact ⟨cs,⟨qv,zC.kept (h6.ro w) zX⟩,Qj⟩
   | _=>simp [gW] at h
  | _=>simp [gW] at h
 | un=>
  intro all J g vals k r hh hv h
  cases all with
  | un=>exact ⟨.un,J,g,by simpa [gW] using h,rfl,rfl,.refl _ _,hv⟩
  | _=>simp [gW] at h
 | _=>intro all J g vals k r hh hv h;simp [gW] at h
theorem SE (FC:A5 P c.env) {fid:Nat} {all:z7} {vals:List Value} (zb:(execOp a.eval o).run P w=(callFunc fid vals.toArray).run P w) (hall:qj w g J.z6 all vals)
  (zq:zK c.ntmps g w a J) (vQ:∀ m,base<=m->m < base+8->zY g J m)
  (h:(match GV all (c.env fid) with
   | some (.pure p res F)=>Z8 J base all p res F fun v J=>J.qe c o.dst v k
   | _=>none)=some r) (hK:jt c.ntmps k r g w J base mo K):o.wp P a w K Q:=by
 split at h
 ·rename_i p res F FZ;have hco:=FC fid _ (YX FZ);unfold Z8 at h
  cases hb:(pR res || wv all) with
  | true=>
   rw [hb] at h
   exact W6 hco zb hall zq vQ h hK
  | false=>
   rw [hb] at h;obtain ⟨z29,J1,g1,Zk,h1,h2,h3,KZ⟩:=GC p all zq.heap hall h;refine W6 (mo:=mo) hco zb KZ (h3.st h1 zq) (fun m hm1 hm2=>h3.fresh h1 (vQ m hm1 hm2)) Zk ?_;intro J' g' a' w' A9 qP qM Tl IH vl;exact hK J' g' a' w' A9 qP (h3.ext.trans qM) (fun m hm hf=>Tl m hm (h3.fresh h1 hf)) (IH.trans h2) vl
 ·simp at h
theorem z5x (FC:A5 P c.env) {cl:Call} {x:Operand} (ho:o.op = .call cl) (pO:cl.callee = .value x)
  (zq:zK c.ntmps g w a J) (vQ:∀ m,base<=m->m < base+8->zY g J m) {gv args:z7} (hx:ev J x=some gv) (hargs:RZ J cl.args.toList=some args)
  (h:(z1o c J base gv args fun v J=>J.qe c o.dst v k)=some r) (hK:jt c.ntmps k r g w J base mo K):o.wp P a w K Q:=by
 obtain ⟨eg,_⟩:=qG zq hx;obtain ⟨ea,_⟩:=VU zq hargs;unfold z1o at h;split at h
 ·rename_i fid all D0;obtain ⟨us,hfv,hall⟩:=Bo eg ea D0;refine SE FC (fid:=fid) (all:=all) (vals:=(cl.args.toList.map a.eval)++us) ?_ hall zq vQ h hK;have e1:cl.args.map a.eval=(cl.args.toList.map a.eval).toArray:=by apply Dr.1;rw [Z2u]
  simp [execOp,ho,resolve,pO,hfv,Deferred.ofValue,invoke,e1]
 ·simp at h
end
end Go.Kz
namespace Go.Kz
open Go.MapKept
variable {R:Type}
def ZC:Ty->TypeDesc
 | .int k=>.int k
 | .str=>.string
 | _=>.bool
theorem YM {P:Program} {t:Ty} {T:TypeId} (hk:j7 t=true) (h:qq P t T):P.underlying T=some (ZC t):=by
 cases t <;> simp [j7] at hk <;> simp only [qq] at h <;> exact h.1
theorem Vg {t:Ty} (hk:j7 t=true):t.qn=true:=by
 cases t <;> simp [j7] at hk <;> rfl
theorem xl {w:World} {g:z8} {o:AR} {t:Ty} {d:t.den} {cs:List Value} (hk:j7 t=true) (h:zC w g o t d cs):IsKey (ZC t) (jA t.sk.isAgg cs):=by
 cases t <;> simp [j7] at hk
 ·obtain ⟨rfl,_⟩:=h;simp [ZC,jA,Ty.sk,Sk.isAgg,IsKey]
 ·cases h;simp [ZC,jA,Ty.sk,Sk.isAgg,IsKey]
 ·obtain ⟨s,rfl,_⟩:=h;simp [ZC,jA,Ty.sk,Sk.isAgg,IsKey]
theorem zdp {w:World} {g:z8} {o:AR} {t:Ty} {d e:t.den} {cs es:List Value} (hk:j7 t=true) (h:zC w g o t d cs) (h':zC w g o t e es) :
  (jA t.sk.isAgg cs=jA t.sk.isAgg es)↔yI t d e=true:=by
 cases t <;> simp [j7] at hk
 ·obtain ⟨rfl,_⟩:=h;obtain ⟨rfl,_⟩:=h';simp [yI,jA,Ty.sk,Sk.isAgg]
 ·cases h;cases h';simp [yI,jA,Ty.sk,Sk.isAgg]
 ·obtain ⟨s,rfl,hs,_⟩:=h;obtain ⟨s',rfl,Ep,_⟩:=h';simp only [yI,jA,Ty.sk,Sk.isAgg,Z25,Lp,Z2j,Value.string.injEq,jL];constructor
  ·rintro rfl;rw [<-hs,<-Ep]
  ·intro he;obtain ⟨⟨l⟩⟩:=s;obtain ⟨⟨l'⟩⟩:=s';simp only at hs Ep;rw [hs,Ep,he]
theorem ZN {d:TypeDesc} {k:Value}:(es:List MapEntry)->(i:Nat)->Instr.findNow d k es i=(Instr.findNow d k es 0).map fun x=>x.map fun y=>(i+y.1,y.2)
 | [],i=>by simp [Instr.findNow]
 | e :: es,i=>by
  simp only [Instr.findNow]
  cases Instr.sameNow d k e.key with
  | none=>rfl
  | some b=>
   cases b with
   | true=>simp
   | false=>
    simp only;rw [ZN es (i+1),ZN es (0+1)]
    cases Instr.findNow d k es 0 with
    | none=>rfl
    | some x=>cases x with
     | none=>rfl
     | some y=>simp;omega
theorem MU {w:World} {g:z8} {kt vt:Ty} (hk:j7 kt=true) {k:kt.den} {xK:List Value} (uh:zC w g none kt k xK):{es:List MapEntry}->{m:List (kt.den×vt.den)}->yE w g kt vt es m->
  (Instr.findNow (ZC kt) (jA kt.sk.isAgg xK) es 0=some none/\jW (yI kt) m k=none/\
   ∀ d cs b,zC w g none vt d cs->yE w g kt vt (es++[⟨jA kt.sk.isAgg xK,jA vt.sk.isAgg cs,b⟩]) (js (yI kt) m k d))\/
  ∃ j e v cs,Instr.findNow (ZC kt) (jA kt.sk.isAgg xK) es 0=some (some (j,e.val))/\es[j]? = some e/\e.key=jA kt.sk.isAgg xK/\(jW (yI kt) m k=some v/\kJ (yI kt) m k=j)/\zC w g none vt v cs/\e.val=jA vt.sk.isAgg cs/\
   ∀ d cs,zC w g none vt d cs->yE w g kt vt (es.modify j fun e=>{ e with key:=jA kt.sk.isAgg xK,val:=jA vt.sk.isAgg cs }) (js (yI kt) m k d)
 | [],[],_=>.inl ⟨rfl,rfl,fun d cs b h=>⟨⟨xK,uh,rfl⟩,⟨cs,h,rfl⟩,trivial⟩⟩
 | [],_ :: _,h=>h.elim
 | _ :: _,[],h=>h.elim
 | e :: es,(k',v') :: m,⟨⟨c1,h1,e1⟩,⟨c2,h2,e2⟩,h⟩=>by
  have i1:=xl hk uh;have i2:=xl hk h1;obtain ⟨r,hr,zev⟩:=sameNow_of_keys i1 i2;have hq:=zdp hk uh h1;have hrk:r=yI kt k k':=by
   cases r with
   | true=>exact (hq.1 (zev.1 rfl)).symm
   | false=>
    cases hc:yI kt k k' with
    | false=>rfl
    | true=>have:=zev.2 (hq.2 hc);simp at this
  rw [<-e1] at hr
  cases r with
  | true=>
   right;have hke:e.key=jA kt.sk.isAgg xK:=by rw [e1];exact (zev.1 rfl).symm
   refine ⟨0,e,v',c2,by simp [Instr.findNow,hr],rfl,hke,by simp [jW,kJ,<-hrk],h2,e2,fun d cs hd=>?_⟩;simp only [js,<-hrk,zD,Z59]
   exact ⟨⟨c1,h1,by rw [<-e1,hke]⟩,⟨cs,hd,rfl⟩,h⟩
  | false=>
   rcases MU hk uh h with ⟨f1,f2,f3⟩ | ⟨j,e',v,cs,f1,f2,f3,f4,f5,f6,f7⟩
   ·left;refine ⟨?_,by simp [jW,<-hrk,f2],fun d cs b hd=>?_⟩
    ·simp only [Instr.findNow,hr];rw [ZN,f1];rfl
    ·simp only [js,<-hrk,zW,ue];exact ⟨⟨c1,h1,e1⟩,⟨c2,h2,e2⟩,f3 d cs b hd⟩
   ·right;refine ⟨j+1,e',v,cs,?_,by simpa using f2,f3,by simp [jW,kJ,<-hrk,f4],f5,f6,fun d cs hd=>?_⟩
    ·simp only [Instr.findNow,hr];rw [ZN,f1];simp;omega
    ·simp only [js,<-hrk,zW,Z5a];exact ⟨⟨c1,h1,e1⟩,⟨c2,h2,e2⟩,f7 d cs hd⟩
theorem Gz:{t:Ty}->yJ t=true->t.qn=true
 | .unit,_=>rfl
 | .pair a b,h=>by
  simp only [yJ,zA] at h
  simp only [Ty.qn,Vg h.1,Gz h.2,Bool.and_self]
 | .int _,h=>by simp [yJ] at h
 | .bool,h=>by simp [yJ] at h
 | .str,h=>by simp [yJ] at h
 | .arr _ a,h=>by
  simp only [yJ] at h
  simp only [Ty.qn,Vg h]
 | .sl _ _,h=>by simp [yJ] at h
 | .ptr _,h=>by simp [yJ] at h
 | .fn _ _,h=>by simp [yJ] at h
 | .tree _,h=>by simp [yJ] at h
theorem BC {t:Ty} (h:kTy t=true):j7 t=true\/∃ a b,t = .pair a b/\yJ (.pair a b)=true:=by
 cases t <;> first | exact .inl h | exact .inr ⟨_,_,rfl,h⟩
theorem Wg {t:Ty} (h:kTy t=true):t.qn=true:=by
 rcases BC h with h | ⟨a,b,rfl,h⟩
 ·exact Vg h
 ·exact Gz h
section
variable {P:Program} {o:Oper} {a:Act} {w:World} {K:Act->World->Prop} {Q:Exit->Act->World->Prop} {c:Ctx} {J:St} {g:z8} {k:St->Option R} {r:R} {base:Nat} {mo:Bool}
theorem Ik {t:TypeId} (ho:o.op = .makeMap t none) (zq:zK c.ntmps g w a J) (hf:zY g J base) (h:y9 c J base o k=some r) (hK:jt c.ntmps k r g w J base mo K):o.wp P a w K Q:=by
 simp only [y9,ho] at h;split at h
 ·rename_i kt vt Mg
  cases hc:(kTy kt && vt.qn) with
  | false=>rw [hc] at h;simp at h
  | true=>
   rw [hc] at h;simp only [zD] at h;simp only [zA] at hc;refine Jt (ob:=.map #[] 0) (obj:=.map kt vt []) (tg:=.box base) (v:=undef) (v':=.map (some w.heap.size)) zq hf (.inl rfl) ?_ rfl ?_ (by simp) ?_ h hK
   ·simp only [execOp,ho];simp [Instr.makeMap]
   ·refine ⟨#[],0,?_,?_,wS (Wg hc.1),wS hc.2,trivial,rfl,rfl⟩
    ·have hb:(qI g w.heap.size base (.box base) undef).zt base=w.heap.size:=by simp [qI]
     rw [hb];exact heap_alloc_new w _
    ·simp [qI]
   ·simp only [zl];refine ⟨_,⟨_,rfl,rfl,fun _ _ _ _=>?_⟩,rfl⟩;simp [qI]
 ·simp at h
theorem VB {t:Ty} {d:t.den} {v:Value} {z6:qk} {cs:List Value} (ht:t.qn=true) {w':World} {g':z8} {o':AR} (h:zC w' g' o' t d cs) (hv:v=jA t.sk.isAgg cs):zl w g z6 (.data t d) v:=
 ⟨cs,⟨wS ht,zC.qn ht h⟩,hv⟩
theorem uH {i:Operand} {b:z7} {kt:Ty} {f:kt.den->Option R} (zq:zK c.ntmps g w a J) (hk:kt.qn=true) (hb:b.val=true) (hi:ev J i=some b) (h:asData J 20 b kt f=some r) :
  ∃ d cs,f d=some r/\zC w g none kt d cs/\a.eval i=jA kt.sk.isAgg cs:=by
 obtain ⟨cs,zR,Qj,_⟩:=ji hb (qG zq hi).1;obtain ⟨d,hd,_,hr⟩:=kf zq.heap 20 zR h;exact ⟨d,cs,hd,zC.qn hk hr,by rw [Qj,Zc zq.heap hb h]⟩
theorem Ud {id:Nat} {kt vt:Ty} {m m':List (kt.den×vt.den)} {es:Array MapEntry} {ck:Nat} (zq:zK c.ntmps g w a J) (zg:J.z6 id=some (.map kt vt m)) (hm:yE w g kt vt es.toList m') (FH:ck=es.size) (zea:kN es.toList) :
  zK c.ntmps g { w with heap:=w.heap.setIfInBounds (g.zt id) (.map es ck) } a (J.setObj id (.map kt vt m'))/\Ext w g { w with heap:=w.heap.setIfInBounds (g.zt id) (.map es ck) } g/\
   ∀ n,zY g J n->zY g (J.setObj id (.map kt vt m')) n:=by
 obtain ⟨es0,ck0,hblk,zH,uh,hvr,_,_⟩:=zq.heap.z6 _ _ zg;obtain ⟨h1,h2⟩:=heap_set (o':=.map es ck) hblk;have qv:zO w g { w with heap:=w.heap.setIfInBounds (g.zt id) (.map es ck) } g:=by
  refine ⟨fun b hb=>⟨hb,h2 b ?_⟩⟩;intro he;subst he;rw [zH] at hb;simp at hb
 refine ⟨zq.p9 qv (fun i hi=>?_) (.inl (.inr (.inr (.inr (.inl ⟨kt,vt,m,m',zg,rfl,rfl⟩))))) ⟨es,ck,h1,zH,uh,hvr,hm.kept qv,FH,zea⟩ (fun b hb=>?_),⟨rfl,rfl,rfl,yS _,by simp,fun b _ hb=>⟨h2 b ?_,rfl⟩⟩,fun n hn=>?_⟩
 ·refine ⟨⟨fun q=>rfl,fun q b hb=>⟨hb,h2 b ?_⟩⟩,rfl,fun hb=>⟨hb,h2 _ ?_⟩⟩
  ·intro he;subst he;rw [zH] at hb;simp at hb
  ·intro he;rw [he,zH] at hb;simp only [Tag.box.injEq] at hb;exact hi hb.symm
 ·have:=zq.heap.tags b hb;simpa using this
 ·intro he;subst he;rw [zH] at hb;simp at hb
 ·refine zY.p9 (g:=g) (fun b=>.inl rfl) ?_ (by simp) hn;intro heq;subst heq;have:=hn.z6;rw [zg] at this;simp at this
theorem KA {t E:TypeId} {s:Nat} (qg:P.underlying t=some (.slice E)) (hs:(sizeOf E).run P w = .ok s w) (ad:Option Addr) (len cap:Nat) (lo hi:Option Value) (l h:Int) (Gi:len<=cap)
  (WJ:(lo=none/\l=0)\/∃ k,lo=some (.int k l)) (hhi:(hi=none/\h=len)\/∃ k,hi=some (.int k h)) (h0:0<=l) (h1:l<=h) (h2:h<=(len:Int)) :
  (Instr.sliceAt t (.slice ad len cap) lo hi none).run P w = .ok (.slice (if cap-l.toNat=0 then ad else ad.map (·.add (l.toNat*s))) (h-l).toNat (cap-l.toNat)) w:=by
 have hb:∀ k code,(Instr.sliceBound (.int k h) cap code).run P w = .ok h.toNat w:=fun k code=>run_sliceBound w k h cap code (by omega) (by omega)
 have vT:∀ (k:IntKind) code (y:Nat),l<=(y:Int)->(Instr.sliceBound (.int k l) y code).run P w = .ok l.toNat w:=fun k code y hy=>run_sliceBound w k l y code h0 hy
 have e1:(cap=l.toNat)=(cap-l.toNat=0):=propext (by constructor <;> omega);have e2:h.toNat-l.toNat=(h-l).toNat:=by omega
 have e3:len-l.toNat=((len:Int)-l).toNat:=by omega
 rcases WJ with ⟨rfl,rfl⟩ | ⟨k,rfl⟩ <;> rcases hhi with ⟨rfl,rfl⟩ | ⟨k',rfl⟩
 ·simp [Instr.sliceAt,Instr.slice,Instr.sliceBounds,run_underlying qg,hs]
 ·simp [Instr.sliceAt,Instr.slice,Instr.sliceBounds,run_underlying qg,hs,hb]
 ·have:=vT k .sliceB len (by omega);simp [Instr.sliceAt,Instr.slice,Instr.sliceBounds,run_underlying qg,hs,this,e1,e3]
 ·have:=vT k .sliceB h.toNat (by omega);simp [Instr.sliceAt,Instr.slice,Instr.sliceBounds,run_underlying qg,hs,hb,this,e1,e2]
theorem CQ {t:TypeId} (qg:P.underlying t=some .string) (s:ByteArray) (lo hi:Option Value) (l h:Int)
  (WJ:(lo=none/\l=0)\/∃ k,lo=some (.int k l)) (hhi:(hi=none/\h=s.size)\/∃ k,hi=some (.int k h)) (h0:0<=l) (h1:l<=h) (h2:h<=(s.size:Int)) :
  (Instr.sliceAt t (.string s) lo hi none).run P w = .ok (.string (s.extract l.toNat h.toNat)) w:=by
 have hb:∀ k code,(Instr.sliceBound (.int k h) s.size code).run P w = .ok h.toNat w:=fun k code=>run_sliceBound w k h s.size code (by omega) (by omega)
 have vT:∀ (k:IntKind) code (y:Nat),l<=(y:Int)->(Instr.sliceBound (.int k l) y code).run P w = .ok l.toNat w:=fun k code y hy=>run_sliceBound w k l y code h0 hy
 rcases WJ with ⟨rfl,rfl⟩ | ⟨k,rfl⟩ <;> rcases hhi with ⟨rfl,rfl⟩ | ⟨k',rfl⟩
 ·simp [Instr.sliceAt,Instr.slice,Instr.sliceBounds,run_underlying qg]
 ·simp [Instr.sliceAt,Instr.slice,Instr.sliceBounds,run_underlying qg,hb]
 ·have:=vT k .sliceB s.size (by omega);simp [Instr.sliceAt,Instr.slice,Instr.sliceBounds,run_underlying qg,this]
 ·have:=vT k .sliceB h.toNat (by omega);simp [Instr.sliceAt,Instr.slice,Instr.sliceBounds,run_underlying qg,hb,this]
theorem DM {J:St} (zq:zK c.ntmps g w a J) {x:Option Operand} {n:Option Int} (h:evI J x=some n):(x.map a.eval=none/\n=none)\/∃ k i,x.map a.eval=some (.int k i)/\n=some i:=by
 cases x with
 | none=>simp only [evI,zI] at h;exact .inl ⟨rfl,h.symm⟩
 | some x=>
  simp only [evI] at h;split at h
  ·rename_i k i hx;simp only [zI] at h;exact .inr ⟨k,i,by simp [(jF (qG zq hx).1).1],h.symm⟩
  ·simp at h
theorem SP (kp:gP P c.tt) {t:TypeId} {x:Operand} {lo hi:Option Operand} (ho:o.op = .slice t x lo hi none) (zq:zK c.ntmps g w a J) (h:y9 c J base o k=some r):vN P o a w g J c k r:=by
 simp only [y9,ho] at h;split at h
 ·rename_i av ow u l hn hx hu WJ hhi;have hT:=kp _ _ hu;simp only [qq] at hT;obtain ⟨⟨E,qg,hE⟩,_⟩:=hT;obtain ⟨ex,ef⟩:=qG zq hx;clear ef;have Tb:(lo.map a.eval=none/\l.getD 0=0)\/∃ k,lo.map a.eval=some (.int k (l.getD 0)):=by
   rcases DM zq WJ with ⟨h1,rfl⟩ | ⟨k,i,h1,rfl⟩
   ·exact .inl ⟨h1,rfl⟩
   ·exact .inr ⟨k,h1⟩
  have Tf:∀ n:Nat,(hi.map a.eval=none/\hn.getD (n:Int)=n)\/∃ k,hi.map a.eval=some (.int k (hn.getD (n:Int))):=fun n=>by
   rcases DM zq hhi with ⟨h1,rfl⟩ | ⟨k,i,h1,rfl⟩
   ·exact .inl ⟨h1,rfl⟩
   ·exact .inr ⟨k,h1⟩
  have qK:∀ w',(sizeOf E).run P w' = .ok u.size w':=hE.info.sizeOf;unfold S3 at h;split at h
  ·-- nil
   have hv:=Ze.1 ex;obtain ⟨hc,h⟩:=qC h;simp only [zA,jL] at hc;refine Zi (v:=.slice none 0 0) (fun w' _=>?_) (Ze.2 rfl) (fun m _=>by simp [z7.ids]) h;have:=KA (w:=w') qg (qK w') none 0 0 _ _ (l.getD 0) (hn.getD ((0:Nat):Int)) (yS _) Tb (Tf 0) (by omega) (by simp;omega) (by simp;omega);simp only [execOp,ho,hv,Z3z];rw [hc.1] at this;simp only [Int.ofNat_zero] at this;rw [show hn.getD 0=0 from hc.2] at this;simp [this]
  ·-- read-only data
   rename_i t' d
   cases hs:(RL t').sk.same u.sk with
   | false=>rw [hs] at h;simp at h
   | true=>
    rw [hs] at h;have w7:=Sk.qw hs;have Qd:u.size=t'.size:=by rw [<-Ad t',<-Ty.zZ,<-Ty.zZ,w7]
    simp only [zD] at h;obtain ⟨hc,h⟩:=qC h;simp only [zA,jL] at hc;obtain ⟨⟨c0,c1⟩,c2⟩:=hc;simp only [zl] at ex;obtain ⟨cs,⟨qv,ad,cap,rfl,h1,h2,h3⟩,hv⟩:=ex;have jb:a.eval x = .slice ad (List.length d) cap:=hv;have hlen:=uP d (l.getD 0) (hn.getD (List.length d:Int)) c0 c1 c2;refine Zi (v:=.slice (if cap-(l.getD 0).toNat=0 then ad else ad.map (·.add ((l.getD 0).toNat*u.size))) (hn.getD (List.length d:Int)-l.getD 0).toNat (cap-(l.getD 0).toNat)) (fun w' _=>?_) ?_ (fun m _=>by simp [z7.ids]) h
    ·have:=KA (w:=w') qg (qK w') ad (List.length d) cap _ _ (l.getD 0) (hn.getD (List.length d:Int)) h1 Tb (Tf _) c0 c1 c2;simp only [execOp,ho,jb,Z3z];simp [this]
    ·have Cr:(sub d (l.getD 0) (hn.getD (List.length d:Int))).length=(hn.getD (List.length d:Int)-l.getD 0).toNat:=by rw [hlen];omega
     refine ⟨_,⟨qv,_,cap-(l.getD 0).toNat,rfl,by rw [Cr];omega,by omega,fun vI=>?_⟩,by rw [Cr];rfl⟩;have Cm:0 < (hn.getD (List.length d:Int)-l.getD 0).toNat:=by rw [<-Cr];exact Z3u.2 vI
     have hdn:d≠[]:=by intro he;subst he;simp at c2 Cm;omega
     obtain ⟨b,off,cc,e,fz,rfl,zH,zQ,Ge,jo⟩:=h3 hdn;refine ⟨b,off+(l.getD 0).toNat*t'.size,cc,e,fz,?_,zH,zQ,?_,fun i hi=>?_⟩
     ·rw [qQ (by omega)];simp only [Z2o,Addr.add_lit,Qd]
     ·rw [Cr];have:(hn.getD (List.length d:Int)-l.getD 0).toNat+(l.getD 0).toNat<=List.length d:=by omega
      have:=kj t'.size this;rw [wz] at this;omega
     ·have AX:(l.getD 0).toNat+i < List.length d:=by rw [Cr] at hi;omega
      have hg:=Vf d (l.getD 0) (hn.getD (List.length d:Int)) i hi AX;rw [hg];have e1:off+(l.getD 0).toNat*t'.size+i*t'.size=off+((l.getD 0).toNat+i)*t'.size:=by rw [wz];omega
      rw [e1];exact jo _ AX
  ·-- an owned row
   rename_i id ep;obtain ⟨t',d,zg,_,qv,h⟩:=wE zq.heap h
   cases hs:t'.sk.same u.sk with
   | false=>rw [hs] at h;simp at h
   | true=>
    rw [hs] at h;have w7:=Sk.qw hs;have Qd:u.size=t'.size:=by rw [<-Ty.zZ,<-Ty.zZ,w7]
    simp only [zD] at h;obtain ⟨hc,h⟩:=qC h;simp only [zA,jL] at hc;obtain ⟨⟨c0,c1⟩,c2⟩:=hc;simp only [zl] at ex;obtain ⟨cs,⟨v,rfl,qL,hv⟩,jb⟩:=ex;have e1:=(hv _ _ _ zg).2 rfl;obtain ⟨_,ad,cap,_,qT,h1,h2,_⟩:=zq.heap.z6 _ _ zg;have Mj:a.eval x = .slice ad (List.length d) cap:=by rw [jb];show v=_;rw [e1,qT]
    refine Zi (v:=jz (g.sv id []) t'.size (l.getD 0) (hn.getD (List.length d:Int))) (fun w' _=>?_) ?_ (fun m hm=>?_) h
    ·have:=KA (w:=w') qg (qK w') ad (List.length d) cap _ _ (l.getD 0) (hn.getD (List.length d:Int)) h1 Tb (Tf _) c0 c1 c2;simp only [execOp,ho,Mj,Z3z,qT,jz];rw [Qd] at this;simp [this]
    ·simp only [zl];refine ⟨[jz (g.sv id []) t'.size (l.getD 0) (hn.getD (List.length d:Int))],⟨_,rfl,by rw [qT];rfl,fun t2 l2 e2 BF=>?_⟩,rfl⟩;rw [zg] at BF;simp only [zI,Obj.row.injEq] at BF;obtain ⟨rfl,BM,rfl⟩:=BF;have BM:=Z35 BM;subst BM;exact ⟨yS _,fun _=>⟨rfl,c0,c1,c2,rfl⟩⟩
    ·simp only [z7.ids,EY];intro he;subst he;have:=hm.z6;rw [zg] at this;simp at this
  ·simp at h
 ·-- a part of a string
  rename_i d l hn hx hu WJ hhi;have hT:=kp _ _ hu;simp only [qq] at hT;obtain ⟨s,hv,hl,hs⟩:=Kw (l:=d) (qG zq hx).1;subst hl;have Tb:(lo.map a.eval=none/\l.getD 0=0)\/∃ k,lo.map a.eval=some (.int k (l.getD 0)):=by
   rcases DM zq WJ with ⟨h1,rfl⟩ | ⟨k,i,h1,rfl⟩
   ·exact .inl ⟨h1,rfl⟩
   ·exact .inr ⟨k,h1⟩
  have qK:s.data.toList.length=s.size:=vX;rw [qK] at h;have Tf:(hi.map a.eval=none/\hn.getD (s.size:Int)=s.size)\/∃ k,hi.map a.eval=some (.int k (hn.getD (s.size:Int))):=by
   rcases DM zq hhi with ⟨h1,rfl⟩ | ⟨k,i,h1,rfl⟩
   ·exact .inl ⟨h1,rfl⟩
   ·exact .inr ⟨k,h1⟩
  obtain ⟨hc,h⟩:=qC h;simp only [zA,jL] at hc;obtain ⟨⟨c0,c1⟩,c2⟩:=hc;refine Zi (v:=.string (s.extract (l.getD 0).toNat (hn.getD (s.size:Int)).toNat)) (fun w' _=>?_) (VM ?_ ?_) (fun m _=>by simp [z7.ids]) h
  ·have:=CQ (w:=w') hT.1 s _ _ (l.getD 0) (hn.getD (s.size:Int)) Tb Tf c0 c1 c2;simp only [execOp,ho,hv,Z3z];simp [this]
  ·rw [ByteArray.data_extract,Array.toList_extract];simp only [List.extract,sub]
  ·rw [ByteArray.size_extract];simp only [maxLen] at hs ⊢;omega
 ·simp at h
theorem I8 {t E:TypeId} {s:Nat} (qg:P.underlying t=some (.slice E)) (hs:(sizeOf E).run P w = .ok s w) (ad:Option Addr) (len cap:Nat) (kh km:IntKind) (h m:Int) (h0:0<=h) (h1:h<=m) (h2:m<=(cap:Int)) :
  (Instr.sliceAt t (.slice ad len cap) none (some (.int kh h)) (some (.int km m))).run P w = .ok (.slice (if m.toNat=0 then ad else ad.map (·.add (0*s))) h.toNat m.toNat) w:=by
 have hb:∀ code,(Instr.sliceBound (.int km m) cap code).run P w = .ok m.toNat w:=fun code=>run_sliceBound w km m cap code (by omega) (by omega)
 have vT:∀ code,(Instr.sliceBound (.int kh h) m.toNat code).run P w = .ok h.toNat w:=fun code=>run_sliceBound w kh h m.toNat code h0 (by omega)
 simp [Instr.sliceAt,Instr.slice,Instr.sliceBounds,run_underlying qg,hs,hb,vT]
theorem Oy (kp:gP P c.tt) {t:TypeId} {x:Operand} {lo hi:Option Operand} {mx:Operand} (ho:o.op = .slice t x lo hi (some mx)) (zq:zK c.ntmps g w a J) (h:y9 c J base o k=some r)
  (hK:jt c.ntmps k r g w J base mo K):o.wp P a w K Q:=by
 cases lo with
 | some lo=>simp [y9,ho] at h
 | none=>
 cases hi with
 | none=>simp [y9,ho] at h
 | some hi=>
 simp only [y9,ho] at h;split at h
 ·rename_i id ep kh hn km m ow u hx hhi hmx hu;split at h
  ·rename_i t' l e zg
   cases hb:(Nat.beq e ep && t'.sk.same u.sk) with
   | false=>rw [hb] at h;simp at h
   | true=>
    rw [hb] at h;simp only [zD] at h;simp only [zA] at hb;have FD:=zE hb.1;subst FD;have w7:=Sk.qw hb.2;have Qd:u.size=t'.size:=by rw [<-Ty.zZ,<-Ty.zZ,w7]
    obtain ⟨hc,h⟩:=qC h;simp only [zA,jL] at hc;obtain ⟨⟨c0,c1⟩,c2⟩:=hc;have c0:@LE.le Int Int.instLEInt 0 hn:=c0;have c1:@LE.le Int Int.instLEInt hn m:=c1;have c2:@LE.le Int Int.instLEInt m (l.length:Int):=c2;have hT:=kp _ _ hu;simp only [qq] at hT;obtain ⟨⟨E,qg,hE⟩,_⟩:=hT;obtain ⟨ex,ef⟩:=qG zq hx;obtain ⟨vh,_⟩:=jF (qG zq hhi).1;obtain ⟨vm,_⟩:=jF (qG zq hmx).1;simp only [zl] at ex;obtain ⟨cs,⟨v,rfl,qL,hv⟩,jb⟩:=ex;have e1:=(hv _ _ _ zg).2 rfl;obtain ⟨qv,ad,cap,_,qT,Gi,Gm,wC⟩:=zq.heap.z6 _ _ zg;have uc:a.eval x = .slice ad l.length cap:=by rw [<-qT,<-e1];exact jb
    have hlen:(sub l 0 hn).length=hn.toNat:=by rw [uP l 0 hn (Z3y 0) c0 (by omega)];simp
    have zb:=I8 (P:=P) (w:=w) qg (hE.info.sizeOf w) ad l.length cap kh km hn m c0 c1 (by omega);have zR:zm w (pz g id (.slice (if m.toNat=0 then ad else ad.map (·.add (0*u.size))) hn.toNat m.toNat)) (J.setObj id (.row t' (sub l 0 hn) (e+1))).z6 id (.row t' (sub l 0 hn) (e+1)):=by
     refine ⟨qv,(if m.toNat=0 then ad else ad.map (·.add (0*u.size))),m.toNat,by rw [hlen];simp [pz],by rw [hlen];simp [pz],by rw [hlen];omega,by omega,?_⟩;rcases wC with ⟨rfl,hl,rfl⟩ | ⟨b,off,c',ee,rfl,zH,zQ,qK,jo⟩
     ·left;rw [hl] at c2;simp only [He] at c2;exact ⟨by simp,Z2h (by rw [hlen];omega),by omega⟩
     ·right;have hmul:m.toNat*t'.size<=cap*t'.size:=kj _ (by omega);refine ⟨b,off,c',ee,by split <;> simp [Addr.add],zH,zQ,by omega,fun i hi=>?_⟩;have vf:i < (sub l 0 hn).length:=hi;have AX:(0:Int).toNat+i < l.length:=by simp;omega
      have:=zC.qt (o':=none) qv (jo ((0:Int).toNat+i) AX);have hg:=Vf l 0 hn i vf AX;refine zC.qt qv (o:=none) ?_;have h2:(sub l 0 hn).get ⟨i,vf⟩=l.get ⟨(0:Int).toNat+i,AX⟩:=hg;show zC w _ none t' ((sub l 0 hn).get ⟨i,vf⟩) _;rw [h2];have e0:(0:Int).toNat+i=i:=by simp
      have:=zC.kept (show zO w g w (pz g id (.slice (if m.toNat=0 then some ⟨b,off,none⟩ else (some ⟨b,off,none⟩:Option Addr).map (·.add (0*u.size))) hn.toNat m.toNat)) from ⟨fun b hb=>⟨hb,rfl⟩⟩) this;simpa [e0] using this
    obtain ⟨h1,h2,h3⟩:=EF zq zg (E1 e) zR;refine jB (v:=.slice (if m.toNat=0 then ad else ad.map (·.add (0*u.size))) hn.toNat m.toNat) (g:=g) (base:=base) ?_ h1 h2 (fun n _ hfn=>⟨h3 n hfn,by simp only [z7.ids,EY];intro he;subst he;have:=hfn.z6;rw [zg] at this;simp at this⟩) rfl ?_ h (fun _=>jT.refl w) hK
    ·simp only [execOp,ho,uc,vh,vm,Z2o,Z3z];simp [zb]
    ·exact ug (u:=t') (l:=sub l 0 hn) (by simp [St.setObj,zN]) (by simp [pz]) rfl
  ·simp at h
 ·simp at h
end
end Go.Kz
namespace Go.Kz
variable {R:Type}
def NQ (P : Program) (eqs : Nat -> Bool) : Prop := ∀ T, eqs T = true -> P.stoodInHeld T = false /\ P.eqGuardType P.depth T = false /\ ∀ fs, P.underlying T = some (.struct fs) -> ∀ f ∈ fs.toList, f.name ≠ "_"
def z8f (P:Program):List Nat->Bool
 | []=>true
 | T :: l=>(!P.stoodInHeld T && !P.eqGuardType P.depth T && (match P.underlying T with
  | some (.struct fs) => fs.toList.all fun f => !(f.name == "_")
  | some (.array _ _)=>true
  | _=>false)) && z8f P l
theorem DO {P:Program}:{l:List Nat}->z8f P l=true->NQ P (fun T=>yD T l)
 | [],_,_,h=>by simp [yD] at h
 | T :: l,hb,T',h=>by
  simp only [z8f,zA,A1] at hb;simp only [yD] at h
  cases he:Nat.beq T T' with
  | false=>rw [he] at h;exact DO hb.2 T' h
  | true=>
   obtain rfl:=zE he;refine ⟨hb.1.1.1,hb.1.1.2,?_⟩;have h1:=hb.1.2;split at h1
   ·rename_i fs hu;intro fs' hu' f hf;rw [hu] at hu';cases hu';have:=Z2k.1 h1 f hf;simpa using this
   ·rename_i hu;intro fs' hu';rw [hu] at hu';cases hu'
   ·simp at h1
theorem H2 {P:Program} {w w':World} {g:z8} {t:Ty} {T:TypeId} {d e:t.den} {cs es:List Value} (D:Nat) (hk:j7 t=true) (hT:qq P t T) (h:zC w g none t d cs) (h':zC w g none t e es) :
  ∃ u v,cs=[u]/\es=[v]/\(Op.equalIn (D+1) T u v).run P w' = .ok (yI t d e) w':=by
 cases t <;> simp [j7] at hk <;> simp only [qq] at hT
 ·obtain ⟨rfl,_⟩:=h;obtain ⟨rfl,_⟩:=h';refine ⟨_,_,rfl,rfl,?_⟩;rw [run_equalIn_int w' D T _ _ _ _ hT.1];congr 1
 ·cases h;cases h';exact ⟨_,_,rfl,rfl,run_equalIn_bool w' D T _ _ hT.1⟩
 ·obtain ⟨s,rfl,hs,_⟩:=h;obtain ⟨s',rfl,Ep,_⟩:=h';refine ⟨_,_,rfl,rfl,?_⟩;rw [run_equalIn_string w' D T _ _ hT.1,ByteArray.toList_eq,ByteArray.toList_eq];congr 1;rw [Z40];simp [yI,hs,Ep]
theorem Y2 {P : Program} {w w' : World} {g : z8} (D : Nat) {xs ys : Array Value} : {t : Ty} -> {fs : List Field} -> {off : Nat} -> {d e : t.den} -> {cs es : List Value} -> yJ t = true -> jm P t fs off -> (∀ f ∈ fs, f.name ≠ "_") ->
  zC w g none t d cs->zC w g none t e es->xs.toList.drop off=cs->ys.toList.drop off=es->(Op.eqFields (D+1) xs ys fs).run P w' = .ok (PS t d e) w'
 | .unit,[],off,d,e,cs,es,_,_,_,_,_,_,_=>by simp [Op.eqFields,PS]
 | .unit,_ :: _,off,d,e,cs,es,_,hf,_,_,_,_,_=>by simp [jm] at hf
 | .pair a b,[],off,d,e,cs,es,_,hf,_,_,_,_,_=>by simp [jm] at hf
 | .pair a b,f :: fs,off,(x,u),(y,v),cs,es,ht,hf,hn,h,h',hx,hy=>by
  simp only [yJ,zA] at ht;simp only [jm] at hf;obtain ⟨c1,c2,rfl,h1,h2⟩:=h;obtain ⟨e1,e2,rfl,h3,h4⟩:=h';obtain ⟨p,q,rfl,rfl,zb⟩:=H2 (w':=w') D ht.1 hf.2.1 h1 h3;have qK:a.size=1:=by have:=h1.len;simpa using this.symm
  have gy:P.plainKey f.type=true:=by
   have:=YM ht.1 hf.2.1;unfold Program.plainKey;rw [this];have hk:=ht.1;cases a <;> simp [j7] at hk <;> rfl
  have z09:xs[off]? = some p:=by
   have:(xs.toList.drop off)[0]? = some p:=by rw [hx];rfl
   rw [Z27] at this;simpa using this
  have zfd:ys[off]? = some q:=by
   have:(ys.toList.drop off)[0]? = some q:=by rw [hy];rfl
   rw [Z27] at this;simpa using this
  have hxt:xs.toList.drop (off+a.size)=c2:=by
   rw [qK,<-Ng,hx];rfl
  have hyt:ys.toList.drop (off+a.size)=e2:=by
   rw [qK,<-Ng,hy];rfl
  have ih:=Y2 (w':=w') D ht.2 hf.2.2 (fun f hf=>hn f (by simp [hf])) h2 h4 hxt hyt
  have hn0 : f.name ≠ "_" := hn f (by simp)
  have p1:=run_part_plain w' gy z09;have p2:=run_part_plain w' gy zfd;simp only [Op.eqFields,hf.1,hn0,ne_eq,not_false_eq_true,Dn,Sem.run_bind,p1,p2,zb,Result.andThen_ok];simp only [PS]
  cases yI a x y with
  | false=>simp
  | true=>simpa using ih
 | .int _,_,_,_,_,_,_,ht,_,_,_,_,_,_=>by simp [yJ] at ht
 | .bool,_,_,_,_,_,_,ht,_,_,_,_,_,_=>by simp [yJ] at ht
 | .str,_,_,_,_,_,_,ht,_,_,_,_,_,_=>by simp [yJ] at ht
 | .arr _ _,_,_,_,_,_,_,_,hf,_,_,_,_,_=>by simp [jm] at hf
 | .sl _ _,_,_,_,_,_,_,ht,_,_,_,_,_,_=>by simp [yJ] at ht
 | .ptr _,_,_,_,_,_,_,ht,_,_,_,_,_,_=>by simp [yJ] at ht
 | .fn _ _,_,_,_,_,_,_,ht,_,_,_,_,_,_=>by simp [yJ] at ht
 | .tree _,_,_,_,_,_,_,ht,_,_,_,_,_,_=>by simp [yJ] at ht
section
variable {P:Program} {o:Oper} {a:Act} {w:World} {c:Ctx} {J:St} {g:z8} {k:St->Option R} {r:R} {base:Nat}
theorem XM {w':World} (D:Nat) {xs ys:Array Value} {t:Ty} {E:TypeId} (hk:j7 t=true) (hE:qq P t E):(l m:List t.den)->(j:Nat)->l.length=m.length->
  (∀ (i:Nat) (h:i < l.length),zC w g none t (l.get ⟨i,h⟩) (qB xs.toList (j+i) 1))->(∀ (i:Nat) (h:i < m.length),zC w g none t (m.get ⟨i,h⟩) (qB ys.toList (j+i) 1))->
  (Op.eqItems (D+1) E 1 xs ys (List.range' j l.length)).run P w' = .ok (wA (yI t) l m) w'
 | [],[],j,_,_,_=>by simp [Op.eqItems,wA]
 | x :: l,y :: m,j,hl,hx,hy=>by
  have ih:=XM (w':=w') D hk hE l m (j+1) (by simpa using hl) (fun i h=>by
   have:=hx (i+1) (by simpa using h);rw [show j+1+i=j+(i+1) from by omega];exact this) (fun i h=>by
   have:=hy (i+1) (by simpa using h);rw [show j+1+i=j+(i+1) from by omega];exact this)
  have h1:=hx 0 (by simp);have h2:=hy 0 (by simp);simp only [RG] at h1 h2;obtain ⟨p,q,e1,e2,zb⟩:=H2 (w':=w') D hk hE h1 h2;have z09:xs[j]? = some p:=by
   have:=C6 (fun l=>l[0]?) e1;simpa [qB] using this
  have zfd:ys[j]? = some q:=by
   have:=C6 (fun l=>l[0]?) e2;simpa [qB] using this
  have gy:P.plainKey E=true:=by
   have:=YM hk hE;unfold Program.plainKey;rw [this];cases t <;> simp [j7] at hk <;> rfl
  have p1:=run_part_plain w' gy z09;have p2:=run_part_plain w' gy zfd;have pw:(Op.equalIn (D+1) E p q).run P w' = .ok (yI t x y) w':=zb;simp only [GO,List.range'_succ,Op.eqItems,Z2a,Sem.run_bind,p1,p2,pw,Result.andThen_ok,wA]
  cases yI t x y with
  | false=>simp
  | true=>simpa using ih
 | [],_ :: _,_,hl,_,_=>by simp at hl
 | _ :: _,[],_,hl,_,_=>by simp at hl
theorem KB {T : TypeId} {ta tb : Ty} {d e : (Ty.pair ta tb).den} {cs es : List Value} (vZ : yJ (.pair ta tb) = true) (hT : qq P (.pair ta tb) T) (hs : P.stoodInHeld T = false) (Zw : ∀ fs, P.underlying T = some (.struct fs) -> ∀ f ∈ fs.toList, f.name ≠ "_")
  (hr:zC w g none (.pair ta tb) d cs) (Pw:zC w g none (.pair ta tb) e es) (w':World):(Op.equal T (.agg cs.toArray) (.agg es.toArray)).run P w' = .ok (PS (.pair ta tb) d e) w':=by
 show (Op.equalIn (9999+1) T _ _).run P w'=_;simp only [qq] at hT;obtain ⟨⟨fs,hu,Ct⟩,_⟩:=hT;have hfo:P.fieldsOf T=fs:=by simp [Program.fieldsOf,hu]
 rw [run_equalIn_struct w' 9999 T _ _ (by rw [hfo];exact hu) hs,hfo];exact Y2 9998 vZ Ct (Zw fs hu) hr Pw (by simp) (by simp)
theorem Og (kp:gP P c.tt) (heq:NQ P c.eqs) {op:BinOp} {t t':TypeId} {x y:Operand} (ho:o.op = .binOp op t x y t') (zq:zK c.ntmps g w a J) (h:y9 c J base o k=some r):vN P o a w g J c k r:=by
 refine SH kp (fun ax ay hx hy u Qe h=>?_) ho zq h
 cases hb:(c.eqs t && yJ u && ax.val && ay.val) with
 | false=>rw [hb] at h;simp at h
 | true=>
  rw [hb] at h;simp only [zD] at h;simp only [zA] at hb;obtain ⟨⟨⟨hq,vZ⟩,Mj⟩,hvy⟩:=hb;have BI:=Gz vZ;obtain ⟨d,cs,h,hr,Hb⟩:=uH zq BI Mj hx h;obtain ⟨e,es,h,Pw,zud⟩:=uH zq BI hvy hy h;have hT:=kp _ _ Qe;obtain ⟨hs,hgd,Zw⟩:=heq _ hq;have vl:u.sk.isAgg=true:=by
   cases u <;> simp [yJ] at vZ <;> first | rfl | (simp only [qq] at hT)
  have zb:∀ w',(Op.equal t (.agg cs.toArray) (.agg es.toArray)).run P w' = .ok (PS u d e) w':=fun w'=>by
   show (Op.equalIn (9999+1) t _ _).run P w'=_
   cases u with
   | pair ta tb=>
    simp only [qq] at hT;obtain ⟨⟨fs,hu,Ct⟩,_⟩:=hT;have hfo:P.fieldsOf t=fs:=by simp [Program.fieldsOf,hu]
    rw [run_equalIn_struct w' 9999 t _ _ (by rw [hfo];exact hu) hs,hfo]
    exact Y2 9998 vZ Ct (Zw fs hu) hr Pw (by simp) (by simp)
   | arr n ta=>
    simp only [yJ] at vZ;simp only [qq] at hT;obtain ⟨⟨E,hu,hE⟩,_⟩:=hT;obtain ⟨i,z,hi,qK,_⟩:=hE.info.info;have Eg:ta.size=1:=by cases ta <;> simp [j7] at vZ <;> rfl
    have hce:P.cellsOf E=1:=by simp [Program.cellsOf,hi,qK,Eg]
    rw [run_equalIn_array w' 9999 _ _ hu hi,hce];obtain ⟨l1,l2,l3⟩:=hr;obtain ⟨m1,m2,m3⟩:=Pw;have:=XM (P:=P) (w:=w) (g:=g) (w':=w') 9998 (xs:=cs.toArray) (ys:=es.toArray) vZ hE d e 0 (l1.trans m1.symm) (fun i h=>by
     have:=l3 i h;rw [Eg,Z2a] at this;simpa [stp] using this) (fun i h=>by
     have:=m3 i h;rw [Eg,Z2a] at this;simpa [stp] using this)
    rw [List.range_eq_range',<-l1]
    exact this
   | unit=>simp only [qq] at hT
   | int _=>simp [yJ] at vZ
   | bool=>simp [yJ] at vZ
   | tree _=>simp [yJ] at vZ
   | str=>simp [yJ] at vZ
   | sl _ _=>simp [yJ] at vZ
   | ptr _=>simp [yJ] at vZ
   | fn _ _=>simp [yJ] at vZ
  have ex:a.eval x = .agg cs.toArray:=by rw [Hb];simp [jA,vl]
  have ey:a.eval y = .agg es.toArray:=by rw [zud];simp [jA,vl]
  refine gg (f:=fun v=>J.qe c o.dst v k) (s:=binOp op t (.agg cs.toArray) (.agg es.toArray)) rfl ?_
   (fun w v hv=>by simp [execOp,ho,ex,ey,run_eqGuard_agg w op t x y _ _ hgd,hv])
  cases op <;> simp only [z1a] at h
  case eql=>exact Plain.bool h (fun w=>by simp only [binOp,Sem.run_bind,zb,Result.andThen_ok,Sem.run_pure])
  case neq=>exact Plain.bool h (fun w=>by simp only [binOp,Sem.run_bind,zb,Result.andThen_ok,Sem.run_pure])
  all_goals simp at h
end
end Go.Kz
namespace Go.Kz
open Go.MapKept
variable {R:Type}
theorem Fv {t:Ty} (hk:j7 t=true) {d e:t.den} (h:yI t d e=true):d=e:=by
 cases t <;> simp [j7] at hk <;> simpa [yI] using h
theorem z1c:{t:Ty}->yJ t=true->(∀ n u,t≠.arr n u)->{d e:t.den}->PS t d e=true->d=e
 | .unit,_,_,_,_,_=>rfl
 | .pair a b,ht,_,(x,u),(y,v),h=>by
  simp only [yJ,zA] at ht;simp only [PS,zA] at h;have h1:=Fv ht.1 h.1;subst h1
  cases b with
  | arr n t=>
   simp only [PS] at h;have:∀ (l m:List t.den),wA (yI t) l m=true->l=m:=by
    intro l
    induction l with
    | nil=>intro m hm;cases m with
     | nil=>rfl
     | cons=>simp [wA] at hm
    | cons p l ih=>
     intro m hm
     cases m with
     | nil=>simp [wA] at hm
     | cons q m=>
      simp only [wA] at hm
      cases hc:yI t p q with
      | false=>rw [hc] at hm;simp at hm
      | true=>
       rw [hc] at hm;have:=Fv (by simpa [yJ] using ht.2) hc;subst this;rw [ih m (by simpa using hm)]
   rw [this u v h.2]
  | pair c d=>rw [z1c ht.2 (by intro n u h;cases h) h.2]
  | unit=>rfl
  | int _=>simp [yJ] at ht
  | bool=>simp [yJ] at ht
  | str=>simp [yJ] at ht
  | sl _ _=>simp [yJ] at ht
  | ptr _=>simp [yJ] at ht
  | fn _ _=>simp [yJ] at ht
  | tree _=>simp [yJ] at ht
 | .arr n t,_,hn,_,_,_=>absurd rfl (hn n t)
 | .int _,ht,_,_,_,_=>by simp [yJ] at ht
 | .bool,ht,_,_,_,_=>by simp [yJ] at ht
 | .str,ht,_,_,_,_=>by simp [yJ] at ht
 | .sl _ _,ht,_,_,_,_=>by simp [yJ] at ht
 | .ptr _,ht,_,_,_,_=>by simp [yJ] at ht
 | .fn _ _,ht,_,_,_,_=>by simp [yJ] at ht
 | .tree _,ht,_,_,_,_=>by simp [yJ] at ht
theorem XJ {P:Program} {w w':World} {g:z8} (em:Bool) (n:Nat) {xs:Array Value}:{t:Ty}->{fs:List Field}->{off:Nat}->{d:t.den}->{cs:List Value}->yJ t=true->jm P t fs off->
  zC w g none t d cs->xs.toList.drop off=cs->∀ f∈fs,∃ a,(part f.type xs f.offset).run P w' = .ok a w'/\(Instr.checkKey em (n+1) f.type a).run P w' = .ok () w'
 | .unit,[],_,_,_,_,_,_,_=>by simp
 | .unit,_ :: _,_,_,_,_,hf,_,_=>by simp [jm] at hf
 | .pair _ _,[],_,_,_,_,hf,_,_=>by simp [jm] at hf
 | .pair a b,f :: fs,off,(x,u),cs,ht,hf,h,hx=>by
  simp only [yJ,zA] at ht;simp only [jm] at hf;obtain ⟨c1,c2,rfl,h1,h2⟩:=h;have hk:=ht.1;have qK:a.size=1:=by cases a <;> simp [j7] at hk <;> rfl
  have hl:=h1.len;rw [qK] at hl;obtain ⟨p,rfl⟩:=Z2e.1 hl;have vl:a.sk.isAgg=false:=by cases a <;> simp [j7] at hk <;> rfl
  have hik:=xl hk h1;simp only [jA,vl,Z25,Lp,Z2j] at hik;have qg:=YM hk hf.2.1;have gy:P.plainKey f.type=true:=by
   unfold Program.plainKey;rw [qg];cases a <;> simp [j7] at hk <;> rfl
  have z09:xs[off]? = some p:=by
   have:(xs.toList.drop off)[0]? = some p:=by rw [hx];rfl
   rw [Z27] at this;simpa using this
  have hxt:xs.toList.drop (off+a.size)=c2:=by
   rw [qK,<-Ng,hx];rfl
  intro f' WV;rcases gX.1 WV with rfl | WV
  ·exact ⟨p,by rw [hf.1];exact run_part_plain w' gy z09,run_checkKey qg hik em n⟩
  ·exact XJ em n ht.2 hf.2.2 h2 hxt f' WV
 | .int _,_,_,_,_,ht,_,_,_=>by simp [yJ] at ht
 | .bool,_,_,_,_,ht,_,_,_=>by simp [yJ] at ht
 | .str,_,_,_,_,ht,_,_,_=>by simp [yJ] at ht
 | .arr _ _,_,_,_,_,_,hf,_,_=>by simp [jm] at hf
 | .sl _ _,_,_,_,_,ht,_,_,_=>by simp [yJ] at ht
 | .ptr _,_,_,_,_,ht,_,_,_=>by simp [yJ] at ht
 | .fn _ _,_,_,_,_,ht,_,_,_=>by simp [yJ] at ht
 | .tree _,_,_,_,_,ht,_,_,_=>by simp [yJ] at ht
theorem OG {w:World} {g:z8} {t:Ty} {d:t.den} {cs es:List Value} (hk:j7 t=true) (h:zC w g none t d cs) (h':zC w g none t d es):cs=es:=by
 cases t <;> simp [j7] at hk
 ·obtain ⟨rfl,_⟩:=h;obtain ⟨rfl,_⟩:=h';rfl
 ·cases h;cases h';rfl
 ·obtain ⟨s,rfl,hs,_⟩:=h;obtain ⟨s',rfl,Ep,_⟩:=h';obtain ⟨⟨l⟩⟩:=s;obtain ⟨⟨l'⟩⟩:=s';simp only at hs Ep;rw [hs,Ep]
theorem Tv {w:World} {g:z8} {t:Ty} {d:t.den} {cs:List Value} (hk:j7 t=true) (h:zC w g none t d cs):∀ v∈cs,∀ n,Instr.sameBits n v v=true:=by
 have hl:=h.len;have qK:t.size=1:=by cases t <;> simp [j7] at hk <;> rfl
 rw [qK] at hl;obtain ⟨p,rfl⟩:=Z2e.1 hl;have vl:t.sk.isAgg=false:=by cases t <;> simp [j7] at hk <;> rfl
 have hik:=xl hk h;simp only [jA,vl,Z25,Lp,Z2j] at hik;intro v hv n;simp only [EY] at hv;subst hv;exact sameBits_self hik n
theorem XL {w:World} {g:z8}:{t:Ty}->{fs:List Field}->{P:Program}->{off:Nat}->{d:t.den}->{cs es:List Value}->yJ t=true->jm P t fs off->zC w g none t d cs->zC w g none t d es->cs=es/\∀ v∈cs,∀ n,Instr.sameBits n v v=true
 | .unit,_,_,_,_,cs,es,_,_,h,h'=>by cases h;cases h';exact ⟨rfl,by simp⟩
 | .pair a b,[],_,_,_,_,_,_,hf,_,_=>by simp [jm] at hf
 | .pair a b,f :: fs,P,off,(x,u),cs,es,ht,hf,h,h'=>by
  simp only [yJ,zA] at ht;simp only [jm] at hf;obtain ⟨c1,c2,rfl,h1,h2⟩:=h;obtain ⟨e1,e2,rfl,h3,h4⟩:=h';obtain ⟨i1,i2⟩:=XL ht.2 hf.2.2 h2 h4;refine ⟨by rw [OG ht.1 h1 h3,i1],fun v hv n=>?_⟩;rcases Gt.1 hv with hv | hv
  ·exact Tv ht.1 h1 v hv n
  ·exact i2 v hv n
 | .int _,_,_,_,_,_,_,ht,_,_,_=>by simp [yJ] at ht
 | .bool,_,_,_,_,_,_,ht,_,_,_=>by simp [yJ] at ht
 | .str,_,_,_,_,_,_,ht,_,_,_=>by simp [yJ] at ht
 | .arr _ _,_,_,_,_,_,_,_,hf,_,_=>by simp [jm] at hf
 | .sl _ _,_,_,_,_,_,_,ht,_,_,_=>by simp [yJ] at ht
 | .ptr _,_,_,_,_,_,_,ht,_,_,_=>by simp [yJ] at ht
 | .fn _ _,_,_,_,_,_,_,ht,_,_,_=>by simp [yJ] at ht
 | .tree _,_,_,_,_,_,_,ht,_,_,_=>by simp [yJ] at ht
theorem Dd {P:Program} {w:World} {g:z8} {T:TypeId} {ta tb:Ty} {d:(Ty.pair ta tb).den} {cs:List Value} (vZ:yJ (.pair ta tb)=true) (hT:qq P (.pair ta tb) T) (h:zC w g none (.pair ta tb) d cs) (em:Bool) (w':World) :
  (Instr.checkKey em 10000 T (.agg cs.toArray)).run P w' = .ok () w':=by
 simp only [qq] at hT;obtain ⟨⟨fs,hu,Ct⟩,_⟩:=hT;have each:=XJ (w':=w') em 9998 (xs:=cs.toArray) vZ Ct h (by simp);show (Instr.checkKey em (9999+1) T (.agg cs.toArray)).run P w' = .ok () w';rw [Instr.checkKey];simp only [Sem.run_bind,run_underlying hu,Result.andThen_ok];rw [<-Array.forIn_toList];generalize fs.toList=L at each;clear Ct
 induction L with
 | nil=>simp
 | cons f L ih=>
  obtain ⟨a,p1,p2⟩:=each f (by simp);have ih:=ih (fun y hy=>each y (by simp [hy]))
  by_cases hn : f.name = "_"
  ·simp only [List.forIn_cons,Sem.run_bind,hn,ne_eq,not_true_eq_false,Lp,Result.andThen_ok,Sem.run_pure];exact ih
  ·simp only [List.forIn_cons,Sem.run_bind,hn,ne_eq,not_false_eq_true,Dn,Result.andThen_ok,p1,p2,Sem.run_pure];exact ih
def LV (P:Program) (w:World) (g:z8) (kt vt:Ty) (KT:TypeId) (k:kt.den) (kv:Value) (es:List MapEntry) (m:List (kt.den×vt.den)):Prop:=
 ((∀ w',(Instr.findKey KT kv es).run P w' = .ok none w')/\jW (Wp kt) m k=none/\
   ∀ d cs b,zC w g none vt d cs->yE w g kt vt (es++[⟨kv,jA vt.sk.isAgg cs,b⟩]) (js (Wp kt) m k d))\/
  ∃ j e v cs,(∀ w',(Instr.findKey KT kv es).run P w' = .ok (some (j,e.val)) w')/\es[j]? = some e/\e.key=kv/\(∀ w',(Instr.keyThatStays kv kv).run P w' = .ok kv w')/\(jW (Wp kt) m k=some v/\kJ (Wp kt) m k=j)/\zC w g none vt v cs/\e.val=jA vt.sk.isAgg cs/\
   ∀ d cs,zC w g none vt d cs->yE w g kt vt (es.modify j fun e=>{ e with key:=kv,val:=jA vt.sk.isAgg cs }) (js (Wp kt) m k d)
theorem Fa {P : Program} {w : World} {g : z8} {ta tb vt : Ty} {KT : TypeId} (vZ : yJ (.pair ta tb) = true) (hT : qq P (.pair ta tb) KT) (hs : P.stoodInHeld KT = false) (Zw : ∀ fs, P.underlying KT = some (.struct fs) -> ∀ f ∈ fs.toList, f.name ≠ "_")
  {k:(Ty.pair ta tb).den} {xK:List Value} (uh:zC w g none (.pair ta tb) k xK):{es:List MapEntry}->{m:List ((Ty.pair ta tb).den×vt.den)}->yE w g (.pair ta tb) vt es m->
  ((∀ w' i,(Instr.findAsking KT (.agg xK.toArray) es i).run P w' = .ok none w')/\jW (PS (.pair ta tb)) m k=none/\
   ∀ d cs b,zC w g none vt d cs->yE w g (.pair ta tb) vt (es++[⟨.agg xK.toArray,jA vt.sk.isAgg cs,b⟩]) (js (PS (.pair ta tb)) m k d))\/
  ∃ j e v cs,(∀ w' i,(Instr.findAsking KT (.agg xK.toArray) es i).run P w' = .ok (some (i+j,e.val)) w')/\es[j]? = some e/\e.key = .agg xK.toArray/\(jW (PS (.pair ta tb)) m k=some v/\kJ (PS (.pair ta tb)) m k=j)/\zC w g none vt v cs/\e.val=jA vt.sk.isAgg cs/\
   ∀ d cs,zC w g none vt d cs->yE w g (.pair ta tb) vt (es.modify j fun e=>{ e with key:=.agg xK.toArray,val:=jA vt.sk.isAgg cs }) (js (PS (.pair ta tb)) m k d)
 | [],[],_=>.inl ⟨fun w' i=>by simp [Instr.findAsking],rfl,fun d cs b h=>⟨⟨xK,uh,rfl⟩,⟨cs,h,rfl⟩,trivial⟩⟩
 | [],_ :: _,h=>h.elim
 | _ :: _,[],h=>h.elim
 | e :: es,(k',v') :: m,⟨⟨c1,h1,e1⟩,⟨c2,h2,e2⟩,h⟩=>by
  have e1:e.key = .agg c1.toArray:=e1;have hq:=KB vZ hT hs Zw uh h1;rw [<-e1] at hq
  cases hc:PS (.pair ta tb) k k' with
  | true=>
   right;rw [hc] at hq;have hkk:k=k':=z1c vZ (by intro n u h;cases h) hc;subst hkk;have hT':=hT;simp only [qq] at hT';obtain ⟨⟨fs,_,Ct⟩,_⟩:=hT';have pN:=(XL vZ Ct uh h1).1;subst pN;refine ⟨0,e,v',c2,fun w' i=>by simp [Instr.findAsking,hq],rfl,e1,by simp [jW,kJ,hc],h2,e2,fun d cs hd=>?_⟩;simp only [js,hc,zD,Z59]
   exact ⟨⟨xK,h1,rfl⟩,⟨cs,hd,rfl⟩,h⟩
  | false=>
   rw [hc] at hq;rcases Fa vZ hT hs Zw uh h with ⟨f1,f2,f3⟩ | ⟨j,e',v,cs,f1,f2,f3,f4,f5,f6,f7⟩
   ·left;refine ⟨fun w' i=>by simp [Instr.findAsking,hq,f1],by simp [jW,hc,f2],fun d cs b hd=>?_⟩;simp only [js,hc,zW,ue];exact ⟨⟨c1,h1,e1⟩,⟨c2,h2,e2⟩,f3 d cs b hd⟩
   ·right;refine ⟨j+1,e',v,cs,fun w' i=>by simp [Instr.findAsking,hq,f1,R4,Z4g 1 j],by simpa using f2,f3,by simp [jW,kJ,hc,f4],f5,f6,fun d cs hd=>?_⟩;simp only [js,hc,zW,Z5a];exact ⟨⟨c1,h1,e1⟩,⟨c2,h2,e2⟩,f7 d cs hd⟩
theorem z6i {t:Ty} (h:j7 t=true):Wp t=yI t:=by simp [Wp,h]
theorem Tk {a b:Ty}:Wp (.pair a b)=PS (.pair a b):=rfl
theorem I0 {P:Program} {w:World} {g:z8} {kt vt:Ty} {KT:TypeId} (hk:kTy kt=true) (hkT:z2k P kt KT) {k:kt.den} {xK:List Value} (uh:zC w g none kt k xK) {es:List MapEntry} {m:List (kt.den×vt.den)} (hm:yE w g kt vt es m) :
  LV P w g kt vt KT k (jA kt.sk.isAgg xK) es m/\∀ em w',(Instr.checkKey em 10000 KT (jA kt.sk.isAgg xK)).run P w' = .ok () w':=by
 rcases BC hk with hk | ⟨a,b,rfl,vZ⟩
 ·have hkd:=YM hk hkT.1;have hik:=xl hk uh;refine ⟨?_,fun em w'=>run_checkKey (P:=P) (w:=w') hkd hik em 9999⟩;unfold LV;rw [z6i hk];rcases MU hk uh hm with ⟨f1,f2,f3⟩ | ⟨j,e,v,cs,f1,f2,f3,f4,f5,f6,f7⟩
  ·exact .inl ⟨fun w'=>run_findKey (P:=P) (w:=w') hkd f1,f2,f3⟩
  ·exact .inr ⟨j,e,v,cs,fun w'=>run_findKey (P:=P) (w:=w') hkd f1,f2,f3,fun w'=>run_keyThatStays (P:=P) (w:=w') hik,f4,f5,f6,f7⟩
 ·obtain ⟨hT,h2⟩:=hkT;obtain ⟨hs,Zw⟩:=h2 rfl;refine ⟨?_,fun em w'=>Dd vZ hT uh em w'⟩;have hT':=hT;simp only [qq] at hT';obtain ⟨⟨fs,hu,Ct⟩,_⟩:=hT';have za8:(match P.underlying KT with | some (.array _ _) | some (.struct _)=>true | _=>false)=true:=by rw [hu]
  have Qj:jA (Ty.pair a b).sk.isAgg xK = .agg xK.toArray:=rfl;unfold LV;rw [Qj,Tk];rcases Fa vZ hT hs Zw uh hm with ⟨f1,f2,f3⟩ | ⟨j,e,v,cs,f1,f2,f3,f4,f5,f6,f7⟩
  ·exact .inl ⟨fun w'=>(run_findKey_eq w' za8 _ _).trans (f1 w' 0),f2,f3⟩
  ·refine .inr ⟨j,e,v,cs,fun w'=>(run_findKey_eq w' za8 _ _).trans (by have:=f1 w' 0;rw [Zp] at this;exact this),f2,f3,fun w'=>?_,f4,f5,f6,f7⟩;have hb:=(XL vZ Ct uh uh).2;have hsb:Instr.sameBits 10000 (.agg xK.toArray) (.agg xK.toArray)=true:=by
    show Instr.sameBits (9999+1) (.agg xK.toArray) (.agg xK.toArray)=true;simp only [Instr.sameBits,beq_self_eq_true,Z2q,Z2k];intro p hp;have h2:=List.of_mem_zip hp;have h3:p.1=p.2:=by
     obtain ⟨i,hi,rfl⟩:=VI.1 hp;simp
    rw [<-h3];exact hb _ (by simpa using h2.1) 9999
   simp [Instr.keyThatStays,hsb]
section
variable {P:Program} {o:Oper} {a:Act} {w:World} {K:Act->World->Prop} {Q:Exit->Act->World->Prop} {c:Ctx} {J:St} {g:z8} {k:St->Option R} {r:R} {base:Nat} {mo:Bool}
theorem Oj (Mg:Ez P c.mt) {t:TypeId} {x i:Operand} {ok:Bool} (ho:o.op = .lookup t x i ok) (zq:zK c.ntmps g w a J) (h:y9 c J base o k=some r):vN P o a w g J c k r:=by
 simp only [y9,ho] at h;split at h
 ·rename_i av bv hx hi;obtain ⟨id,kt,vt,m,rfl,AG,zg,hkt,hvt,h⟩:=xd h;obtain ⟨KT,E,qg,hkT,hvT,iz,z,hiz,hz,hzv⟩:=Mg _ _ _ AG
  cases hb:bv.val with
  | false=>rw [hb] at h;simp at h
  | true=>
   rw [hb] at h;simp only [zD] at h;obtain ⟨key,xK,h,uh,Hb⟩:=uH zq (Wg hkt) hb hi h;obtain ⟨es,ck,hblk,zH,_,_,zX,_⟩:=zq.heap.z6 _ _ zg;have hv:=Zy (qG zq hx).1 zg;have qJ:g.zt id < w.heap.size:=zq.heap.tags _ (by rw [zH];simp);obtain ⟨Ek,G3⟩:=I0 hkt hkT uh zX;split at h
   ·rename_i zd hzd;obtain ⟨i0,z0,hi0,hs0,_,Fp,EZ,_⟩:=hvT.info.info;have hzz:z0=z:=by rw [hiz] at hi0;cases hi0;rw [hz] at Fp;cases Fp;rfl
    subst hzz;have BD:=vA (w:=w) (g:=g) (wS hvt) hzd;rw [<-EZ] at BD;have TV:∀ w',(zeroValue E).run P w' = .ok z0 w':=fun w'=>by simp [zeroValue,typeInfo,hiz,hz]
    have found:∃ (vv:Value) (cs:List Value),zC w g none vt ((jW (Wp kt) m key).getD zd) cs/\vv=jA vt.sk.isAgg cs/\
      ∀ w',jT w w'->(Instr.lookup t (.map (some (g.zt id))) (jA kt.sk.isAgg xK) ok).run P w' = .ok (if ok then .tuple #[vv,.bool (jW (Wp kt) m key).isSome] else vv) w':=by
     rcases Ek with ⟨f1,f2,_⟩ | ⟨j,e,v,cs,f1,f2,f3,_,f4,f5,f6,_⟩
     ·refine ⟨z0,z0.cells.toList,by rw [f2];exact BD,hzv,fun w' vl=>?_⟩;have Zg:w'.heap[g.zt id]? = some (.map es ck):=by rw [vl _ qJ];exact hblk
      have hg:(getObj (g.zt id)).run P w' = .ok (.map es ck) w':=by simp [getObj,Sem.run,Zg]
      have FH:=G3 es.isEmpty w';have OL:=f1 w';simp [Instr.lookup,run_underlying qg,hg,FH,OL,TV,f2]
     ·refine ⟨e.val,cs,by rw [f4.1];exact f5,f6,fun w' vl=>?_⟩;have Zg:w'.heap[g.zt id]? = some (.map es ck):=by rw [vl _ qJ];exact hblk
      have hg:(getObj (g.zt id)).run P w' = .ok (.map es ck) w':=by simp [getObj,Sem.run,Zg]
      have FH:=G3 es.isEmpty w';have OL:=f1 w';simp [Instr.lookup,run_underlying qg,hg,FH,OL,f4.1]
    obtain ⟨vv,cs,hvr,gR,zb⟩:=found;have pw:∀ w',LP o w w'->(execOp a.eval o).run P w' = .ok (.value (if ok then .tuple #[vv,.bool (jW (Wp kt) m key).isSome] else vv)) w':=fun w' vl=>by
     have:=zb w' (vl (by simp [isP,ho]));simp only [execOp,ho,hv,Hb];simp [this]
    cases ok with
    | true=>
     simp only [zD] at h;refine Zi (pw) ?_ (fun m _=>by simp [z7.ids]) h;simp only [Dn,zl];refine ⟨[vv,.bool (jW (Wp kt) m key).isSome],rfl,?_⟩;simp only [qj]
     exact ⟨vv,_,rfl,VB hvt hvr gR,_,_,rfl,wL _,rfl⟩
    | false=>
     simp only [zW] at h;exact Zi pw (by simp only [Z25,Lp];exact VB hvt hvr gR) (fun m _=>by simp [z7.ids]) h
   ·simp at h
 ·simp at h
theorem CC (Mg:Ez P c.mt) {t:TypeId} {x i y:Operand} (ho:o.op = .mapUpdate t x i y) (zq:zK c.ntmps g w a J) (h:y9 c J base o k=some r) (hK:jt c.ntmps k r g w J base true K):o.wp P a w K Q:=by
 simp only [y9,ho] at h;split at h
 ·rename_i av bv vv hx hi hy Qn;obtain ⟨id,kt,vt,m,rfl,AG,zg,hkt,hvt,h⟩:=xd h;obtain ⟨KT,E,qg,hkT,hvT,_⟩:=Mg _ _ _ AG
  cases hb:(bv.val && vv.val) with
  | false=>rw [hb] at h;simp at h
  | true=>
   rw [hb] at h;simp only [zD] at h;simp only [zA] at hb;obtain ⟨key,xK,h,uh,Hb⟩:=uH zq (Wg hkt) hb.1 hi h;obtain ⟨d,dcs,h,Rg,zey⟩:=uH zq hvt hb.2 hy h;obtain ⟨es,ck,hblk,zH,_,_,zX,AB,uj⟩:=zq.heap.z6 _ _ zg;have hv:=Zy (qG zq hx).1 zg;obtain ⟨Ek,G3⟩:=I0 hkt hkT uh zX;have hg:(getObj (g.zt id)).run P w = .ok (.map es ck) w:=by simp [getObj,Sem.run,hblk]
   have w8:∀ ob,(setObj (g.zt id) ob).run P w = .ok () { w with heap:=w.heap.setIfInBounds (g.zt id) ob }:=fun ob=>by simp [setObj,Sem.run,hblk]
   have FH:=G3 false w;have key:∃ RQ ck',(Instr.mapUpdate t (.map (some (g.zt id))) (jA kt.sk.isAgg xK) (jA vt.sk.isAgg dcs)).run P w = .ok () { w with heap:=w.heap.setIfInBounds (g.zt id) (.map RQ ck') }/\yE w g kt vt RQ.toList (js (Wp kt) m key d)/\ck'=RQ.size/\kN RQ.toList:=by
    rcases Ek with ⟨f1,f2,f3⟩ | ⟨j,e,v,cs,f1,f2,f3,hks,f4,f5,f6,f7⟩
    ·have OL:=f1 w;refine ⟨es.push ⟨jA kt.sk.isAgg xK,jA vt.sk.isAgg dcs,ck⟩,ck+1,?_,?_,by simp [AB],?_⟩
     ·simp [Instr.mapUpdate,run_underlying qg,hg,FH,OL,w8]
     ·rw [Z4k];exact f3 d dcs ck Rg
     ·unfold kN at uj ⊢;rw [Z4k,RK,uj,Kj,AB];simp [RW]
    ·have OL:=f1 w;have hks:=hks w;have hej:es[j]? = some e:=by rw [<-Z22];exact f2
     refine ⟨es.modify j fun e=>{ e with key:=jA kt.sk.isAgg xK,val:=jA vt.sk.isAgg dcs },ck,?_,?_,by simp [AB],?_⟩
     ·simp [Instr.mapUpdate,run_underlying qg,hg,FH,OL,w8,hej,f3,hks]
     ·rw [Z3e];exact f7 d dcs Rg
     ·unfold kN at uj ⊢;rw [Z3e,Z5b,<-uj];apply Z2z;intro i;simp only [Z2r,Z4l];split
      ·cases es.toList[i]? <;> rfl
      ·simp
   obtain ⟨RQ,ck',zb,Xz,zf3,Fu⟩:=key;obtain ⟨qP,qM,vQ⟩:=Ud (ck:=ck') zq zg Xz zf3 Fu;refine wp_skip Qn ?_ qP qM (fun n _ hn=>vQ n hn) rfl h (fun h=>Bool.noConfusion h) hK;simp only [execOp,ho,hv,Hb,zey];simp [zb]
 ·simp at h
theorem BK {I Z:Type} {eq:I->I->Bool}:{m:List (I×Z)}->{k:I}->jW eq m k=none->kJ eq m k=m.length
 | [],_,_=>rfl
 | (a,b) :: m,k,h=>by
  simp only [jW,kJ] at h ⊢
  cases hc:eq k a with
  | true=>rw [hc] at h;simp at h
  | false=>rw [hc] at h;simp only [zW] at h ⊢;rw [BK h];rfl
theorem Ls {I Z:Type} {eq:I->I->Bool} (k:I):(m:List (I×Z))->kJ eq m k<=m.length
 | []=>yS _
 | (a,b) :: m=>by
  have:=Ls k m (eq:=eq);simp only [kJ,GO];cases eq k a
  ·simp only [zW];omega
  ·simp only [zD];omega
theorem yE.set {w:World} {g:z8} {kt vt:Ty} {d:vt.den} {cs:List Value} (hd:zC w g none vt d cs):{es:List MapEntry}->{m:List (kt.den×vt.den)}->{j:Nat}->yE w g kt vt es m->yE w g kt vt (es.modify j fun e=>{ e with val:=jA vt.sk.isAgg cs }) (UR m j d)
 | [],[],_,_=>by simp [UR,yE]
 | e :: _,(k,v) :: _,0,h=>by
  simp only [UR,Z59]
  exact ⟨h.1,⟨cs,hd,rfl⟩,h.2.2⟩
 | e :: _,(k,v) :: _,j+1,h=>by
  simp only [UR,Z5a]
  exact ⟨h.1,h.2.1,yE.set hd h.2.2⟩
 | [],_ :: _,_,h=>h.elim
 | _ :: _,[],_,h=>h.elim
theorem Eo (Mg:Ez P c.mt) {t:TypeId} {x i:Operand} (ho:o.op = .mapEntry t x i) (zq:zK c.ntmps g w a J) (h:y9 c J base o k=some r) (hK:jt c.ntmps k r g w J base true K):o.wp P a w K Q:=by
 simp only [y9,ho] at h;split at h
 ·rename_i av bv hx hi;obtain ⟨id,kt,vt,m,rfl,AG,zg,hkt,hvt,h⟩:=xd h;obtain ⟨KT,E,qg,hkT,hvT,iz,z,hiz,hz,hzv⟩:=Mg _ _ _ AG
  cases hb:bv.val with
  | false=>rw [hb] at h;simp at h
  | true=>
   rw [hb] at h;simp only [zD] at h;obtain ⟨key,xK,h,uh,Hb⟩:=uH zq (Wg hkt) hb hi h;obtain ⟨es,ck,hblk,zH,_,_,zX,AB,uj⟩:=zq.heap.z6 _ _ zg;have hv:=Zy (qG zq hx).1 zg;obtain ⟨Ek,G3⟩:=I0 hkt hkT uh zX;split at h
   ·rename_i zd hzd;obtain ⟨kS,h⟩:=qC h;have kS:=AM kS;obtain ⟨i0,z0,hi0,hs0,_,Fp,EZ,_⟩:=hvT.info.info;have hzz:z0=z:=by rw [hiz] at hi0;cases hi0;rw [hz] at Fp;cases Fp;rfl
    subst hzz;have BD:=vA (w:=w) (g:=g) (wS hvt) hzd;rw [<-EZ] at BD;have TV:(zeroValue E).run P w = .ok z0 w:=by simp [zeroValue,typeInfo,hiz,hz]
    have hg:(getObj (g.zt id)).run P w = .ok (.map es ck) w:=by simp [getObj,Sem.run,hblk]
    have w8:∀ ob,(setObj (g.zt id) ob).run P w = .ok () { w with heap:=w.heap.setIfInBounds (g.zt id) ob }:=fun ob=>by simp [setObj,Sem.run,hblk]
    have FH:=G3 false w;have hlen:=zX.length;have zez:es.size=m.length:=by rw [<-hlen,vX]
    have key:∃ RQ ck' vv cs,(Instr.mapEntry t (.map (some (g.zt id))) (jA kt.sk.isAgg xK)).run P w = .ok (.tuple #[vv,goInt (kJ (Wp kt) m key)]) { w with heap:=w.heap.setIfInBounds (g.zt id) (.map RQ ck') }/\
      yE w g kt vt RQ.toList (js (Wp kt) m key ((jW (Wp kt) m key).getD zd))/\ck'=RQ.size/\kN RQ.toList/\zC w g none vt ((jW (Wp kt) m key).getD zd) cs/\vv=jA vt.sk.isAgg cs:=by
     rcases Ek with ⟨f1,f2,f3⟩ | ⟨j,e,v,cs,f1,f2,f3,hks,f4,f5,f6,f7⟩
     ·have OL:=f1 w;refine ⟨es.push ⟨jA kt.sk.isAgg xK,z0,ck⟩,ck+1,z0,z0.cells.toList,?_,?_,by simp [AB],?_,by rw [f2];exact BD,hzv⟩
      ·rw [BK f2,<-zez,<-AB];simp [Instr.mapEntry,run_underlying qg,hg,FH,OL,w8,TV]
      ·rw [Z4k,f2];have:=f3 zd z0.cells.toList ck BD;rw [<-hzv] at this;exact this
      ·unfold kN at uj ⊢;rw [Z4k,RK,uj,Kj,AB];simp [RW]
     ·have OL:=f1 w;have hks:=hks w;have hej:es[j]? = some e:=by rw [<-Z22];exact f2
      have zlu:e.born=j:=by
       unfold kN at uj;have h1:(es.toList.map (·.born))[j]? = some e.born:=by rw [Z2r,f2];rfl
       rw [uj] at h1;have hj:j < es.toList.length:=(Z3p.1 f2).1;rw [Z5c hj] at h1;simpa using h1.symm
      refine ⟨es.modify j fun e=>{ e with key:=jA kt.sk.isAgg xK },ck,e.val,cs,?_,?_,by simp [AB],?_,by rw [f4.1];exact f5,f6⟩
      ·rw [show kJ (Wp kt) m key=e.born from f4.2.trans zlu.symm];simp [Instr.mapEntry,run_underlying qg,hg,FH,OL,w8,hej,f3,hks]
      ·have:=f7 v cs f5;rw [f4.1,Z3e];have e1:es.toList.modify j (fun e=>{ e with key:=jA kt.sk.isAgg xK,val:=jA vt.sk.isAgg cs })=es.toList.modify j (fun e=>{ e with key:=jA kt.sk.isAgg xK }):=by
        apply Z2z;intro q;simp only [Z4l];split
        ·rename_i hq;subst hq;rw [f2];simp [f6]
        ·rfl
       rw [e1] at this;exact this
      ·unfold kN at uj ⊢;rw [Z3e,Z5b,<-uj];apply Z2z;intro i;simp only [Z2r,Z4l];split
       ·cases es.toList[i]? <;> rfl
       ·simp
    obtain ⟨RQ,ck',vv,cs,zb,Xz,zf3,Fu,hvr,gR⟩:=key;obtain ⟨qP,qM,vQ⟩:=Ud (ck:=ck') zq zg Xz zf3 Fu;refine jB (v:=.tuple #[vv,goInt (kJ (Wp kt) m key)]) ?_ qP qM (fun n _ hn=>⟨vQ n hn,by simp [z7.ids]⟩) rfl ?_ h (fun h=>Bool.noConfusion h) hK
    ·simp only [execOp,ho,hv,Hb];simp [zb]
    ·simp only [zl];refine ⟨[vv,goInt (kJ (Wp kt) m key)],rfl,?_⟩;simp only [qj];refine ⟨vv,_,rfl,?_,_,_,rfl,?_,rfl⟩
     ·have qv:zO w g { w with heap:=w.heap.setIfInBounds (g.zt id) (.map RQ ck') } g:=qM.ro zq.heap.tags;exact VB hvt (hvr.kept qv) gR
     ·have hle:kJ (Wp kt) m key<=m.length:=Ls key m;unfold room at kS;refine jl ?_;simp only [IntKind.min,IntKind.max,IntKind.bits,IntKind.signed];simp;omega
   ·simp at h
 ·simp at h
theorem Ax (Mg:Ez P c.mt) {t:TypeId} {x i y:Operand} (ho:o.op = .entryStore t x i y) (zq:zK c.ntmps g w a J) (h:y9 c J base o k=some r) (hK:jt c.ntmps k r g w J base true K):o.wp P a w K Q:=by
 simp only [y9,ho] at h;split at h
 ·rename_i av ik p vv hx hi hy Qn;obtain ⟨id,kt,vt,m,rfl,AG,zg,hkt,hvt,h⟩:=xd h
  cases hb:vv.val with
  | false=>rw [hb] at h;simp at h
  | true=>
   rw [hb] at h;simp only [zD] at h;obtain ⟨d,dcs,h,Rg,zey⟩:=uH zq hvt hb hy h;obtain ⟨hr,h⟩:=qC h;simp only [zA,jL] at hr;obtain ⟨hr0,OC⟩:=hr;obtain ⟨es,ck,hblk,zH,_,_,zX,AB,uj⟩:=zq.heap.z6 _ _ zg;have hv:=Zy (qG zq hx).1 zg;have hiv:=(jF (qG zq hi).1).1;have hg:(getObj (g.zt id)).run P w = .ok (.map es ck) w:=by simp [getObj,Sem.run,hblk]
   have w8:∀ ob,(setObj (g.zt id) ob).run P w = .ok () { w with heap:=w.heap.setIfInBounds (g.zt id) ob }:=fun ob=>by simp [setObj,Sem.run,hblk]
   have zez:es.size=m.length:=by rw [<-zX.length,vX]
   have hpz:p.toNat < es.size:=by rw [zez];exact (Int.toNat_lt hr0).2 OC
   have hpi:(p.toNat:Int)=p:=Z2n hr0;have zlj:es.findIdx? (fun e=>(e.born:Int) == p)=some p.toNat:=by
    rw [Array.findIdx?_eq_some_iff_getElem];unfold kN at uj;have hb:∀ (j:Nat) (hj:j < es.size),es[j].born=j:=fun j hj=>by
     have h1:(es.toList.map (·.born))[j]? = some es[j].born:=by rw [Z2r,Z22,Z3d hj];rfl
     rw [uj,Z5c (by simpa using hj)] at h1;simpa using h1.symm
    refine ⟨hpz,?_,fun j hj=>?_⟩
    ·rw [hb _ hpz,hpi];simp
    ·rw [hb _ (Nat.lt_trans hj hpz),<-hpi];simp;omega
   have Xz:yE w g kt vt (es.modify p.toNat fun e=>{ e with val:=jA vt.sk.isAgg dcs }).toList (UR m p.toNat d):=by
    rw [Z3e];exact yE.set Rg zX
   have Fu:kN (es.modify p.toNat fun e=>{ e with val:=jA vt.sk.isAgg dcs }).toList:=by
    unfold kN at uj ⊢;rw [Z3e,Z5b,<-uj];apply Z2z;intro i;simp only [Z2r,Z4l];split
    ·cases es.toList[i]? <;> rfl
    ·simp
   obtain ⟨qP,qM,vQ⟩:=Ud (ck:=ck) zq zg Xz (by simp [AB]) Fu;refine wp_skip Qn ?_ qP qM (fun n _ hn=>vQ n hn) rfl h (fun h=>Bool.noConfusion h) hK;simp only [execOp,ho,hv,hiv,zey];simp [Instr.entryStore,hg,asInt,asIntOf,zlj,w8]
 ·simp at h
end
end Go.Kz
namespace Go.Kz
open Go.ChangeMaps (setBlock)
open Go.MapKept
variable {R:Type}
theorem Lg {I:Type} {f:I->Option R} {l:List I} {r:R} (h:z27 f l=some r):∀ a∈l,f a=some r:=by
 cases l with
 | nil=>simp
 | cons a l=>
  simp only [z27] at h;split at h
  ·rename_i hall;intro b hb;rcases gX.1 hb with rfl | hb
   ·exact h
   ·rw [hall b hb];exact h
  ·simp at h
theorem Uc {n:Nat} {i:Int}:i∈upto n↔0<=i/\i < n:=by
 induction n with
 | zero=>simp [upto]
 | succ n ih=>simp only [upto,Gt,ih,EY];omega
theorem yE.get {w:World} {g:z8} {kt vt:Ty}:{es:List MapEntry}->{m:List (kt.den×vt.den)}->yE w g kt vt es m->{i:Nat}->{e:MapEntry}->es[i]? = some e->
  ∃ k v,m[i]? = some (k,v)/\(∃ cs,zC w g none kt k cs/\e.key=jA kt.sk.isAgg cs)/\∃ cs,zC w g none vt v cs/\e.val=jA vt.sk.isAgg cs
 | [],_,_,i,e,he=>by simp at he
 | e0 :: es,(k,v) :: m,⟨h1,h2,h⟩,i,e,he=>by
  cases i with
  | zero=>
   simp only [Z5d,zI] at he;subst he
   exact ⟨k,v,rfl,h1,h2⟩
  | succ i=>
   obtain ⟨k',v',h3,h4⟩:=h.get (i:=i) (e:=e) (by simpa using he)
   exact ⟨k',v',by simpa using h3,h4⟩
 | _ :: _,[],h,_,_,_=>h.elim
theorem kN.at {es:List MapEntry} (h:kN es) {i:Nat} {e:MapEntry} (he:es[i]? = some e):e.born=i:=by
 unfold kN at h;have h1:(es.map (·.born))[i]? = some e.born:=by simp [he]
 have hi:i < es.length:=(Z3p.1 he).1;rw [h,Z5c hi] at h1;simpa using h1.symm
section
variable {P:Program} {o:Oper} {a:Act} {w:World} {K:Act->World->Prop} {Q:Exit->Act->World->Prop} {c:Ctx} {J:St} {g:z8} {k:St->Option R} {r:R} {base:Nat} {mo:Bool}
theorem SU (Mg:Ez P c.mt) {t:TypeId} {x:Operand} {av:z7} (ho:o.op = .range t x) (zq:zK c.ntmps g w a J) (hf:zY g J base) (hx:ev J x=some av) (h:Iv c J base o.dst t av k=some r)
  (hK:jt c.ntmps k r g w J base mo K):o.wp P a w K Q:=by
 unfold Iv at h;split at h
 ·rename_i id mt AG;split at h
  ·rename_i kt vt m zg;obtain ⟨KT,E,qg,_⟩:=Mg _ _ _ AG;have hv:=Zy (qG zq hx).1 zg;obtain ⟨es,ck,hblk,zH,_,_,zX,FH,uj⟩:=zq.heap.z6 _ _ zg;have hl:=zX.length;have vI:id≠base:=fun he=>by subst he;have:=hf.z6;rw [zg] at this;simp at this
   have zb:=run_range_map (P:=P) w t KT E (g.zt id) es ck qg hblk;have hn:ck=m.length:=by rw [FH,<-hl,vX]
   refine Jt (ob:=.mapIter (some (g.zt id)) ck #[] ck) (obj:=.cell (pF id (m.length:Int) (upto m.length) (-1))) (tg:=.box base) (v:=undef) (v':=.pointer (some ⟨w.heap.size,0,none⟩)) zq hf (.inl rfl) ?_ rfl ?_ ?_ ?_ h hK
   ·simp only [execOp,ho,hv];simp [zb]
   ·refine (zm.iter rfl).2 ⟨id,m.length,g.zt id,#[],-1,?_,?_,by simp [qI],fun c hc=>by omega,fun Ur Pe m' hm=>?_⟩
    ·congr 1;exact (List.filter_eq_self.2 (by simp)).symm
    ·have hb:(qI g w.heap.size base (.box base) undef).zt base=w.heap.size:=by simp [qI]
     rw [hb,hn];exact heap_alloc_new w _
    ·simp [qI,vI]
   ·intro y hy m' _ w9;simp only [Obj.cell.injEq] at hy;subst hy;simp only [pF,z7.ids,AL,EY];intro he;subst he;have:=w9.z6;rw [zg] at this;simp at this
   ·simp only [zl];refine ⟨_,⟨_,rfl,rfl,fun y _=>?_⟩,rfl⟩;refine ⟨0,y.sk,by simp [Sk.off],?_⟩;simp [qI]
  ·simp at h
 ·simp at h
set_option maxHeartbeats 2000000 in
theorem z5r {x:Operand} {av:z7} (ho:o.op = .next x false) (zq:zK c.ntmps g w a J) (hx:ev J x=some av) (h:Sn c J o.dst av k=some r) (hK:jt c.ntmps k r g w J base true K):o.wp P a w K Q:=by
 unfold Sn at h;split at h
 ·rename_i id;split at h
  ·rename_i Kx n left curx zg;split at h
   ·rename_i kt vt m Ta;obtain ⟨hn,h⟩:=qC h;have hn:=AM hn;obtain ⟨ex,ef⟩:=qG zq hx;simp only [zl] at ex;obtain ⟨cs,⟨v,rfl,_,gR⟩,hv⟩:=ex;obtain ⟨off,s,ju,rfl⟩:=gR _ zg;simp only [Sk.off,zI,gB] at ju;obtain ⟨rfl,_⟩:=ju;have hv:a.eval x = .pointer (some ⟨g.zt id,0,none⟩):=hv;obtain ⟨zq0,n',bm,seen,zvs,hit,hblk,zH,_,hbm⟩:=(zm.iter rfl).1 (zq.heap.z6 _ _ zg);simp only [pF,z7.jC.injEq,z7.pr.injEq,z7.qA.injEq,z7.data.injEq,heq_eq_eq,VL,Ds] at hit;obtain ⟨rfl,rfl,rfl,rfl⟩:=hit;obtain ⟨es,ck,BL,zkt,uh,hvr,zX,FH,uj⟩:=zq.heap.z6 _ _ Ta;have hl:=zX.length;rw [vX] at hl;have IH:n'=es.size:=by have:((n':Nat):Int)=((m.length:Nat):Int):=hn;omega
    rw [<-hbm _ _ _ Ta] at BL;have hold:∀ x∈es.toList,x.born < n':=by
     intro x hx;obtain ⟨p,hp,rfl⟩:=VI.1 hx;rw [uj.at (gj hp)];rw [vX] at hp;omega
    have inL:∀ e,e∈(leftOf es seen).toList->es.toList[e.born]? = some e/\(e.born:Int)∈(upto n').filter (fun i=>!seen.contains i.toNat):=by
     intro e he;obtain ⟨h1,h2⟩:=mem_left he;obtain ⟨p,hp,rfl⟩:=VI.1 h1;have hb:=uj.at (gj hp);refine ⟨by rw [hb];exact gj hp,Z30.2 ⟨Uc.2 ⟨by omega,by have:=hold _ h1;omega⟩,?_⟩⟩;simp only [RV,h2,Z2b]
    rcases run_next_at (P:=P) w o.type (g.zt id) bm n' n' seen es ck hblk BL hold (yS _) with ⟨hz,zb⟩ | ⟨e,he,w1,hw1,zb⟩
    ·have TN:(upto n').filter (fun i=>!seen.contains i.toNat)=[]:=by
      rw [Z5e];intro j hj;obtain ⟨h1,h2⟩:=Z30.1 hj;rw [Uc] at h1;have hp:j.toNat < es.toList.length:=by rw [vX];omega
      have hb:=uj.at (gj hp);have h0:leftOf es seen = #[]:=Z4z hz;have hm:es.toList[j.toNat]∈leftOf es seen:=by
       unfold leftOf;rw [Array.mem_filter];refine ⟨Array.mem_toList_iff.1 (kK hp),?_⟩;rw [hb];exact h2
      rw [h0] at hm;simp at hm
     have h':UL ((upto n').filter (fun i=>!seen.contains i.toNat)) (J.qe c o.dst (.jC (.pr (.data .bool false) .un)) k) _=some r:=h;rw [TN] at h';simp only [UL] at h';refine jB (g:=g) (g':=g) (J:=J) (J':=J) (base:=base) (v:=.tuple #[.bool false]) (w':=w) ?_ zq (Ext.refl w g) (fun m _ w9=>⟨w9,by simp [z7.ids]⟩) rfl ?_ h' (fun h=>Bool.noConfusion h) hK
     ·simp only [execOp,ho,hv];simp [zb]
     ·simp only [zl];refine ⟨[.bool false],rfl,?_⟩;simp only [qj];exact ⟨_,_,rfl,wL _,rfl⟩
    ·obtain ⟨hei,jo⟩:=inL e he;have hf:∀ (L:List Int) (D:Option R) (F:Int->List Int->Option R),(e.born:Int)∈L->UL L D F=some r->F e.born (L.filter fun i=>!decide (i=(e.born:Int)))=some r:=by
      intro L D F hL Zm
      cases L with
      | nil=>simp at hL
      | cons j l=>
       simp only [UL] at Zm;exact Lg Zm _ hL
     have h2:=hf _ _ _ jo h;obtain ⟨kk,vv,hm,⟨xK,Tc,Td⟩,vcs,TG,hval⟩:=zX.get hei;have zu1:idx m (e.born:Int)=some (kk,vv):=hm;rw [zu1] at h2;simp only [zB] at h2;have h3:(J.setObj id (.cell (pF Kx (n':Int) (((upto n').filter (fun i=>!seen.contains i.toNat)).filter (fun i=>!decide (i=(e.born:Int)))) (e.born:Int)))).qe c o.dst (.jC (.pr (.data .bool true) (.pr (.data kt kk) (.pr (.data vt vv) .un)))) k=some r:=h2;clear h2 h hf;have pk:((upto n').filter (fun i=>!seen.contains i.toNat)).filter (fun i=>!decide (i=(e.born:Int)))=(upto n').filter (fun i=>!(seen.push e.born).contains i.toNat):=by
      rw [List.filter_filter];refine Z4m fun i hi=>?_
      rw [Uc] at hi;by_cases hie:i=(e.born:Int)
      ·subst hie;simp
      ·have:i.toNat≠e.born:=by omega
       simp [hie,this]
     have yC:zK c.ntmps g w1 a J:=by
      rcases hw1 with rfl | rfl
      ·exact zq
      ·exact zK.VJ (w:=w) (w':=w.drew) rfl zq
     have yP:Ext w g w1 g:=by
      rcases hw1 with rfl | rfl
      ·exact Ext.refl _ g
      ·exact Ext.VJ (w:=w) (w':=w.drew) rfl rfl rfl rfl (Z1o _)
     have wm:w1.heap=w.heap:=by rcases hw1 with rfl | rfl <;> rfl
     have zlv:w1.heap[g.zt id]? = some (.mapIter (some bm) n' seen n'):=by rw [wm];exact hblk
     have hcn:ck=n':=by rw [FH,IH]
     obtain ⟨k1,k2⟩:=heap_set (o':=.mapIter (some bm) n' (seen.push e.born) ck) zlv;let w2:World:=setBlock w1 (g.zt id) (.mapIter (some bm) n' (seen.push e.born) ck);have qv:zO w1 g w2 g:=⟨fun b hb=>⟨hb,k2 b (fun he=>by subst he;rw [zH] at hb;simp at hb)⟩⟩;have FK:∀ m',zY g J m'->m'≠Kx:=fun m' w9 he=>by subst he;have:=w9.z6;rw [Ta] at this;simp at this
     have zu2:∀ m',zY g J m'->m'≠id:=fun m' w9 he=>by subst he;have:=w9.z6;rw [zg] at this;simp at this
     have Zw:Kx≠id:=fun he=>by subst he;rw [Ta] at zg;simp at zg
     refine jB (g:=g) (g':=g) (J:=J) (base:=base) (J':=J.setObj id (.cell (pF Kx (n':Int) (((upto n').filter (fun i=>!seen.contains i.toNat)).filter (fun i=>!decide (i=(e.born:Int)))) (e.born:Int)))) (v:=.tuple #[.bool true,e.key,e.val]) (w':=w2) ?_ ?_ (yP.trans ?_) (fun m' _ w9=>⟨?_,by simp [z7.ids]⟩) rfl ?_ h3 (fun h=>Bool.noConfusion h) hK
     ·simp only [execOp,ho,hv];simp [zb,w2]
     ·refine yC.p9 qv (fun i hi=>?_) (.inl (.inr (.inr (.inl ⟨_,_,zg,rfl,rfl,rfl⟩)))) ?_ (fun b hb=>?_)
      ·refine ⟨⟨fun q=>rfl,fun q b hb=>⟨hb,k2 b (fun he=>?_)⟩⟩,rfl,fun hb=>⟨hb,k2 _ (fun he=>?_)⟩⟩
       ·subst he;rw [zH] at hb;simp at hb
       ·rw [he,zH] at hb;simp only [Tag.box.injEq] at hb;exact hi hb.symm
      ·have h5:w2.heap[g.zt id]? = some (.mapIter (some bm) n' (seen.push e.born) ck):=k1;rw [hcn] at h5;have h6:∀ c:Nat,(e.born:Int)=(c:Int)->(seen.push e.born).back? = some c:=by
        intro c hc;have:c=e.born:=by omega
        subst this;simp
       refine (zm.iter rfl).2 ⟨Kx,n',bm,seen.push e.born,(e.born:Int),by rw [pk],h5,zH,h6,fun Ur Pe m' Xy=>?_⟩;simp only [St.setObj] at Xy;rw [ze _ _ Zw] at Xy;exact hbm _ _ _ Xy
      ·have:=yC.heap.tags b hb;simpa [w2,setBlock] using this
     ·refine ⟨rfl,rfl,rfl,yS _,by simp [w2,setBlock],fun b _ hb=>⟨k2 b (fun he=>?_),rfl⟩⟩;subst he;rw [zH] at hb;simp at hb
     ·refine ⟨?_,w9.row,w9.box,w9.zj,fun i av hi=>?_⟩
      ·simp only [St.setObj];rw [ze _ _ (zu2 m' w9)];exact w9.z6
      ·by_cases Ha:i=id
       ·subst Ha;simp only [St.setObj,zN,zI,Obj.cell.injEq] at hi;subst hi;simpa [pF,z7.ids] using FK m' w9
       ·simp only [St.setObj] at hi;rw [ze _ _ Ha] at hi;exact w9.cells i av hi
     ·have Gh:zO w g w2 g:=⟨fun b hb=>⟨hb,((qv.zt b hb).2).trans (by rw [wm])⟩⟩;simp only [zl];refine ⟨[.bool true,e.key,e.val],rfl,?_⟩;simp only [qj];exact ⟨_,_,rfl,wL _,_,_,rfl,⟨xK,⟨uh,Tc.kept Gh⟩,Td⟩,_,_,rfl,⟨vcs,⟨hvr,TG.kept Gh⟩,hval⟩,rfl⟩
   ·simp at h
  ·simp at h
 ·simp at h
theorem SC {x:Operand} {av:z7} (ho:o.op = .entry x) (zq:zK c.ntmps g w a J) (hx:ev J x=some av) (h:It c J o.dst av k=some r) (hK:jt c.ntmps k r g w J base true K):o.wp P a w K Q:=by
 unfold It at h;split at h
 ·rename_i id;split at h
  ·rename_i Kx n left cur zg;split at h
   ·rename_i kt vt m Ta;have hn:=AM (qC h).1;replace h:=(qC h).2;obtain ⟨ex,ef⟩:=qG zq hx;simp only [zl] at ex;obtain ⟨cs,⟨v,rfl,_,gR⟩,hv⟩:=ex;obtain ⟨off,s,ju,rfl⟩:=gR _ zg;simp only [Sk.off,zI,gB] at ju;obtain ⟨rfl,_⟩:=ju;have hv:a.eval x = .pointer (some ⟨g.zt id,0,none⟩):=hv;obtain ⟨zq0,n',bm,seen,zvs,hit,hblk,zH,zuk,hbm⟩:=(zm.iter rfl).1 (zq.heap.z6 _ _ zg);simp only [pF,z7.jC.injEq,z7.pr.injEq,z7.qA.injEq,z7.data.injEq,heq_eq_eq,VL,Ds] at hit;obtain ⟨rfl,rfl,rfl,rfl⟩:=hit;obtain ⟨es,ck,BL,zkt,uh,hvr,zX,FH,uj⟩:=zq.heap.z6 _ _ Ta;have hl:=zX.length;rw [vX] at hl;have IH:n'=es.size:=by have:((n':Nat):Int)=((m.length:Nat):Int):=hn;omega
    rw [<-hbm _ _ _ Ta] at BL;obtain ⟨e,he,h⟩:=VN.1 h;obtain ⟨h0,him,rfl,qJ⟩:=jf he;have hci:cur=((cur.toNat:Nat):Int):=(Z2n h0).symm;have Mx:=zuk cur.toNat hci;have hp:cur.toNat < es.toList.length:=by rw [vX];omega
    have AA:=gj hp;obtain ⟨kk,vv,hm,⟨xK,Tc,Td⟩,vcs,TG,hval⟩:=zX.get AA;have hb:=uj.at AA;have hml:m.get ⟨cur.toNat,him⟩=(kk,vv):=by
     have:=gj him;rw [this] at hm;simpa using hm
    rw [hml] at h;have hnd:(es.toList.map (·.born)).Nodup:=by
     have h2:es.toList.map (·.born)=List.range es.toList.length:=uj;rw [h2];exact List.nodup_range
    have hf:es.find? (fun y=>y.born == cur.toNat)=some es.toList[cur.toNat]:=by
     have:=find_born es.toList[cur.toNat] es.toList hnd (kK hp);rw [hb] at this;rw [<-Array.find?_toList];exact this
    have zb:(Instr.entry (.pointer (some ⟨g.zt id,0,none⟩))).run P w = .ok (.tuple #[es.toList[cur.toNat].key,es.toList[cur.toNat].val]) w:=by
     have hcn:ck=n':=by rw [FH,IH]
     rw [hcn] at BL;simp only [Instr.entry,getObj,Sem.run_bind,Sem.run,hblk,BL,Result.andThen,Mx,bne_self_eq_false,Z25,Lp,hf];rfl
    refine jB (g:=g) (g':=g) (J:=J) (J':=J) (base:=base) (v:=.tuple #[es.toList[cur.toNat].key,es.toList[cur.toNat].val]) (w':=w) ?_ zq (Ext.refl w g) (fun m _ w9=>⟨w9,by simp [z7.ids]⟩) rfl ?_ h (fun h=>Bool.noConfusion h) hK
    ·simp only [execOp,ho,hv];simp [zb]
    ·simp only [zl];refine ⟨[es.toList[cur.toNat].key,es.toList[cur.toNat].val],rfl,?_⟩;simp only [qj];exact ⟨_,_,rfl,⟨xK,⟨uh,Tc⟩,Td⟩,_,_,rfl,⟨vcs,⟨hvr,TG⟩,hval⟩,rfl⟩
   ·simp at h
  ·simp at h
 ·simp at h
end
end Go.Kz
namespace Go.Kz
variable {R:Type}
section
variable {P:Program} {o:Oper} {a:Act} {w:World} {c:Ctx} {J:St} {g:z8} {k:St->Option R} {r:R} {base:Nat}
theorem O3 {T:TypeId} {u:Ty} (hT:qq P u T) (cs:List Value) (off:Nat) (hs:off+u.size<=cs.length) (w:World) :
  (part T cs.toArray off).run P w = .ok (jA u.sk.isAgg (qB cs off u.size)) w:=by
 have vl:=B2 hT w;unfold part;rw [Sem.run_bind,vl]
 cases hu:u.sk.isAgg with
 | true=>
  have qK:=hT.info.sizeOf w;simp only [Result.andThen_ok,Dn,Sem.run_bind,qK,Sem.run_pure];congr 1;simp only [jA,Dn,Value.agg.injEq];apply Dr.1
  simp [qB,List.extract]
 | false=>
  have h1:u.size=1:=by cases u <;> simp [Ty.sk,Sk.isAgg] at hu <;> simp [Ty.size]
  have qJ:off < cs.length:=by omega
  have hg:cs.toArray[off]? = some cs[off]:=by simp [qJ]
  simp only [Result.andThen_ok,Z25,Lp,hg,Sem.run_pure];congr 1;simp only [jA,Z25,Lp,qB,h1];rw [Z23 qJ];rfl
theorem Ov (kp:gP P c.tt) {t:TypeId} {x i:Operand} (ho:o.op = .index t x i) (zq:zK c.ntmps g w a J) (h:y9 c J base o k=some r):vN P o a w g J c k r:=by
 simp only [y9,ho] at h;split at h
 ·rename_i n t' l ki j m u hx hi hu;have hT:=kp _ _ hu;obtain ⟨ex,ef⟩:=qG zq hx;obtain ⟨vi,_⟩:=jF (qG zq hi).1
  cases hs:(Nat.beq n m && t'.sk.same u.sk) with
  | false=>rw [hs] at h;simp at h
  | true=>
   rw [hs] at h;simp only [zA] at hs;have Zw:n=m:=zE hs.1;subst Zw;have w7:=Sk.qw hs.2;have qK:u.size=t'.size:=by rw [<-Ty.zZ,<-Ty.zZ,w7]
   simp only [zD,VN] at h;obtain ⟨d,hd,h⟩:=h;obtain ⟨h0,vf,rfl,qJ⟩:=jf hd;simp only [qq] at hT;obtain ⟨⟨E,qg,hE⟩,_⟩:=hT;simp only [zl] at ex;obtain ⟨cs,⟨qv,hl,pO,jo⟩,hv⟩:=ex;have Jc:j.toNat < n:=by rw [<-hl];exact vf
   have hmul:(j.toNat+1)*t'.size<=n*t'.size:=kj _ Jc;rw [wz] at hmul;have jb:a.eval x = .agg cs.toArray:=by rw [hv];rfl
   have zty:(j:Int) < (n:Int):=by rw [<-hl];exact qJ
   refine Zi (v:=jA u.sk.isAgg (qB cs (j.toNat*t'.size) u.size)) ?_ ?_ (fun m _=>by simp [z7.ids]) h
   ·intro w' _;have hsE:=hE.info.sizeOf w';have hp:=O3 hE cs (j.toNat*u.size) (by rw [qK];omega) w';rw [qK] at hp hsE;simp [execOp,ho,jb,vi,Instr.index,asIntOf,run_underlying qg,h0,zty,hsE,hp,qK]
   ·simp only [zl];refine ⟨qB cs (j.toNat*t'.size) t'.size,⟨by simpa [Ty.zV] using qv,jo _ vf⟩,by rw [qK,<-w7];rfl⟩
 ·rename_i l ki j hx hi hu;have hT:=kp _ _ hu;simp only [qq] at hT;obtain ⟨vi,_⟩:=jF (qG zq hi).1;obtain ⟨s,hv,hl,hs⟩:=Kw (l:=l) (qG zq hx).1;subst hl;simp only [VN] at h;obtain ⟨d,hd,h⟩:=h;obtain ⟨h0,vf,rfl,qJ⟩:=jf hd;rw [vX] at vf;have qK:s.size=s.data.size:=rfl;have VQ:j.toNat < s.size:=by omega
  refine Zi (v:=.int .u8 (s[j.toNat]'VQ).toNat) ?_ ?_ (fun m _=>by simp [z7.ids]) h
  ·intro w' _;have hg:s[j.toNat]? = some (s[j.toNat]'VQ):=getElem?_pos s j.toNat VQ;simp [execOp,ho,hv,vi,Instr.index,asIntOf,run_underlying hT.1,h0,hg]
  ·have e:(s[j.toNat]'VQ)=s.data.toList.get ⟨j.toNat,by rw [vX];exact vf⟩:=by rw [HV,Z54];rfl
   rw [<-e];refine jl ⟨by simp [IntKind.min,IntKind.signed],?_⟩;have:=(s[j.toNat]'VQ).toNat_lt;simp only [IntKind.max,IntKind.bits,IntKind.signed];simp;omega
 ·simp at h
end
end Go.Kz
namespace Go.Kz
theorem EO {J:St} {id:Nat} {o:Obj} (h:J.z6 id=some o):J.setObj id o=J:=by
 cases J;simp only [St.setObj,St.mk.injEq,VL];simp only at h;refine ⟨?_,trivial⟩;funext i;by_cases hi:i=id
 ·subst hi;rw [zN,h]
 ·rw [ze _ _ hi]
theorem O1 {t u:Ty} (h:(Ty.same t u).isSome=true):t=u:=by
 cases hs:Ty.same t u with
 | none=>rw [hs] at h;simp at h
 | some e=>exact e.down
end Go.Kz
namespace Go.Kz
variable {R:Type}
theorem Ws {I:Type} {l m:List I} {a b:Int} (h0:0<=a) (KY:a<=b) (JW:b<=(l.length:Int)):a.toNat+Nat.min m.length (b-a).toNat<=l.length:=by
 have:=Nat.min_le_right m.length (b-a).toNat;have e:Nat.min m.length (b-a).toNat<=(b-a).toNat:=this;omega
theorem ZR {I:Type} (l m:List I) {a b:Int} (h0:0<=a) (KY:a<=b) (JW:b<=(l.length:Int)):(pY l a b m).length=l.length:=by
 have h1:=Ws (m:=m) h0 KY JW;have h2:Nat.min m.length (b-a).toNat<=m.length:=Z4n ..;simp only [pY,Kj,P0,Lx];generalize Nat.min m.length (b-a).toNat=n at *;omega
theorem Oi {I:Type} (l m:List I) {a b:Int} (h0:0<=a) (KY:a<=b) (JW:b<=(l.length:Int)) (i:Nat) (h:i < (pY l a b m).length) :
  (∃ j,∃ hj:j < m.length,i=a.toNat+j/\j < Nat.min m.length (b-a).toNat/\(pY l a b m).get ⟨i,h⟩=m.get ⟨j,hj⟩)\/
  (∃ hl:i < l.length,(i < a.toNat\/a.toNat+Nat.min m.length (b-a).toNat<=i)/\(pY l a b m).get ⟨i,h⟩=l.get ⟨i,hl⟩):=by
 have hlen:=ZR l m h0 KY JW;have h1:=Ws (m:=m) h0 KY JW;have h2:Nat.min m.length (b-a).toNat<=m.length:=Z4n ..;have Ex:i < l.length:=by rw [<-hlen];exact h
 have e:(pY l a b m)[i]? = if i < a.toNat then l[i]? else if i < a.toNat+Nat.min m.length (b-a).toNat then m[i-a.toNat]? else l[i]? := by
  simp only [pY];generalize Nat.min m.length (b-a).toNat=n at *;by_cases c1:i < a.toNat
  ·rw [yW c1,Z4o (by simp;omega),Z4o (by simp;omega),Z2v,yW c1]
  ·rw [qQ c1];by_cases c2:i < a.toNat+n
   ·rw [yW c2,Z4o (by simp;omega),Z5u (by simp;omega),P0,Z2v];rw [yW (by omega)];congr 1;omega
   ·rw [qQ c2,Z5u (by simp;omega),Z27];congr 1;simp only [Kj,P0];omega
 have e2:(pY l a b m)[i]? = some ((pY l a b m).get ⟨i,h⟩):=by rw [gj h];rfl
 rw [e2] at e;generalize Nat.min m.length (b-a).toNat=n at *;by_cases c1:i < a.toNat
 ·rw [yW c1,gj Ex] at e;exact .inr ⟨Ex,.inl c1,by simpa using e⟩
 ·rw [qQ c1] at e;by_cases c2:i < a.toNat+n
  ·have hj:i-a.toNat < m.length:=by omega
   rw [yW c2,gj hj] at e;exact .inl ⟨i-a.toNat,hj,by omega,by omega,by simpa using e⟩
  ·rw [qQ c2,gj Ex] at e;exact .inr ⟨Ex,.inr (by omega),by simpa using e⟩
theorem L2 {I:Type} (l m:List I) {a b:Int} (hn:Nat.min m.length (b-a).toNat=0):pY l a b m=l:=by
 simp [pY,hn]
section
variable {P:Program} {o:Oper} {a:Act} {w:World} {K:Act->World->Prop} {Q:Exit->Act->World->Prop} {c:Ctx} {J:St} {g:z8} {k:St->Option R} {r:R} {base:Nat}
theorem GJ {x y:Operand} {args:Array Operand} {ts:Array TypeId} {t t':TypeId} {v:Value} {w':World} (ho:o.op = .call { callee:=.builtin .copy,args:=args,argTypes:=ts }) (ha:args.toList=[x,y]) (ht:ts.toList=[t,t'])
  (h:∀ ty,(Builtin.copy_ #[t,t'] ty #[a.eval x,a.eval y]).run P w = .ok v w'):(execOp a.eval o).run P w = .ok (.value v) w':=by
 have e1:args = #[x,y]:=by apply Dr.1;simpa using ha
 have e2:ts = #[t,t']:=by apply Dr.1;simpa using ht
 subst e1;subst e2;simp [execOp,ho,resolve,invoke,builtin,h]
theorem Sy {id:Nat} {t:Ty} {l m:List t.den} {news:List Value} {x:Value} {e b off cap:Nat} {cc:Array Value} {ee:TypeId} {av bv:Int} (qv:t.zV=true)
  (h0:0<=av) (KY:av<=bv) (JW:bv<=(l.length:Int)) (Gi:l.length<=cap) (Gm:cap<=maxLen) (qT:g.sv id [] = .slice (some ⟨b,off,none⟩) l.length cap)
  (zH:g.tag b = .row id []) (zQ:w.heap[b]? = some (.cells cc ee (0,0))) (qK:off+cap*t.size<=cc.size)
  (jo:∀ (i:Nat) (h:i < l.length),zC w g (some (id,[.idx i])) t (l.get ⟨i,h⟩) (qB cc.toList (off+i*t.size) t.size)) (yY:w5 P w g t x m news) (z6:qk) :
  zm (w.setRow b (zU cc.toList (off+av.toNat*t.size) (news.take (Nat.min m.length (bv-av).toNat*t.size))).toArray) g z6 id (.row t (pY l av bv m) e):=by
 have xr:cc.toList.length=cc.size:=vX;have hmn:=Ws (m:=m) h0 KY JW;have h2:Nat.min m.length (bv-av).toNat<=m.length:=Z4n ..;have hlen:=ZR l m h0 KY JW;have gq:=Oi l m h0 KY JW;generalize hn:Nat.min m.length (bv-av).toNat=n at *;have FV:=yY.length;have Zw:n*t.size<=m.length*t.size:=kj _ h2;have Cd:(news.take (n*t.size)).length=n*t.size:=by rw [P0,FV];omega
 have hmul:(av.toNat+n)*t.size<=cap*t.size:=kj _ (by omega);rw [wz] at hmul;have Ru:zO w g (w.setRow b (zU cc.toList (off+av.toNat*t.size) (news.take (n*t.size))).toArray) g:=(jP (id:=id) _ (.inl ⟨[],zH⟩)).ro;refine ⟨qv,some ⟨b,off,none⟩,cap,by rw [hlen,qT],by rw [hlen,qT],by rw [hlen];exact Gi,Gm,.inr ⟨b,off,_,ee,rfl,zH,setRow_heap w b cc _ ee _ zQ,?_,fun j hj=>?_⟩⟩
 ·rw [Z26,yM _ _ _ (by rw [Cd,xr];omega),xr];exact qK
 ·refine zC.qt qv (o:=none) ?_;have hjl:j < l.length:=by rw [hlen] at hj;exact hj
  have FU:(j+1)*t.size<=cap*t.size:=kj _ (by omega);rw [wz] at FU;rcases gq j hj with ⟨i,hi,e1,Qv,e2⟩ | ⟨hl,uL,e2⟩
  ·rw [e2];have h3:(i+1)*t.size<=n*t.size:=kj _ Qv;rw [wz] at h3;have e3:off+j*t.size=(off+av.toNat*t.size)+i*t.size:=by rw [e1,wz];omega
   rw [e3,List.toList_toArray,ur _ _ _ _ _ (by rw [Cd];omega) (by rw [Cd,xr];omega)];have e4:qB (news.take (n*t.size)) (i*t.size) t.size=qB news (i*t.size) t.size:=by
    simp only [qB];rw [Z49,Z33];congr 1;omega
   rw [e4];exact (yY.elts i hi).kept Ru
  ·rw [e2];have hold:=(zC.qt (o':=none) qv (jo j hl)).kept Ru;rw [List.toList_toArray];rcases uL with qJ | AA
   ·have h3:(j+1)*t.size<=av.toNat*t.size:=kj _ (by omega);rw [wz] at h3;rw [jj _ _ _ _ _ (by omega) (by rw [xr];omega)];exact hold
   ·have h3:(av.toNat+n)*t.size<=j*t.size:=kj _ AA;rw [wz] at h3;rw [vD _ _ _ _ _ (by rw [Cd];omega) (by rw [Cd,xr];omega)];exact hold
theorem Bi (kp:gP P c.tt) {args:Array Operand} {ts:Array TypeId} {x y:Operand} {t t2:TypeId} (ho:o.op = .call { callee:=.builtin .copy,args:=args,argTypes:=ts }) (hargs:args.toList=[x,y]) (hts:ts.toList=[t,t2])
  {ow:Bool} {u:Ty} (hu:c.tt t=some (.sl ow u)) {bv2:z7} (hy:zl w g J.z6 bv2 (a.eval y)) (zq:zK c.ntmps g w a J) {id ep:Nat} {av bv:Int}
  (hx:∀ (t':Ty) (l:List t'.den) (e:Nat),J.z6 id=some (.row t' l e)->e=ep->0<=av/\av<=bv/\bv<=(l.length:Int)/\∀ ad cap,g.sv id [] = .slice ad l.length cap->l.length<=cap->∃ pD,a.eval x = .slice (ad.map fun ad=>ad.add (av.toNat*t'.size)) (bv-av).toNat pD\/((bv-av).toNat=0/\∃ ad',a.eval x = .slice ad' 0 pD))
  (h:(Da J u id ep av bv bv2 fun n J=>J.qe c o.dst (.data (.int .i64) n) k)=some r)
  (hK:jt c.ntmps k r g w J base true K):o.wp P a w K Q:=by
 unfold Da at h;split at h
 ·rename_i t' l e zg
  cases hb:(Nat.beq e ep && (Ty.same t' u).isSome) with
  | false=>rw [hb] at h;simp at h
  | true=>
  rw [hb] at h;simp only [zD] at h;simp only [zA] at hb;have FD:=zE hb.1;subst FD;have Qe:=O1 hb.2;subst Qe;obtain ⟨qv,hval,h,OE⟩:=gH h;obtain ⟨m,news,h,yY⟩:=YJ (P:=P) zq.heap qv hy h hval OE;have hT:=kp _ _ hu;simp only [qq] at hT;obtain ⟨⟨E,qg,hE⟩,_⟩:=hT;obtain ⟨i,zv,G2,Jd,AX,Rk,Rw,hi6⟩:=hE.info.info;obtain ⟨_,ad,cap,_,qT,Gi,Gm,wC⟩:=zq.heap.z6 _ _ zg;obtain ⟨h0,KY,JW,My⟩:=hx _ _ _ zg rfl;obtain ⟨pD,My⟩:=My ad cap qT Gi;have Qh:∀ w':World,(sizeOf E).run P w' = .ok t'.size w':=fun w'=>by simp [sizeOf,typeInfo,G2,Jd]
  have hmn:=Ws (m:=m) h0 KY JW;have h2:Nat.min m.length (bv-av).toNat<=m.length:=Z4n ..;have h3:Nat.min m.length (bv-av).toNat<=(bv-av).toNat:=Nat.min_le_right ..;have uI:=yY.pre _ h2 w rfl;have FG:=yY.len w rfl;have hint:zl w g (J.setObj id (.row t' (pY l av bv m) e)).z6 (.data (.int .i64) (Bh m av bv)) (goInt (Nat.min m.length (bv-av).toNat)):=by
   refine jl ⟨?_,?_⟩
   ·show (-9223372036854775808:Int)<=_;unfold Bh;omega
   ·show _<=(9223372036854775807:Int);unfold Bh;unfold maxLen at Gm;omega
  by_cases hn:Nat.min m.length (bv-av).toNat=0
  ·have pO:=L2 l m hn;rw [pO,EO zg] at h hint;refine jB (v:=goInt 0) (g':=g) (w':=w) (J':=J) (GJ ho hargs hts fun ty=>?_) zq (Ext.refl w g) (fun m' _ hf=>⟨hf,by simp [z7.ids]⟩) rfl (by rw [hn] at hint;exact hint) h (fun h=>Bool.noConfusion h) hK;rw [hn] at uI;rw [Z2f,Z20] at uI;rcases My with My | ⟨hz,ad',My⟩
   ·rw [My]
    cases ad with
    | none=>simp [Builtin.copy_,run_underlying qg,FG,Qh,hn,uI]
    | some ad=>simp [Builtin.copy_,run_underlying qg,FG,Qh,hn,uI,storeCells]
   ·rw [My];rw [hz] at hn
    cases ad' with
    | none=>simp [Builtin.copy_,run_underlying qg,FG,Qh,uI]
    | some ad=>simp [Builtin.copy_,run_underlying qg,FG,Qh,uI,storeCells]
  ·rcases wC with ⟨rfl,hl,rfl⟩ | ⟨b,off,cc,ee,rfl,zH,zQ,qK,jo⟩
   ·rw [hl] at hmn;simp only [He] at hmn;omega
   ·have xr:cc.toList.length=cc.size:=vX;have FV:=yY.length;have Zw:Nat.min m.length (bv-av).toNat*t'.size<=m.length*t'.size:=kj _ h2;have Cd:(news.take (Nat.min m.length (bv-av).toNat*t'.size)).length=Nat.min m.length (bv-av).toNat*t'.size:=by rw [P0,FV];omega
    have hmul:(av.toNat+Nat.min m.length (bv-av).toNat)*t'.size<=cap*t'.size:=kj _ (by omega);rw [wz] at hmul;have qP:=run_storeCells_at P b (off+av.toNat*t'.size) ee (news.take (Nat.min m.length (bv-av).toNat*t'.size)) 0 cc w zQ (by rw [Cd];omega) (fun x hx=>yY.one x (Z3f hx));simp only [RG] at qP;have D4:=jP (w:=w) (g:=g) (id:=id) (b0:=b) (zU cc.toList (off+av.toNat*t'.size) (news.take (Nat.min m.length (bv-av).toNat*t'.size))).toArray (.inl ⟨[],zH⟩);have qN:=Sy (P:=P) (e:=e) qv h0 KY JW Gi Gm qT zH zQ qK (fun i hi=>jo i hi) yY (J.setObj id (.row t' (pY l av bv m) e)).z6;have wY:=D4.st zq (o':=.row t' (pY l av bv m) e) (.inr (.inl ⟨t',l,pY l av bv m,e,e,zg,rfl,.inr ⟨rfl,ZR l m h0 KY JW,fun _=>rfl⟩⟩)) qN;refine jB (v:=goInt (Nat.min m.length (bv-av).toNat)) (GJ ho hargs hts fun ty=>?_) wY D4.ext (fun m' _ hf=>⟨D4.fresh (by rw [zg];simp) (fun y hy=>by simp at hy) hf,by simp [z7.ids]⟩) rfl ?_ h (fun h=>Bool.noConfusion h) hK
    ·rcases My with My | ⟨hz,_⟩
     ·rw [My];simp only [Z2o,Addr.add_lit];simp [Builtin.copy_,run_underlying qg,FG,Qh,uI,qP,zU]
     ·omega
    ·exact jl (by
      refine ⟨?_,?_⟩
      ·show (-9223372036854775808:Int)<=_;unfold Bh;omega
      ·show _<=(9223372036854775807:Int);unfold Bh;unfold maxLen at Gm;omega)
 ·simp at h
theorem z5w (kp:gP P c.tt) {args:Array Operand} {ts:Array TypeId} (ho:o.op = .call { callee:=.builtin .copy,args:=args,argTypes:=ts }) (zq:zK c.ntmps g w a J) (h:y9 c J base o k=some r)
  (hK:jt c.ntmps k r g w J base true K):o.wp P a w K Q:=by
 simp only [y9,ho] at h;split at h
 ·rename_i x y t t2 hargs hts;split at h
  ·rename_i xv yv ow u hx hy hu;obtain ⟨ex,efx⟩:=qG zq hx;obtain ⟨ey,efy⟩:=qG zq hy;unfold zb0 at h;split at h
   ·rename_i id ep av bv;refine Bi kp ho hargs hts hu ey zq (fun t' l e zg he=>?_) h hK;subst he;simp only [zl] at ex;obtain ⟨cs,⟨v,rfl,qL,hv⟩,jb⟩:=ex;obtain ⟨_,h0,KY,JW,e1⟩:=(hv _ _ _ zg).2 rfl;refine ⟨h0,KY,JW,fun ad cap qT Gi=>?_⟩;have uc:a.eval x=jz (.slice ad l.length cap) t'.size av bv:=by rw [<-qT,<-e1];exact jb
    simp only [jz] at uc;refine ⟨cap-av.toNat,?_⟩;by_cases hc:cap-av.toNat=0
    ·rw [yW hc] at uc;have hz:(bv-av).toNat=0:=by omega
     rw [hz] at uc;exact .inr ⟨hz,ad,uc⟩
    ·rw [qQ hc] at uc;exact .inl uc
   ·rename_i id ep;split at h
    ·rename_i t1 l1 e1 TM;refine Bi kp ho hargs hts hu ey zq (fun t' l e zg he=>?_) h hK;subst he;rw [zg] at TM;simp only [zI,Obj.row.injEq] at TM;obtain ⟨rfl,h1,_⟩:=TM;have h1:=Z35 h1;subst h1;simp only [zl] at ex;obtain ⟨cs,⟨v,rfl,qL,hv⟩,jb⟩:=ex;have e2:=(hv _ _ _ zg).2 rfl;refine ⟨Z3y _,by omega,by omega,fun ad cap qT Gi=>⟨cap,.inl ?_⟩⟩;rw [show a.eval x=g.sv id [] from by rw [<-e2];exact jb,qT]
     cases ad with
     | none=>simp
     | some ad=>simp [Addr.add]
    ·simp at h
   ·simp at h
  ·simp at h
 ·simp at h
end
end Go.Kz
namespace Go.Kz
end Go.Kz
