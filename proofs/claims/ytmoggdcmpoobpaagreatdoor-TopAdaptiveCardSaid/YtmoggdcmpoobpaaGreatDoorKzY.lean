/-
  Callees: what is asked of them; what a call leaves behind.
-/
import Derived.Test.YtmoggdcmpoobpaaGreatDoorKzUA
import Derived.MapKept
import Derived.Laws.StructEq
import Derived.ChangeKeysEq
import Derived.WideKeyRuns
import Derived.Maps.RangeRun
set_option linter.unusedVariables false
set_option linter.unusedSimpArgs false
namespace Go.Kz
variable {R:Type}
def zu0 (P:Program) (f:FuncId) (vals:Array Value) (w:World) (R:Value->World->Prop):Prop:=
 ((callFunc f vals).run P w = .ok (.enter f vals) w/\Calls P f vals w fun e w'=>∃ v,e = .returned v/\R v w')\/
 ∃ v w',(callFunc f vals).run P w = .ok (.value v) w'/\R v w'
def WG (w:World) (g:z8):(p:gx)->p.den->List Value->Prop
 | .pr (.val t) q,(x,y),v :: vs=>t.zW=true/\(∃ cs,zH w g none t x cs/\v=vN t.sk.isAgg cs)/\WG w g q y vs
 | .un,_,[]=>True
 | _,_,_=>False
def Gp (w:World) (g:z8) (x:z7×List Obj) (v:Value):Prop:=yY w g (zF x.2)/\zr w g (zF x.2) x.1 v
def qB (P:Program) (f:FuncId):Callee->Prop
 | .pure p res F=>∀ w g d vals r,(∀ b,g.tag b≠.zt->g.tag b = .ro/\b < w.heap.size)->Known w g->WG w g p d vals->F d=some r->
   zu0 P f vals.toArray w fun v w'=>∃ g',Ext w g w' g'/\Gp w' g' (zZ res r 0) v
 | .mut fin jC zm F=>∀ w g d (vals:List Value) r,vals.length=fin.zk.length->zG vals.length g w ⟨vals.toArray,[]⟩ (St.of (vW fin.zk d.1) (wQ fin.z6 d.2))->
   (∀ m,fin.z6.length<=m->zJ g (St.of (vW fin.zk d.1) (wQ fin.z6 d.2)) m)->F d=some r->
   zu0 P f vals.toArray w fun v w'=>∃ g',Ext w g w' g'/\yY w' g' (zF (wQ zm.z6 r.2))/\
    (∀ k i av,zF jC k=some i->zF ((vW zm.zk r.1).map Prod.snd) k=some av->∃ u,vals[i]? = some u/\zr w' g' (zF (wQ zm.z6 r.2)) av u)/\
    zr w' g' (zF (wQ zm.z6 r.2)) (gk (gK jC.length ((vW zm.zk r.1).map Prod.snd))) v
def Bb (P:Program) (env:Nat->List Callee):Prop:=∀ f c,c∈env f->qB P f c
def jR (g gc:z8) (n len size:Nat):z8 where
 tag:=fun b=>if b < size then g.tag b else match gc.tag b with
  | .row i p=>if i < len then .row (n+i) p else .zt
  | .box i=>if i < len then .box (n+i) else .zt
  | t=>t
 sv:=fun i p=>if n<=i/\i < n+len then gc.sv (i-n) p else g.sv i p
 qj:=fun i=>if n<=i/\i < n+len then gc.qj (i-n) else g.qj i
theorem G9:(os:List Obj)->(J:St)->(n id:Nat)->(J.gm n os).z6 id=if n<=id/\id < n+os.length then zF os (id-n) else J.z6 id
 | [],J,n,id=>by simp [St.gm];intro h1 h2;omega
 | o :: os,J,n,id=>by
  simp only [St.gm,G9 os,Vy];by_cases h1:id=n
  ·subst h1;rw [qZ (by omega),yQ (by omega)];simp only [St.setObj,zR,Z3b,zF]
  ·by_cases h2:n+1<=id/\id < n+1+os.length
   ·rw [yQ h2,yQ (by omega)];obtain ⟨j,rfl⟩:∃ j,id=n+1+j:=⟨id-(n+1),by omega⟩;have e1:n+1+j-(n+1)=j:=by omega
    have e2:n+1+j-n=j+1:=by omega
    rw [e1,e2];rfl
   ·rw [qZ h2,qZ (by omega)];simp only [St.setObj];rw [zi _ _ h1]
theorem VE:(os:List Obj)->(J:St)->(n:Nat)->(J.gm n os).zk=J.zk
 | [],_,_=>rfl
 | _ :: os,J,n=>by simp only [St.gm];rw [VE os];rfl
theorem Gz:(os:List Obj)->(J:St)->(n:Nat)->(J.gm n os).next=J.next
 | [],_,_=>rfl
 | _ :: os,J,n=>by simp only [St.gm];rw [Gz os];rfl
theorem zH.qJ {w w':World} {g g':z8}:{o o':Dr}->{t:Ty}->{d:t.den}->{cs:List Value}->t.qJ=true->zH w g o t d cs->zH w' g' o' t d cs
 | _,_,.int _,_,_,_,h=>h
 | _,_,.bool,_,_,_,h=>h
 | _,_,.str,_,_,_,h=>h
 | _,_,.unit,_,_,_,h=>h
 | _,_,.pair a b,(x,y),_,ht,h=>by
  obtain ⟨c1,c2,rfl,h1,h2⟩:=h;simp only [Ty.qJ,zA] at ht
  exact ⟨c1,c2,rfl,zH.qJ ht.1 h1,zH.qJ ht.2 h2⟩
 | _,_,.arr n t,_,_,ht,h=>⟨h.1,h.2.1,fun i hi=>zH.qJ (by simpa [Ty.qJ] using ht) (h.2.2 i hi)⟩
 | _,_,.sl _ _,_,_,ht,_=>by simp [Ty.qJ] at ht
 | _,_,.ptr _,_,_,ht,_=>by simp [Ty.qJ] at ht
 | _,_,.fn _ _,_,_,ht,_=>by simp [Ty.qJ] at ht
 | _,_,.tree _,_,_,ht,_=>by simp [Ty.qJ] at ht
theorem F5:{t:Ty}->t.flat=true->t.zW=true->t.qJ=true
 | .int _,_,_=>rfl
 | .bool,_,_=>rfl
 | .str,_,_=>rfl
 | .unit,_,_=>rfl
 | .pair a b,h,k=>by
  simp only [Ty.flat,zA] at h;simp only [Ty.zW,zA] at k
  simp only [Ty.qJ,F5 h.1 k.1,F5 h.2 k.2,Z3t]
 | .arr _ t,h,_=>h
 | .sl true t,_,k=>by simp [Ty.zW] at k
 | .sl false t,h,_=>by simp [Ty.flat,Ty.qJ] at h
 | .ptr _,h,_=>by simp [Ty.flat,Ty.qJ] at h
 | .fn _ _,h,_=>by simp [Ty.flat,Ty.qJ] at h
 | .tree _,h,_=>by simp [Ty.flat,Ty.qJ] at h
def Carry (w:World) (g g':z8) (t:Ty):Prop:=zT w g w g'\/t.flat=true
theorem Carry.rep {w:World} {g g':z8} {t:Ty} (h:Carry w g g' t) (ht:t.zW=true) {d:t.den} {cs:List Value} (hr:zH w g none t d cs):zH w g' none t d cs:=by
 rcases h with h | h
 ·exact hr.kept h
 ·exact zH.qJ (F5 h ht) hr
theorem Carry.row {w:World} {g g':z8} {t:Ty} (h:Carry w g g' (.sl true t)) {l:List t.den} {i j:Nat} (hm:xl w g w g' i [] j []) {v:Value} (hr:zH w g (some (i,[])) (.sl true t) l [v]) :
  zH w g' (some (j,[])) (.sl true t) l [v]:=by
 rcases h with h | h
 ·exact zH.move h (o:=some (i,[])) (o':=some (j,[])) hm hr
 ·obtain ⟨a,cap,hv,h0,h1,h2,h3⟩:=hr;have qf:=hm.sv [];simp only [Di] at qf;refine ⟨a,cap,hv,qf.trans h0,h1,h2,?_⟩;rcases h3 with h3 | ⟨b,off,c,e,ha,ht,hb,hs,he⟩
  ·exact .inl h3
  ·have hk:=hm.qj [] b (by simpa using ht);simp only [Di] at hk;exact .inr ⟨b,off,c,e,ha,hk.1,hb,hs,fun i hi=>zH.qJ h (he i hi)⟩
theorem w6:(t:Ty)->(d:t.den)->(n m:Nat)->(zj t d n).2=(zj t d m).2/\(zj.ze t d n).2=(zj.ze t d m).2
 | .sl true t,l,n,m=>⟨rfl,rfl⟩
 | .sl false t,l,n,m=>⟨rfl,rfl⟩
 | .int _,_,_,_=>⟨rfl,rfl⟩
 | .bool,_,_,_=>⟨rfl,rfl⟩
 | .str,_,_,_=>⟨rfl,rfl⟩
 | .unit,_,_,_=>⟨rfl,rfl⟩
 | .arr _ _,_,_,_=>⟨rfl,rfl⟩
 | .ptr _,_,_,_=>⟨rfl,rfl⟩
 | .fn _ _,_,_,_=>⟨rfl,rfl⟩
 | .tree _,_,_,_=>⟨rfl,rfl⟩
 | .pair a b,(x,y),n,m=>by
  have ha:=(w6 a x n m).1;have hb:=fun n m=>(w6 b y n m).2
  have e2:(zj.ze (.pair a b) (x,y) n).2=(zj.ze (.pair a b) (x,y) m).2:=by
   simp only [zj.ze];rw [ha,hb _ (m+(zj a x m).2.length)]
  refine ⟨?_,e2⟩;simp only [zj];cases (Ty.pair a b).zW
  ·simp only [zU];rw [ha,hb _ (m+(zj a x m).2.length)]
  ·rfl
theorem xb:(t:Ty)->(d:t.den)->(n:Nat)->(∀ o∈(zj t d n).2,∃ u l,o=Obj.row u l 0/\(t.flat=true->u.qJ=true))/\
  (∀ o∈(zj.ze t d n).2,∃ u l,o=Obj.row u l 0/\(t.flat=true->u.qJ=true))
 | .sl true t,l,n=>⟨by intro o ho;simp only [zj,Mp] at ho;exact ⟨t,l,ho,fun h=>h⟩,by simp [zj.ze]⟩
 | .sl false t,l,n=>⟨by simp [zj],by simp [zj.ze]⟩
 | .int _,_,_=>⟨by simp [zj],by simp [zj.ze]⟩
 | .bool,_,_=>⟨by simp [zj],by simp [zj.ze]⟩
 | .str,_,_=>⟨by simp [zj],by simp [zj.ze]⟩
 | .unit,_,_=>⟨by simp [zj],by simp [zj.ze]⟩
 | .arr _ _,_,_=>⟨by simp [zj],by simp [zj.ze]⟩
 | .ptr _,_,_=>⟨by simp [zj],by simp [zj.ze]⟩
 | .fn _ _,_,_=>⟨by simp [zj],by simp [zj.ze]⟩
 | .tree _,_,_=>⟨by simp [zj],by simp [zj.ze]⟩
 | .pair a b,(x,y),n=>by
  have ha:=fun n=>(xb a x n).1
  have hb:=fun n=>(xb b y n).2
  have e2:∀ o∈(zj.ze (.pair a b) (x,y) n).2,∃ u l,o=Obj.row u l 0/\((Ty.pair a b).flat=true->u.qJ=true):=by
   intro o ho;simp only [zj.ze,U5] at ho;rcases ho with ho | ho
   ·obtain ⟨u,l,h1,h2⟩:=ha _ o ho;exact ⟨u,l,h1,fun h=>h2 (by simp only [Ty.flat,zA] at h;exact h.1)⟩
   ·obtain ⟨u,l,h1,h2⟩:=hb _ o ho;exact ⟨u,l,h1,fun h=>h2 (by simp only [Ty.flat,zA] at h;exact h.2)⟩
  refine ⟨?_,e2⟩;intro o ho;simp only [zj] at ho
  cases hr:(Ty.pair a b).zW with
  | true=>rw [hr] at ho;simp at ho
  | false=>
   rw [hr] at ho;exact e2 o ho
structure Lr (gc g:z8) (n len:Nat) (oc o:qp):Prop where
 z6:∀ i,i < len->o (n+i)=oc i
 sv:∀ i p,i < len->g.sv (n+i) p=gc.sv i p
theorem Carry.left {w:World} {g g':z8} {a b:Ty} (h:Carry w g g' (.pair a b)):Carry w g g' a:=by
 rcases h with h | h
 ·exact .inl h
 ·simp only [Ty.flat,zA] at h;exact .inr h.1
theorem Carry.right {w:World} {g g':z8} {a b:Ty} (h:Carry w g g' (.pair a b)):Carry w g g' b:=by
 rcases h with h | h
 ·exact .inl h
 ·simp only [Ty.flat,zA] at h;exact .inr h.2
theorem Wj {w:World} {gc g:z8} {n len:Nat} {oc o:qp} (hs:Lr gc g n len oc o):(t:Ty)->(d:t.den)->(m:Nat)->Carry w gc g t->
  (∀ cs,m+(zj t d m).2.length<=len->jK w gc oc (zj t d m).1 cs->jK w g o (zj t d (n+m)).1 cs)/\
  (∀ cs,m+(zj.ze t d m).2.length<=len->jK w gc oc (zj.ze t d m).1 cs->jK w g o (zj.ze t d (n+m)).1 cs)
 | .sl true t,l,m,hc=>by
  refine ⟨fun cs hl h=>?_,fun cs _ h=>h⟩;obtain ⟨v,hv,qE,hx⟩:=h;have hm:m < len:=by simp only [zj,Z36] at hl;omega
  refine ⟨v,hv,qE,fun t l e he=>?_⟩;rw [hs.z6 m hm] at he;obtain ⟨h1,h2⟩:=hx _ _ _ he
  exact ⟨h1,fun h=>by rw [hs.sv m [] hm];exact h2 h⟩
 | .sl false t,l,m,hc=>⟨fun cs _ h=>⟨h.1,hc.rep h.1 h.2⟩,fun cs _ h=>h⟩
 | .int _,_,m,hc=>⟨fun cs _ h=>⟨h.1,hc.rep h.1 h.2⟩,fun cs _ h=>h⟩
 | .bool,_,m,hc=>⟨fun cs _ h=>⟨h.1,hc.rep h.1 h.2⟩,fun cs _ h=>h⟩
 | .str,_,m,hc=>⟨fun cs _ h=>⟨h.1,hc.rep h.1 h.2⟩,fun cs _ h=>h⟩
 | .unit,_,m,hc=>⟨fun cs _ h=>⟨h.1,hc.rep h.1 h.2⟩,fun cs _ h=>h⟩
 | .arr _ _,_,m,hc=>⟨fun cs _ h=>⟨h.1,hc.rep h.1 h.2⟩,fun cs _ h=>h⟩
 | .ptr _,_,m,hc=>⟨fun cs _ h=>⟨h.1,hc.rep h.1 h.2⟩,fun cs _ h=>h⟩
 | .fn _ _,_,m,hc=>⟨fun cs _ h=>⟨h.1,hc.rep h.1 h.2⟩,fun cs _ h=>h⟩
 | .tree _,_,m,hc=>⟨fun cs _ h=>⟨h.1,hc.rep h.1 h.2⟩,fun cs _ h=>h⟩
 | .pair a b,(x,y),m,hc=>by
  have ha:=fun m=>(Wj hs a x m hc.left).1
  have hb:=fun m=>(Wj hs b y m hc.right).2
  have hl:(zj a x (n+m)).2.length=(zj a x m).2.length:=by rw [(w6 a x (n+m) m).1]
  have key:∀ cs,m+((zj a x m).2++(zj.ze b y (m+(zj a x m).2.length)).2).length<=len->
    (∃ c1 c2,cs=c1++c2/\jK w gc oc (zj a x m).1 c1/\jK w gc oc (zj.ze b y (m+(zj a x m).2.length)).1 c2)->
    ∃ c1 c2,cs=c1++c2/\jK w g o (zj a x (n+m)).1 c1/\jK w g o (zj.ze b y (n+m+(zj a x (n+m)).2.length)).1 c2:=by
   intro cs hle ⟨c1,c2,uR,h1,h2⟩;rw [VH] at hle;refine ⟨c1,c2,uR,ha m c1 (by omega) h1,?_⟩;rw [hl,S0];exact hb _ c2 (by omega) h2
  refine ⟨fun cs hle h=>?_,fun cs hle h=>key cs (by simpa only [zj.ze] using hle) h⟩;simp only [zj] at hle h ⊢
  cases hr:(Ty.pair a b).zW with
  | true=>
   rw [hr] at h;simp only [zB] at h ⊢
   exact ⟨h.1,hc.rep h.1 h.2⟩
  | false=>
   rw [hr] at h hle;simp only [zU] at h hle ⊢;exact key cs hle h
theorem NV:(t:Ty)->(d:t.den)->(n m:Nat)->(zj t d n).1.isAgg=(zj t d m).1.isAgg
 | .sl true t,l,n,m=>rfl
 | .sl false t,l,n,m=>rfl
 | .int _,_,_,_=>rfl
 | .bool,_,_,_=>rfl
 | .str,_,_,_=>rfl
 | .unit,_,_,_=>rfl
 | .arr _ _,_,_,_=>rfl
 | .ptr _,_,_,_=>rfl
 | .fn _ _,_,_,_=>rfl
 | .tree _,_,_,_=>rfl
 | .pair a b,(x,y),n,m=>by
  simp only [zj];cases (Ty.pair a b).zW <;> rfl
theorem pn:(t:Ty)->(d:t.den)->(n:Nat)->(∀ x y,(zj t d n).1≠.pr x y)/\(zj t d n).1≠.un/\∀ c,(zj t d n).1≠.jV c
 | .sl true t,l,n=>⟨by simp [zj],by simp [zj],by simp [zj]⟩
 | .sl false t,l,n=>⟨by simp [zj],by simp [zj],by simp [zj]⟩
 | .int _,_,_=>⟨by simp [zj],by simp [zj],by simp [zj]⟩
 | .bool,_,_=>⟨by simp [zj],by simp [zj],by simp [zj]⟩
 | .str,_,_=>⟨by simp [zj],by simp [zj],by simp [zj]⟩
 | .unit,_,_=>⟨by simp [zj],by simp [zj],by simp [zj]⟩
 | .arr _ _,_,_=>⟨by simp [zj],by simp [zj],by simp [zj]⟩
 | .ptr _,_,_=>⟨by simp [zj],by simp [zj],by simp [zj]⟩
 | .fn _ _,_,_=>⟨by simp [zj],by simp [zj],by simp [zj]⟩
 | .tree _,_,_=>⟨by simp [zj],by simp [zj],by simp [zj]⟩
 | .pair a b,(x,y),n=>by
  simp only [zj];cases (Ty.pair a b).zW <;> simp
theorem Wy {w:World} {gc g:z8} {n len:Nat} {oc o:qp} (hs:Lr gc g n len oc o) (t:Ty) (d:t.den) (m:Nat) (hc:Carry w gc g t) {v:Value}
  (hl:m+(zj t d m).2.length<=len) (h:zr w gc oc (zj t d m).1 v):zr w g o (zj t d (n+m)).1 v:=by
 obtain ⟨cs,zS,hv⟩:=kX h (pn t d m).2.2;exact yB ((Wj hs t d m hc).1 cs hl zS) (by rw [hv,NV t d (n+m) m]) (pn t d _).1 (pn t d _).2.1
theorem xZ:(t:Ty)->(d:t.den)->(n:Nat)->(∀ i∈(zj t d n).1.ids,n<=i/\i < n+(zj t d n).2.length)/\(∀ i∈(zj.ze t d n).1.ids,n<=i/\i < n+(zj.ze t d n).2.length)
 | .sl true t,l,n=>⟨by simp [zj,z7.ids],by simp [zj.ze,z7.ids]⟩
 | .sl false t,l,n=>⟨by simp [zj,z7.ids],by simp [zj.ze,z7.ids]⟩
 | .int _,_,_=>⟨by simp [zj,z7.ids],by simp [zj.ze,z7.ids]⟩
 | .bool,_,_=>⟨by simp [zj,z7.ids],by simp [zj.ze,z7.ids]⟩
 | .str,_,_=>⟨by simp [zj,z7.ids],by simp [zj.ze,z7.ids]⟩
 | .unit,_,_=>⟨by simp [zj,z7.ids],by simp [zj.ze,z7.ids]⟩
 | .arr _ _,_,_=>⟨by simp [zj,z7.ids],by simp [zj.ze,z7.ids]⟩
 | .ptr _,_,_=>⟨by simp [zj,z7.ids],by simp [zj.ze,z7.ids]⟩
 | .fn _ _,_,_=>⟨by simp [zj,z7.ids],by simp [zj.ze,z7.ids]⟩
 | .tree _,_,_=>⟨by simp [zj,z7.ids],by simp [zj.ze,z7.ids]⟩
 | .pair a b,(x,y),n=>by
  have ha:=fun n=>(xZ a x n).1
  have hb:=fun n=>(xZ b y n).2
  have e2:∀ i∈(zj.ze (.pair a b) (x,y) n).1.ids,n<=i/\i < n+(zj.ze (.pair a b) (x,y) n).2.length:=by
   intro i hi;simp only [zj.ze,z7.ids,U5,VH] at hi ⊢;rcases hi with hi | hi
   ·have:=ha _ i hi;omega
   ·have:=hb _ i hi;omega
  refine ⟨?_,e2⟩;intro i hi;simp only [zj] at hi ⊢
  cases hr:(Ty.pair a b).zW with
  | true=>rw [hr] at hi;simp [z7.ids] at hi
  | false=>
   rw [hr] at hi;rw [zU] at hi ⊢;exact e2 i hi
end Go.Kz
namespace Go.Kz
variable {R:Type}
abbrev chain:=zZ.chain
theorem BW:(ts:List Ty)->(d:jw ts)->(n m:Nat)->(chain ts d n).2=(chain ts d m).2
 | [],_,_,_=>rfl
 | [t],d,n,m=>(w6 t d n m).1
 | t :: u :: ts,(d,ds),n,m=>by
  simp only [chain,zZ.chain];rw [(w6 t d n m).1];congr 1;exact BW (u :: ts) ds _ _
theorem Wg:(ts:List Ty)->(d:jw ts)->(n:Nat)->∀ o∈(chain ts d n).2,∃ u l,o=Obj.row u l 0/\(xp ts=true->u.qJ=true)
 | [],_,_,o,ho=>by simp [chain,zZ.chain] at ho
 | [t],d,n,o,ho=>by
  obtain ⟨u,l,h1,h2⟩:=(xb t d n).1 o ho
  exact ⟨u,l,h1,fun h=>h2 (by simp only [xp,zA] at h;exact h.1)⟩
 | t :: u :: ts,(d,ds),n,o,ho=>by
  simp only [chain,zZ.chain,U5] at ho;rcases ho with ho | ho
  ·obtain ⟨u',l,h1,h2⟩:=(xb t d n).1 o ho;exact ⟨u',l,h1,fun h=>h2 (by simp only [xp,zA] at h;exact h.1)⟩
  ·obtain ⟨u',l,h1,h2⟩:=Wg (u :: ts) ds _ o ho;exact ⟨u',l,h1,fun h=>h2 (by rw [xp,zA] at h;exact h.2)⟩
theorem BV {w:World} {gc g:z8} {n len:Nat} {oc o:qp} (hs:Lr gc g n len oc o):(ts:List Ty)->(d:jw ts)->(m:Nat)->(∀ t∈ts,Carry w gc g t)->
  ∀ vs,m+(chain ts d m).2.length<=len->qk w gc oc (chain ts d m).1 vs->qk w g o (chain ts d (n+m)).1 vs
 | [],_,_,_,vs,_,h=>by simpa [chain,zZ.chain,qk] using h
 | [t],d,m,hc,vs,hl,h=>by
  simp only [chain,zZ.chain,qk] at hl h ⊢;obtain ⟨v,r,hv,h1,h2⟩:=h
  exact ⟨v,r,hv,Wy hs t d m (hc t (by simp)) hl h1,h2⟩
 | t :: u :: ts,(d,ds),m,hc,vs,hl,h=>by
  simp only [chain,zZ.chain,qk,VH] at hl h ⊢;obtain ⟨v,r,hv,h1,h2⟩:=h;refine ⟨v,r,hv,Wy hs t d m (hc t (by simp)) (by omega) h1,?_⟩;have e:(zj t d (n+m)).2.length=(zj t d m).2.length:=by rw [(w6 t d (n+m) m).1]
  rw [e,S0];exact BV hs (u :: ts) ds _ (fun t ht=>hc t (by simp at ht ⊢;exact .inr ht)) r (by rw [<-S0] at hl;exact hl) h2
theorem DM:(ts:List Ty)->(d:jw ts)->(n:Nat)->∀ i∈(chain ts d n).1.ids,n<=i/\i < n+(chain ts d n).2.length
 | [],_,_,i,hi=>by simp [chain,zZ.chain,z7.ids] at hi
 | [t],d,n,i,hi=>by
  simp only [chain,zZ.chain,z7.ids,Di] at hi ⊢
  exact (xZ t d n).1 i hi
 | t :: u :: ts,(d,ds),n,i,hi=>by
  simp only [chain,zZ.chain,z7.ids,U5,VH] at hi ⊢;rcases hi with hi | hi
  ·have:=(xZ t d n).1 i hi;omega
  ·have:=DM (u :: ts) ds _ i hi;simp only [chain] at this;omega
theorem Hf:(ts:List Ty)->(d:jw ts)->(n m:Nat)->(zZ ts d n).2=(zZ ts d m).2
 | [],_,_,_=>rfl
 | [t],d,n,m=>(w6 t d n m).1
 | t :: u :: ts,(d,ds),n,m=>by
  simp only [zZ];rw [(w6 t d n m).1];congr 1;exact BW (u :: ts) ds _ _
theorem He:(ts:List Ty)->(d:jw ts)->(n:Nat)->∀ o∈(zZ ts d n).2,∃ u l,o=Obj.row u l 0/\(xp ts=true->u.qJ=true)
 | [],_,_,o,ho=>by simp [zZ] at ho
 | [t],d,n,o,ho=>Wg [t] d n o ho
 | t :: u :: ts,(d,ds),n,o,ho=>Wg (t :: u :: ts) (d,ds) n o ho
theorem zbe:(ts:List Ty)->(d:jw ts)->(n:Nat)->∀ i∈(zZ ts d n).1.ids,n<=i/\i < n+(zZ ts d n).2.length
 | [],_,_,i,hi=>by simp [zZ,z7.ids] at hi
 | [t],d,n,i,hi=>(xZ t d n).1 i hi
 | t :: u :: ts,(d,ds),n,i,hi=>DM (t :: u :: ts) (d,ds) n i hi
theorem zbd {w:World} {gc g:z8} {n len:Nat} {oc o:qp} (hs:Lr gc g n len oc o):(ts:List Ty)->(d:jw ts)->(∀ t∈ts,Carry w gc g t)->
  ∀ v,(zZ ts d 0).2.length<=len->zr w gc oc (zZ ts d 0).1 v->zr w g o (zZ ts d n).1 v
 | [],_,_,v,_,h=>by
  simp only [zZ,zr,qk] at h ⊢;exact h
 | [t],d,hc,v,hl,h=>Wy hs t d 0 (hc t (by simp)) (by simpa [zZ] using hl) h
 | t :: u :: ts,(d,ds),hc,v,hl,h=>by
  have h':∃ vs,v = .tuple vs.toArray/\qk w gc oc (chain (t :: u :: ts) (d,ds) 0).1 vs:=by
   simpa only [zZ,zr,chain,zZ.chain] using h
  obtain ⟨vs,hv,h2⟩:=h';have:=BV hs (t :: u :: ts) (d,ds) 0 hc vs (by rw [Zf];exact hl) h2;show zr w g o (.jV (chain (t :: u :: ts) (d,ds) n).1) v;simp only [zr];exact ⟨vs,hv,this⟩
theorem TS {w:World} {g g':z8} {ts:List Ty} (h:zT w g w g'\/xp ts=true):∀ t∈ts,Carry w g g' t:=by
 rcases h with h | h
 ·exact fun _ _=>.inl h
 ·induction ts with
  | nil=>simp
  | cons t ts ih=>
   simp only [xp,zA] at h;intro u hu;rcases pK.1 hu with rfl | hu
   ·exact .inr h.1
   ·exact ih h.2 u hu
theorem jH {I:Type}:{l:List I}->{i:Nat}->{x:I}->zF l i=some x->x∈l
 | [],i,x,h=>by cases i <;> simp [zF] at h
 | y :: l,0,x,h=>by simp only [zF,zI] at h;simp [h]
 | y :: l,i+1,x,h=>by simp only [zF] at h;exact Th _ (jH h)
theorem wF {I:Type}:{l:List I}->{i:Nat}->{x:I}->zF l i=some x->i < l.length
 | [],i,x,h=>by cases i <;> simp [zF] at h
 | y :: l,0,x,h=>by simp
 | y :: l,i+1,x,h=>by simp only [zF] at h;have:=wF h;simp;omega
structure H5 (w:World) (g gl:z8):Prop where
 tags:∀ b,gl.tag b≠.zt->gl.tag b = .ro/\b < w.heap.size
section
variable {w w':World} {g gl gc:z8} {n len:Nat}
theorem gu (hl:H5 w g gl) (he:Ext w gl w' gc) {b:Nat} (hb:b < w.heap.size):w'.heap[b]? = w.heap[b]?/\gc.tag b=gl.tag b:=by
 refine he.vR b hb ?_;by_cases h:gl.tag b = .zt
 ·exact .inl h
 ·exact .inr (hl.tags b h).1
theorem z3e (hl:H5 w g gl) (he:Ext w gl w' gc) (ht:∀ b,g.tag b≠.zt->b < w.heap.size):zT w g w' (jR g gc n len w.heap.size):=
 ⟨fun b hb=>by
  have qx:=ht b (by rw [hb];simp);exact ⟨by simp only [jR,yQ qx];exact hb,(gu hl he qx).1⟩⟩
theorem A2 (hl:H5 w g gl) (he:Ext w gl w' gc) (ht:∀ b,g.tag b≠.zt->b < w.heap.size) {id:Nat} (hid:id < n\/n+len<=id):Zh w g w' (jR g gc n len w.heap.size) id:=by
 refine ⟨⟨fun q=>by simp only [jR];rw [qZ (by omega)],fun q b hb=>?_⟩,by simp only [jR];rw [qZ (by omega)],fun hb=>?_⟩
 ·have qx:=ht b (by rw [hb];simp);exact ⟨by simp only [jR,yQ qx];exact hb,(gu hl he qx).1⟩
 ·have qx:=ht (g.qj id) (by rw [hb];simp);exact ⟨by simp only [jR,yQ qx];exact hb,(gu hl he qx).1⟩
theorem Tg (hl:H5 w g gl) (he:Ext w gl w' gc):Ext w g w' (jR g gc n len w.heap.size):=
 ⟨he.os,he.tape,he.output,he.drawn,he.size,fun b hb _=>⟨(gu hl he hb).1,by simp only [jR,yQ hb]⟩⟩
theorem Iv (hl:H5 w g gl) (he:Ext w gl w' gc) {i:Nat} (hi:i < len):xl w' gc w' (jR g gc n len w.heap.size) i [] (n+i) []:=by
 refine ⟨fun q=>?_,fun q b hb=>⟨?_,rfl⟩⟩
 ·simp only [jR];rw [yQ (by omega)];congr 1;omega
 ·have Cv:¬ b < w.heap.size:=by
   intro qx;have:=(gu hl he qx).2;rw [hb] at this;by_cases h:gl.tag b = .zt
   ·rw [h] at this;simp at this
   ·rw [(hl.tags b h).1] at this;simp at this
  simp only [jR,qZ Cv,hb,yQ hi]
theorem z3d {N:Nat} {a:Act} {J:St} {ts:List Ty} {d:jw ts} {v:Value} (zy:zG N g w a J) (hl:H5 w g gl) (he:Ext w gl w' gc)
  (vT:∀ m,n<=m->m < n+8->zJ g J m) (hlen:(zZ ts d 0).2.length<=8) (hc:zT w' gc w' (jR g gc n (zZ ts d 0).2.length w.heap.size)\/xp ts=true)
  (W4:Gp w' gc (zZ ts d 0) v) :
  let g':=jR g gc n (zZ ts d 0).2.length w.heap.size;let J':=J.gm n (zZ ts d n).2
  zG N g' w' a J'/\zr w' g' J'.z6 (zZ ts d n).1 v/\(∀ m,(m < n\/n+8<=m)->zJ g J m->zJ g' J' m/\m∉(zZ ts d n).1.ids):=by
 intro g' J';have ht:=zy.heap.tags;let os:=(zZ ts d 0).2;have hosl:os.length=(zZ ts d 0).2.length:=rfl;have hos:(zZ ts d n).2=os:=Hf ts d n 0;have uK:∀ id,J'.z6 id=if n<=id/\id < n+os.length then zF os (id-n) else J.z6 id:=by
  intro id;show (J.gm n (zZ ts d n).2).z6 id=_;rw [G9,hos]
 have z4k:J'.zk=J.zk:=VE _ _ _;have qu:zT w g w' g':=z3e hl he ht;have uG:∀ id,¬ zJ g J id->qv g g' id (J.z6 id) (J'.z6 id):=by
  intro id hid;have xk:id < n\/n+os.length<=id:=by
   by_cases h:n<=id/\id < n+os.length
   ·exact absurd (vT id h.1 (by omega)) hid
   ·omega
  rw [uK,qZ (by omega)];exact qv.same (A2 hl he ht xk)
 have z4l:Lr gc g' n os.length (zF os) J'.z6:=by
  refine ⟨fun i hi=>?_,fun i p hi=>?_⟩
  ·rw [uK,yQ (by omega)];congr 1;omega
  ·show (jR g gc n os.length w.heap.size).sv (n+i) p=_;simp only [jR];rw [yQ (by omega)];congr 1;omega
 have zlj:=TS hc;refine ⟨⟨fun i av hi=>?_,⟨fun id x hx=>?_,fun b hb=>?_⟩,zy.size,zy.defers,zy.known.kept qu⟩,?_,fun m hm hf=>⟨⟨?_,fun b p hb=>?_,fun b hb=>?_,fun i av hi=>?_,fun id av hi=>?_⟩,?_⟩⟩
 ·rw [z4k] at hi;obtain ⟨u,hu,zS⟩:=zy.zk i av hi;exact ⟨u,hu,zr.frame qu (fun id hid=>uG id (fun hf=>hf.zk i av hi hid)) zS⟩
 ·rw [uK] at hx;by_cases V8:n<=id/\id < n+os.length
  ·rw [yQ V8] at hx;obtain ⟨i,rfl⟩:∃ i,id=n+i:=⟨id-n,by omega⟩;have hi:i < os.length:=by omega
   rw [Z54] at hx;obtain ⟨u,l,ON,z5e⟩:=He ts d 0 x (jH hx);have zp:=W4.1.z6 i x hx;subst ON;refine ⟨zp.1,?_⟩;have qf:=z4l.sv i [] hi;rw [qf];have hcr:Carry w' gc g' (.sl true u):=by
    rcases hc with h | h
    ·exact .inl h
    ·exact .inr (by simpa [Ty.flat] using z5e h)
   exact Carry.row hcr (Iv hl he hi) zp.2
  ·rw [qZ V8] at hx;refine zo.frame qu (A2 hl he ht (by omega)) (fun y hy vY Nq=>uG vY (fun hf=>?_)) (zy.heap.z6 id x hx);subst hy;exact hf.cells id y hx Nq
 ·have Z6:(jR g gc n os.length w.heap.size).tag b≠.zt:=hb;simp only [jR] at Z6;by_cases qx:b < w.heap.size
  ·have:=he.size;omega
  ·rw [qZ qx] at Z6;refine W4.1.tags b ?_;intro hal;rw [hal] at Z6;simp at Z6
 ·refine zbd z4l ts d zlj v (yN _) W4.2
 ·rw [uK,qZ (by omega)];exact hf.z6
 ·have Z6:(jR g gc n os.length w.heap.size).tag b = .row m p:=hb;simp only [jR] at Z6;split at Z6
  ·exact hf.row b p Z6
  ·split at Z6
   ·split at Z6
    ·simp only [Tag.row.injEq] at Z6;omega
    ·simp at Z6
   ·split at Z6 <;> simp at Z6
   ·rename_i h1 _;exact h1 _ _ Z6
 ·have Z6:(jR g gc n os.length w.heap.size).tag b = .box m:=hb;simp only [jR] at Z6;split at Z6
  ·exact hf.box b Z6
  ·split at Z6
   ·split at Z6 <;> simp at Z6
   ·split at Z6
    ·simp only [Tag.box.injEq] at Z6;omega
    ·simp at Z6
   ·rename_i _ h1;exact h1 _ Z6
 ·rw [z4k] at hi;exact hf.zk i av hi
 ·rw [uK] at hi;split at hi
  ·obtain ⟨u,l,ON,_⟩:=He ts d 0 _ (jH hi);simp at ON
  ·exact hf.cells id av hi
 ·intro AK;have:=zbe ts d n m AK;rw [hos] at this;omega
end
end Go.Kz
namespace Go.Kz
variable {R:Type}
theorem EL {w:World} {g:z8} {z6:qp}:{a:z7}->{cs:List Value}->p9 a=true->jK w g z6 a cs->qk w g z6 a cs
 | .pr x c,cs,hl,h=>by
  simp only [p9,zA,PO] at hl;obtain ⟨c1,c2,rfl,h1,h2⟩:=h;obtain ⟨ve,PG,UJ,TU⟩:=wK hl.1.1;have hlen:=h1.len;have qC:x.sk.size=1:=by
   have:=hl.1.2;cases wG:x.sk <;> rw [wG] at this <;> simp [Sk.isAgg] at this;rfl
  rw [qC] at hlen;obtain ⟨v,rfl⟩:=Z2i.1 hlen;simp only [qk];refine ⟨v,c2,rfl,yB h1 ?_ PG UJ,EL hl.2 h2⟩
  rw [ve,hl.1.2];rfl
 | .un,cs,_,h=>by simp only [qk];exact h
 | .data _ _,_,hl,_=>by simp [p9] at hl
 | .qD,_,hl,_=>by simp [p9] at hl
 | .ref _ _ _,_,hl,_=>by simp [p9] at hl
 | .view _ _ _ _ _,_,hl,_=>by simp [p9] at hl
 | .zq _ _,_,hl,_=>by simp [p9] at hl
 | .vA _ _ _,_,hl,_=>by simp [p9] at hl
 | .qz _,_,hl,_=>by simp [p9] at hl
 | .nv _ _ _ _,_,hl,_=>by simp [p9] at hl
 | .qd _ _,_,hl,_=>by simp [p9] at hl
 | .agg _,_,hl,_=>by simp [p9] at hl
 | .jV _,_,hl,_=>by simp [p9] at hl
theorem GY {w:World} {g:z8} {z6:qp}:{a c:z7}->{vs us:List Value}->qk w g z6 a vs->qk w g z6 c us->qk w g z6 (G6 a c) (vs++us)
 | .pr x y,c,vs,us,h,k=>by
  simp only [qk,G6] at h ⊢;obtain ⟨v,r,rfl,h1,h2⟩:=h
  exact ⟨v,r++us,rfl,h1,GY h2 k⟩
 | .un,c,vs,us,h,k=>by
  simp only [qk] at h;subst h
  exact k
 | .data _ _,_,_,_,h,_=>by simp [qk] at h
 | .qD,_,_,_,h,_=>by simp [qk] at h
 | .ref _ _ _,_,_,_,h,_=>by simp [qk] at h
 | .view _ _ _ _ _,_,_,_,h,_=>by simp [qk] at h
 | .zq _ _,_,_,_,h,_=>by simp [qk] at h
 | .vA _ _ _,_,_,_,h,_=>by simp [qk] at h
 | .qz _,_,_,_,h,_=>by simp [qk] at h
 | .nv _ _ _ _,_,_,_,h,_=>by simp [qk] at h
 | .qd _ _,_,_,_,h,_=>by simp [qk] at h
 | .agg _,_,_,_,h,_=>by simp [qk] at h
 | .jV _,_,_,_,h,_=>by simp [qk] at h
theorem QK {w:World} {g:z8} {J:St} (hh:yY w g J.z6) {a:z7} {t:Ty} {f:t.den->Option R} {r:R} (hv:a.val=true) (h:asData J 20 a t f=some r):a.isAgg=t.sk.isAgg:=by
 cases a with
 | data t' d=>
  simp only [asData] at h
  simp only [z7.isAgg,Jv h]
 | qD=>
  simp only [asData] at h
  cases hb:t.zW with
  | false=>rw [hb] at h;simp at h
  | true=>
   rw [hb] at h;obtain ⟨o,u,rfl,_⟩:=JN h
   rfl
 | ref id p ep=>
  simp only [asData] at h;obtain ⟨t',l,_,_,_,h⟩:=kj hh h
  rw [<-Jv h];rfl
 | view id p ep x y=>
  simp only [asData] at h;obtain ⟨t',l,_,_,_,h⟩:=kj hh h
  rw [<-Jv h];rfl
 | zq id p=>cases t <;> simp [asData] at h <;> rfl
 | vA id p ep=>cases t <;> simp [asData] at h <;> rfl
 | qz id=>simp [asData] at h
 | V7 t c=>simp [asData] at h
 | nv pt id p ep=>
  cases pt with
  | true=>simp [asData] at h
  | false=>
   simp only [asData] at h;obtain ⟨_,_,_,_,_,_,_,_,_,h,_⟩:=Uv hh h
   rw [<-Jv h];rfl
 | qd f c=>cases t <;> simp [asData] at h <;> rfl
 | agg c=>
  cases c with
  | pr x y=>
   simp only [asData] at h
   cases t <;> simp [asData] at h <;> rfl
  | un=>
   simp only [asData] at h
   cases t <;> simp [asData] at h <;> rfl
  | _=>simp [z7.val] at hv
 | jV c=>simp [z7.val] at hv
 | pr x y=>simp [z7.val] at hv
 | un=>simp [z7.val] at hv
theorem uo {w:World} {g:z8} {J:St}:(n:Nat)->{a:z7}->{t:Ty}->{k:t.den->Option R}->{r:R}->{cs:List Value}->wo a=true->
  jK w g J.z6 a cs->asData J n a t k=some r->∃ d,k d=some r/\t.zW=true/\zH w g none t d cs
 | 0,_,_,_,_,_,_,_,h=>by simp [asData] at h
 | n+1,.data t' d,t,k,r,cs,_,zS,h=>by
  simp only [asData] at h;obtain ⟨_,h,qu,hF⟩:=vX h zS.1
  exact ⟨_,h,qu,hF _ _ _ zS.2⟩
 | n+1,.qD,t,k,r,cs,_,zS,h=>by
  simp only [asData] at h
  cases hb:t.zW with
  | false=>rw [hb] at h;simp at h
  | true=>
   rw [hb] at h;obtain ⟨o,u,rfl,h⟩:=JN h
   cases o with
   | true=>simp [Ty.zW] at hb
   | false=>
    have Ku:cs=[.slice none 0 0]:=zS;subst Ku
    exact ⟨_,h,rfl,none,0,rfl,yN _,jt _,fun hn=>absurd rfl hn⟩
 | n+1,.qd f c,t,k,r,cs,hn,zS,h=>by
  cases t with
  | fn f' t=>
   simp only [asData] at h
   cases hb:Nat.beq f f' with
   | false=>rw [hb] at h;simp at h
   | true=>
    rw [hb] at h;have he:f=f':=zE hb;subst he;obtain ⟨vs,rfl,hc⟩:=zS;obtain ⟨d,hk,hr,zC⟩:=uo n (a:=c) (by simpa [wo] using hn) hc h
    exact ⟨d,hk,by simpa [Ty.zW] using hr,vs,rfl,zC⟩
  | _=>simp [asData] at h
 | n+1,.agg c,t,k,r,cs,hn,zS,h=>by
  simp only [asData] at h
  exact uo n (a:=c) (by simpa [wo] using hn) zS h
 | n+1,.pr a b,t,k,r,cs,hn,zS,h=>by
  cases t with
  | pair t u=>
   simp only [asData] at h;simp only [wo,zA] at hn;obtain ⟨c1,c2,rfl,ha,hb⟩:=zS;obtain ⟨x,hk,IK,uW⟩:=uo n hn.1 ha h;obtain ⟨y,hk,Bh,pc⟩:=uo n hn.2 hb hk
   exact ⟨(x,y),hk,by simp [Ty.zW,IK,Bh],c1,c2,rfl,uW,pc⟩
  | _=>simp [asData] at h
 | n+1,.un,t,k,r,cs,_,zS,h=>by
  cases t with
  | unit=>
   simp only [asData] at h
   exact ⟨(),h,rfl,zS⟩
  | _=>simp [asData] at h
 | n+1,.ref _ _ _,_,_,_,_,hn,_,_=>by simp [wo] at hn
 | n+1,.view _ _ _ _ _,_,_,_,_,hn,_,_=>by simp [wo] at hn
 | n+1,.zq _ _,_,_,_,_,hn,_,_=>by simp [wo] at hn
 | n+1,.vA _ _ _,_,_,_,_,hn,_,_=>by simp [wo] at hn
 | n+1,.qz _,_,_,_,_,hn,_,_=>by simp [wo] at hn
 | n+1,.nv _ _ _ _,_,_,_,_,hn,_,_=>by simp [wo] at hn
 | n+1,.jV _,_,_,_,_,_,zS,_=>zS.elim
def Zy (g:z8):z8:={ g with tag:=fun b=>match g.tag b with
 | .ro=>.ro
 | _=>.zt }
theorem WZ {g:z8} {b:Nat}:(Zy g).tag b = .ro↔g.tag b = .ro:=by
 simp only [Zy];cases g.tag b <;> simp
theorem De (w:World) (g:z8):zT w g w (Zy g):=⟨fun b hb=>⟨WZ.2 hb,rfl⟩⟩
theorem LI {w:World} {g:z8} (ht:∀ b,g.tag b≠.zt->b < w.heap.size):H5 w g (Zy g):=by
 refine ⟨fun b hb=>?_⟩;have h1:(Zy g).tag b = .ro:=by
  simp only [Zy] at hb ⊢;cases h:g.tag b <;> rw [h] at hb <;> simp at hb ⊢
 exact ⟨h1,ht b (by rw [WZ.1 h1];simp)⟩
theorem z1s {w:World} {g:z8} (ht:∀ b,g.tag b≠.zt->b < w.heap.size):H5 w g (Ci g):=by
 refine ⟨fun b hb=>?_⟩;simp only [Ci] at hb ⊢
 cases h:g.tag b with
 | zt=>rw [h] at hb;simp at hb
 | ro=>exact ⟨rfl,ht b (by rw [h];simp)⟩
 | row i p=>exact ⟨rfl,ht b (by rw [h];simp)⟩
 | box i=>exact ⟨rfl,ht b (by rw [h];simp)⟩
theorem Rl {w:World} {g gl:z8} {J:St} (hh:yY w g J.z6) (hgl:gl=Ci g\/gl=Zy g):{p:gx}->{a:z7}->{vs:List Value}->{b:Qd}->{k:p.den->Qd->Option R}->{r:R}->
  (gl=Ci g\/wo a=true)->kM p=true->jf a=true->qk w g J.z6 a vs->vO J p a b k=some r->∃ d,k d b=some r/\WG w gl p d vs
 | .pr (.val t) q,.pr x y,vs,b,k,r,hm,hp,hv,h,hk=>by
  simp only [vO] at hk;simp only [jf,zA] at hv;simp only [qk] at h;obtain ⟨v,rest,rfl,h1,h2⟩:=h;obtain ⟨ve,PG,UJ,TU⟩:=wK hv.1;obtain ⟨cs,zS,Qf⟩:=kX h1 TU;have hd:∃ d,(vO J q y b fun dy b=>k (d,dy) b)=some r/\t.zW=true/\zH w gl none t d cs:=by
   rcases hm with rfl | hm
   ·exact gG hh 20 zS hk
   ·simp only [wo,zA] at hm;obtain ⟨d,hk,hr,zC⟩:=uo 20 hm.1 zS hk;refine ⟨d,hk,hr,?_⟩;rcases hgl with rfl | rfl
    ·exact zC.kept (Y8 w g)
    ·exact zC.kept (De w g)
  obtain ⟨d,Bi,hr,zC⟩:=hd;obtain ⟨dy,PX,hargs⟩:=Rl hh hgl (hm.imp _root_.id (fun hm=>by simp only [wo,zA] at hm;exact hm.2)) (by simpa [kM] using hp) hv.2 h2 Bi
  exact ⟨(d,dy),PX,hr,⟨cs,zC,by rw [Qf,QK hh hv.1 hk]⟩,hargs⟩
 | .un,.un,vs,b,k,r,_,_,_,h,hk=>by
  simp only [vO] at hk;simp only [qk] at h;subst h
  exact ⟨(),hk,trivial⟩
 | .un,.pr _ _,_,_,_,_,_,_,_,_,hk=>by simp [vO] at hk
 | .un,.data _ _,_,_,_,_,_,_,hv,_,_=>by simp [jf] at hv
 | .un,.qD,_,_,_,_,_,_,hv,_,_=>by simp [jf] at hv
 | .un,.ref _ _ _,_,_,_,_,_,_,hv,_,_=>by simp [jf] at hv
 | .un,.view _ _ _ _ _,_,_,_,_,_,_,hv,_,_=>by simp [jf] at hv
 | .un,.zq _ _,_,_,_,_,_,_,hv,_,_=>by simp [jf] at hv
 | .un,.vA _ _ _,_,_,_,_,_,_,hv,_,_=>by simp [jf] at hv
 | .un,.qz _,_,_,_,_,_,_,hv,_,_=>by simp [jf] at hv
 | .un,.nv _ _ _ _,_,_,_,_,_,_,hv,_,_=>by simp [jf] at hv
 | .un,.qd _ _,_,_,_,_,_,_,hv,_,_=>by simp [jf] at hv
 | .un,.agg _,_,_,_,_,_,_,hv,_,_=>by simp [jf] at hv
 | .un,.jV _,_,_,_,_,_,_,hv,_,_=>by simp [jf] at hv
 | .pr (.val _) _,.un,_,_,_,_,_,_,_,_,hk=>by simp [vO] at hk
 | .pr (.val _) _,.data _ _,_,_,_,_,_,_,hv,_,_=>by simp [jf] at hv
 | .pr (.val _) _,.qD,_,_,_,_,_,_,hv,_,_=>by simp [jf] at hv
 | .pr (.val _) _,.ref _ _ _,_,_,_,_,_,_,hv,_,_=>by simp [jf] at hv
 | .pr (.val _) _,.view _ _ _ _ _,_,_,_,_,_,_,hv,_,_=>by simp [jf] at hv
 | .pr (.val _) _,.zq _ _,_,_,_,_,_,_,hv,_,_=>by simp [jf] at hv
 | .pr (.val _) _,.vA _ _ _,_,_,_,_,_,_,hv,_,_=>by simp [jf] at hv
 | .pr (.val _) _,.qz _,_,_,_,_,_,_,hv,_,_=>by simp [jf] at hv
 | .pr (.val _) _,.nv _ _ _ _,_,_,_,_,_,_,hv,_,_=>by simp [jf] at hv
 | .pr (.val _) _,.qd _ _,_,_,_,_,_,_,hv,_,_=>by simp [jf] at hv
 | .pr (.val _) _,.agg _,_,_,_,_,_,_,hv,_,_=>by simp [jf] at hv
 | .pr (.val _) _,.jV _,_,_,_,_,_,_,hv,_,_=>by simp [jf] at hv
 | .pr (.ref _) _,_,_,_,_,_,_,hp,_,_,_=>by simp [kM] at hp
 | .pr (.zq _) _,_,_,_,_,_,_,hp,_,_,_=>by simp [kM] at hp
 | .pr (.qd _ _) _,_,_,_,_,_,_,hp,_,_,_=>by simp [kM] at hp
 | .pr (.agg _) _,_,_,_,_,_,_,hp,_,_,_=>by simp [kM] at hp
 | .pr (.pr _ _) _,_,_,_,_,_,_,hp,_,_,_=>by simp [kM] at hp
 | .pr .un _,_,_,_,_,_,_,hp,_,_,_=>by simp [kM] at hp
 | .val _,_,_,_,_,_,_,hp,_,_,_=>by simp [kM] at hp
 | .ref _,_,_,_,_,_,_,hp,_,_,_=>by simp [kM] at hp
 | .zq _,_,_,_,_,_,_,hp,_,_,_=>by simp [kM] at hp
 | .qd _ _,_,_,_,_,_,_,hp,_,_,_=>by simp [kM] at hp
 | .agg _,_,_,_,_,_,_,hp,_,_,_=>by simp [kM] at hp
section
variable {P:Program} {o:Oper} {a:Act} {w:World} {K:Act->World->Prop} {Q:Exit->Act->World->Prop} {c:Ctx} {J:St} {g:z8} {k:St->Option R} {r:R} {base:Nat} {mo:Bool}
theorem z6u {J':St} {g':z8} {w':World} {av:z7} {v:Value} (zy:zG c.ntmps g' w' a J') (ql:Ext w g w' g')
  (vT:∀ m,(m < base\/base+8<=m)->zJ g J m->zJ g' J' m/\m∉av.ids) (hn:J'.next=J.next) (hv:zr w' g' J'.z6 av v)
  (h:J'.y6 c o.dst av k=some r) (ve:mo=false->jc w w') (hK:vu c.ntmps k r g w J base mo K):K (a.put o.dst v) w':=by
 rcases pg h with ⟨hd,hk⟩ | ⟨i,hd,hi,hk⟩
 ·rw [hd];exact hK J' g' a w' hk zy ql (fun m hm hf=>(vT m hm hf).1) hn ve
 ·rw [hd];exact hK _ g' _ w' hk (zy.put hi hv) ql (fun m hm hf=>(vT m hm hf).1.set i (vT m hm hf).2) hn ve
theorem DO {gv args all:z7} {fid:Nat} {x:Operand} {vs:List Value} (hg:zr w g J.z6 gv (a.eval x)) (hargs:qk w g J.z6 args vs)
  (h:G1 gv args=some (fid,all)) :
  ∃ us,a.eval x = .func (.func fid) #[] us.toArray/\qk w g J.z6 all (vs++us):=by
 unfold G1 at h;split at h
 ·rename_i f cap
  cases hl:p9 cap with
  | false=>rw [hl] at h;simp at h
  | true=>
   rw [hl] at h;simp only [zB,zI,gP] at h;obtain ⟨rfl,rfl⟩:=h;simp only [zr] at hg;obtain ⟨cs,⟨us,rfl,hc⟩,hv⟩:=hg;exact ⟨us,hv,GY hargs (EL hl hc)⟩
 ·rename_i f t d
  cases hl:(p9 (j5 t d) && (j5 t d).sk.same t.sk) with
  | false=>rw [hl] at h;simp at h
  | true=>
   rw [hl] at h;simp only [zB,zI,gP] at h;obtain ⟨rfl,rfl⟩:=h;simp only [zA] at hl;simp only [zr] at hg;obtain ⟨cs,⟨qu,us,rfl,zC⟩,hv⟩:=hg;exact ⟨us,hv,GY hargs (EL hl.1 (Zt (by simpa [Ty.zW] using qu) zC (Sk.qg hl.2)))⟩
 ·simp at h
theorem JH {a:z7}:{l:List Callee}->{x:Callee}->PY a l=some x->x∈l
 | [],_,h=>by simp [PY] at h
 | y :: l,x,h=>by
  simp only [PY] at h
  cases hf:y.fits a with
  | true=>rw [hf] at h;simp only [zB,zI] at h;simp [h]
  | false=>rw [hf] at h;exact Th _ (JH h)
theorem Xe {fid:Nat} {p:gx} {res:List Ty} {F:p.den->Option (jw res)} (hco:qB P fid (.pure p res F)) {all:z7} {vals:List Value} (zc:(execOp a.eval o).run P w=(callFunc fid vals.toArray).run P w) (hall:qk w g J.z6 all vals)
  (zy:zG c.ntmps g w a J) (vT:∀ m,base<=m->m < base+8->zJ g J m)
  (h:(Zc J base all p res F fun v J=>J.y6 c o.dst v k)=some r) (hK:vu c.ntmps k r g w J base mo K):o.wp P a w K Q:=by
 ·unfold Zc at h
  cases hb:(kM p && jf all && (xp res || wo all)) with
  | false=>rw [hb] at h;simp at h
  | true=>
   rw [hb] at h;simp only [zB] at h;simp only [zA,Df] at hb;have key:∀ gl,(gl=Ci g\/gl=Zy g)->(gl=Ci g\/wo all=true)->(gl=Zy g\/xp res=true)->o.wp P a w K Q:=by
    intro gl hgl zrm zl3;have IE:H5 w g gl:=by
     rcases hgl with rfl | rfl
     ·exact z1s zy.heap.tags
     ·exact LI zy.heap.tags
    obtain ⟨d,hk,qu⟩:=Rl zy.heap hgl zrm hb.1.1 hb.1.2 hall h;simp only [WB] at hk;obtain ⟨rv,hF,hk⟩:=hk
    cases w5:Nat.ble (zZ res rv base).2.length 8 with
    | false=>rw [w5] at hk;simp at hk
    | true=>
     rw [w5] at hk;simp only [zB] at hk;have hlen:=zL w5;rw [Hf res rv base 0] at hlen;have zgv:∀ v w',(∃ g',Ext w gl w' g'/\Gp w' g' (zZ res rv 0) v)->K (a.put o.dst v) w':=by
      intro v w' ⟨gc,ql,W4⟩;have hc:zT w' gc w' (jR g gc base (zZ res rv 0).2.length w.heap.size)\/xp res=true:=by
       rcases zl3 with rfl | hf
       ·left;refine ⟨fun b hb=>⟨?_,rfl⟩⟩;simp only [jR];by_cases qx:b < w.heap.size
        ·rw [yQ qx];have:=(gu IE ql qx).2;rw [hb] at this;exact WZ.1 this.symm
        ·rw [qZ qx,hb]
       ·exact .inr hf
      obtain ⟨h1,h2,h3⟩:=z3d zy IE ql vT hlen hc W4;exact z6u h1 (Tg IE ql) h3 (Gz _ _ _) h2 hk (fun _ b hb=>(gu IE ql hb).1) hK
     have Mv:Known w gl:=by
      rcases hgl with rfl | rfl
      ·exact zy.known.kept (Y8 w g)
      ·exact zy.known.kept (De w g)
     rcases hco w gl d vals rv IE.tags Mv qu hF with ⟨IK,Bh⟩ | ⟨v,w',IK,Bh⟩
     ·unfold Oper.wp;rw [zc,IK,Oper.upon_enter];refine Calls.mono Bh (fun e w' he=>?_);obtain ⟨v,rfl,hv⟩:=he;exact zgv v w' hv
     ·unfold Oper.wp;rw [zc,IK,Oper.upon_value];exact zgv v w' Bh
   by_cases hn:wo all=true
   ·exact key (Zy g) (.inr rfl) (.inr hn) (.inl rfl)
   ·exact key (Ci g) (.inl rfl) (.inl rfl) (.inr (hb.2.resolve_right hn))
theorem z2i (IN:Bb P c.env) {fid:Nat} {all:z7} {vals:List Value} (zc:(execOp a.eval o).run P w=(callFunc fid vals.toArray).run P w) (hall:qk w g J.z6 all vals)
  (zy:zG c.ntmps g w a J) (vT:∀ m,base<=m->m < base+8->zJ g J m)
  (h:(match PY all (c.env fid) with
   | some (.pure p res F)=>Zc J base all p res F fun v J=>J.y6 c o.dst v k
   | _=>none)=some r) (hK:vu c.ntmps k r g w J base mo K):o.wp P a w K Q:=by
 split at h
 ·rename_i p res F IP;exact Xe (IN fid _ (JH IP)) zc hall zy vT h hK
 ·simp at h
theorem zbq (IN:Bb P c.env) {cl:Call} {x:Operand} (ho:o.op = .call cl) (gE:cl.callee = .value x)
  (zy:zG c.ntmps g w a J) (vT:∀ m,base<=m->m < base+8->zJ g J m) {gv args:z7} (hx:ev J x=some gv) (hargs:evs J cl.args.toList=some args)
  (h:(z7c c J base gv args fun v J=>J.y6 c o.dst v k)=some r) (hK:vu c.ntmps k r g w J base mo K):o.wp P a w K Q:=by
 obtain ⟨eg,_⟩:=qF zy hx;obtain ⟨ea,_⟩:=Wv zy hargs;unfold z7c at h;split at h
 ·rename_i fid all Et;obtain ⟨us,hfv,hall⟩:=DO eg ea Et;refine z2i IN (fid:=fid) (all:=all) (vals:=(cl.args.toList.map a.eval)++us) ?_ hall zy vT h hK;have e1:cl.args.map a.eval=(cl.args.toList.map a.eval).toArray:=by apply Fm.1;rw [Z2x]
  simp [execOp,ho,resolve,gE,hfv,Deferred.ofValue,invoke,e1]
 ·simp at h
end
end Go.Kz
namespace Go.Kz
open Go.MapKept
variable {R:Type}
def Qj:Ty->TypeDesc
 | .int k=>.int k
 | .str=>.string
 | _=>.bool
theorem JT {P:Program} {t:Ty} {T:TypeId} (hk:j7 t=true) (h:qw P t T):P.underlying T=some (Qj t):=by
 cases t <;> simp [j7] at hk <;> simp only [qw] at h <;> exact h.1
theorem Vs {t:Ty} (hk:j7 t=true):t.qJ=true:=by
 cases t <;> simp [j7] at hk <;> rfl
theorem ZA {w:World} {g:z8} {o:Dr} {t:Ty} {d:t.den} {cs:List Value} (hk:j7 t=true) (h:zH w g o t d cs):IsKey (Qj t) (vN t.sk.isAgg cs):=by
 cases t <;> simp [j7] at hk
 ·obtain ⟨rfl,_⟩:=h;simp [Qj,vN,Ty.sk,Sk.isAgg,IsKey]
 ·cases h;simp [Qj,vN,Ty.sk,Sk.isAgg,IsKey]
 ·obtain ⟨s,rfl,_⟩:=h;simp [Qj,vN,Ty.sk,Sk.isAgg,IsKey]
theorem zjv {w:World} {g:z8} {o:Dr} {t:Ty} {d e:t.den} {cs es:List Value} (hk:j7 t=true) (h:zH w g o t d cs) (h':zH w g o t e es) :
  (vN t.sk.isAgg cs=vN t.sk.isAgg es)↔ju t d e=true:=by
 cases t <;> simp [j7] at hk
 ·obtain ⟨rfl,_⟩:=h;obtain ⟨rfl,_⟩:=h';simp [ju,vN,Ty.sk,Sk.isAgg]
 ·cases h;cases h';simp [ju,vN,Ty.sk,Sk.isAgg]
 ·obtain ⟨s,rfl,hs,_⟩:=h;obtain ⟨s',rfl,Hy,_⟩:=h';simp only [ju,vN,Ty.sk,Sk.isAgg,Mu,Dh,Z2k,Value.string.injEq,yR];constructor
  ·rintro rfl;rw [<-hs,<-Hy]
  ·intro he;obtain ⟨⟨l⟩⟩:=s;obtain ⟨⟨l'⟩⟩:=s';simp only at hs Hy;rw [hs,Hy,he]
theorem Qx {d:TypeDesc} {k:Value}:(es:List MapEntry)->(i:Nat)->Instr.findNow d k es i=(Instr.findNow d k es 0).map fun x=>x.map fun y=>(i+y.1,y.2)
 | [],i=>by simp [Instr.findNow]
 | e :: es,i=>by
  simp only [Instr.findNow]
  cases Instr.sameNow d k e.key with
  | none=>rfl
  | some b=>
   cases b with
   | true=>simp
   | false=>
    simp only;rw [Qx es (i+1),Qx es (0+1)]
    cases Instr.findNow d k es 0 with
    | none=>rfl
    | some x=>cases x with
     | none=>rfl
     | some y=>simp;omega
theorem Ot {w:World} {g:z8} {kt vt:Ty} (hk:j7 kt=true) {k:kt.den} {QS:List Value} (Z5:zH w g none kt k QS):{es:List MapEntry}->{m:List (kt.den×vt.den)}->jE w g kt vt es m->
  (Instr.findNow (Qj kt) (vN kt.sk.isAgg QS) es 0=some none/\wJ (ju kt) m k=none/\
   ∀ d cs b,zH w g none vt d cs->jE w g kt vt (es++[⟨vN kt.sk.isAgg QS,vN vt.sk.isAgg cs,b⟩]) (gp (ju kt) m k d))\/
  ∃ j e v cs,Instr.findNow (Qj kt) (vN kt.sk.isAgg QS) es 0=some (some (j,e.val))/\es[j]? = some e/\e.key=vN kt.sk.isAgg QS/\wJ (ju kt) m k=some v/\zH w g none vt v cs/\e.val=vN vt.sk.isAgg cs/\
   ∀ d cs,zH w g none vt d cs->jE w g kt vt (es.modify j fun e=>{ e with key:=vN kt.sk.isAgg QS,val:=vN vt.sk.isAgg cs }) (gp (ju kt) m k d)
 | [],[],_=>.inl ⟨rfl,rfl,fun d cs b h=>⟨⟨QS,Z5,rfl⟩,⟨cs,h,rfl⟩,trivial⟩⟩
 | [],_ :: _,h=>h.elim
 | _ :: _,[],h=>h.elim
 | e :: es,(k',v') :: m,⟨⟨c1,h1,e1⟩,⟨c2,h2,e2⟩,h⟩=>by
  have i1:=ZA hk Z5;have i2:=ZA hk h1;obtain ⟨r,hr,zl7⟩:=sameNow_of_keys i1 i2;have hq:=zjv hk Z5 h1;have hrk:r=ju kt k k':=by
   cases r with
   | true=>exact (hq.1 (zl7.1 rfl)).symm
   | false=>
    cases hc:ju kt k k' with
    | false=>rfl
    | true=>have:=zl7.2 (hq.2 hc);simp at this
  rw [<-e1] at hr
  cases r with
  | true=>
   right;have hke:e.key=vN kt.sk.isAgg QS:=by rw [e1];exact (zl7.1 rfl).symm
   refine ⟨0,e,v',c2,by simp [Instr.findNow,hr],rfl,hke,by simp [wJ,<-hrk],h2,e2,fun d cs hd=>?_⟩;simp only [gp,<-hrk,zB,List.modify_zero_cons]
   exact ⟨⟨c1,h1,by rw [<-e1,hke]⟩,⟨cs,hd,rfl⟩,h⟩
  | false=>
   rcases Ot hk Z5 h with ⟨f1,f2,f3⟩ | ⟨j,e',v,cs,f1,f2,f3,f4,f5,f6,f7⟩
   ·left;refine ⟨?_,by simp [wJ,<-hrk,f2],fun d cs b hd=>?_⟩
    ·simp only [Instr.findNow,hr];rw [Qx,f1];rfl
    ·simp only [gp,<-hrk,zU,xA];exact ⟨⟨c1,h1,e1⟩,⟨c2,h2,e2⟩,f3 d cs b hd⟩
   ·right;refine ⟨j+1,e',v,cs,?_,by simpa using f2,f3,by simp [wJ,<-hrk,f4],f5,f6,fun d cs hd=>?_⟩
    ·simp only [Instr.findNow,hr];rw [Qx,f1];simp;omega
    ·simp only [gp,<-hrk,zU,List.modify_succ_cons];exact ⟨⟨c1,h1,e1⟩,⟨c2,h2,e2⟩,f7 d cs hd⟩
theorem P1:{t:Ty}->yV t=true->t.qJ=true
 | .unit,_=>rfl
 | .pair a b,h=>by
  simp only [yV,zA] at h
  simp only [Ty.qJ,Vs h.1,P1 h.2,Z3t]
 | .int _,h=>by simp [yV] at h
 | .bool,h=>by simp [yV] at h
 | .str,h=>by simp [yV] at h
 | .arr _ a,h=>by
  simp only [yV] at h
  simp only [Ty.qJ,Vs h]
 | .sl _ _,h=>by simp [yV] at h
 | .ptr _,h=>by simp [yV] at h
 | .fn _ _,h=>by simp [yV] at h
 | .tree _,h=>by simp [yV] at h
theorem Dg {t:Ty} (h:kTy t=true):j7 t=true\/∃ a b,t = .pair a b/\yV (.pair a b)=true:=by
 cases t <;> first | exact .inl h | exact .inr ⟨_,_,rfl,h⟩
theorem Aw {t:Ty} (h:kTy t=true):t.qJ=true:=by
 rcases Dg h with h | ⟨a,b,rfl,h⟩
 ·exact Vs h
 ·exact P1 h
section
variable {P:Program} {o:Oper} {a:Act} {w:World} {K:Act->World->Prop} {Q:Exit->Act->World->Prop} {c:Ctx} {J:St} {g:z8} {k:St->Option R} {r:R} {base:Nat} {mo:Bool}
theorem Md {t:TypeId} (ho:o.op = .makeMap t none) (zy:zG c.ntmps g w a J) (hf:zJ g J base) (h:yG c J base o k=some r) (hK:vu c.ntmps k r g w J base mo K):o.wp P a w K Q:=by
 simp only [yG,ho] at h;split at h
 ·rename_i kt vt hmt
  cases hc:(kTy kt && vt.qJ) with
  | false=>rw [hc] at h;simp at h
  | true=>
   rw [hc] at h;simp only [zB] at h;simp only [zA] at hc;refine VI (ob:=.map #[] 0) (obj:=.map kt vt []) (tg:=.box base) (v:=undef) (v':=.map (some w.heap.size)) zy hf (.inl rfl) ?_ rfl ?_ (by simp) ?_ h hK
   ·simp only [execOp,ho];simp [Instr.makeMap]
   ·refine ⟨#[],0,?_,?_,gQ (Aw hc.1),gQ hc.2,trivial,rfl,rfl⟩
    ·have hb:(qN g w.heap.size base (.box base) undef).qj base=w.heap.size:=by simp [qN]
     rw [hb];exact heap_alloc_new w _
    ·simp [qN]
   ·simp only [zr];refine ⟨_,⟨_,rfl,rfl,fun _ _ _ _=>?_⟩,rfl⟩;simp [qN]
 ·simp at h
theorem Bg {t:Ty} {d:t.den} {v:Value} {z6:qp} {cs:List Value} (ht:t.qJ=true) {w':World} {g':z8} {o':Dr} (h:zH w' g' o' t d cs) (hv:v=vN t.sk.isAgg cs):zr w g z6 (.data t d) v:=
 ⟨cs,⟨gQ ht,zH.qJ ht h⟩,hv⟩
theorem YM {i:Operand} {b:z7} {kt:Ty} {f:kt.den->Option R} (zy:zG c.ntmps g w a J) (hk:kt.qJ=true) (hb:b.val=true) (hi:ev J i=some b) (h:asData J 20 b kt f=some r) :
  ∃ d cs,f d=some r/\zH w g none kt d cs/\a.eval i=vN kt.sk.isAgg cs:=by
 obtain ⟨cs,zS,Qf,_⟩:=jn hb (qF zy hi).1;obtain ⟨d,hd,_,hr⟩:=gG zy.heap 20 zS h;exact ⟨d,cs,hd,zH.qJ hk hr,by rw [Qf,QK zy.heap hb h]⟩
theorem z3h {id:Nat} {kt vt:Ty} {m m':List (kt.den×vt.den)} {es:Array MapEntry} {ck:Nat} (zy:zG c.ntmps g w a J) (zp:J.z6 id=some (.map kt vt m)) (hm:jE w g kt vt es.toList m') (Oe:ck=es.size) (zkn:JV es.toList) :
  zG c.ntmps g { w with heap:=w.heap.setIfInBounds (g.qj id) (.map es ck) } a (J.setObj id (.map kt vt m'))/\Ext w g { w with heap:=w.heap.setIfInBounds (g.qj id) (.map es ck) } g/\
   ∀ n,zJ g J n->zJ g (J.setObj id (.map kt vt m')) n:=by
 obtain ⟨es0,ck0,hblk,zM,Z5,hvr,_,_⟩:=zy.heap.z6 _ _ zp;obtain ⟨h1,h2⟩:=heap_set (o':=.map es ck) hblk;have qu:zT w g { w with heap:=w.heap.setIfInBounds (g.qj id) (.map es ck) } g:=by
  refine ⟨fun b hb=>⟨hb,h2 b ?_⟩⟩;intro he;subst he;rw [zM] at hb;simp at hb
 refine ⟨zy.pE qu (fun i hi=>?_) (.inl (.inr (.inr (.inr (.inl ⟨kt,vt,m,m',zp,rfl,rfl⟩))))) ⟨es,ck,h1,zM,Z5,hvr,hm.kept qu,Oe,zkn⟩ (fun b hb=>?_),⟨rfl,rfl,rfl,yN _,by simp,fun b _ hb=>⟨h2 b ?_,rfl⟩⟩,fun n hn=>?_⟩
 ·refine ⟨⟨fun q=>rfl,fun q b hb=>⟨hb,h2 b ?_⟩⟩,rfl,fun hb=>⟨hb,h2 _ ?_⟩⟩
  ·intro he;subst he;rw [zM] at hb;simp at hb
  ·intro he;rw [he,zM] at hb;simp only [Tag.box.injEq] at hb;exact hi hb.symm
 ·have:=zy.heap.tags b hb;simpa using this
 ·intro he;subst he;rw [zM] at hb;simp at hb
 ·refine zJ.pE (g:=g) (fun b=>.inl rfl) ?_ (by simp) hn;intro heq;subst heq;have:=hn.z6;rw [zp] at this;simp at this
theorem GX {t E:TypeId} {s:Nat} (qV:P.underlying t=some (.slice E)) (hs:(sizeOf E).run P w = .ok s w) (ad:Option Addr) (len cap:Nat) (lo hi:Option Value) (l h:Int) (Po:len<=cap)
  (Kx:(lo=none/\l=0)\/∃ k,lo=some (.int k l)) (hhi:(hi=none/\h=len)\/∃ k,hi=some (.int k h)) (h0:0<=l) (h1:l<=h) (h2:h<=(len:Int)) :
  (Instr.sliceAt t (.slice ad len cap) lo hi none).run P w = .ok (.slice (if cap-l.toNat=0 then ad else ad.map (·.add (l.toNat*s))) (h-l).toNat (cap-l.toNat)) w:=by
 have hb:∀ k code,(Instr.sliceBound (.int k h) cap code).run P w = .ok h.toNat w:=fun k code=>run_sliceBound w k h cap code (by omega) (by omega)
 have w5:∀ (k:IntKind) code (y:Nat),l<=(y:Int)->(Instr.sliceBound (.int k l) y code).run P w = .ok l.toNat w:=fun k code y hy=>run_sliceBound w k l y code h0 hy
 have e1:(cap=l.toNat)=(cap-l.toNat=0):=propext (by constructor <;> omega);have e2:h.toNat-l.toNat=(h-l).toNat:=by omega
 have e3:len-l.toNat=((len:Int)-l).toNat:=by omega
 rcases Kx with ⟨rfl,rfl⟩ | ⟨k,rfl⟩ <;> rcases hhi with ⟨rfl,rfl⟩ | ⟨k',rfl⟩
 ·simp [Instr.sliceAt,Instr.slice,Instr.sliceBounds,run_underlying qV,hs]
 ·simp [Instr.sliceAt,Instr.slice,Instr.sliceBounds,run_underlying qV,hs,hb]
 ·have:=w5 k .sliceB len (by omega);simp [Instr.sliceAt,Instr.slice,Instr.sliceBounds,run_underlying qV,hs,this,e1,e3]
 ·have:=w5 k .sliceB h.toNat (by omega);simp [Instr.sliceAt,Instr.slice,Instr.sliceBounds,run_underlying qV,hs,hb,this,e1,e2]
theorem Ep {t:TypeId} (qV:P.underlying t=some .string) (s:ByteArray) (lo hi:Option Value) (l h:Int)
  (Kx:(lo=none/\l=0)\/∃ k,lo=some (.int k l)) (hhi:(hi=none/\h=s.size)\/∃ k,hi=some (.int k h)) (h0:0<=l) (h1:l<=h) (h2:h<=(s.size:Int)) :
  (Instr.sliceAt t (.string s) lo hi none).run P w = .ok (.string (s.extract l.toNat h.toNat)) w:=by
 have hb:∀ k code,(Instr.sliceBound (.int k h) s.size code).run P w = .ok h.toNat w:=fun k code=>run_sliceBound w k h s.size code (by omega) (by omega)
 have w5:∀ (k:IntKind) code (y:Nat),l<=(y:Int)->(Instr.sliceBound (.int k l) y code).run P w = .ok l.toNat w:=fun k code y hy=>run_sliceBound w k l y code h0 hy
 rcases Kx with ⟨rfl,rfl⟩ | ⟨k,rfl⟩ <;> rcases hhi with ⟨rfl,rfl⟩ | ⟨k',rfl⟩
 ·simp [Instr.sliceAt,Instr.slice,Instr.sliceBounds,run_underlying qV]
 ·simp [Instr.sliceAt,Instr.slice,Instr.sliceBounds,run_underlying qV,hb]
 ·have:=w5 k .sliceB s.size (by omega);simp [Instr.sliceAt,Instr.slice,Instr.sliceBounds,run_underlying qV,this]
 ·have:=w5 k .sliceB h.toNat (by omega);simp [Instr.sliceAt,Instr.slice,Instr.sliceBounds,run_underlying qV,hb,this]
theorem FE {J:St} (zy:zG c.ntmps g w a J) {x:Option Operand} {n:Option Int} (h:evI J x=some n):(x.map a.eval=none/\n=none)\/∃ k i,x.map a.eval=some (.int k i)/\n=some i:=by
 cases x with
 | none=>simp only [evI,zI] at h;exact .inl ⟨rfl,h.symm⟩
 | some x=>
  simp only [evI] at h;split at h
  ·rename_i k i hx;simp only [zI] at h;exact .inr ⟨k,i,by simp [(jT (qF zy hx).1).1],h.symm⟩
  ·simp at h
theorem z2c (kN:gn P c.tt) {t:TypeId} {x:Operand} {lo hi:Option Operand} (ho:o.op = .slice t x lo hi none) (zy:zG c.ntmps g w a J) (h:yG c J base o k=some r):vd P o a w g J c k r:=by
 simp only [yG,ho] at h;split at h
 ·rename_i av ow u l hn hx hu Kx hhi;have hT:=kN _ _ hu;simp only [qw] at hT;obtain ⟨⟨E,qV,hE⟩,_⟩:=hT;obtain ⟨ex,ef⟩:=qF zy hx;clear ef;have z4z:(lo.map a.eval=none/\l.getD 0=0)\/∃ k,lo.map a.eval=some (.int k (l.getD 0)):=by
   rcases FE zy Kx with ⟨h1,rfl⟩ | ⟨k,i,h1,rfl⟩
   ·exact .inl ⟨h1,rfl⟩
   ·exact .inr ⟨k,h1⟩
  have z5a:∀ n:Nat,(hi.map a.eval=none/\hn.getD (n:Int)=n)\/∃ k,hi.map a.eval=some (.int k (hn.getD (n:Int))):=fun n=>by
   rcases FE zy hhi with ⟨h1,rfl⟩ | ⟨k,i,h1,rfl⟩
   ·exact .inl ⟨h1,rfl⟩
   ·exact .inr ⟨k,h1⟩
  have qC:∀ w',(sizeOf E).run P w' = .ok u.size w':=hE.info.sizeOf;unfold z1j at h;split at h
  ·-- nil
   have hv:=QU.1 ex;obtain ⟨hc,h⟩:=qm h;simp only [zA,yR] at hc;refine QD (v:=.slice none 0 0) (fun w' _=>?_) (QU.2 rfl) (fun m _=>by simp [z7.ids]) h;have:=GX (w:=w') qV (qC w') none 0 0 _ _ (l.getD 0) (hn.getD ((0:Nat):Int)) (yN _) z4z (z5a 0) (by omega) (by simp;omega) (by simp;omega);simp only [execOp,ho,hv,Z3u];rw [hc.1] at this;simp only [Int.ofNat_zero] at this;rw [show hn.getD 0=0 from hc.2] at this;simp [this]
  ·-- read-only data
   rename_i t' d
   cases hs:(z0q t').sk.same u.sk with
   | false=>rw [hs] at h;simp at h
   | true=>
    rw [hs] at h;have wG:=Sk.qg hs;have YR:u.size=t'.size:=by rw [<-CC t',<-Ty.zQ,<-Ty.zQ,wG]
    simp only [zB] at h;obtain ⟨hc,h⟩:=qm h;simp only [zA,yR] at hc;obtain ⟨⟨c0,c1⟩,c2⟩:=hc;simp only [zr] at ex;obtain ⟨cs,⟨qu,ad,cap,rfl,h1,h2,h3⟩,hv⟩:=ex;have jd:a.eval x = .slice ad (List.length d) cap:=hv;have hlen:=x3 d (l.getD 0) (hn.getD (List.length d:Int)) c0 c1 c2;refine QD (v:=.slice (if cap-(l.getD 0).toNat=0 then ad else ad.map (·.add ((l.getD 0).toNat*u.size))) (hn.getD (List.length d:Int)-l.getD 0).toNat (cap-(l.getD 0).toNat)) (fun w' _=>?_) ?_ (fun m _=>by simp [z7.ids]) h
    ·have:=GX (w:=w') qV (qC w') ad (List.length d) cap _ _ (l.getD 0) (hn.getD (List.length d:Int)) h1 z4z (z5a _) c0 c1 c2;simp only [execOp,ho,jd,Z3u];simp [this]
    ·have Em:(sub d (l.getD 0) (hn.getD (List.length d:Int))).length=(hn.getD (List.length d:Int)-l.getD 0).toNat:=by rw [hlen];omega
     refine ⟨_,⟨qu,_,cap-(l.getD 0).toNat,rfl,by rw [Em];omega,by omega,fun je=>?_⟩,by rw [Em];rfl⟩;have IG:0 < (hn.getD (List.length d:Int)-l.getD 0).toNat:=by rw [<-Em];exact Z4f.2 je
     have hdn:d≠[]:=by intro he;subst he;simp at c2 IG;omega
     obtain ⟨b,off,cc,e,fz,rfl,zM,zY,Ph,js⟩:=h3 hdn;refine ⟨b,off+(l.getD 0).toNat*t'.size,cc,e,fz,?_,zM,zY,?_,fun i hi=>?_⟩
     ·rw [qZ (by omega)];simp only [Z23,Addr.add_lit,YR]
     ·rw [Em];have:(hn.getD (List.length d:Int)-l.getD 0).toNat+(l.getD 0).toNat<=List.length d:=by omega
      have:=kn t'.size this;rw [wB] at this;omega
     ·have Cj:(l.getD 0).toNat+i < List.length d:=by rw [Em] at hi;omega
      have hg:=We d (l.getD 0) (hn.getD (List.length d:Int)) i hi Cj;rw [hg];have e1:off+(l.getD 0).toNat*t'.size+i*t'.size=off+((l.getD 0).toNat+i)*t'.size:=by rw [wB];omega
      rw [e1];exact js _ Cj
  ·-- an owned row
   rename_i id ep;obtain ⟨t',d,zp,_,qu,h⟩:=kj zy.heap h
   cases hs:t'.sk.same u.sk with
   | false=>rw [hs] at h;simp at h
   | true=>
    rw [hs] at h;have wG:=Sk.qg hs;have YR:u.size=t'.size:=by rw [<-Ty.zQ,<-Ty.zQ,wG]
    simp only [zB] at h;obtain ⟨hc,h⟩:=qm h;simp only [zA,yR] at hc;obtain ⟨⟨c0,c1⟩,c2⟩:=hc;simp only [zr] at ex;obtain ⟨cs,⟨v,rfl,qE,hv⟩,jd⟩:=ex;have e1:=(hv _ _ _ zp).2 rfl;obtain ⟨_,ad,cap,_,qf,h1,h2,_⟩:=zy.heap.z6 _ _ zp;have OO:a.eval x = .slice ad (List.length d) cap:=by rw [jd];show v=_;rw [e1,qf]
    refine QD (v:=jq (g.sv id []) t'.size (l.getD 0) (hn.getD (List.length d:Int))) (fun w' _=>?_) ?_ (fun m hm=>?_) h
    ·have:=GX (w:=w') qV (qC w') ad (List.length d) cap _ _ (l.getD 0) (hn.getD (List.length d:Int)) h1 z4z (z5a _) c0 c1 c2;simp only [execOp,ho,OO,Z3u,qf,jq];rw [YR] at this;simp [this]
    ·simp only [zr];refine ⟨[jq (g.sv id []) t'.size (l.getD 0) (hn.getD (List.length d:Int))],⟨_,rfl,by rw [qf];rfl,fun t2 l2 e2 Dx=>?_⟩,rfl⟩;rw [zp] at Dx;simp only [zI,Obj.row.injEq] at Dx;obtain ⟨rfl,UW,rfl⟩:=Dx;have UW:=Z35 UW;subst UW;exact ⟨yN _,fun _=>⟨rfl,c0,c1,c2,rfl⟩⟩
    ·simp only [z7.ids,Mp];intro he;subst he;have:=hm.z6;rw [zp] at this;simp at this
  ·simp at h
 ·-- a part of a string
  rename_i d l hn hx hu Kx hhi;have hT:=kN _ _ hu;simp only [qw] at hT;obtain ⟨s,hv,hl,hs⟩:=Gw (l:=d) (qF zy hx).1;subst hl;have z4z:(lo.map a.eval=none/\l.getD 0=0)\/∃ k,lo.map a.eval=some (.int k (l.getD 0)):=by
   rcases FE zy Kx with ⟨h1,rfl⟩ | ⟨k,i,h1,rfl⟩
   ·exact .inl ⟨h1,rfl⟩
   ·exact .inr ⟨k,h1⟩
  have qC:s.data.toList.length=s.size:=vf;rw [qC] at h;have z5a:(hi.map a.eval=none/\hn.getD (s.size:Int)=s.size)\/∃ k,hi.map a.eval=some (.int k (hn.getD (s.size:Int))):=by
   rcases FE zy hhi with ⟨h1,rfl⟩ | ⟨k,i,h1,rfl⟩
   ·exact .inl ⟨h1,rfl⟩
   ·exact .inr ⟨k,h1⟩
  obtain ⟨hc,h⟩:=qm h;simp only [zA,yR] at hc;obtain ⟨⟨c0,c1⟩,c2⟩:=hc;refine QD (v:=.string (s.extract (l.getD 0).toNat (hn.getD (s.size:Int)).toNat)) (fun w' _=>?_) (WJ ?_ ?_) (fun m _=>by simp [z7.ids]) h
  ·have:=Ep (w:=w') hT.1 s _ _ (l.getD 0) (hn.getD (s.size:Int)) z4z z5a c0 c1 c2;simp only [execOp,ho,hv,Z3u];simp [this]
  ·rw [ByteArray.data_extract,Array.toList_extract];simp only [List.extract,sub]
  ·rw [ByteArray.size_extract];simp only [maxLen] at hs ⊢;omega
 ·simp at h
theorem MI {t E:TypeId} {s:Nat} (qV:P.underlying t=some (.slice E)) (hs:(sizeOf E).run P w = .ok s w) (ad:Option Addr) (len cap:Nat) (kh km:IntKind) (h m:Int) (h0:0<=h) (h1:h<=m) (h2:m<=(cap:Int)) :
  (Instr.sliceAt t (.slice ad len cap) none (some (.int kh h)) (some (.int km m))).run P w = .ok (.slice (if m.toNat=0 then ad else ad.map (·.add (0*s))) h.toNat m.toNat) w:=by
 have hb:∀ code,(Instr.sliceBound (.int km m) cap code).run P w = .ok m.toNat w:=fun code=>run_sliceBound w km m cap code (by omega) (by omega)
 have w5:∀ code,(Instr.sliceBound (.int kh h) m.toNat code).run P w = .ok h.toNat w:=fun code=>run_sliceBound w kh h m.toNat code h0 (by omega)
 simp [Instr.sliceAt,Instr.slice,Instr.sliceBounds,run_underlying qV,hs,hb,w5]
theorem T6 (kN:gn P c.tt) {t:TypeId} {x:Operand} {lo hi:Option Operand} {mx:Operand} (ho:o.op = .slice t x lo hi (some mx)) (zy:zG c.ntmps g w a J) (h:yG c J base o k=some r)
  (hK:vu c.ntmps k r g w J base mo K):o.wp P a w K Q:=by
 cases lo with
 | some lo=>simp [yG,ho] at h
 | none=>
 cases hi with
 | none=>simp [yG,ho] at h
 | some hi=>
 simp only [yG,ho] at h;split at h
 ·rename_i id ep kh hn km m ow u hx hhi hmx hu;split at h
  ·rename_i t' l e zp
   cases hb:(Nat.beq e ep && t'.sk.same u.sk) with
   | false=>rw [hb] at h;simp at h
   | true=>
    rw [hb] at h;simp only [zB] at h;simp only [zA] at hb;have IS:=zE hb.1;subst IS;have wG:=Sk.qg hb.2;have YR:u.size=t'.size:=by rw [<-Ty.zQ,<-Ty.zQ,wG]
    obtain ⟨hc,h⟩:=qm h;simp only [zA,yR] at hc;obtain ⟨⟨c0,c1⟩,c2⟩:=hc;have c0:@LE.le Int Int.instLEInt 0 hn:=c0;have c1:@LE.le Int Int.instLEInt hn m:=c1;have c2:@LE.le Int Int.instLEInt m (l.length:Int):=c2;have hT:=kN _ _ hu;simp only [qw] at hT;obtain ⟨⟨E,qV,hE⟩,_⟩:=hT;obtain ⟨ex,ef⟩:=qF zy hx;obtain ⟨vh,_⟩:=jT (qF zy hhi).1;obtain ⟨vm,_⟩:=jT (qF zy hmx).1;simp only [zr] at ex;obtain ⟨cs,⟨v,rfl,qE,hv⟩,jd⟩:=ex;have e1:=(hv _ _ _ zp).2 rfl;obtain ⟨qu,ad,cap,_,qf,Po,Pt,vk⟩:=zy.heap.z6 _ _ zp;have xP:a.eval x = .slice ad l.length cap:=by rw [<-qf,<-e1];exact jd
    have hlen:(sub l 0 hn).length=hn.toNat:=by rw [x3 l 0 hn (Z30 0) c0 (by omega)];simp
    have zc:=MI (P:=P) (w:=w) qV (hE.info.sizeOf w) ad l.length cap kh km hn m c0 c1 (by omega);have zS:zo w (pF g id (.slice (if m.toNat=0 then ad else ad.map (·.add (0*u.size))) hn.toNat m.toNat)) (J.setObj id (.row t' (sub l 0 hn) (e+1))).z6 id (.row t' (sub l 0 hn) (e+1)):=by
     refine ⟨qu,(if m.toNat=0 then ad else ad.map (·.add (0*u.size))),m.toNat,by rw [hlen];simp [pF],by rw [hlen];simp [pF],by rw [hlen];omega,by omega,?_⟩;rcases vk with ⟨rfl,hl,rfl⟩ | ⟨b,off,c',ee,rfl,zM,zY,qC,js⟩
     ·left;rw [hl] at c2;simp only [Fl] at c2;exact ⟨by simp,Z27 (by rw [hlen];omega),by omega⟩
     ·right;have hmul:m.toNat*t'.size<=cap*t'.size:=kn _ (by omega);refine ⟨b,off,c',ee,by split <;> simp [Addr.add],zM,zY,by omega,fun i hi=>?_⟩;have wT:i < (sub l 0 hn).length:=hi;have Cj:(0:Int).toNat+i < l.length:=by simp;omega
      have:=zH.y9 (o':=none) qu (js ((0:Int).toNat+i) Cj);have hg:=We l 0 hn i wT Cj;refine zH.y9 qu (o:=none) ?_;have h2:(sub l 0 hn).get ⟨i,wT⟩=l.get ⟨(0:Int).toNat+i,Cj⟩:=hg;show zH w _ none t' ((sub l 0 hn).get ⟨i,wT⟩) _;rw [h2];have e0:(0:Int).toNat+i=i:=by simp
      have:=zH.kept (show zT w g w (pF g id (.slice (if m.toNat=0 then some ⟨b,off,none⟩ else (some ⟨b,off,none⟩:Option Addr).map (·.add (0*u.size))) hn.toNat m.toNat)) from ⟨fun b hb=>⟨hb,rfl⟩⟩) this;simpa [e0] using this
    obtain ⟨h1,h2,h3⟩:=HU zy zp (Bm e) zS;refine jL (v:=.slice (if m.toNat=0 then ad else ad.map (·.add (0*u.size))) hn.toNat m.toNat) (g:=g) (base:=base) ?_ h1 h2 (fun n _ hfn=>⟨h3 n hfn,by simp only [z7.ids,Mp];intro he;subst he;have:=hfn.z6;rw [zp] at this;simp at this⟩) rfl ?_ h (fun _=>jc.refl w) hK
    ·simp only [execOp,ho,xP,vh,vm,Z23,Z3u];simp [zc]
    ·exact uT (u:=t') (l:=sub l 0 hn) (by simp [St.setObj,zR]) (by simp [pF]) rfl
  ·simp at h
 ·simp at h
end
end Go.Kz
namespace Go.Kz
variable {R:Type}
def S5 (P : Program) (eqs : Nat -> Bool) : Prop := ∀ T, eqs T = true -> P.stoodInHeld T = false /\ P.eqGuardType P.depth T = false /\ ∀ fs, P.underlying T = some (.struct fs) -> ∀ f ∈ fs.toList, f.name ≠ "_"
def zes (P:Program):List Nat->Bool
 | []=>true
 | T :: l=>(!P.stoodInHeld T && !P.eqGuardType P.depth T && (match P.underlying T with
  | some (.struct fs) => fs.toList.all fun f => !(f.name == "_")
  | some (.array _ _)=>true
  | _=>false)) && zes P l
theorem FH {P:Program}:{l:List Nat}->zes P l=true->S5 P (fun T=>yE T l)
 | [],_,_,h=>by simp [yE] at h
 | T :: l,hb,T',h=>by
  simp only [zes,zA,PO] at hb;simp only [yE] at h
  cases he:Nat.beq T T' with
  | false=>rw [he] at h;exact FH hb.2 T' h
  | true=>
   obtain rfl:=zE he;refine ⟨hb.1.1.1,hb.1.1.2,?_⟩;have h1:=hb.1.2;split at h1
   ·rename_i fs hu;intro fs' hu' f hf;rw [hu] at hu';cases hu';have:=BH.1 h1 f hf;simpa using this
   ·rename_i hu;intro fs' hu';rw [hu] at hu';cases hu'
   ·simp at h1
theorem Lu {P:Program} {w w':World} {g:z8} {t:Ty} {T:TypeId} {d e:t.den} {cs es:List Value} (D:Nat) (hk:j7 t=true) (hT:qw P t T) (h:zH w g none t d cs) (h':zH w g none t e es) :
  ∃ u v,cs=[u]/\es=[v]/\(Op.equalIn (D+1) T u v).run P w' = .ok (ju t d e) w':=by
 cases t <;> simp [j7] at hk <;> simp only [qw] at hT
 ·obtain ⟨rfl,_⟩:=h;obtain ⟨rfl,_⟩:=h';refine ⟨_,_,rfl,rfl,?_⟩;rw [run_equalIn_int w' D T _ _ _ _ hT.1];congr 1
 ·cases h;cases h';exact ⟨_,_,rfl,rfl,run_equalIn_bool w' D T _ _ hT.1⟩
 ·obtain ⟨s,rfl,hs,_⟩:=h;obtain ⟨s',rfl,Hy,_⟩:=h';refine ⟨_,_,rfl,rfl,?_⟩;rw [run_equalIn_string w' D T _ _ hT.1,ByteArray.toList_eq,ByteArray.toList_eq];congr 1;rw [Rt];simp [ju,hs,Hy]
theorem Ju {P : Program} {w w' : World} {g : z8} (D : Nat) {xs ys : Array Value} : {t : Ty} -> {fs : List Field} -> {off : Nat} -> {d e : t.den} -> {cs es : List Value} -> yV t = true -> jo P t fs off -> (∀ f ∈ fs, f.name ≠ "_") ->
  zH w g none t d cs->zH w g none t e es->xs.toList.drop off=cs->ys.toList.drop off=es->(Op.eqFields (D+1) xs ys fs).run P w' = .ok (VC t d e) w'
 | .unit,[],off,d,e,cs,es,_,_,_,_,_,_,_=>by simp [Op.eqFields,VC]
 | .unit,_ :: _,off,d,e,cs,es,_,hf,_,_,_,_,_=>by simp [jo] at hf
 | .pair a b,[],off,d,e,cs,es,_,hf,_,_,_,_,_=>by simp [jo] at hf
 | .pair a b,f :: fs,off,(x,u),(y,v),cs,es,ht,hf,hn,h,h',hx,hy=>by
  simp only [yV,zA] at ht;simp only [jo] at hf;obtain ⟨c1,c2,rfl,h1,h2⟩:=h;obtain ⟨e1,e2,rfl,h3,h4⟩:=h';obtain ⟨p,q,rfl,rfl,zc⟩:=Lu (w':=w') D ht.1 hf.2.1 h1 h3;have qC:a.size=1:=by have:=h1.len;simpa using this.symm
  have gV:P.plainKey f.type=true:=by
   have:=JT ht.1 hf.2.1;unfold Program.plainKey;rw [this];have hk:=ht.1;cases a <;> simp [j7] at hk <;> rfl
  have z5n:xs[off]? = some p:=by
   have:(xs.toList.drop off)[0]? = some p:=by rw [hx];rfl
   rw [Z2c] at this;simpa using this
  have zlq:ys[off]? = some q:=by
   have:(ys.toList.drop off)[0]? = some q:=by rw [hy];rfl
   rw [Z2c] at this;simpa using this
  have hxt:xs.toList.drop (off+a.size)=c2:=by
   rw [qC,<-Nd,hx];rfl
  have hyt:ys.toList.drop (off+a.size)=e2:=by
   rw [qC,<-Nd,hy];rfl
  have ih:=Ju (w':=w') D ht.2 hf.2.2 (fun f hf=>hn f (by simp [hf])) h2 h4 hxt hyt
  have hn0 : f.name ≠ "_" := hn f (by simp)
  have p1:=run_part_plain w' gV z5n;have p2:=run_part_plain w' gV zlq;simp only [Op.eqFields,hf.1,hn0,ne_eq,not_false_eq_true,WQ,Sem.run_bind,p1,p2,zc,Result.andThen_ok];simp only [VC]
  cases ju a x y with
  | false=>simp
  | true=>simpa using ih
 | .int _,_,_,_,_,_,_,ht,_,_,_,_,_,_=>by simp [yV] at ht
 | .bool,_,_,_,_,_,_,ht,_,_,_,_,_,_=>by simp [yV] at ht
 | .str,_,_,_,_,_,_,ht,_,_,_,_,_,_=>by simp [yV] at ht
 | .arr _ _,_,_,_,_,_,_,_,hf,_,_,_,_,_=>by simp [jo] at hf
 | .sl _ _,_,_,_,_,_,_,ht,_,_,_,_,_,_=>by simp [yV] at ht
 | .ptr _,_,_,_,_,_,_,ht,_,_,_,_,_,_=>by simp [yV] at ht
 | .fn _ _,_,_,_,_,_,_,ht,_,_,_,_,_,_=>by simp [yV] at ht
 | .tree _,_,_,_,_,_,_,ht,_,_,_,_,_,_=>by simp [yV] at ht
section
variable {P:Program} {o:Oper} {a:Act} {w:World} {c:Ctx} {J:St} {g:z8} {k:St->Option R} {r:R} {base:Nat}
theorem Bq {w':World} (D:Nat) {xs ys:Array Value} {t:Ty} {E:TypeId} (hk:j7 t=true) (hE:qw P t E):(l m:List t.den)->(j:Nat)->l.length=m.length->
  (∀ (i:Nat) (h:i < l.length),zH w g none t (l.get ⟨i,h⟩) (qS xs.toList (j+i) 1))->(∀ (i:Nat) (h:i < m.length),zH w g none t (m.get ⟨i,h⟩) (qS ys.toList (j+i) 1))->
  (Op.eqItems (D+1) E 1 xs ys (List.range' j l.length)).run P w' = .ok (k7 (ju t) l m) w'
 | [],[],j,_,_,_=>by simp [Op.eqItems,k7]
 | x :: l,y :: m,j,hl,hx,hy=>by
  have ih:=Bq (w':=w') D hk hE l m (j+1) (by simpa using hl) (fun i h=>by
   have:=hx (i+1) (by simpa using h);rw [show j+1+i=j+(i+1) from by omega];exact this) (fun i h=>by
   have:=hy (i+1) (by simpa using h);rw [show j+1+i=j+(i+1) from by omega];exact this)
  have h1:=hx 0 (by simp);have h2:=hy 0 (by simp);simp only [S1] at h1 h2;obtain ⟨p,q,e1,e2,zc⟩:=Lu (w':=w') D hk hE h1 h2;have z5n:xs[j]? = some p:=by
   have:=Fo (fun l=>l[0]?) e1;simpa [qS] using this
  have zlq:ys[j]? = some q:=by
   have:=Fo (fun l=>l[0]?) e2;simpa [qS] using this
  have gV:P.plainKey E=true:=by
   have:=JT hk hE;unfold Program.plainKey;rw [this];cases t <;> simp [j7] at hk <;> rfl
  have p1:=run_part_plain w' gV z5n;have p2:=run_part_plain w' gV zlq;have pS:(Op.equalIn (D+1) E p q).run P w' = .ok (ju t x y) w':=zc;simp only [Vy,List.range'_succ,Op.eqItems,Z2j,Sem.run_bind,p1,p2,pS,Result.andThen_ok,k7]
  cases ju t x y with
  | false=>simp
  | true=>simpa using ih
 | [],_ :: _,_,hl,_,_=>by simp at hl
 | _ :: _,[],_,hl,_,_=>by simp at hl
theorem GA {T : TypeId} {ta tb : Ty} {d e : (Ty.pair ta tb).den} {cs es : List Value} (vJ : yV (.pair ta tb) = true) (hT : qw P (.pair ta tb) T) (hs : P.stoodInHeld T = false) (Zl : ∀ fs, P.underlying T = some (.struct fs) -> ∀ f ∈ fs.toList, f.name ≠ "_")
  (hr:zH w g none (.pair ta tb) d cs) (UZ:zH w g none (.pair ta tb) e es) (w':World):(Op.equal T (.agg cs.toArray) (.agg es.toArray)).run P w' = .ok (VC (.pair ta tb) d e) w':=by
 show (Op.equalIn (9999+1) T _ _).run P w'=_;simp only [qw] at hT;obtain ⟨⟨fs,hu,Eo⟩,_⟩:=hT;have hfo:P.fieldsOf T=fs:=by simp [Program.fieldsOf,hu]
 rw [run_equalIn_struct w' 9999 T _ _ (by rw [hfo];exact hu) hs,hfo];exact Ju 9998 vJ Eo (Zl fs hu) hr UZ (by simp) (by simp)
theorem Tz (kN:gn P c.tt) (heq:S5 P c.eqs) {op:BinOp} {t t':TypeId} {x y:Operand} (ho:o.op = .binOp op t x y t') (zy:zG c.ntmps g w a J) (h:yG c J base o k=some r):vd P o a w g J c k r:=by
 refine z2k kN (fun ax ay hx hy u YS h=>?_) ho zy h
 cases hb:(c.eqs t && yV u && ax.val && ay.val) with
 | false=>rw [hb] at h;simp at h
 | true=>
  rw [hb] at h;simp only [zB] at h;simp only [zA] at hb;obtain ⟨⟨⟨hq,vJ⟩,OO⟩,hvy⟩:=hb;have UY:=P1 vJ;obtain ⟨d,cs,h,hr,hev⟩:=YM zy UY OO hx h;obtain ⟨e,es,h,UZ,q1t⟩:=YM zy UY hvy hy h;have hT:=kN _ _ YS;obtain ⟨hs,hgd,Zl⟩:=heq _ hq;have ve:u.sk.isAgg=true:=by
   cases u <;> simp [yV] at vJ <;> first | rfl | (simp only [qw] at hT)
  have zc:∀ w',(Op.equal t (.agg cs.toArray) (.agg es.toArray)).run P w' = .ok (VC u d e) w':=fun w'=>by
   show (Op.equalIn (9999+1) t _ _).run P w'=_
   cases u with
   | pair ta tb=>
    simp only [qw] at hT;obtain ⟨⟨fs,hu,Eo⟩,_⟩:=hT;have hfo:P.fieldsOf t=fs:=by simp [Program.fieldsOf,hu]
    rw [run_equalIn_struct w' 9999 t _ _ (by rw [hfo];exact hu) hs,hfo]
    exact Ju 9998 vJ Eo (Zl fs hu) hr UZ (by simp) (by simp)
   | arr n ta=>
    simp only [yV] at vJ;simp only [qw] at hT;obtain ⟨⟨E,hu,hE⟩,_⟩:=hT;obtain ⟨i,z,hi,qC,_⟩:=hE.info.info;have Pm:ta.size=1:=by cases ta <;> simp [j7] at vJ <;> rfl
    have hce:P.cellsOf E=1:=by simp [Program.cellsOf,hi,qC,Pm]
    rw [run_equalIn_array w' 9999 _ _ hu hi,hce];obtain ⟨l1,l2,l3⟩:=hr;obtain ⟨m1,m2,m3⟩:=UZ;have:=Bq (P:=P) (w:=w) (g:=g) (w':=w') 9998 (xs:=cs.toArray) (ys:=es.toArray) vJ hE d e 0 (l1.trans m1.symm) (fun i h=>by
     have:=l3 i h;rw [Pm,Z2j] at this;simpa [stp] using this) (fun i h=>by
     have:=m3 i h;rw [Pm,Z2j] at this;simpa [stp] using this)
    rw [List.range_eq_range',<-l1]
    exact this
   | unit=>simp only [qw] at hT
   | int _=>simp [yV] at vJ
   | bool=>simp [yV] at vJ
   | tree _=>simp [yV] at vJ
   | str=>simp [yV] at vJ
   | sl _ _=>simp [yV] at vJ
   | ptr _=>simp [yV] at vJ
   | fn _ _=>simp [yV] at vJ
  have ex:a.eval x = .agg cs.toArray:=by rw [hev];simp [vN,ve]
  have ey:a.eval y = .agg es.toArray:=by rw [q1t];simp [vN,ve]
  refine gH (f:=fun v=>J.y6 c o.dst v k) (s:=binOp op t (.agg cs.toArray) (.agg es.toArray)) rfl ?_
   (fun w v hv=>by simp [execOp,ho,ex,ey,run_eqGuard_agg w op t x y _ _ hgd,hv])
  cases op <;> simp only [z6q] at h
  case eql=>exact Plain.bool h (fun w=>by simp only [binOp,Sem.run_bind,zc,Result.andThen_ok,Sem.run_pure])
  case neq=>exact Plain.bool h (fun w=>by simp only [binOp,Sem.run_bind,zc,Result.andThen_ok,Sem.run_pure])
  all_goals simp at h
end
end Go.Kz
namespace Go.Kz
open Go.MapKept
variable {R:Type}
theorem IQ {t:Ty} (hk:j7 t=true) {d e:t.den} (h:ju t d e=true):d=e:=by
 cases t <;> simp [j7] at hk <;> simpa [ju] using h
theorem z6s:{t:Ty}->yV t=true->(∀ n u,t≠.arr n u)->{d e:t.den}->VC t d e=true->d=e
 | .unit,_,_,_,_,_=>rfl
 | .pair a b,ht,_,(x,u),(y,v),h=>by
  simp only [yV,zA] at ht;simp only [VC,zA] at h;have h1:=IQ ht.1 h.1;subst h1
  cases b with
  | arr n t=>
   simp only [VC] at h;have:∀ (l m:List t.den),k7 (ju t) l m=true->l=m:=by
    intro l
    induction l with
    | nil=>intro m hm;cases m with
     | nil=>rfl
     | cons=>simp [k7] at hm
    | cons p l ih=>
     intro m hm
     cases m with
     | nil=>simp [k7] at hm
     | cons q m=>
      simp only [k7] at hm
      cases hc:ju t p q with
      | false=>rw [hc] at hm;simp at hm
      | true=>
       rw [hc] at hm;have:=IQ (by simpa [yV] using ht.2) hc;subst this;rw [ih m (by simpa using hm)]
   rw [this u v h.2]
  | pair c d=>rw [z6s ht.2 (by intro n u h;cases h) h.2]
  | unit=>rfl
  | int _=>simp [yV] at ht
  | bool=>simp [yV] at ht
  | str=>simp [yV] at ht
  | sl _ _=>simp [yV] at ht
  | ptr _=>simp [yV] at ht
  | fn _ _=>simp [yV] at ht
  | tree _=>simp [yV] at ht
 | .arr n t,_,hn,_,_,_=>absurd rfl (hn n t)
 | .int _,ht,_,_,_,_=>by simp [yV] at ht
 | .bool,ht,_,_,_,_=>by simp [yV] at ht
 | .str,ht,_,_,_,_=>by simp [yV] at ht
 | .sl _ _,ht,_,_,_,_=>by simp [yV] at ht
 | .ptr _,ht,_,_,_,_=>by simp [yV] at ht
 | .fn _ _,ht,_,_,_,_=>by simp [yV] at ht
 | .tree _,ht,_,_,_,_=>by simp [yV] at ht
theorem AO {P:Program} {w w':World} {g:z8} (em:Bool) (n:Nat) {xs:Array Value}:{t:Ty}->{fs:List Field}->{off:Nat}->{d:t.den}->{cs:List Value}->yV t=true->jo P t fs off->
  zH w g none t d cs->xs.toList.drop off=cs->∀ f∈fs,∃ a,(part f.type xs f.offset).run P w' = .ok a w'/\(Instr.checkKey em (n+1) f.type a).run P w' = .ok () w'
 | .unit,[],_,_,_,_,_,_,_=>by simp
 | .unit,_ :: _,_,_,_,_,hf,_,_=>by simp [jo] at hf
 | .pair _ _,[],_,_,_,_,hf,_,_=>by simp [jo] at hf
 | .pair a b,f :: fs,off,(x,u),cs,ht,hf,h,hx=>by
  simp only [yV,zA] at ht;simp only [jo] at hf;obtain ⟨c1,c2,rfl,h1,h2⟩:=h;have hk:=ht.1;have qC:a.size=1:=by cases a <;> simp [j7] at hk <;> rfl
  have hl:=h1.len;rw [qC] at hl;obtain ⟨p,rfl⟩:=Z2i.1 hl;have ve:a.sk.isAgg=false:=by cases a <;> simp [j7] at hk <;> rfl
  have hik:=ZA hk h1;simp only [vN,ve,Mu,Dh,Z2k] at hik;have qV:=JT hk hf.2.1;have gV:P.plainKey f.type=true:=by
   unfold Program.plainKey;rw [qV];cases a <;> simp [j7] at hk <;> rfl
  have z5n:xs[off]? = some p:=by
   have:(xs.toList.drop off)[0]? = some p:=by rw [hx];rfl
   rw [Z2c] at this;simpa using this
  have hxt:xs.toList.drop (off+a.size)=c2:=by
   rw [qC,<-Nd,hx];rfl
  intro f' KZ;rcases pK.1 KZ with rfl | KZ
  ·exact ⟨p,by rw [hf.1];exact run_part_plain w' gV z5n,run_checkKey qV hik em n⟩
  ·exact AO em n ht.2 hf.2.2 h2 hxt f' KZ
 | .int _,_,_,_,_,ht,_,_,_=>by simp [yV] at ht
 | .bool,_,_,_,_,ht,_,_,_=>by simp [yV] at ht
 | .str,_,_,_,_,ht,_,_,_=>by simp [yV] at ht
 | .arr _ _,_,_,_,_,_,hf,_,_=>by simp [jo] at hf
 | .sl _ _,_,_,_,_,ht,_,_,_=>by simp [yV] at ht
 | .ptr _,_,_,_,_,ht,_,_,_=>by simp [yV] at ht
 | .fn _ _,_,_,_,_,ht,_,_,_=>by simp [yV] at ht
 | .tree _,_,_,_,_,ht,_,_,_=>by simp [yV] at ht
theorem TY {w:World} {g:z8} {t:Ty} {d:t.den} {cs es:List Value} (hk:j7 t=true) (h:zH w g none t d cs) (h':zH w g none t d es):cs=es:=by
 cases t <;> simp [j7] at hk
 ·obtain ⟨rfl,_⟩:=h;obtain ⟨rfl,_⟩:=h';rfl
 ·cases h;cases h';rfl
 ·obtain ⟨s,rfl,hs,_⟩:=h;obtain ⟨s',rfl,Hy,_⟩:=h';obtain ⟨⟨l⟩⟩:=s;obtain ⟨⟨l'⟩⟩:=s';simp only at hs Hy;rw [hs,Hy]
theorem z3u {w:World} {g:z8} {t:Ty} {d:t.den} {cs:List Value} (hk:j7 t=true) (h:zH w g none t d cs):∀ v∈cs,∀ n,Instr.sameBits n v v=true:=by
 have hl:=h.len;have qC:t.size=1:=by cases t <;> simp [j7] at hk <;> rfl
 rw [qC] at hl;obtain ⟨p,rfl⟩:=Z2i.1 hl;have ve:t.sk.isAgg=false:=by cases t <;> simp [j7] at hk <;> rfl
 have hik:=ZA hk h;simp only [vN,ve,Mu,Dh,Z2k] at hik;intro v hv n;simp only [Mp] at hv;subst hv;exact sameBits_self hik n
theorem Bz {w:World} {g:z8}:{t:Ty}->{fs:List Field}->{P:Program}->{off:Nat}->{d:t.den}->{cs es:List Value}->yV t=true->jo P t fs off->zH w g none t d cs->zH w g none t d es->cs=es/\∀ v∈cs,∀ n,Instr.sameBits n v v=true
 | .unit,_,_,_,_,cs,es,_,_,h,h'=>by cases h;cases h';exact ⟨rfl,by simp⟩
 | .pair a b,[],_,_,_,_,_,_,hf,_,_=>by simp [jo] at hf
 | .pair a b,f :: fs,P,off,(x,u),cs,es,ht,hf,h,h'=>by
  simp only [yV,zA] at ht;simp only [jo] at hf;obtain ⟨c1,c2,rfl,h1,h2⟩:=h;obtain ⟨e1,e2,rfl,h3,h4⟩:=h';obtain ⟨i1,i2⟩:=Bz ht.2 hf.2.2 h2 h4;refine ⟨by rw [TY ht.1 h1 h3,i1],fun v hv n=>?_⟩;rcases U5.1 hv with hv | hv
  ·exact z3u ht.1 h1 v hv n
  ·exact i2 v hv n
 | .int _,_,_,_,_,_,_,ht,_,_,_=>by simp [yV] at ht
 | .bool,_,_,_,_,_,_,ht,_,_,_=>by simp [yV] at ht
 | .str,_,_,_,_,_,_,ht,_,_,_=>by simp [yV] at ht
 | .arr _ _,_,_,_,_,_,_,_,hf,_,_=>by simp [jo] at hf
 | .sl _ _,_,_,_,_,_,_,ht,_,_,_=>by simp [yV] at ht
 | .ptr _,_,_,_,_,_,_,ht,_,_,_=>by simp [yV] at ht
 | .fn _ _,_,_,_,_,_,_,ht,_,_,_=>by simp [yV] at ht
 | .tree _,_,_,_,_,_,_,ht,_,_,_=>by simp [yV] at ht
theorem Fa {P:Program} {w:World} {g:z8} {T:TypeId} {ta tb:Ty} {d:(Ty.pair ta tb).den} {cs:List Value} (vJ:yV (.pair ta tb)=true) (hT:qw P (.pair ta tb) T) (h:zH w g none (.pair ta tb) d cs) (em:Bool) (w':World) :
  (Instr.checkKey em 10000 T (.agg cs.toArray)).run P w' = .ok () w':=by
 simp only [qw] at hT;obtain ⟨⟨fs,hu,Eo⟩,_⟩:=hT;have each:=AO (w':=w') em 9998 (xs:=cs.toArray) vJ Eo h (by simp);show (Instr.checkKey em (9999+1) T (.agg cs.toArray)).run P w' = .ok () w';rw [Instr.checkKey];simp only [Sem.run_bind,run_underlying hu,Result.andThen_ok];rw [<-Array.forIn_toList];generalize fs.toList=L at each;clear Eo
 induction L with
 | nil=>simp
 | cons f L ih=>
  obtain ⟨a,p1,p2⟩:=each f (by simp);have ih:=ih (fun y hy=>each y (by simp [hy]))
  by_cases hn : f.name = "_"
  ·simp only [List.forIn_cons,Sem.run_bind,hn,ne_eq,not_true_eq_false,Dh,Result.andThen_ok,Sem.run_pure];exact ih
  ·simp only [List.forIn_cons,Sem.run_bind,hn,ne_eq,not_false_eq_true,WQ,Result.andThen_ok,p1,p2,Sem.run_pure];exact ih
def Ni (P:Program) (w:World) (g:z8) (kt vt:Ty) (KT:TypeId) (k:kt.den) (kv:Value) (es:List MapEntry) (m:List (kt.den×vt.den)):Prop:=
 ((∀ w',(Instr.findKey KT kv es).run P w' = .ok none w')/\wJ (Mq kt) m k=none/\
   ∀ d cs b,zH w g none vt d cs->jE w g kt vt (es++[⟨kv,vN vt.sk.isAgg cs,b⟩]) (gp (Mq kt) m k d))\/
  ∃ j e v cs,(∀ w',(Instr.findKey KT kv es).run P w' = .ok (some (j,e.val)) w')/\es[j]? = some e/\e.key=kv/\(∀ w',(Instr.keyThatStays kv kv).run P w' = .ok kv w')/\wJ (Mq kt) m k=some v/\zH w g none vt v cs/\e.val=vN vt.sk.isAgg cs/\
   ∀ d cs,zH w g none vt d cs->jE w g kt vt (es.modify j fun e=>{ e with key:=kv,val:=vN vt.sk.isAgg cs }) (gp (Mq kt) m k d)
theorem L3 {P : Program} {w : World} {g : z8} {ta tb vt : Ty} {KT : TypeId} (vJ : yV (.pair ta tb) = true) (hT : qw P (.pair ta tb) KT) (hs : P.stoodInHeld KT = false) (Zl : ∀ fs, P.underlying KT = some (.struct fs) -> ∀ f ∈ fs.toList, f.name ≠ "_")
  {k:(Ty.pair ta tb).den} {QS:List Value} (Z5:zH w g none (.pair ta tb) k QS):{es:List MapEntry}->{m:List ((Ty.pair ta tb).den×vt.den)}->jE w g (.pair ta tb) vt es m->
  ((∀ w' i,(Instr.findAsking KT (.agg QS.toArray) es i).run P w' = .ok none w')/\wJ (VC (.pair ta tb)) m k=none/\
   ∀ d cs b,zH w g none vt d cs->jE w g (.pair ta tb) vt (es++[⟨.agg QS.toArray,vN vt.sk.isAgg cs,b⟩]) (gp (VC (.pair ta tb)) m k d))\/
  ∃ j e v cs,(∀ w' i,(Instr.findAsking KT (.agg QS.toArray) es i).run P w' = .ok (some (i+j,e.val)) w')/\es[j]? = some e/\e.key = .agg QS.toArray/\wJ (VC (.pair ta tb)) m k=some v/\zH w g none vt v cs/\e.val=vN vt.sk.isAgg cs/\
   ∀ d cs,zH w g none vt d cs->jE w g (.pair ta tb) vt (es.modify j fun e=>{ e with key:=.agg QS.toArray,val:=vN vt.sk.isAgg cs }) (gp (VC (.pair ta tb)) m k d)
 | [],[],_=>.inl ⟨fun w' i=>by simp [Instr.findAsking],rfl,fun d cs b h=>⟨⟨QS,Z5,rfl⟩,⟨cs,h,rfl⟩,trivial⟩⟩
 | [],_ :: _,h=>h.elim
 | _ :: _,[],h=>h.elim
 | e :: es,(k',v') :: m,⟨⟨c1,h1,e1⟩,⟨c2,h2,e2⟩,h⟩=>by
  have e1:e.key = .agg c1.toArray:=e1;have hq:=GA vJ hT hs Zl Z5 h1;rw [<-e1] at hq
  cases hc:VC (.pair ta tb) k k' with
  | true=>
   right;rw [hc] at hq;have hkk:k=k':=z6s vJ (by intro n u h;cases h) hc;subst hkk;have hT':=hT;simp only [qw] at hT';obtain ⟨⟨fs,_,Eo⟩,_⟩:=hT';have uR:=(Bz vJ Eo Z5 h1).1;subst uR;refine ⟨0,e,v',c2,fun w' i=>by simp [Instr.findAsking,hq],rfl,e1,by simp [wJ,hc],h2,e2,fun d cs hd=>?_⟩;simp only [gp,hc,zB,List.modify_zero_cons]
   exact ⟨⟨QS,h1,rfl⟩,⟨cs,hd,rfl⟩,h⟩
  | false=>
   rw [hc] at hq;rcases L3 vJ hT hs Zl Z5 h with ⟨f1,f2,f3⟩ | ⟨j,e',v,cs,f1,f2,f3,f4,f5,f6,f7⟩
   ·left;refine ⟨fun w' i=>by simp [Instr.findAsking,hq,f1],by simp [wJ,hc,f2],fun d cs b hd=>?_⟩;simp only [gp,hc,zU,xA];exact ⟨⟨c1,h1,e1⟩,⟨c2,h2,e2⟩,f3 d cs b hd⟩
   ·right;refine ⟨j+1,e',v,cs,fun w' i=>by simp [Instr.findAsking,hq,f1,S0,Z39 1 j],by simpa using f2,f3,by simp [wJ,hc,f4],f5,f6,fun d cs hd=>?_⟩;simp only [gp,hc,zU,List.modify_succ_cons];exact ⟨⟨c1,h1,e1⟩,⟨c2,h2,e2⟩,f7 d cs hd⟩
theorem zc8 {t:Ty} (h:j7 t=true):Mq t=ju t:=by simp [Mq,h]
theorem z3v {a b:Ty}:Mq (.pair a b)=VC (.pair a b):=rfl
theorem z1h {P:Program} {w:World} {g:z8} {kt vt:Ty} {KT:TypeId} (hk:kTy kt=true) (hkT:z8c P kt KT) {k:kt.den} {QS:List Value} (Z5:zH w g none kt k QS) {es:List MapEntry} {m:List (kt.den×vt.den)} (hm:jE w g kt vt es m) :
  Ni P w g kt vt KT k (vN kt.sk.isAgg QS) es m/\∀ em w',(Instr.checkKey em 10000 KT (vN kt.sk.isAgg QS)).run P w' = .ok () w':=by
 rcases Dg hk with hk | ⟨a,b,rfl,vJ⟩
 ·have hkd:=JT hk hkT.1;have hik:=ZA hk Z5;refine ⟨?_,fun em w'=>run_checkKey (P:=P) (w:=w') hkd hik em 9999⟩;unfold Ni;rw [zc8 hk];rcases Ot hk Z5 hm with ⟨f1,f2,f3⟩ | ⟨j,e,v,cs,f1,f2,f3,f4,f5,f6,f7⟩
  ·exact .inl ⟨fun w'=>run_findKey (P:=P) (w:=w') hkd f1,f2,f3⟩
  ·exact .inr ⟨j,e,v,cs,fun w'=>run_findKey (P:=P) (w:=w') hkd f1,f2,f3,fun w'=>run_keyThatStays (P:=P) (w:=w') hik,f4,f5,f6,f7⟩
 ·obtain ⟨hT,h2⟩:=hkT;obtain ⟨hs,Zl⟩:=h2 rfl;refine ⟨?_,fun em w'=>Fa vJ hT Z5 em w'⟩;have hT':=hT;simp only [qw] at hT';obtain ⟨⟨fs,hu,Eo⟩,_⟩:=hT';have zgd:(match P.underlying KT with | some (.array _ _) | some (.struct _)=>true | _=>false)=true:=by rw [hu]
  have Qf:vN (Ty.pair a b).sk.isAgg QS = .agg QS.toArray:=rfl;unfold Ni;rw [Qf,z3v];rcases L3 vJ hT hs Zl Z5 hm with ⟨f1,f2,f3⟩ | ⟨j,e,v,cs,f1,f2,f3,f4,f5,f6,f7⟩
  ·exact .inl ⟨fun w'=>(run_findKey_eq w' zgd _ _).trans (f1 w' 0),f2,f3⟩
  ·refine .inr ⟨j,e,v,cs,fun w'=>(run_findKey_eq w' zgd _ _).trans (by have:=f1 w' 0;rw [Zf] at this;exact this),f2,f3,fun w'=>?_,f4,f5,f6,f7⟩;have hb:=(Bz vJ Eo Z5 Z5).2;have hsb:Instr.sameBits 10000 (.agg QS.toArray) (.agg QS.toArray)=true:=by
    show Instr.sameBits (9999+1) (.agg QS.toArray) (.agg QS.toArray)=true;simp only [Instr.sameBits,beq_self_eq_true,LM,BH];intro p hp;have h2:=List.of_mem_zip hp;have h3:p.1=p.2:=by
     obtain ⟨i,hi,rfl⟩:=Jo.1 hp;simp
    rw [<-h3];exact hb _ (by simpa using h2.1) 9999
   simp [Instr.keyThatStays,hsb]
section
variable {P:Program} {o:Oper} {a:Act} {w:World} {K:Act->World->Prop} {Q:Exit->Act->World->Prop} {c:Ctx} {J:St} {g:z8} {k:St->Option R} {r:R} {base:Nat} {mo:Bool}
theorem T7 (hmt:Nr P c.mt) {t:TypeId} {x i:Operand} {ok:Bool} (ho:o.op = .lookup t x i ok) (zy:zG c.ntmps g w a J) (h:yG c J base o k=some r):vd P o a w g J c k r:=by
 simp only [yG,ho] at h;split at h
 ·rename_i av bv hx hi;obtain ⟨id,kt,vt,m,rfl,N9,zp,hkt,hvt,h⟩:=Ga h;obtain ⟨KT,E,qV,hkT,hvT,iz,z,hiz,hz,hzv⟩:=hmt _ _ _ N9
  cases hb:bv.val with
  | false=>rw [hb] at h;simp at h
  | true=>
   rw [hb] at h;simp only [zB] at h;obtain ⟨key,QS,h,Z5,hev⟩:=YM zy (Aw hkt) hb hi h;obtain ⟨es,ck,hblk,zM,_,_,zC,_⟩:=zy.heap.z6 _ _ zp;have hv:=Gk (qF zy hx).1 zp;have qx:g.qj id < w.heap.size:=zy.heap.tags _ (by rw [zM];simp);obtain ⟨My,Er⟩:=z1h hkt hkT Z5 zC;split at h
   ·rename_i zd hzd;obtain ⟨i0,z0,hi0,hs0,_,Eb,Mg,_⟩:=hvT.info.info;have hzz:z0=z:=by rw [hiz] at hi0;cases hi0;rw [hz] at Eb;cases Eb;rfl
    subst hzz;have zgc:=wg (w:=w) (g:=g) (gQ hvt) hzd;rw [<-Mg] at zgc;have zqd:∀ w',(zeroValue E).run P w' = .ok z0 w':=fun w'=>by simp [zeroValue,typeInfo,hiz,hz]
    have found:∃ (vv:Value) (cs:List Value),zH w g none vt ((wJ (Mq kt) m key).getD zd) cs/\vv=vN vt.sk.isAgg cs/\
      ∀ w',jc w w'->(Instr.lookup t (.map (some (g.qj id))) (vN kt.sk.isAgg QS) ok).run P w' = .ok (if ok then .tuple #[vv,.bool (wJ (Mq kt) m key).isSome] else vv) w':=by
     rcases My with ⟨f1,f2,_⟩ | ⟨j,e,v,cs,f1,f2,f3,_,f4,f5,f6,_⟩
     ·refine ⟨z0,z0.cells.toList,by rw [f2];exact zgc,hzv,fun w' ve=>?_⟩;have Z6:w'.heap[g.qj id]? = some (.map es ck):=by rw [ve _ qx];exact hblk
      have hg:(getObj (g.qj id)).run P w' = .ok (.map es ck) w':=by simp [getObj,Sem.run,Z6]
      have Oe:=Er es.isEmpty w';have hfk:=f1 w';simp [Instr.lookup,run_underlying qV,hg,Oe,hfk,zqd,f2]
     ·refine ⟨e.val,cs,by rw [f4];exact f5,f6,fun w' ve=>?_⟩;have Z6:w'.heap[g.qj id]? = some (.map es ck):=by rw [ve _ qx];exact hblk
      have hg:(getObj (g.qj id)).run P w' = .ok (.map es ck) w':=by simp [getObj,Sem.run,Z6]
      have Oe:=Er es.isEmpty w';have hfk:=f1 w';simp [Instr.lookup,run_underlying qV,hg,Oe,hfk,f4]
    obtain ⟨vv,cs,hvr,pR,zc⟩:=found;have pS:∀ w',Nt o w w'->(execOp a.eval o).run P w' = .ok (.value (if ok then .tuple #[vv,.bool (wJ (Mq kt) m key).isSome] else vv)) w':=fun w' ve=>by
     have:=zc w' (ve (by simp [isP,ho]));simp only [execOp,ho,hv,hev];simp [this]
    cases ok with
    | true=>
     simp only [zB] at h;refine QD (pS) ?_ (fun m _=>by simp [z7.ids]) h;simp only [WQ,zr];refine ⟨[vv,.bool (wJ (Mq kt) m key).isSome],rfl,?_⟩;simp only [qk]
     exact ⟨vv,_,rfl,Bg hvt hvr pR,_,_,rfl,kZ _,rfl⟩
    | false=>
     simp only [zU] at h;exact QD pS (by simp only [Mu,Dh];exact Bg hvt hvr pR) (fun m _=>by simp [z7.ids]) h
   ·simp at h
 ·simp at h
theorem EU (hmt:Nr P c.mt) {t:TypeId} {x i y:Operand} (ho:o.op = .mapUpdate t x i y) (zy:zG c.ntmps g w a J) (h:yG c J base o k=some r) (hK:vu c.ntmps k r g w J base true K):o.wp P a w K Q:=by
 simp only [yG,ho] at h;split at h
 ·rename_i av bv vv hx hi hy W9;obtain ⟨id,kt,vt,m,rfl,N9,zp,hkt,hvt,h⟩:=Ga h;obtain ⟨KT,E,qV,hkT,hvT,_⟩:=hmt _ _ _ N9
  cases hb:(bv.val && vv.val) with
  | false=>rw [hb] at h;simp at h
  | true=>
   rw [hb] at h;simp only [zB] at h;simp only [zA] at hb;obtain ⟨key,QS,h,Z5,hev⟩:=YM zy (Aw hkt) hb.1 hi h;obtain ⟨d,dcs,h,hdr,q1r⟩:=YM zy hvt hb.2 hy h;obtain ⟨es,ck,hblk,zM,_,_,zC,zlg,Pl⟩:=zy.heap.z6 _ _ zp;have hv:=Gk (qF zy hx).1 zp;obtain ⟨My,Er⟩:=z1h hkt hkT Z5 zC;have hg:(getObj (g.qj id)).run P w = .ok (.map es ck) w:=by simp [getObj,Sem.run,hblk]
   have kz:∀ ob,(setObj (g.qj id) ob).run P w = .ok () { w with heap:=w.heap.setIfInBounds (g.qj id) ob }:=fun ob=>by simp [setObj,Sem.run,hblk]
   have Oe:=Er false w;have key:∃ es' ck',(Instr.mapUpdate t (.map (some (g.qj id))) (vN kt.sk.isAgg QS) (vN vt.sk.isAgg dcs)).run P w = .ok () { w with heap:=w.heap.setIfInBounds (g.qj id) (.map es' ck') }/\jE w g kt vt es'.toList (gp (Mq kt) m key d)/\ck'=es'.size/\JV es'.toList:=by
    rcases My with ⟨f1,f2,f3⟩ | ⟨j,e,v,cs,f1,f2,f3,hks,f4,f5,f6,f7⟩
    ·have hfk:=f1 w;refine ⟨es.push ⟨vN kt.sk.isAgg QS,vN vt.sk.isAgg dcs,ck⟩,ck+1,?_,?_,by simp [zlg],?_⟩
     ·simp [Instr.mapUpdate,run_underlying qV,hg,Oe,hfk,kz]
     ·rw [Array.toList_push];exact f3 d dcs ck hdr
     ·unfold JV at Pl ⊢;rw [Array.toList_push,Z2e,Pl,VH,zlg];simp [Tf]
    ·have hfk:=f1 w;have hks:=hks w;have hej:es[j]? = some e:=by rw [<-Z2b];exact f2
     refine ⟨es.modify j fun e=>{ e with key:=vN kt.sk.isAgg QS,val:=vN vt.sk.isAgg dcs },ck,?_,?_,by simp [zlg],?_⟩
     ·simp [Instr.mapUpdate,run_underlying qV,hg,Oe,hfk,kz,hej,f3,hks]
     ·rw [Array.toList_modify];exact f7 d dcs hdr
     ·unfold JV at Pl ⊢;rw [Array.toList_modify,List.length_modify,<-Pl];apply Z3v;intro i;simp only [Z3e,List.getElem?_modify];split
      ·cases es.toList[i]? <;> rfl
      ·simp
   obtain ⟨es',ck',zc,z4m,q26,zqu⟩:=key;obtain ⟨qT,ql,vT⟩:=z3h (ck:=ck') zy zp z4m q26 zqu;refine wp_skip W9 ?_ qT ql (fun n _ hn=>vT n hn) rfl h (fun h=>Bool.noConfusion h) hK;simp only [execOp,ho,hv,hev,q1r];simp [zc]
 ·simp at h
end
end Go.Kz
namespace Go.Kz
open Go.ChangeMaps (setBlock)
open Go.MapKept
variable {R:Type}
theorem Na {I:Type} {f:I->Option R} {l:List I} {r:R} (h:Dc f l=some r):∀ a∈l,f a=some r:=by
 cases l with
 | nil=>simp
 | cons a l=>
  simp only [Dc] at h;split at h
  ·rename_i hall;intro b hb;rcases pK.1 hb with rfl | hb
   ·exact h
   ·rw [hall b hb];exact h
  ·simp at h
theorem A3 {n:Nat} {i:Int}:i∈upto n↔0<=i/\i < n:=by
 induction n with
 | zero=>simp [upto]
 | succ n ih=>simp only [upto,U5,ih,Mp];omega
theorem jE.get {w:World} {g:z8} {kt vt:Ty}:{es:List MapEntry}->{m:List (kt.den×vt.den)}->jE w g kt vt es m->{i:Nat}->{e:MapEntry}->es[i]? = some e->
  ∃ k v,m[i]? = some (k,v)/\(∃ cs,zH w g none kt k cs/\e.key=vN kt.sk.isAgg cs)/\∃ cs,zH w g none vt v cs/\e.val=vN vt.sk.isAgg cs
 | [],_,_,i,e,he=>by simp at he
 | e0 :: es,(k,v) :: m,⟨h1,h2,h⟩,i,e,he=>by
  cases i with
  | zero=>
   simp only [Z55,zI] at he;subst he
   exact ⟨k,v,rfl,h1,h2⟩
  | succ i=>
   obtain ⟨k',v',h3,h4⟩:=h.get (i:=i) (e:=e) (by simpa using he)
   exact ⟨k',v',by simpa using h3,h4⟩
 | _ :: _,[],h,_,_,_=>h.elim
theorem JV.at {es:List MapEntry} (h:JV es) {i:Nat} {e:MapEntry} (he:es[i]? = some e):e.born=i:=by
 unfold JV at h;have h1:(es.map (·.born))[i]? = some e.born:=by simp [he]
 have hi:i < es.length:=(Z47.1 he).1;rw [h,List.getElem?_range hi] at h1;simpa using h1.symm
section
variable {P:Program} {o:Oper} {a:Act} {w:World} {K:Act->World->Prop} {Q:Exit->Act->World->Prop} {c:Ctx} {J:St} {g:z8} {k:St->Option R} {r:R} {base:Nat} {mo:Bool}
theorem z2d (hmt:Nr P c.mt) {t:TypeId} {x:Operand} {av:z7} (ho:o.op = .range t x) (zy:zG c.ntmps g w a J) (hf:zJ g J base) (hx:ev J x=some av) (h:MS c J base o.dst t av k=some r)
  (hK:vu c.ntmps k r g w J base mo K):o.wp P a w K Q:=by
 unfold MS at h;split at h
 ·rename_i id mt N9;split at h
  ·rename_i kt vt m zp;obtain ⟨KT,E,qV,_⟩:=hmt _ _ _ N9;have hv:=Gk (qF zy hx).1 zp;obtain ⟨es,ck,hblk,zM,_,_,zC,Oe,Pl⟩:=zy.heap.z6 _ _ zp;have hl:=zC.length;have je:id≠base:=fun he=>by subst he;have:=hf.z6;rw [zp] at this;simp at this
   have zc:=run_range_map (P:=P) w t KT E (g.qj id) es ck qV hblk;have hn:ck=m.length:=by rw [Oe,<-hl,vf]
   refine VI (ob:=.mapIter (some (g.qj id)) ck #[] ck) (obj:=.cell (uV id (m.length:Int) (upto m.length) (-1))) (tg:=.box base) (v:=undef) (v':=.pointer (some ⟨w.heap.size,0,none⟩)) zy hf (.inl rfl) ?_ rfl ?_ ?_ ?_ h hK
   ·simp only [execOp,ho,hv];simp [zc]
   ·refine (zo.iter rfl).2 ⟨id,m.length,g.qj id,#[],-1,?_,?_,by simp [qN],fun c hc=>by omega,fun Aj X9 m' hm=>?_⟩
    ·congr 1;exact (List.filter_eq_self.2 (by simp)).symm
    ·have hb:(qN g w.heap.size base (.box base) undef).qj base=w.heap.size:=by simp [qN]
     rw [hb,hn];exact heap_alloc_new w _
    ·simp [qN,je]
   ·intro y hy m' _ wk;simp only [Obj.cell.injEq] at hy;subst hy;simp only [uV,z7.ids,Di,Mp];intro he;subst he;have:=wk.z6;rw [zp] at this;simp at this
   ·simp only [zr];refine ⟨_,⟨_,rfl,rfl,fun y _=>?_⟩,rfl⟩;refine ⟨0,y.sk,by simp [Sk.off],?_⟩;simp [qN]
  ·simp at h
 ·simp at h
set_option maxHeartbeats 2000000 in
theorem zbk {x:Operand} {av:z7} (ho:o.op = .next x false) (zy:zG c.ntmps g w a J) (hx:ev J x=some av) (h:z30 c J o.dst av k=some r) (hK:vu c.ntmps k r g w J base true K):o.wp P a w K Q:=by
 unfold z30 at h;split at h
 ·rename_i id;split at h
  ·rename_i Gx n left curx zp;split at h
   ·rename_i kt vt m hmo;obtain ⟨hn,h⟩:=qm h;have hn:=BI hn;obtain ⟨ex,ef⟩:=qF zy hx;simp only [zr] at ex;obtain ⟨cs,⟨v,rfl,_,pR⟩,hv⟩:=ex;obtain ⟨off,s,jZ,rfl⟩:=pR _ zp;simp only [Sk.off,zI,gP] at jZ;obtain ⟨rfl,_⟩:=jZ;have hv:a.eval x = .pointer (some ⟨g.qj id,0,none⟩):=hv;obtain ⟨zwt,n',bm,seen,q3e,hit,hblk,zM,_,hbm⟩:=(zo.iter rfl).1 (zy.heap.z6 _ _ zp);simp only [uV,z7.jV.injEq,z7.pr.injEq,z7.qz.injEq,z7.data.injEq,heq_eq_eq,Vq,U6] at hit;obtain ⟨rfl,rfl,rfl,rfl⟩:=hit;obtain ⟨es,ck,DQ,zrk,Z5,hvr,zC,Oe,Pl⟩:=zy.heap.z6 _ _ hmo;have hl:=zC.length;rw [vf] at hl;have TX:n'=es.size:=by have:((n':Nat):Int)=((m.length:Nat):Int):=hn;omega
    rw [<-hbm _ _ _ hmo] at DQ;have hold:∀ x∈es.toList,x.born < n':=by
     intro x hx;obtain ⟨p,hp,rfl⟩:=Jo.1 hx;rw [Pl.at (wP hp)];rw [vf] at hp;omega
    have inL:∀ e,e∈(leftOf es seen).toList->es.toList[e.born]? = some e/\(e.born:Int)∈(upto n').filter (fun i=>!seen.contains i.toNat):=by
     intro e he;obtain ⟨h1,h2⟩:=mem_left he;obtain ⟨p,hp,rfl⟩:=Jo.1 h1;have hb:=Pl.at (wP hp);refine ⟨by rw [hb];exact wP hp,Z56.2 ⟨A3.2 ⟨by omega,by have:=hold _ h1;omega⟩,?_⟩⟩;simp only [LL,h2,Z2t]
    rcases run_next_at (P:=P) w o.type (g.qj id) bm n' n' seen es ck hblk DQ hold (yN _) with ⟨hz,zc⟩ | ⟨e,he,w1,hw1,zc⟩
    ·have z4t:(upto n').filter (fun i=>!seen.contains i.toNat)=[]:=by
      rw [Z57];intro j hj;obtain ⟨h1,h2⟩:=Z56.1 hj;rw [A3] at h1;have hp:j.toNat < es.toList.length:=by rw [vf];omega
      have hb:=Pl.at (wP hp);have h0:leftOf es seen = #[]:=Z4v hz;have hm:es.toList[j.toNat]∈leftOf es seen:=by
       unfold leftOf;rw [Array.mem_filter];refine ⟨Array.mem_toList_iff.1 (ku hp),?_⟩;rw [hb];exact h2
      rw [h0] at hm;simp at hm
     have h':YB ((upto n').filter (fun i=>!seen.contains i.toNat)) (J.y6 c o.dst (.jV (.pr (.data .bool false) .un)) k) _=some r:=h;rw [z4t] at h';simp only [YB] at h';refine jL (g:=g) (g':=g) (J:=J) (J':=J) (base:=base) (v:=.tuple #[.bool false]) (w':=w) ?_ zy (Ext.refl w g) (fun m _ wk=>⟨wk,by simp [z7.ids]⟩) rfl ?_ h' (fun h=>Bool.noConfusion h) hK
     ·simp only [execOp,ho,hv];simp [zc]
     ·simp only [zr];refine ⟨[.bool false],rfl,?_⟩;simp only [qk];exact ⟨_,_,rfl,kZ _,rfl⟩
    ·obtain ⟨hei,js⟩:=inL e he;have hf:∀ (L:List Int) (D:Option R) (F:Int->List Int->Option R),(e.born:Int)∈L->YB L D F=some r->F e.born (L.filter fun i=>!decide (i=(e.born:Int)))=some r:=by
      intro L D F hL UQ
      cases L with
      | nil=>simp at hL
      | cons j l=>
       simp only [YB] at UQ;exact Na UQ _ hL
     have h2:=hf _ _ _ js h;obtain ⟨kk,vv,hm,⟨QS,z52,z56⟩,vcs,z4e,hval⟩:=zC.get hei;have q1i:idx m (e.born:Int)=some (kk,vv):=hm;rw [q1i] at h2;simp only [zP] at h2;have h3:(J.setObj id (.cell (uV Gx (n':Int) (((upto n').filter (fun i=>!seen.contains i.toNat)).filter (fun i=>!decide (i=(e.born:Int)))) (e.born:Int)))).y6 c o.dst (.jV (.pr (.data .bool true) (.pr (.data kt kk) (.pr (.data vt vv) .un)))) k=some r:=h2;clear h2 h hf;have pT:((upto n').filter (fun i=>!seen.contains i.toNat)).filter (fun i=>!decide (i=(e.born:Int)))=(upto n').filter (fun i=>!(seen.push e.born).contains i.toNat):=by
      rw [List.filter_filter];refine List.filter_congr fun i hi=>?_
      rw [A3] at hi;by_cases hie:i=(e.born:Int)
      ·subst hie;simp
      ·have:i.toNat≠e.born:=by omega
       simp [hie,this]
     have yP:zG c.ntmps g w1 a J:=by
      rcases hw1 with rfl | rfl
      ·exact zy
      ·exact zG.W7 (w:=w) (w':=w.drew) rfl zy
     have yU:Ext w g w1 g:=by
      rcases hw1 with rfl | rfl
      ·exact Ext.refl _ g
      ·exact Ext.W7 (w:=w) (w':=w.drew) rfl rfl rfl rfl (Z1s _)
     have kD:w1.heap=w.heap:=by rcases hw1 with rfl | rfl <;> rfl
     have zsk:w1.heap[g.qj id]? = some (.mapIter (some bm) n' seen n'):=by rw [kD];exact hblk
     have hcn:ck=n':=by rw [Oe,TX]
     obtain ⟨k1,k2⟩:=heap_set (o':=.mapIter (some bm) n' (seen.push e.born) ck) zsk;let w2:World:=setBlock w1 (g.qj id) (.mapIter (some bm) n' (seen.push e.born) ck);have qu:zT w1 g w2 g:=⟨fun b hb=>⟨hb,k2 b (fun he=>by subst he;rw [zM] at hb;simp at hb)⟩⟩;have ID:∀ m',zJ g J m'->m'≠Gx:=fun m' wk he=>by subst he;have:=wk.z6;rw [hmo] at this;simp at this
     have q1j:∀ m',zJ g J m'->m'≠id:=fun m' wk he=>by subst he;have:=wk.z6;rw [zp] at this;simp at this
     have Zl:Gx≠id:=fun he=>by subst he;rw [hmo] at zp;simp at zp
     refine jL (g:=g) (g':=g) (J:=J) (base:=base) (J':=J.setObj id (.cell (uV Gx (n':Int) (((upto n').filter (fun i=>!seen.contains i.toNat)).filter (fun i=>!decide (i=(e.born:Int)))) (e.born:Int)))) (v:=.tuple #[.bool true,e.key,e.val]) (w':=w2) ?_ ?_ (yU.trans ?_) (fun m' _ wk=>⟨?_,by simp [z7.ids]⟩) rfl ?_ h3 (fun h=>Bool.noConfusion h) hK
     ·simp only [execOp,ho,hv];simp [zc,w2]
     ·refine yP.pE qu (fun i hi=>?_) (.inl (.inr (.inr (.inl ⟨_,_,zp,rfl,rfl,rfl⟩)))) ?_ (fun b hb=>?_)
      ·refine ⟨⟨fun q=>rfl,fun q b hb=>⟨hb,k2 b (fun he=>?_)⟩⟩,rfl,fun hb=>⟨hb,k2 _ (fun he=>?_)⟩⟩
       ·subst he;rw [zM] at hb;simp at hb
       ·rw [he,zM] at hb;simp only [Tag.box.injEq] at hb;exact hi hb.symm
      ·have h5:w2.heap[g.qj id]? = some (.mapIter (some bm) n' (seen.push e.born) ck):=k1;rw [hcn] at h5;have h6:∀ c:Nat,(e.born:Int)=(c:Int)->(seen.push e.born).back? = some c:=by
        intro c hc;have:c=e.born:=by omega
        subst this;simp
       refine (zo.iter rfl).2 ⟨Gx,n',bm,seen.push e.born,(e.born:Int),by rw [pT],h5,zM,h6,fun Aj X9 m' AK=>?_⟩;simp only [St.setObj] at AK;rw [zi _ _ Zl] at AK;exact hbm _ _ _ AK
      ·have:=yP.heap.tags b hb;simpa [w2,setBlock] using this
     ·refine ⟨rfl,rfl,rfl,yN _,by simp [w2,setBlock],fun b _ hb=>⟨k2 b (fun he=>?_),rfl⟩⟩;subst he;rw [zM] at hb;simp at hb
     ·refine ⟨?_,wk.row,wk.box,wk.zk,fun i av hi=>?_⟩
      ·simp only [St.setObj];rw [zi _ _ (q1j m' wk)];exact wk.z6
      ·by_cases Mk:i=id
       ·subst Mk;simp only [St.setObj,zR,zI,Obj.cell.injEq] at hi;subst hi;simpa [uV,z7.ids] using ID m' wk
       ·simp only [St.setObj] at hi;rw [zi _ _ Mk] at hi;exact wk.cells i av hi
     ·have Pn:zT w g w2 g:=⟨fun b hb=>⟨hb,((qu.qj b hb).2).trans (by rw [kD])⟩⟩;simp only [zr];refine ⟨[.bool true,e.key,e.val],rfl,?_⟩;simp only [qk];exact ⟨_,_,rfl,kZ _,_,_,rfl,⟨QS,⟨Z5,z52.kept Pn⟩,z56⟩,_,_,rfl,⟨vcs,⟨hvr,z4e.kept Pn⟩,hval⟩,rfl⟩
   ·simp at h
  ·simp at h
 ·simp at h
theorem z2g {x:Operand} {av:z7} (ho:o.op = .entry x) (zy:zG c.ntmps g w a J) (hx:ev J x=some av) (h:NK c J o.dst av k=some r) (hK:vu c.ntmps k r g w J base true K):o.wp P a w K Q:=by
 unfold NK at h;split at h
 ·rename_i id;split at h
  ·rename_i Gx n left cur zp;split at h
   ·rename_i kt vt m hmo;have hn:=BI (qm h).1;replace h:=(qm h).2;obtain ⟨ex,ef⟩:=qF zy hx;simp only [zr] at ex;obtain ⟨cs,⟨v,rfl,_,pR⟩,hv⟩:=ex;obtain ⟨off,s,jZ,rfl⟩:=pR _ zp;simp only [Sk.off,zI,gP] at jZ;obtain ⟨rfl,_⟩:=jZ;have hv:a.eval x = .pointer (some ⟨g.qj id,0,none⟩):=hv;obtain ⟨zwt,n',bm,seen,q3e,hit,hblk,zM,q22,hbm⟩:=(zo.iter rfl).1 (zy.heap.z6 _ _ zp);simp only [uV,z7.jV.injEq,z7.pr.injEq,z7.qz.injEq,z7.data.injEq,heq_eq_eq,Vq,U6] at hit;obtain ⟨rfl,rfl,rfl,rfl⟩:=hit;obtain ⟨es,ck,DQ,zrk,Z5,hvr,zC,Oe,Pl⟩:=zy.heap.z6 _ _ hmo;have hl:=zC.length;rw [vf] at hl;have TX:n'=es.size:=by have:((n':Nat):Int)=((m.length:Nat):Int):=hn;omega
    rw [<-hbm _ _ _ hmo] at DQ;obtain ⟨e,he,h⟩:=WB.1 h;obtain ⟨h0,him,rfl,qx⟩:=ji he;have hci:cur=((cur.toNat:Nat):Int):=(Z2v h0).symm;have Of:=q22 cur.toNat hci;have hp:cur.toNat < es.toList.length:=by rw [vf];omega
    have Cv:=wP hp;obtain ⟨kk,vv,hm,⟨QS,z52,z56⟩,vcs,z4e,hval⟩:=zC.get Cv;have hb:=Pl.at Cv;have hml:m.get ⟨cur.toNat,him⟩=(kk,vv):=by
     have:=wP him;rw [this] at hm;simpa using hm
    rw [hml] at h;have hnd:(es.toList.map (·.born)).Nodup:=by
     have h2:es.toList.map (·.born)=List.range es.toList.length:=Pl;rw [h2];exact List.nodup_range
    have hf:es.find? (fun y=>y.born == cur.toNat)=some es.toList[cur.toNat]:=by
     have:=find_born es.toList[cur.toNat] es.toList hnd (ku hp);rw [hb] at this;rw [<-Array.find?_toList];exact this
    have zc:(Instr.entry (.pointer (some ⟨g.qj id,0,none⟩))).run P w = .ok (.tuple #[es.toList[cur.toNat].key,es.toList[cur.toNat].val]) w:=by
     have hcn:ck=n':=by rw [Oe,TX]
     rw [hcn] at DQ;simp only [Instr.entry,getObj,Sem.run_bind,Sem.run,hblk,DQ,Result.andThen,Of,bne_self_eq_false,Mu,Dh,hf];rfl
    refine jL (g:=g) (g':=g) (J:=J) (J':=J) (base:=base) (v:=.tuple #[es.toList[cur.toNat].key,es.toList[cur.toNat].val]) (w':=w) ?_ zy (Ext.refl w g) (fun m _ wk=>⟨wk,by simp [z7.ids]⟩) rfl ?_ h (fun h=>Bool.noConfusion h) hK
    ·simp only [execOp,ho,hv];simp [zc]
    ·simp only [zr];refine ⟨[es.toList[cur.toNat].key,es.toList[cur.toNat].val],rfl,?_⟩;simp only [qk];exact ⟨_,_,rfl,⟨QS,⟨Z5,z52⟩,z56⟩,_,_,rfl,⟨vcs,⟨hvr,z4e⟩,hval⟩,rfl⟩
   ·simp at h
  ·simp at h
 ·simp at h
end
end Go.Kz
namespace Go.Kz
variable {R:Type}
section
variable {P:Program} {o:Oper} {a:Act} {w:World} {c:Ctx} {J:St} {g:z8} {k:St->Option R} {r:R} {base:Nat}
theorem Sr {T:TypeId} {u:Ty} (hT:qw P u T) (cs:List Value) (off:Nat) (hs:off+u.size<=cs.length) (w:World) :
  (part T cs.toArray off).run P w = .ok (vN u.sk.isAgg (qS cs off u.size)) w:=by
 have ve:=Ce hT w;unfold part;rw [Sem.run_bind,ve]
 cases hu:u.sk.isAgg with
 | true=>
  have qC:=hT.info.sizeOf w;simp only [Result.andThen_ok,WQ,Sem.run_bind,qC,Sem.run_pure];congr 1;simp only [vN,WQ,Value.agg.injEq];apply Fm.1
  simp [qS,List.extract]
 | false=>
  have h1:u.size=1:=by cases u <;> simp [Ty.sk,Sk.isAgg] at hu <;> simp [Ty.size]
  have qx:off < cs.length:=by omega
  have hg:cs.toArray[off]? = some cs[off]:=by simp [qx]
  simp only [Result.andThen_ok,Mu,Dh,hg,Sem.run_pure];congr 1;simp only [vN,Mu,Dh,qS,h1];rw [Z2q qx];rfl
theorem T8 (kN:gn P c.tt) {t:TypeId} {x i:Operand} (ho:o.op = .index t x i) (zy:zG c.ntmps g w a J) (h:yG c J base o k=some r):vd P o a w g J c k r:=by
 simp only [yG,ho] at h;split at h
 ·rename_i n t' l ki j m u hx hi hu;have hT:=kN _ _ hu;obtain ⟨ex,ef⟩:=qF zy hx;obtain ⟨vi,_⟩:=jT (qF zy hi).1
  cases hs:(Nat.beq n m && t'.sk.same u.sk) with
  | false=>rw [hs] at h;simp at h
  | true=>
   rw [hs] at h;simp only [zA] at hs;have Zl:n=m:=zE hs.1;subst Zl;have wG:=Sk.qg hs.2;have qC:u.size=t'.size:=by rw [<-Ty.zQ,<-Ty.zQ,wG]
   simp only [zB,WB] at h;obtain ⟨d,hd,h⟩:=h;obtain ⟨h0,wT,rfl,qx⟩:=ji hd;simp only [qw] at hT;obtain ⟨⟨E,qV,hE⟩,_⟩:=hT;simp only [zr] at ex;obtain ⟨cs,⟨qu,hl,gE,js⟩,hv⟩:=ex;have VP:j.toNat < n:=by rw [<-hl];exact wT
   have hmul:(j.toNat+1)*t'.size<=n*t'.size:=kn _ VP;rw [wB] at hmul;have jd:a.eval x = .agg cs.toArray:=by rw [hv];rfl
   have q1f:(j:Int) < (n:Int):=by rw [<-hl];exact qx
   refine QD (v:=vN u.sk.isAgg (qS cs (j.toNat*t'.size) u.size)) ?_ ?_ (fun m _=>by simp [z7.ids]) h
   ·intro w' _;have hsE:=hE.info.sizeOf w';have hp:=Sr hE cs (j.toNat*u.size) (by rw [qC];omega) w';rw [qC] at hp hsE;simp [execOp,ho,jd,vi,Instr.index,asIntOf,run_underlying qV,h0,q1f,hsE,hp,qC]
   ·simp only [zr];refine ⟨qS cs (j.toNat*t'.size) t'.size,⟨by simpa [Ty.zW] using qu,js _ wT⟩,by rw [qC,<-wG];rfl⟩
 ·rename_i l ki j hx hi hu;have hT:=kN _ _ hu;simp only [qw] at hT;obtain ⟨vi,_⟩:=jT (qF zy hi).1;obtain ⟨s,hv,hl,hs⟩:=Gw (l:=l) (qF zy hx).1;subst hl;simp only [WB] at h;obtain ⟨d,hd,h⟩:=h;obtain ⟨h0,wT,rfl,qx⟩:=ji hd;rw [vf] at wT;have qC:s.size=s.data.size:=rfl;have W5:j.toNat < s.size:=by omega
  refine QD (v:=.int .u8 (s[j.toNat]'W5).toNat) ?_ ?_ (fun m _=>by simp [z7.ids]) h
  ·intro w' _;have hg:s[j.toNat]? = some (s[j.toNat]'W5):=getElem?_pos s j.toNat W5;simp [execOp,ho,hv,vi,Instr.index,asIntOf,run_underlying hT.1,h0,hg]
  ·have e:(s[j.toNat]'W5)=s.data.toList.get ⟨j.toNat,by rw [vf];exact wT⟩:=by rw [LN,Z4z];rfl
   rw [<-e];refine vB ⟨by simp [IntKind.min,IntKind.signed],?_⟩;have:=(s[j.toNat]'W5).toNat_lt;simp only [IntKind.max,IntKind.bits,IntKind.signed];simp;omega
 ·simp at h
end
end Go.Kz
namespace Go.Kz
theorem HO {J:St} {id:Nat} {o:Obj} (h:J.z6 id=some o):J.setObj id o=J:=by
 cases J;simp only [St.setObj,St.mk.injEq,Vq];simp only at h;refine ⟨?_,trivial⟩;funext i;by_cases hi:i=id
 ·subst hi;rw [zR,h]
 ·rw [zi _ _ hi]
theorem Sl {t u:Ty} (h:(Ty.same t u).isSome=true):t=u:=by
 cases hs:Ty.same t u with
 | none=>rw [hs] at h;simp at h
 | some e=>exact e.down
end Go.Kz
namespace Go.Kz
variable {R:Type}
theorem Kt {I:Type} {l m:List I} {a b:Int} (h0:0<=a) (Jq:a<=b) (QH:b<=(l.length:Int)):a.toNat+Nat.min m.length (b-a).toNat<=l.length:=by
 have:=Nat.min_le_right m.length (b-a).toNat;have e:Nat.min m.length (b-a).toNat<=(b-a).toNat:=this;omega
theorem QY {I:Type} (l m:List I) {a b:Int} (h0:0<=a) (Jq:a<=b) (QH:b<=(l.length:Int)):(gd l a b m).length=l.length:=by
 have h1:=Kt (m:=m) h0 Jq QH;have h2:Nat.min m.length (b-a).toNat<=m.length:=Z4k ..;simp only [gd,VH,P9,Hw];generalize Nat.min m.length (b-a).toNat=n at *;omega
theorem TO {I:Type} (l m:List I) {a b:Int} (h0:0<=a) (Jq:a<=b) (QH:b<=(l.length:Int)) (i:Nat) (h:i < (gd l a b m).length) :
  (∃ j,∃ hj:j < m.length,i=a.toNat+j/\j < Nat.min m.length (b-a).toNat/\(gd l a b m).get ⟨i,h⟩=m.get ⟨j,hj⟩)\/
  (∃ hl:i < l.length,(i < a.toNat\/a.toNat+Nat.min m.length (b-a).toNat<=i)/\(gd l a b m).get ⟨i,h⟩=l.get ⟨i,hl⟩):=by
 have hlen:=QY l m h0 Jq QH;have h1:=Kt (m:=m) h0 Jq QH;have h2:Nat.min m.length (b-a).toNat<=m.length:=Z4k ..;have Hv:i < l.length:=by rw [<-hlen];exact h
 have e:(gd l a b m)[i]? = if i < a.toNat then l[i]? else if i < a.toNat+Nat.min m.length (b-a).toNat then m[i-a.toNat]? else l[i]? := by
  simp only [gd];generalize Nat.min m.length (b-a).toNat=n at *;by_cases c1:i < a.toNat
  ·rw [yQ c1,Z3w (by simp;omega),Z3w (by simp;omega),Z2y,yQ c1]
  ·rw [qZ c1];by_cases c2:i < a.toNat+n
   ·rw [yQ c2,Z3w (by simp;omega),Z5o (by simp;omega),P9,Z2y];rw [yQ (by omega)];congr 1;omega
   ·rw [qZ c2,Z5o (by simp;omega),Z2c];congr 1;simp only [VH,P9];omega
 have e2:(gd l a b m)[i]? = some ((gd l a b m).get ⟨i,h⟩):=by rw [wP h];rfl
 rw [e2] at e;generalize Nat.min m.length (b-a).toNat=n at *;by_cases c1:i < a.toNat
 ·rw [yQ c1,wP Hv] at e;exact .inr ⟨Hv,.inl c1,by simpa using e⟩
 ·rw [qZ c1] at e;by_cases c2:i < a.toNat+n
  ·have hj:i-a.toNat < m.length:=by omega
   rw [yQ c2,wP hj] at e;exact .inl ⟨i-a.toNat,hj,by omega,by omega,by simpa using e⟩
  ·rw [qZ c2,wP Hv] at e;exact .inr ⟨Hv,.inr (by omega),by simpa using e⟩
theorem NU {I:Type} (l m:List I) {a b:Int} (hn:Nat.min m.length (b-a).toNat=0):gd l a b m=l:=by
 simp [gd,hn]
section
variable {P:Program} {o:Oper} {a:Act} {w:World} {K:Act->World->Prop} {Q:Exit->Act->World->Prop} {c:Ctx} {J:St} {g:z8} {k:St->Option R} {r:R} {base:Nat}
theorem PZ {x y:Operand} {args:Array Operand} {ts:Array TypeId} {t t':TypeId} {v:Value} {w':World} (ho:o.op = .call { callee:=.builtin .copy,args:=args,argTypes:=ts }) (ha:args.toList=[x,y]) (ht:ts.toList=[t,t'])
  (h:∀ ty,(Builtin.copy_ #[t,t'] ty #[a.eval x,a.eval y]).run P w = .ok v w'):(execOp a.eval o).run P w = .ok (.value v) w':=by
 have e1:args = #[x,y]:=by apply Fm.1;simpa using ha
 have e2:ts = #[t,t']:=by apply Fm.1;simpa using ht
 subst e1;subst e2;simp [execOp,ho,resolve,invoke,builtin,h]
theorem z1p {id:Nat} {t:Ty} {l m:List t.den} {news:List Value} {x:Value} {e b off cap:Nat} {cc:Array Value} {ee:TypeId} {av bv:Int} (qu:t.zW=true)
  (h0:0<=av) (Jq:av<=bv) (QH:bv<=(l.length:Int)) (Po:l.length<=cap) (Pt:cap<=maxLen) (qf:g.sv id [] = .slice (some ⟨b,off,none⟩) l.length cap)
  (zM:g.tag b = .row id []) (zY:w.heap[b]? = some (.cells cc ee (0,0))) (qC:off+cap*t.size<=cc.size)
  (js:∀ (i:Nat) (h:i < l.length),zH w g (some (id,[.idx i])) t (l.get ⟨i,h⟩) (qS cc.toList (off+i*t.size) t.size)) (yJ:wW P w g t x m news) (z6:qp) :
  zo (w.setRow b (zD cc.toList (off+av.toNat*t.size) (news.take (Nat.min m.length (bv-av).toNat*t.size))).toArray) g z6 id (.row t (gd l av bv m) e):=by
 have ZE:cc.toList.length=cc.size:=vf;have hmn:=Kt (m:=m) h0 Jq QH;have h2:Nat.min m.length (bv-av).toNat<=m.length:=Z4k ..;have hlen:=QY l m h0 Jq QH;have vD:=TO l m h0 Jq QH;generalize hn:Nat.min m.length (bv-av).toNat=n at *;have OT:=yJ.length;have Zl:n*t.size<=m.length*t.size:=kn _ h2;have Ea:(news.take (n*t.size)).length=n*t.size:=by rw [P9,OT];omega
 have hmul:(av.toNat+n)*t.size<=cap*t.size:=kn _ (by omega);rw [wB] at hmul;have hRo:zT w g (w.setRow b (zD cc.toList (off+av.toNat*t.size) (news.take (n*t.size))).toArray) g:=(jU (id:=id) _ (.inl ⟨[],zM⟩)).ro;refine ⟨qu,some ⟨b,off,none⟩,cap,by rw [hlen,qf],by rw [hlen,qf],by rw [hlen];exact Po,Pt,.inr ⟨b,off,_,ee,rfl,zM,setRow_heap w b cc _ ee _ zY,?_,fun j hj=>?_⟩⟩
 ·rw [Z2a,yI _ _ _ (by rw [Ea,ZE];omega),ZE];exact qC
 ·refine zH.y9 qu (o:=none) ?_;have hjl:j < l.length:=by rw [hlen] at hj;exact hj
  have IF:(j+1)*t.size<=cap*t.size:=kn _ (by omega);rw [wB] at IF;rcases vD j hj with ⟨i,hi,e1,V8,e2⟩ | ⟨hl,xk,e2⟩
  ·rw [e2];have h3:(i+1)*t.size<=n*t.size:=kn _ V8;rw [wB] at h3;have e3:off+j*t.size=(off+av.toNat*t.size)+i*t.size:=by rw [e1,wB];omega
   rw [e3,List.toList_toArray,xE _ _ _ _ _ (by rw [Ea];omega) (by rw [Ea,ZE];omega)];have e4:qS (news.take (n*t.size)) (i*t.size) t.size=qS news (i*t.size) t.size:=by
    simp only [qS];rw [Z46,Z33];congr 1;omega
   rw [e4];exact (yJ.elts i hi).kept hRo
  ·rw [e2];have hold:=(zH.y9 (o':=none) qu (js j hl)).kept hRo;rw [List.toList_toArray];rcases xk with qx | Cv
   ·have h3:(j+1)*t.size<=av.toNat*t.size:=kn _ (by omega);rw [wB] at h3;rw [jv _ _ _ _ _ (by omega) (by rw [ZE];omega)];exact hold
   ·have h3:(av.toNat+n)*t.size<=j*t.size:=kn _ Cv;rw [wB] at h3;rw [vM _ _ _ _ _ (by rw [Ea];omega) (by rw [Ea,ZE];omega)];exact hold
theorem DI (kN:gn P c.tt) {args:Array Operand} {ts:Array TypeId} {x y:Operand} {t t2:TypeId} (ho:o.op = .call { callee:=.builtin .copy,args:=args,argTypes:=ts }) (hargs:args.toList=[x,y]) (hts:ts.toList=[t,t2])
  {ow:Bool} {u:Ty} (hu:c.tt t=some (.sl ow u)) {bv2:z7} (hy:zr w g J.z6 bv2 (a.eval y)) (zy:zG c.ntmps g w a J) {id ep:Nat} {av bv:Int}
  (hx:∀ (t':Ty) (l:List t'.den) (e:Nat),J.z6 id=some (.row t' l e)->e=ep->0<=av/\av<=bv/\bv<=(l.length:Int)/\∀ ad cap,g.sv id [] = .slice ad l.length cap->l.length<=cap->∃ uY,a.eval x = .slice (ad.map fun ad=>ad.add (av.toNat*t'.size)) (bv-av).toNat uY\/((bv-av).toNat=0/\∃ ad',a.eval x = .slice ad' 0 uY))
  (h:(FO J u id ep av bv bv2 fun n J=>J.y6 c o.dst (.data (.int .i64) n) k)=some r)
  (hK:vu c.ntmps k r g w J base true K):o.wp P a w K Q:=by
 unfold FO at h;split at h
 ·rename_i t' l e zp
  cases hb:(Nat.beq e ep && (Ty.same t' u).isSome) with
  | false=>rw [hb] at h;simp at h
  | true=>
  rw [hb] at h;simp only [zB] at h;simp only [zA] at hb;have IS:=zE hb.1;subst IS;have YS:=Sl hb.2;subst YS;obtain ⟨qu,hval,h,TP⟩:=pj h;obtain ⟨m,news,h,yJ⟩:=JU (P:=P) zy.heap qu hy h hval TP;have hT:=kN _ _ hu;simp only [qw] at hT;obtain ⟨⟨E,qV,hE⟩,_⟩:=hT;obtain ⟨i,zv,Gn,VU,Cj,hi4,hi5,hi6⟩:=hE.info.info;obtain ⟨_,ad,cap,_,qf,Po,Pt,vk⟩:=zy.heap.z6 _ _ zp;obtain ⟨h0,Jq,QH,ON⟩:=hx _ _ _ zp rfl;obtain ⟨uY,ON⟩:=ON ad cap qf Po;have J6:∀ w':World,(sizeOf E).run P w' = .ok t'.size w':=fun w'=>by simp [sizeOf,typeInfo,Gn,VU]
  have hmn:=Kt (m:=m) h0 Jq QH;have h2:Nat.min m.length (bv-av).toNat<=m.length:=Z4k ..;have h3:Nat.min m.length (bv-av).toNat<=(bv-av).toNat:=Nat.min_le_right ..;have pe:=yJ.pre _ h2 w rfl;have AG:=yJ.len w rfl;have hint:zr w g (J.setObj id (.row t' (gd l av bv m) e)).z6 (.data (.int .i64) (PE m av bv)) (goInt (Nat.min m.length (bv-av).toNat)):=by
   refine vB ⟨?_,?_⟩
   ·show (-9223372036854775808:Int)<=_;unfold PE;omega
   ·show _<=(9223372036854775807:Int);unfold PE;unfold maxLen at Pt;omega
  by_cases hn:Nat.min m.length (bv-av).toNat=0
  ·have gE:=NU l m hn;rw [gE,HO zp] at h hint;refine jL (v:=goInt 0) (g':=g) (w':=w) (J':=J) (PZ ho hargs hts fun ty=>?_) zy (Ext.refl w g) (fun m' _ hf=>⟨hf,by simp [z7.ids]⟩) rfl (by rw [hn] at hint;exact hint) h (fun h=>Bool.noConfusion h) hK;rw [hn] at pe;rw [Z2d,Ti] at pe;rcases ON with ON | ⟨hz,ad',ON⟩
   ·rw [ON]
    cases ad with
    | none=>simp [Builtin.copy_,run_underlying qV,AG,J6,hn,pe]
    | some ad=>simp [Builtin.copy_,run_underlying qV,AG,J6,hn,pe,storeCells]
   ·rw [ON];rw [hz] at hn
    cases ad' with
    | none=>simp [Builtin.copy_,run_underlying qV,AG,J6,pe]
    | some ad=>simp [Builtin.copy_,run_underlying qV,AG,J6,pe,storeCells]
  ·rcases vk with ⟨rfl,hl,rfl⟩ | ⟨b,off,cc,ee,rfl,zM,zY,qC,js⟩
   ·rw [hl] at hmn;simp only [Fl] at hmn;omega
   ·have ZE:cc.toList.length=cc.size:=vf;have OT:=yJ.length;have Zl:Nat.min m.length (bv-av).toNat*t'.size<=m.length*t'.size:=kn _ h2;have Ea:(news.take (Nat.min m.length (bv-av).toNat*t'.size)).length=Nat.min m.length (bv-av).toNat*t'.size:=by rw [P9,OT];omega
    have hmul:(av.toNat+Nat.min m.length (bv-av).toNat)*t'.size<=cap*t'.size:=kn _ (by omega);rw [wB] at hmul;have qT:=run_storeCells_at P b (off+av.toNat*t'.size) ee (news.take (Nat.min m.length (bv-av).toNat*t'.size)) 0 cc w zY (by rw [Ea];omega) (fun x hx=>yJ.one x (Z3x hx));simp only [S1] at qT;have F2:=jU (w:=w) (g:=g) (id:=id) (b0:=b) (zD cc.toList (off+av.toNat*t'.size) (news.take (Nat.min m.length (bv-av).toNat*t'.size))).toArray (.inl ⟨[],zM⟩);have qc:=z1p (P:=P) (e:=e) qu h0 Jq QH Po Pt qf zM zY qC (fun i hi=>js i hi) yJ (J.setObj id (.row t' (gd l av bv m) e)).z6;have wO:=F2.st zy (o':=.row t' (gd l av bv m) e) (.inr (.inl ⟨t',l,gd l av bv m,e,e,zp,rfl,.inr ⟨rfl,QY l m h0 Jq QH,fun _=>rfl⟩⟩)) qc;refine jL (v:=goInt (Nat.min m.length (bv-av).toNat)) (PZ ho hargs hts fun ty=>?_) wO F2.ext (fun m' _ hf=>⟨F2.fresh (by rw [zp];simp) (fun y hy=>by simp at hy) hf,by simp [z7.ids]⟩) rfl ?_ h (fun h=>Bool.noConfusion h) hK
    ·rcases ON with ON | ⟨hz,_⟩
     ·rw [ON];simp only [Z23,Addr.add_lit];simp [Builtin.copy_,run_underlying qV,AG,J6,pe,qT,zD]
     ·omega
    ·exact vB (by
      refine ⟨?_,?_⟩
      ·show (-9223372036854775808:Int)<=_;unfold PE;omega
      ·show _<=(9223372036854775807:Int);unfold PE;unfold maxLen at Pt;omega)
 ·simp at h
theorem zbp (kN:gn P c.tt) {args:Array Operand} {ts:Array TypeId} (ho:o.op = .call { callee:=.builtin .copy,args:=args,argTypes:=ts }) (zy:zG c.ntmps g w a J) (h:yG c J base o k=some r)
  (hK:vu c.ntmps k r g w J base true K):o.wp P a w K Q:=by
 simp only [yG,ho] at h;split at h
 ·rename_i x y t t2 hargs hts;split at h
  ·rename_i xv yv ow u hx hy hu;obtain ⟨ex,efx⟩:=qF zy hx;obtain ⟨ey,efy⟩:=qF zy hy;unfold zhc at h;split at h
   ·rename_i id ep av bv;refine DI kN ho hargs hts hu ey zy (fun t' l e zp he=>?_) h hK;subst he;simp only [zr] at ex;obtain ⟨cs,⟨v,rfl,qE,hv⟩,jd⟩:=ex;obtain ⟨_,h0,Jq,QH,e1⟩:=(hv _ _ _ zp).2 rfl;refine ⟨h0,Jq,QH,fun ad cap qf Po=>?_⟩;have xP:a.eval x=jq (.slice ad l.length cap) t'.size av bv:=by rw [<-qf,<-e1];exact jd
    simp only [jq] at xP;refine ⟨cap-av.toNat,?_⟩;by_cases hc:cap-av.toNat=0
    ·rw [yQ hc] at xP;have hz:(bv-av).toNat=0:=by omega
     rw [hz] at xP;exact .inr ⟨hz,ad,xP⟩
    ·rw [qZ hc] at xP;exact .inl xP
   ·rename_i id ep;split at h
    ·rename_i t1 l1 e1 z4s;refine DI kN ho hargs hts hu ey zy (fun t' l e zp he=>?_) h hK;subst he;rw [zp] at z4s;simp only [zI,Obj.row.injEq] at z4s;obtain ⟨rfl,h1,_⟩:=z4s;have h1:=Z35 h1;subst h1;simp only [zr] at ex;obtain ⟨cs,⟨v,rfl,qE,hv⟩,jd⟩:=ex;have e2:=(hv _ _ _ zp).2 rfl;refine ⟨Z30 _,by omega,by omega,fun ad cap qf Po=>⟨cap,.inl ?_⟩⟩;rw [show a.eval x=g.sv id [] from by rw [<-e2];exact jd,qf]
     cases ad with
     | none=>simp
     | some ad=>simp [Addr.add]
    ·simp at h
   ·simp at h
  ·simp at h
 ·simp at h
end
end Go.Kz
namespace Go.Kz
end Go.Kz
namespace Go.Kz
variable {R:Type}
structure xG (P:Program) (c:Ctx):Prop where
 tt:gn P c.tt
 mt:Nr P c.mt
 eqs:S5 P c.eqs
 env:Bb P c.env
section
variable {P:Program} {o:Oper} {a:Act} {w:World} {K:Act->World->Prop} {Q:Exit->Act->World->Prop} {c:Ctx} {J:St} {g:z8} {k:St->Option R} {r:R} {base:Nat} {mo:Bool}
theorem Xd (hc:xG P c) (hy:N1 o=true) (zy:zG c.ntmps g w a J) (h:Tt c J base o k=some r):vd P o a w g J c k r:=by
 simp only [N1,zA,PO] at hy;obtain ⟨hj,hy⟩:=hy;simp only [Tt,hj,zU] at h
 cases ho:o.op with
 | move x=>exact OV (.inl ho) zy h
 | assign x=>exact OV (.inr ho) zy h
 | pick t x y=>exact zbj ho zy h
 | binOp op t x y t'=>exact Tz hc.tt hc.eqs ho zy h
 | unOp op t x=>exact zbi ho zy h
 | convert t t' x=>exact Mf hc.tt ho zy h
 | indexAddr t x i=>exact z2e hc.tt ho zy h
 | fieldAddr t x i=>exact z2f hc.tt ho zy h
 | nilCheck x=>exact I0 ho zy h
 | load t x=>exact zbn hc.tt ho zy h
 | extract x i=>exact Me ho zy h
 | lookup t x i ok=>exact T7 hc.mt ho zy h
 | slice t x lo hi mx=>cases mx with
  | none=>exact z2c hc.tt ho zy h
  | some mx=>simp [Ge,ho] at hy
 | build t ps=>exact z2j hc.tt ho zy h
 | index t x i=>exact T8 hc.tt ho zy h
 | field t x i=>simp [yG,ho] at h
 | makeInterface t x=>simp [yG,ho] at h
 | typeAssert x xt t ok=>simp [yG,ho] at h
 | makeFunc f first cap=>
  cases f with
  | func f=>exact I1 ho zy h
  | _=>simp [yG,ho] at h
 | call cl=>
  obtain ⟨callee,args,ts⟩:=cl
  cases callee with
  | builtin b=>
   cases b with
   | len=>exact zjk ho hc.tt hc.mt zy h
   | max=>exact zjj ho zy h
   | min=>exact zji ho zy h
   | _=>simp [Ge,ho] at hy
  | _=>simp [Ge,ho] at hy
 | _=>simp [Ge,ho] at hy
theorem zbo (hj:Ap o=true) (zy:zG c.ntmps g w a J) (h:k (J.kB o.dst)=some r) (hK:vu c.ntmps k r g w J base (isM o) K):o.wp P a w K Q:=by
 have ho:∃ v,o.op = .assign (.const v):=by
  unfold Ap at hj;split at hj
  ·exact ⟨_,by assumption⟩
  ·exact ⟨_,by assumption⟩
  ·exact ⟨_,by assumption⟩
  ·simp at hj
 obtain ⟨v,ho⟩:=ho;unfold Oper.wp;have zc:(execOp a.eval o).run P w = .ok (.value (a.eval (.const v))) w:=by simp [execOp,ho]
 rw [zc,Oper.upon_value];refine hK _ g _ w h (zy.zjf o.dst _) (Ext.refl _ _) (fun m _ hm=>hm.kB o.dst) ?_ (fun _=>jc.refl w);cases o.dst <;> rfl
theorem D6 (hc:xG P c) (zy:zG c.ntmps g w a J) (vT:∀ m,base<=m->m < base+8->zJ g J m) (h:Tt c J base o k=some r) (hK:vu c.ntmps k r g w J base (isM o) K):o.wp P a w K Q:=by
 have hf:zJ g J base:=vT base (yN _) (by omega)
 cases hj:Ap o with
 | true=>
  simp only [Tt,hj,zB] at h
  exact zbo hj zy h hK
 | false=>
 cases hy:N1 o with
 | true=>exact (Xd hc hy zy h).wp zy hK
 | false=>
  simp only [Tt,hj,zU] at h;simp only [N1,hj,Z2t,LM] at hy
  cases ho:o.op with
  | alloc t=>exact z2l hc.tt ho zy hf h hK
  | box t x=>exact zjl ho zy hf h hK
  | makeSlice t x y=>exact EX hc.tt ho zy hf h hK
  | buildSlice t n ps=>exact C7 hc.tt ho zy hf (fun ow u YS hu hb h=>zbl hc.tt ho zy hf YS hu hb h hK) h hK
  | slice t x lo hi mx=>cases mx with
   | none=>simp [Ge,ho] at hy
   | some mx=>exact T6 hc.tt ho zy h hK
  | store t x y=>exact z2b hc.tt ho zy h (by simpa [isM,ho] using hK)
  | mapUpdate t x i y=>exact EU hc.mt ho zy h (by simpa [isM,ho] using hK)
  | makeMap t rs=>cases rs with
   | none=>exact Md ho zy hf h hK
   | some _=>simp [yG,ho] at h
  | call cl=>
   obtain ⟨callee,args,ts⟩:=cl
   cases callee with
   | builtin b=>
    cases b with
    | append=>exact Tq hc.tt ho zy hf (fun x y t u ow av bv ha ht YS hx hy h=>Mh hc.tt ho zy ha ht YS hx hy h (by simpa [isM,ho] using hK)) h (by simpa [isM,ho] using hK)
    | clear=>simp [yG,ho] at h
    | copy=>exact zbp hc.tt ho zy h (by simpa [isM,ho] using hK)
    | _=>first | (simp [Ge,ho] at hy;done) | (simp [yG,ho] at h;done)
   | value x=>
    simp only [yG,ho] at h;split at h
    ·rename_i gv av hx ha;exact zbq hc.env ho rfl zy vT hx ha h hK
    ·simp at h
   | invoke x m=>simp [yG,ho] at h
  | _=>first | (simp [Ge,ho] at hy;done) | (simp [yG,ho] at h;done)
end
end Go.Kz
