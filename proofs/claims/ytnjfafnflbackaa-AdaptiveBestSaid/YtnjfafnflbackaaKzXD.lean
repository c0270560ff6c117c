/-
  Callees: what is asked of them; what a call leaves behind.
-/
import Derived.Test.YtnjfafnflbackaaKzUA
import Derived.MapKept
import Derived.Laws.StructEq
import Derived.ChangeKeysEq
import Derived.WideKeyRuns
import Derived.Maps.RangeRun
set_option linter.unusedVariables false
set_option linter.unusedSimpArgs false
namespace Go.Kz
variable {R:Type}
def Runs (P:Program) (f:FuncId) (vals:Array Value) (w:World) (R:Value->World->Prop):Prop:=
 ((callFunc f vals).run P w = .ok (.enter f vals) w∧Calls P f vals w fun e w'=>∃ v,e = .returned v∧R v w')∨
 ∃ v w',(callFunc f vals).run P w = .ok (.value v) w'∧R v w'
def zhp (w:World) (g:Ghost):(p:APat)->p.den->List Value->Prop
 | .pr (.val t) q,(x,y),v :: vs=>t.isRo=true∧(∃ cs,Rep w g none t x cs∧v=mkV t.sk.isAgg cs)∧zhp w g q y vs
 | .un,_,[]=>True
 | _,_,_=>False
def zpj (w:World) (g:Ghost) (x:AVal×List Obj) (v:Value):Prop:=HeapOK w g (z12 x.2)∧VOK w g (z12 x.2) x.1 v
def z03 (P:Program) (f:FuncId):Callee->Prop
 | .pure p res F=>∀ w g d vals r,(∀ b,g.tag b≠.alien->g.tag b = .ro∧b < w.heap.size)->zpl w g->zhp w g p d vals->F d=some r->
   Runs P f vals.toArray w fun v w'=>∃ g',Ext w g w' g'∧zpj w' g' (z08 res r 0) v
 | .mut fin anch fout F=>∀ w g d (vals:List Value) r,vals.length=fin.slots.length->StOK vals.length g w ⟨vals.toArray,[]⟩ (St.of (z84 fin.slots d.1) (z96 fin.objs d.2))->
   (∀ m,fin.objs.length≤m->Fresh g (St.of (z84 fin.slots d.1) (z96 fin.objs d.2)) m)->F d=some r->
   Runs P f vals.toArray w fun v w'=>∃ g',Ext w g w' g'∧HeapOK w' g' (z12 (z96 fout.objs r.2))∧
    (∀ k i av,z12 anch k=some i->z12 ((z84 fout.slots r.1).map Prod.snd) k=some av->∃ u,vals[i]? = some u∧VOK w' g' (z12 (z96 fout.objs r.2)) av u)∧
    VOK w' g' (z12 (z96 fout.objs r.2)) (z6g (z81 anch.length ((z84 fout.slots r.1).map Prod.snd))) v
def zpm (P:Program) (env:Nat->List Callee):Prop:=∀ f c,c∈env f->z03 P f c
def z3n (g gc:Ghost) (n len size:Nat):Ghost where
 tag:=fun b=>if b < size then g.tag b else match gc.tag b with
  | .row i p=>if i < len then .row (n+i) p else .alien
  | .box i=>if i < len then .box (n+i) else .alien
  | t=>t
 sv:=fun i p=>if n≤i∧i < n+len then gc.sv (i-n) p else g.sv i p
 blk:=fun i=>if n≤i∧i < n+len then gc.blk (i-n) else g.blk i
theorem ze8:(os:List Obj)->(σ:St)->(n id:Nat)->(σ.addObjs n os).objs id=if n≤id∧id < n+os.length then z12 os (id-n) else σ.objs id
 | [],σ,n,id=>by simp [St.addObjs];intro h1 h2;omega
 | o :: os,σ,n,id=>by
  simp only [St.addObjs,ze8 os,List.length_cons];by_cases h1:id=n
  ·subst h1;rw [if_neg (by omega),if_pos (by omega)];simp only [St.setObj,z0j,Nat.sub_self,z12]
  ·by_cases h2:n+1≤id∧id < n+1+os.length
   ·rw [if_pos h2,if_pos (by omega)];obtain ⟨j,rfl⟩:∃ j,id=n+1+j:=⟨id-(n+1),by omega⟩;have e1:n+1+j-(n+1)=j:=by omega
    have e2:n+1+j-n=j+1:=by omega
    rw [e1,e2];rfl
   ·rw [if_neg h2,if_neg (by omega)];simp only [St.setObj];rw [z0k _ _ h1]
theorem zcn:(os:List Obj)->(σ:St)->(n:Nat)->(σ.addObjs n os).slots=σ.slots
 | [],_,_=>rfl
 | _ :: os,σ,n=>by simp only [St.addObjs];rw [zcn os];rfl
theorem ze9:(os:List Obj)->(σ:St)->(n:Nat)->(σ.addObjs n os).next=σ.next
 | [],_,_=>rfl
 | _ :: os,σ,n=>by simp only [St.addObjs];rw [ze9 os];rfl
theorem Rep.noSl {w w':World} {g g':Ghost}:{o o':Own}->{t:Ty}->{d:t.den}->{cs:List Value}->t.noSl=true->Rep w g o t d cs->Rep w' g' o' t d cs
 | _,_,.int _,_,_,_,h=>h
 | _,_,.bool,_,_,_,h=>h
 | _,_,.str,_,_,_,h=>h
 | _,_,.unit,_,_,_,h=>h
 | _,_,.pair a b,(x,y),_,ht,h=>by
  obtain ⟨c1,c2,rfl,h1,h2⟩:=h;simp only [Ty.noSl,zA] at ht
  exact ⟨c1,c2,rfl,Rep.noSl ht.1 h1,Rep.noSl ht.2 h2⟩
 | _,_,.arr n t,_,_,ht,h=>⟨h.1,h.2.1,fun i hi=>Rep.noSl (by simpa [Ty.noSl] using ht) (h.2.2 i hi)⟩
 | _,_,.sl _ _,_,_,ht,_=>by simp [Ty.noSl] at ht
 | _,_,.ptr _,_,_,ht,_=>by simp [Ty.noSl] at ht
 | _,_,.fn _ _,_,_,ht,_=>by simp [Ty.noSl] at ht
theorem zqt:{t:Ty}->t.flat=true->t.isRo=true->t.noSl=true
 | .int _,_,_=>rfl
 | .bool,_,_=>rfl
 | .str,_,_=>rfl
 | .unit,_,_=>rfl
 | .pair a b,h,k=>by
  simp only [Ty.flat,zA] at h;simp only [Ty.isRo,zA] at k
  simp only [Ty.noSl,zqt h.1 k.1,zqt h.2 k.2,Bool.and_self]
 | .arr _ t,h,_=>h
 | .sl true t,_,k=>by simp [Ty.isRo] at k
 | .sl false t,h,_=>by simp [Ty.flat,Ty.noSl] at h
 | .ptr _,h,_=>by simp [Ty.flat,Ty.noSl] at h
 | .fn _ _,h,_=>by simp [Ty.flat,Ty.noSl] at h
def z9s (w:World) (g g':Ghost) (t:Ty):Prop:=RoKept w g w g'∨t.flat=true
theorem z9s.rep {w:World} {g g':Ghost} {t:Ty} (h:z9s w g g' t) (ht:t.isRo=true) {d:t.den} {cs:List Value} (hr:Rep w g none t d cs):Rep w g' none t d cs:=by
 rcases h with h | h
 ·exact hr.kept h
 ·exact Rep.noSl (zqt h ht) hr
theorem z9s.row {w:World} {g g':Ghost} {t:Ty} (h:z9s w g g' (.sl true t)) {l:List t.den} {i j:Nat} (hm:Moved w g w g' i [] j []) {v:Value} (hr:Rep w g (some (i,[])) (.sl true t) l [v]) :
  Rep w g' (some (j,[])) (.sl true t) l [v]:=by
 rcases h with h | h
 ·exact Rep.move h (o:=some (i,[])) (o':=some (j,[])) hm hr
 ·obtain ⟨a,cap,hv,h0,h1,h2,h3⟩:=hr;have hsv:=hm.sv [];simp only [List.append_nil] at hsv;refine ⟨a,cap,hv,hsv.trans h0,h1,h2,?_⟩;rcases h3 with h3 | ⟨b,off,c,e,ha,ht,hb,hs,he⟩
  ·exact .inl h3
  ·have hk:=hm.blk [] b (by simpa using ht);simp only [List.append_nil] at hk;exact .inr ⟨b,off,c,e,ha,hk.1,hb,hs,fun i hi=>Rep.noSl h (he i hi)⟩
theorem z3u:(t:Ty)->(d:t.den)->(n m:Nat)->(z06 t d n).2=(z06 t d m).2∧(z06.exposeC t d n).2=(z06.exposeC t d m).2
 | .sl true t,l,n,m=>⟨rfl,rfl⟩
 | .sl false t,l,n,m=>⟨rfl,rfl⟩
 | .int _,_,_,_=>⟨rfl,rfl⟩
 | .bool,_,_,_=>⟨rfl,rfl⟩
 | .str,_,_,_=>⟨rfl,rfl⟩
 | .unit,_,_,_=>⟨rfl,rfl⟩
 | .arr _ _,_,_,_=>⟨rfl,rfl⟩
 | .ptr _,_,_,_=>⟨rfl,rfl⟩
 | .fn _ _,_,_,_=>⟨rfl,rfl⟩
 | .pair a b,(x,y),n,m=>by
  have ha:=(z3u a x n m).1;have hb:=fun n m=>(z3u b y n m).2
  have e2:(z06.exposeC (.pair a b) (x,y) n).2=(z06.exposeC (.pair a b) (x,y) m).2:=by
   simp only [z06.exposeC];rw [ha,hb _ (m+(z06 a x m).2.length)]
  refine ⟨?_,e2⟩;simp only [z06];cases (Ty.pair a b).isRo
  ·simp only [cond_false];rw [ha,hb _ (m+(z06 a x m).2.length)]
  ·rfl
theorem z8m:(t:Ty)->(d:t.den)->(n:Nat)->(∀ o∈(z06 t d n).2,∃ u l,o=Obj.row u l 0∧(t.flat=true->u.noSl=true))∧
  (∀ o∈(z06.exposeC t d n).2,∃ u l,o=Obj.row u l 0∧(t.flat=true->u.noSl=true))
 | .sl true t,l,n=>⟨by intro o ho;simp only [z06,List.mem_singleton] at ho;exact ⟨t,l,ho,fun h=>h⟩,by simp [z06.exposeC]⟩
 | .sl false t,l,n=>⟨by simp [z06],by simp [z06.exposeC]⟩
 | .int _,_,_=>⟨by simp [z06],by simp [z06.exposeC]⟩
 | .bool,_,_=>⟨by simp [z06],by simp [z06.exposeC]⟩
 | .str,_,_=>⟨by simp [z06],by simp [z06.exposeC]⟩
 | .unit,_,_=>⟨by simp [z06],by simp [z06.exposeC]⟩
 | .arr _ _,_,_=>⟨by simp [z06],by simp [z06.exposeC]⟩
 | .ptr _,_,_=>⟨by simp [z06],by simp [z06.exposeC]⟩
 | .fn _ _,_,_=>⟨by simp [z06],by simp [z06.exposeC]⟩
 | .pair a b,(x,y),n=>by
  have ha:=fun n=>(z8m a x n).1
  have hb:=fun n=>(z8m b y n).2
  have e2:∀ o∈(z06.exposeC (.pair a b) (x,y) n).2,∃ u l,o=Obj.row u l 0∧((Ty.pair a b).flat=true->u.noSl=true):=by
   intro o ho;simp only [z06.exposeC,List.mem_append] at ho;rcases ho with ho | ho
   ·obtain ⟨u,l,h1,h2⟩:=ha _ o ho;exact ⟨u,l,h1,fun h=>h2 (by simp only [Ty.flat,zA] at h;exact h.1)⟩
   ·obtain ⟨u,l,h1,h2⟩:=hb _ o ho;exact ⟨u,l,h1,fun h=>h2 (by simp only [Ty.flat,zA] at h;exact h.2)⟩
  refine ⟨?_,e2⟩;intro o ho;simp only [z06] at ho
  cases hr:(Ty.pair a b).isRo with
  | true=>rw [hr] at ho;simp at ho
  | false=>
   rw [hr] at ho;exact e2 o ho
structure Shift (gc g:Ghost) (n len:Nat) (oc o:z2c):Prop where
 objs:∀ i,i < len->o (n+i)=oc i
 sv:∀ i p,i < len->g.sv (n+i) p=gc.sv i p
theorem z9s.left {w:World} {g g':Ghost} {a b:Ty} (h:z9s w g g' (.pair a b)):z9s w g g' a:=by
 rcases h with h | h
 ·exact .inl h
 ·simp only [Ty.flat,zA] at h;exact .inr h.1
theorem z9s.right {w:World} {g g':Ghost} {a b:Ty} (h:z9s w g g' (.pair a b)):z9s w g g' b:=by
 rcases h with h | h
 ·exact .inl h
 ·simp only [Ty.flat,zA] at h;exact .inr h.2
theorem zdg {w:World} {gc g:Ghost} {n len:Nat} {oc o:z2c} (hs:Shift gc g n len oc o):(t:Ty)->(d:t.den)->(m:Nat)->z9s w gc g t->
  (∀ cs,m+(z06 t d m).2.length≤len->AOK w gc oc (z06 t d m).1 cs->AOK w g o (z06 t d (n+m)).1 cs)∧
  (∀ cs,m+(z06.exposeC t d m).2.length≤len->AOK w gc oc (z06.exposeC t d m).1 cs->AOK w g o (z06.exposeC t d (n+m)).1 cs)
 | .sl true t,l,m,hc=>by
  refine ⟨fun cs hl h=>?_,fun cs _ h=>h⟩;obtain ⟨v,hv,hone,hx⟩:=h;have hm:m < len:=by simp only [z06,List.length_singleton] at hl;omega
  refine ⟨v,hv,hone,fun t l e he=>?_⟩;rw [hs.objs m hm] at he;obtain ⟨h1,h2⟩:=hx _ _ _ he
  exact ⟨h1,fun h=>by rw [hs.sv m [] hm];exact h2 h⟩
 | .sl false t,l,m,hc=>⟨fun cs _ h=>⟨h.1,hc.rep h.1 h.2⟩,fun cs _ h=>h⟩
 | .int _,_,m,hc=>⟨fun cs _ h=>⟨h.1,hc.rep h.1 h.2⟩,fun cs _ h=>h⟩
 | .bool,_,m,hc=>⟨fun cs _ h=>⟨h.1,hc.rep h.1 h.2⟩,fun cs _ h=>h⟩
 | .str,_,m,hc=>⟨fun cs _ h=>⟨h.1,hc.rep h.1 h.2⟩,fun cs _ h=>h⟩
 | .unit,_,m,hc=>⟨fun cs _ h=>⟨h.1,hc.rep h.1 h.2⟩,fun cs _ h=>h⟩
 | .arr _ _,_,m,hc=>⟨fun cs _ h=>⟨h.1,hc.rep h.1 h.2⟩,fun cs _ h=>h⟩
 | .ptr _,_,m,hc=>⟨fun cs _ h=>⟨h.1,hc.rep h.1 h.2⟩,fun cs _ h=>h⟩
 | .fn _ _,_,m,hc=>⟨fun cs _ h=>⟨h.1,hc.rep h.1 h.2⟩,fun cs _ h=>h⟩
 | .pair a b,(x,y),m,hc=>by
  have ha:=fun m=>(zdg hs a x m hc.left).1
  have hb:=fun m=>(zdg hs b y m hc.right).2
  have hl:(z06 a x (n+m)).2.length=(z06 a x m).2.length:=by rw [(z3u a x (n+m) m).1]
  have key:∀ cs,m+((z06 a x m).2++(z06.exposeC b y (m+(z06 a x m).2.length)).2).length≤len->
    (∃ c1 c2,cs=c1++c2∧AOK w gc oc (z06 a x m).1 c1∧AOK w gc oc (z06.exposeC b y (m+(z06 a x m).2.length)).1 c2)->
    ∃ c1 c2,cs=c1++c2∧AOK w g o (z06 a x (n+m)).1 c1∧AOK w g o (z06.exposeC b y (n+m+(z06 a x (n+m)).2.length)).1 c2:=by
   intro cs hle ⟨c1,c2,hcs,h1,h2⟩;rw [List.length_append] at hle;refine ⟨c1,c2,hcs,ha m c1 (by omega) h1,?_⟩;rw [hl,Nat.add_assoc];exact hb _ c2 (by omega) h2
  refine ⟨fun cs hle h=>?_,fun cs hle h=>key cs (by simpa only [z06.exposeC] using hle) h⟩;simp only [z06] at hle h ⊢
  cases hr:(Ty.pair a b).isRo with
  | true=>
   rw [hr] at h;simp only [cond_true] at h ⊢
   exact ⟨h.1,hc.rep h.1 h.2⟩
  | false=>
   rw [hr] at h hle;simp only [cond_false] at h hle ⊢;exact key cs hle h
theorem zum:(t:Ty)->(d:t.den)->(n m:Nat)->(z06 t d n).1.isAgg=(z06 t d m).1.isAgg
 | .sl true t,l,n,m=>rfl
 | .sl false t,l,n,m=>rfl
 | .int _,_,_,_=>rfl
 | .bool,_,_,_=>rfl
 | .str,_,_,_=>rfl
 | .unit,_,_,_=>rfl
 | .arr _ _,_,_,_=>rfl
 | .ptr _,_,_,_=>rfl
 | .fn _ _,_,_,_=>rfl
 | .pair a b,(x,y),n,m=>by
  simp only [z06];cases (Ty.pair a b).isRo <;> rfl
theorem z6n:(t:Ty)->(d:t.den)->(n:Nat)->(∀ x y,(z06 t d n).1≠.pr x y)∧(z06 t d n).1≠.un∧∀ c,(z06 t d n).1≠.tup c
 | .sl true t,l,n=>⟨by simp [z06],by simp [z06],by simp [z06]⟩
 | .sl false t,l,n=>⟨by simp [z06],by simp [z06],by simp [z06]⟩
 | .int _,_,_=>⟨by simp [z06],by simp [z06],by simp [z06]⟩
 | .bool,_,_=>⟨by simp [z06],by simp [z06],by simp [z06]⟩
 | .str,_,_=>⟨by simp [z06],by simp [z06],by simp [z06]⟩
 | .unit,_,_=>⟨by simp [z06],by simp [z06],by simp [z06]⟩
 | .arr _ _,_,_=>⟨by simp [z06],by simp [z06],by simp [z06]⟩
 | .ptr _,_,_=>⟨by simp [z06],by simp [z06],by simp [z06]⟩
 | .fn _ _,_,_=>⟨by simp [z06],by simp [z06],by simp [z06]⟩
 | .pair a b,(x,y),n=>by
  simp only [z06];cases (Ty.pair a b).isRo <;> simp
theorem zdf {w:World} {gc g:Ghost} {n len:Nat} {oc o:z2c} (hs:Shift gc g n len oc o) (t:Ty) (d:t.den) (m:Nat) (hc:z9s w gc g t) {v:Value}
  (hl:m+(z06 t d m).2.length≤len) (h:VOK w gc oc (z06 t d m).1 v):VOK w g o (z06 t d (n+m)).1 v:=by
 obtain ⟨cs,hok,hv⟩:=z4y h (z6n t d m).2.2;exact z19 ((zdg hs t d m hc).1 cs hl hok) (by rw [hv,zum t d (n+m) m]) (z6n t d _).1 (z6n t d _).2.1
theorem z7y:(t:Ty)->(d:t.den)->(n:Nat)->(∀ i∈(z06 t d n).1.ids,n≤i∧i < n+(z06 t d n).2.length)∧(∀ i∈(z06.exposeC t d n).1.ids,n≤i∧i < n+(z06.exposeC t d n).2.length)
 | .sl true t,l,n=>⟨by simp [z06,AVal.ids],by simp [z06.exposeC,AVal.ids]⟩
 | .sl false t,l,n=>⟨by simp [z06,AVal.ids],by simp [z06.exposeC,AVal.ids]⟩
 | .int _,_,_=>⟨by simp [z06,AVal.ids],by simp [z06.exposeC,AVal.ids]⟩
 | .bool,_,_=>⟨by simp [z06,AVal.ids],by simp [z06.exposeC,AVal.ids]⟩
 | .str,_,_=>⟨by simp [z06,AVal.ids],by simp [z06.exposeC,AVal.ids]⟩
 | .unit,_,_=>⟨by simp [z06,AVal.ids],by simp [z06.exposeC,AVal.ids]⟩
 | .arr _ _,_,_=>⟨by simp [z06,AVal.ids],by simp [z06.exposeC,AVal.ids]⟩
 | .ptr _,_,_=>⟨by simp [z06,AVal.ids],by simp [z06.exposeC,AVal.ids]⟩
 | .fn _ _,_,_=>⟨by simp [z06,AVal.ids],by simp [z06.exposeC,AVal.ids]⟩
 | .pair a b,(x,y),n=>by
  have ha:=fun n=>(z7y a x n).1
  have hb:=fun n=>(z7y b y n).2
  have e2:∀ i∈(z06.exposeC (.pair a b) (x,y) n).1.ids,n≤i∧i < n+(z06.exposeC (.pair a b) (x,y) n).2.length:=by
   intro i hi;simp only [z06.exposeC,AVal.ids,List.mem_append,List.length_append] at hi ⊢;rcases hi with hi | hi
   ·have:=ha _ i hi;omega
   ·have:=hb _ i hi;omega
  refine ⟨?_,e2⟩;intro i hi;simp only [z06] at hi ⊢
  cases hr:(Ty.pair a b).isRo with
  | true=>rw [hr] at hi;simp [AVal.ids] at hi
  | false=>
   rw [hr] at hi;rw [cond_false] at hi ⊢;exact e2 i hi
end Go.Kz
namespace Go.Kz
variable {R:Type}
abbrev chain:=z08.chain
theorem zjx:(ts:List Ty)->(d:z33 ts)->(n m:Nat)->(chain ts d n).2=(chain ts d m).2
 | [],_,_,_=>rfl
 | [t],d,n,m=>(z3u t d n m).1
 | t :: u :: ts,(d,ds),n,m=>by
  simp only [chain,z08.chain];rw [(z3u t d n m).1];congr 1;exact zjx (u :: ts) ds _ _
theorem zdh:(ts:List Ty)->(d:z33 ts)->(n:Nat)->∀ o∈(chain ts d n).2,∃ u l,o=Obj.row u l 0∧(zb8 ts=true->u.noSl=true)
 | [],_,_,o,ho=>by simp [chain,z08.chain] at ho
 | [t],d,n,o,ho=>by
  obtain ⟨u,l,h1,h2⟩:=(z8m t d n).1 o ho
  exact ⟨u,l,h1,fun h=>h2 (by simp only [zb8,zA] at h;exact h.1)⟩
 | t :: u :: ts,(d,ds),n,o,ho=>by
  simp only [chain,z08.chain,List.mem_append] at ho;rcases ho with ho | ho
  ·obtain ⟨u',l,h1,h2⟩:=(z8m t d n).1 o ho;exact ⟨u',l,h1,fun h=>h2 (by simp only [zb8,zA] at h;exact h.1)⟩
  ·obtain ⟨u',l,h1,h2⟩:=zdh (u :: ts) ds _ o ho;exact ⟨u',l,h1,fun h=>h2 (by rw [zb8,zA] at h;exact h.2)⟩
theorem zjw {w:World} {gc g:Ghost} {n len:Nat} {oc o:z2c} (hs:Shift gc g n len oc o):(ts:List Ty)->(d:z33 ts)->(m:Nat)->(∀ t∈ts,z9s w gc g t)->
  ∀ vs,m+(chain ts d m).2.length≤len->z1o w gc oc (chain ts d m).1 vs->z1o w g o (chain ts d (n+m)).1 vs
 | [],_,_,_,vs,_,h=>by simpa [chain,z08.chain,z1o] using h
 | [t],d,m,hc,vs,hl,h=>by
  simp only [chain,z08.chain,z1o] at hl h ⊢;obtain ⟨v,r,hv,h1,h2⟩:=h
  exact ⟨v,r,hv,zdf hs t d m (hc t (by simp)) hl h1,h2⟩
 | t :: u :: ts,(d,ds),m,hc,vs,hl,h=>by
  simp only [chain,z08.chain,z1o,List.length_append] at hl h ⊢;obtain ⟨v,r,hv,h1,h2⟩:=h;refine ⟨v,r,hv,zdf hs t d m (hc t (by simp)) (by omega) h1,?_⟩;have e:(z06 t d (n+m)).2.length=(z06 t d m).2.length:=by rw [(z3u t d (n+m) m).1]
  rw [e,Nat.add_assoc];exact zjw hs (u :: ts) ds _ (fun t ht=>hc t (by simp at ht ⊢;exact .inr ht)) r (by rw [←Nat.add_assoc] at hl;exact hl) h2
theorem zoz:(ts:List Ty)->(d:z33 ts)->(n:Nat)->∀ i∈(chain ts d n).1.ids,n≤i∧i < n+(chain ts d n).2.length
 | [],_,_,i,hi=>by simp [chain,z08.chain,AVal.ids] at hi
 | [t],d,n,i,hi=>by
  simp only [chain,z08.chain,AVal.ids,List.append_nil] at hi ⊢
  exact (z7y t d n).1 i hi
 | t :: u :: ts,(d,ds),n,i,hi=>by
  simp only [chain,z08.chain,AVal.ids,List.mem_append,List.length_append] at hi ⊢;rcases hi with hi | hi
  ·have:=(z7y t d n).1 i hi;omega
  ·have:=zoz (u :: ts) ds _ i hi;simp only [chain] at this;omega
theorem zro:(ts:List Ty)->(d:z33 ts)->(n m:Nat)->(z08 ts d n).2=(z08 ts d m).2
 | [],_,_,_=>rfl
 | [t],d,n,m=>(z3u t d n m).1
 | t :: u :: ts,(d,ds),n,m=>by
  simp only [z08];rw [(z3u t d n m).1];congr 1;exact zjx (u :: ts) ds _ _
theorem zrn:(ts:List Ty)->(d:z33 ts)->(n:Nat)->∀ o∈(z08 ts d n).2,∃ u l,o=Obj.row u l 0∧(zb8 ts=true->u.noSl=true)
 | [],_,_,o,ho=>by simp [z08] at ho
 | [t],d,n,o,ho=>zdh [t] d n o ho
 | t :: u :: ts,(d,ds),n,o,ho=>zdh (t :: u :: ts) (d,ds) n o ho
theorem res_ids:(ts:List Ty)->(d:z33 ts)->(n:Nat)->∀ i∈(z08 ts d n).1.ids,n≤i∧i < n+(z08 ts d n).2.length
 | [],_,_,i,hi=>by simp [z08,AVal.ids] at hi
 | [t],d,n,i,hi=>(z7y t d n).1 i hi
 | t :: u :: ts,(d,ds),n,i,hi=>zoz (t :: u :: ts) (d,ds) n i hi
theorem res_vok {w:World} {gc g:Ghost} {n len:Nat} {oc o:z2c} (hs:Shift gc g n len oc o):(ts:List Ty)->(d:z33 ts)->(∀ t∈ts,z9s w gc g t)->
  ∀ v,(z08 ts d 0).2.length≤len->VOK w gc oc (z08 ts d 0).1 v->VOK w g o (z08 ts d n).1 v
 | [],_,_,v,_,h=>by
  simp only [z08,VOK,z1o] at h ⊢;exact h
 | [t],d,hc,v,hl,h=>zdf hs t d 0 (hc t (by simp)) (by simpa [z08] using hl) h
 | t :: u :: ts,(d,ds),hc,v,hl,h=>by
  have h':∃ vs,v = .tuple vs.toArray∧z1o w gc oc (chain (t :: u :: ts) (d,ds) 0).1 vs:=by
   simpa only [z08,VOK,chain,z08.chain] using h
  obtain ⟨vs,hv,h2⟩:=h';have:=zjw hs (t :: u :: ts) (d,ds) 0 hc vs (by rw [Nat.zero_add];exact hl) h2;show VOK w g o (.tup (chain (t :: u :: ts) (d,ds) n).1) v;simp only [VOK];exact ⟨vs,hv,this⟩
theorem zy4 {w:World} {g g':Ghost} {ts:List Ty} (h:RoKept w g w g'∨zb8 ts=true):∀ t∈ts,z9s w g g' t:=by
 rcases h with h | h
 ·exact fun _ _=>.inl h
 ·induction ts with
  | nil=>simp
  | cons t ts ih=>
   simp only [zb8,zA] at h;intro u hu;rcases List.mem_cons.1 hu with rfl | hu
   ·exact .inr h.1
   ·exact ih h.2 u hu
theorem z31 {α:Type}:{l:List α}->{i:Nat}->{x:α}->z12 l i=some x->x∈l
 | [],i,x,h=>by cases i <;> simp [z12] at h
 | y :: l,0,x,h=>by simp only [z12,zI] at h;simp [h]
 | y :: l,i+1,x,h=>by simp only [z12] at h;exact List.mem_cons_of_mem _ (z31 h)
theorem z4o {α:Type}:{l:List α}->{i:Nat}->{x:α}->z12 l i=some x->i < l.length
 | [],i,x,h=>by cases i <;> simp [z12] at h
 | y :: l,0,x,h=>by simp
 | y :: l,i+1,x,h=>by simp only [z12] at h;have:=z4o h;simp;omega
structure Lent (w:World) (g gl:Ghost):Prop where
 tags:∀ b,gl.tag b≠.alien->gl.tag b = .ro∧b < w.heap.size
section
variable {w w':World} {g gl gc:Ghost} {n len:Nat}
theorem z5e (hl:Lent w g gl) (he:Ext w gl w' gc) {b:Nat} (hb:b < w.heap.size):w'.heap[b]? = w.heap[b]?∧gc.tag b=gl.tag b:=by
 refine he.keep b hb ?_;by_cases h:gl.tag b = .alien
 ·exact .inl h
 ·exact .inr (hl.tags b h).1
theorem merge_ro (hl:Lent w g gl) (he:Ext w gl w' gc) (ht:∀ b,g.tag b≠.alien->b < w.heap.size):RoKept w g w' (z3n g gc n len w.heap.size):=
 ⟨fun b hb=>by
  have hlt:=ht b (by rw [hb];simp);exact ⟨by simp only [z3n,if_pos hlt];exact hb,(z5e hl he hlt).1⟩⟩
theorem zj3 (hl:Lent w g gl) (he:Ext w gl w' gc) (ht:∀ b,g.tag b≠.alien->b < w.heap.size) {id:Nat} (hid:id < n∨n+len≤id):Same w g w' (z3n g gc n len w.heap.size) id:=by
 refine ⟨⟨fun q=>by simp only [z3n];rw [if_neg (by omega)],fun q b hb=>?_⟩,by simp only [z3n];rw [if_neg (by omega)],fun hb=>?_⟩
 ·have hlt:=ht b (by rw [hb];simp);exact ⟨by simp only [z3n,if_pos hlt];exact hb,(z5e hl he hlt).1⟩
 ·have hlt:=ht (g.blk id) (by rw [hb];simp);exact ⟨by simp only [z3n,if_pos hlt];exact hb,(z5e hl he hlt).1⟩
theorem zwl (hl:Lent w g gl) (he:Ext w gl w' gc):Ext w g w' (z3n g gc n len w.heap.size):=
 ⟨he.os,he.tape,he.output,he.drawn,he.size,fun b hb _=>⟨(z5e hl he hb).1,by simp only [z3n,if_pos hb]⟩⟩
theorem zqh (hl:Lent w g gl) (he:Ext w gl w' gc) {i:Nat} (hi:i < len):Moved w' gc w' (z3n g gc n len w.heap.size) i [] (n+i) []:=by
 refine ⟨fun q=>?_,fun q b hb=>⟨?_,rfl⟩⟩
 ·simp only [z3n];rw [if_pos (by omega)];congr 1;omega
 ·have hge:¬ b < w.heap.size:=by
   intro hlt;have:=(z5e hl he hlt).2;rw [hb] at this;by_cases h:gl.tag b = .alien
   ·rw [h] at this;simp at this
   ·rw [(hl.tags b h).1] at this;simp at this
  simp only [z3n,if_neg hge,hb,if_pos hi]
theorem merge_st {N:Nat} {a:Act} {σ:St} {ts:List Ty} {d:z33 ts} {v:Value} (hst:StOK N g w a σ) (hl:Lent w g gl) (he:Ext w gl w' gc)
  (hfr:∀ m,n≤m->m < n+8->Fresh g σ m) (hlen:(z08 ts d 0).2.length≤8) (hc:RoKept w' gc w' (z3n g gc n (z08 ts d 0).2.length w.heap.size)∨zb8 ts=true)
  (hres:zpj w' gc (z08 ts d 0) v) :
  let g':=z3n g gc n (z08 ts d 0).2.length w.heap.size;let σ':=σ.addObjs n (z08 ts d n).2
  StOK N g' w' a σ'∧VOK w' g' σ'.objs (z08 ts d n).1 v∧(∀ m,(m < n∨n+8≤m)->Fresh g σ m->Fresh g' σ' m∧m∉(z08 ts d n).1.ids):=by
 intro g' σ';have ht:=hst.heap.tags;let os:=(z08 ts d 0).2;have hosl:os.length=(z08 ts d 0).2.length:=rfl;have hos:(z08 ts d n).2=os:=zro ts d n 0;have hobjs:∀ id,σ'.objs id=if n≤id∧id < n+os.length then z12 os (id-n) else σ.objs id:=by
  intro id;show (σ.addObjs n (z08 ts d n).2).objs id=_;rw [ze8,hos]
 have hslots:σ'.slots=σ.slots:=zcn _ _ _;have hro:RoKept w g w' g':=merge_ro hl he ht;have hkept:∀ id,¬ Fresh g σ id->z15 g g' id (σ.objs id) (σ'.objs id):=by
  intro id hid;have hout:id < n∨n+os.length≤id:=by
   by_cases h:n≤id∧id < n+os.length
   ·exact absurd (hfr id h.1 (by omega)) hid
   ·omega
  rw [hobjs,if_neg (by omega)];exact z15.same (zj3 hl he ht hout)
 have hshift:Shift gc g' n os.length (z12 os) σ'.objs:=by
  refine ⟨fun i hi=>?_,fun i p hi=>?_⟩
  ·rw [hobjs,if_pos (by omega)];congr 1;omega
  ·show (z3n g gc n os.length w.heap.size).sv (n+i) p=_;simp only [z3n];rw [if_pos (by omega)];congr 1;omega
 have hcarry:=zy4 hc;refine ⟨⟨fun i av hi=>?_,⟨fun id x hx=>?_,fun b hb=>?_⟩,hst.size,hst.defers,hst.known.kept hro⟩,?_,fun m hm hf=>⟨⟨?_,fun b p hb=>?_,fun b hb=>?_,fun i av hi=>?_,fun id av hi=>?_⟩,?_⟩⟩
 ·rw [hslots] at hi;obtain ⟨u,hu,hok⟩:=hst.slots i av hi;exact ⟨u,hu,VOK.frame hro (fun id hid=>hkept id (fun hf=>hf.slots i av hi hid)) hok⟩
 ·rw [hobjs] at hx;by_cases hin:n≤id∧id < n+os.length
  ·rw [if_pos hin] at hx;obtain ⟨i,rfl⟩:∃ i,id=n+i:=⟨id-n,by omega⟩;have hi:i < os.length:=by omega
   rw [Nat.add_sub_cancel_left] at hx;obtain ⟨u,l,hxe,hflat⟩:=zrn ts d 0 x (z31 hx);have hobj:=hres.1.objs i x hx;subst hxe;refine ⟨hobj.1,?_⟩;have hsv:=hshift.sv i [] hi;rw [hsv];have hcr:z9s w' gc g' (.sl true u):=by
    rcases hc with h | h
    ·exact .inl h
    ·exact .inr (by simpa [Ty.flat] using hflat h)
   exact z9s.row hcr (zqh hl he hi) hobj.2
  ·rw [if_neg hin] at hx;refine z14.frame hro (zj3 hl he ht (by omega)) (fun y hy id' hid'=>hkept id' (fun hf=>?_)) (hst.heap.objs id x hx);subst hy;exact hf.cells id y hx hid'
 ·have hb':(z3n g gc n os.length w.heap.size).tag b≠.alien:=hb;simp only [z3n] at hb';by_cases hlt:b < w.heap.size
  ·have:=he.size;omega
  ·rw [if_neg hlt] at hb';refine hres.1.tags b ?_;intro hal;rw [hal] at hb';simp at hb'
 ·refine res_vok hshift ts d hcarry v (Nat.le_refl _) hres.2
 ·rw [hobjs,if_neg (by omega)];exact hf.objs
 ·have hb':(z3n g gc n os.length w.heap.size).tag b = .row m p:=hb;simp only [z3n] at hb';split at hb'
  ·exact hf.row b p hb'
  ·split at hb'
   ·split at hb'
    ·simp only [Tag.row.injEq] at hb';omega
    ·simp at hb'
   ·split at hb' <;> simp at hb'
   ·rename_i h1 _;exact h1 _ _ hb'
 ·have hb':(z3n g gc n os.length w.heap.size).tag b = .box m:=hb;simp only [z3n] at hb';split at hb'
  ·exact hf.box b hb'
  ·split at hb'
   ·split at hb' <;> simp at hb'
   ·split at hb'
    ·simp only [Tag.box.injEq] at hb';omega
    ·simp at hb'
   ·rename_i _ h1;exact h1 _ hb'
 ·rw [hslots] at hi;exact hf.slots i av hi
 ·rw [hobjs] at hi;split at hi
  ·obtain ⟨u,l,hxe,_⟩:=zrn ts d 0 _ (z31 hi);simp at hxe
  ·exact hf.cells id av hi
 ·intro hm';have:=res_ids ts d n m hm';rw [hos] at this;omega
end
end Go.Kz
namespace Go.Kz
variable {R:Type}
theorem zql {w:World} {g:Ghost} {objs:z2c}:{a:AVal}->{cs:List Value}->z6t a=true->AOK w g objs a cs->z1o w g objs a cs
 | .pr x c,cs,hl,h=>by
  simp only [z6t,zA,Bool.not_eq_true'] at hl;obtain ⟨c1,c2,rfl,h1,h2⟩:=h;obtain ⟨hag,hn1,hn2,hn3⟩:=z2t hl.1.1;have hlen:=h1.len;have hsz:x.sk.size=1:=by
   have:=hl.1.2;cases hsk:x.sk <;> rw [hsk] at this <;> simp [Sk.isAgg] at this;rfl
  rw [hsz] at hlen;obtain ⟨v,rfl⟩:=List.length_eq_one_iff.1 hlen;simp only [z1o];refine ⟨v,c2,rfl,z19 h1 ?_ hn1 hn2,zql hl.2 h2⟩
  rw [hag,hl.1.2];rfl
 | .un,cs,_,h=>by simp only [z1o];exact h
 | .data _ _,_,hl,_=>by simp [z6t] at hl
 | .nilS,_,hl,_=>by simp [z6t] at hl
 | .ref _ _ _,_,hl,_=>by simp [z6t] at hl
 | .view _ _ _ _ _,_,hl,_=>by simp [z6t] at hl
 | .bptr _ _,_,hl,_=>by simp [z6t] at hl
 | .eptr _ _ _,_,hl,_=>by simp [z6t] at hl
 | .mref _,_,hl,_=>by simp [z6t] at hl
 | .nv _ _ _ _,_,hl,_=>by simp [z6t] at hl
 | .clos _ _,_,hl,_=>by simp [z6t] at hl
 | .agg _,_,hl,_=>by simp [z6t] at hl
 | .tup _,_,hl,_=>by simp [z6t] at hl
theorem zf9 {w:World} {g:Ghost} {objs:z2c}:{a c:AVal}->{vs us:List Value}->z1o w g objs a vs->z1o w g objs c us->z1o w g objs (z4x a c) (vs++us)
 | .pr x y,c,vs,us,h,k=>by
  simp only [z1o,z4x] at h ⊢;obtain ⟨v,r,rfl,h1,h2⟩:=h
  exact ⟨v,r++us,rfl,h1,zf9 h2 k⟩
 | .un,c,vs,us,h,k=>by
  simp only [z1o] at h;subst h
  exact k
 | .data _ _,_,_,_,h,_=>by simp [z1o] at h
 | .nilS,_,_,_,h,_=>by simp [z1o] at h
 | .ref _ _ _,_,_,_,h,_=>by simp [z1o] at h
 | .view _ _ _ _ _,_,_,_,h,_=>by simp [z1o] at h
 | .bptr _ _,_,_,_,h,_=>by simp [z1o] at h
 | .eptr _ _ _,_,_,_,h,_=>by simp [z1o] at h
 | .mref _,_,_,_,h,_=>by simp [z1o] at h
 | .nv _ _ _ _,_,_,_,h,_=>by simp [z1o] at h
 | .clos _ _,_,_,_,h,_=>by simp [z1o] at h
 | .agg _,_,_,_,h,_=>by simp [z1o] at h
 | .tup _,_,_,_,h,_=>by simp [z1o] at h
theorem z9n {w:World} {g:Ghost} {σ:St} (hh:HeapOK w g σ.objs) {a:AVal} {t:Ty} {f:t.den->Option R} {r:R} (hv:a.val=true) (h:z0d σ 20 a t f=some r):a.isAgg=t.sk.isAgg:=by
 cases a with
 | data t' d=>
  simp only [z0d] at h;obtain ⟨rfl,_⟩:=z0u h
  rfl
 | nilS=>
  simp only [z0d] at h
  cases hb:t.isRo with
  | false=>rw [hb] at h;simp at h
  | true=>
   rw [hb] at h;obtain ⟨o,u,rfl,_⟩:=zbz h
   rfl
 | ref id p ep=>
  simp only [z0d] at h;obtain ⟨t',l,_,_,_,h⟩:=z4t hh h;obtain ⟨he,_⟩:=z0u h
  rw [←he];rfl
 | view id p ep x y=>
  simp only [z0d] at h;obtain ⟨t',l,_,_,_,h⟩:=z4t hh h;obtain ⟨he,_⟩:=z0u h
  rw [←he];rfl
 | bptr id p=>cases t <;> simp [z0d] at h <;> rfl
 | eptr id p ep=>cases t <;> simp [z0d] at h <;> rfl
 | mref id=>simp [z0d] at h
 | ifc t c=>simp [z0d] at h
 | nv pt id p ep=>
  cases pt with
  | true=>simp [z0d] at h
  | false=>
   simp only [z0d] at h;obtain ⟨_,_,_,_,_,_,_,_,_,h,_⟩:=zl0 hh h;obtain ⟨he,_⟩:=z0u h
   rw [←he];rfl
 | clos f c=>cases t <;> simp [z0d] at h <;> rfl
 | agg c=>
  cases c with
  | pr x y=>
   simp only [z0d] at h
   cases t <;> simp [z0d] at h <;> rfl
  | un=>
   simp only [z0d] at h
   cases t <;> simp [z0d] at h <;> rfl
  | _=>simp [AVal.val] at hv
 | tup c=>simp [AVal.val] at hv
 | pr x y=>simp [AVal.val] at hv
 | un=>simp [AVal.val] at hv
theorem z83 {w:World} {g:Ghost} {σ:St}:(n:Nat)->{a:AVal}->{t:Ty}->{k:t.den->Option R}->{r:R}->{cs:List Value}->z6k a=true->
  AOK w g σ.objs a cs->z0d σ n a t k=some r->∃ d,k d=some r∧t.isRo=true∧Rep w g none t d cs
 | 0,_,_,_,_,_,_,_,h=>by simp [z0d] at h
 | n+1,.data t' d,t,k,r,cs,_,hok,h=>by
  simp only [z0d] at h;obtain ⟨rfl,h⟩:=z0u h
  exact ⟨_,h,hok.1,hok.2⟩
 | n+1,.nilS,t,k,r,cs,_,hok,h=>by
  simp only [z0d] at h
  cases hb:t.isRo with
  | false=>rw [hb] at h;simp at h
  | true=>
   rw [hb] at h;obtain ⟨o,u,rfl,h⟩:=zbz h
   cases o with
   | true=>simp [Ty.isRo] at hb
   | false=>
    have hok':cs=[.slice none 0 0]:=hok;subst hok'
    exact ⟨_,h,rfl,none,0,rfl,Nat.le_refl _,Nat.zero_le _,fun hn=>absurd rfl hn⟩
 | n+1,.clos f c,t,k,r,cs,hn,hok,h=>by
  cases t with
  | fn f' t=>
   simp only [z0d] at h
   cases hb:Nat.beq f f' with
   | false=>rw [hb] at h;simp at h
   | true=>
    rw [hb] at h;have he:f=f':=zE hb;subst he;obtain ⟨vs,rfl,hc⟩:=hok;obtain ⟨d,hk,hr,hrep⟩:=z83 n (a:=c) (by simpa [z6k] using hn) hc h
    exact ⟨d,hk,by simpa [Ty.isRo] using hr,vs,rfl,hrep⟩
  | _=>simp [z0d] at h
 | n+1,.agg c,t,k,r,cs,hn,hok,h=>by
  simp only [z0d] at h
  exact z83 n (a:=c) (by simpa [z6k] using hn) hok h
 | n+1,.pr a b,t,k,r,cs,hn,hok,h=>by
  cases t with
  | pair t u=>
   simp only [z0d] at h;simp only [z6k,zA] at hn;obtain ⟨c1,c2,rfl,ha,hb⟩:=hok;obtain ⟨x,hk,hr1,hrep1⟩:=z83 n hn.1 ha h;obtain ⟨y,hk,hr2,hrep2⟩:=z83 n hn.2 hb hk
   exact ⟨(x,y),hk,by simp [Ty.isRo,hr1,hr2],c1,c2,rfl,hrep1,hrep2⟩
  | _=>simp [z0d] at h
 | n+1,.un,t,k,r,cs,_,hok,h=>by
  cases t with
  | unit=>
   simp only [z0d] at h
   exact ⟨(),h,rfl,hok⟩
  | _=>simp [z0d] at h
 | n+1,.ref _ _ _,_,_,_,_,hn,_,_=>by simp [z6k] at hn
 | n+1,.view _ _ _ _ _,_,_,_,_,hn,_,_=>by simp [z6k] at hn
 | n+1,.bptr _ _,_,_,_,_,hn,_,_=>by simp [z6k] at hn
 | n+1,.eptr _ _ _,_,_,_,_,hn,_,_=>by simp [z6k] at hn
 | n+1,.mref _,_,_,_,_,hn,_,_=>by simp [z6k] at hn
 | n+1,.nv _ _ _ _,_,_,_,_,hn,_,_=>by simp [z6k] at hn
 | n+1,.tup _,_,_,_,_,_,hok,_=>hok.elim
def zao (g:Ghost):Ghost:={ g with tag:=fun b=>match g.tag b with
 | .ro=>.ro
 | _=>.alien }
theorem zdm {g:Ghost} {b:Nat}:(zao g).tag b = .ro↔g.tag b = .ro:=by
 simp only [zao];cases g.tag b <;> simp
theorem zpf (w:World) (g:Ghost):RoKept w g w (zao g):=⟨fun b hb=>⟨zdm.2 hb,rfl⟩⟩
theorem zr9 {w:World} {g:Ghost} (ht:∀ b,g.tag b≠.alien->b < w.heap.size):Lent w g (zao g):=by
 refine ⟨fun b hb=>?_⟩;have h1:(zao g).tag b = .ro:=by
  simp only [zao] at hb ⊢;cases h:g.tag b <;> rw [h] at hb <;> simp at hb ⊢
 exact ⟨h1,ht b (by rw [zdm.1 h1];simp)⟩
theorem zzj {w:World} {g:Ghost} (ht:∀ b,g.tag b≠.alien->b < w.heap.size):Lent w g (roG g):=by
 refine ⟨fun b hb=>?_⟩;simp only [roG] at hb ⊢
 cases h:g.tag b with
 | alien=>rw [h] at hb;simp at hb
 | ro=>exact ⟨rfl,ht b (by rw [h];simp)⟩
 | row i p=>exact ⟨rfl,ht b (by rw [h];simp)⟩
 | box i=>exact ⟨rfl,ht b (by rw [h];simp)⟩
theorem zy9 {w:World} {g gl:Ghost} {σ:St} (hh:HeapOK w g σ.objs) (hgl:gl=roG g∨gl=zao g):{p:APat}->{a:AVal}->{vs:List Value}->{b:Bnd}->{k:p.den->Bnd->Option R}->{r:R}->
  (gl=roG g∨z6k a=true)->z4h p=true->z4b a=true->z1o w g σ.objs a vs->z2e σ p a b k=some r->∃ d,k d b=some r∧zhp w gl p d vs
 | .pr (.val t) q,.pr x y,vs,b,k,r,hm,hp,hv,h,hk=>by
  simp only [z2e] at hk;simp only [z4b,zA] at hv;simp only [z1o] at h;obtain ⟨v,rest,rfl,h1,h2⟩:=h;obtain ⟨hag,hn1,hn2,hn3⟩:=z2t hv.1;obtain ⟨cs,hok,hmk⟩:=z4y h1 hn3;have hd:∃ d,(z2e σ q y b fun dy b=>k (d,dy) b)=some r∧t.isRo=true∧Rep w gl none t d cs:=by
   rcases hm with rfl | hm
   ·exact z5r hh 20 hok hk
   ·simp only [z6k,zA] at hm;obtain ⟨d,hk,hr,hrep⟩:=z83 20 hm.1 hok hk;refine ⟨d,hk,hr,?_⟩;rcases hgl with rfl | rfl
    ·exact hrep.kept (zdw w g)
    ·exact hrep.kept (zpf w g)
  obtain ⟨d,hk',hr,hrep⟩:=hd;obtain ⟨dy,hk2,hargs⟩:=zy9 hh hgl (hm.imp _root_.id (fun hm=>by simp only [z6k,zA] at hm;exact hm.2)) (by simpa [z4h] using hp) hv.2 h2 hk'
  exact ⟨(d,dy),hk2,hr,⟨cs,hrep,by rw [hmk,z9n hh hv.1 hk]⟩,hargs⟩
 | .un,.un,vs,b,k,r,_,_,_,h,hk=>by
  simp only [z2e] at hk;simp only [z1o] at h;subst h
  exact ⟨(),hk,trivial⟩
 | .un,.pr _ _,_,_,_,_,_,_,_,_,hk=>by simp [z2e] at hk
 | .un,.data _ _,_,_,_,_,_,_,hv,_,_=>by simp [z4b] at hv
 | .un,.nilS,_,_,_,_,_,_,hv,_,_=>by simp [z4b] at hv
 | .un,.ref _ _ _,_,_,_,_,_,_,hv,_,_=>by simp [z4b] at hv
 | .un,.view _ _ _ _ _,_,_,_,_,_,_,hv,_,_=>by simp [z4b] at hv
 | .un,.bptr _ _,_,_,_,_,_,_,hv,_,_=>by simp [z4b] at hv
 | .un,.eptr _ _ _,_,_,_,_,_,_,hv,_,_=>by simp [z4b] at hv
 | .un,.mref _,_,_,_,_,_,_,hv,_,_=>by simp [z4b] at hv
 | .un,.nv _ _ _ _,_,_,_,_,_,_,hv,_,_=>by simp [z4b] at hv
 | .un,.clos _ _,_,_,_,_,_,_,hv,_,_=>by simp [z4b] at hv
 | .un,.agg _,_,_,_,_,_,_,hv,_,_=>by simp [z4b] at hv
 | .un,.tup _,_,_,_,_,_,_,hv,_,_=>by simp [z4b] at hv
 | .pr (.val _) _,.un,_,_,_,_,_,_,_,_,hk=>by simp [z2e] at hk
 | .pr (.val _) _,.data _ _,_,_,_,_,_,_,hv,_,_=>by simp [z4b] at hv
 | .pr (.val _) _,.nilS,_,_,_,_,_,_,hv,_,_=>by simp [z4b] at hv
 | .pr (.val _) _,.ref _ _ _,_,_,_,_,_,_,hv,_,_=>by simp [z4b] at hv
 | .pr (.val _) _,.view _ _ _ _ _,_,_,_,_,_,_,hv,_,_=>by simp [z4b] at hv
 | .pr (.val _) _,.bptr _ _,_,_,_,_,_,_,hv,_,_=>by simp [z4b] at hv
 | .pr (.val _) _,.eptr _ _ _,_,_,_,_,_,_,hv,_,_=>by simp [z4b] at hv
 | .pr (.val _) _,.mref _,_,_,_,_,_,_,hv,_,_=>by simp [z4b] at hv
 | .pr (.val _) _,.nv _ _ _ _,_,_,_,_,_,_,hv,_,_=>by simp [z4b] at hv
 | .pr (.val _) _,.clos _ _,_,_,_,_,_,_,hv,_,_=>by simp [z4b] at hv
 | .pr (.val _) _,.agg _,_,_,_,_,_,_,hv,_,_=>by simp [z4b] at hv
 | .pr (.val _) _,.tup _,_,_,_,_,_,_,hv,_,_=>by simp [z4b] at hv
 | .pr (.ref _) _,_,_,_,_,_,_,hp,_,_,_=>by simp [z4h] at hp
 | .pr (.bptr _) _,_,_,_,_,_,_,hp,_,_,_=>by simp [z4h] at hp
 | .pr (.clos _ _) _,_,_,_,_,_,_,hp,_,_,_=>by simp [z4h] at hp
 | .pr (.agg _) _,_,_,_,_,_,_,hp,_,_,_=>by simp [z4h] at hp
 | .pr (.pr _ _) _,_,_,_,_,_,_,hp,_,_,_=>by simp [z4h] at hp
 | .pr .un _,_,_,_,_,_,_,hp,_,_,_=>by simp [z4h] at hp
 | .val _,_,_,_,_,_,_,hp,_,_,_=>by simp [z4h] at hp
 | .ref _,_,_,_,_,_,_,hp,_,_,_=>by simp [z4h] at hp
 | .bptr _,_,_,_,_,_,_,hp,_,_,_=>by simp [z4h] at hp
 | .clos _ _,_,_,_,_,_,_,hp,_,_,_=>by simp [z4h] at hp
 | .agg _,_,_,_,_,_,_,hp,_,_,_=>by simp [z4h] at hp
section
variable {P:Program} {o:Oper} {a:Act} {w:World} {K:Act->World->Prop} {Q:Exit->Act->World->Prop} {c:Ctx} {σ:St} {g:Ghost} {k:St->Option R} {r:R} {base:Nat} {mo:Bool}
theorem done_K {σ':St} {g':Ghost} {w':World} {av:AVal} {v:Value} (hst:StOK c.ntmps g' w' a σ') (hext:Ext w g w' g')
  (hfr:∀ m,(m < base∨base+8≤m)->Fresh g σ m->Fresh g' σ' m∧m∉av.ids) (hn:σ'.next=σ.next) (hv:VOK w' g' σ'.objs av v)
  (h:σ'.putK c o.dst av k=some r) (hag:mo=false->z44 w w') (hK:z79 c.ntmps k r g w σ base mo K):K (a.put o.dst v) w':=by
 rcases z6h h with ⟨hd,hk⟩ | ⟨i,hd,hi,hk⟩
 ·rw [hd];exact hK σ' g' a w' hk hst hext (fun m hm hf=>(hfr m hm hf).1) hn hag
 ·rw [hd];exact hK _ g' _ w' hk (hst.put hi hv) hext (fun m hm hf=>(hfr m hm hf).1.set i (hfr m hm hf).2) hn hag
theorem zp2 {gv args all:AVal} {fid:Nat} {x:Operand} {vs:List Value} (hg:VOK w g σ.objs gv (a.eval x)) (hargs:z1o w g σ.objs args vs)
  (h:z5k gv args=some (fid,all)) :
  ∃ us,a.eval x = .func (.func fid) #[] us.toArray∧z1o w g σ.objs all (vs++us):=by
 unfold z5k at h;split at h
 ·rename_i f cap
  cases hl:z6t cap with
  | false=>rw [hl] at h;simp at h
  | true=>
   rw [hl] at h;simp only [cond_true,zI,Prod.mk.injEq] at h;obtain ⟨rfl,rfl⟩:=h;simp only [VOK] at hg;obtain ⟨cs,⟨us,rfl,hc⟩,hv⟩:=hg;exact ⟨us,hv,zf9 hargs (zql hl hc)⟩
 ·rename_i f t d
  cases hl:(z6t (z2r t d) && (z2r t d).sk.same t.sk) with
  | false=>rw [hl] at h;simp at h
  | true=>
   rw [hl] at h;simp only [cond_true,zI,Prod.mk.injEq] at h;obtain ⟨rfl,rfl⟩:=h;simp only [zA] at hl;simp only [VOK] at hg;obtain ⟨cs,⟨hro,us,rfl,hrep⟩,hv⟩:=hg;exact ⟨us,hv,zf9 hargs (zql hl.1 (z9v (by simpa [Ty.isRo] using hro) hrep (Sk.same_eq hl.2)))⟩
 ·simp at h
theorem zbu {a:AVal}:{l:List Callee}->{x:Callee}->zbv a l=some x->x∈l
 | [],_,h=>by simp [zbv] at h
 | y :: l,x,h=>by
  simp only [zbv] at h
  cases hf:y.fits a with
  | true=>rw [hf] at h;simp only [cond_true,zI] at h;simp [h]
  | false=>rw [hf] at h;exact List.mem_cons_of_mem _ (zbu h)
theorem zkw {fid:Nat} {p:APat} {res:List Ty} {F:p.den->Option (z33 res)} (hco:z03 P fid (.pure p res F)) {all:AVal} {vals:List Value} (hrun:(execOp a.eval o).run P w=(callFunc fid vals.toArray).run P w) (hall:z1o w g σ.objs all vals)
  (hst:StOK c.ntmps g w a σ) (hfr:∀ m,base≤m->m < base+8->Fresh g σ m)
  (h:(z4w σ base all p res F fun v σ=>σ.putK c o.dst v k)=some r) (hK:z79 c.ntmps k r g w σ base mo K):o.wp P a w K Q:=by
 ·unfold z4w at h
  cases hb:(z4h p && z4b all && (zb8 res || z6k all)) with
  | false=>rw [hb] at h;simp at h
  | true=>
   rw [hb] at h;simp only [cond_true] at h;simp only [zA,Bool.or_eq_true] at hb;have key:∀ gl,(gl=roG g∨gl=zao g)->(gl=roG g∨z6k all=true)->(gl=zao g∨zb8 res=true)->o.wp P a w K Q:=by
    intro gl hgl hmode hmode2;have hlent:Lent w g gl:=by
     rcases hgl with rfl | rfl
     ·exact zzj hst.heap.tags
     ·exact zr9 hst.heap.tags
    obtain ⟨d,hk,hro⟩:=zy9 hst.heap hgl hmode hb.1.1 hb.1.2 hall h;simp only [Option.bind_eq_some_iff] at hk;obtain ⟨rv,hF,hk⟩:=hk
    cases hb2:Nat.ble (z08 res rv base).2.length 8 with
    | false=>rw [hb2] at hk;simp at hk
    | true=>
     rw [hb2] at hk;simp only [cond_true] at hk;have hlen:=zL hb2;rw [zro res rv base 0] at hlen;have hdone:∀ v w',(∃ g',Ext w gl w' g'∧zpj w' g' (z08 res rv 0) v)->K (a.put o.dst v) w':=by
      intro v w' ⟨gc,hext,hres⟩;have hc:RoKept w' gc w' (z3n g gc base (z08 res rv 0).2.length w.heap.size)∨zb8 res=true:=by
       rcases hmode2 with rfl | hf
       ·left;refine ⟨fun b hb=>⟨?_,rfl⟩⟩;simp only [z3n];by_cases hlt:b < w.heap.size
        ·rw [if_pos hlt];have:=(z5e hlent hext hlt).2;rw [hb] at this;exact zdm.1 this.symm
        ·rw [if_neg hlt,hb]
       ·exact .inr hf
      obtain ⟨h1,h2,h3⟩:=merge_st hst hlent hext hfr hlen hc hres;exact done_K h1 (zwl hlent hext) h3 (ze9 _ _ _) h2 hk (fun _ b hb=>(z5e hlent hext hb).1) hK
     have hkn:zpl w gl:=by
      rcases hgl with rfl | rfl
      ·exact hst.known.kept (zdw w g)
      ·exact hst.known.kept (zpf w g)
     rcases hco w gl d vals rv hlent.tags hkn hro hF with ⟨hr1,hr2⟩ | ⟨v,w',hr1,hr2⟩
     ·unfold Oper.wp;rw [hrun,hr1,Oper.upon_enter];refine Calls.mono hr2 (fun e w' he=>?_);obtain ⟨v,rfl,hv⟩:=he;exact hdone v w' hv
     ·unfold Oper.wp;rw [hrun,hr1,Oper.upon_value];exact hdone v w' hr2
   by_cases hn:z6k all=true
   ·exact key (zao g) (.inr rfl) (.inr hn) (.inl rfl)
   ·exact key (roG g) (.inl rfl) (.inl rfl) (.inr (hb.2.resolve_right hn))
theorem zs0 (henv:zpm P c.env) {fid:Nat} {all:AVal} {vals:List Value} (hrun:(execOp a.eval o).run P w=(callFunc fid vals.toArray).run P w) (hall:z1o w g σ.objs all vals)
  (hst:StOK c.ntmps g w a σ) (hfr:∀ m,base≤m->m < base+8->Fresh g σ m)
  (h:(match zbv all (c.env fid) with
   | some (.pure p res F)=>z4w σ base all p res F fun v σ=>σ.putK c o.dst v k
   | _=>none)=some r) (hK:z79 c.ntmps k r g w σ base mo K):o.wp P a w K Q:=by
 split at h
 ·rename_i p res F hpick;exact zkw (henv fid _ (zbu hpick)) hrun hall hst hfr h hK
 ·simp at h
theorem op_call (henv:zpm P c.env) {cl:Call} {x:Operand} (ho:o.op = .call cl) (hcl:cl.callee = .value x)
  (hst:StOK c.ntmps g w a σ) (hfr:∀ m,base≤m->m < base+8->Fresh g σ m) {gv args:AVal} (hx:ev σ x=some gv) (hargs:evs σ cl.args.toList=some args)
  (h:(zi4 c σ base gv args fun v σ=>σ.putK c o.dst v k)=some r) (hK:z79 c.ntmps k r g w σ base mo K):o.wp P a w K Q:=by
 obtain ⟨eg,_⟩:=z24 hst hx;obtain ⟨ea,_⟩:=ze5 hst hargs;unfold zi4 at h;split at h
 ·rename_i fid all hcallee;obtain ⟨us,hfv,hall⟩:=zp2 eg ea hcallee;refine zs0 henv (fid:=fid) (all:=all) (vals:=(cl.args.toList.map a.eval)++us) ?_ hall hst hfr h hK;have e1:cl.args.map a.eval=(cl.args.toList.map a.eval).toArray:=by apply Array.toList_inj.1;rw [Array.toList_map]
  simp [execOp,ho,resolve,hcl,hfv,Deferred.ofValue,invoke,e1]
 ·simp at h
end
end Go.Kz
namespace Go.Kz
open Go.MapKept
variable {R:Type}
def zb2:Ty->TypeDesc
 | .int k=>.int k
 | .str=>.string
 | _=>.bool
theorem zc6 {P:Program} {t:Ty} {T:TypeId} (hk:z38 t=true) (h:z2j P t T):P.underlying T=some (zb2 t):=by
 cases t <;> simp [z38] at hk <;> simp only [z2j] at h <;> exact h.1
theorem zd9 {t:Ty} (hk:z38 t=true):t.noSl=true:=by
 cases t <;> simp [z38] at hk <;> rfl
theorem z9d {w:World} {g:Ghost} {o:Own} {t:Ty} {d:t.den} {cs:List Value} (hk:z38 t=true) (h:Rep w g o t d cs):IsKey (zb2 t) (mkV t.sk.isAgg cs):=by
 cases t <;> simp [z38] at hk
 ·obtain ⟨rfl,_⟩:=h;simp [zb2,mkV,Ty.sk,Sk.isAgg,IsKey]
 ·cases h;simp [zb2,mkV,Ty.sk,Sk.isAgg,IsKey]
 ·obtain ⟨s,rfl,_⟩:=h;simp [zb2,mkV,Ty.sk,Sk.isAgg,IsKey]
theorem key_eq {w:World} {g:Ghost} {o:Own} {t:Ty} {d e:t.den} {cs es:List Value} (hk:z38 t=true) (h:Rep w g o t d cs) (h':Rep w g o t e es) :
  (mkV t.sk.isAgg cs=mkV t.sk.isAgg es)↔z42 t d e=true:=by
 cases t <;> simp [z38] at hk
 ·obtain ⟨rfl,_⟩:=h;obtain ⟨rfl,_⟩:=h';simp [z42,mkV,Ty.sk,Sk.isAgg]
 ·cases h;cases h';simp [z42,mkV,Ty.sk,Sk.isAgg]
 ·obtain ⟨s,rfl,hs,_⟩:=h;obtain ⟨s',rfl,hs',_⟩:=h';simp only [z42,mkV,Ty.sk,Sk.isAgg,Bool.false_eq_true,if_false,List.headD_cons,Value.string.injEq,decide_eq_true_eq];constructor
  ·rintro rfl;rw [←hs,←hs']
  ·intro he;obtain ⟨⟨l⟩⟩:=s;obtain ⟨⟨l'⟩⟩:=s';simp only at hs hs';rw [hs,hs',he]
theorem za6 {d:TypeDesc} {k:Value}:(es:List MapEntry)->(i:Nat)->Instr.findNow d k es i=(Instr.findNow d k es 0).map fun x=>x.map fun y=>(i+y.1,y.2)
 | [],i=>by simp [Instr.findNow]
 | e :: es,i=>by
  simp only [Instr.findNow]
  cases Instr.sameNow d k e.key with
  | none=>rfl
  | some b=>
   cases b with
   | true=>simp
   | false=>
    simp only;rw [za6 es (i+1),za6 es (0+1)]
    cases Instr.findNow d k es 0 with
    | none=>rfl
    | some x=>cases x with
     | none=>rfl
     | some y=>simp;omega
theorem zxg {w:World} {g:Ghost} {kt vt:Ty} (hk:z38 kt=true) {k:kt.den} {kcs:List Value} (hkr:Rep w g none kt k kcs):{es:List MapEntry}->{m:List (kt.den×vt.den)}->z3f w g kt vt es m->
  (Instr.findNow (zb2 kt) (mkV kt.sk.isAgg kcs) es 0=some none∧z9a (z42 kt) m k=none∧
   ∀ d cs b,Rep w g none vt d cs->z3f w g kt vt (es++[⟨mkV kt.sk.isAgg kcs,mkV vt.sk.isAgg cs,b⟩]) (zcp (z42 kt) m k d))∨
  ∃ j e v cs,Instr.findNow (zb2 kt) (mkV kt.sk.isAgg kcs) es 0=some (some (j,e.val))∧es[j]? = some e∧e.key=mkV kt.sk.isAgg kcs∧z9a (z42 kt) m k=some v∧Rep w g none vt v cs∧e.val=mkV vt.sk.isAgg cs∧
   ∀ d cs,Rep w g none vt d cs->z3f w g kt vt (es.modify j fun e=>{ e with key:=mkV kt.sk.isAgg kcs,val:=mkV vt.sk.isAgg cs }) (zcp (z42 kt) m k d)
 | [],[],_=>.inl ⟨rfl,rfl,fun d cs b h=>⟨⟨kcs,hkr,rfl⟩,⟨cs,h,rfl⟩,trivial⟩⟩
 | [],_ :: _,h=>h.elim
 | _ :: _,[],h=>h.elim
 | e :: es,(k',v') :: m,⟨⟨c1,h1,e1⟩,⟨c2,h2,e2⟩,h⟩=>by
  have i1:=z9d hk hkr;have i2:=z9d hk h1;obtain ⟨r,hr,hiff⟩:=sameNow_of_keys i1 i2;have hq:=key_eq hk hkr h1;have hrk:r=z42 kt k k':=by
   cases r with
   | true=>exact (hq.1 (hiff.1 rfl)).symm
   | false=>
    cases hc:z42 kt k k' with
    | false=>rfl
    | true=>have:=hiff.2 (hq.2 hc);simp at this
  rw [←e1] at hr
  cases r with
  | true=>
   right;have hke:e.key=mkV kt.sk.isAgg kcs:=by rw [e1];exact (hiff.1 rfl).symm
   refine ⟨0,e,v',c2,by simp [Instr.findNow,hr],rfl,hke,by simp [z9a,←hrk],h2,e2,fun d cs hd=>?_⟩;simp only [zcp,←hrk,cond_true,List.modify_zero_cons]
   exact ⟨⟨c1,h1,by rw [←e1,hke]⟩,⟨cs,hd,rfl⟩,h⟩
  | false=>
   rcases zxg hk hkr h with ⟨f1,f2,f3⟩ | ⟨j,e',v,cs,f1,f2,f3,f4,f5,f6,f7⟩
   ·left;refine ⟨?_,by simp [z9a,←hrk,f2],fun d cs b hd=>?_⟩
    ·simp only [Instr.findNow,hr];rw [za6,f1];rfl
    ·simp only [zcp,←hrk,cond_false,List.cons_append];exact ⟨⟨c1,h1,e1⟩,⟨c2,h2,e2⟩,f3 d cs b hd⟩
   ·right;refine ⟨j+1,e',v,cs,?_,by simpa using f2,f3,by simp [z9a,←hrk,f4],f5,f6,fun d cs hd=>?_⟩
    ·simp only [Instr.findNow,hr];rw [za6,f1];simp;omega
    ·simp only [zcp,←hrk,cond_false,List.modify_succ_cons];exact ⟨⟨c1,h1,e1⟩,⟨c2,h2,e2⟩,f7 d cs hd⟩
theorem zh2:{t:Ty}->z47 t=true->t.noSl=true
 | .unit,_=>rfl
 | .pair a b,h=>by
  simp only [z47,zA] at h
  simp only [Ty.noSl,zd9 h.1,zh2 h.2,Bool.and_self]
 | .int _,h=>by simp [z47] at h
 | .bool,h=>by simp [z47] at h
 | .str,h=>by simp [z47] at h
 | .arr _ a,h=>by
  simp only [z47] at h
  simp only [Ty.noSl,zd9 h]
 | .sl _ _,h=>by simp [z47] at h
 | .ptr _,h=>by simp [z47] at h
 | .fn _ _,h=>by simp [z47] at h
theorem znk {t:Ty} (h:kTy t=true):z38 t=true∨∃ a b,t = .pair a b∧z47 (.pair a b)=true:=by
 cases t <;> first | exact .inl h | exact .inr ⟨_,_,rfl,h⟩
theorem zl6 {t:Ty} (h:kTy t=true):t.noSl=true:=by
 rcases znk h with h | ⟨a,b,rfl,h⟩
 ·exact zd9 h
 ·exact zh2 h
section
variable {P:Program} {o:Oper} {a:Act} {w:World} {K:Act->World->Prop} {Q:Exit->Act->World->Prop} {c:Ctx} {σ:St} {g:Ghost} {k:St->Option R} {r:R} {base:Nat} {mo:Bool}
theorem zu5 {t:TypeId} (ho:o.op = .makeMap t none) (hst:StOK c.ntmps g w a σ) (hf:Fresh g σ base) (h:z1s c σ base o k=some r) (hK:z79 c.ntmps k r g w σ base mo K):o.wp P a w K Q:=by
 simp only [z1s,ho] at h;split at h
 ·rename_i kt vt hmt
  cases hc:(kTy kt && vt.noSl) with
  | false=>rw [hc] at h;simp at h
  | true=>
   rw [hc] at h;simp only [cond_true] at h;simp only [zA] at hc;refine zf6 (ob:=.map #[] 0) (obj:=.map kt vt []) (tg:=.box base) (v:=undef) (v':=.map (some w.heap.size)) hst hf (.inl rfl) ?_ rfl ?_ (by simp) ?_ h hK
   ·simp only [execOp,ho];simp [Instr.makeMap]
   ·refine ⟨#[],0,?_,?_,z4p (zl6 hc.1),z4p hc.2,trivial,rfl,rfl⟩
    ·have hb:(z3a g w.heap.size base (.box base) undef).blk base=w.heap.size:=by simp [z3a]
     rw [hb];exact heap_alloc_new w _
    ·simp [z3a]
   ·simp only [VOK];refine ⟨_,⟨_,rfl,rfl,fun _ _ _ _=>?_⟩,rfl⟩;simp [z3a]
 ·simp at h
theorem zjr {t:Ty} {d:t.den} {v:Value} {objs:z2c} {cs:List Value} (ht:t.noSl=true) {w':World} {g':Ghost} {o':Own} (h:Rep w' g' o' t d cs) (hv:v=mkV t.sk.isAgg cs):VOK w g objs (.data t d) v:=
 ⟨cs,⟨z4p ht,Rep.noSl ht h⟩,hv⟩
theorem zc7 {i:Operand} {b:AVal} {kt:Ty} {f:kt.den->Option R} (hst:StOK c.ntmps g w a σ) (hk:kt.noSl=true) (hb:b.val=true) (hi:ev σ i=some b) (h:z0d σ 20 b kt f=some r) :
  ∃ d cs,f d=some r∧Rep w g none kt d cs∧a.eval i=mkV kt.sk.isAgg cs:=by
 obtain ⟨cs,hok,hmk,_⟩:=z28 hb (z24 hst hi).1;obtain ⟨d,hd,_,hr⟩:=z5r hst.heap 20 hok h;exact ⟨d,cs,hd,Rep.noSl hk hr,by rw [hmk,z9n hst.heap hb h]⟩
theorem map_turn {id:Nat} {kt vt:Ty} {m m':List (kt.den×vt.den)} {es:Array MapEntry} {ck:Nat} (hst:StOK c.ntmps g w a σ) (hobj:σ.objs id=some (.map kt vt m)) (hm:z3f w g kt vt es.toList m') (hck:ck=es.size) (hstamp:zea es.toList) :
  StOK c.ntmps g { w with heap:=w.heap.setIfInBounds (g.blk id) (.map es ck) } a (σ.setObj id (.map kt vt m'))∧Ext w g { w with heap:=w.heap.setIfInBounds (g.blk id) (.map es ck) } g∧
   ∀ n,Fresh g σ n->Fresh g (σ.setObj id (.map kt vt m')) n:=by
 obtain ⟨es0,ck0,hblk,htag,hkr,hvr,_,_⟩:=hst.heap.objs _ _ hobj;obtain ⟨h1,h2⟩:=heap_set (o':=.map es ck) hblk;have hro:RoKept w g { w with heap:=w.heap.setIfInBounds (g.blk id) (.map es ck) } g:=by
  refine ⟨fun b hb=>⟨hb,h2 b ?_⟩⟩;intro he;subst he;rw [htag] at hb;simp at hb
 refine ⟨hst.turn hro (fun i hi=>?_) (.inl (.inr (.inr (.inr (.inl ⟨kt,vt,m,m',hobj,rfl,rfl⟩))))) ⟨es,ck,h1,htag,hkr,hvr,hm.kept hro,hck,hstamp⟩ (fun b hb=>?_),⟨rfl,rfl,rfl,Nat.le_refl _,by simp,fun b _ hb=>⟨h2 b ?_,rfl⟩⟩,fun n hn=>?_⟩
 ·refine ⟨⟨fun q=>rfl,fun q b hb=>⟨hb,h2 b ?_⟩⟩,rfl,fun hb=>⟨hb,h2 _ ?_⟩⟩
  ·intro he;subst he;rw [htag] at hb;simp at hb
  ·intro he;rw [he,htag] at hb;simp only [Tag.box.injEq] at hb;exact hi hb.symm
 ·have:=hst.heap.tags b hb;simpa using this
 ·intro he;subst he;rw [htag] at hb;simp at hb
 ·refine Fresh.turn (g:=g) (fun b=>.inl rfl) ?_ (by simp) hn;intro heq;subst heq;have:=hn.objs;rw [hobj] at this;simp at this
theorem zfi {t E:TypeId} {s:Nat} (hund:P.underlying t=some (.slice E)) (hs:(sizeOf E).run P w = .ok s w) (ad:Option Addr) (len cap:Nat) (lo hi:Option Value) (l h:Int) (hlc:len≤cap)
  (hlo:(lo=none∧l=0)∨∃ k,lo=some (.int k l)) (hhi:(hi=none∧h=len)∨∃ k,hi=some (.int k h)) (h0:0≤l) (h1:l≤h) (h2:h≤(len:Int)) :
  (Instr.sliceAt t (.slice ad len cap) lo hi none).run P w = .ok (.slice (if cap-l.toNat=0 then ad else ad.map (·.add (l.toNat*s))) (h-l).toNat (cap-l.toNat)) w:=by
 have hb:∀ k code,(Instr.sliceBound (.int k h) cap code).run P w = .ok h.toNat w:=fun k code=>run_sliceBound w k h cap code (by omega) (by omega)
 have hb2:∀ (k:IntKind) code (y:Nat),l≤(y:Int)->(Instr.sliceBound (.int k l) y code).run P w = .ok l.toNat w:=fun k code y hy=>run_sliceBound w k l y code h0 hy
 have e1:(cap=l.toNat)=(cap-l.toNat=0):=propext (by constructor <;> omega);have e2:h.toNat-l.toNat=(h-l).toNat:=by omega
 have e3:len-l.toNat=((len:Int)-l).toNat:=by omega
 rcases hlo with ⟨rfl,rfl⟩ | ⟨k,rfl⟩ <;> rcases hhi with ⟨rfl,rfl⟩ | ⟨k',rfl⟩
 ·simp [Instr.sliceAt,Instr.slice,Instr.sliceBounds,run_underlying hund,hs]
 ·simp [Instr.sliceAt,Instr.slice,Instr.sliceBounds,run_underlying hund,hs,hb]
 ·have:=hb2 k .sliceB len (by omega);simp [Instr.sliceAt,Instr.slice,Instr.sliceBounds,run_underlying hund,hs,this,e1,e3]
 ·have:=hb2 k .sliceB h.toNat (by omega);simp [Instr.sliceAt,Instr.slice,Instr.sliceBounds,run_underlying hund,hs,hb,this,e1,e2]
theorem evI_ok {σ:St} (hst:StOK c.ntmps g w a σ) {x:Option Operand} {n:Option Int} (h:evI σ x=some n):(x.map a.eval=none∧n=none)∨∃ k i,x.map a.eval=some (.int k i)∧n=some i:=by
 cases x with
 | none=>simp only [evI,zI] at h;exact .inl ⟨rfl,h.symm⟩
 | some x=>
  simp only [evI] at h;split at h
  ·rename_i k i hx;simp only [zI] at h;exact .inr ⟨k,i,by simp [(z3k (z24 hst hx).1).1],h.symm⟩
  ·simp at h
theorem zzp (htt:zbd P c.tt) {t:TypeId} {x:Operand} {lo hi:Option Operand} (ho:o.op = .slice t x lo hi none) (hst:StOK c.ntmps g w a σ) (h:z1s c σ base o k=some r):Yield P o a w g σ c k r:=by
 simp only [z1s,ho] at h;split at h
 ·rename_i av ow u l hn hx hu hlo hhi;have hT:=htt _ _ hu;simp only [z2j] at hT;obtain ⟨⟨E,hund,hE⟩,_⟩:=hT;obtain ⟨ex,ef⟩:=z24 hst hx;clear ef;have hlo':(lo.map a.eval=none∧l.getD 0=0)∨∃ k,lo.map a.eval=some (.int k (l.getD 0)):=by
   rcases evI_ok hst hlo with ⟨h1,rfl⟩ | ⟨k,i,h1,rfl⟩
   ·exact .inl ⟨h1,rfl⟩
   ·exact .inr ⟨k,h1⟩
  have hhi':∀ n:Nat,(hi.map a.eval=none∧hn.getD (n:Int)=n)∨∃ k,hi.map a.eval=some (.int k (hn.getD (n:Int))):=fun n=>by
   rcases evI_ok hst hhi with ⟨h1,rfl⟩ | ⟨k,i,h1,rfl⟩
   ·exact .inl ⟨h1,rfl⟩
   ·exact .inr ⟨k,h1⟩
  have hsz:∀ w',(sizeOf E).run P w' = .ok u.size w':=hE.info.sizeOf;unfold zdt at h;split at h
  ·-- nil
   have hv:=zbc.1 ex;obtain ⟨hc,h⟩:=z1x h;simp only [zA,decide_eq_true_eq] at hc;refine yld (v:=.slice none 0 0) (fun w' _=>?_) (zbc.2 rfl) (fun m _=>by simp [AVal.ids]) h;have:=zfi (w:=w') hund (hsz w') none 0 0 _ _ (l.getD 0) (hn.getD ((0:Nat):Int)) (Nat.le_refl _) hlo' (hhi' 0) (by omega) (by simp;omega) (by simp;omega);simp only [execOp,ho,hv,Option.map_none];rw [hc.1] at this;simp only [Int.ofNat_zero] at this;rw [show hn.getD 0=0 from hc.2] at this;simp [this]
  ·-- read-only data
   rename_i t' d
   cases hs:t'.sk.same u.sk with
   | false=>rw [hs] at h;simp at h
   | true=>
    rw [hs] at h;have hsk:=Sk.same_eq hs;have hus:u.size=t'.size:=by rw [←Ty.sk_size,←Ty.sk_size,hsk]
    simp only [cond_true] at h;obtain ⟨hc,h⟩:=z1x h;simp only [zA,decide_eq_true_eq] at hc;obtain ⟨⟨c0,c1⟩,c2⟩:=hc;simp only [VOK] at ex;obtain ⟨cs,⟨hro,ad,cap,rfl,h1,h2,h3⟩,hv⟩:=ex;have hv':a.eval x = .slice ad (List.length d) cap:=hv;have hlen:=z7q d (l.getD 0) (hn.getD (List.length d:Int)) c0 c1 c2;refine yld (v:=.slice (if cap-(l.getD 0).toNat=0 then ad else ad.map (·.add ((l.getD 0).toNat*u.size))) (hn.getD (List.length d:Int)-l.getD 0).toNat (cap-(l.getD 0).toNat)) (fun w' _=>?_) ?_ (fun m _=>by simp [AVal.ids]) h
    ·have:=zfi (w:=w') hund (hsz w') ad (List.length d) cap _ _ (l.getD 0) (hn.getD (List.length d:Int)) h1 hlo' (hhi' _) c0 c1 c2;simp only [execOp,ho,hv',Option.map_none];simp [this]
    ·have hln:(sub d (l.getD 0) (hn.getD (List.length d:Int))).length=(hn.getD (List.length d:Int)-l.getD 0).toNat:=by rw [hlen];omega
     refine ⟨_,⟨hro,_,cap-(l.getD 0).toNat,rfl,by rw [hln];omega,by omega,fun hne=>?_⟩,by rw [hln];rfl⟩;have hpos:0 < (hn.getD (List.length d:Int)-l.getD 0).toNat:=by rw [←hln];exact List.length_pos_iff.2 hne
     have hdn:d≠[]:=by intro he;subst he;simp at c2 hpos;omega
     obtain ⟨b,off,cc,e,fz,rfl,htag,hcell,hsz',hel⟩:=h3 hdn;refine ⟨b,off+(l.getD 0).toNat*t'.size,cc,e,fz,?_,htag,hcell,?_,fun i hi=>?_⟩
     ·rw [if_neg (by omega)];simp only [Option.map_some,Addr.add_lit,hus]
     ·rw [hln];have:(hn.getD (List.length d:Int)-l.getD 0).toNat+(l.getD 0).toNat≤List.length d:=by omega
      have:=Nat.mul_le_mul_right t'.size this;rw [Nat.add_mul] at this;omega
     ·have hi3:(l.getD 0).toNat+i < List.length d:=by rw [hln] at hi;omega
      have hg:=zff d (l.getD 0) (hn.getD (List.length d:Int)) i hi hi3;rw [hg];have e1:off+(l.getD 0).toNat*t'.size+i*t'.size=off+((l.getD 0).toNat+i)*t'.size:=by rw [Nat.add_mul];omega
      rw [e1];exact hel _ hi3
  ·-- an owned row
   rename_i id ep;obtain ⟨t',d,hobj,_,hro,h⟩:=z4t hst.heap h
   cases hs:t'.sk.same u.sk with
   | false=>rw [hs] at h;simp at h
   | true=>
    rw [hs] at h;have hsk:=Sk.same_eq hs;have hus:u.size=t'.size:=by rw [←Ty.sk_size,←Ty.sk_size,hsk]
    simp only [cond_true] at h;obtain ⟨hc,h⟩:=z1x h;simp only [zA,decide_eq_true_eq] at hc;obtain ⟨⟨c0,c1⟩,c2⟩:=hc;simp only [VOK] at ex;obtain ⟨cs,⟨v,rfl,hone,hv⟩,hv'⟩:=ex;have e1:=(hv _ _ _ hobj).2 rfl;obtain ⟨_,ad,cap,_,hsv,h1,h2,_⟩:=hst.heap.objs _ _ hobj;have hvx:a.eval x = .slice ad (List.length d) cap:=by rw [hv'];show v=_;rw [e1,hsv]
    refine yld (v:=z2g (g.sv id []) t'.size (l.getD 0) (hn.getD (List.length d:Int))) (fun w' _=>?_) ?_ (fun m hm=>?_) h
    ·have:=zfi (w:=w') hund (hsz w') ad (List.length d) cap _ _ (l.getD 0) (hn.getD (List.length d:Int)) h1 hlo' (hhi' _) c0 c1 c2;simp only [execOp,ho,hvx,Option.map_none,hsv,z2g];rw [hus] at this;simp [this]
    ·simp only [VOK];refine ⟨[z2g (g.sv id []) t'.size (l.getD 0) (hn.getD (List.length d:Int))],⟨_,rfl,by rw [hsv];rfl,fun t2 l2 e2 ho2=>?_⟩,rfl⟩;rw [hobj] at ho2;simp only [zI,Obj.row.injEq] at ho2;obtain ⟨rfl,hl2,rfl⟩:=ho2;have hl2:=eq_of_heq hl2;subst hl2;exact ⟨Nat.le_refl _,fun _=>⟨rfl,c0,c1,c2,rfl⟩⟩
    ·simp only [AVal.ids,List.mem_singleton];intro he;subst he;have:=hm.objs;rw [hobj] at this;simp at this
  ·simp at h
 ·simp at h
theorem zty {t E:TypeId} {s:Nat} (hund:P.underlying t=some (.slice E)) (hs:(sizeOf E).run P w = .ok s w) (ad:Option Addr) (len cap:Nat) (kh km:IntKind) (h m:Int) (h0:0≤h) (h1:h≤m) (h2:m≤(cap:Int)) :
  (Instr.sliceAt t (.slice ad len cap) none (some (.int kh h)) (some (.int km m))).run P w = .ok (.slice (if m.toNat=0 then ad else ad.map (·.add (0*s))) h.toNat m.toNat) w:=by
 have hb:∀ code,(Instr.sliceBound (.int km m) cap code).run P w = .ok m.toNat w:=fun code=>run_sliceBound w km m cap code (by omega) (by omega)
 have hb2:∀ code,(Instr.sliceBound (.int kh h) m.toNat code).run P w = .ok h.toNat w:=fun code=>run_sliceBound w kh h m.toNat code h0 (by omega)
 simp [Instr.sliceAt,Instr.slice,Instr.sliceBounds,run_underlying hund,hs,hb,hb2]
theorem zw2 (htt:zbd P c.tt) {t:TypeId} {x:Operand} {lo hi:Option Operand} {mx:Operand} (ho:o.op = .slice t x lo hi (some mx)) (hst:StOK c.ntmps g w a σ) (h:z1s c σ base o k=some r)
  (hK:z79 c.ntmps k r g w σ base mo K):o.wp P a w K Q:=by
 cases lo with
 | some lo=>simp [z1s,ho] at h
 | none=>
 cases hi with
 | none=>simp [z1s,ho] at h
 | some hi=>
 simp only [z1s,ho] at h;split at h
 ·rename_i id ep kh hn km m ow u hx hhi hmx hu;split at h
  ·rename_i t' l e hobj
   cases hb:(Nat.beq e ep && t'.sk.same u.sk) with
   | false=>rw [hb] at h;simp at h
   | true=>
    rw [hb] at h;simp only [cond_true] at h;simp only [zA] at hb;have hee:=zE hb.1;subst hee;have hsk:=Sk.same_eq hb.2;have hus:u.size=t'.size:=by rw [←Ty.sk_size,←Ty.sk_size,hsk]
    obtain ⟨hc,h⟩:=z1x h;simp only [zA,decide_eq_true_eq] at hc;obtain ⟨⟨c0,c1⟩,c2⟩:=hc;have c0:@LE.le Int Int.instLEInt 0 hn:=c0;have c1:@LE.le Int Int.instLEInt hn m:=c1;have c2:@LE.le Int Int.instLEInt m (l.length:Int):=c2;have hT:=htt _ _ hu;simp only [z2j] at hT;obtain ⟨⟨E,hund,hE⟩,_⟩:=hT;obtain ⟨ex,ef⟩:=z24 hst hx;obtain ⟨vh,_⟩:=z3k (z24 hst hhi).1;obtain ⟨vm,_⟩:=z3k (z24 hst hmx).1;simp only [VOK] at ex;obtain ⟨cs,⟨v,rfl,hone,hv⟩,hv'⟩:=ex;have e1:=(hv _ _ _ hobj).2 rfl;obtain ⟨hro,ad,cap,_,hsv,hlc,hcm,hrow⟩:=hst.heap.objs _ _ hobj;have hv2:a.eval x = .slice ad l.length cap:=by rw [←hsv,←e1];exact hv'
    have hlen:(sub l 0 hn).length=hn.toNat:=by rw [z7q l 0 hn (Int.le_refl 0) c0 (by omega)];simp
    have hrun:=zty (P:=P) (w:=w) hund (hE.info.sizeOf w) ad l.length cap kh km hn m c0 c1 (by omega);have hok:z14 w (svG g id (.slice (if m.toNat=0 then ad else ad.map (·.add (0*u.size))) hn.toNat m.toNat)) (σ.setObj id (.row t' (sub l 0 hn) (e+1))).objs id (.row t' (sub l 0 hn) (e+1)):=by
     refine ⟨hro,(if m.toNat=0 then ad else ad.map (·.add (0*u.size))),m.toNat,by rw [hlen];simp [svG],by rw [hlen];simp [svG],by rw [hlen];omega,by omega,?_⟩;rcases hrow with ⟨rfl,hl,rfl⟩ | ⟨b,off,c',ee,rfl,htag,hcell,hsz,hel⟩
     ·left;rw [hl] at c2;simp only [List.length_nil] at c2;exact ⟨by simp,List.eq_nil_of_length_eq_zero (by rw [hlen];omega),by omega⟩
     ·right;have hmul:m.toNat*t'.size≤cap*t'.size:=Nat.mul_le_mul_right _ (by omega);refine ⟨b,off,c',ee,by split <;> simp [Addr.add],htag,hcell,by omega,fun i hi=>?_⟩;have hi':i < (sub l 0 hn).length:=hi;have hi3:(0:Int).toNat+i < l.length:=by simp;omega
      have:=Rep.anyOwn (o':=none) hro (hel ((0:Int).toNat+i) hi3);have hg:=zff l 0 hn i hi' hi3;refine Rep.anyOwn hro (o:=none) ?_;have h2:(sub l 0 hn).get ⟨i,hi'⟩=l.get ⟨(0:Int).toNat+i,hi3⟩:=hg;show Rep w _ none t' ((sub l 0 hn).get ⟨i,hi'⟩) _;rw [h2];have e0:(0:Int).toNat+i=i:=by simp
      have:=Rep.kept (show RoKept w g w (svG g id (.slice (if m.toNat=0 then some ⟨b,off,none⟩ else (some ⟨b,off,none⟩:Option Addr).map (·.add (0*u.size))) hn.toNat m.toNat)) from ⟨fun b hb=>⟨hb,rfl⟩⟩) this;simpa [e0] using this
    obtain ⟨h1,h2,h3⟩:=zrh hst hobj (Nat.lt_succ_self e) hok;refine z3i (v:=.slice (if m.toNat=0 then ad else ad.map (·.add (0*u.size))) hn.toNat m.toNat) (g:=g) (base:=base) ?_ h1 h2 (fun n _ hfn=>⟨h3 n hfn,by simp only [AVal.ids,List.mem_singleton];intro he;subst he;have:=hfn.objs;rw [hobj] at this;simp at this⟩) rfl ?_ h (fun _=>z44.refl w) hK
    ·simp only [execOp,ho,hv2,vh,vm,Option.map_some,Option.map_none];simp [hrun]
    ·exact zdn (u:=t') (l:=sub l 0 hn) (by simp [St.setObj,z0j]) (by simp [svG]) rfl
  ·simp at h
 ·simp at h
end
end Go.Kz
namespace Go.Kz
variable {R:Type}
def EqsOK (P : Program) (eqs : Nat -> Bool) : Prop := ∀ T, eqs T = true -> P.stoodInHeld T = false ∧ P.eqGuardType P.depth T = false ∧ ∀ fs, P.underlying T = some (.struct fs) -> ∀ f ∈ fs.toList, f.name ≠ "_"
def eqsB (P:Program):List Nat->Bool
 | []=>true
 | T :: l=>(!P.stoodInHeld T && !P.eqGuardType P.depth T && (match P.underlying T with
  | some (.struct fs) => fs.toList.all fun f => !(f.name == "_")
  | some (.array _ _)=>true
  | _=>false)) && eqsB P l
theorem zqv {P:Program}:{l:List Nat}->eqsB P l=true->EqsOK P (fun T=>z2q T l)
 | [],_,_,h=>by simp [z2q] at h
 | T :: l,hb,T',h=>by
  simp only [eqsB,zA,Bool.not_eq_true'] at hb;simp only [z2q] at h
  cases he:Nat.beq T T' with
  | false=>rw [he] at h;exact zqv hb.2 T' h
  | true=>
   obtain rfl:=zE he;refine ⟨hb.1.1.1,hb.1.1.2,?_⟩;have h1:=hb.1.2;split at h1
   ·rename_i fs hu;intro fs' hu' f hf;rw [hu] at hu';cases hu';have:=List.all_eq_true.1 h1 f hf;simpa using this
   ·rename_i hu;intro fs' hu';rw [hu] at hu';cases hu'
   ·simp at h1
theorem zt1 {P:Program} {w w':World} {g:Ghost} {t:Ty} {T:TypeId} {d e:t.den} {cs es:List Value} (D:Nat) (hk:z38 t=true) (hT:z2j P t T) (h:Rep w g none t d cs) (h':Rep w g none t e es) :
  ∃ u v,cs=[u]∧es=[v]∧(Op.equalIn (D+1) T u v).run P w' = .ok (z42 t d e) w':=by
 cases t <;> simp [z38] at hk <;> simp only [z2j] at hT
 ·obtain ⟨rfl,_⟩:=h;obtain ⟨rfl,_⟩:=h';refine ⟨_,_,rfl,rfl,?_⟩;rw [run_equalIn_int w' D T _ _ _ _ hT.1];congr 1
 ·cases h;cases h';exact ⟨_,_,rfl,rfl,run_equalIn_bool w' D T _ _ hT.1⟩
 ·obtain ⟨s,rfl,hs,_⟩:=h;obtain ⟨s',rfl,hs',_⟩:=h';refine ⟨_,_,rfl,rfl,?_⟩;rw [run_equalIn_string w' D T _ _ hT.1,ByteArray.toList_eq,ByteArray.toList_eq];congr 1;rw [Bool.eq_iff_iff];simp [z42,hs,hs']
theorem zba {P : Program} {w w' : World} {g : Ghost} (D : Nat) {xs ys : Array Value} : {t : Ty} -> {fs : List Field} -> {off : Nat} -> {d e : t.den} -> {cs es : List Value} -> z47 t = true -> z6v P t fs off -> (∀ f ∈ fs, f.name ≠ "_") ->
  Rep w g none t d cs->Rep w g none t e es->xs.toList.drop off=cs->ys.toList.drop off=es->(Op.eqFields (D+1) xs ys fs).run P w' = .ok (eqD t d e) w'
 | .unit,[],off,d,e,cs,es,_,_,_,_,_,_,_=>by simp [Op.eqFields,eqD]
 | .unit,_ :: _,off,d,e,cs,es,_,hf,_,_,_,_,_=>by simp [z6v] at hf
 | .pair a b,[],off,d,e,cs,es,_,hf,_,_,_,_,_=>by simp [z6v] at hf
 | .pair a b,f :: fs,off,(x,u),(y,v),cs,es,ht,hf,hn,h,h',hx,hy=>by
  simp only [z47,zA] at ht;simp only [z6v] at hf;obtain ⟨c1,c2,rfl,h1,h2⟩:=h;obtain ⟨e1,e2,rfl,h3,h4⟩:=h';obtain ⟨p,q,rfl,rfl,hrun⟩:=zt1 (w':=w') D ht.1 hf.2.1 h1 h3;have hsz:a.size=1:=by have:=h1.len;simpa using this.symm
  have hpl:P.plainKey f.type=true:=by
   have:=zc6 ht.1 hf.2.1;unfold Program.plainKey;rw [this];have hk:=ht.1;cases a <;> simp [z38] at hk <;> rfl
  have getx:xs[off]? = some p:=by
   have:(xs.toList.drop off)[0]? = some p:=by rw [hx];rfl
   rw [List.getElem?_drop] at this;simpa using this
  have gety:ys[off]? = some q:=by
   have:(ys.toList.drop off)[0]? = some q:=by rw [hy];rfl
   rw [List.getElem?_drop] at this;simpa using this
  have hxt:xs.toList.drop (off+a.size)=c2:=by
   rw [hsz,←List.drop_drop,hx];rfl
  have hyt:ys.toList.drop (off+a.size)=e2:=by
   rw [hsz,←List.drop_drop,hy];rfl
  have ih:=zba (w':=w') D ht.2 hf.2.2 (fun f hf=>hn f (by simp [hf])) h2 h4 hxt hyt
  have hn0 : f.name ≠ "_" := hn f (by simp)
  have p1:=run_part_plain w' hpl getx;have p2:=run_part_plain w' hpl gety;simp only [Op.eqFields,hf.1,hn0,ne_eq,not_false_eq_true,if_true,Sem.run_bind,p1,p2,hrun,Result.andThen_ok];simp only [eqD]
  cases z42 a x y with
  | false=>simp
  | true=>simpa using ih
 | .int _,_,_,_,_,_,_,ht,_,_,_,_,_,_=>by simp [z47] at ht
 | .bool,_,_,_,_,_,_,ht,_,_,_,_,_,_=>by simp [z47] at ht
 | .str,_,_,_,_,_,_,ht,_,_,_,_,_,_=>by simp [z47] at ht
 | .arr _ _,_,_,_,_,_,_,_,hf,_,_,_,_,_=>by simp [z6v] at hf
 | .sl _ _,_,_,_,_,_,_,ht,_,_,_,_,_,_=>by simp [z47] at ht
 | .ptr _,_,_,_,_,_,_,ht,_,_,_,_,_,_=>by simp [z47] at ht
 | .fn _ _,_,_,_,_,_,_,ht,_,_,_,_,_,_=>by simp [z47] at ht
section
variable {P:Program} {o:Oper} {a:Act} {w:World} {c:Ctx} {σ:St} {g:Ghost} {k:St->Option R} {r:R} {base:Nat}
theorem zjo {w':World} (D:Nat) {xs ys:Array Value} {t:Ty} {E:TypeId} (hk:z38 t=true) (hE:z2j P t E):(l m:List t.den)->(j:Nat)->l.length=m.length->
  (∀ (i:Nat) (h:i < l.length),Rep w g none t (l.get ⟨i,h⟩) (seg xs.toList (j+i) 1))->(∀ (i:Nat) (h:i < m.length),Rep w g none t (m.get ⟨i,h⟩) (seg ys.toList (j+i) 1))->
  (Op.eqItems (D+1) E 1 xs ys (List.range' j l.length)).run P w' = .ok (z5p (z42 t) l m) w'
 | [],[],j,_,_,_=>by simp [Op.eqItems,z5p]
 | x :: l,y :: m,j,hl,hx,hy=>by
  have ih:=zjo (w':=w') D hk hE l m (j+1) (by simpa using hl) (fun i h=>by
   have:=hx (i+1) (by simpa using h);rw [show j+1+i=j+(i+1) from by omega];exact this) (fun i h=>by
   have:=hy (i+1) (by simpa using h);rw [show j+1+i=j+(i+1) from by omega];exact this)
  have h1:=hx 0 (by simp);have h2:=hy 0 (by simp);simp only [Nat.add_zero] at h1 h2;obtain ⟨p,q,e1,e2,hrun⟩:=zt1 (w':=w') D hk hE h1 h2;have getx:xs[j]? = some p:=by
   have:=congrArg (fun l=>l[0]?) e1;simpa [seg] using this
  have gety:ys[j]? = some q:=by
   have:=congrArg (fun l=>l[0]?) e2;simpa [seg] using this
  have hpl:P.plainKey E=true:=by
   have:=zc6 hk hE;unfold Program.plainKey;rw [this];cases t <;> simp [z38] at hk <;> rfl
  have p1:=run_part_plain w' hpl getx;have p2:=run_part_plain w' hpl gety;have hrun':(Op.equalIn (D+1) E p q).run P w' = .ok (z42 t x y) w':=hrun;simp only [List.length_cons,List.range'_succ,Op.eqItems,Nat.mul_one,Sem.run_bind,p1,p2,hrun',Result.andThen_ok,z5p]
  cases z42 t x y with
  | false=>simp
  | true=>simpa using ih
 | [],_ :: _,_,hl,_,_=>by simp at hl
 | _ :: _,[],_,hl,_,_=>by simp at hl
theorem zed {T : TypeId} {ta tb : Ty} {d e : (Ty.pair ta tb).den} {cs es : List Value} (hty : z47 (.pair ta tb) = true) (hT : z2j P (.pair ta tb) T) (hs : P.stoodInHeld T = false) (hnm : ∀ fs, P.underlying T = some (.struct fs) -> ∀ f ∈ fs.toList, f.name ≠ "_")
  (hr:Rep w g none (.pair ta tb) d cs) (hr':Rep w g none (.pair ta tb) e es) (w':World):(Op.equal T (.agg cs.toArray) (.agg es.toArray)).run P w' = .ok (eqD (.pair ta tb) d e) w':=by
 show (Op.equalIn (9999+1) T _ _).run P w'=_;simp only [z2j] at hT;obtain ⟨⟨fs,hu,hfs⟩,_⟩:=hT;have hfo:P.fieldsOf T=fs:=by simp [Program.fieldsOf,hu]
 rw [run_equalIn_struct w' 9999 T _ _ (by rw [hfo];exact hu) hs,hfo];exact zba 9998 hty hfs (hnm fs hu) hr hr' (by simp) (by simp)
theorem zw7 (htt:zbd P c.tt) (heq:EqsOK P c.eqs) {op:BinOp} {t t':TypeId} {x y:Operand} (ho:o.op = .binOp op t x y t') (hst:StOK c.ntmps g w a σ) (h:z1s c σ base o k=some r):Yield P o a w g σ c k r:=by
 refine zzx htt (fun ax ay hx hy u htu h=>?_) ho hst h
 cases hb:(c.eqs t && z47 u && ax.val && ay.val) with
 | false=>rw [hb] at h;simp at h
 | true=>
  rw [hb] at h;simp only [cond_true] at h;simp only [zA] at hb;obtain ⟨⟨⟨hq,hty⟩,hvx⟩,hvy⟩:=hb;have hno:=zh2 hty;obtain ⟨d,cs,h,hr,hev⟩:=zc7 hst hno hvx hx h;obtain ⟨e,es,h,hr',hev'⟩:=zc7 hst hno hvy hy h;have hT:=htt _ _ htu;obtain ⟨hs,hgd,hnm⟩:=heq _ hq;have hag:u.sk.isAgg=true:=by
   cases u <;> simp [z47] at hty <;> first | rfl | (simp only [z2j] at hT)
  have hrun:∀ w',(Op.equal t (.agg cs.toArray) (.agg es.toArray)).run P w' = .ok (eqD u d e) w':=fun w'=>by
   show (Op.equalIn (9999+1) t _ _).run P w'=_
   cases u with
   | pair ta tb=>
    simp only [z2j] at hT;obtain ⟨⟨fs,hu,hfs⟩,_⟩:=hT;have hfo:P.fieldsOf t=fs:=by simp [Program.fieldsOf,hu]
    rw [run_equalIn_struct w' 9999 t _ _ (by rw [hfo];exact hu) hs,hfo]
    exact zba 9998 hty hfs (hnm fs hu) hr hr' (by simp) (by simp)
   | arr n ta=>
    simp only [z47] at hty;simp only [z2j] at hT;obtain ⟨⟨E,hu,hE⟩,_⟩:=hT;obtain ⟨i,z,hi,hsz,_⟩:=hE.info.info;have hs1:ta.size=1:=by cases ta <;> simp [z38] at hty <;> rfl
    have hce:P.cellsOf E=1:=by simp [Program.cellsOf,hi,hsz,hs1]
    rw [run_equalIn_array w' 9999 _ _ hu hi,hce];obtain ⟨l1,l2,l3⟩:=hr;obtain ⟨m1,m2,m3⟩:=hr';have:=zjo (P:=P) (w:=w) (g:=g) (w':=w') 9998 (xs:=cs.toArray) (ys:=es.toArray) hty hE d e 0 (l1.trans m1.symm) (fun i h=>by
     have:=l3 i h;rw [hs1,Nat.mul_one] at this;simpa [stp] using this) (fun i h=>by
     have:=m3 i h;rw [hs1,Nat.mul_one] at this;simpa [stp] using this)
    rw [List.range_eq_range',←l1]
    exact this
   | unit=>simp only [z2j] at hT
   | int _=>simp [z47] at hty
   | bool=>simp [z47] at hty
   | str=>simp [z47] at hty
   | sl _ _=>simp [z47] at hty
   | ptr _=>simp [z47] at hty
   | fn _ _=>simp [z47] at hty
  have ex:a.eval x = .agg cs.toArray:=by rw [hev];simp [mkV,hag]
  have ey:a.eval y = .agg es.toArray:=by rw [hev'];simp [mkV,hag]
  refine z6w (f:=fun v=>σ.putK c o.dst v k) (s:=binOp op t (.agg cs.toArray) (.agg es.toArray)) rfl ?_
   (fun w v hv=>by simp [execOp,ho,ex,ey,run_eqGuard_agg w op t x y _ _ hgd,hv])
  cases op <;> simp only [zqw] at h
  case eql=>exact Plain.bool h (fun w=>by simp only [binOp,Sem.run_bind,hrun,Result.andThen_ok,Sem.run_pure])
  case neq=>exact Plain.bool h (fun w=>by simp only [binOp,Sem.run_bind,hrun,Result.andThen_ok,Sem.run_pure])
  all_goals simp at h
end
end Go.Kz
namespace Go.Kz
open Go.MapKept
variable {R:Type}
theorem zsg {t:Ty} (hk:z38 t=true) {d e:t.den} (h:z42 t d e=true):d=e:=by
 cases t <;> simp [z38] at hk <;> simpa [z42] using h
theorem eqD_eq:{t:Ty}->z47 t=true->(∀ n u,t≠.arr n u)->{d e:t.den}->eqD t d e=true->d=e
 | .unit,_,_,_,_,_=>rfl
 | .pair a b,ht,_,(x,u),(y,v),h=>by
  simp only [z47,zA] at ht;simp only [eqD,zA] at h;have h1:=zsg ht.1 h.1;subst h1
  cases b with
  | arr n t=>
   simp only [eqD] at h;have:∀ (l m:List t.den),z5p (z42 t) l m=true->l=m:=by
    intro l
    induction l with
    | nil=>intro m hm;cases m with
     | nil=>rfl
     | cons=>simp [z5p] at hm
    | cons p l ih=>
     intro m hm
     cases m with
     | nil=>simp [z5p] at hm
     | cons q m=>
      simp only [z5p] at hm
      cases hc:z42 t p q with
      | false=>rw [hc] at hm;simp at hm
      | true=>
       rw [hc] at hm;have:=zsg (by simpa [z47] using ht.2) hc;subst this;rw [ih m (by simpa using hm)]
   rw [this u v h.2]
  | pair c d=>rw [eqD_eq ht.2 (by intro n u h;cases h) h.2]
  | unit=>rfl
  | int _=>simp [z47] at ht
  | bool=>simp [z47] at ht
  | str=>simp [z47] at ht
  | sl _ _=>simp [z47] at ht
  | ptr _=>simp [z47] at ht
  | fn _ _=>simp [z47] at ht
 | .arr n t,_,hn,_,_,_=>absurd rfl (hn n t)
 | .int _,ht,_,_,_,_=>by simp [z47] at ht
 | .bool,ht,_,_,_,_=>by simp [z47] at ht
 | .str,ht,_,_,_,_=>by simp [z47] at ht
 | .sl _ _,ht,_,_,_,_=>by simp [z47] at ht
 | .ptr _,ht,_,_,_,_=>by simp [z47] at ht
 | .fn _ _,ht,_,_,_,_=>by simp [z47] at ht
theorem zjf {P:Program} {w w':World} {g:Ghost} (em:Bool) (n:Nat) {xs:Array Value}:{t:Ty}->{fs:List Field}->{off:Nat}->{d:t.den}->{cs:List Value}->z47 t=true->z6v P t fs off->
  Rep w g none t d cs->xs.toList.drop off=cs->∀ f∈fs,∃ a,(part f.type xs f.offset).run P w' = .ok a w'∧(Instr.checkKey em (n+1) f.type a).run P w' = .ok () w'
 | .unit,[],_,_,_,_,_,_,_=>by simp
 | .unit,_ :: _,_,_,_,_,hf,_,_=>by simp [z6v] at hf
 | .pair _ _,[],_,_,_,_,hf,_,_=>by simp [z6v] at hf
 | .pair a b,f :: fs,off,(x,u),cs,ht,hf,h,hx=>by
  simp only [z47,zA] at ht;simp only [z6v] at hf;obtain ⟨c1,c2,rfl,h1,h2⟩:=h;have hk:=ht.1;have hsz:a.size=1:=by cases a <;> simp [z38] at hk <;> rfl
  have hl:=h1.len;rw [hsz] at hl;obtain ⟨p,rfl⟩:=List.length_eq_one_iff.1 hl;have hag:a.sk.isAgg=false:=by cases a <;> simp [z38] at hk <;> rfl
  have hik:=z9d hk h1;simp only [mkV,hag,Bool.false_eq_true,if_false,List.headD_cons] at hik;have hund:=zc6 hk hf.2.1;have hpl:P.plainKey f.type=true:=by
   unfold Program.plainKey;rw [hund];cases a <;> simp [z38] at hk <;> rfl
  have getx:xs[off]? = some p:=by
   have:(xs.toList.drop off)[0]? = some p:=by rw [hx];rfl
   rw [List.getElem?_drop] at this;simpa using this
  have hxt:xs.toList.drop (off+a.size)=c2:=by
   rw [hsz,←List.drop_drop,hx];rfl
  intro f' hf';rcases List.mem_cons.1 hf' with rfl | hf'
  ·exact ⟨p,by rw [hf.1];exact run_part_plain w' hpl getx,run_checkKey hund hik em n⟩
  ·exact zjf em n ht.2 hf.2.2 h2 hxt f' hf'
 | .int _,_,_,_,_,ht,_,_,_=>by simp [z47] at ht
 | .bool,_,_,_,_,ht,_,_,_=>by simp [z47] at ht
 | .str,_,_,_,_,ht,_,_,_=>by simp [z47] at ht
 | .arr _ _,_,_,_,_,_,hf,_,_=>by simp [z6v] at hf
 | .sl _ _,_,_,_,_,ht,_,_,_=>by simp [z47] at ht
 | .ptr _,_,_,_,_,ht,_,_,_=>by simp [z47] at ht
 | .fn _ _,_,_,_,_,ht,_,_,_=>by simp [z47] at ht
theorem zws {w:World} {g:Ghost} {t:Ty} {d:t.den} {cs es:List Value} (hk:z38 t=true) (h:Rep w g none t d cs) (h':Rep w g none t d es):cs=es:=by
 cases t <;> simp [z38] at hk
 ·obtain ⟨rfl,_⟩:=h;obtain ⟨rfl,_⟩:=h';rfl
 ·cases h;cases h';rfl
 ·obtain ⟨s,rfl,hs,_⟩:=h;obtain ⟨s',rfl,hs',_⟩:=h';obtain ⟨⟨l⟩⟩:=s;obtain ⟨⟨l'⟩⟩:=s';simp only at hs hs';rw [hs,hs']
theorem key_bits {w:World} {g:Ghost} {t:Ty} {d:t.den} {cs:List Value} (hk:z38 t=true) (h:Rep w g none t d cs):∀ v∈cs,∀ n,Instr.sameBits n v v=true:=by
 have hl:=h.len;have hsz:t.size=1:=by cases t <;> simp [z38] at hk <;> rfl
 rw [hsz] at hl;obtain ⟨p,rfl⟩:=List.length_eq_one_iff.1 hl;have hag:t.sk.isAgg=false:=by cases t <;> simp [z38] at hk <;> rfl
 have hik:=z9d hk h;simp only [mkV,hag,Bool.false_eq_true,if_false,List.headD_cons] at hik;intro v hv n;simp only [List.mem_singleton] at hv;subst hv;exact sameBits_self hik n
theorem zlj {w:World} {g:Ghost}:{t:Ty}->{fs:List Field}->{P:Program}->{off:Nat}->{d:t.den}->{cs es:List Value}->z47 t=true->z6v P t fs off->Rep w g none t d cs->Rep w g none t d es->cs=es∧∀ v∈cs,∀ n,Instr.sameBits n v v=true
 | .unit,_,_,_,_,cs,es,_,_,h,h'=>by cases h;cases h';exact ⟨rfl,by simp⟩
 | .pair a b,[],_,_,_,_,_,_,hf,_,_=>by simp [z6v] at hf
 | .pair a b,f :: fs,P,off,(x,u),cs,es,ht,hf,h,h'=>by
  simp only [z47,zA] at ht;simp only [z6v] at hf;obtain ⟨c1,c2,rfl,h1,h2⟩:=h;obtain ⟨e1,e2,rfl,h3,h4⟩:=h';obtain ⟨i1,i2⟩:=zlj ht.2 hf.2.2 h2 h4;refine ⟨by rw [zws ht.1 h1 h3,i1],fun v hv n=>?_⟩;rcases List.mem_append.1 hv with hv | hv
  ·exact key_bits ht.1 h1 v hv n
  ·exact i2 v hv n
 | .int _,_,_,_,_,_,_,ht,_,_,_=>by simp [z47] at ht
 | .bool,_,_,_,_,_,_,ht,_,_,_=>by simp [z47] at ht
 | .str,_,_,_,_,_,_,ht,_,_,_=>by simp [z47] at ht
 | .arr _ _,_,_,_,_,_,_,_,hf,_,_=>by simp [z6v] at hf
 | .sl _ _,_,_,_,_,_,_,ht,_,_,_=>by simp [z47] at ht
 | .ptr _,_,_,_,_,_,_,ht,_,_,_=>by simp [z47] at ht
 | .fn _ _,_,_,_,_,_,_,ht,_,_,_=>by simp [z47] at ht
theorem zoy {P:Program} {w:World} {g:Ghost} {T:TypeId} {ta tb:Ty} {d:(Ty.pair ta tb).den} {cs:List Value} (hty:z47 (.pair ta tb)=true) (hT:z2j P (.pair ta tb) T) (h:Rep w g none (.pair ta tb) d cs) (em:Bool) (w':World) :
  (Instr.checkKey em 10000 T (.agg cs.toArray)).run P w' = .ok () w':=by
 simp only [z2j] at hT;obtain ⟨⟨fs,hu,hfs⟩,_⟩:=hT;have each:=zjf (w':=w') em 9998 (xs:=cs.toArray) hty hfs h (by simp);show (Instr.checkKey em (9999+1) T (.agg cs.toArray)).run P w' = .ok () w';rw [Instr.checkKey];simp only [Sem.run_bind,run_underlying hu,Result.andThen_ok];rw [←Array.forIn_toList];generalize fs.toList=L at each;clear hfs
 induction L with
 | nil=>simp
 | cons f L ih=>
  obtain ⟨a,p1,p2⟩:=each f (by simp);have ih:=ih (fun y hy=>each y (by simp [hy]))
  by_cases hn : f.name = "_"
  ·simp only [List.forIn_cons,Sem.run_bind,hn,ne_eq,not_true_eq_false,if_false,Result.andThen_ok,Sem.run_pure];exact ih
  ·simp only [List.forIn_cons,Sem.run_bind,hn,ne_eq,not_false_eq_true,if_true,Result.andThen_ok,p1,p2,Sem.run_pure];exact ih
def zyg (P:Program) (w:World) (g:Ghost) (kt vt:Ty) (KT:TypeId) (k:kt.den) (kv:Value) (es:List MapEntry) (m:List (kt.den×vt.den)):Prop:=
 ((∀ w',(Instr.findKey KT kv es).run P w' = .ok none w')∧z9a (kEq kt) m k=none∧
   ∀ d cs b,Rep w g none vt d cs->z3f w g kt vt (es++[⟨kv,mkV vt.sk.isAgg cs,b⟩]) (zcp (kEq kt) m k d))∨
  ∃ j e v cs,(∀ w',(Instr.findKey KT kv es).run P w' = .ok (some (j,e.val)) w')∧es[j]? = some e∧e.key=kv∧(∀ w',(Instr.keyThatStays kv kv).run P w' = .ok kv w')∧z9a (kEq kt) m k=some v∧Rep w g none vt v cs∧e.val=mkV vt.sk.isAgg cs∧
   ∀ d cs,Rep w g none vt d cs->z3f w g kt vt (es.modify j fun e=>{ e with key:=kv,val:=mkV vt.sk.isAgg cs }) (zcp (kEq kt) m k d)
theorem zso {P : Program} {w : World} {g : Ghost} {ta tb vt : Ty} {KT : TypeId} (hty : z47 (.pair ta tb) = true) (hT : z2j P (.pair ta tb) KT) (hs : P.stoodInHeld KT = false) (hnm : ∀ fs, P.underlying KT = some (.struct fs) -> ∀ f ∈ fs.toList, f.name ≠ "_")
  {k:(Ty.pair ta tb).den} {kcs:List Value} (hkr:Rep w g none (.pair ta tb) k kcs):{es:List MapEntry}->{m:List ((Ty.pair ta tb).den×vt.den)}->z3f w g (.pair ta tb) vt es m->
  ((∀ w' i,(Instr.findAsking KT (.agg kcs.toArray) es i).run P w' = .ok none w')∧z9a (eqD (.pair ta tb)) m k=none∧
   ∀ d cs b,Rep w g none vt d cs->z3f w g (.pair ta tb) vt (es++[⟨.agg kcs.toArray,mkV vt.sk.isAgg cs,b⟩]) (zcp (eqD (.pair ta tb)) m k d))∨
  ∃ j e v cs,(∀ w' i,(Instr.findAsking KT (.agg kcs.toArray) es i).run P w' = .ok (some (i+j,e.val)) w')∧es[j]? = some e∧e.key = .agg kcs.toArray∧z9a (eqD (.pair ta tb)) m k=some v∧Rep w g none vt v cs∧e.val=mkV vt.sk.isAgg cs∧
   ∀ d cs,Rep w g none vt d cs->z3f w g (.pair ta tb) vt (es.modify j fun e=>{ e with key:=.agg kcs.toArray,val:=mkV vt.sk.isAgg cs }) (zcp (eqD (.pair ta tb)) m k d)
 | [],[],_=>.inl ⟨fun w' i=>by simp [Instr.findAsking],rfl,fun d cs b h=>⟨⟨kcs,hkr,rfl⟩,⟨cs,h,rfl⟩,trivial⟩⟩
 | [],_ :: _,h=>h.elim
 | _ :: _,[],h=>h.elim
 | e :: es,(k',v') :: m,⟨⟨c1,h1,e1⟩,⟨c2,h2,e2⟩,h⟩=>by
  have e1:e.key = .agg c1.toArray:=e1;have hq:=zed hty hT hs hnm hkr h1;rw [←e1] at hq
  cases hc:eqD (.pair ta tb) k k' with
  | true=>
   right;rw [hc] at hq;have hkk:k=k':=eqD_eq hty (by intro n u h;cases h) hc;subst hkk;have hT':=hT;simp only [z2j] at hT';obtain ⟨⟨fs,_,hfs⟩,_⟩:=hT';have hcs:=(zlj hty hfs hkr h1).1;subst hcs;refine ⟨0,e,v',c2,fun w' i=>by simp [Instr.findAsking,hq],rfl,e1,by simp [z9a,hc],h2,e2,fun d cs hd=>?_⟩;simp only [zcp,hc,cond_true,List.modify_zero_cons]
   exact ⟨⟨kcs,h1,rfl⟩,⟨cs,hd,rfl⟩,h⟩
  | false=>
   rw [hc] at hq;rcases zso hty hT hs hnm hkr h with ⟨f1,f2,f3⟩ | ⟨j,e',v,cs,f1,f2,f3,f4,f5,f6,f7⟩
   ·left;refine ⟨fun w' i=>by simp [Instr.findAsking,hq,f1],by simp [z9a,hc,f2],fun d cs b hd=>?_⟩;simp only [zcp,hc,cond_false,List.cons_append];exact ⟨⟨c1,h1,e1⟩,⟨c2,h2,e2⟩,f3 d cs b hd⟩
   ·right;refine ⟨j+1,e',v,cs,fun w' i=>by simp [Instr.findAsking,hq,f1,Nat.add_assoc,Nat.add_comm 1 j],by simpa using f2,f3,by simp [z9a,hc,f4],f5,f6,fun d cs hd=>?_⟩;simp only [zcp,hc,cond_false,List.modify_succ_cons];exact ⟨⟨c1,h1,e1⟩,⟨c2,h2,e2⟩,f7 d cs hd⟩
theorem kEq_key {t:Ty} (h:z38 t=true):kEq t=z42 t:=by simp [kEq,h]
theorem kEq_pair {a b:Ty}:kEq (.pair a b)=eqD (.pair a b):=rfl
theorem sought {P:Program} {w:World} {g:Ghost} {kt vt:Ty} {KT:TypeId} (hk:kTy kt=true) (hkT:KeyOK P kt KT) {k:kt.den} {kcs:List Value} (hkr:Rep w g none kt k kcs) {es:List MapEntry} {m:List (kt.den×vt.den)} (hm:z3f w g kt vt es m) :
  zyg P w g kt vt KT k (mkV kt.sk.isAgg kcs) es m∧∀ em w',(Instr.checkKey em 10000 KT (mkV kt.sk.isAgg kcs)).run P w' = .ok () w':=by
 rcases znk hk with hk | ⟨a,b,rfl,hty⟩
 ·have hkd:=zc6 hk hkT.1;have hik:=z9d hk hkr;refine ⟨?_,fun em w'=>run_checkKey (P:=P) (w:=w') hkd hik em 9999⟩;unfold zyg;rw [kEq_key hk];rcases zxg hk hkr hm with ⟨f1,f2,f3⟩ | ⟨j,e,v,cs,f1,f2,f3,f4,f5,f6,f7⟩
  ·exact .inl ⟨fun w'=>run_findKey (P:=P) (w:=w') hkd f1,f2,f3⟩
  ·exact .inr ⟨j,e,v,cs,fun w'=>run_findKey (P:=P) (w:=w') hkd f1,f2,f3,fun w'=>run_keyThatStays (P:=P) (w:=w') hik,f4,f5,f6,f7⟩
 ·obtain ⟨hT,h2⟩:=hkT;obtain ⟨hs,hnm⟩:=h2 rfl;refine ⟨?_,fun em w'=>zoy hty hT hkr em w'⟩;have hT':=hT;simp only [z2j] at hT';obtain ⟨⟨fs,hu,hfs⟩,_⟩:=hT';have hwide:(match P.underlying KT with | some (.array _ _) | some (.struct _)=>true | _=>false)=true:=by rw [hu]
  have hmk:mkV (Ty.pair a b).sk.isAgg kcs = .agg kcs.toArray:=rfl;unfold zyg;rw [hmk,kEq_pair];rcases zso hty hT hs hnm hkr hm with ⟨f1,f2,f3⟩ | ⟨j,e,v,cs,f1,f2,f3,f4,f5,f6,f7⟩
  ·exact .inl ⟨fun w'=>(run_findKey_eq w' hwide _ _).trans (f1 w' 0),f2,f3⟩
  ·refine .inr ⟨j,e,v,cs,fun w'=>(run_findKey_eq w' hwide _ _).trans (by have:=f1 w' 0;rw [Nat.zero_add] at this;exact this),f2,f3,fun w'=>?_,f4,f5,f6,f7⟩;have hb:=(zlj hty hfs hkr hkr).2;have hsb:Instr.sameBits 10000 (.agg kcs.toArray) (.agg kcs.toArray)=true:=by
    show Instr.sameBits (9999+1) (.agg kcs.toArray) (.agg kcs.toArray)=true;simp only [Instr.sameBits,beq_self_eq_true,Bool.true_and,List.all_eq_true];intro p hp;have h2:=List.of_mem_zip hp;have h3:p.1=p.2:=by
     obtain ⟨i,hi,rfl⟩:=List.mem_iff_getElem.1 hp;simp
    rw [←h3];exact hb _ (by simpa using h2.1) 9999
   simp [Instr.keyThatStays,hsb]
section
variable {P:Program} {o:Oper} {a:Act} {w:World} {K:Act->World->Prop} {Q:Exit->Act->World->Prop} {c:Ctx} {σ:St} {g:Ghost} {k:St->Option R} {r:R} {base:Nat} {mo:Bool}
theorem zw4 (hmt:MtOK P c.mt) {t:TypeId} {x i:Operand} {ok:Bool} (ho:o.op = .lookup t x i ok) (hst:StOK c.ntmps g w a σ) (h:z1s c σ base o k=some r):Yield P o a w g σ c k r:=by
 simp only [z1s,ho] at h;split at h
 ·rename_i av bv hx hi;obtain ⟨id,kt,vt,m,rfl,hmt',hobj,hkt,hvt,h⟩:=zg2 h;obtain ⟨KT,E,hund,hkT,hvT,iz,z,hiz,hz,hzv⟩:=hmt _ _ _ hmt'
  cases hb:bv.val with
  | false=>rw [hb] at h;simp at h
  | true=>
   rw [hb] at h;simp only [cond_true] at h;obtain ⟨key,kcs,h,hkr,hev⟩:=zc7 hst (zl6 hkt) hb hi h;obtain ⟨es,ck,hblk,htag,_,_,hrep,_⟩:=hst.heap.objs _ _ hobj;have hv:=zf5 (z24 hst hx).1 hobj;have hlt:g.blk id < w.heap.size:=hst.heap.tags _ (by rw [htag];simp);obtain ⟨hso,hcheck⟩:=sought hkt hkT hkr hrep;split at h
   ·rename_i zd hzd;obtain ⟨i0,z0,hi0,hs0,_,hz0,hc0,_⟩:=hvT.info.info;have hzz:z0=z:=by rw [hiz] at hi0;cases hi0;rw [hz] at hz0;cases hz0;rfl
    subst hzz;have hzrep:=z3w (w:=w) (g:=g) (z4p hvt) hzd;rw [←hc0] at hzrep;have hzrun:∀ w',(zeroValue E).run P w' = .ok z0 w':=fun w'=>by simp [zeroValue,typeInfo,hiz,hz]
    have found:∃ (vv:Value) (cs:List Value),Rep w g none vt ((z9a (kEq kt) m key).getD zd) cs∧vv=mkV vt.sk.isAgg cs∧
      ∀ w',z44 w w'->(Instr.lookup t (.map (some (g.blk id))) (mkV kt.sk.isAgg kcs) ok).run P w' = .ok (if ok then .tuple #[vv,.bool (z9a (kEq kt) m key).isSome] else vv) w':=by
     rcases hso with ⟨f1,f2,_⟩ | ⟨j,e,v,cs,f1,f2,f3,_,f4,f5,f6,_⟩
     ·refine ⟨z0,z0.cells.toList,by rw [f2];exact hzrep,hzv,fun w' hag=>?_⟩;have hb':w'.heap[g.blk id]? = some (.map es ck):=by rw [hag _ hlt];exact hblk
      have hg:(getObj (g.blk id)).run P w' = .ok (.map es ck) w':=by simp [getObj,Sem.run,hb']
      have hck:=hcheck es.isEmpty w';have hfk:=f1 w';simp [Instr.lookup,run_underlying hund,hg,hck,hfk,hzrun,f2]
     ·refine ⟨e.val,cs,by rw [f4];exact f5,f6,fun w' hag=>?_⟩;have hb':w'.heap[g.blk id]? = some (.map es ck):=by rw [hag _ hlt];exact hblk
      have hg:(getObj (g.blk id)).run P w' = .ok (.map es ck) w':=by simp [getObj,Sem.run,hb']
      have hck:=hcheck es.isEmpty w';have hfk:=f1 w';simp [Instr.lookup,run_underlying hund,hg,hck,hfk,f4]
    obtain ⟨vv,cs,hvr,hvv,hrun⟩:=found;have hrun':∀ w',AgP o w w'->(execOp a.eval o).run P w' = .ok (.value (if ok then .tuple #[vv,.bool (z9a (kEq kt) m key).isSome] else vv)) w':=fun w' hag=>by
     have:=hrun w' (hag (by simp [isP,ho]));simp only [execOp,ho,hv,hev];simp [this]
    cases ok with
    | true=>
     simp only [cond_true] at h;refine yld (hrun') ?_ (fun m _=>by simp [AVal.ids]) h;simp only [if_true,VOK];refine ⟨[vv,.bool (z9a (kEq kt) m key).isSome],rfl,?_⟩;simp only [z1o]
     exact ⟨vv,_,rfl,zjr hvt hvr hvv,_,_,rfl,z3v _,rfl⟩
    | false=>
     simp only [cond_false] at h;exact yld hrun' (by simp only [Bool.false_eq_true,if_false];exact zjr hvt hvr hvv) (fun m _=>by simp [AVal.ids]) h
   ·simp at h
 ·simp at h
theorem zn1 (hmt:MtOK P c.mt) {t:TypeId} {x i y:Operand} (ho:o.op = .mapUpdate t x i y) (hst:StOK c.ntmps g w a σ) (h:z1s c σ base o k=some r) (hK:z79 c.ntmps k r g w σ base true K):o.wp P a w K Q:=by
 simp only [z1s,ho] at h;split at h
 ·rename_i av bv vv hx hi hy hdst;obtain ⟨id,kt,vt,m,rfl,hmt',hobj,hkt,hvt,h⟩:=zg2 h;obtain ⟨KT,E,hund,hkT,hvT,_⟩:=hmt _ _ _ hmt'
  cases hb:(bv.val && vv.val) with
  | false=>rw [hb] at h;simp at h
  | true=>
   rw [hb] at h;simp only [cond_true] at h;simp only [zA] at hb;obtain ⟨key,kcs,h,hkr,hev⟩:=zc7 hst (zl6 hkt) hb.1 hi h;obtain ⟨d,dcs,h,hdr,hevd⟩:=zc7 hst hvt hb.2 hy h;obtain ⟨es,ck,hblk,htag,_,_,hrep,hcks,hstp⟩:=hst.heap.objs _ _ hobj;have hv:=zf5 (z24 hst hx).1 hobj;obtain ⟨hso,hcheck⟩:=sought hkt hkT hkr hrep;have hg:(getObj (g.blk id)).run P w = .ok (.map es ck) w:=by simp [getObj,Sem.run,hblk]
   have hset:∀ ob,(setObj (g.blk id) ob).run P w = .ok () { w with heap:=w.heap.setIfInBounds (g.blk id) ob }:=fun ob=>by simp [setObj,Sem.run,hblk]
   have hck:=hcheck false w;have key:∃ es' ck',(Instr.mapUpdate t (.map (some (g.blk id))) (mkV kt.sk.isAgg kcs) (mkV vt.sk.isAgg dcs)).run P w = .ok () { w with heap:=w.heap.setIfInBounds (g.blk id) (.map es' ck') }∧z3f w g kt vt es'.toList (zcp (kEq kt) m key d)∧ck'=es'.size∧zea es'.toList:=by
    rcases hso with ⟨f1,f2,f3⟩ | ⟨j,e,v,cs,f1,f2,f3,hks,f4,f5,f6,f7⟩
    ·have hfk:=f1 w;refine ⟨es.push ⟨mkV kt.sk.isAgg kcs,mkV vt.sk.isAgg dcs,ck⟩,ck+1,?_,?_,by simp [hcks],?_⟩
     ·simp [Instr.mapUpdate,run_underlying hund,hg,hck,hfk,hset]
     ·rw [Array.toList_push];exact f3 d dcs ck hdr
     ·unfold zea at hstp ⊢;rw [Array.toList_push,List.map_append,hstp,List.length_append,hcks];simp [List.range_succ]
    ·have hfk:=f1 w;have hks:=hks w;have hej:es[j]? = some e:=by rw [←Array.getElem?_toList];exact f2
     refine ⟨es.modify j fun e=>{ e with key:=mkV kt.sk.isAgg kcs,val:=mkV vt.sk.isAgg dcs },ck,?_,?_,by simp [hcks],?_⟩
     ·simp [Instr.mapUpdate,run_underlying hund,hg,hck,hfk,hset,hej,f3,hks]
     ·rw [Array.toList_modify];exact f7 d dcs hdr
     ·unfold zea at hstp ⊢;rw [Array.toList_modify,List.length_modify,←hstp];apply List.ext_getElem?;intro i;simp only [List.getElem?_map,List.getElem?_modify];split
      ·cases es.toList[i]? <;> rfl
      ·simp
   obtain ⟨es',ck',hrun,hrep',hck',hstp'⟩:=key;obtain ⟨hst',hext,hfr⟩:=map_turn (ck:=ck') hst hobj hrep' hck' hstp';refine wp_skip hdst ?_ hst' hext (fun n _ hn=>hfr n hn) rfl h (fun h=>Bool.noConfusion h) hK;simp only [execOp,ho,hv,hev,hevd];simp [hrun]
 ·simp at h
end
end Go.Kz
namespace Go.Kz
open Go.ChangeMaps (setBlock)
open Go.MapKept
variable {R:Type}
theorem zuz {α:Type} {f:α->Option R} {l:List α} {r:R} (h:zv1 f l=some r):∀ a∈l,f a=some r:=by
 cases l with
 | nil=>simp
 | cons a l=>
  simp only [zv1] at h;split at h
  ·rename_i hall;intro b hb;rcases List.mem_cons.1 hb with rfl | hb
   ·exact h
   ·rw [hall b hb];exact h
  ·simp at h
theorem zl3 {n:Nat} {i:Int}:i∈zm6 n↔0≤i∧i < n:=by
 induction n with
 | zero=>simp [zm6]
 | succ n ih=>simp only [zm6,List.mem_append,ih,List.mem_singleton];omega
theorem z3f.get {w:World} {g:Ghost} {kt vt:Ty}:{es:List MapEntry}->{m:List (kt.den×vt.den)}->z3f w g kt vt es m->{i:Nat}->{e:MapEntry}->es[i]? = some e->
  ∃ k v,m[i]? = some (k,v)∧(∃ cs,Rep w g none kt k cs∧e.key=mkV kt.sk.isAgg cs)∧∃ cs,Rep w g none vt v cs∧e.val=mkV vt.sk.isAgg cs
 | [],_,_,i,e,he=>by simp at he
 | e0 :: es,(k,v) :: m,⟨h1,h2,h⟩,i,e,he=>by
  cases i with
  | zero=>
   simp only [List.getElem?_cons_zero,zI] at he;subst he
   exact ⟨k,v,rfl,h1,h2⟩
  | succ i=>
   obtain ⟨k',v',h3,h4⟩:=h.get (i:=i) (e:=e) (by simpa using he)
   exact ⟨k',v',by simpa using h3,h4⟩
 | _ :: _,[],h,_,_,_=>h.elim
theorem zea.at {es:List MapEntry} (h:zea es) {i:Nat} {e:MapEntry} (he:es[i]? = some e):e.born=i:=by
 unfold zea at h;have h1:(es.map (·.born))[i]? = some e.born:=by simp [he]
 have hi:i < es.length:=(List.getElem?_eq_some_iff.1 he).1;rw [h,List.getElem?_range hi] at h1;simpa using h1.symm
section
variable {P:Program} {o:Oper} {a:Act} {w:World} {K:Act->World->Prop} {Q:Exit->Act->World->Prop} {c:Ctx} {σ:St} {g:Ghost} {k:St->Option R} {r:R} {base:Nat} {mo:Bool}
theorem zzq (hmt:MtOK P c.mt) {t:TypeId} {x:Operand} {av:AVal} (ho:o.op = .range t x) (hst:StOK c.ntmps g w a σ) (hf:Fresh g σ base) (hx:ev σ x=some av) (h:zvs c σ base o.dst t av k=some r)
  (hK:z79 c.ntmps k r g w σ base mo K):o.wp P a w K Q:=by
 unfold zvs at h;split at h
 ·rename_i id mt hmt';split at h
  ·rename_i kt vt m hobj;obtain ⟨KT,E,hund,_⟩:=hmt _ _ _ hmt';have hv:=zf5 (z24 hst hx).1 hobj;obtain ⟨es,ck,hblk,htag,_,_,hrep,hck,hstp⟩:=hst.heap.objs _ _ hobj;have hl:=hrep.length;have hne:id≠base:=fun he=>by subst he;have:=hf.objs;rw [hobj] at this;simp at this
   have hrun:=run_range_map (P:=P) w t KT E (g.blk id) es ck hund hblk;have hn:ck=m.length:=by rw [hck,←hl,Array.length_toList]
   refine zf6 (ob:=.mapIter (some (g.blk id)) ck #[] ck) (obj:=.cell (zae id (m.length:Int) (zm6 m.length) (-1))) (tg:=.box base) (v:=undef) (v':=.pointer (some ⟨w.heap.size,0,none⟩)) hst hf (.inl rfl) ?_ rfl ?_ ?_ ?_ h hK
   ·simp only [execOp,ho,hv];simp [hrun]
   ·refine (z14.iter rfl).2 ⟨id,m.length,g.blk id,#[],-1,?_,?_,by simp [z3a],fun c hc=>by omega,fun kt' vt' m' hm=>?_⟩
    ·congr 1;exact (List.filter_eq_self.2 (by simp)).symm
    ·have hb:(z3a g w.heap.size base (.box base) undef).blk base=w.heap.size:=by simp [z3a]
     rw [hb,hn];exact heap_alloc_new w _
    ·simp [z3a,hne]
   ·intro y hy m' _ hfm;simp only [Obj.cell.injEq] at hy;subst hy;simp only [zae,AVal.ids,List.append_nil,List.mem_singleton];intro he;subst he;have:=hfm.objs;rw [hobj] at this;simp at this
   ·simp only [VOK];refine ⟨_,⟨_,rfl,rfl,fun y _=>?_⟩,rfl⟩;refine ⟨0,y.sk,by simp [Sk.off],?_⟩;simp [z3a]
  ·simp at h
 ·simp at h
set_option maxHeartbeats 2000000 in
theorem op_next {x:Operand} {av:AVal} (ho:o.op = .next x false) (hst:StOK c.ntmps g w a σ) (hx:ev σ x=some av) (h:nextK c σ o.dst av k=some r) (hK:z79 c.ntmps k r g w σ base true K):o.wp P a w K Q:=by
 unfold nextK at h;split at h
 ·rename_i id;split at h
  ·rename_i mid n left curx hobj;split at h
   ·rename_i kt vt m hmo;obtain ⟨hn,h⟩:=z1x h;have hn:=of_decide_eq_true hn;obtain ⟨ex,ef⟩:=z24 hst hx;simp only [VOK] at ex;obtain ⟨cs,⟨v,rfl,_,hvv⟩,hv⟩:=ex;obtain ⟨off,s,hoff,rfl⟩:=hvv _ hobj;simp only [Sk.off,zI,Prod.mk.injEq] at hoff;obtain ⟨rfl,_⟩:=hoff;have hv:a.eval x = .pointer (some ⟨g.blk id,0,none⟩):=hv;obtain ⟨mid',n',bm,seen,cur0,hit,hblk,htag,_,hbm⟩:=(z14.iter rfl).1 (hst.heap.objs _ _ hobj);simp only [zae,AVal.tup.injEq,AVal.pr.injEq,AVal.mref.injEq,AVal.data.injEq,heq_eq_eq,true_and,and_true] at hit;obtain ⟨rfl,rfl,rfl,rfl⟩:=hit;obtain ⟨es,ck,hmblk,hmtag,hkr,hvr,hrep,hck,hstp⟩:=hst.heap.objs _ _ hmo;have hl:=hrep.length;rw [Array.length_toList] at hl;have hn':n'=es.size:=by have:((n':Nat):Int)=((m.length:Nat):Int):=hn;omega
    rw [←hbm _ _ _ hmo] at hmblk;have hold:∀ x∈es.toList,x.born < n':=by
     intro x hx;obtain ⟨p,hp,rfl⟩:=List.mem_iff_getElem.1 hx;rw [hstp.at (List.getElem?_eq_getElem hp)];rw [Array.length_toList] at hp;omega
    have inL:∀ e,e∈(leftOf es seen).toList->es.toList[e.born]? = some e∧(e.born:Int)∈(zm6 n').filter (fun i=>!seen.contains i.toNat):=by
     intro e he;obtain ⟨h1,h2⟩:=mem_left he;obtain ⟨p,hp,rfl⟩:=List.mem_iff_getElem.1 h1;have hb:=hstp.at (List.getElem?_eq_getElem hp);refine ⟨by rw [hb];exact List.getElem?_eq_getElem hp,List.mem_filter.2 ⟨zl3.2 ⟨by omega,by have:=hold _ h1;omega⟩,?_⟩⟩;simp only [Int.toNat_natCast,h2,Bool.not_false]
    rcases run_next_at (P:=P) w o.type (g.blk id) bm n' n' seen es ck hblk hmblk hold (Nat.le_refl _) with ⟨hz,hrun⟩ | ⟨e,he,w1,hw1,hrun⟩
    ·have hnil:(zm6 n').filter (fun i=>!seen.contains i.toNat)=[]:=by
      rw [List.eq_nil_iff_forall_not_mem];intro j hj;obtain ⟨h1,h2⟩:=List.mem_filter.1 hj;rw [zl3] at h1;have hp:j.toNat < es.toList.length:=by rw [Array.length_toList];omega
      have hb:=hstp.at (List.getElem?_eq_getElem hp);have h0:leftOf es seen = #[]:=Array.eq_empty_of_size_eq_zero hz;have hm:es.toList[j.toNat]∈leftOf es seen:=by
       unfold leftOf;rw [Array.mem_filter];refine ⟨Array.mem_toList_iff.1 (List.getElem_mem hp),?_⟩;rw [hb];exact h2
      rw [h0] at hm;simp at hm
     have h':ze1 ((zm6 n').filter (fun i=>!seen.contains i.toNat)) (σ.putK c o.dst (.tup (.pr (.data .bool false) .un)) k) _=some r:=h;rw [hnil] at h';simp only [ze1] at h';refine z3i (g:=g) (g':=g) (σ:=σ) (σ':=σ) (base:=base) (v:=.tuple #[.bool false]) (w':=w) ?_ hst (Ext.refl w g) (fun m _ hfm=>⟨hfm,by simp [AVal.ids]⟩) rfl ?_ h' (fun h=>Bool.noConfusion h) hK
     ·simp only [execOp,ho,hv];simp [hrun]
     ·simp only [VOK];refine ⟨[.bool false],rfl,?_⟩;simp only [z1o];exact ⟨_,_,rfl,z3v _,rfl⟩
    ·obtain ⟨hei,hel⟩:=inL e he;have hf:∀ (L:List Int) (D:Option R) (F:Int->List Int->Option R),(e.born:Int)∈L->ze1 L D F=some r->F e.born (L.filter fun i=>!decide (i=(e.born:Int)))=some r:=by
      intro L D F hL hnx
      cases L with
      | nil=>simp at hL
      | cons j l=>
       simp only [ze1] at hnx;exact zuz hnx _ hL
     have h2:=hf _ _ _ hel h;obtain ⟨kk,vv,hm,⟨kcs,hkrep,hkey⟩,vcs,hvrep,hval⟩:=hrep.get hei;have hidx:idx m (e.born:Int)=some (kk,vv):=hm;rw [hidx] at h2;simp only [Option.bind_some] at h2;have h3:(σ.setObj id (.cell (zae mid (n':Int) (((zm6 n').filter (fun i=>!seen.contains i.toNat)).filter (fun i=>!decide (i=(e.born:Int)))) (e.born:Int)))).putK c o.dst (.tup (.pr (.data .bool true) (.pr (.data kt kk) (.pr (.data vt vv) .un)))) k=some r:=h2;clear h2 h hf;have hrest:((zm6 n').filter (fun i=>!seen.contains i.toNat)).filter (fun i=>!decide (i=(e.born:Int)))=(zm6 n').filter (fun i=>!(seen.push e.born).contains i.toNat):=by
      rw [List.filter_filter];refine List.filter_congr fun i hi=>?_
      rw [zl3] at hi;by_cases hie:i=(e.born:Int)
      ·subst hie;simp
      ·have:i.toNat≠e.born:=by omega
       simp [hie,this]
     have hst1:StOK c.ntmps g w1 a σ:=by
      rcases hw1 with rfl | rfl
      ·exact hst
      ·exact StOK.heapEq (w:=w) (w':=w.drew) rfl hst
     have hext1:Ext w g w1 g:=by
      rcases hw1 with rfl | rfl
      ·exact Ext.refl _ g
      ·exact Ext.heapEq (w:=w) (w':=w.drew) rfl rfl rfl rfl (Nat.le_succ _)
     have hheap:w1.heap=w.heap:=by rcases hw1 with rfl | rfl <;> rfl
     have hblk1:w1.heap[g.blk id]? = some (.mapIter (some bm) n' seen n'):=by rw [hheap];exact hblk
     have hcn:ck=n':=by rw [hck,hn']
     obtain ⟨k1,k2⟩:=heap_set (o':=.mapIter (some bm) n' (seen.push e.born) ck) hblk1;let w2:World:=setBlock w1 (g.blk id) (.mapIter (some bm) n' (seen.push e.born) ck);have hro:RoKept w1 g w2 g:=⟨fun b hb=>⟨hb,k2 b (fun he=>by subst he;rw [htag] at hb;simp at hb)⟩⟩;have hmid:∀ m',Fresh g σ m'->m'≠mid:=fun m' hfm he=>by subst he;have:=hfm.objs;rw [hmo] at this;simp at this
     have hidd:∀ m',Fresh g σ m'->m'≠id:=fun m' hfm he=>by subst he;have:=hfm.objs;rw [hobj] at this;simp at this
     have hnm:mid≠id:=fun he=>by subst he;rw [hmo] at hobj;simp at hobj
     refine z3i (g:=g) (g':=g) (σ:=σ) (base:=base) (σ':=σ.setObj id (.cell (zae mid (n':Int) (((zm6 n').filter (fun i=>!seen.contains i.toNat)).filter (fun i=>!decide (i=(e.born:Int)))) (e.born:Int)))) (v:=.tuple #[.bool true,e.key,e.val]) (w':=w2) ?_ ?_ (hext1.trans ?_) (fun m' _ hfm=>⟨?_,by simp [AVal.ids]⟩) rfl ?_ h3 (fun h=>Bool.noConfusion h) hK
     ·simp only [execOp,ho,hv];simp [hrun,w2]
     ·refine hst1.turn hro (fun i hi=>?_) (.inl (.inr (.inr (.inl ⟨_,_,hobj,rfl,rfl,rfl⟩)))) ?_ (fun b hb=>?_)
      ·refine ⟨⟨fun q=>rfl,fun q b hb=>⟨hb,k2 b (fun he=>?_)⟩⟩,rfl,fun hb=>⟨hb,k2 _ (fun he=>?_)⟩⟩
       ·subst he;rw [htag] at hb;simp at hb
       ·rw [he,htag] at hb;simp only [Tag.box.injEq] at hb;exact hi hb.symm
      ·have h5:w2.heap[g.blk id]? = some (.mapIter (some bm) n' (seen.push e.born) ck):=k1;rw [hcn] at h5;have h6:∀ c:Nat,(e.born:Int)=(c:Int)->(seen.push e.born).back? = some c:=by
        intro c hc;have:c=e.born:=by omega
        subst this;simp
       refine (z14.iter rfl).2 ⟨mid,n',bm,seen.push e.born,(e.born:Int),by rw [hrest],h5,htag,h6,fun kt' vt' m' hm'=>?_⟩;simp only [St.setObj] at hm';rw [z0k _ _ hnm] at hm';exact hbm _ _ _ hm'
      ·have:=hst1.heap.tags b hb;simpa [w2,setBlock] using this
     ·refine ⟨rfl,rfl,rfl,Nat.le_refl _,by simp [w2,setBlock],fun b _ hb=>⟨k2 b (fun he=>?_),rfl⟩⟩;subst he;rw [htag] at hb;simp at hb
     ·refine ⟨?_,hfm.row,hfm.box,hfm.slots,fun i av hi=>?_⟩
      ·simp only [St.setObj];rw [z0k _ _ (hidd m' hfm)];exact hfm.objs
      ·by_cases hii:i=id
       ·subst hii;simp only [St.setObj,z0j,zI,Obj.cell.injEq] at hi;subst hi;simpa [zae,AVal.ids] using hmid m' hfm
       ·simp only [St.setObj] at hi;rw [z0k _ _ hii] at hi;exact hfm.cells i av hi
     ·have hro2:RoKept w g w2 g:=⟨fun b hb=>⟨hb,((hro.blk b hb).2).trans (by rw [hheap])⟩⟩;simp only [VOK];refine ⟨[.bool true,e.key,e.val],rfl,?_⟩;simp only [z1o];exact ⟨_,_,rfl,z3v _,_,_,rfl,⟨kcs,⟨hkr,hkrep.kept hro2⟩,hkey⟩,_,_,rfl,⟨vcs,⟨hvr,hvrep.kept hro2⟩,hval⟩,rfl⟩
   ·simp at h
  ·simp at h
 ·simp at h
theorem zzt {x:Operand} {av:AVal} (ho:o.op = .entry x) (hst:StOK c.ntmps g w a σ) (hx:ev σ x=some av) (h:zxx c σ o.dst av k=some r) (hK:z79 c.ntmps k r g w σ base true K):o.wp P a w K Q:=by
 unfold zxx at h;split at h
 ·rename_i id;split at h
  ·rename_i mid n left cur hobj;split at h
   ·rename_i kt vt m hmo;have hn:=of_decide_eq_true (z1x h).1;replace h:=(z1x h).2;obtain ⟨ex,ef⟩:=z24 hst hx;simp only [VOK] at ex;obtain ⟨cs,⟨v,rfl,_,hvv⟩,hv⟩:=ex;obtain ⟨off,s,hoff,rfl⟩:=hvv _ hobj;simp only [Sk.off,zI,Prod.mk.injEq] at hoff;obtain ⟨rfl,_⟩:=hoff;have hv:a.eval x = .pointer (some ⟨g.blk id,0,none⟩):=hv;obtain ⟨mid',n',bm,seen,cur0,hit,hblk,htag,hcur,hbm⟩:=(z14.iter rfl).1 (hst.heap.objs _ _ hobj);simp only [zae,AVal.tup.injEq,AVal.pr.injEq,AVal.mref.injEq,AVal.data.injEq,heq_eq_eq,true_and,and_true] at hit;obtain ⟨rfl,rfl,rfl,rfl⟩:=hit;obtain ⟨es,ck,hmblk,hmtag,hkr,hvr,hrep,hck,hstp⟩:=hst.heap.objs _ _ hmo;have hl:=hrep.length;rw [Array.length_toList] at hl;have hn':n'=es.size:=by have:((n':Nat):Int)=((m.length:Nat):Int):=hn;omega
    rw [←hbm _ _ _ hmo] at hmblk;obtain ⟨e,he,h⟩:=Option.bind_eq_some_iff.1 h;obtain ⟨h0,him,rfl,hlt⟩:=z3o he;have hci:cur=((cur.toNat:Nat):Int):=(Int.toNat_of_nonneg h0).symm;have hback:=hcur cur.toNat hci;have hp:cur.toNat < es.toList.length:=by rw [Array.length_toList];omega
    have hge:=List.getElem?_eq_getElem hp;obtain ⟨kk,vv,hm,⟨kcs,hkrep,hkey⟩,vcs,hvrep,hval⟩:=hrep.get hge;have hb:=hstp.at hge;have hml:m.get ⟨cur.toNat,him⟩=(kk,vv):=by
     have:=List.getElem?_eq_getElem him;rw [this] at hm;simpa using hm
    rw [hml] at h;have hnd:(es.toList.map (·.born)).Nodup:=by
     have h2:es.toList.map (·.born)=List.range es.toList.length:=hstp;rw [h2];exact List.nodup_range
    have hf:es.find? (fun y=>y.born == cur.toNat)=some es.toList[cur.toNat]:=by
     have:=find_born es.toList[cur.toNat] es.toList hnd (List.getElem_mem hp);rw [hb] at this;rw [←Array.find?_toList];exact this
    have hrun:(Instr.entry (.pointer (some ⟨g.blk id,0,none⟩))).run P w = .ok (.tuple #[es.toList[cur.toNat].key,es.toList[cur.toNat].val]) w:=by
     have hcn:ck=n':=by rw [hck,hn']
     rw [hcn] at hmblk;simp only [Instr.entry,getObj,Sem.run_bind,Sem.run,hblk,hmblk,Result.andThen,hback,bne_self_eq_false,Bool.false_eq_true,if_false,hf];rfl
    refine z3i (g:=g) (g':=g) (σ:=σ) (σ':=σ) (base:=base) (v:=.tuple #[es.toList[cur.toNat].key,es.toList[cur.toNat].val]) (w':=w) ?_ hst (Ext.refl w g) (fun m _ hfm=>⟨hfm,by simp [AVal.ids]⟩) rfl ?_ h (fun h=>Bool.noConfusion h) hK
    ·simp only [execOp,ho,hv];simp [hrun]
    ·simp only [VOK];refine ⟨[es.toList[cur.toNat].key,es.toList[cur.toNat].val],rfl,?_⟩;simp only [z1o];exact ⟨_,_,rfl,⟨kcs,⟨hkr,hkrep⟩,hkey⟩,_,_,rfl,⟨vcs,⟨hvr,hvrep⟩,hval⟩,rfl⟩
   ·simp at h
  ·simp at h
 ·simp at h
end
end Go.Kz
namespace Go.Kz
variable {R:Type}
section
variable {P:Program} {o:Oper} {a:Act} {w:World} {c:Ctx} {σ:St} {g:Ghost} {k:St->Option R} {r:R} {base:Nat}
theorem zmj {T:TypeId} {u:Ty} (hT:z2j P u T) (cs:List Value) (off:Nat) (hs:off+u.size≤cs.length) (w:World) :
  (part T cs.toArray off).run P w = .ok (mkV u.sk.isAgg (seg cs off u.size)) w:=by
 have hag:=zmk hT w;unfold part;rw [Sem.run_bind,hag]
 cases hu:u.sk.isAgg with
 | true=>
  have hsz:=hT.info.sizeOf w;simp only [Result.andThen_ok,if_true,Sem.run_bind,hsz,Sem.run_pure];congr 1;simp only [mkV,if_true,Value.agg.injEq];apply Array.toList_inj.1
  simp [seg,List.extract]
 | false=>
  have h1:u.size=1:=by cases u <;> simp [Ty.sk,Sk.isAgg] at hu <;> simp [Ty.size]
  have hlt:off < cs.length:=by omega
  have hg:cs.toArray[off]? = some cs[off]:=by simp [hlt]
  simp only [Result.andThen_ok,Bool.false_eq_true,if_false,hg,Sem.run_pure];congr 1;simp only [mkV,Bool.false_eq_true,if_false,seg,h1];rw [List.drop_eq_getElem_cons hlt];rfl
theorem zw5 (htt:zbd P c.tt) {t:TypeId} {x i:Operand} (ho:o.op = .index t x i) (hst:StOK c.ntmps g w a σ) (h:z1s c σ base o k=some r):Yield P o a w g σ c k r:=by
 simp only [z1s,ho] at h;split at h
 ·rename_i n t' l ki j m u hx hi hu;have hT:=htt _ _ hu;obtain ⟨ex,ef⟩:=z24 hst hx;obtain ⟨vi,_⟩:=z3k (z24 hst hi).1
  cases hs:(Nat.beq n m && t'.sk.same u.sk) with
  | false=>rw [hs] at h;simp at h
  | true=>
   rw [hs] at h;simp only [zA] at hs;have hnm:n=m:=zE hs.1;subst hnm;have hsk:=Sk.same_eq hs.2;have hsz:u.size=t'.size:=by rw [←Ty.sk_size,←Ty.sk_size,hsk]
   simp only [cond_true,Option.bind_eq_some_iff] at h;obtain ⟨d,hd,h⟩:=h;obtain ⟨h0,hi',rfl,hlt⟩:=z3o hd;simp only [z2j] at hT;obtain ⟨⟨E,hund,hE⟩,_⟩:=hT;simp only [VOK] at ex;obtain ⟨cs,⟨hro,hl,hcl,hel⟩,hv⟩:=ex;have hjn:j.toNat < n:=by rw [←hl];exact hi'
   have hmul:(j.toNat+1)*t'.size≤n*t'.size:=Nat.mul_le_mul_right _ hjn;rw [Nat.add_mul] at hmul;have hv':a.eval x = .agg cs.toArray:=by rw [hv];rfl
   have hjlt:(j:Int) < (n:Int):=by rw [←hl];exact hlt
   refine yld (v:=mkV u.sk.isAgg (seg cs (j.toNat*t'.size) u.size)) ?_ ?_ (fun m _=>by simp [AVal.ids]) h
   ·intro w' _;have hsE:=hE.info.sizeOf w';have hp:=zmj hE cs (j.toNat*u.size) (by rw [hsz];omega) w';rw [hsz] at hp hsE;simp [execOp,ho,hv',vi,Instr.index,asIntOf,run_underlying hund,h0,hjlt,hsE,hp,hsz]
   ·simp only [VOK];refine ⟨seg cs (j.toNat*t'.size) t'.size,⟨by simpa [Ty.isRo] using hro,hel _ hi'⟩,by rw [hsz,←hsk];rfl⟩
 ·simp at h
theorem zw6 (htt:zbd P c.tt) {t:TypeId} {x:Operand} {i:Nat} (ho:o.op = .field t x i) (hst:StOK c.ntmps g w a σ) (h:z1s c σ base o k=some r):Yield P o a w g σ c k r:=by
 simp only [z1s,ho] at h;split at h
 ·rename_i av u hx hu;have hT:=htt _ _ hu;obtain ⟨ex,ef⟩:=z24 hst hx
  cases hs:(av.val && av.sk.same u.sk && (z6s u (z0y i)).isSome) with
  | false=>rw [hs] at h;simp at h
  | true=>
   rw [hs] at h;simp only [cond_true] at h;simp only [zA] at hs;have hsk:=Sk.same_eq hs.1.2;obtain ⟨hag,_,_,_⟩:=z2t hs.1.1;obtain ⟨cs,hok,hmk,_⟩:=z28 hs.1.1 ex;obtain ⟨av',off,h,hoff,hpart,hids⟩:=z8k hok h;obtain ⟨xa,ya,rfl⟩:=zm7 hs.2;simp only [z2j] at hT;obtain ⟨⟨fs,hund,hfs⟩,_⟩:=hT;obtain ⟨f,s,h1,h2,h3,o',h4,h5⟩:=zlf hfs hs.2;rw [hsk,h4] at hoff;simp only [zI,Prod.mk.injEq] at hoff;obtain ⟨rfl,hss⟩:=hoff;have hf:fs[i]? = some f:=by rw [←Array.getElem?_toList];exact h1
   have ho2:f.offset=o':=by omega
   cases hb:av'.val with
   | false=>rw [hb] at h;simp at h
   | true=>
    rw [hb] at h;simp only [cond_true] at h;obtain ⟨hag',hn1,hn2,hn3⟩:=z2t hb;have hle:=Sk.off_le h4;have hlen:=hok.len;rw [hsk] at hlen;rw [Ty.sk_size] at hle hlen;rw [Ty.sk_size] at hle;have hszs:s.size=av'.sk.size:=by rw [←hss,Ty.sk_size]
    have hv':a.eval x = .agg cs.toArray:=by rw [hmk,hag,hsk];rfl
    refine yld (v:=mkV s.sk.isAgg (seg cs o' s.size)) ?_ ?_ (fun m hm=>hids m (ef m hm)) h
    ·intro w' _;have hp:=zmj h3 cs o' (by omega) w';simp [execOp,ho,hv',Instr.field,run_underlying hund,hf,asAgg,ho2,hp]
    ·refine z19 hpart ?_ hn1 hn2;rw [hag',←hss,hszs,hss]
 ·simp at h
end
end Go.Kz
namespace Go.Kz
variable {R:Type}
theorem zhr (z:Array Value) (n:Nat) (hz:0 < z.size):(Builtin.zeroCells z n).toList=(List.replicate n z.toList).flatten:=by
 rw [←z7e z n hz];congr 1
theorem z3y {α:Type} (z:α) (l:List α) (a b:Int):(z82 z l a b).length=l.length:=by simp [z82]
theorem zjv {α:Type} (z:α) (l:List α) (a b:Int) (i:Nat) (h:i < (z82 z l a b).length) (h':i < l.length) :
  (z82 z l a b).get ⟨i,h⟩=if a≤(i:Int)∧(i:Int) < b then z else l.get ⟨i,h'⟩:=by
 simp [z82,List.getD_eq_getElem?_getD,h']
theorem zqz {α:Type} (z:α) (l:List α) (a b:Int) (hab:b≤a):z82 z l a b=l:=by
 apply List.ext_getElem (z3y z l a b);intro i h1 h2;have:=zjv z l a b i h1 h2;simp only [List.get_eq_getElem] at this;rw [this,if_neg (by omega)]
theorem zfh {σ:St} {id:Nat} {o:Obj} (h:σ.objs id=some o):σ.setObj id o=σ:=by
 cases σ;simp only [St.setObj,St.mk.injEq,true_and];simp only at h;refine ⟨?_,trivial⟩;funext i;by_cases hi:i=id
 ·subst hi;rw [z0j,h]
 ·rw [z0k _ _ hi]
section
variable {P:Program} {o:Oper} {a:Act} {w:World} {K:Act->World->Prop} {Q:Exit->Act->World->Prop} {c:Ctx} {σ:St} {g:Ghost} {k:St->Option R} {r:R} {base:Nat}
theorem zdu {x:Operand} {args:Array Operand} {ts:Array TypeId} {t:TypeId} {v:Value} {w':World} (ho:o.op = .call { callee:=.builtin .clear,args:=args,argTypes:=ts }) (ha:args.toList=[x]) (ht:ts.toList=[t])
  (h:∀ ty,(Builtin.clear_ #[t] ty #[a.eval x]).run P w = .ok v w'):(execOp a.eval o).run P w = .ok (.value v) w':=by
 have e1:args = #[x]:=by apply Array.toList_inj.1;simpa using ha
 have e2:ts = #[t]:=by apply Array.toList_inj.1;simpa using ht
 subst e1;subst e2;simp [execOp,ho,resolve,invoke,builtin,h]
theorem zmi {t u:Ty} (h:(Ty.same t u).isSome=true):t=u:=by
 cases hs:Ty.same t u with
 | none=>rw [hs] at h;simp at h
 | some e=>exact e.down
theorem zvh {id:Nat} {t:Ty} {l:List t.den} {z:t.den} {e b off cap:Nat} {cc:Array Value} {ee:TypeId} {av bv:Int} (hro:t.isRo=true) (hz:t.zero=some z)
  (h0:0≤av) (hab:av≤bv) (hbl:bv≤(l.length:Int)) (hlc:l.length≤cap) (hcm:cap≤maxLen) (hsv:g.sv id [] = .slice (some ⟨b,off,none⟩) l.length cap)
  (htag:g.tag b = .row id []) (hcell:w.heap[b]? = some (.cells cc ee (0,0))) (hsz:off+cap*t.size≤cc.size)
  (hel:∀ (i:Nat) (h:i < l.length),Rep w g (some (id,[.idx i])) t (l.get ⟨i,h⟩) (seg cc.toList (off+i*t.size) t.size)) (objs:z2c) :
  z14 (w.setRow b (z0f cc.toList (off+av.toNat*t.size) (List.replicate (bv-av).toNat (zeroCells t)).flatten).toArray) g objs id (.row t (z82 z l av bv) e):=by
 have hccl:cc.toList.length=cc.size:=Array.length_toList;have hzl:(List.replicate (bv-av).toNat (zeroCells t)).flatten.length=(bv-av).toNat*t.size:=by rw [z1d,z16]
 have hmul:(av.toNat+(bv-av).toNat)*t.size≤cap*t.size:=Nat.mul_le_mul_right _ (by omega);rw [Nat.add_mul] at hmul;have hRo:RoKept w g (w.setRow b (z0f cc.toList (off+av.toNat*t.size) (List.replicate (bv-av).toNat (zeroCells t)).flatten).toArray) g:=(z1t (id:=id) _ (.inl ⟨[],htag⟩)).ro;refine ⟨hro,some ⟨b,off,none⟩,cap,by rw [z3y,hsv],by rw [z3y,hsv],by rw [z3y];exact hlc,hcm,.inr ⟨b,off,_,ee,rfl,htag,setRow_heap w b cc _ ee _ hcell,?_,fun j hj=>?_⟩⟩
 ·rw [List.size_toArray,z1u _ _ _ (by rw [hzl,hccl];omega),hccl];exact hsz
 ·have hj':j < l.length:=by rw [z3y] at hj;exact hj
  have hjcap:(j+1)*t.size≤cap*t.size:=Nat.mul_le_mul_right _ (by omega);rw [Nat.add_mul] at hjcap;refine Rep.anyOwn hro (o:=none) ?_;rw [zjv z l av bv j hj hj'];by_cases hin:av≤(j:Int)∧(j:Int) < bv
  ·rw [if_pos hin];obtain ⟨m,hm⟩:∃ m,j=av.toNat+m:=⟨j-av.toNat,by omega⟩;have hmm:m < (bv-av).toNat:=by omega
   have h3:(m+1)*t.size≤(bv-av).toNat*t.size:=Nat.mul_le_mul_right _ hmm;rw [Nat.add_mul] at h3;have e1:off+j*t.size=(off+av.toNat*t.size)+m*t.size:=by rw [hm,Nat.add_mul];omega
   rw [e1,z5a _ _ _ _ _ (by rw [hzl];omega) (by rw [hzl,hccl];omega)];have:=z29 (bv-av).toNat (zeroCells t) m hmm;rw [z16] at this;rw [List.toList_toArray] at *;rw [this];exact z3w hro hz
  ·rw [if_neg hin];have hold:=(Rep.anyOwn (o':=none) hro (hel j hj')).kept hRo;rcases Int.lt_or_le (j:Int) av with hlt | hge
   ·have h3:(j+1)*t.size≤av.toNat*t.size:=Nat.mul_le_mul_right _ (by omega);rw [Nat.add_mul] at h3;rw [z1p _ _ _ _ _ (by omega) (by rw [hccl];omega)];exact hold
   ·have h3:(av.toNat+(bv-av).toNat)*t.size≤j*t.size:=Nat.mul_le_mul_right _ (by omega);rw [Nat.add_mul] at h3;rw [z2s _ _ _ _ _ (by rw [hzl];omega) (by rw [hzl,hccl];omega)];exact hold
theorem zzu (htt:zbd P c.tt) {args:Array Operand} {ts:Array TypeId} (ho:o.op = .call { callee:=.builtin .clear,args:=args,argTypes:=ts }) (hst:StOK c.ntmps g w a σ) (h:z1s c σ base o k=some r)
  (hK:z79 c.ntmps k r g w σ base true K):o.wp P a w K Q:=by
 simp only [z1s,ho] at h;split at h
 ·rename_i x t hargs hts;split at h
  ·rename_i id ep av bv ow u hx hu;split at h
   ·rename_i t' l e hobj
    cases hb:(Nat.beq e ep && (Ty.same t' u).isSome) with
    | false=>rw [hb] at h;simp at h
    | true=>
     rw [hb] at h;simp only [cond_true] at h;simp only [zA] at hb;have hee:=zE hb.1;subst hee;have htu:=zmi hb.2;subst htu;split at h
     ·rename_i z hz;have hT:=htt _ _ hu;simp only [z2j] at hT;obtain ⟨⟨E,hund,hE⟩,_⟩:=hT;obtain ⟨ex,ef⟩:=z24 hst hx;simp only [VOK] at ex;obtain ⟨cs,⟨v,rfl,hone,hv⟩,hv'⟩:=ex;obtain ⟨_,h0,hab,hbl,e1⟩:=(hv _ _ _ hobj).2 rfl;obtain ⟨hro,ad,cap,_,hsv,hlc,hcm,hrow⟩:=hst.heap.objs _ _ hobj;have hv2:a.eval x=z2g (.slice ad l.length cap) t'.size av bv:=by rw [←hsv,←e1];exact hv'
      by_cases hn:(bv-av).toNat=0
      ·have hcl:z82 z l av bv=l:=zqz _ _ _ _ (by omega);rw [hcl,zfh hobj] at h;refine z3i (v:=.tuple #[]) (g':=g) (w':=w) (σ':=σ) (zdu ho hargs hts fun ty=>?_) hst (Ext.refl w g) (fun m _ hf=>⟨hf,by simp [AVal.ids]⟩) rfl ?_ h (fun h=>Bool.noConfusion h) hK
       ·rw [hv2];simp only [z2g,hn];by_cases hc:cap-av.toNat=0
        ·cases ad <;> simp [Builtin.clear_,run_underlying hund,hc]
        ·cases ad <;> simp [Builtin.clear_,run_underlying hund,hc]
       ·simp [VOK,z1o]
      ·rcases hrow with ⟨rfl,hl,rfl⟩ | ⟨b,off,cc,ee,rfl,htag,hcell,hsz,hel⟩
       ·rw [hl] at hbl;simp at hbl;omega
       ·obtain ⟨i,zv,hi1,hi2,hi3,hi4,hi5,hi6⟩:=hE.info.info;have hzs:zv.cells.size=t'.size:=by rw [←Array.length_toList,hi5,z16]
        have hzc:(Builtin.zeroCells zv.cells (bv-av).toNat).toList=(List.replicate (bv-av).toNat (zeroCells t')).flatten:=by
         rw [zhr _ _ (by rw [hzs,←hi2];exact hi6),hi5]
        have hccl:cc.toList.length=cc.size:=Array.length_toList;have hzl:(List.replicate (bv-av).toNat (zeroCells t')).flatten.length=(bv-av).toNat*t'.size:=by rw [z1d,z16]
        have hmul:(av.toNat+(bv-av).toNat)*t'.size≤cap*t'.size:=Nat.mul_le_mul_right _ (by omega);rw [Nat.add_mul] at hmul;have hst':=run_storeCells_at P b (off+av.toNat*t'.size) ee (List.replicate (bv-av).toNat (zeroCells t')).flatten 0 cc w hcell (by rw [hzl];omega) (fun x hx=>by
         obtain ⟨y,hy,hxy⟩:=List.mem_flatten.1 hx;rw [(List.mem_replicate.1 hy).2] at hxy;exact Rep.one (w:=w) (g:=g) (z3w hro hz) x hxy)
        simp only [Nat.add_zero] at hst';have hRw:=z1t (w:=w) (g:=g) (id:=id) (b0:=b) (z0f cc.toList (off+av.toNat*t'.size) (List.replicate (bv-av).toNat (zeroCells t')).flatten).toArray (.inl ⟨[],htag⟩);have hobj':=zvh (e:=e) hro hz h0 hab hbl hlc hcm hsv htag hcell hsz (fun i hi=>hel i hi) (σ.setObj id (.row t' (z82 z l av bv) e)).objs;have hst2:=hRw.st hst (o':=.row t' (z82 z l av bv) e) (.inr (.inl ⟨t',l,z82 z l av bv,e,e,hobj,rfl,.inr ⟨rfl,z3y _ _ _ _,fun _=>rfl⟩⟩)) hobj';refine z3i (v:=.tuple #[]) (zdu ho hargs hts fun ty=>?_) hst2 hRw.ext (fun m _ hf=>⟨hRw.fresh (by rw [hobj];simp) (fun y hy=>by simp at hy) hf,by simp [AVal.ids]⟩) rfl ?_ h (fun h=>Bool.noConfusion h) hK
        ·rw [hv2];obtain ⟨n,hn'⟩:∃ n,(bv-av).toNat=n+1:=⟨(bv-av).toNat-1,by omega⟩;simp only [z2g];rw [if_neg (by omega)];rw [hzc.symm] at hst';simp only [hn'] at hst' ⊢;simp [Builtin.clear_,run_underlying hund,zeroValue,typeInfo,hi1,hi4,Addr.add_lit,hst',z0f];rw [hn'] at hzc;rw [hzc,←Array.length_toList,hzc,z1d]
        ·simp [VOK,z1o]
     ·simp at h
   ·simp at h
  ·simp at h
 ·simp at h
end
end Go.Kz
