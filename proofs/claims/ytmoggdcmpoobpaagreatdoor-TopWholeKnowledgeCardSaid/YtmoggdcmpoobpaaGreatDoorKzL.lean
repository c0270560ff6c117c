/-
  Parts of abstract values in cells: read, replaced; states.
-/
import Derived.Test.YtmoggdcmpoobpaaGreatDoorKzE
set_option linter.unusedVariables false
set_option linter.unusedSimpArgs false
namespace Go.Kz
variable {R:Type}
theorem Z2 {w:World} {g:z8} {z6:qk}:{a:z7}->{p:Path}->{k:z7->Option R}->{r:R}->{cs:List Value}->
  jV w g z6 a cs->uM a p k=some r->
  ∃ a' off,k a'=some r/\a.sk.off p=some (off,a'.sk)/\jV w g z6 a' (qB cs off a'.sk.size)/\∀ m,m∉a.ids->m∉a'.ids
 | a,[],k,r,cs,zR,h=>by
  have hk:k a=some r:=by cases a <;> simpa [uM] using h
  exact ⟨a,0,hk,by simp [Sk.off],by rw [<-zR.len,kU];exact zR,fun m hm=>hm⟩
 | .agg c,s :: p,k,r,cs,zR,h=>by
  simp only [uM] at h
  exact Z2 (a:=c) (show jV w g z6 c cs from zR) h
 | .pr a b,.fst :: p,k,r,cs,zR,h=>by
  simp only [uM] at h;obtain ⟨c1,c2,rfl,h1,h2⟩:=zR;obtain ⟨a',off,hk,ho,hr,hi⟩:=Z2 h1 h;have:=Sk.wU ho;refine ⟨a',off,hk,by simpa [z7.sk,Sk.off] using ho,?_,fun m hm=>hi m (by simp [z7.ids] at hm;exact hm.1)⟩
  rw [qd _ _ _ _ (by rw [h1.len];exact this)];exact hr
 | .pr a b,.snd :: p,k,r,cs,zR,h=>by
  simp only [uM] at h;obtain ⟨c1,c2,rfl,h1,h2⟩:=zR;obtain ⟨a',off,hk,ho,hr,hi⟩:=Z2 h2 h;refine ⟨a',a.sk.size+off,hk,by simp [z7.sk,Sk.off,ho],?_,fun m hm=>hi m (by simp [z7.ids] at hm;exact hm.2)⟩
  rw [y8 _ _ _ _ _ h1.len.symm];exact hr
 | .data t d,s :: p,k,r,cs,zR,h=>by
  have h':za t d (s :: p) (fun u e=>k (.data u e))=some r:=by cases s <;> simpa [uM] using h
  obtain ⟨u,e,off,hk,hu,ho,hr⟩:=Z0 zR.1 zR.2 h'
  exact ⟨.data u e,off,hk,by simpa [z7.sk] using ho,⟨hu,by simpa [z7.sk,Ty.zZ] using hr⟩,fun m _=>by simp [z7.ids]⟩
 | .qy,s :: _,_,_,_,_,h=>by cases s <;> simp [uM] at h
 | .ref _ _ _,s :: _,_,_,_,_,h=>by cases s <;> simp [uM] at h
 | .view _ _ _ _ _,s :: _,_,_,_,_,h=>by cases s <;> simp [uM] at h
 | .zu _ _,s :: _,_,_,_,_,h=>by cases s <;> simp [uM] at h
 | .vW _ _ _,s :: _,_,_,_,_,h=>by cases s <;> simp [uM] at h
 | .qA _,s :: _,_,_,_,_,h=>by cases s <;> simp [uM] at h
 | .nv _ _ _ _,s :: _,_,_,_,_,h=>by cases s <;> simp [uM] at h
 | .yG _ _,s :: _,_,_,_,_,h=>by cases s <;> simp [uM] at h
 | .jC _,s :: _,_,_,_,_,h=>by cases s <;> simp [uM] at h
 | .un,s :: _,_,_,_,_,h=>by cases s <;> simp [uM] at h
 | .pr _ _,.idx _ :: _,_,_,_,_,h=>by simp [uM] at h
theorem ZY {w:World} {g:z8} {z6:qk}:{t:Ty}->{d:t.den}->{cs:List Value}->t.zV=true->zC w g none t d cs->
  (j5 t d).sk=t.sk->jV w g z6 (j5 t d) cs
 | .pair a b,(x,y),cs,ht,h,hs=>by
  obtain ⟨c1,c2,rfl,h1,h2⟩:=h;simp only [Ty.zV,zA] at ht;simp only [j5,z7.sk,Ty.sk,Sk.pair.injEq,VL] at hs
  exact ⟨c1,c2,rfl,⟨ht.1,h1⟩,ZY ht.2 h2 hs⟩
 | .unit,_,cs,_,h,_=>h
 | .int _,_,_,_,_,hs=>by simp [j5,z7.sk,Ty.sk] at hs
 | .bool,_,_,_,_,hs=>by simp [j5,z7.sk,Ty.sk] at hs
 | .str,_,_,_,_,hs=>by simp [j5,z7.sk,Ty.sk] at hs
 | .arr _ _,_,_,_,_,hs=>by simp [j5,z7.sk,Ty.sk] at hs
 | .sl _ _,_,_,_,_,hs=>by simp [j5,z7.sk,Ty.sk] at hs
 | .ptr _,_,_,_,_,hs=>by simp [j5,z7.sk,Ty.sk] at hs
 | .fn _ _,_,_,_,_,hs=>by simp [j5,z7.sk,Ty.sk] at hs
 | .tree _,_,_,_,_,hs=>by simp [j5,z7.sk,Ty.sk] at hs
theorem V4:(t:Ty)->(d:t.den)->(j5 t d).ids=[]
 | .pair a b,(x,y)=>by simp [j5,z7.ids,V4 b y]
 | .int _,_=>by simp [j5,z7.ids]
 | .bool,_=>by simp [j5,z7.ids]
 | .str,_=>by simp [j5,z7.ids]
 | .unit,_=>by simp [j5,z7.ids]
 | .arr _ _,_=>by simp [j5,z7.ids]
 | .sl _ _,_=>by simp [j5,z7.ids]
 | .ptr _,_=>by simp [j5,z7.ids]
 | .fn _ _,_=>by simp [j5,z7.ids]
 | .tree _,_=>by simp [j5,z7.ids]
theorem V5 (c1 c2 AE:List Value) (h:AE.length=c1.length):zU (c1++c2) 0 AE=AE++c2:=by
 simp only [zU,Z20,Zu,Zp,h,List.drop_left]
theorem ZV {w:World} {g:z8} {z6:qk} {new:z7} {AE:List Value} (hn:jV w g z6 new AE) :
  {t:Ty}->{d:t.den}->{p:Path}->{k:z7->Option R}->{r:R}->{cs:List Value}->{off:Nat}->
  t.zV=true->zC w g none t d cs->t.sk.off p=some (off,new.sk)->jy new t d p k=some r->
  ∃ u,k u=some r/\(∀ m,m∉new.ids->m∉u.ids)/\(u.sk=t.sk->jV w g z6 u (zU cs off AE))
 | .pair a b,(x,y),[.fst],k,r,cs,off,ht,h,ho,hk=>by
  obtain ⟨c1,c2,rfl,h1,h2⟩:=h;simp only [Ty.zV,zA] at ht;simp only [Ty.sk,Sk.off,zI,gB] at ho;obtain ⟨rfl,hs⟩:=ho;refine ⟨_,hk,fun m hm=>by simp [z7.ids,V4,hm],fun he=>?_⟩;simp only [z7.sk,Ty.sk,Sk.pair.injEq] at he;rw [V5 _ _ _ (by rw [hn.len,h1.len,<-hs,Ty.zZ])]
  exact ⟨AE,c2,rfl,hn,ZY ht.2 h2 he.2⟩
 | .pair a b,(x,y),.fst :: s :: p,k,r,cs,off,ht,h,ho,hk=>by
  obtain ⟨c1,c2,rfl,h1,h2⟩:=h;simp only [Ty.zV,zA] at ht;simp only [Ty.sk,Sk.off] at ho;simp only [jy] at hk;obtain ⟨u,hu,hi,zR⟩:=ZV hn ht.1 h1 ho hk;refine ⟨_,hu,fun m hm=>by simp [z7.ids,V4,hi m hm],fun he=>?_⟩;simp only [z7.sk,Ty.sk,Sk.pair.injEq] at he;have:=Sk.wU ho;rw [Ty.zZ] at this;rw [vc _ _ _ _ (by rw [h1.len,hn.len];exact this)]
  exact ⟨_,c2,rfl,zR he.1,ZY ht.2 h2 he.2⟩
 | .pair a b,(x,y),.snd :: p,k,r,cs,off,ht,h,ho,hk=>by
  obtain ⟨c1,c2,rfl,h1,h2⟩:=h;simp only [Ty.zV,zA] at ht;simp only [Ty.sk,Sk.off,wq,gB] at ho;obtain ⟨⟨o,s⟩,ho,rfl,rfl⟩:=ho;have A9:jy new b y p (fun u=>k (.pr (.data a x) u))=some r:=by simpa [jy] using hk
  obtain ⟨u,hu,hi,zR⟩:=ZV hn ht.2 h2 ho A9;refine ⟨_,hu,fun m hm=>by simp [z7.ids,hi m hm],fun he=>?_⟩;simp only [z7.sk,Ty.sk,Sk.pair.injEq] at he;rw [vG _ _ _ _ _ (by rw [h1.len,Ty.zZ])]
  exact ⟨c1,_,rfl,⟨ht.1,h1⟩,zR he.2⟩
 | .pair _ _,_,[],_,_,_,_,_,_,_,hk=>by simp [jy] at hk
 | .pair _ _,_,.idx _ :: _,_,_,_,_,_,_,_,hk=>by simp [jy] at hk
 | .int _,_,_,_,_,_,_,_,_,_,hk=>by simp [jy] at hk
 | .bool,_,_,_,_,_,_,_,_,_,hk=>by simp [jy] at hk
 | .str,_,_,_,_,_,_,_,_,_,hk=>by simp [jy] at hk
 | .unit,_,_,_,_,_,_,_,_,_,hk=>by simp [jy] at hk
 | .arr _ _,_,_,_,_,_,_,_,_,_,hk=>by simp [jy] at hk
 | .sl _ _,_,_,_,_,_,_,_,_,_,hk=>by simp [jy] at hk
 | .ptr _,_,_,_,_,_,_,_,_,_,hk=>by simp [jy] at hk
 | .fn _ _,_,_,_,_,_,_,_,_,_,hk=>by simp [jy] at hk
 | .tree _,_,_,_,_,_,_,_,_,_,hk=>by simp [jy] at hk
theorem QV {w:World} {g:z8} {z6:qk} {new:z7} {AE:List Value} (hn:jV w g z6 new AE) :
  {a:z7}->{p:Path}->{k:z7->Option R}->{r:R}->{cs:List Value}->{off:Nat}->
  jV w g z6 a cs->a.sk.off p=some (off,new.sk)->uU new a p k=some r->
  ∃ a',k a'=some r/\a'.sk=a.sk/\jV w g z6 a' (zU cs off AE)/\∀ m,m∉a.ids->m∉new.ids->m∉a'.ids
 | a,[],k,r,cs,off,zR,ho,h=>by
  have hk:k new=some r:=by cases a <;> simpa [uU] using h
  simp only [Sk.off,zI,gB] at ho;obtain ⟨rfl,hs⟩:=ho;have:zU cs 0 AE=AE:=by
   simp only [zU,Z20,Zu,Zp];rw [hn.len,<-hs,<-zR.len];simp
  exact ⟨new,hk,hs.symm,by rw [this];exact hn,fun m _ h=>h⟩
 | .agg c,s :: p,k,r,cs,off,zR,ho,h=>by
  simp only [uU] at h;obtain ⟨a',hk,hs,hr,hi⟩:=QV hn (a:=c) (show jV w g z6 c cs from zR) ho h
  exact ⟨.agg a',hk,hs,hr,hi⟩
 | .pr a b,.fst :: p,k,r,cs,off,zR,ho,h=>by
  simp only [uU] at h;obtain ⟨c1,c2,rfl,h1,h2⟩:=zR;have GP:a.sk.off p=some (off,new.sk):=by simpa [z7.sk,Sk.off] using ho
  obtain ⟨a',hk,hs,hr,hi⟩:=QV hn h1 GP h;have:=Sk.wU GP;refine ⟨.pr a' b,hk,by simp [z7.sk,hs],?_,fun m hm hn=>by simp [z7.ids] at hm ⊢;exact ⟨hi m hm.1 hn,hm.2⟩⟩;rw [vc _ _ _ _ (by rw [h1.len,hn.len];exact this)]
  exact ⟨_,_,rfl,hr,h2⟩
 | .pr a b,.snd :: p,k,r,cs,off,zR,ho,h=>by
  simp only [uU] at h;obtain ⟨c1,c2,rfl,h1,h2⟩:=zR;simp only [z7.sk,Sk.off,wq,gB] at ho;obtain ⟨⟨o,s⟩,ho,rfl,rfl⟩:=ho;obtain ⟨a',hk,hs,hr,hi⟩:=QV hn h2 ho h;refine ⟨.pr a a',hk,by simp [z7.sk,hs],?_,fun m hm hn=>by simp [z7.ids] at hm ⊢;exact ⟨hm.1,hi m hm.2 hn⟩⟩;rw [vG _ _ _ _ _ h1.len.symm]
  exact ⟨_,_,rfl,h1,hr⟩
 | .data t d,s :: p,k,r,cs,off,zR,ho,h=>by
  have h':cond (Ic t (s :: p) new) (I3 new t d (s :: p) k)
   (jy new t d (s :: p) fun u=>cond (u.sk.same t.sk) (k (.agg u)) none)=some r:=by cases s <;> simpa [uU] using h
  cases hf:Ic t (s :: p) new with
  | true=>
   rw [hf] at h'
   cases new with
   | data u e=>
    obtain ⟨d',Vz,hk,GP,hr⟩:=xE zR.1 zR.2 hn.2 h';simp only [z7.sk] at ho;rw [GP] at ho;simp only [zI,gB] at ho;obtain ⟨rfl,_⟩:=ho
    exact ⟨_,hk,rfl,⟨zR.1,hr⟩,fun m _ _=>by simp [z7.ids]⟩
   | _=>simp [I3] at h'
  | false=>
   rw [hf] at h';obtain ⟨u,hu,hi,WY⟩:=ZV hn zR.1 zR.2 (by simpa [z7.sk] using ho) h'
   cases hs:u.sk.same t.sk with
   | true=>
    rw [hs] at hu
    exact ⟨.agg u,hu,Sk.qw hs,WY (Sk.qw hs),fun m _ hm=>hi m hm⟩
   | false=>rw [hs] at hu;simp at hu
 | .qy,s :: _,_,_,_,_,_,_,h=>by cases s <;> simp [uU] at h
 | .ref _ _ _,s :: _,_,_,_,_,_,_,h=>by cases s <;> simp [uU] at h
 | .view _ _ _ _ _,s :: _,_,_,_,_,_,_,h=>by cases s <;> simp [uU] at h
 | .zu _ _,s :: _,_,_,_,_,_,_,h=>by cases s <;> simp [uU] at h
 | .vW _ _ _,s :: _,_,_,_,_,_,_,h=>by cases s <;> simp [uU] at h
 | .qA _,s :: _,_,_,_,_,_,_,h=>by cases s <;> simp [uU] at h
 | .nv _ _ _ _,s :: _,_,_,_,_,_,_,h=>by cases s <;> simp [uU] at h
 | .yG _ _,s :: _,_,_,_,_,_,_,h=>by cases s <;> simp [uU] at h
 | .jC _,s :: _,_,_,_,_,_,_,h=>by cases s <;> simp [uU] at h
 | .un,s :: _,_,_,_,_,_,_,h=>by cases s <;> simp [uU] at h
 | .pr _ _,.idx _ :: _,_,_,_,_,_,_,h=>by simp [uU] at h
end Go.Kz
namespace Go.Kz
def yE (w:World) (g:z8) (kt vt:Ty):List MapEntry->List (kt.den×vt.den)->Prop
 | [],[]=>True
 | e :: es,(k,v) :: m=>(∃ cs,zC w g none kt k cs/\e.key=jA kt.sk.isAgg cs)/\(∃ cs,zC w g none vt v cs/\e.val=jA vt.sk.isAgg cs)/\yE w g kt vt es m
 | _,_=>False
theorem yE.kept {w w':World} {g g':z8} (hr:zO w g w' g') {kt vt:Ty}:{es:List MapEntry}->{m:List (kt.den×vt.den)}->yE w g kt vt es m->yE w' g' kt vt es m
 | [],[],_=>trivial
 | _ :: _,(_,_) :: _,⟨⟨c1,h1,e1⟩,⟨c2,h2,e2⟩,h⟩=>⟨⟨c1,h1.kept hr,e1⟩,⟨c2,h2.kept hr,e2⟩,yE.kept hr h⟩
 | [],_ :: _,h=>h.elim
 | _ :: _,[],h=>h.elim
structure LK (w:World) (g:z8) (w':World) (g':z8) (id:Nat) (p:Path) (b0:Nat):Prop where
 ro:zO w g w' g'
 sv:∀ q,¬ p <+: q->g'.sv id q=g.sv id q
 zt:∀ q b,g.tag b = .row id q->¬ p <+: q->g'.tag b = .row id q/\(b≠b0->w'.heap[b]? = w.heap[b]?)
def Ej (w:World) (g:z8) (id:Nat) (t:Ty) (l:List t.den) (p:Path):Prop:=
 (∃ bk o cap,g.sv id [] = .slice (some ⟨bk,o,none⟩) l.length cap)/\
 ∃ v b0 off c e pre,Ew t p=some v/\place g id (.sl true t) [] 0 0 p=some (b0,off)/\g.tag b0 = .row id pre/\pre.length < p.length/\w.heap[b0]? = some (.cells c e (0,0))/\off < c.size/\
  ∀ (w':World) (g':z8) (l1:List v.den) (x:Value),LK w g w' g' id p b0->w'.heap[b0]? = some (.cells (zU c.toList off [x]).toArray e (0,0))->zC w' g' (some (id,p)) (.sl true v) l1 [x]->
   ∀ {R:Type} (f:List t.den->Option R) (r:R),jM (.sl true t) l p (.sl true v) l1 f=some r->∃ l2,f l2=some r/\zC w' g' (some (id,[])) (.sl true t) l2 [g'.sv id []]
def z2l (w:World) (g:z8) (z6:qk) (id:Nat) (a:z7):Prop:=
 ∃ (Kx n bm:Nat) (seen:Array Nat) (cur:Int),a=pF Kx (n:Int) ((upto n).filter fun i=>!seen.contains i.toNat) cur/\w.heap[g.zt id]? = some (.mapIter (some bm) n seen n)/\
  g.tag (g.zt id) = .box id/\(∀ c:Nat,cur=(c:Int)->seen.back? = some c)/\∀ kt vt m,z6 Kx=some (.map kt vt m)->bm=g.zt Kx
def z2n (w:World) (g:z8) (z6:qk) (id:Nat) (a:z7):Prop:=∃ c e,w.heap[g.zt id]? = some (.cells c e (0,0))/\g.tag (g.zt id) = .ro/\jV w g z6 a c.toList
def z2h (w:World) (g:z8) (z6:qk) (id:Nat):z7->Prop
 | .jC (.agg x)=>z2n w g z6 id (.agg x)
 | .jC (.qA i)=>z2n w g z6 id (.qA i)
 | a=>z2l w g z6 id a
def kN (es:List MapEntry):Prop:=es.map (·.born)=List.range es.length
def zm (w:World) (g:z8) (z6:qk) (id:Nat):Obj->Prop
 | .row t l _=>t.zV=true/\zC w g (some (id,[])) (.sl true t) l [g.sv id []]
 | .cell a=>if a.wk then z2h w g z6 id a else ∃ c e,w.heap[g.zt id]? = some (.cells c e (0,0))/\g.tag (g.zt id) = .box id/\jV w g z6 a c.toList
 | .map kt vt m=>∃ es clock,w.heap[g.zt id]? = some (.map es clock)/\g.tag (g.zt id) = .box id/\kt.zV=true/\vt.zV=true/\yE w g kt vt es.toList m/\clock=es.size/\kN es.toList
 | .nest t l _ _ none=>zC w g (some (id,[])) (.sl true t) l [g.sv id []]
 | .nest t l _ _ (some p)=>Ej w g id t l p
theorem jV.zih {w:World} {g:z8} {z6:qk}:{a:z7}->{cs:List Value}->jV w g z6 a cs->a.wk=false
 | .jC _,_,h=>h.elim
 | .data _ _,_,_ | .qy,_,_ | .ref _ _ _,_,_ | .view _ _ _ _ _,_,_ | .zu _ _,_,_ | .vW _ _ _,_,_ | .qA _,_,_ | .nv _ _ _ _,_,_ | .yG _ _,_,_ | .JJ _ _,_,_ | .agg _,_,_ | .pr _ _,_,_ | .un,_,_=>rfl
theorem zm.mk {w:World} {g:z8} {z6:qk} {id:Nat} {a:z7} (h:∃ c e,w.heap[g.zt id]? = some (.cells c e (0,0))/\g.tag (g.zt id) = .box id/\jV w g z6 a c.toList):zm w g z6 id (.cell a):=by
 obtain ⟨c,e,h1,h2,h3⟩:=h;show (if a.wk=true then z2h w g z6 id a else ∃ c e,w.heap[g.zt id]? = some (.cells c e (0,0))/\g.tag (g.zt id) = .box id/\jV w g z6 a c.toList);rw [qQ (by simp [h3.zih])];exact ⟨c,e,h1,h2,h3⟩
theorem zm.out {w:World} {g:z8} {z6:qk} {id:Nat} {a:z7} (ht:a.wk=false) (h:zm w g z6 id (.cell a)):∃ c e,w.heap[g.zt id]? = some (.cells c e (0,0))/\g.tag (g.zt id) = .box id/\jV w g z6 a c.toList:=by
 have h:(if a.wk=true then z2h w g z6 id a else ∃ c e,w.heap[g.zt id]? = some (.cells c e (0,0))/\g.tag (g.zt id) = .box id/\jV w g z6 a c.toList):=h;rw [qQ (by simp [ht])] at h;exact h
theorem zm.iter {w:World} {g:z8} {z6:qk} {id:Nat} {a:z7} (ht:a.wk=true) (hc:a.wg=false:=by rfl):zm w g z6 id (.cell a)↔z2l w g z6 id a:=by
 cases a with
 | jC c=>cases c <;> first | exact Iff.rfl | simp [z7.wg] at hc
 | _=>simp [z7.wk] at ht
theorem zm.Jq {w:World} {g:z8} {z6:qk} {id:Nat} {c:z7} (hc:(z7.jC c).wg=true:=by rfl):zm w g z6 id (.cell (.jC c))↔z2n w g z6 id c:=by
 cases c <;> first | exact Iff.rfl | simp [z7.wg] at hc
theorem X4 {a:z7} (h:a.wg=true):∃ c,a = .jC c:=by
 cases a with
 | jC c=>exact ⟨_,rfl⟩
 | _=>simp [z7.wg] at h
theorem Fw {a:z7} (h:(z7.jC a).wg=true):a.wk=false:=by
 cases a <;> first | rfl | simp [z7.wg] at h
theorem Vv {R:Type} {a:z7} {x:Option R} {r:R} (h:cond a.wk none x=some r):a.wk=false/\x=some r:=by
 cases ht:a.wk with
 | true=>rw [ht] at h;simp at h
 | false=>rw [ht] at h;exact ⟨rfl,h⟩
structure yZ (w:World) (g:z8) (z6:qk):Prop where
 z6:∀ id o,z6 id=some o->zm w g z6 id o
 tags:∀ b,g.tag b≠.zn->b < w.heap.size
def Known (w:World) (g:z8):Prop:=∀ b e,tab b=some e->e.t.zV=true/\zC w g none (.ptr (.arr e.n e.t)) e.l [.pointer (some ⟨b,0,none⟩)]/\∃ c ty fz,w.heap[b]? = some (.cells c ty fz)/\c.size=e.n*e.t.size
theorem Known.kept {w w':World} {g g':z8} (hr:zO w g w' g') (h:Known w g):Known w' g':=fun b e he=>by
 obtain ⟨h1,h2,c,ty,fz,h3,h4⟩:=h b e he;refine ⟨h1,h2.kept hr,c,ty,fz,?_,h4⟩;obtain ⟨b',off,c',e',fz',hp,ht,_⟩:=h2;simp only [Az,Value.pointer.injEq,zI,Addr.mk.injEq,Ds] at hp;rw [(hr.zt b (by rw [hp.1];exact ht)).2,h3]
structure zK (n:Nat) (g:z8) (w:World) (a:Act) (J:St):Prop where
 zj:∀ i av,J.zj i=some av->∃ v,a.tmps[i]? = some v/\zl w g J.z6 av v
 heap:yZ w g J.z6
 size:a.tmps.size=n
 defers:a.defers=[]
 known:Known w g
structure zY (g:z8) (J:St) (m:Nat):Prop where
 z6:J.z6 m=none
 row:∀ b p,g.tag b≠.row m p
 box:∀ b,g.tag b≠.box m
 zj:∀ i av,J.zj i=some av->m∉av.ids
 cells:∀ id av,J.z6 id=some (.cell av)->m∉av.ids
structure Ext (w:World) (g:z8) (w':World) (g':z8):Prop where
 os:w'.os=w.os
 tape:w'.tape=w.tape
 output:w'.output=w.output
 drawn:w.drawn<=w'.drawn
 size:w.heap.size<=w'.heap.size
 vj:∀ b,b < w.heap.size->(g.tag b = .zn\/g.tag b = .ro)->w'.heap[b]? = w.heap[b]?/\g'.tag b=g.tag b
theorem Ext.refl (w:World) (g:z8):Ext w g w g:=⟨rfl,rfl,rfl,yS _,yS _,fun _ _ _=>⟨rfl,rfl⟩⟩
theorem Ext.trans {w w' w'':World} {g g' g'':z8} (h:Ext w g w' g') (k:Ext w' g' w'' g''):Ext w g w'' g'':=by
 refine ⟨k.os.trans h.os,k.tape.trans h.tape,k.output.trans h.output,Z1e h.drawn k.drawn,Z1e h.size k.size,fun b hb ht=>?_⟩;obtain ⟨h1,h2⟩:=h.vj b hb ht;obtain ⟨k1,k2⟩:=k.vj b (Z21 hb h.size) (by rw [h2];exact ht);exact ⟨k1.trans h1,k2.trans h2⟩
theorem Ext.ro {w w':World} {g g':z8} (h:Ext w g w' g') (ht:∀ b,g.tag b≠.zn->b < w.heap.size):zO w g w' g':=
 ⟨fun b hb=>let k:=h.vj b (ht b (by rw [hb];simp)) (.inr hb);⟨k.2.trans hb,k.1⟩⟩
def qz (g g':z8) (id:Nat) (o o':Option Obj):Prop:=
 o'=none\/
 (∃ t l l' e e',o=some (.row t l e)/\o'=some (.row t l' e')/\(e < e'\/(e'=e/\l'.length=l.length/\∀ p,g'.sv id p=g.sv id p)))\/
 (∃ a a',o=some (.cell a)/\o'=some (.cell a')/\a'.sk=a.sk/\g'.zt id=g.zt id)\/
 (∃ kt vt m m',o=some (.map kt vt m)/\o'=some (.map kt vt m')/\g'.zt id=g.zt id)\/
 (∃ t l l' e e' i i' h h',o=some (.nest t l e i h)/\o'=some (.nest t l' e' i' h')/\e<=e'/\i<=i'/\(e=e'->g'.sv id []=g.sv id [])/\(i=i'->∀ p,g'.sv id p=g.sv id p))
theorem jS {g g':z8} {id:Nat} (h:∀ p,g'.sv id p=g.sv id p):{t:Ty}->{pre:Path}->{b off:Nat}->{p:Path}->
  place g' id t pre b off p=place g id t pre b off p
 | _,_,_,_,[]=>by simp [place]
 | .pair a c,pre,b,off,.fst :: p=>by simp only [place];exact jS h
 | .pair a c,pre,b,off,.snd :: p=>by simp only [place];exact jS h
 | .arr n t,pre,b,off,.idx i :: p=>by simp only [place];exact jS h
 | .sl true t,pre,b,off,.idx i :: p=>by
  simp only [place,h];split
  ·exact jS h
  ·rfl
 | .sl false t,_,_,_,s :: _=>by cases s <;> simp [place]
 | .sl true t,_,_,_,.fst :: _=>by simp [place]
 | .sl true t,_,_,_,.snd :: _=>by simp [place]
 | .int _,_,_,_,s :: _=>by cases s <;> simp [place]
 | .bool,_,_,_,s :: _=>by cases s <;> simp [place]
 | .str,_,_,_,s :: _=>by cases s <;> simp [place]
 | .unit,_,_,_,s :: _=>by cases s <;> simp [place]
 | .ptr _,_,_,_,s :: _=>by cases s <;> simp [place]
 | .fn _ _,_,_,_,s :: _=>by cases s <;> simp [place]
 | .tree _,_,_,_,s :: _=>by cases s <;> simp [place]
 | .pair _ _,_,_,_,.idx _ :: _=>by simp [place]
 | .arr _ _,_,_,_,.fst :: _=>by simp [place]
 | .arr _ _,_,_,_,.snd :: _=>by simp [place]
theorem jV.frame {w w':World} {g g':z8} {z6 wy:qk} (hr:zO w g w' g'):{a:z7}->{cs:List Value}->
  (∀ id,id∈a.ids->qz g g' id (z6 id) (wy id))->jV w g z6 a cs->jV w' g' wy a cs
 | .data t d,_,_,h=>⟨h.1,h.2.kept hr⟩
 | .qy,_,_,h=>h
 | .ref id p ep,_,hi,⟨v,hv,qL,h⟩=>by
  refine ⟨v,hv,qL,fun t l e ho=>?_⟩;rcases hi id (by simp [z7.ids]) with hk | ⟨t0,l0,l1,e0,e1,h0,h1,hk⟩ | ⟨a,a',h0,h1,_⟩ | ⟨Ur,Pe,m0,m1,h0,h1,Mp⟩ | ⟨t0,l0,l1,e0,e1,i0,i1,h0',MY,h0,h1,hk⟩
  ·rw [hk] at ho;simp at ho
  ·rw [h1] at ho;simp only [zI,Obj.row.injEq] at ho;obtain ⟨rfl,hl,rfl⟩:=ho;have:=h _ _ _ h0;rcases hk with hk | ⟨rfl,_,qT⟩
   ·exact ⟨by omega,fun he=>by omega⟩
   ·exact ⟨this.1,fun he=>by rw [qT];exact this.2 he⟩
  ·rw [h1] at ho;simp at ho
  ·rw [h1] at ho;simp at ho
  ·rw [h1] at ho;simp at ho
 | .view id p ep a b,_,hi,⟨v,hv,qL,h⟩=>by
  refine ⟨v,hv,qL,fun t l e ho=>?_⟩;rcases hi id (by simp [z7.ids]) with hk | ⟨t0,l0,l1,e0,e1,h0,h1,hk⟩ | ⟨a,a',h0,h1,_⟩ | ⟨Ur,Pe,m0,m1,h0,h1,Mp⟩ | ⟨t0,l0,l1,e0,e1,i0,i1,h0',MY,h0,h1,hk⟩
  ·rw [hk] at ho;simp at ho
  ·rw [h1] at ho;simp only [zI,Obj.row.injEq] at ho;obtain ⟨rfl,hl,rfl⟩:=ho;have:=h _ _ _ h0;rcases hk with hk | ⟨rfl,hlen,qT⟩
   ·exact ⟨by omega,fun he=>by omega⟩
   ·refine ⟨this.1,fun he=>?_⟩;obtain ⟨hp,ha,KY,hb,gR⟩:=this.2 he;refine ⟨hp,ha,KY,?_,by rw [qT];exact gR⟩;have:l=l1:=(Z35 hl).symm;rw [this,hlen];exact hb
  ·rw [h1] at ho;simp at ho
  ·rw [h1] at ho;simp at ho
  ·rw [h1] at ho;simp at ho
 | .zu id p,_,hi,⟨v,hv,qL,h⟩=>by
  refine ⟨v,hv,qL,fun a ho=>?_⟩;rcases hi id (by simp [z7.ids]) with hk | ⟨t0,l0,l1,e0,e1,h0,h1,hk⟩ | ⟨a0,a1,h0,h1,hs,hb⟩ | ⟨Ur,Pe,m0,m1,h0,h1,Mp⟩ | ⟨t0,l0,l1,e0,e1,i0,i1,h0',MY,h0,h1,hk⟩
  ·rw [hk] at ho;simp at ho
  ·rw [h1] at ho;simp at ho
  ·rw [h1] at ho;simp only [zI,Obj.cell.injEq] at ho;subst ho;rw [hs,hb];exact h _ h0
  ·rw [h1] at ho;simp at ho
  ·rw [h1] at ho;simp at ho
 | .vW id p ep,_,hi,⟨v,hv,qL,h⟩=>by
  refine ⟨v,hv,qL,fun t l e ho=>?_⟩;rcases hi id (by simp [z7.ids]) with hk | ⟨t0,l0,l1,e0,e1,h0,h1,hk⟩ | ⟨a,a',h0,h1,_⟩ | ⟨Ur,Pe,m0,m1,h0,h1,Mp⟩ | ⟨t0,l0,l1,e0,e1,i0,i1,h0',MY,h0,h1,hk⟩
  ·rw [hk] at ho;simp at ho
  ·rw [h1] at ho;simp only [zI,Obj.row.injEq] at ho;obtain ⟨rfl,hl,rfl⟩:=ho;have:=h _ _ _ h0;rcases hk with hk | ⟨rfl,hlen,qT⟩
   ·exact ⟨by omega,fun he=>by omega⟩
   ·exact ⟨this.1,fun he=>by rw [jS qT];exact this.2 he⟩
  ·rw [h1] at ho;simp at ho
  ·rw [h1] at ho;simp at ho
  ·rw [h1] at ho;simp at ho
 | .qA id,_,hi,⟨v,hv,qL,h⟩=>by
  refine ⟨v,hv,qL,fun kt vt m ho=>?_⟩;rcases hi id (by simp [z7.ids]) with hk | ⟨t0,l0,l1,e0,e1,h0,h1,hk⟩ | ⟨a,a',h0,h1,_⟩ | ⟨Ur,Pe,m0,m1,h0,h1,Mp⟩ | ⟨t0,l0,l1,e0,e1,i0,i1,h0',MY,h0,h1,hk⟩
  ·rw [hk] at ho;simp at ho
  ·rw [h1] at ho;simp at ho
  ·rw [h1] at ho;simp at ho
  ·rw [h1] at ho;simp only [zI,Obj.map.injEq] at ho;obtain ⟨rfl,rfl,_⟩:=ho;rw [Mp];exact h _ _ _ h0
  ·rw [h1] at ho;simp at ho
 | .nv pt id p ep,_,hi,⟨v,hv,qL,h⟩=>by
  refine ⟨v,hv,qL,fun t l e i h' ho=>?_⟩;rcases hi id (by simp [z7.ids]) with hk | ⟨t0,l0,l1,e0,e1,h0,h1,hk⟩ | ⟨a,a',h0,h1,_⟩ | ⟨Ur,Pe,m0,m1,h0,h1,Mp⟩ | ⟨t0,l0,l1,e0,e1,i0,i1,h0',MY,h0,h1,he,hi,hse,hsi⟩
  ·rw [hk] at ho;simp at ho
  ·rw [h1] at ho;simp at ho
  ·rw [h1] at ho;simp at ho
  ·rw [h1] at ho;simp at ho
  ·rw [h1] at ho;simp only [zI,Obj.nest.injEq] at ho;obtain ⟨rfl,_,rfl,rfl,_⟩:=ho;obtain ⟨hle,hx⟩:=h _ _ _ _ _ h0;have zku:F8 pt p e0 i0<=F8 pt p e1 i1:=by
    unfold F8;split
    ·exact he
    ·exact hi
   refine ⟨Z1e hle zku,fun heq=>?_⟩;have z71:F8 pt p e0 i0=ep:=by omega
   obtain ⟨hx1,hx2⟩:=hx z71;refine ⟨fun hp=>?_,fun hp=>?_⟩
   ·subst hp;rw [hx1 rfl]
    cases p with
    | nil=>
     simp only [F8] at heq z71
     exact (hse (by omega)).symm
    | cons s q=>
     simp only [F8] at heq z71;exact (hsi (by omega) _).symm
   ·subst hp;have Ha:i0=i1:=by
     simp only [F8] at heq z71;omega
    rw [jS (hsi Ha)]
    exact hx2 rfl
 | .yG f c,_,hi,⟨vs,hv,h⟩=>⟨vs,hv,jV.frame hr (a:=c) (fun id h=>hi id h) h⟩
 | .JJ t c,_,hi,⟨x,Bf,hv,h,hx⟩=>⟨x,Bf,hv,jV.frame hr (a:=c) (fun id h=>hi id h) h,hx⟩
 | .agg c,_,hi,h=>jV.frame hr (a:=c) (fun id h=>hi id h) h
 | .jC _,_,_,h=>h.elim
 | .pr a b,_,hi,⟨c1,c2,hc,h1,h2⟩=>
  ⟨c1,c2,hc,jV.frame hr (fun id h=>hi id (by simp [z7.ids,h])) h1,jV.frame hr (fun id h=>hi id (by simp [z7.ids,h])) h2⟩
 | .un,_,_,h=>h
theorem yA {w:World} {g:z8} {z6:qk} {a:z7} {v:Value} {cs:List Value} (h:jV w g z6 a cs) (hv:v=jA a.isAgg cs)
  (h1:∀ x y,a≠.pr x y) (h2:a≠.un):zl w g z6 a v:=by
 cases a with
 | jC c=>exact h.elim
 | pr x y=>exact absurd rfl (h1 x y)
 | un=>exact absurd rfl h2
 | _=>exact ⟨cs,h,hv⟩
theorem wc {w:World} {g:z8} {z6:qk} {a:z7} {v:Value} (h:zl w g z6 a v) (ht:∀ c,a≠.jC c) :
  ∃ cs,jV w g z6 a cs/\v=jA a.isAgg cs:=by
 cases a with
 | jC c=>exact absurd rfl (ht c)
 | pr x y=>exact h.elim
 | un=>exact h.elim
 | _=>exact h
mutual
theorem zl.frame {w w':World} {g g':z8} {z6 wy:qk} (hr:zO w g w' g'):{a:z7}->{v:Value}->
  (∀ id,id∈a.ids->qz g g' id (z6 id) (wy id))->zl w g z6 a v->zl w' g' wy a v
 | .jC c,_,hi,h=>by
  simp only [zl] at h ⊢;obtain ⟨vs,hv,h⟩:=h
  exact ⟨vs,hv,qj.frame hr (a:=c) (fun id h=>hi id (by simpa [z7.ids] using h)) h⟩
 | .pr _ _,_,_,h=>by simp only [zl] at h
 | .un,_,_,h=>by simp only [zl] at h
 | .data t d,_,hi,h=>by simp only [zl] at h ⊢;obtain ⟨cs,h,hv⟩:=h;exact ⟨cs,jV.frame hr hi h,hv⟩
 | .qy,_,hi,h=>by simp only [zl] at h ⊢;obtain ⟨cs,h,hv⟩:=h;exact ⟨cs,jV.frame hr hi h,hv⟩
 | .ref _ _ _,_,hi,h=>by simp only [zl] at h ⊢;obtain ⟨cs,h,hv⟩:=h;exact ⟨cs,jV.frame hr hi h,hv⟩
 | .view _ _ _ _ _,_,hi,h=>by simp only [zl] at h ⊢;obtain ⟨cs,h,hv⟩:=h;exact ⟨cs,jV.frame hr hi h,hv⟩
 | .zu _ _,_,hi,h=>by simp only [zl] at h ⊢;obtain ⟨cs,h,hv⟩:=h;exact ⟨cs,jV.frame hr hi h,hv⟩
 | .vW _ _ _,_,hi,h=>by simp only [zl] at h ⊢;obtain ⟨cs,h,hv⟩:=h;exact ⟨cs,jV.frame hr hi h,hv⟩
 | .qA _,_,hi,h=>by simp only [zl] at h ⊢;obtain ⟨cs,h,hv⟩:=h;exact ⟨cs,jV.frame hr hi h,hv⟩
 | .nv _ _ _ _,_,hi,h=>by simp only [zl] at h ⊢;obtain ⟨cs,h,hv⟩:=h;exact ⟨cs,jV.frame hr hi h,hv⟩
 | .yG _ _,_,hi,h=>by simp only [zl] at h ⊢;obtain ⟨cs,h,hv⟩:=h;exact ⟨cs,jV.frame hr hi h,hv⟩
 | .JJ _ _,_,hi,h=>by simp only [zl] at h ⊢;obtain ⟨cs,h,hv⟩:=h;exact ⟨cs,jV.frame hr hi h,hv⟩
 | .agg _,_,hi,h=>by simp only [zl] at h ⊢;obtain ⟨cs,h,hv⟩:=h;exact ⟨cs,jV.frame hr hi h,hv⟩
theorem qj.frame {w w':World} {g g':z8} {z6 wy:qk} (hr:zO w g w' g'):{a:z7}->{vs:List Value}->
  (∀ id,id∈a.ids->qz g g' id (z6 id) (wy id))->qj w g z6 a vs->qj w' g' wy a vs
 | .pr a b,_,hi,h=>by
  simp only [qj] at h ⊢;obtain ⟨v,r,hv,h1,h2⟩:=h
  exact ⟨v,r,hv,zl.frame hr (fun id h=>hi id (by simp [z7.ids,h])) h1,qj.frame hr (fun id h=>hi id (by simp [z7.ids,h])) h2⟩
 | .un,_,_,h=>by simp only [qj] at h ⊢;exact h
 | .jC _,_,_,h=>by simp only [qj] at h
 | .data _ _,_,_,h=>by simp only [qj] at h
 | .qy,_,_,h=>by simp only [qj] at h
 | .ref _ _ _,_,_,h=>by simp only [qj] at h
 | .view _ _ _ _ _,_,_,h=>by simp only [qj] at h
 | .zu _ _,_,_,h=>by simp only [qj] at h
 | .vW _ _ _,_,_,h=>by simp only [qj] at h
 | .qA _,_,_,h=>by simp only [qj] at h
 | .nv _ _ _ _,_,_,h=>by simp only [qj] at h
 | .yG _ _,_,_,h=>by simp only [qj] at h
 | .JJ _ _,_,_,h=>by simp only [qj] at h
 | .agg _,_,_,h=>by simp only [qj] at h
end
structure Zj (w:World) (g:z8) (w':World) (g':z8) (id:Nat):Prop where
 row:xZ w g w' g' id [] id []
 zt:g'.zt id=g.zt id
 box:g.tag (g.zt id) = .box id->g'.tag (g.zt id) = .box id/\w'.heap[g.zt id]? = w.heap[g.zt id]?
theorem zm.frame {w w':World} {g g':z8} {z6 wy:qk} (hr:zO w g w' g') {id:Nat} {o:Obj} (hs:Zj w g w' g' id)
  (hi:∀ a,o = .cell a->∀ id,id∈a.ids->qz g g' id (z6 id) (wy id)) (h:zm w g z6 id o):zm w' g' wy id o:=by
 cases o with
 | row t l e=>
  refine ⟨h.1,?_⟩;have:=hs.row.sv [];simp only [AL] at this;rw [this]
  exact zC.move hr (o:=some (id,[])) (o':=some (id,[])) hs.row h.2
 | cell a=>
  cases Qe:a.wk with
  | true=>
   cases gA:a.wg with
   | true=>
    obtain ⟨x,rfl⟩:=X4 gA;obtain ⟨c,e,hc,ht,zR⟩:=(zm.Jq gA).1 h;obtain ⟨h1,h2⟩:=hr.zt _ ht
    exact (zm.Jq gA).2 ⟨c,e,by rw [hs.zt,h2];exact hc,by rw [hs.zt];exact h1,jV.frame hr (fun i vf=>hi _ rfl i vf) zR⟩
   | false=>
   refine (zm.iter Qe gA).2 ?_;obtain ⟨Kx,n,bm,seen,last,ha,hc,ht,hn,hb⟩:=(zm.iter Qe gA).1 h;obtain ⟨h1,h2⟩:=hs.box ht;refine ⟨Kx,n,bm,seen,last,ha,by rw [hs.zt,h2];exact hc,by rw [hs.zt];exact h1,hn,fun kt vt m ho=>?_⟩;rcases hi a rfl Kx (by rw [ha];simp [pF,z7.ids]) with hk | ⟨_,_,_,_,_,_,hk,_⟩ | ⟨_,_,_,hk,_⟩ | ⟨Ur,Pe,m0,m1,h0,h1,Mp⟩ | ⟨_,_,_,_,_,_,_,_,_,_,hk,_⟩
   ·rw [hk] at ho;simp at ho
   ·rw [hk] at ho;simp at ho
   ·rw [hk] at ho;simp at ho
   ·rw [Mp];exact hb _ _ _ h0
   ·rw [hk] at ho;simp at ho
  | false=>
   obtain ⟨c,e,hc,ht,zR⟩:=h.out Qe;obtain ⟨h1,h2⟩:=hs.box ht;refine zm.mk ⟨c,e,?_,?_,jV.frame hr (hi a rfl) zR⟩
   ·rw [hs.zt,h2];exact hc
   ·rw [hs.zt];exact h1
 | map kt vt m=>
  obtain ⟨es,ck,hc,ht,h1,h2,hm,h3⟩:=h;obtain ⟨k1,k2⟩:=hs.box ht
  exact ⟨es,ck,by rw [hs.zt,k2];exact hc,by rw [hs.zt];exact k1,h1,h2,hm.kept hr,h3⟩
 | nest t l e i hole=>
  have qT:∀ q,g'.sv id q=g.sv id q:=fun q=>by have:=hs.row.sv q;simpa using this
  have hblk:∀ q b,g.tag b = .row id q->g'.tag b = .row id q/\w'.heap[b]? = w.heap[b]? := fun q b hb=>by have:=hs.row.zt q b (by simpa using hb);simpa using this
  cases hole with
  | none=>
   have h':zC w g (some (id,[])) (.sl true t) l [g.sv id []]:=h;show zC w' g' (some (id,[])) (.sl true t) l [g'.sv id []];rw [qT]
   exact zC.move hr (o:=some (id,[])) (o':=some (id,[])) hs.row h'
  | some p=>
   obtain ⟨⟨bk,o0,zg3,ze9⟩,v,b0,off,c,ee,pre,vZ,gy,zH,uI,zQ,ju,hw⟩:=h;obtain ⟨k1,k2⟩:=hblk _ _ zH;refine ⟨⟨bk,o0,zg3,by rw [qT];exact ze9⟩,v,b0,off,c,ee,pre,vZ,by rw [jS qT];exact gy,k1,uI,by rw [k2];exact zQ,ju,fun w2 g2 l1 x hn Pg zX R f r w8=>?_⟩;refine hw w2 g2 l1 x ⟨⟨fun b hb=>?_⟩,fun q hq=>(hn.sv q hq).trans (qT q),fun q b hb hq=>?_⟩ Pg zX f r w8
   ·obtain ⟨j1,j2⟩:=hr.zt b hb;obtain ⟨m1,m2⟩:=hn.ro.zt b j1;exact ⟨m1,m2.trans j2⟩
   ·obtain ⟨j1,j2⟩:=hblk q b hb;obtain ⟨m1,m2⟩:=hn.zt q b j1 hq;exact ⟨m1,fun vI=>(m2 vI).trans j2⟩
theorem qz.refl (g:z8) (id:Nat) (o:Option Obj):qz g g id o o:=by
 cases o with
 | none=>exact .inl rfl
 | some o=>cases o with
  | row t l e=>exact .inr (.inl ⟨t,l,l,e,e,rfl,rfl,.inr ⟨rfl,rfl,fun _=>rfl⟩⟩)
  | cell a=>exact .inr (.inr (.inl ⟨a,a,rfl,rfl,rfl,rfl⟩))
  | map k v m=>exact .inr (.inr (.inr (.inl ⟨k,v,m,m,rfl,rfl,rfl⟩)))
  | nest t l e i h=>exact .inr (.inr (.inr (.inr ⟨t,l,l,e,e,i,i,h,h,rfl,rfl,yS _,yS _,fun _=>rfl,fun _ _=>rfl⟩)))
theorem qz.same {w w':World} {g g':z8} {id:Nat} {o:Option Obj} (hs:Zj w g w' g' id):qz g g' id o o:=by
 cases o with
 | none=>exact .inl rfl
 | some o=>cases o with
  | row t l e=>exact .inr (.inl ⟨t,l,l,e,e,rfl,rfl,.inr ⟨rfl,rfl,fun p=>by have:=hs.row.sv p;simpa using this⟩⟩)
  | cell a=>exact .inr (.inr (.inl ⟨a,a,rfl,rfl,rfl,hs.zt⟩))
  | map k v m=>exact .inr (.inr (.inr (.inl ⟨k,v,m,m,rfl,rfl,hs.zt⟩)))
  | nest t l e i h=>exact .inr (.inr (.inr (.inr ⟨t,l,l,e,e,i,i,h,h,rfl,rfl,yS _,yS _,fun _=>by have:=hs.row.sv [];simpa using this,fun _ p=>by have:=hs.row.sv p;simpa using this⟩)))
theorem YP {a:Act} {d:Option Nat} {v:Value} {i:Nat}:(a.put d v).tmps[i]? = if d=some i/\i < a.tmps.size then some v else a.tmps[i]? := by
 cases d with
 | none=>simp [Act.put]
 | some j=>
  simp only [Act.put,zI];rw [Z5r];by_cases h:j=i
  ·subst h;by_cases h2:j < a.tmps.size
   ·simp [h2]
   ·simp [h2]
  ·simp [h]
theorem Ee {a:Act} {d:Option Nat} {v:Value}:(a.put d v).tmps.size=a.tmps.size:=by cases d <;> simp [Act.put]
theorem put_defers {a:Act} {d:Option Nat} {v:Value}:(a.put d v).defers=a.defers:=by cases d <;> simp [Act.put]
theorem z19 {a:Act} {t:Nat} {v:Value} (h:a.tmps[t]? = some v):a.eval (.tmp t)=v:=by
 simp [Act.eval,Z2m,h]
end Go.Kz
namespace Go.Kz
variable {R:Type}
def jT (w w':World):Prop:=∀ b,b < w.heap.size->w'.heap[b]? = w.heap[b]?
theorem jT.refl (w:World):jT w w:=fun _ _=>rfl
def LP (o:Oper) (w w':World):Prop:=isP o=false->jT w w'
theorem LP.refl (o:Oper) (w:World):LP o w w:=fun _=>jT.refl w
def jt (n:Nat) (k:St->Option R) (r:R) (g:z8) (w:World) (J:St) (base:Nat) (mo:Bool) (K:Act->World->Prop):Prop:=
 ∀ J' g' a' w',k J'=some r->zK n g' w' a' J'->Ext w g w' g'->(∀ m,(m < base\/base+8<=m)->zY g J m->zY g' J' m)->J'.next=J.next->(mo=false->jT w w')->K a' w'
theorem zK.put {n:Nat} {g:z8} {w:World} {a:Act} {J:St} (h:zK n g w a J) {d:Nat} (hd:d < n) {av:z7} {v:Value} (hv:zl w g J.z6 av v) :
  zK n g w (a.put (some d) v) (J.set d av):=by
 refine ⟨fun i x hx=>?_,h.heap,by rw [Ee];exact h.size,by rw [put_defers];exact h.defers,h.known⟩;simp only [St.set,KK] at hx;rw [YP];by_cases hi:i=d
 ·subst hi;have:Nat.beq i i=true:=Lu i;rw [this] at hx;simp only [zD,zI] at hx;subst hx;exact ⟨v,by rw [yW ⟨rfl,by rw [h.size];exact hd⟩],hv⟩
 ·have:Nat.beq i d=false:=by
   cases hb:Nat.beq i d with
   | true=>exact absurd (zE hb) hi
   | false=>rfl
  rw [this] at hx;simp only [zW] at hx;obtain ⟨u,hu,zR⟩:=h.zj i x hx;exact ⟨u,by rw [qQ (by intro hh;simp at hh;exact hi hh.1.symm)];exact hu,zR⟩
theorem zK.zd2 {n:Nat} {g:z8} {w:World} {a:Act} {J:St} (h:zK n g w a J) (d:Option Nat) (v:Value):zK n g w (a.put d v) (J.wh d):=by
 cases d with
 | none=>exact h
 | some d=>
  refine ⟨fun i x hx=>?_,h.heap,by rw [Ee];exact h.size,by rw [put_defers];exact h.defers,h.known⟩;simp only [St.wh,KK] at hx;rw [YP]
  cases hb:Nat.beq i d with
  | true=>rw [hb] at hx;simp at hx
  | false=>
   rw [hb] at hx;simp only [zW] at hx;obtain ⟨u,hu,zR⟩:=h.zj i x hx;refine ⟨u,?_,zR⟩;rw [qQ (by intro hh;simp at hh;rw [hh.1] at hb;rw [Lu] at hb;simp at hb)];exact hu
theorem zY.set {g:z8} {J:St} {m:Nat} (h:zY g J m) (d:Nat) {av:z7} (hv:m∉av.ids):zY g (J.set d av) m:=by
 refine ⟨h.z6,h.row,h.box,fun i x hx=>?_,h.cells⟩;simp only [St.set,KK] at hx
 cases hb:Nat.beq i d with
 | true=>rw [hb] at hx;simp at hx;subst hx;exact hv
 | false=>rw [hb] at hx;exact h.zj i x hx
theorem zY.wh {g:z8} {J:St} {m:Nat} (h:zY g J m) (d:Option Nat):zY g (J.wh d) m:=by
 cases d with
 | none=>exact h
 | some d=>
  refine ⟨h.z6,h.row,h.box,fun i x hx=>?_,h.cells⟩;simp only [St.wh,KK] at hx
  cases hb:Nat.beq i d with
  | true=>rw [hb] at hx;simp at hx
  | false=>rw [hb] at hx;exact h.zj i x hx
theorem gM {c:Ctx} {J:St} {d:Option Nat} {av:z7} {k:St->Option R} {r:R} (h:J.qe c d av k=some r) :
  (d=none/\k J=some r)\/∃ i,d=some i/\i < c.ntmps/\k (J.set i av)=some r:=by
 cases d with
 | none=>exact .inl ⟨rfl,h⟩
 | some i=>
  simp only [St.qe] at h
  cases hb:Nat.blt i c.ntmps with
  | false=>rw [hb] at h;simp at h
  | true=>
   rw [hb] at h;refine .inr ⟨i,rfl,?_,h⟩;have:=zL hb;omega
structure vN (P:Program) (o:Oper) (a:Act) (w:World) (g:z8) (J:St) (c:Ctx) (k:St->Option R) (r:R):Prop where
 out:∃ av v,(∀ w',LP o w w'->(execOp a.eval o).run P w' = .ok (.value v) w')/\zl w g J.z6 av v/\(∀ m,zY g J m->m∉av.ids)/\J.qe c o.dst av k=some r
theorem Zi {P:Program} {o:Oper} {a:Act} {w:World} {c:Ctx} {J:St} {g:z8} {k:St->Option R} {r:R} {av:z7} {v:Value}
  (zb:∀ w',LP o w w'->(execOp a.eval o).run P w' = .ok (.value v) w') (hv:zl w g J.z6 av v) (gz:∀ m,zY g J m->m∉av.ids) (h:J.qe c o.dst av k=some r):vN P o a w g J c k r:=
 ⟨av,v,zb,hv,gz,h⟩
theorem wp_pure {P:Program} {o:Oper} {a:Act} {w:World} {K:Act->World->Prop} {Q:Exit->Act->World->Prop} {c:Ctx} {J:St} {g:z8} {k:St->Option R} {r:R} {base:Nat} {mo:Bool}
  {av:z7} {v:Value} (zq:zK c.ntmps g w a J) (zb:(execOp a.eval o).run P w = .ok (.value v) w)
  (hv:zl w g J.z6 av v) (gz:∀ m,zY g J m->m∉av.ids) (h:J.qe c o.dst av k=some r) (hK:jt c.ntmps k r g w J base mo K):o.wp P a w K Q:=by
 unfold Oper.wp;rw [zb,Oper.upon_value];rcases gM h with ⟨hd,hk⟩ | ⟨i,hd,hi,hk⟩
 ·rw [hd];exact hK J g a w hk zq (Ext.refl _ _) (fun m _ hm=>hm) rfl (fun _=>jT.refl w)
 ·rw [hd];exact hK _ g _ w hk (zq.put hi hv) (Ext.refl _ _) (fun m _ hm=>hm.set i (gz m hm)) rfl (fun _=>jT.refl w)
theorem vN.wp {P:Program} {o:Oper} {a:Act} {w:World} {K:Act->World->Prop} {Q:Exit->Act->World->Prop} {c:Ctx} {J:St} {g:z8} {k:St->Option R} {r:R} {base:Nat} {mo:Bool}
  (hy:vN P o a w g J c k r) (zq:zK c.ntmps g w a J) (hK:jt c.ntmps k r g w J base mo K):o.wp P a w K Q:=by
 obtain ⟨av,v,h1,h2,h3,h4⟩:=hy.out;exact wp_pure zq (h1 w (LP.refl o w)) h2 h3 h4 hK
theorem jF {w:World} {g:z8} {z6:qk} {k:IntKind} {n:Int} {v:Value} (h:zl w g z6 (.data (.int k) n) v):v = .int k n/\k.min<=n/\n<=k.max:=by
 simp only [zl] at h;obtain ⟨cs,⟨_,hc,h1,h2⟩,hv⟩:=h;subst hc;exact ⟨hv,h1,h2⟩
theorem jl {w:World} {g:z8} {z6:qk} {k:IntKind} {n:Int} (h:k.min<=n/\n<=k.max):zl w g z6 (.data (.int k) n) (.int k n):=by
 simp only [zl];exact ⟨[.int k n],⟨rfl,rfl,h⟩,rfl⟩
theorem ua {w:World} {g:z8} {z6:qk} {b:Bool} {v:Value} (h:zl w g z6 (.data .bool b) v):v = .bool b:=by
 simp only [zl] at h;obtain ⟨cs,⟨_,hc⟩,hv⟩:=h;cases hc;exact hv
theorem wL {w:World} {g:z8} {z6:qk} (b:Bool):zl w g z6 (.data .bool b) (.bool b):=by
 simp only [zl];exact ⟨[.bool b],⟨rfl,rfl⟩,rfl⟩
theorem Kw {w:World} {g:z8} {z6:qk} {l:List UInt8} {v:Value} (h:zl w g z6 (.data .str l) v):∃ s:ByteArray,v = .string s/\s.data.toList=l/\s.size<=maxLen:=by
 simp only [zl] at h;obtain ⟨cs,⟨_,s,rfl,h1,h2⟩,hv⟩:=h;exact ⟨s,hv,h1,h2⟩
theorem VM {w:World} {g:z8} {z6:qk} {l:List UInt8} {s:ByteArray} (h1:s.data.toList=l) (h2:s.size<=maxLen):zl w g z6 (.data .str l) (.string s):=by
 simp only [zl];exact ⟨[.string s],⟨rfl,s,rfl,h1,h2⟩,rfl⟩
theorem Ze {w:World} {g:z8} {z6:qk} {v:Value}:zl w g z6 .qy v↔v = .slice none 0 0:=by
 simp only [zl];exact ⟨fun ⟨cs,h,hv⟩=>by cases h;exact hv,fun h=>⟨_,rfl,h⟩⟩
theorem vB (k:IntKind) (n:Int):k.min<=k.wrap n/\k.wrap n<=k.max:=by
 cases k <;> simp only [IntKind.wrap,IntKind.min,IntKind.max,IntKind.bits,IntKind.signed] <;> simp <;> (try split) <;> omega
theorem qG {n:Nat} {g:z8} {w:World} {a:Act} {J:St} (zq:zK n g w a J) {x:Operand} {av:z7} (h:ev J x=some av) :
  zl w g J.z6 av (a.eval x)/\∀ m,zY g J m->m∉av.ids:=by
 cases x with
 | tmp t=>
  obtain ⟨v,hv,zR⟩:=zq.zj t av h;rw [z19 hv]
  exact ⟨zR,fun m hm=>hm.zj t av h⟩
 | const v=>
  cases v with
  | int k i=>
   simp only [ev] at h
   cases hb:(decide (k.min<=i) && decide (i<=k.max)) with
   | false=>rw [hb] at h;simp at h
   | true=>
    rw [hb] at h;simp only [zD,zI] at h;subst h;simp at hb
    exact ⟨jl hb,fun m _=>by simp [z7.ids]⟩
  | bool b=>
   simp only [ev,zI] at h;subst h
   exact ⟨wL b,fun m _=>by simp [z7.ids]⟩
  | string s=>
   simp only [ev] at h
   cases hb:Nat.ble s.size 100000 with
   | false=>rw [hb] at h;simp at h
   | true=>
    rw [hb] at h;simp only [zD,zI] at h;subst h;refine ⟨?_,fun m _=>by simp [z7.ids]⟩;have:=zL hb;simp only [zl]
    exact ⟨[.string s],⟨rfl,s,rfl,rfl,by unfold maxLen;omega⟩,rfl⟩
  | slice b l cp=>
   cases b with
   | some _=>simp [ev] at h
   | none=>
    cases l with
    | succ _=>simp [ev] at h
    | zero=>
     cases cp with
     | succ _=>simp [ev] at h
     | zero=>
      simp only [ev,zI] at h;subst h
      exact ⟨Ze.2 rfl,fun m _=>by simp [z7.ids]⟩
  | _=>simp [ev] at h
 | global b=>
  simp only [ev] at h;split at h
  ·rename_i e he;simp only [zI] at h;subst h;obtain ⟨h1,h2,_⟩:=zq.known b e he;refine ⟨?_,fun m _=>by simp [z7.ids]⟩;simp only [zl];exact ⟨[.pointer (some ⟨b,0,none⟩)],⟨h1,h2⟩,rfl⟩
  ·simp at h
 | func f=>
  simp only [ev,zI] at h;subst h;refine ⟨?_,fun m _=>by simp [z7.ids]⟩;simp only [zl];exact ⟨[.func (.func f) #[] #[]],⟨[],rfl,rfl⟩,rfl⟩
theorem VU {n:Nat} {g:z8} {w:World} {a:Act} {J:St} (zq:zK n g w a J):{l:List Operand}->{av:z7}->RZ J l=some av->
  qj w g J.z6 av (l.map a.eval)/\∀ m,zY g J m->m∉av.ids
 | [],av,h=>by
  simp only [RZ,zI] at h;subst h
  exact ⟨by simp [qj],fun m _=>by simp [z7.ids]⟩
 | x :: l,av,h=>by
  simp only [RZ] at h;split at h
  ·rename_i a1 c1 h1 h2;simp only [zI] at h;subst h;have e1:=qG zq h1;have e2:=VU zq h2;refine ⟨?_,fun m hm=>?_⟩
   ·simp only [qj,JU];exact ⟨_,_,rfl,e1.1,e2.1⟩
   ·simp only [z7.ids,Gt,not_or];exact ⟨e1.2 m hm,e2.2 m hm⟩
  ·simp at h
end Go.Kz
namespace Go.Kz
variable {R:Type}
section
variable {P:Program} {o:Oper} {a:Act} {w:World} {K:Act->World->Prop} {Q:Exit->Act->World->Prop} {c:Ctx} {J:St} {g:z8} {k:St->Option R} {r:R} {base:Nat}
theorem Lh {x:Operand} (ho:o.op = .move x\/o.op = .assign x) (zq:zK c.ntmps g w a J) (h:y9 c J base o k=some r):vN P o a w g J c k r:=by
 rcases ho with ho | ho <;> simp only [y9,ho] at h <;> split at h
 ·rename_i av Gr;obtain ⟨hv,hf⟩:=qG zq Gr;exact Zi (v:=a.eval x) (fun _ _=>by simp [execOp,ho]) hv hf h
 ·simp at h
 ·rename_i av Gr;obtain ⟨hv,hf⟩:=qG zq Gr;exact Zi (v:=a.eval x) (fun _ _=>by simp [execOp,ho]) hv hf h
 ·simp at h
theorem z5q {t x y:Operand} (ho:o.op = .pick t x y) (zq:zK c.ntmps g w a J) (h:y9 c J base o k=some r):vN P o a w g J c k r:=by
 simp only [y9,ho] at h;split at h
 ·rename_i b hb;have ht:=ua (qG zq hb).1
  cases b with
  | true=>
   simp only [zD] at h;split at h
   ·rename_i av Gr;obtain ⟨hv,hf⟩:=qG zq Gr;exact Zi (v:=a.eval x) (fun _ _=>by simp [execOp,ho,ht,asBool]) hv hf h
   ·simp at h
  | false=>
   simp only [zW] at h;split at h
   ·rename_i av Gr;obtain ⟨hv,hf⟩:=qG zq Gr;exact Zi (v:=a.eval y) (fun _ _=>by simp [execOp,ho,ht,asBool]) hv hf h
   ·simp at h
 ·simp at h
structure Plain (f:z7->Option R) (r:R) (s:Sem Value) (P:Program):Prop where
 out:∃ av v,f av=some r/\(∀ w,s.run P w = .ok v w)/\av.ids=[]/\∀ w g z6,zl w g z6 av v
theorem Plain.int {f:z7->Option R} {s:Sem Value} {k:IntKind} {n:Int} (h:f (.data (.int k) n)=some r) (hs:∀ w,s.run P w = .ok (.int k n) w) (hn:k.min<=n/\n<=k.max):Plain f r s P:=
 ⟨_,_,h,hs,rfl,fun _ _ _=>jl hn⟩
theorem Plain.bool {f:z7->Option R} {s:Sem Value} {b:Bool} (h:f (.data .bool b)=some r) (hs:∀ w,s.run P w = .ok (.bool b) w):Plain f r s P:=
 ⟨_,_,h,hs,rfl,fun _ _ _=>wL b⟩
theorem bytes_beq (a b:ByteArray):(a.toList == b.toList)=decide (a.data.toList=b.data.toList):=by
 rw [ByteArray.toList_eq,ByteArray.toList_eq];by_cases h:a.data.toList=b.data.toList
 ·simp [h]
 ·rw [qW h,beq_eq_false_iff_ne];exact h
theorem Ot {op:BinOp} {x y:ByteArray} {f:z7->Option R} (T:TypeId) (h:L6 op x.data.toList y.data.toList f=some r):Plain f r (binOp op T (.string x) (.string y)) P:=by
 cases op <;> simp only [L6] at h
 case add=>
  obtain ⟨hc,h⟩:decide (x.data.toList.length+y.data.toList.length<=room)=true/\f (.data .str (x.data.toList++y.data.toList))=some r:=by
   cases hb:decide (x.data.toList.length+y.data.toList.length<=room) with
   | true=>rw [hb] at h;exact ⟨rfl,h⟩
   | false=>rw [hb] at h;simp [qR] at h
  replace hc:=AM hc;simp only [room,vX] at hc;have hx:x.size=x.data.size:=rfl;have hy:y.size=y.data.size:=rfl;refine ⟨_,.string (x++y),h,fun w=>?_,rfl,fun _ _ _=>VM (by simp) ?_⟩
  ·have:¬ ((x.size+y.size:Nat):Int) > IntKind.i64.max:=by
    simp only [IntKind.max,IntKind.bits,IntKind.signed];simp;omega
   simp only [binOp,Op.stringOp,this,Lp,Sem.run_pure]
  ·rw [ByteArray.size_append];simp only [maxLen];omega
 case eql=>exact .bool h (fun _=>by simp only [binOp,Op.stringOp,bytes_beq,Sem.run_pure])
 case neq=>exact .bool h (fun _=>by simp only [binOp,Op.stringOp,bytes_beq,Sem.run_pure])
 all_goals simp at h
theorem R0 {op:BinOp} {kd:IntKind} {x y:Int} {f:z7->Option R} (hx:kd.min<=x/\x<=kd.max) (T:TypeId) (AW:Pj op=false)
  (h:L7 op kd x y f=some r):Plain f r (binOp op T (.int kd x) (.int kd y)) P:=by
 cases op <;> simp only [L7] at h <;> simp only [Pj] at AW
 case add=>exact .int h (fun _=>by simp [binOp,Op.intArith]) (vB _ _)
 case sub=>exact .int h (fun _=>by simp [binOp,Op.intArith]) (vB _ _)
 case mul=>exact .int h (fun _=>by simp [binOp,Op.intArith]) (vB _ _)
 case quo=>
  cases hb:(y == 0) with
  | true=>rw [hb] at h;simp at h
  | false=>
   rw [hb] at h;have hy:¬ y=0:=by simpa using hb
   exact .int h (fun _=>by simp [binOp,Op.intDiv,hy]) (vB _ _)
 case rem=>
  cases hb:(y == 0) with
  | true=>rw [hb] at h;simp at h
  | false=>
   rw [hb] at h;have hy:¬ y=0:=by simpa using hb
   refine .int h (fun _=>by simp [binOp,Op.intDiv,hy]) ?_;have h0:kd.min<=0/\0<=kd.max:=by cases kd <;> simp [IntKind.min,IntKind.max,IntKind.bits,IntKind.signed]
   have h3:(x.tmod y).natAbs<=x.natAbs:=by rw [Int.natAbs_tmod];exact Nat.mod_le _ _
   rcases Int.le_total 0 x with hp | hp
   ·have h1:=Z4b y hp;omega
   ·have h1:x.tmod y<=0:=by
     have:=Z4b y (a:=-x) (by omega);rw [Int.neg_tmod] at this;omega
    omega
 case and=>exact .int h (fun _=>by simp [binOp,Op.intBits]) (vB _ _)
 case or=>exact .int h (fun _=>by simp [binOp,Op.intBits]) (vB _ _)
 case xor=>exact .int h (fun _=>by simp [binOp,Op.intBits]) (vB _ _)
 case andNot=>exact .int h (fun _=>by simp [binOp,Op.intBits]) (vB _ _)
 case eql=>exact .bool h (fun _=>by simp [binOp,Op.intCmp])
 case neq=>exact .bool h (fun _=>by simp [binOp,Op.intCmp])
 case lss=>exact .bool h (fun _=>by simp [binOp,Op.intCmp])
 case leq=>exact .bool h (fun _=>by simp [binOp,Op.intCmp])
 case gtr=>exact .bool h (fun _=>by simp [binOp,Op.intCmp])
 case geq=>exact .bool h (fun _=>by simp [binOp,Op.intCmp])
 all_goals simp at AW h
theorem EN {op:BinOp} {kd j:IntKind} {x y:Int} {f:z7->Option R} (hx:kd.min<=x/\x<=kd.max) (T:TypeId)
  (h:U9 op kd x y f=some r):Plain f r (binOp op T (.int kd x) (.int j y)) P:=by
 cases op <;> simp only [U9] at h
 case shl=>
  cases hb:decide (y < 0) with
  | true=>rw [hb] at h;simp at h
  | false=>
   rw [hb] at h;have hy:¬ y < 0:=by simpa using hb
   exact .int h (fun _=>by simp [binOp,Op.shift,hy]) (vB _ _)
 case shr=>
  cases hb:decide (y < 0) with
  | true=>rw [hb] at h;simp at h
  | false=>
   rw [hb] at h;have hy:¬ y < 0:=by simpa using hb
   refine .int h (fun _=>by simp [binOp,Op.shift,hy]) ?_;have h0:kd.min<=0/\0<=kd.max:=by cases kd <;> simp [IntKind.min,IntKind.max,IntKind.bits,IntKind.signed]
   have h2:(1:Int)<=2 ^ (min y.toNat kd.bits):=by
    have:=Nat.one_le_two_pow (n:=min y.toNat kd.bits)
    exact_mod_cast this
   generalize hz:(2:Int) ^ (min y.toNat kd.bits)=z at h2;rw [Z4y _ (by omega)];rcases Int.le_total 0 x with hp | hp
   ·have h3:=Z36 hp (show 0<=z by omega);have h4:=Z37 z hp;omega
   ·have h3:x / z<=0:=Int.ediv_le_of_le_mul (by omega) (by omega);have h4:x<=x / z:=by
     have:=Int.le_ediv_of_mul_le (a:=x) (b:=x) (c:=z) (by omega) (by
      have:=Int.mul_le_mul_of_nonpos_left (a:=x) (b:=z) (c:=1) hp h2;rw [Int.mul_one] at this;exact this)
     exact this
    omega
 all_goals simp at h
end
end Go.Kz
namespace Go.Kz
variable {R:Type}
theorem Q4 {a b:Nat}:(Nat.beq a b=true)=(a=b):=propext ⟨zE,fun h=>h ▸ Lu a⟩
def zeroCells:Ty->List Value
 | .int k=>[.int k 0]
 | .bool=>[.bool false]
 | .str=>[.string ByteArray.empty]
 | .unit=>[]
 | .pair a b=>zeroCells a++zeroCells b
 | .arr n t=>(List.replicate n (zeroCells t)).flatten
 | .sl _ _=>[.slice none 0 0]
 | .ptr _=>[.pointer none]
 | .fn f _=>cond (Nat.beq f 999983) [.map none] [.nilFunc]
 | .tree k=>zic k
structure yF (P:Program) (T:TypeId) (t:Ty):Prop where
 info:∃ i z,P.info? T=some i/\i.size=t.size/\i.bytes<=32768/\i.zero=some z/\z.cells.toList=zeroCells t/\0 < i.size
mutual
def qq (P:Program):Ty->TypeId->Prop
 | .int k,T=>P.underlying T=some (.int k)/\yF P T (.int k)
 | .bool,T=>P.underlying T=some .bool/\yF P T .bool
 | .str,T=>P.underlying T=some .string/\yF P T .str
 | .unit,_=>False
 | .pair a b,T=>(∃ fs,P.underlying T=some (.struct fs)/\jm P (.pair a b) fs.toList 0)/\yF P T (.pair a b)
 | .arr n t,T=>(∃ E,P.underlying T=some (.array n E)/\qq P t E)/\yF P T (.arr n t)
 | .sl o t,T=>(∃ E,P.underlying T=some (.slice E)/\qq P t E)/\yF P T (.sl o t)
 | .ptr t,T=>(∃ E,P.underlying T=some (.pointer E))/\yF P T (.ptr t)
 | .fn f c,T=>((∃ a b d,P.underlying T=some (.func a b d))\/∃ a b,P.underlying T=some (.map a b))/\yF P T (.fn f c)
 | .tree k,T=>(T=z5k k/\recOn k=true/\∃ fs,P.underlying T=some (.struct fs))/\yF P T (.tree k)
def jm (P:Program):Ty->List Field->Nat->Prop
 | .pair a b,f :: fs,off=>f.offset=off/\qq P a f.type/\jm P b fs (off+a.size)
 | .unit,[],_=>True
 | _,_,_=>False
end
theorem qq.info {P:Program} {t:Ty} {T:TypeId} (h:qq P t T):yF P T t:=by
 cases t <;> simp only [qq] at h <;> first | exact h.2 | exact h.elim
def S6:Value->Value->Bool
 | .int j a,.int k b=>(match decEq j k with
   | isTrue _=>true
   | isFalse _=>false) && decide (a=b)
 | .bool a,.bool b=>a == b
 | .string a,.string b=>Nat.beq a.size 0 && Nat.beq b.size 0
 | .slice none a b,.slice none c d=>Nat.beq a c && Nat.beq b d
 | .pointer none,.pointer none=>true
 | .nilFunc,.nilFunc=>true
 | .map none,.map none=>true
 | _,_=>false
def KU:List Value->List Value->Bool
 | [],[]=>true
 | a :: l,b :: m=>S6 a b && KU l m
 | _,_=>false
theorem S5 {a b:Value} (h:S6 a b=true):a=b:=by
 unfold S6 at h;split at h
 ·rename_i j a k b;simp only [zA,jL] at h;obtain ⟨h1,rfl⟩:=h;split at h1
  ·rename_i h2 _;rw [h2]
  ·simp at h1
 ·simpa using h
 ·rename_i a b;simp only [zA,Q4] at h;have ha:a=ByteArray.empty:=by
   cases a with | mk a=>congr 1;exact Z4z h.1
  have hb:b=ByteArray.empty:=by
   cases b with | mk a=>congr 1;exact Z4z h.2
  rw [ha,hb]
 ·simp only [zA,Q4] at h;rw [h.1,h.2]
 ·rfl
 ·rfl
 ·rfl
 ·simp at h
theorem As:{a b:List Value}->KU a b=true->a=b
 | [],[],_=>rfl
 | a :: l,b :: m,h=>by
  simp only [KU,zA] at h
  rw [S5 h.1,As h.2]
 | [],_ :: _,h=>by simp [KU] at h
 | _ :: _,[],h=>by simp [KU] at h
def kR (P:Program) (T:TypeId) (t:Ty):Bool:=
 match P.info? T with
 | some i=>match i.zero with
  | some z=>Nat.beq i.size t.size && Nat.ble i.bytes 32768 && KU z.cells.toList (zeroCells t) && Nat.blt 0 i.size
  | none=>false
 | none=>false
theorem gY {P:Program} {T:TypeId} {t:Ty} (h:kR P T t=true):yF P T t:=by
 unfold kR at h;split at h
 ·rename_i i hi;split at h
  ·rename_i z hz;simp only [zA,Q4] at h;exact ⟨⟨i,z,hi,h.1.1.1,zL h.1.1.2,hz,As h.1.2,zL h.2⟩⟩
  ·simp at h
 ·simp at h
def Qp (P:Program):Ty->(TypeId->Bool)×(List Field->Nat->Bool)
 | .int k=>(fun T=>(match P.underlying T with
  | some (.int j)=>(match decEq j k with
   | isTrue _=>true
   | isFalse _=>false)
  | _=>false) && kR P T (.int k),fun _ _=>false)
 | .bool=>(fun T=>(match P.underlying T with
  | some .bool=>true
  | _=>false) && kR P T .bool,fun _ _=>false)
 | .str=>(fun T=>(match P.underlying T with
  | some .string=>true
  | _=>false) && kR P T .str,fun _ _=>false)
 | .unit=>(fun _=>false,fun fs _=>match fs with
  | []=>true
  | _=>false)
 | .pair a b=>
  let f:List Field->Nat->Bool:=fun fs off=>match fs with
   | f :: fs=>Nat.beq f.offset off && (Qp P a).1 f.type && (Qp P b).2 fs (off+a.size)
   | []=>false
  (fun T=>(match P.underlying T with
   | some (.struct fs)=>f fs.toList 0
   | _=>false) && kR P T (.pair a b),f)
 | .arr n t=>(fun T=>(match P.underlying T with
  | some (.array m E)=>Nat.beq m n && (Qp P t).1 E
  | _=>false) && kR P T (.arr n t),fun _ _=>false)
 | .sl o t=>(fun T=>(match P.underlying T with
  | some (.slice E)=>(Qp P t).1 E
  | _=>false) && kR P T (.sl o t),fun _ _=>false)
 | .ptr t=>(fun T=>(match P.underlying T with
  | some (.pointer _)=>true
  | _=>false) && kR P T (.ptr t),fun _ _=>false)
 | .fn f c=>(fun T=>(match P.underlying T with
  | some (.func _ _ _)=>true
  | some (.map _ _)=>true
  | _=>false) && kR P T (.fn f c),fun _ _=>false)
 | .tree k=>(fun T=>(match P.underlying T with
  | some (.struct _)=>Nat.beq T (z5k k) && recOn k
  | _=>false) && kR P T (.tree k),fun _ _=>false)
def EU (P:Program) (t:Ty) (T:TypeId):Bool:=(Qp P t).1 T
def MW (P:Program) (t:Ty) (fs:List Field) (off:Nat):Bool:=(Qp P t).2 fs off
theorem z56 {P:Program} {k:IntKind} {T:TypeId}:EU P (.int k) T=((match P.underlying T with
  | some (.int j)=>(match decEq j k with
   | isTrue _=>true
   | isFalse _=>false)
  | _=>false) && kR P T (.int k)):=rfl
theorem RT {P:Program} {T:TypeId}:EU P .bool T=((match P.underlying T with
  | some .bool=>true
  | _=>false) && kR P T .bool):=rfl
theorem z4z {P:Program} {T:TypeId}:EU P .str T=((match P.underlying T with
  | some .string=>true
  | _=>false) && kR P T .str):=rfl
theorem z52 {P:Program} {t:Ty} {T:TypeId}:EU P (.ptr t) T=((match P.underlying T with
  | some (.pointer _)=>true
  | _=>false) && kR P T (.ptr t)):=rfl
theorem zcr {P:Program} {f:Nat} {c:Ty} {T:TypeId}:EU P (.fn f c) T=((match P.underlying T with
  | some (.func _ _ _)=>true
  | some (.map _ _)=>true
  | _=>false) && kR P T (.fn f c)):=rfl
theorem RO {P:Program} {k:Nat} {T:TypeId}:EU P (.tree k) T=((match P.underlying T with
  | some (.struct _)=>Nat.beq T (z5k k) && recOn k
  | _=>false) && kR P T (.tree k)):=rfl
theorem RR {P:Program} {a b:Ty} {T:TypeId}:EU P (.pair a b) T=((match P.underlying T with
  | some (.struct fs)=>MW P (.pair a b) fs.toList 0
  | _=>false) && kR P T (.pair a b)):=rfl
theorem z57 {P:Program} {n:Nat} {t:Ty} {T:TypeId}:EU P (.arr n t) T=((match P.underlying T with
  | some (.array m E)=>Nat.beq m n && EU P t E
  | _=>false) && kR P T (.arr n t)):=rfl
theorem zcq {P:Program} {o:Bool} {t:Ty} {T:TypeId}:EU P (.sl o t) T=((match P.underlying T with
  | some (.slice E)=>EU P t E
  | _=>false) && kR P T (.sl o t)):=rfl
theorem z0a {P:Program} {a b:Ty} {f:Field} {fs:List Field} {off:Nat}:MW P (.pair a b) (f :: fs) off=(Nat.beq f.offset off && EU P a f.type && MW P b fs (off+a.size)):=rfl
mutual
theorem tyB_ok {P:Program}:{t:Ty}->{T:TypeId}->EU P t T=true->qq P t T
 | .int k,T,h=>by
  simp only [z56,zA] at h;simp only [qq];refine ⟨?_,gY h.2⟩;have h1:=h.1;split at h1
  ·rename_i j hj;split at h1
   ·rename_i hk _;rw [hj,hk]
   ·simp at h1
  ·simp at h1
 | .bool,T,h=>by
  simp only [RT,zA] at h;simp only [qq];refine ⟨?_,gY h.2⟩;have h1:=h.1;split at h1
  ·rename_i hj;exact hj
  ·simp at h1
 | .str,T,h=>by
  simp only [z4z,zA] at h;simp only [qq];refine ⟨?_,gY h.2⟩;have h1:=h.1;split at h1
  ·rename_i hj;exact hj
  ·simp at h1
 | .unit,_,h=>by simp [EU,Qp] at h
 | .pair a b,T,h=>by
  simp only [RR,zA] at h;simp only [qq];refine ⟨?_,gY h.2⟩;have h1:=h.1;split at h1
  ·rename_i fs hj;exact ⟨fs,hj,z0b h1⟩
  ·simp at h1
 | .arr n t,T,h=>by
  simp only [z57,zA] at h;simp only [qq];refine ⟨?_,gY h.2⟩;have h1:=h.1;split at h1
  ·rename_i m E hj;simp only [zA,Q4] at h1;exact ⟨E,by rw [hj,h1.1],tyB_ok h1.2⟩
  ·simp at h1
 | .sl o t,T,h=>by
  simp only [zcq,zA] at h;simp only [qq];refine ⟨?_,gY h.2⟩;have h1:=h.1;split at h1
  ·rename_i E hj;exact ⟨E,hj,tyB_ok h1⟩
  ·simp at h1
 | .ptr t,T,h=>by
  simp only [z52,zA] at h;simp only [qq];refine ⟨?_,gY h.2⟩;have h1:=h.1;split at h1
  ·rename_i E hj;exact ⟨E,hj⟩
  ·simp at h1
 | .tree k,T,h=>by
  simp only [RO,zA] at h;simp only [qq];refine ⟨?_,gY h.2⟩;have h1:=h.1;split at h1
  ·rename_i fs hj;rw [zA] at h1;exact ⟨zE h1.1,h1.2,fs,hj⟩
  ·simp at h1
 | .fn f c,T,h=>by
  simp only [zcr,zA] at h;simp only [qq];refine ⟨?_,gY h.2⟩;have h1:=h.1;split at h1
  ·rename_i a b d hj;exact .inl ⟨a,b,d,hj⟩
  ·rename_i a b hj;exact .inr ⟨a,b,hj⟩
  ·simp at h1
theorem z0b {P:Program}:{t:Ty}->{fs:List Field}->{off:Nat}->MW P t fs off=true->jm P t fs off
 | .pair a b,f :: fs,off,h=>by
  simp only [z0a,zA,Q4] at h;simp only [jm]
  exact ⟨h.1.1,tyB_ok h.1.2,z0b h.2⟩
 | .unit,[],_,_=>by simp only [jm]
 | .unit,_ :: _,_,h=>by simp [MW,Qp] at h
 | .pair _ _,[],_,h=>by simp [MW,Qp] at h
 | .int _,_,_,h=>by simp [MW,Qp] at h
 | .bool,_,_,h=>by simp [MW,Qp] at h
 | .str,_,_,h=>by simp [MW,Qp] at h
 | .arr _ _,_,_,h=>by simp [MW,Qp] at h
 | .sl _ _,_,_,h=>by simp [MW,Qp] at h
 | .ptr _,_,_,h=>by simp [MW,Qp] at h
 | .fn _ _,_,_,h=>by simp [MW,Qp] at h
 | .tree _,_,_,h=>by simp [MW,Qp] at h
end
def RecOK (P:Program):Prop:=∀ k,recOn k=true->qq P (.pair (pn k) (pf k)) (z5k k)
def gP (P:Program) (tt:Nat->Option Ty):Prop:=∀ T u,tt T=some u->qq P u T
def ttB (P:Program):List (Nat×Ty)->Bool
 | []=>true
 | (T,u) :: l=>EU P u T && ttB P l
theorem Ra {P:Program}:{l:List (Nat×Ty)}->ttB P l=true->gP P (yT l)
 | [],_,_,_,h=>by simp [yT] at h
 | (T,u) :: l,hb,T',u',h=>by
  simp only [ttB,zA] at hb;simp only [yT] at h
  cases he:Nat.beq T T' with
  | true=>
   rw [he] at h;simp only [zD,zI] at h;subst h;rw [<-zE he]
   exact tyB_ok hb.1
  | false=>
   rw [he] at h;exact Ra hb.2 T' u' h
end Go.Kz
namespace Go.Kz
variable {R:Type}
def Ju:Ty->Path->Option Sk
 | t,[]=>some t.sk
 | .pair a _,.fst :: p=>Ju a p
 | .pair _ b,.snd :: p=>Ju b p
 | .arr _ t,.idx _ :: p=>Ju t p
 | .sl true t,.idx _ :: p=>Ju t p
 | _,_=>none
def Vb:Ty->Path->Option Ty
 | t,[]=>some t
 | .pair a _,.fst :: p=>Vb a p
 | .pair _ b,.snd :: p=>Vb b p
 | .arr _ t,.idx _ :: p=>Vb t p
 | .sl true t,.idx _ :: p=>Vb t p
 | _,_=>none
theorem Po:{t:Ty}->{p:Path}->{v:Ty}->Vb t p=some (.sl true v)->jk t p=some v
 | t,[],v,h=>by
  simp only [Vb,zI] at h
  subst h;rfl
 | .pair a _,.fst :: p,v,h=>by simp only [Vb,jk] at h ⊢;exact Po h
 | .pair _ b,.snd :: p,v,h=>by simp only [Vb,jk] at h ⊢;exact Po h
 | .arr _ t,.idx _ :: p,v,h=>by simp only [Vb,jk] at h ⊢;exact Po h
 | .sl true t,.idx _ :: p,v,h=>by simp only [Vb,jk] at h ⊢;exact Po h
 | .sl true _,.fst :: _,_,h | .sl true _,.snd :: _,_,h=>by simp [Vb] at h
 | .sl false _,s :: _,_,h=>by cases s <;> simp [Vb] at h
 | .int _,s :: _,_,h=>by cases s <;> simp [Vb] at h
 | .bool,s :: _,_,h=>by cases s <;> simp [Vb] at h
 | .str,s :: _,_,h=>by cases s <;> simp [Vb] at h
 | .unit,s :: _,_,h=>by cases s <;> simp [Vb] at h
 | .ptr _,s :: _,_,h=>by cases s <;> simp [Vb] at h
 | .fn _ _,s :: _,_,h=>by cases s <;> simp [Vb] at h
 | .tree _,s :: _,_,h=>by cases s <;> simp [Vb] at h
 | .pair _ _,.idx _ :: _,_,h=>by simp [Vb] at h
 | .arr _ _,.fst :: _,_,h | .arr _ _,.snd :: _,_,h=>by simp [Vb] at h
theorem kH {g:z8} {id:Nat} {j:Int} {bk o n cp:Nat}:{t:Ty}->{pre:Path}->{b off:Nat}->{p:Path}->{v:Ty}->{x:Nat×Nat}->jk t p=some v->place g id t pre b off p=some x->
  g.sv id (pre++p) = .slice (some ⟨bk,o,none⟩) n cp->place g id t pre b off (p++[.idx j])=some (bk,o+j.toNat*v.size)
 | .sl true t,pre,b,off,[],v,x,hq,_,qT=>by
  simp only [jk,zI] at hq;subst hq;simp only [AL] at qT
  simp [place,qT]
 | .pair a _,pre,b,off,.fst :: p,v,x,hq,hp,qT=>by
  simp only [jk,place,ue] at hq hp ⊢
  exact kH hq hp (by rw [VO];exact qT)
 | .pair _ c,pre,b,off,.snd :: p,v,x,hq,hp,qT=>by
  simp only [jk,place,ue] at hq hp ⊢
  exact kH hq hp (by rw [VO];exact qT)
 | .arr _ t,pre,b,off,.idx i :: p,v,x,hq,hp,qT=>by
  simp only [jk,place,ue] at hq hp ⊢
  exact kH hq hp (by rw [VO];exact qT)
 | .sl true t,pre,b,off,.idx i :: p,v,x,hq,hp,qT=>by
  simp only [jk,place,ue] at hq hp ⊢;split at hp
  ·exact kH hq hp (by rw [VO];exact qT)
  ·simp at hp
 | .sl true _,_,_,_,.fst :: _,_,_,h,_,_ | .sl true _,_,_,_,.snd :: _,_,_,h,_,_=>by simp [jk] at h
 | .sl false _,_,_,_,p,_,_,h,_,_=>by cases p with | nil=>simp [jk] at h | cons s q=>cases s <;> simp [jk] at h
 | .int _,_,_,_,p,_,_,h,_,_=>by cases p with | nil=>simp [jk] at h | cons s q=>cases s <;> simp [jk] at h
 | .bool,_,_,_,p,_,_,h,_,_=>by cases p with | nil=>simp [jk] at h | cons s q=>cases s <;> simp [jk] at h
 | .str,_,_,_,p,_,_,h,_,_=>by cases p with | nil=>simp [jk] at h | cons s q=>cases s <;> simp [jk] at h
 | .unit,_,_,_,p,_,_,h,_,_=>by cases p with | nil=>simp [jk] at h | cons s q=>cases s <;> simp [jk] at h
 | .ptr _,_,_,_,p,_,_,h,_,_=>by cases p with | nil=>simp [jk] at h | cons s q=>cases s <;> simp [jk] at h
 | .fn _ _,_,_,_,p,_,_,h,_,_=>by cases p with | nil=>simp [jk] at h | cons s q=>cases s <;> simp [jk] at h
 | .tree _,_,_,_,p,_,_,h,_,_=>by cases p with | nil=>simp [jk] at h | cons s q=>cases s <;> simp [jk] at h
 | .pair _ _,_,_,_,[],_,_,h,_,_=>by simp [jk] at h
 | .pair _ _,_,_,_,.idx _ :: _,_,_,h,_,_=>by simp [jk] at h
 | .arr _ _,_,_,_,[],_,_,h,_,_=>by simp [jk] at h
 | .arr _ _,_,_,_,.fst :: _,_,_,h,_,_ | .arr _ _,_,_,_,.snd :: _,_,_,h,_,_=>by simp [jk] at h
theorem CA {p q:Path} (h:q.length < p.length):¬ p <+: q:=by
 rintro ⟨r,hr⟩;have:=C6 List.length hr;rw [Kj] at this;omega
theorem xF (l:List Value) (off n m:Nat) (h:off+(n+m)<=l.length):qB l off (n+m)=qB l off n++qB l (off+n) m:=by
 simp only [qB];rw [<-Ng,<-List.take_add]
theorem Hr {l:List Value} {off:Nat} {x:Value} (h:off < l.length):qB (zU l off [x]) off 1=[x]:=pK l off [x] (by simp only [Z3r];omega)
theorem LK.side {w w':World} {g g':z8} {id b0:Nat} {p q:Path} (hn:LK w g w' g' id p b0) (hq:∀ r,¬ p <+: q++r) (hB:∀ r,g.tag b0≠.row id (q++r)):xZ w g w' g' id q id q:=
 ⟨fun r=>hn.sv _ (hq r),fun r b hb=>let h:=hn.zt _ b hb (hq r);⟨h.1,h.2 (fun he=>hB r (he ▸ hb))⟩⟩
def NZ (w:World) (g:z8) (id:Nat) (t:Ty):Prop:=
 ∀ {R:Type} {pre:Path} {d:t.den} {p:Path} {v:Ty} {k:(u:Ty)->u.den->Option R} {r:R} {b off:Nat} {c:Array Value} {e:TypeId} {pb:Path},
  jk t p=some v->g.tag b = .row id pb->pb.length < pre.length->w.heap[b]? = some (.cells c e (0,0))->off+t.size<=c.size->zC w g (some (id,pre)) t d (qB c.toList off t.size)->za t d p k=some r->
  ∃ (l1:List v.den) (bh oh:Nat) (ch:Array Value) (eh:TypeId) (ph:Path),k (.sl true v) l1=some r/\place g id t pre b off p=some (bh,oh)/\g.tag bh = .row id ph/\ph.length < (pre++p).length/\
   w.heap[bh]? = some (.cells ch eh (0,0))/\oh < ch.size/\zC w g (some (id,pre++p)) (.sl true v) l1 (qB ch.toList oh 1)/\(bh=b\/(bh≠b/\pre <+: ph))/\
   ∀ (w':World) (g':z8) (l':List v.den) (x:Value),LK w g w' g' id (pre++p) bh->w'.heap[bh]? = some (.cells (zU ch.toList oh [x]).toArray eh (0,0))->zC w' g' (some (id,pre++p)) (.sl true v) l' [x]->
    ∀ {R':Type} (f:t.den->Option R') (r':R'),jM t d p (.sl true v) l' f=some r'->
     ∃ d',f d'=some r'/\∃ c',w'.heap[b]? = some (.cells c' e (0,0))/\c'.size=c.size/\(∀ a n,a+n<=off\/off+t.size<=a->qB c'.toList a n=qB c.toList a n)/\zC w' g' (some (id,pre)) t d' (qB c'.toList off t.size)
theorem G5 {w:World} {g:z8} {id:Nat} {t:Ty} (ih:NZ w g id t) {pre:Path} {l:List t.den} {i:Int} {p:Path} {v:Ty} {k:(u:Ty)->u.den->Option R} {r:R} {hd:Value}
  (vZ:jk t p=some v) (zX:zC w g (some (id,pre)) (.sl true t) l [hd]) (h:za (.sl true t) l (.idx i :: p) k=some r) :
  ∃ (l1:List v.den) (bh oh:Nat) (ch:Array Value) (eh:TypeId) (ph:Path),k (.sl true v) l1=some r/\(∀ b off,place g id (.sl true t) pre b off (.idx i :: p)=some (bh,oh))/\g.tag bh = .row id ph/\
   ph.length < (pre ++ .idx i :: p).length/\pre <+: ph/\w.heap[bh]? = some (.cells ch eh (0,0))/\oh < ch.size/\zC w g (some (id,pre ++ .idx i :: p)) (.sl true v) l1 (qB ch.toList oh 1)/\
   ∀ (w':World) (g':z8) (l':List v.den) (x:Value),LK w g w' g' id (pre ++ .idx i :: p) bh->w'.heap[bh]? = some (.cells (zU ch.toList oh [x]).toArray eh (0,0))->zC w' g' (some (id,pre ++ .idx i :: p)) (.sl true v) l' [x]->
    ∀ {R':Type} (f:List t.den->Option R') (r':R'),jM (.sl true t) l (.idx i :: p) (.sl true v) l' f=some r'->∃ l2,f l2=some r'/\l2.length=l.length/\zC w' g' (some (id,pre)) (.sl true t) l2 [hd]:=by
 simp only [za,VN] at h;obtain ⟨x,hx,h⟩:=h;obtain ⟨h0,hi,rfl,qJ⟩:=jf hx;obtain ⟨a,cap,pN,qT,Gi,Gm,wC⟩:=zX;have Ha:((i.toNat:Nat):Int)=i:=Z2n h0;rcases wC with ⟨_,hl,_⟩ | ⟨b,o,c,e,rfl,zH,zQ,qK,jo⟩
 ·rw [hl] at hi;simp at hi
 ·have Q8:(i.toNat+1)*t.size<=cap*t.size:=kj _ (by omega);rw [wz] at Q8;have xj:=jo _ hi;rw [Ha] at xj;obtain ⟨l1,bh,oh,ch,eh,ph,hk,gy,jJ,Eu,gT,Rj,kT,halt,hw⟩:=ih vZ zH (by simp) zQ (by omega) xj h;have AK:pre++[Step.idx i]++p=pre ++ .idx i :: p:=by simp
  rw [AK] at Eu kT;have uI:pre <+: ph:=by
   rcases halt with rfl | ⟨_,⟨z,hz⟩⟩
   ·rw [zH] at jJ;simp only [Tag.row.injEq,VL] at jJ;rw [jJ];exact Z4c _
   ·exact ⟨[.idx i]++z,by rw [<-hz];simp⟩
  refine ⟨l1,bh,oh,ch,eh,ph,hk,fun b' Vz=>?_,jJ,Eu,uI,gT,Rj,kT,fun w' g' l' x hn BO Pw R' f r' w8=>?_⟩
  ·simp only [place,qT];exact gy
  ·simp only [jM] at w8;rw [hx] at w8;simp only [zB] at w8;obtain ⟨d',hf,c',Pg,gJ,uL,pg⟩:=hw w' g' l' x (by rw [AK];exact hn) BO (by rw [AK];exact Pw) _ _ w8;have hnp:¬ (pre ++ .idx i :: p) <+: pre:=CA (by simp);refine ⟨_,hf,qF _ _ _,some ⟨b,o,none⟩,cap,by rw [qF];exact pN,by rw [qF,hn.sv _ hnp];exact qT,by rw [qF];exact Gi,Gm,.inr ⟨b,o,c',e,rfl,(hn.zt _ b zH hnp).1,Pg,by rw [gJ];exact qK,fun j hj=>?_⟩⟩;have v7:j < l.length:=by rw [qF] at hj;exact hj
   rw [QJ];by_cases ZI:i.toNat=j
   ·rw [yW ZI];subst ZI;rw [Ha];exact pg
   ·rw [qQ ZI];have zk6:xZ w g w' g' id (pre++[Step.idx (j:Int)]) id (pre++[Step.idx (j:Int)]):=by
     refine hn.side (fun z hz=>?_) (fun z hz=>?_)
     ·rw [VO,Z4d] at hz;obtain ⟨y,hy⟩:=hz;simp only [ue,Zu,Az,Step.idx.injEq] at hy;exact ZI (by rw [hy.1];simp)
     ·rw [jJ] at hz;simp only [Tag.row.injEq,VL] at hz;rcases halt with rfl | ⟨_,⟨y,hy⟩⟩
      ·rw [zH] at jJ;simp only [Tag.row.injEq,VL] at jJ;rw [<-jJ] at hz;have:=C6 List.length hz;simp at this
      ·rw [<-hy,VO,VO] at hz;have:=Z4e hz;simp only [ue,Zu,Az,Step.idx.injEq] at this;exact ZI (by rw [this.1];simp)
    have:=zC.move hn.ro (o:=some (id,pre++[Step.idx (j:Int)])) (o':=some (id,pre++[Step.idx (j:Int)])) zk6 (jo j v7);rw [uL _ _ (by
     rcases Z3q ZI with VQ | hgt
     ·right;have h3:(i.toNat+1)*t.size<=j*t.size:=kj _ VQ;rw [wz] at h3;omega
     ·left;have h3:(j+1)*t.size<=i.toNat*t.size:=kj _ hgt;rw [wz] at h3;omega)]
    exact this
theorem focus (w:World) (g:z8) (id:Nat):(t:Ty)->NZ w g id t
 | .sl true t=>by
  rename_i R pre p v k r b off c e pb d;intro vZ zH hpb zQ qK zX h;have pO:c.toList.length=c.size:=vX
  cases p with
  | nil=>
   simp only [jk,zI] at vZ;subst vZ;have h':k (.sl true t) d=some r:=by simpa [za] using h
   have Ge:off+1<=c.size:=qK;refine ⟨d,b,off,c,e,pb,h',by simp [place],zH,by simpa using hpb,zQ,by omega,by rw [AL];exact zX,.inl rfl,fun w' g' l' x hn BO Pw R' f r' w8=>?_⟩;have zk9:pJ (.sl true t) (.sl true t) l' f=some r':=by simpa [jM] using w8
   obtain ⟨hh,hf⟩:=qS zk9;refine ⟨_,hf,_,BO,by rw [Z26,yM _ _ _ (by simp;omega),pO],fun a n han=>?_,?_⟩
   ·rcases han with han | han
    ·exact jj _ _ _ _ _ han (by omega)
    ·have zuu:off+1<=a:=han;exact vD _ _ _ _ _ (by simpa using zuu) (by simp;omega)
   ·show zC w' g' (some (id,pre)) (.sl true t) l' (qB (zU c.toList off [x]) off 1);rw [Hr (by omega)]
    simpa using Pw
  | cons s q=>
   cases s with
   | fst=>simp [jk] at vZ
   | snd=>simp [jk] at vZ
   | idx i=>
    simp only [jk] at vZ;have Ge:off+1<=c.size:=qK;have hlen:(qB c.toList off 1).length=1:=yV (by omega);obtain ⟨hd,hhd⟩:=Z2e.1 hlen;have Xz:zC w g (some (id,pre)) (.sl true t) d [hd]:=by rw [<-hhd];exact zX
    obtain ⟨l1,bh,oh,ch,eh,ph,hk,gy,jJ,Eu,uI,gT,Rj,kT,hw⟩:=G5 (focus w g id t) vZ Xz h;have vI:bh≠b:=by
     intro he;subst he;rw [zH] at jJ;simp only [Tag.row.injEq,VL] at jJ;subst jJ;have:=uI.length_le;omega
    refine ⟨l1,bh,oh,ch,eh,ph,hk,gy b off,jJ,Eu,gT,Rj,kT,.inr ⟨vI,uI⟩,fun w' g' l' x hn BO Pw R' f r' w8=>?_⟩;obtain ⟨l2,hf,HT,pg⟩:=hw w' g' l' x hn BO Pw f r' w8;refine ⟨l2,hf,c,?_,rfl,fun _ _ _=>rfl,?_⟩
    ·rw [(hn.zt pb b zH (CA (by simp;omega))).2 (fun he=>vI he.symm)];exact zQ
    ·show zC w' g' (some (id,pre)) (.sl true t) l2 (qB c.toList off 1)
     rw [hhd];exact pg
 | .pair ta tb=>by
  rename_i R pre p v k r b off c e pb d;intro vZ zH hpb zQ qK zX h;have pO:c.toList.length=c.size:=vX;obtain ⟨x,y⟩:=d;obtain ⟨c1,c2,hcc,h1,h2⟩:=zX;have hs:off+(ta.size+tb.size)<=c.size:=qK;have hsp:=xF c.toList off ta.size tb.size (by omega);have FI:qB c.toList off (ta.size+tb.size)=c1++c2:=hcc;rw [hsp] at FI;obtain ⟨e1,e2⟩:=Z3s FI (by rw [yV (by omega),h1.len]);rw [<-e1] at h1;rw [<-e2] at h2;have h1:zC w g (some (id,pre++[Step.fst])) ta x (qB c.toList off ta.size):=h1;have h2:zC w g (some (id,pre++[Step.snd])) tb y (qB c.toList (off+ta.size) tb.size):=h2
  cases p with
  | nil=>simp [jk] at vZ
  | cons s q=>
   cases s with
   | idx i=>simp [jk] at vZ
   | fst=>
    simp only [jk] at vZ;simp only [za] at h;obtain ⟨l1,bh,oh,ch,eh,ph,hk,gy,jJ,Eu,gT,Rj,kT,halt,hw⟩:=focus w g id ta (pre:=pre++[.fst]) vZ zH (by simp;omega) zQ (by omega) h1 h;have AK:pre++[Step.fst]++q=pre ++ .fst :: q:=by simp
    rw [AK] at Eu kT;refine ⟨l1,bh,oh,ch,eh,ph,hk,by simp only [place];exact gy,jJ,Eu,gT,Rj,kT,halt.imp_right (fun z=>⟨z.1,(Z50 pre [.fst]).trans z.2⟩),fun w' g' l' x' hn BO Pw R' f r' w8=>?_⟩;simp only [jM] at w8;obtain ⟨d',hf,c',Pg,gJ,uL,pg⟩:=hw w' g' l' x' (by rw [AK];exact hn) BO (by rw [AK];exact Pw) _ _ w8;have Gn:c'.toList.length=c'.size:=vX;refine ⟨_,hf,c',Pg,gJ,fun a n han=>uL a n (by have:(Ty.pair ta tb).size=ta.size+tb.size:=rfl;omega),qB c'.toList off ta.size,qB c'.toList (off+ta.size) tb.size,?_,pg,?_⟩
    ·exact xF _ _ _ _ (by omega)
    ·rw [uL _ _ (.inr (yS _))];refine zC.move hn.ro (o:=some (id,pre++[Step.snd])) (o':=some (id,pre++[Step.snd])) (hn.side (fun z hz=>?_) (fun z hz=>?_)) h2
     ·rw [VO,Z4d] at hz;obtain ⟨y',hy⟩:=hz;simp at hy
     ·rw [jJ] at hz;simp only [Tag.row.injEq,VL] at hz;rcases halt with rfl | ⟨_,⟨y',hy⟩⟩
      ·rw [zH] at jJ;simp only [Tag.row.injEq,VL] at jJ;rw [<-jJ] at hz;have:=C6 List.length hz;simp at this;omega
      ·rw [<-hy,VO,VO] at hz;have:=Z4e hz
       simp at this
   | snd=>
    simp only [jk] at vZ;simp only [za] at h;obtain ⟨l1,bh,oh,ch,eh,ph,hk,gy,jJ,Eu,gT,Rj,kT,halt,hw⟩:=focus w g id tb (pre:=pre++[.snd]) vZ zH (by simp;omega) zQ (by omega) h2 h;have AK:pre++[Step.snd]++q=pre ++ .snd :: q:=by simp
    rw [AK] at Eu kT;refine ⟨l1,bh,oh,ch,eh,ph,hk,by simp only [place];exact gy,jJ,Eu,gT,Rj,kT,halt.imp_right (fun z=>⟨z.1,(Z50 pre [.snd]).trans z.2⟩),fun w' g' l' x' hn BO Pw R' f r' w8=>?_⟩;simp only [jM] at w8;obtain ⟨d',hf,c',Pg,gJ,uL,pg⟩:=hw w' g' l' x' (by rw [AK];exact hn) BO (by rw [AK];exact Pw) _ _ w8;have Gn:c'.toList.length=c'.size:=vX;refine ⟨_,hf,c',Pg,gJ,fun a n han=>uL a n (by have:(Ty.pair ta tb).size=ta.size+tb.size:=rfl;omega),qB c'.toList off ta.size,qB c'.toList (off+ta.size) tb.size,?_,?_,pg⟩
    ·exact xF _ _ _ _ (by omega)
    ·rw [uL _ _ (.inl (yS _))];refine zC.move hn.ro (o:=some (id,pre++[Step.fst])) (o':=some (id,pre++[Step.fst])) (hn.side (fun z hz=>?_) (fun z hz=>?_)) h1
     ·rw [VO,Z4d] at hz;obtain ⟨y',hy⟩:=hz;simp at hy
     ·rw [jJ] at hz;simp only [Tag.row.injEq,VL] at hz;rcases halt with rfl | ⟨_,⟨y',hy⟩⟩
      ·rw [zH] at jJ;simp only [Tag.row.injEq,VL] at jJ;rw [<-jJ] at hz;have:=C6 List.length hz;simp at this;omega
      ·rw [<-hy,VO,VO] at hz;have:=Z4e hz
       simp at this
 | .arr n t=>by
  rename_i R pre p v k r b off c e pb d;intro vZ zH hpb zQ qK zX h;have pO:c.toList.length=c.size:=vX;have hs:off+n*t.size<=c.size:=qK
  cases p with
  | nil=>simp [jk] at vZ
  | cons s q=>
   cases s with
   | fst=>simp [jk] at vZ
   | snd=>simp [jk] at vZ
   | idx i=>
    simp only [jk] at vZ;simp only [za,VN] at h;obtain ⟨x,hx,h⟩:=h;obtain ⟨h0,hi,rfl,qJ⟩:=jf hx;have Ha:((i.toNat:Nat):Int)=i:=Z2n h0;obtain ⟨Cr,Gi,jo⟩:=zX;have Qv:i.toNat < n:=by rw [<-Cr];exact hi
    have hmul:(i.toNat+1)*t.size<=n*t.size:=kj _ Qv;rw [wz] at hmul;have Tt:∀ (j:Nat) (hj:j < List.length d),zC w g (some (id,pre++[Step.idx (j:Int)])) t (List.get d ⟨j,hj⟩) (qB c.toList (off+j*t.size) t.size):=by
     intro j hj;have Jc:j < n:=by rw [<-Cr];exact hj
     have h3:(j+1)*t.size<=n*t.size:=kj _ Jc;rw [wz] at h3;have:=jo j hj;rw [show (Ty.arr n t).size=n*t.size from rfl,gh _ _ _ _ _ (by omega)] at this;exact this
    have xj:=Tt _ hi;rw [Ha] at xj;obtain ⟨l1,bh,oh,ch,eh,ph,hk,gy,jJ,Eu,gT,Rj,kT,halt,hw⟩:=focus w g id t (pre:=pre++[.idx i]) vZ zH (by simp;omega) zQ (by omega) xj h;have AK:pre++[Step.idx i]++q=pre ++ .idx i :: q:=by simp
    rw [AK] at Eu kT;refine ⟨l1,bh,oh,ch,eh,ph,hk,by simp only [place];exact gy,jJ,Eu,gT,Rj,kT,halt.imp_right (fun z=>⟨z.1,(Z50 pre [.idx i]).trans z.2⟩),fun w' g' l' x' hn BO Pw R' f r' w8=>?_⟩;simp only [jM] at w8;rw [hx] at w8;simp only [zB] at w8;obtain ⟨d',hf,c',Pg,gJ,uL,pg⟩:=hw w' g' l' x' (by rw [AK];exact hn) BO (by rw [AK];exact Pw) _ _ w8;have Gn:c'.toList.length=c'.size:=vX;refine ⟨_,hf,c',Pg,gJ,fun a m han=>uL a m (by have:(Ty.arr n t).size=n*t.size:=rfl;omega),by rw [qF];exact Cr,by rw [yV (by rw [Gn,gJ];exact qK)];rfl,fun j hj=>?_⟩;have v7:j < List.length d:=by rw [qF] at hj;exact hj
    have Jc:j < n:=by rw [<-Cr];exact v7
    have h3:(j+1)*t.size<=n*t.size:=kj _ Jc;rw [wz] at h3;rw [show (Ty.arr n t).size=n*t.size from rfl,gh _ _ _ _ _ (by omega),QJ];by_cases ZI:i.toNat=j
    ·rw [yW ZI];subst ZI;show zC w' g' (some (id,pre++[Step.idx ((i.toNat:Nat):Int)])) t d' _;rw [Ha];exact pg
    ·rw [qQ ZI,uL _ _ (by
      rcases Z3q ZI with VQ | hgt
      ·right;have h3:(i.toNat+1)*t.size<=j*t.size:=kj _ VQ;rw [wz] at h3;omega
      ·left;have h3:(j+1)*t.size<=i.toNat*t.size:=kj _ hgt;rw [wz] at h3;omega)]
     refine zC.move hn.ro (o:=some (id,pre++[Step.idx (j:Int)])) (o':=some (id,pre++[Step.idx (j:Int)])) (hn.side (fun z hz=>?_) (fun z hz=>?_)) (Tt j v7)
     ·rw [VO,Z4d] at hz;obtain ⟨y,hy⟩:=hz;simp only [ue,Zu,Az,Step.idx.injEq] at hy;exact ZI (by rw [hy.1];simp)
     ·rw [jJ] at hz;simp only [Tag.row.injEq,VL] at hz;rcases halt with rfl | ⟨_,⟨y,hy⟩⟩
      ·rw [zH] at jJ;simp only [Tag.row.injEq,VL] at jJ;rw [<-jJ] at hz;have:=C6 List.length hz;simp at this;omega
      ·rw [<-hy,VO,VO] at hz;have:=Z4e hz;simp only [ue,Zu,Az,Step.idx.injEq] at this
       exact ZI (by rw [this.1];simp)
 | .int _ | .bool | .str | .unit | .sl false _ | .ptr _ | .fn _ _ | .tree _=>by
  intro vZ;simp [jk] at vZ
theorem Sl {w:World} {g:z8} {id:Nat}:{t:Ty}->{pre:Path}->{d:t.den}->{p:Path}->{k:(u:Ty)->u.den->Option R}->{r:R}->{b off:Nat}->{c:Array Value}->{e:TypeId}->{pb:Path}->
  g.tag b = .row id pb->w.heap[b]? = some (.cells c e (0,0))->off+t.size<=c.size->zC w g (some (id,pre)) t d (qB c.toList off t.size)->za t d p k=some r->
  ∃ (u:Ty) (x:u.den) (bh oh:Nat) (ch:Array Value) (eh:TypeId) (ph:Path),k u x=some r/\place g id t pre b off p=some (bh,oh)/\Ju t p=some u.sk/\Vb t p=some u/\g.tag bh = .row id ph/\
   w.heap[bh]? = some (.cells ch eh (0,0))/\oh+u.size<=ch.size/\zC w g (some (id,pre++p)) u x (qB ch.toList oh u.size)
 | t,pre,d,[],k,r,b,off,c,e,pb,zH,zQ,qK,zX,h=>by
  have h':k t d=some r:=by cases t <;> simpa [za] using h
  exact ⟨t,d,b,off,c,e,pb,h',by simp [place],by simp [Ju],by simp [Vb],zH,zQ,qK,by simpa using zX⟩
 | .pair ta tb,pre,(x,y),.fst :: q,k,r,b,off,c,e,pb,zH,zQ,qK,zX,h=>by
  have pO:c.toList.length=c.size:=vX;simp only [za] at h;obtain ⟨c1,c2,hcc,h1,h2⟩:=zX;have hs:off+(ta.size+tb.size)<=c.size:=qK;have FI:qB c.toList off (ta.size+tb.size)=c1++c2:=hcc;rw [xF c.toList off ta.size tb.size (by omega)] at FI;obtain ⟨e1,e2⟩:=Z3s FI (by rw [yV (by omega),h1.len]);rw [<-e1] at h1;have h1:zC w g (some (id,pre++[Step.fst])) ta x (qB c.toList off ta.size):=h1;have:=Sl (pre:=pre++[.fst]) zH zQ (by omega) h1 h
  simpa [place,Ju,Vb] using this
 | .pair ta tb,pre,(x,y),.snd :: q,k,r,b,off,c,e,pb,zH,zQ,qK,zX,h=>by
  have pO:c.toList.length=c.size:=vX;simp only [za] at h;obtain ⟨c1,c2,hcc,h1,h2⟩:=zX;have hs:off+(ta.size+tb.size)<=c.size:=qK;have FI:qB c.toList off (ta.size+tb.size)=c1++c2:=hcc;rw [xF c.toList off ta.size tb.size (by omega)] at FI;obtain ⟨e1,e2⟩:=Z3s FI (by rw [yV (by omega),h1.len]);rw [<-e2] at h2;have h2:zC w g (some (id,pre++[Step.snd])) tb y (qB c.toList (off+ta.size) tb.size):=h2;have:=Sl (pre:=pre++[.snd]) zH zQ (by omega) h2 h
  simpa [place,Ju,Vb] using this
 | .arr n t,pre,d,.idx i :: q,k,r,b,off,c,e,pb,zH,zQ,qK,zX,h=>by
  have pO:c.toList.length=c.size:=vX;have hs:off+n*t.size<=c.size:=qK;simp only [za,VN] at h;obtain ⟨x,hx,h⟩:=h;obtain ⟨h0,hi,rfl,qJ⟩:=jf hx;have Ha:((i.toNat:Nat):Int)=i:=Z2n h0;obtain ⟨Cr,Gi,jo⟩:=zX;have Qv:i.toNat < n:=by rw [<-Cr];exact hi
  have hmul:(i.toNat+1)*t.size<=n*t.size:=kj _ Qv;rw [wz] at hmul;have xj:zC w g (some (id,pre++[Step.idx ((i.toNat:Nat):Int)])) t _ _:=jo _ hi;rw [Ha,show (Ty.arr n t).size=n*t.size from rfl,gh _ _ _ _ _ (by omega)] at xj;have:=Sl (pre:=pre++[.idx i]) zH zQ (by omega) xj h
  simpa [place,Ju,Vb] using this
 | .sl true t,pre,d,.idx i :: q,k,r,b,off,c,e,pb,zH,zQ,qK,zX,h=>by
  simp only [za,VN] at h;obtain ⟨x,hx,h⟩:=h;obtain ⟨h0,hi,rfl,qJ⟩:=jf hx;have Ha:((i.toNat:Nat):Int)=i:=Z2n h0;obtain ⟨a,cap,pN,qT,Gi,Gm,wC⟩:=zX;rcases wC with ⟨_,hl,_⟩ | ⟨b2,o2,c2,e2,rfl,BE,ZL,gJ,jo⟩
  ·rw [hl] at hi;simp at hi
  ·have Q8:(i.toNat+1)*t.size<=cap*t.size:=kj _ (by omega);rw [wz] at Q8;have xj:=jo _ hi;rw [Ha] at xj;have:=Sl (pre:=pre++[.idx i]) BE ZL (by omega) xj h
   simpa [place,Ju,Vb,qT] using this
 | .sl true _,_,_,.fst :: _,_,_,_,_,_,_,_,_,_,_,_,h=>by simp [za] at h
 | .sl true _,_,_,.snd :: _,_,_,_,_,_,_,_,_,_,_,_,h=>by simp [za] at h
 | .sl false _,_,_,s :: _,_,_,_,_,_,_,_,_,_,_,_,h=>by cases s <;> simp [za] at h
 | .int _,_,_,s :: _,_,_,_,_,_,_,_,_,_,_,_,h=>by cases s <;> simp [za] at h
 | .bool,_,_,s :: _,_,_,_,_,_,_,_,_,_,_,_,h=>by cases s <;> simp [za] at h
 | .str,_,_,s :: _,_,_,_,_,_,_,_,_,_,_,_,h=>by cases s <;> simp [za] at h
 | .unit,_,_,s :: _,_,_,_,_,_,_,_,_,_,_,_,h=>by cases s <;> simp [za] at h
 | .ptr _,_,_,s :: _,_,_,_,_,_,_,_,_,_,_,_,h=>by cases s <;> simp [za] at h
 | .fn _ _,_,_,s :: _,_,_,_,_,_,_,_,_,_,_,_,h=>by cases s <;> simp [za] at h
 | .tree _,_,_,s :: _,_,_,_,_,_,_,_,_,_,_,_,h=>by cases s <;> simp [za] at h
 | .pair _ _,_,(_,_),.idx _ :: _,_,_,_,_,_,_,_,_,_,_,_,h=>by simp [za] at h
 | .arr _ _,_,_,.fst :: _,_,_,_,_,_,_,_,_,_,_,_,h=>by simp [za] at h
 | .arr _ _,_,_,.snd :: _,_,_,_,_,_,_,_,_,_,_,_,h=>by simp [za] at h
theorem YH {w:World} {g:z8} {J:St} (hh:yZ w g J.z6) {pt:Bool} {id:Nat} {p:Path} {ep:Nat} {k:(u:Ty)->u.den->Option R} {r:R} (h:Wq J pt id p ep k=some r) :
  ∃ t l e i,J.z6 id=some (.nest t l e i none)/\F8 pt p e i=ep/\zC w g (some (id,[])) (.sl true t) l [g.sv id []]/\za (.sl true t) l p k=some r:=by
 unfold Wq at h;split at h
 ·rename_i t l e i ho
  cases hb:Nat.beq (F8 pt p e i) ep with
  | false=>rw [hb] at h;simp at h
  | true=>
   rw [hb] at h;exact ⟨t,l,e,i,ho,zE hb,hh.z6 id _ ho,h⟩
 ·simp at h
theorem uD {w:World} {g:z8} {id:Nat} {t:Ty} {l:List t.den} {s:Step} {p:Path} {k:(u:Ty)->u.den->Option R} {r:R} (zX:zC w g (some (id,[])) (.sl true t) l [g.sv id []])
  (h:za (.sl true t) l (s :: p) k=some r):∃ (u:Ty) (x:u.den) (bh oh:Nat) (ch:Array Value) (eh:TypeId) (ph:Path),k u x=some r/\place g id (.sl true t) [] 0 0 (s :: p)=some (bh,oh)/\
   Ju (.sl true t) (s :: p)=some u.sk/\Vb (.sl true t) (s :: p)=some u/\g.tag bh = .row id ph/\w.heap[bh]? = some (.cells ch eh (0,0))/\oh+u.size<=ch.size/\zC w g (some (id,s :: p)) u x (qB ch.toList oh u.size):=by
 cases s with
 | fst=>simp [za] at h
 | snd=>simp [za] at h
 | idx i=>
  simp only [za,VN] at h;obtain ⟨x,hx,h⟩:=h;obtain ⟨h0,hi,rfl,qJ⟩:=jf hx;have Ha:((i.toNat:Nat):Int)=i:=Z2n h0;obtain ⟨a,cap,pN,qT,Gi,Gm,wC⟩:=zX;rcases wC with ⟨_,hl,_⟩ | ⟨b2,o2,c2,e2,rfl,BE,ZL,gJ,jo⟩
  ·rw [hl] at hi;simp at hi
  ·have Q8:(i.toNat+1)*t.size<=cap*t.size:=kj _ (by omega);rw [wz] at Q8;have xj:=jo _ hi;rw [Ha] at xj;have:=Sl (pre:=[.idx i]) BE ZL (by omega) xj h;simpa [place,Ju,Vb,qT] using this
theorem Pq {w:World} {g:z8} {J:St} (hh:yZ w g J.z6) {id:Nat} {p:Path} {ep:Nat} {k:(v:Ty)->List v.den->Option R} {r:R} (h:UH J id p ep k=some r) :
  ∃ t l0 e i v l,J.z6 id=some (.nest t l0 e i none)/\F8 false p e i=ep/\zC w g (some (id,p)) (.sl true v) l [g.sv id p]/\k v l=some r/\jk (.sl true t) p=some v/\∃ x,place g id (.sl true t) [] 0 0 p=some x:=by
 unfold UH at h;obtain ⟨t,l0,e,i,ho,FB,zX,h⟩:=YH hh h
 cases p with
 | nil=>
  have h':k t l0=some r:=by simpa [za] using h
  exact ⟨t,l0,e,i,t,l0,ho,FB,zX,h',rfl,(0,0),by simp [place]⟩
 | cons s q=>
  obtain ⟨u,x,bh,oh,ch,eh,ph,hk,gy,_,Qe,_,_,_,hr⟩:=uD zX h
  cases u with
  | sl o v=>
   cases o with
   | false=>simp at hk
   | true=>
    refine ⟨t,l0,e,i,v,x,ho,FB,?_,hk,Po Qe,_,gy⟩;obtain ⟨a,cap,pN,qT,h1⟩:=hr
    exact ⟨a,cap,by rw [qT],qT,h1⟩
  | _=>simp at hk
end Go.Kz
namespace Go.Kz
variable {R:Type}
def B4 (g:z8):z8:={ g with tag:=fun b=>match g.tag b with
 | .zn=>.zn
 | _=>.ro }
theorem QU (w:World) (g:z8):zO w g w (B4 g):=⟨fun b hb=>⟨by simp [B4,hb],rfl⟩⟩
theorem ZW (w:World) (g:z8) (id:Nat) (p:Path):Zh w g w (B4 g) id p:=⟨fun q b hb=>⟨by simp [B4,hb],rfl⟩⟩
theorem LR {g:z8} {b id:Nat} {p:Path} (h:g.tag b = .row id p):(B4 g).tag b = .ro:=by simp [B4,h]
theorem Ty.kX:(t:Ty)->t.ro.zV=true
 | .int _=>rfl
 | .bool=>rfl
 | .str=>rfl
 | .unit=>rfl
 | .pair a b=>by simp [Ty.ro,Ty.zV,Ty.kX a,Ty.kX b]
 | .arr _ t=>by simp [Ty.ro,Ty.zV,Ty.kX t]
 | .sl _ t=>by simp [Ty.ro,Ty.zV,Ty.kX t]
 | .ptr t=>by simp [Ty.ro,Ty.zV,Ty.kX t]
 | .fn _ c=>by simp [Ty.ro,Ty.zV,Ty.kX c]
 | .tree _=>rfl
theorem Z1:{t:Ty}->{d:t.den}->{p:Path}->{k:(u:Ty)->u.den->Option R}->{r:R}->t.zV=true->za t d p k=some r->
  ∃ u e,k u e=some r/\u.zV=true
 | t,d,[],k,r,ht,h=>⟨t,d,by cases t <;> simpa [za] using h,ht⟩
 | .pair a b,(x,y),.fst :: p,k,r,ht,h=>by
  simp only [za] at h;simp only [Ty.zV,zA] at ht
  exact Z1 ht.1 h
 | .pair a b,(x,y),.snd :: p,k,r,ht,h=>by
  simp only [za] at h;simp only [Ty.zV,zA] at ht
  exact Z1 ht.2 h
 | .arr n t,l,.idx i :: p,k,r,ht,h=>by
  simp only [za,VN] at h;obtain ⟨x,_,h⟩:=h
  exact Z1 (by simpa [Ty.zV] using ht) h
 | .sl true t,l,.idx i :: p,k,r,ht,h=>by simp [Ty.zV] at ht
 | .sl false t,l,s :: p,k,r,ht,h=>by cases s <;> simp [za] at h
 | .sl true t,l,.fst :: p,k,r,ht,h=>by simp [za] at h
 | .sl true t,l,.snd :: p,k,r,ht,h=>by simp [za] at h
 | .int _,_,s :: _,_,_,_,h=>by cases s <;> simp [za] at h
 | .bool,_,s :: _,_,_,_,h=>by cases s <;> simp [za] at h
 | .str,_,s :: _,_,_,_,h=>by cases s <;> simp [za] at h
 | .unit,_,s :: _,_,_,_,h=>by cases s <;> simp [za] at h
 | .ptr _,_,s :: _,_,_,_,h=>by cases s <;> simp [za] at h
 | .fn _ _,_,s :: _,_,_,_,h=>by cases s <;> simp [za] at h
 | .tree _,_,s :: _,_,_,_,h=>by cases s <;> simp [za] at h
 | .pair _ _,_,.idx _ :: _,_,_,_,h=>by simp [za] at h
 | .arr _ _,_,.fst :: _,_,_,_,h=>by simp [za] at h
 | .arr _ _,_,.snd :: _,_,_,_,h=>by simp [za] at h
theorem gO {g:z8} {id:Nat}:{t:Ty}->{pre:Path}->{b off:Nat}->{q:Path}->{o:Nat}->{s:Sk}->t.sk.off q=some (o,s)->place g id t pre b off q=some (b,off+o)
 | t,pre,b,off,[],o,s,h=>by
  simp only [Sk.off,zI,gB] at h;obtain ⟨rfl,_⟩:=h
  simp [place]
 | .pair a c,pre,b,off,.fst :: q,o,s,h=>by
  simp only [Ty.sk,Sk.off] at h;simp only [place]
  exact gO h
 | .pair a c,pre,b,off,.snd :: q,o,s,h=>by
  simp only [Ty.sk,Sk.off,wq,gB] at h;obtain ⟨⟨o',s'⟩,h,rfl,rfl⟩:=h
  simp only [place,gO h,Ty.zZ,R4]
 | .arr n t,pre,b,off,.idx i :: q,o,s,h=>by
  simp only [Ty.sk,Sk.off] at h;split at h
  ·simp only [wq,gB] at h;obtain ⟨⟨o',s'⟩,h,rfl,rfl⟩:=h;simp only [place,gO h,Ty.zZ,R4]
  ·simp at h
 | .int _,_,_,_,s :: _,_,_,h=>by cases s <;> simp [Ty.sk,Sk.off] at h
 | .bool,_,_,_,s :: _,_,_,h=>by cases s <;> simp [Ty.sk,Sk.off] at h
 | .str,_,_,_,s :: _,_,_,h=>by cases s <;> simp [Ty.sk,Sk.off] at h
 | .unit,_,_,_,s :: _,_,_,h=>by cases s <;> simp [Ty.sk,Sk.off] at h
 | .ptr _,_,_,_,s :: _,_,_,h=>by cases s <;> simp [Ty.sk,Sk.off] at h
 | .fn _ _,_,_,_,s :: _,_,_,h=>by cases s <;> simp [Ty.sk,Sk.off] at h
 | .tree _,_,_,_,s :: _,_,_,h=>by cases s <;> simp [Ty.sk,Sk.off] at h
 | .sl _ _,_,_,_,s :: _,_,_,h=>by cases s <;> simp [Ty.sk,Sk.off] at h
 | .pair _ _,_,_,_,.idx _ :: _,_,_,h=>by simp [Ty.sk,Sk.off] at h
 | .arr _ _,_,_,_,.fst :: _,_,_,h=>by simp [Ty.sk,Sk.off] at h
 | .arr _ _,_,_,_,.snd :: _,_,_,h=>by simp [Ty.sk,Sk.off] at h
theorem P9:{t:Ty}->{q:Path}->{o:Nat}->{s:Sk}->t.sk.off q=some (o,s)->Ju t q=some s
 | t,[],o,s,h=>by
  simp only [Sk.off,zI,gB] at h
  simp only [Ju,h.2]
 | .pair a c,.fst :: q,o,s,h=>by
  simp only [Ty.sk,Sk.off] at h
  simp only [Ju];exact P9 h
 | .pair a c,.snd :: q,o,s,h=>by
  simp only [Ty.sk,Sk.off,wq,gB] at h;obtain ⟨⟨o',s'⟩,h,rfl,rfl⟩:=h
  simp only [Ju];exact P9 h
 | .arr n t,.idx i :: q,o,s,h=>by
  simp only [Ty.sk,Sk.off] at h;split at h
  ·simp only [wq,gB] at h;obtain ⟨⟨o',s'⟩,h,rfl,rfl⟩:=h;simp only [Ju];exact P9 h
  ·simp at h
 | .int _,s :: _,_,_,h=>by cases s <;> simp [Ty.sk,Sk.off] at h
 | .bool,s :: _,_,_,h=>by cases s <;> simp [Ty.sk,Sk.off] at h
 | .str,s :: _,_,_,h=>by cases s <;> simp [Ty.sk,Sk.off] at h
 | .unit,s :: _,_,_,h=>by cases s <;> simp [Ty.sk,Sk.off] at h
 | .ptr _,s :: _,_,_,h=>by cases s <;> simp [Ty.sk,Sk.off] at h
 | .fn _ _,s :: _,_,_,h=>by cases s <;> simp [Ty.sk,Sk.off] at h
 | .tree _,s :: _,_,_,h=>by cases s <;> simp [Ty.sk,Sk.off] at h
 | .sl _ _,s :: _,_,_,h=>by cases s <;> simp [Ty.sk,Sk.off] at h
 | .pair _ _,.idx _ :: _,_,_,h=>by simp [Ty.sk,Sk.off] at h
 | .arr _ _,.fst :: _,_,_,h=>by simp [Ty.sk,Sk.off] at h
 | .arr _ _,.snd :: _,_,_,h=>by simp [Ty.sk,Sk.off] at h
theorem wE {w:World} {g:z8} {J:St} (hh:yZ w g J.z6) {id:Nat} {p:Path} {ep:Nat} {k:(u:Ty)->List u.den->Option R} {r:R}
  (h:uN J id p ep k=some r):∃ t l,J.z6 id=some (.row t l ep)/\p=[]/\t.zV=true/\k t l=some r:=by
 unfold uN at h;split at h
 ·rename_i t l e ho;have zR:=hh.z6 id _ ho
  cases hb:Nat.beq e ep with
  | false=>rw [hb] at h;simp at h
  | true=>
   rw [hb] at h;have he:e=ep:=zE hb;subst he;simp only [zD,Sv] at h
   cases p with
   | nil=>
    have h':k t l=some r:=by simpa [za] using h
    exact ⟨t,l,ho,rfl,zR.1,h'⟩
   | cons s q=>
    cases s with
    | idx i=>
     simp only [za,VN] at h;obtain ⟨x,_,h⟩:=h;obtain ⟨u,e',hu,qv⟩:=Z1 zR.1 h;split at hu
     ·simp [Ty.zV] at qv
     ·simp at hu
    | fst=>simp [za] at h
    | snd=>simp [za] at h
 ·simp at h
theorem uJ {w:World} {g:z8} {J:St} (hh:yZ w g J.z6) {id:Nat} {p:Path} {ep:Nat} {k:(u:Ty)->u.den->Option R} {r:R} (hp:p≠[])
  (h:p6 J id p ep k=some r):∃ t l u e b off c ee,J.z6 id=some (.row t l ep)/\t.zV=true/\k u e=some r/\u.zV=true/\
   place g id (.sl true t) [] 0 0 p=some (b,off)/\Ju (.sl true t) p=some u.sk/\g.tag b = .row id []/\w.heap[b]? = some (.cells c ee (0,0))/\off+u.size<=c.size/\zC w g none u e (qB c.toList off u.size):=by
 unfold p6 at h;split at h
 ·rename_i t l e ho;have zR:=hh.z6 id _ ho
  cases hb:Nat.beq e ep with
  | false=>rw [hb] at h;simp at h
  | true=>
   rw [hb] at h;have he:e=ep:=zE hb;subst he;simp only [zD,Sv] at h
   cases p with
   | nil=>exact absurd rfl hp
   | cons s q=>
    cases s with
    | idx i=>
     simp only [za,VN] at h;obtain ⟨x,hx,h⟩:=h;obtain ⟨h0,hi,rfl,qJ⟩:=jf hx;obtain ⟨a,cap,pN,qT,Gi,Gm,wC⟩:=zR.2;rcases wC with ⟨_,hl,_⟩ | ⟨b,off,c,ee,ha,zH,zQ,qK,WW⟩
     ·rw [hl] at hi;simp at hi
     ·have jo:=zC.qt (o':=none) zR.1 (WW _ hi);obtain ⟨u,e',o,hk,hu,ju,hr⟩:=Z0 zR.1 jo h;have hle:=Sk.wU ju;rw [Ty.zZ,Ty.zZ] at hle;have Q8:(i.toNat+1)*t.size<=cap*t.size:=kj _ (by omega);rw [wz] at Q8;refine ⟨t,l,u,e',b,off+i.toNat*t.size+o,c,ee,ho,zR.1,hk,hu,?_,by simp only [Ju];exact P9 ju,zH,zQ,by omega,?_⟩
      ·simp only [place,qT,ha,Zu];exact gO ju
      ·rw [gh _ _ _ _ _ hle] at hr
       exact hr
    | fst=>simp [za] at h
    | snd=>simp [za] at h
 ·simp at h
theorem Ac {w:World} {g:z8} {J:St} (hh:yZ w g J.z6) {id:Nat} {p:Path} {k:z7->Option R} {r:R}
  (h:YQ J id p k=some r):∃ a a' off c e,J.z6 id=some (.cell a)/\k a'=some r/\a.sk.off p=some (off,a'.sk)/\
   w.heap[g.zt id]? = some (.cells c e (0,0))/\g.tag (g.zt id) = .box id/\off+a'.sk.size<=c.size/\jV w g J.z6 a c.toList/\jV w g J.z6 a' (qB c.toList off a'.sk.size)/\∀ m,m∉a.ids->m∉a'.ids:=by
 unfold YQ at h;split at h
 ·rename_i a ho;obtain ⟨hnt,h⟩:=Vv h;obtain ⟨c,e,hc,ht,zR⟩:=(hh.z6 id _ ho).out hnt;obtain ⟨a',off,hk,ju,hr,hi⟩:=Z2 zR h;refine ⟨a,a',off,c,e,ho,hk,ju,hc,ht,?_,zR,hr,hi⟩;have:=Sk.wU ju;have h2:=zR.len;rw [vX] at h2;omega
 ·simp at h
theorem z8j {w:World} {g:z8} {z6:qk} {id:Nat} {a x:z7} (hc:a.cont=some x) (h:zm w g z6 id (.cell a)) :
  ∃ c e,w.heap[g.zt id]? = some (.cells c e (0,0))/\(g.tag (g.zt id) = .box id\/g.tag (g.zt id) = .ro)/\jV w g z6 x c.toList/\x.sk=a.sk/\x.ids=a.ids:=by
 cases ht:a.wk with
 | true=>
  cases a <;> simp [z7.wk] at ht;rename_i c;cases c <;> simp [z7.cont] at hc
  ·subst hc;obtain ⟨c,e,h1,h2,h3⟩:=(zm.Jq rfl).1 h;exact ⟨c,e,h1,.inr h2,h3,rfl,rfl⟩
  ·subst hc;obtain ⟨c,e,h1,h2,h3⟩:=(zm.Jq rfl).1 h
   exact ⟨c,e,h1,.inr h2,h3,rfl,rfl⟩
 | false=>
  obtain ⟨c,e,h1,h2,h3⟩:=h.out ht;have hx:x=a:=by
   cases a <;> simp [z7.wk] at ht <;> simp [z7.cont] at hc <;> exact hc.symm
  subst hx;exact ⟨c,e,h1,.inl h2,h3,rfl,rfl⟩
theorem Z9 {w:World} {g:z8} {J:St} (hh:yZ w g J.z6) {id:Nat} {p:Path} {k:z7->Option R} {r:R}
  (h:Jv J id p k=some r):∃ a a' off c e,J.z6 id=some (.cell a)/\k a'=some r/\a.sk.off p=some (off,a'.sk)/\
   w.heap[g.zt id]? = some (.cells c e (0,0))/\(g.tag (g.zt id) = .box id\/g.tag (g.zt id) = .ro)/\off+a'.sk.size<=c.size/\jV w g J.z6 a' (qB c.toList off a'.sk.size)/\∀ m,m∉a.ids->m∉a'.ids:=by
 unfold Jv at h;split at h
 ·rename_i a ho;split at h
  ·rename_i x hx;obtain ⟨c,e,hc,ht,zR,w7,gz⟩:=z8j hx (hh.z6 id _ ho);obtain ⟨a',off,hk,ju,hr,hi⟩:=Z2 zR h;refine ⟨a,a',off,c,e,ho,hk,by rw [<-w7];exact ju,hc,ht,?_,hr,fun m hm=>hi m (by rw [gz];exact hm)⟩;have:=Sk.wU ju;have h2:=zR.len;rw [vX] at h2;omega
  ·simp at h
 ·simp at h
theorem uP {I:Type} (l:List I) (a b:Int) (h0:0<=a) (KY:a<=b) (hb:b<=(l.length:Int)):(sub l a b).length=b.toNat-a.toNat:=by
 simp only [sub,P0,Lx];omega
theorem Vf {I:Type} (l:List I) (a b:Int) (i:Nat) (h:i < (sub l a b).length) (h':a.toNat+i < l.length):(sub l a b).get ⟨i,h⟩=l.get ⟨a.toNat+i,h'⟩:=by
 simp [sub,Z38,Z3t]
theorem zC.Rb {w:World} {g:z8} {k:Nat} {l:List (Rec k)} {cs:List Value}:zC w g none (.sl false (.tree k)) l cs↔zC w g none (.sl false (.pair (pn k) (pf k))) (List.map (vq k) l) cs:=by
 have hz:(Ty.tree k).size=(Ty.pair (pn k) (pf k)).size:=Uu k;have hl:(List.map (vq k) l).length=List.length l:=Jk ..;have jo:∀ (i:Nat) (h:i < List.length l) (h':i < (List.map (vq k) l).length) cs,zC w g none (.tree k) (List.get l ⟨i,h⟩) cs↔zC w g none (.pair (pn k) (pf k)) ((List.map (vq k) l).get ⟨i,h'⟩) cs:=fun i h h' cs=>by
  rw [zC.Vd];simp
 constructor
 ·rintro ⟨a,cap,rfl,h1,h2,h3⟩;refine ⟨a,cap,?_,?_,h2,fun hn=>?_⟩
  ·show _=[Value.slice a (List.map (vq k) l).length cap];rw [hl]
  ·show (List.map (vq k) l).length<=cap;rw [hl];exact h1
  obtain ⟨b,off,c,e,fz,ha,ht,hb,hs,he⟩:=h3 (by intro h;apply hn;rw [h];rfl);refine ⟨b,off,c,e,fz,ha,ht,hb,?_,fun i hi=>?_⟩
  ·show off+(List.map (vq k) l).length*_<=_;rw [hl,<-hz];exact hs
  ·have vf:i < List.length l:=by rw [<-hl];exact hi
   have:=(jo i vf hi _).1 (he i vf);rw [hz] at this;exact this
 ·rintro ⟨a,cap,rfl,h1,h2,h3⟩;have MY:(List.map (vq k) l).length<=cap:=h1;refine ⟨a,cap,?_,?_,h2,fun hn=>?_⟩
  ·show [Value.slice a (List.map (vq k) l).length cap]=_;rw [hl]
  ·rw [<-hl];exact h1
  obtain ⟨b,off,c,e,fz,ha,ht,hb,hs,he⟩:=h3 (by intro h;apply hn;exact List.map_eq_nil_iff.1 h);refine ⟨b,off,c,e,fz,ha,ht,hb,?_,fun i hi=>?_⟩
  ·have Ep:off+(List.map (vq k) l).length*(Ty.pair (pn k) (pf k)).size<=c.size:=hs;rw [hz,<-hl];exact Ep
  ·have vf:i < (List.map (vq k) l).length:=by rw [hl];exact hi
   have:=(jo i hi vf _).2 (he i vf);rw [<-hz] at this;exact this
theorem Ue (k:Nat) (l:List ((pn k).den×(pf k).den)):List.map (vq k) (List.map (Ld k) l)=l:=by
 rw [Z39];exact (Z51 fun y _=>Bz k y).trans (List.map_id l)
theorem Qs {a b:Ty} {d:a.den} {k:b.den->Option R} {r:R} (h:Z3 a b d k=some r):a.sk=b.sk:=by
 unfold Z3 at h;split at h
 ·rfl
 ·rfl
 ·obtain ⟨rfl,_⟩:=qS h;rfl
theorem vV {a b:Ty} {d:a.den} {k:b.den->Option R} {r:R} (h:Z3 a b d k=some r) (ha:a.zV=true):∃ d',k d'=some r/\b.zV=true/\∀ w g cs,zC w g none a d cs->zC w g none b d' cs:=by
 unfold Z3 at h;split at h
 ·obtain ⟨e,h⟩:=qS h;cases e;exact ⟨_,h,by simpa [Ty.zV] using SZ _,fun w g cs hr=>zC.Rb.1 hr⟩
 ·obtain ⟨e,h⟩:=qS h;cases e;refine ⟨_,h,rfl,fun w g cs hr=>zC.Rb.2 ?_⟩;rw [Ue];exact hr
 ·obtain ⟨rfl,h⟩:=qS h;exact ⟨_,h,ha,fun _ _ _ hr=>hr⟩
theorem kf {w:World} {g:z8} {J:St} (hh:yZ w g J.z6):(n:Nat)->{a:z7}->{t:Ty}->{k:t.den->Option R}->{r:R}->{cs:List Value}->
  jV w g J.z6 a cs->asData J n a t k=some r->∃ d,k d=some r/\t.zV=true/\zC w (B4 g) none t d cs
 | 0,_,_,_,_,_,_,h=>by simp [asData] at h
 | n+1,.data t' d,t,k,r,cs,zR,h=>by
  simp only [asData] at h;obtain ⟨_,h,qv,zX⟩:=vV h zR.1
  exact ⟨_,h,qv,zX _ _ _ (zR.2.kept (QU w g))⟩
 | n+1,.qy,t,k,r,cs,zR,h=>by
  simp only [asData] at h
  cases hb:t.zV with
  | false=>rw [hb] at h;simp at h
  | true=>
   rw [hb] at h
   cases t with
   | sl o t=>
    cases o with
    | true=>simp [Ty.zV] at hb
    | false=>
     refine ⟨([]:List t.den),h,rfl,?_⟩;have WY:cs=[.slice none 0 0]:=zR;subst WY
     exact ⟨none,0,rfl,yS _,jE _,fun hn=>absurd rfl hn⟩
   | _=>simp [Si] at h
 | n+1,.ref id p ep,t,k,r,cs,zR,h=>by
  simp only [asData] at h;obtain ⟨v,l,ho,rfl,qv,h⟩:=wE hh h;obtain ⟨_,h,gS,WZ⟩:=vV h (Ty.kX _);obtain ⟨x,rfl,_,hx⟩:=zR;have Gd:=(hx _ _ _ ho).2 rfl;have zg:=hh.z6 id _ ho;refine ⟨_,h,gS,WZ _ _ _ ?_⟩;have:=zC.freeze (QU w g) (o:=some (id,[])) (ZW w g id []) zg.2;rw [Gd]
  exact this
 | n+1,.view id p ep a b,t,k,r,cs,zR,h=>by
  simp only [asData] at h;obtain ⟨v,l,ho,rfl,qv,h⟩:=wE hh h;obtain ⟨_,h,gS,WZ⟩:=vV h (Ty.kX _);obtain ⟨x,rfl,_,hx⟩:=zR;obtain ⟨_,h0,KY,JW,hv⟩:=(hx _ _ _ ho).2 rfl;have zg:=hh.z6 id _ ho;refine ⟨_,h,gS,WZ _ _ _ ?_⟩;obtain ⟨ad,cap,pN,qT,Gi,Gm,wC⟩:=zg.2;have hlen:=uP l a b h0 KY JW;show zC w (B4 g) none (.sl false v.ro) (Ty.kZ (.sl false v) (sub l a b)) [x];rw [Ve,hv,qT];have Cr:(List.map (Ty.kZ v) (sub l a b)).length=(b-a).toNat:=by rw [Jk,hlen];omega
  refine ⟨_,cap-a.toNat,by simp only [jz];rw [Cr],by rw [Cr];omega,by omega,fun vI=>?_⟩;have Cm:0 < (b-a).toNat:=by
   rw [<-Cr];exact Z3u.2 vI
  rcases wC with ⟨_,hl,_⟩ | ⟨bk,off,c,ee,ha,zH,zQ,qK,WW⟩
  ·rw [hl] at JW;simp at JW;omega
  ·subst ha;refine ⟨bk,off+a.toNat*v.size,c,ee,(0,0),?_,LR zH,zQ,?_,fun i hi=>?_⟩
   ·rw [qQ (by omega)];simp only [Z2o,Addr.add];split
    ·rename_i hz;rw [hz];simp
    ·rfl
   ·rw [Cr,Ty.qH];have:(b-a).toNat+a.toNat<=cap:=by omega
    have:=kj v.size this;rw [wz] at this;omega
   ·have Jd:i < (sub l a b).length:=by simpa using hi
    have AX:a.toNat+i < l.length:=by omega
    have he:=zC.freeze (QU w g) (o:=some (id,[]++[Step.idx ((a.toNat+i:Nat):Int)])) (ZW w g id _) (WW (a.toNat+i) AX);rw [HV,Np];have hg:=Vf l a b i Jd AX;rw [HV] at hg;rw [hg,Ty.qH];have e:off+a.toNat*v.size+i*v.size=off+(a.toNat+i)*v.size:=by rw [wz];omega
    rw [e]
    exact he
 | n+1,.zu id p,t,k,r,cs,zR,h=>by
  cases t with
  | ptr t=>
   simp only [asData] at h;obtain ⟨a,a',off,c,e,ho,hk,ju,hc,ht,qK,Qi,_⟩:=Z9 hh h;obtain ⟨d,hd,qv,zX⟩:=kf hh n Qi hk;obtain ⟨v,rfl,_,hv⟩:=zR;obtain ⟨Vz,s,wD,rfl⟩:=hv _ ho;rw [ju] at wD;simp only [zI,gB] at wD;obtain ⟨rfl,_⟩:=wD;have hl:=zX.len;rw [yV (by rw [vX];exact qK)] at hl;refine ⟨d,hd,qv,?_⟩
   exact ⟨g.zt id,off,c,e,(0,0),rfl,by rcases ht with ht | ht <;> simp [B4,ht],hc,by omega,by rw [<-hl];exact zX⟩
  | _=>simp [asData] at h
 | n+1,.vW id p ep,t,k,r,cs,zR,h=>by
  cases t with
  | ptr t=>
   simp only [asData] at h;obtain ⟨v,rfl,_,hv⟩:=zR;have zg:∃ t l,J.z6 id=some (.row t l ep):=by
    unfold p6 at h;split at h
    ·rename_i t l e ho
     cases hb:Nat.beq e ep with
     | false=>rw [hb] at h;simp at h
     | true=>exact ⟨t,l,by rw [ho,zE hb]⟩
    ·simp at h
   obtain ⟨t0,l0,Co⟩:=zg;obtain ⟨hp,b0,yB,gy,jb⟩:=(hv _ _ _ Co).2 rfl;obtain ⟨t1,l1,u,e,b,off,c,ee,ho,qv,hk,hu,kz,_,zH,zQ,qK,zX⟩:=uJ hh hp h;rw [Co] at ho;simp only [zI,Obj.row.injEq] at ho;obtain ⟨rfl,_,_⟩:=ho;rw [gy] at kz;simp only [zI,gB] at kz;obtain ⟨rfl,rfl⟩:=kz;obtain ⟨rfl,hk⟩:=qS hk;refine ⟨_,hk,by simp only [Ty.zV];exact Ty.kX u,?_⟩;have hf:=zC.freeze (QU w g) (o:=none) trivial zX
   exact ⟨b0,yB,c,ee,(0,0),by rw [jb],LR zH,zQ,by rw [Ty.qH];exact qK,by rw [Ty.qH];exact hf⟩
  | _=>simp [asData] at h
 | n+1,.yG f c,t,k,r,cs,zR,h=>by
  cases t with
  | fn gid t=>
   simp only [asData] at h
   cases hb:Nat.beq f gid with
   | false=>rw [hb] at h;simp at h
   | true=>
    rw [hb] at h;have he:f=gid:=zE hb;subst he;obtain ⟨vs,rfl,hc⟩:=zR;obtain ⟨d,hd,qv,zX⟩:=kf hh n hc h
    exact ⟨d,hd,qv,vs,rfl,zX⟩
  | _=>simp [asData] at h
 | n+1,.agg c,t,k,r,cs,zR,h=>by
  simp only [asData] at h
  exact kf hh n (a:=c) zR h
 | n+1,.pr a b,t,k,r,cs,zR,h=>by
  cases t with
  | pair t u=>
   simp only [asData] at h;obtain ⟨c1,c2,rfl,h1,h2⟩:=zR;obtain ⟨x,hx,OB,zkg⟩:=kf hh n h1 h;obtain ⟨y,hy,hry,zkf⟩:=kf hh n h2 hx
   exact ⟨(x,y),hy,by simp [Ty.zV,OB,hry],c1,c2,rfl,zkg,zkf⟩
  | _=>simp [asData] at h
 | n+1,.un,t,k,r,cs,zR,h=>by
  cases t with
  | unit=>
   simp only [asData] at h
   exact ⟨(),h,rfl,zR⟩
  | _=>simp [asData] at h
 | n+1,.qA _,t,k,r,cs,zR,h=>by cases t <;> simp [asData] at h
 | n+1,.nv true _ _ _,t,k,r,cs,zR,h=>by cases t <;> simp [asData] at h
 | n+1,.nv false id p ep,t,k,r,cs,zR,h=>by
  simp only [asData] at h;obtain ⟨t0,l0,e,i,v,l,ho,FB,zX,h,_,_⟩:=Pq hh h;obtain ⟨_,h,gS,WZ⟩:=vV h (Ty.kX _);obtain ⟨x,rfl,_,hx⟩:=zR;have Gd:=((hx _ _ _ _ _ ho).2 FB).1 rfl;refine ⟨_,h,gS,WZ _ _ _ ?_⟩;have:=zC.freeze (QU w g) (o:=some (id,p)) (ZW w g id p) zX;rw [Gd]
  exact this
 | n+1,.jC _,t,k,r,cs,zR,h=>zR.elim
end Go.Kz
namespace Go.Kz
variable {R:Type}
section
variable {P:Program} {o:Oper} {a:Act} {w:World} {K:Act->World->Prop} {Q:Exit->Act->World->Prop} {c:Ctx} {J:St} {g:z8} {k:St->Option R} {r:R} {base:Nat}
theorem gg {f:z7->Option R} {s:Sem Value} (hf:f=fun v=>J.qe c o.dst v k) (hs:Plain f r s P)
  (zb:∀ w v,s.run P w = .ok v w->(execOp a.eval o).run P w = .ok (.value v) w):vN P o a w g J c k r:=by
 subst hf;obtain ⟨av,v,h1,h2,h3,h4⟩:=hs.out;exact Zi (fun w' _=>zb w' v (h2 w')) (h4 _ _ _) (fun m _=>by rw [h3];simp) h1
theorem DN (d:Nat) {T:TypeId} (hT:P.underlying T=some .bool) (x y:Bool) (w:World):(Op.equalIn (d+1) T (.bool x) (.bool y)).run P w = .ok (x == y) w:=by
 have hu:=run_underlying hT w;rw [Op.equalIn];rw [Sem.run_bind,hu];rfl
theorem Is {T:TypeId} (hT:P.underlying T=some .bool) (x y:Bool) (w:World):(Op.equal T (.bool x) (.bool y)).run P w = .ok (x == y) w:=
 DN 9999 hT x y w
theorem SH (kp:gP P c.tt) {op:BinOp} {t t':TypeId} {x y:Operand}
  (hS:∀ ax ay,ev J x=some ax->ev J y=some ay->∀ u,c.tt t=some u->
   cond (c.eqs t && yJ u && ax.val && ay.val) (asData J 20 ax u fun d=>asData J 20 ay u fun e=>z1a op (PS u d e) fun v=>J.qe c o.dst v k) none=some r->vN P o a w g J c k r)
  (ho:o.op = .binOp op t x y t') (zq:zK c.ntmps g w a J) (h:y9 c J base o k=some r):vN P o a w g J c k r:=by
 simp only [y9,ho] at h;split at h
 ·rename_i ax ay hx hy;have ex:=(qG zq hx).1;have ey:=(qG zq hy).1;unfold zme at h;split at h
  ·rename_i kx nx ky ny;obtain ⟨vx,bx⟩:=jF ex;obtain ⟨vy,_⟩:=jF ey
   cases hs:Pj op with
   | true=>
    rw [hs] at h
    exact gg rfl (EN (P:=P) (j:=ky) bx t h) (fun w v hv=>by simp [execOp,ho,vx,vy,eqGuard,hv])
   | false=>
    rw [hs] at h;simp only [zW] at h;split at h
    ·rename_i hk _;subst hk;exact gg rfl (R0 (P:=P) bx t hs h) (fun w v hv=>by simp [execOp,ho,vx,vy,eqGuard,hv])
    ·simp at h
  ·rename_i bx by';have vx:=ua ex;have vy:=ua ey;split at h
   ·rename_i htb;have hT:=kp _ _ htb;simp only [qq] at hT;have hu:=Is hT.1 bx by';refine gg (f:=fun v=>J.qe c o.dst v k) (s:=binOp op t (.bool bx) (.bool by')) rfl ?_ (fun w v hv=>by simp [execOp,ho,vx,vy,eqGuard,hv]);cases op <;> simp only [Nz] at h
    case eql=>exact Plain.bool h (fun w=>by simp only [binOp,Sem.run_bind,hu,Result.andThen_ok,Sem.run_pure])
    case neq=>exact Plain.bool h (fun w=>by simp only [binOp,Sem.run_bind,hu,Result.andThen_ok,Sem.run_pure])
    all_goals simp at h
   ·simp at h
  ·rename_i lx ly;obtain ⟨sx,vx,rfl,_⟩:=Kw ex;obtain ⟨sy,vy,rfl,_⟩:=Kw ey;exact gg rfl (Ot (P:=P) t h) (fun w v hv=>by simp [execOp,ho,vx,vy,eqGuard,hv])
  ·split at h
   ·rename_i u Qe;exact hS ax ay hx hy u Qe h
   ·simp at h
 ·simp at h
theorem z5p {op:UnOp} {t:TypeId} {x:Operand} (ho:o.op = .unOp op t x) (zq:zK c.ntmps g w a J) (h:y9 c J base o k=some r):vN P o a w g J c k r:=by
 simp only [y9,ho] at h;split at h
 ·rename_i ax hx;have ex:=(qG zq hx).1;unfold unK at h;split at h
  ·have vx:=ua ex;exact gg rfl (Plain.bool (s:=Op.unary .not (a.eval x)) h (fun _=>by simp [vx,Op.unary])) (fun w v hv=>by simp [execOp,ho,hv])
  ·rename_i kx nx;obtain ⟨vx,bx⟩:=jF ex;exact gg rfl (Plain.int (s:=Op.unary .neg (a.eval x)) h (fun _=>by simp [vx,Op.unary,Op.intArith]) (vB _ _)) (fun w v hv=>by simp [execOp,ho,hv])
  ·rename_i kx nx;obtain ⟨vx,bx⟩:=jF ex;exact gg rfl (Plain.int (s:=Op.unary .xor (a.eval x)) h (fun _=>by simp [vx,Op.unary,Op.intBits]) (vB _ _)) (fun w v hv=>by simp [execOp,ho,hv])
  ·simp at h
 ·simp at h
theorem Ip (kp:gP P c.tt) {t t':TypeId} {x:Operand} (ho:o.op = .convert t t' x) (zq:zK c.ntmps g w a J) (h:y9 c J base o k=some r):vN P o a w g J c k r:=by
 simp only [y9,ho] at h;split at h
 ·rename_i k0 j k1 kd hx ht ht';have ex:=(qG zq hx).1;obtain ⟨vx,bx⟩:=jF ex;have h1:=kp _ _ ht;have h2:=kp _ _ ht';simp only [qq] at h1 h2;have u1:=fun w=>run_underlying (P:=P) (w:=w) h1.1
  have u2:=fun w=>run_underlying (P:=P) (w:=w) h2.1
  exact gg (f:=fun v=>J.qe c o.dst v k) rfl (Plain.int (s:=convert t t' (a.eval x)) h (fun w=>by simp [vx,convert,u1,u2,Conv.intToInt]) (vB _ _)) (fun w v hv=>by simp [execOp,ho,hv])
 ·simp at h
theorem V2 {z6:qk}:{ac:z7}->{vs:List Value}->{i:Nat}->{av:z7}->qj w g z6 ac vs->j9 ac i=some av->
  ∃ v,vs[i]? = some v/\zl w g z6 av v/\∀ m,m∉ac.ids->m∉av.ids
 | .pr x y,vs,0,av,h,ht=>by
  simp only [qj] at h;obtain ⟨v,rest,rfl,h1,h2⟩:=h;simp only [j9,zI] at ht;subst ht
  exact ⟨v,rfl,h1,fun m hm=>by simp [z7.ids] at hm;exact hm.1⟩
 | .pr x y,vs,i+1,av,h,ht=>by
  simp only [qj] at h;obtain ⟨v,rest,rfl,h1,h2⟩:=h;simp only [j9] at ht;obtain ⟨v',jb,h3,h4⟩:=V2 h2 ht
  exact ⟨v',by simpa using jb,h3,fun m hm=>h4 m (by simp [z7.ids] at hm;exact hm.2)⟩
 | .un,_,_,_,_,ht=>by simp [j9] at ht
 | .data _ _,_,_,_,_,ht=>by simp [j9] at ht
 | .qy,_,_,_,_,ht=>by simp [j9] at ht
 | .ref _ _ _,_,_,_,_,ht=>by simp [j9] at ht
 | .view _ _ _ _ _,_,_,_,_,ht=>by simp [j9] at ht
 | .zu _ _,_,_,_,_,ht=>by simp [j9] at ht
 | .vW _ _ _,_,_,_,_,ht=>by simp [j9] at ht
 | .qA _,_,_,_,_,ht=>by simp [j9] at ht
 | .nv _ _ _ _,_,_,_,_,ht=>by simp [j9] at ht
 | .yG _ _,_,_,_,_,ht=>by simp [j9] at ht
 | .agg _,_,_,_,_,ht=>by simp [j9] at ht
 | .jC _,_,_,_,_,ht=>by simp [j9] at ht
theorem Ig {x:Operand} {i:Nat} (ho:o.op = .extract x i) (zq:zK c.ntmps g w a J) (h:y9 c J base o k=some r):vN P o a w g J c k r:=by
 simp only [y9,ho] at h;split at h
 ·rename_i ac hx;obtain ⟨ex,ef⟩:=qG zq hx;simp only [zl] at ex;obtain ⟨vs,hv,KZ⟩:=ex;split at h
  ·rename_i av Gr;obtain ⟨v,h1,h2,h3⟩:=V2 KZ Gr;refine Zi (v:=v) ?_ h2 (fun m hm=>h3 m (by have:=ef m hm;simpa [z7.ids] using this)) h;intro w' _;simp [execOp,ho,hv,Instr.extract,h1]
  ·simp at h
 ·simp at h
theorem Zd {z6:qk}:{ac:z7}->{vs:List Value}->qh ac=true->qj w g z6 ac vs->jV w g z6 ac vs
 | .un,vs,_,h=>by simp only [qj] at h;exact h
 | .pr (.zu id p) y,vs,hp,h=>by
  simp only [qj] at h;obtain ⟨v,rest,rfl,h1,h2⟩:=h;simp only [zl] at h1;obtain ⟨cs,h1,hv⟩:=h1;have MY:=h1;obtain ⟨x,rfl,_⟩:=h1;have jb:v=x:=hv;subst jb
  exact ⟨[v],rest,rfl,MY,Zd (by simpa [qh] using hp) h2⟩
 | .pr (.data (.ptr t) d) y,vs,hp,h=>by
  simp only [qj] at h;obtain ⟨v,rest,rfl,h1,h2⟩:=h;simp only [zl] at h1;obtain ⟨cs,h1,hv⟩:=h1;have MY:=h1;obtain ⟨_,b,off,c,e,fz,rfl,_⟩:=h1;have jb:v = .pointer (some ⟨b,off,none⟩):=hv;subst jb
  exact ⟨_,rest,rfl,MY,Zd (by simpa [qh] using hp) h2⟩
 | .data _ _,_,hp,_=>by simp [qh] at hp
 | .qy,_,hp,_=>by simp [qh] at hp
 | .ref _ _ _,_,hp,_=>by simp [qh] at hp
 | .view _ _ _ _ _,_,hp,_=>by simp [qh] at hp
 | .zu _ _,_,hp,_=>by simp [qh] at hp
 | .vW _ _ _,_,hp,_=>by simp [qh] at hp
 | .qA _,_,hp,_=>by simp [qh] at hp
 | .nv _ _ _ _,_,hp,_=>by simp [qh] at hp
 | .yG _ _,_,hp,_=>by simp [qh] at hp
 | .agg _,_,hp,_=>by simp [qh] at hp
 | .jC _,_,hp,_=>by simp [qh] at hp
 | .pr (.data (.int _) _) _,_,hp,_=>by simp [qh] at hp
 | .pr (.data .bool _) _,_,hp,_=>by simp [qh] at hp
 | .pr (.data .str _) _,_,hp,_=>by simp [qh] at hp
 | .pr (.data .unit _) _,_,hp,_=>by simp [qh] at hp
 | .pr (.data (.pair _ _) _) _,_,hp,_=>by simp [qh] at hp
 | .pr (.data (.arr _ _) _) _,_,hp,_=>by simp [qh] at hp
 | .pr (.data (.sl _ _) _) _,_,hp,_=>by simp [qh] at hp
 | .pr (.data (.fn _ _) _) _,_,hp,_=>by simp [qh] at hp
 | .pr (.data (.tree _) _) _,_,hp,_=>by simp [qh] at hp
 | .pr .qy _,_,hp,_=>by simp [qh] at hp
 | .pr (.ref _ _ _) _,_,hp,_=>by simp [qh] at hp
 | .pr (.view _ _ _ _ _) _,_,hp,_=>by simp [qh] at hp
 | .pr (.vW _ _ _) _,_,hp,_=>by simp [qh] at hp
 | .pr (.qA _) _,_,hp,_=>by simp [qh] at hp
 | .pr (.nv _ _ _ _) _,_,hp,_=>by simp [qh] at hp
 | .pr (.yG _ _) _,_,hp,_=>by simp [qh] at hp
 | .pr (.agg _) _,_,hp,_=>by simp [qh] at hp
 | .pr (.jC _) _,_,hp,_=>by simp [qh] at hp
 | .pr (.pr _ _) _,_,hp,_=>by simp [qh] at hp
 | .pr .un _,_,hp,_=>by simp [qh] at hp
theorem Er {f:FuncId} {first cap:Array Operand} (ho:o.op = .makeFunc (.func f) first cap) (zq:zK c.ntmps g w a J) (h:y9 c J base o k=some r):vN P o a w g J c k r:=by
 simp only [y9,ho] at h;split at h
 ·rename_i zew;split at h
  ·rename_i ac hac;obtain ⟨ex,ef⟩:=VU zq hac
   cases hp:qh ac with
   | false=>rw [hp] at h;simp at h
   | true=>
    rw [hp] at h;have vL:=Zd hp ex;have hf0:first = #[]:=by
     apply Dr.1;simpa using zew
    refine Zi (v:=.func (.func f) #[] (cap.toList.map a.eval).toArray) ?_ ?_ (fun m hm=>by simpa [z7.ids] using ef m hm) h
    ·intro w' _;simp [execOp,ho,Instr.makeFunc,hf0,<-Z52]
    ·simp only [zl];exact ⟨_,⟨_,rfl,vL⟩,rfl⟩
  ·simp at h
 ·simp at h
theorem E3 {z6:qk} {av:z7} {v:Value} (hp:Tp av=true) (h:zl w g z6 av v) :
  (∃ t d b off c e fz,av = .data (.ptr t) d/\v = .pointer (some ⟨b,off,none⟩)/\t.zV=true/\g.tag b = .ro/\w.heap[b]? = some (.cells c e fz)/\off+t.size<=c.size/\zC w g none t d (qB c.toList off t.size))\/
  (∃ id p,av = .zu id p/\∀ x,z6 id=some (.cell x)->∃ off s,x.sk.off p=some (off,s)/\v = .pointer (some ⟨g.zt id,off,none⟩))\/
  (∃ id p ep,av = .vW id p ep/\∀ t l e,z6 id=some (.row t l e)->ep<=e/\(e=ep->p≠[]/\∃ b off,place g id (.sl true t) [] 0 0 p=some (b,off)/\v = .pointer (some ⟨b,off,none⟩))):=by
 cases av with
 | zu id p=>
  simp only [zl] at h;obtain ⟨cs,⟨x,rfl,_,hx⟩,hv⟩:=h;have jb:v=x:=hv;subst jb
  exact .inr (.inl ⟨id,p,rfl,hx⟩)
 | vW id p ep=>
  simp only [zl] at h;obtain ⟨cs,⟨x,rfl,_,hx⟩,hv⟩:=h;have jb:v=x:=hv;subst jb
  exact .inr (.inr ⟨id,p,ep,rfl,hx⟩)
 | data t d=>
  cases t with
  | ptr t=>
   simp only [zl] at h;obtain ⟨cs,⟨qv,b,off,c,e,fz,rfl,h1,h2,h3,h4⟩,hv⟩:=h
   exact .inl ⟨t,d,b,off,c,e,fz,rfl,hv,by simpa [Ty.zV] using qv,h1,h2,h3,h4⟩
  | _=>simp [Tp] at hp
 | _=>simp [Tp] at hp
theorem En {x:Operand} (ho:o.op = .nilCheck x) (zq:zK c.ntmps g w a J) (h:y9 c J base o k=some r):vN P o a w g J c k r:=by
 simp only [y9,ho] at h;split at h
 ·rename_i av Gr;obtain ⟨ex,ef⟩:=qG zq Gr
  cases hp:holds J av with
  | false=>rw [hp] at h;simp at h
  | true=>
   rw [hp] at h;simp only [zD] at h;have hv:∃ ad,a.eval x = .pointer (some ad):=by
    unfold holds at hp;split at hp
    ·rcases E3 rfl ex with ⟨t,d,b,off,cc,e,fz,h1,h2,_⟩ | ⟨_,_,h1,_⟩ | ⟨_,_,_,h1,_⟩
     ·exact ⟨_,h2⟩
     ·simp at h1
     ·simp at h1
    ·rcases E3 rfl ex with ⟨t,d,b,off,cc,e,fz,h1,h2,_⟩ | ⟨_,_,h1,h2⟩ | ⟨_,_,_,h1,_⟩
     ·simp at h1
     ·simp only [z7.zu.injEq] at h1;obtain ⟨rfl,rfl⟩:=h1;split at hp
      ·rename_i xx hxx;obtain ⟨off,s,_,hv⟩:=h2 _ hxx;exact ⟨_,hv⟩
      ·simp at hp
     ·simp at h1
    ·rcases E3 rfl ex with ⟨t,d,b,off,cc,e,fz,h1,h2,_⟩ | ⟨_,_,h1,h2⟩ | ⟨_,_,_,h1,h2⟩
     ·simp at h1
     ·simp at h1
     ·simp only [z7.vW.injEq] at h1;obtain ⟨rfl,rfl,rfl⟩:=h1;split at hp
      ·rename_i t l e hxx;obtain ⟨_,h3⟩:=h2 _ _ _ hxx;obtain ⟨_,b,off,_,hv⟩:=h3 (zE hp);exact ⟨_,hv⟩
      ·simp at hp
    ·simp only [zl] at ex;obtain ⟨cs,⟨y,rfl,_,hx⟩,hv⟩:=ex;split at hp
     ·rename_i t l e i hxx;obtain ⟨_,h3⟩:=hx _ _ _ _ _ hxx;obtain ⟨_,b,off,_,uc⟩:=(h3 (zE hp)).2 rfl;exact ⟨_,hv.trans uc⟩
     ·simp at hp
    ·simp at hp
   obtain ⟨ad,hv⟩:=hv;exact Zi (v:=a.eval x) (fun _ _=>by simp [execOp,ho,hv]) ex ef h
 ·simp at h
theorem Qr {z6:qk} {gf:Int->Int->Int} {b2:Value->Value->Sem Value} {kd:IntKind} (hb:∀ w x y,(b2 (.int kd x) (.int kd y)).run P w = .ok (.int kd (gf x y)) w)
  (hg:∀ x y,gf x y=x\/gf x y=y):{ac:z7}->{vs:List Value}->{x:Int}->{f:Int->Option R}->qj w g z6 ac vs->kd.min<=x/\x<=kd.max->zr gf kd x ac f=some r->
  ∃ z,f z=some r/\kd.min<=z/\z<=kd.max/\∀ w,(vs.foldlM b2 (.int kd x)).run P w = .ok (.int kd z) w
 | .un,vs,x,f,hv,hx,h=>by
  simp only [qj] at hv;subst hv
  exact ⟨x,h,hx.1,hx.2,fun _=>by simp [List.foldlM]⟩
 | .pr (.data (.int j) y) ac,vs,x,f,hv,hx,h=>by
  simp only [qj] at hv;obtain ⟨v,rest,rfl,h1,h2⟩:=hv;obtain ⟨rfl,hy⟩:=jF h1;simp only [zr] at h;split at h
  ·rename_i hk _;subst hk;have hz:kd.min<=gf x y/\gf x y<=kd.max:=by
    rcases hg x y with e | e <;> rw [e]
    ·exact hx
    ·exact hy
   obtain ⟨z,hf,z1,z2,zb⟩:=Qr hb hg h2 hz h;refine ⟨z,hf,z1,z2,fun w=>?_⟩;simp only [List.foldlM_cons,Sem.run_bind,hb,Result.andThen_ok];exact zb w
  ·simp at h
 | .data _ _,_,_,_,_,_,h=>by simp [zr] at h
 | .qy,_,_,_,_,_,h=>by simp [zr] at h
 | .ref _ _ _,_,_,_,_,_,h=>by simp [zr] at h
 | .view _ _ _ _ _,_,_,_,_,_,h=>by simp [zr] at h
 | .zu _ _,_,_,_,_,_,h=>by simp [zr] at h
 | .vW _ _ _,_,_,_,_,_,h=>by simp [zr] at h
 | .qA _,_,_,_,_,_,h=>by simp [zr] at h
 | .nv _ _ _ _,_,_,_,_,_,h=>by simp [zr] at h
 | .yG _ _,_,_,_,_,_,h=>by simp [zr] at h
 | .agg _,_,_,_,_,_,h=>by simp [zr] at h
 | .jC _,_,_,_,_,_,h=>by simp [zr] at h
 | .pr (.data .bool _) _,_,_,_,_,_,h=>by simp [zr] at h
 | .pr (.data .str _) _,_,_,_,_,_,h=>by simp [zr] at h
 | .pr (.data .unit _) _,_,_,_,_,_,h=>by simp [zr] at h
 | .pr (.data (.pair _ _) _) _,_,_,_,_,_,h=>by simp [zr] at h
 | .pr (.data (.arr _ _) _) _,_,_,_,_,_,h=>by simp [zr] at h
 | .pr (.data (.sl _ _) _) _,_,_,_,_,_,h=>by simp [zr] at h
 | .pr (.data (.ptr _) _) _,_,_,_,_,_,h=>by simp [zr] at h
 | .pr (.data (.fn _ _) _) _,_,_,_,_,_,h=>by simp [zr] at h
 | .pr (.data (.tree _) _) _,_,_,_,_,_,h=>by simp [zr] at h
 | .pr .qy _,_,_,_,_,_,h=>by simp [zr] at h
 | .pr (.ref _ _ _) _,_,_,_,_,_,h=>by simp [zr] at h
 | .pr (.view _ _ _ _ _) _,_,_,_,_,_,h=>by simp [zr] at h
 | .pr (.zu _ _) _,_,_,_,_,_,h=>by simp [zr] at h
 | .pr (.vW _ _ _) _,_,_,_,_,_,h=>by simp [zr] at h
 | .pr (.qA _) _,_,_,_,_,_,h=>by simp [zr] at h
 | .pr (.nv _ _ _ _) _,_,_,_,_,_,h=>by simp [zr] at h
 | .pr (.yG _ _) _,_,_,_,_,_,h=>by simp [zr] at h
 | .pr (.agg _) _,_,_,_,_,_,h=>by simp [zr] at h
 | .pr (.jC _) _,_,_,_,_,_,h=>by simp [zr] at h
 | .pr (.pr _ _) _,_,_,_,_,_,h=>by simp [zr] at h
 | .pr .un _,_,_,_,_,_,h=>by simp [zr] at h
theorem zd6 {args:Array Operand} {ts:Array TypeId} (ho:o.op = .call { callee:=.builtin .max,args:=args,argTypes:=ts }) (zq:zK c.ntmps g w a J) (h:y9 c J base o k=some r):vN P o a w g J c k r:=by
 simp only [y9,ho] at h;split at h
 ·rename_i kd x ac hx;obtain ⟨ex,_⟩:=VU zq hx;simp only [qj] at ex;obtain ⟨v,rest,KZ,h1,h2⟩:=ex;obtain ⟨rfl,hb⟩:=jF h1;obtain ⟨z,hz,z1,z2,zb⟩:=Qr (P:=P) (b2:=Builtin.max2) (fun w x y=>by simp [Builtin.max2,xW]) (fun x y=>by unfold xW;split <;> simp) h2 hb h;refine Zi (v:=.int kd z) ?_ (jl ⟨z1,z2⟩) (fun m _=>by simp [z7.ids]) hz;intro w' _;have e:(args.map a.eval).toList = .int kd x :: rest:=by rw [Z2u];exact KZ
  simp only [execOp,ho,resolve,Sem.run_bind,Sem.run_pure,Result.andThen_ok,invoke,builtin,Builtin.max_,e,zb]
 ·simp at h
theorem zd5 {args:Array Operand} {ts:Array TypeId} (ho:o.op = .call { callee:=.builtin .min,args:=args,argTypes:=ts }) (zq:zK c.ntmps g w a J) (h:y9 c J base o k=some r):vN P o a w g J c k r:=by
 simp only [y9,ho] at h;split at h
 ·rename_i kd x ac hx;obtain ⟨ex,_⟩:=VU zq hx;simp only [qj] at ex;obtain ⟨v,rest,KZ,h1,h2⟩:=ex;obtain ⟨rfl,hb⟩:=jF h1;obtain ⟨z,hz,z1,z2,zb⟩:=Qr (P:=P) (b2:=Builtin.min2) (fun w x y=>by simp [Builtin.min2,uy]) (fun x y=>by unfold uy;split <;> simp) h2 hb h;refine Zi (v:=.int kd z) ?_ (jl ⟨z1,z2⟩) (fun m _=>by simp [z7.ids]) hz;intro w' _;have e:(args.map a.eval).toList = .int kd x :: rest:=by rw [Z2u];exact KZ
  simp only [execOp,ho,resolve,Sem.run_bind,Sem.run_pure,Result.andThen_ok,invoke,builtin,Builtin.min_,e,zb]
 ·simp at h
end
end Go.Kz
