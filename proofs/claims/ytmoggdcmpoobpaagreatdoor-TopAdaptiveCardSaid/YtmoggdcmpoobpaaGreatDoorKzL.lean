/-
  Parts of abstract values in cells: read, replaced; states.
-/
import Derived.Test.YtmoggdcmpoobpaaGreatDoorKzE
set_option linter.unusedVariables false
set_option linter.unusedSimpArgs false
namespace Go.Kz
variable {R:Type}
theorem ZL {w:World} {g:z8} {z6:qp}:{a:z7}->{p:Path}->{k:z7->Option R}->{r:R}->{cs:List Value}->
  jK w g z6 a cs->xg a p k=some r->
  ∃ a' off,k a'=some r/\a.sk.off p=some (off,a'.sk)/\jK w g z6 a' (qS cs off a'.sk.size)/\∀ m,m∉a.ids->m∉a'.ids
 | a,[],k,r,cs,zS,h=>by
  have hk:k a=some r:=by cases a <;> simpa [xg] using h
  exact ⟨a,0,hk,by simp [Sk.off],by rw [<-zS.len,kr];exact zS,fun m hm=>hm⟩
 | .agg c,s :: p,k,r,cs,zS,h=>by
  simp only [xg] at h
  exact ZL (a:=c) (show jK w g z6 c cs from zS) h
 | .pr a b,.fst :: p,k,r,cs,zS,h=>by
  simp only [xg] at h;obtain ⟨c1,c2,rfl,h1,h2⟩:=zS;obtain ⟨a',off,hk,ho,hr,hi⟩:=ZL h1 h;have:=Sk.wi ho;refine ⟨a',off,hk,by simpa [z7.sk,Sk.off] using ho,?_,fun m hm=>hi m (by simp [z7.ids] at hm;exact hm.1)⟩
  rw [qi _ _ _ _ (by rw [h1.len];exact this)];exact hr
 | .pr a b,.snd :: p,k,r,cs,zS,h=>by
  simp only [xg] at h;obtain ⟨c1,c2,rfl,h1,h2⟩:=zS;obtain ⟨a',off,hk,ho,hr,hi⟩:=ZL h2 h;refine ⟨a',a.sk.size+off,hk,by simp [z7.sk,Sk.off,ho],?_,fun m hm=>hi m (by simp [z7.ids] at hm;exact hm.2)⟩
  rw [yZ _ _ _ _ _ h1.len.symm];exact hr
 | .data t d,s :: p,k,r,cs,zS,h=>by
  have h':zb t d (s :: p) (fun u e=>k (.data u e))=some r:=by cases s <;> simpa [xg] using h
  obtain ⟨u,e,off,hk,hu,ho,hr⟩:=ZH zS.1 zS.2 h'
  exact ⟨.data u e,off,hk,by simpa [z7.sk] using ho,⟨hu,by simpa [z7.sk,Ty.zQ] using hr⟩,fun m _=>by simp [z7.ids]⟩
 | .qD,s :: _,_,_,_,_,h=>by cases s <;> simp [xg] at h
 | .ref _ _ _,s :: _,_,_,_,_,h=>by cases s <;> simp [xg] at h
 | .view _ _ _ _ _,s :: _,_,_,_,_,h=>by cases s <;> simp [xg] at h
 | .zq _ _,s :: _,_,_,_,_,h=>by cases s <;> simp [xg] at h
 | .vA _ _ _,s :: _,_,_,_,_,h=>by cases s <;> simp [xg] at h
 | .qz _,s :: _,_,_,_,_,h=>by cases s <;> simp [xg] at h
 | .nv _ _ _ _,s :: _,_,_,_,_,h=>by cases s <;> simp [xg] at h
 | .qd _ _,s :: _,_,_,_,_,h=>by cases s <;> simp [xg] at h
 | .jV _,s :: _,_,_,_,_,h=>by cases s <;> simp [xg] at h
 | .un,s :: _,_,_,_,_,h=>by cases s <;> simp [xg] at h
 | .pr _ _,.idx _ :: _,_,_,_,_,h=>by simp [xg] at h
theorem Zt {w:World} {g:z8} {z6:qp}:{t:Ty}->{d:t.den}->{cs:List Value}->t.zW=true->zH w g none t d cs->
  (j5 t d).sk=t.sk->jK w g z6 (j5 t d) cs
 | .pair a b,(x,y),cs,ht,h,hs=>by
  obtain ⟨c1,c2,rfl,h1,h2⟩:=h;simp only [Ty.zW,zA] at ht;simp only [j5,z7.sk,Ty.sk,Sk.pair.injEq,Vq] at hs
  exact ⟨c1,c2,rfl,⟨ht.1,h1⟩,Zt ht.2 h2 hs⟩
 | .unit,_,cs,_,h,_=>h
 | .int _,_,_,_,_,hs=>by simp [j5,z7.sk,Ty.sk] at hs
 | .bool,_,_,_,_,hs=>by simp [j5,z7.sk,Ty.sk] at hs
 | .str,_,_,_,_,hs=>by simp [j5,z7.sk,Ty.sk] at hs
 | .arr _ _,_,_,_,_,hs=>by simp [j5,z7.sk,Ty.sk] at hs
 | .sl _ _,_,_,_,_,hs=>by simp [j5,z7.sk,Ty.sk] at hs
 | .ptr _,_,_,_,_,hs=>by simp [j5,z7.sk,Ty.sk] at hs
 | .fn _ _,_,_,_,_,hs=>by simp [j5,z7.sk,Ty.sk] at hs
 | .tree _,_,_,_,_,hs=>by simp [j5,z7.sk,Ty.sk] at hs
theorem VS:(t:Ty)->(d:t.den)->(j5 t d).ids=[]
 | .pair a b,(x,y)=>by simp [j5,z7.ids,VS b y]
 | .int _,_=>by simp [j5,z7.ids]
 | .bool,_=>by simp [j5,z7.ids]
 | .str,_=>by simp [j5,z7.ids]
 | .unit,_=>by simp [j5,z7.ids]
 | .arr _ _,_=>by simp [j5,z7.ids]
 | .sl _ _,_=>by simp [j5,z7.ids]
 | .ptr _,_=>by simp [j5,z7.ids]
 | .fn _ _,_=>by simp [j5,z7.ids]
 | .tree _,_=>by simp [j5,z7.ids]
theorem VT (c1 c2 Cp:List Value) (h:Cp.length=c1.length):zD (c1++c2) 0 Cp=Cp++c2:=by
 simp only [zD,Ti,QP,Zf,h,List.drop_left]
theorem Q3 {w:World} {g:z8} {z6:qp} {new:z7} {Cp:List Value} (hn:jK w g z6 new Cp) :
  {t:Ty}->{d:t.den}->{p:Path}->{k:z7->Option R}->{r:R}->{cs:List Value}->{off:Nat}->
  t.zW=true->zH w g none t d cs->t.sk.off p=some (off,new.sk)->jy new t d p k=some r->
  ∃ u,k u=some r/\(∀ m,m∉new.ids->m∉u.ids)/\(u.sk=t.sk->jK w g z6 u (zD cs off Cp))
 | .pair a b,(x,y),[.fst],k,r,cs,off,ht,h,ho,hk=>by
  obtain ⟨c1,c2,rfl,h1,h2⟩:=h;simp only [Ty.zW,zA] at ht;simp only [Ty.sk,Sk.off,zI,gP] at ho;obtain ⟨rfl,hs⟩:=ho;refine ⟨_,hk,fun m hm=>by simp [z7.ids,VS,hm],fun he=>?_⟩;simp only [z7.sk,Ty.sk,Sk.pair.injEq] at he;rw [VT _ _ _ (by rw [hn.len,h1.len,<-hs,Ty.zQ])]
  exact ⟨Cp,c2,rfl,hn,Zt ht.2 h2 he.2⟩
 | .pair a b,(x,y),.fst :: s :: p,k,r,cs,off,ht,h,ho,hk=>by
  obtain ⟨c1,c2,rfl,h1,h2⟩:=h;simp only [Ty.zW,zA] at ht;simp only [Ty.sk,Sk.off] at ho;simp only [jy] at hk;obtain ⟨u,hu,hi,zS⟩:=Q3 hn ht.1 h1 ho hk;refine ⟨_,hu,fun m hm=>by simp [z7.ids,VS,hi m hm],fun he=>?_⟩;simp only [z7.sk,Ty.sk,Sk.pair.injEq] at he;have:=Sk.wi ho;rw [Ty.zQ] at this;rw [w9 _ _ _ _ (by rw [h1.len,hn.len];exact this)]
  exact ⟨_,c2,rfl,zS he.1,Zt ht.2 h2 he.2⟩
 | .pair a b,(x,y),.snd :: p,k,r,cs,off,ht,h,ho,hk=>by
  obtain ⟨c1,c2,rfl,h1,h2⟩:=h;simp only [Ty.zW,zA] at ht;simp only [Ty.sk,Sk.off,wU,gP] at ho;obtain ⟨⟨o,s⟩,ho,rfl,rfl⟩:=ho;have Bi:jy new b y p (fun u=>k (.pr (.data a x) u))=some r:=by simpa [jy] using hk
  obtain ⟨u,hu,hi,zS⟩:=Q3 hn ht.2 h2 ho Bi;refine ⟨_,hu,fun m hm=>by simp [z7.ids,hi m hm],fun he=>?_⟩;simp only [z7.sk,Ty.sk,Sk.pair.injEq] at he;rw [vE _ _ _ _ _ (by rw [h1.len,Ty.zQ])]
  exact ⟨c1,_,rfl,⟨ht.1,h1⟩,zS he.2⟩
 | .pair _ _,_,[],_,_,_,_,_,_,_,hk=>by simp [jy] at hk
 | .pair _ _,_,.idx _ :: _,_,_,_,_,_,_,_,hk=>by simp [jy] at hk
 | .int _,_,_,_,_,_,_,_,_,_,hk=>by simp [jy] at hk
 | .bool,_,_,_,_,_,_,_,_,_,hk=>by simp [jy] at hk
 | .str,_,_,_,_,_,_,_,_,_,hk=>by simp [jy] at hk
 | .unit,_,_,_,_,_,_,_,_,_,hk=>by simp [jy] at hk
 | .arr _ _,_,_,_,_,_,_,_,_,_,hk=>by simp [jy] at hk
 | .sl _ _,_,_,_,_,_,_,_,_,_,hk=>by simp [jy] at hk
 | .ptr _,_,_,_,_,_,_,_,_,_,hk=>by simp [jy] at hk
 | .fn _ _,_,_,_,_,_,_,_,_,_,hk=>by simp [jy] at hk
 | .tree _,_,_,_,_,_,_,_,_,_,hk=>by simp [jy] at hk
theorem Y4 {w:World} {g:z8} {z6:qp} {new:z7} {Cp:List Value} (hn:jK w g z6 new Cp) :
  {a:z7}->{p:Path}->{k:z7->Option R}->{r:R}->{cs:List Value}->{off:Nat}->
  jK w g z6 a cs->a.sk.off p=some (off,new.sk)->x4 new a p k=some r->
  ∃ a',k a'=some r/\a'.sk=a.sk/\jK w g z6 a' (zD cs off Cp)/\∀ m,m∉a.ids->m∉new.ids->m∉a'.ids
 | a,[],k,r,cs,off,zS,ho,h=>by
  have hk:k new=some r:=by cases a <;> simpa [x4] using h
  simp only [Sk.off,zI,gP] at ho;obtain ⟨rfl,hs⟩:=ho;have:zD cs 0 Cp=Cp:=by
   simp only [zD,Ti,QP,Zf];rw [hn.len,<-hs,<-zS.len];simp
  exact ⟨new,hk,hs.symm,by rw [this];exact hn,fun m _ h=>h⟩
 | .agg c,s :: p,k,r,cs,off,zS,ho,h=>by
  simp only [x4] at h;obtain ⟨a',hk,hs,hr,hi⟩:=Y4 hn (a:=c) (show jK w g z6 c cs from zS) ho h
  exact ⟨.agg a',hk,hs,hr,hi⟩
 | .pr a b,.fst :: p,k,r,cs,off,zS,ho,h=>by
  simp only [x4] at h;obtain ⟨c1,c2,rfl,h1,h2⟩:=zS;have PK:a.sk.off p=some (off,new.sk):=by simpa [z7.sk,Sk.off] using ho
  obtain ⟨a',hk,hs,hr,hi⟩:=Y4 hn h1 PK h;have:=Sk.wi PK;refine ⟨.pr a' b,hk,by simp [z7.sk,hs],?_,fun m hm hn=>by simp [z7.ids] at hm ⊢;exact ⟨hi m hm.1 hn,hm.2⟩⟩;rw [w9 _ _ _ _ (by rw [h1.len,hn.len];exact this)]
  exact ⟨_,_,rfl,hr,h2⟩
 | .pr a b,.snd :: p,k,r,cs,off,zS,ho,h=>by
  simp only [x4] at h;obtain ⟨c1,c2,rfl,h1,h2⟩:=zS;simp only [z7.sk,Sk.off,wU,gP] at ho;obtain ⟨⟨o,s⟩,ho,rfl,rfl⟩:=ho;obtain ⟨a',hk,hs,hr,hi⟩:=Y4 hn h2 ho h;refine ⟨.pr a a',hk,by simp [z7.sk,hs],?_,fun m hm hn=>by simp [z7.ids] at hm ⊢;exact ⟨hm.1,hi m hm.2 hn⟩⟩;rw [vE _ _ _ _ _ h1.len.symm]
  exact ⟨_,_,rfl,h1,hr⟩
 | .data t d,s :: p,k,r,cs,off,zS,ho,h=>by
  have h':cond (Nk t (s :: p) new) (MD new t d (s :: p) k)
   (jy new t d (s :: p) fun u=>cond (u.sk.same t.sk) (k (.agg u)) none)=some r:=by cases s <;> simpa [x4] using h
  cases hf:Nk t (s :: p) new with
  | true=>
   rw [hf] at h'
   cases new with
   | data u e=>
    obtain ⟨d',YK,hk,PK,hr⟩:=Zu zS.1 zS.2 hn.2 h';simp only [z7.sk] at ho;rw [PK] at ho;simp only [zI,gP] at ho;obtain ⟨rfl,_⟩:=ho
    exact ⟨_,hk,rfl,⟨zS.1,hr⟩,fun m _ _=>by simp [z7.ids]⟩
   | _=>simp [MD] at h'
  | false=>
   rw [hf] at h';obtain ⟨u,hu,hi,Ku⟩:=Q3 hn zS.1 zS.2 (by simpa [z7.sk] using ho) h'
   cases hs:u.sk.same t.sk with
   | true=>
    rw [hs] at hu
    exact ⟨.agg u,hu,Sk.qg hs,Ku (Sk.qg hs),fun m _ hm=>hi m hm⟩
   | false=>rw [hs] at hu;simp at hu
 | .qD,s :: _,_,_,_,_,_,_,h=>by cases s <;> simp [x4] at h
 | .ref _ _ _,s :: _,_,_,_,_,_,_,h=>by cases s <;> simp [x4] at h
 | .view _ _ _ _ _,s :: _,_,_,_,_,_,_,h=>by cases s <;> simp [x4] at h
 | .zq _ _,s :: _,_,_,_,_,_,_,h=>by cases s <;> simp [x4] at h
 | .vA _ _ _,s :: _,_,_,_,_,_,_,h=>by cases s <;> simp [x4] at h
 | .qz _,s :: _,_,_,_,_,_,_,h=>by cases s <;> simp [x4] at h
 | .nv _ _ _ _,s :: _,_,_,_,_,_,_,h=>by cases s <;> simp [x4] at h
 | .qd _ _,s :: _,_,_,_,_,_,_,h=>by cases s <;> simp [x4] at h
 | .jV _,s :: _,_,_,_,_,_,_,h=>by cases s <;> simp [x4] at h
 | .un,s :: _,_,_,_,_,_,_,h=>by cases s <;> simp [x4] at h
 | .pr _ _,.idx _ :: _,_,_,_,_,_,_,h=>by simp [x4] at h
end Go.Kz
namespace Go.Kz
def jE (w:World) (g:z8) (kt vt:Ty):List MapEntry->List (kt.den×vt.den)->Prop
 | [],[]=>True
 | e :: es,(k,v) :: m=>(∃ cs,zH w g none kt k cs/\e.key=vN kt.sk.isAgg cs)/\(∃ cs,zH w g none vt v cs/\e.val=vN vt.sk.isAgg cs)/\jE w g kt vt es m
 | _,_=>False
theorem jE.kept {w w':World} {g g':z8} (hr:zT w g w' g') {kt vt:Ty}:{es:List MapEntry}->{m:List (kt.den×vt.den)}->jE w g kt vt es m->jE w' g' kt vt es m
 | [],[],_=>trivial
 | _ :: _,(_,_) :: _,⟨⟨c1,h1,e1⟩,⟨c2,h2,e2⟩,h⟩=>⟨⟨c1,h1.kept hr,e1⟩,⟨c2,h2.kept hr,e2⟩,jE.kept hr h⟩
 | [],_ :: _,h=>h.elim
 | _ :: _,[],h=>h.elim
structure No (w:World) (g:z8) (w':World) (g':z8) (id:Nat) (p:Path) (b0:Nat):Prop where
 ro:zT w g w' g'
 sv:∀ q,¬ p <+: q->g'.sv id q=g.sv id q
 qj:∀ q b,g.tag b = .row id q->¬ p <+: q->g'.tag b = .row id q/\(b≠b0->w'.heap[b]? = w.heap[b]?)
def H8 (w:World) (g:z8) (id:Nat) (t:Ty) (l:List t.den) (p:Path):Prop:=
 (∃ bk o cap,g.sv id [] = .slice (some ⟨bk,o,none⟩) l.length cap)/\
 ∃ v b0 off c e pre,Hq t p=some v/\place g id (.sl true t) [] 0 0 p=some (b0,off)/\g.tag b0 = .row id pre/\pre.length < p.length/\w.heap[b0]? = some (.cells c e (0,0))/\off < c.size/\
  ∀ (w':World) (g':z8) (l1:List v.den) (x:Value),No w g w' g' id p b0->w'.heap[b0]? = some (.cells (zD c.toList off [x]).toArray e (0,0))->zH w' g' (some (id,p)) (.sl true v) l1 [x]->
   ∀ {R:Type} (f:List t.den->Option R) (r:R),jM (.sl true t) l p (.sl true v) l1 f=some r->∃ l2,f l2=some r/\zH w' g' (some (id,[])) (.sl true t) l2 [g'.sv id []]
def z8d (w:World) (g:z8) (z6:qp) (id:Nat) (a:z7):Prop:=
 ∃ (Gx n bm:Nat) (seen:Array Nat) (cur:Int),a=uV Gx (n:Int) ((upto n).filter fun i=>!seen.contains i.toNat) cur/\w.heap[g.qj id]? = some (.mapIter (some bm) n seen n)/\
  g.tag (g.qj id) = .box id/\(∀ c:Nat,cur=(c:Int)->seen.back? = some c)/\∀ kt vt m,z6 Gx=some (.map kt vt m)->bm=g.qj Gx
def z8f (w:World) (g:z8) (z6:qp) (id:Nat) (a:z7):Prop:=∃ c e,w.heap[g.qj id]? = some (.cells c e (0,0))/\g.tag (g.qj id) = .ro/\jK w g z6 a c.toList
def z88 (w:World) (g:z8) (z6:qp) (id:Nat):z7->Prop
 | .jV (.agg x)=>z8f w g z6 id (.agg x)
 | .jV (.qz i)=>z8f w g z6 id (.qz i)
 | a=>z8d w g z6 id a
def JV (es:List MapEntry):Prop:=es.map (·.born)=List.range es.length
def zo (w:World) (g:z8) (z6:qp) (id:Nat):Obj->Prop
 | .row t l _=>t.zW=true/\zH w g (some (id,[])) (.sl true t) l [g.sv id []]
 | .cell a=>if a.wI then z88 w g z6 id a else ∃ c e,w.heap[g.qj id]? = some (.cells c e (0,0))/\g.tag (g.qj id) = .box id/\jK w g z6 a c.toList
 | .map kt vt m=>∃ es clock,w.heap[g.qj id]? = some (.map es clock)/\g.tag (g.qj id) = .box id/\kt.zW=true/\vt.zW=true/\jE w g kt vt es.toList m/\clock=es.size/\JV es.toList
 | .nest t l _ _ none=>zH w g (some (id,[])) (.sl true t) l [g.sv id []]
 | .nest t l _ _ (some p)=>H8 w g id t l p
theorem jK.zp3 {w:World} {g:z8} {z6:qp}:{a:z7}->{cs:List Value}->jK w g z6 a cs->a.wI=false
 | .jV _,_,h=>h.elim
 | .data _ _,_,_ | .qD,_,_ | .ref _ _ _,_,_ | .view _ _ _ _ _,_,_ | .zq _ _,_,_ | .vA _ _ _,_,_ | .qz _,_,_ | .nv _ _ _ _,_,_ | .qd _ _,_,_ | .V7 _ _,_,_ | .agg _,_,_ | .pr _ _,_,_ | .un,_,_=>rfl
theorem zo.mk {w:World} {g:z8} {z6:qp} {id:Nat} {a:z7} (h:∃ c e,w.heap[g.qj id]? = some (.cells c e (0,0))/\g.tag (g.qj id) = .box id/\jK w g z6 a c.toList):zo w g z6 id (.cell a):=by
 obtain ⟨c,e,h1,h2,h3⟩:=h;show (if a.wI=true then z88 w g z6 id a else ∃ c e,w.heap[g.qj id]? = some (.cells c e (0,0))/\g.tag (g.qj id) = .box id/\jK w g z6 a c.toList);rw [qZ (by simp [h3.zp3])];exact ⟨c,e,h1,h2,h3⟩
theorem zo.out {w:World} {g:z8} {z6:qp} {id:Nat} {a:z7} (ht:a.wI=false) (h:zo w g z6 id (.cell a)):∃ c e,w.heap[g.qj id]? = some (.cells c e (0,0))/\g.tag (g.qj id) = .box id/\jK w g z6 a c.toList:=by
 have h:(if a.wI=true then z88 w g z6 id a else ∃ c e,w.heap[g.qj id]? = some (.cells c e (0,0))/\g.tag (g.qj id) = .box id/\jK w g z6 a c.toList):=h;rw [qZ (by simp [ht])] at h;exact h
theorem zo.iter {w:World} {g:z8} {z6:qp} {id:Nat} {a:z7} (ht:a.wI=true) (hc:a.wL=false:=by rfl):zo w g z6 id (.cell a)↔z8d w g z6 id a:=by
 cases a with
 | jV c=>cases c <;> first | exact Iff.rfl | simp [z7.wL] at hc
 | _=>simp [z7.wI] at ht
theorem zo.p5 {w:World} {g:z8} {z6:qp} {id:Nat} {c:z7} (hc:(z7.jV c).wL=true:=by rfl):zo w g z6 id (.cell (.jV c))↔z8f w g z6 id c:=by
 cases c <;> first | exact Iff.rfl | simp [z7.wL] at hc
theorem Au {a:z7} (h:a.wL=true):∃ c,a = .jV c:=by
 cases a with
 | jV c=>exact ⟨_,rfl⟩
 | _=>simp [z7.wL] at h
theorem IJ {a:z7} (h:(z7.jV a).wL=true):a.wI=false:=by
 cases a <;> first | rfl | simp [z7.wL] at h
theorem Vi {R:Type} {a:z7} {x:Option R} {r:R} (h:cond a.wI none x=some r):a.wI=false/\x=some r:=by
 cases ht:a.wI with
 | true=>rw [ht] at h;simp at h
 | false=>rw [ht] at h;exact ⟨rfl,h⟩
structure yY (w:World) (g:z8) (z6:qp):Prop where
 z6:∀ id o,z6 id=some o->zo w g z6 id o
 tags:∀ b,g.tag b≠.zt->b < w.heap.size
def Known (w:World) (g:z8):Prop:=∀ b e,tab b=some e->e.t.zW=true/\zH w g none (.ptr (.arr e.n e.t)) e.l [.pointer (some ⟨b,0,none⟩)]/\∃ c ty fz,w.heap[b]? = some (.cells c ty fz)/\c.size=e.n*e.t.size
theorem Known.kept {w w':World} {g g':z8} (hr:zT w g w' g') (h:Known w g):Known w' g':=fun b e he=>by
 obtain ⟨h1,h2,c,ty,fz,h3,h4⟩:=h b e he;refine ⟨h1,h2.kept hr,c,ty,fz,?_,h4⟩;obtain ⟨b',off,c',e',fz',hp,ht,_⟩:=h2;simp only [BL,Value.pointer.injEq,zI,Addr.mk.injEq,U6] at hp;rw [(hr.qj b (by rw [hp.1];exact ht)).2,h3]
structure zG (n:Nat) (g:z8) (w:World) (a:Act) (J:St):Prop where
 zk:∀ i av,J.zk i=some av->∃ v,a.tmps[i]? = some v/\zr w g J.z6 av v
 heap:yY w g J.z6
 size:a.tmps.size=n
 defers:a.defers=[]
 known:Known w g
structure zJ (g:z8) (J:St) (m:Nat):Prop where
 z6:J.z6 m=none
 row:∀ b p,g.tag b≠.row m p
 box:∀ b,g.tag b≠.box m
 zk:∀ i av,J.zk i=some av->m∉av.ids
 cells:∀ id av,J.z6 id=some (.cell av)->m∉av.ids
structure Ext (w:World) (g:z8) (w':World) (g':z8):Prop where
 os:w'.os=w.os
 tape:w'.tape=w.tape
 output:w'.output=w.output
 drawn:w.drawn<=w'.drawn
 size:w.heap.size<=w'.heap.size
 vR:∀ b,b < w.heap.size->(g.tag b = .zt\/g.tag b = .ro)->w'.heap[b]? = w.heap[b]?/\g'.tag b=g.tag b
theorem Ext.refl (w:World) (g:z8):Ext w g w g:=⟨rfl,rfl,rfl,yN _,yN _,fun _ _ _=>⟨rfl,rfl⟩⟩
theorem Ext.trans {w w' w'':World} {g g' g'':z8} (h:Ext w g w' g') (k:Ext w' g' w'' g''):Ext w g w'' g'':=by
 refine ⟨k.os.trans h.os,k.tape.trans h.tape,k.output.trans h.output,Z22 h.drawn k.drawn,Z22 h.size k.size,fun b hb ht=>?_⟩;obtain ⟨h1,h2⟩:=h.vR b hb ht;obtain ⟨k1,k2⟩:=k.vR b (Z2o hb h.size) (by rw [h2];exact ht);exact ⟨k1.trans h1,k2.trans h2⟩
theorem Ext.ro {w w':World} {g g':z8} (h:Ext w g w' g') (ht:∀ b,g.tag b≠.zt->b < w.heap.size):zT w g w' g':=
 ⟨fun b hb=>let k:=h.vR b (ht b (by rw [hb];simp)) (.inr hb);⟨k.2.trans hb,k.1⟩⟩
def qv (g g':z8) (id:Nat) (o o':Option Obj):Prop:=
 o'=none\/
 (∃ t l l' e e',o=some (.row t l e)/\o'=some (.row t l' e')/\(e < e'\/(e'=e/\l'.length=l.length/\∀ p,g'.sv id p=g.sv id p)))\/
 (∃ a a',o=some (.cell a)/\o'=some (.cell a')/\a'.sk=a.sk/\g'.qj id=g.qj id)\/
 (∃ kt vt m m',o=some (.map kt vt m)/\o'=some (.map kt vt m')/\g'.qj id=g.qj id)\/
 (∃ t l l' e e' i i' h h',o=some (.nest t l e i h)/\o'=some (.nest t l' e' i' h')/\e<=e'/\i<=i'/\(e=e'->g'.sv id []=g.sv id [])/\(i=i'->∀ p,g'.sv id p=g.sv id p))
theorem ja {g g':z8} {id:Nat} (h:∀ p,g'.sv id p=g.sv id p):{t:Ty}->{pre:Path}->{b off:Nat}->{p:Path}->
  place g' id t pre b off p=place g id t pre b off p
 | _,_,_,_,[]=>by simp [place]
 | .pair a c,pre,b,off,.fst :: p=>by simp only [place];exact ja h
 | .pair a c,pre,b,off,.snd :: p=>by simp only [place];exact ja h
 | .arr n t,pre,b,off,.idx i :: p=>by simp only [place];exact ja h
 | .sl true t,pre,b,off,.idx i :: p=>by
  simp only [place,h];split
  ·exact ja h
  ·rfl
 | .sl false t,_,_,_,s :: _=>by cases s <;> simp [place]
 | .sl true t,_,_,_,.fst :: _=>by simp [place]
 | .sl true t,_,_,_,.snd :: _=>by simp [place]
 | .int _,_,_,_,s :: _=>by cases s <;> simp [place]
 | .bool,_,_,_,s :: _=>by cases s <;> simp [place]
 | .str,_,_,_,s :: _=>by cases s <;> simp [place]
 | .unit,_,_,_,s :: _=>by cases s <;> simp [place]
 | .ptr _,_,_,_,s :: _=>by cases s <;> simp [place]
 | .fn _ _,_,_,_,s :: _=>by cases s <;> simp [place]
 | .tree _,_,_,_,s :: _=>by cases s <;> simp [place]
 | .pair _ _,_,_,_,.idx _ :: _=>by simp [place]
 | .arr _ _,_,_,_,.fst :: _=>by simp [place]
 | .arr _ _,_,_,_,.snd :: _=>by simp [place]
theorem jK.frame {w w':World} {g g':z8} {z6 wE:qp} (hr:zT w g w' g'):{a:z7}->{cs:List Value}->
  (∀ id,id∈a.ids->qv g g' id (z6 id) (wE id))->jK w g z6 a cs->jK w' g' wE a cs
 | .data t d,_,_,h=>⟨h.1,h.2.kept hr⟩
 | .qD,_,_,h=>h
 | .ref id p ep,_,hi,⟨v,hv,qE,h⟩=>by
  refine ⟨v,hv,qE,fun t l e ho=>?_⟩;rcases hi id (by simp [z7.ids]) with hk | ⟨t0,l0,l1,e0,e1,h0,h1,hk⟩ | ⟨a,a',h0,h1,_⟩ | ⟨Aj,X9,m0,m1,h0,h1,Ob⟩ | ⟨t0,l0,l1,e0,e1,i0,i1,h0',h1',h0,h1,hk⟩
  ·rw [hk] at ho;simp at ho
  ·rw [h1] at ho;simp only [zI,Obj.row.injEq] at ho;obtain ⟨rfl,hl,rfl⟩:=ho;have:=h _ _ _ h0;rcases hk with hk | ⟨rfl,_,qf⟩
   ·exact ⟨by omega,fun he=>by omega⟩
   ·exact ⟨this.1,fun he=>by rw [qf];exact this.2 he⟩
  ·rw [h1] at ho;simp at ho
  ·rw [h1] at ho;simp at ho
  ·rw [h1] at ho;simp at ho
 | .view id p ep a b,_,hi,⟨v,hv,qE,h⟩=>by
  refine ⟨v,hv,qE,fun t l e ho=>?_⟩;rcases hi id (by simp [z7.ids]) with hk | ⟨t0,l0,l1,e0,e1,h0,h1,hk⟩ | ⟨a,a',h0,h1,_⟩ | ⟨Aj,X9,m0,m1,h0,h1,Ob⟩ | ⟨t0,l0,l1,e0,e1,i0,i1,h0',h1',h0,h1,hk⟩
  ·rw [hk] at ho;simp at ho
  ·rw [h1] at ho;simp only [zI,Obj.row.injEq] at ho;obtain ⟨rfl,hl,rfl⟩:=ho;have:=h _ _ _ h0;rcases hk with hk | ⟨rfl,hlen,qf⟩
   ·exact ⟨by omega,fun he=>by omega⟩
   ·refine ⟨this.1,fun he=>?_⟩;obtain ⟨hp,ha,Jq,hb,pR⟩:=this.2 he;refine ⟨hp,ha,Jq,?_,by rw [qf];exact pR⟩;have:l=l1:=(Z35 hl).symm;rw [this,hlen];exact hb
  ·rw [h1] at ho;simp at ho
  ·rw [h1] at ho;simp at ho
  ·rw [h1] at ho;simp at ho
 | .zq id p,_,hi,⟨v,hv,qE,h⟩=>by
  refine ⟨v,hv,qE,fun a ho=>?_⟩;rcases hi id (by simp [z7.ids]) with hk | ⟨t0,l0,l1,e0,e1,h0,h1,hk⟩ | ⟨a0,a1,h0,h1,hs,hb⟩ | ⟨Aj,X9,m0,m1,h0,h1,Ob⟩ | ⟨t0,l0,l1,e0,e1,i0,i1,h0',h1',h0,h1,hk⟩
  ·rw [hk] at ho;simp at ho
  ·rw [h1] at ho;simp at ho
  ·rw [h1] at ho;simp only [zI,Obj.cell.injEq] at ho;subst ho;rw [hs,hb];exact h _ h0
  ·rw [h1] at ho;simp at ho
  ·rw [h1] at ho;simp at ho
 | .vA id p ep,_,hi,⟨v,hv,qE,h⟩=>by
  refine ⟨v,hv,qE,fun t l e ho=>?_⟩;rcases hi id (by simp [z7.ids]) with hk | ⟨t0,l0,l1,e0,e1,h0,h1,hk⟩ | ⟨a,a',h0,h1,_⟩ | ⟨Aj,X9,m0,m1,h0,h1,Ob⟩ | ⟨t0,l0,l1,e0,e1,i0,i1,h0',h1',h0,h1,hk⟩
  ·rw [hk] at ho;simp at ho
  ·rw [h1] at ho;simp only [zI,Obj.row.injEq] at ho;obtain ⟨rfl,hl,rfl⟩:=ho;have:=h _ _ _ h0;rcases hk with hk | ⟨rfl,hlen,qf⟩
   ·exact ⟨by omega,fun he=>by omega⟩
   ·exact ⟨this.1,fun he=>by rw [ja qf];exact this.2 he⟩
  ·rw [h1] at ho;simp at ho
  ·rw [h1] at ho;simp at ho
  ·rw [h1] at ho;simp at ho
 | .qz id,_,hi,⟨v,hv,qE,h⟩=>by
  refine ⟨v,hv,qE,fun kt vt m ho=>?_⟩;rcases hi id (by simp [z7.ids]) with hk | ⟨t0,l0,l1,e0,e1,h0,h1,hk⟩ | ⟨a,a',h0,h1,_⟩ | ⟨Aj,X9,m0,m1,h0,h1,Ob⟩ | ⟨t0,l0,l1,e0,e1,i0,i1,h0',h1',h0,h1,hk⟩
  ·rw [hk] at ho;simp at ho
  ·rw [h1] at ho;simp at ho
  ·rw [h1] at ho;simp at ho
  ·rw [h1] at ho;simp only [zI,Obj.map.injEq] at ho;obtain ⟨rfl,rfl,_⟩:=ho;rw [Ob];exact h _ _ _ h0
  ·rw [h1] at ho;simp at ho
 | .nv pt id p ep,_,hi,⟨v,hv,qE,h⟩=>by
  refine ⟨v,hv,qE,fun t l e i h' ho=>?_⟩;rcases hi id (by simp [z7.ids]) with hk | ⟨t0,l0,l1,e0,e1,h0,h1,hk⟩ | ⟨a,a',h0,h1,_⟩ | ⟨Aj,X9,m0,m1,h0,h1,Ob⟩ | ⟨t0,l0,l1,e0,e1,i0,i1,h0',h1',h0,h1,he,hi,hse,hsi⟩
  ·rw [hk] at ho;simp at ho
  ·rw [h1] at ho;simp at ho
  ·rw [h1] at ho;simp at ho
  ·rw [h1] at ho;simp at ho
  ·rw [h1] at ho;simp only [zI,Obj.nest.injEq] at ho;obtain ⟨rfl,_,rfl,rfl,_⟩:=ho;obtain ⟨hle,hx⟩:=h _ _ _ _ _ h0;have zrl:Iy pt p e0 i0<=Iy pt p e1 i1:=by
    unfold Iy;split
    ·exact he
    ·exact hi
   refine ⟨Z22 hle zrl,fun heq=>?_⟩;have zcw:Iy pt p e0 i0=ep:=by omega
   obtain ⟨hx1,hx2⟩:=hx zcw;refine ⟨fun hp=>?_,fun hp=>?_⟩
   ·subst hp;rw [hx1 rfl]
    cases p with
    | nil=>
     simp only [Iy] at heq zcw
     exact (hse (by omega)).symm
    | cons s q=>
     simp only [Iy] at heq zcw;exact (hsi (by omega) _).symm
   ·subst hp;have Mk:i0=i1:=by
     simp only [Iy] at heq zcw;omega
    rw [ja (hsi Mk)]
    exact hx2 rfl
 | .qd f c,_,hi,⟨vs,hv,h⟩=>⟨vs,hv,jK.frame hr (a:=c) (fun id h=>hi id h) h⟩
 | .V7 t c,_,hi,⟨x,DH,hv,h,hx⟩=>⟨x,DH,hv,jK.frame hr (a:=c) (fun id h=>hi id h) h,hx⟩
 | .agg c,_,hi,h=>jK.frame hr (a:=c) (fun id h=>hi id h) h
 | .jV _,_,_,h=>h.elim
 | .pr a b,_,hi,⟨c1,c2,hc,h1,h2⟩=>
  ⟨c1,c2,hc,jK.frame hr (fun id h=>hi id (by simp [z7.ids,h])) h1,jK.frame hr (fun id h=>hi id (by simp [z7.ids,h])) h2⟩
 | .un,_,_,h=>h
theorem yB {w:World} {g:z8} {z6:qp} {a:z7} {v:Value} {cs:List Value} (h:jK w g z6 a cs) (hv:v=vN a.isAgg cs)
  (h1:∀ x y,a≠.pr x y) (h2:a≠.un):zr w g z6 a v:=by
 cases a with
 | jV c=>exact h.elim
 | pr x y=>exact absurd rfl (h1 x y)
 | un=>exact absurd rfl h2
 | _=>exact ⟨cs,h,hv⟩
theorem kX {w:World} {g:z8} {z6:qp} {a:z7} {v:Value} (h:zr w g z6 a v) (ht:∀ c,a≠.jV c) :
  ∃ cs,jK w g z6 a cs/\v=vN a.isAgg cs:=by
 cases a with
 | jV c=>exact absurd rfl (ht c)
 | pr x y=>exact h.elim
 | un=>exact h.elim
 | _=>exact h
mutual
theorem zr.frame {w w':World} {g g':z8} {z6 wE:qp} (hr:zT w g w' g'):{a:z7}->{v:Value}->
  (∀ id,id∈a.ids->qv g g' id (z6 id) (wE id))->zr w g z6 a v->zr w' g' wE a v
 | .jV c,_,hi,h=>by
  simp only [zr] at h ⊢;obtain ⟨vs,hv,h⟩:=h
  exact ⟨vs,hv,qk.frame hr (a:=c) (fun id h=>hi id (by simpa [z7.ids] using h)) h⟩
 | .pr _ _,_,_,h=>by simp only [zr] at h
 | .un,_,_,h=>by simp only [zr] at h
 | .data t d,_,hi,h=>by simp only [zr] at h ⊢;obtain ⟨cs,h,hv⟩:=h;exact ⟨cs,jK.frame hr hi h,hv⟩
 | .qD,_,hi,h=>by simp only [zr] at h ⊢;obtain ⟨cs,h,hv⟩:=h;exact ⟨cs,jK.frame hr hi h,hv⟩
 | .ref _ _ _,_,hi,h=>by simp only [zr] at h ⊢;obtain ⟨cs,h,hv⟩:=h;exact ⟨cs,jK.frame hr hi h,hv⟩
 | .view _ _ _ _ _,_,hi,h=>by simp only [zr] at h ⊢;obtain ⟨cs,h,hv⟩:=h;exact ⟨cs,jK.frame hr hi h,hv⟩
 | .zq _ _,_,hi,h=>by simp only [zr] at h ⊢;obtain ⟨cs,h,hv⟩:=h;exact ⟨cs,jK.frame hr hi h,hv⟩
 | .vA _ _ _,_,hi,h=>by simp only [zr] at h ⊢;obtain ⟨cs,h,hv⟩:=h;exact ⟨cs,jK.frame hr hi h,hv⟩
 | .qz _,_,hi,h=>by simp only [zr] at h ⊢;obtain ⟨cs,h,hv⟩:=h;exact ⟨cs,jK.frame hr hi h,hv⟩
 | .nv _ _ _ _,_,hi,h=>by simp only [zr] at h ⊢;obtain ⟨cs,h,hv⟩:=h;exact ⟨cs,jK.frame hr hi h,hv⟩
 | .qd _ _,_,hi,h=>by simp only [zr] at h ⊢;obtain ⟨cs,h,hv⟩:=h;exact ⟨cs,jK.frame hr hi h,hv⟩
 | .V7 _ _,_,hi,h=>by simp only [zr] at h ⊢;obtain ⟨cs,h,hv⟩:=h;exact ⟨cs,jK.frame hr hi h,hv⟩
 | .agg _,_,hi,h=>by simp only [zr] at h ⊢;obtain ⟨cs,h,hv⟩:=h;exact ⟨cs,jK.frame hr hi h,hv⟩
theorem qk.frame {w w':World} {g g':z8} {z6 wE:qp} (hr:zT w g w' g'):{a:z7}->{vs:List Value}->
  (∀ id,id∈a.ids->qv g g' id (z6 id) (wE id))->qk w g z6 a vs->qk w' g' wE a vs
 | .pr a b,_,hi,h=>by
  simp only [qk] at h ⊢;obtain ⟨v,r,hv,h1,h2⟩:=h
  exact ⟨v,r,hv,zr.frame hr (fun id h=>hi id (by simp [z7.ids,h])) h1,qk.frame hr (fun id h=>hi id (by simp [z7.ids,h])) h2⟩
 | .un,_,_,h=>by simp only [qk] at h ⊢;exact h
 | .jV _,_,_,h=>by simp only [qk] at h
 | .data _ _,_,_,h=>by simp only [qk] at h
 | .qD,_,_,h=>by simp only [qk] at h
 | .ref _ _ _,_,_,h=>by simp only [qk] at h
 | .view _ _ _ _ _,_,_,h=>by simp only [qk] at h
 | .zq _ _,_,_,h=>by simp only [qk] at h
 | .vA _ _ _,_,_,h=>by simp only [qk] at h
 | .qz _,_,_,h=>by simp only [qk] at h
 | .nv _ _ _ _,_,_,h=>by simp only [qk] at h
 | .qd _ _,_,_,h=>by simp only [qk] at h
 | .V7 _ _,_,_,h=>by simp only [qk] at h
 | .agg _,_,_,h=>by simp only [qk] at h
end
structure Zh (w:World) (g:z8) (w':World) (g':z8) (id:Nat):Prop where
 row:xl w g w' g' id [] id []
 qj:g'.qj id=g.qj id
 box:g.tag (g.qj id) = .box id->g'.tag (g.qj id) = .box id/\w'.heap[g.qj id]? = w.heap[g.qj id]?
theorem zo.frame {w w':World} {g g':z8} {z6 wE:qp} (hr:zT w g w' g') {id:Nat} {o:Obj} (hs:Zh w g w' g' id)
  (hi:∀ a,o = .cell a->∀ id,id∈a.ids->qv g g' id (z6 id) (wE id)) (h:zo w g z6 id o):zo w' g' wE id o:=by
 cases o with
 | row t l e=>
  refine ⟨h.1,?_⟩;have:=hs.row.sv [];simp only [Di] at this;rw [this]
  exact zH.move hr (o:=some (id,[])) (o':=some (id,[])) hs.row h.2
 | cell a=>
  cases YS:a.wI with
  | true=>
   cases p4:a.wL with
   | true=>
    obtain ⟨x,rfl⟩:=Au p4;obtain ⟨c,e,hc,ht,zS⟩:=(zo.p5 p4).1 h;obtain ⟨h1,h2⟩:=hr.qj _ ht
    exact (zo.p5 p4).2 ⟨c,e,by rw [hs.qj,h2];exact hc,by rw [hs.qj];exact h1,jK.frame hr (fun i wT=>hi _ rfl i wT) zS⟩
   | false=>
   refine (zo.iter YS p4).2 ?_;obtain ⟨Gx,n,bm,seen,last,ha,hc,ht,hn,hb⟩:=(zo.iter YS p4).1 h;obtain ⟨h1,h2⟩:=hs.box ht;refine ⟨Gx,n,bm,seen,last,ha,by rw [hs.qj,h2];exact hc,by rw [hs.qj];exact h1,hn,fun kt vt m ho=>?_⟩;rcases hi a rfl Gx (by rw [ha];simp [uV,z7.ids]) with hk | ⟨_,_,_,_,_,_,hk,_⟩ | ⟨_,_,_,hk,_⟩ | ⟨Aj,X9,m0,m1,h0,h1,Ob⟩ | ⟨_,_,_,_,_,_,_,_,_,_,hk,_⟩
   ·rw [hk] at ho;simp at ho
   ·rw [hk] at ho;simp at ho
   ·rw [hk] at ho;simp at ho
   ·rw [Ob];exact hb _ _ _ h0
   ·rw [hk] at ho;simp at ho
  | false=>
   obtain ⟨c,e,hc,ht,zS⟩:=h.out YS;obtain ⟨h1,h2⟩:=hs.box ht;refine zo.mk ⟨c,e,?_,?_,jK.frame hr (hi a rfl) zS⟩
   ·rw [hs.qj,h2];exact hc
   ·rw [hs.qj];exact h1
 | map kt vt m=>
  obtain ⟨es,ck,hc,ht,h1,h2,hm,h3⟩:=h;obtain ⟨k1,k2⟩:=hs.box ht
  exact ⟨es,ck,by rw [hs.qj,k2];exact hc,by rw [hs.qj];exact k1,h1,h2,hm.kept hr,h3⟩
 | nest t l e i hole=>
  have qf:∀ q,g'.sv id q=g.sv id q:=fun q=>by have:=hs.row.sv q;simpa using this
  have hblk:∀ q b,g.tag b = .row id q->g'.tag b = .row id q/\w'.heap[b]? = w.heap[b]? := fun q b hb=>by have:=hs.row.qj q b (by simpa using hb);simpa using this
  cases hole with
  | none=>
   have h':zH w g (some (id,[])) (.sl true t) l [g.sv id []]:=h;show zH w' g' (some (id,[])) (.sl true t) l [g'.sv id []];rw [qf]
   exact zH.move hr (o:=some (id,[])) (o':=some (id,[])) hs.row h'
  | some p=>
   obtain ⟨⟨bk,o0,zmf,zkm⟩,v,b0,off,c,ee,pre,vJ,gV,zM,pe,zY,jZ,hw⟩:=h;obtain ⟨k1,k2⟩:=hblk _ _ zM;refine ⟨⟨bk,o0,zmf,by rw [qf];exact zkm⟩,v,b0,off,c,ee,pre,vJ,by rw [ja qf];exact gV,k1,pe,by rw [k2];exact zY,jZ,fun w2 g2 l1 x hn GQ zC R f r kz=>?_⟩;refine hw w2 g2 l1 x ⟨⟨fun b hb=>?_⟩,fun q hq=>(hn.sv q hq).trans (qf q),fun q b hb hq=>?_⟩ GQ zC f r kz
   ·obtain ⟨j1,j2⟩:=hr.qj b hb;obtain ⟨m1,m2⟩:=hn.ro.qj b j1;exact ⟨m1,m2.trans j2⟩
   ·obtain ⟨j1,j2⟩:=hblk q b hb;obtain ⟨m1,m2⟩:=hn.qj q b j1 hq;exact ⟨m1,fun je=>(m2 je).trans j2⟩
theorem qv.refl (g:z8) (id:Nat) (o:Option Obj):qv g g id o o:=by
 cases o with
 | none=>exact .inl rfl
 | some o=>cases o with
  | row t l e=>exact .inr (.inl ⟨t,l,l,e,e,rfl,rfl,.inr ⟨rfl,rfl,fun _=>rfl⟩⟩)
  | cell a=>exact .inr (.inr (.inl ⟨a,a,rfl,rfl,rfl,rfl⟩))
  | map k v m=>exact .inr (.inr (.inr (.inl ⟨k,v,m,m,rfl,rfl,rfl⟩)))
  | nest t l e i h=>exact .inr (.inr (.inr (.inr ⟨t,l,l,e,e,i,i,h,h,rfl,rfl,yN _,yN _,fun _=>rfl,fun _ _=>rfl⟩)))
theorem qv.same {w w':World} {g g':z8} {id:Nat} {o:Option Obj} (hs:Zh w g w' g' id):qv g g' id o o:=by
 cases o with
 | none=>exact .inl rfl
 | some o=>cases o with
  | row t l e=>exact .inr (.inl ⟨t,l,l,e,e,rfl,rfl,.inr ⟨rfl,rfl,fun p=>by have:=hs.row.sv p;simpa using this⟩⟩)
  | cell a=>exact .inr (.inr (.inl ⟨a,a,rfl,rfl,rfl,hs.qj⟩))
  | map k v m=>exact .inr (.inr (.inr (.inl ⟨k,v,m,m,rfl,rfl,hs.qj⟩)))
  | nest t l e i h=>exact .inr (.inr (.inr (.inr ⟨t,l,l,e,e,i,i,h,h,rfl,rfl,yN _,yN _,fun _=>by have:=hs.row.sv [];simpa using this,fun _ p=>by have:=hs.row.sv p;simpa using this⟩)))
theorem JE {a:Act} {d:Option Nat} {v:Value} {i:Nat}:(a.put d v).tmps[i]? = if d=some i/\i < a.tmps.size then some v else a.tmps[i]? := by
 cases d with
 | none=>simp [Act.put]
 | some j=>
  simp only [Act.put,zI];rw [Z5l];by_cases h:j=i
  ·subst h;by_cases h2:j < a.tmps.size
   ·simp [h2]
   ·simp [h2]
  ·simp [h]
theorem Hi {a:Act} {d:Option Nat} {v:Value}:(a.put d v).tmps.size=a.tmps.size:=by cases d <;> simp [Act.put]
theorem put_defers {a:Act} {d:Option Nat} {v:Value}:(a.put d v).defers=a.defers:=by cases d <;> simp [Act.put]
theorem z6p {a:Act} {t:Nat} {v:Value} (h:a.tmps[t]? = some v):a.eval (.tmp t)=v:=by
 simp [Act.eval,Z2p,h]
end Go.Kz
namespace Go.Kz
variable {R:Type}
def jc (w w':World):Prop:=∀ b,b < w.heap.size->w'.heap[b]? = w.heap[b]?
theorem jc.refl (w:World):jc w w:=fun _ _=>rfl
def Nt (o:Oper) (w w':World):Prop:=isP o=false->jc w w'
theorem Nt.refl (o:Oper) (w:World):Nt o w w:=fun _=>jc.refl w
def vu (n:Nat) (k:St->Option R) (r:R) (g:z8) (w:World) (J:St) (base:Nat) (mo:Bool) (K:Act->World->Prop):Prop:=
 ∀ J' g' a' w',k J'=some r->zG n g' w' a' J'->Ext w g w' g'->(∀ m,(m < base\/base+8<=m)->zJ g J m->zJ g' J' m)->J'.next=J.next->(mo=false->jc w w')->K a' w'
theorem zG.put {n:Nat} {g:z8} {w:World} {a:Act} {J:St} (h:zG n g w a J) {d:Nat} (hd:d < n) {av:z7} {v:Value} (hv:zr w g J.z6 av v) :
  zG n g w (a.put (some d) v) (J.set d av):=by
 refine ⟨fun i x hx=>?_,h.heap,by rw [Hi];exact h.size,by rw [put_defers];exact h.defers,h.known⟩;simp only [St.set,GJ] at hx;rw [JE];by_cases hi:i=d
 ·subst hi;have:Nat.beq i i=true:=Nc i;rw [this] at hx;simp only [zB,zI] at hx;subst hx;exact ⟨v,by rw [yQ ⟨rfl,by rw [h.size];exact hd⟩],hv⟩
 ·have:Nat.beq i d=false:=by
   cases hb:Nat.beq i d with
   | true=>exact absurd (zE hb) hi
   | false=>rfl
  rw [this] at hx;simp only [zU] at hx;obtain ⟨u,hu,zS⟩:=h.zk i x hx;exact ⟨u,by rw [qZ (by intro hh;simp at hh;exact hi hh.1.symm)];exact hu,zS⟩
theorem zG.zjf {n:Nat} {g:z8} {w:World} {a:Act} {J:St} (h:zG n g w a J) (d:Option Nat) (v:Value):zG n g w (a.put d v) (J.kB d):=by
 cases d with
 | none=>exact h
 | some d=>
  refine ⟨fun i x hx=>?_,h.heap,by rw [Hi];exact h.size,by rw [put_defers];exact h.defers,h.known⟩;simp only [St.kB,GJ] at hx;rw [JE]
  cases hb:Nat.beq i d with
  | true=>rw [hb] at hx;simp at hx
  | false=>
   rw [hb] at hx;simp only [zU] at hx;obtain ⟨u,hu,zS⟩:=h.zk i x hx;refine ⟨u,?_,zS⟩;rw [qZ (by intro hh;simp at hh;rw [hh.1] at hb;rw [Nc] at hb;simp at hb)];exact hu
theorem zJ.set {g:z8} {J:St} {m:Nat} (h:zJ g J m) (d:Nat) {av:z7} (hv:m∉av.ids):zJ g (J.set d av) m:=by
 refine ⟨h.z6,h.row,h.box,fun i x hx=>?_,h.cells⟩;simp only [St.set,GJ] at hx
 cases hb:Nat.beq i d with
 | true=>rw [hb] at hx;simp at hx;subst hx;exact hv
 | false=>rw [hb] at hx;exact h.zk i x hx
theorem zJ.kB {g:z8} {J:St} {m:Nat} (h:zJ g J m) (d:Option Nat):zJ g (J.kB d) m:=by
 cases d with
 | none=>exact h
 | some d=>
  refine ⟨h.z6,h.row,h.box,fun i x hx=>?_,h.cells⟩;simp only [St.kB,GJ] at hx
  cases hb:Nat.beq i d with
  | true=>rw [hb] at hx;simp at hx
  | false=>rw [hb] at hx;exact h.zk i x hx
theorem pg {c:Ctx} {J:St} {d:Option Nat} {av:z7} {k:St->Option R} {r:R} (h:J.y6 c d av k=some r) :
  (d=none/\k J=some r)\/∃ i,d=some i/\i < c.ntmps/\k (J.set i av)=some r:=by
 cases d with
 | none=>exact .inl ⟨rfl,h⟩
 | some i=>
  simp only [St.y6] at h
  cases hb:Nat.blt i c.ntmps with
  | false=>rw [hb] at h;simp at h
  | true=>
   rw [hb] at h;refine .inr ⟨i,rfl,?_,h⟩;have:=zL hb;omega
structure vd (P:Program) (o:Oper) (a:Act) (w:World) (g:z8) (J:St) (c:Ctx) (k:St->Option R) (r:R):Prop where
 out:∃ av v,(∀ w',Nt o w w'->(execOp a.eval o).run P w' = .ok (.value v) w')/\zr w g J.z6 av v/\(∀ m,zJ g J m->m∉av.ids)/\J.y6 c o.dst av k=some r
theorem QD {P:Program} {o:Oper} {a:Act} {w:World} {c:Ctx} {J:St} {g:z8} {k:St->Option R} {r:R} {av:z7} {v:Value}
  (zc:∀ w',Nt o w w'->(execOp a.eval o).run P w' = .ok (.value v) w') (hv:zr w g J.z6 av v) (gB:∀ m,zJ g J m->m∉av.ids) (h:J.y6 c o.dst av k=some r):vd P o a w g J c k r:=
 ⟨av,v,zc,hv,gB,h⟩
theorem wp_pure {P:Program} {o:Oper} {a:Act} {w:World} {K:Act->World->Prop} {Q:Exit->Act->World->Prop} {c:Ctx} {J:St} {g:z8} {k:St->Option R} {r:R} {base:Nat} {mo:Bool}
  {av:z7} {v:Value} (zy:zG c.ntmps g w a J) (zc:(execOp a.eval o).run P w = .ok (.value v) w)
  (hv:zr w g J.z6 av v) (gB:∀ m,zJ g J m->m∉av.ids) (h:J.y6 c o.dst av k=some r) (hK:vu c.ntmps k r g w J base mo K):o.wp P a w K Q:=by
 unfold Oper.wp;rw [zc,Oper.upon_value];rcases pg h with ⟨hd,hk⟩ | ⟨i,hd,hi,hk⟩
 ·rw [hd];exact hK J g a w hk zy (Ext.refl _ _) (fun m _ hm=>hm) rfl (fun _=>jc.refl w)
 ·rw [hd];exact hK _ g _ w hk (zy.put hi hv) (Ext.refl _ _) (fun m _ hm=>hm.set i (gB m hm)) rfl (fun _=>jc.refl w)
theorem vd.wp {P:Program} {o:Oper} {a:Act} {w:World} {K:Act->World->Prop} {Q:Exit->Act->World->Prop} {c:Ctx} {J:St} {g:z8} {k:St->Option R} {r:R} {base:Nat} {mo:Bool}
  (hy:vd P o a w g J c k r) (zy:zG c.ntmps g w a J) (hK:vu c.ntmps k r g w J base mo K):o.wp P a w K Q:=by
 obtain ⟨av,v,h1,h2,h3,h4⟩:=hy.out;exact wp_pure zy (h1 w (Nt.refl o w)) h2 h3 h4 hK
theorem jT {w:World} {g:z8} {z6:qp} {k:IntKind} {n:Int} {v:Value} (h:zr w g z6 (.data (.int k) n) v):v = .int k n/\k.min<=n/\n<=k.max:=by
 simp only [zr] at h;obtain ⟨cs,⟨_,hc,h1,h2⟩,hv⟩:=h;subst hc;exact ⟨hv,h1,h2⟩
theorem vB {w:World} {g:z8} {z6:qp} {k:IntKind} {n:Int} (h:k.min<=n/\n<=k.max):zr w g z6 (.data (.int k) n) (.int k n):=by
 simp only [zr];exact ⟨[.int k n],⟨rfl,rfl,h⟩,rfl⟩
theorem xW {w:World} {g:z8} {z6:qp} {b:Bool} {v:Value} (h:zr w g z6 (.data .bool b) v):v = .bool b:=by
 simp only [zr] at h;obtain ⟨cs,⟨_,hc⟩,hv⟩:=h;cases hc;exact hv
theorem kZ {w:World} {g:z8} {z6:qp} (b:Bool):zr w g z6 (.data .bool b) (.bool b):=by
 simp only [zr];exact ⟨[.bool b],⟨rfl,rfl⟩,rfl⟩
theorem Gw {w:World} {g:z8} {z6:qp} {l:List UInt8} {v:Value} (h:zr w g z6 (.data .str l) v):∃ s:ByteArray,v = .string s/\s.data.toList=l/\s.size<=maxLen:=by
 simp only [zr] at h;obtain ⟨cs,⟨_,s,rfl,h1,h2⟩,hv⟩:=h;exact ⟨s,hv,h1,h2⟩
theorem WJ {w:World} {g:z8} {z6:qp} {l:List UInt8} {s:ByteArray} (h1:s.data.toList=l) (h2:s.size<=maxLen):zr w g z6 (.data .str l) (.string s):=by
 simp only [zr];exact ⟨[.string s],⟨rfl,s,rfl,h1,h2⟩,rfl⟩
theorem QU {w:World} {g:z8} {z6:qp} {v:Value}:zr w g z6 .qD v↔v = .slice none 0 0:=by
 simp only [zr];exact ⟨fun ⟨cs,h,hv⟩=>by cases h;exact hv,fun h=>⟨_,rfl,h⟩⟩
theorem vH (k:IntKind) (n:Int):k.min<=k.wrap n/\k.wrap n<=k.max:=by
 cases k <;> simp only [IntKind.wrap,IntKind.min,IntKind.max,IntKind.bits,IntKind.signed] <;> simp <;> (try split) <;> omega
theorem qF {n:Nat} {g:z8} {w:World} {a:Act} {J:St} (zy:zG n g w a J) {x:Operand} {av:z7} (h:ev J x=some av) :
  zr w g J.z6 av (a.eval x)/\∀ m,zJ g J m->m∉av.ids:=by
 cases x with
 | tmp t=>
  obtain ⟨v,hv,zS⟩:=zy.zk t av h;rw [z6p hv]
  exact ⟨zS,fun m hm=>hm.zk t av h⟩
 | const v=>
  cases v with
  | int k i=>
   simp only [ev] at h
   cases hb:(decide (k.min<=i) && decide (i<=k.max)) with
   | false=>rw [hb] at h;simp at h
   | true=>
    rw [hb] at h;simp only [zB,zI] at h;subst h;simp at hb
    exact ⟨vB hb,fun m _=>by simp [z7.ids]⟩
  | bool b=>
   simp only [ev,zI] at h;subst h
   exact ⟨kZ b,fun m _=>by simp [z7.ids]⟩
  | string s=>
   simp only [ev] at h
   cases hb:Nat.ble s.size 100000 with
   | false=>rw [hb] at h;simp at h
   | true=>
    rw [hb] at h;simp only [zB,zI] at h;subst h;refine ⟨?_,fun m _=>by simp [z7.ids]⟩;have:=zL hb;simp only [zr]
    exact ⟨[.string s],⟨rfl,s,rfl,rfl,by unfold maxLen;omega⟩,rfl⟩
  | slice b l cp=>
   cases b with
   | some _=>simp [ev] at h
   | none=>
    cases l with
    | succ _=>simp [ev] at h
    | zero=>
     cases cp with
     | succ _=>simp [ev] at h
     | zero=>
      simp only [ev,zI] at h;subst h
      exact ⟨QU.2 rfl,fun m _=>by simp [z7.ids]⟩
  | _=>simp [ev] at h
 | global b=>
  simp only [ev] at h;split at h
  ·rename_i e he;simp only [zI] at h;subst h;obtain ⟨h1,h2,_⟩:=zy.known b e he;refine ⟨?_,fun m _=>by simp [z7.ids]⟩;simp only [zr];exact ⟨[.pointer (some ⟨b,0,none⟩)],⟨h1,h2⟩,rfl⟩
  ·simp at h
 | func f=>
  simp only [ev,zI] at h;subst h;refine ⟨?_,fun m _=>by simp [z7.ids]⟩;simp only [zr];exact ⟨[.func (.func f) #[] #[]],⟨[],rfl,rfl⟩,rfl⟩
theorem Wv {n:Nat} {g:z8} {w:World} {a:Act} {J:St} (zy:zG n g w a J):{l:List Operand}->{av:z7}->evs J l=some av->
  qk w g J.z6 av (l.map a.eval)/\∀ m,zJ g J m->m∉av.ids
 | [],av,h=>by
  simp only [evs,zI] at h;subst h
  exact ⟨by simp [qk],fun m _=>by simp [z7.ids]⟩
 | x :: l,av,h=>by
  simp only [evs] at h;split at h
  ·rename_i a1 c1 h1 h2;simp only [zI] at h;subst h;have e1:=qF zy h1;have e2:=Wv zy h2;refine ⟨?_,fun m hm=>?_⟩
   ·simp only [qk,WY];exact ⟨_,_,rfl,e1.1,e2.1⟩
   ·simp only [z7.ids,U5,not_or];exact ⟨e1.2 m hm,e2.2 m hm⟩
  ·simp at h
end Go.Kz
namespace Go.Kz
variable {R:Type}
section
variable {P:Program} {o:Oper} {a:Act} {w:World} {K:Act->World->Prop} {Q:Exit->Act->World->Prop} {c:Ctx} {J:St} {g:z8} {k:St->Option R} {r:R} {base:Nat}
theorem OV {x:Operand} (ho:o.op = .move x\/o.op = .assign x) (zy:zG c.ntmps g w a J) (h:yG c J base o k=some r):vd P o a w g J c k r:=by
 rcases ho with ho | ho <;> simp only [yG,ho] at h <;> split at h
 ·rename_i av U3;obtain ⟨hv,hf⟩:=qF zy U3;exact QD (v:=a.eval x) (fun _ _=>by simp [execOp,ho]) hv hf h
 ·simp at h
 ·rename_i av U3;obtain ⟨hv,hf⟩:=qF zy U3;exact QD (v:=a.eval x) (fun _ _=>by simp [execOp,ho]) hv hf h
 ·simp at h
theorem zbj {t x y:Operand} (ho:o.op = .pick t x y) (zy:zG c.ntmps g w a J) (h:yG c J base o k=some r):vd P o a w g J c k r:=by
 simp only [yG,ho] at h;split at h
 ·rename_i b hb;have ht:=xW (qF zy hb).1
  cases b with
  | true=>
   simp only [zB] at h;split at h
   ·rename_i av U3;obtain ⟨hv,hf⟩:=qF zy U3;exact QD (v:=a.eval x) (fun _ _=>by simp [execOp,ho,ht,asBool]) hv hf h
   ·simp at h
  | false=>
   simp only [zU] at h;split at h
   ·rename_i av U3;obtain ⟨hv,hf⟩:=qF zy U3;exact QD (v:=a.eval y) (fun _ _=>by simp [execOp,ho,ht,asBool]) hv hf h
   ·simp at h
 ·simp at h
structure Plain (f:z7->Option R) (r:R) (s:Sem Value) (P:Program):Prop where
 out:∃ av v,f av=some r/\(∀ w,s.run P w = .ok v w)/\av.ids=[]/\∀ w g z6,zr w g z6 av v
theorem Plain.int {f:z7->Option R} {s:Sem Value} {k:IntKind} {n:Int} (h:f (.data (.int k) n)=some r) (hs:∀ w,s.run P w = .ok (.int k n) w) (hn:k.min<=n/\n<=k.max):Plain f r s P:=
 ⟨_,_,h,hs,rfl,fun _ _ _=>vB hn⟩
theorem Plain.bool {f:z7->Option R} {s:Sem Value} {b:Bool} (h:f (.data .bool b)=some r) (hs:∀ w,s.run P w = .ok (.bool b) w):Plain f r s P:=
 ⟨_,_,h,hs,rfl,fun _ _ _=>kZ b⟩
theorem bytes_beq (a b:ByteArray):(a.toList == b.toList)=decide (a.data.toList=b.data.toList):=by
 rw [ByteArray.toList_eq,ByteArray.toList_eq];by_cases h:a.data.toList=b.data.toList
 ·simp [h]
 ·rw [qO h,beq_eq_false_iff_ne];exact h
theorem Ta {op:BinOp} {x y:ByteArray} {f:z7->Option R} (T:TypeId) (h:NC op x.data.toList y.data.toList f=some r):Plain f r (binOp op T (.string x) (.string y)) P:=by
 cases op <;> simp only [NC] at h
 case add=>
  obtain ⟨hc,h⟩:decide (x.data.toList.length+y.data.toList.length<=room)=true/\f (.data .str (x.data.toList++y.data.toList))=some r:=by
   cases hb:decide (x.data.toList.length+y.data.toList.length<=room) with
   | true=>rw [hb] at h;exact ⟨rfl,h⟩
   | false=>rw [hb] at h;simp [qW] at h
  replace hc:=BI hc;simp only [room,vf] at hc;have hx:x.size=x.data.size:=rfl;have hy:y.size=y.data.size:=rfl;refine ⟨_,.string (x++y),h,fun w=>?_,rfl,fun _ _ _=>WJ (by simp) ?_⟩
  ·have:¬ ((x.size+y.size:Nat):Int) > IntKind.i64.max:=by
    simp only [IntKind.max,IntKind.bits,IntKind.signed];simp;omega
   simp only [binOp,Op.stringOp,this,Dh,Sem.run_pure]
  ·rw [ByteArray.size_append];simp only [maxLen];omega
 case eql=>exact .bool h (fun _=>by simp only [binOp,Op.stringOp,bytes_beq,Sem.run_pure])
 case neq=>exact .bool h (fun _=>by simp only [binOp,Op.stringOp,bytes_beq,Sem.run_pure])
 all_goals simp at h
theorem Tb {op:BinOp} {kd:IntKind} {x y:Int} {f:z7->Option R} (hx:kd.min<=x/\x<=kd.max) (T:TypeId) (AV:Ug op=false)
  (h:ND op kd x y f=some r):Plain f r (binOp op T (.int kd x) (.int kd y)) P:=by
 cases op <;> simp only [ND] at h <;> simp only [Ug] at AV
 case add=>exact .int h (fun _=>by simp [binOp,Op.intArith]) (vH _ _)
 case sub=>exact .int h (fun _=>by simp [binOp,Op.intArith]) (vH _ _)
 case mul=>exact .int h (fun _=>by simp [binOp,Op.intArith]) (vH _ _)
 case quo=>
  cases hb:(y == 0) with
  | true=>rw [hb] at h;simp at h
  | false=>
   rw [hb] at h;have hy:¬ y=0:=by simpa using hb
   exact .int h (fun _=>by simp [binOp,Op.intDiv,hy]) (vH _ _)
 case rem=>
  cases hb:(y == 0) with
  | true=>rw [hb] at h;simp at h
  | false=>
   rw [hb] at h;have hy:¬ y=0:=by simpa using hb
   refine .int h (fun _=>by simp [binOp,Op.intDiv,hy]) ?_;have h0:kd.min<=0/\0<=kd.max:=by cases kd <;> simp [IntKind.min,IntKind.max,IntKind.bits,IntKind.signed]
   have h3:(x.tmod y).natAbs<=x.natAbs:=by rw [Int.natAbs_tmod];exact Nat.mod_le _ _
   rcases Int.le_total 0 x with hp | hp
   ·have h1:=Int.tmod_nonneg y hp;omega
   ·have h1:x.tmod y<=0:=by
     have:=Int.tmod_nonneg y (a:=-x) (by omega);rw [Int.neg_tmod] at this;omega
    omega
 case and=>exact .int h (fun _=>by simp [binOp,Op.intBits]) (vH _ _)
 case or=>exact .int h (fun _=>by simp [binOp,Op.intBits]) (vH _ _)
 case xor=>exact .int h (fun _=>by simp [binOp,Op.intBits]) (vH _ _)
 case andNot=>exact .int h (fun _=>by simp [binOp,Op.intBits]) (vH _ _)
 case eql=>exact .bool h (fun _=>by simp [binOp,Op.intCmp])
 case neq=>exact .bool h (fun _=>by simp [binOp,Op.intCmp])
 case lss=>exact .bool h (fun _=>by simp [binOp,Op.intCmp])
 case leq=>exact .bool h (fun _=>by simp [binOp,Op.intCmp])
 case gtr=>exact .bool h (fun _=>by simp [binOp,Op.intCmp])
 case geq=>exact .bool h (fun _=>by simp [binOp,Op.intCmp])
 all_goals simp at AV h
theorem HN {op:BinOp} {kd j:IntKind} {x y:Int} {f:z7->Option R} (hx:kd.min<=x/\x<=kd.max) (T:TypeId)
  (h:XK op kd x y f=some r):Plain f r (binOp op T (.int kd x) (.int j y)) P:=by
 cases op <;> simp only [XK] at h
 case shl=>
  cases hb:decide (y < 0) with
  | true=>rw [hb] at h;simp at h
  | false=>
   rw [hb] at h;have hy:¬ y < 0:=by simpa using hb
   exact .int h (fun _=>by simp [binOp,Op.shift,hy]) (vH _ _)
 case shr=>
  cases hb:decide (y < 0) with
  | true=>rw [hb] at h;simp at h
  | false=>
   rw [hb] at h;have hy:¬ y < 0:=by simpa using hb
   refine .int h (fun _=>by simp [binOp,Op.shift,hy]) ?_;have h0:kd.min<=0/\0<=kd.max:=by cases kd <;> simp [IntKind.min,IntKind.max,IntKind.bits,IntKind.signed]
   have h2:(1:Int)<=2 ^ (min y.toNat kd.bits):=by
    have:=Nat.one_le_two_pow (n:=min y.toNat kd.bits)
    exact_mod_cast this
   generalize hz:(2:Int) ^ (min y.toNat kd.bits)=z at h2;rw [Z5m _ (by omega)];rcases Int.le_total 0 x with hp | hp
   ·have h3:=Z48 hp (show 0<=z by omega);have h4:=Z49 z hp;omega
   ·have h3:x / z<=0:=Int.ediv_le_of_le_mul (by omega) (by omega);have h4:x<=x / z:=by
     have:=Int.le_ediv_of_mul_le (a:=x) (b:=x) (c:=z) (by omega) (by
      have:=Int.mul_le_mul_of_nonpos_left (a:=x) (b:=z) (c:=1) hp h2;rw [Int.mul_one] at this;exact this)
     exact this
    omega
 all_goals simp at h
end
end Go.Kz
namespace Go.Kz
variable {R:Type}
theorem QR {a b:Nat}:(Nat.beq a b=true)=(a=b):=propext ⟨zE,fun h=>h ▸ Nc a⟩
def zeroCells:Ty->List Value
 | .int k=>[.int k 0]
 | .bool=>[.bool false]
 | .str=>[.string ByteArray.empty]
 | .unit=>[]
 | .pair a b=>zeroCells a++zeroCells b
 | .arr n t=>(List.replicate n (zeroCells t)).flatten
 | .sl _ _=>[.slice none 0 0]
 | .ptr _=>[.pointer none]
 | .fn f _=>cond (Nat.beq f 999983) [.map none] [.nilFunc]
 | .tree k=>zow k
structure yF (P:Program) (T:TypeId) (t:Ty):Prop where
 info:∃ i z,P.info? T=some i/\i.size=t.size/\i.bytes<=32768/\i.zero=some z/\z.cells.toList=zeroCells t/\0 < i.size
mutual
def qw (P:Program):Ty->TypeId->Prop
 | .int k,T=>P.underlying T=some (.int k)/\yF P T (.int k)
 | .bool,T=>P.underlying T=some .bool/\yF P T .bool
 | .str,T=>P.underlying T=some .string/\yF P T .str
 | .unit,_=>False
 | .pair a b,T=>(∃ fs,P.underlying T=some (.struct fs)/\jo P (.pair a b) fs.toList 0)/\yF P T (.pair a b)
 | .arr n t,T=>(∃ E,P.underlying T=some (.array n E)/\qw P t E)/\yF P T (.arr n t)
 | .sl o t,T=>(∃ E,P.underlying T=some (.slice E)/\qw P t E)/\yF P T (.sl o t)
 | .ptr t,T=>(∃ E,P.underlying T=some (.pointer E))/\yF P T (.ptr t)
 | .fn f c,T=>((∃ a b d,P.underlying T=some (.func a b d))\/∃ a b,P.underlying T=some (.map a b))/\yF P T (.fn f c)
 | .tree k,T=>(T=zbf k/\recOn k=true/\∃ fs,P.underlying T=some (.struct fs))/\yF P T (.tree k)
def jo (P:Program):Ty->List Field->Nat->Prop
 | .pair a b,f :: fs,off=>f.offset=off/\qw P a f.type/\jo P b fs (off+a.size)
 | .unit,[],_=>True
 | _,_,_=>False
end
theorem qw.info {P:Program} {t:Ty} {T:TypeId} (h:qw P t T):yF P T t:=by
 cases t <;> simp only [qw] at h <;> first | exact h.2 | exact h.elim
def z1l:Value->Value->Bool
 | .int j a,.int k b=>(match decEq j k with
   | isTrue _=>true
   | isFalse _=>false) && decide (a=b)
 | .bool a,.bool b=>a == b
 | .string a,.string b=>Nat.beq a.size 0 && Nat.beq b.size 0
 | .slice none a b,.slice none c d=>Nat.beq a c && Nat.beq b d
 | .pointer none,.pointer none=>true
 | .nilFunc,.nilFunc=>true
 | .map none,.map none=>true
 | _,_=>false
def GU:List Value->List Value->Bool
 | [],[]=>true
 | a :: l,b :: m=>z1l a b && GU l m
 | _,_=>false
theorem z1k {a b:Value} (h:z1l a b=true):a=b:=by
 unfold z1l at h;split at h
 ·rename_i j a k b;simp only [zA,yR] at h;obtain ⟨h1,rfl⟩:=h;split at h1
  ·rename_i h2 _;rw [h2]
  ·simp at h1
 ·simpa using h
 ·rename_i a b;simp only [zA,QR] at h;have ha:a=ByteArray.empty:=by
   cases a with | mk a=>congr 1;exact Z4v h.1
  have hb:b=ByteArray.empty:=by
   cases b with | mk a=>congr 1;exact Z4v h.2
  rw [ha,hb]
 ·simp only [zA,QR] at h;rw [h.1,h.2]
 ·rfl
 ·rfl
 ·rfl
 ·simp at h
theorem Cd:{a b:List Value}->GU a b=true->a=b
 | [],[],_=>rfl
 | a :: l,b :: m,h=>by
  simp only [GU,zA] at h
  rw [z1k h.1,Cd h.2]
 | [],_ :: _,h=>by simp [GU] at h
 | _ :: _,[],h=>by simp [GU] at h
def gY (P:Program) (T:TypeId) (t:Ty):Bool:=
 match P.info? T with
 | some i=>match i.zero with
  | some z=>Nat.beq i.size t.size && Nat.ble i.bytes 32768 && GU z.cells.toList (zeroCells t) && Nat.blt 0 i.size
  | none=>false
 | none=>false
theorem gT {P:Program} {T:TypeId} {t:Ty} (h:gY P T t=true):yF P T t:=by
 unfold gY at h;split at h
 ·rename_i i hi;split at h
  ·rename_i z hz;simp only [zA,QR] at h;exact ⟨⟨i,z,hi,h.1.1.1,zL h.1.1.2,hz,Cd h.1.2,zL h.2⟩⟩
  ·simp at h
 ·simp at h
def Qm (P:Program):Ty->(TypeId->Bool)×(List Field->Nat->Bool)
 | .int k=>(fun T=>(match P.underlying T with
  | some (.int j)=>(match decEq j k with
   | isTrue _=>true
   | isFalse _=>false)
  | _=>false) && gY P T (.int k),fun _ _=>false)
 | .bool=>(fun T=>(match P.underlying T with
  | some .bool=>true
  | _=>false) && gY P T .bool,fun _ _=>false)
 | .str=>(fun T=>(match P.underlying T with
  | some .string=>true
  | _=>false) && gY P T .str,fun _ _=>false)
 | .unit=>(fun _=>false,fun fs _=>match fs with
  | []=>true
  | _=>false)
 | .pair a b=>
  let f:List Field->Nat->Bool:=fun fs off=>match fs with
   | f :: fs=>Nat.beq f.offset off && (Qm P a).1 f.type && (Qm P b).2 fs (off+a.size)
   | []=>false
  (fun T=>(match P.underlying T with
   | some (.struct fs)=>f fs.toList 0
   | _=>false) && gY P T (.pair a b),f)
 | .arr n t=>(fun T=>(match P.underlying T with
  | some (.array m E)=>Nat.beq m n && (Qm P t).1 E
  | _=>false) && gY P T (.arr n t),fun _ _=>false)
 | .sl o t=>(fun T=>(match P.underlying T with
  | some (.slice E)=>(Qm P t).1 E
  | _=>false) && gY P T (.sl o t),fun _ _=>false)
 | .ptr t=>(fun T=>(match P.underlying T with
  | some (.pointer _)=>true
  | _=>false) && gY P T (.ptr t),fun _ _=>false)
 | .fn f c=>(fun T=>(match P.underlying T with
  | some (.func _ _ _)=>true
  | some (.map _ _)=>true
  | _=>false) && gY P T (.fn f c),fun _ _=>false)
 | .tree k=>(fun T=>(match P.underlying T with
  | some (.struct _)=>Nat.beq T (zbf k) && recOn k
  | _=>false) && gY P T (.tree k),fun _ _=>false)
def HY (P:Program) (t:Ty) (T:TypeId):Bool:=(Qm P t).1 T
def Om (P:Program) (t:Ty) (fs:List Field) (off:Nat):Bool:=(Qm P t).2 fs off
theorem zaw {P:Program} {k:IntKind} {T:TypeId}:HY P (.int k) T=((match P.underlying T with
  | some (.int j)=>(match decEq j k with
   | isTrue _=>true
   | isFalse _=>false)
  | _=>false) && gY P T (.int k)):=rfl
theorem z0w {P:Program} {T:TypeId}:HY P .bool T=((match P.underlying T with
  | some .bool=>true
  | _=>false) && gY P T .bool):=rfl
theorem zau {P:Program} {T:TypeId}:HY P .str T=((match P.underlying T with
  | some .string=>true
  | _=>false) && gY P T .str):=rfl
theorem zav {P:Program} {t:Ty} {T:TypeId}:HY P (.ptr t) T=((match P.underlying T with
  | some (.pointer _)=>true
  | _=>false) && gY P T (.ptr t)):=rfl
theorem zj1 {P:Program} {f:Nat} {c:Ty} {T:TypeId}:HY P (.fn f c) T=((match P.underlying T with
  | some (.func _ _ _)=>true
  | some (.map _ _)=>true
  | _=>false) && gY P T (.fn f c)):=rfl
theorem z0u {P:Program} {k:Nat} {T:TypeId}:HY P (.tree k) T=((match P.underlying T with
  | some (.struct _)=>Nat.beq T (zbf k) && recOn k
  | _=>false) && gY P T (.tree k)):=rfl
theorem z0v {P:Program} {a b:Ty} {T:TypeId}:HY P (.pair a b) T=((match P.underlying T with
  | some (.struct fs)=>Om P (.pair a b) fs.toList 0
  | _=>false) && gY P T (.pair a b)):=rfl
theorem zax {P:Program} {n:Nat} {t:Ty} {T:TypeId}:HY P (.arr n t) T=((match P.underlying T with
  | some (.array m E)=>Nat.beq m n && HY P t E
  | _=>false) && gY P T (.arr n t)):=rfl
theorem zj0 {P:Program} {o:Bool} {t:Ty} {T:TypeId}:HY P (.sl o t) T=((match P.underlying T with
  | some (.slice E)=>HY P t E
  | _=>false) && gY P T (.sl o t)):=rfl
theorem z5p {P:Program} {a b:Ty} {f:Field} {fs:List Field} {off:Nat}:Om P (.pair a b) (f :: fs) off=(Nat.beq f.offset off && HY P a f.type && Om P b fs (off+a.size)):=rfl
mutual
theorem tyB_ok {P:Program}:{t:Ty}->{T:TypeId}->HY P t T=true->qw P t T
 | .int k,T,h=>by
  simp only [zaw,zA] at h;simp only [qw];refine ⟨?_,gT h.2⟩;have h1:=h.1;split at h1
  ·rename_i j hj;split at h1
   ·rename_i hk _;rw [hj,hk]
   ·simp at h1
  ·simp at h1
 | .bool,T,h=>by
  simp only [z0w,zA] at h;simp only [qw];refine ⟨?_,gT h.2⟩;have h1:=h.1;split at h1
  ·rename_i hj;exact hj
  ·simp at h1
 | .str,T,h=>by
  simp only [zau,zA] at h;simp only [qw];refine ⟨?_,gT h.2⟩;have h1:=h.1;split at h1
  ·rename_i hj;exact hj
  ·simp at h1
 | .unit,_,h=>by simp [HY,Qm] at h
 | .pair a b,T,h=>by
  simp only [z0v,zA] at h;simp only [qw];refine ⟨?_,gT h.2⟩;have h1:=h.1;split at h1
  ·rename_i fs hj;exact ⟨fs,hj,z5q h1⟩
  ·simp at h1
 | .arr n t,T,h=>by
  simp only [zax,zA] at h;simp only [qw];refine ⟨?_,gT h.2⟩;have h1:=h.1;split at h1
  ·rename_i m E hj;simp only [zA,QR] at h1;exact ⟨E,by rw [hj,h1.1],tyB_ok h1.2⟩
  ·simp at h1
 | .sl o t,T,h=>by
  simp only [zj0,zA] at h;simp only [qw];refine ⟨?_,gT h.2⟩;have h1:=h.1;split at h1
  ·rename_i E hj;exact ⟨E,hj,tyB_ok h1⟩
  ·simp at h1
 | .ptr t,T,h=>by
  simp only [zav,zA] at h;simp only [qw];refine ⟨?_,gT h.2⟩;have h1:=h.1;split at h1
  ·rename_i E hj;exact ⟨E,hj⟩
  ·simp at h1
 | .tree k,T,h=>by
  simp only [z0u,zA] at h;simp only [qw];refine ⟨?_,gT h.2⟩;have h1:=h.1;split at h1
  ·rename_i fs hj;rw [zA] at h1;exact ⟨zE h1.1,h1.2,fs,hj⟩
  ·simp at h1
 | .fn f c,T,h=>by
  simp only [zj1,zA] at h;simp only [qw];refine ⟨?_,gT h.2⟩;have h1:=h.1;split at h1
  ·rename_i a b d hj;exact .inl ⟨a,b,d,hj⟩
  ·rename_i a b hj;exact .inr ⟨a,b,hj⟩
  ·simp at h1
theorem z5q {P:Program}:{t:Ty}->{fs:List Field}->{off:Nat}->Om P t fs off=true->jo P t fs off
 | .pair a b,f :: fs,off,h=>by
  simp only [z5p,zA,QR] at h;simp only [jo]
  exact ⟨h.1.1,tyB_ok h.1.2,z5q h.2⟩
 | .unit,[],_,_=>by simp only [jo]
 | .unit,_ :: _,_,h=>by simp [Om,Qm] at h
 | .pair _ _,[],_,h=>by simp [Om,Qm] at h
 | .int _,_,_,h=>by simp [Om,Qm] at h
 | .bool,_,_,h=>by simp [Om,Qm] at h
 | .str,_,_,h=>by simp [Om,Qm] at h
 | .arr _ _,_,_,h=>by simp [Om,Qm] at h
 | .sl _ _,_,_,h=>by simp [Om,Qm] at h
 | .ptr _,_,_,h=>by simp [Om,Qm] at h
 | .fn _ _,_,_,h=>by simp [Om,Qm] at h
 | .tree _,_,_,h=>by simp [Om,Qm] at h
end
def RecOK (P:Program):Prop:=∀ k,recOn k=true->qw P (.pair (uF k) (uE k)) (zbf k)
def gn (P:Program) (tt:Nat->Option Ty):Prop:=∀ T u,tt T=some u->qw P u T
def ttB (P:Program):List (Nat×Ty)->Bool
 | []=>true
 | (T,u) :: l=>HY P u T && ttB P l
theorem z0x {P:Program}:{l:List (Nat×Ty)}->ttB P l=true->gn P (yO l)
 | [],_,_,_,h=>by simp [yO] at h
 | (T,u) :: l,hb,T',u',h=>by
  simp only [ttB,zA] at hb;simp only [yO] at h
  cases he:Nat.beq T T' with
  | true=>
   rw [he] at h;simp only [zB,zI] at h;subst h;rw [<-zE he]
   exact tyB_ok hb.1
  | false=>
   rw [he] at h;exact z0x hb.2 T' u' h
end Go.Kz
namespace Go.Kz
variable {R:Type}
def V1:Ty->Path->Option Sk
 | t,[]=>some t.sk
 | .pair a _,.fst :: p=>V1 a p
 | .pair _ b,.snd :: p=>V1 b p
 | .arr _ t,.idx _ :: p=>V1 t p
 | .sl true t,.idx _ :: p=>V1 t p
 | _,_=>none
def WM:Ty->Path->Option Ty
 | t,[]=>some t
 | .pair a _,.fst :: p=>WM a p
 | .pair _ b,.snd :: p=>WM b p
 | .arr _ t,.idx _ :: p=>WM t p
 | .sl true t,.idx _ :: p=>WM t p
 | _,_=>none
theorem Xw:{t:Ty}->{p:Path}->{v:Ty}->WM t p=some (.sl true v)->jg t p=some v
 | t,[],v,h=>by
  simp only [WM,zI] at h
  subst h;rfl
 | .pair a _,.fst :: p,v,h=>by simp only [WM,jg] at h ⊢;exact Xw h
 | .pair _ b,.snd :: p,v,h=>by simp only [WM,jg] at h ⊢;exact Xw h
 | .arr _ t,.idx _ :: p,v,h=>by simp only [WM,jg] at h ⊢;exact Xw h
 | .sl true t,.idx _ :: p,v,h=>by simp only [WM,jg] at h ⊢;exact Xw h
 | .sl true _,.fst :: _,_,h | .sl true _,.snd :: _,_,h=>by simp [WM] at h
 | .sl false _,s :: _,_,h=>by cases s <;> simp [WM] at h
 | .int _,s :: _,_,h=>by cases s <;> simp [WM] at h
 | .bool,s :: _,_,h=>by cases s <;> simp [WM] at h
 | .str,s :: _,_,h=>by cases s <;> simp [WM] at h
 | .unit,s :: _,_,h=>by cases s <;> simp [WM] at h
 | .ptr _,s :: _,_,h=>by cases s <;> simp [WM] at h
 | .fn _ _,s :: _,_,h=>by cases s <;> simp [WM] at h
 | .tree _,s :: _,_,h=>by cases s <;> simp [WM] at h
 | .pair _ _,.idx _ :: _,_,h=>by simp [WM] at h
 | .arr _ _,.fst :: _,_,h | .arr _ _,.snd :: _,_,h=>by simp [WM] at h
theorem gg {g:z8} {id:Nat} {j:Int} {bk o n cp:Nat}:{t:Ty}->{pre:Path}->{b off:Nat}->{p:Path}->{v:Ty}->{x:Nat×Nat}->jg t p=some v->place g id t pre b off p=some x->
  g.sv id (pre++p) = .slice (some ⟨bk,o,none⟩) n cp->place g id t pre b off (p++[.idx j])=some (bk,o+j.toNat*v.size)
 | .sl true t,pre,b,off,[],v,x,hq,_,qf=>by
  simp only [jg,zI] at hq;subst hq;simp only [Di] at qf
  simp [place,qf]
 | .pair a _,pre,b,off,.fst :: p,v,x,hq,hp,qf=>by
  simp only [jg,place,xA] at hq hp ⊢
  exact gg hq hp (by rw [Gj];exact qf)
 | .pair _ c,pre,b,off,.snd :: p,v,x,hq,hp,qf=>by
  simp only [jg,place,xA] at hq hp ⊢
  exact gg hq hp (by rw [Gj];exact qf)
 | .arr _ t,pre,b,off,.idx i :: p,v,x,hq,hp,qf=>by
  simp only [jg,place,xA] at hq hp ⊢
  exact gg hq hp (by rw [Gj];exact qf)
 | .sl true t,pre,b,off,.idx i :: p,v,x,hq,hp,qf=>by
  simp only [jg,place,xA] at hq hp ⊢;split at hp
  ·exact gg hq hp (by rw [Gj];exact qf)
  ·simp at hp
 | .sl true _,_,_,_,.fst :: _,_,_,h,_,_ | .sl true _,_,_,_,.snd :: _,_,_,h,_,_=>by simp [jg] at h
 | .sl false _,_,_,_,p,_,_,h,_,_=>by cases p with | nil=>simp [jg] at h | cons s q=>cases s <;> simp [jg] at h
 | .int _,_,_,_,p,_,_,h,_,_=>by cases p with | nil=>simp [jg] at h | cons s q=>cases s <;> simp [jg] at h
 | .bool,_,_,_,p,_,_,h,_,_=>by cases p with | nil=>simp [jg] at h | cons s q=>cases s <;> simp [jg] at h
 | .str,_,_,_,p,_,_,h,_,_=>by cases p with | nil=>simp [jg] at h | cons s q=>cases s <;> simp [jg] at h
 | .unit,_,_,_,p,_,_,h,_,_=>by cases p with | nil=>simp [jg] at h | cons s q=>cases s <;> simp [jg] at h
 | .ptr _,_,_,_,p,_,_,h,_,_=>by cases p with | nil=>simp [jg] at h | cons s q=>cases s <;> simp [jg] at h
 | .fn _ _,_,_,_,p,_,_,h,_,_=>by cases p with | nil=>simp [jg] at h | cons s q=>cases s <;> simp [jg] at h
 | .tree _,_,_,_,p,_,_,h,_,_=>by cases p with | nil=>simp [jg] at h | cons s q=>cases s <;> simp [jg] at h
 | .pair _ _,_,_,_,[],_,_,h,_,_=>by simp [jg] at h
 | .pair _ _,_,_,_,.idx _ :: _,_,_,h,_,_=>by simp [jg] at h
 | .arr _ _,_,_,_,[],_,_,h,_,_=>by simp [jg] at h
 | .arr _ _,_,_,_,.fst :: _,_,_,h,_,_ | .arr _ _,_,_,_,.snd :: _,_,_,h,_,_=>by simp [jg] at h
theorem EP {p q:Path} (h:q.length < p.length):¬ p <+: q:=by
 rintro ⟨r,hr⟩;have:=Fo List.length hr;rw [VH] at this;omega
theorem Zx (l:List Value) (off n m:Nat) (h:off+(n+m)<=l.length):qS l off (n+m)=qS l off n++qS l (off+n) m:=by
 simp only [qS];rw [<-Nd,<-List.take_add]
theorem MX {l:List Value} {off:Nat} {x:Value} (h:off < l.length):qS (zD l off [x]) off 1=[x]:=uj l off [x] (by simp only [Z36];omega)
theorem No.side {w w':World} {g g':z8} {id b0:Nat} {p q:Path} (hn:No w g w' g' id p b0) (hq:∀ r,¬ p <+: q++r) (hB:∀ r,g.tag b0≠.row id (q++r)):xl w g w' g' id q id q:=
 ⟨fun r=>hn.sv _ (hq r),fun r b hb=>let h:=hn.qj _ b hb (hq r);⟨h.1,h.2 (fun he=>hB r (he ▸ hb))⟩⟩
def S4 (w:World) (g:z8) (id:Nat) (t:Ty):Prop:=
 ∀ {R:Type} {pre:Path} {d:t.den} {p:Path} {v:Ty} {k:(u:Ty)->u.den->Option R} {r:R} {b off:Nat} {c:Array Value} {e:TypeId} {pb:Path},
  jg t p=some v->g.tag b = .row id pb->pb.length < pre.length->w.heap[b]? = some (.cells c e (0,0))->off+t.size<=c.size->zH w g (some (id,pre)) t d (qS c.toList off t.size)->zb t d p k=some r->
  ∃ (l1:List v.den) (bh oh:Nat) (ch:Array Value) (eh:TypeId) (ph:Path),k (.sl true v) l1=some r/\place g id t pre b off p=some (bh,oh)/\g.tag bh = .row id ph/\ph.length < (pre++p).length/\
   w.heap[bh]? = some (.cells ch eh (0,0))/\oh < ch.size/\zH w g (some (id,pre++p)) (.sl true v) l1 (qS ch.toList oh 1)/\(bh=b\/(bh≠b/\pre <+: ph))/\
   ∀ (w':World) (g':z8) (l':List v.den) (x:Value),No w g w' g' id (pre++p) bh->w'.heap[bh]? = some (.cells (zD ch.toList oh [x]).toArray eh (0,0))->zH w' g' (some (id,pre++p)) (.sl true v) l' [x]->
    ∀ {R':Type} (f:t.den->Option R') (r':R'),jM t d p (.sl true v) l' f=some r'->
     ∃ d',f d'=some r'/\∃ c',w'.heap[b]? = some (.cells c' e (0,0))/\c'.size=c.size/\(∀ a n,a+n<=off\/off+t.size<=a->qS c'.toList a n=qS c.toList a n)/\zH w' g' (some (id,pre)) t d' (qS c'.toList off t.size)
theorem Gr {w:World} {g:z8} {id:Nat} {t:Ty} (ih:S4 w g id t) {pre:Path} {l:List t.den} {i:Int} {p:Path} {v:Ty} {k:(u:Ty)->u.den->Option R} {r:R} {hd:Value}
  (vJ:jg t p=some v) (zC:zH w g (some (id,pre)) (.sl true t) l [hd]) (h:zb (.sl true t) l (.idx i :: p) k=some r) :
  ∃ (l1:List v.den) (bh oh:Nat) (ch:Array Value) (eh:TypeId) (ph:Path),k (.sl true v) l1=some r/\(∀ b off,place g id (.sl true t) pre b off (.idx i :: p)=some (bh,oh))/\g.tag bh = .row id ph/\
   ph.length < (pre ++ .idx i :: p).length/\pre <+: ph/\w.heap[bh]? = some (.cells ch eh (0,0))/\oh < ch.size/\zH w g (some (id,pre ++ .idx i :: p)) (.sl true v) l1 (qS ch.toList oh 1)/\
   ∀ (w':World) (g':z8) (l':List v.den) (x:Value),No w g w' g' id (pre ++ .idx i :: p) bh->w'.heap[bh]? = some (.cells (zD ch.toList oh [x]).toArray eh (0,0))->zH w' g' (some (id,pre ++ .idx i :: p)) (.sl true v) l' [x]->
    ∀ {R':Type} (f:List t.den->Option R') (r':R'),jM (.sl true t) l (.idx i :: p) (.sl true v) l' f=some r'->∃ l2,f l2=some r'/\l2.length=l.length/\zH w' g' (some (id,pre)) (.sl true t) l2 [hd]:=by
 simp only [zb,WB] at h;obtain ⟨x,hx,h⟩:=h;obtain ⟨h0,hi,rfl,qx⟩:=ji hx;obtain ⟨a,cap,uR,qf,Po,Pt,vk⟩:=zC;have Mk:((i.toNat:Nat):Int)=i:=Z2v h0;rcases vk with ⟨_,hl,_⟩ | ⟨b,o,c,e,rfl,zM,zY,qC,js⟩
 ·rw [hl] at hi;simp at hi
 ·have ZF:(i.toNat+1)*t.size<=cap*t.size:=kn _ (by omega);rw [wB] at ZF;have xS:=js _ hi;rw [Mk] at xS;obtain ⟨l1,bh,oh,ch,eh,ph,hk,gV,jW,Hj,pJ,hoh,gJ,halt,hw⟩:=ih vJ zM (by simp) zY (by omega) xS h;have Cq:pre++[Step.idx i]++p=pre ++ .idx i :: p:=by simp
  rw [Cq] at Hj gJ;have pe:pre <+: ph:=by
   rcases halt with rfl | ⟨_,⟨z,hz⟩⟩
   ·rw [zM] at jW;simp only [Tag.row.injEq,Vq] at jW;rw [jW];exact Z4a _
   ·exact ⟨[.idx i]++z,by rw [<-hz];simp⟩
  refine ⟨l1,bh,oh,ch,eh,ph,hk,fun b' YK=>?_,jW,Hj,pe,pJ,hoh,gJ,fun w' g' l' x hn Cw UZ R' f r' kz=>?_⟩
  ·simp only [place,qf];exact gV
  ·simp only [jM] at kz;rw [hx] at kz;simp only [zP] at kz;obtain ⟨d',hf,c',GQ,Z3,xk,pc⟩:=hw w' g' l' x (by rw [Cq];exact hn) Cw (by rw [Cq];exact UZ) _ _ kz;have hnp:¬ (pre ++ .idx i :: p) <+: pre:=EP (by simp);refine ⟨_,hf,qH _ _ _,some ⟨b,o,none⟩,cap,by rw [qH];exact uR,by rw [qH,hn.sv _ hnp];exact qf,by rw [qH];exact Po,Pt,.inr ⟨b,o,c',e,rfl,(hn.qj _ b zM hnp).1,GQ,by rw [Z3];exact qC,fun j hj=>?_⟩⟩;have ZD:j < l.length:=by rw [qH] at hj;exact hj
   rw [Y3];by_cases Qb:i.toNat=j
   ·rw [yQ Qb];subst Qb;rw [Mk];exact pc
   ·rw [qZ Qb];have zqv:xl w g w' g' id (pre++[Step.idx (j:Int)]) id (pre++[Step.idx (j:Int)]):=by
     refine hn.side (fun z hz=>?_) (fun z hz=>?_)
     ·rw [Gj,Z4b] at hz;obtain ⟨y,hy⟩:=hz;simp only [xA,QP,BL,Step.idx.injEq] at hy;exact Qb (by rw [hy.1];simp)
     ·rw [jW] at hz;simp only [Tag.row.injEq,Vq] at hz;rcases halt with rfl | ⟨_,⟨y,hy⟩⟩
      ·rw [zM] at jW;simp only [Tag.row.injEq,Vq] at jW;rw [<-jW] at hz;have:=Fo List.length hz;simp at this
      ·rw [<-hy,Gj,Gj] at hz;have:=Z4c hz;simp only [xA,QP,BL,Step.idx.injEq] at this;exact Qb (by rw [this.1];simp)
    have:=zH.move hn.ro (o:=some (id,pre++[Step.idx (j:Int)])) (o':=some (id,pre++[Step.idx (j:Int)])) zqv (js j ZD);rw [xk _ _ (by
     rcases Z3n Qb with W5 | hgt
     ·right;have h3:(i.toNat+1)*t.size<=j*t.size:=kn _ W5;rw [wB] at h3;omega
     ·left;have h3:(j+1)*t.size<=i.toNat*t.size:=kn _ hgt;rw [wB] at h3;omega)]
    exact this
theorem focus (w:World) (g:z8) (id:Nat):(t:Ty)->S4 w g id t
 | .sl true t=>by
  rename_i R pre p v k r b off c e pb d;intro vJ zM hpb zY qC zC h;have gE:c.toList.length=c.size:=vf
  cases p with
  | nil=>
   simp only [jg,zI] at vJ;subst vJ;have h':k (.sl true t) d=some r:=by simpa [zb] using h
   have Ph:off+1<=c.size:=qC;refine ⟨d,b,off,c,e,pb,h',by simp [place],zM,by simpa using hpb,zY,by omega,by rw [Di];exact zC,.inl rfl,fun w' g' l' x hn Cw UZ R' f r' kz=>?_⟩;have zqy:u4 (.sl true t) (.sl true t) l' f=some r':=by simpa [jM] using kz
   obtain ⟨hh,hf⟩:=qe zqy;refine ⟨_,hf,_,Cw,by rw [Z2a,yI _ _ _ (by simp;omega),gE],fun a n han=>?_,?_⟩
   ·rcases han with han | han
    ·exact jv _ _ _ _ _ han (by omega)
    ·have q2e:off+1<=a:=han;exact vM _ _ _ _ _ (by simpa using q2e) (by simp;omega)
   ·show zH w' g' (some (id,pre)) (.sl true t) l' (qS (zD c.toList off [x]) off 1);rw [MX (by omega)]
    simpa using UZ
  | cons s q=>
   cases s with
   | fst=>simp [jg] at vJ
   | snd=>simp [jg] at vJ
   | idx i=>
    simp only [jg] at vJ;have Ph:off+1<=c.size:=qC;have hlen:(qS c.toList off 1).length=1:=yW (by omega);obtain ⟨hd,hhd⟩:=Z2i.1 hlen;have z4m:zH w g (some (id,pre)) (.sl true t) d [hd]:=by rw [<-hhd];exact zC
    obtain ⟨l1,bh,oh,ch,eh,ph,hk,gV,jW,Hj,pe,pJ,hoh,gJ,hw⟩:=Gr (focus w g id t) vJ z4m h;have je:bh≠b:=by
     intro he;subst he;rw [zM] at jW;simp only [Tag.row.injEq,Vq] at jW;subst jW;have:=pe.length_le;omega
    refine ⟨l1,bh,oh,ch,eh,ph,hk,gV b off,jW,Hj,pJ,hoh,gJ,.inr ⟨je,pe⟩,fun w' g' l' x hn Cw UZ R' f r' kz=>?_⟩;obtain ⟨l2,hf,hll,pc⟩:=hw w' g' l' x hn Cw UZ f r' kz;refine ⟨l2,hf,c,?_,rfl,fun _ _ _=>rfl,?_⟩
    ·rw [(hn.qj pb b zM (EP (by simp;omega))).2 (fun he=>je he.symm)];exact zY
    ·show zH w' g' (some (id,pre)) (.sl true t) l2 (qS c.toList off 1)
     rw [hhd];exact pc
 | .pair ta tb=>by
  rename_i R pre p v k r b off c e pb d;intro vJ zM hpb zY qC zC h;have gE:c.toList.length=c.size:=vf;obtain ⟨x,y⟩:=d;obtain ⟨c1,c2,hcc,h1,h2⟩:=zC;have hs:off+(ta.size+tb.size)<=c.size:=qC;have hsp:=Zx c.toList off ta.size tb.size (by omega);have Ib:qS c.toList off (ta.size+tb.size)=c1++c2:=hcc;rw [hsp] at Ib;obtain ⟨e1,e2⟩:=Z3o Ib (by rw [yW (by omega),h1.len]);rw [<-e1] at h1;rw [<-e2] at h2;have h1:zH w g (some (id,pre++[Step.fst])) ta x (qS c.toList off ta.size):=h1;have h2:zH w g (some (id,pre++[Step.snd])) tb y (qS c.toList (off+ta.size) tb.size):=h2
  cases p with
  | nil=>simp [jg] at vJ
  | cons s q=>
   cases s with
   | idx i=>simp [jg] at vJ
   | fst=>
    simp only [jg] at vJ;simp only [zb] at h;obtain ⟨l1,bh,oh,ch,eh,ph,hk,gV,jW,Hj,pJ,hoh,gJ,halt,hw⟩:=focus w g id ta (pre:=pre++[.fst]) vJ zM (by simp;omega) zY (by omega) h1 h;have Cq:pre++[Step.fst]++q=pre ++ .fst :: q:=by simp
    rw [Cq] at Hj gJ;refine ⟨l1,bh,oh,ch,eh,ph,hk,by simp only [place];exact gV,jW,Hj,pJ,hoh,gJ,halt.imp_right (fun z=>⟨z.1,(Z4w pre [.fst]).trans z.2⟩),fun w' g' l' x' hn Cw UZ R' f r' kz=>?_⟩;simp only [jM] at kz;obtain ⟨d',hf,c',GQ,Z3,xk,pc⟩:=hw w' g' l' x' (by rw [Cq];exact hn) Cw (by rw [Cq];exact UZ) _ _ kz;have U0:c'.toList.length=c'.size:=vf;refine ⟨_,hf,c',GQ,Z3,fun a n han=>xk a n (by have:(Ty.pair ta tb).size=ta.size+tb.size:=rfl;omega),qS c'.toList off ta.size,qS c'.toList (off+ta.size) tb.size,?_,pc,?_⟩
    ·exact Zx _ _ _ _ (by omega)
    ·rw [xk _ _ (.inr (yN _))];refine zH.move hn.ro (o:=some (id,pre++[Step.snd])) (o':=some (id,pre++[Step.snd])) (hn.side (fun z hz=>?_) (fun z hz=>?_)) h2
     ·rw [Gj,Z4b] at hz;obtain ⟨y',hy⟩:=hz;simp at hy
     ·rw [jW] at hz;simp only [Tag.row.injEq,Vq] at hz;rcases halt with rfl | ⟨_,⟨y',hy⟩⟩
      ·rw [zM] at jW;simp only [Tag.row.injEq,Vq] at jW;rw [<-jW] at hz;have:=Fo List.length hz;simp at this;omega
      ·rw [<-hy,Gj,Gj] at hz;have:=Z4c hz
       simp at this
   | snd=>
    simp only [jg] at vJ;simp only [zb] at h;obtain ⟨l1,bh,oh,ch,eh,ph,hk,gV,jW,Hj,pJ,hoh,gJ,halt,hw⟩:=focus w g id tb (pre:=pre++[.snd]) vJ zM (by simp;omega) zY (by omega) h2 h;have Cq:pre++[Step.snd]++q=pre ++ .snd :: q:=by simp
    rw [Cq] at Hj gJ;refine ⟨l1,bh,oh,ch,eh,ph,hk,by simp only [place];exact gV,jW,Hj,pJ,hoh,gJ,halt.imp_right (fun z=>⟨z.1,(Z4w pre [.snd]).trans z.2⟩),fun w' g' l' x' hn Cw UZ R' f r' kz=>?_⟩;simp only [jM] at kz;obtain ⟨d',hf,c',GQ,Z3,xk,pc⟩:=hw w' g' l' x' (by rw [Cq];exact hn) Cw (by rw [Cq];exact UZ) _ _ kz;have U0:c'.toList.length=c'.size:=vf;refine ⟨_,hf,c',GQ,Z3,fun a n han=>xk a n (by have:(Ty.pair ta tb).size=ta.size+tb.size:=rfl;omega),qS c'.toList off ta.size,qS c'.toList (off+ta.size) tb.size,?_,?_,pc⟩
    ·exact Zx _ _ _ _ (by omega)
    ·rw [xk _ _ (.inl (yN _))];refine zH.move hn.ro (o:=some (id,pre++[Step.fst])) (o':=some (id,pre++[Step.fst])) (hn.side (fun z hz=>?_) (fun z hz=>?_)) h1
     ·rw [Gj,Z4b] at hz;obtain ⟨y',hy⟩:=hz;simp at hy
     ·rw [jW] at hz;simp only [Tag.row.injEq,Vq] at hz;rcases halt with rfl | ⟨_,⟨y',hy⟩⟩
      ·rw [zM] at jW;simp only [Tag.row.injEq,Vq] at jW;rw [<-jW] at hz;have:=Fo List.length hz;simp at this;omega
      ·rw [<-hy,Gj,Gj] at hz;have:=Z4c hz
       simp at this
 | .arr n t=>by
  rename_i R pre p v k r b off c e pb d;intro vJ zM hpb zY qC zC h;have gE:c.toList.length=c.size:=vf;have hs:off+n*t.size<=c.size:=qC
  cases p with
  | nil=>simp [jg] at vJ
  | cons s q=>
   cases s with
   | fst=>simp [jg] at vJ
   | snd=>simp [jg] at vJ
   | idx i=>
    simp only [jg] at vJ;simp only [zb,WB] at h;obtain ⟨x,hx,h⟩:=h;obtain ⟨h0,hi,rfl,qx⟩:=ji hx;have Mk:((i.toNat:Nat):Int)=i:=Z2v h0;obtain ⟨Em,Po,js⟩:=zC;have V8:i.toNat < n:=by rw [<-Em];exact hi
    have hmul:(i.toNat+1)*t.size<=n*t.size:=kn _ V8;rw [wB] at hmul;have z5h:∀ (j:Nat) (hj:j < List.length d),zH w g (some (id,pre++[Step.idx (j:Int)])) t (List.get d ⟨j,hj⟩) (qS c.toList (off+j*t.size) t.size):=by
     intro j hj;have VP:j < n:=by rw [<-Em];exact hj
     have h3:(j+1)*t.size<=n*t.size:=kn _ VP;rw [wB] at h3;have:=js j hj;rw [show (Ty.arr n t).size=n*t.size from rfl,pP _ _ _ _ _ (by omega)] at this;exact this
    have xS:=z5h _ hi;rw [Mk] at xS;obtain ⟨l1,bh,oh,ch,eh,ph,hk,gV,jW,Hj,pJ,hoh,gJ,halt,hw⟩:=focus w g id t (pre:=pre++[.idx i]) vJ zM (by simp;omega) zY (by omega) xS h;have Cq:pre++[Step.idx i]++q=pre ++ .idx i :: q:=by simp
    rw [Cq] at Hj gJ;refine ⟨l1,bh,oh,ch,eh,ph,hk,by simp only [place];exact gV,jW,Hj,pJ,hoh,gJ,halt.imp_right (fun z=>⟨z.1,(Z4w pre [.idx i]).trans z.2⟩),fun w' g' l' x' hn Cw UZ R' f r' kz=>?_⟩;simp only [jM] at kz;rw [hx] at kz;simp only [zP] at kz;obtain ⟨d',hf,c',GQ,Z3,xk,pc⟩:=hw w' g' l' x' (by rw [Cq];exact hn) Cw (by rw [Cq];exact UZ) _ _ kz;have U0:c'.toList.length=c'.size:=vf;refine ⟨_,hf,c',GQ,Z3,fun a m han=>xk a m (by have:(Ty.arr n t).size=n*t.size:=rfl;omega),by rw [qH];exact Em,by rw [yW (by rw [U0,Z3];exact qC)];rfl,fun j hj=>?_⟩;have ZD:j < List.length d:=by rw [qH] at hj;exact hj
    have VP:j < n:=by rw [<-Em];exact ZD
    have h3:(j+1)*t.size<=n*t.size:=kn _ VP;rw [wB] at h3;rw [show (Ty.arr n t).size=n*t.size from rfl,pP _ _ _ _ _ (by omega),Y3];by_cases Qb:i.toNat=j
    ·rw [yQ Qb];subst Qb;show zH w' g' (some (id,pre++[Step.idx ((i.toNat:Nat):Int)])) t d' _;rw [Mk];exact pc
    ·rw [qZ Qb,xk _ _ (by
      rcases Z3n Qb with W5 | hgt
      ·right;have h3:(i.toNat+1)*t.size<=j*t.size:=kn _ W5;rw [wB] at h3;omega
      ·left;have h3:(j+1)*t.size<=i.toNat*t.size:=kn _ hgt;rw [wB] at h3;omega)]
     refine zH.move hn.ro (o:=some (id,pre++[Step.idx (j:Int)])) (o':=some (id,pre++[Step.idx (j:Int)])) (hn.side (fun z hz=>?_) (fun z hz=>?_)) (z5h j ZD)
     ·rw [Gj,Z4b] at hz;obtain ⟨y,hy⟩:=hz;simp only [xA,QP,BL,Step.idx.injEq] at hy;exact Qb (by rw [hy.1];simp)
     ·rw [jW] at hz;simp only [Tag.row.injEq,Vq] at hz;rcases halt with rfl | ⟨_,⟨y,hy⟩⟩
      ·rw [zM] at jW;simp only [Tag.row.injEq,Vq] at jW;rw [<-jW] at hz;have:=Fo List.length hz;simp at this;omega
      ·rw [<-hy,Gj,Gj] at hz;have:=Z4c hz;simp only [xA,QP,BL,Step.idx.injEq] at this
       exact Qb (by rw [this.1];simp)
 | .int _ | .bool | .str | .unit | .sl false _ | .ptr _ | .fn _ _ | .tree _=>by
  intro vJ;simp [jg] at vJ
theorem z2y {w:World} {g:z8} {id:Nat}:{t:Ty}->{pre:Path}->{d:t.den}->{p:Path}->{k:(u:Ty)->u.den->Option R}->{r:R}->{b off:Nat}->{c:Array Value}->{e:TypeId}->{pb:Path}->
  g.tag b = .row id pb->w.heap[b]? = some (.cells c e (0,0))->off+t.size<=c.size->zH w g (some (id,pre)) t d (qS c.toList off t.size)->zb t d p k=some r->
  ∃ (u:Ty) (x:u.den) (bh oh:Nat) (ch:Array Value) (eh:TypeId) (ph:Path),k u x=some r/\place g id t pre b off p=some (bh,oh)/\V1 t p=some u.sk/\WM t p=some u/\g.tag bh = .row id ph/\
   w.heap[bh]? = some (.cells ch eh (0,0))/\oh+u.size<=ch.size/\zH w g (some (id,pre++p)) u x (qS ch.toList oh u.size)
 | t,pre,d,[],k,r,b,off,c,e,pb,zM,zY,qC,zC,h=>by
  have h':k t d=some r:=by cases t <;> simpa [zb] using h
  exact ⟨t,d,b,off,c,e,pb,h',by simp [place],by simp [V1],by simp [WM],zM,zY,qC,by simpa using zC⟩
 | .pair ta tb,pre,(x,y),.fst :: q,k,r,b,off,c,e,pb,zM,zY,qC,zC,h=>by
  have gE:c.toList.length=c.size:=vf;simp only [zb] at h;obtain ⟨c1,c2,hcc,h1,h2⟩:=zC;have hs:off+(ta.size+tb.size)<=c.size:=qC;have Ib:qS c.toList off (ta.size+tb.size)=c1++c2:=hcc;rw [Zx c.toList off ta.size tb.size (by omega)] at Ib;obtain ⟨e1,e2⟩:=Z3o Ib (by rw [yW (by omega),h1.len]);rw [<-e1] at h1;have h1:zH w g (some (id,pre++[Step.fst])) ta x (qS c.toList off ta.size):=h1;have:=z2y (pre:=pre++[.fst]) zM zY (by omega) h1 h
  simpa [place,V1,WM] using this
 | .pair ta tb,pre,(x,y),.snd :: q,k,r,b,off,c,e,pb,zM,zY,qC,zC,h=>by
  have gE:c.toList.length=c.size:=vf;simp only [zb] at h;obtain ⟨c1,c2,hcc,h1,h2⟩:=zC;have hs:off+(ta.size+tb.size)<=c.size:=qC;have Ib:qS c.toList off (ta.size+tb.size)=c1++c2:=hcc;rw [Zx c.toList off ta.size tb.size (by omega)] at Ib;obtain ⟨e1,e2⟩:=Z3o Ib (by rw [yW (by omega),h1.len]);rw [<-e2] at h2;have h2:zH w g (some (id,pre++[Step.snd])) tb y (qS c.toList (off+ta.size) tb.size):=h2;have:=z2y (pre:=pre++[.snd]) zM zY (by omega) h2 h
  simpa [place,V1,WM] using this
 | .arr n t,pre,d,.idx i :: q,k,r,b,off,c,e,pb,zM,zY,qC,zC,h=>by
  have gE:c.toList.length=c.size:=vf;have hs:off+n*t.size<=c.size:=qC;simp only [zb,WB] at h;obtain ⟨x,hx,h⟩:=h;obtain ⟨h0,hi,rfl,qx⟩:=ji hx;have Mk:((i.toNat:Nat):Int)=i:=Z2v h0;obtain ⟨Em,Po,js⟩:=zC;have V8:i.toNat < n:=by rw [<-Em];exact hi
  have hmul:(i.toNat+1)*t.size<=n*t.size:=kn _ V8;rw [wB] at hmul;have xS:zH w g (some (id,pre++[Step.idx ((i.toNat:Nat):Int)])) t _ _:=js _ hi;rw [Mk,show (Ty.arr n t).size=n*t.size from rfl,pP _ _ _ _ _ (by omega)] at xS;have:=z2y (pre:=pre++[.idx i]) zM zY (by omega) xS h
  simpa [place,V1,WM] using this
 | .sl true t,pre,d,.idx i :: q,k,r,b,off,c,e,pb,zM,zY,qC,zC,h=>by
  simp only [zb,WB] at h;obtain ⟨x,hx,h⟩:=h;obtain ⟨h0,hi,rfl,qx⟩:=ji hx;have Mk:((i.toNat:Nat):Int)=i:=Z2v h0;obtain ⟨a,cap,uR,qf,Po,Pt,vk⟩:=zC;rcases vk with ⟨_,hl,_⟩ | ⟨b2,o2,c2,e2,rfl,Du,Qp,Z3,js⟩
  ·rw [hl] at hi;simp at hi
  ·have ZF:(i.toNat+1)*t.size<=cap*t.size:=kn _ (by omega);rw [wB] at ZF;have xS:=js _ hi;rw [Mk] at xS;have:=z2y (pre:=pre++[.idx i]) Du Qp (by omega) xS h
   simpa [place,V1,WM,qf] using this
 | .sl true _,_,_,.fst :: _,_,_,_,_,_,_,_,_,_,_,_,h=>by simp [zb] at h
 | .sl true _,_,_,.snd :: _,_,_,_,_,_,_,_,_,_,_,_,h=>by simp [zb] at h
 | .sl false _,_,_,s :: _,_,_,_,_,_,_,_,_,_,_,_,h=>by cases s <;> simp [zb] at h
 | .int _,_,_,s :: _,_,_,_,_,_,_,_,_,_,_,_,h=>by cases s <;> simp [zb] at h
 | .bool,_,_,s :: _,_,_,_,_,_,_,_,_,_,_,_,h=>by cases s <;> simp [zb] at h
 | .str,_,_,s :: _,_,_,_,_,_,_,_,_,_,_,_,h=>by cases s <;> simp [zb] at h
 | .unit,_,_,s :: _,_,_,_,_,_,_,_,_,_,_,_,h=>by cases s <;> simp [zb] at h
 | .ptr _,_,_,s :: _,_,_,_,_,_,_,_,_,_,_,_,h=>by cases s <;> simp [zb] at h
 | .fn _ _,_,_,s :: _,_,_,_,_,_,_,_,_,_,_,_,h=>by cases s <;> simp [zb] at h
 | .tree _,_,_,s :: _,_,_,_,_,_,_,_,_,_,_,_,h=>by cases s <;> simp [zb] at h
 | .pair _ _,_,(_,_),.idx _ :: _,_,_,_,_,_,_,_,_,_,_,_,h=>by simp [zb] at h
 | .arr _ _,_,_,.fst :: _,_,_,_,_,_,_,_,_,_,_,_,h=>by simp [zb] at h
 | .arr _ _,_,_,.snd :: _,_,_,_,_,_,_,_,_,_,_,_,h=>by simp [zb] at h
theorem JO {w:World} {g:z8} {J:St} (hh:yY w g J.z6) {pt:Bool} {id:Nat} {p:Path} {ep:Nat} {k:(u:Ty)->u.den->Option R} {r:R} (h:K4 J pt id p ep k=some r) :
  ∃ t l e i,J.z6 id=some (.nest t l e i none)/\Iy pt p e i=ep/\zH w g (some (id,[])) (.sl true t) l [g.sv id []]/\zb (.sl true t) l p k=some r:=by
 unfold K4 at h;split at h
 ·rename_i t l e i ho
  cases hb:Nat.beq (Iy pt p e i) ep with
  | false=>rw [hb] at h;simp at h
  | true=>
   rw [hb] at h;exact ⟨t,l,e,i,ho,zE hb,hh.z6 id _ ho,h⟩
 ·simp at h
theorem x9 {w:World} {g:z8} {id:Nat} {t:Ty} {l:List t.den} {s:Step} {p:Path} {k:(u:Ty)->u.den->Option R} {r:R} (zC:zH w g (some (id,[])) (.sl true t) l [g.sv id []])
  (h:zb (.sl true t) l (s :: p) k=some r):∃ (u:Ty) (x:u.den) (bh oh:Nat) (ch:Array Value) (eh:TypeId) (ph:Path),k u x=some r/\place g id (.sl true t) [] 0 0 (s :: p)=some (bh,oh)/\
   V1 (.sl true t) (s :: p)=some u.sk/\WM (.sl true t) (s :: p)=some u/\g.tag bh = .row id ph/\w.heap[bh]? = some (.cells ch eh (0,0))/\oh+u.size<=ch.size/\zH w g (some (id,s :: p)) u x (qS ch.toList oh u.size):=by
 cases s with
 | fst=>simp [zb] at h
 | snd=>simp [zb] at h
 | idx i=>
  simp only [zb,WB] at h;obtain ⟨x,hx,h⟩:=h;obtain ⟨h0,hi,rfl,qx⟩:=ji hx;have Mk:((i.toNat:Nat):Int)=i:=Z2v h0;obtain ⟨a,cap,uR,qf,Po,Pt,vk⟩:=zC;rcases vk with ⟨_,hl,_⟩ | ⟨b2,o2,c2,e2,rfl,Du,Qp,Z3,js⟩
  ·rw [hl] at hi;simp at hi
  ·have ZF:(i.toNat+1)*t.size<=cap*t.size:=kn _ (by omega);rw [wB] at ZF;have xS:=js _ hi;rw [Mk] at xS;have:=z2y (pre:=[.idx i]) Du Qp (by omega) xS h;simpa [place,V1,WM,qf] using this
theorem Uv {w:World} {g:z8} {J:St} (hh:yY w g J.z6) {id:Nat} {p:Path} {ep:Nat} {k:(v:Ty)->List v.den->Option R} {r:R} (h:Xm J id p ep k=some r) :
  ∃ t l0 e i v l,J.z6 id=some (.nest t l0 e i none)/\Iy false p e i=ep/\zH w g (some (id,p)) (.sl true v) l [g.sv id p]/\k v l=some r/\jg (.sl true t) p=some v/\∃ x,place g id (.sl true t) [] 0 0 p=some x:=by
 unfold Xm at h;obtain ⟨t,l0,e,i,ho,IM,zC,h⟩:=JO hh h
 cases p with
 | nil=>
  have h':k t l0=some r:=by simpa [zb] using h
  exact ⟨t,l0,e,i,t,l0,ho,IM,zC,h',rfl,(0,0),by simp [place]⟩
 | cons s q=>
  obtain ⟨u,x,bh,oh,ch,eh,ph,hk,gV,_,YS,_,_,_,hr⟩:=x9 zC h
  cases u with
  | sl o v=>
   cases o with
   | false=>simp at hk
   | true=>
    refine ⟨t,l0,e,i,v,x,ho,IM,?_,hk,Xw YS,_,gV⟩;obtain ⟨a,cap,uR,qf,h1⟩:=hr
    exact ⟨a,cap,by rw [qf],qf,h1⟩
  | _=>simp at hk
end Go.Kz
namespace Go.Kz
variable {R:Type}
def Ci (g:z8):z8:={ g with tag:=fun b=>match g.tag b with
 | .zt=>.zt
 | _=>.ro }
theorem Y8 (w:World) (g:z8):zT w g w (Ci g):=⟨fun b hb=>⟨by simp [Ci,hb],rfl⟩⟩
theorem Q4 (w:World) (g:z8) (id:Nat) (p:Path):QC w g w (Ci g) id p:=⟨fun q b hb=>⟨by simp [Ci,hb],rfl⟩⟩
theorem Ov {g:z8} {b id:Nat} {p:Path} (h:g.tag b = .row id p):(Ci g).tag b = .ro:=by simp [Ci,h]
theorem Ty.gz:(t:Ty)->t.ro.zW=true
 | .int _=>rfl
 | .bool=>rfl
 | .str=>rfl
 | .unit=>rfl
 | .pair a b=>by simp [Ty.ro,Ty.zW,Ty.gz a,Ty.gz b]
 | .arr _ t=>by simp [Ty.ro,Ty.zW,Ty.gz t]
 | .sl _ t=>by simp [Ty.ro,Ty.zW,Ty.gz t]
 | .ptr t=>by simp [Ty.ro,Ty.zW,Ty.gz t]
 | .fn _ c=>by simp [Ty.ro,Ty.zW,Ty.gz c]
 | .tree _=>rfl
theorem ZI:{t:Ty}->{d:t.den}->{p:Path}->{k:(u:Ty)->u.den->Option R}->{r:R}->t.zW=true->zb t d p k=some r->
  ∃ u e,k u e=some r/\u.zW=true
 | t,d,[],k,r,ht,h=>⟨t,d,by cases t <;> simpa [zb] using h,ht⟩
 | .pair a b,(x,y),.fst :: p,k,r,ht,h=>by
  simp only [zb] at h;simp only [Ty.zW,zA] at ht
  exact ZI ht.1 h
 | .pair a b,(x,y),.snd :: p,k,r,ht,h=>by
  simp only [zb] at h;simp only [Ty.zW,zA] at ht
  exact ZI ht.2 h
 | .arr n t,l,.idx i :: p,k,r,ht,h=>by
  simp only [zb,WB] at h;obtain ⟨x,_,h⟩:=h
  exact ZI (by simpa [Ty.zW] using ht) h
 | .sl true t,l,.idx i :: p,k,r,ht,h=>by simp [Ty.zW] at ht
 | .sl false t,l,s :: p,k,r,ht,h=>by cases s <;> simp [zb] at h
 | .sl true t,l,.fst :: p,k,r,ht,h=>by simp [zb] at h
 | .sl true t,l,.snd :: p,k,r,ht,h=>by simp [zb] at h
 | .int _,_,s :: _,_,_,_,h=>by cases s <;> simp [zb] at h
 | .bool,_,s :: _,_,_,_,h=>by cases s <;> simp [zb] at h
 | .str,_,s :: _,_,_,_,h=>by cases s <;> simp [zb] at h
 | .unit,_,s :: _,_,_,_,h=>by cases s <;> simp [zb] at h
 | .ptr _,_,s :: _,_,_,_,h=>by cases s <;> simp [zb] at h
 | .fn _ _,_,s :: _,_,_,_,h=>by cases s <;> simp [zb] at h
 | .tree _,_,s :: _,_,_,_,h=>by cases s <;> simp [zb] at h
 | .pair _ _,_,.idx _ :: _,_,_,_,h=>by simp [zb] at h
 | .arr _ _,_,.fst :: _,_,_,_,h=>by simp [zb] at h
 | .arr _ _,_,.snd :: _,_,_,_,h=>by simp [zb] at h
theorem px {g:z8} {id:Nat}:{t:Ty}->{pre:Path}->{b off:Nat}->{q:Path}->{o:Nat}->{s:Sk}->t.sk.off q=some (o,s)->place g id t pre b off q=some (b,off+o)
 | t,pre,b,off,[],o,s,h=>by
  simp only [Sk.off,zI,gP] at h;obtain ⟨rfl,_⟩:=h
  simp [place]
 | .pair a c,pre,b,off,.fst :: q,o,s,h=>by
  simp only [Ty.sk,Sk.off] at h;simp only [place]
  exact px h
 | .pair a c,pre,b,off,.snd :: q,o,s,h=>by
  simp only [Ty.sk,Sk.off,wU,gP] at h;obtain ⟨⟨o',s'⟩,h,rfl,rfl⟩:=h
  simp only [place,px h,Ty.zQ,S0]
 | .arr n t,pre,b,off,.idx i :: q,o,s,h=>by
  simp only [Ty.sk,Sk.off] at h;split at h
  ·simp only [wU,gP] at h;obtain ⟨⟨o',s'⟩,h,rfl,rfl⟩:=h;simp only [place,px h,Ty.zQ,S0]
  ·simp at h
 | .int _,_,_,_,s :: _,_,_,h=>by cases s <;> simp [Ty.sk,Sk.off] at h
 | .bool,_,_,_,s :: _,_,_,h=>by cases s <;> simp [Ty.sk,Sk.off] at h
 | .str,_,_,_,s :: _,_,_,h=>by cases s <;> simp [Ty.sk,Sk.off] at h
 | .unit,_,_,_,s :: _,_,_,h=>by cases s <;> simp [Ty.sk,Sk.off] at h
 | .ptr _,_,_,_,s :: _,_,_,h=>by cases s <;> simp [Ty.sk,Sk.off] at h
 | .fn _ _,_,_,_,s :: _,_,_,h=>by cases s <;> simp [Ty.sk,Sk.off] at h
 | .tree _,_,_,_,s :: _,_,_,h=>by cases s <;> simp [Ty.sk,Sk.off] at h
 | .sl _ _,_,_,_,s :: _,_,_,h=>by cases s <;> simp [Ty.sk,Sk.off] at h
 | .pair _ _,_,_,_,.idx _ :: _,_,_,h=>by simp [Ty.sk,Sk.off] at h
 | .arr _ _,_,_,_,.fst :: _,_,_,h=>by simp [Ty.sk,Sk.off] at h
 | .arr _ _,_,_,_,.snd :: _,_,_,h=>by simp [Ty.sk,Sk.off] at h
theorem Uq:{t:Ty}->{q:Path}->{o:Nat}->{s:Sk}->t.sk.off q=some (o,s)->V1 t q=some s
 | t,[],o,s,h=>by
  simp only [Sk.off,zI,gP] at h
  simp only [V1,h.2]
 | .pair a c,.fst :: q,o,s,h=>by
  simp only [Ty.sk,Sk.off] at h
  simp only [V1];exact Uq h
 | .pair a c,.snd :: q,o,s,h=>by
  simp only [Ty.sk,Sk.off,wU,gP] at h;obtain ⟨⟨o',s'⟩,h,rfl,rfl⟩:=h
  simp only [V1];exact Uq h
 | .arr n t,.idx i :: q,o,s,h=>by
  simp only [Ty.sk,Sk.off] at h;split at h
  ·simp only [wU,gP] at h;obtain ⟨⟨o',s'⟩,h,rfl,rfl⟩:=h;simp only [V1];exact Uq h
  ·simp at h
 | .int _,s :: _,_,_,h=>by cases s <;> simp [Ty.sk,Sk.off] at h
 | .bool,s :: _,_,_,h=>by cases s <;> simp [Ty.sk,Sk.off] at h
 | .str,s :: _,_,_,h=>by cases s <;> simp [Ty.sk,Sk.off] at h
 | .unit,s :: _,_,_,h=>by cases s <;> simp [Ty.sk,Sk.off] at h
 | .ptr _,s :: _,_,_,h=>by cases s <;> simp [Ty.sk,Sk.off] at h
 | .fn _ _,s :: _,_,_,h=>by cases s <;> simp [Ty.sk,Sk.off] at h
 | .tree _,s :: _,_,_,h=>by cases s <;> simp [Ty.sk,Sk.off] at h
 | .sl _ _,s :: _,_,_,h=>by cases s <;> simp [Ty.sk,Sk.off] at h
 | .pair _ _,.idx _ :: _,_,_,h=>by simp [Ty.sk,Sk.off] at h
 | .arr _ _,.fst :: _,_,_,h=>by simp [Ty.sk,Sk.off] at h
 | .arr _ _,.snd :: _,_,_,h=>by simp [Ty.sk,Sk.off] at h
theorem kj {w:World} {g:z8} {J:St} (hh:yY w g J.z6) {id:Nat} {p:Path} {ep:Nat} {k:(u:Ty)->List u.den->Option R} {r:R}
  (h:xu J id p ep k=some r):∃ t l,J.z6 id=some (.row t l ep)/\p=[]/\t.zW=true/\k t l=some r:=by
 unfold xu at h;split at h
 ·rename_i t l e ho;have zS:=hh.z6 id _ ho
  cases hb:Nat.beq e ep with
  | false=>rw [hb] at h;simp at h
  | true=>
   rw [hb] at h;have he:e=ep:=zE hb;subst he;simp only [zB,z1r] at h
   cases p with
   | nil=>
    have h':k t l=some r:=by simpa [zb] using h
    exact ⟨t,l,ho,rfl,zS.1,h'⟩
   | cons s q=>
    cases s with
    | idx i=>
     simp only [zb,WB] at h;obtain ⟨x,_,h⟩:=h;obtain ⟨u,e',hu,qu⟩:=ZI zS.1 h;split at hu
     ·simp [Ty.zW] at qu
     ·simp at hu
    | fst=>simp [zb] at h
    | snd=>simp [zb] at h
 ·simp at h
theorem ui {w:World} {g:z8} {J:St} (hh:yY w g J.z6) {id:Nat} {p:Path} {ep:Nat} {k:(u:Ty)->u.den->Option R} {r:R} (hp:p≠[])
  (h:pC J id p ep k=some r):∃ t l u e b off c ee,J.z6 id=some (.row t l ep)/\t.zW=true/\k u e=some r/\u.zW=true/\
   place g id (.sl true t) [] 0 0 p=some (b,off)/\V1 (.sl true t) p=some u.sk/\g.tag b = .row id []/\w.heap[b]? = some (.cells c ee (0,0))/\off+u.size<=c.size/\zH w g none u e (qS c.toList off u.size):=by
 unfold pC at h;split at h
 ·rename_i t l e ho;have zS:=hh.z6 id _ ho
  cases hb:Nat.beq e ep with
  | false=>rw [hb] at h;simp at h
  | true=>
   rw [hb] at h;have he:e=ep:=zE hb;subst he;simp only [zB,z1r] at h
   cases p with
   | nil=>exact absurd rfl hp
   | cons s q=>
    cases s with
    | idx i=>
     simp only [zb,WB] at h;obtain ⟨x,hx,h⟩:=h;obtain ⟨h0,hi,rfl,qx⟩:=ji hx;obtain ⟨a,cap,uR,qf,Po,Pt,vk⟩:=zS.2;rcases vk with ⟨_,hl,_⟩ | ⟨b,off,c,ee,ha,zM,zY,qC,KQ⟩
     ·rw [hl] at hi;simp at hi
     ·have js:=zH.y9 (o':=none) zS.1 (KQ _ hi);obtain ⟨u,e',o,hk,hu,jZ,hr⟩:=ZH zS.1 js h;have hle:=Sk.wi jZ;rw [Ty.zQ,Ty.zQ] at hle;have ZF:(i.toNat+1)*t.size<=cap*t.size:=kn _ (by omega);rw [wB] at ZF;refine ⟨t,l,u,e',b,off+i.toNat*t.size+o,c,ee,ho,zS.1,hk,hu,?_,by simp only [V1];exact Uq jZ,zM,zY,by omega,?_⟩
      ·simp only [place,qf,ha,QP];exact px jZ
      ·rw [pP _ _ _ _ _ hle] at hr
       exact hr
    | fst=>simp [zb] at h
    | snd=>simp [zb] at h
 ·simp at h
theorem CA {w:World} {g:z8} {J:St} (hh:yY w g J.z6) {id:Nat} {p:Path} {k:z7->Option R} {r:R}
  (h:JG J id p k=some r):∃ a a' off c e,J.z6 id=some (.cell a)/\k a'=some r/\a.sk.off p=some (off,a'.sk)/\
   w.heap[g.qj id]? = some (.cells c e (0,0))/\g.tag (g.qj id) = .box id/\off+a'.sk.size<=c.size/\jK w g J.z6 a c.toList/\jK w g J.z6 a' (qS c.toList off a'.sk.size)/\∀ m,m∉a.ids->m∉a'.ids:=by
 unfold JG at h;split at h
 ·rename_i a ho;obtain ⟨hnt,h⟩:=Vi h;obtain ⟨c,e,hc,ht,zS⟩:=(hh.z6 id _ ho).out hnt;obtain ⟨a',off,hk,jZ,hr,hi⟩:=ZL zS h;refine ⟨a,a',off,c,e,ho,hk,jZ,hc,ht,?_,zS,hr,hi⟩;have:=Sk.wi jZ;have h2:=zS.len;rw [vf] at h2;omega
 ·simp at h
theorem zew {w:World} {g:z8} {z6:qp} {id:Nat} {a x:z7} (hc:a.cont=some x) (h:zo w g z6 id (.cell a)) :
  ∃ c e,w.heap[g.qj id]? = some (.cells c e (0,0))/\(g.tag (g.qj id) = .box id\/g.tag (g.qj id) = .ro)/\jK w g z6 x c.toList/\x.sk=a.sk/\x.ids=a.ids:=by
 cases ht:a.wI with
 | true=>
  cases a <;> simp [z7.wI] at ht;rename_i c;cases c <;> simp [z7.cont] at hc
  ·subst hc;obtain ⟨c,e,h1,h2,h3⟩:=(zo.p5 rfl).1 h;exact ⟨c,e,h1,.inr h2,h3,rfl,rfl⟩
  ·subst hc;obtain ⟨c,e,h1,h2,h3⟩:=(zo.p5 rfl).1 h
   exact ⟨c,e,h1,.inr h2,h3,rfl,rfl⟩
 | false=>
  obtain ⟨c,e,h1,h2,h3⟩:=h.out ht;have hx:x=a:=by
   cases a <;> simp [z7.wI] at ht <;> simp [z7.cont] at hc <;> exact hc.symm
  subst hx;exact ⟨c,e,h1,.inl h2,h3,rfl,rfl⟩
theorem Zd {w:World} {g:z8} {J:St} (hh:yY w g J.z6) {id:Nat} {p:Path} {k:z7->Option R} {r:R}
  (h:Jm J id p k=some r):∃ a a' off c e,J.z6 id=some (.cell a)/\k a'=some r/\a.sk.off p=some (off,a'.sk)/\
   w.heap[g.qj id]? = some (.cells c e (0,0))/\(g.tag (g.qj id) = .box id\/g.tag (g.qj id) = .ro)/\off+a'.sk.size<=c.size/\jK w g J.z6 a' (qS c.toList off a'.sk.size)/\∀ m,m∉a.ids->m∉a'.ids:=by
 unfold Jm at h;split at h
 ·rename_i a ho;split at h
  ·rename_i x hx;obtain ⟨c,e,hc,ht,zS,wG,gB⟩:=zew hx (hh.z6 id _ ho);obtain ⟨a',off,hk,jZ,hr,hi⟩:=ZL zS h;refine ⟨a,a',off,c,e,ho,hk,by rw [<-wG];exact jZ,hc,ht,?_,hr,fun m hm=>hi m (by rw [gB];exact hm)⟩;have:=Sk.wi jZ;have h2:=zS.len;rw [vf] at h2;omega
  ·simp at h
 ·simp at h
theorem x3 {I:Type} (l:List I) (a b:Int) (h0:0<=a) (Jq:a<=b) (hb:b<=(l.length:Int)):(sub l a b).length=b.toNat-a.toNat:=by
 simp only [sub,P9,Hw];omega
theorem We {I:Type} (l:List I) (a b:Int) (i:Nat) (h:i < (sub l a b).length) (h':a.toNat+i < l.length):(sub l a b).get ⟨i,h⟩=l.get ⟨a.toNat+i,h'⟩:=by
 simp [sub,Z2w,Z37]
theorem zH.z0y {w:World} {g:z8} {k:Nat} {l:List (Rec k)} {cs:List Value}:zH w g none (.sl false (.tree k)) l cs↔zH w g none (.sl false (.pair (uF k) (uE k))) (List.map (vz k) l) cs:=by
 have hz:(Ty.tree k).size=(Ty.pair (uF k) (uE k)).size:=XF k;have hl:(List.map (vz k) l).length=List.length l:=Gy ..;have js:∀ (i:Nat) (h:i < List.length l) (h':i < (List.map (vz k) l).length) cs,zH w g none (.tree k) (List.get l ⟨i,h⟩) cs↔zH w g none (.pair (uF k) (uE k)) ((List.map (vz k) l).get ⟨i,h'⟩) cs:=fun i h h' cs=>by
  rw [zH.WO];simp
 constructor
 ·rintro ⟨a,cap,rfl,h1,h2,h3⟩;refine ⟨a,cap,?_,?_,h2,fun hn=>?_⟩
  ·show _=[Value.slice a (List.map (vz k) l).length cap];rw [hl]
  ·show (List.map (vz k) l).length<=cap;rw [hl];exact h1
  obtain ⟨b,off,c,e,fz,ha,ht,hb,hs,he⟩:=h3 (by intro h;apply hn;rw [h];rfl);refine ⟨b,off,c,e,fz,ha,ht,hb,?_,fun i hi=>?_⟩
  ·show off+(List.map (vz k) l).length*_<=_;rw [hl,<-hz];exact hs
  ·have wT:i < List.length l:=by rw [<-hl];exact hi
   have:=(js i wT hi _).1 (he i wT);rw [hz] at this;exact this
 ·rintro ⟨a,cap,rfl,h1,h2,h3⟩;have h1':(List.map (vz k) l).length<=cap:=h1;refine ⟨a,cap,?_,?_,h2,fun hn=>?_⟩
  ·show [Value.slice a (List.map (vz k) l).length cap]=_;rw [hl]
  ·rw [<-hl];exact h1
  obtain ⟨b,off,c,e,fz,ha,ht,hb,hs,he⟩:=h3 (by intro h;apply hn;exact List.map_eq_nil_iff.1 h);refine ⟨b,off,c,e,fz,ha,ht,hb,?_,fun i hi=>?_⟩
  ·have Hy:off+(List.map (vz k) l).length*(Ty.pair (uF k) (uE k)).size<=c.size:=hs;rw [hz,<-hl];exact Hy
  ·have wT:i < (List.map (vz k) l).length:=by rw [hl];exact hi
   have:=(js i hi wT _).2 (he i wT);rw [<-hz] at this;exact this
theorem A4 (k:Nat) (l:List ((uF k).den×(uE k).den)):List.map (vz k) (List.map (OQ k) l)=l:=by
 rw [Z4d];exact (Z4e fun y _=>Cs k y).trans (List.map_id l)
theorem Jv {a b:Ty} {d:a.den} {k:b.den->Option R} {r:R} (h:ZM a b d k=some r):a.sk=b.sk:=by
 unfold ZM at h;split at h
 ·rfl
 ·rfl
 ·obtain ⟨rfl,_⟩:=qe h;rfl
theorem vX {a b:Ty} {d:a.den} {k:b.den->Option R} {r:R} (h:ZM a b d k=some r) (ha:a.zW=true):∃ d',k d'=some r/\b.zW=true/\∀ w g cs,zH w g none a d cs->zH w g none b d' cs:=by
 unfold ZM at h;split at h
 ·obtain ⟨e,h⟩:=qe h;cases e;exact ⟨_,h,by simpa [Ty.zW] using z1w _,fun w g cs hr=>zH.z0y.1 hr⟩
 ·obtain ⟨e,h⟩:=qe h;cases e;refine ⟨_,h,rfl,fun w g cs hr=>zH.z0y.2 ?_⟩;rw [A4];exact hr
 ·obtain ⟨rfl,h⟩:=qe h;exact ⟨_,h,ha,fun _ _ _ hr=>hr⟩
theorem gG {w:World} {g:z8} {J:St} (hh:yY w g J.z6):(n:Nat)->{a:z7}->{t:Ty}->{k:t.den->Option R}->{r:R}->{cs:List Value}->
  jK w g J.z6 a cs->asData J n a t k=some r->∃ d,k d=some r/\t.zW=true/\zH w (Ci g) none t d cs
 | 0,_,_,_,_,_,_,h=>by simp [asData] at h
 | n+1,.data t' d,t,k,r,cs,zS,h=>by
  simp only [asData] at h;obtain ⟨_,h,qu,zC⟩:=vX h zS.1
  exact ⟨_,h,qu,zC _ _ _ (zS.2.kept (Y8 w g))⟩
 | n+1,.qD,t,k,r,cs,zS,h=>by
  simp only [asData] at h
  cases hb:t.zW with
  | false=>rw [hb] at h;simp at h
  | true=>
   rw [hb] at h
   cases t with
   | sl o t=>
    cases o with
    | true=>simp [Ty.zW] at hb
    | false=>
     refine ⟨([]:List t.den),h,rfl,?_⟩;have Ku:cs=[.slice none 0 0]:=zS;subst Ku
     exact ⟨none,0,rfl,yN _,jt _,fun hn=>absurd rfl hn⟩
   | _=>simp [z2x] at h
 | n+1,.ref id p ep,t,k,r,cs,zS,h=>by
  simp only [asData] at h;obtain ⟨v,l,ho,rfl,qu,h⟩:=kj hh h;obtain ⟨_,h,pY,Kg⟩:=vX h (Ty.gz _);obtain ⟨x,rfl,_,hx⟩:=zS;have Gh:=(hx _ _ _ ho).2 rfl;have zp:=hh.z6 id _ ho;refine ⟨_,h,pY,Kg _ _ _ ?_⟩;have:=zH.freeze (Y8 w g) (o:=some (id,[])) (Q4 w g id []) zp.2;rw [Gh]
  exact this
 | n+1,.view id p ep a b,t,k,r,cs,zS,h=>by
  simp only [asData] at h;obtain ⟨v,l,ho,rfl,qu,h⟩:=kj hh h;obtain ⟨_,h,pY,Kg⟩:=vX h (Ty.gz _);obtain ⟨x,rfl,_,hx⟩:=zS;obtain ⟨_,h0,Jq,QH,hv⟩:=(hx _ _ _ ho).2 rfl;have zp:=hh.z6 id _ ho;refine ⟨_,h,pY,Kg _ _ _ ?_⟩;obtain ⟨ad,cap,uR,qf,Po,Pt,vk⟩:=zp.2;have hlen:=x3 l a b h0 Jq QH;show zH w (Ci g) none (.sl false v.ro) (Ty.kR (.sl false v) (sub l a b)) [x];rw [WS,hv,qf];have Em:(List.map (Ty.kR v) (sub l a b)).length=(b-a).toNat:=by rw [Gy,hlen];omega
  refine ⟨_,cap-a.toNat,by simp only [jq];rw [Em],by rw [Em];omega,by omega,fun je=>?_⟩;have IG:0 < (b-a).toNat:=by
   rw [<-Em];exact Z4f.2 je
  rcases vk with ⟨_,hl,_⟩ | ⟨bk,off,c,ee,ha,zM,zY,qC,KQ⟩
  ·rw [hl] at QH;simp at QH;omega
  ·subst ha;refine ⟨bk,off+a.toNat*v.size,c,ee,(0,0),?_,Ov zM,zY,?_,fun i hi=>?_⟩
   ·rw [qZ (by omega)];simp only [Z23,Addr.add];split
    ·rename_i hz;rw [hz];simp
    ·rfl
   ·rw [Em,Ty.qM];have:(b-a).toNat+a.toNat<=cap:=by omega
    have:=kn v.size this;rw [wB] at this;omega
   ·have VU:i < (sub l a b).length:=by simpa using hi
    have Cj:a.toNat+i < l.length:=by omega
    have he:=zH.freeze (Y8 w g) (o:=some (id,[]++[Step.idx ((a.toNat+i:Nat):Int)])) (Q4 w g id _) (KQ (a.toNat+i) Cj);rw [LN,Z29];have hg:=We l a b i VU Cj;rw [LN] at hg;rw [hg,Ty.qM];have e:off+a.toNat*v.size+i*v.size=off+(a.toNat+i)*v.size:=by rw [wB];omega
    rw [e]
    exact he
 | n+1,.zq id p,t,k,r,cs,zS,h=>by
  cases t with
  | ptr t=>
   simp only [asData] at h;obtain ⟨a,a',off,c,e,ho,hk,jZ,hc,ht,qC,J7,_⟩:=Zd hh h;obtain ⟨d,hd,qu,zC⟩:=gG hh n J7 hk;obtain ⟨v,rfl,_,hv⟩:=zS;obtain ⟨YK,s,kq,rfl⟩:=hv _ ho;rw [jZ] at kq;simp only [zI,gP] at kq;obtain ⟨rfl,_⟩:=kq;have hl:=zC.len;rw [yW (by rw [vf];exact qC)] at hl;refine ⟨d,hd,qu,?_⟩
   exact ⟨g.qj id,off,c,e,(0,0),rfl,by rcases ht with ht | ht <;> simp [Ci,ht],hc,by omega,by rw [<-hl];exact zC⟩
  | _=>simp [asData] at h
 | n+1,.vA id p ep,t,k,r,cs,zS,h=>by
  cases t with
  | ptr t=>
   simp only [asData] at h;obtain ⟨v,rfl,_,hv⟩:=zS;have zp:∃ t l,J.z6 id=some (.row t l ep):=by
    unfold pC at h;split at h
    ·rename_i t l e ho
     cases hb:Nat.beq e ep with
     | false=>rw [hb] at h;simp at h
     | true=>exact ⟨t,l,by rw [ho,zE hb]⟩
    ·simp at h
   obtain ⟨t0,l0,El⟩:=zp;obtain ⟨hp,b0,yC,gV,jd⟩:=(hv _ _ _ El).2 rfl;obtain ⟨t1,l1,u,e,b,off,c,ee,ho,qu,hk,hu,kL,_,zM,zY,qC,zC⟩:=ui hh hp h;rw [El] at ho;simp only [zI,Obj.row.injEq] at ho;obtain ⟨rfl,_,_⟩:=ho;rw [gV] at kL;simp only [zI,gP] at kL;obtain ⟨rfl,rfl⟩:=kL;obtain ⟨rfl,hk⟩:=qe hk;refine ⟨_,hk,by simp only [Ty.zW];exact Ty.gz u,?_⟩;have hf:=zH.freeze (Y8 w g) (o:=none) trivial zC
   exact ⟨b0,yC,c,ee,(0,0),by rw [jd],Ov zM,zY,by rw [Ty.qM];exact qC,by rw [Ty.qM];exact hf⟩
  | _=>simp [asData] at h
 | n+1,.qd f c,t,k,r,cs,zS,h=>by
  cases t with
  | fn gid t=>
   simp only [asData] at h
   cases hb:Nat.beq f gid with
   | false=>rw [hb] at h;simp at h
   | true=>
    rw [hb] at h;have he:f=gid:=zE hb;subst he;obtain ⟨vs,rfl,hc⟩:=zS;obtain ⟨d,hd,qu,zC⟩:=gG hh n hc h
    exact ⟨d,hd,qu,vs,rfl,zC⟩
  | _=>simp [asData] at h
 | n+1,.agg c,t,k,r,cs,zS,h=>by
  simp only [asData] at h
  exact gG hh n (a:=c) zS h
 | n+1,.pr a b,t,k,r,cs,zS,h=>by
  cases t with
  | pair t u=>
   simp only [asData] at h;obtain ⟨c1,c2,rfl,h1,h2⟩:=zS;obtain ⟨x,hx,hrx,zr6⟩:=gG hh n h1 h;obtain ⟨y,hy,hry,zr5⟩:=gG hh n h2 hx
   exact ⟨(x,y),hy,by simp [Ty.zW,hrx,hry],c1,c2,rfl,zr6,zr5⟩
  | _=>simp [asData] at h
 | n+1,.un,t,k,r,cs,zS,h=>by
  cases t with
  | unit=>
   simp only [asData] at h
   exact ⟨(),h,rfl,zS⟩
  | _=>simp [asData] at h
 | n+1,.qz _,t,k,r,cs,zS,h=>by cases t <;> simp [asData] at h
 | n+1,.nv true _ _ _,t,k,r,cs,zS,h=>by cases t <;> simp [asData] at h
 | n+1,.nv false id p ep,t,k,r,cs,zS,h=>by
  simp only [asData] at h;obtain ⟨t0,l0,e,i,v,l,ho,IM,zC,h,_,_⟩:=Uv hh h;obtain ⟨_,h,pY,Kg⟩:=vX h (Ty.gz _);obtain ⟨x,rfl,_,hx⟩:=zS;have Gh:=((hx _ _ _ _ _ ho).2 IM).1 rfl;refine ⟨_,h,pY,Kg _ _ _ ?_⟩;have:=zH.freeze (Y8 w g) (o:=some (id,p)) (Q4 w g id p) zC;rw [Gh]
  exact this
 | n+1,.jV _,t,k,r,cs,zS,h=>zS.elim
end Go.Kz
namespace Go.Kz
variable {R:Type}
section
variable {P:Program} {o:Oper} {a:Act} {w:World} {K:Act->World->Prop} {Q:Exit->Act->World->Prop} {c:Ctx} {J:St} {g:z8} {k:St->Option R} {r:R} {base:Nat}
theorem gH {f:z7->Option R} {s:Sem Value} (hf:f=fun v=>J.y6 c o.dst v k) (hs:Plain f r s P)
  (zc:∀ w v,s.run P w = .ok v w->(execOp a.eval o).run P w = .ok (.value v) w):vd P o a w g J c k r:=by
 subst hf;obtain ⟨av,v,h1,h2,h3,h4⟩:=hs.out;exact QD (fun w' _=>zc w' v (h2 w')) (h4 _ _ _) (fun m _=>by rw [h3];simp) h1
theorem FF (d:Nat) {T:TypeId} (hT:P.underlying T=some .bool) (x y:Bool) (w:World):(Op.equalIn (d+1) T (.bool x) (.bool y)).run P w = .ok (x == y) w:=by
 have hu:=run_underlying hT w;rw [Op.equalIn];rw [Sem.run_bind,hu];rfl
theorem NW {T:TypeId} (hT:P.underlying T=some .bool) (x y:Bool) (w:World):(Op.equal T (.bool x) (.bool y)).run P w = .ok (x == y) w:=
 FF 9999 hT x y w
theorem z2k (kN:gn P c.tt) {op:BinOp} {t t':TypeId} {x y:Operand}
  (hS:∀ ax ay,ev J x=some ax->ev J y=some ay->∀ u,c.tt t=some u->
   cond (c.eqs t && yV u && ax.val && ay.val) (asData J 20 ax u fun d=>asData J 20 ay u fun e=>z6q op (VC u d e) fun v=>J.y6 c o.dst v k) none=some r->vd P o a w g J c k r)
  (ho:o.op = .binOp op t x y t') (zy:zG c.ntmps g w a J) (h:yG c J base o k=some r):vd P o a w g J c k r:=by
 simp only [yG,ho] at h;split at h
 ·rename_i ax ay hx hy;have ex:=(qF zy hx).1;have ey:=(qF zy hy).1;unfold zt9 at h;split at h
  ·rename_i kx nx ky ny;obtain ⟨vx,bx⟩:=jT ex;obtain ⟨vy,_⟩:=jT ey
   cases hs:Ug op with
   | true=>
    rw [hs] at h
    exact gH rfl (HN (P:=P) (j:=ky) bx t h) (fun w v hv=>by simp [execOp,ho,vx,vy,eqGuard,hv])
   | false=>
    rw [hs] at h;simp only [zU] at h;split at h
    ·rename_i hk _;subst hk;exact gH rfl (Tb (P:=P) bx t hs h) (fun w v hv=>by simp [execOp,ho,vx,vy,eqGuard,hv])
    ·simp at h
  ·rename_i bx by';have vx:=xW ex;have vy:=xW ey;split at h
   ·rename_i htb;have hT:=kN _ _ htb;simp only [qw] at hT;have hu:=NW hT.1 bx by';refine gH (f:=fun v=>J.y6 c o.dst v k) (s:=binOp op t (.bool bx) (.bool by')) rfl ?_ (fun w v hv=>by simp [execOp,ho,vx,vy,eqGuard,hv]);cases op <;> simp only [Ri] at h
    case eql=>exact Plain.bool h (fun w=>by simp only [binOp,Sem.run_bind,hu,Result.andThen_ok,Sem.run_pure])
    case neq=>exact Plain.bool h (fun w=>by simp only [binOp,Sem.run_bind,hu,Result.andThen_ok,Sem.run_pure])
    all_goals simp at h
   ·simp at h
  ·rename_i lx ly;obtain ⟨sx,vx,rfl,_⟩:=Gw ex;obtain ⟨sy,vy,rfl,_⟩:=Gw ey;exact gH rfl (Ta (P:=P) t h) (fun w v hv=>by simp [execOp,ho,vx,vy,eqGuard,hv])
  ·split at h
   ·rename_i u YS;exact hS ax ay hx hy u YS h
   ·simp at h
 ·simp at h
theorem zbi {op:UnOp} {t:TypeId} {x:Operand} (ho:o.op = .unOp op t x) (zy:zG c.ntmps g w a J) (h:yG c J base o k=some r):vd P o a w g J c k r:=by
 simp only [yG,ho] at h;split at h
 ·rename_i ax hx;have ex:=(qF zy hx).1;unfold unK at h;split at h
  ·have vx:=xW ex;exact gH rfl (Plain.bool (s:=Op.unary .not (a.eval x)) h (fun _=>by simp [vx,Op.unary])) (fun w v hv=>by simp [execOp,ho,hv])
  ·rename_i kx nx;obtain ⟨vx,bx⟩:=jT ex;exact gH rfl (Plain.int (s:=Op.unary .neg (a.eval x)) h (fun _=>by simp [vx,Op.unary,Op.intArith]) (vH _ _)) (fun w v hv=>by simp [execOp,ho,hv])
  ·rename_i kx nx;obtain ⟨vx,bx⟩:=jT ex;exact gH rfl (Plain.int (s:=Op.unary .xor (a.eval x)) h (fun _=>by simp [vx,Op.unary,Op.intBits]) (vH _ _)) (fun w v hv=>by simp [execOp,ho,hv])
  ·simp at h
 ·simp at h
theorem Mf (kN:gn P c.tt) {t t':TypeId} {x:Operand} (ho:o.op = .convert t t' x) (zy:zG c.ntmps g w a J) (h:yG c J base o k=some r):vd P o a w g J c k r:=by
 simp only [yG,ho] at h;split at h
 ·rename_i k0 j k1 kd hx ht ht';have ex:=(qF zy hx).1;obtain ⟨vx,bx⟩:=jT ex;have h1:=kN _ _ ht;have h2:=kN _ _ ht';simp only [qw] at h1 h2;have u1:=fun w=>run_underlying (P:=P) (w:=w) h1.1
  have u2:=fun w=>run_underlying (P:=P) (w:=w) h2.1
  exact gH (f:=fun v=>J.y6 c o.dst v k) rfl (Plain.int (s:=convert t t' (a.eval x)) h (fun w=>by simp [vx,convert,u1,u2,Conv.intToInt]) (vH _ _)) (fun w v hv=>by simp [execOp,ho,hv])
 ·simp at h
theorem VN {z6:qp}:{ac:z7}->{vs:List Value}->{i:Nat}->{av:z7}->qk w g z6 ac vs->j9 ac i=some av->
  ∃ v,vs[i]? = some v/\zr w g z6 av v/\∀ m,m∉ac.ids->m∉av.ids
 | .pr x y,vs,0,av,h,ht=>by
  simp only [qk] at h;obtain ⟨v,rest,rfl,h1,h2⟩:=h;simp only [j9,zI] at ht;subst ht
  exact ⟨v,rfl,h1,fun m hm=>by simp [z7.ids] at hm;exact hm.1⟩
 | .pr x y,vs,i+1,av,h,ht=>by
  simp only [qk] at h;obtain ⟨v,rest,rfl,h1,h2⟩:=h;simp only [j9] at ht;obtain ⟨v',jd,h3,h4⟩:=VN h2 ht
  exact ⟨v',by simpa using jd,h3,fun m hm=>h4 m (by simp [z7.ids] at hm;exact hm.2)⟩
 | .un,_,_,_,_,ht=>by simp [j9] at ht
 | .data _ _,_,_,_,_,ht=>by simp [j9] at ht
 | .qD,_,_,_,_,ht=>by simp [j9] at ht
 | .ref _ _ _,_,_,_,_,ht=>by simp [j9] at ht
 | .view _ _ _ _ _,_,_,_,_,ht=>by simp [j9] at ht
 | .zq _ _,_,_,_,_,ht=>by simp [j9] at ht
 | .vA _ _ _,_,_,_,_,ht=>by simp [j9] at ht
 | .qz _,_,_,_,_,ht=>by simp [j9] at ht
 | .nv _ _ _ _,_,_,_,_,ht=>by simp [j9] at ht
 | .qd _ _,_,_,_,_,ht=>by simp [j9] at ht
 | .agg _,_,_,_,_,ht=>by simp [j9] at ht
 | .jV _,_,_,_,_,ht=>by simp [j9] at ht
theorem Me {x:Operand} {i:Nat} (ho:o.op = .extract x i) (zy:zG c.ntmps g w a J) (h:yG c J base o k=some r):vd P o a w g J c k r:=by
 simp only [yG,ho] at h;split at h
 ·rename_i ac hx;obtain ⟨ex,ef⟩:=qF zy hx;simp only [zr] at ex;obtain ⟨vs,hv,WX⟩:=ex;split at h
  ·rename_i av U3;obtain ⟨v,h1,h2,h3⟩:=VN WX U3;refine QD (v:=v) ?_ h2 (fun m hm=>h3 m (by have:=ef m hm;simpa [z7.ids] using this)) h;intro w' _;simp [execOp,ho,hv,Instr.extract,h1]
  ·simp at h
 ·simp at h
theorem QG {z6:qp}:{ac:z7}->{vs:List Value}->qo ac=true->qk w g z6 ac vs->jK w g z6 ac vs
 | .un,vs,_,h=>by simp only [qk] at h;exact h
 | .pr (.zq id p) y,vs,hp,h=>by
  simp only [qk] at h;obtain ⟨v,rest,rfl,h1,h2⟩:=h;simp only [zr] at h1;obtain ⟨cs,h1,hv⟩:=h1;have h1':=h1;obtain ⟨x,rfl,_⟩:=h1;have jd:v=x:=hv;subst jd
  exact ⟨[v],rest,rfl,h1',QG (by simpa [qo] using hp) h2⟩
 | .pr (.data (.ptr t) d) y,vs,hp,h=>by
  simp only [qk] at h;obtain ⟨v,rest,rfl,h1,h2⟩:=h;simp only [zr] at h1;obtain ⟨cs,h1,hv⟩:=h1;have h1':=h1;obtain ⟨_,b,off,c,e,fz,rfl,_⟩:=h1;have jd:v = .pointer (some ⟨b,off,none⟩):=hv;subst jd
  exact ⟨_,rest,rfl,h1',QG (by simpa [qo] using hp) h2⟩
 | .data _ _,_,hp,_=>by simp [qo] at hp
 | .qD,_,hp,_=>by simp [qo] at hp
 | .ref _ _ _,_,hp,_=>by simp [qo] at hp
 | .view _ _ _ _ _,_,hp,_=>by simp [qo] at hp
 | .zq _ _,_,hp,_=>by simp [qo] at hp
 | .vA _ _ _,_,hp,_=>by simp [qo] at hp
 | .qz _,_,hp,_=>by simp [qo] at hp
 | .nv _ _ _ _,_,hp,_=>by simp [qo] at hp
 | .qd _ _,_,hp,_=>by simp [qo] at hp
 | .agg _,_,hp,_=>by simp [qo] at hp
 | .jV _,_,hp,_=>by simp [qo] at hp
 | .pr (.data (.int _) _) _,_,hp,_=>by simp [qo] at hp
 | .pr (.data .bool _) _,_,hp,_=>by simp [qo] at hp
 | .pr (.data .str _) _,_,hp,_=>by simp [qo] at hp
 | .pr (.data .unit _) _,_,hp,_=>by simp [qo] at hp
 | .pr (.data (.pair _ _) _) _,_,hp,_=>by simp [qo] at hp
 | .pr (.data (.arr _ _) _) _,_,hp,_=>by simp [qo] at hp
 | .pr (.data (.sl _ _) _) _,_,hp,_=>by simp [qo] at hp
 | .pr (.data (.fn _ _) _) _,_,hp,_=>by simp [qo] at hp
 | .pr (.data (.tree _) _) _,_,hp,_=>by simp [qo] at hp
 | .pr .qD _,_,hp,_=>by simp [qo] at hp
 | .pr (.ref _ _ _) _,_,hp,_=>by simp [qo] at hp
 | .pr (.view _ _ _ _ _) _,_,hp,_=>by simp [qo] at hp
 | .pr (.vA _ _ _) _,_,hp,_=>by simp [qo] at hp
 | .pr (.qz _) _,_,hp,_=>by simp [qo] at hp
 | .pr (.nv _ _ _ _) _,_,hp,_=>by simp [qo] at hp
 | .pr (.qd _ _) _,_,hp,_=>by simp [qo] at hp
 | .pr (.agg _) _,_,hp,_=>by simp [qo] at hp
 | .pr (.jV _) _,_,hp,_=>by simp [qo] at hp
 | .pr (.pr _ _) _,_,hp,_=>by simp [qo] at hp
 | .pr .un _,_,hp,_=>by simp [qo] at hp
theorem I1 {f:FuncId} {first cap:Array Operand} (ho:o.op = .makeFunc (.func f) first cap) (zy:zG c.ntmps g w a J) (h:yG c J base o k=some r):vd P o a w g J c k r:=by
 simp only [yG,ho] at h;split at h
 ·rename_i zlc;split at h
  ·rename_i ac hac;obtain ⟨ex,ef⟩:=Wv zy hac
   cases hp:qo ac with
   | false=>rw [hp] at h;simp at h
   | true=>
    rw [hp] at h;have vj:=QG hp ex;have hf0:first = #[]:=by
     apply Fm.1;simpa using zlc
    refine QD (v:=.func (.func f) #[] (cap.toList.map a.eval).toArray) ?_ ?_ (fun m hm=>by simpa [z7.ids] using ef m hm) h
    ·intro w' _;simp [execOp,ho,Instr.makeFunc,hf0,<-Z4x]
    ·simp only [zr];exact ⟨_,⟨_,rfl,vj⟩,rfl⟩
  ·simp at h
 ·simp at h
theorem Fs {z6:qp} {av:z7} {v:Value} (hp:z43 av=true) (h:zr w g z6 av v) :
  (∃ t d b off c e fz,av = .data (.ptr t) d/\v = .pointer (some ⟨b,off,none⟩)/\t.zW=true/\g.tag b = .ro/\w.heap[b]? = some (.cells c e fz)/\off+t.size<=c.size/\zH w g none t d (qS c.toList off t.size))\/
  (∃ id p,av = .zq id p/\∀ x,z6 id=some (.cell x)->∃ off s,x.sk.off p=some (off,s)/\v = .pointer (some ⟨g.qj id,off,none⟩))\/
  (∃ id p ep,av = .vA id p ep/\∀ t l e,z6 id=some (.row t l e)->ep<=e/\(e=ep->p≠[]/\∃ b off,place g id (.sl true t) [] 0 0 p=some (b,off)/\v = .pointer (some ⟨b,off,none⟩))):=by
 cases av with
 | zq id p=>
  simp only [zr] at h;obtain ⟨cs,⟨x,rfl,_,hx⟩,hv⟩:=h;have jd:v=x:=hv;subst jd
  exact .inr (.inl ⟨id,p,rfl,hx⟩)
 | vA id p ep=>
  simp only [zr] at h;obtain ⟨cs,⟨x,rfl,_,hx⟩,hv⟩:=h;have jd:v=x:=hv;subst jd
  exact .inr (.inr ⟨id,p,ep,rfl,hx⟩)
 | data t d=>
  cases t with
  | ptr t=>
   simp only [zr] at h;obtain ⟨cs,⟨qu,b,off,c,e,fz,rfl,h1,h2,h3,h4⟩,hv⟩:=h
   exact .inl ⟨t,d,b,off,c,e,fz,rfl,hv,by simpa [Ty.zW] using qu,h1,h2,h3,h4⟩
  | _=>simp [z43] at hp
 | _=>simp [z43] at hp
theorem I0 {x:Operand} (ho:o.op = .nilCheck x) (zy:zG c.ntmps g w a J) (h:yG c J base o k=some r):vd P o a w g J c k r:=by
 simp only [yG,ho] at h;split at h
 ·rename_i av U3;obtain ⟨ex,ef⟩:=qF zy U3
  cases hp:holds J av with
  | false=>rw [hp] at h;simp at h
  | true=>
   rw [hp] at h;simp only [zB] at h;have hv:∃ ad,a.eval x = .pointer (some ad):=by
    unfold holds at hp;split at hp
    ·rcases Fs rfl ex with ⟨t,d,b,off,cc,e,fz,h1,h2,_⟩ | ⟨_,_,h1,_⟩ | ⟨_,_,_,h1,_⟩
     ·exact ⟨_,h2⟩
     ·simp at h1
     ·simp at h1
    ·rcases Fs rfl ex with ⟨t,d,b,off,cc,e,fz,h1,h2,_⟩ | ⟨_,_,h1,h2⟩ | ⟨_,_,_,h1,_⟩
     ·simp at h1
     ·simp only [z7.zq.injEq] at h1;obtain ⟨rfl,rfl⟩:=h1;split at hp
      ·rename_i xx hxx;obtain ⟨off,s,_,hv⟩:=h2 _ hxx;exact ⟨_,hv⟩
      ·simp at hp
     ·simp at h1
    ·rcases Fs rfl ex with ⟨t,d,b,off,cc,e,fz,h1,h2,_⟩ | ⟨_,_,h1,h2⟩ | ⟨_,_,_,h1,h2⟩
     ·simp at h1
     ·simp at h1
     ·simp only [z7.vA.injEq] at h1;obtain ⟨rfl,rfl,rfl⟩:=h1;split at hp
      ·rename_i t l e hxx;obtain ⟨_,h3⟩:=h2 _ _ _ hxx;obtain ⟨_,b,off,_,hv⟩:=h3 (zE hp);exact ⟨_,hv⟩
      ·simp at hp
    ·simp only [zr] at ex;obtain ⟨cs,⟨y,rfl,_,hx⟩,hv⟩:=ex;split at hp
     ·rename_i t l e i hxx;obtain ⟨_,h3⟩:=hx _ _ _ _ _ hxx;obtain ⟨_,b,off,_,xP⟩:=(h3 (zE hp)).2 rfl;exact ⟨_,hv.trans xP⟩
     ·simp at hp
    ·simp at hp
   obtain ⟨ad,hv⟩:=hv;exact QD (v:=a.eval x) (fun _ _=>by simp [execOp,ho,hv]) ex ef h
 ·simp at h
theorem Jj {z6:qp} {gf:Int->Int->Int} {b2:Value->Value->Sem Value} {kd:IntKind} (hb:∀ w x y,(b2 (.int kd x) (.int kd y)).run P w = .ok (.int kd (gf x y)) w)
  (hg:∀ x y,gf x y=x\/gf x y=y):{ac:z7}->{vs:List Value}->{x:Int}->{f:Int->Option R}->qk w g z6 ac vs->kd.min<=x/\x<=kd.max->qq gf kd x ac f=some r->
  ∃ z,f z=some r/\kd.min<=z/\z<=kd.max/\∀ w,(vs.foldlM b2 (.int kd x)).run P w = .ok (.int kd z) w
 | .un,vs,x,f,hv,hx,h=>by
  simp only [qk] at hv;subst hv
  exact ⟨x,h,hx.1,hx.2,fun _=>by simp [List.foldlM]⟩
 | .pr (.data (.int j) y) ac,vs,x,f,hv,hx,h=>by
  simp only [qk] at hv;obtain ⟨v,rest,rfl,h1,h2⟩:=hv;obtain ⟨rfl,hy⟩:=jT h1;simp only [qq] at h;split at h
  ·rename_i hk _;subst hk;have hz:kd.min<=gf x y/\gf x y<=kd.max:=by
    rcases hg x y with e | e <;> rw [e]
    ·exact hx
    ·exact hy
   obtain ⟨z,hf,z1,z2,zc⟩:=Jj hb hg h2 hz h;refine ⟨z,hf,z1,z2,fun w=>?_⟩;simp only [List.foldlM_cons,Sem.run_bind,hb,Result.andThen_ok];exact zc w
  ·simp at h
 | .data _ _,_,_,_,_,_,h=>by simp [qq] at h
 | .qD,_,_,_,_,_,h=>by simp [qq] at h
 | .ref _ _ _,_,_,_,_,_,h=>by simp [qq] at h
 | .view _ _ _ _ _,_,_,_,_,_,h=>by simp [qq] at h
 | .zq _ _,_,_,_,_,_,h=>by simp [qq] at h
 | .vA _ _ _,_,_,_,_,_,h=>by simp [qq] at h
 | .qz _,_,_,_,_,_,h=>by simp [qq] at h
 | .nv _ _ _ _,_,_,_,_,_,h=>by simp [qq] at h
 | .qd _ _,_,_,_,_,_,h=>by simp [qq] at h
 | .agg _,_,_,_,_,_,h=>by simp [qq] at h
 | .jV _,_,_,_,_,_,h=>by simp [qq] at h
 | .pr (.data .bool _) _,_,_,_,_,_,h=>by simp [qq] at h
 | .pr (.data .str _) _,_,_,_,_,_,h=>by simp [qq] at h
 | .pr (.data .unit _) _,_,_,_,_,_,h=>by simp [qq] at h
 | .pr (.data (.pair _ _) _) _,_,_,_,_,_,h=>by simp [qq] at h
 | .pr (.data (.arr _ _) _) _,_,_,_,_,_,h=>by simp [qq] at h
 | .pr (.data (.sl _ _) _) _,_,_,_,_,_,h=>by simp [qq] at h
 | .pr (.data (.ptr _) _) _,_,_,_,_,_,h=>by simp [qq] at h
 | .pr (.data (.fn _ _) _) _,_,_,_,_,_,h=>by simp [qq] at h
 | .pr (.data (.tree _) _) _,_,_,_,_,_,h=>by simp [qq] at h
 | .pr .qD _,_,_,_,_,_,h=>by simp [qq] at h
 | .pr (.ref _ _ _) _,_,_,_,_,_,h=>by simp [qq] at h
 | .pr (.view _ _ _ _ _) _,_,_,_,_,_,h=>by simp [qq] at h
 | .pr (.zq _ _) _,_,_,_,_,_,h=>by simp [qq] at h
 | .pr (.vA _ _ _) _,_,_,_,_,_,h=>by simp [qq] at h
 | .pr (.qz _) _,_,_,_,_,_,h=>by simp [qq] at h
 | .pr (.nv _ _ _ _) _,_,_,_,_,_,h=>by simp [qq] at h
 | .pr (.qd _ _) _,_,_,_,_,_,h=>by simp [qq] at h
 | .pr (.agg _) _,_,_,_,_,_,h=>by simp [qq] at h
 | .pr (.jV _) _,_,_,_,_,_,h=>by simp [qq] at h
 | .pr (.pr _ _) _,_,_,_,_,_,h=>by simp [qq] at h
 | .pr .un _,_,_,_,_,_,h=>by simp [qq] at h
theorem zjj {args:Array Operand} {ts:Array TypeId} (ho:o.op = .call { callee:=.builtin .max,args:=args,argTypes:=ts }) (zy:zG c.ntmps g w a J) (h:yG c J base o k=some r):vd P o a w g J c k r:=by
 simp only [yG,ho] at h;split at h
 ·rename_i kd x ac hx;obtain ⟨ex,_⟩:=Wv zy hx;simp only [qk] at ex;obtain ⟨v,rest,WX,h1,h2⟩:=ex;obtain ⟨rfl,hb⟩:=jT h1;obtain ⟨z,hz,z1,z2,zc⟩:=Jj (P:=P) (b2:=Builtin.max2) (fun w x y=>by simp [Builtin.max2,gR]) (fun x y=>by unfold gR;split <;> simp) h2 hb h;refine QD (v:=.int kd z) ?_ (vB ⟨z1,z2⟩) (fun m _=>by simp [z7.ids]) hz;intro w' _;have e:(args.map a.eval).toList = .int kd x :: rest:=by rw [Z2x];exact WX
  simp only [execOp,ho,resolve,Sem.run_bind,Sem.run_pure,Result.andThen_ok,invoke,builtin,Builtin.max_,e,zc]
 ·simp at h
theorem zji {args:Array Operand} {ts:Array TypeId} (ho:o.op = .call { callee:=.builtin .min,args:=args,argTypes:=ts }) (zy:zG c.ntmps g w a J) (h:yG c J base o k=some r):vd P o a w g J c k r:=by
 simp only [yG,ho] at h;split at h
 ·rename_i kd x ac hx;obtain ⟨ex,_⟩:=Wv zy hx;simp only [qk] at ex;obtain ⟨v,rest,WX,h1,h2⟩:=ex;obtain ⟨rfl,hb⟩:=jT h1;obtain ⟨z,hz,z1,z2,zc⟩:=Jj (P:=P) (b2:=Builtin.min2) (fun w x y=>by simp [Builtin.min2,uu]) (fun x y=>by unfold uu;split <;> simp) h2 hb h;refine QD (v:=.int kd z) ?_ (vB ⟨z1,z2⟩) (fun m _=>by simp [z7.ids]) hz;intro w' _;have e:(args.map a.eval).toList = .int kd x :: rest:=by rw [Z2x];exact WX
  simp only [execOp,ho,resolve,Sem.run_bind,Sem.run_pure,Result.andThen_ok,invoke,builtin,Builtin.min_,e,zc]
 ·simp at h
end
end Go.Kz
