/-
  Rows of rows turned: an element of one of the rows; a row put in its place; a row taken out.
-/
import Derived.Test.YtmoggdcmpoobpaaGreatDoorKzR
set_option linter.unusedVariables false
set_option linter.unusedSimpArgs false
namespace Go.Kz
variable {R:Type}
theorem Jd:(t:Ty)->(d:t.den)->(p:Path)->{k:(u:Ty)->u.den->Option R}->{r:R}->zb t d p k=some r->
  ∃ (u:Ty) (e:u.den),k u e=some r/\∀ (R':Type) (k':(u:Ty)->u.den->Option R'),zb t d p k'=k' u e
 | t,d,[],k,r,h=>⟨t,d,by cases t <;> simpa [zb] using h,fun R' k'=>by cases t <;> simp [zb]⟩
 | .pair a _,(x,_),.fst :: p,k,r,h=>by simp only [zb] at h ⊢;exact Jd a x p h
 | .pair _ b,(_,y),.snd :: p,k,r,h=>by simp only [zb] at h ⊢;exact Jd b y p h
 | .arr _ t,l,.idx i :: p,k,r,h=>by
  simp only [zb] at h ⊢;obtain ⟨x,hx,h⟩:=WB.1 h;obtain ⟨u,e,hk,ha⟩:=Jd t x p h
  exact ⟨u,e,hk,fun R' k'=>by rw [hx,zP];exact ha _ _⟩
 | .sl true t,l,.idx i :: p,k,r,h=>by
  simp only [zb] at h ⊢;obtain ⟨x,hx,h⟩:=WB.1 h;obtain ⟨u,e,hk,ha⟩:=Jd t x p h
  exact ⟨u,e,hk,fun R' k'=>by rw [hx,zP];exact ha _ _⟩
 | .int _,d,s :: p,k,r,h=>by cases s <;> simp [zb] at h
 | .bool,d,s :: p,k,r,h=>by cases s <;> simp [zb] at h
 | .str,d,s :: p,k,r,h=>by cases s <;> simp [zb] at h
 | .unit,d,s :: p,k,r,h=>by cases s <;> simp [zb] at h
 | .sl false _,d,s :: p,k,r,h=>by cases s <;> simp [zb] at h
 | .ptr _,d,s :: p,k,r,h=>by cases s <;> simp [zb] at h
 | .fn _ _,d,s :: p,k,r,h=>by cases s <;> simp [zb] at h
 | .tree _,d,s :: p,k,r,h=>by cases s <;> simp [zb] at h
 | .pair _ _,(_,_),.idx _ :: p,k,r,h=>by simp [zb] at h
 | .arr _ _,d,.fst :: p,k,r,h=>by simp [zb] at h
 | .arr _ _,d,.snd :: p,k,r,h=>by simp [zb] at h
 | .sl true _,d,.fst :: p,k,r,h=>by simp [zb] at h
 | .sl true _,d,.snd :: p,k,r,h=>by simp [zb] at h
theorem Y1:(t:Ty)->(d:t.den)->(p:Path)->{v:Ty}->{e:List v.den}->{f:t.den->Option R}->{r:R}->jg t p=some v->jM t d p (.sl true v) e f=some r->
  ∃ x:List v.den,∀ (R':Type) (k':(u:Ty)->u.den->Option R'),zb t d p k'=k' (.sl true v) x
 | .sl true t,d,[],v,e,f,r,hq,h=>by
  simp only [jg,zI] at hq;subst hq
  exact ⟨d,fun R' k'=>by simp [zb]⟩
 | .pair a _,(x,_),.fst :: p,v,e,f,r,hq,h=>by simp only [jM,jg,zb] at h hq ⊢;exact Y1 a x p hq h
 | .pair _ b,(_,y),.snd :: p,v,e,f,r,hq,h=>by simp only [jM,jg,zb] at h hq ⊢;exact Y1 b y p hq h
 | .arr _ t,l,.idx i :: p,v,e,f,r,hq,h=>by
  simp only [jM,jg,zb] at h hq ⊢;obtain ⟨x,hx,h⟩:=WB.1 h;obtain ⟨y,hy⟩:=Y1 t x p hq h
  exact ⟨y,fun R' k'=>by rw [hx,zP];exact hy _ _⟩
 | .sl true t,l,.idx i :: p,v,e,f,r,hq,h=>by
  simp only [jM,jg,zb] at h hq ⊢;obtain ⟨x,hx,h⟩:=WB.1 h;obtain ⟨y,hy⟩:=Y1 t x p hq h
  exact ⟨y,fun R' k'=>by rw [hx,zP];exact hy _ _⟩
 | .sl true _,_,.fst :: _,_,_,_,_,h,_ | .sl true _,_,.snd :: _,_,_,_,_,h,_=>by simp [jg] at h
 | .sl false _,_,p,_,_,_,_,h,_=>by cases p with | nil=>simp [jg] at h | cons s q=>cases s <;> simp [jg] at h
 | .int _,_,p,_,_,_,_,h,_=>by cases p with | nil=>simp [jg] at h | cons s q=>cases s <;> simp [jg] at h
 | .bool,_,p,_,_,_,_,h,_=>by cases p with | nil=>simp [jg] at h | cons s q=>cases s <;> simp [jg] at h
 | .str,_,p,_,_,_,_,h,_=>by cases p with | nil=>simp [jg] at h | cons s q=>cases s <;> simp [jg] at h
 | .unit,_,p,_,_,_,_,h,_=>by cases p with | nil=>simp [jg] at h | cons s q=>cases s <;> simp [jg] at h
 | .ptr _,_,p,_,_,_,_,h,_=>by cases p with | nil=>simp [jg] at h | cons s q=>cases s <;> simp [jg] at h
 | .fn _ _,_,p,_,_,_,_,h,_=>by cases p with | nil=>simp [jg] at h | cons s q=>cases s <;> simp [jg] at h
 | .tree _,_,p,_,_,_,_,h,_=>by cases p with | nil=>simp [jg] at h | cons s q=>cases s <;> simp [jg] at h
 | .pair _ _,_,[],_,_,_,_,h,_=>by simp [jg] at h
 | .pair _ _,_,.idx _ :: _,_,_,_,_,h,_=>by simp [jg] at h
 | .arr _ _,_,[],_,_,_,_,h,_=>by simp [jg] at h
 | .arr _ _,_,.fst :: _,_,_,_,_,h,_ | .arr _ _,_,.snd :: _,_,_,_,_,h,_=>by simp [jg] at h
theorem Io {v:Ty} (qu:v.zW=true) {l:List v.den} {j:Int} {q:Path} {k:(u:Ty)->u.den->Option R} {r:R} (h:zb (.sl true v) l (.idx j :: q) k=some r):∃ u x,k u x=some r/\u.zW=true:=by
 simp only [zb,WB] at h;obtain ⟨y,_,h⟩:=h;exact ZI qu h
theorem Ql {j:Int}:{t:Ty}->{p:Path}->{v:Ty}->jg t p=some v->V1 t (p++[.idx j])=some v.sk
 | .sl true t,[],v,hq=>by
  simp only [jg,zI] at hq;subst hq
  simp [V1]
 | .pair a _,.fst :: p,v,hq=>by simp only [jg,V1,xA] at hq ⊢;exact Ql hq
 | .pair _ c,.snd :: p,v,hq=>by simp only [jg,V1,xA] at hq ⊢;exact Ql hq
 | .arr _ t,.idx i :: p,v,hq=>by simp only [jg,V1,xA] at hq ⊢;exact Ql hq
 | .sl true t,.idx i :: p,v,hq=>by simp only [jg,V1,xA] at hq ⊢;exact Ql hq
 | .sl true _,.fst :: _,_,h | .sl true _,.snd :: _,_,h=>by simp [jg] at h
 | .sl false _,p,_,h=>by cases p with | nil=>simp [jg] at h | cons s q=>cases s <;> simp [jg] at h
 | .int _,p,_,h=>by cases p with | nil=>simp [jg] at h | cons s q=>cases s <;> simp [jg] at h
 | .bool,p,_,h=>by cases p with | nil=>simp [jg] at h | cons s q=>cases s <;> simp [jg] at h
 | .str,p,_,h=>by cases p with | nil=>simp [jg] at h | cons s q=>cases s <;> simp [jg] at h
 | .unit,p,_,h=>by cases p with | nil=>simp [jg] at h | cons s q=>cases s <;> simp [jg] at h
 | .ptr _,p,_,h=>by cases p with | nil=>simp [jg] at h | cons s q=>cases s <;> simp [jg] at h
 | .fn _ _,p,_,h=>by cases p with | nil=>simp [jg] at h | cons s q=>cases s <;> simp [jg] at h
 | .tree _,p,_,h=>by cases p with | nil=>simp [jg] at h | cons s q=>cases s <;> simp [jg] at h
 | .pair _ _,[],_,h=>by simp [jg] at h
 | .pair _ _,.idx _ :: _,_,h=>by simp [jg] at h
 | .arr _ _,[],_,h=>by simp [jg] at h
 | .arr _ _,.fst :: _,_,h | .arr _ _,.snd :: _,_,h=>by simp [jg] at h
theorem Aq:{p:Path}->{q:Path}->{j:Int}->{r:Path}->Ky p=some (q,j,r)->p=q ++ .idx j :: r
 | [],_,_,_,h=>by simp [Ky] at h
 | s :: p,q,j,r,h=>by
  simp only [Ky] at h;split at h
  ·rename_i q' j' r' hl;simp only [zI,gP] at h;obtain ⟨rfl,rfl,rfl⟩:=h;rw [Aq hl];rfl
  ·split at h
   ·simp only [zI,gP] at h;obtain ⟨rfl,rfl,rfl⟩:=h;rfl
   ·simp at h
theorem JI:{p q:Path}->xr p q=true->p=q
 | [],[],_=>rfl
 | .fst :: p,.fst :: q,h=>by simp only [xr] at h;rw [JI h]
 | .snd :: p,.snd :: q,h=>by simp only [xr] at h;rw [JI h]
 | .idx i :: p,.idx j :: q,h=>by
  simp only [xr,zA,yR] at h
  rw [h.1,JI h.2]
 | [],_ :: _,h | _ :: _,[],h=>by simp [xr] at h
 | .fst :: _,.snd :: _,h | .fst :: _,.idx _ :: _,h | .snd :: _,.fst :: _,h | .snd :: _,.idx _ :: _,h | .idx _ :: _,.fst :: _,h | .idx _ :: _,.snd :: _,h=>by simp [xr] at h
section
variable {w:World} {g:z8} {J:St}
theorem zG.step {n:Nat} {w':World} {a:Act} {g':z8} {J':St} {m:Nat} (zy:zG n g w a J) (hr:zT w g w' g') (hs:J'.zk=J.zk) (hm:zJ g J m\/qv g g' m (J.z6 m) (J'.z6 m))
  (hk:∀ j,j≠m->qv g g' j (J.z6 j) (J'.z6 j))
  (zp:∀ j x,J'.z6 j=some x->zo w' g' J'.z6 j x\/(J.z6 j=some x/\Zh w g w' g' j)) (ht:∀ b,g'.tag b≠.zt->b < w'.heap.size):zG n g' w' a J':=by
 have Bi:∀ j,(zJ g J m->j≠m)->qv g g' j (J.z6 j) (J'.z6 j):=by
  intro j hj;by_cases he:j=m
  ·rcases hm with hf | hm
   ·exact absurd he (hj hf)
   ·rw [he];exact hm
  ·exact hk j he
 refine ⟨fun i av hi=>?_,⟨fun id x hx=>?_,ht⟩,zy.size,zy.defers,zy.known.kept hr⟩
 ·rw [hs] at hi;obtain ⟨u,hu,zS⟩:=zy.zk i av hi;refine ⟨u,hu,zr.frame hr (fun j hj=>Bi j (fun hf he=>?_)) zS⟩;subst he;exact hf.zk i av hi hj
 ·rcases zp id x hx with h | ⟨h,ga⟩
  ·exact h
  ·refine zo.frame hr ga (fun y hy j hj=>Bi j (fun hf he=>?_)) (zy.heap.z6 id x h);subst he;subst hy;exact hf.cells id y h hj
theorem Ex {id:Nat} {pp:Path} {t:Ty} {l:List t.den} {i:Int} {q:Path} {u:Ty} {d:u.den} {cs:List Value} {f:List t.den->Option R} {r:R} {hd:Value} (qu:t.zW=true)
  (vk:zH w g (some (id,pp)) (.sl true t) l [hd]) (zC:zH w g none u d cs) (h:jM (.sl true t) l (.idx i :: q) u d f=some r) :
  ∃ l' b0 yC n cp o' cc ee,f l'=some r/\l'.length=l.length/\g.sv id pp = .slice (some ⟨b0,yC,none⟩) n cp/\t.sk.off q=some (o',u.sk)/\w.heap[b0]? = some (.cells cc ee (0,0))/\g.tag b0 = .row id pp/\
   yC+i.toNat*t.size+o'+u.size<=cc.size/\
   zH (w.setRow b0 (zD cc.toList (yC+i.toNat*t.size+o') cs).toArray) g (some (id,pp)) (.sl true t) l' [hd]:=by
 simp only [jM,WB] at h;obtain ⟨x,hx,h⟩:=h;obtain ⟨h0,hi,rfl,qx⟩:=ji hx;obtain ⟨ad,cap,uR,qf,Po,Pt,vk⟩:=vk;rcases vk with ⟨_,hl,_⟩ | ⟨b,off,cc,ee,rfl,zM,zY,qC,KQ⟩
 ·rw [hl] at hi;simp at hi
 ·have js:=zH.y9 (o':=none) qu (KQ _ hi);obtain ⟨d',o',hk,jZ,hr⟩:=Zu qu js zC h;have hle:=Sk.wi jZ;rw [Ty.zQ,Ty.zQ] at hle;have ZF:(i.toNat+1)*t.size<=cap*t.size:=kn _ (by omega);rw [wB] at ZF;have gE:cs.length=u.size:=zC.len;have ZE:cc.toList.length=cc.size:=vf;refine ⟨_,b,off,l.length,cap,o',cc,ee,hk,qH _ _ _,qf,jZ,zY,zM,by omega,some ⟨b,off,none⟩,cap,?_,?_,?_,Pt,.inr ⟨b,off,(zD cc.toList (off+i.toNat*t.size+o') cs).toArray,ee,rfl,zM,?_,?_,fun j hj=>?_⟩⟩
  ·rw [qH];exact uR
  ·rw [qH];exact qf
  ·rw [qH];exact Po
  ·exact setRow_heap w b cc _ ee _ zY
  ·rw [Z2a,yI _ _ _ (by rw [gE,ZE];omega),ZE];exact qC
  ·have hRo:zT w g (w.setRow b (zD cc.toList (off+i.toNat*t.size+o') cs).toArray) g:=(jU (id:=id) _ (.inl ⟨pp,zM⟩)).ro;have ZD:j < l.length:=by rw [qH] at hj;exact hj
   have IF:(j+1)*t.size<=cap*t.size:=kn _ (by omega);rw [wB] at IF;rw [Y3];refine zH.y9 qu (o:=none) ?_;by_cases Qb:i.toNat=j
   ·rw [yQ Qb];subst Qb;rw [pw _ _ _ _ _ (by rw [gE];exact hle) (by rw [ZE];omega)];exact hr.kept hRo
   ·rw [qZ Qb];have hold:=(zH.y9 (o':=none) qu (KQ j ZD)).kept hRo;rcases Z3n Qb with W5 | hgt
    ·have h3:(i.toNat+1)*t.size<=j*t.size:=kn _ W5;rw [wB] at h3;rw [vM _ _ _ _ _ (by rw [gE];omega) (by rw [gE,ZE];omega)];exact hold
    ·have h3:(j+1)*t.size<=i.toNat*t.size:=kn _ hgt;rw [wB] at h3;rw [jv _ _ _ _ _ (by omega) (by rw [ZE];omega)];exact hold
theorem Sf {l:List Value} {off:Nat} {x:Value} (h:off < l.length) (hs:qS l off 1=[x]):zD l off [x]=l:=by
 rw [<-hs];simp only [zD,qS];rw [P9,Hw,Z4i (by omega),<-Nd,Gj,Mx,Mx]
theorem Mn {id:Nat} {t:Ty} {l:List t.den} {e i:Nat} {s:Step} {p:Path} {v:Ty} {l1:List v.den} {j:Int} {q:Path} {u:Ty} {d:u.den} {cs:List Value} {f:List t.den->Option R} {r:R} {b0 yC:Nat}
  (hh:yY w g J.z6) (ho:J.z6 id=some (.nest t l e i none)) (qu:v.zW=true) (vD:∀ (R':Type) (k':(u:Ty)->u.den->Option R'),zb (.sl true t) l (s :: p) k'=k' (.sl true v) l1)
  (zC:zH w g none u d cs) (gV:place g id (.sl true t) [] 0 0 (s :: p ++ .idx j :: q)=some (b0,yC))
  (h:(jM (.sl true v) l1 (.idx j :: q) u d fun l1=>jM (.sl true t) l (s :: p) (.sl true v) l1 f)=some r) :
  ∃ l' cc ee,f l'=some r/\w.heap[b0]? = some (.cells cc ee (0,0))/\g.tag b0 = .row id (s :: p)/\yC+u.size<=cc.size/\
   zo (w.setRow b0 (zD cc.toList yC cs).toArray) g (J.setObj id (.nest t l' e i none)).z6 id (.nest t l' e i none):=by
 have zp:zH w g (some (id,[])) (.sl true t) l [g.sv id []]:=hh.z6 id _ ho;have hg:zb (.sl true t) l (s :: p) (fun u x=>some (⟨u,x⟩:(u:Ty)×u.den))=some ⟨.sl true v,l1⟩:=vD _ _;obtain ⟨U,X,bx,ox,_,_,_,hk,q0q,_,vJ,_,_,_,_⟩:=x9 zp hg;simp only [zI,Z4j] at hk;obtain ⟨rfl,_⟩:=hk;have hq:=Xw vJ
 cases s with
 | fst=>simp [jg] at hq
 | snd=>simp [jg] at hq
 | idx i0=>
  have hq':jg t p=some v:=by simpa [jg] using hq
  obtain ⟨l1',bh,oh,ch,eh,ph,hk,zr9,jW,Hj,_,pJ,hoh,gJ,hw⟩:=Gr (focus w g id t) (pre:=[]) hq' zp hg;simp only [zI,Z4j,heq_eq_eq,Vq] at hk;subst hk;simp only [QP] at Hj gJ hw;have hchl:ch.toList.length=ch.size:=vf;obtain ⟨x,hx⟩:=Z2i.1 (yW (l:=ch.toList) (off:=oh) (n:=1) (by omega));rw [hx] at gJ;obtain ⟨l2,b2,o2,n2,cp2,o',cc,ee,hf,hll,qf,jZ,zY,zM,qC,pc⟩:=Ex qu gJ zC h;have e1:=gg (j:=j) (pre:=[]) (t:=.sl true t) (b:=0) (off:=0) (x:=(bx,ox)) hq q0q qf;have e2:=jN e1 (Ql hq) jZ;have Cq:Step.idx i0 :: p++[Step.idx j]++q = .idx i0 :: p ++ .idx j :: q:=by simp
  rw [Cq,gV] at e2;simp only [zI,gP] at e2;obtain ⟨rfl,rfl⟩:=e2;have je:bh≠b0:=by
   intro he;subst he;rw [zM] at jW;simp only [Tag.row.injEq,Vq] at jW;subst jW;omega
  have F2:=jU (w:=w) (g:=g) (id:=id) (b0:=b0) (zD cc.toList (o2+j.toNat*v.size+o') cs).toArray (.inl ⟨_,zM⟩);have z4v:No w g (w.setRow b0 (zD cc.toList (o2+j.toNat*v.size+o') cs).toArray) g id (.idx i0 :: p) bh:=by
   refine ⟨F2.ro,fun _ _=>rfl,fun q' b hb hq'=>⟨hb,fun _=>setRow_other w b0 b _ ?_⟩⟩;intro he;subst he;rw [zM] at hb;simp only [Tag.row.injEq,Vq] at hb;exact hq' (by rw [hb];exact Z4a _)
  obtain ⟨l3,hf3,_,zr7⟩:=hw _ g l2 x z4v (by
   rw [Sf (by omega) hx,setRow_other w b0 bh _ je];simpa using pJ) pc _ _ hf
  exact ⟨l3,cc,ee,hf3,zY,zM,qC,zr7⟩
theorem VK {id:Nat} {t:Ty} {l:List t.den} {p:Path} {v:Ty} {l1:List v.den} (zp:zH w g (some (id,[])) (.sl true t) l [g.sv id []]) (vJ:Hq t p=some v)
  (vD:∀ (R':Type) (k':(u:Ty)->u.den->Option R'),zb (.sl true t) l p k'=k' (.sl true v) l1) :
  H8 w g id t l p/\zH w g (some (id,p)) (.sl true v) l1 [g.sv id p]:=by
 cases p with
 | nil=>simp [Hq] at vJ
 | cons s p=>
  cases s with
  | fst=>simp [Hq] at vJ
  | snd=>simp [Hq] at vJ
  | idx i0=>
   simp only [Hq] at vJ;have hg:zb (.sl true t) l (.idx i0 :: p) (fun u x=>some (⟨u,x⟩:(u:Ty)×u.den))=some ⟨.sl true v,l1⟩:=vD _ _;obtain ⟨l1',bh,oh,ch,eh,ph,hk,zr9,jW,Hj,_,pJ,hoh,gJ,hw⟩:=Gr (focus w g id t) (pre:=[]) vJ zp hg;simp only [zI,Z4j,heq_eq_eq,Vq] at hk;subst hk;simp only [QP] at Hj gJ hw;have hlen:∃ bk o cap,g.sv id [] = .slice (some ⟨bk,o,none⟩) l.length cap:=by
    obtain ⟨a,cap,_,qf,_,_,h3⟩:=zp;rcases h3 with ⟨_,rfl,_⟩ | ⟨b,off,c,e,rfl,_⟩
    ·simp only [zb] at hg;cases i0 <;> simp [idx] at hg
    ·exact ⟨b,off,cap,qf⟩
   refine ⟨⟨hlen,v,bh,oh,ch,eh,ph,vJ,zr9 0 0,jW,Hj,pJ,hoh,fun w' g' l' x hn Cw UZ R' f r' kz=>?_⟩,?_⟩
   ·obtain ⟨l2,hf,_,Bh⟩:=hw w' g' l' x hn Cw UZ f r' kz;refine ⟨l2,hf,?_⟩;rw [hn.sv [] (EP (by simp))];exact Bh
   ·obtain ⟨a,cap,uR,qf,h1⟩:=gJ;exact ⟨a,cap,by rw [qf],qf,h1⟩
open Classical in
noncomputable def ke (g:z8) (from_:Option Nat) (id:Nat) (p:Path) (x:Value):z8 where
 tag:=fun b=>match g.tag b with
  | .row i q=>if some i=from_ then .row id (p++q) else .row i q
  | t=>t
 sv:=fun i q=>if i=id/\q=p then x else g.sv i q
 qj:=g.qj
theorem L4 {fr:Option Nat} {id:Nat} {p:Path} {x:Value} {b:Nat}:(ke g fr id p x).tag b = .ro↔g.tag b = .ro:=by
 simp only [ke]
 cases hb:g.tag b with
 | row i q=>by_cases h:some i=fr <;> simp [h]
 | _=>simp
theorem PD {fr:Option Nat} {id:Nat} {p:Path} {x:Value} {b:Nat}:(ke g fr id p x).tag b = .zt↔g.tag b = .zt:=by
 simp only [ke]
 cases hb:g.tag b with
 | row i q=>by_cases h:some i=fr <;> simp [h]
 | _=>simp
theorem DV {fr:Option Nat} {id:Nat} {p:Path} {x:Value} {b i:Nat} {q:Path} (h:g.tag b = .row i q) (hi:some i≠fr):(ke g fr id p x).tag b = .row i q:=by
 simp only [ke,h,qZ hi]
theorem TI {fr:Option Nat} {id:Nat} {p:Path} {x:Value} {b i:Nat} (h:g.tag b = .box i):(ke g fr id p x).tag b = .box i:=by
 simp only [ke,h]
theorem z2z {n:Nat} {a:Act} {id:Nat} {t:Ty} {l:List t.den} {e i:Nat} {h0:Option Path} {p:Path} {av:z7} {x:Value} {f:St->Option R} {r:R} {b0 yC:Nat}
  (zy:zG n g w a J) (ho:J.z6 id=some (.nest t l e i h0)) (z57:∀ v,Hq t p=some v->(∃ l1:List v.den,∀ (R':Type) (k':(u:Ty)->u.den->Option R'),zb (.sl true t) l p k'=k' (.sl true v) l1)->H8 w g id t l p)
  (gV:place g id (.sl true t) [] 0 0 p=some (b0,yC)) (hx:jK w g J.z6 av [x]) (h:AM J id t l e i p av f=some r) :
  ∃ cc ee pre J' g',f J'=some r/\w.heap[b0]? = some (.cells cc ee (0,0))/\g.tag b0 = .row id pre/\yC < cc.size/\zG n g' (w.setRow b0 (zD cc.toList yC [x]).toArray) a J'/\
   Ext w g (w.setRow b0 (zD cc.toList yC [x]).toArray) g'/\(∀ m,zJ g J m->zJ g' J' m)/\J'.next=J.next:=by
 unfold AM at h;split at h
 ·rename_i v vJ
  cases qu:v.zW with
  | false=>rw [qu] at h;simp at h
  | true=>
   rw [qu] at h;simp only [zB] at h;have key:∃ (fr:Option Nat) (d:List v.den) (J1:St),J1.zk=J.zk/\J1.next=J.next/\(∀ j,some j≠fr->J1.z6 j=J.z6 j)/\(∀ j,some j=fr->J1.z6 j=none/\j≠id/\J.z6 j≠none)/\
     (jM (.sl true t) l p (.sl true v) d fun l=>f (J1.setObj id (.nest t l e (i+1) none)))=some r/\
     (∀ w' g',zT w g w' g'->g'.sv id p=x->(∀ b,(∃ j,some j=fr/\g.tag b = .row j [])->g'.tag b = .row id p/\w'.heap[b]? = w.heap[b]?)->zH w' g' (some (id,p)) (.sl true v) d [x]):=by
    unfold uS at h;split at h
    ·refine ⟨none,[],J,rfl,rfl,fun _ _=>rfl,fun _ h=>by simp at h,h,fun w' g' _ qf _=>?_⟩;have Gh:[x]=[.slice none 0 0]:=hx;simp only [BL,U6] at Gh;subst Gh;exact ⟨none,0,rfl,qf,yN _,jt _,.inl ⟨rfl,rfl,rfl⟩⟩
    ·rename_i vY ep';split at h
     ·rename_i t' l' e' PK
      cases hb:Nat.beq e' ep' with
      | false=>rw [hb] at h;simp at h
      | true=>
       rw [hb] at h;have he:=zE hb;subst he;simp only [zB] at h;obtain ⟨hc,h⟩:=qe h;have Cw:t'=v:=by simpa using hc
       subst Cw;have je:vY≠id:=by intro hc;rw [hc,ho] at PK;simp at PK
       refine ⟨some vY,_,J.kill vY,rfl,rfl,fun j hj=>?_,fun j hj=>?_,h,fun w' g' hr qf Jb=>?_⟩
       ·simp only [St.kill];exact zi _ _ (fun h=>hj (by rw [h]))
       ·simp only [zI] at hj;subst hj;exact ⟨by simp [St.kill,GJ],je,by rw [PK];simp⟩
       ·obtain ⟨v0,hv0,_,pR⟩:=hx;simp only [BL,U6] at hv0;subst hv0;have hxs:=(pR _ _ _ PK).2 rfl;obtain ⟨Pn,ad,cap,uR,Ef,h1,h2,h3⟩:=zy.heap.z6 vY _ PK;refine ⟨ad,cap,by rw [hxs,Ef];rfl,by rw [qf,hxs,Ef];rfl,h1,h2,?_⟩;rcases h3 with h3 | ⟨b,off,c,ee,ha,zM,zY,hs,js⟩
        ·exact .inl h3
        ·obtain ⟨k1,k2⟩:=Jb b ⟨vY,rfl,zM⟩;exact .inr ⟨b,off,c,ee,ha,k1,k2.trans zY,hs,fun i hi=>zH.y9 (o:=none) Pn ((zH.y9 (o':=none) Pn (js i hi)).kept hr)⟩
     ·simp at h
    ·simp at h
   obtain ⟨fr,d,J1,Pm,PG,N7,Ei,kz,hmv⟩:=key;have hp:p≠[]:=by intro hp;subst hp;simp [Hq] at vJ
   have hqq:∃ i0 p',p = .idx i0 :: p':=by
    cases p with
    | nil=>exact absurd rfl hp
    | cons s p'=>cases s with
     | idx i0=>exact ⟨i0,p',rfl⟩
     | fst=>simp [Hq] at vJ
     | snd=>simp [Hq] at vJ
   have q0b:jg (.sl true t) p=some v:=by
    obtain ⟨i0,p',rfl⟩:=hqq;simpa [Hq,jg] using vJ
   obtain ⟨l1,DY⟩:=Y1 (.sl true t) l p q0b kz;obtain ⟨_,v',b1,off1,c,ee,pre,z4f,zkv,zM,pe,zY,jZ,z4d⟩:=z57 v vJ ⟨l1,DY⟩;rw [vJ] at z4f;simp only [zI] at z4f;subst z4f;rw [gV] at zkv;simp only [zI,gP] at zkv;obtain ⟨rfl,rfl⟩:=zkv;have zs0:some id≠fr:=fun hc=>(Ei id hc).2.1 rfl
   have q6g:c.toList.length=c.size:=vf;have kD:∀ b,b≠b0->(w.setRow b0 (zD c.toList yC [x]).toArray).heap[b]? = w.heap[b]? := fun b hb=>setRow_other w b0 b _ hb
   have pY:zT w g (w.setRow b0 (zD c.toList yC [x]).toArray) (ke g fr id p x):=
    ⟨fun b hb=>⟨L4.2 hb,kD b (fun he=>by rw [he,zM] at hb;simp at hb)⟩⟩
   have zC:=hmv _ (ke g fr id p x) pY (by simp [ke]) (fun b hb=>by
    obtain ⟨j,hj,hb⟩:=hb;refine ⟨by simp only [ke,hb,yQ hj];simp,kD b (fun he=>?_)⟩;rw [he,zM] at hb;simp only [Tag.row.injEq] at hb;exact zs0 (by rw [hb.1];exact hj))
   have z4v:No w g (w.setRow b0 (zD c.toList yC [x]).toArray) (ke g fr id p x) id p b0:=by
    refine ⟨pY,fun q hq=>?_,fun q b hb hq=>⟨DV hb zs0,fun je=>kD b je⟩⟩;simp only [ke];rw [qZ];rintro ⟨_,rfl⟩;exact hq (Z4a _)
   obtain ⟨l2,Pr,pc⟩:=z4d _ _ d x z4v (setRow_heap w b0 c _ ee _ zY) zC _ _ kz;have ga:∀ j,j≠id->some j≠fr->Zh w g (w.setRow b0 (zD c.toList yC [x]).toArray) (ke g fr id p x) j:=by
    intro j hj En;refine ⟨⟨fun q=>by simp only [ke];rw [qZ (fun h=>hj h.1)],fun q b hb=>⟨DV hb En,kD b (fun he=>?_)⟩⟩,rfl,fun hb=>⟨TI hb,kD _ (fun he=>?_)⟩⟩
    ·rw [he,zM] at hb;simp only [Tag.row.injEq] at hb;exact hj hb.1.symm
    ·rw [he,zM] at hb;simp at hb
   have hσ:∀ j,(J1.setObj id (.nest t l2 e (i+1) none)).z6 j=if j=id then some (.nest t l2 e (i+1) none) else J1.z6 j:=by
    intro j;by_cases hj:j=id
    ·subst hj;simp [St.setObj,zR]
    ·simp only [St.setObj,qZ hj];exact zi _ _ hj
   have uG:∀ j,qv g (ke g fr id p x) j (J.z6 j) ((J1.setObj id (.nest t l2 e (i+1) none)).z6 j):=by
    intro j;rw [hσ];by_cases hj:j=id
    ·subst hj;rw [yQ rfl];exact .inr (.inr (.inr (.inr ⟨t,l,l2,e,e,i,i+1,h0,none,ho,rfl,yN _,Z1s _,fun _=>by simp only [ke];rw [qZ (fun h=>hp h.2.symm)],fun h=>by omega⟩)))
    ·rw [qZ hj];by_cases En:some j=fr
     ·exact .inl (Ei j En).1
     ·rw [N7 j En];exact qv.same (ga j hj En)
   refine ⟨c,ee,pre,_,ke g fr id p x,Pr,zY,zM,jZ,?_,?_,?_,PG⟩
   ·refine zy.step (m:=id) pY (show (J1.setObj id _).zk=J.zk from Pm) (.inr (uG id)) (fun j _=>uG j) (fun j y hy=>?_) (fun b hb=>?_)
    ·rw [hσ] at hy;by_cases hj:j=id
     ·subst hj;rw [yQ rfl] at hy;simp only [zI] at hy;subst hy;exact .inl pc
     ·rw [qZ hj] at hy;by_cases En:some j=fr
      ·rw [(Ei j En).1] at hy;simp at hy
      ·rw [N7 j En] at hy;exact .inr ⟨hy,ga j hj En⟩
    ·have:=zy.heap.tags b (fun h=>hb (PD.2 h));simpa [World.setRow] using this
   ·refine ⟨rfl,rfl,rfl,yN _,by simp [World.setRow],fun b _ hb=>⟨kD b (fun he=>?_),?_⟩⟩
    ·rw [he,zM] at hb;simp at hb
    ·rcases hb with hb | hb
     ·rw [hb];exact PD.2 hb
     ·rw [hb];exact L4.2 hb
   ·intro m hm;have ID:m≠id:=by intro he;subst he;have:=hm.z6;rw [ho] at this;simp at this
    have hmf:some m≠fr:=fun hc=>(Ei m hc).2.2 hm.z6
    refine ⟨by rw [hσ,qZ ID,N7 m hmf];exact hm.z6,fun b q hb=>?_,fun b hb=>?_,fun j av hj=>hm.zk j av (by rw [<-Pm];exact hj),fun j av hj=>?_⟩
    ·simp only [ke] at hb;split at hb
     ·rename_i i' q' hg';split at hb
      ·simp only [Tag.row.injEq] at hb;exact ID hb.1.symm
      ·exact hm.row b q (by rw [hg'];exact hb)
     ·exact hm.row b q hb
    ·simp only [ke] at hb;split at hb
     ·split at hb <;> simp at hb
     ·exact hm.box b hb
    ·rw [hσ] at hj;split at hj
     ·simp at hj
     ·by_cases En:some j=fr
      ·rw [(Ei j En).1] at hj;simp at hj
      ·rw [N7 j En] at hj;exact hm.cells j av hj
 ·simp at h
open Classical in
noncomputable def Ma (g:z8) (id:Nat) (p:Path) (m:Nat):z8 where
 tag:=fun b=>if g.tag b = .row id p then .row m [] else g.tag b
 sv:=fun i q=>if i=m then g.sv id p else g.sv i q
 qj:=g.qj
theorem zjh {n:Nat} {a:Act} {id base:Nat} {t:Ty} {l:List t.den} {e i:Nat} {p:Path} {v:Ty} {l1:List v.den} (zy:zG n g w a J) (hf:zJ g J base) (ho:J.z6 id=some (.nest t l e i none))
  (qu:v.zW=true) (vJ:Hq t p=some v) (vD:∀ (R':Type) (k':(u:Ty)->u.den->Option R'),zb (.sl true t) l p k'=k' (.sl true v) l1) :
  let g':=Ma g id p base;let J':=(J.setObj id (.nest t l e i (some p))).setObj base (.row v l1 0)
  zG n g' w a J'/\Ext w g w g'/\(∀ m,m≠base->zJ g J m->zJ g' J' m)/\g'.sv base []=g.sv id p/\zT w g w g':=by
 intro g' J';have zp:zH w g (some (id,[])) (.sl true t) l [g.sv id []]:=zy.heap.z6 id _ ho;obtain ⟨⟨⟨bk0,o0,zmf,zkm⟩,v',b0,off,c,ee,pre,z4f,gV,zM,pe,zY,jZ,z4d⟩,vk⟩:=VK zp vJ vD;have hbid:base≠id:=by intro he;subst he;have:=hf.z6;rw [ho] at this;simp at this
 have Jb:∀ b,g.tag b≠.row id p->g'.tag b=g.tag b:=fun b hb=>by simp only [g',Ma,qZ hb]
 have qf:∀ j q,j≠base->g'.sv j q=g.sv j q:=fun j q hj=>by simp only [g',Ma,qZ hj]
 have pY:zT w g w g':=⟨fun b hb=>⟨by rw [Jb b (by rw [hb];simp)];exact hb,rfl⟩⟩;have ga:∀ j,j≠id->j≠base->Zh w g w g' j:=by
  intro j hj hjb;refine ⟨⟨fun q=>qf j _ hjb,fun q b hb=>⟨?_,rfl⟩⟩,rfl,fun hb=>⟨?_,rfl⟩⟩
  ·rw [Jb b (by rw [hb];simp only [ne_eq,Tag.row.injEq,not_and];exact fun h=>absurd h hj)];exact hb
  ·rw [Jb _ (by rw [hb];simp)];exact hb
 have hσ:∀ j,J'.z6 j=if j=base then some (.row v l1 0) else if j=id then some (.nest t l e i (some p)) else J.z6 j:=by
  intro j;by_cases hj:j=base
  ·subst hj;simp [J',St.setObj,zR]
  ·simp only [J',St.setObj,qZ hj];rw [zi _ _ hj];by_cases hj2:j=id
   ·subst hj2;simp [zR]
   ·rw [qZ hj2,zi _ _ hj2]
 have uG:∀ j,j≠base->qv g g' j (J.z6 j) (J'.z6 j):=by
  intro j hj;rw [hσ,qZ hj];by_cases hj2:j=id
  ·subst hj2;rw [yQ rfl];exact .inr (.inr (.inr (.inr ⟨t,l,l,e,e,i,i,none,some p,ho,rfl,yN _,yN _,fun _=>qf _ _ hj,fun _ _=>qf _ _ hj⟩)))
  ·rw [qZ hj2];exact qv.same (ga j hj2 hj)
 have zkl:g'.sv base []=g.sv id p:=by simp [g',Ma]
 refine ⟨?_,⟨rfl,rfl,rfl,yN _,yN _,fun b _ hb=>⟨rfl,Jb b (by rcases hb with hb | hb <;> rw [hb] <;> simp)⟩⟩,fun m hm wk=>?_,zkl,pY⟩
 ·refine zy.step (m:=base) pY rfl (.inl hf) uG (fun j y hy=>?_) (fun b hb=>?_)
  ·rw [hσ] at hy;by_cases hj:j=base
   ·subst hj;rw [yQ rfl] at hy;simp only [zI] at hy;subst hy;left;refine ⟨qu,?_⟩;obtain ⟨ad,cap,uR,Ef,h1,h2,h3⟩:=vk;refine ⟨ad,cap,by rw [zkl];exact uR,by rw [zkl];exact Ef,h1,h2,?_⟩;rcases h3 with h3 | ⟨b,of,cc,e3,ha,z4i,Ny,hs,js⟩
    ·exact .inl h3
    ·exact .inr ⟨b,of,cc,e3,ha,by simp only [g',Ma,yQ z4i],Ny,hs,fun i hi=>zH.y9 (o:=none) qu ((zH.y9 (o':=none) qu (js i hi)).kept pY)⟩
   ·rw [qZ hj] at hy;by_cases hj2:j=id
    ·subst hj2;rw [yQ rfl] at hy;simp only [zI] at hy;subst hy;left;have hnp:∀ q,¬ p <+: q->q≠p:=fun q hq he=>hq (by rw [he];exact Z4a _)
     refine ⟨⟨bk0,o0,zmf,by rw [qf j [] hj];exact zkm⟩,v',b0,off,c,ee,pre,z4f,by rw [ja (fun q=>qf j q hj)];exact gV,?_,pe,zY,jZ,fun w2 g2 l3 x hn GQ Bh R f r kz=>?_⟩
     ·rw [Jb b0 (by rw [zM];simp only [ne_eq,Tag.row.injEq,Vq];intro h;rw [h] at pe;omega)];exact zM
     ·refine z4d w2 g2 l3 x ⟨⟨fun b hb=>?_⟩,fun q hq=>(hn.sv q hq).trans (qf j q hj),fun q b hb hq=>?_⟩ GQ Bh f r kz
      ·exact hn.ro.qj b (pY.qj b hb).1
      ·have:g'.tag b = .row j q:=by
        rw [Jb b (by rw [hb];simp only [ne_eq,Tag.row.injEq,Vq];exact hnp q hq)];exact hb
       exact hn.qj q b this hq
    ·rw [qZ hj2] at hy;exact .inr ⟨hy,ga j hj2 hj⟩
  ·by_cases w5:g.tag b = .row id p
   ·exact zy.heap.tags b (by rw [w5];simp)
   ·rw [Jb b w5] at hb;exact zy.heap.tags b hb
 ·have ID:m≠id:=by intro he;subst he;have:=wk.z6;rw [ho] at this;simp at this
  refine ⟨by rw [hσ,qZ hm,qZ ID];exact wk.z6,fun b q hb=>?_,fun b hb=>?_,wk.zk,fun j av hj=>?_⟩
  ·by_cases w5:g.tag b = .row id p
   ·simp only [g',Ma,yQ w5,Tag.row.injEq] at hb;exact hm hb.1.symm
   ·rw [Jb b w5] at hb;exact wk.row b q hb
  ·by_cases w5:g.tag b = .row id p
   ·simp [g',Ma,yQ w5] at hb
   ·rw [Jb b w5] at hb;exact wk.box b hb
  ·rw [hσ] at hj;split at hj
   ·simp at hj
   ·split at hj
    ·simp at hj
    ·exact wk.cells j av hj
end
end Go.Kz
namespace Go.Kz
variable {R:Type}
section
variable {P:Program} {o:Oper} {a:Act} {w:World} {K:Act->World->Prop} {Q:Exit->Act->World->Prop} {c:Ctx} {J:St} {g:z8} {k:St->Option R} {r:R} {base:Nat} {mo:Bool}
theorem Ng {id:Nat} {t:Ty} {l:List t.den} {e i:Nat} {p:Path} {av:z7} {f:St->Option R} (h:AM J id t l e i p av f=some r):av.sk = .leaf:=by
 unfold AM at h;split at h
 ·rename_i v _
  cases qu:v.zW with
  | false=>rw [qu] at h;simp at h
  | true=>
   rw [qu] at h;simp only [zB] at h;unfold uS at h;split at h
   ·rfl
   ·rfl
   ·simp at h
 ·simp at h
theorem C4 {t:TypeId} {x y:Operand} {u:Ty} {bv:z7} {cs:List Value} {id:Nat} {p:Path} {ep:Nat} (ho:o.op = .store t x y) (W9:o.dst=none) (hT:qw P u t) (zy:zG c.ntmps g w a J)
  (ex:zr w g J.z6 (.nv true id p ep) (a.eval x)) (zS:jK w g J.z6 bv cs) (vj:(a.eval y).cells.toList=cs) (gE:cs.length=u.size) (wG:u.sk=bv.sk)
  (h:EC J id p ep bv k=some r) (hK:vu c.ntmps k r g w J base true K):o.wp P a w K Q:=by
 simp only [zr] at ex;obtain ⟨cs0,⟨v0,rfl,qE,hv⟩,jd⟩:=ex;have PA:∀ {t1:Ty} {l1:List t1.den} {e i:Nat} {h0:Option Path},J.z6 id=some (.nest t1 l1 e i h0)->i=ep->
   (∀ v,Hq t1 p=some v->(∃ l2:List v.den,∀ (R':Type) (k':(u:Ty)->u.den->Option R'),zb (.sl true t1) l1 p k'=k' (.sl true v) l2)->H8 w g id t1 l1 p)->
   AM J id t1 l1 e i p bv k=some r->o.wp P a w K Q:=by
  intro t1 l1 e i h0 zp hi z57 h;obtain ⟨hp,b0,yC,gV,pR⟩:=((hv _ _ _ _ _ zp).2 hi).2 rfl;have hl:=Ng h;have DY:cs.length=1:=by rw [zS.len,hl];rfl
  obtain ⟨z,rfl⟩:=Z2i.1 DY;obtain ⟨cc,ee,pre,J',g',hk,zY,zM,jZ,qT,ql,vT,hn⟩:=z2z zy zp z57 gV zS h;have zc:=uC (P:=P) (w:=w) (off:=yC) hT zY vj gE (by rw [<-gE];simp;omega) zS.one;have xP:a.eval x = .pointer (some ⟨b0,yC,none⟩):=by rw [jd];exact pR
  refine wp_skip W9 ?_ qT ql (fun m _ wk=>vT m wk) hn hk (fun h=>Bool.noConfusion h) hK;simp [execOp,ho,xP,Instr.storeAt,Instr.sureAddr,zc]
 unfold EC at h;split at h
 ·rename_i t1 l1 e i zp
  cases hb:Nat.beq i ep with
  | false=>rw [hb] at h;simp at h
  | true=>
   rw [hb] at h;have hi:=zE hb;simp only [zB] at h;have Ec:zH w g (some (id,[])) (.sl true t1) l1 [g.sv id []]:=zy.heap.z6 id _ zp
   cases hs:(Hq t1 p).isSome with
   | true=>
    rw [hs] at h;simp only [zB] at h
    exact PA zp hi (fun v vJ ⟨l2,UW⟩=>(VK Ec vJ UW).1) h
   | false=>
    rw [hs] at h;simp only [zU] at h;split at h
    ·rename_i s p1 j q zro;have Cq:=Aq zro;obtain ⟨U,X,Qg,vD⟩:=Jd _ _ _ h;split at Qg
     ·rename_i v l2
      cases qu:v.zW with
      | false=>rw [qu] at Qg;simp at Qg
      | true=>
       rw [qu] at Qg;simp only [zB] at Qg;obtain ⟨u1,x1,PX,N4⟩:=Io qu Qg;obtain ⟨d,J1,g1,hk3,h1,h2,h3,uW⟩:=gq 20 zy.heap zS N4 PX;have yP:=h3.st h1 zy;split at hk3
       ·rename_i t2 l3 e2 i2 Dx;have ga:J1.z6 id=J.z6 id:=by
         rcases h3.z6 id with e | e
         ·exact e
         ·rw [e] at Dx;simp at Dx
        have DZ:J1.z6 id=some (.nest t1 l1 e i none):=ga.trans zp;obtain ⟨hp,b0,yC,gV,pR⟩:=((hv _ _ _ _ _ zp).2 hi).2 rfl;have zku:place g1 id (.sl true t1) [] 0 0 (s :: p1 ++ .idx j :: q)=some (b0,yC):=by
         rw [<-Cq];exact (ja (g:=g) (g':=g1) (fun p=>by rw [h3.sv])).trans gV
        obtain ⟨l',cc,ee,hf,zY,zM,qC,qc⟩:=Mn yP.heap DZ qu vD uW zku hk3;have hur:u1.size=u.size:=by rw [<-uW.len,gE]
        have zc:=uC (P:=P) (w:=w) hT zY vj gE (by rw [<-hur];exact qC) zS.one;have F2:=jU (w:=w) (g:=g1) (id:=id) (b0:=b0) (zD cc.toList yC cs).toArray (.inl ⟨_,zM⟩);have wO:=F2.st yP (o':=.nest t1 l' e i none) (.inr (.inr (.inr (.inr ⟨t1,l1,l',e,e,i,i,none,none,DZ,rfl,yN _,yN _,fun _=>rfl,fun _ _=>rfl⟩)))) qc;have xP:a.eval x = .pointer (some ⟨b0,yC,none⟩):=by rw [jd];exact pR
        refine wp_skip W9 ?_ wO (h3.ext.trans F2.ext) (fun m _ wk=>?_) h2 hf (fun h=>Bool.noConfusion h) hK
        ·simp [execOp,ho,xP,Instr.storeAt,Instr.sureAddr,zc]
        ·exact F2.fresh (by rw [DZ];simp) (fun y hy=>by simp at hy) (h3.fresh h1 wk)
       ·simp at hk3
     ·simp at Qg
    ·simp at h
 ·rename_i t1 l1 e i h0 zp
  cases hb:Nat.beq i ep with
  | false=>rw [hb] at h;simp at h
  | true=>
   rw [hb] at h;have hi:=zE hb;simp only [zB] at h;obtain ⟨hpe,hfk⟩:=qm h;obtain rfl:=JI hpe;exact PA zp hi (fun v vJ _=>zy.heap.z6 id _ zp) hfk
 ·simp at h
theorem z2b (kN:gn P c.tt) {t:TypeId} {x y:Operand} (ho:o.op = .store t x y) (zy:zG c.ntmps g w a J) (h:yG c J base o k=some r) (hK:vu c.ntmps k r g w J base true K):o.wp P a w K Q:=by
 simp only [yG,ho] at h;split at h
 ·rename_i av bv u hx hy hu W9
  cases hb:(bv.val && u.sk.same bv.sk) with
  | false=>rw [hb] at h;simp at h
  | true=>
   rw [hb] at h;simp only [zB] at h;simp only [zA] at hb;have wG:=Sk.qg hb.2;have hT:=kN _ _ hu;obtain ⟨ex,efx⟩:=qF zy hx;obtain ⟨ey,efy⟩:=qF zy hy;obtain ⟨cs,zS,Qf,vj⟩:=jn hb.1 ey;have gE:cs.length=u.size:=by rw [zS.len,<-wG,Ty.zQ]
   unfold z1b at h;split at h
   ·rename_i id p ep;split at h
    ·simp at h
    ·rename_i s q;obtain ⟨t0,l0,El⟩:=xY h;simp only [zr] at ex;obtain ⟨cs0,⟨v,rfl,qE,hv⟩,jd⟩:=ex;obtain ⟨hp,b0,yC,gV,pR⟩:=(hv _ _ _ El).2 rfl;obtain ⟨t1,l1,u1,e1,b,off,cc,ee,DZ,qu,hk,N4,kL,vJ,zM,zY,qC,zC⟩:=ui zy.heap hp h;obtain ⟨d,J1,g1,Qg,h1,h2,h3,uW⟩:=gq 20 zy.heap zS N4 hk;have yP:=h3.st h1 zy;split at Qg
     ·rename_i t2 l2 e2 Dx
      cases F0:Nat.beq e2 ep with
      | false=>rw [F0] at Qg;simp at Qg
      | true=>
       rw [F0] at Qg;have IS:=zE F0;subst IS;simp only [zB] at Qg;have ga:J1.z6 id=J.z6 id:=by
        rcases h3.z6 id with e | e
        ·exact e
        ·rw [e] at Dx;simp at Dx
       have zku:place g1 id (.sl true t0) [] 0 0 (s :: q)=some (b0,yC):=by
        exact (ja (g:=g) (g':=g1) (fun p=>by rw [h3.sv])).trans gV
       have q0f:t2=t0:=by
        rw [ga,El] at Dx;simp only [zI,Obj.row.injEq] at Dx;exact Dx.1.symm
       subst q0f
       cases s with
       | fst=>simp [jM] at Qg
       | snd=>simp [jM] at Qg
       | idx i=>
        obtain ⟨l',cc',ee',hf,hll,Es,zqq,Ph,qc⟩:=Ss yP.heap Dx N4 uW zku Qg;have hur:u1.size=u.size:=by rw [<-uW.len,gE]
        have zc:=uC (P:=P) (w:=w) hT Es vj gE (by rw [<-hur];exact Ph) zS.one;have F2:=jU (w:=w) (g:=g1) (id:=id) (b0:=b0) (zD cc'.toList yC cs).toArray (.inl ⟨[],zqq⟩);have wO:=F2.st yP (o':=.row t2 l' e2) (.inr (.inl ⟨t2,l2,l',e2,e2,Dx,rfl,.inr ⟨rfl,hll,fun _=>rfl⟩⟩)) qc;have xP:a.eval x = .pointer (some ⟨b0,yC,none⟩):=by rw [jd];exact pR
        refine wp_skip W9 ?_ wO (h3.ext.trans F2.ext) (fun m _ wk=>?_) h2 hf (fun h=>Bool.noConfusion h) hK
        ·simp [execOp,ho,xP,Instr.storeAt,Instr.sureAddr,zc]
        ·exact F2.fresh (by rw [Dx];simp) (fun y hy=>by simp at hy) (h3.fresh h1 wk)
     ·simp at Qg
   ·rename_i id p;split at h
    ·rename_i whole zp;obtain ⟨hnt,h⟩:=Vi h;obtain ⟨cc,e,zY,zM,hall⟩:=(zy.heap.z6 id _ zp).out hnt;obtain ⟨old,off,hk,jZ,J7,_⟩:=ZL hall h
     cases hbo:old.sk.same bv.sk with
     | false=>rw [hbo] at hk;simp at hk
     | true=>
      rw [hbo] at hk;simp only [zB] at hk;have hos:=Sk.qg hbo;rw [hos] at jZ;obtain ⟨E4,PX,hws,zcf,gB⟩:=Y4 zS hall jZ hk;simp only [zr] at ex;obtain ⟨cs0,⟨v,rfl,qE,hv⟩,jd⟩:=ex;obtain ⟨YK,s,kq,pR⟩:=hv _ zp;rw [jZ] at kq;simp only [zI,gP] at kq;obtain ⟨rfl,_⟩:=kq;have hle:=Sk.wi jZ;have zsp:=hall.len;rw [vf] at zsp;have Qh:bv.sk.size=u.size:=by rw [<-wG,Ty.zQ]
      have zc:=uC (P:=P) (w:=w) (u:=u) (off:=off) hT zY vj gE (by omega) zS.one;have F2:=jU (w:=w) (g:=g) (id:=id) (b0:=g.qj id) (zD cc.toList off cs).toArray (.inr zM);have uG:∀ i,qv g g i (J.z6 i) ((J.setObj id (.cell E4)).z6 i):=by
       intro i;by_cases hi:i=id
       ·subst hi;simp only [St.setObj,zR];exact .inr (.inr (.inl ⟨whole,E4,zp,rfl,hws,rfl⟩))
       ·simp only [St.setObj];rw [zi _ _ hi];exact qv.same (F2.same hi)
      have wO:=F2.st zy (o':=.cell E4) (.inr (.inr (.inl ⟨whole,E4,zp,rfl,hws,rfl⟩))) (by
       refine zo.mk ⟨(zD cc.toList off cs).toArray,e,setRow_heap w _ cc _ e _ zY,zM,?_⟩;exact jK.frame F2.ro (fun i _=>uG i) zcf)
      have xP:a.eval x = .pointer (some ⟨g.qj id,off,none⟩):=by rw [jd];exact pR
      refine wp_skip (J:=J) W9 ?_ wO F2.ext (fun m _ wk=>?_) rfl PX (fun h=>Bool.noConfusion h) hK
      ·simp [execOp,ho,xP,Instr.storeAt,Instr.sureAddr,zc]
      ·refine F2.fresh (by rw [zp];simp) (fun y hy=>?_) wk;simp only [Obj.cell.injEq] at hy;subst hy;exact gB m (wk.cells _ _ zp) (efy m wk)
    ·simp at h
   ·rename_i id p ep;exact C4 ho W9 hT zy ex zS vj gE wG h hK
   ·simp at h
 ·simp at h
end
end Go.Kz
namespace Go.Kz
variable {R:Type}
section
variable {P:Program} {o:Oper} {a:Act} {w:World} {K:Act->World->Prop} {Q:Exit->Act->World->Prop} {c:Ctx} {J:St} {g:z8} {k:St->Option R} {r:R} {base:Nat}
structure wW (P:Program) (w:World) (g:z8) (t:Ty) (x:Value) (m:List t.den) (news:List Value):Prop where
 len:∀ w':World,w'.heap=w.heap->(Builtin.lenOf x).run P w' = .ok m.length w'
 cells:∀ w':World,w'.heap=w.heap->(Builtin.firstCells t.size m.length x).run P w' = .ok news.toArray w'
 pre:∀ n,n<=m.length->∀ w':World,w'.heap=w.heap->(Builtin.firstCells t.size n x).run P w' = .ok (news.take (n*t.size)).toArray w'
 length:news.length=m.length*t.size
 elts:∀ (i:Nat) (h:i < m.length),zH w g none t (m.get ⟨i,h⟩) (qS news (i*t.size) t.size)
 one:∀ v∈news,v.oneCell'=true
theorem PL {w w':World} (h:w'.heap=w.heap) (ad:Addr):w'.cell? ad=w.cell? ad:=by simp [World.cell?,h]
theorem wW.YG {t:Ty} {m:List t.den} {b off cap:Nat} {cc:Array Value} {e:TypeId} {fz:Nat×Nat} (hc:w.heap[b]? = some (.cells cc e fz)) (hs:off+m.length*t.size<=cc.size)
  (js:∀ (i:Nat) (h:i < m.length),zH w g none t (m.get ⟨i,h⟩) (qS cc.toList (off+i*t.size) t.size)) :
  wW P w g t (.slice (some ⟨b,off,none⟩) m.length cap) m (qS cc.toList off (m.length*t.size)):=by
 have hlen:(qS cc.toList off (m.length*t.size)).length=m.length*t.size:=yW (by rw [vf];exact hs);refine ⟨fun w' _=>rfl,fun w' GZ=>?_,fun n hn w' GZ=>?_,hlen,fun i hi=>?_,fun v hv=>?_⟩
 ·refine run_firstCells_some (P:=P) w' t.size m.length ⟨b,off,none⟩ m.length cap _ hlen (fun j v hv=>?_);rw [Addr.add_lit,PL GZ,cell_of_row w b (off+j) cc e fz hc];simp only [qS,Z2y,Z2c] at hv;split at hv
  ·simpa using hv
  ·simp at hv
 ·have Zl:n*t.size<=m.length*t.size:=kn _ hn;refine run_firstCells_some (P:=P) w' t.size n ⟨b,off,none⟩ m.length cap _ (by rw [P9,hlen];omega) (fun j v hv=>?_);rw [Addr.add_lit,PL GZ,cell_of_row w b (off+j) cc e fz hc];simp only [qS,Z2y,Z2c] at hv;split at hv
  ·split at hv
   ·simpa using hv
   ·simp at hv
  ·simp at hv
 ·have hmul:(i+1)*t.size<=m.length*t.size:=kn _ hi;rw [wB] at hmul;rw [pP _ _ _ _ _ (by omega)];exact js i hi
 ·obtain ⟨j,hj,rfl⟩:=Jo.1 hv;have ZD:=hj;rw [hlen] at ZD;have htz:0 < t.size:=by
   rcases Z3p t.size with hz | hz
   ·rw [hz] at ZD;omega
   ·exact hz
  have hi:j / t.size < m.length:=Z3q (by rw [Z25];omega);have h1:=(js _ hi).one;refine h1 _ ?_;have hm:=Z2r j htz;have hdm:=Z3r j t.size;have hmul:(j / t.size+1)*t.size<=m.length*t.size:=kn _ hi;rw [wB] at hmul;refine Jo.2 ⟨j % t.size,?_,?_⟩
  ·rw [yW (by rw [vf];omega)];exact hm
  ·simp only [qS,Z2w,Z37];congr 1;rw [S0,Z25 (j / t.size),hdm]
theorem wW.of_nil {t:Ty} {b:Option Addr} {cap:Nat}:wW P w g t (.slice b 0 cap) ([]:List t.den) []:=by
 have h0:∀ w':World,(Builtin.firstCells t.size 0 (.slice b 0 cap)).run P w' = .ok #[] w':=fun w'=>by
  cases b with
  | none=>simp [Builtin.firstCells]
  | some b=>simp [Builtin.firstCells,loadCells,loadCellsFrom]
 refine ⟨fun w' _=>rfl,fun w' _=>h0 w',fun n hn w' _=>?_,by simp,fun i h=>by simp at h,by simp⟩;have:n=0:=by simpa using hn
 subst this;simpa using h0 w'
theorem Oj (w:World) (g:z8):zT w g w g:=⟨fun _ hb=>⟨hb,rfl⟩⟩
theorem wW.tree {k:Nat} {v:Value} {l:List (Rec k)} {news:List Value}:wW P w g (.tree k) v l news↔wW P w g (.pair (uF k) (uE k)) v (List.map (vz k) l) news:=by
 have hz:(Ty.tree k).size=(Ty.pair (uF k) (uE k)).size:=XF k;have hl:(List.map (vz k) l).length=List.length l:=Gy ..;have js:∀ (i:Nat) (h:i < List.length l) (h':i < (List.map (vz k) l).length) cs,zH w g none (.tree k) (List.get l ⟨i,h⟩) cs↔zH w g none (.pair (uF k) (uE k)) ((List.map (vz k) l).get ⟨i,h'⟩) cs:=fun i h h' cs=>by
  rw [zH.WO];simp
 constructor
 ·rintro ⟨h1,h2,h3,h4,h5,h6⟩;refine ⟨?_,?_,?_,?_,fun i hi=>?_,h6⟩
  ·rw [hl];exact h1
  ·rw [hl,<-hz];exact h2
  ·rw [hl,<-hz];exact h3
  ·rw [hl,<-hz];exact h4
  ·have wT:i < List.length l:=by rw [<-hl];exact hi
   have:=(js i wT hi _).1 (h5 i wT);rw [hz] at this;exact this
 ·rintro ⟨h1,h2,h3,h4,h5,h6⟩;rw [hl] at h1 h2 h3 h4;rw [<-hz] at h2 h3 h4;refine ⟨h1,h2,h3,h4,fun i hi=>?_,h6⟩;have wT:i < (List.map (vz k) l).length:=by rw [hl];exact hi
  have:=(js i hi wT _).2 (h5 i wT);rw [<-hz] at this;exact this
theorem AH {a b:Ty} {l:List a.den} {f:List b.den->Option R} {r:R} (h:ZM (.sl false a) (.sl false b) l f=some r):∃ m,f m=some r/\∀ v news,wW P w g a v l news->wW P w g b v m news:=by
 unfold ZM at h;split at h
 ·rename_i j x y l' k' h1 h2 h3 h4;simp only [Ty.sl.injEq,Vq] at h1 h2;subst h1;subst h2;cases h3;cases h4;obtain ⟨e,h⟩:=qe h;cases e;exact ⟨_,h,fun v news hr=>wW.tree.1 hr⟩
 ·rename_i x y j l' k' h1 h2 h3 h4;simp only [Ty.sl.injEq,Vq] at h1 h2;subst h1;subst h2;cases h3;cases h4;obtain ⟨e,h⟩:=qe h;cases e;refine ⟨_,h,fun v news hr=>wW.tree.2 ?_⟩;rw [A4];exact hr
 ·obtain ⟨e,h⟩:=qe h;cases e;exact ⟨_,h,fun _ _ hr=>hr⟩
theorem JU (hh:yY w g J.z6) {x:z7} {v:Value} {t:Ty} {f:List t.den->Option R} (ht:t.zW=true) (hx:zr w g J.z6 x v) (h:asData J 20 x (.sl false t) f=some r) (hval:x.val=true) (TP:x.N2=false) :
  ∃ m news,f m=some r/\wW P w g t v m news:=by
 cases x with
 | data t' d=>
  simp only [asData] at h;simp only [zr] at hx;obtain ⟨cs,⟨qu,zC⟩,hv⟩:=hx;have wG:=Jv h;obtain ⟨d,h,_,hF⟩:=vX h qu;obtain ⟨b,cap,rfl,h1,h2,h3⟩:=hF _ _ _ zC;simp only [z7.isAgg,z7.sk,wG,Ty.sk] at hv;have jd:v = .slice b (List.length d) cap:=hv;subst jd;refine ⟨d,?_⟩;by_cases hn:d=[]
  ·subst hn;exact ⟨[],h,wW.of_nil⟩
  ·obtain ⟨bk,off,cc,e,fz,rfl,zM,zY,qC,js⟩:=h3 hn
   exact ⟨_,h,wW.YG zY qC js⟩
 | qD=>
  simp only [asData] at h;have hv:=QU.1 hx;subst hv;have h':f []=some r:=by
   have:(Ty.sl false t).zW=true:=by simp [Ty.zW,ht]
   rw [this] at h;exact h
  exact ⟨[],[],h',wW.of_nil⟩
 | ref id p ep=>
  simp only [asData] at h;obtain ⟨t',l,zp,rfl,qu,h⟩:=kj hh h;rw [WS] at h;replace h:=AH (P:=P) (w:=w) (g:=g) (a:=t'.ro) h;obtain ⟨m,h,hT⟩:=h;simp only [zr] at hx;obtain ⟨cs,⟨x,rfl,_,hv⟩,jd⟩:=hx;have e1:=(hv _ _ _ zp).2 rfl;obtain ⟨b,cap,_,qf,h1,h2,h3⟩:=(hh.z6 _ _ zp).2;have pR:v = .slice b l.length cap:=by rw [<-qf,<-e1];exact jd
  subst pR;rcases h3 with ⟨rfl,hl,rfl⟩ | ⟨bk,off,cc,e,rfl,zM,zY,qC,js⟩
  ·subst hl;exact ⟨m,[],h,hT _ _ wW.of_nil⟩
  ·refine ⟨m,qS cc.toList off (l.length*t'.ro.size),h,hT _ _ ?_⟩;have Cy:(l.map (Ty.kR t')).length=l.length:=by simp
   have ZF:l.length*t'.size<=cap*t'.size:=kn _ h1;have:=wW.YG (P:=P) (w:=w) (g:=g) (t:=t'.ro) (m:=l.map (Ty.kR t')) (b:=bk) (off:=off) (cap:=cap) zY (by rw [Cy,Ty.qM];omega) (fun i hi=>by
    have wT:i < l.length:=by rw [Cy] at hi;exact hi
    have hf:=zH.freeze (Oj w g) (o:=none) trivial (zH.y9 (o':=none) qu (js i wT));simp only [LN,Z29,Ty.qM] at hf ⊢;exact hf)
   rw [Cy] at this
   exact this
 | view id p ep av bv=>
  simp only [asData] at h;obtain ⟨t',l,zp,rfl,qu,h⟩:=kj hh h;rw [WS] at h;replace h:=AH (P:=P) (w:=w) (g:=g) (a:=t'.ro) h;obtain ⟨m,h,hT⟩:=h;simp only [zr] at hx;obtain ⟨cs,⟨x,rfl,_,hv⟩,jd⟩:=hx;obtain ⟨_,h0,Jq,QH,e1⟩:=(hv _ _ _ zp).2 rfl;obtain ⟨b,cap,_,qf,h1,h2,h3⟩:=(hh.z6 _ _ zp).2;have pR:v=jq (.slice b l.length cap) t'.size av bv:=by rw [<-qf,<-e1];exact jd
  have Mj:=x3 l av bv h0 Jq QH;have Cy:((sub l av bv).map (Ty.kR t')).length=(bv-av).toNat:=by rw [Gy,Mj];omega
  by_cases hz:(bv-av).toNat=0
  ·have z4t:(sub l av bv).map (Ty.kR t')=[]:=Z27 (Cy.trans hz);refine ⟨m,[],h,hT _ _ ?_⟩;rw [z4t,pR];simp only [jq,hz];exact wW.of_nil
  ·rcases h3 with ⟨rfl,hl,rfl⟩ | ⟨bk,off,cc,e,rfl,zM,zY,qC,js⟩
   ·rw [hl] at QH;simp at QH;omega
   ·refine ⟨m,qS cc.toList (off+av.toNat*t'.size) ((bv-av).toNat*t'.ro.size),h,hT _ _ ?_⟩;have ZF:(av.toNat+(bv-av).toNat)*t'.size<=cap*t'.size:=kn _ (by omega);rw [wB] at ZF;have:=wW.YG (P:=P) (w:=w) (g:=g) (t:=t'.ro) (m:=(sub l av bv).map (Ty.kR t')) (b:=bk) (off:=off+av.toNat*t'.size) (cap:=cap-av.toNat) zY (by rw [Cy,Ty.qM];omega) (fun i hi=>by
     have Gn:i < (sub l av bv).length:=by simpa using hi
     have VU:av.toNat+i < l.length:=by omega
     have hf:=zH.freeze (Oj w g) (o:=none) trivial (zH.y9 (o':=none) qu (js _ VU));have hg:=We l av bv i Gn VU;rw [LN] at hg;rw [LN,Z29,hg,Ty.qM];have e3:off+av.toNat*t'.size+i*t'.size=off+(av.toNat+i)*t'.size:=by rw [wB];omega
     rw [e3];exact hf)
    rw [Cy] at this;rw [pR];simp only [jq];rw [qZ (by omega)];simp only [Z23,Addr.add_lit]
    exact this
 | agg c=>cases c <;> simp [z7.val] at hval <;> simp [asData] at h
 | nv pt id p ep=>simp [z7.N2] at TP
 | _=>simp [asData] at h
theorem ug {T E:TypeId} {t u:Ty} (qV:P.underlying T=some (.slice E)) (hE:yF P E u) (YR:u.size=t.size) {ty:TypeId} {b off n cap:Nat} {cc:Array Value} {e:TypeId} {x:Value} {m:List t.den} {news:List Value}
  (hc:w.heap[b]? = some (.cells cc e (0,0))) (ht:wW P w g t x m news) (kT:n+m.length<=cap) (qC:off+cap*t.size<=cc.size) :
  (Builtin.append_ #[T,T] ty #[.slice (some ⟨b,off,none⟩) n cap,x]).run P w = .ok (.slice (some ⟨b,off,none⟩) (n+m.length) cap) (w.setRow b (zD cc.toList (off+n*t.size) news).toArray):=by
 have hs:=hE.sizeOf w;rw [YR] at hs;have h1:=ht.len w rfl;have h2:=ht.cells w rfl;have hmul:(n+m.length)*t.size<=cap*t.size:=kn _ kT;rw [wB] at hmul;have zy:=run_storeCells_at P b (off+n*t.size) e news 0 cc w hc (by rw [ht.length];omega) ht.one;simp only [S1] at zy;simp [Builtin.append_,run_underlying qV,hs,h1,kT,h2,Addr.add_lit,zy,zD]
theorem uw {T E:TypeId} {t u:Ty} (qV:P.underlying T=some (.slice E)) (hE:yF P E u) (YR:u.size=t.size) {ty:TypeId} {x:Value} {news:List Value} (ht:wW P w g t x ([]:List t.den) news) :
  (Builtin.append_ #[T,T] ty #[.slice none 0 0,x]).run P w = .ok (.slice none 0 0) w:=by
 have hs:=hE.sizeOf w;rw [YR] at hs;have h1:=ht.len w rfl;have h2:=ht.cells w rfl;simp only [Fl] at h1 h2;simp [Builtin.append_,run_underlying qV,hs,h1,h2]
theorem uk {T E:TypeId} {t u:Ty} (qV:P.underlying T=some (.slice E)) (hE:yF P E u) (YR:u.size=t.size) {ty:TypeId} {b:Option Addr} {n cap:Nat} {x:Value} {m:List t.den} {news gA:List Value}
  (ht:wW P w g t x m news) (kT:cap < n+m.length) (Ck:n+m.length<=4294967296)
  (hold:∀ w':World,w'.heap=w.heap->(Builtin.firstCells t.size n (.slice b n cap)).run P w' = .ok gA.toArray w') :
  ∃ zs,(Builtin.append_ #[T,T] ty #[.slice b n cap,x]).run P w = .ok (.slice (some ⟨w.heap.size,0,none⟩) (n+m.length) (grownCap w (n+m.length) cap E))
   (w.drew.alloc (.cells (gA.toArray++news.toArray++zs) E))/\zs.size=(grownCap w (n+m.length) cap E-(n+m.length))*t.size:=by
 obtain ⟨i,z,Gn,VU,Cj,hi4,hi5,hi6⟩:=hE.info;rw [YR] at VU;have h1:=ht.len w rfl;have h2:=ht.cells w.drew rfl;have h3:=hold w.drew rfl;have hn:¬ (n+m.length<=cap):=by omega
 have Ob:(n+m.length)*i.bytes<=4294967296*32768:=Nat.mul_le_mul Ck Cj;have hfit:=growslice_fits (need:=n+m.length) (old:=cap) (bytes:=i.bytes) kT (by omega);have q2p:¬ (281474976710656 < Builtin.nextslicecap (n+m.length) cap*i.bytes):=by omega
 have q2n:¬ (9223372036854775807 < ((n:Int)+(m.length:Int))):=by omega
 refine ⟨Builtin.zeroCells z.cells (grownCap w (n+m.length) cap E-(n+m.length)),?_,?_⟩
 ·rw [<-VU] at h2 h3;simp [Builtin.append_,run_underlying qV,Go.sizeOf,typeInfo,zeroValue,Gn,hi4,h1,hn,q2n,q2p,Question.forced,h2,h3,newRow,grownCap];rw [show (gA++news).toArray=gA.toArray++news.toArray from by simp,Array.append_assoc]
 ·rw [size_zeroCells,<-vf,hi5,qt,YR]
end
end Go.Kz
namespace Go.Kz
variable {R:Type}
theorem xE (l:List Value) (off:Nat) (x:List Value) (j n:Nat) (h:j+n<=x.length) (hl:off+x.length<=l.length):qS (zD l off x) (off+j) n=qS x j n:=by
 rw [<-pP _ off x.length j n h,uj _ _ _ hl]
section
variable {w:World} {g:z8} {J:St} {o:Obj} {m:Nat} {tg:Tag} {v:Value}
theorem zG.pE {n:Nat} {a:Act} {w':World} {g':z8} {id:Nat} (zy:zG n g w a J) (hr:zT w g w' g') (hs:∀ i,i≠id->Zh w g w' g' i)
  (hk:qv g g' id (J.z6 id) (some o)\/zJ g J id) (zp:zo w' g' (J.setObj id o).z6 id o) (ht:∀ b,g'.tag b≠.zt->b < w'.heap.size):zG n g' w' a (J.setObj id o):=by
 have zkx:∀ i,i≠id->qv g g' i (J.z6 i) ((J.setObj id o).z6 i):=by
  intro i hi;simp only [St.setObj];rw [zi _ _ hi];exact qv.same (hs i hi)
 have hme:∀ i,(zJ g J id->i≠id)->qv g g' i (J.z6 i) ((J.setObj id o).z6 i):=by
  intro i hi;by_cases he:i=id
  ·subst he;rcases hk with hk | hk
   ·simp only [St.setObj,zR];exact hk
   ·exact absurd rfl (hi hk)
  ·exact zkx i he
 refine ⟨fun i av hi=>?_,⟨fun i x hx=>?_,ht⟩,zy.size,zy.defers,zy.known.kept hr⟩
 ·obtain ⟨u,hu,zS⟩:=zy.zk i av hi;refine ⟨u,hu,zr.frame hr (fun j hj=>hme j (fun hf he=>?_)) zS⟩;subst he;exact hf.zk i av hi hj
 ·by_cases hi:i=id
  ·subst hi;simp only [St.setObj,zR,zI] at hx;subst hx;exact zp
  ·have Gh:J.z6 i=some x:=by simpa [St.setObj,zi _ _ hi] using hx
   refine zo.frame hr (hs i hi) (fun y hy j hj=>hme j (fun hf he=>?_)) (zy.heap.z6 i x Gh);subst he;subst hy;exact hf.cells i y Gh hj
theorem zJ.pE {g':z8} {id:Nat} (ht:∀ b,g'.tag b=g.tag b\/∃ p,g'.tag b = .row id p) (hm:m≠id) (ho:∀ y,o≠.cell y) (hf:zJ g J m):zJ g' (J.setObj id o) m:=by
 refine ⟨by simp only [St.setObj];rw [zi _ _ hm];exact hf.z6,fun b p hb=>?_,fun b hb=>?_,hf.zk,fun i av hi=>?_⟩
 ·rcases ht b with h | ⟨q,h⟩
  ·rw [h] at hb;exact hf.row b p hb
  ·rw [h] at hb;simp only [Tag.row.injEq] at hb;exact hm hb.1.symm
 ·rcases ht b with h | ⟨q,h⟩
  ·rw [h] at hb;exact hf.box b hb
  ·rw [h] at hb;simp at hb
 ·by_cases he:i=id
  ·subst he;simp only [St.setObj,zR,zI] at hi;exact absurd hi (ho av)
  ·simp only [St.setObj] at hi;rw [zi _ _ he] at hi;exact hf.cells i av hi
def pF (g:z8) (id:Nat) (v:Value):z8:={ g with sv:=fun i p=>if i=id then v else g.sv i p }
theorem Qr {id i:Nat} (h:i≠id):Zh w g w (pF g id v) i:=
 ⟨⟨fun q=>by simp [pF,h],fun _ b hb=>⟨hb,rfl⟩⟩,rfl,fun hb=>⟨hb,rfl⟩⟩
theorem zG.W7 {n:Nat} {a:Act} {w':World} (h:w'.heap=w.heap) (zy:zG n g w a J):zG n g w' a J:=by
 have hr:zT w g w' g:=⟨fun b hb=>⟨hb,by rw [h]⟩⟩;have hs:∀ id,Zh w g w' g id:=fun id=>⟨⟨fun _=>rfl,fun _ b hb=>⟨hb,by rw [h]⟩⟩,rfl,fun hb=>⟨hb,by rw [h]⟩⟩
 have hk:∀ id,qv g g id (J.z6 id) (J.z6 id):=fun id=>qv.refl g id _
 refine ⟨fun i av hi=>?_,⟨fun id x hx=>?_,fun b hb=>?_⟩,zy.size,zy.defers,zy.known.kept hr⟩
 ·obtain ⟨u,hu,zS⟩:=zy.zk i av hi;exact ⟨u,hu,zr.frame hr (fun id _=>hk id) zS⟩
 ·exact zo.frame hr (hs id) (fun _ _ vY _=>hk vY) (zy.heap.z6 id x hx)
 ·rw [h];exact zy.heap.tags b hb
theorem Ext.W7 {w':World} (h:w'.heap=w.heap) (ho:w'.os=w.os) (ht:w'.tape=w.tape) (hp:w'.output=w.output) (hd:w.drawn<=w'.drawn):Ext w g w' g:=
 ⟨ho,ht,hp,hd,by rw [h];exact yN _,fun b _ _=>⟨by rw [h],rfl⟩⟩
end
section
variable {P:Program} {o:Oper} {a:Act} {w:World} {K:Act->World->Prop} {Q:Exit->Act->World->Prop} {c:Ctx} {J:St} {g:z8} {k:St->Option R} {r:R} {base:Nat} {mo:Bool}
theorem jL {J':St} {g':z8} {w':World} {av:z7} {v:Value} (zc:(execOp a.eval o).run P w = .ok (.value v) w') (zy:zG c.ntmps g' w' a J') (ql:Ext w g w' g')
  (vT:∀ m,(m < base\/base+8<=m)->zJ g J m->zJ g' J' m/\m∉av.ids) (hn:J'.next=J.next) (hv:zr w' g' J'.z6 av v)
  (h:J'.y6 c o.dst av k=some r) (ve:mo=false->jc w w') (hK:vu c.ntmps k r g w J base mo K):o.wp P a w K Q:=by
 unfold Oper.wp;rw [zc,Oper.upon_value];rcases pg h with ⟨hd,hk⟩ | ⟨i,hd,hi,hk⟩
 ·rw [hd];exact hK J' g' a w' hk zy ql (fun m hm hf=>(vT m hm hf).1) hn ve
 ·rw [hd];exact hK _ g' _ w' hk (zy.put hi hv) ql (fun m hm hf=>(vT m hm hf).1.set i (vT m hm hf).2) hn ve
theorem uT {z6:qp} {u:Ty} {l:List u.den} {v:Value} {ep id:Nat} (ho:z6 id=some (.row u l ep)) (qf:v=g.sv id []) (qE:v.oneCell'=true) :
  zr w g z6 (.ref id [] ep) v:=by
 simp only [zr];refine ⟨_,⟨v,rfl,qE,fun t l' e hx=>?_⟩,rfl⟩;rw [ho] at hx;simp only [zI,Obj.row.injEq] at hx;obtain ⟨_,_,rfl⟩:=hx;exact ⟨yN _,fun _=>qf⟩
theorem pj {t:Ty} {x:z7} {f:List t.den->Option R} (h:Pg J t x f=some r):t.zW=true/\x.val=true/\asData J 20 x (.sl false t) f=some r/\x.N2=false:=by
 unfold Pg at h
 cases hb:(t.zW && x.val && !x.N2) with
 | false=>rw [hb] at h;simp at h
 | true=>
  rw [hb] at h;simp only [zA,PO] at hb;exact ⟨hb.1.1,hb.1.2,h,hb.2⟩
theorem Hc {t:Ty} {l m:List t.den} {b off cap:Nat} {cc:Array Value} {news:List Value} {e:TypeId} {x:Value} {id:Nat} {w:World} {g g':z8}
  (qu:t.zW=true) (yJ:wW P w g t x m news) (kT:l.length+m.length<=cap) (qC:off+cap*t.size<=cc.size)
  (zY:w.heap[b]? = some (.cells cc e (0,0)))
  (js:∀ (i:Nat) (h:i < l.length),zH w g none t (l.get ⟨i,h⟩) (qS cc.toList (off+i*t.size) t.size))
  (hr:zT w g (w.setRow b (zD cc.toList (off+l.length*t.size) news).toArray) g') (i:Nat) (h:i < (l++m).length) :
  zH (w.setRow b (zD cc.toList (off+l.length*t.size) news).toArray) g' none t ((l++m).get ⟨i,h⟩) (qS (zD cc.toList (off+l.length*t.size) news) (off+i*t.size) t.size):=by
 have hcc:cc.toList.length=cc.size:=vf;have hmul:(l.length+m.length)*t.size<=cap*t.size:=kn _ kT;rw [wB] at hmul;have OT:=yJ.length;have hi:i < l.length+m.length:=by simpa using h
 by_cases Hv:i < l.length
 ·have h3:(i+1)*t.size<=l.length*t.size:=kn _ Hv;rw [wB] at h3;rw [jv _ _ _ _ _ (by omega) (by rw [hcc];omega)];have:=(js i Hv).kept hr;simp only [LN] at this ⊢;rw [Z50 Hv];exact this
 ·obtain ⟨j,rfl⟩:∃ j,i=l.length+j:=⟨i-l.length,by omega⟩;have hj:j < m.length:=by omega
  have h3:(j+1)*t.size<=m.length*t.size:=kn _ hj;rw [wB] at h3;have e1:off+(l.length+j)*t.size=(off+l.length*t.size)+j*t.size:=by rw [wB];omega
  rw [e1,xE _ _ _ _ _ (by omega) (by omega)];have:=(yJ.elts j hj).kept hr;simp only [LN] at this ⊢;rw [Z51 (by omega)];simpa using this
theorem T0 {t:Ty} {l m:List t.den} {gA news:List Value} {zs:Array Value} {x:Value} {w w':World} {g g':z8}
  (yJ:wW P w g t x m news) (ho:gA.length=l.length*t.size)
  (js:∀ (i:Nat) (h:i < l.length),zH w g none t (l.get ⟨i,h⟩) (qS gA (i*t.size) t.size)) (hr:zT w g w' g') (i:Nat) (h:i < (l++m).length) :
  zH w' g' none t ((l++m).get ⟨i,h⟩) (qS (gA.toArray++news.toArray++zs).toList (i*t.size) t.size):=by
 have OT:=yJ.length;have hi:i < l.length+m.length:=by simpa using h
 have e0:(gA.toArray++news.toArray++zs).toList=gA++(news++zs.toList):=by simp
 rw [e0];by_cases Hv:i < l.length
 ·have h3:(i+1)*t.size<=l.length*t.size:=kn _ Hv;rw [wB] at h3;rw [qi _ _ _ _ (by omega)];have:=(js i Hv).kept hr;simp only [LN] at this ⊢;rw [Z50 Hv];exact this
 ·obtain ⟨j,rfl⟩:∃ j,i=l.length+j:=⟨i-l.length,by omega⟩;have hj:j < m.length:=by omega
  have h3:(j+1)*t.size<=m.length*t.size:=kn _ hj;rw [wB] at h3;rw [wB,yZ _ _ _ _ _ ho.symm,qi _ _ _ _ (by omega)];have:=(yJ.elts j hj).kept hr;simp only [LN] at this ⊢;rw [Z51 (by omega)];simpa using this
theorem JQ {T E:TypeId} {t u:Ty} (qV:P.underlying T=some (.slice E)) (hE:yF P E u) (YR:u.size=t.size) (ht:∀ b,g.tag b≠.zt->b < w.heap.size) (qu:t.zW=true)
  {ty:TypeId} {b:Option Addr} {cap:Nat} {l m:List t.den} {gA news:List Value} {x:Value} (hold:wW P w g t (.slice b l.length cap) l gA) (yJ:wW P w g t x m news)
  (kT:cap < l.length+m.length) (Ck:l.length+m.length<=4294967296) (z6:qp) (id ep:Nat) :
  ∃ cells uY,(Builtin.append_ #[T,T] ty #[.slice b l.length cap,x]).run P w = .ok (.slice (some ⟨w.heap.size,0,none⟩) (l.length+m.length) uY) (w.drew.alloc (.cells cells E))/\
   zo (w.drew.alloc (.cells cells E)) (qN g w.heap.size id (.row id []) (.slice (some ⟨w.heap.size,0,none⟩) (l.length+m.length) uY)) z6 id (.row t (l++m) ep):=by
 obtain ⟨zs,zc,Pf⟩:=uk (ty:=ty) qV hE YR yJ kT Ck (fun w' GZ=>hold.cells w' GZ);refine ⟨_,_,zc,?_⟩;have hlen:(l++m).length=l.length+m.length:=by simp
 have Cv:=grownCap_ge w (l.length+m.length) cap E;have:=EZ (w:=w.drew) (g:=g) (base:=id) (u:=t) (l:=l++m) (cells:=gA.toArray++news.toArray++zs) (e:=E) (cap:=grownCap w (l.length+m.length) cap E) ht qu
  (by rw [hlen];exact Cv) (grownCap_le_maxLen w (l.length+m.length) cap E (by unfold maxLen;omega))
  (by
   have h1:=hold.length;have h2:=yJ.length;simp only [Z52,Z2a,Pf,h1,h2];rw [<-wB,<-wB];exact kn _ (by omega))
  (fun i hi=>T0 yJ hold.length hold.elts (w':=w.drew) (g':=g) ⟨fun b hb=>⟨hb,rfl⟩⟩ i hi) z6 ep
 rw [hlen] at this;exact this
theorem yL {x y:Operand} {args:Array Operand} {ts:Array TypeId} {t:TypeId} {v:Value} {w':World} (ho:o.op = .call { callee:=.builtin .append,args:=args,argTypes:=ts }) (ha:args.toList=[x,y]) (ht:ts.toList=[t,t])
  (h:∀ ty,(Builtin.append_ #[t,t] ty #[a.eval x,a.eval y]).run P w = .ok v w'):(execOp a.eval o).run P w = .ok (.value v) w':=by
 have e1:args = #[x,y]:=by apply Fm.1;simpa using ha
 have e2:ts = #[t,t]:=by apply Fm.1;simpa using ht
 subst e1;subst e2;simp [execOp,ho,resolve,invoke,builtin,h]
end
end Go.Kz
namespace Go.Kz
variable {R:Type}
section
variable {P:Program} {o:Oper} {a:Act} {w:World} {K:Act->World->Prop} {Q:Exit->Act->World->Prop} {c:Ctx} {J:St} {g:z8} {k:St->Option R} {r:R} {base:Nat} {mo:Bool}
theorem Bv {m:Nat} {tg:Tag} {v:Value} (ht:∀ b,g.tag b≠.zt->b < w.heap.size) (ob:Go.Obj):zT w g (w.drew.alloc ob) (qN g w.heap.size m tg v):=
 ⟨fun b hb=>(pU (w:=w.drew) ht ob).qj b hb⟩
theorem Wk {m:Nat} {tg:Tag} {v:Value} (ht:∀ b,g.tag b≠.zt->b < w.heap.size) (ob:Go.Obj) {id:Nat} (hid:id≠m):Zh w g (w.drew.alloc ob) (qN g w.heap.size m tg v) id:=
 let h:=ZG (w:=w.drew) (g:=g) (m:=m) (tg:=tg) (v:=v) ht ob hid
 ⟨⟨h.row.sv,h.row.qj⟩,h.qj,h.box⟩
theorem P4 {m:Nat} {tg:Tag} {v:Value} (ht:∀ b,g.tag b≠.zt->b < w.heap.size) (ob:Go.Obj):Ext w g (w.drew.alloc ob) (qN g w.heap.size m tg v):=
 let h:=ZP (w:=w.drew) (g:=g) (m:=m) (tg:=tg) (v:=v) ht ob
 ⟨h.os,h.tape,h.output,Z22 (Z1s _) h.drawn,h.size,h.vR⟩
theorem I5 {id:Nat} {t:Ty} {l:List t.den} {e:Nat} (zp:zo w g J.z6 id (.row t l e)) :
  ∃ b cap gA,g.sv id [] = .slice b l.length cap/\l.length<=cap/\cap<=maxLen/\wW P w g t (.slice b l.length cap) l gA/\
   ((b=none/\l=[]/\cap=0)\/∃ bk off cc ee,b=some ⟨bk,off,none⟩/\g.tag bk = .row id []/\w.heap[bk]? = some (.cells cc ee (0,0))/\off+cap*t.size<=cc.size/\
    ∀ (i:Nat) (h:i < l.length),zH w g none t (l.get ⟨i,h⟩) (qS cc.toList (off+i*t.size) t.size)):=by
 obtain ⟨qu,b,cap,_,qf,h1,h2,h3⟩:=zp;rcases h3 with ⟨rfl,hl,rfl⟩ | ⟨bk,off,cc,ee,rfl,zM,zY,qC,js⟩
 ·subst hl;exact ⟨none,0,[],qf,h1,h2,wW.of_nil,.inl ⟨rfl,rfl,rfl⟩⟩
 ·have ZF:l.length*t.size<=cap*t.size:=kn _ h1;have z5h:∀ (i:Nat) (h:i < l.length),zH w g none t (l.get ⟨i,h⟩) (qS cc.toList (off+i*t.size) t.size):=fun i hi=>zH.y9 qu (js i hi)
  exact ⟨_,cap,qS cc.toList off (l.length*t.size),qf,h1,h2,wW.YG zY (by omega) z5h,.inr ⟨bk,off,cc,ee,rfl,zM,zY,qC,z5h⟩⟩
theorem Wx {args:Array Operand} {ts:Array TypeId} {x y:Operand} {t E:TypeId} {t1 u:Ty} {l m:List t1.den} {e id:Nat} {news:List Value}
  (ho:o.op = .call { callee:=.builtin .append,args:=args,argTypes:=ts }) (hargs:args.toList=[x,y]) (ux:ts.toList=[t,t])
  (qV:P.underlying t=some (.slice E)) (vg:yF P E u) (YR:u.size=t1.size) (zy:zG c.ntmps g w a J) (kC:J.z6 id=some (.row t1 l e)) (hev:a.eval x=g.sv id [])
  (qu:t1.zW=true) (yJ:wW P w g t1 (a.eval y) m news) (Qa:l.length+m.length<=4294967296)
  (h:(J.setObj id (.row t1 (l++m) (e+1))).y6 c o.dst (.ref id [] (e+1)) k=some r) (hK:vu c.ntmps k r g w J base true K):o.wp P a w K Q:=by
 obtain ⟨b,cap,gA,qf,Po,Pt,hold,vk⟩:=I5 (P:=P) (zy.heap.z6 _ _ kC);have OO:a.eval x = .slice b l.length cap:=by rw [<-qf];exact hev
 have gB:∀ n,zJ g J n->n≠id:=by
  intro n hn he;subst he;have:=hn.z6;rw [kC] at this;simp at this
 have vT:∀ n,zJ g J n->n∉(z7.ref id [] (e+1)).ids:=by
  intro n hn;simp only [z7.ids,Mp];exact gB n hn
 have hk0:∀ g':z8,qv g g' id (J.z6 id) (some (.row t1 (l++m) (e+1))):=fun g'=>.inr (.inl ⟨t1,l,l++m,e,e+1,kC,rfl,.inl (by omega)⟩)
 by_cases IC:cap < l.length+m.length
 ·obtain ⟨cells,uY,pS,zp⟩:=JQ (P:=P) (ty:=0) qV vg YR zy.heap.tags qu hold yJ IC (by omega) (J.setObj id (.row t1 (l++m) (e+1))).z6 id (e+1);have zc:=yL (P:=P) ho hargs ux (fun ty=>by rw [OO];exact pS);refine jL (g:=g) (base:=base) (J':=J.setObj id (.row t1 (l++m) (e+1))) (g':=qN g w.heap.size id (.row id []) (.slice (some ⟨w.heap.size,0,none⟩) (l.length+m.length) uY)) zc ?_ ?_ (fun n hn hfn=>⟨zJ.pE (g:=g) (fun b=>?_) (gB n hfn) (by simp) hfn,vT n hfn⟩) rfl ?_ h (fun h=>Bool.noConfusion h) hK
  ·refine zy.pE (Bv zy.heap.tags _) (fun i hi=>Wk zy.heap.tags _ hi) (.inl (hk0 _)) zp ?_;intro b hb;simp only [qN] at hb;split at hb
   ·rename_i he;subst he;simp
   ·have:=zy.heap.tags b hb;simp;omega
  ·exact P4 zy.heap.tags _
  ·simp only [qN];by_cases he:b=w.heap.size
   ·right;exact ⟨[],by simp [he]⟩
   ·left;simp [he]
  ·exact uT (u:=t1) (l:=l++m) (by simp [St.setObj,zR]) (by simp [qN]) rfl
 ·have hle:l.length+m.length<=cap:=by omega
  rcases vk with ⟨rfl,hl,rfl⟩ | ⟨bk,off,cc,ee,rfl,zM,zY,qC,js⟩
  ·subst hl;have hm:m=[]:=Z27 (by simpa using hle);subst hm;have zc:=yL (P:=P) (v:=.slice none 0 0) (w':=w) ho hargs ux (fun ty=>by rw [OO];exact uw (ty:=ty) qV vg YR yJ);refine jL (g:=g) (base:=base) (J':=J.setObj id (.row t1 ([]++[]) (e+1))) (g':=pF g id (.slice none 0 0)) zc ?_ ?_ (fun n hn hfn=>⟨zJ.pE (g:=g) (fun b=>.inl rfl) (gB n hfn) (by simp) hfn,vT n hfn⟩) rfl ?_ h (fun h=>Bool.noConfusion h) hK
   ·refine zy.pE ⟨fun b hb=>⟨hb,rfl⟩⟩ (fun i hi=>Qr hi) (.inl (hk0 _)) ?_ zy.heap.tags;exact ⟨qu,none,0,by simp [pF],by simp [pF],yN _,jt _,.inl ⟨rfl,rfl,rfl⟩⟩
   ·exact ⟨rfl,rfl,rfl,yN _,yN _,fun b _ _=>⟨rfl,rfl⟩⟩
   ·exact uT (u:=t1) (l:=([]++[]:List t1.den)) (by simp [St.setObj,zR]) (by simp [pF]) rfl
  ·have zc:=yL (P:=P) ho hargs ux (fun ty=>by rw [OO];exact ug (ty:=ty) qV vg YR zY yJ hle qC);have OT:=yJ.length;have hmul:(l.length+m.length)*t1.size<=cap*t1.size:=kn _ hle;rw [wB] at hmul;have hcc:cc.toList.length=cc.size:=vf;have pY:zT w g (w.setRow bk (zD cc.toList (off+l.length*t1.size) news).toArray) (pF g id (.slice (some ⟨bk,off,none⟩) (l.length+m.length) cap)):=by
    refine ⟨fun b hb=>⟨hb,setRow_other w bk b _ ?_⟩⟩;intro he;subst he;rw [zM] at hb;simp at hb
   refine jL (g:=g) (base:=base) (J':=J.setObj id (.row t1 (l++m) (e+1))) (g':=pF g id (.slice (some ⟨bk,off,none⟩) (l.length+m.length) cap)) zc ?_ ?_ (fun n hn hfn=>⟨zJ.pE (g:=g) (fun b=>.inl rfl) (gB n hfn) (by simp) hfn,vT n hfn⟩) rfl ?_ h (fun h=>Bool.noConfusion h) hK
   ·refine zy.pE pY (fun i hi=>?_) (.inl (hk0 _)) ?_ ?_
    ·refine ⟨⟨fun q=>by simp [pF,hi],fun q b hb=>⟨hb,setRow_other w bk b _ ?_⟩⟩,rfl,fun hb=>⟨hb,setRow_other w bk _ _ ?_⟩⟩
     ·intro he;subst he;rw [zM] at hb;simp only [Tag.row.injEq] at hb;exact hi hb.1.symm
     ·intro he;rw [he,zM] at hb;simp at hb
    ·refine ⟨qu,some ⟨bk,off,none⟩,cap,by simp [pF],by simp [pF],by simpa using hle,Pt,.inr ⟨bk,off,_,ee,rfl,zM,setRow_heap w bk cc _ ee _ zY,?_,fun i hi=>?_⟩⟩
     ·rw [Z2a,yI _ _ _ (by omega),hcc];exact qC
     ·refine zH.y9 qu (o:=none) ?_;exact Hc (id:=id) qu yJ hle qC zY js pY i hi
    ·intro b hb;have:=zy.heap.tags b hb;simpa [World.setRow] using this
   ·refine ⟨rfl,rfl,rfl,yN _,by simp [World.setRow],fun b _ hb=>⟨setRow_other w bk b _ ?_,rfl⟩⟩;intro he;subst he;rw [zM] at hb;simp at hb
   ·exact uT (u:=t1) (l:=l++m) (by simp [St.setObj,zR]) (by simp [pF]) rfl
theorem HU {id:Nat} {t:Ty} {l l':List t.den} {e e':Nat} {v:Value} (zy:zG c.ntmps g w a J) (zp:J.z6 id=some (.row t l e)) (he:e < e')
  (zS:zo w (pF g id v) (J.setObj id (.row t l' e')).z6 id (.row t l' e')) :
  zG c.ntmps (pF g id v) w a (J.setObj id (.row t l' e'))/\Ext w g w (pF g id v)/\∀ m,zJ g J m->zJ (pF g id v) (J.setObj id (.row t l' e')) m:=by
 refine ⟨zy.pE ⟨fun b hb=>⟨hb,rfl⟩⟩ (fun i hi=>Qr hi) (.inl (.inr (.inl ⟨t,l,l',e,e',zp,rfl,.inl he⟩))) zS zy.heap.tags,⟨rfl,rfl,rfl,yN _,yN _,fun b _ _=>⟨rfl,rfl⟩⟩,fun m hm=>?_⟩;refine zJ.pE (g:=g) (fun b=>.inl rfl) ?_ (by simp) hm;intro heq;subst heq;have:=hm.z6;rw [zp] at this;simp at this
theorem Cl {id:Nat} {t:Ty} {l:List t.den} {e e':Nat} {p q:Int} (zy:zG c.ntmps g w a J) (zp:J.z6 id=some (.row t l e)) (h0:0<=p) (hpq:p<=q) (hq:q<=(l.length:Int)) (he:e < e') :
  zG c.ntmps (pF g id (jq (g.sv id []) t.size p q)) w a (J.setObj id (.row t (sub l p q) e'))/\Ext w g w (pF g id (jq (g.sv id []) t.size p q))/\
   ∀ m,zJ g J m->zJ (pF g id (jq (g.sv id []) t.size p q)) (J.setObj id (.row t (sub l p q) e')) m:=by
 refine HU zy zp he ?_;obtain ⟨qu,ad,cap,_,qf,Po,Pt,vk⟩:=zy.heap.z6 _ _ zp;have hlen:(sub l p q).length=(q-p).toNat:=by rw [x3 l p q h0 hpq hq];omega
 have hv:jq (g.sv id []) t.size p q = .slice (if cap-p.toNat=0 then ad else ad.map (·.add (p.toNat*t.size))) (sub l p q).length (cap-p.toNat):=by rw [qf,hlen];rfl
 refine ⟨qu,_,_,by simp only [pF,WQ];exact Fo (fun v=>[v]) hv,by simp only [pF,WQ];exact hv,by rw [hlen];omega,by omega,?_⟩;rcases vk with ⟨rfl,hl,rfl⟩ | ⟨b,off,c',ee,rfl,zM,zY,qC,js⟩
 ·left;refine ⟨by simp,?_,by simp⟩;rw [hl] at hq;simp only [Fl] at hq;exact Z27 (by rw [hlen];omega)
 ·right;have hmul:cap*t.size=(cap-p.toNat)*t.size+p.toNat*t.size:=by rw [<-wB];congr 1;omega
  by_cases hz:cap-p.toNat=0
  ·refine ⟨b,off,c',ee,by rw [yQ hz],zM,zY,by rw [hz];omega,fun i hi=>?_⟩;exfalso;have:i < (sub l p q).length:=hi;omega
  ·refine ⟨b,off+p.toNat*t.size,c',ee,?_,zM,zY,by omega,fun i hi=>?_⟩
   ·rw [qZ hz];simp only [Z23,Addr.add_lit]
   ·have wT:i < (sub l p q).length:=hi;have Cj:p.toNat+i < l.length:=by omega
    have:=zH.y9 (o':=none) qu (js (p.toNat+i) Cj);have hg:=We l p q i wT Cj;refine zH.y9 qu (o:=none) ?_;have e1:off+p.toNat*t.size+i*t.size=off+(p.toNat+i)*t.size:=by rw [wB];omega
    rw [e1];have h2:(sub l p q).get ⟨i,wT⟩=l.get ⟨p.toNat+i,Cj⟩:=hg;show zH w _ none t ((sub l p q).get ⟨i,wT⟩) _;rw [h2];exact zH.kept (show zT w g w (pF g id (jq (g.sv id []) t.size p q)) from ⟨fun b hb=>⟨hb,rfl⟩⟩) this
theorem vu.pre {n:Nat} {g0:z8} {J0:St} (h:vu n k r g w J base mo K) (he:Ext w g w g0) (hf:∀ m,zJ g J m->zJ g0 J0 m) (hn:J0.next=J.next):vu n k r g0 w J0 base mo K:=
 fun J' g' a' w' hk zy ql vT UQ ve=>h J' g' a' w' hk zy (he.trans ql) (fun m hm wk=>vT m hm (hf m wk)) (UQ.trans hn) ve
theorem vu.zwh {n:Nat} {g0:z8} {J0:St} (h:vu n k r g w J base mo K) (he:Ext w g w g0) (hf:∀ m,(m < base\/base+8<=m)->zJ g J m->zJ g0 J0 m) (hn:J0.next=J.next):vu n k r g0 w J0 base mo K:=
 fun J' g' a' w' hk zy ql vT UQ ve=>h J' g' a' w' hk zy (he.trans ql) (fun m hm wk=>vT m hm (hf m hm wk)) (UQ.trans hn) ve
theorem wW.congr {g':z8} {t:Ty} {x:Value} {m:List t.den} {news:List Value} (h:wW P w g t x m news) (hr:zT w g w g'):wW P w g' t x m news:=
 ⟨h.len,h.cells,h.pre,h.length,fun i hi=>(h.elts i hi).kept hr,h.one⟩
theorem Vp (J:St) (i:Nat) (x y:Obj):(J.setObj i x).setObj i y=J.setObj i y:=by
 simp only [St.setObj,St.mk.injEq,Vq,U6];funext j;simp only [GJ];cases Nat.beq j i <;> rfl
theorem Xq {id e:Nat} {n:Int} {i:Nat} {av:z7} (h:(views J id e n).zk i=some av):J.zk i=some av\/(J.zk i=some (.ref id [] e)/\av = .view id [] (e+1) 0 n):=by
 simp only [views] at h;split at h
 ·rename_i j p e' hs;split at h
  ·cases hb:(Nat.beq j id && Nat.beq e' e) with
   | true=>
    rw [hb] at h;simp only [zA] at hb;obtain rfl:=zE hb.1;obtain rfl:=zE hb.2;simp only [zB,zI] at h
    exact .inr ⟨hs,h.symm⟩
   | false=>
    rw [hb] at h;simp only [zU] at h;exact .inl (hs.trans h)
  ·exact .inl (hs.trans h)
 ·exact .inl h
theorem Sn {l:List (Option R)} (h:qQ l=some r):∀ y∈l,y=some r:=by
 cases l with
 | nil=>simp
 | cons x l=>
  simp only [qQ] at h;split at h
  ·rename_i hq;intro y hy;rcases pK.1 hy with rfl | hy
   ·exact h
   ·rw [hq y hy];exact h
  ·simp at h
theorem Hx {n:Nat} {w':World} {g':z8} {id e:Nat} {t:Ty} {l l2:List t.den} (zy:zG n g w a J) (qT:zG n g' w' a (J.setObj id (.row t l2 (e+1)))) (kC:J.z6 id=some (.row t l e))
  (qf:jq (g'.sv id []) t.size 0 (l.length:Int)=g.sv id []) (hle:l.length<=l2.length):zG n g' w' a ((views J id e (l.length:Int)).setObj id (.row t l2 (e+1))):=by
 refine ⟨fun i av hi=>?_,qT.heap,qT.size,qT.defers,qT.known⟩;rcases Xq hi with h1 | ⟨h1,rfl⟩
 ·exact qT.zk i av h1
 ·obtain ⟨v,hv,zS⟩:=zy.zk i _ h1;refine ⟨v,hv,?_⟩;simp only [zr] at zS;obtain ⟨cs,⟨u,rfl,qE,hu⟩,hvu⟩:=zS;have e1:=(hu _ _ _ kC).2 rfl;simp only [zr];refine ⟨[u],⟨_,rfl,qE,fun t2 l3 e2 Dx=>?_⟩,hvu⟩;have OS:some (Obj.row t l2 (e+1))=some (.row t2 l3 e2):=by
   rw [<-Dx];simp [St.setObj,zR,views]
  simp only [zI,Obj.row.injEq] at OS;obtain ⟨rfl,hl3,rfl⟩:=OS;have hl3:=Z35 hl3;subst hl3;exact ⟨yN _,fun _=>⟨rfl,Z30 0,Z4t _,by omega,by rw [qf];exact e1⟩⟩
theorem Pj {g':z8} {id e:Nat} {n:Int} {ob:Obj} {m:Nat} (h:zJ g' (J.setObj id ob) m):zJ g' ((views J id e n).setObj id ob) m:=by
 refine ⟨h.z6,h.row,h.box,fun i av hi=>?_,h.cells⟩;rcases Xq hi with h1 | ⟨h1,rfl⟩
 ·exact h.zk i av h1
 ·have:=h.zk i _ h1;simpa [z7.ids] using this
theorem Mi (kN:gn P c.tt) {args:Array Operand} {ts:Array TypeId} (ho:o.op = .call { callee:=.builtin .append,args:=args,argTypes:=ts }) {x y:Operand} {t:TypeId} {ow:Bool} {u:Ty} {av bv:z7}
  (hargs:args.toList=[x,y]) (ux:ts.toList=[t,t]) (Cz:c.tt t=some (.sl ow u)) (hx:ev J x=some av) (hy:ev J y=some bv)
  (zy:zG c.ntmps g w a J) (hf:zJ g J base) (h:Ff J base u av bv (fun v J=>J.y6 c o.dst v k)=some r) (hK:vu c.ntmps k r g w J base true K):o.wp P a w K Q:=by
 have hT:=kN _ _ Cz;simp only [qw] at hT;obtain ⟨⟨E,qV,hE⟩,_⟩:=hT;have vg:=hE.info;obtain ⟨ex,efx⟩:=qF zy hx;obtain ⟨ey,efy⟩:=qF zy hy;unfold Ff at h;split at h
 ·rename_i id ep;split at h
  ·rename_i t1 l e kC
   cases Qh:(Nat.beq e ep && t1.sk.same u.sk) with
   | false=>rw [Qh] at h;simp at h
   | true=>
    rw [Qh] at h;simp only [zB] at h;simp only [zA] at Qh;have IS:=zE Qh.1;subst IS;have wG:=Sk.qg Qh.2;have YR:u.size=t1.size:=by rw [<-Ty.zQ,<-Ty.zQ,wG]
    obtain ⟨qu,hval,h,TP⟩:=pj h;obtain ⟨m,news,h,yJ⟩:=JU (P:=P) zy.heap qu ey h hval TP;obtain ⟨Qa,h⟩:=qm h;have Qa:=BI Qa;unfold room at Qa;have hall:=Sn h;have hA:=hall _ (Z20);have hB:=hall _ (Th _ Z20);clear hall h;obtain ⟨b,cap,gA,qf,Po,Pt,hold,vk⟩:=I5 (P:=P) (zy.heap.z6 _ _ kC);simp only [zr] at ex;obtain ⟨cs,⟨v,rfl,qE,hv⟩,jd⟩:=ex;have e1:=(hv _ _ _ kC).2 rfl;have OO:a.eval x = .slice b l.length cap:=by rw [<-qf,<-e1];exact jd
    have gB:∀ n,zJ g J n->n≠id:=by
     intro n hn he;subst he;have:=hn.z6;rw [kC] at this;simp at this
    by_cases IC:cap < l.length+m.length
    ·obtain ⟨cells,uY,pS,zp⟩:=JQ (P:=P) (ty:=0) qV vg YR zy.heap.tags qu hold yJ IC (by omega) (J.setObj base (.row t1 (l++m) 1)).z6 base 1;have zc:=yL (P:=P) ho hargs ux (fun ty=>by rw [OO];exact pS);refine jL (g:=g) (base:=base) (J':=J.setObj base (.row t1 (l++m) 1)) (g':=qN g w.heap.size base (.row base []) (.slice (some ⟨w.heap.size,0,none⟩) (l.length+m.length) uY)) zc ?_ ?_ (fun n hn hfn=>⟨zJ.pE (g:=g) (fun b=>?_) (by omega) (by simp) hfn,by simp [z7.ids];omega⟩) rfl ?_ hB (fun h=>Bool.noConfusion h) hK
     ·refine zy.pE (Bv zy.heap.tags _) (fun i hi=>Wk zy.heap.tags _ hi) (.inr hf) zp ?_;intro b hb;simp only [qN] at hb;split at hb
      ·rename_i he;subst he;simp
      ·have:=zy.heap.tags b hb;simp;omega
     ·exact P4 zy.heap.tags _
     ·simp only [qN];by_cases he:b=w.heap.size
      ·right;exact ⟨[],by simp [he]⟩
      ·left;simp [he]
     ·exact uT (u:=t1) (l:=l++m) (by simp [St.setObj,zR]) (by simp [qN]) rfl
    ·have hle:l.length+m.length<=cap:=by omega
     have hk0:∀ g':z8,qv g g' id (J.z6 id) (some (.row t1 (l++m) (e+1))):=fun g'=>.inr (.inl ⟨t1,l,l++m,e,e+1,kC,rfl,.inl (by omega)⟩)
     have vT:∀ n,zJ g J n->n∉(z7.ref id [] (e+1)).ids:=by
      intro n hn;simp only [z7.ids,Mp];exact gB n hn
     have hlen:l.length<=(l++m).length:=by simp
     rcases vk with ⟨rfl,hl,rfl⟩ | ⟨bk,off,cc,ee,rfl,zM,zY,qC,js⟩
     ·subst hl;have hm:m=[]:=Z27 (by simpa using hle);subst hm;have zc:=yL (P:=P) (v:=.slice none 0 0) (w':=w) ho hargs ux (fun ty=>by rw [OO];exact uw (ty:=ty) qV vg YR yJ);refine jL (g:=g) (base:=base) (J':=(views J id e ((List.length ([]:List t1.den):Nat):Int)).setObj id (.row t1 ([]++[]) (e+1))) (g':=pF g id (.slice none 0 0)) zc ?_ ?_ (fun n hn hfn=>⟨Pj (zJ.pE (g:=g) (fun b=>.inl rfl) (gB n hfn) (by simp) hfn),vT n hfn⟩) rfl ?_ hA (fun h=>Bool.noConfusion h) hK
      ·refine Hx zy (zy.pE ⟨fun b hb=>⟨hb,rfl⟩⟩ (fun i hi=>Qr hi) (.inl (hk0 _)) ?_ zy.heap.tags) kC ?_ (by simp)
       ·exact ⟨qu,none,0,by simp [pF],by simp [pF],yN _,jt _,.inl ⟨rfl,rfl,rfl⟩⟩
       ·rw [qf];simp [pF,jq]
      ·exact ⟨rfl,rfl,rfl,yN _,yN _,fun b _ _=>⟨rfl,rfl⟩⟩
      ·exact uT (u:=t1) (l:=([]++[]:List t1.den)) (by simp [St.setObj,zR]) (by simp [pF]) rfl
     ·have zc:=yL (P:=P) ho hargs ux (fun ty=>by rw [OO];exact ug (ty:=ty) qV vg YR zY yJ hle qC);have OT:=yJ.length;have hmul:(l.length+m.length)*t1.size<=cap*t1.size:=kn _ hle;rw [wB] at hmul;have hcc:cc.toList.length=cc.size:=vf;have pY:zT w g (w.setRow bk (zD cc.toList (off+l.length*t1.size) news).toArray) (pF g id (.slice (some ⟨bk,off,none⟩) (l.length+m.length) cap)):=by
       refine ⟨fun b hb=>⟨hb,setRow_other w bk b _ ?_⟩⟩;intro he;subst he;rw [zM] at hb;simp at hb
      refine jL (g:=g) (base:=base) (J':=(views J id e (l.length:Int)).setObj id (.row t1 (l++m) (e+1))) (g':=pF g id (.slice (some ⟨bk,off,none⟩) (l.length+m.length) cap)) zc ?_ ?_ (fun n hn hfn=>⟨Pj (zJ.pE (g:=g) (fun b=>.inl rfl) (gB n hfn) (by simp) hfn),vT n hfn⟩) rfl ?_ hA (fun h=>Bool.noConfusion h) hK
      ·refine Hx zy (zy.pE pY (fun i hi=>?_) (.inl (hk0 _)) ?_ ?_) kC ?_ hlen
       ·refine ⟨⟨fun q=>by simp [pF,hi],fun q b hb=>⟨hb,setRow_other w bk b _ ?_⟩⟩,rfl,fun hb=>⟨hb,setRow_other w bk _ _ ?_⟩⟩
        ·intro he;subst he;rw [zM] at hb;simp only [Tag.row.injEq] at hb;exact hi hb.1.symm
        ·intro he;rw [he,zM] at hb;simp at hb
       ·refine ⟨qu,some ⟨bk,off,none⟩,cap,by simp [pF],by simp [pF],by simpa using hle,Pt,.inr ⟨bk,off,_,ee,rfl,zM,setRow_heap w bk cc _ ee _ zY,?_,fun i hi=>?_⟩⟩
        ·rw [Z2a,yI _ _ _ (by omega),hcc];exact qC
        ·refine zH.y9 qu (o:=none) ?_;exact Hc (id:=id) qu yJ hle qC zY js pY i hi
       ·intro b hb;have:=zy.heap.tags b hb;simpa [World.setRow] using this
       ·rw [qf];simp only [pF,WQ,jq];have e0:(⟨bk,off,none⟩:Addr).add 0=⟨bk,off,none⟩:=by rw [Addr.add_lit];rfl
        simp [e0]
      ·refine ⟨rfl,rfl,rfl,yN _,by simp [World.setRow],fun b _ hb=>⟨setRow_other w bk b _ ?_,rfl⟩⟩;intro he;subst he;rw [zM] at hb;simp at hb
      ·exact uT (u:=t1) (l:=l++m) (by simp [St.setObj,zR]) (by simp [pF]) rfl
  ·simp at h
 ·simp at h
theorem Tq (kN:gn P c.tt) {args:Array Operand} {ts:Array TypeId} (ho:o.op = .call { callee:=.builtin .append,args:=args,argTypes:=ts })
  (zy:zG c.ntmps g w a J) (hf:zJ g J base)
  (Oa:∀ x y t u ow av bv,args.toList=[x,y]->ts.toList=[t,t]->c.tt t=some (.sl ow u)->ev J x=some av->ev J y=some bv->G5 J u av bv (fun v J=>J.y6 c o.dst v k)=some r->o.wp P a w K Q)
  (h:yG c J base o k=some r) (hK:vu c.ntmps k r g w J base true K):o.wp P a w K Q:=by
 simp only [yG,ho] at h;split at h
 ·rename_i x y t t' hargs ux;split at h
  ·rename_i av bv ot u hx hy Cz
   cases hb:Nat.beq t t' with
   | false=>rw [hb] at h;simp at h
   | true=>
    rw [hb] at h;have htq:=zE hb;subst htq;simp only [zB] at h;have hT:=kN _ _ Cz;simp only [qw] at hT;obtain ⟨⟨E,qV,hE⟩,_⟩:=hT;have vg:=hE.info;obtain ⟨ex,efx⟩:=qF zy hx;obtain ⟨ey,efy⟩:=qF zy hy;unfold Rm at h;split at h
    ·-- nil
     have hv:=QU.1 ex
     cases hbn:bv.N2 with
     | true=>rw [hbn] at h;exact Oa x y t u ot _ bv hargs ux Cz hx hy h
     | false=>
     rw [hbn] at h;simp only [zU] at h;split at h
     ·rename_i t1 _
      cases Qh:t1.sk.same u.sk with
      | false=>rw [Qh] at h;simp at h
      | true=>
       rw [Qh] at h;simp only [zB] at h;have wG:=Sk.qg Qh;have YR:u.size=t1.size:=by rw [<-Ty.zQ,<-Ty.zQ,wG]
       obtain ⟨qu,hval,h,TP⟩:=pj h;obtain ⟨m,news,h,yJ⟩:=JU (P:=P) zy.heap qu ey h hval TP;obtain ⟨Qa,h⟩:=qm h;have Qa:=BI Qa;unfold room at Qa;by_cases hm:m=[]
       ·subst hm;have zc:=yL (P:=P) (v:=.slice none 0 0) (w':=w) ho hargs ux (fun ty=>by rw [hv];exact uw (ty:=ty) qV vg YR yJ);refine jL (g:=g) (base:=base) (J':=J.setObj base (.row t1 [] 1)) (g':=pF g base (.slice none 0 0)) zc ?_ ?_ (fun n hn hfn=>⟨zJ.pE (g:=g) (fun b=>.inl rfl) (by omega) (by simp) hfn,by simp [z7.ids];omega⟩) rfl ?_ h (fun h=>Bool.noConfusion h) hK
        ·refine zy.pE ⟨fun b hb=>⟨hb,rfl⟩⟩ (fun i hi=>Qr hi) (.inr hf) ?_ zy.heap.tags;exact ⟨qu,none,0,by simp [pF],by simp [pF],yN _,jt _,.inl ⟨rfl,rfl,rfl⟩⟩
        ·exact ⟨rfl,rfl,rfl,yN _,yN _,fun b _ _=>⟨rfl,rfl⟩⟩
        ·exact uT (u:=t1) (l:=[]) (by simp [St.setObj,zR]) (by simp [pF]) rfl
       ·have IG:0 < m.length:=Z4f.2 hm;obtain ⟨cells,uY,pS,zp⟩:=JQ (P:=P) (ty:=0) (b:=none) (cap:=0) (l:=([]:List t1.den)) qV vg YR zy.heap.tags qu wW.of_nil yJ (by simpa using IG) (by simpa using Qa) (J.setObj base (.row t1 m 1)).z6 base 1;simp only [Fl,Zf,QP] at pS zp;have zc:=yL (P:=P) ho hargs ux (fun ty=>by rw [hv];exact pS);refine jL (g:=g) (base:=base) (J':=J.setObj base (.row t1 m 1)) (g':=qN g w.heap.size base (.row base []) (.slice (some ⟨w.heap.size,0,none⟩) m.length uY)) zc ?_ ?_ (fun n hn hfn=>⟨zJ.pE (g:=g) (fun b=>?_) (by omega) (by simp) hfn,by simp [z7.ids];omega⟩) rfl ?_ h (fun h=>Bool.noConfusion h) hK
        ·refine zy.pE (Bv zy.heap.tags _) (fun i hi=>Wk zy.heap.tags _ hi) (.inr hf) zp ?_;intro b hb;simp only [qN] at hb;split at hb
         ·rename_i he;subst he;simp
         ·have:=zy.heap.tags b hb;simp;omega
        ·exact P4 zy.heap.tags _
        ·simp only [qN];by_cases he:b=w.heap.size
         ·right;exact ⟨[],by simp [he]⟩
         ·left;simp [he]
        ·exact uT (u:=t1) (l:=m) (by simp [St.setObj,zR]) (by simp [qN]) rfl
     ·simp at h
    ·-- an owned row
     rename_i id ep;split at h
     ·rename_i t1 l e kC
      cases Qh:(Nat.beq e ep && t1.sk.same u.sk) with
      | false=>rw [Qh] at h;simp at h
      | true=>
       rw [Qh] at h;simp only [zB] at h;simp only [zA] at Qh;have IS:=zE Qh.1;subst IS;have wG:=Sk.qg Qh.2;have YR:u.size=t1.size:=by rw [<-Ty.zQ,<-Ty.zQ,wG]
       obtain ⟨qu,hval,h,TP⟩:=pj h;obtain ⟨m,news,h,yJ⟩:=JU (P:=P) zy.heap qu ey h hval TP;obtain ⟨Qa,h⟩:=qm h;have Qa:=BI Qa;unfold room at Qa;simp only [zr] at ex;obtain ⟨cs,⟨v,rfl,qE,hv⟩,jd⟩:=ex;have e1:=(hv _ _ _ kC).2 rfl;exact Wx ho hargs ux qV vg YR zy kC (by rw [<-e1];exact jd) qu yJ Qa h hK
     ·simp at h
    ·-- a part of an owned row
     rename_i id ep pa pb;split at h
     ·rename_i t1 l e kC
      cases Qh:(Nat.beq e ep && t1.sk.same u.sk) with
      | false=>rw [Qh] at h;simp at h
      | true=>
       rw [Qh] at h;simp only [zB] at h;simp only [zA] at Qh;have IS:=zE Qh.1;subst IS;have wG:=Sk.qg Qh.2;have YR:u.size=t1.size:=by rw [<-Ty.zQ,<-Ty.zQ,wG]
       obtain ⟨qu,hval,h,TP⟩:=pj h;obtain ⟨m,news,h,yJ⟩:=JU (P:=P) zy.heap qu ey h hval TP;obtain ⟨Qa,h⟩:=qm h;have Qa:=BI Qa;unfold room at Qa;simp only [zr] at ex;obtain ⟨cs,⟨v,rfl,qE,hv⟩,jd⟩:=ex;obtain ⟨_,h0,Jq,QH,e1⟩:=(hv _ _ _ kC).2 rfl;obtain ⟨yP,yU,z5c⟩:=Cl (e':=e+1) zy kC h0 Jq QH (Bm _);refine Wx (id:=id) (e:=e+1) (l:=sub l pa pb) ho hargs ux qV vg YR yP (by simp [St.setObj,zR]) ?_ qu (yJ.congr ⟨fun b hb=>⟨hb,rfl⟩⟩) Qa (by rw [Vp];exact h) (hK.pre yU z5c rfl);rw [jd];simp only [pF,WQ];exact e1
     ·simp at h
    ·-- a row of rows
     exact Oa x y t u ot _ bv hargs ux Cz hx hy h
    ·-- one of the rows of a row of rows
     rename_i id q0 p0 ep;split at h
     ·rename_i t1 l0 e0 i0 kC
      cases hb0:Nat.beq i0 ep with
      | false=>rw [hb0] at h;simp at h
      | true=>
       rw [hb0] at h;have IS:=zE hb0;subst IS;simp only [zB] at h;have Ec:zH w g (some (id,[])) (.sl true t1) l0 [g.sv id []]:=zy.heap.z6 id _ kC;obtain ⟨U,X,_,_,_,_,_,Qg,_,_,YS,_,_,_,_⟩:=x9 Ec h;obtain ⟨U',X',Gm,vD⟩:=Jd _ _ _ h;split at Gm
       ·rename_i v l1
        cases Qh:v.sk.same u.sk with
        | false=>rw [Qh] at Gm;simp at Gm
        | true=>
         rw [Qh] at Gm;simp only [zB] at Gm;have wG:=Sk.qg Qh;have YR:u.size=v.size:=by rw [<-Ty.zQ,<-Ty.zQ,wG]
         obtain ⟨qu,hval,Gm,TP⟩:=pj Gm;obtain ⟨m,news,Gm,yJ⟩:=JU (P:=P) zy.heap qu ey Gm hval TP;obtain ⟨Qa,Gm⟩:=qm Gm;have Qa:=BI Qa;unfold room at Qa;have q0a:Hq t1 (q0 :: p0)=some v:=by
          have hg:zb (.sl true t1) l0 (q0 :: p0) (fun u x=>some (⟨u,x⟩:(u:Ty)×u.den))=some ⟨.sl true v,l1⟩:=vD _ _;obtain ⟨U2,X2,_,_,_,_,_,PX,_,_,q0c,_,_,_,_⟩:=x9 Ec hg;simp only [zI,Z4j] at PX;obtain ⟨rfl,_⟩:=PX;have:=Xw q0c
          cases q0 with
          | fst=>simp [jg] at this
          | snd=>simp [jg] at this
          | idx j0=>simpa [Hq,jg] using this
         simp only [zr] at ex;obtain ⟨cs,⟨vv,rfl,qE,hv⟩,jd⟩:=ex;have e1:=((hv _ _ _ _ _ kC).2 rfl).1 rfl;obtain ⟨yP,yU,z5c,zqs,zcl⟩:=zjh zy hf kC qu q0a vD;refine Wx (id:=base) (e:=0) (l:=l1) ho hargs ux qV vg YR yP (by simp [St.setObj,zR]) ?_ qu (yJ.congr zcl) Qa (by rw [Vp];exact Gm) (hK.zwh yU (fun m hm=>z5c m (by omega)) rfl);rw [zqs];exact (jd.trans e1)
       ·simp at Gm
     ·simp at h
    ·simp at h
  ·simp at h
 ·simp at h
end
end Go.Kz
namespace Go.Kz
variable {R:Type}
section
variable {w:World} {g:z8} {J:St}
theorem OX {n:Nat} {a:Act} {w':World} {g':z8} {J':St} {m:Nat} (zy:zG n g w a J) (hr:zT w g w' g') (hs:J'.zk=J.zk) (hm:zJ g J m\/qv g g' m (J.z6 m) (J'.z6 m))
  (zqz:∀ x,J'.z6 m=some x->zo w' g' J'.z6 m x) (Gl:∀ j,j≠m->J'.z6 j=none\/(J'.z6 j=J.z6 j/\Zh w g w' g' j)) (ht:∀ b,g'.tag b≠.zt->b < w'.heap.size):zG n g' w' a J':=by
 refine zy.step hr hs hm (fun j hj=>?_) (fun j x hx=>?_) ht
 ·rcases Gl j hj with h | ⟨h,h2⟩
  ·exact .inl h
  ·rw [h];exact qv.same h2
 ·by_cases hj:j=m
  ·subst hj;exact .inl (zqz x hx)
  ·rcases Gl j hj with h | ⟨h,h2⟩
   ·rw [h] at hx;simp at hx
   ·rw [h] at hx;exact .inr ⟨hx,h2⟩
theorem Vl {g':z8} {J':St} {base m:Nat} (hm:m≠base) (zM:∀ b,g'.tag b=g.tag b\/∃ p,g'.tag b = .row base p) (uK:∀ j,j≠base->J'.z6 j=none\/J'.z6 j=J.z6 j)
  (Ic:∀ y,J'.z6 base≠some (.cell y)) (hs:J'.zk=J.zk) (hf:zJ g J m):zJ g' J' m:=by
 refine ⟨?_,fun b p hb=>?_,fun b hb=>?_,by rw [hs];exact hf.zk,fun i av hi=>?_⟩
 ·rcases uK m hm with h | h
  ·exact h
  ·rw [h];exact hf.z6
 ·rcases zM b with h | ⟨q,h⟩
  ·rw [h] at hb;exact hf.row b p hb
  ·rw [h] at hb;simp only [Tag.row.injEq] at hb;exact hm hb.1.symm
 ·rcases zM b with h | ⟨q,h⟩
  ·rw [h] at hb;exact hf.box b hb
  ·rw [h] at hb;simp at hb
 ·by_cases he:i=base
  ·subst he;exact absurd hi (Ic av)
  ·rcases uK i he with h | h
   ·rw [h] at hi;simp at hi
   ·rw [h] at hi;exact hf.cells i av hi
theorem Nw (hh:yY w g J.z6) {v:Ty} (qu:v.zW=true) {av:z7} {x:Value} {k:List v.den->St->Option R} {r:R} (hx:jK w g J.z6 av [x]) (h:uS J av v k=some r) :
  ∃ (fr:Option Nat) (d:List v.den) (J1:St),J1.zk=J.zk/\J1.next=J.next/\(∀ j,some j≠fr->J1.z6 j=J.z6 j)/\(∀ j,some j=fr->J1.z6 j=none/\J.z6 j≠none)/\k d J1=some r/\
   ∀ w' g' id p,zT w g w' g'->g'.sv id p=x->(∀ b j,some j=fr->g.tag b = .row j []->g'.tag b = .row id p/\w'.heap[b]? = w.heap[b]?)->zH w' g' (some (id,p)) (.sl true v) d [x]:=by
 unfold uS at h;split at h
 ·refine ⟨none,[],J,rfl,rfl,fun _ _=>rfl,fun _ h=>by simp at h,h,fun w' g' id p _ qf _=>?_⟩;have Gh:[x]=[.slice none 0 0]:=hx;simp only [BL,U6] at Gh;subst Gh;exact ⟨none,0,rfl,qf,yN _,jt _,.inl ⟨rfl,rfl,rfl⟩⟩
 ·rename_i vY ep';split at h
  ·rename_i t' l' e' PK
   cases hb:Nat.beq e' ep' with
   | false=>rw [hb] at h;simp at h
   | true=>
    rw [hb] at h;have he:=zE hb;subst he;simp only [zB] at h;obtain ⟨hc,h⟩:=qe h;have Cw:t'=v:=by simpa using hc
    subst Cw;refine ⟨some vY,_,J.kill vY,rfl,rfl,fun j hj=>?_,fun j hj=>?_,h,fun w' g' id p hr qf Jb=>?_⟩
    ·simp only [St.kill];exact zi _ _ (fun h=>hj (by rw [h]))
    ·simp only [zI] at hj;subst hj;exact ⟨by simp [St.kill,GJ],by rw [PK];simp⟩
    ·obtain ⟨v0,hv0,_,pR⟩:=hx;simp only [BL,U6] at hv0;subst hv0;have hxs:=(pR _ _ _ PK).2 rfl;obtain ⟨Pn,ad,cap,uR,Ef,h1,h2,h3⟩:=hh.z6 vY _ PK;refine ⟨ad,cap,by rw [hxs,Ef];rfl,by rw [qf,hxs,Ef];rfl,h1,h2,?_⟩;rcases h3 with h3 | ⟨b,off,c,ee,ha,zM,zY,hs,js⟩
     ·exact .inl h3
     ·obtain ⟨k1,k2⟩:=Jb b vY rfl zM;exact .inr ⟨b,off,c,ee,ha,k1,k2.trans zY,hs,fun i hi=>zH.y9 (o:=none) Pn ((zH.y9 (o':=none) Pn (js i hi)).kept hr)⟩
  ·simp at h
 ·simp at h
def q0:Path:=[.idx 0,.snd,.fst]
open Classical in
noncomputable def Zz (g:z8) (nb base:Nat) (zvs x:Value) (fr:Option Nat):z8 where
 tag:=fun b=>if b=nb then .row base [] else if ∃ j,fr=some j/\g.tag b = .row j [] then .row base q0 else g.tag b
 sv:=fun i q=>if i=base then (if q=[] then zvs else x) else g.sv i q
 qj:=g.qj
theorem Iq {u:Ty} (h:GR u=true):∃ t v,u = .pair t (.pair (.sl true v) .unit)/\t.zW=true/\v.zW=true:=by
 unfold GR at h;split at h
 ·simp only [zA] at h;exact ⟨_,_,rfl,h.1,h.2⟩
 ·simp at h
theorem Nv {a:z7} {t v:Ty} {k:(Ty.pair t (.pair (.sl true v) .unit)).den->St->Option R} {r:R} (h:AE J a (.pair t (.pair (.sl true v) .unit)) k=some r) :
  ∃ x y,a = .agg (.pr x (.pr y .un))/\t.zW=true/\v.zW=true/\x.val=true/\(j6 20 x t J fun d J=>uS J y v fun l J=>k (d,l,()) J)=some r:=by
 cases a with
 | agg c=>cases c with
  | pr x c2=>cases c2 with
   | pr y c3=>cases c3 with
    | un=>
     simp only [AE] at h
     cases hb:(t.zW && v.zW && x.val) with
     | false=>rw [hb] at h;simp at h
     | true=>
      rw [hb] at h;simp only [zA] at hb
      exact ⟨x,y,rfl,hb.1.1,hb.1.2,hb.2,h⟩
    | _=>simp [AE] at h
   | _=>simp [AE] at h
  | _=>simp [AE] at h
 | _=>simp [AE] at h
theorem F3 {a:z7} {v:Ty} {k:List v.den->St->Option R} {r:R} (h:uS J a v k=some r):a.sk = .leaf:=by
 unfold uS at h;split at h
 ·rfl
 ·rfl
 ·simp at h
section
variable {P:Program} {o:Oper} {a:Act} {K:Act->World->Prop} {Q:Exit->Act->World->Prop} {c:Ctx} {k:St->Option R} {r:R} {base:Nat} {mo:Bool}
theorem JJ {z6:qp} {u:Ty} {l:List u.den} {v:Value} {e i id:Nat} (ho:z6 id=some (.nest u l e i none)) (qf:v=g.sv id []) (qE:v.oneCell'=true):zr w g z6 (.nv false id [] e) v:=by
 simp only [zr];refine ⟨_,⟨v,rfl,qE,fun t l' e' i' h hx=>?_⟩,rfl⟩;rw [ho] at hx;simp only [zI,Obj.nest.injEq] at hx;obtain ⟨_,_,rfl,rfl,_⟩:=hx;exact ⟨yN _,fun _=>⟨fun _=>qf,fun h=>by simp at h⟩⟩
theorem JZ {t E:TypeId} {u:Ty} (qV:P.underlying t=some (.slice E)) (vg:yF P E u) {len:Nat} (Ck:len*u.size<=100000) {ps:Array (Nat×Operand)} (V8:xR 0 ps.toList=true) (hlen:ps.toList.length=len)
  (WX:∀ x∈ps.toList,(a.eval x.2).cells.size=u.size) :
  ∃ cells:Array Value,cells.toList=(ps.toList.map fun x=>(a.eval x.2).cells.toList).flatten/\(Instr.buildSlice t len (ps.map fun x=>(x.1,a.eval x.2))).run P w = .ok (.slice (some ⟨w.heap.size,0,none⟩) len len) (w.alloc (.cells cells E)):=by
 obtain ⟨i,zv,Gn,VU,Cj,hi4,hi5,hi6⟩:=vg.info;let vs:List Value:=ps.toList.map fun x=>a.eval x.2
 have q02:∀ v∈vs,v.cells.size=u.size:=by
  intro v hv;obtain ⟨x,hx,rfl⟩:=Gq.1 hv;exact WX x hx
 have Ux:vs.length=len:=by simp [vs];rw [<-hlen];simp
 let WC:Array Value:=(Array.range (len*i.size)).map (zv.cells[· % zv.cells.size]!);have z4b:WC.size=len*u.size:=by simp [WC,VU]
 obtain ⟨cells,PA,gE⟩:=UG vs 0 WC q02 (by rw [z4b,Zf,Ux];exact yN _);have U0:cells.toList=(ps.toList.map fun x=>(a.eval x.2).cells.toList).flatten:=by
  rw [gE];simp only [Z2d,Ti,QP,Zf,Ux];rw [MZ (by rw [vf,z4b];exact yN _),Di];simp [vs];rfl
 refine ⟨cells,U0,?_⟩;have AW:ps.toList.map (fun x=>(x.1,a.eval x.2))=za 0 vs:=kK V8 a.eval;have IB:¬ (2 ^ 24 < len*i.size):=by rw [VU];omega
 unfold Instr.buildSlice;simp only [Sem.run_bind,run_underlying qV,Result.andThen_ok];by_cases hz:len*i.size=0
 ·have AP:len=0:=by
   rcases Nat.mul_eq_zero.1 hz with h0 | h0
   ·exact h0
   ·omega
  have TG:ps = #[]:=by apply Fm.1;exact Z27 (hlen.trans AP)
  have Mg:cells.toList=[]:=by
   rw [U0,TG];rfl
  have zlk:cells = #[]:=by apply Fm.1;rw [Mg]
  simp [Go.sizeOf,typeInfo,Gn,AP,TG,Instr.fill,newRow,zlk,Array.range_zero']
 ·have W6:=PA;simp only [WC] at W6;rw [<-VU] at W6;simp [Go.sizeOf,typeInfo,Gn,IB,hz,zeroValue,hi4,AW,W6,newRow]
theorem Mo {u:Ty} {cells:Array Value} {E:TypeId} {g':z8} {w':World} {nb base:Nat} (h1:g'.tag nb = .row base []) (h2:g'.sv base [] = .slice (some ⟨nb,0,none⟩) 0 0) (h3:w'.heap[nb]? = some (.cells cells E)) :
  zH w' g' (some (base,[])) (.sl true u) [] [g'.sv base []]:=by
 refine ⟨some ⟨nb,0,none⟩,0,by rw [h2];rfl,h2,yN _,jt _,.inr ⟨nb,0,cells,E,rfl,h1,h3,by simp,fun i hi=>by simp at hi⟩⟩
theorem zbl (kN:gn P c.tt) {t:TypeId} {len:Nat} {ps:Array (Nat×Operand)} (ho:o.op = .buildSlice t len ps) (zy:zG c.ntmps g w a J) (hf:zJ g J base)
  {ow:Bool} {u:Ty} (YS:CD c o.dst t=some (.sl ow u)) (hu:GR u=true) (Ck:len*u.size<=100000) (h:OP c J base o.dst u len ps.toList k=some r)
  (hK:vu c.ntmps k r g w J base mo K):o.wp P a w K Q:=by
 obtain ⟨E,v0,qV,hv,hvu⟩:=WN kN YS;have vg:yF P E u:=hv.info.congr hvu;have ht:=zy.heap.tags;unfold OP at h;split at h
 ·rename_i TG;obtain ⟨cells,_,zc⟩:=JZ (a:=a) (w:=w) qV vg Ck (ps:=ps) (by rw [TG];rfl) (by rw [TG];rfl) (by rw [TG];simp);refine jL (g:=g) (J:=J) (J':=J.setObj base (.nest u [] 0 0 none)) (base:=base) (g':=qN g w.heap.size base (.row base []) (.slice (some ⟨w.heap.size,0,none⟩) 0 0)) (v:=.slice (some ⟨w.heap.size,0,none⟩) 0 0) (w':=w.alloc (.cells cells E)) ?_ ?_ (ZP ht _) (fun m hm wk=>⟨?_,?_⟩) rfl ?_ h (fun _ b hb=>heap_alloc_old w _ hb) hK
  ·simp only [execOp,ho];simp [zc]
  ·refine zy.new hf _ (by simp) ?_;exact Mo (by simp [qN]) (by simp [qN]) (heap_alloc_new w _)
  ·refine Vl (J:=J) (base:=base) (by omega) (fun b=>?_) (fun j hj=>.inr (by simp only [St.setObj];exact zi _ _ hj)) (by simp [St.setObj,zR]) rfl wk;simp only [qN];split
   ·exact .inr ⟨[],rfl⟩
   ·exact .inl rfl
  ·simp [z7.ids];omega
  ·exact JJ (u:=u) (l:=[]) (e:=0) (i:=0) (by simp [St.setObj,zR]) (by simp [qN]) rfl
 ·rename_i x TG;split at h
  ·rename_i av U3;obtain ⟨ex,ef⟩:=qF zy U3;obtain ⟨t1,v1,rfl,zcl,Pn⟩:=Iq hu;obtain ⟨ax,ay,rfl,_,_,hxv,h⟩:=Nv h;obtain ⟨cs,zS,Qf,vj⟩:=jn (av:=.agg (.pr ax (.pr ay .un))) rfl ex;obtain ⟨c1,c23,rfl,q0x,c2,c3,rfl,IA,rfl⟩:=zS;rw [Di] at vj;obtain ⟨d,J1,g1,Qg,h1,h2,h3,uW⟩:=gq 20 zy.heap q0x zcl h;have yP:=h3.st h1 zy;have zgm:=jK.frame (wE:=J1.z6) (h3.ro w) (fun i _=>h3.kept zy.heap i) IA;have UW:=zgm.len;rw [F3 Qg] at UW;obtain ⟨x0,rfl⟩:=Z2i.1 (show c2.length=1 from UW);obtain ⟨fr,l,J2,hs2,UJ,N7,Ei,PX,hmv⟩:=Nw yP.heap Pn zgm Qg;have qC:(a.eval x).cells.size=t1.size+1:=by
    rw [<-vf,vj,VH,uW.len];rfl
   obtain ⟨cells,gE,zc⟩:=JZ (a:=a) (w:=w) qV vg Ck (ps:=ps) (by rw [TG];rfl) (by rw [TG];rfl) (by rw [TG];intro y hy;simp only [Mp] at hy;subst hy;exact qC);rw [TG] at gE;simp only [WY,Z28,Z2z,List.flatten_nil,Di,vj] at gE;have Qc:=h3.fresh h1 hf;let vn:Value:=.slice (some ⟨w.heap.size,0,none⟩) 1 1;let g':=Zz g1 w.heap.size base vn x0 fr;have ht1:=yP.heap.tags;have Jb:∀ b,b < w.heap.size->(∀ j,fr=some j->g1.tag b≠.row j [])->g'.tag b=g1.tag b:=by
    intro b hb hj;simp only [g',Zz];rw [qZ (by omega),qZ (by rintro ⟨j,h,h'⟩;exact hj j h h')]
   have pY:zT w g1 (w.alloc (.cells cells E)) g':=by
    refine ⟨fun b hb=>?_⟩;have qx:=ht1 b (by rw [hb];simp);exact ⟨by rw [Jb b qx (fun j _=>by rw [hb];simp)];exact hb,heap_alloc_old w _ qx⟩
   have hq0:q0≠[]:=by simp [q0]
   have vk:zH (w.alloc (.cells cells E)) g' (some (base,q0)) (.sl true v1) l [x0]:=by
    refine hmv _ _ base q0 pY (by simp [g',Zz,hq0]) (fun b j hj hb=>?_);have qx:=ht1 b (by rw [hb];simp);refine ⟨?_,heap_alloc_old w _ qx⟩;simp only [g',Zz];rw [qZ (by omega),yQ ⟨j,hj.symm,hb⟩]
   have hfrb:∀ j,some j=fr->j≠base:=fun j hj he=>by subst he;exact (Ei j hj).2 Qc.z6
   refine jL (g:=g) (J:=J) (base:=base) (J':=J2.setObj base (.nest (.pair t1 (.pair (.sl true v1) .unit)) [(d,l,())] 0 0 none)) (g':=g') (v:=vn) (w':=w.alloc (.cells cells E)) ?_ ?_ (h3.ext.trans ?_) (fun m hm wk=>⟨?_,?_⟩) ?_ ?_ PX (fun _ b hb=>heap_alloc_old w _ hb) hK
   ·simp only [execOp,ho];simp [zc,vn]
   ·refine OX (m:=base) yP pY (by simp [St.setObj,hs2]) (.inl Qc) (fun y hy=>?_) (fun j hj=>?_) (fun b hb=>?_)
    ·simp only [St.setObj,zR,zI] at hy;subst hy;have qf:g'.sv base []=vn:=by simp [g',Zz]
     refine ⟨some ⟨w.heap.size,0,none⟩,1,by rw [qf];rfl,qf,yN _,by unfold maxLen;omega,.inr ⟨w.heap.size,0,cells,E,rfl,by simp [g',Zz],heap_alloc_new w _,?_,fun i hi=>?_⟩⟩
     ·rw [<-vf,gE,VH,uW.len];simp [Ty.size]
     ·have hi0:i=0:=by simpa using hi
      subst hi0;simp only [Z2d,Zf];have hs:(Ty.pair t1 (.pair (.sl true v1) .unit)).size=(c1++[x0]).length:=by
       rw [VH,uW.len];rfl
      rw [gE,hs,kr];exact ⟨c1,[x0],rfl,zH.y9 (o:=none) zcl (uW.kept pY),[x0],[],by simp,vk,rfl⟩
    ·simp only [St.setObj];rw [zi _ _ hj];by_cases En:some j=fr
     ·exact .inl (Ei j En).1
     ·refine .inr ⟨N7 j En,⟨fun q=>by simp [g',Zz,hj],fun q b hb=>?_⟩,rfl,fun hb=>?_⟩
      ·have qx:=ht1 b (by rw [hb];simp);refine ⟨?_,heap_alloc_old w _ qx⟩;rw [Jb b qx (fun i hi w5=>?_)]
       ·exact hb
       ·rw [hb] at w5;simp only [Tag.row.injEq] at w5;exact En (by rw [hi,w5.1])
      ·have qx:=ht1 _ (by rw [hb];simp);exact ⟨by rw [Jb _ qx (fun i _=>by rw [hb];simp)];exact hb,heap_alloc_old w _ qx⟩
    ·simp only [g',Zz] at hb;split at hb
     ·rename_i he;subst he;simp
     ·split at hb
      ·rename_i he;obtain ⟨j,_,w5⟩:=he;have:=ht1 b (by rw [w5];simp);simp;omega
      ·have:=ht1 b hb;simp;omega
   ·refine ⟨rfl,rfl,rfl,yN _,by simp,fun b hb w5=>⟨heap_alloc_old w _ hb,Jb b hb (fun j _ hb3=>?_)⟩⟩;rw [hb3] at w5;simp at w5
   ·refine Vl (base:=base) (by omega) (fun b=>?_) (fun j hj=>?_) (by simp [St.setObj,zR]) (by simp [St.setObj,hs2]) (h3.fresh h1 wk)
    ·simp only [g',Zz];split
     ·exact .inr ⟨[],rfl⟩
     ·split
      ·exact .inr ⟨q0,rfl⟩
      ·exact .inl rfl
    ·simp only [St.setObj];rw [zi _ _ hj];by_cases En:some j=fr
     ·exact .inl (Ei j En).1
     ·exact .inr (N7 j En)
   ·simp [z7.ids];omega
   ·simp [St.setObj,UJ,h2]
   ·exact JJ (u:=.pair t1 (.pair (.sl true v1) .unit)) (l:=[(d,l,())]) (e:=0) (i:=0) (by simp [St.setObj,zR]) (by simp [g',Zz]) rfl
  ·simp at h
 ·simp at h
theorem GO {id:Nat} {t:Ty} {l:List t.den} {v:Value} (h:zH w g (some (id,[])) (.sl true t) l [v]) :
  ∃ b cap gA,v = .slice b l.length cap/\g.sv id []=v/\l.length<=cap/\cap<=maxLen/\wW P w (Ci g) t.ro v (l.map (Ty.kR t)) gA/\
   ((b=none/\l=[]/\cap=0/\gA=[])\/∃ bk off cc ee,b=some ⟨bk,off,none⟩/\g.tag bk = .row id []/\w.heap[bk]? = some (.cells cc ee (0,0))/\off+cap*t.size<=cc.size/\gA=qS cc.toList off (l.length*t.size)/\
    ∀ (i:Nat) (h:i < l.length),zH w g (some (id,[Step.idx (i:Int)])) t (l.get ⟨i,h⟩) (qS cc.toList (off+i*t.size) t.size)):=by
 obtain ⟨b,cap,hv,qf,h1,h2,h3⟩:=h;simp only [BL,U6] at hv;subst hv;rcases h3 with ⟨rfl,hl,rfl⟩ | ⟨bk,off,cc,ee,rfl,zM,zY,qC,js⟩
 ·subst hl;exact ⟨none,0,[],rfl,qf,h1,h2,wW.of_nil,.inl ⟨rfl,rfl,rfl,rfl⟩⟩
 ·have ZF:l.length*t.size<=cap*t.size:=kn _ h1;have Cy:(l.map (Ty.kR t)).length=l.length:=by simp
  have htl:=wW.YG (P:=P) (w:=w) (g:=Ci g) (t:=t.ro) (m:=l.map (Ty.kR t)) (b:=bk) (off:=off) (cap:=cap) zY (by rw [Cy,Ty.qM];omega) (fun i hi=>by
   have wT:i < l.length:=by rw [Cy] at hi;exact hi
   have hf:=zH.freeze (Y8 w g) (o:=some (id,[]++[Step.idx (i:Int)])) (Q4 w g id _) (js i wT);simp only [LN,Z29,Ty.qM] at hf ⊢;exact hf)
  rw [Cy,Ty.qM] at htl;exact ⟨_,cap,_,rfl,qf,h1,h2,htl,.inr ⟨bk,off,cc,ee,rfl,zM,zY,qC,rfl,fun i hi=>js i hi⟩⟩
def V9 (g:z8) (id:Nat) (nb:Option Nat) (v:Value) (n i2:Nat):z8 where
 tag:=fun b=>if nb=some b then .row id [] else match g.tag b with
  | .row i (.idx j :: q)=>if i=i2/\j=0 then .row id (.idx (n:Int) :: q) else .row i (.idx j :: q)
  | t=>t
 sv:=fun i q=>if i=id then (match q with
  | []=>v
  | .idx j :: q'=>if j=(n:Int) then g.sv i2 (.idx 0 :: q') else g.sv id (.idx j :: q')
  | q=>g.sv id q) else g.sv i q
 qj:=g.qj
theorem G7 {id n i2 b:Nat} {nb:Option Nat} {v:Value} (hb:nb≠some b) (h:∀ q,g.tag b≠.row i2 (.idx 0 :: q)):(V9 g id nb v n i2).tag b=g.tag b:=by
 simp only [V9,qZ hb];split
 ·rename_i i j q he;rw [qZ (fun hc=>h q (by rw [he,hc.1,hc.2]))];exact he.symm
 ·rfl
theorem NR {n:Nat} {w':World} {J':St} {id i2:Nat} {t:Ty} {l l0:List t.den} {d:t.den} {e i e' i':Nat} {nb:Option Nat} {v:Value} {nb0 off cap:Nat} {c:Array Value} {ee:TypeId} {ol:Nat->List Value} {news:List Value}
  (zy:zG n g w a J) (zp:J.z6 id=some (.nest t l0 e i none)) (he:e < e') (hi:i < i') (hs:J'.zk=J.zk) (ho:J'.z6 id=some (.nest t (l++[d]) e' i' none))
  (Gl:∀ j,j≠id->(j=i2/\J'.z6 j=none)\/(j≠i2/\J'.z6 j=J.z6 j)) (h2:i2=id->l=[])
  (IB:∀ b,nb=some b->w.heap.size<=b/\b < w'.heap.size) (kD:∀ b,b < w.heap.size->g.tag b≠.row id []->w'.heap[b]? = w.heap[b]?) (J6:w.heap.size<=w'.heap.size)
  (hos:w'.os=w.os) (htp:w'.tape=w.tape) (xk:w'.output=w.output) (hdr:w.drawn<=w'.drawn)
  (hv:v = .slice (some ⟨nb0,off,none⟩) (l.length+1) cap) (ZF:l.length+1<=cap) (q15:cap<=maxLen) (zM:(V9 g id nb v l.length i2).tag nb0 = .row id []) (zY:w'.heap[nb0]? = some (.cells c ee (0,0))) (qC:off+cap*t.size<=c.size)
  (hold:∀ (k:Nat) (h:k < l.length),zH w g (some (id,[Step.idx (k:Int)])) t (l.get ⟨k,h⟩) (ol k)) (zky:∀ k,k < l.length->qS c.toList (off+k*t.size) t.size=ol k)
  (ZC:zH w g (some (i2,[Step.idx 0])) t d news) (hnc:qS c.toList (off+l.length*t.size) t.size=news) :
  zG n (V9 g id nb v l.length i2) w' a J'/\Ext w g w' (V9 g id nb v l.length i2)/\(∀ m,zJ g J m->zJ (V9 g id nb v l.length i2) J' m)/\(V9 g id nb v l.length i2).sv id []=v:=by
 let g':=V9 g id nb v l.length i2;have ht:=zy.heap.tags;have qx:∀ b,g.tag b≠.zt->b < w.heap.size/\nb≠some b:=fun b hb=>⟨ht b hb,fun hc=>by have:=IB b hc;have:=ht b hb;omega⟩
 have PU:∀ b,g.tag b≠.zt->(∀ q,g.tag b≠.row i2 (.idx 0 :: q))->g.tag b≠.row id []->g'.tag b=g.tag b/\w'.heap[b]? = w.heap[b]? := fun b hb hq hr=>
  ⟨G7 (qx b hb).2 hq,kD b (qx b hb).1 hr⟩
 have qu:zT w g w' g':=⟨fun b hb=>by
  obtain ⟨h1,h2⟩:=PU b (by rw [hb];simp) (by rw [hb];simp) (by rw [hb];simp);exact ⟨h1.trans hb,h2⟩⟩
 have qf:g'.sv id []=v:=by simp [g',V9]
 refine ⟨?_,?_,fun m wk=>?_,qf⟩
 ·refine OX (m:=id) zy qu hs (.inr ?_) (fun y hy=>?_) (fun j hj=>?_) (fun b hb=>?_)
  ·rw [zp,ho];exact .inr (.inr (.inr (.inr ⟨t,l0,l++[d],e,e',i,i',none,none,rfl,rfl,by omega,by omega,fun h=>by omega,fun h=>by omega⟩)))
  ·rw [ho] at hy;simp only [zI] at hy;subst hy;have hlen:(l++[d]).length=l.length+1:=by simp
   refine ⟨some ⟨nb0,off,none⟩,cap,by rw [qf,hlen,hv],by rw [qf,hlen,hv],by rw [hlen];exact ZF,q15,.inr ⟨nb0,off,c,ee,rfl,zM,zY,qC,fun k hk=>?_⟩⟩;by_cases VG:k < l.length
   ·have je:i2≠id:=fun h=>by rw [h2 h] at VG;simp at VG
    rw [zky k VG];have vD:(l++[d]).get ⟨k,hk⟩=l.get ⟨k,VG⟩:=by simp [Z50 VG]
    rw [vD];refine zH.move qu (o:=some (id,[Step.idx (k:Int)])) (o':=some (id,[]++[Step.idx (k:Int)])) ⟨fun q=>?_,fun q b hb=>?_⟩ (hold k VG)
    ·have:((k:Int)=(l.length:Int))=False:=by simp;omega
     simp [g',V9,this]
    ·simp only [xA,QP] at hb ⊢;obtain ⟨h3,h4⟩:=PU b (by rw [hb];simp) (by rw [hb];intro q hq;simp at hq;exact je hq.1.symm) (by rw [hb];simp);exact ⟨h3.trans hb,h4⟩
   ·have q1c:k=l.length:=by rw [hlen] at hk;omega
    subst q1c;rw [hnc];have vD:(l++[d]).get ⟨l.length,hk⟩=d:=by simp
    rw [vD];refine zH.move qu (o:=some (i2,[Step.idx 0])) (o':=some (id,[]++[Step.idx (l.length:Int)])) ⟨fun q=>?_,fun q b hb=>?_⟩ ZC
    ·simp [g',V9]
    ·simp only [xA,QP] at hb ⊢;refine ⟨?_,kD b (qx b (by rw [hb];simp)).1 (by rw [hb];simp)⟩;simp only [g',V9,qZ (qx b (by rw [hb];simp)).2,hb];rw [yQ (by simp)]
  ·rcases Gl j hj with ⟨_,h⟩ | ⟨h3,h⟩
   ·exact .inl h
   ·refine .inr ⟨h,⟨fun q=>by simp [g',V9,hj],fun q b hb=>?_⟩,rfl,fun hb=>?_⟩
    ·simp only [QP] at hb ⊢;obtain ⟨h4,h5⟩:=PU b (by rw [hb];simp) (by rw [hb];intro q hq;simp at hq;exact h3 hq.1) (by rw [hb];simp;intro hc;exact absurd hc hj);exact ⟨h4.trans hb,h5⟩
    ·obtain ⟨h4,h5⟩:=PU _ (by rw [hb];simp) (by rw [hb];simp) (by rw [hb];simp);exact ⟨h4.trans hb,h5⟩
  ·by_cases hc:nb=some b
   ·exact (IB b hc).2
   ·by_cases ha:g.tag b = .zt
    ·rw [G7 hc (by rw [ha];simp)] at hb;exact absurd ha hb
    ·have:=ht b ha;omega
 ·refine ⟨hos,htp,xk,hdr,J6,fun b hb w5=>⟨kD b hb (by rcases w5 with h | h <;> rw [h] <;> simp),G7 (fun hc=>by have:=IB b hc;omega) (by rcases w5 with h | h <;> rw [h] <;> simp)⟩⟩
 ·have ID:m≠id:=fun h=>by subst h;have:=wk.z6;rw [zp] at this;simp at this
  have zqp:∀ b,g'.tag b=g.tag b\/∃ p,g'.tag b = .row id p:=by
   intro b;simp only [g',V9];split
   ·exact .inr ⟨_,rfl⟩
   ·split
    ·rename_i he;split
     ·exact .inr ⟨_,rfl⟩
     ·exact .inl he.symm
    ·exact .inl rfl
  refine Vl (base:=id) ID zqp (fun j hj=>?_) (by rw [ho];simp) hs wk;rcases Gl j hj with ⟨_,h⟩ | ⟨_,h⟩
  ·exact .inl h
  ·exact .inr h
theorem D9 {x:z7} {f:(t:Ty)->(id e i:Nat)->t.den->Option R} {r:R} (h:zbr J x f=some r):∃ id e i t d,x = .nv false id [] e/\J.z6 id=some (.nest t [d] e i none)/\t.kp=true/\f t id e i d=some r:=by
 unfold zbr at h;split at h
 ·rename_i id ep;split at h
  ·rename_i t d e i ho
   cases hb:(Nat.beq e ep && t.kp) with
   | false=>rw [hb] at h;simp at h
   | true=>
    rw [hb] at h;simp only [zA] at hb;have he:=zE hb.1;subst he;exact ⟨id,e,i,t,d,rfl,ho,hb.2,h⟩
  ·simp at h
 ·simp at h
theorem Nf {id e i:Nat} {t:Ty} {l:List t.den} {v:Value} {h:Option Path} (ho:J.z6 id=some (.nest t l e i h)) (hv:zr w g J.z6 (.nv false id [] e) v):v=g.sv id []:=by
 simp only [zr] at hv;obtain ⟨cs,⟨x,rfl,_,hx⟩,hv⟩:=hv;have:=((hx _ _ _ _ _ ho).2 rfl).1 rfl;rw [hv];exact this
set_option maxHeartbeats 2000000 in
theorem Mh (kN:gn P c.tt) {args:Array Operand} {ts:Array TypeId} (ho:o.op = .call { callee:=.builtin .append,args:=args,argTypes:=ts }) (zy:zG c.ntmps g w a J)
  {x y:Operand} {t:TypeId} {u:Ty} {ow:Bool} {av bv:z7} (hargs:args.toList=[x,y]) (ux:ts.toList=[t,t]) (YS:c.tt t=some (.sl ow u)) (hx:ev J x=some av) (hy:ev J y=some bv)
  (h:G5 J u av bv (fun v J=>J.y6 c o.dst v k)=some r) (hK:vu c.ntmps k r g w J base true K):o.wp P a w K Q:=by
 have hT:=kN _ _ YS;simp only [qw] at hT;obtain ⟨⟨E,qV,hE⟩,_⟩:=hT;have vg:=hE.info;obtain ⟨ex,efx⟩:=qF zy hx;obtain ⟨ey,efy⟩:=qF zy hy;unfold G5 at h;split at h
 ·-- to nil
  have hv:=QU.1 ex;obtain ⟨i2,e2,n2,t1,d,rfl,J8,_,h⟩:=D9 h
  cases Qh:t1.sk.same u.sk with
  | false=>rw [Qh] at h;simp at h
  | true=>
   rw [Qh] at h;simp only [zB] at h;have wG:=Sk.qg Qh;have YR:u.size=t1.ro.size:=by rw [Ty.qM,<-Ty.zQ,<-Ty.zQ,wG]
   obtain ⟨b2,q3f,news,xP,Ef,_,_,yJ,vk⟩:=GO (P:=P) (zy.heap.z6 _ _ J8:zH w g (some (i2,[])) (.sl true t1) [d] [g.sv i2 []]);have hyv:=Nf J8 ey;rcases vk with ⟨_,hl,_⟩ | ⟨bk,off,cc,ee,rfl,zM,zY,qC,z4u,js⟩
   ·simp at hl
   ·rw [<-hyv] at yJ;obtain ⟨zs,pS,Pf⟩:=uk (P:=P) (w:=w) (ty:=0) (t:=t1.ro) (b:=none) (n:=0) (cap:=0) (gA:=[]) qV vg YR yJ (by simp) (by simp) (fun w' _=>by simp [Builtin.firstCells]);have zc:=yL (P:=P) ho hargs ux (fun ty=>by rw [hv];exact pS);have OT:news.length=t1.size:=by rw [yJ.length];simp [Ty.qM]
    have Cv:=grownCap_ge w (0+([d].map (Ty.kR t1)).length) 0 E;simp only [Gy,Z36,Zf] at zc Cv Pf;have hgm:=grownCap_le_maxLen w 1 0 E (by unfold maxLen;omega);let uY:=grownCap w 1 0 E;obtain ⟨r1,r2,r3,r4⟩:=NR (g:=g) (J:=J) (id:=i2) (i2:=i2) (t:=t1) (l:=[]) (l0:=[d]) (d:=d) (e':=e2+1) (i':=n2+1) (nb:=some w.heap.size) (nb0:=w.heap.size) (off:=0) (cap:=uY) (ol:=fun _=>[]) (news:=news)
     (v:=.slice (some ⟨w.heap.size,0,none⟩) 1 uY) (J':=J.setObj i2 (.nest t1 [d] (e2+1) (n2+1) none)) (w':=w.drew.alloc (.cells (([]:List Value).toArray++news.toArray++zs) E)) (c:=([]:List Value).toArray++news.toArray++zs) (ee:=E)
     zy J8 (by omega) (by omega) rfl (by simp [St.setObj,zR]) (fun j hj=>.inr ⟨hj,by simp only [St.setObj];exact zi _ _ hj⟩) (fun _=>rfl) (fun b hb=>by simp only [zI] at hb;subst hb;simp)
     (fun b hb _=>heap_alloc_old w.drew _ hb) (by simp) rfl rfl rfl (Z1s _) (by simp) (by simpa using Cv) hgm (by simp [V9]) (heap_alloc_new w.drew _)
     (by
      simp only [Z52,Z2a,Pf,OT,Fl,Ty.qM,Zf];rw [Nat.sub_mul];have:1*t1.size<=uY*t1.size:=kn _ Cv;show uY*t1.size<=t1.size+(uY*t1.size-1*t1.size);omega)
     (fun k hk=>by simp at hk) (fun k hk=>by simp at hk)
     (by
      have:=js 0 (by simp);rw [z4u];simpa using this)
     (by
      simp only [Fl,Z2d,S1,Z53,QP];rw [<-OT];rw [qi _ _ _ _ (by simp)];exact kr _)
    refine jL (g:=g) (J:=J) (base:=base) zc r1 r2 (fun m _ wk=>⟨r3 m wk,?_⟩) rfl (JJ (u:=t1) (l:=[d]) (e:=e2+1) (i:=n2+1) (by simp [St.setObj,zR]) r4.symm rfl) h (fun h=>Bool.noConfusion h) hK;have:=efy m wk;simpa [z7.ids] using this
 ·-- to a row
  rename_i id ep;split at h
  ·rename_i t1 l e i zp
   cases Qh:(Nat.beq e ep && t1.sk.same u.sk) with
   | false=>rw [Qh] at h;simp at h
   | true=>
    rw [Qh] at h;simp only [zB] at h;simp only [zA] at Qh;have IS:=zE Qh.1;subst IS;have wG:=Sk.qg Qh.2;have YR:u.size=t1.ro.size:=by rw [Ty.qM,<-Ty.zQ,<-Ty.zQ,wG]
    obtain ⟨i2,e2,n2,t2,d2,rfl,J8,_,h⟩:=D9 h
    cases hbi:Nat.beq id i2 with
    | true=>rw [hbi] at h;simp at h
    | false=>
     rw [hbi] at h;simp only [zU] at h;have je:i2≠id:=fun hc=>by subst hc;rw [Nc] at hbi;simp at hbi
     obtain ⟨hc,h⟩:=qe h;subst hc;obtain ⟨Qa,h⟩:=qm h;have Qa:=BI Qa;unfold room at Qa;obtain ⟨b2,q3f,news,xP,Ef,_,_,yJ,zr2⟩:=GO (P:=P) (zy.heap.z6 _ _ J8:zH w g (some (i2,[])) (.sl true t2) [d2] [g.sv i2 []]);obtain ⟨b1,CZ,gA,Ed,zqs,DY,TA,z4h,zgk⟩:=GO (P:=P) (zy.heap.z6 _ _ zp:zH w g (some (id,[])) (.sl true t2) l [g.sv id []]);have hyv:=Nf J8 ey;have hxv:=Nf zp ex;rcases zr2 with ⟨_,hl,_⟩ | ⟨bk2,zwi,cc2,ee2,rfl,Du,Qp,Z3,zl1,q1u⟩
     ·simp at hl
     rw [<-hyv] at yJ;have OT:news.length=t2.size:=by rw [yJ.length];simp [Ty.qM]
     have ZC:zH w g (some (i2,[Step.idx 0])) t2 d2 news:=by
      have:=q1u 0 (by simp);rw [zl1];simpa using this
     have hσ:∀ j,j≠id->(j=i2/\((J.kill i2).setObj id (.nest t2 (l++[d2]) (e+1) (i+1) none)).z6 j=none)\/(j≠i2/\((J.kill i2).setObj id (.nest t2 (l++[d2]) (e+1) (i+1) none)).z6 j=J.z6 j):=by
      intro j hj;simp only [St.setObj,St.kill];rw [zi _ _ hj];by_cases h2:j=i2
      ·subst h2;exact .inl ⟨rfl,zR _ _ _⟩
      ·exact .inr ⟨h2,zi _ _ h2⟩
     have zsa:∀ m,zJ g J m->m∉(z7.nv false id [] (e+1)).ids:=fun m wk=>by
      have:=efx m wk;simpa [z7.ids] using this
     have OO:a.eval x = .slice b1 l.length CZ:=hxv.trans Ed;by_cases IC:CZ < l.length+1
     ·obtain ⟨zs,pS,Pf⟩:=uk (P:=P) (w:=w) (ty:=0) (t:=t2.ro) (b:=b1) (n:=l.length) (cap:=CZ) (gA:=gA) qV vg YR yJ (by simpa using IC) (by simpa using Qa) (fun w' GZ=>by
       have:=z4h.cells w' GZ;rw [Ed] at this;simpa using this)
      have zc:=yL (P:=P) ho hargs ux (fun ty=>by rw [OO];exact pS);simp only [Gy,Z36] at zc Pf;have Cv:=grownCap_ge w (l.length+1) CZ E;have hgm:=grownCap_le_maxLen w (l.length+1) CZ E (by unfold maxLen;omega);let uY:=grownCap w (l.length+1) CZ E;have hol:gA.length=l.length*t2.size:=by rw [z4h.length];simp [Ty.qM]
      obtain ⟨ol,hold,zky⟩:∃ ol:Nat->List Value,(∀ (k:Nat) (h:k < l.length),zH w g (some (id,[Step.idx (k:Int)])) t2 (l.get ⟨k,h⟩) (ol k))/\∀ k,k < l.length->qS gA (k*t2.size) t2.size=ol k:=by
       rcases zgk with ⟨_,hl,_,_⟩ | ⟨bk,off,cc,ee,_,_,zY,qC,zrb,js⟩
       ·exact ⟨fun _=>[],fun k hk=>by rw [hl] at hk;simp at hk,fun k hk=>by rw [hl] at hk;simp at hk⟩
       ·refine ⟨_,js,fun k hk=>?_⟩;have h3:(k+1)*t2.size<=l.length*t2.size:=kn _ hk;rw [wB] at h3;rw [zrb,pP _ _ _ _ _ (by omega)]
      obtain ⟨r1,r2,r3,r4⟩:=NR (g:=g) (J:=J) (id:=id) (i2:=i2) (t:=t2) (l:=l) (l0:=l) (d:=d2) (e':=e+1) (i':=i+1) (nb:=some w.heap.size) (nb0:=w.heap.size) (off:=0) (cap:=uY) (ol:=ol) (news:=news)
       (v:=.slice (some ⟨w.heap.size,0,none⟩) (l.length+1) uY) (J':=(J.kill i2).setObj id (.nest t2 (l++[d2]) (e+1) (i+1) none)) (w':=w.drew.alloc (.cells (gA.toArray++news.toArray++zs) E)) (c:=gA.toArray++news.toArray++zs) (ee:=E)
       zy zp (by omega) (by omega) rfl (by simp [St.setObj,zR]) hσ (fun h=>absurd h je) (fun b hb=>by simp only [zI] at hb;subst hb;simp)
       (fun b hb _=>heap_alloc_old w.drew _ hb) (by simp) rfl rfl rfl (Z1s _) rfl Cv hgm (by simp [V9]) (heap_alloc_new w.drew _)
       (by
        simp only [Z52,Z2a,Pf,OT,hol,Ty.qM,Zf];rw [Nat.sub_mul];have:(l.length+1)*t2.size<=uY*t2.size:=kn _ Cv;rw [wB] at this ⊢;show uY*t2.size<=l.length*t2.size+t2.size+(uY*t2.size-(l.length*t2.size+1*t2.size));omega)
       hold (fun k hk=>by
        have h3:(k+1)*t2.size<=l.length*t2.size:=kn _ hk;rw [wB] at h3;rw [<-zky k hk,Zf];simp only [Z53,Gj];exact qi _ _ _ _ (by omega))
       ZC (by
        rw [Zf];simp only [Z53,Gj];have:=yZ gA (news++zs.toList) (l.length*t2.size) 0 t2.size hol.symm;rw [S1] at this;rw [this,qi _ _ _ _ (by omega),<-OT,kr])
      exact jL (g:=g) (J:=J) (base:=base) zc r1 r2 (fun m _ wk=>⟨r3 m wk,zsa m wk⟩) rfl (JJ (u:=t2) (l:=l++[d2]) (e:=e+1) (i:=i+1) (by simp [St.setObj,zR]) r4.symm rfl) h (fun h=>Bool.noConfusion h) hK
     ·rcases zgk with ⟨_,hl,Mg,_⟩ | ⟨bk,off,cc,ee,rfl,z4j,z5k,zcj,zrb,js⟩
      ·omega
      ·have ZE:cc.toList.length=cc.size:=vf;have hmul:(l.length+1)*t2.size<=CZ*t2.size:=kn _ (by omega);rw [wB] at hmul;have pS:=ug (P:=P) (w:=w) (ty:=0) (t:=t2.ro) (n:=l.length) (cap:=CZ) (off:=off) qV vg YR z5k yJ (by simp;omega) (by rw [Ty.qM];exact zcj);have zc:=yL (P:=P) ho hargs ux (fun ty=>by rw [OO];exact pS);simp only [Gy,Z36,Ty.qM] at zc;obtain ⟨r1,r2,r3,r4⟩:=NR (g:=g) (J:=J) (id:=id) (i2:=i2) (t:=t2) (l:=l) (l0:=l) (d:=d2) (e':=e+1) (i':=i+1) (nb:=none) (nb0:=bk) (off:=off) (cap:=CZ) (ol:=fun k=>qS cc.toList (off+k*t2.size) t2.size) (news:=news)
        (v:=.slice (some ⟨bk,off,none⟩) (l.length+1) CZ) (J':=(J.kill i2).setObj id (.nest t2 (l++[d2]) (e+1) (i+1) none)) (w':=w.setRow bk (zD cc.toList (off+l.length*t2.size) news).toArray) (c:=(zD cc.toList (off+l.length*t2.size) news).toArray) (ee:=ee)
        zy zp (by omega) (by omega) rfl (by simp [St.setObj,zR]) hσ (fun h=>absurd h je) (fun b hb=>by simp at hb)
        (fun b hb w5=>setRow_other w bk b _ (fun he=>w5 (he ▸ z4j))) (by simp [World.setRow]) rfl rfl rfl (yN _) rfl (by omega) TA (by rw [G7 (by simp) (by rw [z4j];simp)];exact z4j) (setRow_heap w bk cc _ ee _ z5k)
        (by rw [Z2a,yI _ _ _ (by omega),ZE];exact zcj)
        js (fun k hk=>by
         have h3:(k+1)*t2.size<=l.length*t2.size:=kn _ hk;rw [wB] at h3;exact jv _ _ _ _ _ (by omega) (by omega))
        ZC (by
         have:=uj cc.toList (off+l.length*t2.size) news (by omega);rw [OT] at this;exact this)
       exact jL (g:=g) (J:=J) (base:=base) zc r1 r2 (fun m _ wk=>⟨r3 m wk,zsa m wk⟩) rfl (JJ (u:=t2) (l:=l++[d2]) (e:=e+1) (i:=i+1) (by simp [St.setObj,zR]) r4.symm rfl) h (fun h=>Bool.noConfusion h) hK
  ·simp at h
 ·simp at h
end
end
end Go.Kz
