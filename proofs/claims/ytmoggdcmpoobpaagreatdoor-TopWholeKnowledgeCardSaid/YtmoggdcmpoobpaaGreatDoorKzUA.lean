/-
  Rows of rows turned: an element of one of the rows; a row put in its place; a row taken out.
-/
import Derived.Test.YtmoggdcmpoobpaaGreatDoorKzR
set_option linter.unusedVariables false
set_option linter.unusedSimpArgs false
namespace Go.Kz
variable {R:Type}
theorem YS:(t:Ty)->(d:t.den)->(p:Path)->{k:(u:Ty)->u.den->Option R}->{r:R}->za t d p k=some r->
  ∃ (u:Ty) (e:u.den),k u e=some r/\∀ (R':Type) (k':(u:Ty)->u.den->Option R'),za t d p k'=k' u e
 | t,d,[],k,r,h=>⟨t,d,by cases t <;> simpa [za] using h,fun R' k'=>by cases t <;> simp [za]⟩
 | .pair a _,(x,_),.fst :: p,k,r,h=>by simp only [za] at h ⊢;exact YS a x p h
 | .pair _ b,(_,y),.snd :: p,k,r,h=>by simp only [za] at h ⊢;exact YS b y p h
 | .arr _ t,l,.idx i :: p,k,r,h=>by
  simp only [za] at h ⊢;obtain ⟨x,hx,h⟩:=VN.1 h;obtain ⟨u,e,hk,ha⟩:=YS t x p h
  exact ⟨u,e,hk,fun R' k'=>by rw [hx,zB];exact ha _ _⟩
 | .sl true t,l,.idx i :: p,k,r,h=>by
  simp only [za] at h ⊢;obtain ⟨x,hx,h⟩:=VN.1 h;obtain ⟨u,e,hk,ha⟩:=YS t x p h
  exact ⟨u,e,hk,fun R' k'=>by rw [hx,zB];exact ha _ _⟩
 | .int _,d,s :: p,k,r,h=>by cases s <;> simp [za] at h
 | .bool,d,s :: p,k,r,h=>by cases s <;> simp [za] at h
 | .str,d,s :: p,k,r,h=>by cases s <;> simp [za] at h
 | .unit,d,s :: p,k,r,h=>by cases s <;> simp [za] at h
 | .sl false _,d,s :: p,k,r,h=>by cases s <;> simp [za] at h
 | .ptr _,d,s :: p,k,r,h=>by cases s <;> simp [za] at h
 | .fn _ _,d,s :: p,k,r,h=>by cases s <;> simp [za] at h
 | .tree _,d,s :: p,k,r,h=>by cases s <;> simp [za] at h
 | .pair _ _,(_,_),.idx _ :: p,k,r,h=>by simp [za] at h
 | .arr _ _,d,.fst :: p,k,r,h=>by simp [za] at h
 | .arr _ _,d,.snd :: p,k,r,h=>by simp [za] at h
 | .sl true _,d,.fst :: p,k,r,h=>by simp [za] at h
 | .sl true _,d,.snd :: p,k,r,h=>by simp [za] at h
theorem QY:(t:Ty)->(d:t.den)->(p:Path)->{v:Ty}->{e:List v.den}->{f:t.den->Option R}->{r:R}->jk t p=some v->jM t d p (.sl true v) e f=some r->
  ∃ x:List v.den,∀ (R':Type) (k':(u:Ty)->u.den->Option R'),za t d p k'=k' (.sl true v) x
 | .sl true t,d,[],v,e,f,r,hq,h=>by
  simp only [jk,zI] at hq;subst hq
  exact ⟨d,fun R' k'=>by simp [za]⟩
 | .pair a _,(x,_),.fst :: p,v,e,f,r,hq,h=>by simp only [jM,jk,za] at h hq ⊢;exact QY a x p hq h
 | .pair _ b,(_,y),.snd :: p,v,e,f,r,hq,h=>by simp only [jM,jk,za] at h hq ⊢;exact QY b y p hq h
 | .arr _ t,l,.idx i :: p,v,e,f,r,hq,h=>by
  simp only [jM,jk,za] at h hq ⊢;obtain ⟨x,hx,h⟩:=VN.1 h;obtain ⟨y,hy⟩:=QY t x p hq h
  exact ⟨y,fun R' k'=>by rw [hx,zB];exact hy _ _⟩
 | .sl true t,l,.idx i :: p,v,e,f,r,hq,h=>by
  simp only [jM,jk,za] at h hq ⊢;obtain ⟨x,hx,h⟩:=VN.1 h;obtain ⟨y,hy⟩:=QY t x p hq h
  exact ⟨y,fun R' k'=>by rw [hx,zB];exact hy _ _⟩
 | .sl true _,_,.fst :: _,_,_,_,_,h,_ | .sl true _,_,.snd :: _,_,_,_,_,h,_=>by simp [jk] at h
 | .sl false _,_,p,_,_,_,_,h,_=>by cases p with | nil=>simp [jk] at h | cons s q=>cases s <;> simp [jk] at h
 | .int _,_,p,_,_,_,_,h,_=>by cases p with | nil=>simp [jk] at h | cons s q=>cases s <;> simp [jk] at h
 | .bool,_,p,_,_,_,_,h,_=>by cases p with | nil=>simp [jk] at h | cons s q=>cases s <;> simp [jk] at h
 | .str,_,p,_,_,_,_,h,_=>by cases p with | nil=>simp [jk] at h | cons s q=>cases s <;> simp [jk] at h
 | .unit,_,p,_,_,_,_,h,_=>by cases p with | nil=>simp [jk] at h | cons s q=>cases s <;> simp [jk] at h
 | .ptr _,_,p,_,_,_,_,h,_=>by cases p with | nil=>simp [jk] at h | cons s q=>cases s <;> simp [jk] at h
 | .fn _ _,_,p,_,_,_,_,h,_=>by cases p with | nil=>simp [jk] at h | cons s q=>cases s <;> simp [jk] at h
 | .tree _,_,p,_,_,_,_,h,_=>by cases p with | nil=>simp [jk] at h | cons s q=>cases s <;> simp [jk] at h
 | .pair _ _,_,[],_,_,_,_,h,_=>by simp [jk] at h
 | .pair _ _,_,.idx _ :: _,_,_,_,_,h,_=>by simp [jk] at h
 | .arr _ _,_,[],_,_,_,_,h,_=>by simp [jk] at h
 | .arr _ _,_,.fst :: _,_,_,_,_,h,_ | .arr _ _,_,.snd :: _,_,_,_,_,h,_=>by simp [jk] at h
theorem FR {v:Ty} (qv:v.zV=true) {l:List v.den} {j:Int} {q:Path} {k:(u:Ty)->u.den->Option R} {r:R} (h:za (.sl true v) l (.idx j :: q) k=some r):∃ u x,k u x=some r/\u.zV=true:=by
 simp only [za,VN] at h;obtain ⟨y,_,h⟩:=h;exact Z1 qv h
theorem Qg {j:Int}:{t:Ty}->{p:Path}->{v:Ty}->jk t p=some v->Ju t (p++[.idx j])=some v.sk
 | .sl true t,[],v,hq=>by
  simp only [jk,zI] at hq;subst hq
  simp [Ju]
 | .pair a _,.fst :: p,v,hq=>by simp only [jk,Ju,ue] at hq ⊢;exact Qg hq
 | .pair _ c,.snd :: p,v,hq=>by simp only [jk,Ju,ue] at hq ⊢;exact Qg hq
 | .arr _ t,.idx i :: p,v,hq=>by simp only [jk,Ju,ue] at hq ⊢;exact Qg hq
 | .sl true t,.idx i :: p,v,hq=>by simp only [jk,Ju,ue] at hq ⊢;exact Qg hq
 | .sl true _,.fst :: _,_,h | .sl true _,.snd :: _,_,h=>by simp [jk] at h
 | .sl false _,p,_,h=>by cases p with | nil=>simp [jk] at h | cons s q=>cases s <;> simp [jk] at h
 | .int _,p,_,h=>by cases p with | nil=>simp [jk] at h | cons s q=>cases s <;> simp [jk] at h
 | .bool,p,_,h=>by cases p with | nil=>simp [jk] at h | cons s q=>cases s <;> simp [jk] at h
 | .str,p,_,h=>by cases p with | nil=>simp [jk] at h | cons s q=>cases s <;> simp [jk] at h
 | .unit,p,_,h=>by cases p with | nil=>simp [jk] at h | cons s q=>cases s <;> simp [jk] at h
 | .ptr _,p,_,h=>by cases p with | nil=>simp [jk] at h | cons s q=>cases s <;> simp [jk] at h
 | .fn _ _,p,_,h=>by cases p with | nil=>simp [jk] at h | cons s q=>cases s <;> simp [jk] at h
 | .tree _,p,_,h=>by cases p with | nil=>simp [jk] at h | cons s q=>cases s <;> simp [jk] at h
 | .pair _ _,[],_,h=>by simp [jk] at h
 | .pair _ _,.idx _ :: _,_,h=>by simp [jk] at h
 | .arr _ _,[],_,h=>by simp [jk] at h
 | .arr _ _,.fst :: _,_,h | .arr _ _,.snd :: _,_,h=>by simp [jk] at h
theorem Un:{p:Path}->{q:Path}->{j:Int}->{r:Path}->Wk p=some (q,j,r)->p=q ++ .idx j :: r
 | [],_,_,_,h=>by simp [Wk] at h
 | s :: p,q,j,r,h=>by
  simp only [Wk] at h;split at h
  ·rename_i q' j' r' hl;simp only [zI,gB] at h;obtain ⟨rfl,rfl,rfl⟩:=h;rw [Un hl];rfl
  ·split at h
   ·simp only [zI,gB] at h;obtain ⟨rfl,rfl,rfl⟩:=h;rfl
   ·simp at h
theorem YA:{p q:Path}->xY p q=true->p=q
 | [],[],_=>rfl
 | .fst :: p,.fst :: q,h=>by simp only [xY] at h;rw [YA h]
 | .snd :: p,.snd :: q,h=>by simp only [xY] at h;rw [YA h]
 | .idx i :: p,.idx j :: q,h=>by
  simp only [xY,zA,jL] at h
  rw [h.1,YA h.2]
 | [],_ :: _,h | _ :: _,[],h=>by simp [xY] at h
 | .fst :: _,.snd :: _,h | .fst :: _,.idx _ :: _,h | .snd :: _,.fst :: _,h | .snd :: _,.idx _ :: _,h | .idx _ :: _,.fst :: _,h | .idx _ :: _,.snd :: _,h=>by simp [xY] at h
section
variable {w:World} {g:z8} {J:St}
theorem zK.step {n:Nat} {w':World} {a:Act} {g':z8} {J':St} {m:Nat} (zq:zK n g w a J) (hr:zO w g w' g') (hs:J'.zj=J.zj) (hm:zY g J m\/qz g g' m (J.z6 m) (J'.z6 m))
  (hk:∀ j,j≠m->qz g g' j (J.z6 j) (J'.z6 j))
  (zg:∀ j x,J'.z6 j=some x->zm w' g' J'.z6 j x\/(J.z6 j=some x/\Zj w g w' g' j)) (ht:∀ b,g'.tag b≠.zn->b < w'.heap.size):zK n g' w' a J':=by
 have A9:∀ j,(zY g J m->j≠m)->qz g g' j (J.z6 j) (J'.z6 j):=by
  intro j hj;by_cases he:j=m
  ·rcases hm with hf | hm
   ·exact absurd he (hj hf)
   ·rw [he];exact hm
  ·exact hk j he
 refine ⟨fun i av hi=>?_,⟨fun id x hx=>?_,ht⟩,zq.size,zq.defers,zq.known.kept hr⟩
 ·rw [hs] at hi;obtain ⟨u,hu,zR⟩:=zq.zj i av hi;refine ⟨u,hu,zl.frame hr (fun j hj=>A9 j (fun hf he=>?_)) zR⟩;subst he;exact hf.zj i av hi hj
 ·rcases zg id x hx with h | ⟨h,gV⟩
  ·exact h
  ·refine zm.frame hr gV (fun y hy j hj=>A9 j (fun hf he=>?_)) (zq.heap.z6 id x h);subst he;subst hy;exact hf.cells id y h hj
theorem CJ {id:Nat} {pp:Path} {t:Ty} {l:List t.den} {i:Int} {q:Path} {u:Ty} {d:u.den} {cs:List Value} {f:List t.den->Option R} {r:R} {hd:Value} (qv:t.zV=true)
  (wC:zC w g (some (id,pp)) (.sl true t) l [hd]) (zX:zC w g none u d cs) (h:jM (.sl true t) l (.idx i :: q) u d f=some r) :
  ∃ l' b0 yB n cp o' cc ee,f l'=some r/\l'.length=l.length/\g.sv id pp = .slice (some ⟨b0,yB,none⟩) n cp/\t.sk.off q=some (o',u.sk)/\w.heap[b0]? = some (.cells cc ee (0,0))/\g.tag b0 = .row id pp/\
   yB+i.toNat*t.size+o'+u.size<=cc.size/\
   zC (w.setRow b0 (zU cc.toList (yB+i.toNat*t.size+o') cs).toArray) g (some (id,pp)) (.sl true t) l' [hd]:=by
 simp only [jM,VN] at h;obtain ⟨x,hx,h⟩:=h;obtain ⟨h0,hi,rfl,qJ⟩:=jf hx;obtain ⟨ad,cap,pN,qT,Gi,Gm,wC⟩:=wC;rcases wC with ⟨_,hl,_⟩ | ⟨b,off,cc,ee,rfl,zH,zQ,qK,WW⟩
 ·rw [hl] at hi;simp at hi
 ·have jo:=zC.qt (o':=none) qv (WW _ hi);obtain ⟨d',o',hk,ju,hr⟩:=xE qv jo zX h;have hle:=Sk.wU ju;rw [Ty.zZ,Ty.zZ] at hle;have Q8:(i.toNat+1)*t.size<=cap*t.size:=kj _ (by omega);rw [wz] at Q8;have pO:cs.length=u.size:=zX.len;have xr:cc.toList.length=cc.size:=vX;refine ⟨_,b,off,l.length,cap,o',cc,ee,hk,qF _ _ _,qT,ju,zQ,zH,by omega,some ⟨b,off,none⟩,cap,?_,?_,?_,Gm,.inr ⟨b,off,(zU cc.toList (off+i.toNat*t.size+o') cs).toArray,ee,rfl,zH,?_,?_,fun j hj=>?_⟩⟩
  ·rw [qF];exact pN
  ·rw [qF];exact qT
  ·rw [qF];exact Gi
  ·exact setRow_heap w b cc _ ee _ zQ
  ·rw [Z26,yM _ _ _ (by rw [pO,xr];omega),xr];exact qK
  ·have Ru:zO w g (w.setRow b (zU cc.toList (off+i.toNat*t.size+o') cs).toArray) g:=(jP (id:=id) _ (.inl ⟨pp,zH⟩)).ro;have v7:j < l.length:=by rw [qF] at hj;exact hj
   have FU:(j+1)*t.size<=cap*t.size:=kj _ (by omega);rw [wz] at FU;rw [QJ];refine zC.qt qv (o:=none) ?_;by_cases ZI:i.toNat=j
   ·rw [yW ZI];subst ZI;rw [gI _ _ _ _ _ (by rw [pO];exact hle) (by rw [xr];omega)];exact hr.kept Ru
   ·rw [qQ ZI];have hold:=(zC.qt (o':=none) qv (WW j v7)).kept Ru;rcases Z3q ZI with VQ | hgt
    ·have h3:(i.toNat+1)*t.size<=j*t.size:=kj _ VQ;rw [wz] at h3;rw [vD _ _ _ _ _ (by rw [pO];omega) (by rw [pO,xr];omega)];exact hold
    ·have h3:(j+1)*t.size<=i.toNat*t.size:=kj _ hgt;rw [wz] at h3;rw [jj _ _ _ _ _ (by omega) (by rw [xr];omega)];exact hold
theorem Ns {l:List Value} {off:Nat} {x:Value} (h:off < l.length) (hs:qB l off 1=[x]):zU l off [x]=l:=by
 rw [<-hs];simp only [zU,qB];rw [P0,Lx,Z4h (by omega),<-Ng,VO,RU,RU]
theorem IJ {id:Nat} {t:Ty} {l:List t.den} {e i:Nat} {s:Step} {p:Path} {v:Ty} {l1:List v.den} {j:Int} {q:Path} {u:Ty} {d:u.den} {cs:List Value} {f:List t.den->Option R} {r:R} {b0 yB:Nat}
  (hh:yZ w g J.z6) (ho:J.z6 id=some (.nest t l e i none)) (qv:v.zV=true) (gq:∀ (R':Type) (k':(u:Ty)->u.den->Option R'),za (.sl true t) l (s :: p) k'=k' (.sl true v) l1)
  (zX:zC w g none u d cs) (gy:place g id (.sl true t) [] 0 0 (s :: p ++ .idx j :: q)=some (b0,yB))
  (h:(jM (.sl true v) l1 (.idx j :: q) u d fun l1=>jM (.sl true t) l (s :: p) (.sl true v) l1 f)=some r) :
  ∃ l' cc ee,f l'=some r/\w.heap[b0]? = some (.cells cc ee (0,0))/\g.tag b0 = .row id (s :: p)/\yB+u.size<=cc.size/\
   zm (w.setRow b0 (zU cc.toList yB cs).toArray) g (J.setObj id (.nest t l' e i none)).z6 id (.nest t l' e i none):=by
 have zg:zC w g (some (id,[])) (.sl true t) l [g.sv id []]:=hh.z6 id _ ho;have hg:za (.sl true t) l (s :: p) (fun u x=>some (⟨u,x⟩:(u:Ty)×u.den))=some ⟨.sl true v,l1⟩:=gq _ _;obtain ⟨U,X,bx,ox,_,_,_,hk,ztf,_,vZ,_,_,_,_⟩:=uD zg hg;simp only [zI,Z4j] at hk;obtain ⟨rfl,_⟩:=hk;have hq:=Po vZ
 cases s with
 | fst=>simp [jk] at hq
 | snd=>simp [jk] at hq
 | idx i0=>
  have hq':jk t p=some v:=by simpa [jk] using hq
  obtain ⟨l1',bh,oh,ch,eh,ph,hk,zkk,jJ,Eu,_,gT,Rj,kT,hw⟩:=G5 (focus w g id t) (pre:=[]) hq' zg hg;simp only [zI,Z4j,heq_eq_eq,VL] at hk;subst hk;simp only [Zu] at Eu kT hw;have hchl:ch.toList.length=ch.size:=vX;obtain ⟨x,hx⟩:=Z2e.1 (yV (l:=ch.toList) (off:=oh) (n:=1) (by omega));rw [hx] at kT;obtain ⟨l2,b2,o2,n2,cp2,o',cc,ee,hf,HT,qT,ju,zQ,zH,qK,pg⟩:=CJ qv kT zX h;have e1:=kH (j:=j) (pre:=[]) (t:=.sl true t) (b:=0) (off:=0) (x:=(bx,ox)) hq ztf qT;have e2:=jN e1 (Qg hq) ju;have AK:Step.idx i0 :: p++[Step.idx j]++q = .idx i0 :: p ++ .idx j :: q:=by simp
  rw [AK,gy] at e2;simp only [zI,gB] at e2;obtain ⟨rfl,rfl⟩:=e2;have vI:bh≠b0:=by
   intro he;subst he;rw [zH] at jJ;simp only [Tag.row.injEq,VL] at jJ;subst jJ;omega
  have D4:=jP (w:=w) (g:=g) (id:=id) (b0:=b0) (zU cc.toList (o2+j.toNat*v.size+o') cs).toArray (.inl ⟨_,zH⟩);have TR:LK w g (w.setRow b0 (zU cc.toList (o2+j.toNat*v.size+o') cs).toArray) g id (.idx i0 :: p) bh:=by
   refine ⟨D4.ro,fun _ _=>rfl,fun q' b hb hq'=>⟨hb,fun _=>setRow_other w b0 b _ ?_⟩⟩;intro he;subst he;rw [zH] at hb;simp only [Tag.row.injEq,VL] at hb;exact hq' (by rw [hb];exact Z4c _)
  obtain ⟨l3,hf3,_,zkh⟩:=hw _ g l2 x TR (by
   rw [Ns (by omega) hx,setRow_other w b0 bh _ vI];simpa using gT) pg _ _ hf
  exact ⟨l3,cc,ee,hf3,zQ,zH,qK,zkh⟩
theorem Jb {id:Nat} {t:Ty} {l:List t.den} {p:Path} {v:Ty} {l1:List v.den} (zg:zC w g (some (id,[])) (.sl true t) l [g.sv id []]) (vZ:Ew t p=some v)
  (gq:∀ (R':Type) (k':(u:Ty)->u.den->Option R'),za (.sl true t) l p k'=k' (.sl true v) l1) :
  Ej w g id t l p/\zC w g (some (id,p)) (.sl true v) l1 [g.sv id p]:=by
 cases p with
 | nil=>simp [Ew] at vZ
 | cons s p=>
  cases s with
  | fst=>simp [Ew] at vZ
  | snd=>simp [Ew] at vZ
  | idx i0=>
   simp only [Ew] at vZ;have hg:za (.sl true t) l (.idx i0 :: p) (fun u x=>some (⟨u,x⟩:(u:Ty)×u.den))=some ⟨.sl true v,l1⟩:=gq _ _;obtain ⟨l1',bh,oh,ch,eh,ph,hk,zkk,jJ,Eu,_,gT,Rj,kT,hw⟩:=G5 (focus w g id t) (pre:=[]) vZ zg hg;simp only [zI,Z4j,heq_eq_eq,VL] at hk;subst hk;simp only [Zu] at Eu kT hw;have hlen:∃ bk o cap,g.sv id [] = .slice (some ⟨bk,o,none⟩) l.length cap:=by
    obtain ⟨a,cap,_,qT,_,_,h3⟩:=zg;rcases h3 with ⟨_,rfl,_⟩ | ⟨b,off,c,e,rfl,_⟩
    ·simp only [za] at hg;cases i0 <;> simp [idx] at hg
    ·exact ⟨b,off,cap,qT⟩
   refine ⟨⟨hlen,v,bh,oh,ch,eh,ph,vZ,zkk 0 0,jJ,Eu,gT,Rj,fun w' g' l' x hn BO Pw R' f r' w8=>?_⟩,?_⟩
   ·obtain ⟨l2,hf,_,A8⟩:=hw w' g' l' x hn BO Pw f r' w8;refine ⟨l2,hf,?_⟩;rw [hn.sv [] (CA (by simp))];exact A8
   ·obtain ⟨a,cap,pN,qT,h1⟩:=kT;exact ⟨a,cap,by rw [qT],qT,h1⟩
open Classical in
noncomputable def kV (g:z8) (from_:Option Nat) (id:Nat) (p:Path) (x:Value):z8 where
 tag:=fun b=>match g.tag b with
  | .row i q=>if some i=from_ then .row id (p++q) else .row i q
  | t=>t
 sv:=fun i q=>if i=id/\q=p then x else g.sv i q
 zt:=g.zt
theorem Fb {fr:Option Nat} {id:Nat} {p:Path} {x:Value} {b:Nat}:(kV g fr id p x).tag b = .ro↔g.tag b = .ro:=by
 simp only [kV]
 cases hb:g.tag b with
 | row i q=>by_cases h:some i=fr <;> simp [h]
 | _=>simp
theorem GD {fr:Option Nat} {id:Nat} {p:Path} {x:Value} {b:Nat}:(kV g fr id p x).tag b = .zn↔g.tag b = .zn:=by
 simp only [kV]
 cases hb:g.tag b with
 | row i q=>by_cases h:some i=fr <;> simp [h]
 | _=>simp
theorem BR {fr:Option Nat} {id:Nat} {p:Path} {x:Value} {b i:Nat} {q:Path} (h:g.tag b = .row i q) (hi:some i≠fr):(kV g fr id p x).tag b = .row i q:=by
 simp only [kV,h,qQ hi]
theorem Oc {fr:Option Nat} {id:Nat} {p:Path} {x:Value} {b i:Nat} (h:g.tag b = .box i):(kV g fr id p x).tag b = .box i:=by
 simp only [kV,h]
theorem Sm {n:Nat} {a:Act} {id:Nat} {t:Ty} {l:List t.den} {e i:Nat} {h0:Option Path} {p:Path} {av:z7} {x:Value} {f:St->Option R} {r:R} {b0 yB:Nat}
  (zq:zK n g w a J) (ho:J.z6 id=some (.nest t l e i h0)) (Te:∀ v,Ew t p=some v->(∃ l1:List v.den,∀ (R':Type) (k':(u:Ty)->u.den->Option R'),za (.sl true t) l p k'=k' (.sl true v) l1)->Ej w g id t l p)
  (gy:place g id (.sl true t) [] 0 0 p=some (b0,yB)) (hx:jV w g J.z6 av [x]) (h:XQ J id t l e i p av f=some r) :
  ∃ cc ee pre J' g',f J'=some r/\w.heap[b0]? = some (.cells cc ee (0,0))/\g.tag b0 = .row id pre/\yB < cc.size/\zK n g' (w.setRow b0 (zU cc.toList yB [x]).toArray) a J'/\
   Ext w g (w.setRow b0 (zU cc.toList yB [x]).toArray) g'/\(∀ m,zY g J m->zY g' J' m)/\J'.next=J.next:=by
 unfold XQ at h;split at h
 ·rename_i v vZ
  cases qv:v.zV with
  | false=>rw [qv] at h;simp at h
  | true=>
   rw [qv] at h;simp only [zD] at h;have key:∃ (fr:Option Nat) (d:List v.den) (J1:St),J1.zj=J.zj/\J1.next=J.next/\(∀ j,some j≠fr->J1.z6 j=J.z6 j)/\(∀ j,some j=fr->J1.z6 j=none/\j≠id/\J.z6 j≠none)/\
     (jM (.sl true t) l p (.sl true v) d fun l=>f (J1.setObj id (.nest t l e (i+1) none)))=some r/\
     (∀ w' g',zO w g w' g'->g'.sv id p=x->(∀ b,(∃ j,some j=fr/\g.tag b = .row j [])->g'.tag b = .row id p/\w'.heap[b]? = w.heap[b]?)->zC w' g' (some (id,p)) (.sl true v) d [x]):=by
    unfold uv at h;split at h
    ·refine ⟨none,[],J,rfl,rfl,fun _ _=>rfl,fun _ h=>by simp at h,h,fun w' g' _ qT _=>?_⟩;have Gd:[x]=[.slice none 0 0]:=hx;simp only [Az,Ds] at Gd;subst Gd;exact ⟨none,0,rfl,qT,yS _,jE _,.inl ⟨rfl,rfl,rfl⟩⟩
    ·rename_i vu ep';split at h
     ·rename_i t' l' e' GP
      cases hb:Nat.beq e' ep' with
      | false=>rw [hb] at h;simp at h
      | true=>
       rw [hb] at h;have he:=zE hb;subst he;simp only [zD] at h;obtain ⟨hc,h⟩:=qS h;have BO:t'=v:=by simpa using hc
       subst BO;have vI:vu≠id:=by intro hc;rw [hc,ho] at GP;simp at GP
       refine ⟨some vu,_,J.kill vu,rfl,rfl,fun j hj=>?_,fun j hj=>?_,h,fun w' g' hr qT JV=>?_⟩
       ·simp only [St.kill];exact ze _ _ (fun h=>hj (by rw [h]))
       ·simp only [zI] at hj;subst hj;exact ⟨by simp [St.kill,KK],vI,by rw [GP];simp⟩
       ·obtain ⟨v0,Rq,_,gR⟩:=hx;simp only [Az,Ds] at Rq;subst Rq;have hxs:=(gR _ _ _ GP).2 rfl;obtain ⟨Gh,ad,cap,pN,Ch,h1,h2,h3⟩:=zq.heap.z6 vu _ GP;refine ⟨ad,cap,by rw [hxs,Ch];rfl,by rw [qT,hxs,Ch];rfl,h1,h2,?_⟩;rcases h3 with h3 | ⟨b,off,c,ee,ha,zH,zQ,hs,jo⟩
        ·exact .inl h3
        ·obtain ⟨k1,k2⟩:=JV b ⟨vu,rfl,zH⟩;exact .inr ⟨b,off,c,ee,ha,k1,k2.trans zQ,hs,fun i hi=>zC.qt (o:=none) Gh ((zC.qt (o':=none) Gh (jo i hi)).kept hr)⟩
     ·simp at h
    ·simp at h
   obtain ⟨fr,d,J1,Eg,Zo,ID,Cn,w8,hmv⟩:=key;have hp:p≠[]:=by intro hp;subst hp;simp [Ew] at vZ
   have hqq:∃ i0 p',p = .idx i0 :: p':=by
    cases p with
    | nil=>exact absurd rfl hp
    | cons s p'=>cases s with
     | idx i0=>exact ⟨i0,p',rfl⟩
     | fst=>simp [Ew] at vZ
     | snd=>simp [Ew] at vZ
   have zsw:jk (.sl true t) p=some v:=by
    obtain ⟨i0,p',rfl⟩:=hqq;simpa [Ew,jk] using vZ
   obtain ⟨l1,II⟩:=QY (.sl true t) l p zsw w8;obtain ⟨_,v',b1,off1,c,ee,pre,TP,zef,zH,uI,zQ,ju,TK⟩:=Te v vZ ⟨l1,II⟩;rw [vZ] at TP;simp only [zI] at TP;subst TP;rw [gy] at zef;simp only [zI,gB] at zef;obtain ⟨rfl,rfl⟩:=zef;have zl9:some id≠fr:=fun hc=>(Cn id hc).2.1 rfl
   have zyv:c.toList.length=c.size:=vX;have wm:∀ b,b≠b0->(w.setRow b0 (zU c.toList yB [x]).toArray).heap[b]? = w.heap[b]? := fun b hb=>setRow_other w b0 b _ hb
   have gS:zO w g (w.setRow b0 (zU c.toList yB [x]).toArray) (kV g fr id p x):=
    ⟨fun b hb=>⟨Fb.2 hb,wm b (fun he=>by rw [he,zH] at hb;simp at hb)⟩⟩
   have zX:=hmv _ (kV g fr id p x) gS (by simp [kV]) (fun b hb=>by
    obtain ⟨j,hj,hb⟩:=hb;refine ⟨by simp only [kV,hb,yW hj];simp,wm b (fun he=>?_)⟩;rw [he,zH] at hb;simp only [Tag.row.injEq] at hb;exact zl9 (by rw [hb.1];exact hj))
   have TR:LK w g (w.setRow b0 (zU c.toList yB [x]).toArray) (kV g fr id p x) id p b0:=by
    refine ⟨gS,fun q hq=>?_,fun q b hb hq=>⟨BR hb zl9,fun vI=>wm b vI⟩⟩;simp only [kV];rw [qQ];rintro ⟨_,rfl⟩;exact hq (Z4c _)
   obtain ⟨l2,Gl,pg⟩:=TK _ _ d x TR (setRow_heap w b0 c _ ee _ zQ) zX _ _ w8;have gV:∀ j,j≠id->some j≠fr->Zj w g (w.setRow b0 (zU c.toList yB [x]).toArray) (kV g fr id p x) j:=by
    intro j hj Cs;refine ⟨⟨fun q=>by simp only [kV];rw [qQ (fun h=>hj h.1)],fun q b hb=>⟨BR hb Cs,wm b (fun he=>?_)⟩⟩,rfl,fun hb=>⟨Oc hb,wm _ (fun he=>?_)⟩⟩
    ·rw [he,zH] at hb;simp only [Tag.row.injEq] at hb;exact hj hb.1.symm
    ·rw [he,zH] at hb;simp at hb
   have hσ:∀ j,(J1.setObj id (.nest t l2 e (i+1) none)).z6 j=if j=id then some (.nest t l2 e (i+1) none) else J1.z6 j:=by
    intro j;by_cases hj:j=id
    ·subst hj;simp [St.setObj,zN]
    ·simp only [St.setObj,qQ hj];exact ze _ _ hj
   have pL:∀ j,qz g (kV g fr id p x) j (J.z6 j) ((J1.setObj id (.nest t l2 e (i+1) none)).z6 j):=by
    intro j;rw [hσ];by_cases hj:j=id
    ·subst hj;rw [yW rfl];exact .inr (.inr (.inr (.inr ⟨t,l,l2,e,e,i,i+1,h0,none,ho,rfl,yS _,Z1o _,fun _=>by simp only [kV];rw [qQ (fun h=>hp h.2.symm)],fun h=>by omega⟩)))
    ·rw [qQ hj];by_cases Cs:some j=fr
     ·exact .inl (Cn j Cs).1
     ·rw [ID j Cs];exact qz.same (gV j hj Cs)
   refine ⟨c,ee,pre,_,kV g fr id p x,Gl,zQ,zH,ju,?_,?_,?_,Zo⟩
   ·refine zq.step (m:=id) gS (show (J1.setObj id _).zj=J.zj from Eg) (.inr (pL id)) (fun j _=>pL j) (fun j y hy=>?_) (fun b hb=>?_)
    ·rw [hσ] at hy;by_cases hj:j=id
     ·subst hj;rw [yW rfl] at hy;simp only [zI] at hy;subst hy;exact .inl pg
     ·rw [qQ hj] at hy;by_cases Cs:some j=fr
      ·rw [(Cn j Cs).1] at hy;simp at hy
      ·rw [ID j Cs] at hy;exact .inr ⟨hy,gV j hj Cs⟩
    ·have:=zq.heap.tags b (fun h=>hb (GD.2 h));simpa [World.setRow] using this
   ·refine ⟨rfl,rfl,rfl,yS _,by simp [World.setRow],fun b _ hb=>⟨wm b (fun he=>?_),?_⟩⟩
    ·rw [he,zH] at hb;simp at hb
    ·rcases hb with hb | hb
     ·rw [hb];exact GD.2 hb
     ·rw [hb];exact Fb.2 hb
   ·intro m hm;have FK:m≠id:=by intro he;subst he;have:=hm.z6;rw [ho] at this;simp at this
    have hmf:some m≠fr:=fun hc=>(Cn m hc).2.2 hm.z6
    refine ⟨by rw [hσ,qQ FK,ID m hmf];exact hm.z6,fun b q hb=>?_,fun b hb=>?_,fun j av hj=>hm.zj j av (by rw [<-Eg];exact hj),fun j av hj=>?_⟩
    ·simp only [kV] at hb;split at hb
     ·rename_i i' q' hg';split at hb
      ·simp only [Tag.row.injEq] at hb;exact FK hb.1.symm
      ·exact hm.row b q (by rw [hg'];exact hb)
     ·exact hm.row b q hb
    ·simp only [kV] at hb;split at hb
     ·split at hb <;> simp at hb
     ·exact hm.box b hb
    ·rw [hσ] at hj;split at hj
     ·simp at hj
     ·by_cases Cs:some j=fr
      ·rw [(Cn j Cs).1] at hj;simp at hj
      ·rw [ID j Cs] at hj;exact hm.cells j av hj
 ·simp at h
open Classical in
noncomputable def Iw (g:z8) (id:Nat) (p:Path) (m:Nat):z8 where
 tag:=fun b=>if g.tag b = .row id p then .row m [] else g.tag b
 sv:=fun i q=>if i=m then g.sv id p else g.sv i q
 zt:=g.zt
theorem zd4 {n:Nat} {a:Act} {id base:Nat} {t:Ty} {l:List t.den} {e i:Nat} {p:Path} {v:Ty} {l1:List v.den} (zq:zK n g w a J) (hf:zY g J base) (ho:J.z6 id=some (.nest t l e i none))
  (qv:v.zV=true) (vZ:Ew t p=some v) (gq:∀ (R':Type) (k':(u:Ty)->u.den->Option R'),za (.sl true t) l p k'=k' (.sl true v) l1) :
  let g':=Iw g id p base;let J':=(J.setObj id (.nest t l e i (some p))).setObj base (.row v l1 0)
  zK n g' w a J'/\Ext w g w g'/\(∀ m,m≠base->zY g J m->zY g' J' m)/\g'.sv base []=g.sv id p/\zO w g w g':=by
 intro g' J';have zg:zC w g (some (id,[])) (.sl true t) l [g.sv id []]:=zq.heap.z6 id _ ho;obtain ⟨⟨⟨bk0,o0,zg3,ze9⟩,v',b0,off,c,ee,pre,TP,gy,zH,uI,zQ,ju,TK⟩,wC⟩:=Jb zg vZ gq;have hbid:base≠id:=by intro he;subst he;have:=hf.z6;rw [ho] at this;simp at this
 have JV:∀ b,g.tag b≠.row id p->g'.tag b=g.tag b:=fun b hb=>by simp only [g',Iw,qQ hb]
 have qT:∀ j q,j≠base->g'.sv j q=g.sv j q:=fun j q hj=>by simp only [g',Iw,qQ hj]
 have gS:zO w g w g':=⟨fun b hb=>⟨by rw [JV b (by rw [hb];simp)];exact hb,rfl⟩⟩;have gV:∀ j,j≠id->j≠base->Zj w g w g' j:=by
  intro j hj hjb;refine ⟨⟨fun q=>qT j _ hjb,fun q b hb=>⟨?_,rfl⟩⟩,rfl,fun hb=>⟨?_,rfl⟩⟩
  ·rw [JV b (by rw [hb];simp only [ne_eq,Tag.row.injEq,not_and];exact fun h=>absurd h hj)];exact hb
  ·rw [JV _ (by rw [hb];simp)];exact hb
 have hσ:∀ j,J'.z6 j=if j=base then some (.row v l1 0) else if j=id then some (.nest t l e i (some p)) else J.z6 j:=by
  intro j;by_cases hj:j=base
  ·subst hj;simp [J',St.setObj,zN]
  ·simp only [J',St.setObj,qQ hj];rw [ze _ _ hj];by_cases Rv:j=id
   ·subst Rv;simp [zN]
   ·rw [qQ Rv,ze _ _ Rv]
 have pL:∀ j,j≠base->qz g g' j (J.z6 j) (J'.z6 j):=by
  intro j hj;rw [hσ,qQ hj];by_cases Rv:j=id
  ·subst Rv;rw [yW rfl];exact .inr (.inr (.inr (.inr ⟨t,l,l,e,e,i,i,none,some p,ho,rfl,yS _,yS _,fun _=>qT _ _ hj,fun _ _=>qT _ _ hj⟩)))
  ·rw [qQ Rv];exact qz.same (gV j Rv hj)
 have ze8:g'.sv base []=g.sv id p:=by simp [g',Iw]
 refine ⟨?_,⟨rfl,rfl,rfl,yS _,yS _,fun b _ hb=>⟨rfl,JV b (by rcases hb with hb | hb <;> rw [hb] <;> simp)⟩⟩,fun m hm w9=>?_,ze8,gS⟩
 ·refine zq.step (m:=base) gS rfl (.inl hf) pL (fun j y hy=>?_) (fun b hb=>?_)
  ·rw [hσ] at hy;by_cases hj:j=base
   ·subst hj;rw [yW rfl] at hy;simp only [zI] at hy;subst hy;left;refine ⟨qv,?_⟩;obtain ⟨ad,cap,pN,Ch,h1,h2,h3⟩:=wC;refine ⟨ad,cap,by rw [ze8];exact pN,by rw [ze8];exact Ch,h1,h2,?_⟩;rcases h3 with h3 | ⟨b,of,cc,e3,ha,TA,IM,hs,jo⟩
    ·exact .inl h3
    ·exact .inr ⟨b,of,cc,e3,ha,by simp only [g',Iw,yW TA],IM,hs,fun i hi=>zC.qt (o:=none) qv ((zC.qt (o':=none) qv (jo i hi)).kept gS)⟩
   ·rw [qQ hj] at hy;by_cases Rv:j=id
    ·subst Rv;rw [yW rfl] at hy;simp only [zI] at hy;subst hy;left;have hnp:∀ q,¬ p <+: q->q≠p:=fun q hq he=>hq (by rw [he];exact Z4c _)
     refine ⟨⟨bk0,o0,zg3,by rw [qT j [] hj];exact ze9⟩,v',b0,off,c,ee,pre,TP,by rw [jS (fun q=>qT j q hj)];exact gy,?_,uI,zQ,ju,fun w2 g2 l3 x hn Pg A8 R f r w8=>?_⟩
     ·rw [JV b0 (by rw [zH];simp only [ne_eq,Tag.row.injEq,VL];intro h;rw [h] at uI;omega)];exact zH
     ·refine TK w2 g2 l3 x ⟨⟨fun b hb=>?_⟩,fun q hq=>(hn.sv q hq).trans (qT j q hj),fun q b hb hq=>?_⟩ Pg A8 f r w8
      ·exact hn.ro.zt b (gS.zt b hb).1
      ·have:g'.tag b = .row j q:=by
        rw [JV b (by rw [hb];simp only [ne_eq,Tag.row.injEq,VL];exact hnp q hq)];exact hb
       exact hn.zt q b this hq
    ·rw [qQ Rv] at hy;exact .inr ⟨hy,gV j Rv hj⟩
  ·by_cases vT:g.tag b = .row id p
   ·exact zq.heap.tags b (by rw [vT];simp)
   ·rw [JV b vT] at hb;exact zq.heap.tags b hb
 ·have FK:m≠id:=by intro he;subst he;have:=w9.z6;rw [ho] at this;simp at this
  refine ⟨by rw [hσ,qQ hm,qQ FK];exact w9.z6,fun b q hb=>?_,fun b hb=>?_,w9.zj,fun j av hj=>?_⟩
  ·by_cases vT:g.tag b = .row id p
   ·simp only [g',Iw,yW vT,Tag.row.injEq] at hb;exact hm hb.1.symm
   ·rw [JV b vT] at hb;exact w9.row b q hb
  ·by_cases vT:g.tag b = .row id p
   ·simp [g',Iw,yW vT] at hb
   ·rw [JV b vT] at hb;exact w9.box b hb
  ·rw [hσ] at hj;split at hj
   ·simp at hj
   ·split at hj
    ·simp at hj
    ·exact w9.cells j av hj
end
end Go.Kz
namespace Go.Kz
variable {R:Type}
section
variable {P:Program} {o:Oper} {a:Act} {w:World} {K:Act->World->Prop} {Q:Exit->Act->World->Prop} {c:Ctx} {J:St} {g:z8} {k:St->Option R} {r:R} {base:Nat} {mo:Bool}
theorem Ie {id:Nat} {t:Ty} {l:List t.den} {e i:Nat} {p:Path} {av:z7} {f:St->Option R} (h:XQ J id t l e i p av f=some r):av.sk = .leaf:=by
 unfold XQ at h;split at h
 ·rename_i v _
  cases qv:v.zV with
  | false=>rw [qv] at h;simp at h
  | true=>
   rw [qv] at h;simp only [zD] at h;unfold uv at h;split at h
   ·rfl
   ·rfl
   ·simp at h
 ·simp at h
theorem Ag {t:TypeId} {x y:Operand} {u:Ty} {bv:z7} {cs:List Value} {id:Nat} {p:Path} {ep:Nat} (ho:o.op = .store t x y) (Qn:o.dst=none) (hT:qq P u t) (zq:zK c.ntmps g w a J)
  (ex:zl w g J.z6 (.nv true id p ep) (a.eval x)) (zR:jV w g J.z6 bv cs) (vL:(a.eval y).cells.toList=cs) (pO:cs.length=u.size) (w7:u.sk=bv.sk)
  (h:CL J id p ep bv k=some r) (hK:jt c.ntmps k r g w J base true K):o.wp P a w K Q:=by
 simp only [zl] at ex;obtain ⟨cs0,⟨v0,rfl,qL,hv⟩,jb⟩:=ex;have GA:∀ {t1:Ty} {l1:List t1.den} {e i:Nat} {h0:Option Path},J.z6 id=some (.nest t1 l1 e i h0)->i=ep->
   (∀ v,Ew t1 p=some v->(∃ l2:List v.den,∀ (R':Type) (k':(u:Ty)->u.den->Option R'),za (.sl true t1) l1 p k'=k' (.sl true v) l2)->Ej w g id t1 l1 p)->
   XQ J id t1 l1 e i p bv k=some r->o.wp P a w K Q:=by
  intro t1 l1 e i h0 zg hi Te h;obtain ⟨hp,b0,yB,gy,gR⟩:=((hv _ _ _ _ _ zg).2 hi).2 rfl;have hl:=Ie h;have II:cs.length=1:=by rw [zR.len,hl];rfl
  obtain ⟨z,rfl⟩:=Z2e.1 II;obtain ⟨cc,ee,pre,J',g',hk,zQ,zH,ju,qP,qM,vQ,hn⟩:=Sm zq zg Te gy zR h;have zb:=pe (P:=P) (w:=w) (off:=yB) hT zQ vL pO (by rw [<-pO];simp;omega) zR.one;have uc:a.eval x = .pointer (some ⟨b0,yB,none⟩):=by rw [jb];exact gR
  refine wp_skip Qn ?_ qP qM (fun m _ w9=>vQ m w9) hn hk (fun h=>Bool.noConfusion h) hK;simp [execOp,ho,uc,Instr.storeAt,Instr.sureAddr,zb]
 unfold CL at h;split at h
 ·rename_i t1 l1 e i zg
  cases hb:Nat.beq i ep with
  | false=>rw [hb] at h;simp at h
  | true=>
   rw [hb] at h;have hi:=zE hb;simp only [zD] at h;have Ce:zC w g (some (id,[])) (.sl true t1) l1 [g.sv id []]:=zq.heap.z6 id _ zg
   cases hs:(Ew t1 p).isSome with
   | true=>
    rw [hs] at h;simp only [zD] at h
    exact GA zg hi (fun v vZ ⟨l2,BM⟩=>(Jb Ce vZ BM).1) h
   | false=>
    rw [hs] at h;simp only [zW] at h;split at h
    ·rename_i s p1 j q zkx;have AK:=Un zkx;obtain ⟨U,X,Zk,gq⟩:=YS _ _ _ h;split at Zk
     ·rename_i v l2
      cases qv:v.zV with
      | false=>rw [qv] at Zk;simp at Zk
      | true=>
       rw [qv] at Zk;simp only [zD] at Zk;obtain ⟨u1,x1,GX,IA⟩:=FR qv Zk;obtain ⟨d,J1,g1,hk3,h1,h2,h3,pH⟩:=kA 20 zq.heap zR IA GX;have yC:=h3.st h1 zq;split at hk3
       ·rename_i t2 l3 e2 i2 BF;have gV:J1.z6 id=J.z6 id:=by
         rcases h3.z6 id with e | e
         ·exact e
         ·rw [e] at BF;simp at BF
        have BH:J1.z6 id=some (.nest t1 l1 e i none):=gV.trans zg;obtain ⟨hp,b0,yB,gy,gR⟩:=((hv _ _ _ _ _ zg).2 hi).2 rfl;have zee:place g1 id (.sl true t1) [] 0 0 (s :: p1 ++ .idx j :: q)=some (b0,yB):=by
         rw [<-AK];exact (jS (g:=g) (g':=g1) (fun p=>by rw [h3.sv])).trans gy
        obtain ⟨l',cc,ee,hf,zQ,zH,qK,qN⟩:=IJ yC.heap BH qv gq pH zee hk3;have hur:u1.size=u.size:=by rw [<-pH.len,pO]
        have zb:=pe (P:=P) (w:=w) hT zQ vL pO (by rw [<-hur];exact qK) zR.one;have D4:=jP (w:=w) (g:=g1) (id:=id) (b0:=b0) (zU cc.toList yB cs).toArray (.inl ⟨_,zH⟩);have wY:=D4.st yC (o':=.nest t1 l' e i none) (.inr (.inr (.inr (.inr ⟨t1,l1,l',e,e,i,i,none,none,BH,rfl,yS _,yS _,fun _=>rfl,fun _ _=>rfl⟩)))) qN;have uc:a.eval x = .pointer (some ⟨b0,yB,none⟩):=by rw [jb];exact gR
        refine wp_skip Qn ?_ wY (h3.ext.trans D4.ext) (fun m _ w9=>?_) h2 hf (fun h=>Bool.noConfusion h) hK
        ·simp [execOp,ho,uc,Instr.storeAt,Instr.sureAddr,zb]
        ·exact D4.fresh (by rw [BH];simp) (fun y hy=>by simp at hy) (h3.fresh h1 w9)
       ·simp at hk3
     ·simp at Zk
    ·simp at h
 ·rename_i t1 l1 e i h0 zg
  cases hb:Nat.beq i ep with
  | false=>rw [hb] at h;simp at h
  | true=>
   rw [hb] at h;have hi:=zE hb;simp only [zD] at h;obtain ⟨hpe,OL⟩:=qC h;obtain rfl:=YA hpe;exact GA zg hi (fun v vZ _=>zq.heap.z6 id _ zg) OL
 ·simp at h
theorem SG (kp:gP P c.tt) {t:TypeId} {x y:Operand} (ho:o.op = .store t x y) (zq:zK c.ntmps g w a J) (h:y9 c J base o k=some r) (hK:jt c.ntmps k r g w J base true K):o.wp P a w K Q:=by
 simp only [y9,ho] at h;split at h
 ·rename_i av bv u hx hy hu Qn
  cases hb:(bv.val && u.sk.same bv.sk) with
  | false=>rw [hb] at h;simp at h
  | true=>
   rw [hb] at h;simp only [zD] at h;simp only [zA] at hb;have w7:=Sk.qw hb.2;have hT:=kp _ _ hu;obtain ⟨ex,efx⟩:=qG zq hx;obtain ⟨ey,efy⟩:=qG zq hy;obtain ⟨cs,zR,Qj,vL⟩:=ji hb.1 ey;have pO:cs.length=u.size:=by rw [zR.len,<-w7,Ty.zZ]
   unfold Rr at h;split at h
   ·rename_i id p ep;split at h
    ·simp at h
    ·rename_i s q;obtain ⟨t0,l0,Co⟩:=uS h;simp only [zl] at ex;obtain ⟨cs0,⟨v,rfl,qL,hv⟩,jb⟩:=ex;obtain ⟨hp,b0,yB,gy,gR⟩:=(hv _ _ _ Co).2 rfl;obtain ⟨t1,l1,u1,e1,b,off,cc,ee,BH,qv,hk,IA,kz,vZ,zH,zQ,qK,zX⟩:=uJ zq.heap hp h;obtain ⟨d,J1,g1,Zk,h1,h2,h3,pH⟩:=kA 20 zq.heap zR IA hk;have yC:=h3.st h1 zq;split at Zk
     ·rename_i t2 l2 e2 BF
      cases D2:Nat.beq e2 ep with
      | false=>rw [D2] at Zk;simp at Zk
      | true=>
       rw [D2] at Zk;have FD:=zE D2;subst FD;simp only [zD] at Zk;have gV:J1.z6 id=J.z6 id:=by
        rcases h3.z6 id with e | e
        ·exact e
        ·rw [e] at BF;simp at BF
       have zee:place g1 id (.sl true t0) [] 0 0 (s :: q)=some (b0,yB):=by
        exact (jS (g:=g) (g':=g1) (fun p=>by rw [h3.sv])).trans gy
       have zt0:t2=t0:=by
        rw [gV,Co] at BF;simp only [zI,Obj.row.injEq] at BF;exact BF.1.symm
       subst zt0
       cases s with
       | fst=>simp [jM] at Zk
       | snd=>simp [jM] at Zk
       | idx i=>
        obtain ⟨l',cc',ee',hf,HT,G4,zk1,Ge,qN⟩:=O4 yC.heap BF IA pH zee Zk;have hur:u1.size=u.size:=by rw [<-pH.len,pO]
        have zb:=pe (P:=P) (w:=w) hT G4 vL pO (by rw [<-hur];exact Ge) zR.one;have D4:=jP (w:=w) (g:=g1) (id:=id) (b0:=b0) (zU cc'.toList yB cs).toArray (.inl ⟨[],zk1⟩);have wY:=D4.st yC (o':=.row t2 l' e2) (.inr (.inl ⟨t2,l2,l',e2,e2,BF,rfl,.inr ⟨rfl,HT,fun _=>rfl⟩⟩)) qN;have uc:a.eval x = .pointer (some ⟨b0,yB,none⟩):=by rw [jb];exact gR
        refine wp_skip Qn ?_ wY (h3.ext.trans D4.ext) (fun m _ w9=>?_) h2 hf (fun h=>Bool.noConfusion h) hK
        ·simp [execOp,ho,uc,Instr.storeAt,Instr.sureAddr,zb]
        ·exact D4.fresh (by rw [BF];simp) (fun y hy=>by simp at hy) (h3.fresh h1 w9)
     ·simp at Zk
   ·rename_i id p;split at h
    ·rename_i whole zg;obtain ⟨hnt,h⟩:=Vv h;obtain ⟨cc,e,zQ,zH,hall⟩:=(zq.heap.z6 id _ zg).out hnt;obtain ⟨old,off,hk,ju,Qi,_⟩:=Z2 hall h
     cases hbo:old.sk.same bv.sk with
     | false=>rw [hbo] at hk;simp at hk
     | true=>
      rw [hbo] at hk;simp only [zD] at hk;have Ry:=Sk.qw hbo;rw [Ry] at ju;obtain ⟨Cy,GX,hws,z6l,gz⟩:=QV zR hall ju hk;simp only [zl] at ex;obtain ⟨cs0,⟨v,rfl,qL,hv⟩,jb⟩:=ex;obtain ⟨Vz,s,wD,gR⟩:=hv _ zg;rw [ju] at wD;simp only [zI,gB] at wD;obtain ⟨rfl,_⟩:=wD;have hle:=Sk.wU ju;have zlz:=hall.len;rw [vX] at zlz;have Qw:bv.sk.size=u.size:=by rw [<-w7,Ty.zZ]
      have zb:=pe (P:=P) (w:=w) (u:=u) (off:=off) hT zQ vL pO (by omega) zR.one;have D4:=jP (w:=w) (g:=g) (id:=id) (b0:=g.zt id) (zU cc.toList off cs).toArray (.inr zH);have pL:∀ i,qz g g i (J.z6 i) ((J.setObj id (.cell Cy)).z6 i):=by
       intro i;by_cases hi:i=id
       ·subst hi;simp only [St.setObj,zN];exact .inr (.inr (.inl ⟨whole,Cy,zg,rfl,hws,rfl⟩))
       ·simp only [St.setObj];rw [ze _ _ hi];exact qz.same (D4.same hi)
      have wY:=D4.st zq (o':=.cell Cy) (.inr (.inr (.inl ⟨whole,Cy,zg,rfl,hws,rfl⟩))) (by
       refine zm.mk ⟨(zU cc.toList off cs).toArray,e,setRow_heap w _ cc _ e _ zQ,zH,?_⟩;exact jV.frame D4.ro (fun i _=>pL i) z6l)
      have uc:a.eval x = .pointer (some ⟨g.zt id,off,none⟩):=by rw [jb];exact gR
      refine wp_skip (J:=J) Qn ?_ wY D4.ext (fun m _ w9=>?_) rfl GX (fun h=>Bool.noConfusion h) hK
      ·simp [execOp,ho,uc,Instr.storeAt,Instr.sureAddr,zb]
      ·refine D4.fresh (by rw [zg];simp) (fun y hy=>?_) w9;simp only [Obj.cell.injEq] at hy;subst hy;exact gz m (w9.cells _ _ zg) (efy m w9)
    ·simp at h
   ·rename_i id p ep;exact Ag ho Qn hT zq ex zR vL pO w7 h hK
   ·simp at h
 ·simp at h
end
end Go.Kz
namespace Go.Kz
variable {R:Type}
section
variable {P:Program} {o:Oper} {a:Act} {w:World} {K:Act->World->Prop} {Q:Exit->Act->World->Prop} {c:Ctx} {J:St} {g:z8} {k:St->Option R} {r:R} {base:Nat}
structure w5 (P:Program) (w:World) (g:z8) (t:Ty) (x:Value) (m:List t.den) (news:List Value):Prop where
 len:∀ w':World,w'.heap=w.heap->(Builtin.lenOf x).run P w' = .ok m.length w'
 cells:∀ w':World,w'.heap=w.heap->(Builtin.firstCells t.size m.length x).run P w' = .ok news.toArray w'
 pre:∀ n,n<=m.length->∀ w':World,w'.heap=w.heap->(Builtin.firstCells t.size n x).run P w' = .ok (news.take (n*t.size)).toArray w'
 length:news.length=m.length*t.size
 elts:∀ (i:Nat) (h:i < m.length),zC w g none t (m.get ⟨i,h⟩) (qB news (i*t.size) t.size)
 one:∀ v∈news,v.oneCell'=true
theorem GL {w w':World} (h:w'.heap=w.heap) (ad:Addr):w'.cell? ad=w.cell? ad:=by simp [World.cell?,h]
theorem w5.QF {t:Ty} {m:List t.den} {b off cap:Nat} {cc:Array Value} {e:TypeId} {fz:Nat×Nat} (hc:w.heap[b]? = some (.cells cc e fz)) (hs:off+m.length*t.size<=cc.size)
  (jo:∀ (i:Nat) (h:i < m.length),zC w g none t (m.get ⟨i,h⟩) (qB cc.toList (off+i*t.size) t.size)) :
  w5 P w g t (.slice (some ⟨b,off,none⟩) m.length cap) m (qB cc.toList off (m.length*t.size)):=by
 have hlen:(qB cc.toList off (m.length*t.size)).length=m.length*t.size:=yV (by rw [vX];exact hs);refine ⟨fun w' _=>rfl,fun w' GG=>?_,fun n hn w' GG=>?_,hlen,fun i hi=>?_,fun v hv=>?_⟩
 ·refine run_firstCells_some (P:=P) w' t.size m.length ⟨b,off,none⟩ m.length cap _ hlen (fun j v hv=>?_);rw [Addr.add_lit,GL GG,cell_of_row w b (off+j) cc e fz hc];simp only [qB,Z2v,Z27] at hv;split at hv
  ·simpa using hv
  ·simp at hv
 ·have Zw:n*t.size<=m.length*t.size:=kj _ hn;refine run_firstCells_some (P:=P) w' t.size n ⟨b,off,none⟩ m.length cap _ (by rw [P0,hlen];omega) (fun j v hv=>?_);rw [Addr.add_lit,GL GG,cell_of_row w b (off+j) cc e fz hc];simp only [qB,Z2v,Z27] at hv;split at hv
  ·split at hv
   ·simpa using hv
   ·simp at hv
  ·simp at hv
 ·have hmul:(i+1)*t.size<=m.length*t.size:=kj _ hi;rw [wz] at hmul;rw [gh _ _ _ _ _ (by omega)];exact jo i hi
 ·obtain ⟨j,hj,rfl⟩:=VI.1 hv;have v7:=hj;rw [hlen] at v7;have htz:0 < t.size:=by
   rcases Z3v t.size with hz | hz
   ·rw [hz] at v7;omega
   ·exact hz
  have hi:j / t.size < m.length:=Z3w (by rw [Z24];omega);have h1:=(jo _ hi).one;refine h1 _ ?_;have hm:=Z2w j htz;have hdm:=Z3x j t.size;have hmul:(j / t.size+1)*t.size<=m.length*t.size:=kj _ hi;rw [wz] at hmul;refine VI.2 ⟨j % t.size,?_,?_⟩
  ·rw [yV (by rw [vX];omega)];exact hm
  ·simp only [qB,Z38,Z3t];congr 1;rw [R4,Z24 (j / t.size),hdm]
theorem w5.of_nil {t:Ty} {b:Option Addr} {cap:Nat}:w5 P w g t (.slice b 0 cap) ([]:List t.den) []:=by
 have h0:∀ w':World,(Builtin.firstCells t.size 0 (.slice b 0 cap)).run P w' = .ok #[] w':=fun w'=>by
  cases b with
  | none=>simp [Builtin.firstCells]
  | some b=>simp [Builtin.firstCells,loadCells,loadCellsFrom]
 refine ⟨fun w' _=>rfl,fun w' _=>h0 w',fun n hn w' _=>?_,by simp,fun i h=>by simp at h,by simp⟩;have:n=0:=by simpa using hn
 subst this;simpa using h0 w'
theorem LO (w:World) (g:z8):zO w g w g:=⟨fun _ hb=>⟨hb,rfl⟩⟩
theorem w5.tree {k:Nat} {v:Value} {l:List (Rec k)} {news:List Value}:w5 P w g (.tree k) v l news↔w5 P w g (.pair (pn k) (pf k)) v (List.map (vq k) l) news:=by
 have hz:(Ty.tree k).size=(Ty.pair (pn k) (pf k)).size:=Uu k;have hl:(List.map (vq k) l).length=List.length l:=Jk ..;have jo:∀ (i:Nat) (h:i < List.length l) (h':i < (List.map (vq k) l).length) cs,zC w g none (.tree k) (List.get l ⟨i,h⟩) cs↔zC w g none (.pair (pn k) (pf k)) ((List.map (vq k) l).get ⟨i,h'⟩) cs:=fun i h h' cs=>by
  rw [zC.Vd];simp
 constructor
 ·rintro ⟨h1,h2,h3,h4,h5,h6⟩;refine ⟨?_,?_,?_,?_,fun i hi=>?_,h6⟩
  ·rw [hl];exact h1
  ·rw [hl,<-hz];exact h2
  ·rw [hl,<-hz];exact h3
  ·rw [hl,<-hz];exact h4
  ·have vf:i < List.length l:=by rw [<-hl];exact hi
   have:=(jo i vf hi _).1 (h5 i vf);rw [hz] at this;exact this
 ·rintro ⟨h1,h2,h3,h4,h5,h6⟩;rw [hl] at h1 h2 h3 h4;rw [<-hz] at h2 h3 h4;refine ⟨h1,h2,h3,h4,fun i hi=>?_,h6⟩;have vf:i < (List.map (vq k) l).length:=by rw [hl];exact hi
  have:=(jo i hi vf _).2 (h5 i vf);rw [<-hz] at this;exact this
theorem Xu {a b:Ty} {l:List a.den} {f:List b.den->Option R} {r:R} (h:Z3 (.sl false a) (.sl false b) l f=some r):∃ m,f m=some r/\∀ v news,w5 P w g a v l news->w5 P w g b v m news:=by
 unfold Z3 at h;split at h
 ·rename_i j x y l' k' h1 h2 h3 h4;simp only [Ty.sl.injEq,VL] at h1 h2;subst h1;subst h2;cases h3;cases h4;obtain ⟨e,h⟩:=qS h;cases e;exact ⟨_,h,fun v news hr=>w5.tree.1 hr⟩
 ·rename_i x y j l' k' h1 h2 h3 h4;simp only [Ty.sl.injEq,VL] at h1 h2;subst h1;subst h2;cases h3;cases h4;obtain ⟨e,h⟩:=qS h;cases e;refine ⟨_,h,fun v news hr=>w5.tree.2 ?_⟩;rw [Ue];exact hr
 ·obtain ⟨e,h⟩:=qS h;cases e;exact ⟨_,h,fun _ _ hr=>hr⟩
theorem YJ (hh:yZ w g J.z6) {x:z7} {v:Value} {t:Ty} {f:List t.den->Option R} (ht:t.zV=true) (hx:zl w g J.z6 x v) (h:asData J 20 x (.sl false t) f=some r) (hval:x.val=true) (OE:x.IU=false) :
  ∃ m news,f m=some r/\w5 P w g t v m news:=by
 cases x with
 | data t' d=>
  simp only [asData] at h;simp only [zl] at hx;obtain ⟨cs,⟨qv,zX⟩,hv⟩:=hx;have w7:=Qs h;obtain ⟨d,h,_,hF⟩:=vV h qv;obtain ⟨b,cap,rfl,h1,h2,h3⟩:=hF _ _ _ zX;simp only [z7.isAgg,z7.sk,w7,Ty.sk] at hv;have jb:v = .slice b (List.length d) cap:=hv;subst jb;refine ⟨d,?_⟩;by_cases hn:d=[]
  ·subst hn;exact ⟨[],h,w5.of_nil⟩
  ·obtain ⟨bk,off,cc,e,fz,rfl,zH,zQ,qK,jo⟩:=h3 hn
   exact ⟨_,h,w5.QF zQ qK jo⟩
 | qy=>
  simp only [asData] at h;have hv:=Ze.1 hx;subst hv;have h':f []=some r:=by
   have:(Ty.sl false t).zV=true:=by simp [Ty.zV,ht]
   rw [this] at h;exact h
  exact ⟨[],[],h',w5.of_nil⟩
 | ref id p ep=>
  simp only [asData] at h;obtain ⟨t',l,zg,rfl,qv,h⟩:=wE hh h;rw [Ve] at h;replace h:=Xu (P:=P) (w:=w) (g:=g) (a:=t'.ro) h;obtain ⟨m,h,hT⟩:=h;simp only [zl] at hx;obtain ⟨cs,⟨x,rfl,_,hv⟩,jb⟩:=hx;have e1:=(hv _ _ _ zg).2 rfl;obtain ⟨b,cap,_,qT,h1,h2,h3⟩:=(hh.z6 _ _ zg).2;have gR:v = .slice b l.length cap:=by rw [<-qT,<-e1];exact jb
  subst gR;rcases h3 with ⟨rfl,hl,rfl⟩ | ⟨bk,off,cc,e,rfl,zH,zQ,qK,jo⟩
  ·subst hl;exact ⟨m,[],h,hT _ _ w5.of_nil⟩
  ·refine ⟨m,qB cc.toList off (l.length*t'.ro.size),h,hT _ _ ?_⟩;have AP:(l.map (Ty.kZ t')).length=l.length:=by simp
   have Q8:l.length*t'.size<=cap*t'.size:=kj _ h1;have:=w5.QF (P:=P) (w:=w) (g:=g) (t:=t'.ro) (m:=l.map (Ty.kZ t')) (b:=bk) (off:=off) (cap:=cap) zQ (by rw [AP,Ty.qH];omega) (fun i hi=>by
    have vf:i < l.length:=by rw [AP] at hi;exact hi
    have hf:=zC.freeze (LO w g) (o:=none) trivial (zC.qt (o':=none) qv (jo i vf));simp only [HV,Np,Ty.qH] at hf ⊢;exact hf)
   rw [AP] at this
   exact this
 | view id p ep av bv=>
  simp only [asData] at h;obtain ⟨t',l,zg,rfl,qv,h⟩:=wE hh h;rw [Ve] at h;replace h:=Xu (P:=P) (w:=w) (g:=g) (a:=t'.ro) h;obtain ⟨m,h,hT⟩:=h;simp only [zl] at hx;obtain ⟨cs,⟨x,rfl,_,hv⟩,jb⟩:=hx;obtain ⟨_,h0,KY,JW,e1⟩:=(hv _ _ _ zg).2 rfl;obtain ⟨b,cap,_,qT,h1,h2,h3⟩:=(hh.z6 _ _ zg).2;have gR:v=jz (.slice b l.length cap) t'.size av bv:=by rw [<-qT,<-e1];exact jb
  have Fx:=uP l av bv h0 KY JW;have AP:((sub l av bv).map (Ty.kZ t')).length=(bv-av).toNat:=by rw [Jk,Fx];omega
  by_cases hz:(bv-av).toNat=0
  ·have TN:(sub l av bv).map (Ty.kZ t')=[]:=Z2h (AP.trans hz);refine ⟨m,[],h,hT _ _ ?_⟩;rw [TN,gR];simp only [jz,hz];exact w5.of_nil
  ·rcases h3 with ⟨rfl,hl,rfl⟩ | ⟨bk,off,cc,e,rfl,zH,zQ,qK,jo⟩
   ·rw [hl] at JW;simp at JW;omega
   ·refine ⟨m,qB cc.toList (off+av.toNat*t'.size) ((bv-av).toNat*t'.ro.size),h,hT _ _ ?_⟩;have Q8:(av.toNat+(bv-av).toNat)*t'.size<=cap*t'.size:=kj _ (by omega);rw [wz] at Q8;have:=w5.QF (P:=P) (w:=w) (g:=g) (t:=t'.ro) (m:=(sub l av bv).map (Ty.kZ t')) (b:=bk) (off:=off+av.toNat*t'.size) (cap:=cap-av.toNat) zQ (by rw [AP,Ty.qH];omega) (fun i hi=>by
     have G2:i < (sub l av bv).length:=by simpa using hi
     have Jd:av.toNat+i < l.length:=by omega
     have hf:=zC.freeze (LO w g) (o:=none) trivial (zC.qt (o':=none) qv (jo _ Jd));have hg:=Vf l av bv i G2 Jd;rw [HV] at hg;rw [HV,Np,hg,Ty.qH];have e3:off+av.toNat*t'.size+i*t'.size=off+(av.toNat+i)*t'.size:=by rw [wz];omega
     rw [e3];exact hf)
    rw [AP] at this;rw [gR];simp only [jz];rw [qQ (by omega)];simp only [Z2o,Addr.add_lit]
    exact this
 | agg c=>cases c <;> simp [z7.val] at hval <;> simp [asData] at h
 | nv pt id p ep=>simp [z7.IU] at OE
 | _=>simp [asData] at h
theorem pX {T E:TypeId} {t u:Ty} (qg:P.underlying T=some (.slice E)) (hE:yF P E u) (Qd:u.size=t.size) {ty:TypeId} {b off n cap:Nat} {cc:Array Value} {e:TypeId} {x:Value} {m:List t.den} {news:List Value}
  (hc:w.heap[b]? = some (.cells cc e (0,0))) (ht:w5 P w g t x m news) (kS:n+m.length<=cap) (qK:off+cap*t.size<=cc.size) :
  (Builtin.append_ #[T,T] ty #[.slice (some ⟨b,off,none⟩) n cap,x]).run P w = .ok (.slice (some ⟨b,off,none⟩) (n+m.length) cap) (w.setRow b (zU cc.toList (off+n*t.size) news).toArray):=by
 have hs:=hE.sizeOf w;rw [Qd] at hs;have h1:=ht.len w rfl;have h2:=ht.cells w rfl;have hmul:(n+m.length)*t.size<=cap*t.size:=kj _ kS;rw [wz] at hmul;have zq:=run_storeCells_at P b (off+n*t.size) e news 0 cc w hc (by rw [ht.length];omega) ht.one;simp only [RG] at zq;simp [Builtin.append_,run_underlying qg,hs,h1,kS,h2,Addr.add_lit,zq,zU]
theorem pP {T E:TypeId} {t u:Ty} (qg:P.underlying T=some (.slice E)) (hE:yF P E u) (Qd:u.size=t.size) {ty:TypeId} {x:Value} {news:List Value} (ht:w5 P w g t x ([]:List t.den) news) :
  (Builtin.append_ #[T,T] ty #[.slice none 0 0,x]).run P w = .ok (.slice none 0 0) w:=by
 have hs:=hE.sizeOf w;rw [Qd] at hs;have h1:=ht.len w rfl;have h2:=ht.cells w rfl;simp only [He] at h1 h2;simp [Builtin.append_,run_underlying qg,hs,h1,h2]
theorem pU {T E:TypeId} {t u:Ty} (qg:P.underlying T=some (.slice E)) (hE:yF P E u) (Qd:u.size=t.size) {ty:TypeId} {b:Option Addr} {n cap:Nat} {x:Value} {m:List t.den} {news kr:List Value}
  (ht:w5 P w g t x m news) (kS:cap < n+m.length) (AD:n+m.length<=4294967296)
  (hold:∀ w':World,w'.heap=w.heap->(Builtin.firstCells t.size n (.slice b n cap)).run P w' = .ok kr.toArray w') :
  ∃ zs,(Builtin.append_ #[T,T] ty #[.slice b n cap,x]).run P w = .ok (.slice (some ⟨w.heap.size,0,none⟩) (n+m.length) (grownCap w (n+m.length) cap E))
   (w.drew.alloc (.cells (kr.toArray++news.toArray++zs) E))/\zs.size=(grownCap w (n+m.length) cap E-(n+m.length))*t.size:=by
 obtain ⟨i,z,G2,Jd,AX,Rk,Rw,hi6⟩:=hE.info;rw [Qd] at Jd;have h1:=ht.len w rfl;have h2:=ht.cells w.drew rfl;have h3:=hold w.drew rfl;have hn:¬ (n+m.length<=cap):=by omega
 have Mp:(n+m.length)*i.bytes<=4294967296*32768:=Nat.mul_le_mul AD AX;have hfit:=growslice_fits (need:=n+m.length) (old:=cap) (bytes:=i.bytes) kS (by omega);have zv8:¬ (281474976710656 < Builtin.nextslicecap (n+m.length) cap*i.bytes):=by omega
 have zv6:¬ (9223372036854775807 < ((n:Int)+(m.length:Int))):=by omega
 refine ⟨Builtin.zeroCells z.cells (grownCap w (n+m.length) cap E-(n+m.length)),?_,?_⟩
 ·rw [<-Jd] at h2 h3;simp [Builtin.append_,run_underlying qg,Go.sizeOf,typeInfo,zeroValue,G2,Rk,h1,hn,zv6,zv8,Question.forced,h2,h3,newRow,grownCap];rw [show (kr++news).toArray=kr.toArray++news.toArray from by simp,Array.append_assoc]
 ·rw [size_zeroCells,<-vX,Rw,qm,Qd]
end
end Go.Kz
namespace Go.Kz
variable {R:Type}
theorem ur (l:List Value) (off:Nat) (x:List Value) (j n:Nat) (h:j+n<=x.length) (hl:off+x.length<=l.length):qB (zU l off x) (off+j) n=qB x j n:=by
 rw [<-gh _ off x.length j n h,pK _ _ _ hl]
section
variable {w:World} {g:z8} {J:St} {o:Obj} {m:Nat} {tg:Tag} {v:Value}
theorem zK.p9 {n:Nat} {a:Act} {w':World} {g':z8} {id:Nat} (zq:zK n g w a J) (hr:zO w g w' g') (hs:∀ i,i≠id->Zj w g w' g' i)
  (hk:qz g g' id (J.z6 id) (some o)\/zY g J id) (zg:zm w' g' (J.setObj id o).z6 id o) (ht:∀ b,g'.tag b≠.zn->b < w'.heap.size):zK n g' w' a (J.setObj id o):=by
 have zeh:∀ i,i≠id->qz g g' i (J.z6 i) ((J.setObj id o).z6 i):=by
  intro i hi;simp only [St.setObj];rw [ze _ _ hi];exact qz.same (hs i hi)
 have hme:∀ i,(zY g J id->i≠id)->qz g g' i (J.z6 i) ((J.setObj id o).z6 i):=by
  intro i hi;by_cases he:i=id
  ·subst he;rcases hk with hk | hk
   ·simp only [St.setObj,zN];exact hk
   ·exact absurd rfl (hi hk)
  ·exact zeh i he
 refine ⟨fun i av hi=>?_,⟨fun i x hx=>?_,ht⟩,zq.size,zq.defers,zq.known.kept hr⟩
 ·obtain ⟨u,hu,zR⟩:=zq.zj i av hi;refine ⟨u,hu,zl.frame hr (fun j hj=>hme j (fun hf he=>?_)) zR⟩;subst he;exact hf.zj i av hi hj
 ·by_cases hi:i=id
  ·subst hi;simp only [St.setObj,zN,zI] at hx;subst hx;exact zg
  ·have Gd:J.z6 i=some x:=by simpa [St.setObj,ze _ _ hi] using hx
   refine zm.frame hr (hs i hi) (fun y hy j hj=>hme j (fun hf he=>?_)) (zq.heap.z6 i x Gd);subst he;subst hy;exact hf.cells i y Gd hj
theorem zY.p9 {g':z8} {id:Nat} (ht:∀ b,g'.tag b=g.tag b\/∃ p,g'.tag b = .row id p) (hm:m≠id) (ho:∀ y,o≠.cell y) (hf:zY g J m):zY g' (J.setObj id o) m:=by
 refine ⟨by simp only [St.setObj];rw [ze _ _ hm];exact hf.z6,fun b p hb=>?_,fun b hb=>?_,hf.zj,fun i av hi=>?_⟩
 ·rcases ht b with h | ⟨q,h⟩
  ·rw [h] at hb;exact hf.row b p hb
  ·rw [h] at hb;simp only [Tag.row.injEq] at hb;exact hm hb.1.symm
 ·rcases ht b with h | ⟨q,h⟩
  ·rw [h] at hb;exact hf.box b hb
  ·rw [h] at hb;simp at hb
 ·by_cases he:i=id
  ·subst he;simp only [St.setObj,zN,zI] at hi;exact absurd hi (ho av)
  ·simp only [St.setObj] at hi;rw [ze _ _ he] at hi;exact hf.cells i av hi
def pz (g:z8) (id:Nat) (v:Value):z8:={ g with sv:=fun i p=>if i=id then v else g.sv i p }
theorem Qx {id i:Nat} (h:i≠id):Zj w g w (pz g id v) i:=
 ⟨⟨fun q=>by simp [pz,h],fun _ b hb=>⟨hb,rfl⟩⟩,rfl,fun hb=>⟨hb,rfl⟩⟩
theorem zK.VJ {n:Nat} {a:Act} {w':World} (h:w'.heap=w.heap) (zq:zK n g w a J):zK n g w' a J:=by
 have hr:zO w g w' g:=⟨fun b hb=>⟨hb,by rw [h]⟩⟩;have hs:∀ id,Zj w g w' g id:=fun id=>⟨⟨fun _=>rfl,fun _ b hb=>⟨hb,by rw [h]⟩⟩,rfl,fun hb=>⟨hb,by rw [h]⟩⟩
 have hk:∀ id,qz g g id (J.z6 id) (J.z6 id):=fun id=>qz.refl g id _
 refine ⟨fun i av hi=>?_,⟨fun id x hx=>?_,fun b hb=>?_⟩,zq.size,zq.defers,zq.known.kept hr⟩
 ·obtain ⟨u,hu,zR⟩:=zq.zj i av hi;exact ⟨u,hu,zl.frame hr (fun id _=>hk id) zR⟩
 ·exact zm.frame hr (hs id) (fun _ _ vu _=>hk vu) (zq.heap.z6 id x hx)
 ·rw [h];exact zq.heap.tags b hb
theorem Ext.VJ {w':World} (h:w'.heap=w.heap) (ho:w'.os=w.os) (ht:w'.tape=w.tape) (hp:w'.output=w.output) (hd:w.drawn<=w'.drawn):Ext w g w' g:=
 ⟨ho,ht,hp,hd,by rw [h];exact yS _,fun b _ _=>⟨by rw [h],rfl⟩⟩
end
section
variable {P:Program} {o:Oper} {a:Act} {w:World} {K:Act->World->Prop} {Q:Exit->Act->World->Prop} {c:Ctx} {J:St} {g:z8} {k:St->Option R} {r:R} {base:Nat} {mo:Bool}
theorem jB {J':St} {g':z8} {w':World} {av:z7} {v:Value} (zb:(execOp a.eval o).run P w = .ok (.value v) w') (zq:zK c.ntmps g' w' a J') (qM:Ext w g w' g')
  (vQ:∀ m,(m < base\/base+8<=m)->zY g J m->zY g' J' m/\m∉av.ids) (hn:J'.next=J.next) (hv:zl w' g' J'.z6 av v)
  (h:J'.qe c o.dst av k=some r) (vl:mo=false->jT w w') (hK:jt c.ntmps k r g w J base mo K):o.wp P a w K Q:=by
 unfold Oper.wp;rw [zb,Oper.upon_value];rcases gM h with ⟨hd,hk⟩ | ⟨i,hd,hi,hk⟩
 ·rw [hd];exact hK J' g' a w' hk zq qM (fun m hm hf=>(vQ m hm hf).1) hn vl
 ·rw [hd];exact hK _ g' _ w' hk (zq.put hi hv) qM (fun m hm hf=>(vQ m hm hf).1.set i (vQ m hm hf).2) hn vl
theorem ug {z6:qk} {u:Ty} {l:List u.den} {v:Value} {ep id:Nat} (ho:z6 id=some (.row u l ep)) (qT:v=g.sv id []) (qL:v.oneCell'=true) :
  zl w g z6 (.ref id [] ep) v:=by
 simp only [zl];refine ⟨_,⟨v,rfl,qL,fun t l' e hx=>?_⟩,rfl⟩;rw [ho] at hx;simp only [zI,Obj.row.injEq] at hx;obtain ⟨_,_,rfl⟩:=hx;exact ⟨yS _,fun _=>qT⟩
theorem gH {t:Ty} {x:z7} {f:List t.den->Option R} (h:GQ J t x f=some r):t.zV=true/\x.val=true/\asData J 20 x (.sl false t) f=some r/\x.IU=false:=by
 unfold GQ at h
 cases hb:(t.zV && x.val && !x.IU) with
 | false=>rw [hb] at h;simp at h
 | true=>
  rw [hb] at h;simp only [zA,A1] at hb;exact ⟨hb.1.1,hb.1.2,h,hb.2⟩
theorem ET {t:Ty} {l m:List t.den} {b off cap:Nat} {cc:Array Value} {news:List Value} {e:TypeId} {x:Value} {id:Nat} {w:World} {g g':z8}
  (qv:t.zV=true) (yY:w5 P w g t x m news) (kS:l.length+m.length<=cap) (qK:off+cap*t.size<=cc.size)
  (zQ:w.heap[b]? = some (.cells cc e (0,0)))
  (jo:∀ (i:Nat) (h:i < l.length),zC w g none t (l.get ⟨i,h⟩) (qB cc.toList (off+i*t.size) t.size))
  (hr:zO w g (w.setRow b (zU cc.toList (off+l.length*t.size) news).toArray) g') (i:Nat) (h:i < (l++m).length) :
  zC (w.setRow b (zU cc.toList (off+l.length*t.size) news).toArray) g' none t ((l++m).get ⟨i,h⟩) (qB (zU cc.toList (off+l.length*t.size) news) (off+i*t.size) t.size):=by
 have hcc:cc.toList.length=cc.size:=vX;have hmul:(l.length+m.length)*t.size<=cap*t.size:=kj _ kS;rw [wz] at hmul;have FV:=yY.length;have hi:i < l.length+m.length:=by simpa using h
 by_cases Ex:i < l.length
 ·have h3:(i+1)*t.size<=l.length*t.size:=kj _ Ex;rw [wz] at h3;rw [jj _ _ _ _ _ (by omega) (by rw [hcc];omega)];have:=(jo i Ex).kept hr;simp only [HV] at this ⊢;rw [Z55 Ex];exact this
 ·obtain ⟨j,rfl⟩:∃ j,i=l.length+j:=⟨i-l.length,by omega⟩;have hj:j < m.length:=by omega
  have h3:(j+1)*t.size<=m.length*t.size:=kj _ hj;rw [wz] at h3;have e1:off+(l.length+j)*t.size=(off+l.length*t.size)+j*t.size:=by rw [wz];omega
  rw [e1,ur _ _ _ _ _ (by omega) (by omega)];have:=(yY.elts j hj).kept hr;simp only [HV] at this ⊢;rw [List.getElem_append_right (by omega)];simpa using this
theorem O5 {t:Ty} {l m:List t.den} {kr news:List Value} {zs:Array Value} {x:Value} {w w':World} {g g':z8}
  (yY:w5 P w g t x m news) (ho:kr.length=l.length*t.size)
  (jo:∀ (i:Nat) (h:i < l.length),zC w g none t (l.get ⟨i,h⟩) (qB kr (i*t.size) t.size)) (hr:zO w g w' g') (i:Nat) (h:i < (l++m).length) :
  zC w' g' none t ((l++m).get ⟨i,h⟩) (qB (kr.toArray++news.toArray++zs).toList (i*t.size) t.size):=by
 have FV:=yY.length;have hi:i < l.length+m.length:=by simpa using h
 have e0:(kr.toArray++news.toArray++zs).toList=kr++(news++zs.toList):=by simp
 rw [e0];by_cases Ex:i < l.length
 ·have h3:(i+1)*t.size<=l.length*t.size:=kj _ Ex;rw [wz] at h3;rw [qd _ _ _ _ (by omega)];have:=(jo i Ex).kept hr;simp only [HV] at this ⊢;rw [Z55 Ex];exact this
 ·obtain ⟨j,rfl⟩:∃ j,i=l.length+j:=⟨i-l.length,by omega⟩;have hj:j < m.length:=by omega
  have h3:(j+1)*t.size<=m.length*t.size:=kj _ hj;rw [wz] at h3;rw [wz,y8 _ _ _ _ _ ho.symm,qd _ _ _ _ (by omega)];have:=(yY.elts j hj).kept hr;simp only [HV] at this ⊢;rw [List.getElem_append_right (by omega)];simpa using this
theorem Y6 {T E:TypeId} {t u:Ty} (qg:P.underlying T=some (.slice E)) (hE:yF P E u) (Qd:u.size=t.size) (ht:∀ b,g.tag b≠.zn->b < w.heap.size) (qv:t.zV=true)
  {ty:TypeId} {b:Option Addr} {cap:Nat} {l m:List t.den} {kr news:List Value} {x:Value} (hold:w5 P w g t (.slice b l.length cap) l kr) (yY:w5 P w g t x m news)
  (kS:cap < l.length+m.length) (AD:l.length+m.length<=4294967296) (z6:qk) (id ep:Nat) :
  ∃ cells pD,(Builtin.append_ #[T,T] ty #[.slice b l.length cap,x]).run P w = .ok (.slice (some ⟨w.heap.size,0,none⟩) (l.length+m.length) pD) (w.drew.alloc (.cells cells E))/\
   zm (w.drew.alloc (.cells cells E)) (qI g w.heap.size id (.row id []) (.slice (some ⟨w.heap.size,0,none⟩) (l.length+m.length) pD)) z6 id (.row t (l++m) ep):=by
 obtain ⟨zs,zb,Gc⟩:=pU (ty:=ty) qg hE Qd yY kS AD (fun w' GG=>hold.cells w' GG);refine ⟨_,_,zb,?_⟩;have hlen:(l++m).length=l.length+m.length:=by simp
 have AA:=grownCap_ge w (l.length+m.length) cap E;have:=CV (w:=w.drew) (g:=g) (base:=id) (u:=t) (l:=l++m) (cells:=kr.toArray++news.toArray++zs) (e:=E) (cap:=grownCap w (l.length+m.length) cap E) ht qv
  (by rw [hlen];exact AA) (grownCap_le_maxLen w (l.length+m.length) cap E (by unfold maxLen;omega))
  (by
   have h1:=hold.length;have h2:=yY.length;simp only [Z56,Z26,Gc,h1,h2];rw [<-wz,<-wz];exact kj _ (by omega))
  (fun i hi=>O5 yY hold.length hold.elts (w':=w.drew) (g':=g) ⟨fun b hb=>⟨hb,rfl⟩⟩ i hi) z6 ep
 rw [hlen] at this;exact this
theorem yN {x y:Operand} {args:Array Operand} {ts:Array TypeId} {t:TypeId} {v:Value} {w':World} (ho:o.op = .call { callee:=.builtin .append,args:=args,argTypes:=ts }) (ha:args.toList=[x,y]) (ht:ts.toList=[t,t])
  (h:∀ ty,(Builtin.append_ #[t,t] ty #[a.eval x,a.eval y]).run P w = .ok v w'):(execOp a.eval o).run P w = .ok (.value v) w':=by
 have e1:args = #[x,y]:=by apply Dr.1;simpa using ha
 have e2:ts = #[t,t]:=by apply Dr.1;simpa using ht
 subst e1;subst e2;simp [execOp,ho,resolve,invoke,builtin,h]
end
end Go.Kz
namespace Go.Kz
variable {R:Type}
section
variable {P:Program} {o:Oper} {a:Act} {w:World} {K:Act->World->Prop} {Q:Exit->Act->World->Prop} {c:Ctx} {J:St} {g:z8} {k:St->Option R} {r:R} {base:Nat} {mo:Bool}
theorem XR {m:Nat} {tg:Tag} {v:Value} (ht:∀ b,g.tag b≠.zn->b < w.heap.size) (ob:Go.Obj):zO w g (w.drew.alloc ob) (qI g w.heap.size m tg v):=
 ⟨fun b hb=>(gn (w:=w.drew) ht ob).zt b hb⟩
theorem VA {m:Nat} {tg:Tag} {v:Value} (ht:∀ b,g.tag b≠.zn->b < w.heap.size) (ob:Go.Obj) {id:Nat} (hid:id≠m):Zj w g (w.drew.alloc ob) (qI g w.heap.size m tg v) id:=
 let h:=xa (w:=w.drew) (g:=g) (m:=m) (tg:=tg) (v:=v) ht ob hid
 ⟨⟨h.row.sv,h.row.zt⟩,h.zt,h.box⟩
theorem Gj {m:Nat} {tg:Tag} {v:Value} (ht:∀ b,g.tag b≠.zn->b < w.heap.size) (ob:Go.Obj):Ext w g (w.drew.alloc ob) (qI g w.heap.size m tg v):=
 let h:=xb (w:=w.drew) (g:=g) (m:=m) (tg:=tg) (v:=v) ht ob
 ⟨h.os,h.tape,h.output,Z1e (Z1o _) h.drawn,h.size,h.vj⟩
theorem F3 {id:Nat} {t:Ty} {l:List t.den} {e:Nat} (zg:zm w g J.z6 id (.row t l e)) :
  ∃ b cap kr,g.sv id [] = .slice b l.length cap/\l.length<=cap/\cap<=maxLen/\w5 P w g t (.slice b l.length cap) l kr/\
   ((b=none/\l=[]/\cap=0)\/∃ bk off cc ee,b=some ⟨bk,off,none⟩/\g.tag bk = .row id []/\w.heap[bk]? = some (.cells cc ee (0,0))/\off+cap*t.size<=cc.size/\
    ∀ (i:Nat) (h:i < l.length),zC w g none t (l.get ⟨i,h⟩) (qB cc.toList (off+i*t.size) t.size)):=by
 obtain ⟨qv,b,cap,_,qT,h1,h2,h3⟩:=zg;rcases h3 with ⟨rfl,hl,rfl⟩ | ⟨bk,off,cc,ee,rfl,zH,zQ,qK,jo⟩
 ·subst hl;exact ⟨none,0,[],qT,h1,h2,w5.of_nil,.inl ⟨rfl,rfl,rfl⟩⟩
 ·have Q8:l.length*t.size<=cap*t.size:=kj _ h1;have Tt:∀ (i:Nat) (h:i < l.length),zC w g none t (l.get ⟨i,h⟩) (qB cc.toList (off+i*t.size) t.size):=fun i hi=>zC.qt qv (jo i hi)
  exact ⟨_,cap,qB cc.toList off (l.length*t.size),qT,h1,h2,w5.QF zQ (by omega) Tt,.inr ⟨bk,off,cc,ee,rfl,zH,zQ,qK,Tt⟩⟩
theorem VE {args:Array Operand} {ts:Array TypeId} {x y:Operand} {t E:TypeId} {t1 u:Ty} {l m:List t1.den} {e id:Nat} {news:List Value}
  (ho:o.op = .call { callee:=.builtin .append,args:=args,argTypes:=ts }) (hargs:args.toList=[x,y]) (pB:ts.toList=[t,t])
  (qg:P.underlying t=some (.slice E)) (vk:yF P E u) (Qd:u.size=t1.size) (zq:zK c.ntmps g w a J) (wi:J.z6 id=some (.row t1 l e)) (Hb:a.eval x=g.sv id [])
  (qv:t1.zV=true) (yY:w5 P w g t1 (a.eval y) m news) (Ja:l.length+m.length<=4294967296)
  (h:(J.setObj id (.row t1 (l++m) (e+1))).qe c o.dst (.ref id [] (e+1)) k=some r) (hK:jt c.ntmps k r g w J base true K):o.wp P a w K Q:=by
 obtain ⟨b,cap,kr,qT,Gi,Gm,hold,wC⟩:=F3 (P:=P) (zq.heap.z6 _ _ wi);have Mj:a.eval x = .slice b l.length cap:=by rw [<-qT];exact Hb
 have gz:∀ n,zY g J n->n≠id:=by
  intro n hn he;subst he;have:=hn.z6;rw [wi] at this;simp at this
 have vQ:∀ n,zY g J n->n∉(z7.ref id [] (e+1)).ids:=by
  intro n hn;simp only [z7.ids,EY];exact gz n hn
 have hk0:∀ g':z8,qz g g' id (J.z6 id) (some (.row t1 (l++m) (e+1))):=fun g'=>.inr (.inl ⟨t1,l,l++m,e,e+1,wi,rfl,.inl (by omega)⟩)
 by_cases FW:cap < l.length+m.length
 ·obtain ⟨cells,pD,pw,zg⟩:=Y6 (P:=P) (ty:=0) qg vk Qd zq.heap.tags qv hold yY FW (by omega) (J.setObj id (.row t1 (l++m) (e+1))).z6 id (e+1);have zb:=yN (P:=P) ho hargs pB (fun ty=>by rw [Mj];exact pw);refine jB (g:=g) (base:=base) (J':=J.setObj id (.row t1 (l++m) (e+1))) (g':=qI g w.heap.size id (.row id []) (.slice (some ⟨w.heap.size,0,none⟩) (l.length+m.length) pD)) zb ?_ ?_ (fun n hn hfn=>⟨zY.p9 (g:=g) (fun b=>?_) (gz n hfn) (by simp) hfn,vQ n hfn⟩) rfl ?_ h (fun h=>Bool.noConfusion h) hK
  ·refine zq.p9 (XR zq.heap.tags _) (fun i hi=>VA zq.heap.tags _ hi) (.inl (hk0 _)) zg ?_;intro b hb;simp only [qI] at hb;split at hb
   ·rename_i he;subst he;simp
   ·have:=zq.heap.tags b hb;simp;omega
  ·exact Gj zq.heap.tags _
  ·simp only [qI];by_cases he:b=w.heap.size
   ·right;exact ⟨[],by simp [he]⟩
   ·left;simp [he]
  ·exact ug (u:=t1) (l:=l++m) (by simp [St.setObj,zN]) (by simp [qI]) rfl
 ·have hle:l.length+m.length<=cap:=by omega
  rcases wC with ⟨rfl,hl,rfl⟩ | ⟨bk,off,cc,ee,rfl,zH,zQ,qK,jo⟩
  ·subst hl;have hm:m=[]:=Z2h (by simpa using hle);subst hm;have zb:=yN (P:=P) (v:=.slice none 0 0) (w':=w) ho hargs pB (fun ty=>by rw [Mj];exact pP (ty:=ty) qg vk Qd yY);refine jB (g:=g) (base:=base) (J':=J.setObj id (.row t1 ([]++[]) (e+1))) (g':=pz g id (.slice none 0 0)) zb ?_ ?_ (fun n hn hfn=>⟨zY.p9 (g:=g) (fun b=>.inl rfl) (gz n hfn) (by simp) hfn,vQ n hfn⟩) rfl ?_ h (fun h=>Bool.noConfusion h) hK
   ·refine zq.p9 ⟨fun b hb=>⟨hb,rfl⟩⟩ (fun i hi=>Qx hi) (.inl (hk0 _)) ?_ zq.heap.tags;exact ⟨qv,none,0,by simp [pz],by simp [pz],yS _,jE _,.inl ⟨rfl,rfl,rfl⟩⟩
   ·exact ⟨rfl,rfl,rfl,yS _,yS _,fun b _ _=>⟨rfl,rfl⟩⟩
   ·exact ug (u:=t1) (l:=([]++[]:List t1.den)) (by simp [St.setObj,zN]) (by simp [pz]) rfl
  ·have zb:=yN (P:=P) ho hargs pB (fun ty=>by rw [Mj];exact pX (ty:=ty) qg vk Qd zQ yY hle qK);have FV:=yY.length;have hmul:(l.length+m.length)*t1.size<=cap*t1.size:=kj _ hle;rw [wz] at hmul;have hcc:cc.toList.length=cc.size:=vX;have gS:zO w g (w.setRow bk (zU cc.toList (off+l.length*t1.size) news).toArray) (pz g id (.slice (some ⟨bk,off,none⟩) (l.length+m.length) cap)):=by
    refine ⟨fun b hb=>⟨hb,setRow_other w bk b _ ?_⟩⟩;intro he;subst he;rw [zH] at hb;simp at hb
   refine jB (g:=g) (base:=base) (J':=J.setObj id (.row t1 (l++m) (e+1))) (g':=pz g id (.slice (some ⟨bk,off,none⟩) (l.length+m.length) cap)) zb ?_ ?_ (fun n hn hfn=>⟨zY.p9 (g:=g) (fun b=>.inl rfl) (gz n hfn) (by simp) hfn,vQ n hfn⟩) rfl ?_ h (fun h=>Bool.noConfusion h) hK
   ·refine zq.p9 gS (fun i hi=>?_) (.inl (hk0 _)) ?_ ?_
    ·refine ⟨⟨fun q=>by simp [pz,hi],fun q b hb=>⟨hb,setRow_other w bk b _ ?_⟩⟩,rfl,fun hb=>⟨hb,setRow_other w bk _ _ ?_⟩⟩
     ·intro he;subst he;rw [zH] at hb;simp only [Tag.row.injEq] at hb;exact hi hb.1.symm
     ·intro he;rw [he,zH] at hb;simp at hb
    ·refine ⟨qv,some ⟨bk,off,none⟩,cap,by simp [pz],by simp [pz],by simpa using hle,Gm,.inr ⟨bk,off,_,ee,rfl,zH,setRow_heap w bk cc _ ee _ zQ,?_,fun i hi=>?_⟩⟩
     ·rw [Z26,yM _ _ _ (by omega),hcc];exact qK
     ·refine zC.qt qv (o:=none) ?_;exact ET (id:=id) qv yY hle qK zQ jo gS i hi
    ·intro b hb;have:=zq.heap.tags b hb;simpa [World.setRow] using this
   ·refine ⟨rfl,rfl,rfl,yS _,by simp [World.setRow],fun b _ hb=>⟨setRow_other w bk b _ ?_,rfl⟩⟩;intro he;subst he;rw [zH] at hb;simp at hb
   ·exact ug (u:=t1) (l:=l++m) (by simp [St.setObj,zN]) (by simp [pz]) rfl
theorem EF {id:Nat} {t:Ty} {l l':List t.den} {e e':Nat} {v:Value} (zq:zK c.ntmps g w a J) (zg:J.z6 id=some (.row t l e)) (he:e < e')
  (zR:zm w (pz g id v) (J.setObj id (.row t l' e')).z6 id (.row t l' e')) :
  zK c.ntmps (pz g id v) w a (J.setObj id (.row t l' e'))/\Ext w g w (pz g id v)/\∀ m,zY g J m->zY (pz g id v) (J.setObj id (.row t l' e')) m:=by
 refine ⟨zq.p9 ⟨fun b hb=>⟨hb,rfl⟩⟩ (fun i hi=>Qx hi) (.inl (.inr (.inl ⟨t,l,l',e,e',zg,rfl,.inl he⟩))) zR zq.heap.tags,⟨rfl,rfl,rfl,yS _,yS _,fun b _ _=>⟨rfl,rfl⟩⟩,fun m hm=>?_⟩;refine zY.p9 (g:=g) (fun b=>.inl rfl) ?_ (by simp) hm;intro heq;subst heq;have:=hm.z6;rw [zg] at this;simp at this
theorem B5 {id:Nat} {t:Ty} {l:List t.den} {e e':Nat} {p q:Int} (zq:zK c.ntmps g w a J) (zg:J.z6 id=some (.row t l e)) (h0:0<=p) (hpq:p<=q) (hq:q<=(l.length:Int)) (he:e < e') :
  zK c.ntmps (pz g id (jz (g.sv id []) t.size p q)) w a (J.setObj id (.row t (sub l p q) e'))/\Ext w g w (pz g id (jz (g.sv id []) t.size p q))/\
   ∀ m,zY g J m->zY (pz g id (jz (g.sv id []) t.size p q)) (J.setObj id (.row t (sub l p q) e')) m:=by
 refine EF zq zg he ?_;obtain ⟨qv,ad,cap,_,qT,Gi,Gm,wC⟩:=zq.heap.z6 _ _ zg;have hlen:(sub l p q).length=(q-p).toNat:=by rw [uP l p q h0 hpq hq];omega
 have hv:jz (g.sv id []) t.size p q = .slice (if cap-p.toNat=0 then ad else ad.map (·.add (p.toNat*t.size))) (sub l p q).length (cap-p.toNat):=by rw [qT,hlen];rfl
 refine ⟨qv,_,_,by simp only [pz,Dn];exact C6 (fun v=>[v]) hv,by simp only [pz,Dn];exact hv,by rw [hlen];omega,by omega,?_⟩;rcases wC with ⟨rfl,hl,rfl⟩ | ⟨b,off,c',ee,rfl,zH,zQ,qK,jo⟩
 ·left;refine ⟨by simp,?_,by simp⟩;rw [hl] at hq;simp only [He] at hq;exact Z2h (by rw [hlen];omega)
 ·right;have hmul:cap*t.size=(cap-p.toNat)*t.size+p.toNat*t.size:=by rw [<-wz];congr 1;omega
  by_cases hz:cap-p.toNat=0
  ·refine ⟨b,off,c',ee,by rw [yW hz],zH,zQ,by rw [hz];omega,fun i hi=>?_⟩;exfalso;have:i < (sub l p q).length:=hi;omega
  ·refine ⟨b,off+p.toNat*t.size,c',ee,?_,zH,zQ,by omega,fun i hi=>?_⟩
   ·rw [qQ hz];simp only [Z2o,Addr.add_lit]
   ·have vf:i < (sub l p q).length:=hi;have AX:p.toNat+i < l.length:=by omega
    have:=zC.qt (o':=none) qv (jo (p.toNat+i) AX);have hg:=Vf l p q i vf AX;refine zC.qt qv (o:=none) ?_;have e1:off+p.toNat*t.size+i*t.size=off+(p.toNat+i)*t.size:=by rw [wz];omega
    rw [e1];have h2:(sub l p q).get ⟨i,vf⟩=l.get ⟨p.toNat+i,AX⟩:=hg;show zC w _ none t ((sub l p q).get ⟨i,vf⟩) _;rw [h2];exact zC.kept (show zO w g w (pz g id (jz (g.sv id []) t.size p q)) from ⟨fun b hb=>⟨hb,rfl⟩⟩) this
theorem jt.pre {n:Nat} {g0:z8} {J0:St} (h:jt n k r g w J base mo K) (he:Ext w g w g0) (hf:∀ m,zY g J m->zY g0 J0 m) (hn:J0.next=J.next):jt n k r g0 w J0 base mo K:=
 fun J' g' a' w' hk zq qM vQ Zm vl=>h J' g' a' w' hk zq (he.trans qM) (fun m hm w9=>vQ m hm (hf m w9)) (Zm.trans hn) vl
theorem jt.zpo {n:Nat} {g0:z8} {J0:St} (h:jt n k r g w J base mo K) (he:Ext w g w g0) (hf:∀ m,(m < base\/base+8<=m)->zY g J m->zY g0 J0 m) (hn:J0.next=J.next):jt n k r g0 w J0 base mo K:=
 fun J' g' a' w' hk zq qM vQ Zm vl=>h J' g' a' w' hk zq (he.trans qM) (fun m hm w9=>vQ m hm (hf m hm w9)) (Zm.trans hn) vl
theorem w5.congr {g':z8} {t:Ty} {x:Value} {m:List t.den} {news:List Value} (h:w5 P w g t x m news) (hr:zO w g w g'):w5 P w g' t x m news:=
 ⟨h.len,h.cells,h.pre,h.length,fun i hi=>(h.elts i hi).kept hr,h.one⟩
theorem JF (J:St) (i:Nat) (x y:Obj):(J.setObj i x).setObj i y=J.setObj i y:=by
 simp only [St.setObj,St.mk.injEq,VL,Ds];funext j;simp only [KK];cases Nat.beq j i <;> rfl
theorem Ph {id e:Nat} {n:Int} {i:Nat} {av:z7} (h:(views J id e n).zj i=some av):J.zj i=some av\/(J.zj i=some (.ref id [] e)/\av = .view id [] (e+1) 0 n):=by
 simp only [views] at h;split at h
 ·rename_i j p e' hs;split at h
  ·cases hb:(Nat.beq j id && Nat.beq e' e) with
   | true=>
    rw [hb] at h;simp only [zA] at hb;obtain rfl:=zE hb.1;obtain rfl:=zE hb.2;simp only [zD,zI] at h
    exact .inr ⟨hs,h.symm⟩
   | false=>
    rw [hb] at h;simp only [zW] at h;exact .inl (hs.trans h)
  ·exact .inl (hs.trans h)
 ·exact .inl h
theorem O2 {l:List (Option R)} (h:qu l=some r):∀ y∈l,y=some r:=by
 cases l with
 | nil=>simp
 | cons x l=>
  simp only [qu] at h;split at h
  ·rename_i hq;intro y hy;rcases gX.1 hy with rfl | hy
   ·exact h
   ·rw [hq y hy];exact h
  ·simp at h
theorem EW {n:Nat} {w':World} {g':z8} {id e:Nat} {t:Ty} {l l2:List t.den} (zq:zK n g w a J) (qP:zK n g' w' a (J.setObj id (.row t l2 (e+1)))) (wi:J.z6 id=some (.row t l e))
  (qT:jz (g'.sv id []) t.size 0 (l.length:Int)=g.sv id []) (hle:l.length<=l2.length):zK n g' w' a ((views J id e (l.length:Int)).setObj id (.row t l2 (e+1))):=by
 refine ⟨fun i av hi=>?_,qP.heap,qP.size,qP.defers,qP.known⟩;rcases Ph hi with h1 | ⟨h1,rfl⟩
 ·exact qP.zj i av h1
 ·obtain ⟨v,hv,zR⟩:=zq.zj i _ h1;refine ⟨v,hv,?_⟩;simp only [zl] at zR;obtain ⟨cs,⟨u,rfl,qL,hu⟩,hvu⟩:=zR;have e1:=(hu _ _ _ wi).2 rfl;simp only [zl];refine ⟨[u],⟨_,rfl,qL,fun t2 l3 e2 BF=>?_⟩,hvu⟩;have Mw:some (Obj.row t l2 (e+1))=some (.row t2 l3 e2):=by
   rw [<-BF];simp [St.setObj,zN,views]
  simp only [zI,Obj.row.injEq] at Mw;obtain ⟨rfl,hl3,rfl⟩:=Mw;have hl3:=Z35 hl3;subst hl3;exact ⟨yS _,fun _=>⟨rfl,Z3y 0,Z4x _,by omega,by rw [qT];exact e1⟩⟩
theorem Gx {g':z8} {id e:Nat} {n:Int} {ob:Obj} {m:Nat} (h:zY g' (J.setObj id ob) m):zY g' ((views J id e n).setObj id ob) m:=by
 refine ⟨h.z6,h.row,h.box,fun i av hi=>?_,h.cells⟩;rcases Ph hi with h1 | ⟨h1,rfl⟩
 ·exact h.zj i av h1
 ·have:=h.zj i _ h1;simpa [z7.ids] using this
theorem Ix (kp:gP P c.tt) {args:Array Operand} {ts:Array TypeId} (ho:o.op = .call { callee:=.builtin .append,args:=args,argTypes:=ts }) {x y:Operand} {t:TypeId} {ow:Bool} {u:Ty} {av bv:z7}
  (hargs:args.toList=[x,y]) (pB:ts.toList=[t,t]) (AV:c.tt t=some (.sl ow u)) (hx:ev J x=some av) (hy:ev J y=some bv)
  (zq:zK c.ntmps g w a J) (hf:zY g J base) (h:Di J base u av bv (fun v J=>J.qe c o.dst v k)=some r) (hK:jt c.ntmps k r g w J base true K):o.wp P a w K Q:=by
 have hT:=kp _ _ AV;simp only [qq] at hT;obtain ⟨⟨E,qg,hE⟩,_⟩:=hT;have vk:=hE.info;obtain ⟨ex,efx⟩:=qG zq hx;obtain ⟨ey,efy⟩:=qG zq hy;unfold Di at h;split at h
 ·rename_i id ep;split at h
  ·rename_i t1 l e wi
   cases Qw:(Nat.beq e ep && t1.sk.same u.sk) with
   | false=>rw [Qw] at h;simp at h
   | true=>
    rw [Qw] at h;simp only [zD] at h;simp only [zA] at Qw;have FD:=zE Qw.1;subst FD;have w7:=Sk.qw Qw.2;have Qd:u.size=t1.size:=by rw [<-Ty.zZ,<-Ty.zZ,w7]
    obtain ⟨qv,hval,h,OE⟩:=gH h;obtain ⟨m,news,h,yY⟩:=YJ (P:=P) zq.heap qv ey h hval OE;obtain ⟨Ja,h⟩:=qC h;have Ja:=AM Ja;unfold room at Ja;have hall:=O2 h;have hA:=hall _ (Nk);have hB:=hall _ (LZ _ Nk);clear hall h;obtain ⟨b,cap,kr,qT,Gi,Gm,hold,wC⟩:=F3 (P:=P) (zq.heap.z6 _ _ wi);simp only [zl] at ex;obtain ⟨cs,⟨v,rfl,qL,hv⟩,jb⟩:=ex;have e1:=(hv _ _ _ wi).2 rfl;have Mj:a.eval x = .slice b l.length cap:=by rw [<-qT,<-e1];exact jb
    have gz:∀ n,zY g J n->n≠id:=by
     intro n hn he;subst he;have:=hn.z6;rw [wi] at this;simp at this
    by_cases FW:cap < l.length+m.length
    ·obtain ⟨cells,pD,pw,zg⟩:=Y6 (P:=P) (ty:=0) qg vk Qd zq.heap.tags qv hold yY FW (by omega) (J.setObj base (.row t1 (l++m) 1)).z6 base 1;have zb:=yN (P:=P) ho hargs pB (fun ty=>by rw [Mj];exact pw);refine jB (g:=g) (base:=base) (J':=J.setObj base (.row t1 (l++m) 1)) (g':=qI g w.heap.size base (.row base []) (.slice (some ⟨w.heap.size,0,none⟩) (l.length+m.length) pD)) zb ?_ ?_ (fun n hn hfn=>⟨zY.p9 (g:=g) (fun b=>?_) (by omega) (by simp) hfn,by simp [z7.ids];omega⟩) rfl ?_ hB (fun h=>Bool.noConfusion h) hK
     ·refine zq.p9 (XR zq.heap.tags _) (fun i hi=>VA zq.heap.tags _ hi) (.inr hf) zg ?_;intro b hb;simp only [qI] at hb;split at hb
      ·rename_i he;subst he;simp
      ·have:=zq.heap.tags b hb;simp;omega
     ·exact Gj zq.heap.tags _
     ·simp only [qI];by_cases he:b=w.heap.size
      ·right;exact ⟨[],by simp [he]⟩
      ·left;simp [he]
     ·exact ug (u:=t1) (l:=l++m) (by simp [St.setObj,zN]) (by simp [qI]) rfl
    ·have hle:l.length+m.length<=cap:=by omega
     have hk0:∀ g':z8,qz g g' id (J.z6 id) (some (.row t1 (l++m) (e+1))):=fun g'=>.inr (.inl ⟨t1,l,l++m,e,e+1,wi,rfl,.inl (by omega)⟩)
     have vQ:∀ n,zY g J n->n∉(z7.ref id [] (e+1)).ids:=by
      intro n hn;simp only [z7.ids,EY];exact gz n hn
     have hlen:l.length<=(l++m).length:=by simp
     rcases wC with ⟨rfl,hl,rfl⟩ | ⟨bk,off,cc,ee,rfl,zH,zQ,qK,jo⟩
     ·subst hl;have hm:m=[]:=Z2h (by simpa using hle);subst hm;have zb:=yN (P:=P) (v:=.slice none 0 0) (w':=w) ho hargs pB (fun ty=>by rw [Mj];exact pP (ty:=ty) qg vk Qd yY);refine jB (g:=g) (base:=base) (J':=(views J id e ((List.length ([]:List t1.den):Nat):Int)).setObj id (.row t1 ([]++[]) (e+1))) (g':=pz g id (.slice none 0 0)) zb ?_ ?_ (fun n hn hfn=>⟨Gx (zY.p9 (g:=g) (fun b=>.inl rfl) (gz n hfn) (by simp) hfn),vQ n hfn⟩) rfl ?_ hA (fun h=>Bool.noConfusion h) hK
      ·refine EW zq (zq.p9 ⟨fun b hb=>⟨hb,rfl⟩⟩ (fun i hi=>Qx hi) (.inl (hk0 _)) ?_ zq.heap.tags) wi ?_ (by simp)
       ·exact ⟨qv,none,0,by simp [pz],by simp [pz],yS _,jE _,.inl ⟨rfl,rfl,rfl⟩⟩
       ·rw [qT];simp [pz,jz]
      ·exact ⟨rfl,rfl,rfl,yS _,yS _,fun b _ _=>⟨rfl,rfl⟩⟩
      ·exact ug (u:=t1) (l:=([]++[]:List t1.den)) (by simp [St.setObj,zN]) (by simp [pz]) rfl
     ·have zb:=yN (P:=P) ho hargs pB (fun ty=>by rw [Mj];exact pX (ty:=ty) qg vk Qd zQ yY hle qK);have FV:=yY.length;have hmul:(l.length+m.length)*t1.size<=cap*t1.size:=kj _ hle;rw [wz] at hmul;have hcc:cc.toList.length=cc.size:=vX;have gS:zO w g (w.setRow bk (zU cc.toList (off+l.length*t1.size) news).toArray) (pz g id (.slice (some ⟨bk,off,none⟩) (l.length+m.length) cap)):=by
       refine ⟨fun b hb=>⟨hb,setRow_other w bk b _ ?_⟩⟩;intro he;subst he;rw [zH] at hb;simp at hb
      refine jB (g:=g) (base:=base) (J':=(views J id e (l.length:Int)).setObj id (.row t1 (l++m) (e+1))) (g':=pz g id (.slice (some ⟨bk,off,none⟩) (l.length+m.length) cap)) zb ?_ ?_ (fun n hn hfn=>⟨Gx (zY.p9 (g:=g) (fun b=>.inl rfl) (gz n hfn) (by simp) hfn),vQ n hfn⟩) rfl ?_ hA (fun h=>Bool.noConfusion h) hK
      ·refine EW zq (zq.p9 gS (fun i hi=>?_) (.inl (hk0 _)) ?_ ?_) wi ?_ hlen
       ·refine ⟨⟨fun q=>by simp [pz,hi],fun q b hb=>⟨hb,setRow_other w bk b _ ?_⟩⟩,rfl,fun hb=>⟨hb,setRow_other w bk _ _ ?_⟩⟩
        ·intro he;subst he;rw [zH] at hb;simp only [Tag.row.injEq] at hb;exact hi hb.1.symm
        ·intro he;rw [he,zH] at hb;simp at hb
       ·refine ⟨qv,some ⟨bk,off,none⟩,cap,by simp [pz],by simp [pz],by simpa using hle,Gm,.inr ⟨bk,off,_,ee,rfl,zH,setRow_heap w bk cc _ ee _ zQ,?_,fun i hi=>?_⟩⟩
        ·rw [Z26,yM _ _ _ (by omega),hcc];exact qK
        ·refine zC.qt qv (o:=none) ?_;exact ET (id:=id) qv yY hle qK zQ jo gS i hi
       ·intro b hb;have:=zq.heap.tags b hb;simpa [World.setRow] using this
       ·rw [qT];simp only [pz,Dn,jz];have e0:(⟨bk,off,none⟩:Addr).add 0=⟨bk,off,none⟩:=by rw [Addr.add_lit];rfl
        simp [e0]
      ·refine ⟨rfl,rfl,rfl,yS _,by simp [World.setRow],fun b _ hb=>⟨setRow_other w bk b _ ?_,rfl⟩⟩;intro he;subst he;rw [zH] at hb;simp at hb
      ·exact ug (u:=t1) (l:=l++m) (by simp [St.setObj,zN]) (by simp [pz]) rfl
  ·simp at h
 ·simp at h
theorem Ou (kp:gP P c.tt) {args:Array Operand} {ts:Array TypeId} (ho:o.op = .call { callee:=.builtin .append,args:=args,argTypes:=ts })
  (zq:zK c.ntmps g w a J) (hf:zY g J base)
  (Mk:∀ x y t u ow av bv,args.toList=[x,y]->ts.toList=[t,t]->c.tt t=some (.sl ow u)->ev J x=some av->ev J y=some bv->K6 J u av bv (fun v J=>J.qe c o.dst v k)=some r->o.wp P a w K Q)
  (h:y9 c J base o k=some r) (hK:jt c.ntmps k r g w J base true K):o.wp P a w K Q:=by
 simp only [y9,ho] at h;split at h
 ·rename_i x y t t' hargs pB;split at h
  ·rename_i av bv ot u hx hy AV
   cases hb:Nat.beq t t' with
   | false=>rw [hb] at h;simp at h
   | true=>
    rw [hb] at h;have htq:=zE hb;subst htq;simp only [zD] at h;have hT:=kp _ _ AV;simp only [qq] at hT;obtain ⟨⟨E,qg,hE⟩,_⟩:=hT;have vk:=hE.info;obtain ⟨ex,efx⟩:=qG zq hx;obtain ⟨ey,efy⟩:=qG zq hy;unfold Nj at h;split at h
    ·-- nil
     have hv:=Ze.1 ex
     cases hbn:bv.IU with
     | true=>rw [hbn] at h;exact Mk x y t u ot _ bv hargs pB AV hx hy h
     | false=>
     rw [hbn] at h;simp only [zW] at h;split at h
     ·rename_i t1 _
      cases Qw:t1.sk.same u.sk with
      | false=>rw [Qw] at h;simp at h
      | true=>
       rw [Qw] at h;simp only [zD] at h;have w7:=Sk.qw Qw;have Qd:u.size=t1.size:=by rw [<-Ty.zZ,<-Ty.zZ,w7]
       obtain ⟨qv,hval,h,OE⟩:=gH h;obtain ⟨m,news,h,yY⟩:=YJ (P:=P) zq.heap qv ey h hval OE;obtain ⟨Ja,h⟩:=qC h;have Ja:=AM Ja;unfold room at Ja;by_cases hm:m=[]
       ·subst hm;have zb:=yN (P:=P) (v:=.slice none 0 0) (w':=w) ho hargs pB (fun ty=>by rw [hv];exact pP (ty:=ty) qg vk Qd yY);refine jB (g:=g) (base:=base) (J':=J.setObj base (.row t1 [] 1)) (g':=pz g base (.slice none 0 0)) zb ?_ ?_ (fun n hn hfn=>⟨zY.p9 (g:=g) (fun b=>.inl rfl) (by omega) (by simp) hfn,by simp [z7.ids];omega⟩) rfl ?_ h (fun h=>Bool.noConfusion h) hK
        ·refine zq.p9 ⟨fun b hb=>⟨hb,rfl⟩⟩ (fun i hi=>Qx hi) (.inr hf) ?_ zq.heap.tags;exact ⟨qv,none,0,by simp [pz],by simp [pz],yS _,jE _,.inl ⟨rfl,rfl,rfl⟩⟩
        ·exact ⟨rfl,rfl,rfl,yS _,yS _,fun b _ _=>⟨rfl,rfl⟩⟩
        ·exact ug (u:=t1) (l:=[]) (by simp [St.setObj,zN]) (by simp [pz]) rfl
       ·have Cm:0 < m.length:=Z3u.2 hm;obtain ⟨cells,pD,pw,zg⟩:=Y6 (P:=P) (ty:=0) (b:=none) (cap:=0) (l:=([]:List t1.den)) qg vk Qd zq.heap.tags qv w5.of_nil yY (by simpa using Cm) (by simpa using Ja) (J.setObj base (.row t1 m 1)).z6 base 1;simp only [He,Zp,Zu] at pw zg;have zb:=yN (P:=P) ho hargs pB (fun ty=>by rw [hv];exact pw);refine jB (g:=g) (base:=base) (J':=J.setObj base (.row t1 m 1)) (g':=qI g w.heap.size base (.row base []) (.slice (some ⟨w.heap.size,0,none⟩) m.length pD)) zb ?_ ?_ (fun n hn hfn=>⟨zY.p9 (g:=g) (fun b=>?_) (by omega) (by simp) hfn,by simp [z7.ids];omega⟩) rfl ?_ h (fun h=>Bool.noConfusion h) hK
        ·refine zq.p9 (XR zq.heap.tags _) (fun i hi=>VA zq.heap.tags _ hi) (.inr hf) zg ?_;intro b hb;simp only [qI] at hb;split at hb
         ·rename_i he;subst he;simp
         ·have:=zq.heap.tags b hb;simp;omega
        ·exact Gj zq.heap.tags _
        ·simp only [qI];by_cases he:b=w.heap.size
         ·right;exact ⟨[],by simp [he]⟩
         ·left;simp [he]
        ·exact ug (u:=t1) (l:=m) (by simp [St.setObj,zN]) (by simp [qI]) rfl
     ·simp at h
    ·-- an owned row
     rename_i id ep;split at h
     ·rename_i t1 l e wi
      cases Qw:(Nat.beq e ep && t1.sk.same u.sk) with
      | false=>rw [Qw] at h;simp at h
      | true=>
       rw [Qw] at h;simp only [zD] at h;simp only [zA] at Qw;have FD:=zE Qw.1;subst FD;have w7:=Sk.qw Qw.2;have Qd:u.size=t1.size:=by rw [<-Ty.zZ,<-Ty.zZ,w7]
       obtain ⟨qv,hval,h,OE⟩:=gH h;obtain ⟨m,news,h,yY⟩:=YJ (P:=P) zq.heap qv ey h hval OE;obtain ⟨Ja,h⟩:=qC h;have Ja:=AM Ja;unfold room at Ja;simp only [zl] at ex;obtain ⟨cs,⟨v,rfl,qL,hv⟩,jb⟩:=ex;have e1:=(hv _ _ _ wi).2 rfl;exact VE ho hargs pB qg vk Qd zq wi (by rw [<-e1];exact jb) qv yY Ja h hK
     ·simp at h
    ·-- a part of an owned row
     rename_i id ep pa pb;split at h
     ·rename_i t1 l e wi
      cases Qw:(Nat.beq e ep && t1.sk.same u.sk) with
      | false=>rw [Qw] at h;simp at h
      | true=>
       rw [Qw] at h;simp only [zD] at h;simp only [zA] at Qw;have FD:=zE Qw.1;subst FD;have w7:=Sk.qw Qw.2;have Qd:u.size=t1.size:=by rw [<-Ty.zZ,<-Ty.zZ,w7]
       obtain ⟨qv,hval,h,OE⟩:=gH h;obtain ⟨m,news,h,yY⟩:=YJ (P:=P) zq.heap qv ey h hval OE;obtain ⟨Ja,h⟩:=qC h;have Ja:=AM Ja;unfold room at Ja;simp only [zl] at ex;obtain ⟨cs,⟨v,rfl,qL,hv⟩,jb⟩:=ex;obtain ⟨_,h0,KY,JW,e1⟩:=(hv _ _ _ wi).2 rfl;obtain ⟨yC,yP,Ti⟩:=B5 (e':=e+1) zq wi h0 KY JW (E1 _);refine VE (id:=id) (e:=e+1) (l:=sub l pa pb) ho hargs pB qg vk Qd yC (by simp [St.setObj,zN]) ?_ qv (yY.congr ⟨fun b hb=>⟨hb,rfl⟩⟩) Ja (by rw [JF];exact h) (hK.pre yP Ti rfl);rw [jb];simp only [pz,Dn];exact e1
     ·simp at h
    ·-- a row of rows
     exact Mk x y t u ot _ bv hargs pB AV hx hy h
    ·-- one of the rows of a row of rows
     rename_i id q0 p0 ep;split at h
     ·rename_i t1 l0 e0 i0 wi
      cases Rp:Nat.beq i0 ep with
      | false=>rw [Rp] at h;simp at h
      | true=>
       rw [Rp] at h;have FD:=zE Rp;subst FD;simp only [zD] at h;have Ce:zC w g (some (id,[])) (.sl true t1) l0 [g.sv id []]:=zq.heap.z6 id _ wi;obtain ⟨U,X,_,_,_,_,_,Zk,_,_,Qe,_,_,_,_⟩:=uD Ce h;obtain ⟨U',X',G1,gq⟩:=YS _ _ _ h;split at G1
       ·rename_i v l1
        cases Qw:v.sk.same u.sk with
        | false=>rw [Qw] at G1;simp at G1
        | true=>
         rw [Qw] at G1;simp only [zD] at G1;have w7:=Sk.qw Qw;have Qd:u.size=v.size:=by rw [<-Ty.zZ,<-Ty.zZ,w7]
         obtain ⟨qv,hval,G1,OE⟩:=gH G1;obtain ⟨m,news,G1,yY⟩:=YJ (P:=P) zq.heap qv ey G1 hval OE;obtain ⟨Ja,G1⟩:=qC G1;have Ja:=AM Ja;unfold room at Ja;have zsv:Ew t1 (q0 :: p0)=some v:=by
          have hg:za (.sl true t1) l0 (q0 :: p0) (fun u x=>some (⟨u,x⟩:(u:Ty)×u.den))=some ⟨.sl true v,l1⟩:=gq _ _;obtain ⟨U2,X2,_,_,_,_,_,GX,_,_,zsx,_,_,_,_⟩:=uD Ce hg;simp only [zI,Z4j] at GX;obtain ⟨rfl,_⟩:=GX;have:=Po zsx
          cases q0 with
          | fst=>simp [jk] at this
          | snd=>simp [jk] at this
          | idx j0=>simpa [Ew,jk] using this
         simp only [zl] at ex;obtain ⟨cs,⟨vv,rfl,qL,hv⟩,jb⟩:=ex;have e1:=((hv _ _ _ _ _ wi).2 rfl).1 rfl;obtain ⟨yC,yP,Ti,zk3,z6s⟩:=zd4 zq hf wi qv zsv gq;refine VE (id:=base) (e:=0) (l:=l1) ho hargs pB qg vk Qd yC (by simp [St.setObj,zN]) ?_ qv (yY.congr z6s) Ja (by rw [JF];exact G1) (hK.zpo yP (fun m hm=>Ti m (by omega)) rfl);rw [zk3];exact (jb.trans e1)
       ·simp at G1
     ·simp at h
    ·simp at h
  ·simp at h
 ·simp at h
end
end Go.Kz
namespace Go.Kz
variable {R:Type}
section
variable {w:World} {g:z8} {J:St}
theorem M0 {n:Nat} {a:Act} {w':World} {g':z8} {J':St} {m:Nat} (zq:zK n g w a J) (hr:zO w g w' g') (hs:J'.zj=J.zj) (hm:zY g J m\/qz g g' m (J.z6 m) (J'.z6 m))
  (zka:∀ x,J'.z6 m=some x->zm w' g' J'.z6 m x) (TI:∀ j,j≠m->J'.z6 j=none\/(J'.z6 j=J.z6 j/\Zj w g w' g' j)) (ht:∀ b,g'.tag b≠.zn->b < w'.heap.size):zK n g' w' a J':=by
 refine zq.step hr hs hm (fun j hj=>?_) (fun j x hx=>?_) ht
 ·rcases TI j hj with h | ⟨h,h2⟩
  ·exact .inl h
  ·rw [h];exact qz.same h2
 ·by_cases hj:j=m
  ·subst hj;exact .inl (zka x hx)
  ·rcases TI j hj with h | ⟨h,h2⟩
   ·rw [h] at hx;simp at hx
   ·rw [h] at hx;exact .inr ⟨hx,h2⟩
theorem Vw {g':z8} {J':St} {base m:Nat} (hm:m≠base) (zH:∀ b,g'.tag b=g.tag b\/∃ p,g'.tag b = .row base p) (pI:∀ j,j≠base->J'.z6 j=none\/J'.z6 j=J.z6 j)
  (FM:∀ y,J'.z6 base≠some (.cell y)) (hs:J'.zj=J.zj) (hf:zY g J m):zY g' J' m:=by
 refine ⟨?_,fun b p hb=>?_,fun b hb=>?_,by rw [hs];exact hf.zj,fun i av hi=>?_⟩
 ·rcases pI m hm with h | h
  ·exact h
  ·rw [h];exact hf.z6
 ·rcases zH b with h | ⟨q,h⟩
  ·rw [h] at hb;exact hf.row b p hb
  ·rw [h] at hb;simp only [Tag.row.injEq] at hb;exact hm hb.1.symm
 ·rcases zH b with h | ⟨q,h⟩
  ·rw [h] at hb;exact hf.box b hb
  ·rw [h] at hb;simp at hb
 ·by_cases he:i=base
  ·subst he;exact absurd hi (FM av)
  ·rcases pI i he with h | h
   ·rw [h] at hi;simp at hi
   ·rw [h] at hi;exact hf.cells i av hi
theorem Ib (hh:yZ w g J.z6) {v:Ty} (qv:v.zV=true) {av:z7} {x:Value} {k:List v.den->St->Option R} {r:R} (hx:jV w g J.z6 av [x]) (h:uv J av v k=some r) :
  ∃ (fr:Option Nat) (d:List v.den) (J1:St),J1.zj=J.zj/\J1.next=J.next/\(∀ j,some j≠fr->J1.z6 j=J.z6 j)/\(∀ j,some j=fr->J1.z6 j=none/\J.z6 j≠none)/\k d J1=some r/\
   ∀ w' g' id p,zO w g w' g'->g'.sv id p=x->(∀ b j,some j=fr->g.tag b = .row j []->g'.tag b = .row id p/\w'.heap[b]? = w.heap[b]?)->zC w' g' (some (id,p)) (.sl true v) d [x]:=by
 unfold uv at h;split at h
 ·refine ⟨none,[],J,rfl,rfl,fun _ _=>rfl,fun _ h=>by simp at h,h,fun w' g' id p _ qT _=>?_⟩;have Gd:[x]=[.slice none 0 0]:=hx;simp only [Az,Ds] at Gd;subst Gd;exact ⟨none,0,rfl,qT,yS _,jE _,.inl ⟨rfl,rfl,rfl⟩⟩
 ·rename_i vu ep';split at h
  ·rename_i t' l' e' GP
   cases hb:Nat.beq e' ep' with
   | false=>rw [hb] at h;simp at h
   | true=>
    rw [hb] at h;have he:=zE hb;subst he;simp only [zD] at h;obtain ⟨hc,h⟩:=qS h;have BO:t'=v:=by simpa using hc
    subst BO;refine ⟨some vu,_,J.kill vu,rfl,rfl,fun j hj=>?_,fun j hj=>?_,h,fun w' g' id p hr qT JV=>?_⟩
    ·simp only [St.kill];exact ze _ _ (fun h=>hj (by rw [h]))
    ·simp only [zI] at hj;subst hj;exact ⟨by simp [St.kill,KK],by rw [GP];simp⟩
    ·obtain ⟨v0,Rq,_,gR⟩:=hx;simp only [Az,Ds] at Rq;subst Rq;have hxs:=(gR _ _ _ GP).2 rfl;obtain ⟨Gh,ad,cap,pN,Ch,h1,h2,h3⟩:=hh.z6 vu _ GP;refine ⟨ad,cap,by rw [hxs,Ch];rfl,by rw [qT,hxs,Ch];rfl,h1,h2,?_⟩;rcases h3 with h3 | ⟨b,off,c,ee,ha,zH,zQ,hs,jo⟩
     ·exact .inl h3
     ·obtain ⟨k1,k2⟩:=JV b vu rfl zH;exact .inr ⟨b,off,c,ee,ha,k1,k2.trans zQ,hs,fun i hi=>zC.qt (o:=none) Gh ((zC.qt (o':=none) Gh (jo i hi)).kept hr)⟩
  ·simp at h
 ·simp at h
def q0:Path:=[.idx 0,.snd,.fst]
open Classical in
noncomputable def xU (g:z8) (nb base:Nat) (zp0 x:Value) (fr:Option Nat):z8 where
 tag:=fun b=>if b=nb then .row base [] else if ∃ j,fr=some j/\g.tag b = .row j [] then .row base q0 else g.tag b
 sv:=fun i q=>if i=base then (if q=[] then zp0 else x) else g.sv i q
 zt:=g.zt
theorem F7 {u:Ty} (h:Kd u=true):∃ t v,u = .pair t (.pair (.sl true v) .unit)/\t.zV=true/\v.zV=true:=by
 unfold Kd at h;split at h
 ·simp only [zA] at h;exact ⟨_,_,rfl,h.1,h.2⟩
 ·simp at h
theorem Ia {a:z7} {t v:Ty} {k:(Ty.pair t (.pair (.sl true v) .unit)).den->St->Option R} {r:R} (h:Xg J a (.pair t (.pair (.sl true v) .unit)) k=some r) :
  ∃ x y,a = .agg (.pr x (.pr y .un))/\t.zV=true/\v.zV=true/\x.val=true/\(j6 20 x t J fun d J=>uv J y v fun l J=>k (d,l,()) J)=some r:=by
 cases a with
 | agg c=>cases c with
  | pr x c2=>cases c2 with
   | pr y c3=>cases c3 with
    | un=>
     simp only [Xg] at h
     cases hb:(t.zV && v.zV && x.val) with
     | false=>rw [hb] at h;simp at h
     | true=>
      rw [hb] at h;simp only [zA] at hb
      exact ⟨x,y,rfl,hb.1.1,hb.1.2,hb.2,h⟩
    | _=>simp [Xg] at h
   | _=>simp [Xg] at h
  | _=>simp [Xg] at h
 | _=>simp [Xg] at h
theorem D5 {a:z7} {v:Ty} {k:List v.den->St->Option R} {r:R} (h:uv J a v k=some r):a.sk = .leaf:=by
 unfold uv at h;split at h
 ·rfl
 ·rfl
 ·simp at h
section
variable {P:Program} {o:Oper} {a:Act} {K:Act->World->Prop} {Q:Exit->Act->World->Prop} {c:Ctx} {k:St->Option R} {r:R} {base:Nat} {mo:Bool}
theorem Y7 {z6:qk} {u:Ty} {l:List u.den} {v:Value} {e i id:Nat} (ho:z6 id=some (.nest u l e i none)) (qT:v=g.sv id []) (qL:v.oneCell'=true):zl w g z6 (.nv false id [] e) v:=by
 simp only [zl];refine ⟨_,⟨v,rfl,qL,fun t l' e' i' h hx=>?_⟩,rfl⟩;rw [ho] at hx;simp only [zI,Obj.nest.injEq] at hx;obtain ⟨_,_,rfl,rfl,_⟩:=hx;exact ⟨yS _,fun _=>⟨fun _=>qT,fun h=>by simp at h⟩⟩
theorem Y5 {t E:TypeId} {u:Ty} (qg:P.underlying t=some (.slice E)) (vk:yF P E u) {len:Nat} (AD:len*u.size<=100000) {ps:Array (Nat×Operand)} (Qv:xy 0 ps.toList=true) (hlen:ps.toList.length=len)
  (KZ:∀ x∈ps.toList,(a.eval x.2).cells.size=u.size) :
  ∃ cells:Array Value,cells.toList=(ps.toList.map fun x=>(a.eval x.2).cells.toList).flatten/\(Instr.buildSlice t len (ps.map fun x=>(x.1,a.eval x.2))).run P w = .ok (.slice (some ⟨w.heap.size,0,none⟩) len len) (w.alloc (.cells cells E)):=by
 obtain ⟨i,zv,G2,Jd,AX,Rk,Rw,hi6⟩:=vk.info;let vs:List Value:=ps.toList.map fun x=>a.eval x.2
 have zsn:∀ v∈vs,v.cells.size=u.size:=by
  intro v hv;obtain ⟨x,hx,rfl⟩:=Jo.1 hv;exact KZ x hx
 have X7:vs.length=len:=by simp [vs];rw [<-hlen];simp
 let VR:Array Value:=(Array.range (len*i.size)).map (zv.cells[· % zv.cells.size]!);have TJ:VR.size=len*u.size:=by simp [VR,Jd]
 obtain ⟨cells,GA,pO⟩:=Pp vs 0 VR zsn (by rw [TJ,Zp,X7];exact yS _);have Gn:cells.toList=(ps.toList.map fun x=>(a.eval x.2).cells.toList).flatten:=by
  rw [pO];simp only [Z2f,Z20,Zu,Zp,X7];rw [Dt (by rw [vX,TJ];exact yS _),AL];simp [vs];rfl
 refine ⟨cells,Gn,?_⟩;have IE:ps.toList.map (fun x=>(x.1,a.eval x.2))=zT 0 vs:=wT Qv a.eval;have OF:¬ (2 ^ 24 < len*i.size):=by rw [Jd];omega
 unfold Instr.buildSlice;simp only [Sem.run_bind,run_underlying qg,Result.andThen_ok];by_cases hz:len*i.size=0
 ·have Xj:len=0:=by
   rcases Nat.mul_eq_zero.1 hz with h0 | h0
   ·exact h0
   ·omega
  have OD:ps = #[]:=by apply Dr.1;exact Z2h (hlen.trans Xj)
  have EZ:cells.toList=[]:=by
   rw [Gn,OD];rfl
  have zf7:cells = #[]:=by apply Dr.1;rw [EZ]
  simp [Go.sizeOf,typeInfo,G2,Xj,OD,Instr.fill,newRow,zf7,Array.range_zero']
 ·have VY:=GA;simp only [VR] at VY;rw [<-Jd] at VY;simp [Go.sizeOf,typeInfo,G2,OF,hz,zeroValue,Rk,IE,VY,newRow]
theorem IV {u:Ty} {cells:Array Value} {E:TypeId} {g':z8} {w':World} {nb base:Nat} (h1:g'.tag nb = .row base []) (h2:g'.sv base [] = .slice (some ⟨nb,0,none⟩) 0 0) (h3:w'.heap[nb]? = some (.cells cells E)) :
  zC w' g' (some (base,[])) (.sl true u) [] [g'.sv base []]:=by
 refine ⟨some ⟨nb,0,none⟩,0,by rw [h2];rfl,h2,yS _,jE _,.inr ⟨nb,0,cells,E,rfl,h1,h3,by simp,fun i hi=>by simp at hi⟩⟩
theorem z5s (kp:gP P c.tt) {t:TypeId} {len:Nat} {ps:Array (Nat×Operand)} (ho:o.op = .buildSlice t len ps) (zq:zK c.ntmps g w a J) (hf:zY g J base)
  {ow:Bool} {u:Ty} (Qe:Ae c o.dst t=some (.sl ow u)) (hu:Kd u=true) (AD:len*u.size<=100000) (h:Lo c J base o.dst u len ps.toList k=some r)
  (hK:jt c.ntmps k r g w J base mo K):o.wp P a w K Q:=by
 obtain ⟨E,v0,qg,hv,hvu⟩:=Vc kp Qe;have vk:yF P E u:=hv.info.congr hvu;have ht:=zq.heap.tags;unfold Lo at h;split at h
 ·rename_i OD;obtain ⟨cells,_,zb⟩:=Y5 (a:=a) (w:=w) qg vk AD (ps:=ps) (by rw [OD];rfl) (by rw [OD];rfl) (by rw [OD];simp);refine jB (g:=g) (J:=J) (J':=J.setObj base (.nest u [] 0 0 none)) (base:=base) (g':=qI g w.heap.size base (.row base []) (.slice (some ⟨w.heap.size,0,none⟩) 0 0)) (v:=.slice (some ⟨w.heap.size,0,none⟩) 0 0) (w':=w.alloc (.cells cells E)) ?_ ?_ (xb ht _) (fun m hm w9=>⟨?_,?_⟩) rfl ?_ h (fun _ b hb=>heap_alloc_old w _ hb) hK
  ·simp only [execOp,ho];simp [zb]
  ·refine zq.new hf _ (by simp) ?_;exact IV (by simp [qI]) (by simp [qI]) (heap_alloc_new w _)
  ·refine Vw (J:=J) (base:=base) (by omega) (fun b=>?_) (fun j hj=>.inr (by simp only [St.setObj];exact ze _ _ hj)) (by simp [St.setObj,zN]) rfl w9;simp only [qI];split
   ·exact .inr ⟨[],rfl⟩
   ·exact .inl rfl
  ·simp [z7.ids];omega
  ·exact Y7 (u:=u) (l:=[]) (e:=0) (i:=0) (by simp [St.setObj,zN]) (by simp [qI]) rfl
 ·rename_i x OD;split at h
  ·rename_i av Gr;obtain ⟨ex,ef⟩:=qG zq Gr;obtain ⟨t1,v1,rfl,z6s,Gh⟩:=F7 hu;obtain ⟨ax,ay,rfl,_,_,hxv,h⟩:=Ia h;obtain ⟨cs,zR,Qj,vL⟩:=ji (av:=.agg (.pr ax (.pr ay .un))) rfl ex;obtain ⟨c1,c23,rfl,ztk,c2,c3,rfl,FJ,rfl⟩:=zR;rw [AL] at vL;obtain ⟨d,J1,g1,Zk,h1,h2,h3,pH⟩:=kA 20 zq.heap ztk z6s h;have yC:=h3.st h1 zq;have zag:=jV.frame (wy:=J1.z6) (h3.ro w) (fun i _=>h3.kept zq.heap i) FJ;have BM:=zag.len;rw [D5 Zk] at BM;obtain ⟨x0,rfl⟩:=Z2e.1 (show c2.length=1 from BM);obtain ⟨fr,l,J2,hs2,Xq,ID,Cn,GX,hmv⟩:=Ib yC.heap Gh zag Zk;have qK:(a.eval x).cells.size=t1.size+1:=by
    rw [<-vX,vL,Kj,pH.len];rfl
   obtain ⟨cells,pO,zb⟩:=Y5 (a:=a) (w:=w) qg vk AD (ps:=ps) (by rw [OD];rfl) (by rw [OD];rfl) (by rw [OD];intro y hy;simp only [EY] at hy;subst hy;exact qK);rw [OD] at pO;simp only [JU,Z2i,Z2x,List.flatten_nil,AL,vL] at pO;have Q7:=h3.fresh h1 hf;let vn:Value:=.slice (some ⟨w.heap.size,0,none⟩) 1 1;let g':=xU g1 w.heap.size base vn x0 fr;have ht1:=yC.heap.tags;have JV:∀ b,b < w.heap.size->(∀ j,fr=some j->g1.tag b≠.row j [])->g'.tag b=g1.tag b:=by
    intro b hb hj;simp only [g',xU];rw [qQ (by omega),qQ (by rintro ⟨j,h,h'⟩;exact hj j h h')]
   have gS:zO w g1 (w.alloc (.cells cells E)) g':=by
    refine ⟨fun b hb=>?_⟩;have qJ:=ht1 b (by rw [hb];simp);exact ⟨by rw [JV b qJ (fun j _=>by rw [hb];simp)];exact hb,heap_alloc_old w _ qJ⟩
   have hq0:q0≠[]:=by simp [q0]
   have wC:zC (w.alloc (.cells cells E)) g' (some (base,q0)) (.sl true v1) l [x0]:=by
    refine hmv _ _ base q0 gS (by simp [g',xU,hq0]) (fun b j hj hb=>?_);have qJ:=ht1 b (by rw [hb];simp);refine ⟨?_,heap_alloc_old w _ qJ⟩;simp only [g',xU];rw [qQ (by omega),yW ⟨j,hj.symm,hb⟩]
   have hfrb:∀ j,some j=fr->j≠base:=fun j hj he=>by subst he;exact (Cn j hj).2 Q7.z6
   refine jB (g:=g) (J:=J) (base:=base) (J':=J2.setObj base (.nest (.pair t1 (.pair (.sl true v1) .unit)) [(d,l,())] 0 0 none)) (g':=g') (v:=vn) (w':=w.alloc (.cells cells E)) ?_ ?_ (h3.ext.trans ?_) (fun m hm w9=>⟨?_,?_⟩) ?_ ?_ GX (fun _ b hb=>heap_alloc_old w _ hb) hK
   ·simp only [execOp,ho];simp [zb,vn]
   ·refine M0 (m:=base) yC gS (by simp [St.setObj,hs2]) (.inl Q7) (fun y hy=>?_) (fun j hj=>?_) (fun b hb=>?_)
    ·simp only [St.setObj,zN,zI] at hy;subst hy;have qT:g'.sv base []=vn:=by simp [g',xU]
     refine ⟨some ⟨w.heap.size,0,none⟩,1,by rw [qT];rfl,qT,yS _,by unfold maxLen;omega,.inr ⟨w.heap.size,0,cells,E,rfl,by simp [g',xU],heap_alloc_new w _,?_,fun i hi=>?_⟩⟩
     ·rw [<-vX,pO,Kj,pH.len];simp [Ty.size]
     ·have hi0:i=0:=by simpa using hi
      subst hi0;simp only [Z2f,Zp];have hs:(Ty.pair t1 (.pair (.sl true v1) .unit)).size=(c1++[x0]).length:=by
       rw [Kj,pH.len];rfl
      rw [pO,hs,kU];exact ⟨c1,[x0],rfl,zC.qt (o:=none) z6s (pH.kept gS),[x0],[],by simp,wC,rfl⟩
    ·simp only [St.setObj];rw [ze _ _ hj];by_cases Cs:some j=fr
     ·exact .inl (Cn j Cs).1
     ·refine .inr ⟨ID j Cs,⟨fun q=>by simp [g',xU,hj],fun q b hb=>?_⟩,rfl,fun hb=>?_⟩
      ·have qJ:=ht1 b (by rw [hb];simp);refine ⟨?_,heap_alloc_old w _ qJ⟩;rw [JV b qJ (fun i hi vT=>?_)]
       ·exact hb
       ·rw [hb] at vT;simp only [Tag.row.injEq] at vT;exact Cs (by rw [hi,vT.1])
      ·have qJ:=ht1 _ (by rw [hb];simp);exact ⟨by rw [JV _ qJ (fun i _=>by rw [hb];simp)];exact hb,heap_alloc_old w _ qJ⟩
    ·simp only [g',xU] at hb;split at hb
     ·rename_i he;subst he;simp
     ·split at hb
      ·rename_i he;obtain ⟨j,_,vT⟩:=he;have:=ht1 b (by rw [vT];simp);simp;omega
      ·have:=ht1 b hb;simp;omega
   ·refine ⟨rfl,rfl,rfl,yS _,by simp,fun b hb vT=>⟨heap_alloc_old w _ hb,JV b hb (fun j _ hb3=>?_)⟩⟩;rw [hb3] at vT;simp at vT
   ·refine Vw (base:=base) (by omega) (fun b=>?_) (fun j hj=>?_) (by simp [St.setObj,zN]) (by simp [St.setObj,hs2]) (h3.fresh h1 w9)
    ·simp only [g',xU];split
     ·exact .inr ⟨[],rfl⟩
     ·split
      ·exact .inr ⟨q0,rfl⟩
      ·exact .inl rfl
    ·simp only [St.setObj];rw [ze _ _ hj];by_cases Cs:some j=fr
     ·exact .inl (Cn j Cs).1
     ·exact .inr (ID j Cs)
   ·simp [z7.ids];omega
   ·simp [St.setObj,Xq,h2]
   ·exact Y7 (u:=.pair t1 (.pair (.sl true v1) .unit)) (l:=[(d,l,())]) (e:=0) (i:=0) (by simp [St.setObj,zN]) (by simp [g',xU]) rfl
  ·simp at h
 ·simp at h
theorem Kc {id:Nat} {t:Ty} {l:List t.den} {v:Value} (h:zC w g (some (id,[])) (.sl true t) l [v]) :
  ∃ b cap kr,v = .slice b l.length cap/\g.sv id []=v/\l.length<=cap/\cap<=maxLen/\w5 P w (B4 g) t.ro v (l.map (Ty.kZ t)) kr/\
   ((b=none/\l=[]/\cap=0/\kr=[])\/∃ bk off cc ee,b=some ⟨bk,off,none⟩/\g.tag bk = .row id []/\w.heap[bk]? = some (.cells cc ee (0,0))/\off+cap*t.size<=cc.size/\kr=qB cc.toList off (l.length*t.size)/\
    ∀ (i:Nat) (h:i < l.length),zC w g (some (id,[Step.idx (i:Int)])) t (l.get ⟨i,h⟩) (qB cc.toList (off+i*t.size) t.size)):=by
 obtain ⟨b,cap,hv,qT,h1,h2,h3⟩:=h;simp only [Az,Ds] at hv;subst hv;rcases h3 with ⟨rfl,hl,rfl⟩ | ⟨bk,off,cc,ee,rfl,zH,zQ,qK,jo⟩
 ·subst hl;exact ⟨none,0,[],rfl,qT,h1,h2,w5.of_nil,.inl ⟨rfl,rfl,rfl,rfl⟩⟩
 ·have Q8:l.length*t.size<=cap*t.size:=kj _ h1;have AP:(l.map (Ty.kZ t)).length=l.length:=by simp
  have htl:=w5.QF (P:=P) (w:=w) (g:=B4 g) (t:=t.ro) (m:=l.map (Ty.kZ t)) (b:=bk) (off:=off) (cap:=cap) zQ (by rw [AP,Ty.qH];omega) (fun i hi=>by
   have vf:i < l.length:=by rw [AP] at hi;exact hi
   have hf:=zC.freeze (QU w g) (o:=some (id,[]++[Step.idx (i:Int)])) (ZW w g id _) (jo i vf);simp only [HV,Np,Ty.qH] at hf ⊢;exact hf)
  rw [AP,Ty.qH] at htl;exact ⟨_,cap,_,rfl,qT,h1,h2,htl,.inr ⟨bk,off,cc,ee,rfl,zH,zQ,qK,rfl,fun i hi=>jo i hi⟩⟩
def JP (g:z8) (id:Nat) (nb:Option Nat) (v:Value) (n i2:Nat):z8 where
 tag:=fun b=>if nb=some b then .row id [] else match g.tag b with
  | .row i (.idx j :: q)=>if i=i2/\j=0 then .row id (.idx (n:Int) :: q) else .row i (.idx j :: q)
  | t=>t
 sv:=fun i q=>if i=id then (match q with
  | []=>v
  | .idx j :: q'=>if j=(n:Int) then g.sv i2 (.idx 0 :: q') else g.sv id (.idx j :: q')
  | q=>g.sv id q) else g.sv i q
 zt:=g.zt
theorem K8 {id n i2 b:Nat} {nb:Option Nat} {v:Value} (hb:nb≠some b) (h:∀ q,g.tag b≠.row i2 (.idx 0 :: q)):(JP g id nb v n i2).tag b=g.tag b:=by
 simp only [JP,qQ hb];split
 ·rename_i i j q he;rw [qQ (fun hc=>h q (by rw [he,hc.1,hc.2]))];exact he.symm
 ·rfl
theorem Lv {n:Nat} {w':World} {J':St} {id i2:Nat} {t:Ty} {l l0:List t.den} {d:t.den} {e i e' i':Nat} {nb:Option Nat} {v:Value} {nb0 off cap:Nat} {c:Array Value} {ee:TypeId} {ol:Nat->List Value} {news:List Value}
  (zq:zK n g w a J) (zg:J.z6 id=some (.nest t l0 e i none)) (he:e < e') (hi:i < i') (hs:J'.zj=J.zj) (ho:J'.z6 id=some (.nest t (l++[d]) e' i' none))
  (TI:∀ j,j≠id->(j=i2/\J'.z6 j=none)\/(j≠i2/\J'.z6 j=J.z6 j)) (h2:i2=id->l=[])
  (OF:∀ b,nb=some b->w.heap.size<=b/\b < w'.heap.size) (wm:∀ b,b < w.heap.size->g.tag b≠.row id []->w'.heap[b]? = w.heap[b]?) (Qh:w.heap.size<=w'.heap.size)
  (Ry:w'.os=w.os) (htp:w'.tape=w.tape) (uL:w'.output=w.output) (Rg:w.drawn<=w'.drawn)
  (hv:v = .slice (some ⟨nb0,off,none⟩) (l.length+1) cap) (Q8:l.length+1<=cap) (ztr:cap<=maxLen) (zH:(JP g id nb v l.length i2).tag nb0 = .row id []) (zQ:w'.heap[nb0]? = some (.cells c ee (0,0))) (qK:off+cap*t.size<=c.size)
  (hold:∀ (k:Nat) (h:k < l.length),zC w g (some (id,[Step.idx (k:Int)])) t (l.get ⟨k,h⟩) (ol k)) (zei:∀ k,k < l.length->qB c.toList (off+k*t.size) t.size=ol k)
  (Q6:zC w g (some (i2,[Step.idx 0])) t d news) (hnc:qB c.toList (off+l.length*t.size) t.size=news) :
  zK n (JP g id nb v l.length i2) w' a J'/\Ext w g w' (JP g id nb v l.length i2)/\(∀ m,zY g J m->zY (JP g id nb v l.length i2) J' m)/\(JP g id nb v l.length i2).sv id []=v:=by
 let g':=JP g id nb v l.length i2;have ht:=zq.heap.tags;have qJ:∀ b,g.tag b≠.zn->b < w.heap.size/\nb≠some b:=fun b hb=>⟨ht b hb,fun hc=>by have:=OF b hc;have:=ht b hb;omega⟩
 have GU:∀ b,g.tag b≠.zn->(∀ q,g.tag b≠.row i2 (.idx 0 :: q))->g.tag b≠.row id []->g'.tag b=g.tag b/\w'.heap[b]? = w.heap[b]? := fun b hb hq hr=>
  ⟨K8 (qJ b hb).2 hq,wm b (qJ b hb).1 hr⟩
 have qv:zO w g w' g':=⟨fun b hb=>by
  obtain ⟨h1,h2⟩:=GU b (by rw [hb];simp) (by rw [hb];simp) (by rw [hb];simp);exact ⟨h1.trans hb,h2⟩⟩
 have qT:g'.sv id []=v:=by simp [g',JP]
 refine ⟨?_,?_,fun m w9=>?_,qT⟩
 ·refine M0 (m:=id) zq qv hs (.inr ?_) (fun y hy=>?_) (fun j hj=>?_) (fun b hb=>?_)
  ·rw [zg,ho];exact .inr (.inr (.inr (.inr ⟨t,l0,l++[d],e,e',i,i',none,none,rfl,rfl,by omega,by omega,fun h=>by omega,fun h=>by omega⟩)))
  ·rw [ho] at hy;simp only [zI] at hy;subst hy;have hlen:(l++[d]).length=l.length+1:=by simp
   refine ⟨some ⟨nb0,off,none⟩,cap,by rw [qT,hlen,hv],by rw [qT,hlen,hv],by rw [hlen];exact Q8,ztr,.inr ⟨nb0,off,c,ee,rfl,zH,zQ,qK,fun k hk=>?_⟩⟩;by_cases KQ:k < l.length
   ·have vI:i2≠id:=fun h=>by rw [h2 h] at KQ;simp at KQ
    rw [zei k KQ];have gq:(l++[d]).get ⟨k,hk⟩=l.get ⟨k,KQ⟩:=by simp [Z55 KQ]
    rw [gq];refine zC.move qv (o:=some (id,[Step.idx (k:Int)])) (o':=some (id,[]++[Step.idx (k:Int)])) ⟨fun q=>?_,fun q b hb=>?_⟩ (hold k KQ)
    ·have:((k:Int)=(l.length:Int))=False:=by simp;omega
     simp [g',JP,this]
    ·simp only [ue,Zu] at hb ⊢;obtain ⟨h3,h4⟩:=GU b (by rw [hb];simp) (by rw [hb];intro q hq;simp at hq;exact vI hq.1.symm) (by rw [hb];simp);exact ⟨h3.trans hb,h4⟩
   ·have ztw:k=l.length:=by rw [hlen] at hk;omega
    subst ztw;rw [hnc];have gq:(l++[d]).get ⟨l.length,hk⟩=d:=by simp
    rw [gq];refine zC.move qv (o:=some (i2,[Step.idx 0])) (o':=some (id,[]++[Step.idx (l.length:Int)])) ⟨fun q=>?_,fun q b hb=>?_⟩ Q6
    ·simp [g',JP]
    ·simp only [ue,Zu] at hb ⊢;refine ⟨?_,wm b (qJ b (by rw [hb];simp)).1 (by rw [hb];simp)⟩;simp only [g',JP,qQ (qJ b (by rw [hb];simp)).2,hb];rw [yW (by simp)]
  ·rcases TI j hj with ⟨_,h⟩ | ⟨h3,h⟩
   ·exact .inl h
   ·refine .inr ⟨h,⟨fun q=>by simp [g',JP,hj],fun q b hb=>?_⟩,rfl,fun hb=>?_⟩
    ·simp only [Zu] at hb ⊢;obtain ⟨h4,h5⟩:=GU b (by rw [hb];simp) (by rw [hb];intro q hq;simp at hq;exact h3 hq.1) (by rw [hb];simp;intro hc;exact absurd hc hj);exact ⟨h4.trans hb,h5⟩
    ·obtain ⟨h4,h5⟩:=GU _ (by rw [hb];simp) (by rw [hb];simp) (by rw [hb];simp);exact ⟨h4.trans hb,h5⟩
  ·by_cases hc:nb=some b
   ·exact (OF b hc).2
   ·by_cases ha:g.tag b = .zn
    ·rw [K8 hc (by rw [ha];simp)] at hb;exact absurd ha hb
    ·have:=ht b ha;omega
 ·refine ⟨Ry,htp,uL,Rg,Qh,fun b hb vT=>⟨wm b hb (by rcases vT with h | h <;> rw [h] <;> simp),K8 (fun hc=>by have:=OF b hc;omega) (by rcases vT with h | h <;> rw [h] <;> simp)⟩⟩
 ·have FK:m≠id:=fun h=>by subst h;have:=w9.z6;rw [zg] at this;simp at this
  have zk0:∀ b,g'.tag b=g.tag b\/∃ p,g'.tag b = .row id p:=by
   intro b;simp only [g',JP];split
   ·exact .inr ⟨_,rfl⟩
   ·split
    ·rename_i he;split
     ·exact .inr ⟨_,rfl⟩
     ·exact .inl he.symm
    ·exact .inl rfl
  refine Vw (base:=id) FK zk0 (fun j hj=>?_) (by rw [ho];simp) hs w9;rcases TI j hj with ⟨_,h⟩ | ⟨_,h⟩
  ·exact .inl h
  ·exact .inr h
theorem Bx {x:z7} {f:(t:Ty)->(id e i:Nat)->t.den->Option R} {r:R} (h:z5y J x f=some r):∃ id e i t d,x = .nv false id [] e/\J.z6 id=some (.nest t [d] e i none)/\t.wI=true/\f t id e i d=some r:=by
 unfold z5y at h;split at h
 ·rename_i id ep;split at h
  ·rename_i t d e i ho
   cases hb:(Nat.beq e ep && t.wI) with
   | false=>rw [hb] at h;simp at h
   | true=>
    rw [hb] at h;simp only [zA] at hb;have he:=zE hb.1;subst he;exact ⟨id,e,i,t,d,rfl,ho,hb.2,h⟩
  ·simp at h
 ·simp at h
theorem LY {id e i:Nat} {t:Ty} {l:List t.den} {v:Value} {h:Option Path} (ho:J.z6 id=some (.nest t l e i h)) (hv:zl w g J.z6 (.nv false id [] e) v):v=g.sv id []:=by
 simp only [zl] at hv;obtain ⟨cs,⟨x,rfl,_,hx⟩,hv⟩:=hv;have:=((hx _ _ _ _ _ ho).2 rfl).1 rfl;rw [hv];exact this
set_option maxHeartbeats 2000000 in
theorem Iu (kp:gP P c.tt) {args:Array Operand} {ts:Array TypeId} (ho:o.op = .call { callee:=.builtin .append,args:=args,argTypes:=ts }) (zq:zK c.ntmps g w a J)
  {x y:Operand} {t:TypeId} {u:Ty} {ow:Bool} {av bv:z7} (hargs:args.toList=[x,y]) (pB:ts.toList=[t,t]) (Qe:c.tt t=some (.sl ow u)) (hx:ev J x=some av) (hy:ev J y=some bv)
  (h:K6 J u av bv (fun v J=>J.qe c o.dst v k)=some r) (hK:jt c.ntmps k r g w J base true K):o.wp P a w K Q:=by
 have hT:=kp _ _ Qe;simp only [qq] at hT;obtain ⟨⟨E,qg,hE⟩,_⟩:=hT;have vk:=hE.info;obtain ⟨ex,efx⟩:=qG zq hx;obtain ⟨ey,efy⟩:=qG zq hy;unfold K6 at h;split at h
 ·-- to nil
  have hv:=Ze.1 ex;obtain ⟨i2,e2,n2,t1,d,rfl,Ql,_,h⟩:=Bx h
  cases Qw:t1.sk.same u.sk with
  | false=>rw [Qw] at h;simp at h
  | true=>
   rw [Qw] at h;simp only [zD] at h;have w7:=Sk.qw Qw;have Qd:u.size=t1.ro.size:=by rw [Ty.qH,<-Ty.zZ,<-Ty.zZ,w7]
   obtain ⟨b2,zvt,news,uc,Ch,_,_,yY,wC⟩:=Kc (P:=P) (zq.heap.z6 _ _ Ql:zC w g (some (i2,[])) (.sl true t1) [d] [g.sv i2 []]);have hyv:=LY Ql ey;rcases wC with ⟨_,hl,_⟩ | ⟨bk,off,cc,ee,rfl,zH,zQ,qK,TO,jo⟩
   ·simp at hl
   ·rw [<-hyv] at yY;obtain ⟨zs,pw,Gc⟩:=pU (P:=P) (w:=w) (ty:=0) (t:=t1.ro) (b:=none) (n:=0) (cap:=0) (kr:=[]) qg vk Qd yY (by simp) (by simp) (fun w' _=>by simp [Builtin.firstCells]);have zb:=yN (P:=P) ho hargs pB (fun ty=>by rw [hv];exact pw);have FV:news.length=t1.size:=by rw [yY.length];simp [Ty.qH]
    have AA:=grownCap_ge w (0+([d].map (Ty.kZ t1)).length) 0 E;simp only [Jk,Z3r,Zp] at zb AA Gc;have hgm:=grownCap_le_maxLen w 1 0 E (by unfold maxLen;omega);let pD:=grownCap w 1 0 E;obtain ⟨r1,r2,r3,r4⟩:=Lv (g:=g) (J:=J) (id:=i2) (i2:=i2) (t:=t1) (l:=[]) (l0:=[d]) (d:=d) (e':=e2+1) (i':=n2+1) (nb:=some w.heap.size) (nb0:=w.heap.size) (off:=0) (cap:=pD) (ol:=fun _=>[]) (news:=news)
     (v:=.slice (some ⟨w.heap.size,0,none⟩) 1 pD) (J':=J.setObj i2 (.nest t1 [d] (e2+1) (n2+1) none)) (w':=w.drew.alloc (.cells (([]:List Value).toArray++news.toArray++zs) E)) (c:=([]:List Value).toArray++news.toArray++zs) (ee:=E)
     zq Ql (by omega) (by omega) rfl (by simp [St.setObj,zN]) (fun j hj=>.inr ⟨hj,by simp only [St.setObj];exact ze _ _ hj⟩) (fun _=>rfl) (fun b hb=>by simp only [zI] at hb;subst hb;simp)
     (fun b hb _=>heap_alloc_old w.drew _ hb) (by simp) rfl rfl rfl (Z1o _) (by simp) (by simpa using AA) hgm (by simp [JP]) (heap_alloc_new w.drew _)
     (by
      simp only [Z56,Z26,Gc,FV,He,Ty.qH,Zp];rw [Nat.sub_mul];have:1*t1.size<=pD*t1.size:=kj _ AA;show pD*t1.size<=t1.size+(pD*t1.size-1*t1.size);omega)
     (fun k hk=>by simp at hk) (fun k hk=>by simp at hk)
     (by
      have:=jo 0 (by simp);rw [TO];simpa using this)
     (by
      simp only [He,Z2f,RG,Z57,Zu];rw [<-FV];rw [qd _ _ _ _ (by simp)];exact kU _)
    refine jB (g:=g) (J:=J) (base:=base) zb r1 r2 (fun m _ w9=>⟨r3 m w9,?_⟩) rfl (Y7 (u:=t1) (l:=[d]) (e:=e2+1) (i:=n2+1) (by simp [St.setObj,zN]) r4.symm rfl) h (fun h=>Bool.noConfusion h) hK;have:=efy m w9;simpa [z7.ids] using this
 ·-- to a row
  rename_i id ep;split at h
  ·rename_i t1 l e i zg
   cases Qw:(Nat.beq e ep && t1.sk.same u.sk) with
   | false=>rw [Qw] at h;simp at h
   | true=>
    rw [Qw] at h;simp only [zD] at h;simp only [zA] at Qw;have FD:=zE Qw.1;subst FD;have w7:=Sk.qw Qw.2;have Qd:u.size=t1.ro.size:=by rw [Ty.qH,<-Ty.zZ,<-Ty.zZ,w7]
    obtain ⟨i2,e2,n2,t2,d2,rfl,Ql,_,h⟩:=Bx h
    cases hbi:Nat.beq id i2 with
    | true=>rw [hbi] at h;simp at h
    | false=>
     rw [hbi] at h;simp only [zW] at h;have vI:i2≠id:=fun hc=>by subst hc;rw [Lu] at hbi;simp at hbi
     obtain ⟨hc,h⟩:=qS h;subst hc;obtain ⟨Ja,h⟩:=qC h;have Ja:=AM Ja;unfold room at Ja;obtain ⟨b2,zvt,news,uc,Ch,_,_,yY,zke⟩:=Kc (P:=P) (zq.heap.z6 _ _ Ql:zC w g (some (i2,[])) (.sl true t2) [d2] [g.sv i2 []]);obtain ⟨b1,AH,kr,OX,zk3,II,hm1,TX,zac⟩:=Kc (P:=P) (zq.heap.z6 _ _ zg:zC w g (some (id,[])) (.sl true t2) l [g.sv id []]);have hyv:=LY Ql ey;have hxv:=LY zg ex;rcases zke with ⟨_,hl,_⟩ | ⟨bk2,zpp,cc2,ee2,rfl,BE,ZL,gJ,zek,zue⟩
     ·simp at hl
     rw [<-hyv] at yY;have FV:news.length=t2.size:=by rw [yY.length];simp [Ty.qH]
     have Q6:zC w g (some (i2,[Step.idx 0])) t2 d2 news:=by
      have:=zue 0 (by simp);rw [zek];simpa using this
     have hσ:∀ j,j≠id->(j=i2/\((J.kill i2).setObj id (.nest t2 (l++[d2]) (e+1) (i+1) none)).z6 j=none)\/(j≠i2/\((J.kill i2).setObj id (.nest t2 (l++[d2]) (e+1) (i+1) none)).z6 j=J.z6 j):=by
      intro j hj;simp only [St.setObj,St.kill];rw [ze _ _ hj];by_cases h2:j=i2
      ·subst h2;exact .inl ⟨rfl,zN _ _ _⟩
      ·exact .inr ⟨h2,ze _ _ h2⟩
     have zlk:∀ m,zY g J m->m∉(z7.nv false id [] (e+1)).ids:=fun m w9=>by
      have:=efx m w9;simpa [z7.ids] using this
     have Mj:a.eval x = .slice b1 l.length AH:=hxv.trans OX;by_cases FW:AH < l.length+1
     ·obtain ⟨zs,pw,Gc⟩:=pU (P:=P) (w:=w) (ty:=0) (t:=t2.ro) (b:=b1) (n:=l.length) (cap:=AH) (kr:=kr) qg vk Qd yY (by simpa using FW) (by simpa using Ja) (fun w' GG=>by
       have:=TX.cells w' GG;rw [OX] at this;simpa using this)
      have zb:=yN (P:=P) ho hargs pB (fun ty=>by rw [Mj];exact pw);simp only [Jk,Z3r] at zb Gc;have AA:=grownCap_ge w (l.length+1) AH E;have hgm:=grownCap_le_maxLen w (l.length+1) AH E (by unfold maxLen;omega);let pD:=grownCap w (l.length+1) AH E;have hol:kr.length=l.length*t2.size:=by rw [TX.length];simp [Ty.qH]
      obtain ⟨ol,hold,zei⟩:∃ ol:Nat->List Value,(∀ (k:Nat) (h:k < l.length),zC w g (some (id,[Step.idx (k:Int)])) t2 (l.get ⟨k,h⟩) (ol k))/\∀ k,k < l.length->qB kr (k*t2.size) t2.size=ol k:=by
       rcases zac with ⟨_,hl,_,_⟩ | ⟨bk,off,cc,ee,_,_,zQ,qK,zkl,jo⟩
       ·exact ⟨fun _=>[],fun k hk=>by rw [hl] at hk;simp at hk,fun k hk=>by rw [hl] at hk;simp at hk⟩
       ·refine ⟨_,jo,fun k hk=>?_⟩;have h3:(k+1)*t2.size<=l.length*t2.size:=kj _ hk;rw [wz] at h3;rw [zkl,gh _ _ _ _ _ (by omega)]
      obtain ⟨r1,r2,r3,r4⟩:=Lv (g:=g) (J:=J) (id:=id) (i2:=i2) (t:=t2) (l:=l) (l0:=l) (d:=d2) (e':=e+1) (i':=i+1) (nb:=some w.heap.size) (nb0:=w.heap.size) (off:=0) (cap:=pD) (ol:=ol) (news:=news)
       (v:=.slice (some ⟨w.heap.size,0,none⟩) (l.length+1) pD) (J':=(J.kill i2).setObj id (.nest t2 (l++[d2]) (e+1) (i+1) none)) (w':=w.drew.alloc (.cells (kr.toArray++news.toArray++zs) E)) (c:=kr.toArray++news.toArray++zs) (ee:=E)
       zq zg (by omega) (by omega) rfl (by simp [St.setObj,zN]) hσ (fun h=>absurd h vI) (fun b hb=>by simp only [zI] at hb;subst hb;simp)
       (fun b hb _=>heap_alloc_old w.drew _ hb) (by simp) rfl rfl rfl (Z1o _) rfl AA hgm (by simp [JP]) (heap_alloc_new w.drew _)
       (by
        simp only [Z56,Z26,Gc,FV,hol,Ty.qH,Zp];rw [Nat.sub_mul];have:(l.length+1)*t2.size<=pD*t2.size:=kj _ AA;rw [wz] at this ⊢;show pD*t2.size<=l.length*t2.size+t2.size+(pD*t2.size-(l.length*t2.size+1*t2.size));omega)
       hold (fun k hk=>by
        have h3:(k+1)*t2.size<=l.length*t2.size:=kj _ hk;rw [wz] at h3;rw [<-zei k hk,Zp];simp only [Z57,VO];exact qd _ _ _ _ (by omega))
       Q6 (by
        rw [Zp];simp only [Z57,VO];have:=y8 kr (news++zs.toList) (l.length*t2.size) 0 t2.size hol.symm;rw [RG] at this;rw [this,qd _ _ _ _ (by omega),<-FV,kU])
      exact jB (g:=g) (J:=J) (base:=base) zb r1 r2 (fun m _ w9=>⟨r3 m w9,zlk m w9⟩) rfl (Y7 (u:=t2) (l:=l++[d2]) (e:=e+1) (i:=i+1) (by simp [St.setObj,zN]) r4.symm rfl) h (fun h=>Bool.noConfusion h) hK
     ·rcases zac with ⟨_,hl,EZ,_⟩ | ⟨bk,off,cc,ee,rfl,TB,z02,OA,zkl,jo⟩
      ·omega
      ·have xr:cc.toList.length=cc.size:=vX;have hmul:(l.length+1)*t2.size<=AH*t2.size:=kj _ (by omega);rw [wz] at hmul;have pw:=pX (P:=P) (w:=w) (ty:=0) (t:=t2.ro) (n:=l.length) (cap:=AH) (off:=off) qg vk Qd z02 yY (by simp;omega) (by rw [Ty.qH];exact OA);have zb:=yN (P:=P) ho hargs pB (fun ty=>by rw [Mj];exact pw);simp only [Jk,Z3r,Ty.qH] at zb;obtain ⟨r1,r2,r3,r4⟩:=Lv (g:=g) (J:=J) (id:=id) (i2:=i2) (t:=t2) (l:=l) (l0:=l) (d:=d2) (e':=e+1) (i':=i+1) (nb:=none) (nb0:=bk) (off:=off) (cap:=AH) (ol:=fun k=>qB cc.toList (off+k*t2.size) t2.size) (news:=news)
        (v:=.slice (some ⟨bk,off,none⟩) (l.length+1) AH) (J':=(J.kill i2).setObj id (.nest t2 (l++[d2]) (e+1) (i+1) none)) (w':=w.setRow bk (zU cc.toList (off+l.length*t2.size) news).toArray) (c:=(zU cc.toList (off+l.length*t2.size) news).toArray) (ee:=ee)
        zq zg (by omega) (by omega) rfl (by simp [St.setObj,zN]) hσ (fun h=>absurd h vI) (fun b hb=>by simp at hb)
        (fun b hb vT=>setRow_other w bk b _ (fun he=>vT (he ▸ TB))) (by simp [World.setRow]) rfl rfl rfl (yS _) rfl (by omega) hm1 (by rw [K8 (by simp) (by rw [TB];simp)];exact TB) (setRow_heap w bk cc _ ee _ z02)
        (by rw [Z26,yM _ _ _ (by omega),xr];exact OA)
        jo (fun k hk=>by
         have h3:(k+1)*t2.size<=l.length*t2.size:=kj _ hk;rw [wz] at h3;exact jj _ _ _ _ _ (by omega) (by omega))
        Q6 (by
         have:=pK cc.toList (off+l.length*t2.size) news (by omega);rw [FV] at this;exact this)
       exact jB (g:=g) (J:=J) (base:=base) zb r1 r2 (fun m _ w9=>⟨r3 m w9,zlk m w9⟩) rfl (Y7 (u:=t2) (l:=l++[d2]) (e:=e+1) (i:=i+1) (by simp [St.setObj,zN]) r4.symm rfl) h (fun h=>Bool.noConfusion h) hK
  ·simp at h
 ·simp at h
end
end
end Go.Kz
