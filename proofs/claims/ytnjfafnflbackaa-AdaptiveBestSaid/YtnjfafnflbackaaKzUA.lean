/-
  Rows of rows turned: an element of one of the rows; a row put in its place; a row taken out.
-/
import Derived.Test.YtnjfafnflbackaaKzR
set_option linter.unusedVariables false
set_option linter.unusedSimpArgs false
namespace Go.Kz
variable {R:Type}
theorem zdb:(t:Ty)->(d:t.den)->(p:z1a)->{k:(u:Ty)->u.den->Option R}->{r:R}->z13 t d p k=some r->
  ∃ (u:Ty) (e:u.den),k u e=some r∧∀ (R':Type) (k':(u:Ty)->u.den->Option R'),z13 t d p k'=k' u e
 | t,d,[],k,r,h=>⟨t,d,by cases t <;> simpa [z13] using h,fun R' k'=>by cases t <;> simp [z13]⟩
 | .pair a _,(x,_),.fst :: p,k,r,h=>by simp only [z13] at h ⊢;exact zdb a x p h
 | .pair _ b,(_,y),.snd :: p,k,r,h=>by simp only [z13] at h ⊢;exact zdb b y p h
 | .arr _ t,l,.idx i :: p,k,r,h=>by
  simp only [z13] at h ⊢;obtain ⟨x,hx,h⟩:=Option.bind_eq_some_iff.1 h;obtain ⟨u,e,hk,ha⟩:=zdb t x p h
  exact ⟨u,e,hk,fun R' k'=>by rw [hx,Option.bind_some];exact ha _ _⟩
 | .sl true t,l,.idx i :: p,k,r,h=>by
  simp only [z13] at h ⊢;obtain ⟨x,hx,h⟩:=Option.bind_eq_some_iff.1 h;obtain ⟨u,e,hk,ha⟩:=zdb t x p h
  exact ⟨u,e,hk,fun R' k'=>by rw [hx,Option.bind_some];exact ha _ _⟩
 | .int _,d,s :: p,k,r,h=>by cases s <;> simp [z13] at h
 | .bool,d,s :: p,k,r,h=>by cases s <;> simp [z13] at h
 | .str,d,s :: p,k,r,h=>by cases s <;> simp [z13] at h
 | .unit,d,s :: p,k,r,h=>by cases s <;> simp [z13] at h
 | .sl false _,d,s :: p,k,r,h=>by cases s <;> simp [z13] at h
 | .ptr _,d,s :: p,k,r,h=>by cases s <;> simp [z13] at h
 | .fn _ _,d,s :: p,k,r,h=>by cases s <;> simp [z13] at h
 | .pair _ _,(_,_),.idx _ :: p,k,r,h=>by simp [z13] at h
 | .arr _ _,d,.fst :: p,k,r,h=>by simp [z13] at h
 | .arr _ _,d,.snd :: p,k,r,h=>by simp [z13] at h
 | .sl true _,d,.fst :: p,k,r,h=>by simp [z13] at h
 | .sl true _,d,.snd :: p,k,r,h=>by simp [z13] at h
theorem zbn:(t:Ty)->(d:t.den)->(p:z1a)->{v:Ty}->{e:List v.den}->{f:t.den->Option R}->{r:R}->tyQ t p=some v->z3z t d p (.sl true v) e f=some r->
  ∃ x:List v.den,∀ (R':Type) (k':(u:Ty)->u.den->Option R'),z13 t d p k'=k' (.sl true v) x
 | .sl true t,d,[],v,e,f,r,hq,h=>by
  simp only [tyQ,zI] at hq;subst hq
  exact ⟨d,fun R' k'=>by simp [z13]⟩
 | .pair a _,(x,_),.fst :: p,v,e,f,r,hq,h=>by simp only [z3z,tyQ,z13] at h hq ⊢;exact zbn a x p hq h
 | .pair _ b,(_,y),.snd :: p,v,e,f,r,hq,h=>by simp only [z3z,tyQ,z13] at h hq ⊢;exact zbn b y p hq h
 | .arr _ t,l,.idx i :: p,v,e,f,r,hq,h=>by
  simp only [z3z,tyQ,z13] at h hq ⊢;obtain ⟨x,hx,h⟩:=Option.bind_eq_some_iff.1 h;obtain ⟨y,hy⟩:=zbn t x p hq h
  exact ⟨y,fun R' k'=>by rw [hx,Option.bind_some];exact hy _ _⟩
 | .sl true t,l,.idx i :: p,v,e,f,r,hq,h=>by
  simp only [z3z,tyQ,z13] at h hq ⊢;obtain ⟨x,hx,h⟩:=Option.bind_eq_some_iff.1 h;obtain ⟨y,hy⟩:=zbn t x p hq h
  exact ⟨y,fun R' k'=>by rw [hx,Option.bind_some];exact hy _ _⟩
 | .sl true _,_,.fst :: _,_,_,_,_,h,_ | .sl true _,_,.snd :: _,_,_,_,_,h,_=>by simp [tyQ] at h
 | .sl false _,_,p,_,_,_,_,h,_=>by cases p with | nil=>simp [tyQ] at h | cons s q=>cases s <;> simp [tyQ] at h
 | .int _,_,p,_,_,_,_,h,_=>by cases p with | nil=>simp [tyQ] at h | cons s q=>cases s <;> simp [tyQ] at h
 | .bool,_,p,_,_,_,_,h,_=>by cases p with | nil=>simp [tyQ] at h | cons s q=>cases s <;> simp [tyQ] at h
 | .str,_,p,_,_,_,_,h,_=>by cases p with | nil=>simp [tyQ] at h | cons s q=>cases s <;> simp [tyQ] at h
 | .unit,_,p,_,_,_,_,h,_=>by cases p with | nil=>simp [tyQ] at h | cons s q=>cases s <;> simp [tyQ] at h
 | .ptr _,_,p,_,_,_,_,h,_=>by cases p with | nil=>simp [tyQ] at h | cons s q=>cases s <;> simp [tyQ] at h
 | .fn _ _,_,p,_,_,_,_,h,_=>by cases p with | nil=>simp [tyQ] at h | cons s q=>cases s <;> simp [tyQ] at h
 | .pair _ _,_,[],_,_,_,_,h,_=>by simp [tyQ] at h
 | .pair _ _,_,.idx _ :: _,_,_,_,_,h,_=>by simp [tyQ] at h
 | .arr _ _,_,[],_,_,_,_,h,_=>by simp [tyQ] at h
 | .arr _ _,_,.fst :: _,_,_,_,_,h,_ | .arr _ _,_,.snd :: _,_,_,_,_,h,_=>by simp [tyQ] at h
theorem zqr {v:Ty} (hro:v.isRo=true) {l:List v.den} {j:Int} {q:z1a} {k:(u:Ty)->u.den->Option R} {r:R} (h:z13 (.sl true v) l (.idx j :: q) k=some r):∃ u x,k u x=some r∧u.isRo=true:=by
 simp only [z13,Option.bind_eq_some_iff] at h;obtain ⟨y,_,h⟩:=h;exact z9e hro h
theorem zbh {j:Int}:{t:Ty}->{p:z1a}->{v:Ty}->tyQ t p=some v->tyS t (p++[.idx j])=some v.sk
 | .sl true t,[],v,hq=>by
  simp only [tyQ,zI] at hq;subst hq
  simp [tyS]
 | .pair a _,.fst :: p,v,hq=>by simp only [tyQ,tyS,List.cons_append] at hq ⊢;exact zbh hq
 | .pair _ c,.snd :: p,v,hq=>by simp only [tyQ,tyS,List.cons_append] at hq ⊢;exact zbh hq
 | .arr _ t,.idx i :: p,v,hq=>by simp only [tyQ,tyS,List.cons_append] at hq ⊢;exact zbh hq
 | .sl true t,.idx i :: p,v,hq=>by simp only [tyQ,tyS,List.cons_append] at hq ⊢;exact zbh hq
 | .sl true _,.fst :: _,_,h | .sl true _,.snd :: _,_,h=>by simp [tyQ] at h
 | .sl false _,p,_,h=>by cases p with | nil=>simp [tyQ] at h | cons s q=>cases s <;> simp [tyQ] at h
 | .int _,p,_,h=>by cases p with | nil=>simp [tyQ] at h | cons s q=>cases s <;> simp [tyQ] at h
 | .bool,p,_,h=>by cases p with | nil=>simp [tyQ] at h | cons s q=>cases s <;> simp [tyQ] at h
 | .str,p,_,h=>by cases p with | nil=>simp [tyQ] at h | cons s q=>cases s <;> simp [tyQ] at h
 | .unit,p,_,h=>by cases p with | nil=>simp [tyQ] at h | cons s q=>cases s <;> simp [tyQ] at h
 | .ptr _,p,_,h=>by cases p with | nil=>simp [tyQ] at h | cons s q=>cases s <;> simp [tyQ] at h
 | .fn _ _,p,_,h=>by cases p with | nil=>simp [tyQ] at h | cons s q=>cases s <;> simp [tyQ] at h
 | .pair _ _,[],_,h=>by simp [tyQ] at h
 | .pair _ _,.idx _ :: _,_,h=>by simp [tyQ] at h
 | .arr _ _,[],_,h=>by simp [tyQ] at h
 | .arr _ _,.fst :: _,_,h | .arr _ _,.snd :: _,_,h=>by simp [tyQ] at h
theorem zj9:{p:z1a}->{q:z1a}->{j:Int}->{r:z1a}->zg8 p=some (q,j,r)->p=q ++ .idx j :: r
 | [],_,_,_,h=>by simp [zg8] at h
 | s :: p,q,j,r,h=>by
  simp only [zg8] at h;split at h
  ·rename_i q' j' r' hl;simp only [zI,Prod.mk.injEq] at h;obtain ⟨rfl,rfl,rfl⟩:=h;rw [zj9 hl];rfl
  ·split at h
   ·simp only [zI,Prod.mk.injEq] at h;obtain ⟨rfl,rfl,rfl⟩:=h;rfl
   ·simp at h
theorem zbw:{p q:z1a}->z5w p q=true->p=q
 | [],[],_=>rfl
 | .fst :: p,.fst :: q,h=>by simp only [z5w] at h;rw [zbw h]
 | .snd :: p,.snd :: q,h=>by simp only [z5w] at h;rw [zbw h]
 | .idx i :: p,.idx j :: q,h=>by
  simp only [z5w,zA,decide_eq_true_eq] at h
  rw [h.1,zbw h.2]
 | [],_ :: _,h | _ :: _,[],h=>by simp [z5w] at h
 | .fst :: _,.snd :: _,h | .fst :: _,.idx _ :: _,h | .snd :: _,.fst :: _,h | .snd :: _,.idx _ :: _,h | .idx _ :: _,.fst :: _,h | .idx _ :: _,.snd :: _,h=>by simp [z5w] at h
section
variable {w:World} {g:Ghost} {σ:St}
theorem StOK.step {n:Nat} {w':World} {a:Act} {g':Ghost} {σ':St} {m:Nat} (hst:StOK n g w a σ) (hr:RoKept w g w' g') (hs:σ'.slots=σ.slots) (hm:Fresh g σ m∨z15 g g' m (σ.objs m) (σ'.objs m))
  (hk:∀ j,j≠m->z15 g g' j (σ.objs j) (σ'.objs j))
  (hobj:∀ j x,σ'.objs j=some x->z14 w' g' σ'.objs j x∨(σ.objs j=some x∧Same w g w' g' j)) (ht:∀ b,g'.tag b≠.alien->b < w'.heap.size):StOK n g' w' a σ':=by
 have hk':∀ j,(Fresh g σ m->j≠m)->z15 g g' j (σ.objs j) (σ'.objs j):=by
  intro j hj;by_cases he:j=m
  ·rcases hm with hf | hm
   ·exact absurd he (hj hf)
   ·rw [he];exact hm
  ·exact hk j he
 refine ⟨fun i av hi=>?_,⟨fun id x hx=>?_,ht⟩,hst.size,hst.defers,hst.known.kept hr⟩
 ·rw [hs] at hi;obtain ⟨u,hu,hok⟩:=hst.slots i av hi;refine ⟨u,hu,VOK.frame hr (fun j hj=>hk' j (fun hf he=>?_)) hok⟩;subst he;exact hf.slots i av hi hj
 ·rcases hobj id x hx with h | ⟨h,hsame⟩
  ·exact h
  ·refine z14.frame hr hsame (fun y hy j hj=>hk' j (fun hf he=>?_)) (hst.heap.objs id x h);subst he;subst hy;exact hf.cells id y h hj
theorem zmm {id:Nat} {pp:z1a} {t:Ty} {l:List t.den} {i:Int} {q:z1a} {u:Ty} {d:u.den} {cs:List Value} {f:List t.den->Option R} {r:R} {hd:Value} (hro:t.isRo=true)
  (hrow:Rep w g (some (id,pp)) (.sl true t) l [hd]) (hrep:Rep w g none u d cs) (h:z3z (.sl true t) l (.idx i :: q) u d f=some r) :
  ∃ l' b0 off0 n cp o' cc ee,f l'=some r∧l'.length=l.length∧g.sv id pp = .slice (some ⟨b0,off0,none⟩) n cp∧t.sk.off q=some (o',u.sk)∧w.heap[b0]? = some (.cells cc ee (0,0))∧g.tag b0 = .row id pp∧
   off0+i.toNat*t.size+o'+u.size≤cc.size∧
   Rep (w.setRow b0 (z0f cc.toList (off0+i.toNat*t.size+o') cs).toArray) g (some (id,pp)) (.sl true t) l' [hd]:=by
 simp only [z3z,Option.bind_eq_some_iff] at h;obtain ⟨x,hx,h⟩:=h;obtain ⟨h0,hi,rfl,hlt⟩:=z3o hx;obtain ⟨ad,cap,hcs,hsv,hlc,hcm,hrow⟩:=hrow;rcases hrow with ⟨_,hl,_⟩ | ⟨b,off,cc,ee,rfl,htag,hcell,hsz,helts⟩
 ·rw [hl] at hi;simp at hi
 ·have hel:=Rep.anyOwn (o':=none) hro (helts _ hi);obtain ⟨d',o',hk,hoff,hr⟩:=z9y hro hel hrep h;have hle:=Sk.off_le hoff;rw [Ty.sk_size,Ty.sk_size] at hle;have hcap:(i.toNat+1)*t.size≤cap*t.size:=Nat.mul_le_mul_right _ (by omega);rw [Nat.add_mul] at hcap;have hcl:cs.length=u.size:=hrep.len;have hccl:cc.toList.length=cc.size:=Array.length_toList;refine ⟨_,b,off,l.length,cap,o',cc,ee,hk,z1b _ _ _,hsv,hoff,hcell,htag,by omega,some ⟨b,off,none⟩,cap,?_,?_,?_,hcm,.inr ⟨b,off,(z0f cc.toList (off+i.toNat*t.size+o') cs).toArray,ee,rfl,htag,?_,?_,fun j hj=>?_⟩⟩
  ·rw [z1b];exact hcs
  ·rw [z1b];exact hsv
  ·rw [z1b];exact hlc
  ·exact setRow_heap w b cc _ ee _ hcell
  ·rw [List.size_toArray,z1u _ _ _ (by rw [hcl,hccl];omega),hccl];exact hsz
  ·have hRo:RoKept w g (w.setRow b (z0f cc.toList (off+i.toNat*t.size+o') cs).toArray) g:=(z1t (id:=id) _ (.inl ⟨pp,htag⟩)).ro;have hj':j < l.length:=by rw [z1b] at hj;exact hj
   have hjcap:(j+1)*t.size≤cap*t.size:=Nat.mul_le_mul_right _ (by omega);rw [Nat.add_mul] at hjcap;rw [zbo];refine Rep.anyOwn hro (o:=none) ?_;by_cases hij:i.toNat=j
   ·rw [if_pos hij];subst hij;rw [z5t _ _ _ _ _ (by rw [hcl];exact hle) (by rw [hccl];omega)];exact hr.kept hRo
   ·rw [if_neg hij];have hold:=(Rep.anyOwn (o':=none) hro (helts j hj')).kept hRo;rcases Nat.lt_or_gt_of_ne hij with hlt' | hgt
    ·have h3:(i.toNat+1)*t.size≤j*t.size:=Nat.mul_le_mul_right _ hlt';rw [Nat.add_mul] at h3;rw [z2s _ _ _ _ _ (by rw [hcl];omega) (by rw [hcl,hccl];omega)];exact hold
    ·have h3:(j+1)*t.size≤i.toNat*t.size:=Nat.mul_le_mul_right _ hgt;rw [Nat.add_mul] at h3;rw [z1p _ _ _ _ _ (by omega) (by rw [hccl];omega)];exact hold
theorem zvc {l:List Value} {off:Nat} {x:Value} (h:off < l.length) (hs:seg l off 1=[x]):z0f l off [x]=l:=by
 rw [←hs];simp only [z0f,seg];rw [List.length_take,List.length_drop,Nat.min_eq_left (by omega),←List.drop_drop,List.append_assoc,List.take_append_drop,List.take_append_drop]
theorem zub {id:Nat} {t:Ty} {l:List t.den} {e i:Nat} {s:Step} {p:z1a} {v:Ty} {l1:List v.den} {j:Int} {q:z1a} {u:Ty} {d:u.den} {cs:List Value} {f:List t.den->Option R} {r:R} {b0 off0:Nat}
  (hh:HeapOK w g σ.objs) (ho:σ.objs id=some (.nest t l e i none)) (hro:v.isRo=true) (hget:∀ (R':Type) (k':(u:Ty)->u.den->Option R'),z13 (.sl true t) l (s :: p) k'=k' (.sl true v) l1)
  (hrep:Rep w g none u d cs) (hpl:z0w g id (.sl true t) [] 0 0 (s :: p ++ .idx j :: q)=some (b0,off0))
  (h:(z3z (.sl true v) l1 (.idx j :: q) u d fun l1=>z3z (.sl true t) l (s :: p) (.sl true v) l1 f)=some r) :
  ∃ l' cc ee,f l'=some r∧w.heap[b0]? = some (.cells cc ee (0,0))∧g.tag b0 = .row id (s :: p)∧off0+u.size≤cc.size∧
   z14 (w.setRow b0 (z0f cc.toList off0 cs).toArray) g (σ.setObj id (.nest t l' e i none)).objs id (.nest t l' e i none):=by
 have hobj:Rep w g (some (id,[])) (.sl true t) l [g.sv id []]:=hh.objs id _ ho;have hg:z13 (.sl true t) l (s :: p) (fun u x=>some (⟨u,x⟩:(u:Ty)×u.den))=some ⟨.sl true v,l1⟩:=hget _ _;obtain ⟨U,X,bx,ox,_,_,_,hk,hplx,_,hty,_,_,_,_⟩:=z8e hobj hg;simp only [zI,Sigma.mk.injEq] at hk;obtain ⟨rfl,_⟩:=hk;have hq:=zpu hty
 cases s with
 | fst=>simp [tyQ] at hq
 | snd=>simp [tyQ] at hq
 | idx i0=>
  have hq':tyQ t p=some v:=by simpa [tyQ] using hq
  obtain ⟨l1',bh,oh,ch,eh,ph,hk,hplh,htagh,hph,_,hcellh,hoh,hreph,hw⟩:=zgl (zui w g id t) (pre:=[]) hq' hobj hg;simp only [zI,Sigma.mk.injEq,heq_eq_eq,true_and] at hk;subst hk;simp only [List.nil_append] at hph hreph hw;have hchl:ch.toList.length=ch.size:=Array.length_toList;obtain ⟨x,hx⟩:=List.length_eq_one_iff.1 (z20 (l:=ch.toList) (off:=oh) (n:=1) (by omega));rw [hx] at hreph;obtain ⟨l2,b2,o2,n2,cp2,o',cc,ee,hf,hll,hsv,hoff,hcell,htag,hsz,hrep2⟩:=zmm hro hreph hrep h;have e1:=z5b (j:=j) (pre:=[]) (t:=.sl true t) (b:=0) (off:=0) (x:=(bx,ox)) hq hplx hsv;have e2:=z2x e1 (zbh hq) hoff;have hpp:Step.idx i0 :: p++[Step.idx j]++q = .idx i0 :: p ++ .idx j :: q:=by simp
  rw [hpp,hpl] at e2;simp only [zI,Prod.mk.injEq] at e2;obtain ⟨rfl,rfl⟩:=e2;have hne:bh≠b0:=by
   intro he;subst he;rw [htag] at htagh;simp only [Tag.row.injEq,true_and] at htagh;subst htagh;omega
  have hRw:=z1t (w:=w) (g:=g) (id:=id) (b0:=b0) (z0f cc.toList (o2+j.toNat*v.size+o') cs).toArray (.inl ⟨_,htag⟩);have hnear:Near w g (w.setRow b0 (z0f cc.toList (o2+j.toNat*v.size+o') cs).toArray) g id (.idx i0 :: p) bh:=by
   refine ⟨hRw.ro,fun _ _=>rfl,fun q' b hb hq'=>⟨hb,fun _=>setRow_other w b0 b _ ?_⟩⟩;intro he;subst he;rw [htag] at hb;simp only [Tag.row.injEq,true_and] at hb;exact hq' (by rw [hb];exact List.prefix_refl _)
  obtain ⟨l3,hf3,_,hrep3⟩:=hw _ g l2 x hnear (by
   rw [zvc (by omega) hx,setRow_other w b0 bh _ hne];simpa using hcellh) hrep2 _ _ hf
  exact ⟨l3,cc,ee,hf3,hcell,htag,hsz,hrep3⟩
theorem zca {id:Nat} {t:Ty} {l:List t.den} {p:z1a} {v:Ty} {l1:List v.den} (hobj:Rep w g (some (id,[])) (.sl true t) l [g.sv id []]) (hty:tyR t p=some v)
  (hget:∀ (R':Type) (k':(u:Ty)->u.den->Option R'),z13 (.sl true t) l p k'=k' (.sl true v) l1) :
  zth w g id t l p∧Rep w g (some (id,p)) (.sl true v) l1 [g.sv id p]:=by
 cases p with
 | nil=>simp [tyR] at hty
 | cons s p=>
  cases s with
  | fst=>simp [tyR] at hty
  | snd=>simp [tyR] at hty
  | idx i0=>
   simp only [tyR] at hty;have hg:z13 (.sl true t) l (.idx i0 :: p) (fun u x=>some (⟨u,x⟩:(u:Ty)×u.den))=some ⟨.sl true v,l1⟩:=hget _ _;obtain ⟨l1',bh,oh,ch,eh,ph,hk,hplh,htagh,hph,_,hcellh,hoh,hreph,hw⟩:=zgl (zui w g id t) (pre:=[]) hty hobj hg;simp only [zI,Sigma.mk.injEq,heq_eq_eq,true_and] at hk;subst hk;simp only [List.nil_append] at hph hreph hw;have hlen:∃ bk o cap,g.sv id [] = .slice (some ⟨bk,o,none⟩) l.length cap:=by
    obtain ⟨a,cap,_,hsv,_,_,h3⟩:=hobj;rcases h3 with ⟨_,rfl,_⟩ | ⟨b,off,c,e,rfl,_⟩
    ·simp only [z13] at hg;cases i0 <;> simp [idx] at hg
    ·exact ⟨b,off,cap,hsv⟩
   refine ⟨⟨hlen,v,bh,oh,ch,eh,ph,hty,hplh 0 0,htagh,hph,hcellh,hoh,fun w' g' l' x hn hc' hr' R' f r' hset=>?_⟩,?_⟩
   ·obtain ⟨l2,hf,_,hr2⟩:=hw w' g' l' x hn hc' hr' f r' hset;refine ⟨l2,hf,?_⟩;rw [hn.sv [] (zq8 (by simp))];exact hr2
   ·obtain ⟨a,cap,hcs,hsv,h1⟩:=hreph;exact ⟨a,cap,by rw [hsv],hsv,h1⟩
open Classical in
noncomputable def z7h (g:Ghost) (from_:Option Nat) (id:Nat) (p:z1a) (x:Value):Ghost where
 tag:=fun b=>match g.tag b with
  | .row i q=>if some i=from_ then .row id (p++q) else .row i q
  | t=>t
 sv:=fun i q=>if i=id∧q=p then x else g.sv i q
 blk:=g.blk
theorem zsp {fr:Option Nat} {id:Nat} {p:z1a} {x:Value} {b:Nat}:(z7h g fr id p x).tag b = .ro↔g.tag b = .ro:=by
 simp only [z7h]
 cases hb:g.tag b with
 | row i q=>by_cases h:some i=fr <;> simp [h]
 | _=>simp
theorem zgn {fr:Option Nat} {id:Nat} {p:z1a} {x:Value} {b:Nat}:(z7h g fr id p x).tag b = .alien↔g.tag b = .alien:=by
 simp only [z7h]
 cases hb:g.tag b with
 | row i q=>by_cases h:some i=fr <;> simp [h]
 | _=>simp
theorem zns {fr:Option Nat} {id:Nat} {p:z1a} {x:Value} {b i:Nat} {q:z1a} (h:g.tag b = .row i q) (hi:some i≠fr):(z7h g fr id p x).tag b = .row i q:=by
 simp only [z7h,h,if_neg hi]
theorem zxh {fr:Option Nat} {id:Nat} {p:z1a} {x:Value} {b i:Nat} (h:g.tag b = .box i):(z7h g fr id p x).tag b = .box i:=by
 simp only [z7h,h]
theorem nfill_ok {n:Nat} {a:Act} {id:Nat} {t:Ty} {l:List t.den} {e i:Nat} {h0:Option z1a} {p:z1a} {av:AVal} {x:Value} {f:St->Option R} {r:R} {b0 off0:Nat}
  (hst:StOK n g w a σ) (ho:σ.objs id=some (.nest t l e i h0)) (hhole:∀ v,tyR t p=some v->(∃ l1:List v.den,∀ (R':Type) (k':(u:Ty)->u.den->Option R'),z13 (.sl true t) l p k'=k' (.sl true v) l1)->zth w g id t l p)
  (hpl:z0w g id (.sl true t) [] 0 0 p=some (b0,off0)) (hx:AOK w g σ.objs av [x]) (h:zgm σ id t l e i p av f=some r) :
  ∃ cc ee pre σ' g',f σ'=some r∧w.heap[b0]? = some (.cells cc ee (0,0))∧g.tag b0 = .row id pre∧off0 < cc.size∧StOK n g' (w.setRow b0 (z0f cc.toList off0 [x]).toArray) a σ'∧
   Ext w g (w.setRow b0 (z0f cc.toList off0 [x]).toArray) g'∧(∀ m,Fresh g σ m->Fresh g' σ' m)∧σ'.next=σ.next:=by
 unfold zgm at h;split at h
 ·rename_i v hty
  cases hro:v.isRo with
  | false=>rw [hro] at h;simp at h
  | true=>
   rw [hro] at h;simp only [cond_true] at h;have key:∃ (fr:Option Nat) (d:List v.den) (σ1:St),σ1.slots=σ.slots∧σ1.next=σ.next∧(∀ j,some j≠fr->σ1.objs j=σ.objs j)∧(∀ j,some j=fr->σ1.objs j=none∧j≠id∧σ.objs j≠none)∧
     (z3z (.sl true t) l p (.sl true v) d fun l=>f (σ1.setObj id (.nest t l e (i+1) none)))=some r∧
     (∀ w' g',RoKept w g w' g'->g'.sv id p=x->(∀ b,(∃ j,some j=fr∧g.tag b = .row j [])->g'.tag b = .row id p∧w'.heap[b]? = w.heap[b]?)->Rep w' g' (some (id,p)) (.sl true v) d [x]):=by
    unfold z5f at h;split at h
    ·refine ⟨none,[],σ,rfl,rfl,fun _ _=>rfl,fun _ h=>by simp at h,h,fun w' g' _ hsv _=>?_⟩;have hx':[x]=[.slice none 0 0]:=hx;simp only [List.cons.injEq,and_true] at hx';subst hx';exact ⟨none,0,rfl,hsv,Nat.le_refl _,Nat.zero_le _,.inl ⟨rfl,rfl,rfl⟩⟩
    ·rename_i id' ep';split at h
     ·rename_i t' l' e' ho'
      cases hb:Nat.beq e' ep' with
      | false=>rw [hb] at h;simp at h
      | true=>
       rw [hb] at h;have he:=zE hb;subst he;simp only [cond_true] at h;obtain ⟨hc,h⟩:=z0u h;have hc':t'=v:=by simpa using hc
       subst hc';have hne:id'≠id:=by intro hc;rw [hc,ho] at ho';simp at ho'
       refine ⟨some id',_,σ.kill id',rfl,rfl,fun j hj=>?_,fun j hj=>?_,h,fun w' g' hr hsv htg=>?_⟩
       ·simp only [St.kill];exact z0k _ _ (fun h=>hj (by rw [h]))
       ·simp only [zI] at hj;subst hj;exact ⟨by simp [St.kill,upd],hne,by rw [ho'];simp⟩
       ·obtain ⟨v0,hv0,_,hvv⟩:=hx;simp only [List.cons.injEq,and_true] at hv0;subst hv0;have hxs:=(hvv _ _ _ ho').2 rfl;obtain ⟨hro2,ad,cap,hcs,hsv2,h1,h2,h3⟩:=hst.heap.objs id' _ ho';refine ⟨ad,cap,by rw [hxs,hsv2];rfl,by rw [hsv,hxs,hsv2];rfl,h1,h2,?_⟩;rcases h3 with h3 | ⟨b,off,c,ee,ha,htag,hcell,hs,hel⟩
        ·exact .inl h3
        ·obtain ⟨k1,k2⟩:=htg b ⟨id',rfl,htag⟩;exact .inr ⟨b,off,c,ee,ha,k1,k2.trans hcell,hs,fun i hi=>Rep.anyOwn (o:=none) hro2 ((Rep.anyOwn (o':=none) hro2 (hel i hi)).kept hr)⟩
     ·simp at h
    ·simp at h
   obtain ⟨fr,d,σ1,hs1,hn1,hob1,hob2,hset,hmv⟩:=key;have hp:p≠[]:=by intro hp;subst hp;simp [tyR] at hty
   have hqq:∃ i0 p',p = .idx i0 :: p':=by
    cases p with
    | nil=>exact absurd rfl hp
    | cons s p'=>cases s with
     | idx i0=>exact ⟨i0,p',rfl⟩
     | fst=>simp [tyR] at hty
     | snd=>simp [tyR] at hty
   have htyQ:tyQ (.sl true t) p=some v:=by
    obtain ⟨i0,p',rfl⟩:=hqq;simpa [tyR,tyQ] using hty
   obtain ⟨l1,hl1⟩:=zbn (.sl true t) l p htyQ hset;obtain ⟨_,v',b1,off1,c,ee,pre,hty',hpl',htag,hpre,hcell,hoff,hwand⟩:=hhole v hty ⟨l1,hl1⟩;rw [hty] at hty';simp only [zI] at hty';subst hty';rw [hpl] at hpl';simp only [zI,Prod.mk.injEq] at hpl';obtain ⟨rfl,rfl⟩:=hpl';have hidf:some id≠fr:=fun hc=>(hob2 id hc).2.1 rfl
   have hclen:c.toList.length=c.size:=Array.length_toList;have hheap:∀ b,b≠b0->(w.setRow b0 (z0f c.toList off0 [x]).toArray).heap[b]? = w.heap[b]? := fun b hb=>setRow_other w b0 b _ hb
   have hro':RoKept w g (w.setRow b0 (z0f c.toList off0 [x]).toArray) (z7h g fr id p x):=
    ⟨fun b hb=>⟨zsp.2 hb,hheap b (fun he=>by rw [he,htag] at hb;simp at hb)⟩⟩
   have hrep:=hmv _ (z7h g fr id p x) hro' (by simp [z7h]) (fun b hb=>by
    obtain ⟨j,hj,hb⟩:=hb;refine ⟨by simp only [z7h,hb,if_pos hj];simp,hheap b (fun he=>?_)⟩;rw [he,htag] at hb;simp only [Tag.row.injEq] at hb;exact hidf (by rw [hb.1];exact hj))
   have hnear:Near w g (w.setRow b0 (z0f c.toList off0 [x]).toArray) (z7h g fr id p x) id p b0:=by
    refine ⟨hro',fun q hq=>?_,fun q b hb hq=>⟨zns hb hidf,fun hne=>hheap b hne⟩⟩;simp only [z7h];rw [if_neg];rintro ⟨_,rfl⟩;exact hq (List.prefix_refl _)
   obtain ⟨l2,hf2,hrep2⟩:=hwand _ _ d x hnear (setRow_heap w b0 c _ ee _ hcell) hrep _ _ hset;have hsame:∀ j,j≠id->some j≠fr->Same w g (w.setRow b0 (z0f c.toList off0 [x]).toArray) (z7h g fr id p x) j:=by
    intro j hj hjf;refine ⟨⟨fun q=>by simp only [z7h];rw [if_neg (fun h=>hj h.1)],fun q b hb=>⟨zns hb hjf,hheap b (fun he=>?_)⟩⟩,rfl,fun hb=>⟨zxh hb,hheap _ (fun he=>?_)⟩⟩
    ·rw [he,htag] at hb;simp only [Tag.row.injEq] at hb;exact hj hb.1.symm
    ·rw [he,htag] at hb;simp at hb
   have hσ:∀ j,(σ1.setObj id (.nest t l2 e (i+1) none)).objs j=if j=id then some (.nest t l2 e (i+1) none) else σ1.objs j:=by
    intro j;by_cases hj:j=id
    ·subst hj;simp [St.setObj,z0j]
    ·simp only [St.setObj,if_neg hj];exact z0k _ _ hj
   have hkept:∀ j,z15 g (z7h g fr id p x) j (σ.objs j) ((σ1.setObj id (.nest t l2 e (i+1) none)).objs j):=by
    intro j;rw [hσ];by_cases hj:j=id
    ·subst hj;rw [if_pos rfl];exact .inr (.inr (.inr (.inr ⟨t,l,l2,e,e,i,i+1,h0,none,ho,rfl,Nat.le_refl _,Nat.le_succ _,fun _=>by simp only [z7h];rw [if_neg (fun h=>hp h.2.symm)],fun h=>by omega⟩)))
    ·rw [if_neg hj];by_cases hjf:some j=fr
     ·exact .inl (hob2 j hjf).1
     ·rw [hob1 j hjf];exact z15.same (hsame j hj hjf)
   refine ⟨c,ee,pre,_,z7h g fr id p x,hf2,hcell,htag,hoff,?_,?_,?_,hn1⟩
   ·refine hst.step (m:=id) hro' (show (σ1.setObj id _).slots=σ.slots from hs1) (.inr (hkept id)) (fun j _=>hkept j) (fun j y hy=>?_) (fun b hb=>?_)
    ·rw [hσ] at hy;by_cases hj:j=id
     ·subst hj;rw [if_pos rfl] at hy;simp only [zI] at hy;subst hy;exact .inl hrep2
     ·rw [if_neg hj] at hy;by_cases hjf:some j=fr
      ·rw [(hob2 j hjf).1] at hy;simp at hy
      ·rw [hob1 j hjf] at hy;exact .inr ⟨hy,hsame j hj hjf⟩
    ·have:=hst.heap.tags b (fun h=>hb (zgn.2 h));simpa [World.setRow] using this
   ·refine ⟨rfl,rfl,rfl,Nat.le_refl _,by simp [World.setRow],fun b _ hb=>⟨hheap b (fun he=>?_),?_⟩⟩
    ·rw [he,htag] at hb;simp at hb
    ·rcases hb with hb | hb
     ·rw [hb];exact zgn.2 hb
     ·rw [hb];exact zsp.2 hb
   ·intro m hm;have hmid:m≠id:=by intro he;subst he;have:=hm.objs;rw [ho] at this;simp at this
    have hmf:some m≠fr:=fun hc=>(hob2 m hc).2.2 hm.objs
    refine ⟨by rw [hσ,if_neg hmid,hob1 m hmf];exact hm.objs,fun b q hb=>?_,fun b hb=>?_,fun j av hj=>hm.slots j av (by rw [←hs1];exact hj),fun j av hj=>?_⟩
    ·simp only [z7h] at hb;split at hb
     ·rename_i i' q' hg';split at hb
      ·simp only [Tag.row.injEq] at hb;exact hmid hb.1.symm
      ·exact hm.row b q (by rw [hg'];exact hb)
     ·exact hm.row b q hb
    ·simp only [z7h] at hb;split at hb
     ·split at hb <;> simp at hb
     ·exact hm.box b hb
    ·rw [hσ] at hj;split at hj
     ·simp at hj
     ·by_cases hjf:some j=fr
      ·rw [(hob2 j hjf).1] at hj;simp at hj
      ·rw [hob1 j hjf] at hj;exact hm.cells j av hj
 ·simp at h
open Classical in
noncomputable def outG (g:Ghost) (id:Nat) (p:z1a) (m:Nat):Ghost where
 tag:=fun b=>if g.tag b = .row id p then .row m [] else g.tag b
 sv:=fun i q=>if i=m then g.sv id p else g.sv i q
 blk:=g.blk
theorem out_ok {n:Nat} {a:Act} {id base:Nat} {t:Ty} {l:List t.den} {e i:Nat} {p:z1a} {v:Ty} {l1:List v.den} (hst:StOK n g w a σ) (hf:Fresh g σ base) (ho:σ.objs id=some (.nest t l e i none))
  (hro:v.isRo=true) (hty:tyR t p=some v) (hget:∀ (R':Type) (k':(u:Ty)->u.den->Option R'),z13 (.sl true t) l p k'=k' (.sl true v) l1) :
  let g':=outG g id p base;let σ':=(σ.setObj id (.nest t l e i (some p))).setObj base (.row v l1 0)
  StOK n g' w a σ'∧Ext w g w g'∧(∀ m,m≠base->Fresh g σ m->Fresh g' σ' m)∧g'.sv base []=g.sv id p∧RoKept w g w g':=by
 intro g' σ';have hobj:Rep w g (some (id,[])) (.sl true t) l [g.sv id []]:=hst.heap.objs id _ ho;obtain ⟨⟨⟨bk0,o0,cap0,hsv0⟩,v',b0,off,c,ee,pre,hty',hpl,htag,hpre,hcell,hoff,hwand⟩,hrow⟩:=zca hobj hty hget;have hbid:base≠id:=by intro he;subst he;have:=hf.objs;rw [ho] at this;simp at this
 have htg:∀ b,g.tag b≠.row id p->g'.tag b=g.tag b:=fun b hb=>by simp only [g',outG,if_neg hb]
 have hsv:∀ j q,j≠base->g'.sv j q=g.sv j q:=fun j q hj=>by simp only [g',outG,if_neg hj]
 have hro':RoKept w g w g':=⟨fun b hb=>⟨by rw [htg b (by rw [hb];simp)];exact hb,rfl⟩⟩;have hsame:∀ j,j≠id->j≠base->Same w g w g' j:=by
  intro j hj hjb;refine ⟨⟨fun q=>hsv j _ hjb,fun q b hb=>⟨?_,rfl⟩⟩,rfl,fun hb=>⟨?_,rfl⟩⟩
  ·rw [htg b (by rw [hb];simp only [ne_eq,Tag.row.injEq,not_and];exact fun h=>absurd h hj)];exact hb
  ·rw [htg _ (by rw [hb];simp)];exact hb
 have hσ:∀ j,σ'.objs j=if j=base then some (.row v l1 0) else if j=id then some (.nest t l e i (some p)) else σ.objs j:=by
  intro j;by_cases hj:j=base
  ·subst hj;simp [σ',St.setObj,z0j]
  ·simp only [σ',St.setObj,if_neg hj];rw [z0k _ _ hj];by_cases hj2:j=id
   ·subst hj2;simp [z0j]
   ·rw [if_neg hj2,z0k _ _ hj2]
 have hkept:∀ j,j≠base->z15 g g' j (σ.objs j) (σ'.objs j):=by
  intro j hj;rw [hσ,if_neg hj];by_cases hj2:j=id
  ·subst hj2;rw [if_pos rfl];exact .inr (.inr (.inr (.inr ⟨t,l,l,e,e,i,i,none,some p,ho,rfl,Nat.le_refl _,Nat.le_refl _,fun _=>hsv _ _ hj,fun _ _=>hsv _ _ hj⟩)))
  ·rw [if_neg hj2];exact z15.same (hsame j hj2 hj)
 have hsvb:g'.sv base []=g.sv id p:=by simp [g',outG]
 refine ⟨?_,⟨rfl,rfl,rfl,Nat.le_refl _,Nat.le_refl _,fun b _ hb=>⟨rfl,htg b (by rcases hb with hb | hb <;> rw [hb] <;> simp)⟩⟩,fun m hm hfm=>?_,hsvb,hro'⟩
 ·refine hst.step (m:=base) hro' rfl (.inl hf) hkept (fun j y hy=>?_) (fun b hb=>?_)
  ·rw [hσ] at hy;by_cases hj:j=base
   ·subst hj;rw [if_pos rfl] at hy;simp only [zI] at hy;subst hy;left;refine ⟨hro,?_⟩;obtain ⟨ad,cap,hcs,hsv2,h1,h2,h3⟩:=hrow;refine ⟨ad,cap,by rw [hsvb];exact hcs,by rw [hsvb];exact hsv2,h1,h2,?_⟩;rcases h3 with h3 | ⟨b,of,cc,e3,ha,htag3,hcell3,hs,hel⟩
    ·exact .inl h3
    ·exact .inr ⟨b,of,cc,e3,ha,by simp only [g',outG,if_pos htag3],hcell3,hs,fun i hi=>Rep.anyOwn (o:=none) hro ((Rep.anyOwn (o':=none) hro (hel i hi)).kept hro')⟩
   ·rw [if_neg hj] at hy;by_cases hj2:j=id
    ·subst hj2;rw [if_pos rfl] at hy;simp only [zI] at hy;subst hy;left;have hnp:∀ q,¬ p <+: q->q≠p:=fun q hq he=>hq (by rw [he];exact List.prefix_refl _)
     refine ⟨⟨bk0,o0,cap0,by rw [hsv j [] hj];exact hsv0⟩,v',b0,off,c,ee,pre,hty',by rw [z2z (fun q=>hsv j q hj)];exact hpl,?_,hpre,hcell,hoff,fun w2 g2 l3 x hn hc2 hr2 R f r hset=>?_⟩
     ·rw [htg b0 (by rw [htag];simp only [ne_eq,Tag.row.injEq,true_and];intro h;rw [h] at hpre;omega)];exact htag
     ·refine hwand w2 g2 l3 x ⟨⟨fun b hb=>?_⟩,fun q hq=>(hn.sv q hq).trans (hsv j q hj),fun q b hb hq=>?_⟩ hc2 hr2 f r hset
      ·exact hn.ro.blk b (hro'.blk b hb).1
      ·have:g'.tag b = .row j q:=by
        rw [htg b (by rw [hb];simp only [ne_eq,Tag.row.injEq,true_and];exact hnp q hq)];exact hb
       exact hn.blk q b this hq
    ·rw [if_neg hj2] at hy;exact .inr ⟨hy,hsame j hj2 hj⟩
  ·by_cases hb2:g.tag b = .row id p
   ·exact hst.heap.tags b (by rw [hb2];simp)
   ·rw [htg b hb2] at hb;exact hst.heap.tags b hb
 ·have hmid:m≠id:=by intro he;subst he;have:=hfm.objs;rw [ho] at this;simp at this
  refine ⟨by rw [hσ,if_neg hm,if_neg hmid];exact hfm.objs,fun b q hb=>?_,fun b hb=>?_,hfm.slots,fun j av hj=>?_⟩
  ·by_cases hb2:g.tag b = .row id p
   ·simp only [g',outG,if_pos hb2,Tag.row.injEq] at hb;exact hm hb.1.symm
   ·rw [htg b hb2] at hb;exact hfm.row b q hb
  ·by_cases hb2:g.tag b = .row id p
   ·simp [g',outG,if_pos hb2] at hb
   ·rw [htg b hb2] at hb;exact hfm.box b hb
  ·rw [hσ] at hj;split at hj
   ·simp at hj
   ·split at hj
    ·simp at hj
    ·exact hfm.cells j av hj
end
end Go.Kz
namespace Go.Kz
variable {R:Type}
section
variable {P:Program} {o:Oper} {a:Act} {w:World} {K:Act->World->Prop} {Q:Exit->Act->World->Prop} {c:Ctx} {σ:St} {g:Ghost} {k:St->Option R} {r:R} {base:Nat} {mo:Bool}
theorem zuj {id:Nat} {t:Ty} {l:List t.den} {e i:Nat} {p:z1a} {av:AVal} {f:St->Option R} (h:zgm σ id t l e i p av f=some r):av.sk = .leaf:=by
 unfold zgm at h;split at h
 ·rename_i v _
  cases hro:v.isRo with
  | false=>rw [hro] at h;simp at h
  | true=>
   rw [hro] at h;simp only [cond_true] at h;unfold z5f at h;split at h
   ·rfl
   ·rfl
   ·simp at h
 ·simp at h
theorem zkt {t:TypeId} {x y:Operand} {u:Ty} {bv:AVal} {cs:List Value} {id:Nat} {p:z1a} {ep:Nat} (ho:o.op = .store t x y) (hdst:o.dst=none) (hT:z2j P u t) (hst:StOK c.ntmps g w a σ)
  (ex:VOK w g σ.objs (.nv true id p ep) (a.eval x)) (hok:AOK w g σ.objs bv cs) (hcells:(a.eval y).cells.toList=cs) (hcl:cs.length=u.size) (hsk:u.sk=bv.sk)
  (h:z8d σ id p ep bv k=some r) (hK:z79 c.ntmps k r g w σ base true K):o.wp P a w K Q:=by
 simp only [VOK] at ex;obtain ⟨cs0,⟨v0,rfl,hone,hv⟩,hv'⟩:=ex;have hfill:∀ {t1:Ty} {l1:List t1.den} {e i:Nat} {h0:Option z1a},σ.objs id=some (.nest t1 l1 e i h0)->i=ep->
   (∀ v,tyR t1 p=some v->(∃ l2:List v.den,∀ (R':Type) (k':(u:Ty)->u.den->Option R'),z13 (.sl true t1) l1 p k'=k' (.sl true v) l2)->zth w g id t1 l1 p)->
   zgm σ id t1 l1 e i p bv k=some r->o.wp P a w K Q:=by
  intro t1 l1 e i h0 hobj hi hhole h;obtain ⟨hp,b0,off0,hpl,hvv⟩:=((hv _ _ _ _ _ hobj).2 hi).2 rfl;have hl:=zuj h;have hl1:cs.length=1:=by rw [hok.len,hl];rfl
  obtain ⟨z,rfl⟩:=List.length_eq_one_iff.1 hl1;obtain ⟨cc,ee,pre,σ',g',hk,hcell,htag,hoff,hst',hext,hfr,hn⟩:=nfill_ok hst hobj hhole hpl hok h;have hrun:=z6y (P:=P) (w:=w) (off:=off0) hT hcell hcells hcl (by rw [←hcl];simp;omega) hok.one;have hv2:a.eval x = .pointer (some ⟨b0,off0,none⟩):=by rw [hv'];exact hvv
  refine wp_skip hdst ?_ hst' hext (fun m _ hfm=>hfr m hfm) hn hk (fun h=>Bool.noConfusion h) hK;simp [execOp,ho,hv2,Instr.storeAt,Instr.sureAddr,hrun]
 unfold z8d at h;split at h
 ·rename_i t1 l1 e i hobj
  cases hb:Nat.beq i ep with
  | false=>rw [hb] at h;simp at h
  | true=>
   rw [hb] at h;have hi:=zE hb;simp only [cond_true] at h;have hwhole:Rep w g (some (id,[])) (.sl true t1) l1 [g.sv id []]:=hst.heap.objs id _ hobj
   cases hs:(tyR t1 p).isSome with
   | true=>
    rw [hs] at h;simp only [cond_true] at h
    exact hfill hobj hi (fun v hty ⟨l2,hl2⟩=>(zca hwhole hty hl2).1) h
   | false=>
    rw [hs] at h;simp only [cond_false] at h;split at h
    ·rename_i s p1 j q hlast;have hpp:=zj9 hlast;obtain ⟨U,X,hk1,hget⟩:=zdb _ _ _ h;split at hk1
     ·rename_i v l2
      cases hro:v.isRo with
      | false=>rw [hro] at hk1;simp at hk1
      | true=>
       rw [hro] at hk1;simp only [cond_true] at hk1;obtain ⟨u1,x1,hk2,hu1⟩:=zqr hro hk1;obtain ⟨d,σ1,g1,hk3,h1,h2,h3,hrep1⟩:=z5v 20 hst.heap hok hu1 hk2;have hst1:=h3.st h1 hst;split at hk3
       ·rename_i t2 l3 e2 i2 ho2;have hsame:σ1.objs id=σ.objs id:=by
         rcases h3.objs id with e | e
         ·exact e
         ·rw [e] at ho2;simp at ho2
        have ho1:σ1.objs id=some (.nest t1 l1 e i none):=hsame.trans hobj;obtain ⟨hp,b0,off0,hpl,hvv⟩:=((hv _ _ _ _ _ hobj).2 hi).2 rfl;have hpl1:z0w g1 id (.sl true t1) [] 0 0 (s :: p1 ++ .idx j :: q)=some (b0,off0):=by
         rw [←hpp];exact (z2z (g:=g) (g':=g1) (fun p=>by rw [h3.sv])).trans hpl
        obtain ⟨l',cc,ee,hf,hcell,htag,hsz,hobj'⟩:=zub hst1.heap ho1 hro hget hrep1 hpl1 hk3;have hur:u1.size=u.size:=by rw [←hrep1.len,hcl]
        have hrun:=z6y (P:=P) (w:=w) hT hcell hcells hcl (by rw [←hur];exact hsz) hok.one;have hRw:=z1t (w:=w) (g:=g1) (id:=id) (b0:=b0) (z0f cc.toList off0 cs).toArray (.inl ⟨_,htag⟩);have hst2:=hRw.st hst1 (o':=.nest t1 l' e i none) (.inr (.inr (.inr (.inr ⟨t1,l1,l',e,e,i,i,none,none,ho1,rfl,Nat.le_refl _,Nat.le_refl _,fun _=>rfl,fun _ _=>rfl⟩)))) hobj';have hv2:a.eval x = .pointer (some ⟨b0,off0,none⟩):=by rw [hv'];exact hvv
        refine wp_skip hdst ?_ hst2 (h3.ext.trans hRw.ext) (fun m _ hfm=>?_) h2 hf (fun h=>Bool.noConfusion h) hK
        ·simp [execOp,ho,hv2,Instr.storeAt,Instr.sureAddr,hrun]
        ·exact hRw.fresh (by rw [ho1];simp) (fun y hy=>by simp at hy) (h3.fresh h1 hfm)
       ·simp at hk3
     ·simp at hk1
    ·simp at h
 ·rename_i t1 l1 e i h0 hobj
  cases hb:Nat.beq i ep with
  | false=>rw [hb] at h;simp at h
  | true=>
   rw [hb] at h;have hi:=zE hb;simp only [cond_true] at h;obtain ⟨hpe,hfk⟩:=z1x h;obtain rfl:=zbw hpe;exact hfill hobj hi (fun v hty _=>hst.heap.objs id _ hobj) hfk
 ·simp at h
theorem zzo (htt:zbd P c.tt) {t:TypeId} {x y:Operand} (ho:o.op = .store t x y) (hst:StOK c.ntmps g w a σ) (h:z1s c σ base o k=some r) (hK:z79 c.ntmps k r g w σ base true K):o.wp P a w K Q:=by
 simp only [z1s,ho] at h;split at h
 ·rename_i av bv u hx hy hu hdst
  cases hb:(bv.val && u.sk.same bv.sk) with
  | false=>rw [hb] at h;simp at h
  | true=>
   rw [hb] at h;simp only [cond_true] at h;simp only [zA] at hb;have hsk:=Sk.same_eq hb.2;have hT:=htt _ _ hu;obtain ⟨ex,efx⟩:=z24 hst hx;obtain ⟨ey,efy⟩:=z24 hst hy;obtain ⟨cs,hok,hmk,hcells⟩:=z28 hb.1 ey;have hcl:cs.length=u.size:=by rw [hok.len,←hsk,Ty.sk_size]
   unfold zdr at h;split at h
   ·rename_i id p ep;split at h
    ·simp at h
    ·rename_i s q;obtain ⟨t0,l0,ho0⟩:=z80 h;simp only [VOK] at ex;obtain ⟨cs0,⟨v,rfl,hone,hv⟩,hv'⟩:=ex;obtain ⟨hp,b0,off0,hpl,hvv⟩:=(hv _ _ _ ho0).2 rfl;obtain ⟨t1,l1,u1,e1,b,off,cc,ee,ho1,hro,hk,hu1,hpl2,hty,htag,hcell,hsz,hrep⟩:=z7z hst.heap hp h;obtain ⟨d,σ1,g1,hk1,h1,h2,h3,hrep1⟩:=z5v 20 hst.heap hok hu1 hk;have hst1:=h3.st h1 hst;split at hk1
     ·rename_i t2 l2 e2 ho2
      cases hbe:Nat.beq e2 ep with
      | false=>rw [hbe] at hk1;simp at hk1
      | true=>
       rw [hbe] at hk1;have hee:=zE hbe;subst hee;simp only [cond_true] at hk1;have hsame:σ1.objs id=σ.objs id:=by
        rcases h3.objs id with e | e
        ·exact e
        ·rw [e] at ho2;simp at ho2
       have hpl1:z0w g1 id (.sl true t0) [] 0 0 (s :: q)=some (b0,off0):=by
        exact (z2z (g:=g) (g':=g1) (fun p=>by rw [h3.sv])).trans hpl
       have ht20:t2=t0:=by
        rw [hsame,ho0] at ho2;simp only [zI,Obj.row.injEq] at ho2;exact ho2.1.symm
       subst ht20
       cases s with
       | fst=>simp [z3z] at hk1
       | snd=>simp [z3z] at hk1
       | idx i=>
        obtain ⟨l',cc',ee',hf,hll,hcell',htag',hsz',hobj'⟩:=zvf hst1.heap ho2 hu1 hrep1 hpl1 hk1;have hur:u1.size=u.size:=by rw [←hrep1.len,hcl]
        have hrun:=z6y (P:=P) (w:=w) hT hcell' hcells hcl (by rw [←hur];exact hsz') hok.one;have hRw:=z1t (w:=w) (g:=g1) (id:=id) (b0:=b0) (z0f cc'.toList off0 cs).toArray (.inl ⟨[],htag'⟩);have hst2:=hRw.st hst1 (o':=.row t2 l' e2) (.inr (.inl ⟨t2,l2,l',e2,e2,ho2,rfl,.inr ⟨rfl,hll,fun _=>rfl⟩⟩)) hobj';have hv2:a.eval x = .pointer (some ⟨b0,off0,none⟩):=by rw [hv'];exact hvv
        refine wp_skip hdst ?_ hst2 (h3.ext.trans hRw.ext) (fun m _ hfm=>?_) h2 hf (fun h=>Bool.noConfusion h) hK
        ·simp [execOp,ho,hv2,Instr.storeAt,Instr.sureAddr,hrun]
        ·exact hRw.fresh (by rw [ho2];simp) (fun y hy=>by simp at hy) (h3.fresh h1 hfm)
     ·simp at hk1
   ·rename_i id p;split at h
    ·rename_i whole hobj;obtain ⟨hnt,h⟩:=z7t h;obtain ⟨cc,e,hcell,htag,hall⟩:=(hst.heap.objs id _ hobj).out hnt;obtain ⟨old,off,hk,hoff,hpart,_⟩:=z8k hall h
     cases hbo:old.sk.same bv.sk with
     | false=>rw [hbo] at hk;simp at hk
     | true=>
      rw [hbo] at hk;simp only [cond_true] at hk;have hos:=Sk.same_eq hbo;rw [hos] at hoff;obtain ⟨whole',hk2,hws,hwok,hids⟩:=zbp hok hall hoff hk;simp only [VOK] at ex;obtain ⟨cs0,⟨v,rfl,hone,hv⟩,hv'⟩:=ex;obtain ⟨off',s,hoff',hvv⟩:=hv _ hobj;rw [hoff] at hoff';simp only [zI,Prod.mk.injEq] at hoff';obtain ⟨rfl,_⟩:=hoff';have hle:=Sk.off_le hoff;have hall':=hall.len;rw [Array.length_toList] at hall';have hbs:bv.sk.size=u.size:=by rw [←hsk,Ty.sk_size]
      have hrun:=z6y (P:=P) (w:=w) (u:=u) (off:=off) hT hcell hcells hcl (by omega) hok.one;have hRw:=z1t (w:=w) (g:=g) (id:=id) (b0:=g.blk id) (z0f cc.toList off cs).toArray (.inr htag);have hkept:∀ i,z15 g g i (σ.objs i) ((σ.setObj id (.cell whole')).objs i):=by
       intro i;by_cases hi:i=id
       ·subst hi;simp only [St.setObj,z0j];exact .inr (.inr (.inl ⟨whole,whole',hobj,rfl,hws,rfl⟩))
       ·simp only [St.setObj];rw [z0k _ _ hi];exact z15.same (hRw.same hi)
      have hst2:=hRw.st hst (o':=.cell whole') (.inr (.inr (.inl ⟨whole,whole',hobj,rfl,hws,rfl⟩))) (by
       refine z14.mk ⟨(z0f cc.toList off cs).toArray,e,setRow_heap w _ cc _ e _ hcell,htag,?_⟩;exact AOK.frame hRw.ro (fun i _=>hkept i) hwok)
      have hv2:a.eval x = .pointer (some ⟨g.blk id,off,none⟩):=by rw [hv'];exact hvv
      refine wp_skip (σ:=σ) hdst ?_ hst2 hRw.ext (fun m _ hfm=>?_) rfl hk2 (fun h=>Bool.noConfusion h) hK
      ·simp [execOp,ho,hv2,Instr.storeAt,Instr.sureAddr,hrun]
      ·refine hRw.fresh (by rw [hobj];simp) (fun y hy=>?_) hfm;simp only [Obj.cell.injEq] at hy;subst hy;exact hids m (hfm.cells _ _ hobj) (efy m hfm)
    ·simp at h
   ·rename_i id p ep;exact zkt ho hdst hT hst ex hok hcells hcl hsk h hK
   ·simp at h
 ·simp at h
end
end Go.Kz
namespace Go.Kz
variable {R:Type}
section
variable {P:Program} {o:Oper} {a:Act} {w:World} {K:Act->World->Prop} {Q:Exit->Act->World->Prop} {c:Ctx} {σ:St} {g:Ghost} {k:St->Option R} {r:R} {base:Nat}
structure Tail (P:Program) (w:World) (g:Ghost) (t:Ty) (x:Value) (m:List t.den) (news:List Value):Prop where
 len:∀ w':World,w'.heap=w.heap->(Builtin.lenOf x).run P w' = .ok m.length w'
 cells:∀ w':World,w'.heap=w.heap->(Builtin.firstCells t.size m.length x).run P w' = .ok news.toArray w'
 pre:∀ n,n≤m.length->∀ w':World,w'.heap=w.heap->(Builtin.firstCells t.size n x).run P w' = .ok (news.take (n*t.size)).toArray w'
 length:news.length=m.length*t.size
 elts:∀ (i:Nat) (h:i < m.length),Rep w g none t (m.get ⟨i,h⟩) (seg news (i*t.size) t.size)
 one:∀ v∈news,v.oneCell'=true
theorem zhb {w w':World} (h:w'.heap=w.heap) (ad:Addr):w'.cell? ad=w.cell? ad:=by simp [World.cell?,h]
theorem Tail.of_block {t:Ty} {m:List t.den} {b off cap:Nat} {cc:Array Value} {e:TypeId} {fz:Nat×Nat} (hc:w.heap[b]? = some (.cells cc e fz)) (hs:off+m.length*t.size≤cc.size)
  (hel:∀ (i:Nat) (h:i < m.length),Rep w g none t (m.get ⟨i,h⟩) (seg cc.toList (off+i*t.size) t.size)) :
  Tail P w g t (.slice (some ⟨b,off,none⟩) m.length cap) m (seg cc.toList off (m.length*t.size)):=by
 have hlen:(seg cc.toList off (m.length*t.size)).length=m.length*t.size:=z20 (by rw [Array.length_toList];exact hs);refine ⟨fun w' _=>rfl,fun w' hw'=>?_,fun n hn w' hw'=>?_,hlen,fun i hi=>?_,fun v hv=>?_⟩
 ·refine run_firstCells_some (P:=P) w' t.size m.length ⟨b,off,none⟩ m.length cap _ hlen (fun j v hv=>?_);rw [Addr.add_lit,zhb hw',cell_of_row w b (off+j) cc e fz hc];simp only [seg,List.getElem?_take,List.getElem?_drop] at hv;split at hv
  ·simpa using hv
  ·simp at hv
 ·have hnm:n*t.size≤m.length*t.size:=Nat.mul_le_mul_right _ hn;refine run_firstCells_some (P:=P) w' t.size n ⟨b,off,none⟩ m.length cap _ (by rw [List.length_take,hlen];omega) (fun j v hv=>?_);rw [Addr.add_lit,zhb hw',cell_of_row w b (off+j) cc e fz hc];simp only [seg,List.getElem?_take,List.getElem?_drop] at hv;split at hv
  ·split at hv
   ·simpa using hv
   ·simp at hv
  ·simp at hv
 ·have hmul:(i+1)*t.size≤m.length*t.size:=Nat.mul_le_mul_right _ hi;rw [Nat.add_mul] at hmul;rw [z7b _ _ _ _ _ (by omega)];exact hel i hi
 ·obtain ⟨j,hj,rfl⟩:=List.mem_iff_getElem.1 hv;have hj':=hj;rw [hlen] at hj';have htz:0 < t.size:=by
   rcases Nat.eq_zero_or_pos t.size with hz | hz
   ·rw [hz] at hj';omega
   ·exact hz
  have hi:j / t.size < m.length:=Nat.div_lt_of_lt_mul (by rw [Nat.mul_comm];omega);have h1:=(hel _ hi).one;refine h1 _ ?_;have hm:=Nat.mod_lt j htz;have hdm:=Nat.div_add_mod j t.size;have hmul:(j / t.size+1)*t.size≤m.length*t.size:=Nat.mul_le_mul_right _ hi;rw [Nat.add_mul] at hmul;refine List.mem_iff_getElem.2 ⟨j % t.size,?_,?_⟩
  ·rw [z20 (by rw [Array.length_toList];omega)];exact hm
  ·simp only [seg,List.getElem_take,List.getElem_drop];congr 1;rw [Nat.add_assoc,Nat.mul_comm (j / t.size),hdm]
theorem Tail.of_nil {t:Ty} {b:Option Addr} {cap:Nat}:Tail P w g t (.slice b 0 cap) ([]:List t.den) []:=by
 have h0:∀ w':World,(Builtin.firstCells t.size 0 (.slice b 0 cap)).run P w' = .ok #[] w':=fun w'=>by
  cases b with
  | none=>simp [Builtin.firstCells]
  | some b=>simp [Builtin.firstCells,loadCells,loadCellsFrom]
 refine ⟨fun w' _=>rfl,fun w' _=>h0 w',fun n hn w' _=>?_,by simp,fun i h=>by simp at h,by simp⟩;have:n=0:=by simpa using hn
 subst this;simpa using h0 w'
theorem zvj (w:World) (g:Ghost):RoKept w g w g:=⟨fun _ hb=>⟨hb,rfl⟩⟩
theorem zfd (hh:HeapOK w g σ.objs) {x:AVal} {v:Value} {t:Ty} {f:List t.den->Option R} (ht:t.isRo=true) (hx:VOK w g σ.objs x v) (h:z0d σ 20 x (.sl false t) f=some r) (hval:x.val=true) (hnv:x.isNv=false) :
  ∃ m news,f m=some r∧Tail P w g t v m news:=by
 cases x with
 | data t' d=>
  simp only [z0d] at h;obtain ⟨he,h⟩:=z0u h;subst he;simp only [VOK] at hx;obtain ⟨cs,⟨hro,b,cap,rfl,h1,h2,h3⟩,hv⟩:=hx;have hv':v = .slice b (List.length d) cap:=hv;subst hv';refine ⟨d,?_⟩;by_cases hn:d=[]
  ·subst hn;exact ⟨[],h,Tail.of_nil⟩
  ·obtain ⟨bk,off,cc,e,fz,rfl,htag,hcell,hsz,hel⟩:=h3 hn
   exact ⟨_,h,Tail.of_block hcell hsz hel⟩
 | nilS=>
  simp only [z0d] at h;have hv:=zbc.1 hx;subst hv;have h':f []=some r:=by
   have:(Ty.sl false t).isRo=true:=by simp [Ty.isRo,ht]
   rw [this] at h;exact h
  exact ⟨[],[],h',Tail.of_nil⟩
 | ref id p ep=>
  simp only [z0d] at h;obtain ⟨t',l,hobj,rfl,hro,h⟩:=z4t hh h;obtain ⟨he,h⟩:=z0u h;have he':t'.ro=t:=by
   have:Ty.sl false t'.ro=Ty.sl false t:=he;simpa using this
  subst he';simp only [VOK] at hx;obtain ⟨cs,⟨x,rfl,_,hv⟩,hv'⟩:=hx;have e1:=(hv _ _ _ hobj).2 rfl;obtain ⟨b,cap,_,hsv,h1,h2,h3⟩:=(hh.objs _ _ hobj).2;have hvv:v = .slice b l.length cap:=by rw [←hsv,←e1];exact hv'
  subst hvv;have hm:∀ (hc:(Ty.ro (.sl false t')).den=(Ty.sl false t'.ro).den),(cast hc (Ty.toRo (.sl false t') l):List t'.ro.den)=l.map (Ty.toRo t'):=fun _=>zfc false t' l
  rw [hm] at h;rcases h3 with ⟨rfl,hl,rfl⟩ | ⟨bk,off,cc,e,rfl,htag,hcell,hsz,hel⟩
  ·subst hl;exact ⟨[],[],h,Tail.of_nil⟩
  ·refine ⟨_,seg cc.toList off (l.length*t'.ro.size),h,?_⟩;have hlm:(l.map (Ty.toRo t')).length=l.length:=by simp
   have hcap:l.length*t'.size≤cap*t'.size:=Nat.mul_le_mul_right _ h1;have:=Tail.of_block (P:=P) (w:=w) (g:=g) (t:=t'.ro) (m:=l.map (Ty.toRo t')) (b:=bk) (off:=off) (cap:=cap) hcell (by rw [hlm,Ty.size_ro];omega) (fun i hi=>by
    have hi':i < l.length:=by rw [hlm] at hi;exact hi
    have hf:=Rep.freeze (zvj w g) (o:=none) trivial (Rep.anyOwn (o':=none) hro (hel i hi'));simp only [List.get_eq_getElem,List.getElem_map,Ty.size_ro] at hf ⊢;exact hf)
   rw [hlm] at this
   exact this
 | view id p ep av bv=>
  simp only [z0d] at h;obtain ⟨t',l,hobj,rfl,hro,h⟩:=z4t hh h;obtain ⟨he,h⟩:=z0u h;have he':t'.ro=t:=by
   have:Ty.sl false t'.ro=Ty.sl false t:=he;simpa using this
  subst he';simp only [VOK] at hx;obtain ⟨cs,⟨x,rfl,_,hv⟩,hv'⟩:=hx;obtain ⟨_,h0,hab,hbl,e1⟩:=(hv _ _ _ hobj).2 rfl;obtain ⟨b,cap,_,hsv,h1,h2,h3⟩:=(hh.objs _ _ hobj).2;have hvv:v=z2g (.slice b l.length cap) t'.size av bv:=by rw [←hsv,←e1];exact hv'
  have hm:∀ (hc:(Ty.ro (.sl false t')).den=(Ty.sl false t'.ro).den),(cast hc (Ty.toRo (.sl false t') (sub l av bv)):List t'.ro.den)=(sub l av bv).map (Ty.toRo t'):=fun _=>zfc false t' _
  rw [hm] at h;have hsl:=z7q l av bv h0 hab hbl;have hlm:((sub l av bv).map (Ty.toRo t')).length=(bv-av).toNat:=by rw [List.length_map,hsl];omega
  by_cases hz:(bv-av).toNat=0
  ·have hnil:(sub l av bv).map (Ty.toRo t')=[]:=List.eq_nil_of_length_eq_zero (hlm.trans hz);rw [hnil] at h;refine ⟨[],[],h,?_⟩;rw [hvv];simp only [z2g,hz];exact Tail.of_nil
  ·rcases h3 with ⟨rfl,hl,rfl⟩ | ⟨bk,off,cc,e,rfl,htag,hcell,hsz,hel⟩
   ·rw [hl] at hbl;simp at hbl;omega
   ·refine ⟨_,seg cc.toList (off+av.toNat*t'.size) ((bv-av).toNat*t'.ro.size),h,?_⟩;have hcap:(av.toNat+(bv-av).toNat)*t'.size≤cap*t'.size:=Nat.mul_le_mul_right _ (by omega);rw [Nat.add_mul] at hcap;have:=Tail.of_block (P:=P) (w:=w) (g:=g) (t:=t'.ro) (m:=(sub l av bv).map (Ty.toRo t')) (b:=bk) (off:=off+av.toNat*t'.size) (cap:=cap-av.toNat) hcell (by rw [hlm,Ty.size_ro];omega) (fun i hi=>by
     have hi1:i < (sub l av bv).length:=by simpa using hi
     have hi2:av.toNat+i < l.length:=by omega
     have hf:=Rep.freeze (zvj w g) (o:=none) trivial (Rep.anyOwn (o':=none) hro (hel _ hi2));have hg:=zff l av bv i hi1 hi2;rw [List.get_eq_getElem] at hg;rw [List.get_eq_getElem,List.getElem_map,hg,Ty.size_ro];have e3:off+av.toNat*t'.size+i*t'.size=off+(av.toNat+i)*t'.size:=by rw [Nat.add_mul];omega
     rw [e3];exact hf)
    rw [hlm] at this;rw [hvv];simp only [z2g];rw [if_neg (by omega)];simp only [Option.map_some,Addr.add_lit]
    exact this
 | agg c=>cases c <;> simp [AVal.val] at hval <;> simp [z0d] at h
 | nv pt id p ep=>simp [AVal.isNv] at hnv
 | _=>simp [z0d] at h
theorem z91 {T E:TypeId} {t u:Ty} (hund:P.underlying T=some (.slice E)) (hE:InfoOK P E u) (hus:u.size=t.size) {ty:TypeId} {b off n cap:Nat} {cc:Array Value} {e:TypeId} {x:Value} {m:List t.den} {news:List Value}
  (hc:w.heap[b]? = some (.cells cc e (0,0))) (ht:Tail P w g t x m news) (hroom:n+m.length≤cap) (hsz:off+cap*t.size≤cc.size) :
  (Builtin.append_ #[T,T] ty #[.slice (some ⟨b,off,none⟩) n cap,x]).run P w = .ok (.slice (some ⟨b,off,none⟩) (n+m.length) cap) (w.setRow b (z0f cc.toList (off+n*t.size) news).toArray):=by
 have hs:=hE.sizeOf w;rw [hus] at hs;have h1:=ht.len w rfl;have h2:=ht.cells w rfl;have hmul:(n+m.length)*t.size≤cap*t.size:=Nat.mul_le_mul_right _ hroom;rw [Nat.add_mul] at hmul;have hst:=run_storeCells_at P b (off+n*t.size) e news 0 cc w hc (by rw [ht.length];omega) ht.one;simp only [Nat.add_zero] at hst;simp [Builtin.append_,run_underlying hund,hs,h1,hroom,h2,Addr.add_lit,hst,z0f]
theorem z90 {T E:TypeId} {t u:Ty} (hund:P.underlying T=some (.slice E)) (hE:InfoOK P E u) (hus:u.size=t.size) {ty:TypeId} {x:Value} {news:List Value} (ht:Tail P w g t x ([]:List t.den) news) :
  (Builtin.append_ #[T,T] ty #[.slice none 0 0,x]).run P w = .ok (.slice none 0 0) w:=by
 have hs:=hE.sizeOf w;rw [hus] at hs;have h1:=ht.len w rfl;have h2:=ht.cells w rfl;simp only [List.length_nil] at h1 h2;simp [Builtin.append_,run_underlying hund,hs,h1,h2]
theorem z6e {T E:TypeId} {t u:Ty} (hund:P.underlying T=some (.slice E)) (hE:InfoOK P E u) (hus:u.size=t.size) {ty:TypeId} {b:Option Addr} {n cap:Nat} {x:Value} {m:List t.den} {news olds:List Value}
  (ht:Tail P w g t x m news) (hroom:cap < n+m.length) (hbig:n+m.length≤4294967296)
  (hold:∀ w':World,w'.heap=w.heap->(Builtin.firstCells t.size n (.slice b n cap)).run P w' = .ok olds.toArray w') :
  ∃ zs,(Builtin.append_ #[T,T] ty #[.slice b n cap,x]).run P w = .ok (.slice (some ⟨w.heap.size,0,none⟩) (n+m.length) (grownCap w (n+m.length) cap E))
   (w.drew.alloc (.cells (olds.toArray++news.toArray++zs) E))∧zs.size=(grownCap w (n+m.length) cap E-(n+m.length))*t.size:=by
 obtain ⟨i,z,hi1,hi2,hi3,hi4,hi5,hi6⟩:=hE.info;rw [hus] at hi2;have h1:=ht.len w rfl;have h2:=ht.cells w.drew rfl;have h3:=hold w.drew rfl;have hn:¬ (n+m.length≤cap):=by omega
 have hmb:(n+m.length)*i.bytes≤4294967296*32768:=Nat.mul_le_mul hbig hi3;have hfit:=growslice_fits (need:=n+m.length) (old:=cap) (bytes:=i.bytes) hroom (by omega);have h48':¬ (281474976710656 < Builtin.nextslicecap (n+m.length) cap*i.bytes):=by omega
 have h63':¬ (9223372036854775807 < ((n:Int)+(m.length:Int))):=by omega
 refine ⟨Builtin.zeroCells z.cells (grownCap w (n+m.length) cap E-(n+m.length)),?_,?_⟩
 ·rw [←hi2] at h2 h3;simp [Builtin.append_,run_underlying hund,Go.sizeOf,typeInfo,zeroValue,hi1,hi4,h1,hn,h63',h48',Question.forced,h2,h3,newRow,grownCap];rw [show (olds++news).toArray=olds.toArray++news.toArray from by simp,Array.append_assoc]
 ·rw [size_zeroCells,←Array.length_toList,hi5,z16,hus]
end
end Go.Kz
namespace Go.Kz
variable {R:Type}
theorem z5a (l:List Value) (off:Nat) (x:List Value) (j n:Nat) (h:j+n≤x.length) (hl:off+x.length≤l.length):seg (z0f l off x) (off+j) n=seg x j n:=by
 rw [←z7b _ off x.length j n h,z6a _ _ _ hl]
section
variable {w:World} {g:Ghost} {σ:St} {o:Obj} {m:Nat} {tg:Tag} {v:Value}
theorem StOK.turn {n:Nat} {a:Act} {w':World} {g':Ghost} {id:Nat} (hst:StOK n g w a σ) (hr:RoKept w g w' g') (hs:∀ i,i≠id->Same w g w' g' i)
  (hk:z15 g g' id (σ.objs id) (some o)∨Fresh g σ id) (hobj:z14 w' g' (σ.setObj id o).objs id o) (ht:∀ b,g'.tag b≠.alien->b < w'.heap.size):StOK n g' w' a (σ.setObj id o):=by
 have hother:∀ i,i≠id->z15 g g' i (σ.objs i) ((σ.setObj id o).objs i):=by
  intro i hi;simp only [St.setObj];rw [z0k _ _ hi];exact z15.same (hs i hi)
 have hme:∀ i,(Fresh g σ id->i≠id)->z15 g g' i (σ.objs i) ((σ.setObj id o).objs i):=by
  intro i hi;by_cases he:i=id
  ·subst he;rcases hk with hk | hk
   ·simp only [St.setObj,z0j];exact hk
   ·exact absurd rfl (hi hk)
  ·exact hother i he
 refine ⟨fun i av hi=>?_,⟨fun i x hx=>?_,ht⟩,hst.size,hst.defers,hst.known.kept hr⟩
 ·obtain ⟨u,hu,hok⟩:=hst.slots i av hi;refine ⟨u,hu,VOK.frame hr (fun j hj=>hme j (fun hf he=>?_)) hok⟩;subst he;exact hf.slots i av hi hj
 ·by_cases hi:i=id
  ·subst hi;simp only [St.setObj,z0j,zI] at hx;subst hx;exact hobj
  ·have hx':σ.objs i=some x:=by simpa [St.setObj,z0k _ _ hi] using hx
   refine z14.frame hr (hs i hi) (fun y hy j hj=>hme j (fun hf he=>?_)) (hst.heap.objs i x hx');subst he;subst hy;exact hf.cells i y hx' hj
theorem Fresh.turn {g':Ghost} {id:Nat} (ht:∀ b,g'.tag b=g.tag b∨∃ p,g'.tag b = .row id p) (hm:m≠id) (ho:∀ y,o≠.cell y) (hf:Fresh g σ m):Fresh g' (σ.setObj id o) m:=by
 refine ⟨by simp only [St.setObj];rw [z0k _ _ hm];exact hf.objs,fun b p hb=>?_,fun b hb=>?_,hf.slots,fun i av hi=>?_⟩
 ·rcases ht b with h | ⟨q,h⟩
  ·rw [h] at hb;exact hf.row b p hb
  ·rw [h] at hb;simp only [Tag.row.injEq] at hb;exact hm hb.1.symm
 ·rcases ht b with h | ⟨q,h⟩
  ·rw [h] at hb;exact hf.box b hb
  ·rw [h] at hb;simp at hb
 ·by_cases he:i=id
  ·subst he;simp only [St.setObj,z0j,zI] at hi;exact absurd hi (ho av)
  ·simp only [St.setObj] at hi;rw [z0k _ _ he] at hi;exact hf.cells i av hi
def svG (g:Ghost) (id:Nat) (v:Value):Ghost:={ g with sv:=fun i p=>if i=id then v else g.sv i p }
theorem zel {id i:Nat} (h:i≠id):Same w g w (svG g id v) i:=
 ⟨⟨fun q=>by simp [svG,h],fun _ b hb=>⟨hb,rfl⟩⟩,rfl,fun hb=>⟨hb,rfl⟩⟩
theorem StOK.heapEq {n:Nat} {a:Act} {w':World} (h:w'.heap=w.heap) (hst:StOK n g w a σ):StOK n g w' a σ:=by
 have hr:RoKept w g w' g:=⟨fun b hb=>⟨hb,by rw [h]⟩⟩;have hs:∀ id,Same w g w' g id:=fun id=>⟨⟨fun _=>rfl,fun _ b hb=>⟨hb,by rw [h]⟩⟩,rfl,fun hb=>⟨hb,by rw [h]⟩⟩
 have hk:∀ id,z15 g g id (σ.objs id) (σ.objs id):=fun id=>z15.refl g id _
 refine ⟨fun i av hi=>?_,⟨fun id x hx=>?_,fun b hb=>?_⟩,hst.size,hst.defers,hst.known.kept hr⟩
 ·obtain ⟨u,hu,hok⟩:=hst.slots i av hi;exact ⟨u,hu,VOK.frame hr (fun id _=>hk id) hok⟩
 ·exact z14.frame hr (hs id) (fun _ _ id' _=>hk id') (hst.heap.objs id x hx)
 ·rw [h];exact hst.heap.tags b hb
theorem Ext.heapEq {w':World} (h:w'.heap=w.heap) (ho:w'.os=w.os) (ht:w'.tape=w.tape) (hp:w'.output=w.output) (hd:w.drawn≤w'.drawn):Ext w g w' g:=
 ⟨ho,ht,hp,hd,by rw [h];exact Nat.le_refl _,fun b _ _=>⟨by rw [h],rfl⟩⟩
end
section
variable {P:Program} {o:Oper} {a:Act} {w:World} {K:Act->World->Prop} {Q:Exit->Act->World->Prop} {c:Ctx} {σ:St} {g:Ghost} {k:St->Option R} {r:R} {base:Nat} {mo:Bool}
theorem z3i {σ':St} {g':Ghost} {w':World} {av:AVal} {v:Value} (hrun:(execOp a.eval o).run P w = .ok (.value v) w') (hst:StOK c.ntmps g' w' a σ') (hext:Ext w g w' g')
  (hfr:∀ m,(m < base∨base+8≤m)->Fresh g σ m->Fresh g' σ' m∧m∉av.ids) (hn:σ'.next=σ.next) (hv:VOK w' g' σ'.objs av v)
  (h:σ'.putK c o.dst av k=some r) (hag:mo=false->z44 w w') (hK:z79 c.ntmps k r g w σ base mo K):o.wp P a w K Q:=by
 unfold Oper.wp;rw [hrun,Oper.upon_value];rcases z6h h with ⟨hd,hk⟩ | ⟨i,hd,hi,hk⟩
 ·rw [hd];exact hK σ' g' a w' hk hst hext (fun m hm hf=>(hfr m hm hf).1) hn hag
 ·rw [hd];exact hK _ g' _ w' hk (hst.put hi hv) hext (fun m hm hf=>(hfr m hm hf).1.set i (hfr m hm hf).2) hn hag
theorem zdn {objs:z2c} {u:Ty} {l:List u.den} {v:Value} {ep id:Nat} (ho:objs id=some (.row u l ep)) (hsv:v=g.sv id []) (hone:v.oneCell'=true) :
  VOK w g objs (.ref id [] ep) v:=by
 simp only [VOK];refine ⟨_,⟨v,rfl,hone,fun t l' e hx=>?_⟩,rfl⟩;rw [ho] at hx;simp only [zI,Obj.row.injEq] at hx;obtain ⟨_,_,rfl⟩:=hx;exact ⟨Nat.le_refl _,fun _=>hsv⟩
theorem z7o {t:Ty} {x:AVal} {f:List t.den->Option R} (h:zfe σ t x f=some r):t.isRo=true∧x.val=true∧z0d σ 20 x (.sl false t) f=some r∧x.isNv=false:=by
 unfold zfe at h
 cases hb:(t.isRo && x.val && !x.isNv) with
 | false=>rw [hb] at h;simp at h
 | true=>
  rw [hb] at h;simp only [zA,Bool.not_eq_true'] at hb;exact ⟨hb.1.1,hb.1.2,h,hb.2⟩
theorem zze {t:Ty} {l m:List t.den} {b off cap:Nat} {cc:Array Value} {news:List Value} {e:TypeId} {x:Value} {id:Nat} {w:World} {g g':Ghost}
  (hro:t.isRo=true) (htail:Tail P w g t x m news) (hroom:l.length+m.length≤cap) (hsz:off+cap*t.size≤cc.size)
  (hcell:w.heap[b]? = some (.cells cc e (0,0)))
  (hel:∀ (i:Nat) (h:i < l.length),Rep w g none t (l.get ⟨i,h⟩) (seg cc.toList (off+i*t.size) t.size))
  (hr:RoKept w g (w.setRow b (z0f cc.toList (off+l.length*t.size) news).toArray) g') (i:Nat) (h:i < (l++m).length) :
  Rep (w.setRow b (z0f cc.toList (off+l.length*t.size) news).toArray) g' none t ((l++m).get ⟨i,h⟩) (seg (z0f cc.toList (off+l.length*t.size) news) (off+i*t.size) t.size):=by
 have hcc:cc.toList.length=cc.size:=Array.length_toList;have hmul:(l.length+m.length)*t.size≤cap*t.size:=Nat.mul_le_mul_right _ hroom;rw [Nat.add_mul] at hmul;have hnl:=htail.length;have hi:i < l.length+m.length:=by simpa using h
 by_cases hil:i < l.length
 ·have h3:(i+1)*t.size≤l.length*t.size:=Nat.mul_le_mul_right _ hil;rw [Nat.add_mul] at h3;rw [z1p _ _ _ _ _ (by omega) (by rw [hcc];omega)];have:=(hel i hil).kept hr;simp only [List.get_eq_getElem] at this ⊢;rw [List.getElem_append_left hil];exact this
 ·obtain ⟨j,rfl⟩:∃ j,i=l.length+j:=⟨i-l.length,by omega⟩;have hj:j < m.length:=by omega
  have h3:(j+1)*t.size≤m.length*t.size:=Nat.mul_le_mul_right _ hj;rw [Nat.add_mul] at h3;have e1:off+(l.length+j)*t.size=(off+l.length*t.size)+j*t.size:=by rw [Nat.add_mul];omega
  rw [e1,z5a _ _ _ _ _ (by omega) (by omega)];have:=(htail.elts j hj).kept hr;simp only [List.get_eq_getElem] at this ⊢;rw [List.getElem_append_right (by omega)];simpa using this
theorem zvg {t:Ty} {l m:List t.den} {olds news:List Value} {zs:Array Value} {x:Value} {w w':World} {g g':Ghost}
  (htail:Tail P w g t x m news) (ho:olds.length=l.length*t.size)
  (hel:∀ (i:Nat) (h:i < l.length),Rep w g none t (l.get ⟨i,h⟩) (seg olds (i*t.size) t.size)) (hr:RoKept w g w' g') (i:Nat) (h:i < (l++m).length) :
  Rep w' g' none t ((l++m).get ⟨i,h⟩) (seg (olds.toArray++news.toArray++zs).toList (i*t.size) t.size):=by
 have hnl:=htail.length;have hi:i < l.length+m.length:=by simpa using h
 have e0:(olds.toArray++news.toArray++zs).toList=olds++(news++zs.toList):=by simp
 rw [e0];by_cases hil:i < l.length
 ·have h3:(i+1)*t.size≤l.length*t.size:=Nat.mul_le_mul_right _ hil;rw [Nat.add_mul] at h3;rw [z1f _ _ _ _ (by omega)];have:=(hel i hil).kept hr;simp only [List.get_eq_getElem] at this ⊢;rw [List.getElem_append_left hil];exact this
 ·obtain ⟨j,rfl⟩:∃ j,i=l.length+j:=⟨i-l.length,by omega⟩;have hj:j < m.length:=by omega
  have h3:(j+1)*t.size≤m.length*t.size:=Nat.mul_le_mul_right _ hj;rw [Nat.add_mul] at h3;rw [Nat.add_mul,z1g _ _ _ _ _ ho.symm,z1f _ _ _ _ (by omega)];have:=(htail.elts j hj).kept hr;simp only [List.get_eq_getElem] at this ⊢;rw [List.getElem_append_right (by omega)];simpa using this
theorem zhh {T E:TypeId} {t u:Ty} (hund:P.underlying T=some (.slice E)) (hE:InfoOK P E u) (hus:u.size=t.size) (ht:∀ b,g.tag b≠.alien->b < w.heap.size) (hro:t.isRo=true)
  {ty:TypeId} {b:Option Addr} {cap:Nat} {l m:List t.den} {olds news:List Value} {x:Value} (hold:Tail P w g t (.slice b l.length cap) l olds) (htail:Tail P w g t x m news)
  (hroom:cap < l.length+m.length) (hbig:l.length+m.length≤4294967296) (objs:z2c) (id ep:Nat) :
  ∃ cells cap',(Builtin.append_ #[T,T] ty #[.slice b l.length cap,x]).run P w = .ok (.slice (some ⟨w.heap.size,0,none⟩) (l.length+m.length) cap') (w.drew.alloc (.cells cells E))∧
   z14 (w.drew.alloc (.cells cells E)) (z3a g w.heap.size id (.row id []) (.slice (some ⟨w.heap.size,0,none⟩) (l.length+m.length) cap')) objs id (.row t (l++m) ep):=by
 obtain ⟨zs,hrun,hzs⟩:=z6e (ty:=ty) hund hE hus htail hroom hbig (fun w' hw'=>hold.cells w' hw');refine ⟨_,_,hrun,?_⟩;have hlen:(l++m).length=l.length+m.length:=by simp
 have hge:=grownCap_ge w (l.length+m.length) cap E;have:=zq2 (w:=w.drew) (g:=g) (base:=id) (u:=t) (l:=l++m) (cells:=olds.toArray++news.toArray++zs) (e:=E) (cap:=grownCap w (l.length+m.length) cap E) ht hro
  (by rw [hlen];exact hge) (grownCap_le_maxLen w (l.length+m.length) cap E (by unfold maxLen;omega))
  (by
   have h1:=hold.length;have h2:=htail.length;simp only [Array.size_append,List.size_toArray,hzs,h1,h2];rw [←Nat.add_mul,←Nat.add_mul];exact Nat.mul_le_mul_right _ (by omega))
  (fun i hi=>zvg htail hold.length hold.elts (w':=w.drew) (g':=g) ⟨fun b hb=>⟨hb,rfl⟩⟩ i hi) objs ep
 rw [hlen] at this;exact this
theorem z2w {x y:Operand} {args:Array Operand} {ts:Array TypeId} {t:TypeId} {v:Value} {w':World} (ho:o.op = .call { callee:=.builtin .append,args:=args,argTypes:=ts }) (ha:args.toList=[x,y]) (ht:ts.toList=[t,t])
  (h:∀ ty,(Builtin.append_ #[t,t] ty #[a.eval x,a.eval y]).run P w = .ok v w'):(execOp a.eval o).run P w = .ok (.value v) w':=by
 have e1:args = #[x,y]:=by apply Array.toList_inj.1;simpa using ha
 have e2:ts = #[t,t]:=by apply Array.toList_inj.1;simpa using ht
 subst e1;subst e2;simp [execOp,ho,resolve,invoke,builtin,h]
end
end Go.Kz
namespace Go.Kz
variable {R:Type}
section
variable {P:Program} {o:Oper} {a:Act} {w:World} {K:Act->World->Prop} {Q:Exit->Act->World->Prop} {c:Ctx} {σ:St} {g:Ghost} {k:St->Option R} {r:R} {base:Nat} {mo:Bool}
theorem zt4 {m:Nat} {tg:Tag} {v:Value} (ht:∀ b,g.tag b≠.alien->b < w.heap.size) (ob:Go.Obj):RoKept w g (w.drew.alloc ob) (z3a g w.heap.size m tg v):=
 ⟨fun b hb=>(z7c (w:=w.drew) ht ob).blk b hb⟩
theorem zjp {m:Nat} {tg:Tag} {v:Value} (ht:∀ b,g.tag b≠.alien->b < w.heap.size) (ob:Go.Obj) {id:Nat} (hid:id≠m):Same w g (w.drew.alloc ob) (z3a g w.heap.size m tg v) id:=
 let h:=z98 (w:=w.drew) (g:=g) (m:=m) (tg:=tg) (v:=v) ht ob hid
 ⟨⟨h.row.sv,h.row.blk⟩,h.blk,h.box⟩
theorem zos {m:Nat} {tg:Tag} {v:Value} (ht:∀ b,g.tag b≠.alien->b < w.heap.size) (ob:Go.Obj):Ext w g (w.drew.alloc ob) (z3a g w.heap.size m tg v):=
 let h:=za1 (w:=w.drew) (g:=g) (m:=m) (tg:=tg) (v:=v) ht ob
 ⟨h.os,h.tape,h.output,Nat.le_trans (Nat.le_succ _) h.drawn,h.size,h.keep⟩
theorem obj_tail {id:Nat} {t:Ty} {l:List t.den} {e:Nat} (hobj:z14 w g σ.objs id (.row t l e)) :
  ∃ b cap olds,g.sv id [] = .slice b l.length cap∧l.length≤cap∧cap≤maxLen∧Tail P w g t (.slice b l.length cap) l olds∧
   ((b=none∧l=[]∧cap=0)∨∃ bk off cc ee,b=some ⟨bk,off,none⟩∧g.tag bk = .row id []∧w.heap[bk]? = some (.cells cc ee (0,0))∧off+cap*t.size≤cc.size∧
    ∀ (i:Nat) (h:i < l.length),Rep w g none t (l.get ⟨i,h⟩) (seg cc.toList (off+i*t.size) t.size)):=by
 obtain ⟨hro,b,cap,_,hsv,h1,h2,h3⟩:=hobj;rcases h3 with ⟨rfl,hl,rfl⟩ | ⟨bk,off,cc,ee,rfl,htag,hcell,hsz,hel⟩
 ·subst hl;exact ⟨none,0,[],hsv,h1,h2,Tail.of_nil,.inl ⟨rfl,rfl,rfl⟩⟩
 ·have hcap:l.length*t.size≤cap*t.size:=Nat.mul_le_mul_right _ h1;have hel':∀ (i:Nat) (h:i < l.length),Rep w g none t (l.get ⟨i,h⟩) (seg cc.toList (off+i*t.size) t.size):=fun i hi=>Rep.anyOwn hro (hel i hi)
  exact ⟨_,cap,seg cc.toList off (l.length*t.size),hsv,h1,h2,Tail.of_block hcell (by omega) hel',.inr ⟨bk,off,cc,ee,rfl,htag,hcell,hsz,hel'⟩⟩
theorem zdj {args:Array Operand} {ts:Array TypeId} {x y:Operand} {t E:TypeId} {t1 u:Ty} {l m:List t1.den} {e id:Nat} {news:List Value}
  (ho:o.op = .call { callee:=.builtin .append,args:=args,argTypes:=ts }) (hargs:args.toList=[x,y]) (htys:ts.toList=[t,t])
  (hund:P.underlying t=some (.slice E)) (hinf:InfoOK P E u) (hus:u.size=t1.size) (hst:StOK c.ntmps g w a σ) (hobj0:σ.objs id=some (.row t1 l e)) (hev:a.eval x=g.sv id [])
  (hro:t1.isRo=true) (htail:Tail P w g t1 (a.eval y) m news) (hrm:l.length+m.length≤4294967296)
  (h:(σ.setObj id (.row t1 (l++m) (e+1))).putK c o.dst (.ref id [] (e+1)) k=some r) (hK:z79 c.ntmps k r g w σ base true K):o.wp P a w K Q:=by
 obtain ⟨b,cap,olds,hsv,hlc,hcm,hold,hrow⟩:=obj_tail (P:=P) (hst.heap.objs _ _ hobj0);have hvx:a.eval x = .slice b l.length cap:=by rw [←hsv];exact hev
 have hids:∀ n,Fresh g σ n->n≠id:=by
  intro n hn he;subst he;have:=hn.objs;rw [hobj0] at this;simp at this
 have hfr:∀ n,Fresh g σ n->n∉(AVal.ref id [] (e+1)).ids:=by
  intro n hn;simp only [AVal.ids,List.mem_singleton];exact hids n hn
 have hk0:∀ g':Ghost,z15 g g' id (σ.objs id) (some (.row t1 (l++m) (e+1))):=fun g'=>.inr (.inl ⟨t1,l,l++m,e,e+1,hobj0,rfl,.inl (by omega)⟩)
 by_cases hmore:cap < l.length+m.length
 ·obtain ⟨cells,cap',hrun',hobj⟩:=zhh (P:=P) (ty:=0) hund hinf hus hst.heap.tags hro hold htail hmore (by omega) (σ.setObj id (.row t1 (l++m) (e+1))).objs id (e+1);have hrun:=z2w (P:=P) ho hargs htys (fun ty=>by rw [hvx];exact hrun');refine z3i (g:=g) (base:=base) (σ':=σ.setObj id (.row t1 (l++m) (e+1))) (g':=z3a g w.heap.size id (.row id []) (.slice (some ⟨w.heap.size,0,none⟩) (l.length+m.length) cap')) hrun ?_ ?_ (fun n hn hfn=>⟨Fresh.turn (g:=g) (fun b=>?_) (hids n hfn) (by simp) hfn,hfr n hfn⟩) rfl ?_ h (fun h=>Bool.noConfusion h) hK
  ·refine hst.turn (zt4 hst.heap.tags _) (fun i hi=>zjp hst.heap.tags _ hi) (.inl (hk0 _)) hobj ?_;intro b hb;simp only [z3a] at hb;split at hb
   ·rename_i he;subst he;simp
   ·have:=hst.heap.tags b hb;simp;omega
  ·exact zos hst.heap.tags _
  ·simp only [z3a];by_cases he:b=w.heap.size
   ·right;exact ⟨[],by simp [he]⟩
   ·left;simp [he]
  ·exact zdn (u:=t1) (l:=l++m) (by simp [St.setObj,z0j]) (by simp [z3a]) rfl
 ·have hle:l.length+m.length≤cap:=by omega
  rcases hrow with ⟨rfl,hl,rfl⟩ | ⟨bk,off,cc,ee,rfl,htag,hcell,hsz,hel⟩
  ·subst hl;have hm:m=[]:=List.eq_nil_of_length_eq_zero (by simpa using hle);subst hm;have hrun:=z2w (P:=P) (v:=.slice none 0 0) (w':=w) ho hargs htys (fun ty=>by rw [hvx];exact z90 (ty:=ty) hund hinf hus htail);refine z3i (g:=g) (base:=base) (σ':=σ.setObj id (.row t1 ([]++[]) (e+1))) (g':=svG g id (.slice none 0 0)) hrun ?_ ?_ (fun n hn hfn=>⟨Fresh.turn (g:=g) (fun b=>.inl rfl) (hids n hfn) (by simp) hfn,hfr n hfn⟩) rfl ?_ h (fun h=>Bool.noConfusion h) hK
   ·refine hst.turn ⟨fun b hb=>⟨hb,rfl⟩⟩ (fun i hi=>zel hi) (.inl (hk0 _)) ?_ hst.heap.tags;exact ⟨hro,none,0,by simp [svG],by simp [svG],Nat.le_refl _,Nat.zero_le _,.inl ⟨rfl,rfl,rfl⟩⟩
   ·exact ⟨rfl,rfl,rfl,Nat.le_refl _,Nat.le_refl _,fun b _ _=>⟨rfl,rfl⟩⟩
   ·exact zdn (u:=t1) (l:=([]++[]:List t1.den)) (by simp [St.setObj,z0j]) (by simp [svG]) rfl
  ·have hrun:=z2w (P:=P) ho hargs htys (fun ty=>by rw [hvx];exact z91 (ty:=ty) hund hinf hus hcell htail hle hsz);have hnl:=htail.length;have hmul:(l.length+m.length)*t1.size≤cap*t1.size:=Nat.mul_le_mul_right _ hle;rw [Nat.add_mul] at hmul;have hcc:cc.toList.length=cc.size:=Array.length_toList;have hro':RoKept w g (w.setRow bk (z0f cc.toList (off+l.length*t1.size) news).toArray) (svG g id (.slice (some ⟨bk,off,none⟩) (l.length+m.length) cap)):=by
    refine ⟨fun b hb=>⟨hb,setRow_other w bk b _ ?_⟩⟩;intro he;subst he;rw [htag] at hb;simp at hb
   refine z3i (g:=g) (base:=base) (σ':=σ.setObj id (.row t1 (l++m) (e+1))) (g':=svG g id (.slice (some ⟨bk,off,none⟩) (l.length+m.length) cap)) hrun ?_ ?_ (fun n hn hfn=>⟨Fresh.turn (g:=g) (fun b=>.inl rfl) (hids n hfn) (by simp) hfn,hfr n hfn⟩) rfl ?_ h (fun h=>Bool.noConfusion h) hK
   ·refine hst.turn hro' (fun i hi=>?_) (.inl (hk0 _)) ?_ ?_
    ·refine ⟨⟨fun q=>by simp [svG,hi],fun q b hb=>⟨hb,setRow_other w bk b _ ?_⟩⟩,rfl,fun hb=>⟨hb,setRow_other w bk _ _ ?_⟩⟩
     ·intro he;subst he;rw [htag] at hb;simp only [Tag.row.injEq] at hb;exact hi hb.1.symm
     ·intro he;rw [he,htag] at hb;simp at hb
    ·refine ⟨hro,some ⟨bk,off,none⟩,cap,by simp [svG],by simp [svG],by simpa using hle,hcm,.inr ⟨bk,off,_,ee,rfl,htag,setRow_heap w bk cc _ ee _ hcell,?_,fun i hi=>?_⟩⟩
     ·rw [List.size_toArray,z1u _ _ _ (by omega),hcc];exact hsz
     ·refine Rep.anyOwn hro (o:=none) ?_;exact zze (id:=id) hro htail hle hsz hcell hel hro' i hi
    ·intro b hb;have:=hst.heap.tags b hb;simpa [World.setRow] using this
   ·refine ⟨rfl,rfl,rfl,Nat.le_refl _,by simp [World.setRow],fun b _ hb=>⟨setRow_other w bk b _ ?_,rfl⟩⟩;intro he;subst he;rw [htag] at hb;simp at hb
   ·exact zdn (u:=t1) (l:=l++m) (by simp [St.setObj,z0j]) (by simp [svG]) rfl
theorem zrh {id:Nat} {t:Ty} {l l':List t.den} {e e':Nat} {v:Value} (hst:StOK c.ntmps g w a σ) (hobj:σ.objs id=some (.row t l e)) (he:e < e')
  (hok:z14 w (svG g id v) (σ.setObj id (.row t l' e')).objs id (.row t l' e')) :
  StOK c.ntmps (svG g id v) w a (σ.setObj id (.row t l' e'))∧Ext w g w (svG g id v)∧∀ m,Fresh g σ m->Fresh (svG g id v) (σ.setObj id (.row t l' e')) m:=by
 refine ⟨hst.turn ⟨fun b hb=>⟨hb,rfl⟩⟩ (fun i hi=>zel hi) (.inl (.inr (.inl ⟨t,l,l',e,e',hobj,rfl,.inl he⟩))) hok hst.heap.tags,⟨rfl,rfl,rfl,Nat.le_refl _,Nat.le_refl _,fun b _ _=>⟨rfl,rfl⟩⟩,fun m hm=>?_⟩;refine Fresh.turn (g:=g) (fun b=>.inl rfl) ?_ (by simp) hm;intro heq;subst heq;have:=hm.objs;rw [hobj] at this;simp at this
theorem zmn {id:Nat} {t:Ty} {l:List t.den} {e e':Nat} {p q:Int} (hst:StOK c.ntmps g w a σ) (hobj:σ.objs id=some (.row t l e)) (h0:0≤p) (hpq:p≤q) (hq:q≤(l.length:Int)) (he:e < e') :
  StOK c.ntmps (svG g id (z2g (g.sv id []) t.size p q)) w a (σ.setObj id (.row t (sub l p q) e'))∧Ext w g w (svG g id (z2g (g.sv id []) t.size p q))∧
   ∀ m,Fresh g σ m->Fresh (svG g id (z2g (g.sv id []) t.size p q)) (σ.setObj id (.row t (sub l p q) e')) m:=by
 refine zrh hst hobj he ?_;obtain ⟨hro,ad,cap,_,hsv,hlc,hcm,hrow⟩:=hst.heap.objs _ _ hobj;have hlen:(sub l p q).length=(q-p).toNat:=by rw [z7q l p q h0 hpq hq];omega
 have hv:z2g (g.sv id []) t.size p q = .slice (if cap-p.toNat=0 then ad else ad.map (·.add (p.toNat*t.size))) (sub l p q).length (cap-p.toNat):=by rw [hsv,hlen];rfl
 refine ⟨hro,_,_,by simp only [svG,if_true];exact congrArg (fun v=>[v]) hv,by simp only [svG,if_true];exact hv,by rw [hlen];omega,by omega,?_⟩;rcases hrow with ⟨rfl,hl,rfl⟩ | ⟨b,off,c',ee,rfl,htag,hcell,hsz,hel⟩
 ·left;refine ⟨by simp,?_,by simp⟩;rw [hl] at hq;simp only [List.length_nil] at hq;exact List.eq_nil_of_length_eq_zero (by rw [hlen];omega)
 ·right;have hmul:cap*t.size=(cap-p.toNat)*t.size+p.toNat*t.size:=by rw [←Nat.add_mul];congr 1;omega
  by_cases hz:cap-p.toNat=0
  ·refine ⟨b,off,c',ee,by rw [if_pos hz],htag,hcell,by rw [hz];omega,fun i hi=>?_⟩;exfalso;have:i < (sub l p q).length:=hi;omega
  ·refine ⟨b,off+p.toNat*t.size,c',ee,?_,htag,hcell,by omega,fun i hi=>?_⟩
   ·rw [if_neg hz];simp only [Option.map_some,Addr.add_lit]
   ·have hi':i < (sub l p q).length:=hi;have hi3:p.toNat+i < l.length:=by omega
    have:=Rep.anyOwn (o':=none) hro (hel (p.toNat+i) hi3);have hg:=zff l p q i hi' hi3;refine Rep.anyOwn hro (o:=none) ?_;have e1:off+p.toNat*t.size+i*t.size=off+(p.toNat+i)*t.size:=by rw [Nat.add_mul];omega
    rw [e1];have h2:(sub l p q).get ⟨i,hi'⟩=l.get ⟨p.toNat+i,hi3⟩:=hg;show Rep w _ none t ((sub l p q).get ⟨i,hi'⟩) _;rw [h2];exact Rep.kept (show RoKept w g w (svG g id (z2g (g.sv id []) t.size p q)) from ⟨fun b hb=>⟨hb,rfl⟩⟩) this
theorem z79.pre {n:Nat} {g0:Ghost} {σ0:St} (h:z79 n k r g w σ base mo K) (he:Ext w g w g0) (hf:∀ m,Fresh g σ m->Fresh g0 σ0 m) (hn:σ0.next=σ.next):z79 n k r g0 w σ0 base mo K:=
 fun σ' g' a' w' hk hst hext hfr hnx hag=>h σ' g' a' w' hk hst (he.trans hext) (fun m hm hfm=>hfr m hm (hf m hfm)) (hnx.trans hn) hag
theorem z79.pre' {n:Nat} {g0:Ghost} {σ0:St} (h:z79 n k r g w σ base mo K) (he:Ext w g w g0) (hf:∀ m,(m < base∨base+8≤m)->Fresh g σ m->Fresh g0 σ0 m) (hn:σ0.next=σ.next):z79 n k r g0 w σ0 base mo K:=
 fun σ' g' a' w' hk hst hext hfr hnx hag=>h σ' g' a' w' hk hst (he.trans hext) (fun m hm hfm=>hfr m hm (hf m hm hfm)) (hnx.trans hn) hag
theorem Tail.congr {g':Ghost} {t:Ty} {x:Value} {m:List t.den} {news:List Value} (h:Tail P w g t x m news) (hr:RoKept w g w g'):Tail P w g' t x m news:=
 ⟨h.len,h.cells,h.pre,h.length,fun i hi=>(h.elts i hi).kept hr,h.one⟩
theorem zbm (σ:St) (i:Nat) (x y:Obj):(σ.setObj i x).setObj i y=σ.setObj i y:=by
 simp only [St.setObj,St.mk.injEq,true_and,and_true];funext j;simp only [upd];cases Nat.beq j i <;> rfl
theorem zw8 (htt:zbd P c.tt) {args:Array Operand} {ts:Array TypeId} (ho:o.op = .call { callee:=.builtin .append,args:=args,argTypes:=ts })
  (hst:StOK c.ntmps g w a σ) (hf:Fresh g σ base)
  (hnest:∀ x y t u ow av bv,args.toList=[x,y]->ts.toList=[t,t]->c.tt t=some (.sl ow u)->ev σ x=some av->ev σ y=some bv->z7m σ u av bv (fun v σ=>σ.putK c o.dst v k)=some r->o.wp P a w K Q)
  (h:z1s c σ base o k=some r) (hK:z79 c.ntmps k r g w σ base true K):o.wp P a w K Q:=by
 simp only [z1s,ho] at h;split at h
 ·rename_i x y t t' hargs htys;split at h
  ·rename_i av bv ot u hx hy htt'
   cases hb:Nat.beq t t' with
   | false=>rw [hb] at h;simp at h
   | true=>
    rw [hb] at h;have htq:=zE hb;subst htq;simp only [cond_true] at h;have hT:=htt _ _ htt';simp only [z2j] at hT;obtain ⟨⟨E,hund,hE⟩,_⟩:=hT;have hinf:=hE.info;obtain ⟨ex,efx⟩:=z24 hst hx;obtain ⟨ey,efy⟩:=z24 hst hy;unfold z6r at h;split at h
    ·-- nil
     have hv:=zbc.1 ex
     cases hbn:bv.isNv with
     | true=>rw [hbn] at h;exact hnest x y t u ot _ bv hargs htys htt' hx hy h
     | false=>
     rw [hbn] at h;simp only [cond_false] at h;split at h
     ·rename_i t1 _
      cases hbs:t1.sk.same u.sk with
      | false=>rw [hbs] at h;simp at h
      | true=>
       rw [hbs] at h;simp only [cond_true] at h;have hsk:=Sk.same_eq hbs;have hus:u.size=t1.size:=by rw [←Ty.sk_size,←Ty.sk_size,hsk]
       obtain ⟨hro,hval,h,hnv⟩:=z7o h;obtain ⟨m,news,h,htail⟩:=zfd (P:=P) hst.heap hro ey h hval hnv;obtain ⟨hrm,h⟩:=z1x h;have hrm:=of_decide_eq_true hrm;unfold z3e at hrm;by_cases hm:m=[]
       ·subst hm;have hrun:=z2w (P:=P) (v:=.slice none 0 0) (w':=w) ho hargs htys (fun ty=>by rw [hv];exact z90 (ty:=ty) hund hinf hus htail);refine z3i (g:=g) (base:=base) (σ':=σ.setObj base (.row t1 [] 1)) (g':=svG g base (.slice none 0 0)) hrun ?_ ?_ (fun n hn hfn=>⟨Fresh.turn (g:=g) (fun b=>.inl rfl) (by omega) (by simp) hfn,by simp [AVal.ids];omega⟩) rfl ?_ h (fun h=>Bool.noConfusion h) hK
        ·refine hst.turn ⟨fun b hb=>⟨hb,rfl⟩⟩ (fun i hi=>zel hi) (.inr hf) ?_ hst.heap.tags;exact ⟨hro,none,0,by simp [svG],by simp [svG],Nat.le_refl _,Nat.zero_le _,.inl ⟨rfl,rfl,rfl⟩⟩
        ·exact ⟨rfl,rfl,rfl,Nat.le_refl _,Nat.le_refl _,fun b _ _=>⟨rfl,rfl⟩⟩
        ·exact zdn (u:=t1) (l:=[]) (by simp [St.setObj,z0j]) (by simp [svG]) rfl
       ·have hpos:0 < m.length:=List.length_pos_iff.2 hm;obtain ⟨cells,cap',hrun',hobj⟩:=zhh (P:=P) (ty:=0) (b:=none) (cap:=0) (l:=([]:List t1.den)) hund hinf hus hst.heap.tags hro Tail.of_nil htail (by simpa using hpos) (by simpa using hrm) (σ.setObj base (.row t1 m 1)).objs base 1;simp only [List.length_nil,Nat.zero_add,List.nil_append] at hrun' hobj;have hrun:=z2w (P:=P) ho hargs htys (fun ty=>by rw [hv];exact hrun');refine z3i (g:=g) (base:=base) (σ':=σ.setObj base (.row t1 m 1)) (g':=z3a g w.heap.size base (.row base []) (.slice (some ⟨w.heap.size,0,none⟩) m.length cap')) hrun ?_ ?_ (fun n hn hfn=>⟨Fresh.turn (g:=g) (fun b=>?_) (by omega) (by simp) hfn,by simp [AVal.ids];omega⟩) rfl ?_ h (fun h=>Bool.noConfusion h) hK
        ·refine hst.turn (zt4 hst.heap.tags _) (fun i hi=>zjp hst.heap.tags _ hi) (.inr hf) hobj ?_;intro b hb;simp only [z3a] at hb;split at hb
         ·rename_i he;subst he;simp
         ·have:=hst.heap.tags b hb;simp;omega
        ·exact zos hst.heap.tags _
        ·simp only [z3a];by_cases he:b=w.heap.size
         ·right;exact ⟨[],by simp [he]⟩
         ·left;simp [he]
        ·exact zdn (u:=t1) (l:=m) (by simp [St.setObj,z0j]) (by simp [z3a]) rfl
     ·simp at h
    ·-- an owned row
     rename_i id ep;split at h
     ·rename_i t1 l e hobj0
      cases hbs:(Nat.beq e ep && t1.sk.same u.sk) with
      | false=>rw [hbs] at h;simp at h
      | true=>
       rw [hbs] at h;simp only [cond_true] at h;simp only [zA] at hbs;have hee:=zE hbs.1;subst hee;have hsk:=Sk.same_eq hbs.2;have hus:u.size=t1.size:=by rw [←Ty.sk_size,←Ty.sk_size,hsk]
       obtain ⟨hro,hval,h,hnv⟩:=z7o h;obtain ⟨m,news,h,htail⟩:=zfd (P:=P) hst.heap hro ey h hval hnv;obtain ⟨hrm,h⟩:=z1x h;have hrm:=of_decide_eq_true hrm;unfold z3e at hrm;simp only [VOK] at ex;obtain ⟨cs,⟨v,rfl,hone,hv⟩,hv'⟩:=ex;have e1:=(hv _ _ _ hobj0).2 rfl;exact zdj ho hargs htys hund hinf hus hst hobj0 (by rw [←e1];exact hv') hro htail hrm h hK
     ·simp at h
    ·-- a part of an owned row
     rename_i id ep pa pb;split at h
     ·rename_i t1 l e hobj0
      cases hbs:(Nat.beq e ep && t1.sk.same u.sk) with
      | false=>rw [hbs] at h;simp at h
      | true=>
       rw [hbs] at h;simp only [cond_true] at h;simp only [zA] at hbs;have hee:=zE hbs.1;subst hee;have hsk:=Sk.same_eq hbs.2;have hus:u.size=t1.size:=by rw [←Ty.sk_size,←Ty.sk_size,hsk]
       obtain ⟨hro,hval,h,hnv⟩:=z7o h;obtain ⟨m,news,h,htail⟩:=zfd (P:=P) hst.heap hro ey h hval hnv;obtain ⟨hrm,h⟩:=z1x h;have hrm:=of_decide_eq_true hrm;unfold z3e at hrm;simp only [VOK] at ex;obtain ⟨cs,⟨v,rfl,hone,hv⟩,hv'⟩:=ex;obtain ⟨_,h0,hab,hbl,e1⟩:=(hv _ _ _ hobj0).2 rfl;obtain ⟨hst1,hext1,hfr1⟩:=zmn (e':=e+1) hst hobj0 h0 hab hbl (Nat.lt_succ_self _);refine zdj (id:=id) (e:=e+1) (l:=sub l pa pb) ho hargs htys hund hinf hus hst1 (by simp [St.setObj,z0j]) ?_ hro (htail.congr ⟨fun b hb=>⟨hb,rfl⟩⟩) hrm (by rw [zbm];exact h) (hK.pre hext1 hfr1 rfl);rw [hv'];simp only [svG,if_true];exact e1
     ·simp at h
    ·-- a row of rows
     exact hnest x y t u ot _ bv hargs htys htt' hx hy h
    ·-- one of the rows of a row of rows
     rename_i id q0 p0 ep;split at h
     ·rename_i t1 l0 e0 i0 hobj0
      cases hb0:Nat.beq i0 ep with
      | false=>rw [hb0] at h;simp at h
      | true=>
       rw [hb0] at h;have hee:=zE hb0;subst hee;simp only [cond_true] at h;have hwhole:Rep w g (some (id,[])) (.sl true t1) l0 [g.sv id []]:=hst.heap.objs id _ hobj0;obtain ⟨U,X,_,_,_,_,_,hk1,_,_,htu,_,_,_,_⟩:=z8e hwhole h;obtain ⟨U',X',hk1',hget⟩:=zdb _ _ _ h;split at hk1'
       ·rename_i v l1
        cases hbs:v.sk.same u.sk with
        | false=>rw [hbs] at hk1';simp at hk1'
        | true=>
         rw [hbs] at hk1';simp only [cond_true] at hk1';have hsk:=Sk.same_eq hbs;have hus:u.size=v.size:=by rw [←Ty.sk_size,←Ty.sk_size,hsk]
         obtain ⟨hro,hval,hk1',hnv⟩:=z7o hk1';obtain ⟨m,news,hk1',htail⟩:=zfd (P:=P) hst.heap hro ey hk1' hval hnv;obtain ⟨hrm,hk1'⟩:=z1x hk1';have hrm:=of_decide_eq_true hrm;unfold z3e at hrm;have htyR:tyR t1 (q0 :: p0)=some v:=by
          have hg:z13 (.sl true t1) l0 (q0 :: p0) (fun u x=>some (⟨u,x⟩:(u:Ty)×u.den))=some ⟨.sl true v,l1⟩:=hget _ _;obtain ⟨U2,X2,_,_,_,_,_,hk2,_,_,htu2,_,_,_,_⟩:=z8e hwhole hg;simp only [zI,Sigma.mk.injEq] at hk2;obtain ⟨rfl,_⟩:=hk2;have:=zpu htu2
          cases q0 with
          | fst=>simp [tyQ] at this
          | snd=>simp [tyQ] at this
          | idx j0=>simpa [tyR,tyQ] using this
         simp only [VOK] at ex;obtain ⟨cs,⟨vv,rfl,hone,hv⟩,hv'⟩:=ex;have e1:=((hv _ _ _ _ _ hobj0).2 rfl).1 rfl;obtain ⟨hst1,hext1,hfr1,hsv1,hro1⟩:=out_ok hst hf hobj0 hro htyR hget;refine zdj (id:=base) (e:=0) (l:=l1) ho hargs htys hund hinf hus hst1 (by simp [St.setObj,z0j]) ?_ hro (htail.congr hro1) hrm (by rw [zbm];exact hk1') (hK.pre' hext1 (fun m hm=>hfr1 m (by omega)) rfl);rw [hsv1];exact (hv'.trans e1)
       ·simp at hk1'
     ·simp at h
    ·simp at h
  ·simp at h
 ·simp at h
end
end Go.Kz
namespace Go.Kz
variable {R:Type}
section
variable {w:World} {g:Ghost} {σ:St}
theorem zwg {n:Nat} {a:Act} {w':World} {g':Ghost} {σ':St} {m:Nat} (hst:StOK n g w a σ) (hr:RoKept w g w' g') (hs:σ'.slots=σ.slots) (hm:Fresh g σ m∨z15 g g' m (σ.objs m) (σ'.objs m))
  (hself:∀ x,σ'.objs m=some x->z14 w' g' σ'.objs m x) (hoth:∀ j,j≠m->σ'.objs j=none∨(σ'.objs j=σ.objs j∧Same w g w' g' j)) (ht:∀ b,g'.tag b≠.alien->b < w'.heap.size):StOK n g' w' a σ':=by
 refine hst.step hr hs hm (fun j hj=>?_) (fun j x hx=>?_) ht
 ·rcases hoth j hj with h | ⟨h,h2⟩
  ·exact .inl h
  ·rw [h];exact z15.same h2
 ·by_cases hj:j=m
  ·subst hj;exact .inl (hself x hx)
  ·rcases hoth j hj with h | ⟨h,h2⟩
   ·rw [h] at hx;simp at hx
   ·rw [h] at hx;exact .inr ⟨hx,h2⟩
theorem zd5 {g':Ghost} {σ':St} {base m:Nat} (hm:m≠base) (htag:∀ b,g'.tag b=g.tag b∨∃ p,g'.tag b = .row base p) (hobjs:∀ j,j≠base->σ'.objs j=none∨σ'.objs j=σ.objs j)
  (hbase:∀ y,σ'.objs base≠some (.cell y)) (hs:σ'.slots=σ.slots) (hf:Fresh g σ m):Fresh g' σ' m:=by
 refine ⟨?_,fun b p hb=>?_,fun b hb=>?_,by rw [hs];exact hf.slots,fun i av hi=>?_⟩
 ·rcases hobjs m hm with h | h
  ·exact h
  ·rw [h];exact hf.objs
 ·rcases htag b with h | ⟨q,h⟩
  ·rw [h] at hb;exact hf.row b p hb
  ·rw [h] at hb;simp only [Tag.row.injEq] at hb;exact hm hb.1.symm
 ·rcases htag b with h | ⟨q,h⟩
  ·rw [h] at hb;exact hf.box b hb
  ·rw [h] at hb;simp at hb
 ·by_cases he:i=base
  ·subst he;exact absurd hi (hbase av)
  ·rcases hobjs i he with h | h
   ·rw [h] at hi;simp at hi
   ·rw [h] at hi;exact hf.cells i av hi
theorem zuh (hh:HeapOK w g σ.objs) {v:Ty} (hro:v.isRo=true) {av:AVal} {x:Value} {k:List v.den->St->Option R} {r:R} (hx:AOK w g σ.objs av [x]) (h:z5f σ av v k=some r) :
  ∃ (fr:Option Nat) (d:List v.den) (σ1:St),σ1.slots=σ.slots∧σ1.next=σ.next∧(∀ j,some j≠fr->σ1.objs j=σ.objs j)∧(∀ j,some j=fr->σ1.objs j=none∧σ.objs j≠none)∧k d σ1=some r∧
   ∀ w' g' id p,RoKept w g w' g'->g'.sv id p=x->(∀ b j,some j=fr->g.tag b = .row j []->g'.tag b = .row id p∧w'.heap[b]? = w.heap[b]?)->Rep w' g' (some (id,p)) (.sl true v) d [x]:=by
 unfold z5f at h;split at h
 ·refine ⟨none,[],σ,rfl,rfl,fun _ _=>rfl,fun _ h=>by simp at h,h,fun w' g' id p _ hsv _=>?_⟩;have hx':[x]=[.slice none 0 0]:=hx;simp only [List.cons.injEq,and_true] at hx';subst hx';exact ⟨none,0,rfl,hsv,Nat.le_refl _,Nat.zero_le _,.inl ⟨rfl,rfl,rfl⟩⟩
 ·rename_i id' ep';split at h
  ·rename_i t' l' e' ho'
   cases hb:Nat.beq e' ep' with
   | false=>rw [hb] at h;simp at h
   | true=>
    rw [hb] at h;have he:=zE hb;subst he;simp only [cond_true] at h;obtain ⟨hc,h⟩:=z0u h;have hc':t'=v:=by simpa using hc
    subst hc';refine ⟨some id',_,σ.kill id',rfl,rfl,fun j hj=>?_,fun j hj=>?_,h,fun w' g' id p hr hsv htg=>?_⟩
    ·simp only [St.kill];exact z0k _ _ (fun h=>hj (by rw [h]))
    ·simp only [zI] at hj;subst hj;exact ⟨by simp [St.kill,upd],by rw [ho'];simp⟩
    ·obtain ⟨v0,hv0,_,hvv⟩:=hx;simp only [List.cons.injEq,and_true] at hv0;subst hv0;have hxs:=(hvv _ _ _ ho').2 rfl;obtain ⟨hro2,ad,cap,hcs,hsv2,h1,h2,h3⟩:=hh.objs id' _ ho';refine ⟨ad,cap,by rw [hxs,hsv2];rfl,by rw [hsv,hxs,hsv2];rfl,h1,h2,?_⟩;rcases h3 with h3 | ⟨b,off,c,ee,ha,htag,hcell,hs,hel⟩
     ·exact .inl h3
     ·obtain ⟨k1,k2⟩:=htg b id' rfl htag;exact .inr ⟨b,off,c,ee,ha,k1,k2.trans hcell,hs,fun i hi=>Rep.anyOwn (o:=none) hro2 ((Rep.anyOwn (o':=none) hro2 (hel i hi)).kept hr)⟩
  ·simp at h
 ·simp at h
def q0:z1a:=[.idx 0,.snd,.fst]
open Classical in
noncomputable def zan (g:Ghost) (nb base:Nat) (vnew x:Value) (fr:Option Nat):Ghost where
 tag:=fun b=>if b=nb then .row base [] else if ∃ j,fr=some j∧g.tag b = .row j [] then .row base q0 else g.tag b
 sv:=fun i q=>if i=base then (if q=[] then vnew else x) else g.sv i q
 blk:=g.blk
theorem zfx {u:Ty} (h:ze2 u=true):∃ t v,u = .pair t (.pair (.sl true v) .unit)∧t.isRo=true∧v.isRo=true:=by
 unfold ze2 at h;split at h
 ·simp only [zA] at h;exact ⟨_,_,rfl,h.1,h.2⟩
 ·simp at h
theorem zjc {a:AVal} {t v:Ty} {k:(Ty.pair t (.pair (.sl true v) .unit)).den->St->Option R} {r:R} (h:zi1 σ a (.pair t (.pair (.sl true v) .unit)) k=some r) :
  ∃ x y,a = .agg (.pr x (.pr y .un))∧t.isRo=true∧v.isRo=true∧x.val=true∧(z2y 20 x t σ fun d σ=>z5f σ y v fun l σ=>k (d,l,()) σ)=some r:=by
 cases a with
 | agg c=>cases c with
  | pr x c2=>cases c2 with
   | pr y c3=>cases c3 with
    | un=>
     simp only [zi1] at h
     cases hb:(t.isRo && v.isRo && x.val) with
     | false=>rw [hb] at h;simp at h
     | true=>
      rw [hb] at h;simp only [zA] at hb
      exact ⟨x,y,rfl,hb.1.1,hb.1.2,hb.2,h⟩
    | _=>simp [zi1] at h
   | _=>simp [zi1] at h
  | _=>simp [zi1] at h
 | _=>simp [zi1] at h
theorem znn {a:AVal} {v:Ty} {k:List v.den->St->Option R} {r:R} (h:z5f σ a v k=some r):a.sk = .leaf:=by
 unfold z5f at h;split at h
 ·rfl
 ·rfl
 ·simp at h
section
variable {P:Program} {o:Oper} {a:Act} {K:Act->World->Prop} {Q:Exit->Act->World->Prop} {c:Ctx} {k:St->Option R} {r:R} {base:Nat} {mo:Bool}
theorem zco {objs:z2c} {u:Ty} {l:List u.den} {v:Value} {e i id:Nat} (ho:objs id=some (.nest u l e i none)) (hsv:v=g.sv id []) (hone:v.oneCell'=true):VOK w g objs (.nv false id [] e) v:=by
 simp only [VOK];refine ⟨_,⟨v,rfl,hone,fun t l' e' i' h hx=>?_⟩,rfl⟩;rw [ho] at hx;simp only [zI,Obj.nest.injEq] at hx;obtain ⟨_,_,rfl,rfl,_⟩:=hx;exact ⟨Nat.le_refl _,fun _=>⟨fun _=>hsv,fun h=>by simp at h⟩⟩
theorem zam {t E:TypeId} {u:Ty} (hund:P.underlying t=some (.slice E)) (hinf:InfoOK P E u) {len:Nat} (hbig:len*u.size≤100000) {ps:Array (Nat×Operand)} (hin:z8j 0 ps.toList=true) (hlen:ps.toList.length=len)
  (hvs:∀ x∈ps.toList,(a.eval x.2).cells.size=u.size) :
  ∃ cells:Array Value,cells.toList=(ps.toList.map fun x=>(a.eval x.2).cells.toList).flatten∧(Instr.buildSlice t len (ps.map fun x=>(x.1,a.eval x.2))).run P w = .ok (.slice (some ⟨w.heap.size,0,none⟩) len len) (w.alloc (.cells cells E)):=by
 obtain ⟨i,zv,hi1,hi2,hi3,hi4,hi5,hi6⟩:=hinf.info;let vs:List Value:=ps.toList.map fun x=>a.eval x.2
 have hvs':∀ v∈vs,v.cells.size=u.size:=by
  intro v hv;obtain ⟨x,hx,rfl⟩:=List.mem_map.1 hv;exact hvs x hx
 have hvl:vs.length=len:=by simp [vs];rw [←hlen];simp
 let zeros:Array Value:=(Array.range (len*i.size)).map (zv.cells[· % zv.cells.size]!);have hzsz:zeros.size=len*u.size:=by simp [zeros,hi2]
 obtain ⟨cells,hfill,hcl⟩:=zld vs 0 zeros hvs' (by rw [hzsz,Nat.zero_add,hvl];exact Nat.le_refl _);have hcl':cells.toList=(ps.toList.map fun x=>(a.eval x.2).cells.toList).flatten:=by
  rw [hcl];simp only [Nat.zero_mul,List.take_zero,List.nil_append,Nat.zero_add,hvl];rw [List.drop_eq_nil_of_le (by rw [Array.length_toList,hzsz];exact Nat.le_refl _),List.append_nil];simp [vs];rfl
 refine ⟨cells,hcl',?_⟩;have hnum:ps.toList.map (fun x=>(x.1,a.eval x.2))=z09 0 vs:=z4a hin a.eval;have hnb:¬ (2 ^ 24 < len*i.size):=by rw [hi2];omega
 unfold Instr.buildSlice;simp only [Sem.run_bind,run_underlying hund,Result.andThen_ok];by_cases hz:len*i.size=0
 ·have hl0:len=0:=by
   rcases Nat.mul_eq_zero.1 hz with h0 | h0
   ·exact h0
   ·omega
  have hps:ps = #[]:=by apply Array.toList_inj.1;exact List.eq_nil_of_length_eq_zero (hlen.trans hl0)
  have hc0:cells.toList=[]:=by
   rw [hcl',hps];rfl
  have hc0':cells = #[]:=by apply Array.toList_inj.1;rw [hc0]
  simp [Go.sizeOf,typeInfo,hi1,hl0,hps,Instr.fill,newRow,hc0',Array.range_zero']
 ·have hfill':=hfill;simp only [zeros] at hfill';rw [←hi2] at hfill';simp [Go.sizeOf,typeInfo,hi1,hnb,hz,zeroValue,hi4,hnum,hfill',newRow]
theorem zuc {u:Ty} {cells:Array Value} {E:TypeId} {g':Ghost} {w':World} {nb base:Nat} (h1:g'.tag nb = .row base []) (h2:g'.sv base [] = .slice (some ⟨nb,0,none⟩) 0 0) (h3:w'.heap[nb]? = some (.cells cells E)) :
  Rep w' g' (some (base,[])) (.sl true u) [] [g'.sv base []]:=by
 refine ⟨some ⟨nb,0,none⟩,0,by rw [h2];rfl,h2,Nat.le_refl _,Nat.zero_le _,.inr ⟨nb,0,cells,E,rfl,h1,h3,by simp,fun i hi=>by simp at hi⟩⟩
theorem op_nest (htt:zbd P c.tt) {t:TypeId} {len:Nat} {ps:Array (Nat×Operand)} (ho:o.op = .buildSlice t len ps) (hst:StOK c.ntmps g w a σ) (hf:Fresh g σ base)
  {ow:Bool} {u:Ty} (htu:ztr c o.dst t=some (.sl ow u)) (hu:ze2 u=true) (hbig:len*u.size≤100000) (h:zqg c σ base o.dst u len ps.toList k=some r)
  (hK:z79 c.ntmps k r g w σ base mo K):o.wp P a w K Q:=by
 obtain ⟨E,v0,hund,hv,hvu⟩:=zek htt htu;have hinf:InfoOK P E u:=hv.info.congr hvu;have ht:=hst.heap.tags;unfold zqg at h;split at h
 ·rename_i hps;obtain ⟨cells,_,hrun⟩:=zam (a:=a) (w:=w) hund hinf hbig (ps:=ps) (by rw [hps];rfl) (by rw [hps];rfl) (by rw [hps];simp);refine z3i (g:=g) (σ:=σ) (σ':=σ.setObj base (.nest u [] 0 0 none)) (base:=base) (g':=z3a g w.heap.size base (.row base []) (.slice (some ⟨w.heap.size,0,none⟩) 0 0)) (v:=.slice (some ⟨w.heap.size,0,none⟩) 0 0) (w':=w.alloc (.cells cells E)) ?_ ?_ (za1 ht _) (fun m hm hfm=>⟨?_,?_⟩) rfl ?_ h (fun _ b hb=>heap_alloc_old w _ hb) hK
  ·simp only [execOp,ho];simp [hrun]
  ·refine hst.new hf _ (by simp) ?_;exact zuc (by simp [z3a]) (by simp [z3a]) (heap_alloc_new w _)
  ·refine zd5 (σ:=σ) (base:=base) (by omega) (fun b=>?_) (fun j hj=>.inr (by simp only [St.setObj];exact z0k _ _ hj)) (by simp [St.setObj,z0j]) rfl hfm;simp only [z3a];split
   ·exact .inr ⟨[],rfl⟩
   ·exact .inl rfl
  ·simp [AVal.ids];omega
  ·exact zco (u:=u) (l:=[]) (e:=0) (i:=0) (by simp [St.setObj,z0j]) (by simp [z3a]) rfl
 ·rename_i x hps;split at h
  ·rename_i av hav;obtain ⟨ex,ef⟩:=z24 hst hav;obtain ⟨t1,v1,rfl,hro1,hro2⟩:=zfx hu;obtain ⟨ax,ay,rfl,_,_,hxv,h⟩:=zjc h;obtain ⟨cs,hok,hmk,hcells⟩:=z28 (av:=.agg (.pr ax (.pr ay .un))) rfl ex;obtain ⟨c1,c23,rfl,hok1,c2,c3,rfl,hok2,rfl⟩:=hok;rw [List.append_nil] at hcells;obtain ⟨d,σ1,g1,hk1,h1,h2,h3,hrep1⟩:=z5v 20 hst.heap hok1 hro1 h;have hst1:=h3.st h1 hst;have hok2':=AOK.frame (objs':=σ1.objs) (h3.ro w) (fun i _=>h3.kept hst.heap i) hok2;have hl2:=hok2'.len;rw [znn hk1] at hl2;obtain ⟨x0,rfl⟩:=List.length_eq_one_iff.1 (show c2.length=1 from hl2);obtain ⟨fr,l,σ2,hs2,hn2,hob1,hob2,hk2,hmv⟩:=zuh hst1.heap hro2 hok2' hk1;have hsz:(a.eval x).cells.size=t1.size+1:=by
    rw [←Array.length_toList,hcells,List.length_append,hrep1.len];rfl
   obtain ⟨cells,hcl,hrun⟩:=zam (a:=a) (w:=w) hund hinf hbig (ps:=ps) (by rw [hps];rfl) (by rw [hps];rfl) (by rw [hps];intro y hy;simp only [List.mem_singleton] at hy;subst hy;exact hsz);rw [hps] at hcl;simp only [List.map_cons,List.map_nil,List.flatten_cons,List.flatten_nil,List.append_nil,hcells] at hcl;have hf1:=h3.fresh h1 hf;let vn:Value:=.slice (some ⟨w.heap.size,0,none⟩) 1 1;let g':=zan g1 w.heap.size base vn x0 fr;have ht1:=hst1.heap.tags;have htg:∀ b,b < w.heap.size->(∀ j,fr=some j->g1.tag b≠.row j [])->g'.tag b=g1.tag b:=by
    intro b hb hj;simp only [g',zan];rw [if_neg (by omega),if_neg (by rintro ⟨j,h,h'⟩;exact hj j h h')]
   have hro':RoKept w g1 (w.alloc (.cells cells E)) g':=by
    refine ⟨fun b hb=>?_⟩;have hlt:=ht1 b (by rw [hb];simp);exact ⟨by rw [htg b hlt (fun j _=>by rw [hb];simp)];exact hb,heap_alloc_old w _ hlt⟩
   have hq0:q0≠[]:=by simp [q0]
   have hrow:Rep (w.alloc (.cells cells E)) g' (some (base,q0)) (.sl true v1) l [x0]:=by
    refine hmv _ _ base q0 hro' (by simp [g',zan,hq0]) (fun b j hj hb=>?_);have hlt:=ht1 b (by rw [hb];simp);refine ⟨?_,heap_alloc_old w _ hlt⟩;simp only [g',zan];rw [if_neg (by omega),if_pos ⟨j,hj.symm,hb⟩]
   have hfrb:∀ j,some j=fr->j≠base:=fun j hj he=>by subst he;exact (hob2 j hj).2 hf1.objs
   refine z3i (g:=g) (σ:=σ) (base:=base) (σ':=σ2.setObj base (.nest (.pair t1 (.pair (.sl true v1) .unit)) [(d,l,())] 0 0 none)) (g':=g') (v:=vn) (w':=w.alloc (.cells cells E)) ?_ ?_ (h3.ext.trans ?_) (fun m hm hfm=>⟨?_,?_⟩) ?_ ?_ hk2 (fun _ b hb=>heap_alloc_old w _ hb) hK
   ·simp only [execOp,ho];simp [hrun,vn]
   ·refine zwg (m:=base) hst1 hro' (by simp [St.setObj,hs2]) (.inl hf1) (fun y hy=>?_) (fun j hj=>?_) (fun b hb=>?_)
    ·simp only [St.setObj,z0j,zI] at hy;subst hy;have hsv:g'.sv base []=vn:=by simp [g',zan]
     refine ⟨some ⟨w.heap.size,0,none⟩,1,by rw [hsv];rfl,hsv,Nat.le_refl _,by unfold maxLen;omega,.inr ⟨w.heap.size,0,cells,E,rfl,by simp [g',zan],heap_alloc_new w _,?_,fun i hi=>?_⟩⟩
     ·rw [←Array.length_toList,hcl,List.length_append,hrep1.len];simp [Ty.size]
     ·have hi0:i=0:=by simpa using hi
      subst hi0;simp only [Nat.zero_mul,Nat.zero_add];have hs:(Ty.pair t1 (.pair (.sl true v1) .unit)).size=(c1++[x0]).length:=by
       rw [List.length_append,hrep1.len];rfl
      rw [hcl,hs,z6b];exact ⟨c1,[x0],rfl,Rep.anyOwn (o:=none) hro1 (hrep1.kept hro'),[x0],[],by simp,hrow,rfl⟩
    ·simp only [St.setObj];rw [z0k _ _ hj];by_cases hjf:some j=fr
     ·exact .inl (hob2 j hjf).1
     ·refine .inr ⟨hob1 j hjf,⟨fun q=>by simp [g',zan,hj],fun q b hb=>?_⟩,rfl,fun hb=>?_⟩
      ·have hlt:=ht1 b (by rw [hb];simp);refine ⟨?_,heap_alloc_old w _ hlt⟩;rw [htg b hlt (fun i hi hb2=>?_)]
       ·exact hb
       ·rw [hb] at hb2;simp only [Tag.row.injEq] at hb2;exact hjf (by rw [hi,hb2.1])
      ·have hlt:=ht1 _ (by rw [hb];simp);exact ⟨by rw [htg _ hlt (fun i _=>by rw [hb];simp)];exact hb,heap_alloc_old w _ hlt⟩
    ·simp only [g',zan] at hb;split at hb
     ·rename_i he;subst he;simp
     ·split at hb
      ·rename_i he;obtain ⟨j,_,hb2⟩:=he;have:=ht1 b (by rw [hb2];simp);simp;omega
      ·have:=ht1 b hb;simp;omega
   ·refine ⟨rfl,rfl,rfl,Nat.le_refl _,by simp,fun b hb hb2=>⟨heap_alloc_old w _ hb,htg b hb (fun j _ hb3=>?_)⟩⟩;rw [hb3] at hb2;simp at hb2
   ·refine zd5 (base:=base) (by omega) (fun b=>?_) (fun j hj=>?_) (by simp [St.setObj,z0j]) (by simp [St.setObj,hs2]) (h3.fresh h1 hfm)
    ·simp only [g',zan];split
     ·exact .inr ⟨[],rfl⟩
     ·split
      ·exact .inr ⟨q0,rfl⟩
      ·exact .inl rfl
    ·simp only [St.setObj];rw [z0k _ _ hj];by_cases hjf:some j=fr
     ·exact .inl (hob2 j hjf).1
     ·exact .inr (hob1 j hjf)
   ·simp [AVal.ids];omega
   ·simp [St.setObj,hn2,h2]
   ·exact zco (u:=.pair t1 (.pair (.sl true v1) .unit)) (l:=[(d,l,())]) (e:=0) (i:=0) (by simp [St.setObj,z0j]) (by simp [g',zan]) rfl
  ·simp at h
 ·simp at h
theorem zfw {id:Nat} {t:Ty} {l:List t.den} {v:Value} (h:Rep w g (some (id,[])) (.sl true t) l [v]) :
  ∃ b cap olds,v = .slice b l.length cap∧g.sv id []=v∧l.length≤cap∧cap≤maxLen∧Tail P w (roG g) t.ro v (l.map (Ty.toRo t)) olds∧
   ((b=none∧l=[]∧cap=0∧olds=[])∨∃ bk off cc ee,b=some ⟨bk,off,none⟩∧g.tag bk = .row id []∧w.heap[bk]? = some (.cells cc ee (0,0))∧off+cap*t.size≤cc.size∧olds=seg cc.toList off (l.length*t.size)∧
    ∀ (i:Nat) (h:i < l.length),Rep w g (some (id,[Step.idx (i:Int)])) t (l.get ⟨i,h⟩) (seg cc.toList (off+i*t.size) t.size)):=by
 obtain ⟨b,cap,hv,hsv,h1,h2,h3⟩:=h;simp only [List.cons.injEq,and_true] at hv;subst hv;rcases h3 with ⟨rfl,hl,rfl⟩ | ⟨bk,off,cc,ee,rfl,htag,hcell,hsz,hel⟩
 ·subst hl;exact ⟨none,0,[],rfl,hsv,h1,h2,Tail.of_nil,.inl ⟨rfl,rfl,rfl,rfl⟩⟩
 ·have hcap:l.length*t.size≤cap*t.size:=Nat.mul_le_mul_right _ h1;have hlm:(l.map (Ty.toRo t)).length=l.length:=by simp
  have htl:=Tail.of_block (P:=P) (w:=w) (g:=roG g) (t:=t.ro) (m:=l.map (Ty.toRo t)) (b:=bk) (off:=off) (cap:=cap) hcell (by rw [hlm,Ty.size_ro];omega) (fun i hi=>by
   have hi':i < l.length:=by rw [hlm] at hi;exact hi
   have hf:=Rep.freeze (zdw w g) (o:=some (id,[]++[Step.idx (i:Int)])) (z9z w g id _) (hel i hi');simp only [List.get_eq_getElem,List.getElem_map,Ty.size_ro] at hf ⊢;exact hf)
  rw [hlm,Ty.size_ro] at htl;exact ⟨_,cap,_,rfl,hsv,h1,h2,htl,.inr ⟨bk,off,cc,ee,rfl,htag,hcell,hsz,rfl,fun i hi=>hel i hi⟩⟩
def zps (g:Ghost) (id:Nat) (nb:Option Nat) (v:Value) (n i2:Nat):Ghost where
 tag:=fun b=>if nb=some b then .row id [] else match g.tag b with
  | .row i (.idx j :: q)=>if i=i2∧j=0 then .row id (.idx (n:Int) :: q) else .row i (.idx j :: q)
  | t=>t
 sv:=fun i q=>if i=id then (match q with
  | []=>v
  | .idx j :: q'=>if j=(n:Int) then g.sv i2 (.idx 0 :: q') else g.sv id (.idx j :: q')
  | q=>g.sv id q) else g.sv i q
 blk:=g.blk
theorem zf1 {id n i2 b:Nat} {nb:Option Nat} {v:Value} (hb:nb≠some b) (h:∀ q,g.tag b≠.row i2 (.idx 0 :: q)):(zps g id nb v n i2).tag b=g.tag b:=by
 simp only [zps,if_neg hb];split
 ·rename_i i j q he;rw [if_neg (fun hc=>h q (by rw [he,hc.1,hc.2]))];exact he.symm
 ·rfl
theorem zya {n:Nat} {w':World} {σ':St} {id i2:Nat} {t:Ty} {l l0:List t.den} {d:t.den} {e i e' i':Nat} {nb:Option Nat} {v:Value} {nb0 off cap:Nat} {c:Array Value} {ee:TypeId} {ol:Nat->List Value} {news:List Value}
  (hst:StOK n g w a σ) (hobj:σ.objs id=some (.nest t l0 e i none)) (he:e < e') (hi:i < i') (hs:σ'.slots=σ.slots) (ho:σ'.objs id=some (.nest t (l++[d]) e' i' none))
  (hoth:∀ j,j≠id->(j=i2∧σ'.objs j=none)∨(j≠i2∧σ'.objs j=σ.objs j)) (h2:i2=id->l=[])
  (hnb:∀ b,nb=some b->w.heap.size≤b∧b < w'.heap.size) (hheap:∀ b,b < w.heap.size->g.tag b≠.row id []->w'.heap[b]? = w.heap[b]?) (hsize:w.heap.size≤w'.heap.size)
  (hos:w'.os=w.os) (htp:w'.tape=w.tape) (hout:w'.output=w.output) (hdr:w.drawn≤w'.drawn)
  (hv:v = .slice (some ⟨nb0,off,none⟩) (l.length+1) cap) (hcap:l.length+1≤cap) (hmax:cap≤maxLen) (htag:(zps g id nb v l.length i2).tag nb0 = .row id []) (hcell:w'.heap[nb0]? = some (.cells c ee (0,0))) (hsz:off+cap*t.size≤c.size)
  (hold:∀ (k:Nat) (h:k < l.length),Rep w g (some (id,[Step.idx (k:Int)])) t (l.get ⟨k,h⟩) (ol k)) (holc:∀ k,k < l.length->seg c.toList (off+k*t.size) t.size=ol k)
  (hnew:Rep w g (some (i2,[Step.idx 0])) t d news) (hnc:seg c.toList (off+l.length*t.size) t.size=news) :
  StOK n (zps g id nb v l.length i2) w' a σ'∧Ext w g w' (zps g id nb v l.length i2)∧(∀ m,Fresh g σ m->Fresh (zps g id nb v l.length i2) σ' m)∧(zps g id nb v l.length i2).sv id []=v:=by
 let g':=zps g id nb v l.length i2;have ht:=hst.heap.tags;have hlt:∀ b,g.tag b≠.alien->b < w.heap.size∧nb≠some b:=fun b hb=>⟨ht b hb,fun hc=>by have:=hnb b hc;have:=ht b hb;omega⟩
 have hkeep:∀ b,g.tag b≠.alien->(∀ q,g.tag b≠.row i2 (.idx 0 :: q))->g.tag b≠.row id []->g'.tag b=g.tag b∧w'.heap[b]? = w.heap[b]? := fun b hb hq hr=>
  ⟨zf1 (hlt b hb).2 hq,hheap b (hlt b hb).1 hr⟩
 have hro:RoKept w g w' g':=⟨fun b hb=>by
  obtain ⟨h1,h2⟩:=hkeep b (by rw [hb];simp) (by rw [hb];simp) (by rw [hb];simp);exact ⟨h1.trans hb,h2⟩⟩
 have hsv:g'.sv id []=v:=by simp [g',zps]
 refine ⟨?_,?_,fun m hfm=>?_,hsv⟩
 ·refine zwg (m:=id) hst hro hs (.inr ?_) (fun y hy=>?_) (fun j hj=>?_) (fun b hb=>?_)
  ·rw [hobj,ho];exact .inr (.inr (.inr (.inr ⟨t,l0,l++[d],e,e',i,i',none,none,rfl,rfl,by omega,by omega,fun h=>by omega,fun h=>by omega⟩)))
  ·rw [ho] at hy;simp only [zI] at hy;subst hy;have hlen:(l++[d]).length=l.length+1:=by simp
   refine ⟨some ⟨nb0,off,none⟩,cap,by rw [hsv,hlen,hv],by rw [hsv,hlen,hv],by rw [hlen];exact hcap,hmax,.inr ⟨nb0,off,c,ee,rfl,htag,hcell,hsz,fun k hk=>?_⟩⟩;by_cases hkl:k < l.length
   ·have hne:i2≠id:=fun h=>by rw [h2 h] at hkl;simp at hkl
    rw [holc k hkl];have hget:(l++[d]).get ⟨k,hk⟩=l.get ⟨k,hkl⟩:=by simp [List.getElem_append_left hkl]
    rw [hget];refine Rep.move hro (o:=some (id,[Step.idx (k:Int)])) (o':=some (id,[]++[Step.idx (k:Int)])) ⟨fun q=>?_,fun q b hb=>?_⟩ (hold k hkl)
    ·have:((k:Int)=(l.length:Int))=False:=by simp;omega
     simp [g',zps,this]
    ·simp only [List.cons_append,List.nil_append] at hb ⊢;obtain ⟨h3,h4⟩:=hkeep b (by rw [hb];simp) (by rw [hb];intro q hq;simp at hq;exact hne hq.1.symm) (by rw [hb];simp);exact ⟨h3.trans hb,h4⟩
   ·have hkl':k=l.length:=by rw [hlen] at hk;omega
    subst hkl';rw [hnc];have hget:(l++[d]).get ⟨l.length,hk⟩=d:=by simp
    rw [hget];refine Rep.move hro (o:=some (i2,[Step.idx 0])) (o':=some (id,[]++[Step.idx (l.length:Int)])) ⟨fun q=>?_,fun q b hb=>?_⟩ hnew
    ·simp [g',zps]
    ·simp only [List.cons_append,List.nil_append] at hb ⊢;refine ⟨?_,hheap b (hlt b (by rw [hb];simp)).1 (by rw [hb];simp)⟩;simp only [g',zps,if_neg (hlt b (by rw [hb];simp)).2,hb];rw [if_pos (by simp)]
  ·rcases hoth j hj with ⟨_,h⟩ | ⟨h3,h⟩
   ·exact .inl h
   ·refine .inr ⟨h,⟨fun q=>by simp [g',zps,hj],fun q b hb=>?_⟩,rfl,fun hb=>?_⟩
    ·simp only [List.nil_append] at hb ⊢;obtain ⟨h4,h5⟩:=hkeep b (by rw [hb];simp) (by rw [hb];intro q hq;simp at hq;exact h3 hq.1) (by rw [hb];simp;intro hc;exact absurd hc hj);exact ⟨h4.trans hb,h5⟩
    ·obtain ⟨h4,h5⟩:=hkeep _ (by rw [hb];simp) (by rw [hb];simp) (by rw [hb];simp);exact ⟨h4.trans hb,h5⟩
  ·by_cases hc:nb=some b
   ·exact (hnb b hc).2
   ·by_cases ha:g.tag b = .alien
    ·rw [zf1 hc (by rw [ha];simp)] at hb;exact absurd ha hb
    ·have:=ht b ha;omega
 ·refine ⟨hos,htp,hout,hdr,hsize,fun b hb hb2=>⟨hheap b hb (by rcases hb2 with h | h <;> rw [h] <;> simp),zf1 (fun hc=>by have:=hnb b hc;omega) (by rcases hb2 with h | h <;> rw [h] <;> simp)⟩⟩
 ·have hmid:m≠id:=fun h=>by subst h;have:=hfm.objs;rw [hobj] at this;simp at this
  have htags:∀ b,g'.tag b=g.tag b∨∃ p,g'.tag b = .row id p:=by
   intro b;simp only [g',zps];split
   ·exact .inr ⟨_,rfl⟩
   ·split
    ·rename_i he;split
     ·exact .inr ⟨_,rfl⟩
     ·exact .inl he.symm
    ·exact .inl rfl
  refine zd5 (base:=id) hmid htags (fun j hj=>?_) (by rw [ho];simp) hs hfm;rcases hoth j hj with ⟨_,h⟩ | ⟨_,h⟩
  ·exact .inl h
  ·exact .inr h
theorem zfr {x:AVal} {f:(t:Ty)->(id e i:Nat)->t.den->Option R} {r:R} (h:oneN σ x f=some r):∃ id e i t d,x = .nv false id [] e∧σ.objs id=some (.nest t [d] e i none)∧t.allOwn=true∧f t id e i d=some r:=by
 unfold oneN at h;split at h
 ·rename_i id ep;split at h
  ·rename_i t d e i ho
   cases hb:(Nat.beq e ep && t.allOwn) with
   | false=>rw [hb] at h;simp at h
   | true=>
    rw [hb] at h;simp only [zA] at hb;have he:=zE hb.1;subst he;exact ⟨id,e,i,t,d,rfl,ho,hb.2,h⟩
  ·simp at h
 ·simp at h
theorem zye {id e i:Nat} {t:Ty} {l:List t.den} {v:Value} {h:Option z1a} (ho:σ.objs id=some (.nest t l e i h)) (hv:VOK w g σ.objs (.nv false id [] e) v):v=g.sv id []:=by
 simp only [VOK] at hv;obtain ⟨cs,⟨x,rfl,_,hx⟩,hv⟩:=hv;have:=((hx _ _ _ _ _ ho).2 rfl).1 rfl;rw [hv];exact this
set_option maxHeartbeats 2000000 in
theorem zu8 (htt:zbd P c.tt) {args:Array Operand} {ts:Array TypeId} (ho:o.op = .call { callee:=.builtin .append,args:=args,argTypes:=ts }) (hst:StOK c.ntmps g w a σ)
  {x y:Operand} {t:TypeId} {u:Ty} {ow:Bool} {av bv:AVal} (hargs:args.toList=[x,y]) (htys:ts.toList=[t,t]) (htu:c.tt t=some (.sl ow u)) (hx:ev σ x=some av) (hy:ev σ y=some bv)
  (h:z7m σ u av bv (fun v σ=>σ.putK c o.dst v k)=some r) (hK:z79 c.ntmps k r g w σ base true K):o.wp P a w K Q:=by
 have hT:=htt _ _ htu;simp only [z2j] at hT;obtain ⟨⟨E,hund,hE⟩,_⟩:=hT;have hinf:=hE.info;obtain ⟨ex,efx⟩:=z24 hst hx;obtain ⟨ey,efy⟩:=z24 hst hy;unfold z7m at h;split at h
 ·-- to nil
  have hv:=zbc.1 ex;obtain ⟨i2,e2,n2,t1,d,rfl,hobj2,_,h⟩:=zfr h
  cases hbs:t1.sk.same u.sk with
  | false=>rw [hbs] at h;simp at h
  | true=>
   rw [hbs] at h;simp only [cond_true] at h;have hsk:=Sk.same_eq hbs;have hus:u.size=t1.ro.size:=by rw [Ty.size_ro,←Ty.sk_size,←Ty.sk_size,hsk]
   obtain ⟨b2,cap2,news,hv2,hsv2,_,_,htail,hrow⟩:=zfw (P:=P) (hst.heap.objs _ _ hobj2:Rep w g (some (i2,[])) (.sl true t1) [d] [g.sv i2 []]);have hyv:=zye hobj2 ey;rcases hrow with ⟨_,hl,_⟩ | ⟨bk,off,cc,ee,rfl,htag,hcell,hsz,hnews,hel⟩
   ·simp at hl
   ·rw [←hyv] at htail;obtain ⟨zs,hrun',hzs⟩:=z6e (P:=P) (w:=w) (ty:=0) (t:=t1.ro) (b:=none) (n:=0) (cap:=0) (olds:=[]) hund hinf hus htail (by simp) (by simp) (fun w' _=>by simp [Builtin.firstCells]);have hrun:=z2w (P:=P) ho hargs htys (fun ty=>by rw [hv];exact hrun');have hnl:news.length=t1.size:=by rw [htail.length];simp [Ty.size_ro]
    have hge:=grownCap_ge w (0+([d].map (Ty.toRo t1)).length) 0 E;simp only [List.length_map,List.length_singleton,Nat.zero_add] at hrun hge hzs;have hgm:=grownCap_le_maxLen w 1 0 E (by unfold maxLen;omega);let cap':=grownCap w 1 0 E;obtain ⟨r1,r2,r3,r4⟩:=zya (g:=g) (σ:=σ) (id:=i2) (i2:=i2) (t:=t1) (l:=[]) (l0:=[d]) (d:=d) (e':=e2+1) (i':=n2+1) (nb:=some w.heap.size) (nb0:=w.heap.size) (off:=0) (cap:=cap') (ol:=fun _=>[]) (news:=news)
     (v:=.slice (some ⟨w.heap.size,0,none⟩) 1 cap') (σ':=σ.setObj i2 (.nest t1 [d] (e2+1) (n2+1) none)) (w':=w.drew.alloc (.cells (([]:List Value).toArray++news.toArray++zs) E)) (c:=([]:List Value).toArray++news.toArray++zs) (ee:=E)
     hst hobj2 (by omega) (by omega) rfl (by simp [St.setObj,z0j]) (fun j hj=>.inr ⟨hj,by simp only [St.setObj];exact z0k _ _ hj⟩) (fun _=>rfl) (fun b hb=>by simp only [zI] at hb;subst hb;simp)
     (fun b hb _=>heap_alloc_old w.drew _ hb) (by simp) rfl rfl rfl (Nat.le_succ _) (by simp) (by simpa using hge) hgm (by simp [zps]) (heap_alloc_new w.drew _)
     (by
      simp only [Array.size_append,List.size_toArray,hzs,hnl,List.length_nil,Ty.size_ro,Nat.zero_add];rw [Nat.sub_mul];have:1*t1.size≤cap'*t1.size:=Nat.mul_le_mul_right _ hge;show cap'*t1.size≤t1.size+(cap'*t1.size-1*t1.size);omega)
     (fun k hk=>by simp at hk) (fun k hk=>by simp at hk)
     (by
      have:=hel 0 (by simp);rw [hnews];simpa using this)
     (by
      simp only [List.length_nil,Nat.zero_mul,Nat.add_zero,Array.toList_append,List.nil_append];rw [←hnl];rw [z1f _ _ _ _ (by simp)];exact z6b _)
    refine z3i (g:=g) (σ:=σ) (base:=base) hrun r1 r2 (fun m _ hfm=>⟨r3 m hfm,?_⟩) rfl (zco (u:=t1) (l:=[d]) (e:=e2+1) (i:=n2+1) (by simp [St.setObj,z0j]) r4.symm rfl) h (fun h=>Bool.noConfusion h) hK;have:=efy m hfm;simpa [AVal.ids] using this
 ·-- to a row
  rename_i id ep;split at h
  ·rename_i t1 l e i hobj
   cases hbs:(Nat.beq e ep && t1.sk.same u.sk) with
   | false=>rw [hbs] at h;simp at h
   | true=>
    rw [hbs] at h;simp only [cond_true] at h;simp only [zA] at hbs;have hee:=zE hbs.1;subst hee;have hsk:=Sk.same_eq hbs.2;have hus:u.size=t1.ro.size:=by rw [Ty.size_ro,←Ty.sk_size,←Ty.sk_size,hsk]
    obtain ⟨i2,e2,n2,t2,d2,rfl,hobj2,_,h⟩:=zfr h
    cases hbi:Nat.beq id i2 with
    | true=>rw [hbi] at h;simp at h
    | false=>
     rw [hbi] at h;simp only [cond_false] at h;have hne:i2≠id:=fun hc=>by subst hc;rw [Nat.beq_refl] at hbi;simp at hbi
     obtain ⟨hc,h⟩:=z0u h;subst hc;obtain ⟨hrm,h⟩:=z1x h;have hrm:=of_decide_eq_true hrm;unfold z3e at hrm;obtain ⟨b2,cap2,news,hv2,hsv2,_,_,htail,hrow2⟩:=zfw (P:=P) (hst.heap.objs _ _ hobj2:Rep w g (some (i2,[])) (.sl true t2) [d2] [g.sv i2 []]);obtain ⟨b1,cap1,olds,hv1,hsv1,hl1,hm1,htail1,hrow1⟩:=zfw (P:=P) (hst.heap.objs _ _ hobj:Rep w g (some (id,[])) (.sl true t2) l [g.sv id []]);have hyv:=zye hobj2 ey;have hxv:=zye hobj ex;rcases hrow2 with ⟨_,hl,_⟩ | ⟨bk2,off2,cc2,ee2,rfl,htag2,hcell2,hsz2,hnews2,hel2⟩
     ·simp at hl
     rw [←hyv] at htail;have hnl:news.length=t2.size:=by rw [htail.length];simp [Ty.size_ro]
     have hnew:Rep w g (some (i2,[Step.idx 0])) t2 d2 news:=by
      have:=hel2 0 (by simp);rw [hnews2];simpa using this
     have hσ:∀ j,j≠id->(j=i2∧((σ.kill i2).setObj id (.nest t2 (l++[d2]) (e+1) (i+1) none)).objs j=none)∨(j≠i2∧((σ.kill i2).setObj id (.nest t2 (l++[d2]) (e+1) (i+1) none)).objs j=σ.objs j):=by
      intro j hj;simp only [St.setObj,St.kill];rw [z0k _ _ hj];by_cases h2:j=i2
      ·subst h2;exact .inl ⟨rfl,z0j _ _ _⟩
      ·exact .inr ⟨h2,z0k _ _ h2⟩
     have hfin:∀ m,Fresh g σ m->m∉(AVal.nv false id [] (e+1)).ids:=fun m hfm=>by
      have:=efx m hfm;simpa [AVal.ids] using this
     have hvx:a.eval x = .slice b1 l.length cap1:=hxv.trans hv1;by_cases hmore:cap1 < l.length+1
     ·obtain ⟨zs,hrun',hzs⟩:=z6e (P:=P) (w:=w) (ty:=0) (t:=t2.ro) (b:=b1) (n:=l.length) (cap:=cap1) (olds:=olds) hund hinf hus htail (by simpa using hmore) (by simpa using hrm) (fun w' hw'=>by
       have:=htail1.cells w' hw';rw [hv1] at this;simpa using this)
      have hrun:=z2w (P:=P) ho hargs htys (fun ty=>by rw [hvx];exact hrun');simp only [List.length_map,List.length_singleton] at hrun hzs;have hge:=grownCap_ge w (l.length+1) cap1 E;have hgm:=grownCap_le_maxLen w (l.length+1) cap1 E (by unfold maxLen;omega);let cap':=grownCap w (l.length+1) cap1 E;have hol:olds.length=l.length*t2.size:=by rw [htail1.length];simp [Ty.size_ro]
      obtain ⟨ol,hold,holc⟩:∃ ol:Nat->List Value,(∀ (k:Nat) (h:k < l.length),Rep w g (some (id,[Step.idx (k:Int)])) t2 (l.get ⟨k,h⟩) (ol k))∧∀ k,k < l.length->seg olds (k*t2.size) t2.size=ol k:=by
       rcases hrow1 with ⟨_,hl,_,_⟩ | ⟨bk,off,cc,ee,_,_,hcell,hsz,hols,hel⟩
       ·exact ⟨fun _=>[],fun k hk=>by rw [hl] at hk;simp at hk,fun k hk=>by rw [hl] at hk;simp at hk⟩
       ·refine ⟨_,hel,fun k hk=>?_⟩;have h3:(k+1)*t2.size≤l.length*t2.size:=Nat.mul_le_mul_right _ hk;rw [Nat.add_mul] at h3;rw [hols,z7b _ _ _ _ _ (by omega)]
      obtain ⟨r1,r2,r3,r4⟩:=zya (g:=g) (σ:=σ) (id:=id) (i2:=i2) (t:=t2) (l:=l) (l0:=l) (d:=d2) (e':=e+1) (i':=i+1) (nb:=some w.heap.size) (nb0:=w.heap.size) (off:=0) (cap:=cap') (ol:=ol) (news:=news)
       (v:=.slice (some ⟨w.heap.size,0,none⟩) (l.length+1) cap') (σ':=(σ.kill i2).setObj id (.nest t2 (l++[d2]) (e+1) (i+1) none)) (w':=w.drew.alloc (.cells (olds.toArray++news.toArray++zs) E)) (c:=olds.toArray++news.toArray++zs) (ee:=E)
       hst hobj (by omega) (by omega) rfl (by simp [St.setObj,z0j]) hσ (fun h=>absurd h hne) (fun b hb=>by simp only [zI] at hb;subst hb;simp)
       (fun b hb _=>heap_alloc_old w.drew _ hb) (by simp) rfl rfl rfl (Nat.le_succ _) rfl hge hgm (by simp [zps]) (heap_alloc_new w.drew _)
       (by
        simp only [Array.size_append,List.size_toArray,hzs,hnl,hol,Ty.size_ro,Nat.zero_add];rw [Nat.sub_mul];have:(l.length+1)*t2.size≤cap'*t2.size:=Nat.mul_le_mul_right _ hge;rw [Nat.add_mul] at this ⊢;show cap'*t2.size≤l.length*t2.size+t2.size+(cap'*t2.size-(l.length*t2.size+1*t2.size));omega)
       hold (fun k hk=>by
        have h3:(k+1)*t2.size≤l.length*t2.size:=Nat.mul_le_mul_right _ hk;rw [Nat.add_mul] at h3;rw [←holc k hk,Nat.zero_add];simp only [Array.toList_append,List.append_assoc];exact z1f _ _ _ _ (by omega))
       hnew (by
        rw [Nat.zero_add];simp only [Array.toList_append,List.append_assoc];have:=z1g olds (news++zs.toList) (l.length*t2.size) 0 t2.size hol.symm;rw [Nat.add_zero] at this;rw [this,z1f _ _ _ _ (by omega),←hnl,z6b])
      exact z3i (g:=g) (σ:=σ) (base:=base) hrun r1 r2 (fun m _ hfm=>⟨r3 m hfm,hfin m hfm⟩) rfl (zco (u:=t2) (l:=l++[d2]) (e:=e+1) (i:=i+1) (by simp [St.setObj,z0j]) r4.symm rfl) h (fun h=>Bool.noConfusion h) hK
     ·rcases hrow1 with ⟨_,hl,hc0,_⟩ | ⟨bk,off,cc,ee,rfl,htag1,hcell1,hsz1,hols,hel⟩
      ·omega
      ·have hccl:cc.toList.length=cc.size:=Array.length_toList;have hmul:(l.length+1)*t2.size≤cap1*t2.size:=Nat.mul_le_mul_right _ (by omega);rw [Nat.add_mul] at hmul;have hrun':=z91 (P:=P) (w:=w) (ty:=0) (t:=t2.ro) (n:=l.length) (cap:=cap1) (off:=off) hund hinf hus hcell1 htail (by simp;omega) (by rw [Ty.size_ro];exact hsz1);have hrun:=z2w (P:=P) ho hargs htys (fun ty=>by rw [hvx];exact hrun');simp only [List.length_map,List.length_singleton,Ty.size_ro] at hrun;obtain ⟨r1,r2,r3,r4⟩:=zya (g:=g) (σ:=σ) (id:=id) (i2:=i2) (t:=t2) (l:=l) (l0:=l) (d:=d2) (e':=e+1) (i':=i+1) (nb:=none) (nb0:=bk) (off:=off) (cap:=cap1) (ol:=fun k=>seg cc.toList (off+k*t2.size) t2.size) (news:=news)
        (v:=.slice (some ⟨bk,off,none⟩) (l.length+1) cap1) (σ':=(σ.kill i2).setObj id (.nest t2 (l++[d2]) (e+1) (i+1) none)) (w':=w.setRow bk (z0f cc.toList (off+l.length*t2.size) news).toArray) (c:=(z0f cc.toList (off+l.length*t2.size) news).toArray) (ee:=ee)
        hst hobj (by omega) (by omega) rfl (by simp [St.setObj,z0j]) hσ (fun h=>absurd h hne) (fun b hb=>by simp at hb)
        (fun b hb hb2=>setRow_other w bk b _ (fun he=>hb2 (he ▸ htag1))) (by simp [World.setRow]) rfl rfl rfl (Nat.le_refl _) rfl (by omega) hm1 (by rw [zf1 (by simp) (by rw [htag1];simp)];exact htag1) (setRow_heap w bk cc _ ee _ hcell1)
        (by rw [List.size_toArray,z1u _ _ _ (by omega),hccl];exact hsz1)
        hel (fun k hk=>by
         have h3:(k+1)*t2.size≤l.length*t2.size:=Nat.mul_le_mul_right _ hk;rw [Nat.add_mul] at h3;exact z1p _ _ _ _ _ (by omega) (by omega))
        hnew (by
         have:=z6a cc.toList (off+l.length*t2.size) news (by omega);rw [hnl] at this;exact this)
       exact z3i (g:=g) (σ:=σ) (base:=base) hrun r1 r2 (fun m _ hfm=>⟨r3 m hfm,hfin m hfm⟩) rfl (zco (u:=t2) (l:=l++[d2]) (e:=e+1) (i:=i+1) (by simp [St.setObj,z0j]) r4.symm rfl) h (fun h=>Bool.noConfusion h) hK
  ·simp at h
 ·simp at h
end
end
end Go.Kz
