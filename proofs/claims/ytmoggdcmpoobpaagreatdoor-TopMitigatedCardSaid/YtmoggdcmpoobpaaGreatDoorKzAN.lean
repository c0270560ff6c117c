/-
  Regions whose order is drawn: an operation that yields its value may be taken first.
-/
import Derived.Test.YtmoggdcmpoobpaaGreatDoorKzAB
import Derived.OrdersHeld
import Derived.LoopN
import Derived.Scope
import Derived.OpenShut
import Derived.ShutString
import Derived.ChangeOld
import Derived.Below
import Derived.Laws.Cover3
set_option linter.unusedVariables false
set_option linter.unusedSimpArgs false
namespace Go.Kz
section
variable {P:Program}{ops:Array Oper}{Q:Exit->Act->World->Prop}{md:Region.Mode}{w0:World}{q:Bool}
def Bu(q:Bool)(P:Program)(md:Region.Mode)(ops:Array Oper)(Q:Exit->Act->World->Prop):Nat->Array Bool->Act->World->Prop
 |0,listed,a,w=>Region.ready md ops listed=[]/\Q .normal a w
 |fuel+1,listed,a,w=>
  (Region.ready md ops listed=[]->Q .normal a w)/\
  ∀i∈Region.ready md ops listed,wpOp P ops Q i (λa' w'=>((∀o,ops[i]? = some o->Qb q o=false->vp w w'))/\Bu q P md ops Q fuel (listed.setIfInBounds i true) a' w') a w
theorem VP:∀(fuel:Nat)(listed:Array Bool)(a:Act)(w:World),Bu q P md ops Q fuel listed a w->wpAny P md ops Q fuel listed a w
 |0,_,_,_,h=>h
 |fuel+1,_,_,_,h=>⟨h.1,λi hi=>wpOp_mono (λa' w' h'=>VP fuel _ a' w' h'.2) (h.2 i hi)⟩
def NO(ops:Array Oper)(a0:Act)(Q:Exit->Act->World->Prop):Exit->Act->World->Prop:=
 λe a w=>(e=.normal->∀s,(∀o∈ops.toList,o.dst≠some s)->a.tmps[s]? = a0.tmps[s]?)->Q e a w
theorem Oper.zu1{o:Oper}{a:Act}{w:World}{K:Act->World->Prop}{Q1 Q2:Exit->Act->World->Prop}(h1:∀c a w,Q1 (.panic c) a w->Q2 (.panic c) a w)(h2:∀a w,Q1 .outgrown a w->Q2 .outgrown a w)
  (hh:o.wp P a w K Q1):o.wp P a w K Q2:=by
 unfold Oper.wp at *;generalize (execOp a.eval o).run P w=r at *
 cases r with
 |ok n w'=>
  cases n<;>simp only[Oper.upon]at hh⊢ <;>
   first
    |exact hh
    |exact Calls.mono hh (λe w'' he=>by
      cases e with
      |returned v=>exact he
      |panicked c=>exact h1 _ _ _ he
      |outgrown=>exact he.imp λa h=>h.imp λw h=>h2 a w h)
 |halt x w'=>cases x<;>simp only[Oper.upon]at hh⊢ <;>first|exact hh|exact h1 _ _ _ hh
theorem ui{a0:Act}:(fuel:Nat)->(listed:Array Bool)->(a:Act)->(w:World)->(∀s,(∀o∈ops.toList,o.dst≠some s)->a.tmps[s]? = a0.tmps[s]?)->
  wpAny P md ops (NO ops a0 Q) fuel listed a w->wpAny P md ops Q fuel listed a w
 |0,listed,a,w,hk,h=>⟨h.1,h.2 λ_=>hk⟩
 |fuel+1,listed,a,w,hk,h=>by
  refine⟨λhr=>h.1 hr λ_=>hk,λi hi=>?_⟩;have hh:=h.2 i hi;unfold wpOp at *;split
  ·rename_i ho;simp only[ho]at hh;exact ui fuel _ a w hk hh
  ·rename_i o ho;simp only[ho]at hh;have hmem:o∈ops.toList:=by
    obtain⟨qk,rfl⟩:=Z26.1 ho;simp
   split
   ·rename_i hw;simp only[hw,Ms]at hh;rcases hh with hh|⟨hh,a1,w1,h1⟩
    ·left;refine Oper.zu1 (Q1:=NO ops a0 Q) (λc a w h=>h (by simp)) (λa w h=>h (by simp)) ?_;refine Oper.wp_mono (λa' w' hh=>?_) (Oper.Ts hh);exact ui fuel _ a' w' (λs hs=>(hh.1 s (hs o hmem)).trans (hk s hs)) hh.2
    ·exact .inr ⟨hh,a1,w1,h1 (by simp)⟩
   ·rename_i hw;simp only[hw]at hh;refine ui fuel _ _ w (λs hs=>?_) hh;rw[JB,qW (λh=>hs o hmem h.1)];exact hk s hs
def zg6(md:Region.Mode)(ops:Array Oper)(i:Nat)(Lt:List Nat):Prop:=
 ∀x∈Lt,∀ox,ops[x]? = some ox->∃e∈ox.after,Region.binds md e=true/\(e.on=i\/e.on∈Lt)
theorem Rf{i:Nat}{Lt:List Nat}{listed:Array Bool}(hw:zg6 md ops i Lt)(hl:∀x∈Lt,listed.getD x true=false)(hi:listed.getD i true=false){j:Nat}(hj:j∈Region.ready md ops listed):j∉Lt:=by
 intro hjl;obtain⟨_,oj,Z4,hall⟩:=mem_ready.1 hj;obtain⟨e,he,hb,hon⟩:=hw j hjl oj Z4;have h1:=hall e he hb;have h0:listed.getD e.on true=false:=by
  rcases hon with h|h
  ·rw[h];exact hi
  ·exact hl _ h
 rcases Z41 e.on listed.size with h'|h'
 ·simp[h']at h0 h1;rw[h0]at h1;cases h1
 ·simp[Z3h h']at h1
theorem Bp{i:Nat}{oi:Oper}{v:Value}{Lt:List Nat}(hi:ops[i]? = some oi)(zpk:∀(j:Nat) (o:Oper) cs b,ops[j]? = some o->o.op≠.select cs b)
  (hQ:∀c a w,¬Q (.panic c) a w) (hwt:zg6 md ops i Lt) :
  ∀(fuel:Nat)(listed:Array Bool)(a:Act)(w:World),
   (∀j oj,ops[j]? = some oj->j≠i->listed.getD j true=false->(∀e∈oj.after,Region.binds md e=true->e.on≠i)->oi.apart ops oj=true)->
   (∀x∈Lt,listed.getD x true=false)->(∀j oj,ops[j]? = some oj->j≠i->listed.getD j true=false->Qb q oj=true->j∈Lt\/isP oi=true)->
   i∈Region.ready md ops listed->YieldsIf P ops (N6 oi w0) oi v a->N6 oi w0 w->
   Bu q P md ops Q fuel (listed.setIfInBounds i true) (a.put oi.dst v) w->Bu q P md ops Q (fuel+1) listed a w:=by
 intro fuel
 induction fuel with
 |zero=>
  intro listed a w _ _ _ hr hy hS H;refine⟨λh=>(by rw[h]at hr;cases hr),λj hj=>?_⟩;by_cases Uz:j=i
  ·subst Uz;exact hy.wpOp hi hS ⟨λ_ _ _=>vp.refl w,H⟩
  ·have:=ready_mono hj Uz;rw[H.1]at this
   cases this
 |succ fuel ih=>
  intro listed a w VY qk hM hr hy hS H;refine⟨λh=>(by rw[h]at hr;cases hr),λj hj=>?_⟩;by_cases Uz:j=i
  ·subst Uz;exact hy.wpOp hi hS ⟨λ_ _ _=>vp.refl w,H⟩
  ·have h1:=H.2 j (ready_mono hj Uz);have hi0:=(mem_ready.1 hr).1;have hjl:=Rf hwt qk hi0 hj;obtain⟨ziz,oj,Z4,hall⟩:=mem_ready.1 hj;have hnM:isP oi=false->Qb q oj=false:=by
    intro hP
    cases hm:Qb q oj with
    |false=>rfl
    |true=>
     rcases hM j oj Z4 Uz ziz hm with h|h
     ·exact absurd h hjl
     ·rw[hP]at h;simp at h
   have zz9:∀e∈oj.after,Region.binds md e=true->e.on≠i:=λe he hb heq=>by
    have h1:=hall e he hb;have h0:=hi0;rw[heq]at h1;rcases Z41 i listed.size with h'|h'
    ·simp[h']at h0 h1;rw[h0]at h1;cases h1
    ·simp[Z3h h']at h1
   have h2:=wpOp_putIf Z4 (VY j oj Z4 Uz ziz zz9) (λcs b=>zpk i oi cs b hi) (λcs b=>zpk j oj cs b Z4) (λc a w h=>absurd h (hQ _ _ _)) hy h1;have zpc:∀k,(listed.setIfInBounds j true).getD k true=false->listed.getD k true=false:=λk Qn=>by
    by_cases hjk:j=k
    ·subst hjk;exact ziz
    ·rw[getD_set_ne true hjk]at Qn;exact Qn
   refine wpOp_mono (λa' w' h3=>⟨h3.2.1,ih (listed.setIfInBounds j true) a' w' (λk ok hk hki Qn Ct=>VY k ok hk hki (zpc k Qn) Ct) (λx hx=>?_) (λk ok hk hki Qn hm=>hM k ok hk hki (zpc k Qn) hm)
    (ready_mono hr (Ne.symm Uz)) h3.1 (λhP=>(hS hP).trans (h3.2.1 oj Z4 (hnM hP))) ?_⟩) h2
   ·have vg:j≠x:=λhe=>hjl (he ▸ hx)
    rw[getD_set_ne true vg];exact qk x hx
   ·rw[Array.setIfInBounds_comm _ _ Uz];exact h3.2.2
end
end Go.Kz
namespace Go.Kz
variable {R:Type}
theorem DP{d:List Nat}:{l:List Nat}->(IE l d=true↔∀x∈l,x∈d)
 |[]=>by simp[IE]
 |y::l=>by simp[IE,je,DP (l:=l)]
theorem DG{d:List Nat}:{l:List Nat}->(Bg l d=true↔∃x∈l,x∈d)
 |[]=>by simp[Bg]
 |y::l=>by simp[Bg,je,DG (l:=l)]
theorem VN{d:List Nat}:{l:List Nat}->(Xm l d=true↔∀x∈l,x∉d)
 |[]=>by simp[Xm]
 |y::l=>by
  have:=je (x:=y) (l:=d);simp only[Xm,zA,VN (l:=l),pF,forall_eq_or_imp];constructor
  ·rintro⟨h1,h2⟩;refine⟨λh=>?_,h2⟩;rw[this.2 h]at h1;simp at h1
  ·rintro⟨h1,h2⟩;refine⟨?_,h2⟩
   cases hm:j8 y d with
   |true=>exact absurd (this.1 hm) h1
   |false=>rfl
theorem wY{x:Nat}:{l:List Edge}->(x∈wP l↔∃e∈l,Region.binds .any e=true/\e.on=x)
 |[]=>by simp[wP]
 |e::l=>by
  simp only[wP]
  cases hb:Region.binds .any e with
  |true=>
   simp only[zB,pF,wY (l:=l),exists_eq_or_imp,hb,Ur]
   exact or_congr ⟨Eq.symm,Eq.symm⟩ Iff.rfl
  |false=>
   simp only[zP,pF,wY (l:=l),exists_eq_or_imp,hb];simp
theorem Cx{t:Nat}:{l:List Operand}->(t∈CZ l↔.tmp t∈l)
 |[]=>by simp[CZ]
 |x::l=>by cases x<;>simp[CZ,Cx (l:=l)]
section
variable {P:Program}{ops:Array Oper}{Q:Exit->Act->World->Prop}
theorem Su{o:Oper}{t:Nat}(h:t∈o.looksAt ops):A5 (po ops.toList) o t=true:=by
 simp only[Oper.looksAt,Gx,Z4i]at h;simp only[A5,FX,je,Cx];rcases h with⟨x,hx,h⟩|h
 ·left;cases x<;>simp at h;subst h;exact hx
 ·right;unfold z4o
  cases hg:o.guard with
  |none=>rw[hg]at h;simp at h
  |some gw=>
   obtain⟨j,want⟩:=gw;rw[hg]at h;simp only at h;have e:=B6 (ops:=ops) j
   cases hd:(ops[j]?).bind (·.dst) with
   |none=>rw[hd]at h;simp at h
   |some d=>
    rw[hd]at h e;simp only[e];simpa using h
theorem DK{x y:Oper}(h:Fz (po ops.toList) x y=true):x.apart ops y=true:=by
 unfold Fz at h;simp only[zA]at h;unfold Oper.apart;simp only[zA];have Ct:∀(o:Oper)(d:Nat),(!A5 (po ops.toList) o d)=true->(!(o.looksAt ops).contains d)=true:=by
  intro o d hd
  cases hc:(o.looksAt ops).contains d with
  |false=>rfl
  |true=>
   have:=Su (ops:=ops) (List.contains_iff_mem.1 hc);rw[this]at hd;simp at hd
 constructor
 ·have h1:=h.1
  cases hx:x.dst with
  |none=>rfl
  |some d=>
   rw[hx]at h1;simp only[zA]at h1⊢;refine⟨Ct y d h1.1,?_⟩;have h2:=h1.2
   cases hy:y.dst with
   |none=>simp
   |some e=>
    rw[hy]at h2;simp only[bne_iff_ne,ne_eq,zI];intro he;subst he;simp[Mt]at h2
 ·have h2:=h.2
  cases hy:y.dst with
  |none=>rfl
  |some d=>rw[hy]at h2;exact Ct x d h2
structure Rel (ops:Array Oper) (listed:Array Bool) (done:List Nat):Prop where
 size:listed.size=ops.size
 get:∀j,j<ops.size->listed[j]? = some (j8 j done)
theorem Rel.getD{listed:Array Bool}{done:List Nat}(h:Rel ops listed done){j:Nat}(hj:j<ops.size)(d:Bool):listed.getD j d=j8 j done:=by
 simp[Z2g,h.get j hj]
theorem Rel.start:Rel ops (Array.replicate ops.size false) []:=⟨by simp,λj hj=>by simp[hj,j8]⟩
theorem Rel.add{listed:Array Bool}{done:List Nat}(h:Rel ops listed done){i:Nat}:Rel ops (listed.setIfInBounds i true) (i::done):=by
 refine⟨by simp[h.size],λj hj=>?_⟩;rw[Z5k];have qk:j<listed.size:=by rw[h.size];exact hj
 by_cases Ze:i=j
 ·subst Ze;simp[qk,j8,Mt]
 ·rw[qW Ze,h.get j hj];have:Nat.beq i j=false:=by
   cases hb:Nat.beq i j with
   |true=>exact absurd (zE hb) Ze
   |false=>rfl
  simp[j8,this]
structure Fp (ops:Array Oper):Prop where
 sel:∀(j:Nat) (o:Oper) cs b,ops[j]? = some o->o.op≠.select cs b
theorem jd{j:Nat}{o:Oper}(h:ops[j]? = some o):(j,o)∈zc 0 ops.toList:=by
 have key:∀(l:List Oper)(i j:Nat),l[j]? = some o->(i+j,o)∈zc i l:=by
  intro l
  induction l with
  |nil=>intro i j h;simp at h
  |cons x l ih=>
   intro i j h
   cases j with
   |zero=>simp only[Z57,zI]at h;subst h;simp[zc]
   |succ j=>
    have:=ih (i+1) j (by simpa using h);simp only[zc,pF];right;have e:i+(j+1)=i+1+j:=by omega
    rw[e];exact this
 have:=key ops.toList 0 j (by rw[Z25];exact h);simpa using this
theorem uC{j:Nat}{o:Oper}(h:ops[j]? = some o):j<ops.size:=(Z26.1 h).1
theorem CI:(l:List (Nat×Oper))->GD l=true->∀x∈l,∀cs b,x.2.op≠.select cs b
 |[],_,_,hx=>by simp at hx
 |(i,o)::l,h,x,hx=>by
  simp only[GD,zA]at h;rcases pF.1 hx with rfl|hx
  ·intro cs b hs;have:=h.1;rw[hs]at this;simp at this
  ·exact CI l h.2 x hx
theorem H8(h:GD (zc 0 ops.toList)=true):Fp ops:=
 ⟨λj o cs b ho=>CI _ h _ (jd ho) cs b⟩
theorem S2{listed:Array Bool}{done:List Nat}(hr:Rel ops listed done){j:Nat}{o:Oper}(ho:ops[j]? = some o):
  j∈Region.ready .any ops listed↔j∉done/\∀e∈o.after,Region.binds .any e=true->e.on∈done/\e.on<ops.size:=by
 rw[mem_ready];have hj:=uC ho;rw[hr.getD hj];have hb:∀x,j8 x done=false↔x∉done:=λx=>by
  rw[<-je];simp
 rw[hb];refine and_congr Iff.rfl ⟨?_,?_⟩
 ·rintro⟨o',Pf,hall⟩ e he EG;rw[ho]at Pf;simp only[zI]at Pf;subst Pf;have:=hall e he EG;by_cases qk:e.on<ops.size
  ·rw[hr.getD qk,je]at this;exact⟨this,qk⟩
  ·have hn:listed[e.on]? = none:=by rw[Array.getElem?_eq_none_iff,hr.size];omega
   simp[Z2g,hn]at this
 ·intro hall;refine⟨o,ho,λe he EG=>?_⟩;obtain⟨h1,h2⟩:=hall e he EG;rw[hr.getD h2,je];exact h1
theorem A8{i x:Nat}:{l:List (Nat×Oper)}->{acc:List Nat}->x∈acc->x∈gd i l acc
 |[],_,h=>h
 |(j,o)::l,acc,h=>by
  simp only[gd];refine A8 (l:=l) ?_
  cases (j8 i (wP o.after.toList)||Bg (wP o.after.toList) acc) with
  |true=>simp[h]
  |false=>exact h
theorem VT{i:Nat}:{l:List (Nat×Oper)}->{acc:List Nat}->{G:Nat->Prop}->
  (∀x∈acc,G x)->(∀j o,(j,o)∈l->(∃y∈wP o.after.toList,y=i\/y∈gd i l acc)->G j)->∀x∈gd i l acc,G x
 |[],_,_,h,_,x,hx=>h x hx
 |(j,o)::l,acc,G,h,hG,x,hx=>by
  simp only[gd]at hx hG;refine VT (l:=l) ?_ (λj' o' hm hy=>hG j' o' (by simp[hm]) hy) x hx;intro y hy
  cases hc:(j8 i (wP o.after.toList)||Bg (wP o.after.toList) acc) with
  |false=>rw[hc]at hy;exact h y hy
  |true=>
   rw[hc]at hy hG;simp only[zB,pF]at hy hG;rcases hy with rfl|hy
   ·refine hG y o (by simp) ?_;simp only[FX,je,DG]at hc;rcases hc with hc|⟨z,hz,hza⟩
    ·exact⟨i,hc,.inl rfl⟩
    ·exact⟨z,hz,.inr (A8 (by simp[hza]))⟩
   ·exact h y hy
theorem J7{q:Bool}{dst:Nat->Option Nat}{done later:List Nat}{i:Nat}{o:Oper}:{l:List (Nat×Oper)}->O2 q dst done later i o l=true->∀x∈l,
  x.1=i\/x.1∈done\/((i∈wP x.2.after.toList\/Fz dst o x.2=true)/\(isP o=true\/Qb q x.2=false\/x.1∈later))
 |[],_,x,hx=>by simp at hx
 |(j,oj)::l,h,x,hx=>by
  simp only[O2,zA]at h;rcases pF.1 hx with rfl|hx
  ·have h1:=h.1;simp only[FX,zA,je,U0]at h1;rcases h1 with (h1|h1)|h1
   ·exact .inl (zE h1)
   ·exact .inr (.inl h1)
   ·exact .inr (.inr ⟨h1.1,or_assoc.1 h1.2⟩)
  ·exact J7 h.2 x hx
theorem Jm{done:List Nat}{i:Nat}:{l:List (Nat×Oper)}->BY done i l=true->∀x∈l,x.1=i\/x.1∈done\/YV done x.2=false
 |[],_,x,hx=>by simp at hx
 |(j,oj)::l,h,x,hx=>by
  simp only[BY,zA]at h;rcases pF.1 hx with rfl|hx
  ·have h1:=h.1;simp only[FX,je,U0]at h1;rcases h1 with (h1|h1)|h1
   ·exact .inl (zE h1)
   ·exact .inr (.inl h1)
   ·exact .inr (.inr h1)
  ·exact Jm h.2 x hx
theorem ku{listed:Array Bool}{done:List Nat}(hr:Rel ops listed done)(hd:∀x∈done,x<ops.size){j:Nat}{o:Oper}(ho:ops[j]? = some o):
  j∈Region.ready .any ops listed↔j∉done/\YV done o=true:=by
 rw[S2 hr ho];refine and_congr Iff.rfl ?_;unfold YV;rw[DP];constructor
 ·intro h x hx;obtain⟨e,he,EG,rfl⟩:=wY.1 hx;exact(h e (by simpa using he) EG).1
 ·intro h e he EG;have:=h e.on (wY.2 ⟨e,by simpa using he,EG,rfl⟩);exact⟨this,hd _ this⟩
theorem yP.wpOp{q:Bool}{i:Nat}{o:Oper}{K:Act->World->Prop}{a:Act}{w:World}(hi:ops[i]? = some o)(h:yP q P ops Q o K a w):
  wpOp P ops Q i (λa' w'=>(∀o,ops[i]? = some o->Qb q o=false->vp w w')/\K a' w') a w:=by
 unfold yP at h;unfold Go.wpOp;simp only[hi,zI];split
 ·rename_i hw;rw[yX hw]at h;left;rcases h with⟨_,v,h1,h2⟩|⟨_,h1⟩
  ·exact Gq (h1 w (N6.refl _ w)) ⟨λ_ _ _=>vp.refl w,h2⟩
  ·exact Oper.wp_mono (λa' w' hh=>⟨λo' Pf hm=>hh.1 (by rw[Pf];exact hm),hh.2⟩) h1
 ·rename_i hw;rw[qW hw]at h;exact⟨λ_ _ _=>vp.refl w,h⟩
theorem z9z{q:Bool}(hp:Fp ops)(hQ:∀c a w,¬Q (.panic c) a w){i:Nat}{o:Oper}{listed:Array Bool}{done:List Nat}{a:Act}{w:World}{f:Nat}{K':Act->World->Prop}(hi:ops[i]? = some o)(hr:Rel ops listed done)(hd:∀x∈done,x<ops.size)
  (hni:i∉done) (hat:Hp q (po ops.toList) (zc 0 ops.toList) done i o=true) (h:yP q P ops Q o K' a w) (ih:∀a' w',K' a' w'->Bu q P .any ops Q f (listed.setIfInBounds i true) a' w'):Bu q P .any ops Q (f+1) listed a w:=by
 simp only[Hp,zA,FX]at hat;have hir:i∈Region.ready .any ops listed:=(ku hr hd hi).2 ⟨hni,hat.1⟩;have h':yP q P ops Q o K' a w:=h;rcases hat.2 with⟨⟨hy,VY⟩,QB⟩|hal
 ·have YF:∀x∈gd i (zc 0 ops.toList) [],x<ops.size/\∀ox,ops[x]? = some ox->∃e∈ox.after,Region.binds .any e=true/\(e.on=i\/e.on∈gd i (zc 0 ops.toList) []):=by
   refine VT (by simp) (λj oj hm hy=>?_);have Z4:=wW _ hm;refine⟨uC Z4,λox hox=>?_⟩;simp only at Z4;rw[Z4]at hox;simp only[zI]at hox;subst hox;obtain⟨y,hy1,hy2⟩:=hy;obtain⟨e,he,EG,rfl⟩:=wY.1 hy1;exact⟨e,by simpa using he,EG,hy2⟩
  have hyi:∃v,YieldsIf P ops (N6 o w) o v a/\K' (a.put o.dst v) w:=by
   unfold yP at h';split at h'
   ·rename_i hw;rcases h' with⟨_,v,h1,h2⟩|⟨h1,_⟩
    ·exact⟨v,.inl ⟨hw,h1⟩,h2⟩
    ·rw[hy]at h1;simp at h1
   ·rename_i hw;exact⟨undef,.inr ⟨by simpa using hw,rfl⟩,h'⟩
  obtain⟨v,hyv,hk⟩:=hyi;have Qn:∀j,j<ops.size->listed.getD j true=false->j∉done:=λj hj hu=>by
   rw[hr.getD hj]at hu;exact jR.1 hu
  refine Bp (w0:=w) (Lt:=gd i (zc 0 ops.toList) []) hi hp.sel hQ (λx hx=>(YF x hx).2) f listed a w ?_ ?_ ?_ hir hyv (N6.refl o w) (ih _ _ hk)
  ·intro j oj Z4 Uz hu Ct;rcases J7 VY _ (jd Z4) with h1|h1|⟨h1|h1,_⟩
   ·exact absurd h1 Uz
   ·exact absurd h1 (Qn j (uC Z4) hu)
   ·obtain⟨e,he,EG,hei⟩:=wY.1 h1;exact absurd hei (Ct e (by simpa using he) EG)
   ·exact DK h1
  ·intro x hx;rw[hr.getD (YF x hx).1];exact jR.2 ((VN.1 QB) x hx)
  ·intro j oj Z4 Uz hu hM;rcases J7 VY _ (jd Z4) with h1|h1|⟨_,h1|h1|h1⟩
   ·exact absurd h1 Uz
   ·exact absurd h1 (Qn j (uC Z4) hu)
   ·exact .inr h1
   ·rw[hM]at h1;simp at h1
   ·exact .inl h1
 ·refine⟨λh0=>(by rw[h0]at hir;cases hir),λj hj=>?_⟩;obtain⟨_,oj,Z4,_⟩:=mem_ready.1 hj;have h1:=(ku hr hd Z4).1 hj;have Uz:j=i:=by
   rcases Jm hal _ (jd Z4) with h2|h2|h2
   ·exact h2
   ·exact absurd h2 h1.1
   ·rw[h1.2]at h2;simp at h2
  subst Uz;exact wpOp_mono (λa' w' hh=>⟨hh.1,ih _ _ hh.2⟩) (h'.wpOp hi)
theorem Hy{q:Bool}(hp:Fp ops)(hQ:∀c a w,¬Q (.panic c) a w):(L:List (Nat×Oper))->(∀x∈L,ops[x.1]? = some x.2)->{listed:Array Bool}->{done:List Nat}->{a:Act}->{w:World}->{fuel:Nat}->
  L.length<=fuel->Rel ops listed done->(∀x∈done,x<ops.size)->Q5 q (po ops.toList) (zc 0 ops.toList) L done=true->JQ q P ops Q (Q .normal) L a w->Bu q P .any ops Q fuel listed a w
 |[],_,listed,done,a,w,fuel,_,hr,hd,ho,h=>by
  simp only[Q5]at ho;have QB:Region.ready .any ops listed=[]:=by
   rw[Z59];intro j hj;obtain⟨_,o,Z4,_⟩:=mem_ready.1 hj;have h1:=(ku hr hd Z4).1 hj;rcases Jm ho _ (jd Z4) with h2|h2|h2
   ·have h3:=YP (jd Z4);have h4:(zc 0 ops.toList).length=ops.toList.length:=by
     have:=Jn List.length (uH ops.toList 0);simpa using this
    simp only at h2 h3;omega
   ·exact h1.1 h2
   ·rw[h1.2]at h2;simp at h2
  cases fuel with
  |zero=>exact⟨QB,h⟩
  |succ f=>exact⟨λ_=>h,λi hi=>by rw[QB]at hi;simp at hi⟩
 |(i,o)::L,hL,listed,done,a,w,fuel,hf,hr,hd,ho,h=>by
  simp only[Q5,zA,U0]at ho;obtain⟨⟨hni,hat⟩,pc⟩:=ho;have hi:ops[i]? = some o:=hL (i,o) (by simp);have qk:=uC hi;obtain⟨f,rfl⟩:∃f,fuel=f+1:=⟨fuel-1,by simp only[BF]at hf;omega⟩;have K7:L.length<=f:=by simp only[BF]at hf;omega
  have hd':∀x∈i::done,x<ops.size:=by
   intro x hx;rcases pF.1 hx with rfl|hx
   ·exact qk
   ·exact hd x hx
  have ih:∀{a' w'},JQ q P ops Q (Q .normal) L a' w'->Bu q P .any ops Q f (listed.setIfInBounds i true) a' w':=λ{a' w'} h'=>
   Hy hp hQ L (λx hx=>hL x (by simp[hx])) K7 hr.add hd' pc h'
  simp only[Hp,zA,FX]at hat;have hir:i∈Region.ready .any ops listed:=(ku hr hd hi).2 ⟨jR.1 hni,hat.1⟩;have h':yP q P ops Q o (JQ q P ops Q (Q .normal) L) a w:=h;rcases hat.2 with⟨⟨hy,VY⟩,QB⟩|hal
  ·have YF:∀x∈gd i (zc 0 ops.toList) [],x<ops.size/\∀ox,ops[x]? = some ox->∃e∈ox.after,Region.binds .any e=true/\(e.on=i\/e.on∈gd i (zc 0 ops.toList) []):=by
    refine VT (by simp) (λj oj hm hy=>?_);have Z4:=wW _ hm;refine⟨uC Z4,λox hox=>?_⟩;simp only at Z4;rw[Z4]at hox;simp only[zI]at hox;subst hox;obtain⟨y,hy1,hy2⟩:=hy;obtain⟨e,he,EG,rfl⟩:=wY.1 hy1;exact⟨e,by simpa using he,EG,hy2⟩
   have hyi:∃v,YieldsIf P ops (N6 o w) o v a/\JQ q P ops Q (Q .normal) L (a.put o.dst v) w:=by
    unfold yP at h';split at h'
    ·rename_i hw;rcases h' with⟨_,v,h1,h2⟩|⟨h1,_⟩
     ·exact⟨v,.inl ⟨hw,h1⟩,h2⟩
     ·rw[hy]at h1;simp at h1
    ·rename_i hw;exact⟨undef,.inr ⟨by simpa using hw,rfl⟩,h'⟩
   obtain⟨v,hyv,hk⟩:=hyi;have Qn:∀j,j<ops.size->listed.getD j true=false->j∉done:=λj hj hu=>by
    rw[hr.getD hj]at hu;exact jR.1 hu
   refine Bp (w0:=w) (Lt:=gd i (zc 0 ops.toList) []) hi hp.sel hQ (λx hx=>(YF x hx).2) f listed a w ?_ ?_ ?_ hir hyv (N6.refl o w) (ih hk)
   ·intro j oj Z4 Uz hu Ct;rcases J7 VY _ (jd Z4) with h1|h1|⟨h1|h1,_⟩
    ·exact absurd h1 Uz
    ·exact absurd h1 (Qn j (uC Z4) hu)
    ·obtain⟨e,he,EG,hei⟩:=wY.1 h1;exact absurd hei (Ct e (by simpa using he) EG)
    ·exact DK h1
   ·intro x hx;rw[hr.getD (YF x hx).1];exact jR.2 ((VN.1 QB) x hx)
   ·intro j oj Z4 Uz hu hM;rcases J7 VY _ (jd Z4) with h1|h1|⟨_,h1|h1|h1⟩
    ·exact absurd h1 Uz
    ·exact absurd h1 (Qn j (uC Z4) hu)
    ·exact .inr h1
    ·rw[hM]at h1;simp at h1
    ·exact .inl h1
  ·refine⟨λh0=>(by rw[h0]at hir;cases hir),λj hj=>?_⟩;obtain⟨_,oj,Z4,_⟩:=mem_ready.1 hj;have h1:=(ku hr hd Z4).1 hj;have Uz:j=i:=by
    rcases Jm hal _ (jd Z4) with h2|h2|h2
    ·exact h2
    ·exact absurd h2 h1.1
    ·rw[h1.2]at h2;simp at h2
   subst Uz;exact wpOp_mono (λa' w' hh=>⟨hh.1,ih hh.2⟩) (h'.wpOp hi)
theorem Xc{q:Bool}{dst:Nat->Option Nat}{all:List (Nat×Oper)}:{n:Nat}->{done:List Nat}->∀x∈YW q dst all n done,x∈all
 |0,_,x,hx=>by simp[YW]at hx
 |n+1,done,x,hx=>by
  simp only[YW]at hx;split at hx
  ·rename_i i o hn;have hmem:(i,o)∈all:=by
    have key:∀(l:List (Nat×Oper)),We q dst all done l=some (i,o)->(i,o)∈l:=by
     intro l
     induction l with
     |nil=>intro h;simp[We]at h
     |cons y l ih=>
      obtain⟨j,oj⟩:=y;intro h;simp only[We]at h
      cases hc:(!j8 j done&&Hp q dst all done j oj) with
      |true=>rw[hc]at h;simp at h;simp[h.1,h.2]
      |false=>rw[hc]at h;simp only[zP]at h;simp[ih h]
    exact key all hn
   rcases pF.1 hx with rfl|hx
   ·exact hmem
   ·exact Xc x hx
  ·simp at hx
theorem Xd{q:Bool}{dst:Nat->Option Nat}{all:List (Nat×Oper)}:(n:Nat)->(done:List Nat)->(YW q dst all n done).length<=n
 |0,_=>by simp[YW]
 |n+1,done=>by
  simp only[YW];split
  ·simp only[BF];exact Nat.succ_le_succ (Xd n _)
  ·simp
theorem Vg{q:Bool}{dst:Nat->Option Nat}{all:List (Nat×Oper)}:{L:List (Nat×Oper)}->{done:List Nat}->Q5 q dst all L done=true->(L.map Prod.fst).Nodup/\∀x∈L,x.1∉done
 |[],_,_=>⟨by simp,by simp⟩
 |(i,o)::L,done,h=>by
  simp only[Q5,zA,U0]at h;obtain⟨h1,h2⟩:=Vg h.2;refine⟨?_,λx hx=>?_⟩
  ·simp only[PE,Z2e];refine⟨λhm=>?_,h1⟩;obtain⟨x,hx,he⟩:=Z22.1 hm;exact h2 x hx (by simp[he])
  ·rcases pF.1 hx with rfl|hx
   ·exact jR.1 h.1.1
   ·exact λhd=>h2 x hx (by simp[hd])
end
end Go.Kz
namespace Go.Kz
variable {R:Type}
end Go.Kz
namespace Go.Kz
variable {R:Type}
section
variable {P:Program}{ops:Array Oper}{Q:Exit->Act->World->Prop}
end
end Go.Kz
namespace Go.Kz
end Go.Kz
namespace Go.Kz
end Go.Kz
namespace Go.Kz
end Go.Kz
namespace Go.Kz
variable {R:Type}
theorem z5u{b:Bool}{x:Option R}{r:R}(h:cond b x none=some r):b=true/\x=some r:=by
 cases b with
 |true=>exact⟨rfl,h⟩
 |false=>simp at h
section
variable {P:Program}{c:Ctx}
theorem LB{R:Type}{l:List (Option R)}{r:R}(h:qA l=some r):∀y∈l,y=some r:=by
 cases l with
 |nil=>simp
 |cons x l=>
  simp only[qA]at h;split at h
  ·rename_i hall;intro y hy;rcases pF.1 hy with rfl|hy
   ·exact h
   ·rw[hall y hy];exact h
  ·simp at h
theorem Xo{q:Bool}{dst:Nat->Option Nat}{all:List (Nat×Oper)}{done:List Nat}{i:Nat}{o:Oper}:{l:List (Nat×Oper)}->We q dst all done l=some (i,o)->(i,o)∈l/\i∉done/\Hp q dst all done i o=true
 |[],h=>by simp[We]at h
 |(j,oj)::l,h=>by
  simp only[We]at h
  cases hc:(!j8 j done&&Hp q dst all done j oj) with
  |true=>
   rw[hc]at h;simp only[zB,zI,pv]at h;obtain⟨rfl,rfl⟩:=h;simp only[zA,U0]at hc
   exact⟨by simp,jR.1 hc.1,hc.2⟩
  |false=>
   rw[hc]at h;simp only[zP]at h;obtain⟨h1,h2⟩:=Xo h;exact⟨by simp[h1],h2⟩
theorem kP{done:List Nat}{i:Nat}{o:Oper}:{l:List (Nat×Oper)}->((i,o)∈gb done l↔(i,o)∈l/\i∉done/\YV done o=true)
 |[]=>by simp[gb]
 |(j,oj)::l=>by
  simp only[gb]
  cases hc:(!j8 j done&&YV done oj) with
  |true=>
   simp only[zB,pF,kP (l:=l)];simp only[zA,U0]at hc;constructor
   ·rintro (h|h)
    ·simp only[pv]at h;obtain⟨rfl,rfl⟩:=h;exact⟨.inl rfl,jR.1 hc.1,hc.2⟩
    ·exact⟨.inr h.1,h.2⟩
   ·rintro⟨h|h,h2⟩
    ·exact .inl h
    ·exact .inr ⟨h,h2⟩
  |false=>
   simp only[zP,pF,kP (l:=l)];constructor
   ·rintro⟨h,h2⟩;exact⟨.inr h,h2⟩
   ·rintro⟨h|h,h2,h3⟩
    ·simp only[pv]at h;obtain⟨rfl,rfl⟩:=h;rw[h3,jR.2 h2]at hc;simp at hc
    ·exact⟨h,h2,h3⟩
theorem z2f{q:Bool}(hc:xP P c){ops:Array Oper}{Q:Exit->Act->World->Prop}{K:Act->World->Prop}{b0:Nat}{o:Oper}{J:St}{g:z8}{a:Act}{w:World}{kk:St->Option R}{r:R}(hw:Region.wanted o (yielded ops a.tmps)=true)(h:S9 q c J b0 o kk=some r)(zj:zU c.ntmps g w a J)
  (vO:∀m,b0<=m->m<b0+8->zJ g J m)
  (hK:∀J1 g1 a1 w1,kk J1=some r->zU c.ntmps g1 w1 a1 J1->Ext w g w1 g1->(∀m,(m<b0\/b0+8<=m)->zJ g J m->zJ g1 J1 m)->J1.next=J.next->(∀s,o.dst≠some s->a1.tmps[s]? = a.tmps[s]?)->K a1 w1):yP q P ops Q o K a w:=by
 refine yP.mono (λa1 w1 hh=>hh.2 hh.1.2) (yP.frame (K:=λa1 w1=>(∀s,o.dst≠some s->a1.tmps[s]? = a.tmps[s]?)->K a1 w1) ?_);unfold yP;rw[yX hw]
 cases hy:M7 o with
 |true=>
  left;obtain⟨av,v,h1,h2,h3,h4⟩:=(Xe hc hy zj (by rw[<-zey hy];exact h)).out;refine⟨rfl,v,h1,λJ6=>?_⟩;rcases pQ h4 with⟨hd,hk⟩|⟨d,hd,qk,hk⟩
  ·rw[hd]at J6⊢;exact hK J g a w hk zj (Ext.refl _ _) (λ_ _ hm=>hm) rfl (by rw[hd];exact J6)
  ·rw[hd]at J6⊢;exact hK _ g _ w hk (zj.put qk h2) (Ext.refl _ _) (λm _ hm=>hm.set d (h3 m hm)) rfl (by rw[hd];exact J6)
 |false=>
  right;refine⟨rfl,z1p (base:=b0) hc zj vO h ?_⟩;intro J1 g1 a1 w1 h1 yN yA ZF Qr wx;exact⟨λh1=>wx h1,λJ6=>hK J1 g1 a1 w1 h1 yN yA ZF Qr J6⟩
theorem z2g{q:Bool}{ops:Array Oper}{Q:Exit->Act->World->Prop}{K:Act->World->Prop}{o:Oper}{a:Act}{w:World}(hw:Region.wanted o (yielded ops a.tmps)=false)(h:K (a.put o.dst undef) w):yP q P ops Q o K a w:=by
 unfold yP;rw[hw];simp only[Z2a,TC];exact h
theorem z0f(hc:xP P c){ops:Array Oper}{Q:Exit->Act->World->Prop}{K:Act->World->Prop}{b0:Nat}{o:Oper}{opened pk:List Nat}{J:St}{g:z8}{a:Act}{w:World}{kk:List Nat->List Nat->St->Option R}{r:R}
  (h:FR c (po ops.toList) b0 o opened pk J kk=some r) (zj:zU c.ntmps g w a J) (Qn:Und a pk) (vO:∀m,b0<=m->m<b0+8->zJ g J m)
  (hK:∀op1 un1 J1 g1 a1 w1,kk op1 un1 J1=some r->zU c.ntmps g1 w1 a1 J1->Und a1 un1->Ext w g w1 g1->(∀m,(m<b0\/b0+8<=m)->zJ g J m->zJ g1 J1 m)->J1.next=J.next->K a1 w1):yP true P ops Q o K a w:=by
 have one:∀{op1:List Nat}{J':St},S9 true c J' b0 o (λJ=>kk op1 (QD o.dst pk) J)=some r->zU c.ntmps g w a J'->(∀m,zJ g J m->zJ g J' m)->J'.next=J.next->Region.wanted o (yielded ops a.tmps)=true->yP true P ops Q o K a w:=by
  intro op1 J' h qO hf hn hw;refine z2f hc hw h qO (λm h1 h2=>hf m (vO m h1 h2)) (λJ1 g1 a1 w1 h1 yN yA ZF Qr J6=>?_);exact hK _ _ J1 g1 a1 w1 h1 yN (Qn.vE J6) yA (λm hm vc=>ZF m hm (hf m vc)) (Qr.trans hn)
 have skip:∀{op1:List Nat}{J':St},kk op1 (Fq o.dst pk) (J'.kD o.dst)=some r->zU c.ntmps g w a J'->(∀m,zJ g J m->zJ g J' m)->J'.next=J.next->Region.wanted o (yielded ops a.tmps)=false->yP true P ops Q o K a w:=by
  intro op1 J' h qO hf hn hw;refine z2g hw (hK _ _ _ g _ w h (qO.zh9 o.dst undef) Qn.skip (Ext.refl _ _) (λm _ vc=>(hf m vc).kD o.dst) ?_);rw[<-hn];cases o.dst<;>rfl
 unfold FR at h;split at h
 ·rename_i hg;exact one h zj (λ_ hm=>hm) rfl (xF hg)
 ·rename_i j want hg;split at h
  ·simp at h
  ·rename_i t hdt;rw[B6]at hdt;split at h
   ·rename_i b hb;have hw:=WJ (o:=o) (a:=a) hg hdt (DN zj hb)
    cases hm:j8 j opened with
    |true=>
     rw[hm]at h;simp only[zB]at h
     cases hbw:(b == want) with
     |true=>
      rw[hbw]at h hw
      exact one h zj (λ_ hm=>hm) rfl hw
     |false=>
      rw[hbw]at h hw
      exact skip h zj (λ_ hm=>hm) rfl hw
    |false=>
     rw[hm]at h;simp only[zP]at h;have Pc:=XJ zj hb
     cases b with
     |true=>
      simp only[zB]at h
      cases want with
      |true=>exact one h Pc (λm hf=>hf.set t (by simp[z7.ids])) rfl hw
      |false=>exact skip h Pc (λm hf=>hf.set t (by simp[z7.ids])) rfl hw
     |false=>
      simp only[zP]at h
      cases want with
      |true=>exact skip h Pc (λm hf=>hf.set t (by simp[z7.ids])) rfl hw
      |false=>exact one h Pc (λm hf=>hf.set t (by simp[z7.ids])) rfl hw
   ·cases hmu:j8 t pk with
    |false=>rw[hmu]at h;simp at h
    |true=>
     rw[hmu]at h;simp only[zB]at h;exact skip h zj (λ_ hm=>hm) rfl (X5 hg hdt (Qn t (Ga.1 hmu)))
   ·simp at h
theorem HW:{n:Nat}->{l:List Nat}->l.Nodup->(∀x∈l,x<n)->l.length<=n
 |0,l,_,hl=>by
  cases l with
  |nil=>simp
  |cons x l=>have:=hl x (by simp);omega
 |n+1,l,h,hl=>by
  have h1:=HW (n:=n) (h.erase n) (λx hx=>by
   have h2:=(h.mem_erase_iff).1 hx;have:=hl x h2.2;have:=h2.1;omega)
  rw[List.length_erase]at h1;split at h1<;>omega
theorem Rz(hc:xP P c){ops:Array Oper}{Q:Exit->Act->World->Prop}(hp:Fp ops)(hQ:∀c a w,¬Q (.panic c) a w){base:Nat}:
  (n:Nat)->{done opened pk:List Nat}->{listed:Array Bool}->{J:St}->{g:z8}->{a:Act}->{w:World}->{k:St->Option R}->{r:R}->{fuel:Nat}->Ml c base (po ops.toList) (zc 0 ops.toList) n done opened pk J k=some r->
  zU c.ntmps g w a J->Und a pk->Rel ops listed done->(∀x∈done,x<ops.size)->done.Nodup->fuel+done.length=ops.size->(∀i,i<ops.size->i∉done->∀m,base+8*i<=m->m<base+8*i+8->zJ g J m)->
  (∀J' g' a' w',k J'=some r->zU c.ntmps g' w' a' J'->Ext w g w' g'->(∀m,(∀i,i<ops.size->m<base+8*i\/base+8*i+8<=m)->zJ g J m->zJ g' J' m)->J'.next=J.next->Q .normal a' w')->
  Bu true P .any ops Q fuel listed a w
 |0,_,_,_,_,_,_,_,_,_,_,_,h,_,_,_,_,_,_,_,_=>by simp[Ml]at h
 |n+1,done,opened,pk,listed,J,g,a,w,k,r,fuel,h,zj,Qn,hr,hd,hnd,hfu,vO,hK=>by
  have step:∀(i:Nat)(o:Oper),(i,o)∈zc 0 ops.toList->i∉done->FR c (po ops.toList) (base+8*i) o opened pk J (λopened pk J=>Ml c base (po ops.toList) (zc 0 ops.toList) n (i::done) opened pk J k)=some r->
    ∃f,fuel=f+1/\i<ops.size/\ops[i]? = some o/\yP true P ops Q o (λa' w'=>Bu true P .any ops Q f (listed.setIfInBounds i true) a' w') a w:=by
   intro i o hm hi h;have hio:=wW _ hm;have qk:i<ops.size:=uC hio;have hd':∀x∈i::done,x<ops.size:=by
    intro x hx;rcases pF.1 hx with rfl|hx
    ·exact qk
    ·exact hd x hx
   have zpz:(i::done).Nodup:=Z2e.2 ⟨hi,hnd⟩;have hle:=HW zpz hd';simp only[BF]at hle;obtain⟨f,rfl⟩:∃f,fuel=f+1:=⟨fuel-1,by omega⟩;refine⟨f,rfl,qk,hio,z0f (b0:=base+8*i) hc h zj Qn (vO i qk hi) (λop1 un1 J1 g1 a1 w1 h1 yN zyc yA ZF Qr=>?_)⟩;refine Rz hc hp hQ n h1 yN zyc hr.add hd' zpz (by simp only[BF];omega) (λj hj hjd m q1 q2=>?_) (λJ2 g2 a2 w2 h2 k9 wF Pn PY=>?_)
   ·have vg:j≠i:=λhe=>hjd (by simp[he])
    exact ZF m (by omega) (vO j hj (λhx=>hjd (by simp[hx])) m q1 q2)
   ·exact hK J2 g2 a2 w2 h2 k9 (yA.trans wF) (λm hm hf=>Pn m hm (ZF m (hm i qk) hf)) (PY.trans Qr)
  simp only[Ml]at h;split at h
  ·rename_i i o Wx;obtain⟨hm,hi,hat⟩:=Xo Wx;obtain⟨f,rfl,qk,hio,hL⟩:=step i o hm hi h;exact z9z hp hQ hio hr hd hi hat hL (λa' w' hh=>hh)
  ·split at h
   ·rename_i hra;have QB:Region.ready .any ops listed=[]:=by
     rw[Z59];intro j hj;obtain⟨_,o,Z4,_⟩:=mem_ready.1 hj;have h1:=(ku hr hd Z4).1 hj;have:(j,o)∈gb done (zc 0 ops.toList):=kP.2 ⟨jd Z4,h1.1,h1.2⟩;rw[hra]at this;simp at this
    have hq:=hK J g a w h zj (Ext.refl _ _) (λm _ hf=>hf) rfl
    cases fuel with
    |zero=>exact⟨QB,hq⟩
    |succ f=>exact⟨λ_=>hq,λi hi=>by rw[QB]at hi;simp at hi⟩
   ·rename_i x l hra;have hall:=LB h;have qc:∀i o,(i,o)∈gb done (zc 0 ops.toList)->∃f,fuel=f+1/\i<ops.size/\ops[i]? = some o/\yP true P ops Q o (λa' w'=>Bu true P .any ops Q f (listed.setIfInBounds i true) a' w') a w:=by
     intro i o hm;obtain⟨h1,h2,_⟩:=kP.1 hm;refine step i o h1 h2 (hall _ ?_);rw[<-hra];exact Z22.2 ⟨(i,o),hm,rfl⟩
    obtain⟨xi,xo⟩:=x;obtain⟨f,rfl,_⟩:=qc xi xo (by rw[hra];simp);refine⟨λh0=>?_,λj hj=>?_⟩
    ·obtain⟨h1,h2,h3⟩:=kP.1 (show(xi,xo)∈gb done (zc 0 ops.toList) by rw[hra];simp);have:=(ku hr hd (wW _ h1)).2 ⟨h2,h3⟩;rw[h0]at this;cases this
    ·obtain⟨_,o,Z4,_⟩:=mem_ready.1 hj;have h1:=(ku hr hd Z4).1 hj;obtain⟨f',K7,qk,hio,hL⟩:=qc j o (kP.2 ⟨jd Z4,h1.1,h1.2⟩);have:f'=f:=by omega
     subst this;exact hL.wpOp hio
theorem Ix{q:Bool}(hc:xP P c)(hm:P.follows .mixedOrders=true){id:Nat}{ops:Array Oper}{Q:Exit->Act->World->Prop}{J:St}{g:z8}{a:Act}{w:World}{k:St->Option R}{r:R}
  (hQ:∀c a w,¬Q (.panic c) a w) (za:P7 q ops.toList=true) (h:NM q c ops.toList (Dp q ops.toList) J k=some r) (zj:zU c.ntmps g w a J) (hf:qF g J)
  (hK:∀J' g' a' w',k J'=some r->zU c.ntmps g' w' a' J'->Ext w g w' g'->qF g' J'->(∀s,(∀o∈ops.toList,o.dst≠some s)->a'.tmps[s]? = a.tmps[s]?)->Q .normal a' w'):(Code.region id ops true).wp P Q a w:=by
 have hQ1:∀c a' w,¬NO ops a Q (.panic c) a' w:=λc a' w h=>hQ c a' w (h (by simp))
 simp only[P7,zA]at za;have hnd:=Vg za.2;have hp:=H8 za.1;have hmem:∀x∈Dp q ops.toList,x∈zc 0 ops.toList:=λx hx=>Xc x hx
 refine wp_region_any hm (ui (a0:=a) _ _ _ _ (λ_ _=>rfl) (VP _ _ _ _ (Hy hp hQ1 _ (λx hx=>wW _ (hmem x hx)) ?_ Rel.start (by simp) za.2 ?_)))
 ·have:=Xd (q:=q) (dst:=po ops.toList) (all:=zc 0 ops.toList) ops.toList.length [];simpa[Dp]using this
 ·have he:({ w with drawn:=w.drawn+1 }:World).heap=w.heap:=rfl;refine NL hc (λx hx=>YP (hmem x hx)) hnd.1 h (zj.Vl he) hf (λJ' g' a' w' hk qO pj K7=>?_);exact λgm=>hK J' g' a' w' hk qO ((Ext.Vl (g:=g) he rfl rfl rfl (Z1h _)).trans pj) K7 (gm rfl)
theorem S1(hc:xP P c)(hm:P.follows .mixedOrders=true){id:Nat}{ops:Array Oper}{draw:Bool}{Q:Exit->Act->World->Prop}{J:St}{g:z8}{a:Act}{w:World}{k:St->Option R}{r:R}
  (hQ:∀c a w,¬Q (.panic c) a w) (h:Dn c ops draw J k=some r) (zj:zU c.ntmps g w a J) (hf:qF g J)
  (hK:∀J' g' a' w',k J'=some r->zU c.ntmps g' w' a' J'->Ext w g w' g'->qF g' J'->(∀s,(∀o∈ops.toList,o.dst≠some s)->a'.tmps[s]? = a.tmps[s]?)->Q .normal a' w'):(Code.region id ops draw).wp P Q a w:=by
 have hQ1:∀c a' w,¬NO ops a Q (.panic c) a' w:=λc a' w h=>hQ c a' w (h (by simp))
 unfold Dn at h
 cases draw with
 |false=>
  simp only[zP]at h;have hL:=NL (K:=λa' w'=>(∀s,(∀o∈ops.toList,o.dst≠some s)->a'.tmps[s]? = a.tmps[s]?)->Q .normal a' w') (Q:=Q) hc (λx hx=>YP hx) (Xi _ _) h zj hf hK;refine z9l (X3 (λa' w' hh=>hh.2 λs hs=>hh.1 s λx hx=>hs x.2 ?_) _ _ _ (Cj _ _ _ hL));have:=wW x hx;obtain⟨qk,he⟩:=Z26.1 this
  rw[<-he];simp
 |true=>
  simp only[zB]at h
  cases HR:P7 true ops.toList with
  |true=>
   rw[HR]at h;simp only[zB]at h
   exact Ix hc hm hQ HR h zj hf hK
  |false=>
  rw[HR]at h;simp only[zP]at h
  cases za:(P7 false ops.toList && !EU c J (zc 0 ops.toList)) with
  |false=>
   rw[za]at h;simp only[zP]at h;obtain⟨EZ,h⟩:=z5u h;have hp:=H8 EZ;have he:({ w with drawn:=w.drawn+1 }:World).heap=w.heap:=rfl;refine wp_region_any hm (ui (a0:=a) _ _ _ _ (λ_ _=>rfl) (VP (q:=true) _ _ _ _ ?_));refine Rz (base:=J.next) hc hp hQ1 _ h (zj.Vl he) (by intro s hs;simp at hs) Rel.start (by simp) (by simp) (by simp) (λi hi _ m q1 q2=>hf m (by omega)) (λJ' g' a' w' hk qO pj K7 HS=>?_);refine λgm=>hK _ g' a' w' hk ⟨qO.zk,qO.heap,qO.size,qO.defers,qO.known⟩ ((Ext.Vl (g:=g) he rfl rfl rfl (Z1h _)).trans pj) (λm hm=>?_) (gm rfl)
   have Gp:J.next+8*ops.toList.length<=m:=hm;have:=K7 m (λi hi=>.inr (by have:i<ops.toList.length:=(by simpa using hi);omega)) (hf m (by omega))
   exact⟨this.z6,this.row,this.box,this.zk,this.cells⟩
  |true=>
   rw[za]at h;simp only[zB]at h;exact Ix hc hm hQ (Bool.and_eq_true_iff.1 za).1 h zj hf hK
end
end Go.Kz
namespace Go.Kz
variable {R:Type}
section
variable {n:Nat}{w:World}{a:Act}{g:z8}{J:St}{k:St->Option R}{r:R}
theorem jI.zby{g':z8}{J':St}(h:jI g J.z6 g' J'.z6)(hs:J'.zk=J.zk)(hn:J'.next=J.next)(hf:qF g J):qF g' J':=
 λm hm=>h.fresh hs (hf m (by rw[<-hn];exact hm))
theorem qF.ids{i:Nat}{av:z7}(hf:qF g J)(h:J.zk i=some av):∀m,J.next<=m->m∉av.ids:=λm hm=>(hf m hm).zk i av h
structure z6m (w:World) (g:z8) (J:St) (x:z7) (cs:List Value) (g':z8) (J':St) (x':z7):Prop where
 ok:jM w g' J'.z6 x' cs
 sk:x'.sk=x.sk
 agg:x'.isAgg=x.isAgg
 val:x'.val=true
 ids:∀m,J'.next<=m->m∉x'.ids
 zk:J'.zk=J.zk
 next:J.next<=J'.next
 cells:∀id z,J'.z6 id=some (.cell z)->J.z6 id=some (.cell z)/\g'.qp id=g.qp id
theorem Sf{x:z7}{f:z7->St->Option R}{cs:List Value}(zj:zU n g w a J)(hf:qF g J)(hval:x.val=true)(hx:jM w g J.z6 x cs)(gI:∀m,J.next<=m->m∉x.ids)(h:ML J x f=some r):
  ∃x' J' g',f x' J'=some r/\zU n g' w a J'/\Ext w g w g'/\qF g' J'/\z6m w g J x cs g' J' x':=by
 unfold ML at h;split at h
 ·rename_i id ep p q;split at h
  ·rename_i t l e zp
   cases hb:Nat.beq e ep with
   |false=>rw[hb]at h;simp at h
   |true=>
    rw[hb]at h;have he:=zE hb;subst he;simp only[zB]at h;obtain⟨u,rfl,qc,hv⟩:=hx;obtain⟨_,h0,uN,Vs,e1⟩:=(hv _ _ _ zp).2 rfl;let c:Ctx:=⟨0,λ_=>none,λ_=>none,n,λ_=>[],λ_=>none,λ_ _=>none,⟨[],[]⟩,λ_=>none,λ_=>none,λ_=>false,λ_=>false,λ_ _=>none⟩;obtain⟨yN,yA,z47⟩:=CB (c:=c) (e':=e+1) zj zp h0 uN Vs (BV _);refine⟨_,_,_,h,yN,yA,λm hm=>z47 m (hf m hm),⟨u,rfl,qc,λt' l' e' Pf=>?_⟩,rfl,rfl,rfl,λm hm=>gI m hm,rfl,yH _,λi z hz=>?_⟩
    ·simp only[St.setObj,zO,zI,Obj.row.injEq]at Pf;obtain⟨_,_,rfl⟩:=Pf;exact⟨yH _,λ_=>by simp only[pH,Ms];exact e1⟩
    ·by_cases hi:i=id
     ·subst hi;simp[St.setObj,zO]at hz
     ·simp only[St.setObj]at hz;rw[zf _ _ hi]at hz;exact⟨hz,rfl⟩
  ·simp at h
 ·exact⟨_,J,g,h,zj,Ext.refl w g,hf,hx,rfl,rfl,hval,gI,rfl,yH _,λ_ _ hz=>⟨hz,rfl⟩⟩
theorem qF.zap{t:Ty}(zj:zU n g w a J)(hf:qF g J)(ht:t.zG=true):
  zU n (pH g J.next (.slice none 0 0)) w a { J.setObj J.next (.row t [] 0) with next:=J.next+1 }/\Ext w g w (pH g J.next (.slice none 0 0))/\
   qF (pH g J.next (.slice none 0 0)) { J.setObj J.next (.row t [] 0) with next:=J.next+1 }:=by
 have qO:zU n (pH g J.next (.slice none 0 0)) w a (J.setObj J.next (.row t [] 0)):=by
  refine zj.pg ⟨λb hb=>⟨hb,rfl⟩⟩ (λi hi=>Y5 hi) (.inr (hf _ (yH _))) ?_ zj.heap.tags;exact⟨ht,none,0,by simp[pH],by simp[pH],yH _,jF _,.inl ⟨rfl,rfl,rfl⟩⟩
 refine⟨⟨qO.zk,qO.heap,qO.size,qO.defers,qO.known⟩,⟨rfl,rfl,rfl,yH _,yH _,λb _ _=>⟨rfl,rfl⟩⟩,λm hm=>?_⟩;have Gp:J.next+1<=m:=hm;have:=zJ.pg (g:=g) (g':=pH g J.next (.slice none 0 0)) (o:=.row t [] 0) (id:=J.next) (λb=>.inl rfl) (by omega) (by simp) (hf m (by omega));exact⟨this.z6,this.row,this.box,this.zk,this.cells⟩
theorem IJ{x:z7}{cv:Conv}{f:z7->St->Option R}{cs:List Value}(zj:zU n g w a J)(hf:qF g J)(hval:x.val=true)(hx:jM w g J.z6 x cs)(gI:∀m,J.next<=m->m∉x.ids)(h:Bz J x cv f=some r):
  ∃x' J' g',f x' J'=some r/\zU n g' w a J'/\Ext w g w g'/\qF g' J'/\z6m w g J x cs g' J' x':=by
 cases cv with
 |row t=>
  simp only[Bz]at h;split at h
  ·cases ht:t.zG with
   |false=>rw[ht]at h;simp at h
   |true=>
    rw[ht]at h;simp only[zB]at h;obtain⟨h1,h2,h3⟩:=qF.zap zj hf ht;have Vd:cs=[.slice none 0 0]:=hx;subst Vd;refine⟨_,_,_,h,h1,h2,h3,⟨_,rfl,rfl,λt' l' e' Pf=>?_⟩,rfl,rfl,rfl,λm hm=>?_,rfl,Z1h _,λi z hz=>?_⟩
    ·simp only[St.setObj,zO,zI,Obj.row.injEq]at Pf;obtain⟨_,_,rfl⟩:=Pf;exact⟨yH _,λ_=>by simp[pH]⟩
    ·simp only[z7.ids,II];have Gp:J.next+1<=m:=hm;omega
    ·by_cases hi:i=J.next
     ·subst hi;simp[St.setObj,zO]at hz
     ·simp only[St.setObj]at hz;rw[zf _ _ hi]at hz;exact⟨hz,rfl⟩
  ·exact Sf zj hf hval hx gI h
 |dat t=>
  simp only[Bz]at h
  cases hb:(t.zG&&x.val&&x.sk.same t.sk) with
  |false=>rw[hb]at h;simp at h
  |true=>
   rw[hb]at h;simp only[zB]at h;simp only[zA]at hb;have ko:=Sk.qQ hb.2;obtain⟨d,J',g',hk,hs,hn,Bl,zF⟩:=gQ 20 zj.heap hx hb.1.1 h;refine⟨_,J',g',hk,Bl.st hs zj,Bl.ext,Bl.zby hs hn hf,⟨hb.1.1,zF⟩,ko.symm,?_,rfl,λm _=>by simp[z7.ids],hs,by rw[hn];exact yH _,λi z hz=>?_⟩
   ·rw[(wI hval).1,ko];rfl
   ·rcases Bl.z6 i with e|e
    ·rw[<-e];exact⟨hz,by rw[Bl.qp]⟩
    ·rw[e]at hz;simp at hz
 |Zj=>simp[Bz]at h
theorem Fb(l:List Value)(off n:Nat)(h:off+n<=l.length):zD l off (qS l off n)=l:=by
 have hs:(qS l off n).length=n:=yS h;simp only[zD,hs];rw[qS];have h1:l.drop (off+n)=(l.drop off).drop n:=by rw[TF]
 rw[h1]
 conv=>rhs;rw[<-T4 off l,<-T4 n (l.drop off)]
 simp
theorem zU.set{i:Nat}{x:z7}{v:Value}(zj:zU n g w a J)(hv:a.tmps[i]? = some v)(hx:zm w g J.z6 x v):zU n g w a (J.set i x):=by
 refine⟨λj y hj=>?_,zj.heap,zj.size,zj.defers,zj.known⟩;simp only[St.set,GJ]at hj
 cases hb:Nat.beq j i with
 |true=>
  rw[hb]at hj;simp only[zB,zI]at hj;subst hj;have:=zE hb;subst this
  exact⟨v,hv,hx⟩
 |false=>rw[hb]at hj;exact zj.zk j y hj
theorem z5v{id:Nat}{x x':z7}(zj:zU n g w a J)(zp:J.z6 id=some (.cell x))(ko:x'.sk=x.sk)
  (za:∃c e,w.heap[g.qp id]? = some (.cells c e (0,0))/\g.tag (g.qp id)=.box id/\jM w g J.z6 x' c.toList):zU n g w a (J.setObj id (.cell x')):=by
 have hk:qq g g id (J.z6 id) (some (.cell x')):=.inr (.inr (.inl ⟨x,x',zp,rfl,ko,rfl⟩));refine zj.pg ⟨λb hb=>⟨hb,rfl⟩⟩ (λi hi=>⟨⟨λ_=>rfl,λ_ b hb=>⟨hb,rfl⟩⟩,rfl,λhb=>⟨hb,rfl⟩⟩) (.inl hk) ?_ zj.heap.tags;obtain⟨c,e,h1,h2,h3⟩:=za;refine zn.mk ⟨c,e,h1,h2,?_⟩;refine jM.frame ⟨λb hb=>⟨hb,rfl⟩⟩ (λi _=>?_) h3;by_cases hi:i=id
 ·subst hi;simp only[St.setObj,zO];exact hk
 ·simp only[St.setObj];rw[zf _ _ hi];exact qq.refl g i _
theorem MN{id m:Nat}{x x':z7}(hf:zJ g J m)(zp:J.z6 id=some (.cell x))(hx:m∉x'.ids):zJ g (J.setObj id (.cell x')) m:=by
 have hm:m≠id:=by intro he;subst he;have:=hf.z6;rw[zp]at this;simp at this
 refine⟨by simp only[St.setObj];rw[zf _ _ hm];exact hf.z6,hf.row,hf.box,hf.zk,λi y hi=>?_⟩;by_cases he:i=id
 ·subst he;simp only[St.setObj,zO,zI,Obj.cell.injEq]at hi;subst hi;exact hx
 ·simp only[St.setObj]at hi;rw[zf _ _ he]at hi;exact hf.cells i y hi
theorem DQ(i:Nat)(p:Path)(cv:Conv)(l:List (Nat×Option Path×Conv))
  (ih:∀{g:z8}{J:St}{k:St->Option R},zU n g w a J->qF g J->VW l J k=some r->∃J' g',k J'=some r/\zU n g' w a J'/\Ext w g w g'/\qF g' J')
  (hcv:cv≠.Zj) {g:z8}{J:St}{k:St->Option R} (zj:zU n g w a J) (hf:qF g J) (h:VW ((i,some p,cv)::l) J k=some r) :
  ∃J' g',k J'=some r/\zU n g' w a J'/\Ext w g w g'/\qF g' J':=by
  have h:(match J.zk i with
   |some (.zq id _)=>JV J id p λa=>cond a.val (Bz J a cv λa J=>JV J id [] λwhole=>xq a whole p λwhole=>VW l (J.setObj id (.cell whole)) k) none
   |_=>none)=some r:=by
   cases cv with
   |Zj=>exact absurd rfl hcv
   |row u=>exact h
   |dat u=>exact h
  split at h
  ·rename_i id q hx;obtain⟨y,y',off,cc,e,zp,h,jO,zZ,zS,qG,hall,YS,gI⟩:=Cw zj.heap h;have hym:∀m,J.next<=m->m∉y'.ids:=λm hm=>gI m ((hf m hm).cells id y zp)
   cases hval:y'.val with
   |false=>rw[hval]at h;simp at h
   |true=>
    rw[hval]at h;simp only[zB]at h;obtain⟨x',J1,g1,h,yN,yA,ZF,ht⟩:=IJ zj hf hval YS hym h;obtain⟨z,z',zuq,cc2,e2,YT,h,zfc,Qv,Co,xu,zr0,z3j,zqd⟩:=Cw yN.heap h;have Mx:=Qv;have zf6:=Co;obtain⟨hz,hblk⟩:=ht.cells id z YT;rw[zp]at hz;simp only[zI,Obj.cell.injEq]at hz;subst hz;rw[hblk,zZ]at Qv;simp only[zI,Go.Obj.cells.injEq]at Qv;obtain⟨rfl,_,_⟩:=Qv;simp only[Sk.off,zI,pv]at zfc;obtain⟨rfl,PS⟩:=zfc;have hz':jM w g1 J1.z6 z' cc.toList:=by
     have hl:z'.sk.size=cc.toList.length:=by rw[<-PS,<-zr0.len]
     rw[hl,gx]at z3j;exact z3j
    rw[PS,<-ht.sk]at jO;obtain⟨w',hk,hws,zba,zoy⟩:=Y8 ht.ok hz' jO h;rw[Fb _ _ _ (by rw[vl];exact qG)]at zba;obtain⟨J2,g2,h2,k9,wF,Pn⟩:=ih (z5v yN YT (hws.trans PS.symm) ⟨_,_,Mx,zf6,zba⟩)
     (λm hm=>MN (ZF m hm) YT (zoy m (zqd m ((ZF m hm).cells _ _ YT)) (ht.ids m hm))) hk
    exact⟨J2,g2,h2,k9,yA.trans wF,Pn⟩
  ·simp at h
theorem ZS:(l:List (Nat×Option Path×Conv))->{g:z8}->{J:St}->{k:St->Option R}->zU n g w a J->qF g J->VW l J k=some r->
  ∃J' g',k J'=some r/\zU n g' w a J'/\Ext w g w g'/\qF g' J'
 |[],g,J,k,zj,hf,h=>⟨J,g,h,zj,Ext.refl w g,hf⟩
 |(i,none,cv)::l,g,J,k,zj,hf,h=>by
  simp only[VW]at h;split at h
  ·rename_i x hx;obtain⟨v,hv,za⟩:=zj.zk i x hx
   cases hval:x.val with
   |false=>rw[hval]at h;simp at h
   |true=>
    rw[hval]at h;simp only[zB]at h;obtain⟨wx,Qr,PY,EJ⟩:=wI hval;obtain⟨cs,pe,Qs⟩:=kB za EJ;obtain⟨x',J1,g1,h,yN,yA,ZF,ht⟩:=IJ zj hf hval pe (hf.ids hx) h;obtain⟨_,hm1,hm2,_⟩:=wI ht.val;have SY:zm w g1 J1.z6 x' v:=jz ht.ok (by rw[ht.agg];exact Qs) hm1 hm2;obtain⟨J2,g2,h2,k9,wF,Pn⟩:=ZS l (yN.set hv SY) (λm hm=>(ZF m hm).set i (ht.ids m hm)) h;exact⟨J2,g2,h2,k9,yA.trans wF,Pn⟩
  ·simp at h
 |(i,some p,.Zj)::l,g,J,k,zj,hf,h=>by
  simp only[VW,zfv]at h;split at h
  ·rename_i id q hx;split at h
   ·exact ZS l zj hf h
   ·rename_i x _ ho
    cases p9:(z7.jS x).wh with
    |false=>rw[p9]at h;simp at h
    |true=>
    rw[p9]at h;simp only[zB]at h;obtain⟨g1,h1,h2,h2r,h3,h4⟩:=R4 zj ho p9;obtain⟨J2,g2,k1,k2,k3,k4⟩:=ZS l h1 (λm hm=>h3 m (hf m hm)) h;exact⟨J2,g2,k1,k2,h2.trans k3,k4⟩
   ·simp at h
  ·simp at h
 |(i,some p,.row u)::l,g,J,k,zj,hf,h=>DQ i p (.row u) l (λ{_ _ _} a b c=>ZS l a b c) (by simp) zj hf h
 |(i,some p,.dat u)::l,g,J,k,zj,hf,h=>DQ i p (.dat u) l (λ{_ _ _} a b c=>ZS l a b c) (by simp) zj hf h
theorem Wd{cut:Cut}{k:List (Nat×z7)->List Obj->Option R}(zj:zU n g w a J)(hf:qF g J)(h:Pu cut J k=some r):
  ∃sl os g',k sl os=some r/\zU n g' w a (St.of sl os)/\Ext w g w g'/\qF g' (St.of sl os):=by
 obtain⟨J1,g1,h,yN,yA,ZF⟩:=ZS cut.conv zj hf h;split at h
 ·rename_i l hl;obtain⟨sl,os,g2,h2,k9,wF,Pn⟩:=z16 (YC hl) yN h;exact⟨sl,os,g2,h2,k9,yA.trans wF,Pn⟩
 ·simp at h
theorem JF{cut:Cut}(zj:zU n g w a J)(hf:qF g J)(h:norm cut J k=some r):
  ∃J' g',k J'=some r/\zU n g' w a J'/\Ext w g w g'/\qF g' J':=by
 obtain⟨sl,os,g',h1,h2,h3,h4⟩:=Wd zj hf h;exact⟨_,g',h1,h2,h3,h4⟩
end
end Go.Kz
namespace Go.Kz
variable {R:Type}
def vN.to:vN->Exit
 |.normal=>.normal
 |.exit i=>.exit i
 |.ret=>.ret
def DE(s:Nat):List Oper->Bool
 |[]=>false
 |o::l=>(match o.dst with
  |some d=>Nat.beq d s
  |none=>false)||DE s l
def wrote(s:Nat):Code->Bool
 |.region _ ops _=>DE s ops.toList
 |.seq a b=>wrote s a||wrote s b
 |.cond _ a b=>wrote s a||wrote s b
 |.block _ b=>wrote s b
 |.scope b=>wrote s b
 |.loop b=>wrote s b
 |_=>false
theorem Cy{s:Nat}:{l:List Oper}->DE s l=false->∀o∈l,o.dst≠some s
 |[],_,o,h=>by simp at h
 |x::l,hw,o,h=>by
  simp only[DE,VG]at hw;rcases pF.1 h with rfl|h
  ·intro hd;have h1:=hw.1;rw[hd]at h1;simp only[Mt]at h1;cases h1
  ·exact Cy hw.2 o h
def Kept(b:Code)(a a':Act):Prop:=∀s,wrote s b=false->a'.tmps[s]? = a.tmps[s]?
def z6p(n:Nat)(g:z8)(w:World)(k:vN->St->Option R)(r:R)(F:Act->Prop)(Q:Exit->Act->World->Prop):Prop:=
 ∀e J' g' a' w',k e J'=some r->zU n g' w' a' J'->Ext w g w' g'->qF g' J'->F a'->Q e.to a' w'
theorem z6p.later{n:Nat}{g g':z8}{w w':World}{k:vN->St->Option R}{r:R}{F F':Act->Prop}{Q:Exit->Act->World->Prop}(h:z6p n g w k r F Q)(he:Ext w g w' g')(hF:∀a,F' a->F a):z6p n g' w' k r F' Q:=
 λe J' g2 a' w2 hk zj qf hf hF'=>h e J' g2 a' w2 hk zj (he.trans qf) hf (hF a' hF')
section
variable {P:Program}{c:Ctx}
theorem k7(hc:xP P c)(hm:P.follows .mixedOrders=true):(code:Code)->(∀b∈yR code,QU c b)->{J:St}->{g:z8}->{a:Act}->{w:World}->{k:vN->St->Option R}->{r:R}->{Q:Exit->Act->World->Prop}->
  (∀ch a w,¬Q (.panic ch) a w)->vD c code J k=some r->zU c.ntmps g w a J->qF g J->z6p c.ntmps g w k r (Kept code a) Q->code.wp P Q a w
 |.skip,_,J,g,a,w,k,r,Q,_,h,zj,hf,hk=>Go.wp_skip (hk .normal J g a w h zj (Ext.refl _ _) hf (λ_ _=>rfl))
 |.region id ops draw,_,J,g,a,w,k,r,Q,hQ,h,zj,hf,hk=>S1 hc hm hQ h zj hf (λJ' g' a' w' h' qO pj K7 hkp=>hk .normal J' g' a' w' h' qO pj K7 (λs hs=>hkp s (Cy hs)))
 |.seq x y,Vh,J,g,a,w,k,r,Q,hQ,h,zj,hf,hk=>by
  simp only[vD]at h;refine wp_seq (k7 hc hm x (λb hb=>Vh b (by simp[yR,hb])) (Q:=Exit.then (y.wp P Q) Q) hQ h zj hf ?_);intro e J1 g1 a1 w1 h1 yN yA ZF Hd;have hy:∀a',Kept y a1 a'->Kept (.seq x y) a a':=λa' h s hs=>by
   simp only[wrote,VG]at hs;rw[h s hs.2,Hd s hs.1]
  have hx:Kept (.seq x y) a a1:=λs hs=>by
   simp only[wrote,VG]at hs;exact Hd s hs.1
  cases e with
  |normal=>
   simp only[zb0,zb2]at h1;show y.wp P Q a1 w1;split at h1
   ·obtain⟨J2,g2,h2,k9,wF,Pn⟩:=JF yN ZF h1;exact k7 hc hm y (λb hb=>Vh b (by simp[yR,hb])) hQ h2 k9 Pn (hk.later (yA.trans wF) hy)
   ·exact k7 hc hm y (λb hb=>Vh b (by simp[yR,hb])) hQ h1 yN ZF (hk.later yA hy)
  |exit i=>exact hk (.exit i) J1 g1 a1 w1 h1 yN yA ZF hx
  |ret=>exact hk .ret J1 g1 a1 w1 h1 yN yA ZF hx
 |.cond x p q,Vh,J,g,a,w,k,r,Q,hQ,h,zj,hf,hk=>by
  simp only[vD]at h;split at h
  ·rename_i t ht;have hv:=xK (qD zj ht).1;refine wp_cond hv ?_
   cases t with
   |true=>exact k7 hc hm p (λb hb=>Vh b (by simp[yR,hb])) hQ h zj hf (hk.later (Ext.refl _ _) λa' h s hs=>h s (by simp only[wrote,VG]at hs;exact hs.1))
   |false=>exact k7 hc hm q (λb hb=>Vh b (by simp[yR,hb])) hQ h zj hf (hk.later (Ext.refl _ _) λa' h s hs=>h s (by simp only[wrote,VG]at hs;exact hs.2))
  ·simp at h
 |.block id b,Vh,J,g,a,w,k,r,Q,hQ,h,zj,hf,hk=>by
  simp only[vD]at h;refine wp_block (k7 hc hm b (λb' hb=>Vh b' (by simp[yR,hb])) (Q:=Exit.inBlock id Q) hQ h zj hf ?_);intro e J1 g1 a1 w1 h1 yN yA ZF Hd;have hx:Kept (.block id b) a a1:=Hd
  cases e with
  |normal=>exact hk .normal J1 g1 a1 w1 h1 yN yA ZF hx
  |exit i=>
   simp only[z2r]at h1;simp only[vN.to,Exit.inBlock]
   cases hb:Nat.beq i id with
   |true=>
    rw[hb]at h1;rw[yX (zE hb)]
    exact hk .normal J1 g1 a1 w1 h1 yN yA ZF hx
   |false=>
    rw[hb]at h1;rw[qW (λhe=>by subst he;rw[Mt]at hb;simp at hb)]
    exact hk (.exit i) J1 g1 a1 w1 h1 yN yA ZF hx
  |ret=>exact hk .ret J1 g1 a1 w1 h1 yN yA ZF hx
 |.loop b,Vh,J,g,a,w,k,r,Q,hQ,h,zj,hf,hk=>by
  simp only[vD]at h;split at h
  ·rename_i rg Pe;split at h
   ·rename_i lv hlv;split at h
    ·rename_i L hL;obtain⟨sl0,os0,g0,h,Pc,z4e,hf0⟩:=Wd zj hf h;have h:=Vh b (by simp[yR]) rg lv L Pe hlv hL R sl0 os0 k r h;refine wp_loop_rounds c.fuel ?_;have rounds:∀(n:Nat){sl:List (Nat×z7)}{os:List Obj}{g1:z8}{a1:Act}{w1:World},YB (vD c b) lv n sl os (YH c rg k)=some r->zU c.ntmps g1 w1 a1 (St.of sl os)->qF g1 (St.of sl os)->Ext w g w1 g1->Kept b a a1->Code.rounds P b Q n a1 w1:=by
      intro n
      induction n with
      |zero=>intro sl os g1 a1 w1 h;simp[YB]at h
      |succ n ih=>
      intro sl os g1 a1 w1 h zj hf qf hkp;simp only[YB]at h;rw[rounds_succ];refine k7 hc hm b (λb' hb=>Vh b' (by simp[yR,hb])) (Q:=Exit.then (Code.rounds P b Q n) Q) hQ h zj hf ?_;intro e J2 g2 a2 w2 h2 k9 wF Pn zzk;have hx:Kept (.loop b) a a2:=λs hs=>(zzk s hs).trans (hkp s hs)
      cases e with
      |normal=>
       obtain⟨sl3,os3,g3,h3,Mz,Hi,hf3⟩:=Wd k9 Pn h2
       exact ih h3 Mz hf3 ((qf.trans wF).trans Hi) hx
      |exit i=>
       simp only[YH]at h2;split at h2
       ·obtain⟨J3,g3,h3,Mz,Hi,hf3⟩:=JF k9 Pn h2;exact hk (.exit i) J3 g3 a2 w2 h3 Mz ((qf.trans wF).trans Hi) hf3 hx
       ·simp at h2
      |ret=>
       simp only[YH]at h2;obtain⟨J3,g3,h3,Mz,Hi,hf3⟩:=JF k9 Pn h2;exact hk .ret J3 g3 a2 w2 h3 Mz ((qf.trans wF).trans Hi) hf3 hx
     exact rounds c.fuel h Pc hf0 z4e (λ_ _=>rfl)
    ·simp at h
   ·simp at h
  ·simp at h
 |.exit id,_,J,g,a,w,k,r,Q,_,h,zj,hf,hk=>wp_exit (hk (.exit id) J g a w h zj (Ext.refl _ _) hf (λ_ _=>rfl))
 |.ret,_,J,g,a,w,k,r,Q,_,h,zj,hf,hk=>wp_ret (hk .ret J g a w h zj (Ext.refl _ _) hf (λ_ _=>rfl))
 |.goto _,_,_,_,_,_,_,_,_,_,h,_,_,_=>by simp[vD]at h
 |.label _,_,J,g,a,w,k,r,Q,_,h,zj,hf,hk=>Go.wp_label (hk .normal J g a w h zj (Ext.refl _ _) hf (λ_ _=>rfl))
 |.scope b,Vh,J,g,a,w,k,r,Q,hQ,h,zj,hf,hk=>by
  refine wp_scope_straight (k7 hc hm b (λb' hb=>Vh b' hb) (Q:=Exit.noGoto Q) hQ h zj hf ?_);intro e J1 g1 a1 w1 h1 yN yA ZF Hd
  cases e with
  |normal=>exact hk .normal J1 g1 a1 w1 h1 yN yA ZF Hd
  |exit i=>exact hk (.exit i) J1 g1 a1 w1 h1 yN yA ZF Hd
  |ret=>exact hk .ret J1 g1 a1 w1 h1 yN yA ZF Hd
 |.rangeFunc _ _ _ _,_,_,_,_,_,_,_,_,_,h,_,_,_=>by simp[vD]at h
 |.refuse _,_,_,_,_,_,_,_,_,_,h,_,_,_=>by simp[vD]at h
end
end Go.Kz
namespace Go.Kz
variable {R:Type}
def Ty.wK:Ty->Bool
 |.pair _ _ |.unit=>true
 |_=>false
def Ty.B0:Ty->Bool
 |.sl true t=>t.zG
 |.pair a b=>a.B0&&b.B0&&b.wK
 |t=>t.zG
structure U1 (g:z8) (CS:qZ) (g':z8) (wT:qZ) (ml:List (Option Nat)):Prop where
 sv:g'.sv=g.sv
 qp:g'.qp=g.qp
 z6:∀i,wT i=CS i\/wT i=none
 tag:∀b,g'.tag b=g.tag b\/(g'.tag b=.ro/\∃id,CS id≠none/\wT id=none/\some id∉ml/\((∃p,g.tag b=.row id p)\/g.tag b=.box id))
 mv:∀i,some i∈ml->CS i≠none/\wT i=none
 nodup:(ml.filterMap id).Nodup
theorem jI.shr{g g':z8}{o o':qZ}(h:jI g o g' o'):U1 g o g' o' []:=by
 refine⟨h.sv,h.qp,h.z6,λb=>?_,λi hi=>by simp at hi,by simp⟩;rcases h.tag b with e|⟨e,id,h1,h2,h3⟩
 ·exact .inl e
 ·exact .inr ⟨e,id,h1,h2,by simp,h3⟩
theorem U1.nil(g:z8)(z6:qZ):U1 g z6 g z6 [none]:=⟨rfl,rfl,λ_=>.inl rfl,λ_=>.inl rfl,λi h=>by simp at h,by simp⟩
theorem U1.ro{g g':z8}{o o':qZ}{mv:List (Option Nat)}(h:U1 g o g' o' mv)(w:World):zT w g w g':=by
 refine⟨λb hb=>⟨?_,rfl⟩⟩;rcases h.tag b with e|⟨e,_⟩
 ·rw[e,hb]
 ·exact e
theorem U1.stays{g g':z8}{o o':qZ}{mv:List (Option Nat)}(h:U1 g o g' o' mv)(w:World){id:Nat}(hid:o id=none\/o' id≠none\/some id∈mv):xC w g w g' id:=by
 have Ct:∀vF,o vF≠none->o' vF=none->some vF∉mv->vF≠id:=by
  intro vF h1 h2 h3 he;subst he;rcases hid with h|h|h
  ·exact h1 h
  ·exact h h2
  ·exact h3 h
 refine⟨⟨λq=>by rw[h.sv],λq b hb=>⟨?_,rfl⟩⟩,by rw[h.qp],λhb=>⟨?_,rfl⟩⟩
 ·rcases h.tag b with e|⟨_,vF,h1,h2,h3,ht⟩
  ·rw[e,hb]
  ·rw[hb]at ht;rcases ht with⟨p,ht⟩|ht
   ·simp only[Tag.row.injEq]at ht;exact absurd ht.1.symm (Ct vF h1 h2 h3)
   ·simp at ht
 ·rcases h.tag (g.qp id) with e|⟨_,vF,h1,h2,h3,ht⟩
  ·rw[e,hb]
  ·rw[hb]at ht;rcases ht with⟨p,ht⟩|ht
   ·simp at ht
   ·simp only[Tag.box.injEq]at ht;exact absurd ht.symm (Ct vF h1 h2 h3)
theorem U1.trans{g g' g'':z8}{o o' o'':qZ}{m1 m2:List (Option Nat)}(h:U1 g o g' o' m1)(k:U1 g' o' g'' o'' m2):U1 g o g'' o'' (m1++m2):=by
 have Nr:∀i,o' i≠Option.none->o i≠Option.none:=by
  intro i hi;rcases h.z6 i with e|e
  ·rw[<-e];exact hi
  ·exact absurd e hi
 have zqg:∀i,o' i=Option.none->o'' i=Option.none:=by
  intro i hi;rcases k.z6 i with e|e
  ·rw[e];exact hi
  ·exact e
 refine⟨k.sv.trans h.sv,k.qp.trans h.qp,λi=>?_,λb=>?_,λi hi=>?_,?_⟩
 ·rcases k.z6 i with e|e
  ·rw[e];exact h.z6 i
  ·exact .inr e
 ·rcases k.tag b with e|⟨e,id,h1,h2,h3,ht⟩
  ·rcases h.tag b with e2|⟨e2,id,h1,h2,h3,ht⟩
   ·exact .inl (e.trans e2)
   ·refine .inr ⟨e.trans e2,id,h1,zqg id h2,λhm=>?_,ht⟩;rcases Gx.1 hm with hm|hm
    ·exact h3 hm
    ·exact absurd h2 (k.mv id hm).1
  ·rcases h.tag b with e2|⟨e2,_⟩
   ·rw[e2]at ht;refine .inr ⟨e,id,Nr id h1,h2,λhm=>?_,ht⟩;rcases Gx.1 hm with hm|hm
    ·exact h1 (h.mv id hm).2
    ·exact h3 hm
   ·rw[e2]at ht;rcases ht with⟨p,ht⟩|ht<;>simp at ht
 ·rcases Gx.1 hi with hi|hi
  ·exact⟨(h.mv i hi).1,zqg i (h.mv i hi).2⟩
  ·exact⟨Nr i (k.mv i hi).1,(k.mv i hi).2⟩
 ·rw[List.filterMap_append,Z4g];refine⟨h.nodup,k.nodup,λa ha b hb=>?_⟩;have ha':some a∈m1:=by obtain⟨x,hx,he⟩:=Z4i.1 ha;simp at he;rw[<-he];exact hx
  have jt:some b∈m2:=by obtain⟨x,hx,he⟩:=Z4i.1 hb;simp at he;rw[<-he];exact hx
  intro he;subst he;exact(k.mv a jt).1 (h.mv a ha').2
theorem U1.kept{w:World}{g g':z8}{o o':qZ}{mv:List (Option Nat)}(h:U1 g o g' o' mv)(id:Nat):qq g g' id (o id) (o' id):=by
 rcases h.z6 id with e|e
 ·rw[e];by_cases hn:o' id=Option.none
  ·left;rw[<-e];exact hn
  ·exact qq.same (h.stays w (.inr (.inl hn)))
 ·exact .inl e
theorem U1.heap{w:World}{g g':z8}{o o':qZ}{mv:List (Option Nat)}(h:U1 g o g' o' mv)(hh:yC w g o):yC w g' o':=by
 refine⟨λid x hx=>?_,λb hb=>?_⟩
 ·have hid:o' id≠Option.none:=by rw[hx];simp
  have Vd:o id=some x:=by
   rcases h.z6 id with e|e
   ·rw[<-e];exact hx
   ·exact absurd e hid
  exact zn.frame (h.ro w) (h.stays w (.inr (.inl hid))) (λa ha vF _=>h.kept (w:=w) vF) (hh.z6 id x Vd)
 ·refine hh.tags b ?_;rcases h.tag b with e|⟨e,vF,_,_,_,ht⟩
  ·rw[<-e];exact hb
  ·rcases ht with⟨p,ht⟩|ht<;>rw[ht]<;>simp
theorem U1.ext{w:World}{g g':z8}{o o':qZ}{mv:List (Option Nat)}(h:U1 g o g' o' mv):Ext w g w g':=by
 refine⟨rfl,rfl,rfl,yH _,yH _,λb _ ht=>⟨rfl,?_⟩⟩;rcases h.tag b with e|⟨_,vF,_,_,_,h2⟩
 ·exact e
 ·rcases h2 with⟨p,h2⟩|h2<;>rw[h2]at ht<;>simp at ht
theorem z2n{g:z8}{J:St}{id:Nat}(hid:J.z6 id≠none):U1 g J.z6 g (J.kill id).z6 [some id]:=by
 refine⟨rfl,rfl,(wj (g:=g) (J:=J) id hid).z6,λb=>.inl rfl,λi hi=>?_,by simp⟩;simp only[II,zI]at hi;subst hi;exact⟨hid,by simp[St.kill,GJ]⟩
structure Laid (w:World) (g:z8) (mv:List (Option Nat)) (G:z8) (base:Nat):Prop where
 ro:zT w g w G
 row:∀j i,zR mv j=some (some i)->xG w g w G i [] (base+j) []
 nil:∀j,zR mv j=some none->G.sv (base+j) []=.slice none 0 0
theorem kQ{I:Type}:(l m:List I)->(i:Nat)->zR (l++m) i=if i<l.length then zR l i else zR m (i-l.length)
 |[],m,i=>by simp
 |x::l,m,0=>by simp[zR]
 |x::l,m,i+1=>by simp[zR,kQ l m i]
theorem Laid.left{w:World}{g g' G:z8}{o o':qZ}{m1 m2:List (Option Nat)}{base:Nat}(k:U1 g o g' o' m2)(hm:∀i,some i∈m1->o i=none)(h:Laid w g' (m1++m2) G base):Laid w g m1 G base:=by
 refine⟨⟨λb hb=>h.ro.qp b ((k.ro w).qp b hb).1⟩,λj i hj=>?_,λj hj=>?_⟩
 ·have qk:=wa hj;have hx:=h.row j i (by rw[kQ,yX qk];exact hj);have hs:=k.stays w (.inl (hm i (jo hj)));refine⟨λq=>(hx.sv q).trans (hs.row.sv q),λq b hb=>?_⟩;exact hx.qp q b (hs.row.qp q b hb).1
 ·exact h.nil j (by rw[kQ,yX (wa hj)];exact hj)
theorem Laid.right{w:World}{g G:z8}{m1 m2:List (Option Nat)}{base:Nat}(h:Laid w g (m1++m2) G base):Laid w g m2 G (base+m1.length):=by
 refine⟨h.ro,λj i hj=>?_,λj hj=>?_⟩
 ·have:=h.row (m1.length+j) i (by rw[kQ,qW (by omega)];rw[Z52];exact hj);rw[<-TD]at this;exact this
 ·have:=h.nil (m1.length+j) (by rw[kQ,qW (by omega)];rw[Z52];exact hj);rw[<-TD]at this;exact this
theorem P1:(t:Ty)->(d:t.den)->(n:Nat)->t.zG=true->zw t d n=(.data t d,[])
 |.sl true t,l,n,h=>by simp[Ty.zG]at h
 |.sl false t,l,n,_=>rfl
 |.int _,_,_,_=>rfl
 |.bool,_,_,_=>rfl
 |.str,_,_,_=>rfl
 |.unit,_,_,_=>rfl
 |.arr _ _,_,_,_=>rfl
 |.ptr _,_,_,_=>rfl
 |.fn _ _,_,_,_=>rfl
 |.tree _,_,_,_=>rfl
 |.mp _,_,_,_=>rfl
 |.pair a b,(x,y),n,h=>by simp only[zw,h,zB]
theorem Qx{w:World}{g:z8}{z6:qZ}:(t:Ty)->(d:t.den)->(n:Nat)->{cs:List Value}->t.zG=true->t.wK=true->t.B0=true->zN w g none t d cs->
  jM w g z6 (zw.zh t d n).1 cs/\(zw.zh t d n).2=[]
 |.unit,_,_,cs,_,_,_,h=>⟨h,rfl⟩
 |.pair a b,(x,y),n,cs,h,_,he,hr=>by
  obtain⟨c1,c2,rfl,h1,h2⟩:=hr;simp only[Ty.zG,zA]at h;simp only[Ty.B0,zA]at he;have ha:=P1 a x n h.1;have hb:=λn=>Qx (z6:=z6) b y n h.2 he.2 he.1.2 h2
  simp only[zw.zh,ha,TA,TE,Ql]
  exact⟨⟨c1,c2,rfl,⟨h.1,h1⟩,(hb n).1⟩,(hb n).2⟩
 |.int _,_,_,_,_,h,_,_=>by simp[Ty.wK]at h
 |.bool,_,_,_,_,h,_,_=>by simp[Ty.wK]at h
 |.str,_,_,_,_,h,_,_=>by simp[Ty.wK]at h
 |.arr _ _,_,_,_,_,h,_,_=>by simp[Ty.wK]at h
 |.sl _ _,_,_,_,_,h,_,_=>by simp[Ty.wK]at h
 |.ptr _,_,_,_,_,h,_,_=>by simp[Ty.wK]at h
 |.fn _ _,_,_,_,_,h,_,_=>by simp[Ty.wK]at h
 |.tree _,_,_,_,_,h,_,_=>by simp[Ty.wK]at h
 |.mp _,_,_,_,_,h,_,_=>by simp[Ty.wK]at h
structure Js (w:World) (G:z8) (x:z7×List Obj) (base:Nat) (cs:List Value):Prop where
 ok:∀O,jM w G O x.1 cs
 z6:∀O j o,zR x.2 j=some o->zn w G O (base+j) o
theorem zbw{R:Type}{n:Nat}{pt:Bool}{id:Nat}{p:Path}{ep:Nat}{u:Ty}{J:St}{k:u.den->St->Option R}{r:R}(h:jG n (.nv pt id p ep) u J k=some r):∃v,u=.sl false v:=by
 cases n with
 |zero=>simp[jG]at h
 |succ n=>
  cases pt with
  |true=>simp[jG]at h
  |false=>
   cases p with
   |cons s q=>simp[jG]at h
   |nil=>
    simp only[jG]at h;split at h
    ·rename_i t l e i ho
     cases hb:Nat.beq e ep with
     |false=>rw[hb]at h;simp at h
     |true=>
      rw[hb]at h;simp only[zB]at h;split at h
      ·exact⟨_,rfl⟩
      ·simp at h
    ·simp at h
theorem Kv{w:World}:(n:Nat)->{a:z7}->{u:Ty}->{J:St}->{g:z8}->{k:u.den->St->Option R}->{r:R}->{cs:List Value}->
  yC w g J.z6->jM w g J.z6 a cs->u.B0=true->jG n a u J k=some r->
  ∃d J' g' mv,k d J'=some r/\J'.zk=J.zk/\J'.next=J.next/\U1 g J.z6 g' J'.z6 mv/\(∀m,(zw u d m).2.length=mv.length)/\
   (∀G base,Laid w g' mv G base->Js w G (zw u d base) base cs)/\
   (u.wK=true->(∀m,(zw.zh u d m).2.length=mv.length)/\∀G base,Laid w g' mv G base->Js w G (zw.zh u d base) base cs)
 |0,_,_,_,_,_,_,_,_,_,_,h=>by simp[jG]at h
 |n+1,a,u,J,g,k,r,cs,hh,za,hu,h=>by
  have ro:∀d J' g',u.zG=true->k d J'=some r->J'.zk=J.zk->J'.next=J.next->U1 g J.z6 g' J'.z6 []->zN w g' none u d cs->
    ∃d J' g' mv,k d J'=some r/\J'.zk=J.zk/\J'.next=J.next/\U1 g J.z6 g' J'.z6 mv/\(∀m,(zw u d m).2.length=mv.length)/\
     (∀G base,Laid w g' mv G base->Js w G (zw u d base) base cs)/\
     (u.wK=true->(∀m,(zw.zh u d m).2.length=mv.length)/\∀G base,Laid w g' mv G base->Js w G (zw.zh u d base) base cs):=by
   intro d J' g' qY hk h1 h2 h3 zF;refine⟨d,J',g',[],hk,h1,h2,h3,λm=>by rw[P1 u d m qY];rfl,λG base hl=>?_,λhch=>⟨λm=>?_,λG base hl=>?_⟩⟩
   ·rw[P1 u d base qY];exact⟨λO=>⟨qY,zF.kept hl.ro⟩,λO j o hj=>by cases j<;>simp[zR]at hj⟩
   ·rw[(Qx (w:=w) (z6:=λ_=>none) u d m qY hch hu zF).2];rfl
   ·refine⟨λO=>(Qx u d base qY hch hu (zF.kept hl.ro)).1,λO j o hj=>?_⟩;rw[(Qx (w:=w) (z6:=λ_=>none) u d base qY hch hu zF).2]at hj;cases j<;>simp[zR]at hj
  cases qY:u.zG with
  |true=>
   obtain⟨d,J',g',hk,h1,h2,h3,zF⟩:=gQ (n+1) hh za qY h
   exact ro d J' g' qY hk h1 h2 h3.shr zF
  |false=>
  cases a with
  |data t d=>
   simp only[jG]at h;obtain⟨_,_,Pd,_⟩:=vT h za.1
   rw[Pd]at qY;simp at qY
  |zi=>
   simp only[jG]at h;obtain⟨o,v,rfl,h⟩:=JH h;have K4:cs=[.slice none 0 0]:=za;subst K4
   cases o with
   |false=>rw[show(Ty.sl false v).zG=true from by simpa[Ty.B0]using hu]at qY;simp at qY
   |true=>
    refine⟨_,J,g,[none],h,rfl,rfl,U1.nil _ _,λm=>rfl,λG base hl=>?_,λhch=>by simp[Ty.wK]at hch⟩;have yZ:=hl.nil 0 rfl;refine⟨λO=>⟨_,rfl,rfl,λt l e _=>⟨jF _,λ_=>yZ.symm⟩⟩,λO j o hj=>?_⟩
    cases j with
    |succ j=>cases j<;>simp[zw,zR]at hj
    |zero=>
     simp only[zw,zR,zI]at hj;subst hj;refine⟨hu,?_⟩;rw[yZ]
     exact⟨none,0,rfl,yZ,yH _,jF _,.inl ⟨rfl,rfl,rfl⟩⟩
  |ref id p ep=>
   cases p with
   |cons s q=>simp[jG]at h
   |nil=>
    simp only[jG]at h;split at h
    ·rename_i t l e ho
     cases hb:Nat.beq e ep with
     |false=>rw[hb]at h;simp at h
     |true=>
      have he:e=ep:=zE hb;subst he;rw[hb]at h;simp only[zB]at h;obtain⟨v,rfl,_,hv⟩:=za;have yZ:=(hv _ _ _ ho).2 rfl;have zp:=hh.z6 id _ ho;split at h
      ·rename_i v' kk;obtain⟨he,h⟩:=yY h;simp only[Ty.sl.injEq,Ur]at he;subst he;refine⟨_,J.kill id,g,[some id],h,rfl,rfl,z2n (by rw[ho];simp),λm=>rfl,λG base hl=>?_,λhch=>by simp[Ty.wK]at hch⟩;have hm:=hl.row 0 id rfl;have Pb:=hm.sv [];simp only[DX]at Pb;refine⟨λO=>⟨_,rfl,?_,λt l e _=>⟨jF _,λ_=>?_⟩⟩,λO j o hj=>?_⟩
       ·obtain⟨_,_,_,_,hx,_⟩:=zp;rw[yZ,hx];rfl
       ·rw[yZ];exact Pb.symm
       ·cases j with
        |succ j=>cases j<;>simp[zw,zR]at hj
        |zero=>
         simp only[zw,zR,zI]at hj;subst hj;refine⟨zp.1,?_⟩;have:=zN.move hl.ro (o:=some (id,[])) (o':=some (base,[])) hm zp.2;show zN w G (some (base,[])) _ _ [G.sv base []];rw[show G.sv base []=g.sv id [] from Pb];exact this
      ·rename_i v' kk;rw[show(Ty.sl false v').zG=true from by simpa[Ty.B0]using hu]at qY;simp at qY
      ·simp at h
    ·simp at h
  |zq id p=>
   cases u with
   |ptr u=>rw[show(Ty.ptr u).zG=true from hu]at qY;simp at qY
   |_=>cases p<;>simp[jG]at h
  |qP f c=>
   cases u with
   |fn f' t=>rw[show(Ty.fn f' t).zG=true from hu]at qY;simp at qY
   |_=>simp[jG]at h
  |V6 t c=>simp[jG]at h
  |agg c=>
   simp only[jG]at h
   exact Kv n (a:=c) hh za hu h
  |pr a b=>
   cases u with
   |pair t u=>
    simp only[jG]at h;simp only[Ty.B0,zA]at hu;obtain⟨c1,c2,rfl,ha,hb⟩:=za;obtain⟨x,J1,g1,mv1,Z5,h1,h2,h3,D4,he1,_⟩:=Kv n hh ha hu.1.1 h;have jt:=jM.frame (wT:=J1.z6) (h3.ro w) (λi _=>h3.kept (w:=w) i) hb;obtain⟨y,J2,g2,mv2,K6,h4,h5,h6,D3,he2,Uq⟩:=Kv n (h3.heap hh) jt hu.1.2 Z5;obtain⟨q0b,q0c⟩:=Uq hu.2;have zfd:∀m,(zw.zh (.pair t u) (x,y) m).2.length=(mv1++mv2).length:=λm=>by
     simp only[zw.zh,WQ,D4,q0b]
    have zj3:∀G base,Laid w g2 (mv1++mv2) G base->Js w G (zw.zh (.pair t u) (x,y) base) base (c1++c2):=λG base hl=>by
     have e1:=he1 G base (hl.left h6 (λi hi=>(h3.mv i hi).2));have e2:=q0c G (base+mv1.length) hl.right;simp only[zw.zh];rw[D4 base];refine⟨λO=>⟨c1,c2,rfl,e1.ok O,e2.ok O⟩,λO j o hj=>?_⟩;rw[kQ]at hj;split at hj
     ·exact e1.z6 O j o hj
     ·rename_i Pm;rw[D4 base]at hj Pm;have:=e2.z6 O _ o hj;rw[show base+mv1.length+(j-mv1.length)=base+j from by omega]at this;exact this
    refine⟨(x,y),J2,g2,mv1++mv2,K6,h4.trans h1,h5.trans h2,h3.trans h6,λm=>?_,λG base hl=>?_,λ_=>⟨zfd,zj3⟩⟩
    ·simp only[zw];rw[qY];exact zfd m
    ·simp only[zw];rw[qY]
     exact⟨λO=>(zj3 G base hl).ok O,(zj3 G base hl).z6⟩
   |_=>simp[jG]at h
  |un=>
   cases u with
   |unit=>
    simp only[jG]at h
    simp[Ty.zG]at qY
   |_=>simp[jG]at h
  |view id p ep x y=>cases u<;>simp[jG]at h
  |va id p ep=>cases u<;>simp[jG]at h
  |qV id=>cases u<;>simp[jG]at h
  |nv pt id p ep=>
   obtain⟨v',rfl⟩:=zbw h
   rw[show(Ty.sl false v').zG=true from by simpa[Ty.B0]using hu]at qY;simp at qY
  |jS c=>exact za.elim
end Go.Kz
namespace Go.Kz
variable {R:Type}
def Vc(x:Nat):List (Option Nat)->Nat->Option Nat
 |[],_=>none
 |some y::l,i=>if y=x then some i else Vc x l (i+1)
 |none::l,i=>Vc x l (i+1)
theorem Vb{x:Nat}:{l:List (Option Nat)}->{k d:Nat}->(l.filterMap id).Nodup->zR l d=some (some x)->Vc x l k=some (k+d)
 |[],_,d,_,h=>by cases d<;>simp[zR]at h
 |none::l,k,d,hn,h=>by
  cases d with
  |zero=>simp[zR]at h
  |succ d=>
   simp only[Vc];rw[Vb (l:=l) (by simpa using hn) h]
   congr 1;omega
 |some y::l,k,0,_,h=>by
  simp only[zR,zI]at h
  simp[Vc,h]
 |some y::l,k,d+1,hn,h=>by
  have HS:y∉l.filterMap id/\(l.filterMap id).Nodup:=by simpa using hn
  have hm:some x∈l:=jo h;have vg:y≠x:=by
   intro he;subst he;exact HS.1 (Z4i.2 ⟨some y,hm,rfl⟩)
  simp only[Vc,qW vg];rw[Vb (l:=l) HS.2 h];congr 1;omega
def xp(g:z8)(mv:List (Option Nat)):z8 where
 tag:=λb=>match g.tag b with
  |.row i p=>(match Vc i mv 0 with
   |some j=>.row j p
   |none=>.zt)
  |.box _=>.zt
  |t=>t
 sv:=λj p=>match zR mv j with
  |some (some i)=>g.sv i p
  |_=>.slice none 0 0
 qp:=λ_=>0
theorem NN{w:World}{g:z8}{mv:List (Option Nat)}(hn:(mv.filterMap id).Nodup):Laid w g mv (xp g mv) 0:=by
 refine⟨⟨λb hb=>⟨by simp[xp,hb],rfl⟩⟩,λj i hj=>?_,λj hj=>by simp[xp,hj]⟩;have hx:=Vb (k:=0) hn hj;rw[QK]at hx⊢;exact⟨λq=>by simp[xp,hj],λq b hb=>⟨by simp[xp,hb,hx],rfl⟩⟩
theorem Az{w:World}{g:z8}{mv:List (Option Nat)}:Ext w g w (xp g mv):=by
 refine⟨rfl,rfl,rfl,yH _,yH _,λb _ ht=>⟨rfl,?_⟩⟩;rcases ht with ht|ht<;>simp[xp,ht]
theorem Es:(t:Ty)->(d:t.den)->(n:Nat)->(zw t d n).1.isAgg=t.sk.isAgg
 |.sl true t,l,n=>rfl
 |.sl false t,l,n=>rfl
 |.int _,_,_=>rfl
 |.bool,_,_=>rfl
 |.str,_,_=>rfl
 |.unit,_,_=>rfl
 |.arr _ _,_,_=>rfl
 |.ptr _,_,_=>rfl
 |.fn _ _,_,_=>rfl
 |.tree _,_,_=>rfl
 |.mp _,_,_=>rfl
 |.pair a b,(x,y),n=>by
  simp only[zw];cases (Ty.pair a b).zG<;>rfl
theorem Iw{w:World}{G:z8}{t:Ty}{d:t.den}{base:Nat}{cs:List Value}{v:Value}{agg:Bool}(h:Js w G (zw t d base) base cs)(hv:v=jh agg cs)(ha:agg=t.sk.isAgg)(O:qZ):
  zm w G O (zw t d base).1 v:=
 jz (h.ok O) (by rw[Es,hv,ha]) (pn t d base).1 (pn t d base).2.1
section
variable {n:Nat}{w:World}{a:Act}{g:z8}{J:St}{r:R}
def Jj:List Ty->Bool
 |[]=>true
 |t::ts=>t.B0&&Jj ts
def WH(tmps:Array Value):ResultVar->Sem Value
 |.tmp t=>pure (tmps.getD t undef)
 |.cell a t=>do loadVar t (<-asAddr (tmps.getD a undef))
theorem zau{x:z7}{v:Value}{f:z7->Option R}{r:R}(hh:yC w g J.z6)(ex:zm w g J.z6 x v)(h:Cf J x f=some r):
  ∃lv b off cc e fz,v=.pointer (some ⟨b,off,none⟩)/\w.heap[b]? = some (.cells cc e fz)/\off+lv.sk.size<=cc.size/\jM w g J.z6 lv (qS cc.toList off lv.sk.size)/\f lv=some r:=by
 unfold Cf at h;split at h
 ·rename_i t' d;simp only[zm]at ex;obtain⟨cs,⟨qY,b,off,cc,e,fz,rfl,zS,zZ,qG,zF⟩,hv⟩:=ex;exact⟨.data t' d,b,off,cc,e,fz,hv,zZ,by simpa[z7.sk,Ty.zW]using qG,⟨by simpa[Ty.zG]using qY,by simpa[z7.sk,Ty.zW]using zF⟩,h⟩
 ·rename_i id p ep;split at h
  ·simp at h
  ·rename_i s q;obtain⟨t0,l0,FP⟩:=xV h;simp only[zm]at ex;obtain⟨cs,⟨v,rfl,qc,hv⟩,jl⟩:=ex;obtain⟨hp,b0,j6,p8,gi⟩:=(hv _ _ _ FP).2 rfl;obtain⟨t1,l1,u1,e1,b,off,cc,ee,Cs,qY,hk,FV,ka,wu,zS,zZ,qG,zF⟩:=ue hh hp h;rw[FP]at Cs;simp only[zI,Obj.row.injEq]at Cs;obtain⟨rfl,_,_⟩:=Cs;rw[p8]at ka;simp only[zI,pv]at ka;obtain⟨rfl,rfl⟩:=ka;exact⟨.data u1 e1,b0,j6,cc,ee,(0,0),by rw[jl];exact gi,zZ,by simpa[z7.sk,Ty.zW]using qG,⟨FV,by simpa[z7.sk,Ty.zW]using zF⟩,hk⟩
 ·rename_i id p;obtain⟨xc,y,off,cc,e,zp,h2,jO,zZ,zS,hle,YS,hi⟩:=Zb hh h;simp only[zm]at ex;obtain⟨cs,⟨v,rfl,qc,hv⟩,jl⟩:=ex;obtain⟨VF,s,kJ,gi⟩:=hv _ zp;rw[jO]at kJ;simp only[zI,pv]at kJ;obtain⟨rfl,_⟩:=kJ;exact⟨y,g.qp id,off,cc,e,(0,0),by rw[jl];exact gi,zZ,hle,YS,h2⟩
 ·rename_i id p ep;obtain⟨t1,l1,e1,i1,zp,Br,zF,hk⟩:=ZG hh h;simp only[zm]at ex;obtain⟨cs,⟨v,rfl,qc,hv⟩,jl⟩:=ex;obtain⟨hp,b0,j6,p8,gi⟩:=((hv _ _ _ _ _ zp).2 Br).2 rfl
  cases p with
  |nil=>exact absurd rfl hp
  |cons s q=>
   obtain⟨u1,x1,bh,oh,ch,eh,ph,hk,ka,wu,_,zS,zZ,qG,hr⟩:=pM zF hk;rw[p8]at ka;simp only[zI,pv]at ka;obtain⟨rfl,rfl⟩:=ka
   cases qY:u1.zG with
   |true=>
    rw[qY]at hk
    exact⟨.data u1 x1,b0,j6,ch,eh,(0,0),by rw[jl];exact gi,zZ,by simpa[z7.sk,Ty.zW]using qG,⟨qY,by simpa[z7.sk,Ty.zW]using zN.yJ (o':=none) qY hr⟩,hk⟩
   |false=>
    rw[qY]at hk;simp only[zP]at hk;split at hk
    ·rename_i v1;obtain⟨ad,cp,pe,yZ,_⟩:=hr;refine⟨.nv false id (s::q) ep,b0,j6,ch,eh,(0,0),by rw[jl];exact gi,zZ,qG,⟨_,pe,rfl,λt2 l2 e2 i2 h2 yF=>?_⟩,hk⟩;rw[zp]at yF;simp only[zI,Obj.nest.injEq]at yF;obtain⟨rfl,_,rfl,rfl,_⟩:=yF;have Qe:i1=ep:=Br;exact⟨Z2i Qe.symm,λ_=>⟨λ_=>yZ.symm,λh=>(by simp at h)⟩⟩
    ·obtain⟨pe,hmp⟩:=hr;obtain⟨bb,yZ,_⟩:=hmp.val;refine⟨.nv false id (s::q) ep,b0,j6,ch,eh,(0,0),by rw[jl];exact gi,zZ,qG,⟨_,pe,by rw[yZ];rfl,λt2 l2 e2 i2 h2 yF=>?_⟩,hk⟩;rw[zp]at yF;simp only[zI,Obj.nest.injEq]at yF;obtain⟨rfl,_,rfl,rfl,_⟩:=yF;have Qe:i1=ep:=Br;exact⟨Z2i Qe.symm,λ_=>⟨λ_=>rfl,λh=>(by simp at h)⟩⟩
    ·simp at hk
 ·simp at h
theorem zh5{P:Program}{tt:Nat->Option Ty}(kA:p6 P tt){s:ResultVar}{f:z7->Option R}{r:R}(zj:zU n g w a J){t:Ty}
  (h:rvK tt J s (λav=>cond (av.val&&av.sk.same t.sk) (f av) none)=some r) :
  ∃av v cs,f av=some r/\(WH a.tmps s).run P w=.ok v w/\jM w g J.z6 av cs/\v=jh t.sk.isAgg cs:=by
 cases s with
 |tmp s=>
  simp only[rvK]at h;split at h
  ·rename_i av hs
   cases hb:(av.val&&av.sk.same t.sk) with
   |false=>rw[hb]at h;simp at h
   |true=>
    rw[hb]at h;simp only[zB]at h;simp only[zA]at hb;obtain⟨v,hv,za⟩:=zj.zk s av hs;obtain⟨wx,_,_,EJ⟩:=wI hb.1;obtain⟨cs,pe,Qs⟩:=kB za EJ;have hvg:a.tmps.getD s undef=v:=by rw[Z2g,hv];rfl
    exact⟨av,v,cs,h,by simp[WH,hvg],pe,by rw[Qs,wx,Sk.qQ hb.2]⟩
  ·simp at h
 |cell s T=>
  simp only[rvK]at h;split at h
  ·rename_i x u hs hu;have hT:=kA _ _ hu;obtain⟨v,hv,za⟩:=zj.zk s x hs;obtain⟨lv,b,off,cc,e,fz,hvp,zZ,hle,K4,h⟩:=zau zj.heap za h
   cases hc:u.sk.same lv.sk with
   |false=>rw[hc]at h;simp at h
   |true=>
    rw[hc]at h;simp only[zB]at h
    cases hb:(lv.val&&lv.sk.same t.sk) with
    |false=>rw[hb]at h;simp at h
    |true=>
     rw[hb]at h;simp only[zB]at h;simp only[zA]at hb;have ko:=Sk.qQ hc;have zyp:=Sk.qQ hb.2;have qG:u.size=lv.sk.size:=by rw[<-ko,Ty.zW]
     have ze:=Pk (P:=P) (w:=w) hT zZ (by rw[qG];exact hle);have hvg:a.tmps.getD s undef=v:=by rw[Z2g,hv];rfl
     refine⟨lv,jh u.sk.isAgg (qS cc.toList off u.size),_,h,?_,K4,?_⟩
     ·simp only[WH,hvg,hvp,asAddr,Sem.run_bind,Sem.run_pure,Result.andThen_ok];exact ze
     ·rw[qG,ko,zyp]
  ·simp at h
theorem Dl{P:Program}{tt:Nat->Option Ty}(kA:p6 P tt){t:Ty}{s:ResultVar}{k:t.den->St->Option R}(zj:zU n g w a J)(ht:t.B0=true)(h:rvK tt J s (λa=>cond (a.val&&a.sk.same t.sk) (jG 20 a t J k) none)=some r):
  ∃d J' g' mv v,k d J'=some r/\(WH a.tmps s).run P w=.ok v w/\zU n g' w a J'/\U1 g J.z6 g' J'.z6 mv/\(∀m,(zw t d m).2.length=mv.length)/\
   ∀G base,Laid w g' mv G base->(∀O,zm w G O (zw t d base).1 v)/\∀O j o,zR (zw t d base).2 j=some o->zn w G O (base+j) o:=by
 obtain⟨av,v,cs,h,ze,pe,Qs⟩:=zh5 kA zj h;obtain⟨d,J',g',mv,hk,h1,h2,h3,hl,he,_⟩:=Kv 20 zj.heap pe ht h;have qO:zU n g' w a J':=by
  refine⟨λi x hi=>?_,h3.heap zj.heap,zj.size,zj.defers,zj.known.kept (h3.ro w)⟩;rw[h1]at hi;obtain⟨u,hu,hx⟩:=zj.zk i x hi;exact⟨u,hu,zm.frame (h3.ro w) (λid _=>h3.kept (w:=w) id) hx⟩
 refine⟨d,J',g',mv,v,hk,ze,qO,h3,hl,λG base hL=>?_⟩;have hE:=he G base hL;exact⟨λO=>Iw hE Qs rfl O,hE.z6⟩
theorem H6{tt:Nat->Option Ty}{t:Ty}{rs:List ResultVar}{k:jD [t]->St->Option R}{r:R}(h:WL tt J [t] rs k=some r):
  ∃s,rs=[s]/\rvK tt J s (λa=>cond (a.val&&a.sk.same t.sk) (jG 20 a t J k) none)=some r:=by
 match rs,h with
 |[s],h=>exact⟨s,rfl,h⟩
 |[],h=>simp[WL]at h
 |_::_::_,h=>simp[WL]at h
theorem S0{tt:Nat->Option Ty}{t u:Ty}{ts:List Ty}{rs:List ResultVar}{k:jD (t::u::ts)->St->Option R}{r:R}(h:WL tt J (t::u::ts) rs k=some r):
  ∃s l,rs=s::l/\rvK tt J s (λa=>cond (a.val&&a.sk.same t.sk) (jG 20 a t J λd J=>WL tt J (u::ts) l λds J=>k (d,ds) J) none)=some r:=by
 match rs,h with
 |s::l,h=>exact⟨s,l,rfl,h⟩
 |[],h=>simp[WL]at h
def Reads(P:Program)(tmps:Array Value)(w:World):List ResultVar->List Value->Prop
 |[],[]=>True
 |s::l,v::vs=>(WH tmps s).run P w=.ok v w/\Reads P tmps w l vs
 |_,_=>False
theorem Nx{P:Program}{tt:Nat->Option Ty}(kA:p6 P tt):(ts:List Ty)->(rs:List ResultVar)->{g:z8}->{J:St}->{k:jD ts->St->Option R}->{r:R}->ts≠[]->zU n g w a J->Jj ts=true->WL tt J ts rs k=some r->
  ∃(d:jD ts) (J':St) (g':z8) (mv:List (Option Nat)) (vs:List Value),k d J'=some r/\Reads P a.tmps w rs vs/\vs.length=ts.length/\zU n g' w a J'/\U1 g J.z6 g' J'.z6 mv/\(∀m,(zQ.chain ts d m).2.length=mv.length)/\
   (∀G base,Laid w g' mv G base->(∀O,qx w G O (zQ.chain ts d base).1 vs)/\∀O j o,zR (zQ.chain ts d base).2 j=some o->zn w G O (base+j) o)
 |[],_,_,_,_,_,vg,_,_,_=>absurd rfl vg
 |[t],rs,g,J,k,r,_,zj,ht,h=>by
  simp only[Jj,Z42]at ht;obtain⟨s,rfl,h⟩:=H6 h;obtain⟨d,J',g',mv,v,hk,ze,qO,Bl,hl,he⟩:=Dl kA zj ht h;refine⟨d,J',g',mv,[v],hk,⟨ze,trivial⟩,rfl,qO,Bl,λm=>by simp only[zQ.chain];exact hl m,λG base hL=>?_⟩;obtain⟨h1,h2⟩:=he G base hL;simp only[zQ.chain];refine⟨λO=>?_,h2⟩;simp only[qx]
  exact⟨_,_,rfl,h1 O,rfl⟩
 |t::u::ts,rs,g,J,k,r,_,zj,ht,h=>by
  simp only[Jj,zA]at ht;obtain⟨s,l,rfl,h⟩:=S0 h;obtain⟨d,J1,g1,mv1,v,hk,ze,yN,zph,D4,he1⟩:=Dl kA zj ht.1 h;obtain⟨ds,J2,g2,mv2,vs,K6,hss,hlen,k9,zpg,D3,he2⟩:=Nx kA (u::ts) l (by simp) yN (by simp only[Jj,zA];exact ht.2) hk;refine⟨(d,ds),J2,g2,mv1++mv2,v::vs,K6,⟨ze,hss⟩,by simp[hlen],k9,zph.trans zpg,λm=>?_,λG base hL=>?_⟩
  ·simp only[zQ.chain,WQ,D4,D3]
  ·obtain⟨h1,h2⟩:=he1 G base (hL.left zpg (λi hi=>(zph.mv i hi).2));obtain⟨h3,h4⟩:=he2 G (base+mv1.length) hL.right;simp only[zQ.chain];rw[D4 base];refine⟨λO=>?_,λO j o hj=>?_⟩
   ·simp only[qx];exact⟨_,_,rfl,h1 O,h3 O⟩
   ·rw[kQ]at hj;split at hj
    ·exact h2 O j o hj
    ·rename_i Pm;rw[D4 base]at hj Pm;have:=h4 O _ o hj;rw[show base+mv1.length+(j-mv1.length)=base+j from by omega]at this;exact this
theorem Fs{P:Program}{tmps:Array Value}{w:World}:(rs:List ResultVar)->(vs:List Value)->Reads P tmps w rs vs->(rs.mapM (WH tmps)).run P w=.ok vs w
 |[],[],_=>by simp
 |s::l,v::vs,h=>by
  have ih:=Fs l vs h.2;rw[List.mapM_cons]
  simp only[Sem.run_bind,h.1,Result.andThen_ok,ih,Sem.run_pure]
 |[],_::_,h=>h.elim
 |_::_,[],h=>h.elim
def LJ:List Value->Value
 |[v]=>v
 |vs=>.tuple vs.toArray
theorem xM{P:Program}{fn:Func}(tmps:Array Value){w:World}{vs:List Value}(h:Reads P tmps w fn.results.toList vs):(results fn tmps).run P w=.ok (LJ vs) w:=by
 have e:results fn tmps=(do let vs <-fn.results.mapM (WH tmps);pure (if h:vs.size=1 then vs[0] else .tuple vs):Sem Value):=by
  unfold results;refine Jn (λf=>(Array.mapM f fn.results >>= λvs=>pure (if h:vs.size=1 then vs[0] else Value.tuple vs):Sem Value)) (funext λx=>?_);cases x<;>rfl
 have h1:=Fs _ _ h;have h2:(fn.results.mapM (WH tmps)).run P w=.ok vs.toArray w:=by
  rw[Array.mapM_eq_mapM_toList];rw[Sem.run_map,h1];rfl
 rw[e];simp only[Sem.run_bind,h2,Result.andThen_ok,Sem.run_pure]
 match vs with
 |[]=>simp[LJ]
 |[v]=>simp[LJ]
 |_::_::_=>simp[LJ]
theorem XA{O:List Obj}{mv:List (Option Nat)}{g':z8}(hh:∀b,g'.tag b≠.zt->b<w.heap.size)(ho:∀j o,zR O j=some o->zn w (xp g' mv) (zR O) (0+j) o):yC w (xp g' mv) (zR O):=by
 refine⟨λj o hj=>by have:=ho j o hj;rw[QK]at this;exact this,λb hb=>hh b (λh=>hb (by simp[xp,h]))⟩
theorem z15{P:Program}{tt:Nat->Option Ty}(kA:p6 P tt){fn:Func}{ts:List Ty}{r:jD ts}(zj:zU n g w a J)(ht:Jj ts=true)(h:WL tt J ts fn.results.toList (λr _=>some r)=some r):
  ∃v g',(results fn a.tmps).run P w=.ok v w/\Ext w g w g'/\Gv w g' (zQ ts r 0) v:=by
 match ts,r,ht,h with
 |[],r,_,h=>
  have hr:fn.results.toList=[]:=by
   generalize fn.results.toList=rs at h
   cases rs with
   |nil=>rfl
   |cons x l=>simp[WL]at h
  refine⟨.tuple #[],xp g [],xM a.tmps (vs:=[]) (by rw[hr];trivial),Az,XA zj.heap.tags (λj o hj=>by cases j<;>simp[zQ,zR]at hj),?_⟩;simp only[zQ,zm]
  exact⟨[],rfl,by simp[qx]⟩
 |[t],r,ht,h=>
  simp only[Jj,Z42]at ht;obtain⟨s,hrs,h⟩:=H6 h;obtain⟨d,J',g',mv,v,hk,ze,qO,Bl,AQ,he⟩:=Dl kA zj ht h;simp only[zI]at hk;subst hk;obtain⟨h1,h2⟩:=he (xp g' mv) 0 (NN Bl.nodup)
  exact⟨v,xp g' mv,xM a.tmps (vs:=[v]) (by rw[hrs];exact⟨ze,trivial⟩),Bl.ext.trans Az,XA qO.heap.tags (λj o hj=>h2 _ j o hj),h1 _⟩
 |t::u::ts,r,ht,h=>
  obtain⟨d,J',g',mv,vs,hk,hss,hlen,qO,Bl,AQ,he⟩:=Nx kA (t::u::ts) _ (by simp) zj ht h;simp only[zI]at hk;subst hk;obtain⟨h1,h2⟩:=he (xp g' mv) 0 (NN Bl.nodup);have ze:=xM a.tmps hss;refine⟨.tuple vs.toArray,xp g' mv,?_,Bl.ext.trans Az,XA qO.heap.tags (λj o hj=>?_),?_⟩
  ·match vs,hlen,ze with
   |_::_::_,_,ze=>exact ze
  ·exact h2 _ j o (by simpa[zQ,zQ.chain]using hj)
  ·simp only[zQ,zm];exact⟨_,rfl,by have:=h1 (zR (zQ (t::u::ts) d 0).2);simpa[zQ,zQ.chain]using this⟩
end
theorem PD{w:World}{g:z8}{z6:qZ}:(p:gg)->(d:p.den)->(i0:Nat)->{vals:List Value}->QP w g p d vals->∀i av,jK p d i0 i=some av->i0<=i/\∃v,vals[i-i0]? = some v/\zm w g z6 av v
 |.pr (.val t) q,(x,y),i0,v::vs,h,i,av,hi=>by
  obtain⟨qY,⟨cs,hr,hv⟩,pc⟩:=h;simp only[jK,GJ]at hi
  cases hb:Nat.beq i i0 with
  |true=>
   rw[hb]at hi;simp only[zB,zI]at hi;subst hi;have:=zE hb;subst this
   exact⟨yH _,v,by simp,cs,⟨qY,hr⟩,hv⟩
  |false=>
   rw[hb]at hi;obtain⟨h1,u,h2,h3⟩:=PD q y (i0+1) pc i av hi;refine⟨by omega,u,?_,h3⟩;have e:i-i0=(i-(i0+1))+1:=by omega
   rw[e];simpa using h2
 |.pr (.val t) q,(x,y),i0,[],h,i,av,hi=>h.elim
 |.un,_,_,_,_,_,_,hi=>by simp[jK]at hi
 |.val _,_,_,_,_,_,_,hi=>by simp[jK]at hi
 |.ref _,_,_,_,_,_,_,hi=>by simp[jK]at hi
 |.zq _,_,_,_,_,_,_,hi=>by simp[jK]at hi
 |.qP _ _,_,_,_,_,_,_,hi=>by simp[jK]at hi
 |.agg _,_,_,_,_,_,_,hi=>by simp[jK]at hi
 |.pr (.ref _) _,_,_,_,_,_,_,hi=>by simp[jK]at hi
 |.pr (.zq _) _,_,_,_,_,_,_,hi=>by simp[jK]at hi
 |.pr (.qP _ _) _,_,_,_,_,_,_,hi=>by simp[jK]at hi
 |.pr (.agg _) _,_,_,_,_,_,_,hi=>by simp[jK]at hi
 |.pr (.pr _ _) _,_,_,_,_,_,_,hi=>by simp[jK]at hi
 |.pr .un _,_,_,_,_,_,_,hi=>by simp[jK]at hi
def gg.len:gg->Nat
 |.pr _ q=>q.len+1
 |_=>0
theorem XU{w:World}{g:z8}:(p:gg)->(d:p.den)->{vals:List Value}->QP w g p d vals->vals.length=p.len
 |.pr (.val t) q,(x,y),v::vs,h=>by simp[gg.len,XU q y h.2.2]
 |.pr (.val t) q,(x,y),[],h=>h.elim
 |.un,_,[],_=>rfl
 |.un,_,_::_,h=>h.elim
 |.val _,_,_,h=>h.elim
 |.ref _,_,_,h=>h.elim
 |.zq _,_,_,h=>h.elim
 |.qP _ _,_,_,h=>h.elim
 |.agg _,_,_,h=>h.elim
 |.pr (.ref _) _,_,_,h=>h.elim
 |.pr (.zq _) _,_,_,h=>h.elim
 |.pr (.qP _ _) _,_,_,h=>h.elim
 |.pr (.agg _) _,_,_,h=>h.elim
 |.pr (.pr _ _) _,_,_,h=>h.elim
 |.pr .un _,_,_,h=>h.elim
theorem Iu{w:World}{g:z8}{p:gg}{d:p.den}{vals:List Value}{n:Nat}(ht:∀b,g.tag b≠.zt->g.tag b=.ro/\b<w.heap.size)(D5:Known w g)(h:QP w g p d vals)(hn:p.len<=n):
  zU n g w { tmps:=vals.toArray++Array.replicate (n-vals.toArray.size) undef,defers:=[] } (entry p d)/\qF g (entry p d):=by
 have hl:=XU p d h;refine⟨⟨λi av hi=>?_,⟨λid o ho=>by simp[entry]at ho,λb hb=>(ht b hb).2⟩,by simp[hl];omega,rfl,D5⟩,λm _=>⟨rfl,λb p hb=>?_,λb hb=>?_,λi av hi=>?_,λid av ho=>by simp[entry]at ho⟩⟩
 ·obtain⟨_,v,h1,h2⟩:=PD (z6:=(entry p d).z6) p d 0 h i av hi;rw[Z4h]at h1;refine⟨v,?_,h2⟩;have qk:=(Z32.1 h1).1;rw[Z43 (by simpa using qk)];simpa using h1
 ·have:=(ht b (by rw[hb];simp)).1;rw[hb]at this;simp at this
 ·have:=(ht b (by rw[hb];simp)).1;rw[hb]at this;simp at this
 ·have key:∀(p:gg)(d:p.den)(i0:Nat)(i:Nat)(av:z7),jK p d i0 i=some av->av.ids=[]:=by
   intro p
   induction p with
   |pr a q iha ihq=>
    cases a with
    |val t=>
     intro d i0 i av hi;obtain⟨x,y⟩:=d;simp only[jK,GJ]at hi
     cases hb:Nat.beq i i0 with
     |true=>rw[hb]at hi;simp only[zB,zI]at hi;subst hi;rfl
     |false=>rw[hb]at hi;exact ihq y _ i av hi
    |_=>intro d i0 i av hi;simp[jK]at hi
   |_=>intro d i0 i av hi;simp[jK]at hi
  rw[key p d 0 i av hi];simp
theorem zr7{P:Program}{f:Nat}{fn:Func}{body:Code}{c:Ctx}{p:gg}{ts:List Ty}{F:p.den->Option (jD ts)}(hf:P.funcs[f]? = some fn)(hb:fn.body=some body)(Zq:(fn.name == "runtime.NumGoroutine")=false)
  (hc:xP P c) (hm:P.follows .mixedOrders=true) (hn:c.ntmps=fn.ntmps) (hp:p.len<=fn.ntmps) (ht:Jj ts=true) (hl:ts.length<=6)
  (Vh:∀b∈yR body,QU c b) (heq:∀d,z61 c ts fn.results.toList body (entry p d)=F d):qL P f (.pure p ts F):=by
 intro w g d vals r zS D5 hargs hF;left;refine⟨?_,?_⟩
 ·have Mj:¬fn.name = "runtime.NumGoroutine" := by simpa using Zq
  simp[callFunc,hf,hb,Mj]
 rw[<-heq]at hF;obtain⟨zj,vO⟩:=Iu zS D5 hargs hp;rw[<-hn]at zj;refine calls_of_wp hf hb ?_;rw[<-hn];refine k7 hc hm body Vh (Q:=bodyPost P fn _) (λch a w h=>?_) hF zj vO ?_
 ·obtain⟨_,v,h,_⟩:=h;cases h
 ·intro e J' g' a' w' hk qO pj K7 _;have fin:∀{J':St},norm c.res J' (λJ=>WL c.tt J ts fn.results.toList λr _=>some r)=some r->zU c.ntmps g' w' a' J'->qF g' J'->
    ∃v,(results fn a'.tmps).run P w'=.ok v w'/\∃g',Ext w g w' g'/\Gv w' g' (zQ ts r 0) v:=by
   intro J' hk qO K7;obtain⟨J1,g1,h1,yN,yA,_⟩:=JF qO K7 hk;obtain⟨v,g2,hr,wF,Ve⟩:=z15 (P:=P) hc.tt yN ht h1;exact⟨v,hr,g2,(pj.trans yA).trans wF,Ve⟩
  cases e with
  |exit id=>simp at hk
  |normal=>
   obtain⟨v,h1,h2⟩:=fin hk qO K7
   exact⟨qO.defers,v,h1,v,rfl,h2⟩
  |ret=>
   obtain⟨v,h1,h2⟩:=fin hk qO K7;exact⟨qO.defers,v,h1,v,rfl,h2⟩
end Go.Kz
namespace Go.Kz
variable {R:Type}
def Ch:List (Nat×zH)->List Nat
 |[]=>[]
 |(i,_)::l=>i::Ch l
theorem Zn:(l:List (Nat×zH))->(d:Zp l)->(vR l d).map Prod.fst=Ch l
 |[],_=>rfl
 |(i,p)::l,d=>by simp only[vR,PE,Ch,Zn l]
theorem I1{I:Type}:{l:List (Nat×I)}->{i:Nat}->{x:I}->(l.map Prod.fst).Nodup->(i,x)∈l->yO l i=some x
 |[],_,_,_,h=>by simp at h
 |(j,y)::l,i,x,hn,h=>by
  simp only[PE,Z2e]at hn;simp only[yO];rcases pF.1 h with h|h
  ·simp only[pv]at h;rw[<-h.1,Mt,<-h.2];rfl
  ·have vg:Nat.beq j i=false:=by
    cases hb:Nat.beq j i with
    |false=>rfl
    |true=>
     exfalso;apply hn.1;rw[zE hb];exact Z22.2 ⟨_,h,rfl⟩
   rw[vg];exact I1 hn.2 h
theorem P5{I Z:Type}(f:I->Z):(n:Nat)->(l:List I)->(gD n l).map f=gD n (l.map f)
 |0,_=>rfl
 |_+1,[]=>rfl
 |n+1,_::l=>by simp only[gD,PE,P5 f n l]
theorem Dk{I:Type}:(n:Nat)->(l:List I)->∀x∈gD n l,x∈l
 |0,_,x,h=>h
 |_+1,[],x,h=>h
 |n+1,a::l,x,h=>TX _ (Dk n l x h)
theorem Dg{I:Type}:(l m:List I)->gD l.length (l++m)=m
 |[],m=>rfl
 |a::l,m=>Dg l m
theorem IG{w:World}{g:z8}{O:qZ}{tmps:Array Value}:(l:List (Nat×z7))->(∀x∈l,zm w g O x.2 (tmps.getD x.1 undef))->
  qx w g O (vw (l.map Prod.snd)) (l.map λx=>tmps.getD x.1 undef)
 |[],_=>by simp[vw,qx]
 |x::l,h=>by
  simp only[PE,vw,qx];exact⟨_,_,rfl,h x (by simp),IG l λy hy=>h y (by simp[hy])⟩
theorem zh7{w:World}{g:z8}{O:qZ}{tmps:Array Value}(l:List (Nat×z7))(h:∀x∈l,zm w g O x.2 (tmps.getD x.1 undef)):
  zm w g O (gJ (l.map Prod.snd)) (LJ (l.map λx=>tmps.getD x.1 undef)):=by
 have hc:=IG l h
 match l,h,hc with
 |[],_,hc=>simp only[Z3c,gJ,LJ,zm];exact⟨_,rfl,hc⟩
 |[x],h,_=>exact h x (by simp)
 |x::y::l,_,hc=>
  show zm w g O (.jS (vw ((x::y::l).map Prod.snd))) (.tuple ((x::y::l).map λx=>tmps.getD x.1 undef).toArray);simp only[zm];exact⟨_,rfl,hc⟩
theorem XF{P:Program}{tmps:Array Value}{w:World}:(rs:List Nat)->Reads P tmps w (rs.map ResultVar.tmp) (rs.map λt=>tmps.getD t undef)
 |[]=>trivial
 |t::rs=>by
  simp only[PE];refine⟨?_,XF rs⟩;simp[WH]
def ID(n:Nat)(b:Code):List Nat->Bool
 |[]=>true
 |i::l=>Nat.blt i n && !wrote i b&&ID n b l
theorem IC{n:Nat}{b:Code}:{l:List Nat}->ID n b l=true->∀i∈l,i<n/\wrote i b=false
 |[],_,i,h=>by simp at h
 |j::l,hb,i,h=>by
  simp only[ID,zA,U0]at hb;rcases pF.1 h with rfl|h
  ·exact⟨zL hb.1.1,hb.1.2⟩
  ·exact IC hb.2 i h
theorem SN{P:Program}{f:Nat}{fn:Func}{body:Code}{c:Ctx}{fin zr:wg}{js rs:List Nat}{F:fin.den->Option zr.den}(hf:P.funcs[f]? = some fn)(hb:fn.body=some body)(Zq:(fn.name == "runtime.NumGoroutine")=false)
  (hc:xP P c) (hm:P.follows .mixedOrders=true) (hn:c.ntmps=fn.ntmps) (hp:fin.zk.length<=fn.ntmps) (hk:Ch zr.zk=js++rs) (hnd:YU (js++rs)=true) (hrs:fn.results.toList=rs.map ResultVar.tmp)
  (Qn:∀i∈js,i<fin.zk.length/\wrote i body=false)
  (Vh:∀b∈yR body,QU c b) (heq:∀d:fin.den,z5z c zr body (St.of (vR fin.zk d.1) (wC fin.z6 d.2))=F d):qL P f (.mut fin js zr F):=by
 intro w g d vals r Au zj z43 hF;left;refine⟨?_,?_⟩
 ·have Mj:¬fn.name = "runtime.NumGoroutine" := by simpa using Zq
  simp[callFunc,hf,hb,Mj]
 rw[<-heq]at hF;refine calls_of_wp hf hb ?_;have Pc:zU c.ntmps g w { tmps:=vals.toArray++Array.replicate (fn.ntmps-vals.toArray.size) undef,defers:=[] } (St.of (vR fin.zk d.1) (wC fin.z6 d.2)):=by
  refine⟨λi av hi=>?_,zj.heap,by simp;omega,rfl,zj.known⟩;obtain⟨v,h1,h2⟩:=zj.zk i av hi;refine⟨v,?_,h2⟩;have qk:i<vals.toArray.size:=(Z26.1 h1).1;rw[Z43 qk];exact h1
 have vO:qF g (St.of (vR fin.zk d.1) (wC fin.z6 d.2)):=by
  intro m hm;refine z43 m ?_;have:(wC fin.z6 d.2).length<=m:=hm
  rwa [WN]at this
 refine k7 hc hm body Vh (Q:=bodyPost P fn _) (λch a w h=>?_) hF Pc vO ?_
 ·obtain⟨_,v,h,_⟩:=h;cases h
 ·intro e J' g' a' w' K6 qO pj K7 hkp;have fin:∀{J':St},Pu c.res J' (λsl os=>zr.take sl os some)=some r->zU c.ntmps g' w' a' J'->qF g' J'->
    ∃v,(results fn a'.tmps).run P w'=.ok v w'/\∃g',Ext w g w' g'/\yC w' g' (zR (wC zr.z6 r.2))/\
    (∀k i av,zR js k=some i->zR ((vR zr.zk r.1).map Prod.snd) k=some av->∃u,vals[i]? = some u/\zm w' g' (zR (wC zr.z6 r.2)) av u)/\
    zm w' g' (zR (wC zr.z6 r.2)) (gJ (gD js.length ((vR zr.zk r.1).map Prod.snd))) v:=by
   intro J' K6 qO K7;obtain⟨sl,os,g1,h1,yN,yA,_⟩:=Wd qO K7 K6;obtain⟨r1,h2,h3⟩:=Y6 zr.zk h1;obtain⟨r2,h4,h5⟩:=xO zr.z6 h3;simp only[zI]at h5;subst h5;subst h2;subst h4;have D5:((vR zr.zk r1).map Prod.fst).Nodup:=by rw[Zn,hk];exact GL hnd
   have hv:∀x∈vR zr.zk r1,∃v,a'.tmps[x.1]? = some v/\zm w' g1 (zR (wC zr.z6 r2)) x.2 v:=λx hx=>yN.zk x.1 x.2 (I1 D5 hx)
   have hvd:∀x∈vR zr.zk r1,zm w' g1 (zR (wC zr.z6 r2)) x.2 (a'.tmps.getD x.1 undef):=by
    intro x hx;obtain⟨v,q1,q2⟩:=hv x hx;have:a'.tmps.getD x.1 undef=v:=by rw[Z2g,q1];rfl
    rw[this];exact q2
   have zqr:(gD js.length (vR zr.zk r1)).map Prod.fst=rs:=by
    rw[P5,Zn,hk,Dg]
   refine⟨LJ (rs.map λt=>a'.tmps.getD t undef),xM a'.tmps (by rw[hrs];exact XF rs),g1,pj.trans yA,yN.heap,λk i av hki hkv=>?_,?_⟩
   ·have z3x:(vR zr.zk r1)[k]? = some (i,av):=by
     rw[uI,Z2d,wO]at hkv;obtain⟨x,hx,rfl⟩:=hkv;have h6:((vR zr.zk r1).map Prod.fst)[k]? = some x.1:=by rw[Z2d,hx];rfl
     have qk:k<js.length:=wa hki;rw[Zn,hk,Z4f qk,<-uI,hki]at h6;simp only[zI]at h6;rw[hx,h6]
    obtain⟨v,q1,q2⟩:=hv _ (Z5a z3x);obtain⟨qk,Ct⟩:=Qn i (jo hki);refine⟨v,?_,q2⟩;have h7:=hkp i Ct;rw[q1]at h7;have zzi:i<vals.toArray.size:=by simp[Au];exact qk
    rw[Z43 zzi]at h7;simpa using h7.symm
   ·rw[<-P5];have:=zh7 (gD js.length (vR zr.zk r1)) (λx hx=>hvd x (Dk _ _ x hx));have e:(gD js.length (vR zr.zk r1)).map (λx=>a'.tmps.getD x.1 undef)=rs.map λt=>a'.tmps.getD t undef:=by
     rw[<-zqr,List.map_map];rfl
    rw[e]at this;exact this
  cases e with
  |exit id=>simp at K6
  |normal=>
   obtain⟨v,h1,h2⟩:=fin K6 qO K7
   exact⟨qO.defers,v,h1,v,rfl,h2⟩
  |ret=>
   obtain⟨v,h1,h2⟩:=fin K6 qO K7;exact⟨qO.defers,v,h1,v,rfl,h2⟩
end Go.Kz
namespace Go.Kz
variable {R:Type}
def iter{I:Type}(Body:(I->Option R)->I->Option R):Nat->I->Option R
 |0,_=>none
 |n+1,x=>Body (iter Body n) x
def NR(c:Ctx)(r:Nat)(lv:Cut)(kb:List (Nat×z7)->List Obj->Option R)(k:vN->St->Option R):vN->St->Option R
 |.normal,J=>Pu lv J kb
 |e,J=>YH c r k e J
theorem NI{c:Ctx}{b:Code}{r:Nat}{lv:Cut}{I:Type}{st:I->List (Nat×z7)×List Obj}{k:vN->St->Option R}{Body:(I->Option R)->I->Option R}
  (zf7:∀(kb:List (Nat×z7)->List Obj->Option R) (x:I),vD c b (St.of (st x).1 (st x).2) (NR c r lv kb k)=Body (λy=>kb (st y).1 (st y).2) x) :
  ∀(n:Nat)(x:I),YB (vD c b) lv n (st x).1 (st x).2 (YH c r k)=iter Body n x
 |0,x=>rfl
 |n+1,x=>by
  have e:(λe J=>match e with
    |.normal=>Pu lv J λsl os=>YB (vD c b) lv n sl os (YH c r k)
    |e=>YH c r k e J)=NR c r lv (λsl os=>YB (vD c b) lv n sl os (YH c r k)) k:=by
   funext e J;cases e<;>rfl
  have h:=zf7 (λsl os=>YB (vD c b) lv n sl os (YH c r k)) x;simp only[YB,iter];refine(Jn (vD c b (St.of (st x).1 (st x).2)) e).trans (h.trans ?_);congr 1;funext y;exact NI zf7 n y
theorem zas{c:Ctx}{b:Code}{r:Nat}{lv:Cut}{f:wg}(F:(R:Type)->f.den->(vN->St->Option R)->Option R)(hr:yT b=some r)(hlv:c.cut r=some lv)
  (hL:c.lp r=some λR sl os k=>f.take sl os λd=>F R d k)
  (h:∀(R:Type)(k:vN->St->Option R)(d:f.den),YB (vD c b) lv c.fuel (vR f.zk d.1) (wC f.z6 d.2) (YH c r k)=F R d k):QU c b:=by
 intro r' lv' L PQ zix hL' R sl os k x hx;rw[hr]at PQ;simp only[zI]at PQ;subst PQ;rw[hlv]at zix;simp only[zI]at zix;subst zix;rw[hL]at hL';simp only[zI]at hL';subst hL';replace hx:=Y6 f.zk hx;obtain⟨d,rfl,hx⟩:=hx;replace hx:=xO f.z6 hx;obtain⟨e,rfl,hx⟩:=hx;rw[h R k (d,e)];exact hx
theorem Ul{P:Program}:BA P λf=>((yO ([]:List (Nat×List Callee)) f).getD []):=by
 intro f c h;simp[yO]at h
def zhw(P:Program)(kt:Ty)(K:TypeId):Bool:=FJ P kt K&&(jU kt||zd6 P [K])
theorem zay{P:Program}{kt:Ty}{K:TypeId}(h:zhw P kt K=true):Rv P kt K:=by
 simp only[zhw,zA,FX]at h;refine⟨tyB_ok h.1,λhk=>?_⟩;rcases h.2 with h2|h2
 ·rw[hk]at h2;simp at h2
 ·obtain⟨h3,_,h4⟩:=F1 h2 K (by simp[j8]);exact⟨h3,h4⟩
def mtB(P:Program):List (Nat×Ty×Ty)->Bool
 |[]=>true
 |(T,kt,vt)::l=>(match P.underlying T with
  |some (.map K E)=>zhw P kt K&&FJ P vt E&&(match P.info? E with
   |some i=>(match i.zero with
    |some z=>(match vt.sk.isAgg,z with
     |true,.agg _=>true
     |false,.int _ _=>true
     |false,.bool _=>true
     |false,.string _=>true
     |_,_=>false)
    |none=>false)
   |none=>false)
  |_=>false)&&mtB P l
theorem z2a{P:Program}:{l:List (Nat×Ty×Ty)}->mtB P l=true->C9 P (yO l)
 |[],_,_,_,_,h=>by simp[yO]at h
 |(T,kt,vt)::l,hb,T',Ay,X6,h=>by
  simp only[mtB,zA]at hb;simp only[yO]at h
  cases he:Nat.beq T T' with
  |false=>rw[he]at h;exact z2a hb.2 T' Ay X6 h
  |true=>
   rw[he]at h;simp only[zB,zI,pv]at h;obtain⟨rfl,rfl⟩:=h;obtain rfl:=zE he;have h1:=hb.1;split at h1
   ·rename_i K E hu;simp only[zA]at h1;refine⟨K,E,hu,zay h1.1.1,tyB_ok h1.1.2,?_⟩;have h2:=h1.2;split at h2
    ·rename_i i hi;split at h2
     ·rename_i z hz;refine⟨i,z,hi,hz,?_⟩;split at h2
      ·rename_i wx;rw[wx];simp[jh,Value.cells]
      ·rename_i wx;rw[wx];simp[jh,Value.cells]
      ·rename_i wx;rw[wx];simp[jh,Value.cells]
      ·rename_i wx;rw[wx];simp[jh,Value.cells]
      ·simp at h2
     ·simp at h2
    ·simp at h2
   ·simp at h1
@[reducible] def wi8 (n:Int):Int:=IntKind.i8.wrap n
@[reducible] def wi16 (n:Int):Int:=IntKind.i16.wrap n
@[reducible] def wi32 (n:Int):Int:=IntKind.i32.wrap n
@[reducible] def zz (n:Int):Int:=IntKind.i64.wrap n
@[reducible] def wu8 (n:Int):Int:=IntKind.u8.wrap n
@[reducible] def wu16 (n:Int):Int:=IntKind.u16.wrap n
@[reducible] def wu32 (n:Int):Int:=IntKind.u32.wrap n
@[reducible] def wu64 (n:Int):Int:=IntKind.u64.wrap n
@[reducible] def len {I:Type} (l:List I):Int:=(l.length:Int)
inductive JZ (p:Code->Prop):List Code->Prop
 |nil:JZ p []
 |cons {b:Code}{l:List Code} (h:p b) (t:JZ p l):JZ p (b::l)
theorem JZ.mem{p:Code->Prop}{l:List Code}(h:JZ p l):∀b∈l,p b:=by
 induction h with
 |nil=>intro b hb;simp at hb
 |cons h t ih=>
  intro b hb;rcases pF.1 hb with rfl|hb
  ·exact h
  ·exact ih b hb
structure LF (f:wg) where
 I:Type
 var:f.den->I
 put:f.den->I->f.den
 go:(R:Type)->f.den->(vN->St->Option R)->(I->Option R)->I->Option R
def LF.fn{f:wg}(l:LF f)(N:Nat):BU:=λR sl os k=>f.take sl os λd=>iter (l.go R d k) N (l.var d)
def LF.st{f:wg}(l:LF f)(d:f.den)(x:l.I):List (Nat×z7)×List Obj:=(vR f.zk (l.put d x).1,wC f.z6 (l.put d x).2)
def R2(c:Ctx)(r:Nat):Cut:=(c.cut r).getD ⟨[],[]⟩
structure KE (P:Program) where
 f:Nat
 c:Callee
 ok:qL P f c
def kE{P:Program}{f:Nat}{c:Callee}(h:qL P f c):KE P:=⟨f,c,h⟩
def Se{P:Program}:List (KE P)->Nat->List Callee
 |[],_=>[]
 |e::l,f=>cond (Nat.beq e.f f) (e.c::Se l f) (Se l f)
theorem F2{P:Program}:∀l:List (KE P),BA P (Se l)
 |[],f,c,h=>by simp[Se]at h
 |e::l,f,c,h=>by
  simp only[Se]at h
  cases hb:Nat.beq e.f f with
  |true=>
   rw[hb]at h;rcases pF.1 h with rfl|h
   ·have:=zE hb;subst this;exact e.ok
   ·exact F2 l f c h
  |false=>rw[hb]at h;exact F2 l f c h
def zfo:List (Nat×BU)->Nat->Option BU
 |[],_=>none
 |(i,v)::l,j=>cond (Nat.beq i j) (some v) (zfo l j)
def KX(P:Program):Type 1:={ c:Ctx // xP P c }
def HJ:List Code->List Nat->Bool
 |[],[]=>true
 |b::l,r::rs=>(match yT b with
  |some r'=>Nat.beq r r'
  |none=>false) && !j8 r rs&&HJ l rs
 |_,_=>false
theorem Gb:∀{l:List Code}{rs:List Nat},HJ l rs=true->∀b∈l,∃r∈rs,b=xg r l
 |[],_,_,b,hb=>by simp at hb
 |c::l,[],h,_,_=>by simp[HJ]at h
 |c::l,r::rs,h,b,hb=>by
  simp only[HJ,zA]at h;obtain⟨⟨h1,h2⟩,h3⟩:=h;split at h1
  ·rename_i r' hr;obtain rfl:=zE h1;rcases pF.1 hb with rfl|hb
   ·exact⟨r,Z2v ..,by simp[xg,hr]⟩
   ·obtain⟨q,hq,e⟩:=Gb h3 b hb;refine⟨q,TX _ hq,?_⟩;have:Nat.beq q r=false:=by
     cases hqr:Nat.beq q r with
     |false=>rfl
     |true=>
      obtain rfl:=zE hqr;have:=je.2 hq;rw[this]at h2;simp at h2
    simp only[xg,hr,this,zP];exact e
  ·simp at h1
def bOf(fn:Func):Code:=fn.body.getD .skip
inductive V9 (c:Ctx) (fn:Func):List Nat->Prop
 |nil:V9 c fn []
 |cons {r:Nat}{l:List Nat} (h:QU c (xg r (yR (bOf fn)))) (t:V9 c fn l):V9 c fn (r::l)
theorem V9.lf{c:Ctx}{fn:Func}{rs:List Nat}{f:wg}(r:Nat)(l:LF f)(h0:(yT (xg r (yR (bOf fn))),c.cut r,c.lp r)=(some r,some (R2 c r),some (l.fn c.fuel)))(hp:∀d,l.put d (l.var d)=d)
  (h:∀(R:Type) (k:vN->St->Option R) (d:f.den) (kb:List (Nat×z7)->List Obj->Option R) (x:l.I),
   vD c (xg r (yR (bOf fn))) (St.of (l.st d x).1 (l.st d x).2) (NR c r (R2 c r) kb k)=l.go R d k (λy=>kb (l.st d y).1 (l.st d y).2) x) (t:V9 c fn rs):V9 c fn (r::rs):=by
 refine .cons ?_ t;simp only[pv]at h0;refine zas (λR d k=>iter (l.go R d k) c.fuel (l.var d)) h0.1 h0.2.1 h0.2.2 λR k d=>?_
 have:=NI (st:=l.st d) (h R k d) c.fuel (l.var d);simp only[LF.st,hp]at this;exact this
theorem V9.ok{c:Ctx}{fn:Func}{rs:List Nat}(h:V9 c fn rs):∀r∈rs,QU c (xg r (yR (bOf fn))):=by
 induction h with
 |nil=>intro r hr;simp at hr
 |cons h t ih=>
  intro r hr;rcases pF.1 hr with rfl|hr
  ·exact h
  ·exact ih r hr
def fnB(P:Program)(fn:Func)(c:Ctx)(rs:List Nat): Bool := P.follows .mixedOrders && !(fn.name == "runtime.NumGoroutine")&&Nat.beq c.ntmps fn.ntmps&&fn.body.isSome&&HJ (yR (bOf fn)) rs
theorem I3{fn:Func}(h:fn.body.isSome=true):fn.body=some (bOf fn):=by
 unfold bOf
 cases hb:fn.body with
 |none=>rw[hb]at h;simp at h
 |some b=>rfl
theorem z4s{P:Program}{f:Nat}{fn:Func}{p:gg}{ts:List Ty}{F:p.den->Option (jD ts)}(c:KX P){rs:List Nat}(hf:P.funcs[f]? = some fn)
  (hB:(fnB P fn c.1 rs&&Nat.ble p.len fn.ntmps&&Jj ts&&Nat.ble ts.length 6)=true) (Vh:V9 c.1 fn rs)
  (heq:∀d,z61 c.1 ts fn.results.toList (bOf fn) (entry p d)=F d):qL P f (.pure p ts F):=by
 simp only[fnB,zA]at hB;obtain⟨⟨⟨⟨⟨⟨⟨h1,h2⟩,h3⟩,h4⟩,h5⟩,h6⟩,h7⟩,h8⟩:=hB;exact zr7 hf (I3 h4) (by simpa using h2) c.2 h1 (zE h3) (zL h6) h7 (zL h8)
  (λb hb=>by
   obtain⟨r,hr,e⟩:=Gb h5 b hb;rw[e];exact Vh.ok r hr) heq
def Pj:List ResultVar->List Nat->Bool
 |[],[]=>true
 |.tmp i::l,j::m=>Nat.beq i j&&Pj l m
 |_,_=>false
theorem FN:∀{l:List ResultVar}{m:List Nat},Pj l m=true->l=m.map ResultVar.tmp
 |[],[],_=>rfl
 |.tmp i::l,j::m,h=>by
  simp only[Pj,zA]at h
  rw[zE h.1,FN h.2];rfl
 |[],_::_,h=>by simp[Pj]at h
 |.cell _ _::_,_,h=>by simp[Pj]at h
 |.tmp _::_,[],h=>by simp[Pj]at h
def Q0:List ResultVar->List Nat
 |.tmp i::l=>i::Q0 l
 |_=>[]
def Xr:List Nat->List Nat->Bool
 |[],[]=>true
 |a::l,b::m=>Nat.beq a b&&Xr l m
 |_,_=>false
theorem HP:∀{l m:List Nat},Xr l m=true->l=m
 |[],[],_=>rfl
 |a::l,b::m,h=>by
  simp only[Xr,zA]at h
  rw[zE h.1,HP h.2]
 |[],_::_,h=>by simp[Xr]at h
 |_::_,[],h=>by simp[Xr]at h
theorem SI{P:Program}{f:Nat}{fn:Func}{fin zr:wg}{js:List Nat}{F:fin.den->Option zr.den}(c:KX P){rs:List Nat}(hf:P.funcs[f]? = some fn)
  (hB:(fnB P fn c.1 rs&&Nat.ble fin.zk.length fn.ntmps&&Xr (Ch zr.zk) (js++Q0 fn.results.toList)&&YU (js++Q0 fn.results.toList)&&Pj fn.results.toList (Q0 fn.results.toList)&&ID fin.zk.length (bOf fn) js)=true) (Vh:V9 c.1 fn rs)
  (heq:∀d:fin.den,z5z c.1 zr (bOf fn) (St.of (vR fin.zk d.1) (wC fin.z6 d.2))=F d):qL P f (.mut fin js zr F):=by
 simp only[fnB,zA]at hB;obtain⟨⟨⟨⟨⟨⟨⟨⟨⟨h1,h2⟩,h3⟩,h4⟩,h5⟩,h6⟩,h7⟩,h8⟩,h9⟩,hA⟩:=hB;exact SN hf (I3 h4) (by simpa using h2) c.2 h1 (zE h3) (zL h6) (HP h7) h8 (FN h9) (IC hA)
  (λb hb=>by
   obtain⟨r,hr,e⟩:=Gb h5 b hb;rw[e];exact Vh.ok r hr) heq
theorem qK{P:Program}{f:Nat}{T:Type}{C:T->Callee}{z:T}{s:T->T}(h0:qL P f (C z))(hs:∀r,qL P f (C r)->qL P f (C (s r))):∀M:Nat,qL P f (C (Nat.rec (motive:=λ_=>T) z (λ_ r=>s r) M))
 |0=>h0
 |M+1=>hs _ (qK h0 hs M)
end Go.Kz
namespace Go.Kz
def wholeG(w:World):z8:=⟨λb=>if b<w.heap.size then .ro else .zt,λ_ _=>undef,λ_=>0⟩
theorem VU{w:World}{b:Nat}(h:b<w.heap.size):(wholeG w).tag b=.ro:=by simp[wholeG,h]
theorem Jy{I:Type}{p:Nat->I->Prop}:(n:Nat)->(∀i,i<n->∃x,p i x)->∃l:List I,l.length=n/\∀(i:Nat)(h:i<l.length),p i (l.get ⟨i,h⟩)
 |0,_=>⟨[],rfl,λi h=>by simp at h⟩
 |n+1,h=>by
  obtain⟨x,hx⟩:=h 0 (by omega);obtain⟨l,hl,hp⟩:=Jy (p:=λi=>p (i+1)) n (λi hi=>h (i+1) (by omega));refine⟨x::l,by simp[hl],λi hi=>?_⟩
  cases i with
  |zero=>exact hx
  |succ i=>exact hp i (by simpa using hi)
theorem j4.cellsOf{P:Program}{T:TypeId}{t:Ty}(h:j4 P T t):P.cellsOf T=t.size/\0<t.size:=by
 obtain⟨i,z,h1,h2,_,_,_,h3⟩:=h.info;simp[Program.cellsOf,h1,h2];omega
section
variable {H:Type}{enc:TypeId×Value->H}{P:Program}{w:World}{base:Nat}{spare:Nat->Bool}{held:Bool}
theorem PX{b off n:Nat}{cs:List Value}{c:Array Value}{e:TypeId}{fz:Nat×Nat}(hl:cs.length=n)(hc:∀j,j<n->w.cell? ⟨b,off+j,none⟩=cs[j]?)(hb:w.heap[b]? = some (.cells c e fz))(hn:0<n):
  off+n<=c.size/\qS c.toList off n=cs:=by
 have zZ:∀j,j<n->c[off+j]? = cs[j]? := λj hj=>by
  have:=hc j hj;simpa[World.cell?,hb]using this
 have hle:off+n<=c.size:=by
  have h1:=zZ (n-1) (by omega);have h2:cs[n-1]?≠none:=by simp;omega
  rw[<-h1]at h2;simp at h2;omega
 refine⟨hle,?_⟩;apply Z2o;intro j;by_cases hj:j<n
 ·rw[<-zZ j hj];simp[qS,Z39,hj]
 ·rw[Z3i (by rw[yS (by simpa using hle)];omega),Z3i (by rw[hl];omega)]
def N3(enc:TypeId×Value->H)(P:Program)(w:World)(base:Nat)(spare:Nat->Bool)(held:Bool)(m:Nat):Prop:=∀(k:Nat)(T:TypeId)(cs:List Value)(x:DataW H×List MemPlace),
 qv P (.tree k) T->DataW.trod enc P w base spare held m T cs=some x->∃d,zN w (wholeG w) none (.tree k) d cs
mutual
theorem WO{N:Nat}(hF:∀m,m<=N->N3 enc P w base spare held m):(t:Ty)->{T:TypeId}->{fuel:Nat}->{cs:List Value}->{x:DataW H×List MemPlace}->fuel<=N->t.plain=true->qv P t T->DataW.trod enc P w base spare held fuel T cs=some x->∃d,zN w (wholeG w) none t d cs
 |.int k,T,fuel,cs,x,hN,_,hT,h=>by
  simp only[qv]at hT;obtain⟨m,rfl,_,hw⟩:=DataW.trod_int hT.1 h;simp only[Lit.wf,zA,ve]at hw
  exact⟨m,rfl,hw.1,hw.2⟩
 |.bool,T,fuel,cs,x,hN,_,hT,h=>by
  simp only[qv]at hT;obtain⟨b,rfl,_⟩:=DataW.trod_bool hT.1 h
  exact⟨b,rfl⟩
 |.str,T,fuel,cs,x,hN,_,hT,h=>by
  simp only[qv]at hT;obtain⟨s,rfl,_,hs⟩:=DataW.trod_string hT.1 h
  exact⟨s.data.toList,s,rfl,rfl,hs⟩
 |.unit,T,fuel,cs,x,hN,_,hT,h=>by simp only[qv]at hT
 |.pair a b,T,fuel,cs,x,hN,hp,hT,h=>by
  simp only[qv]at hT;obtain⟨⟨fs,hu,EV⟩,vB⟩:=hT;obtain⟨xs,n,hfu,_,hl,hlen,hf⟩:=DataW.trod_struct hu h;obtain⟨hcz,_⟩:=vB.cellsOf;rw[hcz]at hl;obtain⟨d,hd⟩:=YK hF (.pair a b) (off:=0) (cs:=cs) (n:=n) (by omega) hp EV (by rw[hl];simp) (λi f hi=>by
   have wm:fs[i]? = some f:=by rw[<-Z25];exact hi
   have:=hf i f wm;have qk:i<xs.length:=by rw[hlen];exact(Z26.1 wm).1
   exact⟨xs[i],by rw[this];simp[qk]⟩)
  refine⟨d,?_⟩;have:qS cs 0 (Ty.pair a b).size=cs:=by rw[<-hl];exact gx cs
  rw[this]at hd
  exact hd
 |.arr n t,T,fuel,cs,x,hN,hp,hT,h=>by
  simp only[qv]at hT;obtain⟨⟨E,hu,hE⟩,vB⟩:=hT;obtain⟨hcz,_⟩:=vB.cellsOf;obtain⟨hez,_⟩:=hE.info.cellsOf;obtain⟨xs,m,hfu,_,hl,hlen,hx⟩:=DataW.trod_array hu h;rw[hcz]at hl;rw[hez]at hx;have each:∀i,i<n->∃d,zN w (wholeG w) none t d (qS cs (i*t.size) t.size):=λi hi=>by
   have h1:=hx i hi;have h2:xs[i]? = some xs[i]:=by simp[hlen,hi]
   rw[h2]at h1;exact WO hF t (by omega) (by simpa[Ty.plain]using hp) hE h1
  obtain⟨l,Tu,ja⟩:=Jy n each
  exact⟨l,Tu,hl,λi hi=>zN.yJ (Ty.ZV (by simpa[Ty.plain]using hp)) (ja i hi)⟩
 |.sl false t,T,fuel,cs,x,hN,hp,hT,h=>by
  simp only[qv]at hT;obtain⟨⟨E,hu,hE⟩,_⟩:=hT;obtain⟨hez,EY⟩:=hE.info.cellsOf;rcases DataW.trod_slice hu h with⟨rfl,_⟩|⟨a,len,cap,elems,rest,n,hfu,rfl,_,hb,K5,Vn,hlen,ja,_⟩
  ·exact⟨([]:List t.den),none,0,rfl,yH _,jF _,λhn=>absurd rfl hn⟩
  ·rw[hez]at ja;have each:∀i,i<len->∃d,(∃Du,w.cells? base (a.add (i*t.size)) t.size=some Du/\zN w (wholeG w) none t d Du):=λi hi=>by
    have h1:=ja i hi;have h2:elems[i]? = some elems[i]:=by simp[hlen,hi]
    rw[h2,WZ]at h1;obtain⟨Du,hc,hy⟩:=h1;obtain⟨d,hd⟩:=WO hF t (by omega) (by simpa[Ty.plain]using hp) hE hy;exact⟨d,Du,hc,hd⟩
   obtain⟨l,Tu,hl⟩:=Jy len each;refine⟨l,some a,cap,by rw[Tu],by rw[Tu];exact K5,Vn,λvg=>?_⟩;have hlp:0<len:=by rw[<-Tu];exact Z3s.2 vg
   obtain⟨cs0,D6,_⟩:=hl 0 (by rw[Tu];exact hlp);obtain⟨_,Pl,EW⟩:=World.cells?_some D6;have hz:=EW 0 EY;simp only[Z2b]at hz;have ha0:(a.add 0).add 0=a:=by simp[Addr.add]
   rw[ha0]at hz;have z3r:cs0[0]?≠none:=by
    rw[uX (by rw[Pl];exact EY)];simp
   rw[<-hz]at z3r;obtain⟨b,off,spot⟩:=a;have hsp:spot=none/\∃c e fz,w.heap[b]? = some (.cells c e fz):=by
    simp only[World.cell?]at z3r;split at z3r
    ·rename_i c e fz hblk;refine⟨?_,c,e,fz,hblk⟩
     cases spot with
     |none=>rfl
     |some s=>simp at z3r
    ·simp at z3r
   obtain⟨rfl,c,e,fz,hblk⟩:=hsp;have qk:b<w.heap.size:=(Z26.1 hblk).1;have F3:∀(i:Nat)(hi:i<l.length),off+i*t.size+t.size<=c.size/\zN w (wholeG w) none t (l.get ⟨i,hi⟩) (qS c.toList (off+i*t.size) t.size):=λi hi=>by
    obtain⟨Du,D7,hr⟩:=hl i hi;obtain⟨_,SA,Gm⟩:=World.cells?_some D7;have q0k:(⟨b,off,none⟩:Addr).add (i*t.size)=⟨b,off+i*t.size,none⟩:=Addr.add_lit ..;rw[q0k]at Gm;have h2:=PX (b:=b) (off:=off+i*t.size) (n:=t.size) SA (λj hj=>by
     have:=Gm j hj;rw[Addr.add_lit]at this;exact this) hblk EY
    exact⟨h2.1,by rw[h2.2];exact hr⟩
   refine⟨b,off,c,e,fz,rfl,VU qk,hblk,?_,λi hi=>(F3 i hi).2⟩;have:=(F3 (l.length-1) (by omega)).1;have hm:(l.length-1+1)*t.size=l.length*t.size:=by rw[Nat.sub_add_cancel (by omega)]
   rw[kq]at hm
   omega
 |.sl true _,_,_,_,_,_,hp,_,_=>by simp[Ty.plain]at hp
 |.ptr _,_,_,_,_,_,hp,_,_=>by simp[Ty.plain]at hp
 |.fn _ _,_,_,_,_,_,hp,_,_=>by simp[Ty.plain]at hp
 |.mp _,_,_,_,_,_,hp,_,_=>by simp[Ty.plain]at hp
 |.tree k,T,fuel,cs,x,hN,_,hT,h=>hF fuel hN k T cs x hT h
theorem YK{N:Nat}(hF:∀m,m<=N->N3 enc P w base spare held m):(t:Ty)->{fs:List Field}->{off:Nat}->{cs:List Value}->{n:Nat}->n<=N->t.plain=true->vJ P t fs off->off+t.size<=cs.length->
  (∀(i:Nat)(f:Field),fs[i]? = some f->∃x,DataW.trod enc P w base spare held n f.type ((cs.drop f.offset).take (P.cellsOf f.type))=some x)->∃d,zN w (wholeG w) none t d (qS cs off t.size)
 |.pair a b,f::fs,off,cs,n,hN,hp,EV,hl,h=>by
  simp only[vJ]at EV;obtain⟨ho,hta,htb⟩:=EV;simp only[Ty.plain,zA]at hp;simp only[Ty.size]at hl;obtain⟨y,hy⟩:=h 0 f rfl;rw[ho,(hta.info.cellsOf).1]at hy;obtain⟨d1,hd1⟩:=WO hF a hN hp.1 hta hy;obtain⟨d2,hd2⟩:=YK hF b (off:=off+a.size) hN hp.2 htb (by omega) (λi g hg=>h (i+1) g (by simpa using hg));refine⟨(d1,d2),qS cs off a.size,qS cs (off+a.size) b.size,?_,hd1,hd2⟩;simp only[qS,Ty.size,List.take_add]
  rw[TF]
 |.unit,[],off,cs,n,_,_,_,_,_=>⟨(),by simp[qS,Ty.size,zN]⟩
 |.unit,_::_,_,_,_,_,_,h,_,_=>by simp only[vJ]at h
 |.pair _ _,[],_,_,_,_,_,h,_,_=>by simp only[vJ]at h
 |.int _,_,_,_,_,_,_,h,_,_=>by simp only[vJ]at h
 |.bool,_,_,_,_,_,_,h,_,_=>by simp only[vJ]at h
 |.str,_,_,_,_,_,_,h,_,_=>by simp only[vJ]at h
 |.arr _ _,_,_,_,_,_,_,h,_,_=>by simp only[vJ]at h
 |.sl _ _,_,_,_,_,_,_,h,_,_=>by simp only[vJ]at h
 |.ptr _,_,_,_,_,_,_,h,_,_=>by simp only[vJ]at h
 |.fn _ _,_,_,_,_,_,_,h,_,_=>by simp only[vJ]at h
 |.tree _,_,_,_,_,_,_,h,_,_=>by simp only[vJ]at h
 |.mp _,_,_,_,_,_,_,h,_,_=>by simp only[vJ]at h
end
theorem DL(z3h:RecOK P):(N:Nat)->∀m,m<=N->N3 enc P w base spare held m
 |0,m,hm=>λk T cs x hT h=>by
  simp only[qv]at hT;obtain⟨⟨_,_,fs,hu⟩,_⟩:=hT;obtain⟨_,n,hfu,_⟩:=DataW.trod_struct hu h
  omega
 |N+1,m,hm=>λk T cs x hT h=>by
  by_cases hmN:m<=N
  ·exact DL z3h N m hmN k T cs x hT h
  simp only[qv]at hT;obtain⟨⟨rfl,hon,_⟩,_⟩:=hT;have hp:=z3h k hon;simp only[qv]at hp;obtain⟨⟨fs,hu,EV⟩,vB⟩:=hp;obtain⟨xs,n,hfu,_,hl,hlen,hf⟩:=DataW.trod_struct hu h;obtain⟨hcz,_⟩:=vB.cellsOf;rw[hcz]at hl;obtain⟨d,hd⟩:=YK (DL z3h N) (.pair (uE k) (uD k)) (off:=0) (cs:=cs) (n:=n) (by omega) (CD k) EV (by rw[hl];simp) (λi f hi=>by
   have wm:fs[i]? = some f:=by rw[<-Z25];exact hi
   have:=hf i f wm;have qk:i<xs.length:=by rw[hlen];exact(Z26.1 wm).1
   exact⟨xs[i],by rw[this];simp[qk]⟩)
  have:qS cs 0 (Ty.pair (uE k) (uD k)).size=cs:=by rw[<-hl];exact gx cs
  rw[this]at hd;refine⟨kp k d,zN.WG.2 ?_⟩;rw[CF];exact hd
theorem Sq{t:Ty}{T:TypeId}{v:Value}{r:Reach}(hp:t.plain=true)(hT:qv P t T)(h:Value.okWide P w r base T v):v=jh t.sk.isAgg v.cells.toList:=by
 cases t with
 |int k=>simp only[qv]at hT;obtain⟨n,rfl⟩:=Go.WideShapes.okWide_int hT.1 h;rfl
 |bool=>simp only[qv]at hT;obtain⟨n,rfl⟩:=Go.WideShapes.okWide_bool hT.1 h;rfl
 |str=>simp only[qv]at hT;obtain⟨n,rfl⟩:=Go.WideShapes.okWide_string hT.1 h;rfl
 |unit=>simp only[qv]at hT
 |pair a b=>
  simp only[qv]at hT;obtain⟨⟨fs,hu,_⟩,_⟩:=hT;obtain⟨cs,rfl,_⟩:=Z5n hu h
  simp[jh,Ty.sk,Sk.isAgg,Value.cells]
 |arr n t=>
  simp only[qv]at hT;obtain⟨⟨E,hu,_⟩,_⟩:=hT;simp only[Value.okWide,hu]at h;obtain⟨cs,rfl,_⟩:=h
  simp[jh,Ty.sk,Sk.isAgg,Value.cells]
 |sl o t=>
  simp only[qv]at hT;obtain⟨⟨E,hu,_⟩,_⟩:=hT;obtain⟨a,l,c,rfl⟩:=Go.WideShapes.okWide_slice hu h
  rfl
 |ptr t=>simp[Ty.plain]at hp
 |fn f t=>simp[Ty.plain]at hp
 |mp _=>simp[Ty.plain]at hp
 |tree k=>
  simp only[qv]at hT;obtain⟨⟨_,_,fs,hu⟩,_⟩:=hT;obtain⟨cs,rfl,_⟩:=Z5n hu h;simp[jh,Ty.sk,Sk.isAgg,Value.cells]
theorem arg_open{t:Ty}{T:TypeId}{v:Value}{r:Reach}{zrk:Nat}{d:DataW H}{ps:List MemPlace}(hp:t.plain=true)(hT:qv P t T)(hv:Value.okWide P w r zrk T v)(h:DataW.Trod enc P w base spare held T v d ps)(z3h:RecOK P:=by intro k h;simp[recOn]at h):
  ∃x,t.zG=true/\∃cs,zN w (wholeG w) none t x cs/\v=jh t.sk.isAgg cs:=by
 obtain⟨fuel,h⟩:=h;obtain⟨x,hx⟩:=WO (DL z3h fuel) t (yH _) hp hT h;exact⟨x,Ty.ZV hp,_,hx,Sq hp hT hv⟩
end
theorem law_walk{P:Program}{f:Nat}{fn:Func}{body:Code}{p:gg}{F:p.den->Option Bool}{d:p.den}{vals:List Value}{w:World}(hf:P.funcs[f]? = some fn)(hb:fn.body=some body)(Zq:(fn.name == "runtime.NumGoroutine")=false)
  (hc:qL P f (.pure p [.bool] F)) (hF:F d=some true) (ha:QP w (wholeG w) p d vals) (D5:Known w (wholeG w):=by intro b e he;simp[Go.Kz.tab]at he) :
  Calls P f vals.toArray w λe w'=>e=.returned (.bool true)/\Go.RowKit.Below w.heap.size w w':=by
 have Mj:¬fn.name = "runtime.NumGoroutine" := by simpa using Zq
 have K8:(callFunc f vals.toArray).run P w=.ok (.enter f vals.toArray) w:=by simp[callFunc,hf,hb,Mj]
 rcases hc w (wholeG w) d vals true (λb hb=>by
  simp only[wholeG]at hb⊢;split at hb
  ·rename_i h;simp[h]
  ·simp at hb) D5 ha hF with⟨_,h⟩|⟨v,w',h,_⟩
 ·refine Calls.mono h λe w' he=>?_
  obtain⟨v,rfl,g',qf,Ve⟩:=he;have hv:=xK Ve.2;refine⟨by rw[hv],qf.os,qf.tape,qf.output,qf.size,λk hk=>(qf.vE k hk (.inr (VU hk))).1⟩
 ·rw[K8]at h;cases h
theorem known_int{w:World}{b n:Nat}{k:IntKind}{l:List Int}(hl:l.length=n)(hn:0<n)(hr:∀x∈l,k.min<=x/\x<=k.max)(h:∀j,j<n->w.cell? ⟨b,j,none⟩=some (.int k (l.getD j 0))):
  zN w (wholeG w) none (.ptr (.arr n (.int k))) l [.pointer (some ⟨b,0,none⟩)]:=by
 have h0:=h 0 hn;have:∃c e fz,w.heap[b]? = some (.cells c e fz):=by
  simp only[World.cell?]at h0;split at h0
  ·rename_i c e fz hb;exact⟨c,e,fz,hb⟩
  ·simp at h0
 obtain⟨c,e,fz,hb⟩:=this;have qk:=(Z26.1 hb).1;have pe:∀j,j<n->w.cell? ⟨b,0+j,none⟩=(l.map (Value.int k))[j]? := by
  intro j hj;rw[QK,h j hj];have Zy:j<l.length:=by omega
  simp[Zy]
 obtain⟨h1,h2⟩:=PX (by simp[hl]) pe hb hn;refine⟨b,0,c,e,fz,rfl,VU qk,hb,by simp only[Ty.size];omega,hl,?_,λi hi=>?_⟩
 ·have:=yS (l:=c.toList) (off:=0) (n:=n*1) (by simp;omega);simpa[Ty.size]using this
 ·have e1:(Ty.arr n (.int k)).size=n:=by simp[Ty.size]
  have e2:(Ty.int k).size=1:=rfl;rw[e1,h2,e2];refine⟨?_,hr _ (Z27 _ _)⟩;have wm:i<l.length:=hi;simp only[qS,TB,IL];rw[<-List.map_drop,Z38 wm];rfl
end Go.Kz
namespace Go.Kz
theorem U8{I:Type}(l:List I)(k:Nat):idx l (k:Int)=l[k]? := rfl
theorem Qy{I:Type}{l:List I}{i:Int}(h0:0<=i)(h1:i<l.length):idx l i=some (l[i.toNat]'(by omega)):=by
 obtain⟨k,rfl⟩:=Mr h0;simp only[U8,Z3f];exact uX (by omega)
theorem zY{I:Type}{l:List I}{k:Nat}(h:k<l.length):idx l (k:Int)=some l[k]:=by simp[U8,h]
theorem jk{I:Type}{l:List I}{k:Nat}(h:k<l.length):jY l (k:Int)=true:=by simp[jY,h]
theorem jv{I:Type}(l:List I)(k:Nat)(x:I):qN l (k:Int) x=l.set k x:=rfl
theorem wM{I:Type}(l:List I):len l=(l.length:Int):=rfl
theorem zu{R:Type}{b:Bool}{x:Option R}(h:b=true):zo b x=x:=by rw[h];rfl
theorem zx{n:Int}(h1 : -9223372036854775808<=n)(h2:n<=9223372036854775807):zz n=n:=by
 simp only[zz,IntKind.wrap,IntKind.min,IntKind.max,IntKind.bits,IntKind.signed];simp;omega
end Go.Kz
namespace Go.Kz
variable {J R:Type}{r:Option R}
theorem dlt{k n:Nat}(h:k<n):decide ((k:Int)<(n:Int))=true:=by simp[h]
theorem zrd(n:Nat):decide ((n:Int)<(n:Int))=false:=by simp
theorem zM{I:Type}{l:List I}{k:Nat}(h:k<l.length):decide ((k:Int)<len l)=true:=by simp[len,h]
theorem zC{I:Type}(l:List I):decide (((l.length:Nat):Int)<len l)=false:=by simp[len]
theorem take_succ{I:Type}{l:List I}{k:Nat}(h:k<l.length):l.take (k+1)=l.take k++[l[k]]:=by rw[Z4y h]
theorem za3{I:Type}{p:List I->Prop}(h0:p [])(h1:∀l x,p l->p (l++[x]))(l:List I):p l:=by
 have:∀n (l:List I),l.length=n->p l:=by
  intro n
  induction n with
  |zero=>intro l hl;have:=T3 hl;subst this;exact h0
  |succ n ih=>
   intro l hl;have vg:l≠[]:=by intro h;subst h;simp at hl
   rw[<-Z5o vg];exact h1 _ _ (ih _ (by simp[hl]))
 exact this _ l rfl
end Go.Kz
namespace Go.Kz
variable {R:Type}
def zhx(c:Ctx)(ts:List Ty)(rs:List ResultVar):vN->St->Option (jD ts):=λe J=>match e with
 |.exit _=>none
 |_=>norm c.res J λJ=>WL c.tt J ts rs λr _=>some r
theorem JO{P:Program}{f:Nat}{fn:Func}{c:Ctx}{p:gg}{ts:List Ty}{F:p.den->Option (jD ts)}{A B C:Code}{id:Nat}{o1 o2:Oper}{s d1 d2:Nat}{T T':TypeId}{t tT:Ty}{oT:Bool}{J0:p.den->St}
  (hf:P.funcs[f]? = some fn) (Zq:(fn.name == "runtime.NumGoroutine")=false) (hb:fn.body=some (.seq A (.seq (.seq (.region id #[o1, o2] false) C) B)))
  (hc:xP P c) (hm:P.follows .mixedOrders=true) (hn:c.ntmps=fn.ntmps) (hp:p.len<=fn.ntmps) (ht:Jj ts=true)
  (hlA:∀b∈yR A,QU c b) (hlB:∀b∈yR B,QU c b) (hlC:∀b∈yR C,QU c b)
  (hA:∀d,vD c A (entry p d) (λe J=>match e with |.normal=>some J|_=>none)=some (J0 d))
  (h1:o1.op=.move (.tmp s)) (h1d:o1.dst=some d1) (h1g:o1.guard=none)
  (h2:o2.op=.binOp .eql T (.tmp d1) (.const (.slice none 0 0)) T') (h2d:o2.dst=some d2) (h2g:o2.guard=none)
  (hd1:d1<c.ntmps) (hd2:d2<c.ntmps) (hT:c.tt T=some (.sl oT tT))
  (l:p.den->List t.den) (hs:∀d,(J0 d).zk s=some (.data (.sl false t) (l d)))
  (heq:∀d b,(b=true->l d=[])->vD c C (((J0 d).set d1 (.data (.sl false t) (l d))).set d2 (.data .bool b)) (zb0 (zb2 (cutAt c B) (vD c B)) (zhx c ts fn.results.toList))=F d):qL P f (.pure p ts F):=by
 intro w g d vals r zS D5 hargs hF;left;refine⟨?_,?_⟩
 ·have Mj:¬fn.name = "runtime.NumGoroutine" := by simpa using Zq
  simp[callFunc,hf,hb,Mj]
 obtain⟨zj,vO⟩:=Iu zS D5 hargs hp;rw[<-hn]at zj;refine calls_of_wp hf hb ?_;rw[<-hn];have hQ':∀ch a w',¬bodyPost P fn (λe w'=>∃v,e=.returned v/\∃g',Ext w g w' g'/\Gv w' g' (zQ ts r 0) v) (.panic ch) a w':=by
  intro ch a w h;obtain⟨_,v,h,_⟩:=h;cases h
 generalize hQd:bodyPost P fn (λe w'=>∃v,e=.returned v/\∃g',Ext w g w' g'/\Gv w' g' (zQ ts r 0) v)=Q at hQ'⊢;have fin:z6p c.ntmps g w (zhx c ts fn.results.toList) r (λ_=>True) Q:=by
  subst hQd;intro e J' g' a' w' hk qO pj K7 _;have fin:∀{J':St},norm c.res J' (λJ=>WL c.tt J ts fn.results.toList λr _=>some r)=some r->zU c.ntmps g' w' a' J'->qF g' J'->
    ∃v,(results fn a'.tmps).run P w'=.ok v w'/\∃g',Ext w g w' g'/\Gv w' g' (zQ ts r 0) v:=by
   intro J' hk qO K7;obtain⟨J1,g1,h1,yN,yA,_⟩:=JF qO K7 hk;obtain⟨v,g2,hr,wF,Ve⟩:=z15 (P:=P) hc.tt yN ht h1;exact⟨v,hr,g2,(pj.trans yA).trans wF,Ve⟩
  cases e with
  |exit id=>simp[zhx]at hk
  |normal=>
   obtain⟨v,h1,h2⟩:=fin hk qO K7
   exact⟨qO.defers,v,h1,v,rfl,h2⟩
  |ret=>
   obtain⟨v,h1,h2⟩:=fin hk qO K7;exact⟨qO.defers,v,h1,v,rfl,h2⟩
 refine wp_seq (k7 hc hm A hlA (λch a w h=>hQ' ch a w h) (hA d) zj vO ?_);intro e J1 g1 a1 w1 Z5 yN yA ZF _
 cases e with
 |exit i=>simp at Z5
 |ret=>simp at Z5
 |normal=>
  simp only[zI]at Z5;subst Z5;show Code.wp P _ _ a1 w1;refine wp_seq (wp_seq (wp_region ?_));obtain⟨v,hv,za⟩:=yN.zk s _ (hs d);have Mu:a1.eval (.tmp s)=v:=by simp[Act.eval,Z2g,hv]
  have hr:List.range (#[o1,o2]:Array Oper).size=[0,1]:=rfl;rw[hr];simp only[wpOps,List.getElem?_toArray,Z57,List.getElem?_cons_succ,xF h1g,xF h2g,Ms];left;have k9:zU c.ntmps g1 w1 (a1.put o1.dst v) ((J0 d).set d1 (.data (.sl false t) (l d))):=by
   rw[h1d];exact yN.put hd1 za
  refine Gq (v:=v) (by simp[execOp,h1,Mu]) ?_;left;obtain⟨v2,ud,HR⟩:=k9.zk d1 (.data (.sl false t) (l d)) (by simp[St.set,GJ,Mt]);have zzz:(a1.put o1.dst v).eval (.tmp d1)=v2:=by simp[Act.eval,Z2g,ud]
  have hvd:∃ad n cap,v2=.slice ad n cap/\(ad.isNone=true->l d=[]):=by
   simp only[zm]at HR;obtain⟨cs,⟨_,ad,cap,rfl,_,_,vg⟩,Qs⟩:=HR;refine⟨ad,_,cap,by rw[Qs];rfl,λQB=>?_⟩;by_cases hl:l d=[]
   ·exact hl
   ·obtain⟨b,off,c',e,fz,he,_⟩:=vg hl;rw[he]at QB;simp at QB
  obtain⟨ad,n,cap,rfl,z3o⟩:=hvd;have hTu:=hc.tt _ _ hT;simp only[qv]at hTu;obtain⟨⟨E,hTE,_⟩,_⟩:=hTu;have ze:(execOp (a1.put o1.dst v).eval o2).run P w1=.ok (.value (.bool ad.isNone)) w1:=by
   have:=run_equal_slice_nil (P:=P) w1 T E ad n cap hTE;have h3:(binOp .eql T (.slice ad n cap) (.slice none 0 0)).run P w1=.ok (.bool ad.isNone) w1:=by
    simp only[binOp];simp[this]
   have D6:(a1.put o1.dst v).eval (.const (.slice none 0 0))=.slice none 0 0:=rfl;simp[execOp,h2,zzz,D6,eqGuard,h3]
  refine Gq ze ?_;have Mz:zU c.ntmps g1 w1 ((a1.put o1.dst v).put o2.dst (.bool ad.isNone)) (((J0 d).set d1 (.data (.sl false t) (l d))).set d2 (.data .bool ad.isNone)):=by
   rw[h2d];exact k9.put hd2 (kK _)
  have hf3:qF g1 (((J0 d).set d1 (.data (.sl false t) (l d))).set d2 (.data .bool ad.isNone)):=by
   intro m Gp;exact((ZF m Gp).set d1 (by simp[z7.ids])).set d2 (by simp[z7.ids])
  show Code.wp P _ _ _ _;have he:=heq d ad.isNone z3o;rw[hF]at he;refine k7 hc hm C hlC (Q:=Exit.then (B.wp P Q) Q) (λch a w h=>hQ' ch a w h) he Mz hf3 ?_;intro e J4 g4 a4 w4 h4 zbf No hf4 _
  cases e with
  |normal=>
   simp only[zb0,zb2]at h4;show B.wp P Q a4 w4;split at h4
   ·obtain⟨J5,g5,h5,zyn,zqn,hf5⟩:=JF zbf hf4 h4;exact k7 hc hm B hlB hQ' h5 zyn hf5 (fin.later ((yA.trans No).trans zqn) (λ_ _=>trivial))
   ·exact k7 hc hm B hlB hQ' h4 zbf hf4 (fin.later (yA.trans No) (λ_ _=>trivial))
  |exit i=>exact fin.later (F':=λ_=>True) (yA.trans No) (λ_ h=>h) (.exit i) J4 g4 a4 w4 h4 zbf (Ext.refl _ _) hf4 trivial
  |ret=>exact fin.later (F':=λ_=>True) (yA.trans No) (λ_ h=>h) .ret J4 g4 a4 w4 h4 zbf (Ext.refl _ _) hf4 trivial
end Go.Kz
