/-
  Regions whose order is drawn: an operation that yields its value may be taken first.
-/
import Derived.Test.YtmoggdcmpoobpaaGreatDoorKzAB
import Derived.OrdersHeld
set_option linter.unusedVariables false
set_option linter.unusedSimpArgs false
namespace Go.Kz
section
variable {P:Program}{ops:Array Oper}{Q:Exit->Act->World->Prop}{md:Region.Mode}{w0:World}{q:Bool}
def Q8(q:Bool)(P:Program)(md:Region.Mode)(ops:Array Oper)(Q:Exit->Act->World->Prop):Nat->Array Bool->Act->World->Prop
 |0,listed,a,w=>Region.ready md ops listed=[]/\Q .normal a w
 |fuel+1,listed,a,w=>
  (Region.ready md ops listed=[]->Q .normal a w)/\
  ∀i∈Region.ready md ops listed,wpOp P ops Q i (λa' w'=>((∀o,ops[i]? = some o->YE q o=false->vq w w'))/\Q8 q P md ops Q fuel (listed.setIfInBounds i true) a' w') a w
theorem Y3:∀(fuel:Nat)(listed:Array Bool)(a:Act)(w:World),Q8 q P md ops Q fuel listed a w->wpAny P md ops Q fuel listed a w
 |0,_,_,_,h=>h
 |fuel+1,_,_,_,h=>⟨h.1,λi hi=>wpOp_mono (λa' w' h'=>Y3 fuel _ a' w' h'.2) (h.2 i hi)⟩
def Rr(ops:Array Oper)(a0:Act)(Q:Exit->Act->World->Prop):Exit->Act->World->Prop:=
 λe a w=>(e=.normal->∀s,(∀o∈ops.toList,o.dst≠some s)->a.tmps[s]? = a0.tmps[s]?)->Q e a w
theorem Oper.zx6{o:Oper}{a:Act}{w:World}{K:Act->World->Prop}{Q1 Q2:Exit->Act->World->Prop}(h1:∀c a w,Q1 (.panic c) a w->Q2 (.panic c) a w)(h2:∀a w,Q1 .outgrown a w->Q2 .outgrown a w)
  (hh:o.wp P a w K Q1):o.wp P a w K Q2:=by
 unfold Oper.wp at *;generalize (execOp a.eval o).run P w=r at *
 cases r with
 |ok n w'=>
  cases n<;>simp only[Oper.upon]at hh⊢ <;>
   first
    |exact hh
    |exact Calls.mono hh (λe w'' he=>by
      cases e with
      |returned v=>exact he
      |panicked c=>exact h1 _ _ _ he
      |outgrown=>exact he.imp λa h=>h.imp λw h=>h2 a w h)
 |halt x w'=>cases x<;>simp only[Oper.upon]at hh⊢ <;>first|exact hh|exact h1 _ _ _ hh
theorem u7{a0:Act}:(fuel:Nat)->(listed:Array Bool)->(a:Act)->(w:World)->(∀s,(∀o∈ops.toList,o.dst≠some s)->a.tmps[s]? = a0.tmps[s]?)->
  wpAny P md ops (Rr ops a0 Q) fuel listed a w->wpAny P md ops Q fuel listed a w
 |0,listed,a,w,hk,h=>⟨h.1,h.2 λ_=>hk⟩
 |fuel+1,listed,a,w,hk,h=>by
  refine⟨λhr=>h.1 hr λ_=>hk,λi hi=>?_⟩;have hh:=h.2 i hi;unfold wpOp at *;split
  ·rename_i ho;simp only[ho]at hh;exact u7 fuel _ a w hk hh
  ·rename_i o ho;simp only[ho]at hh;have hmem:o∈ops.toList:=by
    obtain⟨yP,rfl⟩:=Z2p.1 ho;simp
   split
   ·rename_i hw;simp only[hw,Z1x]at hh;rcases hh with hh|⟨hh,a1,w1,h1⟩
    ·left;refine Oper.zx6 (Q1:=Rr ops a0 Q) (λc a w h=>h (by simp)) (λa w h=>h (by simp)) ?_;refine Oper.wp_mono (λa' w' hh=>?_) (Oper.z3o hh);exact u7 fuel _ a' w' (λs hs=>(hh.1 s (hs o hmem)).trans (hk s hs)) hh.2
    ·exact .inr ⟨hh,a1,w1,h1 (by simp)⟩
   ·rename_i hw;simp only[hw]at hh;refine u7 fuel _ _ w (λs hs=>?_) hh;rw[VT,qP (λh=>hs o hmem h.1)];exact hk s hs
def zal(md:Region.Mode)(ops:Array Oper)(i:Nat)(Lt:List Nat):Prop:=
 ∀x∈Lt,∀ox,ops[x]? = some ox->∃e∈ox.after,Region.binds md e=true/\(e.on=i\/e.on∈Lt)
theorem PL{i:Nat}{Lt:List Nat}{listed:Array Bool}(hw:zal md ops i Lt)(hl:∀x∈Lt,listed.getD x true=false)(hi:listed.getD i true=false){j:Nat}(hj:j∈Region.ready md ops listed):j∉Lt:=by
 intro hjl;obtain⟨_,oj,gR,hall⟩:=mem_ready.1 hj;obtain⟨e,he,hb,hon⟩:=hw j hjl oj gR;have h1:=hall e he hb;have h0:listed.getD e.on true=false:=by
  rcases hon with h|h
  ·rw[h];exact hi
  ·exact hl _ h
 rcases Z4a e.on listed.size with h'|h'
 ·simp[h']at h0 h1;rw[h0]at h1;cases h1
 ·simp[Z3n h']at h1
theorem KM{i:Nat}{oi:Oper}{v:Value}{Lt:List Nat}(hi:ops[i]? = some oi)(zs6:∀(j:Nat) (o:Oper) cs b,ops[j]? = some o->o.op≠.select cs b)
  (hQ:∀c a w,¬Q (.panic c) a w) (hwt:zal md ops i Lt) :
  ∀(fuel:Nat)(listed:Array Bool)(a:Act)(w:World),
   (∀j oj,ops[j]? = some oj->j≠i->listed.getD j true=false->(∀e∈oj.after,Region.binds md e=true->e.on≠i)->oi.apart ops oj=true)->
   (∀x∈Lt,listed.getD x true=false)->(∀j oj,ops[j]? = some oj->j≠i->listed.getD j true=false->YE q oj=true->j∈Lt\/isP oi=true)->
   i∈Region.ready md ops listed->YieldsIf P ops (Mi oi w0) oi v a->Mi oi w0 w->
   Q8 q P md ops Q fuel (listed.setIfInBounds i true) (a.put oi.dst v) w->Q8 q P md ops Q (fuel+1) listed a w:=by
 intro fuel
 induction fuel with
 |zero=>
  intro listed a w _ _ _ hr hy hS H;refine⟨λh=>(by rw[h]at hr;cases hr),λj hj=>?_⟩;by_cases Kd:j=i
  ·subst Kd;exact hy.wpOp hi hS ⟨λ_ _ _=>vq.refl w,H⟩
  ·have:=ready_mono hj Kd;rw[H.1]at this
   cases this
 |succ fuel ih=>
  intro listed a w QN yP hM hr hy hS H;refine⟨λh=>(by rw[h]at hr;cases hr),λj hj=>?_⟩;by_cases Kd:j=i
  ·subst Kd;exact hy.wpOp hi hS ⟨λ_ _ _=>vq.refl w,H⟩
  ·have h1:=H.2 j (ready_mono hj Kd);have hi0:=(mem_ready.1 hr).1;have hjl:=PL hwt yP hi0 hj;obtain⟨zes,oj,gR,hall⟩:=mem_ready.1 hj;have hnM:isP oi=false->YE q oj=false:=by
    intro hP
    cases hm:YE q oj with
    |false=>rfl
    |true=>
     rcases hM j oj gR Kd zes hm with h|h
     ·exact absurd h hjl
     ·rw[hP]at h;simp at h
   have q1g:∀e∈oj.after,Region.binds md e=true->e.on≠i:=λe he hb heq=>by
    have h1:=hall e he hb;have h0:=hi0;rw[heq]at h1;rcases Z4a i listed.size with h'|h'
    ·simp[h']at h0 h1;rw[h0]at h1;cases h1
    ·simp[Z3n h']at h1
   have h2:=wpOp_putIf gR (QN j oj gR Kd zes q1g) (λcs b=>zs6 i oi cs b hi) (λcs b=>zs6 j oj cs b gR) (λc a w h=>absurd h (hQ _ _ _)) hy h1;have zs0:∀k,(listed.setIfInBounds j true).getD k true=false->listed.getD k true=false:=λk Zt=>by
    by_cases hjk:j=k
    ·subst hjk;exact zes
    ·rw[getD_set_ne true hjk]at Zt;exact Zt
   refine wpOp_mono (λa' w' h3=>⟨h3.2.1,ih (listed.setIfInBounds j true) a' w' (λk ok hk hki Zt Ua=>QN k ok hk hki (zs0 k Zt) Ua) (λx hx=>?_) (λk ok hk hki Zt hm=>hM k ok hk hki (zs0 k Zt) hm)
    (ready_mono hr (Ne.symm Kd)) h3.1 (λhP=>(hS hP).trans (h3.2.1 oj gR (hnM hP))) ?_⟩) h2
   ·have va:j≠x:=λhe=>hjl (he ▸ hx)
    rw[getD_set_ne true va];exact yP x hx
   ·rw[Array.setIfInBounds_comm _ _ Kd];exact h3.2.2
end
end Go.Kz
namespace Go.Kz
variable {R:Type}
theorem Wz{d:List Nat}:{l:List Nat}->(MC l d=true↔∀x∈l,x∈d)
 |[]=>by simp[MC]
 |y::l=>by simp[MC,jK,Wz (l:=l)]
theorem ES{d:List Nat}:{l:List Nat}->(CJ l d=true↔∃x∈l,x∈d)
 |[]=>by simp[CJ]
 |y::l=>by simp[CJ,jK,ES (l:=l)]
theorem gh{d:List Nat}:{l:List Nat}->(Kj l d=true↔∀x∈l,x∉d)
 |[]=>by simp[Kj]
 |y::l=>by
  have:=jK (x:=y) (l:=d);simp only[Kj,zA,gh (l:=l),gJ,forall_eq_or_imp];constructor
  ·rintro⟨h1,h2⟩;refine⟨λh=>?_,h2⟩;rw[this.2 h]at h1;simp at h1
  ·rintro⟨h1,h2⟩;refine⟨?_,h2⟩
   cases hm:qs y d with
   |true=>exact absurd (this.1 hm) h1
   |false=>rfl
theorem jb{x:Nat}:{l:List Edge}->(x∈w9 l↔∃e∈l,Region.binds .any e=true/\e.on=x)
 |[]=>by simp[w9]
 |e::l=>by
  simp only[w9]
  cases hb:Region.binds .any e with
  |true=>
   simp only[zJ,gJ,jb (l:=l),exists_eq_or_imp,hb,X3]
   exact or_congr ⟨Eq.symm,Eq.symm⟩ Iff.rfl
  |false=>
   simp only[zU,gJ,jb (l:=l),exists_eq_or_imp,hb];simp
theorem VH{t:Nat}:{l:List Operand}->(t∈DX l↔.tmp t∈l)
 |[]=>by simp[DX]
 |x::l=>by cases x<;>simp[DX,VH (l:=l)]
section
variable {P:Program}{ops:Array Oper}{Q:Exit->Act->World->Prop}
theorem z0t{o:Oper}{t:Nat}(h:t∈o.looksAt ops):Kw (gu ops.toList) o t=true:=by
 simp only[Oper.looksAt,PH,List.mem_filterMap]at h;simp only[Kw,CX,jK,VH];rcases h with⟨x,hx,h⟩|h
 ·left;cases x<;>simp at h;subst h;exact hx
 ·right;unfold z8j
  cases hg:o.guard with
  |none=>rw[hg]at h;simp at h
  |some gw=>
   obtain⟨j,want⟩:=gw;rw[hg]at h;simp only at h;have e:=Pv (ops:=ops) j
   cases hd:(ops[j]?).bind (·.dst) with
   |none=>rw[hd]at h;simp at h
   |some d=>
    rw[hd]at h e;simp only[e];simpa using h
theorem UC{x y:Oper}(h:VX (gu ops.toList) x y=true):x.apart ops y=true:=by
 unfold VX at h;simp only[zA]at h;unfold Oper.apart;simp only[zA];have Ua:∀(o:Oper)(d:Nat),(!Kw (gu ops.toList) o d)=true->(!(o.looksAt ops).contains d)=true:=by
  intro o d hd
  cases hc:(o.looksAt ops).contains d with
  |false=>rfl
  |true=>
   have:=z0t (ops:=ops) (List.contains_iff_mem.1 hc);rw[this]at hd;simp at hd
 constructor
 ·have h1:=h.1
  cases hx:x.dst with
  |none=>rfl
  |some d=>
   rw[hx]at h1;simp only[zA]at h1⊢;refine⟨Ua y d h1.1,?_⟩;have h2:=h1.2
   cases hy:y.dst with
   |none=>simp
   |some e=>
    rw[hy]at h2;simp only[bne_iff_ne,ne_eq,zI];intro he;subst he;simp[R4]at h2
 ·have h2:=h.2
  cases hy:y.dst with
  |none=>rfl
  |some d=>rw[hy]at h2;exact Ua x d h2
structure Rel (ops:Array Oper) (listed:Array Bool) (done:List Nat):Prop where
 size:listed.size=ops.size
 get:∀j,j<ops.size->listed[j]? = some (qs j done)
theorem Rel.getD{listed:Array Bool}{done:List Nat}(h:Rel ops listed done){j:Nat}(hj:j<ops.size)(d:Bool):listed.getD j d=qs j done:=by
 simp[Z4b,h.get j hj]
theorem Rel.start:Rel ops (Array.replicate ops.size false) []:=⟨by simp,λj hj=>by simp[hj,qs]⟩
theorem Rel.add{listed:Array Bool}{done:List Nat}(h:Rel ops listed done){i:Nat}:Rel ops (listed.setIfInBounds i true) (i::done):=by
 refine⟨by simp[h.size],λj hj=>?_⟩;rw[Array.getElem?_setIfInBounds];have yP:j<listed.size:=by rw[h.size];exact hj
 by_cases ZP:i=j
 ·subst ZP;simp[yP,qs,R4]
 ·rw[qP ZP,h.get j hj];have:Nat.beq i j=false:=by
   cases hb:Nat.beq i j with
   |true=>exact absurd (zE hb) ZP
   |false=>rfl
  simp[qs,this]
structure CD (ops:Array Oper):Prop where
 sel:∀(j:Nat) (o:Oper) cs b,ops[j]? = some o->o.op≠.select cs b
theorem yR{j:Nat}{o:Oper}(h:ops[j]? = some o):(j,o)∈zV 0 ops.toList:=by
 have key:∀(l:List Oper)(i j:Nat),l[j]? = some o->(i+j,o)∈zV i l:=by
  intro l
  induction l with
  |nil=>intro i j h;simp at h
  |cons x l ih=>
   intro i j h
   cases j with
   |zero=>simp only[Z5s,zI]at h;subst h;simp[zV]
   |succ j=>
    have:=ih (i+1) j (by simpa using h);simp only[zV,gJ];right;have e:i+(j+1)=i+1+j:=by omega
    rw[e];exact this
 have:=key ops.toList 0 j (by rw[Z2i];exact h);simpa using this
theorem vM{j:Nat}{o:Oper}(h:ops[j]? = some o):j<ops.size:=(Z2p.1 h).1
theorem Dh:(l:List (Nat×Oper))->K4 l=true->∀x∈l,∀cs b,x.2.op≠.select cs b
 |[],_,_,hx=>by simp at hx
 |(i,o)::l,h,x,hx=>by
  simp only[K4,zA]at h;rcases gJ.1 hx with rfl|hx
  ·intro cs b hs;have:=h.1;rw[hs]at this;simp at this
  ·exact Dh l h.2 x hx
theorem Ac(h:K4 (zV 0 ops.toList)=true):CD ops:=
 ⟨λj o cs b ho=>Dh _ h _ (yR ho) cs b⟩
theorem z0f{listed:Array Bool}{done:List Nat}(hr:Rel ops listed done){j:Nat}{o:Oper}(ho:ops[j]? = some o):
  j∈Region.ready .any ops listed↔j∉done/\∀e∈o.after,Region.binds .any e=true->e.on∈done/\e.on<ops.size:=by
 rw[mem_ready];have hj:=vM ho;rw[hr.getD hj];have hb:∀x,qs x done=false↔x∉done:=λx=>by
  rw[<-jK];simp
 rw[hb];refine and_congr Iff.rfl ⟨?_,?_⟩
 ·rintro⟨o',Ka,hall⟩ e he XE;rw[ho]at Ka;simp only[zI]at Ka;subst Ka;have:=hall e he XE;by_cases yP:e.on<ops.size
  ·rw[hr.getD yP,jK]at this;exact⟨this,yP⟩
  ·have hn:listed[e.on]? = none:=by rw[Array.getElem?_eq_none_iff,hr.size];omega
   simp[Z4b,hn]at this
 ·intro hall;refine⟨o,ho,λe he XE=>?_⟩;obtain⟨h1,h2⟩:=hall e he XE;rw[hr.getD h2,jK];exact h1
theorem Bu{i x:Nat}:{l:List (Nat×Oper)}->{acc:List Nat}->x∈acc->x∈jT i l acc
 |[],_,h=>h
 |(j,o)::l,acc,h=>by
  simp only[jT];refine Bu (l:=l) ?_
  cases (qs i (w9 o.after.toList)||CJ (w9 o.after.toList) acc) with
  |true=>simp[h]
  |false=>exact h
theorem Z9{i:Nat}:{l:List (Nat×Oper)}->{acc:List Nat}->{G:Nat->Prop}->
  (∀x∈acc,G x)->(∀j o,(j,o)∈l->(∃y∈w9 o.after.toList,y=i\/y∈jT i l acc)->G j)->∀x∈jT i l acc,G x
 |[],_,_,h,_,x,hx=>h x hx
 |(j,o)::l,acc,G,h,hG,x,hx=>by
  simp only[jT]at hx hG;refine Z9 (l:=l) ?_ (λj' o' hm hy=>hG j' o' (by simp[hm]) hy) x hx;intro y hy
  cases hc:(qs i (w9 o.after.toList)||CJ (w9 o.after.toList) acc) with
  |false=>rw[hc]at hy;exact h y hy
  |true=>
   rw[hc]at hy hG;simp only[zJ,gJ]at hy hG;rcases hy with rfl|hy
   ·refine hG y o (by simp) ?_;simp only[CX,jK,ES]at hc;rcases hc with hc|⟨z,hz,hza⟩
    ·exact⟨i,hc,.inl rfl⟩
    ·exact⟨z,hz,.inr (Bu (by simp[hza]))⟩
   ·exact h y hy
theorem Zu{q:Bool}{dst:Nat->Option Nat}{done later:List Nat}{i:Nat}{o:Oper}:{l:List (Nat×Oper)}->SG q dst done later i o l=true->∀x∈l,
  x.1=i\/x.1∈done\/((i∈w9 x.2.after.toList\/VX dst o x.2=true)/\(isP o=true\/YE q x.2=false\/x.1∈later))
 |[],_,x,hx=>by simp at hx
 |(j,oj)::l,h,x,hx=>by
  simp only[SG,zA]at h;rcases gJ.1 hx with rfl|hx
  ·have h1:=h.1;simp only[CX,zA,jK,PF]at h1;rcases h1 with (h1|h1)|h1
   ·exact .inl (zE h1)
   ·exact .inr (.inl h1)
   ·exact .inr (.inr ⟨h1.1,or_assoc.1 h1.2⟩)
  ·exact Zu h.2 x hx
theorem Ql{done:List Nat}{i:Nat}:{l:List (Nat×Oper)}->CG done i l=true->∀x∈l,x.1=i\/x.1∈done\/Zl done x.2=false
 |[],_,x,hx=>by simp at hx
 |(j,oj)::l,h,x,hx=>by
  simp only[CG,zA]at h;rcases gJ.1 hx with rfl|hx
  ·have h1:=h.1;simp only[CX,jK,PF]at h1;rcases h1 with (h1|h1)|h1
   ·exact .inl (zE h1)
   ·exact .inr (.inl h1)
   ·exact .inr (.inr h1)
  ·exact Ql h.2 x hx
theorem jS{listed:Array Bool}{done:List Nat}(hr:Rel ops listed done)(hd:∀x∈done,x<ops.size){j:Nat}{o:Oper}(ho:ops[j]? = some o):
  j∈Region.ready .any ops listed↔j∉done/\Zl done o=true:=by
 rw[z0f hr ho];refine and_congr Iff.rfl ?_;unfold Zl;rw[Wz];constructor
 ·intro h x hx;obtain⟨e,he,XE,rfl⟩:=jb.1 hx;exact(h e (by simpa using he) XE).1
 ·intro h e he XE;have:=h e.on (jb.2 ⟨e,by simpa using he,XE,rfl⟩);exact⟨this,hd _ this⟩
theorem yZ.wpOp{q:Bool}{i:Nat}{o:Oper}{K:Act->World->Prop}{a:Act}{w:World}(hi:ops[i]? = some o)(h:yZ q P ops Q o K a w):
  wpOp P ops Q i (λa' w'=>(∀o,ops[i]? = some o->YE q o=false->vq w w')/\K a' w') a w:=by
 unfold yZ at h;unfold Go.wpOp;simp only[hi,zI];split
 ·rename_i hw;rw[qn hw]at h;left;rcases h with⟨_,v,h1,h2⟩|⟨_,h1⟩
  ·exact PG (h1 w (Mi.refl _ w)) ⟨λ_ _ _=>vq.refl w,h2⟩
  ·exact Oper.wp_mono (λa' w' hh=>⟨λo' Ka hm=>hh.1 (by rw[Ka];exact hm),hh.2⟩) h1
 ·rename_i hw;rw[qP hw]at h;exact⟨λ_ _ _=>vq.refl w,h⟩
theorem zd3{q:Bool}(hp:CD ops)(hQ:∀c a w,¬Q (.panic c) a w){i:Nat}{o:Oper}{listed:Array Bool}{done:List Nat}{a:Act}{w:World}{f:Nat}{K':Act->World->Prop}(hi:ops[i]? = some o)(hr:Rel ops listed done)(hd:∀x∈done,x<ops.size)
  (hni:i∉done) (hat:Cs q (gu ops.toList) (zV 0 ops.toList) done i o=true) (h:yZ q P ops Q o K' a w) (ih:∀a' w',K' a' w'->Q8 q P .any ops Q f (listed.setIfInBounds i true) a' w'):Q8 q P .any ops Q (f+1) listed a w:=by
 simp only[Cs,zA,CX]at hat;have hir:i∈Region.ready .any ops listed:=(jS hr hd hi).2 ⟨hni,hat.1⟩;have h':yZ q P ops Q o K' a w:=h;rcases hat.2 with⟨⟨hy,QN⟩,QM⟩|hal
 ·have uS:∀x∈jT i (zV 0 ops.toList) [],x<ops.size/\∀ox,ops[x]? = some ox->∃e∈ox.after,Region.binds .any e=true/\(e.on=i\/e.on∈jT i (zV 0 ops.toList) []):=by
   refine Z9 (by simp) (λj oj hm hy=>?_);have gR:=ju _ hm;refine⟨vM gR,λox Ow=>?_⟩;simp only at gR;rw[gR]at Ow;simp only[zI]at Ow;subst Ow;obtain⟨y,hy1,hy2⟩:=hy;obtain⟨e,he,XE,rfl⟩:=jb.1 hy1;exact⟨e,by simpa using he,XE,hy2⟩
  have hyi:∃v,YieldsIf P ops (Mi o w) o v a/\K' (a.put o.dst v) w:=by
   unfold yZ at h';split at h'
   ·rename_i hw;rcases h' with⟨_,v,h1,h2⟩|⟨h1,_⟩
    ·exact⟨v,.inl ⟨hw,h1⟩,h2⟩
    ·rw[hy]at h1;simp at h1
   ·rename_i hw;exact⟨undef,.inr ⟨by simpa using hw,rfl⟩,h'⟩
  obtain⟨v,hyv,hk⟩:=hyi;have Zt:∀j,j<ops.size->listed.getD j true=false->j∉done:=λj hj hu=>by
   rw[hr.getD hj]at hu;exact qA.1 hu
  refine KM (w0:=w) (Lt:=jT i (zV 0 ops.toList) []) hi hp.sel hQ (λx hx=>(uS x hx).2) f listed a w ?_ ?_ ?_ hir hyv (Mi.refl o w) (ih _ _ hk)
  ·intro j oj gR Kd hu Ua;rcases Zu QN _ (yR gR) with h1|h1|⟨h1|h1,_⟩
   ·exact absurd h1 Kd
   ·exact absurd h1 (Zt j (vM gR) hu)
   ·obtain⟨e,he,XE,hei⟩:=jb.1 h1;exact absurd hei (Ua e (by simpa using he) XE)
   ·exact UC h1
  ·intro x hx;rw[hr.getD (uS x hx).1];exact qA.2 ((gh.1 QM) x hx)
  ·intro j oj gR Kd hu hM;rcases Zu QN _ (yR gR) with h1|h1|⟨_,h1|h1|h1⟩
   ·exact absurd h1 Kd
   ·exact absurd h1 (Zt j (vM gR) hu)
   ·exact .inr h1
   ·rw[hM]at h1;simp at h1
   ·exact .inl h1
 ·refine⟨λh0=>(by rw[h0]at hir;cases hir),λj hj=>?_⟩;obtain⟨_,oj,gR,_⟩:=mem_ready.1 hj;have h1:=(jS hr hd gR).1 hj;have Kd:j=i:=by
   rcases Ql hal _ (yR gR) with h2|h2|h2
   ·exact h2
   ·exact absurd h2 h1.1
   ·rw[h1.2]at h2;simp at h2
  subst Kd;exact wpOp_mono (λa' w' hh=>⟨hh.1,ih _ _ hh.2⟩) (h'.wpOp hi)
theorem Ic{q:Bool}(hp:CD ops)(hQ:∀c a w,¬Q (.panic c) a w):(L:List (Nat×Oper))->(∀x∈L,ops[x.1]? = some x.2)->{listed:Array Bool}->{done:List Nat}->{a:Act}->{w:World}->{fuel:Nat}->
  L.length<=fuel->Rel ops listed done->(∀x∈done,x<ops.size)->YG q (gu ops.toList) (zV 0 ops.toList) L done=true->Jk q P ops Q (Q .normal) L a w->Q8 q P .any ops Q fuel listed a w
 |[],_,listed,done,a,w,fuel,_,hr,hd,ho,h=>by
  simp only[YG]at ho;have QM:Region.ready .any ops listed=[]:=by
   rw[Z4x];intro j hj;obtain⟨_,o,gR,_⟩:=mem_ready.1 hj;have h1:=(jS hr hd gR).1 hj;rcases Ql ho _ (yR gR) with h2|h2|h2
   ·have h3:=uR (yR gR);have h4:(zV 0 ops.toList).length=ops.toList.length:=by
     have:=Wm List.length (xD ops.toList 0);simpa using this
    simp only at h2 h3;omega
   ·exact h1.1 h2
   ·rw[h1.2]at h2;simp at h2
  cases fuel with
  |zero=>exact⟨QM,h⟩
  |succ f=>exact⟨λ_=>h,λi hi=>by rw[QM]at hi;simp at hi⟩
 |(i,o)::L,hL,listed,done,a,w,fuel,hf,hr,hd,ho,h=>by
  simp only[YG,zA,PF]at ho;obtain⟨⟨hni,hat⟩,pO⟩:=ho;have hi:ops[i]? = some o:=hL (i,o) (by simp);have yP:=vM hi;obtain⟨f,rfl⟩:∃f,fuel=f+1:=⟨fuel-1,by simp only[X4]at hf;omega⟩;have KY:L.length<=f:=by simp only[X4]at hf;omega
  have I1:∀x∈i::done,x<ops.size:=by
   intro x hx;rcases gJ.1 hx with rfl|hx
   ·exact yP
   ·exact hd x hx
  have ih:∀{a' w'},Jk q P ops Q (Q .normal) L a' w'->Q8 q P .any ops Q f (listed.setIfInBounds i true) a' w':=λ{a' w'} h'=>
   Ic hp hQ L (λx hx=>hL x (by simp[hx])) KY hr.add I1 pO h'
  simp only[Cs,zA,CX]at hat;have hir:i∈Region.ready .any ops listed:=(jS hr hd hi).2 ⟨qA.1 hni,hat.1⟩;have h':yZ q P ops Q o (Jk q P ops Q (Q .normal) L) a w:=h;rcases hat.2 with⟨⟨hy,QN⟩,QM⟩|hal
  ·have uS:∀x∈jT i (zV 0 ops.toList) [],x<ops.size/\∀ox,ops[x]? = some ox->∃e∈ox.after,Region.binds .any e=true/\(e.on=i\/e.on∈jT i (zV 0 ops.toList) []):=by
    refine Z9 (by simp) (λj oj hm hy=>?_);have gR:=ju _ hm;refine⟨vM gR,λox Ow=>?_⟩;simp only at gR;rw[gR]at Ow;simp only[zI]at Ow;subst Ow;obtain⟨y,hy1,hy2⟩:=hy;obtain⟨e,he,XE,rfl⟩:=jb.1 hy1;exact⟨e,by simpa using he,XE,hy2⟩
   have hyi:∃v,YieldsIf P ops (Mi o w) o v a/\Jk q P ops Q (Q .normal) L (a.put o.dst v) w:=by
    unfold yZ at h';split at h'
    ·rename_i hw;rcases h' with⟨_,v,h1,h2⟩|⟨h1,_⟩
     ·exact⟨v,.inl ⟨hw,h1⟩,h2⟩
     ·rw[hy]at h1;simp at h1
    ·rename_i hw;exact⟨undef,.inr ⟨by simpa using hw,rfl⟩,h'⟩
   obtain⟨v,hyv,hk⟩:=hyi;have Zt:∀j,j<ops.size->listed.getD j true=false->j∉done:=λj hj hu=>by
    rw[hr.getD hj]at hu;exact qA.1 hu
   refine KM (w0:=w) (Lt:=jT i (zV 0 ops.toList) []) hi hp.sel hQ (λx hx=>(uS x hx).2) f listed a w ?_ ?_ ?_ hir hyv (Mi.refl o w) (ih hk)
   ·intro j oj gR Kd hu Ua;rcases Zu QN _ (yR gR) with h1|h1|⟨h1|h1,_⟩
    ·exact absurd h1 Kd
    ·exact absurd h1 (Zt j (vM gR) hu)
    ·obtain⟨e,he,XE,hei⟩:=jb.1 h1;exact absurd hei (Ua e (by simpa using he) XE)
    ·exact UC h1
   ·intro x hx;rw[hr.getD (uS x hx).1];exact qA.2 ((gh.1 QM) x hx)
   ·intro j oj gR Kd hu hM;rcases Zu QN _ (yR gR) with h1|h1|⟨_,h1|h1|h1⟩
    ·exact absurd h1 Kd
    ·exact absurd h1 (Zt j (vM gR) hu)
    ·exact .inr h1
    ·rw[hM]at h1;simp at h1
    ·exact .inl h1
  ·refine⟨λh0=>(by rw[h0]at hir;cases hir),λj hj=>?_⟩;obtain⟨_,oj,gR,_⟩:=mem_ready.1 hj;have h1:=(jS hr hd gR).1 hj;have Kd:j=i:=by
    rcases Ql hal _ (yR gR) with h2|h2|h2
    ·exact h2
    ·exact absurd h2 h1.1
    ·rw[h1.2]at h2;simp at h2
   subst Kd;exact wpOp_mono (λa' w' hh=>⟨hh.1,ih hh.2⟩) (h'.wpOp hi)
theorem K6{q:Bool}{dst:Nat->Option Nat}{all:List (Nat×Oper)}:{n:Nat}->{done:List Nat}->∀x∈Jo q dst all n done,x∈all
 |0,_,x,hx=>by simp[Jo]at hx
 |n+1,done,x,hx=>by
  simp only[Jo]at hx;split at hx
  ·rename_i i o hn;have hmem:(i,o)∈all:=by
    have key:∀(l:List (Nat×Oper)),Gk q dst all done l=some (i,o)->(i,o)∈l:=by
     intro l
     induction l with
     |nil=>intro h;simp[Gk]at h
     |cons y l ih=>
      obtain⟨j,oj⟩:=y;intro h;simp only[Gk]at h
      cases hc:(!qs j done&&Cs q dst all done j oj) with
      |true=>rw[hc]at h;simp at h;simp[h.1,h.2]
      |false=>rw[hc]at h;simp only[zU]at h;simp[ih h]
    exact key all hn
   rcases gJ.1 hx with rfl|hx
   ·exact hmem
   ·exact K6 x hx
  ·simp at hx
theorem Ad{q:Bool}{dst:Nat->Option Nat}{all:List (Nat×Oper)}:(n:Nat)->(done:List Nat)->(Jo q dst all n done).length<=n
 |0,_=>by simp[Jo]
 |n+1,done=>by
  simp only[Jo];split
  ·simp only[X4];exact Nat.succ_le_succ (Ad n _)
  ·simp
theorem WE{q:Bool}{dst:Nat->Option Nat}{all:List (Nat×Oper)}:{L:List (Nat×Oper)}->{done:List Nat}->YG q dst all L done=true->(L.map Prod.fst).Nodup/\∀x∈L,x.1∉done
 |[],_,_=>⟨by simp,by simp⟩
 |(i,o)::L,done,h=>by
  simp only[YG,zA,PF]at h;obtain⟨h1,h2⟩:=WE h.2;refine⟨?_,λx hx=>?_⟩
  ·simp only[Qw,Z2m];refine⟨λhm=>?_,h1⟩;obtain⟨x,hx,he⟩:=pe.1 hm;exact h2 x hx (by simp[he])
  ·rcases gJ.1 hx with rfl|hx
   ·exact qA.1 h.1.1
   ·exact λhd=>h2 x hx (by simp[hd])
end
end Go.Kz
namespace Go.Kz
variable {R:Type}
theorem uG{a b:Ty}{d:a.den}{k:b.den->Option R}:wa a b d k=(wa a b d some).bind k:=by
 unfold wa;split<;>rfl
theorem E7{t:Ty}{k:t.den->Option R}:FC t k=(FC t some).bind k:=by
 cases t<;>rfl
def xg(l:List Operand)(σ σ':St):Prop:=∀t,.tmp t∈l->σ'.zy t=σ.zy t
theorem zo{l:List Operand}{σ σ':St}(h:xg l σ σ'){x:Operand}(hx:x∈l):ev σ' x=ev σ x:=by
 cases x with
 |tmp t=>exact h t hx
 |const v=>
  unfold ev
  cases v with
  |slice a l c=>cases a<;>cases l<;>cases c<;>rfl
  |_=>rfl
 |_=>rfl
theorem ZQ{l:List Operand}{σ σ':St}(h:xg l σ σ'):{m:List Operand}->(∀x∈m,x∈l)->I2 σ' m=I2 σ m
 |[],_=>rfl
 |x::m,hm=>by simp only[I2,zo h (hm x (by simp)),ZQ h (m:=m) (λy hy=>hm y (by simp[hy]))]
theorem MJ{σ:St}{x:Operand}{g a all:z7}{f:Nat}(hx:ev σ x=some g)(h:gF g a=some (f,all)):VG σ x=some f:=by
 unfold gF at h;unfold VG;rw[hx];split at h
 ·rename_i fid cap
  cases hl:gk cap with
  |false=>rw[hl]at h;simp at h
  |true=>
   rw[hl]at h;simp only[zJ,zI,p8]at h;rw[<-h.1]
 ·rename_i fid t d
  cases hl:(gk (jy t d)&&(jy t d).sk.same t.sk) with
  |false=>rw[hl]at h;simp at h
  |true=>
   rw[hl]at h;simp only[zJ,zI,p8]at h;rw[<-h.1]
 ·simp at h
theorem xe:(t:Ty)->(d:t.den)->(p:Path)->{R:Type}->{k:(u:Ty)->u.den->Option R}->zR t d p k=(zR t d p λu e=>some (z7.data u e)).bind λv=>match v with
  |.data u e=>k u e
  |_=>none
 |.pair a _,(x,_),.fst::p,_,k=>by simp only[zR];exact xe a x p
 |.pair _ b,(_,y),.snd::p,_,k=>by simp only[zR];exact xe b y p
 |.arr _ t,l,.idx i::p,_,k=>by
  simp only[zR]
  cases idx l i with
  |none=>rfl
  |some x=>exact xe t x p
 |.sl true t,l,.idx i::p,_,k=>by
  simp only[zR]
  cases idx l i with
  |none=>rfl
  |some x=>exact xe t x p
 |.int _,d,[],_,k=>rfl
 |.bool,d,[],_,k=>rfl
 |.str,d,[],_,k=>rfl
 |.unit,d,[],_,k=>rfl
 |.pair _ _,(_,_),[],_,k=>rfl
 |.arr _ _,d,[],_,k=>rfl
 |.sl true _,d,[],_,k=>rfl
 |.sl false _,d,[],_,k=>rfl
 |.ptr _,d,[],_,k=>rfl
 |.fn _ _,d,[],_,k=>rfl
 |.tree _,d,[],_,k=>rfl
 |.int _,d,s::p,_,k=>by cases s<;>rfl
 |.bool,d,s::p,_,k=>by cases s<;>rfl
 |.str,d,s::p,_,k=>by cases s<;>rfl
 |.unit,d,s::p,_,k=>by cases s<;>rfl
 |.sl false _,d,s::p,_,k=>by cases s<;>rfl
 |.ptr _,d,s::p,_,k=>by cases s<;>rfl
 |.fn _ _,d,s::p,_,k=>by cases s<;>rfl
 |.tree _,d,s::p,_,k=>by cases s<;>rfl
 |.pair _ _,(_,_),.idx _::p,_,k=>rfl
 |.arr _ _,d,.fst::p,_,k=>rfl
 |.arr _ _,d,.snd::p,_,k=>rfl
 |.sl true _,d,.fst::p,_,k=>rfl
 |.sl true _,d,.snd::p,_,k=>rfl
theorem Qa:(a:z7)->(p:Path)->{R:Type}->{k:z7->Option R}->gD a p k=(gD a p some).bind k
 |a,[],_,k=>by cases a<;>rfl
 |.agg c,s::p,_,k=>by simp only[gD];exact Qa c (s::p)
 |.pr a _,.fst::p,_,k=>by simp only[gD];exact Qa a p
 |.pr _ b,.snd::p,_,k=>by simp only[gD];exact Qa b p
 |.pr _ _,.idx _::p,_,k=>rfl
 |.data t d,s::p,_,k=>by
  simp only[gD];rw[xe t d (s::p),xe t d (s::p) (k:=λu e=>some (z7.data u e))]
  cases zR t d (s::p) (λu e=>some (z7.data u e)) with
  |none=>rfl
  |some v=>cases v<;>rfl
 |.za,s::p,_,k=>by cases s<;>rfl
 |.ref _ _ _,s::p,_,k=>by cases s<;>rfl
 |.view _ _ _ _ _,s::p,_,k=>by cases s<;>rfl
 |.zw _ _,s::p,_,k=>by cases s<;>rfl
 |.jV _ _ _,s::p,_,k=>by cases s<;>rfl
 |.qF _,s::p,_,k=>by cases s<;>rfl
 |.nv _ _ _ _,s::p,_,k=>by cases s<;>rfl
 |.qW _ _,s::p,_,k=>by cases s<;>rfl
 | .ZU _ _,s::p,_,k=>by cases s<;>rfl
 |.jD _,s::p,_,k=>by cases s<;>rfl
 |.un,s::p,_,k=>by cases s<;>rfl
theorem St.ext'{a b:St}(h1:a.zy=b.zy)(h2:a.z6=b.z6)(h3:a.next=b.next):a=b:=by
 cases a;cases b;simp only at h1 h2 h3;subst h1;subst h2;subst h3;rfl
end Go.Kz
namespace Go.Kz
variable {R:Type}
section
variable {P:Program}{ops:Array Oper}{Q:Exit->Act->World->Prop}
theorem X0{x:Nat}:{l:List (Nat×Oper)}->{d:List Nat}->(x∈jn l d↔x∈d\/x∈l.map Prod.fst)
 |[],d=>by simp[jn]
 |(i,o)::l,d=>by
  simp only[jn,Qw,gJ];rw[X0 (l:=l)];simp only[gJ];constructor
  ·rintro ((h|h)|h)
   ·exact .inr (.inl h)
   ·exact .inl h
   ·exact .inr (.inr h)
  ·rintro (h|h|h)
   ·exact .inl (.inr h)
   ·exact .inl (.inl h)
   ·exact .inr h
theorem Dm(hp:CD ops)(hQ:∀c a w,¬Q (.panic c) a w){f:Nat}:(L:List (Nat×Oper))->(∀x∈L,ops[x.1]? = some x.2)->{listed:Array Bool}->{done:List Nat}->{a:Act}->{w:World}->
  Rel ops listed done->(∀x∈done,x<ops.size)->E0 (gu ops.toList) (zV 0 ops.toList) L done=true->
  Jk false P ops Q (λa w=>∀pM,Rel ops pM (jn L done)->Q8 false P .any ops Q f pM a w) L a w->Q8 false P .any ops Q (L.length+f) listed a w
 |[],_,listed,done,a,w,hr,hd,ho,h=>by
  rw[Z1y,Wq]
  exact h listed hr
 |(i,o)::L,hL,listed,done,a,w,hr,hd,ho,h=>by
  simp only[E0,zA,PF]at ho;obtain⟨⟨hni,hat⟩,pO⟩:=ho;have hi:ops[i]? = some o:=hL (i,o) (by simp);have yP:=vM hi;have I1:∀x∈i::done,x<ops.size:=by
   intro x hx;rcases gJ.1 hx with rfl|hx
   ·exact yP
   ·exact hd x hx
  have e0:((i,o)::L).length+f=(L.length+f)+1:=by simp only[X4];omega
  rw[e0];have ih:∀{a' w'},Jk false P ops Q (λa w=>∀pM,Rel ops pM (jn ((i,o)::L) done)->Q8 false P .any ops Q f pM a w) L a' w'->Q8 false P .any ops Q (L.length+f) (listed.setIfInBounds i true) a' w':=λ{a' w'} h'=>
   Dm hp hQ L (λx hx=>hL x (by simp[hx])) hr.add I1 pO h'
  simp only[Cs,zA,CX]at hat;have hir:i∈Region.ready .any ops listed:=(jS hr hd hi).2 ⟨qA.1 hni,hat.1⟩;have h':yZ false P ops Q o (Jk false P ops Q (λa w=>∀pM,Rel ops pM (jn ((i,o)::L) done)->Q8 false P .any ops Q f pM a w) L) a w:=h;rcases hat.2 with⟨⟨hy,QN⟩,QM⟩|hal
  ·have uS:∀x∈jT i (zV 0 ops.toList) [],x<ops.size/\∀ox,ops[x]? = some ox->∃e∈ox.after,Region.binds .any e=true/\(e.on=i\/e.on∈jT i (zV 0 ops.toList) []):=by
    refine Z9 (by simp) (λj oj hm hy=>?_);have gR:=ju _ hm;refine⟨vM gR,λox Ow=>?_⟩;simp only at gR;rw[gR]at Ow;simp only[zI]at Ow;subst Ow;obtain⟨y,hy1,hy2⟩:=hy;obtain⟨e,he,XE,rfl⟩:=jb.1 hy1;exact⟨e,by simpa using he,XE,hy2⟩
   have hyi:∃v,YieldsIf P ops (Mi o w) o v a/\Jk false P ops Q (λa w=>∀pM,Rel ops pM (jn ((i,o)::L) done)->Q8 false P .any ops Q f pM a w) L (a.put o.dst v) w:=by
    unfold yZ at h';split at h'
    ·rename_i hw;rcases h' with⟨_,v,h1,h2⟩|⟨h1,_⟩
     ·exact⟨v,.inl ⟨hw,h1⟩,h2⟩
     ·rw[hy]at h1;simp at h1
    ·rename_i hw;exact⟨undef,.inr ⟨by simpa using hw,rfl⟩,h'⟩
   obtain⟨v,hyv,hk⟩:=hyi;have Zt:∀j,j<ops.size->listed.getD j true=false->j∉done:=λj hj hu=>by
    rw[hr.getD hj]at hu;exact qA.1 hu
   refine KM (w0:=w) (Lt:=jT i (zV 0 ops.toList) []) hi hp.sel hQ (λx hx=>(uS x hx).2) _ listed a w ?_ ?_ ?_ hir hyv (Mi.refl o w) (ih hk)
   ·intro j oj gR Kd hu Ua;rcases Zu QN _ (yR gR) with h1|h1|⟨h1|h1,_⟩
    ·exact absurd h1 Kd
    ·exact absurd h1 (Zt j (vM gR) hu)
    ·obtain⟨e,he,XE,hei⟩:=jb.1 h1;exact absurd hei (Ua e (by simpa using he) XE)
    ·exact UC h1
   ·intro x hx;rw[hr.getD (uS x hx).1];exact qA.2 ((gh.1 QM) x hx)
   ·intro j oj gR Kd hu hM;rcases Zu QN _ (yR gR) with h1|h1|⟨_,h1|h1|h1⟩
    ·exact absurd h1 Kd
    ·exact absurd h1 (Zt j (vM gR) hu)
    ·exact .inr h1
    ·rw[hM]at h1;simp at h1
    ·exact .inl h1
  ·refine⟨λh0=>(by rw[h0]at hir;cases hir),λj hj=>?_⟩;obtain⟨_,oj,gR,_⟩:=mem_ready.1 hj;have h1:=(jS hr hd gR).1 hj;have Kd:j=i:=by
    rcases Ql hal _ (yR gR) with h2|h2|h2
    ·exact h2
    ·exact absurd h2 h1.1
    ·rw[h1.2]at h2;simp at h2
   subst Kd;exact wpOp_mono (λa' w' hh=>⟨hh.1,ih hh.2⟩) (h'.wpOp hi)
theorem Dt{dst:Nat->Option Nat}{all:List (Nat×Oper)}:{L:List (Nat×Oper)}->{done:List Nat}->E0 dst all L done=true->(L.map Prod.fst).Nodup/\∀x∈L,x.1∉done
 |[],_,_=>⟨by simp,by simp⟩
 |(i,o)::L,done,h=>by
  simp only[E0,zA,PF]at h;obtain⟨h1,h2⟩:=Dt h.2;refine⟨?_,λx hx=>?_⟩
  ·simp only[Qw,Z2m];refine⟨λhm=>?_,h1⟩;obtain⟨x,hx,he⟩:=pe.1 hm;exact h2 x hx (by simp[he])
  ·rcases gJ.1 hx with rfl|hx
   ·exact qA.1 h.1.1
   ·exact λhd=>h2 x hx (by simp[hd])
theorem ET{n m:Nat}(h:n=m){md:Region.Mode}{l:Array Bool}{a:Act}{w:World}(hg:Q8 false P md ops Q n l a w):Q8 false P md ops Q m l a w:=h ▸ hg
end
end Go.Kz
namespace Go.Kz
variable {R:Type}
def Qq(σ τ:St):Prop:=∀id x,σ.z6 id=some x->τ.z6 id=some x
def jJ:List (Nat×Option Obj)->St->St
 |[],σ=>σ
 |(i,o)::l,σ=>jJ l { σ with z6:=Y4 σ.z6 i o }
theorem qK(l m:List (Nat×Option Obj))(σ:St):jJ (l++m) σ=jJ m (jJ l σ):=by
 induction l generalizing σ with
 |nil=>rfl
 |cons x l ih=>obtain⟨i,o⟩:=x;exact ih _
theorem Qq.Y4{σ τ:St}(h:Qq σ τ)(i:Nat)(o:Option Obj):Qq { σ with z6:=Y4 σ.z6 i o } { τ with z6:=Go.Kz.Y4 τ.z6 i o }:=by
 intro id x hx;simp only[Go.Kz.Y4]at hx⊢
 cases hb:Nat.beq id i with
 |true=>rw[hb]at hx;exact hx
 |false=>rw[hb]at hx;exact h id x hx
theorem Qq.jJ{σ τ:St}(h:Qq σ τ):(l:List (Nat×Option Obj))->Qq (Go.Kz.jJ l σ) (Go.Kz.jJ l τ)
 |[]=>h
 |(i,o)::l=>Qq.jJ (h.Y4 i o) l
theorem YW:(l:List (Nat×Option Obj))->(σ:St)->(jJ l σ).zy=σ.zy
 |[],_=>rfl
 |(_,_)::l,σ=>YW l _
theorem Dd:(l:List (Nat×Option Obj))->(σ:St)->(jJ l σ).next=σ.next
 |[],_=>rfl
 |(_,_)::l,σ=>Dd l _
theorem Jm{i:Nat}:(l:List (Nat×Option Obj))->(σ:St)->i∉l.map Prod.fst->(jJ l σ).z6 i=σ.z6 i
 |[],_,_=>rfl
 |(j,o)::l,σ,h=>by
  simp only[Qw,gJ,not_or]at h;simp only[jJ];rw[Jm l _ h.2];have hb:Nat.beq i j=false:=by
   cases hb:Nat.beq i j with
   |true=>exact absurd (zE hb) h.1
   |false=>rfl
  simp only[Y4,hb,zU]
theorem XX{i:Nat}:(l:List (Nat×Option Obj))->(σ τ:St)->i∈l.map Prod.fst->(jJ l σ).z6 i=(jJ l τ).z6 i
 |[],_,_,h=>by simp at h
 |(j,o)::l,σ,τ,h=>by
  simp only[jJ];by_cases hm:i∈l.map Prod.fst
  ·exact XX l _ _ hm
  ·rw[Jm l _ hm,Jm l _ hm];simp only[Qw,gJ]at h;rcases h with rfl|h
   ·simp only[Y4,R4,zJ]
   ·exact absurd h hm
def gI(n:Nat)(σ:St)(ob:List (Nat×Option Obj)):Prop:=∀x∈ob,(∃y,σ.z6 x.1=some y)\/(n<=x.1/\x.1<n+8)
theorem gI.nil{n:Nat}{σ:St}:gI n σ []:=by intro x hx;simp at hx
theorem gI.append{n:Nat}{σ:St}{l m:List (Nat×Option Obj)}(h:gI n σ l)(h':gI n (jJ l σ) m):gI n σ (l++m):=by
 intro x hx;rcases PH.1 hx with hx|hx
 ·exact h x hx
 ·rcases h' x hx with⟨y,hy⟩|h2
  ·by_cases hm:x.1∈l.map Prod.fst
   ·obtain⟨z,hz,he⟩:=pe.1 hm;rw[<-he];exact h z hz
   ·rw[Jm l σ hm]at hy;exact .inl ⟨y,hy⟩
  ·exact .inr h2
theorem gI.old{n:Nat}{σ:St}{i:Nat}{y:Obj}{o:Option Obj}(h:σ.z6 i=some y):gI n σ [(i,o)]:=by
 intro x hx;simp only[Om]at hx;subst hx;exact .inl ⟨y,h⟩
theorem gI.new{n:Nat}{σ:St}{o:Option Obj}:gI n σ [(n,o)]:=by
 intro x hx;simp only[Om]at hx;subst hx;exact .inr ⟨jq _,by omega⟩
theorem uK{a b:Ty}{d:a.den}{k:b.den->Option R}{r:R}(h:wa a b d k=some r):∃e,k e=some r/\∀(R':Type)(k':b.den->Option R'),wa a b d k'=k' e:=by
 rw[uG]at h;obtain⟨e,he,hk⟩:=Zh.1 h;exact⟨e,hk,λR' k'=>by rw[uG,he];rfl⟩
theorem BR(a b:Ty)(d:a.den)(k:b.den->Option R):kO a b d k=(kO a b d some).bind k:=by
 fun_cases kO a b d k
 ·simp only[kO];exact uG
 ·rename_i x y j d k;simp only[kO];have h1:=uG (a:=.sl false (.pair x y)) (b:=.sl false (.pair (xq j) (xz j))) (d:=d) (k:=λl:List _=>k (List.map (wo j) l));have h2:=uG (a:=.sl false (.pair x y)) (b:=.sl false (.pair (xq j) (xz j))) (d:=d) (k:=λl:List _=>some (List.map (wo j) l));refine h1.trans ?_;refine Eq.trans ?_ (Wm (λz=>z.bind k) h2).symm;simp only[Option.bind_assoc];rfl
 ·rename_i h1 h2;have e:∀(R':Type)(k':b.den->Option R'),kO a b d k'=wa a b d k':=by
   intro R' k';unfold kO;split
   ·exact(h1 _ _ _ _ _ rfl rfl HEq.rfl HEq.rfl).elim
   ·exact(h2 _ _ _ _ _ rfl rfl HEq.rfl HEq.rfl).elim
   ·rfl
  rw[e,uG]
theorem px{a b:Ty}{d:a.den}{k:b.den->Option R}{r:R}(h:kO a b d k=some r):∃e,k e=some r/\∀(R':Type)(k':b.den->Option R'),kO a b d k'=k' e:=by
 rw[BR]at h;obtain⟨e,he,hk⟩:=Zh.1 h;exact⟨e,hk,λR' k'=>by rw[BR,he];rfl⟩
theorem Lz{t:Ty}{k:t.den->Option R}{r:R}(h:FC t k=some r):∃e,k e=some r/\∀(R':Type)(k':t.den->Option R'),FC t k'=k' e:=by
 rw[E7]at h;obtain⟨e,he,hk⟩:=Zh.1 h;exact⟨e,hk,λR' k'=>by rw[E7,he];rfl⟩
theorem BN{a:z7}{p:Path}{k:z7->Option R}{r:R}(h:gD a p k=some r):∃e,k e=some r/\∀(R':Type)(k':z7->Option R'),gD a p k'=k' e:=by
 rw[Qa]at h;obtain⟨e,he,hk⟩:=Zh.1 h;exact⟨e,hk,λR' k'=>by rw[Qa,he];rfl⟩
theorem kN:(t:Ty)->(d:t.den)->(p:Path)->{k:(u:Ty)->u.den->Option R}->{r:R}->zR t d p k=some r->
  ∃(u:Ty)(e:u.den),k u e=some r/\∀(R':Type) (k':(u:Ty)->u.den->Option R'),zR t d p k'=k' u e
 |t,d,[],k,r,h=>⟨t,d,by cases t<;>simpa[zR]using h,λR' k'=>by cases t<;>simp[zR]⟩
 |.pair a _,(x,_),.fst::p,k,r,h=>by simp only[zR]at h⊢;exact kN a x p h
 |.pair _ b,(_,y),.snd::p,k,r,h=>by simp only[zR]at h⊢;exact kN b y p h
 |.arr _ t,l,.idx i::p,k,r,h=>by
  simp only[zR]at h⊢;obtain⟨x,hx,h⟩:=Zh.1 h;obtain⟨u,e,hk,ha⟩:=kN t x p h
  exact⟨u,e,hk,λR' k'=>by rw[hx,zO];exact ha _ _⟩
 |.sl true t,l,.idx i::p,k,r,h=>by
  simp only[zR]at h⊢;obtain⟨x,hx,h⟩:=Zh.1 h;obtain⟨u,e,hk,ha⟩:=kN t x p h
  exact⟨u,e,hk,λR' k'=>by rw[hx,zO];exact ha _ _⟩
 |.int _,d,s::p,k,r,h=>by cases s<;>simp[zR]at h
 |.bool,d,s::p,k,r,h=>by cases s<;>simp[zR]at h
 |.str,d,s::p,k,r,h=>by cases s<;>simp[zR]at h
 |.unit,d,s::p,k,r,h=>by cases s<;>simp[zR]at h
 |.sl false _,d,s::p,k,r,h=>by cases s<;>simp[zR]at h
 |.ptr _,d,s::p,k,r,h=>by cases s<;>simp[zR]at h
 |.fn _ _,d,s::p,k,r,h=>by cases s<;>simp[zR]at h
 |.tree _,d,s::p,k,r,h=>by cases s<;>simp[zR]at h
 |.pair _ _,(_,_),.idx _::p,k,r,h=>by simp[zR]at h
 |.arr _ _,d,.fst::p,k,r,h=>by simp[zR]at h
 |.arr _ _,d,.snd::p,k,r,h=>by simp[zR]at h
 |.sl true _,d,.fst::p,k,r,h=>by simp[zR]at h
 |.sl true _,d,.snd::p,k,r,h=>by simp[zR]at h
theorem pE{u:Ty}{e:u.den}:(t:Ty)->(d:t.den)->(p:Path)->{k:t.den->Option R}->{r:R}->yT t d p u e k=some r->
  ∃d',k d'=some r/\∀(R':Type)(k':t.den->Option R'),yT t d p u e k'=k' d'
 |t,d,[],k,r,h=>by
  have h':wa u t e k=some r:=by cases t<;>simpa[yT]using h
  obtain⟨d',hk,ha⟩:=uK h'
  exact⟨d',hk,λR' k'=>by rw[<-ha R' k'];cases t<;>simp[yT]⟩
 |.pair a _,(x,y),.fst::p,k,r,h=>by
  simp only[yT]at h⊢;obtain⟨x',hk,ha⟩:=pE a x p h
  exact⟨(x',y),hk,λR' k'=>ha R' _⟩
 |.pair _ b,(x,y),.snd::p,k,r,h=>by
  simp only[yT]at h⊢;obtain⟨y',hk,ha⟩:=pE b y p h
  exact⟨(x,y'),hk,λR' k'=>ha R' _⟩
 |.arr _ t,l,.idx i::p,k,r,h=>by
  simp only[yT]at h⊢;obtain⟨x,hx,h⟩:=Zh.1 h;obtain⟨x',hk,ha⟩:=pE t x p h
  exact⟨_,hk,λR' k'=>by rw[hx,zO];exact ha _ _⟩
 |.sl true t,l,.idx i::p,k,r,h=>by
  simp only[yT]at h⊢;obtain⟨x,hx,h⟩:=Zh.1 h;obtain⟨x',hk,ha⟩:=pE t x p h
  exact⟨_,hk,λR' k'=>by rw[hx,zO];exact ha _ _⟩
 |.int _,d,s::p,k,r,h=>by cases s<;>simp[yT]at h
 |.bool,d,s::p,k,r,h=>by cases s<;>simp[yT]at h
 |.str,d,s::p,k,r,h=>by cases s<;>simp[yT]at h
 |.unit,d,s::p,k,r,h=>by cases s<;>simp[yT]at h
 |.sl false _,d,s::p,k,r,h=>by cases s<;>simp[yT]at h
 |.ptr _,d,s::p,k,r,h=>by cases s<;>simp[yT]at h
 |.fn _ _,d,s::p,k,r,h=>by cases s<;>simp[yT]at h
 |.tree _,d,s::p,k,r,h=>by cases s<;>simp[yT]at h
 |.pair _ _,(_,_),.idx _::p,k,r,h=>by simp[yT]at h
 |.arr _ _,d,.fst::p,k,r,h=>by simp[yT]at h
 |.arr _ _,d,.snd::p,k,r,h=>by simp[yT]at h
 |.sl true _,d,.fst::p,k,r,h=>by simp[yT]at h
 |.sl true _,d,.snd::p,k,r,h=>by simp[yT]at h
theorem YZ{new:z7}:(t:Ty)->(d:t.den)->(p:Path)->{k:z7->Option R}->{r:R}->qp new t d p k=some r->
  ∃u,k u=some r/\∀(R':Type)(k':z7->Option R'),qp new t d p k'=k' u
 |.pair a b,(x,y),[.fst],k,r,h=>⟨_,h,λ_ _=>rfl⟩
 |.pair a b,(x,y),.fst::s::p,k,r,h=>by
  simp only[qp]at h⊢;obtain⟨u,hk,ha⟩:=YZ a x (s::p) h
  exact⟨_,hk,λR' k'=>ha R' _⟩
 |.pair a b,(x,y),.snd::p,k,r,h=>by
  have e:∀(R':Type)(k':z7->Option R'),qp new (.pair a b) (x,y) (.snd::p) k'=qp new b y p λu=>k' (.pr (.data a x) u):=λR' k'=>by simp[qp]
  rw[e]at h;obtain⟨u,hk,ha⟩:=YZ b y p h
  exact⟨_,hk,λR' k'=>by rw[e];exact ha R' _⟩
 |.pair _ _,_,[],_,_,hk=>by simp[qp]at hk
 |.pair _ _,_,.idx _::_,_,_,hk=>by simp[qp]at hk
 |.int _,_,_,_,_,hk=>by simp[qp]at hk
 |.bool,_,_,_,_,hk=>by simp[qp]at hk
 |.str,_,_,_,_,hk=>by simp[qp]at hk
 |.unit,_,_,_,_,hk=>by simp[qp]at hk
 |.arr _ _,_,_,_,_,hk=>by simp[qp]at hk
 |.sl _ _,_,_,_,_,hk=>by simp[qp]at hk
 |.ptr _,_,_,_,_,hk=>by simp[qp]at hk
 |.fn _ _,_,_,_,_,hk=>by simp[qp]at hk
 |.tree _,_,_,_,_,hk=>by simp[qp]at hk
theorem G1{new:z7}:(a:z7)->(p:Path)->{k:z7->Option R}->{r:R}->w6 new a p k=some r->
  ∃u,k u=some r/\∀(R':Type)(k':z7->Option R'),w6 new a p k'=k' u
 |a,[],k,r,h=>⟨new,by cases a<;>simpa[w6]using h,λR' k'=>by cases a<;>rfl⟩
 |.agg c,s::p,k,r,h=>by
  simp only[w6]at h⊢;obtain⟨u,hk,ha⟩:=G1 c (s::p) h
  exact⟨_,hk,λR' k'=>ha R' _⟩
 |.pr a b,.fst::p,k,r,h=>by
  simp only[w6]at h⊢;obtain⟨u,hk,ha⟩:=G1 a p h
  exact⟨_,hk,λR' k'=>ha R' _⟩
 |.pr a b,.snd::p,k,r,h=>by
  simp only[w6]at h⊢;obtain⟨u,hk,ha⟩:=G1 b p h
  exact⟨_,hk,λR' k'=>ha R' _⟩
 |.data t d,s::p,k,r,h=>by
  have e:∀(R':Type)(k':z7->Option R'),w6 new (.data t d) (s::p) k'=cond (BS t (s::p) new) (PT new t d (s::p) k')
   (qp new t d (s::p) λu=>cond (u.sk.same t.sk) (k' (.agg u)) none):=λR' k'=>by cases s<;>rfl
  rw[e]at h
  cases hf:BS t (s::p) new with
  |true=>
   rw[hf,zJ]at h;unfold PT at h;split at h
   ·rename_i u e';obtain⟨d',hk,ha⟩:=pE _ _ _ h;exact⟨_,hk,λR' k'=>by rw[e,hf,zJ];simp only[PT];exact ha R' _⟩
   ·simp at h
  |false=>
   rw[hf,zU]at h;obtain⟨u,hk,ha⟩:=YZ _ _ _ h
   cases hs:u.sk.same t.sk with
   |false=>rw[hs]at hk;simp at hk
   |true=>
    rw[hs,zJ]at hk
    exact⟨_,hk,λR' k'=>by rw[e,hf,zU,ha,hs,zJ]⟩
 |.za,s::_,_,_,h=>by cases s<;>simp[w6]at h
 |.ref _ _ _,s::_,_,_,h=>by cases s<;>simp[w6]at h
 |.view _ _ _ _ _,s::_,_,_,h=>by cases s<;>simp[w6]at h
 |.zw _ _,s::_,_,_,h=>by cases s<;>simp[w6]at h
 |.jV _ _ _,s::_,_,_,h=>by cases s<;>simp[w6]at h
 |.qF _,s::_,_,_,h=>by cases s<;>simp[w6]at h
 |.nv _ _ _ _,s::_,_,_,h=>by cases s<;>simp[w6]at h
 |.qW _ _,s::_,_,_,h=>by cases s<;>simp[w6]at h
 | .ZU _ _,s::_,_,_,h=>by cases s<;>simp[w6]at h
 |.jD _,s::_,_,_,h=>by cases s<;>simp[w6]at h
 |.un,s::_,_,_,h=>by cases s<;>simp[w6]at h
 |.pr _ _,.idx _::_,_,_,h=>by simp[w6]at h
theorem p6{σ:St}{id:Nat}{p:Path}{ep:Nat}{k:(u:Ty)->List u.den->Option R}{r:R}(h:p7 σ id p ep k=some r):
  ∃u l,k u l=some r/\∀τ,Qq σ τ->∀(R':Type) (k':(u:Ty)->List u.den->Option R'),p7 τ id p ep k'=k' u l:=by
 unfold p7 at h;split at h
 ·rename_i t l e ho
  cases hb:Nat.beq e ep with
  |false=>rw[hb]at h;simp at h
  |true=>
   rw[hb,zJ]at h;unfold AP at h;obtain⟨u,d,hk,ha⟩:=kN _ _ _ h;split at hk
   ·rename_i v l';refine⟨v,l',hk,λτ hle R' k'=>?_⟩;unfold p7;rw[hle _ _ ho];simp only[hb,zJ,AP];rw[ha]
   ·simp at hk
 ·simp at h
theorem um{σ:St}{id:Nat}{p:Path}{ep:Nat}{k:(u:Ty)->u.den->Option R}{r:R}(h:kZ σ id p ep k=some r):
  ∃u d,k u d=some r/\∀τ,Qq σ τ->∀(R':Type) (k':(u:Ty)->u.den->Option R'),kZ τ id p ep k'=k' u d:=by
 unfold kZ at h;split at h
 ·rename_i t l e ho
  cases hb:Nat.beq e ep with
  |false=>rw[hb]at h;simp at h
  |true=>
   rw[hb,zJ]at h;unfold AP at h;obtain⟨u,d,hk,ha⟩:=kN _ _ _ h;refine⟨u,d,hk,λτ hle R' k'=>?_⟩;unfold kZ;rw[hle _ _ ho];simp only[hb,zJ,AP];exact ha R' k'
 ·simp at h
theorem Ze{σ:St}{id:Nat}{p:Path}{k:z7->Option R}{r:R}(h:uD σ id p k=some r):
  ∃a,k a=some r/\∀τ,Qq σ τ->∀(R':Type)(k':z7->Option R'),uD τ id p k'=k' a:=by
 unfold uD at h;split at h
 ·rename_i a ho;split at h
  ·rename_i x hx;obtain⟨u,hk,ha⟩:=BN h;refine⟨u,hk,λτ hle R' k'=>?_⟩;unfold uD;rw[hle _ _ ho];simp only[hx];exact ha R' k'
  ·simp at h
 ·simp at h
theorem z6m{h:Option PB}{p:Path}{x:Option R}{r:R}(hx:z0s h p x=some r):x=some r/\∀(R':Type)(y:Option R'),z0s h p y=y:=by
 unfold z0s at hx⊢;split at hx
 ·exact⟨hx,λ_ _=>rfl⟩
 ·rename_i d j q;simp only[qV]at hx⊢
  cases hb:decide (d<=j) with
  |false=>rw[hb]at hx;simp at hx
  |true=>rw[hb]at hx;exact⟨hx,λ_ _=>rfl⟩
 ·simp at hx
theorem V2{σ:St}{pt:Bool}{id:Nat}{p:Path}{ep:Nat}{k:(u:Ty)->u.den->Option R}{r:R}(h:pI σ pt id p ep k=some r):
  ∃u d,k u d=some r/\∀τ,Qq σ τ->xL τ id=xL σ id/\∀(R':Type) (k':(u:Ty)->u.den->Option R'),pI τ pt id p ep k'=k' u d:=by
 unfold pI at h;split at h
 ·rename_i t l e i h0 ho
  cases hb:Nat.beq (Hr pt p e i) ep with
  |false=>rw[hb]at h;simp at h
  |true=>
   rw[hb,zJ]at h;obtain⟨h,WQ⟩:=z6m h;unfold AP at h;obtain⟨u,d,hk,ha⟩:=kN _ _ _ h;refine⟨u,d,hk,λτ hle=>⟨?_,λR' k'=>?_⟩⟩
   ·unfold xL;rw[hle _ _ ho,ho]
   ·unfold pI;rw[hle _ _ ho];simp only[hb,zJ,AP];rw[WQ];exact ha R' k'
 ·simp at h
theorem QP{σ:St}{id:Nat}{p:Path}{ep:Nat}{k:(v:Ty)->List v.den->Option R}{r:R}(h:ZN σ id p ep k=some r):
  ∃v l,k v l=some r/\∀τ,Qq σ τ->xL τ id=xL σ id/\∀(R':Type) (k':(v:Ty)->List v.den->Option R'),ZN τ id p ep k'=k' v l:=by
 unfold ZN at h;obtain⟨u,d,hk,ha⟩:=V2 h;split at hk
 ·rename_i v l;refine⟨v,l,hk,λτ hle=>⟨(ha τ hle).1,λR' k'=>?_⟩⟩;unfold ZN;rw[(ha τ hle).2]
 ·simp at hk
theorem wH{σ:St}:(m:Nat)->{R:Type}->(a:z7)->(t:Ty)->{k:t.den->Option R}->{r:R}->asData σ m a t k=some r->
  ∃d,k d=some r/\∀τ,Qq σ τ->∀(R':Type)(k':t.den->Option R'),asData τ m a t k'=k' d
 |0,_,_,_,_,_,h=>by simp[asData]at h
 |m+1,_,.data t' d,t,k,r,h=>by
  simp only[asData]at h⊢;obtain⟨e,hk,ha⟩:=px h
  exact⟨e,hk,λ_ _ R' k'=>ha R' k'⟩
 |m+1,_,.za,t,k,r,h=>by
  simp only[asData]at h⊢
  cases hr:t.zW with
  |false=>rw[hr]at h;simp at h
  |true=>
   rw[hr,zJ]at h;obtain⟨e,hk,ha⟩:=Lz h
   exact⟨e,hk,λ_ _ R' k'=>by rw[zJ];exact ha R' k'⟩
 |m+1,_,.ref id p ep,t,k,r,h=>by
  simp only[asData]at h⊢;obtain⟨u,l,hk,ha⟩:=p6 h;obtain⟨e,hk,hb⟩:=px hk
  exact⟨e,hk,λτ hle R' k'=>by rw[ha τ hle];exact hb R' k'⟩
 |m+1,_,.view id p ep a b,t,k,r,h=>by
  simp only[asData]at h⊢;obtain⟨u,l,hk,ha⟩:=p6 h;obtain⟨e,hk,hb⟩:=px hk
  exact⟨e,hk,λτ hle R' k'=>by rw[ha τ hle];exact hb R' k'⟩
 |m+1,_,.zw id p,.ptr t,k,r,h=>by
  simp only[asData]at h⊢;obtain⟨a,hk,ha⟩:=Ze h;obtain⟨e,hk,hb⟩:=wH m a t hk
  exact⟨e,hk,λτ hle R' k'=>by rw[ha τ hle];exact hb τ hle R' k'⟩
 |m+1,_,.jV id p ep,.ptr t,k,r,h=>by
  simp only[asData]at h⊢;obtain⟨u,d,hk,ha⟩:=um h;obtain⟨e,hk,hb⟩:=uK hk
  exact⟨e,hk,λτ hle R' k'=>by rw[ha τ hle];exact hb R' k'⟩
 |m+1,_,.qW f c,.fn g t,k,r,h=>by
  simp only[asData]at h⊢
  cases hb:Nat.beq f g with
  |false=>rw[hb]at h;simp at h
  |true=>
   rw[hb,zJ]at h;obtain⟨e,hk,ha⟩:=wH m c t h
   exact⟨e,hk,λτ hle R' k'=>by rw[zJ];exact ha τ hle R' k'⟩
 |m+1,_,.agg c,t,k,r,h=>by
  simp only[asData]at h⊢
  exact wH m c t h
 |m+1,_,.pr a b,.pair t u,k,r,h=>by
  simp only[asData]at h⊢;obtain⟨x,hk,ha⟩:=wH m a t h;obtain⟨y,hk,hb⟩:=wH m b u hk
  exact⟨(x,y),hk,λτ hle R' k'=>by rw[ha τ hle];exact hb τ hle R' _⟩
 |m+1,_,.un,.unit,k,r,h=>by
  simp only[asData]at h⊢
  exact⟨(),h,λ_ _ _ _=>trivial⟩
 |m+1,_,.jD _,t,k,r,h=>by simp[asData]at h
 |m+1,_,.qF _,t,k,r,h=>by simp[asData]at h
 |m+1,_,.nv true _ _ _,t,k,r,h=>by simp[asData]at h
 |m+1,_,.nv false id p ep,t,k,r,h=>by
  simp only[asData]at h⊢;obtain⟨u,l,hk,ha⟩:=QP h;obtain⟨e,hk,hb⟩:=px hk
  exact⟨e,hk,λτ hle R' k'=>by rw[(ha τ hle).2];exact hb R' k'⟩
 |m+1,_,.zw _ _,.int _,_,_,h|m+1,_,.zw _ _,.bool,_,_,h|m+1,_,.zw _ _,.str,_,_,h|m+1,_,.zw _ _,.unit,_,_,h|m+1,_,.zw _ _,.pair _ _,_,_,h|m+1,_,.zw _ _,.arr _ _,_,_,h|m+1,_,.zw _ _,.sl _ _,_,_,h|m+1,_,.zw _ _,.fn _ _,_,_,h=>by simp[asData]at h
 |m+1,_,.zw _ _,.tree _,_,_,h=>by simp[asData]at h
 |m+1,_,.jV _ _ _,.int _,_,_,h|m+1,_,.jV _ _ _,.bool,_,_,h|m+1,_,.jV _ _ _,.str,_,_,h|m+1,_,.jV _ _ _,.unit,_,_,h|m+1,_,.jV _ _ _,.pair _ _,_,_,h|m+1,_,.jV _ _ _,.arr _ _,_,_,h|m+1,_,.jV _ _ _,.sl _ _,_,_,h|m+1,_,.jV _ _ _,.fn _ _,_,_,h=>by simp[asData]at h
 |m+1,_,.jV _ _ _,.tree _,_,_,h=>by simp[asData]at h
 |m+1,_,.qW _ _,.int _,_,_,h|m+1,_,.qW _ _,.bool,_,_,h|m+1,_,.qW _ _,.str,_,_,h|m+1,_,.qW _ _,.unit,_,_,h|m+1,_,.qW _ _,.pair _ _,_,_,h|m+1,_,.qW _ _,.arr _ _,_,_,h|m+1,_,.qW _ _,.sl _ _,_,_,h|m+1,_,.qW _ _,.ptr _,_,_,h=>by simp[asData]at h
 |m+1,_,.pr _ _,.int _,_,_,h|m+1,_,.pr _ _,.bool,_,_,h|m+1,_,.pr _ _,.str,_,_,h|m+1,_,.pr _ _,.unit,_,_,h|m+1,_,.pr _ _,.ptr _,_,_,h|m+1,_,.pr _ _,.arr _ _,_,_,h|m+1,_,.pr _ _,.sl _ _,_,_,h|m+1,_,.pr _ _,.fn _ _,_,_,h=>by simp[asData]at h
 |m+1,_,.pr _ _,.tree _,_,_,h=>by simp[asData]at h
 |m+1,_,.un,.int _,_,_,h|m+1,_,.un,.bool,_,_,h|m+1,_,.un,.str,_,_,h|m+1,_,.un,.pair _ _,_,_,h|m+1,_,.un,.ptr _,_,_,h|m+1,_,.un,.arr _ _,_,_,h|m+1,_,.un,.sl _ _,_,_,h|m+1,_,.un,.fn _ _,_,_,h=>by simp[asData]at h
 |m+1,_,.un,.tree _,_,_,h=>by simp[asData]at h
theorem gC{n:Nat}:(m:Nat)->{R:Type}->{σ:St}->(a:z7)->(u:Ty)->{k:u.den->St->Option R}->{r:R}->qO m a u σ k=some r->
  ∃d ob,k d (jJ ob σ)=some r/\gI n σ ob/\∀τ,Qq σ τ->∀(R':Type)(k':u.den->St->Option R'),qO m a u τ k'=k' d (jJ ob τ)
 |0,_,_,_,_,_,_,h=>by simp[qO]at h
 |m+1,_,σ,.data t' d,t,k,r,h=>by
  simp only[qO]at h⊢;obtain⟨e,hk,ha⟩:=px h
  exact⟨e,[],hk,gI.nil,λτ _ R' k'=>ha R' (λd=>k' d τ)⟩
 |m+1,_,σ,.za,t,k,r,h=>by
  simp only[qO]at h⊢;obtain⟨e,hk,ha⟩:=Lz h
  exact⟨e,[],hk,gI.nil,λτ _ R' k'=>ha R' (λd=>k' d τ)⟩
 |m+1,_,σ,.ref id [] ep,u,k,r,h=>by
  simp only[qO]at h;split at h
  ·rename_i t l e ho
   cases hb:Nat.beq e ep with
   |false=>rw[hb]at h;simp at h
   |true=>
    rw[hb,zJ]at h
    cases u with
    |sl ow v=>
     cases ow with
     |true=>
      obtain⟨d,hk,ha⟩:=uK h;refine⟨d,[(id,none)],hk,gI.old ho,λτ hle R' k'=>?_⟩;simp only[qO];rw[hle _ _ ho];simp only[hb,zJ]
      exact ha R' _
     |false=>
      obtain⟨d,hk,ha⟩:=px h;refine⟨d,[(id,none)],hk,gI.old ho,λτ hle R' k'=>?_⟩;simp only[qO];rw[hle _ _ ho];simp only[hb,zJ]
      exact ha R' _
    |_=>simp at h
  ·simp at h
 |m+1,_,σ,.zw id [],.ptr u,k,r,h=>by
  simp only[qO]at h;split at h
  ·rename_i a ho;obtain⟨hnt,h⟩:=Z5 h;obtain⟨d,ob,hk,hd,ha⟩:=gC (n:=n) m a u h;refine⟨d,(id,none)::ob,hk,gI.append (l:=[(id,none)]) (gI.old ho) hd,λτ hle R' k'=>?_⟩;simp only[qO];rw[hle _ _ ho];simp only[hnt,zU];exact ha (τ.kill id) (hle.Y4 id none) R' k'
  ·simp at h
 |m+1,_,σ,.qW f c,.fn g t,k,r,h=>by
  simp only[qO]at h⊢
  cases hb:Nat.beq f g with
  |false=>rw[hb]at h;simp at h
  |true=>
   rw[hb,zJ]at h;obtain⟨d,ob,hk,hd,ha⟩:=gC (n:=n) m c t h
   exact⟨d,ob,hk,hd,λτ hle R' k'=>by rw[zJ];exact ha τ hle R' k'⟩
 |m+1,_,σ,.agg c,t,k,r,h=>by
  simp only[qO]at h⊢
  exact gC (n:=n) m c t h
 |m+1,_,σ,.pr a b,.pair t u,k,r,h=>by
  simp only[qO]at h⊢;obtain⟨x,ob,hk,hd,ha⟩:=gC (n:=n) m a t h;obtain⟨y,oc,hk,I1,hb⟩:=gC (n:=n) m b u hk;refine⟨(x,y),ob++oc,by rw[qK];exact hk,hd.append I1,λτ hle R' k'=>?_⟩;rw[ha τ hle,qK]
  exact hb _ (hle.jJ ob) R' _
 |m+1,_,σ,.un,.unit,k,r,h=>by
  simp only[qO]at h⊢
  exact⟨(),[],h,gI.nil,λ_ _ _ _=>rfl⟩
 |m+1,_,_,.jD _,t,k,r,h=>by simp[qO]at h
 |m+1,_,_,.qF _,t,k,r,h=>by simp[qO]at h
 |m+1,_,_,.nv true _ _ _,t,k,r,h=>by simp[qO]at h
 |m+1,_,_,.nv false _ (_::_) _,t,k,r,h=>by simp[qO]at h
 |m+1,_,σ,.nv false id [] ep,u,k,r,h=>by
  simp only[qO]at h;split at h
  ·rename_i t l e i ho
   cases hb:Nat.beq e ep with
   |false=>rw[hb]at h;simp at h
   |true=>
    rw[hb,zJ]at h
    cases u with
    |sl ow v=>
     cases ow with
     |true=>simp at h
     |false=>
      obtain⟨d,hk,ha⟩:=px h;refine⟨d,[(id,none)],hk,gI.old ho,λτ hle R' k'=>?_⟩;simp only[qO];rw[hle _ _ ho];simp only[hb,zJ]
      exact ha R' _
    |_=>simp at h
  ·simp at h
 |m+1,_,_,.view _ _ _ _ _,t,k,r,h=>by simp[qO]at h
 |m+1,_,_,.jV _ _ _,t,k,r,h=>by simp[qO]at h
 |m+1,_,_,.ref _ (_::_) _,t,k,r,h=>by simp[qO]at h
 |m+1,_,_,.zw _ (_::_),t,k,r,h=>by cases t<;>simp[qO]at h
 |m+1,_,_,.zw _ [],.int _,_,_,h|m+1,_,_,.zw _ [],.bool,_,_,h|m+1,_,_,.zw _ [],.str,_,_,h|m+1,_,_,.zw _ [],.unit,_,_,h|m+1,_,_,.zw _ [],.pair _ _,_,_,h|m+1,_,_,.zw _ [],.arr _ _,_,_,h|m+1,_,_,.zw _ [],.sl _ _,_,_,h|m+1,_,_,.zw _ [],.fn _ _,_,_,h=>by simp[qO]at h
 |m+1,_,_,.zw _ [],.tree _,_,_,h=>by simp[qO]at h
 |m+1,_,_,.qW _ _,.int _,_,_,h|m+1,_,_,.qW _ _,.bool,_,_,h|m+1,_,_,.qW _ _,.str,_,_,h|m+1,_,_,.qW _ _,.unit,_,_,h|m+1,_,_,.qW _ _,.pair _ _,_,_,h|m+1,_,_,.qW _ _,.arr _ _,_,_,h|m+1,_,_,.qW _ _,.sl _ _,_,_,h|m+1,_,_,.qW _ _,.ptr _,_,_,h=>by simp[qO]at h
 |m+1,_,_,.pr _ _,.int _,_,_,h|m+1,_,_,.pr _ _,.bool,_,_,h|m+1,_,_,.pr _ _,.str,_,_,h|m+1,_,_,.pr _ _,.unit,_,_,h|m+1,_,_,.pr _ _,.ptr _,_,_,h|m+1,_,_,.pr _ _,.arr _ _,_,_,h|m+1,_,_,.pr _ _,.sl _ _,_,_,h|m+1,_,_,.pr _ _,.fn _ _,_,_,h=>by simp[qO]at h
 |m+1,_,_,.pr _ _,.tree _,_,_,h=>by simp[qO]at h
 |m+1,_,_,.un,.int _,_,_,h|m+1,_,_,.un,.bool,_,_,h|m+1,_,_,.un,.str,_,_,h|m+1,_,_,.un,.pair _ _,_,_,h|m+1,_,_,.un,.ptr _,_,_,h|m+1,_,_,.un,.arr _ _,_,_,h|m+1,_,_,.un,.sl _ _,_,_,h|m+1,_,_,.un,.fn _ _,_,_,h=>by simp[qO]at h
 |m+1,_,_,.un,.tree _,_,_,h=>by simp[qO]at h
end Go.Kz
namespace Go.Kz
variable {R:Type}
theorem kY{b:Bool}{x:Option R}{r:R}(h:qV b x=some r):b=true/\x=some r:=by
 grind[qV]
theorem zh{b:Bool}{x:Option R}{r:R}(h:cond b x none=some r):b=true/\x=some r:=by
 grind
theorem Oa{op:BinOp}{kd:IntKind}{a b:Int}{f:z7->Option R}{r:R}(h:UA op kd a b f=some r):∃v,f v=some r/\∀(R':Type)(f':z7->Option R'),UA op kd a b f'=f' v:=by
 cases op<;>simp only[UA]at h⊢
 all_goals grind
theorem F8{op:BinOp}{kd:IntKind}{a b:Int}{f:z7->Option R}{r:R}(h:Qp op kd a b f=some r):∃v,f v=some r/\∀(R':Type)(f':z7->Option R'),Qp op kd a b f'=f' v:=by
 cases op<;>simp only[Qp]at h⊢
 all_goals grind
theorem MW{op:BinOp}{a b:Bool}{f:z7->Option R}{r:R}(h:Px op a b f=some r):∃v,f v=some r/\∀(R':Type)(f':z7->Option R'),Px op a b f'=f' v:=by
 cases op<;>simp only[Px]at h⊢
 all_goals grind
theorem z1t{op:BinOp}{b:Bool}{f:z7->Option R}{r:R}(h:C8 op b f=some r):∃v,f v=some r/\∀(R':Type)(f':z7->Option R'),C8 op b f'=f' v:=by
 cases op<;>simp only[C8]at h⊢
 all_goals grind
theorem zcs{op:UnOp}{x:z7}{f:z7->Option R}{r:R}(h:unK op x f=some r):∃v,f v=some r/\∀(R':Type)(f':z7->Option R'),unK op x f'=f' v:=by
 unfold unK at h;split at h
 ·exact⟨_,h,λ_ _=>rfl⟩
 ·exact⟨_,h,λ_ _=>rfl⟩
 ·exact⟨_,h,λ_ _=>rfl⟩
 grind
def z2d(σ:St)(q:Bool)(t:Option Ty)(op:BinOp)(x y:z7)(f:z7->Option R):Option R:=match t with
 |some u=>cond (q&&yF u&&x.val&&y.val) (asData σ 20 x u λd=>asData σ 20 y u λe=>C8 op (Ui u d e) f) none
 |none=>none
theorem za0{σ:St}{q:Bool}{t:Option Ty}{op:BinOp}{x y:z7}{f:z7->Option R}{r:R}(h:z2d σ q t op x y f=some r):
  ∃v,f v=some r/\∀τ,Qq σ τ->∀(R':Type)(f':z7->Option R'),z2d τ q t op x y f'=f' v:=by
 unfold z2d at h;split at h
 all_goals grind[wH,z1t,z2d]
theorem OT{op:BinOp}{a b:List UInt8}{f:z7->Option R}{r:R}(h:UX op a b f=some r):∃v,f v=some r/\∀(R':Type)(f':z7->Option R'),UX op a b f'=f' v:=by
 cases op<;>simp only[UX]at h⊢
 all_goals grind[qV]
theorem za1{σ:St}{q:Bool}{t:Option Ty}{op:BinOp}{x y:z7}{f:z7->Option R}{r:R}(h:HR σ q t op x y f=some r):
  ∃v,f v=some r/\∀τ,Qq σ τ->∀(R':Type)(f':z7->Option R'),HR τ q t op x y f'=f' v:=by
 by_cases h1:∃k a j b,x=.data (.int k) a/\y=.data (.int j) b
 ·obtain⟨kd,a,j,b,rfl,rfl⟩:=h1;simp only[HR]at h⊢
  cases hs:GW op with
  |true=>
   grind[F8]
  |false=>
   rw[hs]at h;simp only[zU]at h⊢;split at h
   all_goals grind[Oa]
 ·by_cases h2:∃a b,x=.data .bool a/\y=.data .bool b
  ·grind[HR,MW]
  ·by_cases h3:∃a b,x=.data .str a/\y=.data .str b
   ·grind[HR,OT]
   have e:∀(σ:St)(R':Type)(f':z7->Option R'),HR σ q t op x y f'=z2d σ q t op x y f':=by
    intro σ R' f';unfold HR z2d
    grind
   grind[za0]
theorem z18{σ τ:St}{a:z7}(hle:Qq σ τ)(h:holds σ a=true):holds τ a=true:=by
 unfold holds at h⊢;split at h
 ·rfl
 ·rename_i id _;split at h
  ·rename_i ho;rw[hle _ _ ho]
  grind
 ·rename_i id _ ep;split at h
  ·rename_i ho;simp only[hle _ _ ho];exact h
  grind
 ·rename_i id _ ep;split at h
  ·rename_i ho;simp only[hle _ _ ho];exact h
  grind
 omega
theorem z6o{σ:St}{x:z7}{f:Int->Option R}{r:R}(h:z0v σ x f=some r):∃v,f v=some r/\∀τ,Qq σ τ->∀(R':Type)(f':Int->Option R'),z0v τ x f'=f' v:=by
 unfold z0v at h
 grind[p6,z0v,QP]
theorem Lp{σ:St}{mt:Option (Ty×Ty)}{a:z7}{f:(id:Nat)->(kt vt:Ty)->List (kt.den×vt.den)->Option R}{r:R}(h:Xj σ mt a f=some r):
  ∃id kt vt m,(∃y,σ.z6 id=some y)/\f id kt vt m=some r/\∀τ,Qq σ τ->∀(R':Type) (f':(id:Nat)->(kt vt:Ty)->List (kt.den×vt.den)->Option R'),Xj τ mt a f'=f' id kt vt m:=by
 unfold Xj at h;split at h
 ·rename_i id Xv X8;split at h
  ·rename_i kt vt m ho
   cases hc:((Ty.same kt Xv).isSome&&(Ty.same vt X8).isSome&&kTy kt&&vt.yV) with
   |false=>grind
   |true=>
    rw[hc,zJ]at h;refine⟨id,kt,vt,m,⟨_,ho⟩,h,λτ hle R' f'=>?_⟩;simp only[Xj];rw[hle _ _ ho]
    grind
  grind
 grind
theorem NX{σ:St}{u:Ty}{x:z7}{lo:Int}{hi:Option Int}{f:z7->Option R}{r:R}(h:PR σ u x lo hi f=some r):
  ∃v,f v=some r/\∀τ,Qq σ τ->∀(R':Type)(f':z7->Option R'),PR τ u x lo hi f'=f' v:=by
 unfold PR at h
 grind[PR,qV,p6]
theorem YN{g:Int->Int->Int}{kd:IntKind}:{c:z7}->{x:Int}->{f:Int->Option R}->{r:R}->zQ g kd x c f=some r->∃v,f v=some r/\∀(R':Type)(f':Int->Option R'),zQ g kd x c f'=f' v
 |.un,x,f,r,h=>⟨x,h,λ_ _=>rfl⟩
 |.pr (.data (.int j) y) c,x,f,r,h=>by
  simp only[zQ]at h⊢;split at h
  ·rename_i he _;obtain⟨v,h,ha⟩:=YN (c:=c) h
   grind
  grind
 |.data _ _,_,_,_,h=>by simp[zQ]at h
 |.za,_,_,_,h=>by simp[zQ]at h
 |.ref _ _ _,_,_,_,h=>by simp[zQ]at h
 |.view _ _ _ _ _,_,_,_,h=>by simp[zQ]at h
 |.zw _ _,_,_,_,h=>by simp[zQ]at h
 |.jV _ _ _,_,_,_,h=>by simp[zQ]at h
 |.qF _,_,_,_,h=>by simp[zQ]at h
 |.nv _ _ _ _,_,_,_,h=>by simp[zQ]at h
 |.qW _ _,_,_,_,h=>by simp[zQ]at h
 | .ZU _ _,_,_,_,h=>by simp[zQ]at h
 |.agg _,_,_,_,h=>by simp[zQ]at h
 |.jD _,_,_,_,h=>by simp[zQ]at h
 |.pr (.data .bool _) _,_,_,_,h=>by simp[zQ]at h
 |.pr (.data .str _) _,_,_,_,h=>by simp[zQ]at h
 |.pr (.data .unit _) _,_,_,_,h=>by simp[zQ]at h
 |.pr (.data (.pair _ _) _) _,_,_,_,h=>by simp[zQ]at h
 |.pr (.data (.arr _ _) _) _,_,_,_,h=>by simp[zQ]at h
 |.pr (.data (.sl _ _) _) _,_,_,_,h=>by simp[zQ]at h
 |.pr (.data (.ptr _) _) _,_,_,_,h=>by simp[zQ]at h
 |.pr (.data (.fn _ _) _) _,_,_,_,h=>by simp[zQ]at h
 |.pr (.data (.tree _) _) _,_,_,_,h=>by simp[zQ]at h
 |.pr .za _,_,_,_,h=>by simp[zQ]at h
 |.pr (.ref _ _ _) _,_,_,_,h=>by simp[zQ]at h
 |.pr (.view _ _ _ _ _) _,_,_,_,h=>by simp[zQ]at h
 |.pr (.zw _ _) _,_,_,_,h=>by simp[zQ]at h
 |.pr (.jV _ _ _) _,_,_,_,h=>by simp[zQ]at h
 |.pr (.qF _) _,_,_,_,h=>by simp[zQ]at h
 |.pr (.nv _ _ _ _) _,_,_,_,h=>by simp[zQ]at h
 |.pr (.qW _ _) _,_,_,_,h=>by simp[zQ]at h
 |.pr (.ZU _ _) _,_,_,_,h=>by simp[zQ]at h
 |.pr (.agg _) _,_,_,_,h=>by simp[zQ]at h
 |.pr (.jD _) _,_,_,_,h=>by simp[zQ]at h
 |.pr (.pr _ _) _,_,_,_,h=>by simp[zQ]at h
 |.pr .un _,_,_,_,h=>by simp[zQ]at h
theorem z5y{σ:St}{id:Nat}{p:Path}{ep:Nat}{k:(v:Ty)->List v.den->Option R}{r:R}(h:ZN σ id p ep k=some r):∃t l e i h0,σ.z6 id=some (.nest t l e i h0):=by
 grind[ZN,pI]
theorem O9{σ:St}{u:Ty}{x:z7}{i:Int}{f:z7->Option R}{r:R}(h:ux σ u x i f=some r):
  ∃v,f v=some r/\∀τ,Qq σ τ->∀(R':Type)(f':z7->Option R'),ux τ u x i f'=f' v:=by
 unfold ux at h;split at h
 ·obtain⟨hc,h⟩:=zh h;obtain⟨d,hd,h⟩:=Zh.1 h
  grind[ux]
 ·obtain⟨hc,h⟩:=zh h;obtain⟨d,hd,h⟩:=Zh.1 h
  grind[ux]
 ·grind[p6,ux,qV]
 ·grind[p6,ux,qV]
 ·rename_i id p ep _ u
  cases hb0:(noP p&&Zj σ id) with
  |true=>
   rw[hb0,zJ]at h;unfold LI at h;split at h
   ·rename_i t l e n hp ho;obtain⟨hc,h⟩:=zh h;obtain⟨hb,h⟩:=kY h;refine⟨_,h,λτ hle R' f'=>?_⟩;have ht:=hle _ _ ho
    grind[Zj,ux,LI,qV]
   grind
  |false=>
   rw[hb0,zU]at h;obtain⟨t0,l0,e0,i0,h0,ho⟩:=z5y h;obtain⟨t,l,h,ha⟩:=QP h;obtain⟨hc,h⟩:=zh h;obtain⟨hb,h⟩:=kY h;refine⟨_,h,λτ hle R' f'=>?_⟩;have hq:(noP p&&Zj τ id)=false:=by
    rw[show Zj τ id=Zj σ id by simp only[Zj,hle _ _ ho,ho]];exact hb0
   grind[ux,qV]
 ·grind[Ze,ux,qV]
 ·split at h
  ·simp at h
  ·obtain⟨u,d,h,ha⟩:=um h;split at h
   all_goals grind[ux,qV]
 grind
theorem z0u{σ:St}{x:z7}{f:z7->Option R}{r:R}(h:ZR σ x f=some r):
  ∃v,f v=some r/\∀τ,Qq σ τ->∀(R':Type)(f':z7->Option R'),ZR τ x f'=f' v:=by
 unfold ZR at h;split at h
 ·exact⟨_,h,λ_ _ _ _=>rfl⟩
 ·grind[um,ZR]
 ·grind[Ze,ZR]
 ·rename_i id p ep;obtain⟨u,d,h,ha⟩:=V2 h
  cases qU:u.zW with
  |true=>
   grind[ZR]
  |false=>
   rw[qU,zU]at h;split at h
   all_goals grind[ZR]
 grind
theorem OG{σ:St}{u:Ty}{x:z7}{i:Nat}{f:z7->Option R}{r:R}(h:Q4 σ u x i f=some r):
  ∃v,f v=some r/\∀τ,Qq σ τ->∀(R':Type)(f':z7->Option R'),Q4 τ u x i f'=f' v:=by
 unfold Q4 at h;split at h
 ·grind[kN,Q4]
 ·grind[Ze,Q4]
 ·grind[um,Q4]
 ·rename_i id p ep
  cases hho:Zj σ id with
  |true=>
   rw[hho]at h;simp only[zJ]at h;unfold Sz at h;split at h
   ·rename_i j t l e n hp ho;have hc:=(zh h).1;replace h:=(zh h).2;refine⟨_,h,λτ hle R' f'=>?_⟩;have ht:=hle _ _ ho;simp_all[Zj,Q4,Sz]
   grind
  |false=>
   rw[hho]at h;simp only[zU]at h;have ho:∃t l e i h0,σ.z6 id=some (.nest t l e i h0):=by
    grind[pI]
   obtain⟨t0,l0,e0,i0,h0,ho⟩:=ho;obtain⟨t,d,h,ha⟩:=V2 h;obtain⟨hc,h⟩:=zh h;refine⟨_,h,λτ hle R' f'=>?_⟩;have hq:Zj τ id=false:=by rw[show Zj τ id=Zj σ id by simp only[Zj,hle _ _ ho,ho]];exact hho
   grind[Q4]
 grind
theorem VL{σ:St}{t:Ty}{x:z7}{f:List t.den->Option R}{r:R}(h:Jp σ t x f=some r):
  ∃v,f v=some r/\∀τ,Qq σ τ->∀(R':Type)(f':List t.den->Option R'),Jp τ t x f'=f' v:=by
 unfold Jp at h;obtain⟨hc,h⟩:=zh h;unfold tailD at h;split at h
 all_goals grind[QP,px,Jp,tailD,wH]
theorem OF{σ τ:St}(hle:Qq σ τ){x:z7}{t:Ty}(h:HE σ x=some t):HE τ x=some t:=by
 unfold HE at h⊢
 grind[p6,QP]
theorem Vg{n:Nat}{σ:St}{a:z7}{v:Ty}{k:List v.den->St->Option R}{r:R}(h:wF σ a v k=some r):
  ∃d ob,k d (jJ ob σ)=some r/\gI n σ ob/\∀τ,Qq σ τ->∀(R':Type)(k':List v.den->St->Option R'),wF τ a v k'=k' d (jJ ob τ):=by
 unfold wF at h;split at h
 ·exact⟨[],[],h,gI.nil,λ_ _ _ _=>rfl⟩
 ·rename_i id ep;split at h
  ·rename_i t l e ho;obtain⟨hc,h⟩:=zh h;obtain⟨d,h,ha⟩:=uK h;refine⟨d,[(id,none)],h,gI.old ho,λτ hle R' k'=>?_⟩;simp only[wF];rw[hle _ _ ho];simp only[hc,zJ];exact ha R' _
  grind
 grind
theorem EV{n:Nat}{σ:St}{id:Nat}{t:Ty}{l:List t.den}{e i:Nat}{h0:Option PB}{p:Path}{a:z7}{f:St->Option R}{r:R}(ho:σ.z6 id=some (.nest t l e i h0))(h:Vx σ id t l e i p a f=some r):
  ∃ob,f (jJ ob σ)=some r/\gI n σ ob/\∀τ,Qq σ τ->∀(R':Type)(f':St->Option R'),Vx τ id t l e i p a f'=f' (jJ ob τ):=by
 unfold Vx at h;split at h
 ·rename_i v hv;obtain⟨hc,h⟩:=zh h;obtain⟨d,ob,h,hd,ha⟩:=Vg (n:=n) h;obtain⟨l',h,hs⟩:=pE _ _ _ h;refine⟨ob++[(id,some (.nest t l' e (i+1) none))],by rw[qK];exact h,?_,λτ hle R' f'=>?_⟩
  ·intro x hx;rcases PH.1 hx with hx|hx
   ·exact hd x hx
   grind
  ·unfold Vx;rw[hv];simp only[hc,zJ];rw[ha τ hle,hs,qK];rfl
 grind
theorem L7{n:Nat}{σ:St}{id:Nat}{p:Path}{ep:Nat}{a:z7}{f:St->Option R}{r:R}(h:xF σ id p ep a f=some r):
  ∃ob,f (jJ ob σ)=some r/\gI n σ ob/\∀τ,Qq σ τ->∀(R':Type)(f':St->Option R'),xF τ id p ep a f'=f' (jJ ob τ):=by
 unfold xF at h;split at h
 ·rename_i t l e i ho;obtain⟨hc,h⟩:=zh h
  cases hs:(F0 t p).isSome with
  |true=>
   rw[hs,zJ]at h;obtain⟨ob,h,hd,ha⟩:=EV (n:=n) ho h;refine⟨ob,h,hd,λτ hle R' f'=>?_⟩;unfold xF;rw[hle _ _ ho]
   grind
  |false=>
   rw[hs,zU]at h;split at h
   ·rename_i s p1 j q hl;obtain⟨U,X,h,hg1⟩:=kN _ _ _ h;split at h
    ·rename_i v l1;obtain⟨qU,h⟩:=zh h;obtain⟨u,x,h,hg2⟩:=kN _ _ _ h;obtain⟨d,ob,h,hd,hb⟩:=gC (n:=n) _ _ _ h;split at h
     ·rename_i t2 l2 e2 i2 CO;obtain⟨l1',h,BU⟩:=pE _ _ _ h;obtain⟨l',h,hs2⟩:=pE _ _ _ h;refine⟨ob++[(id,some (.nest t l' e i none))],by rw[qK];exact h,?_,λτ hle R' f'=>?_⟩
      ·intro x hx;rcases PH.1 hx with hx|hx
       ·exact hd x hx
       grind
      ·unfold xF;rw[hle _ _ ho];simp only[hc,hs,zJ,zU,hl];rw[hg1];simp only[qU,zJ];rw[hg2,hb τ hle,hle.jJ ob _ _ CO];simp only;rw[BU,hs2,qK];rfl
     grind
    grind
   grind
 ·rename_i t l e i h0 ho;obtain⟨hc,h⟩:=zh h;obtain⟨hp,h⟩:=kY h;obtain⟨ob,h,hd,ha⟩:=EV (n:=n) ho h;refine⟨ob,h,hd,λτ hle R' f'=>?_⟩;unfold xF;rw[hle _ _ ho]
  grind[qV]
 grind
theorem NJ{n:Nat}{σ:St}{x a:z7}{f:St->Option R}{r:R}(h:JL σ x a f=some r):
  ∃ob,f (jJ ob σ)=some r/\gI n σ ob/\∀τ,Qq σ τ->∀(R':Type)(f':St->Option R'),JL τ x a f'=f' (jJ ob τ):=by
 unfold JL at h;split at h
 ·rename_i id p ep;split at h
  ·simp at h
  ·rename_i s q;obtain⟨u,e,h,ha⟩:=um h;obtain⟨d,ob,h,hd,hb⟩:=gC (n:=n) _ _ _ h;split at h
   ·rename_i t l e' ho;obtain⟨hc,h⟩:=zh h;obtain⟨l',h,hs⟩:=pE _ _ _ h;refine⟨ob++[(id,some (.row t l' e'))],by rw[qK];exact h,hd.append (gI.old ho),λτ hle R' f'=>?_⟩;simp only[JL];rw[ha τ hle,hb τ hle];rw[hle.jJ ob _ _ ho];simp only[hc,zJ];rw[hs,qK];rfl
   grind
 ·rename_i id p;split at h
  ·rename_i whole ho;obtain⟨hnt,h⟩:=Z5 h;obtain⟨old,h,ha⟩:=BN h;obtain⟨hc,h⟩:=zh h;obtain⟨w,h,hs⟩:=G1 _ _ h;refine⟨[(id,some (.cell w))],h,gI.old ho,λτ hle R' f'=>?_⟩;simp only[JL];rw[hle _ _ ho];simp only[hnt,zU];rw[ha];simp only[hc,zJ];rw[hs];rfl
  grind
 all_goals simp_all[L7,JL]
theorem Im{σ:St}{x:z7}{f:(t:Ty)->(id e i:Nat)->t.den->Option R}{r:R}(h:Nr σ x f=some r):
  ∃t id e i d,f t id e i d=some r/\σ.z6 id=some (.nest t [d] e i none)/\∀τ,Qq σ τ->∀(R':Type) (f':(t:Ty)->(id e i:Nat)->t.den->Option R'),Nr τ x f'=f' t id e i d:=by
 obtain⟨id,e,i,t,d,rfl,ho,ha,h⟩:=Ps h;refine⟨t,id,e,i,d,h,ho,λτ hle R' f'=>?_⟩;simp only[Nr];rw[hle _ _ ho];simp_all
theorem Us{n:Nat}{σ:St}{u:Ty}{s x:z7}{f:z7->St->Option R}{r:R}(h:uE σ u s x f=some r):
  ∃v ob,f v (jJ ob σ)=some r/\gI n σ ob/\∀τ,Qq σ τ->∀(R':Type)(f':z7->St->Option R'),uE τ u s x f'=f' v (jJ ob τ):=by
 unfold uE at h;split at h
 ·obtain⟨t,id,e,i,d,h,ho,ha⟩:=Im h;obtain⟨hc,h⟩:=zh h;refine⟨_,[(id,some (.nest t [d] (e+1) (i+1) none))],h,gI.old ho,λτ hle R' f'=>?_⟩;simp only[uE];rw[ha τ hle,hc];rfl
 ·rename_i id ep;split at h
  ·rename_i t l e i ho;obtain⟨hc,h⟩:=zh h;obtain⟨t',vT,e',i',d,h,Ka,ha⟩:=Im h
   cases hb:Nat.beq id vT with
   |true=>grind
   |false=>
    rw[hb]at h;simp only[zU]at h;obtain⟨d',h,ztk⟩:=uK h;obtain⟨BE,h⟩:=kY h;refine⟨_,[(vT,none)]++[(id,some (.nest t (l++[d']) (e+1) (i+1) none))],h,gI.append (gI.old Ka) (gI.old (y:=.nest t l e i none) ?_),λτ hle R' f'=>?_⟩
    ·simp_all[jJ,Y4]
    ·simp only[uE];rw[hle _ _ ho];simp only[hc,zJ];rw[ha τ hle];simp only[hb,zU];rw[ztk,BE];rfl
  grind
 grind
theorem MG{n:Nat}{σ:St}{u:Ty}{s x:z7}{f:z7->St->Option R}{r:R}(h:pT σ n u s x f=some r):
  ∃v ob,f v (jJ ob σ)=some r/\gI n σ ob/\∀τ,Qq σ τ->∀(R':Type)(f':z7->St->Option R'),pT τ n u s x f'=f' v (jJ ob τ):=by
 unfold pT at h;split at h
 ·cases hbn:x.zli with
  |true=>
   simp_all[Us,pT]
  |false=>
  rw[hbn]at h;simp only[zU]at h;split at h
  ·rename_i t ht;obtain⟨hc,h⟩:=zh h;obtain⟨m,h,ha⟩:=VL h;obtain⟨hb,h⟩:=kY h;refine⟨_,[(n,some (.row t m 1))],h,gI.new,λτ hle R' f'=>?_⟩;simp only[pT,hbn,zU];rw[OF hle ht];simp only[hc,zJ];rw[ha τ hle,hb];rfl
  grind
 ·rename_i id ep;split at h
  ·rename_i t l e ho;obtain⟨hc,h⟩:=zh h;obtain⟨m,h,ha⟩:=VL h;obtain⟨hb,h⟩:=kY h;refine⟨_,[(id,some (.row t (l++m) (e+1)))],h,gI.old ho,λτ hle R' f'=>?_⟩;simp only[pT];rw[hle _ _ ho];simp only[hc,zJ];rw[ha τ hle,hb];rfl
  grind
 ·rename_i id ep a b;split at h
  ·rename_i t l e ho;obtain⟨hc,h⟩:=zh h;obtain⟨m,h,ha⟩:=VL h;obtain⟨hb,h⟩:=kY h;refine⟨_,[(id,some (.row t (sub l a b++m) (e+2)))],h,gI.old ho,λτ hle R' f'=>?_⟩;simp only[pT];rw[hle _ _ ho];simp only[hc,zJ];rw[ha τ hle,hb];rfl
  grind
 ·simp_all[Us,pT]
 ·rename_i id q p ep;split at h
  ·rename_i t l e i ho;obtain⟨hc,h⟩:=zh h;obtain⟨U,X,h,hg⟩:=kN _ _ _ h;split at h
   ·rename_i v l1;obtain⟨WY,h⟩:=zh h;obtain⟨m,h,ha⟩:=VL h;obtain⟨hb,h⟩:=kY h;refine⟨_,[(id,some (.nest t l e i (some (.one (q::p)))))]++[(n,some (.row v (l1++m) 1))],h,gI.append (gI.old ho) gI.new,λτ hle R' f'=>?_⟩;simp only[pT];rw[hle _ _ ho];simp only[hc,zJ];rw[hg];simp only[WY,zJ];rw[ha τ hle,hb];rfl
   grind
  grind
 grind
theorem Dl{n:Nat}{lo:List Operand}{t:Ty}:{ps:List (Nat×Operand)}->{R:Type}->{σ:St}->{k:List t.den->St->Option R}->{r:R}->(∀x∈ps,x.2∈lo)->parts σ t ps k=some r->
  ∃ds ob,k ds (jJ ob σ)=some r/\gI n σ ob/\∀τ,xg lo σ τ->Qq σ τ->∀(R':Type)(k':List t.den->St->Option R'),parts τ t ps k'=k' ds (jJ ob τ)
 |[],_,σ,k,r,_,h=>⟨[],[],h,gI.nil,λ_ _ _ _ _=>rfl⟩
 |(i,x)::ps,_,σ,k,r,hm,h=>by
  simp only[parts]at h;split at h
  ·rename_i a hx;obtain⟨hc,h⟩:=zh h;obtain⟨d,ob,h,hd,ha⟩:=gC (n:=n) _ _ _ h;obtain⟨ds,oc,h,I1,hb⟩:=Dl (n:=n) (λy hy=>hm y (by grind)) h;refine⟨d::ds,ob++oc,by grind[qK],hd.append I1,λτ hs hle R' k'=>?_⟩;simp only[parts];rw[zo hs (hm (i,x) (by simp)),hx];simp only[hc,zJ];rw[ha τ hle,hb (jJ ob τ) (λt ht=>by rw[YW,YW];exact hs t ht) (hle.jJ ob),qK]
  grind
theorem WI{σ:St}:(p:kG)->{R:Type}->(a:z7)->{b:Y2}->{k:p.den->Y2->Option R}->{r:R}->wZ p=true->jE σ p a b k=some r->
  ∃d b',k d b'=some r/\∀τ,Qq σ τ->∀(R':Type)(k':p.den->Y2->Option R'),jE τ p a b k'=k' d b'
 |.un,_,.un,b,k,r,_,h=>⟨(),b,h,λ_ _ _ _=>rfl⟩
 |.pr (.val t) q,_,.pr x y,b,k,r,hp,h=>by
  simp only[jE]at h⊢;obtain⟨d,h,ha⟩:=wH _ _ _ h;obtain⟨e,b',h,hb⟩:=WI q y (by grind[wZ]) h
  grind
 |.un,_,.data _ _,_,_,_,_,h |.un,_,.za,_,_,_,_,h |.un,_,.ref _ _ _,_,_,_,_,h |.un,_,.view _ _ _ _ _,_,_,_,_,h |.un,_,.zw _ _,_,_,_,_,h |.un,_,.jV _ _ _,_,_,_,_,h |.un,_,.qF _,_,_,_,_,h |.un,_,.nv _ _ _ _,_,_,_,_,h
 |.un,_,.qW _ _,_,_,_,_,h |.un,_,.agg _,_,_,_,_,h |.un,_,.jD _,_,_,_,_,h |.un,_,.pr _ _,_,_,_,_,h=>by simp[jE]at h
 |.pr (.val _) _,_,.data _ _,_,_,_,_,h |.pr (.val _) _,_,.za,_,_,_,_,h |.pr (.val _) _,_,.ref _ _ _,_,_,_,_,h |.pr (.val _) _,_,.view _ _ _ _ _,_,_,_,_,h |.pr (.val _) _,_,.zw _ _,_,_,_,_,h |.pr (.val _) _,_,.jV _ _ _,_,_,_,_,h |.pr (.val _) _,_,.qF _,_,_,_,_,h |.pr (.val _) _,_,.nv _ _ _ _,_,_,_,_,h
 |.pr (.val _) _,_,.qW _ _,_,_,_,_,h |.pr (.val _) _,_,.agg _,_,_,_,_,h |.pr (.val _) _,_,.jD _,_,_,_,_,h |.pr (.val _) _,_,.un,_,_,_,_,h=>by simp[jE]at h
 |.val _,_,_,_,_,_,hp,_ |.ref _,_,_,_,_,_,hp,_ |.zw _,_,_,_,_,_,hp,_ |.qW _ _,_,_,_,_,_,hp,_ |.agg _,_,_,_,_,_,hp,_
 |.pr (.ref _) _,_,_,_,_,_,hp,_ |.pr (.zw _) _,_,_,_,_,_,hp,_ |.pr (.qW _ _) _,_,_,_,_,_,hp,_ |.pr (.agg _) _,_,_,_,_,_,hp,_ |.pr (.pr _ _) _,_,_,_,_,_,hp,_ |.pr .un _,_,_,_,_,_,hp,_=>by grind[wZ]
def Is:Nat->List Obj->List (Nat×Option Obj)
 |_,[]=>[]
 |n,o::os=>(n,some o)::Is (n+1) os
theorem PV:(os:List Obj)->(n:Nat)->(σ:St)->σ.gz n os=jJ (Is n os) σ
 |[],_,_=>rfl
 |o::os,n,σ=>by simp only[St.gz,Is,jJ];exact PV os (n+1) _
theorem E3{m:Nat}{σ:St}:(os:List Obj)->(n:Nat)->m<=n->n+os.length<=m+8->gI m σ (Is n os)
 |[],_,_,_=>gI.nil
 |o::os,n,h1,h2=>by
  intro x hx;simp only[Is,gJ]at hx;simp only[X4]at h2;rcases hx with rfl|hx
  ·omega
  ·exact E3 os (n+1) (by omega) (by omega) x hx
theorem Pu{n:Nat}{σ:St}{all:z7}{p:kG}{res:List Ty}{F:p.den->Option (jY res)}{f:z7->St->Option R}{r:R}(h:ur σ n all p res F f=some r):
  ∃v ob,f v (jJ ob σ)=some r/\gI n σ ob/\∀τ,Qq σ τ->∀(R':Type)(f':z7->St->Option R'),ur τ n all p res F f'=f' v (jJ ob τ):=by
 unfold ur at h;obtain⟨hc,h⟩:=zh h;have hp:wZ p=true:=by grind
 obtain⟨d,b,h,ha⟩:=WI p all hp h;obtain⟨y,hy,h⟩:=Zh.1 h
 grind[PV,E3,zL,ur]
theorem GL{n:Nat}:{p:kG}->{R:Type}->{σ:St}->{a:z7}->{k:z7->St->Option R}->{r:R}->vO p a σ k=some r->
  ∃v ob,k v (jJ ob σ)=some r/\gI n σ ob/\∀τ,Qq σ τ->∀(R':Type)(k':z7->St->Option R'),vO p a τ k'=k' v (jJ ob τ):=by
 intro p R σ a k r h;unfold vO at h;split at h
 ·obtain⟨hc,h⟩:=zh h;obtain⟨d,ob,h,hd,ha⟩:=gC (n:=n) _ _ _ h;obtain⟨v,oc,h,I1,hb⟩:=GL (n:=n) h;refine⟨_,ob++oc,by rw[qK];exact h,hd.append I1,λτ hle R' k'=>?_⟩;rw[vO,hc,zJ,ha τ hle,hb _ (hle.jJ ob),qK]
 ·exact⟨_,[],h,gI.nil,λτ hle R' k'=>by rw[vO];rfl⟩
 grind
theorem HO{n:Nat}{σ:St}{all:z7}{p:kG}{res:List Ty}{F:p.den->Option (jY res)}{f:z7->St->Option R}{r:R}(h:kS σ n all p res F f=some r):
  ∃v ob,f v (jJ ob σ)=some r/\gI n σ ob/\∀τ,Qq σ τ->∀(R':Type)(f':z7->St->Option R'),kS τ n all p res F f'=f' v (jJ ob τ):=by
 unfold kS at h⊢
 cases hb:(ud res||wR all) with
 |true=>
  grind[Pu]
 |false=>
  simp only[hb,zU]at h⊢;obtain⟨v,ob,h,hd,ha⟩:=GL (n:=n) h;obtain⟨x,oc,h,I1,hb⟩:=Pu h;exact⟨x,ob++oc,by grind[qK],hd.append I1,λτ hle R' k'=>by rw[ha τ hle,hb _ (hle.jJ ob),qK]⟩
theorem z2b{c:Ctx}{n:Nat}{σ:St}{g args:z7}{f:z7->St->Option R}{r:R}(hp:∀fid all,gF g args=some (fid,all)->IL (c.env fid)=true)(h:We c σ n g args f=some r):
  ∃v ob,f v (jJ ob σ)=some r/\gI n σ ob/\∀τ,Qq σ τ->∀(R':Type)(f':z7->St->Option R'),We c τ n g args f'=f' v (jJ ob τ):=by
 unfold We at h;split at h
 all_goals grind[HO,We]
end Go.Kz
namespace Go.Kz
variable {R:Type}
structure xp where
 sl:Option (Nat×z7)
 ob:List (Nat×Option Obj)
def xp.slot(e:xp)(σ:St):St:=match e.sl with
 |some (d,v)=>σ.set d v
 |none=>σ
def xp.app(e:xp)(σ:St):St:=jJ e.ob (e.slot σ)
structure Run (c:Ctx) (σ:St) (n:Nat) (o:Oper) (e:xp):Prop where
 sl:∀d v,e.sl=some (d,v)->o.dst=some d
 ob:gI n σ e.ob
 eq:∀τ,xg o.op.operands.toList σ τ->Qq σ τ->∀(R':Type)(k':St->Option R'),qq c τ n o k'=k' (e.app τ)
 y:gP o=true->e.ob=[]
theorem IH(d:Nat)(v:z7):(l:List (Nat×Option Obj))->(σ:St)->(jJ l σ).set d v=jJ l (σ.set d v)
 |[],_=>rfl
 |(i,o)::l,σ=>by simp only[jJ];rw[IH d v l];rfl
theorem II{c:Ctx}{σ:St}{d:Option Nat}{v:z7}{k:St->Option R}{r:R}(h:σ.qM c d v k=some r):
  ∃sl:Option (Nat×z7),(∀d' v',sl=some (d',v')->d=some d')/\k (xp.slot ⟨sl,[]⟩ σ)=some r/\∀(τ:St)(R':Type)(k':St->Option R'),τ.qM c d v k'=k' (xp.slot ⟨sl,[]⟩ τ):=by
 cases d with
 |none=>exact⟨none,by simp,h,λ_ _ _=>rfl⟩
 |some i=>
  simp only[St.qM]at h⊢;obtain⟨hb,h⟩:=zh h;exact⟨some (i,v),by simp,h,λ_ _ _=>by rw[hb];rfl⟩
theorem yY{c:Ctx}{σ:St}{n:Nat}{o:Oper}{k:St->Option R}{r:R}{v:z7}(h:σ.qM c o.dst v k=some r)
  (ha:∀τ,xg o.op.operands.toList σ τ->Qq σ τ->∀(R':Type)(k':St->Option R'),qq c τ n o k'=τ.qM c o.dst v k') :
  ∃e:xp,k (e.app σ)=some r/\Run c σ n o e:=by
 obtain⟨sl,h1,h2,h3⟩:=II h;exact⟨⟨sl,[]⟩,h2,h1,gI.nil,λτ hs hle R' k'=>by rw[ha τ hs hle,h3];rfl,λ_=>rfl⟩
theorem gN{c:Ctx}{σ:St}{n:Nat}{o:Oper}{k:St->Option R}{r:R}{v:z7}{ob:List (Nat×Option Obj)}(hy:gP o=false)(hd:gI n σ ob)(h:(jJ ob σ).qM c o.dst v k=some r)
  (ha:∀τ,xg o.op.operands.toList σ τ->Qq σ τ->∀(R':Type)(k':St->Option R'),qq c τ n o k'=(jJ ob τ).qM c o.dst v k') :
  ∃e:xp,k (e.app σ)=some r/\Run c σ n o e:=by
 obtain⟨sl,h1,h2,h3⟩:=II h;have e:∀τ,xp.slot ⟨sl,[]⟩ (jJ ob τ)=xp.app ⟨sl,ob⟩ τ:=by
  intro τ
  cases sl with
  |none=>rfl
  |some x=>exact IH _ _ ob τ
 refine⟨⟨sl,ob⟩,by rw[<-e];exact h2,h1,hd,λτ hs hle R' k'=>by rw[ha τ hs hle,h3,e],λh=>?_⟩;rw[hy]at h;simp at h
theorem Py{l:List Operand}{σ τ:St}(h:xg l σ τ){x:Option Operand}(hx:∀y,x=some y->y∈l):evI τ x=evI σ x:=by
 cases x with
 |none=>rfl
 |some y=>simp only[evI];rw[zo h (hx y rfl)]
theorem YS{l:List Operand}{σ τ:St}(h:xg l σ τ):{u:Ty}->{i:Nat}->{m:List (Nat×Operand)}->(∀x∈m,x.2∈l)->gp τ u i m=gp σ u i m
 |.unit,_,[],_=>rfl
 |.unit,_,_::_,_=>rfl
 |.pair a b,i,[],hm=>by simp only[gp];rw[YS h (u:=b) hm]
 |.pair a b,i,(j,x)::m,hm=>by
  simp only[gp]
  rw[YS h (u:=b) hm,YS h (u:=b) (m:=m) (λy hy=>hm y (by simp[hy])),zo h (hm (j,x) (by simp))]
 |.int _,_,_,_=>rfl
 |.bool,_,_,_=>rfl
 |.str,_,_,_=>rfl
 |.arr _ _,_,_,_=>rfl
 |.sl _ _,_,_,_=>rfl
 |.ptr _,_,_,_=>rfl
 |.fn _ _,_,_,_=>rfl
 |.tree _,_,_,_=>rfl
theorem ZE{σ:St}{u:Ty}:(n i:Nat)->(ps:List (Nat×Operand))->{f:List u.den->Option R}->{r:R}->vL σ u n i ps f=some r->
  ∃v,f v=some r/\∀τ:St,(∀x∈ps,ev τ x.2=ev σ x.2)->∀(R':Type)(f':List u.den->Option R'),vL τ u n i ps f'=f' v
 |0,i,[],f,r,h=>⟨[],h,λ_ _ _ _=>rfl⟩
 |0,i,_::_,f,r,h=>by simp[vL]at h
 |n+1,i,[],f,r,h=>by
  simp only[vL]at h;split at h
  ·rename_i z hz;obtain⟨v,h,hv⟩:=ZE n (i+1) [] h;exact⟨_,h,λτ hs R' f'=>by simp only[vL,hz];exact hv τ hs R' _⟩
  ·simp at h
 |n+1,i,(j,x)::ps,f,r,h=>by
  simp only[vL]at h
  cases ZP:Nat.beq i j with
  |false=>
   rw[ZP,zU]at h;split at h
   ·rename_i z hz;obtain⟨v,h,hv⟩:=ZE n (i+1) _ h;exact⟨_,h,λτ hs R' f'=>by simp only[vL,hz,ZP,zU];exact hv τ hs R' _⟩
   ·simp at h
  |true=>
   rw[ZP,zJ]at h;split at h
   ·rename_i t d hx;obtain⟨e,h,he⟩:=uK h;obtain⟨v,h,hv⟩:=ZE n (i+1) ps h;refine⟨_,h,λτ hs R' f'=>?_⟩;simp only[vL,ZP,zJ];rw[hs (j,x) (by simp),hx];simp only;rw[he];exact hv τ (λy hy=>hs y (On _ hy)) R' _
   ·simp at h
theorem CZ{t:Ty}:{a:z7}->{f:List t.den->Option R}->{r:R}->qg t a f=some r->∃v,f v=some r/\∀(R':Type)(f':List t.den->Option R'),qg t a f'=f' v
 |.un,f,r,h=>⟨[],h,λ_ _=>rfl⟩
 |.pr (.data u d) c,f,r,h=>by
  simp only[qg]at h;obtain⟨e,h,he⟩:=uK h;obtain⟨l,h,hl⟩:=CZ h
  exact⟨e::l,h,λR' f'=>by simp only[qg];rw[he,hl]⟩
 |.pr (.za) _,_,_,h=>by simp[qg]at h
 |.pr (.ref _ _ _) _,_,_,h=>by simp[qg]at h
 |.pr (.view _ _ _ _ _) _,_,_,h=>by simp[qg]at h
 |.pr (.zw _ _) _,_,_,h=>by simp[qg]at h
 |.pr (.jV _ _ _) _,_,_,h=>by simp[qg]at h
 |.pr (.qF _) _,_,_,h=>by simp[qg]at h
 |.pr (.nv _ _ _ _) _,_,_,h=>by simp[qg]at h
 |.pr (.qW _ _) _,_,_,h=>by simp[qg]at h
 |.pr (.ZU _ _) _,_,_,h=>by simp[qg]at h
 |.pr (.agg _) _,_,_,h=>by simp[qg]at h
 |.pr (.jD _) _,_,_,h=>by simp[qg]at h
 |.pr (.pr _ _) _,_,_,h=>by simp[qg]at h
 |.pr .un _,_,_,h=>by simp[qg]at h
 |.data _ _,_,_,h=>by simp[qg]at h
 |.za,_,_,h=>by simp[qg]at h
 |.ref _ _ _,_,_,h=>by simp[qg]at h
 |.view _ _ _ _ _,_,_,h=>by simp[qg]at h
 |.zw _ _,_,_,h=>by simp[qg]at h
 |.jV _ _ _,_,_,h=>by simp[qg]at h
 |.qF _,_,_,h=>by simp[qg]at h
 |.nv _ _ _ _,_,_,h=>by simp[qg]at h
 |.qW _ _,_,_,h=>by simp[qg]at h
 | .ZU _ _,_,_,h=>by simp[qg]at h
 |.agg _,_,_,h=>by simp[qg]at h
 |.jD _,_,_,h=>by simp[qg]at h
theorem z1h{n:Nat}{σ:St}{a:z7}{u:Ty}{k:u.den->St->Option R}{r:R}(hu:V3 u=true)(h:ZT σ a u k=some r):
  ∃d ob,k d (jJ ob σ)=some r/\gI n σ ob/\∀τ,Qq σ τ->∀(R':Type)(k':u.den->St->Option R'),ZT τ a u k'=k' d (jJ ob τ):=by
 rcases UO hu with⟨t,v,rfl,z15,Vj⟩|⟨v,rfl,Vj⟩
 ·obtain⟨x,y,rfl,h1,h2,hx,h⟩:=BI h;obtain⟨d,ob1,h,hd1,ha1⟩:=gC (n:=n) 20 x t h;obtain⟨l,ob2,h,hd2,ha2⟩:=Vg (n:=n) h;refine⟨(d,l,()),ob1++ob2,by rw[qK];exact h,hd1.append hd2,λτ hle R' k'=>?_⟩;simp only[ZT,z15,Vj,hx,Z46,zJ];rw[ha1 τ hle,ha2 _ (hle.jJ ob1),qK]
 ·obtain⟨_,h⟩:=EZ h;obtain⟨l,ob2,h,hd2,ha2⟩:=Vg (n:=n) h;refine⟨l,ob2,h,hd2,λτ hle R' k'=>?_⟩;refine Eq.trans ?_ (ha2 τ hle R' k');cases a<;>simp only[ZT,Vj,zJ]
theorem Ik{n:Nat}{σ:St}{a:z7}{k:z7->St->Option R}{r:R}(h:ZC σ (n+1) a k=some r):
  ∃v ob,k v (jJ ob σ)=some r/\gI n σ ob/\∀τ,Qq σ τ->∀(R':Type)(k':z7->St->Option R'),ZC τ (n+1) a k'=k' v (jJ ob τ):=by
 unfold ZC at h;split at h
 ·rename_i id j ep;split at h
  ·rename_i v1 l e i h0 ho;split at h
   ·rename_i d hd;obtain⟨hc,h⟩:=zh h;obtain⟨hb,h⟩:=kY h;obtain⟨x,hx,h⟩:=Zh.1 h;refine⟨.ref (n+1) [] 0,[(id,some (Obj.nest (.sl true v1) l e i (some (.low (j+1)))))]++[(n+1,some (Obj.row v1 x 0))],h,gI.append (gI.old ho) (λy hy=>?_),λτ hle R' k'=>?_⟩
    ·simp only[Om]at hy;subst hy;exact .inr ⟨by simp only;omega,by simp only;omega⟩
    ·simp only[ZC,hle _ _ ho,hd,hc,zJ,hb,qV,hx,zO];rfl
   ·simp at h
  ·simp at h
 ·rename_i hq;refine⟨a,[],h,gI.nil,λτ hle R' k'=>?_⟩;unfold ZC;split
  ·exact absurd rfl (hq _ _ _)
  ·rfl
theorem z5q{c:Ctx}{σ:St}{n:Nat}{o:Oper}{k:St->Option R}{r:R}(hp:Jx c σ o=true)(h:qq c σ n o k=some r):∃e:xp,k (e.app σ)=some r/\Run c σ n o e:=by
 unfold qq at h;split at h
 ·-- move
  rename_i x yQ;split at h
  ·rename_i a hx;exact yY h λτ hs _ R' k'=>by simp only[qq,yQ];rw[zo hs (by rw[yQ];simp[Op.operands]),hx]
  ·simp at h
 ·rename_i x yQ;split at h
  ·rename_i a hx;exact yY h λτ hs _ R' k'=>by simp only[qq,yQ];rw[zo hs (by rw[yQ];simp[Op.operands]),hx]
  ·simp at h
 ·-- pick
  rename_i t x y yQ;split at h
  ·rename_i b ht
   cases b with
   |true=>
    simp only[zJ]at h;split at h
    ·rename_i a hx;exact yY h λτ hs _ R' k'=>by
      simp only[qq,yQ];rw[zo hs (x:=t) (by rw[yQ];simp[Op.operands]),ht,zo hs (x:=x) (by rw[yQ];simp[Op.operands]),hx];rfl
    ·simp at h
   |false=>
    simp only[zU]at h;split at h
    ·rename_i a hx;exact yY h λτ hs _ R' k'=>by
      simp only[qq,yQ];rw[zo hs (x:=t) (by rw[yQ];simp[Op.operands]),ht,zo hs (x:=y) (by rw[yQ];simp[Op.operands]),hx];rfl
    ·simp at h
  ·simp at h
 ·-- binOp
  rename_i op t x y z yQ;split at h
  ·rename_i a b hx hy;obtain⟨v,h,ha⟩:=za1 h;exact yY h λτ hs hle R' k'=>by
    simp only[qq,yQ];rw[zo hs (x:=x) (by rw[yQ];simp[Op.operands]),hx,zo hs (x:=y) (by rw[yQ];simp[Op.operands]),hy];exact ha τ hle R' _
  ·simp at h
 ·-- unOp
  rename_i op t x yQ;split at h
  ·rename_i a hx;obtain⟨v,h,ha⟩:=zcs h;exact yY h λτ hs hle R' k'=>by
    simp only[qq,yQ];rw[zo hs (x:=x) (by rw[yQ];simp[Op.operands]),hx];exact ha R' _
  ·simp at h
 ·-- convert
  rename_i t t' x yQ;split at h
  ·rename_i kj j ks kd hx ht ht';exact yY h λτ hs _ R' k'=>by simp only[qq,yQ];rw[zo hs (by rw[yQ];simp[Op.operands]),hx,ht,ht']
  ·simp at h
 ·-- indexAddr
  rename_i t x i yQ;split at h
  ·rename_i a kd j u hx hi ht;obtain⟨v,h,ha⟩:=O9 h;exact yY h λτ hs hle R' k'=>by
    simp only[qq,yQ];rw[zo hs (x:=x) (by rw[yQ];simp[Op.operands]),hx,zo hs (x:=i) (by rw[yQ];simp[Op.operands]),hi,ht];exact ha τ hle R' _
  ·simp at h
 ·-- fieldAddr
  rename_i t x i yQ;split at h
  ·rename_i a u hx ht;obtain⟨v,h,ha⟩:=OG h;exact yY h λτ hs hle R' k'=>by
    simp only[qq,yQ];rw[zo hs (x:=x) (by rw[yQ];simp[Op.operands]),hx,ht];exact ha τ hle R' _
  ·simp at h
 ·-- index
  rename_i t x i yQ;split at h
  ·rename_i nn t' l kd j m u hx hi ht;obtain⟨hc,h⟩:=zh h;obtain⟨d,hd,h⟩:=Zh.1 h;exact yY h λτ hs hle R' k'=>by
    simp only[qq,yQ];rw[zo hs (x:=x) (by rw[yQ];simp[Op.operands]),hx,zo hs (x:=i) (by rw[yQ];simp[Op.operands]),hi,ht];simp only[hc,zJ,hd,zO]
  ·rename_i l kd j hx hi ht;obtain⟨d,hd,h⟩:=Zh.1 h;exact yY h λτ hs hle R' k'=>by
    simp only[qq,yQ];rw[zo hs (x:=x) (by rw[yQ];simp[Op.operands]),hx,zo hs (x:=i) (by rw[yQ];simp[Op.operands]),hi,ht];simp only[hd,zO]
  ·simp at h
 ·-- field
  rename_i t x i yQ;split at h
  ·rename_i a u hx ht;obtain⟨hc,h⟩:=zh h;obtain⟨v,h,ha⟩:=BN h;obtain⟨WY,h⟩:=zh h;exact yY h λτ hs hle R' k'=>by
    simp only[qq,yQ];rw[zo hs (x:=x) (by rw[yQ];simp[Op.operands]),hx,ht];simp only[hc,zJ];rw[ha];simp only[WY,zJ]
  ·simp at h
 ·-- nilCheck
  rename_i x yQ;split at h
  ·rename_i a hx;obtain⟨hc,h⟩:=zh h;exact yY h λτ hs hle R' k'=>by
    simp only[qq,yQ];rw[zo hs (x:=x) (by rw[yQ];simp[Op.operands]),hx];simp only[z18 hle hc,zJ]
  ·simp at h
 ·-- load
  rename_i t x yQ;split at h
  ·rename_i a u hx ht;obtain⟨v,h,ha⟩:=z0u h;obtain⟨hc,h⟩:=zh h;exact yY h λτ hs hle R' k'=>by
    simp only[qq,yQ];rw[zo hs (x:=x) (by rw[yQ];simp[Op.operands]),hx,ht];simp only;rw[ha τ hle];simp only[hc,zJ]
  ·simp at h
 ·-- store
  rename_i t x y yQ;split at h
  ·rename_i a b u hx hy ht vl;obtain⟨hc,h⟩:=zh h;obtain⟨ob,h,hd,ha⟩:=NJ (n:=n) h;refine⟨⟨none,ob⟩,h,by simp,hd,λτ hs hle R' k'=>?_,λhy=>?_⟩
   ·simp only[qq,yQ];rw[zo hs (x:=x) (by rw[yQ];simp[Op.operands]),hx,zo hs (x:=y) (by rw[yQ];simp[Op.operands]),hy,ht,vl];simp only[hc,zJ];exact ha τ hle R' k'
   ·simp[gP,yQ]at hy
  ·simp at h
 ·-- extract
  rename_i x i yQ;split at h
  ·rename_i a hx;split at h
   ·rename_i v hv;exact yY h λτ hs hle R' k'=>by
     simp only[qq,yQ];rw[zo hs (x:=x) (by rw[yQ];simp[Op.operands]),hx];simp only[hv]
   ·simp at h
  ·simp at h
 ·-- alloc
  rename_i t yQ;split at h
  ·rename_i z hz;refine gN (v:=.zw n []) (ob:=[(n,some (.cell z))]) (by simp[gP,yQ]) gI.new (k:=k) ?_ λτ hs hle R' k'=>?_
   ·cases vl:o.dst with
    |none=>rw[vl]at h;exact h
    |some i=>rw[vl]at h;exact h
   ·simp only[qq,yQ];rw[hz];cases o.dst<;>rfl
  ·simp at h
 ·-- box
  rename_i t x yQ;split at h
  ·rename_i a hx;obtain⟨hc,h⟩:=zh h;refine gN (v:=.zw n []) (ob:=[(n,some (.cell a))]) (by simp[gP,yQ]) gI.new (k:=k) ?_ λτ hs hle R' k'=>?_
   ·cases vl:o.dst with
    |none=>rw[vl]at h;exact h
    |some i=>rw[vl]at h;exact h
   ·simp only[qq,yQ];rw[zo hs (x:=x) (by rw[yQ];simp[Op.operands]),hx];simp only[hc,zJ];cases o.dst<;>rfl
  ·simp at h
 ·-- makeFunc
  rename_i f first cap yQ;split at h
  ·rename_i hf;split at h
   ·rename_i a ha;obtain⟨hc,h⟩:=zh h;exact yY h λτ hs hle R' k'=>by
     simp only[qq,yQ,hf];rw[ZQ hs (m:=cap.toList) (λx hx=>by rw[yQ];simp only[Op.operands,Z5n,PH];exact .inr hx),ha];simp only[hc,zJ]
   ·simp at h
  ·simp at h
 ·-- makeSlice
  rename_i t len cap yQ;split at h
  ·rename_i ow u htf;split at h
   ·rename_i z k1 l k2 m hz hl hm
    cases hu:u.zW with
    |false=>
     rw[hu,zU]at h;obtain⟨hc,h⟩:=zh h;obtain⟨hb,h⟩:=kY h;refine gN (v:=.nv false n [] 0) (ob:=[(n,some (.nest u (List.replicate l.toNat z) 0 0 none))]) (by simp[gP,yQ]) gI.new (k:=k) ?_ λτ hs hle R' k'=>?_
     ·cases vl:o.dst with
      |none=>rw[vl]at h;exact h
      |some i=>rw[vl]at h;exact h
     ·simp only[qq,yQ,htf];rw[hz,zo hs (x:=len) (by rw[yQ];simp[Op.operands]),hl,zo hs (x:=cap) (by rw[yQ];simp[Op.operands]),hm];simp only[hu,zU,hc,zJ,hb,qV]
      cases o.dst<;>rfl
    |true=>
    rw[hu,zJ]at h;have hc:=hu;obtain⟨hb,h⟩:=kY h;refine gN (v:=.ref n [] 0) (ob:=[(n,some (.row u (List.replicate l.toNat z) 0))]) (by simp[gP,yQ]) gI.new (k:=k) ?_ λτ hs hle R' k'=>?_
    ·cases vl:o.dst with
     |none=>rw[vl]at h;exact h
     |some i=>rw[vl]at h;exact h
    ·simp only[qq,yQ,htf];rw[hz,zo hs (x:=len) (by rw[yQ];simp[Op.operands]),hl,zo hs (x:=cap) (by rw[yQ];simp[Op.operands]),hm];simp only[hc,zJ,hb,qV];cases o.dst<;>rfl
   ·simp at h
  ·simp at h
 ·-- build
  rename_i t ps yQ;split at h
  ·rename_i x y ht;split at h
   ·rename_i a ha;obtain⟨hc,h⟩:=zh h;exact yY h λτ hs hle R' k'=>by
     simp only[qq,yQ,ht];rw[YS hs (λx hx=>by rw[yQ];simp only[Op.operands];exact pe.2 ⟨x,hx,rfl⟩),ha];simp only[hc,zJ]
   ·simp at h
  ·rename_i n u ht;split at h
   ·rename_i a ha
    cases hc:(uA 0 ps.toList&&Nat.beq ps.toList.length n&&jG u) with
    |true=>
     rw[hc,zJ]at h;obtain⟨v,h,hv⟩:=CZ h;exact yY h λτ hs hle R' k'=>by
      simp only[qq,yQ,ht];rw[ZQ hs (m:=ps.toList.map (·.2)) (λx hx=>by rw[yQ];simp only[Op.operands];exact hx),ha];simp only[hc,zJ]
      rw[hv]
    |false=>
     rw[hc,zU]at h;obtain⟨WY,h⟩:=zh h;obtain⟨v,h,hv⟩:=ZE _ _ _ h;exact yY h λτ hs hle R' k'=>by
      simp only[qq,yQ,ht];rw[ZQ hs (m:=ps.toList.map (·.2)) (λx hx=>by rw[yQ];simp only[Op.operands];exact hx),ha];simp only[hc,zU,WY,zJ];exact hv τ (λx hx=>zo hs (by rw[yQ];simp only[Op.operands];exact pe.2 ⟨x,hx,rfl⟩)) R' _
   ·simp at h
  ·simp at h
 ·-- buildSlice
  rename_i t len ps yQ;split at h
  ·rename_i ow u htf
   cases hc:(u.zW&&uA 0 ps.toList&&Nat.beq ps.toList.length len&&Nat.ble (len*u.size) 100000) with
   |false=>
    rw[hc]at h;simp only[zU]at h;have WY:=(zh h).1;replace h:=(zh h).2;have hu:V3 u=true:=by simp only[zA]at WY;exact WY.1
    have z7d:∀τ (R':Type) (k':St->Option R'),qq c τ n o k'=Ar c τ n o.dst u len ps.toList k':=λτ R' k'=>by
     simp only[qq,yQ,htf];simp only[hc,zU,WY,zJ]
    unfold Ar at h;split at h
    ·rename_i hps;refine gN (v:=.nv false n [] 0) (ob:=[(n,some (.nest u [] 0 0 none))]) (by simp[gP,yQ]) gI.new (k:=k) h λτ hs hle R' k'=>?_
     rw[z7d,hps];rfl
    ·rename_i x hps;split at h
     ·rename_i av Kf;obtain⟨av',ob1,h,hd1,ha1⟩:=Ik (n:=n) h;obtain⟨d,ob,h,hd,ha⟩:=z1h (n:=n) hu h;refine gN (v:=.nv false n [] 0) (ob:=ob1++(ob++[(n,some (.nest u [d] 0 0 none))])) (by simp[gP,yQ]) (hd1.append (hd.append gI.new)) (k:=k) (by rw[qK,qK];exact h) λτ hs hle R' k'=>?_
      rw[z7d,hps,qK,qK];simp only[Ar];rw[zo hs (x:=x) (by rw[yQ];simp only[Op.operands];exact pe.2 ⟨(0,x),by rw[hps];simp,rfl⟩),Kf];simp only;rw[ha1 τ hle,ha _ (hle.jJ ob1)];rfl
     ·simp at h
    ·simp at h
   |true=>
   rw[hc]at h;simp only[zJ]at h;obtain⟨ds,ob,h,hd,ha⟩:=Dl (n:=n) (lo:=o.op.operands.toList) (λx hx=>by rw[yQ];simp only[Op.operands];exact pe.2 ⟨x,hx,rfl⟩) h
   cases hfz:zmw c o.dst with
   |true=>
    rw[hfz,zJ]at h;refine gN (v:=.data (.sl false u) ds) (ob:=ob) (by simp[gP,yQ]) hd (k:=k) ?_ λτ hs hle R' k'=>?_
    ·cases vl:o.dst with
     |none=>rw[vl]at h;exact h
     |some i=>rw[vl]at h;exact h
    ·simp only[qq,yQ,htf];simp only[hc,zJ];rw[ha τ hs hle];simp only[hfz,zJ]
     try (cases o.dst<;>rfl)
   |false=>
   rw[hfz,zU]at h;refine gN (v:=.ref n [] 0) (ob:=ob++[(n,some (.row u ds 0))]) (by simp[gP,yQ]) (hd.append gI.new) (k:=k) ?_ λτ hs hle R' k'=>?_
   ·rw[qK]
    cases vl:o.dst with
    |none=>rw[vl]at h;exact h
    |some i=>rw[vl]at h;exact h
   ·simp only[qq,yQ,htf];simp only[hc,zJ];rw[ha τ hs hle,qK];simp only[hfz,zU];cases o.dst<;>rfl
  ·simp at h
 ·-- makeMap
  rename_i t yQ;simp[Jx,yQ]at hp
 ·-- lookup
  rename_i t x i ok yQ;split at h
  ·rename_i a b hx hi;obtain⟨id,kt,vt,m,_,h,ha⟩:=Lp h;obtain⟨hc,h⟩:=zh h;obtain⟨key,h,hb⟩:=wH _ _ _ h;split at h
   ·rename_i z hz
    cases ok with
    |true=>
     simp only[zJ]at h;exact yY h λτ hs hle R' k'=>by
      simp only[qq,yQ];rw[zo hs (x:=x) (by rw[yQ];simp[Op.operands]),hx,zo hs (x:=i) (by rw[yQ];simp[Op.operands]),hi];simp only;rw[ha τ hle];simp only[hc,zJ];rw[hb τ hle]
      simp only[hz]
    |false=>
     simp only[zU]at h;exact yY h λτ hs hle R' k'=>by
      simp only[qq,yQ];rw[zo hs (x:=x) (by rw[yQ];simp[Op.operands]),hx,zo hs (x:=i) (by rw[yQ];simp[Op.operands]),hi];simp only;rw[ha τ hle];simp only[hc,zJ];rw[hb τ hle];simp only[hz,zU]
   ·simp at h
  ·simp at h
 ·-- mapUpdate
  rename_i t x i y yQ;simp[Jx,yQ]at hp
 ·-- mapEntry
  rename_i t x i yQ;simp[Jx,yQ]at hp
 ·-- entryStore
  rename_i t x i y yQ;simp[Jx,yQ]at hp
 ·-- slice
  rename_i t x lo hi yQ;split at h
  ·rename_i a ow u lo' wu hx ht WQ hhi;obtain⟨v,h,ha⟩:=NX h;exact yY h λτ hs hle R' k'=>by
    simp only[qq,yQ];rw[zo hs (x:=x) (by rw[yQ];simp[Op.operands]),hx,ht,Py hs (x:=lo) (λy hy=>by rw[yQ,hy];simp[Op.operands]),WQ,Py hs (x:=hi) (λy hy=>by rw[yQ,hy];simp[Op.operands]),hhi];exact ha τ hle R' _
  ·rename_i l lo' wu hx ht WQ hhi;obtain⟨hb,h⟩:=kY h;exact yY h λτ hs hle R' k'=>by
    simp only[qq,yQ];rw[zo hs (x:=x) (by rw[yQ];simp[Op.operands]),hx,ht,Py hs (x:=lo) (λy hy=>by rw[yQ,hy];simp[Op.operands]),WQ,Py hs (x:=hi) (λy hy=>by rw[yQ,hy];simp[Op.operands]),hhi];simp only[hb,qV,zJ]
  ·simp at h
 ·-- slice,its room cut
  rename_i t x hi mx yQ;split at h
  ·rename_i id ep k1 h1 k2 m ow u hx hhi hmx ht;split at h
   ·rename_i t' l e ho;obtain⟨hc,h⟩:=zh h;obtain⟨hb,h⟩:=kY h;refine gN (v:=.ref id [] (e+1)) (ob:=[(id,some (.row t' (sub l 0 h1) (e+1)))]) (by simp[gP,yQ]) (gI.old ho) (k:=k) ?_ λτ hs hle R' k'=>?_
    ·cases vl:o.dst with
     |none=>rw[vl]at h;exact h
     |some i=>rw[vl]at h;exact h
    ·simp only[qq,yQ];rw[zo hs (x:=x) (by rw[yQ];simp[Op.operands]),hx,zo hs (x:=hi) (by rw[yQ];simp[Op.operands]),hhi,zo hs (x:=mx) (by rw[yQ];simp[Op.operands]),hmx,ht];simp only;rw[hle _ _ ho];simp only[hc,zJ,hb,qV];cases o.dst<;>rfl
   ·simp at h
  ·simp at h
 ·-- len
  rename_i args ts yQ;split at h
  ·rename_i x t hargs N3;have QF:x∈o.op.operands.toList:=by rw[yQ];simp[Op.operands,Call.operands,hargs]
   split at h
   ·rename_i a ow u hx ht;obtain⟨v,h,ha⟩:=z6o h;exact yY h λτ hs hle R' k'=>by
     simp only[qq,yQ,hargs,N3];rw[zo hs QF,hx,ht];exact ha τ hle R' _
   ·rename_i l hx ht;exact yY h λτ hs hle R' k'=>by
     simp only[qq,yQ,hargs,N3];rw[zo hs QF,hx,ht]
   ·rename_i a hx ht _;obtain⟨id0,rfl⟩:∃id,a=.qF id:=by
     unfold Xj at h;split at h
     ·exact⟨_,rfl⟩
     ·simp at h
    obtain⟨id,kt,vt,m,_,h,ha⟩:=Lp h;obtain⟨hb,h⟩:=kY h;exact yY h λτ hs hle R' k'=>by
     simp only[qq,yQ,hargs,N3];rw[zo hs QF,hx]
     cases wi:c.tt t with
     |none=>
      simp only;rw[ha τ hle]
      simp only[hb,qV,zJ]
     |some u=>
      cases u with
      |sl ow u=>exact(ht ow u wi).elim
      |_=>
       simp only;rw[ha τ hle];simp only[hb,qV,zJ]
   ·simp at h
  ·simp at h
 ·-- max
  rename_i args ts yQ;split at h
  ·rename_i kd x rest hx;obtain⟨v,h,ha⟩:=YN h;exact yY h λτ hs hle R' k'=>by
    simp only[qq,yQ];rw[ZQ hs (m:=args.toList) (λx hx=>by rw[yQ];simp[Op.operands,Call.operands];simpa using hx),hx];exact ha R' _
  ·simp at h
 ·-- min
  rename_i args ts yQ;split at h
  ·rename_i kd x rest hx;obtain⟨v,h,ha⟩:=YN h;exact yY h λτ hs hle R' k'=>by
    simp only[qq,yQ];rw[ZQ hs (m:=args.toList) (λx hx=>by rw[yQ];simp[Op.operands,Call.operands];simpa using hx),hx];exact ha R' _
  ·simp at h
 ·-- append
  rename_i args ts yQ;split at h
  ·rename_i x y t t' hargs N3;split at h
   ·rename_i a b ow u hx hy ht;obtain⟨hc,h⟩:=zh h;obtain⟨v,ob,h,hd,ha⟩:=MG h;refine gN (by simp[gP,yQ]) hd h λτ hs hle R' k'=>?_
    simp only[qq,yQ,hargs,N3];rw[zo hs (x:=x) (by rw[yQ];simp[Op.operands,Call.operands,hargs]),hx,zo hs (x:=y) (by rw[yQ];simp[Op.operands,Call.operands,hargs]),hy,ht];simp only[hc,zJ];exact ha τ hle R' _
   ·simp at h
  ·simp at h
 ·-- clear
  rename_i args ts yQ;split at h
  ·rename_i x t hargs N3;split at h
   ·rename_i id ep av bv ow u hx ht;split at h
    ·rename_i t' l e ho;obtain⟨hc,h⟩:=zh h;split at h
     ·rename_i z hz;refine gN (v:=.jD .un) (ob:=[(id,some (.row t' (uW z l av bv) e))]) (by simp[gP,yQ]) (gI.old ho) (k:=k) ?_ λτ hs hle R' k'=>?_
      ·cases vl:o.dst with
       |none=>rw[vl]at h;exact h
       |some i=>rw[vl]at h;exact h
      ·simp only[qq,yQ,hargs,N3];rw[zo hs (x:=x) (by rw[yQ];simp[Op.operands,Call.operands,hargs]),hx,ht];simp only;rw[hle _ _ ho];simp only[hc,zJ,hz];cases o.dst<;>rfl
     ·simp at h
    ·simp at h
   ·simp at h
  ·simp at h
 ·-- copy
  rename_i args ts yQ;simp[Jx,yQ]at hp
 ·-- call
  rename_i g args ts yQ;split at h
  ·rename_i gv av hg Kf;have hpc:∀fid all,gF gv av=some (fid,all)->IL (c.env fid)=true:=by
    intro fid all hco;simp only[Jx,yQ]at hp;rw[MJ hg hco]at hp;exact hp
   obtain⟨v,ob,h,hd,ha⟩:=z2b hpc h;refine gN (by simp[gP,yQ]) hd h λτ hs hle R' k'=>?_
   simp only[qq,yQ];rw[zo hs (x:=g) (by rw[yQ];simp[Op.operands,Call.operands]),hg,ZQ hs (m:=args.toList) (λx hx=>by rw[yQ];simp[Op.operands,Call.operands];right;simpa using hx),Kf];exact ha τ hle R' _
  ·simp at h
 ·-- invoke
  rename_i x nm args ts yQ;simp[Jx,yQ]at hp
 ·-- makeInterface
  rename_i t x yQ;split at h
  ·rename_i a hx;obtain⟨hc,h⟩:=zh h;exact yY h λτ hs _ R' k'=>by
    simp only[qq,yQ];rw[zo hs (x:=x) (by rw[yQ];simp[Op.operands]),hx];simp only[hc,zJ]
  ·simp at h
 ·-- typeAssert
  rename_i x xt t ok yQ;split at h
  ·rename_i u a hx;obtain⟨hc,h⟩:=zh h
   cases ok with
   |true=>
    simp only[zJ]at h;exact yY h λτ hs _ R' k'=>by
     simp only[qq,yQ];rw[zo hs (x:=x) (by rw[yQ];simp[Op.operands]),hx]
     simp only[hc,zJ]
   |false=>
    simp only[zU]at h;exact yY h λτ hs _ R' k'=>by
     simp only[qq,yQ];rw[zo hs (x:=x) (by rw[yQ];simp[Op.operands]),hx];simp only[hc,zJ,zU]
  ·simp at h
 ·simp at h
end Go.Kz
