/-
  Regions whose order is drawn: an operation that yields its value may be taken first.
-/
import Derived.Test.YtmoggdcmpoobpaaGreatDoorKzAB
import Derived.OrdersHeld
import Derived.LoopN
import Derived.OpenShut
import Derived.ShutString
import Derived.ChangeOld
import Derived.Below
set_option linter.unusedVariables false
set_option linter.unusedSimpArgs false
namespace Go.Kz
section
variable {P:Program} {ops:Array Oper} {Q:Exit->Act->World->Prop} {md:Region.Mode} {w0:World} {q:Bool}
def BB (q:Bool) (P:Program) (md:Region.Mode) (ops:Array Oper) (Q:Exit->Act->World->Prop):Nat->Array Bool->Act->World->Prop
 | 0,listed,a,w=>Region.ready md ops listed=[]/\Q .normal a w
 | fuel+1,listed,a,w=>
  (Region.ready md ops listed=[]->Q .normal a w)/\
  ∀ i∈Region.ready md ops listed,wpOp P ops Q i (fun a' w'=>((∀ o,ops[i]? = some o->QT q o=false->jc w w'))/\BB q P md ops Q fuel (listed.setIfInBounds i true) a' w') a w
theorem VL:∀ (fuel:Nat) (listed:Array Bool) (a:Act) (w:World),BB q P md ops Q fuel listed a w->wpAny P md ops Q fuel listed a w
 | 0,_,_,_,h=>h
 | fuel+1,_,_,_,h=>⟨h.1,fun i hi=>wpOp_mono (fun a' w' h'=>VL fuel _ a' w' h'.2) (h.2 i hi)⟩
def OI (ops:Array Oper) (a0:Act) (Q:Exit->Act->World->Prop):Exit->Act->World->Prop:=
 fun e a w=>(e = .normal->∀ s,(∀ o∈ops.toList,o.dst≠some s)->a.tmps[s]? = a0.tmps[s]?)->Q e a w
theorem Oper.zvq {o:Oper} {a:Act} {w:World} {K:Act->World->Prop} {Q1 Q2:Exit->Act->World->Prop} (h1:∀ c a w,Q1 (.panic c) a w->Q2 (.panic c) a w) (h2:∀ a w,Q1 .outgrown a w->Q2 .outgrown a w)
  (hh:o.wp P a w K Q1):o.wp P a w K Q2:=by
 unfold Oper.wp at *;generalize (execOp a.eval o).run P w=r at *
 cases r with
 | ok n w'=>
  cases n <;> simp only [Oper.upon] at hh ⊢ <;>
   first
    | exact hh
    | exact Calls.mono hh (fun e w'' he=>by
      cases e with
      | returned v=>exact he
      | panicked c=>exact h1 _ _ _ he
      | outgrown=>exact he.imp fun a h=>h.imp fun w h=>h2 a w h)
 | halt x w'=>cases x <;> simp only [Oper.upon] at hh ⊢ <;> first | exact hh | exact h1 _ _ _ hh
theorem ur {a0:Act}:(fuel:Nat)->(listed:Array Bool)->(a:Act)->(w:World)->(∀ s,(∀ o∈ops.toList,o.dst≠some s)->a.tmps[s]? = a0.tmps[s]?)->
  wpAny P md ops (OI ops a0 Q) fuel listed a w->wpAny P md ops Q fuel listed a w
 | 0,listed,a,w,hk,h=>⟨h.1,h.2 fun _=>hk⟩
 | fuel+1,listed,a,w,hk,h=>by
  refine ⟨fun hr=>h.1 hr fun _=>hk,fun i hi=>?_⟩;have hh:=h.2 i hi;unfold wpOp at *;split
  ·rename_i ho;simp only [ho] at hh;exact ur fuel _ a w hk hh
  ·rename_i o ho;simp only [ho] at hh;have hmem:o∈ops.toList:=by
    obtain ⟨qx,rfl⟩:=Z24.1 ho;simp
   split
   ·rename_i hw;simp only [hw,WQ] at hh;rcases hh with hh | ⟨hh,a1,w1,h1⟩
    ·left;refine Oper.zvq (Q1:=OI ops a0 Q) (fun c a w h=>h (by simp)) (fun a w h=>h (by simp)) ?_;refine Oper.wp_mono (fun a' w' hh=>?_) (Oper.z0l hh);exact ur fuel _ a' w' (fun s hs=>(hh.1 s (hs o hmem)).trans (hk s hs)) hh.2
    ·exact .inr ⟨hh,a1,w1,h1 (by simp)⟩
   ·rename_i hw;simp only [hw] at hh;refine ur fuel _ _ w (fun s hs=>?_) hh;rw [JE,qZ (fun h=>hs o hmem h.1)];exact hk s hs
def zho (md:Region.Mode) (ops:Array Oper) (i:Nat) (Lt:List Nat):Prop:=
 ∀ x∈Lt,∀ ox,ops[x]? = some ox->∃ e∈ox.after,Region.binds md e=true/\(e.on=i\/e.on∈Lt)
theorem SR {i:Nat} {Lt:List Nat} {listed:Array Bool} (hw:zho md ops i Lt) (hl:∀ x∈Lt,listed.getD x true=false) (hi:listed.getD i true=false) {j:Nat} (hj:j∈Region.ready md ops listed):j∉Lt:=by
 intro hjl;obtain ⟨_,oj,Z4,hall⟩:=mem_ready.1 hj;obtain ⟨e,he,hb,hon⟩:=hw j hjl oj Z4;have h1:=hall e he hb;have h0:listed.getD e.on true=false:=by
  rcases hon with h | h
  ·rw [h];exact hi
  ·exact hl _ h
 rcases Z3y e.on listed.size with h' | h'
 ·simp [h'] at h0 h1;rw [h0] at h1;cases h1
 ·simp [Z3f h'] at h1
theorem BA {i:Nat} {oi:Oper} {v:Value} {Lt:List Nat} (hi:ops[i]? = some oi) (zr0:∀ (j:Nat) (o:Oper) cs b,ops[j]? = some o->o.op≠.select cs b)
  (hQ:∀ c a w,¬ Q (.panic c) a w) (hwt:zho md ops i Lt) :
  ∀ (fuel:Nat) (listed:Array Bool) (a:Act) (w:World),
   (∀ j oj,ops[j]? = some oj->j≠i->listed.getD j true=false->(∀ e∈oj.after,Region.binds md e=true->e.on≠i)->oi.apart ops oj=true)->
   (∀ x∈Lt,listed.getD x true=false)->(∀ j oj,ops[j]? = some oj->j≠i->listed.getD j true=false->QT q oj=true->j∈Lt\/isP oi=true)->
   i∈Region.ready md ops listed->YieldsIf P ops (Nt oi w0) oi v a->Nt oi w0 w->
   BB q P md ops Q fuel (listed.setIfInBounds i true) (a.put oi.dst v) w->BB q P md ops Q (fuel+1) listed a w:=by
 intro fuel
 induction fuel with
 | zero=>
  intro listed a w _ _ _ hr hy hS H;refine ⟨fun h=>(by rw [h] at hr;cases hr),fun j hj=>?_⟩;by_cases UK:j=i
  ·subst UK;exact hy.wpOp hi hS ⟨fun _ _ _=>jc.refl w,H⟩
  ·have:=ready_mono hj UK;rw [H.1] at this
   cases this
 | succ fuel ih=>
  intro listed a w VX qx hM hr hy hS H;refine ⟨fun h=>(by rw [h] at hr;cases hr),fun j hj=>?_⟩;by_cases UK:j=i
  ·subst UK;exact hy.wpOp hi hS ⟨fun _ _ _=>jc.refl w,H⟩
  ·have h1:=H.2 j (ready_mono hj UK);have hi0:=(mem_ready.1 hr).1;have hjl:=SR hwt qx hi0 hj;obtain ⟨zl5,oj,Z4,hall⟩:=mem_ready.1 hj;have hnM:isP oi=false->QT q oj=false:=by
    intro hP
    cases hm:QT q oj with
    | false=>rfl
    | true=>
     rcases hM j oj Z4 UK zl5 hm with h | h
     ·exact absurd h hjl
     ·rw [hP] at h;simp at h
   have q0z:∀ e∈oj.after,Region.binds md e=true->e.on≠i:=fun e he hb heq=>by
    have h1:=hall e he hb;have h0:=hi0;rw [heq] at h1;rcases Z3y i listed.size with h' | h'
    ·simp [h'] at h0 h1;rw [h0] at h1;cases h1
    ·simp [Z3f h'] at h1
   have h2:=wpOp_putIf Z4 (VX j oj Z4 UK zl5 q0z) (fun cs b=>zr0 i oi cs b hi) (fun cs b=>zr0 j oj cs b Z4) (fun c a w h=>absurd h (hQ _ _ _)) hy h1;have zqt:∀ k,(listed.setIfInBounds j true).getD k true=false->listed.getD k true=false:=fun k Qe=>by
    by_cases hjk:j=k
    ·subst hjk;exact zl5
    ·rw [getD_set_ne true hjk] at Qe;exact Qe
   refine wpOp_mono (fun a' w' h3=>⟨h3.2.1,ih (listed.setIfInBounds j true) a' w' (fun k ok hk Mw Qe UY=>VX k ok hk Mw (zqt k Qe) UY) (fun x hx=>?_) (fun k ok hk Mw Qe hm=>hM k ok hk Mw (zqt k Qe) hm)
    (ready_mono hr (Ne.symm UK)) h3.1 (fun hP=>(hS hP).trans (h3.2.1 oj Z4 (hnM hP))) ?_⟩) h2
   ·have je:j≠x:=fun he=>hjl (he ▸ hx)
    rw [getD_set_ne true je];exact qx x hx
   ·rw [Array.setIfInBounds_comm _ _ UK];exact h3.2.2
end
end Go.Kz
namespace Go.Kz
variable {R:Type}
theorem Dd {d:List Nat}:{l:List Nat}->(LH l d=true↔∀ x∈l,x∈d)
 | []=>by simp [LH]
 | y :: l=>by simp [LH,jB,Dd (l:=l)]
theorem Db {d:List Nat}:{l:List Nat}->(BX l d=true↔∃ x∈l,x∈d)
 | []=>by simp [BX]
 | y :: l=>by simp [BX,jB,Db (l:=l)]
theorem Vh {d:List Nat}:{l:List Nat}->(Xn l d=true↔∀ x∈l,x∉d)
 | []=>by simp [Xn]
 | y :: l=>by
  have:=jB (x:=y) (l:=d);simp only [Xn,zA,Vh (l:=l),pK,forall_eq_or_imp];constructor
  ·rintro ⟨h1,h2⟩;refine ⟨fun h=>?_,h2⟩;rw [this.2 h] at h1;simp at h1
  ·rintro ⟨h1,h2⟩;refine ⟨?_,h2⟩
   cases hm:yE y d with
   | true=>exact absurd (this.1 hm) h1
   | false=>rfl
theorem w7 {x:Nat}:{l:List Edge}->(x∈wj l↔∃ e∈l,Region.binds .any e=true/\e.on=x)
 | []=>by simp [wj]
 | e :: l=>by
  simp only [wj]
  cases hb:Region.binds .any e with
  | true=>
   simp only [zB,pK,w7 (l:=l),exists_eq_or_imp,hb,Vq]
   exact or_congr ⟨Eq.symm,Eq.symm⟩ Iff.rfl
  | false=>
   simp only [zU,pK,w7 (l:=l),exists_eq_or_imp,hb];simp
theorem CF {t:Nat}:{l:List Operand}->(t∈CH l↔.tmp t∈l)
 | []=>by simp [CH]
 | x :: l=>by cases x <;> simp [CH,CF (l:=l)]
section
variable {P:Program} {ops:Array Oper} {Q:Exit->Act->World->Prop}
theorem TZ {o:Oper} {t:Nat} (h:t∈o.looksAt ops):A7 (po ops.toList) o t=true:=by
 simp only [Oper.looksAt,U5,Z4m] at h;simp only [A7,Df,jB,CF];rcases h with ⟨x,hx,h⟩ | h
 ·left;cases x <;> simp at h;subst h;exact hx
 ·right;unfold z5m
  cases hg:o.guard with
  | none=>rw [hg] at h;simp at h
  | some gw=>
   obtain ⟨j,want⟩:=gw;rw [hg] at h;simp only at h;have e:=By (ops:=ops) j
   cases hd:(ops[j]?).bind (·.dst) with
   | none=>rw [hd] at h;simp at h
   | some d=>
    rw [hd] at h e;simp only [e];simpa using h
theorem Da {x y:Oper} (h:Fh (po ops.toList) x y=true):x.apart ops y=true:=by
 unfold Fh at h;simp only [zA] at h;unfold Oper.apart;simp only [zA];have UY:∀ (o:Oper) (d:Nat),(!A7 (po ops.toList) o d)=true->(!(o.looksAt ops).contains d)=true:=by
  intro o d hd
  cases hc:(o.looksAt ops).contains d with
  | false=>rfl
  | true=>
   have:=TZ (ops:=ops) (List.contains_iff_mem.1 hc);rw [this] at hd;simp at hd
 constructor
 ·have h1:=h.1
  cases hx:x.dst with
  | none=>rfl
  | some d=>
   rw [hx] at h1;simp only [zA] at h1 ⊢;refine ⟨UY y d h1.1,?_⟩;have h2:=h1.2
   cases hy:y.dst with
   | none=>simp
   | some e=>
    rw [hy] at h2;simp only [bne_iff_ne,ne_eq,zI];intro he;subst he;simp [Nc] at h2
 ·have h2:=h.2
  cases hy:y.dst with
  | none=>rfl
  | some d=>rw [hy] at h2;exact UY x d h2
structure Rel (ops:Array Oper) (listed:Array Bool) (done:List Nat):Prop where
 size:listed.size=ops.size
 get:∀ j,j < ops.size->listed[j]? = some (yE j done)
theorem Rel.getD {listed:Array Bool} {done:List Nat} (h:Rel ops listed done) {j:Nat} (hj:j < ops.size) (d:Bool):listed.getD j d=yE j done:=by
 simp [Z2p,h.get j hj]
theorem Rel.start:Rel ops (Array.replicate ops.size false) []:=⟨by simp,fun j hj=>by simp [hj,yE]⟩
theorem Rel.add {listed:Array Bool} {done:List Nat} (h:Rel ops listed done) {i:Nat}:Rel ops (listed.setIfInBounds i true) (i :: done):=by
 refine ⟨by simp [h.size],fun j hj=>?_⟩;rw [Z5l];have qx:j < listed.size:=by rw [h.size];exact hj
 by_cases Qb:i=j
 ·subst Qb;simp [qx,yE,Nc]
 ·rw [qZ Qb,h.get j hj];have:Nat.beq i j=false:=by
   cases hb:Nat.beq i j with
   | true=>exact absurd (zE hb) Qb
   | false=>rfl
  simp [yE,this]
structure H4 (ops:Array Oper):Prop where
 sel:∀ (j:Nat) (o:Oper) cs b,ops[j]? = some o->o.op≠.select cs b
theorem jA {j:Nat} {o:Oper} (h:ops[j]? = some o):(j,o)∈za 0 ops.toList:=by
 have key:∀ (l:List Oper) (i j:Nat),l[j]? = some o->(i+j,o)∈za i l:=by
  intro l
  induction l with
  | nil=>intro i j h;simp at h
  | cons x l ih=>
   intro i j h
   cases j with
   | zero=>simp only [Z55,zI] at h;subst h;simp [za]
   | succ j=>
    have:=ih (i+1) j (by simpa using h);simp only [za,pK];right;have e:i+(j+1)=i+1+j:=by omega
    rw [e];exact this
 have:=key ops.toList 0 j (by rw [Z2b];exact h);simpa using this
theorem uB {j:Nat} {o:Oper} (h:ops[j]? = some o):j < ops.size:=(Z24.1 h).1
theorem D3:(l:List (Nat×Oper))->GF l=true->∀ x∈l,∀ cs b,x.2.op≠.select cs b
 | [],_,_,hx=>by simp at hx
 | (i,o) :: l,h,x,hx=>by
  simp only [GF,zA] at h;rcases pK.1 hx with rfl | hx
  ·intro cs b hs;have:=h.1;rw [hs] at this;simp at this
  ·exact D3 l h.2 x hx
theorem Hn (h:GF (za 0 ops.toList)=true):H4 ops:=
 ⟨fun j o cs b ho=>D3 _ h _ (jA ho) cs b⟩
theorem T4 {listed:Array Bool} {done:List Nat} (hr:Rel ops listed done) {j:Nat} {o:Oper} (ho:ops[j]? = some o) :
  j∈Region.ready .any ops listed↔j∉done/\∀ e∈o.after,Region.binds .any e=true->e.on∈done/\e.on < ops.size:=by
 rw [mem_ready];have hj:=uB ho;rw [hr.getD hj];have hb:∀ x,yE x done=false↔x∉done:=fun x=>by
  rw [<-jB];simp
 rw [hb];refine and_congr Iff.rfl ⟨?_,?_⟩
 ·rintro ⟨o',PK,hall⟩ e he F0;rw [ho] at PK;simp only [zI] at PK;subst PK;have:=hall e he F0;by_cases qx:e.on < ops.size
  ·rw [hr.getD qx,jB] at this;exact ⟨this,qx⟩
  ·have hn:listed[e.on]? = none:=by rw [Array.getElem?_eq_none_iff,hr.size];omega
   simp [Z2p,hn] at this
 ·intro hall;refine ⟨o,ho,fun e he F0=>?_⟩;obtain ⟨h1,h2⟩:=hall e he F0;rw [hr.getD h2,jB];exact h1
theorem Az {i x:Nat}:{l:List (Nat×Oper)}->{acc:List Nat}->x∈acc->x∈gS i l acc
 | [],_,h=>h
 | (j,o) :: l,acc,h=>by
  simp only [gS];refine Az (l:=l) ?_
  cases (yE i (wj o.after.toList) || BX (wj o.after.toList) acc) with
  | true=>simp [h]
  | false=>exact h
theorem Vo {i:Nat}:{l:List (Nat×Oper)}->{acc:List Nat}->{G:Nat->Prop}->
  (∀ x∈acc,G x)->(∀ j o,(j,o)∈l->(∃ y∈wj o.after.toList,y=i\/y∈gS i l acc)->G j)->∀ x∈gS i l acc,G x
 | [],_,_,h,_,x,hx=>h x hx
 | (j,o) :: l,acc,G,h,hG,x,hx=>by
  simp only [gS] at hx hG;refine Vo (l:=l) ?_ (fun j' o' hm hy=>hG j' o' (by simp [hm]) hy) x hx;intro y hy
  cases hc:(yE i (wj o.after.toList) || BX (wj o.after.toList) acc) with
  | false=>rw [hc] at hy;exact h y hy
  | true=>
   rw [hc] at hy hG;simp only [zB,pK] at hy hG;rcases hy with rfl | hy
   ·refine hG y o (by simp) ?_;simp only [Df,jB,Db] at hc;rcases hc with hc | ⟨z,hz,hza⟩
    ·exact ⟨i,hc,.inl rfl⟩
    ·exact ⟨z,hz,.inr (Az (by simp [hza]))⟩
   ·exact h y hy
theorem Jy {q:Bool} {dst:Nat->Option Nat} {done later:List Nat} {i:Nat} {o:Oper}:{l:List (Nat×Oper)}->On q dst done later i o l=true->∀ x∈l,
  x.1=i\/x.1∈done\/((i∈wj x.2.after.toList\/Fh dst o x.2=true)/\(isP o=true\/QT q x.2=false\/x.1∈later))
 | [],_,x,hx=>by simp at hx
 | (j,oj) :: l,h,x,hx=>by
  simp only [On,zA] at h;rcases pK.1 hx with rfl | hx
  ·have h1:=h.1;simp only [Df,zA,jB,PO] at h1;rcases h1 with (h1 | h1) | h1
   ·exact .inl (zE h1)
   ·exact .inr (.inl h1)
   ·exact .inr (.inr ⟨h1.1,or_assoc.1 h1.2⟩)
  ·exact Jy h.2 x hx
theorem Jn {done:List Nat} {i:Nat}:{l:List (Nat×Oper)}->BF done i l=true->∀ x∈l,x.1=i\/x.1∈done\/YQ done x.2=false
 | [],_,x,hx=>by simp at hx
 | (j,oj) :: l,h,x,hx=>by
  simp only [BF,zA] at h;rcases pK.1 hx with rfl | hx
  ·have h1:=h.1;simp only [Df,jB,PO] at h1;rcases h1 with (h1 | h1) | h1
   ·exact .inl (zE h1)
   ·exact .inr (.inl h1)
   ·exact .inr (.inr h1)
  ·exact Jn h.2 x hx
theorem wh {listed:Array Bool} {done:List Nat} (hr:Rel ops listed done) (hd:∀ x∈done,x < ops.size) {j:Nat} {o:Oper} (ho:ops[j]? = some o) :
  j∈Region.ready .any ops listed↔j∉done/\YQ done o=true:=by
 rw [T4 hr ho];refine and_congr Iff.rfl ?_;unfold YQ;rw [Dd];constructor
 ·intro h x hx;obtain ⟨e,he,F0,rfl⟩:=w7.1 hx;exact (h e (by simpa using he) F0).1
 ·intro h e he F0;have:=h e.on (w7.2 ⟨e,by simpa using he,F0,rfl⟩);exact ⟨this,hd _ this⟩
theorem qs.wpOp {q:Bool} {i:Nat} {o:Oper} {K:Act->World->Prop} {a:Act} {w:World} (hi:ops[i]? = some o) (h:qs q P ops Q o K a w) :
  wpOp P ops Q i (fun a' w'=>(∀ o,ops[i]? = some o->QT q o=false->jc w w')/\K a' w') a w:=by
 unfold qs at h;unfold Go.wpOp;simp only [hi,zI];split
 ·rename_i hw;rw [yQ hw] at h;left;rcases h with ⟨_,v,h1,h2⟩ | ⟨_,h1⟩
  ·exact Gv (h1 w (Nt.refl _ w)) ⟨fun _ _ _=>jc.refl w,h2⟩
  ·exact Oper.wp_mono (fun a' w' hh=>⟨fun o' PK hm=>hh.1 (by rw [PK];exact hm),hh.2⟩) h1
 ·rename_i hw;rw [qZ hw] at h;exact ⟨fun _ _ _=>jc.refl w,h⟩
theorem zb7 {q:Bool} (hp:H4 ops) (hQ:∀ c a w,¬ Q (.panic c) a w) {i:Nat} {o:Oper} {listed:Array Bool} {done:List Nat} {a:Act} {w:World} {f:Nat} {K':Act->World->Prop} (hi:ops[i]? = some o) (hr:Rel ops listed done) (hd:∀ x∈done,x < ops.size)
  (hni:i∉done) (TC:I2 q (po ops.toList) (za 0 ops.toList) done i o=true) (h:qs q P ops Q o K' a w) (ih:∀ a' w',K' a' w'->BB q P .any ops Q f (listed.setIfInBounds i true) a' w'):BB q P .any ops Q (f+1) listed a w:=by
 simp only [I2,zA,Df] at TC;have hir:i∈Region.ready .any ops listed:=(wh hr hd hi).2 ⟨hni,TC.1⟩;have h':qs q P ops Q o K' a w:=h;rcases TC.2 with ⟨⟨hy,VX⟩,QF⟩ | hal
 ·have YL:∀ x∈gS i (za 0 ops.toList) [],x < ops.size/\∀ ox,ops[x]? = some ox->∃ e∈ox.after,Region.binds .any e=true/\(e.on=i\/e.on∈gS i (za 0 ops.toList) []):=by
   refine Vo (by simp) (fun j oj hm hy=>?_);have Z4:=wy _ hm;refine ⟨uB Z4,fun ox hox=>?_⟩;simp only at Z4;rw [Z4] at hox;simp only [zI] at hox;subst hox;obtain ⟨y,hy1,hy2⟩:=hy;obtain ⟨e,he,F0,rfl⟩:=w7.1 hy1;exact ⟨e,by simpa using he,F0,hy2⟩
  have hyi:∃ v,YieldsIf P ops (Nt o w) o v a/\K' (a.put o.dst v) w:=by
   unfold qs at h';split at h'
   ·rename_i hw;rcases h' with ⟨_,v,h1,h2⟩ | ⟨h1,_⟩
    ·exact ⟨v,.inl ⟨hw,h1⟩,h2⟩
    ·rw [hy] at h1;simp at h1
   ·rename_i hw;exact ⟨undef,.inr ⟨by simpa using hw,rfl⟩,h'⟩
  obtain ⟨v,hyv,hk⟩:=hyi;have Qe:∀ j,j < ops.size->listed.getD j true=false->j∉done:=fun j hj hu=>by
   rw [hr.getD hj] at hu;exact jG.1 hu
  refine BA (w0:=w) (Lt:=gS i (za 0 ops.toList) []) hi hp.sel hQ (fun x hx=>(YL x hx).2) f listed a w ?_ ?_ ?_ hir hyv (Nt.refl o w) (ih _ _ hk)
  ·intro j oj Z4 UK hu UY;rcases Jy VX _ (jA Z4) with h1 | h1 | ⟨h1 | h1,_⟩
   ·exact absurd h1 UK
   ·exact absurd h1 (Qe j (uB Z4) hu)
   ·obtain ⟨e,he,F0,hei⟩:=w7.1 h1;exact absurd hei (UY e (by simpa using he) F0)
   ·exact Da h1
  ·intro x hx;rw [hr.getD (YL x hx).1];exact jG.2 ((Vh.1 QF) x hx)
  ·intro j oj Z4 UK hu hM;rcases Jy VX _ (jA Z4) with h1 | h1 | ⟨_,h1 | h1 | h1⟩
   ·exact absurd h1 UK
   ·exact absurd h1 (Qe j (uB Z4) hu)
   ·exact .inr h1
   ·rw [hM] at h1;simp at h1
   ·exact .inl h1
 ·refine ⟨fun h0=>(by rw [h0] at hir;cases hir),fun j hj=>?_⟩;obtain ⟨_,oj,Z4,_⟩:=mem_ready.1 hj;have h1:=(wh hr hd Z4).1 hj;have UK:j=i:=by
   rcases Jn hal _ (jA Z4) with h2 | h2 | h2
   ·exact h2
   ·exact absurd h2 h1.1
   ·rw [h1.2] at h2;simp at h2
  subst UK;exact wpOp_mono (fun a' w' hh=>⟨hh.1,ih _ _ hh.2⟩) (h'.wpOp hi)
theorem Ht {q:Bool} (hp:H4 ops) (hQ:∀ c a w,¬ Q (.panic c) a w):(L:List (Nat×Oper))->(∀ x∈L,ops[x.1]? = some x.2)->{listed:Array Bool}->{done:List Nat}->{a:Act}->{w:World}->{fuel:Nat}->
  L.length<=fuel->Rel ops listed done->(∀ x∈done,x < ops.size)->Q7 q (po ops.toList) (za 0 ops.toList) L done=true->JK q P ops Q (Q .normal) L a w->BB q P .any ops Q fuel listed a w
 | [],_,listed,done,a,w,fuel,_,hr,hd,ho,h=>by
  simp only [Q7] at ho;have QF:Region.ready .any ops listed=[]:=by
   rw [Z57];intro j hj;obtain ⟨_,o,Z4,_⟩:=mem_ready.1 hj;have h1:=(wh hr hd Z4).1 hj;rcases Jn ho _ (jA Z4) with h2 | h2 | h2
   ·have h3:=YX (jA Z4);have h4:(za 0 ops.toList).length=ops.toList.length:=by
     have:=Fo List.length (uN ops.toList 0);simpa using this
    simp only at h2 h3;omega
   ·exact h1.1 h2
   ·rw [h1.2] at h2;simp at h2
  cases fuel with
  | zero=>exact ⟨QF,h⟩
  | succ f=>exact ⟨fun _=>h,fun i hi=>by rw [QF] at hi;simp at hi⟩
 | (i,o) :: L,hL,listed,done,a,w,fuel,hf,hr,hd,ho,h=>by
  simp only [Q7,zA,PO] at ho;obtain ⟨⟨hni,TC⟩,pT⟩:=ho;have hi:ops[i]? = some o:=hL (i,o) (by simp);have qx:=uB hi;obtain ⟨f,rfl⟩:∃ f,fuel=f+1:=⟨fuel-1,by simp only [Vy] at hf;omega⟩;have KZ:L.length<=f:=by simp only [Vy] at hf;omega
  have hd':∀ x∈i :: done,x < ops.size:=by
   intro x hx;rcases pK.1 hx with rfl | hx
   ·exact qx
   ·exact hd x hx
  have ih:∀ {a' w'},JK q P ops Q (Q .normal) L a' w'->BB q P .any ops Q f (listed.setIfInBounds i true) a' w':=fun {a' w'} h'=>
   Ht hp hQ L (fun x hx=>hL x (by simp [hx])) KZ hr.add hd' pT h'
  simp only [I2,zA,Df] at TC;have hir:i∈Region.ready .any ops listed:=(wh hr hd hi).2 ⟨jG.1 hni,TC.1⟩;have h':qs q P ops Q o (JK q P ops Q (Q .normal) L) a w:=h;rcases TC.2 with ⟨⟨hy,VX⟩,QF⟩ | hal
  ·have YL:∀ x∈gS i (za 0 ops.toList) [],x < ops.size/\∀ ox,ops[x]? = some ox->∃ e∈ox.after,Region.binds .any e=true/\(e.on=i\/e.on∈gS i (za 0 ops.toList) []):=by
    refine Vo (by simp) (fun j oj hm hy=>?_);have Z4:=wy _ hm;refine ⟨uB Z4,fun ox hox=>?_⟩;simp only at Z4;rw [Z4] at hox;simp only [zI] at hox;subst hox;obtain ⟨y,hy1,hy2⟩:=hy;obtain ⟨e,he,F0,rfl⟩:=w7.1 hy1;exact ⟨e,by simpa using he,F0,hy2⟩
   have hyi:∃ v,YieldsIf P ops (Nt o w) o v a/\JK q P ops Q (Q .normal) L (a.put o.dst v) w:=by
    unfold qs at h';split at h'
    ·rename_i hw;rcases h' with ⟨_,v,h1,h2⟩ | ⟨h1,_⟩
     ·exact ⟨v,.inl ⟨hw,h1⟩,h2⟩
     ·rw [hy] at h1;simp at h1
    ·rename_i hw;exact ⟨undef,.inr ⟨by simpa using hw,rfl⟩,h'⟩
   obtain ⟨v,hyv,hk⟩:=hyi;have Qe:∀ j,j < ops.size->listed.getD j true=false->j∉done:=fun j hj hu=>by
    rw [hr.getD hj] at hu;exact jG.1 hu
   refine BA (w0:=w) (Lt:=gS i (za 0 ops.toList) []) hi hp.sel hQ (fun x hx=>(YL x hx).2) f listed a w ?_ ?_ ?_ hir hyv (Nt.refl o w) (ih hk)
   ·intro j oj Z4 UK hu UY;rcases Jy VX _ (jA Z4) with h1 | h1 | ⟨h1 | h1,_⟩
    ·exact absurd h1 UK
    ·exact absurd h1 (Qe j (uB Z4) hu)
    ·obtain ⟨e,he,F0,hei⟩:=w7.1 h1;exact absurd hei (UY e (by simpa using he) F0)
    ·exact Da h1
   ·intro x hx;rw [hr.getD (YL x hx).1];exact jG.2 ((Vh.1 QF) x hx)
   ·intro j oj Z4 UK hu hM;rcases Jy VX _ (jA Z4) with h1 | h1 | ⟨_,h1 | h1 | h1⟩
    ·exact absurd h1 UK
    ·exact absurd h1 (Qe j (uB Z4) hu)
    ·exact .inr h1
    ·rw [hM] at h1;simp at h1
    ·exact .inl h1
  ·refine ⟨fun h0=>(by rw [h0] at hir;cases hir),fun j hj=>?_⟩;obtain ⟨_,oj,Z4,_⟩:=mem_ready.1 hj;have h1:=(wh hr hd Z4).1 hj;have UK:j=i:=by
    rcases Jn hal _ (jA Z4) with h2 | h2 | h2
    ·exact h2
    ·exact absurd h2 h1.1
    ·rw [h1.2] at h2;simp at h2
   subst UK;exact wpOp_mono (fun a' w' hh=>⟨hh.1,ih hh.2⟩) (h'.wpOp hi)
theorem Xb {q:Bool} {dst:Nat->Option Nat} {all:List (Nat×Oper)}:{n:Nat}->{done:List Nat}->∀ x∈YV q dst all n done,x∈all
 | 0,_,x,hx=>by simp [YV] at hx
 | n+1,done,x,hx=>by
  simp only [YV] at hx;split at hx
  ·rename_i i o hn;have hmem:(i,o)∈all:=by
    have key:∀ (l:List (Nat×Oper)),K5 q dst all done l=some (i,o)->(i,o)∈l:=by
     intro l
     induction l with
     | nil=>intro h;simp [K5] at h
     | cons y l ih=>
      obtain ⟨j,oj⟩:=y;intro h;simp only [K5] at h
      cases hc:(!yE j done && I2 q dst all done j oj) with
      | true=>rw [hc] at h;simp at h;simp [h.1,h.2]
      | false=>rw [hc] at h;simp only [zU] at h;simp [ih h]
    exact key all hn
   rcases pK.1 hx with rfl | hx
   ·exact hmem
   ·exact Xb x hx
  ·simp at hx
theorem Xc {q:Bool} {dst:Nat->Option Nat} {all:List (Nat×Oper)}:(n:Nat)->(done:List Nat)->(YV q dst all n done).length<=n
 | 0,_=>by simp [YV]
 | n+1,done=>by
  simp only [YV];split
  ·simp only [Vy];exact Nat.succ_le_succ (Xc n _)
  ·simp
theorem VQ {q:Bool} {dst:Nat->Option Nat} {all:List (Nat×Oper)}:{L:List (Nat×Oper)}->{done:List Nat}->Q7 q dst all L done=true->(L.map Prod.fst).Nodup/\∀ x∈L,x.1∉done
 | [],_,_=>⟨by simp,by simp⟩
 | (i,o) :: L,done,h=>by
  simp only [Q7,zA,PO] at h;obtain ⟨h1,h2⟩:=VQ h.2;refine ⟨?_,fun x hx=>?_⟩
  ·simp only [WY,Z2u];refine ⟨fun hm=>?_,h1⟩;obtain ⟨x,hx,he⟩:=Gq.1 hm;exact h2 x hx (by simp [he])
  ·rcases pK.1 hx with rfl | hx
   ·exact jG.1 h.1.1
   ·exact fun hd=>h2 x hx (by simp [hd])
end
end Go.Kz
namespace Go.Kz
variable {R:Type}
end Go.Kz
namespace Go.Kz
variable {R:Type}
section
variable {P:Program} {ops:Array Oper} {Q:Exit->Act->World->Prop}
end
end Go.Kz
namespace Go.Kz
end Go.Kz
namespace Go.Kz
end Go.Kz
namespace Go.Kz
end Go.Kz
namespace Go.Kz
variable {R:Type}
theorem z6x {b:Bool} {x:Option R} {r:R} (h:cond b x none=some r):b=true/\x=some r:=by
 cases b with
 | true=>exact ⟨rfl,h⟩
 | false=>simp at h
section
variable {P:Program} {c:Ctx}
theorem MH {R:Type} {l:List (Option R)} {r:R} (h:qQ l=some r):∀ y∈l,y=some r:=by
 cases l with
 | nil=>simp
 | cons x l=>
  simp only [qQ] at h;split at h
  ·rename_i hall;intro y hy;rcases pK.1 hy with rfl | hy
   ·exact h
   ·rw [hall y hy];exact h
  ·simp at h
theorem Xr {q:Bool} {dst:Nat->Option Nat} {all:List (Nat×Oper)} {done:List Nat} {i:Nat} {o:Oper}:{l:List (Nat×Oper)}->K5 q dst all done l=some (i,o)->(i,o)∈l/\i∉done/\I2 q dst all done i o=true
 | [],h=>by simp [K5] at h
 | (j,oj) :: l,h=>by
  simp only [K5] at h
  cases hc:(!yE j done && I2 q dst all done j oj) with
  | true=>
   rw [hc] at h;simp only [zB,zI,gP] at h;obtain ⟨rfl,rfl⟩:=h;simp only [zA,PO] at hc
   exact ⟨by simp,jG.1 hc.1,hc.2⟩
  | false=>
   rw [hc] at h;simp only [zU] at h;obtain ⟨h1,h2⟩:=Xr h;exact ⟨by simp [h1],h2⟩
theorem kV {done:List Nat} {i:Nat} {o:Oper}:{l:List (Nat×Oper)}->((i,o)∈gM done l↔(i,o)∈l/\i∉done/\YQ done o=true)
 | []=>by simp [gM]
 | (j,oj) :: l=>by
  simp only [gM]
  cases hc:(!yE j done && YQ done oj) with
  | true=>
   simp only [zB,pK,kV (l:=l)];simp only [zA,PO] at hc;constructor
   ·rintro (h | h)
    ·simp only [gP] at h;obtain ⟨rfl,rfl⟩:=h;exact ⟨.inl rfl,jG.1 hc.1,hc.2⟩
    ·exact ⟨.inr h.1,h.2⟩
   ·rintro ⟨h | h,h2⟩
    ·exact .inl h
    ·exact .inr ⟨h,h2⟩
  | false=>
   simp only [zU,pK,kV (l:=l)];constructor
   ·rintro ⟨h,h2⟩;exact ⟨.inr h,h2⟩
   ·rintro ⟨h | h,h2,h3⟩
    ·simp only [gP] at h;obtain ⟨rfl,rfl⟩:=h;rw [h3,jG.2 h2] at hc;simp at hc
    ·exact ⟨h,h2,h3⟩
theorem z3j {q:Bool} (hc:xG P c) {ops:Array Oper} {Q:Exit->Act->World->Prop} {K:Act->World->Prop} {b0:Nat} {o:Oper} {J:St} {g:z8} {a:Act} {w:World} {kk:St->Option R} {r:R} (hw:Region.wanted o (yielded ops a.tmps)=true) (h:Tj q c J b0 o kk=some r) (zy:zG c.ntmps g w a J)
  (vT:∀ m,b0<=m->m < b0+8->zJ g J m)
  (hK:∀ J1 g1 a1 w1,kk J1=some r->zG c.ntmps g1 w1 a1 J1->Ext w g w1 g1->(∀ m,(m < b0\/b0+8<=m)->zJ g J m->zJ g1 J1 m)->J1.next=J.next->(∀ s,o.dst≠some s->a1.tmps[s]? = a.tmps[s]?)->K a1 w1):qs q P ops Q o K a w:=by
 refine qs.mono (fun a1 w1 hh=>hh.2 hh.1.2) (qs.frame (K:=fun a1 w1=>(∀ s,o.dst≠some s->a1.tmps[s]? = a.tmps[s]?)->K a1 w1) ?_);unfold qs;rw [yQ hw]
 cases hy:N1 o with
 | true=>
  left;obtain ⟨av,v,h1,h2,h3,h4⟩:=(Xd hc hy zy (by rw [<-zg5 hy];exact h)).out;refine ⟨rfl,v,h1,fun Jz=>?_⟩;rcases pg h4 with ⟨hd,hk⟩ | ⟨d,hd,qx,hk⟩
  ·rw [hd] at Jz ⊢;exact hK J g a w hk zy (Ext.refl _ _) (fun _ _ hm=>hm) rfl (by rw [hd];exact Jz)
  ·rw [hd] at Jz ⊢;exact hK _ g _ w hk (zy.put qx h2) (Ext.refl _ _) (fun m _ hm=>hm.set d (h3 m hm)) rfl (by rw [hd];exact Jz)
 | false=>
  right;refine ⟨rfl,z2m (base:=b0) hc zy vT h ?_⟩;intro J1 g1 a1 w1 h1 yP yU Qc PG ve;exact ⟨fun h1=>ve h1,fun Jz=>hK J1 g1 a1 w1 h1 yP yU Qc PG Jz⟩
theorem z3k {q:Bool} {ops:Array Oper} {Q:Exit->Act->World->Prop} {K:Act->World->Prop} {o:Oper} {a:Act} {w:World} (hw:Region.wanted o (yielded ops a.tmps)=false) (h:K (a.put o.dst undef) w):qs q P ops Q o K a w:=by
 unfold qs;rw [hw];simp only [Mu,Dh];exact h
theorem z13 (hc:xG P c) {ops:Array Oper} {Q:Exit->Act->World->Prop} {K:Act->World->Prop} {b0:Nat} {o:Oper} {opened py:List Nat} {J:St} {g:z8} {a:Act} {w:World} {kk:List Nat->List Nat->St->Option R} {r:R}
  (h:HW c (po ops.toList) b0 o opened py J kk=some r) (zy:zG c.ntmps g w a J) (Qe:Und a py) (vT:∀ m,b0<=m->m < b0+8->zJ g J m)
  (hK:∀ op1 un1 J1 g1 a1 w1,kk op1 un1 J1=some r->zG c.ntmps g1 w1 a1 J1->Und a1 un1->Ext w g w1 g1->(∀ m,(m < b0\/b0+8<=m)->zJ g J m->zJ g1 J1 m)->J1.next=J.next->K a1 w1):qs true P ops Q o K a w:=by
 have one:∀ {op1:List Nat} {J':St},Tj true c J' b0 o (fun J=>kk op1 (QI o.dst py) J)=some r->zG c.ntmps g w a J'->(∀ m,zJ g J m->zJ g J' m)->J'.next=J.next->Region.wanted o (yielded ops a.tmps)=true->qs true P ops Q o K a w:=by
  intro op1 J' h qT hf hn hw;refine z3j hc hw h qT (fun m h1 h2=>hf m (vT m h1 h2)) (fun J1 g1 a1 w1 h1 yP yU Qc PG Jz=>?_);exact hK _ _ J1 g1 a1 w1 h1 yP (Qe.vR Jz) yU (fun m hm wk=>Qc m hm (hf m wk)) (PG.trans hn)
 have skip:∀ {op1:List Nat} {J':St},kk op1 (Fi o.dst py) (J'.kB o.dst)=some r->zG c.ntmps g w a J'->(∀ m,zJ g J m->zJ g J' m)->J'.next=J.next->Region.wanted o (yielded ops a.tmps)=false->qs true P ops Q o K a w:=by
  intro op1 J' h qT hf hn hw;refine z3k hw (hK _ _ _ g _ w h (qT.zjf o.dst undef) Qe.skip (Ext.refl _ _) (fun m _ wk=>(hf m wk).kB o.dst) ?_);rw [<-hn];cases o.dst <;> rfl
 unfold HW at h;split at h
 ·rename_i hg;exact one h zy (fun _ hm=>hm) rfl (xB hg)
 ·rename_i j want hg;split at h
  ·simp at h
  ·rename_i t hdt;rw [By] at hdt;split at h
   ·rename_i b hb;have hw:=WE (o:=o) (a:=a) hg hdt (Ej zy hb)
    cases hm:yE j opened with
    | true=>
     rw [hm] at h;simp only [zB] at h
     cases hbw:(b == want) with
     | true=>
      rw [hbw] at h hw
      exact one h zy (fun _ hm=>hm) rfl hw
     | false=>
      rw [hbw] at h hw
      exact skip h zy (fun _ hm=>hm) rfl hw
    | false=>
     rw [hm] at h;simp only [zU] at h;have Kk:=XG zy hb
     cases b with
     | true=>
      simp only [zB] at h
      cases want with
      | true=>exact one h Kk (fun m hf=>hf.set t (by simp [z7.ids])) rfl hw
      | false=>exact skip h Kk (fun m hf=>hf.set t (by simp [z7.ids])) rfl hw
     | false=>
      simp only [zU] at h
      cases want with
      | true=>exact skip h Kk (fun m hf=>hf.set t (by simp [z7.ids])) rfl hw
      | false=>exact one h Kk (fun m hf=>hf.set t (by simp [z7.ids])) rfl hw
   ·cases hmu:yE t py with
    | false=>rw [hmu] at h;simp at h
    | true=>
     rw [hmu] at h;simp only [zB] at h;exact skip h zy (fun _ hm=>hm) rfl (X8 hg hdt (Qe t (GS.1 hmu)))
   ·simp at h
theorem I9:{n:Nat}->{l:List Nat}->l.Nodup->(∀ x∈l,x < n)->l.length<=n
 | 0,l,_,hl=>by
  cases l with
  | nil=>simp
  | cons x l=>have:=hl x (by simp);omega
 | n+1,l,h,hl=>by
  have h1:=I9 (n:=n) (h.erase n) (fun x hx=>by
   have h2:=(h.mem_erase_iff).1 hx;have:=hl x h2.2;have:=h2.1;omega)
  rw [List.length_erase] at h1;split at h1 <;> omega
theorem Rn (hc:xG P c) {ops:Array Oper} {Q:Exit->Act->World->Prop} (hp:H4 ops) (hQ:∀ c a w,¬ Q (.panic c) a w) {base:Nat} :
  (n:Nat)->{done opened py:List Nat}->{listed:Array Bool}->{J:St}->{g:z8}->{a:Act}->{w:World}->{k:St->Option R}->{r:R}->{fuel:Nat}->NS c base (po ops.toList) (za 0 ops.toList) n done opened py J k=some r->
  zG c.ntmps g w a J->Und a py->Rel ops listed done->(∀ x∈done,x < ops.size)->done.Nodup->fuel+done.length=ops.size->(∀ i,i < ops.size->i∉done->∀ m,base+8*i<=m->m < base+8*i+8->zJ g J m)->
  (∀ J' g' a' w',k J'=some r->zG c.ntmps g' w' a' J'->Ext w g w' g'->(∀ m,(∀ i,i < ops.size->m < base+8*i\/base+8*i+8<=m)->zJ g J m->zJ g' J' m)->J'.next=J.next->Q .normal a' w')->
  BB true P .any ops Q fuel listed a w
 | 0,_,_,_,_,_,_,_,_,_,_,_,h,_,_,_,_,_,_,_,_=>by simp [NS] at h
 | n+1,done,opened,py,listed,J,g,a,w,k,r,fuel,h,zy,Qe,hr,hd,hnd,hfu,vT,hK=>by
  have step:∀ (i:Nat) (o:Oper),(i,o)∈za 0 ops.toList->i∉done->HW c (po ops.toList) (base+8*i) o opened py J (fun opened py J=>NS c base (po ops.toList) (za 0 ops.toList) n (i :: done) opened py J k)=some r->
    ∃ f,fuel=f+1/\i < ops.size/\ops[i]? = some o/\qs true P ops Q o (fun a' w'=>BB true P .any ops Q f (listed.setIfInBounds i true) a' w') a w:=by
   intro i o hm hi h;have hio:=wy _ hm;have qx:i < ops.size:=uB hio;have hd':∀ x∈i :: done,x < ops.size:=by
    intro x hx;rcases pK.1 hx with rfl | hx
    ·exact qx
    ·exact hd x hx
   have zri:(i :: done).Nodup:=Z2u.2 ⟨hi,hnd⟩;have hle:=I9 zri hd';simp only [Vy] at hle;obtain ⟨f,rfl⟩:∃ f,fuel=f+1:=⟨fuel-1,by omega⟩;refine ⟨f,rfl,qx,hio,z13 (b0:=base+8*i) hc h zy Qe (vT i qx hi) (fun op1 un1 J1 g1 a1 w1 h1 yP q08 yU Qc PG=>?_)⟩;refine Rn hc hp hQ n h1 yP q08 hr.add hd' zri (by simp only [Vy];omega) (fun j hj hjd m q1 q2=>?_) (fun J2 g2 a2 w2 h2 wO wV Pr UJ=>?_)
   ·have je:j≠i:=fun he=>hjd (by simp [he])
    exact Qc m (by omega) (vT j hj (fun hx=>hjd (by simp [hx])) m q1 q2)
   ·exact hK J2 g2 a2 w2 h2 wO (yU.trans wV) (fun m hm hf=>Pr m hm (Qc m (hm i qx) hf)) (UJ.trans PG)
  simp only [NS] at h;split at h
  ·rename_i i o UQ;obtain ⟨hm,hi,TC⟩:=Xr UQ;obtain ⟨f,rfl,qx,hio,hL⟩:=step i o hm hi h;exact zb7 hp hQ hio hr hd hi TC hL (fun a' w' hh=>hh)
  ·split at h
   ·rename_i hra;have QF:Region.ready .any ops listed=[]:=by
     rw [Z57];intro j hj;obtain ⟨_,o,Z4,_⟩:=mem_ready.1 hj;have h1:=(wh hr hd Z4).1 hj;have:(j,o)∈gM done (za 0 ops.toList):=kV.2 ⟨jA Z4,h1.1,h1.2⟩;rw [hra] at this;simp at this
    have hq:=hK J g a w h zy (Ext.refl _ _) (fun m _ hf=>hf) rfl
    cases fuel with
    | zero=>exact ⟨QF,hq⟩
    | succ f=>exact ⟨fun _=>hq,fun i hi=>by rw [QF] at hi;simp at hi⟩
   ·rename_i x l hra;have hall:=MH h;have qE:∀ i o,(i,o)∈gM done (za 0 ops.toList)->∃ f,fuel=f+1/\i < ops.size/\ops[i]? = some o/\qs true P ops Q o (fun a' w'=>BB true P .any ops Q f (listed.setIfInBounds i true) a' w') a w:=by
     intro i o hm;obtain ⟨h1,h2,_⟩:=kV.1 hm;refine step i o h1 h2 (hall _ ?_);rw [<-hra];exact Gq.2 ⟨(i,o),hm,rfl⟩
    obtain ⟨xi,xo⟩:=x;obtain ⟨f,rfl,_⟩:=qE xi xo (by rw [hra];simp);refine ⟨fun h0=>?_,fun j hj=>?_⟩
    ·obtain ⟨h1,h2,h3⟩:=kV.1 (show (xi,xo)∈gM done (za 0 ops.toList) by rw [hra];simp);have:=(wh hr hd (wy _ h1)).2 ⟨h2,h3⟩;rw [h0] at this;cases this
    ·obtain ⟨_,o,Z4,_⟩:=mem_ready.1 hj;have h1:=(wh hr hd Z4).1 hj;obtain ⟨f',KZ,qx,hio,hL⟩:=qE j o (kV.2 ⟨jA Z4,h1.1,h1.2⟩);have:f'=f:=by omega
     subst this;exact hL.wpOp hio
theorem LZ {q:Bool} (hc:xG P c) (hm:P.follows .mixedOrders=true) {id:Nat} {ops:Array Oper} {Q:Exit->Act->World->Prop} {J:St} {g:z8} {a:Act} {w:World} {k:St->Option R} {r:R}
  (hQ:∀ c a w,¬ Q (.panic c) a w) (zS:P5 q ops.toList=true) (h:OE q c ops.toList (DF q ops.toList) J k=some r) (zy:zG c.ntmps g w a J) (hf:qP g J)
  (hK:∀ J' g' a' w',k J'=some r->zG c.ntmps g' w' a' J'->Ext w g w' g'->qP g' J'->(∀ s,(∀ o∈ops.toList,o.dst≠some s)->a'.tmps[s]? = a.tmps[s]?)->Q .normal a' w'):(Code.region id ops true).wp P Q a w:=by
 have hQ1:∀ c a' w,¬ OI ops a Q (.panic c) a' w:=fun c a' w h=>hQ c a' w (h (by simp))
 simp only [P5,zA] at zS;have hnd:=VQ zS.2;have hp:=Hn zS.1;have hmem:∀ x∈DF q ops.toList,x∈za 0 ops.toList:=fun x hx=>Xb x hx
 refine wp_region_any hm (ur (a0:=a) _ _ _ _ (fun _ _=>rfl) (VL _ _ _ _ (Ht hp hQ1 _ (fun x hx=>wy _ (hmem x hx)) ?_ Rel.start (by simp) zS.2 ?_)))
 ·have:=Xc (q:=q) (dst:=po ops.toList) (all:=za 0 ops.toList) ops.toList.length [];simpa [DF] using this
 ·have he:({ w with drawn:=w.drawn+1 }:World).heap=w.heap:=rfl;refine OD hc (fun x hx=>YX (hmem x hx)) hnd.1 h (zy.W7 he) hf (fun J' g' a' w' hk qT pz KZ=>?_);exact fun uG=>hK J' g' a' w' hk qT ((Ext.W7 (g:=g) he rfl rfl rfl (Z1s _)).trans pz) KZ (uG rfl)
theorem T3 (hc:xG P c) (hm:P.follows .mixedOrders=true) {id:Nat} {ops:Array Oper} {draw:Bool} {Q:Exit->Act->World->Prop} {J:St} {g:z8} {a:Act} {w:World} {k:St->Option R} {r:R}
  (hQ:∀ c a w,¬ Q (.panic c) a w) (h:EK c ops draw J k=some r) (zy:zG c.ntmps g w a J) (hf:qP g J)
  (hK:∀ J' g' a' w',k J'=some r->zG c.ntmps g' w' a' J'->Ext w g w' g'->qP g' J'->(∀ s,(∀ o∈ops.toList,o.dst≠some s)->a'.tmps[s]? = a.tmps[s]?)->Q .normal a' w'):(Code.region id ops draw).wp P Q a w:=by
 have hQ1:∀ c a' w,¬ OI ops a Q (.panic c) a' w:=fun c a' w h=>hQ c a' w (h (by simp))
 unfold EK at h
 cases draw with
 | false=>
  simp only [zU] at h;have hL:=OD (K:=fun a' w'=>(∀ s,(∀ o∈ops.toList,o.dst≠some s)->a'.tmps[s]? = a.tmps[s]?)->Q .normal a' w') (Q:=Q) hc (fun x hx=>YX hx) (Xl _ _) h zy hf hK;refine zap (X6 (fun a' w' hh=>hh.2 fun s hs=>hh.1 s fun x hx=>hs x.2 ?_) _ _ _ (CG _ _ _ hL));have:=wy x hx;obtain ⟨qx,he⟩:=Z24.1 this
  rw [<-he];simp
 | true=>
  simp only [zB] at h
  cases IA:P5 true ops.toList with
  | true=>
   rw [IA] at h;simp only [zB] at h
   exact LZ hc hm hQ IA h zy hf hK
  | false=>
  rw [IA] at h;simp only [zU] at h
  cases zS:(P5 false ops.toList && !F1 c J (za 0 ops.toList)) with
  | false=>
   rw [zS] at h;simp only [zU] at h;obtain ⟨Cq,h⟩:=z6x h;have hp:=Hn Cq;have he:({ w with drawn:=w.drawn+1 }:World).heap=w.heap:=rfl;refine wp_region_any hm (ur (a0:=a) _ _ _ _ (fun _ _=>rfl) (VL (q:=true) _ _ _ _ ?_));refine Rn (base:=J.next) hc hp hQ1 _ h (zy.W7 he) (by intro s hs;simp at hs) Rel.start (by simp) (by simp) (by simp) (fun i hi _ m q1 q2=>hf m (by omega)) (fun J' g' a' w' hk qT pz KZ TX=>?_);refine fun uG=>hK _ g' a' w' hk ⟨qT.zk,qT.heap,qT.size,qT.defers,qT.known⟩ ((Ext.W7 (g:=g) he rfl rfl rfl (Z1s _)).trans pz) (fun m hm=>?_) (uG rfl)
   have AK:J.next+8*ops.toList.length<=m:=hm;have:=KZ m (fun i hi=>.inr (by have:i < ops.toList.length:=(by simpa using hi);omega)) (hf m (by omega))
   exact ⟨this.z6,this.row,this.box,this.zk,this.cells⟩
  | true=>
   rw [zS] at h;simp only [zB] at h;exact LZ hc hm hQ (Bool.and_eq_true_iff.1 zS).1 h zy hf hK
end
end Go.Kz
namespace Go.Kz
variable {R:Type}
section
variable {n:Nat} {w:World} {a:Act} {g:z8} {J:St} {k:St->Option R} {r:R}
theorem jJ.zd8 {g':z8} {J':St} (h:jJ g J.z6 g' J'.z6) (hs:J'.zk=J.zk) (hn:J'.next=J.next) (hf:qP g J):qP g' J':=
 fun m hm=>h.fresh hs (hf m (by rw [<-hn];exact hm))
theorem qP.ids {i:Nat} {av:z7} (hf:qP g J) (h:J.zk i=some av):∀ m,J.next<=m->m∉av.ids:=fun m hm=>(hf m hm).zk i av h
structure z86 (w:World) (g:z8) (J:St) (x:z7) (cs:List Value) (g':z8) (J':St) (x':z7):Prop where
 ok:jK w g' J'.z6 x' cs
 sk:x'.sk=x.sk
 agg:x'.isAgg=x.isAgg
 val:x'.val=true
 ids:∀ m,J'.next<=m->m∉x'.ids
 zk:J'.zk=J.zk
 next:J.next<=J'.next
 cells:∀ id z,J'.z6 id=some (.cell z)->J.z6 id=some (.cell z)/\g'.qj id=g.qj id
theorem TN {x:z7} {f:z7->St->Option R} {cs:List Value} (zy:zG n g w a J) (hf:qP g J) (hval:x.val=true) (hx:jK w g J.z6 x cs) (gB:∀ m,J.next<=m->m∉x.ids) (h:NP J x f=some r) :
  ∃ x' J' g',f x' J'=some r/\zG n g' w a J'/\Ext w g w g'/\qP g' J'/\z86 w g J x cs g' J' x':=by
 unfold NP at h;split at h
 ·rename_i id ep p q;split at h
  ·rename_i t l e zp
   cases hb:Nat.beq e ep with
   | false=>rw [hb] at h;simp at h
   | true=>
    rw [hb] at h;have he:=zE hb;subst he;simp only [zB] at h;obtain ⟨u,rfl,qE,hv⟩:=hx;obtain ⟨_,h0,Jq,QH,e1⟩:=(hv _ _ _ zp).2 rfl;let c:Ctx:=⟨0,fun _=>none,fun _=>none,n,fun _=>[],fun _=>none,fun _ _=>none,⟨[],[]⟩,fun _=>none,fun _=>none,fun _=>false,fun _=>false,fun _ _=>none⟩;obtain ⟨yP,yU,z5c⟩:=Cl (c:=c) (e':=e+1) zy zp h0 Jq QH (Bm _);refine ⟨_,_,_,h,yP,yU,fun m hm=>z5c m (hf m hm),⟨u,rfl,qE,fun t' l' e' PK=>?_⟩,rfl,rfl,rfl,fun m hm=>gB m hm,rfl,yN _,fun i z hz=>?_⟩
    ·simp only [St.setObj,zR,zI,Obj.row.injEq] at PK;obtain ⟨_,_,rfl⟩:=PK;exact ⟨yN _,fun _=>by simp only [pF,WQ];exact e1⟩
    ·by_cases hi:i=id
     ·subst hi;simp [St.setObj,zR] at hz
     ·simp only [St.setObj] at hz;rw [zi _ _ hi] at hz;exact ⟨hz,rfl⟩
  ·simp at h
 ·exact ⟨_,J,g,h,zy,Ext.refl w g,hf,hx,rfl,rfl,hval,gB,rfl,yN _,fun _ _ hz=>⟨hz,rfl⟩⟩
theorem qP.zby {t:Ty} (zy:zG n g w a J) (hf:qP g J) (ht:t.zW=true) :
  zG n (pF g J.next (.slice none 0 0)) w a { J.setObj J.next (.row t [] 0) with next:=J.next+1 }/\Ext w g w (pF g J.next (.slice none 0 0))/\
   qP (pF g J.next (.slice none 0 0)) { J.setObj J.next (.row t [] 0) with next:=J.next+1 }:=by
 have qT:zG n (pF g J.next (.slice none 0 0)) w a (J.setObj J.next (.row t [] 0)):=by
  refine zy.pE ⟨fun b hb=>⟨hb,rfl⟩⟩ (fun i hi=>Qr hi) (.inr (hf _ (yN _))) ?_ zy.heap.tags;exact ⟨ht,none,0,by simp [pF],by simp [pF],yN _,jt _,.inl ⟨rfl,rfl,rfl⟩⟩
 refine ⟨⟨qT.zk,qT.heap,qT.size,qT.defers,qT.known⟩,⟨rfl,rfl,rfl,yN _,yN _,fun b _ _=>⟨rfl,rfl⟩⟩,fun m hm=>?_⟩;have AK:J.next+1<=m:=hm;have:=zJ.pE (g:=g) (g':=pF g J.next (.slice none 0 0)) (o:=.row t [] 0) (id:=J.next) (fun b=>.inl rfl) (by omega) (by simp) (hf m (by omega));exact ⟨this.z6,this.row,this.box,this.zk,this.cells⟩
theorem LY {x:z7} {cv:Conv} {f:z7->St->Option R} {cs:List Value} (zy:zG n g w a J) (hf:qP g J) (hval:x.val=true) (hx:jK w g J.z6 x cs) (gB:∀ m,J.next<=m->m∉x.ids) (h:Bp J x cv f=some r) :
  ∃ x' J' g',f x' J'=some r/\zG n g' w a J'/\Ext w g w g'/\qP g' J'/\z86 w g J x cs g' J' x':=by
 cases cv with
 | row t=>
  simp only [Bp] at h;split at h
  ·cases ht:t.zW with
   | false=>rw [ht] at h;simp at h
   | true=>
    rw [ht] at h;simp only [zB] at h;obtain ⟨h1,h2,h3⟩:=qP.zby zy hf ht;have Gh:cs=[.slice none 0 0]:=hx;subst Gh;refine ⟨_,_,_,h,h1,h2,h3,⟨_,rfl,rfl,fun t' l' e' PK=>?_⟩,rfl,rfl,rfl,fun m hm=>?_,rfl,Z1s _,fun i z hz=>?_⟩
    ·simp only [St.setObj,zR,zI,Obj.row.injEq] at PK;obtain ⟨_,_,rfl⟩:=PK;exact ⟨yN _,fun _=>by simp [pF]⟩
    ·simp only [z7.ids,Mp];have AK:J.next+1<=m:=hm;omega
    ·by_cases hi:i=J.next
     ·subst hi;simp [St.setObj,zR] at hz
     ·simp only [St.setObj] at hz;rw [zi _ _ hi] at hz;exact ⟨hz,rfl⟩
  ·exact TN zy hf hval hx gB h
 | dat t=>
  simp only [Bp] at h
  cases hb:(t.zW && x.val && x.sk.same t.sk) with
  | false=>rw [hb] at h;simp at h
  | true=>
   rw [hb] at h;simp only [zB] at h;simp only [zA] at hb;have wG:=Sk.qg hb.2;obtain ⟨d,J',g',hk,hs,hn,AV,zC⟩:=gq 20 zy.heap hx hb.1.1 h;refine ⟨_,J',g',hk,AV.st hs zy,AV.ext,AV.zd8 hs hn hf,⟨hb.1.1,zC⟩,wG.symm,?_,rfl,fun m _=>by simp [z7.ids],hs,by rw [hn];exact yN _,fun i z hz=>?_⟩
   ·rw [(wK hval).1,wG];rfl
   ·rcases AV.z6 i with e | e
    ·rw [<-e];exact ⟨hz,by rw [AV.qj]⟩
    ·rw [e] at hz;simp at hz
 | p5=>simp [Bp] at h
theorem HA (l:List Value) (off n:Nat) (h:off+n<=l.length):zD l off (qS l off n)=l:=by
 have hs:(qS l off n).length=n:=yW h;simp only [zD,hs];rw [qS];have h1:l.drop (off+n)=(l.drop off).drop n:=by rw [Nd]
 rw [h1]
 conv=>rhs;rw [<-Mx off l,<-Mx n (l.drop off)]
 simp
theorem zG.set {i:Nat} {x:z7} {v:Value} (zy:zG n g w a J) (hv:a.tmps[i]? = some v) (hx:zr w g J.z6 x v):zG n g w a (J.set i x):=by
 refine ⟨fun j y hj=>?_,zy.heap,zy.size,zy.defers,zy.known⟩;simp only [St.set,GJ] at hj
 cases hb:Nat.beq j i with
 | true=>
  rw [hb] at hj;simp only [zB,zI] at hj;subst hj;have:=zE hb;subst this
  exact ⟨v,hv,hx⟩
 | false=>rw [hb] at hj;exact zy.zk j y hj
theorem z74 {id:Nat} {x x':z7} (zy:zG n g w a J) (zp:J.z6 id=some (.cell x)) (wG:x'.sk=x.sk)
  (zS:∃ c e,w.heap[g.qj id]? = some (.cells c e (0,0))/\g.tag (g.qj id) = .box id/\jK w g J.z6 x' c.toList):zG n g w a (J.setObj id (.cell x')):=by
 have hk:qv g g id (J.z6 id) (some (.cell x')):=.inr (.inr (.inl ⟨x,x',zp,rfl,wG,rfl⟩));refine zy.pE ⟨fun b hb=>⟨hb,rfl⟩⟩ (fun i hi=>⟨⟨fun _=>rfl,fun _ b hb=>⟨hb,rfl⟩⟩,rfl,fun hb=>⟨hb,rfl⟩⟩) (.inl hk) ?_ zy.heap.tags;obtain ⟨c,e,h1,h2,h3⟩:=zS;refine zo.mk ⟨c,e,h1,h2,?_⟩;refine jK.frame ⟨fun b hb=>⟨hb,rfl⟩⟩ (fun i _=>?_) h3;by_cases hi:i=id
 ·subst hi;simp only [St.setObj,zR];exact hk
 ·simp only [St.setObj];rw [zi _ _ hi];exact qv.refl g i _
theorem NA {id m:Nat} {x x':z7} (hf:zJ g J m) (zp:J.z6 id=some (.cell x)) (hx:m∉x'.ids):zJ g (J.setObj id (.cell x')) m:=by
 have hm:m≠id:=by intro he;subst he;have:=hf.z6;rw [zp] at this;simp at this
 refine ⟨by simp only [St.setObj];rw [zi _ _ hm];exact hf.z6,hf.row,hf.box,hf.zk,fun i y hi=>?_⟩;by_cases he:i=id
 ·subst he;simp only [St.setObj,zR,zI,Obj.cell.injEq] at hi;subst hi;exact hx
 ·simp only [St.setObj] at hi;rw [zi _ _ he] at hi;exact hf.cells i y hi
theorem DL (i:Nat) (p:Path) (cv:Conv) (l:List (Nat×Option Path×Conv))
  (ih:∀ {g:z8} {J:St} {k:St->Option R},zG n g w a J->qP g J->VD l J k=some r->∃ J' g',k J'=some r/\zG n g' w a J'/\Ext w g w g'/\qP g' J')
  (hcv:cv≠.p5) {g:z8} {J:St} {k:St->Option R} (zy:zG n g w a J) (hf:qP g J) (h:VD ((i,some p,cv) :: l) J k=some r) :
  ∃ J' g',k J'=some r/\zG n g' w a J'/\Ext w g w g'/\qP g' J':=by
  have h:(match J.zk i with
   | some (.zq id _)=>JG J id p fun a=>cond a.val (Bp J a cv fun a J=>JG J id [] fun whole=>x4 a whole p fun whole=>VD l (J.setObj id (.cell whole)) k) none
   | _=>none)=some r:=by
   cases cv with
   | p5=>exact absurd rfl hcv
   | row u=>exact h
   | dat u=>exact h
  split at h
  ·rename_i id q hx;obtain ⟨y,y',off,cc,e,zp,h,jZ,zY,zM,qC,hall,J7,gB⟩:=CA zy.heap h;have hym:∀ m,J.next<=m->m∉y'.ids:=fun m hm=>gB m ((hf m hm).cells id y zp)
   cases hval:y'.val with
   | false=>rw [hval] at h;simp at h
   | true=>
    rw [hval] at h;simp only [zB] at h;obtain ⟨x',J1,g1,h,yP,yU,Qc,ht⟩:=LY zy hf hval J7 hym h;obtain ⟨z,z',zwi,cc2,e2,J8,h,zgn,Qp,Du,Z3,zso,z4q,zrz⟩:=CA yP.heap h;have Ny:=Qp;have z4i:=Du;obtain ⟨hz,hblk⟩:=ht.cells id z J8;rw [zp] at hz;simp only [zI,Obj.cell.injEq] at hz;subst hz;rw [hblk,zY] at Qp;simp only [zI,Go.Obj.cells.injEq] at Qp;obtain ⟨rfl,_,_⟩:=Qp;simp only [Sk.off,zI,gP] at zgn;obtain ⟨rfl,Pf⟩:=zgn;have hz':jK w g1 J1.z6 z' cc.toList:=by
     have hl:z'.sk.size=cc.toList.length:=by rw [<-Pf,<-zso.len]
     rw [hl,kr] at z4q;exact z4q
    rw [Pf,<-ht.sk] at jZ;obtain ⟨w',hk,hws,zcf,zqh⟩:=Y4 ht.ok hz' jZ h;rw [HA _ _ _ (by rw [vf];exact qC)] at zcf;obtain ⟨J2,g2,h2,wO,wV,Pr⟩:=ih (z74 yP J8 (hws.trans Pf.symm) ⟨_,_,Ny,z4i,zcf⟩)
     (fun m hm=>NA (Qc m hm) J8 (zqh m (zrz m ((Qc m hm).cells _ _ J8)) (ht.ids m hm))) hk
    exact ⟨J2,g2,h2,wO,yU.trans wV,Pr⟩
  ·simp at h
theorem Za:(l:List (Nat×Option Path×Conv))->{g:z8}->{J:St}->{k:St->Option R}->zG n g w a J->qP g J->VD l J k=some r->
  ∃ J' g',k J'=some r/\zG n g' w a J'/\Ext w g w g'/\qP g' J'
 | [],g,J,k,zy,hf,h=>⟨J,g,h,zy,Ext.refl w g,hf⟩
 | (i,none,cv) :: l,g,J,k,zy,hf,h=>by
  simp only [VD] at h;split at h
  ·rename_i x hx;obtain ⟨v,hv,zS⟩:=zy.zk i x hx
   cases hval:x.val with
   | false=>rw [hval] at h;simp at h
   | true=>
    rw [hval] at h;simp only [zB] at h;obtain ⟨ve,PG,UJ,TU⟩:=wK hval;obtain ⟨cs,uR,Qf⟩:=kX zS TU;obtain ⟨x',J1,g1,h,yP,yU,Qc,ht⟩:=LY zy hf hval uR (hf.ids hx) h;obtain ⟨_,TA,hm2,_⟩:=wK ht.val;have Ed:zr w g1 J1.z6 x' v:=yB ht.ok (by rw [ht.agg];exact Qf) TA hm2;obtain ⟨J2,g2,h2,wO,wV,Pr⟩:=Za l (yP.set hv Ed) (fun m hm=>(Qc m hm).set i (ht.ids m hm)) h;exact ⟨J2,g2,h2,wO,yU.trans wV,Pr⟩
  ·simp at h
 | (i,some p,.p5) :: l,g,J,k,zy,hf,h=>by
  simp only [VD,zhd] at h;split at h
  ·rename_i id q hx;split at h
   ·exact Za l zy hf h
   ·rename_i x _ ho
    cases p4:(z7.jV x).wL with
    | false=>rw [p4] at h;simp at h
    | true=>
    rw [p4] at h;simp only [zB] at h;obtain ⟨g1,h1,h2,h2r,h3,h4⟩:=Rh zy ho p4;obtain ⟨J2,g2,k1,k2,k3,k4⟩:=Za l h1 (fun m hm=>h3 m (hf m hm)) h;exact ⟨J2,g2,k1,k2,h2.trans k3,k4⟩
   ·simp at h
  ·simp at h
 | (i,some p,.row u) :: l,g,J,k,zy,hf,h=>DL i p (.row u) l (fun {_ _ _} a b c=>Za l a b c) (by simp) zy hf h
 | (i,some p,.dat u) :: l,g,J,k,zy,hf,h=>DL i p (.dat u) l (fun {_ _ _} a b c=>Za l a b c) (by simp) zy hf h
theorem K3 {cut:Cut} {k:List (Nat×z7)->List Obj->Option R} (zy:zG n g w a J) (hf:qP g J) (h:PV cut J k=some r) :
  ∃ sl os g',k sl os=some r/\zG n g' w a (St.of sl os)/\Ext w g w g'/\qP g' (St.of sl os):=by
 obtain ⟨J1,g1,h,yP,yU,Qc⟩:=Za cut.conv zy hf h;split at h
 ·rename_i l hl;obtain ⟨sl,os,g2,h2,wO,wV,Pr⟩:=z1u (YF hl) yP h;exact ⟨sl,os,g2,h2,wO,yU.trans wV,Pr⟩
 ·simp at h
theorem JM {cut:Cut} (zy:zG n g w a J) (hf:qP g J) (h:norm cut J k=some r) :
  ∃ J' g',k J'=some r/\zG n g' w a J'/\Ext w g w g'/\qP g' J':=by
 obtain ⟨sl,os,g',h1,h2,h3,h4⟩:=K3 zy hf h;exact ⟨_,g',h1,h2,h3,h4⟩
end
end Go.Kz
namespace Go.Kz
variable {R:Type}
def vQ.to:vQ->Exit
 | .normal=>.normal
 | .exit i=>.exit i
 | .ret=>.ret
def E3 (s:Nat):List Oper->Bool
 | []=>false
 | o :: l=>(match o.dst with
  | some d=>Nat.beq d s
  | none=>false) || E3 s l
def wrote (s:Nat):Code->Bool
 | .region _ ops _=>E3 s ops.toList
 | .seq a b=>wrote s a || wrote s b
 | .cond _ a b=>wrote s a || wrote s b
 | .block _ b=>wrote s b
 | .loop b=>wrote s b
 | _=>false
theorem CK {s:Nat}:{l:List Oper}->E3 s l=false->∀ o∈l,o.dst≠some s
 | [],_,o,h=>by simp at h
 | x :: l,hw,o,h=>by
  simp only [E3,JY] at hw;rcases pK.1 h with rfl | h
  ·intro hd;have h1:=hw.1;rw [hd] at h1;simp only [Nc] at h1;cases h1
  ·exact CK hw.2 o h
def Kept (b:Code) (a a':Act):Prop:=∀ s,wrote s b=false->a'.tmps[s]? = a.tmps[s]?
def z8b (n:Nat) (g:z8) (w:World) (k:vQ->St->Option R) (r:R) (F:Act->Prop) (Q:Exit->Act->World->Prop):Prop:=
 ∀ e J' g' a' w',k e J'=some r->zG n g' w' a' J'->Ext w g w' g'->qP g' J'->F a'->Q e.to a' w'
theorem z8b.later {n:Nat} {g g':z8} {w w':World} {k:vQ->St->Option R} {r:R} {F F':Act->Prop} {Q:Exit->Act->World->Prop} (h:z8b n g w k r F Q) (he:Ext w g w' g') (hF:∀ a,F' a->F a):z8b n g' w' k r F' Q:=
 fun e J' g2 a' w2 hk zy ql hf hF'=>h e J' g2 a' w2 hk zy (he.trans ql) hf (hF a' hF')
section
variable {P:Program} {c:Ctx}
theorem kU (hc:xG P c) (hm:P.follows .mixedOrders=true):(code:Code)->(∀ b∈yA code,QA c b)->{J:St}->{g:z8}->{a:Act}->{w:World}->{k:vQ->St->Option R}->{r:R}->{Q:Exit->Act->World->Prop}->
  (∀ ch a w,¬ Q (.panic ch) a w)->jm c code J k=some r->zG c.ntmps g w a J->qP g J->z8b c.ntmps g w k r (Kept code a) Q->code.wp P Q a w
 | .skip,_,J,g,a,w,k,r,Q,_,h,zy,hf,hk=>Go.wp_skip (hk .normal J g a w h zy (Ext.refl _ _) hf (fun _ _=>rfl))
 | .region id ops draw,_,J,g,a,w,k,r,Q,hQ,h,zy,hf,hk=>T3 hc hm hQ h zy hf (fun J' g' a' w' h' qT pz KZ hkp=>hk .normal J' g' a' w' h' qT pz KZ (fun s hs=>hkp s (CK hs)))
 | .seq x y,Kx,J,g,a,w,k,r,Q,hQ,h,zy,hf,hk=>by
  simp only [jm] at h;refine wp_seq (kU hc hm x (fun b hb=>Kx b (by simp [yA,hb])) (Q:=Exit.then (y.wp P Q) Q) hQ h zy hf ?_);intro e J1 g1 a1 w1 h1 yP yU Qc zcp;have hy:∀ a',Kept y a1 a'->Kept (.seq x y) a a':=fun a' h s hs=>by
   simp only [wrote,JY] at hs;rw [h s hs.2,zcp s hs.1]
  have hx:Kept (.seq x y) a a1:=fun s hs=>by
   simp only [wrote,JY] at hs;exact zcp s hs.1
  cases e with
  | normal=>
   simp only [zc7,zc9] at h1;show y.wp P Q a1 w1;split at h1
   ·obtain ⟨J2,g2,h2,wO,wV,Pr⟩:=JM yP Qc h1;exact kU hc hm y (fun b hb=>Kx b (by simp [yA,hb])) hQ h2 wO Pr (hk.later (yU.trans wV) hy)
   ·exact kU hc hm y (fun b hb=>Kx b (by simp [yA,hb])) hQ h1 yP Qc (hk.later yU hy)
  | exit i=>exact hk (.exit i) J1 g1 a1 w1 h1 yP yU Qc hx
  | ret=>exact hk .ret J1 g1 a1 w1 h1 yP yU Qc hx
 | .cond x p q,Kx,J,g,a,w,k,r,Q,hQ,h,zy,hf,hk=>by
  simp only [jm] at h;split at h
  ·rename_i t ht;have hv:=xW (qF zy ht).1;refine wp_cond hv ?_
   cases t with
   | true=>exact kU hc hm p (fun b hb=>Kx b (by simp [yA,hb])) hQ h zy hf (hk.later (Ext.refl _ _) fun a' h s hs=>h s (by simp only [wrote,JY] at hs;exact hs.1))
   | false=>exact kU hc hm q (fun b hb=>Kx b (by simp [yA,hb])) hQ h zy hf (hk.later (Ext.refl _ _) fun a' h s hs=>h s (by simp only [wrote,JY] at hs;exact hs.2))
  ·simp at h
 | .block id b,Kx,J,g,a,w,k,r,Q,hQ,h,zy,hf,hk=>by
  simp only [jm] at h;refine wp_block (kU hc hm b (fun b' hb=>Kx b' (by simp [yA,hb])) (Q:=Exit.inBlock id Q) hQ h zy hf ?_);intro e J1 g1 a1 w1 h1 yP yU Qc zcp;have hx:Kept (.block id b) a a1:=zcp
  cases e with
  | normal=>exact hk .normal J1 g1 a1 w1 h1 yP yU Qc hx
  | exit i=>
   simp only [z3w] at h1;simp only [vQ.to,Exit.inBlock]
   cases hb:Nat.beq i id with
   | true=>
    rw [hb] at h1;rw [yQ (zE hb)]
    exact hk .normal J1 g1 a1 w1 h1 yP yU Qc hx
   | false=>
    rw [hb] at h1;rw [qZ (fun he=>by subst he;rw [Nc] at hb;simp at hb)]
    exact hk (.exit i) J1 g1 a1 w1 h1 yP yU Qc hx
  | ret=>exact hk .ret J1 g1 a1 w1 h1 yP yU Qc hx
 | .loop b,Kx,J,g,a,w,k,r,Q,hQ,h,zy,hf,hk=>by
  simp only [jm] at h;split at h
  ·rename_i rg Qk;split at h
   ·rename_i lv hlv;split at h
    ·rename_i L hL;obtain ⟨sl0,os0,g0,h,Kk,z5f,hf0⟩:=K3 zy hf h;have h:=Kx b (by simp [yA]) rg lv L Qk hlv hL R sl0 os0 k r h;refine wp_loop_rounds c.fuel ?_;have rounds:∀ (n:Nat) {sl:List (Nat×z7)} {os:List Obj} {g1:z8} {a1:Act} {w1:World},YE (jm c b) lv n sl os (YN c rg k)=some r->zG c.ntmps g1 w1 a1 (St.of sl os)->qP g1 (St.of sl os)->Ext w g w1 g1->Kept b a a1->Code.rounds P b Q n a1 w1:=by
      intro n
      induction n with
      | zero=>intro sl os g1 a1 w1 h;simp [YE] at h
      | succ n ih=>
      intro sl os g1 a1 w1 h zy hf ql hkp;simp only [YE] at h;rw [rounds_succ];refine kU hc hm b (fun b' hb=>Kx b' (by simp [yA,hb])) (Q:=Exit.then (Code.rounds P b Q n) Q) hQ h zy hf ?_;intro e J2 g2 a2 w2 h2 wO wV Pr q1b;have hx:Kept (.loop b) a a2:=fun s hs=>(q1b s hs).trans (hkp s hs)
      cases e with
      | normal=>
       obtain ⟨sl3,os3,g3,h3,N6,IL,hf3⟩:=K3 wO Pr h2
       exact ih h3 N6 hf3 ((ql.trans wV).trans IL) hx
      | exit i=>
       simp only [YN] at h2;split at h2
       ·obtain ⟨J3,g3,h3,N6,IL,hf3⟩:=JM wO Pr h2;exact hk (.exit i) J3 g3 a2 w2 h3 N6 ((ql.trans wV).trans IL) hf3 hx
       ·simp at h2
      | ret=>
       simp only [YN] at h2;obtain ⟨J3,g3,h3,N6,IL,hf3⟩:=JM wO Pr h2;exact hk .ret J3 g3 a2 w2 h3 N6 ((ql.trans wV).trans IL) hf3 hx
     exact rounds c.fuel h Kk hf0 z5f (fun _ _=>rfl)
    ·simp at h
   ·simp at h
  ·simp at h
 | .exit id,_,J,g,a,w,k,r,Q,_,h,zy,hf,hk=>wp_exit (hk (.exit id) J g a w h zy (Ext.refl _ _) hf (fun _ _=>rfl))
 | .ret,_,J,g,a,w,k,r,Q,_,h,zy,hf,hk=>wp_ret (hk .ret J g a w h zy (Ext.refl _ _) hf (fun _ _=>rfl))
 | .goto _,_,_,_,_,_,_,_,_,_,h,_,_,_=>by simp [jm] at h
 | .label _,_,_,_,_,_,_,_,_,_,h,_,_,_=>by simp [jm] at h
 | .scope _,_,_,_,_,_,_,_,_,_,h,_,_,_=>by simp [jm] at h
 | .rangeFunc _ _ _ _,_,_,_,_,_,_,_,_,_,h,_,_,_=>by simp [jm] at h
 | .refuse _,_,_,_,_,_,_,_,_,_,h,_,_,_=>by simp [jm] at h
end
end Go.Kz
namespace Go.Kz
variable {R:Type}
def Ty.wM:Ty->Bool
 | .pair _ _ | .unit=>true
 | _=>false
def Ty.B9:Ty->Bool
 | .sl true t=>t.zW
 | .pair a b=>a.B9 && b.B9 && b.wM
 | t=>t.zW
structure U7 (g:z8) (Dz:qp) (g':z8) (wE:qp) (ml:List (Option Nat)):Prop where
 sv:g'.sv=g.sv
 qj:g'.qj=g.qj
 z6:∀ i,wE i=Dz i\/wE i=none
 tag:∀ b,g'.tag b=g.tag b\/(g'.tag b = .ro/\∃ id,Dz id≠none/\wE id=none/\some id∉ml/\((∃ p,g.tag b = .row id p)\/g.tag b = .box id))
 mv:∀ i,some i∈ml->Dz i≠none/\wE i=none
 nodup:(ml.filterMap id).Nodup
theorem jJ.shr {g g':z8} {o o':qp} (h:jJ g o g' o'):U7 g o g' o' []:=by
 refine ⟨h.sv,h.qj,h.z6,fun b=>?_,fun i hi=>by simp at hi,by simp⟩;rcases h.tag b with e | ⟨e,id,h1,h2,h3⟩
 ·exact .inl e
 ·exact .inr ⟨e,id,h1,h2,by simp,h3⟩
theorem U7.nil (g:z8) (z6:qp):U7 g z6 g z6 [none]:=⟨rfl,rfl,fun _=>.inl rfl,fun _=>.inl rfl,fun i h=>by simp at h,by simp⟩
theorem U7.ro {g g':z8} {o o':qp} {mv:List (Option Nat)} (h:U7 g o g' o' mv) (w:World):zT w g w g':=by
 refine ⟨fun b hb=>⟨?_,rfl⟩⟩;rcases h.tag b with e | ⟨e,_⟩
 ·rw [e,hb]
 ·exact e
theorem U7.stays {g g':z8} {o o':qp} {mv:List (Option Nat)} (h:U7 g o g' o' mv) (w:World) {id:Nat} (hid:o id=none\/o' id≠none\/some id∈mv):Zh w g w g' id:=by
 have UY:∀ vY,o vY≠none->o' vY=none->some vY∉mv->vY≠id:=by
  intro vY h1 h2 h3 he;subst he;rcases hid with h | h | h
  ·exact h1 h
  ·exact h h2
  ·exact h3 h
 refine ⟨⟨fun q=>by rw [h.sv],fun q b hb=>⟨?_,rfl⟩⟩,by rw [h.qj],fun hb=>⟨?_,rfl⟩⟩
 ·rcases h.tag b with e | ⟨_,vY,h1,h2,h3,ht⟩
  ·rw [e,hb]
  ·rw [hb] at ht;rcases ht with ⟨p,ht⟩ | ht
   ·simp only [Tag.row.injEq] at ht;exact absurd ht.1.symm (UY vY h1 h2 h3)
   ·simp at ht
 ·rcases h.tag (g.qj id) with e | ⟨_,vY,h1,h2,h3,ht⟩
  ·rw [e,hb]
  ·rw [hb] at ht;rcases ht with ⟨p,ht⟩ | ht
   ·simp at ht
   ·simp only [Tag.box.injEq] at ht;exact absurd ht.symm (UY vY h1 h2 h3)
theorem U7.trans {g g' g'':z8} {o o' o'':qp} {m1 m2:List (Option Nat)} (h:U7 g o g' o' m1) (k:U7 g' o' g'' o'' m2):U7 g o g'' o'' (m1++m2):=by
 have Of:∀ i,o' i≠Option.none->o i≠Option.none:=by
  intro i hi;rcases h.z6 i with e | e
  ·rw [<-e];exact hi
  ·exact absurd e hi
 have zs4:∀ i,o' i=Option.none->o'' i=Option.none:=by
  intro i hi;rcases k.z6 i with e | e
  ·rw [e];exact hi
  ·exact e
 refine ⟨k.sv.trans h.sv,k.qj.trans h.qj,fun i=>?_,fun b=>?_,fun i hi=>?_,?_⟩
 ·rcases k.z6 i with e | e
  ·rw [e];exact h.z6 i
  ·exact .inr e
 ·rcases k.tag b with e | ⟨e,id,h1,h2,h3,ht⟩
  ·rcases h.tag b with e2 | ⟨e2,id,h1,h2,h3,ht⟩
   ·exact .inl (e.trans e2)
   ·refine .inr ⟨e.trans e2,id,h1,zs4 id h2,fun hm=>?_,ht⟩;rcases U5.1 hm with hm | hm
    ·exact h3 hm
    ·exact absurd h2 (k.mv id hm).1
  ·rcases h.tag b with e2 | ⟨e2,_⟩
   ·rw [e2] at ht;refine .inr ⟨e,id,Of id h1,h2,fun hm=>?_,ht⟩;rcases U5.1 hm with hm | hm
    ·exact h1 (h.mv id hm).2
    ·exact h3 hm
   ·rw [e2] at ht;rcases ht with ⟨p,ht⟩ | ht <;> simp at ht
 ·rcases U5.1 hi with hi | hi
  ·exact ⟨(h.mv i hi).1,zs4 i (h.mv i hi).2⟩
  ·exact ⟨Of i (k.mv i hi).1,(k.mv i hi).2⟩
 ·rw [List.filterMap_append,Z58];refine ⟨h.nodup,k.nodup,fun a ha b hb=>?_⟩;have ha':some a∈m1:=by obtain ⟨x,hx,he⟩:=Z4m.1 ha;simp at he;rw [<-he];exact hx
  have Z6:some b∈m2:=by obtain ⟨x,hx,he⟩:=Z4m.1 hb;simp at he;rw [<-he];exact hx
  intro he;subst he;exact (k.mv a Z6).1 (h.mv a ha').2
theorem U7.kept {w:World} {g g':z8} {o o':qp} {mv:List (Option Nat)} (h:U7 g o g' o' mv) (id:Nat):qv g g' id (o id) (o' id):=by
 rcases h.z6 id with e | e
 ·rw [e];by_cases hn:o' id=Option.none
  ·left;rw [<-e];exact hn
  ·exact qv.same (h.stays w (.inr (.inl hn)))
 ·exact .inl e
theorem U7.heap {w:World} {g g':z8} {o o':qp} {mv:List (Option Nat)} (h:U7 g o g' o' mv) (hh:yY w g o):yY w g' o':=by
 refine ⟨fun id x hx=>?_,fun b hb=>?_⟩
 ·have hid:o' id≠Option.none:=by rw [hx];simp
  have Gh:o id=some x:=by
   rcases h.z6 id with e | e
   ·rw [<-e];exact hx
   ·exact absurd e hid
  exact zo.frame (h.ro w) (h.stays w (.inr (.inl hid))) (fun a ha vY _=>h.kept (w:=w) vY) (hh.z6 id x Gh)
 ·refine hh.tags b ?_;rcases h.tag b with e | ⟨e,vY,_,_,_,ht⟩
  ·rw [<-e];exact hb
  ·rcases ht with ⟨p,ht⟩ | ht <;> rw [ht] <;> simp
theorem U7.ext {w:World} {g g':z8} {o o':qp} {mv:List (Option Nat)} (h:U7 g o g' o' mv):Ext w g w g':=by
 refine ⟨rfl,rfl,rfl,yN _,yN _,fun b _ ht=>⟨rfl,?_⟩⟩;rcases h.tag b with e | ⟨_,vY,_,_,_,h2⟩
 ·exact e
 ·rcases h2 with ⟨p,h2⟩ | h2 <;> rw [h2] at ht <;> simp at ht
theorem z3r {g:z8} {J:St} {id:Nat} (hid:J.z6 id≠none):U7 g J.z6 g (J.kill id).z6 [some id]:=by
 refine ⟨rfl,rfl,(vb (g:=g) (J:=J) id hid).z6,fun b=>.inl rfl,fun i hi=>?_,by simp⟩;simp only [Mp,zI] at hi;subst hi;exact ⟨hid,by simp [St.kill,GJ]⟩
structure Laid (w:World) (g:z8) (mv:List (Option Nat)) (G:z8) (base:Nat):Prop where
 ro:zT w g w G
 row:∀ j i,zF mv j=some (some i)->xl w g w G i [] (base+j) []
 nil:∀ j,zF mv j=some none->G.sv (base+j) [] = .slice none 0 0
theorem wm {I:Type}:(l m:List I)->(i:Nat)->zF (l++m) i=if i < l.length then zF l i else zF m (i-l.length)
 | [],m,i=>by simp
 | x :: l,m,0=>by simp [zF]
 | x :: l,m,i+1=>by simp [zF,wm l m i]
theorem Laid.left {w:World} {g g' G:z8} {o o':qp} {m1 m2:List (Option Nat)} {base:Nat} (k:U7 g o g' o' m2) (hm:∀ i,some i∈m1->o i=none) (h:Laid w g' (m1++m2) G base):Laid w g m1 G base:=by
 refine ⟨⟨fun b hb=>h.ro.qj b ((k.ro w).qj b hb).1⟩,fun j i hj=>?_,fun j hj=>?_⟩
 ·have qx:=wF hj;have hx:=h.row j i (by rw [wm,yQ qx];exact hj);have hs:=k.stays w (.inl (hm i (jH hj)));refine ⟨fun q=>(hx.sv q).trans (hs.row.sv q),fun q b hb=>?_⟩;exact hx.qj q b (hs.row.qj q b hb).1
 ·exact h.nil j (by rw [wm,yQ (wF hj)];exact hj)
theorem Laid.right {w:World} {g G:z8} {m1 m2:List (Option Nat)} {base:Nat} (h:Laid w g (m1++m2) G base):Laid w g m2 G (base+m1.length):=by
 refine ⟨h.ro,fun j i hj=>?_,fun j hj=>?_⟩
 ·have:=h.row (m1.length+j) i (by rw [wm,qZ (by omega)];rw [Z54];exact hj);rw [<-S0] at this;exact this
 ·have:=h.nil (m1.length+j) (by rw [wm,qZ (by omega)];rw [Z54];exact hj);rw [<-S0] at this;exact this
theorem P0:(t:Ty)->(d:t.den)->(n:Nat)->t.zW=true->zj t d n=(.data t d,[])
 | .sl true t,l,n,h=>by simp [Ty.zW] at h
 | .sl false t,l,n,_=>rfl
 | .int _,_,_,_=>rfl
 | .bool,_,_,_=>rfl
 | .str,_,_,_=>rfl
 | .unit,_,_,_=>rfl
 | .arr _ _,_,_,_=>rfl
 | .ptr _,_,_,_=>rfl
 | .fn _ _,_,_,_=>rfl
 | .tree _,_,_,_=>rfl
 | .pair a b,(x,y),n,h=>by simp only [zj,h,zB]
theorem QQ {w:World} {g:z8} {z6:qp}:(t:Ty)->(d:t.den)->(n:Nat)->{cs:List Value}->t.zW=true->t.wM=true->t.B9=true->zH w g none t d cs->
  jK w g z6 (zj.ze t d n).1 cs/\(zj.ze t d n).2=[]
 | .unit,_,_,cs,_,_,_,h=>⟨h,rfl⟩
 | .pair a b,(x,y),n,cs,h,_,he,hr=>by
  obtain ⟨c1,c2,rfl,h1,h2⟩:=hr;simp only [Ty.zW,zA] at h;simp only [Ty.B9,zA] at he;have ha:=P0 a x n h.1;have hb:=fun n=>QQ (z6:=z6) b y n h.2 he.2 he.1.2 h2
  simp only [zj.ze,ha,Fl,S1,QP]
  exact ⟨⟨c1,c2,rfl,⟨h.1,h1⟩,(hb n).1⟩,(hb n).2⟩
 | .int _,_,_,_,_,h,_,_=>by simp [Ty.wM] at h
 | .bool,_,_,_,_,h,_,_=>by simp [Ty.wM] at h
 | .str,_,_,_,_,h,_,_=>by simp [Ty.wM] at h
 | .arr _ _,_,_,_,_,h,_,_=>by simp [Ty.wM] at h
 | .sl _ _,_,_,_,_,h,_,_=>by simp [Ty.wM] at h
 | .ptr _,_,_,_,_,h,_,_=>by simp [Ty.wM] at h
 | .fn _ _,_,_,_,_,h,_,_=>by simp [Ty.wM] at h
 | .tree _,_,_,_,_,h,_,_=>by simp [Ty.wM] at h
structure Jt (w:World) (G:z8) (x:z7×List Obj) (base:Nat) (cs:List Value):Prop where
 ok:∀ O,jK w G O x.1 cs
 z6:∀ O j o,zF x.2 j=some o->zo w G O (base+j) o
theorem zd5 {R:Type} {n:Nat} {pt:Bool} {id:Nat} {p:Path} {ep:Nat} {u:Ty} {J:St} {k:u.den->St->Option R} {r:R} (h:j6 n (.nv pt id p ep) u J k=some r):∃ v,u = .sl false v:=by
 cases n with
 | zero=>simp [j6] at h
 | succ n=>
  cases pt with
  | true=>simp [j6] at h
  | false=>
   cases p with
   | cons s q=>simp [j6] at h
   | nil=>
    simp only [j6] at h;split at h
    ·rename_i t l e i ho
     cases hb:Nat.beq e ep with
     | false=>rw [hb] at h;simp at h
     | true=>
      rw [hb] at h;simp only [zB] at h;split at h
      ·exact ⟨_,rfl⟩
      ·simp at h
    ·simp at h
theorem KJ {w:World}:(n:Nat)->{a:z7}->{u:Ty}->{J:St}->{g:z8}->{k:u.den->St->Option R}->{r:R}->{cs:List Value}->
  yY w g J.z6->jK w g J.z6 a cs->u.B9=true->j6 n a u J k=some r->
  ∃ d J' g' mv,k d J'=some r/\J'.zk=J.zk/\J'.next=J.next/\U7 g J.z6 g' J'.z6 mv/\(∀ m,(zj u d m).2.length=mv.length)/\
   (∀ G base,Laid w g' mv G base->Jt w G (zj u d base) base cs)/\
   (u.wM=true->(∀ m,(zj.ze u d m).2.length=mv.length)/\∀ G base,Laid w g' mv G base->Jt w G (zj.ze u d base) base cs)
 | 0,_,_,_,_,_,_,_,_,_,_,h=>by simp [j6] at h
 | n+1,a,u,J,g,k,r,cs,hh,zS,hu,h=>by
  have ro:∀ d J' g',u.zW=true->k d J'=some r->J'.zk=J.zk->J'.next=J.next->U7 g J.z6 g' J'.z6 []->zH w g' none u d cs->
    ∃ d J' g' mv,k d J'=some r/\J'.zk=J.zk/\J'.next=J.next/\U7 g J.z6 g' J'.z6 mv/\(∀ m,(zj u d m).2.length=mv.length)/\
     (∀ G base,Laid w g' mv G base->Jt w G (zj u d base) base cs)/\
     (u.wM=true->(∀ m,(zj.ze u d m).2.length=mv.length)/\∀ G base,Laid w g' mv G base->Jt w G (zj.ze u d base) base cs):=by
   intro d J' g' qu hk h1 h2 h3 zC;refine ⟨d,J',g',[],hk,h1,h2,h3,fun m=>by rw [P0 u d m qu];rfl,fun G base hl=>?_,fun hch=>⟨fun m=>?_,fun G base hl=>?_⟩⟩
   ·rw [P0 u d base qu];exact ⟨fun O=>⟨qu,zC.kept hl.ro⟩,fun O j o hj=>by cases j <;> simp [zF] at hj⟩
   ·rw [(QQ (w:=w) (z6:=fun _=>none) u d m qu hch hu zC).2];rfl
   ·refine ⟨fun O=>(QQ u d base qu hch hu (zC.kept hl.ro)).1,fun O j o hj=>?_⟩;rw [(QQ (w:=w) (z6:=fun _=>none) u d base qu hch hu zC).2] at hj;cases j <;> simp [zF] at hj
  cases qu:u.zW with
  | true=>
   obtain ⟨d,J',g',hk,h1,h2,h3,zC⟩:=gq (n+1) hh zS qu h
   exact ro d J' g' qu hk h1 h2 h3.shr zC
  | false=>
  cases a with
  | data t d=>
   simp only [j6] at h;obtain ⟨_,_,Pn,_⟩:=vX h zS.1
   rw [Pn] at qu;simp at qu
  | qD=>
   simp only [j6] at h;obtain ⟨o,v,rfl,h⟩:=JN h;have Ku:cs=[.slice none 0 0]:=zS;subst Ku
   cases o with
   | false=>rw [show (Ty.sl false v).zW=true from by simpa [Ty.B9] using hu] at qu;simp at qu
   | true=>
    refine ⟨_,J,g,[none],h,rfl,rfl,U7.nil _ _,fun m=>rfl,fun G base hl=>?_,fun hch=>by simp [Ty.wM] at hch⟩;have qf:=hl.nil 0 rfl;refine ⟨fun O=>⟨_,rfl,rfl,fun t l e _=>⟨jt _,fun _=>qf.symm⟩⟩,fun O j o hj=>?_⟩
    cases j with
    | succ j=>cases j <;> simp [zj,zF] at hj
    | zero=>
     simp only [zj,zF,zI] at hj;subst hj;refine ⟨hu,?_⟩;rw [qf]
     exact ⟨none,0,rfl,qf,yN _,jt _,.inl ⟨rfl,rfl,rfl⟩⟩
  | ref id p ep=>
   cases p with
   | cons s q=>simp [j6] at h
   | nil=>
    simp only [j6] at h;split at h
    ·rename_i t l e ho
     cases hb:Nat.beq e ep with
     | false=>rw [hb] at h;simp at h
     | true=>
      have he:e=ep:=zE hb;subst he;rw [hb] at h;simp only [zB] at h;obtain ⟨v,rfl,_,hv⟩:=zS;have qf:=(hv _ _ _ ho).2 rfl;have zp:=hh.z6 id _ ho;split at h
      ·rename_i v' kk;obtain ⟨he,h⟩:=qe h;simp only [Ty.sl.injEq,Vq] at he;subst he;refine ⟨_,J.kill id,g,[some id],h,rfl,rfl,z3r (by rw [ho];simp),fun m=>rfl,fun G base hl=>?_,fun hch=>by simp [Ty.wM] at hch⟩;have hm:=hl.row 0 id rfl;have AJ:=hm.sv [];simp only [Di] at AJ;refine ⟨fun O=>⟨_,rfl,?_,fun t l e _=>⟨jt _,fun _=>?_⟩⟩,fun O j o hj=>?_⟩
       ·obtain ⟨_,_,_,_,hx,_⟩:=zp;rw [qf,hx];rfl
       ·rw [qf];exact AJ.symm
       ·cases j with
        | succ j=>cases j <;> simp [zj,zF] at hj
        | zero=>
         simp only [zj,zF,zI] at hj;subst hj;refine ⟨zp.1,?_⟩;have:=zH.move hl.ro (o:=some (id,[])) (o':=some (base,[])) hm zp.2;show zH w G (some (base,[])) _ _ [G.sv base []];rw [show G.sv base []=g.sv id [] from AJ];exact this
      ·rename_i v' kk;rw [show (Ty.sl false v').zW=true from by simpa [Ty.B9] using hu] at qu;simp at qu
      ·simp at h
    ·simp at h
  | zq id p=>
   cases u with
   | ptr u=>rw [show (Ty.ptr u).zW=true from hu] at qu;simp at qu
   | _=>cases p <;> simp [j6] at h
  | qd f c=>
   cases u with
   | fn f' t=>rw [show (Ty.fn f' t).zW=true from hu] at qu;simp at qu
   | _=>simp [j6] at h
  | V7 t c=>simp [j6] at h
  | agg c=>
   simp only [j6] at h
   exact KJ n (a:=c) hh zS hu h
  | pr a b=>
   cases u with
   | pair t u=>
    simp only [j6] at h;simp only [Ty.B9,zA] at hu;obtain ⟨c1,c2,rfl,ha,hb⟩:=zS;obtain ⟨x,J1,g1,mv1,Qg,h1,h2,h3,DY,he1,_⟩:=KJ n hh ha hu.1.1 h;have Z6:=jK.frame (wE:=J1.z6) (h3.ro w) (fun i _=>h3.kept (w:=w) i) hb;obtain ⟨y,J2,g2,mv2,PX,h4,h5,h6,UW,he2,GQ⟩:=KJ n (h3.heap hh) Z6 hu.1.2 Qg;obtain ⟨q25,q27⟩:=GQ hu.2;have zgq:∀ m,(zj.ze (.pair t u) (x,y) m).2.length=(mv1++mv2).length:=fun m=>by
     simp only [zj.ze,VH,DY,q25]
    have zld:∀ G base,Laid w g2 (mv1++mv2) G base->Jt w G (zj.ze (.pair t u) (x,y) base) base (c1++c2):=fun G base hl=>by
     have e1:=he1 G base (hl.left h6 (fun i hi=>(h3.mv i hi).2));have e2:=q27 G (base+mv1.length) hl.right;simp only [zj.ze];rw [DY base];refine ⟨fun O=>⟨c1,c2,rfl,e1.ok O,e2.ok O⟩,fun O j o hj=>?_⟩;rw [wm] at hj;split at hj
     ·exact e1.z6 O j o hj
     ·rename_i Cv;rw [DY base] at hj Cv;have:=e2.z6 O _ o hj;rw [show base+mv1.length+(j-mv1.length)=base+j from by omega] at this;exact this
    refine ⟨(x,y),J2,g2,mv1++mv2,PX,h4.trans h1,h5.trans h2,h3.trans h6,fun m=>?_,fun G base hl=>?_,fun _=>⟨zgq,zld⟩⟩
    ·simp only [zj];rw [qu];exact zgq m
    ·simp only [zj];rw [qu]
     exact ⟨fun O=>(zld G base hl).ok O,(zld G base hl).z6⟩
   | _=>simp [j6] at h
  | un=>
   cases u with
   | unit=>
    simp only [j6] at h
    simp [Ty.zW] at qu
   | _=>simp [j6] at h
  | view id p ep x y=>cases u <;> simp [j6] at h
  | vA id p ep=>cases u <;> simp [j6] at h
  | qz id=>cases u <;> simp [j6] at h
  | nv pt id p ep=>
   obtain ⟨v',rfl⟩:=zd5 h
   rw [show (Ty.sl false v').zW=true from by simpa [Ty.B9] using hu] at qu;simp at qu
  | jV c=>exact zS.elim
end Go.Kz
namespace Go.Kz
variable {R:Type}
def W0 (x:Nat):List (Option Nat)->Nat->Option Nat
 | [],_=>none
 | some y :: l,i=>if y=x then some i else W0 x l (i+1)
 | none :: l,i=>W0 x l (i+1)
theorem Vt {x:Nat}:{l:List (Option Nat)}->{k d:Nat}->(l.filterMap id).Nodup->zF l d=some (some x)->W0 x l k=some (k+d)
 | [],_,d,_,h=>by cases d <;> simp [zF] at h
 | none :: l,k,d,hn,h=>by
  cases d with
  | zero=>simp [zF] at h
  | succ d=>
   simp only [W0];rw [Vt (l:=l) (by simpa using hn) h]
   congr 1;omega
 | some y :: l,k,0,_,h=>by
  simp only [zF,zI] at h
  simp [W0,h]
 | some y :: l,k,d+1,hn,h=>by
  have TX:y∉l.filterMap id/\(l.filterMap id).Nodup:=by simpa using hn
  have hm:some x∈l:=jH h;have je:y≠x:=by
   intro he;subst he;exact TX.1 (Z4m.2 ⟨some y,hm,rfl⟩)
  simp only [W0,qZ je];rw [Vt (l:=l) TX.2 h];congr 1;omega
def xq (g:z8) (mv:List (Option Nat)):z8 where
 tag:=fun b=>match g.tag b with
  | .row i p=>(match W0 i mv 0 with
   | some j=>.row j p
   | none=>.zt)
  | .box _=>.zt
  | t=>t
 sv:=fun j p=>match zF mv j with
  | some (some i)=>g.sv i p
  | _=>.slice none 0 0
 qj:=fun _=>0
theorem OH {w:World} {g:z8} {mv:List (Option Nat)} (hn:(mv.filterMap id).Nodup):Laid w g mv (xq g mv) 0:=by
 refine ⟨⟨fun b hb=>⟨by simp [xq,hb],rfl⟩⟩,fun j i hj=>?_,fun j hj=>by simp [xq,hj]⟩;have hx:=Vt (k:=0) hn hj;rw [Zf] at hx ⊢;exact ⟨fun q=>by simp [xq,hj],fun q b hb=>⟨by simp [xq,hb,hx],rfl⟩⟩
theorem Ay {w:World} {g:z8} {mv:List (Option Nat)}:Ext w g w (xq g mv):=by
 refine ⟨rfl,rfl,rfl,yN _,yN _,fun b _ ht=>⟨rfl,?_⟩⟩;rcases ht with ht | ht <;> simp [xq,ht]
theorem FD:(t:Ty)->(d:t.den)->(n:Nat)->(zj t d n).1.isAgg=t.sk.isAgg
 | .sl true t,l,n=>rfl
 | .sl false t,l,n=>rfl
 | .int _,_,_=>rfl
 | .bool,_,_=>rfl
 | .str,_,_=>rfl
 | .unit,_,_=>rfl
 | .arr _ _,_,_=>rfl
 | .ptr _,_,_=>rfl
 | .fn _ _,_,_=>rfl
 | .tree _,_,_=>rfl
 | .pair a b,(x,y),n=>by
  simp only [zj];cases (Ty.pair a b).zW <;> rfl
theorem Lp {w:World} {G:z8} {t:Ty} {d:t.den} {base:Nat} {cs:List Value} {v:Value} {agg:Bool} (h:Jt w G (zj t d base) base cs) (hv:v=vN agg cs) (ha:agg=t.sk.isAgg) (O:qp) :
  zr w G O (zj t d base).1 v:=
 yB (h.ok O) (by rw [FD,hv,ha]) (pn t d base).1 (pn t d base).2.1
section
variable {n:Nat} {w:World} {a:Act} {g:z8} {J:St} {r:R}
def Jp:List Ty->Bool
 | []=>true
 | t :: ts=>t.B9 && Jp ts
def Wf (tmps:Array Value):ResultVar->Sem Value
 | .tmp t=>pure (tmps.getD t undef)
 | .cell a t=>do loadVar t (<-asAddr (tmps.getD a undef))
theorem zc2 {x:z7} {v:Value} {f:z7->Option R} {r:R} (hh:yY w g J.z6) (ex:zr w g J.z6 x v) (h:Dw J x f=some r) :
  ∃ lv b off cc e fz,v = .pointer (some ⟨b,off,none⟩)/\w.heap[b]? = some (.cells cc e fz)/\off+lv.sk.size<=cc.size/\jK w g J.z6 lv (qS cc.toList off lv.sk.size)/\f lv=some r:=by
 unfold Dw at h;split at h
 ·rename_i t' d;simp only [zr] at ex;obtain ⟨cs,⟨qu,b,off,cc,e,fz,rfl,zM,zY,qC,zC⟩,hv⟩:=ex;exact ⟨.data t' d,b,off,cc,e,fz,hv,zY,by simpa [z7.sk,Ty.zQ] using qC,⟨by simpa [Ty.zW] using qu,by simpa [z7.sk,Ty.zQ] using zC⟩,h⟩
 ·rename_i id p ep;split at h
  ·simp at h
  ·rename_i s q;obtain ⟨t0,l0,El⟩:=xY h;simp only [zr] at ex;obtain ⟨cs,⟨v,rfl,qE,hv⟩,jd⟩:=ex;obtain ⟨hp,b0,yC,gV,pR⟩:=(hv _ _ _ El).2 rfl;obtain ⟨t1,l1,u1,e1,b,off,cc,ee,DZ,qu,hk,N4,kL,vJ,zM,zY,qC,zC⟩:=ui hh hp h;rw [El] at DZ;simp only [zI,Obj.row.injEq] at DZ;obtain ⟨rfl,_,_⟩:=DZ;rw [gV] at kL;simp only [zI,gP] at kL;obtain ⟨rfl,rfl⟩:=kL;exact ⟨.data u1 e1,b0,yC,cc,ee,(0,0),by rw [jd];exact pR,zY,by simpa [z7.sk,Ty.zQ] using qC,⟨N4,by simpa [z7.sk,Ty.zQ] using zC⟩,hk⟩
 ·rename_i id p;obtain ⟨xc,y,off,cc,e,zp,h2,jZ,zY,zM,hle,J7,hi⟩:=Zd hh h;simp only [zr] at ex;obtain ⟨cs,⟨v,rfl,qE,hv⟩,jd⟩:=ex;obtain ⟨YK,s,kq,pR⟩:=hv _ zp;rw [jZ] at kq;simp only [zI,gP] at kq;obtain ⟨rfl,_⟩:=kq;exact ⟨y,g.qj id,off,cc,e,(0,0),by rw [jd];exact pR,zY,hle,J7,h2⟩
 ·rename_i id p ep;obtain ⟨t1,l1,e1,i1,zp,IM,zC,hk⟩:=JO hh h;simp only [zr] at ex;obtain ⟨cs,⟨v,rfl,qE,hv⟩,jd⟩:=ex;obtain ⟨hp,b0,yC,gV,pR⟩:=((hv _ _ _ _ _ zp).2 IM).2 rfl
  cases p with
  | nil=>exact absurd rfl hp
  | cons s q=>
   obtain ⟨u1,x1,bh,oh,ch,eh,ph,hk,kL,vJ,_,zM,zY,qC,hr⟩:=x9 zC hk;rw [gV] at kL;simp only [zI,gP] at kL;obtain ⟨rfl,rfl⟩:=kL
   cases qu:u1.zW with
   | true=>
    rw [qu] at hk
    exact ⟨.data u1 x1,b0,yC,ch,eh,(0,0),by rw [jd];exact pR,zY,by simpa [z7.sk,Ty.zQ] using qC,⟨qu,by simpa [z7.sk,Ty.zQ] using zH.y9 (o':=none) qu hr⟩,hk⟩
   | false=>
    rw [qu] at hk;simp only [zU] at hk;split at hk
    ·rename_i v1;obtain ⟨ad,cp,uR,qf,_⟩:=hr;refine ⟨.nv false id (s :: q) ep,b0,yC,ch,eh,(0,0),by rw [jd];exact pR,zY,qC,⟨_,uR,rfl,fun t2 l2 e2 i2 h2 qc=>?_⟩,hk⟩;rw [zp] at qc;simp only [zI,Obj.nest.injEq] at qc;obtain ⟨rfl,_,rfl,rfl,_⟩:=qc;have Gn:i1=ep:=IM;exact ⟨Z4g Gn.symm,fun _=>⟨fun _=>qf.symm,fun h=>(by simp at h)⟩⟩
    ·simp at hk
 ·simp at h
theorem zja {P:Program} {tt:Nat->Option Ty} (kN:gn P tt) {s:ResultVar} {f:z7->Option R} {r:R} (zy:zG n g w a J) {t:Ty}
  (h:rvK tt J s (fun av=>cond (av.val && av.sk.same t.sk) (f av) none)=some r) :
  ∃ av v cs,f av=some r/\(Wf a.tmps s).run P w = .ok v w/\jK w g J.z6 av cs/\v=vN t.sk.isAgg cs:=by
 cases s with
 | tmp s=>
  simp only [rvK] at h;split at h
  ·rename_i av hs
   cases hb:(av.val && av.sk.same t.sk) with
   | false=>rw [hb] at h;simp at h
   | true=>
    rw [hb] at h;simp only [zB] at h;simp only [zA] at hb;obtain ⟨v,hv,zS⟩:=zy.zk s av hs;obtain ⟨ve,_,_,TU⟩:=wK hb.1;obtain ⟨cs,uR,Qf⟩:=kX zS TU;have hvg:a.tmps.getD s undef=v:=by rw [Z2p,hv];rfl
    exact ⟨av,v,cs,h,by simp [Wf,hvg],uR,by rw [Qf,ve,Sk.qg hb.2]⟩
  ·simp at h
 | cell s T=>
  simp only [rvK] at h;split at h
  ·rename_i x u hs hu;have hT:=kN _ _ hu;obtain ⟨v,hv,zS⟩:=zy.zk s x hs;obtain ⟨lv,b,off,cc,e,fz,hvp,zY,hle,Ku,h⟩:=zc2 zy.heap zS h
   cases hc:u.sk.same lv.sk with
   | false=>rw [hc] at h;simp at h
   | true=>
    rw [hc] at h;simp only [zB] at h
    cases hb:(lv.val && lv.sk.same t.sk) with
    | false=>rw [hb] at h;simp at h
    | true=>
     rw [hb] at h;simp only [zB] at h;simp only [zA] at hb;have wG:=Sk.qg hc;have q0k:=Sk.qg hb.2;have qC:u.size=lv.sk.size:=by rw [<-wG,Ty.zQ]
     have zc:=Px (P:=P) (w:=w) hT zY (by rw [qC];exact hle);have hvg:a.tmps.getD s undef=v:=by rw [Z2p,hv];rfl
     refine ⟨lv,vN u.sk.isAgg (qS cc.toList off u.size),_,h,?_,Ku,?_⟩
     ·simp only [Wf,hvg,hvp,asAddr,Sem.run_bind,Sem.run_pure,Result.andThen_ok];exact zc
     ·rw [qC,wG,q0k]
  ·simp at h
theorem EV {P:Program} {tt:Nat->Option Ty} (kN:gn P tt) {t:Ty} {s:ResultVar} {k:t.den->St->Option R} (zy:zG n g w a J) (ht:t.B9=true) (h:rvK tt J s (fun a=>cond (a.val && a.sk.same t.sk) (j6 20 a t J k) none)=some r) :
  ∃ d J' g' mv v,k d J'=some r/\(Wf a.tmps s).run P w = .ok v w/\zG n g' w a J'/\U7 g J.z6 g' J'.z6 mv/\(∀ m,(zj t d m).2.length=mv.length)/\
   ∀ G base,Laid w g' mv G base->(∀ O,zr w G O (zj t d base).1 v)/\∀ O j o,zF (zj t d base).2 j=some o->zo w G O (base+j) o:=by
 obtain ⟨av,v,cs,h,zc,uR,Qf⟩:=zja kN zy h;obtain ⟨d,J',g',mv,hk,h1,h2,h3,hl,he,_⟩:=KJ 20 zy.heap uR ht h;have qT:zG n g' w a J':=by
  refine ⟨fun i x hi=>?_,h3.heap zy.heap,zy.size,zy.defers,zy.known.kept (h3.ro w)⟩;rw [h1] at hi;obtain ⟨u,hu,hx⟩:=zy.zk i x hi;exact ⟨u,hu,zr.frame (h3.ro w) (fun id _=>h3.kept (w:=w) id) hx⟩
 refine ⟨d,J',g',mv,v,hk,zc,qT,h3,hl,fun G base hL=>?_⟩;have hE:=he G base hL;exact ⟨fun O=>Lp hE Qf rfl O,hE.z6⟩
theorem Hh {tt:Nat->Option Ty} {t:Ty} {rs:List ResultVar} {k:jw [t]->St->Option R} {r:R} (h:Wn tt J [t] rs k=some r) :
  ∃ s,rs=[s]/\rvK tt J s (fun a=>cond (a.val && a.sk.same t.sk) (j6 20 a t J k) none)=some r:=by
 match rs,h with
 | [s],h=>exact ⟨s,rfl,h⟩
 | [],h=>simp [Wn] at h
 | _ :: _ :: _,h=>simp [Wn] at h
theorem T2 {tt:Nat->Option Ty} {t u:Ty} {ts:List Ty} {rs:List ResultVar} {k:jw (t :: u :: ts)->St->Option R} {r:R} (h:Wn tt J (t :: u :: ts) rs k=some r) :
  ∃ s l,rs=s :: l/\rvK tt J s (fun a=>cond (a.val && a.sk.same t.sk) (j6 20 a t J fun d J=>Wn tt J (u :: ts) l fun ds J=>k (d,ds) J) none)=some r:=by
 match rs,h with
 | s :: l,h=>exact ⟨s,l,rfl,h⟩
 | [],h=>simp [Wn] at h
def Reads (P:Program) (tmps:Array Value) (w:World):List ResultVar->List Value->Prop
 | [],[]=>True
 | s :: l,v :: vs=>(Wf tmps s).run P w = .ok v w/\Reads P tmps w l vs
 | _,_=>False
theorem Og {P:Program} {tt:Nat->Option Ty} (kN:gn P tt):(ts:List Ty)->(rs:List ResultVar)->{g:z8}->{J:St}->{k:jw ts->St->Option R}->{r:R}->ts≠[]->zG n g w a J->Jp ts=true->Wn tt J ts rs k=some r->
  ∃ (d:jw ts) (J':St) (g':z8) (mv:List (Option Nat)) (vs:List Value),k d J'=some r/\Reads P a.tmps w rs vs/\vs.length=ts.length/\zG n g' w a J'/\U7 g J.z6 g' J'.z6 mv/\(∀ m,(zZ.chain ts d m).2.length=mv.length)/\
   (∀ G base,Laid w g' mv G base->(∀ O,qk w G O (zZ.chain ts d base).1 vs)/\∀ O j o,zF (zZ.chain ts d base).2 j=some o->zo w G O (base+j) o)
 | [],_,_,_,_,_,je,_,_,_=>absurd rfl je
 | [t],rs,g,J,k,r,_,zy,ht,h=>by
  simp only [Jp,Z2f] at ht;obtain ⟨s,rfl,h⟩:=Hh h;obtain ⟨d,J',g',mv,v,hk,zc,qT,AV,hl,he⟩:=EV kN zy ht h;refine ⟨d,J',g',mv,[v],hk,⟨zc,trivial⟩,rfl,qT,AV,fun m=>by simp only [zZ.chain];exact hl m,fun G base hL=>?_⟩;obtain ⟨h1,h2⟩:=he G base hL;simp only [zZ.chain];refine ⟨fun O=>?_,h2⟩;simp only [qk]
  exact ⟨_,_,rfl,h1 O,rfl⟩
 | t :: u :: ts,rs,g,J,k,r,_,zy,ht,h=>by
  simp only [Jp,zA] at ht;obtain ⟨s,l,rfl,h⟩:=T2 h;obtain ⟨d,J1,g1,mv1,v,hk,zc,yP,zqx,DY,he1⟩:=EV kN zy ht.1 h;obtain ⟨ds,J2,g2,mv2,vs,PX,hss,hlen,wO,zqw,UW,he2⟩:=Og kN (u :: ts) l (by simp) yP (by simp only [Jp,zA];exact ht.2) hk;refine ⟨(d,ds),J2,g2,mv1++mv2,v :: vs,PX,⟨zc,hss⟩,by simp [hlen],wO,zqx.trans zqw,fun m=>?_,fun G base hL=>?_⟩
  ·simp only [zZ.chain,VH,DY,UW]
  ·obtain ⟨h1,h2⟩:=he1 G base (hL.left zqw (fun i hi=>(zqx.mv i hi).2));obtain ⟨h3,h4⟩:=he2 G (base+mv1.length) hL.right;simp only [zZ.chain];rw [DY base];refine ⟨fun O=>?_,fun O j o hj=>?_⟩
   ·simp only [qk];exact ⟨_,_,rfl,h1 O,h3 O⟩
   ·rw [wm] at hj;split at hj
    ·exact h2 O j o hj
    ·rename_i Cv;rw [DY base] at hj Cv;have:=h4 O _ o hj;rw [show base+mv1.length+(j-mv1.length)=base+j from by omega] at this;exact this
theorem Hb {P:Program} {tmps:Array Value} {w:World}:(rs:List ResultVar)->(vs:List Value)->Reads P tmps w rs vs->(rs.mapM (Wf tmps)).run P w = .ok vs w
 | [],[],_=>by simp
 | s :: l,v :: vs,h=>by
  have ih:=Hb l vs h.2;rw [List.mapM_cons]
  simp only [Sem.run_bind,h.1,Result.andThen_ok,ih,Sem.run_pure]
 | [],_ :: _,h=>h.elim
 | _ :: _,[],h=>h.elim
def MK:List Value->Value
 | [v]=>v
 | vs=>.tuple vs.toArray
theorem xH {P:Program} {fn:Func} (tmps:Array Value) {w:World} {vs:List Value} (h:Reads P tmps w fn.results.toList vs):(results fn tmps).run P w = .ok (MK vs) w:=by
 have e:results fn tmps=(do let vs <-fn.results.mapM (Wf tmps);pure (if h:vs.size=1 then vs[0] else .tuple vs):Sem Value):=by
  unfold results;refine Fo (fun f=>(Array.mapM f fn.results >>= fun vs=>pure (if h:vs.size=1 then vs[0] else Value.tuple vs):Sem Value)) (funext fun x=>?_);cases x <;> rfl
 have h1:=Hb _ _ h;have h2:(fn.results.mapM (Wf tmps)).run P w = .ok vs.toArray w:=by
  rw [Array.mapM_eq_mapM_toList];rw [Sem.run_map,h1];rfl
 rw [e];simp only [Sem.run_bind,h2,Result.andThen_ok,Sem.run_pure]
 match vs with
 | []=>simp [MK]
 | [v]=>simp [MK]
 | _ :: _ :: _=>simp [MK]
theorem XB {O:List Obj} {mv:List (Option Nat)} {g':z8} (hh:∀ b,g'.tag b≠.zt->b < w.heap.size) (ho:∀ j o,zF O j=some o->zo w (xq g' mv) (zF O) (0+j) o):yY w (xq g' mv) (zF O):=by
 refine ⟨fun j o hj=>by have:=ho j o hj;rw [Zf] at this;exact this,fun b hb=>hh b (fun h=>hb (by simp [xq,h]))⟩
theorem z1t {P:Program} {tt:Nat->Option Ty} (kN:gn P tt) {fn:Func} {ts:List Ty} {r:jw ts} (zy:zG n g w a J) (ht:Jp ts=true) (h:Wn tt J ts fn.results.toList (fun r _=>some r)=some r) :
  ∃ v g',(results fn a.tmps).run P w = .ok v w/\Ext w g w g'/\Gp w g' (zZ ts r 0) v:=by
 match ts,r,ht,h with
 | [],r,_,h=>
  have hr:fn.results.toList=[]:=by
   generalize fn.results.toList=rs at h
   cases rs with
   | nil=>rfl
   | cons x l=>simp [Wn] at h
  refine ⟨.tuple #[],xq g [],xH a.tmps (vs:=[]) (by rw [hr];trivial),Ay,XB zy.heap.tags (fun j o hj=>by cases j <;> simp [zZ,zF] at hj),?_⟩;simp only [zZ,zr]
  exact ⟨[],rfl,by simp [qk]⟩
 | [t],r,ht,h=>
  simp only [Jp,Z2f] at ht;obtain ⟨s,hrs,h⟩:=Hh h;obtain ⟨d,J',g',mv,v,hk,zc,qT,AV,Cy,he⟩:=EV kN zy ht h;simp only [zI] at hk;subst hk;obtain ⟨h1,h2⟩:=he (xq g' mv) 0 (OH AV.nodup)
  exact ⟨v,xq g' mv,xH a.tmps (vs:=[v]) (by rw [hrs];exact ⟨zc,trivial⟩),AV.ext.trans Ay,XB qT.heap.tags (fun j o hj=>h2 _ j o hj),h1 _⟩
 | t :: u :: ts,r,ht,h=>
  obtain ⟨d,J',g',mv,vs,hk,hss,hlen,qT,AV,Cy,he⟩:=Og kN (t :: u :: ts) _ (by simp) zy ht h;simp only [zI] at hk;subst hk;obtain ⟨h1,h2⟩:=he (xq g' mv) 0 (OH AV.nodup);have zc:=xH a.tmps hss;refine ⟨.tuple vs.toArray,xq g' mv,?_,AV.ext.trans Ay,XB qT.heap.tags (fun j o hj=>?_),?_⟩
  ·match vs,hlen,zc with
   | _ :: _ :: _,_,zc=>exact zc
  ·exact h2 _ j o (by simpa [zZ,zZ.chain] using hj)
  ·simp only [zZ,zr];exact ⟨_,rfl,by have:=h1 (zF (zZ (t :: u :: ts) d 0).2);simpa [zZ,zZ.chain] using this⟩
end
theorem PN {w:World} {g:z8} {z6:qp}:(p:gx)->(d:p.den)->(i0:Nat)->{vals:List Value}->WG w g p d vals->∀ i av,j3 p d i0 i=some av->i0<=i/\∃ v,vals[i-i0]? = some v/\zr w g z6 av v
 | .pr (.val t) q,(x,y),i0,v :: vs,h,i,av,hi=>by
  obtain ⟨qu,⟨cs,hr,hv⟩,pT⟩:=h;simp only [j3,GJ] at hi
  cases hb:Nat.beq i i0 with
  | true=>
   rw [hb] at hi;simp only [zB,zI] at hi;subst hi;have:=zE hb;subst this
   exact ⟨yN _,v,by simp,cs,⟨qu,hr⟩,hv⟩
  | false=>
   rw [hb] at hi;obtain ⟨h1,u,h2,h3⟩:=PN q y (i0+1) pT i av hi;refine ⟨by omega,u,?_,h3⟩;have e:i-i0=(i-(i0+1))+1:=by omega
   rw [e];simpa using h2
 | .pr (.val t) q,(x,y),i0,[],h,i,av,hi=>h.elim
 | .un,_,_,_,_,_,_,hi=>by simp [j3] at hi
 | .val _,_,_,_,_,_,_,hi=>by simp [j3] at hi
 | .ref _,_,_,_,_,_,_,hi=>by simp [j3] at hi
 | .zq _,_,_,_,_,_,_,hi=>by simp [j3] at hi
 | .qd _ _,_,_,_,_,_,_,hi=>by simp [j3] at hi
 | .agg _,_,_,_,_,_,_,hi=>by simp [j3] at hi
 | .pr (.ref _) _,_,_,_,_,_,_,hi=>by simp [j3] at hi
 | .pr (.zq _) _,_,_,_,_,_,_,hi=>by simp [j3] at hi
 | .pr (.qd _ _) _,_,_,_,_,_,_,hi=>by simp [j3] at hi
 | .pr (.agg _) _,_,_,_,_,_,_,hi=>by simp [j3] at hi
 | .pr (.pr _ _) _,_,_,_,_,_,_,hi=>by simp [j3] at hi
 | .pr .un _,_,_,_,_,_,_,hi=>by simp [j3] at hi
def gx.len:gx->Nat
 | .pr _ q=>q.len+1
 | _=>0
theorem XA {w:World} {g:z8}:(p:gx)->(d:p.den)->{vals:List Value}->WG w g p d vals->vals.length=p.len
 | .pr (.val t) q,(x,y),v :: vs,h=>by simp [gx.len,XA q y h.2.2]
 | .pr (.val t) q,(x,y),[],h=>h.elim
 | .un,_,[],_=>rfl
 | .un,_,_ :: _,h=>h.elim
 | .val _,_,_,h=>h.elim
 | .ref _,_,_,h=>h.elim
 | .zq _,_,_,h=>h.elim
 | .qd _ _,_,_,h=>h.elim
 | .agg _,_,_,h=>h.elim
 | .pr (.ref _) _,_,_,h=>h.elim
 | .pr (.zq _) _,_,_,h=>h.elim
 | .pr (.qd _ _) _,_,_,h=>h.elim
 | .pr (.agg _) _,_,_,h=>h.elim
 | .pr (.pr _ _) _,_,_,h=>h.elim
 | .pr .un _,_,_,h=>h.elim
theorem Lx {w:World} {g:z8} {p:gx} {d:p.den} {vals:List Value} {n:Nat} (ht:∀ b,g.tag b≠.zt->g.tag b = .ro/\b < w.heap.size) (Mv:Known w g) (h:WG w g p d vals) (hn:p.len<=n) :
  zG n g w { tmps:=vals.toArray++Array.replicate (n-vals.toArray.size) undef,defers:=[] } (entry p d)/\qP g (entry p d):=by
 have hl:=XA p d h;refine ⟨⟨fun i av hi=>?_,⟨fun id o ho=>by simp [entry] at ho,fun b hb=>(ht b hb).2⟩,by simp [hl];omega,rfl,Mv⟩,fun m _=>⟨rfl,fun b p hb=>?_,fun b hb=>?_,fun i av hi=>?_,fun id av ho=>by simp [entry] at ho⟩⟩
 ·obtain ⟨_,v,h1,h2⟩:=PN (z6:=(entry p d).z6) p d 0 h i av hi;rw [Z4l] at h1;refine ⟨v,?_,h2⟩;have qx:=(Z47.1 h1).1;rw [Z3z (by simpa using qx)];simpa using h1
 ·have:=(ht b (by rw [hb];simp)).1;rw [hb] at this;simp at this
 ·have:=(ht b (by rw [hb];simp)).1;rw [hb] at this;simp at this
 ·have key:∀ (p:gx) (d:p.den) (i0:Nat) (i:Nat) (av:z7),j3 p d i0 i=some av->av.ids=[]:=by
   intro p
   induction p with
   | pr a q iha ihq=>
    cases a with
    | val t=>
     intro d i0 i av hi;obtain ⟨x,y⟩:=d;simp only [j3,GJ] at hi
     cases hb:Nat.beq i i0 with
     | true=>rw [hb] at hi;simp only [zB,zI] at hi;subst hi;rfl
     | false=>rw [hb] at hi;exact ihq y _ i av hi
    | _=>intro d i0 i av hi;simp [j3] at hi
   | _=>intro d i0 i av hi;simp [j3] at hi
  rw [key p d 0 i av hi];simp
theorem zsu {P : Program} {f : Nat} {fn : Func} {body : Code} {c : Ctx} {p : gx} {ts : List Ty} {F : p.den -> Option (jw ts)} (hf : P.funcs[f]? = some fn) (hb : fn.body = some body) (Zl : (fn.name == "runtime.NumGoroutine") = false)
  (hc:xG P c) (hm:P.follows .mixedOrders=true) (hn:c.ntmps=fn.ntmps) (hp:p.len<=fn.ntmps) (ht:Jp ts=true) (hl:ts.length<=6)
  (Kx:∀ b∈yA body,QA c b) (heq:∀ d,z7f c ts fn.results.toList body (entry p d)=F d):qB P f (.pure p ts F):=by
 intro w g d vals r zM Mv hargs hF;left;refine ⟨?_,?_⟩
 ·have N8 : ¬ fn.name = "runtime.NumGoroutine" := by simpa using Zl
  simp [callFunc,hf,hb,N8]
 rw [<-heq] at hF;obtain ⟨zy,vT⟩:=Lx zM Mv hargs hp;rw [<-hn] at zy;refine calls_of_wp hf hb ?_;rw [<-hn];refine kU hc hm body Kx (Q:=bodyPost P fn _) (fun ch a w h=>?_) hF zy vT ?_
 ·obtain ⟨_,v,h,_⟩:=h;cases h
 ·intro e J' g' a' w' hk qT pz KZ _;have fin:∀ {J':St},norm c.res J' (fun J=>Wn c.tt J ts fn.results.toList fun r _=>some r)=some r->zG c.ntmps g' w' a' J'->qP g' J'->
    ∃ v,(results fn a'.tmps).run P w' = .ok v w'/\∃ g',Ext w g w' g'/\Gp w' g' (zZ ts r 0) v:=by
   intro J' hk qT KZ;obtain ⟨J1,g1,h1,yP,yU,_⟩:=JM qT KZ hk;obtain ⟨v,g2,hr,wV,W4⟩:=z1t (P:=P) hc.tt yP ht h1;exact ⟨v,hr,g2,(pz.trans yU).trans wV,W4⟩
  cases e with
  | exit id=>simp at hk
  | normal=>
   obtain ⟨v,h1,h2⟩:=fin hk qT KZ
   exact ⟨qT.defers,v,h1,v,rfl,h2⟩
  | ret=>
   obtain ⟨v,h1,h2⟩:=fin hk qT KZ;exact ⟨qT.defers,v,h1,v,rfl,h2⟩
end Go.Kz
namespace Go.Kz
variable {R:Type}
def Dk:List (Nat×zX)->List Nat
 | []=>[]
 | (i,_) :: l=>i :: Dk l
theorem Q0:(l:List (Nat×zX))->(d:Zp l)->(vW l d).map Prod.fst=Dk l
 | [],_=>rfl
 | (i,p) :: l,d=>by simp only [vW,WY,Dk,Q0 l]
theorem Im {I:Type}:{l:List (Nat×I)}->{i:Nat}->{x:I}->(l.map Prod.fst).Nodup->(i,x)∈l->yO l i=some x
 | [],_,_,_,h=>by simp at h
 | (j,y) :: l,i,x,hn,h=>by
  simp only [WY,Z2u] at hn;simp only [yO];rcases pK.1 h with h | h
  ·simp only [gP] at h;rw [<-h.1,Nc,<-h.2];rfl
  ·have je:Nat.beq j i=false:=by
    cases hb:Nat.beq j i with
    | false=>rfl
    | true=>
     exfalso;apply hn.1;rw [zE hb];exact Gq.2 ⟨_,h,rfl⟩
   rw [je];exact Im hn.2 h
theorem P3 {I Z:Type} (f:I->Z):(n:Nat)->(l:List I)->(gK n l).map f=gK n (l.map f)
 | 0,_=>rfl
 | _+1,[]=>rfl
 | n+1,_ :: l=>by simp only [gK,WY,P3 f n l]
theorem DD {I:Type}:(n:Nat)->(l:List I)->∀ x∈gK n l,x∈l
 | 0,_,x,h=>h
 | _+1,[],x,h=>h
 | n+1,a :: l,x,h=>Th _ (DD n l x h)
theorem DE {I:Type}:(l m:List I)->gK l.length (l++m)=m
 | [],m=>rfl
 | a :: l,m=>DE l m
theorem LW {w:World} {g:z8} {O:qp} {tmps:Array Value}:(l:List (Nat×z7))->(∀ x∈l,zr w g O x.2 (tmps.getD x.1 undef))->
  qk w g O (jS (l.map Prod.snd)) (l.map fun x=>tmps.getD x.1 undef)
 | [],_=>by simp [jS,qk]
 | x :: l,h=>by
  simp only [WY,jS,qk];exact ⟨_,_,rfl,h x (by simp),LW l fun y hy=>h y (by simp [hy])⟩
theorem zjb {w:World} {g:z8} {O:qp} {tmps:Array Value} (l:List (Nat×z7)) (h:∀ x∈l,zr w g O x.2 (tmps.getD x.1 undef)) :
  zr w g O (gk (l.map Prod.snd)) (MK (l.map fun x=>tmps.getD x.1 undef)):=by
 have hc:=LW l h
 match l,h,hc with
 | [],_,hc=>simp only [Z28,gk,MK,zr];exact ⟨_,rfl,hc⟩
 | [x],h,_=>exact h x (by simp)
 | x :: y :: l,_,hc=>
  show zr w g O (.jV (jS ((x :: y :: l).map Prod.snd))) (.tuple ((x :: y :: l).map fun x=>tmps.getD x.1 undef).toArray);simp only [zr];exact ⟨_,rfl,hc⟩
theorem XH {P:Program} {tmps:Array Value} {w:World}:(rs:List Nat)->Reads P tmps w (rs.map ResultVar.tmp) (rs.map fun t=>tmps.getD t undef)
 | []=>trivial
 | t :: rs=>by
  simp only [WY];refine ⟨?_,XH rs⟩;simp [Wf]
def LD (n:Nat) (b:Code):List Nat->Bool
 | []=>true
 | i :: l=>Nat.blt i n && !wrote i b && LD n b l
theorem LC {n:Nat} {b:Code}:{l:List Nat}->LD n b l=true->∀ i∈l,i < n/\wrote i b=false
 | [],_,i,h=>by simp at h
 | j :: l,hb,i,h=>by
  simp only [LD,zA,PO] at hb;rcases pK.1 h with rfl | h
  ·exact ⟨zL hb.1.1,hb.1.2⟩
  ·exact LC hb.2 i h
theorem TF {P : Program} {f : Nat} {fn : Func} {body : Code} {c : Ctx} {fin zm : vp} {jC rs : List Nat} {F : fin.den -> Option zm.den} (hf : P.funcs[f]? = some fn) (hb : fn.body = some body) (Zl : (fn.name == "runtime.NumGoroutine") = false)
  (hc:xG P c) (hm:P.follows .mixedOrders=true) (hn:c.ntmps=fn.ntmps) (hp:fin.zk.length<=fn.ntmps) (hk:Dk zm.zk=jC++rs) (hnd:YA (jC++rs)=true) (hrs:fn.results.toList=rs.map ResultVar.tmp)
  (Qe:∀ i∈jC,i < fin.zk.length/\wrote i body=false)
  (Kx:∀ b∈yA body,QA c b) (heq:∀ d:fin.den,z7e c zm body (St.of (vW fin.zk d.1) (wQ fin.z6 d.2))=F d):qB P f (.mut fin jC zm F):=by
 intro w g d vals r Ux zy z5b hF;left;refine ⟨?_,?_⟩
 ·have N8 : ¬ fn.name = "runtime.NumGoroutine" := by simpa using Zl
  simp [callFunc,hf,hb,N8]
 rw [<-heq] at hF;refine calls_of_wp hf hb ?_;have Kk:zG c.ntmps g w { tmps:=vals.toArray++Array.replicate (fn.ntmps-vals.toArray.size) undef,defers:=[] } (St.of (vW fin.zk d.1) (wQ fin.z6 d.2)):=by
  refine ⟨fun i av hi=>?_,zy.heap,by simp;omega,rfl,zy.known⟩;obtain ⟨v,h1,h2⟩:=zy.zk i av hi;refine ⟨v,?_,h2⟩;have qx:i < vals.toArray.size:=(Z24.1 h1).1;rw [Z3z qx];exact h1
 have vT:qP g (St.of (vW fin.zk d.1) (wQ fin.z6 d.2)):=by
  intro m hm;refine z5b m ?_;have:(wQ fin.z6 d.2).length<=m:=hm
  rwa [Ws] at this
 refine kU hc hm body Kx (Q:=bodyPost P fn _) (fun ch a w h=>?_) hF Kk vT ?_
 ·obtain ⟨_,v,h,_⟩:=h;cases h
 ·intro e J' g' a' w' PX qT pz KZ hkp;have fin:∀ {J':St},PV c.res J' (fun sl os=>zm.take sl os some)=some r->zG c.ntmps g' w' a' J'->qP g' J'->
    ∃ v,(results fn a'.tmps).run P w' = .ok v w'/\∃ g',Ext w g w' g'/\yY w' g' (zF (wQ zm.z6 r.2))/\
    (∀ k i av,zF jC k=some i->zF ((vW zm.zk r.1).map Prod.snd) k=some av->∃ u,vals[i]? = some u/\zr w' g' (zF (wQ zm.z6 r.2)) av u)/\
    zr w' g' (zF (wQ zm.z6 r.2)) (gk (gK jC.length ((vW zm.zk r.1).map Prod.snd))) v:=by
   intro J' PX qT KZ;obtain ⟨sl,os,g1,h1,yP,yU,_⟩:=K3 qT KZ PX;obtain ⟨r1,h2,h3⟩:=Y0 zm.zk h1;obtain ⟨r2,h4,h5⟩:=xL zm.z6 h3;simp only [zI] at h5;subst h5;subst h2;subst h4;have Mv:((vW zm.zk r1).map Prod.fst).Nodup:=by rw [Q0,hk];exact GM hnd
   have hv:∀ x∈vW zm.zk r1,∃ v,a'.tmps[x.1]? = some v/\zr w' g1 (zF (wQ zm.z6 r2)) x.2 v:=fun x hx=>yP.zk x.1 x.2 (Im Mv hx)
   have hvd:∀ x∈vW zm.zk r1,zr w' g1 (zF (wQ zm.z6 r2)) x.2 (a'.tmps.getD x.1 undef):=by
    intro x hx;obtain ⟨v,q1,q2⟩:=hv x hx;have:a'.tmps.getD x.1 undef=v:=by rw [Z2p,q1];rfl
    rw [this];exact q2
   have zse:(gK jC.length (vW zm.zk r1)).map Prod.fst=rs:=by
    rw [P3,Q0,hk,DE]
   refine ⟨MK (rs.map fun t=>a'.tmps.getD t undef),xH a'.tmps (by rw [hrs];exact XH rs),g1,pz.trans yU,yP.heap,fun k i av Mw hkv=>?_,?_⟩
   ·have z56:(vW zm.zk r1)[k]? = some (i,av):=by
     rw [uO,Z3e,wU] at hkv;obtain ⟨x,hx,rfl⟩:=hkv;have h6:((vW zm.zk r1).map Prod.fst)[k]? = some x.1:=by rw [Z3e,hx];rfl
     have qx:k < jC.length:=wF Mw;rw [Q0,hk,Z3w qx,<-uO,Mw] at h6;simp only [zI] at h6;rw [hx,h6]
    obtain ⟨v,q1,q2⟩:=hv _ (Z40 z56);obtain ⟨qx,UY⟩:=Qe i (jH Mw);refine ⟨v,?_,q2⟩;have h7:=hkp i UY;rw [q1] at h7;have q18:i < vals.toArray.size:=by simp [Ux];exact qx
    rw [Z3z q18] at h7;simpa using h7.symm
   ·rw [<-P3];have:=zjb (gK jC.length (vW zm.zk r1)) (fun x hx=>hvd x (DD _ _ x hx));have e:(gK jC.length (vW zm.zk r1)).map (fun x=>a'.tmps.getD x.1 undef)=rs.map fun t=>a'.tmps.getD t undef:=by
     rw [<-zse,Z4d];rfl
    rw [e] at this;exact this
  cases e with
  | exit id=>simp at PX
  | normal=>
   obtain ⟨v,h1,h2⟩:=fin PX qT KZ
   exact ⟨qT.defers,v,h1,v,rfl,h2⟩
  | ret=>
   obtain ⟨v,h1,h2⟩:=fin PX qT KZ;exact ⟨qT.defers,v,h1,v,rfl,h2⟩
end Go.Kz
namespace Go.Kz
variable {R:Type}
def iter {I:Type} (Body:(I->Option R)->I->Option R):Nat->I->Option R
 | 0,_=>none
 | n+1,x=>Body (iter Body n) x
def OL (c:Ctx) (r:Nat) (lv:Cut) (kb:List (Nat×z7)->List Obj->Option R) (k:vQ->St->Option R):vQ->St->Option R
 | .normal,J=>PV lv J kb
 | e,J=>YN c r k e J
theorem OA {c:Ctx} {b:Code} {r:Nat} {lv:Cut} {I:Type} {st:I->List (Nat×z7)×List Obj} {k:vQ->St->Option R} {Body:(I->Option R)->I->Option R}
  (zgh:∀ (kb:List (Nat×z7)->List Obj->Option R) (x:I),jm c b (St.of (st x).1 (st x).2) (OL c r lv kb k)=Body (fun y=>kb (st y).1 (st y).2) x) :
  ∀ (n:Nat) (x:I),YE (jm c b) lv n (st x).1 (st x).2 (YN c r k)=iter Body n x
 | 0,x=>rfl
 | n+1,x=>by
  have e:(fun e J=>match e with
    | .normal=>PV lv J fun sl os=>YE (jm c b) lv n sl os (YN c r k)
    | e=>YN c r k e J)=OL c r lv (fun sl os=>YE (jm c b) lv n sl os (YN c r k)) k:=by
   funext e J;cases e <;> rfl
  have h:=zgh (fun sl os=>YE (jm c b) lv n sl os (YN c r k)) x;simp only [YE,iter];refine (Fo (jm c b (St.of (st x).1 (st x).2)) e).trans (h.trans ?_);congr 1;funext y;exact OA zgh n y
theorem zc0 {c:Ctx} {b:Code} {r:Nat} {lv:Cut} {f:vp} (F:(R:Type)->f.den->(vQ->St->Option R)->Option R) (hr:yH b=some r) (hlv:c.cut r=some lv)
  (hL:c.lp r=some fun R sl os k=>f.take sl os fun d=>F R d k)
  (h:∀ (R:Type) (k:vQ->St->Option R) (d:f.den),YE (jm c b) lv c.fuel (vW f.zk d.1) (wQ f.z6 d.2) (YN c r k)=F R d k):QA c b:=by
 intro r' lv' L UZ zl4 hL' R sl os k x hx;rw [hr] at UZ;simp only [zI] at UZ;subst UZ;rw [hlv] at zl4;simp only [zI] at zl4;subst zl4;rw [hL] at hL';simp only [zI] at hL';subst hL';replace hx:=Y0 f.zk hx;obtain ⟨d,rfl,hx⟩:=hx;replace hx:=xL f.z6 hx;obtain ⟨e,rfl,hx⟩:=hx;rw [h R k (d,e)];exact hx
theorem zet {P:Program}:Bb P fun f=>((yO ([]:List (Nat×List Callee)) f).getD []):=by
 intro f c h;simp [yO] at h
def zjw (P:Program) (kt:Ty) (K:TypeId):Bool:=HY P kt K && (j7 kt || zes P [K])
theorem zc6 {P:Program} {kt:Ty} {K:TypeId} (h:zjw P kt K=true):z8c P kt K:=by
 simp only [zjw,zA,Df] at h;refine ⟨tyB_ok h.1,fun hk=>?_⟩;rcases h.2 with h2 | h2
 ·rw [hk] at h2;simp at h2
 ·obtain ⟨h3,_,h4⟩:=FH h2 K (by simp [yE]);exact ⟨h3,h4⟩
def mtB (P:Program):List (Nat×Ty×Ty)->Bool
 | []=>true
 | (T,kt,vt) :: l=>(match P.underlying T with
  | some (.map K E)=>zjw P kt K && HY P vt E && (match P.info? E with
   | some i=>(match i.zero with
    | some z=>(match vt.sk.isAgg,z with
     | true,.agg _=>true
     | false,.int _ _=>true
     | false,.bool _=>true
     | false,.string _=>true
     | _,_=>false)
    | none=>false)
   | none=>false)
  | _=>false) && mtB P l
theorem z3b {P:Program}:{l:List (Nat×Ty×Ty)}->mtB P l=true->Nr P (yO l)
 | [],_,_,_,_,h=>by simp [yO] at h
 | (T,kt,vt) :: l,hb,T',Aj,X9,h=>by
  simp only [mtB,zA] at hb;simp only [yO] at h
  cases he:Nat.beq T T' with
  | false=>rw [he] at h;exact z3b hb.2 T' Aj X9 h
  | true=>
   rw [he] at h;simp only [zB,zI,gP] at h;obtain ⟨rfl,rfl⟩:=h;obtain rfl:=zE he;have h1:=hb.1;split at h1
   ·rename_i K E hu;simp only [zA] at h1;refine ⟨K,E,hu,zc6 h1.1.1,tyB_ok h1.1.2,?_⟩;have h2:=h1.2;split at h2
    ·rename_i i hi;split at h2
     ·rename_i z hz;refine ⟨i,z,hi,hz,?_⟩;split at h2
      ·rename_i ve;rw [ve];simp [vN,Value.cells]
      ·rename_i ve;rw [ve];simp [vN,Value.cells]
      ·rename_i ve;rw [ve];simp [vN,Value.cells]
      ·rename_i ve;rw [ve];simp [vN,Value.cells]
      ·simp at h2
     ·simp at h2
    ·simp at h2
   ·simp at h1
@[reducible] def wi8 (n:Int):Int:=IntKind.i8.wrap n
@[reducible] def wi16 (n:Int):Int:=IntKind.i16.wrap n
@[reducible] def wi32 (n:Int):Int:=IntKind.i32.wrap n
@[reducible] def zz (n:Int):Int:=IntKind.i64.wrap n
@[reducible] def wu8 (n:Int):Int:=IntKind.u8.wrap n
@[reducible] def wu16 (n:Int):Int:=IntKind.u16.wrap n
@[reducible] def wu32 (n:Int):Int:=IntKind.u32.wrap n
@[reducible] def V0 (n:Int):Int:=IntKind.u64.wrap n
@[reducible] def len {I:Type} (l:List I):Int:=(l.length:Int)
inductive M1 (p:Code->Prop):List Code->Prop
 | nil:M1 p []
 | cons {b:Code} {l:List Code} (h:p b) (t:M1 p l):M1 p (b :: l)
theorem M1.mem {p:Code->Prop} {l:List Code} (h:M1 p l):∀ b∈l,p b:=by
 induction h with
 | nil=>intro b hb;simp at hb
 | cons h t ih=>
  intro b hb;rcases pK.1 hb with rfl | hb
  ·exact h
  ·exact ih b hb
structure LF (f:vp) where
 I:Type
 var:f.den->I
 put:f.den->I->f.den
 go:(R:Type)->f.den->(vQ->St->Option R)->(I->Option R)->I->Option R
def LF.fn {f:vp} (l:LF f) (N:Nat):BS:=fun R sl os k=>f.take sl os fun d=>iter (l.go R d k) N (l.var d)
def LF.st {f:vp} (l:LF f) (d:f.den) (x:l.I):List (Nat×z7)×List Obj:=(vW f.zk (l.put d x).1,wQ f.z6 (l.put d x).2)
def Rf (c:Ctx) (r:Nat):Cut:=(c.cut r).getD ⟨[],[]⟩
structure KE (P:Program) where
 f:Nat
 c:Callee
 ok:qB P f c
def kE {P:Program} {f:Nat} {c:Callee} (h:qB P f c):KE P:=⟨f,c,h⟩
def TM {P:Program}:List (KE P)->Nat->List Callee
 | [],_=>[]
 | e :: l,f=>cond (Nat.beq e.f f) (e.c :: TM l f) (TM l f)
theorem FI {P:Program}:∀ l:List (KE P),Bb P (TM l)
 | [],f,c,h=>by simp [TM] at h
 | e :: l,f,c,h=>by
  simp only [TM] at h
  cases hb:Nat.beq e.f f with
  | true=>
   rw [hb] at h;rcases pK.1 h with rfl | h
   ·have:=zE hb;subst this;exact e.ok
   ·exact FI l f c h
  | false=>rw [hb] at h;exact FI l f c h
def zh4:List (Nat×BS)->Nat->Option BS
 | [],_=>none
 | (i,v) :: l,j=>cond (Nat.beq i j) (some v) (zh4 l j)
def KX (P:Program):Type 1:={ c:Ctx // xG P c }
def I7:List Code->List Nat->Bool
 | [],[]=>true
 | b :: l,r :: rs=>(match yH b with
  | some r'=>Nat.beq r r'
  | none=>false) && !yE r rs && I7 l rs
 | _,_=>false
theorem Gb:∀ {l:List Code} {rs:List Nat},I7 l rs=true->∀ b∈l,∃ r∈rs,b=xz r l
 | [],_,_,b,hb=>by simp at hb
 | c :: l,[],h,_,_=>by simp [I7] at h
 | c :: l,r :: rs,h,b,hb=>by
  simp only [I7,zA] at h;obtain ⟨⟨h1,h2⟩,h3⟩:=h;split at h1
  ·rename_i r' hr;obtain rfl:=zE h1;rcases pK.1 hb with rfl | hb
   ·exact ⟨r,Z20 ..,by simp [xz,hr]⟩
   ·obtain ⟨q,hq,e⟩:=Gb h3 b hb;refine ⟨q,Th _ hq,?_⟩;have:Nat.beq q r=false:=by
     cases hqr:Nat.beq q r with
     | false=>rfl
     | true=>
      obtain rfl:=zE hqr;have:=jB.2 hq;rw [this] at h2;simp at h2
    simp only [xz,hr,this,zU];exact e
  ·simp at h1
def bOf (fn:Func):Code:=fn.body.getD .skip
inductive Vv (c:Ctx) (fn:Func):List Nat->Prop
 | nil:Vv c fn []
 | cons {r:Nat} {l:List Nat} (h:QA c (xz r (yA (bOf fn)))) (t:Vv c fn l):Vv c fn (r :: l)
theorem Vv.lf {c:Ctx} {fn:Func} {rs:List Nat} {f:vp} (r:Nat) (l:LF f) (h0:(yH (xz r (yA (bOf fn))),c.cut r,c.lp r)=(some r,some (Rf c r),some (l.fn c.fuel))) (hp:∀ d,l.put d (l.var d)=d)
  (h:∀ (R:Type) (k:vQ->St->Option R) (d:f.den) (kb:List (Nat×z7)->List Obj->Option R) (x:l.I),
   jm c (xz r (yA (bOf fn))) (St.of (l.st d x).1 (l.st d x).2) (OL c r (Rf c r) kb k)=l.go R d k (fun y=>kb (l.st d y).1 (l.st d y).2) x) (t:Vv c fn rs):Vv c fn (r :: rs):=by
 refine .cons ?_ t;simp only [gP] at h0;refine zc0 (fun R d k=>iter (l.go R d k) c.fuel (l.var d)) h0.1 h0.2.1 h0.2.2 fun R k d=>?_
 have:=OA (st:=l.st d) (h R k d) c.fuel (l.var d);simp only [LF.st,hp] at this;exact this
theorem Vv.ok {c:Ctx} {fn:Func} {rs:List Nat} (h:Vv c fn rs):∀ r∈rs,QA c (xz r (yA (bOf fn))):=by
 induction h with
 | nil=>intro r hr;simp at hr
 | cons h t ih=>
  intro r hr;rcases pK.1 hr with rfl | hr
  ·exact h
  ·exact ih r hr
def fnB (P : Program) (fn : Func) (c : Ctx) (rs : List Nat) : Bool := P.follows .mixedOrders && !(fn.name == "runtime.NumGoroutine") && Nat.beq c.ntmps fn.ntmps && fn.body.isSome && I7 (yA (bOf fn)) rs
theorem It {fn:Func} (h:fn.body.isSome=true):fn.body=some (bOf fn):=by
 unfold bOf
 cases hb:fn.body with
 | none=>rw [hb] at h;simp at h
 | some b=>rfl
theorem z5r {P:Program} {f:Nat} {fn:Func} {p:gx} {ts:List Ty} {F:p.den->Option (jw ts)} (c:KX P) {rs:List Nat} (hf:P.funcs[f]? = some fn)
  (hB:(fnB P fn c.1 rs && Nat.ble p.len fn.ntmps && Jp ts && Nat.ble ts.length 6)=true) (Kx:Vv c.1 fn rs)
  (heq:∀ d,z7f c.1 ts fn.results.toList (bOf fn) (entry p d)=F d):qB P f (.pure p ts F):=by
 simp only [fnB,zA] at hB;obtain ⟨⟨⟨⟨⟨⟨⟨h1,h2⟩,h3⟩,h4⟩,h5⟩,h6⟩,h7⟩,h8⟩:=hB;exact zsu hf (It h4) (by simpa using h2) c.2 h1 (zE h3) (zL h6) h7 (zL h8)
  (fun b hb=>by
   obtain ⟨r,hr,e⟩:=Gb h5 b hb;rw [e];exact Kx.ok r hr) heq
def Pk:List ResultVar->List Nat->Bool
 | [],[]=>true
 | .tmp i :: l,j :: m=>Nat.beq i j && Pk l m
 | _,_=>false
theorem HV:∀ {l:List ResultVar} {m:List Nat},Pk l m=true->l=m.map ResultVar.tmp
 | [],[],_=>rfl
 | .tmp i :: l,j :: m,h=>by
  simp only [Pk,zA] at h
  rw [zE h.1,HV h.2];rfl
 | [],_ :: _,h=>by simp [Pk] at h
 | .cell _ _ :: _,_,h=>by simp [Pk] at h
 | .tmp _ :: _,[],h=>by simp [Pk] at h
def Q5:List ResultVar->List Nat
 | .tmp i :: l=>i :: Q5 l
 | _=>[]
def Xs:List Nat->List Nat->Bool
 | [],[]=>true
 | a :: l,b :: m=>Nat.beq a b && Xs l m
 | _,_=>false
theorem Ij:∀ {l m:List Nat},Xs l m=true->l=m
 | [],[],_=>rfl
 | a :: l,b :: m,h=>by
  simp only [Xs,zA] at h
  rw [zE h.1,Ij h.2]
 | [],_ :: _,h=>by simp [Xs] at h
 | _ :: _,[],h=>by simp [Xs] at h
theorem TD {P:Program} {f:Nat} {fn:Func} {fin zm:vp} {jC:List Nat} {F:fin.den->Option zm.den} (c:KX P) {rs:List Nat} (hf:P.funcs[f]? = some fn)
  (hB:(fnB P fn c.1 rs && Nat.ble fin.zk.length fn.ntmps && Xs (Dk zm.zk) (jC++Q5 fn.results.toList) && YA (jC++Q5 fn.results.toList) && Pk fn.results.toList (Q5 fn.results.toList) && LD fin.zk.length (bOf fn) jC)=true) (Kx:Vv c.1 fn rs)
  (heq:∀ d:fin.den,z7e c.1 zm (bOf fn) (St.of (vW fin.zk d.1) (wQ fin.z6 d.2))=F d):qB P f (.mut fin jC zm F):=by
 simp only [fnB,zA] at hB;obtain ⟨⟨⟨⟨⟨⟨⟨⟨⟨h1,h2⟩,h3⟩,h4⟩,h5⟩,h6⟩,h7⟩,h8⟩,h9⟩,hA⟩:=hB;exact TF hf (It h4) (by simpa using h2) c.2 h1 (zE h3) (zL h6) (Ij h7) h8 (HV h9) (LC hA)
  (fun b hb=>by
   obtain ⟨r,hr,e⟩:=Gb h5 b hb;rw [e];exact Kx.ok r hr) heq
theorem qX {P:Program} {f:Nat} {T:Type} {C:T->Callee} {z:T} {s:T->T} (h0:qB P f (C z)) (hs:∀ r,qB P f (C r)->qB P f (C (s r))):∀ M:Nat,qB P f (C (Nat.rec (motive:=fun _=>T) z (fun _ r=>s r) M))
 | 0=>h0
 | M+1=>hs _ (qX h0 hs M)
end Go.Kz
namespace Go.Kz
def wholeG (w:World):z8:=⟨fun b=>if b < w.heap.size then .ro else .zt,fun _ _=>undef,fun _=>0⟩
theorem VM {w:World} {b:Nat} (h:b < w.heap.size):(wholeG w).tag b = .ro:=by simp [wholeG,h]
theorem Jg {I:Type} {p:Nat->I->Prop}:(n:Nat)->(∀ i,i < n->∃ x,p i x)->∃ l:List I,l.length=n/\∀ (i:Nat) (h:i < l.length),p i (l.get ⟨i,h⟩)
 | 0,_=>⟨[],rfl,fun i h=>by simp at h⟩
 | n+1,h=>by
  obtain ⟨x,hx⟩:=h 0 (by omega);obtain ⟨l,hl,hp⟩:=Jg (p:=fun i=>p (i+1)) n (fun i hi=>h (i+1) (by omega));refine ⟨x :: l,by simp [hl],fun i hi=>?_⟩
  cases i with
  | zero=>exact hx
  | succ i=>exact hp i (by simpa using hi)
theorem yF.cellsOf {P:Program} {T:TypeId} {t:Ty} (h:yF P T t):P.cellsOf T=t.size/\0 < t.size:=by
 obtain ⟨i,z,h1,h2,_,_,_,h3⟩:=h.info;simp [Program.cellsOf,h1,h2];omega
section
variable {H:Type} {enc:TypeId×Value->H} {P:Program} {w:World} {base:Nat} {spare:Nat->Bool} {held:Bool}
theorem PH {b off n:Nat} {cs:List Value} {c:Array Value} {e:TypeId} {fz:Nat×Nat} (hl:cs.length=n) (hc:∀ j,j < n->w.cell? ⟨b,off+j,none⟩=cs[j]?) (hb:w.heap[b]? = some (.cells c e fz)) (hn:0 < n) :
  off+n<=c.size/\qS c.toList off n=cs:=by
 have zY:∀ j,j < n->c[off+j]? = cs[j]? := fun j hj=>by
  have:=hc j hj;simpa [World.cell?,hb] using this
 have hle:off+n<=c.size:=by
  have h1:=zY (n-1) (by omega);have h2:cs[n-1]?≠none:=by simp;omega
  rw [<-h1] at h2;simp at h2;omega
 refine ⟨hle,?_⟩;apply Z3v;intro j;by_cases hj:j < n
 ·rw [<-zY j hj];simp [qS,Z2y,hj]
 ·rw [Z2g (by rw [yW (by simpa using hle)];omega),Z2g (by rw [hl];omega)]
def Nh (enc:TypeId×Value->H) (P:Program) (w:World) (base:Nat) (spare:Nat->Bool) (held:Bool) (m:Nat):Prop:=∀ (k:Nat) (T:TypeId) (cs:List Value) (x:DataW H×List MemPlace),
 qw P (.tree k) T->DataW.trod enc P w base spare held m T cs=some x->∃ d,zH w (wholeG w) none (.tree k) d cs
mutual
theorem Wt {N:Nat} (hF:∀ m,m<=N->Nh enc P w base spare held m):(t:Ty)->{T:TypeId}->{fuel:Nat}->{cs:List Value}->{x:DataW H×List MemPlace}->fuel<=N->t.plain=true->qw P t T->DataW.trod enc P w base spare held fuel T cs=some x->∃ d,zH w (wholeG w) none t d cs
 | .int k,T,fuel,cs,x,hN,_,hT,h=>by
  simp only [qw] at hT;obtain ⟨m,rfl,_,hw⟩:=DataW.trod_int hT.1 h;simp only [Lit.wf,zA,yR] at hw
  exact ⟨m,rfl,hw.1,hw.2⟩
 | .bool,T,fuel,cs,x,hN,_,hT,h=>by
  simp only [qw] at hT;obtain ⟨b,rfl,_⟩:=DataW.trod_bool hT.1 h
  exact ⟨b,rfl⟩
 | .str,T,fuel,cs,x,hN,_,hT,h=>by
  simp only [qw] at hT;obtain ⟨s,rfl,_,hs⟩:=DataW.trod_string hT.1 h
  exact ⟨s.data.toList,s,rfl,rfl,hs⟩
 | .unit,T,fuel,cs,x,hN,_,hT,h=>by simp only [qw] at hT
 | .pair a b,T,fuel,cs,x,hN,hp,hT,h=>by
  simp only [qw] at hT;obtain ⟨⟨fs,hu,Eo⟩,vg⟩:=hT;obtain ⟨xs,n,hfu,_,hl,hlen,hf⟩:=DataW.trod_struct hu h;obtain ⟨hcz,_⟩:=vg.cellsOf;rw [hcz] at hl;obtain ⟨d,hd⟩:=YW hF (.pair a b) (off:=0) (cs:=cs) (n:=n) (by omega) hp Eo (by rw [hl];simp) (fun i f hi=>by
   have wT:fs[i]? = some f:=by rw [<-Z2b];exact hi
   have:=hf i f wT;have qx:i < xs.length:=by rw [hlen];exact (Z24.1 wT).1
   exact ⟨xs[i],by rw [this];simp [qx]⟩)
  refine ⟨d,?_⟩;have:qS cs 0 (Ty.pair a b).size=cs:=by rw [<-hl];exact kr cs
  rw [this] at hd
  exact hd
 | .arr n t,T,fuel,cs,x,hN,hp,hT,h=>by
  simp only [qw] at hT;obtain ⟨⟨E,hu,hE⟩,vg⟩:=hT;obtain ⟨hcz,_⟩:=vg.cellsOf;obtain ⟨hez,_⟩:=hE.info.cellsOf;obtain ⟨xs,m,hfu,_,hl,hlen,hx⟩:=DataW.trod_array hu h;rw [hcz] at hl;rw [hez] at hx;have each:∀ i,i < n->∃ d,zH w (wholeG w) none t d (qS cs (i*t.size) t.size):=fun i hi=>by
   have h1:=hx i hi;have h2:xs[i]? = some xs[i]:=by simp [hlen,hi]
   rw [h2] at h1;exact Wt hF t (by omega) (by simpa [Ty.plain] using hp) hE h1
  obtain ⟨l,hll,js⟩:=Jg n each
  exact ⟨l,hll,hl,fun i hi=>zH.y9 (Ty.ZY (by simpa [Ty.plain] using hp)) (js i hi)⟩
 | .sl false t,T,fuel,cs,x,hN,hp,hT,h=>by
  simp only [qw] at hT;obtain ⟨⟨E,hu,hE⟩,_⟩:=hT;obtain ⟨hez,IG⟩:=hE.info.cellsOf;rcases DataW.trod_slice hu h with ⟨rfl,_⟩ | ⟨a,len,cap,elems,rest,n,hfu,rfl,_,hb,Po,Pt,hlen,js,_⟩
  ·exact ⟨([]:List t.den),none,0,rfl,yN _,jt _,fun hn=>absurd rfl hn⟩
  ·rw [hez] at js;have each:∀ i,i < len->∃ d,(∃ DH,w.cells? base (a.add (i*t.size)) t.size=some DH/\zH w (wholeG w) none t d DH):=fun i hi=>by
    have h1:=js i hi;have h2:elems[i]? = some elems[i]:=by simp [hlen,hi]
    rw [h2,WB] at h1;obtain ⟨DH,hc,hy⟩:=h1;obtain ⟨d,hd⟩:=Wt hF t (by omega) (by simpa [Ty.plain] using hp) hE hy;exact ⟨d,DH,hc,hd⟩
   obtain ⟨l,hll,hl⟩:=Jg len each;refine ⟨l,some a,cap,by rw [hll],by rw [hll];exact Po,Pt,fun je=>?_⟩;have hlp:0 < len:=by rw [<-hll];exact Z4f.2 je
   obtain ⟨cs0,Mg,_⟩:=hl 0 (by rw [hll];exact hlp);obtain ⟨_,AP,zli⟩:=World.cells?_some Mg;have hz:=zli 0 IG;simp only [Z2d] at hz;have ha0:(a.add 0).add 0=a:=by simp [Addr.add]
   rw [ha0] at hz;have z4w:cs0[0]?≠none:=by
    rw [wP (by rw [AP];exact IG)];simp
   rw [<-hz] at z4w;obtain ⟨b,off,spot⟩:=a;have hsp:spot=none/\∃ c e fz,w.heap[b]? = some (.cells c e fz):=by
    simp only [World.cell?] at z4w;split at z4w
    ·rename_i c e fz hblk;refine ⟨?_,c,e,fz,hblk⟩
     cases spot with
     | none=>rfl
     | some s=>simp at z4w
    ·simp at z4w
   obtain ⟨rfl,c,e,fz,hblk⟩:=hsp;have qx:b < w.heap.size:=(Z24.1 hblk).1;have elt:∀ (i:Nat) (hi:i < l.length),off+i*t.size+t.size<=c.size/\zH w (wholeG w) none t (l.get ⟨i,hi⟩) (qS c.toList (off+i*t.size) t.size):=fun i hi=>by
    obtain ⟨DH,Cw,hr⟩:=hl i hi;obtain ⟨_,Nz,Es⟩:=World.cells?_some Cw;have q2g:(⟨b,off,none⟩:Addr).add (i*t.size)=⟨b,off+i*t.size,none⟩:=Addr.add_lit ..;rw [q2g] at Es;have h2:=PH (b:=b) (off:=off+i*t.size) (n:=t.size) Nz (fun j hj=>by
     have:=Es j hj;rw [Addr.add_lit] at this;exact this) hblk IG
    exact ⟨h2.1,by rw [h2.2];exact hr⟩
   refine ⟨b,off,c,e,fz,rfl,VM qx,hblk,?_,fun i hi=>(elt i hi).2⟩;have:=(elt (l.length-1) (by omega)).1;have hm:(l.length-1+1)*t.size=l.length*t.size:=by rw [Nat.sub_add_cancel (by omega)]
   rw [wB] at hm
   omega
 | .sl true _,_,_,_,_,_,hp,_,_=>by simp [Ty.plain] at hp
 | .ptr _,_,_,_,_,_,hp,_,_=>by simp [Ty.plain] at hp
 | .fn _ _,_,_,_,_,_,hp,_,_=>by simp [Ty.plain] at hp
 | .tree k,T,fuel,cs,x,hN,_,hT,h=>hF fuel hN k T cs x hT h
theorem YW {N:Nat} (hF:∀ m,m<=N->Nh enc P w base spare held m):(t:Ty)->{fs:List Field}->{off:Nat}->{cs:List Value}->{n:Nat}->n<=N->t.plain=true->jo P t fs off->off+t.size<=cs.length->
  (∀ (i:Nat) (f:Field),fs[i]? = some f->∃ x,DataW.trod enc P w base spare held n f.type ((cs.drop f.offset).take (P.cellsOf f.type))=some x)->∃ d,zH w (wholeG w) none t d (qS cs off t.size)
 | .pair a b,f :: fs,off,cs,n,hN,hp,Eo,hl,h=>by
  simp only [jo] at Eo;obtain ⟨ho,hta,htb⟩:=Eo;simp only [Ty.plain,zA] at hp;simp only [Ty.size] at hl;obtain ⟨y,hy⟩:=h 0 f rfl;rw [ho,(hta.info.cellsOf).1] at hy;obtain ⟨d1,hd1⟩:=Wt hF a hN hp.1 hta hy;obtain ⟨d2,hd2⟩:=YW hF b (off:=off+a.size) hN hp.2 htb (by omega) (fun i g hg=>h (i+1) g (by simpa using hg));refine ⟨(d1,d2),qS cs off a.size,qS cs (off+a.size) b.size,?_,hd1,hd2⟩;simp only [qS,Ty.size,List.take_add]
  rw [Nd]
 | .unit,[],off,cs,n,_,_,_,_,_=>⟨(),by simp [qS,Ty.size,zH]⟩
 | .unit,_ :: _,_,_,_,_,_,h,_,_=>by simp only [jo] at h
 | .pair _ _,[],_,_,_,_,_,h,_,_=>by simp only [jo] at h
 | .int _,_,_,_,_,_,_,h,_,_=>by simp only [jo] at h
 | .bool,_,_,_,_,_,_,h,_,_=>by simp only [jo] at h
 | .str,_,_,_,_,_,_,h,_,_=>by simp only [jo] at h
 | .arr _ _,_,_,_,_,_,_,h,_,_=>by simp only [jo] at h
 | .sl _ _,_,_,_,_,_,_,h,_,_=>by simp only [jo] at h
 | .ptr _,_,_,_,_,_,_,h,_,_=>by simp only [jo] at h
 | .fn _ _,_,_,_,_,_,_,h,_,_=>by simp only [jo] at h
 | .tree _,_,_,_,_,_,_,h,_,_=>by simp only [jo] at h
end
theorem E9 (z4n:RecOK P):(N:Nat)->∀ m,m<=N->Nh enc P w base spare held m
 | 0,m,hm=>fun k T cs x hT h=>by
  simp only [qw] at hT;obtain ⟨⟨_,_,fs,hu⟩,_⟩:=hT;obtain ⟨_,n,hfu,_⟩:=DataW.trod_struct hu h
  omega
 | N+1,m,hm=>fun k T cs x hT h=>by
  by_cases hmN:m<=N
  ·exact E9 z4n N m hmN k T cs x hT h
  simp only [qw] at hT;obtain ⟨⟨rfl,hon,_⟩,_⟩:=hT;have hp:=z4n k hon;simp only [qw] at hp;obtain ⟨⟨fs,hu,Eo⟩,vg⟩:=hp;obtain ⟨xs,n,hfu,_,hl,hlen,hf⟩:=DataW.trod_struct hu h;obtain ⟨hcz,_⟩:=vg.cellsOf;rw [hcz] at hl;obtain ⟨d,hd⟩:=YW (E9 z4n N) (.pair (uF k) (uE k)) (off:=0) (cs:=cs) (n:=n) (by omega) (Co k) Eo (by rw [hl];simp) (fun i f hi=>by
   have wT:fs[i]? = some f:=by rw [<-Z2b];exact hi
   have:=hf i f wT;have qx:i < xs.length:=by rw [hlen];exact (Z24.1 wT).1
   exact ⟨xs[i],by rw [this];simp [qx]⟩)
  have:qS cs 0 (Ty.pair (uF k) (uE k)).size=cs:=by rw [<-hl];exact kr cs
  rw [this] at hd;refine ⟨OQ k d,zH.WO.2 ?_⟩;rw [Cs];exact hd
theorem Tw {t:Ty} {T:TypeId} {v:Value} {r:Reach} (hp:t.plain=true) (hT:qw P t T) (h:Value.okWide P w r base T v):v=vN t.sk.isAgg v.cells.toList:=by
 cases t with
 | int k=>simp only [qw] at hT;obtain ⟨n,rfl⟩:=Go.WideShapes.okWide_int hT.1 h;rfl
 | bool=>simp only [qw] at hT;obtain ⟨n,rfl⟩:=Go.WideShapes.okWide_bool hT.1 h;rfl
 | str=>simp only [qw] at hT;obtain ⟨n,rfl⟩:=Go.WideShapes.okWide_string hT.1 h;rfl
 | unit=>simp only [qw] at hT
 | pair a b=>
  simp only [qw] at hT;obtain ⟨⟨fs,hu,_⟩,_⟩:=hT;obtain ⟨cs,rfl,_⟩:=Z5p hu h
  simp [vN,Ty.sk,Sk.isAgg,Value.cells]
 | arr n t=>
  simp only [qw] at hT;obtain ⟨⟨E,hu,_⟩,_⟩:=hT;simp only [Value.okWide,hu] at h;obtain ⟨cs,rfl,_⟩:=h
  simp [vN,Ty.sk,Sk.isAgg,Value.cells]
 | sl o t=>
  simp only [qw] at hT;obtain ⟨⟨E,hu,_⟩,_⟩:=hT;obtain ⟨a,l,c,rfl⟩:=Go.WideShapes.okWide_slice hu h
  rfl
 | ptr t=>simp [Ty.plain] at hp
 | fn f t=>simp [Ty.plain] at hp
 | tree k=>
  simp only [qw] at hT;obtain ⟨⟨_,_,fs,hu⟩,_⟩:=hT;obtain ⟨cs,rfl,_⟩:=Z5p hu h;simp [vN,Ty.sk,Sk.isAgg,Value.cells]
theorem arg_open {t:Ty} {T:TypeId} {v:Value} {r:Reach} {zta:Nat} {d:DataW H} {ps:List MemPlace} (hp:t.plain=true) (hT:qw P t T) (hv:Value.okWide P w r zta T v) (h:DataW.Trod enc P w base spare held T v d ps) (z4n:RecOK P:=by intro k h;simp [recOn] at h) :
  ∃ x,t.zW=true/\∃ cs,zH w (wholeG w) none t x cs/\v=vN t.sk.isAgg cs:=by
 obtain ⟨fuel,h⟩:=h;obtain ⟨x,hx⟩:=Wt (E9 z4n fuel) t (yN _) hp hT h;exact ⟨x,Ty.ZY hp,_,hx,Tw hp hT hv⟩
end
theorem law_walk {P : Program} {f : Nat} {fn : Func} {body : Code} {p : gx} {F : p.den -> Option Bool} {d : p.den} {vals : List Value} {w : World} (hf : P.funcs[f]? = some fn) (hb : fn.body = some body) (Zl : (fn.name == "runtime.NumGoroutine") = false)
  (hc:qB P f (.pure p [.bool] F)) (hF:F d=some true) (ha:WG w (wholeG w) p d vals) (Mv:Known w (wholeG w):=by intro b e he;simp [Go.Kz.tab] at he) :
  Calls P f vals.toArray w fun e w'=>e = .returned (.bool true)/\Go.RowKit.Below w.heap.size w w':=by
 have N8 : ¬ fn.name = "runtime.NumGoroutine" := by simpa using Zl
 have Ps:(callFunc f vals.toArray).run P w = .ok (.enter f vals.toArray) w:=by simp [callFunc,hf,hb,N8]
 rcases hc w (wholeG w) d vals true (fun b hb=>by
  simp only [wholeG] at hb ⊢;split at hb
  ·rename_i h;simp [h]
  ·simp at hb) Mv ha hF with ⟨_,h⟩ | ⟨v,w',h,_⟩
 ·refine Calls.mono h fun e w' he=>?_
  obtain ⟨v,rfl,g',ql,W4⟩:=he;have hv:=xW W4.2;refine ⟨by rw [hv],ql.os,ql.tape,ql.output,ql.size,fun k hk=>(ql.vR k hk (.inr (VM hk))).1⟩
 ·rw [Ps] at h;cases h
theorem known_int {w:World} {b n:Nat} {k:IntKind} {l:List Int} (hl:l.length=n) (hn:0 < n) (hr:∀ x∈l,k.min<=x/\x<=k.max) (h:∀ j,j < n->w.cell? ⟨b,j,none⟩=some (.int k (l.getD j 0))) :
  zH w (wholeG w) none (.ptr (.arr n (.int k))) l [.pointer (some ⟨b,0,none⟩)]:=by
 have h0:=h 0 hn;have:∃ c e fz,w.heap[b]? = some (.cells c e fz):=by
  simp only [World.cell?] at h0;split at h0
  ·rename_i c e fz hb;exact ⟨c,e,fz,hb⟩
  ·simp at h0
 obtain ⟨c,e,fz,hb⟩:=this;have qx:=(Z24.1 hb).1;have uR:∀ j,j < n->w.cell? ⟨b,0+j,none⟩=(l.map (Value.int k))[j]? := by
  intro j hj;rw [Zf,h j hj];have ZD:j < l.length:=by omega
  simp [ZD]
 obtain ⟨h1,h2⟩:=PH (by simp [hl]) uR hb hn;refine ⟨b,0,c,e,fz,rfl,VM qx,hb,by simp only [Ty.size];omega,hl,?_,fun i hi=>?_⟩
 ·have:=yW (l:=c.toList) (off:=0) (n:=n*1) (by simp;omega);simpa [Ty.size] using this
 ·have e1:(Ty.arr n (.int k)).size=n:=by simp [Ty.size]
  have e2:(Ty.int k).size=1:=rfl;rw [e1,h2,e2];refine ⟨?_,hr _ (List.get_mem _ _)⟩;have wT:i < l.length:=hi;simp only [qS,Z2j,LN];rw [<-List.map_drop,Z2q wT];rfl
end Go.Kz
namespace Go.Kz
theorem uh {I R:Type} {Body:(I->Option R)->I->Option R} {r:Option R} (Inv:I->Prop) (m:I->Nat)
  (h:∀ x w,Inv x->(∀ y,Inv y->m y < m x->w y=r)->Body w x=r):∀ (n:Nat) (x:I),Inv x->m x < n->iter Body n x=r
 | 0,_,_,hn=>by omega
 | n+1,x,hx,hn=>h x _ hx fun y hy hm=>uh Inv m h n y hy (by omega)
theorem ER {I:Type} (l:List I) (k:Nat):idx l (k:Int)=l[k]? := rfl
theorem Z2 {I:Type} {l:List I} {i:Int} (h0:0<=i) (h1:i < l.length):idx l i=some (l[i.toNat]'(by omega)):=by
 obtain ⟨k,rfl⟩:=Z4n h0;simp only [ER,LL];exact wP (by omega)
theorem zg {I:Type} {l:List I} {k:Nat} (h:k < l.length):idx l (k:Int)=some l[k]:=by simp [ER,h]
theorem pQ {I:Type} {l:List I} {k:Nat} (h:k < l.length):vU l (k:Int)=true:=by simp [vU,h]
theorem Y2 {I:Type} (l:List I) (k:Nat) (x:I):wZ l (k:Int) x=l.set k x:=rfl
theorem zf {R:Type} {b:Bool} {x:Option R} (h:b=true):qW b x=x:=by rw [h];rfl
theorem zw {n:Int} (h1 : -9223372036854775808<=n) (h2:n<=9223372036854775807):zz n=n:=by
 simp only [zz,IntKind.wrap,IntKind.min,IntKind.max,IntKind.bits,IntKind.signed];simp;omega
end Go.Kz
namespace Go.Kz
variable {J R:Type} {r:Option R}
theorem k8 {F:(Int×J->Option R)->Int×J->Option R} (Inv:Nat->J->Prop) (n:Nat)
  (step:∀ (k:Nat) (s:J) (w:Int×J->Option R),k < n->Inv k s->(∀ s',Inv (k+1) s'->w ((k:Int)+1,s')=r)->F w ((k:Int),s)=r)
  (last:∀ (s:J) (w:Int×J->Option R),Inv n s->F w ((n:Int),s)=r) (N:Nat) (hN:n < N) (s0:J) (h0:Inv 0 s0):iter F N (0,s0)=r:=by
 refine uh (fun x=>∃ k:Nat,x.1=(k:Int)/\k<=n/\Inv k x.2) (fun x=>n-x.1.toNat) ?_ N (0,s0) ⟨0,rfl,by omega,h0⟩ (by simpa using hN);rintro ⟨x,s⟩ w ⟨k,hx,hk,hi⟩ hw;simp only at hx hi;subst hx;by_cases qx:k < n
 ·exact step k s w qx hi fun s' Hy=>hw _ ⟨k+1,by simp,by omega,Hy⟩ (by simp;omega)
 ·have:k=n:=by omega
  subst this;exact last s w hi
theorem TV {F:(Int->Option R)->Int->Option R} (Inv:Nat->Prop) (n:Nat)
  (step:∀ (k:Nat) (w:Int->Option R),k < n->Inv k->(Inv (k+1)->w ((k:Int)+1)=r)->F w (k:Int)=r)
  (last:∀ (w:Int->Option R),Inv n->F w (n:Int)=r) (N:Nat) (hN:n < N) (h0:Inv 0):iter F N 0=r:=by
 refine uh (fun x=>∃ k:Nat,x=(k:Int)/\k<=n/\Inv k) (fun x=>n-x.toNat) ?_ N 0 ⟨0,rfl,by omega,h0⟩ (by simpa using hN);rintro x w ⟨k,hx,hk,hi⟩ hw;subst hx;by_cases qx:k < n
 ·exact step k w qx hi fun Hy=>hw _ ⟨k+1,by simp,by omega,Hy⟩ (by simp;omega)
 ·have:k=n:=by omega
  subst this;exact last w hi
theorem zt1 (n:Nat):decide ((n:Int) < (n:Int))=false:=by simp
theorem zK {I:Type} {l:List I} {k:Nat} (h:k < l.length):decide ((k:Int) < len l)=true:=by simp [len,h]
theorem zV {I:Type} (l:List I):decide (((l.length:Nat):Int) < len l)=false:=by simp [len]
theorem LV {n:Nat} {x:Option R} (h:n<=4294967296):qW (decide (n<=room)) x=x:=zf (jY h)
theorem take_succ {I:Type} {l:List I} {k:Nat} (h:k < l.length):l.take (k+1)=l.take k++[l[k]]:=by rw [Z4y h]
theorem Uz {I:Type} {p:List I->Prop} (h0:p []) (h1:∀ l x,p l->p (l++[x])) (l:List I):p l:=by
 have:∀ n (l:List I),l.length=n->p l:=by
  intro n
  induction n with
  | zero=>intro l hl;have:=Z27 hl;subst this;exact h0
  | succ n ih=>
   intro l hl;have je:l≠[]:=by intro h;subst h;simp at hl
   rw [<-List.dropLast_concat_getLast je];exact h1 _ _ (ih _ (by simp [hl]))
 exact this _ l rfl
end Go.Kz
