/-
  Regions in the text's order.
-/
import Derived.Test.YtmoggdcmpoobpaaGreatDoorKzAA
import Derived.OrdersHeld
import Derived.LoopN
import Derived.OpenShut
import Derived.ShutString
import Derived.ChangeOld
import Derived.Below
set_option linter.unusedVariables false
set_option linter.unusedSimpArgs false
namespace Go.Kz
variable {R:Type}
theorem uz {I:Type}:(l:List I)->(i:Nat)->(zT i l).map Prod.fst=List.range' i l.length
 | [],_=>rfl
 | x :: l,i=>by simp only [zT,JU,uz l,GO,List.range'_succ]
theorem ZU {I:Type}:{l:List I}->{i:Nat}->{x:Nat×I}->x∈zT i l->i<=x.1/\l[x.1-i]? = some x.2
 | [],_,_,h=>by simp [zT] at h
 | y :: l,i,x,h=>by
  simp only [zT,gX] at h;rcases h with rfl | h
  ·simp
  ·obtain ⟨h1,h2⟩:=ZU h;refine ⟨by omega,?_⟩;have e:x.1-i=(x.1-(i+1))+1:=by omega
   rw [e];simpa using h2
theorem UC {I:Type} (l:List I) (i:Nat):((zT i l).map Prod.fst).Nodup:=by
 rw [uz];exact List.nodup_range'
theorem F5 {I:Type}:(l:List I)->(i:Nat)->zF l i=l[i]?
 | [],i=>by cases i <;> rfl
 | x :: l,0=>rfl
 | x :: l,i+1=>by simp only [zF,F5 l i];simp
section
variable {P:Program} {ops:Array Oper} {Q:Exit->Act->World->Prop} {q:Bool}
theorem XN (j:Nat):pQ ops.toList j=(ops[j]?).bind (·.dst):=by
 simp only [pQ,F5,Z22]
theorem Kv {o:Oper} {a:Act} {w:World} {v:Value} {K:Act->World->Prop} (h:(execOp a.eval o).run P w = .ok (.value v) w) (hk:K (a.put o.dst v) w):o.wp P a w K Q:=by
 unfold Oper.wp;rw [h,Oper.upon_value];exact hk
theorem LA:(L:List (Nat×Oper))->(∀ x∈L,ops[x.1]? = some x.2)->(a:Act)->(w:World)->YZ q P ops Q (Q .normal) L a w->wpOps P ops Q (L.map Prod.fst) a w
 | [],_,a,w,h=>h
 | (i,o) :: L,hL,a,w,h=>by
  have ih:=LA L (fun x hx=>hL x (by simp [hx]));have ho:ops[i]? = some o:=hL (i,o) (by simp);simp only [JU,wpOps,ho];have h':ql q P ops Q o (YZ q P ops Q (Q .normal) L) a w:=h;unfold ql at h';split
  ·rename_i hw;rw [yW hw] at h';left;rcases h' with ⟨_,v,h1,h2⟩ | ⟨_,h1⟩
   ·exact Kv (h1 w (LP.refl _ w)) (ih _ _ h2)
   ·exact Oper.wp_mono (fun a' w' hh=>ih _ _ hh.2) h1
  ·rename_i hw;rw [qQ hw] at h';exact ih _ _ h'
theorem vd (x:Nat×Oper) (h:x∈zT 0 ops.toList):ops[x.1]? = some x.2:=by
 have:=(ZU h).2;rw [<-Z22];simpa using this
theorem QI {x:Nat×Oper} (h:x∈zT 0 ops.toList):x.1 < ops.toList.length:=by
 have:=(ZU h).2;rw [Z4q] at this;exact (Z3p.1 this).1
theorem z4t {id:Nat} {a:Act} {w:World} (h:YZ q P ops Q (Q .normal) (zT 0 ops.toList) a w):(Code.region id ops false).wp P Q a w:=by
 refine wp_region ?_;have:=LA _ vd a w h;rw [uz,<-List.range_eq_range'] at this;simpa using this
end
section
variable {P:Program} {ops:Array Oper} {c:Ctx}
theorem M4 {q:Bool} {fuel:Nat} {L:List (Nat×Oper)} (hc:ub P c) {Q:Exit->Act->World->Prop} {J:St} {g:z8} {a:Act} {w:World} {k:St->Option R} {r:R} {K:Act->World->Prop}
  (hL:∀ x∈L,x.1 < ops.toList.length) (hnd:(L.map Prod.fst).Nodup)
  (h:xO c J.next (pQ ops.toList) q fuel R [] [] L J (fun J'=>k { J' with next:=J.next+8*ops.toList.length })=some r) (zq:zK c.ntmps g w a J) (hf:qY g J)
  (hK:∀ J' g' a' w',k J'=some r->zK c.ntmps g' w' a' J'->Ext w g w' g'->qY g' J'->K a' w'):YZ q P ops Q K L a w:=by
 refine YB hc XN q fuel h zq (by intro s hs;simp at hs) hnd (fun x _ m h1 _=>hf m (by omega)) (fun J' g' a' w' hk qP qM WV hn=>?_);refine hK _ g' a' w' hk ⟨qP.zj,qP.heap,qP.size,qP.defers,qP.known⟩ qM (fun m hm=>?_);have Xy:J.next+8*ops.toList.length<=m:=hm;have:=WV m (fun x hx=>.inr (by have:=hL x hx;omega)) (hf m (by omega));exact ⟨this.z6,this.row,this.box,this.zj,this.cells⟩
end
end Go.Kz
namespace Go.Kz
section
variable {P:Program} {ops:Array Oper} {Q:Exit->Act->World->Prop} {md:Region.Mode} {w0:World} {q:Bool}
def Xn (q:Bool) (P:Program) (md:Region.Mode) (ops:Array Oper) (Q:Exit->Act->World->Prop):Nat->Array Bool->Act->World->Prop
 | 0,listed,a,w=>Region.ready md ops listed=[]/\Q .normal a w
 | fuel+1,listed,a,w=>
  (Region.ready md ops listed=[]->Q .normal a w)/\
  ∀ i∈Region.ready md ops listed,wpOp P ops Q i (fun a' w'=>((∀ o,ops[i]? = some o->Q5 q o=false->jT w w'))/\Xn q P md ops Q fuel (listed.setIfInBounds i true) a' w') a w
theorem V0:∀ (fuel:Nat) (listed:Array Bool) (a:Act) (w:World),Xn q P md ops Q fuel listed a w->wpAny P md ops Q fuel listed a w
 | 0,_,_,_,h=>h
 | fuel+1,_,_,_,h=>⟨h.1,fun i hi=>wpOp_mono (fun a' w' h'=>V0 fuel _ a' w' h'.2) (h.2 i hi)⟩
def M7 (ops:Array Oper) (a0:Act) (Q:Exit->Act->World->Prop):Exit->Act->World->Prop:=
 fun e a w=>(e = .normal->∀ s,(∀ o∈ops.toList,o.dst≠some s)->a.tmps[s]? = a0.tmps[s]?)->Q e a w
theorem Oper.zoy {o:Oper} {a:Act} {w:World} {K:Act->World->Prop} {Q1 Q2:Exit->Act->World->Prop} (h1:∀ c a w,Q1 (.panic c) a w->Q2 (.panic c) a w) (h2:∀ a w,Q1 .outgrown a w->Q2 .outgrown a w)
  (hh:o.wp P a w K Q1):o.wp P a w K Q2:=by
 unfold Oper.wp at *;generalize (execOp a.eval o).run P w=r at *
 cases r with
 | ok n w'=>
  cases n <;> simp only [Oper.upon] at hh ⊢ <;>
   first
    | exact hh
    | exact Calls.mono hh (fun e w'' he=>by
      cases e with
      | returned v=>exact he
      | panicked c=>exact h1 _ _ _ he
      | outgrown=>exact he.imp fun a h=>h.imp fun w h=>h2 a w h)
 | halt x w'=>cases x <;> simp only [Oper.upon] at hh ⊢ <;> first | exact hh | exact h1 _ _ _ hh
theorem uW {a0:Act}:(fuel:Nat)->(listed:Array Bool)->(a:Act)->(w:World)->(∀ s,(∀ o∈ops.toList,o.dst≠some s)->a.tmps[s]? = a0.tmps[s]?)->
  wpAny P md ops (M7 ops a0 Q) fuel listed a w->wpAny P md ops Q fuel listed a w
 | 0,listed,a,w,hk,h=>⟨h.1,h.2 fun _=>hk⟩
 | fuel+1,listed,a,w,hk,h=>by
  refine ⟨fun hr=>h.1 hr fun _=>hk,fun i hi=>?_⟩;have hh:=h.2 i hi;unfold wpOp at *;split
  ·rename_i ho;simp only [ho] at hh;exact uW fuel _ a w hk hh
  ·rename_i o ho;simp only [ho] at hh;have hmem:o∈ops.toList:=by
    obtain ⟨qJ,rfl⟩:=Z28.1 ho;simp
   split
   ·rename_i hw;simp only [hw,Dn] at hh;rcases hh with hh | ⟨hh,a1,w1,h1⟩
    ·left;refine Oper.zoy (Q1:=M7 ops a0 Q) (fun c a w h=>h (by simp)) (fun a w h=>h (by simp)) ?_;refine Oper.wp_mono (fun a' w' hh=>?_) (Oper.RE hh);exact uW fuel _ a' w' (fun s hs=>(hh.1 s (hs o hmem)).trans (hk s hs)) hh.2
    ·exact .inr ⟨hh,a1,w1,h1 (by simp)⟩
   ·rename_i hw;simp only [hw] at hh;refine uW fuel _ _ w (fun s hs=>?_) hh;rw [YP,qQ (fun h=>hs o hmem h.1)];exact hk s hs
def zbb (md:Region.Mode) (ops:Array Oper) (i:Nat) (Lt:List Nat):Prop:=
 ∀ x∈Lt,∀ ox,ops[x]? = some ox->∃ e∈ox.after,Region.binds md e=true/\(e.on=i\/e.on∈Lt)
theorem Nh {i:Nat} {Lt:List Nat} {listed:Array Bool} (hw:zbb md ops i Lt) (hl:∀ x∈Lt,listed.getD x true=false) (hi:listed.getD i true=false) {j:Nat} (hj:j∈Region.ready md ops listed):j∉Lt:=by
 intro hjl;obtain ⟨_,oj,xG,hall⟩:=mem_ready.1 hj;obtain ⟨e,he,hb,hon⟩:=hw j hjl oj xG;have h1:=hall e he hb;have h0:listed.getD e.on true=false:=by
  rcases hon with h | h
  ·rw [h];exact hi
  ·exact hl _ h
 rcases Z3h e.on listed.size with h' | h'
 ·simp [h'] at h0 h1;rw [h0] at h1;cases h1
 ·simp [Z3g h'] at h1
theorem Xm {i:Nat} {oi:Oper} {v:Value} {Lt:List Nat} (hi:ops[i]? = some oi) (zkb:∀ (j:Nat) (o:Oper) cs b,ops[j]? = some o->o.op≠.select cs b)
  (hQ:∀ c a w,¬ Q (.panic c) a w) (hwt:zbb md ops i Lt) :
  ∀ (fuel:Nat) (listed:Array Bool) (a:Act) (w:World),
   (∀ j oj,ops[j]? = some oj->j≠i->listed.getD j true=false->(∀ e∈oj.after,Region.binds md e=true->e.on≠i)->oi.apart ops oj=true)->
   (∀ x∈Lt,listed.getD x true=false)->(∀ j oj,ops[j]? = some oj->j≠i->listed.getD j true=false->Q5 q oj=true->j∈Lt\/isP oi=true)->
   i∈Region.ready md ops listed->YieldsIf P ops (LP oi w0) oi v a->LP oi w0 w->
   Xn q P md ops Q fuel (listed.setIfInBounds i true) (a.put oi.dst v) w->Xn q P md ops Q (fuel+1) listed a w:=by
 intro fuel
 induction fuel with
 | zero=>
  intro listed a w _ _ _ hr hy hS H;refine ⟨fun h=>(by rw [h] at hr;cases hr),fun j hj=>?_⟩;by_cases Pk:j=i
  ·subst Pk;exact hy.wpOp hi hS ⟨fun _ _ _=>jT.refl w,H⟩
  ·have:=ready_mono hj Pk;rw [H.1] at this
   cases this
 | succ fuel ih=>
  intro listed a w Je qJ hM hr hy hS H;refine ⟨fun h=>(by rw [h] at hr;cases hr),fun j hj=>?_⟩;by_cases Pk:j=i
  ·subst Pk;exact hy.wpOp hi hS ⟨fun _ _ _=>jT.refl w,H⟩
  ·have h1:=H.2 j (ready_mono hj Pk);have hi0:=(mem_ready.1 hr).1;have hjl:=Nh hwt qJ hi0 hj;obtain ⟨zet,oj,xG,hall⟩:=mem_ready.1 hj;have hnM:isP oi=false->Q5 q oj=false:=by
    intro hP
    cases hm:Q5 q oj with
    | false=>rfl
    | true=>
     rcases hM j oj xG Pk zet hm with h | h
     ·exact absurd h hjl
     ·rw [hP] at h;simp at h
   have ztm:∀ e∈oj.after,Region.binds md e=true->e.on≠i:=fun e he hb heq=>by
    have h1:=hall e he hb;have h0:=hi0;rw [heq] at h1;rcases Z3h i listed.size with h' | h'
    ·simp [h'] at h0 h1;rw [h0] at h1;cases h1
    ·simp [Z3g h'] at h1
   have h2:=wpOp_putIf xG (Je j oj xG Pk zet ztm) (fun cs b=>zkb i oi cs b hi) (fun cs b=>zkb j oj cs b xG) (fun c a w h=>absurd h (hQ _ _ _)) hy h1;have zk4:∀ k,(listed.setIfInBounds j true).getD k true=false->listed.getD k true=false:=fun k YO=>by
    by_cases hjk:j=k
    ·subst hjk;exact zet
    ·rw [getD_set_ne true hjk] at YO;exact YO
   refine wpOp_mono (fun a' w' h3=>⟨h3.2.1,ih (listed.setIfInBounds j true) a' w' (fun k ok hk hki YO BI=>Je k ok hk hki (zk4 k YO) BI) (fun x hx=>?_) (fun k ok hk hki YO hm=>hM k ok hk hki (zk4 k YO) hm)
    (ready_mono hr (Ne.symm Pk)) h3.1 (fun hP=>(hS hP).trans (h3.2.1 oj xG (hnM hP))) ?_⟩) h2
   ·have vI:j≠x:=fun he=>hjl (he ▸ hx)
    rw [getD_set_ne true vI];exact qJ x hx
   ·rw [Array.setIfInBounds_comm _ _ Pk];exact h3.2.2
end
end Go.Kz
namespace Go.Kz
variable {R:Type}
theorem C4 {d:List Nat}:{l:List Nat}->(HZ l d=true↔∀ x∈l,x∈d)
 | []=>by simp [HZ]
 | y :: l=>by simp [HZ,jX,C4 (l:=l)]
theorem C3 {d:List Nat}:{l:List Nat}->(Xl l d=true↔∃ x∈l,x∈d)
 | []=>by simp [Xl]
 | y :: l=>by simp [Xl,jX,C3 (l:=l)]
theorem Vj {d:List Nat}:{l:List Nat}->(UI l d=true↔∀ x∈l,x∉d)
 | []=>by simp [UI]
 | y :: l=>by
  have:=jX (x:=y) (l:=d);simp only [UI,zA,Vj (l:=l),gX,forall_eq_or_imp];constructor
  ·rintro ⟨h1,h2⟩;refine ⟨fun h=>?_,h2⟩;rw [this.2 h] at h1;simp at h1
  ·rintro ⟨h1,h2⟩;refine ⟨?_,h2⟩
   cases hm:yD y d with
   | true=>exact absurd (this.1 hm) h1
   | false=>rfl
theorem vb {x:Nat}:{l:List Edge}->(x∈ve l↔∃ e∈l,Region.binds .any e=true/\e.on=x)
 | []=>by simp [ve]
 | e :: l=>by
  simp only [ve]
  cases hb:Region.binds .any e with
  | true=>
   simp only [zD,gX,vb (l:=l),exists_eq_or_imp,hb,VL]
   exact or_congr ⟨Eq.symm,Eq.symm⟩ Iff.rfl
  | false=>
   simp only [zW,gX,vb (l:=l),exists_eq_or_imp,hb];simp
theorem Ah {t:Nat}:{l:List Operand}->(t∈Ai l↔.tmp t∈l)
 | []=>by simp [Ai]
 | x :: l=>by cases x <;> simp [Ai,Ah (l:=l)]
section
variable {P:Program} {ops:Array Oper} {Q:Exit->Act->World->Prop}
theorem OW {o:Oper} {t:Nat} (h:t∈o.looksAt ops):Uh (pQ ops.toList) o t=true:=by
 simp only [Oper.looksAt,Gt,Z4r] at h;simp only [Uh,HJ,jX,Ah];rcases h with ⟨x,hx,h⟩ | h
 ·left;cases x <;> simp at h;subst h;exact hx
 ·right;unfold z08
  cases hg:o.guard with
  | none=>rw [hg] at h;simp at h
  | some gw=>
   obtain ⟨j,want⟩:=gw;rw [hg] at h;simp only at h;have e:=XN (ops:=ops) j
   cases hd:(ops[j]?).bind (·.dst) with
   | none=>rw [hd] at h;simp at h
   | some d=>
    rw [hd] at h e;simp only [e];simpa using h
theorem C2 {x y:Oper} (h:Dl (pQ ops.toList) x y=true):x.apart ops y=true:=by
 unfold Dl at h;simp only [zA] at h;unfold Oper.apart;simp only [zA];have BI:∀ (o:Oper) (d:Nat),(!Uh (pQ ops.toList) o d)=true->(!(o.looksAt ops).contains d)=true:=by
  intro o d hd
  cases hc:(o.looksAt ops).contains d with
  | false=>rfl
  | true=>
   have:=OW (ops:=ops) (List.contains_iff_mem.1 hc);rw [this] at hd;simp at hd
 constructor
 ·have h1:=h.1
  cases hx:x.dst with
  | none=>rfl
  | some d=>
   rw [hx] at h1;simp only [zA] at h1 ⊢;refine ⟨BI y d h1.1,?_⟩;have h2:=h1.2
   cases hy:y.dst with
   | none=>simp
   | some e=>
    rw [hy] at h2;simp only [bne_iff_ne,ne_eq,zI];intro he;subst he;simp [Lu] at h2
 ·have h2:=h.2
  cases hy:y.dst with
  | none=>rfl
  | some d=>rw [hy] at h2;exact BI x d h2
structure Rel (ops:Array Oper) (listed:Array Bool) (done:List Nat):Prop where
 size:listed.size=ops.size
 get:∀ j,j < ops.size->listed[j]? = some (yD j done)
theorem Rel.getD {listed:Array Bool} {done:List Nat} (h:Rel ops listed done) {j:Nat} (hj:j < ops.size) (d:Bool):listed.getD j d=yD j done:=by
 simp [Z2m,h.get j hj]
theorem Rel.start:Rel ops (Array.replicate ops.size false) []:=⟨by simp,fun j hj=>by simp [hj,yD]⟩
theorem Rel.add {listed:Array Bool} {done:List Nat} (h:Rel ops listed done) {i:Nat}:Rel ops (listed.setIfInBounds i true) (i :: done):=by
 refine ⟨by simp [h.size],fun j hj=>?_⟩;rw [Z5r];have qJ:j < listed.size:=by rw [h.size];exact hj
 by_cases ZI:i=j
 ·subst ZI;simp [qJ,yD,Lu]
 ·rw [qQ ZI,h.get j hj];have:Nat.beq i j=false:=by
   cases hb:Nat.beq i j with
   | true=>exact absurd (zE hb) ZI
   | false=>rfl
  simp [yD,this]
structure E9 (ops:Array Oper):Prop where
 sel:∀ (j:Nat) (o:Oper) cs b,ops[j]? = some o->o.op≠.select cs b
theorem jU {j:Nat} {o:Oper} (h:ops[j]? = some o):(j,o)∈zT 0 ops.toList:=by
 have key:∀ (l:List Oper) (i j:Nat),l[j]? = some o->(i+j,o)∈zT i l:=by
  intro l
  induction l with
  | nil=>intro i j h;simp at h
  | cons x l ih=>
   intro i j h
   cases j with
   | zero=>simp only [Z5d,zI] at h;subst h;simp [zT]
   | succ j=>
    have:=ih (i+1) j (by simpa using h);simp only [zT,gX];right;have e:i+(j+1)=i+1+j:=by omega
    rw [e];exact this
 have:=key ops.toList 0 j (by rw [Z22];exact h);simpa using this
theorem pc {j:Nat} {o:Oper} (h:ops[j]? = some o):j < ops.size:=(Z28.1 h).1
theorem Bj:(l:List (Nat×Oper))->KL l=true->∀ x∈l,∀ cs b,x.2.op≠.select cs b
 | [],_,_,hx=>by simp at hx
 | (i,o) :: l,h,x,hx=>by
  simp only [KL,zA] at h;rcases gX.1 hx with rfl | hx
  ·intro cs b hs;have:=h.1;rw [hs] at this;simp at this
  ·exact Bj l h.2 x hx
theorem Ef (h:KL (zT 0 ops.toList)=true):E9 ops:=
 ⟨fun j o cs b ho=>Bj _ h _ (jU ho) cs b⟩
theorem O9 {listed:Array Bool} {done:List Nat} (hr:Rel ops listed done) {j:Nat} {o:Oper} (ho:ops[j]? = some o) :
  j∈Region.ready .any ops listed↔j∉done/\∀ e∈o.after,Region.binds .any e=true->e.on∈done/\e.on < ops.size:=by
 rw [mem_ready];have hj:=pc ho;rw [hr.getD hj];have hb:∀ x,yD x done=false↔x∉done:=fun x=>by
  rw [<-jX];simp
 rw [hb];refine and_congr Iff.rfl ⟨?_,?_⟩
 ·rintro ⟨o',GP,hall⟩ e he D2;rw [ho] at GP;simp only [zI] at GP;subst GP;have:=hall e he D2;by_cases qJ:e.on < ops.size
  ·rw [hr.getD qJ,jX] at this;exact ⟨this,qJ⟩
  ·have hn:listed[e.on]? = none:=by rw [Array.getElem?_eq_none_iff,hr.size];omega
   simp [Z2m,hn] at this
 ·intro hall;refine ⟨o,ho,fun e he D2=>?_⟩;obtain ⟨h1,h2⟩:=hall e he D2;rw [hr.getD h2,jX];exact h1
theorem Um {i x:Nat}:{l:List (Nat×Oper)}->{acc:List Nat}->x∈acc->x∈gZ i l acc
 | [],_,h=>h
 | (j,o) :: l,acc,h=>by
  simp only [gZ];refine Um (l:=l) ?_
  cases (yD i (ve o.after.toList) || Xl (ve o.after.toList) acc) with
  | true=>simp [h]
  | false=>exact h
theorem Vk {i:Nat}:{l:List (Nat×Oper)}->{acc:List Nat}->{G:Nat->Prop}->
  (∀ x∈acc,G x)->(∀ j o,(j,o)∈l->(∃ y∈ve o.after.toList,y=i\/y∈gZ i l acc)->G j)->∀ x∈gZ i l acc,G x
 | [],_,_,h,_,x,hx=>h x hx
 | (j,o) :: l,acc,G,h,hG,x,hx=>by
  simp only [gZ] at hx hG;refine Vk (l:=l) ?_ (fun j' o' hm hy=>hG j' o' (by simp [hm]) hy) x hx;intro y hy
  cases hc:(yD i (ve o.after.toList) || Xl (ve o.after.toList) acc) with
  | false=>rw [hc] at hy;exact h y hy
  | true=>
   rw [hc] at hy hG;simp only [zD,gX] at hy hG;rcases hy with rfl | hy
   ·refine hG y o (by simp) ?_;simp only [HJ,jX,C3] at hc;rcases hc with hc | ⟨z,hz,hza⟩
    ·exact ⟨i,hc,.inl rfl⟩
    ·exact ⟨z,hz,.inr (Um (by simp [hza]))⟩
   ·exact h y hy
theorem Qo {q:Bool} {dst:Nat->Option Nat} {done later:List Nat} {i:Nat} {o:Oper}:{l:List (Nat×Oper)}->MK q dst done later i o l=true->∀ x∈l,
  x.1=i\/x.1∈done\/((i∈ve x.2.after.toList\/Dl dst o x.2=true)/\(isP o=true\/Q5 q x.2=false\/x.1∈later))
 | [],_,x,hx=>by simp at hx
 | (j,oj) :: l,h,x,hx=>by
  simp only [MK,zA] at h;rcases gX.1 hx with rfl | hx
  ·have h1:=h.1;simp only [HJ,zA,jX,A1] at h1;rcases h1 with (h1 | h1) | h1
   ·exact .inl (zE h1)
   ·exact .inr (.inl h1)
   ·exact .inr (.inr ⟨h1.1,or_assoc.1 h1.2⟩)
  ·exact Qo h.2 x hx
theorem Jw {done:List Nat} {i:Nat}:{l:List (Nat×Oper)}->Xt done i l=true->∀ x∈l,x.1=i\/x.1∈done\/QB done x.2=false
 | [],_,x,hx=>by simp at hx
 | (j,oj) :: l,h,x,hx=>by
  simp only [Xt,zA] at h;rcases gX.1 hx with rfl | hx
  ·have h1:=h.1;simp only [HJ,jX,A1] at h1;rcases h1 with (h1 | h1) | h1
   ·exact .inl (zE h1)
   ·exact .inr (.inl h1)
   ·exact .inr (.inr h1)
  ·exact Jw h.2 x hx
theorem wP {listed:Array Bool} {done:List Nat} (hr:Rel ops listed done) (hd:∀ x∈done,x < ops.size) {j:Nat} {o:Oper} (ho:ops[j]? = some o) :
  j∈Region.ready .any ops listed↔j∉done/\QB done o=true:=by
 rw [O9 hr ho];refine and_congr Iff.rfl ?_;unfold QB;rw [C4];constructor
 ·intro h x hx;obtain ⟨e,he,D2,rfl⟩:=vb.1 hx;exact (h e (by simpa using he) D2).1
 ·intro h e he D2;have:=h e.on (vb.2 ⟨e,by simpa using he,D2,rfl⟩);exact ⟨this,hd _ this⟩
theorem ql.wpOp {q:Bool} {i:Nat} {o:Oper} {K:Act->World->Prop} {a:Act} {w:World} (hi:ops[i]? = some o) (h:ql q P ops Q o K a w) :
  wpOp P ops Q i (fun a' w'=>(∀ o,ops[i]? = some o->Q5 q o=false->jT w w')/\K a' w') a w:=by
 unfold ql at h;unfold Go.wpOp;simp only [hi,zI];split
 ·rename_i hw;rw [yW hw] at h;left;rcases h with ⟨_,v,h1,h2⟩ | ⟨_,h1⟩
  ·exact Kv (h1 w (LP.refl _ w)) ⟨fun _ _ _=>jT.refl w,h2⟩
  ·exact Oper.wp_mono (fun a' w' hh=>⟨fun o' GP hm=>hh.1 (by rw [GP];exact hm),hh.2⟩) h1
 ·rename_i hw;rw [qQ hw] at h;exact ⟨fun _ _ _=>jT.refl w,h⟩
theorem z5d {q:Bool} (hp:E9 ops) (hQ:∀ c a w,¬ Q (.panic c) a w) {i:Nat} {o:Oper} {listed:Array Bool} {done:List Nat} {a:Act} {w:World} {f:Nat} {K':Act->World->Prop} (hi:ops[i]? = some o) (hr:Rel ops listed done) (hd:∀ x∈done,x < ops.size)
  (hni:i∉done) (hat:Es q (pQ ops.toList) (zT 0 ops.toList) done i o=true) (h:ql q P ops Q o K' a w) (ih:∀ a' w',K' a' w'->Xn q P .any ops Q f (listed.setIfInBounds i true) a' w'):Xn q P .any ops Q (f+1) listed a w:=by
 simp only [Es,zA,HJ] at hat;have hir:i∈Region.ready .any ops listed:=(wP hr hd hi).2 ⟨hni,hat.1⟩;have h':ql q P ops Q o K' a w:=h;rcases hat.2 with ⟨⟨hy,Je⟩,Zn⟩ | hal
 ·have Qa:∀ x∈gZ i (zT 0 ops.toList) [],x < ops.size/\∀ ox,ops[x]? = some ox->∃ e∈ox.after,Region.binds .any e=true/\(e.on=i\/e.on∈gZ i (zT 0 ops.toList) []):=by
   refine Vk (by simp) (fun j oj hm hy=>?_);have xG:=vd _ hm;refine ⟨pc xG,fun ox hox=>?_⟩;simp only at xG;rw [xG] at hox;simp only [zI] at hox;subst hox;obtain ⟨y,hy1,hy2⟩:=hy;obtain ⟨e,he,D2,rfl⟩:=vb.1 hy1;exact ⟨e,by simpa using he,D2,hy2⟩
  have hyi:∃ v,YieldsIf P ops (LP o w) o v a/\K' (a.put o.dst v) w:=by
   unfold ql at h';split at h'
   ·rename_i hw;rcases h' with ⟨_,v,h1,h2⟩ | ⟨h1,_⟩
    ·exact ⟨v,.inl ⟨hw,h1⟩,h2⟩
    ·rw [hy] at h1;simp at h1
   ·rename_i hw;exact ⟨undef,.inr ⟨by simpa using hw,rfl⟩,h'⟩
  obtain ⟨v,hyv,hk⟩:=hyi;have YO:∀ j,j < ops.size->listed.getD j true=false->j∉done:=fun j hj hu=>by
   rw [hr.getD hj] at hu;exact jK.1 hu
  refine Xm (w0:=w) (Lt:=gZ i (zT 0 ops.toList) []) hi hp.sel hQ (fun x hx=>(Qa x hx).2) f listed a w ?_ ?_ ?_ hir hyv (LP.refl o w) (ih _ _ hk)
  ·intro j oj xG Pk hu BI;rcases Qo Je _ (jU xG) with h1 | h1 | ⟨h1 | h1,_⟩
   ·exact absurd h1 Pk
   ·exact absurd h1 (YO j (pc xG) hu)
   ·obtain ⟨e,he,D2,hei⟩:=vb.1 h1;exact absurd hei (BI e (by simpa using he) D2)
   ·exact C2 h1
  ·intro x hx;rw [hr.getD (Qa x hx).1];exact jK.2 ((Vj.1 Zn) x hx)
  ·intro j oj xG Pk hu hM;rcases Qo Je _ (jU xG) with h1 | h1 | ⟨_,h1 | h1 | h1⟩
   ·exact absurd h1 Pk
   ·exact absurd h1 (YO j (pc xG) hu)
   ·exact .inr h1
   ·rw [hM] at h1;simp at h1
   ·exact .inl h1
 ·refine ⟨fun h0=>(by rw [h0] at hir;cases hir),fun j hj=>?_⟩;obtain ⟨_,oj,xG,_⟩:=mem_ready.1 hj;have h1:=(wP hr hd xG).1 hj;have Pk:j=i:=by
   rcases Jw hal _ (jU xG) with h2 | h2 | h2
   ·exact h2
   ·exact absurd h2 h1.1
   ·rw [h1.2] at h2;simp at h2
  subst Pk;exact wpOp_mono (fun a' w' hh=>⟨hh.1,ih _ _ hh.2⟩) (h'.wpOp hi)
theorem Em {q:Bool} (hp:E9 ops) (hQ:∀ c a w,¬ Q (.panic c) a w):(L:List (Nat×Oper))->(∀ x∈L,ops[x.1]? = some x.2)->{listed:Array Bool}->{done:List Nat}->{a:Act}->{w:World}->{fuel:Nat}->
  L.length<=fuel->Rel ops listed done->(∀ x∈done,x < ops.size)->ZP q (pQ ops.toList) (zT 0 ops.toList) L done=true->YZ q P ops Q (Q .normal) L a w->Xn q P .any ops Q fuel listed a w
 | [],_,listed,done,a,w,fuel,_,hr,hd,ho,h=>by
  simp only [ZP] at ho;have Zn:Region.ready .any ops listed=[]:=by
   rw [Z5e];intro j hj;obtain ⟨_,o,xG,_⟩:=mem_ready.1 hj;have h1:=(wP hr hd xG).1 hj;rcases Jw ho _ (jU xG) with h2 | h2 | h2
   ·have h3:=QI (jU xG);have h4:(zT 0 ops.toList).length=ops.toList.length:=by
     have:=C6 List.length (uz ops.toList 0);simpa using this
    simp only at h2 h3;omega
   ·exact h1.1 h2
   ·rw [h1.2] at h2;simp at h2
  cases fuel with
  | zero=>exact ⟨Zn,h⟩
  | succ f=>exact ⟨fun _=>h,fun i hi=>by rw [Zn] at hi;simp at hi⟩
 | (i,o) :: L,hL,listed,done,a,w,fuel,hf,hr,hd,ho,h=>by
  simp only [ZP,zA,A1] at ho;obtain ⟨⟨hni,hat⟩,pk⟩:=ho;have hi:ops[i]? = some o:=hL (i,o) (by simp);have qJ:=pc hi;obtain ⟨f,rfl⟩:∃ f,fuel=f+1:=⟨fuel-1,by simp only [GO] at hf;omega⟩;have WV:L.length<=f:=by simp only [GO] at hf;omega
  have hd':∀ x∈i :: done,x < ops.size:=by
   intro x hx;rcases gX.1 hx with rfl | hx
   ·exact qJ
   ·exact hd x hx
  have ih:∀ {a' w'},YZ q P ops Q (Q .normal) L a' w'->Xn q P .any ops Q f (listed.setIfInBounds i true) a' w':=fun {a' w'} h'=>
   Em hp hQ L (fun x hx=>hL x (by simp [hx])) WV hr.add hd' pk h'
  simp only [Es,zA,HJ] at hat;have hir:i∈Region.ready .any ops listed:=(wP hr hd hi).2 ⟨jK.1 hni,hat.1⟩;have h':ql q P ops Q o (YZ q P ops Q (Q .normal) L) a w:=h;rcases hat.2 with ⟨⟨hy,Je⟩,Zn⟩ | hal
  ·have Qa:∀ x∈gZ i (zT 0 ops.toList) [],x < ops.size/\∀ ox,ops[x]? = some ox->∃ e∈ox.after,Region.binds .any e=true/\(e.on=i\/e.on∈gZ i (zT 0 ops.toList) []):=by
    refine Vk (by simp) (fun j oj hm hy=>?_);have xG:=vd _ hm;refine ⟨pc xG,fun ox hox=>?_⟩;simp only at xG;rw [xG] at hox;simp only [zI] at hox;subst hox;obtain ⟨y,hy1,hy2⟩:=hy;obtain ⟨e,he,D2,rfl⟩:=vb.1 hy1;exact ⟨e,by simpa using he,D2,hy2⟩
   have hyi:∃ v,YieldsIf P ops (LP o w) o v a/\YZ q P ops Q (Q .normal) L (a.put o.dst v) w:=by
    unfold ql at h';split at h'
    ·rename_i hw;rcases h' with ⟨_,v,h1,h2⟩ | ⟨h1,_⟩
     ·exact ⟨v,.inl ⟨hw,h1⟩,h2⟩
     ·rw [hy] at h1;simp at h1
    ·rename_i hw;exact ⟨undef,.inr ⟨by simpa using hw,rfl⟩,h'⟩
   obtain ⟨v,hyv,hk⟩:=hyi;have YO:∀ j,j < ops.size->listed.getD j true=false->j∉done:=fun j hj hu=>by
    rw [hr.getD hj] at hu;exact jK.1 hu
   refine Xm (w0:=w) (Lt:=gZ i (zT 0 ops.toList) []) hi hp.sel hQ (fun x hx=>(Qa x hx).2) f listed a w ?_ ?_ ?_ hir hyv (LP.refl o w) (ih hk)
   ·intro j oj xG Pk hu BI;rcases Qo Je _ (jU xG) with h1 | h1 | ⟨h1 | h1,_⟩
    ·exact absurd h1 Pk
    ·exact absurd h1 (YO j (pc xG) hu)
    ·obtain ⟨e,he,D2,hei⟩:=vb.1 h1;exact absurd hei (BI e (by simpa using he) D2)
    ·exact C2 h1
   ·intro x hx;rw [hr.getD (Qa x hx).1];exact jK.2 ((Vj.1 Zn) x hx)
   ·intro j oj xG Pk hu hM;rcases Qo Je _ (jU xG) with h1 | h1 | ⟨_,h1 | h1 | h1⟩
    ·exact absurd h1 Pk
    ·exact absurd h1 (YO j (pc xG) hu)
    ·exact .inr h1
    ·rw [hM] at h1;simp at h1
    ·exact .inl h1
  ·refine ⟨fun h0=>(by rw [h0] at hir;cases hir),fun j hj=>?_⟩;obtain ⟨_,oj,xG,_⟩:=mem_ready.1 hj;have h1:=(wP hr hd xG).1 hj;have Pk:j=i:=by
    rcases Jw hal _ (jU xG) with h2 | h2 | h2
    ·exact h2
    ·exact absurd h2 h1.1
    ·rw [h1.2] at h2;simp at h2
   subst Pk;exact wpOp_mono (fun a' w' hh=>⟨hh.1,ih hh.2⟩) (h'.wpOp hi)
theorem UU {q:Bool} {dst:Nat->Option Nat} {all:List (Nat×Oper)}:{n:Nat}->{done:List Nat}->∀ x∈QD q dst all n done,x∈all
 | 0,_,x,hx=>by simp [QD] at hx
 | n+1,done,x,hx=>by
  simp only [QD] at hx;split at hx
  ·rename_i i o hn;have hmem:(i,o)∈all:=by
    have key:∀ (l:List (Nat×Oper)),Wy q dst all done l=some (i,o)->(i,o)∈l:=by
     intro l
     induction l with
     | nil=>intro h;simp [Wy] at h
     | cons y l ih=>
      obtain ⟨j,oj⟩:=y;intro h;simp only [Wy] at h
      cases hc:(!yD j done && Es q dst all done j oj) with
      | true=>rw [hc] at h;simp at h;simp [h.1,h.2]
      | false=>rw [hc] at h;simp only [zW] at h;simp [ih h]
    exact key all hn
   rcases gX.1 hx with rfl | hx
   ·exact hmem
   ·exact UU x hx
  ·simp at hx
theorem UX {q:Bool} {dst:Nat->Option Nat} {all:List (Nat×Oper)}:(n:Nat)->(done:List Nat)->(QD q dst all n done).length<=n
 | 0,_=>by simp [QD]
 | n+1,done=>by
  simp only [QD];split
  ·simp only [GO];exact Nat.succ_le_succ (UX n _)
  ·simp
theorem JO {q:Bool} {dst:Nat->Option Nat} {all:List (Nat×Oper)}:{L:List (Nat×Oper)}->{done:List Nat}->ZP q dst all L done=true->(L.map Prod.fst).Nodup/\∀ x∈L,x.1∉done
 | [],_,_=>⟨by simp,by simp⟩
 | (i,o) :: L,done,h=>by
  simp only [ZP,zA,A1] at h;obtain ⟨h1,h2⟩:=JO h.2;refine ⟨?_,fun x hx=>?_⟩
  ·simp only [JU,Z2s];refine ⟨fun hm=>?_,h1⟩;obtain ⟨x,hx,he⟩:=Jo.1 hm;exact h2 x hx (by simp [he])
  ·rcases gX.1 hx with rfl | hx
   ·exact jK.1 h.1.1
   ·exact fun hd=>h2 x hx (by simp [hd])
end
end Go.Kz
namespace Go.Kz
variable {R:Type}
end Go.Kz
namespace Go.Kz
variable {R:Type}
section
variable {P:Program} {ops:Array Oper} {Q:Exit->Act->World->Prop}
end
end Go.Kz
namespace Go.Kz
end Go.Kz
namespace Go.Kz
end Go.Kz
namespace Go.Kz
end Go.Kz
namespace Go.Kz
variable {R:Type}
theorem z1i {b:Bool} {x:Option R} {r:R} (h:cond b x none=some r):b=true/\x=some r:=by
 cases b with
 | true=>exact ⟨rfl,h⟩
 | false=>simp at h
section
variable {P:Program} {c:Ctx}
theorem I6 {R:Type} {l:List (Option R)} {r:R} (h:qu l=some r):∀ y∈l,y=some r:=by
 cases l with
 | nil=>simp
 | cons x l=>
  simp only [qu] at h;split at h
  ·rename_i hall;intro y hy;rcases gX.1 hy with rfl | hy
   ·exact h
   ·rw [hall y hy];exact h
  ·simp at h
theorem UM {q:Bool} {dst:Nat->Option Nat} {all:List (Nat×Oper)} {done:List Nat} {i:Nat} {o:Oper}:{l:List (Nat×Oper)}->Wy q dst all done l=some (i,o)->(i,o)∈l/\i∉done/\Es q dst all done i o=true
 | [],h=>by simp [Wy] at h
 | (j,oj) :: l,h=>by
  simp only [Wy] at h
  cases hc:(!yD j done && Es q dst all done j oj) with
  | true=>
   rw [hc] at h;simp only [zD,zI,gB] at h;obtain ⟨rfl,rfl⟩:=h;simp only [zA,A1] at hc
   exact ⟨by simp,jK.1 hc.1,hc.2⟩
  | false=>
   rw [hc] at h;simp only [zW] at h;obtain ⟨h1,h2⟩:=UM h;exact ⟨by simp [h1],h2⟩
theorem wO {done:List Nat} {i:Nat} {o:Oper}:{l:List (Nat×Oper)}->((i,o)∈gx done l↔(i,o)∈l/\i∉done/\QB done o=true)
 | []=>by simp [gx]
 | (j,oj) :: l=>by
  simp only [gx]
  cases hc:(!yD j done && QB done oj) with
  | true=>
   simp only [zD,gX,wO (l:=l)];simp only [zA,A1] at hc;constructor
   ·rintro (h | h)
    ·simp only [gB] at h;obtain ⟨rfl,rfl⟩:=h;exact ⟨.inl rfl,jK.1 hc.1,hc.2⟩
    ·exact ⟨.inr h.1,h.2⟩
   ·rintro ⟨h | h,h2⟩
    ·exact .inl h
    ·exact .inr ⟨h,h2⟩
  | false=>
   simp only [zW,gX,wO (l:=l)];constructor
   ·rintro ⟨h,h2⟩;exact ⟨.inr h,h2⟩
   ·rintro ⟨h | h,h2,h3⟩
    ·simp only [gB] at h;obtain ⟨rfl,rfl⟩:=h;rw [h3,jK.2 h2] at hc;simp at hc
    ·exact ⟨h,h2,h3⟩
theorem T6 {q:Bool} (hc:ub P c) {ops:Array Oper} {Q:Exit->Act->World->Prop} {K:Act->World->Prop} {b0:Nat} {o:Oper} {J:St} {g:z8} {a:Act} {w:World} {kk:St->Option R} {r:R} (hw:Region.wanted o (yielded ops a.tmps)=true) (h:Ox q c J b0 o kk=some r) (zq:zK c.ntmps g w a J)
  (vQ:∀ m,b0<=m->m < b0+8->zY g J m)
  (hK:∀ J1 g1 a1 w1,kk J1=some r->zK c.ntmps g1 w1 a1 J1->Ext w g w1 g1->(∀ m,(m < b0\/b0+8<=m)->zY g J m->zY g1 J1 m)->J1.next=J.next->(∀ s,o.dst≠some s->a1.tmps[s]? = a.tmps[s]?)->K a1 w1):ql q P ops Q o K a w:=by
 refine ql.mono (fun a1 w1 hh=>hh.2 hh.1.2) (ql.frame (K:=fun a1 w1=>(∀ s,o.dst≠some s->a1.tmps[s]? = a.tmps[s]?)->K a1 w1) ?_);unfold ql;rw [yW hw]
 cases hy:IP o with
 | true=>
  left;obtain ⟨av,v,h1,h2,h3,h4⟩:=(UA hc hy zq (by rw [<-z9x hy];exact h)).out;refine ⟨rfl,v,h1,fun Qm=>?_⟩;rcases gM h4 with ⟨hd,hk⟩ | ⟨d,hd,qJ,hk⟩
  ·rw [hd] at Qm ⊢;exact hK J g a w hk zq (Ext.refl _ _) (fun _ _ hm=>hm) rfl (by rw [hd];exact Qm)
  ·rw [hd] at Qm ⊢;exact hK _ g _ w hk (zq.put qJ h2) (Ext.refl _ _) (fun m _ hm=>hm.set d (h3 m hm)) rfl (by rw [hd];exact Qm)
 | false=>
  right;refine ⟨rfl,SN (base:=b0) hc zq vQ h ?_⟩;intro J1 g1 a1 w1 h1 yC yP Q7 Zo vl;exact ⟨fun h1=>vl h1,fun Qm=>hK J1 g1 a1 w1 h1 yC yP Q7 Zo Qm⟩
theorem T7 {q:Bool} {ops:Array Oper} {Q:Exit->Act->World->Prop} {K:Act->World->Prop} {o:Oper} {a:Act} {w:World} (hw:Region.wanted o (yielded ops a.tmps)=false) (h:K (a.put o.dst undef) w):ql q P ops Q o K a w:=by
 unfold ql;rw [hw];simp only [Z25,Lp];exact h
theorem Rh (hc:ub P c) {ops:Array Oper} {Q:Exit->Act->World->Prop} {K:Act->World->Prop} {b0:Nat} {o:Oper} {opened gF:List Nat} {J:St} {g:z8} {a:Act} {w:World} {kk:List Nat->List Nat->St->Option R} {r:R}
  (h:ED c (pQ ops.toList) b0 o opened gF J kk=some r) (zq:zK c.ntmps g w a J) (YO:Und a gF) (vQ:∀ m,b0<=m->m < b0+8->zY g J m)
  (hK:∀ op1 un1 J1 g1 a1 w1,kk op1 un1 J1=some r->zK c.ntmps g1 w1 a1 J1->Und a1 un1->Ext w g w1 g1->(∀ m,(m < b0\/b0+8<=m)->zY g J m->zY g1 J1 m)->J1.next=J.next->K a1 w1):ql true P ops Q o K a w:=by
 have one:∀ {op1:List Nat} {J':St},Ox true c J' b0 o (fun J=>kk op1 (Zr o.dst gF) J)=some r->zK c.ntmps g w a J'->(∀ m,zY g J m->zY g J' m)->J'.next=J.next->Region.wanted o (yielded ops a.tmps)=true->ql true P ops Q o K a w:=by
  intro op1 J' h qP hf hn hw;refine T6 hc hw h qP (fun m h1 h2=>hf m (vQ m h1 h2)) (fun J1 g1 a1 w1 h1 yC yP Q7 Zo Qm=>?_);exact hK _ _ J1 g1 a1 w1 h1 yC (YO.vj Qm) yP (fun m hm w9=>Q7 m hm (hf m w9)) (Zo.trans hn)
 have skip:∀ {op1:List Nat} {J':St},kk op1 (Dm o.dst gF) (J'.wh o.dst)=some r->zK c.ntmps g w a J'->(∀ m,zY g J m->zY g J' m)->J'.next=J.next->Region.wanted o (yielded ops a.tmps)=false->ql true P ops Q o K a w:=by
  intro op1 J' h qP hf hn hw;refine T7 hw (hK _ _ _ g _ w h (qP.zd2 o.dst undef) YO.skip (Ext.refl _ _) (fun m _ w9=>(hf m w9).wh o.dst) ?_);rw [<-hn];cases o.dst <;> rfl
 unfold ED at h;split at h
 ·rename_i hg;exact one h zq (fun _ hm=>hm) rfl (um hg)
 ·rename_i j want hg;split at h
  ·simp at h
  ·rename_i t hdt;rw [XN] at hdt;split at h
   ·rename_i b hb;have hw:=VS (o:=o) (a:=a) hg hdt (Cu zq hb)
    cases hm:yD j opened with
    | true=>
     rw [hm] at h;simp only [zD] at h
     cases OR:(b == want) with
     | true=>
      rw [OR] at h hw
      exact one h zq (fun _ hm=>hm) rfl hw
     | false=>
      rw [OR] at h hw
      exact skip h zq (fun _ hm=>hm) rfl hw
    | false=>
     rw [hm] at h;simp only [zW] at h;have Gf:=Uz zq hb
     cases b with
     | true=>
      simp only [zD] at h
      cases want with
      | true=>exact one h Gf (fun m hf=>hf.set t (by simp [z7.ids])) rfl hw
      | false=>exact skip h Gf (fun m hf=>hf.set t (by simp [z7.ids])) rfl hw
     | false=>
      simp only [zW] at h
      cases want with
      | true=>exact skip h Gf (fun m hf=>hf.set t (by simp [z7.ids])) rfl hw
      | false=>exact one h Gf (fun m hf=>hf.set t (by simp [z7.ids])) rfl hw
   ·cases hmu:yD t gF with
    | false=>rw [hmu] at h;simp at h
    | true=>
     rw [hmu] at h;simp only [zD] at h;exact skip h zq (fun _ hm=>hm) rfl (Pd hg hdt (YO t (Ki.1 hmu)))
   ·simp at h
theorem F6:{n:Nat}->{l:List Nat}->l.Nodup->(∀ x∈l,x < n)->l.length<=n
 | 0,l,_,hl=>by
  cases l with
  | nil=>simp
  | cons x l=>have:=hl x (by simp);omega
 | n+1,l,h,hl=>by
  have h1:=F6 (n:=n) (h.erase n) (fun x hx=>by
   have h2:=(h.mem_erase_iff).1 hx;have:=hl x h2.2;have:=h2.1;omega)
  rw [List.length_erase] at h1;split at h1 <;> omega
theorem Nv (hc:ub P c) {ops:Array Oper} {Q:Exit->Act->World->Prop} (hp:E9 ops) (hQ:∀ c a w,¬ Q (.panic c) a w) {base:Nat} :
  (n:Nat)->{done opened gF:List Nat}->{listed:Array Bool}->{J:St}->{g:z8}->{a:Act}->{w:World}->{k:St->Option R}->{r:R}->{fuel:Nat}->Lw c base (pQ ops.toList) (zT 0 ops.toList) n done opened gF J k=some r->
  zK c.ntmps g w a J->Und a gF->Rel ops listed done->(∀ x∈done,x < ops.size)->done.Nodup->fuel+done.length=ops.size->(∀ i,i < ops.size->i∉done->∀ m,base+8*i<=m->m < base+8*i+8->zY g J m)->
  (∀ J' g' a' w',k J'=some r->zK c.ntmps g' w' a' J'->Ext w g w' g'->(∀ m,(∀ i,i < ops.size->m < base+8*i\/base+8*i+8<=m)->zY g J m->zY g' J' m)->J'.next=J.next->Q .normal a' w')->
  Xn true P .any ops Q fuel listed a w
 | 0,_,_,_,_,_,_,_,_,_,_,_,h,_,_,_,_,_,_,_,_=>by simp [Lw] at h
 | n+1,done,opened,gF,listed,J,g,a,w,k,r,fuel,h,zq,YO,hr,hd,hnd,hfu,vQ,hK=>by
  have step:∀ (i:Nat) (o:Oper),(i,o)∈zT 0 ops.toList->i∉done->ED c (pQ ops.toList) (base+8*i) o opened gF J (fun opened gF J=>Lw c base (pQ ops.toList) (zT 0 ops.toList) n (i :: done) opened gF J k)=some r->
    ∃ f,fuel=f+1/\i < ops.size/\ops[i]? = some o/\ql true P ops Q o (fun a' w'=>Xn true P .any ops Q f (listed.setIfInBounds i true) a' w') a w:=by
   intro i o hm hi h;have hio:=vd _ hm;have qJ:i < ops.size:=pc hio;have hd':∀ x∈i :: done,x < ops.size:=by
    intro x hx;rcases gX.1 hx with rfl | hx
    ·exact qJ
    ·exact hd x hx
   have zkr:(i :: done).Nodup:=Z2s.2 ⟨hi,hnd⟩;have hle:=F6 zkr hd';simp only [GO] at hle;obtain ⟨f,rfl⟩:∃ f,fuel=f+1:=⟨fuel-1,by omega⟩;refine ⟨f,rfl,qJ,hio,Rh (b0:=base+8*i) hc h zq YO (vQ i qJ hi) (fun op1 un1 J1 g1 a1 w1 h1 yC zst yP Q7 Zo=>?_)⟩;refine Nv hc hp hQ n h1 yC zst hr.add hd' zkr (by simp only [GO];omega) (fun j hj hjd m q1 q2=>?_) (fun J2 g2 a2 w2 h2 wY w3 Gl Xq=>?_)
   ·have vI:j≠i:=fun he=>hjd (by simp [he])
    exact Q7 m (by omega) (vQ j hj (fun hx=>hjd (by simp [hx])) m q1 q2)
   ·exact hK J2 g2 a2 w2 h2 wY (yP.trans w3) (fun m hm hf=>Gl m hm (Q7 m (hm i qJ) hf)) (Xq.trans Zo)
  simp only [Lw] at h;split at h
  ·rename_i i o Zm;obtain ⟨hm,hi,hat⟩:=UM Zm;obtain ⟨f,rfl,qJ,hio,hL⟩:=step i o hm hi h;exact z5d hp hQ hio hr hd hi hat hL (fun a' w' hh=>hh)
  ·split at h
   ·rename_i hra;have Zn:Region.ready .any ops listed=[]:=by
     rw [Z5e];intro j hj;obtain ⟨_,o,xG,_⟩:=mem_ready.1 hj;have h1:=(wP hr hd xG).1 hj;have:(j,o)∈gx done (zT 0 ops.toList):=wO.2 ⟨jU xG,h1.1,h1.2⟩;rw [hra] at this;simp at this
    have hq:=hK J g a w h zq (Ext.refl _ _) (fun m _ hf=>hf) rfl
    cases fuel with
    | zero=>exact ⟨Zn,hq⟩
    | succ f=>exact ⟨fun _=>hq,fun i hi=>by rw [Zn] at hi;simp at hi⟩
   ·rename_i x l hra;have hall:=I6 h;have qL:∀ i o,(i,o)∈gx done (zT 0 ops.toList)->∃ f,fuel=f+1/\i < ops.size/\ops[i]? = some o/\ql true P ops Q o (fun a' w'=>Xn true P .any ops Q f (listed.setIfInBounds i true) a' w') a w:=by
     intro i o hm;obtain ⟨h1,h2,_⟩:=wO.1 hm;refine step i o h1 h2 (hall _ ?_);rw [<-hra];exact Jo.2 ⟨(i,o),hm,rfl⟩
    obtain ⟨xi,xo⟩:=x;obtain ⟨f,rfl,_⟩:=qL xi xo (by rw [hra];simp);refine ⟨fun h0=>?_,fun j hj=>?_⟩
    ·obtain ⟨h1,h2,h3⟩:=wO.1 (show (xi,xo)∈gx done (zT 0 ops.toList) by rw [hra];simp);have:=(wP hr hd (vd _ h1)).2 ⟨h2,h3⟩;rw [h0] at this;cases this
    ·obtain ⟨_,o,xG,_⟩:=mem_ready.1 hj;have h1:=(wP hr hd xG).1 hj;obtain ⟨f',WV,qJ,hio,hL⟩:=qL j o (wO.2 ⟨jU xG,h1.1,h1.2⟩);have:f'=f:=by omega
     subst this;exact hL.wpOp hio
theorem H4 {q:Bool} (hc:ub P c) (hm:P.follows .mixedOrders=true) {id:Nat} {ops:Array Oper} {Q:Exit->Act->World->Prop} {J:St} {g:z8} {a:Act} {w:World} {k:St->Option R} {r:R}
  (hQ:∀ c a w,¬ Q (.panic c) a w) (zR:Gv q ops.toList=true) (h:M5 q c ops.toList (Be q ops.toList) J k=some r) (zq:zK c.ntmps g w a J) (hf:qY g J)
  (hK:∀ J' g' a' w',k J'=some r->zK c.ntmps g' w' a' J'->Ext w g w' g'->qY g' J'->(∀ s,(∀ o∈ops.toList,o.dst≠some s)->a'.tmps[s]? = a.tmps[s]?)->Q .normal a' w'):(Code.region id ops true).wp P Q a w:=by
 have hQ1:∀ c a' w,¬ M7 ops a Q (.panic c) a' w:=fun c a' w h=>hQ c a' w (h (by simp))
 simp only [Gv,zA] at zR;have hnd:=JO zR.2;have hp:=Ef zR.1;have hmem:∀ x∈Be q ops.toList,x∈zT 0 ops.toList:=fun x hx=>UU x hx
 refine wp_region_any hm (uW (a0:=a) _ _ _ _ (fun _ _=>rfl) (V0 _ _ _ _ (Em hp hQ1 _ (fun x hx=>vd _ (hmem x hx)) ?_ Rel.start (by simp) zR.2 ?_)))
 ·have:=UX (q:=q) (dst:=pQ ops.toList) (all:=zT 0 ops.toList) ops.toList.length [];simpa [Be] using this
 ·have he:({ w with drawn:=w.drawn+1 }:World).heap=w.heap:=rfl;refine M4 hc (fun x hx=>QI (hmem x hx)) hnd.1 h (zq.VJ he) hf (fun J' g' a' w' hk qP gD WV=>?_);exact fun pL=>hK J' g' a' w' hk qP ((Ext.VJ (g:=g) he rfl rfl rfl (Z1o _)).trans gD) WV (pL rfl)
theorem O8 (hc:ub P c) (hm:P.follows .mixedOrders=true) {id:Nat} {ops:Array Oper} {draw:Bool} {Q:Exit->Act->World->Prop} {J:St} {g:z8} {a:Act} {w:World} {k:St->Option R} {r:R}
  (hQ:∀ c a w,¬ Q (.panic c) a w) (h:CU c ops draw J k=some r) (zq:zK c.ntmps g w a J) (hf:qY g J)
  (hK:∀ J' g' a' w',k J'=some r->zK c.ntmps g' w' a' J'->Ext w g w' g'->qY g' J'->(∀ s,(∀ o∈ops.toList,o.dst≠some s)->a'.tmps[s]? = a.tmps[s]?)->Q .normal a' w'):(Code.region id ops draw).wp P Q a w:=by
 have hQ1:∀ c a' w,¬ M7 ops a Q (.panic c) a' w:=fun c a' w h=>hQ c a' w (h (by simp))
 unfold CU at h
 cases draw with
 | false=>
  simp only [zW] at h;have hL:=M4 (K:=fun a' w'=>(∀ s,(∀ o∈ops.toList,o.dst≠some s)->a'.tmps[s]? = a.tmps[s]?)->Q .normal a' w') (Q:=Q) hc (fun x hx=>QI hx) (UC _ _) h zq hf hK;refine z4t (Pb (fun a' w' hh=>hh.2 fun s hs=>hh.1 s fun x hx=>hs x.2 ?_) _ _ _ (Aa _ _ _ hL));have:=vd x hx;obtain ⟨qJ,he⟩:=Z28.1 this
  rw [<-he];simp
 | true=>
  simp only [zD] at h
  cases FJ:Gv true ops.toList with
  | true=>
   rw [FJ] at h;simp only [zD] at h
   exact H4 hc hm hQ FJ h zq hf hK
  | false=>
  rw [FJ] at h;simp only [zW] at h
  cases zR:(Gv false ops.toList && !D3 c J (zT 0 ops.toList)) with
  | false=>
   rw [zR] at h;simp only [zW] at h;obtain ⟨AK,h⟩:=z1i h;have hp:=Ef AK;have he:({ w with drawn:=w.drawn+1 }:World).heap=w.heap:=rfl;refine wp_region_any hm (uW (a0:=a) _ _ _ _ (fun _ _=>rfl) (V0 (q:=true) _ _ _ _ ?_));refine Nv (base:=J.next) hc hp hQ1 _ h (zq.VJ he) (by intro s hs;simp at hs) Rel.start (by simp) (by simp) (by simp) (fun i hi _ m q1 q2=>hf m (by omega)) (fun J' g' a' w' hk qP gD WV IH=>?_);refine fun pL=>hK _ g' a' w' hk ⟨qP.zj,qP.heap,qP.size,qP.defers,qP.known⟩ ((Ext.VJ (g:=g) he rfl rfl rfl (Z1o _)).trans gD) (fun m hm=>?_) (pL rfl)
   have Xy:J.next+8*ops.toList.length<=m:=hm;have:=WV m (fun i hi=>.inr (by have:i < ops.toList.length:=(by simpa using hi);omega)) (hf m (by omega))
   exact ⟨this.z6,this.row,this.box,this.zj,this.cells⟩
  | true=>
   rw [zR] at h;simp only [zD] at h;exact H4 hc hm hQ (Bool.and_eq_true_iff.1 zR).1 h zq hf hK
end
end Go.Kz
namespace Go.Kz
variable {R:Type}
section
variable {n:Nat} {w:World} {a:Act} {g:z8} {J:St} {k:St->Option R} {r:R}
theorem jQ.z7e {g':z8} {J':St} (h:jQ g J.z6 g' J'.z6) (hs:J'.zj=J.zj) (hn:J'.next=J.next) (hf:qY g J):qY g' J':=
 fun m hm=>h.fresh hs (hf m (by rw [<-hn];exact hm))
theorem qY.ids {i:Nat} {av:z7} (hf:qY g J) (h:J.zj i=some av):∀ m,J.next<=m->m∉av.ids:=fun m hm=>(hf m hm).zj i av h
structure z2g (w:World) (g:z8) (J:St) (x:z7) (cs:List Value) (g':z8) (J':St) (x':z7):Prop where
 ok:jV w g' J'.z6 x' cs
 sk:x'.sk=x.sk
 agg:x'.isAgg=x.isAgg
 val:x'.val=true
 ids:∀ m,J'.next<=m->m∉x'.ids
 zj:J'.zj=J.zj
 next:J.next<=J'.next
 cells:∀ id z,J'.z6 id=some (.cell z)->J.z6 id=some (.cell z)/\g'.zt id=g.zt id
theorem Oh {x:z7} {f:z7->St->Option R} {cs:List Value} (zq:zK n g w a J) (hf:qY g J) (hval:x.val=true) (hx:jV w g J.z6 x cs) (gz:∀ m,J.next<=m->m∉x.ids) (h:L1 J x f=some r) :
  ∃ x' J' g',f x' J'=some r/\zK n g' w a J'/\Ext w g w g'/\qY g' J'/\z2g w g J x cs g' J' x':=by
 unfold L1 at h;split at h
 ·rename_i id ep p q;split at h
  ·rename_i t l e zg
   cases hb:Nat.beq e ep with
   | false=>rw [hb] at h;simp at h
   | true=>
    rw [hb] at h;have he:=zE hb;subst he;simp only [zD] at h;obtain ⟨u,rfl,qL,hv⟩:=hx;obtain ⟨_,h0,KY,JW,e1⟩:=(hv _ _ _ zg).2 rfl;let c:Ctx:=⟨0,fun _=>none,fun _=>none,n,fun _=>[],fun _=>none,fun _ _=>none,⟨[],[]⟩,fun _=>none,fun _=>none,fun _=>false,fun _=>false,fun _ _=>none⟩;obtain ⟨yC,yP,Ti⟩:=B5 (c:=c) (e':=e+1) zq zg h0 KY JW (E1 _);refine ⟨_,_,_,h,yC,yP,fun m hm=>Ti m (hf m hm),⟨u,rfl,qL,fun t' l' e' GP=>?_⟩,rfl,rfl,rfl,fun m hm=>gz m hm,rfl,yS _,fun i z hz=>?_⟩
    ·simp only [St.setObj,zN,zI,Obj.row.injEq] at GP;obtain ⟨_,_,rfl⟩:=GP;exact ⟨yS _,fun _=>by simp only [pz,Dn];exact e1⟩
    ·by_cases hi:i=id
     ·subst hi;simp [St.setObj,zN] at hz
     ·simp only [St.setObj] at hz;rw [ze _ _ hi] at hz;exact ⟨hz,rfl⟩
  ·simp at h
 ·exact ⟨_,J,g,h,zq,Ext.refl w g,hf,hx,rfl,rfl,hval,gz,rfl,yS _,fun _ _ hz=>⟨hz,rfl⟩⟩
theorem qY.z6a {t:Ty} (zq:zK n g w a J) (hf:qY g J) (ht:t.zV=true) :
  zK n (pz g J.next (.slice none 0 0)) w a { J.setObj J.next (.row t [] 0) with next:=J.next+1 }/\Ext w g w (pz g J.next (.slice none 0 0))/\
   qY (pz g J.next (.slice none 0 0)) { J.setObj J.next (.row t [] 0) with next:=J.next+1 }:=by
 have qP:zK n (pz g J.next (.slice none 0 0)) w a (J.setObj J.next (.row t [] 0)):=by
  refine zq.p9 ⟨fun b hb=>⟨hb,rfl⟩⟩ (fun i hi=>Qx hi) (.inr (hf _ (yS _))) ?_ zq.heap.tags;exact ⟨ht,none,0,by simp [pz],by simp [pz],yS _,jE _,.inl ⟨rfl,rfl,rfl⟩⟩
 refine ⟨⟨qP.zj,qP.heap,qP.size,qP.defers,qP.known⟩,⟨rfl,rfl,rfl,yS _,yS _,fun b _ _=>⟨rfl,rfl⟩⟩,fun m hm=>?_⟩;have Xy:J.next+1<=m:=hm;have:=zY.p9 (g:=g) (g':=pz g J.next (.slice none 0 0)) (o:=.row t [] 0) (id:=J.next) (fun b=>.inl rfl) (by omega) (by simp) (hf m (by omega));exact ⟨this.z6,this.row,this.box,this.zj,this.cells⟩
theorem H7 {x:z7} {cv:Conv} {f:z7->St->Option R} {cs:List Value} (zq:zK n g w a J) (hf:qY g J) (hval:x.val=true) (hx:jV w g J.z6 x cs) (gz:∀ m,J.next<=m->m∉x.ids) (h:XT J x cv f=some r) :
  ∃ x' J' g',f x' J'=some r/\zK n g' w a J'/\Ext w g w g'/\qY g' J'/\z2g w g J x cs g' J' x':=by
 cases cv with
 | row t=>
  simp only [XT] at h;split at h
  ·cases ht:t.zV with
   | false=>rw [ht] at h;simp at h
   | true=>
    rw [ht] at h;simp only [zD] at h;obtain ⟨h1,h2,h3⟩:=qY.z6a zq hf ht;have Gd:cs=[.slice none 0 0]:=hx;subst Gd;refine ⟨_,_,_,h,h1,h2,h3,⟨_,rfl,rfl,fun t' l' e' GP=>?_⟩,rfl,rfl,rfl,fun m hm=>?_,rfl,Z1o _,fun i z hz=>?_⟩
    ·simp only [St.setObj,zN,zI,Obj.row.injEq] at GP;obtain ⟨_,_,rfl⟩:=GP;exact ⟨yS _,fun _=>by simp [pz]⟩
    ·simp only [z7.ids,EY];have Xy:J.next+1<=m:=hm;omega
    ·by_cases hi:i=J.next
     ·subst hi;simp [St.setObj,zN] at hz
     ·simp only [St.setObj] at hz;rw [ze _ _ hi] at hz;exact ⟨hz,rfl⟩
  ·exact Oh zq hf hval hx gz h
 | dat t=>
  simp only [XT] at h
  cases hb:(t.zV && x.val && x.sk.same t.sk) with
  | false=>rw [hb] at h;simp at h
  | true=>
   rw [hb] at h;simp only [zD] at h;simp only [zA] at hb;have w7:=Sk.qw hb.2;obtain ⟨d,J',g',hk,hs,hn,AW,zX⟩:=kA 20 zq.heap hx hb.1.1 h;refine ⟨_,J',g',hk,AW.st hs zq,AW.ext,AW.z7e hs hn hf,⟨hb.1.1,zX⟩,w7.symm,?_,rfl,fun m _=>by simp [z7.ids],hs,by rw [hn];exact yS _,fun i z hz=>?_⟩
   ·rw [(w6 hval).1,w7];rfl
   ·rcases AW.z6 i with e | e
    ·rw [<-e];exact ⟨hz,by rw [AW.zt]⟩
    ·rw [e] at hz;simp at hz
 | Jq=>simp [XT] at h
theorem EL (l:List Value) (off n:Nat) (h:off+n<=l.length):zU l off (qB l off n)=l:=by
 have hs:(qB l off n).length=n:=yV h;simp only [zU,hs];rw [qB];have h1:l.drop (off+n)=(l.drop off).drop n:=by rw [Ng]
 rw [h1]
 conv=>rhs;rw [<-RU off l,<-RU n (l.drop off)]
 simp
theorem zK.set {i:Nat} {x:z7} {v:Value} (zq:zK n g w a J) (hv:a.tmps[i]? = some v) (hx:zl w g J.z6 x v):zK n g w a (J.set i x):=by
 refine ⟨fun j y hj=>?_,zq.heap,zq.size,zq.defers,zq.known⟩;simp only [St.set,KK] at hj
 cases hb:Nat.beq j i with
 | true=>
  rw [hb] at hj;simp only [zD,zI] at hj;subst hj;have:=zE hb;subst this
  exact ⟨v,hv,hx⟩
 | false=>rw [hb] at hj;exact zq.zj j y hj
theorem z1k {id:Nat} {x x':z7} (zq:zK n g w a J) (zg:J.z6 id=some (.cell x)) (w7:x'.sk=x.sk)
  (zR:∃ c e,w.heap[g.zt id]? = some (.cells c e (0,0))/\g.tag (g.zt id) = .box id/\jV w g J.z6 x' c.toList):zK n g w a (J.setObj id (.cell x')):=by
 have hk:qz g g id (J.z6 id) (some (.cell x')):=.inr (.inr (.inl ⟨x,x',zg,rfl,w7,rfl⟩));refine zq.p9 ⟨fun b hb=>⟨hb,rfl⟩⟩ (fun i hi=>⟨⟨fun _=>rfl,fun _ b hb=>⟨hb,rfl⟩⟩,rfl,fun hb=>⟨hb,rfl⟩⟩) (.inl hk) ?_ zq.heap.tags;obtain ⟨c,e,h1,h2,h3⟩:=zR;refine zm.mk ⟨c,e,h1,h2,?_⟩;refine jV.frame ⟨fun b hb=>⟨hb,rfl⟩⟩ (fun i _=>?_) h3;by_cases hi:i=id
 ·subst hi;simp only [St.setObj,zN];exact hk
 ·simp only [St.setObj];rw [ze _ _ hi];exact qz.refl g i _
theorem L3 {id m:Nat} {x x':z7} (hf:zY g J m) (zg:J.z6 id=some (.cell x)) (hx:m∉x'.ids):zY g (J.setObj id (.cell x')) m:=by
 have hm:m≠id:=by intro he;subst he;have:=hf.z6;rw [zg] at this;simp at this
 refine ⟨by simp only [St.setObj];rw [ze _ _ hm];exact hf.z6,hf.row,hf.box,hf.zj,fun i y hi=>?_⟩;by_cases he:i=id
 ·subst he;simp only [St.setObj,zN,zI,Obj.cell.injEq] at hi;subst hi;exact hx
 ·simp only [St.setObj] at hi;rw [ze _ _ he] at hi;exact hf.cells i y hi
theorem Bl (i:Nat) (p:Path) (cv:Conv) (l:List (Nat×Option Path×Conv))
  (ih:∀ {g:z8} {J:St} {k:St->Option R},zK n g w a J->qY g J->Jl l J k=some r->∃ J' g',k J'=some r/\zK n g' w a J'/\Ext w g w g'/\qY g' J')
  (hcv:cv≠.Jq) {g:z8} {J:St} {k:St->Option R} (zq:zK n g w a J) (hf:qY g J) (h:Jl ((i,some p,cv) :: l) J k=some r) :
  ∃ J' g',k J'=some r/\zK n g' w a J'/\Ext w g w g'/\qY g' J':=by
  have h:(match J.zj i with
   | some (.zu id _)=>YQ J id p fun a=>cond a.val (XT J a cv fun a J=>YQ J id [] fun whole=>uU a whole p fun whole=>Jl l (J.setObj id (.cell whole)) k) none
   | _=>none)=some r:=by
   cases cv with
   | Jq=>exact absurd rfl hcv
   | row u=>exact h
   | dat u=>exact h
  split at h
  ·rename_i id q hx;obtain ⟨y,y',off,cc,e,zg,h,ju,zQ,zH,qK,hall,Qi,gz⟩:=Ac zq.heap h;have hym:∀ m,J.next<=m->m∉y'.ids:=fun m hm=>gz m ((hf m hm).cells id y zg)
   cases hval:y'.val with
   | false=>rw [hval] at h;simp at h
   | true=>
    rw [hval] at h;simp only [zD] at h;obtain ⟨x',J1,g1,h,yC,yP,Q7,ht⟩:=H7 zq hf hval Qi hym h;obtain ⟨z,z',zpp,cc2,e2,Ql,h,zah,ZL,BE,gJ,zly,TH,zl8⟩:=Ac yC.heap h;have IM:=ZL;have TA:=BE;obtain ⟨hz,hblk⟩:=ht.cells id z Ql;rw [zg] at hz;simp only [zI,Obj.cell.injEq] at hz;subst hz;rw [hblk,zQ] at ZL;simp only [zI,Go.Obj.cells.injEq] at ZL;obtain ⟨rfl,_,_⟩:=ZL;simp only [Sk.off,zI,gB] at zah;obtain ⟨rfl,Gc⟩:=zah;have hz':jV w g1 J1.z6 z' cc.toList:=by
     have hl:z'.sk.size=cc.toList.length:=by rw [<-Gc,<-zly.len]
     rw [hl,kU] at TH;exact TH
    rw [Gc,<-ht.sk] at ju;obtain ⟨w',hk,hws,z6l,zjt⟩:=QV ht.ok hz' ju h;rw [EL _ _ _ (by rw [vX];exact qK)] at z6l;obtain ⟨J2,g2,h2,wY,w3,Gl⟩:=ih (z1k yC Ql (hws.trans Gc.symm) ⟨_,_,IM,TA,z6l⟩)
     (fun m hm=>L3 (Q7 m hm) Ql (zjt m (zl8 m ((Q7 m hm).cells _ _ Ql)) (ht.ids m hm))) hk
    exact ⟨J2,g2,h2,wY,yP.trans w3,Gl⟩
  ·simp at h
theorem Z7:(l:List (Nat×Option Path×Conv))->{g:z8}->{J:St}->{k:St->Option R}->zK n g w a J->qY g J->Jl l J k=some r->
  ∃ J' g',k J'=some r/\zK n g' w a J'/\Ext w g w g'/\qY g' J'
 | [],g,J,k,zq,hf,h=>⟨J,g,h,zq,Ext.refl w g,hf⟩
 | (i,none,cv) :: l,g,J,k,zq,hf,h=>by
  simp only [Jl] at h;split at h
  ·rename_i x hx;obtain ⟨v,hv,zR⟩:=zq.zj i x hx
   cases hval:x.val with
   | false=>rw [hval] at h;simp at h
   | true=>
    rw [hval] at h;simp only [zD] at h;obtain ⟨vl,Zo,Xq,OH⟩:=w6 hval;obtain ⟨cs,pN,Qj⟩:=wc zR OH;obtain ⟨x',J1,g1,h,yC,yP,Q7,ht⟩:=H7 zq hf hval pN (hf.ids hx) h;obtain ⟨_,hm1,hm2,_⟩:=w6 ht.val;have OX:zl w g1 J1.z6 x' v:=yA ht.ok (by rw [ht.agg];exact Qj) hm1 hm2;obtain ⟨J2,g2,h2,wY,w3,Gl⟩:=Z7 l (yC.set hv OX) (fun m hm=>(Q7 m hm).set i (ht.ids m hm)) h;exact ⟨J2,g2,h2,wY,yP.trans w3,Gl⟩
  ·simp at h
 | (i,some p,.Jq) :: l,g,J,k,zq,hf,h=>by
  simp only [Jl,zb1] at h;split at h
  ·rename_i id q hx;split at h
   ·exact Z7 l zq hf h
   ·rename_i x _ ho
    cases gA:(z7.jC x).wg with
    | false=>rw [gA] at h;simp at h
    | true=>
    rw [gA] at h;simp only [zD] at h;obtain ⟨g1,h1,h2,h2r,h3,h4⟩:=N8 zq ho gA;obtain ⟨J2,g2,k1,k2,k3,k4⟩:=Z7 l h1 (fun m hm=>h3 m (hf m hm)) h;exact ⟨J2,g2,k1,k2,h2.trans k3,k4⟩
   ·simp at h
  ·simp at h
 | (i,some p,.row u) :: l,g,J,k,zq,hf,h=>Bl i p (.row u) l (fun {_ _ _} a b c=>Z7 l a b c) (by simp) zq hf h
 | (i,some p,.dat u) :: l,g,J,k,zq,hf,h=>Bl i p (.dat u) l (fun {_ _ _} a b c=>Z7 l a b c) (by simp) zq hf h
theorem Wz {cut:Cut} {k:List (Nat×z7)->List Obj->Option R} (zq:zK n g w a J) (hf:qY g J) (h:GW cut J k=some r) :
  ∃ sl os g',k sl os=some r/\zK n g' w a (St.of sl os)/\Ext w g w g'/\qY g' (St.of sl os):=by
 obtain ⟨J1,g1,h,yC,yP,Q7⟩:=Z7 cut.conv zq hf h;split at h
 ·rename_i l hl;obtain ⟨sl,os,g2,h2,wY,w3,Gl⟩:=Su (QR hl) yC h;exact ⟨sl,os,g2,h2,wY,yP.trans w3,Gl⟩
 ·simp at h
theorem YE {cut:Cut} (zq:zK n g w a J) (hf:qY g J) (h:norm cut J k=some r) :
  ∃ J' g',k J'=some r/\zK n g' w a J'/\Ext w g w g'/\qY g' J':=by
 obtain ⟨sl,os,g',h1,h2,h3,h4⟩:=Wz zq hf h;exact ⟨_,g',h1,h2,h3,h4⟩
end
end Go.Kz
namespace Go.Kz
variable {R:Type}
def vp.to:vp->Exit
 | .normal=>.normal
 | .exit i=>.exit i
 | .ret=>.ret
def Cq (s:Nat):List Oper->Bool
 | []=>false
 | o :: l=>(match o.dst with
  | some d=>Nat.beq d s
  | none=>false) || Cq s l
def wrote (s:Nat):Code->Bool
 | .region _ ops _=>Cq s ops.toList
 | .seq a b=>wrote s a || wrote s b
 | .cond _ a b=>wrote s a || wrote s b
 | .block _ b=>wrote s b
 | .loop b=>wrote s b
 | _=>false
theorem AT {s:Nat}:{l:List Oper}->Cq s l=false->∀ o∈l,o.dst≠some s
 | [],_,o,h=>by simp at h
 | x :: l,hw,o,h=>by
  simp only [Cq,VH] at hw;rcases gX.1 h with rfl | h
  ·intro hd;have h1:=hw.1;rw [hd] at h1;simp only [Lu] at h1;cases h1
  ·exact AT hw.2 o h
def Kept (b:Code) (a a':Act):Prop:=∀ s,wrote s b=false->a'.tmps[s]? = a.tmps[s]?
def z2j (n:Nat) (g:z8) (w:World) (k:vp->St->Option R) (r:R) (F:Act->Prop) (Q:Exit->Act->World->Prop):Prop:=
 ∀ e J' g' a' w',k e J'=some r->zK n g' w' a' J'->Ext w g w' g'->qY g' J'->F a'->Q e.to a' w'
theorem z2j.later {n:Nat} {g g':z8} {w w':World} {k:vp->St->Option R} {r:R} {F F':Act->Prop} {Q:Exit->Act->World->Prop} (h:z2j n g w k r F Q) (he:Ext w g w' g') (hF:∀ a,F' a->F a):z2j n g' w' k r F' Q:=
 fun e J' g2 a' w2 hk zq qM hf hF'=>h e J' g2 a' w2 hk zq (he.trans qM) hf (hF a' hF')
section
variable {P:Program} {c:Ctx}
theorem wa (hc:ub P c) (hm:P.follows .mixedOrders=true):(code:Code)->(∀ b∈yU code,Zf c b)->{J:St}->{g:z8}->{a:Act}->{w:World}->{k:vp->St->Option R}->{r:R}->{Q:Exit->Act->World->Prop}->
  (∀ ch a w,¬ Q (.panic ch) a w)->jh c code J k=some r->zK c.ntmps g w a J->qY g J->z2j c.ntmps g w k r (Kept code a) Q->code.wp P Q a w
 | .skip,_,J,g,a,w,k,r,Q,_,h,zq,hf,hk=>Go.wp_skip (hk .normal J g a w h zq (Ext.refl _ _) hf (fun _ _=>rfl))
 | .region id ops draw,_,J,g,a,w,k,r,Q,hQ,h,zq,hf,hk=>O8 hc hm hQ h zq hf (fun J' g' a' w' h' qP gD WV hkp=>hk .normal J' g' a' w' h' qP gD WV (fun s hs=>hkp s (AT hs)))
 | .seq x y,WJ,J,g,a,w,k,r,Q,hQ,h,zq,hf,hk=>by
  simp only [jh] at h;refine wp_seq (wa hc hm x (fun b hb=>WJ b (by simp [yU,hb])) (Q:=Exit.then (y.wp P Q) Q) hQ h zq hf ?_);intro e J1 g1 a1 w1 h1 yC yP Q7 z6w;have hy:∀ a',Kept y a1 a'->Kept (.seq x y) a a':=fun a' h s hs=>by
   simp only [wrote,VH] at hs;rw [h s hs.2,z6w s hs.1]
  have hx:Kept (.seq x y) a a1:=fun s hs=>by
   simp only [wrote,VH] at hs;exact z6w s hs.1
  cases e with
  | normal=>
   simp only [z6h,z6j] at h1;show y.wp P Q a1 w1;split at h1
   ·obtain ⟨J2,g2,h2,wY,w3,Gl⟩:=YE yC Q7 h1;exact wa hc hm y (fun b hb=>WJ b (by simp [yU,hb])) hQ h2 wY Gl (hk.later (yP.trans w3) hy)
   ·exact wa hc hm y (fun b hb=>WJ b (by simp [yU,hb])) hQ h1 yC Q7 (hk.later yP hy)
  | exit i=>exact hk (.exit i) J1 g1 a1 w1 h1 yC yP Q7 hx
  | ret=>exact hk .ret J1 g1 a1 w1 h1 yC yP Q7 hx
 | .cond x p q,WJ,J,g,a,w,k,r,Q,hQ,h,zq,hf,hk=>by
  simp only [jh] at h;split at h
  ·rename_i t ht;have hv:=ua (qG zq ht).1;refine wp_cond hv ?_
   cases t with
   | true=>exact wa hc hm p (fun b hb=>WJ b (by simp [yU,hb])) hQ h zq hf (hk.later (Ext.refl _ _) fun a' h s hs=>h s (by simp only [wrote,VH] at hs;exact hs.1))
   | false=>exact wa hc hm q (fun b hb=>WJ b (by simp [yU,hb])) hQ h zq hf (hk.later (Ext.refl _ _) fun a' h s hs=>h s (by simp only [wrote,VH] at hs;exact hs.2))
  ·simp at h
 | .block id b,WJ,J,g,a,w,k,r,Q,hQ,h,zq,hf,hk=>by
  simp only [jh] at h;refine wp_block (wa hc hm b (fun b' hb=>WJ b' (by simp [yU,hb])) (Q:=Exit.inBlock id Q) hQ h zq hf ?_);intro e J1 g1 a1 w1 h1 yC yP Q7 z6w;have hx:Kept (.block id b) a a1:=z6w
  cases e with
  | normal=>exact hk .normal J1 g1 a1 w1 h1 yC yP Q7 hx
  | exit i=>
   simp only [Tg] at h1;simp only [vp.to,Exit.inBlock]
   cases hb:Nat.beq i id with
   | true=>
    rw [hb] at h1;rw [yW (zE hb)]
    exact hk .normal J1 g1 a1 w1 h1 yC yP Q7 hx
   | false=>
    rw [hb] at h1;rw [qQ (fun he=>by subst he;rw [Lu] at hb;simp at hb)]
    exact hk (.exit i) J1 g1 a1 w1 h1 yC yP Q7 hx
  | ret=>exact hk .ret J1 g1 a1 w1 h1 yC yP Q7 hx
 | .loop b,WJ,J,g,a,w,k,r,Q,hQ,h,zq,hf,hk=>by
  simp only [jh] at h;split at h
  ·rename_i rg ZH;split at h
   ·rename_i lv hlv;split at h
    ·rename_i L hL;obtain ⟨sl0,os0,g0,h,Gf,Ts,hf0⟩:=Wz zq hf h;have h:=WJ b (by simp [yU]) rg lv L ZH hlv hL R sl0 os0 k r h;refine wp_loop_rounds c.fuel ?_;have rounds:∀ (n:Nat) {sl:List (Nat×z7)} {os:List Obj} {g1:z8} {a1:Act} {w1:World},QO (jh c b) lv n sl os (Qb c rg k)=some r->zK c.ntmps g1 w1 a1 (St.of sl os)->qY g1 (St.of sl os)->Ext w g w1 g1->Kept b a a1->Code.rounds P b Q n a1 w1:=by
      intro n
      induction n with
      | zero=>intro sl os g1 a1 w1 h;simp [QO] at h
      | succ n ih=>
      intro sl os g1 a1 w1 h zq hf qM hkp;simp only [QO] at h;rw [rounds_succ];refine wa hc hm b (fun b' hb=>WJ b' (by simp [yU,hb])) (Q:=Exit.then (Code.rounds P b Q n) Q) hQ h zq hf ?_;intro e J2 g2 a2 w2 h2 wY w3 Gl ztv;have hx:Kept (.loop b) a a2:=fun s hs=>(ztv s hs).trans (hkp s hs)
      cases e with
      | normal=>
       obtain ⟨sl3,os3,g3,h3,IC,FA,hf3⟩:=Wz wY Gl h2
       exact ih h3 IC hf3 ((qM.trans w3).trans FA) hx
      | exit i=>
       simp only [Qb] at h2;split at h2
       ·obtain ⟨J3,g3,h3,IC,FA,hf3⟩:=YE wY Gl h2;exact hk (.exit i) J3 g3 a2 w2 h3 IC ((qM.trans w3).trans FA) hf3 hx
       ·simp at h2
      | ret=>
       simp only [Qb] at h2;obtain ⟨J3,g3,h3,IC,FA,hf3⟩:=YE wY Gl h2;exact hk .ret J3 g3 a2 w2 h3 IC ((qM.trans w3).trans FA) hf3 hx
     exact rounds c.fuel h Gf hf0 Ts (fun _ _=>rfl)
    ·simp at h
   ·simp at h
  ·simp at h
 | .exit id,_,J,g,a,w,k,r,Q,_,h,zq,hf,hk=>wp_exit (hk (.exit id) J g a w h zq (Ext.refl _ _) hf (fun _ _=>rfl))
 | .ret,_,J,g,a,w,k,r,Q,_,h,zq,hf,hk=>wp_ret (hk .ret J g a w h zq (Ext.refl _ _) hf (fun _ _=>rfl))
 | .goto _,_,_,_,_,_,_,_,_,_,h,_,_,_=>by simp [jh] at h
 | .label _,_,_,_,_,_,_,_,_,_,h,_,_,_=>by simp [jh] at h
 | .scope _,_,_,_,_,_,_,_,_,_,h,_,_,_=>by simp [jh] at h
 | .rangeFunc _ _ _ _,_,_,_,_,_,_,_,_,_,h,_,_,_=>by simp [jh] at h
 | .refuse _,_,_,_,_,_,_,_,_,_,h,_,_,_=>by simp [jh] at h
end
end Go.Kz
namespace Go.Kz
variable {R:Type}
def Ty.wu:Ty->Bool
 | .pair _ _ | .unit=>true
 | _=>false
def Ty.XI:Ty->Bool
 | .sl true t=>t.zV
 | .pair a b=>a.XI && b.XI && b.wu
 | t=>t.zV
structure P1 (g:z8) (BZ:qk) (g':z8) (wy:qk) (ml:List (Option Nat)):Prop where
 sv:g'.sv=g.sv
 zt:g'.zt=g.zt
 z6:∀ i,wy i=BZ i\/wy i=none
 tag:∀ b,g'.tag b=g.tag b\/(g'.tag b = .ro/\∃ id,BZ id≠none/\wy id=none/\some id∉ml/\((∃ p,g.tag b = .row id p)\/g.tag b = .box id))
 mv:∀ i,some i∈ml->BZ i≠none/\wy i=none
 nodup:(ml.filterMap id).Nodup
theorem jQ.shr {g g':z8} {o o':qk} (h:jQ g o g' o'):P1 g o g' o' []:=by
 refine ⟨h.sv,h.zt,h.z6,fun b=>?_,fun i hi=>by simp at hi,by simp⟩;rcases h.tag b with e | ⟨e,id,h1,h2,h3⟩
 ·exact .inl e
 ·exact .inr ⟨e,id,h1,h2,by simp,h3⟩
theorem P1.nil (g:z8) (z6:qk):P1 g z6 g z6 [none]:=⟨rfl,rfl,fun _=>.inl rfl,fun _=>.inl rfl,fun i h=>by simp at h,by simp⟩
theorem P1.ro {g g':z8} {o o':qk} {mv:List (Option Nat)} (h:P1 g o g' o' mv) (w:World):zO w g w g':=by
 refine ⟨fun b hb=>⟨?_,rfl⟩⟩;rcases h.tag b with e | ⟨e,_⟩
 ·rw [e,hb]
 ·exact e
theorem P1.stays {g g':z8} {o o':qk} {mv:List (Option Nat)} (h:P1 g o g' o' mv) (w:World) {id:Nat} (hid:o id=none\/o' id≠none\/some id∈mv):Zj w g w g' id:=by
 have BI:∀ vu,o vu≠none->o' vu=none->some vu∉mv->vu≠id:=by
  intro vu h1 h2 h3 he;subst he;rcases hid with h | h | h
  ·exact h1 h
  ·exact h h2
  ·exact h3 h
 refine ⟨⟨fun q=>by rw [h.sv],fun q b hb=>⟨?_,rfl⟩⟩,by rw [h.zt],fun hb=>⟨?_,rfl⟩⟩
 ·rcases h.tag b with e | ⟨_,vu,h1,h2,h3,ht⟩
  ·rw [e,hb]
  ·rw [hb] at ht;rcases ht with ⟨p,ht⟩ | ht
   ·simp only [Tag.row.injEq] at ht;exact absurd ht.1.symm (BI vu h1 h2 h3)
   ·simp at ht
 ·rcases h.tag (g.zt id) with e | ⟨_,vu,h1,h2,h3,ht⟩
  ·rw [e,hb]
  ·rw [hb] at ht;rcases ht with ⟨p,ht⟩ | ht
   ·simp at ht
   ·simp only [Tag.box.injEq] at ht;exact absurd ht.symm (BI vu h1 h2 h3)
theorem P1.trans {g g' g'':z8} {o o' o'':qk} {m1 m2:List (Option Nat)} (h:P1 g o g' o' m1) (k:P1 g' o' g'' o'' m2):P1 g o g'' o'' (m1++m2):=by
 have Mx:∀ i,o' i≠Option.none->o i≠Option.none:=by
  intro i hi;rcases h.z6 i with e | e
  ·rw [<-e];exact hi
  ·exact absurd e hi
 have zld:∀ i,o' i=Option.none->o'' i=Option.none:=by
  intro i hi;rcases k.z6 i with e | e
  ·rw [e];exact hi
  ·exact e
 refine ⟨k.sv.trans h.sv,k.zt.trans h.zt,fun i=>?_,fun b=>?_,fun i hi=>?_,?_⟩
 ·rcases k.z6 i with e | e
  ·rw [e];exact h.z6 i
  ·exact .inr e
 ·rcases k.tag b with e | ⟨e,id,h1,h2,h3,ht⟩
  ·rcases h.tag b with e2 | ⟨e2,id,h1,h2,h3,ht⟩
   ·exact .inl (e.trans e2)
   ·refine .inr ⟨e.trans e2,id,h1,zld id h2,fun hm=>?_,ht⟩;rcases Gt.1 hm with hm | hm
    ·exact h3 hm
    ·exact absurd h2 (k.mv id hm).1
  ·rcases h.tag b with e2 | ⟨e2,_⟩
   ·rw [e2] at ht;refine .inr ⟨e,id,Mx id h1,h2,fun hm=>?_,ht⟩;rcases Gt.1 hm with hm | hm
    ·exact h1 (h.mv id hm).2
    ·exact h3 hm
   ·rw [e2] at ht;rcases ht with ⟨p,ht⟩ | ht <;> simp at ht
 ·rcases Gt.1 hi with hi | hi
  ·exact ⟨(h.mv i hi).1,zld i (h.mv i hi).2⟩
  ·exact ⟨Mx i (k.mv i hi).1,(k.mv i hi).2⟩
 ·rw [List.filterMap_append,Z4p];refine ⟨h.nodup,k.nodup,fun a ha b hb=>?_⟩;have ha':some a∈m1:=by obtain ⟨x,hx,he⟩:=Z4r.1 ha;simp at he;rw [<-he];exact hx
  have Zg:some b∈m2:=by obtain ⟨x,hx,he⟩:=Z4r.1 hb;simp at he;rw [<-he];exact hx
  intro he;subst he;exact (k.mv a Zg).1 (h.mv a ha').2
theorem P1.kept {w:World} {g g':z8} {o o':qk} {mv:List (Option Nat)} (h:P1 g o g' o' mv) (id:Nat):qz g g' id (o id) (o' id):=by
 rcases h.z6 id with e | e
 ·rw [e];by_cases hn:o' id=Option.none
  ·left;rw [<-e];exact hn
  ·exact qz.same (h.stays w (.inr (.inl hn)))
 ·exact .inl e
theorem P1.heap {w:World} {g g':z8} {o o':qk} {mv:List (Option Nat)} (h:P1 g o g' o' mv) (hh:yZ w g o):yZ w g' o':=by
 refine ⟨fun id x hx=>?_,fun b hb=>?_⟩
 ·have hid:o' id≠Option.none:=by rw [hx];simp
  have Gd:o id=some x:=by
   rcases h.z6 id with e | e
   ·rw [<-e];exact hx
   ·exact absurd e hid
  exact zm.frame (h.ro w) (h.stays w (.inr (.inl hid))) (fun a ha vu _=>h.kept (w:=w) vu) (hh.z6 id x Gd)
 ·refine hh.tags b ?_;rcases h.tag b with e | ⟨e,vu,_,_,_,ht⟩
  ·rw [<-e];exact hb
  ·rcases ht with ⟨p,ht⟩ | ht <;> rw [ht] <;> simp
theorem P1.ext {w:World} {g g':z8} {o o':qk} {mv:List (Option Nat)} (h:P1 g o g' o' mv):Ext w g w g':=by
 refine ⟨rfl,rfl,rfl,yS _,yS _,fun b _ ht=>⟨rfl,?_⟩⟩;rcases h.tag b with e | ⟨_,vu,_,_,_,h2⟩
 ·exact e
 ·rcases h2 with ⟨p,h2⟩ | h2 <;> rw [h2] at ht <;> simp at ht
theorem Tq {g:z8} {J:St} {id:Nat} (hid:J.z6 id≠none):P1 g J.z6 g (J.kill id).z6 [some id]:=by
 refine ⟨rfl,rfl,(vM (g:=g) (J:=J) id hid).z6,fun b=>.inl rfl,fun i hi=>?_,by simp⟩;simp only [EY,zI] at hi;subst hi;exact ⟨hid,by simp [St.kill,KK]⟩
structure Laid (w:World) (g:z8) (mv:List (Option Nat)) (G:z8) (base:Nat):Prop where
 ro:zO w g w G
 row:∀ j i,zF mv j=some (some i)->xZ w g w G i [] (base+j) []
 nil:∀ j,zF mv j=some none->G.sv (base+j) [] = .slice none 0 0
theorem wX {I:Type}:(l m:List I)->(i:Nat)->zF (l++m) i=if i < l.length then zF l i else zF m (i-l.length)
 | [],m,i=>by simp
 | x :: l,m,0=>by simp [zF]
 | x :: l,m,i+1=>by simp [zF,wX l m i]
theorem Laid.left {w:World} {g g' G:z8} {o o':qk} {m1 m2:List (Option Nat)} {base:Nat} (k:P1 g o g' o' m2) (hm:∀ i,some i∈m1->o i=none) (h:Laid w g' (m1++m2) G base):Laid w g m1 G base:=by
 refine ⟨⟨fun b hb=>h.ro.zt b ((k.ro w).zt b hb).1⟩,fun j i hj=>?_,fun j hj=>?_⟩
 ·have qJ:=wj hj;have hx:=h.row j i (by rw [wX,yW qJ];exact hj);have hs:=k.stays w (.inl (hm i (jH hj)));refine ⟨fun q=>(hx.sv q).trans (hs.row.sv q),fun q b hb=>?_⟩;exact hx.zt q b (hs.row.zt q b hb).1
 ·exact h.nil j (by rw [wX,yW (wj hj)];exact hj)
theorem Laid.right {w:World} {g G:z8} {m1 m2:List (Option Nat)} {base:Nat} (h:Laid w g (m1++m2) G base):Laid w g m2 G (base+m1.length):=by
 refine ⟨h.ro,fun j i hj=>?_,fun j hj=>?_⟩
 ·have:=h.row (m1.length+j) i (by rw [wX,qQ (by omega)];rw [Z58];exact hj);rw [<-R4] at this;exact this
 ·have:=h.nil (m1.length+j) (by rw [wX,qQ (by omega)];rw [Z58];exact hj);rw [<-R4] at this;exact this
theorem G9:(t:Ty)->(d:t.den)->(n:Nat)->t.zV=true->zy t d n=(.data t d,[])
 | .sl true t,l,n,h=>by simp [Ty.zV] at h
 | .sl false t,l,n,_=>rfl
 | .int _,_,_,_=>rfl
 | .bool,_,_,_=>rfl
 | .str,_,_,_=>rfl
 | .unit,_,_,_=>rfl
 | .arr _ _,_,_,_=>rfl
 | .ptr _,_,_,_=>rfl
 | .fn _ _,_,_,_=>rfl
 | .tree _,_,_,_=>rfl
 | .pair a b,(x,y),n,h=>by simp only [zy,h,zD]
theorem ZO {w:World} {g:z8} {z6:qk}:(t:Ty)->(d:t.den)->(n:Nat)->{cs:List Value}->t.zV=true->t.wu=true->t.XI=true->zC w g none t d cs->
  jV w g z6 (zy.zc t d n).1 cs/\(zy.zc t d n).2=[]
 | .unit,_,_,cs,_,_,_,h=>⟨h,rfl⟩
 | .pair a b,(x,y),n,cs,h,_,he,hr=>by
  obtain ⟨c1,c2,rfl,h1,h2⟩:=hr;simp only [Ty.zV,zA] at h;simp only [Ty.XI,zA] at he;have ha:=G9 a x n h.1;have hb:=fun n=>ZO (z6:=z6) b y n h.2 he.2 he.1.2 h2
  simp only [zy.zc,ha,He,RG,Zu]
  exact ⟨⟨c1,c2,rfl,⟨h.1,h1⟩,(hb n).1⟩,(hb n).2⟩
 | .int _,_,_,_,_,h,_,_=>by simp [Ty.wu] at h
 | .bool,_,_,_,_,h,_,_=>by simp [Ty.wu] at h
 | .str,_,_,_,_,h,_,_=>by simp [Ty.wu] at h
 | .arr _ _,_,_,_,_,h,_,_=>by simp [Ty.wu] at h
 | .sl _ _,_,_,_,_,h,_,_=>by simp [Ty.wu] at h
 | .ptr _,_,_,_,_,h,_,_=>by simp [Ty.wu] at h
 | .fn _ _,_,_,_,_,h,_,_=>by simp [Ty.wu] at h
 | .tree _,_,_,_,_,h,_,_=>by simp [Ty.wu] at h
structure Jp (w:World) (G:z8) (x:z7×List Obj) (base:Nat) (cs:List Value):Prop where
 ok:∀ O,jV w G O x.1 cs
 z6:∀ O j o,zF x.2 j=some o->zm w G O (base+j) o
theorem z7d {R:Type} {n:Nat} {pt:Bool} {id:Nat} {p:Path} {ep:Nat} {u:Ty} {J:St} {k:u.den->St->Option R} {r:R} (h:j6 n (.nv pt id p ep) u J k=some r):∃ v,u = .sl false v:=by
 cases n with
 | zero=>simp [j6] at h
 | succ n=>
  cases pt with
  | true=>simp [j6] at h
  | false=>
   cases p with
   | cons s q=>simp [j6] at h
   | nil=>
    simp only [j6] at h;split at h
    ·rename_i t l e i ho
     cases hb:Nat.beq e ep with
     | false=>rw [hb] at h;simp at h
     | true=>
      rw [hb] at h;simp only [zD] at h;split at h
      ·exact ⟨_,rfl⟩
      ·simp at h
    ·simp at h
theorem WU {w:World}:(n:Nat)->{a:z7}->{u:Ty}->{J:St}->{g:z8}->{k:u.den->St->Option R}->{r:R}->{cs:List Value}->
  yZ w g J.z6->jV w g J.z6 a cs->u.XI=true->j6 n a u J k=some r->
  ∃ d J' g' mv,k d J'=some r/\J'.zj=J.zj/\J'.next=J.next/\P1 g J.z6 g' J'.z6 mv/\(∀ m,(zy u d m).2.length=mv.length)/\
   (∀ G base,Laid w g' mv G base->Jp w G (zy u d base) base cs)/\
   (u.wu=true->(∀ m,(zy.zc u d m).2.length=mv.length)/\∀ G base,Laid w g' mv G base->Jp w G (zy.zc u d base) base cs)
 | 0,_,_,_,_,_,_,_,_,_,_,h=>by simp [j6] at h
 | n+1,a,u,J,g,k,r,cs,hh,zR,hu,h=>by
  have ro:∀ d J' g',u.zV=true->k d J'=some r->J'.zj=J.zj->J'.next=J.next->P1 g J.z6 g' J'.z6 []->zC w g' none u d cs->
    ∃ d J' g' mv,k d J'=some r/\J'.zj=J.zj/\J'.next=J.next/\P1 g J.z6 g' J'.z6 mv/\(∀ m,(zy u d m).2.length=mv.length)/\
     (∀ G base,Laid w g' mv G base->Jp w G (zy u d base) base cs)/\
     (u.wu=true->(∀ m,(zy.zc u d m).2.length=mv.length)/\∀ G base,Laid w g' mv G base->Jp w G (zy.zc u d base) base cs):=by
   intro d J' g' qv hk h1 h2 h3 zX;refine ⟨d,J',g',[],hk,h1,h2,h3,fun m=>by rw [G9 u d m qv];rfl,fun G base hl=>?_,fun hch=>⟨fun m=>?_,fun G base hl=>?_⟩⟩
   ·rw [G9 u d base qv];exact ⟨fun O=>⟨qv,zX.kept hl.ro⟩,fun O j o hj=>by cases j <;> simp [zF] at hj⟩
   ·rw [(ZO (w:=w) (z6:=fun _=>none) u d m qv hch hu zX).2];rfl
   ·refine ⟨fun O=>(ZO u d base qv hch hu (zX.kept hl.ro)).1,fun O j o hj=>?_⟩;rw [(ZO (w:=w) (z6:=fun _=>none) u d base qv hch hu zX).2] at hj;cases j <;> simp [zF] at hj
  cases qv:u.zV with
  | true=>
   obtain ⟨d,J',g',hk,h1,h2,h3,zX⟩:=kA (n+1) hh zR qv h
   exact ro d J' g' qv hk h1 h2 h3.shr zX
  | false=>
  cases a with
  | data t d=>
   simp only [j6] at h;obtain ⟨_,_,Gh,_⟩:=vV h zR.1
   rw [Gh] at qv;simp at qv
  | qy=>
   simp only [j6] at h;obtain ⟨o,v,rfl,h⟩:=YF h;have WY:cs=[.slice none 0 0]:=zR;subst WY
   cases o with
   | false=>rw [show (Ty.sl false v).zV=true from by simpa [Ty.XI] using hu] at qv;simp at qv
   | true=>
    refine ⟨_,J,g,[none],h,rfl,rfl,P1.nil _ _,fun m=>rfl,fun G base hl=>?_,fun hch=>by simp [Ty.wu] at hch⟩;have qT:=hl.nil 0 rfl;refine ⟨fun O=>⟨_,rfl,rfl,fun t l e _=>⟨jE _,fun _=>qT.symm⟩⟩,fun O j o hj=>?_⟩
    cases j with
    | succ j=>cases j <;> simp [zy,zF] at hj
    | zero=>
     simp only [zy,zF,zI] at hj;subst hj;refine ⟨hu,?_⟩;rw [qT]
     exact ⟨none,0,rfl,qT,yS _,jE _,.inl ⟨rfl,rfl,rfl⟩⟩
  | ref id p ep=>
   cases p with
   | cons s q=>simp [j6] at h
   | nil=>
    simp only [j6] at h;split at h
    ·rename_i t l e ho
     cases hb:Nat.beq e ep with
     | false=>rw [hb] at h;simp at h
     | true=>
      have he:e=ep:=zE hb;subst he;rw [hb] at h;simp only [zD] at h;obtain ⟨v,rfl,_,hv⟩:=zR;have qT:=(hv _ _ _ ho).2 rfl;have zg:=hh.z6 id _ ho;split at h
      ·rename_i v' kk;obtain ⟨he,h⟩:=qS h;simp only [Ty.sl.injEq,VL] at he;subst he;refine ⟨_,J.kill id,g,[some id],h,rfl,rfl,Tq (by rw [ho];simp),fun m=>rfl,fun G base hl=>?_,fun hch=>by simp [Ty.wu] at hch⟩;have hm:=hl.row 0 id rfl;have Ci:=hm.sv [];simp only [AL] at Ci;refine ⟨fun O=>⟨_,rfl,?_,fun t l e _=>⟨jE _,fun _=>?_⟩⟩,fun O j o hj=>?_⟩
       ·obtain ⟨_,_,_,_,hx,_⟩:=zg;rw [qT,hx];rfl
       ·rw [qT];exact Ci.symm
       ·cases j with
        | succ j=>cases j <;> simp [zy,zF] at hj
        | zero=>
         simp only [zy,zF,zI] at hj;subst hj;refine ⟨zg.1,?_⟩;have:=zC.move hl.ro (o:=some (id,[])) (o':=some (base,[])) hm zg.2;show zC w G (some (base,[])) _ _ [G.sv base []];rw [show G.sv base []=g.sv id [] from Ci];exact this
      ·rename_i v' kk;rw [show (Ty.sl false v').zV=true from by simpa [Ty.XI] using hu] at qv;simp at qv
      ·simp at h
    ·simp at h
  | zu id p=>
   cases u with
   | ptr u=>rw [show (Ty.ptr u).zV=true from hu] at qv;simp at qv
   | _=>cases p <;> simp [j6] at h
  | yG f c=>
   cases u with
   | fn f' t=>rw [show (Ty.fn f' t).zV=true from hu] at qv;simp at qv
   | _=>simp [j6] at h
  | JJ t c=>simp [j6] at h
  | agg c=>
   simp only [j6] at h
   exact WU n (a:=c) hh zR hu h
  | pr a b=>
   cases u with
   | pair t u=>
    simp only [j6] at h;simp only [Ty.XI,zA] at hu;obtain ⟨c1,c2,rfl,ha,hb⟩:=zR;obtain ⟨x,J1,g1,Sr,Zk,h1,h2,h3,II,he1,_⟩:=WU n hh ha hu.1.1 h;have Zg:=jV.frame (wy:=J1.z6) (h3.ro w) (fun i _=>h3.kept (w:=w) i) hb;obtain ⟨y,J2,g2,mv2,GX,h4,h5,h6,BM,he2,Pg⟩:=WU n (h3.heap hh) Zg hu.1.2 Zk;obtain ⟨zum,zun⟩:=Pg hu.2;have zai:∀ m,(zy.zc (.pair t u) (x,y) m).2.length=(Sr++mv2).length:=fun m=>by
     simp only [zy.zc,Kj,II,zum]
    have zex:∀ G base,Laid w g2 (Sr++mv2) G base->Jp w G (zy.zc (.pair t u) (x,y) base) base (c1++c2):=fun G base hl=>by
     have e1:=he1 G base (hl.left h6 (fun i hi=>(h3.mv i hi).2));have e2:=zun G (base+Sr.length) hl.right;simp only [zy.zc];rw [II base];refine ⟨fun O=>⟨c1,c2,rfl,e1.ok O,e2.ok O⟩,fun O j o hj=>?_⟩;rw [wX] at hj;split at hj
     ·exact e1.z6 O j o hj
     ·rename_i AA;rw [II base] at hj AA;have:=e2.z6 O _ o hj;rw [show base+Sr.length+(j-Sr.length)=base+j from by omega] at this;exact this
    refine ⟨(x,y),J2,g2,Sr++mv2,GX,h4.trans h1,h5.trans h2,h3.trans h6,fun m=>?_,fun G base hl=>?_,fun _=>⟨zai,zex⟩⟩
    ·simp only [zy];rw [qv];exact zai m
    ·simp only [zy];rw [qv]
     exact ⟨fun O=>(zex G base hl).ok O,(zex G base hl).z6⟩
   | _=>simp [j6] at h
  | un=>
   cases u with
   | unit=>
    simp only [j6] at h
    simp [Ty.zV] at qv
   | _=>simp [j6] at h
  | view id p ep x y=>cases u <;> simp [j6] at h
  | vW id p ep=>cases u <;> simp [j6] at h
  | qA id=>cases u <;> simp [j6] at h
  | nv pt id p ep=>
   obtain ⟨v',rfl⟩:=z7d h
   rw [show (Ty.sl false v').zV=true from by simpa [Ty.XI] using hu] at qv;simp at qv
  | jC c=>exact zR.elim
end Go.Kz
namespace Go.Kz
variable {R:Type}
def Vu (x:Nat):List (Option Nat)->Nat->Option Nat
 | [],_=>none
 | some y :: l,i=>if y=x then some i else Vu x l (i+1)
 | none :: l,i=>Vu x l (i+1)
theorem Vp {x:Nat}:{l:List (Option Nat)}->{k d:Nat}->(l.filterMap id).Nodup->zF l d=some (some x)->Vu x l k=some (k+d)
 | [],_,d,_,h=>by cases d <;> simp [zF] at h
 | none :: l,k,d,hn,h=>by
  cases d with
  | zero=>simp [zF] at h
  | succ d=>
   simp only [Vu];rw [Vp (l:=l) (by simpa using hn) h]
   congr 1;omega
 | some y :: l,k,0,_,h=>by
  simp only [zF,zI] at h
  simp [Vu,h]
 | some y :: l,k,d+1,hn,h=>by
  have IH:y∉l.filterMap id/\(l.filterMap id).Nodup:=by simpa using hn
  have hm:some x∈l:=jH h;have vI:y≠x:=by
   intro he;subst he;exact IH.1 (Z4r.2 ⟨some y,hm,rfl⟩)
  simp only [Vu,qQ vI];rw [Vp (l:=l) IH.2 h];congr 1;omega
def uF (g:z8) (mv:List (Option Nat)):z8 where
 tag:=fun b=>match g.tag b with
  | .row i p=>(match Vu i mv 0 with
   | some j=>.row j p
   | none=>.zn)
  | .box _=>.zn
  | t=>t
 sv:=fun j p=>match zF mv j with
  | some (some i)=>g.sv i p
  | _=>.slice none 0 0
 zt:=fun _=>0
theorem M6 {w:World} {g:z8} {mv:List (Option Nat)} (hn:(mv.filterMap id).Nodup):Laid w g mv (uF g mv) 0:=by
 refine ⟨⟨fun b hb=>⟨by simp [uF,hb],rfl⟩⟩,fun j i hj=>?_,fun j hj=>by simp [uF,hj]⟩;have hx:=Vp (k:=0) hn hj;rw [Zp] at hx ⊢;exact ⟨fun q=>by simp [uF,hj],fun q b hb=>⟨by simp [uF,hb,hx],rfl⟩⟩
theorem Uo {w:World} {g:z8} {mv:List (Option Nat)}:Ext w g w (uF g mv):=by
 refine ⟨rfl,rfl,rfl,yS _,yS _,fun b _ ht=>⟨rfl,?_⟩⟩;rcases ht with ht | ht <;> simp [uF,ht]
theorem DL:(t:Ty)->(d:t.den)->(n:Nat)->(zy t d n).1.isAgg=t.sk.isAgg
 | .sl true t,l,n=>rfl
 | .sl false t,l,n=>rfl
 | .int _,_,_=>rfl
 | .bool,_,_=>rfl
 | .str,_,_=>rfl
 | .unit,_,_=>rfl
 | .arr _ _,_,_=>rfl
 | .ptr _,_,_=>rfl
 | .fn _ _,_,_=>rfl
 | .tree _,_,_=>rfl
 | .pair a b,(x,y),n=>by
  simp only [zy];cases (Ty.pair a b).zV <;> rfl
theorem H0 {w:World} {G:z8} {t:Ty} {d:t.den} {base:Nat} {cs:List Value} {v:Value} {agg:Bool} (h:Jp w G (zy t d base) base cs) (hv:v=jA agg cs) (ha:agg=t.sk.isAgg) (O:qk) :
  zl w G O (zy t d base).1 v:=
 yA (h.ok O) (by rw [DL,hv,ha]) (pZ t d base).1 (pZ t d base).2.1
section
variable {n:Nat} {w:World} {a:Act} {g:z8} {J:St} {r:R}
def Y1:List Ty->Bool
 | []=>true
 | t :: ts=>t.XI && Y1 ts
def Vl (tmps:Array Value):ResultVar->Sem Value
 | .tmp t=>pure (tmps.getD t undef)
 | .cell a t=>do loadVar t (<-asAddr (tmps.getD a undef))
theorem z6d {x:z7} {v:Value} {f:z7->Option R} {r:R} (hh:yZ w g J.z6) (ex:zl w g J.z6 x v) (h:BA J x f=some r) :
  ∃ lv b off cc e fz,v = .pointer (some ⟨b,off,none⟩)/\w.heap[b]? = some (.cells cc e fz)/\off+lv.sk.size<=cc.size/\jV w g J.z6 lv (qB cc.toList off lv.sk.size)/\f lv=some r:=by
 unfold BA at h;split at h
 ·rename_i t' d;simp only [zl] at ex;obtain ⟨cs,⟨qv,b,off,cc,e,fz,rfl,zH,zQ,qK,zX⟩,hv⟩:=ex;exact ⟨.data t' d,b,off,cc,e,fz,hv,zQ,by simpa [z7.sk,Ty.zZ] using qK,⟨by simpa [Ty.zV] using qv,by simpa [z7.sk,Ty.zZ] using zX⟩,h⟩
 ·rename_i id p ep;split at h
  ·simp at h
  ·rename_i s q;obtain ⟨t0,l0,Co⟩:=uS h;simp only [zl] at ex;obtain ⟨cs,⟨v,rfl,qL,hv⟩,jb⟩:=ex;obtain ⟨hp,b0,yB,gy,gR⟩:=(hv _ _ _ Co).2 rfl;obtain ⟨t1,l1,u1,e1,b,off,cc,ee,BH,qv,hk,IA,kz,vZ,zH,zQ,qK,zX⟩:=uJ hh hp h;rw [Co] at BH;simp only [zI,Obj.row.injEq] at BH;obtain ⟨rfl,_,_⟩:=BH;rw [gy] at kz;simp only [zI,gB] at kz;obtain ⟨rfl,rfl⟩:=kz;exact ⟨.data u1 e1,b0,yB,cc,ee,(0,0),by rw [jb];exact gR,zQ,by simpa [z7.sk,Ty.zZ] using qK,⟨IA,by simpa [z7.sk,Ty.zZ] using zX⟩,hk⟩
 ·rename_i id p;obtain ⟨xc,y,off,cc,e,zg,h2,ju,zQ,zH,hle,Qi,hi⟩:=Z9 hh h;simp only [zl] at ex;obtain ⟨cs,⟨v,rfl,qL,hv⟩,jb⟩:=ex;obtain ⟨Vz,s,wD,gR⟩:=hv _ zg;rw [ju] at wD;simp only [zI,gB] at wD;obtain ⟨rfl,_⟩:=wD;exact ⟨y,g.zt id,off,cc,e,(0,0),by rw [jb];exact gR,zQ,hle,Qi,h2⟩
 ·rename_i id p ep;obtain ⟨t1,l1,e1,i1,zg,FB,zX,hk⟩:=YH hh h;simp only [zl] at ex;obtain ⟨cs,⟨v,rfl,qL,hv⟩,jb⟩:=ex;obtain ⟨hp,b0,yB,gy,gR⟩:=((hv _ _ _ _ _ zg).2 FB).2 rfl
  cases p with
  | nil=>exact absurd rfl hp
  | cons s q=>
   obtain ⟨u1,x1,bh,oh,ch,eh,ph,hk,kz,vZ,_,zH,zQ,qK,hr⟩:=uD zX hk;rw [gy] at kz;simp only [zI,gB] at kz;obtain ⟨rfl,rfl⟩:=kz
   cases qv:u1.zV with
   | true=>
    rw [qv] at hk
    exact ⟨.data u1 x1,b0,yB,ch,eh,(0,0),by rw [jb];exact gR,zQ,by simpa [z7.sk,Ty.zZ] using qK,⟨qv,by simpa [z7.sk,Ty.zZ] using zC.qt (o':=none) qv hr⟩,hk⟩
   | false=>
    rw [qv] at hk;simp only [zW] at hk;split at hk
    ·rename_i v1;obtain ⟨ad,cp,pN,qT,_⟩:=hr;refine ⟨.nv false id (s :: q) ep,b0,yB,ch,eh,(0,0),by rw [jb];exact gR,zQ,qK,⟨_,pN,rfl,fun t2 l2 e2 i2 h2 qN=>?_⟩,hk⟩;rw [zg] at qN;simp only [zI,Obj.nest.injEq] at qN;obtain ⟨rfl,_,rfl,rfl,_⟩:=qN;have G2:i1=ep:=FB;exact ⟨Z3b G2.symm,fun _=>⟨fun _=>qT.symm,fun h=>(by simp at h)⟩⟩
    ·simp at hk
 ·simp at h
theorem zcz {P:Program} {tt:Nat->Option Ty} (kp:gP P tt) {s:ResultVar} {f:z7->Option R} {r:R} (zq:zK n g w a J) {t:Ty}
  (h:rvK tt J s (fun av=>cond (av.val && av.sk.same t.sk) (f av) none)=some r) :
  ∃ av v cs,f av=some r/\(Vl a.tmps s).run P w = .ok v w/\jV w g J.z6 av cs/\v=jA t.sk.isAgg cs:=by
 cases s with
 | tmp s=>
  simp only [rvK] at h;split at h
  ·rename_i av hs
   cases hb:(av.val && av.sk.same t.sk) with
   | false=>rw [hb] at h;simp at h
   | true=>
    rw [hb] at h;simp only [zD] at h;simp only [zA] at hb;obtain ⟨v,hv,zR⟩:=zq.zj s av hs;obtain ⟨vl,_,_,OH⟩:=w6 hb.1;obtain ⟨cs,pN,Qj⟩:=wc zR OH;have hvg:a.tmps.getD s undef=v:=by rw [Z2m,hv];rfl
    exact ⟨av,v,cs,h,by simp [Vl,hvg],pN,by rw [Qj,vl,Sk.qw hb.2]⟩
  ·simp at h
 | cell s T=>
  simp only [rvK] at h;split at h
  ·rename_i x u hs hu;have hT:=kp _ _ hu;obtain ⟨v,hv,zR⟩:=zq.zj s x hs;obtain ⟨lv,b,off,cc,e,fz,hvp,zQ,hle,WY,h⟩:=z6d zq.heap zR h
   cases hc:u.sk.same lv.sk with
   | false=>rw [hc] at h;simp at h
   | true=>
    rw [hc] at h;simp only [zD] at h
    cases hb:(lv.val && lv.sk.same t.sk) with
    | false=>rw [hb] at h;simp at h
    | true=>
     rw [hb] at h;simp only [zD] at h;simp only [zA] at hb;have w7:=Sk.qw hc;have zt6:=Sk.qw hb.2;have qK:u.size=lv.sk.size:=by rw [<-w7,Ty.zZ]
     have zb:=GY (P:=P) (w:=w) hT zQ (by rw [qK];exact hle);have hvg:a.tmps.getD s undef=v:=by rw [Z2m,hv];rfl
     refine ⟨lv,jA u.sk.isAgg (qB cc.toList off u.size),_,h,?_,WY,?_⟩
     ·simp only [Vl,hvg,hvp,asAddr,Sem.run_bind,Sem.run_pure,Result.andThen_ok];exact zb
     ·rw [qK,w7,zt6]
  ·simp at h
theorem CG {P:Program} {tt:Nat->Option Ty} (kp:gP P tt) {t:Ty} {s:ResultVar} {k:t.den->St->Option R} (zq:zK n g w a J) (ht:t.XI=true) (h:rvK tt J s (fun a=>cond (a.val && a.sk.same t.sk) (j6 20 a t J k) none)=some r) :
  ∃ d J' g' mv v,k d J'=some r/\(Vl a.tmps s).run P w = .ok v w/\zK n g' w a J'/\P1 g J.z6 g' J'.z6 mv/\(∀ m,(zy t d m).2.length=mv.length)/\
   ∀ G base,Laid w g' mv G base->(∀ O,zl w G O (zy t d base).1 v)/\∀ O j o,zF (zy t d base).2 j=some o->zm w G O (base+j) o:=by
 obtain ⟨av,v,cs,h,zb,pN,Qj⟩:=zcz kp zq h;obtain ⟨d,J',g',mv,hk,h1,h2,h3,hl,he,_⟩:=WU 20 zq.heap pN ht h;have qP:zK n g' w a J':=by
  refine ⟨fun i x hi=>?_,h3.heap zq.heap,zq.size,zq.defers,zq.known.kept (h3.ro w)⟩;rw [h1] at hi;obtain ⟨u,hu,hx⟩:=zq.zj i x hi;exact ⟨u,hu,zl.frame (h3.ro w) (fun id _=>h3.kept (w:=w) id) hx⟩
 refine ⟨d,J',g',mv,v,hk,zb,qP,h3,hl,fun G base hL=>?_⟩;have hE:=he G base hL;exact ⟨fun O=>H0 hE Qj rfl O,hE.z6⟩
theorem Ed {tt:Nat->Option Ty} {t:Ty} {rs:List ResultVar} {k:jv [t]->St->Option R} {r:R} (h:Vo tt J [t] rs k=some r) :
  ∃ s,rs=[s]/\rvK tt J s (fun a=>cond (a.val && a.sk.same t.sk) (j6 20 a t J k) none)=some r:=by
 match rs,h with
 | [s],h=>exact ⟨s,rfl,h⟩
 | [],h=>simp [Vo] at h
 | _ :: _ :: _,h=>simp [Vo] at h
theorem O7 {tt:Nat->Option Ty} {t u:Ty} {ts:List Ty} {rs:List ResultVar} {k:jv (t :: u :: ts)->St->Option R} {r:R} (h:Vo tt J (t :: u :: ts) rs k=some r) :
  ∃ s l,rs=s :: l/\rvK tt J s (fun a=>cond (a.val && a.sk.same t.sk) (j6 20 a t J fun d J=>Vo tt J (u :: ts) l fun ds J=>k (d,ds) J) none)=some r:=by
 match rs,h with
 | s :: l,h=>exact ⟨s,l,rfl,h⟩
 | [],h=>simp [Vo] at h
def Reads (P:Program) (tmps:Array Value) (w:World):List ResultVar->List Value->Prop
 | [],[]=>True
 | s :: l,v :: vs=>(Vl tmps s).run P w = .ok v w/\Reads P tmps w l vs
 | _,_=>False
theorem LS {P:Program} {tt:Nat->Option Ty} (kp:gP P tt):(ts:List Ty)->(rs:List ResultVar)->{g:z8}->{J:St}->{k:jv ts->St->Option R}->{r:R}->ts≠[]->zK n g w a J->Y1 ts=true->Vo tt J ts rs k=some r->
  ∃ (d:jv ts) (J':St) (g':z8) (mv:List (Option Nat)) (vs:List Value),k d J'=some r/\Reads P a.tmps w rs vs/\vs.length=ts.length/\zK n g' w a J'/\P1 g J.z6 g' J'.z6 mv/\(∀ m,(zx.chain ts d m).2.length=mv.length)/\
   (∀ G base,Laid w g' mv G base->(∀ O,qj w G O (zx.chain ts d base).1 vs)/\∀ O j o,zF (zx.chain ts d base).2 j=some o->zm w G O (base+j) o)
 | [],_,_,_,_,_,vI,_,_,_=>absurd rfl vI
 | [t],rs,g,J,k,r,_,zq,ht,h=>by
  simp only [Y1,Z31] at ht;obtain ⟨s,rfl,h⟩:=Ed h;obtain ⟨d,J',g',mv,v,hk,zb,qP,AW,hl,he⟩:=CG kp zq ht h;refine ⟨d,J',g',mv,[v],hk,⟨zb,trivial⟩,rfl,qP,AW,fun m=>by simp only [zx.chain];exact hl m,fun G base hL=>?_⟩;obtain ⟨h1,h2⟩:=he G base hL;simp only [zx.chain];refine ⟨fun O=>?_,h2⟩;simp only [qj]
  exact ⟨_,_,rfl,h1 O,rfl⟩
 | t :: u :: ts,rs,g,J,k,r,_,zq,ht,h=>by
  simp only [Y1,zA] at ht;obtain ⟨s,l,rfl,h⟩:=O7 h;obtain ⟨d,J1,g1,Sr,v,hk,zb,yC,zk8,II,he1⟩:=CG kp zq ht.1 h;obtain ⟨ds,J2,g2,mv2,vs,GX,hss,hlen,wY,zk7,BM,he2⟩:=LS kp (u :: ts) l (by simp) yC (by simp only [Y1,zA];exact ht.2) hk;refine ⟨(d,ds),J2,g2,Sr++mv2,v :: vs,GX,⟨zb,hss⟩,by simp [hlen],wY,zk8.trans zk7,fun m=>?_,fun G base hL=>?_⟩
  ·simp only [zx.chain,Kj,II,BM]
  ·obtain ⟨h1,h2⟩:=he1 G base (hL.left zk7 (fun i hi=>(zk8.mv i hi).2));obtain ⟨h3,h4⟩:=he2 G (base+Sr.length) hL.right;simp only [zx.chain];rw [II base];refine ⟨fun O=>?_,fun O j o hj=>?_⟩
   ·simp only [qj];exact ⟨_,_,rfl,h1 O,h3 O⟩
   ·rw [wX] at hj;split at hj
    ·exact h2 O j o hj
    ·rename_i AA;rw [II base] at hj AA;have:=h4 O _ o hj;rw [show base+Sr.length+(j-Sr.length)=base+j from by omega] at this;exact this
theorem ES {P:Program} {tmps:Array Value} {w:World}:(rs:List ResultVar)->(vs:List Value)->Reads P tmps w rs vs->(rs.mapM (Vl tmps)).run P w = .ok vs w
 | [],[],_=>by simp
 | s :: l,v :: vs,h=>by
  have ih:=ES l vs h.2;rw [List.mapM_cons]
  simp only [Sem.run_bind,h.1,Result.andThen_ok,ih,Sem.run_pure]
 | [],_ :: _,h=>h.elim
 | _ :: _,[],h=>h.elim
def Hm:List Value->Value
 | [v]=>v
 | vs=>.tuple vs.toArray
theorem x5 {P:Program} {fn:Func} (tmps:Array Value) {w:World} {vs:List Value} (h:Reads P tmps w fn.results.toList vs):(results fn tmps).run P w = .ok (Hm vs) w:=by
 have e:results fn tmps=(do let vs <-fn.results.mapM (Vl tmps);pure (if h:vs.size=1 then vs[0] else .tuple vs):Sem Value):=by
  unfold results;refine C6 (fun f=>(Array.mapM f fn.results >>= fun vs=>pure (if h:vs.size=1 then vs[0] else Value.tuple vs):Sem Value)) (funext fun x=>?_);cases x <;> rfl
 have h1:=ES _ _ h;have h2:(fn.results.mapM (Vl tmps)).run P w = .ok vs.toArray w:=by
  rw [Array.mapM_eq_mapM_toList];rw [Sem.run_map,h1];rfl
 rw [e];simp only [Sem.run_bind,h2,Result.andThen_ok,Sem.run_pure]
 match vs with
 | []=>simp [Hm]
 | [v]=>simp [Hm]
 | _ :: _ :: _=>simp [Hm]
theorem Uw {O:List Obj} {mv:List (Option Nat)} {g':z8} (hh:∀ b,g'.tag b≠.zn->b < w.heap.size) (ho:∀ j o,zF O j=some o->zm w (uF g' mv) (zF O) (0+j) o):yZ w (uF g' mv) (zF O):=by
 refine ⟨fun j o hj=>by have:=ho j o hj;rw [Zp] at this;exact this,fun b hb=>hh b (fun h=>hb (by simp [uF,h]))⟩
theorem Sg {P:Program} {tt:Nat->Option Ty} (kp:gP P tt) {fn:Func} {ts:List Ty} {r:jv ts} (zq:zK n g w a J) (ht:Y1 ts=true) (h:Vo tt J ts fn.results.toList (fun r _=>some r)=some r) :
  ∃ v g',(results fn a.tmps).run P w = .ok v w/\Ext w g w g'/\Kg w g' (zx ts r 0) v:=by
 match ts,r,ht,h with
 | [],r,_,h=>
  have hr:fn.results.toList=[]:=by
   generalize fn.results.toList=rs at h
   cases rs with
   | nil=>rfl
   | cons x l=>simp [Vo] at h
  refine ⟨.tuple #[],uF g [],x5 a.tmps (vs:=[]) (by rw [hr];trivial),Uo,Uw zq.heap.tags (fun j o hj=>by cases j <;> simp [zx,zF] at hj),?_⟩;simp only [zx,zl]
  exact ⟨[],rfl,by simp [qj]⟩
 | [t],r,ht,h=>
  simp only [Y1,Z31] at ht;obtain ⟨s,hrs,h⟩:=Ed h;obtain ⟨d,J',g',mv,v,hk,zb,qP,AW,AP,he⟩:=CG kp zq ht h;simp only [zI] at hk;subst hk;obtain ⟨h1,h2⟩:=he (uF g' mv) 0 (M6 AW.nodup)
  exact ⟨v,uF g' mv,x5 a.tmps (vs:=[v]) (by rw [hrs];exact ⟨zb,trivial⟩),AW.ext.trans Uo,Uw qP.heap.tags (fun j o hj=>h2 _ j o hj),h1 _⟩
 | t :: u :: ts,r,ht,h=>
  obtain ⟨d,J',g',mv,vs,hk,hss,hlen,qP,AW,AP,he⟩:=LS kp (t :: u :: ts) _ (by simp) zq ht h;simp only [zI] at hk;subst hk;obtain ⟨h1,h2⟩:=he (uF g' mv) 0 (M6 AW.nodup);have zb:=x5 a.tmps hss;refine ⟨.tuple vs.toArray,uF g' mv,?_,AW.ext.trans Uo,Uw qP.heap.tags (fun j o hj=>?_),?_⟩
  ·match vs,hlen,zb with
   | _ :: _ :: _,_,zb=>exact zb
  ·exact h2 _ j o (by simpa [zx,zx.chain] using hj)
  ·simp only [zx,zl];exact ⟨_,rfl,by have:=h1 (zF (zx (t :: u :: ts) d 0).2);simpa [zx,zx.chain] using this⟩
end
theorem GN {w:World} {g:z8} {z6:qk}:(p:kG)->(d:p.den)->(i0:Nat)->{vals:List Value}->xA w g p d vals->∀ i av,j4 p d i0 i=some av->i0<=i/\∃ v,vals[i-i0]? = some v/\zl w g z6 av v
 | .pr (.val t) q,(x,y),i0,v :: vs,h,i,av,hi=>by
  obtain ⟨qv,⟨cs,hr,hv⟩,pk⟩:=h;simp only [j4,KK] at hi
  cases hb:Nat.beq i i0 with
  | true=>
   rw [hb] at hi;simp only [zD,zI] at hi;subst hi;have:=zE hb;subst this
   exact ⟨yS _,v,by simp,cs,⟨qv,hr⟩,hv⟩
  | false=>
   rw [hb] at hi;obtain ⟨h1,u,h2,h3⟩:=GN q y (i0+1) pk i av hi;refine ⟨by omega,u,?_,h3⟩;have e:i-i0=(i-(i0+1))+1:=by omega
   rw [e];simpa using h2
 | .pr (.val t) q,(x,y),i0,[],h,i,av,hi=>h.elim
 | .un,_,_,_,_,_,_,hi=>by simp [j4] at hi
 | .val _,_,_,_,_,_,_,hi=>by simp [j4] at hi
 | .ref _,_,_,_,_,_,_,hi=>by simp [j4] at hi
 | .zu _,_,_,_,_,_,_,hi=>by simp [j4] at hi
 | .yG _ _,_,_,_,_,_,_,hi=>by simp [j4] at hi
 | .agg _,_,_,_,_,_,_,hi=>by simp [j4] at hi
 | .pr (.ref _) _,_,_,_,_,_,_,hi=>by simp [j4] at hi
 | .pr (.zu _) _,_,_,_,_,_,_,hi=>by simp [j4] at hi
 | .pr (.yG _ _) _,_,_,_,_,_,_,hi=>by simp [j4] at hi
 | .pr (.agg _) _,_,_,_,_,_,_,hi=>by simp [j4] at hi
 | .pr (.pr _ _) _,_,_,_,_,_,_,hi=>by simp [j4] at hi
 | .pr .un _,_,_,_,_,_,_,hi=>by simp [j4] at hi
def kG.len:kG->Nat
 | .pr _ q=>q.len+1
 | _=>0
theorem Uv {w:World} {g:z8}:(p:kG)->(d:p.den)->{vals:List Value}->xA w g p d vals->vals.length=p.len
 | .pr (.val t) q,(x,y),v :: vs,h=>by simp [kG.len,Uv q y h.2.2]
 | .pr (.val t) q,(x,y),[],h=>h.elim
 | .un,_,[],_=>rfl
 | .un,_,_ :: _,h=>h.elim
 | .val _,_,_,h=>h.elim
 | .ref _,_,_,h=>h.elim
 | .zu _,_,_,h=>h.elim
 | .yG _ _,_,_,h=>h.elim
 | .agg _,_,_,h=>h.elim
 | .pr (.ref _) _,_,_,h=>h.elim
 | .pr (.zu _) _,_,_,h=>h.elim
 | .pr (.yG _ _) _,_,_,h=>h.elim
 | .pr (.agg _) _,_,_,h=>h.elim
 | .pr (.pr _ _) _,_,_,h=>h.elim
 | .pr .un _,_,_,h=>h.elim
theorem H3 {w:World} {g:z8} {p:kG} {d:p.den} {vals:List Value} {n:Nat} (ht:∀ b,g.tag b≠.zn->g.tag b = .ro/\b < w.heap.size) (AU:Known w g) (h:xA w g p d vals) (hn:p.len<=n) :
  zK n g w { tmps:=vals.toArray++Array.replicate (n-vals.toArray.size) undef,defers:=[] } (entry p d)/\qY g (entry p d):=by
 have hl:=Uv p d h;refine ⟨⟨fun i av hi=>?_,⟨fun id o ho=>by simp [entry] at ho,fun b hb=>(ht b hb).2⟩,by simp [hl];omega,rfl,AU⟩,fun m _=>⟨rfl,fun b p hb=>?_,fun b hb=>?_,fun i av hi=>?_,fun id av ho=>by simp [entry] at ho⟩⟩
 ·obtain ⟨_,v,h1,h2⟩:=GN (z6:=(entry p d).z6) p d 0 h i av hi;rw [Z4q] at h1;refine ⟨v,?_,h2⟩;have qJ:=(Z3p.1 h1).1;rw [Z41 (by simpa using qJ)];simpa using h1
 ·have:=(ht b (by rw [hb];simp)).1;rw [hb] at this;simp at this
 ·have:=(ht b (by rw [hb];simp)).1;rw [hb] at this;simp at this
 ·have key:∀ (p:kG) (d:p.den) (i0:Nat) (i:Nat) (av:z7),j4 p d i0 i=some av->av.ids=[]:=by
   intro p
   induction p with
   | pr a q iha ihq=>
    cases a with
    | val t=>
     intro d i0 i av hi;obtain ⟨x,y⟩:=d;simp only [j4,KK] at hi
     cases hb:Nat.beq i i0 with
     | true=>rw [hb] at hi;simp only [zD,zI] at hi;subst hi;rfl
     | false=>rw [hb] at hi;exact ihq y _ i av hi
    | _=>intro d i0 i av hi;simp [j4] at hi
   | _=>intro d i0 i av hi;simp [j4] at hi
  rw [key p d 0 i av hi];simp
theorem zm5 {P : Program} {f : Nat} {fn : Func} {body : Code} {c : Ctx} {p : kG} {ts : List Ty} {F : p.den -> Option (jv ts)} (hf : P.funcs[f]? = some fn) (hb : fn.body = some body) (Zw : (fn.name == "runtime.NumGoroutine") = false)
  (hc:ub P c) (hm:P.follows .mixedOrders=true) (hn:c.ntmps=fn.ntmps) (hp:p.len<=fn.ntmps) (ht:Y1 ts=true) (hl:ts.length<=6)
  (WJ:∀ b∈yU body,Zf c b) (heq:∀ d,z1q c ts fn.results.toList body (entry p d)=F d):qD P f (.pure p ts F):=by
 intro w g d vals r zH AU hargs hF;left;refine ⟨?_,?_⟩
 ·have IF : ¬ fn.name = "runtime.NumGoroutine" := by simpa using Zw
  simp [callFunc,hf,hb,IF]
 rw [<-heq] at hF;obtain ⟨zq,vQ⟩:=H3 zH AU hargs hp;rw [<-hn] at zq;refine calls_of_wp hf hb ?_;rw [<-hn];refine wa hc hm body WJ (Q:=bodyPost P fn _) (fun ch a w h=>?_) hF zq vQ ?_
 ·obtain ⟨_,v,h,_⟩:=h;cases h
 ·intro e J' g' a' w' hk qP gD WV _;have fin:∀ {J':St},norm c.res J' (fun J=>Vo c.tt J ts fn.results.toList fun r _=>some r)=some r->zK c.ntmps g' w' a' J'->qY g' J'->
    ∃ v,(results fn a'.tmps).run P w' = .ok v w'/\∃ g',Ext w g w' g'/\Kg w' g' (zx ts r 0) v:=by
   intro J' hk qP WV;obtain ⟨J1,g1,h1,yC,yP,_⟩:=YE qP WV hk;obtain ⟨v,g2,hr,w3,VZ⟩:=Sg (P:=P) hc.tt yC ht h1;exact ⟨v,hr,g2,(gD.trans yP).trans w3,VZ⟩
  cases e with
  | exit id=>simp at hk
  | normal=>
   obtain ⟨v,h1,h2⟩:=fin hk qP WV
   exact ⟨qP.defers,v,h1,v,rfl,h2⟩
  | ret=>
   obtain ⟨v,h1,h2⟩:=fin hk qP WV;exact ⟨qP.defers,v,h1,v,rfl,h2⟩
end Go.Kz
namespace Go.Kz
variable {R:Type}
def BB:List (Nat×zG)->List Nat
 | []=>[]
 | (i,_) :: l=>i :: BB l
theorem ZJ:(l:List (Nat×zG))->(d:xD l)->(vY l d).map Prod.fst=BB l
 | [],_=>rfl
 | (i,p) :: l,d=>by simp only [vY,JU,BB,ZJ l]
theorem FO {I:Type}:{l:List (Nat×I)}->{i:Nat}->{x:I}->(l.map Prod.fst).Nodup->(i,x)∈l->yT l i=some x
 | [],_,_,_,h=>by simp at h
 | (j,y) :: l,i,x,hn,h=>by
  simp only [JU,Z2s] at hn;simp only [yT];rcases gX.1 h with h | h
  ·simp only [gB] at h;rw [<-h.1,Lu,<-h.2];rfl
  ·have vI:Nat.beq j i=false:=by
    cases hb:Nat.beq j i with
    | false=>rfl
    | true=>
     exfalso;apply hn.1;rw [zE hb];exact Jo.2 ⟨_,h,rfl⟩
   rw [vI];exact FO hn.2 h
theorem Gy {I Z:Type} (f:I->Z):(n:Nat)->(l:List I)->(ke n l).map f=ke n (l.map f)
 | 0,_=>rfl
 | _+1,[]=>rfl
 | n+1,_ :: l=>by simp only [ke,JU,Gy f n l]
theorem Bc {I:Type}:(n:Nat)->(l:List I)->∀ x∈ke n l,x∈l
 | 0,_,x,h=>h
 | _+1,[],x,h=>h
 | n+1,a :: l,x,h=>LZ _ (Bc n l x h)
theorem Bd {I:Type}:(l m:List I)->ke l.length (l++m)=m
 | [],m=>rfl
 | a :: l,m=>Bd l m
theorem Hy {w:World} {g:z8} {O:qk} {tmps:Array Value}:(l:List (Nat×z7))->(∀ x∈l,zl w g O x.2 (tmps.getD x.1 undef))->
  qj w g O (jR (l.map Prod.snd)) (l.map fun x=>tmps.getD x.1 undef)
 | [],_=>by simp [jR,qj]
 | x :: l,h=>by
  simp only [JU,jR,qj];exact ⟨_,_,rfl,h x (by simp),Hy l fun y hy=>h y (by simp [hy])⟩
theorem zd0 {w:World} {g:z8} {O:qk} {tmps:Array Value} (l:List (Nat×z7)) (h:∀ x∈l,zl w g O x.2 (tmps.getD x.1 undef)) :
  zl w g O (kF (l.map Prod.snd)) (Hm (l.map fun x=>tmps.getD x.1 undef)):=by
 have hc:=Hy l h
 match l,h,hc with
 | [],_,hc=>simp only [Z2i,kF,Hm,zl];exact ⟨_,rfl,hc⟩
 | [x],h,_=>exact h x (by simp)
 | x :: y :: l,_,hc=>
  show zl w g O (.jC (jR ((x :: y :: l).map Prod.snd))) (.tuple ((x :: y :: l).map fun x=>tmps.getD x.1 undef).toArray);simp only [zl];exact ⟨_,rfl,hc⟩
theorem Ux {P:Program} {tmps:Array Value} {w:World}:(rs:List Nat)->Reads P tmps w (rs.map ResultVar.tmp) (rs.map fun t=>tmps.getD t undef)
 | []=>trivial
 | t :: rs=>by
  simp only [JU];refine ⟨?_,Ux rs⟩;simp [Vl]
def Hx (n:Nat) (b:Code):List Nat->Bool
 | []=>true
 | i :: l=>Nat.blt i n && !wrote i b && Hx n b l
theorem Hu {n:Nat} {b:Code}:{l:List Nat}->Hx n b l=true->∀ i∈l,i < n/\wrote i b=false
 | [],_,i,h=>by simp at h
 | j :: l,hb,i,h=>by
  simp only [Hx,zA,A1] at hb;rcases gX.1 h with rfl | h
  ·exact ⟨zL hb.1.1,hb.1.2⟩
  ·exact Hu hb.2 i h
theorem Oa {P : Program} {f : Nat} {fn : Func} {body : Code} {c : Ctx} {fin zi : vO} {jI rs : List Nat} {F : fin.den -> Option zi.den} (hf : P.funcs[f]? = some fn) (hb : fn.body = some body) (Zw : (fn.name == "runtime.NumGoroutine") = false)
  (hc:ub P c) (hm:P.follows .mixedOrders=true) (hn:c.ntmps=fn.ntmps) (hp:fin.zj.length<=fn.ntmps) (hk:BB zi.zj=jI++rs) (hnd:QM (jI++rs)=true) (hrs:fn.results.toList=rs.map ResultVar.tmp)
  (YO:∀ i∈jI,i < fin.zj.length/\wrote i body=false)
  (WJ:∀ b∈yU body,Zf c b) (heq:∀ d:fin.den,z1p c zi body (St.of (vY fin.zj d.1) (vr fin.z6 d.2))=F d):qD P f (.mut fin jI zi F):=by
 intro w g d vals r X7 zq Th hF;left;refine ⟨?_,?_⟩
 ·have IF : ¬ fn.name = "runtime.NumGoroutine" := by simpa using Zw
  simp [callFunc,hf,hb,IF]
 rw [<-heq] at hF;refine calls_of_wp hf hb ?_;have Gf:zK c.ntmps g w { tmps:=vals.toArray++Array.replicate (fn.ntmps-vals.toArray.size) undef,defers:=[] } (St.of (vY fin.zj d.1) (vr fin.z6 d.2)):=by
  refine ⟨fun i av hi=>?_,zq.heap,by simp;omega,rfl,zq.known⟩;obtain ⟨v,h1,h2⟩:=zq.zj i av hi;refine ⟨v,?_,h2⟩;have qJ:i < vals.toArray.size:=(Z28.1 h1).1;rw [Z41 qJ];exact h1
 have vQ:qY g (St.of (vY fin.zj d.1) (vr fin.z6 d.2)):=by
  intro m hm;refine Th m ?_;have:(vr fin.z6 d.2).length<=m:=hm
  rwa [W4] at this
 refine wa hc hm body WJ (Q:=bodyPost P fn _) (fun ch a w h=>?_) hF Gf vQ ?_
 ·obtain ⟨_,v,h,_⟩:=h;cases h
 ·intro e J' g' a' w' GX qP gD WV hkp;have fin:∀ {J':St},GW c.res J' (fun sl os=>zi.take sl os some)=some r->zK c.ntmps g' w' a' J'->qY g' J'->
    ∃ v,(results fn a'.tmps).run P w' = .ok v w'/\∃ g',Ext w g w' g'/\yZ w' g' (zF (vr zi.z6 r.2))/\
    (∀ k i av,zF jI k=some i->zF ((vY zi.zj r.1).map Prod.snd) k=some av->∃ u,vals[i]? = some u/\zl w' g' (zF (vr zi.z6 r.2)) av u)/\
    zl w' g' (zF (vr zi.z6 r.2)) (kF (ke jI.length ((vY zi.zj r.1).map Prod.snd))) v:=by
   intro J' GX qP WV;obtain ⟨sl,os,g1,h1,yC,yP,_⟩:=Wz qP WV GX;obtain ⟨r1,h2,h3⟩:=QQ zi.zj h1;obtain ⟨r2,h4,h5⟩:=x7 zi.z6 h3;simp only [zI] at h5;subst h5;subst h2;subst h4;have AU:((vY zi.zj r1).map Prod.fst).Nodup:=by rw [ZJ,hk];exact Ka hnd
   have hv:∀ x∈vY zi.zj r1,∃ v,a'.tmps[x.1]? = some v/\zl w' g1 (zF (vr zi.z6 r2)) x.2 v:=fun x hx=>yC.zj x.1 x.2 (FO AU hx)
   have hvd:∀ x∈vY zi.zj r1,zl w' g1 (zF (vr zi.z6 r2)) x.2 (a'.tmps.getD x.1 undef):=by
    intro x hx;obtain ⟨v,q1,q2⟩:=hv x hx;have:a'.tmps.getD x.1 undef=v:=by rw [Z2m,q1];rfl
    rw [this];exact q2
   have zlo:(ke jI.length (vY zi.zj r1)).map Prod.fst=rs:=by
    rw [Gy,ZJ,hk,Bd]
   refine ⟨Hm (rs.map fun t=>a'.tmps.getD t undef),x5 a'.tmps (by rw [hrs];exact Ux rs),g1,gD.trans yP,yC.heap,fun k i av hki hkv=>?_,?_⟩
   ·have Td:(vY zi.zj r1)[k]? = some (i,av):=by
     rw [uq,Z2r,wq] at hkv;obtain ⟨x,hx,rfl⟩:=hkv;have h6:((vY zi.zj r1).map Prod.fst)[k]? = some x.1:=by rw [Z2r,hx];rfl
     have qJ:k < jI.length:=wj hki;rw [ZJ,hk,Z4o qJ,<-uq,hki] at h6;simp only [zI] at h6;rw [hx,h6]
    obtain ⟨v,q1,q2⟩:=hv _ (Z42 Td);obtain ⟨qJ,BI⟩:=YO i (jH hki);refine ⟨v,?_,q2⟩;have h7:=hkp i BI;rw [q1] at h7;have ztt:i < vals.toArray.size:=by simp [X7];exact qJ
    rw [Z41 ztt] at h7;simpa using h7.symm
   ·rw [<-Gy];have:=zd0 (ke jI.length (vY zi.zj r1)) (fun x hx=>hvd x (Bc _ _ x hx));have e:(ke jI.length (vY zi.zj r1)).map (fun x=>a'.tmps.getD x.1 undef)=rs.map fun t=>a'.tmps.getD t undef:=by
     rw [<-zlo,Z39];rfl
    rw [e] at this;exact this
  cases e with
  | exit id=>simp at GX
  | normal=>
   obtain ⟨v,h1,h2⟩:=fin GX qP WV
   exact ⟨qP.defers,v,h1,v,rfl,h2⟩
  | ret=>
   obtain ⟨v,h1,h2⟩:=fin GX qP WV;exact ⟨qP.defers,v,h1,v,rfl,h2⟩
end Go.Kz
namespace Go.Kz
variable {R:Type}
def iter {I:Type} (Body:(I->Option R)->I->Option R):Nat->I->Option R
 | 0,_=>none
 | n+1,x=>Body (iter Body n) x
def M8 (c:Ctx) (r:Nat) (lv:Cut) (kb:List (Nat×z7)->List Obj->Option R) (k:vp->St->Option R):vp->St->Option R
 | .normal,J=>GW lv J kb
 | e,J=>Qb c r k e J
theorem M3 {c:Ctx} {b:Code} {r:Nat} {lv:Cut} {I:Type} {st:I->List (Nat×z7)×List Obj} {k:vp->St->Option R} {Body:(I->Option R)->I->Option R}
  (za9:∀ (kb:List (Nat×z7)->List Obj->Option R) (x:I),jh c b (St.of (st x).1 (st x).2) (M8 c r lv kb k)=Body (fun y=>kb (st y).1 (st y).2) x) :
  ∀ (n:Nat) (x:I),QO (jh c b) lv n (st x).1 (st x).2 (Qb c r k)=iter Body n x
 | 0,x=>rfl
 | n+1,x=>by
  have e:(fun e J=>match e with
    | .normal=>GW lv J fun sl os=>QO (jh c b) lv n sl os (Qb c r k)
    | e=>Qb c r k e J)=M8 c r lv (fun sl os=>QO (jh c b) lv n sl os (Qb c r k)) k:=by
   funext e J;cases e <;> rfl
  have h:=za9 (fun sl os=>QO (jh c b) lv n sl os (Qb c r k)) x;simp only [QO,iter];refine (C6 (jh c b (St.of (st x).1 (st x).2)) e).trans (h.trans ?_);congr 1;funext y;exact M3 za9 n y
theorem z6b {c:Ctx} {b:Code} {r:Nat} {lv:Cut} {f:vO} (F:(R:Type)->f.den->(vp->St->Option R)->Option R) (hr:yL b=some r) (hlv:c.cut r=some lv)
  (hL:c.lp r=some fun R sl os k=>f.take sl os fun d=>F R d k)
  (h:∀ (R:Type) (k:vp->St->Option R) (d:f.den),QO (jh c b) lv c.fuel (vY f.zj d.1) (vr f.z6 d.2) (Qb c r k)=F R d k):Zf c b:=by
 intro r' lv' L Pw zep hL' R sl os k x hx;rw [hr] at Pw;simp only [zI] at Pw;subst Pw;rw [hlv] at zep;simp only [zI] at zep;subst zep;rw [hL] at hL';simp only [zI] at hL';subst hL';replace hx:=QQ f.zj hx;obtain ⟨d,rfl,hx⟩:=hx;replace hx:=x7 f.z6 hx;obtain ⟨e,rfl,hx⟩:=hx;rw [h R k (d,e)];exact hx
theorem z8g {P:Program}:A5 P fun f=>((yT ([]:List (Nat×List Callee)) f).getD []):=by
 intro f c h;simp [yT] at h
def zdq (P:Program) (kt:Ty) (K:TypeId):Bool:=EU P kt K && (j7 kt || z8f P [K])
theorem z6g {P:Program} {kt:Ty} {K:TypeId} (h:zdq P kt K=true):z2k P kt K:=by
 simp only [zdq,zA,HJ] at h;refine ⟨tyB_ok h.1,fun hk=>?_⟩;rcases h.2 with h2 | h2
 ·rw [hk] at h2;simp at h2
 ·obtain ⟨h3,_,h4⟩:=DO h2 K (by simp [yD]);exact ⟨h3,h4⟩
def mtB (P:Program):List (Nat×Ty×Ty)->Bool
 | []=>true
 | (T,kt,vt) :: l=>(match P.underlying T with
  | some (.map K E)=>zdq P kt K && EU P vt E && (match P.info? E with
   | some i=>(match i.zero with
    | some z=>(match vt.sk.isAgg,z with
     | true,.agg _=>true
     | false,.int _ _=>true
     | false,.bool _=>true
     | false,.string _=>true
     | _,_=>false)
    | none=>false)
   | none=>false)
  | _=>false) && mtB P l
theorem T1 {P:Program}:{l:List (Nat×Ty×Ty)}->mtB P l=true->Ez P (yT l)
 | [],_,_,_,_,h=>by simp [yT] at h
 | (T,kt,vt) :: l,hb,T',Ur,Pe,h=>by
  simp only [mtB,zA] at hb;simp only [yT] at h
  cases he:Nat.beq T T' with
  | false=>rw [he] at h;exact T1 hb.2 T' Ur Pe h
  | true=>
   rw [he] at h;simp only [zD,zI,gB] at h;obtain ⟨rfl,rfl⟩:=h;obtain rfl:=zE he;have h1:=hb.1;split at h1
   ·rename_i K E hu;simp only [zA] at h1;refine ⟨K,E,hu,z6g h1.1.1,tyB_ok h1.1.2,?_⟩;have h2:=h1.2;split at h2
    ·rename_i i hi;split at h2
     ·rename_i z hz;refine ⟨i,z,hi,hz,?_⟩;split at h2
      ·rename_i vl;rw [vl];simp [jA,Value.cells]
      ·rename_i vl;rw [vl];simp [jA,Value.cells]
      ·rename_i vl;rw [vl];simp [jA,Value.cells]
      ·rename_i vl;rw [vl];simp [jA,Value.cells]
      ·simp at h2
     ·simp at h2
    ·simp at h2
   ·simp at h1
@[reducible] def wi8 (n:Int):Int:=IntKind.i8.wrap n
@[reducible] def wi16 (n:Int):Int:=IntKind.i16.wrap n
@[reducible] def wi32 (n:Int):Int:=IntKind.i32.wrap n
@[reducible] def zz (n:Int):Int:=IntKind.i64.wrap n
@[reducible] def wu8 (n:Int):Int:=IntKind.u8.wrap n
@[reducible] def wu16 (n:Int):Int:=IntKind.u16.wrap n
@[reducible] def wu32 (n:Int):Int:=IntKind.u32.wrap n
@[reducible] def Aq (n:Int):Int:=IntKind.u64.wrap n
@[reducible] def len {I:Type} (l:List I):Int:=(l.length:Int)
inductive HL (p:Code->Prop):List Code->Prop
 | nil:HL p []
 | cons {b:Code} {l:List Code} (h:p b) (t:HL p l):HL p (b :: l)
theorem HL.mem {p:Code->Prop} {l:List Code} (h:HL p l):∀ b∈l,p b:=by
 induction h with
 | nil=>intro b hb;simp at hb
 | cons h t ih=>
  intro b hb;rcases gX.1 hb with rfl | hb
  ·exact h
  ·exact ih b hb
structure LF (f:vO) where
 I:Type
 var:f.den->I
 put:f.den->I->f.den
 go:(R:Type)->f.den->(vp->St->Option R)->(I->Option R)->I->Option R
def LF.fn {f:vO} (l:LF f) (N:Nat):A3:=fun R sl os k=>f.take sl os fun d=>iter (l.go R d k) N (l.var d)
def LF.st {f:vO} (l:LF f) (d:f.den) (x:l.I):List (Nat×z7)×List Obj:=(vY f.zj (l.put d x).1,vr f.z6 (l.put d x).2)
def N7 (c:Ctx) (r:Nat):Cut:=(c.cut r).getD ⟨[],[]⟩
structure KE (P:Program) where
 f:Nat
 c:Callee
 ok:qD P f c
def kE {P:Program} {f:Nat} {c:Callee} (h:qD P f c):KE P:=⟨f,c,h⟩
def Of {P:Program}:List (KE P)->Nat->List Callee
 | [],_=>[]
 | e :: l,f=>cond (Nat.beq e.f f) (e.c :: Of l f) (Of l f)
theorem DR {P:Program}:∀ l:List (KE P),A5 P (Of l)
 | [],f,c,h=>by simp [Of] at h
 | e :: l,f,c,h=>by
  simp only [Of] at h
  cases hb:Nat.beq e.f f with
  | true=>
   rw [hb] at h;rcases gX.1 h with rfl | h
   ·have:=zE hb;subst this;exact e.ok
   ·exact DR l f c h
  | false=>rw [hb] at h;exact DR l f c h
def zat:List (Nat×A3)->Nat->Option A3
 | [],_=>none
 | (i,v) :: l,j=>cond (Nat.beq i j) (some v) (zat l j)
def KX (P:Program):Type 1:={ c:Ctx // ub P c }
def F4:List Code->List Nat->Bool
 | [],[]=>true
 | b :: l,r :: rs=>(match yL b with
  | some r'=>Nat.beq r r'
  | none=>false) && !yD r rs && F4 l rs
 | _,_=>false
theorem Kl:∀ {l:List Code} {rs:List Nat},F4 l rs=true->∀ b∈l,∃ r∈rs,b=uE r l
 | [],_,_,b,hb=>by simp at hb
 | c :: l,[],h,_,_=>by simp [F4] at h
 | c :: l,r :: rs,h,b,hb=>by
  simp only [F4,zA] at h;obtain ⟨⟨h1,h2⟩,h3⟩:=h;split at h1
  ·rename_i r' hr;obtain rfl:=zE h1;rcases gX.1 hb with rfl | hb
   ·exact ⟨r,Nk ..,by simp [uE,hr]⟩
   ·obtain ⟨q,hq,e⟩:=Kl h3 b hb;refine ⟨q,LZ _ hq,?_⟩;have:Nat.beq q r=false:=by
     cases hqr:Nat.beq q r with
     | false=>rfl
     | true=>
      obtain rfl:=zE hqr;have:=jX.2 hq;rw [this] at h2;simp at h2
    simp only [uE,hr,this,zW];exact e
  ·simp at h1
def bOf (fn:Func):Code:=fn.body.getD .skip
inductive JA (c:Ctx) (fn:Func):List Nat->Prop
 | nil:JA c fn []
 | cons {r:Nat} {l:List Nat} (h:Zf c (uE r (yU (bOf fn)))) (t:JA c fn l):JA c fn (r :: l)
theorem JA.lf {c:Ctx} {fn:Func} {rs:List Nat} {f:vO} (r:Nat) (l:LF f) (h0:(yL (uE r (yU (bOf fn))),c.cut r,c.lp r)=(some r,some (N7 c r),some (l.fn c.fuel))) (hp:∀ d,l.put d (l.var d)=d)
  (h:∀ (R:Type) (k:vp->St->Option R) (d:f.den) (kb:List (Nat×z7)->List Obj->Option R) (x:l.I),
   jh c (uE r (yU (bOf fn))) (St.of (l.st d x).1 (l.st d x).2) (M8 c r (N7 c r) kb k)=l.go R d k (fun y=>kb (l.st d y).1 (l.st d y).2) x) (t:JA c fn rs):JA c fn (r :: rs):=by
 refine .cons ?_ t;simp only [gB] at h0;refine z6b (fun R d k=>iter (l.go R d k) c.fuel (l.var d)) h0.1 h0.2.1 h0.2.2 fun R k d=>?_
 have:=M3 (st:=l.st d) (h R k d) c.fuel (l.var d);simp only [LF.st,hp] at this;exact this
theorem JA.ok {c:Ctx} {fn:Func} {rs:List Nat} (h:JA c fn rs):∀ r∈rs,Zf c (uE r (yU (bOf fn))):=by
 induction h with
 | nil=>intro r hr;simp at hr
 | cons h t ih=>
  intro r hr;rcases gX.1 hr with rfl | hr
  ·exact h
  ·exact ih r hr
def fnB (P : Program) (fn : Func) (c : Ctx) (rs : List Nat) : Bool := P.follows .mixedOrders && !(fn.name == "runtime.NumGoroutine") && Nat.beq c.ntmps fn.ntmps && fn.body.isSome && F4 (yU (bOf fn)) rs
theorem FT {fn:Func} (h:fn.body.isSome=true):fn.body=some (bOf fn):=by
 unfold bOf
 cases hb:fn.body with
 | none=>rw [hb] at h;simp at h
 | some b=>rfl
theorem z0c {P:Program} {f:Nat} {fn:Func} {p:kG} {ts:List Ty} {F:p.den->Option (jv ts)} (c:KX P) {rs:List Nat} (hf:P.funcs[f]? = some fn)
  (hB:(fnB P fn c.1 rs && Nat.ble p.len fn.ntmps && Y1 ts && Nat.ble ts.length 6)=true) (WJ:JA c.1 fn rs)
  (heq:∀ d,z1q c.1 ts fn.results.toList (bOf fn) (entry p d)=F d):qD P f (.pure p ts F):=by
 simp only [fnB,zA] at hB;obtain ⟨⟨⟨⟨⟨⟨⟨h1,h2⟩,h3⟩,h4⟩,h5⟩,h6⟩,h7⟩,h8⟩:=hB;exact zm5 hf (FT h4) (by simpa using h2) c.2 h1 (zE h3) (zL h6) h7 (zL h8)
  (fun b hb=>by
   obtain ⟨r,hr,e⟩:=Kl h5 b hb;rw [e];exact WJ.ok r hr) heq
def GZ:List ResultVar->List Nat->Bool
 | [],[]=>true
 | .tmp i :: l,j :: m=>Nat.beq i j && GZ l m
 | _,_=>false
theorem EA:∀ {l:List ResultVar} {m:List Nat},GZ l m=true->l=m.map ResultVar.tmp
 | [],[],_=>rfl
 | .tmp i :: l,j :: m,h=>by
  simp only [GZ,zA] at h
  rw [zE h.1,EA h.2];rfl
 | [],_ :: _,h=>by simp [GZ] at h
 | .cell _ _ :: _,_,h=>by simp [GZ] at h
 | .tmp _ :: _,[],h=>by simp [GZ] at h
def ZK:List ResultVar->List Nat
 | .tmp i :: l=>i :: ZK l
 | _=>[]
def UN:List Nat->List Nat->Bool
 | [],[]=>true
 | a :: l,b :: m=>Nat.beq a b && UN l m
 | _,_=>false
theorem F9:∀ {l m:List Nat},UN l m=true->l=m
 | [],[],_=>rfl
 | a :: l,b :: m,h=>by
  simp only [UN,zA] at h
  rw [zE h.1,F9 h.2]
 | [],_ :: _,h=>by simp [UN] at h
 | _ :: _,[],h=>by simp [UN] at h
theorem OS {P:Program} {f:Nat} {fn:Func} {fin zi:vO} {jI:List Nat} {F:fin.den->Option zi.den} (c:KX P) {rs:List Nat} (hf:P.funcs[f]? = some fn)
  (hB:(fnB P fn c.1 rs && Nat.ble fin.zj.length fn.ntmps && UN (BB zi.zj) (jI++ZK fn.results.toList) && QM (jI++ZK fn.results.toList) && GZ fn.results.toList (ZK fn.results.toList) && Hx fin.zj.length (bOf fn) jI)=true) (WJ:JA c.1 fn rs)
  (heq:∀ d:fin.den,z1p c.1 zi (bOf fn) (St.of (vY fin.zj d.1) (vr fin.z6 d.2))=F d):qD P f (.mut fin jI zi F):=by
 simp only [fnB,zA] at hB;obtain ⟨⟨⟨⟨⟨⟨⟨⟨⟨h1,h2⟩,h3⟩,h4⟩,h5⟩,h6⟩,h7⟩,h8⟩,h9⟩,hA⟩:=hB;exact Oa hf (FT h4) (by simpa using h2) c.2 h1 (zE h3) (zL h6) (F9 h7) h8 (EA h9) (Hu hA)
  (fun b hb=>by
   obtain ⟨r,hr,e⟩:=Kl h5 b hb;rw [e];exact WJ.ok r hr) heq
theorem yQ {P:Program} {f:Nat} {T:Type} {C:T->Callee} {z:T} {s:T->T} (h0:qD P f (C z)) (hs:∀ r,qD P f (C r)->qD P f (C (s r))):∀ M:Nat,qD P f (C (Nat.rec (motive:=fun _=>T) z (fun _ r=>s r) M))
 | 0=>h0
 | M+1=>hs _ (yQ h0 hs M)
end Go.Kz
namespace Go.Kz
def wholeG (w:World):z8:=⟨fun b=>if b < w.heap.size then .ro else .zn,fun _ _=>undef,fun _=>0⟩
theorem V1 {w:World} {b:Nat} (h:b < w.heap.size):(wholeG w).tag b = .ro:=by simp [wholeG,h]
theorem Y0 {I:Type} {p:Nat->I->Prop}:(n:Nat)->(∀ i,i < n->∃ x,p i x)->∃ l:List I,l.length=n/\∀ (i:Nat) (h:i < l.length),p i (l.get ⟨i,h⟩)
 | 0,_=>⟨[],rfl,fun i h=>by simp at h⟩
 | n+1,h=>by
  obtain ⟨x,hx⟩:=h 0 (by omega);obtain ⟨l,hl,hp⟩:=Y0 (p:=fun i=>p (i+1)) n (fun i hi=>h (i+1) (by omega));refine ⟨x :: l,by simp [hl],fun i hi=>?_⟩
  cases i with
  | zero=>exact hx
  | succ i=>exact hp i (by simpa using hi)
theorem yF.cellsOf {P:Program} {T:TypeId} {t:Ty} (h:yF P T t):P.cellsOf T=t.size/\0 < t.size:=by
 obtain ⟨i,z,h1,h2,_,_,_,h3⟩:=h.info;simp [Program.cellsOf,h1,h2];omega
section
variable {H:Type} {enc:TypeId×Value->H} {P:Program} {w:World} {base:Nat} {spare:Nat->Bool} {held:Bool}
theorem GH {b off n:Nat} {cs:List Value} {c:Array Value} {e:TypeId} {fz:Nat×Nat} (hl:cs.length=n) (hc:∀ j,j < n->w.cell? ⟨b,off+j,none⟩=cs[j]?) (hb:w.heap[b]? = some (.cells c e fz)) (hn:0 < n) :
  off+n<=c.size/\qB c.toList off n=cs:=by
 have zQ:∀ j,j < n->c[off+j]? = cs[j]? := fun j hj=>by
  have:=hc j hj;simpa [World.cell?,hb] using this
 have hle:off+n<=c.size:=by
  have h1:=zQ (n-1) (by omega);have h2:cs[n-1]?≠none:=by simp;omega
  rw [<-h1] at h2;simp at h2;omega
 refine ⟨hle,?_⟩;apply Z2z;intro j;by_cases hj:j < n
 ·rw [<-zQ j hj];simp [qB,Z2v,hj]
 ·rw [Z3i (by rw [yV (by simpa using hle)];omega),Z3i (by rw [hl];omega)]
def LJ (enc:TypeId×Value->H) (P:Program) (w:World) (base:Nat) (spare:Nat->Bool) (held:Bool) (m:Nat):Prop:=∀ (k:Nat) (T:TypeId) (cs:List Value) (x:DataW H×List MemPlace),
 qq P (.tree k) T->DataW.trod enc P w base spare held m T cs=some x->∃ d,zC w (wholeG w) none (.tree k) d cs
mutual
theorem W5 {N:Nat} (hF:∀ m,m<=N->LJ enc P w base spare held m):(t:Ty)->{T:TypeId}->{fuel:Nat}->{cs:List Value}->{x:DataW H×List MemPlace}->fuel<=N->t.plain=true->qq P t T->DataW.trod enc P w base spare held fuel T cs=some x->∃ d,zC w (wholeG w) none t d cs
 | .int k,T,fuel,cs,x,hN,_,hT,h=>by
  simp only [qq] at hT;obtain ⟨m,rfl,_,hw⟩:=DataW.trod_int hT.1 h;simp only [Lit.wf,zA,jL] at hw
  exact ⟨m,rfl,hw.1,hw.2⟩
 | .bool,T,fuel,cs,x,hN,_,hT,h=>by
  simp only [qq] at hT;obtain ⟨b,rfl,_⟩:=DataW.trod_bool hT.1 h
  exact ⟨b,rfl⟩
 | .str,T,fuel,cs,x,hN,_,hT,h=>by
  simp only [qq] at hT;obtain ⟨s,rfl,_,hs⟩:=DataW.trod_string hT.1 h
  exact ⟨s.data.toList,s,rfl,rfl,hs⟩
 | .unit,T,fuel,cs,x,hN,_,hT,h=>by simp only [qq] at hT
 | .pair a b,T,fuel,cs,x,hN,hp,hT,h=>by
  simp only [qq] at hT;obtain ⟨⟨fs,hu,Ct⟩,vk⟩:=hT;obtain ⟨xs,n,hfu,_,hl,hlen,hf⟩:=DataW.trod_struct hu h;obtain ⟨hcz,_⟩:=vk.cellsOf;rw [hcz] at hl;obtain ⟨d,hd⟩:=QE hF (.pair a b) (off:=0) (cs:=cs) (n:=n) (by omega) hp Ct (by rw [hl];simp) (fun i f hi=>by
   have vf:fs[i]? = some f:=by rw [<-Z22];exact hi
   have:=hf i f vf;have qJ:i < xs.length:=by rw [hlen];exact (Z28.1 vf).1
   exact ⟨xs[i],by rw [this];simp [qJ]⟩)
  refine ⟨d,?_⟩;have:qB cs 0 (Ty.pair a b).size=cs:=by rw [<-hl];exact kU cs
  rw [this] at hd
  exact hd
 | .arr n t,T,fuel,cs,x,hN,hp,hT,h=>by
  simp only [qq] at hT;obtain ⟨⟨E,hu,hE⟩,vk⟩:=hT;obtain ⟨hcz,_⟩:=vk.cellsOf;obtain ⟨hez,_⟩:=hE.info.cellsOf;obtain ⟨xs,m,hfu,_,hl,hlen,hx⟩:=DataW.trod_array hu h;rw [hcz] at hl;rw [hez] at hx;have each:∀ i,i < n->∃ d,zC w (wholeG w) none t d (qB cs (i*t.size) t.size):=fun i hi=>by
   have h1:=hx i hi;have h2:xs[i]? = some xs[i]:=by simp [hlen,hi]
   rw [h2] at h1;exact W5 hF t (by omega) (by simpa [Ty.plain] using hp) hE h1
  obtain ⟨l,HT,jo⟩:=Y0 n each
  exact ⟨l,HT,hl,fun i hi=>zC.qt (Ty.xN (by simpa [Ty.plain] using hp)) (jo i hi)⟩
 | .sl false t,T,fuel,cs,x,hN,hp,hT,h=>by
  simp only [qq] at hT;obtain ⟨⟨E,hu,hE⟩,_⟩:=hT;obtain ⟨hez,Cm⟩:=hE.info.cellsOf;rcases DataW.trod_slice hu h with ⟨rfl,_⟩ | ⟨a,len,cap,elems,rest,n,hfu,rfl,_,hb,Gi,Gm,hlen,jo,_⟩
  ·exact ⟨([]:List t.den),none,0,rfl,yS _,jE _,fun hn=>absurd rfl hn⟩
  ·rw [hez] at jo;have each:∀ i,i < len->∃ d,(∃ Bf,w.cells? base (a.add (i*t.size)) t.size=some Bf/\zC w (wholeG w) none t d Bf):=fun i hi=>by
    have h1:=jo i hi;have h2:elems[i]? = some elems[i]:=by simp [hlen,hi]
    rw [h2,VN] at h1;obtain ⟨Bf,hc,hy⟩:=h1;obtain ⟨d,hd⟩:=W5 hF t (by omega) (by simpa [Ty.plain] using hp) hE hy;exact ⟨d,Bf,hc,hd⟩
   obtain ⟨l,HT,hl⟩:=Y0 len each;refine ⟨l,some a,cap,by rw [HT],by rw [HT];exact Gi,Gm,fun vI=>?_⟩;have hlp:0 < len:=by rw [<-HT];exact Z3u.2 vI
   obtain ⟨cs0,EZ,_⟩:=hl 0 (by rw [HT];exact hlp);obtain ⟨_,Xj,zf5⟩:=World.cells?_some EZ;have hz:=zf5 0 Cm;simp only [Z2f] at hz;have ha0:(a.add 0).add 0=a:=by simp [Addr.add]
   rw [ha0] at hz;have TS:cs0[0]?≠none:=by
    rw [gj (by rw [Xj];exact Cm)];simp
   rw [<-hz] at TS;obtain ⟨b,off,spot⟩:=a;have hsp:spot=none/\∃ c e fz,w.heap[b]? = some (.cells c e fz):=by
    simp only [World.cell?] at TS;split at TS
    ·rename_i c e fz hblk;refine ⟨?_,c,e,fz,hblk⟩
     cases spot with
     | none=>rfl
     | some s=>simp at TS
    ·simp at TS
   obtain ⟨rfl,c,e,fz,hblk⟩:=hsp;have qJ:b < w.heap.size:=(Z28.1 hblk).1;have elt:∀ (i:Nat) (hi:i < l.length),off+i*t.size+t.size<=c.size/\zC w (wholeG w) none t (l.get ⟨i,hi⟩) (qB c.toList (off+i*t.size) t.size):=fun i hi=>by
    obtain ⟨Bf,BO,hr⟩:=hl i hi;obtain ⟨_,OI,G4⟩:=World.cells?_some BO;have zuw:(⟨b,off,none⟩:Addr).add (i*t.size)=⟨b,off+i*t.size,none⟩:=Addr.add_lit ..;rw [zuw] at G4;have h2:=GH (b:=b) (off:=off+i*t.size) (n:=t.size) OI (fun j hj=>by
     have:=G4 j hj;rw [Addr.add_lit] at this;exact this) hblk Cm
    exact ⟨h2.1,by rw [h2.2];exact hr⟩
   refine ⟨b,off,c,e,fz,rfl,V1 qJ,hblk,?_,fun i hi=>(elt i hi).2⟩;have:=(elt (l.length-1) (by omega)).1;have hm:(l.length-1+1)*t.size=l.length*t.size:=by rw [Nat.sub_add_cancel (by omega)]
   rw [wz] at hm
   omega
 | .sl true _,_,_,_,_,_,hp,_,_=>by simp [Ty.plain] at hp
 | .ptr _,_,_,_,_,_,hp,_,_=>by simp [Ty.plain] at hp
 | .fn _ _,_,_,_,_,_,hp,_,_=>by simp [Ty.plain] at hp
 | .tree k,T,fuel,cs,x,hN,_,hT,h=>hF fuel hN k T cs x hT h
theorem QE {N:Nat} (hF:∀ m,m<=N->LJ enc P w base spare held m):(t:Ty)->{fs:List Field}->{off:Nat}->{cs:List Value}->{n:Nat}->n<=N->t.plain=true->jm P t fs off->off+t.size<=cs.length->
  (∀ (i:Nat) (f:Field),fs[i]? = some f->∃ x,DataW.trod enc P w base spare held n f.type ((cs.drop f.offset).take (P.cellsOf f.type))=some x)->∃ d,zC w (wholeG w) none t d (qB cs off t.size)
 | .pair a b,f :: fs,off,cs,n,hN,hp,Ct,hl,h=>by
  simp only [jm] at Ct;obtain ⟨ho,hta,htb⟩:=Ct;simp only [Ty.plain,zA] at hp;simp only [Ty.size] at hl;obtain ⟨y,hy⟩:=h 0 f rfl;rw [ho,(hta.info.cellsOf).1] at hy;obtain ⟨d1,hd1⟩:=W5 hF a hN hp.1 hta hy;obtain ⟨d2,hd2⟩:=QE hF b (off:=off+a.size) hN hp.2 htb (by omega) (fun i g hg=>h (i+1) g (by simpa using hg));refine ⟨(d1,d2),qB cs off a.size,qB cs (off+a.size) b.size,?_,hd1,hd2⟩;simp only [qB,Ty.size,List.take_add]
  rw [Ng]
 | .unit,[],off,cs,n,_,_,_,_,_=>⟨(),by simp [qB,Ty.size,zC]⟩
 | .unit,_ :: _,_,_,_,_,_,h,_,_=>by simp only [jm] at h
 | .pair _ _,[],_,_,_,_,_,h,_,_=>by simp only [jm] at h
 | .int _,_,_,_,_,_,_,h,_,_=>by simp only [jm] at h
 | .bool,_,_,_,_,_,_,h,_,_=>by simp only [jm] at h
 | .str,_,_,_,_,_,_,h,_,_=>by simp only [jm] at h
 | .arr _ _,_,_,_,_,_,_,h,_,_=>by simp only [jm] at h
 | .sl _ _,_,_,_,_,_,_,h,_,_=>by simp only [jm] at h
 | .ptr _,_,_,_,_,_,_,h,_,_=>by simp only [jm] at h
 | .fn _ _,_,_,_,_,_,_,h,_,_=>by simp only [jm] at h
 | .tree _,_,_,_,_,_,_,h,_,_=>by simp only [jm] at h
end
theorem Cg (TE:RecOK P):(N:Nat)->∀ m,m<=N->LJ enc P w base spare held m
 | 0,m,hm=>fun k T cs x hT h=>by
  simp only [qq] at hT;obtain ⟨⟨_,_,fs,hu⟩,_⟩:=hT;obtain ⟨_,n,hfu,_⟩:=DataW.trod_struct hu h
  omega
 | N+1,m,hm=>fun k T cs x hT h=>by
  by_cases hmN:m<=N
  ·exact Cg TE N m hmN k T cs x hT h
  simp only [qq] at hT;obtain ⟨⟨rfl,hon,_⟩,_⟩:=hT;have hp:=TE k hon;simp only [qq] at hp;obtain ⟨⟨fs,hu,Ct⟩,vk⟩:=hp;obtain ⟨xs,n,hfu,_,hl,hlen,hf⟩:=DataW.trod_struct hu h;obtain ⟨hcz,_⟩:=vk.cellsOf;rw [hcz] at hl;obtain ⟨d,hd⟩:=QE (Cg TE N) (.pair (pn k) (pf k)) (off:=0) (cs:=cs) (n:=n) (by omega) (B8 k) Ct (by rw [hl];simp) (fun i f hi=>by
   have vf:fs[i]? = some f:=by rw [<-Z22];exact hi
   have:=hf i f vf;have qJ:i < xs.length:=by rw [hlen];exact (Z28.1 vf).1
   exact ⟨xs[i],by rw [this];simp [qJ]⟩)
  have:qB cs 0 (Ty.pair (pn k) (pf k)).size=cs:=by rw [<-hl];exact kU cs
  rw [this] at hd;refine ⟨Ld k d,zC.Vd.2 ?_⟩;rw [Bz];exact hd
theorem OQ {t:Ty} {T:TypeId} {v:Value} {r:Reach} (hp:t.plain=true) (hT:qq P t T) (h:Value.okWide P w r base T v):v=jA t.sk.isAgg v.cells.toList:=by
 cases t with
 | int k=>simp only [qq] at hT;obtain ⟨n,rfl⟩:=Go.WideShapes.okWide_int hT.1 h;rfl
 | bool=>simp only [qq] at hT;obtain ⟨n,rfl⟩:=Go.WideShapes.okWide_bool hT.1 h;rfl
 | str=>simp only [qq] at hT;obtain ⟨n,rfl⟩:=Go.WideShapes.okWide_string hT.1 h;rfl
 | unit=>simp only [qq] at hT
 | pair a b=>
  simp only [qq] at hT;obtain ⟨⟨fs,hu,_⟩,_⟩:=hT;obtain ⟨cs,rfl,_⟩:=Z5v hu h
  simp [jA,Ty.sk,Sk.isAgg,Value.cells]
 | arr n t=>
  simp only [qq] at hT;obtain ⟨⟨E,hu,_⟩,_⟩:=hT;simp only [Value.okWide,hu] at h;obtain ⟨cs,rfl,_⟩:=h
  simp [jA,Ty.sk,Sk.isAgg,Value.cells]
 | sl o t=>
  simp only [qq] at hT;obtain ⟨⟨E,hu,_⟩,_⟩:=hT;obtain ⟨a,l,c,rfl⟩:=Go.WideShapes.okWide_slice hu h
  rfl
 | ptr t=>simp [Ty.plain] at hp
 | fn f t=>simp [Ty.plain] at hp
 | tree k=>
  simp only [qq] at hT;obtain ⟨⟨_,_,fs,hu⟩,_⟩:=hT;obtain ⟨cs,rfl,_⟩:=Z5v hu h;simp [jA,Ty.sk,Sk.isAgg,Value.cells]
theorem arg_open {t:Ty} {T:TypeId} {v:Value} {r:Reach} {zmf:Nat} {d:DataW H} {ps:List MemPlace} (hp:t.plain=true) (hT:qq P t T) (hv:Value.okWide P w r zmf T v) (h:DataW.Trod enc P w base spare held T v d ps) (TE:RecOK P:=by intro k h;simp [recOn] at h) :
  ∃ x,t.zV=true/\∃ cs,zC w (wholeG w) none t x cs/\v=jA t.sk.isAgg cs:=by
 obtain ⟨fuel,h⟩:=h;obtain ⟨x,hx⟩:=W5 (Cg TE fuel) t (yS _) hp hT h;exact ⟨x,Ty.xN hp,_,hx,OQ hp hT hv⟩
end
theorem law_walk {P : Program} {f : Nat} {fn : Func} {body : Code} {p : kG} {F : p.den -> Option Bool} {d : p.den} {vals : List Value} {w : World} (hf : P.funcs[f]? = some fn) (hb : fn.body = some body) (Zw : (fn.name == "runtime.NumGoroutine") = false)
  (hc:qD P f (.pure p [.bool] F)) (hF:F d=some true) (ha:xA w (wholeG w) p d vals) (AU:Known w (wholeG w):=by intro b e he;simp [Go.Kz.tab] at he) :
  Calls P f vals.toArray w fun e w'=>e = .returned (.bool true)/\Go.RowKit.Below w.heap.size w w':=by
 have IF : ¬ fn.name = "runtime.NumGoroutine" := by simpa using Zw
 have OM:(callFunc f vals.toArray).run P w = .ok (.enter f vals.toArray) w:=by simp [callFunc,hf,hb,IF]
 rcases hc w (wholeG w) d vals true (fun b hb=>by
  simp only [wholeG] at hb ⊢;split at hb
  ·rename_i h;simp [h]
  ·simp at hb) AU ha hF with ⟨_,h⟩ | ⟨v,w',h,_⟩
 ·refine Calls.mono h fun e w' he=>?_
  obtain ⟨v,rfl,g',qM,VZ⟩:=he;have hv:=ua VZ.2;refine ⟨by rw [hv],qM.os,qM.tape,qM.output,qM.size,fun k hk=>(qM.vj k hk (.inr (V1 hk))).1⟩
 ·rw [OM] at h;cases h
theorem known_int {w:World} {b n:Nat} {k:IntKind} {l:List Int} (hl:l.length=n) (hn:0 < n) (hr:∀ x∈l,k.min<=x/\x<=k.max) (h:∀ j,j < n->w.cell? ⟨b,j,none⟩=some (.int k (l.getD j 0))) :
  zC w (wholeG w) none (.ptr (.arr n (.int k))) l [.pointer (some ⟨b,0,none⟩)]:=by
 have h0:=h 0 hn;have:∃ c e fz,w.heap[b]? = some (.cells c e fz):=by
  simp only [World.cell?] at h0;split at h0
  ·rename_i c e fz hb;exact ⟨c,e,fz,hb⟩
  ·simp at h0
 obtain ⟨c,e,fz,hb⟩:=this;have qJ:=(Z28.1 hb).1;have pN:∀ j,j < n->w.cell? ⟨b,0+j,none⟩=(l.map (Value.int k))[j]? := by
  intro j hj;rw [Zp,h j hj];have v7:j < l.length:=by omega
  simp [v7]
 obtain ⟨h1,h2⟩:=GH (by simp [hl]) pN hb hn;refine ⟨b,0,c,e,fz,rfl,V1 qJ,hb,by simp only [Ty.size];omega,hl,?_,fun i hi=>?_⟩
 ·have:=yV (l:=c.toList) (off:=0) (n:=n*1) (by simp;omega);simpa [Ty.size] using this
 ·have e1:(Ty.arr n (.int k)).size=n:=by simp [Ty.size]
  have e2:(Ty.int k).size=1:=rfl;rw [e1,h2,e2];refine ⟨?_,hr _ (Z2c _ _)⟩;have vf:i < l.length:=hi;simp only [qB,Z2a,HV];rw [<-List.map_drop,Z23 vf];rfl
end Go.Kz
namespace Go.Kz
theorem YN {I R:Type} {Body:(I->Option R)->I->Option R} {r:Option R} (Inv:I->Prop) (m:I->Nat)
  (h:∀ x w,Inv x->(∀ y,Inv y->m y < m x->w y=r)->Body w x=r):∀ (n:Nat) (x:I),Inv x->m x < n->iter Body n x=r
 | 0,_,_,hn=>by omega
 | n+1,x,hx,hn=>h x _ hx fun y hy hm=>YN Inv m h n y hy (by omega)
theorem Cc {I:Type} (l:List I) (k:Nat):idx l (k:Int)=l[k]? := rfl
theorem Vx {I:Type} {l:List I} {i:Int} (h0:0<=i) (h1:i < l.length):idx l i=some (l[i.toNat]'(by omega)):=by
 obtain ⟨k,rfl⟩:=Int.eq_ofNat_of_zero_le h0;simp only [Cc,RV];exact gj (by omega)
theorem zJ {I:Type} {l:List I} {k:Nat} (h:k < l.length):idx l (k:Int)=some l[k]:=by simp [Cc,h]
theorem ZF {I:Type} {l:List I} {k:Nat} (h:k < l.length):gU l (k:Int)=true:=by simp [gU,h]
theorem qx {R:Type} {b:Bool} {x:Option R} (h:b=true):qR b x=x:=by rw [h];rfl
theorem zw {n:Int} (h1 : -9223372036854775808<=n) (h2:n<=9223372036854775807):zz n=n:=by
 simp only [zz,IntKind.wrap,IntKind.min,IntKind.max,IntKind.bits,IntKind.signed];simp;omega
theorem z4s {n:Int} (h1:0<=n) (h2:n<=18446744073709551615):Aq n=n:=by
 simp only [Aq,IntKind.wrap,IntKind.min,IntKind.max,IntKind.bits,IntKind.signed];simp;omega
end Go.Kz
namespace Go.Kz
variable {J R:Type} {r:Option R}
theorem zma (n:Nat):decide ((n:Int) < (n:Int))=false:=by simp
theorem zP {I:Type} {l:List I} {k:Nat} (h:k < l.length):decide ((k:Int) < len l)=true:=by simp [len,h]
theorem zM {I:Type} (l:List I):decide (((l.length:Nat):Int) < len l)=false:=by simp [len]
theorem z5h {I:Type} {p:List I->Prop} (h0:p []) (h1:∀ l x,p l->p (l++[x])) (l:List I):p l:=by
 have:∀ n (l:List I),l.length=n->p l:=by
  intro n
  induction n with
  | zero=>intro l hl;have:=Z2h hl;subst this;exact h0
  | succ n ih=>
   intro l hl;have vI:l≠[]:=by intro h;subst h;simp at hl
   rw [<-List.dropLast_concat_getLast vI];exact h1 _ _ (ih _ (by simp [hl]))
 exact this _ l rfl
end Go.Kz
