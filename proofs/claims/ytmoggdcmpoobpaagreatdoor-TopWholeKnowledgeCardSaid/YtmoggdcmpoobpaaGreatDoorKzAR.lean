/-
  Functions that ask first whether a slice of the caller's is nil: both answers lead to the same result.
-/
import Derived.Test.YtmoggdcmpoobpaaGreatDoorKzAM
import Derived.Laws.Cover3
set_option linter.unusedVariables false
set_option linter.unusedSimpArgs false
namespace Go.Kz
variable {R:Type}
def zdr (c:Ctx) (ts:List Ty) (rs:List ResultVar):vp->St->Option (jv ts):=fun e J=>match e with
 | .exit _=>none
 | _=>norm c.res J fun J=>Vo c.tt J ts rs fun r _=>some r
theorem OT {P:Program} {f:Nat} {fn:Func} {c:Ctx} {p:kG} {ts:List Ty} {F:p.den->Option (jv ts)} {A B C:Code} {id:Nat} {o1 o2:Oper} {s d1 d2:Nat} {T T':TypeId} {t tT:Ty} {oT:Bool} {J0:p.den->St}
  (hf : P.funcs[f]? = some fn) (Zw : (fn.name == "runtime.NumGoroutine") = false) (hb : fn.body = some (.seq A (.seq (.seq (.region id #[o1, o2] false) C) B)))
  (hc:ub P c) (hm:P.follows .mixedOrders=true) (hn:c.ntmps=fn.ntmps) (hp:p.len<=fn.ntmps) (ht:Y1 ts=true)
  (hlA:∀ b∈yU A,Zf c b) (hlB:∀ b∈yU B,Zf c b) (hlC:∀ b∈yU C,Zf c b)
  (hA:∀ d,jh c A (entry p d) (fun e J=>match e with | .normal=>some J | _=>none)=some (J0 d))
  (h1:o1.op = .move (.tmp s)) (h1d:o1.dst=some d1) (h1g:o1.guard=none)
  (h2:o2.op = .binOp .eql T (.tmp d1) (.const (.slice none 0 0)) T') (h2d:o2.dst=some d2) (h2g:o2.guard=none)
  (hd1:d1 < c.ntmps) (hd2:d2 < c.ntmps) (hT:c.tt T=some (.sl oT tT))
  (l:p.den->List t.den) (hs:∀ d,(J0 d).zj s=some (.data (.sl false t) (l d)))
  (heq:∀ d b,(b=true->l d=[])->jh c C (((J0 d).set d1 (.data (.sl false t) (l d))).set d2 (.data .bool b)) (z6h (z6j (cutAt c B) (jh c B)) (zdr c ts fn.results.toList))=F d):qD P f (.pure p ts F):=by
 intro w g d vals r zH AU hargs hF;left;refine ⟨?_,?_⟩
 ·have IF : ¬ fn.name = "runtime.NumGoroutine" := by simpa using Zw
  simp [callFunc,hf,hb,IF]
 obtain ⟨zq,vQ⟩:=H3 zH AU hargs hp;rw [<-hn] at zq;refine calls_of_wp hf hb ?_;rw [<-hn];have hQ':∀ ch a w',¬ bodyPost P fn (fun e w'=>∃ v,e = .returned v/\∃ g',Ext w g w' g'/\Kg w' g' (zx ts r 0) v) (.panic ch) a w':=by
  intro ch a w h;obtain ⟨_,v,h,_⟩:=h;cases h
 generalize hQd:bodyPost P fn (fun e w'=>∃ v,e = .returned v/\∃ g',Ext w g w' g'/\Kg w' g' (zx ts r 0) v)=Q at hQ' ⊢;have fin:z2j c.ntmps g w (zdr c ts fn.results.toList) r (fun _=>True) Q:=by
  subst hQd;intro e J' g' a' w' hk qP gD WV _;have fin:∀ {J':St},norm c.res J' (fun J=>Vo c.tt J ts fn.results.toList fun r _=>some r)=some r->zK c.ntmps g' w' a' J'->qY g' J'->
    ∃ v,(results fn a'.tmps).run P w' = .ok v w'/\∃ g',Ext w g w' g'/\Kg w' g' (zx ts r 0) v:=by
   intro J' hk qP WV;obtain ⟨J1,g1,h1,yC,yP,_⟩:=YE qP WV hk;obtain ⟨v,g2,hr,w3,VZ⟩:=Sg (P:=P) hc.tt yC ht h1;exact ⟨v,hr,g2,(gD.trans yP).trans w3,VZ⟩
  cases e with
  | exit id=>simp [zdr] at hk
  | normal=>
   obtain ⟨v,h1,h2⟩:=fin hk qP WV
   exact ⟨qP.defers,v,h1,v,rfl,h2⟩
  | ret=>
   obtain ⟨v,h1,h2⟩:=fin hk qP WV;exact ⟨qP.defers,v,h1,v,rfl,h2⟩
 refine wp_seq (wa hc hm A hlA (fun ch a w h=>hQ' ch a w h) (hA d) zq vQ ?_);intro e J1 g1 a1 w1 Zk yC yP Q7 _
 cases e with
 | exit i=>simp at Zk
 | ret=>simp at Zk
 | normal=>
  simp only [zI] at Zk;subst Zk;show Code.wp P _ _ a1 w1;refine wp_seq (wp_seq (wp_region ?_));obtain ⟨v,hv,zR⟩:=yC.zj s _ (hs d);have Hb:a1.eval (.tmp s)=v:=by simp [Act.eval,Z2m,hv]
  have hr:List.range (#[o1,o2]:Array Oper).size=[0,1]:=rfl;rw [hr];simp only [wpOps,List.getElem?_toArray,Z5d,List.getElem?_cons_succ,um h1g,um h2g,Dn];left;have wY:zK c.ntmps g1 w1 (a1.put o1.dst v) ((J0 d).set d1 (.data (.sl false t) (l d))):=by
   rw [h1d];exact yC.put hd1 zR
  refine Kv (v:=v) (by simp [execOp,h1,Hb]) ?_;left;obtain ⟨v2,uc,FJ⟩:=wY.zj d1 (.data (.sl false t) (l d)) (by simp [St.set,KK,Lu]);have zuc:(a1.put o1.dst v).eval (.tmp d1)=v2:=by simp [Act.eval,Z2m,uc]
  have hvd:∃ ad n cap,v2 = .slice ad n cap/\(ad.isNone=true->l d=[]):=by
   simp only [zl] at FJ;obtain ⟨cs,⟨_,ad,cap,rfl,_,_,vI⟩,Qj⟩:=FJ;refine ⟨ad,_,cap,by rw [Qj];rfl,fun Zn=>?_⟩;by_cases hl:l d=[]
   ·exact hl
   ·obtain ⟨b,off,c',e,fz,he,_⟩:=vI hl;rw [he] at Zn;simp at Zn
  obtain ⟨ad,n,cap,rfl,TN⟩:=hvd;have hTu:=hc.tt _ _ hT;simp only [qq] at hTu;obtain ⟨⟨E,hTE,_⟩,_⟩:=hTu;have zb:(execOp (a1.put o1.dst v).eval o2).run P w1 = .ok (.value (.bool ad.isNone)) w1:=by
   have:=run_equal_slice_nil (P:=P) w1 T E ad n cap hTE;have h3:(binOp .eql T (.slice ad n cap) (.slice none 0 0)).run P w1 = .ok (.bool ad.isNone) w1:=by
    simp only [binOp];simp [this]
   have EZ:(a1.put o1.dst v).eval (.const (.slice none 0 0)) = .slice none 0 0:=rfl;simp [execOp,h2,zuc,EZ,eqGuard,h3]
  refine Kv zb ?_;have IC:zK c.ntmps g1 w1 ((a1.put o1.dst v).put o2.dst (.bool ad.isNone)) (((J0 d).set d1 (.data (.sl false t) (l d))).set d2 (.data .bool ad.isNone)):=by
   rw [h2d];exact wY.put hd2 (wL _)
  have hf3:qY g1 (((J0 d).set d1 (.data (.sl false t) (l d))).set d2 (.data .bool ad.isNone)):=by
   intro m Xy;exact ((Q7 m Xy).set d1 (by simp [z7.ids])).set d2 (by simp [z7.ids])
  show Code.wp P _ _ _ _;have he:=heq d ad.isNone TN;rw [hF] at he;refine wa hc hm C hlC (Q:=Exit.then (B.wp P Q) Q) (fun ch a w h=>hQ' ch a w h) he IC hf3 ?_;intro e J4 g4 a4 w4 h4 z6q Mu hf4 _
  cases e with
  | normal=>
   simp only [z6h,z6j] at h4;show B.wp P Q a4 w4;split at h4
   ·obtain ⟨J5,g5,h5,zt3,zll,hf5⟩:=YE z6q hf4 h4;exact wa hc hm B hlB hQ' h5 zt3 hf5 (fin.later ((yP.trans Mu).trans zll) (fun _ _=>trivial))
   ·exact wa hc hm B hlB hQ' h4 z6q hf4 (fin.later (yP.trans Mu) (fun _ _=>trivial))
  | exit i=>exact fin.later (F':=fun _=>True) (yP.trans Mu) (fun _ h=>h) (.exit i) J4 g4 a4 w4 h4 z6q (Ext.refl _ _) hf4 trivial
  | ret=>exact fin.later (F':=fun _=>True) (yP.trans Mu) (fun _ h=>h) .ret J4 g4 a4 w4 h4 z6q (Ext.refl _ _) hf4 trivial
end Go.Kz
namespace Go.Kz
variable {R I Z J:Type}
def zp (x:Option R) (Q:R->Prop):Prop:=∃ r,x=some r/\Q r
theorem zp.ret {r:R} {Q:R->Prop} (h:Q r):zp (some r) Q:=⟨r,rfl,h⟩
theorem zp.mono {x:Option R} {P Q:R->Prop} (h:zp x P) (hq:∀ r,P r->Q r):zp x Q:=let ⟨r,h1,h2⟩:=h;⟨r,h1,hq r h2⟩
theorem zp.bind {m:Option I} {f:I->Option R} {Q:R->Prop} (h:zp m fun a=>zp (f a) Q):zp (m.bind f) Q:=by
 obtain ⟨a,rfl,r,h1,h2⟩:=h;exact ⟨r,h1,h2⟩
theorem zp.then {m:Option I} {f:I->Option R} {P:I->Prop} {Q:R->Prop} (h:zp m P) (hf:∀ a,P a->zp (f a) Q):zp (m.bind f) Q:=zp.bind (h.mono hf)
theorem zp.cond {b:Bool} {x y:Option R} {Q:R->Prop} (h1:b=true->zp x Q) (h2:b=false->zp y Q):zp (cond b x y) Q:=by
 cases b with
 | true=>exact h1 rfl
 | false=>exact h2 rfl
theorem zp.qR {b:Bool} {x:Option R} {Q:R->Prop} (hb:b=true) (h:zp x Q):zp (qR b x) Q:=by rw [hb];exact h
theorem zp.eq {x:Option R} {r:R} (h:zp x fun y=>y=r):x=some r:=by obtain ⟨y,rfl,rfl⟩:=h;rfl
theorem zp.iter {Q:R->Prop} {Body:(I->Option R)->I->Option R} (Inv:I->Prop) (m:I->Nat)
  (h:∀ x w,Inv x->(∀ y,Inv y->m y < m x->zp (w y) Q)->zp (Body w x) Q):∀ (n:Nat) (x:I),Inv x->m x < n->zp (iter Body n x) Q
 | 0,_,_,hn=>by omega
 | n+1,x,hx,hn=>h x _ hx fun y hy hm=>zp.iter Inv m h n y hy (by omega)
theorem zp.up {Q:R->Prop} {F:(Int×J->Option R)->Int×J->Option R} (Inv:Nat->J->Prop) (n:Nat)
  (step:∀ (k:Nat) (s:J) (w:Int×J->Option R),k < n->Inv k s->(∀ s',Inv (k+1) s'->zp (w ((k:Int)+1,s')) Q)->zp (F w ((k:Int),s)) Q)
  (last:∀ (s:J) (w:Int×J->Option R),Inv n s->zp (F w ((n:Int),s)) Q) (N k0:Nat) (hk:k0<=n) (hN:n-k0 < N) (s0:J) (h0:Inv k0 s0):zp (Go.Kz.iter F N ((k0:Int),s0)) Q:=by
 refine zp.iter (fun x=>∃ k:Nat,x.1=(k:Int)/\k<=n/\Inv k x.2) (fun x=>n-x.1.toNat) ?_ N _ ⟨k0,rfl,hk,h0⟩ (by simpa using hN);rintro ⟨x,s⟩ w ⟨k,hx,hk,hi⟩ hw;simp only at hx hi;subst hx;by_cases qJ:k < n
 ·exact step k s w qJ hi fun s' Ep=>hw _ ⟨k+1,by simp,by omega,Ep⟩ (by simp;omega)
 ·have:k=n:=by omega
  subst this;exact last s w hi
theorem zp.Kp {Q:R->Prop} {F:(Int->Option R)->Int->Option R} (Inv:Nat->Prop) (n:Nat)
  (step:∀ (k:Nat) (w:Int->Option R),k < n->Inv k->(Inv (k+1)->zp (w ((k:Int)+1)) Q)->zp (F w (k:Int)) Q)
  (last:∀ (w:Int->Option R),Inv n->zp (F w (n:Int)) Q) (N k0:Nat) (hk:k0<=n) (hN:n-k0 < N) (h0:Inv k0):zp (Go.Kz.iter F N (k0:Int)) Q:=by
 refine zp.iter (fun x=>∃ k:Nat,x=(k:Int)/\k<=n/\Inv k) (fun x=>n-x.toNat) ?_ N _ ⟨k0,rfl,hk,h0⟩ (by simpa using hN);rintro x w ⟨k,hx,hk,hi⟩ hw;subst hx;by_cases qJ:k < n
 ·exact step k w qJ hi fun Ep=>hw _ ⟨k+1,by simp,by omega,Ep⟩ (by simp;omega)
 ·have:k=n:=by omega
  subst this;exact last w hi
theorem Kn {F:(Int->Option R)->Int->Option R} (k0 n:Nat) (hk0:k0<=n) (p:Nat->Bool) (A B:Option R)
  (step:∀ (k:Nat) (w:Int->Option R),k0<=k->k < n->F w (k:Int)=if p k then w ((k:Int)+1) else B)
  (last:∀ (w:Int->Option R),F w (n:Int)=A) (N:Nat) (hN:n-k0 < N):iter F N (k0:Int)=if (List.range (n-k0)).all (fun j=>p (k0+j)) then A else B:=by
 have key:∀ (M k:Nat),k<=n-k0->n-k0-k < M->((List.range k).all (fun j=>p (k0+j))=true)->iter F M ((k0+k:Nat):Int)=if (List.range (n-k0)).all (fun j=>p (k0+j)) then A else B:=by
  intro M
  induction M with
  | zero=>intro k _ h;omega
  | succ M ih=>
   intro k hk hM hall;simp only [iter];by_cases qJ:k < n-k0
   ·rw [step (k0+k) _ (by omega) (by omega)]
    cases hp:p (k0+k) with
    | true=>
     simp only [Dn];have:=ih (k+1) qJ (by omega) (by rw [RW,List.all_append,hall];simp [hp]);rw [show (((k0+(k+1):Nat)):Int)=((k0+k:Nat):Int)+1 from by omega] at this
     exact this
    | false=>
     have:(List.range (n-k0)).all (fun j=>p (k0+j))=false:=by
      rw [List.all_eq_false];exact ⟨k,by simp [qJ],by simp [hp]⟩
     rw [this];simp
   ·have:k=n-k0:=by omega
    subst this;rw [show k0+(n-k0)=n from by omega,last,hall];simp
 have:=key N 0 (jE _) (by omega) rfl;simpa using this
theorem Ko {F:(Int->Option R)->Int->Option R} (l:List I) (p:I->Bool) (A B:Option R)
  (step:∀ (k:Nat) (w:Int->Option R) (hk:k < l.length),F w (k:Int)=if p l[k] then w ((k:Int)+1) else B)
  (last:∀ (w:Int->Option R),F w (l.length:Int)=A) (N:Nat) (hN:l.length < N):iter F N 0=if l.all p then A else B:=by
 have:=Kn (F:=F) 0 l.length (jE _) (fun k=>match l[k]? with
  | some x=>p x
  | none=>true) A B (fun k w _ hk=>by rw [step k w hk];simp [hk]) last N (by omega)
 rw [show ((0:Nat):Int)=0 from rfl] at this;rw [this];congr 1
 have e:((List.range (l.length-0)).all fun j=>match l[0+j]? with
  | some x=>p x
  | none=>true)=l.all p:=by
  rw [Z40,Z2k,Z2k];constructor
  ·intro h x hx;obtain ⟨i,hi,rfl⟩:=VI.1 hx;have:=h i (by simp [hi]);simpa [hi] using this
  ·intro h i hi;have vf:i < l.length:=by simpa using hi
   simp only [Zp,gj vf];exact h _ (kK vf)
 rw [e]
theorem zk {k:Nat} (h:k < 9223372036854775807):zz ((k:Int)+1)=(k:Int)+1:=zw (by omega) (by omega)
theorem uu {k:Nat} (h:0 < k) (h2:k < 9223372036854775807):zz ((k:Int)-1)=((k-1:Nat):Int):=by
 rw [zw (by omega) (by omega)];omega
end Go.Kz
namespace Go.Kz
theorem qo {P:Go.Program} {f:Nat} {p:kG} {res:List Ty} {F:p.den->Option (jv res)} (h:∀ d,F d=none):qD P f (.pure p res F):=by
 intro w g d vals r _ _ _ hF;rw [h] at hF;cases hF
theorem ZS {P:Go.Program} {f:Nat} {fin:vO} {jI:List Nat} {zi:vO} {F:fin.den->Option zi.den} (h:∀ d,F d=none):qD P f (.mut fin jI zi F):=by
 intro w g d vals r _ _ _ hF;rw [h] at hF;cases hF
def Ty.fits:(t:Ty)->t.den->Prop
 | .int k,n=>k.min<=n/\n<=k.max
 | .pair a b,(x,y)=>a.fits x/\b.fits y
 | .arr n t,l=>List.length l=n/\∀ x∈l,t.fits x
 | .sl _ t,l=>∀ x∈l,t.fits x
 | _,_=>True
theorem xL {w:World} {g:z8}:{o:AR}->{t:Ty}->{d:t.den}->{cs:List Value}->zC w g o t d cs->t.fits d
 | _,.int _,_,_,h=>h.2
 | _,.bool,_,_,_=>trivial
 | _,.str,_,_,_=>trivial
 | _,.unit,_,_,_=>trivial
 | _,.pair a b,(x,y),_,h=>by
  obtain ⟨c1,c2,rfl,h1,h2⟩:=h
  exact ⟨xL h1,xL h2⟩
 | _,.arr n t,l,_,h=>⟨h.1,fun x hx=>by
  obtain ⟨i,hi,rfl⟩:=VI.1 hx
  exact xL (h.2.2 i hi)⟩
 | _,.sl false t,l,_,h=>fun x hx=>by
  obtain ⟨a,cap,rfl,h1,h2,h3⟩:=h;obtain ⟨b,off,c,e,fz,ha,ht,hb,hs,he⟩:=h3 (by intro h0;rw [h0] at hx;simp at hx);obtain ⟨i,hi,rfl⟩:=VI.1 hx
  exact xL (he i hi)
 | some (_,_),.sl true t,l,_,h=>fun x hx=>by
  obtain ⟨a,cap,rfl,h0,h1,h2,h3⟩:=h;rcases h3 with ⟨_,rfl,_⟩ | ⟨b,off,c,e,ha,ht,hb,hs,he⟩
  ·simp at hx
  ·obtain ⟨i,hi,rfl⟩:=VI.1 hx
   exact xL (he i hi)
 | none,.sl true _,_,_,h=>h.elim
 | _,.ptr _,_,_,_=>trivial
 | _,.fn _ _,_,_,_=>trivial
 | _,.tree _,_,_,_=>trivial
theorem arg_fits {w:World} {g:z8} {t:Ty} {x:t.den} {v:Value} (h:t.zV=true/\∃ cs,zC w g none t x cs/\v=jA t.sk.isAgg cs):t.fits x:=by
 obtain ⟨_,cs,h,_⟩:=h;exact xL h
end Go.Kz
