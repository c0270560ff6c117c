/-
  Functions that ask first whether a slice of the caller's is nil: both answers lead to the same result.
-/
import Derived.Test.YtmoggdcmpoobpaaGreatDoorKzAM
import Derived.Laws.Cover3
set_option linter.unusedVariables false
set_option linter.unusedSimpArgs false
namespace Go.Kz
variable {R:Type}
def zjx (c:Ctx) (ts:List Ty) (rs:List ResultVar):vQ->St->Option (jw ts):=fun e J=>match e with
 | .exit _=>none
 | _=>norm c.res J fun J=>Wn c.tt J ts rs fun r _=>some r
theorem TE {P:Program} {f:Nat} {fn:Func} {c:Ctx} {p:gx} {ts:List Ty} {F:p.den->Option (jw ts)} {A B C:Code} {id:Nat} {o1 o2:Oper} {s d1 d2:Nat} {T T':TypeId} {t tT:Ty} {oT:Bool} {J0:p.den->St}
  (hf : P.funcs[f]? = some fn) (Zl : (fn.name == "runtime.NumGoroutine") = false) (hb : fn.body = some (.seq A (.seq (.seq (.region id #[o1, o2] false) C) B)))
  (hc:xG P c) (hm:P.follows .mixedOrders=true) (hn:c.ntmps=fn.ntmps) (hp:p.len<=fn.ntmps) (ht:Jp ts=true)
  (hlA:∀ b∈yA A,QA c b) (hlB:∀ b∈yA B,QA c b) (hlC:∀ b∈yA C,QA c b)
  (hA:∀ d,jm c A (entry p d) (fun e J=>match e with | .normal=>some J | _=>none)=some (J0 d))
  (h1:o1.op = .move (.tmp s)) (h1d:o1.dst=some d1) (h1g:o1.guard=none)
  (h2:o2.op = .binOp .eql T (.tmp d1) (.const (.slice none 0 0)) T') (h2d:o2.dst=some d2) (h2g:o2.guard=none)
  (hd1:d1 < c.ntmps) (hd2:d2 < c.ntmps) (hT:c.tt T=some (.sl oT tT))
  (l:p.den->List t.den) (hs:∀ d,(J0 d).zk s=some (.data (.sl false t) (l d)))
  (heq:∀ d b,(b=true->l d=[])->jm c C (((J0 d).set d1 (.data (.sl false t) (l d))).set d2 (.data .bool b)) (zc7 (zc9 (cutAt c B) (jm c B)) (zjx c ts fn.results.toList))=F d):qB P f (.pure p ts F):=by
 intro w g d vals r zM Mv hargs hF;left;refine ⟨?_,?_⟩
 ·have N8 : ¬ fn.name = "runtime.NumGoroutine" := by simpa using Zl
  simp [callFunc,hf,hb,N8]
 obtain ⟨zy,vT⟩:=Lx zM Mv hargs hp;rw [<-hn] at zy;refine calls_of_wp hf hb ?_;rw [<-hn];have hQ':∀ ch a w',¬ bodyPost P fn (fun e w'=>∃ v,e = .returned v/\∃ g',Ext w g w' g'/\Gp w' g' (zZ ts r 0) v) (.panic ch) a w':=by
  intro ch a w h;obtain ⟨_,v,h,_⟩:=h;cases h
 generalize hQd:bodyPost P fn (fun e w'=>∃ v,e = .returned v/\∃ g',Ext w g w' g'/\Gp w' g' (zZ ts r 0) v)=Q at hQ' ⊢;have fin:z8b c.ntmps g w (zjx c ts fn.results.toList) r (fun _=>True) Q:=by
  subst hQd;intro e J' g' a' w' hk qT pz KZ _;have fin:∀ {J':St},norm c.res J' (fun J=>Wn c.tt J ts fn.results.toList fun r _=>some r)=some r->zG c.ntmps g' w' a' J'->qP g' J'->
    ∃ v,(results fn a'.tmps).run P w' = .ok v w'/\∃ g',Ext w g w' g'/\Gp w' g' (zZ ts r 0) v:=by
   intro J' hk qT KZ;obtain ⟨J1,g1,h1,yP,yU,_⟩:=JM qT KZ hk;obtain ⟨v,g2,hr,wV,W4⟩:=z1t (P:=P) hc.tt yP ht h1;exact ⟨v,hr,g2,(pz.trans yU).trans wV,W4⟩
  cases e with
  | exit id=>simp [zjx] at hk
  | normal=>
   obtain ⟨v,h1,h2⟩:=fin hk qT KZ
   exact ⟨qT.defers,v,h1,v,rfl,h2⟩
  | ret=>
   obtain ⟨v,h1,h2⟩:=fin hk qT KZ;exact ⟨qT.defers,v,h1,v,rfl,h2⟩
 refine wp_seq (kU hc hm A hlA (fun ch a w h=>hQ' ch a w h) (hA d) zy vT ?_);intro e J1 g1 a1 w1 Qg yP yU Qc _
 cases e with
 | exit i=>simp at Qg
 | ret=>simp at Qg
 | normal=>
  simp only [zI] at Qg;subst Qg;show Code.wp P _ _ a1 w1;refine wp_seq (wp_seq (wp_region ?_));obtain ⟨v,hv,zS⟩:=yP.zk s _ (hs d);have hev:a1.eval (.tmp s)=v:=by simp [Act.eval,Z2p,hv]
  have hr:List.range (#[o1,o2]:Array Oper).size=[0,1]:=rfl;rw [hr];simp only [wpOps,List.getElem?_toArray,Z55,List.getElem?_cons_succ,xB h1g,xB h2g,WQ];left;have wO:zG c.ntmps g1 w1 (a1.put o1.dst v) ((J0 d).set d1 (.data (.sl false t) (l d))):=by
   rw [h1d];exact yP.put hd1 zS
  refine Gv (v:=v) (by simp [execOp,h1,hev]) ?_;left;obtain ⟨v2,xP,IA⟩:=wO.zk d1 (.data (.sl false t) (l d)) (by simp [St.set,GJ,Nc]);have q1s:(a1.put o1.dst v).eval (.tmp d1)=v2:=by simp [Act.eval,Z2p,xP]
  have hvd:∃ ad n cap,v2 = .slice ad n cap/\(ad.isNone=true->l d=[]):=by
   simp only [zr] at IA;obtain ⟨cs,⟨_,ad,cap,rfl,_,_,je⟩,Qf⟩:=IA;refine ⟨ad,_,cap,by rw [Qf];rfl,fun QF=>?_⟩;by_cases hl:l d=[]
   ·exact hl
   ·obtain ⟨b,off,c',e,fz,he,_⟩:=je hl;rw [he] at QF;simp at QF
  obtain ⟨ad,n,cap,rfl,z4t⟩:=hvd;have hTu:=hc.tt _ _ hT;simp only [qw] at hTu;obtain ⟨⟨E,hTE,_⟩,_⟩:=hTu;have zc:(execOp (a1.put o1.dst v).eval o2).run P w1 = .ok (.value (.bool ad.isNone)) w1:=by
   have:=run_equal_slice_nil (P:=P) w1 T E ad n cap hTE;have h3:(binOp .eql T (.slice ad n cap) (.slice none 0 0)).run P w1 = .ok (.bool ad.isNone) w1:=by
    simp only [binOp];simp [this]
   have Mg:(a1.put o1.dst v).eval (.const (.slice none 0 0)) = .slice none 0 0:=rfl;simp [execOp,h2,q1s,Mg,eqGuard,h3]
  refine Gv zc ?_;have N6:zG c.ntmps g1 w1 ((a1.put o1.dst v).put o2.dst (.bool ad.isNone)) (((J0 d).set d1 (.data (.sl false t) (l d))).set d2 (.data .bool ad.isNone)):=by
   rw [h2d];exact wO.put hd2 (kZ _)
  have hf3:qP g1 (((J0 d).set d1 (.data (.sl false t) (l d))).set d2 (.data .bool ad.isNone)):=by
   intro m AK;exact ((Qc m AK).set d1 (by simp [z7.ids])).set d2 (by simp [z7.ids])
  show Code.wp P _ _ _ _;have he:=heq d ad.isNone z4t;rw [hF] at he;refine kU hc hm C hlC (Q:=Exit.then (B.wp P Q) Q) (fun ch a w h=>hQ' ch a w h) he N6 hf3 ?_;intro e J4 g4 a4 w4 h4 zck Oc hf4 _
  cases e with
  | normal=>
   simp only [zc7,zc9] at h4;show B.wp P Q a4 w4;split at h4
   ·obtain ⟨J5,g5,h5,q0h,zsb,hf5⟩:=JM zck hf4 h4;exact kU hc hm B hlB hQ' h5 q0h hf5 (fin.later ((yU.trans Oc).trans zsb) (fun _ _=>trivial))
   ·exact kU hc hm B hlB hQ' h4 zck hf4 (fin.later (yU.trans Oc) (fun _ _=>trivial))
  | exit i=>exact fin.later (F':=fun _=>True) (yU.trans Oc) (fun _ h=>h) (.exit i) J4 g4 a4 w4 h4 zck (Ext.refl _ _) hf4 trivial
  | ret=>exact fin.later (F':=fun _=>True) (yU.trans Oc) (fun _ h=>h) .ret J4 g4 a4 w4 h4 zck (Ext.refl _ _) hf4 trivial
end Go.Kz
namespace Go.Kz
variable {R I Z J:Type}
def zx (x:Option R) (Q:R->Prop):Prop:=∃ r,x=some r/\Q r
theorem zx.ret {r:R} {Q:R->Prop} (h:Q r):zx (some r) Q:=⟨r,rfl,h⟩
theorem zx.mono {x:Option R} {P Q:R->Prop} (h:zx x P) (hq:∀ r,P r->Q r):zx x Q:=let ⟨r,h1,h2⟩:=h;⟨r,h1,hq r h2⟩
theorem zx.bind {m:Option I} {f:I->Option R} {Q:R->Prop} (h:zx m fun a=>zx (f a) Q):zx (m.bind f) Q:=by
 obtain ⟨a,rfl,r,h1,h2⟩:=h;exact ⟨r,h1,h2⟩
theorem zx.then {m:Option I} {f:I->Option R} {P:I->Prop} {Q:R->Prop} (h:zx m P) (hf:∀ a,P a->zx (f a) Q):zx (m.bind f) Q:=zx.bind (h.mono hf)
theorem zx.cond {b:Bool} {x y:Option R} {Q:R->Prop} (h1:b=true->zx x Q) (h2:b=false->zx y Q):zx (cond b x y) Q:=by
 cases b with
 | true=>exact h1 rfl
 | false=>exact h2 rfl
theorem zx.qW {b:Bool} {x:Option R} {Q:R->Prop} (hb:b=true) (h:zx x Q):zx (qW b x) Q:=by rw [hb];exact h
theorem zx.eq {x:Option R} {r:R} (h:zx x fun y=>y=r):x=some r:=by obtain ⟨y,rfl,rfl⟩:=h;rfl
theorem zx.iter {Q:R->Prop} {Body:(I->Option R)->I->Option R} (Inv:I->Prop) (m:I->Nat)
  (h:∀ x w,Inv x->(∀ y,Inv y->m y < m x->zx (w y) Q)->zx (Body w x) Q):∀ (n:Nat) (x:I),Inv x->m x < n->zx (iter Body n x) Q
 | 0,_,_,hn=>by omega
 | n+1,x,hx,hn=>h x _ hx fun y hy hm=>zx.iter Inv m h n y hy (by omega)
theorem zx.up {Q:R->Prop} {F:(Int×J->Option R)->Int×J->Option R} (Inv:Nat->J->Prop) (n:Nat)
  (step:∀ (k:Nat) (s:J) (w:Int×J->Option R),k < n->Inv k s->(∀ s',Inv (k+1) s'->zx (w ((k:Int)+1,s')) Q)->zx (F w ((k:Int),s)) Q)
  (last:∀ (s:J) (w:Int×J->Option R),Inv n s->zx (F w ((n:Int),s)) Q) (N k0:Nat) (hk:k0<=n) (hN:n-k0 < N) (s0:J) (h0:Inv k0 s0):zx (Go.Kz.iter F N ((k0:Int),s0)) Q:=by
 refine zx.iter (fun x=>∃ k:Nat,x.1=(k:Int)/\k<=n/\Inv k x.2) (fun x=>n-x.1.toNat) ?_ N _ ⟨k0,rfl,hk,h0⟩ (by simpa using hN);rintro ⟨x,s⟩ w ⟨k,hx,hk,hi⟩ hw;simp only at hx hi;subst hx;by_cases qx:k < n
 ·exact step k s w qx hi fun s' Hy=>hw _ ⟨k+1,by simp,by omega,Hy⟩ (by simp;omega)
 ·have:k=n:=by omega
  subst this;exact last s w hi
theorem zx.Bn {Q:R->Prop} {F:(Int->Option R)->Int->Option R} (Inv:Nat->Prop) (n:Nat)
  (step:∀ (k:Nat) (w:Int->Option R),k < n->Inv k->(Inv (k+1)->zx (w ((k:Int)+1)) Q)->zx (F w (k:Int)) Q)
  (last:∀ (w:Int->Option R),Inv n->zx (F w (n:Int)) Q) (N k0:Nat) (hk:k0<=n) (hN:n-k0 < N) (h0:Inv k0):zx (Go.Kz.iter F N (k0:Int)) Q:=by
 refine zx.iter (fun x=>∃ k:Nat,x=(k:Int)/\k<=n/\Inv k) (fun x=>n-x.toNat) ?_ N _ ⟨k0,rfl,hk,h0⟩ (by simpa using hN);rintro x w ⟨k,hx,hk,hi⟩ hw;subst hx;by_cases qx:k < n
 ·exact step k w qx hi fun Hy=>hw _ ⟨k+1,by simp,by omega,Hy⟩ (by simp;omega)
 ·have:k=n:=by omega
  subst this;exact last w hi
theorem Ja {F:(Int->Option R)->Int->Option R} (k0 n:Nat) (hk0:k0<=n) (p:Nat->Bool) (A B:Option R)
  (step:∀ (k:Nat) (w:Int->Option R),k0<=k->k < n->F w (k:Int)=if p k then w ((k:Int)+1) else B)
  (last:∀ (w:Int->Option R),F w (n:Int)=A) (N:Nat) (hN:n-k0 < N):iter F N (k0:Int)=if (List.range (n-k0)).all (fun j=>p (k0+j)) then A else B:=by
 have key:∀ (M k:Nat),k<=n-k0->n-k0-k < M->((List.range k).all (fun j=>p (k0+j))=true)->iter F M ((k0+k:Nat):Int)=if (List.range (n-k0)).all (fun j=>p (k0+j)) then A else B:=by
  intro M
  induction M with
  | zero=>intro k _ h;omega
  | succ M ih=>
   intro k hk hM hall;simp only [iter];by_cases qx:k < n-k0
   ·rw [step (k0+k) _ (by omega) (by omega)]
    cases hp:p (k0+k) with
    | true=>
     simp only [WQ];have:=ih (k+1) qx (by omega) (by rw [Tf,Z3g,hall];simp [hp]);rw [show (((k0+(k+1):Nat)):Int)=((k0+k:Nat):Int)+1 from by omega] at this
     exact this
    | false=>
     have:(List.range (n-k0)).all (fun j=>p (k0+j))=false:=by
      rw [Z41];exact ⟨k,by simp [qx],by simp [hp]⟩
     rw [this];simp
   ·have:k=n-k0:=by omega
    subst this;rw [show k0+(n-k0)=n from by omega,last,hall];simp
 have:=key N 0 (jt _) (by omega) rfl;simpa using this
theorem Gd {F:(Int->Option R)->Int->Option R} (l:List I) (p:I->Bool) (A B:Option R)
  (step:∀ (k:Nat) (w:Int->Option R) (hk:k < l.length),F w (k:Int)=if p l[k] then w ((k:Int)+1) else B)
  (last:∀ (w:Int->Option R),F w (l.length:Int)=A) (N:Nat) (hN:l.length < N):iter F N 0=if l.all p then A else B:=by
 have:=Ja (F:=F) 0 l.length (jt _) (fun k=>match l[k]? with
  | some x=>p x
  | none=>true) A B (fun k w _ hk=>by rw [step k w hk];simp [hk]) last N (by omega)
 rw [show ((0:Nat):Int)=0 from rfl] at this;rw [this];congr 1
 have e:((List.range (l.length-0)).all fun j=>match l[0+j]? with
  | some x=>p x
  | none=>true)=l.all p:=by
  rw [Rt,BH,BH];constructor
  ·intro h x hx;obtain ⟨i,hi,rfl⟩:=Jo.1 hx;have:=h i (by simp [hi]);simpa [hi] using this
  ·intro h i hi;have wT:i < l.length:=by simpa using hi
   simp only [Zf,wP wT];exact h _ (ku wT)
 rw [e]
theorem zu {k:Nat} (h:k < 9223372036854775807):zz ((k:Int)+1)=(k:Int)+1:=zw (by omega) (by omega)
theorem ua {k:Nat} (h:0 < k) (h2:k < 9223372036854775807):zz ((k:Int)-1)=((k-1:Nat):Int):=by
 rw [zw (by omega) (by omega)];omega
end Go.Kz
namespace Go.Kz
theorem qL {P:Go.Program} {f:Nat} {p:gx} {res:List Ty} {F:p.den->Option (jw res)} (h:∀ d,F d=none):qB P f (.pure p res F):=by
 intro w g d vals r _ _ _ hF;rw [h] at hF;cases hF
theorem wv {P:Go.Program} {f:Nat} {fin:vp} {jC:List Nat} {zm:vp} {F:fin.den->Option zm.den} (h:∀ d,F d=none):qB P f (.mut fin jC zm F):=by
 intro w g d vals r _ _ _ hF;rw [h] at hF;cases hF
end Go.Kz
