/-
  A whole run: the program and the reference show the same.
-/
import Derived.Test.YtmoggdcmpoobpaaGreatDoorKzTF
import Derived.Test.YtmoggdcmpoobpaaGreatDoorKzT3
set_option linter.unusedVariables false
set_option linter.unusedSimpArgs false
set_option linter.unusedSectionVars false
namespace Go.Kz
@[reducible] def YI (vs:List qY) (a:QB) (j:Nat):List (List Int):=[[],a.1.drop (vc vs 1 j),a.2.1.drop (vc vs 2 j),a.2.2.1.drop (vc vs 3 j)]
def Cg (f:zh) (vals:List Int):List Int:=f.2.1.map fun h=>wN (vC vals (FN h.2.2.2.1)) h.2.1 h.2.2.1
theorem zdp (N:Nat) (hN:5000<=N) (f:zh) (h:WF f) (vals:List Int) (hl:vals.length=f.1.length):f281 N f vals=some (Cg f vals):=by
 obtain ⟨g1,g2,g3⟩:=h.deep.F6;have r1:=kJ;refine zx.eq ?_;unfold f281;refine zx.up (fun j s=>s=(f.2.1.take j).map fun h=>wN (vC vals (FN h.2.2.2.1)) h.2.1 h.2.2.1) f.2.1.length ?_ ?_ N 0 (jt _) (by omega) [] rfl
 ·rintro j s w hj rfl hw;have hz:qC f.2.1[j]<=xj f.2.1:=xy (ku hj);simp only [qC] at hz;simp only [UI];rw [show decide ((j:Int) < len f.2.1)=true from zK hj,zB,zg hj];simp only [zP];rw [show f329 N vals (f.2.1[j].2.2.2.1.1,f.2.1[j].2.2.2.1.2)=_ from (CB N hN f (FN f.2.1[j].2.2.2.1) (by omega) true (h.Ie j hj).term vals hl).2];simp only [zP,Fp];refine zx.qW (by simp only [yR,Gy,P9];omega) ?_;rw [zu (by omega)];refine hw _ ?_;rw [qy hj,Z2e];rfl
 ·rintro s w rfl;simp only [UI];rw [show decide (((f.2.1.length:Nat):Int) < len f.2.1)=false from zV _,zU,Qi];exact zx.ret rfl
theorem zea (N:Nat) (hN:5000<=N) (f:zh) (h:WF f) (a:QB) (ha:H7 f.1 a):f168 N f a=some (((),(0,())),Tx f (Cg f (VR f.1 a f.1.length)) ⟨VR f.1 a f.1.length,[],0⟩):=by
 obtain ⟨g1,g2,g3⟩:=h.deep.F6;have hv:=h.vars;have r1:=kJ;refine zx.eq ?_;unfold f168;rw [z5w N (by omega) f h];simp only [zP,Vz,xU,zU];refine zx.up (fun j s=>s=(false,(VR f.1 a j,YI f.1 a j))) f.1.length ?_ ?_ N 0 (jt _) (by omega) _ (by simp [VR,YI,vc,jX])
 ·rintro j s w hj rfl hw;have hk0:=(hv.each j hj).z3q;have hk3:=(hv.each j hj).z3p;have hlen:=JX f.1 a j;have c1:=um f.1 1 hj;have c2:=um f.1 2 hj;have c3:=um f.1 3 hj;have Qa:decide ((Nat.succ (List.length (VR f.1 a j)))<=room)=true:=by simp only [yR];omega
  have nb:∀ x:Int,f.1[j].2.2.1<=x->x<=f.1[j].2.2.2.1->((false || decide (x < f.1[j].2.2.1)) || decide (f.1[j].2.2.2.1 < x))=false:=fun x b1 b2=>by
   simp only [JY,u7,Vq];omega
  simp only [Ub];rw [show decide ((j:Int) < len f.1)=true from zK hj,zB,zg hj];simp only [zP];by_cases h0:f.1[j].2.1=0
  ·obtain ⟨q2,q3,q4⟩:=XQ (a:=a) hv hj h0;rw [jY h0,show (!true)=false from rfl,zU,Qa];refine zx.qW rfl ?_;rw [zu (by omega),<-q2];refine hw _ ?_;simp only [YI];rw [c1,c2,c3,qZ (by omega),qZ (by omega),qZ (by omega),Zg]
  rw [qO h0,show (!false)=true from rfl,zB];obtain ⟨q1,q2,q3,q4⟩:=AZ hv ha hj h0;have dr:∀ (l:List Int) (c:Nat),c < l.length->len (l.drop c)≠0/\idx (l.drop c) 0=l[c]?/\sub (l.drop c) 1 (len (l.drop c))=l.drop (c+1):=fun l c hc=>by
   refine ⟨by simp only [len,Hw];omega,?_,?_⟩
   ·rw [show (0:Int)=((0:Nat):Int) from rfl,ER,Z2c];rfl
   ·show ((l.drop c).drop 1).take _=_;rw [Nd,Z2n];simp only [len,Hw];omega
  have Mv:f.1[j].2.1=((f.1[j].2.1.toNat:Nat):Int):=by omega
  have hib:vU (YI f.1 a j) f.1[j].2.1=true:=by simp only [vU,YI,Vy,Fl,zA,yR];omega
  have key:idx (YI f.1 a j) f.1[j].2.1=some ((Kv a f.1[j].2.1).drop (vc f.1 f.1[j].2.1 j))/\wZ (YI f.1 a j) f.1[j].2.1 ((Kv a f.1[j].2.1).drop (vc f.1 f.1[j].2.1 j+1))=YI f.1 a (j+1):=by
   have:f.1[j].2.1=1\/f.1[j].2.1=2\/f.1[j].2.1=3:=by omega
   simp only [YI];rw [c1,c2,c3];rcases this with e | e | e <;> rw [e] <;> exact ⟨rfl,rfl⟩
  obtain ⟨d1,d2,d3⟩:=dr (Kv a f.1[j].2.1) (vc f.1 f.1[j].2.1 j) q1;rw [hib,key.1];refine zx.qW rfl ?_;simp only [zP];rw [qO d1,zU,d2,wP q1,<-q2];refine zx.qW rfl ?_;simp only [zP];refine zx.qW rfl (zx.qW ?_ (zx.qW rfl ?_))
  ·simp only [zA,yR];have:len ((Kv a f.1[j].2.1).drop (vc f.1 f.1[j].2.1 j))=(((Kv a f.1[j].2.1).length-vc f.1 f.1[j].2.1 j:Nat):Int):=by simp only [len,Hw]
   rw [this];omega
  simp only [Z7,zP];rw [nb _ q3 q4,Qa,d3,key.2];refine zx.qW rfl ?_;rw [zu (by omega)];refine hw _ ?_;rw [Zg]
 ·rintro s w rfl;simp only [Ub];rw [show decide (((f.1.length:Nat):Int) < len f.1)=false from zV _,zU];have em:∀ k:Nat,(hk:k < 4)->((YI f.1 a f.1.length)[k]'hk)=[]:=by
   intro k hk;have d1:a.1.drop (vc f.1 1 f.1.length)=[]:=MZ (by rw [Zb,<-(ha 1 (by omega) (by omega)).len];exact yN _);have d2:a.2.1.drop (vc f.1 2 f.1.length)=[]:=MZ (by rw [Zb,<-(ha 2 (by omega) (by omega)).len];exact yN _);have d3:a.2.2.1.drop (vc f.1 3 f.1.length)=[]:=MZ (by rw [Zb,<-(ha 3 (by omega) (by omega)).len];exact yN _);have:k=0\/k=1\/k=2\/k=3:=by omega
   rcases this with rfl | rfl | rfl | rfl
   ·rfl
   ·exact d1
   ·exact d2
   ·exact d3
  refine zx.Bn (fun _=>True) 4 ?_ ?_ N 0 (jt _) (by omega) trivial
  ·intro k w' hk _ GZ;simp only [Kc];rw [jY (show (k:Int) < 4 by omega),zB,zg (l:=YI f.1 a f.1.length) hk,em k hk];simp only [zP];rw [show decide (0 < len ([]:List Int))=false from rfl,zU,zu (by omega)];exact GZ trivial
  ·intro w' _;simp only [Kc];rw [show decide (((4:Nat):Int) < 4)=false from rfl,zU,zU];generalize Ux:VR f.1 a f.1.length=vals;have hl:vals.length=f.1.length:=by rw [<-Ux,JX]
   refine zx.up (fun j s=>s=(f.2.1.take j).map fun h=>wN (vC vals (FN h.2.2.2.1)) h.2.1 h.2.2.1) f.2.1.length ?_ ?_ N 0 (jt _) (by omega) [] rfl
   ·rintro j s w hj rfl hw;have hz:qC f.2.1[j]<=xj f.2.1:=xy (ku hj);simp only [qC] at hz;simp only [Kb];rw [show decide ((j:Int) < len f.2.1)=true from zK hj,zB,zg hj];simp only [zP];rw [show f249 N vals (f.2.1[j].2.2.2.1.1,f.2.1[j].2.2.2.1.2)=_ from (CB N hN f (FN f.2.1[j].2.2.2.1) (by omega) true (h.Ie j hj).term vals hl).1];simp only [zP];rw [FY N _ _ _ (Wm.1 (h.Ie j hj).JA).1];simp only [zP];refine zx.qW (by simp only [yR,Gy,P9];omega) ?_;rw [zu (by omega)];refine hw _ ?_;rw [qy hj,Z2e];rfl
   ·rintro s w rfl;simp only [Kb];rw [show decide (((f.2.1.length:Nat):Int) < len f.2.1)=false from zV _,zU,Qi];exact zx.ret rfl
def P2 (f:zh) (a:QB):RS:=vK f (Cg f (VR f.1 a f.1.length)) f.2.2.1 ⟨VR f.1 a f.1.length,[],0⟩
theorem zlu (N:Nat) (hN:5000<=N) (f:zh) (h:WF f) (a:QB) (ha:H7 f.1 a):f73 N f a=some (((P2 f a).outs,((P2 f a).time,())),0):=by
 obtain ⟨g1,g2,g3⟩:=h.deep.F6;have h2:=h.ub2;unfold f73;rw [zea N hN f h a ha];simp only [zP,Vz,xU,zU];rw [show f169 N f.2.2.1 f 0 (VR f.1 a f.1.length) (Cg f (VR f.1 a f.1.length)) []=_ from KS N hN f h.vars _ (by simp [Cg]) N f.2.2.1 true (by omega) (by omega) h.steps ⟨VR f.1 a f.1.length,[],0⟩ (JX ..) (by simp only [Fl];omega)];rfl
theorem zei (N:Nat) (hN:5000<=N) (f:zh) (h:WF f) (hc:f66 N f=some 0) (a:QB) (ha:H7 f.1 a):f115 N f a=some (((P2 f a).outs,((P2 f a).time,())),0):=by
 obtain ⟨g1,g2,g3⟩:=h.deep.F6;have h2:=h.ub2;unfold f115 f199;rw [hc];simp only [zP,Vz,xU,zU];rw [zdq N (by omega) h.vars a ha];simp only [zP,Vz,xU,zU];rw [zdp N hN f h _ (JX ..)];simp only [zP];rw [show f280 N f (Cg f (VR f.1 a f.1.length)) f.2.2.1 (VR f.1 a f.1.length,(([]:List Int),(0,())))=_ from KP N hN f h.vars _ (by simp [Cg]) N f.2.2.1 true (by omega) (by omega) h.steps ⟨VR f.1 a f.1.length,[],0⟩ (JX ..) (by simp only [Fl];omega)];rfl
end Go.Kz
namespace Go.Kz
theorem zly (N:Nat) (hN:200<=N) {vs:List qY} (hv:u6 vs) (k:Int) (hk:0<=k/\k<=3) (hp:zN (jX vs k)<=4096) (xs:List Int):zx (f50 N vs k xs) fun r=>r.2=0->Fits (jX vs k) xs:=by
 have hl:=hv.len;unfold f50;rw [Gt N hN hl hv.JA k hk hp];simp only [zP,Vz,xU,zU];rw [Fz N hN vs hl];simp only [zP];have VG:=uM vs k;generalize jX vs k=l at *;refine zx.cond (fun _=>zx.ret (by simp)) fun hlen=>?_
 simp only [Bl,yR,len] at hlen;have ck:∀ {R:Type} (j:Nat) (hj:j < l.length) (x:Option R),qW (vU l (j:Int)) x=x:=fun j hj x=>zf (by simp only [vU,zA,yR];omega)
 refine zx.up (fun j _=>∀ i (h:i < l.length) (h':i < xs.length),i < j->l[i].2.2.1<=xs[i]/\xs[i]<=l[i].2.2.2.1) l.length ?_ ?_ N 0 (jt _) (by omega) _ (fun i h h' hi=>by omega)
 ·rintro j s w hj hinv hw;have ZD:j < xs.length:=by omega
  simp only [Fk];rw [zK hj,zB,zg ZD];simp only [ck j hj,zg hj,zP,Z7];refine zx.cond (fun _=>zx.ret (by simp)) fun hb=>?_
  simp only [JY,u7] at hb;rw [zu (by omega)];refine hw _ fun i h h' hi=>?_
  by_cases e:i=j
  ·subst e;omega
  ·exact hinv i h h' (by omega)
 ·rintro s w hinv;simp only [Fk];rw [zV,zU];exact zx.ret fun _=>⟨by omega,fun i h h'=>hinv i h h' h⟩
theorem z5v (N:Nat) (hN:200<=N) {vs:List qY} (hv:u6 vs) (k:Int) (hk:0<=k/\k<=3) (hp:zN (jX vs k)<=4096) (xs:List Int) (hf:Fits (jX vs k) xs):zx (f70 N vs k xs) fun r=>r.2=0:=by
 have hl:=hv.len;unfold f70;rw [FU N hN hl hv.JA k hk hp];simp only [zP,Vz,xU,zU];have VG:=uM vs k;generalize jX vs k=l at *;obtain ⟨h1,h2⟩:=hf;rw [jY (show len xs=len l by simp only [len];omega),show (!true)=false from rfl,zU];refine zx.up (fun _ _=>True) l.length ?_ ?_ N 0 (jt _) (by omega) _ trivial
 ·rintro j s w hj _ hw;have ZD:j < xs.length:=by omega
  have:=h2 j hj ZD;simp only [F8,f166];rw [show decide ((j:Int) < len l)=true from zK hj,zB,zf (by simp only [vU,zA,yR];omega),zg hj,zg ZD];simp only [zP,Z7];rw [show (decide (xs[j] < l[j].2.2.1) || decide (l[j].2.2.2.1 < xs[j]))=false by simp only [JY,u7];omega,zU,zu (by omega)];exact hw _ trivial
 ·rintro s w _;simp only [F8];rw [show decide (((l.length:Nat):Int) < len l)=false from zV _,zU];exact zx.ret rfl
def dig (l:List qY) (r:Int) (i:Nat):Int:=match l[i]? with
 | some v=>v.2.2.1+(r / zN (l.drop (i+1))) % Vw v
 | none=>0
def Pw (l:List qY) (r:Int) (n:Nat):List Int:=(List.range n).map (dig l r)
theorem z0s (l:List qY) (r:Int) (n:Nat):Pw l r (n+1)=Pw l r n++[dig l r n]:=by simp [Pw,Tf]
theorem WI (l:List qY) (r:Int) (n:Nat):(Pw l r n).length=n:=by simp [Pw]
theorem z0t {l:List qY} (hr:∀ v∈l,pG v) (r:Int):Fits l (Pw l r l.length):=by
 refine ⟨WI ..,fun i h h'=>?_⟩;have hv:=WH (hr _ (ku h));have e:(Pw l r l.length)[i]=l[i].2.2.1+(r / zN (l.drop (i+1))) % Vw l[i]:=by simp [Pw,dig,h]
 rw [e];have a:=Z5j (r / zN (l.drop (i+1))) (show Vw l[i]≠0 by omega);have b:=Z5k (r / zN (l.drop (i+1))) (show 0 < Vw l[i] by omega);simp only [Vw] at b ⊢ a;omega
theorem XT {l:List qY} {j:Nat} (hj:j < l.length):zN (l.drop j)=Vw l[j]*zN (l.drop (j+1)):=by
 rw [<-Z5i hj];rfl
theorem xn {l:List qY} (h:∀ v∈l,pG v) (k:Nat):zN (l.drop k)<=zN l:=by
 have e:=D0 (l.take k) (l.drop k);rw [Mx] at e;rw [e];have h1:=vw (l:=l.take k) fun v hv=>h v (Z3x hv)
 have h2:=vw (l:=l.drop k) fun v hv=>h v (Z44 hv)
 have:=Z3s h1 (show 0<=zN (l.drop k) by omega);omega
theorem NY (N:Nat) (hN:200<=N) {vs:List qY} (hv:u6 vs) (k:Int) (hk:0<=k/\k<=3) (hp:zN (jX vs k)<=4096) (r:Int) (h0:0<=r) (h1:r < zN (jX vs k)):f20 N vs k r=some (Pw (jX vs k) r (jX vs k).length,0):=by
 have hl:=hv.len;have r1:=kJ;refine zx.eq ?_;unfold f20;rw [Gt N hN hl hv.JA k hk hp];simp only [zP,Vz,xU,zU,Z7];rw [show (decide (r < 0) || decide (zN (jX vs k)<=r))=false by simp only [JY,u7];omega,zU];rw [Fz N hN vs hl];simp only [zP];have VG:=uM vs k;have Z5:=uL hv.JA k;generalize jX vs k=l at *;have ck:∀ {R:Type} (j:Nat) (hj:j < l.length) (x:Option R),qW (vU l (j:Int)) x=x:=fun j hj x=>zf (by simp only [vU,zA,yR];omega)
 refine zx.up (fun j s=>s=(zN (l.drop j),Pw l r j)) l.length ?_ ?_ N 0 (jt _) (by omega) _ (by simp [Pw])
 ·rintro j s w hj rfl hw;have hrj:=Z5 _ (ku hj);obtain ⟨s1,s2⟩:=WH hrj;have pd:=XT hj;have p1:=vw (l:=l.drop (j+1)) fun v hv=>Z5 v (Z44 hv)
  have p2:=xn Z5 (j+1);have p3:=xn Z5 j;have hq:Int.tdiv (zN (l.drop j)) (Vw l[j])=zN (l.drop (j+1)):=by
   rw [pd,Int.mul_tdiv_cancel_left _ (by omega)]
  have hd:dig l r j=l[j].2.2.1+(r / zN (l.drop (j+1))) % Vw l[j]:=by simp [dig,hj]
  simp only [FV];rw [zK hj,zB];simp only [ck j hj,zg hj,zP];rw [Xz hrj,hq,zw (n:=zN (l.drop (j+1))) (by omega) (by omega)];rw [qO (show ¬ Vw l[j]=0 by omega),zU,qO (show ¬ zN (l.drop (j+1))=0 by omega),zU,zU];have hu:=WI l r j;rw [zf (by simp only [yR];omega)];have t1:Int.tdiv r (zN (l.drop (j+1)))=r / zN (l.drop (j+1)):=Z5q h0;have d1:0<=r / zN (l.drop (j+1)):=Z48 h0 (by omega);have d2:r / zN (l.drop (j+1))<=r:=Z49 _ h0;rw [t1,zw (n:=r / zN (l.drop (j+1))) (by omega) (by omega)];have t2:Int.tmod (r / zN (l.drop (j+1))) (Vw l[j])=(r / zN (l.drop (j+1))) % Vw l[j]:=Z5r d1;have m1:=Z5j (r / zN (l.drop (j+1))) (show Vw l[j]≠0 by omega);have m2:=Z5k (r / zN (l.drop (j+1))) (show 0 < Vw l[j] by omega);obtain ⟨b1,b2,b3⟩:=hrj;rw [t2,<-hd,zw (n:=dig l r j) (by omega) (by omega),zu (by omega)];refine hw _ ?_;rw [z0s]
 ·rintro s w rfl;simp only [FV];rw [zV,zU];exact zx.ret rfl
theorem zeb (N:Nat) (hN:200<=N) {vs:List qY} (hv:u6 vs) (k:Int) (hk:0<=k/\k<=3) (hp:zN (jX vs k)<=4096) (r:Int) (h0:0<=r) (h1:r < zN (jX vs k)):f167 N vs k r=some (Pw (jX vs k) r (jX vs k).length,0):=by
 have hl:=hv.len;have r1:=XX;refine zx.eq ?_;unfold f167;rw [FU N hN hl hv.JA k hk hp];simp only [zP,Vz,xU,zU,Z7];rw [show (decide (r < 0) || decide (zN (jX vs k)<=r))=false by simp only [JY,u7];omega,zU];have VG:=uM vs k;have Z5:=uL hv.JA k;generalize jX vs k=l at *;refine zx.qW (by simp only [zA,yR,len];omega) ?_;refine zx.iter (fun x=>∃ m:Nat,x.1=(m:Int)-1/\m<=l.length/\x.2.1=r / zN (l.drop m)/\x.2.2=List.replicate m 0++(Pw l r l.length).drop m) (fun x=>(x.1+1).toNat) ?_ N _ ⟨l.length,?_,yN _,?_,?_⟩ ?_
 ·rintro ⟨i,q,o⟩ w ⟨m,e1,hm,e2,e3⟩ hw;simp only at e1 e2 e3;subst e1 e2 e3;simp only [FP,f166]
  cases m with
  | zero=>
   rw [show decide ((0:Int)<=((0:Nat):Int)-1)=false from rfl,zU];simp only [List.replicate_zero,QP,Z3c]
   exact zx.ret rfl
  | succ m=>
   have hj:m < l.length:=hm;have hrj:=Z5 _ (ku hj);obtain ⟨s1,s2⟩:=WH hrj;have pd:=XT hj;have p1:=vw (l:=l.drop (m+1)) fun v hv=>Z5 v (Z44 hv)
   have p2:=vw (l:=l.drop m) fun v hv=>Z5 v (Z44 hv)
   have p3:=xn Z5 m;rw [show ((m+1:Nat):Int)-1=(m:Int) by omega];rw [jY (show (0:Int)<=(m:Int) by omega),zB,zf (by simp only [vU,zA,yR];omega),zg hj];simp only [zP];rw [Xz hrj,qO (show ¬ Vw l[m]=0 by omega),zU,zU];have ho:(List.replicate (m+1) (0:Int)++(Pw l r l.length).drop (m+1)).length=l.length:=by
    rw [VH,List.length_replicate,Hw,WI];omega
   rw [zf (by simp only [vU,zA,yR];omega),zg (show m < (List.replicate (m+1) (0:Int)++(Pw l r l.length).drop (m+1)).length by omega)];simp only [zP];have d1:0<=r / zN (l.drop (m+1)):=Z48 h0 (by omega);have d2:r / zN (l.drop (m+1))<=r:=Z49 _ h0;have t1:Int.tdiv (r / zN (l.drop (m+1))) (Vw l[m])=r / zN (l.drop m):=by
    rw [Z5q d1,pd,Int.mul_comm (Vw l[m]),Int.ediv_ediv_of_nonneg (by omega)]
   have d3:0<=r / zN (l.drop m):=Z48 h0 (by omega);have d4:r / zN (l.drop m)<=r:=Z49 _ h0;have t2:Int.tmod (r / zN (l.drop (m+1))) (Vw l[m])=(r / zN (l.drop (m+1))) % Vw l[m]:=Z5r d1;have m1:=Z5j (r / zN (l.drop (m+1))) (show Vw l[m]≠0 by omega);have m2:=Z5k (r / zN (l.drop (m+1))) (show 0 < Vw l[m] by omega);have hd:dig l r m=l[m].2.2.1+(r / zN (l.drop (m+1))) % Vw l[m]:=by simp [dig,hj]
   obtain ⟨b1,b2,b3⟩:=hrj;rw [t1,t2,<-hd,zw (n:=dig l r m) (by omega) (by omega),zw (n:=r / zN (l.drop m)) (by omega) (by omega),zw (n:=(m:Int)-1) (by omega) (by omega)];have hu:(Pw l r l.length).drop m=dig l r m :: (Pw l r l.length).drop (m+1):=by
    have hml:m < (Pw l r l.length).length:=by rw [WI];exact hj
    rw [<-Z5i hml];congr 1;simp [Pw]
   have hs:wZ (List.replicate (m+1) (0:Int)++(Pw l r l.length).drop (m+1)) (m:Int) (dig l r m)=List.replicate m 0++(Pw l r l.length).drop m:=by
    rw [hu];show List.set _ ((m:Int).toNat) _=_;rw [show ((m:Int).toNat)=m from LL m,List.replicate_succ',Gj,List.set_append_right _ _ (by simp)];simp
   rw [hs];refine zx.qW (by simp only [vU,zA,yR];omega) ?_;exact hw ((m:Int)-1,(r / zN (l.drop m),List.replicate m 0++(Pw l r l.length).drop m)) ⟨m,rfl,by omega,rfl,rfl⟩ (by simp only;omega)
 ·simp only [len];rw [zw (by omega) (by omega)]
 ·simp [zN]
 ·simp only [len,LL];rw [MZ (by rw [WI];exact yN _),Di]
 ·simp only [len];rw [zw (by omega) (by omega)];omega
end Go.Kz
namespace Go.Kz
theorem zma (N:Nat) (hN:200<=N) (f:zh):zx (f15 N f 8 4096 1) fun b=>b=true->WF f/\f66 N f=some 0/\zN (jX f.1 1)<=8:=by
 unfold f15;refine zx.then (zlw N hN f) fun r hr=>?_
 refine zx.then (P:=fun b=>b=false->WF f/\f66 N f=some 0) ?_ fun b hb=>?_
 ·refine zx.cond (fun _=>zx.ret (by simp)) fun h=>?_
  simp only [Bl] at h;obtain ⟨c,hc,hw⟩:=zlv N hN f (hr h);rw [hc,zP];refine zx.ret fun h0=>?_
  simp only [Bl,yR] at h0;exact ⟨hw h0,by rw [h0]⟩
 ·refine zx.cond (fun _=>zx.ret (by simp)) fun h=>?_
  obtain ⟨hw,hc⟩:=hb h;have hv:=hw.vars;have p1:=hv.sec;have p2:=hv.pub;have p3:=hv.rnd;obtain ⟨g1,g2,g3⟩:=hw.deep.F6;rw [Gt N hN hv.len hv.JA 1 (by omega) p1,Gt N hN hv.len hv.JA 2 (by omega) p2,Gt N hN hv.len hv.JA 3 (by omega) (by omega)];rw [show f43 N f.2.2.1=_ from UU N hN f N f.2.2.1 true (by omega) (by omega) hw.steps];simp only [zP,wR];refine zx.ret fun hh=>⟨hw,hc,?_⟩
  simp only [zA,yR] at hh;exact hh.1.1.1
structure gr (N:Nat) (f:zh) (ps:List (List Int)):Prop where
 wf:WF f
 qW:f66 N f=some 0
 sec:zN (jX f.1 1)<=8
 ED:jX f.1 3=[]
 zsv:ps.length<=5
 fit:∀ p∈ps,Fits (jX f.1 2) p
theorem z63 (N:Nat) (hN:200<=N) (f:zh) (ps:List (List Int)):zx (f29 N f ps) fun b=>b=true->gr N f ps:=by
 unfold f29;refine zx.then (zma N hN f) fun r hr=>?_
 simp only [Z7,zP];refine zx.then (P:=fun b=>b=false->(WF f/\f66 N f=some 0/\zN (jX f.1 1)<=8)/\ps.length<=5/\jX f.1 3=[]) ?_ fun b hb=>?_
 ·refine zx.cond (fun _=>zx.ret (by simp)) fun h=>?_
  simp only [JY,Bl,u7,len] at h;have hw:=hr h.1;rw [Fz N hN f.1 hw.1.vars.len,zP];refine zx.ret fun h0=>⟨hw,by omega,?_⟩
  simp only [u7,len] at h0;exact Z27 (by omega)
 ·refine zx.cond (fun _=>zx.ret (by simp)) fun h=>?_
  obtain ⟨⟨hw,hc,h8⟩,h5,h3⟩:=hb h;refine zx.Bn (fun j=>∀ i (h:i < ps.length),i < j->Fits (jX f.1 2) ps[i]) ps.length ?_ ?_ N 0 (jt _) (by omega) (fun i h hi=>by omega)
  ·intro j w hj hinv GZ;simp only [Fx];rw [show decide ((j:Int) < len ps)=true from zK hj,zB,zg hj];simp only [zP];refine zx.then (zly N hN hw.vars 2 (by omega) hw.vars.pub ps[j]) fun r2 Bh=>?_
   refine zx.cond (fun _=>zx.ret (by simp)) fun he=>?_
   simp only [Bl,yR] at he;rw [zu (by omega)];refine GZ fun i h hi=>?_
   by_cases e:i=j
   ·subst e;exact Bh he
   ·exact hinv i h (by omega)
  ·intro w hinv;simp only [Fx];rw [show decide (((ps.length:Nat):Int) < len ps)=false from zV _,zU];exact zx.ret fun _=>⟨hw,hc,h8,h3,h5,fun p hp=>by
    obtain ⟨i,hi,rfl⟩:=Jo.1 hp;exact hinv i hi hi⟩
@[reducible] def Pe (f:zh) (p:List Int) (s:Int):QB:=(Pw (jX f.1 1) s (jX f.1 1).length,(p,([],())))
@[reducible] def xX (f:zh) (p:List Int) (s:Int):List Int×(Int×Unit):=((P2 f (Pe f p s)).outs,((P2 f (Pe f p s)).time,()))
theorem Up {N:Nat} {f:zh} {ps:List (List Int)} (h:gr N f ps) {p:List Int} (hp:Fits (jX f.1 2) p) (s:Int):H7 f.1 (Pe f p s):=by
 intro k h1 h3;have:k=1\/k=2\/k=3:=by omega
 rcases this with rfl | rfl | rfl
 ·exact z0t (uL h.wf.vars.JA 1) s
 ·exact hp
 ·rw [h.ED];exact ⟨rfl,fun i h _=>by simp at h⟩
theorem zem (N:Nat) (hN:5000<=N) {f:zh} {ps:List (List Int)} (h:gr N f ps) {p:List Int} (hp:Fits (jX f.1 2) p) (s:Int) (h0:0<=s) (h1:s < zN (jX f.1 1)):f109 N f p s=some (xX f p s):=by
 have hv:=h.wf.vars;have q2:=vw (l:=jX f.1 2) (uL hv.JA 2);unfold f109 f114;rw [NY N (by omega) hv 1 (by omega) hv.sec s h0 h1,NY N (by omega) hv 2 (by omega) hv.pub 0 (by omega) (by omega),NY N (by omega) hv 3 (by omega) (by have:=hv.rnd;omega) 0 (by omega) (by rw [h.ED];decide)];simp only [zP,Vz,xU,zU];rw [show f115 N f (Pw (jX f.1 1) s (jX f.1 1).length,(p,(Pw (jX f.1 3) 0 (jX f.1 3).length,())))=some (xX f p s,0) by
  rw [h.ED];exact zei N hN f h.wf h.qW (Pe f p s) (Up h hp s)]
 rfl
end Go.Kz
namespace Go.Kz
def gy (x:Int):Prop:=-9223372036854775808<=x/\x<=9223372036854775807
def NG (l:List UInt8):Nat:=l.foldl (fun a c=>a*10+(c.toNat-48)) 0
def zev:List UInt8->Int
 | 45 :: l=>-(NG l:Int)
 | l=>(NG l:Int)
theorem Jx {d:Nat} (h:d < 10):(UInt8.ofNat (48+d)).toNat=48+d:=by
 rw [UInt8.toNat_ofNat'];exact Z4o (by omega)
theorem Bw:∀ (k u:Nat),u < 10 ^ (k+1)->NG (Ks (k+1) u)=u
 | 0,u,h=>by
  have h':u < 10:=by simpa using h
  have hb:Nat.blt u 10=true:=by simpa [Z32] using h'
  simp only [Ks,hb,zB,NG,Z26,Z2m]
  rw [Jx h'];omega
 | k+1,u,h=>by
  rw [Ks]
  cases hb:Nat.blt u 10 with
  | true=>
   have h':u < 10:=by simpa [Z32] using hb
   simp only [zB,NG,Z26,Z2m]
   rw [Jx h'];omega
  | false=>
   simp only [zU,NG,Z45,Z26,Z2m];have hq:u / 10 < 10 ^ (k+1):=by
    rw [Z4p] at h;exact Z3q (by omega)
   have ih:=Bw k (u / 10) hq;simp only [NG] at ih;rw [ih,Jx (Z2r _ (by omega))];omega
theorem Ut:∀ (k u:Nat),∀ c∈Ks k u,48<=c.toNat/\c.toNat<=57
 | 0,u,c,h=>by simp [Ks] at h
 | k+1,u,c,h=>by
  rw [Ks] at h
  cases hb:Nat.blt u 10 with
  | true=>
   have h':u < 10:=by simpa [Z32] using hb
   rw [hb] at h;simp only [zB,Mp] at h
   rw [h,Jx h'];omega
  | false=>
   rw [hb] at h;simp only [zU,U5,Mp] at h;rcases h with h | h
   ·exact Ut k _ c h
   ·have:u % 10 < 10:=Z2r _ (by omega);rw [h,Jx this];omega
theorem Dp {n:Int} (h:gy n):zev (VW n)=n:=by
 obtain ⟨h0,h1⟩:=h
 cases n with
 | ofNat m=>
  have hm:m < 10 ^ 20:=by have:(Int.ofNat m:Int)=(m:Int):=rfl;omega
  simp only [VW];have hd:=Bw 19 m hm;have hc:=Ut 20 m
  cases hl:Ks 20 m with
  | nil=>rw [hl] at hd;simp only [zev];rw [hd];rfl
  | cons c l=>
   rw [hl] at hd hc;have:=hc c (Z20 ..);unfold zev;split
   ·rename_i l' e;injection e with e1 e2;subst e1;simp at this
   ·rw [hd];rfl
 | negSucc m=>
  have hm0:(Int.negSucc m:Int) = -((m:Int)+1):=by omega
  have hm:m+1 < 10 ^ 20:=by omega
  simp only [VW,zev];rw [Bw 19 (m+1) hm];omega
theorem Ak (n:Int):(32:UInt8)∉VW n:=by
 intro h
 cases n with
 | ofNat m=>
  have:=Ut 20 m 32 h
  simp at this
 | negSucc m=>
  simp only [VW,pK] at h;rcases h with h | h
  ·exact absurd h (by decide)
  ·have:=Ut 20 (m+1) 32 h;simp at this
theorem zhb:∀ {a c b d:List UInt8},(32:UInt8)∉a->(32:UInt8)∉c->a++32 :: b=c++32 :: d->a=c/\b=d
 | [],[],b,d,_,_,h=>by simpa using h
 | [],y :: c,b,d,_,hc,h=>by
  simp only [QP,xA,BL] at h
  exact absurd (by rw [<-h.1];exact Z20 ..) hc
 | x :: a,[],b,d,ha,_,h=>by
  simp only [QP,xA,BL] at h
  exact absurd (by rw [h.1];exact Z20 ..) ha
 | x :: a,y :: c,b,d,ha,hc,h=>by
  simp only [xA,BL] at h;obtain ⟨q1,q2⟩:=zhb (fun h'=>ha (Th _ h')) (fun h'=>hc (Th _ h')) h.2;exact ⟨by rw [h.1,q1],q2⟩
theorem xD (x:Int) (l:List Int):uy (x :: l)=VW x++32 :: uy l:=by simp [uy]
theorem XY:∀ {l m:List Int},(∀ x∈l,gy x)->(∀ x∈m,gy x)->uy l=uy m->l=m
 | [],[],_,_,_=>rfl
 | [],y :: m,_,_,h=>by rw [xD] at h;simp [uy] at h
 | x :: l,[],_,_,h=>by rw [xD] at h;simp [uy] at h
 | x :: l,y :: m,hl,hm,h=>by
  rw [xD,xD] at h;obtain ⟨q1,q2⟩:=zhb (Ak x) (Ak y) h;have e:x=y:=by
   have a:=Dp (hl x (Z20 ..));have b:=Dp (hm y (Z20 ..));rw [<-a,q1,b]
  rw [e,XY (fun z hz=>hl z (Th _ hz)) (fun z hz=>hm z (Th _ hz)) q2]
end Go.Kz
namespace Go.Kz
theorem kQ (x:Int):gy (zz x):=vH .i64 x
theorem zd9 (c:Bool):gy (cond c 1 0):=by cases c <;> simp [gy]
theorem zg8 {a b:Int} (ha:gy a) (hb:gy b):gy (min a b)/\gy (max a b):=by
 simp only [gy] at *;omega
theorem zex {op a b:Int} (ha:gy a) (hb:gy b):gy (NF op a b):=by
 have h:∃ r,f306 0 op a b=some r/\gy r:=by
  have dv:∃ r,f341 0 a b=some r/\gy r:=by
   unfold f341;by_cases h:b=0
   ·rw [jY h];exact ⟨0,rfl,by simp [gy]⟩
   ·rw [qO h];simp only [zU,wR,zP];cases (!decide (Int.tmod a b=0) && !decide (decide (a < 0)=decide (b < 0))) <;> exact ⟨_,rfl,kQ _⟩
  obtain ⟨q,h1,h1'⟩:=dv;have md:∃ r,f342 0 a b=some r/\gy r:=by
   unfold f342;rw [h1];by_cases h:b=0
   ·rw [jY h];exact ⟨0,rfl,by simp [gy]⟩
   ·rw [qO h];exact ⟨_,rfl,kQ _⟩
  obtain ⟨m,h3,h3'⟩:=md;have fl:∀ c:Bool,f305 0 c=some (cond c 1 0):=fun c=>by cases c <;> rfl
  unfold f306;rw [h1,h3];simp only [Z7,wR,zP,fl,JR,Qz];have cd:∀ (c:Bool) (x y:Option Int),(∃ r,x=some r/\gy r)->(∃ r,y=some r/\gy r)->∃ r,cond c x y=some r/\gy r:=fun c x y hx hy=>by cases c <;> assumption
  have w:∀ x:Int,∃ r,some (zz x)=some r/\gy r:=fun x=>⟨_,rfl,kQ x⟩
  have g:∀ c:Bool,∃ r,some (cond c 1 0)=some r/\gy r:=fun c=>⟨_,rfl,zd9 c⟩
  exact cd _ _ _ (w _) (cd _ _ _ (w _) (cd _ _ _ (w _) (cd _ _ _ ⟨_,rfl,h1'⟩ (cd _ _ _ ⟨_,rfl,h3'⟩ (cd _ _ _ (g _) (cd _ _ _ (g _) (cd _ _ _ (g _) (cd _ _ _ (g _) (cd _ _ _ (g _) (cd _ _ _ (g _) (cd _ _ _ (g _) (cd _ _ _ (g _) (cd _ _ _ ⟨_,rfl,(zg8 ha hb).1⟩ ⟨_,rfl,(zg8 ha hb).2⟩)))))))))))))
 obtain ⟨r,h1,h2⟩:=h;rw [NF,h1];exact h2
theorem Je {l:List Int} (h:∀ x∈l,gy x) (k:Nat):gy (l.getD k 0):=by
 rw [VF]
 cases e:l[k]? with
 | none=>simp [gy]
 | some x=>exact h x (Z40 e)
theorem E7 {vs:List qY} (hr:∀ v∈vs,pG v) {vals:List Int} (hv:∀ x∈vals,gy x):∀ (M:Nat) (t:Tm),Zv t<=M->∀ r,T1 vs t=some r->gy (vC vals t)
 | 0,t,h,_,_=>by have:=yX t;omega
 | M+1,t,h,r,Qk=>by
  have qC:=uq t;have hrg0:=Qk;rw [EJ] at Qk
  cases hl:Be vs t.kids with
  | none=>rw [hl] at Qk;simp at Qk
  | some l=>
  have hk:∀ x∈t.kids.map (vC vals),gy x:=fun x hx=>by
   obtain ⟨y,hy,rfl⟩:=Gq.1 hx;obtain ⟨i,hi,rfl⟩:=Jo.1 hy;have:=wa (ku hi);have hlen:=U9 hl;exact E7 hr hv M _ (by omega) _ (JB hl i hi (by omega))
  rw [O2];unfold Iz;split
  ·rename_i h0;rw [hl] at Qk;simp only [zP] at Qk;have e:yT vs t.op t.n l=(t.n,t.n):=by simp [yT,h0]
   rw [e] at Qk
   cases ho:okR (t.n,t.n) with
   | false=>rw [ho] at Qk;simp at Qk
   | true=>
    simp only [okR,zA,yR] at ho;simp only [gy];omega
  split
  ·exact Je hv _
  split
  ·exact kQ _
  split
  ·split <;> simp [gy]
  split
  ·split <;> exact Je hk _
  split
  ·exact Je hk _
  ·exact zex (Je hk _) (Je hk _)
theorem AX {n low high:Int} (h:gy n) (h1:gy low) (h2:gy high):gy (wN n low high):=by
 unfold wN;split
 ·exact h1
 split
 ·exact h2
 ·exact h
theorem ziy {f:zh} (hr:∀ v∈f.1,pG v) (v:Int):gy (vlo f v)/\gy (vhi f v):=by
 unfold vlo vhi
 cases h:f.1[v.toNat]? with
 | none=>simp [gy]
 | some x=>
  obtain ⟨a,b,c⟩:=hr x (Z40 h);simp only [gy];omega
theorem O8 {l:List Int} (h:∀ x∈l,gy x) (i:Int) {y:Int} (hy:gy y):∀ x∈wZ l i y,gy x:=fun x hx=>by
 rcases List.mem_or_eq_of_mem_set (show x∈l.set i.toNat y from hx) with h1 | h1
 ·exact h x h1
 ·rw [h1];exact hy
structure InS (s:RS):Prop where
 vals:∀ x∈s.vals,gy x
 outs:∀ x∈s.outs,gy x
theorem Ou {c:Int} {t:Tm} {body:RS->RS} (hb:∀ s,InS s->InS (body s)):∀ (n:Nat) (s:RS),InS s->InS (QO c t body n s)
 | 0,s,h=>h
 | n+1,s,h=>by
  simp only [QO];split
  ·exact ⟨h.vals,h.outs⟩
  ·exact Ou hb n _ (hb _ ⟨h.vals,h.outs⟩)
theorem Eu (f:zh) (hr:∀ v∈f.1,pG v) {hs:List Int} (hh:∀ x∈hs,gy x):∀ (M:Nat) (l:List Sp) (top:Bool),yS l < M->Qs f top l->∀ s,InS s->InS (vK f hs l s)
 | 0,l,_,h,_,_,_=>by omega
 | M+1,[],_,_,_,s,h=>by simp only [vK];exact h
 | M+1,x :: l,top,h,zy,s,hi=>by
  simp only [yS] at h;have he:=kF x;have hp:=yX x.term;simp only [Qs] at zy;obtain ⟨⟨q1,q2,q3⟩,q4,q5⟩:=(xm ..).1 zy.1;obtain ⟨_,r,Qk⟩:=q3;have vt:∀ s,InS s->gy (vC s.vals x.term):=fun s h=>E7 hr h.vals _ _ (yN _) r Qk
  have kx:=fun s=>Eu f hr hh M x.j4 false (by omega) q4 s
  have ky:=fun s=>Eu f hr hh M x.uQ false (by omega) q5 s
  obtain ⟨b1,b2⟩:=ziy hr x.var;simp only [vK];refine Eu f hr hh M l top (by omega) zy.2 _ ?_;rw [Wi];split
  ·exact Ou kx _ _ hi
  split
  ·exact ⟨O8 hi.vals _ (AX (vt s hi) b1 b2),hi.outs⟩
  split
  ·refine ⟨hi.vals,fun y hy=>?_⟩;rcases U5.1 hy with hy | hy
   ·exact hi.outs y hy
   ·rw [Mp.1 hy];exact vt s hi
  split
  ·split
   ·exact ky _ ⟨hi.vals,hi.outs⟩
   ·exact kx _ ⟨hi.vals,hi.outs⟩
  split
  ·exact ⟨O8 hi.vals _ (AX (Je hh _) b1 b2),hi.outs⟩
  split
  ·exact ⟨hi.vals,hi.outs⟩
  ·exact ⟨hi.vals,hi.outs⟩
theorem zj8 {vs:List qY} (hv:u6 vs) (a:QB) (ha:H7 vs a):∀ x∈VR vs a vs.length,gy x:=fun x hx=>by
 obtain ⟨j,hj,rfl⟩:=Gq.1 hx;have ZD:j < vs.length:=Z21.1 hj;obtain ⟨c1,c2,c3⟩:=(hv.each j ZD).JA;by_cases h0:vs[j].2.1=0
 ·obtain ⟨_,e1,e2⟩:=XQ (a:=a) hv ZD h0;simp only [gy];omega
 ·obtain ⟨_,_,e1,e2⟩:=AZ hv ha ZD h0;simp only [gy];omega
theorem zeu {f:zh} (h:WF f) (a:QB) (ha:H7 f.1 a):∀ x∈(P2 f a).outs,gy x:=by
 have hs:=zj8 h.vars a ha;refine (Eu f h.vars.JA (hs:=Cg f (VR f.1 a f.1.length)) (fun x hx=>?_) _ f.2.2.1 true (Bm _) h.steps ⟨VR f.1 a f.1.length,[],0⟩ ⟨hs,by simp⟩).outs;obtain ⟨y,hy,rfl⟩:=Gq.1 hx;obtain ⟨i,hi,rfl⟩:=Jo.1 hy;have q:=h.Ie i hi;obtain ⟨c1,c2,c3⟩:=Wm.1 q.JA;obtain ⟨_,r,Qk⟩:=q.term;exact AX (E7 h.vars.JA hs _ _ (yN _) r Qk) (by simp only [gy];omega) (by simp only [gy];omega)
end Go.Kz
namespace Go.Kz
abbrev WU:=List Int×(Int×Unit)
theorem FW (N:Nat) (a b:Int):∃ c,f198 N a b=some c/\(c=0↔a=b):=by
 unfold f198 f278;by_cases h1:a < b
 ·rw [jY h1];exact ⟨-1,rfl,by omega⟩
 ·rw [qO h1];by_cases h2:b < a
  ·rw [jY h2];exact ⟨1,rfl,by omega⟩
  ·rw [qO h2];exact ⟨0,rfl,by omega⟩
theorem zek (N:Nat) (hN:200<=N) (a b:WU) (ha:a.1.length<=100):zx (f111 N a b) fun c=>c=0↔a=b:=by
 unfold f111;refine zx.iter (fun x:Int=>∃ k:Nat,x=k/\k<=a.1.length/\k<=b.1.length/\∀ i,i < k->a.1[i]? = b.1[i]?) (fun x=>a.1.length-x.toNat) ?_ N 0 ⟨0,rfl,jt _,jt _,fun i hi=>by omega⟩ (by simp;omega);rintro x w ⟨k,rfl,k1,k2,pe⟩ hw;simp only [FA,wR,zP];by_cases hk:k < a.1.length/\k < b.1.length
 ·rw [show (decide ((k:Int) < len a.1) && decide ((k:Int) < len b.1))=true by simp only [zA,yR,len];omega,zB,zg hk.1,zg hk.2];simp only [zP];refine zx.cond (fun je=>?_) fun he=>?_
  ·simp only [PO,u7] at je;obtain ⟨c,h1,h2⟩:=FW N a.1[k] b.1[k];rw [h1];refine zx.ret ?_;rw [h2];refine ⟨fun e=>absurd e je,fun e=>?_⟩;subst e;rfl
  ·simp only [Bl,yR] at he;rw [zu (by omega)];refine hw _ ⟨k+1,by simp,by omega,by omega,fun i hi=>?_⟩ (by simp;omega);by_cases e:i=k
   ·subst e;rw [wP hk.1,wP hk.2,he]
   ·exact pe i (by omega)
 ·rw [show (decide ((k:Int) < len a.1) && decide ((k:Int) < len b.1))=false by simp only [Rr,u7,len];omega,zU];refine zx.cond (fun je=>?_) fun he=>?_
  ·simp only [PO,u7,len] at je;obtain ⟨c,h1,h2⟩:=FW N (len a.1) (len b.1);rw [h1];refine zx.ret ?_;rw [h2];refine ⟨fun e=>absurd e je,fun e=>?_⟩;subst e;rfl
  ·simp only [Bl,yR,len] at he;have el:a.1=b.1:=by
    apply Z3v;intro i;by_cases hi:i < k
    ·exact pe i hi
    ·rw [Z2g (by omega),Z2g (by omega)]
   obtain ⟨c,h1,h2⟩:=FW N a.2.1 b.2.1;rw [h1];refine zx.ret ?_;rw [h2];refine ⟨fun e=>?_,fun e=>by rw [e]⟩;obtain ⟨a1,a2,a3⟩:=a;obtain ⟨b1,b2,b3⟩:=b;simp only at el e;rw [el,e]
end Go.Kz
namespace Go.Kz
theorem zel (N:Nat) (hN:200<=N) (a b:WU) (ha:a.1.length<=100):f110 N a b=some (decide (a=b)):=by
 obtain ⟨c,h1,h2⟩:=zek N hN a b ha;unfold f110;rw [h1,zP];congr 1;by_cases h:c=0
 ·rw [jY h,jY (h2.1 h)]
 ·rw [qO h,qO (fun e=>h (h2.2 e))]
theorem YJ {I:Type} [DecidableEq I] {x:I}:∀ {l:List I} {k:Nat} (hk:k < l.length),l[k]=x->(∀ j (hj:j < l.length),j < k->l[j]≠x)->posOf x l=k
 | y :: l,0,_,h,_=>by simp only [posOf];rw [yQ (by simpa using h)]
 | y :: l,k+1,hk,h,hn=>by
  have h0:y≠x:=hn 0 (by simp) (by omega);simp only [posOf,qZ h0];rw [YJ (by simpa using hk) (by simpa using h) (fun j hj qx=>hn (j+1) (by simpa using hj) (by omega))]
theorem zls (N:Nat) (hN:200<=N) (l:List WU) (x:WU) (hl:l.length<=100) (hs:∀ y∈l,y.1.length<=100):f88 N l (x,())=some (if x∈l then (posOf x l:Int) else -1):=by
 refine zx.eq ?_;unfold f88;refine zx.Bn (fun j=>∀ i (h:i < l.length),i < j->l[i]≠x) l.length ?_ ?_ N 0 (jt _) (by omega) (fun i h hi=>by omega)
 ·intro j w hj hinv hw;simp only [F7];rw [show decide ((j:Int) < len l)=true from zK hj,zB,zg hj];simp only [zP];rw [zel N hN _ _ (hs _ (ku hj)),zP];refine zx.cond (fun h=>?_) fun h=>?_
  ·have h':=BI h;refine zx.ret ?_;rw [yQ (by rw [<-h'];exact ku hj),YJ hj h' hinv]
  ·have h':=Rs h;rw [zu (by omega)];refine hw fun i hi qx=>?_
   by_cases e:i=j
   ·subst e;exact h'
   ·exact hinv i hi (by omega)
 ·intro w hinv;simp only [F7];rw [show decide (((l.length:Nat):Int) < len l)=false from zV _,zU];refine zx.ret ?_;rw [qZ];intro hm;obtain ⟨i,hi,he⟩:=Jo.1 hm;exact hinv i hi hi he
end Go.Kz
namespace Go.Kz
theorem ZK {I:Type} [DecidableEq I]:∀ (acc l m:List I),jD acc (l++m)=jD (jD acc l) m
 | acc,[],m=>rfl
 | acc,x :: l,m=>by
  simp only [xA,jD];split
  ·exact ZK acc l m
  ·exact ZK (acc++[x]) l m
theorem K1 {I:Type} [DecidableEq I]:∀ (acc l:List I),∃ r,jD acc l=acc++r
 | acc,[]=>⟨[],by simp [jD]⟩
 | acc,x :: l=>by
  simp only [jD];split
  ·exact K1 acc l
  ·obtain ⟨r,h⟩:=K1 (acc++[x]) l;exact ⟨x :: r,by rw [h];simp⟩
theorem Uj {I:Type} [DecidableEq I]:∀ (acc l:List I),(jD acc l).length<=acc.length+l.length
 | acc,[]=>by simp [jD]
 | acc,x :: l=>by
  simp only [jD];split
  ·have:=Uj acc l;simp only [Vy];omega
  ·have:=Uj (acc++[x]) l;simp only [Vy,VH,Fl] at *;omega
theorem z2v {I:Type} [DecidableEq I] (acc l:List I) (x:I) (h:x∈jD acc l):jD acc (l++[x])=jD acc l:=by
 rw [ZK];simp only [jD];rw [yQ h]
theorem OG {I:Type} [DecidableEq I] (acc l:List I) (x:I) (h:x∉jD acc l):jD acc (l++[x])=jD acc l++[x]:=by
 rw [ZK];simp only [jD];rw [qZ h]
def wY (f:zh) (p:List Int) (n:Nat):List WU:=(List.range n).map fun (s:Nat)=>xX f p (s:Int)
theorem ZV (f:zh) (p:List Int) (n:Nat):wY f p (n+1)=wY f p n++[xX f p (n:Int)]:=by simp [wY,Tf]
theorem x7 (f:zh) (p:List Int) (n:Nat):(wY f p n).length=n:=by simp [wY]
theorem Xh (f:zh) (p:List Int) {n i:Nat} (h:i < n):(wY f p n)[i]'(by rw [x7];exact h)=xX f p (i:Int):=by simp [wY]
theorem I4 (f:zh) (p:List Int) (m:Nat):∀ n,∃ r,wY f p (m+n)=wY f p m++r
 | 0=>⟨[],by simp⟩
 | n+1=>by
  obtain ⟨r,h⟩:=I4 f p m n;exact ⟨r++[xX f p ((m+n:Nat):Int)],by rw [<-S0,ZV,h];simp⟩
theorem z3n (f:zh) (p:List Int) {n s:Nat} (h:s < n):(PJ (wY f p n)).getD s 0=(posOf (xX f p (s:Int)) (jD [] (wY f p (s+1))):Int):=by
 have hl:s < (wY f p n).length:=by rw [x7];exact h
 have e:=Uy hl;rw [Xh f p h] at e;rw [VF,e,Z2h];obtain ⟨r,hr⟩:=I4 f p (s+1) (n-(s+1));rw [show s+1+(n-(s+1))=n by omega] at hr;rw [hr,ZK];obtain ⟨q,hq⟩:=K1 (jD [] (wY f p (s+1))) r;rw [hq,kW];rw [pN];right;rw [ZV];simp
theorem GI {f:zh} (h:WF f) (a:QB):(P2 f a).outs.length<=8:=by
 have:=(pL f (Cg f (VR f.1 a f.1.length)) _ f.2.2.1 true (Bm _) h.steps ⟨VR f.1 a f.1.length,[],0⟩).outs;have h2:=h.ub2;simp only [Fl] at this;have e:(P2 f a)=vK f (Cg f (VR f.1 a f.1.length)) f.2.2.1 ⟨VR f.1 a f.1.length,[],0⟩:=rfl;rw [e];omega
theorem zba (N:Nat) (hN:5000<=N) {f:zh} {ps:List (List Int)} (h:gr N f ps) (t3:List Choice) (at_ q:Nat) (TC:at_ < t3.length) (hq:t3[at_].1=(q:Int)) (hqp:q < ps.length) (s:Nat) (hs:(s:Int) < zN (jX f.1 1)) (t4:Int) (ex:List WU) {R:Type} (kx:Int->List WU->Option R) (Q:R->Prop)
  (hk:zx (kx (posOf (xX f ps[q] (s:Int)) (jD [] (wY f ps[q] (s+1)))) (jD [] (wY f ps[q] (s+1)))) Q) :
  zx (iter (fun w=>Ab ET N true (at_:Int) t3 ps t4 (zz ((s:Int)+1)) f ex w kx) N (0,0,([]:List WU))) Q:=by
 have hp:=h.fit _ (ku hqp);have h8:=h.sec;have r1:=kJ;rw [zu (by omega)];refine zx.up (fun j u=>u.2=jD [] (wY f ps[q] j)/\(0 < j->u.1=(posOf (xX f ps[q] ((j-1:Nat):Int)) (jD [] (wY f ps[q] j)):Int))) (s+1) ?_ ?_ N 0 (jt _) (by omega) _ ⟨by simp [wY,jD],fun h=>by omega⟩
 ·rintro j ⟨c,o⟩ w hj ⟨e1,_⟩ hw;simp only at e1;subst e1;simp only [Ab,ET];rw [jY (show (j:Int) < (s:Int)+1 by omega),zB,zg TC];simp only [zP];rw [hq,zg hqp];simp only [zP];rw [zem N hN h hp (j:Int) (by omega) (by omega)];simp only [zP,f108,zB];have hle:=Uj [] (wY f ps[q] j);rw [x7] at hle;simp only [Fl] at hle;have AV:∀ y∈jD [] (wY f ps[q] j),y.1.length<=100:=by
   intro y hy;rw [pN] at hy;rcases hy with hy | hy
   ·simp at hy
   ·obtain ⟨i,_,rfl⟩:=Gq.1 hy;have:=GI h.wf (Pe f ps[q] (i:Int));simp only;omega
  rw [show f88 N (jD [] (wY f ps[q] j)) (((xX f ps[q] (j:Int)).1,(xX f ps[q] (j:Int)).2),())=_ from zls N (by omega) _ (xX f ps[q] (j:Int)) (by omega) AV];simp only [zP];rw [zu (by omega)];by_cases hm:xX f ps[q] (j:Int)∈jD [] (wY f ps[q] j)
  ·have hn:=z2v _ _ _ hm;rw [<-ZV] at hn;rw [yQ hm,qO (by omega),zU];refine hw _ ⟨hn.symm,fun _=>?_⟩;simp only [Z4s];rw [hn]
  ·have hn:=OG _ _ _ hm;rw [<-ZV] at hn;rw [qZ hm,show decide ((-1:Int) < 0)=true from rfl,zB];refine zx.qW (by simp only [yR];omega) ?_;refine hw _ ⟨hn.symm,fun _=>?_⟩;simp only [Z4s];rw [hn,JF hm]
 ·rintro ⟨c,o⟩ w ⟨e1,e2⟩;simp only [Ab,ET];rw [qO (show ¬ ((s+1:Nat):Int) < (s:Int)+1 by omega),zU];have e3:=e2 (by omega);simp only [Z4s] at e1 e3;rw [e1,e3];exact hk
end Go.Kz
namespace Go.Kz
theorem z1c:∀ (l:List Int) (t:Int) (s:Int×Bool),(l.foldl (GW t) s).1∈l\/(l.foldl (GW t) s).1=s.1
 | [],_,_=>.inr rfl
 | x :: l,t,s=>by
  simp only [Z26];rcases z1c l t (GW t s x) with h | h
  ·exact .inl (Th _ h)
  ·rw [h];unfold GW;split
   ·exact .inl (Z20 ..)
   ·exact .inr rfl
theorem zbc {l:List Int} (h:S3 l) (hb:∀ h:0 < l.length,l[l.length-1]<=(67108864:Int)):∀ x∈l,gy x:=by
 have up:∀ (k i:Nat) (hk:i+k < l.length),l[i]<=l[i+k]:=by
  intro k
  induction k with
  | zero=>intro i hk;exact Z30 _
  | succ k ih=>
   intro i hk;have h1:=ih i (by omega);have h2:l[i+k]'(by omega) < l[i+(k+1)]:=h.up (i+(k+1)) (by omega) hk;omega
 intro x hx;obtain ⟨i,hi,rfl⟩:=Jo.1 hx;have h0:=h.first (by omega);have h1:=up i 0 (by omega);have h2:=up (l.length-1-i) i (by omega);have h3:=hb (by omega);simp only [Zf] at h1;have e:l[i+(l.length-1-i)]'(by omega)=l[l.length-1]'(by omega):=by congr 1;omega
 rw [e] at h2;simp only [gy];omega
theorem Cm {c:Int} {t:Tm} {body:RS->RS} (hb:∀ s,gy s.time->gy (body s).time):∀ (n:Nat) (s:RS),gy s.time->gy (QO c t body n s).time
 | 0,s,h=>h
 | n+1,s,h=>by
  simp only [QO];split
  ·exact kQ _
  ·exact Cm hb n _ (hb _ (kQ _))
theorem Wh (f:zh) {hs:List Int}:∀ (M:Nat) (l:List Sp) (top:Bool),yS l < M->Qs f top l->∀ s,gy s.time->gy (vK f hs l s).time
 | 0,l,_,h,_,_,_=>by omega
 | M+1,[],_,_,_,s,h=>by simp only [vK];exact h
 | M+1,x :: l,top,h,zy,s,hi=>by
  simp only [yS] at h;have he:=kF x;have hp:=yX x.term;simp only [Qs] at zy;obtain ⟨⟨q1,q2,q3⟩,q4,q5⟩:=(xm ..).1 zy.1;have kx:=fun s=>Wh f (hs:=hs) M x.j4 false (by omega) q4 s
  have ky:=fun s=>Wh f (hs:=hs) M x.uQ false (by omega) q5 s
  simp only [vK];refine Wh f M l top (by omega) zy.2 _ ?_;rw [Wi];split
  ·exact Cm kx _ _ hi
  split
  ·exact kQ _
  split
  ·exact kQ _
  split
  ·split
   ·exact ky _ (kQ _)
   ·exact kx _ (kQ _)
  split
  ·exact kQ _
  split
  ·rename_i h6;have hr:=zbc (q1.set h6).2 q2.bnd;rcases z1c x.bounds (zz (s.time+x.cost)) (zz (s.time+x.cost),false) with h | h
   ·exact hr _ h
   ·show gy (HX x.bounds (zz (s.time+x.cost)));rw [HX,h];exact kQ _
  ·exact kQ _
theorem z3t {f:zh} (h:WF f) (a:QB) (ha:H7 f.1 a):∀ x∈(P2 f a).time :: (P2 f a).outs,gy x:=by
 intro x hx;rcases pK.1 hx with rfl | hx
 ·exact Wh f _ f.2.2.1 true (Bm _) h.steps ⟨VR f.1 a f.1.length,[],0⟩ (by simp [gy])
 ·exact zeu h a ha x hx
@[reducible] def Mt (td:Bool) (o:WU):List UInt8:=uy ((cond td o.2.1 0) :: o.1)
theorem zds (N:Nat) (hN:5000<=N) {f:zh} {ps:List (List Int)} (h:gr N f ps) {p:List Int} (hp:Fits (jX f.1 2) p) (td:Bool) (s:Int) (h0:0<=s) (h1:s < zN (jX f.1 1)):f274 N s f (p,(td,())) []=some (Mt td (xX f p s)):=by
 have hv:=h.wf.vars;have r1:=kJ;have hs:=GI h.wf (Pe f p s);unfold f274 z68 f275;simp only [ET];rw [zeb N (by omega) hv 1 (by omega) hv.sec s h0 h1];simp only [zP];rw [show f73 N f (Pw (jX f.1 1) s (jX f.1 1).length,(p,([],())))=_ from zlu N hN f h.wf (Pe f p s) (Up h hp s)];simp only [zP,f74];rw [zeh N _ (by omega)];cases td
 ·simp only [zP,zU];rw [zf (by simp only [yR];show 1+(P2 f (Pe f p s)).outs.length<=room;omega)];unfold f276 GK;rw [zf (by simp only [yR,Vy];omega)];rfl
 ·simp only [zP,zB];rw [zf (by simp only [yR];show 1+(P2 f (Pe f p s)).outs.length<=room;omega)];unfold f276 GK;rw [zf (by simp only [yR,Vy];omega)];rfl
section
variable {I:Type} [DecidableEq I]
def A5:List I->Int->List (I×Int)
 | [],_=>[]
 | x :: l,n=>(x,n) :: A5 l (n+1)
theorem Ik (l:List I) (n:Int):(A5 l n).length=l.length:=by
 induction l generalizing n with
 | nil=>rfl
 | cons x l ih=>simp [A5,ih]
theorem JS {eq:I->I->Bool} (he:∀ a b,eq a b=decide (a=b)) (x:I):(l:List I)->(n:Int)->wJ eq (A5 l n) x=if x∈l then some (n+posOf x l) else none
 | [],n=>rfl
 | y :: l,n=>by
  simp only [A5,wJ,he,posOf];by_cases h:x=y
  ·subst h;simp
  ·have h2:¬ y=x:=fun e=>h e.symm
   simp only [h,Z2l,zU,pK,false_or,JS he x l (n+1),qZ h2];split
   ·congr 1;push_cast;omega
   ·rfl
theorem Dj {eq:I->I->Bool} (he:∀ a b,eq a b=decide (a=b)) (x:I):(l:List I)->(n:Int)->x∉l->gp eq (A5 l n) x (n+l.length)=A5 (l++[x]) n
 | [],n,_=>by simp [A5,gp]
 | y :: l,n,h=>by
  have h1:¬ x=y:=by intro he;subst he;simp at h
  have h2:x∉l:=by intro hm;exact h (by simp [hm])
  have:=Dj he x l (n+1) h2;simp only [A5,gp,he,h1,Z2l,zU,xA,Vy];rw [<-this];congr 2;push_cast;omega
def kP (F:Nat->I) (n:Nat):List I:=(List.range n).map F
theorem kG (F:Nat->I) (n:Nat):kP F (n+1)=kP F n++[F n]:=by simp [kP,Tf]
theorem ka (F:Nat->I) (n:Nat):(kP F n).length=n:=by simp [kP]
theorem Jw (F:Nat->I) {n i:Nat} (h:i < (kP F n).length):(kP F n)[i]=F i:=by simp [kP]
theorem L2 (F:Nat->I) (m:Nat):∀ n,∃ r,kP F (m+n)=kP F m++r
 | 0=>⟨[],by simp⟩
 | n+1=>by
  obtain ⟨r,h⟩:=L2 F m n;exact ⟨r++[F (m+n)],by rw [<-S0,kG,h];simp⟩
def Pd (F:Nat->I) (s:Nat):Int:=(posOf (F s) (jD [] (kP F (s+1))):Int)
theorem zc4 (F:Nat->I) (n:Nat):jF n (Pd F)=PJ (kP F n):=by
 apply Z3a
 ·rw [jz,gN,ka]
 ·intro s h1 h2;have hs:s < n:=by rw [jz] at h1;exact h1
  have hl:s < (kP F n).length:=by rw [ka];exact hs
  have e:=Uy hl;rw [wP h2,zI,Jw] at e;rw [kS,e,Pd];obtain ⟨r,hr⟩:=L2 F (s+1) (n-(s+1));rw [show s+1+(n-(s+1))=n by omega] at hr;rw [hr,ZK];obtain ⟨q,hq⟩:=K1 (jD [] (kP F (s+1))) r;rw [hq,kW];rw [pN];right;rw [kG];simp
end
theorem zdt (N:Nat) (hN:5000<=N) {f:zh} {ps:List (List Int)} (h:gr N f ps) {p:List Int} (hp:Fits (jX f.1 2) p) (td:Bool):f273 N f (f,((p,(td,())),([],())))=some (PJ ((wY f p (zN (jX f.1 1)).toNat).map (Mt td))):=by
 have hv:=h.wf.vars;have h8:=h.sec;have r1:=kJ;have p1:=vw (l:=jX f.1 1) (uL hv.JA 1);obtain ⟨n,hn⟩:∃ n:Nat,zN (jX f.1 1)=(n:Int):=⟨(zN (jX f.1 1)).toNat,by omega⟩;let F:Nat->List UInt8:=fun s=>Mt td (xX f p (s:Int))
 refine zx.eq ?_;unfold f273 f325;rw [AR N (by omega) hv.len hv.JA 1 (by omega) hv.sec,AR N (by omega) hv.len hv.JA 3 (by omega) (by have:=hv.rnd;omega)];simp only [zP];rw [hn];refine zx.qW (by simp only [zA,yR];omega) ?_;refine zx.up (fun j s=>s=(A5 (jD [] (kP F j)) 0,jF n fun i=>if i < j then Pd F i else 0)) n ?_ ?_ N 0 (jt _) (by omega) _ ?_
 ·rintro j s w hj rfl hw;have hle:=Uj [] (kP F j);rw [ka] at hle;simp only [Fl] at hle;have ht:j < (jF n fun i=>if i < j then Pd F i else 0).length:=by rw [jz];exact hj
  have he:∀ a b:List UInt8,ju .str a b=decide (a=b):=fun a b=>rfl
  have kz:∀ x,x=Pd F j->wZ (jF n fun i=>if i < j then Pd F i else 0) (j:Int) x=jF n fun i=>if i < j+1 then Pd F i else 0:=fun x hx=>by
   show List.set _ ((j:Int).toNat) _=_;rw [LL,WT];refine vV fun c _=>?_
   by_cases e:c=j
   ·subst e;rw [yQ rfl,yQ (by omega),hx]
   ·rw [qZ e];by_cases e2:c < j
    ·rw [yQ e2,yQ (by omega)]
    ·rw [qZ e2,qZ (by omega)]
  simp only [UM];rw [jY (show (j:Int) < (n:Int) by omega),zB,show f274 N (j:Int) f (p,(td,())) []=some (F j) from zds N hN h hp td (j:Int) (by omega) (by omega)];simp only [zP];rw [zg ht];simp only [zP];have V8:vU (jF n fun i=>if i < j then Pd F i else 0) (j:Int)=true:=by simp only [vU,zA,yR];omega
  rw [V8,zu (by omega)];by_cases hm:F j∈jD [] (kP F j)
  ·have IB:=z2v _ _ _ hm;rw [<-kG] at IB;rw [JS he,yQ hm];simp only [Z4q,xU,zU,Z2h];refine zx.qW rfl ?_;refine hw _ ?_;rw [kz _ (by rw [Pd,IB];omega),IB]
  ·have IB:=OG _ _ _ hm;rw [<-kG] at IB;rw [JS he,qZ hm];simp only [Z5b,Z2t,zB];refine zx.qW (by simp only [yR,Ik];omega) ?_;refine zx.qW rfl ?_;refine hw _ ?_;have hp2:=Dj he (F j) (jD [] (kP F j)) 0 hm;rw [Int.zero_add] at hp2;have hlen:len (A5 (jD [] (kP F j)) 0)=((jD [] (kP F j)).length:Int):=by simp [len,Ik]
   rw [hlen,hp2,<-IB,JS he,yQ (by rw [IB];simp),Z2h,kz _ (by rw [Pd];omega)]
 ·rintro s w rfl;simp only [UM];rw [qO (by omega),zU];have e:(jF n fun i=>if i < n then Pd F i else 0)=PJ (kP F n):=by
   rw [<-zc4];exact vV fun c hc=>yQ hc
  rw [e,zlt N _ (by rw [gN,ka];omega) (by rw [gN,ka];omega)];simp only [zP];refine zx.ret ?_;rw [(Ml _).2 (EB _)];have e2:kP F n=(wY f p n).map (Mt td):=by simp [kP,wY,F]
  rw [e2,LL]
 ·have e1:(jF n fun i=>if i < 0 then Pd F i else 0)=jF n fun _=>0:=vV fun c _=>qZ (by omega)
  show (_,List.replicate (Int.toNat (n:Int)) 0)=_;rw [e1,LL,Wa];rfl
theorem TQ {N:Nat} {f:zh} {ps:List (List Int)} (h:gr N f ps) {p:List Int} (hp:Fits (jX f.1 2) p) (n:Nat):PJ ((wY f p n).map (Mt true))=PJ (wY f p n):=by
 refine zbu fun x hx y hy hxy=>?_
 obtain ⟨i,hi,rfl⟩:=Gq.1 hx;obtain ⟨i',wT,rfl⟩:=Gq.1 hy;have q:=XY (z3t h.wf (Pe f p (i:Int)) (Up h hp _)) (z3t h.wf (Pe f p (i':Int)) (Up h hp _)) hxy;simp only [BL] at q;simp only [xX];rw [q.1,q.2]
end Go.Kz
namespace Go.Kz
def vI (f:zh) (ps:List (List Int)):List (List Int):=ps.map fun p=>PJ (wY f p (zN (jX f.1 1)).toNat)
def gO (f:zh) (ps:List (List Int)):gC:=(zN (jX f.1 1),(vI f ps,()))
def uJ (f:zh) (ps:List (List Int)) (st:List Choice) (k:Nat) (Zm:Int) (s:Nat):List WU:=(runT (vI f ps) st k Zm s).map fun a=>xX f (ps.getD a.1.toNat []) (s:Int)
theorem CX (f:zh) {ps:List (List Int)} {q:Nat} (hq:q < ps.length):(vI f ps).getD q []=PJ (wY f ps[q] (zN (jX f.1 1)).toNat):=by
 rw [vI,VF,Z3e,wP hq];rfl
theorem Ch {vs:List (List Int)} {st:List Choice} {k a s:Nat} (ha:a < st.length):runT vs st (k+1) (a:Int) s=(st[a].1,((vs.getD st[a].1.toNat []).getD s 0,())) :: runT vs st k (st[a].2.1.getD ((vs.getD st[a].1.toNat []).getD s 0).toNat (-1)) s:=by
 have h:¬ (a:Int) < 0:=by omega
 simp only [runT,qZ h,LL,wP ha]
theorem XU {vs:List (List Int)} {st:List Choice} {k s:Nat} {Zm:Int} (h:¬ (0<=Zm/\Zm < st.length)):runT vs st k Zm s=[]:=by
 cases k with
 | zero=>rfl
 | succ k=>
  simp only [runT];split
  ·rfl
  ·rename_i h0;rw [Z2g (by omega)]
theorem zm3 (N:Nat) (hN:5000<=N) {f:zh} {ps:List (List Int)} (h:gr N f ps) {st:List Choice} (zy:Pq (vI f ps) st) (hl:st.length<=30) (s:Nat) (hs:(s:Int) < zN (jX f.1 1)):f35 N f ps true st (s:Int)=some (uJ f ps st st.length 0 s):=by
 have r1:=kJ;have h8:=h.sec;obtain ⟨n,hn⟩:∃ n:Nat,zN (jX f.1 1)=(n:Int):=⟨(zN (jX f.1 1)).toNat,by omega⟩;have WA:s < n:=by omega
 refine zx.eq ?_;unfold f35 zm4;refine zx.iter (fun x=>∃ k:Nat,x.2.length+k=st.length/\(x.1 = -1\/((x.2.length:Int)<=x.1))/\x.2++uJ f ps st k x.1 s=uJ f ps st st.length 0 s) (fun x=>st.length-x.2.length) ?_ N _ ⟨st.length,by simp,by simp,by simp⟩ (by simp only [Fl];omega);rintro ⟨at_,out⟩ w ⟨k,hk,TC,heq⟩ hw;simp only at hk TC heq;simp only [NQ,wR,zP];by_cases hb:0<=at_/\at_ < st.length
 ·obtain ⟨a,rfl⟩:∃ a:Nat,at_=(a:Int):=⟨at_.toNat,by omega⟩;have ha:a < st.length:=by omega
  have hal:out.length<=a:=by omega
  obtain ⟨k',rfl⟩:∃ k',k=k'+1:=⟨k-1,by omega⟩;have J9:=zy.node n ha;have Ed:=J9.zte;have hqp:st[a].1.toNat < ps.length:=by rw [vI,Gy] at Ed;exact Ed
  have hvq:=CX f hqp;have zrp:=z3n f ps[st[a].1.toNat] WA;have AQ:View n (PJ (wY f ps[st[a].1.toNat] n)):=z2p (x7 ..);have gE:=z73 AQ WA;rw [hn,LL] at hvq;have UQ:=J9.next;rw [hvq] at UQ;rw [zrp] at gE;rw [<-UQ,LL] at gE;have hto:=J9.to _ gE;rw [VF,wP gE,Z2h] at hto;rw [show (decide ((0:Int)<=(a:Int)) && decide ((a:Int) < len st))=true by simp only [zA,yR,len];omega,zB];refine zba N hN h st a st[a].1.toNat ha (by have:=J9.q4c;omega) hqp s hs (s:Int) out _ _ ?_;have hnd:st[a].2.1.getD (posOf (xX f ps[st[a].1.toNat] (s:Int)) (jD [] (wY f ps[st[a].1.toNat] (s+1)))) (-1)=st[a].2.1[posOf (xX f ps[st[a].1.toNat] (s:Int)) (jD [] (wY f ps[st[a].1.toNat] (s+1)))]'gE:=by
   rw [VF,wP gE];rfl
  have hpd:ps.getD st[a].1.toNat []=ps[st[a].1.toNat]:=by
   rw [VF,wP hqp];rfl
  have yP:uJ f ps st (k'+1) (a:Int) s=xX f ps[st[a].1.toNat] (s:Int) :: uJ f ps st k' (st[a].2.1[posOf (xX f ps[st[a].1.toNat] (s:Int)) (jD [] (wY f ps[st[a].1.toNat] (s+1)))]'gE) s:=by
   rw [uJ,Ch ha,hvq,zrp,LL,hnd,WY,hpd];rfl
  rw [yP] at heq;have hmem:xX f ps[st[a].1.toNat] (s:Int)∈jD [] (wY f ps[st[a].1.toNat] (s+1)):=by
   rw [pN];right;rw [ZV];simp
  have qx:=YY hmem;have vD:=uc hmem;rw [wP qx,zI] at vD;refine zx.qW (by simp only [vU,zA,yR];omega) ?_;rw [zg qx,zg ha];simp only [zP];refine zx.qW (by simp only [yR];omega) ?_;rw [qO (by simp only [len];omega),zU,zg gE];simp only [zP];refine hw _ ⟨k',by simp only [VH,Vy,Fl];omega,?_,?_⟩ (by simp only [VH,Vy,Fl];omega)
  ·simp only [VH,Vy,Fl];omega
  ·rw [<-heq,vD];simp
 ·rw [show (decide ((0:Int)<=at_) && decide (at_ < len st))=false by simp only [Rr,u7,len];omega,zU];refine zx.ret ?_;rw [<-heq,uJ,XU hb];simp
theorem Si {f:zh} {ps:List (List Int)} {st:List Choice} {n:Nat} (hn:zN (jX f.1 1)=(n:Int)) (zy:Pq (vI f ps) st) {r s:Nat} (hr:r < n) (hs:s < n):∀ (k:Nat) (Zm:Int),uJ f ps st k Zm r=uJ f ps st k Zm s↔runT (vI f ps) st k Zm r=runT (vI f ps) st k Zm s:=by
 intro k
 induction k with
 | zero=>intro Zm;simp [uJ,runT]
 | succ k ih=>
  intro Zm;by_cases hb:0<=Zm/\Zm < st.length
  ·obtain ⟨a,rfl⟩:∃ a:Nat,Zm=(a:Int):=⟨Zm.toNat,by omega⟩;have ha:a < st.length:=by omega
   have J9:=zy.node n ha;have Ed:=J9.zte;have hqp:st[a].1.toNat < ps.length:=by rw [vI,Gy] at Ed;exact Ed
   have hvq:=CX f hqp;rw [hn,LL] at hvq;have hpd:ps.getD st[a].1.toNat []=ps[st[a].1.toNat]:=by
    rw [VF,wP hqp];rfl
   have e:=z2r (l:=wY f ps[st[a].1.toNat] n) (i:=r) (j:=s) (by rw [x7];exact hr) (by rw [x7];exact hs);rw [Xh f _ hr,Xh f _ hs] at e;have ih':=ih (st[a].2.1.getD ((PJ (wY f ps[st[a].1.toNat] n)).getD s 0).toNat (-1));simp only [uJ] at ih';simp only [uJ,Ch ha,WY,hvq,hpd,BL];constructor
   ·rintro ⟨h1,h2⟩;have h3:=e.2 h1;rw [h3] at h2 ⊢;exact ⟨rfl,ih'.1 h2⟩
   ·rintro ⟨h1,h2⟩;simp only [gP,Vq,U6] at h1;rw [h1] at h2 ⊢;exact ⟨e.1 h1,ih'.2 h2⟩
  ·simp only [uJ,XU hb,Z28]
end Go.Kz
namespace Go.Kz
theorem all_eq {I:Type} [DecidableEq I] {F:(Int->Option Bool)->Int->Option Bool} (a b:List I) (hl:a.length=b.length)
  (step:∀ (k:Nat) (w:Int->Option Bool) (hk:k < a.length),F w (k:Int)=if a[k]=b[k]'(by omega) then w ((k:Int)+1) else some false)
  (last:∀ w,F w (a.length:Int)=some true) (N:Nat) (hN:a.length < N):iter F N 0=some (decide (a=b)):=by
 refine zx.eq ?_;refine zx.Bn (fun j=>∀ i (h:i < a.length),i < j->a[i]=b[i]'(by omega)) a.length ?_ ?_ N 0 (jt _) (by omega) (fun i h hi=>by omega)
 ·intro j w hj hinv hw;rw [step j w hj];split
  ·rename_i he;refine hw fun i h hi=>?_
   by_cases e:i=j
   ·subst e;exact he
   ·exact hinv i h (by omega)
  ·rename_i he;refine zx.ret ?_;rw [eq_comm,u7];intro e;subst e;exact he rfl
 ·intro w hinv;rw [last w];refine zx.ret ?_;rw [eq_comm,yR];exact Z3a hl fun i h1 _=>hinv i h1 h1
theorem zej (N:Nat) (hN:200<=N) (a b:List Int) (ha:a.length<=100):f112 N a b=some (decide (a=b)):=by
 unfold f112;by_cases hl:a.length=b.length
 ·rw [jY (show len a=len b by simp only [len];omega),show (!true)=false from rfl,zU];refine all_eq a b hl (fun k w hk=>?_) (fun w=>?_) N (by omega)
  ·simp only [Ul];rw [zK hk,zB,zg hk,zg (show k < b.length by omega),zu (by omega)];simp only [zP];split
   ·rename_i h;rw [jY h];rfl
   ·rename_i h;rw [qO h];rfl
  ·simp only [Ul];rw [zV];rfl
 ·rw [qO (show ¬ len a=len b by simp only [len];omega),qO (fun e=>hl (by rw [e]))];rfl
theorem zm0 (N:Nat) (hN:200<=N) (a b:WU) (ha:a.1.length<=100):f39 N a b=some (decide (a=b)):=by
 unfold f39;rw [zej N hN _ _ ha];simp only [wR,zP];congr 1;obtain ⟨a1,a2,_⟩:=a;obtain ⟨b1,b2,_⟩:=b;rw [Rt];simp only [zA,yR,gP];constructor
 ·rintro ⟨h1,h2⟩;exact ⟨h2,h1,trivial⟩
 ·rintro ⟨h1,h2,_⟩;exact ⟨h2,h1⟩
theorem zm1 (N:Nat) (hN:200<=N) (a b:List WU) (ha:a.length<=100) (hs:∀ o∈a,o.1.length<=100):f37 N a b=some (decide (a=b)):=by
 have key:f38 N a b ()=some (decide (a=b)):=by
  unfold f38;by_cases hl:a.length=b.length
  ·rw [jY (show len a=len b by simp only [len];omega),show (!true)=false from rfl,zU];refine all_eq a b hl (fun k w hk=>?_) (fun w=>?_) N (by omega)
   ·simp only [Fg];rw [zK hk,zB,zg hk,zg (show k < b.length by omega),zu (by omega)];simp only [zP];rw [zm0 N hN _ _ (hs _ (ku hk))];simp only [zP];split
    ·rename_i h;rw [jY h];rfl
    ·rename_i h;rw [qO h];rfl
   ·simp only [Fg];rw [zV];rfl
  ·rw [qO (show ¬ len a=len b by simp only [len];omega),qO (fun e=>hl (by rw [e]))];rfl
 unfold f37;rw [key];rfl
theorem zm2 (N:Nat) (hN:200<=N) (l:List (List WU)) (x:List WU) (hl:l.length<=100) (hs:∀ y∈l,y.length<=100/\∀ o∈y,o.1.length<=100) (hx:x∈l):f36 N l (x,())=some (posOf x l:Int):=by
 refine zx.eq ?_;unfold f36;refine zx.Bn (fun j=>∀ i (h:i < l.length),i < j->l[i]≠x) l.length ?_ ?_ N 0 (jt _) (by omega) (fun i h hi=>by omega)
 ·intro j w hj hinv hw;have hy:=hs _ (ku hj);simp only [NZ];rw [show decide ((j:Int) < len l)=true from zK hj,zB,zg hj];simp only [zP];rw [zm1 N hN _ _ hy.1 hy.2,zP];refine zx.cond (fun h=>?_) fun h=>?_
  ·have h':=BI h;exact zx.ret (by rw [YJ hj h' hinv])
  ·have h':=Rs h;rw [zu (by omega)];refine hw fun i hi qx=>?_
   by_cases e:i=j
   ·subst e;exact h'
   ·exact hinv i hi (by omega)
 ·intro w hinv;obtain ⟨i,hi,he⟩:=Jo.1 hx;exact absurd he (hinv i hi hi)
section
variable {I:Type} [DecidableEq I]
theorem Xa {x:I}:∀ {l:List I} {j:Nat} (hj:j < l.length),l[j]=x->posOf x l<=j
 | y :: l,j,hj,h=>by
  simp only [posOf];split
  ·omega
  ·rename_i je
   cases j with
   | zero=>exact absurd h je
   | succ j=>
    have:=Xa (l:=l) (x:=x) (j:=j) (by simpa using hj) (by simpa using h);omega
def F4 (T:Nat->I) (s:Nat):Int:=(posOf (T s) (kP T (s+1)):Int)
theorem zd7 (T:Nat->I) {o s:Nat} (hf:∀ r,r < s->T r≠T s):F4 T o=(s:Int)↔T o=T s:=by
 have hmem:T o∈kP T (o+1):=by rw [kG];simp
 have qx:=YY hmem;have vD:=uc hmem;rw [wP qx,zI,Jw] at vD;constructor
 ·intro h;have:posOf (T o) (kP T (o+1))=s:=by simp only [F4] at h;omega
  rw [this] at vD;exact vD.symm
 ·intro h;have h1:s<=o:=by
   apply Z5f;intro hc;exact hf o (by omega) h
  have h2:posOf (T o) (kP T (o+1))<=s:=Xa (by rw [ka];omega) (by rw [Jw];exact h.symm);have h3:¬ posOf (T o) (kP T (o+1)) < s:=fun hc=>hf _ hc (vD.trans h)
  simp only [F4];omega
theorem z5o (T:Nat->I) {o s r:Nat} (hr:r < s) (he:T r=T s):F4 T o≠(s:Int):=by
 have hmem:T o∈kP T (o+1):=by rw [kG];simp
 have qx:=YY hmem;have vD:=uc hmem;rw [wP qx,zI,Jw] at vD;rw [ka] at qx;intro h;have:posOf (T o) (kP T (o+1))=s:=by simp only [F4] at h;omega
 rw [this] at vD;have h2:posOf (T o) (kP T (o+1))<=r:=Xa (by rw [ka];omega) (by rw [Jw,he];exact vD);omega
theorem zb5 (g:List (List Int)) (n:Nat) (P:Nat->Bool) (hP:∀ s,s < n->P s=true) (T:Nat->I):qh n (fun s=>jb g n fun o=>decide (F4 T o=(s:Int)))=WW g n P T:=by
 refine jP fun s hs=>?_
 cases hb:jl P T s with
 | true=>
  rw [yQ rfl];simp only [jl,zA,BH,Z21] at hb;have hf:∀ r,r < s->T r≠T s:=fun r hr he=>by
   have:=hb.2 r hr;rw [hP r (by omega),jY he] at this;exact absurd this (by decide)
  refine xO g fun o ho=>?_
  simp only [Cx];rw [hP o ho,LM,Rt,yR,yR]
  exact zd7 T hf
 | false=>
  rw [qZ (by simp)];refine Vn g fun o ho=>?_
  rw [u7];have:∃ r,r < s/\T r=T s:=by
   apply Z5f;intro UY;have:jl P T s=true:=by
    simp only [jl,zA,BH,Z21];refine ⟨hP s hs,fun r hr=>?_⟩;rw [qO (fun e=>UY ⟨r,hr,e⟩),Bool.and_false];rfl
   rw [this] at hb;exact absurd hb (by decide)
  obtain ⟨r,hr,he⟩:=this;exact z5o T hr he
end
abbrev Nl:=List (List Int)×(Int×(List jI×(Int×(List Choice×Unit))))
theorem OF {g:List (List Int)} {n:Nat} (hg:Ba g n) (P:Nat->Bool):0<=jb g n P/\jb g n P<=n*1024:=
 ⟨Kq _ _ _,Ir _ (by omega) fun row hr=>(Zs (hg.row row hr) n P).2⟩
theorem z5z (N:Nat) (hN:200<=N) {g:List (List Int)} {n:Nat} (hn8:n<=8) (L:Nat->Int) (s:Int) {row:List Int} (vk:ZZ (n:Int) row=true) (a b:List (List Int)) (c d e k l m:Int) (x:Nl) {R:Type} (kx:Int->Option R) (Q:R->Prop)
  (hk:zx (kx (Wd row n fun o=>decide (L o=s))) Q):zx (iter (fun w=>AS N row s a c d e k l m (len (jF n L)) (jF n L) x w kx) N (0,0)) Q:=by
 have hr:=Va vk;have hrl:row.length=n:=by have:=hr.1;simp only [len] at this;omega
 refine zx.up (fun j t=>t=Wd row j fun o=>decide (L o=s)) n ?_ ?_ N 0 (jt _) (by omega) _ rfl
 ·rintro j t w hj rfl hw;have hjt:j < (jF n L).length:=by rw [jz];exact hj
  have b1:=Zs vk j fun o=>decide (L o=s)
  have b2:=hr.2 j;have hg1:row.getD j 0=row[j]'(by omega):=by rw [VF,wP (by omega)];rfl
  simp only [AS];rw [show decide ((j:Int) < len (jF n L))=true from zK hjt,zB];refine zx.qW (by simp only [vU,zA,yR];omega) ?_;rw [zg hjt,kS,zu (by omega)];simp only [zP,wR];rw [show decide ((j:Int) < len row)=true by simp only [yR,len];omega,Z2f];refine zx.cond (fun h=>?_) fun h=>?_
  ·rw [zg (show j < row.length by omega)];simp only [zP];refine hw _ ?_;rw [<-hg1,zw (by omega) (by omega)];simp only [Wd,qh];rw [yQ (by simpa using h)]
  ·refine hw _ ?_;simp only [Wd,qh];rw [qZ (by simpa using h)];omega
 ·rintro t w rfl;simp only [AS];rw [show decide ((n:Int) < len (jF n L))=false by simp only [u7,len,jz];omega,zU];exact hk
theorem zlx (N:Nat) (hN:200<=N) {n:Nat} (hn8:n<=8) (L:Nat->Int) (s:Int) (x:Nl) (hg:Ba x.1 n) (c d e:Int) {R:Type} (kx:Int->Option R) (Q:R->Prop)
  (hk:zx (kx (jb x.1 n fun o=>decide (L o=s))) Q):zx (iter (fun w=>AT N s x.1 c d e (len x.1) (jF n L) x w kx) N (0,0)) Q:=by
 have hgl:=hg.F6;refine zx.up (fun j t=>t=jb (x.1.take j) n fun o=>decide (L o=s)) x.1.length ?_ ?_ N 0 (jt _) (by omega) _ rfl
 ·rintro j t w hj rfl hw;simp only [AT];rw [show decide ((j:Int) < len x.1)=true from zK hj,zB,zg hj];simp only [zP];refine z5z N hN (g:=x.1) hn8 L s (hg.row _ (ku hj)) _ x.1 _ _ _ _ _ _ x _ _ ?_;rw [zu (by omega)];refine hw _ ?_;rw [qy hj,Vm];exact Qz ..
 ·rintro t w rfl;simp only [AT];rw [show decide (((x.1.length:Nat):Int) < len x.1)=false from zV _,zU,Qi];exact hk
theorem z5y (N:Nat) (hN:200<=N) {n:Nat} (hn8:n<=8) (L:Nat->Int) (x:Nl) (hg:Ba x.1 n) {R:Type} (kx:Int->Option R) (Q:R->Prop)
  (hk:zx (kx (qh n fun s=>jb x.1 n fun o=>decide (L o=(s:Int)))) Q):zx (iter (fun w=>Aa N (len (jF n L)) (jF n L) x w kx) N (0,0)) Q:=by
 refine zx.up (fun j t=>t=qh j fun s=>jb x.1 n fun o=>decide (L o=(s:Int))) n ?_ ?_ N 0 (jt _) (by omega) _ rfl
 ·rintro j t w hj rfl hw;have hjt:j < (jF n L).length:=by rw [jz];exact hj
  have b1:=OF hg fun o=>decide (L o=(j:Int))
  have b2:0<=qh j fun s=>jb x.1 n fun o=>decide (L o=(s:Int)):=uX fun s _=>Kq _ _ _
  have b3:(qh j fun s=>jb x.1 n fun o=>decide (L o=(s:Int)))<=j*(n*1024):=pH fun s _=>(OF hg _).2
  have b4:(j:Int)*(n*1024)<=8*(8*1024):=Z3k (by omega) (by omega) (by omega) (by omega);simp only [Aa];rw [show decide ((j:Int) < len (jF n L))=true from zK hjt,zB];refine zlx N hN hn8 L (j:Int) x hg _ _ _ _ _ ?_;rw [zu (by omega)];refine hw _ ?_;rw [zw (by omega) (by omega)];rfl
 ·rintro t w rfl;simp only [Aa];rw [show decide ((n:Int) < len (jF n L))=false by simp only [u7,len,jz];omega,zU];exact hk
end Go.Kz
namespace Go.Kz
theorem zlr (N:Nat) (hN:5000<=N) {f:zh} {ps:List (List Int)} (h:gr N f ps) {p:List Int} (hp:Fits (jX f.1 2) p) (td:Bool):f99 N f (p,(td,())) []=some (PJ ((wY f p (zN (jX f.1 1)).toNat).map (Mt td)),0):=by
 have hv:=h.wf.vars;have hr:=hv.rnd;have q32:f194 N f [2,3] [p,[]]=some 0:=by
  have q2:∃ c,f272 N f 2 p=some c/\c=0:=by
   obtain ⟨r,e1,e2⟩:=z5v N (by omega) hv 2 (by omega) hv.pub p hp;refine ⟨0,?_,rfl⟩;unfold f272;rw [e1,zP,e2];rfl
  have q3:∃ c,f272 N f 3 []=some c/\c=0:=by
   obtain ⟨r,e1,e2⟩:=z5v N (by omega) hv 3 (by omega) (by omega) [] (by rw [h.ED];exact ⟨rfl,fun i h _=>by simp at h⟩);refine ⟨0,?_,rfl⟩;unfold f272;rw [e1,zP,e2];rfl
  obtain ⟨c2,e2,rfl⟩:=q2;obtain ⟨c3,e3,rfl⟩:=q3;refine zx.eq ?_;unfold f194;refine zx.up (fun _ s=>s=0) 2 ?_ ?_ N 0 (by omega) (by omega) _ rfl
  ·rintro j s w hj rfl hw;simp only [FK];have:j=0\/j=1:=by omega
   rcases this with rfl | rfl
   ·rw [show decide (((0:Nat):Int) < len [(2:Int),3])=true from rfl,zB];simp only [zg (l:=[(2:Int),3]) (k:=0) (by decide),zg (l:=[p,[]]) (k:=0) (by simp),zP];show zx ((f272 N f 2 p).bind _) _;rw [e2];exact hw _ rfl
   ·rw [show decide (((1:Nat):Int) < len [(2:Int),3])=true from rfl,zB];simp only [zg (l:=[(2:Int),3]) (k:=1) (by decide),zg (l:=[p,[]]) (k:=1) (by simp),zP];show zx ((f272 N f 3 []).bind _) _;rw [e3];exact hw _ rfl
  ·rintro s w rfl;exact zx.ret rfl
 unfold f99 f195;rw [z5w N (by omega) f h.wf];simp only [zP,Vz,zB];rw [q32];simp only [zP,Vz,xU,zU];rw [zdt N hN h hp td];rfl
def Zn (td:Bool) (f:zh) (ps:List (List Int)):List (List Int):=ps.map fun p=>PJ ((wY f p (zN (jX f.1 1)).toNat).map (Mt td))
theorem Iw {N:Nat} {f:zh} {ps:List (List Int)} (h:gr N f ps) (td:Bool):pZ (zN (jX f.1 1),(Zn td f ps,()))=true:=by
 have p1:=vw (l:=jX f.1 1) (uL h.wf.vars.JA 1);have h8:=h.sec;have h5:=h.zsv;refine Q9.2 ⟨p1,by simp only;omega,by simp only [Zn,Gy];omega,fun v hv=>?_⟩;obtain ⟨p,_,rfl⟩:=Gq.1 hv;refine ⟨?_,EB _⟩;simp only [len,gN,x7,Gy];omega
theorem R5 (N:Nat) (hN:5000<=N) {f:zh} {ps:List (List Int)} (h:gr N f ps) (td:Bool):f30 N f ps td=some ((zN (jX f.1 1),(Zn td f ps,())),true):=by
 have hv:=h.wf.vars;have h5:=h.zsv;have r1:=kJ;refine zx.eq ?_;unfold f30;rw [Gt N (by omega) hv.len hv.JA 1 (by omega) hv.sec];simp only [zP];refine zx.up (fun j s=>s=Zn td f (ps.take j)) ps.length ?_ ?_ N 0 (jt _) (by omega) _ rfl
 ·rintro j s w hj rfl hw;simp only [Fu];rw [show decide ((j:Int) < len ps)=true from zK hj,zB,zg hj];simp only [zP];rw [zlr N hN h (h.fit _ (ku hj)) td];simp only [zP,Vz,xU,zU];refine zx.qW (by simp only [yR,Zn,Gy,P9];omega) ?_;rw [zu (by omega)];refine hw _ ?_;rw [qy hj,Zn,Zn,Z2e];rfl
 ·rintro s w rfl;simp only [Fu];rw [show decide (((ps.length:Nat):Int) < len ps)=false from zV _,zU,Qi];rw [FC N (by omega),YC,yQ (Iw h td)];exact zx.ret rfl
theorem Pv {N:Nat} {f:zh} {ps:List (List Int)} (h:gr N f ps):Zn true f ps=vI f ps:=
 Z4e fun p hp=>TQ h (h.fit p hp) _
theorem z3g {N:Nat} {f:zh} {ps:List (List Int)} (h:gr N f ps):pZ (gO f ps)=true:=by
 rw [gO,<-Pv h];exact Iw h true
theorem zm8 (N:Nat) (hN:5000<=N) {f:zh} {ps:List (List Int)} (h:gr N f ps):f30 N f ps true=some (gO f ps,true):=by
 rw [R5 N hN h,Pv h];rfl
theorem zm6 (N:Nat) (z i:Int) (x:Nl):f33 N z i x=some (!(decide (z = -1) || (decide (i < z) && decide (z < len x.2.2.2.2.1)))):=by
 unfold f33;by_cases h:z = -1
 ·simp [h]
 ·simp only [qO h,Z2t,zB,Z7,zP,Bool.false_or];congr 1;rw [Bool.not_and,show decide (z<=i) = !decide (i < z) by rw [Rt];simp,show decide (len x.2.2.2.2.1<=z) = !decide (z < len x.2.2.2.2.1) by rw [Rt];simp]
theorem z61 (N:Nat) (hN:200<=N) (row:List Int) (i:Nat) (x:Nl) (hl:row.length<=100):L7 N row ((i:Int),(x,()))=some (!(row.all (Xo x.2.2.2.2.1.length i))):=by
 obtain ⟨r,h1,h2⟩:=EN (F:=fun w=>ZS N row ((i:Int),(x,())) (len row) w (fun t4=>some t4) (fun (_:Unit)=>some (-1))) row (Xo x.2.2.2.2.1.length i) (fun b r=>decide (0<=r) = !b)
  (fun k w hk=>by
   simp only [ZS];rw [zK hk,zB,zg hk];simp only [zP,zm6,Xo];rw [zw (by omega) (by omega)];show if _ then _ else _
   simp only [len];cases decide (row[k] = -1) || decide ((i:Int) < row[k]) && decide (row[k] < (x.2.2.2.2.1.length:Int)) <;> simp)
  (fun w=>by
   simp only [ZS];rw [zV,zU];exact ⟨-1,rfl,by simp⟩) N (by omega)
 unfold L7 NJ;rw [h1];simp only [zP,h2]
theorem Ro {n:Nat} (h:1<=n):Zq n≠0:=by
 have:=Z3j (n:=2) (by omega) h;simp only [Zq];omega
theorem z14 (L:Nat->Int) (j:Nat):jF (j+1) L=jF j L++[L j]:=by simp [jF,Tf]
theorem z1a {I:Type} (l:List I) (x:I):sub (l++[x]) 0 (len l)=l:=by simp [sub,len]
theorem Oz (vs:List (List Int)) (st:List Choice) (s:Nat):∀ (k:Nat) (Zm:Int),(runT vs st k Zm s).length<=k
 | 0,_=>by simp [runT]
 | k+1,Zm=>by
  simp only [runT];split
  ·simp
  ·split
   ·simp
   ·have:=Oz vs st s k;simp only [Vy];exact Nat.succ_le_succ (this _)
theorem zc3 (N:Nat) (hN:5001<=N) (hk:f28 N=some true) (f:zh) (ps:List (List Int)) (x:Nl):f5 N f ps x=some true:=by
 have r1:=kJ;refine zx.eq ?_;unfold f5;rw [hk];simp only [zP,xU,zU];refine zx.then (z63 N (by omega) f ps) fun r hr=>?_
 simp only [Z7,zP];refine zx.cond (fun _=>zx.ret rfl) fun hc=>?_
 simp only [JY,Bl,u7,len] at hc;obtain ⟨⟨⟨IK,hg12⟩,q5w⟩,hs30⟩:=hc;have h:=hr IK;rw [zm8 N (by omega) h];simp only [zP,xU,zU];have hmp:=z3f (z3g h);refine zx.Bn (fun j=>∀ i (hi:i < x.2.2.2.2.1.length),i < j->EE (vI f ps) x.2.2.2.2.1.length i x.2.2.2.2.1[i]=true) x.2.2.2.2.1.length ?_ ?_ N 0 (jt _) (by omega) (fun i h hi=>by omega)
 ·intro j w hj hinv hw;simp only [R0];rw [show decide ((j:Int) < len x.2.2.2.2.1)=true from zK hj,zB,zg hj];simp only [Z7,zP];by_cases c1:x.2.2.2.2.1[j].1 < 0\/len (gO f ps).2.1<=x.2.2.2.2.1[j].1
  ·rw [show (decide (x.2.2.2.2.1[j].1 < 0) || decide (len (gO f ps).2.1<=x.2.2.2.2.1[j].1))=true by simpa using c1];exact zx.ret rfl
  ·rw [show (decide (x.2.2.2.2.1[j].1 < 0) || decide (len (gO f ps).2.1<=x.2.2.2.2.1[j].1))=false by simpa using c1];simp only [len] at c1;have hq:x.2.2.2.2.1[j].1.toNat < (gO f ps).2.1.length:=by omega
   rw [zU,show idx (gO f ps).2.1 x.2.2.2.2.1[j].1=some (gO f ps).2.1[x.2.2.2.2.1[j].1.toNat] from Z2 (by omega) (by omega)];have hvw:=hmp.view _ (ku hq);have Ux:=hvw.len;have h62:=hmp.F6;simp only [zP];rw [z62 N _ (by omega) (by omega),yQ hvw.ok];simp only [zP];have htb:=kY hvw.ok;by_cases c2:len x.2.2.2.2.1[j].2.1=top 0 (gO f ps).2.1[x.2.2.2.2.1[j].1.toNat]
   ·rw [jY c2];simp only [xU,zU];simp only [len] at c2;rw [show L7 N x.2.2.2.2.1[j].2.1 ((j:Int),(x,()))=_ from z61 N (by omega) _ j x (by omega)];simp only [zP];refine zx.cond (fun _=>zx.ret rfl) fun hb=>?_
    rw [zu (by omega)];refine hw fun i hi qx=>?_
    by_cases e:i=j
    ·subst e;have hgd:(vI f ps).getD x.2.2.2.2.1[i].1.toNat []=(gO f ps).2.1[x.2.2.2.2.1[i].1.toNat]:=by
      rw [VF];show ((gO f ps).2.1[x.2.2.2.2.1[i].1.toNat]?).getD []=_;rw [wP hq];rfl
     simp only [EE,zA,yR];refine ⟨⟨⟨by omega,?_⟩,?_⟩,?_⟩
     ·have:(vI f ps).length=(gO f ps).2.1.length:=rfl;omega
     ·rw [hgd,uU];omega
     ·simpa using hb
    ·exact hinv i hi (by omega)
   ·rw [qO c2];exact zx.ret rfl
 ·intro w Kk;have zy:Pq (vI f ps) x.2.2.2.2.1:=fun i hi=>Kk i hi hi
  simp only [R0];rw [show decide (((x.2.2.2.2.1.length:Nat):Int) < len x.2.2.2.2.1)=false from zV _,zU];rw [show f34 N ((gO f ps).1,(gO f ps).2) x.1 x.2.1 x.2.2.1 x.2.2.2.1=_ from zm5 N (by omega) (gO f ps) x.1 x.2.1 x.2.2.1 x.2.2.2.1];simp only [zP];refine zx.cond (fun _=>zx.ret rfl) fun hz=>?_
  simp only [Bl,yR] at hz;obtain ⟨ha,N5,v,hv,hvb⟩:=zj2 hz;obtain ⟨a1,a2,a3,a4⟩:=z7q.1 ha;have h8:=h.sec;have p1:=vw (l:=jX f.1 1) (uL h.wf.vars.JA 1);obtain ⟨n,hn⟩:∃ n:Nat,zN (jX f.1 1)=(n:Int):=⟨(zN (jX f.1 1)).toNat,by omega⟩;have TA:(gO f ps).1=(n:Int):=hn;have hnn:(gO f ps).1.toNat=n:=by rw [TA];exact LL n
  rw [hnn] at hmp N5 hv;rw [TA] at a2;have hg:Ba x.1 n:=zh5 a2;let T:Nat->List WU:=fun s=>uJ f ps x.2.2.2.2.1 x.2.2.2.2.1.length 0 s
  have hTs:∀ s,(T s).length<=100/\∀ o∈T s,o.1.length<=100:=fun s=>by
   refine ⟨?_,fun o ho=>?_⟩
   ·have:=Oz (vI f ps) x.2.2.2.2.1 s x.2.2.2.2.1.length 0;simp only [T,uJ,Gy];omega
   ·obtain ⟨a,_,rfl⟩:=Gq.1 ho;have:=GI h.wf (Pe f (ps.getD a.1.toNat []) (s:Int));simp only;omega
  refine zx.up (fun j s=>s=(kP T j,jF j (F4 T))/\∀ i,i < j->((T i).length:Int)<=x.2.1) n ?_ ?_ N 0 (jt _) (by omega) _ ⟨rfl,fun i hi=>by omega⟩
  ·rintro j s w hj ⟨rfl,hinv⟩ hw;simp only [Fw];rw [TA,jY (show (j:Int) < (n:Int) by omega),zB];rw [show f35 N f ps true x.2.2.2.2.1 (j:Int)=some (T j) from zm3 N (by omega) h zy (by omega) j (by omega)];simp only [zP];refine zx.cond (fun _=>zx.ret rfl) fun hK=>?_
   have hul:=ka T j;refine zx.qW (by simp only [yR];omega) ?_;have hmem:∀ y∈kP T (j+1),y.length<=100/\∀ o∈y,o.1.length<=100:=fun y hy=>by
    obtain ⟨i,_,rfl⟩:=Gq.1 hy;exact hTs i
   have e36:f36 N (kP T j++[T j]) (T j,())=some (F4 T j):=by
    rw [<-kG];exact zm2 N (by omega) _ _ (by rw [ka];omega) hmem (by rw [kG];simp)
   rw [z1a,e36];simp only [zP];rw [Sm];refine zx.qW (by simp only [yR,jz];omega) ?_;refine zx.qW (by simp only [yR];omega) ?_;rw [zu (by omega)];refine hw _ ⟨by rw [kG,z14],fun i hi=>?_⟩;by_cases e:i=j
   ·subst e;simpa [len] using hK
   ·exact hinv i (by omega)
  ·rintro s w ⟨rfl,hlen⟩;simp only [Fw];rw [TA,qO (by omega),zU];refine z5y N (by omega) (by omega) (F4 T) x hg _ _ ?_;refine zx.ret ?_;rw [yR];refine Int.le_trans ?_ hvb;have q2d:∀ s,s < n->(Zq n).testBit s=true:=fun s hs=>by rw [z7u];simpa using hs
   rw [zb5 x.1 n (Zq n).testBit q2d T];have hWW:WW x.1 n (Zq n).testBit T=WW x.1 n (Zq n).testBit (runT (vI f ps) x.2.2.2.2.1 x.2.2.2.2.1.length 0):=
    BO x.1 (fun _ _=>rfl) fun r s hr hs _ _=>Si hn zy hr hs _ _
   rw [hWW];have hk8:x.2.1=(x.2.1.toNat:Int):=by omega
   rw [hk8] at hv;by_cases h0:0 < x.2.2.2.2.1.length
   ·refine Cf hmp N5 zy x.2.2.2.2.1.length 0 x.2.1.toNat (Zq n) v (.inr ⟨by omega,by omega⟩) (X1 n) (Ro (by omega)) (by omega) (fun s hs _=>?_) hv;have:=hlen s hs;simp only [T,uJ,Gy] at this;show (runT (vI f ps) _ _ _ _).length<=_;omega
   ·have e:runT (vI f ps) x.2.2.2.2.1 x.2.2.2.2.1.length 0=runT (vI f ps) x.2.2.2.2.1 x.2.2.2.2.1.length (-1):=by
     funext s;rw [show x.2.2.2.2.1.length=0 by omega];rfl
    rw [e];refine Cf hmp N5 zy x.2.2.2.2.1.length (-1) x.2.1.toNat (Zq n) v (.inl rfl) (X1 n) (Ro (by omega)) (by omega) (fun s hs _=>?_) hv;rw [show runT (gO f ps).2.1 x.2.2.2.2.1 x.2.2.2.2.1.length (-1) s=[] from XU (by omega)];simp
end Go.Kz
namespace Go.Kz
def Wq:zh:=([([120],(1,(0,(3,(0,()))))),([103],(2,(0,(3,(0,())))))],([],([{ act:=1,cost:=0,var:=0,n:=0,term:={ op:=18,n:=0,kids:=[{ op:=24,n:=0,kids:=[] },{ op:=24,n:=1,kids:=[] }] },j4:=[],uQ:=[],bounds:=[] }],())))
def va:gC:=(4,([[0,1,1,1],[0,0,1,1],[0,0,0,1]],()))
theorem g95:f95 100000=some Wq:=rfl
theorem g29:f29 100000 Wq [[1],[2],[3]]=some true:=by kernel_rfl
theorem zd6:Zn false Wq [[1],[2],[3]]=va.2.1:=by kernel_rfl
theorem g30:f30 100000 Wq [[1],[2],[3]] false=some (va,true):=by
 obtain ⟨b,e,h⟩:=z63 100000 (by omega) Wq [[1],[2],[3]];rw [g29,zI] at e;rw [R5 100000 (by omega) (h e.symm),zd6];rfl
def exG:List (List Int):=[[1,0,0,0],[0,1,0,0],[0,0,1,0],[0,0,0,1]]
def s97:=(f97 100000 va exG 2).getD default
theorem g97:f97 100000 va exG 2=some (3,(s97.2.1,0)):=by kernel_rfl
def Ha:=(f184 100000 (15,(2,())) va exG []).getD default
def HT:=(f185 100000 (15,(2,())) Ha.2.1.1 Ha.2.1.2.1 Ha.2.2.1).getD default
def HS:=(f186 100000 (15,(2,())) HT.2.1.1 HT.2.1.2.1 HT.2.2.1).getD default
def Br:=(f187 100000 (15,(2,())) HS.2.1.1 HS.2.1.2.1 HS.2.2.1).getD default
def Ig:BT:=Br.2.2.1
theorem Tu:Ns Ig:=show (Ig.map Prod.fst).Nodup from BI (by kernel_rfl:decide ((Ig.map Prod.fst).Nodup)=true)
theorem zjt {M:BT} (h:(M.all fun x=>decide (0<=x.2) && decide (x.2<=1099511627776))=true):z84 M:=by
 intro key v hv;have hm:(key,v)∈M:=EI hv;have:=BH.1 h _ hm;simpa using this
theorem g96:f96 100000 va exG 2=some (4,(Br.2.2.2.1,(Pp (Ig.map wA),0))):=by
 have q3d:=ze7 100000 (by omega) Br.2.1.1 Br.2.1.2.1 Ig Tu (zjt (by kernel_rfl)) (BI (by kernel_rfl:decide (Ig.length<=4096)=true));unfold f96;rw [show f103 100000 va exG 2=some 0 by kernel_rfl,zP];rw [show f105 100000 va=some 15 by kernel_rfl];simp only [Vz,xU,zU,zP];rw [show decide (12 < va.1)=false by kernel_rfl,zU];rw [show f184 100000 (15,(2,())) va exG []=some Ha by kernel_rfl,zP];rw [show Ha.1.2.1=true by kernel_rfl,xU,zU];rw [show f185 100000 (15,(2,())) Ha.2.1.1 Ha.2.1.2.1 Ha.2.2.1=some HT by kernel_rfl,zP];rw [show f186 100000 (15,(2,())) HT.2.1.1 HT.2.1.2.1 HT.2.2.1=some HS by kernel_rfl,zP];rw [show HS.1.2.1=false by kernel_rfl,Z2t,zB];rw [show f187 100000 (15,(2,())) HS.2.1.1 HS.2.1.2.1 HS.2.2.1=some Br by kernel_rfl,zP];rw [show f188 100000 Br.2.1.1 Br.2.1.2.1 Br.2.2.1=_ from q3d,zP];rw [show HT.1.2.1=4 by kernel_rfl]
theorem g98:f98 100000 va Br.2.2.2.1=some (2,0):=by kernel_rfl
theorem g34:f34 100000 va exG 2 (Pp (Ig.map wA)) 4=some 0:=by kernel_rfl
theorem zju:f28 100000=some true:=by
 unfold f28;rw [g95,zP];rw [show f30 100000 (Wq.1,Wq.2) [[1],[2],[3]] false=_ from g30,zP];rw [show f96 100000 (va.1,va.2) [[1,0,0,0],[0,1,0,0],[0,0,1,0],[0,0,0,1]] 2=_ from g96,zP];rw [show f97 100000 (va.1,va.2) [[1,0,0,0],[0,1,0,0],[0,0,1,0],[0,0,0,1]] 2=_ from g97,zP];rw [show f98 100000 (va.1,va.2) Br.2.2.2.1=_ from g98,zP];simp only [Vz,zB,zP];rw [show f34 100000 (va.1,va.2) [[1,0,0,0],[0,1,0,0],[0,0,1,0],[0,0,0,1]] 2 (Pp (Ig.map wA)) 4=_ from g34];rfl
theorem law5 (f:zh) (ps:List (List Int)) (x:Nl):f5 100000 f ps x=some true:=zc3 100000 (by omega) zju f ps x
end Go.Kz
