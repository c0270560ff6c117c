/-
  Ranges of terms.
-/
import Derived.Test.YtmoggdcmpoobpaaGreatDoorKzT3
set_option linter.unusedVariables false
set_option linter.unusedSimpArgs false
namespace Go.Kz
theorem JR (x y:Int):uu x y=min x y:=by simp only [uu];split <;> omega
theorem Qz (x y:Int):gR x y=max x y:=by simp only [gR];split <;> omega
theorem Jh (N:Nat) (a b:Int):f120 N a b=some (min a b):=by
 unfold f120;by_cases h:a < b
 ·rw [jY h,zB];congr 1;omega
 ·rw [qO h,zU];congr 1;omega
theorem QZ (N:Nat) (a b:Int):f119 N a b=some (max a b):=by
 unfold f119;by_cases h:b < a
 ·rw [jY h,zB];congr 1;omega
 ·rw [qO h,zU];congr 1;omega
def RP (p:Int×Int):Prop:=-1048576<=p.1/\p.1<=p.2/\p.2<=1048576
def AY (a b:Int×Int):Int×Int:=(min a.1 b.1,max a.2 b.2)
def yT (vs:List qY) (op n:Int) (l:List (Int×Int)):Int×Int:=
 let p:=l.getD 0 (0,0);let q:=l.getD 1 (0,0)
 if op=0 then (n,n)
 else if op=24 then (match vs[n.toNat]? with
  | some v=>(v.2.2.1,v.2.2.2.1)
  | none=>(0,0))
 else if op=6 then (-p.2,-p.1)
 else if op=8 then (p.1+q.1,p.2+q.2)
 else if op=9 then (p.1-q.2,p.2-q.1)
 else if op=10 then (min (min (p.1*q.1) (p.1*q.2)) (min (p.2*q.1) (p.2*q.2)),max (max (p.1*q.1) (p.1*q.2)) (max (p.2*q.1) (p.2*q.2)))
 else if op=11 then (if 0<=p.1/\0<=q.1 then 0 else -(max p.2 (-p.1)),max p.2 (-p.1))
 else if op=12 then (if q.1 < 0 then min (q.1+1) 0 else 0,if 0 < q.2 then max (q.2-1) 0 else 0)
 else if op=21 then (min p.1 q.1,min p.2 q.2)
 else if op=22 then (max p.1 q.1,max p.2 q.2)
 else if op=23\/op=25 then (l.drop 2).foldl AY q
 else (0,1)
structure Head (vs:List qY) (op n:Int) (k:Nat):Prop where
 ar:NO (wH op) k=true
 ref:op=24->0<=n/\n < len vs
theorem W8 {vs:List qY} {vl:Bool} {op n:Int} {k:Nat} (h:DJ vs vl op n k=true):Head vs op n k:=by
 simp only [DJ,zA] at h;refine ⟨h.1,fun xT=>?_⟩;have:=h.2;rw [yQ xT] at this;simp only [zA,yR] at this;exact this.1
theorem Head.one {vs:List qY} {op n:Int} {I:Type} {l:List I} (h:Head vs op n l.length) (ho:op=6\/op=7):∃ p,l=[p]:=by
 have h1:wH op=1:=by rcases ho with rfl | rfl <;> rfl
 have:=h.ar;rw [h1] at this;simp [NO] at this
 match l,this with
 | [p],_=>exact ⟨p,rfl⟩
theorem Head.two {vs:List qY} {op n:Int} {I:Type} {l:List I} (h:Head vs op n l.length) (ho:8<=op/\op<=22):∃ p q,l=[p,q]:=by
 have h1:wH op=2:=by
  simp only [wH];rw [qZ (by omega),qZ (by omega),yQ ho]
 have:=h.ar;rw [h1] at this;simp [NO] at this;have h2:l.length=2:=by omega
 match l,h2 with
 | [p,q],_=>exact ⟨p,q,rfl⟩
theorem Head.many {vs:List qY} {op n:Int} {I:Type} {l:List I} (h:Head vs op n l.length) (ho:op=23\/op=25):2<=l.length/\l.length<=33:=by
 have:=h.ar;rcases ho with rfl | rfl
 ·simp [NO,show wH 23=3 from rfl] at this;omega
 ·simp [NO,show wH 25 = -2 from rfl] at this;omega
theorem zch {a b:Int×Int} (ha:a.1<=a.2):(AY a b).1<=(AY a b).2:=by
 simp only [AY];omega
theorem VB:∀ (l:List (Int×Int)) (a:Int×Int),a.1<=a.2->(l.foldl AY a).1<=(l.foldl AY a).2
 | [],a,h=>h
 | x :: l,a,h=>VB l (AY a x) (zch h)
theorem Ol {l:List (Int×Int)} (hl:∀ p∈l,RP p) (i:Nat):RP (l.getD i (0,0)):=by
 rw [VF]
 cases h:l[i]? with
 | none=>simp [RP]
 | some p=>exact hl p (Z40 h)
set_option maxHeartbeats 2000000 in
theorem z1g {vs:List qY} (hr:∀ v∈vs,pG v) (op n:Int) {l:List (Int×Int)} (hl:∀ p∈l,RP p):(yT vs op n l).1<=(yT vs op n l).2:=by
 obtain ⟨a1,a2,a3⟩:=Ol hl 0;obtain ⟨b1,b2,b3⟩:=Ol hl 1;simp only [yT];generalize l.getD 0 (0,0)=p at *;generalize hq:l.getD 1 (0,0)=q at *;split
 ·simp
 split
 ·split
  ·rename_i v hv;exact (hr v (Z40 hv)).1
  ·simp
 split
 ·simp only;omega
 split
 ·simp only;omega
 split
 ·simp only;omega
 split
 ·simp only;omega
 split
 ·simp only;split <;> omega
 split
 ·simp only;split <;> split <;> omega
 split
 ·simp only;omega
 split
 ·simp only;omega
 split
 ·exact VB _ _ b2
 ·simp
theorem zjp {a b:Int} (ha : -1048576<=a/\a<=1048576) (hb : -1048576<=b/\b<=1048576) : -1099511627776<=a*b/\a*b<=1099511627776:=by
 have h:(a*b).natAbs<=1048576*1048576:=by
  rw [Int.natAbs_mul];exact Nat.mul_le_mul (by omega) (by omega)
 omega
theorem xN {a b:Int} (ha : -1048576<=a/\a<=1048576) (hb : -1048576<=b/\b<=1048576):zz (a*b)=a*b:=by
 have:=zjp ha hb;exact zw (by omega) (by omega)
def XJ (vs:List qY) (op n:Int) (l:List (Int×Int)):Int×Int:=if op=0/\(n < -1048576\/1048576 < n) then (-1048577,1048577) else yT vs op n l
theorem zdn (N:Nat) (hN:200<=N) (vs:List qY) (op n:Int) (ks:List Tm) (l:List (Int×Int)) (hh:Head vs op n l.length) (hl:∀ p∈l,RP p) :
  f293 N vs (op,(n,(ks,()))) (l.map Prod.fst) (l.map Prod.snd)=some (XJ vs op n l):=by
 unfold f293;simp only [Z7,zP];by_cases h0:op=0
 ·subst h0;rw [show decide ((0:Int)=0)=true from rfl,zB];by_cases hn:n < -1048576\/1048576 < n
  ·have:(decide (n < -1048576) || decide (1048576 < n))=true:=by simpa using hn
   rw [this,zB];simp [XJ,hn]
  ·have:(decide (n < -1048576) || decide (1048576 < n))=false:=by simpa using hn
   rw [this,zU];simp [XJ,yT,hn]
 have eR:XJ vs op n l=yT vs op n l:=by simp [XJ,h0]
 rw [qO h0,zU,eR];by_cases xT:op=24
 ·obtain ⟨q1,q2⟩:=hh.ref xT;have h2:n.toNat < vs.length:=by simp only [len] at q2;omega
  have e3:idx vs n=some vs[n.toNat]:=Z2 q1 (by simp only [len] at q2;omega);rw [jY xT,zB,e3];subst xT;simp [yT,h2]
 rw [qO xT,zU];by_cases h6:op=6
 ·obtain ⟨p,rfl⟩:=hh.one (.inl h6);have:=hl p (by simp);obtain ⟨a1,a2,a3⟩:=this;subst h6;rw [show decide ((6:Int)=6)=true from rfl,zB];rw [show idx (List.map Prod.snd [p]) 0=some p.2 from rfl,show idx (List.map Prod.fst [p]) 0=some p.1 from rfl];simp only [zP];rw [zw (by omega) (by omega),zw (by omega) (by omega)];simp [yT]
 rw [qO h6,zU];by_cases h2:8<=op/\op<=22
 ·obtain ⟨p,q,rfl⟩:=hh.two h2;obtain ⟨a1,a2,a3⟩:=hl p (by simp);obtain ⟨b1,b2,b3⟩:=hl q (by simp);have i1:idx (List.map Prod.fst [p,q]) 0=some p.1:=rfl;have i2:idx (List.map Prod.fst [p,q]) 1=some q.1:=rfl;have i3:idx (List.map Prod.snd [p,q]) 0=some p.2:=rfl;have i4:idx (List.map Prod.snd [p,q]) 1=some q.2:=rfl;simp only [i1,i2,i3,i4,zP];have sp:∀ x:Int×Int,yT vs op n [p,q]=x->some x=some (yT vs op n [p,q]):=fun x h=>by rw [h]
  by_cases h8:op=8
  ·rw [jY h8,zB,zw (by omega) (by omega),zw (by omega) (by omega)];subst h8;rfl
  rw [qO h8,zU];by_cases h9:op=9
  ·rw [jY h9,zB,zw (by omega) (by omega),zw (by omega) (by omega)];subst h9;rfl
  rw [qO h9,zU];by_cases Ih:op=10
  ·rw [jY Ih,zB];simp only [Jh,QZ,zP];rw [xN ⟨a1,by omega⟩ ⟨b1,by omega⟩,xN ⟨a1,by omega⟩ ⟨by omega,b3⟩,xN ⟨by omega,a3⟩ ⟨b1,by omega⟩,xN ⟨by omega,a3⟩ ⟨by omega,b3⟩];subst Ih;rfl
  rw [qO Ih,zU];by_cases h11:op=11
  ·rw [jY h11,zB];have f3:∀ x:Int,-1048576<=x->x<=1048576->f337 N x=some (if x < 0 then -x else x):=fun x c1 c2=>by
    unfold f337;by_cases hx:x < 0
    ·rw [jY hx,zB,zw (by omega) (by omega),yQ hx];congr 1;omega
    ·rw [qO hx,zU,qZ hx]
   rw [f3 _ a1 (by omega),f3 _ (by omega) a3];simp only [zP,QZ];have em:max (if p.1 < 0 then -p.1 else p.1) (if p.2 < 0 then -p.2 else p.2)=max p.2 (-p.1):=by split <;> split <;> omega
   rw [em];simp only [wR,zP];subst h11;by_cases hc:0<=p.1/\0<=q.1
   ·have:(decide (0<=p.1) && decide (0<=q.1))=true:=by simpa using hc
    rw [this,zB];simp [yT,hc]
   ·have:(decide (0<=p.1) && decide (0<=q.1))=false:=by
     simp only [Rr,u7];omega
    rw [this,zU,zw (by omega) (by omega)];simp [yT,hc]
  rw [qO h11,zU];by_cases h12:op=12
  ·rw [jY h12,zB];subst h12;unfold f338;simp only [Jh,QZ,zP];by_cases c1:q.1 < 0
   ·rw [jY c1,zB,zw (n:=q.1+1) (by omega) (by omega)];by_cases c2:0 < q.2
    ·rw [jY c2,zB,zw (by omega) (by omega)];simp [yT,c1,c2];omega
    ·rw [qO c2,zU];simp [yT,c1,c2];omega
   ·rw [qO c1,zU];by_cases c2:0 < q.2
    ·rw [jY c2,zB,zw (by omega) (by omega)];simp [yT,c1,c2];omega
    ·rw [qO c2,zU];simp [yT,c1,c2]
  rw [qO h12,zU];by_cases h21:op=21
  ·rw [jY h21,zB];simp only [Jh,zP];subst h21;rfl
  rw [qO h21,zU];by_cases h22:op=22
  ·rw [jY h22,zB];simp only [QZ,zP];subst h22;rfl
  rw [qO h22,zU,qO (show ¬ op=23 by omega),zU,qO (show ¬ op=25 by omega),zU];have:¬ (op=23\/op=25):=by omega
  simp [yT,h0,xT,h6,h8,h9,Ih,h11,h12,h21,h22,this]
 rw [qO (show ¬ op=8 by omega),zU,qO (show ¬ op=9 by omega),zU,qO (show ¬ op=10 by omega),zU,qO (show ¬ op=11 by omega),zU,qO (show ¬ op=12 by omega),zU,qO (show ¬ op=21 by omega),zU,qO (show ¬ op=22 by omega),zU];have sE:¬ (op=23\/op=25)->yT vs op n l=(0,1):=fun h=>by
  simp [yT,h0,xT,h6,show ¬ op=8 by omega,show ¬ op=9 by omega,show ¬ op=10 by omega,show ¬ op=11 by omega,show ¬ op=12 by omega,show ¬ op=21 by omega,show ¬ op=22 by omega,h]
 by_cases hm:op=23\/op=25
 ·obtain ⟨g1,g2⟩:=hh.many hm;have i2:idx (List.map Prod.fst l) 1=some l[1].1:=by
   rw [show (1:Int)=((1:Nat):Int) from rfl,zg (by rw [Gy];omega)];simp
  have i4:idx (List.map Prod.snd l) 1=some l[1].2:=by
   rw [show (1:Int)=((1:Nat):Int) from rfl,zg (by rw [Gy];omega)];simp
  have key:iter (fun w=>ZO N (List.map Prod.snd l) (List.map Prod.fst l) w (fun CL Xp=>some (Xp,CL))) N (2,l[1].2,l[1].1)=some ((l.drop 2).foldl AY l[1]):=by
   refine zx.eq ?_;refine zx.up (fun j s=>2<=j/\(s.2,s.1)=((l.take j).drop 2).foldl AY l[1]) l.length ?_ ?_ N 2 g1 (by omega) _ ?_
   ·rintro j ⟨hi,lo⟩ w hj ⟨hj2,hinv⟩ hw;simp only [ZO];rw [show decide ((j:Int) < len (List.map Prod.fst l))=true from zK (by simpa using hj),zB,zg (by simpa using hj),zg (by simpa using hj)];simp only [zP,Jh,QZ,Z29];rw [zu (by omega)];refine hw _ ⟨by omega,?_⟩;simp only at hinv;rw [show (l.take (j+1)).drop 2=(l.take j).drop 2++[l[j]] by rw [qy hj,Z34 (by rw [P9];omega)],Z45,<-hinv];rfl
   ·rintro ⟨hi,lo⟩ w ⟨_,hinv⟩;simp only [ZO];rw [show decide ((l.length:Int) < len (List.map Prod.fst l))=false by simp [len],zU];rw [Qi] at hinv;exact zx.ret hinv
   ·exact ⟨yN _,by rw [show (l.take 2).drop 2=[] from MZ (by rw [P9];omega)];rfl⟩
  have hq:l.getD 1 (0,0)=l[1]:=by rw [VF,wP (by omega)];rfl
  rcases hm with rfl | rfl
  ·rw [show decide ((23:Int)=23)=true from rfl,zB,zB,i2,i4];simp only [zP];rw [key,<-hq];rfl
  ·rw [show decide ((25:Int)=23)=false from rfl,zU,show decide ((25:Int)=25)=true from rfl,zB,i2,i4];simp only [zP];rw [key,<-hq];rfl
 ·rw [qO (show ¬ op=23 by omega),zU,qO (show ¬ op=25 by omega),zU,sE hm]
end Go.Kz
namespace Go.Kz
theorem XP {R:Type} (x:Option R):qQ [x,x]=x:=by simp [qQ]
@[reducible] def V4 (p:Int×Int):Int×(Int×Unit):=(p.1,(p.2,()))
theorem R1 (N:Nat) (a b:Int×(Int×Unit)):f365 N a b=some (min a.1 b.1,(max a.2.1 b.2.1,())):=by
 unfold f365;rw [JR,Qz]
theorem zdb (N:Nat) (hN:200<=N) (p q:Int×Int) (hp:RP p) (hq:RP q):f363 N (V4 p) (V4 q) ()=some (min (min (p.1*q.1) (p.1*q.2)) (min (p.2*q.1) (p.2*q.2)),(max (max (p.1*q.1) (p.1*q.2)) (max (p.2*q.1) (p.2*q.2)),())):=by
 obtain ⟨a1,a2,a3⟩:=hp;obtain ⟨b1,b2,b3⟩:=hq;unfold f363;simp only [f364,zP];rw [xN ⟨a1,by omega⟩ ⟨b1,by omega⟩,xN ⟨a1,by omega⟩ ⟨by omega,b3⟩,xN ⟨by omega,a3⟩ ⟨b1,by omega⟩,xN ⟨by omega,a3⟩ ⟨by omega,b3⟩];generalize p.1*q.1=a;generalize p.1*q.2=b;generalize p.2*q.1=c;generalize p.2*q.2=d;obtain ⟨n,rfl⟩:∃ n,N=n+4:=⟨N-4,by omega⟩;have st:∀ (k:Nat) (hk:k < 3) (s:Int×(Int×Unit)) (w:Int×(Int×(Int×Unit))->Option (Int×(Int×Unit))) (kx:(Int×(Int×Unit))->Option (Int×(Int×Unit))),
   KW (n+4) (((Nat.succ (Nat.succ 1)):Nat):Int) (b :: (c :: (d :: ([]:List Int)))) (0,(0,())) w kx ((k:Int),s)=w ((k:Int)+1,(min s.1 ([b,c,d][k]'hk),(max s.2.1 ([b,c,d][k]'hk),()))):=by
  intro k hk s w kx;simp only [KW];rw [show decide ((k:Int) < (((Nat.succ (Nat.succ 1)):Nat):Int))=true by simp;omega,zB,zf (by simp [vU];omega),zg (l:=[b,c,d]) hk];simp only [zP,R1];rw [zu (by omega)]
 simp only [iter];have s0:=st 0 (by omega);have s1:=st 1 (by omega);have s2:=st 2 (by omega);simp only [show ((0:Nat):Int)=0 from rfl,show ((1:Nat):Int)=1 from rfl,show ((2:Nat):Int)=2 from rfl,show (0:Int)+1=1 from rfl,show (1:Int)+1=2 from rfl,show (2:Int)+1=3 from rfl] at s0 s1 s2;rw [s0,s1,s2];simp only [KW];rw [show decide ((3:Int) < (((Nat.succ (Nat.succ 1)):Nat):Int))=false from rfl,zU];simp only [Z5c,Z3i,zI,gP,U6];omega
theorem zdd (N:Nat) (hN:200<=N) (vs:List qY) (op n:Int) (ks:List Tm) (l:List (Int×Int)) (hh:Head vs op n l.length) (hl:∀ p∈l,RP p) :
  f340 N vs (op,(n,(ks,()))) (l.map V4)=some (V4 (yT vs op n l)):=by
 unfold f340;by_cases h0:op=0
 ·subst h0;rfl
 rw [qO h0,zU];by_cases xT:op=24
 ·obtain ⟨q1,q2⟩:=hh.ref xT;have h2:n.toNat < vs.length:=by simp only [len] at q2;omega
  have e3:idx vs n=some vs[n.toNat]:=Z2 q1 (by simp only [len] at q2;omega);rw [jY xT,zB,e3];subst xT;simp [yT,h2]
 rw [qO xT,zU];by_cases h6:op=6
 ·obtain ⟨p,rfl⟩:=hh.one (.inl h6);have:=hl p (by simp);obtain ⟨a1,a2,a3⟩:=this;subst h6;rw [show decide ((6:Int)=6)=true from rfl,zB];rw [show idx (List.map V4 [p]) 0=some (V4 p) from rfl];simp only [zP];rw [zw (by omega) (by omega),zw (by omega) (by omega)];simp [yT]
 rw [qO h6,zU];by_cases h2:8<=op/\op<=22
 ·obtain ⟨p,q,rfl⟩:=hh.two h2;have hp:=hl p (by simp);have hq:=hl q (by simp);obtain ⟨a1,a2,a3⟩:=hp;obtain ⟨b1,b2,b3⟩:=hq;have i1:idx (List.map V4 [p,q]) 0=some (V4 p):=rfl;have i2:idx (List.map V4 [p,q]) 1=some (V4 q):=rfl;simp only [i1,i2,zP,JR,Qz];by_cases h8:op=8
  ·rw [jY h8,zB,zw (by omega) (by omega),zw (by omega) (by omega)];subst h8;rfl
  rw [qO h8,zU];by_cases h9:op=9
  ·rw [jY h9,zB,zw (by omega) (by omega),zw (by omega) (by omega)];subst h9;rfl
  rw [qO h9,zU];by_cases Ih:op=10
  ·rw [jY Ih,zB];rw [show f363 N (p.1,(p.2,())) (q.1,(q.2,())) ()=_ from zdb N hN p q ⟨a1,a2,a3⟩ ⟨b1,b2,b3⟩];subst Ih;rfl
  rw [qO Ih,zU];by_cases h11:op=11
  ·rw [jY h11,zB];simp only [wR,zP];rw [zw (n:=0-p.1) (by omega) (by omega)];subst h11;by_cases hc:0<=p.1/\0<=q.1
   ·have:(decide (0<=p.1) && decide (0<=q.1))=true:=by simpa using hc
    rw [this,zB];simp [yT,hc]
   ·have:(decide (0<=p.1) && decide (0<=q.1))=false:=by
     simp only [Rr,u7];omega
    rw [this,zU,zw (by omega) (by omega)];simp [yT,hc]
  rw [qO h11,zU];by_cases h12:op=12
  ·rw [jY h12,zB];subst h12;by_cases c1:q.1 < 0
   ·rw [jY c1,zB,zw (n:=q.1+1) (by omega) (by omega)];by_cases c2:0 < q.2
    ·rw [jY c2,zB,zw (by omega) (by omega)];simp [yT,c1,c2]
    ·rw [qO c2,zU];simp [yT,c1,c2]
   ·rw [qO c1,zU];by_cases c2:0 < q.2
    ·rw [jY c2,zB,zw (by omega) (by omega)];simp [yT,c1,c2]
    ·rw [qO c2,zU];simp [yT,c1,c2]
  rw [qO h12,zU];by_cases h21:op=21
  ·rw [jY h21,zB];subst h21;rfl
  rw [qO h21,zU];by_cases h22:op=22
  ·rw [jY h22,zB];subst h22;rfl
  rw [qO h22,zU,qO (show ¬ op=23 by omega),zU,qO (show ¬ op=25 by omega),zU];have:¬ (op=23\/op=25):=by omega
  simp [yT,h0,xT,h6,h8,h9,Ih,h11,h12,h21,h22,this]
 rw [qO (show ¬ op=8 by omega),zU,qO (show ¬ op=9 by omega),zU,qO (show ¬ op=10 by omega),zU,qO (show ¬ op=11 by omega),zU,qO (show ¬ op=12 by omega),zU,qO (show ¬ op=21 by omega),zU,qO (show ¬ op=22 by omega),zU];have sE:¬ (op=23\/op=25)->yT vs op n l=(0,1):=fun h=>by
  simp [yT,h0,xT,h6,show ¬ op=8 by omega,show ¬ op=9 by omega,show ¬ op=10 by omega,show ¬ op=11 by omega,show ¬ op=12 by omega,show ¬ op=21 by omega,show ¬ op=22 by omega,h]
 by_cases hm:op=23\/op=25
 ·obtain ⟨g1,g2⟩:=hh.many hm;have i2:idx (List.map V4 l) 1=some (V4 l[1]):=by
   rw [show (1:Int)=((1:Nat):Int) from rfl,zg (by rw [Gy];omega)];simp
  have es:sub (l.map V4) 2 (len (l.map V4))=(l.drop 2).map V4:=by
   have e:(l.map V4).drop 2=(l.drop 2).map V4:=by rw [List.map_drop]
   show ((l.map V4).drop 2).take _=_;rw [e,Z2n];simp only [len,Gy,Hw];omega
  have hd:(l.drop 2).length<=33:=by rw [Hw];omega
  have key:iter (fun w=>ZN N ((l.drop 2).map V4) (len ((l.drop 2).map V4)) (0,(0,())) w (fun qU=>some qU)) N (0,V4 l[1])=some (V4 ((l.drop 2).foldl AY l[1])):=by
   generalize l.drop 2=m at *;refine zx.eq ?_;refine zx.up (fun j s=>s=V4 ((m.take j).foldl AY l[1])) m.length ?_ ?_ N 0 (jt _) (by omega) _ rfl
   ·rintro j s w hj rfl hw;simp only [ZN];rw [show decide ((j:Int) < len (List.map V4 m))=true from zK (by simpa using hj),zB,zg (by simpa using hj)];simp only [zP,R1,Z29];rw [zu (by omega)];refine hw _ ?_;rw [qy hj,Z45];rfl
   ·rintro s w rfl;simp only [ZN];rw [show decide ((m.length:Int) < len (List.map V4 m))=false by simp [len],zU,Qi];exact zx.ret rfl
  have hq:l.getD 1 (0,0)=l[1]:=by rw [VF,wP (by omega)];rfl
  have hc:(decide (2<=len (l.map V4)) && decide (len (l.map V4)<=len (l.map V4)))=true:=by
   simp only [zA,yR,len,Gy];omega
  rw [hc];simp only [qW,zB];rw [es,i2];simp only [zP];rcases hm with rfl | rfl
  ·rw [show decide ((23:Int)=23)=true from rfl,zB,zB,key,<-hq];rfl
  ·rw [show decide ((25:Int)=23)=false from rfl,zU,show decide ((25:Int)=25)=true from rfl,zB,key,<-hq];rfl
 ·rw [qO (show ¬ op=23 by omega),zU,qO (show ¬ op=25 by omega),zU,sE hm]
def okR (r:Int×Int):Bool:=decide (-1048576<=r.1) && decide (r.2<=1048576)
mutual
def T1 (vs:List qY):Tm->Option (Int×Int)
 | ⟨op,n,ks⟩=>(Be vs ks).bind fun l=>cond (okR (yT vs op n l)) (some (yT vs op n l)) none
def Be (vs:List qY):List Tm->Option (List (Int×Int))
 | []=>some []
 | k :: ks=>(T1 vs k).bind fun r=>(Be vs ks).bind fun l=>some (r :: l)
end
theorem EJ (vs:List qY) (t:Tm):T1 vs t=(Be vs t.kids).bind fun l=>cond (okR (yT vs t.op t.n l)) (some (yT vs t.op t.n l)) none:=by
 cases t;simp only [T1]
theorem Hd {vs:List qY}:∀ {ks:List Tm} {l:List (Int×Int)} {k:Tm} {r:Int×Int},Be vs ks=some l->T1 vs k=some r->Be vs (ks++[k])=some (l++[r])
 | [],l,k,r,h,hk=>by
  simp only [Be,zI] at h;subst h
  simp only [QP,Be,hk,zP]
 | x :: ks,l,k,r,h,hk=>by
  simp only [Be] at h;rw [xA];simp only [Be]
  cases hx:T1 vs x with
  | none=>rw [hx] at h;simp at h
  | some rx=>
   rw [hx] at h;simp only [zP] at h
   cases hl:Be vs ks with
   | none=>rw [hl] at h;simp at h
   | some m=>
    rw [hl] at h;simp only [zP,zI] at h;subst h;rw [Hd hl hk];rfl
theorem U9 {vs:List qY}:∀ {ks:List Tm} {l:List (Int×Int)},Be vs ks=some l->l.length=ks.length
 | [],l,h=>by simp only [Be,zI] at h;subst h;rfl
 | x :: ks,l,h=>by
  simp only [Be] at h
  cases hx:T1 vs x with
  | none=>rw [hx] at h;simp at h
  | some rx=>
   rw [hx] at h;simp only [zP] at h
   cases hl:Be vs ks with
   | none=>rw [hl] at h;simp at h
   | some m=>
    rw [hl] at h;simp only [zP,zI] at h;subst h;simp [U9 hl]
theorem JB {vs:List qY}:∀ {ks:List Tm} {l:List (Int×Int)},Be vs ks=some l->∀ (i:Nat) (h:i < ks.length) (h':i < l.length),T1 vs ks[i]=some l[i]
 | [],l,h,i,hi,_=>by simp at hi
 | x :: ks,l,h,i,hi,h'=>by
  simp only [Be] at h
  cases hx:T1 vs x with
  | none=>rw [hx] at h;simp at h
  | some rx=>
   rw [hx] at h;simp only [zP] at h
   cases hl:Be vs ks with
   | none=>rw [hl] at h;simp at h
   | some m=>
    rw [hl] at h;simp only [zP,zI] at h;subst h
    cases i with
    | zero=>exact hx
    | succ i=>exact JB hl i (by simpa using hi) (by simpa using h')
theorem MM {vs:List qY} (hr:∀ v∈vs,pG v):∀ (n:Nat) (t:Tm),Zv t<=n->∀ r,T1 vs t=some r->RP r
 | 0,t,h,_,_=>by have:=yX t;omega
 | n+1,t,h,r,Qk=>by
  rw [EJ] at Qk;have qC:=uq t
  cases hl:Be vs t.kids with
  | none=>rw [hl] at Qk;simp at Qk
  | some l=>
   rw [hl] at Qk;simp only [zP] at Qk;have hlen:=U9 hl;have hlP:∀ p∈l,RP p:=fun p hp=>by
    obtain ⟨i,hi,rfl⟩:=Jo.1 hp;have h1:i < t.kids.length:=by omega
    have:=wa (ku h1);exact MM hr n _ (by omega) _ (JB hl i h1 hi)
   have hle:=z1g hr t.op t.n hlP
   cases zS:okR (yT vs t.op t.n l) with
   | false=>rw [zS] at Qk;simp at Qk
   | true=>
    rw [zS] at Qk;simp only [zB,zI] at Qk;subst Qk;simp only [okR,zA,yR] at zS;exact ⟨zS.1,hle,zS.2⟩
theorem kJ:100<=room:=by decide
theorem Lz (N:Nat) (hN:200<=N) (vs:List qY) (hr:∀ v∈vs,pG v) (vl:Bool):∀ (M:Nat) (t:Tm),Zv t<=M->Zv t<=100->AL vs vl t=true->zx (z69 N M vs (gD t)) fun r=>r.2.2=true->T1 vs t=some (r.1,r.2.1)
 | 0,t,h,_,_=>by have:=yX t;omega
 | M+1,t,h,ht,hf=>by
  show zx (Rg N (z69 N M) vs (gD t)) _;have qC:=uq t;have VG:=kO t.kids;have r1:=kJ;rw [AI,zA,BH] at hf;obtain ⟨hhd,hkf⟩:=hf;unfold Rg;refine zx.up (fun j s=>j<=t.kids.length/\∃ l:List (Int×Int),s.1=l.map Prod.snd/\s.2=l.map Prod.fst/\l.length=j/\Be vs (t.kids.take j)=some l) t.kids.length ?_ ?_ N 0 (jt _) (by omega) ([],[]) ⟨jt _,[],rfl,rfl,rfl,by simp [Be]⟩
  ·rintro j ⟨o0,o1⟩ w hj ⟨_,l,h1,h2,h3,h4⟩ hw;simp only at h1 h2;subst h1 h2;simp only [KB];have hm:=wa (ku hj);rw [show decide ((j:Int) < len t.kids)=true from zK hj,zB,zg hj];simp only [zP];refine zx.then (Lz N hN vs hr vl M t.kids[j] (by omega) (by omega) (hkf _ (ku hj))) fun r hrr=>?_
   refine zx.cond (fun _=>zx.ret (by simp)) fun zS=>?_
   simp only [Bl] at zS;refine zx.qW (by simp only [yR,Gy];omega) (zx.qW (by simp only [yR,Gy];omega) ?_);rw [zu (by omega)];refine hw _ ⟨hj,l++[(r.1,r.2.1)],by simp,by simp,by simp [h3],?_⟩;rw [qy hj];exact Hd h4 (hrr zS)
  ·rintro ⟨o0,o1⟩ w ⟨_,l,h1,h2,h3,h4⟩;simp only at h1 h2;subst h1 h2;simp only [KB];rw [show decide (((t.kids.length:Nat):Int) < len t.kids)=false from zV _,zU];rw [Qi] at h4;have hlP:∀ p∈l,RP p:=fun p hp=>by
    obtain ⟨i,hi,rfl⟩:=Jo.1 hp;exact MM hr _ _ (yN _) _ (JB h4 i (by omega) hi)
   rw [show f293 N vs (gD t) (List.map Prod.fst l) (List.map Prod.snd l)=_ from zdn N hN vs t.op t.n t.kids l (by rw [h3];exact W8 hhd) hlP];simp only [zP,wR];refine zx.ret fun hb=>?_
   simp only at hb;rw [EJ,h4,zP];have e:XJ vs t.op t.n l=yT vs t.op t.n l:=by
    unfold XJ at hb ⊢;split
    ·rename_i hc;rw [yQ hc] at hb;simp at hb
    ·rfl
   rw [e] at hb ⊢;have:okR (yT vs t.op t.n l)=true:=hb;rw [this];rfl
theorem L8 (N:Nat) (hN:200<=N) (vs:List qY) (hr:∀ v∈vs,pG v) (vl:Bool):∀ (M:Nat) (t:Tm),Zv t<=M->Zv t<=100->AL vs vl t=true->∀ r,T1 vs t=some r->R6 N M vs (gD t)=some (V4 r,true)
 | 0,t,h,_,_,_,_=>by have:=yX t;omega
 | M+1,t,h,ht,hf,r,Qk=>by
  show R7 N (R6 N M) vs (gD t)=_;have qC:=uq t;have VG:=kO t.kids;have r1:=kJ;rw [AI,zA,BH] at hf;obtain ⟨hhd,hkf⟩:=hf;rw [EJ] at Qk
  cases hl:Be vs t.kids with
  | none=>rw [hl] at Qk;simp at Qk
  | some l=>
  rw [hl] at Qk;simp only [zP] at Qk;have hlen:=U9 hl;have hlP:∀ p∈l,RP p:=fun p hp=>by
   obtain ⟨i,hi,rfl⟩:=Jo.1 hp;exact MM hr _ _ (yN _) _ (JB hl i (by omega) hi)
  unfold R7;refine zx.eq ?_;refine zx.up (fun j s=>s=(l.take j).map V4) t.kids.length ?_ ?_ N 0 (jt _) (by omega) [] rfl
  ·rintro j s w hj rfl hw;simp only [KG];have hm:=wa (ku hj);rw [show decide ((j:Int) < len t.kids)=true from zK hj,zB,zg hj];simp only [zP];rw [show R6 N M vs (t.kids[j].1,(t.kids[j].2,(t.kids[j].3,())))=some (V4 l[j],true) from L8 N hN vs hr vl M t.kids[j] (by omega) (by omega) (hkf _ (ku hj)) _ (JB hl j hj (by omega))];simp only [zP,xU,zU];refine zx.qW (by simp only [yR,Gy,P9];omega) ?_;rw [zu (by omega)];refine hw _ ?_;rw [qy (show j < l.length by omega),Z2e];rfl
  ·rintro s w rfl;simp only [KG];rw [show decide (((t.kids.length:Nat):Int) < len t.kids)=false from zV _,zU,<-hlen,Qi];rw [show f340 N vs (gD t) (l.map V4)=_ from zdd N hN vs t.op t.n t.kids l (by rw [hlen];exact W8 hhd) hlP];simp only [zP]
   cases zS:okR (yT vs t.op t.n l) with
   | false=>rw [zS] at Qk;simp at Qk
   | true=>
    rw [zS] at Qk;simp only [zB,zI] at Qk;subst Qk;simp only [okR,zA,yR] at zS;rw [jY zS.1,zB,jY zS.2,XP];exact zx.ret rfl
def BR (vs:List qY) (vl:Bool) (t:Tm):Prop:=AL vs vl t=true/\∃ r,T1 vs t=some r
theorem RL (N:Nat) (hN:200<=N) (vs:List qY) (hr:∀ v∈vs,pG v) (vl:Bool) (t:Tm) (ht:Zv t<=100):zx (f156 N vs (gD t) vl) fun c=>c=0->BR vs vl t:=by
 unfold f156;rw [ze1 N hN vs vl t ht,zP];refine zx.cond (fun _=>zx.ret (by simp)) fun hf=>?_
 simp only [Bl] at hf;refine zx.then (Lz N hN vs hr vl N t (by omega) ht hf) fun r hrr=>?_
 refine zx.cond (fun _=>zx.ret (by simp)) fun hk=>zx.ret fun _=>⟨hf,_,hrr ?_⟩
 simpa using hk
theorem Rv (N:Nat) (hN:200<=N) (vs:List qY) (hr:∀ v∈vs,pG v) (vl:Bool) (t:Tm) (ht:Zv t<=100) (h:BR vs vl t):f245 N vs (gD t) vl=some 0:=by
 obtain ⟨hf,r,Qk⟩:=h;unfold f245;rw [zdk N hN vs vl t ht,hf,zP,show (!true)=false from rfl,zU];rw [show f298 N vs (gD t)=some (V4 r,true) from L8 N hN vs hr vl N t (by omega) ht hf r Qk];rfl
end Go.Kz
namespace Go.Kz
mutual
def Zr:Tm->Nat
 | ⟨_,_,ks⟩=>QE ks+1
def QE:List Tm->Nat
 | []=>0
 | k :: ks=>max (Zr k) (QE ks)
end
mutual
def MF:Sp->Nat
 | ⟨_,_,_,_,_,a,b,_⟩=>max (pI a) (pI b)+1
def pI:List Sp->Nat
 | []=>0
 | s :: l=>max (MF s) (pI l)
end
mutual
def dpS:Sp->Bool
 | ⟨_,_,_,_,t,a,b,_⟩=>(decide (Zr t<=12) && Rc a) && Rc b
def Rc:List Sp->Bool
 | []=>true
 | s :: l=>dpS s && Rc l
end
theorem O4 (t:Tm):Zr t=QE t.kids+1:=by cases t;simp only [Zr]
theorem O9 (s:Sp):MF s=max (pI s.j4) (pI s.uQ)+1:=by cases s;simp only [MF]
theorem z6t (s:Sp):dpS s=((decide (Zr s.term<=12) && Rc s.j4) && Rc s.uQ):=by cases s;simp only [dpS]
theorem MG (l:List Tm) (x:Tm):QE (l++[x])=max (QE l) (Zr x):=by
 induction l with
 | nil=>simp [QE]
 | cons y l ih=>simp only [xA,QE,ih];omega
theorem ME (l:List Sp) (x:Sp):pI (l++[x])=max (pI l) (MF x):=by
 induction l with
 | nil=>simp [pI]
 | cons y l ih=>simp only [xA,pI,ih];omega
theorem FL:∀ l:List Sp,Rc l=l.all dpS
 | []=>rfl
 | s :: l=>by simp only [Rc,Z4r,FL l]
theorem CI:∀ {l:List Tm} {x:Tm},x∈l->Zr x<=QE l
 | y :: l,x,h=>by
  simp only [QE];rcases pK.1 h with rfl | h
  ·omega
  ·have:=CI h;omega
theorem Cc:∀ {l:List Sp} {x:Sp},x∈l->MF x<=pI l
 | y :: l,x,h=>by
  simp only [pI];rcases pK.1 h with rfl | h
  ·omega
  ·have:=Cc h;omega
mutual
theorem zb0:∀ t:Tm,Zr t<=Zv t
 | ⟨_,_,ks⟩=>by have:=Xg ks;simp only [Zr,Zv];omega
theorem Xg:∀ l:List Tm,QE l<=uP l
 | []=>yN _
 | k :: ks=>by have:=zb0 k;have:=Xg ks;simp only [QE,uP];omega
end
mutual
theorem zbb:∀ s:Sp,MF s<=ssz s
 | ⟨_,_,_,_,t,a,b,_⟩=>by have:=Y6 a;have:=Y6 b;have:=yX t;simp only [MF,ssz];omega
theorem Y6:∀ l:List Sp,pI l<=yS l
 | []=>yN _
 | s :: l=>by have:=zbb s;have:=Y6 l;simp only [pI,yS];omega
end
theorem Ah (N:Nat) (hN:200<=N):∀ (M:Nat) (t:Tm),Zv t<=M->Zv t<=100->zx (z6b N M (gD t)) fun _=>True
 | 0,t,h,_=>by have:=yX t;omega
 | M+1,t,h,ht=>by
  show zx (RJ N (z6b N M) (gD t)) _;have qC:=uq t;have VG:=kO t.kids;unfold RJ;refine zx.up (fun _ _=>True) t.kids.length ?_ ?_ N 0 (jt _) (by omega) _ trivial
  ·rintro j s w hj _ hw;simp only [KF];have hm:=wa (ku hj);rw [show decide ((j:Int) < len t.kids)=true from zK hj,zB,zg hj];simp only [zP];refine zx.then (Ah N hN M t.kids[j] (by omega) (by omega)) fun r _=>?_
   rw [zu (by omega)];exact hw _ trivial
  ·rintro s w _;simp only [KF];rw [show decide (((t.kids.length:Nat):Int) < len t.kids)=false from zV _,zU];exact zx.ret trivial
theorem Ai (N:Nat) (hN:200<=N):∀ (M:Nat) (l:List Sp),yS l < M->yS l<=100->zx (z6c N M l) fun _=>True
 | 0,l,h,_=>by omega
 | M+1,l,h,ht=>by
  show zx (RV N (z6c N M) l) _;have VG:=wx l;unfold RV;refine zx.up (fun _ _=>True) l.length ?_ ?_ N 0 (jt _) (by omega) _ trivial
  ·rintro j s w hj _ hw;simp only [KH];have hm:=wb (ku hj);have he:=kF l[j];have hp:=yX l[j].term;rw [zK hj,zB,zg hj];simp only [zP];refine zx.then (Ah N hN N l[j].term (by omega) (by omega)) fun r _=>?_
   refine zx.then (Ai N hN M l[j].j4 (by omega) (by omega)) fun r _=>?_
   refine zx.then (Ai N hN M l[j].uQ (by omega) (by omega)) fun r _=>?_
   rw [zu (by omega)];exact hw _ trivial
  ·rintro s w _;simp only [KH];rw [show decide (((l.length:Nat):Int) < len l)=false from zV _,zU];exact zx.ret trivial
theorem Af (N:Nat) (hN:200<=N):∀ (M:Nat) (t:Tm),Zv t<=M->Zv t<=100->RQ N M (gD t)=some (Zr t:Int)
 | 0,t,h,_=>by have:=yX t;omega
 | M+1,t,h,ht=>by
  show RY N (RQ N M) (gD t)=_;have qC:=uq t;have VG:=kO t.kids;unfold RY;refine zx.eq ?_;refine zx.up (fun j s=>s=(QE (t.kids.take j):Int)) t.kids.length ?_ ?_ N 0 (jt _) (by omega) _ rfl
  ·rintro j s w hj rfl hw;simp only [KD];have hm:=wa (ku hj);rw [show decide ((j:Int) < len t.kids)=true from zK hj,zB,zg hj];simp only [zP];rw [show RQ N M (t.kids[j].1,(t.kids[j].2,(t.kids[j].3,())))=some (Zr t.kids[j]:Int) from Af N hN M t.kids[j] (by omega) (by omega)];simp only [zP];rw [zu (by omega)];have e:=MG (t.kids.take j) t.kids[j];refine zx.cond (fun hb=>hw _ ?_) fun hb=>hw _ ?_
   ·have:=BI hb;rw [qy hj,e];omega
   ·have:=Rs hb;rw [qy hj,e];omega
  ·rintro s w rfl;simp only [KD];rw [show decide (((t.kids.length:Nat):Int) < len t.kids)=false from zV _,zU,Qi];have:=Xg t.kids;rw [zu (by omega)];refine zx.ret ?_;rw [O4];omega
theorem Ae (N:Nat) (hN:200<=N):∀ (M:Nat) (l:List Sp),yS l < M->yS l<=100->z6a N M l=some (pI l:Int)
 | 0,l,h,_=>by omega
 | M+1,l,h,ht=>by
  show RZ N (z6a N M) l=_;have VG:=wx l;unfold RZ;refine zx.eq ?_;refine zx.up (fun j s=>s=(pI (l.take j):Int)) l.length ?_ ?_ N 0 (jt _) (by omega) _ rfl
  ·rintro j s w hj rfl hw;simp only [KC];have hm:=wb (ku hj);have he:=kF l[j];have hp:=yX l[j].term;rw [zK hj,zB,zg hj];simp only [zP];rw [Ae N hN M l[j].j4 (by omega) (by omega),Ae N hN M l[j].uQ (by omega) (by omega)];simp only [zP];have b1:=Y6 l[j].j4;have b2:=Y6 l[j].uQ;rw [zu (by omega),zu (by omega),zu (by omega)];have e:=ME (l.take j) l[j];rw [O9] at e;refine zx.cond (fun hb=>zx.cond (fun w5=>hw _ ?_) fun w5=>hw _ ?_) fun hb=>zx.cond (fun w5=>hw _ ?_) fun w5=>hw _ ?_
   ·have:=BI hb;have:=BI w5;rw [qy hj,e];omega
   ·have:=BI hb;have:=Rs w5;rw [qy hj,e];omega
   ·have:=Rs hb;have:=BI w5;rw [qy hj,e];omega
   ·have:=Rs hb;have:=Rs w5;rw [qy hj,e];omega
  ·rintro s w rfl;simp only [KC];rw [show decide (((l.length:Nat):Int) < len l)=false from zV _,zU,Qi];exact zx.ret rfl
theorem Ad (N:Nat) (hN:200<=N):∀ (M:Nat) (l:List Sp),yS l < M->yS l<=100->Ru N M l=some (!Rc l)
 | 0,l,h,_=>by omega
 | M+1,l,h,ht=>by
  show Rx N (Ru N M) l=_;have VG:=wx l;unfold Rx;have:=Gd (F:=fun w=>Jk N (Ru N M) l w (fun t2=>some t2) (fun (_:Unit)=>some false)) l dpS (some false) (some true) ?_ ?_ N (by omega)
  ·rw [this,FL];cases l.all dpS <;> rfl
  ·intro j w hj;simp only [Jk];have hm:=wb (ku hj);have he:=kF l[j];have hp:=yX l[j].term;rw [zK hj,zB,zg hj];simp only [zP];rw [show f233 N (l[j].5.1,(l[j].5.2,(l[j].5.3,())))=some (Zr l[j].term:Int) from Af N hN N l[j].term (by omega) (by omega)];rw [Ad N hN M l[j].j4 (by omega) (by omega),Ad N hN M l[j].uQ (by omega) (by omega)];simp only [zP,Z7];rw [zu (by omega),z6t];by_cases h12:Zr l[j].term<=12
   ·rw [qO (show ¬ (12 < (Zr l[j].term:Int)) by omega),jY h12];cases Rc l[j].j4 <;> cases Rc l[j].uQ <;> rfl
   ·rw [jY (show 12 < (Zr l[j].term:Int) by omega),qO h12];cases Rc l[j].j4 <;> cases Rc l[j].uQ <;> rfl
  ·intro w;simp only [Jk];rw [show decide (((l.length:Nat):Int) < len l)=false from zV _,zU]
structure zhr (f:zh):Prop where
 F6:zfd f
 zsm:f.2.1.length<=8
 Ie:∀ h∈f.2.1,Zr (FN h.2.2.2.1)<=12
 steps:pI f.2.2.1<=12
 zoh:Rc f.2.2.1=true
theorem zef (N:Nat) (hN:200<=N) (f:zh) (hf:zfd f):zx (f152 N f) fun b=>b=true->zhr f:=by
 obtain ⟨q1,q2,q3⟩:=id hf;unfold f152;simp only [Z7,zP];refine zx.cond (fun _=>zx.ret (by simp)) fun hb=>?_
 simp only [JY,u7,len] at hb;refine zx.then (Ai N hN N f.2.2.1 (by omega) (by omega)) fun r _=>?_
 refine zx.up (fun j _=>∀ i (h:i < f.2.1.length),i < j->Zr (FN f.2.1[i].2.2.2.1)<=12) f.2.1.length ?_ ?_ N 0 (jt _) (by omega) _ (fun i h hi=>by omega)
 ·rintro j s w hj hinv hw;simp only [Ui];have hm:qC f.2.1[j]<=xj f.2.1:=xy (ku hj);simp only [qC] at hm;rw [show decide ((j:Int) < len f.2.1)=true from zK hj,zB,zg hj];simp only [zP];refine zx.then (Ah N hN N (FN f.2.1[j].2.2.2.1) (by omega) (by omega)) fun r _=>?_
  rw [show f233 N (f.2.1[j].2.2.2.1.1,f.2.1[j].2.2.2.1.2)=some (Zr (FN f.2.1[j].2.2.2.1):Int) from Af N hN N (FN f.2.1[j].2.2.2.1) (by omega) (by omega)];simp only [zP];refine zx.cond (fun _=>zx.ret (by simp)) fun hd=>?_
  have hd':=Rs hd;rw [zu (by omega)];refine hw _ fun i h hi=>?_
  by_cases e:i=j
  ·subst e;omega
  ·exact hinv i h (by omega)
 ·rintro s w hinv;simp only [Ui];rw [show decide (((f.2.1.length:Nat):Int) < len f.2.1)=false from zV _,zU];rw [show f234 N f.2.2.1=_ from Ae N hN N f.2.2.1 (by omega) (by omega),show f235 N f.2.2.1=_ from Ad N hN N f.2.2.1 (by omega) (by omega)];simp only [zP,wR];refine zx.ret fun h=>?_
  simp only [zA,PO,Bl,yR] at h;refine ⟨hf,by omega,fun x hx=>?_,by omega,h.2⟩;obtain ⟨i,hi,rfl⟩:=Jo.1 hx;exact hinv i hi hi
@[reducible] def Z1 (n:Int):Int×(Bool×Unit):=(n,(false,()))
theorem Ue (N:Nat) (n:Int) (h:n<=1024):f159 N (Z1 n)=some (((),(false,())),(Z1 n,())):=by
 unfold f159;rw [Z7,zP,qO (show ¬ 1024 < (Z1 n).1 by simp only;omega)];rfl
theorem B3 (N:Nat) (hN:200<=N):∀ (M:Nat) (t:Tm) (d n:Int),Zv t<=M->Zv t<=100->1<=d->d+Zr t<=13->0<=n->n+Zv t<=1024->RE N M (gD t) d (Z1 n)=some (((),()),(Z1 (n+Zv t),()))
 | 0,t,_,_,h,_,_,_,_,_=>by have:=yX t;omega
 | M+1,t,d,n,h,ht,h1,hd,hn,hs=>by
  show RF N (RE N M) (gD t) d (Z1 n)=_;have qC:=uq t;have VG:=kO t.kids;have hdp:=O4 t;unfold RF;rw [Z7,zP,qO (show ¬ 12 < d by omega)];rw [show ((Z1 n).2.1 || false)=false from rfl,zw (n:=(Z1 n).1+1) (by simp only;omega) (by simp only;omega)];rw [show f159 N ((Z1 n).1+1,(false,(Z1 n).2.2))=_ from Ue N (n+1) (by omega)];simp only [zP,zU];refine zx.eq ?_;refine zx.up (fun j s=>s=Z1 (n+1+uP (t.kids.take j))) t.kids.length ?_ ?_ N 0 (jt _) (by omega) _ (by simp [uP])
  ·rintro j s w hj rfl hw;simp only [Kh];have hm:=wa (ku hj);have hm2:=CI (ku hj);have ht1:=Qn hj;have ht2:=E8 t.kids (j+1);rw [show decide ((j:Int) < len t.kids)=true from zK hj,zB,zg hj];simp only [zP];rw [zw (n:=d+1) (by omega) (by omega)];rw [show RE N M (t.kids[j].1,(t.kids[j].2,(t.kids[j].3,()))) (d+1) (Z1 (n+1+uP (t.kids.take j)))=_ from B3 N hN M t.kids[j] (d+1) _ (by omega) (by omega) (by omega) (by omega) (by omega) (by omega)];simp only [zP];rw [zu (by omega)];refine hw _ ?_;simp only [Z1,gP,U6];omega
  ·rintro s w rfl;simp only [Kh];rw [show decide (((t.kids.length:Nat):Int) < len t.kids)=false from zV _,zU,Qi];refine zx.ret ?_;simp only [Z1,gP,U6,Vq];omega
theorem B4 (N:Nat) (hN:200<=N):∀ (M:Nat) (l:List Sp) (d n:Int),yS l < M->yS l<=100->1<=d->(l≠[]->d+pI l<=13)->Rc l=true->0<=n->n+yS l<=1024->zx (z6l N M l d (Z1 n)) fun r=>∃ n':Int,r=(((),()),(Z1 n',()))/\n<=n'/\n'<=n+yS l
 | 0,l,_,_,h,_,_,_,_,_,_=>by omega
 | M+1,l,d,n,h,ht,h1,hd,hp,hn,hs=>by
  show zx (RH N (z6l N M) l d (Z1 n)) _;have VG:=wx l;unfold RH;refine zx.up (fun j s=>∃ m:Int,s=Z1 m/\n<=m/\m<=n+yS (l.take j)) l.length ?_ ?_ N 0 (jt _) (by omega) _ ⟨n,rfl,by omega,by simp [yS]⟩
  ·rintro j s w hj ⟨m,rfl,TA,hm2⟩ hw;simp only [Ki];have hm:=wb (ku hj);have hdm:=Cc (ku hj);have ht1:=Qt hj;have ht2:=Ew l (j+1);have he:=kF l[j];have hde:=O9 l[j];have htp:=yX l[j].term;have hd':=hd (fun e=>by rw [e] at hj;simp at hj);rw [FL,BH] at hp;have hpj:=hp _ (ku hj);rw [z6t] at hpj;simp only [zA,yR] at hpj;obtain ⟨⟨p1,p2⟩,p3⟩:=hpj;rw [show decide ((j:Int) < len l)=true from zK hj,zB,zg hj];simp only [zP];rw [Z7,zP,qO (show ¬ 12 < d by omega),Bool.or_false];rw [zw (n:=m+1) (by omega) (by omega)];rw [show f159 N (m+1,(false,()))=_ from Ue N (m+1) (by omega)];simp only [zP,zU];rw [show f160 N (l[j].5.1,(l[j].5.2,(l[j].5.3,()))) 1 (Z1 (m+1))=_ from B3 N hN N l[j].term 1 (m+1) (by omega) (by omega) (by omega) (by omega) (by omega) (by omega)];simp only [zP];rw [zw (n:=d+1) (by omega) (by omega)];refine zx.then (B4 N hN M l[j].j4 (d+1) _ (by omega) (by omega) (by omega) (fun _=>by omega) p2 (by omega) (by omega)) ?_;rintro _ ⟨m1,rfl,c1,c2⟩;refine zx.then (B4 N hN M l[j].uQ (d+1) m1 (by omega) (by omega) (by omega) (fun _=>by omega) p3 (by omega) (by omega)) ?_;rintro _ ⟨m2,rfl,c3,c4⟩;rw [zu (by omega)];exact hw _ ⟨m2,rfl,by omega,by omega⟩
  ·rintro s w ⟨m,rfl,TA,hm2⟩;simp only [Ki];rw [show decide (((l.length:Nat):Int) < len l)=false from zV _,zU];rw [Qi] at hm2;exact zx.ret ⟨m,rfl,TA,hm2⟩
end Go.Kz
namespace Go.Kz
abbrev ztz:=Int×(Int×(Int×(Int×(Dm×(List Sp×(List Sp×(List Int×Unit)))))))
@[reducible] def Mz (s:Sp):ztz:=(s.act,(s.cost,(s.var,(s.n,(gD s.term,(s.j4,(s.uQ,(s.bounds,()))))))))
def C9 (vs:List qY) (v:Int):Bool:=(decide (0<=v) && decide (v < len vs)) && (match vs[v.toNat]? with
 | some x=>decide (x.2.1=0)
 | none=>false)
theorem zjs (vs:List qY) (v:Int):(cond (decide (0<=v) && decide (v < len vs)) ((idx vs v).bind fun x=>some (decide (x.2.1=0))) (some false))=some (C9 vs v):=by
 unfold C9;by_cases h:0<=v/\v < len vs
 ·have e2:(decide (0<=v) && decide (v < len vs))=true:=by simpa using h
  have h2:v.toNat < vs.length:=by have:=h.2;simp only [len] at this;omega
  have e3:idx vs v=some vs[v.toNat]:=Z2 h.1 (by have:=h.2;simp only [len] at this;omega);rw [e2,zB,e3,wP h2];rfl
 ·have e2:(decide (0<=v) && decide (v < len vs))=false:=by simp only [Rr,u7];omega
  rw [e2];rfl
theorem zc1 (vs:List qY) (v:Int):(cond (decide (v < 0) || decide (len vs<=v)) (some true) ((idx vs v).bind fun x=>some (!decide (x.2.1=0))))=some (!C9 vs v):=by
 unfold C9;by_cases h:0<=v/\v < len vs
 ·have e1:(decide (v < 0) || decide (len vs<=v))=false:=by simp only [JY,u7];omega
  have e2:(decide (0<=v) && decide (v < len vs))=true:=by simpa using h
  have h2:v.toNat < vs.length:=by have:=h.2;simp only [len] at this;omega
  have e3:idx vs v=some vs[v.toNat]:=Z2 h.1 (by have:=h.2;simp only [len] at this;omega);rw [e1,e2,zU,e3,wP h2];rfl
 ·have e1:(decide (v < 0) || decide (len vs<=v))=true:=by simp only [Df,yR];omega
  have e2:(decide (0<=v) && decide (v < len vs))=false:=by simp only [Rr,u7];omega
  rw [e1,e2];rfl
theorem z3l {vs:List qY} {v:Int} (h:C9 vs v=true):∃ k:Nat,∃ hk:k < vs.length,v=k/\vs[k].2.1=0:=by
 simp only [C9,zA,yR,len] at h;obtain ⟨⟨h1,h2⟩,h3⟩:=h;have hk:v.toNat < vs.length:=by omega
 rw [wP hk] at h3;exact ⟨v.toNat,hk,by omega,BI h3⟩
def zaj (t:Tm):Bool:=(decide (t.op=0) && decide (t.n=0)) && decide (len t.kids=0)
theorem zdm (N:Nat) (t:Tm):f294 N (gD t)=some (zaj t):=by
 unfold f294;simp only [wR,zP];rfl
theorem zdj (N:Nat) (t:Tm):f302 N (gD t)=some (zaj t):=by
 unfold f302;simp only [wR,zP];rfl
structure S3 (l:List Int):Prop where
 one:1<=l.length
 zbz:l.length<=32
 first:∀ h:0 < l.length,(0:Int)<=l[0]
 up:∀ i (_:0 < i) (h2:i < l.length),l[i-1] < l[i]
theorem zdl (N:Nat) (hN:200<=N) (l:List Int):zx (f295 N l) fun b=>b=true->S3 l:=by
 unfold f295;rw [Z7,zP];by_cases hl:1<=l.length/\l.length<=32
 ·have e:(decide (len l < 1) || decide (32 < len l))=false:=by simp only [JY,u7,len];omega
  rw [e,zU,show idx l 0=some l[0] from zg (k:=0) (by omega)];simp only [zP];refine zx.cond (fun _=>zx.ret (by simp)) fun h0=>?_
  have h0':=Rs h0;refine zx.Bn (fun j=>1<=j/\∀ i (_:0 < i) (h2:i < l.length),i < j->l[i-1] < l[i]) l.length ?_ ?_ N 1 hl.1 (by omega) ⟨yN _,fun i h1 h2 h3=>by omega⟩
  ·rintro j w hj ⟨hj1,hinv⟩ hw;simp only [UH];rw [zK hj,zB,zg hj,ua (by omega) (by omega),zg (show j-1 < l.length by omega)];simp only [zP];refine zx.cond (fun _=>zx.ret (by simp)) fun hc=>?_
   have Cw:=Rs hc;rw [zu (by omega)];refine hw ⟨by omega,fun i h1 h2 h3=>?_⟩;by_cases e:i=j
   ·subst e;omega
   ·exact hinv i h1 h2 (by omega)
  ·rintro w ⟨_,hinv⟩;simp only [UH];rw [zV,zU];exact zx.ret fun _=>⟨hl.1,hl.2,fun _=>by omega,fun i h1 h2=>hinv i h1 h2 h2⟩
 ·have e:(decide (len l < 1) || decide (32 < len l))=true:=by simp only [Df,yR,len];omega
  rw [e,zB];exact zx.ret (by simp)
theorem zdi (N:Nat) (hN:200<=N) (l:List Int) (h:S3 l):f303 N l=some true:=by
 obtain ⟨h1,h2,h3,h4⟩:=h;unfold f303;refine zx.eq ?_;refine zx.Bn (fun _=>True) l.length ?_ ?_ N 0 (jt _) (by omega) trivial
 ·intro j w hj _ hw;simp only [UE];rw [show decide ((j:Int) < len l)=true from zK hj,zB];by_cases h0:0 < j
  ·rw [jY (show (0:Int) < j by omega),zB,zg hj,ua h0 (by omega),zg (show j-1 < l.length by omega)];simp only [zP];have:=h4 j h0 hj;rw [qO (show ¬ l[j]<=l[j-1] by omega),zU,zu (by omega)];exact hw trivial
  ·rw [qO (show ¬ (0:Int) < j by omega),zU];simp only [zP,zU];rw [zu (by omega)];exact hw trivial
 ·intro w _;simp only [UE];rw [show decide (((l.length:Nat):Int) < len l)=false from zV _,zU];exact zx.ret rfl
structure H3 (f:zh) (last:Bool) (s:Sp):Prop where
 act0:0<=s.act
 act6:s.act<=6
 var:s.act=0\/s.act=5->C9 f.1 s.var=true
 var0:¬ (s.act=0\/s.act=5)->s.var=0
 n0:¬ (s.act=4\/s.act=5)->s.n=0
 rel:s.act=5->0<=s.n/\s.n < len f.2.1
 zero:s.act=2\/s.act=5\/s.act=6->zaj s.term=true
 j4:s.act≠3->s.act≠4->s.j4=[]
 uQ:s.act≠3->s.uQ=[]
 bnd:s.act≠6->s.bounds=[]
 set:s.act=6->last=true/\S3 s.bounds
theorem Qy {I:Type} {l:List I}:(len l=0)=(l=[]):=by
 cases l with
 | nil=>simp [len]
 | cons x l=>simp only [len,Vy,reduceCtorEq,eq_iff_iff,iff_false];omega
theorem ze0 (N:Nat) (hN:200<=N) (f:zh) (s:Sp) (last:Bool):zx (f239 N f (Mz s) last) fun b=>b=true->H3 f last s:=by
 unfold f239;simp only [wR,gid,zP,zjs];rw [show f294 N ((Mz s).2.2.2.2.1.1,(Mz s).2.2.2.2.1.2)=_ from zdm N s.term];simp only [wR,zP];refine zx.cond (fun h=>zx.ret fun hb=>?_) fun a0=>?_
 ·simp only [zA,yR,Qy] at h hb;obtain ⟨⟨⟨⟨b1,b2⟩,b3⟩,b4⟩,b5⟩:=hb;exact ⟨by omega,by omega,fun _=>b3,fun c=>absurd (.inl h) c,fun _=>b4,fun c=>by omega,fun c=>by omega,fun _ _=>b1,fun _=>b2,fun _=>b5,fun c=>by omega⟩
 refine zx.cond (fun h=>zx.ret fun hb=>?_) fun a1=>?_
 ·simp only [zA,yR,Qy] at h hb;obtain ⟨⟨⟨⟨b1,b2⟩,b3⟩,b4⟩,b5⟩:=hb;exact ⟨by omega,by omega,fun c=>by omega,fun _=>b3,fun _=>b4,fun c=>by omega,fun c=>by omega,fun _ _=>b1,fun _=>b2,fun _=>b5,fun c=>by omega⟩
 refine zx.cond (fun h=>zx.ret fun hb=>?_) fun a2=>?_
 ·simp only [zA,yR,Qy] at h hb;obtain ⟨⟨⟨⟨⟨b1,b2⟩,b3⟩,b4⟩,b5⟩,b6⟩:=hb;exact ⟨by omega,by omega,fun c=>by omega,fun _=>b3,fun _=>b4,fun c=>by omega,fun _=>b6,fun _ _=>b1,fun _=>b2,fun _=>b5,fun c=>by omega⟩
 refine zx.cond (fun h=>zx.ret fun hb=>?_) fun a3=>?_
 ·simp only [zA,yR,Qy] at h hb;obtain ⟨⟨b3,b4⟩,b5⟩:=hb;exact ⟨by omega,by omega,fun c=>by omega,fun _=>b3,fun _=>b4,fun c=>by omega,fun c=>by omega,fun c=>absurd h c,fun c=>absurd h c,fun _=>b5,fun c=>by omega⟩
 refine zx.cond (fun h=>zx.ret fun hb=>?_) fun a4=>?_
 ·simp only [zA,yR,Qy] at h hb;obtain ⟨⟨b3,b2⟩,b5⟩:=hb;exact ⟨by omega,by omega,fun c=>by omega,fun _=>b3,fun c=>absurd (.inl h) c,fun c=>by omega,fun c=>by omega,fun _ c=>absurd h c,fun _=>b2,fun _=>b5,fun c=>by omega⟩
 refine zx.cond (fun h=>zx.ret fun hb=>?_) fun a5=>?_
 ·simp only [zA,yR,Qy] at h hb;obtain ⟨⟨⟨⟨⟨⟨b1,b2⟩,b3⟩,b4⟩,b5⟩,b6⟩,b7⟩:=hb;exact ⟨by omega,by omega,fun _=>b3,fun c=>absurd (.inr h) c,fun c=>absurd (.inr h) c,fun _=>⟨b4,b5⟩,fun _=>b7,fun _ _=>b1,fun _=>b2,fun _=>b6,fun c=>by omega⟩
 refine zx.cond (fun h=>?_) fun a6=>zx.ret (by simp)
 refine zx.cond (fun hb=>zx.mono (zdl N hN s.bounds) fun b w5 hb3=>?_) fun _=>zx.ret (by simp)
 simp only [zA,yR,Qy] at h hb;obtain ⟨⟨⟨⟨⟨b1,b2⟩,b3⟩,b4⟩,b5⟩,b6⟩:=hb;exact ⟨by omega,by omega,fun c=>by omega,fun _=>b4,fun _=>b5,fun c=>by omega,fun _=>b6,fun _ _=>b1,fun _=>b2,fun c=>absurd h c,fun _=>⟨b3,w5 hb3⟩⟩
theorem zdz (N:Nat) (hN:200<=N) (f:zh) (s:Sp) (last:Bool) (h:H3 f last s):f246 N f (Mz s) last=some true:=by
 obtain ⟨q1,q2,q3,q4,q5,q6,q7,q8,q9,qa,qb⟩:=h;have eN:∀ l:List Int,len l=(l.length:Int):=fun _=>rfl
 have zg9:((cond (!(decide (s.act=6))) (some true) ((cond last (some (decide (0 < (len s.bounds)))) (some false)).bind fun zml=>(cond zml (some (decide ((len s.bounds)<=32))) (some false)).bind fun zmk=>(cond zmk ((idx s.bounds 0).bind fun Hg=>some (decide (0<=Hg))) (some false)).bind fun zmj=>(cond zmj ((f303 N s.bounds).bind fun MT=>some MT) (some false)).bind fun zmi=>some zmi)).bind fun zmh=>some zmh)=some true:=by
  by_cases h6:s.act=6
  ·obtain ⟨b1,b2⟩:=qb h6;have c1:=b2.one;have c2:=b2.zbz;have c3:=b2.first (by omega);rw [jY h6,show (!true)=false from rfl,zU,b1,zB,zP,jY (show 0 < len s.bounds by rw [eN];omega),zB,zP,jY (show len s.bounds<=32 by rw [eN];omega),zB];rw [show idx s.bounds 0=some s.bounds[0] from zg (k:=0) (by omega),zP,jY c3,zP,zB,zdi N hN _ b2];rfl
  ·rw [qO h6];rfl
 have n0:∀ {I:Type} {l:List I},l=[]->decide (0 < len l)=false:=fun h=>by rw [h];rfl
 unfold f246 f299 f300 f301;simp only [Z7,wR,gid,zP];rw [show f302 N ((Mz s).2.2.2.2.1.1,(Mz s).2.2.2.2.1.2)=_ from zdj N s.term];simp only [zP,wR];have e1:(decide (s.act < 0) || decide (6 < s.act))=false:=by simp only [JY,u7];omega
 have e2:(!(decide (s.act=0) || decide (s.act=5)) && !decide (s.var=0))=false:=by
  by_cases h:s.act=0\/s.act=5
  ·have:(decide (s.act=0) || decide (s.act=5))=true:=by simpa using h
   rw [this];rfl
  ·rw [jY (q4 h)];simp
 have e3:(!(decide (s.act=4) || decide (s.act=5)) && !decide (s.n=0))=false:=by
  by_cases h:s.act=4\/s.act=5
  ·have:(decide (s.act=4) || decide (s.act=5))=true:=by simpa using h
   rw [this];rfl
  ·rw [jY (q5 h)];simp
 have e4:(!(((decide (s.act=0) || decide (s.act=1)) || decide (s.act=3)) || decide (s.act=4)) && !zaj s.term)=false:=by
  by_cases h:s.act=2\/s.act=5\/s.act=6
  ·rw [q7 h];simp
  ·have:(((decide (s.act=0) || decide (s.act=1)) || decide (s.act=3)) || decide (s.act=4))=true:=by
    simp only [Df,yR];omega
   rw [this];rfl
 have e5:((!decide (s.act=3) && !decide (s.act=4)) && decide (0 < len s.j4))=false:=by
  by_cases h3:s.act=3
  ·rw [jY h3];rfl
  by_cases h4:s.act=4
  ·rw [jY h4];simp
  ·rw [n0 (q8 h3 h4)];simp
 have e6:(!decide (s.act=3) && decide (0 < len s.uQ))=false:=by
  by_cases h3:s.act=3
  ·rw [jY h3];rfl
  ·rw [n0 (q9 h3)];simp
 have e7:(!decide (s.act=6) && decide (0 < len s.bounds))=false:=by
  by_cases h3:s.act=6
  ·rw [jY h3];rfl
  ·rw [n0 (qa h3)];simp
 have e8:(cond (decide (s.act=0) || decide (s.act=5)) (cond (decide (s.var < 0) || decide (len f.1<=s.var)) (some true) ((idx f.1 s.var).bind fun x=>some (!decide (x.2.1=0)))) (some false))=some false:=by
  by_cases h:s.act=0\/s.act=5
  ·have:(decide (s.act=0) || decide (s.act=5))=true:=by simpa using h
   rw [this,zB,zc1,q3 h];rfl
  ·have:(decide (s.act=0) || decide (s.act=5))=false:=by simpa using h
   rw [this];rfl
 have e9:(decide (s.act=5) && (decide (s.n < 0) || decide (len f.2.1<=s.n)))=false:=by
  by_cases h:s.act=5
  ·have:=q6 h;simp only [Rr,JY,u7];right;omega
  ·rw [qO h];rfl
 simp only [Z7,wR,gid,zP] at zg9;rw [e1,zU,e2,zU,e3,zU,e4,zU,e5,zU,e6,zU,e7,zU,e8,zP,zU,e9,zU];exact zg9
end Go.Kz
namespace Go.Kz
structure zn9 (s:Sp):Prop where
 z6w:0<=s.cost
 cost:s.cost<=67108864
 q6q:s.act≠2->s.cost<=10000
 n0:0<=s.n
 n:s.act=4->s.n<=4096
 bnd:∀ h:0 < s.bounds.length,s.bounds[s.bounds.length-1]<=(67108864:Int)
def zu2 (f:zh) (last:Bool) (s:Sp):Prop:=H3 f last s/\zn9 s/\BR f.1 false s.term
mutual
def stP (f:zh) (last:Bool):Sp->Prop
 | ⟨a,c,v,n,t,x,y,b⟩=>zu2 f last ⟨a,c,v,n,t,x,y,b⟩/\Qs f false x/\Qs f false y
def Qs (f:zh) (top:Bool):List Sp->Prop
 | []=>True
 | s :: l=>stP f (top && l.isEmpty) s/\Qs f top l
end
theorem xm (f:zh) (last:Bool) (s:Sp):stP f last s↔zu2 f last s/\Qs f false s.j4/\Qs f false s.uQ:=by cases s;simp only [stP]
theorem xC {f:zh} {top:Bool}:∀ {l:List Sp},Qs f top l->∀ i (h:i < l.length),stP f (top && decide (i+1=l.length)) l[i]
 | [],_,i,h=>by simp at h
 | s :: l,hs,0,h=>by
  simp only [Qs] at hs;have:(decide (0+1=(s :: l).length))=l.isEmpty:=by cases l <;> simp
  rw [this];exact hs.1
 | s :: l,hs,i+1,h=>by
  simp only [Qs] at hs;have:=xC hs.2 i (by simpa using h);have e:decide (i+1+1=(s :: l).length)=decide (i+1=l.length):=by simp
  rw [e];exact this
theorem Ev {f:zh} {top:Bool}:∀ {l:List Sp},(∀ i (h:i < l.length),stP f (top && decide (i+1=l.length)) l[i])->Qs f top l
 | [],_=>by simp only [Qs]
 | s :: l,hs=>by
  simp only [Qs];refine ⟨?_,Ev fun i h=>?_⟩
  ·have:=hs 0 (by simp);have e:(decide (0+1=(s :: l).length))=l.isEmpty:=by cases l <;> simp
   rw [e] at this;exact this
  ·have:=hs (i+1) (by simpa using h);have e:decide (i+1+1=(s :: l).length)=decide (i+1=l.length):=by simp
   rw [e] at this;exact this
theorem zof {l:List Sp} {j:Nat} (hl:l.length<=100) (hj:j < l.length) (top:Bool):(cond top (some (decide ((j:Int)=zz (len l-1)))) (some false))=some (top && decide (j+1=l.length)):=by
 have:zz (len l-1)=((l.length-1:Nat):Int):=by
  rw [show len l=(l.length:Int) from rfl,ua (by omega) (by omega)]
 rw [wR,this];congr 2;by_cases h:j+1=l.length
 ·rw [jY h,jY];omega
 ·rw [qO h,qO];omega
theorem B5 (N:Nat) (hN:200<=N) (f:zh) (hr:∀ v∈f.1,pG v):∀ (M:Nat) (l:List Sp) (top:Bool),yS l < M->yS l<=100->zx (Lk N M f l top) fun c=>c=0->Qs f top l
 | 0,l,_,h,_=>by omega
 | M+1,l,top,h,ht=>by
  show zx (RI N (Lk N M) f l top) _;have VG:=wx l;unfold RI;refine zx.Bn (fun j=>∀ i (h:i < l.length),i < j->stP f (top && decide (i+1=l.length)) l[i]) l.length ?_ ?_ N 0 (jt _) (by omega) (fun i h hi=>by omega)
  ·intro j w hj hinv hw;have hm:=wb (ku hj);have he:=kF l[j];have htp:=yX l[j].term;simp only [Kl];rw [zK hj,zB,zg hj];simp only [zP];rw [zof (by omega) hj,zP];refine zx.then (ze0 N hN f l[j] _) fun b hb=>?_
   refine zx.cond (fun _=>zx.ret (by simp)) fun w5=>?_
   simp only [Bl] at w5;have AV:=hb w5;have fin:zn9 l[j]->zx ((f156 N f.1 (l[j].5.1,(l[j].5.2,(l[j].5.3,()))) false).bind fun zl=>
     cond (!(decide (zl=0))) (some zl) ((Lk N M f l[j].6 false).bind fun j8=>
      cond (!(decide (j8=0))) (some j8) ((Lk N M f l[j].7 false).bind fun vo=>
       cond (!(decide (vo=0))) (some vo) (w (zz ((j:Int)+1)))))) fun c=>c=0->Qs f top l:=by
    intro AW;refine zx.then (RL N hN f.1 hr false l[j].term (by omega)) fun c1 hc1=>?_
    refine zx.cond (fun je=>zx.ret fun e=>by subst e;simp at je) fun e1=>?_
    refine zx.then (B5 N hN f hr M l[j].j4 false (by omega) (by omega)) fun c2 GQ=>?_
    refine zx.cond (fun je=>zx.ret fun e=>by subst e;simp at je) fun e2=>?_
    refine zx.then (B5 N hN f hr M l[j].uQ false (by omega) (by omega)) fun c3 hc3=>?_
    refine zx.cond (fun je=>zx.ret fun e=>by subst e;simp at je) fun e3=>?_
    simp only [Bl,yR] at e1 e2 e3;rw [zu (by omega)];refine hw fun i h hi=>?_
    by_cases e:i=j
    ·subst e;exact (xm ..).2 ⟨⟨AV,AW,hc1 e1⟩,GQ e2,hc3 e3⟩
    ·exact hinv i h (by omega)
   have bnd:∀ (K:Bool->Option Int),zx (K true) (fun c=>c=0->Qs f top l)->((∀ h:0 < l[j].bounds.length,l[j].bounds[l[j].bounds.length-1]<=(67108864:Int))->zx (K false) fun c=>c=0->Qs f top l)->
     zx ((cond (decide (0 < (len l[j].8))) ((idx l[j].8 (zz ((len l[j].8)-1))).bind fun yD=>some (decide (67108864 < yD))) (some false)).bind K) fun c=>c=0->Qs f top l:=by
    intro K k1 k2;by_cases h0:0 < l[j].bounds.length
    ·by_cases hb:l[j].bounds.length < 9223372036854775807
     ·rw [show decide (0 < len l[j].8)=true from jY (by simp only [len];omega),zB,show len l[j].8=(l[j].bounds.length:Int) from rfl,ua h0 (by omega),zg (show l[j].bounds.length-1 < l[j].bounds.length by omega)];simp only [zP];by_cases hc:l[j].bounds[l[j].bounds.length-1]<=(67108864:Int)
      ·rw [qO (by omega)];exact k2 fun _=>hc
      ·rw [jY (by omega)];exact k1
     ·omega
    ·rw [show decide (0 < len l[j].8)=false from qO (by simp only [len];omega),zU,zP];exact k2 fun h=>absurd h h0
   simp only [Z7,wR,gid,zP];refine zx.cond (fun h2=>?_) fun h2=>?_
   ·have h2':=BI h2;refine zx.cond (fun _=>zx.ret (by simp)) fun hc=>?_
    simp only [JY,Rr,u7] at hc;refine bnd (fun b=>cond b (some 3) _) (zx.ret (by simp)) fun hb=>fin ⟨by omega,by omega,fun c=>absurd h2' c,by omega,fun c=>by omega,hb⟩
   ·have h2':=Rs h2;refine zx.cond (fun _=>zx.ret (by simp)) fun hc=>?_
    simp only [JY,Rr,u7] at hc;refine bnd (fun b=>cond b (some 3) _) (zx.ret (by simp)) fun hb=>fin ⟨by omega,by omega,fun _=>by omega,by omega,fun c=>by omega,hb⟩
  ·intro w hinv;simp only [Kl];rw [zV,zU];exact zx.ret fun _=>Ev fun i h=>hinv i h h
theorem zdy (N:Nat) (s:Sp) (f:zh) (last:Bool) (hs:H3 f last s) (h:zn9 s):f247 N (Mz s)=some true:=by
 obtain ⟨a1,a2,a3,a4,a5,a6⟩:=h;unfold f247;have e6:(cond (!decide (s.act=6)) (some true) ((idx s.bounds (zz (len s.bounds-1))).bind fun x=>some (decide (x<=67108864))))=some true:=by
  by_cases h6:s.act=6
  ·have hb:=(hs.set h6).2;have h1:=hb.one;have h2:=hb.zbz;rw [jY h6,show (!true)=false from rfl,zU,show len s.bounds=(s.bounds.length:Int) from rfl,ua (by omega) (by omega),zg (show s.bounds.length-1 < s.bounds.length by omega)];rw [zP,jY (a6 (by omega))]
  ·rw [qO h6];rfl
 simp only [Z7,wR,gid,zP];have en:(decide (s.act=4) && (decide (s.n < 0) || decide (4096 < s.n)))=false:=by
  by_cases h4:s.act=4
  ·have:=a5 h4;simp only [Rr,JY,u7];right;omega
  ·rw [qO h4];rfl
 rw [en];by_cases h2:s.act=2
 ·rw [jY h2,zB];rw [show (decide (s.cost < 0) || decide (67108864 < s.cost))=false by simp only [JY,u7];omega];exact e6
 ·have:=a3 h2;rw [qO h2,zU];rw [show (decide (s.cost < 0) || decide (10000 < s.cost))=false by simp only [JY,u7];omega];exact e6
theorem B2 (N:Nat) (hN:200<=N) (f:zh) (hr:∀ v∈f.1,pG v):∀ (M:Nat) (l:List Sp) (top:Bool),yS l < M->yS l<=100->Qs f top l->z6k N M f l top=some 0
 | 0,l,_,h,_,_=>by omega
 | M+1,l,top,h,ht,hs=>by
  show RD N (z6k N M) f l top=_;have VG:=wx l;unfold RD;refine zx.eq ?_;refine zx.Bn (fun _=>True) l.length ?_ ?_ N 0 (jt _) (by omega) trivial
  ·intro j w hj _ hw;have hm:=wb (ku hj);have he:=kF l[j];have htp:=yX l[j].term;obtain ⟨⟨q1,q2,q3⟩,q4,q5⟩:=(xm ..).1 (xC hs j hj);simp only [Ke];rw [show decide ((j:Int) < len l)=true from zK hj,zB,zg hj];simp only [zP];rw [zof (by omega) hj,zP];rw [show f246 N f (l[j].1,(l[j].2,(l[j].3,(l[j].4,((l[j].5.1,(l[j].5.2,(l[j].5.3,()))),(l[j].6,(l[j].7,(l[j].8,())))))))) _=some true from zdz N hN f l[j] _ q1];rw [show f247 N (l[j].1,(l[j].2,(l[j].3,(l[j].4,((l[j].5.1,(l[j].5.2,(l[j].5.3,()))),(l[j].6,(l[j].7,(l[j].8,()))))))))=some true from zdy N l[j] f _ q1 q2];rw [show f245 N f.1 (l[j].5.1,(l[j].5.2,(l[j].5.3,()))) false=some 0 from Rv N hN f.1 hr false l[j].term (by omega) q3];simp only [zP,xU,zU,Vz];refine zx.Bn (fun _=>True) 2 ?_ ?_ N 0 (jt _) (by omega) trivial
   ·intro k w' hk _ GZ;simp only [Jf];have Bi:k=0\/k=1:=by omega
    rcases Bi with rfl | rfl
    ·rw [show decide (((0:Nat):Int) < (((Nat.succ 1):Nat):Int))=true from rfl,zB];refine zx.qW rfl ?_;rw [show idx (l[j].6 :: (l[j].7 :: ([]:List (List Sp)))) ((0:Nat):Int)=some l[j].j4 from rfl,zP,B2 N hN f hr M l[j].j4 false (by omega) (by omega) q4];exact GZ trivial
    ·rw [show decide (((1:Nat):Int) < (((Nat.succ 1):Nat):Int))=true from rfl,zB];refine zx.qW rfl ?_;rw [show idx (l[j].6 :: (l[j].7 :: ([]:List (List Sp)))) ((1:Nat):Int)=some l[j].uQ from rfl,zP,B2 N hN f hr M l[j].uQ false (by omega) (by omega) q5];exact GZ trivial
   ·intro w' _;simp only [Jf];rw [show decide (((2:Nat):Int) < (((Nat.succ 1):Nat):Int))=false from rfl,zU,zu (by omega)];exact hw trivial
  ·intro w _;simp only [Ke];rw [show decide (((l.length:Nat):Int) < len l)=false from zV _,zU];exact zx.ret rfl
end Go.Kz
namespace Go.Kz
mutual
def O3:Sp->Int×(Int×Int)
 | ⟨a,c,_,n,_,x,y,_⟩=>
  if a=1 then (1,1,c)
  else if a=3 then (1+max (qK x).1 (qK y).1,max (qK x).2.1 (qK y).2.1,c+max (qK x).2.2 (qK y).2.2)
  else if a=4 then (1+n*(1+(qK x).1),n*(0+(qK x).2.1),n*(c+(qK x).2.2))
  else (1,0,c)
def qK:List Sp->Int×(Int×Int)
 | []=>(0,0,0)
 | s :: l=>((O3 s).1+(qK l).1,(O3 s).2.1+(qK l).2.1,(O3 s).2.2+(qK l).2.2)
end
theorem GV (s:Sp):O3 s=if s.act=1 then (1,1,s.cost)
  else if s.act=3 then (1+max (qK s.j4).1 (qK s.uQ).1,max (qK s.j4).2.1 (qK s.uQ).2.1,s.cost+max (qK s.j4).2.2 (qK s.uQ).2.2)
  else if s.act=4 then (1+s.n*(1+(qK s.j4).1),s.n*(0+(qK s.j4).2.1),s.n*(s.cost+(qK s.j4).2.2))
  else (1,0,s.cost):=by cases s;simp only [O3]
theorem WL (l:List Sp) (s:Sp):qK (l++[s])=((qK l).1+(O3 s).1,(qK l).2.1+(O3 s).2.1,(qK l).2.2+(O3 s).2.2):=by
 induction l with
 | nil=>simp [qK]
 | cons x l ih=>simp only [xA,qK,ih,gP];omega
def Nn (x:Int×(Int×Int)):Prop:=0<=x.1/\0<=x.2.1/\0<=x.2.2
theorem p7 (f:zh):∀ (M:Nat) (l:List Sp) (top:Bool),yS l < M->Qs f top l->Nn (qK l)
 | 0,l,_,h,_=>by omega
 | M+1,[],_,_,_=>by simp [qK,Nn]
 | M+1,s :: l,top,h,hs=>by
  simp only [yS] at h;have he:=kF s;have hp:=yX s.term;simp only [Qs] at hs;obtain ⟨⟨q1,q2,q3⟩,q4,q5⟩:=(xm ..).1 hs.1;obtain ⟨a1,a2,a3⟩:=p7 f M s.j4 false (by omega) q4;obtain ⟨b1,b2,b3⟩:=p7 f M s.uQ false (by omega) q5;obtain ⟨c1,c2,c3⟩:=p7 f M l top (by omega) hs.2;have d1:=q2.z6w;have d2:=q2.n0;have m1:0<=s.n*(1+(qK s.j4).1):=Te d2 (by omega);have m2:0<=s.n*(0+(qK s.j4).2.1):=Te d2 (by omega);have m3:0<=s.n*(s.cost+(qK s.j4).2.2):=Te d2 (by omega);simp only [qK,Nn];rw [GV];split
  ·simp only;omega
  split
  ·simp only;omega
  split
  ·simp only;omega
  ·simp only;omega
theorem Xv (f:zh) (last:Bool) (s:Sp) (h:stP f last s):Nn (O3 s):=by
 have:=p7 f (yS [s]+1) [s] last (by omega) (by simp only [Qs,Z5g,Z2f];exact ⟨h,trivial⟩);simp only [qK,Nn] at this ⊢;omega
theorem Ji {n c p k:Int} (hn:0<=n) (hc:0<=c) (hp:0<=p) (hk:0<=k):min (n*(c+min p k)) k=min (n*(c+p)) k:=by
 by_cases h:p<=k
 ·rw [show min p k=p by omega]
 ·rw [show min p k=k by omega];by_cases h0:n=0
  ·subst h0;simp
  ·have e1:c+k<=n*(c+k):=by
    have:=Z3s (show (1:Int)<=n by omega) (show 0<=c+k by omega);omega
   have e2:c+p<=n*(c+p):=by
    have:=Z3s (show (1:Int)<=n by omega) (show 0<=c+p by omega);omega
   omega
theorem ue {n x B:Int} (h0:0<=n) (h1:n<=4096) (hx:0<=x) (hB:x<=B):0<=n*x/\n*x<=4096*B:=by
 refine ⟨Te h0 hx,?_⟩;exact Z3k h1 hB hx (by omega)
theorem UU (N:Nat) (hN:200<=N) (f:zh):∀ (M:Nat) (l:List Sp) (top:Bool),yS l < M->yS l<=100->Qs f top l->zlz N M l=some (min (qK l).1 4097,(min (qK l).2.1 9,min (qK l).2.2 67108865))
 | 0,l,_,h,_,_=>by omega
 | M+1,l,top,h,ht,hs=>by
  show zda N (zlz N M) l=_;have VG:=wx l;unfold zda;refine zx.eq ?_;refine zx.up (fun j s=>s=(min (qK (l.take j)).2.2 67108865,(min (qK (l.take j)).2.1 9,min (qK (l.take j)).1 4097))/\Nn (qK (l.take j))) l.length ?_ ?_ N 0 (jt _) (by omega) _ ⟨by simp only [Ti,qK,gP,U6];omega,by simp [qK,Nn]⟩
  ·rintro j s w hj ⟨rfl,n1,n2,n3⟩ hw;have hm:=wb (ku hj);have he:=kF l[j];have htp:=yX l[j].term;have zy:=xC hs j hj;have Qe:=Xv f _ _ zy;obtain ⟨⟨q1,q2,q3⟩,q4,q5⟩:=(xm ..).1 zy;obtain ⟨a1,a2,a3⟩:=p7 f _ l[j].j4 false (Bm _) q4;obtain ⟨b1,b2,b3⟩:=p7 f _ l[j].uQ false (Bm _) q5;have d1:=q2.z6w;have d2:=q2.n0;have d3:=q2.cost;have WA:=WL (l.take j) l[j];rw [<-qy hj] at WA;simp only [UX];rw [zK hj,zB,zg hj];simp only [zP];rw [UU N hN f M l[j].j4 false (by omega) (by omega) q4,UU N hN f M l[j].uQ false (by omega) (by omega) q5];simp only [zP,QZ,Jh];have hnn:Nn (qK (l.take (j+1))):=by
    obtain ⟨u1,u2,u3⟩:=Qe;rw [WA];simp only [Nn];omega
   have step:∀ t o n:Int,t=min (qK (l.take (j+1))).2.2 67108865->o=min (qK (l.take (j+1))).2.1 9->n=min (qK (l.take (j+1))).1 4097->zx (w (zz ((j:Int)+1),(t,(o,n)))) fun y=>y=(min (qK l).1 4097,(min (qK l).2.1 9,min (qK l).2.2 67108865)):=by
    intro t o n e1 e2 e3;rw [zu (by omega)];exact hw _ ⟨by rw [e1,e2,e3],hnn⟩
   rw [WA] at step;simp only at step;rw [GV] at step;by_cases h4:l[j].act=4
   ·have d4:=q2.n h4;rw [jY h4,zB,qO (show ¬ l[j].act=1 by omega),zU];rw [qZ (show ¬ l[j].act=1 by omega),qZ (show ¬ l[j].act=3 by omega),yQ h4] at step;obtain ⟨m1,m2⟩:=ue (x:=1+min (qK l[j].j4).1 4097) (B:=4098) d2 d4 (by omega) (by omega);obtain ⟨m3,m4⟩:=ue (x:=min (qK l[j].j4).2.1 9) (B:=9) d2 d4 (by omega) (by omega);obtain ⟨m5,m6⟩:=ue (x:=l[j].cost+min (qK l[j].j4).2.2 67108865) (B:=134217729) d2 d4 (by omega) (by omega);rw [zw (n:=1+min (qK l[j].j4).1 4097) (by omega) (by omega),zw (n:=l[j].n*(1+min (qK l[j].j4).1 4097)) (by omega) (by omega),zw (n:=1+l[j].n*(1+min (qK l[j].j4).1 4097)) (by omega) (by omega),zw (n:=min (qK (l.take j)).1 4097+(1+l[j].n*(1+min (qK l[j].j4).1 4097))) (by omega) (by omega)];rw [zw (n:=l[j].n*min (qK l[j].j4).2.1 9) (by omega) (by omega),zw (n:=min (qK (l.take j)).2.1 9+l[j].n*min (qK l[j].j4).2.1 9) (by omega) (by omega)];rw [zw (n:=l[j].cost+min (qK l[j].j4).2.2 67108865) (by omega) (by omega),zw (n:=l[j].n*(l[j].cost+min (qK l[j].j4).2.2 67108865)) (by omega) (by omega),zw (n:=min (qK (l.take j)).2.2 67108865+l[j].n*(l[j].cost+min (qK l[j].j4).2.2 67108865)) (by omega) (by omega)];have c1:=Ji (n:=l[j].n) (c:=1) (p:=(qK l[j].j4).1) (k:=4097) d2 (by omega) a1 (by omega);have c2:=Ji (n:=l[j].n) (c:=0) (p:=(qK l[j].j4).2.1) (k:=9) d2 (by omega) a2 (by omega);have c3:=Ji (n:=l[j].n) (c:=l[j].cost) (p:=(qK l[j].j4).2.2) (k:=67108865) d2 d1 a3 (by omega);rw [show (0:Int)+min (qK l[j].j4).2.1 9=min (qK l[j].j4).2.1 9 by omega] at c2;have g1:0<=l[j].n*(1+(qK l[j].j4).1):=Te d2 (by omega);have g2:0<=l[j].n*(0+(qK l[j].j4).2.1):=Te d2 (by omega);have g3:0<=l[j].n*(l[j].cost+(qK l[j].j4).2.2):=Te d2 (by omega);refine step _ _ _ ?_ ?_ ?_ <;> simp only <;> omega
   ·rw [qO h4,zU];by_cases h1:l[j].act=1
    ·have z1:=q1.j4 (by omega) (by omega);have z2:=q1.uQ (by omega);rw [jY h1,zB];rw [yQ h1] at step;rw [z1,z2];simp only [qK];rw [zw (n:=1+max (min 0 4097) (min 0 4097)) (by omega) (by omega),zw (n:=min (qK (l.take j)).1 4097+(1+max (min 0 4097) (min 0 4097))) (by omega) (by omega),zw (n:=min (qK (l.take j)).2.1 9+1) (by omega) (by omega),zw (n:=l[j].cost+max (min 0 67108865) (min 0 67108865)) (by omega) (by omega),zw (n:=min (qK (l.take j)).2.2 67108865+(l[j].cost+max (min 0 67108865) (min 0 67108865))) (by omega) (by omega)];refine step _ _ _ ?_ ?_ ?_ <;> simp only <;> omega
    ·rw [qO h1,zU];rw [zw (n:=1+max (min (qK l[j].j4).1 4097) (min (qK l[j].uQ).1 4097)) (by omega) (by omega),zw (n:=min (qK (l.take j)).1 4097+(1+max (min (qK l[j].j4).1 4097) (min (qK l[j].uQ).1 4097))) (by omega) (by omega),zw (n:=min (qK (l.take j)).2.1 9+max (min (qK l[j].j4).2.1 9) (min (qK l[j].uQ).2.1 9)) (by omega) (by omega),zw (n:=l[j].cost+max (min (qK l[j].j4).2.2 67108865) (min (qK l[j].uQ).2.2 67108865)) (by omega) (by omega),zw (n:=min (qK (l.take j)).2.2 67108865+(l[j].cost+max (min (qK l[j].j4).2.2 67108865) (min (qK l[j].uQ).2.2 67108865))) (by omega) (by omega)];rw [qZ h1] at step;by_cases h3:l[j].act=3
     ·rw [yQ h3] at step;refine step _ _ _ ?_ ?_ ?_ <;> simp only <;> omega
     ·have z1:=q1.j4 h3 h4;have z2:=q1.uQ h3;rw [qZ h3,qZ h4] at step;rw [z1,z2];simp only [qK];refine step _ _ _ ?_ ?_ ?_ <;> simp only <;> omega
  ·rintro s w ⟨rfl,_⟩;simp only [UX];rw [show decide (((l.length:Nat):Int) < len l)=false from zV _,zU,Qi];exact zx.ret rfl
@[reducible] def much:Int:=1099511627776
theorem B0 (N:Nat) (hN:200<=N) (f:zh):∀ (M:Nat) (l:List Sp) (top:Bool),yS l < M->yS l<=100->Qs f top l->z6i N M l=some (min (qK l).1 1099511627776,(min (qK l).2.1 1099511627776,(min (qK l).2.2 1099511627776,())))
 | 0,l,_,h,_,_=>by omega
 | M+1,l,top,h,ht,hs=>by
  show z6j N (z6i N M) l=_;have VG:=wx l;unfold z6j FX;refine zx.eq ?_;refine zx.up (fun j s=>s=(min (qK (l.take j)).1 1099511627776,(min (qK (l.take j)).2.1 1099511627776,(min (qK (l.take j)).2.2 1099511627776,())))/\Nn (qK (l.take j))) l.length ?_ ?_ N 0 (jt _) (by omega) _ ⟨by simp only [Ti,qK,gP,U6];omega,by simp [qK,Nn]⟩
  ·rintro j s w hj ⟨rfl,n1,n2,n3⟩ hw;have hm:=wb (ku hj);have he:=kF l[j];have htp:=yX l[j].term;have zy:=xC hs j hj;have Qe:=Xv f _ _ zy;obtain ⟨⟨q1,q2,q3⟩,q4,q5⟩:=(xm ..).1 zy;obtain ⟨a1,a2,a3⟩:=p7 f _ l[j].j4 false (Bm _) q4;obtain ⟨b1,b2,b3⟩:=p7 f _ l[j].uQ false (Bm _) q5;have d1:=q2.z6w;have d2:=q2.n0;have d3:=q2.cost;have WA:=WL (l.take j) l[j];rw [<-qy hj] at WA;simp only [Kd,ET];rw [show decide ((j:Int) < len l)=true from zK hj,zB,zg hj];simp only [zP];rw [B0 N hN f M l[j].j4 false (by omega) (by omega) q4,B0 N hN f M l[j].uQ false (by omega) (by omega) q5];simp only [zP,JR,Qz];have hnn:Nn (qK (l.take (j+1))):=by
    obtain ⟨u1,u2,u3⟩:=Qe;rw [WA];simp only [Nn];omega
   have step:∀ n o t:Int,n=min (qK (l.take (j+1))).1 1099511627776->o=min (qK (l.take (j+1))).2.1 1099511627776->t=min (qK (l.take (j+1))).2.2 1099511627776->zx (w (zz ((j:Int)+1),(n,(o,(t,()))))) fun y=>y=(min (qK l).1 1099511627776,(min (qK l).2.1 1099511627776,(min (qK l).2.2 1099511627776,()))):=by
    intro t o n e1 e2 e3;rw [zu (by omega)];exact hw _ ⟨by rw [e1,e2,e3],hnn⟩
   rw [WA] at step;simp only at step;rw [GV] at step;by_cases h1:l[j].act=1
   ·rw [jY h1,zB];rw [yQ h1] at step;rw [zw (n:=min (qK (l.take j)).1 1099511627776+1) (by omega) (by omega),zw (n:=min (qK (l.take j)).2.1 1099511627776+1) (by omega) (by omega),zw (n:=min (qK (l.take j)).2.2 1099511627776+l[j].cost) (by omega) (by omega)];refine step _ _ _ ?_ ?_ ?_ <;> simp only <;> omega
   rw [qO h1,zU];rw [qZ h1] at step;by_cases h3:l[j].act=3
   ·rw [jY h3,zB];rw [yQ h3] at step;rw [zw (n:=1+max (min (qK l[j].j4).1 1099511627776) (min (qK l[j].uQ).1 1099511627776)) (by omega) (by omega),zw (n:=min (qK (l.take j)).1 1099511627776+(1+max (min (qK l[j].j4).1 1099511627776) (min (qK l[j].uQ).1 1099511627776))) (by omega) (by omega),zw (n:=min (qK (l.take j)).2.1 1099511627776+max (min (qK l[j].j4).2.1 1099511627776) (min (qK l[j].uQ).2.1 1099511627776)) (by omega) (by omega),zw (n:=l[j].cost+max (min (qK l[j].j4).2.2 1099511627776) (min (qK l[j].uQ).2.2 1099511627776)) (by omega) (by omega),zw (n:=min (qK (l.take j)).2.2 1099511627776+(l[j].cost+max (min (qK l[j].j4).2.2 1099511627776) (min (qK l[j].uQ).2.2 1099511627776))) (by omega) (by omega)];refine step _ _ _ ?_ ?_ ?_ <;> simp only <;> omega
   rw [qO h3,zU];rw [qZ h3] at step;by_cases h4:l[j].act=4
   ·have d4:=q2.n h4;rw [jY h4,zB];rw [yQ h4] at step;obtain ⟨m1,m2⟩:=ue (x:=1+min (qK l[j].j4).1 1099511627776) (B:=1099511627777) d2 d4 (by omega) (by omega);obtain ⟨m3,m4⟩:=ue (x:=min (qK l[j].j4).2.1 1099511627776) (B:=1099511627776) d2 d4 (by omega) (by omega);obtain ⟨m5,m6⟩:=ue (x:=l[j].cost+min (qK l[j].j4).2.2 1099511627776) (B:=1099578736640) d2 d4 (by omega) (by omega);rw [zw (n:=1+min (qK l[j].j4).1 1099511627776) (by omega) (by omega),zw (n:=l[j].n*(1+min (qK l[j].j4).1 1099511627776)) (by omega) (by omega),zw (n:=1+l[j].n*(1+min (qK l[j].j4).1 1099511627776)) (by omega) (by omega),zw (n:=min (qK (l.take j)).1 1099511627776+(1+l[j].n*(1+min (qK l[j].j4).1 1099511627776))) (by omega) (by omega)];rw [zw (n:=l[j].n*min (qK l[j].j4).2.1 1099511627776) (by omega) (by omega),zw (n:=min (qK (l.take j)).2.1 1099511627776+l[j].n*min (qK l[j].j4).2.1 1099511627776) (by omega) (by omega)];rw [zw (n:=l[j].cost+min (qK l[j].j4).2.2 1099511627776) (by omega) (by omega),zw (n:=l[j].n*(l[j].cost+min (qK l[j].j4).2.2 1099511627776)) (by omega) (by omega),zw (n:=min (qK (l.take j)).2.2 1099511627776+l[j].n*(l[j].cost+min (qK l[j].j4).2.2 1099511627776)) (by omega) (by omega)];have c1:=Ji (n:=l[j].n) (c:=1) (p:=(qK l[j].j4).1) (k:=1099511627776) d2 (by omega) a1 (by omega);have c2:=Ji (n:=l[j].n) (c:=0) (p:=(qK l[j].j4).2.1) (k:=1099511627776) d2 (by omega) a2 (by omega);have c3:=Ji (n:=l[j].n) (c:=l[j].cost) (p:=(qK l[j].j4).2.2) (k:=1099511627776) d2 d1 a3 (by omega);rw [show (0:Int)+min (qK l[j].j4).2.1 1099511627776=min (qK l[j].j4).2.1 1099511627776 by omega] at c2;have g1:0<=l[j].n*(1+(qK l[j].j4).1):=Te d2 (by omega);have g2:0<=l[j].n*(0+(qK l[j].j4).2.1):=Te d2 (by omega);have g3:0<=l[j].n*(l[j].cost+(qK l[j].j4).2.2):=Te d2 (by omega);refine step _ _ _ ?_ ?_ ?_ <;> simp only <;> omega
   rw [qO h4,zU];rw [qZ h4] at step;rw [zw (n:=min (qK (l.take j)).1 1099511627776+1) (by omega) (by omega),zw (n:=min (qK (l.take j)).2.1 1099511627776+0) (by omega) (by omega),zw (n:=min (qK (l.take j)).2.2 1099511627776+l[j].cost) (by omega) (by omega)];refine step _ _ _ ?_ ?_ ?_ <;> simp only <;> omega
  ·rintro s w ⟨rfl,_⟩;simp only [Kd,ET];rw [show decide (((l.length:Nat):Int) < len l)=false from zV _,zU,Qi];exact zx.ret rfl
structure zu5 (f:zh) (i:Nat) (h:CW):Prop where
 name:VY h.1=true
 new:∀ j (hj:j < f.2.1.length),j < i->f.2.1[j].1≠h.1
 JA:ML h.2.1 h.2.2.1=true
 term:BR f.1 true (FN h.2.2.2.1)
structure WF (f:zh):Prop where
 deep:zhr f
 vars:u6 f.1
 Ie:∀ i (h:i < f.2.1.length),zu5 f i f.2.1[i]
 steps:Qs f true f.2.2.1
 ub1:(qK f.2.2.1).1<=4096
 ub2:(qK f.2.2.1).2.1<=8
 ub3:(qK f.2.2.1).2.2<=67108864
theorem zlv (N:Nat) (hN:200<=N) (f:zh) (hf:zfd f):zx (f66 N f) fun c=>c=0->WF f:=by
 obtain ⟨g1,g2,g3⟩:=id hf;unfold f66;refine zx.then (zef N hN f hf) fun b hb=>?_
 refine zx.cond (fun _=>zx.ret (by simp)) fun w5=>?_
 simp only [Bl] at w5;have hd:=hb w5;refine zx.then (zee N hN f.1 g1) fun c hc=>?_
 refine zx.cond (fun je=>zx.ret fun e=>by subst e;simp at je) fun he=>?_
 simp only [Bl,yR] at he;have hv:=hc he;refine zx.Bn (fun j=>∀ i (h:i < f.2.1.length),i < j->zu5 f i f.2.1[i]) f.2.1.length ?_ ?_ N 0 (jt _) (by omega) (fun i h hi=>by omega)
 ·intro k w hk hinv hw;have hz:qC f.2.1[k]<=xj f.2.1:=xy (ku hk);simp only [qC] at hz;simp only [Fj];rw [show decide ((k:Int) < len f.2.1)=true from zK hk,zB,zg hk];simp only [zP];rw [RN N hN];simp only [zP];refine zx.cond (fun _=>zx.ret (by simp)) fun Zl=>?_
  refine zx.Bn (fun j=>∀ i (h:i < f.2.1.length),i < j->f.2.1[i].1≠f.2.1[k].1) k ?_ ?_ N 0 (jt _) (by omega) (fun i h hi=>by omega)
  ·intro j w' hj AU GZ;simp only [UP];have:decide ((j:Int) < (k:Int))=true:=by simpa using hj
   rw [this,zB,zg (show j < f.2.1.length by omega)];simp only [zP];refine zx.cond (fun _=>zx.ret (by simp)) fun je=>?_
   rw [zu (by omega)];refine GZ fun i h hi=>?_
   by_cases e:i=j
   ·subst e;exact Rs je
   ·exact AU i h (by omega)
  ·intro w' AU;simp only [UP];rw [zt1 k,zU];simp only [zP,RM];refine zx.cond (fun _=>zx.ret (by simp)) fun hr=>?_
   refine zx.then (RL N hN f.1 hv.JA true (FN f.2.1[k].2.2.2.1) (by omega)) fun c1 hc1=>?_
   refine zx.cond (fun je=>zx.ret fun e=>by subst e;simp at je) fun he1=>?_
   simp only [Bl,yR] at he1 Zl hr;rw [zu (by omega)];refine hw fun i h wT=>?_
   by_cases e:i=k
   ·subst e;exact ⟨Zl,fun j h hj=>AU j h hj,hr,hc1 he1⟩
   ·exact hinv i h (by omega)
 ·intro w hinv;simp only [Fj];rw [show decide (((f.2.1.length:Nat):Int) < len f.2.1)=false from zV _,zU];refine zx.then (B5 N hN f hv.JA N f.2.2.1 true (by omega) (by omega)) fun c2 GQ=>?_
  refine zx.cond (fun je=>zx.ret fun e=>by subst e;simp at je) fun he2=>?_
  simp only [Bl,yR] at he2;have hs:=GQ he2;rw [show f43 N f.2.2.1=_ from UU N hN f N f.2.2.1 true (by omega) (by omega) hs];simp only [zP,Z7];refine zx.cond (fun _=>zx.ret (by simp)) fun hb3=>zx.ret fun _=>?_
  simp only [JY,u7] at hb3;obtain ⟨n1,n2,n3⟩:=p7 f _ f.2.2.1 true (Bm _) hs;exact ⟨hd,hv,fun i h=>hinv i h h,hs,by omega,by omega,by omega⟩
theorem TL (N:Nat) (hN:200<=N) (vs:List CW) (hl:vs.length<=10) (x:CW) (h:∀ j (hj:j < vs.length),vs[j].1≠x.1):f296 N vs (x,())=some (-1):=by
 refine zx.eq ?_;unfold f296;refine zx.Bn (fun _=>True) vs.length ?_ ?_ N 0 (jt _) (by omega) trivial
 ·intro k w hk _ hw;simp only [UF];rw [show decide ((k:Int) < len vs)=true from zK hk,zB,zg hk];simp only [zP,f243];rw [qO (h k hk),zU,zu (by omega)];exact hw trivial
 ·intro w _;simp only [UF];rw [show decide (((vs.length:Nat):Int) < len vs)=false from zV _,zU];exact zx.ret rfl
theorem zec (N:Nat) (hN:200<=N) (f:zh) (h:WF f):f162 N f=some 0:=by
 obtain ⟨g1,g2,g3⟩:=h.deep.F6;refine zx.eq ?_;unfold f162;refine zx.Bn (fun _=>True) f.2.1.length ?_ ?_ N 0 (jt _) (by omega) trivial
 ·intro k w hk _ hw;have hz:qC f.2.1[k]<=xj f.2.1:=xy (ku hk);simp only [qC] at hz;obtain ⟨q1,q2,q3,q4⟩:=h.Ie k hk;simp only [Uc];rw [show decide ((k:Int) < len f.2.1)=true from zK hk,zB,zg hk];simp only [zP];rw [Rk N hN,zP,q1];rw [show (!true)=false from rfl,zU,zf (by simp only [zA,yR,len];omega),zos];unfold f244;rw [TL N hN (f.2.1.take k) (by rw [P9];omega) f.2.1[k] (fun j hj=>by
   have ZD:j < k:=by rw [P9] at hj;omega
   rw [Z2w];exact q2 j (by omega) ZD)]
  simp only [zP,Rw];rw [show decide ((0:Int)<=-1)=false from rfl,zU,q3];rw [show (!true)=false from rfl,zU];rw [show f245 N f.1 (f.2.1[k].2.2.2.1.1,f.2.1[k].2.2.2.1.2) true=some 0 from Rv N hN f.1 h.vars.JA true (FN f.2.1[k].2.2.2.1) (by omega) q4];simp only [zP,Vz,xU,zU];rw [zu (by omega)];exact hw trivial
 ·intro w _;simp only [Uc];rw [show decide (((f.2.1.length:Nat):Int) < len f.2.1)=false from zV _,zU];exact zx.ret rfl
theorem z5w (N:Nat) (hN:200<=N) (f:zh) (h:WF f):f69 N f=some 0:=by
 obtain ⟨g1,g2,g3⟩:=h.deep.F6;have h8:=h.deep.zsm;have hd:=h.deep.steps;refine zx.eq ?_;unfold f69;refine zx.then (B4 N hN N f.2.2.1 1 0 (by omega) (by omega) (by omega) (fun _=>by omega) h.deep.zoh (by omega) (by omega)) ?_;rintro _ ⟨n',rfl,c1,c2⟩;refine zx.up (fun j s=>∃ m:Int,s=Z1 m/\0<=m/\m<=yS f.2.2.1+xj (f.2.1.take j)) f.2.1.length ?_ ?_ N 0 (jt _) (by omega) _ ⟨n',rfl,by omega,by simp [xj];omega⟩
 ·rintro j s w hj ⟨m,rfl,d1,d2⟩ hw;have Ph:qC f.2.1[j]<=xj f.2.1:=xy (ku hj);simp only [qC] at Ph;have t1:=YT hj;have t2:=Ee f.2.1 (j+1);simp only [qC] at t1;have hdp:=h.deep.Ie _ (ku hj);simp only [F9];rw [show decide ((j:Int) < len f.2.1)=true from zK hj,zB,zg hj];simp only [zP];rw [Ue N m (by omega)];simp only [zP,Z2t,zB];rw [show f160 N (f.2.1[j].2.2.2.1.1,f.2.1[j].2.2.2.1.2) 1 (Z1 m)=_ from B3 N hN N (FN f.2.1[j].2.2.2.1) 1 m (by omega) (by omega) (by omega) (by omega) (by omega) (by omega)];simp only [zP];rw [zu (by omega)];exact hw _ ⟨_,rfl,by omega,by omega⟩
 ·rintro s w ⟨m,rfl,d1,d2⟩;rw [Qi] at d2;simp only [F9];rw [show decide (((f.2.1.length:Nat):Int) < len f.2.1)=false from zV _,zU];rw [Z7,zP,show (decide (64 < len f.1) || decide (8 < len f.2.1))=false by simp only [JY,u7,len];omega,zU];rw [Ue N m (by omega)];simp only [zP,zU];rw [zed N hN h.vars,zec N hN f h];simp only [zP,Vz,xU,zU];rw [show f163 N f f.2.2.1 true=_ from B2 N hN f h.vars.JA N f.2.2.1 true (by omega) (by omega) h.steps];simp only [zP,Vz,xU,zU];rw [show f164 N f.2.2.1=_ from B0 N hN f N f.2.2.1 true (by omega) (by omega) h.steps];simp only [zP,Z7];have:=h.ub1;have:=h.ub2;have:=h.ub3;obtain ⟨n1,n2,n3⟩:=p7 f _ f.2.2.1 true (Bm _) h.steps;rw [show ((decide (4096 < min (qK f.2.2.1).1 1099511627776) || decide (8 < min (qK f.2.2.1).2.1 1099511627776)) || decide (67108864 < min (qK f.2.2.1).2.2 1099511627776))=false by simp only [JY,u7];omega,zU];exact zx.ret rfl
end Go.Kz
namespace Go.Kz
def NF (op a b:Int):Int:=(f306 0 op a b).getD 0
theorem LQ (N:Nat) (a b:Int):∃ r,f341 N a b=some r/\f370 N a b=some r:=by
 unfold f341 f370;by_cases h:b=0
 ·rw [jY h];exact ⟨0,rfl,rfl⟩
 ·rw [qO h];simp only [zU,wR,zP];cases (!decide (Int.tmod a b=0) && !decide (decide (a < 0)=decide (b < 0))) <;> exact ⟨_,rfl,rfl⟩
theorem z3c (N:Nat) (a b:Int):∃ r,f342 N a b=some r/\f371 N a b=some r:=by
 obtain ⟨r,h1,h2⟩:=LQ N a b;unfold f342 f371;rw [h1,h2];cases decide (b=0) <;> exact ⟨_,rfl,rfl⟩
theorem LP (N:Nat) (op a b:Int):∃ r,f306 N op a b=some r/\f358 N op a b=some r:=by
 obtain ⟨q,h1,h2⟩:=LQ N a b;obtain ⟨m,h3,h4⟩:=z3c N a b;have fl:∀ c:Bool,f305 N c=some (cond c 1 0)/\f278 N c=some (cond c 1 0):=fun c=>by cases c <;> exact ⟨rfl,rfl⟩
 unfold f306 f358;rw [h1,h2,h3,h4];simp only [Z7,wR,zP,(fl _).1,(fl _).2,Jh,QZ,JR,Qz];cases decide (op=8)
 ·cases decide (op=9)
  ·cases decide (op=10)
   ·cases decide (op=11)
    ·cases decide (op=12)
     ·cases decide (op=13)
      ·cases decide (op=14)
       ·cases decide (op=15)
        ·cases decide (op=16)
         ·cases decide (op=17)
          ·cases decide (op=18)
           ·cases decide (op=19)
            ·cases decide (op=20)
             ·cases decide (op=21) <;> exact ⟨_,rfl,rfl⟩
             ·exact ⟨_,rfl,rfl⟩
            ·exact ⟨_,rfl,rfl⟩
           ·exact ⟨_,rfl,rfl⟩
          ·exact ⟨_,rfl,rfl⟩
         ·exact ⟨_,rfl,rfl⟩
        ·exact ⟨_,rfl,rfl⟩
       ·exact ⟨_,rfl,rfl⟩
      ·exact ⟨_,rfl,rfl⟩
     ·exact ⟨_,rfl,rfl⟩
    ·exact ⟨_,rfl,rfl⟩
   ·exact ⟨_,rfl,rfl⟩
  ·exact ⟨_,rfl,rfl⟩
 ·exact ⟨_,rfl,rfl⟩
theorem zdh (N:Nat) (op a b:Int):f306 N op a b=some (NF op a b):=by
 obtain ⟨r,h1,_⟩:=LP N op a b;have:f306 0 op a b=f306 N op a b:=rfl;rw [h1,NF,this,h1];rfl
theorem zdc (N:Nat) (op a b:Int):f358 N op a b=some (NF op a b):=by
 obtain ⟨r,h1,h2⟩:=LP N op a b;have:f306 0 op a b=f306 N op a b:=rfl;rw [h2,NF,this,h1];rfl
def wN (n low high:Int):Int:=if n < low then low else if high < n then high else n
theorem Fp (N:Nat) (n low high:Int):f331 N n low high=some (wN n low high):=by
 unfold f331 wN;by_cases h1:n < low
 ·rw [jY h1,yQ h1];rfl
 ·rw [qO h1,qZ h1,zU];by_cases h2:high < n
  ·rw [jY h2,yQ h2];rfl
  ·rw [qO h2,qZ h2];rfl
theorem FY (N:Nat) (n low high:Int) (h:low<=high):f248 N n low high=some (wN n low high):=by
 unfold f248 wN;rw [JR,Qz];congr 1;split
 ·omega
 split <;> omega
def Iz (vals:List Int) (op n:Int) (l:List Int):Int:=
 if op=0 then n
 else if op=24 then vals.getD n.toNat 0
 else if op=6 then zz (0-l.getD 0 0)
 else if op=7 then (if l.getD 0 0=0 then 1 else 0)
 else if op=23 then (if l.getD 0 0=0 then l.getD 2 0 else l.getD 1 0)
 else if op=25 then l.getD (1+(wN (l.getD 0 0) 0 (l.length-2)).toNat) 0
 else NF op (l.getD 0 0) (l.getD 1 0)
mutual
def vC (vals:List Int):Tm->Int
 | ⟨op,n,ks⟩=>Iz vals op n (zaq vals ks)
def zaq (vals:List Int):List Tm->List Int
 | []=>[]
 | k :: ks=>vC vals k :: zaq vals ks
end
theorem HQ (vals:List Int):∀ l:List Tm,zaq vals l=l.map (vC vals)
 | []=>rfl
 | k :: ks=>by simp only [zaq,WY,HQ vals ks]
theorem O2 (vals:List Int) (t:Tm):vC vals t=Iz vals t.op t.n (t.kids.map (vC vals)):=by
 cases t;simp only [vC,HQ]
theorem getD_map {vals:List Int} {l:List Tm} {k:Nat} (h:k < l.length):(l.map (vC vals)).getD k 0=vC vals l[k]:=by
 rw [VF,Z3e,wP h];rfl
theorem Head.bin {vs:List qY} {op n:Int} {I:Type} {l:List I} (h:Head vs op n l.length) (h0:¬ op=0) (xT:¬ op=24) (h6:¬ op=6) (h7:¬ op=7) (AB:¬ op=23) (AA:¬ op=25):2<=l.length:=by
 have:=h.ar;simp only [wH] at this;by_cases hm:8<=op/\op<=22
 ·obtain ⟨p,q,rfl⟩:=h.two hm;simp
 ·rw [qZ (by omega),qZ (by omega),qZ hm,qZ AB,qZ AA] at this;simp [NO] at this
theorem HZ (N:Nat) (hN:200<=N) (vs:List qY) (vl:Bool) (vals:List Int) (hv:vals.length=vs.length):∀ (M:Nat) (t:Tm),Zv t<=M->Zv t<=100->AL vs vl t=true->ZR N M vals (gD t)=some (vC vals t)/\R2 N M vals (gD t)=some (vC vals t)
 | 0,t,h,_,_=>by have:=yX t;omega
 | M+1,t,h,ht,hf=>by
  have qC:=uq t;have VG:=kO t.kids;rw [AI,zA,BH] at hf;obtain ⟨hhd,hkf⟩:=hf;have hh:=W8 hhd;have kid:∀ k (hk:k < t.kids.length),ZR N M vals (t.kids[k].1,(t.kids[k].2,(t.kids[k].3,())))=some (vC vals t.kids[k])/\R2 N M vals (t.kids[k].1,(t.kids[k].2,(t.kids[k].3,())))=some (vC vals t.kids[k]):=fun k hk=>by
   have hm:=wa (ku hk);exact HZ N hN vs vl vals hv M t.kids[k] (by omega) (by omega) (hkf _ (ku hk))
  have EM:∀ k (hk:k < t.kids.length),f304 N (ZR N M) (k:Int) vals (gD t)=some (vC vals t.kids[k]):=fun k hk=>by
   unfold f304;rw [show idx (gD t).2.2.1 (k:Int)=some t.kids[k] from zg hk,zP,(kid k hk).1];rfl
  have ix:∀ k (hk:k < t.kids.length),idx (gD t).2.2.1 (k:Int)=some t.kids[k]:=fun k hk=>zg hk
  rw [O2];constructor
  ·show Rj N (ZR N M) vals (gD t)=_;unfold Rj Iz;by_cases h0:t.op=0
   ·rw [jY h0,zB,yQ h0]
   rw [qO h0,zU,qZ h0];by_cases xT:t.op=24
   ·obtain ⟨q1,q2⟩:=hh.ref xT;simp only [len] at q2;have h2:t.n.toNat < vals.length:=by omega
    rw [jY xT,zB,yQ xT,show idx vals (gD t).2.1=some vals[t.n.toNat] from Z2 q1 (by omega),VF,wP h2];rfl
   rw [qO xT,zU,qZ xT];by_cases h6:t.op=6
   ·obtain ⟨p,hp⟩:=hh.one (l:=t.kids) (.inl h6);have hk:0 < t.kids.length:=by rw [hp];simp
    rw [jY h6,zB,yQ h6,show f304 N (ZR N M) 0 vals (gD t)=_ from EM 0 hk,getD_map hk];rfl
   rw [qO h6,zU,qZ h6];by_cases h7:t.op=7
   ·obtain ⟨p,hp⟩:=hh.one (l:=t.kids) (.inr h7);have hk:0 < t.kids.length:=by rw [hp];simp
    rw [jY h7,zB,yQ h7,show f304 N (ZR N M) 0 vals (gD t)=_ from EM 0 hk,getD_map hk];simp only [zP,f305];by_cases hz:vC vals t.kids[0]=0 <;> simp [hz]
   rw [qO h7,zU,qZ h7];by_cases AB:t.op=23
   ·have hl:t.kids.length=3:=by
     have:=hh.ar;rw [AB] at this;simp [NO,show wH 23=3 from rfl] at this;omega
    rw [jY AB,zB,yQ AB,show f304 N (ZR N M) 0 vals (gD t)=_ from EM 0 (by omega),getD_map (show 0 < t.kids.length by omega),getD_map (show 1 < t.kids.length by omega),getD_map (show 2 < t.kids.length by omega)];simp only [zP];rw [show f304 N (ZR N M) 1 vals (gD t)=_ from EM 1 (by omega),show f304 N (ZR N M) 2 vals (gD t)=_ from EM 2 (by omega)];by_cases hz:vC vals t.kids[0]=0 <;> simp [hz]
   rw [qO AB,zU,qZ AB];by_cases AA:t.op=25
   ·obtain ⟨g1,g2⟩:=hh.many (l:=t.kids) (.inr AA);rw [jY AA,zB,yQ AA,show f304 N (ZR N M) 0 vals (gD t)=_ from EM 0 (by omega),getD_map (show 0 < t.kids.length by omega)];simp only [zP,Gy];rw [show len (gD t).2.2.1=(t.kids.length:Int) from rfl,zw (n:=(t.kids.length:Int)-2) (by omega) (by omega),FY N _ 0 _ (by omega)];simp only [zP];have hb:0<=wN (vC vals t.kids[0]) 0 (t.kids.length-2)/\wN (vC vals t.kids[0]) 0 (t.kids.length-2)<=t.kids.length-2:=by
     simp only [wN];split
     ·omega
     split <;> omega
    generalize wN (vC vals t.kids[0]) 0 (t.kids.length-2)=e at *;have hk:1+e.toNat < t.kids.length:=by omega
    rw [zw (n:=1+e) (by omega) (by omega),show (1+e:Int)=((1+e.toNat:Nat):Int) by omega,EM _ hk,getD_map hk];rfl
   rw [qO AA,zU,qZ AA];have g:=hh.bin (l:=t.kids) h0 xT h6 h7 AB AA;rw [show f304 N (ZR N M) 0 vals (gD t)=_ from EM 0 (by omega),show f304 N (ZR N M) 1 vals (gD t)=_ from EM 1 (by omega),getD_map (show 0 < t.kids.length by omega),getD_map (show 1 < t.kids.length by omega)];simp only [zP];rw [zdh];rfl
  ·show R3 N (R2 N M) vals (gD t)=_;unfold R3 Iz;by_cases h0:t.op=0
   ·rw [jY h0,zB,yQ h0]
   rw [qO h0,zU,qZ h0];by_cases xT:t.op=24
   ·obtain ⟨q1,q2⟩:=hh.ref xT;simp only [len] at q2;have h2:t.n.toNat < vals.length:=by omega
    rw [jY xT,zB,yQ xT,show idx vals (gD t).2.1=some vals[t.n.toNat] from Z2 q1 (by omega),VF,wP h2];rfl
   rw [qO xT,zU,qZ xT];by_cases h6:t.op=6
   ·obtain ⟨p,hp⟩:=hh.one (l:=t.kids) (.inl h6);have hk:0 < t.kids.length:=by rw [hp];simp
    rw [jY h6,zB,yQ h6,show idx (gD t).2.2.1 0=_ from ix 0 hk,zP,(kid 0 hk).2,getD_map hk];rfl
   rw [qO h6,zU,qZ h6];by_cases h7:t.op=7
   ·obtain ⟨p,hp⟩:=hh.one (l:=t.kids) (.inr h7);have hk:0 < t.kids.length:=by rw [hp];simp
    rw [jY h7,zB,yQ h7,show idx (gD t).2.2.1 0=_ from ix 0 hk,zP,(kid 0 hk).2,getD_map hk];simp only [zP,f278];by_cases hz:vC vals t.kids[0]=0 <;> simp [hz]
   rw [qO h7,zU,qZ h7];by_cases AB:t.op=23
   ·have hl:t.kids.length=3:=by
     have:=hh.ar;rw [AB] at this;simp [NO,show wH 23=3 from rfl] at this;omega
    rw [jY AB,zB,yQ AB,show idx (gD t).2.2.1 0=_ from ix 0 (by omega),getD_map (show 0 < t.kids.length by omega),getD_map (show 1 < t.kids.length by omega),getD_map (show 2 < t.kids.length by omega)];simp only [zP];rw [(kid 0 (by omega)).2];simp only [zP];rw [show idx (gD t).2.2.1 1=_ from ix 1 (by omega),show idx (gD t).2.2.1 2=_ from ix 2 (by omega)];simp only [zP];rw [(kid 1 (by omega)).2,(kid 2 (by omega)).2];by_cases hz:vC vals t.kids[0]=0 <;> simp [hz]
   rw [qO AB,zU,qZ AB];by_cases AA:t.op=25
   ·obtain ⟨g1,g2⟩:=hh.many (l:=t.kids) (.inr AA);rw [jY AA,zB,yQ AA,show idx (gD t).2.2.1 0=_ from ix 0 (by omega),getD_map (show 0 < t.kids.length by omega)];simp only [zP,Gy];rw [(kid 0 (by omega)).2];simp only [zP];rw [show len (gD t).2.2.1=(t.kids.length:Int) from rfl,zw (n:=(t.kids.length:Int)-2) (by omega) (by omega),Fp N];simp only [zP];have hb:0<=wN (vC vals t.kids[0]) 0 (t.kids.length-2)/\wN (vC vals t.kids[0]) 0 (t.kids.length-2)<=t.kids.length-2:=by
     simp only [wN];split
     ·omega
     split <;> omega
    generalize wN (vC vals t.kids[0]) 0 (t.kids.length-2)=e at *;have hk:1+e.toNat < t.kids.length:=by omega
    rw [zw (n:=1+e) (by omega) (by omega),show (1+e:Int)=((1+e.toNat:Nat):Int) by omega,ix _ hk,getD_map hk,zP,(kid _ hk).2];rfl
   rw [qO AA,zU,qZ AA];have g:=hh.bin (l:=t.kids) h0 xT h6 h7 AB AA;rw [show idx (gD t).2.2.1 0=_ from ix 0 (by omega),show idx (gD t).2.2.1 1=_ from ix 1 (by omega),getD_map (show 0 < t.kids.length by omega),getD_map (show 1 < t.kids.length by omega)];simp only [zP];rw [(kid 0 (by omega)).2,(kid 1 (by omega)).2];simp only [zP];rw [zdc];rfl
end Go.Kz
namespace Go.Kz
structure RS where
 vals:List Int
 outs:List Int
 time:Int
def GW (t:Int) (s:Int×Bool) (x:Int):Int×Bool:=if t<=x/\(s.2=false\/x < s.1) then (x,true) else s
def HX (l:List Int) (t:Int):Int:=(l.foldl (GW t) (t,false)).1
theorem zdf (N:Nat) (hN:200<=N) (l:List Int) (t:Int) (hl:l.length<=32):f330 N l t=some (HX l t):=by
 refine zx.eq ?_;unfold f330;refine zx.up (fun j s=>s=(l.take j).foldl (GW t) (t,false)) l.length ?_ ?_ N 0 (jt _) (by omega) _ rfl
 ·rintro j ⟨b,fd⟩ w hj hinv hw;simp only [UC];rw [zK hj,zB,zg hj];simp only [zP,Z7,wR,gid];have e:=Z45 (f:=GW t) (b:=(t,false)) (l:=l.take j) (l':=[l[j]]);rw [<-qy hj,<-hinv] at e;rw [zu (by omega)];refine zx.cond (fun hb=>hw _ ?_) fun hb=>hw _ ?_
  ·simp only [zA,Df,PO,yR] at hb;rw [e];simp only [Z26,Z2m,GW];rw [yQ hb]
  ·rw [e];simp only [Z26,Z2m,GW];rw [qZ];intro hc;have:(decide (t<=l[j]) && (!fd || decide (l[j] < b)))=true:=by
    simp only [zA,Df,PO,yR];exact hc
   rw [hb] at this;simp at this
 ·rintro ⟨b,fd⟩ w hinv;simp only [UC];rw [zV,zU];rw [Qi] at hinv;refine zx.ret ?_;rw [HX,<-hinv]
theorem zdw (N:Nat) (hN:200<=N) (l:List Int) (t:Int) (hl:l.length<=32):f252 N l t=some (HX l t):=by
 refine zx.eq ?_;unfold f252;refine zx.up (fun j s=>s=(l.take j).foldl (GW t) (t,false)) l.length ?_ ?_ N 0 (jt _) (by omega) _ rfl
 ·rintro j ⟨b,fd⟩ w hj hinv hw;simp only [UN];rw [show decide ((j:Int) < len l)=true from zK hj,zB,zg hj];simp only [zP,Z7,wR,gid];have e:=Z45 (f:=GW t) (b:=(t,false)) (l:=l.take j) (l':=[l[j]]);rw [<-qy hj,<-hinv] at e;rw [zu (by omega)];refine zx.cond (fun hb=>hw _ ?_) fun hb=>hw _ ?_
  ·simp only [zA,Df,PO,yR] at hb;rw [e];simp only [Z26,Z2m,GW];rw [yQ hb]
  ·rw [e];simp only [Z26,Z2m,GW];rw [qZ];intro hc;have:(decide (t<=l[j]) && (!fd || decide (l[j] < b)))=true:=by
    simp only [zA,Df,PO,yR];exact hc
   rw [hb] at this;simp at this
 ·rintro ⟨b,fd⟩ w hinv;simp only [UN];rw [show decide (((l.length:Nat):Int) < len l)=false from zV _,zU];rw [Qi] at hinv;refine zx.ret ?_;rw [HX,<-hinv]
def vlo (f:zh) (v:Int):Int:=match f.1[v.toNat]? with
 | some x=>x.2.2.1
 | none=>0
def vhi (f:zh) (v:Int):Int:=match f.1[v.toNat]? with
 | some x=>x.2.2.2.1
 | none=>0
def QO (c:Int) (t:Tm) (body:RS->RS):Nat->RS->RS
 | 0,s=>s
 | n+1,s=>if vC s.vals t=0 then ⟨s.vals,s.outs,zz (s.time+c)⟩ else QO c t body n (body ⟨s.vals,s.outs,zz (s.time+c)⟩)
mutual
def Wl (f:zh) (hs:List Int):Sp->RS->RS
 | ⟨a,c,v,n,t,x,y,b⟩,s=>
  if a=4 then QO c t (fun s=>vK f hs x s) n.toNat s
  else if a=0 then ⟨wZ s.vals v (wN (vC s.vals t) (vlo f v) (vhi f v)),s.outs,zz (s.time+c)⟩
  else if a=1 then ⟨s.vals,s.outs++[vC s.vals t],zz (s.time+c)⟩
  else if a=3 then (if vC s.vals t=0 then vK f hs y ⟨s.vals,s.outs,zz (s.time+c)⟩ else vK f hs x ⟨s.vals,s.outs,zz (s.time+c)⟩)
  else if a=5 then ⟨wZ s.vals v (wN (hs.getD n.toNat 0) (vlo f v) (vhi f v)),s.outs,zz (s.time+c)⟩
  else if a=6 then ⟨s.vals,s.outs,HX b (zz (s.time+c))⟩
  else ⟨s.vals,s.outs,zz (s.time+c)⟩
def vK (f:zh) (hs:List Int):List Sp->RS->RS
 | [],s=>s
 | x :: l,s=>vK f hs l (Wl f hs x s)
end
theorem Wi (f:zh) (hs:List Int) (x:Sp) (s:RS):Wl f hs x s =
  if x.act=4 then QO x.cost x.term (fun s=>vK f hs x.j4 s) x.n.toNat s
  else if x.act=0 then ⟨wZ s.vals x.var (wN (vC s.vals x.term) (vlo f x.var) (vhi f x.var)),s.outs,zz (s.time+x.cost)⟩
  else if x.act=1 then ⟨s.vals,s.outs++[vC s.vals x.term],zz (s.time+x.cost)⟩
  else if x.act=3 then (if vC s.vals x.term=0 then vK f hs x.uQ ⟨s.vals,s.outs,zz (s.time+x.cost)⟩ else vK f hs x.j4 ⟨s.vals,s.outs,zz (s.time+x.cost)⟩)
  else if x.act=5 then ⟨wZ s.vals x.var (wN (hs.getD x.n.toNat 0) (vlo f x.var) (vhi f x.var)),s.outs,zz (s.time+x.cost)⟩
  else if x.act=6 then ⟨s.vals,s.outs,HX x.bounds (zz (s.time+x.cost))⟩
  else ⟨s.vals,s.outs,zz (s.time+x.cost)⟩:=by cases x;simp only [Wl]
theorem GB (f:zh) (hs:List Int):∀ (l:List Sp) (x:Sp) (s:RS),vK f hs (l++[x]) s=Wl f hs x (vK f hs l s)
 | [],x,s=>by simp only [QP,vK]
 | y :: l,x,s=>by simp only [xA,vK,GB f hs l x]
structure Ls (s s':RS) (o:Int):Prop where
 vals:s'.vals.length=s.vals.length
 outs:(s'.outs.length:Int)<=s.outs.length+o
 more:s.outs.length<=s'.outs.length
theorem Cn {c:Int} {t:Tm} {body:RS->RS} {o:Int} (ho:0<=o) (hb:∀ s,Ls s (body s) o):∀ (n:Nat) (s:RS),Ls s (QO c t body n s) (n*o)
 | 0,s=>⟨rfl,by simp [QO],yN _⟩
 | n+1,s=>by
  simp only [QO];have hn:(0:Int)<=n*o:=Te (by omega) ho;have e:((n+1:Nat):Int)*o=n*o+o:=by rw [Z5h,Z43];simp
  split
  ·exact ⟨rfl,by simp only;rw [e];omega,yN _⟩
  ·obtain ⟨a1,a2,a3⟩:=hb ⟨s.vals,s.outs,zz (s.time+c)⟩;obtain ⟨b1,b2,b3⟩:=Cn ho hb n (body ⟨s.vals,s.outs,zz (s.time+c)⟩);exact ⟨by rw [b1,a1],by rw [e];simp only at a2;omega,Z22 a3 b3⟩
theorem HR (l:List Int) (i x:Int):(wZ l i x).length=l.length:=by simp [wZ]
theorem pL (f:zh) (hs:List Int):∀ (M:Nat) (l:List Sp) (top:Bool),yS l < M->Qs f top l->∀ s,Ls s (vK f hs l s) (qK l).2.1
 | 0,l,_,h,_,_=>by omega
 | M+1,[],_,_,_,s=>⟨rfl,by simp [vK,qK],yN _⟩
 | M+1,x :: l,top,h,zy,s=>by
  simp only [yS] at h;have he:=kF x;have hp:=yX x.term;simp only [Qs] at zy;have Qe:=Xv f _ _ zy.1;obtain ⟨⟨q1,q2,q3⟩,q4,q5⟩:=(xm ..).1 zy.1;obtain ⟨a1,a2,a3⟩:=p7 f _ x.j4 false (Bm _) q4;obtain ⟨b1,b2,b3⟩:=p7 f _ x.uQ false (Bm _) q5;have kx:=fun s=>pL f hs M x.j4 false (by omega) q4 s
  have ky:=fun s=>pL f hs M x.uQ false (by omega) q5 s
  have kl:=fun s=>pL f hs M l top (by omega) zy.2 s
  have one:Ls s (Wl f hs x s) (O3 x).2.1:=by
   rw [Wi,GV];by_cases h4:x.act=4
   ·rw [yQ h4,qZ (show ¬ x.act=1 by omega),qZ (show ¬ x.act=3 by omega),yQ h4];have:=Cn (c:=x.cost) (t:=x.term) (body:=fun s=>vK f hs x.j4 s) a2 kx x.n.toNat s;have e:((x.n.toNat:Nat):Int)=x.n:=by have:=q2.n0;omega
    rw [e] at this;simp only;rw [show (0:Int)+(qK x.j4).2.1=(qK x.j4).2.1 by omega];exact this
   rw [qZ h4];by_cases h0:x.act=0
   ·rw [yQ h0,qZ (show ¬ x.act=1 by omega),qZ (show ¬ x.act=3 by omega),qZ h4];exact ⟨HR ..,by simp,yN _⟩
   rw [qZ h0];by_cases h1:x.act=1
   ·rw [yQ h1,yQ h1];exact ⟨rfl,by simp,by simp⟩
   rw [qZ h1,qZ h1];by_cases h3:x.act=3
   ·rw [yQ h3,yQ h3];simp only;split
    ·obtain ⟨c1,c2,c3⟩:=ky ⟨s.vals,s.outs,zz (s.time+x.cost)⟩;simp only at c2;exact ⟨c1,by omega,c3⟩
    ·obtain ⟨c1,c2,c3⟩:=kx ⟨s.vals,s.outs,zz (s.time+x.cost)⟩;simp only at c2;exact ⟨c1,by omega,c3⟩
   rw [qZ h3,qZ h3,qZ h4];by_cases h5:x.act=5
   ·rw [yQ h5];exact ⟨HR ..,by simp,yN _⟩
   rw [qZ h5];by_cases h6:x.act=6
   ·rw [yQ h6];exact ⟨rfl,by simp,yN _⟩
   rw [qZ h6];exact ⟨rfl,by simp,yN _⟩
  simp only [vK,qK];obtain ⟨c1,c2,c3⟩:=one;obtain ⟨d1,d2,d3⟩:=kl (Wl f hs x s);exact ⟨by rw [d1,c1],by omega,Z22 c3 d3⟩
end Go.Kz
namespace Go.Kz
abbrev zu3:=(zh×(Unit×(Unit×(Unit×(Int×Unit)))))×((List Int)×((List Int)×((List Int)×Unit)))
@[reducible] def Tx (f:zh) (hs:List Int) (s:RS):zu3:=((f,((),((),((),(s.time,()))))),(s.vals,(hs,(s.outs,()))))
theorem z0p {f:zh} {v:Int} (h:C9 f.1 v=true):∃ k:Nat,∃ hk:k < f.1.length,v=k/\idx f.1 v=some f.1[k]/\vlo f v=f.1[k].2.2.1/\vhi f v=f.1[k].2.2.2.1:=by
 obtain ⟨k,hk,rfl,_⟩:=z3l h;exact ⟨k,hk,rfl,zg hk,by simp [vlo,hk],by simp [vhi,hk]⟩
theorem Ry (N:Nat) (f:zh) (hv:u6 f.1) (hs:List Int) (v n:Int) (h:C9 f.1 v=true) (s:RS) (hl:s.vals.length=f.1.length) :
  f251 N v n f s.time s.vals hs s.outs=some (((),()),Tx f hs ⟨wZ s.vals v (wN n (vlo f v) (vhi f v)),s.outs,s.time⟩):=by
 obtain ⟨k,hk,rfl,e1,e2,e3⟩:=z0p h;unfold f251;rw [e1];simp only [zP];rw [FY N n _ _ (hv.each k hk).JA.1,zP,zf (by simp only [vU,zA,yR];omega)];rw [zg (show k < s.vals.length by omega)];simp only [zP];rw [e2,e3]
theorem R4 (N:Nat) (f:zh) (hv:u6 f.1) (v n:Int) (h:C9 f.1 v=true) (l:List Int) (hl:l.length=f.1.length) :
  f328 N f l v n=some (wZ l v (wN n (vlo f v) (vhi f v))):=by
 obtain ⟨k,hk,rfl,e1,e2,e3⟩:=z0p h;have Ih:=hv.len;have r1:=kJ;unfold f328;rw [zf (by simp only [yR,Nat.add_eq];omega),e1];simp only [zP];rw [Fp,zP,zf (by simp only [vU,zA,yR];omega)];rw [zg (show k < l.length by omega)];simp only [zP];rw [e2,e3]
theorem CB (N:Nat) (hN:5000<=N) (f:zh) (t:Tm) (ht:Zv t<=100) (vl:Bool) (h:BR f.1 vl t) (vals:List Int) (hl:vals.length=f.1.length):f249 N vals (t.1,(t.2,(t.3,())))=some (vC vals t)/\f329 N vals (t.1,(t.2,(t.3,())))=some (vC vals t):=
 HZ N (by omega) f.1 vl vals hl N t (by omega) ht h.1
theorem zdx (N:Nat) (hN:5000<=N) (f:zh) (hs:List Int) (gX:Gg) (x:Sp) (o:Int) (ho:0<=o) (B:Int) (h0:0<=x.n) (h4:x.n<=4096) (ht:Zv x.term<=100) (hT:BR f.1 false x.term)
  (hk:∀ s,Ls s (vK f hs x.j4 s) o)
  (hr:∀ s:RS,s.vals.length=f.1.length->s.outs.length+o<=B->gX x.j4 f s.time s.vals hs s.outs=some (((),()),Tx f hs (vK f hs x.j4 s)))
  (s:RS) (hl:s.vals.length=f.1.length) (hB:s.outs.length+x.n*o<=B) :
  f250 N gX (Mz x) f s.time s.vals hs s.outs=some (((),()),Tx f hs (QO x.cost x.term (fun s=>vK f hs x.j4 s) x.n.toNat s)):=by
 unfold f250;refine zx.eq ?_;obtain ⟨n,hn⟩:∃ n:Nat,x.n=n:=⟨x.n.toNat,by omega⟩;rw [hn] at hB h4;rw [show x.n.toNat=n by omega];refine zx.up (fun j u=>∃ z:RS,u=(f,(z.time,(z.vals,(hs,z.outs))))/\z.vals.length=f.1.length/\z.outs.length+((n-j:Nat):Int)*o<=B/\
   QO x.cost x.term (fun s=>vK f hs x.j4 s) n s=QO x.cost x.term (fun s=>vK f hs x.j4 s) (n-j) z) n ?_ ?_ N 0 (jt _) (by omega) _ ⟨s,rfl,hl,by simpa using hB,rfl⟩
 ·rintro j u w hj ⟨z,rfl,z1,z2,z3⟩ hw;simp only [UO];rw [jY (show (j:Int) < x.n by omega),zB];rw [show f249 N z.vals ((Mz x).2.2.2.2.1.1,(Mz x).2.2.2.2.1.2)=_ from (CB N hN f x.term ht false hT z.vals z1).1];simp only [zP];obtain ⟨m,hm⟩:∃ m,n-j=m+1:=⟨n-j-1,by omega⟩;rw [hm] at z2 z3;simp only [QO] at z3;by_cases hz:vC z.vals x.term=0
  ·rw [jY hz,zB];rw [yQ hz] at z3;rw [z3];exact zx.ret rfl
  ·rw [qO hz,zU];rw [qZ hz] at z3;have em:((m+1:Nat):Int)*o=m*o+o:=by rw [Z5h,Z43];simp
   have em2:(0:Int)<=m*o:=Te (by omega) ho;rw [show gX (Mz x).2.2.2.2.2.1 f (zz (z.time+(Mz x).2.1)) z.vals hs z.outs=_ from hr ⟨z.vals,z.outs,zz (z.time+x.cost)⟩ z1 (by simp only;omega)];simp only [zP];rw [zu (by omega)];obtain ⟨k1,k2,k3⟩:=hk ⟨z.vals,z.outs,zz (z.time+x.cost)⟩;refine hw _ ⟨_,rfl,by rw [k1];exact z1,?_,by rw [z3,show n-(j+1)=m by omega]⟩;simp only at k2;rw [show n-(j+1)=m by omega];omega
 ·rintro u w ⟨z,rfl,z1,z2,z3⟩;simp only [UO];rw [qO (show ¬ (n:Int) < x.n by omega),zU];rw [Z3b] at z3;rw [z3];exact zx.ret rfl
theorem XX:(4294967296:Int)<=(room:Int):=by decide
theorem KS (N:Nat) (hN:5000<=N) (f:zh) (hv:u6 f.1) (hs:List Int) (hhs:hs.length=f.2.1.length):∀ (M:Nat) (l:List Sp) (top:Bool),yS l < M->yS l<=100->Qs f top l->∀ s:RS,s.vals.length=f.1.length->s.outs.length+(qK l).2.1<=1000000->
  As N M l f s.time s.vals hs s.outs=some (((),()),Tx f hs (vK f hs l s))
 | 0,l,_,h,_,_,_,_,_=>by omega
 | M+1,l,top,h,ht,zy,s,hl,hB=>by
  show RC N (As N M) l f s.time s.vals hs s.outs=_;have VG:=wx l;have rb:=XX;unfold RC;refine zx.eq ?_;refine zx.up (fun j u=>∃ z:RS,z=vK f hs (l.take j) s/\u=(f,(z.time,(z.vals,(hs,z.outs))))/\z.vals.length=f.1.length/\z.outs.length<=s.outs.length+(qK (l.take j)).2.1/\0<=(qK (l.take j)).2.1) l.length ?_ ?_ N 0 (jt _) (by omega) _ ⟨s,by simp [vK],rfl,hl,by simp [qK],by simp [qK]⟩
  ·rintro j u w hj ⟨z,hz,rfl,z1,z2,z4⟩ hw;have hm:=wb (ku hj);have he:=kF l[j];have htp:=yX l[j].term;have hsj:=xC zy j hj;have Qe:=Xv f _ _ hsj;obtain ⟨⟨q1,q2,q3⟩,q4,q5⟩:=(xm ..).1 hsj;obtain ⟨a1,a2,a3⟩:=p7 f _ l[j].j4 false (Bm _) q4;obtain ⟨b1,b2,b3⟩:=p7 f _ l[j].uQ false (Bm _) q5;have WA:=WL (l.take j) l[j];rw [<-qy hj] at WA;have hrn:=GB f hs (l.take j) l[j] s;rw [<-qy hj,<-hz] at hrn;have hle:(qK (l.take (j+1))).2.1<=(qK l).2.1:=by
    have:Qs f top (l.drop (j+1)):=Ev fun i h=>by
     have hi:j+1+i < l.length:=by rw [Hw] at h;omega
     have:=xC zy (j+1+i) hi;rw [Z37];have e:decide (i+1=(l.drop (j+1)).length)=decide (j+1+i+1=l.length):=by
      rw [Hw];congr 1;simp only [eq_iff_iff];omega
     rw [e];exact this
    have hd:=p7 f _ (l.drop (j+1)) top (Bm _) this;have app:∀ a b:List Sp,(qK (a++b)).2.1=(qK a).2.1+(qK b).2.1:=fun a b=>by
     induction a with
     | nil=>simp [qK]
     | cons x a ih=>simp only [xA,qK,ih];omega
    have e:=app (l.take (j+1)) (l.drop (j+1));rw [Mx] at e;have:=hd.2.1;omega
   have xw:(qK (l.take (j+1))).2.1=(qK (l.take j)).2.1+(O3 l[j]).2.1:=by rw [WA]
   have hkp:Ls z (Wl f hs l[j] z) (O3 l[j]).2.1:=by
    have:=pL f hs (yS [l[j]]+1) [l[j]] (top && decide (j+1=l.length)) (by omega) (by simp only [Qs,Z5g,Z2f];exact ⟨hsj,trivial⟩) z;simpa only [vK,qK,Int.add_zero] using this
   obtain ⟨k1,k2,k3⟩:=hkp;have step:∀ u:zh×(Int×(List Int×(List Int×List Int))),u=(f,((Wl f hs l[j] z).time,((Wl f hs l[j] z).vals,(hs,(Wl f hs l[j] z).outs))))->zx (w (zz ((j:Int)+1),u)) fun y=>y=(((),()),Tx f hs (vK f hs l s)):=by
    rintro u rfl;rw [zu (by omega)];exact hw _ ⟨Wl f hs l[j] z,hrn.symm,rfl,by rw [k1];exact z1,by rw [xw];omega,by rw [xw];have:=Qe.2.1;omega⟩
   rw [Wi] at step;rw [GV] at xw;simp only [Ka];rw [show decide ((j:Int) < len l)=true from zK hj,zB,zg hj];simp only [zP];by_cases h4:l[j].act=4
   ·rw [jY h4,zB];rw [yQ h4] at step;rw [qZ (show ¬ l[j].act=1 by omega),qZ (show ¬ l[j].act=3 by omega),yQ h4] at xw;simp only at xw;rw [show (0:Int)+(qK l[j].j4).2.1=(qK l[j].j4).2.1 by omega] at xw;rw [show f250 N (As N M) (l[j].1,(l[j].2,(l[j].3,(l[j].4,((l[j].5.1,(l[j].5.2,(l[j].5.3,()))),(l[j].6,(l[j].7,(l[j].8,())))))))) f z.time z.vals hs z.outs=_ from
     zdx N hN f hs (As N M) l[j] (qK l[j].j4).2.1 a2 1000000 q2.n0 (q2.n h4) (by omega) q3 (fun s=>pL f hs _ l[j].j4 false (Bm _) q4 s)
      (fun s c1 c2=>KS N hN f hv hs hhs M l[j].j4 false (by omega) (by omega) q4 s c1 c2) z z1 (by omega)]
    simp only [zP];exact step _ rfl
   rw [qO h4,zU];rw [qZ h4] at step;have vt:=fun vals hl=>(CB N hN f l[j].term (by omega) false q3 vals hl).1
   by_cases h0:l[j].act=0
   ·rw [jY h0,zB,XP];rw [yQ h0] at step;rw [vt z.vals z1,zP];rw [show f251 N l[j].3 (vC z.vals l[j].term) f (zz (z.time+l[j].2)) z.vals hs z.outs=_ from Ry N f hv hs l[j].var _ (q1.var (.inl h0)) ⟨z.vals,z.outs,zz (z.time+l[j].cost)⟩ z1];simp only [zP];exact step _ rfl
   rw [qO h0,zU];rw [qZ h0] at step;by_cases h1:l[j].act=1
   ·rw [jY h1,zB];rw [yQ h1] at step xw;rw [vt z.vals z1,zP];simp only at xw;refine zx.qW (by simp only [yR];omega) ?_;exact step _ rfl
   rw [qO h1,zU];rw [qZ h1] at step xw;by_cases h3:l[j].act=3
   ·rw [jY h3,zB];rw [yQ h3] at step xw;simp only at xw;rw [vt z.vals z1,zP];by_cases Eb:vC z.vals l[j].term=0
    ·rw [jY Eb,show (!true)=false from rfl,zU];rw [yQ Eb] at step;rw [show As N M l[j].7 f (zz (z.time+l[j].2)) z.vals hs z.outs=_ from KS N hN f hv hs hhs M l[j].uQ false (by omega) (by omega) q5 ⟨z.vals,z.outs,zz (z.time+l[j].cost)⟩ z1 (by simp only;omega)];simp only [zP];exact step _ rfl
    ·rw [qO Eb,show (!false)=true from rfl,zB];rw [qZ Eb] at step;rw [show As N M l[j].6 f (zz (z.time+l[j].2)) z.vals hs z.outs=_ from KS N hN f hv hs hhs M l[j].j4 false (by omega) (by omega) q4 ⟨z.vals,z.outs,zz (z.time+l[j].cost)⟩ z1 (by simp only;omega)];simp only [zP];exact step _ rfl
   rw [qO h3,zU];rw [qZ h3] at step;by_cases h5:l[j].act=5
   ·rw [jY h5,zB];rw [yQ h5] at step;obtain ⟨r1,r2⟩:=q1.rel h5;simp only [len] at r2;have hk:l[j].n.toNat < hs.length:=by omega
    have ei:idx hs l[j].4=some (hs.getD l[j].n.toNat 0):=by
     rw [show idx hs l[j].4=some hs[l[j].n.toNat] from Z2 r1 (by omega),VF,wP hk];rfl
    refine zx.qW (by simp only [vU,zA,yR];omega) ?_;rw [ei,zP];rw [show f251 N l[j].3 (hs.getD l[j].n.toNat 0) f (zz (z.time+l[j].2)) z.vals hs z.outs=_ from Ry N f hv hs l[j].var _ (q1.var (.inr h5)) ⟨z.vals,z.outs,zz (z.time+l[j].cost)⟩ z1];simp only [zP];exact step _ rfl
   rw [qO h5,zU];rw [qZ h5] at step;by_cases h6:l[j].act=6
   ·rw [jY h6,zB];rw [yQ h6] at step;rw [zdw N (by omega) _ _ (q1.set h6).2.zbz,zP];exact step _ rfl
   rw [qO h6,zU];rw [qZ h6] at step;exact step _ rfl
  ·rintro u w ⟨z,hz,rfl,z1,z2,z4⟩;simp only [Ka];rw [show decide (((l.length:Nat):Int) < len l)=false from zV _,zU];rw [Qi] at hz;rw [<-hz];exact zx.ret rfl
end Go.Kz
namespace Go.Kz
@[reducible] def Oq (s:RS):List Int×(List Int×(Int×Unit)):=(s.vals,(s.outs,(s.time,())))
theorem zdg (N:Nat) (hN:5000<=N) (f:zh) (hs:List Int) (kI:WV) (x:Sp) (o:Int) (ho:0<=o) (B:Int) (h0:0<=x.n) (h4:x.n<=4096) (ht:Zv x.term<=100) (hT:BR f.1 false x.term)
  (hk:∀ s,Ls s (vK f hs x.j4 s) o)
  (hr:∀ s:RS,s.vals.length=f.1.length->s.outs.length+o<=B->kI f hs x.j4 (Oq s)=some (Oq (vK f hs x.j4 s)))
  (s:RS) (hl:s.vals.length=f.1.length) (hB:s.outs.length+x.n*o<=B) :
  f327 N kI f hs (Mz x) (Oq s)=some (Oq (QO x.cost x.term (fun s=>vK f hs x.j4 s) x.n.toNat s)):=by
 unfold f327;refine zx.eq ?_;obtain ⟨n,hn⟩:∃ n:Nat,x.n=n:=⟨x.n.toNat,by omega⟩;rw [hn] at hB h4;rw [show x.n.toNat=n by omega];refine zx.up (fun j u=>∃ z:RS,u=Oq z/\z.vals.length=f.1.length/\z.outs.length+((n-j:Nat):Int)*o<=B/\
   QO x.cost x.term (fun s=>vK f hs x.j4 s) n s=QO x.cost x.term (fun s=>vK f hs x.j4 s) (n-j) z) n ?_ ?_ N 0 (jt _) (by omega) _ ⟨s,rfl,hl,by simpa using hB,rfl⟩
 ·rintro j u w hj ⟨z,rfl,z1,z2,z3⟩ hw;simp only [UD];rw [jY (show (j:Int) < x.n by omega),zB];rw [show f329 N (Oq z).1 ((Mz x).2.2.2.2.1.1,(Mz x).2.2.2.2.1.2)=_ from (CB N hN f x.term ht false hT z.vals z1).2];simp only [zP];obtain ⟨m,hm⟩:∃ m,n-j=m+1:=⟨n-j-1,by omega⟩;rw [hm] at z2 z3;simp only [QO] at z3;by_cases hz:vC z.vals x.term=0
  ·rw [jY hz,zB];rw [yQ hz] at z3;rw [z3];exact zx.ret rfl
  ·rw [qO hz,zU];rw [qZ hz] at z3;have em:((m+1:Nat):Int)*o=m*o+o:=by rw [Z5h,Z43];simp
   have em2:(0:Int)<=m*o:=Te (by omega) ho;rw [show kI f hs (Mz x).2.2.2.2.2.1 (Oq ⟨z.vals,z.outs,zz (z.time+x.cost)⟩)=_ from hr ⟨z.vals,z.outs,zz (z.time+x.cost)⟩ z1 (by simp only;omega)];simp only [zP];rw [zu (by omega)];obtain ⟨k1,k2,k3⟩:=hk ⟨z.vals,z.outs,zz (z.time+x.cost)⟩;refine hw _ ⟨_,rfl,by rw [k1];exact z1,?_,by rw [z3,show n-(j+1)=m by omega]⟩;simp only at k2;rw [show n-(j+1)=m by omega];omega
 ·rintro u w ⟨z,rfl,z1,z2,z3⟩;simp only [UD];rw [qO (show ¬ (n:Int) < x.n by omega),zU];rw [Z3b] at z3;rw [z3];exact zx.ret rfl
theorem KP (N:Nat) (hN:5000<=N) (f:zh) (hv:u6 f.1) (hs:List Int) (hhs:hs.length=f.2.1.length):∀ (M:Nat) (l:List Sp) (top:Bool),yS l < M->yS l<=100->Qs f top l->∀ s:RS,s.vals.length=f.1.length->s.outs.length+(qK l).2.1<=1000000->
  Ac N M f hs l (Oq s)=some (Oq (vK f hs l s))
 | 0,l,_,h,_,_,_,_,_=>by omega
 | M+1,l,top,h,ht,zy,s,hl,hB=>by
  show z65 N (Ac N M) f hs l (Oq s)=_;have VG:=wx l;have rb:=XX;unfold z65 FZ;refine zx.eq ?_;refine zx.up (fun j u=>∃ z:RS,z=vK f hs (l.take j) s/\u=Oq z/\z.vals.length=f.1.length/\z.outs.length<=s.outs.length+(qK (l.take j)).2.1/\0<=(qK (l.take j)).2.1) l.length ?_ ?_ N 0 (jt _) (by omega) _ ⟨s,by simp [vK],rfl,hl,by simp [qK],by simp [qK]⟩
  ·rintro j u w hj ⟨z,hz,rfl,z1,z2,z4⟩ hw;have hm:=wb (ku hj);have he:=kF l[j];have htp:=yX l[j].term;have hsj:=xC zy j hj;have Qe:=Xv f _ _ hsj;obtain ⟨⟨q1,q2,q3⟩,q4,q5⟩:=(xm ..).1 hsj;obtain ⟨a1,a2,a3⟩:=p7 f _ l[j].j4 false (Bm _) q4;obtain ⟨b1,b2,b3⟩:=p7 f _ l[j].uQ false (Bm _) q5;have WA:=WL (l.take j) l[j];rw [<-qy hj] at WA;have hrn:=GB f hs (l.take j) l[j] s;rw [<-qy hj,<-hz] at hrn;have hle:(qK (l.take (j+1))).2.1<=(qK l).2.1:=by
    have:Qs f top (l.drop (j+1)):=Ev fun i h=>by
     have hi:j+1+i < l.length:=by rw [Hw] at h;omega
     have:=xC zy (j+1+i) hi;rw [Z37];have e:decide (i+1=(l.drop (j+1)).length)=decide (j+1+i+1=l.length):=by
      rw [Hw];congr 1;simp only [eq_iff_iff];omega
     rw [e];exact this
    have hd:=p7 f _ (l.drop (j+1)) top (Bm _) this;have app:∀ a b:List Sp,(qK (a++b)).2.1=(qK a).2.1+(qK b).2.1:=fun a b=>by
     induction a with
     | nil=>simp [qK]
     | cons x a ih=>simp only [xA,qK,ih];omega
    have e:=app (l.take (j+1)) (l.drop (j+1));rw [Mx] at e;have:=hd.2.1;omega
   have xw:(qK (l.take (j+1))).2.1=(qK (l.take j)).2.1+(O3 l[j]).2.1:=by rw [WA]
   have hkp:Ls z (Wl f hs l[j] z) (O3 l[j]).2.1:=by
    have:=pL f hs (yS [l[j]]+1) [l[j]] (top && decide (j+1=l.length)) (by omega) (by simp only [Qs,Z5g,Z2f];exact ⟨hsj,trivial⟩) z;simpa only [vK,qK,Int.add_zero] using this
   obtain ⟨k1,k2,k3⟩:=hkp;have step:∀ u:List Int×(List Int×(Int×Unit)),u=Oq (Wl f hs l[j] z)->zx (w (zz ((j:Int)+1),u)) fun y=>y=Oq (vK f hs l s):=by
    rintro u rfl;rw [zu (by omega)];exact hw _ ⟨Wl f hs l[j] z,hrn.symm,rfl,by rw [k1];exact z1,by rw [xw];omega,by rw [xw];have:=Qe.2.1;omega⟩
   rw [Wi] at step;rw [GV] at xw;simp only [KU,ES];rw [zK hj,zB,zg hj];simp only [zP];by_cases h4:l[j].act=4
   ·rw [jY h4,zB];rw [yQ h4] at step;rw [qZ (show ¬ l[j].act=1 by omega),qZ (show ¬ l[j].act=3 by omega),yQ h4] at xw;simp only at xw;rw [show (0:Int)+(qK l[j].j4).2.1=(qK l[j].j4).2.1 by omega] at xw;rw [show f327 N (Ac N M) f hs (l[j].1,(l[j].2,(l[j].3,(l[j].4,((l[j].5.1,(l[j].5.2,(l[j].5.3,()))),(l[j].6,(l[j].7,(l[j].8,())))))))) (Oq z)=_ from
     zdg N hN f hs (Ac N M) l[j] (qK l[j].j4).2.1 a2 1000000 q2.n0 (q2.n h4) (by omega) q3 (fun s=>pL f hs _ l[j].j4 false (Bm _) q4 s)
      (fun s c1 c2=>KP N hN f hv hs hhs M l[j].j4 false (by omega) (by omega) q4 s c1 c2) z z1 (by omega)]
    simp only [zP];exact step _ rfl
   rw [qO h4,zU];rw [qZ h4] at step;have vt:=fun vals hl=>(CB N hN f l[j].term (by omega) false q3 vals hl).2
   by_cases h0:l[j].act=0
   ·rw [jY h0,zB];rw [yQ h0] at step;rw [vt z.vals z1,zP];rw [R4 N f hv l[j].var _ (q1.var (.inl h0)) z.vals z1];simp only [zP];exact step _ rfl
   rw [qO h0,zU];rw [qZ h0] at step;by_cases h1:l[j].act=1
   ·rw [jY h1,zB];rw [yQ h1] at step xw;simp only at xw;refine zx.qW (by simp only [yR,Nat.add_eq];omega) ?_;rw [vt z.vals z1,zP];refine zx.qW (by simp only [yR];omega) ?_;exact step _ rfl
   rw [qO h1,zU];rw [qZ h1] at step xw;by_cases h5:l[j].act=5
   ·rw [jY h5,zB];rw [qZ (show ¬ l[j].act=3 by omega),yQ h5] at step;obtain ⟨r1,r2⟩:=q1.rel h5;simp only [len] at r2;have hk:l[j].n.toNat < hs.length:=by omega
    have ei:idx hs l[j].4=some (hs.getD l[j].n.toNat 0):=by
     rw [show idx hs l[j].4=some hs[l[j].n.toNat] from Z2 r1 (by omega),VF,wP hk];rfl
    rw [ei,zP];rw [R4 N f hv l[j].var _ (q1.var (.inr h5)) z.vals z1];simp only [zP];exact step _ rfl
   rw [qO h5,zU];by_cases h3:l[j].act=3
   ·rw [jY h3,zB];rw [yQ h3] at step xw;simp only at xw;rw [vt z.vals z1,zP];by_cases Eb:vC z.vals l[j].term=0
    ·rw [jY Eb,show (!true)=false from rfl,zU];rw [yQ Eb] at step;rw [show Ac N M f hs l[j].7 _=_ from KP N hN f hv hs hhs M l[j].uQ false (by omega) (by omega) q5 ⟨z.vals,z.outs,zz (z.time+l[j].cost)⟩ z1 (by simp only;omega)];simp only [zP];exact step _ rfl
    ·rw [qO Eb,show (!false)=true from rfl,zB];rw [qZ Eb] at step;rw [show Ac N M f hs l[j].6 _=_ from KP N hN f hv hs hhs M l[j].j4 false (by omega) (by omega) q4 ⟨z.vals,z.outs,zz (z.time+l[j].cost)⟩ z1 (by simp only;omega)];simp only [zP];exact step _ rfl
   rw [qO h3,zU];rw [qZ h3,qZ h5] at step;by_cases h6:l[j].act=6
   ·rw [jY h6,zB];rw [yQ h6] at step;rw [zdf N (by omega) _ _ (q1.set h6).2.zbz,zP];exact step _ rfl
   rw [qO h6,zU];rw [qZ h6] at step;exact step _ rfl
  ·rintro u w ⟨z,hz,rfl,z1,z2,z4⟩;simp only [KU,ES];rw [show decide (((l.length:Nat):Int) < len l)=false from zV _,zU];rw [Qi] at hz;rw [<-hz];exact zx.ret rfl
end Go.Kz
namespace Go.Kz
abbrev QB:=List Int×(List Int×(List Int×Unit))
def Kv (a:QB) (k:Int):List Int:=if k=1 then a.1 else if k=2 then a.2.1 else a.2.2.1
structure Fits (l:List qY) (xs:List Int):Prop where
 len:xs.length=l.length
 bd:∀ i (h:i < l.length) (h':i < xs.length),l[i].2.2.1<=xs[i]/\xs[i]<=l[i].2.2.2.1
def H7 (vs:List qY) (a:QB):Prop:=∀ k:Int,1<=k->k<=3->Fits (jX vs k) (Kv a k)
def vc (vs:List qY) (k:Int) (j:Nat):Nat:=(jX (vs.take j) k).length
def Ts (vs:List qY) (a:QB) (j:Nat):Int:=match vs[j]? with
 | some v=>if v.2.1=0 then v.2.2.2.2.1 else (Kv a v.2.1).getD (vc vs v.2.1 j) 0
 | none=>0
def VR (vs:List qY) (a:QB) (n:Nat):List Int:=(List.range n).map (Ts vs a)
theorem Zg (vs:List qY) (a:QB) (n:Nat):VR vs a (n+1)=VR vs a n++[Ts vs a n]:=by
 simp [VR,Tf]
theorem JX (vs:List qY) (a:QB) (n:Nat):(VR vs a n).length=n:=by simp [VR]
theorem um (vs:List qY) (k:Int) {j:Nat} (hj:j < vs.length):vc vs k (j+1)=if vs[j].2.1=k then vc vs k j+1 else vc vs k j:=by
 unfold vc;rw [qy hj,x6];split <;> simp
theorem Zb (vs:List qY) (k:Int):vc vs k vs.length=(jX vs k).length:=by simp [vc]
theorem zjm (vs:List qY) {j:Nat} (hj:j < vs.length):∃ h:vc vs vs[j].2.1 j < (jX vs vs[j].2.1).length,(jX vs vs[j].2.1)[vc vs vs[j].2.1 j]=vs[j]:=by
 have e:jX vs vs[j].2.1=jX (vs.take j) vs[j].2.1++(vs[j] :: jX (vs.drop (j+1)) vs[j].2.1):=by
  have h1:vs=vs.take j++(vs[j] :: vs.drop (j+1)):=by
   rw [Z5i,Mx]
  have h2:∀ (l m:List qY) (v:qY),jX (l++(v :: m)) v.2.1=jX l v.2.1++(v :: jX m v.2.1):=fun l m v=>by
   simp [jX]
  have:=h2 (vs.take j) (vs.drop (j+1)) vs[j];rw [<-h1] at this;exact this
 have hl:vc vs vs[j].2.1 j < (jX vs vs[j].2.1).length:=by rw [e];simp [vc]
 refine ⟨hl,?_⟩;have:(jX vs vs[j].2.1)[vc vs vs[j].2.1 j]? = some vs[j]:=by rw [e];simp [vc]
 rw [wP hl] at this;exact Option.some.inj this
theorem AZ {vs:List qY} {a:QB} (hv:u6 vs) (ha:H7 vs a) {j:Nat} (hj:j < vs.length) (h0:¬ vs[j].2.1=0) :
  ∃ h:vc vs vs[j].2.1 j < (Kv a vs[j].2.1).length,Ts vs a j=(Kv a vs[j].2.1)[vc vs vs[j].2.1 j]/\vs[j].2.2.1<=Ts vs a j/\Ts vs a j<=vs[j].2.2.2.1:=by
 have hk:=hv.each j hj;have f:=ha vs[j].2.1 (by have:=hk.z3q;omega) hk.z3p;obtain ⟨h1,h2⟩:=zjm vs hj;have h3:vc vs vs[j].2.1 j < (Kv a vs[j].2.1).length:=by rw [f.len];exact h1
 have e:Ts vs a j=(Kv a vs[j].2.1)[vc vs vs[j].2.1 j]:=by
  simp only [Ts,wP hj];rw [qZ h0,VF,wP h3];rfl
 have b:=f.bd _ h1 h3;rw [h2,<-e] at b;exact ⟨h3,e,b⟩
theorem XQ {vs:List qY} {a:QB} (hv:u6 vs) {j:Nat} (hj:j < vs.length) (h0:vs[j].2.1=0):Ts vs a j=vs[j].2.2.2.2.1/\vs[j].2.2.1<=Ts vs a j/\Ts vs a j<=vs[j].2.2.2.1:=by
 have e:Ts vs a j=vs[j].2.2.2.2.1:=by
  simp only [Ts,wP hj];rw [yQ h0]
 have:=(hv.each j hj).init h0;exact ⟨e,by omega,by omega⟩
theorem zdq (N:Nat) (hN:200<=N) {vs:List qY} (hv:u6 vs) (a:QB) (ha:H7 vs a):f279 N vs a=some (VR vs a vs.length,0):=by
 have Ih:=hv.len;have r1:=kJ;refine zx.eq ?_;unfold f279;refine zx.up (fun j s=>s=(((vc vs 1 j:Nat):Int),((vc vs 2 j:Nat):Int),((vc vs 3 j:Nat):Int),true,VR vs a j)) vs.length ?_ ?_ N 0 (jt _) (by omega) _ (by simp [vc,jX,VR])
 ·rintro j s w hj rfl hw;have hk0:=(hv.each j hj).z3q;have hk3:=(hv.each j hj).z3p;have hlen:=JX vs a j;have at_:∀ (l:List Int) (c:Nat) (h:c < l.length),f326 N l (c:Int)=some (l[c],true):=fun l c h=>by
   unfold f326;rw [qO (show ¬ len l<=(c:Int) by simp only [len];omega),zU,zg h];rfl
  simp only [UL];rw [zK hj,zB,zg hj];simp only [zP];have c1:=um vs 1 hj;have c2:=um vs 2 hj;have c3:=um vs 3 hj;have le:∀ k,vc vs k j<=10:=fun k=>by
   have:=uM (vs.take j) k;rw [P9] at this;simp only [vc];omega
  have l1:=le 1;have l2:=le 2;have l3:=le 3;have nb:∀ x:Int,vs[j].2.2.1<=x->x<=vs[j].2.2.2.1->(decide (x < vs[j].2.2.1) || decide (vs[j].2.2.2.1 < x))=false:=fun x b1 b2=>by
   simp only [JY,u7];omega
  have Qa:decide ((Nat.succ (List.length (VR vs a j)))<=room)=true:=by simp only [yR];omega
  by_cases h1:vs[j].2.1=1
  ·obtain ⟨g1,g2,g3,g4⟩:=AZ hv ha hj (by omega);simp only [h1] at g1 g2;rw [jY h1,zB,show f326 N a.1 ((vc vs 1 j:Nat):Int)=_ from at_ (Kv a 1) _ g1];simp only [zP,xU,zU,Z7];rw [<-g2,nb _ g3 g4,zU,Qa];refine zx.qW rfl ?_;rw [zu (by omega),zu (by omega)];refine hw _ ?_;rw [c1,c2,c3,yQ h1,qZ (by omega),qZ (by omega),Zg];rfl
  rw [qO h1,zU];by_cases h2:vs[j].2.1=2
  ·obtain ⟨g1,g2,g3,g4⟩:=AZ hv ha hj (by omega);simp only [h2] at g1 g2;rw [jY h2,zB,show f326 N a.2.1 ((vc vs 2 j:Nat):Int)=_ from at_ (Kv a 2) _ g1];simp only [zP,xU,zU,Z7];rw [<-g2,nb _ g3 g4,zU,Qa];refine zx.qW rfl ?_;rw [zu (by omega),zu (by omega)];refine hw _ ?_;rw [c1,c2,c3,qZ h1,yQ h2,qZ (by omega),Zg];rfl
  rw [qO h2,zU];by_cases h3:vs[j].2.1=3
  ·obtain ⟨g1,g2,g3,g4⟩:=AZ hv ha hj (by omega);simp only [h3] at g1 g2;rw [jY h3,zB,show f326 N a.2.2.1 ((vc vs 3 j:Nat):Int)=_ from at_ (Kv a 3) _ g1];simp only [zP,xU,zU,Z7];rw [<-g2,nb _ g3 g4,zU,Qa];refine zx.qW rfl ?_;rw [zu (by omega),zu (by omega)];refine hw _ ?_;rw [c1,c2,c3,qZ h1,qZ h2,yQ h3,Zg];rfl
  rw [qO h3,zU];obtain ⟨g2,g3,g4⟩:=XQ (a:=a) hv hj (by omega);simp only [Z7,zP];rw [<-g2,nb _ g3 g4,zU,Qa];refine zx.qW rfl ?_;rw [zu (by omega)];refine hw _ ?_;rw [c1,c2,c3,qZ h1,qZ h2,qZ h3,Zg]
 ·rintro s w rfl;simp only [UL];rw [zV,zU];have e1:(vc vs 1 vs.length:Int)=len a.1:=by rw [Zb,<-(ha 1 (by omega) (by omega)).len];rfl
  have e2:(vc vs 2 vs.length:Int)=len a.2.1:=by rw [Zb,<-(ha 2 (by omega) (by omega)).len];rfl
  have e3:(vc vs 3 vs.length:Int)=len a.2.2.1:=by rw [Zb,<-(ha 3 (by omega) (by omega)).len];rfl
  rw [e1,e2,e3];simp only [Z7,zP,Vz,xU,Bool.or_false,zU];exact zx.ret rfl
end Go.Kz
