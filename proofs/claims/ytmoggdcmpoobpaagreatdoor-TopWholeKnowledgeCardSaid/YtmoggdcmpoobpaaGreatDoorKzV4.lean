/-
  Bounds on runs; the two checks agree.
-/
import Derived.Test.YtmoggdcmpoobpaaGreatDoorKzT8
set_option linter.unusedVariables false
set_option linter.unusedSimpArgs false
set_option linter.unusedSectionVars false
namespace Go.Kz
mutual
def R7:Sp->Int×(Int×Int)
 | ⟨a,c,_,n,_,x,y,_⟩=>
  if a=1 then (1,1,c)
  else if a=3 then (1+max (qU x).1 (qU y).1,max (qU x).2.1 (qU y).2.1,c+max (qU x).2.2 (qU y).2.2)
  else if a=4 then (1+n*(1+(qU x).1),n*(0+(qU x).2.1),n*(c+(qU x).2.2))
  else (1,0,c)
def qU:List Sp->Int×(Int×Int)
 | []=>(0,0,0)
 | s :: l=>((R7 s).1+(qU l).1,(R7 s).2.1+(qU l).2.1,(R7 s).2.2+(qU l).2.2)
end
theorem Pm (s:Sp):R7 s=if s.act=1 then (1,1,s.cost)
  else if s.act=3 then (1+max (qU s.jG).1 (qU s.uw).1,max (qU s.jG).2.1 (qU s.uw).2.1,s.cost+max (qU s.jG).2.2 (qU s.uw).2.2)
  else if s.act=4 then (1+s.n*(1+(qU s.jG).1),s.n*(0+(qU s.jG).2.1),s.n*(s.cost+(qU s.jG).2.2))
  else (1,0,s.cost):=by cases s;simp only [R7]
theorem Pn (l:List Sp) (s:Sp):qU (l++[s])=((qU l).1+(R7 s).1,(qU l).2.1+(R7 s).2.1,(qU l).2.2+(R7 s).2.2):=by
 induction l with
 | nil=>simp [qU]
 | cons x l ih=>simp only [ue,qU,ih,gB];omega
def Nn (x:Int×(Int×Int)):Prop:=0<=x.1/\0<=x.2.1/\0<=x.2.2
theorem uK (f:zf):∀ (M:Nat) (l:List Sp) (top:Bool),jq l < M->JD f top l->Nn (qU l)
 | 0,l,_,h,_=>by omega
 | M+1,[],_,_,_=>by simp [qU,Nn]
 | M+1,s :: l,top,h,hs=>by
  simp only [jq] at h;have he:=kC s;have hp:=yH s.term;simp only [JD] at hs;obtain ⟨⟨q1,q2,q3⟩,q4,q5⟩:=(ZQ ..).1 hs.1;obtain ⟨a1,a2,a3⟩:=uK f M s.jG false (by omega) q4;obtain ⟨b1,b2,b3⟩:=uK f M s.uw false (by omega) q5;obtain ⟨c1,c2,c3⟩:=uK f M l top (by omega) hs.2;have d1:=q2.z1h;have d2:=q2.n0;have m1:0<=s.n*(1+(qU s.jG).1):=R3 d2 (by omega);have m2:0<=s.n*(0+(qU s.jG).2.1):=R3 d2 (by omega);have m3:0<=s.n*(s.cost+(qU s.jG).2.2):=R3 d2 (by omega);simp only [qU,Nn];rw [Pm];split
  ·simp only;omega
  split
  ·simp only;omega
  split
  ·simp only;omega
  ·simp only;omega
theorem Cw (f:zf) (last:Bool) (s:Sp) (h:stP f last s):Nn (R7 s):=by
 have:=uK f (jq [s]+1) [s] last (by omega) (by simp only [JD,List.isEmpty_nil,Z31];exact ⟨h,trivial⟩);simp only [qU,Nn] at this ⊢;omega
theorem Jj {n c p k:Int} (hn:0<=n) (hc:0<=c) (hp:0<=p) (hk:0<=k):min (n*(c+min p k)) k=min (n*(c+p)) k:=by
 by_cases h:p<=k
 ·rw [show min p k=p by omega]
 ·rw [show min p k=k by omega];by_cases h0:n=0
  ·subst h0;simp
  ·have e1:c+k<=n*(c+k):=by
    have:=Z29 (show (1:Int)<=n by omega) (show 0<=c+k by omega);omega
   have e2:c+p<=n*(c+p):=by
    have:=Z29 (show (1:Int)<=n by omega) (show 0<=c+p by omega);omega
   omega
theorem uZ {n x B:Int} (h0:0<=n) (h1:n<=4096) (hx:0<=x) (hB:x<=B):0<=n*x/\n*x<=4096*B:=by
 refine ⟨R3 h0 hx,?_⟩;exact Z4t h1 hB hx (by omega)
theorem Px (N:Nat) (hN:200<=N) (f:zf):∀ (M:Nat) (l:List Sp) (top:Bool),jq l < M->jq l<=100->JD f top l->zfp N M l=some (min (qU l).1 4097,(min (qU l).2.1 9,min (qU l).2.2 67108865))
 | 0,l,_,h,_,_=>by omega
 | M+1,l,top,h,ht,hs=>by
  show z7h N (zfp N M) l=_;have KQ:=wV l;unfold z7h;refine zp.eq ?_;refine zp.up (fun j s=>s=(min (qU (l.take j)).2.2 67108865,(min (qU (l.take j)).2.1 9,min (qU (l.take j)).1 4097))/\Nn (qU (l.take j))) l.length ?_ ?_ N 0 (jE _) (by omega) _ ⟨by simp only [Z20,qU,gB,Ds];omega,by simp [qU,Nn]⟩
  ·rintro j s w hj ⟨rfl,n1,n2,n3⟩ hw;have hm:=kQ (kK hj);have he:=kC l[j];have htp:=yH l[j].term;have zq:=YV hs j hj;have YO:=Cw f _ _ zq;obtain ⟨⟨q1,q2,q3⟩,q4,q5⟩:=(ZQ ..).1 zq;obtain ⟨a1,a2,a3⟩:=uK f _ l[j].jG false (E1 _) q4;obtain ⟨b1,b2,b3⟩:=uK f _ l[j].uw false (E1 _) q5;have d1:=q2.z1h;have d2:=q2.n0;have d3:=q2.cost;have A7:=Pn (l.take j) l[j];rw [<-zo hj] at A7;simp only [PZ];rw [zP hj,zD,zJ hj];simp only [zB];rw [Px N hN f M l[j].jG false (by omega) (by omega) q4,Px N hN f M l[j].uw false (by omega) (by omega) q5];simp only [zB,J8,Wn];have hnn:Nn (qU (l.take (j+1))):=by
    obtain ⟨u1,u2,u3⟩:=YO;rw [A7];simp only [Nn];omega
   have step:∀ t o n:Int,t=min (qU (l.take (j+1))).2.2 67108865->o=min (qU (l.take (j+1))).2.1 9->n=min (qU (l.take (j+1))).1 4097->zp (w (zz ((j:Int)+1),(t,(o,n)))) fun y=>y=(min (qU l).1 4097,(min (qU l).2.1 9,min (qU l).2.2 67108865)):=by
    intro t o n e1 e2 e3;rw [zk (by omega)];exact hw _ ⟨by rw [e1,e2,e3],hnn⟩
   rw [A7] at step;simp only at step;rw [Pm] at step;by_cases h4:l[j].act=4
   ·have d4:=q2.n h4;rw [jg h4,zD,qW (show ¬ l[j].act=1 by omega),zW];rw [qQ (show ¬ l[j].act=1 by omega),qQ (show ¬ l[j].act=3 by omega),yW h4] at step;obtain ⟨m1,m2⟩:=uZ (x:=1+min (qU l[j].jG).1 4097) (B:=4098) d2 d4 (by omega) (by omega);obtain ⟨m3,m4⟩:=uZ (x:=min (qU l[j].jG).2.1 9) (B:=9) d2 d4 (by omega) (by omega);obtain ⟨m5,m6⟩:=uZ (x:=l[j].cost+min (qU l[j].jG).2.2 67108865) (B:=134217729) d2 d4 (by omega) (by omega);rw [zw (n:=1+min (qU l[j].jG).1 4097) (by omega) (by omega),zw (n:=l[j].n*(1+min (qU l[j].jG).1 4097)) (by omega) (by omega),zw (n:=1+l[j].n*(1+min (qU l[j].jG).1 4097)) (by omega) (by omega),zw (n:=min (qU (l.take j)).1 4097+(1+l[j].n*(1+min (qU l[j].jG).1 4097))) (by omega) (by omega)];rw [zw (n:=l[j].n*min (qU l[j].jG).2.1 9) (by omega) (by omega),zw (n:=min (qU (l.take j)).2.1 9+l[j].n*min (qU l[j].jG).2.1 9) (by omega) (by omega)];rw [zw (n:=l[j].cost+min (qU l[j].jG).2.2 67108865) (by omega) (by omega),zw (n:=l[j].n*(l[j].cost+min (qU l[j].jG).2.2 67108865)) (by omega) (by omega),zw (n:=min (qU (l.take j)).2.2 67108865+l[j].n*(l[j].cost+min (qU l[j].jG).2.2 67108865)) (by omega) (by omega)];have c1:=Jj (n:=l[j].n) (c:=1) (p:=(qU l[j].jG).1) (k:=4097) d2 (by omega) a1 (by omega);have c2:=Jj (n:=l[j].n) (c:=0) (p:=(qU l[j].jG).2.1) (k:=9) d2 (by omega) a2 (by omega);have c3:=Jj (n:=l[j].n) (c:=l[j].cost) (p:=(qU l[j].jG).2.2) (k:=67108865) d2 d1 a3 (by omega);rw [show (0:Int)+min (qU l[j].jG).2.1 9=min (qU l[j].jG).2.1 9 by omega] at c2;have g1:0<=l[j].n*(1+(qU l[j].jG).1):=R3 d2 (by omega);have g2:0<=l[j].n*(0+(qU l[j].jG).2.1):=R3 d2 (by omega);have g3:0<=l[j].n*(l[j].cost+(qU l[j].jG).2.2):=R3 d2 (by omega);refine step _ _ _ ?_ ?_ ?_ <;> simp only <;> omega
   ·rw [qW h4,zW];by_cases h1:l[j].act=1
    ·have z1:=q1.jG (by omega) (by omega);have z2:=q1.uw (by omega);rw [jg h1,zD];rw [yW h1] at step;rw [z1,z2];simp only [qU];rw [zw (n:=1+max (min 0 4097) (min 0 4097)) (by omega) (by omega),zw (n:=min (qU (l.take j)).1 4097+(1+max (min 0 4097) (min 0 4097))) (by omega) (by omega),zw (n:=min (qU (l.take j)).2.1 9+1) (by omega) (by omega),zw (n:=l[j].cost+max (min 0 67108865) (min 0 67108865)) (by omega) (by omega),zw (n:=min (qU (l.take j)).2.2 67108865+(l[j].cost+max (min 0 67108865) (min 0 67108865))) (by omega) (by omega)];refine step _ _ _ ?_ ?_ ?_ <;> simp only <;> omega
    ·rw [qW h1,zW];rw [zw (n:=1+max (min (qU l[j].jG).1 4097) (min (qU l[j].uw).1 4097)) (by omega) (by omega),zw (n:=min (qU (l.take j)).1 4097+(1+max (min (qU l[j].jG).1 4097) (min (qU l[j].uw).1 4097))) (by omega) (by omega),zw (n:=min (qU (l.take j)).2.1 9+max (min (qU l[j].jG).2.1 9) (min (qU l[j].uw).2.1 9)) (by omega) (by omega),zw (n:=l[j].cost+max (min (qU l[j].jG).2.2 67108865) (min (qU l[j].uw).2.2 67108865)) (by omega) (by omega),zw (n:=min (qU (l.take j)).2.2 67108865+(l[j].cost+max (min (qU l[j].jG).2.2 67108865) (min (qU l[j].uw).2.2 67108865))) (by omega) (by omega)];rw [qQ h1] at step;by_cases h3:l[j].act=3
     ·rw [yW h3] at step;refine step _ _ _ ?_ ?_ ?_ <;> simp only <;> omega
     ·have z1:=q1.jG h3 h4;have z2:=q1.uw h3;rw [qQ h3,qQ h4] at step;rw [z1,z2];simp only [qU];refine step _ _ _ ?_ ?_ ?_ <;> simp only <;> omega
  ·rintro s w ⟨rfl,_⟩;simp only [PZ];rw [show decide (((l.length:Nat):Int) < len l)=false from zM _,zW,KJ];exact zp.ret rfl
@[reducible] def much:Int:=1099511627776
theorem XX (N:Nat) (hN:200<=N) (f:zf):∀ (M:Nat) (l:List Sp) (top:Bool),jq l < M->jq l<=100->JD f top l->z0z N M l=some (min (qU l).1 1099511627776,(min (qU l).2.1 1099511627776,(min (qU l).2.2 1099511627776,())))
 | 0,l,_,h,_,_=>by omega
 | M+1,l,top,h,ht,hs=>by
  show z10 N (z0z N M) l=_;have KQ:=wV l;unfold z10 DI;refine zp.eq ?_;refine zp.up (fun j s=>s=(min (qU (l.take j)).1 1099511627776,(min (qU (l.take j)).2.1 1099511627776,(min (qU (l.take j)).2.2 1099511627776,())))/\Nn (qU (l.take j))) l.length ?_ ?_ N 0 (jE _) (by omega) _ ⟨by simp only [Z20,qU,gB,Ds];omega,by simp [qU,Nn]⟩
  ·rintro j s w hj ⟨rfl,n1,n2,n3⟩ hw;have hm:=kQ (kK hj);have he:=kC l[j];have htp:=yH l[j].term;have zq:=YV hs j hj;have YO:=Cw f _ _ zq;obtain ⟨⟨q1,q2,q3⟩,q4,q5⟩:=(ZQ ..).1 zq;obtain ⟨a1,a2,a3⟩:=uK f _ l[j].jG false (E1 _) q4;obtain ⟨b1,b2,b3⟩:=uK f _ l[j].uw false (E1 _) q5;have d1:=q2.z1h;have d2:=q2.n0;have d3:=q2.cost;have A7:=Pn (l.take j) l[j];rw [<-zo hj] at A7;simp only [Wd,idB];rw [show decide ((j:Int) < len l)=true from zP hj,zD,zJ hj];simp only [zB];rw [XX N hN f M l[j].jG false (by omega) (by omega) q4,XX N hN f M l[j].uw false (by omega) (by omega) q5];simp only [zB,YI,YL];have hnn:Nn (qU (l.take (j+1))):=by
    obtain ⟨u1,u2,u3⟩:=YO;rw [A7];simp only [Nn];omega
   have step:∀ n o t:Int,n=min (qU (l.take (j+1))).1 1099511627776->o=min (qU (l.take (j+1))).2.1 1099511627776->t=min (qU (l.take (j+1))).2.2 1099511627776->zp (w (zz ((j:Int)+1),(n,(o,(t,()))))) fun y=>y=(min (qU l).1 1099511627776,(min (qU l).2.1 1099511627776,(min (qU l).2.2 1099511627776,()))):=by
    intro t o n e1 e2 e3;rw [zk (by omega)];exact hw _ ⟨by rw [e1,e2,e3],hnn⟩
   rw [A7] at step;simp only at step;rw [Pm] at step;by_cases h1:l[j].act=1
   ·rw [jg h1,zD];rw [yW h1] at step;rw [zw (n:=min (qU (l.take j)).1 1099511627776+1) (by omega) (by omega),zw (n:=min (qU (l.take j)).2.1 1099511627776+1) (by omega) (by omega),zw (n:=min (qU (l.take j)).2.2 1099511627776+l[j].cost) (by omega) (by omega)];refine step _ _ _ ?_ ?_ ?_ <;> simp only <;> omega
   rw [qW h1,zW];rw [qQ h1] at step;by_cases h3:l[j].act=3
   ·rw [jg h3,zD];rw [yW h3] at step;rw [zw (n:=1+max (min (qU l[j].jG).1 1099511627776) (min (qU l[j].uw).1 1099511627776)) (by omega) (by omega),zw (n:=min (qU (l.take j)).1 1099511627776+(1+max (min (qU l[j].jG).1 1099511627776) (min (qU l[j].uw).1 1099511627776))) (by omega) (by omega),zw (n:=min (qU (l.take j)).2.1 1099511627776+max (min (qU l[j].jG).2.1 1099511627776) (min (qU l[j].uw).2.1 1099511627776)) (by omega) (by omega),zw (n:=l[j].cost+max (min (qU l[j].jG).2.2 1099511627776) (min (qU l[j].uw).2.2 1099511627776)) (by omega) (by omega),zw (n:=min (qU (l.take j)).2.2 1099511627776+(l[j].cost+max (min (qU l[j].jG).2.2 1099511627776) (min (qU l[j].uw).2.2 1099511627776))) (by omega) (by omega)];refine step _ _ _ ?_ ?_ ?_ <;> simp only <;> omega
   rw [qW h3,zW];rw [qQ h3] at step;by_cases h4:l[j].act=4
   ·have d4:=q2.n h4;rw [jg h4,zD];rw [yW h4] at step;obtain ⟨m1,m2⟩:=uZ (x:=1+min (qU l[j].jG).1 1099511627776) (B:=1099511627777) d2 d4 (by omega) (by omega);obtain ⟨m3,m4⟩:=uZ (x:=min (qU l[j].jG).2.1 1099511627776) (B:=1099511627776) d2 d4 (by omega) (by omega);obtain ⟨m5,m6⟩:=uZ (x:=l[j].cost+min (qU l[j].jG).2.2 1099511627776) (B:=1099578736640) d2 d4 (by omega) (by omega);rw [zw (n:=1+min (qU l[j].jG).1 1099511627776) (by omega) (by omega),zw (n:=l[j].n*(1+min (qU l[j].jG).1 1099511627776)) (by omega) (by omega),zw (n:=1+l[j].n*(1+min (qU l[j].jG).1 1099511627776)) (by omega) (by omega),zw (n:=min (qU (l.take j)).1 1099511627776+(1+l[j].n*(1+min (qU l[j].jG).1 1099511627776))) (by omega) (by omega)];rw [zw (n:=l[j].n*min (qU l[j].jG).2.1 1099511627776) (by omega) (by omega),zw (n:=min (qU (l.take j)).2.1 1099511627776+l[j].n*min (qU l[j].jG).2.1 1099511627776) (by omega) (by omega)];rw [zw (n:=l[j].cost+min (qU l[j].jG).2.2 1099511627776) (by omega) (by omega),zw (n:=l[j].n*(l[j].cost+min (qU l[j].jG).2.2 1099511627776)) (by omega) (by omega),zw (n:=min (qU (l.take j)).2.2 1099511627776+l[j].n*(l[j].cost+min (qU l[j].jG).2.2 1099511627776)) (by omega) (by omega)];have c1:=Jj (n:=l[j].n) (c:=1) (p:=(qU l[j].jG).1) (k:=1099511627776) d2 (by omega) a1 (by omega);have c2:=Jj (n:=l[j].n) (c:=0) (p:=(qU l[j].jG).2.1) (k:=1099511627776) d2 (by omega) a2 (by omega);have c3:=Jj (n:=l[j].n) (c:=l[j].cost) (p:=(qU l[j].jG).2.2) (k:=1099511627776) d2 d1 a3 (by omega);rw [show (0:Int)+min (qU l[j].jG).2.1 1099511627776=min (qU l[j].jG).2.1 1099511627776 by omega] at c2;have g1:0<=l[j].n*(1+(qU l[j].jG).1):=R3 d2 (by omega);have g2:0<=l[j].n*(0+(qU l[j].jG).2.1):=R3 d2 (by omega);have g3:0<=l[j].n*(l[j].cost+(qU l[j].jG).2.2):=R3 d2 (by omega);refine step _ _ _ ?_ ?_ ?_ <;> simp only <;> omega
   rw [qW h4,zW];rw [qQ h4] at step;rw [zw (n:=min (qU (l.take j)).1 1099511627776+1) (by omega) (by omega),zw (n:=min (qU (l.take j)).2.1 1099511627776+0) (by omega) (by omega),zw (n:=min (qU (l.take j)).2.2 1099511627776+l[j].cost) (by omega) (by omega)];refine step _ _ _ ?_ ?_ ?_ <;> simp only <;> omega
  ·rintro s w ⟨rfl,_⟩;simp only [Wd,idB];rw [show decide (((l.length:Nat):Int) < len l)=false from zM _,zW,KJ];exact zp.ret rfl
structure zna (f:zf) (i:Nat) (h:AS):Prop where
 name:JS h.1=true
 new:∀ j (hj:j < f.2.1.length),j < i->f.2.1[j].1≠h.1
 Qy:I9 h.2.1 h.2.2.1=true
 term:C7 f.1 true (H6 h.2.2.2.1)
structure WF (f:zf):Prop where
 deep:zbe f
 vars:Zq f.1
 IN:∀ i (h:i < f.2.1.length),zna f i f.2.1[i]
 steps:JD f true f.2.2.1
 ub1:(qU f.2.2.1).1<=4096
 ub2:(qU f.2.2.1).2.1<=8
 ub3:(qU f.2.2.1).2.2<=67108864
theorem zfl (N:Nat) (hN:200<=N) (f:zf) (hf:z92 f):zp (f66 N f) fun c=>c=0->WF f:=by
 obtain ⟨g1,g2,g3⟩:=id hf;unfold f66;refine zp.then (z8b N hN f hf) fun b hb=>?_
 refine zp.cond (fun _=>zp.ret (by simp)) fun vT=>?_
 simp only [HY] at vT;have hd:=hb vT;refine zp.then (z8a N hN f.1 g1) fun c hc=>?_
 refine zp.cond (fun vI=>zp.ret fun e=>by subst e;simp at vI) fun he=>?_
 simp only [HY,jL] at he;have hv:=hc he;refine zp.Kp (fun j=>∀ i (h:i < f.2.1.length),i < j->zna f i f.2.1[i]) f.2.1.length ?_ ?_ N 0 (jE _) (by omega) (fun i h hi=>by omega)
 ·intro k w hk hinv hw;have hz:qK f.2.1[k]<=uf f.2.1:=xm (kK hk);simp only [qK] at hz;simp only [DZ];rw [show decide ((k:Int) < len f.2.1)=true from zP hk,zD,zJ hk];simp only [zB];rw [Mt N hN];simp only [zB];refine zp.cond (fun _=>zp.ret (by simp)) fun Zw=>?_
  refine zp.Kp (fun j=>∀ i (h:i < f.2.1.length),i < j->f.2.1[i].1≠f.2.1[k].1) k ?_ ?_ N 0 (jE _) (by omega) (fun i h hi=>by omega)
  ·intro j w' hj Xv GG;simp only [Pu];have:decide ((j:Int) < (k:Int))=true:=by simpa using hj
   rw [this,zD,zJ (show j < f.2.1.length by omega)];simp only [zB];refine zp.cond (fun _=>zp.ret (by simp)) fun vI=>?_
   rw [zk (by omega)];refine GG fun i h hi=>?_
   by_cases e:i=j
   ·subst e;exact RJ vI
   ·exact Xv i h (by omega)
  ·intro w' Xv;simp only [Pu];rw [zma k,zW];simp only [zB,Ms];refine zp.cond (fun _=>zp.ret (by simp)) fun hr=>?_
   refine zp.then (Mr N hN f.1 hv.Qy true (H6 f.2.1[k].2.2.2.1) (by omega)) fun c1 hc1=>?_
   refine zp.cond (fun vI=>zp.ret fun e=>by subst e;simp at vI) fun he1=>?_
   simp only [HY,jL] at he1 Zw hr;rw [zk (by omega)];refine hw fun i h vf=>?_
   by_cases e:i=k
   ·subst e;exact ⟨Zw,fun j h hj=>Xv j h hj,hr,hc1 he1⟩
   ·exact hinv i h (by omega)
 ·intro w hinv;simp only [DZ];rw [show decide (((f.2.1.length:Nat):Int) < len f.2.1)=false from zM _,zW];refine zp.then (XD N hN f hv.Qy N f.2.2.1 true (by omega) (by omega)) fun c2 Pg=>?_
  refine zp.cond (fun vI=>zp.ret fun e=>by subst e;simp at vI) fun he2=>?_
  simp only [HY,jL] at he2;have hs:=Pg he2;rw [show f43 N f.2.2.1=_ from Px N hN f N f.2.2.1 true (by omega) (by omega) hs];simp only [zB,Jf];refine zp.cond (fun _=>zp.ret (by simp)) fun hb3=>zp.ret fun _=>?_
  simp only [VH,xB] at hb3;obtain ⟨n1,n2,n3⟩:=uK f _ f.2.2.1 true (E1 _) hs;exact ⟨hd,hv,fun i h=>hinv i h h,hs,by omega,by omega,by omega⟩
theorem Od (N:Nat) (hN:200<=N) (vs:List AS) (hl:vs.length<=10) (x:AS) (h:∀ j (hj:j < vs.length),vs[j].1≠x.1):f296 N vs (x,())=some (-1):=by
 refine zp.eq ?_;unfold f296;refine zp.Kp (fun _=>True) vs.length ?_ ?_ N 0 (jE _) (by omega) trivial
 ·intro k w hk _ hw;simp only [PJ];rw [show decide ((k:Int) < len vs)=true from zP hk,zD,zJ hk];simp only [zB,f243];rw [qW (h k hk),zW,zk (by omega)];exact hw trivial
 ·intro w _;simp only [PJ];rw [show decide (((vs.length:Nat):Int) < len vs)=false from zM _,zW];exact zp.ret rfl
theorem z88 (N:Nat) (hN:200<=N) (f:zf) (h:WF f):f162 N f=some 0:=by
 obtain ⟨g1,g2,g3⟩:=h.deep.few;refine zp.eq ?_;unfold f162;refine zp.Kp (fun _=>True) f.2.1.length ?_ ?_ N 0 (jE _) (by omega) trivial
 ·intro k w hk _ hw;have hz:qK f.2.1[k]<=uf f.2.1:=xm (kK hk);simp only [qK] at hz;obtain ⟨q1,q2,q3,q4⟩:=h.IN k hk;simp only [PF];rw [show decide ((k:Int) < len f.2.1)=true from zP hk,zD,zJ hk];simp only [zB];rw [MH N hN,zB,q1];rw [show (!true)=false from rfl,zW,qx (by simp only [zA,jL,len];omega),zi8];unfold f244;rw [Od N hN (f.2.1.take k) (by rw [P0];omega) f.2.1[k] (fun j hj=>by
   have v7:j < k:=by rw [P0] at hj;omega
   rw [Z38];exact q2 j (by omega) v7)]
  simp only [zB,MF];rw [show decide ((0:Int)<=-1)=false from rfl,zW,q3];rw [show (!true)=false from rfl,zW];rw [show f245 N f.1 (f.2.1[k].2.2.2.1.1,f.2.1[k].2.2.2.1.2) true=some 0 from ME N hN f.1 h.vars.Qy true (H6 f.2.1[k].2.2.2.1) (by omega) q4];simp only [zB,A0,pE,zW];rw [zk (by omega)];exact hw trivial
 ·intro w _;simp only [PF];rw [show decide (((f.2.1.length:Nat):Int) < len f.2.1)=false from zM _,zW];exact zp.ret rfl
theorem Im (N:Nat) (hN:200<=N) (f:zf) (h:WF f):f69 N f=some 0:=by
 obtain ⟨g1,g2,g3⟩:=h.deep.few;have h8:=h.deep.zlw;have hd:=h.deep.steps;refine zp.eq ?_;unfold f69;refine zp.then (XC N hN N f.2.2.1 1 0 (by omega) (by omega) (by omega) (fun _=>by omega) h.deep.zi3 (by omega) (by omega)) ?_;rintro _ ⟨n',rfl,c1,c2⟩;refine zp.up (fun j s=>∃ m:Int,s=xV m/\0<=m/\m<=jq f.2.2.1+uf (f.2.1.take j)) f.2.1.length ?_ ?_ N 0 (jE _) (by omega) _ ⟨n',rfl,by omega,by simp [uf];omega⟩
 ·rintro j s w hj ⟨m,rfl,d1,d2⟩ hw;have Ge:qK f.2.1[j]<=uf f.2.1:=xm (kK hj);simp only [qK] at Ge;have t1:=Qf hj;have t2:=Cf f.2.1 (j+1);simp only [qK] at t1;have hdp:=h.deep.IN _ (kK hj);simp only [Dp];rw [show decide ((j:Int) < len f.2.1)=true from zP hj,zD,zJ hj];simp only [zB];rw [PI N m (by omega)];simp only [zB,Z2b,zD];rw [show f160 N (f.2.1[j].2.2.2.1.1,f.2.1[j].2.2.2.1.2) 1 (xV m)=_ from XB N hN N (H6 f.2.1[j].2.2.2.1) 1 m (by omega) (by omega) (by omega) (by omega) (by omega) (by omega)];simp only [zB];rw [zk (by omega)];exact hw _ ⟨_,rfl,by omega,by omega⟩
 ·rintro s w ⟨m,rfl,d1,d2⟩;rw [KJ] at d2;simp only [Dp];rw [show decide (((f.2.1.length:Nat):Int) < len f.2.1)=false from zM _,zW];rw [Jf,zB,show (decide (64 < len f.1) || decide (8 < len f.2.1))=false by simp only [VH,xB,len];omega,zW];rw [PI N m (by omega)];simp only [zB,zW];rw [z89 N hN h.vars,z88 N hN f h];simp only [zB,A0,pE,zW];rw [show f163 N f f.2.2.1 true=_ from XA N hN f h.vars.Qy N f.2.2.1 true (by omega) (by omega) h.steps];simp only [zB,A0,pE,zW];rw [show f164 N f.2.2.1=_ from XX N hN f N f.2.2.1 true (by omega) (by omega) h.steps];simp only [zB,Jf];have:=h.ub1;have:=h.ub2;have:=h.ub3;obtain ⟨n1,n2,n3⟩:=uK f _ f.2.2.1 true (E1 _) h.steps;rw [show ((decide (4096 < min (qU f.2.2.1).1 1099511627776) || decide (8 < min (qU f.2.2.1).2.1 1099511627776)) || decide (67108864 < min (qU f.2.2.1).2.2 1099511627776))=false by simp only [VH,xB];omega,zW];exact zp.ret rfl
end Go.Kz
namespace Go.Kz
def z1s (op a b:Int):Int:=(f306 0 op a b).getD 0
theorem H5 (N:Nat) (a b:Int):∃ r,f341 N a b=some r:=by
 unfold f341;by_cases h:b=0
 ·rw [jg h];exact ⟨0,rfl⟩
 ·rw [qW h];simp only [zW,kM,zB];cases (!decide (Int.tmod a b=0) && !decide (decide (a < 0)=decide (b < 0))) <;> exact ⟨_,rfl⟩
theorem T2 (N:Nat) (a b:Int):∃ r,f342 N a b=some r:=by
 obtain ⟨r,h1⟩:=H5 N a b;unfold f342;rw [h1];cases decide (b=0) <;> exact ⟨_,rfl⟩
theorem z1r (N:Nat) (op a b:Int):∃ r,f306 N op a b=some r:=by
 obtain ⟨q,h1⟩:=H5 N a b;obtain ⟨m,h3⟩:=T2 N a b;have fl:∀ c:Bool,f305 N c=some (cond c 1 0):=fun c=>by cases c <;> rfl
 unfold f306;rw [h1,h3];simp only [Jf,kM,zB,fl,YI,YL];have cd:∀ (c:Bool) (x y:Option Int),(∃ r,x=some r)->(∃ r,y=some r)->∃ r,cond c x y=some r:=fun c x y hx hy=>by cases c <;> assumption
 have w:∀ x:Int,∃ r,some x=some r:=fun x=>⟨_,rfl⟩
 exact cd _ _ _ (w _) (cd _ _ _ (w _) (cd _ _ _ (w _) (cd _ _ _ (w _) (cd _ _ _ (w _) (cd _ _ _ (w _) (cd _ _ _ (w _) (cd _ _ _ (w _) (cd _ _ _ (w _) (cd _ _ _ (w _) (cd _ _ _ (w _) (cd _ _ _ (w _) (cd _ _ _ (w _) (cd _ _ _ (w _) (w _))))))))))))))
theorem z7l (N:Nat) (op a b:Int):f306 N op a b=some (z1s op a b):=by
 obtain ⟨r,h1⟩:=z1r N op a b;have:f306 0 op a b=f306 N op a b:=rfl;rw [h1,z1s,this,h1];rfl
def pM (n low high:Int):Int:=if n < low then low else if high < n then high else n
theorem DP (N:Nat) (n low high:Int) (h:low<=high):f248 N n low high=some (pM n low high):=by
 unfold f248 pM;rw [YI,YL];congr 1;split
 ·omega
 split <;> omega
def Ln (vals:List Int) (op n:Int) (l:List Int):Int:=
 if op=0 then n
 else if op=24 then vals.getD n.toNat 0
 else if op=6 then zz (0-l.getD 0 0)
 else if op=7 then (if l.getD 0 0=0 then 1 else 0)
 else if op=23 then (if l.getD 0 0=0 then l.getD 2 0 else l.getD 1 0)
 else if op=25 then l.getD (1+(pM (l.getD 0 0) 0 (l.length-2)).toNat) 0
 else z1s op (l.getD 0 0) (l.getD 1 0)
mutual
def kB (vals:List Int):Tm->Int
 | ⟨op,n,ks⟩=>Ln vals op n (z4w vals ks)
def z4w (vals:List Int):List Tm->List Int
 | []=>[]
 | k :: ks=>kB vals k :: z4w vals ks
end
theorem EG (vals:List Int):∀ l:List Tm,z4w vals l=l.map (kB vals)
 | []=>rfl
 | k :: ks=>by simp only [z4w,JU,EG vals ks]
theorem LB (vals:List Int) (t:Tm):kB vals t=Ln vals t.op t.n (t.kids.map (kB vals)):=by
 cases t;simp only [kB,EG]
theorem getD_map {vals:List Int} {l:List Tm} {k:Nat} (h:k < l.length):(l.map (kB vals)).getD k 0=kB vals l[k]:=by
 rw [E0,Z2r,gj h];rfl
theorem Head.bin {vs:List qp} {op n:Int} {I:Type} {l:List I} (h:Head vs op n l.length) (h0:¬ op=0) (Q9:¬ op=24) (h6:¬ op=6) (h7:¬ op=7) (Hd:¬ op=23) (Hc:¬ op=25):2<=l.length:=by
 have:=h.ar;simp only [wB] at this;by_cases hm:8<=op/\op<=22
 ·obtain ⟨p,q,rfl⟩:=h.two hm;simp
 ·rw [qQ (by omega),qQ (by omega),qQ hm,qQ Hd,qQ Hc] at this;simp [Ny] at this
theorem EK (N:Nat) (hN:200<=N) (vs:List qp) (vR:Bool) (vals:List Int) (hv:vals.length=vs.length):∀ (M:Nat) (t:Tm),Zv t<=M->Zv t<=100->XZ vs vR t=true->Z6 N M vals (uG t)=some (kB vals t)
 | 0,t,h,_,_=>by have:=yH t;omega
 | M+1,t,h,ht,hf=>by
  have qK:=pW t;have KQ:=ku t.kids;rw [Xx,zA,Z2k] at hf;obtain ⟨hhd,hkf⟩:=hf;have hh:=VV hhd;have kid:∀ k (hk:k < t.kids.length),Z6 N M vals (t.kids[k].1,(t.kids[k].2,(t.kids[k].3,())))=some (kB vals t.kids[k]):=fun k hk=>by
   have hm:=wJ (kK hk);exact EK N hN vs vR vals hv M t.kids[k] (by omega) (by omega) (hkf _ (kK hk))
  have CT:∀ k (hk:k < t.kids.length),f304 N (Z6 N M) (k:Int) vals (uG t)=some (kB vals t.kids[k]):=fun k hk=>by
   unfold f304;rw [show idx (uG t).2.2.1 (k:Int)=some t.kids[k] from zJ hk,zB,kid k hk];rfl
  rw [LB];show MD N (Z6 N M) vals (uG t)=_;unfold MD Ln;by_cases h0:t.op=0
  ·rw [jg h0,zD,yW h0]
  rw [qW h0,zW,qQ h0];by_cases Q9:t.op=24
  ·obtain ⟨q1,q2⟩:=hh.ref Q9;simp only [len] at q2;have h2:t.n.toNat < vals.length:=by omega
   rw [jg Q9,zD,yW Q9,show idx vals (uG t).2.1=some vals[t.n.toNat] from Vx q1 (by omega),E0,gj h2];rfl
  rw [qW Q9,zW,qQ Q9];by_cases h6:t.op=6
  ·obtain ⟨p,hp⟩:=hh.one (l:=t.kids) (.inl h6);have hk:0 < t.kids.length:=by rw [hp];simp
   rw [jg h6,zD,yW h6,show f304 N (Z6 N M) 0 vals (uG t)=_ from CT 0 hk,getD_map hk];rfl
  rw [qW h6,zW,qQ h6];by_cases h7:t.op=7
  ·obtain ⟨p,hp⟩:=hh.one (l:=t.kids) (.inr h7);have hk:0 < t.kids.length:=by rw [hp];simp
   rw [jg h7,zD,yW h7,show f304 N (Z6 N M) 0 vals (uG t)=_ from CT 0 hk,getD_map hk];simp only [zB,f305];by_cases hz:kB vals t.kids[0]=0 <;> simp [hz]
  rw [qW h7,zW,qQ h7];by_cases Hd:t.op=23
  ·have hl:t.kids.length=3:=by
    have:=hh.ar;rw [Hd] at this;simp [Ny,show wB 23=3 from rfl] at this;omega
   rw [jg Hd,zD,yW Hd,show f304 N (Z6 N M) 0 vals (uG t)=_ from CT 0 (by omega),getD_map (show 0 < t.kids.length by omega),getD_map (show 1 < t.kids.length by omega),getD_map (show 2 < t.kids.length by omega)];simp only [zB];rw [show f304 N (Z6 N M) 1 vals (uG t)=_ from CT 1 (by omega),show f304 N (Z6 N M) 2 vals (uG t)=_ from CT 2 (by omega)];by_cases hz:kB vals t.kids[0]=0 <;> simp [hz]
  rw [qW Hd,zW,qQ Hd];by_cases Hc:t.op=25
  ·obtain ⟨g1,g2⟩:=hh.many (l:=t.kids) (.inr Hc);rw [jg Hc,zD,yW Hc,show f304 N (Z6 N M) 0 vals (uG t)=_ from CT 0 (by omega),getD_map (show 0 < t.kids.length by omega)];simp only [zB,Jk];rw [show len (uG t).2.2.1=(t.kids.length:Int) from rfl,zw (n:=(t.kids.length:Int)-2) (by omega) (by omega),DP N _ 0 _ (by omega)];simp only [zB];have hb:0<=pM (kB vals t.kids[0]) 0 (t.kids.length-2)/\pM (kB vals t.kids[0]) 0 (t.kids.length-2)<=t.kids.length-2:=by
    simp only [pM];split
    ·omega
    split <;> omega
   generalize pM (kB vals t.kids[0]) 0 (t.kids.length-2)=e at *;have hk:1+e.toNat < t.kids.length:=by omega
   rw [zw (n:=1+e) (by omega) (by omega),show (1+e:Int)=((1+e.toNat:Nat):Int) by omega,CT _ hk,getD_map hk];rfl
  rw [qW Hc,zW,qQ Hc];have g:=hh.bin (l:=t.kids) h0 Q9 h6 h7 Hd Hc;rw [show f304 N (Z6 N M) 0 vals (uG t)=_ from CT 0 (by omega),show f304 N (Z6 N M) 1 vals (uG t)=_ from CT 1 (by omega),getD_map (show 0 < t.kids.length by omega),getD_map (show 1 < t.kids.length by omega)];simp only [zB];rw [z7l];rfl
end Go.Kz
namespace Go.Kz
structure RS where
 vals:List Int
 outs:List Int
 time:Int
def Cp (t:Int) (s:Int×Bool) (x:Int):Int×Bool:=if t<=x/\(s.2=false\/x < s.1) then (x,true) else s
def Nr (l:List Int) (t:Int):Int:=(l.foldl (Cp t) (t,false)).1
theorem z7t (N:Nat) (hN:200<=N) (l:List Int) (t:Int) (hl:l.length<=32):f252 N l t=some (Nr l t):=by
 refine zp.eq ?_;unfold f252;refine zp.up (fun j s=>s=(l.take j).foldl (Cp t) (t,false)) l.length ?_ ?_ N 0 (jE _) (by omega) _ rfl
 ·rintro j ⟨b,fd⟩ w hj hinv hw;simp only [PW];rw [show decide ((j:Int) < len l)=true from zP hj,zD,zJ hj];simp only [zB,Jf,kM,gid];have e:=Z47 (f:=Cp t) (b:=(t,false)) (l:=l.take j) (l':=[l[j]]);rw [<-zo hj,<-hinv] at e;rw [zk (by omega)];refine zp.cond (fun hb=>hw _ ?_) fun hb=>hw _ ?_
  ·simp only [zA,HJ,A1,jL] at hb;rw [e];simp only [Z2g,Z3m,Cp];rw [yW hb]
  ·rw [e];simp only [Z2g,Z3m,Cp];rw [qQ];intro hc;have:(decide (t<=l[j]) && (!fd || decide (l[j] < b)))=true:=by
    simp only [zA,HJ,A1,jL];exact hc
   rw [hb] at this;simp at this
 ·rintro ⟨b,fd⟩ w hinv;simp only [PW];rw [show decide (((l.length:Nat):Int) < len l)=false from zM _,zW];rw [KJ] at hinv;refine zp.ret ?_;rw [Nr,<-hinv]
def vlo (f:zf) (v:Int):Int:=match f.1[v.toNat]? with
 | some x=>x.2.2.1
 | none=>0
def vhi (f:zf) (v:Int):Int:=match f.1[v.toNat]? with
 | some x=>x.2.2.2.1
 | none=>0
def Vr (c:Int) (t:Tm) (body:RS->RS):Nat->RS->RS
 | 0,s=>s
 | n+1,s=>if kB s.vals t=0 then ⟨s.vals,s.outs,zz (s.time+c)⟩ else Vr c t body n (body ⟨s.vals,s.outs,zz (s.time+c)⟩)
mutual
def Uy (f:zf) (hs:List Int):Sp->RS->RS
 | ⟨a,c,v,n,t,x,y,b⟩,s=>
  if a=4 then Vr c t (fun s=>wo f hs x s) n.toNat s
  else if a=0 then ⟨wx s.vals v (pM (kB s.vals t) (vlo f v) (vhi f v)),s.outs,zz (s.time+c)⟩
  else if a=1 then ⟨s.vals,s.outs++[kB s.vals t],zz (s.time+c)⟩
  else if a=3 then (if kB s.vals t=0 then wo f hs y ⟨s.vals,s.outs,zz (s.time+c)⟩ else wo f hs x ⟨s.vals,s.outs,zz (s.time+c)⟩)
  else if a=5 then ⟨wx s.vals v (pM (hs.getD n.toNat 0) (vlo f v) (vhi f v)),s.outs,zz (s.time+c)⟩
  else if a=6 then ⟨s.vals,s.outs,Nr b (zz (s.time+c))⟩
  else ⟨s.vals,s.outs,zz (s.time+c)⟩
def wo (f:zf) (hs:List Int):List Sp->RS->RS
 | [],s=>s
 | x :: l,s=>wo f hs l (Uy f hs x s)
end
theorem P4 (f:zf) (hs:List Int) (x:Sp) (s:RS):Uy f hs x s =
  if x.act=4 then Vr x.cost x.term (fun s=>wo f hs x.jG s) x.n.toNat s
  else if x.act=0 then ⟨wx s.vals x.var (pM (kB s.vals x.term) (vlo f x.var) (vhi f x.var)),s.outs,zz (s.time+x.cost)⟩
  else if x.act=1 then ⟨s.vals,s.outs++[kB s.vals x.term],zz (s.time+x.cost)⟩
  else if x.act=3 then (if kB s.vals x.term=0 then wo f hs x.uw ⟨s.vals,s.outs,zz (s.time+x.cost)⟩ else wo f hs x.jG ⟨s.vals,s.outs,zz (s.time+x.cost)⟩)
  else if x.act=5 then ⟨wx s.vals x.var (pM (hs.getD x.n.toNat 0) (vlo f x.var) (vhi f x.var)),s.outs,zz (s.time+x.cost)⟩
  else if x.act=6 then ⟨s.vals,s.outs,Nr x.bounds (zz (s.time+x.cost))⟩
  else ⟨s.vals,s.outs,zz (s.time+x.cost)⟩:=by cases x;simp only [Uy]
theorem B3 (f:zf) (hs:List Int):∀ (l:List Sp) (x:Sp) (s:RS),wo f hs (l++[x]) s=Uy f hs x (wo f hs l s)
 | [],x,s=>by simp only [Zu,wo]
 | y :: l,x,s=>by simp only [ue,wo,B3 f hs l x]
structure R6 (s s':RS) (o:Int):Prop where
 vals:s'.vals.length=s.vals.length
 outs:(s'.outs.length:Int)<=s.outs.length+o
 more:s.outs.length<=s'.outs.length
theorem B7 {c:Int} {t:Tm} {body:RS->RS} {o:Int} (ho:0<=o) (hb:∀ s,R6 s (body s) o):∀ (n:Nat) (s:RS),R6 s (Vr c t body n s) (n*o)
 | 0,s=>⟨rfl,by simp [Vr],yS _⟩
 | n+1,s=>by
  simp only [Vr];have hn:(0:Int)<=n*o:=R3 (by omega) ho;have e:((n+1:Nat):Int)*o=n*o+o:=by rw [Int.natCast_add,Z4u];simp
  split
  ·exact ⟨rfl,by simp only;rw [e];omega,yS _⟩
  ·obtain ⟨a1,a2,a3⟩:=hb ⟨s.vals,s.outs,zz (s.time+c)⟩;obtain ⟨b1,b2,b3⟩:=B7 ho hb n (body ⟨s.vals,s.outs,zz (s.time+c)⟩);exact ⟨by rw [b1,a1],by rw [e];simp only at a2;omega,Z1e a3 b3⟩
theorem ER (l:List Int) (i x:Int):(wx l i x).length=l.length:=by simp [wx]
theorem xH (f:zf) (hs:List Int):∀ (M:Nat) (l:List Sp) (top:Bool),jq l < M->JD f top l->∀ s,R6 s (wo f hs l s) (qU l).2.1
 | 0,l,_,h,_,_=>by omega
 | M+1,[],_,_,_,s=>⟨rfl,by simp [wo,qU],yS _⟩
 | M+1,x :: l,top,h,zq,s=>by
  simp only [jq] at h;have he:=kC x;have hp:=yH x.term;simp only [JD] at zq;have YO:=Cw f _ _ zq.1;obtain ⟨⟨q1,q2,q3⟩,q4,q5⟩:=(ZQ ..).1 zq.1;obtain ⟨a1,a2,a3⟩:=uK f _ x.jG false (E1 _) q4;obtain ⟨b1,b2,b3⟩:=uK f _ x.uw false (E1 _) q5;have kx:=fun s=>xH f hs M x.jG false (by omega) q4 s
  have ky:=fun s=>xH f hs M x.uw false (by omega) q5 s
  have kl:=fun s=>xH f hs M l top (by omega) zq.2 s
  have one:R6 s (Uy f hs x s) (R7 x).2.1:=by
   rw [P4,Pm];by_cases h4:x.act=4
   ·rw [yW h4,qQ (show ¬ x.act=1 by omega),qQ (show ¬ x.act=3 by omega),yW h4];have:=B7 (c:=x.cost) (t:=x.term) (body:=fun s=>wo f hs x.jG s) a2 kx x.n.toNat s;have e:((x.n.toNat:Nat):Int)=x.n:=by have:=q2.n0;omega
    rw [e] at this;simp only;rw [show (0:Int)+(qU x.jG).2.1=(qU x.jG).2.1 by omega];exact this
   rw [qQ h4];by_cases h0:x.act=0
   ·rw [yW h0,qQ (show ¬ x.act=1 by omega),qQ (show ¬ x.act=3 by omega),qQ h4];exact ⟨ER ..,by simp,yS _⟩
   rw [qQ h0];by_cases h1:x.act=1
   ·rw [yW h1,yW h1];exact ⟨rfl,by simp,by simp⟩
   rw [qQ h1,qQ h1];by_cases h3:x.act=3
   ·rw [yW h3,yW h3];simp only;split
    ·obtain ⟨c1,c2,c3⟩:=ky ⟨s.vals,s.outs,zz (s.time+x.cost)⟩;simp only at c2;exact ⟨c1,by omega,c3⟩
    ·obtain ⟨c1,c2,c3⟩:=kx ⟨s.vals,s.outs,zz (s.time+x.cost)⟩;simp only at c2;exact ⟨c1,by omega,c3⟩
   rw [qQ h3,qQ h3,qQ h4];by_cases h5:x.act=5
   ·rw [yW h5];exact ⟨ER ..,by simp,yS _⟩
   rw [qQ h5];by_cases h6:x.act=6
   ·rw [yW h6];exact ⟨rfl,by simp,yS _⟩
   rw [qQ h6];exact ⟨rfl,by simp,yS _⟩
  simp only [wo,qU];obtain ⟨c1,c2,c3⟩:=one;obtain ⟨d1,d2,d3⟩:=kl (Uy f hs x s);exact ⟨by rw [d1,c1],by omega,Z1e c3 d3⟩
end Go.Kz
namespace Go.Kz
abbrev zn8:=(zf×(Unit×(Unit×(Unit×(Int×Unit)))))×((List Int)×((List Int)×((List Int)×Unit)))
@[reducible] def OV (f:zf) (hs:List Int) (s:RS):zn8:=((f,((),((),((),(s.time,()))))),(s.vals,(hs,(s.outs,()))))
theorem zco {f:zf} {v:Int} (h:CR f.1 v=true):∃ k:Nat,∃ hk:k < f.1.length,v=k/\idx f.1 v=some f.1[k]/\vlo f v=f.1[k].2.2.1/\vhi f v=f.1[k].2.2.2.1:=by
 obtain ⟨k,hk,rfl,_⟩:=T8 h;exact ⟨k,hk,rfl,zJ hk,by simp [vlo,hk],by simp [vhi,hk]⟩
theorem MC (N:Nat) (f:zf) (hv:Zq f.1) (hs:List Int) (v n:Int) (h:CR f.1 v=true) (s:RS) (hl:s.vals.length=f.1.length) :
  f251 N v n f s.time s.vals hs s.outs=some (((),()),OV f hs ⟨wx s.vals v (pM n (vlo f v) (vhi f v)),s.outs,s.time⟩):=by
 obtain ⟨k,hk,rfl,e1,e2,e3⟩:=zco h;unfold f251;rw [e1];simp only [zB];rw [DP N n _ _ (hv.each k hk).Qy.1,zB,qx (by simp only [gU,zA,jL];omega)];rw [zJ (show k < s.vals.length by omega)];simp only [zB];rw [e2,e3]
theorem RI (N:Nat) (hN:5000<=N) (f:zf) (t:Tm) (ht:Zv t<=100) (vR:Bool) (h:C7 f.1 vR t) (vals:List Int) (hl:vals.length=f.1.length):f249 N vals (t.1,(t.2,(t.3,())))=some (kB vals t):=
 EK N (by omega) f.1 vR vals hl N t (by omega) ht h.1
theorem z7u (N:Nat) (hN:5000<=N) (f:zf) (hs:List Int) (ko:Kk) (x:Sp) (o:Int) (ho:0<=o) (B:Int) (h0:0<=x.n) (h4:x.n<=4096) (ht:Zv x.term<=100) (hT:C7 f.1 false x.term)
  (hk:∀ s,R6 s (wo f hs x.jG s) o)
  (hr:∀ s:RS,s.vals.length=f.1.length->s.outs.length+o<=B->ko x.jG f s.time s.vals hs s.outs=some (((),()),OV f hs (wo f hs x.jG s)))
  (s:RS) (hl:s.vals.length=f.1.length) (hB:s.outs.length+x.n*o<=B) :
  f250 N ko (R9 x) f s.time s.vals hs s.outs=some (((),()),OV f hs (Vr x.cost x.term (fun s=>wo f hs x.jG s) x.n.toNat s)):=by
 unfold f250;refine zp.eq ?_;obtain ⟨n,hn⟩:∃ n:Nat,x.n=n:=⟨x.n.toNat,by omega⟩;rw [hn] at hB h4;rw [show x.n.toNat=n by omega];refine zp.up (fun j u=>∃ z:RS,u=(f,(z.time,(z.vals,(hs,z.outs))))/\z.vals.length=f.1.length/\z.outs.length+((n-j:Nat):Int)*o<=B/\
   Vr x.cost x.term (fun s=>wo f hs x.jG s) n s=Vr x.cost x.term (fun s=>wo f hs x.jG s) (n-j) z) n ?_ ?_ N 0 (jE _) (by omega) _ ⟨s,rfl,hl,by simpa using hB,rfl⟩
 ·rintro j u w hj ⟨z,rfl,z1,z2,z3⟩ hw;simp only [PK];rw [jg (show (j:Int) < x.n by omega),zD];rw [show f249 N z.vals ((R9 x).2.2.2.2.1.1,(R9 x).2.2.2.2.1.2)=_ from (RI N hN f x.term ht false hT z.vals z1)];simp only [zB];obtain ⟨m,hm⟩:∃ m,n-j=m+1:=⟨n-j-1,by omega⟩;rw [hm] at z2 z3;simp only [Vr] at z3;by_cases hz:kB z.vals x.term=0
  ·rw [jg hz,zD];rw [yW hz] at z3;rw [z3];exact zp.ret rfl
  ·rw [qW hz,zW];rw [qQ hz] at z3;have em:((m+1:Nat):Int)*o=m*o+o:=by rw [Int.natCast_add,Z4u];simp
   have em2:(0:Int)<=m*o:=R3 (by omega) ho;rw [show ko (R9 x).2.2.2.2.2.1 f (zz (z.time+(R9 x).2.1)) z.vals hs z.outs=_ from hr ⟨z.vals,z.outs,zz (z.time+x.cost)⟩ z1 (by simp only;omega)];simp only [zB];rw [zk (by omega)];obtain ⟨k1,k2,k3⟩:=hk ⟨z.vals,z.outs,zz (z.time+x.cost)⟩;refine hw _ ⟨_,rfl,by rw [k1];exact z1,?_,by rw [z3,show n-(j+1)=m by omega]⟩;simp only at k2;rw [show n-(j+1)=m by omega];omega
 ·rintro u w ⟨z,rfl,z1,z2,z3⟩;simp only [PK];rw [qW (show ¬ (n:Int) < x.n by omega),zW];rw [Z4i] at z3;rw [z3];exact zp.ret rfl
theorem xI:(4294967296:Int)<=(room:Int):=by decide
theorem WT (N:Nat) (hN:5000<=N) (f:zf) (hv:Zq f.1) (hs:List Int) (hhs:hs.length=f.2.1.length):∀ (M:Nat) (l:List Sp) (top:Bool),jq l < M->jq l<=100->JD f top l->∀ s:RS,s.vals.length=f.1.length->s.outs.length+(qU l).2.1<=1000000->
  XU N M l f s.time s.vals hs s.outs=some (((),()),OV f hs (wo f hs l s))
 | 0,l,_,h,_,_,_,_,_=>by omega
 | M+1,l,top,h,ht,zq,s,hl,hB=>by
  show Mh N (XU N M) l f s.time s.vals hs s.outs=_;have KQ:=wV l;have rb:=xI;unfold Mh;refine zp.eq ?_;refine zp.up (fun j u=>∃ z:RS,z=wo f hs (l.take j) s/\u=(f,(z.time,(z.vals,(hs,z.outs))))/\z.vals.length=f.1.length/\z.outs.length<=s.outs.length+(qU (l.take j)).2.1/\0<=(qU (l.take j)).2.1) l.length ?_ ?_ N 0 (jE _) (by omega) _ ⟨s,by simp [wo],rfl,hl,by simp [qU],by simp [qU]⟩
  ·rintro j u w hj ⟨z,hz,rfl,z1,z2,z4⟩ hw;have hm:=kQ (kK hj);have he:=kC l[j];have htp:=yH l[j].term;have hsj:=YV zq j hj;have YO:=Cw f _ _ hsj;obtain ⟨⟨q1,q2,q3⟩,q4,q5⟩:=(ZQ ..).1 hsj;obtain ⟨a1,a2,a3⟩:=uK f _ l[j].jG false (E1 _) q4;obtain ⟨b1,b2,b3⟩:=uK f _ l[j].uw false (E1 _) q5;have A7:=Pn (l.take j) l[j];rw [<-zo hj] at A7;have hrn:=B3 f hs (l.take j) l[j] s;rw [<-zo hj,<-hz] at hrn;have hle:(qU (l.take (j+1))).2.1<=(qU l).2.1:=by
    have:JD f top (l.drop (j+1)):=Ho fun i h=>by
     have hi:j+1+i < l.length:=by rw [Lx] at h;omega
     have:=YV zq (j+1+i) hi;rw [Z3t];have e:decide (i+1=(l.drop (j+1)).length)=decide (j+1+i+1=l.length):=by
      rw [Lx];congr 1;simp only [eq_iff_iff];omega
     rw [e];exact this
    have hd:=uK f _ (l.drop (j+1)) top (E1 _) this;have app:∀ a b:List Sp,(qU (a++b)).2.1=(qU a).2.1+(qU b).2.1:=fun a b=>by
     induction a with
     | nil=>simp [qU]
     | cons x a ih=>simp only [ue,qU,ih];omega
    have e:=app (l.take (j+1)) (l.drop (j+1));rw [RU] at e;have:=hd.2.1;omega
   have X9:(qU (l.take (j+1))).2.1=(qU (l.take j)).2.1+(R7 l[j]).2.1:=by rw [A7]
   have hkp:R6 z (Uy f hs l[j] z) (R7 l[j]).2.1:=by
    have:=xH f hs (jq [l[j]]+1) [l[j]] (top && decide (j+1=l.length)) (by omega) (by simp only [JD,List.isEmpty_nil,Z31];exact ⟨hsj,trivial⟩) z;simpa only [wo,qU,Int.add_zero] using this
   obtain ⟨k1,k2,k3⟩:=hkp;have step:∀ u:zf×(Int×(List Int×(List Int×List Int))),u=(f,((Uy f hs l[j] z).time,((Uy f hs l[j] z).vals,(hs,(Uy f hs l[j] z).outs))))->zp (w (zz ((j:Int)+1),u)) fun y=>y=(((),()),OV f hs (wo f hs l s)):=by
    rintro u rfl;rw [zk (by omega)];exact hw _ ⟨Uy f hs l[j] z,hrn.symm,rfl,by rw [k1];exact z1,by rw [X9];omega,by rw [X9];have:=YO.2.1;omega⟩
   rw [P4] at step;rw [Pm] at X9;simp only [Wa];rw [show decide ((j:Int) < len l)=true from zP hj,zD,zJ hj];simp only [zB];by_cases h4:l[j].act=4
   ·rw [jg h4,zD];rw [yW h4] at step;rw [qQ (show ¬ l[j].act=1 by omega),qQ (show ¬ l[j].act=3 by omega),yW h4] at X9;simp only at X9;rw [show (0:Int)+(qU l[j].jG).2.1=(qU l[j].jG).2.1 by omega] at X9;rw [show f250 N (XU N M) (l[j].1,(l[j].2,(l[j].3,(l[j].4,((l[j].5.1,(l[j].5.2,(l[j].5.3,()))),(l[j].6,(l[j].7,(l[j].8,())))))))) f z.time z.vals hs z.outs=_ from
     z7u N hN f hs (XU N M) l[j] (qU l[j].jG).2.1 a2 1000000 q2.n0 (q2.n h4) (by omega) q3 (fun s=>xH f hs _ l[j].jG false (E1 _) q4 s)
      (fun s c1 c2=>WT N hN f hv hs hhs M l[j].jG false (by omega) (by omega) q4 s c1 c2) z z1 (by omega)]
    simp only [zB];exact step _ rfl
   rw [qW h4,zW];rw [qQ h4] at step;have vt:=fun vals hl=>(RI N hN f l[j].term (by omega) false q3 vals hl)
   by_cases h0:l[j].act=0
   ·rw [jg h0,zD,I7];rw [yW h0] at step;rw [vt z.vals z1,zB];rw [show f251 N l[j].3 (kB z.vals l[j].term) f (zz (z.time+l[j].2)) z.vals hs z.outs=_ from MC N f hv hs l[j].var _ (q1.var (.inl h0)) ⟨z.vals,z.outs,zz (z.time+l[j].cost)⟩ z1];simp only [zB];exact step _ rfl
   rw [qW h0,zW];rw [qQ h0] at step;by_cases h1:l[j].act=1
   ·rw [jg h1,zD];rw [yW h1] at step X9;rw [vt z.vals z1,zB];simp only at X9;refine zp.qR (by simp only [jL];omega) ?_;exact step _ rfl
   rw [qW h1,zW];rw [qQ h1] at step X9;by_cases h3:l[j].act=3
   ·rw [jg h3,zD];rw [yW h3] at step X9;simp only at X9;rw [vt z.vals z1,zB];by_cases Fp:kB z.vals l[j].term=0
    ·rw [jg Fp,show (!true)=false from rfl,zW];rw [yW Fp] at step;rw [show XU N M l[j].7 f (zz (z.time+l[j].2)) z.vals hs z.outs=_ from WT N hN f hv hs hhs M l[j].uw false (by omega) (by omega) q5 ⟨z.vals,z.outs,zz (z.time+l[j].cost)⟩ z1 (by simp only;omega)];simp only [zB];exact step _ rfl
    ·rw [qW Fp,show (!false)=true from rfl,zD];rw [qQ Fp] at step;rw [show XU N M l[j].6 f (zz (z.time+l[j].2)) z.vals hs z.outs=_ from WT N hN f hv hs hhs M l[j].jG false (by omega) (by omega) q4 ⟨z.vals,z.outs,zz (z.time+l[j].cost)⟩ z1 (by simp only;omega)];simp only [zB];exact step _ rfl
   rw [qW h3,zW];rw [qQ h3] at step;by_cases h5:l[j].act=5
   ·rw [jg h5,zD];rw [yW h5] at step;obtain ⟨r1,r2⟩:=q1.rel h5;simp only [len] at r2;have hk:l[j].n.toNat < hs.length:=by omega
    have ei:idx hs l[j].4=some (hs.getD l[j].n.toNat 0):=by
     rw [show idx hs l[j].4=some hs[l[j].n.toNat] from Vx r1 (by omega),E0,gj hk];rfl
    refine zp.qR (by simp only [gU,zA,jL];omega) ?_;rw [ei,zB];rw [show f251 N l[j].3 (hs.getD l[j].n.toNat 0) f (zz (z.time+l[j].2)) z.vals hs z.outs=_ from MC N f hv hs l[j].var _ (q1.var (.inr h5)) ⟨z.vals,z.outs,zz (z.time+l[j].cost)⟩ z1];simp only [zB];exact step _ rfl
   rw [qW h5,zW];rw [qQ h5] at step;by_cases h6:l[j].act=6
   ·rw [jg h6,zD];rw [yW h6] at step;rw [z7t N (by omega) _ _ (q1.set h6).2.zdk,zB];exact step _ rfl
   rw [qW h6,zW];rw [qQ h6] at step;exact step _ rfl
  ·rintro u w ⟨z,hz,rfl,z1,z2,z4⟩;simp only [Wa];rw [show decide (((l.length:Nat):Int) < len l)=false from zM _,zW];rw [KJ] at hz;rw [<-hz];exact zp.ret rfl
end Go.Kz
namespace Go.Kz
abbrev Y8:=List Int×(List Int×(List Int×Unit))
def X6 (a:Y8) (k:Int):List Int:=if k=1 then a.1 else if k=2 then a.2.1 else a.2.2.1
structure Fits (l:List qp) (xs:List Int):Prop where
 len:xs.length=l.length
 bd:∀ i (h:i < l.length) (h':i < xs.length),l[i].2.2.1<=xs[i]/\xs[i]<=l[i].2.2.2.1
def LG (vs:List qp) (a:Y8):Prop:=∀ k:Int,1<=k->k<=3->Fits (jD vs k) (X6 a k)
def gK (vs:List qp) (k:Int) (j:Nat):Nat:=(jD (vs.take j) k).length
def R8 (vs:List qp) (a:Y8) (j:Nat):Int:=match vs[j]? with
 | some v=>if v.2.1=0 then v.2.2.2.2.1 else (X6 a v.2.1).getD (gK vs v.2.1 j) 0
 | none=>0
def P3 (vs:List qp) (a:Y8) (n:Nat):List Int:=(List.range n).map (R8 vs a)
theorem EI (vs:List qp) (a:Y8) (n:Nat):P3 vs a (n+1)=P3 vs a n++[R8 vs a n]:=by
 simp [P3,RW]
theorem Cx (vs:List qp) (a:Y8) (n:Nat):(P3 vs a n).length=n:=by simp [P3]
theorem Gg (vs:List qp) (k:Int) {j:Nat} (hj:j < vs.length):gK vs k (j+1)=if vs[j].2.1=k then gK vs k j+1 else gK vs k j:=by
 unfold gK;rw [zo hj,uB];split <;> simp
theorem Xa (vs:List qp) (k:Int):gK vs k vs.length=(jD vs k).length:=by simp [gK]
theorem zdd (vs:List qp) {j:Nat} (hj:j < vs.length):∃ h:gK vs vs[j].2.1 j < (jD vs vs[j].2.1).length,(jD vs vs[j].2.1)[gK vs vs[j].2.1 j]=vs[j]:=by
 have e:jD vs vs[j].2.1=jD (vs.take j) vs[j].2.1++(vs[j] :: jD (vs.drop (j+1)) vs[j].2.1):=by
  have h1:vs=vs.take j++(vs[j] :: vs.drop (j+1)):=by
   rw [Z5l,RU]
  have h2:∀ (l m:List qp) (v:qp),jD (l++(v :: m)) v.2.1=jD l v.2.1++(v :: jD m v.2.1):=fun l m v=>by
   simp [jD]
  have:=h2 (vs.take j) (vs.drop (j+1)) vs[j];rw [<-h1] at this;exact this
 have hl:gK vs vs[j].2.1 j < (jD vs vs[j].2.1).length:=by rw [e];simp [gK]
 refine ⟨hl,?_⟩;have:(jD vs vs[j].2.1)[gK vs vs[j].2.1 j]? = some vs[j]:=by rw [e];simp [gK]
 rw [gj hl] at this;exact Option.some.inj this
theorem TZ {vs:List qp} {a:Y8} (hv:Zq vs) (ha:LG vs a) {j:Nat} (hj:j < vs.length) (h0:¬ vs[j].2.1=0) :
  ∃ h:gK vs vs[j].2.1 j < (X6 a vs[j].2.1).length,R8 vs a j=(X6 a vs[j].2.1)[gK vs vs[j].2.1 j]/\vs[j].2.2.1<=R8 vs a j/\R8 vs a j<=vs[j].2.2.2.1:=by
 have hk:=hv.each j hj;have f:=ha vs[j].2.1 (by have:=hk.za3;omega) hk.za2;obtain ⟨h1,h2⟩:=zdd vs hj;have h3:gK vs vs[j].2.1 j < (X6 a vs[j].2.1).length:=by rw [f.len];exact h1
 have e:R8 vs a j=(X6 a vs[j].2.1)[gK vs vs[j].2.1 j]:=by
  simp only [R8,gj hj];rw [qQ h0,E0,gj h3];rfl
 have b:=f.bd _ h1 h3;rw [h2,<-e] at b;exact ⟨h3,e,b⟩
theorem EH {vs:List qp} {a:Y8} (hv:Zq vs) {j:Nat} (hj:j < vs.length) (h0:vs[j].2.1=0):R8 vs a j=vs[j].2.2.2.2.1/\vs[j].2.2.1<=R8 vs a j/\R8 vs a j<=vs[j].2.2.2.1:=by
 have e:R8 vs a j=vs[j].2.2.2.2.1:=by
  simp only [R8,gj hj];rw [yW h0]
 have:=(hv.each j hj).init h0;exact ⟨e,by omega,by omega⟩
end Go.Kz
namespace Go.Kz
@[reducible] def QT (vs:List qp) (a:Y8) (j:Nat):List (List Int):=[[],a.1.drop (gK vs 1 j),a.2.1.drop (gK vs 2 j),a.2.2.1.drop (gK vs 3 j)]
def IS (f:zf) (vals:List Int):List Int:=f.2.1.map fun h=>pM (kB vals (H6 h.2.2.2.1)) h.2.1 h.2.2.1
theorem z86 (N:Nat) (hN:5000<=N) (f:zf) (h:WF f) (a:Y8) (ha:LG f.1 a):f168 N f a=some (((),(0,())),OV f (IS f (P3 f.1 a f.1.length)) ⟨P3 f.1 a f.1.length,[],0⟩):=by
 obtain ⟨g1,g2,g3⟩:=h.deep.few;have hv:=h.vars;have r1:=vP;refine zp.eq ?_;unfold f168;rw [Im N (by omega) f h];simp only [zB,A0,pE,zW];refine zp.up (fun j s=>s=(false,(P3 f.1 a j,QT f.1 a j))) f.1.length ?_ ?_ N 0 (jE _) (by omega) _ (by simp [P3,QT,gK,jD])
 ·rintro j s w hj rfl hw;have hk0:=(hv.each j hj).za3;have hk3:=(hv.each j hj).za2;have hlen:=Cx f.1 a j;have c1:=Gg f.1 1 hj;have c2:=Gg f.1 2 hj;have c3:=Gg f.1 3 hj;have Ja:decide ((Nat.succ (List.length (P3 f.1 a j)))<=room)=true:=by simp only [jL];omega
  have nb:∀ x:Int,f.1[j].2.2.1<=x->x<=f.1[j].2.2.2.1->((false || decide (x < f.1[j].2.2.1)) || decide (f.1[j].2.2.2.1 < x))=false:=fun x b1 b2=>by
   simp only [VH,xB,VL];omega
  simp only [PD];rw [show decide ((j:Int) < len f.1)=true from zP hj,zD,zJ hj];simp only [zB];by_cases h0:f.1[j].2.1=0
  ·obtain ⟨q2,q3,q4⟩:=EH (a:=a) hv hj h0;rw [jg h0,show (!true)=false from rfl,zW,Ja];refine zp.qR rfl ?_;rw [zk (by omega),<-q2];refine hw _ ?_;simp only [QT];rw [c1,c2,c3,qQ (by omega),qQ (by omega),qQ (by omega),EI]
  rw [qW h0,show (!false)=true from rfl,zD];obtain ⟨q1,q2,q3,q4⟩:=TZ hv ha hj h0;have dr:∀ (l:List Int) (c:Nat),c < l.length->len (l.drop c)≠0/\idx (l.drop c) 0=l[c]?/\sub (l.drop c) 1 (len (l.drop c))=l.drop (c+1):=fun l c hc=>by
   refine ⟨by simp only [len,Lx];omega,?_,?_⟩
   ·rw [show (0:Int)=((0:Nat):Int) from rfl,Cc,Z27];rfl
   ·show ((l.drop c).drop 1).take _=_;rw [Ng,Z2d];simp only [len,Lx];omega
  have AU:f.1[j].2.1=((f.1[j].2.1.toNat:Nat):Int):=by omega
  have hib:gU (QT f.1 a j) f.1[j].2.1=true:=by simp only [gU,QT,GO,He,zA,jL];omega
  have key:idx (QT f.1 a j) f.1[j].2.1=some ((X6 a f.1[j].2.1).drop (gK f.1 f.1[j].2.1 j))/\wx (QT f.1 a j) f.1[j].2.1 ((X6 a f.1[j].2.1).drop (gK f.1 f.1[j].2.1 j+1))=QT f.1 a (j+1):=by
   have:f.1[j].2.1=1\/f.1[j].2.1=2\/f.1[j].2.1=3:=by omega
   simp only [QT];rw [c1,c2,c3];rcases this with e | e | e <;> rw [e] <;> exact ⟨rfl,rfl⟩
  obtain ⟨d1,d2,d3⟩:=dr (X6 a f.1[j].2.1) (gK f.1 f.1[j].2.1 j) q1;rw [hib,key.1];refine zp.qR rfl ?_;simp only [zB];rw [qW d1,zW,d2,gj q1,<-q2];refine zp.qR rfl ?_;simp only [zB];refine zp.qR rfl (zp.qR ?_ (zp.qR rfl ?_))
  ·simp only [zA,jL];have:len ((X6 a f.1[j].2.1).drop (gK f.1 f.1[j].2.1 j))=(((X6 a f.1[j].2.1).length-gK f.1 f.1[j].2.1 j:Nat):Int):=by simp only [len,Lx]
   rw [this];omega
  simp only [Jf,zB];rw [nb _ q3 q4,Ja,d3,key.2];refine zp.qR rfl ?_;rw [zk (by omega)];refine hw _ ?_;rw [EI]
 ·rintro s w rfl;simp only [PD];rw [show decide (((f.1.length:Nat):Int) < len f.1)=false from zM _,zW];have em:∀ k:Nat,(hk:k < 4)->((QT f.1 a f.1.length)[k]'hk)=[]:=by
   intro k hk;have d1:a.1.drop (gK f.1 1 f.1.length)=[]:=Dt (by rw [Xa,<-(ha 1 (by omega) (by omega)).len];exact yS _);have d2:a.2.1.drop (gK f.1 2 f.1.length)=[]:=Dt (by rw [Xa,<-(ha 2 (by omega) (by omega)).len];exact yS _);have d3:a.2.2.1.drop (gK f.1 3 f.1.length)=[]:=Dt (by rw [Xa,<-(ha 3 (by omega) (by omega)).len];exact yS _);have:k=0\/k=1\/k=2\/k=3:=by omega
   rcases this with rfl | rfl | rfl | rfl
   ·rfl
   ·exact d1
   ·exact d2
   ·exact d3
  refine zp.Kp (fun _=>True) 4 ?_ ?_ N 0 (jE _) (by omega) trivial
  ·intro k w' hk _ GG;simp only [Wc];rw [jg (show (k:Int) < 4 by omega),zD,zJ (l:=QT f.1 a f.1.length) hk,em k hk];simp only [zB];rw [show decide (0 < len ([]:List Int))=false from rfl,zW,zk (by omega)];exact GG trivial
  ·intro w' _;simp only [Wc];rw [show decide (((4:Nat):Int) < 4)=false from rfl,zW,zW];generalize X7:P3 f.1 a f.1.length=vals;have hl:vals.length=f.1.length:=by rw [<-X7,Cx]
   refine zp.up (fun j s=>s=(f.2.1.take j).map fun h=>pM (kB vals (H6 h.2.2.2.1)) h.2.1 h.2.2.1) f.2.1.length ?_ ?_ N 0 (jE _) (by omega) [] rfl
   ·rintro j s w hj rfl hw;have hz:qK f.2.1[j]<=uf f.2.1:=xm (kK hj);simp only [qK] at hz;simp only [Wb];rw [show decide ((j:Int) < len f.2.1)=true from zP hj,zD,zJ hj];simp only [zB];rw [show f249 N vals (f.2.1[j].2.2.2.1.1,f.2.1[j].2.2.2.1.2)=_ from (RI N hN f (H6 f.2.1[j].2.2.2.1) (by omega) true (h.IN j hj).term vals hl)];simp only [zB];rw [DP N _ _ _ (Vn.1 (h.IN j hj).Qy).1];simp only [zB];refine zp.qR (by simp only [jL,Jk,P0];omega) ?_;rw [zk (by omega)];refine hw _ ?_;rw [zo hj,RK];rfl
   ·rintro s w rfl;simp only [Wb];rw [show decide (((f.2.1.length:Nat):Int) < len f.2.1)=false from zM _,zW,KJ];exact zp.ret rfl
def Gq (f:zf) (a:Y8):RS:=wo f (IS f (P3 f.1 a f.1.length)) f.2.2.1 ⟨P3 f.1 a f.1.length,[],0⟩
theorem z0i (N:Nat) (hN:5000<=N) (f:zf) (h:WF f) (a:Y8) (ha:LG f.1 a):f73 N f a=some (((Gq f a).outs,((Gq f a).time,())),0):=by
 obtain ⟨g1,g2,g3⟩:=h.deep.few;have h2:=h.ub2;unfold f73;rw [z86 N hN f h a ha];simp only [zB,A0,pE,zW];rw [show f169 N f.2.2.1 f 0 (P3 f.1 a f.1.length) (IS f (P3 f.1 a f.1.length)) []=_ from WT N hN f h.vars _ (by simp [IS]) N f.2.2.1 true (by omega) (by omega) h.steps ⟨P3 f.1 a f.1.length,[],0⟩ (Cx ..) (by simp only [He];omega)];rfl
end Go.Kz
namespace Go.Kz
theorem z0j (N:Nat) (hN:200<=N) {vs:List qp} (hv:Zq vs) (k:Int) (hk:0<=k/\k<=3) (hp:zS (jD vs k)<=4096) (xs:List Int) (hf:Fits (jD vs k) xs):zp (f70 N vs k xs) fun r=>r.2=0:=by
 have hl:=hv.len;unfold f70;rw [DH N hN hl hv.Qy k hk hp];simp only [zB,A0,pE,zW];have KQ:=xz vs k;generalize jD vs k=l at *;obtain ⟨h1,h2⟩:=hf;rw [jg (show len xs=len l by simp only [len];omega),show (!true)=false from rfl,zW];refine zp.up (fun _ _=>True) l.length ?_ ?_ N 0 (jE _) (by omega) _ trivial
 ·rintro j s w hj _ hw;have v7:j < xs.length:=by omega
  have:=h2 j hj v7;simp only [Dg,f166];rw [show decide ((j:Int) < len l)=true from zP hj,zD,qx (by simp only [gU,zA,jL];omega),zJ hj,zJ v7];simp only [zB,Jf];rw [show (decide (xs[j] < l[j].2.2.1) || decide (l[j].2.2.2.1 < xs[j]))=false by simp only [VH,xB];omega,zW,zk (by omega)];exact hw _ trivial
 ·rintro s w _;simp only [Dg];rw [show decide (((l.length:Nat):Int) < len l)=false from zM _,zW];exact zp.ret rfl
def dig (l:List qp) (r:Int) (i:Nat):Int:=match l[i]? with
 | some v=>v.2.2.1+(r / zS (l.drop (i+1))) % JB v
 | none=>0
def Ku (l:List qp) (r:Int) (n:Nat):List Int:=(List.range n).map (dig l r)
theorem RN (l:List qp) (r:Int) (n:Nat):Ku l r (n+1)=Ku l r n++[dig l r n]:=by simp [Ku,RW]
theorem Va (l:List qp) (r:Int) (n:Nat):(Ku l r n).length=n:=by simp [Ku]
theorem EP {l:List qp} (hr:∀ v∈l,gd v) (r:Int):Fits l (Ku l r l.length):=by
 refine ⟨Va ..,fun i h h'=>?_⟩;have hv:=VT (hr _ (kK h));have e:(Ku l r l.length)[i]=l[i].2.2.1+(r / zS (l.drop (i+1))) % JB l[i]:=by simp [Ku,dig,h]
 rw [e];have a:=Z5m (r / zS (l.drop (i+1))) (show JB l[i]≠0 by omega);have b:=Z5n (r / zS (l.drop (i+1))) (show 0 < JB l[i] by omega);simp only [JB] at b ⊢ a;omega
theorem UP {l:List qp} {j:Nat} (hj:j < l.length):zS (l.drop j)=JB l[j]*zS (l.drop (j+1)):=by
 rw [<-Z5l hj];rfl
theorem xQ {l:List qp} (h:∀ v∈l,gd v) (k:Nat):zS (l.drop k)<=zS l:=by
 have e:=By (l.take k) (l.drop k);rw [RU] at e;rw [e];have h1:=vE (l:=l.take k) fun v hv=>h v (Z3f hv)
 have h2:=vE (l:=l.drop k) fun v hv=>h v (Z46 hv)
 have:=Z29 h1 (show 0<=zS (l.drop k) by omega);omega
theorem zfz (N:Nat) (hN:200<=N) {vs:List qp} (hv:Zq vs) (k:Int) (hk:0<=k/\k<=3) (hp:zS (jD vs k)<=4096) (r:Int) (h0:0<=r) (h1:r < zS (jD vs k)):f20 N vs k r=some (Ku (jD vs k) r (jD vs k).length,0):=by
 have hl:=hv.len;have r1:=vP;refine zp.eq ?_;unfold f20;rw [G7 N hN hl hv.Qy k hk hp];simp only [zB,A0,pE,zW,Jf];rw [show (decide (r < 0) || decide (zS (jD vs k)<=r))=false by simp only [VH,xB];omega,zW];rw [z0k N hN vs hl];simp only [zB];have KQ:=xz vs k;have uh:=u6 hv.Qy k;generalize jD vs k=l at *;have ck:∀ {R:Type} (j:Nat) (hj:j < l.length) (x:Option R),qR (gU l (j:Int)) x=x:=fun j hj x=>qx (by simp only [gU,zA,jL];omega)
 refine zp.up (fun j s=>s=(zS (l.drop j),Ku l r j)) l.length ?_ ?_ N 0 (jE _) (by omega) _ (by simp [Ku])
 ·rintro j s w hj rfl hw;have hrj:=uh _ (kK hj);obtain ⟨s1,s2⟩:=VT hrj;have pd:=UP hj;have p1:=vE (l:=l.drop (j+1)) fun v hv=>uh v (Z46 hv)
  have p2:=xQ uh (j+1);have p3:=xQ uh j;have hq:Int.tdiv (zS (l.drop j)) (JB l[j])=zS (l.drop (j+1)):=by
   rw [pd,Int.mul_tdiv_cancel_left _ (by omega)]
  have hd:dig l r j=l[j].2.2.1+(r / zS (l.drop (j+1))) % JB l[j]:=by simp [dig,hj]
  simp only [DB];rw [zP hj,zD];simp only [ck j hj,zJ hj,zB];rw [Pf hrj,hq,zw (n:=zS (l.drop (j+1))) (by omega) (by omega)];rw [qW (show ¬ JB l[j]=0 by omega),zW,qW (show ¬ zS (l.drop (j+1))=0 by omega),zW,zW];have hu:=Va l r j;rw [qx (by simp only [jL];omega)];have t1:Int.tdiv r (zS (l.drop (j+1)))=r / zS (l.drop (j+1)):=Z4v h0;have d1:0<=r / zS (l.drop (j+1)):=Z36 h0 (by omega);have d2:r / zS (l.drop (j+1))<=r:=Z37 _ h0;rw [t1,zw (n:=r / zS (l.drop (j+1))) (by omega) (by omega)];have t2:Int.tmod (r / zS (l.drop (j+1))) (JB l[j])=(r / zS (l.drop (j+1))) % JB l[j]:=Z5w d1;have m1:=Z5m (r / zS (l.drop (j+1))) (show JB l[j]≠0 by omega);have m2:=Z5n (r / zS (l.drop (j+1))) (show 0 < JB l[j] by omega);obtain ⟨b1,b2,b3⟩:=hrj;rw [t2,<-hd,zw (n:=dig l r j) (by omega) (by omega),zk (by omega)];refine hw _ ?_;rw [RN]
 ·rintro s w rfl;simp only [DB];rw [zM,zW];exact zp.ret rfl
theorem PE (N:Nat) (hN:200<=N) {vs:List qp} (hv:Zq vs) (k:Int) (hk:0<=k/\k<=3) (hp:zS (jD vs k)<=4096) (r:Int) (h0:0<=r) (h1:r < zS (jD vs k)):f167 N vs k r=some (Ku (jD vs k) r (jD vs k).length,0):=by
 have hl:=hv.len;have r1:=xI;refine zp.eq ?_;unfold f167;rw [DH N hN hl hv.Qy k hk hp];simp only [zB,A0,pE,zW,Jf];rw [show (decide (r < 0) || decide (zS (jD vs k)<=r))=false by simp only [VH,xB];omega,zW];have KQ:=xz vs k;have uh:=u6 hv.Qy k;generalize jD vs k=l at *;refine zp.qR (by simp only [zA,jL,len];omega) ?_;refine zp.iter (fun x=>∃ m:Nat,x.1=(m:Int)-1/\m<=l.length/\x.2.1=r / zS (l.drop m)/\x.2.2=List.replicate m 0++(Ku l r l.length).drop m) (fun x=>(x.1+1).toNat) ?_ N _ ⟨l.length,?_,yS _,?_,?_⟩ ?_
 ·rintro ⟨i,q,o⟩ w ⟨m,e1,hm,e2,e3⟩ hw;simp only at e1 e2 e3;subst e1 e2 e3;simp only [DF,f166]
  cases m with
  | zero=>
   rw [show decide ((0:Int)<=((0:Nat):Int)-1)=false from rfl,zW];simp only [List.replicate_zero,Zu,Z3c]
   exact zp.ret rfl
  | succ m=>
   have hj:m < l.length:=hm;have hrj:=uh _ (kK hj);obtain ⟨s1,s2⟩:=VT hrj;have pd:=UP hj;have p1:=vE (l:=l.drop (m+1)) fun v hv=>uh v (Z46 hv)
   have p2:=vE (l:=l.drop m) fun v hv=>uh v (Z46 hv)
   have p3:=xQ uh m;rw [show ((m+1:Nat):Int)-1=(m:Int) by omega];rw [jg (show (0:Int)<=(m:Int) by omega),zD,qx (by simp only [gU,zA,jL];omega),zJ hj];simp only [zB];rw [Pf hrj,qW (show ¬ JB l[m]=0 by omega),zW,zW];have ho:(List.replicate (m+1) (0:Int)++(Ku l r l.length).drop (m+1)).length=l.length:=by
    rw [Kj,Z5o,Lx,Va];omega
   rw [qx (by simp only [gU,zA,jL];omega),zJ (show m < (List.replicate (m+1) (0:Int)++(Ku l r l.length).drop (m+1)).length by omega)];simp only [zB];have d1:0<=r / zS (l.drop (m+1)):=Z36 h0 (by omega);have d2:r / zS (l.drop (m+1))<=r:=Z37 _ h0;have t1:Int.tdiv (r / zS (l.drop (m+1))) (JB l[m])=r / zS (l.drop m):=by
    rw [Z4v d1,pd,Int.mul_comm (JB l[m]),Int.ediv_ediv_of_nonneg (by omega)]
   have d3:0<=r / zS (l.drop m):=Z36 h0 (by omega);have d4:r / zS (l.drop m)<=r:=Z37 _ h0;have t2:Int.tmod (r / zS (l.drop (m+1))) (JB l[m])=(r / zS (l.drop (m+1))) % JB l[m]:=Z5w d1;have m1:=Z5m (r / zS (l.drop (m+1))) (show JB l[m]≠0 by omega);have m2:=Z5n (r / zS (l.drop (m+1))) (show 0 < JB l[m] by omega);have hd:dig l r m=l[m].2.2.1+(r / zS (l.drop (m+1))) % JB l[m]:=by simp [dig,hj]
   obtain ⟨b1,b2,b3⟩:=hrj;rw [t1,t2,<-hd,zw (n:=dig l r m) (by omega) (by omega),zw (n:=r / zS (l.drop m)) (by omega) (by omega),zw (n:=(m:Int)-1) (by omega) (by omega)];have hu:(Ku l r l.length).drop m=dig l r m :: (Ku l r l.length).drop (m+1):=by
    have hml:m < (Ku l r l.length).length:=by rw [Va];exact hj
    rw [<-Z5l hml];congr 1;simp [Ku]
   have hs:wx (List.replicate (m+1) (0:Int)++(Ku l r l.length).drop (m+1)) (m:Int) (dig l r m)=List.replicate m 0++(Ku l r l.length).drop m:=by
    rw [hu];show List.set _ ((m:Int).toNat) _=_;rw [show ((m:Int).toNat)=m from RV m,List.replicate_succ',VO,List.set_append_right _ _ (by simp)];simp
   rw [hs];refine zp.qR (by simp only [gU,zA,jL];omega) ?_;exact hw ((m:Int)-1,(r / zS (l.drop m),List.replicate m 0++(Ku l r l.length).drop m)) ⟨m,rfl,by omega,rfl,rfl⟩ (by simp only;omega)
 ·simp only [len];rw [zw (by omega) (by omega)]
 ·simp [zS]
 ·simp only [len,RV];rw [Dt (by rw [Va];exact yS _),AL]
 ·simp only [len];rw [zw (by omega) (by omega)];omega
end Go.Kz
namespace Go.Kz
def kg (x:Int):Prop:=-9223372036854775808<=x/\x<=9223372036854775807
def L0 (l:List UInt8):Nat:=l.foldl (fun a c=>a*10+(c.toNat-48)) 0
def z8i:List UInt8->Int
 | 45 :: l=>-(L0 l:Int)
 | l=>(L0 l:Int)
theorem Y4 {d:Nat} (h:d < 10):(UInt8.ofNat (48+d)).toNat=48+d:=by
 rw [UInt8.toNat_ofNat'];exact Z5g (by omega)
theorem XS:∀ (k u:Nat),u < 10 ^ (k+1)->L0 (Wr (k+1) u)=u
 | 0,u,h=>by
  have h':u < 10:=by simpa using h
  have hb:Nat.blt u 10=true:=by simpa [Z32] using h'
  simp only [Wr,hb,zD,L0,Z2g,Z3m]
  rw [Y4 h'];omega
 | k+1,u,h=>by
  rw [Wr]
  cases hb:Nat.blt u 10 with
  | true=>
   have h':u < 10:=by simpa [Z32] using hb
   simp only [zD,L0,Z2g,Z3m]
   rw [Y4 h'];omega
  | false=>
   simp only [zW,L0,Z47,Z2g,Z3m];have hq:u / 10 < 10 ^ (k+1):=by
    rw [Nat.pow_succ] at h;exact Z3w (by omega)
   have ih:=XS k (u / 10) hq;simp only [L0] at ih;rw [ih,Y4 (Z2w _ (by omega))];omega
theorem Jz:∀ (k u:Nat),∀ c∈Wr k u,48<=c.toNat/\c.toNat<=57
 | 0,u,c,h=>by simp [Wr] at h
 | k+1,u,c,h=>by
  rw [Wr] at h
  cases hb:Nat.blt u 10 with
  | true=>
   have h':u < 10:=by simpa [Z32] using hb
   rw [hb] at h;simp only [zD,EY] at h
   rw [h,Y4 h'];omega
  | false=>
   rw [hb] at h;simp only [zW,Gt,EY] at h;rcases h with h | h
   ·exact Jz k _ c h
   ·have:u % 10 < 10:=Z2w _ (by omega);rw [h,Y4 this];omega
theorem uY {n:Int} (h:kg n):z8i (gQ n)=n:=by
 obtain ⟨h0,h1⟩:=h
 cases n with
 | ofNat m=>
  have hm:m < 10 ^ 20:=by have:(Int.ofNat m:Int)=(m:Int):=rfl;omega
  simp only [gQ];have hd:=XS 19 m hm;have hc:=Jz 20 m
  cases hl:Wr 20 m with
  | nil=>rw [hl] at hd;simp only [z8i];rw [hd];rfl
  | cons c l=>
   rw [hl] at hd hc;have:=hc c (Nk ..);unfold z8i;split
   ·rename_i l' e;injection e with e1 e2;subst e1;simp at this
   ·rw [hd];rfl
 | negSucc m=>
  have hm0:(Int.negSucc m:Int) = -((m:Int)+1):=by omega
  have hm:m+1 < 10 ^ 20:=by omega
  simp only [gQ,z8i];rw [XS 19 (m+1) hm];omega
theorem Ut (n:Int):(32:UInt8)∉gQ n:=by
 intro h
 cases n with
 | ofNat m=>
  have:=Jz 20 m 32 h
  simp at this
 | negSucc m=>
  simp only [gQ,gX] at h;rcases h with h | h
  ·exact absurd h (by decide)
  ·have:=Jz 20 (m+1) 32 h;simp at this
theorem zaz:∀ {a c b d:List UInt8},(32:UInt8)∉a->(32:UInt8)∉c->a++32 :: b=c++32 :: d->a=c/\b=d
 | [],[],b,d,_,_,h=>by simpa using h
 | [],y :: c,b,d,_,hc,h=>by
  simp only [Zu,ue,Az] at h
  exact absurd (by rw [<-h.1];exact Nk ..) hc
 | x :: a,[],b,d,ha,_,h=>by
  simp only [Zu,ue,Az] at h
  exact absurd (by rw [h.1];exact Nk ..) ha
 | x :: a,y :: c,b,d,ha,hc,h=>by
  simp only [ue,Az] at h;obtain ⟨q1,q2⟩:=zaz (fun h'=>ha (LZ _ h')) (fun h'=>hc (LZ _ h')) h.2;exact ⟨by rw [h.1,q1],q2⟩
theorem uo (x:Int) (l:List Int):gL (x :: l)=gQ x++32 :: gL l:=by simp [gL]
theorem U3:∀ {l m:List Int},(∀ x∈l,kg x)->(∀ x∈m,kg x)->gL l=gL m->l=m
 | [],[],_,_,_=>rfl
 | [],y :: m,_,_,h=>by rw [uo] at h;simp [gL] at h
 | x :: l,[],_,_,h=>by rw [uo] at h;simp [gL] at h
 | x :: l,y :: m,hl,hm,h=>by
  rw [uo,uo] at h;obtain ⟨q1,q2⟩:=zaz (Ut x) (Ut y) h;have e:x=y:=by
   have a:=uY (hl x (Nk ..));have b:=uY (hm y (Nk ..));rw [<-a,q1,b]
  rw [e,U3 (fun z hz=>hl z (LZ _ hz)) (fun z hz=>hm z (LZ _ hz)) q2]
end Go.Kz
namespace Go.Kz
theorem wN (x:Int):kg (zz x):=vB .i64 x
theorem z7f (c:Bool):kg (cond c 1 0):=by cases c <;> simp [kg]
theorem za0 {a b:Int} (ha:kg a) (hb:kg b):kg (min a b)/\kg (max a b):=by
 simp only [kg] at *;omega
theorem z8m {op a b:Int} (ha:kg a) (hb:kg b):kg (z1s op a b):=by
 have h:∃ r,f306 0 op a b=some r/\kg r:=by
  have dv:∃ r,f341 0 a b=some r/\kg r:=by
   unfold f341;by_cases h:b=0
   ·rw [jg h];exact ⟨0,rfl,by simp [kg]⟩
   ·rw [qW h];simp only [zW,kM,zB];cases (!decide (Int.tmod a b=0) && !decide (decide (a < 0)=decide (b < 0))) <;> exact ⟨_,rfl,wN _⟩
  obtain ⟨q,h1,MY⟩:=dv;have md:∃ r,f342 0 a b=some r/\kg r:=by
   unfold f342;rw [h1];by_cases h:b=0
   ·rw [jg h];exact ⟨0,rfl,by simp [kg]⟩
   ·rw [qW h];exact ⟨_,rfl,wN _⟩
  obtain ⟨m,h3,h3'⟩:=md;have fl:∀ c:Bool,f305 0 c=some (cond c 1 0):=fun c=>by cases c <;> rfl
  unfold f306;rw [h1,h3];simp only [Jf,kM,zB,fl,YI,YL];have cd:∀ (c:Bool) (x y:Option Int),(∃ r,x=some r/\kg r)->(∃ r,y=some r/\kg r)->∃ r,cond c x y=some r/\kg r:=fun c x y hx hy=>by cases c <;> assumption
  have w:∀ x:Int,∃ r,some (zz x)=some r/\kg r:=fun x=>⟨_,rfl,wN x⟩
  have g:∀ c:Bool,∃ r,some (cond c 1 0)=some r/\kg r:=fun c=>⟨_,rfl,z7f c⟩
  exact cd _ _ _ (w _) (cd _ _ _ (w _) (cd _ _ _ (w _) (cd _ _ _ ⟨_,rfl,MY⟩ (cd _ _ _ ⟨_,rfl,h3'⟩ (cd _ _ _ (g _) (cd _ _ _ (g _) (cd _ _ _ (g _) (cd _ _ _ (g _) (cd _ _ _ (g _) (cd _ _ _ (g _) (cd _ _ _ (g _) (cd _ _ _ (g _) (cd _ _ _ ⟨_,rfl,(za0 ha hb).1⟩ ⟨_,rfl,(za0 ha hb).2⟩)))))))))))))
 obtain ⟨r,h1,h2⟩:=h;rw [z1s,h1];exact h2
theorem YT {l:List Int} (h:∀ x∈l,kg x) (k:Nat):kg (l.getD k 0):=by
 rw [E0]
 cases e:l[k]? with
 | none=>simp [kg]
 | some x=>exact h x (Z42 e)
theorem Cv {vs:List qp} (hr:∀ v∈vs,gd v) {vals:List Int} (hv:∀ x∈vals,kg x):∀ (M:Nat) (t:Tm),Zv t<=M->∀ r,O6 vs t=some r->kg (kB vals t)
 | 0,t,h,_,_=>by have:=yH t;omega
 | M+1,t,h,r,ZH=>by
  have qK:=pW t;have hrg0:=ZH;rw [CK] at ZH
  cases hl:A6 vs t.kids with
  | none=>rw [hl] at ZH;simp at ZH
  | some l=>
  have hk:∀ x∈t.kids.map (kB vals),kg x:=fun x hx=>by
   obtain ⟨y,hy,rfl⟩:=Jo.1 hx;obtain ⟨i,hi,rfl⟩:=VI.1 hy;have:=wJ (kK hi);have hlen:=P5 hl;exact Cv hr hv M _ (by omega) _ (YW hl i hi (by omega))
  rw [LB];unfold Ln;split
  ·rename_i h0;rw [hl] at ZH;simp only [zB] at ZH;have e:j3 vs t.op t.n l=(t.n,t.n):=by simp [j3,h0]
   rw [e] at ZH
   cases ho:okR (t.n,t.n) with
   | false=>rw [ho] at ZH;simp at ZH
   | true=>
    simp only [okR,zA,jL] at ho;simp only [kg];omega
  split
  ·exact YT hv _
  split
  ·exact wN _
  split
  ·split <;> simp [kg]
  split
  ·split <;> exact YT hk _
  split
  ·exact YT hk _
  ·exact z8m (YT hk _) (YT hk _)
theorem Xw {n low high:Int} (h:kg n) (h1:kg low) (h2:kg high):kg (pM n low high):=by
 unfold pM;split
 ·exact h1
 split
 ·exact h2
 ·exact h
theorem zcn {f:zf} (hr:∀ v∈f.1,gd v) (v:Int):kg (vlo f v)/\kg (vhi f v):=by
 unfold vlo vhi
 cases h:f.1[v.toNat]? with
 | none=>simp [kg]
 | some x=>
  obtain ⟨a,b,c⟩:=hr x (Z42 h);simp only [kg];omega
theorem LH {l:List Int} (h:∀ x∈l,kg x) (i:Int) {y:Int} (hy:kg y):∀ x∈wx l i y,kg x:=fun x hx=>by
 rcases List.mem_or_eq_of_mem_set (show x∈l.set i.toNat y from hx) with h1 | h1
 ·exact h x h1
 ·rw [h1];exact hy
structure InS (s:RS):Prop where
 vals:∀ x∈s.vals,kg x
 outs:∀ x∈s.outs,kg x
theorem La {c:Int} {t:Tm} {body:RS->RS} (hb:∀ s,InS s->InS (body s)):∀ (n:Nat) (s:RS),InS s->InS (Vr c t body n s)
 | 0,s,h=>h
 | n+1,s,h=>by
  simp only [Vr];split
  ·exact ⟨h.vals,h.outs⟩
  ·exact La hb n _ (hb _ ⟨h.vals,h.outs⟩)
theorem CY (f:zf) (hr:∀ v∈f.1,gd v) {hs:List Int} (hh:∀ x∈hs,kg x):∀ (M:Nat) (l:List Sp) (top:Bool),jq l < M->JD f top l->∀ s,InS s->InS (wo f hs l s)
 | 0,l,_,h,_,_,_=>by omega
 | M+1,[],_,_,_,s,h=>by simp only [wo];exact h
 | M+1,x :: l,top,h,zq,s,hi=>by
  simp only [jq] at h;have he:=kC x;have hp:=yH x.term;simp only [JD] at zq;obtain ⟨⟨q1,q2,q3⟩,q4,q5⟩:=(ZQ ..).1 zq.1;obtain ⟨_,r,ZH⟩:=q3;have vt:∀ s,InS s->kg (kB s.vals x.term):=fun s h=>Cv hr h.vals _ _ (yS _) r ZH
  have kx:=fun s=>CY f hr hh M x.jG false (by omega) q4 s
  have ky:=fun s=>CY f hr hh M x.uw false (by omega) q5 s
  obtain ⟨b1,b2⟩:=zcn hr x.var;simp only [wo];refine CY f hr hh M l top (by omega) zq.2 _ ?_;rw [P4];split
  ·exact La kx _ _ hi
  split
  ·exact ⟨LH hi.vals _ (Xw (vt s hi) b1 b2),hi.outs⟩
  split
  ·refine ⟨hi.vals,fun y hy=>?_⟩;rcases Gt.1 hy with hy | hy
   ·exact hi.outs y hy
   ·rw [EY.1 hy];exact vt s hi
  split
  ·split
   ·exact ky _ ⟨hi.vals,hi.outs⟩
   ·exact kx _ ⟨hi.vals,hi.outs⟩
  split
  ·exact ⟨LH hi.vals _ (Xw (YT hh _) b1 b2),hi.outs⟩
  split
  ·exact ⟨hi.vals,hi.outs⟩
  ·exact ⟨hi.vals,hi.outs⟩
theorem zcx {vs:List qp} (hv:Zq vs) (a:Y8) (ha:LG vs a):∀ x∈P3 vs a vs.length,kg x:=fun x hx=>by
 obtain ⟨j,hj,rfl⟩:=Jo.1 hx;have v7:j < vs.length:=Nw.1 hj;obtain ⟨c1,c2,c3⟩:=(hv.each j v7).Qy;by_cases h0:vs[j].2.1=0
 ·obtain ⟨_,e1,e2⟩:=EH (a:=a) hv v7 h0;simp only [kg];omega
 ·obtain ⟨_,_,e1,e2⟩:=TZ hv ha v7 h0;simp only [kg];omega
theorem z8h {f:zf} (h:WF f) (a:Y8) (ha:LG f.1 a):∀ x∈(Gq f a).outs,kg x:=by
 have hs:=zcx h.vars a ha;refine (CY f h.vars.Qy (hs:=IS f (P3 f.1 a f.1.length)) (fun x hx=>?_) _ f.2.2.1 true (E1 _) h.steps ⟨P3 f.1 a f.1.length,[],0⟩ ⟨hs,by simp⟩).outs;obtain ⟨y,hy,rfl⟩:=Jo.1 hx;obtain ⟨i,hi,rfl⟩:=VI.1 hy;have q:=h.IN i hi;obtain ⟨c1,c2,c3⟩:=Vn.1 q.Qy;obtain ⟨_,r,ZH⟩:=q.term;exact Xw (Cv h.vars.Qy hs _ _ (yS _) r ZH) (by simp only [kg];omega) (by simp only [kg];omega)
end Go.Kz
namespace Go.Kz
abbrev pV:=List Int×(Int×Unit)
theorem zg1 (N:Nat) (hN:200<=N) (f:zf):zp (f15 N f 16 64 1) fun b=>b=true->WF f/\f66 N f=some 0/\zS (jD f.1 1)<=16/\zS (jD f.1 2)<=64:=by
 unfold f15;refine zp.then (zfm N hN f) fun r hr=>?_
 refine zp.then (P:=fun b=>b=false->WF f/\f66 N f=some 0) ?_ fun b hb=>?_
 ·refine zp.cond (fun _=>zp.ret (by simp)) fun h=>?_
  simp only [HY] at h;obtain ⟨c,hc,hw⟩:=zfl N hN f (hr h);rw [hc,zB];refine zp.ret fun h0=>?_
  simp only [HY,jL] at h0;exact ⟨hw h0,by rw [h0]⟩
 ·refine zp.cond (fun _=>zp.ret (by simp)) fun h=>?_
  obtain ⟨hw,hc⟩:=hb h;have hv:=hw.vars;have p1:=hv.sec;have p2:=hv.pub;have p3:=hv.rnd;obtain ⟨g1,g2,g3⟩:=hw.deep.few;rw [G7 N hN hv.len hv.Qy 1 (by omega) p1,G7 N hN hv.len hv.Qy 2 (by omega) p2,G7 N hN hv.len hv.Qy 3 (by omega) (by omega)];rw [show f43 N f.2.2.1=_ from Px N hN f N f.2.2.1 true (by omega) (by omega) hw.steps];simp only [zB,kM];refine zp.ret fun hh=>⟨hw,hc,?_⟩
  simp only [zA,jL] at hh;exact ⟨hh.1.1.1,hh.1.1.2⟩
theorem z0x (N:Nat) (hN:200<=N) (vs:List qp) (hl:vs.length<=10):Me N vs ()=some (vs.any fun v=>decide (v.2.1=3)):=by
 unfold Me z0l;refine zp.eq ?_;refine zp.then (P:=fun r=>decide (0<=r)=vs.any fun v=>decide (v.2.1=3)) ?_ fun r hr=>zp.ret hr
 refine zp.Kp (fun j=>∀ i (h:i < vs.length),i < j->vs[i].2.1≠3) vs.length ?_ ?_ N 0 (jE _) (by omega) (fun i h hi=>by omega)
 ·intro j w hj hinv hw;simp only [WX,f17];rw [show decide ((j:Int) < len vs)=true from zP hj,zD,zJ hj];simp only [zB];refine zp.cond (fun h=>?_) fun h=>?_
  ·refine zp.ret ?_;rw [jg (by omega)];exact (List.any_eq_true.2 ⟨_,kK hj,h⟩).symm
  ·rw [zk (by omega)];refine hw fun i hi qJ=>?_
   by_cases e:i=j
   ·subst e;simpa using h
   ·exact hinv i hi (by omega)
 ·intro w hinv;simp only [WX];rw [show decide (((vs.length:Nat):Int) < len vs)=false from zM _,zW];refine zp.ret ?_;rw [qW (by omega)];symm;rw [Z5p];intro v hv;obtain ⟨i,hi,rfl⟩:=VI.1 hv;simpa using hinv i hi hi
theorem Sa {vs:List qp} (k:Int) (h:(vs.any fun v=>decide (v.2.1=k))=false):jD vs k=[]:=by
 rw [Z5p] at h;unfold jD;rw [Z5q];intro v hv;exact h v hv
structure P2 (N:Nat) (f:zf):Prop where
 wf:WF f
 qR:f66 N f=some 0
 sec:zS (jD f.1 1)<=16
 pub:zS (jD f.1 2)<=64
 CM:jD f.1 3=[]
 zwp:(f.1.any fun v=>decide (v.2.1=3))=false
@[reducible] def Kt (f:zf) (p:List Int) (s:Int):Y8:=(Ku (jD f.1 1) s (jD f.1 1).length,(p,([],())))
@[reducible] def jr (f:zf) (p:List Int) (s:Int):List Int×(Int×Unit):=((Gq f (Kt f p s)).outs,((Gq f (Kt f p s)).time,()))
theorem Cb {N:Nat} {f:zf} (h:P2 N f) {p:List Int} (hp:Fits (jD f.1 2) p) (s:Int):LG f.1 (Kt f p s):=by
 intro k h1 h3;have:k=1\/k=2\/k=3:=by omega
 rcases this with rfl | rfl | rfl
 ·exact EP (u6 h.wf.vars.Qy 1) s
 ·exact hp
 ·rw [h.CM];exact ⟨rfl,fun i h _=>by simp at h⟩
def Q3 (f:zf) (p:List Int) (n:Nat):List pV:=(List.range n).map fun (s:Nat)=>jr f p (s:Int)
theorem KN (f:zf) (p:List Int) (n:Nat):Q3 f p (n+1)=Q3 f p n++[jr f p (n:Int)]:=by simp [Q3,RW]
theorem uC (f:zf) (p:List Int) (n:Nat):(Q3 f p n).length=n:=by simp [Q3]
theorem QH (f:zf) (p:List Int) {n i:Nat} (h:i < n):(Q3 f p n)[i]'(by rw [uC];exact h)=jr f p (i:Int):=by simp [Q3]
theorem xS {f:zf} (h:WF f) (a:Y8):(Gq f a).outs.length<=8:=by
 have:=(xH f (IS f (P3 f.1 a f.1.length)) _ f.2.2.1 true (E1 _) h.steps ⟨P3 f.1 a f.1.length,[],0⟩).outs;have h2:=h.ub2;simp only [He] at this;have e:(Gq f a)=wo f (IS f (P3 f.1 a f.1.length)) f.2.2.1 ⟨P3 f.1 a f.1.length,[],0⟩:=rfl;rw [e];omega
theorem Rs:∀ (l:List Int) (t:Int) (s:Int×Bool),(l.foldl (Cp t) s).1∈l\/(l.foldl (Cp t) s).1=s.1
 | [],_,_=>.inr rfl
 | x :: l,t,s=>by
  simp only [Z2g];rcases Rs l t (Cp t s x) with h | h
  ·exact .inl (LZ _ h)
  ·rw [h];unfold Cp;split
   ·exact .inl (Nk ..)
   ·exact .inr rfl
theorem z5g {l:List Int} (h:Nx l) (hb:∀ h:0 < l.length,l[l.length-1]<=(67108864:Int)):∀ x∈l,kg x:=by
 have up:∀ (k i:Nat) (hk:i+k < l.length),l[i]<=l[i+k]:=by
  intro k
  induction k with
  | zero=>intro i hk;exact Z3y _
  | succ k ih=>
   intro i hk;have h1:=ih i (by omega);have h2:l[i+k]'(by omega) < l[i+(k+1)]:=h.up (i+(k+1)) (by omega) hk;omega
 intro x hx;obtain ⟨i,hi,rfl⟩:=VI.1 hx;have h0:=h.first (by omega);have h1:=up i 0 (by omega);have h2:=up (l.length-1-i) i (by omega);have h3:=hb (by omega);simp only [Zp] at h1;have e:l[i+(l.length-1-i)]'(by omega)=l[l.length-1]'(by omega):=by congr 1;omega
 rw [e] at h2;simp only [kg];omega
theorem B6 {c:Int} {t:Tm} {body:RS->RS} (hb:∀ s,kg s.time->kg (body s).time):∀ (n:Nat) (s:RS),kg s.time->kg (Vr c t body n s).time
 | 0,s,h=>h
 | n+1,s,h=>by
  simp only [Vr];split
  ·exact wN _
  ·exact B6 hb n _ (hb _ (wN _))
theorem Vm (f:zf) {hs:List Int}:∀ (M:Nat) (l:List Sp) (top:Bool),jq l < M->JD f top l->∀ s,kg s.time->kg (wo f hs l s).time
 | 0,l,_,h,_,_,_=>by omega
 | M+1,[],_,_,_,s,h=>by simp only [wo];exact h
 | M+1,x :: l,top,h,zq,s,hi=>by
  simp only [jq] at h;have he:=kC x;have hp:=yH x.term;simp only [JD] at zq;obtain ⟨⟨q1,q2,q3⟩,q4,q5⟩:=(ZQ ..).1 zq.1;have kx:=fun s=>Vm f (hs:=hs) M x.jG false (by omega) q4 s
  have ky:=fun s=>Vm f (hs:=hs) M x.uw false (by omega) q5 s
  simp only [wo];refine Vm f M l top (by omega) zq.2 _ ?_;rw [P4];split
  ·exact B6 kx _ _ hi
  split
  ·exact wN _
  split
  ·exact wN _
  split
  ·split
   ·exact ky _ (wN _)
   ·exact kx _ (wN _)
  split
  ·exact wN _
  split
  ·rename_i h6;have hr:=z5g (q1.set h6).2 q2.bnd;rcases Rs x.bounds (zz (s.time+x.cost)) (zz (s.time+x.cost),false) with h | h
   ·exact hr _ h
   ·show kg (Nr x.bounds (zz (s.time+x.cost)));rw [Nr,h];exact wN _
  ·exact wN _
theorem zdo {f:zf} (h:WF f) (a:Y8) (ha:LG f.1 a):∀ x∈(Gq f a).time :: (Gq f a).outs,kg x:=by
 intro x hx;rcases gX.1 hx with rfl | hx
 ·exact Vm f _ f.2.2.1 true (E1 _) h.steps ⟨P3 f.1 a f.1.length,[],0⟩ (by simp [kg])
 ·exact z8h h a ha x hx
end Go.Kz
namespace Go.Kz
def Y3 (a b:Int):Int:=if a < b then -1 else if b < a then 1 else 0
def kW:List Int->List Int->Int
 | [],[]=>0
 | [],_ :: _=>-1
 | _ :: _,[]=>1
 | x :: l,y :: m=>if Y3 x y=0 then kW l m else Y3 x y
def Hz (a b:pV):Int:=if kW a.1 b.1=0 then Y3 a.2.1 b.2.1 else kW a.1 b.1
structure znb {Z:Type} (c:Z->Z->Int):Prop where
 zero:∀ x y,c x y=0↔x=y
 neg:∀ x y,c y x = -c x y
 trans:∀ x y z,c x y < 0->c y z < 0->c x z < 0
theorem xg:znb Y3 where
 zero:=fun x y=>by
  unfold Y3;split
  ·omega
  ·split <;> omega
 neg:=fun x y=>by
  unfold Y3;by_cases h1:x < y
  ·rw [yW h1,qQ (by omega),yW h1];rfl
  ·by_cases h2:y < x
   ·rw [yW h2,qQ h1,yW h2]
   ·simp [h1,h2]
 trans:=fun x y z h1 h2=>by
  have k:∀ x y,Y3 x y < 0->x < y:=fun x y h=>by
   unfold Y3 at h;split at h
   ·assumption
   ·split at h <;> omega
  have:=k x y h1;have:=k y z h2;unfold Y3;rw [yW (by omega)];omega
theorem Jy:∀ l m,kW l m=0↔l=m
 | [],[]=>by simp [kW]
 | [],_ :: _=>by simp [kW]
 | _ :: _,[]=>by simp [kW]
 | x :: l,y :: m=>by
  have h:=xg.zero x y;have ih:=Jy l m;simp only [kW,Az];split
  ·rename_i h0;rw [ih];simp [h.1 h0]
  ·rename_i h0;simp only [h0,false_iff];intro e;exact h0 (h.2 e.1)
theorem H9:∀ l m,kW m l = -kW l m
 | [],[]=>by simp [kW]
 | [],_ :: _=>by simp [kW]
 | _ :: _,[]=>by simp [kW]
 | x :: l,y :: m=>by
  have h:=xg.neg x y;have ih:=H9 l m;simp only [kW];by_cases h0:Y3 x y=0
  ·rw [yW h0,yW (by omega),ih]
  ·rw [qQ h0,qQ (by omega),h]
theorem Xb:∀ a b c,kW a b < 0->kW b c < 0->kW a c < 0
 | [],[],_,h,_=>by simp [kW] at h
 | _ :: _,[],_,h,_=>by simp [kW] at h
 | [],_ :: _,[],_,h=>by simp [kW] at h
 | [],_ :: _,_ :: _,_,_=>by simp [kW]
 | _ :: _,_ :: _,[],_,h=>by simp [kW] at h
 | x :: l,y :: m,z :: n,h1,h2=>by
  have ih:=Xb l m n;have t:=xg.trans x y z;have e1:=xg.zero x y;have e2:=xg.zero y z;simp only [kW] at *;by_cases a:Y3 x y=0
  ·have:=e1.1 a;subst this;rw [yW a] at h1;by_cases b:Y3 x z=0
   ·rw [yW b] at *;exact ih h1 h2
   ·rw [qQ b] at *;exact h2
  ·rw [qQ a] at h1;by_cases b:Y3 y z=0
   ·have:=e2.1 b;subst this;rw [qQ a];exact h1
   ·rw [qQ b] at h2;have:=t h1 h2;rw [qQ (by omega)];exact this
theorem p7:znb Hz where
 zero:=fun x y=>by
  obtain ⟨x1,x2,x3⟩:=x;obtain ⟨y1,y2,y3⟩:=y;have h1:=Jy x1 y1;have h2:=xg.zero x2 y2;simp only [Hz,gB];split
  ·rename_i h;rw [h2];simp [h1.1 h]
  ·rename_i h;simp only [h,false_iff];exact fun e=>h (h1.2 e.1)
 neg:=fun x y=>by
  have h1:=H9 x.1 y.1;have h2:=xg.neg x.2.1 y.2.1;simp only [Hz];by_cases h:kW x.1 y.1=0
  ·rw [yW h,yW (by omega),h2]
  ·rw [qQ h,qQ (by omega),h1]
 trans:=fun x y z h1 h2=>by
  have t:=Xb x.1 y.1 z.1;have u:=xg.trans x.2.1 y.2.1 z.2.1;have e1:=Jy x.1 y.1;have e2:=Jy y.1 z.1;simp only [Hz] at *;by_cases a:kW x.1 y.1=0
  ·rw [yW a] at h1;rw [e1.1 a];by_cases b:kW y.1 z.1=0
   ·rw [yW b] at *;exact u h1 h2
   ·rw [qQ b] at *;exact h2
  ·rw [qQ a] at h1;by_cases b:kW y.1 z.1=0
   ·rw [<-e2.1 b,qQ a];exact h1
   ·rw [qQ b] at h2;have:=t h1 h2;rw [qQ (by omega)];exact this
theorem z8d (N:Nat) (a b:Int):f149 N a b=some (Y3 a b):=by
 unfold f149 f230 Y3;simp only [A0,pE,zB,zW];by_cases h1:a < b
 ·rw [yW h1,jg h1];rfl
 ·rw [qQ h1,qW h1];by_cases h2:b < a
  ·rw [yW h2,jg h2];rfl
  ·rw [qQ h2,qW h2];rfl
theorem zfn (N:Nat) (l m:List Int) (hN:l.length < N) (hl:l.length < 4294967296):f64 N l m=some (kW l m):=by
 refine zp.eq ?_;unfold f64;refine zp.Kp (fun j=>j<=m.length/\kW l m=kW (l.drop j) (m.drop j)) l.length ?_ ?_ N 0 (jE _) (by omega) ⟨jE _,rfl⟩
 ·rintro j w hj ⟨h1,h2⟩ hw;simp only [DY];rw [show decide ((j:Int) < len l)=true from zP hj,zD,zJ hj];simp only [zB];rw [Z23 hj] at h2;by_cases hm:j < m.length
  ·rw [qW (show ¬ len m<=(j:Int) by simp only [len];omega),zW,zJ hm];simp only [zB];rw [Z23 hm] at h2;simp only [kW] at h2;rw [z8d,zB];by_cases h:Y3 l[j] m[j]=0
   ·rw [yW h] at h2;rw [jg h,pE,zW,zk (by omega)];exact hw ⟨hm,h2⟩
   ·rw [qQ h] at h2;rw [qW h,Z2b,zD];exact zp.ret h2.symm
  ·rw [jg (show len m<=(j:Int) by simp only [len];omega),zD];rw [Dt (show m.length<=j by omega)] at h2;exact zp.ret h2.symm
 ·rintro w ⟨h1,h2⟩;simp only [DY];rw [show decide (((l.length:Nat):Int) < len l)=false from zM _,zW];rw [Dt (yS _)] at h2;by_cases hm:l.length < m.length
  ·rw [jg (show len l < len m by simp only [len];omega),zD];rw [Z23 hm] at h2;exact zp.ret h2.symm
  ·rw [qW (show ¬ len l < len m by simp only [len];omega),zW];rw [Dt (by omega)] at h2;exact zp.ret h2.symm
theorem Dk (N:Nat) (hN:200<=N) (a b:pV) (ha:a.1.length<=100):f77 N a b=some (Hz a b):=by
 unfold f77 Hz;rw [zfn N _ _ (by omega) (by omega),zB];by_cases h:kW a.1 b.1=0
 ·rw [jg h,yW h,pE,zW];unfold Y3;by_cases h1:a.2.1 < b.2.1
  ·rw [yW h1,jg h1];rfl
  ·rw [qQ h1,qW h1];by_cases h2:b.2.1 < a.2.1
   ·rw [yW h2,jg h2];rfl
   ·rw [qQ h2,qW h2];rfl
 ·rw [qW h,qQ h,Z2b,zD]
theorem zff (N:Nat) (hN:200<=N) (a b:pV) (ha:a.1.length<=100):f91 N a b=some (decide (a=b)):=by
 unfold f91;rw [Dk N hN a b ha,zB];congr 1;rw [decide_eq_decide];exact p7.zero a b
theorem An {t:Ty} {Fc:t.den->t.den->Option Int} {c:t.den->t.den->Int} {l:List t.den} (hF:∀ x∈l,∀ y∈l,Fc x y=some (c x y)) (h0:∀ x∈l,∀ y∈l,c x y=0->x=y)
  (hr:∀ x∈l,c x x=0) (hn:∀ x∈l,∀ y∈l,c y x = -c x y) (ht:∀ x∈l,∀ y∈l,∀ z∈l,c x y < 0->c y z < 0->c x z < 0) (hl:l.length < 4611686018427387904) :
  ∃ l',U6 t Fc l=some l'/\l'.Perm l:=by
 have lt:∀ x∈l,∀ y∈l,Py (uk Fc) x y=decide (c x y < 0):=fun x hx y hy=>by
  simp only [Py,uk,hF x hx y hy,Z44]
 have FY:Cz (Py (uk Fc)) (·∈l):=by
  refine ⟨fun x hx=>?_,fun x y z hx hy hz h1 h2=>?_,fun x y z hx hy hz h1 h2=>?_⟩
  ·have:=hr x hx;rw [lt x hx x hx,qW (by omega)]
  ·rw [lt x hx y hy,jL] at h1;rw [lt y hy z hz,jL] at h2;rw [lt x hx z hz,jL];exact ht x hx y hy z hz h1 h2
  ·rw [lt x hx y hy,xB] at h1;rw [lt y hy z hz,xB] at h2;rw [lt x hx z hz,xB];have n1:=hn x hx y hy;have n2:=hn y hy z hz;have n3:=hn x hx z hz;by_cases a:c x y=0
   ·rw [h0 x hx y hy a];exact h2
   by_cases b:c y z=0
   ·rw [<-h0 y hy z hz b];exact h1
   have:=ht z hz y hy x hx (by omega) (by omega);omega
 have hB:Oq Fc l=true:=z5o FY fun x hx y hy=>by rw [hF x hx y hy];rfl
 have hS:S4 (Ba t) (Py (uk Fc)) l=true:=by
  unfold S4;rw [Zz];intro x hx;rw [Zz];intro y hy;rw [lt x hx y hy,lt y hy x hx];have n1:=hn x hx y hy;by_cases h:c x y=0
  ·rw [h0 x hx y hy h,uR];simp
  ·have:c x y < 0\/c y x < 0:=by omega
   simp only [HJ,jL];exact .inl this
 refine ⟨Kr (Py (uk Fc)) l,?_,pj _ l⟩;unfold U6;rw [hB,hS,show Nat.blt l.length 4611686018427387904=true from by rw [Z32];exact hl];rfl
theorem z7z (N:Nat) (hN:200<=N) (l:List pV) (hl:l.length<=1000) (hs:∀ x∈l,x.1.length<=100):∃ l',f181 N () l=some (((),()),(l',()))/\l'.Perm l:=by
 obtain ⟨l',h1,h2⟩:=An (t:=.pair (.sl false (.int .i64)) (.pair (.int .i64) .unit)) (Fc:=fun x y=>f77 N x y) (c:=Hz) (l:=l) (fun x hx y _=>Dk N hN x y (hs x hx)) (fun x _ y _ h=>(p7.zero x y).1 h) (fun x _=>(p7.zero x x).2 rfl) (fun x _ y _=>p7.neg x y) (fun x _ y _ z _=>p7.trans x y z) (by omega);refine ⟨l',?_,h2⟩;unfold f181;rw [h1];rfl
theorem ZD (n:Int):(44:UInt8)∉gQ n:=by
 intro h
 cases n with
 | ofNat m=>
  have:=Jz 20 m 44 h
  simp at this
 | negSucc m=>
  simp only [gQ,gX] at h;rcases h with h | h
  ·exact absurd h (by decide)
  ·have:=Jz 20 (m+1) 44 h;simp at this
theorem zay:∀ {a c b d:List UInt8},(44:UInt8)∉a->(44:UInt8)∉c->a++44 :: b=c++44 :: d->a=c/\b=d
 | [],[],b,d,_,_,h=>by simpa using h
 | [],y :: c,b,d,_,hc,h=>by
  simp only [Zu,ue,Az] at h
  exact absurd (by rw [<-h.1];exact Nk ..) hc
 | x :: a,[],b,d,ha,_,h=>by
  simp only [Zu,ue,Az] at h
  exact absurd (by rw [h.1];exact Nk ..) ha
 | x :: a,y :: c,b,d,ha,hc,h=>by
  simp only [ue,Az] at h;obtain ⟨q1,q2⟩:=zay (fun h'=>ha (LZ _ h')) (fun h'=>hc (LZ _ h')) h.2;exact ⟨by rw [h.1,q1],q2⟩
def btL (l:List Int) (t:Int):List UInt8:=(l.flatMap fun n=>gQ n++[44])++gQ t
theorem K3 (x:Int) (l:List Int) (t:Int):btL (x :: l) t=gQ x++44 :: btL l t:=by simp [btL]
theorem N9:∀ {l m:List Int} {t u:Int},(∀ x∈t :: l,kg x)->(∀ x∈u :: m,kg x)->btL l t=btL m u->l=m/\t=u
 | [],[],t,u,hl,hm,h=>by
  have a:=uY (hl t (Nk ..));have b:=uY (hm u (Nk ..));have e:gQ t=gQ u:=by simpa [btL] using h
  exact ⟨rfl,by rw [<-a,e,b]⟩
 | [],y :: m,t,u,_,_,h=>by
  rw [K3] at h;have:(44:UInt8)∈btL [] t:=by rw [h];simp
  exact absurd (by simpa [btL] using this) (ZD t)
 | x :: l,[],t,u,_,_,h=>by
  rw [K3] at h;have:(44:UInt8)∈btL [] u:=by rw [<-h];simp
  exact absurd (by simpa [btL] using this) (ZD u)
 | x :: l,y :: m,t,u,hl,hm,h=>by
  rw [K3,K3] at h;obtain ⟨q1,q2⟩:=zay (ZD x) (ZD y) h;have e:x=y:=by
   have a:=uY (hl x (by simp));have b:=uY (hm y (by simp));rw [<-a,q1,b]
  obtain ⟨r1,r2⟩:=N9 (fun z hz=>hl z (by rcases gX.1 hz with rfl | hz <;> simp [*])) (fun z hz=>hm z (by rcases gX.1 hz with rfl | hz <;> simp [*])) q2;exact ⟨by rw [e,r1],r2⟩
def z2i (o:pV):Prop:=∀ x∈o.2.1 :: o.1,kg x
theorem CF {N:Nat} {f:zf} (h:P2 N f) {p:List Int} (hp:Fits (jD f.1 2) p) (s:Int):z2i (jr f p s):=zdo h.wf (Kt f p s) (Cb h hp s)
theorem Oo {a b:pV} (ha:z2i a) (hb:z2i b) (h:ZT a=ZT b):a=b:=by
 obtain ⟨a1,a2,a3⟩:=a;obtain ⟨b1,b2,b3⟩:=b;obtain ⟨e1,e2⟩:=N9 (t:=a2) (u:=b2) (l:=a1) (m:=b1) ha hb h;rw [e1,e2]
def Gb (o:pV):List UInt8:=gL (o.2.1 :: o.1)
theorem Tw {a b:pV} (ha:z2i a) (hb:z2i b) (h:Gb a=Gb b):a=b:=by
 obtain ⟨a1,a2,a3⟩:=a;obtain ⟨b1,b2,b3⟩:=b;have q:=U3 ha hb h;simp only [Az] at q;rw [q.1,q.2]
section
variable {I Z:Type} [DecidableEq I] [DecidableEq Z]
theorem UF {g:I->Z}:(acc l:List I)->(∀ x∈acc++l,∀ y∈acc++l,g x=g y->x=y)->jY (acc.map g) (l.map g)=(jY acc l).map g
 | acc,[],_=>rfl
 | acc,x :: l,h=>by
  simp only [JU,jY];by_cases hx:x∈acc
  ·rw [yW hx,yW (Jo.2 ⟨x,hx,rfl⟩)];exact UF acc l fun y hy z hz=>h y (by simp at hy ⊢;rcases hy with hy | hy <;> simp [hy]) z (by simp at hz ⊢;rcases hz with hz | hz <;> simp [hz])
  ·have:g x∉acc.map g:=fun hm=>by
    obtain ⟨y,hy,e⟩:=Jo.1 hm;exact hx (h y (by simp [hy]) x (by simp) e ▸ hy)
   rw [qQ hx,qQ this];have ih:=UF (acc++[x]) l fun y hy z hz=>h y (by simp at hy ⊢;rcases hy with hy | hy | hy <;> simp [hy]) z (by simp at hz ⊢;rcases hz with hz | hz | hz <;> simp [hz])
   simpa using ih
theorem z69 {g:I->Z} {l:List I} (h:∀ x∈l,∀ y∈l,g x=g y->x=y):(jY [] (l.map g)).length=(jY [] l).length:=by
 have:=UF (g:=g) [] l (by simpa using h);simp only [Z2i] at this;rw [this,Jk]
theorem YD {x:I} {l:List I}:x∈jY [] l↔x∈l:=by rw [QL];simp
def CO (l:List I):List (I×Bool):=l.map fun x=>(x,true)
theorem BP {eq:I->I->Bool} (he:∀ a b,eq a b=decide (a=b)) (x:I):(l:List I)->(jW eq (CO l) x).getD false=decide (x∈l)
 | []=>rfl
 | y :: l=>by
  have ih:=BP he x l;simp only [CO,JU,jW,he] at ih ⊢;by_cases h:x=y
  ·subst h;simp
  ·rw [qW h,zW,ih];simp [h]
theorem Kf {eq:I->I->Bool} (he:∀ a b,eq a b=decide (a=b)) (x:I):(l:List I)->js eq (CO l) x true=CO (if x∈l then l else l++[x])
 | []=>rfl
 | y :: l=>by
  have ih:=Kf he x l;simp only [CO,JU,js,he] at ih ⊢;by_cases h:x=y
  ·subst h;simp
  ·rw [qW h,zW,ih];simp only [gX,h,false_or];split <;> simp
end
def j8 (L:List Nat):List Int:=L.map fun (i:Nat)=>(i:Int)
def pA (f:zf) (p:List Int) (L:List Nat):List pV:=L.map fun (i:Nat)=>jr f p (i:Int)
theorem Ii (N:Nat) (hN:5000<=N) {f:zf} (h:P2 N f) {p:List Int} (hp:Fits (jD f.1 2) p) (s:Int) (h0:0<=s) (h1:s < zS (jD f.1 1)):f87 N f p s=some (jr f p s):=by
 have hv:=h.wf.vars;unfold f87;rw [PE N (by omega) hv 1 (by omega) hv.sec s h0 h1];simp only [zB];rw [show f73 N f (Ku (jD f.1 1) s (jD f.1 1).length,(p,([],())))=_ from z0i N hN f h.wf (Kt f p s) (Cb h hp s)];rfl
theorem z0f (N:Nat) (hN:5000<=N) {f:zf} (h:P2 N f) {p:List Int} (hp:Fits (jD f.1 2) p) (L:List Nat) (hl:L.length<=16) (hL:∀ i∈L,(i:Int) < zS (jD f.1 1)):zp (f89 N f p (j8 L)) fun r=>r.Perm (jY [] (pA f p L)):=by
 have r1:=vP;have Fx:(j8 L).length=L.length:=by simp [j8]
 have sh:∀ i:Int,(jr f p i).1.length<=8:=fun i=>xS h.wf (Kt f p i)
 unfold f89;refine zp.up (fun j s=>s=(jY [] (pA f p (L.take j)),CO ((jY [] (pA f p (L.take j))).map ZT))) L.length ?_ ?_ N 0 (jE _) (by omega) _ rfl
 ·rintro j s w hj rfl hw;have v7:j < (j8 L).length:=by omega
  have hm:∀ x∈jY [] (pA f p (L.take j)),∃ i:Int,x=jr f p i:=fun x hx=>by
   rw [YD] at hx;obtain ⟨i,_,rfl⟩:=Jo.1 hx;exact ⟨_,rfl⟩
  have hle:=ZX [] (pA f p (L.take j));have e5:(pA f p (L.take j)).length=j:=by simp only [pA,Jk,P0];omega
  rw [e5] at hle;simp only [He] at hle;simp only [Dq];rw [show decide ((j:Int) < len (j8 L))=true from zP v7,zD,zJ v7];simp only [zB];rw [show (j8 L)[j]=((L[j]:Nat):Int) by simp [j8],Ii N hN h hp _ (by omega) (hL _ (kK hj))];have e1:pA f p (L.take (j+1))=pA f p (L.take j)++[jr f p ((L[j]:Nat):Int)]:=by
   unfold pA;rw [zo hj,RK];rfl
  have q:(jr f p ((L[j]:Nat):Int)).1.length<=8:=sh _;have qi:=CF h hp ((L[j]:Nat):Int);generalize jr f p ((L[j]:Nat):Int)=o at q qi e1 ⊢;simp only [zB];rw [show ((o.1,o.2):pV)=o from rfl];unfold f180 Df;rw [qx (by simp only [jL];omega)];simp only [zB];rw [BP (I:=List UInt8) (eq:=yI .str) (fun a b=>rfl),zk (by omega),Kf (I:=List UInt8) (eq:=yI .str) (fun a b=>rfl)];have e2:ZT o∈(jY [] (pA f p (L.take j))).map ZT↔o∈jY [] (pA f p (L.take j)):=by
   constructor
   ·intro hx;obtain ⟨y,hy,e⟩:=Jo.1 hx;obtain ⟨i,rfl⟩:=hm y hy;exact Oo (CF h hp _) qi e ▸ hy
   ·exact fun hx=>Jo.2 ⟨_,hx,rfl⟩
  refine zp.cond (fun hd=>?_) fun hd=>?_
  ·simp only [A1,xB] at hd;refine zp.qR (by simp only [jL];omega) ?_;refine hw _ ?_;rw [qQ hd,e1,Ll _ _ _ (fun q=>hd (e2.2 q)),RK];rfl
  ·simp only [HY,jL] at hd;refine hw _ ?_;rw [e1,Sf _ _ _ (e2.1 hd)]
 ·rintro s w rfl;simp only [Dq];rw [show decide (((L.length:Nat):Int) < len (j8 L))=false by simp [len,Fx],zW,KJ];have hle:=ZX [] (pA f p L);have e5:(pA f p L).length=L.length:=by simp [pA]
  rw [e5] at hle;simp only [He] at hle;obtain ⟨l',q1,q2⟩:=z7z N (by omega) (jY [] (pA f p L)) (by omega) fun x hx=>by
   rw [YD] at hx;obtain ⟨i,_,rfl⟩:=Jo.1 hx;have:=sh (i:Int);simp only at this ⊢;omega
  rw [q1];exact zp.ret q2
end Go.Kz
namespace Go.Kz
theorem YY {a:Nat} (h:a < 2 ^ 64):(BitVec.ofInt 64 (a:Int)).toNat=a:=by
 rw [BitVec.toNat_ofInt,<-Int.natCast_emod,RV,Z5g h]
theorem bv_and {a b:Nat} (ha:a < 2 ^ 64) (hb:b < 2 ^ 64):((BitVec.ofInt 64 (a:Int)).and (BitVec.ofInt 64 (b:Int))).toNat=a &&& b:=by
 show ((BitVec.ofInt 64 (a:Int)) &&& (BitVec.ofInt 64 (b:Int))).toNat=_;rw [BitVec.toNat_and,YY ha,YY hb]
theorem zmc {a b:Nat} (ha:a < 2 ^ 64) (hb:b < 2 ^ 64):((BitVec.ofInt 64 (a:Int)).or (BitVec.ofInt 64 (b:Int))).toNat=a ||| b:=by
 show ((BitVec.ofInt 64 (a:Int)) ||| (BitVec.ofInt 64 (b:Int))).toNat=_;rw [BitVec.toNat_or,YY ha,YY hb]
theorem Qk {a:Nat} (h:a < 2 ^ 64):Aq (a:Int)=(a:Int):=z4s (by omega) (by have:a < 18446744073709551616:=h;omega)
theorem zgm {a b n:Nat} (h:a < 2 ^ n):a &&& b < 2 ^ n:=Nat.lt_of_le_of_lt Nat.and_le_left h
theorem F1:(x:Nat)->0 < x->∃ k m,x=2 ^ k*(2*m+1)
 | x,h=>by
  by_cases ho:x % 2=1
  ·exact ⟨0,x / 2,by omega⟩
  ·obtain ⟨k,m,hk⟩:=F1 (x / 2) (by omega);refine ⟨k+1,m,?_⟩;rw [Nat.pow_succ,Nat.mul_assoc,Nat.mul_left_comm,<-hk];omega
theorem IZ {k m n:Nat} (h:2 ^ k*(2*m+1) < 2 ^ n):k < n:=by
 rcases Z3h k n with hk | hk
 ·exact hk
 ·exfalso;have h1:2 ^ n<=2 ^ k:=Nat.pow_le_pow_right (by omega) hk;have h2:2 ^ k*1<=2 ^ k*(2*m+1):=Z53 _ (by omega);omega
theorem Pz (m i:Nat):(2*m+1).testBit i=(decide (i=0) || (2*m).testBit i):=by
 cases i with
 | zero=>simp [Nat.testBit_zero]
 | succ i=>
  rw [Nat.testBit_succ,Nat.testBit_succ];have e1:(2*m+1) / 2=m:=by omega
  have e2:(2*m) / 2=m:=by omega
  rw [e1,e2];simp
theorem z8s {k m:Nat} (h:2 ^ k*(2*m+1) < 2 ^ 64):2 ^ k*(2*m+1) &&& (2 ^ 64-2 ^ k*(2*m+1))=2 ^ k:=by
 have hk:=IZ h;have hp:2 ^ 64=2 ^ k*2 ^ (64-k):=by rw [<-Nat.pow_add];congr 1;omega
 have hm:2*m+1 < 2 ^ (64-k):=by
  rw [hp] at h;exact Nat.lt_of_mul_lt_mul_left h
 have e:2 ^ 64-2 ^ k*(2*m+1)=2 ^ k*(2 ^ (64-k)-(2*m+1)):=by rw [hp,Nat.mul_sub]
 rw [e];apply Nat.eq_of_testBit_eq;intro i;rw [Nat.testBit_and,Z2l,Z2l,Nat.testBit_two_pow,Nat.testBit_two_pow_sub_succ (by omega),Pz];by_cases hi:i < k
 ·have:¬ i ≥ k:=by omega
  have h2:¬ k=i:=by omega
  simp [this,h2]
 ·by_cases he:i=k
  ·subst he;simp;omega
  ·have h1:¬ i-k=0:=by omega
   have h2:¬ k=i:=by omega
   simp only [h1,h2,Z3k,Bool.false_or];cases (2*m).testBit (i-k) <;> simp
theorem Hk {k m:Nat}:2 ^ k*(2*m+1) &&& (2 ^ k*(2*m+1)-1)=2 ^ k*(2*m):=by
 have hp:0 < 2 ^ k:=Nat.pos_of_ne_zero (by simp);have e:2 ^ k*(2*m+1)-1=2 ^ k*(2*m)+(2 ^ k-1):=by rw [Nat.mul_add];omega
 rw [e];apply Nat.eq_of_testBit_eq;intro i;rw [Nat.testBit_and,Z2l,Z2l,Nat.testBit_two_pow_mul_add _ (by omega),Pz];by_cases hi:i < k
 ·have:¬ i ≥ k:=by omega
  simp [this]
 ·have h1:i ≥ k:=by omega
  simp only [h1,A0,Z2q,qQ hi];by_cases h0:i-k=0
  ·rw [h0];simp
  ·simp [h0]
theorem Ri:(List.range 64).all (fun k=>decide (idx [0,1,56,2,57,49,28,3,61,58,42,50,38,29,17,4,62,47,59,36,45,43,51,22,53,39,33,30,24,18,12,5,63,55,48,27,60,41,37,16,46,35,44,21,52,32,23,11,54,26,40,15,34,20,31,10,25,14,19,9,13,8,7,6] (((2 ^ k*285870213051353865 % 2 ^ 64 / 2 ^ 58:Nat):Int))=some (k:Int)))=true:=by kernel_rfl
theorem z84 (N:Nat) {k m:Nat} (h:2 ^ k*(2*m+1) < 2 ^ 64):f174 N ((2 ^ k*(2*m+1):Nat):Int)=some (k:Int):=by
 have hk:=IZ h;have hp:0 < 2 ^ k:=Nat.pos_of_ne_zero (by simp);generalize hx:2 ^ k*(2*m+1)=x at h;have hx0:0 < x:=by rw [<-hx];exact Nat.mul_pos hp (by omega)
 have hx64:x < 18446744073709551616:=h;unfold f174;have e1:decide ((x:Int)=0)=false:=by simp;omega
 rw [e1,zW];have e2:Go.IntKind.u64.wrap (Int.sub 0 (x:Int))=((2 ^ 64-x:Nat):Int):=by
  show Go.IntKind.u64.wrap (0-(x:Int))=_;simp only [IntKind.wrap,IntKind.min,IntKind.max,IntKind.bits,IntKind.signed];simp;omega
 rw [e2,bv_and h (by omega),<-hx,z8s (by rw [hx];exact h)];have ztx:2 ^ k < 2 ^ 64:=Nat.pow_lt_pow_right (by omega) hk;rw [Qk ztx];have e3:Aq (((2 ^ k:Nat):Int)*285870213051353865)=((2 ^ k*285870213051353865 % 2 ^ 64:Nat):Int):=by
  simp only [Aq,IntKind.wrap,IntKind.min,IntKind.max,IntKind.bits,IntKind.signed];simp
 rw [e3];have e4:Int.fdiv ((2 ^ k*285870213051353865 % 2 ^ 64:Nat):Int) (2 ^ (min (Int.toNat 58) 64))=((2 ^ k*285870213051353865 % 2 ^ 64 / 2 ^ 58:Nat):Int):=by
  rw [Z4y _ (by simp)];rfl
 rw [e4,Mq];have:=Z2k.1 Ri k (Nw.2 hk);have:=AM this;rw [this];simp only [zB];rw [zw (by omega) (by omega)]
def Jm (x:Nat):List Nat:=(List.range 64).filter fun i=>x.testBit i
theorem L5:Jm 0=[]:=by simp [Jm]
theorem Bt (x:Nat):(Jm x).length<=64:=by
 have:=Z3l (fun i=>x.testBit i) (List.range 64);simpa [Jm] using this
theorem Bs {k m:Nat} (hk:k < 64):Jm (2 ^ k*(2*m+1))=k :: Jm (2 ^ k*(2*m)):=by
 have e:List.range 64=List.range k++(k :: (List.range (63-k)).map (fun i=>k+1+i)):=by
  have h1:(64:Nat)=(k+1)+(63-k):=by omega
  conv=>lhs;rw [h1]
  rw [List.range_add,RW,VO];rfl
 simp only [Jm];rw [e,Z2t,Z2t,List.filter_cons,List.filter_cons];have z1:∀ y:Nat,(List.range k).filter (fun i=>(2 ^ k*y).testBit i)=[]:=by
  intro y;rw [Z5q];intro i hi;have:=Nw.1 hi;rw [Z2l];have h2:¬ i ≥ k:=by omega
  simp [h2]
 have b1:(2 ^ k*(2*m+1)).testBit k=true:=by rw [Z2l];simp [Pz]
 have b2:(2 ^ k*(2*m)).testBit k=false:=by rw [Z2l];simp
 rw [z1,z1,yW b1,qQ (by rw [b2];simp)];simp only [Zu];congr 1;apply Z4m;intro i hi;obtain ⟨j,_,rfl⟩:=Jo.1 hi;rw [Z2l,Z2l,Pz];have:¬ k+1+j-k=0:=by omega
 simp [this]
def Oz (j:Nat) (x:Nat):List Int:=(Jm x).map fun i=>((64*j+i:Nat):Int)
theorem z5l (j x:Nat):(Oz j x).length<=64:=by simpa [Oz] using Bt x
theorem Nf {R:Type} (N:Nat) (hN:100<=N) (j:Nat) (hj:j < 1000) (t10:List Int) (t11 t12:Int) (x:Nat) (hx:x < 2 ^ 64) (o:List Int) (ho:o.length < 100000) (kx:List Int->Option R) :
  iter (fun w=>Dj N (j:Int) t10 t11 t12 w kx) N ((x:Int),o)=kx (o++Oz j x):=by
 refine YN (fun s:Int×List Int=>∃ y:Nat,s.1=(y:Int)/\y < 2 ^ 64/\s.2++Oz j y=o++Oz j x) (fun s=>(Jm s.1.toNat).length) ?_ N _ ⟨x,rfl,hx,rfl⟩ (by
  have:=Bt x;simp;omega)
 rintro ⟨t,s⟩ w ⟨y,hy,qJ,he⟩ hw;simp only at hy he;subst hy;simp only [Dj];by_cases h0:y=0
 ·subst h0;simp [Oz,L5] at he ⊢;rw [he]
 ·obtain ⟨k,m,rfl⟩:=F1 y (by omega);have hk:=IZ qJ;have e1:(!decide (((2 ^ k*(2*m+1):Nat):Int)=0))=true:=by
   simp only [A1,xB];omega
  rw [e1,zD,z84 N qJ];simp only [zB];have hlen:s.length+(Oz j (2 ^ k*(2*m+1))).length=o.length+(Oz j x).length:=by
   have:=C6 List.length he;simpa using this
  have gy:=z5l j x;rw [qx (by simp [room];omega)];have Cm:0 < 2 ^ k*(2*m+1):=by omega
  have e2:Go.IntKind.u64.wrap (Int.sub ((2 ^ k*(2*m+1):Nat):Int) 1)=((2 ^ k*(2*m+1)-1:Nat):Int):=by
   show Aq (((2 ^ k*(2*m+1):Nat):Int)-1)=_;have:(((2 ^ k*(2*m+1):Nat):Int)-1)=((2 ^ k*(2*m+1)-1:Nat):Int):=by omega
   rw [this,Qk (by omega)]
  have Hb:2 ^ k*(2*m) < 2 ^ 64:=by rw [<-Hk];exact zgm qJ
  rw [e2,bv_and qJ (by omega),Hk,Qk Hb];rw [zw (n:=(j:Int)*64) (by omega) (by omega),zw (n:=(j:Int)*64+(k:Int)) (by omega) (by omega)];have hc:(j:Int)*64+(k:Int)=((64*j+k:Nat):Int):=by omega
  rw [hc];have zls:Oz j (2 ^ k*(2*m+1))=((64*j+k:Nat):Int) :: Oz j (2 ^ k*(2*m)):=by simp only [Oz,Bs hk,JU]
  refine hw _ ⟨_,rfl,Hb,?_⟩ ?_
  ·simp only;rw [VO,Z5j,<-zls];exact he
  ·simp only [RV];rw [Bs hk];simp
theorem EC (a:Nat):Int.tdiv (a:Int) 64=((a / 64:Nat):Int):=(Int.ofNat_tdiv a 64).symm
theorem EB (a:Nat):Int.tmod (a:Int) 64=((a % 64:Nat):Int):=(Int.ofNat_tmod a 64).symm
theorem z0e (a r:Nat) (h:r<=64):Int.fdiv (a:Int) (2 ^ (min (Int.toNat ((r:Nat):Int)) 64))=((a / 2 ^ r:Nat):Int):=by
 have e:min (Int.toNat ((r:Nat):Int)) 64=r:=by simp;omega
 have e2:((2:Int) ^ r)=((2 ^ r:Nat):Int):=by simp
 rw [e,e2,Z4y _ (Z4x _)];rfl
def Bw (l:List Nat) (w:Nat):Nat:=l.foldl (fun w i=>w ||| 2 ^ i) w
theorem P7 (l:List Nat):∀ (w j:Nat),(Bw l w).testBit j=(w.testBit j || decide (j∈l)):=by
 induction l with
 | nil=>intro w j;simp [Bw]
 | cons i l ih=>
  intro w j;have:=ih (w ||| 2 ^ i) j;simp only [Bw,Z2g] at this ⊢;rw [this,Nat.testBit_or,Nat.testBit_two_pow];by_cases h:j=i
  ·subst h;simp
  ·have h2:¬ i=j:=fun e=>h e.symm
   simp [h,h2]
theorem SK (l:List Nat) (h:∀ i∈l,i < 64) {w:Nat} (hw:w < 2 ^ 64):Bw l w < 2 ^ 64:=by
 apply Nat.lt_pow_two_of_testBit;intro j hj;rw [P7,Nat.testBit_lt_two_pow (Z21 hw (Nat.pow_le_pow_right (by omega) hj))];have:j∉l:=fun hm=>by have:=h j hm;omega
 simp [this]
theorem Hl {i:Nat} (h:i < 64):2 ^ i < 2 ^ 64:=Nat.pow_lt_pow_right (by omega) h
theorem Md (N m:Nat) (h0:0 < m) (h:m<=64):f172 N (m:Int)=some 1:=by
 unfold f172;rw [zw (n:=(m:Int)+64) (by omega) (by omega)];have:(m:Int)+64-1=((m+63:Nat):Int):=by omega
 rw [this,zw (n:=((m+63:Nat):Int)) (by omega) (by omega),EC,zw (by omega) (by omega),show (m+63) / 64=1 by omega];rfl
theorem Mc (N m W:Nat) (h0:0 < m) (h:m<=63) (hW:W < 2 ^ m):f173 N ((m:Int),([(W:Int)],()))=some true:=by
 unfold f173;have e1:decide ((m:Int) < 0)=false:=qW (by omega);have e2:decide ((4096:Int) < (m:Int))=false:=qW (by omega);have e3:decide ((m:Int)=0)=false:=qW (by omega);simp only [e1,e2,zW,zB];rw [Md N m h0 (by omega)];have l1:len [(W:Int)]=1:=rfl;have e4:zz ((1:Int)-1)=((0:Nat):Int):=by rw [zw (by omega) (by omega)];rfl
 simp only [zB,l1,A0,pE,zW,EB,show m % 64=m by omega,e1,e3,e4];rw [zJ (show 0 < [(W:Int)].length by simp)];simp only [zB,Z5k,zW];rw [z0e _ _ (by omega),Nat.div_eq_of_lt hW];rfl
theorem Lf (L:List Nat) {m:Nat} (h:∀ i∈L,i < m):Bw L 0 < 2 ^ m:=by
 apply Nat.lt_pow_two_of_testBit;intro j hj;rw [P7];have:j∉L:=fun hm=>by have:=h j hm;omega
 simp [this]
theorem zfv (N:Nat) (hN:200<=N) (m:Nat) (h0:0 < m) (hm:m<=16) (L:List Nat) (hl:L.length<=16) (hL:∀ i∈L,i < m):f23 N (m:Int) (j8 L)=some (((m:Int),([((Bw L 0:Nat):Int)],())),0):=by
 have Fx:(j8 L).length=L.length:=by simp [j8]
 refine zp.eq ?_;unfold f23 f81;rw [qW (show ¬ (m:Int) < 0 by omega),qW (show ¬ (4096:Int) < (m:Int) by omega),Md N m h0 (by omega)];have r0:decide ((1:Int)<=((room:Nat):Int))=true:=by decide
 simp only [zW,zB,A0,Z31,Z2q,r0,show decide ((0:Int)<=1)=true from rfl,show decide ((1:Int)<=1)=true from rfl];rw [qx rfl];simp only [zB,A0,pE,zW];refine zp.up (fun j s=>s=[((Bw (L.take j) 0:Nat):Int)]) L.length ?_ ?_ N 0 (jE _) (by omega) _ rfl
 ·rintro j s w hj rfl hw;have v7:j < (j8 L).length:=by omega
  have hi:=hL _ (kK hj);simp only [DU];rw [show decide ((j:Int) < len (j8 L))=true from zP v7,zD,zJ v7];simp only [zB];rw [show (j8 L)[j]=((L[j]:Nat):Int) by simp [j8]];generalize hgi:L[j]=i at hi ⊢;rw [qW (show ¬ (i:Int) < 0 by omega),qW (show ¬ (m:Int)<=(i:Int) by omega)];simp only [zW,zB,EC,EB,show i / 64=0 by omega,show i % 64=i by omega];have e0:zz ((0:Nat):Int)=((0:Nat):Int):=zw (by omega) (by omega);have z:0 < [((Bw (L.take j) 0:Nat):Int)].length:=by simp
  rw [e0,zJ z,ZF z,qW (show ¬ (i:Int) < 0 by omega)];simp only [zW,zB];rw [qx rfl,qx rfl,zk (by omega)];refine hw _ ?_;have qJ:Bw (L.take j) 0 < 2 ^ 64:=SK _ (fun i hi=>by have:=hL _ (Z3f hi);omega) (by omega);have e2:Go.IntKind.u64.wrap (Int.mul 1 (Int.pow 2 (min ((i:Int)).toNat 64)))=((2 ^ i:Nat):Int):=by
   have e3:min ((i:Int)).toNat 64=i:=by simp;omega
   rw [e3];have e4:Int.mul 1 (Int.pow 2 i)=((2 ^ i:Nat):Int):=by
    show (1:Int)*(2:Int) ^ i=_;simp
   rw [e4];exact Qk (Hl (by omega))
  rw [e2,show [((Bw (L.take j) 0:Nat):Int)][0]=((Bw (L.take j) 0:Nat):Int) from rfl,zmc qJ (Hl (by omega)),Qk (Nat.or_lt_two_pow qJ (Hl (by omega)))];rw [zo hj,hgi];simp only [Bw,Z47,Z2g,Z3m];rfl
 ·rintro s w rfl;simp only [DU];rw [show decide (((L.length:Nat):Int) < len (j8 L))=false by simp [len,Fx],zW,KJ];exact zp.ret rfl
theorem zfj (N:Nat) (hN:200<=N) (m:Nat) (h0:0 < m) (hm:m<=16) (q:Nat->Bool):f83 N ((m:Int),([((Bw ((List.range m).filter q) 0:Nat):Int)],()))=some (j8 ((List.range m).filter q)):=by
 have hL:∀ i∈(List.range m).filter q,i < m:=fun i hi=>Nw.1 (Z30.1 hi).1
 have qJ:Bw ((List.range m).filter q) 0 < 2 ^ 64:=SK _ (fun i hi=>by have:=hL _ hi;omega) (by omega);unfold f83;rw [Mc N m _ h0 (by omega) (Lf _ hL)];simp only [zB,pE,zW];have hb:Oz 0 (Bw ((List.range m).filter q) 0)=j8 ((List.range m).filter q):=by
  unfold Oz Jm j8;have e:(List.range 64).filter (fun i=>(Bw ((List.range m).filter q) 0).testBit i)=(List.range m).filter q:=by
   rw [show (64:Nat)=m+(64-m) by omega,List.range_add,Z2t];have z:((List.range (64-m)).map fun i=>m+i).filter (fun i=>(Bw ((List.range m).filter q) 0).testBit i)=[]:=by
    rw [Z5q];intro i hi;obtain ⟨j,_,rfl⟩:=Jo.1 hi;rw [P7];have:m+j∉(List.range m).filter q:=fun hm=>by have:=hL _ hm;omega
    simp [this]
   rw [z,AL];apply Z4m;intro i hi;rw [P7];simp [Nw.1 hi]
  rw [e];simp
 generalize Bw ((List.range m).filter q) 0=W at qJ hb;refine zp.eq ?_;refine zp.up (fun j s=>s=if j=0 then [] else j8 ((List.range m).filter q)) 1 ?_ ?_ N 0 (jE _) (by omega) _ rfl
 ·rintro j s w hj rfl hw;obtain rfl:j=0:=by omega
  simp only [Dv,Dn];rw [show decide (((0:Nat):Int) < len [(W:Int)])=true from rfl,zD,show idx [(W:Int)] ((0:Nat):Int)=some (W:Int) from rfl];simp only [zB];rw [Nf N (by omega) 0 (by omega) _ _ _ W qJ [] (by simp),hb,zk (by omega)];refine hw _ ?_;rw [qQ (by omega)];rfl
 ·rintro s w rfl;simp only [Dv];rw [show decide (((1:Nat):Int) < len [(W:Int)])=false from rfl,zW,qQ (by omega)];exact zp.ret rfl
theorem zfu (N:Nat) (hN:200<=N) (p:List Int) (hp:xJ p=true) (m:Nat) (hpm:p.length=m) (h0:0 < m) (hm:m<=16) (q:Nat->Bool) :
  f24 N p ((m:Int),([((Bw ((List.range m).filter q) 0:Nat):Int)],()))=some (((jY [] (((List.range m).filter q).map fun i=>p.getD i 0)).length:Int),0):=by
 have hL:∀ i∈(List.range m).filter q,i < m:=fun i hi=>Nw.1 (Z30.1 hi).1
 have HT:((List.range m).filter q).length<=m:=by have:=Z3l q (List.range m);simpa using this
 have r1:=vP;have e82:f82 N p ((m:Int),([((Bw ((List.range m).filter q) 0:Nat):Int)],()))=some 0:=by
  unfold f82;rw [D7 N p (by omega) (by omega),hp,Mc N m _ h0 (by omega) (Lf _ hL)];simp only [zB,pE,zW];rw [show len p=(m:Int) by simp [len,hpm],jg rfl];rfl
 unfold f24;rw [e82,zB,jg rfl,pE,zW,zfj N hN m h0 hm q,zB];generalize (List.range m).filter q=L at hL HT;have Fx:(j8 L).length=L.length:=by simp [j8]
 refine zp.eq ?_;refine zp.up (fun j s=>s=CO (jY [] ((L.take j).map fun i=>p.getD i 0))) L.length ?_ ?_ N 0 (jE _) (by omega) _ rfl
 ·rintro j s w hj rfl hw;have v7:j < (j8 L).length:=by omega
  have hi:=hL _ (kK hj);simp only [DG];rw [show decide ((j:Int) < len (j8 L))=true from zP v7,zD,zJ v7,ZF v7,qx rfl];simp only [zB];rw [show (j8 L)[j]=((L[j]:Nat):Int) by simp [j8],zJ (show L[j] < p.length by omega)];simp only [zB];rw [zk (by omega),Kf (I:=Int) (eq:=yI (.int .i64)) (fun a b=>rfl)];refine hw _ ?_;have e:p.getD L[j] 0=p[L[j]]'(by omega):=by rw [E0,gj (by omega)];rfl
  rw [zo hj,RK,JU,Z2i,xT];simp only [jY];rw [e]
 ·rintro s w rfl;simp only [DG];rw [show decide (((L.length:Nat):Int) < len (j8 L))=false by simp [len,Fx],zW,KJ];have hle:=ZX [] (L.map fun i=>p.getD i 0);simp only [He,Jk] at hle;rw [qx (by simp only [jL,CO,Jk];omega)];refine zp.ret ?_;simp [len,CO]
end Go.Kz
namespace Go.Kz
section
variable {I:Type} [DecidableEq I]
theorem KS:(acc l:List I)->acc.Nodup->(jY acc l).Nodup
 | acc,[],h=>h
 | acc,x :: l,h=>by
  simp only [jY];split
  ·exact KS acc l h
  ·rename_i hx;refine KS (acc++[x]) l ?_;rw [Z4p];exact ⟨h,by simp,fun a ha b hb e=>by simp only [EY] at hb;subst hb;exact hx (e ▸ ha)⟩
end
theorem BY {I:Type} {l:List I} (h:l.Nodup) {i j:Nat} (hi:i < l.length) (hj:j < l.length) (e:l[i]=l[j]):i=j:=by
 rcases Nat.lt_trichotomy i j with q | q | q
 ·exact absurd e (Z4s.1 h i j hi hj q)
 ·exact q
 ·exact absurd e.symm (Z4s.1 h j i hj hi q)
theorem Hi (n:Nat):(vK n).Nodup:=by
 unfold vK;rw [Z5x,List.pairwise_map];exact List.Pairwise.imp (fun h e=>h (by omega)) (Z5x.1 List.nodup_range)
def K0 (g:Nat->Int) (L:List Nat):List (E2×Int):=L.map fun (s:Nat)=>(((s:Int),(g s,())),1)
theorem z9t (a b c d:Int):qE (a,(b,())) (c,(d,()))=(decide (a=c) && decide (b=d)):=by simp [qE,PS,yI]
theorem Kh (g:Nat->Int) (a:Nat) (b:Int):(L:List Nat)->(jW qE (K0 g L) ((a:Int),(b,()))).getD 0=if a∈L/\b=g a then 1 else 0
 | []=>by simp [K0,jW]
 | s :: L=>by
  have ih:=Kh g a b L;simp only [K0,JU,jW,z9t] at ih ⊢;by_cases h:a=s
  ·subst h;by_cases h2:b=g a
   ·simp [h2]
   ·rw [qW h2,Bool.and_false,zW,ih];simp [h2]
  ·rw [qW (show ¬ (a:Int)=(s:Int) by omega),Bool.false_and,zW,ih];simp [h]
theorem BW (g:Nat->Int) (a:Nat):(L:List Nat)->a∉L->js qE (K0 g L) ((a:Int),(g a,())) 1=K0 g (L++[a])
 | [],_=>rfl
 | s :: L,h=>by
  have ih:=BW g a L (fun hm=>h (by simp [hm]));have h1:¬ a=s:=fun e=>h (by simp [e])
  simp only [K0,JU,ue,js,z9t] at ih ⊢;rw [qW (show ¬ (a:Int)=(s:Int) by omega),Bool.false_and,zW,ih]
def wQ (f:zf) (p:List Int) (n:Nat):List pV:=jY [] (Q3 f p n)
def xh (f:zf) (p:List Int) (S s:Nat):Int:=(posOf (jr f p (s:Int)) (wQ f p S):Int)
theorem F2 (f:zf) (p:List Int) (m:Nat):∀ n,∃ r,Q3 f p (m+n)=Q3 f p m++r
 | 0=>⟨[],by simp⟩
 | n+1=>by
  obtain ⟨r,h⟩:=F2 f p m n;exact ⟨r++[jr f p ((m+n:Nat):Int)],by rw [<-R4,KN,h];simp⟩
theorem YC (f:zf) (p:List Int) {j n:Nat} (h:j < n):jr f p (j:Int)∈wQ f p n:=by
 rw [wQ,YD];exact Jo.2 ⟨j,Nw.2 h,rfl⟩
theorem OK (f:zf) (p:List Int) {j S:Nat} (h:j < S):(posOf (jr f p (j:Int)) (wQ f p (j+1)):Int)=xh f p S j:=by
 obtain ⟨r,hr⟩:=F2 f p (j+1) (S-(j+1));rw [show j+1+(S-(j+1))=S by omega] at hr;unfold xh wQ;rw [hr,xT];obtain ⟨q,hq⟩:=UE (jY [] (Q3 f p (j+1))) r;rw [hq,u4];exact YC f p (E1 j)
theorem UD (f:zf) (p:List Int) (n:Nat):(wQ f p n).length<=n:=by
 have:=ZX [] (Q3 f p n);rw [uC] at this;simpa [wQ] using this
theorem Lm {f:zf} {p:List Int} {n:Nat} {x:pV} (h:x∈wQ f p n):∃ i:Int,x=jr f p i:=by
 rw [wQ,YD] at h;obtain ⟨i,_,rfl⟩:=Jo.1 h;exact ⟨_,rfl⟩
theorem zdc (N:Nat) (hN:5000<=N) {f:zf} (h:P2 N f) {p:List Int} (hp:Fits (jD f.1 2) p) {S:Nat} (hS:zS (jD f.1 1)=(S:Int)) {R:Type} (kx:List pV->List (E2×Int)->Option R) (Q:R->Prop)
  (hk:zp (kx (wQ f p S) (K0 (xh f p S) (List.range S))) Q) (t10:Int) :
  zp (iter (fun w=>WS TY N 1 t10 (S:Int) (p,(true,())) f w kx) N (0,([]:List (E2×Int)),([]:List pV),([]:List (List UInt8×Int)))) Q:=by
 have hv:=h.wf.vars;have MQ:=h.sec;have r1:=vP;have rb:=xI;have q2:=vE (l:=jD f.1 2) (u6 hv.Qy 2);refine zp.up (fun j s=>s=(K0 (xh f p S) (List.range j),wQ f p j,AY ((wQ f p j).map Gb) 0)) S ?_ ?_ N 0 (jE _) (by omega) _ rfl
 ·rintro j s w hj rfl hw;have FV:=UD f p j;simp only [WS];rw [jg (show (j:Int) < (S:Int) by omega),zD];refine zp.up (fun i s=>s=if i=0 then (K0 (xh f p S) (List.range j),wQ f p j,AY ((wQ f p j).map Gb) 0) else (K0 (xh f p S) (List.range (j+1)),wQ f p (j+1),AY ((wQ f p (j+1)).map Gb) 0)) 1 ?_ ?_ N 0 (jE _) (by omega) _ rfl
  ·rintro i s w2 hi rfl hw2;obtain rfl:i=0:=by omega
   have sh:(Gq f (Kt f p (j:Int))).outs.length<=8:=xS h.wf (Kt f p (j:Int));simp only [PX,Dn];rw [show decide (((0:Nat):Int) < 1)=true from rfl,zD];unfold f72;rw [PE N (by omega) hv 1 (by omega) hv.sec (j:Int) (by omega) (by omega),PE N (by omega) hv 2 (by omega) hv.pub 0 (by omega) (by omega),PE N (by omega) hv 3 (by omega) (by have:=hv.rnd;omega) ((0:Nat):Int) (by omega) (by rw [h.CM];decide)];simp only [zB,A0,pE,zW];rw [show f73 N f (Ku (jD f.1 1) (j:Int) (jD f.1 1).length,(p,(Ku (jD f.1 3) ((0:Nat):Int) (jD f.1 3).length,())))=some (jr f p (j:Int),0) by
    rw [h.CM];exact z0i N hN f h.wf (Kt f p (j:Int)) (Cb h hp _)]
   simp only [zB,f74];rw [N4 N _ (by omega)];simp only [zB,zD];rw [qx (by simp only [jL];show 1+(Gq f (Kt f p (j:Int))).outs.length<=room;omega)];unfold f60 U4;rw [qx (by simp only [jL,GO];omega)];simp only [zB];rw [show gL ((Gq f (Kt f p (j:Int))).time :: (Gq f (Kt f p (j:Int))).outs)=Gb (jr f p (j:Int)) from rfl];have he:∀ a b:List UInt8,yI .str a b=decide (a=b):=fun a b=>rfl
   have inj:∀ y∈wQ f p j,Gb y=Gb (jr f p (j:Int))->y=jr f p (j:Int):=fun y hy e=>by
    obtain ⟨i,rfl⟩:=Lm hy;exact Tw (CF h hp _) (CF h hp _) e
   have mem:Gb (jr f p (j:Int))∈(wQ f p j).map Gb↔jr f p (j:Int)∈wQ f p j:=by
    constructor
    ·intro hx;obtain ⟨y,hy,e⟩:=Jo.1 hx;exact inj y hy e ▸ hy
    ·exact fun hx=>Jo.2 ⟨_,hx,rfl⟩
   have v7:j∉List.range j:=by simp
   have zky:=OK f p hj;have fin:∀ k:Int,k=xh f p S j->∀ F:List (E2×Int)->Option R,zp (F (K0 (xh f p S) (List.range (j+1)))) Q->zp (TY R (K0 (xh f p S) (List.range j)) ((j:Int),(k,())) F) Q:=by
    rintro k rfl F hF;unfold TY;refine zp.qR (by simp only [jL,K0,Jk,Z48];omega) ?_;rw [Kh,qQ (fun e=>v7 e.1),show zz ((0:Int)+1)=1 from by rw [zw (by omega) (by omega)];rfl,BW _ _ _ v7,<-RW];exact hF
   rw [BU he];by_cases hm:jr f p (j:Int)∈wQ f p j
   ·have OF:wQ f p (j+1)=wQ f p j:=by unfold wQ;rw [KN];exact Sf _ _ _ hm
    rw [yW (mem.2 hm),KI inj];simp only [Option.isSome_some,pE,zW,Z44];refine fin _ (by rw [<-zky,OF];omega) _ ?_;rw [show zz (((0:Nat):Int)+1)=((0:Nat):Int)+1 from zk (by omega)];refine hw2 _ ?_;rw [qQ (by omega),OF]
   ·have OF:wQ f p (j+1)=wQ f p j++[jr f p (j:Int)]:=by unfold wQ;rw [KN];exact Ll _ _ _ hm
    rw [qQ (fun q=>hm (mem.1 q))];simp only [Z5h,Z2b,zD];refine zp.qR (by simp only [jL];omega) ?_;refine fin _ (by rw [<-zky,OF,KH hm]) _ ?_;rw [show zz (((0:Nat):Int)+1)=((0:Nat):Int)+1 from zk (by omega)];refine hw2 _ ?_;rw [qQ (by omega),OF,RK];have hp2:=BV he (Gb (jr f p (j:Int))) ((wQ f p j).map Gb) 0 (fun q=>hm (mem.1 q));rw [Int.zero_add,Jk] at hp2;rw [show len (wQ f p j)=((wQ f p j).length:Int) from rfl,hp2];rfl
  ·rintro s w2 rfl;simp only [PX];rw [show decide (((1:Nat):Int) < 1)=false from rfl,zW,qQ (by omega),zk (by omega)];exact hw _ rfl
 ·rintro s w rfl;simp only [WS];rw [qW (by omega),zW];exact hk
theorem zdb {R:Type} (N m:Nat) (hm:m<=16) (hN:200<=N) (t:Int) (o2:List pV) (o3:List (E2×Int)) (kx:List Int->Option R) (Q:R->Prop) (hk:zp (kx (vK m)) Q) :
  zp (iter (fun w=>WR TY N t (m:Int) o2 o3 w kx) N (0,(List.replicate m 0:List Int))) Q:=by
 refine zp.up (fun k s=>s.length=m/\∀ i (h:i < s.length),i < k->s[i]=(i:Int)) m ?_ ?_ N 0 (jE _) (by omega) _ ⟨by simp,fun i h hi=>by omega⟩
 ·rintro j s w hj ⟨hl,hs⟩ hw;have v7:j < s.length:=by omega
  simp only [WR];rw [jg (show (j:Int) < (m:Int) by omega),zD,ZF v7,qx rfl,zJ v7];simp only [zB];rw [zk (by omega)];refine hw _ ⟨by simp [wx,hl],fun i h hi=>?_⟩;simp only [wx,RV,Z4a];split
  ·rename_i e;omega
  ·rename_i e;exact hs i (by simpa [wx] using h) (by omega)
 ·rintro s w ⟨hl,hs⟩;simp only [WR];rw [qW (by omega),zW];have:s=vK m:=by
   apply Z2y
   ·simp [vK,hl]
   ·intro i h1 h2;rw [hs i h1 (by omega)];simp [vK]
  rw [this];exact hk
theorem zfk (N:Nat) (hN:200<=N) (U:List pV) (hu:U.Nodup) (hl:U.length<=16) (hs:∀ x∈U,x.1.length<=100):∃ l',f75 N (U,()) (vK U.length)=some (((),()),(l',()))/\l'.Perm (vK U.length):=by
 have at_:∀ x∈vK U.length,∃ i:Nat,x=(i:Int)/\i < U.length:=fun x hx=>by
  have:=KW.1 hx;exact ⟨x.toNat,by omega,by omega⟩
 let g:Int->pV:=fun x=>U.getD x.toNat ([],(0,()))
 have gi:∀ (i:Nat) (hi:i < U.length),g (i:Int)=U[i]:=fun i hi=>by
  simp only [g,RV,E0,gj hi,Z44]
 have inj:∀ x∈vK U.length,∀ y∈vK U.length,g x=g y->x=y:=fun x hx y hy e=>by
  obtain ⟨i,rfl,hi⟩:=at_ x hx;obtain ⟨j,rfl,hj⟩:=at_ y hy;rw [gi i hi,gi j hj] at e;rw [BY hu hi hj e]
 obtain ⟨l',h1,h2⟩:=An (t:=.int .i64) (Fc:=fun x y=>f76 N x y U) (c:=fun x y=>Hz (g x) (g y)) (l:=vK U.length) (fun x hx y hy=>by
   obtain ⟨i,rfl,hi⟩:=at_ x hx;obtain ⟨j,rfl,hj⟩:=at_ y hy;unfold f76;rw [zJ hi,zJ hj];simp only [zB];rw [Dk N hN _ _ (hs _ (kK hi)),gi i hi,gi j hj];rfl) (fun x hx y hy h=>inj x hx y hy ((p7.zero _ _).1 h)) (fun x _=>(p7.zero _ _).2 rfl) (fun x _ y _=>p7.neg _ _) (fun x _ y _ z _=>p7.trans _ _ _) (by simp [vK];omega)
 refine ⟨l',?_,h2⟩;unfold f75;rw [h1];rfl
theorem zda {R:Type} (N m:Nat) (hm:m<=16) (hN:200<=N) (t:Int) (o1:List pV) (ho:o1.length=m) (ord:List Int) (hp:ord.Perm (vK m)) (o4:List (E2×Int)) (kx:List pV->Option R) (Q:R->Prop) (hk:∀ l,zp (kx l) Q) :
  zp (iter (fun w=>WO TY N t (len ord) o1 ord o4 w kx) N (0,([]:List pV))) Q:=by
 have r1:=vP;have hl:ord.length=m:=by rw [hp.length_eq];simp [vK]
 refine zp.up (fun k s=>s.length=k) m ?_ ?_ N 0 (jE _) (by omega) _ rfl
 ·rintro j s w hj hs hw;have v7:j < ord.length:=by omega
  have hmem:=KW.1 (hp.mem_iff.1 (kK v7));simp only [WO];rw [show decide ((j:Int) < len ord)=true from zP v7,zD,ZF v7,qx rfl,zJ v7];simp only [zB];obtain ⟨i,hi⟩:∃ i:Nat,ord[j]=(i:Int):=⟨ord[j].toNat,by omega⟩;rw [hi] at hmem ⊢;have vf:i < o1.length:=by omega
  rw [ZF vf,qx rfl,zJ vf];simp only [zB];refine zp.qR (by simp only [jL];omega) ?_;rw [zk (by omega)];exact hw _ (by simp [hs])
 ·rintro s w hs;simp only [WO];rw [show decide ((m:Int) < len ord)=false by simp [len,hl],zW];exact hk s
theorem zd9 {R:Type} (N:Nat) (hN:200<=N) (g:Nat->Int) (S s:Nat) (hs:s < S) (ord:List Int) (hl:ord.length<=16) (a b:Int) (o4:List (List Int)) (o6:List pV) (kx:List Int->Option R) (Q:R->Prop) (hk:zp (kx (ord.map fun k=>if k=g s then 1 else 0)) Q) :
  zp (iter (fun w=>WN TY N (s:Int) a b (len ord) (K0 g (List.range S)) ord o4 o6 w kx) N (0,(List.replicate ord.length 0:List Int))) Q:=by
 refine zp.up (fun k s1=>s1.length=ord.length/\∀ i (h:i < s1.length) (h':i < ord.length),i < k->s1[i]=if ord[i]=g s then 1 else 0) ord.length ?_ ?_ N 0 (jE _) (by omega) _ ⟨by simp,fun i h h' hi=>by omega⟩
 ·rintro j s1 w hj ⟨e1,e2⟩ hw;have v7:j < s1.length:=by omega
  simp only [WN];rw [show decide ((j:Int) < len ord)=true from zP hj,zD,ZF hj,qx rfl,zJ hj];simp only [zB];rw [ZF v7,qx rfl,zJ v7];simp only [zB];rw [zk (by omega),show PS (.pair (.int .i64) (.pair (.int .i64) .unit))=qE from rfl,Kh];refine hw _ ⟨by simp [wx,e1],fun i h h' hi=>?_⟩;simp only [wx,RV,Z4a];split
  ·rename_i e;subst e;simp [hs]
  ·rename_i e;exact e2 i (by simpa [wx] using h) h' (by omega)
 ·rintro s1 w ⟨e1,e2⟩;simp only [WN];rw [show decide (((ord.length:Nat):Int) < len ord)=false from zM _,zW];have:s1=ord.map fun k=>if k=g s then 1 else 0:=by
   apply Z2y
   ·simp [e1]
   ·intro i h1 h2;rw [e2 i h1 (by omega) (by omega)];simp
  rw [this];exact hk
theorem zfx (N:Nat) (hN:5000<=N) {f:zf} (h:P2 N f) {p:List Int} (hp:Fits (jD f.1 2) p) {S:Nat} (hS:zS (jD f.1 1)=(S:Int)) :
  zp (f21 N f (p,(true,()))) fun r=>r.2.2=0/\∃ ord:List Int,ord.Perm (vK (wQ f p S).length)/\r.1=((List.range S).map (fun s=>ord.map fun k=>if k=xh f p S s then 1 else 0),()):=by
 have hv:=h.wf.vars;have MQ:=h.sec;have r1:=vP;have rb:=xI;have FV:=UD f p S;unfold f21 zfy;rw [Im N (by omega) f h.wf,zB,jg rfl,pE,zW];refine zp.then (z0j N (by omega) hv 2 (by omega) hv.pub p hp) fun r hr=>?_
 rw [jg hr,pE,zW,VK N (by omega) hv.len hv.Qy 1 (by omega) hv.sec,VK N (by omega) hv.len hv.Qy 3 (by omega) (by have:=hv.rnd;omega)];simp only [zB];rw [show zS (jD f.1 3)=1 by rw [h.CM];rfl,hS,qW (show ¬ (256:Int) < (S:Int) by omega),zW];refine zdc N hN h hp hS _ _ ?_ _;rw [qW (show ¬ (256:Int) < len (wQ f p S) by simp only [len];omega),zW];refine zp.qR (by simp only [zA,jL,len];omega) ?_;simp only [len,RV,Z5o];refine zdb N _ (by omega) (by omega) _ _ _ _ _ ?_;obtain ⟨ord,o1,o2⟩:=zfk N (by omega) (wQ f p S) (KS _ _ (by simp)) (by omega) fun x hx=>by
  obtain ⟨i,rfl⟩:=Lm hx;have:(jr f p i).1.length<=8:=xS h.wf (Kt f p i);omega
 have hol:ord.length=(wQ f p S).length:=by rw [o2.length_eq];simp [vK]
 rw [o1,zB];refine zda N _ (by omega) (by omega) _ _ rfl _ o2 _ _ _ fun l=>?_
 refine zp.up (fun j s=>s=(List.range j).map fun s=>ord.map fun k=>if k=xh f p S s then 1 else 0) S ?_ ?_ N 0 (jE _) (by omega) _ rfl
 ·rintro j s w hj rfl hw;simp only [PU];rw [jg (show (j:Int) < (S:Int) by omega),zD];refine zp.qR (by simp only [zA,jL,len];omega) ?_;rw [show Int.toNat (len ord)=ord.length from rfl];refine zd9 N (by omega) _ S j hj ord (by omega) _ _ _ _ _ _ ?_;refine zp.qR (by simp only [jL,Jk,Z48];omega) ?_;rw [zk (by omega)];refine hw _ ?_;rw [RW,RK];rfl
 ·rintro s w rfl;simp only [PU];rw [qW (by omega),zW];exact zp.ret ⟨rfl,ord,o2,rfl⟩
end Go.Kz
