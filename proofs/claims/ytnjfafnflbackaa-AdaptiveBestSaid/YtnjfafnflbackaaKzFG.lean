/-
  The layer adaptive: the plan, and Best; plain laws.
-/
import Derived.Test.YtnjfafnflbackaaKzFE
set_option linter.unusedVariables false
set_option linter.unusedSimpArgs false
namespace Go.Kz
def RepOK (N:Nat):Prop:=∀ n:Nat,n≤62->f83 N [-1] (n:Int)=some (List.replicate n (-1))
def zhq (vs g:List (List Int)) (n l q:Nat) (v:List Int) (S:Nat) (s:List z1c) (k:Nat):List z1c:=
 let a:=(List.range k).foldl (z2p vs g n l (z3j vs g n l) v S s.length) ([],[])
 s++(((q:Nat):Int),(a.1++List.replicate (z2f v-k) (-1),())) :: a.2
theorem zng (vs g:List (List Int)) (n l:Nat) (S:Nat) (s:List z1c):zhq vs g n l (qOf vs g n l S) (vs.getD (qOf vs g n l S) []) S s (z2f (vs.getD (qOf vs g n l S) []))=s++z3j vs g n (l+1) S s.length:=by
 simp only [zhq,z3j,Nat.sub_self,List.replicate_zero,List.append_nil]
theorem znf (vs g:List (List Int)) (n l q:Nat) (v:List Int) (S:Nat) (s:List z1c) {k:Nat} (hk:k < z2f v) (h:z85 vs g n l (part v S k)=true):zhq vs g n l q v S s k=zhq vs g n l q v S s (k+1):=by
 simp only [zhq,List.range_succ,List.foldl_append,List.foldl_cons,List.foldl_nil];rw [zmo k _ hk];simp only [z2p,h,if_true,List.append_assoc,List.singleton_append]
theorem zmt {R:Type} (N:Nat) (hN:5000 < N) {m:z1i} {g:List (List Int)} {n:Nat} {K:List Key} (hs:Slv m g n K) {p:Key} (hp:p∈K) {l:Nat} (hl:p.2.1.toNat=l+1) {q:Nat} (hq:q < m.2.1.length) (s:List z1c)
  (r:PlanFn) (hr:∀ x∈zly m.2.1 p,¬ z1m g n x.1.toNat.testBit=WK m g n x->ztg m g n K r x)
  (hlen:(zhq m.2.1 g n l q (z05 m q) p.1.toNat s (z2f (z05 m q))).length≤100000)
  {F:(Int×List z1c×z1i×List (List Int)×z7a->Option R)->Int×List z1c×z1i×List (List Int)×z7a->Option R} {A:Option R}
  (hF:∀ (w:Int×List z1c×z1i×List (List Int)×z7a->Option R) (c:Nat) (s':List z1c),c < z2f (z05 m q)->F w ((c:Int),s',m,g,M1 m g n K) =
   (idx (z51 (z05 m q) p.1.toNat) (c:Int)).bind fun x_1=>
   cond (decide (x_1=0))
    (w ((z0l ((c:Int)+1)),s',m,g,M1 m g n K))
    ((f54 N (x_1,((z0l (p.2.1-1)),())) m g (M1 m g n K)).bind fun r_6=>
    cond r_6.1.2.1
     (w ((z0l ((c:Int)+1)),s',r_6.2.1.1,r_6.2.1.2.1,r_6.2.2.1))
     (chk (inb s' (s.length:Int)) <|
     (idx s' (s.length:Int)).bind fun x_2=>
     (idx s' (s.length:Int)).bind fun x_3=>
     (idx s' (s.length:Int)).bind fun x_4=>
     chk (inb x_4.2.1 (c:Int)) <|
     (idx s' (s.length:Int)).bind fun x_5=>
     (idx x_5.2.1 (c:Int)).bind fun x_6=>
     (idx x_5.2.1 (c:Int)).bind fun x_7=>
     (idx s' (s.length:Int)).bind fun x_8=>
     (r (x_1,((z0l (p.2.1-1)),())) r_6.2.1.1 r_6.2.1.2.1 r_6.2.2.1 (zcx s' (s.length:Int) (x_8.1,((zcx x_5.2.1 (c:Int) (len s')),x_8.2.2)))).bind fun r_7=>
     w ((z0l ((c:Int)+1)),r_7.2.2.2.1,r_7.2.1.1,r_7.2.1.2.1,r_7.2.2.1))))
  (hE:∀ (w:Int×List z1c×z1i×List (List Int)×z7a->Option R),F w ((z2f (z05 m q):Int),zhq m.2.1 g n l q (z05 m q) p.1.toNat s (z2f (z05 m q)),m,g,M1 m g n K)=A) :
  iter F N (0,zhq m.2.1 g n l q (z05 m q) p.1.toNat s 0,m,g,M1 m g n K)=A:=by
 obtain ⟨e1,hv⟩:=hs.menu.at hq;have hn:=hs.menu.few;have hku:=hs.keys p hp;have hl8:=hku.left1;have hl0:=hku.left0;obtain ⟨k1,k2,k3,k4⟩:=z4q hku;have htl:=z57 hv;have hpl:(z51 (z05 m q) p.1.toNat).length=z2f (z05 m q):=z2v _ _;have hW:∀ y:Nat,WK m g n ((y:Int),p.2.1-1,())=VV m.2.1 g n l y:=by
  intro y;rw [ztf,hl,Nat.add_sub_cancel]
 refine z34 (fun x=>∃ c:Nat,x=((c:Int),zhq m.2.1 g n l q (z05 m q) p.1.toNat s c,m,g,M1 m g n K)∧c≤z2f (z05 m q)) (fun x=>z2f (z05 m q)-x.1.toNat) ?_ N _ ⟨0,rfl,Nat.zero_le _⟩ (by simp;omega);rintro x w ⟨c,rfl,hc⟩ hw;by_cases hct:c < z2f (z05 m q)
 ·have hcl:c < (z51 (z05 m q) p.1.toNat).length:=by rw [hpl];exact hct
  have hget:(z51 (z05 m q) p.1.toNat)[c]=((part (z05 m q) p.1.toNat c:Nat):Int):=z4l ..;rw [hF w c _ hct,z0s hcl,hget];simp only [Option.bind_some];rw [z07 (n:=(c:Int)+1) (by omega) (by omega)];have hnext:∀ s',s'=zhq m.2.1 g n l q (z05 m q) p.1.toNat s (c+1)->w ((c:Int)+1,s',m,g,M1 m g n K)=A:=by
   intro s' e;subst e;exact hw _ ⟨c+1,by simp,by omega⟩ (by simp;omega)
  by_cases h0:part (z05 m q) p.1.toNat c=0
  ·rw [h0];simp only [Int.ofNat_zero,decide_true,cond_true];exact hnext _ (znf _ _ _ _ _ _ _ _ hct (by simp [z85,h0]))
  ·have hne:¬ (((part (z05 m q) p.1.toNat c:Nat):Int)=0):=by omega
   rw [decide_eq_false hne,cond_false,z07 (n:=p.2.1-1) (by omega) (by omega)];have hkid:=zd8 hs.menu hq (p:=p) (by omega) hct h0;rw [zxn N hN hs (hs.closed p hp _ hkid)];simp only [Option.bind_some,back,Int.toNat_natCast,hW];by_cases hst:z1m g n (part (z05 m q) p.1.toNat c).testBit=VV m.2.1 g n l (part (z05 m q) p.1.toNat c)
   ·rw [decide_eq_true hst,cond_true];exact hnext _ (znf _ _ _ _ _ _ _ _ hct (by simp [z85,hst]))
   ·rw [decide_eq_false hst,cond_false];have hfl:=zlc m.2.1 g n l (z3j m.2.1 g n l) (z05 m q) p.1.toNat s.length c;generalize hacc:(List.range c).foldl (z2p m.2.1 g n l (z3j m.2.1 g n l) (z05 m q) p.1.toNat s.length) ([],[])=acc at hfl;have hmid:zhq m.2.1 g n l q (z05 m q) p.1.toNat s c=s++(((q:Nat):Int),(acc.1++List.replicate (z2f (z05 m q)-c) (-1),())) :: acc.2:=by simp only [zhq,hacc]
    have hnb:z85 m.2.1 g n l (part (z05 m q) p.1.toNat c)=false:=by simp [z85,h0,hst]
    have hmid1:zhq m.2.1 g n l q (z05 m q) p.1.toNat s (c+1)=s++(((q:Nat):Int),(acc.1++((s.length+1+acc.2.length:Nat):Int) :: List.replicate (z2f (z05 m q)-(c+1)) (-1),())) :: (acc.2++z3j m.2.1 g n l (part (z05 m q) p.1.toNat c) (s.length+1+acc.2.length)):=by
     simp only [zhq,List.range_succ,List.foldl_append,List.foldl_cons,List.foldl_nil,hacc,z2p,hnb,Bool.false_eq_true,if_false,List.append_assoc,List.singleton_append]
    have hle:(zhq m.2.1 g n l q (z05 m q) p.1.toNat s (c+1)).length≤100000:=by
     refine Nat.le_trans ?_ hlen;have hm1:=zgk m.2.1 g n l (z3j m.2.1 g n l) (z05 m q) p.1.toNat s.length (c+1) (z2f (z05 m q)-(c+1));rw [show c+1+(z2f (z05 m q)-(c+1))=z2f (z05 m q) by omega] at hm1;simp only [zhq,List.length_append,List.length_cons];omega
    rw [hmid1] at hle;simp only [List.length_append,List.length_cons] at hle;have hsl:s.length < (s++(((q:Nat):Int),(acc.1++List.replicate (z2f (z05 m q)-c) (-1),())) :: acc.2).length:=by simp
    have hsg:(s++(((q:Nat):Int),(acc.1++List.replicate (z2f (z05 m q)-c) (-1),())) :: acc.2)[s.length]'hsl=(((q:Nat):Int),(acc.1++List.replicate (z2f (z05 m q)-c) (-1),())):=by simp
    have hcn:c < (acc.1++List.replicate (z2f (z05 m q)-c) (-1)).length:=by rw [List.length_append,hfl,List.length_replicate];omega
    rw [hmid,z0h (z2m hsl),z0s hsl,hsg];simp only [Option.bind_some];rw [z0h (z2m hcn),z0s hcn];simp only [Option.bind_some];rw [z5i,z5i,zkg];have hset:(acc.1++List.replicate (z2f (z05 m q)-c) (-1)).set c (len (s++(((q:Nat):Int),(acc.1++List.replicate (z2f (z05 m q)-c) (-1),())) :: acc.2))=acc.1++((s.length+1+acc.2.length:Nat):Int) :: List.replicate (z2f (z05 m q)-(c+1)) (-1):=by
     rw [zmo c _ hct];have hll:len (s++(((q:Nat):Int),(acc.1 ++ -1 :: List.replicate (z2f (z05 m q)-(c+1)) (-1),())) :: acc.2)=((s.length+1+acc.2.length:Nat):Int):=by
      simp only [len,List.length_append,List.length_cons];omega
     rw [hll]
     conv=>lhs;rw [show c=acc.1.length from hfl.symm]
     rw [zkg];simp only [hfl]
    rw [hset];have hnl:(s++(((q:Nat):Int),(acc.1++((s.length+1+acc.2.length:Nat):Int) :: List.replicate (z2f (z05 m q)-(c+1)) (-1),())) :: acc.2).length=s.length+1+acc.2.length:=by
     simp only [List.length_append,List.length_cons];omega
    have hsp:=hr _ hkid (by rw [hW];simpa using hst) (s++(((q:Nat):Int),(acc.1++((s.length+1+acc.2.length:Nat):Int) :: List.replicate (z2f (z05 m q)-(c+1)) (-1),())) :: acc.2);have e2:(p.2.1-1).toNat=l:=by omega
    simp only [e2,Int.toNat_natCast,hnl] at hsp;rw [hsp (by omega)];simp only [Option.bind_some,zi5];exact hnext _ (by rw [hmid1];simp)
 ·have he:c=z2f (z05 m q):=by omega
  subst he;exact hE w
theorem zo1 (N:Nat) (hN:5000 < N) (hrep:RepOK N) {m:z1i} {g:List (List Int)} {n:Nat} {K:List Key} (hs:Slv m g n K):∀ (k:Nat) (p:Key),p∈K->p.2.1.toNat < k->¬ z1m g n p.1.toNat.testBit=WK m g n p->ztg m g n K (zjk N k) p
 | 0,_,_,h,_=>absurd h (by omega)
 | k+1,p,hp,hk,hne=>by
  intro s hlen;have hku:=hs.keys p hp;obtain ⟨k1,k2,k3,k4⟩:=z4q hku;have hn:=hs.menu.few;obtain ⟨l,hl⟩:∃ l,p.2.1.toNat=l+1:=by
   cases h:p.2.1.toNat with
   | zero=>exact absurd (by simp only [WK,h,VV]) hne
   | succ l=>exact ⟨l,rfl⟩
  have hl1:p.2.1.toNat-1=l:=by omega
  have hW:WK m g n p=VV m.2.1 g n (l+1) p.1.toNat:=by simp only [WK,hl]
  have hq:qOf m.2.1 g n l p.1.toNat < m.2.1.length:=by rw [hW] at hne;exact zrr hne
  obtain ⟨e1,hv⟩:=hs.menu.at hq;have hqv:m.2.1.getD (qOf m.2.1 g n l p.1.toNat) []=z05 m (qOf m.2.1 g n l p.1.toNat):=rfl;have htl:=z57 hv;have hpl:(z51 (z05 m (qOf m.2.1 g n l p.1.toNat)) p.1.toNat).length=z2f (z05 m (qOf m.2.1 g n l p.1.toNat)):=z2v _ _;show zo2 N (zjk N k) p m g (M1 m g n K) s=_;unfold zo2;have hv8:=hs.menu.views;have hstep:∀ (q:Nat),q < m.2.1.length->z0l ((q:Int)+1)=(q:Int)+1:=fun q hq=>z07 (by omega) (by omega)
  refine ztc N hN hs hp hl hne (A:=some (((),((),())),zi5 m g (M1 m g n K) (s++z3j m.2.1 g n p.2.1.toNat p.1.toNat s.length))) ?_ ?_
  ·intro w q hql he;simp only [z9i,z4m];rw [zlg N hN hs hp (by omega) hql];simp only [Option.bind_some,back];rw [zgq N hN hs hp];simp only [Option.bind_some,back,hl1];rw [hstep q hql,decide_eq_false he];rfl
  ·intro w q he0 hql he;simp only [z9i,z4m];rw [zlg N hN hs hp (by omega) hql];simp only [Option.bind_some,back];rw [zgq N hN hs hp];simp only [Option.bind_some,back,hl1];rw [decide_eq_true he];simp only [Bool.not_true,cond_false];obtain ⟨e1,hv⟩:=hs.menu.at hql;have htl:=z57 hv;have hpl:(z51 (z05 m q) p.1.toNat).length=z2f (z05 m q):=z2v _ _;have h76:f76 N (z05 m q) p.1=some (z51 (z05 m q) p.1.toNat):=by
    conv=>lhs;rw [k1]
    exact znx N (by omega) hv hs.menu.pos hn (zsc hn k2)
   rw [z0s hql,e1];simp only [Option.bind_some];rw [h76];simp only [Option.bind_some];have hlen1:len (z51 (z05 m q) p.1.toNat)=((z2f (z05 m q):Nat):Int):=by simp only [len,hpl]
   rw [hlen1,hrep _ (by omega)];simp only [Option.bind_some];have hfull:zhq m.2.1 g n l q (z05 m q) p.1.toNat s (z2f (z05 m q))=s++z3j m.2.1 g n p.2.1.toNat p.1.toNat s.length:=by
    rw [hl,he0];exact zng m.2.1 g n l p.1.toNat s
   rw [z4v (by omega)];have h0:s++[((q:Int),List.replicate (z2f (z05 m q)) (-1),())]=zhq m.2.1 g n l q (z05 m q) p.1.toNat s 0:=by simp [zhq]
   rw [h0];refine zmt N hN hs hp hl hql s (zjk N k) (fun x hx hx2=>zo1 N hN hrep hs k x (hs.closed p hp x hx) (by
    have:=(z8g hs.menu hku hx).2;omega) hx2) (by rw [hfull,List.length_append];exact hlen) ?_ ?_
   ·intro w2 c s' hc;have hcl:c < (z51 (z05 m q) p.1.toNat).length:=by rw [hpl];exact hc
    simp only [z9h];rw [dlt hc,cond_true,z0h (z2m hcl)]
   ·intro w2;simp only [z9h];rw [dnlt,cond_false,hfull];rfl
 termination_by k=>k
theorem f55_ok (N:Nat) (hN:5000 < N) (hrep:RepOK N) {m:z1i} {g:List (List Int)} {n:Nat} {K:List Key} (hs:Slv m g n K) {p:Key} (hp:p∈K) (hne:¬ z1m g n p.1.toNat.testBit=WK m g n p) (hlen:(z3j m.2.1 g n p.2.1.toNat p.1.toNat 0).length≤100000) :
  f55 N p m g (M1 m g n K)=some (((),((),())),zi5 m g (M1 m g n K) (z3j m.2.1 g n p.2.1.toNat p.1.toNat 0)):=by
 have hku:=hs.keys p hp;obtain ⟨k1,k2,k3,k4⟩:=z4q hku;have hn:=hs.menu.few;obtain ⟨l,hl⟩:∃ l,p.2.1.toNat=l+1:=by
  cases h:p.2.1.toNat with
  | zero=>exact absurd (by simp only [WK,h,VV]) hne
  | succ l=>exact ⟨l,rfl⟩
 have hl1:p.2.1.toNat-1=l:=by omega
 have hv8:=hs.menu.views;have hl8:=hku.left1;have hstep:∀ (q:Nat),q < m.2.1.length->z0l ((q:Int)+1)=(q:Int)+1:=fun q hq=>z07 (by omega) (by omega)
 unfold f55;refine ztc N hN hs hp hl hne (A:=some (((),((),())),zi5 m g (M1 m g n K) (z3j m.2.1 g n p.2.1.toNat p.1.toNat 0))) ?_ ?_
 ·intro w q hql he;simp only [zo4,z4m];rw [zlg N hN hs hp (by omega) hql];simp only [Option.bind_some,back];rw [zgq N hN hs hp];simp only [Option.bind_some,back,hl1];rw [hstep q hql,decide_eq_false he];rfl
 ·intro w q he0 hql he;simp only [zo4,z4m];rw [zlg N hN hs hp (by omega) hql];simp only [Option.bind_some,back];rw [zgq N hN hs hp];simp only [Option.bind_some,back,hl1];rw [decide_eq_true he];simp only [Bool.not_true,cond_false];obtain ⟨e1,hv⟩:=hs.menu.at hql;have htl:=z57 hv;have hpl:(z51 (z05 m q) p.1.toNat).length=z2f (z05 m q):=z2v _ _;have h76:f76 N (z05 m q) p.1=some (z51 (z05 m q) p.1.toNat):=by
   conv=>lhs;rw [k1]
   exact znx N (by omega) hv hs.menu.pos hn (zsc hn k2)
  rw [z0s hql,e1];simp only [Option.bind_some];rw [h76];simp only [Option.bind_some];have hlen1:len (z51 (z05 m q) p.1.toNat)=((z2f (z05 m q):Nat):Int):=by simp only [len,hpl]
  rw [hlen1,hrep _ (by omega)];simp only [Option.bind_some];have hfull:zhq m.2.1 g n l q (z05 m q) p.1.toNat [] (z2f (z05 m q))=z3j m.2.1 g n p.2.1.toNat p.1.toNat 0:=by
   rw [hl,he0];exact (zng m.2.1 g n l p.1.toNat []).trans (List.nil_append _)
  have h0:[((q:Int),List.replicate (z2f (z05 m q)) (-1),())]=zhq m.2.1 g n l q (z05 m q) p.1.toNat [] 0:=by simp [zhq]
  rw [h0];refine zmt N hN hs hp hl hql [] (f55v1 N) (fun x hx hx2=>zo1 N hN hrep hs N x (hs.closed p hp x hx) (by
   have:=(z8g hs.menu hku hx).2;omega) hx2) (by rw [hfull];exact hlen) ?_ ?_
  ·intro w2 c s' hc;have hcl:c < (z51 (z05 m q) p.1.toNat).length:=by rw [hpl];exact hc
   simp only [zo3];rw [dlt hc,cond_true,z0h (z2m hcl)];rfl
  ·intro w2;simp only [zo3];rw [dnlt,cond_false,hfull];rfl
end Go.Kz
