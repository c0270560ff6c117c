/-
  The layer adaptive: the model's strategy; plain laws.
-/
import Derived.Test.YtnjfafnflbackaaKzFT
set_option linter.unusedVariables false
set_option linter.unusedSimpArgs false
namespace Go.Kz
abbrev zyi:=Int->Int->z1i->List (List Int)->z7a->List z1c->Option ((Unit×(Unit×Unit))×((z1i×(List (List Int)×(Unit×Unit)))×(z7a×(List z1c×Unit))))
def PostP (m:z1i) (g:List (List Int)) (n:Nat) (s:List z1c) (y:(Unit×(Unit×Unit))×((z1i×(List (List Int)×(Unit×Unit)))×(z7a×(List z1c×Unit)))):Prop:=
 ∃ M',y=(((),((),())),zi5 m g M' s)∧z54 m g n M'
def zpk (m:z1i) (g:List (List Int)) (n:Nat) (r:zyi) (p:Key):Prop:=
 ∀ M,z54 m g n M->∀ s:List z1c,s.length+(z3j m.2.1 g n p.2.1.toNat p.1.toNat s.length).length≤100000->Yld (r p.1 p.2.1 m g M s) (PostP m g n (s++z3j m.2.1 g n p.2.1.toNat p.1.toNat s.length))
def zai (vs g:List (List Int)) (n l q:Nat) (v:List Int) (S:Nat) (s:List z1c) (k:Nat):List z1c:=
 s++(((q:Nat):Int),((fo vs g n l v S s.length k).1,())) :: (fo vs g n l v S s.length k).2
theorem zwk (vs g:List (List Int)) (n l S:Nat) (s:List z1c):zai vs g n l (qOf vs g n l S) (vs.getD (qOf vs g n l S) []) S s (z2f (vs.getD (qOf vs g n l S) []))=s++z3j vs g n (l+1) S s.length:=by
 rw [zko];rfl
theorem zfz (vs g:List (List Int)) (n l q:Nat) (v:List Int) (S:Nat) (s:List z1c) (k:Nat):zai vs g n l q v S s (k+1)=s++(((q:Nat):Int),((fo vs g n l v S s.length k).1++[fx vs g n l v S s.length k],())) :: ((fo vs g n l v S s.length k).2++fe vs g n l v S s.length k):=by
 simp only [zai,zqs]
theorem zwj (vs g:List (List Int)) (n l q:Nat) (v:List Int) (S:Nat) (s:List z1c) (j k:Nat):(zai vs g n l q v S s j).length≤(zai vs g n l q v S s (j+k)).length:=by
 have:=zgk vs g n l (z3j vs g n l) v S s.length j k;simp only [zai,fo,List.length_append,List.length_cons];omega
theorem zmx (t:Int):z5w [.idx t,.snd,.fst] [.idx t,.snd,.fst]=true:=by simp [z5w]
theorem zu2 {R:Type} (N:Nat) (hN:5000 < N) {m:z1i} {g:List (List Int)} {n:Nat} (hm:MenuP m n) (hg:GainP g n) {p:Key} (hku:KeyU n 8 p) {l:Nat} (hl:p.2.1.toNat=l+1) {q:Nat} (hq:q < m.2.1.length) (s:List z1c)
  (r:zyi) (hr:∀ x∈zly m.2.1 p,¬ z1m g n x.1.toNat.testBit=WK m g n x->zpk m g n r x)
  (hlen:(zai m.2.1 g n l q (z05 m q) p.1.toNat s (z2f (z05 m q))).length≤100000) (M:z7a) (hM:z54 m g n M) {Q:R->Prop}
  {kx2:z1i->(List (List Int))->z7a->(List z1c)->Option R} (hE:∀ M',z54 m g n M'->Yld (kx2 m g M' (zai m.2.1 g n l q (z05 m q) p.1.toNat s (z2f (z05 m q)))) Q) :
  Yld (iter (fun w=>zgo N r (s.length:Int) p.2.1 (q:Int) p.1 ((z2f (z05 m q):Nat):Int) w kx2) N (0,zai m.2.1 g n l q (z05 m q) p.1.toNat s 0,m,g,M)) Q:=by
 obtain ⟨e1,hv⟩:=hm.at hq;have hn:=hm.few;have hl8:=hku.left1;have hl0:=hku.left0;obtain ⟨k1,k2,k3,k4⟩:=z4q hku;have htl:=z57 hv;have hW:∀ y:Nat,WK m g n ((y:Int),p.2.1-1,())=VV m.2.1 g n l y:=by
  intro y;rw [ztf,hl,Nat.add_sub_cancel]
 refine Yld.iter (fun x=>∃ (c:Nat) (M':z7a),x=((c:Int),zai m.2.1 g n l q (z05 m q) p.1.toNat s c,m,g,M')∧c≤z2f (z05 m q)∧z54 m g n M') (fun x=>z2f (z05 m q)-x.1.toNat) ?_ N _ ⟨0,M,rfl,Nat.zero_le _,hM⟩ (by simp;omega);rintro x w ⟨c,M',rfl,hc,hM'⟩ hw;simp only [zgo];by_cases hct:c < z2f (z05 m q)
 ·have hle1:=zwj m.2.1 g n l q (z05 m q) p.1.toNat s (c+1) (z2f (z05 m q)-(c+1));rw [show c+1+(z2f (z05 m q)-(c+1))=z2f (z05 m q) by omega,zfz] at hle1;simp only [List.length_append,List.length_cons] at hle1;have hfl:=zje m.2.1 g n l (z05 m q) p.1.toNat s.length c;have hnext:∀ s' M2,s'=zai m.2.1 g n l q (z05 m q) p.1.toNat s (c+1)->z54 m g n M2->Yld (w ((c:Int)+1,s',m,g,M2)) Q:=by
   intro s' M2 e hM2;subst e;exact hw _ ⟨c+1,M2,by simp,by omega,hM2⟩ (by simp;omega)
  have h77:f77 N m p.1 (q:Int) (c:Int)=some ((part (z05 m q) p.1.toNat c:Nat):Int):=by
   conv=>lhs;rw [k1]
   exact f77_eq N (by omega) hm hq (zsc hn k2)
  have hsl:s.length < (zai m.2.1 g n l q (z05 m q) p.1.toNat s c).length:=by simp [zai]
  have hsg:(zai m.2.1 g n l q (z05 m q) p.1.toNat s c)[s.length]'hsl=(((q:Nat):Int),((fo m.2.1 g n l (z05 m q) p.1.toNat s.length c).1,())):=by simp [zai]
  have hset:∀ y,(zai m.2.1 g n l q (z05 m q) p.1.toNat s c).set s.length y=s++y :: (fo m.2.1 g n l (z05 m q) p.1.toNat s.length c).2:=fun y=>zkg _ _ _ _
  rw [dlt hct,cond_true,h77];simp only [Option.bind_some];rw [z07 (n:=(c:Int)+1) (by omega) (by omega)];have hstop:∀ M2,z54 m g n M2->z85 m.2.1 g n l (part (z05 m q) p.1.toNat c)=true->Yld (chk (inb (zai m.2.1 g n l q (z05 m q) p.1.toNat s c) (s.length:Int)) <|
    (idx (zai m.2.1 g n l q (z05 m q) p.1.toNat s c) (s.length:Int)).bind fun x_9=>
    (idx (zai m.2.1 g n l q (z05 m q) p.1.toNat s c) (s.length:Int)).bind fun x_10=>
    (idx (zai m.2.1 g n l q (z05 m q) p.1.toNat s c) (s.length:Int)).bind fun x_11=>
    chk (decide ((Nat.succ (List.length x_11.2.1))≤z3e)) <|
    chk (inb (zai m.2.1 g n l q (z05 m q) p.1.toNat s c) (s.length:Int)) <|
    chk (z5w [.idx (s.length:Int),.snd,.fst] [.idx (s.length:Int),.snd,.fst]) <|
    (idx (zai m.2.1 g n l q (z05 m q) p.1.toNat s c) (s.length:Int)).bind fun x_12=>
    w ((c:Int)+1,(zcx (zai m.2.1 g n l q (z05 m q) p.1.toNat s c) (s.length:Int) (x_12.1,((x_11.2.1++((-1) :: ([]:List Int))),x_12.2.2))),m,g,M2)) Q:=by
   intro M2 hM2 hsb;rw [z0h (z2m hsl),z0s hsl,hsg];simp only [Option.bind_some];rw [z4v (by omega),z0h (z2m hsl),z0h (zmx _),z5i,hset];refine hnext _ M2 ?_ hM2;rw [zfz];simp [fx,fe,hsb]
  by_cases h0:part (z05 m q) p.1.toNat c=0
  ·have e0:decide (((part (z05 m q) p.1.toNat c:Nat):Int)=0)=true:=by simp [h0]
   rw [e0];simp only [Bool.not_true,cond_false];exact hstop M' hM' (by simp [z85,h0])
  ·have e0:decide (((part (z05 m q) p.1.toNat c:Nat):Int)=0)=false:=by simp [h0]
   rw [e0];simp only [Bool.not_false,cond_true];have hkid:=zd8 hm hq (p:=p) (by omega) hct h0;have hko:=z8g hm hku hkid;rw [z07 (n:=p.2.1-1) (by omega) (by omega),zxs N (by omega) hm hg (zsc hn (zkq hv _ _))];simp only [Option.bind_some];refine Yld.then (zo0 N hN hm hg hko.1 M' hM') ?_;rintro y ⟨M2,hy,hM2⟩;subst hy;simp only [back,hW];by_cases hst:z1m g n (part (z05 m q) p.1.toNat c).testBit=VV m.2.1 g n l (part (z05 m q) p.1.toNat c)
   ·rw [decide_eq_true hst];simp only [Bool.not_true,cond_false];exact hstop M2 hM2 (by simp [z85,hst])
   ·rw [decide_eq_false hst];simp only [Bool.not_false,cond_true];have hnb:z85 m.2.1 g n l (part (z05 m q) p.1.toNat c)=false:=by simp [z85,h0,hst]
    have hfe:fe m.2.1 g n l (z05 m q) p.1.toNat s.length c=z3j m.2.1 g n l (part (z05 m q) p.1.toNat c) (s.length+1+(fo m.2.1 g n l (z05 m q) p.1.toNat s.length c).2.length):=by simp [fe,hnb]
    have hml:(zai m.2.1 g n l q (z05 m q) p.1.toNat s c).length=s.length+1+(fo m.2.1 g n l (z05 m q) p.1.toNat s.length c).2.length:=by
     simp only [zai,List.length_append,List.length_cons];omega
    have hsp:=hr _ hkid (by rw [hW];simpa using hst) M2 hM2 (zai m.2.1 g n l q (z05 m q) p.1.toNat s c);have e2:(p.2.1-1).toNat=l:=by omega
    simp only [e2,Int.toNat_natCast,hml,←hfe] at hsp;refine Yld.then (hsp (by omega)) ?_;rintro y ⟨M3,hy,hM3⟩;subst hy;simp only [zi5];have happ:zai m.2.1 g n l q (z05 m q) p.1.toNat s c++fe m.2.1 g n l (z05 m q) p.1.toNat s.length c=s++(((q:Nat):Int),((fo m.2.1 g n l (z05 m q) p.1.toNat s.length c).1,())) :: ((fo m.2.1 g n l (z05 m q) p.1.toNat s.length c).2++fe m.2.1 g n l (z05 m q) p.1.toNat s.length c):=by simp [zai]
    have hlen2:len (zai m.2.1 g n l q (z05 m q) p.1.toNat s c)=((s.length+1+(fo m.2.1 g n l (z05 m q) p.1.toNat s.length c).2.length:Nat):Int):=by simp only [len,hml]
    have hsl2:s.length < (s++(((q:Nat):Int),((fo m.2.1 g n l (z05 m q) p.1.toNat s.length c).1,())) :: ((fo m.2.1 g n l (z05 m q) p.1.toNat s.length c).2++fe m.2.1 g n l (z05 m q) p.1.toNat s.length c)).length:=by simp
    have hsg2:(s++(((q:Nat):Int),((fo m.2.1 g n l (z05 m q) p.1.toNat s.length c).1,())) :: ((fo m.2.1 g n l (z05 m q) p.1.toNat s.length c).2++fe m.2.1 g n l (z05 m q) p.1.toNat s.length c))[s.length]'hsl2=(((q:Nat):Int),((fo m.2.1 g n l (z05 m q) p.1.toNat s.length c).1,())):=by simp
    rw [happ,z0h (z2m hsl2),z0s hsl2,hsg2];simp only [Option.bind_some];rw [z4v (by omega),z0h (z2m hsl2),z0h (zmx _),z5i,zkg,hlen2];refine hnext _ M3 ?_ hM3;rw [zfz];have hfx:fx m.2.1 g n l (z05 m q) p.1.toNat s.length c=((s.length+1+(fo m.2.1 g n l (z05 m q) p.1.toNat s.length c).2.length:Nat):Int):=by simp [fx,hnb]
    rw [hfx]
 ·have he:c=z2f (z05 m q):=by omega
  subst he;rw [dnlt,cond_false];exact hE M' hM'
theorem zxl (N:Nat) (hN:5000 < N) {m:z1i} {g:List (List Int)} {n:Nat} (hm:MenuP m n) (hg:GainP g n):∀ (k:Nat) (p:Key),KeyU n 8 p->p.2.1.toNat < k->¬ z1m g n p.1.toNat.testBit=WK m g n p->zpk m g n (f59R N k) p
 | 0,_,_,h,_=>absurd h (by omega)
 | k+1,p,hku,hk,hne=>by
  intro M hM s hlen;obtain ⟨k1,k2,k3,k4⟩:=z4q hku;have hn:=hm.few;have hl8:=hku.left1;have hv8:=hm.views;obtain ⟨l,hl⟩:∃ l,p.2.1.toNat=l+1:=by
   cases h:p.2.1.toNat with
   | zero=>exact absurd (by simp only [WK,h,VV]) hne
   | succ l=>exact ⟨l,rfl⟩
  have hl1:p.2.1.toNat-1=l:=by omega
  have hW:WK m g n p=VV m.2.1 g n (l+1) p.1.toNat:=by simp only [WK,hl]
  have hq0:qOf m.2.1 g n l p.1.toNat < m.2.1.length:=by rw [hW] at hne;exact zrr hne
  show Yld (f59B N (f59R N k) p.1 p.2.1 m g M s) _;unfold f59B;refine Yld.iter (fun x=>∃ (q:Nat) (M':z7a),x=((q:Int),m,g,M')∧q≤qOf m.2.1 g n l p.1.toNat∧z54 m g n M') (fun x=>m.2.1.length-x.1.toNat) ?_ N _ ⟨0,M,rfl,Nat.zero_le _,hM⟩ (by simp;omega);rintro x w ⟨q,M',rfl,hq,hM'⟩ hw;have hql:q < m.2.1.length:=by omega
  obtain ⟨e1,hv⟩:=hm.at hql;have htl:=z57 hv;have htn:((z2f (z05 m q):Nat):Int)=top 0 (z05 m q):=by have:=(z2u hv.ok).1;simp only [z2f];omega
  have hvl:=hv.len;simp only [zlh];refine Yld.then (f85_ok N hN hm hg hku (by omega) hql (fun x hx=>zo0 N hN hm hg (z8g hm hku hx).1) M' hM') ?_;rintro y ⟨M2,hy,hM2⟩;subst hy;simp only [back];refine Yld.then (zo0 N hN hm hg hku M2 hM2) ?_;rintro y ⟨M3,hy,hM3⟩;subst hy;simp only [back,hl1];rw [z07 (n:=(q:Int)+1) (by omega) (by omega)];by_cases he:q=qOf m.2.1 g n l p.1.toNat
  ·have hsum:zct (z05 m q) p.1.toNat (VV m.2.1 g n l)=WK m g n p:=by
    rw [hW,he];exact zvt hq0
   rw [decide_eq_true hsum];simp only [Bool.not_true,cond_false];rw [z4v (by omega),z0s hql,e1];simp only [Option.bind_some];rw [f44_eq N _ (by omega) (by omega) hv.ok,←htn];simp only [Option.bind_some];have hfull:zai m.2.1 g n l q (z05 m q) p.1.toNat s (z2f (z05 m q))=s++z3j m.2.1 g n p.2.1.toNat p.1.toNat s.length:=by
    rw [hl,he];exact zwk m.2.1 g n l p.1.toNat s
   have h0:s++[((q:Int),([],()))]=zai m.2.1 g n l q (z05 m q) p.1.toNat s 0:=by simp [zai,fo]
   rw [h0];refine zu2 N hN hm hg hku hl hql s (f59R N k) (fun x hx hx2=>by
    have:=z8g hm hku hx;exact zxl N hN hm hg k x this.1 (by rw [this.2];omega) hx2) (by rw [hfull,List.length_append];exact hlen) M3 hM3 (fun M4 hM4=>?_)
   rw [hfull];exact Yld.ret ⟨M4,rfl,hM4⟩
  ·have hns:=zvu (vs:=m.2.1) (g:=g) (n:=n) (l:=l) (S:=p.1.toNat) (q:=q) (by omega) hql;rw [e1,←hW] at hns;rw [decide_eq_false hns];simp only [Bool.not_false,cond_true];exact hw _ ⟨q+1,M3,by simp,by omega,hM3⟩ (by simp;omega)
 termination_by k=>k
end Go.Kz
