/-
  The layer adaptive: the model's solver; plain laws.
-/
import Derived.Test.YtnjfafnflbackaaKzFM
set_option linter.unusedVariables false
set_option linter.unusedSimpArgs false
namespace Go.Kz
def accL (l:List Int):Int:=l.foldl (· + ·) 0
theorem zhn (l:List Int) (x:Int):accL (l++[x])=accL l+x:=by simp [accL,List.foldl_append]
theorem zk5 (v:List Int) (S:Nat) (h:Nat->Int):(k:Nat)->accL ((((List.range k).map (part v S)).filter fun y=>decide (y≠0)).map h)=z1r k fun c=>if part v S c=0 then 0 else h (part v S c)
 | 0=>rfl
 | k+1=>by
  rw [List.range_succ,List.map_append,List.filter_append,List.map_append];simp only [z1r];rw [←zk5 v S h k];by_cases h0:part v S k=0
  ·simp [h0]
  ·simp [h0,zhn]
def z54 (m:z1i) (g:List (List Int)) (n:Nat) (M:z7a):Prop:=∀ p v,lk M p=some v->v=WK m g n p
theorem z54.put {m:z1i} {g:List (List Int)} {n:Nat} {M:z7a} (h:z54 m g n M) (p:Key):z54 m g n (pt M p (WK m g n p)):=by
 intro q v hq;rw [lk_pt] at hq;split at hq
 ·rename_i e;subst e;simp only [zI] at hq;exact hq.symm
 ·exact h q v hq
abbrev ValFn2:=Int->Int->z1i->List (List Int)->z7a->Option ((Unit×(Int×Unit))×((z1i×(List (List Int)×(Unit×Unit)))×(z7a×Unit)))
def PostM (m:z1i) (g:List (List Int)) (n:Nat) (x:Int) (y:(Unit×(Int×Unit))×((z1i×(List (List Int)×(Unit×Unit)))×(z7a×Unit))):Prop:=
 ∃ M',y=(((),(x,())),back m g M')∧z54 m g n M'
def zlv (m:z1i) (g:List (List Int)) (n:Nat) (r:ValFn2) (p:Key):Prop:=∀ M,z54 m g n M->Yld (r p.1 p.2.1 m g M) (PostM m g n (WK m g n p))
theorem f85_ok (N:Nat) (hN:5000 < N) {m:z1i} {g:List (List Int)} {n:Nat} (hm:MenuP m n) (hg:GainP g n) {r:ValFn2} {p:Key} (hku:KeyU n 8 p) (hl:0 < p.2.1) {q:Nat} (hq:q < m.2.1.length)
  (hr:∀ x∈zly m.2.1 p,zlv m g n r x) (M:z7a) (hM:z54 m g n M) :
  Yld (f85 N r p.1 p.2.1 (q:Int) m g M) (PostM m g n (zct (z05 m q) p.1.toNat (VV m.2.1 g n (p.2.1.toNat-1)))):=by
 obtain ⟨e1,hv⟩:=hm.at hq;have hn:=hm.few;obtain ⟨k1,k2,k3,k4⟩:=z4q hku;have htl:=z57 hv;have hl8:=hku.left1;have hpl:(z26 (z05 m q) p.1.toNat).length≤n:=by
  have:=List.length_filter_le (fun y=>decide (y≠0)) ((List.range (z2f (z05 m q))).map (part (z05 m q) p.1.toNat));simp only [z26];simp only [List.length_map,List.length_range] at this;omega
 have h41:f41 N m p.1 (q:Int)=some (zpq (z26 (z05 m q) p.1.toNat)):=by
  conv=>lhs;rw [k1]
  exact f41_eq N (by omega) hm hq (zsc hn k2)
 have hvb:∀ y,0≤VV m.2.1 g n (p.2.1.toNat-1) y∧VV m.2.1 g n (p.2.1.toNat-1) y≤3936256:=fun y=>⟨z9r _ _ _ _ _,zf4 hm.view hg.row hn _ _⟩
 have hab:∀ (l:List Nat),0≤accL (l.map (VV m.2.1 g n (p.2.1.toNat-1)))∧accL (l.map (VV m.2.1 g n (p.2.1.toNat-1)))≤l.length*3936256:=by
  intro l
  induction l using zfk with
  | h0=>exact ⟨Int.le_refl _,by simp [accL]⟩
  | h1 l x ih=>
   rw [List.map_append,List.map_cons,List.map_nil,zhn,List.length_append,List.length_singleton];have:=hvb x;push_cast;rw [Int.add_mul];omega
 unfold f85;rw [h41];simp only [Option.bind_some];have hil:len (zpq (z26 (z05 m q) p.1.toNat))=((z26 (z05 m q) p.1.toNat).length:Int):=by simp only [len,zc9]
 refine Yld.up (fun k s=>s.1=accL (((z26 (z05 m q) p.1.toNat).take k).map (VV m.2.1 g n (p.2.1.toNat-1)))∧s.2.1=m∧s.2.2.1=g∧z54 m g n s.2.2.2)
  (z26 (z05 m q) p.1.toNat).length ?_ ?_ N 0 (by omega) (by omega) _ ⟨rfl,rfl,rfl,hM⟩
 ·rintro k ⟨t,a,b,M'⟩ w hk ⟨h1,h2,h3,h4⟩ hw;simp only at h1 h2 h3 h4;subst h1;subst h2;subst h3;have hki:k < (zpq (z26 (z05 a q) p.1.toNat)).length:=by rw [zc9];exact hk
  have hge:(zpq (z26 (z05 a q) p.1.toNat))[k]=(((z26 (z05 a q) p.1.toNat)[k]:Nat):Int):=by simp [zpq]
  obtain ⟨hne,c,hc,hce⟩:=zj4 (List.getElem_mem hk);have hkid:=zd8 hm hq (p:=p) (by omega) hc (by rw [hce];exact hne);rw [hce] at hkid;simp only [znu];rw [hil,dlt hk,cond_true,z0h (z2m hki),z0s hki,hge];simp only [Option.bind_some];rw [z07 (n:=p.2.1-1) (by omega) (by omega)];refine Yld.then (hr _ hkid M' h4) ?_;rintro y ⟨M2,hy,h5⟩;subst hy;have ha:=hab ((z26 (z05 a q) p.1.toNat).take k);have hb:=hvb (z26 (z05 a q) p.1.toNat)[k];have htk:((z26 (z05 a q) p.1.toNat).take k).length≤k:=by simp;omega
  have hkn:((((z26 (z05 a q) p.1.toNat).take k).length:Nat):Int)*3936256≤62*3936256:=Int.mul_le_mul (by omega) (by omega) (by omega) (by omega);simp only [back];have hwk:=ztf a b n ((z26 (z05 a q) p.1.toNat)[k]) p.2.1;rw [hwk];rw [z07 (n:=(k:Int)+1) (by omega) (by omega),z07 (by omega) (by omega)];refine hw _ ⟨?_,rfl,rfl,h5⟩;rw [z1h hk,List.map_append,List.map_cons,List.map_nil,zhn]
 ·rintro ⟨t,a,b,M'⟩ w ⟨h1,h2,h3,h4⟩;simp only at h1 h2 h3 h4;subst h1;subst h2;subst h3;simp only [znu];rw [hil,dnlt,cond_false,List.take_length,z26,zk5];exact Yld.ret ⟨M',rfl,h4⟩
theorem zxm (N:Nat) (hN:5000 < N) {m:z1i} {g:List (List Int)} {n:Nat} (hm:MenuP m n) (hg:GainP g n):∀ (k:Nat) (p:Key),KeyU n 8 p->p.2.1.toNat < k->zlv m g n (f58R N k) p
 | 0,_,_,h=>absurd h (by omega)
 | k+1,p,hku,hk=>by
  intro M hM;obtain ⟨k1,k2,k3,k4⟩:=z4q hku;have hn:=hm.few;have hv8:=hm.views;have hl0:=hku.left0;show Yld (f58B N (f58R N k) p.1 p.2.1 m g M) _;unfold f58B;have hpe:((p.1,(p.2.1,())):Key)=p:=zqm rfl rfl;simp only [z99 eqK,zfy eqK,hpe]
  cases hlk:lk M p with
  | some v=>
   have:=hM p v hlk;subst this;simp only [Option.isSome_some,cond_true,Option.getD_some]
   exact Yld.ret ⟨M,rfl,hM⟩
  | none=>
   simp only [Option.isSome_none,cond_false];have h40:f40 N m g p.1=some (z1m g n p.1.toNat.testBit):=by
    conv=>lhs;rw [k1]
    exact zxs N (by omega) hm hg (zsc hn k2)
   rw [h40];simp only [Option.bind_some];refine Yld.up (fun q s=>s.1=(if 0 < p.2.1 then (m.2.1.take q).foldl (fun b v=>max b (zct v p.1.toNat (VV m.2.1 g n (p.2.1.toNat-1)))) (z1m g n p.1.toNat.testBit) else z1m g n p.1.toNat.testBit)∧s.2.1=m∧s.2.2.1=g∧z54 m g n s.2.2.2)
    m.2.1.length ?_ ?_ N 0 (by omega) (by omega) _ ⟨by split <;> rfl,rfl,rfl,hM⟩
   ·rintro q ⟨t,a,b,M'⟩ w hq ⟨h1,h2,h3,h4⟩ hw;simp only at h1 h2 h3 h4;subst h1;subst h2;subst h3;simp only [zgp];rw [z17 hq,cond_true,z07 (n:=(q:Int)+1) (by omega) (by omega)];by_cases hl:0 < p.2.1
    ·rw [decide_eq_true hl,cond_true];refine Yld.then (f85_ok N hN hm hg hku hl hq (fun x hx=>by
      have:=z8g hm hku hx;exact zxm N hN hm hg k x this.1 (by rw [this.2];omega)) M' h4) ?_
     rintro y ⟨M2,hy,h5⟩;subst hy;simp only [back,if_pos hl];rw [zd6];exact hw _ ⟨by rw [if_pos hl,z1h hq,zjd,(hm.at hq).1],rfl,rfl,h5⟩
    ·rw [decide_eq_false hl,cond_false];exact hw _ ⟨by rw [if_neg hl,if_neg hl],rfl,rfl,h4⟩
   ·rintro ⟨t,a,b,M'⟩ w ⟨h1,h2,h3,h4⟩;simp only at h1 h2 h3 h4;subst h1;subst h2;subst h3;simp only [zgp];rw [z0v,cond_false,List.take_length];have hW:(if 0 < p.2.1 then a.2.1.foldl (fun b' v=>max b' (zct v p.1.toNat (VV a.2.1 b n (p.2.1.toNat-1)))) (z1m b n p.1.toNat.testBit) else z1m b n p.1.toNat.testBit)=WK a b n p:=by
     by_cases hl:0 < p.2.1
     ·obtain ⟨l,hl'⟩:∃ l,p.2.1.toNat=l+1:=⟨p.2.1.toNat-1,by omega⟩;simp only [if_pos hl,WK,hl',VV,Nat.add_sub_cancel]
     ·have h0:p.2.1=0:=by omega
      rw [if_neg hl];simp only [WK,h0,Int.toNat_zero,VV]
    rw [hW];exact Yld.ret ⟨_,rfl,h4.put p⟩
 termination_by k=>k
theorem zo0 (N:Nat) (hN:5000 < N) {m:z1i} {g:List (List Int)} {n:Nat} (hm:MenuP m n) (hg:GainP g n) {p:Key} (hku:KeyU n 8 p):zlv m g n (f58 N) p:=
 zxm N hN hm hg N p hku (by have:=hku.left1;omega)
end Go.Kz
