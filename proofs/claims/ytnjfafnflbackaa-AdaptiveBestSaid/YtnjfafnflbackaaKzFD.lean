/-
  The layer adaptive: what the solver reaches; plain laws.
-/
import Derived.Test.YtnjfafnflbackaaKzFC
set_option linter.unusedVariables false
set_option linter.unusedSimpArgs false
namespace Go.Kz
def M0 (m:z1i) (g:List (List Int)) (n:Nat) (K:List Key):z7a:=mkM (WK m g n) K fun _=>false
theorem M0_new (m:z1i) (g:List (List Int)) (n:Nat) {K:List Key} {p:Key} (h:p∉K):pt (M0 m g n K) p (-1)=M0 m g n (K++[p]):=by
 unfold M0;rw [zvv (zg5 h),mkM_new];rfl
structure RInv (m:z1i) (n:Nat) (K:List Key) (p:Key) (K':List Key):Prop where
 pre:∀ x∈K,x∈K'
 nd:K'.Nodup
 keys:∀ x∈K',KeyU n 8 x
 new:∀ x∈K',x∉K->x=p∨((∀ y∈zly m.2.1 x,y∈K')∧Rch m.2.1 p x)
 pin:p∈K'
structure RPost (m:z1i) (n:Nat) (K:List Key) (p:Key) (K':List Key):Prop where
 pre:∀ x∈K,x∈K'
 nd:K'.Nodup
 keys:∀ x∈K',KeyU n 8 x
 new:∀ x∈K',x∉K->(∀ y∈zly m.2.1 x,y∈K')∧Rch m.2.1 p x
 pin:p∈K'
theorem RInv.call {m:z1i} {n:Nat} {K K1 K2:List Key} {p q:Key} (h:RInv m n K p K1) (hq:q∈zly m.2.1 p) (h2:RPost m n K1 q K2):RInv m n K p K2:=by
 refine ⟨fun x hx=>h2.pre x (h.pre x hx),h2.nd,h2.keys,fun x hx hn=>?_,h2.pre _ h.pin⟩;by_cases h1:x∈K1
 ·rcases h.new x h1 hn with e | ⟨a,b⟩
  ·exact .inl e
  ·exact .inr ⟨fun y hy=>h2.pre _ (a y hy),b⟩
 ·obtain ⟨a,b⟩:=h2.new x hx h1;exact .inr ⟨a,(Rch.base.step hq).trans b⟩
theorem RInv.done {m:z1i} {n:Nat} {K K1:List Key} {p:Key} (h:RInv m n K p K1) (hk:∀ x∈zly m.2.1 p,x∈K1):RPost m n K p K1:=by
 refine ⟨h.pre,h.nd,h.keys,fun x hx hn=>?_,h.pin⟩;rcases h.new x hx hn with rfl | h
 ·exact ⟨hk,.base⟩
 ·exact h
theorem zc5 {n:Nat} (hn:n≤8) {K:List Key} (hd:K.Nodup) (hK:∀ p∈K,KeyU n 8 p):K.length < 4096:=by
 have h1:=keys_few hd hK;have h2:2 ^ n≤2 ^ 8:=Nat.pow_le_pow_right (by omega) hn;have h3:2 ^ n*(8+1)≤2 ^ 8*(8+1):=Nat.mul_le_mul_right _ h2;have h4:2 ^ 8*(8+1)=2304:=by decide
 omega
theorem zxq (N:Nat) (hN:5000 < N) {m:z1i} {g:List (List Int)} {n:Nat} (hm:MenuP m n) (hn8:n≤8):∀ (k:Nat) (p:Key),KeyU n 8 p->p.2.1.toNat < k->∀ K:List Key,K.Nodup->(∀ x∈K,KeyU n 8 x)->
  Yld (f52R N k p m g (M0 m g n K)) fun y=>∃ K',y=(((),(true,())),back m g (M0 m g n K'))∧RPost m n K p K'
 | 0,_,_,h=>absurd h (by omega)
 | k+1,p,hku,hk=>by
  intro K hnd hK;obtain ⟨k1,k2,k3,k4⟩:=z4q hku;have hn:=hm.few;have hv8:=hm.views;have hlen:=zc5 hn8 hnd hK;show Yld (f52B N (f52R N k) p m g (M0 m g n K)) _;unfold f52B;have hlenM:(M0 m g n K).length=K.length:=zwh ..;by_cases hp:p∈K
  ·have hlk:lk (M0 m g n K) p=some (-1):=zse hp;simp only [z99 eqK,hlk,Option.isSome_some,cond_true];exact Yld.ret ⟨K,rfl,fun _ h=>h,hnd,hK,fun x hx hn=>absurd hx hn,hp⟩
  ·have hlk:lk (M0 m g n K) p=none:=zg5 hp;simp only [z99 eqK,hlk,Option.isSome_none,cond_false];have hroom:z3e=4294967296:=rfl;have e0:decide (List.length (M0 m g n K)≤z3e)=true:=by rw [decide_eq_true_eq,hlenM,hroom];omega
   have e1:decide (len (M0 m g n K)=4096)=false:=by
    simp only [len,hlenM,decide_eq_false_iff_not];omega
   rw [z0h e0,e1,cond_false,zfy eqK,M0_new m g n hp];have hnd1:(K++[p]).Nodup:=by
    rw [List.nodup_append];refine ⟨hnd,by simp,fun a ha b hb=>?_⟩;simp only [List.mem_singleton] at hb;subst hb;intro e;subst e;exact hp ha
   have hinv0:RInv m n K p (K++[p]):=by
    refine ⟨fun x hx=>by simp [hx],hnd1,fun x hx=>?_,fun x hx hn=>?_,by simp⟩
    ·rcases List.mem_append.1 hx with h | h
     ·exact hK x h
     ·simp only [List.mem_singleton] at h;subst h;exact hku
    ·rcases List.mem_append.1 hx with h | h
     ·exact absurd h hn
     ·simp only [List.mem_singleton] at h;exact .inl h
   by_cases h0:p.2.1=0
   ·rw [decide_eq_true h0,cond_true];refine Yld.ret ⟨K++[p],rfl,hinv0.done fun x hx=>?_⟩;obtain ⟨v,hv,hx⟩:=z8f.1 hx;exact absurd h0 (z5o.1 hx).1
   ·rw [decide_eq_false h0,cond_false];refine Yld.up (fun q s=>s.1=m∧s.2.1=g∧∃ K',s.2.2=M0 m g n K'∧RInv m n K p K'∧∀ j,j < q->∀ x∈zni (z05 m j) p,x∈K')
     m.2.1.length ?_ ?_ N 0 (by omega) (by omega) _ ⟨rfl,rfl,K++[p],rfl,hinv0,fun c hc=>absurd hc (by omega)⟩
    ·rintro q ⟨a,b,M⟩ w hq ⟨h1,h2,K1,h3,h4,h5⟩ hw;simp only at h1 h2 h3;subst h1;subst h2;subst h3;obtain ⟨e1,hv⟩:=hm.at hq;have htl:=z57 hv;have hlen2:(z51 (z05 a q) p.1.toNat).length=z2f (z05 a q):=z2v _ _;simp only [zce];rw [z17 hq,cond_true,z0s hq,e1,k1];simp only [Option.bind_some];rw [znx N (by omega) hv hm.pos hn (zsc hn k2)];simp only [Option.bind_some];refine Yld.up (fun c s=>s.1=a∧s.2.1=b∧∃ K',s.2.2=M0 a b n K'∧RInv a n K p K'∧(∀ x∈K1,x∈K')∧∀ d,d < c->part (z05 a q) p.1.toNat d≠0->(((part (z05 a q) p.1.toNat d:Nat):Int),p.2.1-1,())∈K')
      (z2f (z05 a q)) ?_ ?_ N 0 (by omega) (by omega) _ ⟨rfl,rfl,K1,rfl,h4,fun _ h=>h,fun c hc=>absurd hc (by omega)⟩
     ·rintro c ⟨a',b',M⟩ w2 hc ⟨g1,g2,K2,g3,g4,g5,g6⟩ hw2;simp only at g1 g2 g3;subst g1;subst g2;subst g3;have hkl:c < (z51 (z05 a' q) p.1.toNat).length:=by rw [hlen2];exact hc
      have hget:(z51 (z05 a' q) p.1.toNat)[c]=((part (z05 a' q) p.1.toNat c:Nat):Int):=z4l ..;simp only [zcd];rw [z17 hkl,cond_true,z0h (z2m hkl),z0s hkl,hget];simp only [Option.bind_some];by_cases hz:part (z05 a' q) p.1.toNat c=0
      ·rw [hz,z07 (n:=(c:Int)+1) (by omega) (by omega)];simp only [Int.ofNat_zero,decide_true,Bool.not_true,cond_false];refine hw2 _ ⟨rfl,rfl,K2,rfl,g4,g5,fun d hd hp=>?_⟩;by_cases hck:d=c
       ·subst hck;exact absurd hz hp
       ·exact g6 d (by omega) hp
      ·have hne:¬ (((part (z05 a' q) p.1.toNat c:Nat):Int)=0):=by omega
       rw [decide_eq_false hne];simp only [Bool.not_false,cond_true];have hl8:=hku.left1;have hl0:=hku.left0;rw [z07 (n:=p.2.1-1) (by omega) (by omega)];have hkid:=zd8 hm hq (p:=p) h0 hc hz;have hko:=z8g hm hku hkid;refine Yld.then (zxq N hN hm hn8 k _ hko.1 (by rw [hko.2];omega) K2 g4.nd g4.keys) ?_;rintro y ⟨K3,hy,hpost⟩;subst hy;simp only [back,Bool.not_true,cond_false];rw [z07 (n:=(c:Int)+1) (by omega) (by omega)];refine hw2 _ ⟨rfl,rfl,K3,rfl,g4.call hkid hpost,fun x hx=>hpost.pre _ (g5 x hx),fun d hd hp=>?_⟩;by_cases hck:d=c
       ·subst hck;exact hpost.pin
       ·exact hpost.pre _ (g6 d (by omega) hp)
     ·rintro ⟨a',b',M⟩ w2 ⟨g1,g2,K2,g3,g4,g5,g6⟩;simp only at g1 g2 g3;subst g1;subst g2;subst g3;simp only [zcd];rw [←hlen2,z0v,cond_false,z07 (n:=(q:Int)+1) (by omega) (by omega)];refine hw _ ⟨rfl,rfl,K2,rfl,g4,fun j hj x hx=>?_⟩;by_cases hjq:j=q
      ·subst hjq;obtain ⟨_,c,hc,hp,rfl⟩:=z5o.1 hx;exact g6 c hc hp
      ·exact g5 _ (h5 j (by omega) x hx)
    ·rintro ⟨a,b,M⟩ w ⟨h1,h2,K1,h3,h4,h5⟩;simp only at h1 h2 h3;subst h1;subst h2;subst h3;simp only [zce];rw [z0v,cond_false];refine Yld.ret ⟨K1,rfl,h4.done fun x hx=>?_⟩;obtain ⟨v,hv,hx⟩:=z8f.1 hx;obtain ⟨j,hj,rfl⟩:=List.mem_iff_getElem.1 hv;rw [(hm.at hj).1] at hx;exact h5 j hj x hx
 termination_by k=>k
def z4k (n:Nat) (k:Int):Key:=((z6u n:Nat),k,())
theorem zzi {n:Nat} (hn:1≤n) {k:Int} (h0:0≤k) (h8:k≤8):KeyU n 8 (z4k n k):=by
 have h1:=zhl n;have h2:2 ^ 1≤2 ^ n:=Nat.pow_le_pow_right (by omega) hn;have h3:z6u n=2 ^ n-1:=rfl;refine ⟨?_,?_,h0,h8⟩ <;> simp only [z4k] <;> omega
theorem f52_ok (N:Nat) (hN:5000 < N) {m:z1i} {g:List (List Int)} {n:Nat} (hm:MenuP m n) (hg:GainP g n) (hn8:n≤8) {k:Int} (h0:0≤k) (h8:k≤8) :
  ∃ K,f52 N (z4k n k) m g []=some (((),(true,())),back m g (M0 m g n K))∧Slv m g n K∧z4k n k∈K∧∀ x,x∈K↔Rch m.2.1 (z4k n k) x:=by
 obtain ⟨y,h1,K,hy,hp⟩:=zxq N hN (g:=g) hm hn8 N (z4k n k) (zzi hm.pos h0 h8) (by simp only [z4k];omega) [] (by simp) (by simp);subst hy;have hcl:∀ p∈K,∀ q∈zly m.2.1 p,q∈K:=fun p hpK=>(hp.new p hpK (by simp)).1
 refine ⟨K,h1,⟨hm,hg,hp.nd,hp.keys,hcl⟩,hp.pin,fun x=>⟨fun hx=>(hp.new x hx (by simp)).2,fun hx=>?_⟩⟩
 induction hx with
 | base=>exact hp.pin
 | step _ hq ih=>exact hcl _ ih _ hq
end Go.Kz
