/-
  The layer adaptive: the solver's values; plain laws.
-/
import Derived.Test.YtnjfafnflbackaaKzFB
set_option linter.unusedVariables false
set_option linter.unusedSimpArgs false
namespace Go.Kz
theorem WW_bound {τ:Type} [DecidableEq τ] {g:List (List Int)} {n:Nat} (hg:∀ row∈g,z92 (n:Int) row=true) (P:Nat->Bool) (f:Nat->τ):WW g n P f≤n*(n*1024):=by
 refine z4c fun s _=>?_
 split
 ·exact (zg7 _ hg).2
 ·have:(0:Int)≤(n:Int)*1024:=by omega
  exact this
theorem zf4 {g:List (List Int)} {n:Nat} {vs:List (List Int)} (h:∀ v∈vs,View n v) (hg:∀ row∈g,z92 (n:Int) row=true) (hn:n≤62) (l S:Nat):VV vs g n l S≤3936256:=by
 have h1:=zpg g h l S;have h2:=WW_bound hg S.testBit (zyc vs);have h3:(n:Int)*(n*1024)≤62*(62*1024):=Int.mul_le_mul (by omega) (by omega) (by omega) (by omega);omega
def WK (m:z1i) (g:List (List Int)) (n:Nat) (p:Key):Int:=VV m.2.1 g n p.2.1.toNat p.1.toNat
structure Slv (m:z1i) (g:List (List Int)) (n:Nat) (K:List Key):Prop where
 menu:MenuP m n
 gain:GainP g n
 nd:K.Nodup
 keys:∀ p∈K,KeyU n 8 p
 closed:∀ p∈K,∀ q∈zly m.2.1 p,q∈K
def DOK (m:z1i) (K:List Key) (D:Key->Bool):Prop:=∀ p∈K,D p=true->∀ q∈zly m.2.1 p,D q=true
def SubD (D D':Key->Bool):Prop:=∀ q,D q=true->D' q=true
abbrev ValFn:=Key->z1i->List (List Int)->z7a->Option ((Unit×(Int×Unit))×((z1i×(List (List Int)×(Unit×Unit)))×(z7a×Unit)))
def PostV (m:z1i) (g:List (List Int)) (n:Nat) (K:List Key) (D:Key->Bool) (x:Int) (G:(Key->Bool)->Prop) (y:(Unit×(Int×Unit))×((z1i×(List (List Int)×(Unit×Unit)))×(z7a×Unit))):Prop:=
 ∃ D',y=(((),(x,())),back m g (mkM (WK m g n) K D'))∧DOK m K D'∧SubD D D'∧G D'
def zra (m:z1i) (g:List (List Int)) (n:Nat) (K:List Key) (r:ValFn) (p:Key):Prop:=
 ∀ D,DOK m K D->Yld (r p m g (mkM (WK m g n) K D)) (PostV m g n K D (WK m g n p) fun D'=>D' p=true)
theorem z4q {n L:Nat} {p:Key} (h:KeyU n L p):p.1=(p.1.toNat:Int)∧p.1.toNat < 2 ^ n∧p.1.toNat≠0∧p.2.1=(p.2.1.toNat:Int):=by
 have:=h.set1;have:=h.set2;have:=h.left0;omega
theorem ztf (m:z1i) (g:List (List Int)) (n:Nat) (y:Nat) (l:Int):WK m g n ((y:Int),l-1,())=VV m.2.1 g n (l.toNat-1) y:=by
 simp only [WK,Int.toNat_natCast];congr 1;omega
theorem zd8 {m:z1i} {n q c:Nat} (hm:MenuP m n) (hq:q < m.2.1.length) {p:Key} (h0:p.2.1≠0) (hc:c < z2f (z05 m q)) (hp:part (z05 m q) p.1.toNat c≠0):(((part (z05 m q) p.1.toNat c:Nat):Int),p.2.1-1,())∈zly m.2.1 p:=by
 refine z8f.2 ⟨z05 m q,?_,z5o.2 ⟨h0,c,hc,hp,rfl⟩⟩;rw [←(hm.at hq).1];exact List.getElem_mem hq
theorem f82_ok (N:Nat) (hN:5000 < N) {m:z1i} {g:List (List Int)} {n:Nat} {K:List Key} (hs:Slv m g n K) {r:ValFn} {p:Key} (hp:p∈K) (hl:0 < p.2.1) {q:Nat} (hq:q < m.2.1.length)
  (hr:∀ x∈zly m.2.1 p,zra m g n K r x) (D:Key->Bool) (hD:DOK m K D) :
  Yld (f82 N r p (q:Int) m g (mkM (WK m g n) K D)) (PostV m g n K D (zct (z05 m q) p.1.toNat (VV m.2.1 g n (p.2.1.toNat-1))) fun D'=>∀ x∈zni (z05 m q) p,D' x=true):=by
 obtain ⟨e1,hv⟩:=hs.menu.at hq;have hn:=hs.menu.few;have hku:=hs.keys p hp;obtain ⟨k1,k2,k3,k4⟩:=z4q hku;have htl:=z57 hv;have hlen:(z51 (z05 m q) p.1.toNat).length=z2f (z05 m q):=z2v _ _;unfold f82;rw [z0s hq,e1,k1];simp only [Option.bind_some];rw [Int.toNat_natCast,znx N (by omega) hv hs.menu.pos hn (zsc hn k2)];simp only [Option.bind_some];refine Yld.up (fun k s=>s.1=z1r k (fun c=>if part (z05 m q) p.1.toNat c=0 then 0 else VV m.2.1 g n (p.2.1.toNat-1) (part (z05 m q) p.1.toNat c))∧s.2.1=m∧s.2.2.1=g∧∃ D',s.2.2.2=mkM (WK m g n) K D'∧DOK m K D'∧SubD D D'∧∀ c,c < k->part (z05 m q) p.1.toNat c≠0->D' (((part (z05 m q) p.1.toNat c:Nat):Int),p.2.1-1,())=true)
  (z2f (z05 m q)) ?_ ?_ N 0 (by omega) (by omega) _ ⟨rfl,rfl,rfl,D,rfl,hD,fun _ h=>h,fun c hc=>absurd hc (by omega)⟩
 ·rintro k ⟨t,a,b,M⟩ w hk ⟨h1,h2,h3,D',h4,h5,h6,h7⟩ hw;simp only at h1 h2 h3 h4;subst h1;subst h2;subst h3;subst h4;have hkl:k < (z51 (z05 a q) p.1.toNat).length:=by rw [hlen];exact hk
  have hget:(z51 (z05 a q) p.1.toNat)[k]=((part (z05 a q) p.1.toNat k:Nat):Int):=z4l ..;simp only [znv];rw [z17 hkl,cond_true,z0h (z2m hkl),z0s hkl,hget];simp only [Option.bind_some];have hsb:(z1r k fun c=>if part (z05 a q) p.1.toNat c=0 then 0 else VV a.2.1 b n (p.2.1.toNat-1) (part (z05 a q) p.1.toNat c))≤k*3936256:=z4c fun c _=>by
   split
   ·omega
   ·exact zf4 hs.menu.view hs.gain.row hn _ _
  have hs0:0≤(z1r k fun c=>if part (z05 a q) p.1.toNat c=0 then 0 else VV a.2.1 b n (p.2.1.toNat-1) (part (z05 a q) p.1.toNat c)):=z4f fun c _=>by
   split
   ·omega
   ·exact z9r _ _ _ _ _
  by_cases h0:part (z05 a q) p.1.toNat k=0
  ·rw [h0,z07 (n:=(k:Int)+1) (by omega) (by omega)];simp only [Int.ofNat_zero,decide_true,Bool.not_true,cond_false];refine hw _ ⟨by simp only [z1r,h0,if_true];omega,rfl,rfl,D',rfl,h5,h6,fun c hc hp=>?_⟩;by_cases hck:c=k
   ·subst hck;exact absurd h0 hp
   ·exact h7 c (by omega) hp
  ·have hne:¬ (((part (z05 a q) p.1.toNat k:Nat):Int)=0):=by omega
   rw [decide_eq_false hne];simp only [Bool.not_false,cond_true];have hl8:=hku.left1;rw [z07 (n:=p.2.1-1) (by omega) (by omega)];have hkid:=zd8 hs.menu hq (p:=p) (by omega) hk h0;refine Yld.then (hr _ hkid D' h5) ?_;rintro y ⟨D2,hy,g1,g2,g3⟩;subst hy;have hvb:=zf4 hs.menu.view hs.gain.row hn (p.2.1.toNat-1) (part (z05 a q) p.1.toNat k);have hv0:=z9r a.2.1 b n (p.2.1.toNat-1) (part (z05 a q) p.1.toNat k);simp only [back,ztf];rw [z07 (n:=(k:Int)+1) (by omega) (by omega),z07 (by omega) (by omega)];refine hw _ ⟨by simp only [z1r,h0,if_false],rfl,rfl,D2,rfl,g1,fun x hx=>g2 x (h6 x hx),fun c hc hp=>?_⟩;by_cases hck:c=k
   ·subst hck;exact g3
   ·exact g2 _ (h7 c (by omega) hp)
 ·rintro ⟨t,a,b,M⟩ w ⟨h1,h2,h3,D',h4,h5,h6,h7⟩;simp only at h1 h2 h3 h4;subst h1;subst h2;subst h3;subst h4;simp only [znv];rw [←hlen,z0v,cond_false,hlen];refine Yld.ret ⟨D',rfl,h5,h6,fun x hx=>?_⟩;obtain ⟨_,c,hc,hp,rfl⟩:=z5o.1 hx;exact h7 c hc hp
theorem zjd {α:Type} (h:α->Int) (l:List α) (x:α) (b:Int):(l++[x]).foldl (fun b x=>max b (h x)) b=max (l.foldl (fun b x=>max b (h x)) b) (h x):=by simp [List.foldl_append]
theorem zxp (N:Nat) (hN:5000 < N) {m:z1i} {g:List (List Int)} {n:Nat} {K:List Key} (hs:Slv m g n K):∀ (k:Nat) (p:Key),p∈K->p.2.1.toNat < k->zra m g n K (f53R N k) p
 | 0,_,_,h=>absurd h (by omega)
 | k+1,p,hp,hk=>by
  intro D hD;have hku:=hs.keys p hp;obtain ⟨k1,k2,k3,k4⟩:=z4q hku;have hn:=hs.menu.few;have hv8:=hs.menu.views;have hw0:0≤WK m g n p:=z9r _ _ _ _ _;show Yld (f53B N (f53R N k) p m g (mkM (WK m g n) K D)) _;unfold f53B;simp only [z99 eqK,zse hp,Option.getD_some]
  cases hd:D p with
  | true=>
   simp only [if_true];rw [decide_eq_true hw0,cond_true]
   exact Yld.ret ⟨D,rfl,hD,fun _ h=>h,hd⟩
  | false=>
   simp only [Bool.false_eq_true,if_false];rw [show decide ((0:Int)≤-1)=false from rfl,cond_false];have hput:∀ {D':Key->Bool},DOK m K D'->SubD D D'->(∀ q∈zly m.2.1 p,D' q=true)->∀ x,x=WK m g n p->
     PostV m g n K D (WK m g n p) (fun D'=>D' p=true) (((),(x,())),back m g (zcp (eqD (.pair (.int .i64) (.pair (.int .i64) .unit))) (mkM (WK m g n) K D') p x)):=by
    intro D' h1 h2 h3 x hx;subst hx;rw [zfy eqK,pt_mkM hp hs.nd];refine ⟨_,rfl,fun a ha hda b hb=>?_,fun a ha=>by show (decide (a=p) || D' a)=true;rw [h2 a ha,Bool.or_true],by simp⟩;rw [Bool.or_eq_true];rcases Bool.or_eq_true _ _ ▸ hda with h | h
    ·have:=of_decide_eq_true h;subst this;exact .inr (h3 b hb)
    ·exact .inr (h1 a ha h b hb)
   rw [k1,zxt N (by omega) hs.gain hn (zsc hn k2)];simp only [Option.bind_some];by_cases hl:0 < p.2.1
   ·rw [decide_eq_true hl,cond_true];refine Yld.up (fun q s=>s.1=(m.2.1.take q).foldl (fun b v=>max b (zct v p.1.toNat (VV m.2.1 g n (p.2.1.toNat-1)))) (z1m g n p.1.toNat.testBit)∧s.2.1=m∧s.2.2.1=g∧∃ D',s.2.2.2=mkM (WK m g n) K D'∧DOK m K D'∧SubD D D'∧∀ j,j < q->∀ x∈zni (z05 m j) p,D' x=true)
     m.2.1.length ?_ ?_ N 0 (by omega) (by omega) _ ⟨rfl,rfl,rfl,D,rfl,hD,fun _ h=>h,fun c hc=>absurd hc (by omega)⟩
    ·rintro q ⟨t,a,b,M⟩ w hq ⟨h1,h2,h3,D',h4,h5,h6,h7⟩ hw;simp only at h1 h2 h3 h4;subst h1;subst h2;subst h3;subst h4;simp only [zgr];rw [z17 hq,cond_true];refine Yld.then (f82_ok N hN hs hp hl hq (fun x hx=>zxp N hN hs k x (hs.closed p hp x hx) (by
      have:=(z8g hs.menu hku hx).2;omega)) D' h5) ?_
     rintro y ⟨D2,hy,g1,g2,g3⟩;subst hy;simp only [back];rw [z07 (n:=(q:Int)+1) (by omega) (by omega),zd6];refine hw _ ⟨by rw [z1h hq,zjd,(hs.menu.at hq).1],rfl,rfl,D2,rfl,g1,fun x hx=>g2 x (h6 x hx),fun j hj x hx=>?_⟩;by_cases hjq:j=q
     ·subst hjq;exact g3 x hx
     ·exact g2 _ (h7 j (by omega) x hx)
    ·rintro ⟨t,a,b,M⟩ w ⟨h1,h2,h3,D',h4,h5,h6,h7⟩;simp only at h1 h2 h3 h4;subst h1;subst h2;subst h3;subst h4;simp only [zgr];rw [z0v,cond_false,List.take_length];refine Yld.ret (hput h5 h6 (fun x hx=>?_) _ ?_)
     ·obtain ⟨v,hv,hx⟩:=z8f.1 hx;obtain ⟨j,hj,rfl⟩:=List.mem_iff_getElem.1 hv;rw [(hs.menu.at hj).1] at hx;exact h7 j hj x hx
     ·obtain ⟨l,hl'⟩:∃ l,p.2.1.toNat=l+1:=⟨p.2.1.toNat-1,by omega⟩;simp only [WK,hl',VV,Nat.add_sub_cancel]
   ·rw [decide_eq_false hl,cond_false];have h0:p.2.1=0:=by have:=hku.left0;omega
    refine Yld.ret (hput hD (fun _ h=>h) (fun x hx=>?_) _ ?_)
    ·obtain ⟨v,hv,hx⟩:=z8f.1 hx;exact absurd h0 (z5o.1 hx).1
    ·simp only [WK,h0,Int.toNat_zero,VV]
 termination_by k=>k
theorem zxo (N:Nat) (hN:5000 < N) {m:z1i} {g:List (List Int)} {n:Nat} {K:List Key} (hs:Slv m g n K) {p:Key} (hp:p∈K):zra m g n K (f53 N) p:=
 zxp N hN hs N p hp (by have:=(hs.keys p hp).left1;omega)
end Go.Kz
