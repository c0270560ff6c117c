/-
  The layer adaptive: the separator's hardness; plain laws.
-/
import Derived.Test.YtnjfafnflbackaaGreatKzW1z
set_option linter.unusedVariables false
set_option linter.unusedSimpArgs false
namespace Go.Kz
abbrev z82:=List (Int×Int)
theorem zt0 {α β:Type} [DecidableEq α] {x:α} {y z:β}:{l:List (α×β)}->lk l x=some z->(pt l x y).map Prod.fst=l.map Prod.fst
 | (k,v) :: l,h=>by
  simp only [lk] at h;simp only [pt];split
  ·rfl
  ·rename_i hne;rw [if_neg hne] at h;simp only [List.map_cons];rw [zt0 h]
structure HM (vs:List (List Int)) (p:List Int) (n:Nat) (M:z82):Prop where
 nd:(M.map Prod.fst).Nodup
 ok:∀ x v,lk M x=some v->∃ S:Nat,x=(S:Int)∧S < 2 ^ n∧S≠0∧v=HH vs p n S
 closed:∀ S:Nat,(lk M (S:Int)).isSome=true->z0e n S p=true->∀ v∈vs,z0e n S v=true->∀ c,c < z1z v->part v S c≠0->(lk M ((part v S c:Nat):Int)).isSome=true
def zvi (M M':z82):Prop:=∀ x,(lk M x).isSome=true->(lk M' x).isSome=true
theorem HM.put {vs:List (List Int)} {p:List Int} {n:Nat} {M:z82} (h:HM vs p n M) {S:Nat} (hS:S < 2 ^ n) (h0:S≠0) (hk:z0e n S p=true->∀ v∈vs,z0e n S v=true->∀ c,c < z1z v->part v S c≠0->(lk M ((part v S c:Nat):Int)).isSome=true) :
  HM vs p n (pt M (S:Int) (HH vs p n S))∧zvi M (pt M (S:Int) (HH vs p n S))∧(lk (pt M (S:Int) (HH vs p n S)) (S:Int)).isSome=true:=by
 have hsub:zvi M (pt M (S:Int) (HH vs p n S)):=by
  intro x hx;rw [zrk];split
  ·rfl
  ·exact hx
 refine ⟨⟨?_,fun x v hx=>?_,fun T hT hsp v hv hsv c hc hp=>?_⟩,hsub,by rw [zrk,if_pos rfl];rfl⟩
 ·cases hl:lk M (S:Int) with
  | some z=>rw [zt0 hl];exact h.nd
  | none=>
   rw [zyt hl,List.map_append,List.nodup_append];refine ⟨h.nd,by simp,fun a ha b hb=>?_⟩;simp only [List.map_cons,List.map_nil,List.mem_singleton] at hb;subst hb;obtain ⟨e,he,rfl⟩:=List.mem_map.1 ha;exact zto.1 hl e he
 ·rw [zrk] at hx;split at hx
  ·rename_i e;simp only [zI] at hx;exact ⟨S,e,hS,h0,hx.symm⟩
  ·exact h.ok x v hx
 ·apply hsub;rw [zrk] at hT;split at hT
  ·rename_i e;have:T=S:=by omega
   subst this;exact hk hsp v hv hsv c hc hp
  ·exact h.closed T hT hsp v hv hsv c hc hp
def zs2 (m:z1m) (p:List Int) (M:z82):((z1m×(Unit×(Unit×Unit)))×((List Int)×(z82×Unit))):=((m,((),((),()))),(p,(M,())))
abbrev HrdFn:=Int->z1m->List Int->z82->Option ((Unit×(Int×Unit))×((z1m×(Unit×(Unit×Unit)))×((List Int)×(z82×Unit))))
def PostS (m:z1m) (p:List Int) (n:Nat) (M:z82) (x:Int) (G:z82->Prop) (y:(Unit×(Int×Unit))×((z1m×(Unit×(Unit×Unit)))×((List Int)×(z82×Unit)))):Prop:=
 ∃ M',y=(((),(x,())),zs2 m p M')∧HM m.2.1 p n M'∧zvi M M'∧G M'
def zoo (m:z1m) (p:List Int) (n:Nat) (r:HrdFn) (S:Nat):Prop:=
 ∀ M,HM m.2.1 p n M->Yld (r (S:Int) m p M) (PostS m p n M (HH m.2.1 p n S) fun M'=>(lk M' (S:Int)).isSome=true)
structure Sep (m:z1m) (p:List Int) (n:Nat):Prop where
 menu:MenuP m n
 joint:zqi m.2.1 p n
 view:View n p
theorem zbw {n:Nat} {v:List Int} (hv:View n v) {S:Nat} (hS:S < 2 ^ n) (h0:S≠0) (h:z0e n S v=false):∃ c,c < z1z v∧part v S c=S∧∀ d,d < z1z v->d≠c->part v S d=0:=by
 obtain ⟨s,hs,hb⟩:=zi9 hS h0;refine ⟨(v.getD s 0).toNat,zfs hv hs,?_,fun d _ hd=>?_⟩
 ·apply Nat.eq_of_testBit_eq;intro i;by_cases hi:i < n
  ·rw [z2q hv S _ hi]
   cases hbi:S.testBit i with
   | false=>rfl
   | true=>rw [z6r h hi hs hbi hb];simp
  ·rw [Nat.testBit_lt_two_pow (x:=S) (Nat.lt_of_lt_of_le hS (Nat.pow_le_pow_right (by omega) (by omega)))];exact Nat.testBit_lt_two_pow (Nat.lt_of_lt_of_le (z21 hv S _) (Nat.pow_le_pow_right (by omega) (by omega)))
 ·apply Nat.eq_of_testBit_eq;intro i;rw [Nat.zero_testBit];by_cases hi:i < n
  ·rw [z2q hv S d hi]
   cases hbi:S.testBit i with
   | false=>rfl
   | true=>
    have:¬ (v.getD s 0).toNat=d:=fun e=>hd e.symm
    rw [z6r h hi hs hbi hb,decide_eq_false this];rfl
  ·exact Nat.testBit_lt_two_pow (Nat.lt_of_lt_of_le (z21 hv S d) (Nat.pow_le_pow_right (by omega) (by omega)))
theorem part_ne {n:Nat} {v:List Int} (hv:View n v) {S:Nat} (h:z0e n S v=true) (c:Nat):part v S c≠S:=by
 intro e;have:=zn2 hv S c;rw [e,h] at this;exact absurd this (by simp)
theorem zzc (N:Nat) (hN:5000 < N) {m:z1m} {p:List Int} {n:Nat} (hs:Sep m p n) {r:HrdFn} {S:Nat} (hS:S < 2 ^ n) (h0:S≠0) {q:Nat} (hq:q < m.2.1.length)
  (hr:z0e n S (z07 m q)=true->∀ c,c < z1z (z07 m q)->part (z07 m q) S c≠0->zoo m p n r (part (z07 m q) S c)) (M:z82) (hM:HM m.2.1 p n M) :
  Yld (f54 N r (S:Int) (q:Int) m p M) (PostS m p n M (if z0e n S (z07 m q)=true then za1 (z07 m q) S (HH m.2.1 p n) else -1) fun M'=>z0e n S (z07 m q)=true->∀ c,c < z1z (z07 m q)->part (z07 m q) S c≠0->(lk M' ((part (z07 m q) S c:Nat):Int)).isSome=true):=by
 obtain ⟨e1,hv⟩:=hs.menu.at hq;have hn:=hs.menu.few;have htl:=z9t hv;have hlen:(z9i (z07 m q) S).length=z1z (z07 m q):=z7a _ _;unfold f54;rw [z0s hq,e1];simp only [Option.bind_some];rw [zuh N (by omega) hv hs.menu.pos hn (zxh hn hS)];simp only [Option.bind_some]
 cases hsp:z0e n S (z07 m q) with
 | false=>
  obtain ⟨c0,hc0,hw0,hz⟩:=zbw hv hS h0 hsp;refine Yld.iter (fun x=>∃ k:Nat,x=((k:Int),0,m,p,M)∧k≤c0) (fun x=>z1z (z07 m q)-x.1.toNat) ?_ N _ ⟨0,rfl,Nat.zero_le _⟩ (by simp;omega);rintro x w ⟨k,rfl,hk⟩ hw;have hkl:k < (z9i (z07 m q) S).length:=by rw [hlen];omega
  have hget:(z9i (z07 m q) S)[k]=((part (z07 m q) S k:Nat):Int):=z8x ..;simp only [zhk];rw [z1p hkl,cond_true,z0x (z5b hkl),z0s hkl,hget];simp only [Option.bind_some];by_cases he:k=c0
  ·subst he;rw [hw0,decide_eq_true rfl,cond_true];exact Yld.ret ⟨M,rfl,hM,fun _ h=>h,fun h=>by simp at h⟩
  ·have hz0:=hz k (by omega) he;have hne:¬ ((0:Nat):Int)=(S:Int):=by omega
   rw [hz0,decide_eq_false hne,cond_false];simp only [Int.ofNat_zero,decide_true,Bool.not_true,cond_false];rw [z0c (by omega) (by omega)]
   exact hw _ ⟨k+1,by simp,by omega⟩ (by simp;omega)
 | true=>
  generalize hQ:PostS m p n M (if true=true then za1 (z07 m q) S (HH m.2.1 p n) else -1) (fun M'=>true=true->∀ c,c < z1z (z07 m q)->part (z07 m q) S c≠0->(lk M' ((part (z07 m q) S c:Nat):Int)).isSome=true)=Q;refine Yld.up (fun k s=>s.1=(List.range k).foldl (fun b c=>max b (if part (z07 m q) S c=0 then 0 else HH m.2.1 p n (part (z07 m q) S c))) 0∧s.2.1=m∧s.2.2.1=p∧HM m.2.1 p n s.2.2.2∧zvi M s.2.2.2∧∀ c,c < k->part (z07 m q) S c≠0->(lk s.2.2.2 ((part (z07 m q) S c:Nat):Int)).isSome=true)
   (z1z (z07 m q)) ?_ ?_ N 0 (by omega) (by omega) _ ⟨rfl,rfl,rfl,hM,fun _ h=>h,fun c hc=>absurd hc (by omega)⟩
  ·rintro k ⟨t,a,b,M'⟩ w hk ⟨h1,h2,h3,h4,h5,h6⟩ hw;simp only at h1 h2 h3 h4 h5 h6;subst h1;subst h2;subst h3;have hkl:k < (z9i (z07 a q) S).length:=by rw [hlen];exact hk
   have hget:(z9i (z07 a q) S)[k]=((part (z07 a q) S k:Nat):Int):=z8x ..;have hpn:¬ ((part (z07 a q) S k:Nat):Int)=(S:Int):=by have:=part_ne hv hsp k;omega
   simp only [zhk];rw [z1p hkl,cond_true,z0x (z5b hkl),z0s hkl,hget];simp only [Option.bind_some];rw [decide_eq_false hpn,cond_false];by_cases hz:part (z07 a q) S k=0
   ·rw [hz];simp only [Int.ofNat_zero,decide_true,Bool.not_true,cond_false];rw [z0c (by omega) (by omega)];refine hw ⟨_,a,b,M'⟩ ⟨?_,rfl,rfl,h4,h5,fun c hc hp=>?_⟩
    ·have hnn:0≤(List.range k).foldl (fun b_1 c=>max b_1 (if part (z07 a q) S c=0 then 0 else HH a.2.1 b n (part (z07 a q) S c))) 0:=z98 _ _ 0;rw [List.range_succ,List.foldl_append];simp only [List.foldl_cons,List.foldl_nil,hz,if_true];omega
    ·by_cases he:c=k
     ·subst he;exact absurd hz hp
     ·exact h6 c (by omega) hp
   ·have hne:¬ ((part (z07 a q) S k:Nat):Int)=0:=by omega
    rw [decide_eq_false hne];simp only [Bool.not_false,cond_true];refine Yld.then (hr hsp k hk hz M' h4) ?_;rintro y ⟨M2,hy,g1,g2,g3⟩;subst hy;simp only [zs2];rw [z0c (by omega) (by omega),ziv];refine hw ⟨_,a,b,M2⟩ ⟨?_,rfl,rfl,g1,fun x hx=>g2 x (h5 x hx),fun c hc hp=>?_⟩
    ·rw [List.range_succ,List.foldl_append];simp only [List.foldl_cons,List.foldl_nil,hz,if_false]
    ·by_cases he:c=k
     ·subst he;exact g3
     ·exact g2 _ (h6 c (by omega) hp)
  ·rintro ⟨t,a,b,M'⟩ w ⟨h1,h2,h3,h4,h5,h6⟩;simp only at h1 h2 h3 h4 h5 h6;subst h1;subst h2;subst h3;simp only [zhk];rw [←hlen,z1e,cond_false,hlen,←hQ];exact Yld.ret ⟨M',rfl,h4,h5,fun _ c hc hp=>h6 c hc hp⟩
theorem zus (N:Nat) (hN:5000 < N) {m:z1m} {p:List Int} {n:Nat} (hs:Sep m p n):∀ (k S:Nat),S < 2 ^ n->S≠0->zcg n S < k->zoo m p n (f23R N k) S
 | 0,S,hS,h0,h=>by have:=z5u n S;omega
 | k+1,S,hS,h0,hk=>by
  intro M hM;have hn:=hs.menu.few;have hv8:=hs.menu.views;show Yld (f23B N (f23R N k) (S:Int) m p M) _;unfold f23B;simp only [zit keyI,znm keyI]
  cases hl:lk M (S:Int) with
  | some v=>
   obtain ⟨T,hT,_,_,hv⟩:=hM.ok _ _ hl;have:T=S:=by omega
   subst this;simp only [Option.isSome_some,cond_true,Option.getD_some];subst hv
   exact Yld.ret ⟨M,rfl,hM,fun _ h=>h,by show (lk M (T:Int)).isSome=true;rw [hl];rfl⟩
  | none=>
   simp only [Option.isSome_none,cond_false];rw [zzd N (by omega) hs.view hn (zxh hn hS)];simp only [Option.bind_some]
   cases hsp:z0e n S p with
   | false=>
    simp only [Bool.not_false,Bool.not_true,cond_false];have hz:HH m.2.1 p n S=0:=by rw [zga hs.menu.view hs.joint hS h0,hsp];rfl
    obtain ⟨g1,g2,g3⟩:=hM.put hS h0 (fun h=>by rw [hsp] at h;exact absurd h (by simp));rw [hz] at g1 g2 g3;have h0':HH m.2.1 p n S=0:=hz
    exact Yld.ret ⟨_,by rw [h0'];rfl,g1,g2,g3⟩
   | true=>
    simp only [Bool.not_true,Bool.not_false,cond_true];refine Yld.up (fun q s=>s.1=(m.2.1.take q).foldl (z3q n S (HH m.2.1 p n)) (n:Int)∧s.2.1=m∧s.2.2.1=p∧HM m.2.1 p n s.2.2.2∧zvi M s.2.2.2∧∀ j,j < q->z0e n S (z07 m j)=true->∀ c,c < z1z (z07 m j)->part (z07 m j) S c≠0->(lk s.2.2.2 ((part (z07 m j) S c:Nat):Int)).isSome=true)
     m.2.1.length ?_ ?_ N 0 (by omega) (by omega) _ ⟨by rw [hs.menu.secrets];rfl,rfl,rfl,hM,fun _ h=>h,fun c hc=>absurd hc (by omega)⟩
    ·rintro q ⟨t,a,b,M'⟩ w hq ⟨h1,h2,h3,h4,h5,h6⟩ hw;simp only at h1 h2 h3 h4 h5 h6;subst h1;subst h2;subst h3;obtain ⟨e1,hv⟩:=hs.menu.at hq;have htk:(a.2.1.take (q+1)).foldl (z3q n S (HH a.2.1 b n)) (n:Int)=z3q n S (HH a.2.1 b n) ((a.2.1.take q).foldl (z3q n S (HH a.2.1 b n)) (n:Int)) (z07 a q):=by
      rw [z27 hq,List.foldl_append,e1];rfl
     simp only [zfj];rw [z1p hq,cond_true];refine Yld.then (zzc N hN hs hS h0 hq (fun hspv c hc hp=>by
      have:=z4j hv hspv c;exact zus N hN hs k _ (z21 hv S c) hp (by omega)) M' h4) ?_
     rintro y ⟨M2,hy,g1,g2,g3⟩;subst hy;simp only [zs2];rw [z0c (n:=(q:Int)+1) (by omega) (by omega)];have hg6:∀ j,j < q+1->z0e n S (z07 a j)=true->∀ c,c < z1z (z07 a j)->part (z07 a j) S c≠0->(lk M2 ((part (z07 a j) S c:Nat):Int)).isSome=true:=by
      intro j hj hsj c hc hp;by_cases he:j=q
      ·subst he;exact g3 hsj c hc hp
      ·exact g2 _ (h6 j (by omega) hsj c hc hp)
     cases hspv:z0e n S (z07 a q) with
     | true=>
      have hmx:=z42 (z07 a q) S (HH a.2.1 b n);have hmb:za1 (z07 a q) S (HH a.2.1 b n)≤62:=by
       refine zno (by omega) fun c hc hp=>?_
       have:=(z7v hs.menu.view hs.joint (z21 hv S c) hp).2;have:=z4u n (part (z07 a q) S c);omega
      rw [if_pos rfl,decide_eq_true hmx,cond_true,z0c (by omega) (by omega),zth]
      refine hw ⟨_,a,b,M2⟩ ⟨by rw [htk];simp only [z3q,hspv,if_true],rfl,rfl,g1,fun x hx=>g2 x (h5 x hx),hg6⟩
     | false=>
      rw [if_neg (by simp),show decide ((0:Int)≤-1)=false from rfl,cond_false];refine hw ⟨_,a,b,M2⟩ ⟨by rw [htk];simp only [z3q,hspv,Bool.false_eq_true,if_false],rfl,rfl,g1,fun x hx=>g2 x (h5 x hx),hg6⟩
    ·rintro ⟨t,a,b,M'⟩ w ⟨h1,h2,h3,h4,h5,h6⟩;simp only at h1 h2 h3 h4 h5 h6;subst h1;subst h2;subst h3;simp only [zfj];rw [z1e,cond_false,List.take_length];have hz:a.2.1.foldl (z3q n S (HH a.2.1 b n)) (n:Int)=HH a.2.1 b n S:=by rw [zga hs.menu.view hs.joint hS h0,if_pos hsp]
     rw [hz];obtain ⟨g1,g2,g3⟩:=h4.put hS h0 (fun _ v hv hsv c hc hp=>by
      obtain ⟨j,hj,rfl⟩:=List.mem_iff_getElem.1 hv;rw [(hs.menu.at hj).1] at hsv hc hp ⊢;exact h6 j hj hsv c hc hp)
     exact Yld.ret ⟨_,rfl,g1,fun x hx=>g2 x (h5 x hx),g3⟩
 termination_by k=>k
theorem zur (N:Nat) (hN:5000 < N) {m:z1m} {p:List Int} {n:Nat} (hs:Sep m p n) {S:Nat} (hS:S < 2 ^ n) (h0:S≠0):zoo m p n (f23 N) S:=
 zus N hN hs N S hS h0 (by have:=z4u n S;have:=hs.menu.few;omega)
end Go.Kz
