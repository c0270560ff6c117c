/-
  The layer adaptive: the strategy that separates; plain laws.
-/
import Derived.Test.YtnjfafnflbackaaGreatKzW2z
set_option linter.unusedVariables false
set_option linter.unusedSimpArgs false
namespace Go.Kz
def zbq (n:Nat) (p:List Int) (S:Nat):Bool:=!z0e n S p
def wQ (vs:List (List Int)) (p:List Int) (n S:Nat) (v:List Int):Int:=if z0e n S v=true then za1 v S (HH vs p n) else -1
def qH (vs:List (List Int)) (p:List Int) (n S:Nat):Nat:=vs.findIdx fun v=>decide (wQ vs p n S v=HH vs p n S-1)
def zw9 (n:Nat) (p:List Int) (f:Nat->Nat->List z14) (v:List Int) (S base:Nat) (acc:List Int×List z14) (c:Nat):List Int×List z14:=
 if zbq n p (part v S c) then (acc.1++[-1],acc.2) else (acc.1++[((base+1+acc.2.length:Nat):Int)],acc.2++f (part v S c) (base+1+acc.2.length))
def z4c (vs:List (List Int)) (p:List Int) (n:Nat):Nat->Nat->Nat->List z14
 | 0=>fun _ _=>[]
 | l+1=>fun S base=>
  let v:=vs.getD (qH vs p n S) [];let r:=(List.range (z1z v)).foldl (zw9 n p (z4c vs p n l) v S base) ([],[])
  (((qH vs p n S:Nat):Int),(r.1,())) :: r.2
def go (vs:List (List Int)) (p:List Int) (n l:Nat) (v:List Int) (S base k:Nat):List Int×List z14:=(List.range k).foldl (zw9 n p (z4c vs p n l) v S base) ([],[])
def gx (vs:List (List Int)) (p:List Int) (n l:Nat) (v:List Int) (S base k:Nat):Int:=if zbq n p (part v S k) then -1 else ((base+1+(go vs p n l v S base k).2.length:Nat):Int)
def ge (vs:List (List Int)) (p:List Int) (n l:Nat) (v:List Int) (S base k:Nat):List z14:=if zbq n p (part v S k) then [] else z4c vs p n l (part v S k) (base+1+(go vs p n l v S base k).2.length)
theorem zca (vs:List (List Int)) (p:List Int) (n l:Nat) (v:List Int) (S base k:Nat):go vs p n l v S base (k+1)=((go vs p n l v S base k).1++[gx vs p n l v S base k],(go vs p n l v S base k).2++ge vs p n l v S base k):=by
 have h:go vs p n l v S base (k+1)=zw9 n p (z4c vs p n l) v S base (go vs p n l v S base k) k:=by
  simp only [go,List.range_succ,List.foldl_append,List.foldl_cons,List.foldl_nil]
 rw [h];unfold zw9 gx ge;split <;> simp
theorem zd0 (vs:List (List Int)) (p:List Int) (n l:Nat) (v:List Int) (S base:Nat):(k:Nat)->(go vs p n l v S base k).1.length=k
 | 0=>rfl
 | k+1=>by rw [zca];simp [zd0 vs p n l v S base k]
theorem zu1 (vs:List (List Int)) (p:List Int) (n l:Nat) (v:List Int) (S base j:Nat):(k:Nat)->(go vs p n l v S base j).2.length≤(go vs p n l v S base (j+k)).2.length
 | 0=>Nat.le_refl _
 | k+1=>by
  rw [←Nat.add_assoc,zca];have:=zu1 vs p n l v S base j k;simp only [List.length_append];omega
theorem zds (vs:List (List Int)) (p:List Int) (n l:Nat) (v:List Int) (S base:Nat) {c:Nat}:{k:Nat}->c < k->∃ a b,(go vs p n l v S base k).1=(go vs p n l v S base c).1++gx vs p n l v S base c :: a∧(go vs p n l v S base k).2=(go vs p n l v S base c).2++ge vs p n l v S base c++b
 | k+1,h=>by
  rw [zca];by_cases he:c=k
  ·subst he;exact ⟨[],[],rfl,by simp⟩
  ·obtain ⟨a,b,h1,h2⟩:=zds vs p n l v S base (c:=c) (k:=k) (by omega);refine ⟨a++[gx vs p n l v S base k],b++ge vs p n l v S base k,?_,?_⟩
   ·rw [h1];simp
   ·rw [h2];simp
theorem zav (vs:List (List Int)) (p:List Int) (n l S base:Nat):z4c vs p n (l+1) S base=(((qH vs p n S:Nat):Int),((go vs p n l (vs.getD (qH vs p n S) []) S base (z1z (vs.getD (qH vs p n S) []))).1,())) :: (go vs p n l (vs.getD (qH vs p n S) []) S base (z1z (vs.getD (qH vs p n S) []))).2:=rfl
theorem zkk (vs:List (List Int)) (p:List Int) (n l S base:Nat):0 < (z4c vs p n (l+1) S base).length:=by rw [zav];simp
structure Asked (m:z1m) (p:List Int) (n S:Nat):Prop where
 lt:qH m.2.1 p n S < m.2.1.length
 view:View n (z07 m (qH m.2.1 p n S))
 split:z0e n S (z07 m (qH m.2.1 p n S))=true
 val:za1 (z07 m (qH m.2.1 p n S)) S (HH m.2.1 p n)=HH m.2.1 p n S-1
theorem z9g {m:z1m} {p:List Int} {n:Nat} (hs:Sep m p n) {S:Nat} (hS:S < 2 ^ n) (h0:S≠0) (hsp:z0e n S p=true):Asked m p n S:=by
 have hlt:qH m.2.1 p n S < m.2.1.length:=by
  rw [qH,List.findIdx_lt_length];obtain ⟨v,hv,hsv,e⟩:=zvm hs.menu.view hs.joint hS h0 hsp;refine ⟨v,hv,?_⟩;rw [decide_eq_true_eq,wQ,if_pos hsv,e];omega
 obtain ⟨e1,hv⟩:=hs.menu.at hlt;have hw:=List.findIdx_getElem (p:=fun v=>decide (wQ m.2.1 p n S v=HH m.2.1 p n S-1)) (xs:=m.2.1) (w:=hlt);have hw':wQ m.2.1 p n S (z07 m (qH m.2.1 p n S))=HH m.2.1 p n S-1:=by
  rw [←e1];exact of_decide_eq_true hw
 have hpos:1≤HH m.2.1 p n S:=by
  obtain ⟨v,_,_,e⟩:=zvm hs.menu.view hs.joint hS h0 hsp;have:=z42 v S (HH m.2.1 p n);omega
 unfold wQ at hw';split at hw'
 ·rename_i hsv;exact ⟨hlt,hv,hsv,hw'⟩
 ·omega
theorem z30 {n S:Nat} {p:List Int} (h:z0e n S p=true):S≠0:=by
 obtain ⟨r,s,_,_,b1,_⟩:=z5h h;intro e;subst e;simp at b1
theorem zem {m:z1m} {p:List Int} {n:Nat} (hs:Sep m p n):(l S base:Nat)->S < 2 ^ n->z0e n S p=true->zcg n S≤l->
  ∀ j c,(z4c m.2.1 p n l S base)[j]? = some c->z4g m.2.1 (base+(z4c m.2.1 p n l S base).length) (base+j) c=true
 | 0,S,base,hS,h,hc=>by have:=z4k hS (z30 h);omega
 | l+1,S,base,hS,h,hc=>by
  obtain ⟨hq,hv,hsv,hval⟩:=z9g hs hS (z30 h) h;have hqv:m.2.1.getD (qH m.2.1 p n S) []=z07 m (qH m.2.1 p n S):=rfl;rw [zav,hqv];generalize hvv:z07 m (qH m.2.1 p n S)=v at *;have sub:∀ k j c,(go m.2.1 p n l v S base k).2[j]? = some c->z4g m.2.1 (base+1+(go m.2.1 p n l v S base k).2.length) (base+1+j) c=true:=by
   intro k
   induction k with
   | zero=>intro j c hj;simp [go] at hj
   | succ k ih=>
    intro j c hj;rw [zca] at hj ⊢;simp only [List.length_append];by_cases hlt:j < (go m.2.1 p n l v S base k).2.length
    ·rw [List.getElem?_append_left hlt] at hj;exact zes (ih j c hj) (by omega)
    ·rw [List.getElem?_append_right (by omega)] at hj;unfold ge at hj ⊢;split at hj
     ·simp at hj
     ·rename_i hst;rw [if_neg hst];have hst':z0e n (part v S k) p=true:=by simpa [zbq] using hst
      have hcp:=z4j hv hsv k;have:=zem hs l _ (base+1+(go m.2.1 p n l v S base k).2.length) (z21 hv S k) hst' (by omega) _ c hj;rw [show base+1+(go m.2.1 p n l v S base k).2.length+(j-(go m.2.1 p n l v S base k).2.length)=base+1+j by omega] at this;exact zes this (by omega)
  intro j c hj
  cases j with
  | zero=>
   simp only [List.getElem?_cons_zero,zI] at hj;subst hj;simp only [z4g,zA,decide_eq_true_eq,List.all_eq_true,Int.toNat_natCast,hqv,hvv,zd0,List.length_cons];refine ⟨⟨⟨by omega,by omega⟩,trivial⟩,fun z hz=>?_⟩;obtain ⟨d,hd,rfl⟩:=List.mem_iff_getElem.1 hz;rw [zd0] at hd;obtain ⟨a,b,h1,h2⟩:=zds m.2.1 p n l v S base hd;have hg:(go m.2.1 p n l v S base (z1z v)).1[d]'(by rw [zd0];exact hd)=gx m.2.1 p n l v S base d:=by
    have:(go m.2.1 p n l v S base (z1z v)).1[d]? = some (gx m.2.1 p n l v S base d):=by
     rw [h1];have hl:=zd0 m.2.1 p n l v S base d;rw [List.getElem?_append_right (by omega),hl];simp
    rw [List.getElem?_eq_getElem (by rw [zd0];exact hd)] at this;simpa using this
   rw [hg];simp only [zeu,Bool.or_eq_true,zA,decide_eq_true_eq];unfold gx;split
   ·left;rfl
   ·rename_i hst;right;have hst':z0e n (part v S d) p=true:=by simpa [zbq] using hst
    have hcp:=z4j hv hsv d;have hcpos:=z4k (z21 hv S d) (z30 hst');have hlen:(go m.2.1 p n l v S base d).2.length < (go m.2.1 p n l v S base (z1z v)).2.length:=by
     rw [h2];simp only [List.length_append];unfold ge;rw [if_neg hst];obtain ⟨k',rfl⟩:∃ k',l=k'+1:=⟨l-1,by omega⟩;have:=zkk m.2.1 p n k' (part v S d) (base+1+(go m.2.1 p n (k'+1) v S base d).2.length);omega
    omega
  | succ j=>
   simp only [List.getElem?_cons_succ] at hj;have:=sub _ j c hj;simp only [List.length_cons];rw [show base+(j+1)=base+1+j by omega,show base+((go m.2.1 p n l v S base (z1z v)).2.length+1)=base+1+(go m.2.1 p n l v S base (z1z v)).2.length by omega];exact this
theorem zen {m:z1m} {p:List Int} {n:Nat} (hs:Sep m p n):(l S base:Nat)->S < 2 ^ n->z0e n S p=true->zcg n S≤l->((z4c m.2.1 p n l S base).length:Int)≤l*zcg n S
 | 0,S,base,hS,h,hc=>by have:=z4k hS (z30 h);omega
 | l+1,S,base,hS,h,hc=>by
  have h1:=z4k hS (z30 h);obtain ⟨hq,hv,hsv,hval⟩:=z9g hs hS (z30 h) h;have hqv:m.2.1.getD (qH m.2.1 p n S) []=z07 m (qH m.2.1 p n S):=rfl;rw [zav,hqv];generalize hvv:z07 m (qH m.2.1 p n S)=v at *;have key:∀ k,k≤z1z v->(((go m.2.1 p n l v S base k).2.length:Nat):Int)≤z2z k fun c=>l*zcg n (part v S c):=by
   intro k
   induction k with
   | zero=>intro _;simp [z2z,go]
   | succ k ih=>
    intro hk;have ih:=ih (by omega);rw [zca];simp only [z2z,List.length_append];have hc2:=z5u n (part v S k);have hm0:(0:Int)≤l*zcg n (part v S k):=Int.mul_nonneg (by omega) hc2;unfold ge;split
    ·simp only [List.length_nil];push_cast;omega
    ·rename_i hst;have hst':z0e n (part v S k) p=true:=by simpa [zbq] using hst
     have hcp:=z4j hv hsv k;have:=zen hs l (part v S k) (base+1+(go m.2.1 p n l v S base k).2.length) (z21 hv S k) hst' (by omega);push_cast;omega
  have hk:=key (z1z v) (Nat.le_refl _);have hsum:(z2z (z1z v) fun c=>(l:Int)*zcg n (part v S c))=l*zcg n S:=by
   have hmul:∀ (k:Nat) (f:Nat->Int),z2z k (fun c=>(l:Int)*f c)=l*z2z k f:=by
    intro k f
    induction k with
    | zero=>simp [z2z]
    | succ k ih=>simp only [z2z,ih,Int.mul_add]
   rw [hmul];congr 1;exact (zr1 hv S _).symm
  rw [hsum] at hk;simp only [List.length_cons];push_cast;rw [Int.add_mul,Int.one_mul];omega
theorem zkj {m:z1m} {p:List Int} {n:Nat} (hs:Sep m p n):(l S base:Nat)->(st:List z14)->(k:Nat)->S < 2 ^ n->z0e n S p=true->zcg n S≤l->AtL st base (z4c m.2.1 p n l S base)->l≤k->
  (∀ s,s < n->S.testBit s=true->((z89 m.2.1 st k (base:Int) s).length:Int)≤HH m.2.1 p n S)∧(∃ s,s < n∧S.testBit s=true∧((z89 m.2.1 st k (base:Int) s).length:Int)=HH m.2.1 p n S)∧
   ∀ r s,r < n->s < n->S.testBit r=true->S.testBit s=true->z89 m.2.1 st k (base:Int) r=z89 m.2.1 st k (base:Int) s->p.getD r 0=p.getD s 0
 | 0,S,base,st,k,hS,h,hc,_,_=>by have:=z4k hS (z30 h);omega
 | l+1,S,base,st,k,hS,h,hc,hat,hk=>by
  obtain ⟨k,rfl⟩:∃ j,k=j+1:=⟨k-1,by omega⟩;have h0:=z30 h;obtain ⟨hq,hv,hsv,hval⟩:=z9g hs hS h0 h;have hqv:m.2.1.getD (qH m.2.1 p n S) []=z07 m (qH m.2.1 p n S):=rfl;rw [zav,hqv] at hat;generalize hvv:z07 m (qH m.2.1 p n S)=v at *;have hnode:st[base]? = some (((qH m.2.1 p n S:Nat):Int),((go m.2.1 p n l v S base (z1z v)).1,())):=by
   have:=hat 0 _ rfl;simpa using this
  have hneg:¬ ((base:Int) < 0):=by omega
  have hrun:∀ s,z89 m.2.1 st (k+1) (base:Int) s=(((qH m.2.1 p n S:Nat):Int),(v.getD s 0,())) :: z89 m.2.1 st k ((go m.2.1 p n l v S base (z1z v)).1.getD (v.getD s 0).toNat (-1)) s:=by
   intro s;simp only [z89,if_neg hneg,Int.toNat_natCast,hnode,hqv,hvv]
  have hfx:∀ c,c < z1z v->(go m.2.1 p n l v S base (z1z v)).1.getD c (-1)=gx m.2.1 p n l v S base c:=by
   intro c hc;obtain ⟨a,b,h1,h2⟩:=zds m.2.1 p n l v S base hc;have hl:=zd0 m.2.1 p n l v S base c;rw [h1,List.getD_eq_getElem?_getD,List.getElem?_append_right (by omega),hl];simp
  have hpb:∀ s,s < n->S.testBit s=true->(part v S (v.getD s 0).toNat).testBit s=true:=by
   intro s hsn hb;rw [z2q hv S _ hsn,hb];simp
  have hpz:∀ s,s < n->S.testBit s=true->part v S (v.getD s 0).toNat≠0:=by
   intro s hsn hb e;have:=hpb s hsn hb;rw [e] at this;simp at this
  have hcls:∀ c s,s < n->(part v S c).testBit s=true->(v.getD s 0).toNat=c∧S.testBit s=true:=by
   intro c s hsn hb;rw [z2q hv S c hsn] at hb;simp only [zA,decide_eq_true_eq] at hb;exact ⟨hb.2,hb.1⟩
  have hstop:∀ c s,z0e n (part v S c) p=false->z89 m.2.1 st k (gx m.2.1 p n l v S base c) s=[]:=by
   intro c s hst;have hfe:gx m.2.1 p n l v S base c = -1:=by simp [gx,zbq,hst]
   rw [hfe]
   cases k with
   | zero=>rfl
   | succ k=>simp [z89]
  have hz:∀ c,part v S c≠0->z0e n (part v S c) p=false->HH m.2.1 p n (part v S c)=0:=by
   intro c hp hst;rw [zga hs.menu.view hs.joint (z21 hv S c) hp,hst];rfl
  have hsub:∀ c,c < z1z v->z0e n (part v S c) p=true->(∀ s,s < n->(part v S c).testBit s=true->((z89 m.2.1 st k (gx m.2.1 p n l v S base c) s).length:Int)≤HH m.2.1 p n (part v S c))∧(∃ s,s < n∧(part v S c).testBit s=true∧((z89 m.2.1 st k (gx m.2.1 p n l v S base c) s).length:Int)=HH m.2.1 p n (part v S c))∧
    ∀ r s,r < n->s < n->(part v S c).testBit r=true->(part v S c).testBit s=true->z89 m.2.1 st k (gx m.2.1 p n l v S base c) r=z89 m.2.1 st k (gx m.2.1 p n l v S base c) s->p.getD r 0=p.getD s 0:=by
   intro c hct hst;have hfe:gx m.2.1 p n l v S base c=((base+1+(go m.2.1 p n l v S base c).2.length:Nat):Int):=by simp [gx,zbq,hst]
   have hcp:=z4j hv hsv c;rw [hfe];refine zkj hs l (part v S c) (base+1+(go m.2.1 p n l v S base c).2.length) st k (z21 hv S c) hst (by omega) ?_ (by omega);intro j x hj;obtain ⟨a,b,h1,h2⟩:=zds m.2.1 p n l v S base hct;have:=hat ((go m.2.1 p n l v S base c).2.length+j+1) x (by
    rw [List.getElem?_cons_succ,h2,List.append_assoc,List.getElem?_append_right (by omega),Nat.add_sub_cancel_left];have hfe2:ge m.2.1 p n l v S base c=z4c m.2.1 p n l (part v S c) (base+1+(go m.2.1 p n l v S base c).2.length):=by simp [ge,zbq,hst]
    rw [hfe2,List.getElem?_append_left]
    ·exact hj
    ·exact (List.getElem?_eq_some_iff.1 hj).1)
   rw [←this];congr 1;omega
  refine ⟨fun s hsn hb=>?_,?_,fun r s hr hsn b1 b2 he=>?_⟩
  ·have hct:=zfs hv hsn;have hmx:=ztm (HH m.2.1 p n) hct (hpz s hsn hb);rw [hrun,hfx _ hct,List.length_cons]
   cases hst:z0e n (part v S (v.getD s 0).toNat) p with
   | false=>
    rw [hstop _ s hst];have:=z42 v S (HH m.2.1 p n);simp only [List.length_nil]
    push_cast;omega
   | true=>
    have:=(hsub _ hct hst).1 s hsn (hpb s hsn hb);push_cast;omega
  ·by_cases hp:0 < za1 v S (HH m.2.1 p n)
   ·obtain ⟨c,hct,hp0,hce⟩:=zpe hp;have hst:z0e n (part v S c) p=true:=by
     cases hst:z0e n (part v S c) p with
     | true=>rfl
     | false=>rw [hz c hp0 hst] at hce;omega
    obtain ⟨s,hsn,hb,hl⟩:=(hsub c hct hst).2.1;obtain ⟨c1,b1⟩:=hcls c s hsn hb;refine ⟨s,hsn,b1,?_⟩;rw [hrun,c1,hfx _ hct,List.length_cons];push_cast;omega
   ·have hm0:=z42 v S (HH m.2.1 p n);obtain ⟨s,hsn,hb⟩:=zi9 hS h0;have hct:=zfs hv hsn;refine ⟨s,hsn,hb,?_⟩;have hmx:=ztm (HH m.2.1 p n) hct (hpz s hsn hb);rw [hrun,hfx _ hct,List.length_cons]
    cases hst:z0e n (part v S (v.getD s 0).toNat) p with
    | false=>
     rw [hstop _ s hst];simp only [List.length_nil]
     push_cast;omega
    | true=>
     have:=(hsub _ hct hst).1 s hsn (hpb s hsn hb);push_cast;omega
  ·rw [hrun,hrun] at he;simp only [List.cons.injEq,Prod.mk.injEq] at he;obtain ⟨⟨_,he1,_⟩,he2⟩:=he;have hct:=zfs hv hr;rw [←he1,hfx _ hct] at he2;have hbs:(part v S (v.getD r 0).toNat).testBit s=true:=by rw [he1];exact hpb s hsn b2
   cases hst:z0e n (part v S (v.getD r 0).toNat) p with
   | false=>exact z6r hst hr hsn (hpb r hr b1) hbs
   | true=>exact (hsub _ hct hst).2.2 r s hr hsn (hpb r hr b1) hbs he2
theorem zkc (vs:List (List Int)) (st:List z14) {r s:Nat} (h:∀ v∈vs,v.getD r 0=v.getD s 0):(k:Nat)->(at0:Int)->z89 vs st k at0 r=z89 vs st k at0 s
 | 0,_=>rfl
 | k+1,at0=>by
  simp only [z89];split
  ·rfl
  ·split
   ·rfl
   ·rename_i c _;have e:(vs.getD c.1.toNat []).getD r 0=(vs.getD c.1.toNat []).getD s 0:=by
     by_cases hc:c.1.toNat < vs.length
     ·have e2:vs.getD c.1.toNat []=vs[c.1.toNat]:=by simp [hc]
      rw [e2];exact h _ (List.getElem_mem hc)
     ·have e2:vs.getD c.1.toNat []=[]:=by rw [List.getD_eq_getElem?_getD,List.getElem?_eq_none (by omega)];rfl
      rw [e2];simp
    rw [e,zkc vs st h k]
end Go.Kz
