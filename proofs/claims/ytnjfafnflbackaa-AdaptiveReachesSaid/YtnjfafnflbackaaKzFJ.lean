/-
  The layer adaptive: the planned strategy; its table is accepted; plain laws.
-/
import Derived.Test.YtnjfafnflbackaaKzFI
set_option linter.unusedVariables false
set_option linter.unusedSimpArgs false
namespace Go.Kz
def fo (vs g:List (List Int)) (n l:Nat) (v:List Int) (S base k:Nat):List Int×List z1b:=(List.range k).foldl (z2n vs g n l (z3a vs g n l) v S base) ([],[])
def fx (vs g:List (List Int)) (n l:Nat) (v:List Int) (S base k:Nat):Int:=if z6p vs g n l (part v S k) then -1 else ((base+1+(fo vs g n l v S base k).2.length:Nat):Int)
def fe (vs g:List (List Int)) (n l:Nat) (v:List Int) (S base k:Nat):List z1b:=if z6p vs g n l (part v S k) then [] else z3a vs g n l (part v S k) (base+1+(fo vs g n l v S base k).2.length)
theorem zxe (vs g:List (List Int)) (n l:Nat) (v:List Int) (S base k:Nat):fo vs g n l v S base (k+1)=((fo vs g n l v S base k).1++[fx vs g n l v S base k],(fo vs g n l v S base k).2++fe vs g n l v S base k):=by
 have h:fo vs g n l v S base (k+1)=z2n vs g n l (z3a vs g n l) v S base (fo vs g n l v S base k) k:=by
  simp only [fo,List.range_succ,List.foldl_append,List.foldl_cons,List.foldl_nil]
 rw [h];unfold z2n fx fe;split <;> simp
theorem zjl (vs g:List (List Int)) (n l:Nat) (v:List Int) (S base k:Nat):(fo vs g n l v S base k).1.length=k:=zll ..
theorem zf4 (vs g:List (List Int)) (n l:Nat) (v:List Int) (S base:Nat) {c:Nat}:{k:Nat}->c < k->∃ a b,(fo vs g n l v S base k).1=(fo vs g n l v S base c).1++fx vs g n l v S base c :: a∧(fo vs g n l v S base k).2=(fo vs g n l v S base c).2++fe vs g n l v S base c++b
 | k+1,h=>by
  rw [zxe];by_cases he:c=k
  ·subst he;exact ⟨[],[],rfl,by simp⟩
  ·obtain ⟨a,b,h1,h2⟩:=zf4 vs g n l v S base (c:=c) (k:=k) (by omega);refine ⟨a++[fx vs g n l v S base k],b++fe vs g n l v S base k,?_,?_⟩
   ·rw [h1];simp
   ·rw [h2];simp
theorem zku (vs g:List (List Int)) (n l S base:Nat):z3a vs g n (l+1) S base=(((qOf vs g n l S:Nat):Int),((fo vs g n l (vs.getD (qOf vs g n l S) []) S base (z2j (vs.getD (qOf vs g n l S) []))).1,())) :: (fo vs g n l (vs.getD (qOf vs g n l S) []) S base (z2j (vs.getD (qOf vs g n l S) []))).2:=rfl
theorem z9t {vs g:List (List Int)} {n l S:Nat} (h:z6p vs g n l S=false):S≠0∧¬ z1q g n S.testBit=VV vs g n l S∧∃ k,l=k+1:=by
 simp only [z6p,Bool.or_eq_false_iff,decide_eq_false_iff_not] at h;refine ⟨h.1,h.2,?_⟩
 cases l with
 | zero=>exact absurd rfl h.2
 | succ k=>exact ⟨k,rfl⟩
theorem zg9 {vs:List (List Int)} {a b i:Nat} {c:z1b} (h:z4o vs a i c=true) (hab:a≤b):z4o vs b i c=true:=by
 simp only [z4o,zA,decide_eq_true_eq,List.all_eq_true] at h ⊢;refine ⟨h.1,fun z hz=>?_⟩;have:=h.2 z hz;simp only [zga,Bool.or_eq_true,zA,decide_eq_true_eq] at this ⊢;omega
theorem zn2 (vs g:List (List Int)) (n l S base:Nat):0 < (z3a vs g n (l+1) S base).length:=by rw [zku];simp
theorem zg0 {m:z1s} {n:Nat} (hm:MenuP m n) (g:List (List Int)):(l S base:Nat)->z6p m.2.1 g n l S=false->
  ∀ j c,(z3a m.2.1 g n l S base)[j]? = some c->z4o m.2.1 (base+(z3a m.2.1 g n l S base).length) (base+j) c=true
 | 0,S,base,h=>by
  obtain ⟨_,_,k,hk⟩:=z9t h
  omega
 | l+1,S,base,h=>by
  obtain ⟨h0,hne,_⟩:=z9t h;have hq:=zrw hne;obtain ⟨e1,hv⟩:=hm.at hq;have hqv:m.2.1.getD (qOf m.2.1 g n l S) []=z0b m (qOf m.2.1 g n l S):=rfl;rw [zku,hqv];generalize hvv:z0b m (qOf m.2.1 g n l S)=v at hv;have sub:∀ k j c,(fo m.2.1 g n l v S base k).2[j]? = some c->z4o m.2.1 (base+1+(fo m.2.1 g n l v S base k).2.length) (base+1+j) c=true:=by
   intro k
   induction k with
   | zero=>intro j c hj;simp [fo] at hj
   | succ k ih=>
    intro j c hj;rw [zxe] at hj ⊢;simp only [List.length_append];by_cases hlt:j < (fo m.2.1 g n l v S base k).2.length
    ·rw [List.getElem?_append_left hlt] at hj;exact zg9 (ih j c hj) (by omega)
    ·rw [List.getElem?_append_right (by omega)] at hj;unfold fe at hj ⊢;split at hj
     ·simp at hj
     ·rename_i hs;rw [if_neg hs];have:=zg0 hm g l _ (base+1+(fo m.2.1 g n l v S base k).2.length) (Bool.eq_false_iff.2 hs) _ c hj;rw [show base+1+(fo m.2.1 g n l v S base k).2.length+(j-(fo m.2.1 g n l v S base k).2.length)=base+1+j by omega] at this;exact zg9 this (by omega)
  intro j c hj
  cases j with
  | zero=>
   simp only [List.getElem?_cons_zero,zI] at hj;subst hj;simp only [z4o,zA,decide_eq_true_eq,List.all_eq_true,Int.toNat_natCast,hqv,hvv,zjl,List.length_cons];refine ⟨⟨⟨by omega,by omega⟩,trivial⟩,fun z hz=>?_⟩;obtain ⟨d,hd,rfl⟩:=List.mem_iff_getElem.1 hz;rw [zjl] at hd;obtain ⟨a,b,h1,h2⟩:=zf4 m.2.1 g n l v S base hd;have hg:(fo m.2.1 g n l v S base (z2j v)).1[d]'(by rw [zjl];exact hd)=fx m.2.1 g n l v S base d:=by
    have:(fo m.2.1 g n l v S base (z2j v)).1[d]? = some (fx m.2.1 g n l v S base d):=by
     rw [h1];have hl:=zjl m.2.1 g n l v S base d;rw [List.getElem?_append_right (by omega),hl];simp
    rw [List.getElem?_eq_getElem (by rw [zjl];exact hd)] at this;simpa using this
   rw [hg];simp only [zga,Bool.or_eq_true,zA,decide_eq_true_eq];unfold fx;split
   ·left;rfl
   ·rename_i hs;right;obtain ⟨_,_,k',hk'⟩:=z9t (Bool.eq_false_iff.2 hs);have hlen:(fo m.2.1 g n l v S base d).2.length < (fo m.2.1 g n l v S base (z2j v)).2.length:=by
     rw [h2];simp only [List.length_append];unfold fe;rw [if_neg hs,hk'];have:=zn2 m.2.1 g n k' (part v S d) (base+1+(fo m.2.1 g n (k'+1) v S base d).2.length);omega
    omega
  | succ j=>
   simp only [List.getElem?_cons_succ] at hj;have:=sub _ j c hj;simp only [List.length_cons];rw [show base+(j+1)=base+1+j by omega,show base+((fo m.2.1 g n l v S base (z2j v)).2.length+1)=base+1+(fo m.2.1 g n l v S base (z2j v)).2.length by omega];exact this
theorem ztg {m:z1s} {n:Nat} (hm:MenuP m n) (g:List (List Int)) (k:Int):zhy m.2.1 (zdo m g n k):=by
 intro i hi;unfold zdo at hi ⊢;by_cases hst:z1q g n (z3v n).testBit=VV m.2.1 g n k.toNat (z3v n)
 ·simp only [if_pos hst] at hi;simp at hi
 ·simp only [if_neg hst] at hi ⊢;have h2:2 ^ 1≤2 ^ n:=Nat.pow_le_pow_right (by omega) hm.pos;have h3:z3v n=2 ^ n-1:=rfl;have:=zg0 hm g k.toNat (z3v n) 0 (by simp [z6p,hst];omega) i _ (List.getElem?_eq_getElem hi);simpa using this
def AtL (st:List z1b) (base:Nat) (L:List z1b):Prop:=∀ j c,L[j]? = some c->st[base+j]? = some c
theorem zs0 {m:z1s} {n:Nat} (hm:MenuP m n) (g:List (List Int)):(l S base:Nat)->(st:List z1b)->(k:Nat)->S < 2 ^ n->z6p m.2.1 g n l S=false->AtL st base (z3a m.2.1 g n l S base)->l≤k->
  (∀ s,s < n->S.testBit s=true->(zbk m.2.1 st k (base:Int) s).length≤l)∧WW g n S.testBit (zbk m.2.1 st k (base:Int))=VV m.2.1 g n l S
 | 0,S,base,st,k,_,h,_,_=>by
  obtain ⟨_,_,k,hk⟩:=z9t h
  omega
 | l+1,S,base,st,k,hS,h,hat,hk=>by
  obtain ⟨k,rfl⟩:∃ j,k=j+1:=⟨k-1,by omega⟩;obtain ⟨h0,hne,_⟩:=z9t h;have hq:=zrw hne;have hqs:=zw0 hq;obtain ⟨e1,hv⟩:=hm.at hq;have hqv:m.2.1.getD (qOf m.2.1 g n l S) []=z0b m (qOf m.2.1 g n l S):=rfl;rw [zku,hqv] at hat;rw [hqv] at hqs;generalize hvv:z0b m (qOf m.2.1 g n l S)=v at *;have hnode:st[base]? = some (((qOf m.2.1 g n l S:Nat):Int),((fo m.2.1 g n l v S base (z2j v)).1,())):=by
   have:=hat 0 _ rfl;simpa using this
  have hneg:¬ ((base:Int) < 0):=by omega
  have hrun:∀ s,zbk m.2.1 st (k+1) (base:Int) s=(((qOf m.2.1 g n l S:Nat):Int),(v.getD s 0,())) :: zbk m.2.1 st k ((fo m.2.1 g n l v S base (z2j v)).1.getD (v.getD s 0).toNat (-1)) s:=by
   intro s;simp only [zbk,if_neg hneg,Int.toNat_natCast,hnode,hqv,hvv]
  have hfx:∀ c,c < z2j v->(fo m.2.1 g n l v S base (z2j v)).1.getD c (-1)=fx m.2.1 g n l v S base c:=by
   intro c hc;obtain ⟨a,b,h1,h2⟩:=zf4 m.2.1 g n l v S base hc;have hl:=zjl m.2.1 g n l v S base c;rw [h1,List.getD_eq_getElem?_getD,List.getElem?_append_right (by omega),hl];simp
  have hcls:∀ c s,s < n->(part v S c).testBit s=true->(v.getD s 0).toNat=c∧S.testBit s=true:=by
   intro c s hsn hb;rw [z48 hv S c hsn] at hb;simp only [zA,decide_eq_true_eq] at hb;exact ⟨hb.2,hb.1⟩
  have hsub:∀ c,c < z2j v->z6p m.2.1 g n l (part v S c)=false->(∀ s,s < n->(part v S c).testBit s=true->(zbk m.2.1 st k (fx m.2.1 g n l v S base c) s).length≤l)∧WW g n (part v S c).testBit (zbk m.2.1 st k (fx m.2.1 g n l v S base c))=VV m.2.1 g n l (part v S c):=by
   intro c hc hs;have hfe:fx m.2.1 g n l v S base c=((base+1+(fo m.2.1 g n l v S base c).2.length:Nat):Int):=by simp [fx,hs]
   rw [hfe];refine zs0 hm g l (part v S c) (base+1+(fo m.2.1 g n l v S base c).2.length) st k (zeu hv S c) hs ?_ (by omega);intro j x hj;obtain ⟨a,b,h1,h2⟩:=zf4 m.2.1 g n l v S base hc;have:=hat ((fo m.2.1 g n l v S base c).2.length+j+1) x (by
    rw [List.getElem?_cons_succ,h2,List.append_assoc,List.getElem?_append_right (by omega),Nat.add_sub_cancel_left];have hfe2:fe m.2.1 g n l v S base c=z3a m.2.1 g n l (part v S c) (base+1+(fo m.2.1 g n l v S base c).2.length):=by simp [fe,hs]
    rw [hfe2,List.getElem?_append_left]
    ·exact hj
    ·exact (List.getElem?_eq_some_iff.1 hj).1)
   rw [←this];congr 1;omega
  have hstop:∀ c s,z6p m.2.1 g n l (part v S c)=true->zbk m.2.1 st k (fx m.2.1 g n l v S base c) s=[]:=by
   intro c s hs;have hfe:fx m.2.1 g n l v S base c = -1:=by simp [fx,hs]
   rw [hfe]
   cases k with
   | zero=>rfl
   | succ k=>simp [zbk]
  constructor
  ·intro s hs hb;have hc:=ztd hv hs;rw [hrun,hfx _ hc,List.length_cons]
   cases hst:z6p m.2.1 g n l (part v S (v.getD s 0).toNat) with
   | true=>rw [hstop _ s hst];simp
   | false=>
    have:=(hsub _ hc hst).1 s hs (by rw [z48 hv S _ hs,hb];simp);omega
  ·rw [zff g hv S _ (fun r s _ _ _ _ he=>by
    rw [hrun,hrun] at he;simp only [List.cons.injEq,Prod.mk.injEq] at he;exact he.1.2.1),←hqs]
   refine zcx fun c hc hp=>?_
   have hw:WW g n (part v S c).testBit (zbk m.2.1 st (k+1) (base:Int))=WW g n (part v S c).testBit (zbk m.2.1 st k (fx m.2.1 g n l v S base c)):=by
    refine zad g (fun _ _=>rfl) fun r s hr hsn b1 b2=>?_
    obtain ⟨c1,_⟩:=hcls c r hr b1;obtain ⟨c2,_⟩:=hcls c s hsn b2;have e:v.getD r 0=v.getD s 0:=by have:=zhl hv hr;have:=zhl hv hsn;omega
    rw [hrun,hrun,c1,c2,hfx _ hc,e];simp
   rw [hw]
   cases hst:z6p m.2.1 g n l (part v S c) with
   | true=>
    rw [zcq g (fun r s _ _ _ _=>by rw [hstop c r hst,hstop c s hst])];simp only [z6p,Bool.or_eq_true,decide_eq_true_eq] at hst
    exact hst.resolve_left hp
   | false=>exact (hsub c hc hst).2
end Go.Kz
