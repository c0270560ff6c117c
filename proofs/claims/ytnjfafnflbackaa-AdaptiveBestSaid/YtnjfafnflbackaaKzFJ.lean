/-
  The layer adaptive: the planned strategy; its table is accepted; plain laws.
-/
import Derived.Test.YtnjfafnflbackaaKzFI
set_option linter.unusedVariables false
set_option linter.unusedSimpArgs false
namespace Go.Kz
def fo (vs g:List (List Int)) (n l:Nat) (v:List Int) (S base k:Nat):List Int×List z1c:=(List.range k).foldl (z2p vs g n l (z3j vs g n l) v S base) ([],[])
def fx (vs g:List (List Int)) (n l:Nat) (v:List Int) (S base k:Nat):Int:=if z85 vs g n l (part v S k) then -1 else ((base+1+(fo vs g n l v S base k).2.length:Nat):Int)
def fe (vs g:List (List Int)) (n l:Nat) (v:List Int) (S base k:Nat):List z1c:=if z85 vs g n l (part v S k) then [] else z3j vs g n l (part v S k) (base+1+(fo vs g n l v S base k).2.length)
theorem zqs (vs g:List (List Int)) (n l:Nat) (v:List Int) (S base k:Nat):fo vs g n l v S base (k+1)=((fo vs g n l v S base k).1++[fx vs g n l v S base k],(fo vs g n l v S base k).2++fe vs g n l v S base k):=by
 have h:fo vs g n l v S base (k+1)=z2p vs g n l (z3j vs g n l) v S base (fo vs g n l v S base k) k:=by
  simp only [fo,List.range_succ,List.foldl_append,List.foldl_cons,List.foldl_nil]
 rw [h];unfold z2p fx fe;split <;> simp
theorem zje (vs g:List (List Int)) (n l:Nat) (v:List Int) (S base k:Nat):(fo vs g n l v S base k).1.length=k:=zlc ..
theorem zsl (vs g:List (List Int)) (n l:Nat) (v:List Int) (S base:Nat) {c:Nat}:{k:Nat}->c < k->∃ a b,(fo vs g n l v S base k).1=(fo vs g n l v S base c).1++fx vs g n l v S base c :: a∧(fo vs g n l v S base k).2=(fo vs g n l v S base c).2++fe vs g n l v S base c++b
 | k+1,h=>by
  rw [zqs];by_cases he:c=k
  ·subst he;exact ⟨[],[],rfl,by simp⟩
  ·obtain ⟨a,b,h1,h2⟩:=zsl vs g n l v S base (c:=c) (k:=k) (by omega);refine ⟨a++[fx vs g n l v S base k],b++fe vs g n l v S base k,?_,?_⟩
   ·rw [h1];simp
   ·rw [h2];simp
theorem zko (vs g:List (List Int)) (n l S base:Nat):z3j vs g n (l+1) S base=(((qOf vs g n l S:Nat):Int),((fo vs g n l (vs.getD (qOf vs g n l S) []) S base (z2f (vs.getD (qOf vs g n l S) []))).1,())) :: (fo vs g n l (vs.getD (qOf vs g n l S) []) S base (z2f (vs.getD (qOf vs g n l S) []))).2:=rfl
theorem zke {vs g:List (List Int)} {n l S:Nat} (h:z85 vs g n l S=false):S≠0∧¬ z1m g n S.testBit=VV vs g n l S∧∃ k,l=k+1:=by
 simp only [z85,Bool.or_eq_false_iff,decide_eq_false_iff_not] at h;refine ⟨h.1,h.2,?_⟩
 cases l with
 | zero=>exact absurd rfl h.2
 | succ k=>exact ⟨k,rfl⟩
theorem zfu {vs:List (List Int)} {a b i:Nat} {c:z1c} (h:ze0 vs a i c=true) (hab:a≤b):ze0 vs b i c=true:=by
 simp only [ze0,zA,decide_eq_true_eq,List.all_eq_true] at h ⊢;refine ⟨h.1,fun z hz=>?_⟩;have:=h.2 z hz;simp only [zs8,Bool.or_eq_true,zA,decide_eq_true_eq] at this ⊢;omega
theorem zvy (vs g:List (List Int)) (n l S base:Nat):0 < (z3j vs g n (l+1) S base).length:=by rw [zko];simp
theorem zfn {m:z1i} {n:Nat} (hm:MenuP m n) (g:List (List Int)):(l S base:Nat)->z85 m.2.1 g n l S=false->
  ∀ j c,(z3j m.2.1 g n l S base)[j]? = some c->ze0 m.2.1 (base+(z3j m.2.1 g n l S base).length) (base+j) c=true
 | 0,S,base,h=>by
  obtain ⟨_,_,k,hk⟩:=zke h
  omega
 | l+1,S,base,h=>by
  obtain ⟨h0,hne,_⟩:=zke h;have hq:=zrr hne;obtain ⟨e1,hv⟩:=hm.at hq;have hqv:m.2.1.getD (qOf m.2.1 g n l S) []=z05 m (qOf m.2.1 g n l S):=rfl;rw [zko,hqv];generalize hvv:z05 m (qOf m.2.1 g n l S)=v at hv;have sub:∀ k j c,(fo m.2.1 g n l v S base k).2[j]? = some c->ze0 m.2.1 (base+1+(fo m.2.1 g n l v S base k).2.length) (base+1+j) c=true:=by
   intro k
   induction k with
   | zero=>intro j c hj;simp [fo] at hj
   | succ k ih=>
    intro j c hj;rw [zqs] at hj ⊢;simp only [List.length_append];by_cases hlt:j < (fo m.2.1 g n l v S base k).2.length
    ·rw [List.getElem?_append_left hlt] at hj;exact zfu (ih j c hj) (by omega)
    ·rw [List.getElem?_append_right (by omega)] at hj;unfold fe at hj ⊢;split at hj
     ·simp at hj
     ·rename_i hs;rw [if_neg hs];have:=zfn hm g l _ (base+1+(fo m.2.1 g n l v S base k).2.length) (Bool.eq_false_iff.2 hs) _ c hj;rw [show base+1+(fo m.2.1 g n l v S base k).2.length+(j-(fo m.2.1 g n l v S base k).2.length)=base+1+j by omega] at this;exact zfu this (by omega)
  intro j c hj
  cases j with
  | zero=>
   simp only [List.getElem?_cons_zero,zI] at hj;subst hj;simp only [ze0,zA,decide_eq_true_eq,List.all_eq_true,Int.toNat_natCast,hqv,hvv,zje,List.length_cons];refine ⟨⟨⟨by omega,by omega⟩,trivial⟩,fun z hz=>?_⟩;obtain ⟨d,hd,rfl⟩:=List.mem_iff_getElem.1 hz;rw [zje] at hd;obtain ⟨a,b,h1,h2⟩:=zsl m.2.1 g n l v S base hd;have hg:(fo m.2.1 g n l v S base (z2f v)).1[d]'(by rw [zje];exact hd)=fx m.2.1 g n l v S base d:=by
    have:(fo m.2.1 g n l v S base (z2f v)).1[d]? = some (fx m.2.1 g n l v S base d):=by
     rw [h1];have hl:=zje m.2.1 g n l v S base d;rw [List.getElem?_append_right (by omega),hl];simp
    rw [List.getElem?_eq_getElem (by rw [zje];exact hd)] at this;simpa using this
   rw [hg];simp only [zs8,Bool.or_eq_true,zA,decide_eq_true_eq];unfold fx;split
   ·left;rfl
   ·rename_i hs;right;obtain ⟨_,_,k',hk'⟩:=zke (Bool.eq_false_iff.2 hs);have hlen:(fo m.2.1 g n l v S base d).2.length < (fo m.2.1 g n l v S base (z2f v)).2.length:=by
     rw [h2];simp only [List.length_append];unfold fe;rw [if_neg hs,hk'];have:=zvy m.2.1 g n k' (part v S d) (base+1+(fo m.2.1 g n (k'+1) v S base d).2.length);omega
    omega
  | succ j=>
   simp only [List.getElem?_cons_succ] at hj;have:=sub _ j c hj;simp only [List.length_cons];rw [show base+(j+1)=base+1+j by omega,show base+((fo m.2.1 g n l v S base (z2f v)).2.length+1)=base+1+(fo m.2.1 g n l v S base (z2f v)).2.length by omega];exact this
theorem bestS_ok {m:z1i} {n:Nat} (hm:MenuP m n) (g:List (List Int)) (k:Int):zyf m.2.1 (zhd m g n k):=by
 intro i hi;unfold zhd at hi ⊢;by_cases hst:z1m g n (z6u n).testBit=VV m.2.1 g n k.toNat (z6u n)
 ·simp only [if_pos hst] at hi;simp at hi
 ·simp only [if_neg hst] at hi ⊢;have h2:2 ^ 1≤2 ^ n:=Nat.pow_le_pow_right (by omega) hm.pos;have h3:z6u n=2 ^ n-1:=rfl;have:=zfn hm g k.toNat (z6u n) 0 (by simp [z85,hst];omega) i _ (List.getElem?_eq_getElem hi);simpa using this
end Go.Kz
