/-
  The layer adaptive: ProveLeast and the model's; the laws Depths and Hard.
-/
import Derived.Test.YtnjfafnflbackaaGreatKzFPz
set_option linter.unusedVariables false
set_option linter.unusedSimpArgs false
namespace Go.Kz
theorem zl4 {σ R:Type} {F:(Int×σ->Option R)->Int×σ->Option R} {α:Type} (s:Nat->σ) (l:List α) (p:α->Bool) (A B:Option R)
  (step:∀ (k:Nat) (w:Int×σ->Option R) (hk:k < l.length),F w ((k:Int),s k)=if p l[k] then w ((k:Int)+1,s (k+1)) else B)
  (last:∀ (w:Int×σ->Option R),F w ((l.length:Int),s l.length)=A) (N:Nat) (hN:l.length < N):iter F N (0,s 0)=if l.all p then A else B:=by
 refine z2x (fun k x=>x=s k∧(l.take k).all p=true) l.length ?_ ?_ N hN (s 0) ⟨rfl,by simp⟩
 ·rintro k x w hk ⟨hx,hi⟩ hw;subst hx;rw [step k w hk]
  cases hp:p l[k] with
  | true=>
   simp only [if_true]
   exact hw _ ⟨rfl,by rw [z27 hk,List.all_append,hi,List.all_cons,hp];rfl⟩
  | false=>
   simp only [Bool.false_eq_true,if_false];have:l.all p=false:=by
    rw [List.all_eq_false];exact ⟨l[k],List.getElem_mem hk,by simp [hp]⟩
   rw [this];rfl
 ·rintro x w ⟨hx,hi⟩;subst hx;rw [List.take_length] at hi;rw [last w,hi];rfl
theorem keyI (x y:Int):z2t (.int .i64) x y=decide (x=y):=rfl
def z5x (p:List Int) (S:Nat):Nat->Int
 | 0=>-1
 | k+1=>if S.testBit k then p.getD k 0 else z5x p S k
theorem zc7 {p:List Int} {S:Nat}:{k:Nat}->(∀ s,s < k->0≤p.getD s 0)->(z5x p S k < 0↔∀ s,s < k->S.testBit s=false)
 | 0,_=>by simp [z5x]
 | k+1,h=>by
  have ih:=zc7 (p:=p) (S:=S) (k:=k) fun s hs=>h s (by omega)
  simp only [z5x]
  cases hb:S.testBit k with
  | true=>
   have:=h k (by omega);simp only [if_true];constructor
   ·intro h2;omega
   ·intro h2;rw [h2 k (by omega)] at hb;exact absurd hb (by simp)
  | false=>
   simp only [Bool.false_eq_true,if_false];rw [ih];constructor
   ·intro h2 s hs;by_cases he:s=k
    ·subst he;exact hb
    ·exact h2 s (by omega)
   ·exact fun h2 s hs=>h2 s (by omega)
def oneC (p:List Int) (S k:Nat):Prop:=∀ r s,r < k->s < k->S.testBit r=true->S.testBit s=true->p.getD r 0=p.getD s 0
theorem zix {p:List Int} {S:Nat}:{k:Nat}->{s:Nat}->oneC p S k->s < k->S.testBit s=true->z5x p S k=p.getD s 0
 | k+1,s,h,hs,hb=>by
  simp only [z5x]
  cases hk:S.testBit k with
  | true=>simp only [if_true];exact h k s (by omega) hs hk hb
  | false=>
   simp only [Bool.false_eq_true,if_false];have hne:s≠k:=fun e=>by subst e;rw [hb] at hk;exact absurd hk (by simp)
   exact zix (fun r s hr hs=>h r s (by omega) (by omega)) (by omega) hb
theorem z84 {n S:Nat} {p:List Int}:z0e n S p=false↔oneC p S n:=by
 constructor
 ·exact fun h r s hr hs h1 h2=>z6r h hr hs h1 h2
 ·intro h
  cases hs:z0e n S p with
  | false=>rfl
  | true=>
   obtain ⟨r,s,h1,h2,h3,h4,h5⟩:=z5h hs;exact absurd (h r s h1 h2 h3 h4) h5
theorem z6u {p:List Int} {S k:Nat} (h:oneC p S k) (hp:∀ s,s < k->0≤p.getD s 0) (hc:S.testBit k=true->z5x p S k < 0∨p.getD k 0=z5x p S k):oneC p S (k+1):=by
 have key:∀ s,s < k->S.testBit s=true->S.testBit k=true->p.getD k 0=p.getD s 0:=by
  intro s hs hb hk;rcases hc hk with h1 | h1
  ·have:=(zc7 hp).1 h1 s hs;rw [hb] at this;exact absurd this (by simp)
  ·rw [h1];exact zix h hs hb
 intro r s hr hs h1 h2;by_cases e1:r=k
 ·by_cases e2:s=k
  ·rw [e1,e2]
  ·subst e1;exact key s (by omega) h2 h1
 ·by_cases e2:s=k
  ·subst e2;exact (key r (by omega) h1 h2).symm
  ·exact h r s (by omega) (by omega) h1 h2
theorem zte {p:List Int} {S k n:Nat} (hk:k < n) (hp:∀ s,s < k->0≤p.getD s 0) (h:oneC p S k) (hb:S.testBit k=true) (h0:¬ z5x p S k < 0) (h1:¬ p.getD k 0=z5x p S k):z0e n S p=true:=by
 cases hs:z0e n S p with
 | true=>rfl
 | false=>
  have ho:=z84.1 hs;have:∃ s,s < k∧S.testBit s=true:=by
   apply Classical.byContradiction;intro hno;apply h0;rw [zc7 hp];intro s hs
   cases hb:S.testBit s with
   | false=>rfl
   | true=>exact absurd ⟨s,hs,hb⟩ hno
  obtain ⟨s,hs,hbs⟩:=this;rw [zix h hs hbs] at h1;exact absurd (ho k s hk (by omega) hb hbs) h1
theorem zv4 (A k:Nat) (hA:A < 2 ^ 62) (hk:k < 64) :
  decide ((z0g (((((BitVec.ofInt 64 (Int.fdiv (A:Int) (Int.pow 2 (min (Int.toNat (k:Int)) 64)))).and (BitVec.ofInt 64 1)).toNat):Nat):Int))=0) = !A.testBit k:=by
 rw [←zmb A k hA hk];have h3:((BitVec.ofInt 64 (Int.fdiv (A:Int) (Int.pow 2 (min (Int.toNat (k:Int)) 64)))).and (BitVec.ofInt 64 1)).toNat < 2:=by
  show ((BitVec.ofInt 64 (Int.fdiv (A:Int) (Int.pow 2 (min (Int.toNat (k:Int)) 64)))) &&& (BitVec.ofInt 64 1)).toNat < 2;rw [BitVec.toNat_and];have h1:(BitVec.ofInt 64 1).toNat=1:=by decide
  rw [h1,Nat.and_one_is_mod];exact Nat.mod_lt _ (by omega)
 generalize ((BitVec.ofInt 64 (Int.fdiv (A:Int) (Int.pow 2 (min (Int.toNat (k:Int)) 64)))).and (BitVec.ofInt 64 1)).toNat=b at *;rw [z0c (by omega) (by omega)];rw [Bool.eq_iff_iff];simp only [decide_eq_true_eq,Bool.not_eq_true',decide_eq_false_iff_not];omega
theorem zzd (N:Nat) (hN:400 < N) {n:Nat} {p:List Int} (hp:View n p) (hn:n≤62) {S:Nat} (hS:S < 2 ^ 62):f53 N p (S:Int)=some (!z0e n S p):=by
 have hl:=hp.len;unfold f53;refine z2x (fun k t=>t=z5x p S k∧oneC p S k) n ?_ ?_ N (by omega) _ ⟨rfl,fun r s hr=>absurd hr (by omega)⟩
 ·rintro k t w hk ⟨ht,ho⟩ hw;subst ht;have hkp:k < p.length:=by omega
  have hnn:∀ s,s < k->0≤p.getD s 0:=fun s hs=>zd4 hp (by omega)
  have e0:decide ((k:Int) < 0)=false:=by simp
  have eg:p[k]=p.getD k 0:=by rw [List.getD_eq_getElem?_getD,List.getElem?_eq_getElem hkp];rfl
  simp only [zlg];rw [z1p hkp,cond_true,z0s hkp];simp only [Option.bind_some];rw [e0,cond_false,zv4 S k hS (by omega),z0c (n:=(k:Int)+1) (by omega) (by omega),eg]
  cases hb:S.testBit k with
  | false=>
   simp only [Bool.not_false,cond_true]
   exact hw _ ⟨by simp [z5x,hb],z6u ho hnn (fun h=>by rw [hb] at h;exact absurd h (by simp))⟩
  | true=>
   simp only [Bool.not_true,cond_false];by_cases h0:0≤z5x p S k
   ·rw [decide_eq_true h0];simp only [cond_true,Option.bind_some];by_cases h1:p.getD k 0=z5x p S k
    ·rw [decide_eq_true h1];simp only [Bool.not_true,cond_false];exact hw _ ⟨by simp only [z5x,hb,if_true],z6u ho hnn (fun _=>.inr h1)⟩
    ·rw [decide_eq_false h1];simp only [Bool.not_false,cond_true];rw [zte hk hnn ho hb (by omega) h1];rfl
   ·rw [decide_eq_false h0];simp only [cond_false,Option.bind_some];exact hw _ ⟨by simp only [z5x,hb,if_true],z6u ho hnn (fun _=>.inl (by omega))⟩
 ·rintro t w ⟨ht,ho⟩;simp only [zlg];rw [←hl,z1e,cond_false,hl,z84.2 ho];rfl
theorem zzi (N:Nat) (hN:400 < N) {m:z1m} {n:Nat} (hm:MenuP m n) {p:List Int} (hp:View n p) {S:Nat} (hS:S < 2 ^ 62):f29 N m p (S:Int)=some (!z0e n S p):=by
 have hl:=hp.len;have hn:=hm.few;unfold f29;rw [hm.secrets];refine z2x (fun k t=>t=z5x p S k∧oneC p S k) n ?_ ?_ N (by omega) _ ⟨rfl,fun r s hr=>absurd hr (by omega)⟩
 ·rintro k t w hk ⟨ht,ho⟩ hw;subst ht;have hkp:k < p.length:=by omega
  have hnn:∀ s,s < k->0≤p.getD s 0:=fun s hs=>zd4 hp (by omega)
  have eg:p[k]=p.getD k 0:=by rw [List.getD_eq_getElem?_getD,List.getElem?_eq_getElem hkp];rfl
  simp only [zlo];rw [dlt hk,cond_true,zzb N hS (by omega)];simp only [Option.bind_some];rw [z0c (n:=(k:Int)+1) (by omega) (by omega),z0s hkp,eg];simp only [Option.bind_some]
  cases hb:S.testBit k with
  | false=>
   simp only [cond_false]
   exact hw _ ⟨by simp [z5x,hb],z6u ho hnn (fun h=>by rw [hb] at h;exact absurd h (by simp))⟩
  | true=>
   simp only [cond_true];by_cases h0:0≤z5x p S k
   ·rw [decide_eq_true h0];simp only [cond_true,Option.bind_some];by_cases h1:p.getD k 0=z5x p S k
    ·rw [decide_eq_true h1.symm];simp only [Bool.not_true,cond_false];exact hw _ ⟨by simp only [z5x,hb,if_true],z6u ho hnn (fun _=>.inr h1)⟩
    ·rw [decide_eq_false (fun h=>h1 h.symm)];simp only [Bool.not_false,cond_true];rw [zte hk hnn ho hb (by omega) h1];rfl
   ·rw [decide_eq_false h0];simp only [cond_false,Option.bind_some];exact hw _ ⟨by simp only [z5x,hb,if_true],z6u ho hnn (fun _=>.inl (by omega))⟩
 ·rintro t w ⟨ht,ho⟩;simp only [zlo];rw [dnlt,cond_false,z84.2 ho];rfl
def zi1 (m:z1m):List Int:=z6d m.2.1.length
theorem zmg (m:z1m):(zi1 m).all (zck m)=true:=by
 rw [List.all_eq_true];intro q hq;have:=z83.1 hq;simp only [zck,zA,decide_eq_true_eq];exact this
theorem zmf (m:z1m):(zi1 m).map (fun q=>z3z m q)=m.2.1:=by
 apply List.ext_getElem
 ·simp [zi1,z6d]
 ·intro i h1 h2;simp [zi1,z6d,z3z,h2]
def z0v (m:z1m):List Int:=z1l m (zi1 m)
theorem f22_eq (N:Nat) (hN:5000 < N) {m:z1m} (hmk:z4a m=true):f22 N m=some (z0v m):=by
 have hm:=ztk hmk;have hv8:=hm.views;unfold f22;refine z2x (fun k o=>o=z6d k) m.2.1.length ?_ ?_ N (by omega) _ rfl
 ·intro k o w hk ho hw;subst ho;simp only [zlr];rw [z1p hk,cond_true,z5g (by simp [z6d];omega),z0c (by omega) (by omega)];exact hw _ (z8w k).symm
 ·intro o w ho;subst ho;simp only [zlr];rw [z1e,cond_false,f44_eq N (by omega) m _ (by simp [z6d];omega),hmk,show (z6d m.2.1.length).all (zck m)=true from zmg m];rfl
theorem f9_eq (N:Nat) (hN:5000 < N) {m:z1m} (hmk:z4a m=true):f9 N m=some (z0v m):=by
 have hm:=ztk hmk;have hv8:=hm.views;unfold f9;refine z2x (fun k o=>o=z6d k) m.2.1.length ?_ ?_ N (by omega) _ rfl
 ·intro k o w hk ho hw;subst ho;simp only [zua];rw [z1p hk,cond_true,z5g (by simp [z6d];omega),z0c (by omega) (by omega)];exact hw _ (z8w k).symm
 ·intro o w ho;subst ho;simp only [zua];rw [z1e,cond_false,f31_eq N hN hm (by simp [z6d];omega) (show (z6d m.2.1.length).all (zck m)=true from zmg m)];rfl
theorem za6 {m:z1m} {n:Nat} (hm:MenuP m n):View n (z0v m):=z7l hm _
def badH (t:List Hrd) (j:Nat):Bool:=decide (0 < j) && decide ((t.getD j (0,0,())).1≤(t.getD (j-1) (0,0,())).1)
def zk5 (t:List Hrd):Bool:=(List.range t.length).all fun j=>!badH t j
def zl1 (m:z1m) (t:List Hrd) (d:Int):Int:=
 if z4a m then
  if t.length≤4096 then
   if zk5 t then
    if t.all (zde m m.1.toNat (z0v m) t) then
     if d≤0∨∃ x∈t,x.1=(z2y m.1.toNat:Int)∧d≤x.2.1 then 0 else 13
    else 13
   else 10
  else 4
 else 1
end Go.Kz
