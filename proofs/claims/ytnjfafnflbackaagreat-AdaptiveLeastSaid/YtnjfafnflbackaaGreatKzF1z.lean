/-
  The layer adaptive: lists and their classes, plain laws.
-/
import Derived.Test.YtnjfafnflbackaaGreatKzP43Ze
import Derived.Test.YtnjfafnflbackaaGreatKzAR
set_option linter.unusedVariables false
set_option linter.unusedSimpArgs false
namespace Go.Kz
theorem f13_eq (N:Nat) (a b:List Int) (hN:a.length < N) (hl:a.length < 4294967296):f13 N a b=some (decide (a=b)):=by
 unfold f13;by_cases hlen:a.length=b.length
 ·have e1:(!decide (len a=len b))=false:=by simp [len,hlen]
  rw [e1,cond_false];refine z2r (fun x:Int=>∃ k:Nat,x=k∧k≤a.length∧∀ j,j < k->a[j]? = b[j]?) (fun x=>a.length-x.toNat) ?_ N 0 ⟨0,rfl,by omega,by intro j hj;omega⟩ (by simpa using hN);rintro x w ⟨k,rfl,hk,hpre⟩ hw;simp only [zq4];by_cases hlt:k < a.length
  ·have e2:decide ((k:Int) < len a)=true:=by simp [len,hlt]
   rw [e2,cond_true,z0s hlt,z0s (l:=b) (by omega)];simp only [Option.bind_some];by_cases he:a[k]=b[k]'(by omega)
   ·rw [z0c (by omega) (by omega)];simp only [he,decide_true,Bool.not_true,cond_false];refine hw _ ⟨k+1,by omega,by omega,fun j hj=>?_⟩ (by simp;omega);by_cases hjk:j=k
    ·subst hjk;rw [List.getElem?_eq_getElem hlt,List.getElem?_eq_getElem (by omega),he]
    ·exact hpre j (by omega)
   ·have hne:a≠b:=by intro h;subst h;exact he rfl
    simp [he,hne]
  ·have e2:decide ((k:Int) < len a)=false:=by simp [len];omega
   rw [e2,cond_false];have:a=b:=by
    apply List.ext_getElem?;intro j;by_cases hj:j < k
    ·exact hpre j hj
    ·rw [List.getElem?_eq_none (by omega),List.getElem?_eq_none (by omega)]
   simp [this]
 ·have e1:(!decide (len a=len b))=true:=by simp [len];omega
  have hne:a≠b:=by intro h;subst h;exact hlen rfl
  rw [e1,cond_true];simp [hne]
def z49:Int->List Int->Bool
 | _,[]=>true
 | n,c :: l=>decide (0≤c) && decide (c≤n) && z49 (max n (c+1)) l
def okP (p:List Int):Bool:=z49 0 p
theorem f52_eq (N:Nat) (p:List Int) (hN:p.length < N) (hl:p.length < 4294967296):f52 N p=some (okP p):=by
 unfold f52;refine z2r (fun x:Int×Int=>∃ k:Nat,x.1=k∧k≤p.length∧0≤x.2∧x.2≤k∧okP p=z49 x.2 (p.drop k)) (fun x=>p.length-x.1.toNat) ?_ N (0,0) ⟨0,rfl,by omega,by simp,by simp,by simp [okP]⟩ (by simpa using hN);rintro ⟨i,n⟩ w ⟨k,hi,hk,hn0,hnk,heq⟩ hw;simp only at hi hn0 hnk heq;subst hi;simp only [zpu];by_cases hlt:k < p.length
 ·have e2:decide ((k:Int) < len p)=true:=by simp [len,hlt]
  rw [e2,cond_true,z0s hlt];simp only [Option.bind_some];rw [List.drop_eq_getElem_cons hlt] at heq;simp only [z49] at heq;by_cases h0:p[k] < 0
  ·have:¬ (0≤p[k]):=by omega
   simp [h0,heq,this]
  ·by_cases h1:n < p[k]
   ·have h2:¬ (p[k]≤n):=by omega
    simp [h0,h1,heq,h2]
   ·have e3:decide (0≤p[k])=true:=by simp;omega
    have e4:decide (p[k]≤n)=true:=by simp;omega
    rw [e3,e4] at heq;simp only [h0,h1,decide_false,cond_false,Option.bind_some];rw [z0c (by omega) (by omega),z0c (by omega) (by omega)];have hm:zky n (p[k]+1)=max n (p[k]+1):=by simp only [zky];split <;> omega
    rw [hm];exact hw _ ⟨k+1,by simp,by omega,by simp only;omega,by simp only;omega,by simpa using heq⟩ (by simp;omega)
 ·have e2:decide ((k:Int) < len p)=false:=by simp [len];omega
  rw [e2,cond_false,heq,List.drop_eq_nil_of_le (by omega)];rfl
theorem zq1 (N:Nat) (p:List Int) (hN:p.length < N) (hl:p.length < 4294967296):f28 N p=some (okP p):=by
 unfold f28;refine z2r (fun x:Int×Int=>∃ k:Nat,x.1=k∧k≤p.length∧0≤x.2∧x.2≤k∧okP p=z49 x.2 (p.drop k)) (fun x=>p.length-x.1.toNat) ?_ N (0,0) ⟨0,rfl,by omega,by simp,by simp,by simp [okP]⟩ (by simpa using hN);rintro ⟨i,n⟩ w ⟨k,hi,hk,hn0,hnk,heq⟩ hw;simp only at hi hn0 hnk heq;subst hi;simp only [zq2];by_cases hlt:k < p.length
 ·have e2:decide ((k:Int) < len p)=true:=by simp [len,hlt]
  rw [e2,cond_true,z0s hlt];simp only [Option.bind_some];rw [List.drop_eq_getElem_cons hlt] at heq;simp only [z49] at heq;by_cases h0:p[k] < 0
  ·have:¬ (0≤p[k]):=by omega
   simp [h0,heq,this]
  ·by_cases h1:n < p[k]
   ·have h2:¬ (p[k]≤n):=by omega
    simp [h0,h1,heq,h2]
   ·have e3:decide (0≤p[k])=true:=by simp;omega
    have e4:decide (p[k]≤n)=true:=by simp;omega
    rw [e3,e4] at heq;simp only [h0,h1,decide_false,cond_false,Option.bind_some];by_cases he:p[k]=n
    ·rw [z0c (by omega) (by omega),z0c (by omega) (by omega)];simp only [he,decide_true,cond_true];have hm:n+1=max n (p[k]+1):=by omega
     exact hw _ ⟨k+1,by simp,by omega,by simp only;omega,by simp only;omega,by rw [hm];simpa using heq⟩ (by simp;omega)
    ·rw [z0c (by omega) (by omega)];simp only [he,decide_false,cond_false];have hm:n=max n (p[k]+1):=by omega
     rw [←hm] at heq;exact hw _ ⟨k+1,by simp,by omega,by simp only;omega,by simp only;omega,by simpa using heq⟩ (by simp;omega)
 ·have e2:decide ((k:Int) < len p)=false:=by simp [len];omega
  rw [e2,cond_false,heq,List.drop_eq_nil_of_le (by omega)];rfl
def z7i {α:Type} [DecidableEq α]:List α->List α->List α
 | acc,[]=>acc
 | acc,x :: l=>if x∈acc then z7i acc l else z7i (acc++[x]) l
def z4y {α:Type} [DecidableEq α] (x:α):List α->Nat
 | []=>0
 | y :: l=>if y=x then 0 else z4y x l+1
def zd5 {α:Type} [DecidableEq α]:List α->List α->List Int
 | _,[]=>[]
 | acc,x :: l=>if x∈acc then (z4y x acc:Int) :: zd5 acc l else (acc.length:Int) :: zd5 (acc++[x]) l
def ofL {α:Type} [DecidableEq α] (l:List α):List Int:=zd5 [] l
theorem z94 {α:Type} [DecidableEq α] {x:α}:{l:List α}->x∈l->z4y x l < l.length
 | y :: l,h=>by
  simp only [z4y];split
  ·simp
  ·rename_i hne;have:x∈l:=by
    rcases List.mem_cons.1 h with rfl | h
    ·exact absurd rfl hne
    ·exact h
   have:=z94 this;simp only [List.length_cons];omega
theorem z63 {α:Type} [DecidableEq α] {x:α}:{l m:List α}->x∈l->z4y x (l++m)=z4y x l
 | y :: l,m,h=>by
  simp only [List.cons_append,z4y];split
  ·rfl
  ·rename_i hne;have:x∈l:=by
    rcases List.mem_cons.1 h with rfl | h
    ·exact absurd rfl hne
    ·exact h
   rw [z63 this]
theorem zel {α:Type} [DecidableEq α] {x:α}:{l:List α}->x∉l->z4y x (l++[x])=l.length
 | [],_=>by simp [z4y]
 | y :: l,h=>by
  have h1:y≠x:=by intro he;subst he;simp at h
  have h2:x∉l:=by intro hm;exact h (by simp [hm])
  simp only [List.cons_append,z4y,if_neg h1,zel h2,List.length_cons]
def zey:List Int->Int->List (Int×Int)
 | [],_=>[]
 | x :: l,n=>(x,n) :: zey l (n+1)
theorem zkz (l:List Int) (n:Int):(zey l n).length=l.length:=by
 induction l generalizing n with
 | nil=>rfl
 | cons x l ih=>simp [zey,ih]
theorem zh5 (x:Int):(l:List Int)->(n:Int)->z80 (z2t (.int .i64)) (zey l n) x=if x∈l then some (n+z4y x l) else none
 | [],n=>rfl
 | y :: l,n=>by
  simp only [zey,z80,z2t,z4y];by_cases h:x=y
  ·subst h;simp
  ·have h2:¬ y=x:=fun e=>h e.symm
   simp only [h,decide_false,cond_false,List.mem_cons,false_or,zh5 x l (n+1),if_neg h2];split
   ·congr 1;push_cast;omega
   ·rfl
theorem zh4 (x:Int):(l:List Int)->(n:Int)->x∉l->zb1 (z2t (.int .i64)) (zey l n) x (n+l.length)=zey (l++[x]) n
 | [],n,_=>by simp [zey,zb1]
 | y :: l,n,h=>by
  have h1:¬ x=y:=by intro he;subst he;simp at h
  have h2:x∉l:=by intro hm;exact h (by simp [hm])
  have:=zh4 x l (n+1) h2;simp only [zey,zb1,z2t,h1,decide_false,cond_false,List.cons_append,List.length_cons];rw [←this];congr 2;push_cast;omega
theorem zza (N:Nat) (l:List Int) (hN:l.length < N) (hl:l.length < 4294967296):f65 N l=some (ofL l):=by
 unfold f65;rw [z0x (by rw [show ((z31:Nat):Int)=4294967296 from rfl];simp [len];omega)];refine z2r (fun x:Int×List Int×List (Int×Int)=>∃ (k:Nat) (acc:List Int),x.1=k∧k≤l.length∧x.2.2=zey acc 0∧acc.length≤k∧x.2.1.length=k∧ofL l=x.2.1++zd5 acc (l.drop k)) (fun x=>l.length-x.1.toNat) ?_ N _
  ⟨0,[],rfl,by omega,rfl,by simp,by simp,by simp [ofL]⟩ (by simpa using hN)
 rintro ⟨i,out,m⟩ w ⟨k,acc,hi,hk,hm,hacc,hout,heq⟩ hw;simp only at hi hm hout heq;subst hi;subst hm;simp only [zpt];by_cases hlt:k < l.length
 ·have e2:decide ((k:Int) < len l)=true:=by simp [len,hlt]
  rw [e2,cond_true,z0s hlt];simp only [Option.bind_some];rw [List.drop_eq_getElem_cons hlt] at heq;simp only [zd5] at heq;rw [zh5];by_cases hmem:l[k]∈acc
  ·rw [if_pos hmem] at heq;simp only [if_pos hmem,Option.isSome_some,Bool.not_true,cond_false];rw [z0x (by simp [z31];omega),z0c (by omega) (by omega)];refine hw _ ⟨k+1,acc,by simp,by omega,rfl,by omega,by simp [hout],?_⟩ (by simp;omega);simp only [Option.getD_some,Int.zero_add,List.append_assoc,List.singleton_append];exact heq
  ·rw [if_neg hmem] at heq;simp only [if_neg hmem,Option.isSome_none,Bool.not_false,cond_true];rw [z0x (by simp [z31,zkz];omega),z0x (by simp [z31];omega),z0c (by omega) (by omega)];have hp:=zh4 l[k] acc 0 hmem;rw [Int.zero_add] at hp;have hlen:len (zey acc 0)=(acc.length:Int):=by simp [len,zkz]
   rw [hlen,hp];refine hw _ ⟨k+1,acc++[l[k]],by simp,by omega,rfl,by simp;omega,by simp [hout],?_⟩ (by simp;omega);simp only [List.append_assoc,List.singleton_append];exact heq
 ·have e2:decide ((k:Int) < len l)=false:=by simp [len];omega
  rw [e2,cond_false,heq,List.drop_eq_nil_of_le (by omega)];simp [zd5]
theorem zaf {α:Type} [DecidableEq α]:(acc l:List α)->(zd5 acc l).length=l.length
 | _,[]=>rfl
 | acc,x :: l=>by simp only [zd5];split <;> simp [zaf _ l]
theorem z65 {α:Type} [DecidableEq α] {x:α}:{acc l:List α}->(x∈z7i acc l↔x∈acc∨x∈l)
 | acc,[]=>by simp [z7i]
 | acc,y :: l=>by
  simp only [z7i];split
  ·rename_i h;rw [z65];simp only [List.mem_cons];constructor
   ·rintro (h1 | h1)
    ·exact .inl h1
    ·exact .inr (.inr h1)
   ·rintro (h1 | rfl | h1)
    ·exact .inl h1
    ·exact .inl h
    ·exact .inr h1
  ·rw [z65];simp [or_assoc]
theorem zch {α:Type} [DecidableEq α]:(acc l m:List α)->zd5 acc (l++m)=zd5 acc l++zd5 (z7i acc l) m
 | _,[],_=>rfl
 | acc,x :: l,m=>by
  simp only [List.cons_append,zd5,z7i];split <;> simp [zch _ l m]
theorem zdo {α:Type} [DecidableEq α]:(acc l:List α)->∃ ys,z7i acc l=acc++ys
 | acc,[]=>⟨[],by simp [z7i]⟩
 | acc,x :: l=>by
  simp only [z7i];split
  ·exact zdo acc l
  ·obtain ⟨ys,h⟩:=zdo (acc++[x]) l;exact ⟨x :: ys,by rw [h];simp⟩
theorem za0 {α:Type} [DecidableEq α]:(acc l:List α)->(z7i acc l).length≤acc.length+l.length
 | acc,[]=>by simp [z7i]
 | acc,x :: l=>by
  simp only [z7i];split
  ·have:=za0 acc l;simp;omega
  ·have:=za0 (acc++[x]) l;simp at this ⊢;omega
theorem z9c {α:Type} [DecidableEq α]:(acc l:List α)->(j:Nat)->(h:j < l.length)->(zd5 acc l)[j]? = some ((z4y l[j] (z7i acc l):Nat):Int)
 | acc,x :: l,0,_=>by
  simp only [zd5,z7i,List.getElem_cons_zero];split
  ·rename_i hm;obtain ⟨ys,hy⟩:=zdo acc l;rw [hy,z63 hm];rfl
  ·rename_i hm;obtain ⟨ys,hy⟩:=zdo (acc++[x]) l
   rw [hy,z63 (by simp),zel hm];rfl
 | acc,x :: l,j+1,h=>by
  have h':j < l.length:=by simpa using h
  simp only [zd5,z7i,List.getElem_cons_succ];split
  ·simpa using z9c acc l j h'
  ·simpa using z9c (acc++[x]) l j h'
theorem zbz {α:Type} [DecidableEq α]:(acc l:List α)->z49 (acc.length:Int) (zd5 acc l)=true
 | _,[]=>rfl
 | acc,x :: l=>by
  simp only [zd5];split
  ·rename_i hm;have:=z94 hm;have hmx:max (acc.length:Int) ((z4y x acc:Int)+1)=acc.length:=by omega
   simp only [z49,hmx,zbz acc l,Bool.and_true,zA,decide_eq_true_eq];omega
  ·have hmx:max (acc.length:Int) ((acc.length:Int)+1)=((acc++[x]).length:Int):=by simp;omega
   simp only [z49,hmx,zbz (acc++[x]) l,Bool.and_true,zA,decide_eq_true_eq];omega
theorem zio {α:Type} [DecidableEq α] (l:List α):okP (ofL l)=true:=zbz [] l
def z6d (n:Nat):List Int:=(List.range n).map fun (i:Nat)=>(i:Int)
theorem z83 {n:Nat} {x:Int}:x∈z6d n↔0≤x∧x < n:=by
 simp only [z6d,List.mem_map,List.mem_range];constructor
 ·rintro ⟨i,hi,rfl⟩;omega
 ·rintro ⟨h0,h1⟩;exact ⟨x.toNat,by omega,by omega⟩
theorem z8w (n:Nat):z6d (n+1)=z6d n++[(n:Int)]:=by simp [z6d,List.range_succ]
theorem zne {n:Nat} {x:Int} (h0:0≤x) (h1:x < n):(z4y x (z6d n):Int)=x:=by
 induction n with
 | zero=>omega
 | succ n ih=>
  rw [z8w];by_cases hx:x=n
  ·subst hx;rw [zel (by rw [z83];omega)];simp [z6d]
  ·rw [z63 (by rw [z83];omega),ih (by omega)]
theorem zfr:(p:List Int)->(n:Nat)->(zd5 (z6d n) p=p↔z49 (n:Int) p=true)
 | [],n=>by simp [zd5,z49]
 | x :: p,n=>by
  simp only [zd5,z49];by_cases hx:0≤x∧x < n
  ·rw [if_pos (z83.2 hx),zne hx.1 hx.2];have hm:max (n:Int) (x+1)=n:=by omega
   have e1:decide (0≤x)=true:=by simp [hx.1]
   have e2:decide (x≤(n:Int))=true:=by simp;omega
   rw [hm,e1,e2];simp [zfr p n]
  ·rw [if_neg (fun h=>hx (z83.1 h))];have hl:((z6d n).length:Int)=n:=by simp [z6d]
   rw [hl];by_cases he:x=n
   ·subst he;have hm:max (n:Int) ((n:Int)+1)=((n+1:Nat):Int):=by omega
    rw [←z8w,hm];simp [zfr p (n+1)]
   ·have e:(decide (0≤x) && decide (x≤(n:Int)))=false:=by simp;omega
    rw [e];simp only [Bool.false_and,Bool.false_eq_true,iff_false];intro h;simp at h;exact he h.1.symm
theorem zc0 (p:List Int):ofL p=p↔okP p=true:=zfr p 0
def top:Int->List Int->Int
 | n,[]=>n
 | n,c :: l=>top (max n (c+1)) l
theorem zgf:(n:Int)->(a b:List Int)->top n (a++b)=top (top n a) b
 | _,[],_=>rfl
 | n,x :: a,b=>by simp only [List.cons_append,top,zgf _ a b]
theorem z7g:(n:Int)->(a b:List Int)->z49 n (a++b)=(z49 n a && z49 (top n a) b)
 | _,[],_=>by simp [z49,top]
 | n,x :: a,b=>by simp only [List.cons_append,z49,top,z7g _ a b,Bool.and_assoc]
theorem zam (q:List Int) (x:Int):top 0 (q++[x])=max (top 0 q) (x+1):=by rw [zgf];rfl
theorem zeq {q:List Int} {x:Int}:okP (q++[x])=true↔okP q=true∧0≤x∧x≤top 0 q:=by
 simp [okP,z7g,z49]
theorem z3e {q:List Int}:okP q=true->0≤top 0 q∧top 0 q≤q.length∧∀ c∈q,0≤c∧c < top 0 q:=by
 induction q using zek with
 | h0=>intro _;simp [top]
 | h1 q x ih=>
  intro h;obtain ⟨h1,h2,h3⟩:=zeq.1 h;obtain ⟨i1,i2,i3⟩:=ih h1;rw [zam];refine ⟨by omega,by simp;omega,?_⟩;intro c hc;rcases List.mem_append.1 hc with hc | hc
  ·have:=i3 c hc;omega
  ·simp only [List.mem_singleton] at hc;subst hc;omega
theorem znh {p:List Int} (h:okP p=true) (k:Nat):okP (p.take k)=true:=by
 have:=h;rw [←List.take_append_drop k p] at this;simp only [okP,z7g,zA] at this;exact this.1
theorem ok_at {p:List Int} (h:okP p=true) {k:Nat} (hk:k < p.length):0≤p[k]∧p[k]≤top 0 (p.take k):=by
 have:=znh h (k+1);rw [z27 hk] at this;exact (zeq.1 this).2
theorem zzg (N:Nat) (p:List Int) (hN:p.length < N) (hl:p.length < 4294967296) (hok:okP p=true):f32 N p=some (top 0 p):=by
 unfold f32;rw [zq1 N p hN hl,hok];simp only [Option.bind_some,Bool.not_true,cond_false];refine z2x (fun k s=>s=top 0 (p.take k)) p.length ?_ ?_ N hN 0 rfl
 ·intro k s w hk hs hw;subst hs;simp only [zll];have hq:=znh hok k;obtain ⟨b1,b2,b3⟩:=z3e hq;obtain ⟨a1,a2⟩:=ok_at hok hk;simp only [List.length_take] at b2;rw [z1p hk,cond_true,z0s hk];simp only [Option.bind_some];rw [z0c (by omega) (by omega),z0c (by omega) (by omega)];by_cases he:p[k]=top 0 (p.take k)
  ·rw [decide_eq_true he,cond_true];apply hw;rw [z27 hk,zam];omega
  ·rw [decide_eq_false he,cond_false];apply hw;rw [z27 hk,zam];omega
 ·intro s w hs;subst hs;simp only [zll];rw [z1e,cond_false,List.take_length]
section
variable {α β:Type} [DecidableEq α] [DecidableEq β]
theorem z57 (l:List α):(ofL l).length=l.length:=zaf [] l
theorem z6t {x:α}:{l:List α}->x∈l->l[z4y x l]? = some x
 | y :: l,h=>by
  simp only [z4y];split
  ·rename_i he;simp [he]
  ·rename_i hne;have:x∈l:=by
    rcases List.mem_cons.1 h with rfl | h
    ·exact absurd rfl hne
    ·exact h
   simpa using z6t this
theorem zki {x y:α} {l:List α} (hx:x∈l) (hy:y∈l) (h:z4y x l=z4y y l):x=y:=by
 have h1:=z6t hx;have h2:=z6t hy;rw [h,h2] at h1;simpa using h1.symm
theorem ztd {l:List α} {j:Nat} (h:j < l.length):(ofL l)[j]? = some ((z4y l[j] (z7i [] l):Nat):Int):=z9c [] l j h
theorem zpb {l:List α} {i j:Nat} (hi:i < l.length) (hj:j < l.length):(ofL l)[i]'(by rw [z57];exact hi)=(ofL l)[j]'(by rw [z57];exact hj)↔l[i]=l[j]:=by
 have h1:=ztd hi;have h2:=ztd hj;rw [List.getElem?_eq_getElem (by rw [z57];exact hi)] at h1;rw [List.getElem?_eq_getElem (by rw [z57];exact hj)] at h2;simp only [zI] at h1 h2;rw [h1,h2];constructor
 ·intro h;exact zki (l:=z7i [] l) (by rw [z65];right;exact List.getElem_mem hi) (by rw [z65];right;exact List.getElem_mem hj) (by omega)
 ·intro h;rw [h]
theorem zkh {f:α->β} {x:α}:{l:List α}->(∀ y∈l,f y=f x->y=x)->z4y (f x) (l.map f)=z4y x l
 | [],_=>rfl
 | y :: l,h=>by
  have ih:=zkh (f:=f) (x:=x) (l:=l) (fun z hz=>h z (by simp [hz]));simp only [List.map_cons,z4y];by_cases he:y=x
  ·simp [he]
  ·have:¬ f y=f x:=fun hf=>he (h y (by simp) hf)
   simp [he,this,ih]
theorem zjm {f:α->β}:(acc l:List α)->(∀ x∈acc++l,∀ y∈acc++l,f x=f y->x=y)->zd5 (acc.map f) (l.map f)=zd5 acc l
 | _,[],_=>rfl
 | acc,x :: l,h=>by
  simp only [List.map_cons,zd5];by_cases hm:x∈acc
  ·have h1:f x∈acc.map f:=List.mem_map.2 ⟨x,hm,rfl⟩;rw [if_pos hm,if_pos h1,zkh (fun y hy he=>h y (by simp [hy]) x (by simp) he),zjm acc l (fun a ha b hb=>h a (by simp at ha ⊢;rcases ha with ha | ha <;> simp [ha]) b (by simp at hb ⊢;rcases hb with hb | hb <;> simp [hb]))]
  ·have h1:f x∉acc.map f:=by
    intro hh;obtain ⟨y,hy,he⟩:=List.mem_map.1 hh;exact hm (by rw [←h y (by simp [hy]) x (by simp) he];exact hy)
   rw [if_neg hm,if_neg h1,List.length_map];have:=zjm (f:=f) (acc++[x]) l (fun a ha b hb=>h a (by simpa using ha) b (by simpa using hb));simp only [List.map_append,List.map_cons,List.map_nil] at this;rw [this]
theorem ztc {f:α->β} {l:List α} (h:∀ x∈l,∀ y∈l,f x=f y->x=y):ofL (l.map f)=ofL l:=zjm [] l (by simpa using h)
theorem z8e {l:List α} {m:List β} (hlen:l.length=m.length) (h:∀ i j (hi:i < l.length) (hj:j < l.length),l[i]=l[j]↔m[i]'(by omega)=m[j]'(by omega)):ofL l=ofL m:=by
 have hm:m.map some=l.map (fun x=>m[z4y x l]?):=by
  apply List.ext_getElem
  ·simp [hlen]
  ·intro j h1 h2;have hj:j < l.length:=by simpa using h2
   have hp:=z94 (List.getElem_mem hj);have hg:=z6t (List.getElem_mem hj);rw [List.getElem?_eq_getElem hp] at hg;simp only [zI] at hg;simp only [List.getElem_map];rw [List.getElem?_eq_getElem (by omega)];congr 1;exact ((h _ _ hp hj).1 hg).symm
 have h1:ofL (m.map some)=ofL m:=ztc (fun x _ y _ he=>by simpa using he);rw [←h1,hm];symm;apply ztc;intro x hx y hy he;have hpx:=z94 hx;have hpy:=z94 hy;have hgx:=z6t hx;have hgy:=z6t hy;rw [List.getElem?_eq_getElem hpx] at hgx;rw [List.getElem?_eq_getElem hpy] at hgy;simp only [zI] at hgx hgy;rw [List.getElem?_eq_getElem (by omega),List.getElem?_eq_getElem (by omega)] at he;simp only [zI] at he;rw [←hgx,←hgy];exact (h _ _ hpx hpy).2 he
end
end Go.Kz
