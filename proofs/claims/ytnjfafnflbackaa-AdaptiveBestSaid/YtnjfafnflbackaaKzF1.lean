/-
  The layer adaptive: lists and their classes, plain laws.
-/
import Derived.Test.YtnjfafnflbackaaKzP43z
import Derived.Test.YtnjfafnflbackaaKzAR
set_option linter.unusedVariables false
set_option linter.unusedSimpArgs false
namespace Go.Kz
theorem f27_eq (N:Nat) (a b:List Int) (hN:a.length < N) (hl:a.length < 4294967296):f27 N a b=some (decide (a=b)):=by
 unfold f27;by_cases hlen:a.length=b.length
 ·have e1:(!decide (len a=len b))=false:=by simp [len,hlen]
  rw [e1,cond_false];refine z34 (fun x:Int=>∃ k:Nat,x=k∧k≤a.length∧∀ j,j < k->a[j]? = b[j]?) (fun x=>a.length-x.toNat) ?_ N 0 ⟨0,rfl,by omega,by intro j hj;omega⟩ (by simpa using hN);rintro x w ⟨k,rfl,hk,hpre⟩ hw;simp only [zsy];by_cases hlt:k < a.length
  ·have e2:decide ((k:Int) < len a)=true:=by simp [len,hlt]
   rw [e2,cond_true,z0s hlt,z0s (l:=b) (by omega)];simp only [Option.bind_some];by_cases he:a[k]=b[k]'(by omega)
   ·rw [z07 (by omega) (by omega)];simp only [he,decide_true,Bool.not_true,cond_false];refine hw _ ⟨k+1,by omega,by omega,fun j hj=>?_⟩ (by simp;omega);by_cases hjk:j=k
    ·subst hjk;rw [List.getElem?_eq_getElem hlt,List.getElem?_eq_getElem (by omega),he]
    ·exact hpre j (by omega)
   ·have hne:a≠b:=by intro h;subst h;exact he rfl
    simp [he,hne]
  ·have e2:decide ((k:Int) < len a)=false:=by simp [len];omega
   rw [e2,cond_false];have:a=b:=by
    apply List.ext_getElem?;intro j;by_cases hj:j < k
    ·exact hpre j hj
    ·rw [List.getElem?_eq_none (by omega),List.getElem?_eq_none (by omega)]
   simp [this]
 ·have e1:(!decide (len a=len b))=true:=by simp [len];omega
  have hne:a≠b:=by intro h;subst h;exact hlen rfl
  rw [e1,cond_true];simp [hne]
def z40:Int->List Int->Bool
 | _,[]=>true
 | n,c :: l=>decide (0≤c) && decide (c≤n) && z40 (max n (c+1)) l
def okP (p:List Int):Bool:=z40 0 p
theorem zxj (N:Nat) (p:List Int) (hN:p.length < N) (hl:p.length < 4294967296):f80 N p=some (okP p):=by
 unfold f80;refine z34 (fun x:Int×Int=>∃ k:Nat,x.1=k∧k≤p.length∧0≤x.2∧x.2≤k∧okP p=z40 x.2 (p.drop k)) (fun x=>p.length-x.1.toNat) ?_ N (0,0) ⟨0,rfl,by omega,by simp,by simp,by simp [okP]⟩ (by simpa using hN);rintro ⟨i,n⟩ w ⟨k,hi,hk,hn0,hnk,heq⟩ hw;simp only at hi hn0 hnk heq;subst hi;simp only [zsr];by_cases hlt:k < p.length
 ·have e2:decide ((k:Int) < len p)=true:=by simp [len,hlt]
  rw [e2,cond_true,z0s hlt];simp only [Option.bind_some];rw [List.drop_eq_getElem_cons hlt] at heq;simp only [z40] at heq;by_cases h0:p[k] < 0
  ·have:¬ (0≤p[k]):=by omega
   simp [h0,heq,this]
  ·by_cases h1:n < p[k]
   ·have h2:¬ (p[k]≤n):=by omega
    simp [h0,h1,heq,h2]
   ·have e3:decide (0≤p[k])=true:=by simp;omega
    have e4:decide (p[k]≤n)=true:=by simp;omega
    rw [e3,e4] at heq;simp only [h0,h1,decide_false,cond_false,Option.bind_some];rw [z07 (by omega) (by omega),z07 (by omega) (by omega)];have hm:zsa n (p[k]+1)=max n (p[k]+1):=by simp only [zsa];split <;> omega
    rw [hm];exact hw _ ⟨k+1,by simp,by omega,by simp only;omega,by simp only;omega,by simpa using heq⟩ (by simp;omega)
 ·have e2:decide ((k:Int) < len p)=false:=by simp [len];omega
  rw [e2,cond_false,heq,List.drop_eq_nil_of_le (by omega)];rfl
theorem f67_eq (N:Nat) (p:List Int) (hN:p.length < N) (hl:p.length < 4294967296):f67 N p=some (okP p):=by
 unfold f67;refine z34 (fun x:Int×Int=>∃ k:Nat,x.1=k∧k≤p.length∧0≤x.2∧x.2≤k∧okP p=z40 x.2 (p.drop k)) (fun x=>p.length-x.1.toNat) ?_ N (0,0) ⟨0,rfl,by omega,by simp,by simp,by simp [okP]⟩ (by simpa using hN);rintro ⟨i,n⟩ w ⟨k,hi,hk,hn0,hnk,heq⟩ hw;simp only at hi hn0 hnk heq;subst hi;simp only [zst];by_cases hlt:k < p.length
 ·have e2:decide ((k:Int) < len p)=true:=by simp [len,hlt]
  rw [e2,cond_true,z0s hlt];simp only [Option.bind_some];rw [List.drop_eq_getElem_cons hlt] at heq;simp only [z40] at heq;by_cases h0:p[k] < 0
  ·have:¬ (0≤p[k]):=by omega
   simp [h0,heq,this]
  ·by_cases h1:n < p[k]
   ·have h2:¬ (p[k]≤n):=by omega
    simp [h0,h1,heq,h2]
   ·have e3:decide (0≤p[k])=true:=by simp;omega
    have e4:decide (p[k]≤n)=true:=by simp;omega
    rw [e3,e4] at heq;simp only [h0,h1,decide_false,cond_false,Option.bind_some];by_cases he:p[k]=n
    ·rw [z07 (by omega) (by omega),z07 (by omega) (by omega)];simp only [he,decide_true,cond_true];have hm:n+1=max n (p[k]+1):=by omega
     exact hw _ ⟨k+1,by simp,by omega,by simp only;omega,by simp only;omega,by rw [hm];simpa using heq⟩ (by simp;omega)
    ·rw [z07 (by omega) (by omega)];simp only [he,decide_false,cond_false];have hm:n=max n (p[k]+1):=by omega
     rw [←hm] at heq;exact hw _ ⟨k+1,by simp,by omega,by simp only;omega,by simp only;omega,by simpa using heq⟩ (by simp;omega)
 ·have e2:decide ((k:Int) < len p)=false:=by simp [len];omega
  rw [e2,cond_false,heq,List.drop_eq_nil_of_le (by omega)];rfl
def zua {α:Type} [DecidableEq α]:List α->List α->List α
 | acc,[]=>acc
 | acc,x :: l=>if x∈acc then zua acc l else zua (acc++[x]) l
def z61 {α:Type} [DecidableEq α] (x:α):List α->Nat
 | []=>0
 | y :: l=>if y=x then 0 else z61 x l+1
def zlo {α:Type} [DecidableEq α]:List α->List α->List Int
 | _,[]=>[]
 | acc,x :: l=>if x∈acc then (z61 x acc:Int) :: zlo acc l else (acc.length:Int) :: zlo (acc++[x]) l
def ofL {α:Type} [DecidableEq α] (l:List α):List Int:=zlo [] l
theorem zbt {α:Type} [DecidableEq α] {x:α}:{l:List α}->x∈l->z61 x l < l.length
 | y :: l,h=>by
  simp only [z61];split
  ·simp
  ·rename_i hne;have:x∈l:=by
    rcases List.mem_cons.1 h with rfl | h
    ·exact absurd rfl hne
    ·exact h
   have:=zbt this;simp only [List.length_cons];omega
theorem z71 {α:Type} [DecidableEq α] {x:α}:{l m:List α}->x∈l->z61 x (l++m)=z61 x l
 | y :: l,m,h=>by
  simp only [List.cons_append,z61];split
  ·rfl
  ·rename_i hne;have:x∈l:=by
    rcases List.mem_cons.1 h with rfl | h
    ·exact absurd rfl hne
    ·exact h
   rw [z71 this]
theorem zfm {α:Type} [DecidableEq α] {x:α}:{l:List α}->x∉l->z61 x (l++[x])=l.length
 | [],_=>by simp [z61]
 | y :: l,h=>by
  have h1:y≠x:=by intro he;subst he;simp at h
  have h2:x∉l:=by intro hm;exact h (by simp [hm])
  simp only [List.cons_append,z61,if_neg h1,zfm h2,List.length_cons]
def zg1:List Int->Int->List (Int×Int)
 | [],_=>[]
 | x :: l,n=>(x,n) :: zg1 l (n+1)
theorem znh (l:List Int) (n:Int):(zg1 l n).length=l.length:=by
 induction l generalizing n with
 | nil=>rfl
 | cons x l ih=>simp [zg1,ih]
theorem zj2 (x:Int):(l:List Int)->(n:Int)->z9a (z42 (.int .i64)) (zg1 l n) x=if x∈l then some (n+z61 x l) else none
 | [],n=>rfl
 | y :: l,n=>by
  simp only [zg1,z9a,z42,z61];by_cases h:x=y
  ·subst h;simp
  ·have h2:¬ y=x:=fun e=>h e.symm
   simp only [h,decide_false,cond_false,List.mem_cons,false_or,zj2 x l (n+1),if_neg h2];split
   ·congr 1;push_cast;omega
   ·rfl
theorem zj1 (x:Int):(l:List Int)->(n:Int)->x∉l->zcp (z42 (.int .i64)) (zg1 l n) x (n+l.length)=zg1 (l++[x]) n
 | [],n,_=>by simp [zg1,zcp]
 | y :: l,n,h=>by
  have h1:¬ x=y:=by intro he;subst he;simp at h
  have h2:x∉l:=by intro hm;exact h (by simp [hm])
  have:=zj1 x l (n+1) h2;simp only [zg1,zcp,z42,h1,decide_false,cond_false,List.cons_append,List.length_cons];rw [←this];congr 2;push_cast;omega
theorem f78_eq (N:Nat) (l:List Int) (hN:l.length < N) (hl:l.length < 4294967296):f78 N l=some (ofL l):=by
 unfold f78;rw [z0h (by rw [show ((z3e:Nat):Int)=4294967296 from rfl];simp [len];omega)];refine z34 (fun x:Int×List Int×List (Int×Int)=>∃ (k:Nat) (acc:List Int),x.1=k∧k≤l.length∧x.2.2=zg1 acc 0∧acc.length≤k∧x.2.1.length=k∧ofL l=x.2.1++zlo acc (l.drop k)) (fun x=>l.length-x.1.toNat) ?_ N _
  ⟨0,[],rfl,by omega,rfl,by simp,by simp,by simp [ofL]⟩ (by simpa using hN)
 rintro ⟨i,out,m⟩ w ⟨k,acc,hi,hk,hm,hacc,hout,heq⟩ hw;simp only at hi hm hout heq;subst hi;subst hm;simp only [zss];by_cases hlt:k < l.length
 ·have e2:decide ((k:Int) < len l)=true:=by simp [len,hlt]
  rw [e2,cond_true,z0s hlt];simp only [Option.bind_some];rw [List.drop_eq_getElem_cons hlt] at heq;simp only [zlo] at heq;rw [zj2];by_cases hmem:l[k]∈acc
  ·rw [if_pos hmem] at heq;simp only [if_pos hmem,Option.isSome_some,Bool.not_true,cond_false];rw [z0h (by simp [z3e];omega),z07 (by omega) (by omega)];refine hw _ ⟨k+1,acc,by simp,by omega,rfl,by omega,by simp [hout],?_⟩ (by simp;omega);simp only [Option.getD_some,Int.zero_add,List.append_assoc,List.singleton_append];exact heq
  ·rw [if_neg hmem] at heq;simp only [if_neg hmem,Option.isSome_none,Bool.not_false,cond_true];rw [z0h (by simp [z3e,znh];omega),z0h (by simp [z3e];omega),z07 (by omega) (by omega)];have hp:=zj1 l[k] acc 0 hmem;rw [Int.zero_add] at hp;have hlen:len (zg1 acc 0)=(acc.length:Int):=by simp [len,znh]
   rw [hlen,hp];refine hw _ ⟨k+1,acc++[l[k]],by simp,by omega,rfl,by simp;omega,by simp [hout],?_⟩ (by simp;omega);simp only [List.append_assoc,List.singleton_append];exact heq
 ·have e2:decide ((k:Int) < len l)=false:=by simp [len];omega
  rw [e2,cond_false,heq,List.drop_eq_nil_of_le (by omega)];simp [zlo]
theorem zh9 {α:Type} [DecidableEq α]:(acc l:List α)->(zlo acc l).length=l.length
 | _,[]=>rfl
 | acc,x :: l=>by simp only [zlo];split <;> simp [zh9 _ l]
theorem zep {α:Type} [DecidableEq α] {x:α}:{acc l:List α}->(x∈zua acc l↔x∈acc∨x∈l)
 | acc,[]=>by simp [zua]
 | acc,y :: l=>by
  simp only [zua];split
  ·rename_i h;rw [zep];simp only [List.mem_cons];constructor
   ·rintro (h1 | h1)
    ·exact .inl h1
    ·exact .inr (.inr h1)
   ·rintro (h1 | rfl | h1)
    ·exact .inl h1
    ·exact .inl h
    ·exact .inr h1
  ·rw [zep];simp [or_assoc]
theorem zeq {α:Type} [DecidableEq α]:(acc l:List α)->∃ ys,zua acc l=acc++ys
 | acc,[]=>⟨[],by simp [zua]⟩
 | acc,x :: l=>by
  simp only [zua];split
  ·exact zeq acc l
  ·obtain ⟨ys,h⟩:=zeq (acc++[x]) l;exact ⟨x :: ys,by rw [h];simp⟩
theorem zln {α:Type} [DecidableEq α]:(acc l:List α)->(j:Nat)->(h:j < l.length)->(zlo acc l)[j]? = some ((z61 l[j] (zua acc l):Nat):Int)
 | acc,x :: l,0,_=>by
  simp only [zlo,zua,List.getElem_cons_zero];split
  ·rename_i hm;obtain ⟨ys,hy⟩:=zeq acc l;rw [hy,z71 hm];rfl
  ·rename_i hm;obtain ⟨ys,hy⟩:=zeq (acc++[x]) l
   rw [hy,z71 (by simp),zfm hm];rfl
 | acc,x :: l,j+1,h=>by
  have h':j < l.length:=by simpa using h
  simp only [zlo,zua,List.getElem_cons_succ];split
  ·simpa using zln acc l j h'
  ·simpa using zln (acc++[x]) l j h'
theorem zd2 {α:Type} [DecidableEq α]:(acc l:List α)->z40 (acc.length:Int) (zlo acc l)=true
 | _,[]=>rfl
 | acc,x :: l=>by
  simp only [zlo];split
  ·rename_i hm;have:=zbt hm;have hmx:max (acc.length:Int) ((z61 x acc:Int)+1)=acc.length:=by omega
   simp only [z40,hmx,zd2 acc l,Bool.and_true,zA,decide_eq_true_eq];omega
  ·have hmx:max (acc.length:Int) ((acc.length:Int)+1)=((acc++[x]).length:Int):=by simp;omega
   simp only [z40,hmx,zd2 (acc++[x]) l,Bool.and_true,zA,decide_eq_true_eq];omega
theorem zqe {α:Type} [DecidableEq α] (l:List α):okP (ofL l)=true:=zd2 [] l
def zhs (n:Nat):List Int:=(List.range n).map fun (i:Nat)=>(i:Int)
theorem zbf {n:Nat} {x:Int}:x∈zhs n↔0≤x∧x < n:=by
 simp only [zhs,List.mem_map,List.mem_range];constructor
 ·rintro ⟨i,hi,rfl⟩;omega
 ·rintro ⟨h0,h1⟩;exact ⟨x.toNat,by omega,by omega⟩
theorem zib (n:Nat):zhs (n+1)=zhs n++[(n:Int)]:=by simp [zhs,List.range_succ]
theorem zq9 {n:Nat} {x:Int} (h0:0≤x) (h1:x < n):(z61 x (zhs n):Int)=x:=by
 induction n with
 | zero=>omega
 | succ n ih=>
  rw [zib];by_cases hx:x=n
  ·subst hx;rw [zfm (by rw [zbf];omega)];simp [zhs]
  ·rw [z71 (by rw [zbf];omega),ih (by omega)]
theorem zh8:(p:List Int)->(n:Nat)->(zlo (zhs n) p=p↔z40 (n:Int) p=true)
 | [],n=>by simp [zlo,z40]
 | x :: p,n=>by
  simp only [zlo,z40];by_cases hx:0≤x∧x < n
  ·rw [if_pos (zbf.2 hx),zq9 hx.1 hx.2];have hm:max (n:Int) (x+1)=n:=by omega
   have e1:decide (0≤x)=true:=by simp [hx.1]
   have e2:decide (x≤(n:Int))=true:=by simp;omega
   rw [hm,e1,e2];simp [zh8 p n]
  ·rw [if_neg (fun h=>hx (zbf.1 h))];have hl:((zhs n).length:Int)=n:=by simp [zhs]
   rw [hl];by_cases he:x=n
   ·subst he;have hm:max (n:Int) ((n:Int)+1)=((n+1:Nat):Int):=by omega
    rw [←zib,hm];simp [zh8 p (n+1)]
   ·have e:(decide (0≤x) && decide (x≤(n:Int)))=false:=by simp;omega
    rw [e];simp only [Bool.false_and,Bool.false_eq_true,iff_false];intro h;simp at h;exact he h.1.symm
theorem zix (p:List Int):ofL p=p↔okP p=true:=zh8 p 0
def top:Int->List Int->Int
 | n,[]=>n
 | n,c :: l=>top (max n (c+1)) l
theorem zid:(n:Int)->(a b:List Int)->top n (a++b)=top (top n a) b
 | _,[],_=>rfl
 | n,x :: a,b=>by simp only [List.cons_append,top,zid _ a b]
theorem z8a:(n:Int)->(a b:List Int)->z40 n (a++b)=(z40 n a && z40 (top n a) b)
 | _,[],_=>by simp [z40,top]
 | n,x :: a,b=>by simp only [List.cons_append,z40,top,z8a _ a b,Bool.and_assoc]
theorem z9u (q:List Int) (x:Int):top 0 (q++[x])=max (top 0 q) (x+1):=by rw [zid];rfl
theorem zwa {q:List Int} {x:Int}:okP (q++[x])=true↔okP q=true∧0≤x∧x≤top 0 q:=by
 simp [okP,z8a,z40]
theorem z2u {q:List Int}:okP q=true->0≤top 0 q∧top 0 q≤q.length∧∀ c∈q,0≤c∧c < top 0 q:=by
 induction q using zfk with
 | h0=>intro _;simp [top]
 | h1 q x ih=>
  intro h;obtain ⟨h1,h2,h3⟩:=zwa.1 h;obtain ⟨i1,i2,i3⟩:=ih h1;rw [z9u];refine ⟨by omega,by simp;omega,?_⟩;intro c hc;rcases List.mem_append.1 hc with hc | hc
  ·have:=i3 c hc;omega
  ·simp only [List.mem_singleton] at hc;subst hc;omega
theorem zky {p:List Int} (h:okP p=true) (k:Nat):okP (p.take k)=true:=by
 have:=h;rw [←List.take_append_drop k p] at this;simp only [okP,z8a,zA] at this;exact this.1
theorem ok_at {p:List Int} (h:okP p=true) {k:Nat} (hk:k < p.length):0≤p[k]∧p[k]≤top 0 (p.take k):=by
 have:=zky h (k+1);rw [z1h hk] at this;exact (zwa.1 this).2
def cnt (c:Int) (p:List Int):Int:=((p.count c:Nat):Int)
theorem zll (c:Int) (q:List Int) (x:Int):cnt c (q++[x])=cnt c q+(if x=c then 1 else 0):=by
 simp only [cnt,List.count_append,List.count_singleton];split <;> simp_all
theorem zuq (c:Int) (q:List Int):0≤cnt c q:=by simp [cnt]
theorem cnt_le (c:Int) (q:List Int):cnt c q≤q.length:=by
 have:=List.count_le_length (a:=c) (l:=q);simp only [cnt];omega
theorem cnt_zero {c:Int} {q:List Int} (h:c∉q):cnt c q=0:=by simp [cnt,List.count_eq_zero_of_not_mem h]
def szL (p:List Int):List Int:=(List.range (top 0 p).toNat).map fun (i:Nat)=>cnt (i:Int) p
theorem zva {p:List Int}:(szL p).length=(top 0 p).toNat:=by simp [szL]
theorem zpv {p:List Int} {k:Nat} (h:k < (szL p).length):(szL p)[k]=cnt (k:Int) p:=by simp [szL]
theorem szL_new {q:List Int} {x:Int} (h:okP q=true) (hx:x=top 0 q):szL (q++[x])=szL q++[1]:=by
 obtain ⟨b1,b2,b3⟩:=z2u h;have ht:(top 0 (q++[x])).toNat=(top 0 q).toNat+1:=by rw [z9u];omega
 simp only [szL,ht,List.range_succ,List.map_append,List.map_cons,List.map_nil];congr 1
 ·apply List.map_congr_left;intro i hi;simp only [List.mem_range] at hi;rw [zll,if_neg (by omega)];simp
 ·have:((top 0 q).toNat:Int)=x:=by omega
  rw [this,zll,if_pos rfl,cnt_zero (fun hm=>by have:=b3 x hm;omega)];rfl
theorem szL_old {q:List Int} {k:Nat} (hx:(k:Int) < top 0 q):szL (q++[(k:Int)])=(szL q).set k (cnt k q+1):=by
 have ht:top 0 (q++[(k:Int)])=top 0 q:=by rw [z9u];omega
 apply List.ext_getElem
 ·simp [szL,ht]
 ·intro i h1 h2;rw [zpv,List.getElem_set];rw [zll];by_cases he:k=i
  ·subst he;simp
  ·rw [if_neg (by omega),if_neg he,zpv];simp
theorem f97_eq (N:Nat) (p:List Int) (hN:p.length < N) (hl:p.length < 4294967296):f97 N p=some (if okP p then szL p else []):=by
 unfold f97;rw [zxj N p hN hl];simp only [Option.bind_some]
 cases hok:okP p with
 | false=>rfl
 | true=>
  simp only [Bool.not_true,cond_false,if_true];refine z2h (fun k s=>s=szL (p.take k)) p.length ?_ ?_ N hN [] ?_
  ·intro k s w hk hs hw;subst hs;simp only [znt];have hq:=zky hok k;obtain ⟨b1,b2,b3⟩:=z2u hq;obtain ⟨a1,a2⟩:=ok_at hok hk;have hsl:(szL (p.take k)).length=(top 0 (p.take k)).toNat:=zva;simp only [List.length_take] at b2;rw [z17 hk,cond_true,z0s hk];simp only [Option.bind_some];by_cases he:p[k]=top 0 (p.take k)
   ·have e1:decide (p[k]=len (szL (p.take k)))=true:=by simp only [len,hsl,decide_eq_true_eq];omega
    have hc:p[k]=(((szL (p.take k)).length:Nat):Int):=by omega
    have hnew:=szL_new hq he;rw [e1,cond_true,z4v (by simp;omega),hc,z0h (z2m (by simp)),z0s (by simp)];simp only [Option.bind_some,List.getElem_append_right (Nat.le_refl _),Nat.sub_self,List.getElem_cons_zero];rw [z07 (by omega) (by omega),z5i];have:(szL (p.take k)++[0]).set (szL (p.take k)).length (z0l (0+1))=szL (p.take (k+1)):=by
     rw [z07 (by omega) (by omega),z1h hk,hnew];simp
    rw [this,z0h (z2m (by simp))];exact hw _ rfl
   ·have e1:decide (p[k]=len (szL (p.take k)))=false:=by simp only [len,hsl,decide_eq_false_iff_not];omega
    obtain ⟨j,hj⟩:=Int.eq_ofNat_of_zero_le a1;have hjl:j < (szL (p.take k)).length:=by omega
    rw [e1,cond_false,hj,z0h (z2m hjl),z0s hjl];simp only [Option.bind_some];have hc:=zuq (j:Int) (p.take k);have hc2:=cnt_le (j:Int) (p.take k);simp only [List.length_take] at hc2;rw [z0h (z2m hjl),z07 (by omega) (by omega),zpv,z07 (by omega) (by omega),z5i];apply hw;rw [z1h hk,hj,szL_old (by omega)]
  ·intro s w hs;subst hs;simp only [znt];rw [z0v,cond_false,List.take_length]
  ·rfl
theorem f81_eq (N:Nat) (p:List Int) (hN:p.length < N) (hl:p.length < 4294967296):f81 N p=some (if okP p then top 0 p else 0):=by
 unfold f81;rw [f97_eq N p hN hl];simp only [Option.bind_some]
 cases h:okP p with
 | false=>rfl
 | true=>
  simp only [if_true,len,zva];have:=(z2u h).1;congr 1;omega
theorem f44_eq (N:Nat) (p:List Int) (hN:p.length < N) (hl:p.length < 4294967296) (hok:okP p=true):f44 N p=some (top 0 p):=by
 unfold f44;rw [f67_eq N p hN hl,hok];simp only [Option.bind_some,Bool.not_true,cond_false];refine z2h (fun k s=>s=top 0 (p.take k)) p.length ?_ ?_ N hN 0 rfl
 ·intro k s w hk hs hw;subst hs;simp only [zo9];have hq:=zky hok k;obtain ⟨b1,b2,b3⟩:=z2u hq;obtain ⟨a1,a2⟩:=ok_at hok hk;simp only [List.length_take] at b2;rw [z17 hk,cond_true,z0s hk];simp only [Option.bind_some];rw [z07 (by omega) (by omega),z07 (by omega) (by omega)];by_cases he:p[k]=top 0 (p.take k)
  ·rw [decide_eq_true he,cond_true];apply hw;rw [z1h hk,z9u];omega
  ·rw [decide_eq_false he,cond_false];apply hw;rw [z1h hk,z9u];omega
 ·intro s w hs;subst hs;simp only [zo9];rw [z0v,cond_false,List.take_length]
section
variable {α β:Type} [DecidableEq α] [DecidableEq β]
theorem z6i (l:List α):(ofL l).length=l.length:=zh9 [] l
theorem z7r {x:α}:{l:List α}->x∈l->l[z61 x l]? = some x
 | y :: l,h=>by
  simp only [z61];split
  ·rename_i he;simp [he]
  ·rename_i hne;have:x∈l:=by
    rcases List.mem_cons.1 h with rfl | h
    ·exact absurd rfl hne
    ·exact h
   simpa using z7r this
theorem zvx {x y:α} {l:List α} (hx:x∈l) (hy:y∈l) (h:z61 x l=z61 y l):x=y:=by
 have h1:=z7r hx;have h2:=z7r hy;rw [h,h2] at h1;simpa using h1.symm
theorem zwd {l:List α} {j:Nat} (h:j < l.length):(ofL l)[j]? = some ((z61 l[j] (zua [] l):Nat):Int):=zln [] l j h
theorem zs3 {l:List α} {i j:Nat} (hi:i < l.length) (hj:j < l.length):(ofL l)[i]'(by rw [z6i];exact hi)=(ofL l)[j]'(by rw [z6i];exact hj)↔l[i]=l[j]:=by
 have h1:=zwd hi;have h2:=zwd hj;rw [List.getElem?_eq_getElem (by rw [z6i];exact hi)] at h1;rw [List.getElem?_eq_getElem (by rw [z6i];exact hj)] at h2;simp only [zI] at h1 h2;rw [h1,h2];constructor
 ·intro h;exact zvx (l:=zua [] l) (by rw [zep];right;exact List.getElem_mem hi) (by rw [zep];right;exact List.getElem_mem hj) (by omega)
 ·intro h;rw [h]
theorem zms {f:α->β} {x:α}:{l:List α}->(∀ y∈l,f y=f x->y=x)->z61 (f x) (l.map f)=z61 x l
 | [],_=>rfl
 | y :: l,h=>by
  have ih:=zms (f:=f) (x:=x) (l:=l) (fun z hz=>h z (by simp [hz]));simp only [List.map_cons,z61];by_cases he:y=x
  ·simp [he]
  ·have:¬ f y=f x:=fun hf=>he (h y (by simp) hf)
   simp [he,this,ih]
theorem zlm {f:α->β}:(acc l:List α)->(∀ x∈acc++l,∀ y∈acc++l,f x=f y->x=y)->zlo (acc.map f) (l.map f)=zlo acc l
 | _,[],_=>rfl
 | acc,x :: l,h=>by
  simp only [List.map_cons,zlo];by_cases hm:x∈acc
  ·have h1:f x∈acc.map f:=List.mem_map.2 ⟨x,hm,rfl⟩;rw [if_pos hm,if_pos h1,zms (fun y hy he=>h y (by simp [hy]) x (by simp) he),zlm acc l (fun a ha b hb=>h a (by simp at ha ⊢;rcases ha with ha | ha <;> simp [ha]) b (by simp at hb ⊢;rcases hb with hb | hb <;> simp [hb]))]
  ·have h1:f x∉acc.map f:=by
    intro hh;obtain ⟨y,hy,he⟩:=List.mem_map.1 hh;exact hm (by rw [←h y (by simp [hy]) x (by simp) he];exact hy)
   rw [if_neg hm,if_neg h1,List.length_map];have:=zlm (f:=f) (acc++[x]) l (fun a ha b hb=>h a (by simpa using ha) b (by simpa using hb));simp only [List.map_append,List.map_cons,List.map_nil] at this;rw [this]
theorem zwc {f:α->β} {l:List α} (h:∀ x∈l,∀ y∈l,f x=f y->x=y):ofL (l.map f)=ofL l:=zlm [] l (by simpa using h)
theorem zn8 {l:List α} {m:List β} (hlen:l.length=m.length) (h:∀ i j (hi:i < l.length) (hj:j < l.length),l[i]=l[j]↔m[i]'(by omega)=m[j]'(by omega)):ofL l=ofL m:=by
 have hm:m.map some=l.map (fun x=>m[z61 x l]?):=by
  apply List.ext_getElem
  ·simp [hlen]
  ·intro j h1 h2;have hj:j < l.length:=by simpa using h2
   have hp:=zbt (List.getElem_mem hj);have hg:=z7r (List.getElem_mem hj);rw [List.getElem?_eq_getElem hp] at hg;simp only [zI] at hg;simp only [List.getElem_map];rw [List.getElem?_eq_getElem (by omega)];congr 1;exact ((h _ _ hp hj).1 hg).symm
 have h1:ofL (m.map some)=ofL m:=zwc (fun x _ y _ he=>by simpa using he);rw [←h1,hm];symm;apply zwc;intro x hx y hy he;have hpx:=zbt hx;have hpy:=zbt hy;have hgx:=z7r hx;have hgy:=z7r hy;rw [List.getElem?_eq_getElem hpx] at hgx;rw [List.getElem?_eq_getElem hpy] at hgy;simp only [zI] at hgx hgy;rw [List.getElem?_eq_getElem (by omega),List.getElem?_eq_getElem (by omega)] at he;simp only [zI] at he;rw [←hgx,←hgy];exact (h _ _ hpx hpy).2 he
end
end Go.Kz
