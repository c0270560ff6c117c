/-
  The layer adaptive: lists and their classes, plain laws.
-/
import Derived.Test.YtnjfafnflbackaaKzP43z
import Derived.Test.YtnjfafnflbackaaKzAR
set_option linter.unusedVariables false
set_option linter.unusedSimpArgs false
namespace Go.Kz
def z41:Int->List Int->Bool
 | _,[]=>true
 | n,c :: l=>decide (0≤c) && decide (c≤n) && z41 (max n (c+1)) l
def okP (p:List Int):Bool:=z41 0 p
theorem zxm (N:Nat) (p:List Int) (hN:p.length < N) (hl:p.length < 4294967296):f80 N p=some (okP p):=by
 unfold f80;refine z2v (fun x:Int×Int=>∃ k:Nat,x.1=k∧k≤p.length∧0≤x.2∧x.2≤k∧okP p=z41 x.2 (p.drop k)) (fun x=>p.length-x.1.toNat) ?_ N (0,0) ⟨0,rfl,by omega,by simp,by simp,by simp [okP]⟩ (by simpa using hN);rintro ⟨i,n⟩ w ⟨k,hi,hk,hn0,hnk,heq⟩ hw;simp only at hi hn0 hnk heq;subst hi;simp only [zsy];by_cases hlt:k < p.length
 ·have e2:decide ((k:Int) < len p)=true:=by simp [len,hlt]
  rw [e2,cond_true,z0t hlt];simp only [Option.bind_some];rw [List.drop_eq_getElem_cons hlt] at heq;simp only [z41] at heq;by_cases h0:p[k] < 0
  ·have:¬ (0≤p[k]):=by omega
   simp [h0,heq,this]
  ·by_cases h1:n < p[k]
   ·have h2:¬ (p[k]≤n):=by omega
    simp [h0,h1,heq,h2]
   ·have e3:decide (0≤p[k])=true:=by simp;omega
    have e4:decide (p[k]≤n)=true:=by simp;omega
    rw [e3,e4] at heq;simp only [h0,h1,decide_false,cond_false,Option.bind_some];rw [z09 (by omega) (by omega),z09 (by omega) (by omega)];have hm:zps n (p[k]+1)=max n (p[k]+1):=by simp only [zps];split <;> omega
    rw [hm];exact hw _ ⟨k+1,by simp,by omega,by simp only;omega,by simp only;omega,by simpa using heq⟩ (by simp;omega)
 ·have e2:decide ((k:Int) < len p)=false:=by simp [len];omega
  rw [e2,cond_false,heq,List.drop_eq_nil_of_le (by omega)];rfl
theorem f67_eq (N:Nat) (p:List Int) (hN:p.length < N) (hl:p.length < 4294967296):f67 N p=some (okP p):=by
 unfold f67;refine z2v (fun x:Int×Int=>∃ k:Nat,x.1=k∧k≤p.length∧0≤x.2∧x.2≤k∧okP p=z41 x.2 (p.drop k)) (fun x=>p.length-x.1.toNat) ?_ N (0,0) ⟨0,rfl,by omega,by simp,by simp,by simp [okP]⟩ (by simpa using hN);rintro ⟨i,n⟩ w ⟨k,hi,hk,hn0,hnk,heq⟩ hw;simp only at hi hn0 hnk heq;subst hi;simp only [zt0];by_cases hlt:k < p.length
 ·have e2:decide ((k:Int) < len p)=true:=by simp [len,hlt]
  rw [e2,cond_true,z0t hlt];simp only [Option.bind_some];rw [List.drop_eq_getElem_cons hlt] at heq;simp only [z41] at heq;by_cases h0:p[k] < 0
  ·have:¬ (0≤p[k]):=by omega
   simp [h0,heq,this]
  ·by_cases h1:n < p[k]
   ·have h2:¬ (p[k]≤n):=by omega
    simp [h0,h1,heq,h2]
   ·have e3:decide (0≤p[k])=true:=by simp;omega
    have e4:decide (p[k]≤n)=true:=by simp;omega
    rw [e3,e4] at heq;simp only [h0,h1,decide_false,cond_false,Option.bind_some];by_cases he:p[k]=n
    ·rw [z09 (by omega) (by omega),z09 (by omega) (by omega)];simp only [he,decide_true,cond_true];have hm:n+1=max n (p[k]+1):=by omega
     exact hw _ ⟨k+1,by simp,by omega,by simp only;omega,by simp only;omega,by rw [hm];simpa using heq⟩ (by simp;omega)
    ·rw [z09 (by omega) (by omega)];simp only [he,decide_false,cond_false];have hm:n=max n (p[k]+1):=by omega
     rw [←hm] at heq;exact hw _ ⟨k+1,by simp,by omega,by simp only;omega,by simp only;omega,by simpa using heq⟩ (by simp;omega)
 ·have e2:decide ((k:Int) < len p)=false:=by simp [len];omega
  rw [e2,cond_false,heq,List.drop_eq_nil_of_le (by omega)];rfl
def z8s {α:Type} [DecidableEq α]:List α->List α->List α
 | acc,[]=>acc
 | acc,x :: l=>if x∈acc then z8s acc l else z8s (acc++[x]) l
def z5i {α:Type} [DecidableEq α] (x:α):List α->Nat
 | []=>0
 | y :: l=>if y=x then 0 else z5i x l+1
def zec {α:Type} [DecidableEq α]:List α->List α->List Int
 | _,[]=>[]
 | acc,x :: l=>if x∈acc then (z5i x acc:Int) :: zec acc l else (acc.length:Int) :: zec (acc++[x]) l
def ofL {α:Type} [DecidableEq α] (l:List α):List Int:=zec [] l
theorem za0 {α:Type} [DecidableEq α] {x:α}:{l:List α}->x∈l->z5i x l < l.length
 | y :: l,h=>by
  simp only [z5i];split
  ·simp
  ·rename_i hne;have:x∈l:=by
    rcases List.mem_cons.1 h with rfl | h
    ·exact absurd rfl hne
    ·exact h
   have:=za0 this;simp only [List.length_cons];omega
theorem z6x {α:Type} [DecidableEq α] {x:α}:{l m:List α}->x∈l->z5i x (l++m)=z5i x l
 | y :: l,m,h=>by
  simp only [List.cons_append,z5i];split
  ·rfl
  ·rename_i hne;have:x∈l:=by
    rcases List.mem_cons.1 h with rfl | h
    ·exact absurd rfl hne
    ·exact h
   rw [z6x this]
theorem zfz {α:Type} [DecidableEq α] {x:α}:{l:List α}->x∉l->z5i x (l++[x])=l.length
 | [],_=>by simp [z5i]
 | y :: l,h=>by
  have h1:y≠x:=by intro he;subst he;simp at h
  have h2:x∉l:=by intro hm;exact h (by simp [hm])
  simp only [List.cons_append,z5i,if_neg h1,zfz h2,List.length_cons]
def zgf:List Int->Int->List (Int×Int)
 | [],_=>[]
 | x :: l,n=>(x,n) :: zgf l (n+1)
theorem znm (l:List Int) (n:Int):(zgf l n).length=l.length:=by
 induction l generalizing n with
 | nil=>rfl
 | cons x l ih=>simp [zgf,ih]
theorem zja (x:Int):(l:List Int)->(n:Int)->zaf (z49 (.int .i64)) (zgf l n) x=if x∈l then some (n+z5i x l) else none
 | [],n=>rfl
 | y :: l,n=>by
  simp only [zgf,zaf,z49,z5i];by_cases h:x=y
  ·subst h;simp
  ·have h2:¬ y=x:=fun e=>h e.symm
   simp only [h,decide_false,cond_false,List.mem_cons,false_or,zja x l (n+1),if_neg h2];split
   ·congr 1;push_cast;omega
   ·rfl
theorem zj9 (x:Int):(l:List Int)->(n:Int)->x∉l->zd9 (z49 (.int .i64)) (zgf l n) x (n+l.length)=zgf (l++[x]) n
 | [],n,_=>by simp [zgf,zd9]
 | y :: l,n,h=>by
  have h1:¬ x=y:=by intro he;subst he;simp at h
  have h2:x∉l:=by intro hm;exact h (by simp [hm])
  have:=zj9 x l (n+1) h2;simp only [zgf,zd9,z49,h1,decide_false,cond_false,List.cons_append,List.length_cons];rw [←this];congr 2;push_cast;omega
theorem f78_eq (N:Nat) (l:List Int) (hN:l.length < N) (hl:l.length < 4294967296):f78 N l=some (ofL l):=by
 unfold f78;rw [z0m (by rw [show ((z3k:Nat):Int)=4294967296 from rfl];simp [len];omega)];refine z2v (fun x:Int×List Int×List (Int×Int)=>∃ (k:Nat) (acc:List Int),x.1=k∧k≤l.length∧x.2.2=zgf acc 0∧acc.length≤k∧x.2.1.length=k∧ofL l=x.2.1++zec acc (l.drop k)) (fun x=>l.length-x.1.toNat) ?_ N _
  ⟨0,[],rfl,by omega,rfl,by simp,by simp,by simp [ofL]⟩ (by simpa using hN)
 rintro ⟨i,out,m⟩ w ⟨k,acc,hi,hk,hm,hacc,hout,heq⟩ hw;simp only at hi hm hout heq;subst hi;subst hm;simp only [zsz];by_cases hlt:k < l.length
 ·have e2:decide ((k:Int) < len l)=true:=by simp [len,hlt]
  rw [e2,cond_true,z0t hlt];simp only [Option.bind_some];rw [List.drop_eq_getElem_cons hlt] at heq;simp only [zec] at heq;rw [zja];by_cases hmem:l[k]∈acc
  ·rw [if_pos hmem] at heq;simp only [if_pos hmem,Option.isSome_some,Bool.not_true,cond_false];rw [z0m (by simp [z3k];omega),z09 (by omega) (by omega)];refine hw _ ⟨k+1,acc,by simp,by omega,rfl,by omega,by simp [hout],?_⟩ (by simp;omega);simp only [Option.getD_some,Int.zero_add,List.append_assoc,List.singleton_append];exact heq
  ·rw [if_neg hmem] at heq;simp only [if_neg hmem,Option.isSome_none,Bool.not_false,cond_true];rw [z0m (by simp [z3k,znm];omega),z0m (by simp [z3k];omega),z09 (by omega) (by omega)];have hp:=zj9 l[k] acc 0 hmem;rw [Int.zero_add] at hp;have hlen:len (zgf acc 0)=(acc.length:Int):=by simp [len,znm]
   rw [hlen,hp];refine hw _ ⟨k+1,acc++[l[k]],by simp,by omega,rfl,by simp;omega,by simp [hout],?_⟩ (by simp;omega);simp only [List.append_assoc,List.singleton_append];exact heq
 ·have e2:decide ((k:Int) < len l)=false:=by simp [len];omega
  rw [e2,cond_false,heq,List.drop_eq_nil_of_le (by omega)];simp [zec]
theorem zbg {α:Type} [DecidableEq α]:(acc l:List α)->(zec acc l).length=l.length
 | _,[]=>rfl
 | acc,x :: l=>by simp only [zec];split <;> simp [zbg _ l]
theorem za1 {α:Type} [DecidableEq α] {x:α}:{acc l:List α}->(x∈z8s acc l↔x∈acc∨x∈l)
 | acc,[]=>by simp [z8s]
 | acc,y :: l=>by
  simp only [z8s];split
  ·rename_i h;rw [za1];simp only [List.mem_cons];constructor
   ·rintro (h1 | h1)
    ·exact .inl h1
    ·exact .inr (.inr h1)
   ·rintro (h1 | rfl | h1)
    ·exact .inl h1
    ·exact .inl h
    ·exact .inr h1
  ·rw [za1];simp [or_assoc]
theorem zdl {α:Type} [DecidableEq α]:(acc l m:List α)->zec acc (l++m)=zec acc l++zec (z8s acc l) m
 | _,[],_=>rfl
 | acc,x :: l,m=>by
  simp only [List.cons_append,zec,z8s];split <;> simp [zdl _ l m]
theorem zex {α:Type} [DecidableEq α]:(acc l:List α)->∃ ys,z8s acc l=acc++ys
 | acc,[]=>⟨[],by simp [z8s]⟩
 | acc,x :: l=>by
  simp only [z8s];split
  ·exact zex acc l
  ·obtain ⟨ys,h⟩:=zex (acc++[x]) l;exact ⟨x :: ys,by rw [h];simp⟩
theorem zb0 {α:Type} [DecidableEq α]:(acc l:List α)->(z8s acc l).length≤acc.length+l.length
 | acc,[]=>by simp [z8s]
 | acc,x :: l=>by
  simp only [z8s];split
  ·have:=zb0 acc l;simp;omega
  ·have:=zb0 (acc++[x]) l;simp at this ⊢;omega
theorem zf8 {α:Type} [DecidableEq α]:(acc l:List α)->(j:Nat)->(h:j < l.length)->(zec acc l)[j]? = some ((z5i l[j] (z8s acc l):Nat):Int)
 | acc,x :: l,0,_=>by
  simp only [zec,z8s,List.getElem_cons_zero];split
  ·rename_i hm;obtain ⟨ys,hy⟩:=zex acc l;rw [hy,z6x hm];rfl
  ·rename_i hm;obtain ⟨ys,hy⟩:=zex (acc++[x]) l
   rw [hy,z6x (by simp),zfz hm];rfl
 | acc,x :: l,j+1,h=>by
  have h':j < l.length:=by simpa using h
  simp only [zec,z8s,List.getElem_cons_succ];split
  ·simpa using zf8 acc l j h'
  ·simpa using zf8 (acc++[x]) l j h'
theorem zd6 {α:Type} [DecidableEq α]:(acc l:List α)->z41 (acc.length:Int) (zec acc l)=true
 | _,[]=>rfl
 | acc,x :: l=>by
  simp only [zec];split
  ·rename_i hm;have:=za0 hm;have hmx:max (acc.length:Int) ((z5i x acc:Int)+1)=acc.length:=by omega
   simp only [z41,hmx,zd6 acc l,Bool.and_true,zA,decide_eq_true_eq];omega
  ·have hmx:max (acc.length:Int) ((acc.length:Int)+1)=((acc++[x]).length:Int):=by simp;omega
   simp only [z41,hmx,zd6 (acc++[x]) l,Bool.and_true,zA,decide_eq_true_eq];omega
theorem zqf {α:Type} [DecidableEq α] (l:List α):okP (ofL l)=true:=zd6 [] l
def zi2 (n:Nat):List Int:=(List.range n).map fun (i:Nat)=>(i:Int)
theorem zbm {n:Nat} {x:Int}:x∈zi2 n↔0≤x∧x < n:=by
 simp only [zi2,List.mem_map,List.mem_range];constructor
 ·rintro ⟨i,hi,rfl⟩;omega
 ·rintro ⟨h0,h1⟩;exact ⟨x.toNat,by omega,by omega⟩
theorem zil (n:Nat):zi2 (n+1)=zi2 n++[(n:Int)]:=by simp [zi2,List.range_succ]
theorem zqa {n:Nat} {x:Int} (h0:0≤x) (h1:x < n):(z5i x (zi2 n):Int)=x:=by
 induction n with
 | zero=>omega
 | succ n ih=>
  rw [zil];by_cases hx:x=n
  ·subst hx;rw [zfz (by rw [zbm];omega)];simp [zi2]
  ·rw [z6x (by rw [zbm];omega),ih (by omega)]
theorem zhk:(p:List Int)->(n:Nat)->(zec (zi2 n) p=p↔z41 (n:Int) p=true)
 | [],n=>by simp [zec,z41]
 | x :: p,n=>by
  simp only [zec,z41];by_cases hx:0≤x∧x < n
  ·rw [if_pos (zbm.2 hx),zqa hx.1 hx.2];have hm:max (n:Int) (x+1)=n:=by omega
   have e1:decide (0≤x)=true:=by simp [hx.1]
   have e2:decide (x≤(n:Int))=true:=by simp;omega
   rw [hm,e1,e2];simp [zhk p n]
  ·rw [if_neg (fun h=>hx (zbm.1 h))];have hl:((zi2 n).length:Int)=n:=by simp [zi2]
   rw [hl];by_cases he:x=n
   ·subst he;have hm:max (n:Int) ((n:Int)+1)=((n+1:Nat):Int):=by omega
    rw [←zil,hm];simp [zhk p (n+1)]
   ·have e:(decide (0≤x) && decide (x≤(n:Int)))=false:=by simp;omega
    rw [e];simp only [Bool.false_and,Bool.false_eq_true,iff_false];intro h;simp at h;exact he h.1.symm
theorem zj5 (p:List Int):ofL p=p↔okP p=true:=zhk p 0
def top:Int->List Int->Int
 | n,[]=>n
 | n,c :: l=>top (max n (c+1)) l
theorem zin:(n:Int)->(a b:List Int)->top n (a++b)=top (top n a) b
 | _,[],_=>rfl
 | n,x :: a,b=>by simp only [List.cons_append,top,zin _ a b]
theorem z88:(n:Int)->(a b:List Int)->z41 n (a++b)=(z41 n a && z41 (top n a) b)
 | _,[],_=>by simp [z41,top]
 | n,x :: a,b=>by simp only [List.cons_append,z41,top,z88 _ a b,Bool.and_assoc]
theorem z9s (q:List Int) (x:Int):top 0 (q++[x])=max (top 0 q) (x+1):=by rw [zin];rfl
theorem zwd {q:List Int} {x:Int}:okP (q++[x])=true↔okP q=true∧0≤x∧x≤top 0 q:=by
 simp [okP,z88,z41]
theorem z2r {q:List Int}:okP q=true->0≤top 0 q∧top 0 q≤q.length∧∀ c∈q,0≤c∧c < top 0 q:=by
 induction q using zkp with
 | h0=>intro _;simp [top]
 | h1 q x ih=>
  intro h;obtain ⟨h1,h2,h3⟩:=zwd.1 h;obtain ⟨i1,i2,i3⟩:=ih h1;rw [z9s];refine ⟨by omega,by simp;omega,?_⟩;intro c hc;rcases List.mem_append.1 hc with hc | hc
  ·have:=i3 c hc;omega
  ·simp only [List.mem_singleton] at hc;subst hc;omega
theorem zl3 {p:List Int} (h:okP p=true) (k:Nat):okP (p.take k)=true:=by
 have:=h;rw [←List.take_append_drop k p] at this;simp only [okP,z88,zA] at this;exact this.1
theorem ok_at {p:List Int} (h:okP p=true) {k:Nat} (hk:k < p.length):0≤p[k]∧p[k]≤top 0 (p.take k):=by
 have:=zl3 h (k+1);rw [z1y hk] at this;exact (zwd.1 this).2
def cnt (c:Int) (p:List Int):Int:=((p.count c:Nat):Int)
theorem zlt (c:Int) (q:List Int) (x:Int):cnt c (q++[x])=cnt c q+(if x=c then 1 else 0):=by
 simp only [cnt,List.count_append,List.count_singleton];split <;> simp_all
theorem zut (c:Int) (q:List Int):0≤cnt c q:=by simp [cnt]
theorem cnt_le (c:Int) (q:List Int):cnt c q≤q.length:=by
 have:=List.count_le_length (a:=c) (l:=q);simp only [cnt];omega
theorem cnt_zero {c:Int} {q:List Int} (h:c∉q):cnt c q=0:=by simp [cnt,List.count_eq_zero_of_not_mem h]
def szL (p:List Int):List Int:=(List.range (top 0 p).toNat).map fun (i:Nat)=>cnt (i:Int) p
theorem zve {p:List Int}:(szL p).length=(top 0 p).toNat:=by simp [szL]
theorem zpy {p:List Int} {k:Nat} (h:k < (szL p).length):(szL p)[k]=cnt (k:Int) p:=by simp [szL]
theorem szL_new {q:List Int} {x:Int} (h:okP q=true) (hx:x=top 0 q):szL (q++[x])=szL q++[1]:=by
 obtain ⟨b1,b2,b3⟩:=z2r h;have ht:(top 0 (q++[x])).toNat=(top 0 q).toNat+1:=by rw [z9s];omega
 simp only [szL,ht,List.range_succ,List.map_append,List.map_cons,List.map_nil];congr 1
 ·apply List.map_congr_left;intro i hi;simp only [List.mem_range] at hi;rw [zlt,if_neg (by omega)];simp
 ·have:((top 0 q).toNat:Int)=x:=by omega
  rw [this,zlt,if_pos rfl,cnt_zero (fun hm=>by have:=b3 x hm;omega)];rfl
theorem szL_old {q:List Int} {k:Nat} (hx:(k:Int) < top 0 q):szL (q++[(k:Int)])=(szL q).set k (cnt k q+1):=by
 have ht:top 0 (q++[(k:Int)])=top 0 q:=by rw [z9s];omega
 apply List.ext_getElem
 ·simp [szL,ht]
 ·intro i h1 h2;rw [zpy,List.getElem_set];rw [zlt];by_cases he:k=i
  ·subst he;simp
  ·rw [if_neg (by omega),if_neg he,zpy];simp
theorem f97_eq (N:Nat) (p:List Int) (hN:p.length < N) (hl:p.length < 4294967296):f97 N p=some (if okP p then szL p else []):=by
 unfold f97;rw [zxm N p hN hl];simp only [Option.bind_some]
 cases hok:okP p with
 | false=>rfl
 | true=>
  simp only [Bool.not_true,cond_false,if_true];refine z26 (fun k s=>s=szL (p.take k)) p.length ?_ ?_ N hN [] ?_
  ·intro k s w hk hs hw;subst hs;simp only [zny];have hq:=zl3 hok k;obtain ⟨b1,b2,b3⟩:=z2r hq;obtain ⟨a1,a2⟩:=ok_at hok hk;have hsl:(szL (p.take k)).length=(top 0 (p.take k)).toNat:=zve;simp only [List.length_take] at b2;rw [z1h hk,cond_true,z0t hk];simp only [Option.bind_some];by_cases he:p[k]=top 0 (p.take k)
   ·have e1:decide (p[k]=len (szL (p.take k)))=true:=by simp only [len,hsl,decide_eq_true_eq];omega
    have hc:p[k]=(((szL (p.take k)).length:Nat):Int):=by omega
    have hnew:=szL_new hq he;rw [e1,cond_true,z72 (by simp;omega),hc,z0m (z3m (by simp)),z0t (by simp)];simp only [Option.bind_some,List.getElem_append_right (Nat.le_refl _),Nat.sub_self,List.getElem_cons_zero];rw [z09 (by omega) (by omega),z6u];have:(szL (p.take k)++[0]).set (szL (p.take k)).length (z0k (0+1))=szL (p.take (k+1)):=by
     rw [z09 (by omega) (by omega),z1y hk,hnew];simp
    rw [this,z0m (z3m (by simp))];exact hw _ rfl
   ·have e1:decide (p[k]=len (szL (p.take k)))=false:=by simp only [len,hsl,decide_eq_false_iff_not];omega
    obtain ⟨j,hj⟩:=Int.eq_ofNat_of_zero_le a1;have hjl:j < (szL (p.take k)).length:=by omega
    rw [e1,cond_false,hj,z0m (z3m hjl),z0t hjl];simp only [Option.bind_some];have hc:=zut (j:Int) (p.take k);have hc2:=cnt_le (j:Int) (p.take k);simp only [List.length_take] at hc2;rw [z0m (z3m hjl),z09 (by omega) (by omega),zpy,z09 (by omega) (by omega),z6u];apply hw;rw [z1y hk,hj,szL_old (by omega)]
  ·intro s w hs;subst hs;simp only [zny];rw [z11,cond_false,List.take_length]
  ·rfl
theorem f81_eq (N:Nat) (p:List Int) (hN:p.length < N) (hl:p.length < 4294967296):f81 N p=some (if okP p then top 0 p else 0):=by
 unfold f81;rw [f97_eq N p hN hl];simp only [Option.bind_some]
 cases h:okP p with
 | false=>rfl
 | true=>
  simp only [if_true,len,zve];have:=(z2r h).1;congr 1;omega
theorem f44_eq (N:Nat) (p:List Int) (hN:p.length < N) (hl:p.length < 4294967296) (hok:okP p=true):f44 N p=some (top 0 p):=by
 unfold f44;rw [f67_eq N p hN hl,hok];simp only [Option.bind_some,Bool.not_true,cond_false];refine z26 (fun k s=>s=top 0 (p.take k)) p.length ?_ ?_ N hN 0 rfl
 ·intro k s w hk hs hw;subst hs;simp only [zoc];have hq:=zl3 hok k;obtain ⟨b1,b2,b3⟩:=z2r hq;obtain ⟨a1,a2⟩:=ok_at hok hk;simp only [List.length_take] at b2;rw [z1h hk,cond_true,z0t hk];simp only [Option.bind_some];rw [z09 (by omega) (by omega),z09 (by omega) (by omega)];by_cases he:p[k]=top 0 (p.take k)
  ·rw [decide_eq_true he,cond_true];apply hw;rw [z1y hk,z9s];omega
  ·rw [decide_eq_false he,cond_false];apply hw;rw [z1y hk,z9s];omega
 ·intro s w hs;subst hs;simp only [zoc];rw [z11,cond_false,List.take_length]
section
variable {α β:Type} [DecidableEq α] [DecidableEq β]
theorem z6d (l:List α):(ofL l).length=l.length:=zbg [] l
theorem z7o {x:α}:{l:List α}->x∈l->l[z5i x l]? = some x
 | y :: l,h=>by
  simp only [z5i];split
  ·rename_i he;simp [he]
  ·rename_i hne;have:x∈l:=by
    rcases List.mem_cons.1 h with rfl | h
    ·exact absurd rfl hne
    ·exact h
   simpa using z7o this
theorem zw2 {x y:α} {l:List α} (hx:x∈l) (hy:y∈l) (h:z5i x l=z5i y l):x=y:=by
 have h1:=z7o hx;have h2:=z7o hy;rw [h,h2] at h1;simpa using h1.symm
theorem zwg {l:List α} {j:Nat} (h:j < l.length):(ofL l)[j]? = some ((z5i l[j] (z8s [] l):Nat):Int):=zf8 [] l j h
theorem zsb {l:List α} {i j:Nat} (hi:i < l.length) (hj:j < l.length):(ofL l)[i]'(by rw [z6d];exact hi)=(ofL l)[j]'(by rw [z6d];exact hj)↔l[i]=l[j]:=by
 have h1:=zwg hi;have h2:=zwg hj;rw [List.getElem?_eq_getElem (by rw [z6d];exact hi)] at h1;rw [List.getElem?_eq_getElem (by rw [z6d];exact hj)] at h2;simp only [zI] at h1 h2;rw [h1,h2];constructor
 ·intro h;exact zw2 (l:=z8s [] l) (by rw [za1];right;exact List.getElem_mem hi) (by rw [za1];right;exact List.getElem_mem hj) (by omega)
 ·intro h;rw [h]
theorem zmz {f:α->β} {x:α}:{l:List α}->(∀ y∈l,f y=f x->y=x)->z5i (f x) (l.map f)=z5i x l
 | [],_=>rfl
 | y :: l,h=>by
  have ih:=zmz (f:=f) (x:=x) (l:=l) (fun z hz=>h z (by simp [hz]));simp only [List.map_cons,z5i];by_cases he:y=x
  ·simp [he]
  ·have:¬ f y=f x:=fun hf=>he (h y (by simp) hf)
   simp [he,this,ih]
theorem zlu {f:α->β}:(acc l:List α)->(∀ x∈acc++l,∀ y∈acc++l,f x=f y->x=y)->zec (acc.map f) (l.map f)=zec acc l
 | _,[],_=>rfl
 | acc,x :: l,h=>by
  simp only [List.map_cons,zec];by_cases hm:x∈acc
  ·have h1:f x∈acc.map f:=List.mem_map.2 ⟨x,hm,rfl⟩;rw [if_pos hm,if_pos h1,zmz (fun y hy he=>h y (by simp [hy]) x (by simp) he),zlu acc l (fun a ha b hb=>h a (by simp at ha ⊢;rcases ha with ha | ha <;> simp [ha]) b (by simp at hb ⊢;rcases hb with hb | hb <;> simp [hb]))]
  ·have h1:f x∉acc.map f:=by
    intro hh;obtain ⟨y,hy,he⟩:=List.mem_map.1 hh;exact hm (by rw [←h y (by simp [hy]) x (by simp) he];exact hy)
   rw [if_neg hm,if_neg h1,List.length_map];have:=zlu (f:=f) (acc++[x]) l (fun a ha b hb=>h a (by simpa using ha) b (by simpa using hb));simp only [List.map_append,List.map_cons,List.map_nil] at this;rw [this]
theorem zwf {f:α->β} {l:List α} (h:∀ x∈l,∀ y∈l,f x=f y->x=y):ofL (l.map f)=ofL l:=zlu [] l (by simpa using h)
theorem zg5 {l:List α} {m:List β} (hlen:l.length=m.length) (h:∀ i j (hi:i < l.length) (hj:j < l.length),l[i]=l[j]↔m[i]'(by omega)=m[j]'(by omega)):ofL l=ofL m:=by
 have hm:m.map some=l.map (fun x=>m[z5i x l]?):=by
  apply List.ext_getElem
  ·simp [hlen]
  ·intro j h1 h2;have hj:j < l.length:=by simpa using h2
   have hp:=za0 (List.getElem_mem hj);have hg:=z7o (List.getElem_mem hj);rw [List.getElem?_eq_getElem hp] at hg;simp only [zI] at hg;simp only [List.getElem_map];rw [List.getElem?_eq_getElem (by omega)];congr 1;exact ((h _ _ hp hj).1 hg).symm
 have h1:ofL (m.map some)=ofL m:=zwf (fun x _ y _ he=>by simpa using he);rw [←h1,hm];symm;apply zwf;intro x hx y hy he;have hpx:=za0 hx;have hpy:=za0 hy;have hgx:=z7o hx;have hgy:=z7o hy;rw [List.getElem?_eq_getElem hpx] at hgx;rw [List.getElem?_eq_getElem hpy] at hgy;simp only [zI] at hgx hgy;rw [List.getElem?_eq_getElem (by omega),List.getElem?_eq_getElem (by omega)] at he;simp only [zI] at he;rw [←hgx,←hgy];exact (h _ _ hpx hpy).2 he
end
end Go.Kz
