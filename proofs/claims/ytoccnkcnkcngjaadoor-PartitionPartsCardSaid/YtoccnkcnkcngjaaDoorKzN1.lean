/-
  What the functions of the layer partition compute, at this seat's numbers: plain laws (turned from those of the other seat).
-/
import Derived.Test.YtoccnkcnkcngjaaDoorKzP4D
import Derived.Test.YtoccnkcnkcngjaaDoorKzAR
set_option linter.unusedVariables false
set_option linter.unusedSimpArgs false
namespace Go.Kz
def okFrom:Int→List Int→Bool
 | _,[]=>true
 | n,c :: l=>decide (0≤c) && decide (c≤n) && okFrom (max n (c+1)) l
def okP (p:List Int):Bool:=okFrom 0 p
theorem f28_eq (N:Nat) (p:List Int) (hN:p.length < N) (hl:p.length < 4294967296):f28 N p=some (okP p):=by
 unfold f28
 refine iter_rule (fun x:Int×Int=>∃ k:Nat,x.1=k∧k≤p.length∧0≤x.2∧x.2≤k∧okP p=okFrom x.2 (p.drop k)) (fun x=>p.length-x.1.toNat) ?_ N (0,0) ⟨0,rfl,by omega,by simp,by simp,by simp [okP]⟩ (by simpa using hN)
 rintro ⟨i,n⟩ w ⟨k,hi,hk,hn0,hnk,heq⟩ hw
 simp only at hi hn0 hnk heq
 subst hi
 simp only [f28_L3]
 by_cases hlt:k < p.length
 ·have e2:decide ((k:Int) < len p)=true:=by simp [len,hlt]
  rw [e2,cond_true,idx_lt hlt]
  simp only [Option.bind_some]
  rw [List.drop_eq_getElem_cons hlt] at heq
  simp only [okFrom] at heq
  by_cases h0:p[k] < 0
  ·have:¬ (0≤p[k]):=by omega
   simp [h0,heq,this]
  ·by_cases h1:n < p[k]
   ·have h2:¬ (p[k]≤n):=by omega
    simp [h0,h1,heq,h2]
   ·have e3:decide (0≤p[k])=true:=by simp;omega
    have e4:decide (p[k]≤n)=true:=by simp;omega
    rw [e3,e4] at heq
    simp only [h0,h1,decide_false,cond_false,Option.bind_some]
    rw [wi64_of (by omega) (by omega),wi64_of (by omega) (by omega)]
    have hm:maxI n (p[k]+1)=max n (p[k]+1):=by simp only [maxI];split <;> omega
    rw [hm]
    exact hw _ ⟨k+1,by simp,by omega,by simp only;omega,by simp only;omega,by simpa using heq⟩ (by simp;omega)
 ·have e2:decide ((k:Int) < len p)=false:=by simp [len];omega
  rw [e2,cond_false,heq,List.drop_eq_nil_of_le (by omega)]
  rfl
theorem f24_eq (N:Nat) (p:List Int) (hN:p.length < N) (hl:p.length < 4294967296):f24 N p=some (okP p):=by
 unfold f24
 refine iter_rule (fun x:Int×Int=>∃ k:Nat,x.1=k∧k≤p.length∧0≤x.2∧x.2≤k∧okP p=okFrom x.2 (p.drop k)) (fun x=>p.length-x.1.toNat) ?_ N (0,0) ⟨0,rfl,by omega,by simp,by simp,by simp [okP]⟩ (by simpa using hN)
 rintro ⟨i,n⟩ w ⟨k,hi,hk,hn0,hnk,heq⟩ hw
 simp only at hi hn0 hnk heq
 subst hi
 simp only [f24_L3]
 by_cases hlt:k < p.length
 ·have e2:decide ((k:Int) < len p)=true:=by simp [len,hlt]
  rw [e2,cond_true,idx_lt hlt]
  simp only [Option.bind_some]
  rw [List.drop_eq_getElem_cons hlt] at heq
  simp only [okFrom] at heq
  by_cases h0:p[k] < 0
  ·have:¬ (0≤p[k]):=by omega
   simp [h0,heq,this]
  ·by_cases h1:n < p[k]
   ·have h2:¬ (p[k]≤n):=by omega
    simp [h0,h1,heq,h2]
   ·have e3:decide (0≤p[k])=true:=by simp;omega
    have e4:decide (p[k]≤n)=true:=by simp;omega
    rw [e3,e4] at heq
    simp only [h0,h1,decide_false,cond_false,Option.bind_some]
    rw [wi64_of (by omega) (by omega)]
    by_cases hq:p[k]=n
    ·have hm:max n (p[k]+1)=n+1:=by omega
     rw [hm] at heq
     rw [wi64_of (by omega) (by omega)]
     simp only [hq,decide_true,cond_true]
     exact hw _ ⟨k+1,by simp,by omega,by simp only;omega,by simp only;omega,by simpa using heq⟩ (by simp;omega)
    ·have hm:max n (p[k]+1)=n:=by omega
     rw [hm] at heq
     simp only [hq,decide_false,cond_false]
     exact hw _ ⟨k+1,by simp,by omega,by simp only;omega,by simp only;omega,by simpa using heq⟩ (by simp;omega)
 ·have e2:decide ((k:Int) < len p)=false:=by simp [len];omega
  rw [e2,cond_false,heq,List.drop_eq_nil_of_le (by omega)]
  rfl
def nubA:List Int→List Int→List Int
 | acc,[]=>acc
 | acc,x :: l=>if x∈acc then nubA acc l else nubA (acc++[x]) l
def posOf (x:Int):List Int→Nat
 | []=>0
 | y :: l=>if y=x then 0 else posOf x l+1
def clsA:List Int→List Int→List Int
 | _,[]=>[]
 | acc,x :: l=>if x∈acc then (posOf x acc:Int) :: clsA acc l else (acc.length:Int) :: clsA (acc++[x]) l
def ofL (l:List Int):List Int:=clsA [] l
theorem posOf_lt {x:Int}:{l:List Int}→x∈l→posOf x l < l.length
 | y :: l,h=>by
  simp only [posOf]
  split
  ·simp
  ·rename_i hne
   have:x∈l:=by
    rcases List.mem_cons.1 h with rfl | h
    ·exact absurd rfl hne
    ·exact h
   have:=posOf_lt this
   simp only [List.length_cons];omega
theorem posOf_append {x:Int}:{l m:List Int}→x∈l→posOf x (l++m)=posOf x l
 | y :: l,m,h=>by
  simp only [List.cons_append,posOf]
  split
  ·rfl
  ·rename_i hne
   have:x∈l:=by
    rcases List.mem_cons.1 h with rfl | h
    ·exact absurd rfl hne
    ·exact h
   rw [posOf_append this]
theorem posOf_new {x:Int}:{l:List Int}→x∉l→posOf x (l++[x])=l.length
 | [],_=>by simp [posOf]
 | y :: l,h=>by
  have h1:y≠x:=by intro he;subst he;simp at h
  have h2:x∉l:=by intro hm;exact h (by simp [hm])
  simp only [List.cons_append,posOf,if_neg h1,posOf_new h2,List.length_cons]
theorem clsA_length:(acc l:List Int)→(clsA acc l).length=l.length
 | _,[]=>rfl
 | acc,x :: l=>by simp only [clsA];split <;> simp [clsA_length _ l]
theorem nubA_mem {x:Int}:{acc l:List Int}→(x∈nubA acc l↔x∈acc∨x∈l)
 | acc,[]=>by simp [nubA]
 | acc,y :: l=>by
  simp only [nubA]
  split
  ·rename_i h
   rw [nubA_mem]
   simp only [List.mem_cons]
   constructor
   ·rintro (h1 | h1)
    ·exact .inl h1
    ·exact .inr (.inr h1)
   ·rintro (h1 | rfl | h1)
    ·exact .inl h1
    ·exact .inl h
    ·exact .inr h1
  ·rw [nubA_mem]
   simp [or_assoc]
theorem clsA_split:(acc l m:List Int)→clsA acc (l++m)=clsA acc l++clsA (nubA acc l) m
 | _,[],_=>rfl
 | acc,x :: l,m=>by
  simp only [List.cons_append,clsA,nubA]
  split <;> simp [clsA_split _ l m]
theorem nubA_ext:(acc l:List Int)→∃ ys,nubA acc l=acc++ys
 | acc,[]=>⟨[],by simp [nubA]⟩
 | acc,x :: l=>by
  simp only [nubA]
  split
  ·exact nubA_ext acc l
  ·obtain ⟨ys,h⟩:=nubA_ext (acc++[x]) l
   exact ⟨x :: ys,by rw [h];simp⟩
theorem nubA_length:(acc l:List Int)→(nubA acc l).length≤acc.length+l.length
 | acc,[]=>by simp [nubA]
 | acc,x :: l=>by
  simp only [nubA]
  split
  ·have:=nubA_length acc l;simp;omega
  ·have:=nubA_length (acc++[x]) l;simp at this ⊢;omega
theorem clsA_get:(acc l:List Int)→(j:Nat)→(h:j < l.length)→(clsA acc l)[j]? = some ((posOf l[j] (nubA acc l):Nat):Int)
 | acc,x :: l,0,_=>by
  simp only [clsA,nubA,List.getElem_cons_zero]
  split
  ·rename_i hm
   obtain ⟨ys,hy⟩:=nubA_ext acc l
   rw [hy,posOf_append hm];rfl
  ·rename_i hm
   obtain ⟨ys,hy⟩:=nubA_ext (acc++[x]) l
   rw [hy,posOf_append (by simp),posOf_new hm];rfl
 | acc,x :: l,j+1,h=>by
  have h':j < l.length:=by simpa using h
  simp only [clsA,nubA,List.getElem_cons_succ]
  split
  ·simpa using clsA_get acc l j h'
  ·simpa using clsA_get (acc++[x]) l j h'
theorem f11_eq (N:Nat) (l:List Int) (hN:l.length < N) (hl:l.length < 4294967296):f11 N l=some (ofL l):=by
 unfold f11
 refine iter_rule (fun x:Int×Int×List Int=>∃ (k:Nat),x.1=k∧k≤l.length∧x.2.1=((nubA [] (l.take k)).length:Int)∧x.2.2=ofL (l.take k)) (fun x=>l.length-x.1.toNat) ?_ N _
  ⟨0,rfl,by omega,by simp [nubA],by simp [ofL,clsA]⟩ (by simpa using hN)
 rintro ⟨i,nx,out⟩ w ⟨k,hi,hk,hnx,hout⟩ hw
 simp only at hi hnx hout
 subst hi;subst hnx;subst hout
 simp only [f11_L4]
 have hnl:(nubA [] (l.take k)).length≤k:=by
  have:=nubA_length [] (l.take k)
  simp at this;omega
 have hol:(ofL (l.take k)).length=k:=by simp [ofL,clsA_length];omega
 by_cases hlt:k < l.length
 ·have e2:decide ((k:Int) < len l)=true:=by simp [len,hlt]
  rw [e2,cond_true]
  have htk:l.take (k+1)=l.take k++[l[k]]:=by rw [List.take_succ_eq_append_getElem hlt]
  refine iter_rule (fun x:Int×Int=>∃ (j:Nat),x.1=j∧j≤k∧x.2=if l[k]∈l.take j then ((posOf l[k] (nubA [] (l.take k)):Nat):Int) else ((nubA [] (l.take k)).length:Int)) (fun x=>k-x.1.toNat) ?_ N _
   ⟨0,rfl,by omega,by simp⟩ (by simp;omega)
  rintro ⟨j,c⟩ v ⟨j',hj,hjk,hc⟩ hv
  simp only at hj hc
  subst hj
  simp only [f11_L8]
  by_cases hjlt:j' < k
  ·have e3:decide ((j':Int) < k)=true:=by simp [hjlt]
   rw [e3,cond_true,idx_lt (l:=l) (k:=j') (by omega),idx_lt hlt]
   simp only [Option.bind_some]
   have htj:l.take (j'+1)=l.take j'++[l[j']'(by omega)]:=by rw [List.take_succ_eq_append_getElem (by omega)]
   by_cases he:l[j']'(by omega)=l[k]
   ·have hget:idx (ofL (l.take k)) (j':Int)=some ((posOf l[k] (nubA [] (l.take k)):Nat):Int):=by
     rw [idx_nat]
     have:=clsA_get [] (l.take k) j' (by simp;omega)
     rw [ofL,this]
     congr 3
     simp [he]
    simp only [he,decide_true,cond_true]
    rw [chk_true (inb_lt (by rw [hol];exact hjlt)),hget]
    simp only [Option.bind_some]
    rw [wi64_of (by omega) (by omega)]
    refine hv _ ⟨j'+1,by simp,by omega,?_⟩ (by simp;omega)
    simp only
    rw [if_pos (by rw [htj];simp [he])]
   ·simp only [he,decide_false,cond_false]
    rw [wi64_of (by omega) (by omega)]
    refine hv _ ⟨j'+1,by simp,by omega,?_⟩ (by simp;omega)
    simp only
    rw [hc,htj]
    have:(l[k]∈l.take j'++[l[j']'(by omega)])=(l[k]∈l.take j'):=by
     simp only [List.mem_append,List.mem_singleton,eq_iff_iff]
     constructor
     ·rintro (h | h)
      ·exact h
      ·exact absurd h.symm he
     ·exact .inl
    simp only [this]
  ·have hjk':j'=k:=by omega
   subst hjk'
   have e3:decide ((j':Int) < (j':Int))=false:=by simp
   rw [e3,cond_false]
   by_cases hmem:l[j']∈l.take j'
   ·rw [if_pos hmem] at hc
    have hmn:l[j']∈nubA [] (l.take j'):=by rw [nubA_mem];exact .inr hmem
    have hp:=posOf_lt hmn
    have e4:decide (c=((nubA [] (l.take j')).length:Int))=false:=by rw [hc];simp;omega
    rw [e4,cond_false,chk_true (by simp [room,hol];omega),wi64_of (by omega) (by omega)]
    refine hw _ ⟨j'+1,by simp,by omega,?_,?_⟩ (by simp;omega)
    ·have key:∀ (acc m:List Int) (x:Int),x∈nubA acc m→nubA acc (m++[x])=nubA acc m:=by
      intro acc m
      induction m generalizing acc with
      | nil=>intro x hx;simp only [List.nil_append,nubA] at hx ⊢;rw [if_pos hx]
      | cons y m ih=>
       intro x hx
       simp only [List.cons_append,nubA] at hx ⊢
       split
       ·rename_i hy;rw [if_pos hy] at hx;exact ih acc x hx
       ·rename_i hy;rw [if_neg hy] at hx;exact ih _ x hx
     simp only
     rw [htk,key _ _ _ hmn]
    ·simp only
     rw [htk,ofL,ofL,clsA_split]
     simp only [clsA,if_pos hmn,hc]
   ·rw [if_neg hmem] at hc
    have hmn:l[j']∉nubA [] (l.take j'):=by rw [nubA_mem];simpa using hmem
    have e4:decide (c=((nubA [] (l.take j')).length:Int))=true:=by rw [hc];simp
    rw [e4,cond_true,chk_true (by simp [room,hol];omega),wi64_of (by omega) (by omega),wi64_of (by omega) (by omega)]
    refine hw _ ⟨j'+1,by simp,by omega,?_,?_⟩ (by simp;omega)
    ·have key:∀ (acc m:List Int) (x:Int),x∉nubA acc m→nubA acc (m++[x])=nubA acc m++[x]:=by
      intro acc m
      induction m generalizing acc with
      | nil=>intro x hx;simp only [List.nil_append,nubA] at hx ⊢;rw [if_neg hx]
      | cons y m ih=>
       intro x hx
       simp only [List.cons_append,nubA] at hx ⊢
       split
       ·rename_i hy;rw [if_pos hy] at hx;exact ih acc x hx
       ·rename_i hy;rw [if_neg hy] at hx;exact ih _ x hx
     simp only
     rw [htk,key _ _ _ hmn];simp
    ·simp only
     rw [htk,ofL,ofL,clsA_split]
     simp only [clsA,if_neg hmn,hc]
 ·have e2:decide ((k:Int) < len l)=false:=by simp [len];omega
  rw [e2,cond_false,List.take_of_length_le (by omega)]
theorem okFrom_cls:(acc l:List Int)→okFrom (acc.length:Int) (clsA acc l)=true
 | _,[]=>rfl
 | acc,x :: l=>by
  simp only [clsA]
  split
  ·rename_i hm
   have:=posOf_lt hm
   have hmx:max (acc.length:Int) ((posOf x acc:Int)+1)=acc.length:=by omega
   simp only [okFrom,hmx,okFrom_cls acc l,Bool.and_true,Bool.and_eq_true,decide_eq_true_eq]
   omega
  ·have hmx:max (acc.length:Int) ((acc.length:Int)+1)=((acc++[x]).length:Int):=by simp;omega
   simp only [okFrom,hmx,okFrom_cls (acc++[x]) l,Bool.and_true,Bool.and_eq_true,decide_eq_true_eq]
   omega
theorem okP_ofL (l:List Int):okP (ofL l)=true:=okFrom_cls [] l
def top:Int→List Int→Int
 | n,[]=>n
 | n,c :: l=>top (max n (c+1)) l
theorem top_append:(n:Int)→(a b:List Int)→top n (a++b)=top (top n a) b
 | _,[],_=>rfl
 | n,x :: a,b=>by simp only [List.cons_append,top,top_append _ a b]
theorem okFrom_append:(n:Int)→(a b:List Int)→okFrom n (a++b)=(okFrom n a && okFrom (top n a) b)
 | _,[],_=>by simp [okFrom,top]
 | n,x :: a,b=>by simp only [List.cons_append,okFrom,top,okFrom_append _ a b,Bool.and_assoc]
theorem top_snoc (q:List Int) (x:Int):top 0 (q++[x])=max (top 0 q) (x+1):=by rw [top_append];rfl
theorem ok_snoc {q:List Int} {x:Int}:okP (q++[x])=true↔okP q=true∧0≤x∧x≤top 0 q:=by
 simp [okP,okFrom_append,okFrom]
theorem top_bound {q:List Int}:okP q=true→0≤top 0 q∧top 0 q≤q.length∧∀ c∈q,0≤c∧c < top 0 q:=by
 induction q using rev_ind with
 | h0=>intro _;simp [top]
 | h1 q x ih=>
  intro h
  obtain ⟨h1,h2,h3⟩:=ok_snoc.1 h
  obtain ⟨i1,i2,i3⟩:=ih h1
  rw [top_snoc]
  refine ⟨by omega,by simp;omega,?_⟩
  intro c hc
  rcases List.mem_append.1 hc with hc | hc
  ·have:=i3 c hc;omega
  ·simp only [List.mem_singleton] at hc;subst hc;omega
theorem ok_take {p:List Int} (h:okP p=true) (k:Nat):okP (p.take k)=true:=by
 have:=h
 rw [←List.take_append_drop k p] at this
 simp only [okP,okFrom_append,Bool.and_eq_true] at this
 exact this.1
theorem ok_at {p:List Int} (h:okP p=true) {k:Nat} (hk:k < p.length):0≤p[k]∧p[k]≤top 0 (p.take k):=by
 have:=ok_take h (k+1)
 rw [take_succ hk] at this
 exact (ok_snoc.1 this).2
def cnt (c:Int) (p:List Int):Int:=((p.count c:Nat):Int)
theorem cnt_snoc (c:Int) (q:List Int) (x:Int):cnt c (q++[x])=cnt c q+(if x=c then 1 else 0):=by
 simp only [cnt,List.count_append,List.count_singleton]
 split <;> simp_all
theorem cnt_nonneg (c:Int) (q:List Int):0≤cnt c q:=by simp [cnt]
theorem cnt_le (c:Int) (q:List Int):cnt c q≤q.length:=by
 have:=List.count_le_length (a:=c) (l:=q)
 simp only [cnt];omega
theorem cnt_zero {c:Int} {q:List Int} (h:c∉q):cnt c q=0:=by simp [cnt,List.count_eq_zero_of_not_mem h]
def szL (p:List Int):List Int:=(List.range (top 0 p).toNat).map fun (i:Nat)=>cnt (i:Int) p
theorem szL_len {p:List Int}:(szL p).length=(top 0 p).toNat:=by simp [szL]
theorem szL_get {p:List Int} {k:Nat} (h:k < (szL p).length):(szL p)[k]=cnt (k:Int) p:=by simp [szL]
theorem szL_new {q:List Int} {x:Int} (h:okP q=true) (hx:x=top 0 q):szL (q++[x])=szL q++[1]:=by
 obtain ⟨b1,b2,b3⟩:=top_bound h
 have ht:(top 0 (q++[x])).toNat=(top 0 q).toNat+1:=by rw [top_snoc];omega
 simp only [szL,ht,List.range_succ,List.map_append,List.map_cons,List.map_nil]
 congr 1
 ·apply List.map_congr_left
  intro i hi
  simp only [List.mem_range] at hi
  rw [cnt_snoc,if_neg (by omega)];simp
 ·have:((top 0 q).toNat:Int)=x:=by omega
  rw [this,cnt_snoc,if_pos rfl,cnt_zero (fun hm=>by have:=b3 x hm;omega)];rfl
theorem szL_old {q:List Int} {k:Nat} (hx:(k:Int) < top 0 q):szL (q++[(k:Int)])=(szL q).set k (cnt k q+1):=by
 have ht:top 0 (q++[(k:Int)])=top 0 q:=by rw [top_snoc];omega
 apply List.ext_getElem
 ·simp [szL,ht]
 ·intro i h1 h2
  rw [szL_get,List.getElem_set]
  rw [cnt_snoc]
  by_cases he:k=i
  ·subst he;simp
  ·rw [if_neg (by omega),if_neg he,szL_get];simp
theorem f27_eq (N:Nat) (p:List Int) (hN:p.length < N) (hl:p.length < 4294967296):f27 N p=some (if okP p then szL p else []):=by
 unfold f27
 rw [f28_eq N p hN hl]
 simp only [Option.bind_some]
 cases hok:okP p with
 | false=>rfl
 | true=>
  simp only [Bool.not_true,cond_false,if_true]
  refine iter_for (fun k s=>s=szL (p.take k)) p.length ?_ ?_ N hN [] ?_
  ·intro k s w hk hs hw
   subst hs
   simp only [f27_L5]
   have hq:=ok_take hok k
   obtain ⟨b1,b2,b3⟩:=top_bound hq
   obtain ⟨a1,a2⟩:=ok_at hok hk
   have hsl:(szL (p.take k)).length=(top 0 (p.take k)).toNat:=szL_len
   simp only [List.length_take] at b2
   rw [dlt_len hk,cond_true,idx_lt hk]
   simp only [Option.bind_some]
   by_cases he:p[k]=top 0 (p.take k)
   ·have e1:decide (p[k]=len (szL (p.take k)))=true:=by simp only [len,hsl,decide_eq_true_eq];omega
    have hc:p[k]=(((szL (p.take k)).length:Nat):Int):=by omega
    have hnew:=szL_new hq he
    rw [e1,cond_true,chk_room (by simp;omega),hc,chk_true (inb_lt (by simp)),idx_lt (by simp)]
    simp only [Option.bind_some,List.getElem_append_right (Nat.le_refl _),Nat.sub_self,List.getElem_cons_zero]
    rw [wi64_of (by omega) (by omega),setI_nat]
    have:(szL (p.take k)++[0]).set (szL (p.take k)).length (wi64 (0+1))=szL (p.take (k+1)):=by
     rw [wi64_of (by omega) (by omega),take_succ hk,hnew]
     simp
    rw [this,chk_true (inb_lt (by simp))]
    exact hw _ rfl
   ·have e1:decide (p[k]=len (szL (p.take k)))=false:=by simp only [len,hsl,decide_eq_false_iff_not];omega
    obtain ⟨j,hj⟩:=Int.eq_ofNat_of_zero_le a1
    have hjl:j < (szL (p.take k)).length:=by omega
    rw [e1,cond_false,hj,chk_true (inb_lt hjl),idx_lt hjl]
    simp only [Option.bind_some]
    have hc:=cnt_nonneg (j:Int) (p.take k)
    have hc2:=cnt_le (j:Int) (p.take k)
    simp only [List.length_take] at hc2
    rw [chk_true (inb_lt hjl),wi64_of (by omega) (by omega),szL_get,wi64_of (by omega) (by omega),setI_nat]
    apply hw
    rw [take_succ hk,hj,szL_old (by omega)]
  ·intro s w hs
   subst hs
   simp only [f27_L5]
   rw [dnlt_len,cond_false,List.take_length]
  ·rfl
theorem f12_eq (N:Nat) (p:List Int) (hN:p.length < N) (hl:p.length < 4294967296):f12 N p=some (if okP p then top 0 p else 0):=by
 unfold f12
 rw [f24_eq N p hN hl]
 simp only [Option.bind_some]
 cases hok:okP p with
 | false=>rfl
 | true=>
  simp only [Bool.not_true,cond_false,if_true]
  refine iter_for (fun k s=>s=top 0 (p.take k)) p.length ?_ ?_ N hN 0 rfl
  ·intro k s w hk hs hw
   subst hs
   simp only [f12_L5]
   have hq:=ok_take hok k
   obtain ⟨b1,b2,b3⟩:=top_bound hq
   obtain ⟨a1,a2⟩:=ok_at hok hk
   simp only [List.length_take] at b2
   rw [dlt_len hk,cond_true,idx_lt hk]
   simp only [Option.bind_some]
   rw [wi64_of (by omega) (by omega),wi64_of (by omega) (by omega)]
   have ht:top 0 (p.take (k+1))=max (top 0 (p.take k)) (p[k]+1):=by rw [take_succ hk,top_snoc]
   by_cases he:p[k]=top 0 (p.take k)
   ·simp only [he,decide_true,cond_true]
    exact hw _ (by rw [ht];omega)
   ·simp only [he,decide_false,cond_false]
    exact hw _ (by rw [ht];omega)
  ·intro s w hs
   subst hs
   simp only [f12_L5]
   rw [dnlt_len,cond_false,List.take_length]
theorem f17_eq (N:Nat) (p:List Int) (hN:p.length < N) (hl:p.length < 4294967296):f17 N p=some (if okP p then top 0 p else 0):=by
 unfold f17
 rw [f27_eq N p hN hl]
 simp only [Option.bind_some]
 cases hok:okP p with
 | false=>rfl
 | true=>
  have:=top_bound hok
  simp only [if_true,len,szL_len]
  congr 1;omega
end Go.Kz
