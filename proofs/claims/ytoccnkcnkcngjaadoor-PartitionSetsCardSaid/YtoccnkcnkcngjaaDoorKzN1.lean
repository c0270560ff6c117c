/-
  What the functions of the layer partition compute, at this seat's numbers: plain laws (turned from those of the other seat).
-/
import Derived.Test.YtoccnkcnkcngjaaDoorKzP4D
import Derived.Test.YtoccnkcnkcngjaaDoorKzAR
set_option linter.unusedVariables false
set_option linter.unusedSimpArgs false
namespace Go.Kz
theorem f10_eq (N:Nat) (a b:List Int) (hN:a.length < N) (hl:a.length < 4294967296):f10 N a b=some (decide (a=b)):=by
 unfold f10
 by_cases hlen:a.length=b.length
 ·have e1:(!decide (len a=len b))=false:=by simp [len,hlen]
  rw [e1,cond_false]
  refine iter_rule (fun x:Int=>∃ k:Nat,x=k∧k≤a.length∧∀ j,j < k→a[j]? = b[j]?) (fun x=>a.length-x.toNat) ?_ N 0 ⟨0,rfl,by omega,by intro j hj;omega⟩ (by simpa using hN)
  rintro x w ⟨k,rfl,hk,hpre⟩ hw
  simp only [f10_L4]
  by_cases hlt:k < a.length
  ·have e2:decide ((k:Int) < len a)=true:=by simp [len,hlt]
   rw [e2,cond_true,idx_lt hlt,idx_lt (l:=b) (by omega)]
   simp only [Option.bind_some]
   by_cases he:a[k]=b[k]'(by omega)
   ·rw [wi64_of (by omega) (by omega)]
    simp only [he,decide_true,Bool.not_true,cond_false]
    refine hw _ ⟨k+1,by omega,by omega,fun j hj=>?_⟩ (by simp;omega)
    by_cases hjk:j=k
    ·subst hjk;rw [List.getElem?_eq_getElem hlt,List.getElem?_eq_getElem (by omega),he]
    ·exact hpre j (by omega)
   ·have hne:a≠b:=by intro h;subst h;exact he rfl
    simp [he,hne]
  ·have e2:decide ((k:Int) < len a)=false:=by simp [len];omega
   rw [e2,cond_false]
   have:a=b:=by
    apply List.ext_getElem?
    intro j
    by_cases hj:j < k
    ·exact hpre j hj
    ·rw [List.getElem?_eq_none (by omega),List.getElem?_eq_none (by omega)]
   simp [this]
 ·have e1:(!decide (len a=len b))=true:=by simp [len];omega
  have hne:a≠b:=by intro h;subst h;exact hlen rfl
  rw [e1,cond_true];simp [hne]
def okFrom:Int→List Int→Bool
 | _,[]=>true
 | n,c :: l=>decide (0≤c) && decide (c≤n) && okFrom (max n (c+1)) l
def okP (p:List Int):Bool:=okFrom 0 p
theorem f28_eq (N:Nat) (p:List Int) (hN:p.length < N) (hl:p.length < 4294967296):f28 N p=some (okP p):=by
 unfold f28
 refine iter_rule (fun x:Int×Int=>∃ k:Nat,x.1=k∧k≤p.length∧0≤x.2∧x.2≤k∧okP p=okFrom x.2 (p.drop k)) (fun x=>p.length-x.1.toNat) ?_ N (0,0) ⟨0,rfl,by omega,by simp,by simp,by simp [okP]⟩ (by simpa using hN)
 rintro ⟨i,n⟩ w ⟨k,hi,hk,hn0,hnk,heq⟩ hw
 simp only at hi hn0 hnk heq
 subst hi
 simp only [f28_L3]
 by_cases hlt:k < p.length
 ·have e2:decide ((k:Int) < len p)=true:=by simp [len,hlt]
  rw [e2,cond_true,idx_lt hlt]
  simp only [Option.bind_some]
  rw [List.drop_eq_getElem_cons hlt] at heq
  simp only [okFrom] at heq
  by_cases h0:p[k] < 0
  ·have:¬ (0≤p[k]):=by omega
   simp [h0,heq,this]
  ·by_cases h1:n < p[k]
   ·have h2:¬ (p[k]≤n):=by omega
    simp [h0,h1,heq,h2]
   ·have e3:decide (0≤p[k])=true:=by simp;omega
    have e4:decide (p[k]≤n)=true:=by simp;omega
    rw [e3,e4] at heq
    simp only [h0,h1,decide_false,cond_false,Option.bind_some]
    rw [wi64_of (by omega) (by omega),wi64_of (by omega) (by omega)]
    have hm:maxI n (p[k]+1)=max n (p[k]+1):=by simp only [maxI];split <;> omega
    rw [hm]
    exact hw _ ⟨k+1,by simp,by omega,by simp only;omega,by simp only;omega,by simpa using heq⟩ (by simp;omega)
 ·have e2:decide ((k:Int) < len p)=false:=by simp [len];omega
  rw [e2,cond_false,heq,List.drop_eq_nil_of_le (by omega)]
  rfl
theorem f24_eq (N:Nat) (p:List Int) (hN:p.length < N) (hl:p.length < 4294967296):f24 N p=some (okP p):=by
 unfold f24
 refine iter_rule (fun x:Int×Int=>∃ k:Nat,x.1=k∧k≤p.length∧0≤x.2∧x.2≤k∧okP p=okFrom x.2 (p.drop k)) (fun x=>p.length-x.1.toNat) ?_ N (0,0) ⟨0,rfl,by omega,by simp,by simp,by simp [okP]⟩ (by simpa using hN)
 rintro ⟨i,n⟩ w ⟨k,hi,hk,hn0,hnk,heq⟩ hw
 simp only at hi hn0 hnk heq
 subst hi
 simp only [f24_L3]
 by_cases hlt:k < p.length
 ·have e2:decide ((k:Int) < len p)=true:=by simp [len,hlt]
  rw [e2,cond_true,idx_lt hlt]
  simp only [Option.bind_some]
  rw [List.drop_eq_getElem_cons hlt] at heq
  simp only [okFrom] at heq
  by_cases h0:p[k] < 0
  ·have:¬ (0≤p[k]):=by omega
   simp [h0,heq,this]
  ·by_cases h1:n < p[k]
   ·have h2:¬ (p[k]≤n):=by omega
    simp [h0,h1,heq,h2]
   ·have e3:decide (0≤p[k])=true:=by simp;omega
    have e4:decide (p[k]≤n)=true:=by simp;omega
    rw [e3,e4] at heq
    simp only [h0,h1,decide_false,cond_false,Option.bind_some]
    rw [wi64_of (by omega) (by omega)]
    by_cases hq:p[k]=n
    ·have hm:max n (p[k]+1)=n+1:=by omega
     rw [hm] at heq
     rw [wi64_of (by omega) (by omega)]
     simp only [hq,decide_true,cond_true]
     exact hw _ ⟨k+1,by simp,by omega,by simp only;omega,by simp only;omega,by simpa using heq⟩ (by simp;omega)
    ·have hm:max n (p[k]+1)=n:=by omega
     rw [hm] at heq
     simp only [hq,decide_false,cond_false]
     exact hw _ ⟨k+1,by simp,by omega,by simp only;omega,by simp only;omega,by simpa using heq⟩ (by simp;omega)
 ·have e2:decide ((k:Int) < len p)=false:=by simp [len];omega
  rw [e2,cond_false,heq,List.drop_eq_nil_of_le (by omega)]
  rfl
def nubA:List Int→List Int→List Int
 | acc,[]=>acc
 | acc,x :: l=>if x∈acc then nubA acc l else nubA (acc++[x]) l
theorem nubA_mem {x:Int}:{acc l:List Int}→(x∈nubA acc l↔x∈acc∨x∈l)
 | acc,[]=>by simp [nubA]
 | acc,y :: l=>by
  simp only [nubA]
  split
  ·rename_i h
   rw [nubA_mem]
   simp only [List.mem_cons]
   constructor
   ·rintro (h1 | h1)
    ·exact .inl h1
    ·exact .inr (.inr h1)
   ·rintro (h1 | rfl | h1)
    ·exact .inl h1
    ·exact .inl h
    ·exact .inr h1
  ·rw [nubA_mem]
   simp [or_assoc]
theorem nubA_length:(acc l:List Int)→(nubA acc l).length≤acc.length+l.length
 | acc,[]=>by simp [nubA]
 | acc,x :: l=>by
  simp only [nubA]
  split
  ·have:=nubA_length acc l;simp;omega
  ·have:=nubA_length (acc++[x]) l;simp at this ⊢;omega
def top:Int→List Int→Int
 | n,[]=>n
 | n,c :: l=>top (max n (c+1)) l
theorem top_append:(n:Int)→(a b:List Int)→top n (a++b)=top (top n a) b
 | _,[],_=>rfl
 | n,x :: a,b=>by simp only [List.cons_append,top,top_append _ a b]
theorem okFrom_append:(n:Int)→(a b:List Int)→okFrom n (a++b)=(okFrom n a && okFrom (top n a) b)
 | _,[],_=>by simp [okFrom,top]
 | n,x :: a,b=>by simp only [List.cons_append,okFrom,top,okFrom_append _ a b,Bool.and_assoc]
theorem top_snoc (q:List Int) (x:Int):top 0 (q++[x])=max (top 0 q) (x+1):=by rw [top_append];rfl
theorem ok_snoc {q:List Int} {x:Int}:okP (q++[x])=true↔okP q=true∧0≤x∧x≤top 0 q:=by
 simp [okP,okFrom_append,okFrom]
theorem top_bound {q:List Int}:okP q=true→0≤top 0 q∧top 0 q≤q.length∧∀ c∈q,0≤c∧c < top 0 q:=by
 induction q using rev_ind with
 | h0=>intro _;simp [top]
 | h1 q x ih=>
  intro h
  obtain ⟨h1,h2,h3⟩:=ok_snoc.1 h
  obtain ⟨i1,i2,i3⟩:=ih h1
  rw [top_snoc]
  refine ⟨by omega,by simp;omega,?_⟩
  intro c hc
  rcases List.mem_append.1 hc with hc | hc
  ·have:=i3 c hc;omega
  ·simp only [List.mem_singleton] at hc;subst hc;omega
theorem ok_take {p:List Int} (h:okP p=true) (k:Nat):okP (p.take k)=true:=by
 have:=h
 rw [←List.take_append_drop k p] at this
 simp only [okP,okFrom_append,Bool.and_eq_true] at this
 exact this.1
theorem ok_at {p:List Int} (h:okP p=true) {k:Nat} (hk:k < p.length):0≤p[k]∧p[k]≤top 0 (p.take k):=by
 have:=ok_take h (k+1)
 rw [take_succ hk] at this
 exact (ok_snoc.1 this).2
def cnt (c:Int) (p:List Int):Int:=((p.count c:Nat):Int)
theorem cnt_snoc (c:Int) (q:List Int) (x:Int):cnt c (q++[x])=cnt c q+(if x=c then 1 else 0):=by
 simp only [cnt,List.count_append,List.count_singleton]
 split <;> simp_all
theorem cnt_nonneg (c:Int) (q:List Int):0≤cnt c q:=by simp [cnt]
theorem cnt_le (c:Int) (q:List Int):cnt c q≤q.length:=by
 have:=List.count_le_length (a:=c) (l:=q)
 simp only [cnt];omega
theorem cnt_zero {c:Int} {q:List Int} (h:c∉q):cnt c q=0:=by simp [cnt,List.count_eq_zero_of_not_mem h]
def szL (p:List Int):List Int:=(List.range (top 0 p).toNat).map fun (i:Nat)=>cnt (i:Int) p
theorem szL_len {p:List Int}:(szL p).length=(top 0 p).toNat:=by simp [szL]
theorem szL_get {p:List Int} {k:Nat} (h:k < (szL p).length):(szL p)[k]=cnt (k:Int) p:=by simp [szL]
theorem szL_new {q:List Int} {x:Int} (h:okP q=true) (hx:x=top 0 q):szL (q++[x])=szL q++[1]:=by
 obtain ⟨b1,b2,b3⟩:=top_bound h
 have ht:(top 0 (q++[x])).toNat=(top 0 q).toNat+1:=by rw [top_snoc];omega
 simp only [szL,ht,List.range_succ,List.map_append,List.map_cons,List.map_nil]
 congr 1
 ·apply List.map_congr_left
  intro i hi
  simp only [List.mem_range] at hi
  rw [cnt_snoc,if_neg (by omega)];simp
 ·have:((top 0 q).toNat:Int)=x:=by omega
  rw [this,cnt_snoc,if_pos rfl,cnt_zero (fun hm=>by have:=b3 x hm;omega)];rfl
theorem szL_old {q:List Int} {k:Nat} (hx:(k:Int) < top 0 q):szL (q++[(k:Int)])=(szL q).set k (cnt k q+1):=by
 have ht:top 0 (q++[(k:Int)])=top 0 q:=by rw [top_snoc];omega
 apply List.ext_getElem
 ·simp [szL,ht]
 ·intro i h1 h2
  rw [szL_get,List.getElem_set]
  rw [cnt_snoc]
  by_cases he:k=i
  ·subst he;simp
  ·rw [if_neg (by omega),if_neg he,szL_get];simp
theorem f27_eq (N:Nat) (p:List Int) (hN:p.length < N) (hl:p.length < 4294967296):f27 N p=some (if okP p then szL p else []):=by
 unfold f27
 rw [f28_eq N p hN hl]
 simp only [Option.bind_some]
 cases hok:okP p with
 | false=>rfl
 | true=>
  simp only [Bool.not_true,cond_false,if_true]
  refine iter_for (fun k s=>s=szL (p.take k)) p.length ?_ ?_ N hN [] ?_
  ·intro k s w hk hs hw
   subst hs
   simp only [f27_L5]
   have hq:=ok_take hok k
   obtain ⟨b1,b2,b3⟩:=top_bound hq
   obtain ⟨a1,a2⟩:=ok_at hok hk
   have hsl:(szL (p.take k)).length=(top 0 (p.take k)).toNat:=szL_len
   simp only [List.length_take] at b2
   rw [dlt_len hk,cond_true,idx_lt hk]
   simp only [Option.bind_some]
   by_cases he:p[k]=top 0 (p.take k)
   ·have e1:decide (p[k]=len (szL (p.take k)))=true:=by simp only [len,hsl,decide_eq_true_eq];omega
    have hc:p[k]=(((szL (p.take k)).length:Nat):Int):=by omega
    have hnew:=szL_new hq he
    rw [e1,cond_true,chk_room (by simp;omega),hc,chk_true (inb_lt (by simp)),idx_lt (by simp)]
    simp only [Option.bind_some,List.getElem_append_right (Nat.le_refl _),Nat.sub_self,List.getElem_cons_zero]
    rw [wi64_of (by omega) (by omega),setI_nat]
    have:(szL (p.take k)++[0]).set (szL (p.take k)).length (wi64 (0+1))=szL (p.take (k+1)):=by
     rw [wi64_of (by omega) (by omega),take_succ hk,hnew]
     simp
    rw [this,chk_true (inb_lt (by simp))]
    exact hw _ rfl
   ·have e1:decide (p[k]=len (szL (p.take k)))=false:=by simp only [len,hsl,decide_eq_false_iff_not];omega
    obtain ⟨j,hj⟩:=Int.eq_ofNat_of_zero_le a1
    have hjl:j < (szL (p.take k)).length:=by omega
    rw [e1,cond_false,hj,chk_true (inb_lt hjl),idx_lt hjl]
    simp only [Option.bind_some]
    have hc:=cnt_nonneg (j:Int) (p.take k)
    have hc2:=cnt_le (j:Int) (p.take k)
    simp only [List.length_take] at hc2
    rw [chk_true (inb_lt hjl),wi64_of (by omega) (by omega),szL_get,wi64_of (by omega) (by omega),setI_nat]
    apply hw
    rw [take_succ hk,hj,szL_old (by omega)]
  ·intro s w hs
   subst hs
   simp only [f27_L5]
   rw [dnlt_len,cond_false,List.take_length]
  ·rfl
theorem f12_eq (N:Nat) (p:List Int) (hN:p.length < N) (hl:p.length < 4294967296):f12 N p=some (if okP p then top 0 p else 0):=by
 unfold f12
 rw [f24_eq N p hN hl]
 simp only [Option.bind_some]
 cases hok:okP p with
 | false=>rfl
 | true=>
  simp only [Bool.not_true,cond_false,if_true]
  refine iter_for (fun k s=>s=top 0 (p.take k)) p.length ?_ ?_ N hN 0 rfl
  ·intro k s w hk hs hw
   subst hs
   simp only [f12_L5]
   have hq:=ok_take hok k
   obtain ⟨b1,b2,b3⟩:=top_bound hq
   obtain ⟨a1,a2⟩:=ok_at hok hk
   simp only [List.length_take] at b2
   rw [dlt_len hk,cond_true,idx_lt hk]
   simp only [Option.bind_some]
   rw [wi64_of (by omega) (by omega),wi64_of (by omega) (by omega)]
   have ht:top 0 (p.take (k+1))=max (top 0 (p.take k)) (p[k]+1):=by rw [take_succ hk,top_snoc]
   by_cases he:p[k]=top 0 (p.take k)
   ·simp only [he,decide_true,cond_true]
    exact hw _ (by rw [ht];omega)
   ·simp only [he,decide_false,cond_false]
    exact hw _ (by rw [ht];omega)
  ·intro s w hs
   subst hs
   simp only [f12_L5]
   rw [dnlt_len,cond_false,List.take_length]
theorem f17_eq (N:Nat) (p:List Int) (hN:p.length < N) (hl:p.length < 4294967296):f17 N p=some (if okP p then top 0 p else 0):=by
 unfold f17
 rw [f27_eq N p hN hl]
 simp only [Option.bind_some]
 cases hok:okP p with
 | false=>rfl
 | true=>
  have:=top_bound hok
  simp only [if_true,len,szL_len]
  congr 1;omega
end Go.Kz
