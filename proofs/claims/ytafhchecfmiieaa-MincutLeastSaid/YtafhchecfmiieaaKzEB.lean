/-
  Layer 07, plain: the document's helpers, and both searches for a path that avoids a cut.
-/
import Derived.Test.YtafhchecfmiieaaKzEA
set_option linter.unusedVariables false
set_option linter.unusedSimpArgs false
namespace Go.Kz
theorem f40_eq (l:List Int) (x:Int) (hl:l.length≤4000):f40 10000000000000000 l x=some (decide (x∈l)):=by
 have key:Yld (f40 10000000000000000 l x) fun y=>y=decide (x∈l):=by
  unfold f40
  refine Yld.upI (fun k=>x∉l.take k) l.length ?_ ?_ 10000000000000000 0 (Nat.zero_le _) (by omega) (by simp)
  ·intro k w hk hI hw
   simp only [f40_L2]
   rw [dlt_len hk,wi64_nat (k:=k) (by omega),idx_lt hk]
   simp only [cond_true,Option.bind_some]
   refine Yld.cond (fun hc=>?_) fun hc=>?_
   ·rw [decide_eq_true_eq] at hc
    exact Yld.ret (decide_eq_true (hc ▸ List.getElem_mem hk)).symm
   ·rw [decide_eq_false_iff_not] at hc
    refine hw fun hm=>?_
    rw [take_succ hk] at hm
    rcases List.mem_append.1 hm with hm | hm
    ·exact hI hm
    ·rw [List.mem_singleton] at hm;exact hc hm.symm
  ·intro w hI
   simp only [f40_L2]
   rw [dnlt_len,cond_false]
   rw [List.take_length] at hI
   exact Yld.ret (decide_eq_false hI).symm
 exact Yld.eq key
theorem mem_il {l:List Nat} {x:Nat}:(x:Int)∈il l↔x∈l:=by
 unfold il
 rw [List.mem_map]
 refine ⟨fun ⟨y,hy,e⟩=>?_,fun h=>⟨x,h,rfl⟩⟩
 have:y=x:=by omega
 exact this ▸ hy
theorem f40_il (l:List Nat) (x:Nat) (hl:l.length≤4000):f40 10000000000000000 (il l) (x:Int)=some (mks l x):=by
 rw [f40_eq _ _ (by rw [il_len];exact hl)]
 unfold mks
 rw [decide_eq_decide.2 mem_il]
def inN (m:Int) (a:Int):Bool:=decide (0≤a) && decide (a < m)
theorem f37_eq (g:Gr) (A:List Int) (hA:A.length≤4000):f37 10000000000000000 g A=some (A.all (inN g.1)):=by
 unfold f37
 refine (iter_allL A (inN g.1) (some true) (some false) (fun k w hk=>?_) (fun w=>?_) 10000000000000000 (by omega)).trans ?_
 ·simp only [f37_L2]
  rw [dlt_len hk,idx_lt hk,wi64_nat (k:=k) (by omega)]
  simp only [cond_true,Option.bind_some]
  rw [f53_eq]
  rw [Option.bind_some]
  show cond (!(inN g.1 A[k])) _ _=_
  cases inN g.1 A[k] <;> rfl
 ·simp only [f37_L2]
  rw [dnlt_len];rfl
 ·cases A.all (inN g.1) <;> rfl
theorem all_nodes {n:Nat} {A:List Int} (h:A.all (inN (n:Int))=true):∃ S,A=il S∧Sub n S:=by
 have hall:=List.all_eq_true.1 h
 refine ⟨A.map Int.toNat,?_,?_⟩
 ·unfold il
  rw [List.map_map]
  conv=>lhs;rw [←List.map_id A]
  refine List.map_congr_left fun a h1=>?_
  have h2:=hall a h1
  simp only [inN,Bool.and_eq_true,decide_eq_true_eq] at h2
  show a=(a.toNat:Int)
  omega
 ·intro x hx
  obtain ⟨a,h1,rfl⟩:=List.mem_map.1 hx
  have h2:=hall a h1
  simp only [inN,Bool.and_eq_true,decide_eq_true_eq] at h2
  omega
theorem f36_eq (g:Gr) (hf:Fits g) (hl:g.2.1.length≤100):f36 10000000000000000 g=some (decide (chkS g=0)):=by
 unfold f36
 rw [bindc,bindc]
 have hl2:decide (1048576 < len g.2.1)=false:=decide_eq_false (by rw [len_eq];omega)
 rw [hl2,Bool.or_false]
 unfold chkS
 by_cases h0:g.1 < 0
 ·rw [d_true h0,if_pos h0];rfl
 ·rw [d_false h0,if_neg h0,Bool.false_or]
  by_cases h1:4096 < g.1
  ·rw [d_true h1,if_pos h1];rfl
  ·rw [d_false h1,if_neg h1,cond_false]
   refine (iter_allL g.2.1 (edgeB g.1) (some true) (some false) (fun k w hk=>?_) (fun w=>?_) 10000000000000000 (by omega)).trans ?_
   ·simp only [f36_L4]
    obtain ⟨e1,e2,_,_⟩:=two_get (hf _ (List.getElem_mem hk))
    rw [dlt_len hk,idx_lt hk,wi64_nat (k:=k) (by omega)]
    simp only [cond_true,Option.bind_some,e1,e2,f53_eq]
    rw [bindc]
    unfold edgeB
    cases (decide (0≤(g.2.1[k]).getD 0 0) && decide ((g.2.1[k]).getD 0 0 < g.1)) <;> cases (decide (0≤(g.2.1[k]).getD 1 0) && decide ((g.2.1[k]).getD 1 0 < g.1)) <;> rfl
   ·simp only [f36_L4]
    rw [dnlt_len];rfl
   ·cases g.2.1.all (edgeB g.1) <;> rfl
section
variable {n:Nat} {E:List (Nat×Nat)} {A B K:List Nat}
theorem f33_ok (hN:Nod n E) (hn:n≤100) (hE:E.length≤100) (hA:Sub n A) (hAl:A.length≤1000) (hBl:B.length≤1000) (hKl:K.length≤1000) :
  Yld (f33 10000000000000000 (grOf n E) (il A) (il B) (il K)) fun b=>(b=false↔Sep E (mks A) (mks B) (mks K)):=by
 have hlen:∀ q:List Nat,q.Nodup→(∀ x∈q,x < n∧Rch E (mks A) (mks K) x)→q.length≤n:=fun q h1 h2=>nodup_len h1 fun x hx=>(h2 x hx).1
 unfold f33
 refine Yld.up (fun k (s:List Int)=>∃ q,s=il q∧q.Nodup∧(∀ x∈q,x < n∧Rch E (mks A) (mks K) x)∧∀ x∈A.take k,mks K x=false→x∈q) A.length ?_ ?_ 10000000000000000 0 (Nat.zero_le _) (by omega) _ ⟨[],rfl,List.nodup_nil,by simp,by simp⟩
 ·rintro k s w hk ⟨q,rfl,h1,h2,h3⟩ hw
  simp only [f33_L3]
  have hq:=hlen q h1 h2
  have hv:=List.getElem_mem hk
  have htk:=take_succ hk
  rw [d_true (show (k:Int) < len (il A) by rw [len_eq,il_len];omega),wi64_nat (k:=k) (by omega),il_idx hk]
  generalize A[k]=v at hv htk
  simp only [cond_true,Option.bind_some,f40_il K v (by omega),f40_il q v (by omega)]
  rw [bindc']
  cases h4:mks K v
  ·cases h5:mks q v
   ·rw [show (!false && !false)=true from rfl,cond_true,ck0' (by rw [il_len];omega),il_app]
    have hvq:v∉q:=fun h=>by rw [mk_iff.2 h] at h5;cases h5
    refine hw _ ⟨q++[v],rfl,List.nodup_append.2 ⟨h1,by simp,fun a ha b hb e=>?_⟩,fun x hx=>?_,fun x hx hx2=>?_⟩
    ·rw [List.mem_singleton] at hb;subst hb;subst e;exact hvq ha
    ·rcases List.mem_append.1 hx with hx | hx
     ·exact h2 x hx
     ·rw [List.mem_singleton] at hx;subst hx;exact ⟨hA _ hv,.base _ (mk_iff.2 hv) h4⟩
    ·rw [htk] at hx
     rcases List.mem_append.1 hx with hx | hx
     ·exact List.mem_append.2 (.inl (h3 x hx hx2))
     ·exact List.mem_append.2 (.inr hx)
   ·rw [show (!false && !true)=false from rfl,cond_false]
    refine hw _ ⟨q,rfl,h1,h2,fun x hx hx2=>?_⟩
    rw [htk] at hx
    rcases List.mem_append.1 hx with hx | hx
    ·exact h3 x hx hx2
    ·rw [List.mem_singleton] at hx;subst hx;exact mk_iff.1 h5
  ·rw [show (!true && !(mks q v))=false from rfl,cond_false]
   refine hw _ ⟨q,rfl,h1,h2,fun x hx hx2=>?_⟩
   rw [htk] at hx
   rcases List.mem_append.1 hx with hx | hx
   ·exact h3 x hx hx2
   ·rw [List.mem_singleton] at hx;subst hx;rw [h4] at hx2;cases hx2
 ·rintro s w ⟨q,rfl,h1,h2,h3⟩
  simp only [f33_L3]
  rw [List.take_length] at h3
  rw [d_false (show ¬ ((A.length:Nat):Int) < len (il A) by rw [len_eq,il_len];omega),cond_false]
  refine Yld.iterM (fun m (s:Int×List Int)=>∃ (k:Nat) (q:List Nat),s=((k:Int),il q)∧k≤q.length∧q.Nodup∧(∀ x∈q,x < n∧Rch E (mks A) (mks K) x)∧(∀ x∈A,mks K x=false→x∈q)∧(∀ u∈q.take k,mks B u=false∧∀ v,(u,v)∈E→mks K v=false→v∈q)∧m+k=n) ?_ 10000000000000000 n _ (by omega) ⟨0,q,rfl,by omega,h1,h2,h3,by simp,rfl⟩
  rintro m s w2 ⟨k,q,rfl,hkq,h1,h2,h3,h4,hm⟩ hw
  simp only [f33_L8]
  have hq:=hlen q h1 h2
  by_cases hk:k < q.length
  ·have hv:=List.getElem_mem hk
   have htk:=take_succ hk
   rw [d_true (show (k:Int) < len (il q) by rw [len_eq,il_len];omega),wi64_nat (k:=k) (by omega),cond_true,chk_true (inb_some (il_get hk)),il_idx hk]
   simp only [Option.bind_some]
   obtain ⟨hvn,hvr⟩:=h2 _ hv
   generalize hqv:q[k]=v at hv hvn hvr htk
   rw [f40_il B v (by omega)]
   simp only [Option.bind_some]
   refine Yld.cond (fun hb=>?_) fun hb=>?_
   ·refine Yld.ret ⟨fun h=>Bool.noConfusion h,fun h=>?_⟩
    have:=h v hvr
    rw [hb] at this;cases this
   ·refine Yld.up (fun j (s:List Int)=>∃ q',s=il (q++q')∧(q++q').Nodup∧(∀ x∈q++q',x < n∧Rch E (mks A) (mks K) x)∧∀ e∈E.take j,e.1=v→mks K e.2=false→e.2∈q++q') E.length ?_ ?_ 10000000000000000 0 (Nat.zero_le _) (by omega) _ ⟨[],by simp,by simpa using h1,by simpa using h2,by simp⟩
    ·rintro j s w3 hj ⟨q',rfl,g1,g2,g3⟩ hw3
     simp only [f33_L13]
     have hg:(grOf n E).2.1=toL E:=rfl
     have hqq:=hlen _ g1 g2
     have hkk:k < (q++q').length:=by rw [List.length_append];omega
     have htj:=take_succ hj
     have hem:=List.getElem_mem hj
     rw [hg,d_true (show (j:Int) < len (toL E) by rw [len_eq,toL_len];omega),wi64_nat (k:=j) (by omega),idx_some' (toL_get hj)]
     generalize E[j]=e at htj hem
     simp only [cond_true,Option.bind_some]
     rw [show idx [(e.1:Int),(e.2:Int)] 0=some (e.1:Int) from rfl,show idx [(e.1:Int),(e.2:Int)] 1=some (e.2:Int) from rfl]
     simp only [Option.bind_some]
     rw [chk_true (inb_some (il_get hkk)),il_idx hkk,show (q++q')[k]=v from by rw [List.getElem_append_left hk];exact hqv]
     simp only [Option.bind_some,f40_il K e.2 (by omega),f40_il (q++q') e.2 (by omega)]
     rw [bindc',bindc']
     by_cases hc:(e.1=v∧mks K e.2=false)∧mks (q++q') e.2=false
     ·obtain ⟨⟨c1,c2⟩,c3⟩:=hc
      rw [show (decide ((e.1:Int)=(v:Int)) && !(mks K e.2) && !(mks (q++q') e.2))=true from by rw [c1,c2,c3];simp,cond_true,ck0' (by rw [il_len];omega),il_app,List.append_assoc]
      have hne:e.2∉q++q':=fun h=>by rw [mk_iff.2 h] at c3;cases c3
      refine hw3 _ ⟨q'++[e.2],rfl,?_,fun x hx=>?_,fun x hx hx1 hx2=>?_⟩
      ·rw [←List.append_assoc]
       refine List.nodup_append.2 ⟨g1,by simp,fun a ha b hb he=>?_⟩
       rw [List.mem_singleton] at hb;subst hb;subst he;exact hne ha
      ·rw [←List.append_assoc] at hx
       rcases List.mem_append.1 hx with hx | hx
       ·exact g2 x hx
       ·rw [List.mem_singleton] at hx;subst hx
        exact ⟨(hN _ hem).2,.step v _ hvr (c1 ▸ hem) c2⟩
      ·rw [←List.append_assoc]
       rw [htj] at hx
       rcases List.mem_append.1 hx with hx | hx
       ·exact List.mem_append.2 (.inl (g3 x hx hx1 hx2))
       ·rw [List.mem_singleton] at hx;subst hx;simp
     ·rw [show (decide ((e.1:Int)=(v:Int)) && !(mks K e.2) && !(mks (q++q') e.2))=false from by
       cases hb2:(decide ((e.1:Int)=(v:Int)) && !(mks K e.2) && !(mks (q++q') e.2))
       ·rfl
       ·exfalso
        simp only [Bool.and_eq_true,decide_eq_true_eq,Bool.not_eq_true'] at hb2
        exact hc ⟨⟨by omega,hb2.1.2⟩,hb2.2⟩,cond_false]
      refine hw3 _ ⟨q',rfl,g1,g2,fun x hx hx1 hx2=>?_⟩
      rw [htj] at hx
      rcases List.mem_append.1 hx with hx | hx
      ·exact g3 x hx hx1 hx2
      ·rw [List.mem_singleton] at hx;subst hx
       apply Classical.byContradiction
       intro hno
       exact hc ⟨⟨hx1,hx2⟩,by cases h:mks (q++q') x.2;rfl;exact absurd (mk_iff.1 h) hno⟩
    ·rintro s w3 ⟨q',rfl,g1,g2,g3⟩
     simp only [f33_L13]
     have hg:(grOf n E).2.1=toL E:=rfl
     rw [hg,d_false (show ¬ ((E.length:Nat):Int) < len (toL E) by rw [len_eq,toL_len];omega),cond_false]
     rw [List.take_length] at g3
     refine hw (m-1) _ (by omega) ⟨k+1,q++q',rfl,by rw [List.length_append];omega,g1,g2,fun x hx hx2=>List.mem_append.2 (.inl (h3 x hx hx2)),fun u hu=>?_,by omega⟩
     rw [List.take_append_of_le_length (by omega),htk] at hu
     rcases List.mem_append.1 hu with hu | hu
     ·obtain ⟨j1,j2⟩:=h4 u hu
      exact ⟨j1,fun x hx hx2=>List.mem_append.2 (.inl (j2 x hx hx2))⟩
     ·rw [List.mem_singleton] at hu;subst hu
      exact ⟨hb,fun x hx hx2=>g3 _ hx rfl hx2⟩
  ·rw [d_false (show ¬ (k:Int) < len (il q) by rw [len_eq,il_len];omega),cond_false]
   rw [List.take_of_length_le (by omega)] at h4
   refine Yld.ret ⟨fun _ v hv=>?_,fun _=>rfl⟩
   have:v∈q:=by
    induction hv with
    | base v hf hc=>exact h3 v (mk_iff.1 hf) hc
    | step u v _ he hc ih=>exact (h4 u ih).2 v he hc
   exact (h4 v this).1
theorem f45_eq {bl sn:Nat→Bool} {q:List Nat} {v:Nat} (hv:v < n) (hq:q.length≤4000) :
  f45v1 10000000000000000 (v:Int) ((List.range n).map sn) ((List.range n).map bl) (il q)=some (((),((),((),()))),((),((List.range n).map (if sn v=false∧bl v=false then upF sn v true else sn),((List.range n).map bl,((),(il (if sn v=false∧bl v=false then q++[v] else q),())))))):=by
 unfold f45v1
 simp only [inb_map_range _ hv,idx_map_range _ hv,chk_true,Option.bind_some]
 rw [bindc',ck0' (by rw [il_len];omega)]
 have e:setI ((List.range n).map sn) (v:Int) true=(List.range n).map (upF sn v true):=map_set_range sn true
 cases h1:sn v
 ·cases h2:bl v
  ·rw [show (!false && !false)=true from rfl,cond_true,il_app,e,if_pos ⟨rfl,rfl⟩,if_pos ⟨rfl,rfl⟩]
  ·rw [show (!false && !true)=false from rfl,cond_false,if_neg (by simp),if_neg (by simp)]
 ·rw [show (!true && !(bl v))=false from rfl,cond_false,if_neg (by simp),if_neg (by simp)]
structure Apt (n:Nat) (E:List (Nat×Nat)) (F bl sn:Nat→Bool) (q:List Nat):Prop where
 rch:∀ v,sn v=true→v < n∧Rch E F bl v
 que:∀ v∈q,sn v=true
theorem Apt.add {F bl sn:Nat→Bool} {q:List Nat} {v:Nat} (h:Apt n E F bl sn q) (hv:v < n) (hr:bl v=false→Rch E F bl v) :
  Apt n E F bl (if sn v=false∧bl v=false then upF sn v true else sn) (if sn v=false∧bl v=false then q++[v] else q):=by
 by_cases hc:sn v=false∧bl v=false
 ·rw [if_pos hc,if_pos hc]
  refine ⟨fun x hx=>?_,fun x hx=>?_⟩
  ·by_cases e:x=v
   ·subst e;exact ⟨hv,hr hc.2⟩
   ·rw [upF_ne sn _ e] at hx;exact h.rch x hx
  ·by_cases e:x=v
   ·subst e;exact upF_self _ _ _
   ·rw [upF_ne sn _ e]
    rcases List.mem_append.1 hx with hx | hx
    ·exact h.que x hx
    ·rw [List.mem_singleton] at hx;exact absurd hx e
 ·rw [if_neg hc,if_neg hc];exact h
def uns (n:Nat) (sn:Nat→Bool):Nat:=(List.range n).countP fun x=>!sn x
theorem add_uns {bl sn:Nat→Bool} {q:List Nat} {v:Nat} (hv:v < n):uns n (if sn v=false∧bl v=false then upF sn v true else sn)+(if sn v=false∧bl v=false then q++[v] else q).length≤uns n sn+q.length:=by
 by_cases hc:sn v=false∧bl v=false
 ·rw [if_pos hc,if_pos hc]
  have:=cnt_lt (n:=n) (p:=fun x=>!sn x) (q:=fun x=>!(upF sn v true x)) (fun x _ h=>by
   by_cases e:x=v
   ·subst e;rw [upF_self] at h;cases h
   ·rwa [upF_ne sn _ e] at h) v hv (by rw [hc.1];rfl) (by rw [upF_self];rfl)
  rw [List.length_append,List.length_singleton]
  unfold uns;omega
 ·rw [if_neg hc,if_neg hc];exact Nat.le_refl _
theorem add_mono {bl sn:Nat→Bool} {v x:Nat} (h:sn x=true):(if sn v=false∧bl v=false then upF sn v true else sn) x=true:=by
 split
 ·unfold upF;split <;> first | rfl | exact h
 ·exact h
theorem add_new {bl sn:Nat→Bool} {v:Nat} (hb:bl v=false):(if sn v=false∧bl v=false then upF sn v true else sn) v=true:=by
 by_cases h:sn v=false
 ·rw [if_pos ⟨h,hb⟩,upF_self]
 ·rw [if_neg fun hh=>h hh.1];simpa using h
theorem add_old {bl sn:Nat→Bool} {q:List Nat} {v x:Nat} (h:(if sn v=false∧bl v=false then upF sn v true else sn) x=true) (hq:x∉(if sn v=false∧bl v=false then q++[v] else q)):sn x=true∧x∉q:=by
 by_cases hc:sn v=false∧bl v=false
 ·rw [if_pos hc] at h hq
  have e:x≠v:=fun e=>hq (by simp [e])
  rw [upF_ne sn _ e] at h
  exact ⟨h,fun hh=>hq (by simp [hh])⟩
 ·rw [if_neg hc] at h hq;exact ⟨h,hq⟩
theorem f29_ok (hN:Nod n E) (hn:n≤12) (hA:Sub n A) (hAl:A.length≤1000) (hB:Sub n B) (hBl:B.length≤1000) (bl:Nat→Bool) :
  Yld (f29 10000000000000000 (nx n E) (il A) (il B) ((List.range n).map bl)) fun b=>(b=true↔Sep E (mks A) (mks B) bl):=by
 unfold f29
 rw [show len (nx n E)=(n:Int) from by rw [len_eq,nx_len],f41_eq (by omega) hB (by omega)]
 rw [Option.bind_some,ckn (by omega),Int.toNat_natCast]
 have e0:(List.replicate n false:List Bool)=(List.range n).map fun _=>false:=by
  apply List.ext_getElem?
  intro i
  by_cases hi:i < n
  ·rw [map_range_get _ hi,List.getElem?_replicate_of_lt hi]
  ·rw [List.getElem?_eq_none (by simp;omega),List.getElem?_eq_none (by simp;omega)]
 rw [e0]
 have hun:=cnt_n n fun x=>!(fun _:Nat=>false) x
 refine Yld.up (fun k (s:List Bool×List Bool×List Int)=>∃ sn q,s=((List.range n).map sn,(List.range n).map bl,il q)∧Apt n E (mks A) bl sn q∧(∀ x∈A.take k,bl x=false→sn x=true)∧(∀ x,sn x=true→x∈q)∧uns n sn+q.length≤n) A.length ?_ ?_ 10000000000000000 0 (Nat.zero_le _) (by omega) _ ⟨fun _=>false,[],rfl,⟨fun v hv=>absurd (show false=true from hv) Bool.false_ne_true,fun v hv=>absurd hv (by simp)⟩,by simp,fun x hx=>absurd (show false=true from hx) Bool.false_ne_true,by unfold uns;simp⟩
 ·rintro k s w hk ⟨sn,q,rfl,h1,h2,h3,h4⟩ hw
  have hvA:=List.getElem_mem hk
  have hv:=hA _ hvA
  have htk:=take_succ hk
  simp only [f29_L6]
  rw [d_true (show (k:Int) < len (il A) by rw [len_eq,il_len];omega),wi64_nat (k:=k) (by omega),il_idx hk]
  generalize A[k]=v at hv hvA htk
  simp only [cond_true,Option.bind_some]
  rw [f45_eq hv (by omega)]
  simp only [Option.bind_some]
  have hu:=add_uns (sn:=sn) (bl:=bl) (q:=q) hv
  refine hw _ ⟨_,_,rfl,h1.add hv fun hb=>.base v (mk_iff.2 hvA) hb,fun x hx hb=>?_,fun x hx=>?_,by omega⟩
  ·rw [htk] at hx
   rcases List.mem_append.1 hx with hx | hx
   ·exact add_mono (h2 x hx hb)
   ·rw [List.mem_singleton] at hx;subst hx;exact add_new hb
  ·apply Classical.byContradiction
   intro hno
   obtain ⟨g1,g2⟩:=add_old hx hno
   exact g2 (h3 x g1)
 ·rintro s w ⟨sn,q,rfl,h1,h2,h3,h4⟩
  simp only [f29_L6]
  rw [d_false (show ¬ ((A.length:Nat):Int) < len (il A) by rw [len_eq,il_len];omega),cond_false]
  rw [List.take_length] at h2
  refine Yld.iterM (fun m (s:List Bool×List Bool×List Int)=>∃ sn q,s=((List.range n).map sn,(List.range n).map bl,il q)∧Apt n E (mks A) bl sn q∧(∀ x∈A,bl x=false→sn x=true)∧(∀ x,sn x=true→x∉q→mks B x=false∧∀ y,(x,y)∈E→bl y=false→sn y=true)∧uns n sn+q.length≤n∧m=uns n sn+q.length) ?_ 10000000000000000 (uns n sn+q.length) _ (by omega) ⟨sn,q,rfl,h1,h2,fun x hx hq=>absurd (h3 x hx) hq,h4,rfl⟩
  rintro m s w2 ⟨sn,q,rfl,h1,h2,h3,h4,hm⟩ hw
  unfold f29_L10
  dsimp only
  cases q with
  | nil=>
   rw [d_false (show ¬ 0 < len (il []) by simp [len_eq,il]),cond_false]
   refine Yld.ret ⟨fun _ v hv=>?_,fun _=>rfl⟩
   have:sn v=true:=by
    induction hv with
    | base v hf hc=>exact h2 v (mk_iff.1 hf) hc
    | step u v _ he hc ih=>exact (h3 u ih (by simp)).2 v he hc
   exact (h3 v this (by simp)).1
  | cons u q=>
   have hun:=(h1.rch u (h1.que u (by simp))).1
   have hur:=(h1.rch u (h1.que u (by simp))).2
   rw [d_true (show 0 < len (il (u :: q)) by rw [len_eq,il_len,List.length_cons];omega),cond_true,chk_true (show inb (il (u :: q)) 0=true from inb_lt (k:=0) (by rw [il_len,List.length_cons];omega)),show idx (il (u :: q)) 0=some (u:Int) from rfl]
   rw [Option.bind_some,chk_true (by simp only [Bool.and_eq_true,decide_eq_true_eq,len_eq,il_len,List.length_cons];omega),chk_true (mk_inb B hun),mk_get B hun,Option.bind_some,show idx (nx n E) (u:Int)=some (il (suc n E u)) from nx_get hun,Option.bind_some,sub1_il]
   simp only [List.length_cons] at h4 hm
   refine Yld.cond (fun hb=>?_) fun hb=>?_
   ·refine Yld.ret ⟨fun h=>Bool.noConfusion h,fun h=>?_⟩
    have:=h u hur
    rw [hb] at this;cases this
   ·have hsl:=suc_len n E u
    refine Yld.up (fun k (s:List Bool×List Bool×List Int)=>∃ sn' q',s=((List.range n).map sn',(List.range n).map bl,il q')∧Apt n E (mks A) bl sn' q'∧(∀ x,sn x=true→sn' x=true)∧(∀ x∈(suc n E u).take k,bl x=false→sn' x=true)∧(∀ x,sn' x=true→x∉q'→sn x=true∧x∉q)∧uns n sn'+q'.length≤uns n sn+q.length) (suc n E u).length ?_ ?_ 10000000000000000 0 (Nat.zero_le _) (by omega) _ ⟨sn,q,rfl,⟨h1.rch,fun x hx=>h1.que x (by simp [hx])⟩,fun _ h=>h,by simp,fun x hx hq=>⟨hx,hq⟩,Nat.le_refl _⟩
    ·rintro k s w3 hk ⟨sn',q',rfl,g1,g2,g3,g4,g5⟩ hw3
     simp only [f29_L16]
     have hmem:=mem_suc.1 (List.getElem_mem hk)
     have htk:=take_succ hk
     rw [d_true (show (k:Int) < len (il (suc n E u)) by rw [len_eq,il_len];omega),wi64_nat (k:=k) (by omega),il_idx hk]
     generalize (suc n E u)[k]=v at hmem htk
     simp only [cond_true,Option.bind_some]
     rw [f45_eq hmem.1 (by omega)]
     simp only [Option.bind_some]
     have hu:=add_uns (sn:=sn') (bl:=bl) (q:=q') hmem.1
     refine hw3 _ ⟨_,_,rfl,g1.add hmem.1 fun hbv=>.step u v hur hmem.2 hbv,fun x hx=>add_mono (g2 x hx),fun x hx hbx=>?_,fun x hx hq=>?_,by omega⟩
     ·rw [htk] at hx
      rcases List.mem_append.1 hx with hx | hx
      ·exact add_mono (g3 x hx hbx)
      ·rw [List.mem_singleton] at hx;subst hx;exact add_new hbx
     ·obtain ⟨j1,j2⟩:=add_old hx hq
      exact g4 x j1 j2
    ·rintro s w3 ⟨sn',q',rfl,g1,g2,g3,g4,g5⟩
     simp only [f29_L16]
     rw [d_false (show ¬ (((suc n E u).length:Nat):Int) < len (il (suc n E u)) by rw [len_eq,il_len];omega),cond_false]
     rw [List.take_length] at g3
     refine hw (uns n sn'+q'.length) _ (by omega) ⟨sn',q',rfl,g1,fun x hx hbx=>g2 x (h2 x hx hbx),fun x hx hq=>?_,by omega,rfl⟩
     by_cases e:x=u
     ·subst e
      exact ⟨hb,fun y hy hby=>g3 y (mem_suc.2 ⟨(hN _ hy).2,hy⟩) hby⟩
     ·obtain ⟨j1,j2⟩:=g4 x hx hq
      obtain ⟨i1,i2⟩:=h3 x j1 (by simp [e,j2])
      exact ⟨i1,fun y hy hby=>g2 y (i2 y hy hby)⟩
end
end Go.Kz
