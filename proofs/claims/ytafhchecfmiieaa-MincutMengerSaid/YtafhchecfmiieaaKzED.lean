/-
  Layer 07, plain: paths, weights of cuts, flows that are carried: the laws Checks and Rivals.
-/
import Derived.Test.YtafhchecfmiieaaKzEC
set_option linter.unusedVariables false
set_option linter.unusedSimpArgs false
namespace Go.Kz
theorem il_inj {l m:List Nat} (h:il l=il m):l=m:=by
 have e:∀ q:List Nat,(il q).map Int.toNat=q:=fun q=>by
  unfold il
  rw [List.map_map]
  conv=>rhs;rw [←List.map_id q]
  exact List.map_congr_left fun x _=>rfl
 rw [←e l,h,e]
theorem wk_iff {E:List (Nat×Nat)}:{q:List Nat}→(wk E q↔∀ i a b,q[i]? = some a→q[i+1]? = some b→(a,b)∈E)
 | []=>by simp [wk]
 | [x]=>by simp [wk]
 | x :: y :: l=>by
  simp only [wk]
  rw [wk_iff (q:=y :: l)]
  constructor
  ·rintro ⟨h1,h2⟩ i a b ha hb
   cases i with
   | zero=>simp at ha hb;subst ha;subst hb;exact h1
   | succ i=>exact h2 i a b (by simpa using ha) (by simpa using hb)
  ·intro h
   exact ⟨h 0 x y (by simp) (by simp),fun i a b ha hb=>h (i+1) a b (by simpa using ha) (by simpa using hb)⟩
theorem head_get {q:List Nat} (h:q≠[]):q[0]? = some (q.head h):=by
 cases q with
 | nil=>exact absurd rfl h
 | cons x l=>rfl
theorem last_get {q:List Nat} (h:q≠[]):q[q.length-1]? = some (q.getLast h):=by rw [←List.getLast?_eq_getElem?,List.getLast?_eq_some_getLast h]
theorem IsP.of {n:Nat} {E:List (Nat×Nat)} {F T:Nat→Bool} {q:List Nat} (h0:0 < q.length) (h1:∀ a,q[0]? = some a→F a=true) (h2:∀ a,q[q.length-1]? = some a→T a=true) (h3:∀ i a b,q[i]? = some a→q[i+1]? = some b→(a,b)∈E) (h4:q.Nodup) (h5:∀ x∈q,x < n):IsP n E F T q:=
 ⟨List.length_pos_iff.1 h0,fun h=>h1 _ (head_get h),fun h=>h2 _ (last_get h),wk_iff.2 h3,h4,h5⟩
structure CutC (n:Nat) (w:List Int) (K:List Int) (C:List Nat):Prop where
 eq:K=il C
 asc:C.Pairwise (· < ·)
 ok:∀ c∈C,c < n∧0≤w.getD c 0
theorem getD_idx {w:List Int} {v n:Nat} (hw:w.length=n) (hv:v < n):idx w (v:Int)=some (w.getD v 0):=by
 rw [idx_nat,List.getD_eq_getElem?_getD,List.getElem?_eq_getElem (by omega)];rfl
theorem getD_le {w:List Int} {B:Int} (hB:0≤B) (h:∀ x∈w,x≤B) (v:Nat):w.getD v 0≤B:=by
 rw [List.getD_eq_getElem?_getD]
 cases e:w[v]? with
 | none=>exact hB
 | some x=>exact h x (List.mem_of_getElem? e)
def sumC (w:List Int) (C:List Nat):Int:=lsm (fun c=>w.getD c 0) C
theorem sumC_le {w:List Int} {B:Int} (hB:0≤B) (h:∀ x∈w,x≤B) (C:List Nat):sumC w C≤B*C.length:=by
 have h1:=lsm_le (f:=fun c=>w.getD c 0) (g:=fun _=>B) (l:=C) fun x _=>getD_le hB h x
 rw [lsm_const] at h1
 exact h1
theorem CutC.take {n:Nat} {w K:List Int} {C:List Nat} (h:CutC n w K C) (k:Nat):CutC n w (K.take k) (C.take k):=
 ⟨by rw [h.eq,il_take],h.asc.sublist (List.take_sublist _ _),fun c hc=>h.ok c (List.mem_of_mem_take hc)⟩
section
variable {n:Nat} {E:List (Nat×Nat)} {A B:List Nat} {w:List Int}
theorem f35_ok (hEl:E.length≤100) (hn:n≤100) (hAl:A.length≤1000) (hBl:B.length≤1000) (p:List Int) :
  Yld (f35 10000000000000000 (grOf n E) (il A) (il B) p) fun b=>(b=true↔∃ q,p=il q∧IsP n E (mks A) (mks B) q):=by
 have no:∀ {Q:Prop},¬ Q→(false=true↔Q):=fun h=>⟨fun e=>Bool.noConfusion e,fun hq=>absurd hq h⟩
 unfold f35
 have hg:(grOf n E).1=(n:Int):=rfl
 rw [bindc,hg,len_eq]
 by_cases c1:p.length=0∨n < p.length
 ·rw [show (decide ((p.length:Int)=0) || decide ((n:Int) < (p.length:Int)))=true from by simp only [Bool.or_eq_true,decide_eq_true_eq];omega,cond_true]
  simp only [Option.bind_some,cond_true]
  refine Yld.ret (no ?_)
  rintro ⟨q,rfl,hq⟩
  have h1:=nodup_len hq.nodup hq.lt
  have h2:=List.length_pos_iff.2 hq.ne
  rw [il_len] at c1
  omega
 ·rw [show (decide ((p.length:Int)=0) || decide ((n:Int) < (p.length:Int)))=false from by simp only [Bool.or_eq_false_iff,decide_eq_false_iff_not];omega,cond_false,f37_eq _ _ (by omega),hg]
  simp only [Option.bind_some]
  cases hall:p.all (inN (n:Int))
  ·rw [Bool.not_false,cond_true]
   simp only [Option.bind_some,cond_true]
   refine Yld.ret (no ?_)
   rintro ⟨q,rfl,hq⟩
   rw [il_all hq.lt] at hall;cases hall
  ·obtain ⟨q,rfl,hql⟩:=all_nodes hall
   rw [il_len] at c1 ⊢
   have hq0:0 < q.length:=by omega
   have hz:idx (il q) 0=some (q[0]:Int):=il_idx hq0
   have hlast:idx (il q) (wi64 (((q.length:Nat):Int)-1))=some (q[q.length-1]:Int):=by rw [wi64_pred (by omega) (by omega),il_idx (by omega)]
   rw [Bool.not_true,cond_false,hz,hlast]
   simp only [Option.bind_some,f40_il A _ (show A.length≤4000 by omega),f40_il B _ (show B.length≤4000 by omega)]
   have uniq:∀ q',il q=il q'→q'=q:=fun q' h=>(il_inj h).symm
   cases h1:mks A q[0]
   ·rw [Bool.not_false,cond_true]
    simp only [Option.bind_some,cond_true]
    refine Yld.ret (no ?_)
    rintro ⟨q',h2,hq⟩
    rw [uniq q' h2] at hq
    have:=hq.first hq.ne
    rw [show q.head hq.ne=q[0] from by rw [List.head_eq_getElem],h1] at this
    cases this
   ·rw [Bool.not_true,cond_false]
    cases h2:mks B q[q.length-1]
    ·rw [Bool.not_false,Option.bind_some,cond_true]
     refine Yld.ret (no ?_)
     rintro ⟨q',h3,hq⟩
     rw [uniq q' h3] at hq
     have:=hq.last hq.ne
     rw [show q.getLast hq.ne=q[q.length-1] from by rw [List.getLast_eq_getElem],h2] at this
     cases this
    ·rw [Bool.not_true,Option.bind_some,cond_false]
     refine Yld.upI (fun k=>(q.take k).Nodup∧∀ i a b,i+1 < k→q[i]? = some a→q[i+1]? = some b→(a,b)∈E) q.length ?_ ?_ 10000000000000000 0 (Nat.zero_le _) (by omega) ⟨by simp,fun i a b h=>by omega⟩
     ·rintro k z hk ⟨g1,g2⟩ hw
      simp only [f35_L4]
      rw [d_true (show (k:Int) < len (il q) by rw [len_eq,il_len];omega),wi64_nat (k:=k) (by omega),il_idx hk,cond_true]
      have e1:(cond (decide (0 < (k:Int))) ((idx (il q) (wi64 ((k:Int)-1))).bind fun x_2=>(some (q[k]:Int)).bind fun x_3=>(f52 10000000000000000 (grOf n E) x_2 x_3).bind fun r_3=>some (!r_3)) (some false))=some (!decide (k=0∨∃ h:k-1 < q.length,(q[k-1],q[k])∈E)):=by
       by_cases e:k=0
       ·subst e;simp
       ·rw [d_true (show 0 < (k:Int) by omega),cond_true,wi64_pred (by omega) (by omega),il_idx (show k-1 < q.length by omega)]
        simp only [Option.bind_some]
        rw [f52_eq hEl]
        simp only [Option.bind_some]
        congr 1
        congr 1
        cases hh:hasE E q[k-1] q[k]
        ·refine (decide_eq_false ?_).symm
         rintro (h1 | ⟨_,h1⟩)
         ·exact e h1
         ·rw [hasE_iff.2 h1] at hh;cases hh
        ·exact (decide_eq_true (.inr ⟨by omega,hasE_iff.1 hh⟩)).symm
      rw [e1,Option.bind_some,chk_true (by rw [len_eq,il_len];simp;omega),Option.bind_some,show sub (il q) 0 (k:Int)=il (q.take k) from by rw [sub_start,il_take],f40_il _ _ (by rw [List.length_take];omega)]
      rw [Option.bind_some,bindc]
      refine Yld.cond (fun hc=>?_) fun hc=>?_
      ·refine Yld.ret (no ?_)
       rintro ⟨q',h3,hq⟩
       rw [uniq q' h3] at hq
       simp only [Bool.or_eq_true,Bool.not_eq_true',decide_eq_false_iff_not] at hc
       rcases hc with hc | hc
       ·apply hc
        by_cases e:k=0
        ·exact .inl e
        ·refine .inr ⟨by omega,wk_iff.1 hq.walk (k-1) _ _ (List.getElem?_eq_getElem (by omega)) ?_⟩
         rw [show k-1+1=k from by omega,List.getElem?_eq_getElem hk]
       ·have h4:=hq.nodup.sublist (List.take_sublist (k+1) q)
        rw [take_succ hk] at h4
        exact (List.nodup_append.1 h4).2.2 _ (mk_iff.1 hc) _ (by simp) rfl
      ·simp only [Bool.or_eq_false_iff,Bool.not_eq_false',decide_eq_true_eq] at hc
       refine hw ⟨?_,fun i a b hi ha hb=>?_⟩
       ·rw [take_succ hk]
        refine List.nodup_append.2 ⟨g1,by simp,fun a ha b hb e=>?_⟩
        rw [List.mem_singleton] at hb
        subst hb;subst e
        rw [mk_iff.2 ha] at hc;cases hc.2
       ·by_cases e:i+1=k
        ·rcases hc.1 with h5 | ⟨h5,h6⟩
         ·omega
         ·have e2:i=k-1:=by omega
          subst e2
          rw [List.getElem?_eq_getElem h5] at ha
          rw [show k-1+1=k from by omega,List.getElem?_eq_getElem hk] at hb
          have ha:q[k-1]=a:=by simpa using ha
          have hb:q[k]=b:=by simpa using hb
          rw [←ha,←hb];exact h6
        ·exact g2 i a b (by omega) ha hb
     ·rintro z ⟨g1,g2⟩
      simp only [f35_L4]
      rw [d_false (show ¬ ((q.length:Nat):Int) < len (il q) by rw [len_eq,il_len];omega),cond_false]
      rw [List.take_length] at g1
      refine Yld.ret ⟨fun _=>⟨q,rfl,IsP.of hq0 (fun a ha=>?_) (fun a ha=>?_) (fun i a b ha hb=>?_) g1 hql⟩,fun _=>rfl⟩
      ·rw [List.getElem?_eq_getElem hq0] at ha
       have ha:q[0]=a:=by simpa using ha
       rw [←ha];exact h1
      ·rw [List.getElem?_eq_getElem (by omega)] at ha
       have ha:q[q.length-1]=a:=by simpa using ha
       rw [←ha];exact h2
      ·exact g2 i a b (by have:=(List.getElem?_eq_some_iff.1 hb).1;omega) ha hb
end
end Go.Kz
