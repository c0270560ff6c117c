/-
  Layer 07, plain: both checkers, and the laws Checks and Rivals.
-/
import Derived.Test.YtafhchecfmiieaaKzEE
set_option linter.unusedVariables false
set_option linter.unusedSimpArgs false
namespace Go.Kz
theorem rep_map {α:Type} (n:Nat) (c:α):List.replicate n c=(List.range n).map fun _=>c:=by
 apply List.ext_getElem?
 intro i
 by_cases hi:i < n
 ·rw [map_range_get _ hi,List.getElem?_replicate_of_lt hi]
 ·rw [List.getElem?_eq_none (by simp;omega),List.getElem?_eq_none (by simp;omega)]
def Prf (n:Nat) (E:List (Nat×Nat)) (A B:List Nat) (w K:List Int) (fs:List FlowD):Prop:=∃ C,CutC n w K C∧Sep E (mks A) (mks B) (mks C)∧PfP n E A B w fs (sumC w C)
theorem CutC.uniq {n:Nat} {w K:List Int} {C D:List Nat} (h:CutC n w K C) (h':CutC n w K D):D=C:=il_inj (by rw [←h.eq,←h'.eq])
def Ans (c:Int) (P:Prop):Prop:=(c=0∧P)∨(c=13∧¬ P)
theorem Ans.uniq {c d:Int} {P:Prop} (h:Ans c P) (h':Ans d P):c=d:=by
 rcases h with ⟨rfl,h⟩ | ⟨rfl,h⟩ <;> rcases h' with ⟨rfl,h'⟩ | ⟨rfl,h'⟩
 ·rfl
 ·exact absurd h h'
 ·exact absurd h' h
 ·rfl
section
variable {n:Nat} {E:List (Nat×Nat)} {A B:List Nat} {w:List Int}
theorem f25_ok (hEn:Nod n E) (hEl:E.length≤60) (hn:n≤12) (hw:w.length=n) (hw2:∀ x∈w,x≤1048576) (hw3:∀ x∈w,-9223372036854775808≤x) (hA:Sub n A) (hAl:A.length≤100) (hB:Sub n B) (hBl:B.length≤100) {K:List Int} (hK:K.length≤20) {fs:List FlowD} (hfl:fs.length≤20) (hfs:∀ f∈fs,f.2.1≤9223372036854775807)
  (harg:argS (grOf n E) w [il A,il B]=0):Yld (f25 10000000000000000 (grOf n E) w (il A) (il B) K fs) fun c=>Ans c (Prf n E A B w K fs):=by
 unfold f25
 have hg:(grOf n E).1=(n:Int):=rfl
 have hgl:(grOf n E).2.1.length=E.length:=toL_len E
 rw [f27_eq _ _ _ (fits_gr n E) (by rw [hgl];omega) (by omega) (by simp) (by simp [il_len];omega),harg]
 rw [Option.bind_some,d_true rfl,Bool.not_true,cond_false,f28_eq hEn hn (by omega)]
 rw [Option.bind_some]
 refine Yld.then (f42_ok hEn hn hw hA (by omega) hB (by omega) (by omega)) ?_
 intro b hb
 have hbad:b=false→¬ Prf n E A B w K fs:=by
  rintro rfl ⟨C,hC,hS,_⟩
  rcases hb with ⟨D,hD,h⟩ | ⟨_,h⟩
  ·rw [hC.uniq hD] at h
   exact Bool.false_ne_true (h.2 hS)
  ·exact h ⟨C,hC⟩
 refine Yld.cond (fun hc=>?_) fun hc=>?_
 ·exact Yld.ret (.inr ⟨rfl,hbad (by simpa using hc)⟩)
 ·have hbt:b=true:=by simpa using hc
  obtain ⟨C,hC,hS⟩:∃ C,CutC n w K C∧Sep E (mks A) (mks B) (mks C):=by
   rcases hb with ⟨D,hD,h⟩ | ⟨h,_⟩
   ·exact ⟨D,hD,h.1 hbt⟩
   ·rw [hbt] at h;cases h
  have hCl:C.length=K.length:=by have:=congrArg List.length hC.eq;rw [il_len] at this;omega
  have hprf:∀ {P:Prop},(P↔PfP n E A B w fs (sumC w C))→(P↔Prf n E A B w K fs):=fun {P} hP=>hP.trans ⟨fun h=>⟨C,hC,hS,h⟩,fun ⟨D,hD,_,h⟩=>by rw [hC.uniq hD] at h;exact h⟩
  have no:¬ PfP n E A B w fs (sumC w C)→¬ Prf n E A B w K fs:=fun h h'=>h ((hprf Iff.rfl).2 h')
  rw [hg,f41_eq (by omega) hA (by omega)]
  rw [Option.bind_some,f41_eq (by omega) hB (by omega)]
  rw [Option.bind_some,ckn (by omega),Int.toNat_natCast,rep_map]
  refine Yld.up (fun k (s:Int×List Int×List Bool×List Bool)=>∃ ld:Nat→Int,s=(Am (fs.take k),(List.range n).map ld,mkL n B,mkL n A)∧(∀ f∈fs.take k,GoodF n E A B f)∧(∀ v,ld v=if 0≤w.getD v 0 then Ld (fs.take k) v else 0)∧(∀ v,v < n→0≤w.getD v 0→Ld (fs.take k) v≤w.getD v 0)∧0≤Am (fs.take k)∧Am (fs.take k)≤1048576*(k:Int)) fs.length ?_ ?_ 10000000000000000 0 (Nat.zero_le _) (by omega) _ ⟨fun _=>0,by simp [Am,lsm],by simp,fun v=>by simp [Ld,lsm],fun v _ h=>by simpa [Ld,lsm] using h,by simp [Am,lsm],by simp [Am,lsm]⟩
  ·rintro k s z hk ⟨ld,rfl,h1,h2,h3,h4,h5⟩ hz
   have hpos:∀ f∈fs.take k,0≤f.2.1:=fun f hf=>by have:=(h1 f hf).1;omega
   have hld:∀ v,v < n→0≤ld v∧ld v≤1048576:=fun v hv=>by
    rw [h2 v]
    split
    ·next h0=>
     have:=h3 v hv h0
     have:=getD_le (by omega) hw2 v
     exact ⟨Ld_nonneg hpos v,by omega⟩
    ·omega
   simp only [f25_L11]
   rw [dlt_len hk,wi64_nat (k:=k) (by omega),idx_lt hk]
   simp only [cond_true,Option.bind_some]
   have htk:=take_succ hk
   refine Yld.then (f43_ok hEn hn hw hw2 hw3 fs[k] (hfs _ (List.getElem_mem hk)) hld hA hB) ?_
   rintro _ ⟨b2,ld',rfl,hb2⟩
   simp only
   rcases hb2 with ⟨rfl,q,g1,g2,g3,g4,g5⟩ | ⟨rfl,hno⟩
   ·rw [Bool.not_true,cond_false]
    obtain ⟨c,hcq,hcC⟩:=g3.meets hS
    have hcC:=hC.ok c (mk_iff.1 hcC)
    have hamt:fs[k].2.1≤1048576:=by
     have:=g5 c hcq hcC.2
     have:=(hld c hcC.1).1
     have:=getD_le (by omega) hw2 c
     omega
    rw [wi64_of (n:=Am (fs.take k)+fs[k].2.1) (by omega) (by omega)]
    have hmem:∀ v:Nat,((v:Int)∈fs[k].1)↔v∈q:=fun v=>by rw [g1];exact mem_il
    have hA1:Am (fs.take (k+1))=Am (fs.take k)+fs[k].2.1:=by rw [htk,Am_app]
    rw [←hA1]
    refine hz (_,_,_,_) ⟨ld',rfl,fun f hf=>?_,fun v=>?_,fun v hv h0=>?_,by rw [hA1];omega,by rw [hA1];omega⟩
    ·rw [htk] at hf
     rcases List.mem_append.1 hf with hf | hf
     ·exact h1 f hf
     ·rw [List.mem_singleton] at hf;subst hf;exact ⟨g2,q,g1,g3⟩
    ·rw [g4 v,htk,Ld_app]
     unfold ldF2
     rw [h2 v]
     by_cases h0:0≤w.getD v 0
     ·rw [if_pos h0,if_pos h0]
      by_cases hv:v∈q
      ·rw [if_pos ⟨hv,h0⟩,if_pos ((hmem v).2 hv)]
      ·rw [if_neg fun h=>hv h.1,if_neg fun h=>hv ((hmem v).1 h)]
     ·rw [if_neg h0,if_neg h0,if_neg fun h=>h0 h.2];rfl
    ·rw [htk,Ld_app]
     by_cases hv2:v∈q
     ·rw [if_pos ((hmem v).2 hv2)]
      have:=g5 v hv2 h0
      rw [h2 v,if_pos h0] at this
      exact this
     ·rw [if_neg fun h=>hv2 ((hmem v).1 h)]
      have:=h3 v hv h0
      omega
   ·rw [Bool.not_false,cond_true]
    refine Yld.ret (.inr ⟨rfl,no fun hP=>hno ⟨hP.good _ (List.getElem_mem hk),fun v hv h0 hm=>?_⟩⟩)
    rw [h2 v,if_pos h0]
    exact hP.next hk hv h0 hm
  ·rintro s z ⟨ld,rfl,h1,h2,h3,h4,h5⟩
   simp only [f25_L11]
   rw [List.take_length] at h1 h3 h4 h5 ⊢
   rw [dnlt_len,cond_false,hC.eq]
   have hle:∀ k,0≤sumC w (C.take k)∧sumC w (C.take k)≤1048576*20:=fun k=>by
    have:=sumC_le (by omega) hw2 (C.take k)
    have h6:(C.take k).length≤20:=by rw [List.length_take];omega
    exact ⟨lsm_nonneg fun c hc=>(hC.ok c (List.mem_of_mem_take hc)).2,by omega⟩
   refine Yld.up (fun k (t:Int)=>t=sumC w (C.take k)) C.length ?_ ?_ 10000000000000000 0 (Nat.zero_le _) (by omega) _ (by simp [sumC,lsm])
   ·rintro k t z2 hk rfl hz2
    simp only [f25_L19]
    have hcn:=(hC.ok _ (List.getElem_mem hk)).1
    rw [d_true (show (k:Int) < len (il C) by rw [len_eq,il_len];omega),wi64_nat (k:=k) (by omega),il_idx hk,cond_true,Option.bind_some,getD_idx hw hcn,Option.bind_some]
    have e:sumC w (C.take k)+w.getD C[k] 0=sumC w (C.take (k+1)):=by unfold sumC;rw [take_succ hk,lsm_app];simp [lsm]
    have:=hle (k+1)
    rw [e,wi64_of (by omega) (by omega)]
    exact hz2 _ rfl
   ·rintro t z2 rfl
    simp only [f25_L19]
    rw [d_false (show ¬ ((C.length:Nat):Int) < len (il C) by rw [len_eq,il_len];omega),cond_false,List.take_length]
    refine Yld.cond (fun hc2=>?_) fun hc2=>?_
    ·simp only [Bool.not_eq_true',decide_eq_false_iff_not] at hc2
     rw [←hC.eq]
     exact Yld.ret (.inr ⟨rfl,no fun hP=>hc2 hP.sum⟩)
    ·simp only [Bool.not_eq_false',decide_eq_true_eq] at hc2
     rw [←hC.eq]
     exact Yld.ret (.inl ⟨rfl,C,hC,hS,h1,h3,hc2⟩)
theorem f16_ok (hEn:Nod n E) (hEl:E.length≤60) (hn:n≤12) (hw:w.length=n) (hw2:∀ x∈w,x≤1048576) (hA:Sub n A) (hAl:A.length≤100) (hB:Sub n B) (hBl:B.length≤100) {K:List Int} (hK:K.length≤100) {fs:List FlowD} (hfl:fs.length≤1000000000) (hfs:∀ f∈fs,f.2.1≤9223372036854775807)
  (harg:argS (grOf n E) w [il A,il B]=0):Yld (f16 10000000000000000 (grOf n E) w (il A) (il B) K fs) fun c=>Ans c (Prf n E A B w K fs):=by
 unfold f16
 have hg:(grOf n E).1=(n:Int):=rfl
 have hgl:(grOf n E).2.1.length=E.length:=toL_len E
 rw [f17_eq _ _ _ _ (fits_gr n E) (by rw [hgl];omega) (by omega) (by rw [il_len];omega) (by rw [il_len];omega),harg]
 rw [Option.bind_some,d_true rfl,Bool.not_true,cond_false]
 refine Yld.then (f15_ok (by omega) hw hw2 (by omega)) ?_
 rintro _ (⟨C,hC,rfl⟩ | ⟨rfl,hno⟩)
 ·have hCs:Sub n C:=fun c hc=>(hC.ok c hc).1
  have hCl:C.length=K.length:=by have:=congrArg List.length hC.eq;rw [il_len] at this;omega
  have no:¬ (Sep E (mks A) (mks B) (mks C)∧PfP n E A B w fs (sumC w C))→¬ Prf n E A B w K fs:=fun h ⟨D,hD,hS,hP⟩=>by
   rw [hC.uniq hD] at hS hP
   exact h ⟨hS,hP⟩
  simp only
  rw [Bool.not_true,cond_false]
  rw [show f33 10000000000000000 (grOf n E) (il A) (il B) K=f33 10000000000000000 (grOf n E) (il A) (il B) (il C) from by rw [hC.eq]]
  obtain ⟨b',hb1,hb2⟩:=f33_ok (B:=B) (K:=C) hEn (by omega) (by omega) hA (by omega) (by omega) (by omega)
  rw [hb1]
  simp only [Option.bind_some]
  have hval:=sumC_le (by omega) hw2 C
  have hval0:0≤sumC w C:=lsm_nonneg fun c hc=>(hC.ok c hc).2
  cases b' with
  | true=>
   rw [cond_true]
   exact Yld.ret (.inr ⟨rfl,no fun h=>Bool.noConfusion (hb2.2 h.1)⟩)
  | false=>
   have hS:=hb2.1 rfl
   have no:¬ PfP n E A B w fs (sumC w C)→¬ Prf n E A B w K fs:=fun h=>no fun h2=>h h2.2
   rw [cond_false,hg,ckn (by omega),Int.toNat_natCast,rep_map]
   refine Yld.up (fun k (s:Int×List Int)=>s=(Am (fs.take k),(List.range n).map (Ld (fs.take k)))∧(∀ f∈fs.take k,GoodF n E A B f)∧(∀ v,v < n→0≤w.getD v 0→Ld (fs.take k) v≤w.getD v 0)∧0≤Am (fs.take k)∧Am (fs.take k)≤sumC w C) fs.length ?_ ?_ 10000000000000000 0 (Nat.zero_le _) (by omega) _ ⟨by simp [Am,Ld,lsm],by simp,fun v _ h=>by simpa [Ld,lsm] using h,by simp [Am,lsm],by simpa [Am,lsm] using hval0⟩
   ·rintro k s z hk ⟨rfl,h1,h3,h4,h5⟩ hz
    have hpos:∀ f∈fs.take k,0≤f.2.1:=fun f hf=>by have:=(h1 f hf).1;omega
    have htk:=take_succ hk
    simp only [f16_L10]
    rw [dlt_len hk,wi64_nat (k:=k) (by omega),idx_lt hk]
    simp only [cond_true,Option.bind_some]
    have hfk:=hfs _ (List.getElem_mem hk)
    rw [wi64_of (n:=sumC w C-Am (fs.take k)) (by omega) (by omega),bindc]
    by_cases c1:(decide (fs[k].2.1 < 1) || decide (sumC w C-Am (fs.take k) < fs[k].2.1))=true
    ·rw [c1,cond_true]
     simp only [Option.bind_some,cond_true]
     refine Yld.ret (.inr ⟨rfl,no fun hP=>?_⟩)
     simp only [Bool.or_eq_true,decide_eq_true_eq] at c1
     have g1:=(hP.good _ (List.getElem_mem hk)).1
     have g2:=Am_take (fun f hf=>by have:=(hP.good f hf).1;omega) (k+1)
     rw [htk,Am_app,hP.sum] at g2
     rcases c1 with c1 | c1 <;> omega
    ·have c1':=Bool.eq_false_iff.2 c1
     rw [c1',cond_false]
     simp only [Bool.or_eq_false_iff,decide_eq_false_iff_not] at c1'
     obtain ⟨c2,c3⟩:=c1'
     obtain ⟨bp,hp1,hp2⟩:=f35_ok (n:=n) (E:=E) (A:=A) (B:=B) (by omega) (by omega) (by omega) (by omega) fs[k].1
     rw [hp1]
     simp only [Option.bind_some]
     cases bp with
     | false=>
      rw [Bool.not_false,cond_true]
      refine Yld.ret (.inr ⟨rfl,no fun hP=>?_⟩)
      exact Bool.false_ne_true (hp2.2 (hP.good _ (List.getElem_mem hk)).2)
     | true=>
      obtain ⟨q,hq,hQ⟩:=hp2.1 rfl
      have hmem:∀ v:Nat,((v:Int)∈fs[k].1)↔v∈q:=fun v=>by rw [hq];exact mem_il
      have hqn:=nodup_len hQ.nodup hQ.lt
      rw [Bool.not_true,cond_false,wi64_of (n:=Am (fs.take k)+fs[k].2.1) (by omega) (by omega)]
      refine Yld.up (fun j (s:List Int)=>s=(List.range n).map (fun v=>Ld (fs.take k) v+if v∈q.take j then fs[k].2.1 else 0)∧∀ v∈q.take j,0≤w.getD v 0→Ld (fs.take k) v+fs[k].2.1≤w.getD v 0) q.length ?_ ?_ 10000000000000000 0 (Nat.zero_le _) (by omega) _ ⟨List.map_congr_left fun v _=>by simp,by simp⟩
      ·rintro j s z2 hj ⟨rfl,g1⟩ hz2
       have htj:=take_succ hj
       have hvn:=hQ.lt _ (List.getElem_mem hj)
       have hvq:q[j]∉q.take j:=fun hm=>by
        have:=hQ.nodup.sublist (List.take_sublist (j+1) q)
        rw [htj] at this
        exact (List.nodup_append.1 this).2.2 _ hm _ (by simp) rfl
       have hLA:=Ld_le_Am hpos q[j]
       have hL0:=Ld_nonneg hpos q[j]
       simp only [f16_L17]
       have hidx:idx fs[k].1 (j:Int)=some (q[j]:Int):=by rw [hq];exact il_idx hj
       rw [d_true (show (j:Int) < len fs[k].1 by rw [hq,len_eq,il_len];omega),wi64_nat (k:=j) (by omega),hidx]
       have hvm:(q[j]:Int)∈fs[k].1:=(hmem _).2 (List.getElem_mem hj)
       generalize hvv:q[j]=v at hvn hvq hLA hL0 htj hvm
       simp only [cond_true,Option.bind_some]
       have i1:∀ D:Nat→Int,inb ((List.range n).map D) (v:Int)=true:=fun D=>inb_map_range _ hvn
       have e2:idx ((List.range n).map (fun v=>Ld (fs.take k) v+if v∈q.take j then fs[k].2.1 else 0)) (v:Int)=some (Ld (fs.take k) v):=by
        rw [idx_map_range _ hvn,if_neg hvq,Int.add_zero]
       rw [chk_true (i1 _),e2]
       simp only [Option.bind_some]
       rw [wi64_of (n:=Ld (fs.take k) v+fs[k].2.1) (by omega) (by omega)]
       have e3:setI ((List.range n).map (fun v=>Ld (fs.take k) v+if v∈q.take j then fs[k].2.1 else 0)) (v:Int) (Ld (fs.take k) v+fs[k].2.1)=(List.range n).map (fun v=>Ld (fs.take k) v+if v∈q.take (j+1) then fs[k].2.1 else 0):=by
        show ((List.range n).map (fun v=>Ld (fs.take k) v+if v∈q.take j then fs[k].2.1 else 0)).set v _=_
        rw [map_set_range]
        refine List.map_congr_left fun x _=>?_
        rw [htj]
        by_cases e:x=v
        ·subst e;rw [upF_self,if_pos (by simp)]
        ·rw [upF_ne _ _ e];simp [e]
       have e4:idx ((List.range n).map (fun v=>Ld (fs.take k) v+if v∈q.take (j+1) then fs[k].2.1 else 0)) (v:Int)=some (Ld (fs.take k) v+fs[k].2.1):=by
        rw [idx_map_range _ hvn,htj,if_pos (by simp)]
       rw [e3,chk_true (i1 _),chk_true (i1 _),e4,getD_idx hw hvn]
       simp only [Option.bind_some]
       rw [bindc']
       refine Yld.cond (fun hc=>?_) fun hc=>?_
       ·simp only [Bool.and_eq_true,decide_eq_true_eq] at hc
        refine Yld.ret (.inr ⟨rfl,no fun hP=>?_⟩)
        have:=hP.next hk hvn hc.1 hvm
        omega
       ·simp only [Bool.and_eq_false_iff,decide_eq_false_iff_not] at hc
        refine hz2 _ ⟨rfl,fun x hx h0=>?_⟩
        rw [htj] at hx
        rcases List.mem_append.1 hx with hx | hx
        ·exact g1 x hx h0
        ·rw [List.mem_singleton] at hx;subst hx
         rcases hc with hc | hc <;> omega
      ·rintro s z2 ⟨rfl,g1⟩
       simp only [f16_L17]
       rw [d_false (show ¬ ((q.length:Nat):Int) < len fs[k].1 by rw [hq,len_eq,il_len];omega),cond_false]
       rw [List.take_length] at g1 ⊢
       have hA1:Am (fs.take (k+1))=Am (fs.take k)+fs[k].2.1:=by rw [htk,Am_app]
       rw [←hA1]
       refine hz (_,_) ⟨?_,fun f hf=>?_,fun v hv h0=>?_,by rw [hA1];omega,by rw [hA1];omega⟩
       ·refine congrArg _ (List.map_congr_left fun v _=>?_)
        rw [htk,Ld_app]
        congr 1
        by_cases hv:v∈q
        ·rw [if_pos hv,if_pos ((hmem v).2 hv)]
        ·rw [if_neg hv,if_neg fun h=>hv ((hmem v).1 h)]
       ·rw [htk] at hf
        rcases List.mem_append.1 hf with hf | hf
        ·exact h1 f hf
        ·rw [List.mem_singleton] at hf;subst hf;exact ⟨by omega,q,hq,hQ⟩
       ·rw [htk,Ld_app]
        by_cases hv2:v∈q
        ·rw [if_pos ((hmem v).2 hv2)]
         exact g1 v hv2 h0
        ·rw [if_neg fun h=>hv2 ((hmem v).1 h)]
         have:=h3 v hv h0
         omega
   ·rintro s z ⟨rfl,h1,h3,h4,h5⟩
    simp only [f16_L10]
    rw [List.take_length] at h1 h3 h4 h5 ⊢
    rw [dnlt_len,cond_false]
    refine Yld.cond (fun hc2=>?_) fun hc2=>?_
    ·simp only [Bool.not_eq_true',decide_eq_false_iff_not] at hc2
     exact Yld.ret (.inr ⟨rfl,no fun hP=>hc2 hP.sum⟩)
    ·simp only [Bool.not_eq_false',decide_eq_true_eq] at hc2
     exact Yld.ret (.inl ⟨rfl,C,hC,hS,h1,h3,hc2⟩)
 ·simp only [Bool.not_false,cond_true,Option.bind_some]
  exact Yld.ret (.inr ⟨rfl,fun ⟨C,hC,_⟩=>hno ⟨C,hC⟩⟩)
theorem PfP.least {fs:List FlowD} {val:Int} (h:PfP n E A B w fs val) {C:List Nat} (hS:Sep E (mks A) (mks B) (mks C)) (hC:∀ c∈C,c < n∧0≤w.getD c 0):val≤sumC w C:=by
 have h1:sumC w C ≥ lsm (fun c=>Ld fs c) C:=lsm_le fun c hc=>h.load c (hC c hc).1 (hC c hc).2
 have h2:∀ (l:List FlowD),(∀ f∈l,GoodF n E A B f)→Am l≤lsm (fun c=>Ld l c) C:=by
  intro l
  induction l with
  | nil=>intro _;rw [lsm_zero (f:=fun c=>Ld [] c) fun c _=>rfl];exact Int.le_refl _
  | cons f l ih=>
   intro hl
   have e:lsm (fun c=>Ld (f :: l) c) C=lsm (fun c:Nat=>if (c:Int)∈f.1 then f.2.1 else 0) C+lsm (fun c=>Ld l c) C:=by
    rw [←lsm_add];rfl
   have i1:=ih fun x hx=>hl x (by simp [hx])
   obtain ⟨g1,q,g2,g3⟩:=hl f (by simp)
   obtain ⟨c,hc1,hc2⟩:=g3.meets hS
   have i2:=lsm_ge (f:=fun c:Nat=>if (c:Int)∈f.1 then f.2.1 else 0) (l:=C) (fun x _=>by split <;> omega) (mk_iff.1 hc2)
   simp only [g2,mem_il.2 hc1,if_true] at i2
   have e2:Am (f :: l)=f.2.1+Am l:=rfl
   rw [e,e2]
   simp only [g2]
   omega
 have:=h2 fs h.good
 rw [h.sum] at this
 omega
end
abbrev FlTy:Ty:=.sl false (.pair (.sl false (.int .i64)) (.pair (.int .i64) .unit))
theorem fl_fits {fs:List FlowD} (h:Ty.fits FlTy fs):∀ f∈fs,f.2.1≤9223372036854775807:=fun f hf=>(h f hf).2.1.2
theorem net_w {a0:Gr×(List Int×(List Int×(List Int×Unit)))} (h:Ty.fits NetTy a0):∀ x∈a0.2.1,-9223372036854775808≤x:=fun x hx=>(h.2.1 x hx).1
theorem checks_same {a0:Gr×(List Int×(List Int×(List Int×Unit)))} (h:Ty.fits NetTy a0) (hF:Few a0 12 60) {K:List Int} (hK:K.length≤20) {fs:List FlowD} (hfl:fs.length≤20) (hfs:Ty.fits FlTy fs) :
  ∃ c,f25 10000000000000000 (a0.1.1,a0.1.2) a0.2.1 a0.2.2.1 a0.2.2.2.1 K fs=some c∧f16 10000000000000000 (a0.1.1,a0.1.2) a0.2.1 a0.2.2.1 a0.2.2.2.1 K fs=some c∧
   (c=0→∃ n E A B,Args a0.1 a0.2.1 n E∧n≤12∧a0.2.2.1=il A∧a0.2.2.2.1=il B∧Sub n A∧Sub n B∧Prf n E A B a0.2.1 K fs):=by
 have hfit:=net_fits h
 have hel:=hF.edges
 have hal:=hF.al
 have hbl:=hF.bl
 have hwl:=hF.wl
 have hnn:=hF.nodes
 show ∃ c,f25 10000000000000000 a0.1 a0.2.1 a0.2.2.1 a0.2.2.2.1 K fs=some c∧f16 10000000000000000 a0.1 a0.2.1 a0.2.2.1 a0.2.2.2.1 K fs=some c∧_
 by_cases harg:argS a0.1 a0.2.1 [a0.2.2.1,a0.2.2.2.1]=0
 ·obtain ⟨⟨n,E,hArg⟩,hall⟩:=argsS_ok hfit harg
  simp only [List.all_cons,List.all_nil,Bool.and_true,Bool.and_eq_true] at hall
  have hn:n≤12:=by rw [hArg.eq] at hnn;have:((n:Nat):Int)≤12:=hnn;omega
  have hg1:a0.1.1=(n:Int):=by rw [hArg.eq];rfl
  rw [hg1] at hall
  obtain ⟨A,hA,hAs⟩:=all_nodes hall.1
  obtain ⟨B,hB,hBs⟩:=all_nodes hall.2
  have hAl:A.length≤100:=by rw [hA,il_len] at hal;omega
  have hBl:B.length≤100:=by rw [hB,il_len] at hbl;omega
  have hEl:E.length≤60:=by have:=hArg.len;omega
  rw [hArg.eq,hA,hB] at harg
  obtain ⟨c,e1,h1⟩:=f25_ok hArg.nod hEl hn hArg.wl hArg.w20 (net_w h) hAs hAl hBs hBl hK hfl (fl_fits hfs) harg
  obtain ⟨d,e2,h2⟩:=f16_ok hArg.nod hEl hn hArg.wl hArg.w20 hAs hAl hBs hBl (by omega:K.length≤100) (by omega) (fl_fits hfs) harg
  have:=h1.uniq h2
  subst this
  refine ⟨c,by rw [hArg.eq,hA,hB];exact e1,by rw [hArg.eq,hA,hB];exact e2,fun hc=>?_⟩
  subst hc
  rcases h1 with ⟨_,hP⟩ | ⟨hh,_⟩
  ·exact ⟨n,E,A,B,hArg,hn,hA,hB,hAs,hBs,hP⟩
  ·omega
 ·refine ⟨argS a0.1 a0.2.1 [a0.2.2.1,a0.2.2.2.1],?_,?_,fun hc=>absurd hc harg⟩
  ·unfold f25
   rw [f27_eq _ _ _ hfit (by omega) (by omega) (by simp) (by simp;omega)]
   rw [Option.bind_some,d_false harg];rfl
  ·unfold f16
   rw [f17_eq _ _ _ _ hfit (by omega) (by omega) (by omega) (by omega)]
   rw [Option.bind_some,d_false harg];rfl
theorem law10 (a0:Gr×(List Int×(List Int×(List Int×Unit)))) (fs:List FlowD) (Ks:List (List Int)) (h:Ty.fits NetTy a0) (hfs:Ty.fits FlTy fs) (hK:Ty.fits (.arr 2 (.sl false (.int .i64))) Ks):f10 10000000000000000 a0 fs Ks=some true:=by
 obtain ⟨K1,K2,rfl⟩:∃ K1 K2,Ks=[K1,K2]:=by
  have hl:Ks.length=2:=hK.1
  match Ks,hl with
  | [a,b],_=>exact ⟨a,b,rfl⟩
 unfold f10
 rw [known07]
 rw [Option.bind_some,Bool.not_true,cond_false]
 obtain ⟨b,hb,hfew⟩:=f12_eq a0 (n:=12) (e:=60) (by omega) (by omega)
 rw [hb]
 have i0:inb [K1,K2] 0=true:=rfl
 have i1:inb [K1,K2] 1=true:=rfl
 have j0:idx [K1,K2] 0=some K1:=rfl
 have j1:idx [K1,K2] 1=some K2:=rfl
 simp only [i0,i1,j0,j1,chk_true,Option.bind_some]
 rw [bindc,bindc,bindc]
 cases hc:(!b || decide (20 < len K1) || decide (20 < len K2) || decide (20 < len fs))
 ·rw [cond_false]
  simp only [Bool.or_eq_false_iff,Bool.not_eq_false',decide_eq_false_iff_not,len_eq] at hc
  have hF:=hfew hc.1.1.1
  obtain ⟨c,e1,_,hc0⟩:=checks_same h hF (K:=K1) (by omega) (fs:=fs) (by omega) hfs
  rw [e1]
  rw [Option.bind_some]
  by_cases h0:c=0
  ·rw [d_true h0,Bool.not_true,cond_false]
   obtain ⟨n,E,A,B,hArg,hn,hA,hB,hAs,hBs,C,hC,hS,hP⟩:=hc0 h0
   obtain ⟨x,ex,hx⟩:=f15_ok (by omega) hArg.wl hArg.w20 (K:=K1) (by omega)
   obtain ⟨y,ey,hy⟩:=f15_ok (by omega) hArg.wl hArg.w20 (K:=K2) (by omega)
   have hx1:x=(sumC a0.2.1 C,true):=by
    rcases hx with ⟨D,hD,hx⟩ | ⟨_,hx⟩
    ·rw [hC.uniq hD] at hx;exact hx
    ·exact absurd ⟨C,hC⟩ hx
   have hel:=hF.edges
   have hal:=hF.al
   have hbl:=hF.bl
   obtain ⟨b2,c2,e3,_,h3⟩:=f23_ok (A:=a0.2.2.1) (B:=a0.2.2.2.1) (K:=K2) (net_fits h) hF.nodes (by omega) (by omega) (by omega) (by omega)
   have e3:f23 10000000000000000 (a0.1.1,a0.1.2) a0.2.2.1 a0.2.2.2.1 K2=some (b2,c2):=e3
   rw [ex,ey,e3,hx1]
   simp only [Option.bind_some]
   rw [Bool.not_true,cond_false,bindc,bindc,bindc]
   simp only [Option.some.injEq,Bool.or_eq_true,Bool.not_eq_true',decide_eq_true_eq,decide_eq_false_iff_not]
   rcases hy with ⟨D,hD,rfl⟩ | ⟨rfl,_⟩
   ·by_cases hc2:c2=0
    ·cases hb2:b2
     ·left;right;rfl
     ·right
      obtain ⟨n',E',S',T',C',g1,_,g3,g4,g5,_,_,_,g9⟩:=h3 hc2
      have hg:=hArg.eq
      rw [g1] at hg
      have en:n'=n:=by
       have:((n':Nat):Int)=(n:Int):=congrArg Prod.fst hg
       omega
      have eE:E'=E:=by
       have h5:toL E'=toL E:=congrArg (fun g:Gr=>g.2.1) hg
       have inj:∀ l:List (Nat×Nat),(toL l).map (fun e=>((e.getD 0 0).toNat,(e.getD 1 0).toNat))=l:=fun l=>by
        unfold toL
        rw [List.map_map]
        conv=>rhs;rw [←List.map_id l]
        exact List.map_congr_left fun x _=>rfl
       rw [←inj E',h5,inj E]
      have eA:S'=A:=il_inj (by rw [←g3,←hA])
      have eB:T'=B:=il_inj (by rw [←g4,←hB])
      have eC:C'=D:=il_inj (by rw [←g5,←hD.eq])
      subst en;subst eE;subst eA;subst eB;subst eC
      exact hP.least (g9.1 hb2) hD.ok
    ·left;left;right;exact hc2
   ·left;left;left;rfl
  ·rw [d_false h0];rfl
 ·rfl
end Go.Kz
