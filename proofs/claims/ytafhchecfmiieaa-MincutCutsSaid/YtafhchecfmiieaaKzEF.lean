/-
  Layer 07, plain: both checkers, and the laws Checks and Rivals.
-/
import Derived.Test.YtafhchecfmiieaaKzEE
set_option linter.unusedVariables false
set_option linter.unusedSimpArgs false
namespace Go.Kz
theorem rep_map {α:Type} (n:Nat) (c:α):List.replicate n c=(List.range n).map fun _=>c:=by
 apply List.ext_getElem?
 intro i
 by_cases hi:i < n
 ·rw [map_range_get _ hi,List.getElem?_replicate_of_lt hi]
 ·rw [List.getElem?_eq_none (by simp;omega),List.getElem?_eq_none (by simp;omega)]
def Prf (n:Nat) (E:List (Nat×Nat)) (A B:List Nat) (w K:List Int) (fs:List FlowD):Prop:=∃ C,CutC n w K C∧Sep E (mks A) (mks B) (mks C)∧PfP n E A B w fs (sumC w C)
theorem CutC.uniq {n:Nat} {w K:List Int} {C D:List Nat} (h:CutC n w K C) (h':CutC n w K D):D=C:=il_inj (by rw [←h.eq,←h'.eq])
def Ans (c:Int) (P:Prop):Prop:=(c=0∧P)∨(c=13∧¬ P)
theorem Ans.uniq {c d:Int} {P:Prop} (h:Ans c P) (h':Ans d P):c=d:=by
 rcases h with ⟨rfl,h⟩ | ⟨rfl,h⟩ <;> rcases h' with ⟨rfl,h'⟩ | ⟨rfl,h'⟩
 ·rfl
 ·exact absurd h h'
 ·exact absurd h' h
 ·rfl
section
variable {n:Nat} {E:List (Nat×Nat)} {A B:List Nat} {w:List Int}
theorem f16_ok (hEn:Nod n E) (hEl:E.length≤60) (hn:n≤12) (hw:w.length=n) (hw2:∀ x∈w,x≤1048576) (hA:Sub n A) (hAl:A.length≤100) (hB:Sub n B) (hBl:B.length≤100) {K:List Int} (hK:K.length≤100) {fs:List FlowD} (hfl:fs.length≤1000000000) (hfs:∀ f∈fs,f.2.1≤9223372036854775807)
  (harg:argS (grOf n E) w [il A,il B]=0):Yld (f16 10000000000000000 (grOf n E) w (il A) (il B) K fs) fun c=>Ans c (Prf n E A B w K fs):=by
 unfold f16
 have hg:(grOf n E).1=(n:Int):=rfl
 have hgl:(grOf n E).2.1.length=E.length:=toL_len E
 rw [f17_eq _ _ _ _ (fits_gr n E) (by rw [hgl];omega) (by omega) (by rw [il_len];omega) (by rw [il_len];omega),harg]
 rw [Option.bind_some,d_true rfl,Bool.not_true,cond_false]
 refine Yld.then (f15_ok (by omega) hw hw2 (by omega)) ?_
 rintro _ (⟨C,hC,rfl⟩ | ⟨rfl,hno⟩)
 ·have hCs:Sub n C:=fun c hc=>(hC.ok c hc).1
  have hCl:C.length=K.length:=by have:=congrArg List.length hC.eq;rw [il_len] at this;omega
  have no:¬ (Sep E (mks A) (mks B) (mks C)∧PfP n E A B w fs (sumC w C))→¬ Prf n E A B w K fs:=fun h ⟨D,hD,hS,hP⟩=>by
   rw [hC.uniq hD] at hS hP
   exact h ⟨hS,hP⟩
  simp only
  rw [Bool.not_true,cond_false]
  rw [show f33 10000000000000000 (grOf n E) (il A) (il B) K=f33 10000000000000000 (grOf n E) (il A) (il B) (il C) from by rw [hC.eq]]
  obtain ⟨b',hb1,hb2⟩:=f33_ok (B:=B) (K:=C) hEn (by omega) (by omega) hA (by omega) (by omega) (by omega)
  rw [hb1]
  simp only [Option.bind_some]
  have hval:=sumC_le (by omega) hw2 C
  have hval0:0≤sumC w C:=lsm_nonneg fun c hc=>(hC.ok c hc).2
  cases b' with
  | true=>
   rw [cond_true]
   exact Yld.ret (.inr ⟨rfl,no fun h=>Bool.noConfusion (hb2.2 h.1)⟩)
  | false=>
   have hS:=hb2.1 rfl
   have no:¬ PfP n E A B w fs (sumC w C)→¬ Prf n E A B w K fs:=fun h=>no fun h2=>h h2.2
   rw [cond_false,hg,ckn (by omega),Int.toNat_natCast,rep_map]
   refine Yld.up (fun k (s:Int×List Int)=>s=(Am (fs.take k),(List.range n).map (Ld (fs.take k)))∧(∀ f∈fs.take k,GoodF n E A B f)∧(∀ v,v < n→0≤w.getD v 0→Ld (fs.take k) v≤w.getD v 0)∧0≤Am (fs.take k)∧Am (fs.take k)≤sumC w C) fs.length ?_ ?_ 10000000000000000 0 (Nat.zero_le _) (by omega) _ ⟨by simp [Am,Ld,lsm],by simp,fun v _ h=>by simpa [Ld,lsm] using h,by simp [Am,lsm],by simpa [Am,lsm] using hval0⟩
   ·rintro k s z hk ⟨rfl,h1,h3,h4,h5⟩ hz
    have hpos:∀ f∈fs.take k,0≤f.2.1:=fun f hf=>by have:=(h1 f hf).1;omega
    have htk:=take_succ hk
    simp only [f16_L10]
    rw [dlt_len hk,wi64_nat (k:=k) (by omega),idx_lt hk]
    simp only [cond_true,Option.bind_some]
    have hfk:=hfs _ (List.getElem_mem hk)
    rw [wi64_of (n:=sumC w C-Am (fs.take k)) (by omega) (by omega),bindc]
    by_cases c1:(decide (fs[k].2.1 < 1) || decide (sumC w C-Am (fs.take k) < fs[k].2.1))=true
    ·rw [c1,cond_true]
     simp only [Option.bind_some,cond_true]
     refine Yld.ret (.inr ⟨rfl,no fun hP=>?_⟩)
     simp only [Bool.or_eq_true,decide_eq_true_eq] at c1
     have g1:=(hP.good _ (List.getElem_mem hk)).1
     have g2:=Am_take (fun f hf=>by have:=(hP.good f hf).1;omega) (k+1)
     rw [htk,Am_app,hP.sum] at g2
     rcases c1 with c1 | c1 <;> omega
    ·have c1':=Bool.eq_false_iff.2 c1
     rw [c1',cond_false]
     simp only [Bool.or_eq_false_iff,decide_eq_false_iff_not] at c1'
     obtain ⟨c2,c3⟩:=c1'
     obtain ⟨bp,hp1,hp2⟩:=f35_ok (n:=n) (E:=E) (A:=A) (B:=B) (by omega) (by omega) (by omega) (by omega) fs[k].1
     rw [hp1]
     simp only [Option.bind_some]
     cases bp with
     | false=>
      rw [Bool.not_false,cond_true]
      refine Yld.ret (.inr ⟨rfl,no fun hP=>?_⟩)
      exact Bool.false_ne_true (hp2.2 (hP.good _ (List.getElem_mem hk)).2)
     | true=>
      obtain ⟨q,hq,hQ⟩:=hp2.1 rfl
      have hmem:∀ v:Nat,((v:Int)∈fs[k].1)↔v∈q:=fun v=>by rw [hq];exact mem_il
      have hqn:=nodup_len hQ.nodup hQ.lt
      rw [Bool.not_true,cond_false,wi64_of (n:=Am (fs.take k)+fs[k].2.1) (by omega) (by omega)]
      refine Yld.up (fun j (s:List Int)=>s=(List.range n).map (fun v=>Ld (fs.take k) v+if v∈q.take j then fs[k].2.1 else 0)∧∀ v∈q.take j,0≤w.getD v 0→Ld (fs.take k) v+fs[k].2.1≤w.getD v 0) q.length ?_ ?_ 10000000000000000 0 (Nat.zero_le _) (by omega) _ ⟨List.map_congr_left fun v _=>by simp,by simp⟩
      ·rintro j s z2 hj ⟨rfl,g1⟩ hz2
       have htj:=take_succ hj
       have hvn:=hQ.lt _ (List.getElem_mem hj)
       have hvq:q[j]∉q.take j:=fun hm=>by
        have:=hQ.nodup.sublist (List.take_sublist (j+1) q)
        rw [htj] at this
        exact (List.nodup_append.1 this).2.2 _ hm _ (by simp) rfl
       have hLA:=Ld_le_Am hpos q[j]
       have hL0:=Ld_nonneg hpos q[j]
       simp only [f16_L17]
       have hidx:idx fs[k].1 (j:Int)=some (q[j]:Int):=by rw [hq];exact il_idx hj
       rw [d_true (show (j:Int) < len fs[k].1 by rw [hq,len_eq,il_len];omega),wi64_nat (k:=j) (by omega),hidx]
       have hvm:(q[j]:Int)∈fs[k].1:=(hmem _).2 (List.getElem_mem hj)
       generalize hvv:q[j]=v at hvn hvq hLA hL0 htj hvm
       simp only [cond_true,Option.bind_some]
       have i1:∀ D:Nat→Int,inb ((List.range n).map D) (v:Int)=true:=fun D=>inb_map_range _ hvn
       have e2:idx ((List.range n).map (fun v=>Ld (fs.take k) v+if v∈q.take j then fs[k].2.1 else 0)) (v:Int)=some (Ld (fs.take k) v):=by
        rw [idx_map_range _ hvn,if_neg hvq,Int.add_zero]
       rw [chk_true (i1 _),e2]
       simp only [Option.bind_some]
       rw [wi64_of (n:=Ld (fs.take k) v+fs[k].2.1) (by omega) (by omega)]
       have e3:setI ((List.range n).map (fun v=>Ld (fs.take k) v+if v∈q.take j then fs[k].2.1 else 0)) (v:Int) (Ld (fs.take k) v+fs[k].2.1)=(List.range n).map (fun v=>Ld (fs.take k) v+if v∈q.take (j+1) then fs[k].2.1 else 0):=by
        show ((List.range n).map (fun v=>Ld (fs.take k) v+if v∈q.take j then fs[k].2.1 else 0)).set v _=_
        rw [map_set_range]
        refine List.map_congr_left fun x _=>?_
        rw [htj]
        by_cases e:x=v
        ·subst e;rw [upF_self,if_pos (by simp)]
        ·rw [upF_ne _ _ e];simp [e]
       have e4:idx ((List.range n).map (fun v=>Ld (fs.take k) v+if v∈q.take (j+1) then fs[k].2.1 else 0)) (v:Int)=some (Ld (fs.take k) v+fs[k].2.1):=by
        rw [idx_map_range _ hvn,htj,if_pos (by simp)]
       rw [e3,chk_true (i1 _),chk_true (i1 _),e4,getD_idx hw hvn]
       simp only [Option.bind_some]
       rw [bindc']
       refine Yld.cond (fun hc=>?_) fun hc=>?_
       ·simp only [Bool.and_eq_true,decide_eq_true_eq] at hc
        refine Yld.ret (.inr ⟨rfl,no fun hP=>?_⟩)
        have:=hP.next hk hvn hc.1 hvm
        omega
       ·simp only [Bool.and_eq_false_iff,decide_eq_false_iff_not] at hc
        refine hz2 _ ⟨rfl,fun x hx h0=>?_⟩
        rw [htj] at hx
        rcases List.mem_append.1 hx with hx | hx
        ·exact g1 x hx h0
        ·rw [List.mem_singleton] at hx;subst hx
         rcases hc with hc | hc <;> omega
      ·rintro s z2 ⟨rfl,g1⟩
       simp only [f16_L17]
       rw [d_false (show ¬ ((q.length:Nat):Int) < len fs[k].1 by rw [hq,len_eq,il_len];omega),cond_false]
       rw [List.take_length] at g1 ⊢
       have hA1:Am (fs.take (k+1))=Am (fs.take k)+fs[k].2.1:=by rw [htk,Am_app]
       rw [←hA1]
       refine hz (_,_) ⟨?_,fun f hf=>?_,fun v hv h0=>?_,by rw [hA1];omega,by rw [hA1];omega⟩
       ·refine congrArg _ (List.map_congr_left fun v _=>?_)
        rw [htk,Ld_app]
        congr 1
        by_cases hv:v∈q
        ·rw [if_pos hv,if_pos ((hmem v).2 hv)]
        ·rw [if_neg hv,if_neg fun h=>hv ((hmem v).1 h)]
       ·rw [htk] at hf
        rcases List.mem_append.1 hf with hf | hf
        ·exact h1 f hf
        ·rw [List.mem_singleton] at hf;subst hf;exact ⟨by omega,q,hq,hQ⟩
       ·rw [htk,Ld_app]
        by_cases hv2:v∈q
        ·rw [if_pos ((hmem v).2 hv2)]
         exact g1 v hv2 h0
        ·rw [if_neg fun h=>hv2 ((hmem v).1 h)]
         have:=h3 v hv h0
         omega
   ·rintro s z ⟨rfl,h1,h3,h4,h5⟩
    simp only [f16_L10]
    rw [List.take_length] at h1 h3 h4 h5 ⊢
    rw [dnlt_len,cond_false]
    refine Yld.cond (fun hc2=>?_) fun hc2=>?_
    ·simp only [Bool.not_eq_true',decide_eq_false_iff_not] at hc2
     exact Yld.ret (.inr ⟨rfl,no fun hP=>hc2 hP.sum⟩)
    ·simp only [Bool.not_eq_false',decide_eq_true_eq] at hc2
     exact Yld.ret (.inl ⟨rfl,C,hC,hS,h1,h3,hc2⟩)
 ·simp only [Bool.not_false,cond_true,Option.bind_some]
  exact Yld.ret (.inr ⟨rfl,fun ⟨C,hC,_⟩=>hno ⟨C,hC⟩⟩)
end
end Go.Kz
