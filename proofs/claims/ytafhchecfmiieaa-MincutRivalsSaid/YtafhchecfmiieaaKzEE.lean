/-
  Layer 07, plain: flows that prove a cut: the laws Checks and Rivals.
-/
import Derived.Test.YtafhchecfmiieaaKzED
set_option linter.unusedVariables false
set_option linter.unusedSimpArgs false
namespace Go.Kz
theorem mget_mput {β:Type} (m:List (Int×β)) (x:Int) (y:β) (z:Int):mget (keyEq (.int .i64)) (mput (keyEq (.int .i64)) m x y) z=if z=x then some y else mget (keyEq (.int .i64)) m z:=by
 induction m with
 | nil=>
  simp only [mput,mget,keyEq]
  by_cases h:z=x
  ·simp [h]
  ·simp [h]
 | cons p m ih=>
  obtain ⟨k,v⟩:=p
  simp only [mput,keyEq]
  by_cases hxk:x=k
  ·subst hxk
   simp only [decide_true,cond_true,mget,keyEq]
   by_cases h:z=x
   ·simp [h]
   ·simp [h]
  ·rw [d_false hxk,cond_false]
   simp only [mget,keyEq]
   by_cases hzk:z=k
   ·subst hzk
    rw [if_neg (Ne.symm hxk)];simp
   ·rw [d_false hzk,cond_false,cond_false]
    exact ih
def GoodF (n:Nat) (E:List (Nat×Nat)) (A B:List Nat) (f:FlowD):Prop:=1≤f.2.1∧∃ q,f.1=il q∧IsP n E (mks A) (mks B) q
def Ld (fs:List FlowD) (v:Nat):Int:=lsm (fun f:FlowD=>if (v:Int)∈f.1 then f.2.1 else 0) fs
def Am (fs:List FlowD):Int:=lsm (fun f:FlowD=>f.2.1) fs
structure PfP (n:Nat) (E:List (Nat×Nat)) (A B:List Nat) (w:List Int) (fs:List FlowD) (val:Int):Prop where
 good:∀ f∈fs,GoodF n E A B f
 load:∀ v,v < n→0≤w.getD v 0→Ld fs v≤w.getD v 0
 sum:Am fs=val
theorem Ld_app (fs:List FlowD) (f:FlowD) (v:Nat):Ld (fs++[f]) v=Ld fs v+(if (v:Int)∈f.1 then f.2.1 else 0):=by unfold Ld;rw [lsm_app];simp [lsm]
theorem Am_app (fs:List FlowD) (f:FlowD):Am (fs++[f])=Am fs+f.2.1:=by unfold Am;rw [lsm_app];simp [lsm]
theorem Ld_take {fs:List FlowD} (h:∀ f∈fs,0≤f.2.1) (k v:Nat):Ld (fs.take k) v≤Ld fs v:=by
 have h1:=lsm_app (fun f:FlowD=>if (v:Int)∈f.1 then f.2.1 else 0) (fs.take k) (fs.drop k)
 rw [List.take_append_drop] at h1
 have:=lsm_nonneg (f:=fun f:FlowD=>if (v:Int)∈f.1 then f.2.1 else 0) (l:=fs.drop k) fun f hf=>by
  have:=h f (List.mem_of_mem_drop hf)
  split <;> omega
 unfold Ld;omega
theorem Am_take {fs:List FlowD} (h:∀ f∈fs,0≤f.2.1) (k:Nat):Am (fs.take k)≤Am fs:=by
 have h1:=lsm_app (fun f:FlowD=>f.2.1) (fs.take k) (fs.drop k)
 rw [List.take_append_drop] at h1
 have:=lsm_nonneg (f:=fun f:FlowD=>f.2.1) (l:=fs.drop k) fun f hf=>h f (List.mem_of_mem_drop hf)
 unfold Am;omega
theorem Ld_nonneg {fs:List FlowD} (h:∀ f∈fs,0≤f.2.1) (v:Nat):0≤Ld fs v:=lsm_nonneg fun f hf=>by have:=h f hf;split <;> omega
theorem Ld_le_Am {fs:List FlowD} (h:∀ f∈fs,0≤f.2.1) (v:Nat):Ld fs v≤Am fs:=lsm_le fun f hf=>by have:=h f hf;split <;> omega
section
variable {n:Nat} {E:List (Nat×Nat)} {A B:List Nat} {w:List Int}
theorem PfP.next {fs:List FlowD} {val:Int} (h:PfP n E A B w fs val) {k:Nat} (hk:k < fs.length) {v:Nat} (hv:v < n) (hw:0≤w.getD v 0) (hm:(v:Int)∈fs[k].1):Ld (fs.take k) v+fs[k].2.1≤w.getD v 0:=by
 have h1:=Ld_take (fun f hf=>by have:=(h.good f hf).1;omega) (k+1) v
 rw [take_succ hk,Ld_app,if_pos hm] at h1
 have:=h.load v hv hw
 omega
theorem f56_eq {a v:Nat} (ha:a < n) (hn:n≤100):f56 10000000000000000 (il (suc n E a)) (v:Int)=some (decide (v < n∧(a,v)∈E)):=by
 unfold f56
 have hl:=suc_len n E a
 rcases f50_ok (suc n E a) v (by omega) with ⟨h1,h2⟩ | ⟨k,hk,h1,h2⟩
 ·rw [h2,Option.bind_some,d_false (by omega)]
  rw [decide_eq_false fun h=>h1 (mem_suc.2 h)]
 ·rw [h2,Option.bind_some,d_true (by omega)]
  rw [decide_eq_true (mem_suc.1 (h1 ▸ List.getElem_mem hk))]
def ldF2 (w:List Int) (ld:Nat→Int) (a:Int) (q:List Nat) (v:Nat):Int:=ld v+(if v∈q∧0≤w.getD v 0 then a else 0)
theorem f43_ok (hEn:Nod n E) (hn:n≤12) (hw:w.length=n) (hw2:∀ x∈w,x≤1048576) (hw3:∀ x∈w,-9223372036854775808≤x) (f:FlowD) (hf:f.2.1≤9223372036854775807) {ld:Nat→Int} (hld:∀ v,v < n→0≤ld v∧ld v≤1048576) (hA:Sub n A) (hB:Sub n B) :
  Yld (f43 10000000000000000 (nx n E) w f (mkL n A) (mkL n B) ((List.range n).map ld)) fun x=>∃ b ld',x=(((),((),((),(b,())))),(mkL n A,(mkL n B,((List.range n).map ld',()))))∧
   ((b=true∧∃ q,f.1=il q∧1≤f.2.1∧IsP n E (mks A) (mks B) q∧(∀ v,ld' v=ldF2 w ld f.2.1 q v)∧∀ v∈q,0≤w.getD v 0→ld v+f.2.1≤w.getD v 0)∨
    (b=false∧¬ (GoodF n E A B f∧∀ v,v < n→0≤w.getD v 0→(v:Int)∈f.1→ld v+f.2.1≤w.getD v 0))):=by
 unfold f43
 rw [bindc]
 refine Yld.cond (fun hc=>?_) fun hc=>?_
 ·refine Yld.ret ⟨false,ld,rfl,.inr ⟨rfl,fun ⟨⟨h1,q,h2,h3⟩,_⟩=>?_⟩⟩
  simp only [Bool.or_eq_true,decide_eq_true_eq,len_eq] at hc
  rcases hc with hc | hc
  ·omega
  ·rw [h2,il_len] at hc
   have:=List.length_pos_iff.2 h3.ne
   omega
 ·simp only [Bool.or_eq_false_iff,decide_eq_false_iff_not,len_eq] at hc
  obtain ⟨hc1,hc2⟩:=hc
  refine Yld.iterM (fun m (s:Int×List Int×List (Int×Bool))=>∃ (q:List Nat) (mp:List (Int×Bool)),s=((q.length:Int),(List.range n).map (ldF2 w ld f.2.1 q),mp)∧f.1.take q.length=il q∧q.length≤f.1.length∧q.Nodup∧(∀ x∈q,x < n)∧(∀ i a b,q[i]? = some a→q[i+1]? = some b→(a,b)∈E)∧(∀ v∈q,0≤w.getD v 0→ld v+f.2.1≤w.getD v 0)∧(∀ x,(mget (keyEq (.int .i64)) mp x).getD false=decide (x∈il q))∧m+q.length=n) ?_ 10000000000000000 n _ (by omega) ⟨[],[],?_,by simp [il],by simp,List.nodup_nil,by simp,by simp,by simp,fun x=>by simp [mget,il],rfl⟩
  ·rintro m s z ⟨q,mp,rfl,h1,h2,h3,h4,h5,h6,h7,hm⟩ hz
   simp only [f43_L5]
   have hqn:=nodup_len h3 h4
   by_cases hk:q.length < f.1.length
   ·rw [dlt_len hk,idx_lt hk,wi64_nat (k:=q.length) (by omega),cond_true,Option.bind_some,bindc,show len (nx n E)=(n:Int) from by rw [len_eq,nx_len],h7]
    have htk:=take_succ hk
    rw [h1] at htk
    have hxm:f.1[q.length]∈f.1:=List.getElem_mem hk
    have say:∀ p,f.1=il p→IsP n E (mks A) (mks B) p→∃ v:Nat,f.1[q.length]=(v:Int)∧v < n∧v∉q∧(∀ a:Nat,q[q.length-1]? = some a→0 < q.length→(a,v)∈E):=by
     intro p hp hP
     have hpl:q.length < p.length:=by rw [hp,il_len] at hk;exact hk
     have hv:f.1[q.length]=(p[q.length]:Int):=by
      have:(il p)[q.length]? = some (p[q.length]:Int):=il_get hpl
      rw [←hp,List.getElem?_eq_getElem hk] at this
      simpa using this
     have hpq:p.take q.length=q:=il_inj (by rw [←il_take,←hp,h1])
     refine ⟨p[q.length],hv,hP.lt _ (List.getElem_mem hpl),fun hm=>?_,fun a ha h0=>?_⟩
     ·have h8:=hP.nodup.sublist (List.take_sublist (q.length+1) p)
      rw [take_succ hpl,hpq] at h8
      exact (List.nodup_append.1 h8).2.2 _ hm _ (by simp) rfl
     ·refine wk_iff.1 hP.walk (q.length-1) a _ ?_ ?_
      ·have ha2:(p.take q.length)[q.length-1]? = some a:=by rw [hpq];exact ha
       rw [List.getElem?_take,if_pos (by omega)] at ha2;exact ha2
      ·rw [show q.length-1+1=q.length from by omega,List.getElem?_eq_getElem hpl]
    have stop:(∀ v:Nat,f.1[q.length]=(v:Int)→v < n→v∉q→(∀ a:Nat,q[q.length-1]? = some a→0 < q.length→(a,v)∈E)→(0≤w.getD v 0→ld v+f.2.1≤w.getD v 0)→False)→¬ (GoodF n E A B f∧∀ v,v < n→0≤w.getD v 0→(v:Int)∈f.1→ld v+f.2.1≤w.getD v 0):=by
     rintro hno ⟨⟨_,p,hp,hP⟩,hL⟩
     obtain ⟨v,g1,g2,g3,g4⟩:=say p hp hP
     exact hno v g1 g2 g3 g4 fun h0=>hL v g2 h0 (g1 ▸ hxm)
    by_cases c1:(decide (f.1[q.length] < 0) || decide ((n:Int)≤f.1[q.length]))=true
    ·rw [c1,cond_true]
     simp only [Option.bind_some,cond_true]
     refine Yld.ret ⟨false,_,rfl,.inr ⟨rfl,stop fun v g1 g2 _ _ _=>?_⟩⟩
     simp only [Bool.or_eq_true,decide_eq_true_eq] at c1
     omega
    ·have c1':=Bool.eq_false_iff.2 c1
     rw [c1',cond_false]
     simp only [Bool.or_eq_false_iff,decide_eq_false_iff_not] at c1'
     obtain ⟨c2,c3⟩:=c1'
     obtain ⟨v,hv⟩:∃ v:Nat,f.1[q.length]=(v:Int):=⟨f.1[q.length].toNat,by omega⟩
     have hvn:v < n:=by omega
     rw [hv,Option.bind_some]
     rw [hv] at htk
     have hmv:decide ((v:Int)∈il q)=mks q v:=by unfold mks;exact decide_eq_decide.2 mem_il
     rw [hmv]
     cases h8:mks q v
     ·rw [cond_false]
      have hvq:v∉q:=fun h=>by rw [mk_iff.2 h] at h8;cases h8
      have hE1:(cond (decide (0 < (q.length:Int))) ((idx f.1 (wi64 ((q.length:Int)-1))).bind fun x_1=>(idx (nx n E) x_1).bind fun x_2=>(f56 10000000000000000 x_2 (v:Int)).bind fun r=>some (!r)) (some false))=some (!decide (∀ a,q[q.length-1]? = some a→0 < q.length→(a,v)∈E)):=by
       by_cases e:q.length=0
       ·rw [d_false (by omega),cond_false,decide_eq_true (fun a _ h=>by omega)];rfl
       ·have hlast:f.1[q.length-1]'(by omega)=(q[q.length-1]'(by omega):Int):=by
         have:(il q)[q.length-1]? = some (q[q.length-1]'(by omega):Int):=il_get (by omega)
         rw [←h1,List.getElem?_take,if_pos (by omega),List.getElem?_eq_getElem (by omega)] at this
         simpa using this
        have hln:q[q.length-1]'(by omega) < n:=h4 _ (List.getElem_mem _)
        rw [d_true (by omega),cond_true,wi64_pred (by omega) (by omega),idx_lt (show q.length-1 < f.1.length by omega),hlast,Option.bind_some,show idx (nx n E) ((q[q.length-1]'(by omega):Nat):Int)=some (il (suc n E (q[q.length-1]'(by omega)))) from nx_get hln,Option.bind_some,f56_eq hln (by omega),Option.bind_some]
        congr 1
        congr 1
        refine decide_eq_decide.2 ⟨fun h a ha _=>?_,fun h=>⟨hvn,h _ (List.getElem?_eq_getElem (by omega)) (by omega)⟩⟩
        rw [List.getElem?_eq_getElem (by omega)] at ha
        have ha:q[q.length-1]'(by omega)=a:=by simpa using ha
        rw [←ha];exact h.2
      rw [hE1]
      simp only [Option.bind_some]
      by_cases hed:∀ a,q[q.length-1]? = some a→0 < q.length→(a,v)∈E
      ·rw [decide_eq_true hed,Bool.not_true,cond_false,getD_idx hw hvn]
       simp only [Option.bind_some]
       have hnod:(q++[v]).Nodup:=List.nodup_append.2 ⟨h3,by simp,fun a ha b hb e=>by
        rw [List.mem_singleton] at hb;subst hb;subst e;exact hvq ha⟩
       have hlt:∀ x∈q++[v],x < n:=fun x hx=>by
        rcases List.mem_append.1 hx with hx | hx
        ·exact h4 x hx
        ·rw [List.mem_singleton] at hx;subst hx;exact hvn
       have hedg:∀ i a b,(q++[v])[i]? = some a→(q++[v])[i+1]? = some b→(a,b)∈E:=by
        intro i a b ha hb
        have hi:i+1 < (q++[v]).length:=(List.getElem?_eq_some_iff.1 hb).1
        rw [List.length_append,List.length_singleton] at hi
        rw [List.getElem?_append_left (by omega)] at ha
        by_cases e:i+1=q.length
        ·rw [List.getElem?_append_right (by omega),show i+1-q.length=0 from by omega] at hb
         have hb:v=b:=by simpa using hb
         subst hb
         exact hed a (by rw [←ha];congr 1;omega) (by omega)
        ·rw [List.getElem?_append_left (by omega)] at hb
         exact h5 i a b ha hb
       have hmap:∀ x,(mget (keyEq (.int .i64)) (mput (keyEq (.int .i64)) mp (v:Int) true) x).getD false=decide (x∈il (q++[v])):=by
        intro x
        rw [mget_mput,←il_app]
        by_cases e:x=(v:Int)
        ·rw [if_pos e,e];exact (decide_eq_true (List.mem_append.2 (.inr (by simp)))).symm
        ·rw [if_neg e,h7 x]
         exact decide_eq_decide.2 ⟨fun h=>List.mem_append.2 (.inl h),fun h=>(List.mem_append.1 h).elim _root_.id fun h=>absurd (List.mem_singleton.1 h) e⟩
       have hlen1:(((q++[v]).length:Nat):Int)=(q.length:Int)+1:=by simp
       have hqn2:=nodup_len hnod hlt
       rw [List.length_append,List.length_singleton] at hqn2
       have hldv:ldF2 w ld f.2.1 q v=ld v:=by unfold ldF2;rw [if_neg fun h=>hvq h.1];omega
       have tk:f.1.take (q++[v]).length=il (q++[v]):=by rw [List.length_append,List.length_singleton,htk,il_app]
       refine Yld.cond (fun hneg=>?_) fun hneg=>?_
       ·rw [decide_eq_true_eq] at hneg
        rw [show (List.range n).map (ldF2 w ld f.2.1 q)=(List.range n).map (ldF2 w ld f.2.1 (q++[v])) from List.map_congr_left fun x _=>by
         unfold ldF2
         by_cases e:x=v
         ·subst e;rw [if_neg fun h=>hvq h.1,if_neg fun h=>by omega]
         ·simp [e],←hlen1]
        refine hz (m-1) _ (by omega) ⟨q++[v],_,rfl,tk,by simp;omega,hnod,hlt,hedg,fun x hx h0=>?_,hmap,by simp;omega⟩
        rcases List.mem_append.1 hx with hx | hx
        ·exact h6 x hx h0
        ·rw [List.mem_singleton] at hx;subst hx;omega
       ·rw [decide_eq_false_iff_not] at hneg
        have hwv:=getD_le (by omega) hw2 v
        have hlv:=hld v hvn
        simp only [inb_map_range _ hvn,idx_map_range _ hvn,chk_true,Option.bind_some,hldv]
        rw [wi64_of (n:=w.getD v 0-ld v) (by omega) (by omega)]
        refine Yld.cond (fun hov=>?_) fun hov=>?_
        ·rw [decide_eq_true_eq] at hov
         refine Yld.ret ⟨false,_,rfl,.inr ⟨rfl,stop fun u g1 g2 g3 g4 g5=>?_⟩⟩
         have:u=v:=by omega
         subst this
         have:=g5 (by omega)
         omega
        ·rw [decide_eq_false_iff_not] at hov
         rw [wi64_of (n:=ld v+f.2.1) (by omega) (by omega)]
         have e1:setI ((List.range n).map (ldF2 w ld f.2.1 q)) (v:Int) (ld v+f.2.1)=(List.range n).map (ldF2 w ld f.2.1 (q++[v])):=by
          show ((List.range n).map (ldF2 w ld f.2.1 q)).set v _=_
          rw [map_set_range]
          refine List.map_congr_left fun x _=>?_
          by_cases e:x=v
          ·subst e;rw [upF_self];unfold ldF2;rw [if_pos ⟨by simp,by omega⟩]
          ·rw [upF_ne _ _ e];unfold ldF2;simp [e]
         rw [e1,←hlen1]
         refine hz (m-1) _ (by omega) ⟨q++[v],_,rfl,tk,by simp;omega,hnod,hlt,hedg,fun x hx h0=>?_,hmap,by simp;omega⟩
         rcases List.mem_append.1 hx with hx | hx
         ·exact h6 x hx h0
         ·rw [List.mem_singleton] at hx;subst hx;omega
      ·rw [decide_eq_false hed,Bool.not_false,cond_true]
       refine Yld.ret ⟨false,_,rfl,.inr ⟨rfl,stop fun u g1 g2 g3 g4 g5=>hed fun a ha h0=>?_⟩⟩
       have:u=v:=by omega
       subst this
       exact g4 a ha h0
     ·rw [cond_true]
      simp only [Option.bind_some,cond_true]
      refine Yld.ret ⟨false,_,rfl,.inr ⟨rfl,stop fun u g1 g2 g3 g4 g5=>?_⟩⟩
      have:u=v:=by omega
      subst this
      exact g3 (mk_iff.1 h8)
   ·have hql:q.length=f.1.length:=by omega
    rw [d_false (show ¬ ((q.length:Nat):Int) < len f.1 by rw [len_eq];omega),cond_false]
    rw [hql,List.take_length] at h1
    have hq0:0 < q.length:=by omega
    have hz0:idx (il q) 0=some (q[0]:Int):=il_idx hq0
    rw [h1,hz0,show len (il q)=(q.length:Int) from by rw [len_eq,il_len],wi64_pred (by omega) (by omega),il_idx (show q.length-1 < q.length by omega)]
    have hn0:q[0] < n:=h4 _ (List.getElem_mem _)
    have hn1:q[q.length-1] < n:=h4 _ (List.getElem_mem _)
    simp only [Option.bind_some,mk_inb A hn0,mk_get A hn0,mk_inb B hn1,mk_get B hn1,chk_true]
    rw [bindc']
    refine Yld.ret ⟨_,_,rfl,?_⟩
    cases hb:(mks A q[0] && mks B q[q.length-1])
    ·refine .inr ⟨rfl,?_⟩
     rintro ⟨⟨_,p,hp,hP⟩,_⟩
     have:p=q:=il_inj (by rw [←hp,h1])
     subst this
     have g1:=hP.first hP.ne
     have g2:=hP.last hP.ne
     rw [List.head_eq_getElem] at g1
     rw [List.getLast_eq_getElem] at g2
     rw [g1,g2] at hb
     cases hb
    ·rw [Bool.and_eq_true] at hb
     refine .inl ⟨rfl,q,rfl,by omega,IsP.of hq0 (fun a ha=>?_) (fun a ha=>?_) h5 h3 h4,fun v=>rfl,h6⟩
     ·rw [List.getElem?_eq_getElem hq0] at ha
      have ha:q[0]=a:=by simpa using ha
      rw [←ha];exact hb.1
     ·rw [List.getElem?_eq_getElem (by omega)] at ha
      have ha:q[q.length-1]=a:=by simpa using ha
      rw [←ha];exact hb.2
  ·show ((0:Int),(List.range n).map ld,([]:List (Int×Bool)))=_
   congr 2
   refine List.map_congr_left fun x _=>?_
   unfold ldF2;simp
end
end Go.Kz
