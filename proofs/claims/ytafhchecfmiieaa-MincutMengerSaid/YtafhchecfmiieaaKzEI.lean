/-
  Layer 07, plain: the law Menger.
-/
import Derived.Test.YtafhchecfmiieaaKzEH
set_option linter.unusedVariables false
set_option linter.unusedSimpArgs false
namespace Go.Kz
theorem f39_0:f39 10000000000000000 [1] (Int.ofNat 0)=some (List.replicate 0 (1:Int)):=by kernel_rfl
theorem f39_1:f39 10000000000000000 [1] (Int.ofNat 1)=some (List.replicate 1 (1:Int)):=by kernel_rfl
theorem f39_2:f39 10000000000000000 [1] (Int.ofNat 2)=some (List.replicate 2 (1:Int)):=by kernel_rfl
theorem f39_3:f39 10000000000000000 [1] (Int.ofNat 3)=some (List.replicate 3 (1:Int)):=by kernel_rfl
theorem f39_4:f39 10000000000000000 [1] (Int.ofNat 4)=some (List.replicate 4 (1:Int)):=by kernel_rfl
theorem f39_5:f39 10000000000000000 [1] (Int.ofNat 5)=some (List.replicate 5 (1:Int)):=by kernel_rfl
theorem f39_6:f39 10000000000000000 [1] (Int.ofNat 6)=some (List.replicate 6 (1:Int)):=by kernel_rfl
theorem f39_7:f39 10000000000000000 [1] (Int.ofNat 7)=some (List.replicate 7 (1:Int)):=by kernel_rfl
theorem f39_8:f39 10000000000000000 [1] (Int.ofNat 8)=some (List.replicate 8 (1:Int)):=by kernel_rfl
theorem f39_9:f39 10000000000000000 [1] (Int.ofNat 9)=some (List.replicate 9 (1:Int)):=by kernel_rfl
theorem f39_10:f39 10000000000000000 [1] (Int.ofNat 10)=some (List.replicate 10 (1:Int)):=by kernel_rfl
theorem f39_11:f39 10000000000000000 [1] (Int.ofNat 11)=some (List.replicate 11 (1:Int)):=by kernel_rfl
theorem f39_12:f39 10000000000000000 [1] (Int.ofNat 12)=some (List.replicate 12 (1:Int)):=by kernel_rfl
theorem f39_eq {n:Nat} (hn:n≤12):f39 10000000000000000 [1] (n:Int)=some (List.replicate n 1):=by
 have:n=0∨n=1∨n=2∨n=3∨n=4∨n=5∨n=6∨n=7∨n=8∨n=9∨n=10∨n=11∨n=12:=by omega
 rcases this with rfl | rfl | rfl | rfl | rfl | rfl | rfl | rfl | rfl | rfl | rfl | rfl | rfl
 ·exact f39_0
 ·exact f39_1
 ·exact f39_2
 ·exact f39_3
 ·exact f39_4
 ·exact f39_5
 ·exact f39_6
 ·exact f39_7
 ·exact f39_8
 ·exact f39_9
 ·exact f39_10
 ·exact f39_11
 ·exact f39_12
def ones (n:Nat):List Int:=List.replicate n 1
theorem ones_len (n:Nat):(ones n).length=n:=List.length_replicate
theorem ones_get {n v:Nat} (h:v < n):(ones n).getD v 0=1:=by
 unfold ones
 rw [List.getD_eq_getElem?_getD,List.getElem?_replicate_of_lt h];rfl
theorem f19_paths {fs:List FlowD} (hl:fs.length≤100000000) {R:Type} {Q:R→Prop} {kx:List (List Int)→Option R} (hk:Yld (kx (fs.map Prod.fst)) Q) :
  Yld (iter (fun w=>f19_L8 10000000000000000 fs (len fs) w kx) 10000000000000000 (0,([]:List (List Int)))) Q:=by
 refine Yld.up (fun k (s:List (List Int))=>s=(fs.take k).map Prod.fst) fs.length ?_ ?_ 10000000000000000 0 (Nat.zero_le _) (by omega) _ (by simp)
 ·rintro k s w hk rfl hw
  simp only [f19_L8]
  rw [dlt_len hk,wi64_nat (k:=k) (by omega),idx_lt hk,cond_true,Option.bind_some,chk_true (decide_eq_true (show Nat.succ ((fs.take k).map Prod.fst).length≤room by rw [List.length_map,List.length_take];simp only [room];omega))]
  refine hw _ ?_
  rw [take_succ hk,List.map_append];rfl
 ·rintro s w rfl
  simp only [f19_L8]
  rw [dnlt_len,cond_false,List.take_length]
  exact hk
theorem f5_ones {m:Int} (hm:m≤100) (t7:List (List Int)) (t8:Int) (t2 t1:List Int) (g:Gr) {R:Type} {Q:R→Prop} {kx:List Int→Option R} (hk:Yld (kx (ones m.toNat)) Q) :
  Yld (iter (fun w=>f5_L8 10000000000000000 t7 t8 t2 t1 m g w kx) 10000000000000000 (0,([]:List Int))) Q:=by
 refine Yld.up (fun k (s:List Int)=>s=ones k) m.toNat ?_ ?_ 10000000000000000 0 (Nat.zero_le _) (by omega) _ rfl
 ·rintro k s w hk rfl hw
  simp only [f5_L8]
  rw [d_true (show (k:Int) < m by omega),wi64_nat (k:=k) (by omega),cond_true,ck0' (by rw [ones_len];omega)]
  refine hw _ ?_
  unfold ones
  rw [List.replicate_succ']
 ·rintro s w rfl
  simp only [f5_L8]
  rw [d_false (show ¬ ((m.toNat:Nat):Int) < m by omega),cond_false]
  exact hk
section
variable {n:Nat} {E:List (Nat×Nat)} {A B:List Nat}
theorem ones_one {fs:List FlowD} {val:Int} (h:PfP n E A B (ones n) fs val):∀ f∈fs,f.2.1=1:=by
 intro f hf
 obtain ⟨g1,q,g2,g3⟩:=h.good f hf
 have hv:q.head g3.ne∈q:=List.head_mem g3.ne
 have hvn:=g3.lt _ hv
 have h1:=h.load _ hvn (by rw [ones_get hvn];omega)
 rw [ones_get hvn] at h1
 have h2:=lsm_ge (f:=fun f:FlowD=>if ((q.head g3.ne:Nat):Int)∈f.1 then f.2.1 else 0) (l:=fs) (fun x hx=>by have:=(h.good x hx).1;split <;> omega) hf
 simp only [g2,mem_il.2 hv,if_true] at h2
 have h3:Ld fs (q.head g3.ne)=lsm (fun f:FlowD=>if ((q.head g3.ne:Nat):Int)∈f.1 then f.2.1 else 0) fs:=rfl
 omega
theorem f20_ok (hEl:E.length≤100) (hn:n≤12) (hAl:A.length≤1000) (hBl:B.length≤1000) {fs:List FlowD} {val:Int} (h:PfP n E A B (ones n) fs val) (hl:fs.length≤100000000):f20 10000000000000000 (grOf n E) (il A) (il B) (fs.map Prod.fst)=some true:=by
 have hone:=ones_one h
 have hpos:∀ f∈fs,0≤f.2.1:=fun f hf=>by rw [hone f hf];omega
 refine Yld.eq ?_
 unfold f20
 refine Yld.up (fun k (s:List Int)=>∃ al:List Nat,s=il al∧al.Nodup∧(∀ x∈al,x < n)∧∀ x∈al,1≤Ld (fs.take k) x) fs.length ?_ ?_ 10000000000000000 0 (Nat.zero_le _) (by omega) _ ⟨[],rfl,List.nodup_nil,by simp,by simp⟩
 ·rintro k s w hk ⟨al,rfl,h1,h2,h3⟩ hw
  have hkm:k < (fs.map Prod.fst).length:=by rw [List.length_map];exact hk
  have hidx:idx (fs.map Prod.fst) (k:Int)=some fs[k].1:=by rw [idx_lt hkm,List.getElem_map]
  have hfm:=List.getElem_mem hk
  obtain ⟨g1,q,g2,g3⟩:=h.good _ hfm
  simp only [f20_L3]
  rw [d_true (show (k:Int) < len (fs.map Prod.fst) by rw [len_eq];omega),wi64_nat (k:=k) (by omega),cond_true,hidx,Option.bind_some]
  obtain ⟨b,hb1,hb2⟩:=f35_ok (n:=n) (E:=E) (A:=A) (B:=B) hEl (by omega) hAl hBl fs[k].1
  have hbt:b=true:=hb2.2 ⟨q,g2,g3⟩
  rw [hb1,hbt,Option.bind_some,Bool.not_true,cond_false]
  have hqn:=nodup_len g3.nodup g3.lt
  refine Yld.up (fun j (s:List Int)=>s=il (al++q.take j)∧(al++q.take j).Nodup) q.length ?_ ?_ 10000000000000000 0 (Nat.zero_le _) (by omega) _ ⟨by simp,by simpa using h1⟩
  ·rintro j s w2 hj ⟨rfl,g4⟩ hw2
   simp only [f20_L8]
   have hvq:=List.getElem_mem hj
   have hvn:=g3.lt _ hvq
   have htj:=take_succ hj
   have hall:∀ x∈al++q.take j,x < n:=fun x hx=>by
    rcases List.mem_append.1 hx with hx | hx
    ·exact h2 x hx
    ·exact g3.lt x (List.mem_of_mem_take hx)
   have hlen:=nodup_len g4 hall
   have hno:q[j]∉al++q.take j:=fun hm=>by
    rcases List.mem_append.1 hm with hm | hm
    ·have i1:=h3 _ hm
     have i2:=h.next hk hvn (by rw [ones_get hvn];omega) (by rw [g2];exact mem_il.2 hvq)
     rw [ones_get hvn] at i2
     omega
    ·have:=g3.nodup.sublist (List.take_sublist (j+1) q)
     rw [htj] at this
     exact (List.nodup_append.1 this).2.2 _ hm _ (by simp) rfl
   have hij:idx fs[k].1 (j:Int)=some (q[j]:Int):=by rw [g2];exact il_idx hj
   rw [hidx,Option.bind_some,d_true (show (j:Int) < len fs[k].1 by rw [g2,len_eq,il_len];omega),wi64_nat (k:=j) (by omega),cond_true,Option.bind_some,hij,Option.bind_some,f40_il _ _ (by omega),show mks (al++q.take j) q[j]=false from by
    cases hm:mks (al++q.take j) q[j]
    ·rfl
    ·exact absurd (mk_iff.1 hm) hno]
   simp only [Option.bind_some,cond_false]
   rw [hij,Option.bind_some,ck0' (by rw [il_len];omega),il_app,List.append_assoc,←htj]
   refine hw2 _ ⟨rfl,?_⟩
   rw [htj,←List.append_assoc]
   refine List.nodup_append.2 ⟨g4,by simp,fun a ha b hb e=>?_⟩
   rw [List.mem_singleton] at hb
   subst hb;subst e
   exact hno ha
  ·rintro s w2 ⟨rfl,g4⟩
   simp only [f20_L8]
   rw [hidx,Option.bind_some,d_false (show ¬ ((q.length:Nat):Int) < len fs[k].1 by rw [g2,len_eq,il_len];omega),cond_false]
   rw [List.take_length] at g4 ⊢
   refine hw _ ⟨_,rfl,g4,fun x hx=>?_,fun x hx=>?_⟩
   ·rcases List.mem_append.1 hx with hx | hx
    ·exact h2 x hx
    ·exact g3.lt x hx
   ·rw [take_succ hk,Ld_app]
    have i0:=Ld_nonneg (fs:=fs.take k) (fun f hf=>hpos f (List.mem_of_mem_take hf)) x
    rcases List.mem_append.1 hx with hx | hx
    ·have:=h3 x hx
     split
     ·have:=hpos _ hfm;omega
     ·omega
    ·rw [if_pos (by rw [g2];exact mem_il.2 hx)];omega
 ·rintro s w _
  simp only [f20_L3]
  rw [d_false (show ¬ ((fs.length:Nat):Int) < len (fs.map Prod.fst) by rw [len_eq,List.length_map];omega),cond_false]
  exact Yld.ret rfl
end
theorem law5 (g:Gr) (A' B':List Int) (h:Ty.fits (.pair (.int .i64) (.pair (.sl false (.arr 2 (.int .i64))) .unit)) g):f5 10000000000000000 g A' B'=some true:=by
 have hfit:Fits g:=fun e he=>(h.2.1 e he).1
 unfold f5
 rw [known07]
 rw [Option.bind_some,Bool.not_true,cond_false]
 obtain ⟨b,hb,hfew⟩:=f12_eq (g,(([]:List Int),(A',(B',())))) (n:=12) (e:=60) (by omega) (by omega)
 rw [hb]
 rw [Option.bind_some]
 cases b with
 | false=>rfl
 | true=>
  have hF:=hfew rfl
  have hnn:g.1≤12:=hF.nodes
  have hel:(g.2.1.length:Int)≤60:=hF.edges
  have hal:(A'.length:Int)≤12+2:=hF.al
  have hbl:(B'.length:Int)≤12+2:=hF.bl
  rw [Bool.not_true,cond_false]
  have e17:f17 10000000000000000 g (ones g.1.toNat) A' B'=some (argS g (ones g.1.toNat) [A',B']):=f17_eq g _ _ _ hfit (by omega) (by rw [ones_len];omega) (by omega) (by omega)
  have e38:f38 10000000000000000 g=some (chkS g):=f28_bad hfit (by omega)
  refine Yld.eq ?_
  by_cases h0:chkS g=0
  ·obtain ⟨n,E,rfl,hN,e3,_⟩:=chk_graph hfit h0
   have hg:(grOf n E).1=(n:Int):=rfl
   have hn:n≤12:=by rw [hg] at hnn;omega
   have hto:(grOf n E).1.toNat=n:=by rw [hg,Int.toNat_natCast]
   rw [hto] at e17
   have e39:f39 10000000000000000 [1] (grOf n E).1=some (ones n):=f39_eq hn
   by_cases harg:argS (grOf n E) (ones n) [A',B']=0
   ·obtain ⟨n',E',A,B,hO⟩:=netOK hfit hnn (by omega) (by omega) (by omega) harg
    have en:n'=n:=by have:=hO.arg.wl;rw [ones_len] at this;omega
    subst en
    have eg:=hO.arg.eq
    have harg':=harg
    rw [eg,hO.ea,hO.eb] at harg'
    have hcu:∀ v,cutt (ones n') v=true:=fun v=>by
     unfold cutt
     refine decide_eq_true ?_
     by_cases hv:v < n'
     ·rw [ones_get hv];omega
     ·rw [List.getD_eq_getElem?_getD,List.getElem?_eq_none (by rw [ones_len];omega)];exact Int.le_refl _
    have hS:Sep E' (mks A) (mks B) (cutt (ones n')):=fun v hv=>by
     have:=hv.out
     rw [hcu v] at this;cases this
    rcases f13_ok hO.arg.nod hO.edges hO.n12 hO.arg.wl hO.arg.w20 hO.sa hO.la hO.sb hO.lb harg' with ⟨hno,_⟩ | ⟨_,C,fs,e13,hR⟩
    ·exact absurd hS hno
    ·have e13':f13 10000000000000000 (grOf n' E) (ones n') A' B'=some (il C,(fs,(sumC (ones n') C,0))):=by rw [eg,hO.ea,hO.eb];exact e13
     have e19:f19 10000000000000000 (grOf n' E) A' B'=some (fs.map Prod.fst,0):=by
      refine Yld.eq ?_
      unfold f19
      rw [e38,Option.bind_some,d_true h0,Bool.not_true,cond_false,e39,Option.bind_some,e13',Option.bind_some]
      simp only [decide_true,Bool.not_true,cond_false]
      exact f19_paths hR.len (Yld.ret rfl)
     have hsum:sumC (ones n') C=(C.length:Int):=by
      have:sumC (ones n') C=lsm (fun _=>(1:Int)) C:=lsm_congr fun c hc=>ones_get (hR.cut.ok c hc).1
      rw [this,lsm_const];omega
     have hfl:(fs.length:Int)=sumC (ones n') C:=by
      have h1:=hR.prf.sum
      have:Am fs=lsm (fun _=>(1:Int)) fs:=lsm_congr fun f hf=>ones_one hR.prf f hf
      rw [this,lsm_const] at h1;omega
     have e20:f20 10000000000000000 (grOf n' E) A' B' (fs.map Prod.fst)=some true:=by
      rw [eg,hO.ea,hO.eb];exact f20_ok hO.edges hn (by have:=hO.la;omega) (by have:=hO.lb;omega) hR.prf hR.len
     rw [e19,Option.bind_some]
     refine f5_ones (by rw [hg];omega) _ _ _ _ _ ?_
     rw [hto,e17,harg,Option.bind_some,e13',Option.bind_some,e20]
     simp only [decide_true,Bool.not_true,cond_false,cond_true,Option.bind_some]
     rw [d_true (show len (fs.map Prod.fst)=sumC (ones n') C by rw [len_eq,List.length_map];exact hfl),cond_true]
     rw [d_true (show len (il C)=sumC (ones n') C by rw [len_eq,il_len];exact hsum.symm)]
     exact Yld.ret rfl
   ·have e13:f13 10000000000000000 (grOf n E) (ones n) A' B'=some ([],([],(0,argS (grOf n E) (ones n) [A',B']))):=f13_bad hfit (by omega) (by rw [ones_len];omega) (by omega) (by omega) harg
    have e19:f19 10000000000000000 (grOf n E) A' B'=some ([],argS (grOf n E) (ones n) [A',B']):=by
     unfold f19
     rw [e38,Option.bind_some,d_true h0,Bool.not_true,cond_false,e39,Option.bind_some,e13,Option.bind_some]
     simp only
     rw [d_false harg];rfl
    rw [e19,Option.bind_some]
    refine f5_ones (by rw [hg];omega) _ _ _ _ _ ?_
    rw [hto,e17,Option.bind_some,d_false harg,Bool.not_false,cond_true]
    simp only [decide_true,cond_true,Option.bind_some]
    exact Yld.ret rfl
  ·have e19:f19 10000000000000000 g A' B'=some ([],1):=by
    unfold f19
    rw [e38,Option.bind_some,d_false h0];rfl
   have ha:argS g (ones g.1.toNat) [A',B']=1:=by unfold argS;rw [if_neg h0]
   rw [e19,Option.bind_some]
   refine f5_ones (by omega) _ _ _ _ _ ?_
   rw [e17,ha,Option.bind_some]
   exact Yld.ret rfl
end Go.Kz
