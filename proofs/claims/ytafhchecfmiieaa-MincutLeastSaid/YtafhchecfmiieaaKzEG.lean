/-
  Layer 07, plain: Cut, and the law Cuts.
-/
import Derived.Test.YtafhchecfmiieaaKzEF
set_option linter.unusedVariables false
set_option linter.unusedSimpArgs false
namespace Go.Kz
def cutt (w:List Int) (v:Nat):Bool:=decide (0≤w.getD v 0)
theorem map_getD {w:List Int} {n:Nat} (hw:w.length=n):w=(List.range n).map fun k=>w.getD k 0:=by
 apply List.ext_getElem?
 intro i
 by_cases hi:i < n
 ·rw [map_range_get _ hi,List.getD_eq_getElem?_getD,List.getElem?_eq_getElem (by omega)];rfl
 ·rw [List.getElem?_eq_none (by omega),List.getElem?_eq_none (by simp;omega)]
theorem capC_eq (w:List Int) (most:Int) (k:Nat):capC (fun k=>w.getD k 0) most k=if w.getD k 0 < 0 then most else w.getD k 0:=rfl
theorem cutt_sum {w:List Int} {n:Nat} (hw:w.length=n) (most:Int):lsm (capC (fun k=>w.getD k 0) most) ((List.range n).filter (cutt w))=mostW w-1:=by
 rw [←lsm_filter]
 have e:mostW w=1+lsm (fun k=>if 0 < w.getD k 0 then w.getD k 0 else 0) (List.range n):=by
  unfold mostW
  conv=>lhs;rw [map_getD hw]
  rw [lsm_map]
 rw [e]
 have:lsm (fun x=>if cutt w x=true then capC (fun k=>w.getD k 0) most x else 0) (List.range n)=lsm (fun k=>if 0 < w.getD k 0 then w.getD k 0 else 0) (List.range n):=by
  refine lsm_congr fun k _=>?_
  rw [capC_eq]
  unfold cutt
  by_cases h:0≤w.getD k 0
  ·rw [if_pos (decide_eq_true h),if_neg (by omega)]
   split <;> omega
  ·rw [if_neg (by simpa using h),if_neg (by omega)]
 omega
theorem Rch.mono {n:Nat} {E E':List (Nat×Nat)} {F K K':Nat→Bool} (hN:Nod n E) (hF:∀ v,F v=true→v < n) (hE:∀ e∈E,e∈E') (hK:∀ v,v < n→K v=false→K' v=false) {v:Nat} (h:Rch E F K v):Rch E' F K' v:=by
 induction h with
 | base v hf hc=>exact .base v hf (hK v (hF v hf) hc)
 | step u v _ he hc ih=>exact .step u v ih (hE _ he) (hK v (hN _ he).2 hc)
theorem Sep.mono {n:Nat} {E E':List (Nat×Nat)} {F T K K':Nat→Bool} (hN:Nod n E) (hF:∀ v,F v=true→v < n) (hE:∀ e∈E,e∈E') (hK:∀ v,v < n→K v=false→K' v=false) (h:Sep E' F T K'):Sep E F T K:=
 fun v hv=>h v (hv.mono hN hF hE hK)
theorem Ld_flD (fs:List (List Nat×Int)) (v:Nat):Ld (flD fs) v=thru v fs:=by
 unfold Ld thru flD
 rw [lsm_map]
 refine lsm_congr fun f _=>?_
 by_cases h:v∈f.1
 ·rw [if_pos (mem_il.2 h),if_pos h]
 ·rw [if_neg fun hh=>h (mem_il.1 hh),if_neg h]
theorem Am_flD (fs:List (List Nat×Int)):Am (flD fs)=amt fs:=by unfold Am amt flD;rw [lsm_map]
structure CutR (n:Nat) (E:List (Nat×Nat)) (A B:List Nat) (w:List Int) (C:List Nat) (fs:List FlowD):Prop where
 cut:CutC n w (il C) C
 sep:Sep E (mks A) (mks B) (mks C)
 prf:PfP n E A B w fs (sumC w C)
 len:fs.length≤100000000
 amt:∀ f∈fs,f.2.1≤100000000
section
variable {n:Nat} {E:List (Nat×Nat)} {A B:List Nat} {w:List Int}
theorem f13_free (hn:n≤12) (hw:w.length=n) {R:Type} {Q:R→Prop} (A' B':List Int) (X:List (List Int)) (g:Gr) {kx:List Bool→Option R} (hk:Yld (kx ((List.range n).map (cutt w))) Q) :
  Yld (iter (fun z=>f13_L7 10000000000000000 w w B' A' X (len w) g z kx) 10000000000000000 (0,(List.range n).map fun _=>false)) Q:=by
 refine Yld.up (fun k (s:List Bool)=>∃ D:Nat→Bool,s=(List.range n).map D∧∀ v,v < k→D v=cutt w v) n ?_ ?_ 10000000000000000 0 (Nat.zero_le _) (by omega) _ ⟨_,rfl,fun v hv=>by omega⟩
 ·rintro k s z hk ⟨D,rfl,hD⟩ hz
  simp only [f13_L7]
  have i1:∀ D:Nat→Bool,inb ((List.range n).map D) (k:Int)=true:=fun D=>inb_map_range _ hk
  rw [d_true (show (k:Int) < len w by rw [len_eq];omega),wi64_nat (k:=k) (by omega),getD_idx hw hk,cond_true,Option.bind_some,chk_true (i1 _),idx_map_range _ hk]
  simp only [Option.bind_some]
  refine hz _ ⟨upF D k (cutt w k),map_set_range D _,fun v hv=>?_⟩
  by_cases e:v=k
  ·subst e;exact upF_self _ _ _
  ·rw [upF_ne D _ e];exact hD v (by omega)
 ·rintro s z ⟨D,rfl,hD⟩
  simp only [f13_L7]
  rw [d_false (show ¬ ((n:Nat):Int) < len w by rw [len_eq];omega),cond_false,show (List.range n).map D=(List.range n).map (cutt w) from List.map_congr_left fun v hv=>hD v (List.mem_range.1 hv)]
  exact hk
theorem f13_cut (hn:n≤12) (hw:w.length=n) (hw2:∀ x∈w,x≤1048576) {N:Nat} (hN:N=2*n+2) (P I:Nat→Int) (S T:Int) (o:List (List ArcD)) (hpos:∀ k,k < n→(decide (0≤P (2*k)) && !decide (0≤P (2*k+1)))=true→0≤w.getD k 0) {R:Type} {Q:R→Prop} {kx:Int→List Int→Option R}
  (hk:Yld (kx (sumC w ((List.range n).filter fun k=>decide (0≤P (2*k)) && !decide (0≤P (2*k+1)))) (il ((List.range n).filter fun k=>decide (0≤P (2*k)) && !decide (0≤P (2*k+1))))) Q) :
  Yld (iter (fun z=>f13_L18 10000000000000000 w (n:Int) (wayL N P I) S T o z kx) 10000000000000000 (0,0,([]:List Int))) Q:=by
 refine Yld.up (fun k (s:Int×List Int)=>s=(sumC w ((List.range k).filter fun k=>decide (0≤P (2*k)) && !decide (0≤P (2*k+1))),il ((List.range k).filter fun k=>decide (0≤P (2*k)) && !decide (0≤P (2*k+1))))) n ?_ ?_ 10000000000000000 0 (Nat.zero_le _) (by omega) _ (by simp [sumC,lsm,il])
 ·rintro k s z hk rfl hz
  unfold f13_L18
  dsimp only
  have h1:2*k < N:=by omega
  have h2:2*k+1 < N:=by omega
  rw [d_true (show (k:Int) < (n:Int) by omega),wi64_nat (k:=k) (by omega),cond_true]
  simp only [(wi2 (k:=k) (by omega)).1,(wi2 (k:=k) (by omega)).2,way_inb P I h1,way_idx P I h1,way_inb P I h2,way_idx P I h2,chk_true,Option.bind_some]
  simp only [show ∀ a b:Int,inb [a,b] 0=true from fun _ _=>rfl,show ∀ a b:Int,idx [a,b] 0=some a from fun _ _=>rfl,chk_true,Option.bind_some]
  rw [bindc',show decide (P (2*k+1) < 0) = !decide (0≤P (2*k+1)) from by rw [←decide_not];exact decide_eq_decide.2 (by omega)]
  have hr:=range_succ_filter k fun k=>decide (0≤P (2*k)) && !decide (0≤P (2*k+1))
  have hfl:=filter_range_len k fun k=>decide (0≤P (2*k)) && !decide (0≤P (2*k+1))
  refine Yld.cond (fun hc=>?_) fun hc=>?_
  ·rw [hc,if_pos rfl] at hr
   rw [ck0' (by rw [il_len];omega),getD_idx hw hk,Option.bind_some]
   refine hz _ ?_
   have e:sumC w ((List.range (k+1)).filter fun k=>decide (0≤P (2*k)) && !decide (0≤P (2*k+1)))=sumC w ((List.range k).filter fun k=>decide (0≤P (2*k)) && !decide (0≤P (2*k+1)))+w.getD k 0:=by
    rw [hr];unfold sumC;rw [lsm_app];simp [lsm]
   have hle:=sumC_le (by omega) hw2 ((List.range (k+1)).filter fun k=>decide (0≤P (2*k)) && !decide (0≤P (2*k+1)))
   have hl2:=filter_range_len (k+1) fun k=>decide (0≤P (2*k)) && !decide (0≤P (2*k+1))
   have hge:0≤sumC w ((List.range (k+1)).filter fun k=>decide (0≤P (2*k)) && !decide (0≤P (2*k+1))):=lsm_nonneg fun c hcc=>by
    obtain ⟨c1,c2⟩:=List.mem_filter.1 hcc
    exact hpos c (by have:=List.mem_range.1 c1;omega) c2
   rw [←e,wi64_of (by omega) (by omega),il_app,←hr]
  ·rw [hc,if_neg Bool.false_ne_true,List.append_nil] at hr
   refine hz _ ?_
   rw [hr]
 ·rintro s z rfl
  simp only [f13_L18]
  rw [d_false (show ¬ ((n:Nat):Int) < (n:Int) by omega),cond_false]
  exact hk
theorem f13_ok (hEn:Nod n E) (hEl:E.length≤100) (hn:n≤12) (hw:w.length=n) (hw2:∀ x∈w,x≤1048576) (hA:Sub n A) (hAl:A.length≤100) (hB:Sub n B) (hBl:B.length≤100) (harg:argS (grOf n E) w [il A,il B]=0) :
  (¬ Sep E (mks A) (mks B) (cutt w)∧f13 10000000000000000 (grOf n E) w (il A) (il B)=some ([],([],(0,11))))∨
  (Sep E (mks A) (mks B) (cutt w)∧∃ C fs,f13 10000000000000000 (grOf n E) w (il A) (il B)=some (il C,(fs,(sumC w C,0)))∧CutR n E A B w C fs):=by
 have hg:(grOf n E).1=(n:Int):=rfl
 have hgl:(grOf n E).2.1.length=E.length:=toL_len E
 have hAm:∀ v,mks A v=true→v < n:=fun v hv=>hA v (mk_iff.1 hv)
 have hBm:∀ v,mks B v=true→v < n:=fun v hv=>hB v (mk_iff.1 hv)
 suffices h:Yld (f13 10000000000000000 (grOf n E) w (il A) (il B)) fun x=>(¬ Sep E (mks A) (mks B) (cutt w)∧x=([],([],(0,11))))∨(Sep E (mks A) (mks B) (cutt w)∧∃ C fs,x=(il C,(fs,(sumC w C,0)))∧CutR n E A B w C fs) by
  obtain ⟨x,hx,h⟩:=h
  rcases h with ⟨h1,rfl⟩ | ⟨h1,C,fs,rfl,h2⟩
  ·exact .inl ⟨h1,hx⟩
  ·exact .inr ⟨h1,C,fs,hx,h2⟩
 unfold f13
 rw [f27_eq _ _ _ (fits_gr n E) (by rw [hgl];omega) (by omega) (by simp) (by simp [il_len];omega),harg]
 rw [Option.bind_some,d_true rfl,Bool.not_true,cond_false,f28_eq hEn hn (by omega)]
 rw [Option.bind_some,hg,ckn (by omega),Int.toNat_natCast,rep_map]
 refine f13_free hn hw _ _ _ _ ?_
 refine Yld.then (f29_ok hEn hn hA (by omega) hB (by omega) (cutt w)) ?_
 intro b hb
 refine Yld.cond (fun hc=>?_) fun hc=>?_
 ·refine Yld.ret (.inl ⟨fun hS=>?_,rfl⟩)
  rw [hb.2 hS] at hc;cases hc
 ·have hS:=hb.1 (by simpa using hc)
  refine Yld.then (f30_ok hEn hn hw hw2 hA hAl hB hBl) ?_
  rintro _ ⟨W,r,rfl,hL,hF,hout⟩
  have hm:=mostW_le (by omega) hw2
  have hmost:1≤mostW w∧mostW w≤12582913:=by
   have:(w.length:Int)≤12:=by omega
   omega
  have hcC:∀ k,0≤capC (fun k=>w.getD k 0) (mostW w) k∧capC (fun k=>w.getD k 0) (mostW w) k≤20000000:=fun k=>by
   have:=getD_le (by omega) hw2 k
   rw [capC_eq]
   split <;> omega
  have hcap:∀ v u,capF n (capC (fun k=>w.getD k 0) (mostW w)) (mostW w) v u≤20000000:=fun v u=>by
   have:=(hcC (v / 2)).2
   unfold capF
   split <;> omega
  have hweak:∀ r,Flw n (capC (fun k=>w.getD k 0) (mostW w)) (mostW w) W r→W.out (ldF n) r (2*n)≤mostW w-1:=fun r hr=>by
   have:=hr.weak hL hS fun k _=>(hcC k).1
   rw [cutt_sum hw] at this
   exact this
  simp only
  refine Yld.then (f31_ok hL (by omega) hF hweak (by omega) (by omega) fun v u=>by have:=hcap v u;omega) ?_
  rintro _ ⟨r',P,I,D,rfl,hF',hs,hT⟩
  have hst:=hF'.strong hL (fun e he=>hEn e he) hAm hBm (R:=fun x=>decide (0≤P x)) (decide_eq_true (by rw [hs.src];omega)) (decide_eq_false (by omega)) (fun d hd h1 h2=>decide_eq_true (hs.done d.1 hd.1 (of_decide_eq_true h1) (by simp) d.2 hd.2 h2)) (fun k _=>(hcC k).1) (by omega) (by have:=hweak r' hF';omega)
  obtain ⟨s1,s2,s3⟩:=hst
  have hpos:∀ k,k < n→(decide (0≤P (2*k)) && !decide (0≤P (2*k+1)))=true→0≤w.getD k 0:=by
   intro k hk hp
   rw [Bool.and_eq_true,Bool.not_eq_true'] at hp
   have:=s3 k hk hp.1 hp.2
   rw [capC_eq] at this
   apply Int.not_lt.1
   intro hneg
   rw [if_pos hneg] at this
   omega
  simp only
  refine f13_cut hn hw hw2 hL.N P I _ _ _ hpos ?_
  have hout':0≤W.out (ldF n) r' (2*n):=by rw [s1];exact lsm_nonneg fun k _=>(hcC k).1
  refine Yld.then (f32_ok hL hn hcap (by omega) hF' ⟨hout',by have:=hweak r' hF';omega⟩) ?_
  rintro _ ⟨r2,fs,rfl,hgood,hamt,hthru⟩
  generalize hCC:((List.range n).filter fun k=>decide (0≤P (2*k)) && !decide (0≤P (2*k+1)))=CC at s1
  have hCmem:∀ c,c∈CC↔c < n∧(decide (0≤P (2*c)) && !decide (0≤P (2*c+1)))=true:=fun c=>by rw [←hCC,List.mem_filter,List.mem_range]
  have hsum:W.out (ldF n) r' (2*n)=sumC w CC:=by
   rw [s1]
   refine lsm_congr fun c hc=>?_
   have:=hpos c ((hCmem c).1 hc).1 ((hCmem c).1 hc).2
   rw [capC_eq,if_neg (by omega)]
  have hcut:CutC n w (il CC) CC:=⟨rfl,by rw [←hCC];exact List.pairwise_lt_range.filter _,fun c hc=>⟨((hCmem c).1 hc).1,hpos c ((hCmem c).1 hc).1 ((hCmem c).1 hc).2⟩⟩
  have hsep:Sep E (mks A) (mks B) (mks CC):=s2.mono hEn hAm (fun e he=>he) fun v hv hk=>by
   cases hb2:(decide (0≤P (2*v)) && !decide (0≤P (2*v+1)))
   ·rfl
   ·rw [mk_iff.2 ((hCmem v).2 ⟨hv,hb2⟩)] at hk;cases hk
  have hA1:Am (flD fs)=sumC w CC:=by rw [Am_flD,hamt,hsum]
  have hfg:∀ f∈flD fs,GoodF n E A B f:=fun f hf=>by
   obtain ⟨x,hx,rfl⟩:=List.mem_map.1 hf
   exact ⟨(hgood x hx).2,x.1,rfl,(hgood x hx).1⟩
  have hSle:sumC w CC≤100000000:=by have:=hweak r' hF';omega
  refine Yld.ret (.inr ⟨hS,CC,flD fs,rfl,hcut,hsep,⟨hfg,fun v hv h0=>?_,hA1⟩,?_,fun f hf=>?_⟩)
  ·rw [Ld_flD]
   have h1:=hthru v hv
   have h2:=(Res.fl_laid hF'.res (hL.thru hv)).2
   have h3:=hF'.res.pos _ (hL.thru hv).1
   have h4:capF n (capC (fun k=>w.getD k 0) (mostW w)) (mostW w) (2*v,0).1 (W.hd (2*v,0).1 (2*v,0).2)=w.getD v 0:=by
    unfold capF
    rw [if_pos ⟨by show 2*v < _;omega,by show 2*v % 2=0;omega⟩,show (2*v,0).1 / 2=v from by show 2*v / 2=v;omega,capC_eq,if_neg (by omega)]
   rw [h4] at h2
   omega
  ·have h1:=lsm_le (f:=fun _=>(1:Int)) (g:=fun f:FlowD=>f.2.1) (l:=flD fs) fun f hf=>(hfg f hf).1
   rw [lsm_const] at h1
   have h2:Am (flD fs)=lsm (fun f:FlowD=>f.2.1) (flD fs):=rfl
   omega
  ·have h1:=lsm_ge (f:=fun f:FlowD=>f.2.1) (l:=flD fs) (fun f hf=>by have:=(hfg f hf).1;omega) hf
   have h2:Am (flD fs)=lsm (fun f:FlowD=>f.2.1) (flD fs):=rfl
   omega
end
structure NetOK (g:Gr) (w A' B':List Int) (n:Nat) (E:List (Nat×Nat)) (A B:List Nat):Prop where
 arg:Args g w n E
 n12:n≤12
 edges:E.length≤100
 ea:A'=il A
 eb:B'=il B
 sa:Sub n A
 sb:Sub n B
 la:A.length≤100
 lb:B.length≤100
theorem netOK {g:Gr} {w A' B':List Int} (hf:Fits g) (hn:g.1≤12) (hl:g.2.1.length≤100) (hA:A'.length≤100) (hB:B'.length≤100) (h:argS g w [A',B']=0):∃ n E A B,NetOK g w A' B' n E A B:=by
 obtain ⟨⟨n,E,hArg⟩,hall⟩:=argsS_ok hf h
 simp only [List.all_cons,List.all_nil,Bool.and_true,Bool.and_eq_true] at hall
 have hg1:g.1=(n:Int):=by rw [hArg.eq];rfl
 rw [hg1] at hall hn
 obtain ⟨A,eA,hAs⟩:=all_nodes hall.1
 obtain ⟨B,eB,hBs⟩:=all_nodes hall.2
 exact ⟨n,E,A,B,hArg,by omega,by have:=hArg.len;omega,eA,eB,hAs,hBs,by rw [eA,il_len] at hA;omega,by rw [eB,il_len] at hB;omega⟩
end Go.Kz
