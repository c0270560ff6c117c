/-
  Layer 07, plain: the laws Least, Reversed and Grows.
-/
import Derived.Test.YtafhchecfmiieaaKzEG
set_option linter.unusedVariables false
set_option linter.unusedSimpArgs false
namespace Go.Kz
def Valid (n:Nat) (E:List (Nat×Nat)) (A B:List Nat) (w:List Int) (C:List Nat):Prop:=CutC n w (il C) C∧Sep E (mks A) (mks B) (mks C)
section
variable {n:Nat} {E:List (Nat×Nat)} {A B:List Nat} {w:List Int}
theorem CutR.valid {C:List Nat} {fs:List FlowD} (h:CutR n E A B w C fs):Valid n E A B w C:=⟨h.cut,h.sep⟩
theorem CutR.least {C D:List Nat} {fs:List FlowD} (h:CutR n E A B w C fs) (hD:Valid n E A B w D):sumC w C≤sumC w D:=h.prf.least hD.2 hD.1.ok
theorem Valid.cutt {C:List Nat} (hEn:Nod n E) (hA:Sub n A) (h:Valid n E A B w C):Sep E (mks A) (mks B) (cutt w):=
 h.2.mono hEn (fun v hv=>hA v (mk_iff.1 hv)) (fun e he=>he) fun v hv hk=>by
  cases hm:mks C v
  ·rfl
  ·have:=(h.1.ok v (mk_iff.1 hm)).2
   unfold Go.Kz.cutt at hk
   rw [decide_eq_true this] at hk;cases hk
def bit (t v:Nat):Bool:=decide (t / 2 ^ v % 2=1)
def cs (n t:Nat):List Nat:=(List.range n).filter (bit t)
theorem bits_all:∀ (n:Nat) (p:Nat→Bool),∃ t,t < 2 ^ n∧∀ v,v < n→bit t v=p v
 | 0,p=>⟨0,by simp,fun v hv=>by omega⟩
 | n+1,p=>by
  obtain ⟨t,h1,h2⟩:=bits_all n fun v=>p (v+1)
  refine ⟨2*t+(if p 0 then 1 else 0),?_,fun v hv=>?_⟩
  ·rw [Nat.pow_succ];split <;> omega
  ·cases v with
   | zero=>
    unfold bit
    rw [Nat.pow_zero,Nat.div_one]
    cases h:p 0
    ·exact decide_eq_false (by simp)
    ·exact decide_eq_true (by simp)
   | succ v=>
    rw [←h2 v (by omega)]
    unfold bit
    have:(2*t+(if p 0=true then 1 else 0)) / 2=t:=by split <;> omega
    rw [show 2 ^ (v+1)=2*2 ^ v from by rw [Nat.pow_succ];omega,←Nat.div_div_eq_div_mul,this]
theorem valid_cs {C:List Nat} (h:CutC n w (il C) C):∃ t,t < 2 ^ n∧C=cs n t:=by
 obtain ⟨t,h1,h2⟩:=bits_all n (mks C)
 refine ⟨t,h1,asc_eq h.asc (List.pairwise_lt_range.filter _) fun x=>?_⟩
 show x∈C↔x∈(List.range n).filter (bit t)
 rw [List.mem_filter,List.mem_range]
 constructor
 ·intro hx
  have:=(h.ok x hx).1
  exact ⟨this,by rw [h2 x this];exact mk_iff.2 hx⟩
 ·rintro ⟨g1,g2⟩
  rw [h2 x g1] at g2
  exact mk_iff.1 g2
theorem wi64N {x:Nat} (h:x≤1000000000):wi64 (x:Int)=(x:Int):=wi64_of (by omega) (by omega)
theorem cs_len (n t:Nat):(cs n t).length≤n:=filter_range_len n _
theorem f18_ok (hEn:Nod n E) (hEl:E.length≤100) (hn:n≤6) (hw:w.length=n) (hw2:∀ x∈w,x≤1048576) (hA:Sub n A) (hAl:A.length≤100) (hB:Sub n B) (hBl:B.length≤100) :
  Yld (f18 10000000000000000 (grOf n E) w (il A) (il B)) fun r=>(r = -1∧∀ C,¬ Valid n E A B w C)∨(0≤r∧(∃ C,Valid n E A B w C∧r=sumC w C)∧∀ C,Valid n E A B w C→r≤sumC w C):=by
 have hg:(grOf n E).1=(n:Int):=rfl
 have hp:∀ k,k≤6→2 ^ k≤64:=fun k hk=>Nat.le_trans (Nat.pow_le_pow_right (by omega) hk) (by omega)
 unfold f18
 refine Yld.up (fun k (t:Int)=>t=((2 ^ k:Nat):Int)) n ?_ ?_ 10000000000000000 0 (Nat.zero_le _) (by omega) _ rfl
 ·rintro k t z hk rfl hz
  simp only [f18_L4]
  have:=hp k (by omega)
  have e2:(2:Int)*((2 ^ k:Nat):Int)=((2 ^ (k+1):Nat):Int):=by rw [Nat.pow_succ];omega
  rw [hg,d_true (show (k:Int) < (n:Int) by omega),wi64_nat (k:=k) (by omega),cond_true,e2,wi64N (by rw [Nat.pow_succ];omega)]
  exact hz _ rfl
 ·rintro t z rfl
  simp only [f18_L4]
  have h2n:=hp n hn
  rw [hg,d_false (show ¬ ((n:Nat):Int) < (n:Int) by omega),cond_false]
  refine Yld.up (fun s (t:Int)=>(t = -1∧∀ u,u < s→¬ Valid n E A B w (cs n u))∨(0≤t∧(∃ C,Valid n E A B w C∧t=sumC w C)∧∀ u,u < s→Valid n E A B w (cs n u)→t≤sumC w (cs n u))) (2 ^ n) ?_ ?_ 10000000000000000 0 (Nat.zero_le _) (by omega) _ (.inl ⟨rfl,fun u hu=>by omega⟩)
  ·rintro s t z2 hs hI hz2
   unfold f18_L8
   dsimp only
   rw [d_true (show (s:Int) < ((2 ^ n:Nat):Int) by omega),wi64_nat (k:=s) (by omega),cond_true]
   refine Yld.up (fun v (st:Int×List Int)=>st=(((s / 2 ^ v:Nat):Int),il ((List.range v).filter (bit s)))) n ?_ ?_ 10000000000000000 0 (Nat.zero_le _) (by omega) _ (by simp [il])
   ·rintro v st z3 hv rfl hz3
    simp only [f18_L13]
    have hr:=range_succ_filter v (bit s)
    have hl:=filter_range_len v (bit s)
    have hq:s / 2 ^ v≤s:=Nat.div_le_self _ _
    have hd:s / 2 ^ (v+1)=s / 2 ^ v / 2:=by rw [Nat.pow_succ,Nat.div_div_eq_div_mul]
    rw [hg,d_true (show (v:Int) < (n:Int) by omega),wi64_nat (k:=v) (by omega),cond_true,show Int.tmod ((s / 2 ^ v:Nat):Int) 2=((s / 2 ^ v % 2:Nat):Int) from (Int.ofNat_tmod _ 2).symm,show Int.tdiv ((s / 2 ^ v:Nat):Int) 2=((s / 2 ^ v / 2:Nat):Int) from (Int.ofNat_tdiv _ 2).symm,wi64N (by omega),←hd,
     show decide (((s / 2 ^ v % 2:Nat):Int)=1)=bit s v from decide_eq_decide.2 (by omega)]
    refine Yld.cond (fun hc=>?_) fun hc=>?_
    ·rw [hc,if_pos rfl] at hr
     rw [ck0' (by rw [il_len];omega),il_app,←hr]
     exact hz3 _ rfl
    ·rw [hc,if_neg Bool.false_ne_true,List.append_nil] at hr
     refine hz3 _ ?_
     rw [hr]
   ·rintro st z3 rfl
    simp only [f18_L13]
    have hcl:=cs_len n s
    rw [hg,d_false (show ¬ ((n:Nat):Int) < (n:Int) by omega),cond_false]
    show Yld ((f15 10000000000000000 w (il (cs n s))).bind _) _
    refine Yld.then (f15_ok (by omega) hw hw2 (K:=il (cs n s)) (by rw [il_len];omega)) ?_
    obtain ⟨b,hb1,hb2⟩:=f33_ok (B:=B) (K:=cs n s) hEn (by omega) (by omega) hA (by omega) (by omega) (by omega)
    have stay:(Valid n E A B w (cs n s)→t≠-1∧t≤sumC w (cs n s))→Yld (z2 ((s:Int)+1,t)) _:=fun h=>hz2 t (by
     rcases hI with ⟨h1,h2⟩ | ⟨h1,h2,h3⟩
     ·refine .inl ⟨h1,fun u hu=>?_⟩
      rcases Nat.lt_succ_iff_lt_or_eq.1 hu with hu | rfl
      ·exact h2 u hu
      ·exact fun hV=>(h hV).1 h1
     ·refine .inr ⟨h1,h2,fun u hu hV=>?_⟩
      rcases Nat.lt_succ_iff_lt_or_eq.1 hu with hu | rfl
      ·exact h3 u hu hV
      ·exact (h hV).2)
    rintro _ (⟨C,hC,rfl⟩ | ⟨rfl,hno⟩)
    ·have:C=cs n s:=il_inj hC.eq.symm
     subst this
     simp only [cond_true]
     rw [bindc]
     simp only [Option.bind_some]
     by_cases hc:(decide (t < 0) || decide (sumC w (cs n s) < t))=true
     ·have hb1':f33 10000000000000000 (grOf n E) (il A) (il B) (il ((List.range n).filter (bit s)))=some b:=hb1
      rw [hc,cond_true,hb1']
      simp only [Option.bind_some]
      cases b with
      | true=>
       rw [Bool.not_true,cond_false]
       exact stay fun hV=>Bool.noConfusion (hb2.2 hV.2)
      | false=>
       rw [Bool.not_false,cond_true]
       have hV:Valid n E A B w (cs n s):=⟨hC,hb2.1 rfl⟩
       refine hz2 _ (.inr ⟨lsm_nonneg fun c hcc=>(hC.ok c hcc).2,⟨_,hV,rfl⟩,fun u hu hVu=>?_⟩)
       rcases Nat.lt_succ_iff_lt_or_eq.1 hu with hu | rfl
       ·simp only [Bool.or_eq_true,decide_eq_true_eq] at hc
        rcases hI with ⟨_,h2⟩ | ⟨h1,_,h3⟩
        ·exact absurd hVu (h2 u hu)
        ·have:=h3 u hu hVu
         rcases hc with hc | hc <;> omega
       ·exact Int.le_refl _
     ·have hc':=Bool.eq_false_iff.2 hc
      rw [hc',cond_false]
      simp only [Option.bind_some,cond_false]
      simp only [Bool.or_eq_false_iff,decide_eq_false_iff_not] at hc'
      exact stay fun _=>⟨by omega,by omega⟩
    ·simp only [cond_false,Option.bind_some]
     exact stay fun hV=>absurd ⟨_,hV.1⟩ hno
  ·rintro t z2 hI
   simp only [f18_L8]
   rw [d_false (show ¬ (((2 ^ n:Nat):Nat):Int) < ((2 ^ n:Nat):Int) by omega),cond_false]
   refine Yld.ret ?_
   rcases hI with ⟨h1,h2⟩ | ⟨h1,h2,h3⟩
   ·refine .inl ⟨h1,fun C hC=>?_⟩
    obtain ⟨u,hu,rfl⟩:=valid_cs hC.1
    exact h2 u hu hC
   ·refine .inr ⟨h1,h2,fun C hC=>?_⟩
    obtain ⟨u,hu,rfl⟩:=valid_cs hC.1
    exact h3 u hu hC
end
theorem law4 (a0:Gr×(List Int×(List Int×(List Int×Unit)))) (h:Ty.fits NetTy a0):f4 10000000000000000 a0=some true:=by
 unfold f4
 rw [known07]
 rw [Option.bind_some,Bool.not_true,cond_false]
 obtain ⟨b,hb,hfew⟩:=f12_eq a0 (n:=6) (e:=20) (by omega) (by omega)
 rw [hb]
 rw [Option.bind_some]
 cases b with
 | false=>rfl
 | true=>
  have hF:=hfew rfl
  have hfit:=net_fits h
  have hel:=hF.edges
  have hal:=hF.al
  have hbl:=hF.bl
  have hwl:=hF.wl
  have hnn:=hF.nodes
  rw [Bool.not_true,cond_false]
  have e17:f17 10000000000000000 (a0.1.1,a0.1.2) a0.2.1 a0.2.2.1 a0.2.2.2.1=some (argS a0.1 a0.2.1 [a0.2.2.1,a0.2.2.2.1]):=f17_eq a0.1 _ _ _ hfit (by omega) (by omega) (by omega) (by omega)
  rw [e17]
  rw [Option.bind_some,Option.bind_some]
  by_cases harg:argS a0.1 a0.2.1 [a0.2.2.1,a0.2.2.2.1]=0
  ·rw [d_true harg,Bool.not_true,cond_false]
   obtain ⟨n,E,A,B,hO⟩:=netOK hfit (by omega) (by omega) (by omega) (by omega) harg
   have harg':=harg
   rw [hO.arg.eq,hO.ea,hO.eb] at harg'
   have hn6:n≤6:=by rw [hO.arg.eq] at hnn;have:((n:Nat):Int)≤6:=hnn;omega
   obtain ⟨r,er,hr⟩:=f18_ok (B:=B) hO.arg.nod hO.edges hn6 hO.arg.wl hO.arg.w20 hO.sa hO.la hO.sb hO.lb
   have e18:f18 10000000000000000 (a0.1.1,a0.1.2) a0.2.1 a0.2.2.1 a0.2.2.2.1=some r:=by
    show f18 10000000000000000 a0.1 a0.2.1 a0.2.2.1 a0.2.2.2.1=some r
    rw [hO.arg.eq,hO.ea,hO.eb];exact er
   rw [e18]
   rcases f13_ok hO.arg.nod hO.edges hO.n12 hO.arg.wl hO.arg.w20 hO.sa hO.la hO.sb hO.lb harg' with ⟨hno,e13⟩ | ⟨hS,C,fs,e13,hR⟩
   ·have e13':f13 10000000000000000 (a0.1.1,a0.1.2) a0.2.1 a0.2.2.1 a0.2.2.2.1=some ([],([],(0,11))):=by
     show f13 10000000000000000 a0.1 a0.2.1 a0.2.2.1 a0.2.2.2.1=_
     rw [hO.arg.eq,hO.ea,hO.eb];exact e13
    rw [e13']
    simp only [Option.bind_some]
    rcases hr with ⟨h1,_⟩ | ⟨_,⟨C,hC,_⟩,_⟩
    ·rw [d_true (show r < 0 by omega)];rfl
    ·exact absurd (hC.cutt hO.arg.nod hO.sa) hno
   ·have e13':f13 10000000000000000 (a0.1.1,a0.1.2) a0.2.1 a0.2.2.1 a0.2.2.2.1=some (il C,(fs,(sumC a0.2.1 C,0))):=by
     show f13 10000000000000000 a0.1 a0.2.1 a0.2.2.1 a0.2.2.2.1=_
     rw [hO.arg.eq,hO.ea,hO.eb];exact e13
    rw [e13']
    simp only [Option.bind_some]
    rcases hr with ⟨_,h1⟩ | ⟨h1,⟨D,hD,h2⟩,h3⟩
    ·exact absurd hR.valid (h1 C)
    ·have g1:=hR.least hD
     have g2:=h3 C hR.valid
     rw [d_false (show ¬ r < 0 by omega),cond_false,d_true (show sumC a0.2.1 C=r by omega)];rfl
  ·rw [d_false harg];rfl
end Go.Kz
