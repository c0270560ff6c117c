/-
  Layer 07, plain: the laws Least, Reversed and Grows.
-/
import Derived.Test.YtafhchecfmiieaaKzEG
set_option linter.unusedVariables false
set_option linter.unusedSimpArgs false
namespace Go.Kz
def Valid (n:Nat) (E:List (Nat×Nat)) (A B:List Nat) (w:List Int) (C:List Nat):Prop:=CutC n w (il C) C∧Sep E (mks A) (mks B) (mks C)
section
variable {n:Nat} {E:List (Nat×Nat)} {A B:List Nat} {w:List Int}
theorem CutR.least {C D:List Nat} {fs:List FlowD} (h:CutR n E A B w C fs) (hD:Valid n E A B w D):sumC w C≤sumC w D:=h.prf.least hD.2 hD.1.ok
theorem Valid.cutt {C:List Nat} (hEn:Nod n E) (hA:Sub n A) (h:Valid n E A B w C):Sep E (mks A) (mks B) (cutt w):=
 h.2.mono hEn (fun v hv=>hA v (mk_iff.1 hv)) (fun e he=>he) fun v hv hk=>by
  cases hm:mks C v
  ·rfl
  ·have:=(h.1.ok v (mk_iff.1 hm)).2
   unfold Go.Kz.cutt at hk
   rw [decide_eq_true this] at hk;cases hk
end
theorem grows {g:Gr} {e:List Int} {w w' A' B':List Int} (hf:Fits g) (he:e.length=2) (hn:g.1≤12) (hl:g.2.1.length≤60) (hw:w.length≤100) (hA:A'.length≤100) (hB:B'.length≤100) (hwl:w'.length=w.length) (hle:∀ v,w.getD v 0≤w'.getD v 0) (hcu:∀ v,cutt w v=cutt w' v) :
  ∃ C p x c D q y d,f13 10000000000000000 g w A' B'=some (C,(p,(x,c)))∧f13 10000000000000000 (g.1,(g.2.1++[e],())) w' A' B'=some (D,(q,(y,d)))∧(d=0→c=0∧x≤y):=by
 have hf':Fits (g.1,(g.2.1++[e],())):=fun x hx=>by
  rcases List.mem_append.1 hx with hx | hx
  ·exact hf x hx
  ·rw [List.mem_singleton] at hx;subst hx;exact he
 have some1:∃ C p x c,f13 10000000000000000 g w A' B'=some (C,(p,(x,c))):=by
  by_cases harg:argS g w [A',B']=0
  ·obtain ⟨n,E,A,B,hO⟩:=netOK hf hn (by omega) hA hB harg
   have harg':=harg
   rw [hO.arg.eq,hO.ea,hO.eb] at harg'
   rcases f13_ok hO.arg.nod hO.edges hO.n12 hO.arg.wl hO.arg.w20 hO.sa hO.la hO.sb hO.lb harg' with ⟨_,e13⟩ | ⟨_,C,fs,e13,_⟩
   ·exact ⟨_,_,_,_,by rw [hO.arg.eq,hO.ea,hO.eb];exact e13⟩
   ·exact ⟨_,_,_,_,by rw [hO.arg.eq,hO.ea,hO.eb];exact e13⟩
  ·exact ⟨_,_,_,_,f13_bad hf (by omega) (by omega) (by omega) (by omega) harg⟩
 obtain ⟨C,p,x,c,e1⟩:=some1
 by_cases harg2:argS (g.1,(g.2.1++[e],())) w' [A',B']=0
 ·obtain ⟨n,E',A,B,hO⟩:=netOK hf' hn (by rw [List.length_append];simp;omega) hA hB harg2
  have harg2':=harg2
  rw [hO.arg.eq,hO.ea,hO.eb] at harg2'
  rcases f13_ok hO.arg.nod hO.edges hO.n12 hO.arg.wl hO.arg.w20 hO.sa hO.la hO.sb hO.lb harg2' with ⟨_,e2⟩ | ⟨hS',D,gs,e2,hR'⟩
  ·exact ⟨C,p,x,c,[],[],0,11,e1,by rw [hO.arg.eq,hO.ea,hO.eb];exact e2,fun h=>by omega⟩
  ·have hgE:g=grOf n E'.dropLast:=by
    have h1:=hO.arg.eq
    have h2:g.1=(n:Int):=congrArg Prod.fst h1
    have h3:g.2.1++[e]=toL E':=congrArg (fun g:Gr=>g.2.1) h1
    have h4:g.2.1=toL E'.dropLast:=by
     have h5:=congrArg List.dropLast h3
     rw [List.dropLast_concat] at h5
     rw [h5];unfold toL;rw [List.map_dropLast]
    obtain ⟨m,l,u⟩:=g
    simp only at h2 h4
    rw [h2,h4];rfl
   have hsub:∀ x∈E'.dropLast,x∈E':=fun x hx=>(List.dropLast_sublist _).subset hx
   have hN:Nod n E'.dropLast:=fun x hx=>hO.arg.nod x (hsub x hx)
   have hEl:E'.dropLast.length≤100:=by have:=hO.edges;rw [List.length_dropLast];omega
   have hwn:w.length=n:=by rw [←hwl];exact hO.arg.wl
   have hw20:∀ x∈w,x≤1048576:=fun x hx=>by
    obtain ⟨i,hi,rfl⟩:=List.mem_iff_getElem.1 hx
    have h1:=hle i
    rw [List.getD_eq_getElem?_getD,List.getElem?_eq_getElem hi] at h1
    have h2:=getD_le (by omega) hO.arg.w20 i
    simp only [Option.getD_some] at h1
    omega
   have harg:argS (grOf n E'.dropLast) w [il A,il B]=0:=by
    unfold argS
    rw [if_pos (chk_ok hN hO.n12),hwn,if_pos (show ((n:Nat):Int)=(grOf n E'.dropLast).1 from rfl),show wOK w=true from by
     unfold wOK;rw [List.all_eq_true];intro x hx;have:=hw20 x hx;simp;omega,if_pos rfl,if_pos]
    simp only [List.all_cons,List.all_nil,Bool.and_true,Bool.and_eq_true]
    exact ⟨il_all hO.sa,il_all hO.sb⟩
   have hAm:∀ v,mks A v=true→v < n:=fun v hv=>hO.sa v (mk_iff.1 hv)
   rcases f13_ok hN hEl hO.n12 hwn hw20 hO.sa hO.la hO.sb hO.lb harg with ⟨hno,_⟩ | ⟨hS,D0,fs,e3,hR⟩
   ·exact absurd (hS'.mono hN hAm hsub fun v _ hk=>by rw [←hcu v];exact hk) hno
   ·have e3':f13 10000000000000000 g w A' B'=some (il D0,(fs,(sumC w D0,0))):=by rw [hgE,hO.ea,hO.eb];exact e3
    refine ⟨_,_,_,_,il D,gs,sumC w' D,0,e3',by rw [hO.arg.eq,hO.ea,hO.eb];exact e2,fun _=>⟨rfl,?_⟩⟩
    have hok:∀ c∈D,c < n∧0≤w.getD c 0:=fun c hc=>by
     obtain ⟨o1,o2⟩:=hR'.cut.ok c hc
     refine ⟨o1,?_⟩
     have:=hcu c
     unfold cutt at this
     rw [decide_eq_true o2,decide_eq_true_eq] at this
     exact this
    have hV:Valid n E'.dropLast A B w D:=⟨⟨rfl,hR'.cut.asc,hok⟩,hR'.sep.mono hN hAm hsub fun v _ hk=>hk⟩
    have g1:=hR.least hV
    have g2:sumC w D≤sumC w' D:=lsm_le fun c _=>hle c
    omega
 ·exact ⟨C,p,x,c,[],[],0,_,e1,f13_bad hf' (by rw [List.length_append];simp;omega) (by omega) (by omega) (by omega) harg2,fun h=>absurd h harg2⟩
theorem getD_set {w:List Int} {k:Nat} (hk:k < w.length) (c:Int) (v:Nat):(w.set k c).getD v 0=if v=k then c else w.getD v 0:=by
 rw [List.getD_eq_getElem?_getD,List.getD_eq_getElem?_getD]
 by_cases e:v=k
 ·subst e;rw [List.getElem?_set_self hk,if_pos rfl];rfl
 ·rw [List.getElem?_set_ne (Ne.symm e),if_neg e]
theorem law7 (a0:Gr×(List Int×(List Int×(List Int×Unit)))) (e:List Int) (k:Int) (h:Ty.fits NetTy a0) (he:Ty.fits (.arr 2 (.int .i64)) e):f7 10000000000000000 a0 e k=some true:=by
 unfold f7
 rw [known07]
 rw [Option.bind_some,Bool.not_true,cond_false]
 obtain ⟨b,hb,hfew⟩:=f12_eq a0 (n:=12) (e:=60) (by omega) (by omega)
 rw [hb]
 rw [Option.bind_some]
 cases b with
 | false=>rfl
 | true=>
  have hF:=hfew rfl
  have hfit:=net_fits h
  have hel:=hF.edges
  have hal:=hF.al
  have hbl:=hF.bl
  have hwl:=hF.wl
  have he2:e.length=2:=he.1
  rw [Bool.not_true,cond_false]
  have e21:f21 10000000000000000 a0.1.2.1=some a0.1.2.1:=by unfold f21;rw [ck0 (by omega)]
  have e22:f22 10000000000000000 a0.2.1=some a0.2.1:=by unfold f22;rw [ck0 (by omega)]
  rw [e21,e22]
  rw [Option.bind_some,ck0' (by omega),Option.bind_some,bindc']
  have last:∀ w',w'.length=a0.2.1.length→(∀ v,a0.2.1.getD v 0≤w'.getD v 0)→(∀ v,cutt a0.2.1 v=cutt w' v)→((f13 10000000000000000 (a0.1.1,a0.1.2) a0.2.1 a0.2.2.1 a0.2.2.2.1).bind fun r_6=>
    (f13 10000000000000000 (a0.1.1,((a0.1.2.1++(e :: ([]:List (List Int)))),())) w' a0.2.2.1 a0.2.2.2.1).bind fun r_7=>
    (cond (!(decide (r_6.2.2.2=0)))
      (some true)
      (some (!(decide (r_7.2.2.2=0))))).bind fun b_4=>
    cond b_4
     (some (!(decide (r_7.2.2.2=0))))
     (some (decide (r_6.2.2.1≤r_7.2.2.1))))=some true:=by
   intro w' h1 h2 h3
   obtain ⟨C,p,x,c,D,q,y,d,e1,e2,hd⟩:=grows (A':=a0.2.2.1) (B':=a0.2.2.2.1) hfit he2 hF.nodes (by omega) (by omega) (by omega) (by omega) h1 h2 h3
   rw [show f13 10000000000000000 (a0.1.1,a0.1.2) a0.2.1 a0.2.2.1 a0.2.2.2.1=some (C,(p,(x,c))) from e1,e2]
   simp only [Option.bind_some]
   rw [bindc]
   by_cases hd0:d=0
   ·obtain ⟨g1,g2⟩:=hd hd0
    rw [d_true g1,d_true hd0]
    show some (decide (x≤y))=some true
    rw [d_true g2]
   ·rw [d_false hd0,Bool.not_false,Bool.or_true];rfl
  by_cases hk:0≤k∧k < (a0.2.1.length:Int)
  ·obtain ⟨j,rfl⟩:∃ j:Nat,k=(j:Int):=⟨k.toNat,by omega⟩
   have hj:j < a0.2.1.length:=by omega
   rw [d_true hk.1,len_eq,d_true hk.2]
   simp only [Bool.and_self,cond_true,inb_lt hj,idx_lt hj,chk_true,Option.bind_some]
   by_cases hc:0≤a0.2.1[j]∧a0.2.1[j] < 1048576
   ·rw [d_true hc.1]
    simp only [cond_true,Option.bind_some]
    rw [d_true hc.2]
    simp only [cond_true]
    rw [wi64_of (by omega) (by omega)]
    have hgj:a0.2.1.getD j 0=a0.2.1[j]:=by rw [List.getD_eq_getElem?_getD,List.getElem?_eq_getElem hj];rfl
    refine last _ (by rw [setI_nat,List.length_set]) (fun v=>?_) fun v=>?_
    ·rw [setI_nat,getD_set hj]
     split
     ·next h9=>subst h9;omega
     ·exact Int.le_refl _
    ·unfold cutt
     rw [setI_nat,getD_set hj]
     split
     ·next h9=>subst h9;exact decide_eq_decide.2 (by omega)
     ·rfl
   ·have e5:((cond (decide (0≤a0.2.1[j])) (some (decide (a0.2.1[j] < 1048576))) (some false)):Option Bool)=some false:=by
     by_cases h6:0≤a0.2.1[j]
     ·rw [d_true h6,cond_true,d_false (fun h7=>hc ⟨h6,h7⟩)]
     ·rw [d_false h6];rfl
    rw [e5]
    simp only [Option.bind_some,cond_false]
    exact last _ rfl (fun v=>Int.le_refl _) fun v=>rfl
  ·have e5:(decide (0≤k) && decide (k < len a0.2.1))=false:=by
    rw [len_eq,Bool.and_eq_false_iff,decide_eq_false_iff_not,decide_eq_false_iff_not]
    omega
   rw [e5]
   simp only [cond_false,Option.bind_some]
   exact last _ rfl (fun v=>Int.le_refl _) fun v=>rfl
end Go.Kz
