/-
  Layer 07, plain: the laws Least, Reversed and Grows.
-/
import Derived.Test.YtafhchecfmiieaaKzEG
set_option linter.unusedVariables false
set_option linter.unusedSimpArgs false
namespace Go.Kz
def Valid (n:Nat) (E:List (Nat×Nat)) (A B:List Nat) (w:List Int) (C:List Nat):Prop:=CutC n w (il C) C∧Sep E (mks A) (mks B) (mks C)
section
variable {n:Nat} {E:List (Nat×Nat)} {A B:List Nat} {w:List Int}
theorem CutR.least {C D:List Nat} {fs:List FlowD} (h:CutR n E A B w C fs) (hD:Valid n E A B w D):sumC w C≤sumC w D:=h.prf.least hD.2 hD.1.ok
end
def tr (E:List (Nat×Nat)):List (Nat×Nat):=E.map fun e=>(e.2,e.1)
theorem mem_tr {E:List (Nat×Nat)} {a b:Nat}:(a,b)∈tr E↔(b,a)∈E:=by
 unfold tr
 rw [List.mem_map]
 constructor
 ·rintro ⟨⟨x,y⟩,h,e⟩
  obtain ⟨rfl,rfl⟩:=Prod.mk.inj e
  exact h
 ·intro h;exact ⟨(b,a),h,rfl⟩
theorem Rch.back {E:List (Nat×Nat)} {F T K:Nat→Bool} {v:Nat} (h:Rch (tr E) T K v):Rch E F K v→∃ t,T t=true∧Rch E F K t:=by
 induction h with
 | base v ht hc=>exact fun hv=>⟨v,ht,hv⟩
 | step u v hu he hc ih=>exact fun hv=>ih (.step v u hv (mem_tr.1 he) hu.out)
theorem Sep.rev {E:List (Nat×Nat)} {F T K:Nat→Bool} (h:Sep E F T K):Sep (tr E) T F K:=fun v hv=>by
 cases hf:F v
 ·rfl
 ·obtain ⟨t,ht,hr⟩:=hv.back (F:=F) (.base v hf hv.out)
  rw [h t hr] at ht;cases ht
theorem tr_tr (E:List (Nat×Nat)):tr (tr E)=E:=by
 unfold tr
 rw [List.map_map]
 conv=>rhs;rw [←List.map_id E]
 exact List.map_congr_left fun x _=>rfl
def swp (e:List Int):List Int:=[e.getD 1 0,e.getD 0 0]
theorem f6_back {g:Gr} (hf:Fits g) (hl:g.2.1.length≤100) (o0:Int) (a0:Gr×(List Int×(List Int×(List Int×Unit)))) {R:Type} {Q:R→Prop} {kx:List (List Int)→Option R} (hk:Yld (kx (g.2.1.map swp)) Q) :
  Yld (iter (fun w=>f6_L7 10000000000000000 g.2.1 (len g.2.1) o0 a0 w kx) 10000000000000000 (0,([]:List (List Int)))) Q:=by
 refine Yld.up (fun k (s:List (List Int))=>s=(g.2.1.take k).map swp) g.2.1.length ?_ ?_ 10000000000000000 0 (Nat.zero_le _) (by omega) _ (by simp)
 ·rintro k s w hk rfl hw
  obtain ⟨e0,e1,i0,i1⟩:=two_get (hf _ (List.getElem_mem hk))
  simp only [f6_L7]
  rw [dlt_len hk,wi64_nat (k:=k) (by omega),idx_lt hk]
  simp only [cond_true,Option.bind_some,e0,e1,i0,i1,chk_true]
  rw [ck0' (by rw [List.length_map,List.length_take];omega)]
  refine hw _ ?_
  rw [take_succ hk,List.map_append];rfl
 ·rintro s w rfl
  simp only [f6_L7]
  rw [dnlt_len,cond_false,List.take_length]
  exact hk
theorem chk_swp (m:Int) (l:List (List Int)):chkS (m,(l.map swp,()))=chkS (m,(l,())):=by
 unfold chkS
 have:(l.map swp).all (edgeB m)=l.all (edgeB m):=by
  rw [List.all_map]
  congr 1
  funext e
  show edgeB m (swp e)=edgeB m e
  unfold edgeB swp
  simp only [List.getD_cons_zero,List.getD_cons_succ]
  rw [Bool.and_comm]
 simp only [this]
theorem toL_tr (E:List (Nat×Nat)):(toL E).map swp=toL (tr E):=by
 unfold toL tr
 rw [List.map_map,List.map_map]
 rfl
theorem law6 (a0:Gr×(List Int×(List Int×(List Int×Unit)))) (h:Ty.fits NetTy a0):f6 10000000000000000 a0=some true:=by
 unfold f6
 rw [known07]
 rw [Option.bind_some,Bool.not_true,cond_false]
 obtain ⟨b,hb,hfew⟩:=f12_eq a0 (n:=12) (e:=60) (by omega) (by omega)
 rw [hb]
 rw [Option.bind_some]
 cases b with
 | false=>rfl
 | true=>
  have hF:=hfew rfl
  have hfit:=net_fits h
  have hel:=hF.edges
  have hal:=hF.al
  have hbl:=hF.bl
  have hwl:=hF.wl
  rw [Bool.not_true,cond_false]
  refine Yld.eq (f6_back hfit (by omega) _ _ ?_)
  have hfit':Fits (a0.1.1,(a0.1.2.1.map swp,())):=fun e he=>by
   obtain ⟨x,_,rfl⟩:=List.mem_map.1 he;rfl
  have eA:argS (a0.1.1,(a0.1.2.1.map swp,())) a0.2.1 [a0.2.2.2.1,a0.2.2.1]=argS a0.1 a0.2.1 [a0.2.2.1,a0.2.2.2.1]:=by
   unfold argS
   rw [chk_swp]
   simp only [List.all_cons,List.all_nil,Bool.and_true]
   rw [Bool.and_comm (a0.2.2.2.1.all _)]
  have done:∀ (x y c:Int) (C D:List Int) (p q:List FlowD),x=y→f13 10000000000000000 a0.1 a0.2.1 a0.2.2.1 a0.2.2.2.1=some (C,(p,(x,c)))→f13 10000000000000000 (a0.1.1,(a0.1.2.1.map swp,())) a0.2.1 a0.2.2.2.1 a0.2.2.1=some (D,(q,(y,c)))→Yld ((f13 10000000000000000 (a0.1.1,a0.1.2) a0.2.1 a0.2.2.1 a0.2.2.2.1).bind fun r_2=>(f13 10000000000000000 (a0.1.1,(a0.1.2.1.map swp,())) a0.2.1 a0.2.2.2.1 a0.2.2.1).bind fun r_3=>(cond (decide (r_2.2.2.1=r_3.2.2.1)) (some (decide (r_2.2.2.2=r_3.2.2.2))) (some false)).bind fun b=>some b) fun y=>y=true:=by
   intro x y c C D p q hxy e1 e2
   rw [show f13 10000000000000000 (a0.1.1,a0.1.2) a0.2.1 a0.2.2.1 a0.2.2.2.1=some (C,(p,(x,c))) from e1,e2]
   simp only [Option.bind_some]
   rw [d_true hxy]
   show Yld (some (decide True)) _
   exact Yld.ret (by simp)
  by_cases harg:argS a0.1 a0.2.1 [a0.2.2.1,a0.2.2.2.1]=0
  ·obtain ⟨n,E,A,B,hO⟩:=netOK hfit hF.nodes (by omega) (by omega) (by omega) harg
   have harg':=harg
   rw [hO.arg.eq,hO.ea,hO.eb] at harg'
   have eg:((a0.1.1,(a0.1.2.1.map swp,())):Gr)=grOf n (tr E):=by
    rw [hO.arg.eq]
    show ((n:Int),((toL E).map swp,()))=_
    rw [toL_tr];rfl
   have harg2:argS (grOf n (tr E)) a0.2.1 [il B,il A]=0:=by rw [←eg,←hO.eb,←hO.ea,eA];exact harg
   have hNt:Nod n (tr E):=fun e he=>by
    obtain ⟨x,hx,rfl⟩:=List.mem_map.1 he
    exact ⟨(hO.arg.nod x hx).2,(hO.arg.nod x hx).1⟩
   have hEt:(tr E).length≤100:=by have:=hO.edges;unfold tr;rw [List.length_map];exact this
   rcases f13_ok hO.arg.nod hO.edges hO.n12 hO.arg.wl hO.arg.w20 hO.sa hO.la hO.sb hO.lb harg' with ⟨hno,e13⟩ | ⟨hS,C,fs,e13,hR⟩
   ·rcases f13_ok hNt hEt hO.n12 hO.arg.wl hO.arg.w20 hO.sb hO.lb hO.sa hO.la harg2 with ⟨hno2,e13b⟩ | ⟨hS2,D,gs,e13b,hR2⟩
    ·exact done 0 0 11 [] [] [] [] rfl (by rw [hO.arg.eq,hO.ea,hO.eb];exact e13) (by rw [eg,hO.ea,hO.eb];exact e13b)
    ·have:=hS2.rev
     rw [tr_tr] at this
     exact absurd this hno
   ·rcases f13_ok hNt hEt hO.n12 hO.arg.wl hO.arg.w20 hO.sb hO.lb hO.sa hO.la harg2 with ⟨hno2,e13b⟩ | ⟨hS2,D,gs,e13b,hR2⟩
    ·exact absurd hS.rev hno2
    ·have v1:Valid n (tr E) B A a0.2.1 C:=⟨hR.cut,hR.sep.rev⟩
     have v2:Valid n E A B a0.2.1 D:=⟨hR2.cut,by have:=hR2.sep.rev;rw [tr_tr] at this;exact this⟩
     have g1:=hR.least v2
     have g2:=hR2.least v1
     exact done (sumC a0.2.1 C) (sumC a0.2.1 D) 0 (il C) (il D) fs gs (by omega) (by rw [hO.arg.eq,hO.ea,hO.eb];exact e13) (by rw [eg,hO.ea,hO.eb];exact e13b)
  ·have harg2:argS (a0.1.1,(a0.1.2.1.map swp,())) a0.2.1 [a0.2.2.2.1,a0.2.2.1]≠0:=by rw [eA];exact harg
   have e1:=f13_bad hfit (by omega) (by omega) (by omega) (by omega) harg
   have e2:=f13_bad hfit' (by rw [List.length_map];omega) (by omega) (by omega) (by omega) harg2
   rw [eA] at e2
   exact done 0 0 _ [] [] [] [] rfl e1 e2
end Go.Kz
