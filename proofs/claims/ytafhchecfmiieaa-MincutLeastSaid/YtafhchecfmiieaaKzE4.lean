/-
  Layer 07, plain: graphs, Check, the successors of each node.
-/
import Derived.Test.YtafhchecfmiieaaKzE3
import Derived.Test.YtafhchecfmiieaaKzP07d
set_option linter.unusedVariables false
set_option linter.unusedSimpArgs false
namespace Go.Kz
abbrev Gr:=Int×(List (List Int)×Unit)
theorem bindc {R:Type} (b1 b2:Bool) (f:Bool→Option R):(cond b1 (some true) (some b2)).bind f=f (b1 || b2):=by
 cases b1 <;> rfl
theorem bindc' {R:Type} (b1 b2:Bool) (f:Bool→Option R):(cond b1 (some b2) (some false)).bind f=f (b1 && b2):=by
 cases b1 <;> rfl
theorem idx_some' {α:Type} {l:List α} {k:Nat} {x:α} (h:l[k]? = some x):idx l (k:Int)=some x:=h
theorem inb_some {α:Type} {l:List α} {k:Nat} {x:α} (h:l[k]? = some x):inb l (k:Int)=true:=inb_lt (List.getElem?_eq_some_iff.1 h).1
def toL (E:List (Nat×Nat)):List (List Int):=E.map fun e=>[(e.1:Int),(e.2:Int)]
def grOf (n:Nat) (E:List (Nat×Nat)):Gr:=((n:Int),(toL E,()))
theorem toL_len (E:List (Nat×Nat)):(toL E).length=E.length:=by simp [toL]
theorem toL_get {E:List (Nat×Nat)} {k:Nat} (hk:k < E.length):(toL E)[k]? = some [(E[k].1:Int),(E[k].2:Int)]:=by
 unfold toL
 rw [List.getElem?_map,List.getElem?_eq_getElem hk];rfl
def Nod (n:Nat) (E:List (Nat×Nat)):Prop:=∀ e∈E,e.1 < n∧e.2 < n
def Fits (g:Gr):Prop:=∀ e∈g.2.1,e.length=2
theorem f53_eq (g:Gr) (a:Int):f53 10000000000000000 g a=some (decide (0≤a) && decide (a < g.1)):=by
 unfold f53
 rw [bindc']
theorem f54_eq (g:Gr) (a:Int):f54 10000000000000000 g a=some (decide (0≤a) && decide (a < g.1)):=by
 unfold f54
 rw [bindc']
def edgeB (n:Int) (e:List Int):Bool:=(decide (0≤e.getD 0 0) && decide (e.getD 0 0 < n)) && (decide (0≤e.getD 1 0) && decide (e.getD 1 0 < n))
def chkS (g:Gr):Int:=if g.1 < 0 then 1 else if 4096 < g.1 then 4 else if g.2.1.all (edgeB g.1) then 0 else 3
theorem two_get {e:List Int} (h:e.length=2):idx e 0=some (e.getD 0 0)∧idx e 1=some (e.getD 1 0)∧inb e 0=true∧inb e 1=true:=by
 match e,h with
 | [a,b],_=>exact ⟨rfl,rfl,rfl,rfl⟩
theorem f38_eq (g:Gr) (hf:Fits g) (hl:g.2.1.length≤100):f38 10000000000000000 g=some (chkS g):=by
 unfold f38 chkS
 by_cases h0:g.1 < 0
 ·rw [d_true h0,if_pos h0];rfl
 ·rw [d_false h0,if_neg h0]
  simp only [cond_false]
  rw [bindc]
  by_cases h1:4096 < g.1
  ·rw [d_true h1,if_pos h1];rfl
  ·rw [d_false h1,if_neg h1,d_false (show ¬ 1048576 < len g.2.1 by rw [len_eq];omega)]
   simp only [Bool.or_self,cond_false]
   rw [iter_allL g.2.1 (edgeB g.1) (some 0) (some 3) (fun k w hk=>?_) (fun w=>?_) 10000000000000000 (by omega)]
   ·split <;> rfl
   ·simp only [f38_L6]
    rw [dlt_len hk,idx_lt hk,wi64_nat (by omega)]
    simp only [cond_true,Option.bind_some]
    obtain ⟨e0,e1,i0,i1⟩:=two_get (hf _ (List.getElem_mem hk))
    rw [chk_true i0,e0,chk_true i1,e1]
    simp only [Option.bind_some]
    rw [f54_eq,f54_eq]
    simp only [Option.bind_some]
    rw [bindc]
    unfold edgeB
    cases (decide (0≤(g.2.1[k]).getD 0 0) && decide ((g.2.1[k]).getD 0 0 < g.1)) <;> cases (decide (0≤(g.2.1[k]).getD 1 0) && decide ((g.2.1[k]).getD 1 0 < g.1)) <;> rfl
   ·simp only [f38_L6]
    rw [dnlt_len];rfl
theorem chk_graph {g:Gr} (hf:Fits g) (h:chkS g=0):∃ n E,g=grOf n E∧Nod n E∧E.length=g.2.1.length∧n≤4096:=by
 unfold chkS at h
 by_cases h0:g.1 < 0
 ·rw [if_pos h0] at h;omega
 ·rw [if_neg h0] at h
  by_cases h1:4096 < g.1
  ·rw [if_pos h1] at h;omega
  ·rw [if_neg h1] at h
   cases ha:g.2.1.all (edgeB g.1) with
   | false=>rw [ha] at h;simp at h
   | true=>
    have hall:=List.all_eq_true.1 ha
    obtain ⟨n,hn⟩:∃ n:Nat,g.1=(n:Int):=⟨g.1.toNat,by omega⟩
    refine ⟨n,g.2.1.map fun e=>((e.getD 0 0).toNat,(e.getD 1 0).toNat),?_,?_,by simp,by omega⟩
    ·obtain ⟨g1,gl,u⟩:=g
     simp only at hn hall hf
     subst hn
     unfold grOf toL
     rw [List.map_map]
     congr 2
     conv=>lhs;rw [←List.map_id gl]
     refine List.map_congr_left fun e he=>?_
     have h2:=hf e he
     have h3:=hall e he
     simp only [edgeB,Bool.and_eq_true,decide_eq_true_eq] at h3
     match e,h2 with
     | [a,b],_=>
      simp only [List.getD_cons_zero,List.getD_cons_succ] at h3
      simp only [id,Function.comp,List.getD_cons_zero,List.getD_cons_succ]
      rw [Int.toNat_of_nonneg h3.1.1,Int.toNat_of_nonneg h3.2.1]
    ·intro e he
     obtain ⟨x,hx,rfl⟩:=List.mem_map.1 he
     have h3:=hall x hx
     simp only [edgeB,Bool.and_eq_true,decide_eq_true_eq] at h3
     simp only
     omega
def hasE (E:List (Nat×Nat)) (a b:Nat):Bool:=E.any fun e=>decide (e.1=a) && decide (e.2=b)
theorem hasE_iff {E:List (Nat×Nat)} {a b:Nat}:hasE E a b=true↔(a,b)∈E:=by
 unfold hasE
 rw [List.any_eq_true]
 constructor
 ·rintro ⟨⟨x,y⟩,h1,h2⟩
  simp only [Bool.and_eq_true,decide_eq_true_eq] at h2
  rw [←h2.1,←h2.2];exact h1
 ·intro h
  exact ⟨(a,b),h,by simp⟩
def ky (e:Nat×Nat):Nat:=16*e.1+e.2
def prL (e:Nat×Nat):List Int:=[(e.1:Int),(e.2:Int)]
def Lo (E:List (Nat×Nat)):Prop:=∀ e∈E,e.1 < 16∧e.2 < 16
theorem ky_inj {x y:Nat×Nat} (hx:x.2 < 16) (hy:y.2 < 16) (h:ky x=ky y):x=y:=by
 unfold ky at h
 exact Prod.ext (by omega) (by omega)
theorem Nod.lo {n:Nat} {E:List (Nat×Nat)} (h:Nod n E) (hn:n≤12):Lo E:=fun e he=>by have:=h e he;omega
theorem f61_eq {x y:Nat×Nat} (hx:x.1 < 16∧x.2 < 16) (hy:y.1 < 16∧y.2 < 16):f61 10000000000000000 (prL x) (prL y)=some (if x.1=y.1 then (x.2:Int)-y.2 else (x.1:Int)-y.1):=by
 obtain ⟨a,b⟩:=x
 obtain ⟨c,d⟩:=y
 unfold f61
 show cond (!decide ((a:Int)=(c:Int))) (some (wi64 ((a:Int)-c))) (some (wi64 ((b:Int)-d)))=_
 simp only at hx hy
 by_cases h:a=c
 ·rw [d_true (show (a:Int)=c by omega),if_pos h,wi64_of (n:=(b:Int)-d) (by omega) (by omega)];rfl
 ·rw [d_false (show ¬ (a:Int)=c by omega),if_neg h,wi64_of (n:=(a:Int)-c) (by omega) (by omega)];rfl
theorem lt60 {x y:Nat×Nat} (hx:x.1 < 16∧x.2 < 16) (hy:y.1 < 16∧y.2 < 16):ltI (cmpO fun x y=>f61 10000000000000000 x y) (prL x) (prL y)=decide (ky x < ky y):=by
 unfold ltI cmpO
 show decide ((f61 10000000000000000 (prL x) (prL y)).getD 0 < 0)=_
 rw [f61_eq hx hy]
 simp only [Option.getD_some]
 have k1:ky x=16*x.1+x.2:=rfl
 have k2:ky y=16*y.1+y.2:=rfl
 split
 ·rw [Bool.eq_iff_iff];simp only [decide_eq_true_eq];omega
 ·rw [Bool.eq_iff_iff];simp only [decide_eq_true_eq];omega
theorem f60_ok (E:List (Nat×Nat)) (hlo:Lo E) (hl:E.length≤100):∃ E':List (Nat×Nat),E'.Perm E∧E'.Pairwise (fun x y=>ky x≤ky y)∧f60 10000000000000000 () (toL E)=some (((),()),(toL E',())):=by
 have hm:∀ x∈toL E,∃ e,(e.1 < 16∧e.2 < 16)∧x=prL e∧e∈E:=fun x hx=>by
  obtain ⟨e,he,rfl⟩:=List.mem_map.1 hx
  exact ⟨e,hlo e he,rfl,he⟩
 have hord:OrdOn (ltI (cmpO fun x y=>f61 10000000000000000 x y)) (·∈toL E):=by
  refine ⟨fun x hx=>?_,fun x y z hx hy hz h1 h2=>?_,fun x y z hx hy hz h1 h2=>?_⟩
  ·obtain ⟨e,h1,rfl,_⟩:=hm x hx
   rw [lt60 h1 h1];simp
  ·obtain ⟨e,he,rfl,_⟩:=hm x hx
   obtain ⟨e2,he2,rfl,_⟩:=hm y hy
   obtain ⟨e3,he3,rfl,_⟩:=hm z hz
   rw [lt60 he he2,decide_eq_true_eq] at h1
   rw [lt60 he2 he3,decide_eq_true_eq] at h2
   rw [lt60 he he3,decide_eq_true_eq];omega
  ·obtain ⟨e,he,rfl,_⟩:=hm x hx
   obtain ⟨e2,he2,rfl,_⟩:=hm y hy
   obtain ⟨e3,he3,rfl,_⟩:=hm z hz
   rw [lt60 he he2,decide_eq_false_iff_not] at h1
   rw [lt60 he2 he3,decide_eq_false_iff_not] at h2
   rw [lt60 he he3,decide_eq_false_iff_not];omega
 have hB:ordB (fun x y=>f61 10000000000000000 x y) (toL E)=true:=ordB_of hord fun x hx y hy=>by
  obtain ⟨e,h1,rfl,_⟩:=hm x hx
  obtain ⟨e2,h2,rfl,_⟩:=hm y hy
  rw [f61_eq h1 h2];rfl
 have hS:sepB (eqT (.arr 2 (.int .i64))) (ltI (cmpO fun x y=>f61 10000000000000000 x y)) (toL E)=true:=by
  unfold sepB
  rw [allB_iff]
  intro x hx
  rw [allB_iff]
  intro y hy
  obtain ⟨e,h1,rfl,_⟩:=hm x hx
  obtain ⟨e2,h2,rfl,_⟩:=hm y hy
  rw [lt60 h1 h2,lt60 h2 h1]
  by_cases hk:ky e=ky e2
  ·rw [ky_inj h1.2 h2.2 hk]
   have:=eqT_refl (.arr 2 (.int .i64)) (prL e2)
   rw [this];simp
  ·have:ky e < ky e2∨ky e2 < ky e:=by omega
   simp only [Bool.or_eq_true,decide_eq_true_eq]
   exact .inl this
 have hperm:=isortD_perm (ltI (cmpO fun x y=>f61 10000000000000000 x y)) (toL E)
 have hasc:=isortD_asc hord (toL E) fun y hy=>hy
 generalize hs:isortD (ltI (cmpO fun x y=>f61 10000000000000000 x y)) (toL E)=S at hperm hasc
 let dec:List Int→Nat×Nat:=fun l=>((l.getD 0 0).toNat,(l.getD 1 0).toNat)
 have hd:∀ e:Nat×Nat,dec (prL e)=e:=fun e=>rfl
 have hSE:S=toL (S.map dec):=by
  unfold toL
  rw [List.map_map]
  conv=>lhs;rw [←List.map_id S]
  refine List.map_congr_left fun x hx=>?_
  obtain ⟨e,_,rfl,_⟩:=hm x (hperm.mem_iff.1 hx)
  rfl
 refine ⟨S.map dec,?_,?_,?_⟩
 ·have:=hperm.map dec
  have e:(toL E).map dec=E:=by
   unfold toL
   rw [List.map_map]
   exact List.map_id E
  rw [e] at this
  exact this
 ·rw [List.pairwise_map]
  refine List.Pairwise.imp_of_mem (fun {x y} hx hy h=>?_) hasc
  obtain ⟨e,h1,rfl,_⟩:=hm x (hperm.mem_iff.1 hx)
  obtain ⟨e2,h2,rfl,_⟩:=hm y (hperm.mem_iff.1 hy)
  rw [lt60 h2 h1,decide_eq_false_iff_not] at h
  show ky e≤ky e2
  omega
 ·unfold f60 sortS
  rw [hB,hS,show Nat.blt (toL E).length 4611686018427387904=true from by rw [toL_len,Nat.blt_eq];omega,hs]
  simp only [Bool.and_self,cond_true,Option.map_some]
  rw [←hSE]
theorem eqD_pr (x y:Nat×Nat):eqD (.arr 2 (.int .i64)) (prL x) (prL y)=decide (x=y):=by
 obtain ⟨a,b⟩:=x
 obtain ⟨c,d⟩:=y
 show cond (keyEq (.int .i64) (a:Int) (c:Int)) (cond (keyEq (.int .i64) (b:Int) (d:Int)) true false) false=_
 simp only [keyEq]
 rw [Bool.eq_iff_iff]
 by_cases h1:a=c
 ·subst h1
  by_cases h2:b=d
  ·subst h2;simp
  ·simp [h2,show ¬ (b:Int)=d from by omega]
 ·simp [h1,show ¬ (a:Int)=c from by omega]
theorem toL_get' {E:List (Nat×Nat)} {k:Nat} {e:Nat×Nat} (h:E[k]? = some e):(toL E)[k]? = some (prL e):=by
 unfold toL
 rw [List.getElem?_map,h];rfl
theorem toL_set (E:List (Nat×Nat)) (k:Nat) (e:Nat×Nat):(toL E).set k (prL e)=toL (E.set k e):=by
 unfold toL
 rw [List.map_set];rfl
theorem toL_take (E:List (Nat×Nat)) (k:Nat):(toL E).take k=toL (E.take k):=by
 unfold toL
 rw [List.map_take]
def SA (E:List (Nat×Nat)):Prop:=E.Pairwise fun x y=>ky x < ky y
theorem sa_eq {l m:List (Nat×Nat)} (hl:SA l) (hm:SA m) (h:∀ x,x∈l↔x∈m):l=m:=by
 have nd:∀ {k:List (Nat×Nat)},SA k→k.Nodup:=fun hk=>List.Pairwise.imp (fun {a b} h e=>by subst e;exact Nat.lt_irrefl _ h) hk
 have hp:l.Perm m:=by
  rw [List.perm_ext_iff_of_nodup (nd hl) (nd hm)]
  exact h
 exact List.Perm.eq_of_pairwise (le:=fun x y=>ky x < ky y) (fun a b _ _ h1 h2=>absurd h1 (by omega)) hl hm hp
theorem f62L9 {R:Type} {Q:R→Prop} (L:List (Nat×Nat)) (hn:L.length≤100) (hlo:Lo L) (asc:L.Pairwise fun x y=>ky x≤ky y) {k:Nat} (hk1:1≤k) (hk:k < L.length) (hpre:SA (L.take k)) (heq:L[k]=(L[k-1]'(by omega)))
  {kx:Int→List (List Int)→Option R} (hkx:∀ (p:Nat) (C:List (Nat×Nat)),1≤p→p≤L.length→C.length=L.length→SA (C.take p)→(∀ y,y∈C.take p↔y∈L)→Yld (kx (p:Int) (toL C)) Q) :
  Yld (iter (fun w=>f62_L9 10000000000000000 (k:Int) (len (toL L)) w kx) 10000000000000000 (1,(k:Int),toL L)) Q:=by
 refine Yld.up (fun m (s:Int×List (List Int))=>∃ (p:Nat) (C:List (Nat×Nat)),1≤m∧s=((p:Int),toL C)∧1≤p∧p≤k+m-1∧k+m≤L.length∧C.length=L.length∧(∀ x,p≤x→C[x]? = L[x]?)∧SA (C.take p)∧(∀ y,y∈C.take p↔y∈L.take (k+m))) (L.length-k) ?_ ?_ 10000000000000000 1 (by omega) (by omega) ((k:Int),toL L) ?_
 ·rintro m s w hm ⟨p,C,hm1,rfl,hp1,hpm,hkm,hC,hrest,hasc,hmem⟩ hw
  simp only [f62_L9]
  rw [d_true (by rw [len_eq,toL_len];omega),wi64_nat (show m < 9223372036854775807 by omega),wi64_pred (show 0 < m by omega) (by omega),wi64_nat (show p < 9223372036854775807 by omega)]
  simp only [cond_true]
  rw [chk_true (by rw [Bool.and_true];exact decide_eq_true (by omega))]
  rw [show (k:Int)+(m:Int)=((k+m:Nat):Int) from by omega,show (k:Int)+((m-1:Nat):Int)=((k+m-1:Nat):Int) from by omega]
  have g1:C[k+m]? = some (L[k+m]'(by omega)):=by rw [hrest _ (by omega),List.getElem?_eq_getElem (by omega)]
  have g2:C[k+m-1]? = some (L[k+m-1]'(by omega)):=by rw [hrest _ (by omega),List.getElem?_eq_getElem (by omega)]
  rw [idx_some' (toL_get' g1)]
  simp only [Option.bind_some]
  rw [chk_true (by rw [Bool.and_eq_true,decide_eq_true_eq,decide_eq_true_eq,len_eq,toL_len];omega),idx_some' (toL_get' g2)]
  simp only [Option.bind_some]
  rw [eqD_pr]
  have hle:ky (L[k+m-1]'(by omega))≤ky (L[k+m]'(by omega)):=List.pairwise_iff_getElem.1 asc (k+m-1) (k+m) (by omega) (by omega) (by omega)
  by_cases he:L[k+m]'(by omega)=L[k+m-1]'(by omega)
  ·rw [d_true he]
   simp only [Bool.not_true,cond_false]
   refine hw (_,_) ⟨p,C,by omega,rfl,hp1,by omega,by omega,hC,hrest,hasc,fun y=>?_⟩
   rw [hmem,show k+(m+1)=(k+m)+1 from by omega,take_succ (show k+m < L.length by omega),List.mem_append,List.mem_singleton]
   refine ⟨.inl,fun h=>h.elim id fun h=>?_⟩
   rw [h,he]
   have:(L.take (k+m))[k+m-1]'(by simp;omega)∈L.take (k+m):=List.getElem_mem _
   rwa [List.getElem_take] at this
  ·rw [d_false he]
   simp only [Bool.not_false,cond_true]
   rw [chk_true (by rw [Bool.and_true];exact decide_eq_true (by omega))]
   rw [chk_true (inb_lt (by rw [toL_len];omega)),idx_lt (by rw [toL_len];omega)]
   simp only [Option.bind_some]
   rw [setI_nat,toL_set]
   have hne:ky (L[k+m-1]'(by omega))≠ky (L[k+m]'(by omega)):=fun h=>he (ky_inj (hlo _ (List.getElem_mem _)).2 (hlo _ (List.getElem_mem _)).2 h).symm
   have htk:(C.set p (L[k+m]'(by omega))).take (p+1)=C.take p++[L[k+m]'(by omega)]:=by
    rw [take_succ (by simp;omega)]
    simp [List.take_set_of_le]
   refine hw (((p:Int)+1),_) ⟨p+1,C.set p (L[k+m]'(by omega)),by omega,rfl,by omega,by omega,by omega,by simp [hC],fun x hx=>?_,?_,fun y=>?_⟩
   ·rw [List.getElem?_set_ne (by omega)];exact hrest x (by omega)
   ·rw [htk]
    refine List.pairwise_append.2 ⟨hasc,List.pairwise_singleton _ _,fun a ha b hb=>?_⟩
    rw [List.mem_singleton] at hb
    subst hb
    obtain ⟨i,hi,rfl⟩:=List.mem_iff_getElem.1 ((hmem a).1 ha)
    rw [List.getElem_take]
    have hi':i < k+m:=by simp at hi;omega
    have h2:ky (L[i]'(by omega))≤ky (L[k+m-1]'(by omega)):=by
     by_cases hx:i=k+m-1
     ·subst hx;exact Nat.le_refl _
     ·exact List.pairwise_iff_getElem.1 asc i (k+m-1) (by omega) (by omega) (by omega)
    omega
   ·rw [htk,show k+(m+1)=(k+m)+1 from by omega,take_succ (show k+m < L.length by omega),List.mem_append,List.mem_append,hmem]
 ·rintro s w ⟨p,C,hm1,rfl,hp1,hpm,hkm,hC,hrest,hasc,hmem⟩
  simp only [f62_L9]
  rw [d_false (by rw [len_eq,toL_len];omega)]
  simp only [cond_false]
  refine hkx p C hp1 (by omega) hC hasc fun y=>?_
  rw [hmem,List.take_of_length_le (by omega)]
 ·refine ⟨k,L,Nat.le_refl _,rfl,hk1,by omega,by omega,rfl,fun _ _=>rfl,hpre,fun y=>?_⟩
  rw [take_succ hk,List.mem_append,List.mem_singleton]
  refine ⟨.inl,fun h=>h.elim id fun h=>?_⟩
  rw [h,heq]
  have:(L.take k)[k-1]'(by simp;omega)∈L.take k:=List.getElem_mem _
  rwa [List.getElem_take] at this
theorem f62_ok (L:List (Nat×Nat)) (hn:L.length≤100) (hlo:Lo L) (asc:L.Pairwise fun x y=>ky x≤ky y) :
  Yld (f62 10000000000000000 (toL L)) fun r=>∃ O,r.2.1=toL O∧SA O∧∀ y,y∈O↔y∈L:=by
 unfold f62
 refine Yld.cond (fun h=>Yld.ret ⟨L,rfl,?_,fun _=>Iff.rfl⟩) fun h=>?_
 ·rw [decide_eq_true_eq,len_eq,toL_len] at h
  match L,h with
  | [],_=>exact List.Pairwise.nil
  | [a],_=>exact List.pairwise_singleton _ _
  | a :: b :: l,h=>simp at h;omega
 ·rw [decide_eq_false_iff_not,len_eq,toL_len] at h
  refine Yld.upI (fun k=>1≤k∧SA (L.take k)) L.length ?_ ?_ 10000000000000000 1 (by omega) (by omega) ⟨Nat.le_refl _,?_⟩
  ·rintro k w hk ⟨hk1,hpre⟩ hw
   simp only [f62_L4]
   rw [d_true (show (k:Int) < len (toL L) by rw [len_eq,toL_len];omega),wi64_nat (by omega),wi64_pred (by omega) (by omega)]
   simp only [cond_true]
   have g1:L[k]? = some L[k]:=List.getElem?_eq_getElem hk
   have g2:L[k-1]? = some (L[k-1]'(by omega)):=List.getElem?_eq_getElem (by omega)
   rw [chk_true (inb_some (toL_get' g1)),idx_some' (toL_get' g1)]
   simp only [Option.bind_some]
   rw [chk_true (inb_some (toL_get' g2)),idx_some' (toL_get' g2)]
   simp only [Option.bind_some]
   rw [eqD_pr]
   by_cases he:L[k]=(L[k-1]'(by omega))
   ·rw [d_true he]
    simp only [cond_true]
    rw [chk_true (by simp only [Bool.and_eq_true,decide_eq_true_eq,len_eq,toL_len];omega)]
    refine f62L9 L hn hlo asc hk1 hk hpre he fun p C hp1 hp hC hasc hmem=>?_
    rw [chk_true (by simp only [Bool.and_eq_true,decide_eq_true_eq,len_eq,toL_len];omega),chk_true (by simp only [Bool.and_eq_true,decide_eq_true_eq,len_eq,clearL_length,toL_len];omega)]
    have hsub:sub (clearL (List.replicate 2 0:List Int) (toL C) (p:Int) (len (toL C))) 0 (p:Int)=(toL C).take p:=by
     apply List.ext_getElem?
     intro i
     unfold sub
     simp only [Int.toNat_zero,List.drop_zero,Nat.sub_zero,Int.toNat_natCast]
     by_cases hi:i < p
     ·rw [List.getElem?_take_of_lt hi,List.getElem?_take_of_lt hi]
      have hi2:i < (toL C).length:=by rw [toL_len];omega
      have hi3:i < (clearL (List.replicate 2 0:List Int) (toL C) (p:Int) (len (toL C))).length:=by rw [clearL_length];exact hi2
      have:=clearL_get (List.replicate 2 0:List Int) (toL C) (p:Int) (len (toL C)) i hi3 hi2
      rw [List.getElem?_eq_getElem hi3,List.getElem?_eq_getElem hi2]
      simp only [List.get_eq_getElem] at this
      rw [this,if_neg (by omega)]
     ·rw [List.getElem?_eq_none (by simp;omega),List.getElem?_eq_none (by simp;omega)]
    rw [hsub,toL_take]
    exact Yld.ret ⟨C.take p,rfl,hasc,hmem⟩
   ·rw [d_false he]
    simp only [cond_false]
    refine hw ⟨by omega,?_⟩
    rw [take_succ hk]
    refine List.pairwise_append.2 ⟨hpre,List.pairwise_singleton _ _,fun a ha b hb=>?_⟩
    rw [List.mem_singleton] at hb
    subst hb
    obtain ⟨i,hi,rfl⟩:=List.mem_iff_getElem.1 ha
    rw [List.getElem_take]
    have hi':i < k:=by simp at hi;omega
    have h1:ky (L[k-1]'(by omega))≤ky L[k]:=List.pairwise_iff_getElem.1 asc (k-1) k (by omega) (by omega) (by omega)
    have hne:ky L[k]≠ky (L[k-1]'(by omega)):=fun h=>he (ky_inj (hlo _ (List.getElem_mem _)).2 (hlo _ (List.getElem_mem _)).2 h)
    have h2:ky (L[i]'(by omega))≤ky (L[k-1]'(by omega)):=by
     by_cases hx:i=k-1
     ·subst hx;exact Nat.le_refl _
     ·exact List.pairwise_iff_getElem.1 asc i (k-1) (by omega) (by omega) (by omega)
    omega
  ·rintro w ⟨_,hpre⟩
   simp only [f62_L4]
   rw [d_false (by rw [len_eq,toL_len];omega)]
   simp only [cond_false]
   rw [List.take_length] at hpre
   exact Yld.ret ⟨L,rfl,hpre,fun _=>Iff.rfl⟩
  ·rw [take_succ (by omega)]
   simp only [List.take_zero,List.nil_append]
   exact List.pairwise_singleton _ _
def suc (n:Nat) (E:List (Nat×Nat)) (a:Nat):List Nat:=(List.range n).filter fun b=>hasE E a b
theorem mem_suc {n:Nat} {E:List (Nat×Nat)} {a b:Nat}:b∈suc n E a↔b < n∧(a,b)∈E:=by
 unfold suc
 rw [List.mem_filter,List.mem_range,hasE_iff]
def smp (n:Nat) (E:List (Nat×Nat)):List (Nat×Nat):=(List.range n).flatMap fun a=>(suc n E a).map fun b=>(a,b)
theorem mem_smp {n:Nat} {E:List (Nat×Nat)} (h:Nod n E) {e:Nat×Nat}:e∈smp n E↔e∈E:=by
 unfold smp
 rw [List.mem_flatMap]
 constructor
 ·rintro ⟨a,ha,he⟩
  obtain ⟨b,hb,rfl⟩:=List.mem_map.1 he
  exact (mem_suc.1 hb).2
 ·intro he
  exact ⟨e.1,List.mem_range.2 (h e he).1,List.mem_map.2 ⟨e.2,mem_suc.2 ⟨(h e he).2,he⟩,rfl⟩⟩
theorem range_asc (n:Nat):(List.range n).Pairwise (· < ·):=List.pairwise_lt_range
theorem suc_asc (n:Nat) (E:List (Nat×Nat)) (a:Nat):(suc n E a).Pairwise (· < ·):=(range_asc n).filter _
theorem smp_sa {n:Nat} (hn:n≤12) (E:List (Nat×Nat)):SA (smp n E):=by
 unfold smp SA
 rw [List.pairwise_flatMap]
 refine ⟨fun a _=>?_,(range_asc n).imp fun {a b} hab=>?_⟩
 ·rw [List.pairwise_map]
  exact (suc_asc n E a).imp fun {x y} h=>by simp only [ky];omega
 ·intro x hx y hy
  obtain ⟨u,hu,rfl⟩:=List.mem_map.1 hx
  obtain ⟨v,hv,rfl⟩:=List.mem_map.1 hy
  have:=(mem_suc.1 hu).1
  have:=(mem_suc.1 hv).1
  simp only [ky]
  omega
theorem f57_eq {n:Nat} {E:List (Nat×Nat)} (h:Nod n E) (hn:n≤12) (hl:E.length≤100) (m:Int):f57 10000000000000000 m (toL E)=some (m,(toL (smp n E),())):=by
 refine Yld.eq ?_
 unfold f57
 have h58:f21 10000000000000000 (toL E)=some (toL E):=by
  unfold f21
  rw [chk_true (decide_eq_true (by rw [toL_len];simp only [room];omega))]
 rw [h58]
 simp only [Option.bind_some]
 obtain ⟨E',hp,ha,h59⟩:=f60_ok E (h.lo hn) hl
 rw [h59]
 simp only [Option.bind_some]
 refine Yld.then (f62_ok E' (by rw [hp.length_eq];exact hl) (fun e he=>(h.lo hn) e (hp.mem_iff.1 he)) ha) ?_
 rintro ⟨u,r,u2⟩ ⟨O,h1,h2,h3⟩
 simp only at h1
 subst h1
 refine Yld.ret ?_
 rw [sa_eq h2 (smp_sa hn E) fun x=>by rw [h3,hp.mem_iff,mem_smp h]]
theorem fits_gr (n:Nat) (E:List (Nat×Nat)):Fits (grOf n E):=fun e he=>by
 obtain ⟨x,_,rfl⟩:=List.mem_map.1 he
 rfl
theorem chk_ok {n:Nat} {E:List (Nat×Nat)} (h:Nod n E) (hn:n≤12):chkS (grOf n E)=0:=by
 unfold chkS
 rw [if_neg (show ¬ (grOf n E).1 < 0 from by show ¬ (n:Int) < 0;omega),if_neg (show ¬ 4096 < (grOf n E).1 from by show ¬ 4096 < (n:Int);omega),if_pos]
 rw [List.all_eq_true]
 intro e he
 obtain ⟨x,hx,rfl⟩:=List.mem_map.1 he
 have:=h x hx
 show ((decide ((0:Int)≤(x.1:Int)) && decide ((x.1:Int) < (n:Int))) && (decide ((0:Int)≤(x.2:Int)) && decide ((x.2:Int) < (n:Int))))=true
 simp only [Bool.and_eq_true,decide_eq_true_eq]
 omega
theorem f38_0 {n:Nat} {E:List (Nat×Nat)} (h:Nod n E) (hn:n≤12) (hl:E.length≤100):f38 10000000000000000 (grOf n E)=some 0:=by
 rw [f38_eq _ (fits_gr n E) (by simp only [grOf,toL_len];exact hl),chk_ok h hn]
theorem ck0 {R:Type} {m:Nat} (h:m≤5000) (x:Option R):chk (decide (m≤room)) x=x:=chk_true (decide_eq_true (by simp only [room];omega))
theorem ckn {R:Type} {n:Nat} (h:n≤5000) (x:Option R):chk (((decide ((0:Int)≤(n:Int))) && (decide ((n:Int)≤(n:Int)))) && (decide ((n:Int)≤((room:Nat):Int)))) x=x:=chk_true (by have e:((room:Nat):Int)=4294967296:=rfl;rw [e];simp only [Bool.and_eq_true,decide_eq_true_eq];omega)
theorem ck0' {R:Type} {m:Nat} (h:m≤5000) (x:Option R):chk (decide (Nat.succ m≤room)) x=x:=chk_true (decide_eq_true (by simp only [room];omega))
theorem flatMap_len {α β:Type} {f:α→List β} {c:Nat}:{l:List α}→(∀ x∈l,(f x).length≤c)→(l.flatMap f).length≤l.length*c
 | [],_=>Nat.zero_le _
 | x :: l,h=>by
  rw [List.flatMap_cons,List.length_append,List.length_cons,Nat.succ_mul]
  have:=h x (by simp)
  have:=flatMap_len (l:=l) fun y hy=>h y (List.mem_cons_of_mem _ hy)
  omega
theorem filter_range_len (n:Nat) (p:Nat→Bool):((List.range n).filter p).length≤n:=by
 have:=List.length_filter_le p (List.range n)
 rwa [List.length_range] at this
theorem suc_len (n:Nat) (E:List (Nat×Nat)) (a:Nat):(suc n E a).length≤n:=filter_range_len n _
theorem smp_len {n:Nat} (hn:n≤12) (E:List (Nat×Nat)):(smp n E).length≤144:=by
 have:=flatMap_len (f:=fun a=>(suc n E a).map fun b=>(a,b)) (c:=n) (l:=List.range n) fun x _=>by
  rw [List.length_map];exact suc_len n E x
 rw [List.length_range] at this
 exact Nat.le_trans this (Nat.mul_le_mul hn hn)
theorem smp_nod {n:Nat} {E:List (Nat×Nat)} (h:Nod n E):Nod n (smp n E):=fun e he=>h e ((mem_smp h).1 he)
theorem range_succ_filter (n:Nat) (p:Nat→Bool):(List.range (n+1)).filter p=(List.range n).filter p++(if p n then [n] else []):=by
 rw [List.range_succ,List.filter_append]
 congr 1
 by_cases h:p n=true <;> simp [h]
def il (l:List Nat):List Int:=l.map fun x:Nat=>(x:Int)
theorem il_len (l:List Nat):(il l).length=l.length:=by simp [il]
theorem il_get {l:List Nat} {k:Nat} (h:k < l.length):(il l)[k]? = some ((l[k]:Nat):Int):=by
 unfold il
 rw [List.getElem?_map,List.getElem?_eq_getElem h];rfl
def nx (n:Nat) (E:List (Nat×Nat)):List (List Int):=(List.range n).map fun a=>il (suc n E a)
theorem nx_len (n:Nat) (E:List (Nat×Nat)):(nx n E).length=n:=by simp [nx]
theorem nx_get {n:Nat} {E:List (Nat×Nat)} {a:Nat} (h:a < n):(nx n E)[a]? = some (il (suc n E a)):=by
 unfold nx
 rw [List.getElem?_map,List.getElem?_range h];rfl
theorem asc_eq {l m:List Nat} (hl:l.Pairwise (· < ·)) (hm:m.Pairwise (· < ·)) (h:∀ x,x∈l↔x∈m):l=m:=by
 have nd:∀ {k:List Nat},k.Pairwise (· < ·)→k.Nodup:=fun hk=>List.Pairwise.imp (fun {a b} h e=>by subst e;exact Nat.lt_irrefl _ h) hk
 have hp:l.Perm m:=by
  rw [List.perm_ext_iff_of_nodup (nd hl) (nd hm)]
  exact h
 exact List.Perm.eq_of_pairwise (le:=fun x y=>x < y) (fun a b _ _ h1 h2=>absurd h1 (by omega)) hl hm hp
theorem smp_row {n:Nat} {E:List (Nat×Nat)} (h:Nod n E) (hn:n≤12) {a:Nat} (ha:a < n):((smp n E).filter fun e=>decide (e.1=a)).map Prod.snd=suc n E a:=by
 refine asc_eq ?_ (suc_asc n E a) fun b=>?_
 ·rw [List.pairwise_map]
  refine List.Pairwise.imp_of_mem (fun {x y} hx hy hxy=>?_) ((smp_sa hn E).filter _)
  have h1:=(List.mem_filter.1 hx).2
  have h2:=(List.mem_filter.1 hy).2
  rw [decide_eq_true_eq] at h1 h2
  simp only [ky] at hxy
  omega
 ·rw [List.mem_map,mem_suc]
  constructor
  ·rintro ⟨⟨x,y⟩,hx,rfl⟩
   obtain ⟨h1,h2⟩:=List.mem_filter.1 hx
   rw [decide_eq_true_eq] at h2
   simp only at h2
   subst h2
   have:=(mem_smp h).1 h1
   exact ⟨(h _ this).2,this⟩
  ·rintro ⟨h1,h2⟩
   exact ⟨(a,b),List.mem_filter.2 ⟨(mem_smp h).2 h2,by simp⟩,rfl⟩
def rw_ (S:List (Nat×Nat)) (a:Nat):List Int:=il ((S.filter fun e=>decide (e.1=a)).map Prod.snd)
theorem f44_eq {n:Nat} {E:List (Nat×Nat)} (h:Nod n E) (hn:n≤12) (hl:E.length≤100):f44 10000000000000000 (n:Int) (toL E)=some (nx n E):=by
 refine Yld.eq ?_
 unfold f44
 rw [ckn (by omega),f57_eq h hn hl,Option.bind_some]
 have hS:=smp_len hn E
 have hN:=smp_nod h
 refine Yld.up (fun k (o:List (List Int))=>o=(List.range n).map fun a=>rw_ ((smp n E).take k) a) (smp n E).length ?_ ?_ 10000000000000000 0 (Nat.zero_le _) (by omega) _ ?_
 ·rintro k o w hk rfl hw
  simp only [f44_L3]
  rw [d_true (show (k:Int) < len (toL (smp n E)) by rw [len_eq,toL_len];omega),wi64_nat (by omega),chk_true (inb_lt (by rw [toL_len];exact hk)),show idx (toL (smp n E)) (k:Int)=some [((smp n E)[k].1:Int),((smp n E)[k].2:Int)] from toL_get hk]
  simp only [cond_true,Option.bind_some]
  generalize he:(smp n E)[k]=e
  have hen:=hN _ (List.getElem_mem hk)
  rw [he] at hen
  have hg:((List.range n).map fun a=>rw_ ((smp n E).take k) a)[e.1]? = some (rw_ ((smp n E).take k) e.1):=by
   rw [List.getElem?_map,List.getElem?_range hen.1];rfl
  rw [chk_true (show inb [(e.1:Int),(e.2:Int)] 0=true from rfl),chk_true (show inb [(e.1:Int),(e.2:Int)] 0=true from rfl),show idx [(e.1:Int),(e.2:Int)] 0=some (e.1:Int) from rfl]
  simp only [Option.bind_some]
  rw [chk_true (inb_some hg),idx_some' hg]
  simp only [Option.bind_some]
  rw [chk_true (show inb [(e.1:Int),(e.2:Int)] 1=true from rfl),show idx [(e.1:Int),(e.2:Int)] 1=some (e.2:Int) from rfl]
  simp only [Option.bind_some]
  rw [ck0 (by
   unfold rw_
   rw [il_len,List.length_map]
   have:=List.length_filter_le (fun e_1:Nat×Nat=>decide (e_1.1=e.1)) ((smp n E).take k)
   rw [List.length_take] at this
   omega),chk_true (inb_some hg),chk_true (by simp [pathEq]),setI_nat]
  refine hw _ ?_
  apply List.ext_getElem?
  intro i
  by_cases hi:i < n
  ·rw [List.getElem?_map,List.getElem?_range hi]
   simp only [Option.map_some]
   by_cases hie:i=e.1
   ·subst hie
    rw [List.getElem?_set_self (by simp;omega),take_succ hk,he]
    simp [rw_,il,List.filter_append]
   ·rw [List.getElem?_set_ne (by omega),List.getElem?_map,List.getElem?_range hi,take_succ hk,he]
    simp [rw_,il,List.filter_append,show ¬ e.1=i from by omega]
  ·rw [List.getElem?_eq_none (by simp;omega),List.getElem?_eq_none (by simp;omega)]
 ·rintro o w rfl
  simp only [f44_L3]
  rw [d_false (show ¬ ((smp n E).length:Int) < len (toL (smp n E)) by rw [len_eq,toL_len];omega)]
  simp only [cond_false]
  refine Yld.ret ?_
  rw [List.take_length]
  unfold nx
  refine List.map_congr_left fun a ha=>?_
  unfold rw_
  rw [smp_row h hn (List.mem_range.1 ha)]
 ·apply List.ext_getElem?
  intro i
  by_cases hi:i < n
  ·rw [List.getElem?_map,List.getElem?_range hi,List.getElem?_replicate_of_lt (by simpa using hi)]
   simp only [Option.map_some,List.take_zero,rw_,List.filter_nil,List.map_nil,il]
  ·rw [List.getElem?_eq_none (by simp;omega),List.getElem?_eq_none (by simp;omega)]
theorem f28_eq {n:Nat} {E:List (Nat×Nat)} (h:Nod n E) (hn:n≤12) (hl:E.length≤100):f28 10000000000000000 (grOf n E)=some (nx n E,0):=by
 unfold f28
 rw [f38_0 h hn hl]
 simp only [Option.bind_some]
 first | rw [d_true rfl] | rw [d_true trivial]
 simp only [Bool.not_true,cond_false]
 rw [show (grOf n E).2.1=toL E from rfl,show (grOf n E).1=(n:Int) from rfl,f44_eq h hn hl]
 rfl
end Go.Kz
