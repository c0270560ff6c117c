/-
  Layer 07, plain: marks, and the network that is laid for a graph.
-/
import Derived.Test.YtafhchecfmiieaaKzE7
set_option linter.unusedVariables false
set_option linter.unusedSimpArgs false
namespace Go.Kz
def Sub (n:Nat) (S:List Nat):Prop:=∀ x∈S,x < n
def mks (S:List Nat) (k:Nat):Bool:=decide (k∈S)
def mkL (n:Nat) (S:List Nat):List Bool:=(List.range n).map (mks S)
theorem il_idx {l:List Nat} {k:Nat} (h:k < l.length):idx (il l) (k:Int)=some ((l[k]:Nat):Int):=il_get h
theorem f41_eq {n:Nat} {S:List Nat} (hn:n≤1000) (hS:Sub n S) (hl:S.length≤1000):f41 10000000000000000 (n:Int) (il S)=some (mkL n S):=by
 unfold f41
 rw [ckn (by omega),Int.toNat_natCast]
 refine Yld.eq (Yld.up (fun k (o:List Bool)=>o=mkL n (S.take k)) S.length ?_ ?_ 10000000000000000 0 (Nat.zero_le _) (by omega) _ ?_)
 ·rintro k o w hk rfl hw
  have hv:=hS _ (List.getElem_mem hk)
  simp only [f41_L3]
  rw [d_true (show (k:Int) < len (il S) by rw [len_eq,il_len];omega),wi64_nat (k:=k) (by omega),il_idx hk]
  simp only [cond_true,Option.bind_some]
  have hi:∀ T,inb (mkL n T) ((S[k]:Nat):Int)=true:=fun T=>inb_map_range _ hv
  have hg:∀ T,idx (mkL n T) ((S[k]:Nat):Int)=some (mks T S[k]):=fun T=>idx_map_range _ hv
  rw [chk_true (hi _),hg]
  simp only [Option.bind_some]
  refine hw _ ?_
  show ((List.range n).map (mks (S.take k))).set S[k] true=mkL n (S.take (k+1))
  rw [map_set_range]
  refine List.map_congr_left fun x _=>?_
  rw [take_succ hk]
  unfold upF mks
  by_cases e:x=S[k]
  ·rw [if_pos e,e];exact (decide_eq_true (List.mem_append.2 (.inr (List.mem_singleton.2 rfl)))).symm
  ·rw [if_neg e];exact decide_eq_decide.2 ⟨fun h=>List.mem_append.2 (.inl h),fun h=>(List.mem_append.1 h).elim id fun h=>absurd (List.mem_singleton.1 h) e⟩
 ·rintro o w rfl
  simp only [f41_L3]
  rw [d_false (show ¬ ((S.length:Nat):Int) < len (il S) by rw [len_eq,il_len];omega),List.take_length]
  exact Yld.ret rfl
 ·apply List.ext_getElem?
  intro i
  by_cases hi:i < n
  ·rw [show (mkL n (S.take 0))[i]? = some (mks (S.take 0) i) from map_range_get _ hi,List.getElem?_replicate_of_lt hi]
   simp [mks]
  ·rw [List.getElem?_eq_none (by simp;omega),List.getElem?_eq_none (by simp [mkL];omega)]
theorem mk_get {n:Nat} (S:List Nat) {k:Nat} (hk:k < n):idx (mkL n S) (k:Int)=some (mks S k):=idx_map_range _ hk
theorem mk_inb {n:Nat} (S:List Nat) {k:Nat} (hk:k < n):inb (mkL n S) (k:Int)=true:=inb_map_range _ hk
theorem mk_iff {S:List Nat} {k:Nat}:mks S k=true↔k∈S:=by simp [mks]
def mostW (w:List Int):Int:=1+lsm (fun x=>if 0 < x then x else 0) w
theorem maxI0 (x:Int):maxI x 0=if 0 < x then x else 0:=by unfold maxI;split <;> split <;> omega
theorem mostW_le {w:List Int} {B:Int} (hB:0≤B) (h:∀ x∈w,x≤B):1≤mostW w∧mostW w≤1+B*w.length:=by
 unfold mostW
 have h1:=lsm_nonneg (f:=fun x:Int=>if 0 < x then x else 0) (l:=w) fun x _=>by split <;> omega
 have h2:=lsm_le (f:=fun x:Int=>if 0 < x then x else 0) (g:=fun _=>B) (l:=w) fun x hx=>by have:=h x hx;split <;> omega
 rw [lsm_const] at h2
 omega
theorem lsm_take_le {f:Int→Int} (hf:∀ x,0≤f x) (l:List Int) (k:Nat):lsm f (l.take k)≤lsm f l:=by
 have h:=lsm_app f (l.take k) (l.drop k)
 rw [List.take_append_drop] at h
 have:=lsm_nonneg (f:=f) (l:=l.drop k) fun x _=>hf x
 omega
def capC (wt:Nat→Int) (most:Int) (k:Nat):Int:=if wt k < 0 then most else wt k
section
variable {n:Nat} {E:List (Nat×Nat)} {A B:List Nat} {wt:Nat→Int} {most:Int}
theorem f30_most {w:List Int} (hw:∀ x∈w,x≤1048576) (hl:w.length≤1000) {R:Type} {Q:R→Prop} (X:List (List Int)) (t10:Int) (t3 t2 t1:List Int) (S T:Int) (o:List (List ArcD)) {kx:Int→Option R} (hk:Yld (kx (mostW w)) Q) :
  Yld (iter (fun z=>f30_L5 10000000000000000 w X t10 t3 t2 t1 (len w) S T o z kx) 10000000000000000 (0,1)) Q:=by
 have hf:∀ x:Int,0≤(if 0 < x then x else 0:Int):=fun x=>by split <;> omega
 have hb:=mostW_le (by omega) hw
 refine Yld.up (fun k (s:Int)=>s=mostW (w.take k)) w.length ?_ ?_ 10000000000000000 0 (Nat.zero_le _) (by omega) _ (by simp [mostW,lsm])
 ·rintro k s z hk rfl hz
  simp only [f30_L5]
  rw [d_true (show (k:Int) < len w by rw [len_eq];omega),wi64_nat (k:=k) (by omega),idx_lt hk]
  simp only [cond_true,Option.bind_some]
  have e:mostW (w.take k)+maxI w[k] 0=mostW (w.take (k+1)):=by
   unfold mostW
   rw [take_succ hk,lsm_app,maxI0]
   simp only [lsm];omega
  have h1:=lsm_take_le hf w (k+1)
  have h2:=lsm_nonneg (f:=fun x:Int=>if 0 < x then x else 0) (l:=w.take (k+1)) fun x _=>hf x
  have h3:(w.length:Int)≤1000:=by omega
  rw [e,wi64_of (by unfold mostW;omega) (by unfold mostW at hb ⊢;omega)]
  exact hz _ rfl
 ·rintro s z rfl
  simp only [f30_L5]
  rw [d_false (show ¬ ((w.length:Nat):Int) < len w by rw [len_eq];omega),List.take_length]
  exact hk
theorem wi2 {k:Nat} (hk:k≤5000):wi64 (2*(k:Int))=((2*k:Nat):Int)∧wi64 (((2*k:Nat):Int)+1)=((2*k+1:Nat):Int):=⟨by rw [wi64_of (by omega) (by omega)];omega,by rw [wi64_of (by omega) (by omega)];omega⟩
theorem f30_nodes (hn:n≤100) (hm:0≤most) {F T:Nat→Bool} {W0:Nw} {r0:Nat→Nat→Int} (h0:LayI n E F T (capC wt most) most 0 W0 r0) (hz:∀ k,k < n→W0.deg (2*k)=0) {R:Type} {Q:R→Prop} (X:List (List Int)) (t10:Int) (t3 t2:List Int)
  {kx:Int→Int→List (List ArcD)→Option R}
  (hk:∀ W r,LayI n E F T (capC wt most) most n W r→(∀ k,k < n→0 < W.deg (2*k)∧W.Has (2*k) (2*k+1))→Yld (kx ((2*n:Nat):Int) ((2*n+1:Nat):Int) (W.enc r)) Q) :
  Yld (iter (fun z=>f30_L11 10000000000000000 most X t10 t3 t2 (n:Int) z kx) 10000000000000000 (0,(List.range n).map wt,((2*n:Nat):Int),((2*n+1:Nat):Int),W0.enc r0)) Q:=by
 refine Yld.up (fun k (s:List Int×Int×Int×List (List ArcD))=>∃ (D:Nat→Int) (W:Nw) (r:Nat→Nat→Int),s=((List.range n).map D,((2*n:Nat):Int),((2*n+1:Nat):Int),W.enc r)∧(∀ j,k≤j→D j=wt j)∧LayI n E F T (capC wt most) most k W r∧(∀ j,j < k→0 < W.deg (2*j)∧W.Has (2*j) (2*j+1))∧∀ j,k≤j→j < n→W.deg (2*j)=0) n ?_ ?_ 10000000000000000 0 (Nat.zero_le _) (by omega) _ ⟨wt,W0,r0,rfl,fun _ _=>rfl,h0,fun j hj=>by omega,fun j _ hj=>hz j hj⟩
 ·rintro k s z hk ⟨D,W,r,rfl,hD,hL,hH,hZ⟩ hz
  simp only [f30_L11]
  rw [d_true (show (k:Int) < (n:Int) by omega),wi64_nat (k:=k) (by omega)]
  have e1:idx ((List.range n).map D) (k:Int)=some (wt k):=by rw [idx_map_range _ hk,hD k (Nat.le_refl _)]
  have i1:∀ D:Nat→Int,inb ((List.range n).map D) (k:Int)=true:=fun D=>inb_map_range _ hk
  rw [chk_true (i1 D),e1]
  simp only [cond_true,Option.bind_some,chk_true (i1 D),(wi2 (k:=k) (by omega)).1,(wi2 (k:=k) (by omega)).2]
  have ha:ArcF n E F T (2*k) (2*k+1):=.thru k hk
  have hc:capF n (capC wt most) most (2*k) (2*k+1)=capC wt most k:=by unfold capF;rw [if_pos ⟨by omega,by omega⟩,show 2*k / 2=k from by omega]
  have hu:2*k < W.N:=by rw [hL.N];omega
  have hv:2*k+1 < W.N:=by rw [hL.N];omega
  have hc0:0≤capC wt most k:=by unfold capC;split <;> omega
  have hL':=hL.link ha (by rw [hc];exact hc0) (.inl ⟨k,hk,rfl,rfl,hZ k (Nat.le_refl _) hk⟩)
  rw [hc] at hL'
  have hs:=hL.small
  have next:∀ D':Nat→Int,(∀ j,k+1≤j→D' j=wt j)→∃ (D:Nat→Int) (W':Nw) (r':Nat→Nat→Int),((List.range n).map D',((2*n:Nat):Int),((2*n+1:Nat):Int),(W.link (2*k) (2*k+1)).enc (W.linkR r (2*k) (2*k+1) (capC wt most k)))=((List.range n).map D,((2*n:Nat):Int),((2*n+1:Nat):Int),W'.enc r')∧(∀ j,k+1≤j→D j=wt j)∧LayI n E F T (capC wt most) most (k+1) W' r'∧(∀ j,j < k+1→0 < W'.deg (2*j)∧W'.Has (2*j) (2*j+1))∧∀ j,k+1≤j→j < n→W'.deg (2*j)=0:=by
   intro D' hD'
   refine ⟨D',_,_,rfl,hD',hL',fun j hj=>?_,fun j hj hjn=>?_⟩
   ·by_cases e:j=k
    ·subst e
     exact ⟨by rw [Nw.link_deg (by omega),if_pos rfl];omega,Nw.Has.new (by omega) hu hv⟩
    ·obtain ⟨p1,p2⟩:=hH j (by omega)
     exact ⟨Nw.link_pos (by omega) p1,Nw.Has.old (by omega) hu hv p2⟩
   ·rw [Nw.link_deg (by omega),if_neg (by omega),if_neg (by omega)]
    exact hZ j (by omega) hjn
  have d1:W.deg (2*k)≤1000:=by have:=hs (2*k);omega
  have d2:W.deg (2*k+1)≤1000:=by have:=hs (2*k+1);omega
  by_cases hneg:wt k < 0
  ·rw [d_true hneg,cond_true]
   have e2:setI ((List.range n).map D) (k:Int) most=(List.range n).map (upF D k most):=map_set_range D most
   rw [e2,chk_true (i1 _),idx_map_range _ hk,upF_self]
   simp only [Option.bind_some]
   rw [f46_eq most hu hv (by omega) d1 d2]
   simp only [Option.bind_some]
   have e3:capC wt most k=most:=by unfold capC;rw [if_pos hneg]
   rw [←e3] at hz ⊢
   refine hz _ ?_
   rw [e3]
   rw [e3] at next
   exact next _ fun j hj=>by rw [upF_ne D _ (by omega)];exact hD j (by omega)
  ·rw [d_false hneg,cond_false]
   have e3:capC wt most k=wt k:=by unfold capC;rw [if_neg hneg]
   rw [f46_eq (wt k) hu hv (by omega) d1 d2]
   simp only [Option.bind_some]
   refine hz _ ?_
   rw [e3] at next
   exact next _ fun j hj=>hD j (by omega)
 ·rintro s z ⟨D,W,r,rfl,_,hL,hH,_⟩
  simp only [f30_L11]
  rw [d_false (show ¬ ((n:Nat):Int) < (n:Int) by omega)]
  exact hk W r hL hH
structure LayK (n:Nat) (E:List (Nat×Nat)) (A B:List Nat) (wt:Nat→Int) (most:Int) (c k:Nat) (W:Nw) (r:Nat→Nat→Int):Prop where
 lay:LayI n E (mks A) (mks B) (capC wt most) most c W r
 pos:∀ j,j < n→0 < W.deg (2*j)
 thru:∀ j,j < n→W.Has (2*j) (2*j+1)
 edge:∀ a b,a < k→ArcF n E (mks A) (mks B) (2*a+1) (2*b)→W.Has (2*a+1) (2*b)
 first:∀ j,j < k→ArcF n E (mks A) (mks B) (2*n) (2*j)→W.Has (2*n) (2*j)
 last:∀ j,j < k→ArcF n E (mks A) (mks B) (2*j+1) (2*n+1)→W.Has (2*j+1) (2*n+1)
theorem LayK.link {c k:Nat} {W:Nw} {r:Nat→Nat→Int} (hm:0≤most) (h:LayK n E A B wt most c k W r) {u v:Nat} (ha:ArcF n E (mks A) (mks B) u v) (hno:∀ j,j < n→u≠2*j) :
  LayK n E A B wt most (c+1) k (W.link u v) (W.linkR r u v most)∧(W.link u v).Has u v∧∀ x y,W.Has x y→(W.link u v).Has x y:=by
 obtain ⟨l1,l2,hun,hvn⟩:=ha.ld
 have hne:u≠v:=fun e=>by rw [e] at l1;rw [e] at l2;rw [l1] at l2;cases l2
 have hu:u < W.N:=by rw [h.lay.N];exact hun
 have hv:v < W.N:=by rw [h.lay.N];exact hvn
 have hc:capF n (capC wt most) most u v=most:=by
  unfold capF
  rw [if_neg fun hh=>hno (u / 2) (by omega) (by omega)]
 have hL:=h.lay.link ha (by rw [hc];exact hm) (.inr ⟨fun j hj e=>hno j hj e.1,h.pos⟩)
 rw [hc] at hL
 have hold:∀ x y,W.Has x y→(W.link u v).Has x y:=fun x y hh=>Nw.Has.old hne hu hv hh
 exact ⟨⟨hL,fun j hj=>Nw.link_pos hne (h.pos j hj),fun j hj=>hold _ _ (h.thru j hj),fun a b hab hh=>hold _ _ (h.edge a b hab hh),fun j hj hh=>hold _ _ (h.first j hj hh),fun j hj hh=>hold _ _ (h.last j hj hh)⟩,Nw.Has.new hne hu hv,hold⟩
theorem f30_edges (hN:Nod n E) (hn:n≤12) (hm:0≤most) {W0:Nw} {r0:Nat→Nat→Int} (h0:LayK n E A B wt most n 0 W0 r0) {R:Type} {Q:R→Prop}
  {kx:Int→Int→List (List ArcD)→Option R}
  (hk:∀ W r c,c≤400→LayK n E A B wt most c n W r→Yld (kx ((2*n:Nat):Int) ((2*n+1:Nat):Int) (W.enc r)) Q) :
  Yld (iter (fun z=>f30_L19 10000000000000000 most (nx n E) (n:Int) (mkL n B) (mkL n A) z kx) 10000000000000000 (0,((2*n:Nat):Int),((2*n+1:Nat):Int),W0.enc r0)) Q:=by
 refine Yld.up (fun k (s:Int×Int×List (List ArcD))=>∃ (W:Nw) (r:Nat→Nat→Int) (c:Nat),s=(((2*n:Nat):Int),((2*n+1:Nat):Int),W.enc r)∧c≤12+14*k∧LayK n E A B wt most c k W r) n ?_ ?_ 10000000000000000 0 (Nat.zero_le _) (by omega) _ ⟨W0,r0,n,rfl,by omega,h0⟩
 ·rintro k s z hkn ⟨W,r,c,rfl,hc,hL⟩ hz
  unfold f30_L19
  dsimp only
  rw [d_true (show (k:Int) < (n:Int) by omega),wi64_nat (k:=k) (by omega),show idx (nx n E) (k:Int)=some (il (suc n E k)) from nx_get hkn]
  rw [cond_true,Option.bind_some]
  have hsl:=suc_len n E k
  refine Yld.up (fun i (s:Int×Int×List (List ArcD))=>∃ (W:Nw) (r:Nat→Nat→Int) (c:Nat),s=(((2*n:Nat):Int),((2*n+1:Nat):Int),W.enc r)∧c≤12+14*k+i∧LayK n E A B wt most c k W r∧∀ b∈(suc n E k).take i,b≠k→W.Has (2*k+1) (2*b)) (suc n E k).length ?_ ?_ 10000000000000000 0 (Nat.zero_le _) (by omega) _ ⟨W,r,c,rfl,by omega,hL,fun b hb=>by simp at hb⟩
  ·rintro i s z2 hi ⟨W,r,c,rfl,hc,hL,hH⟩ hz2
   simp only [f30_L22]
   rw [d_true (show (i:Int) < len (il (suc n E k)) by rw [len_eq,il_len];omega),wi64_nat (k:=i) (by omega),il_idx hi]
   simp only [cond_true,Option.bind_some]
   have hmem:=mem_suc.1 (List.getElem_mem hi)
   have htk:=take_succ hi
   generalize hb:(suc n E k)[i]=b at hmem htk
   by_cases e:b=k
   ·rw [d_true (show ((b:Nat):Int)=(k:Int) by omega),Bool.not_true,cond_false]
    refine hz2 _ ⟨W,r,c,rfl,by omega,hL,fun x hx hxk=>?_⟩
    rw [htk] at hx
    rcases List.mem_append.1 hx with hx | hx
    ·exact hH x hx hxk
    ·rw [List.mem_singleton] at hx;subst hx;exact absurd e hxk
   ·rw [d_false (show ¬ ((b:Nat):Int)=(k:Int) by omega),Bool.not_false,cond_true]
    simp only [(wi2 (k:=k) (by omega)).1,(wi2 (k:=k) (by omega)).2,(wi2 (k:=b) (by omega)).1]
    have ha:ArcF n E (mks A) (mks B) (2*k+1) (2*b):=.edge k b hkn hmem.1 (Ne.symm e) hmem.2
    have hs:=hL.lay.small
    have hWN:=hL.lay.N
    rw [f46_eq most (by omega) (by omega) (by omega) (by have:=hs (2*k+1);omega) (by have:=hs (2*b);omega)]
    simp only [Option.bind_some]
    obtain ⟨g1,g2,g3⟩:=hL.link hm ha fun j _=>by omega
    refine hz2 _ ⟨_,_,_,rfl,by omega,g1,fun x hx hxk=>?_⟩
    rw [htk] at hx
    rcases List.mem_append.1 hx with hx | hx
    ·exact g3 _ _ (hH x hx hxk)
    ·rw [List.mem_singleton] at hx;subst hx;exact g2
  ·rintro s z2 ⟨W,r,c,rfl,hc,hL,hH⟩
   simp only [f30_L22]
   rw [d_false (show ¬ (((suc n E k).length:Nat):Int) < len (il (suc n E k)) by rw [len_eq,il_len];omega)]
   rw [List.take_length] at hH
   rw [cond_false,chk_true (mk_inb A hkn),mk_get A hkn]
   simp only [Option.bind_some]
   have fin:∀ (W:Nw) (r:Nat→Nat→Int) (c:Nat),c≤26+14*k→LayK n E A B wt most c k W r→(∀ b∈suc n E k,b≠k→W.Has (2*k+1) (2*b))→(mks A k=true→W.Has (2*n) (2*k))→(mks B k=true→W.Has (2*k+1) (2*n+1))→LayK n E A B wt most c (k+1) W r:=by
    intro W r c hc hL hH hF hB
    refine ⟨hL.lay,hL.pos,hL.thru,fun a b hab hh=>?_,fun j hj hh=>?_,fun j hj hh=>?_⟩
    ·by_cases e:a=k
     ·subst e
      generalize hu:2*a+1=u at hh
      generalize hv:2*b=v at hh
      cases hh with
      | thru j _=>omega
      | edge x y h1 h2 h3 h4=>
       have e1:x=a:=by omega
       have e2:y=b:=by omega
       subst e1;subst e2
       rw [←hu]
       exact hH y (mem_suc.2 ⟨h2,h4⟩) (Ne.symm h3)
      | first j _ _=>omega
      | last j _ _=>omega
     ·exact hL.edge a b (by omega) hh
    ·by_cases e:j=k
     ·subst e
      refine hF ?_
      generalize hu:2*n=u at hh
      generalize hv:2*j=v at hh
      cases hh with
      | thru i _=>omega
      | edge x y _ _ _ _=>omega
      | first i _ h2=>
       have:i=j:=by omega
       subst this;exact h2
      | last i _ _=>omega
     ·exact hL.first j (by omega) hh
    ·by_cases e:j=k
     ·subst e
      refine hB ?_
      generalize hu:2*j+1=u at hh
      generalize hv:2*n+1=v at hh
      cases hh with
      | thru i _=>omega
      | edge x y _ _ _ _=>omega
      | first i _ h2=>omega
      | last i _ h2=>
       have:i=j:=by omega
       subst this;exact h2
     ·exact hL.last j (by omega) hh
   have ask:∀ (W:Nw) (r:Nat→Nat→Int) (c:Nat) (z3:Int×Int×Int×List (List ArcD)→Option R) ,c≤25+14*k→LayK n E A B wt most c k W r→(∀ b∈suc n E k,b≠k→W.Has (2*k+1) (2*b))→(mks A k=true→W.Has (2*n) (2*k))→
     (∀ W r c,c≤26+14*k→LayK n E A B wt most c (k+1) W r→Yld (z3 ((k:Int)+1,((2*n:Nat):Int),((2*n+1:Nat):Int),W.enc r)) Q)→
     Yld (chk (inb (mkL n B) (k:Int)) ((idx (mkL n B) (k:Int)).bind fun x_9=>cond x_9 ((f46 10000000000000000 ((2*k+1:Nat):Int) ((2*n+1:Nat):Int) most ((2*n:Nat):Int) ((2*n+1:Nat):Int) (W.enc r)).bind fun r_7=>z3 ((k:Int)+1,r_7.2.1.2.1,r_7.2.1.2.2.1,r_7.2.2.1)) (z3 ((k:Int)+1,((2*n:Nat):Int),((2*n+1:Nat):Int),W.enc r)))) Q:=by
    intro W r c z3 hc hL hH hF hz3
    rw [chk_true (mk_inb B hkn),mk_get B hkn]
    simp only [Option.bind_some]
    refine Yld.cond (fun hb=>?_) fun hb=>?_
    ·have ha:ArcF n E (mks A) (mks B) (2*k+1) (2*n+1):=.last k hkn hb
     have hs:=hL.lay.small
     have hWN:=hL.lay.N
     rw [f46_eq most (by omega) (by omega) (by omega) (by have:=hs (2*k+1);omega) (by have:=hs (2*n+1);omega)]
     simp only [Option.bind_some]
     obtain ⟨g1,g2,g3⟩:=hL.link hm ha fun j _=>by omega
     exact hz3 _ _ _ (by omega) (fin _ _ (c+1) (by omega) g1 (fun b hb hbk=>g3 _ _ (hH b hb hbk)) (fun h=>g3 _ _ (hF h)) fun _=>g2)
    ·exact hz3 _ _ _ (by omega) (fin W r c (by omega) hL hH hF fun h=>by rw [hb] at h;cases h)
   have hs:=hL.lay.small
   have hWN:=hL.lay.N
   simp only [(wi2 (k:=k) (by omega)).1,(wi2 (k:=k) (by omega)).2]
   refine Yld.cond (fun ha=>?_) fun ha=>?_
   ·have hA:ArcF n E (mks A) (mks B) (2*n) (2*k):=.first k hkn ha
    rw [f46_eq most (by omega) (by omega) (by omega) (by have:=hs (2*n);omega) (by have:=hs (2*k);omega)]
    simp only [Option.bind_some]
    obtain ⟨g1,g2,g3⟩:=hL.link hm hA fun j _=>by omega
    exact ask _ _ (c+1) z (by omega) g1 (fun b hb hbk=>g3 _ _ (hH b hb hbk)) (fun _=>g2) fun W r c hc hL=>hz _ ⟨W,r,c,rfl,by omega,hL⟩
   ·exact ask W r c z (by omega) hL hH (fun h=>by rw [ha] at h;cases h) fun W r c hc hL=>hz _ ⟨W,r,c,rfl,by omega,hL⟩
 ·rintro s z ⟨W,r,c,rfl,hc,hL⟩
  simp only [f30_L19]
  rw [d_false (show ¬ ((n:Nat):Int) < (n:Int) by omega)]
  exact hk W r c (by omega) hL
theorem f30_ok {w:List Int} (hN:Nod n E) (hn:n≤12) (hw:w.length=n) (hw2:∀ x∈w,x≤1048576) (hA:Sub n A) (hAl:A.length≤100) (hB:Sub n B) (hBl:B.length≤100) :
  Yld (f30 10000000000000000 (nx n E) w (il A) (il B)) fun x=>∃ W r,x=(((),(mostW w,())),(((),(((2*n:Nat):Int),(((2*n+1:Nat):Int),()))),(W.enc r,())))∧Lay n E (mks A) (mks B) W∧Flw n (capC (fun k=>w.getD k 0) (mostW w)) (mostW w) W r∧W.out (ldF n) r (2*n)=0:=by
 have hm:=mostW_le (by omega) hw2
 have e1:w=(List.range n).map fun k=>w.getD k 0:=by
  apply List.ext_getElem?
  intro i
  by_cases hi:i < n
  ·rw [map_range_get _ hi,List.getD_eq_getElem?_getD,List.getElem?_eq_getElem (by omega)];rfl
  ·rw [List.getElem?_eq_none (by omega),List.getElem?_eq_none (by simp;omega)]
 unfold f30
 rw [show len (nx n E)=(n:Int) from by rw [len_eq,nx_len]]
 rw [(wi2 (k:=n) (by omega)).1,(wi2 (k:=n) (by omega)).2,wi64_of (n:=((2*n:Nat):Int)+2) (by omega) (by omega),show ((2*n:Nat):Int)+2=((2*n+2:Nat):Int) from by omega,ckn (by omega),Int.toNat_natCast]
 have e2:(List.replicate (2*n+2) ([]:List ArcD))=(⟨2*n+2,fun _=>0,fun _ _=>0,fun _ _=>0⟩:Nw).enc (fun _ _=>0):=by
  apply List.ext_getElem?
  intro i
  by_cases hi:i < 2*n+2
  ·rw [show ((⟨2*n+2,fun _=>0,fun _ _=>0,fun _ _=>0⟩:Nw).enc (fun _ _=>0))[i]? = some [] from map_range_get _ hi,List.getElem?_replicate_of_lt hi]
  ·rw [List.getElem?_eq_none (by simp;omega),List.getElem?_eq_none (by rw [Nw.enc_len];show 2*n+2≤i;omega)]
 rw [e2]
 refine f30_most hw2 (by omega) _ _ _ _ _ _ _ _ ?_
 have e22:f22 10000000000000000 w=some w:=by unfold f22;rw [ck0 (by omega)]
 rw [e22]
 simp only [Option.bind_some]
 suffices h:Yld (iter (fun z=>f30_L11 10000000000000000 (mostW w) (nx n E) (n:Int) (il B) (il A) (n:Int) z (fun o0'_1 o0''_1 o1_1=>
     (f41 10000000000000000 (n:Int) (il A)).bind fun r_3=>
     (f41 10000000000000000 (n:Int) (il B)).bind fun r_4=>
     iter (fun z=>f30_L19 10000000000000000 (mostW w) (nx n E) (n:Int) r_4 r_3 z
      (fun o0'_5 o0''_5 o1_5=>
       some (((),(mostW w,())),(((),(o0'_5,(o0''_5,()))),(o1_5,()))))) 10000000000000000 (0,o0'_1,o0''_1,o1_1))) 10000000000000000 (0,(List.range n).map (fun k=>w.getD k 0),((2*n:Nat):Int),((2*n+1:Nat):Int),(⟨2*n+2,fun _=>0,fun _ _=>0,fun _ _=>0⟩:Nw).enc (fun _ _=>0))) (fun x=>∃ W r,x=(((),(mostW w,())),(((),(((2*n:Nat):Int),(((2*n+1:Nat):Int),()))),(W.enc r,())))∧Lay n E (mks A) (mks B) W∧Flw n (capC (fun k=>w.getD k 0) (mostW w)) (mostW w) W r∧W.out (ldF n) r (2*n)=0) by
  rw [←e1] at h;exact h
 refine f30_nodes (E:=E) (F:=mks A) (T:=mks B) (by omega) (by omega) (LayI.start n E (mks A) (mks B) _ _) (fun _ _=>rfl) _ _ _ _ ?_
 intro W r hL hH
 rw [f41_eq (by omega) hA (by omega)]
 rw [Option.bind_some,f41_eq (by omega) hB (by omega)]
 rw [Option.bind_some]
 refine f30_edges hN hn (by omega) ⟨hL,fun j hj=>(hH j hj).1,fun j hj=>(hH j hj).2,fun a b ha=>by omega,fun j hj=>by omega,fun j hj=>by omega⟩ ?_
 intro W r c hc hK
 have hd:=hK.lay.done hc hK.pos fun x y ha=>by
  have ha':=ha
  cases ha with
  | thru k hk=>exact hK.thru k hk
  | edge a b h1 h2 h3 h4=>exact hK.edge a b h1 ha'
  | first k hk _=>exact hK.first k hk ha'
  | last k hk _=>exact hK.last k hk ha'
 exact Yld.ret ⟨W,r,rfl,hd.1,hd.2,hK.lay.out0⟩
end
end Go.Kz
