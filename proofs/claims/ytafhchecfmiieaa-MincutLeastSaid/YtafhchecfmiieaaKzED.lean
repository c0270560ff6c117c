/-
  Layer 07, plain: paths, weights of cuts, flows that are carried: the laws Checks and Rivals.
-/
import Derived.Test.YtafhchecfmiieaaKzEC
set_option linter.unusedVariables false
set_option linter.unusedSimpArgs false
namespace Go.Kz
theorem il_inj {l m:List Nat} (h:il l=il m):l=m:=by
 have e:∀ q:List Nat,(il q).map Int.toNat=q:=fun q=>by
  unfold il
  rw [List.map_map]
  conv=>rhs;rw [←List.map_id q]
  exact List.map_congr_left fun x _=>rfl
 rw [←e l,h,e]
theorem wk_iff {E:List (Nat×Nat)}:{q:List Nat}→(wk E q↔∀ i a b,q[i]? = some a→q[i+1]? = some b→(a,b)∈E)
 | []=>by simp [wk]
 | [x]=>by simp [wk]
 | x :: y :: l=>by
  simp only [wk]
  rw [wk_iff (q:=y :: l)]
  constructor
  ·rintro ⟨h1,h2⟩ i a b ha hb
   cases i with
   | zero=>simp at ha hb;subst ha;subst hb;exact h1
   | succ i=>exact h2 i a b (by simpa using ha) (by simpa using hb)
  ·intro h
   exact ⟨h 0 x y (by simp) (by simp),fun i a b ha hb=>h (i+1) a b (by simpa using ha) (by simpa using hb)⟩
theorem head_get {q:List Nat} (h:q≠[]):q[0]? = some (q.head h):=by
 cases q with
 | nil=>exact absurd rfl h
 | cons x l=>rfl
theorem last_get {q:List Nat} (h:q≠[]):q[q.length-1]? = some (q.getLast h):=by rw [←List.getLast?_eq_getElem?,List.getLast?_eq_some_getLast h]
theorem IsP.meets {n:Nat} {E:List (Nat×Nat)} {F T K:Nat→Bool} {q:List Nat} (h:IsP n E F T q) (hS:Sep E F T K):∃ c∈q,K c=true:=by
 apply Classical.byContradiction
 intro hno
 have hall:∀ c∈q,K c=false:=fun c hc=>by
  cases hk:K c
  ·rfl
  ·exact absurd ⟨c,hc,hk⟩ hno
 have hw:=wk_iff.1 h.walk
 have key:∀ (i a:Nat),q[i]? = some a→Rch E F K a:=by
  intro i
  induction i with
  | zero=>
   intro a ha
   have e:=head_get h.ne
   rw [ha] at e
   have e:a=q.head h.ne:=by simpa using e
   subst e
   exact .base _ (h.first h.ne) (hall _ (List.head_mem h.ne))
  | succ i ih=>
   intro a ha
   have hl:i < q.length:=by have:=(List.getElem?_eq_some_iff.1 ha).1;omega
   have hg:q[i]? = some q[i]:=List.getElem?_eq_getElem hl
   exact Rch.step _ a (ih _ hg) (hw i _ a hg ha) (hall a (List.mem_of_getElem? ha))
 have:=hS _ (key _ _ (last_get h.ne))
 rw [h.last h.ne] at this
 cases this
structure CutC (n:Nat) (w:List Int) (K:List Int) (C:List Nat):Prop where
 eq:K=il C
 asc:C.Pairwise (· < ·)
 ok:∀ c∈C,c < n∧0≤w.getD c 0
theorem getD_idx {w:List Int} {v n:Nat} (hw:w.length=n) (hv:v < n):idx w (v:Int)=some (w.getD v 0):=by
 rw [idx_nat,List.getD_eq_getElem?_getD,List.getElem?_eq_getElem (by omega)];rfl
theorem getD_le {w:List Int} {B:Int} (hB:0≤B) (h:∀ x∈w,x≤B) (v:Nat):w.getD v 0≤B:=by
 rw [List.getD_eq_getElem?_getD]
 cases e:w[v]? with
 | none=>exact hB
 | some x=>exact h x (List.mem_of_getElem? e)
def sumC (w:List Int) (C:List Nat):Int:=lsm (fun c=>w.getD c 0) C
theorem sumC_le {w:List Int} {B:Int} (hB:0≤B) (h:∀ x∈w,x≤B) (C:List Nat):sumC w C≤B*C.length:=by
 have h1:=lsm_le (f:=fun c=>w.getD c 0) (g:=fun _=>B) (l:=C) fun x _=>getD_le hB h x
 rw [lsm_const] at h1
 exact h1
theorem asc_prev {C:List Nat} {x:Nat} (h:(C++[x]).Pairwise (· < ·)) {y:Nat} (hy:C[C.length-1]? = some y):y < x:=(List.pairwise_append.1 h).2.2 y (List.mem_of_getElem? hy) x (by simp)
theorem asc_snoc {C:List Nat} {x:Nat} (h:C.Pairwise (· < ·)) (hx:∀ y,C[C.length-1]? = some y→y < x):(C++[x]).Pairwise (· < ·):=by
 refine List.pairwise_append.2 ⟨h,List.pairwise_singleton _ _,fun a ha b hb=>?_⟩
 rw [List.mem_singleton] at hb
 subst hb
 obtain ⟨i,hi,rfl⟩:=List.mem_iff_getElem.1 ha
 have hl:=hx C[C.length-1] (List.getElem?_eq_getElem (by omega))
 by_cases e:i=C.length-1
 ·subst e;exact hl
 ·have:=List.pairwise_iff_getElem.1 h i (C.length-1) hi (by omega) (by omega)
  omega
theorem CutC.take {n:Nat} {w K:List Int} {C:List Nat} (h:CutC n w K C) (k:Nat):CutC n w (K.take k) (C.take k):=
 ⟨by rw [h.eq,il_take],h.asc.sublist (List.take_sublist _ _),fun c hc=>h.ok c (List.mem_of_mem_take hc)⟩
theorem CutC.snoc {n:Nat} {w K:List Int} {C:List Nat} {x:Int} (h:CutC n w K C):(∃ D,CutC n w (K++[x]) D)↔(0≤x∧x < n∧(∀ y,K[K.length-1]? = some y→y < x)∧0≤w.getD x.toNat 0):=by
 have hKl:K.length=C.length:=by rw [h.eq,il_len]
 constructor
 ·rintro ⟨D,hD⟩
  have e:D=C++[x.toNat]∧x=(x.toNat:Int):=by
   have h1:=hD.eq
   rw [h.eq] at h1
   have h2:x∈il D:=by rw [←h1];simp
   obtain ⟨y,hy,e⟩:=List.mem_map.1 h2
   have e2:x=(x.toNat:Int):=by omega
   refine ⟨il_inj ?_,e2⟩
   rw [←h1,e2,il_app];rfl
  obtain ⟨e,e2⟩:=e
  subst e
  obtain ⟨o1,o2⟩:=hD.ok x.toNat (by simp)
  refine ⟨by omega,by omega,fun y hy=>?_,o2⟩
  rw [h.eq,il_len] at hy
  unfold il at hy
  rw [List.getElem?_map] at hy
  cases hc:C[C.length-1]? with
  | none=>rw [hc] at hy;cases hy
  | some z=>
   rw [hc] at hy
   have e3:(z:Int)=y:=by simpa using hy
   have:=asc_prev hD.asc hc
   omega
 ·rintro ⟨h1,h2,h3,h4⟩
  refine ⟨C++[x.toNat],by rw [h.eq,←il_app];congr 2;omega,asc_snoc h.asc fun y hy=>?_,fun c hc=>?_⟩
  ·have:=h3 (y:Int) (by rw [h.eq,il_len];unfold il;rw [List.getElem?_map,hy];rfl)
   omega
  ·rcases List.mem_append.1 hc with hc | hc
   ·exact h.ok c hc
   ·rw [List.mem_singleton] at hc;subst hc;exact ⟨by omega,h4⟩
theorem prev_ok {K:List Int} {k:Nat} (hk:k < K.length):(∀ y,(K.take k)[(K.take k).length-1]? = some y→y < K[k])↔(k=0∨∃ h:k-1 < K.length,K[k-1] < K[k]):=by
 have hl:(K.take k).length=k:=by rw [List.length_take];omega
 rw [hl]
 constructor
 ·intro h
  by_cases e:k=0
  ·exact .inl e
  ·refine .inr ⟨by omega,h _ ?_⟩
   rw [List.getElem?_take,if_pos (by omega),List.getElem?_eq_getElem (by omega)]
 ·rintro (rfl | ⟨h1,h2⟩) y hy
  ·simp at hy
  ·by_cases e:k=0
   ·subst e;simp at hy
   ·rw [List.getElem?_take,if_pos (by omega),List.getElem?_eq_getElem (by omega)] at hy
    have:K[k-1]=y:=by simpa using hy
    omega
section
variable {n:Nat} {E:List (Nat×Nat)} {A B:List Nat} {w:List Int}
theorem f15_ok (hn:n≤100) (hw:w.length=n) (hw2:∀ x∈w,x≤1048576) {K:List Int} (hK:K.length≤100) :
  Yld (f15 10000000000000000 w K) fun x=>(∃ C,CutC n w K C∧x=(sumC w C,true))∨(x=(0,false)∧¬ ∃ C,CutC n w K C):=by
 unfold f15
 refine Yld.up (fun k (t:Int)=>∃ C,CutC n w (K.take k) C∧t=sumC w C) K.length ?_ ?_ 10000000000000000 0 (Nat.zero_le _) (by omega) _ ⟨[],⟨by simp [il],List.Pairwise.nil,by simp⟩,rfl⟩
 ·rintro k t z hk ⟨C,hC,rfl⟩ hz
  have hCl:C.length=k:=by have:=congrArg List.length hC.eq;rw [il_len,List.length_take] at this;omega
  simp only [f15_L3]
  rw [dlt_len hk,wi64_nat (k:=k) (by omega),idx_lt hk]
  have hs:=hC.snoc (x:=K[k])
  rw [←take_succ hk,prev_ok hk] at hs
  have bad:¬ (∃ D,CutC n w (K.take (k+1)) D)→¬ ∃ D,CutC n w K D:=fun h ⟨D,hD⟩=>h ⟨_,hD.take (k+1)⟩
  have hK1:(cond (decide (0 < (k:Int))) ((idx K (k:Int)).bind fun x_2=>(idx K (wi64 ((k:Int)-1))).bind fun x_3=>some (decide (x_2≤x_3))) (some false))=some (!decide (k=0∨∃ h:k-1 < K.length,K[k-1] < K[k])):=by
   by_cases e:k=0
   ·subst e;simp
   ·rw [d_true (show 0 < (k:Int) by omega),cond_true,idx_lt hk,wi64_pred (by omega) (by omega),idx_lt (show k-1 < K.length by omega)]
    simp only [Option.bind_some]
    rw [←decide_not,decide_eq_decide.2 (show K[k]≤K[k-1]↔¬ (k=0∨∃ h:k-1 < K.length,K[k-1] < K[k]) from ⟨fun h=>by
     rintro (h1 | ⟨_,h1⟩)
     ·exact e h1
     ·omega,fun h=>by
     apply Int.not_lt.1
     intro h1
     exact h (.inr ⟨by omega,h1⟩)⟩)]
  rw [idx_lt hk] at hK1
  rw [hK1]
  simp only [cond_true,Option.bind_some]
  rw [bindc,bindc]
  rw [len_eq,hw]
  by_cases c1:(decide (K[k] < 0) || decide ((n:Int)≤K[k]) || !decide (k=0∨∃ h:k-1 < K.length,K[k-1] < K[k]))=true
  ·rw [c1,cond_true]
   simp only [Option.bind_some,cond_true]
   refine Yld.ret (.inr ⟨rfl,bad fun h=>?_⟩)
   obtain ⟨g1,g2,g3,g4⟩:=hs.1 h
   simp only [Bool.or_eq_true,decide_eq_true_eq,Bool.not_eq_true',decide_eq_false_iff_not] at c1
   rcases c1 with (c1 | c1) | c1
   ·omega
   ·omega
   ·exact c1 g3
  ·have c1':=Bool.eq_false_iff.2 c1
   rw [c1',cond_false]
   simp only [Bool.or_eq_false_iff,decide_eq_false_iff_not,Bool.not_eq_false',decide_eq_true_eq] at c1'
   obtain ⟨⟨c2,c3⟩,c4⟩:=c1'
   have e1:K[k]=((K[k].toNat:Nat):Int):=by omega
   have hi:idx w K[k]=some (w.getD K[k].toNat 0):=by rw [e1,getD_idx hw (by omega)];rfl
   rw [hi]
   simp only [Option.bind_some]
   refine Yld.cond (fun h4=>?_) fun h4=>?_
   ·rw [decide_eq_true_eq] at h4
    refine Yld.ret (.inr ⟨rfl,bad fun h=>?_⟩)
    have:=(hs.1 h).2.2.2
    omega
   ·rw [decide_eq_false_iff_not] at h4
    have hC':CutC n w (K.take (k+1)) (C++[K[k].toNat]):=by
     obtain ⟨D,hD⟩:=hs.2 ⟨by omega,by omega,c4,by omega⟩
     have:D=C++[K[k].toNat]:=by
      refine il_inj ?_
      rw [←hD.eq,take_succ hk,hC.eq,←il_app,←e1]
     exact this ▸ hD
    have hb:sumC w (C++[K[k].toNat])=sumC w C+w.getD K[k].toNat 0:=by unfold sumC;rw [lsm_app];simp [lsm]
    have hle:=sumC_le (by omega) hw2 (C++[K[k].toNat])
    have hle0:0≤sumC w (C++[K[k].toNat]):=lsm_nonneg fun c hc=>(hC'.ok c hc).2
    rw [List.length_append,List.length_singleton] at hle
    rw [←hb,wi64_of (by omega) (by omega)]
    exact hz _ ⟨_,hC',rfl⟩
 ·rintro t z ⟨C,hC,rfl⟩
  simp only [f15_L3]
  rw [dnlt_len,cond_false]
  rw [List.take_length] at hC
  exact Yld.ret (.inl ⟨C,hC,rfl⟩)
end
end Go.Kz
