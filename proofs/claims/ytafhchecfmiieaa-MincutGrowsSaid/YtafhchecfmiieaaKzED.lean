/-
  Layer 07, plain: paths, weights of cuts, flows that are carried: the laws Checks and Rivals.
-/
import Derived.Test.YtafhchecfmiieaaKzEC
set_option linter.unusedVariables false
set_option linter.unusedSimpArgs false
namespace Go.Kz
theorem wk_iff {E:List (Nat×Nat)}:{q:List Nat}→(wk E q↔∀ i a b,q[i]? = some a→q[i+1]? = some b→(a,b)∈E)
 | []=>by simp [wk]
 | [x]=>by simp [wk]
 | x :: y :: l=>by
  simp only [wk]
  rw [wk_iff (q:=y :: l)]
  constructor
  ·rintro ⟨h1,h2⟩ i a b ha hb
   cases i with
   | zero=>simp at ha hb;subst ha;subst hb;exact h1
   | succ i=>exact h2 i a b (by simpa using ha) (by simpa using hb)
  ·intro h
   exact ⟨h 0 x y (by simp) (by simp),fun i a b ha hb=>h (i+1) a b (by simpa using ha) (by simpa using hb)⟩
theorem head_get {q:List Nat} (h:q≠[]):q[0]? = some (q.head h):=by
 cases q with
 | nil=>exact absurd rfl h
 | cons x l=>rfl
theorem last_get {q:List Nat} (h:q≠[]):q[q.length-1]? = some (q.getLast h):=by rw [←List.getLast?_eq_getElem?,List.getLast?_eq_some_getLast h]
theorem IsP.meets {n:Nat} {E:List (Nat×Nat)} {F T K:Nat→Bool} {q:List Nat} (h:IsP n E F T q) (hS:Sep E F T K):∃ c∈q,K c=true:=by
 apply Classical.byContradiction
 intro hno
 have hall:∀ c∈q,K c=false:=fun c hc=>by
  cases hk:K c
  ·rfl
  ·exact absurd ⟨c,hc,hk⟩ hno
 have hw:=wk_iff.1 h.walk
 have key:∀ (i a:Nat),q[i]? = some a→Rch E F K a:=by
  intro i
  induction i with
  | zero=>
   intro a ha
   have e:=head_get h.ne
   rw [ha] at e
   have e:a=q.head h.ne:=by simpa using e
   subst e
   exact .base _ (h.first h.ne) (hall _ (List.head_mem h.ne))
  | succ i ih=>
   intro a ha
   have hl:i < q.length:=by have:=(List.getElem?_eq_some_iff.1 ha).1;omega
   have hg:q[i]? = some q[i]:=List.getElem?_eq_getElem hl
   exact Rch.step _ a (ih _ hg) (hw i _ a hg ha) (hall a (List.mem_of_getElem? ha))
 have:=hS _ (key _ _ (last_get h.ne))
 rw [h.last h.ne] at this
 cases this
structure CutC (n:Nat) (w:List Int) (K:List Int) (C:List Nat):Prop where
 eq:K=il C
 asc:C.Pairwise (· < ·)
 ok:∀ c∈C,c < n∧0≤w.getD c 0
theorem getD_idx {w:List Int} {v n:Nat} (hw:w.length=n) (hv:v < n):idx w (v:Int)=some (w.getD v 0):=by
 rw [idx_nat,List.getD_eq_getElem?_getD,List.getElem?_eq_getElem (by omega)];rfl
theorem getD_le {w:List Int} {B:Int} (hB:0≤B) (h:∀ x∈w,x≤B) (v:Nat):w.getD v 0≤B:=by
 rw [List.getD_eq_getElem?_getD]
 cases e:w[v]? with
 | none=>exact hB
 | some x=>exact h x (List.mem_of_getElem? e)
def sumC (w:List Int) (C:List Nat):Int:=lsm (fun c=>w.getD c 0) C
theorem sumC_le {w:List Int} {B:Int} (hB:0≤B) (h:∀ x∈w,x≤B) (C:List Nat):sumC w C≤B*C.length:=by
 have h1:=lsm_le (f:=fun c=>w.getD c 0) (g:=fun _=>B) (l:=C) fun x _=>getD_le hB h x
 rw [lsm_const] at h1
 exact h1
theorem CutC.take {n:Nat} {w K:List Int} {C:List Nat} (h:CutC n w K C) (k:Nat):CutC n w (K.take k) (C.take k):=
 ⟨by rw [h.eq,il_take],h.asc.sublist (List.take_sublist _ _),fun c hc=>h.ok c (List.mem_of_mem_take hc)⟩
section
variable {n:Nat} {E:List (Nat×Nat)} {A B:List Nat} {w:List Int}
end
end Go.Kz
