/-
  The layer adaptive: questions chosen in advance, by the model; the law Fixed.
-/
import Derived.Test.YtnjfafnflbackaaKzFO
set_option linter.unusedVariables false
set_option linter.unusedSimpArgs false
namespace Go.Kz
theorem zs6 {m:z1o} {n:Nat} (hm:MenuP m n) (qs:List Int) {i j:Nat} (hi:i < n) (hj:j < n):(z1i m qs)[i]? = (z1i m qs)[j]?↔zkv m qs i=zkv m qs j:=by
 have hl:=(z58 hm qs).len;have:=zgl hm qs hi hj;rw [List.getD_eq_getElem?_getD,List.getD_eq_getElem?_getD,List.getElem?_eq_getElem (by omega),List.getElem?_eq_getElem (by omega)] at this;rw [List.getElem?_eq_getElem (by omega),List.getElem?_eq_getElem (by omega),zI];exact this
theorem zua {m:z1o} {n:Nat} (hm:MenuP m n) (qs:List Int) {q:Int} (h0:0≤q) (h1:q < (m.2.1.length:Int)):IsMeet n (z1i m qs) (z3d m q) (z1i m (qs++[q])):=by
 have hv:=z58 hm (qs++[q]);have hq:q.toNat < m.2.1.length:=by omega
 obtain ⟨e1,hw⟩:=hm.at hq;have hwl:=hw.len;have hvi:z3d m q=z0d m q.toNat:=rfl;refine ⟨hv.ok,hv.len,fun i j hi hj=>?_⟩;rw [zs6 hm _ hi hj,zgj,zgj];unfold zyt;rw [zs6 hm _ hi hj,hvi];have e2:(z0d m q.toNat)[i]? = some ((z0d m q.toNat).getD i 0):=by rw [List.getD_eq_getElem?_getD,List.getElem?_eq_getElem (by omega)];rfl
 have e3:(z0d m q.toNat)[j]? = some ((z0d m q.toNat).getD j 0):=by rw [List.getD_eq_getElem?_getD,List.getElem?_eq_getElem (by omega)];rfl
 rw [e2,e3,zI];constructor
 ·intro h;have h1:=List.append_inj h (by simp [zkv]);exact ⟨h1.1,by simpa using h1.2⟩
 ·rintro ⟨a,b⟩;rw [a,b]
theorem zwo (m:z1o):List.replicate m.1.toNat (0:Int)=z1i m []:=by
 have h1:ofL (List.replicate m.1.toNat (0:Int))=List.replicate m.1.toNat 0:=(zdb _).2 (zd9 _ 0 (by omega));rw [←h1];refine zg3 (by simp) ?_;intro i j hi hj;simp [zkv]
theorem f57_eq (N:Nat) (hN:5000 < N) {m:z1o} {n:Nat} (hm:MenuP m n) {qs:List Int} (hl:qs.length≤300) (hq:qs.all (z7z m)=true):f57 N m qs=some (z1i m qs):=by
 have hn:=hm.few;have hs:=hm.secrets;unfold f57;rw [z0k (by rw [show ((z3i:Nat):Int)=4294967296 from rfl];simp;omega)];refine z1w (fun k o=>o=z1i m (qs.take k)) qs.length ?_ ?_ N (by omega) _ ?_
 ·intro k o w hk ho hw;subst ho;have hqk:=List.all_eq_true.1 hq _ (List.getElem_mem hk);simp only [z7z,zA,decide_eq_true_eq] at hqk;have hqn:qs[k].toNat < m.2.1.length:=by omega
  obtain ⟨e1,hv⟩:=hm.at hqn;have hvl:=hv.len;have hj:=z58 hm (qs.take k);have hjl:=hj.len;have hidx:idx m.2.1 qs[k]=some (z3d m qs[k]):=by
   have:qs[k]=(qs[k].toNat:Int):=by omega
   conv=>lhs;rw [this]
   rw [z0s hqn,e1];rfl
  simp only [znl];rw [z1g hk,cond_true,z0s hk];simp only [Option.bind_some];rw [hidx];simp only [Option.bind_some];obtain ⟨mm,h84,hmm⟩:=f84_eq N (z1i m (qs.take k)) (z3d m qs[k]) (by omega) (by omega) (by rw [hjl];exact hvl) hj.ok hv.ok;rw [h84];simp only [Option.bind_some];rw [z09 (by omega) (by omega)];refine hw _ ?_;rw [hjl] at hmm;rw [z1s hk];exact IsMeet.unique hmm (zua hm _ hqk.1 hqk.2)
 ·intro o w ho;subst ho;simp only [znl];rw [z11,cond_false,List.take_length]
 ·rw [zwo];rfl
def lexC:List Int->List Int->Int
 | [],[]=>0
 | [],_ :: _=>-1
 | _ :: _,[]=>1
 | x :: a,y :: b=>if cmpI x y=0 then lexC a b else cmpI x y
def preB (a b:List Int):Bool:=decide (a.length < b.length) || (decide (a.length=b.length) && decide (lexC a b < 0))
def bitsL (nv mask:Nat):List Int:=((List.range nv).filter mask.testBit).map fun (q:Nat)=>(q:Int)
def zj3 (nv:Nat):List (List Int):=(List.range (2 ^ nv)).map (bitsL nv)
theorem zvg (V:List Int->Int) (hV:∀ a,0≤V a):(P:List (List Int))->P≠[]->∃ i,∃ h:i < P.length,zio V (-1,[]) P=(V P[i],P[i])∧∀ j (hj:j < P.length),V P[j]≤V P[i]∧(j < i->V P[j] < V P[i]):=by
 intro P
 induction P using zb0 with
 | h0=>intro h;exact absurd rfl h
 | h1 P x ih=>
  intro _;by_cases hP:P=[]
  ·subst hP;refine ⟨0,by simp,?_,?_⟩
   ·have:=hV x;simp only [List.nil_append,zio,List.foldl_cons,List.foldl_nil,zva];rw [if_pos (by omega)];rfl
   ·intro j hj;simp only [List.nil_append,List.length_singleton] at hj;have:j=0:=by omega
    subst this;exact ⟨Int.le_refl _,fun h=>absurd h (by omega)⟩
  ·obtain ⟨i,hi,h1,h2⟩:=ih hP;rw [zex,h1];simp only [zio,List.foldl_cons,List.foldl_nil,zva];by_cases hlt:V P[i] < V x
   ·rw [if_pos hlt];refine ⟨P.length,by simp,by simp,fun j hj=>?_⟩;simp only [List.getElem_concat_length];by_cases hjl:j < P.length
    ·rw [List.getElem_append_left hjl];have:=(h2 j hjl).1;omega
    ·have:j=P.length:=by simp at hj;omega
     subst this;simp
   ·rw [if_neg hlt];have hil:i < (P++[x]).length:=by simp;omega
    have hg:(P++[x])[i]'hil=P[i]:=List.getElem_append_left hi;refine ⟨i,hil,by rw [hg],fun j hj=>?_⟩;rw [hg];by_cases hjl:j < P.length
    ·rw [List.getElem_append_left hjl];exact h2 j hjl
    ·have:j=P.length:=by simp at hj;omega
     subst this;simp only [List.getElem_concat_length];omega
def fixOK (nv k:Nat):Bool:=
 let P:=allC nv (min k nv)
 (P.all fun a=>P.all fun b=>decide (preB a b=decide (P.idxOf a < P.idxOf b))) && ((List.range P.length).all fun i=>decide (P.idxOf (P.getD i [])=i)) &&
  ((zj3 nv).all fun a=>decide (k < a.length) || decide (a∈P)) && (P.all fun a=>decide (a∈zj3 nv) && decide (a.length≤k)) && decide (P≠[])
theorem fix_all:((List.range 6).all fun nv=>(List.range 9).all fun k=>fixOK nv k)=true:=by kernel_rfl
end Go.Kz
