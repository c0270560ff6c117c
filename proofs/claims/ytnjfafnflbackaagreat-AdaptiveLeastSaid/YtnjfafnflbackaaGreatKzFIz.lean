/-
  The layer adaptive: worth of partitions; Best's result; plain laws.
-/
import Derived.Test.YtnjfafnflbackaaGreatKzFHz
set_option linter.unusedVariables false
set_option linter.unusedSimpArgs false
namespace Go.Kz
theorem zx7 {α:Type} [DecidableEq α] {n:Nat} {l:List α} (h:l.length=n):View n (ofL l):=⟨by rw [z57,h],zio l⟩
theorem zx8 {α:Type} [DecidableEq α] {l:List α} {i j:Nat} (hi:i < l.length) (hj:j < l.length):(ofL l).getD i 0=(ofL l).getD j 0↔l[i]=l[j]:=by
 have:=zpb hi hj;rw [List.getD_eq_getElem?_getD,List.getD_eq_getElem?_getD,List.getElem?_eq_getElem (by rw [z57];exact hi),List.getElem?_eq_getElem (by rw [z57];exact hj)];exact this
theorem z7l {m:z1m} {n:Nat} (hm:MenuP m n) (qs:List Int):View n (z1l m qs):=zx7 (by simp [hm.secrets])
theorem za5 {m:z1m} {n:Nat} (hm:MenuP m n) (qs:List Int) {r s:Nat} (hr:r < n) (hs:s < n):(z1l m qs).getD r 0=(z1l m qs).getD s 0↔ziz m qs r=ziz m qs s:=by
 have hn:m.1.toNat=n:=by rw [hm.secrets];rfl
 have:=zx8 (l:=(List.range m.1.toNat).map fun x=>ziz m qs x) (i:=r) (j:=s) (by simp;omega) (by simp;omega);simp only [List.getElem_map,List.getElem_range] at this;exact this
theorem zxv (m:z1m) (qs:List Int):ziz m qs=ansF (qs.map fun q=>z3z m q):=by
 funext s;simp [ziz,ansF]
def zcg (n S:Nat):Int:=sumP (List.replicate n 1) n S.testBit
theorem z5u (n S:Nat):0≤zcg n S:=zk3 fun i hi=>by
 split
 ·rw [List.getD_eq_getElem?_getD,List.getElem?_replicate,if_pos hi];decide
 ·omega
theorem z4k {n S:Nat} (hS:S < 2 ^ n) (h0:S≠0):1≤zcg n S:=by
 obtain ⟨s,hs,hb⟩:=zi9 hS h0;have h1:=z8y (n:=n) (f:=fun i=>if i=s then 1 else 0) (g:=fun i=>if S.testBit i then (List.replicate n (1:Int)).getD i 0 else 0) (fun i hi=>by
  by_cases h:i=s
  ·subst h;rw [if_pos rfl,hb,if_pos rfl,List.getD_eq_getElem?_getD,List.getElem?_replicate,if_pos hi];decide
  ·rw [if_neg h];split
   ·rw [List.getD_eq_getElem?_getD,List.getElem?_replicate,if_pos hi];decide
   ·exact Int.le_refl _)
 rw [zea 1 hs] at h1;exact h1
theorem z4u (n S:Nat):zcg n S≤n:=by
 have:=zeb (n:=n) (f:=fun s=>if S.testBit s then (List.replicate n (1:Int)).getD s 0 else 0) (b:=1) (fun i hi=>by
  split
  ·rw [List.getD_eq_getElem?_getD,List.getElem?_replicate,if_pos hi];decide
  ·omega)
 simp only [zcg,sumP];omega
end Go.Kz
