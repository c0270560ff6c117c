/-
  Networks of arcs, third part: how they stand in lists, and how an arc is laid. Plain facts, no program.
-/
import Derived.Test.YtafhchecfmiieaaKzE2
set_option linter.unusedVariables false
set_option linter.unusedSimpArgs false
namespace Go.Kz
def upF {α:Type} (D:Nat→α) (v:Nat) (c:α):Nat→α:=fun x=>if x=v then c else D x
theorem upF_self {α:Type} (D:Nat→α) (v:Nat) (c:α):upF D v c v=c:=by simp [upF]
theorem upF_ne {α:Type} (D:Nat→α) {v x:Nat} (c:α) (h:x≠v):upF D v c x=D x:=by simp [upF,h]
theorem map_set_range {α:Type} {n v:Nat} (D:Nat→α) (c:α):((List.range n).map D).set v c=(List.range n).map (upF D v c):=by
 apply List.ext_getElem?
 intro i
 by_cases hi:i < n
 ·by_cases e:v=i
  ·subst e
   rw [List.getElem?_set_self (by simpa using hi),List.getElem?_map,List.getElem?_range hi]
   simp [upF_self]
  ·rw [List.getElem?_set_ne e,List.getElem?_map,List.getElem?_map,List.getElem?_range hi]
   simp [upF_ne D c (Ne.symm e)]
 ·rw [List.getElem?_eq_none (by simp;omega),List.getElem?_eq_none (by simp;omega)]
theorem map_range_get {α:Type} {n x:Nat} (D:Nat→α) (h:x < n):((List.range n).map D)[x]? = some (D x):=by
 rw [List.getElem?_map,List.getElem?_range h];rfl
theorem idx_map_range {α:Type} {n x:Nat} (D:Nat→α) (h:x < n):idx ((List.range n).map D) (x:Int)=some (D x):=map_range_get D h
theorem inb_map_range {α:Type} {n x:Nat} (D:Nat→α) (h:x < n):inb ((List.range n).map D) (x:Int)=true:=inb_lt (by simpa using h)
abbrev ArcD:=Int×(Int×(Int×Unit))
namespace Nw
def arcD (W:Nw) (r:Nat→Nat→Int) (v i:Nat):ArcD:=((W.hd v i:Int),(r v i,((W.bk v i:Int),())))
def row (W:Nw) (r:Nat→Nat→Int) (v:Nat):List ArcD:=(List.range (W.deg v)).map (W.arcD r v)
def enc (W:Nw) (r:Nat→Nat→Int):List (List ArcD):=(List.range W.N).map (W.row r)
section
variable {W:Nw} {u v:Nat}
end
def Has (W:Nw) (v u:Nat):Prop:=∃ i,W.Is (v,i)∧W.hd v i=u
end Nw
structure LayI (n:Nat) (E:List (Nat×Nat)) (F T:Nat→Bool) (C:Nat→Int) (most:Int) (c:Nat) (W:Nw) (r:Nat→Nat→Int):Prop where
 N:W.N=2*n+2
 ok:W.Ok (ldF n)
 res:W.Res (ldF n) (capF n C most) r
 zero:∀ d,W.Laid (ldF n) d→W.sent r d=0
 sound:∀ d,W.Laid (ldF n) d→ArcF n E F T d.1 (W.hd d.1 d.2)
 uniq:∀ v,v < n→∀ i,i < W.deg (2*v)→W.hd (2*v) i=2*v+1→i=0
 one:∀ v,v < n→0 < W.deg (2*v)→W.hd (2*v) 0=2*v+1
 small:∀ v,W.deg v≤c
section
variable {n:Nat} {E:List (Nat×Nat)} {F T:Nat→Bool} {C:Nat→Int} {most:Int} {c:Nat} {W:Nw} {r:Nat→Nat→Int} {u v:Nat}
theorem LayI.done (h:LayI n E F T C most c W r) (hc:c≤400) (hp:∀ k,k < n→0 < W.deg (2*k)) (hA:∀ x y,ArcF n E F T x y→W.Has x y):Lay n E F T W∧Flw n C most W r:=by
 refine ⟨⟨h.N,h.ok,fun v hv=>⟨hp v hv,h.one v hv (hp v hv)⟩,h.uniq,h.sound,fun v u ha=>hA v u ha,fun v=>Nat.le_trans (h.small v) hc⟩,⟨h.res,fun v hv=>?_⟩⟩
 unfold Nw.out
 refine lsm_zero fun i hi=>?_
 have hd:W.Is (v,i):=⟨by rw [h.N];show v < _;omega,List.mem_range.1 hi⟩
 cases hl:ldF n v (W.hd v i)
 ·have h1:=h.ok.one _ hd
  have h2:W.Laid (ldF n) (W.rev (v,i)):=⟨h.ok.is _ hd,by
   rw [show W.hd (W.rev (v,i)).1 (W.rev (v,i)).2=(W.rev (W.rev (v,i))).1 from rfl,h.ok.inv _ hd]
   simp only at h1
   rw [hl] at h1
   show ldF n (W.hd v i) v=true
   cases h3:ldF n (W.hd v i) v
   ·rw [h3] at h1;cases h1
   ·rfl⟩
  have h3:=h.zero _ h2
  unfold Nw.sent at h3
  rw [h.ok.inv _ hd] at h3
  have h4:=Res.fl_not (r:=r) (d:=(v,i)) hl
  rw [h4,h3];rfl
 ·have h2:W.Laid (ldF n) (v,i):=⟨hd,hl⟩
  rw [(Res.fl_laid h.res h2).1];exact h.zero _ h2
end
end Go.Kz
