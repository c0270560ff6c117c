/-
  Networks of arcs with reverse arcs: sums over arcs, what is sent, cuts. Plain facts, no program.
-/
import Derived.Test.YtafhchecfmiieaaKzAR
set_option linter.unusedVariables false
set_option linter.unusedSimpArgs false
namespace Go.Kz
def lsm {α:Type} (f:α→Int):List α→Int
 | []=>0
 | x :: l=>f x+lsm f l
theorem lsm_app {α:Type} (f:α→Int):(l m:List α)→lsm f (l++m)=lsm f l+lsm f m
 | [],m=>by simp [lsm]
 | x :: l,m=>by simp only [List.cons_append,lsm,lsm_app f l m];omega
theorem lsm_le {α:Type} {f g:α→Int}:{l:List α}→(∀ x∈l,f x≤g x)→lsm f l≤lsm g l
 | [],_=>Int.le_refl _
 | x :: l,h=>by simp only [lsm];have:=h x (by simp);have:=lsm_le fun y hy=>h y (List.mem_cons_of_mem x hy);omega
theorem lsm_zero {α:Type} {f:α→Int} {l:List α} (h:∀ x∈l,f x=0):lsm f l=0:=by
 induction l with
 | nil=>rfl
 | cons x l ih=>simp only [lsm];rw [h x (by simp),ih fun y hy=>h y (by simp [hy])];rfl
theorem lsm_nonneg {α:Type} {f:α→Int} {l:List α} (h:∀ x∈l,0≤f x):0≤lsm f l:=by
 induction l with
 | nil=>exact Int.le_refl _
 | cons x l ih=>simp only [lsm];have:=h x (by simp);have:=ih fun y hy=>h y (by simp [hy]);omega
theorem lsm_const {α:Type} (c:Int):(l:List α)→lsm (fun _=>c) l=c*l.length
 | []=>by simp [lsm]
 | x :: l=>by simp only [lsm,lsm_const c l,List.length_cons,Int.natCast_add,Int.mul_add];simp;omega
structure Nw where
 N:Nat
 deg:Nat→Nat
 hd:Nat→Nat→Nat
 bk:Nat→Nat→Nat
namespace Nw
def Is (W:Nw) (d:Nat×Nat):Prop:=d.1 < W.N∧d.2 < W.deg d.1
def rev (W:Nw) (d:Nat×Nat):Nat×Nat:=(W.hd d.1 d.2,W.bk d.1 d.2)
structure Ok (W:Nw) (ld:Nat→Nat→Bool):Prop where
 is:∀ d,W.Is d→W.Is (W.rev d)
 inv:∀ d,W.Is d→W.rev (W.rev d)=d
 one:∀ d,W.Is d→ld d.1 (W.hd d.1 d.2) = !ld (W.hd d.1 d.2) d.1
theorem perm_of {α:Type} [DecidableEq α]:{l m:List α}→l.Nodup→m.Nodup→(∀ x,x∈l↔x∈m)→l.Perm m
 | l,m,h1,h2,h=>by
  rw [List.perm_iff_count]
  intro a
  have c1:∀ {l:List α},l.Nodup→l.count a=if a∈l then 1 else 0:=by
   intro l hl
   split
   ·next h=>exact Nat.le_antisymm (List.nodup_iff_count.1 hl a) (List.count_pos_iff.2 h)
   ·next h=>exact List.count_eq_zero_of_not_mem h
  rw [c1 h1,c1 h2]
  simp only [h a]
def fl (W:Nw) (ld:Nat→Nat→Bool) (r:Nat→Nat→Int) (d:Nat×Nat):Int:=
 if ld d.1 (W.hd d.1 d.2) then r (W.rev d).1 (W.rev d).2 else-r d.1 d.2
def out (W:Nw) (ld:Nat→Nat→Bool) (r:Nat→Nat→Int) (v:Nat):Int:=lsm (fun i=>W.fl ld r (v,i)) (List.range (W.deg v))
structure Res (W:Nw) (ld:Nat→Nat→Bool) (cap:Nat→Nat→Int) (r:Nat→Nat→Int):Prop where
 pos:∀ d,W.Is d→0≤r d.1 d.2
 tot:∀ d,W.Is d→ld d.1 (W.hd d.1 d.2)=true→r d.1 d.2+r (W.rev d).1 (W.rev d).2=cap d.1 (W.hd d.1 d.2)
end Nw
end Go.Kz
