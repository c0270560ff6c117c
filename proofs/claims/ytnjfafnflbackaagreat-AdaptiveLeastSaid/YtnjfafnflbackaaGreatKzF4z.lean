/-
  The layer adaptive: Worth, the code of the arguments, tables of bounds; plain laws.
-/
import Derived.Test.YtnjfafnflbackaaGreatKzF3z
set_option linter.unusedVariables false
set_option linter.unusedSimpArgs false
namespace Go.Kz
abbrev zai:=Int×(Int×(Int×Unit))
abbrev Key:=Int×(Int×Unit)
def cmpI (a b:Int):Int:=if a < b then -1 else if b < a then 1 else 0
theorem zz9 (N:Nat) (a b:Int):f69 N a b=some (cmpI a b):=by
 unfold f69 cmpI;simp only [f90,Option.bind_some,decide_true,Bool.not_true,cond_false];by_cases h1:a < b
 ·simp [h1]
 ·by_cases h2:b < a
  ·simp [h1,h2]
  ·simp [h1,h2]
def ordI (x y:zai):Int:=if cmpI y.2.1 x.2.1=0 then cmpI x.1 y.1 else cmpI y.2.1 x.2.1
theorem f68_eq (N:Nat) (hN:3≤N) (a b:Int):f68 N [a,b]=some (if a=0 then b else a):=by
 obtain ⟨k,rfl⟩:∃ k,N=k+3:=⟨N-3,by omega⟩;unfold f68;by_cases ha:a=0
 ·have w1:z0g 1=1:=z0c (by omega) (by omega);have w2:z0g 2=2:=z0c (by omega) (by omega);by_cases hb:b=0
  ·subst ha;subst hb;simp [iter,zhj,idx,len,w1,w2]
  ·subst ha;simp [iter,zhj,idx,len,hb,w1]
 ·simp [iter,zhj,idx,len,ha]
theorem zze (N:Nat) (hN:3≤N) (x y:zai):f49 N x y=some (ordI x y):=by
 unfold f49 ordI;rw [zz9,zz9];simp only [Option.bind_some];rw [f68_eq N hN];rfl
def zju (x y:zai):Bool:=if x.2.1=y.2.1 then decide (x.1 < y.1) else decide (y.2.1 < x.2.1)
theorem ord_bef (x y:zai):decide (0≤ordI x y) = !zju x y:=by
 unfold ordI zju cmpI;by_cases h1:x.2.1=y.2.1
 ·simp only [h1,Int.lt_irrefl,if_false,if_true];by_cases h2:x.1 < y.1
  ·simp [h2]
  ·by_cases h3:y.1 < x.1 <;> simp [h2,h3]
 ·by_cases h2:y.2.1 < x.2.1
  ·simp [h1,h2]
  ·have h3:x.2.1 < y.2.1:=by omega
   simp [h1,h2,h3]
theorem eqK (x y:Key):eqD (.pair (.int .i64) (.pair (.int .i64) .unit)) x y=decide (x=y):=by
 obtain ⟨a,b,u⟩:=x;obtain ⟨c,d,v⟩:=y;simp only [eqD,z2t,Bool.and_true];rw [Bool.eq_iff_iff];simp
section
variable {α β:Type} [DecidableEq α]
def lk:List (α×β)->α->Option β
 | [],_=>none
 | (k,v) :: l,x=>if x=k then some v else lk l x
def pt:List (α×β)->α->β->List (α×β)
 | [],x,y=>[(x,y)]
 | (k,v) :: l,x,y=>if x=k then (k,y) :: l else (k,v) :: pt l x y
theorem zit {e:α->α->Bool} (he:∀ x y,e x y=decide (x=y)) (x:α):(l:List (α×β))->z80 e l x=lk l x
 | []=>rfl
 | (k,v) :: l=>by
  simp only [z80,lk,he,zit he x l];by_cases h:x=k <;> simp [h]
theorem znm {e:α->α->Bool} (he:∀ x y,e x y=decide (x=y)) (x:α) (y:β):(l:List (α×β))->zb1 e l x y=pt l x y
 | []=>rfl
 | (k,v) :: l=>by
  simp only [zb1,pt,he,znm he x y l];by_cases h:x=k <;> simp [h]
theorem zrk (x z:α) (y:β):(l:List (α×β))->lk (pt l x y) z=if z=x then some y else lk l z
 | []=>by simp [pt,lk]
 | (k,v) :: l=>by
  simp only [pt];by_cases h:x=k
  ·subst h;simp only [if_true,lk];by_cases h2:z=x <;> simp [h2]
  ·simp only [if_neg h,lk,zrk x z y l];by_cases h2:z=k
   ·subst h2;have:¬ z=x:=fun e=>h e.symm
    simp [this]
   ·simp [h2]
theorem zyt {x:α} {y:β}:{l:List (α×β)}->lk l x=none->pt l x y=l++[(x,y)]
 | [],_=>rfl
 | (k,v) :: l,h=>by
  simp only [lk] at h;split at h
  ·simp at h
  ·rename_i hne;simp only [pt,if_neg hne,List.cons_append,zyt h]
theorem zto {x:α}:{l:List (α×β)}->lk l x=none↔∀ p∈l,p.1≠x
 | []=>by simp [lk]
 | (k,v) :: l=>by
  simp only [lk];split
  ·rename_i h;subst h;simp
  ·rename_i h;rw [zto];simp only [List.mem_cons,forall_eq_or_imp];constructor
   ·intro h2;exact ⟨fun e=>h e.symm,h2⟩
   ·intro h2;exact h2.2
theorem ztp {x:α} {y:β}:{l:List (α×β)}->lk l x=some y->(x,y)∈l
 | (k,v) :: l,h=>by
  simp only [lk] at h;split at h
  ·rename_i he;subst he;simp only [zI] at h;subst h;simp
  ·exact List.mem_cons_of_mem _ (ztp h)
end
def mapT (t:List zai):List (Key×Int):=t.map fun x=>((x.1,x.2.1,()),x.2.2.1)
def look (t:List zai) (S l:Int):Option Int:=lk (mapT t) (S,l,())
end Go.Kz
