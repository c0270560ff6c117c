/-
  The layer adaptive: Prove accepts the table of Best; plain laws.
-/
import Derived.Test.YtnjfafnflbackaaGreatKzFJz
set_option linter.unusedVariables false
set_option linter.unusedSimpArgs false
namespace Go.Kz
theorem zpg {α β:Type} [DecidableEq α] {x:α} {y:β}:{l:List (α×β)}->(l.map Prod.fst).Nodup->(x,y)∈l->lk l x=some y
 | (k,v) :: l,hd,h=>by
  simp only [List.map_cons,List.nodup_cons] at hd;simp only [lk];rcases List.mem_cons.1 h with h | h
  ·simp only [Prod.mk.injEq] at h;rw [if_pos h.1,h.2]
  ·have:¬ x=k:=fun e=>hd.1 (e ▸ List.mem_map.2 ⟨_,h,rfl⟩)
   rw [if_neg this];exact zpg hd.2 h
section
variable {m:z1m} {g:List (List Int)} {n:Nat} {K:List Key} (hs:Slv m g n K)
include hs
end
end Go.Kz
