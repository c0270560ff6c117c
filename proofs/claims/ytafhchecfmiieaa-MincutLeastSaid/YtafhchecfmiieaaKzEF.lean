/-
  Layer 07, plain: both checkers, and the laws Checks and Rivals.
-/
import Derived.Test.YtafhchecfmiieaaKzEE
set_option linter.unusedVariables false
set_option linter.unusedSimpArgs false
namespace Go.Kz
theorem rep_map {α:Type} (n:Nat) (c:α):List.replicate n c=(List.range n).map fun _=>c:=by
 apply List.ext_getElem?
 intro i
 by_cases hi:i < n
 ·rw [map_range_get _ hi,List.getElem?_replicate_of_lt hi]
 ·rw [List.getElem?_eq_none (by simp;omega),List.getElem?_eq_none (by simp;omega)]
section
variable {n:Nat} {E:List (Nat×Nat)} {A B:List Nat} {w:List Int}
theorem PfP.least {fs:List FlowD} {val:Int} (h:PfP n E A B w fs val) {C:List Nat} (hS:Sep E (mks A) (mks B) (mks C)) (hC:∀ c∈C,c < n∧0≤w.getD c 0):val≤sumC w C:=by
 have h1:sumC w C ≥ lsm (fun c=>Ld fs c) C:=lsm_le fun c hc=>h.load c (hC c hc).1 (hC c hc).2
 have h2:∀ (l:List FlowD),(∀ f∈l,GoodF n E A B f)→Am l≤lsm (fun c=>Ld l c) C:=by
  intro l
  induction l with
  | nil=>intro _;rw [lsm_zero (f:=fun c=>Ld [] c) fun c _=>rfl];exact Int.le_refl _
  | cons f l ih=>
   intro hl
   have e:lsm (fun c=>Ld (f :: l) c) C=lsm (fun c:Nat=>if (c:Int)∈f.1 then f.2.1 else 0) C+lsm (fun c=>Ld l c) C:=by
    rw [←lsm_add];rfl
   have i1:=ih fun x hx=>hl x (by simp [hx])
   obtain ⟨g1,q,g2,g3⟩:=hl f (by simp)
   obtain ⟨c,hc1,hc2⟩:=g3.meets hS
   have i2:=lsm_ge (f:=fun c:Nat=>if (c:Int)∈f.1 then f.2.1 else 0) (l:=C) (fun x _=>by split <;> omega) (mk_iff.1 hc2)
   simp only [g2,mem_il.2 hc1,if_true] at i2
   have e2:Am (f :: l)=f.2.1+Am l:=rfl
   rw [e,e2]
   simp only [g2]
   omega
 have:=h2 fs h.good
 rw [h.sum] at this
 omega
end
end Go.Kz
