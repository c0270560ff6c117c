/-
  The layer adaptive: the strategy that the solver plans; plain laws.
-/
import Derived.Test.YtnjfafnflbackaaGreatKzFDz
set_option linter.unusedVariables false
set_option linter.unusedSimpArgs false
namespace Go.Kz
def M1 (m:z1m) (g:List (List Int)) (n:Nat) (K:List Key):zg1:=mkM (WK m g n) K fun _=>true
theorem zl9 {α:Type} (h:α->Int):{l:List α}->{b:Int}->l.foldl (fun b x=>max b (h x)) b=b∨∃ x∈l,h x=l.foldl (fun b x=>max b (h x)) b
 | [],b=>.inl rfl
 | a :: l,b=>by
  simp only [List.foldl_cons];rcases zl9 h (l:=l) (b:=max b (h a)) with e | ⟨x,hx,e⟩
  ·rw [e];by_cases hab:h a≤b
   ·left;omega
   ·right;exact ⟨a,by simp,by omega⟩
  ·exact .inr ⟨x,by simp [hx],e⟩
theorem zsk {α:Type} (a:List α) (x y:α) (b:List α):(a++x :: b).set a.length y=a++y :: b:=by
 rw [List.set_append_right _ _ (Nat.le_refl _)];simp
theorem zkf (k n:Nat) (h:k < n):List.replicate (n-k) (-1:Int) = -1 :: List.replicate (n-(k+1)) (-1):=by
 rw [show n-k=(n-(k+1))+1 by omega,List.replicate_succ]
end Go.Kz
