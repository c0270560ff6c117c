/-
  Layer 07, plain: the greatest flow.
-/
import Derived.Test.YtafhchecfmiieaaKzE6
set_option linter.unusedVariables false
set_option linter.unusedSimpArgs false
namespace Go.Kz
theorem Yld.iterM {α R:Type} {Q:R→Prop} {F:(α→Option R)→α→Option R} (Inv:Nat→α→Prop)
  (step:∀ (m:Nat) (x:α) (w:α→Option R),Inv m x→(∀ m' x',m' < m→Inv m' x'→Yld (w x') Q)→Yld (F w x) Q):∀ (N m:Nat) (x:α),m < N→Inv m x→Yld (Go.Kz.iter F N x) Q
 | 0,m,x,h,_=>by omega
 | N+1,m,x,h,hI=>by
  show Yld (F (Go.Kz.iter F N) x) Q
  exact step m x _ hI fun m' x' hm hI'=>Yld.iterM Inv step N m' x' (by omega) hI'
section
variable {n:Nat} {E:List (Nat×Nat)} {F T:Nat→Bool} {W:Nw} {C:Nat→Int} {most:Int} {r:Nat→Nat→Int}
end
end Go.Kz
