/-
  The layer adaptive: what the solver reaches; plain laws.
-/
import Derived.Test.YtnjfafnflbackaaGreatKzFCz
set_option linter.unusedVariables false
set_option linter.unusedSimpArgs false
namespace Go.Kz
structure RInv (m:z1m) (n:Nat) (K:List Key) (p:Key) (K':List Key):Prop where
 pre:∀ x∈K,x∈K'
 nd:K'.Nodup
 keys:∀ x∈K',KeyU n 8 x
 new:∀ x∈K',x∉K->x=p∨((∀ y∈zz0 m.2.1 x,y∈K')∧Rch m.2.1 p x)
 pin:p∈K'
structure RPost (m:z1m) (n:Nat) (K:List Key) (p:Key) (K':List Key):Prop where
 pre:∀ x∈K,x∈K'
 nd:K'.Nodup
 keys:∀ x∈K',KeyU n 8 x
 new:∀ x∈K',x∉K->(∀ y∈zz0 m.2.1 x,y∈K')∧Rch m.2.1 p x
 pin:p∈K'
theorem RInv.done {m:z1m} {n:Nat} {K K1:List Key} {p:Key} (h:RInv m n K p K1) (hk:∀ x∈zz0 m.2.1 p,x∈K1):RPost m n K p K1:=by
 refine ⟨h.pre,h.nd,h.keys,fun x hx hn=>?_,h.pin⟩;rcases h.new x hx hn with rfl | h
 ·exact ⟨hk,.base⟩
 ·exact h
end Go.Kz
