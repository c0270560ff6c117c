/-
  The layer adaptive: the laws Reaches and Order.
-/
import Derived.Test.YtnjfafnflbackaaGreatKzFRz
set_option linter.unusedVariables false
set_option linter.unusedSimpArgs false
namespace Go.Kz
theorem zkb (vs:List (List Int)) (st:List z14) (k x:Nat):z89 vs st k (-1) x=[]:=by cases k <;> simp [z89]
theorem zej {m:z1m} {n:Nat} (hm:MenuP m n) {st:List z14} (hst:zd8 m.2.1 st) {x:Nat} (hx:x < n):∀ (k k':Nat) (at0:Int),(at0 = -1∨(0≤at0∧at0 < st.length∧st.length-at0.toNat≤k∧st.length-at0.toNat≤k'))->z89 m.2.1 st k at0 x=z89 m.2.1 st k' at0 x
 | k,k',at0,.inl h=>by subst h;rw [zkb,zkb]
 | 0,k',at0,.inr ⟨h0,h1,h2,h3⟩=>by omega
 | k+1,k',at0,.inr ⟨h0,h1,h2,h3⟩=>by
  obtain ⟨k',rfl⟩:∃ j,k'=j+1:=⟨k'-1,by omega⟩;have hi:at0.toNat < st.length:=by omega
  have hneg:¬ at0 < 0:=by omega
  have hnode:=hst.node n hi;have hview:View n (m.2.1.getD st[at0.toNat].1.toNat []):=hm.view _ hnode.mem;have hc:=zfs hview hx;simp only [z89,if_neg hneg,List.getElem?_eq_getElem hi];have hcl:((m.2.1.getD st[at0.toNat].1.toNat []).getD x 0).toNat < st[at0.toNat].2.1.length:=by rw [hnode.next];exact hc
  rw [zej hm hst hx k k' _ (by
   rcases hnode.to _ hcl with h | h
   ·exact .inl h
   ·exact .inr ⟨by omega,h.2,by omega,by omega⟩)]
end Go.Kz
