/-
  The layer adaptive: depths that a table proves; plain laws.
-/
import Derived.Test.YtnjfafnflbackaaKzF8
set_option linter.unusedVariables false
set_option linter.unusedSimpArgs false
namespace Go.Kz
theorem zj4 {v:List Int} {S y:Nat} (h:y∈z26 v S):y≠0∧∃ c,c < z2f v∧part v S c=y:=by
 simp only [z26,List.mem_filter,List.mem_map,List.mem_range,decide_eq_true_eq] at h;exact ⟨h.2,h.1⟩
theorem zz8 {n S:Nat} (hS:S < 2 ^ n) (h0:S≠0):∃ s,s < n∧S.testBit s=true:=by
 apply Classical.byContradiction;intro hno;apply h0;apply Nat.eq_of_testBit_eq;intro i;rw [Nat.zero_testBit];by_cases hi:i < n
 ·cases hb:S.testBit i with
  | false=>rfl
  | true=>exact absurd ⟨i,hi,hb⟩ hno
 ·exact Nat.testBit_lt_two_pow (Nat.lt_of_lt_of_le hS (Nat.pow_le_pow_right (by omega) (by omega)))
end Go.Kz
