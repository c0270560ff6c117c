/-
  The layer adaptive: depths that a table proves; plain laws.
-/
import Derived.Test.YtnjfafnflbackaaKzF8
set_option linter.unusedVariables false
set_option linter.unusedSimpArgs false
namespace Go.Kz
abbrev Hrd:=Int×(Int×Unit)
def z7b (t:List Hrd) (ys:List Nat) (d:Int):Bool:=t.any fun x=>decide (d≤x.2.1) && ys.any fun y=>decide ((y:Int)=x.1)
def z8z (m:z1q) (n:Nat) (p:List Int) (t:List Hrd) (x:Hrd):Bool:=
 decide (1≤x.1) && decide (x.1≤(z4x n:Int)) && (!decide (0 < x.2.1) || z5t n x.1.toNat p) && (!decide (1 < x.2.1) || m.2.1.all fun v=>z7b t (z3p v x.1.toNat) (z0i (x.2.1-1)))
theorem zxk {t:List Hrd} {ys:List Nat} {d:Int}:z7b t ys d=true↔∃ x∈t,d≤x.2.1∧∃ y∈ys,(y:Int)=x.1:=by
 simp [z7b,List.any_eq_true]
theorem zuo {v:List Int} {S y:Nat} (h:y∈z3p v S):y≠0∧∃ c,c < z3e v∧part v S c=y:=by
 simp only [z3p,List.mem_filter,List.mem_map,List.mem_range,decide_eq_true_eq] at h;exact ⟨h.2,h.1⟩
theorem zu2 {n S:Nat} {v:List Int} (h:z5t n S v=true):∃ r s,r < n∧s < n∧S.testBit r=true∧S.testBit s=true∧v.getD r 0≠v.getD s 0:=by
 obtain ⟨r,hr,h1⟩:=List.any_eq_true.1 h;obtain ⟨s,hs,h2⟩:=List.any_eq_true.1 h1;simp only [zA,decide_eq_true_eq] at h2;exact ⟨r,s,List.mem_range.1 hr,List.mem_range.1 hs,h2.1.1,h2.1.2,h2.2⟩
theorem zzr {n S:Nat} (hS:S < 2 ^ n) (h0:S≠0):∃ s,s < n∧S.testBit s=true:=by
 apply Classical.byContradiction;intro hno;apply h0;apply Nat.eq_of_testBit_eq;intro i;rw [Nat.zero_testBit];by_cases hi:i < n
 ·cases hb:S.testBit i with
  | false=>rfl
  | true=>exact absurd ⟨i,hi,hb⟩ hno
 ·exact Nat.testBit_lt_two_pow (Nat.lt_of_lt_of_le hS (Nat.pow_le_pow_right (by omega) (by omega)))
theorem zx3 {n:Nat} {x:Int} (h:1≤x) (h2:x≤(z4x n:Int)):x.toNat < 2 ^ n∧x.toNat≠0∧x=(x.toNat:Int):=by
 have:=zlw n;omega
end Go.Kz
