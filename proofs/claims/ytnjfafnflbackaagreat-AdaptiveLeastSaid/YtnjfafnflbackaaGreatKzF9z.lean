/-
  The layer adaptive: depths that a table proves; plain laws.
-/
import Derived.Test.YtnjfafnflbackaaGreatKzF8z
set_option linter.unusedVariables false
set_option linter.unusedSimpArgs false
namespace Go.Kz
abbrev Hrd:=Int×(Int×Unit)
def za8 (t:List Hrd) (ys:List Nat) (d:Int):Bool:=t.any fun x=>decide (d≤x.2.1) && ys.any fun y=>decide ((y:Int)=x.1)
def zde (m:z1m) (n:Nat) (p:List Int) (t:List Hrd) (x:Hrd):Bool:=
 decide (1≤x.1) && decide (x.1≤(z2y n:Int)) && (!decide (0 < x.2.1) || z0e n x.1.toNat p) && (!decide (1 < x.2.1) || m.2.1.all fun v=>za8 t (z28 v x.1.toNat) (z0g (x.2.1-1)))
theorem ztx {m:z1m} {n:Nat} {p:List Int} {t:List Hrd} {x:Hrd}:zde m n p t x=true↔1≤x.1∧x.1≤(z2y n:Int)∧(0 < x.2.1->z0e n x.1.toNat p=true)∧(1 < x.2.1->∀ v∈m.2.1,za8 t (z28 v x.1.toNat) (z0g (x.2.1-1))=true):=by
 simp only [zde,zA,Bool.or_eq_true,Bool.not_eq_true',decide_eq_true_eq,decide_eq_false_iff_not,List.all_eq_true,and_assoc];constructor
 ·rintro ⟨a,b,c,d⟩;exact ⟨a,b,fun h=>c.resolve_left (fun hn=>hn h),fun h=>d.resolve_left (fun hn=>hn h)⟩
 ·rintro ⟨a,b,c,d⟩;refine ⟨a,b,?_,?_⟩
  ·by_cases h:0 < x.2.1
   ·exact .inr (c h)
   ·exact .inl h
  ·by_cases h:1 < x.2.1
   ·exact .inr (d h)
   ·exact .inl h
theorem zu0 {t:List Hrd} {ys:List Nat} {d:Int}:za8 t ys d=true↔∃ x∈t,d≤x.2.1∧∃ y∈ys,(y:Int)=x.1:=by
 simp [za8,List.any_eq_true]
theorem zri {v:List Int} {S y:Nat} (h:y∈z28 v S):y≠0∧∃ c,c < z1z v∧part v S c=y:=by
 simp only [z28,List.mem_filter,List.mem_map,List.mem_range,decide_eq_true_eq] at h;exact ⟨h.2,h.1⟩
theorem z5h {n S:Nat} {v:List Int} (h:z0e n S v=true):∃ r s,r < n∧s < n∧S.testBit r=true∧S.testBit s=true∧v.getD r 0≠v.getD s 0:=by
 obtain ⟨r,hr,h1⟩:=List.any_eq_true.1 h;obtain ⟨s,hs,h2⟩:=List.any_eq_true.1 h1;simp only [zA,decide_eq_true_eq] at h2;exact ⟨r,s,List.mem_range.1 hr,List.mem_range.1 hs,h2.1.1,h2.1.2,h2.2⟩
theorem zi9 {n S:Nat} (hS:S < 2 ^ n) (h0:S≠0):∃ s,s < n∧S.testBit s=true:=by
 apply Classical.byContradiction;intro hno;apply h0;apply Nat.eq_of_testBit_eq;intro i;rw [Nat.zero_testBit];by_cases hi:i < n
 ·cases hb:S.testBit i with
  | false=>rfl
  | true=>exact absurd ⟨i,hi,hb⟩ hno
 ·exact Nat.testBit_lt_two_pow (Nat.lt_of_lt_of_le hS (Nat.pow_le_pow_right (by omega) (by omega)))
theorem le_allS {n:Nat} {x:Int} (h:1≤x) (h2:x≤(z2y n:Int)):x.toNat < 2 ^ n∧x.toNat≠0∧x=(x.toNat:Int):=by
 have:=zjp n;omega
end Go.Kz
