/-
  Plain lemmas on the words of the generated texts.
-/
import Derived.Test.YtcnmiohlpaommaaKzAK
set_option linter.unusedVariables false
set_option linter.unusedSimpArgs false
namespace Go.Kz

/-- A loop by an invariant and a measure: if every round leads to the result, the loop does. -/
theorem iter_rule {α R : Type} {Body : (α → Option R) → α → Option R} {r : Option R} (Inv : α → Prop) (m : α → Nat)
    (h : ∀ x w, Inv x → (∀ y, Inv y → m y < m x → w y = r) → Body w x = r) : ∀ (n : Nat) (x : α), Inv x → m x < n → iter Body n x = r
  | 0, _, _, hn => by omega
  | n + 1, x, hx, hn => h x _ hx fun y hy hm => iter_rule Inv m h n y hy (by omega)

theorem idx_nat {α : Type} (l : List α) (k : Nat) : idx l (k : Int) = l[k]? := rfl
theorem idx_of {α : Type} {l : List α} {i : Int} (h0 : 0 ≤ i) (h1 : i < l.length) : idx l i = some (l[i.toNat]'(by omega)) := by
  obtain ⟨k, rfl⟩ := Int.eq_ofNat_of_zero_le h0
  simp only [idx_nat, Int.toNat_natCast]
  exact List.getElem?_eq_getElem (by omega)
theorem idx_lt {α : Type} {l : List α} {k : Nat} (h : k < l.length) : idx l (k : Int) = some l[k] := by simp [idx_nat, h]
theorem inb_lt {α : Type} {l : List α} {k : Nat} (h : k < l.length) : inb l (k : Int) = true := by simp [inb, h]
theorem setI_nat {α : Type} (l : List α) (k : Nat) (x : α) : setI l (k : Int) x = l.set k x := rfl
theorem len_eq {α : Type} (l : List α) : len l = (l.length : Int) := rfl
theorem chk_true {R : Type} {b : Bool} {x : Option R} (h : b = true) : chk b x = x := by rw [h]; rfl

theorem wi64_of {n : Int} (h1 : -9223372036854775808 ≤ n) (h2 : n ≤ 9223372036854775807) : wi64 n = n := by
  simp only [wi64, IntKind.wrap, IntKind.min, IntKind.max, IntKind.bits, IntKind.signed]
  simp
  omega
theorem wu64_of {n : Int} (h1 : 0 ≤ n) (h2 : n ≤ 18446744073709551615) : wu64 n = n := by
  simp only [wu64, IntKind.wrap, IntKind.min, IntKind.max, IntKind.bits, IntKind.signed]
  simp
  omega

end Go.Kz
