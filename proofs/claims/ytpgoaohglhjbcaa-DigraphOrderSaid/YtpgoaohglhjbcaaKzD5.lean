/-
  Layer 06, plain: the search by rounds; what is reached; laws 11, 6, 9.
-/
import Derived.Test.YtpgoaohglhjbcaaKzD4
set_option linter.unusedVariables false
set_option linter.unusedSimpArgs false
namespace Go.Kz

structure Rnd (n : Nat) (E : List (Nat × Nat)) (S : List Nat) (t : Nat) (D : Nat → Int) : Prop where
  low : ∀ x, x < n → D x = -1 ∨ 0 ≤ D x
  sound : ∀ x, x < n → 0 ≤ D x → Lv E S (D x).toNat x
  le : ∀ x, x < n → D x ≤ t
  full : ∀ k x, x < n → k ≤ t → Lv E S k x → 0 ≤ D x ∧ D x ≤ k
structure RndI (n : Nat) (E : List (Nat × Nat)) (S : List Nat) (t m : Nat) (D : Nat → Int) : Prop where
  low : ∀ x, x < n → D x = -1 ∨ 0 ≤ D x
  sound : ∀ x, x < n → 0 ≤ D x → Lv E S (D x).toNat x
  le : ∀ x, x < n → D x ≤ t + 1
  full : ∀ k x, x < n → k ≤ t → Lv E S k x → 0 ≤ D x ∧ D x ≤ k
  seen : ∀ e ∈ E.take m, Lv E S t e.1 → 0 ≤ D e.2
theorem RndI.next {n : Nat} {E : List (Nat × Nat)} {S : List Nat} {t : Nat} {D : Nat → Int} (hN : Nod n E) (h : RndI n E S t E.length D) : Rnd n E S (t + 1) D := by
  refine ⟨h.low, h.sound, fun x hx => by have := h.le x hx; omega, fun k x hx hk hl => ?_⟩
  by_cases e : k ≤ t
  · exact h.full k x hx e hl
  · obtain rfl : k = t + 1 := by omega
    rcases hl with hl | ⟨u, hu, he⟩
    · have := h.full t x hx (Nat.le_refl _) hl; omega
    · have := h.seen (u, x) (by rw [List.take_length]; exact he) hu
      have h2 := h.le x hx
      exact ⟨this, by omega⟩

end Go.Kz
