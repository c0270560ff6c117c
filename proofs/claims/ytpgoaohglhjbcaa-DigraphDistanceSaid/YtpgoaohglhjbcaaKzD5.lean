/-
  Layer 06, plain: the search by rounds; what is reached; laws 11, 6, 9.
-/
import Derived.Test.YtpgoaohglhjbcaaKzD4
set_option linter.unusedVariables false
set_option linter.unusedSimpArgs false
namespace Go.Kz

structure Rnd (n : Nat) (E : List (Nat × Nat)) (S : List Nat) (t : Nat) (D : Nat → Int) : Prop where
  low : ∀ x, x < n → D x = -1 ∨ 0 ≤ D x
  sound : ∀ x, x < n → 0 ≤ D x → Lv E S (D x).toNat x
  le : ∀ x, x < n → D x ≤ t
  full : ∀ k x, x < n → k ≤ t → Lv E S k x → 0 ≤ D x ∧ D x ≤ k
structure RndI (n : Nat) (E : List (Nat × Nat)) (S : List Nat) (t m : Nat) (D : Nat → Int) : Prop where
  low : ∀ x, x < n → D x = -1 ∨ 0 ≤ D x
  sound : ∀ x, x < n → 0 ≤ D x → Lv E S (D x).toNat x
  le : ∀ x, x < n → D x ≤ t + 1
  full : ∀ k x, x < n → k ≤ t → Lv E S k x → 0 ≤ D x ∧ D x ≤ k
  seen : ∀ e ∈ E.take m, Lv E S t e.1 → 0 ≤ D e.2
theorem RndI.next {n : Nat} {E : List (Nat × Nat)} {S : List Nat} {t : Nat} {D : Nat → Int} (hN : Nod n E) (h : RndI n E S t E.length D) : Rnd n E S (t + 1) D := by
  refine ⟨h.low, h.sound, fun x hx => by have := h.le x hx; omega, fun k x hx hk hl => ?_⟩
  by_cases e : k ≤ t
  · exact h.full k x hx e hl
  · obtain rfl : k = t + 1 := by omega
    rcases hl with hl | ⟨u, hu, he⟩
    · have := h.full t x hx (Nat.le_refl _) hl; omega
    · have := h.seen (u, x) (by rw [List.take_length]; exact he) hu
      have h2 := h.le x hx
      exact ⟨this, by omega⟩

theorem f23_ok {n : Nat} {E : List (Nat × Nat)} (hN : Nod n E) (hn : n ≤ 10) (hl : E.length ≤ 100) {S : List Nat} (hS : Sub n S) (hSl : S.length ≤ 10) (h39 : f39 5000 (grOf n E) (il S) = some 0) : Yld (f23 5000 (grOf n E) (il S)) fun r => ∃ D, r = (dl n D, 0) ∧ Dist n E S D := by
  unfold f23
  rw [h39, Option.bind_some, d_true rfl, Bool.not_true, cond_false, show (grOf n E).2.1 = toL E from rfl, show (grOf n E).1 = (n : Int) from rfl, f41_eq hN hn hl, Option.bind_some]
  refine Yld.then (f40_ok hN hn hS hSl) ?_
  rintro r ⟨D, rfl, h⟩
  exact Yld.ret ⟨D, rfl, h⟩
/-- The refused. -/
theorem bad39 {g : Gr} {c : Int} (A : List Int) (h1 : f34 5000 g = some c) (h2 : f22 5000 g = some c) (hc : c ≠ 0) : f39 5000 g A = some c ∧ f44 5000 g A = some ([], c) := by
  unfold f39 f44
  rw [h1, h2, Option.bind_some, Option.bind_some, d_false hc]
  exact ⟨rfl, rfl⟩
theorem badA {g : Gr} {c : Int} {A : List Int} (h : f39 5000 g A = some c) (hc : c ≠ 0) : f23 5000 g A = some ([], c) ∧ f35 5000 g A = some ([], c) := by
  unfold f23 f35
  rw [h, Option.bind_some, Option.bind_some, d_false hc]
  exact ⟨rfl, rfl⟩
theorem badB {g : Gr} {c : Int} {A : List Int} (h : f44 5000 g A = some ([], c)) (hc : c ≠ 0) : f36 5000 g A = some ([], c) := by
  unfold f36
  rw [h, Option.bind_some, d_false hc]
  rfl
theorem bad44 {n : Nat} {E : List (Nat × Nat)} (hN : Nod n E) (hn : n ≤ 10) (hl : E.length ≤ 100) {A : List Int} (h : f53 5000 (grOf n E) A = some false) : f44 5000 (grOf n E) A = some ([], 3) := by
  unfold f44
  rw [f22_0 hN hn hl, Option.bind_some, d_true rfl, Bool.not_true, cond_false, h]
  rfl

/-- The cases of a question about nodes of a graph. -/
theorem q_cases {g : Gr} (hF : Fits g) (A : List Int) (hA : A.length ≤ 10) (h14 : f14 5000 g = some true) :
    (∃ c : Int, c ≠ 0 ∧ f23 5000 g A = some ([], c) ∧ f35 5000 g A = some ([], c) ∧ f36 5000 g A = some ([], c) ∧ (f22 5000 g = some c ∨ (f22 5000 g = some 0 ∧ c = 3 ∧ ∃ n E, g = grOf n E ∧ n ≤ 10 ∧ ∃ a ∈ A, inN n E a = false))) ∨
    (∃ n E S, g = grOf n E ∧ Nod n E ∧ n ≤ 10 ∧ E.length ≤ 100 ∧ A = il S ∧ Sub n S ∧ S.length ≤ 10 ∧ f39 5000 g A = some 0 ∧ f53 5000 g A = some true) := by
  rcases few_cases g hF with h0 | ⟨h0, h1, h2, h3⟩
  · rw [h0] at h14; cases h14
  rcases h3 with hc | ⟨hc, n, E, hs⟩
  · left
    obtain ⟨b1, b2⟩ := bad39 A h1 h2 hc
    exact ⟨chkS g, hc, (badA b1 hc).1, (badA b1 hc).2, badB b2 hc, .inl h2⟩
  · obtain ⟨rfl, hn, h10, h40⟩ := hs
    have hl : E.length ≤ 100 := by omega
    rcases nodes_cases hn h10 hl A hA with ⟨c1, c2, c3⟩ | ⟨S, rfl, c1, c2, c3⟩
    · left
      have b2 := bad44 hn h10 hl c2
      exact ⟨3, by omega, (badA c1 (by omega)).1, (badA c1 (by omega)).2, badB b2 (by omega), .inr ⟨by rw [h2, hc], rfl, n, E, rfl, h10, c3⟩⟩
    · right
      rw [il_len] at hA
      exact ⟨n, E, S, rfl, hn, h10, hl, rfl, c1, hA, c2, c3⟩

end Go.Kz
