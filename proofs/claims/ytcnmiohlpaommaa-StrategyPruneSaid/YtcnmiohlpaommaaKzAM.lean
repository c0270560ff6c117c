/-
  Loops that count up.
-/
import Derived.Test.YtcnmiohlpaommaaKzAL
set_option linter.unusedVariables false
set_option linter.unusedSimpArgs false
namespace Go.Kz
variable {σ R : Type} {r : Option R}

theorem iter_for {F : (Int × σ → Option R) → Int × σ → Option R} (Inv : Nat → σ → Prop) (n : Nat)
    (step : ∀ (k : Nat) (s : σ) (w : Int × σ → Option R), k < n → Inv k s → (∀ s', Inv (k + 1) s' → w ((k : Int) + 1, s') = r) → F w ((k : Int), s) = r)
    (last : ∀ (s : σ) (w : Int × σ → Option R), Inv n s → F w ((n : Int), s) = r) (N : Nat) (hN : n < N) (s0 : σ) (h0 : Inv 0 s0) : iter F N (0, s0) = r := by
  refine iter_rule (fun x => ∃ k : Nat, x.1 = (k : Int) ∧ k ≤ n ∧ Inv k x.2) (fun x => n - x.1.toNat) ?_ N (0, s0) ⟨0, rfl, by omega, h0⟩ (by simpa using hN)
  rintro ⟨x, s⟩ w ⟨k, hx, hk, hi⟩ hw
  simp only at hx hi
  subst hx
  by_cases hlt : k < n
  · exact step k s w hlt hi fun s' hs' => hw _ ⟨k + 1, by simp, by omega, hs'⟩ (by simp; omega)
  · have : k = n := by omega
    subst this
    exact last s w hi
theorem iter_forR {F : (σ × Int → Option R) → σ × Int → Option R} (Inv : Nat → σ → Prop) (n : Nat)
    (step : ∀ (k : Nat) (s : σ) (w : σ × Int → Option R), k < n → Inv k s → (∀ s', Inv (k + 1) s' → w (s', (k : Int) + 1) = r) → F w (s, (k : Int)) = r)
    (last : ∀ (s : σ) (w : σ × Int → Option R), Inv n s → F w (s, (n : Int)) = r) (N : Nat) (hN : n < N) (s0 : σ) (h0 : Inv 0 s0) : iter F N (s0, 0) = r := by
  refine iter_rule (fun x => ∃ k : Nat, x.2 = (k : Int) ∧ k ≤ n ∧ Inv k x.1) (fun x => n - x.2.toNat) ?_ N (s0, 0) ⟨0, rfl, by omega, h0⟩ (by simpa using hN)
  rintro ⟨s, x⟩ w ⟨k, hx, hk, hi⟩ hw
  simp only at hx hi
  subst hx
  by_cases hlt : k < n
  · exact step k s w hlt hi fun s' hs' => hw _ ⟨k + 1, by simp, by omega, hs'⟩ (by simp; omega)
  · have : k = n := by omega
    subst this
    exact last s w hi
theorem iter_forI {F : (Int → Option R) → Int → Option R} (Inv : Nat → Prop) (n : Nat)
    (step : ∀ (k : Nat) (w : Int → Option R), k < n → Inv k → (Inv (k + 1) → w ((k : Int) + 1) = r) → F w (k : Int) = r)
    (last : ∀ (w : Int → Option R), Inv n → F w (n : Int) = r) (N : Nat) (hN : n < N) (h0 : Inv 0) : iter F N 0 = r := by
  refine iter_rule (fun x => ∃ k : Nat, x = (k : Int) ∧ k ≤ n ∧ Inv k) (fun x => n - x.toNat) ?_ N 0 ⟨0, rfl, by omega, h0⟩ (by simpa using hN)
  rintro x w ⟨k, hx, hk, hi⟩ hw
  subst hx
  by_cases hlt : k < n
  · exact step k w hlt hi fun hs' => hw _ ⟨k + 1, by simp, by omega, hs'⟩ (by simp; omega)
  · have : k = n := by omega
    subst this
    exact last w hi

theorem dlt {k n : Nat} (h : k < n) : decide ((k : Int) < (n : Int)) = true := by simp [h]
theorem dnlt (n : Nat) : decide ((n : Int) < (n : Int)) = false := by simp
theorem dlt_len {α : Type} {l : List α} {k : Nat} (h : k < l.length) : decide ((k : Int) < len l) = true := by simp [len, h]
theorem dnlt_len {α : Type} (l : List α) : decide (((l.length : Nat) : Int) < len l) = false := by simp [len]
theorem chk_room {n : Nat} {x : Option R} (h : n ≤ 4294967296) : chk (decide (n ≤ room)) x = x := chk_true (decide_eq_true h)
theorem take_succ {α : Type} {l : List α} {k : Nat} (h : k < l.length) : l.take (k + 1) = l.take k ++ [l[k]] := by rw [List.take_succ_eq_append_getElem h]
theorem rev_ind {α : Type} {p : List α → Prop} (h0 : p []) (h1 : ∀ l x, p l → p (l ++ [x])) (l : List α) : p l := by
  have : ∀ n (l : List α), l.length = n → p l := by
    intro n
    induction n with
    | zero => intro l hl; have := List.eq_nil_of_length_eq_zero hl; subst this; exact h0
    | succ n ih =>
      intro l hl
      have hne : l ≠ [] := by intro h; subst h; simp at hl
      rw [← List.dropLast_concat_getLast hne]
      exact h1 _ _ (ih _ (by simp [hl]))
  exact this _ l rfl
end Go.Kz
