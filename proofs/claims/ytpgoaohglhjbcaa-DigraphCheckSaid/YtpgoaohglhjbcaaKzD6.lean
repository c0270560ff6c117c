/-
  Layer 06, plain: laws 6 and 9.
-/
import Derived.Test.YtpgoaohglhjbcaaKzD5
set_option linter.unusedVariables false
set_option linter.unusedSimpArgs false
namespace Go.Kz

theorem rep_map {α : Type} (n : Nat) (c : α) : List.replicate n c = (List.range n).map fun _ => c := by
  apply List.ext_getElem?
  intro i
  by_cases hi : i < n
  · rw [map_range_get _ hi, List.getElem?_replicate_of_lt hi]
  · rw [List.getElem?_eq_none (by simp; omega), List.getElem?_eq_none (by simp; omega)]
theorem inN_iff {n : Nat} {E : List (Nat × Nat)} {a : Int} : inN n E a = true ↔ 0 ≤ a ∧ a < n := by
  unfold inN
  rw [Bool.and_eq_true, decide_eq_true_eq, decide_eq_true_eq]
  exact Iff.rfl
theorem sub1 {n a : Nat} (h : a < n) : Sub n [a] := fun x hx => by rw [List.mem_singleton] at hx; omega
theorem one_ok {n : Nat} {E : List (Nat × Nat)} (h : Nod n E) (hn : n ≤ 10) (hl : E.length ≤ 100) {S : List Nat} (hS : Sub n S) (hSl : S.length ≤ 10) : f39 5000 (grOf n E) (il S) = some 0 ∧ f53 5000 (grOf n E) (il S) = some true := by
  rcases nodes_cases h hn hl (il S) (by rw [il_len]; omega) with ⟨_, _, y, hy, hb⟩ | ⟨S', hS', _, h1, h2⟩
  · obtain ⟨x, hx, rfl⟩ := List.mem_map.1 hy
    have := inN_iff (n := n) (E := E) (a := (x : Int)).2 (by have := hS x hx; omega)
    rw [this] at hb; cases hb
  · exact ⟨h1, h2⟩
theorem bad31 {g : Gr} {c : Int} (h1 : f34 5000 g = some c) (h2 : f22 5000 g = some c) (hc : c ≠ 0) : f31 5000 g = some ([], c) ∧ f32 5000 g = some ([], c) := by
  unfold f31 f32
  rw [h1, h2, Option.bind_some, Option.bind_some, d_false hc]
  exact ⟨rfl, rfl⟩
end Go.Kz
