/-
  Layer 06, plain: cycles; law 8.
-/
import Derived.Test.YtpgoaohglhjbcaaKzD9
set_option linter.unusedVariables false
set_option linter.unusedSimpArgs false
namespace Go.Kz

theorem cnt_mem_le {n : Nat} : (m : List Nat) → (List.range n).countP (fun x => decide (x ∈ m)) ≤ m.length
  | [] => by simp
  | a :: m => by
    have ih := cnt_mem_le (n := n) m
    rw [List.length_cons]
    by_cases h : a < n ∧ a ∉ m
    · have := cnt_split (p := fun x => decide (x ∈ a :: m)) (q := fun x => decide (x ∈ m)) (n := n) a h.1 (by simp) (by simpa using h.2) fun u hu hne => by simp [hne]
      omega
    · have : (List.range n).countP (fun x => decide (x ∈ a :: m)) = (List.range n).countP (fun x => decide (x ∈ m)) := List.countP_congr fun u hu => by
        rw [List.mem_range] at hu
        simp only [List.mem_cons, decide_eq_true_eq]
        constructor
        · rintro (rfl | h')
          · exact Classical.byContradiction fun h' => h ⟨hu, h'⟩
          · exact h'
        · exact .inr
      omega
theorem some_out {n : Nat} {l : List Nat} (hl : l.length < n) : ∃ x, x < n ∧ x ∉ l := by
  refine Classical.byContradiction fun h => ?_
  have h1 := cnt_mem_le (n := n) l
  have h2 := cnt_le (p := fun x => decide (x ∈ l)) (q := fun _ => true) (n := n) fun x hx _ => by
    simp only [decide_eq_true_eq]
    exact Classical.byContradiction fun h' => h ⟨x, hx, h'⟩
  have h3 : (List.range n).countP (fun _ => true) = n := by simp
  omega
theorem Got.take {n : Nat} {E : List (Nat × Nat)} {acc : List Nat} (h : Got n E acc) (j : Nat) : Got n E (acc.take j) := by
  intro k hk
  rw [List.length_take] at hk
  rw [List.take_take, show min k j = k from by omega, List.getElem_take]
  exact h k (by omega)
theorem Got.back {n : Nat} {E : List (Nat × Nat)} (hN : Nod n E) {acc : List Nat} (h : Got n E acc) {b : Nat} : ∀ {k x}, Lv E [b] k x → x ∈ acc → b ∈ acc
  | 0, x, hl, hx => by rw [List.mem_singleton.1 hl] at hx; exact hx
  | k + 1, x, hl, hx => by
    rcases hl with hl | ⟨u, hu, he⟩
    · exact Got.back hN h hl hx
    · exact Got.back hN h hu (h.closed hN hx he)
/-- Is there a cycle? -/
noncomputable def cyc (E : List (Nat × Nat)) : Bool := E.any fun e => rB E [e.2] e.1
theorem cyc_yes {n : Nat} {E : List (Nat × Nat)} (hN : Nod n E) {fin : List Nat} (hnone : nxtO n E fin = none) (hl : fin.length < n) : cyc E = true := by
  cases hc : cyc E with
  | true => rfl
  | false =>
    exfalso
    unfold cyc at hc
    rw [List.any_eq_false] at hc
    have key : ∀ c x, x < n → x ∉ fin → (List.range n).countP (fun y => rB E [y] x) = c → False := by
      intro c
      induction c using Nat.strongRecOn with
      | _ c ih =>
        intro x hx hxf hcx
        have hr := List.find?_eq_none.1 hnone x (List.mem_range.2 hx)
        have : ∃ u, (u, x) ∈ E ∧ u ∉ fin := by
          refine Classical.byContradiction fun h => hr ((rdy_iff hN).2 ⟨hxf, fun u hu => Classical.byContradiction fun h' => h ⟨u, hu, h'⟩⟩)
        obtain ⟨u, he, huf⟩ := this
        have hlt := cnt_lt (p := fun y => rB E [y] x) (q := fun y => rB E [y] u) (n := n) (fun y _ hy => by
          obtain ⟨k, hk⟩ := rB_iff.1 hy
          exact rB_iff.2 ⟨k + 1, .inr ⟨u, hk, he⟩⟩) x hx (rB_iff.2 ⟨0, List.mem_singleton.2 rfl⟩) (by
            have := hc (u, x) he
            simpa using this)
        exact ih _ (by omega) u (hN _ he).1 huf rfl
    obtain ⟨x, hx, hxf⟩ := some_out hl
    exact key _ x hx hxf rfl

end Go.Kz
