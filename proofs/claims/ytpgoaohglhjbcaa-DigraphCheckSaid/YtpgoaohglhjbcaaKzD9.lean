/-
  Layer 06, plain: the order; law 4.
-/
import Derived.Test.YtpgoaohglhjbcaaKzD6
import Derived.Test.YtpgoaohglhjbcaaKzD8
set_option linter.unusedVariables false
set_option linter.unusedSimpArgs false
namespace Go.Kz

theorem pigeon {n : Nat} : {l : List Nat} → l.Nodup → Sub n l → l.length ≤ (List.range n).countP fun x => decide (x ∈ l)
  | [], _, _ => Nat.zero_le _
  | a :: l, hd, hs => by
    have hd' := List.nodup_cons.1 hd
    have ih := pigeon (n := n) hd'.2 fun x hx => hs x (List.mem_cons_of_mem _ hx)
    have := cnt_lt (p := fun x => decide (x ∈ a :: l)) (q := fun x => decide (x ∈ l)) (n := n) (fun x _ hx => by
      simp only [decide_eq_true_eq] at hx ⊢
      exact List.mem_cons_of_mem _ hx) a (hs a (by simp)) (by simp) (by simpa using hd'.1)
    rw [List.length_cons]
    omega
theorem pigeon' {n : Nat} {l : List Nat} (h : l.Nodup) (hs : Sub n l) : l.length ≤ n := Nat.le_trans (pigeon h hs) (cnt_n n _)
theorem Bag.le {m n : Nat} {D : Nat → Int} {P : Int → Prop} (h : Bag m D P) (hp : ∀ v, P v → 0 ≤ v ∧ v < n) : m ≤ n := by
  have hr : ∀ k, k < m → 0 ≤ D k ∧ D k < n := fun k hk => hp _ ((h.mem _).1 ⟨k, hk, rfl⟩)
  have := pigeon' (n := n) (l := (List.range m).map fun k => (D k).toNat) ?_ ?_
  · rwa [List.length_map, List.length_range] at this
  · rw [List.Nodup, List.pairwise_map]
    refine List.Pairwise.imp_of_mem (fun {a b} ha hb hab e => ?_) (range_asc m)
    rw [List.mem_range] at ha hb
    have := hr a ha
    have := hr b hb
    have := h.inj a b ha hb (by omega)
    omega
  · intro x hx
    obtain ⟨k, hk, rfl⟩ := List.mem_map.1 hx
    have := hr k (List.mem_range.1 hk)
    omega

def rdy (n : Nat) (E : List (Nat × Nat)) (acc : List Nat) (v : Nat) : Bool := !(decide (v ∈ acc)) && (List.range n).all fun u => !(hasE E u v && !(decide (u ∈ acc)))
theorem rdy_iff {n : Nat} {E : List (Nat × Nat)} (hN : Nod n E) {acc : List Nat} {v : Nat} : rdy n E acc v = true ↔ v ∉ acc ∧ ∀ u, (u, v) ∈ E → u ∈ acc := by
  unfold rdy
  rw [Bool.and_eq_true, List.all_eq_true]
  refine and_congr (by simp) ⟨fun h u he => ?_, fun h u hu => ?_⟩
  · have := h u (List.mem_range.2 (hN _ he).1)
    rw [hasE_iff.2 he] at this
    simpa using this
  · cases hh : hasE E u v with
    | false => rfl
    | true => simp [h u (hasE_iff.1 hh)]
def nxtO (n : Nat) (E : List (Nat × Nat)) (acc : List Nat) : Option Nat := (List.range n).find? (rdy n E acc)
/-- The nodes are taken in the right order so far. -/
def Got (n : Nat) (E : List (Nat × Nat)) (acc : List Nat) : Prop := ∀ k, (h : k < acc.length) → nxtO n E (acc.take k) = some acc[k]
theorem Got.nil (n : Nat) (E : List (Nat × Nat)) : Got n E [] := fun k h => by simp at h
theorem Got.at {n : Nat} {E : List (Nat × Nat)} (hN : Nod n E) {acc : List Nat} (h : Got n E acc) {k : Nat} (hk : k < acc.length) : acc[k] < n ∧ acc[k] ∉ acc.take k ∧ ∀ u, (u, acc[k]) ∈ E → u ∈ acc.take k := by
  have h1 := h k hk
  have h2 := List.find?_some h1
  have h3 := List.mem_of_find?_eq_some h1
  exact ⟨List.mem_range.1 h3, (rdy_iff hN).1 h2⟩
theorem Got.sub {n : Nat} {E : List (Nat × Nat)} (hN : Nod n E) {acc : List Nat} (h : Got n E acc) : Sub n acc := fun x hx => by
  obtain ⟨k, hk, rfl⟩ := List.mem_iff_getElem.1 hx
  exact (h.at hN hk).1
theorem mem_take {α : Type} {l : List α} {i k : Nat} (hi : i < l.length) (hik : i < k) : l[i] ∈ l.take k := by
  rw [List.mem_iff_getElem]
  exact ⟨i, by simp; omega, by rw [List.getElem_take]⟩
theorem Got.nodup {n : Nat} {E : List (Nat × Nat)} (hN : Nod n E) {acc : List Nat} (h : Got n E acc) : acc.Nodup := by
  rw [List.Nodup, List.pairwise_iff_getElem]
  intro i j hi hj hij e
  exact (h.at hN hj).2.1 (e ▸ mem_take hi hij)
theorem Got.len {n : Nat} {E : List (Nat × Nat)} (hN : Nod n E) {acc : List Nat} (h : Got n E acc) : acc.length ≤ n := pigeon' (h.nodup hN) (h.sub hN)
theorem Got.agree {n : Nat} {E : List (Nat × Nat)} {f1 f2 : List Nat} (h1 : Got n E f1) (h2 : Got n E f2) : ∀ k, k ≤ f1.length → k ≤ f2.length → f1.take k = f2.take k
  | 0, _, _ => rfl
  | k + 1, a, b => by
    have ih := Got.agree h1 h2 k (by omega) (by omega)
    have e1 := h1 k (by omega)
    have e2 := h2 k (by omega)
    rw [ih, e2] at e1
    rw [take_succ (show k < f1.length by omega), take_succ (show k < f2.length by omega), ih]
    simp only [Option.some.injEq] at e1
    rw [e1]
theorem Got.uniq {n : Nat} {E : List (Nat × Nat)} {f1 f2 : List Nat} (h1 : Got n E f1) (h2 : Got n E f2) (n1 : nxtO n E f1 = none) (n2 : nxtO n E f2 = none) : f1 = f2 := by
  have key : ∀ {a b : List Nat}, Got n E a → Got n E b → nxtO n E a = none → b.length ≤ a.length := by
    intro a b ha hb hn
    rcases Nat.lt_or_ge a.length b.length with h | h
    · have := hb a.length h
      rw [← Got.agree ha hb a.length (Nat.le_refl _) (by omega), List.take_length, hn] at this
      cases this
    · exact h
  have hl : f1.length = f2.length := Nat.le_antisymm (key h2 h1 n2) (key h1 h2 n1)
  have := Got.agree h1 h2 f1.length (Nat.le_refl _) (by omega)
  rwa [List.take_length, hl, List.take_length] at this

end Go.Kz
