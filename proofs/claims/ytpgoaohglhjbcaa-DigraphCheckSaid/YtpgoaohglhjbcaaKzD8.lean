/-
  Layer 06, plain: the heap.
-/
import Derived.Test.YtpgoaohglhjbcaaKzD4
set_option linter.unusedVariables false
set_option linter.unusedSimpArgs false
namespace Go.Kz

def par (k : Nat) : Nat := (k - 1) / 2
def Heap (m : Nat) (D : Nat → Int) : Prop := ∀ k, 0 < k → k < m → D (par k) ≤ D k
/-- The numbers in the first m places are those of P, each once. -/
structure Bag (m : Nat) (D : Nat → Int) (P : Int → Prop) : Prop where
  mem : ∀ v, (∃ k, k < m ∧ D k = v) ↔ P v
  inj : ∀ k l, k < m → l < m → D k = D l → k = l
def swp (D : Nat → Int) (i j : Nat) : Nat → Int := upF (upF D i (D j)) j (D i)
theorem swp_l (D : Nat → Int) (i j : Nat) : swp D i j i = D j := by
  unfold swp
  by_cases h : i = j
  · subst h; rw [upF_self]
  · rw [upF_ne _ _ h, upF_self]
theorem swp_r (D : Nat → Int) (i j : Nat) : swp D i j j = D i := by unfold swp; rw [upF_self]
theorem swp_ne (D : Nat → Int) {i j x : Nat} (h1 : x ≠ i) (h2 : x ≠ j) : swp D i j x = D x := by unfold swp; rw [upF_ne _ _ h2, upF_ne _ _ h1]
def sgm (i j x : Nat) : Nat := if x = i then j else if x = j then i else x
theorem swp_sgm (D : Nat → Int) (i j x : Nat) : swp D i j x = D (sgm i j x) := by
  unfold sgm
  by_cases h1 : x = i
  · subst h1; rw [if_pos rfl, swp_l]
  · rw [if_neg h1]
    by_cases h2 : x = j
    · subst h2; rw [if_pos rfl, swp_r]
    · rw [if_neg h2, swp_ne D h1 h2]
theorem sgm_sgm (i j x : Nat) : sgm i j (sgm i j x) = x := by
  unfold sgm
  repeat' split
  all_goals omega
theorem sgm_lt {m i j x : Nat} (hi : i < m) (hj : j < m) (hx : x < m) : sgm i j x < m := by
  unfold sgm
  repeat' split
  all_goals omega
theorem Bag.swap {m : Nat} {D : Nat → Int} {P : Int → Prop} (h : Bag m D P) {i j : Nat} (hi : i < m) (hj : j < m) : Bag m (swp D i j) P := by
  refine ⟨fun v => ?_, fun k l hk hl he => ?_⟩
  · rw [← h.mem v]
    constructor
    · rintro ⟨k, hk, rfl⟩
      exact ⟨sgm i j k, sgm_lt hi hj hk, (swp_sgm D i j k).symm⟩
    · rintro ⟨k, hk, rfl⟩
      exact ⟨sgm i j k, sgm_lt hi hj hk, by rw [swp_sgm, sgm_sgm]⟩
  · rw [swp_sgm, swp_sgm] at he
    have := h.inj _ _ (sgm_lt hi hj hk) (sgm_lt hi hj hl) he
    have h2 := congrArg (sgm i j) this
    rwa [sgm_sgm, sgm_sgm] at h2
theorem Bag.same {m : Nat} {D D' : Nat → Int} {P : Int → Prop} (h : Bag m D P) (he : ∀ k, k < m → D' k = D k) : Bag m D' P := by
  refine ⟨fun v => ?_, fun k l hk hl e => ?_⟩
  · rw [← h.mem v]
    constructor
    · rintro ⟨k, hk, rfl⟩; exact ⟨k, hk, (he k hk).symm⟩
    · rintro ⟨k, hk, rfl⟩; exact ⟨k, hk, he k hk⟩
  · rw [he k hk, he l hl] at e; exact h.inj k l hk hl e
theorem Bag.push {m : Nat} {D : Nat → Int} {P : Int → Prop} (h : Bag m D P) {c : Int} (hc : ¬ P c) : Bag (m + 1) (upF D m c) (fun v => P v ∨ v = c) := by
  have hne : ∀ k, k < m → upF D m c k = D k := fun k hk => upF_ne D _ (by omega)
  refine ⟨fun v => ?_, fun k l hk hl e => ?_⟩
  · constructor
    · rintro ⟨k, hk, rfl⟩
      by_cases e : k = m
      · subst e; right; exact upF_self _ _ _
      · left; rw [hne k (by omega)]; exact (h.mem _).1 ⟨k, by omega, rfl⟩
    · rintro (hp | rfl)
      · obtain ⟨k, hk, rfl⟩ := (h.mem v).2 hp
        exact ⟨k, by omega, hne k hk⟩
      · exact ⟨m, by omega, upF_self _ _ _⟩
  · by_cases e1 : k = m
    · by_cases e2 : l = m
      · omega
      · subst e1
        rw [upF_self, hne l (by omega)] at e
        exact absurd ((h.mem c).1 ⟨l, by omega, e.symm⟩) hc
    · by_cases e2 : l = m
      · subst e2
        rw [upF_self, hne k (by omega)] at e
        exact absurd ((h.mem c).1 ⟨k, by omega, e⟩) hc
      · rw [hne k (by omega), hne l (by omega)] at e
        exact h.inj k l (by omega) (by omega) e
theorem Bag.pop {m : Nat} {D : Nat → Int} {P : Int → Prop} (h : Bag (m + 1) D P) : Bag m D (fun v => P v ∧ v ≠ D m) := by
  refine ⟨fun v => ?_, fun k l hk hl e => h.inj k l (by omega) (by omega) e⟩
  constructor
  · rintro ⟨k, hk, rfl⟩
    exact ⟨(h.mem _).1 ⟨k, by omega, rfl⟩, fun e => by have := h.inj k m (by omega) (by omega) e; omega⟩
  · rintro ⟨hp, hne⟩
    obtain ⟨k, hk, rfl⟩ := (h.mem v).2 hp
    exact ⟨k, by have : k ≠ m := fun e => hne (by rw [e]); omega, rfl⟩
theorem Heap.min {m : Nat} {D : Nat → Int} (h : Heap m D) : ∀ k, k < m → D 0 ≤ D k := by
  intro k
  induction k using Nat.strongRecOn with
  | _ k ih =>
    intro hk
    by_cases e : k = 0
    · subst e; exact Int.le_refl _
    · have h1 := h k (by omega) hk
      have h2 := ih (par k) (by unfold par; omega) (by unfold par; omega)
      omega

structure UpI (m : Nat) (D : Nat → Int) (j : Nat) : Prop where
  lt : j < m
  ord : ∀ k, 0 < k → k < m → k ≠ j → D (par k) ≤ D k
  kid : ∀ k, 0 < k → k < m → par k = j → 0 < j → D (par j) ≤ D k
structure DnI (b : Nat) (D : Nat → Int) (i : Nat) : Prop where
  ord : ∀ k, 0 < k → k < b → par k ≠ i → D (par k) ≤ D k
  kid : ∀ k, 0 < k → k < b → par k = i → 0 < i → D (par i) ≤ D k
theorem DnI.swap {b : Nat} {D : Nat → Int} {i j : Nat} (h : DnI b D i) (hj : j < b) (hp : par j = i) (hj0 : 0 < j) (hs : ∀ k, 0 < k → k < b → par k = i → D j ≤ D k) (hlt : D j < D i) : DnI b (swp D i j) j := by
  have hij : i < j := by rw [← hp]; unfold par; omega
  refine ⟨fun k hk hkb hne => ?_, fun k hk hkb hpk h0 => ?_⟩
  · by_cases e : par k = i
    · rw [e, swp_l]
      by_cases e2 : k = j
      · subst e2; rw [swp_r]; omega
      · have hki : k ≠ i := fun e' => by rw [e'] at e; unfold par at e; omega
        rw [swp_ne D hki e2]; exact hs k hk hkb e
    · rw [swp_ne D e hne]
      have hkj : k ≠ j := fun e' => by rw [e'] at e; exact e hp
      by_cases e2 : k = i
      · subst e2
        rw [swp_l]
        exact h.kid j hj0 hj hp hk
      · rw [swp_ne D e2 hkj]; exact h.ord k hk hkb e
  · rw [hp, swp_l]
    have hjk : j < k := by rw [← hpk]; unfold par; omega
    rw [swp_ne D (by omega) (by omega)]
    have := h.ord k hk hkb (by rw [hpk]; omega)
    rwa [hpk] at this
end Go.Kz
