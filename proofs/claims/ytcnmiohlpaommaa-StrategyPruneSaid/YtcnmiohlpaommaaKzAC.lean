/-
  Regions whose order is drawn: an operation that yields its value may be taken first.
-/
import Derived.Test.YtcnmiohlpaommaaKzAB
import Derived.OrdersHeld
set_option linter.unusedVariables false
set_option linter.unusedSimpArgs false
namespace Go.Kz

section
variable {P : Program} {ops : Array Oper} {Q : Exit → Act → World → Prop} {md : Region.Mode} {w0 : World}

/-- Whatever order is picked; an operation that does not write lets the old blocks stand. -/
def anyG (P : Program) (md : Region.Mode) (ops : Array Oper) (Q : Exit → Act → World → Prop) : Nat → Array Bool → Act → World → Prop
  | 0, listed, a, w => Region.ready md ops listed = [] ∧ Q .normal a w
  | fuel + 1, listed, a, w =>
    (Region.ready md ops listed = [] → Q .normal a w) ∧
    ∀ i ∈ Region.ready md ops listed, wpOp P ops Q i (fun a' w' => ((∀ o, ops[i]? = some o → isM o = false → Agree w w')) ∧ anyG P md ops Q fuel (listed.setIfInBounds i true) a' w') a w

theorem wpAny_of_G : ∀ (fuel : Nat) (listed : Array Bool) (a : Act) (w : World), anyG P md ops Q fuel listed a w → wpAny P md ops Q fuel listed a w
  | 0, _, _, _, h => h
  | fuel + 1, _, _, _, h => ⟨h.1, fun i hi => wpOp_mono (fun a' w' h' => wpAny_of_G fuel _ a' w' h'.2) (h.2 i hi)⟩

/-- The operations in Lt wait, one by way of another, for i. -/
def Waits (md : Region.Mode) (ops : Array Oper) (i : Nat) (Lt : List Nat) : Prop :=
  ∀ x ∈ Lt, ∀ ox, ops[x]? = some ox → ∃ e ∈ ox.after, Region.binds md e = true ∧ (e.on = i ∨ e.on ∈ Lt)

theorem waits_not {i : Nat} {Lt : List Nat} {listed : Array Bool} (hw : Waits md ops i Lt) (hl : ∀ x ∈ Lt, listed.getD x true = false) (hi : listed.getD i true = false) {j : Nat} (hj : j ∈ Region.ready md ops listed) : j ∉ Lt := by
  intro hjl
  obtain ⟨_, oj, hoj, hall⟩ := mem_ready.1 hj
  obtain ⟨e, he, hb, hon⟩ := hw j hjl oj hoj
  have h1 := hall e he hb
  have h0 : listed.getD e.on true = false := by
    rcases hon with h | h
    · rw [h]; exact hi
    · exact hl _ h
  rcases Nat.lt_or_ge e.on listed.size with h' | h'
  · simp [h'] at h0 h1; rw [h0] at h1; cases h1
  · simp [Array.getElem?_eq_none h'] at h1

theorem anyG_first {i : Nat} {oi : Oper} {v : Value} {Lt : List Nat} (hi : ops[i]? = some oi) (hsel : ∀ (j : Nat) (o : Oper) cs b, ops[j]? = some o → o.op ≠ .select cs b)
    (hQ : ∀ c a w, ¬ Q (.panic c) a w) (hwt : Waits md ops i Lt) :
    ∀ (fuel : Nat) (listed : Array Bool) (a : Act) (w : World),
      (∀ j oj, ops[j]? = some oj → j ≠ i → listed.getD j true = false → (∀ e ∈ oj.after, Region.binds md e = true → e.on ≠ i) → oi.apart ops oj = true) →
      (∀ x ∈ Lt, listed.getD x true = false) → (∀ j oj, ops[j]? = some oj → j ≠ i → listed.getD j true = false → isM oj = true → j ∈ Lt) →
      i ∈ Region.ready md ops listed → YieldsIf P ops (Agree w0) oi v a → Agree w0 w →
      anyG P md ops Q fuel (listed.setIfInBounds i true) (a.put oi.dst v) w → anyG P md ops Q (fuel + 1) listed a w := by
  intro fuel
  induction fuel with
  | zero =>
    intro listed a w _ _ _ hr hy hS H
    refine ⟨fun h => (by rw [h] at hr; cases hr), fun j hj => ?_⟩
    by_cases hji : j = i
    · subst hji; exact hy.wpOp hi hS ⟨fun _ _ _ => Agree.refl w, H⟩
    · have := ready_mono hj hji
      rw [H.1] at this
      cases this
  | succ fuel ih =>
    intro listed a w hfree hlt hM hr hy hS H
    refine ⟨fun h => (by rw [h] at hr; cases hr), fun j hj => ?_⟩
    by_cases hji : j = i
    · subst hji; exact hy.wpOp hi hS ⟨fun _ _ _ => Agree.refl w, H⟩
    · have h1 := H.2 j (ready_mono hj hji)
      have hi0 := (mem_ready.1 hr).1
      have hjl := waits_not hwt hlt hi0 hj
      obtain ⟨hjun, oj, hoj, hall⟩ := mem_ready.1 hj
      have hnM : isM oj = false := by
        cases hm : isM oj with
        | false => rfl
        | true => exact absurd (hM j oj hoj hji hjun hm) hjl
      have hnot : ∀ e ∈ oj.after, Region.binds md e = true → e.on ≠ i := fun e he hb heq => by
        have h1 := hall e he hb
        have h0 := hi0
        rw [heq] at h1
        rcases Nat.lt_or_ge i listed.size with h' | h'
        · simp [h'] at h0 h1; rw [h0] at h1; cases h1
        · simp [Array.getElem?_eq_none h'] at h1
      have h2 := wpOp_putIf hoj (hfree j oj hoj hji hjun hnot) (fun cs b => hsel i oi cs b hi) (fun cs b => hsel j oj cs b hoj) (fun c a w h => absurd h (hQ _ _ _)) hy h1
      have hsub : ∀ k, (listed.setIfInBounds j true).getD k true = false → listed.getD k true = false := fun k hun => by
        by_cases hjk : j = k
        · subst hjk; exact hjun
        · rw [getD_set_ne true hjk] at hun; exact hun
      refine wpOp_mono (fun a' w' h3 => ⟨h3.2.1, ih (listed.setIfInBounds j true) a' w' (fun k ok hk hki hun hno => hfree k ok hk hki (hsub k hun) hno) (fun x hx => ?_) (fun k ok hk hki hun hm => hM k ok hk hki (hsub k hun) hm)
        (ready_mono hr (Ne.symm hji)) h3.1 (hS.trans (h3.2.1 oj hoj hnM)) ?_⟩) h2
      · have hne : j ≠ x := fun he => hjl (he ▸ hx)
        rw [getD_set_ne true hne]; exact hlt x hx
      · rw [Array.setIfInBounds_comm _ _ hji]
        exact h3.2.2
end

end Go.Kz
