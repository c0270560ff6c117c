/-
  The layer strategy: menus, strategies, their checks; plain laws.
-/
import Derived.Test.YtcnmiohlpaommaaKzS1
set_option linter.unusedVariables false
set_option linter.unusedSimpArgs false
namespace Go.Kz

theorem f12_5000 : f12 5000 = some true := by kernel_rfl

/-! ## Loops that may stop -/
section
variable {R β : Type}
def firstS (p : Nat → Option β) : Nat → Nat → Option β
  | 0, _ => none
  | n + 1, k => match p k with
    | some b => some b
    | none => firstS p n (k + 1)
theorem firstS_none {p : Nat → Option β} : {n k : Nat} → (firstS p n k = none ↔ ∀ i, k ≤ i → i < k + n → p i = none)
  | 0, k => by simp [firstS]; intro i h1 h2; omega
  | n + 1, k => by
    simp only [firstS]
    cases hp : p k with
    | some b =>
      simp only [reduceCtorEq, false_iff]
      intro h
      have := h k (Nat.le_refl _) (by omega)
      rw [hp] at this; simp at this
    | none =>
      simp only
      rw [firstS_none]
      constructor
      · intro h i h1 h2
        by_cases he : i = k
        · subst he; exact hp
        · exact h i (by omega) (by omega)
      · intro h i h1 h2
        exact h i (by omega) (by omega)

theorem iter_first {F : (Int → Option R) → Int → Option R} (p : Nat → Option β) (A : Option R) (E : β → Option R) (n : Nat)
    (step : ∀ (k : Nat) (w : Int → Option R), k < n → F w (k : Int) = match p k with
      | some b => E b
      | none => w ((k : Int) + 1))
    (last : ∀ (w : Int → Option R), F w (n : Int) = A) (N : Nat) (hN : n < N) : iter F N 0 = match firstS p n 0 with
      | some b => E b
      | none => A := by
  refine iter_forI (fun k => firstS p n 0 = firstS p (n - k) k) n ?_ ?_ N hN (by simp)
  · intro k w hk hi hw
    rw [step k w hk]
    have e : n - k = (n - (k + 1)) + 1 := by omega
    rw [e] at hi
    simp only [firstS] at hi
    cases hp : p k with
    | some b =>
      rw [hp] at hi
      rw [hi]
    | none =>
      rw [hp] at hi
      exact hw hi
  · intro w hi
    rw [last w, hi]
    simp [firstS]

theorem iter_all {F : (Int → Option R) → Int → Option R} {α : Type} (l : List α) (p : α → Bool) (A B : Option R)
    (step : ∀ (k : Nat) (w : Int → Option R) (hk : k < l.length), F w (k : Int) = if p l[k] then w ((k : Int) + 1) else B)
    (last : ∀ (w : Int → Option R), F w (l.length : Int) = A) (N : Nat) (hN : l.length < N) : iter F N 0 = if l.all p then A else B := by
  refine iter_forI (fun k => (l.take k).all p = true) l.length ?_ ?_ N hN (by simp)
  · intro k w hk hi hw
    rw [step k w hk]
    cases hp : p l[k] with
    | true =>
      simp only [if_true]
      exact hw (by rw [take_succ hk, List.all_append, hi, List.all_cons, hp]; rfl)
    | false =>
      simp only [Bool.false_eq_true, if_false]
      have : l.all p = false := by
        rw [List.all_eq_false]
        exact ⟨l[k], List.getElem_mem hk, by simp [hp]⟩
      rw [this]; rfl
  · intro w hi
    rw [List.take_length] at hi
    rw [last w, hi]; rfl
end

/-! ## Menus -/
abbrev Menu := Int × (List (List Int) × Unit)
abbrev Choice := Int × (List Int × Unit)
abbrev Ans := Int × (Int × Unit)

def viewOK (n : Int) (v : List Int) : Bool := decide (len v = n) && okP v
def menuOK (m : Menu) : Bool := decide (1 ≤ m.1) && decide (m.1 ≤ 62) && decide (m.2.1.length ≤ 8) && m.2.1.all (viewOK m.1)
def menuCode (m : Menu) : Int := if menuOK m then 0 else 1

theorem menuOK_iff {m : Menu} : menuOK m = true ↔ 1 ≤ m.1 ∧ m.1 ≤ 62 ∧ m.2.1.length ≤ 8 ∧ ∀ v ∈ m.2.1, len v = m.1 ∧ okP v = true := by
  simp [menuOK, viewOK, and_assoc]

theorem f17_eq (N : Nat) (hN : 400 < N) (m : Menu) : f17 N m = some (menuCode m) := by
  unfold f17 menuCode menuOK
  by_cases h1 : m.1 < 1
  · have e : decide (1 ≤ m.1) = false := by simp; omega
    simp [h1, e]
  by_cases h2 : 62 < m.1
  · have e : decide (m.1 ≤ 62) = false := by simp; omega
    simp [h1, h2, e]
  by_cases h3 : 8 < len m.2.1
  · have e : decide (m.2.1.length ≤ 8) = false := by simp [len] at h3 ⊢; omega
    simp [h1, h2, h3, e]
  have e1 : decide (1 ≤ m.1) = true := by simp; omega
  have e2 : decide (m.1 ≤ 62) = true := by simp; omega
  have e3 : decide (m.2.1.length ≤ 8) = true := by simp [len] at h3 ⊢; omega
  simp only [decide_eq_true_eq] at e3
  simp only [h1, h2, h3, e1, e2, e3, decide_false, decide_true, cond_false, Option.bind_some, Bool.true_and]
  rw [iter_all m.2.1 (viewOK m.1) (some 0) (some 1) ?_ ?_ N (by omega)]
  · split <;> rfl
  · intro k w hk
    simp only [f17_L4]
    rw [dlt_len hk, cond_true, idx_lt hk]
    simp only [Option.bind_some, viewOK]
    by_cases hl : len m.2.1[k] = m.1
    · have hl' : m.2.1[k].length ≤ 62 := by simp [len] at hl; omega
      simp only [hl, decide_true, Bool.not_true, cond_false, Bool.true_and]
      rw [f44_eq N _ (by omega) (by omega), wi64_of (by omega) (by omega)]
      cases okP m.2.1[k] <;> simp
    · simp [hl]
  · intro w
    simp only [f17_L4]
    rw [dnlt_len]; rfl
theorem f18_eq (N : Nat) (hN : 400 < N) (m : Menu) : f18 N m = some (menuCode m) := by
  unfold f18 menuCode menuOK
  by_cases h1 : m.1 < 1
  · have e : decide (1 ≤ m.1) = false := by simp; omega
    simp [h1, e]
  by_cases h2 : 62 < m.1
  · have e : decide (m.1 ≤ 62) = false := by simp; omega
    simp [h1, h2, e]
  by_cases h3 : 8 < len m.2.1
  · have e : decide (m.2.1.length ≤ 8) = false := by simp [len] at h3 ⊢; omega
    simp [h1, h2, h3, e]
  have e1 : decide (1 ≤ m.1) = true := by simp; omega
  have e2 : decide (m.1 ≤ 62) = true := by simp; omega
  have e3 : decide (m.2.1.length ≤ 8) = true := by simp [len] at h3 ⊢; omega
  simp only [decide_eq_true_eq] at e3
  simp only [h1, h2, h3, e1, e2, e3, decide_false, decide_true, cond_false, Option.bind_some, Bool.true_and]
  rw [iter_all m.2.1 (viewOK m.1) (some 0) (some 1) ?_ ?_ N (by omega)]
  · split <;> rfl
  · intro k w hk
    simp only [f18_L4]
    rw [dlt_len hk, cond_true, idx_lt hk]
    simp only [Option.bind_some, viewOK]
    by_cases hl : len m.2.1[k] = m.1
    · have hl' : m.2.1[k].length ≤ 62 := by simp [len] at hl; omega
      simp only [hl, decide_true, Bool.not_true, cond_false, Bool.true_and]
      rw [f25_eq N _ (by omega) (by omega), wi64_of (by omega) (by omega)]
      cases okP m.2.1[k] <;> simp
    · simp [hl]
  · intro w
    simp only [f18_L4]
    rw [dnlt_len]; rfl

/-! ## Strategies -/
def nextOK (n : Int) (i : Nat) (x : Int) : Bool := decide (x = -1) || (decide ((i : Int) < x) && decide (x < n))
/-- What is wrong at a node. -/
def nodeCode (m : Menu) (n : Int) (i : Nat) (c : Choice) : Option Int :=
  if 0 ≤ c.1 ∧ c.1 < m.2.1.length then
    if len c.2.1 = top 0 (m.2.1.getD c.1.toNat []) then
      if c.2.1.all (nextOK n i) then none else some 10
    else some 2
  else some 3
def chkCode (m : Menu) (s : List Choice) : Int :=
  if menuOK m then
    if s.length ≤ 256 then (firstS (fun i => nodeCode m (len s) i (s.getD i (0, [], ()))) s.length 0).getD 0 else 4
  else 1

theorem view_get {m : Menu} (hm : menuOK m = true) {i : Int} (h0 : 0 ≤ i) (h1 : i < m.2.1.length) :
    idx m.2.1 i = some (m.2.1.getD i.toNat []) ∧ len (m.2.1.getD i.toNat []) = m.1 ∧ okP (m.2.1.getD i.toNat []) = true := by
  have hlt : i.toNat < m.2.1.length := by omega
  have hg : m.2.1.getD i.toNat [] = m.2.1[i.toNat] := by simp [hlt]
  rw [idx_of h0 h1, hg]
  exact ⟨rfl, (menuOK_iff.1 hm).2.2.2 _ (List.getElem_mem hlt)⟩

theorem f19_eq (N : Nat) (hN : 400 < N) (m : Menu) (s : List Choice) : f19 N m s = some (chkCode m s) := by
  unfold f19 chkCode
  rw [f17_eq N hN]
  simp only [Option.bind_some, menuCode]
  cases hm : menuOK m with
  | false => simp
  | true =>
  simp only [if_true, decide_true, Bool.not_true, cond_false]
  by_cases hs : 256 < len s
  · have e : ¬ s.length ≤ 256 := by simp [len] at hs; omega
    simp [hs, e]
  have e : s.length ≤ 256 := by simp [len] at hs; omega
  simp only [hs, decide_false, cond_false, e, if_true]
  obtain ⟨m1, m2, m3, m4⟩ := menuOK_iff.1 hm
  rw [iter_first (fun i => nodeCode m (len s) i (s.getD i (0, [], ()))) (some 0) (fun b => some b) s.length ?_ ?_ N (by omega)]
  · generalize firstS (fun i => nodeCode m (len s) i (s.getD i (0, [], ()))) s.length 0 = x
    cases x <;> rfl
  · intro k w hk
    have hg : s.getD k (0, [], ()) = s[k] := by simp [hk]
    rw [hg]
    simp only [f19_L7]
    rw [dlt_len hk, cond_true, idx_lt hk]
    generalize s[k] = c
    simp only [Option.bind_some, nodeCode]
    by_cases h0 : 0 ≤ c.1 ∧ c.1 < m.2.1.length
    · have a1 : decide (c.1 < 0) = false := by simp; omega
      have a2 : decide (len m.2.1 ≤ c.1) = false := by simp [len]; omega
      obtain ⟨v1, v2, v3⟩ := view_get hm h0.1 h0.2
      have hvl : (m.2.1.getD c.1.toNat []).length ≤ 62 := by simp only [len] at v2; omega
      obtain ⟨t1, t2, _⟩ := top_bound v3
      rw [if_pos h0, a1, a2, v1]
      simp only [cond_false, Option.bind_some]
      rw [f45_eq N _ (by omega) (by omega), v3]
      simp only [if_true, Option.bind_some]
      by_cases hl : len c.2.1 = top 0 (m.2.1.getD c.1.toNat [])
      · have hcl : c.2.1.length ≤ 62 := by simp only [len] at hl; omega
        simp only [hl, decide_true, Bool.not_true, cond_false, if_true]
        rw [← hl, iter_all c.2.1 (nextOK (len s) k) (w ((k : Int) + 1)) (some 10) ?_ ?_ N (by omega)]
        · split <;> rfl
        · intro j v hj
          simp only [f19_L14]
          rw [dlt_len hj, cond_true, idx_lt hj]
          simp only [Option.bind_some, nextOK]
          rw [wi64_of (by omega) (by omega)]
          generalize c.2.1[j] = x
          by_cases b1 : x = -1
          · simp [b1]
          · by_cases b2 : x ≤ (k : Int)
            · have : ¬ (k : Int) < x := by omega
              simp [b1, b2, this]
            · have b3 : (k : Int) < x := by omega
              by_cases b4 : len s ≤ x
              · have : ¬ x < len s := by omega
                simp [b1, b2, b3, b4, this]
              · have : x < len s := by omega
                simp [b1, b2, b3, b4, this]
        · intro v
          simp only [f19_L14]
          rw [dnlt_len, cond_false, wi64_of (by omega) (by omega)]
      · simp only [hl, decide_false, Bool.not_false, cond_true, if_false]
    · rw [if_neg h0]
      by_cases a1 : c.1 < 0
      · simp [a1]
      · have a2 : decide (len m.2.1 ≤ c.1) = true := by simp [len]; omega
        simp [a1, a2]
  · intro w
    simp only [f19_L7]
    rw [dnlt_len]; rfl
theorem f14_eq (N : Nat) (hN : 400 < N) (m : Menu) (s : List Choice) : f14 N m s = some (chkCode m s) := by
  unfold f14 chkCode
  rw [f18_eq N hN]
  simp only [Option.bind_some, menuCode]
  cases hm : menuOK m with
  | false => simp
  | true =>
  simp only [if_true, decide_true, Bool.not_true, cond_false]
  by_cases hs : 256 < len s
  · have e : ¬ s.length ≤ 256 := by simp [len] at hs; omega
    simp [hs, e]
  have e : s.length ≤ 256 := by simp [len] at hs; omega
  simp only [hs, decide_false, cond_false, e, if_true]
  obtain ⟨m1, m2, m3, m4⟩ := menuOK_iff.1 hm
  rw [iter_first (fun i => nodeCode m (len s) i (s.getD i (0, [], ()))) (some 0) (fun b => some b) s.length ?_ ?_ N (by omega)]
  · generalize firstS (fun i => nodeCode m (len s) i (s.getD i (0, [], ()))) s.length 0 = x
    cases x <;> rfl
  · intro k w hk
    have hg : s.getD k (0, [], ()) = s[k] := by simp [hk]
    rw [hg]
    simp only [f14_L7]
    rw [dlt_len hk, cond_true, idx_lt hk]
    generalize s[k] = c
    simp only [Option.bind_some, nodeCode]
    by_cases h0 : 0 ≤ c.1 ∧ c.1 < m.2.1.length
    · have a1 : decide (c.1 < 0) = false := by simp; omega
      have a2 : decide (len m.2.1 ≤ c.1) = false := by simp [len]; omega
      obtain ⟨v1, v2, v3⟩ := view_get hm h0.1 h0.2
      have hvl : (m.2.1.getD c.1.toNat []).length ≤ 62 := by simp only [len] at v2; omega
      obtain ⟨t1, t2, _⟩ := top_bound v3
      rw [if_pos h0, a1, a2, v1]
      simp only [cond_false, Option.bind_some]
      rw [f26_eq N _ (by omega) (by omega) v3]
      simp only [Option.bind_some]
      by_cases hl : len c.2.1 = top 0 (m.2.1.getD c.1.toNat [])
      · have hcl : c.2.1.length ≤ 62 := by simp only [len] at hl; omega
        simp only [hl, decide_true, Bool.not_true, cond_false, if_true]
        rw [← hl, iter_all c.2.1 (nextOK (len s) k) (w ((k : Int) + 1)) (some 10) ?_ ?_ N (by omega)]
        · split <;> rfl
        · intro j v hj
          simp only [f14_L14]
          rw [dlt_len hj, cond_true, idx_lt hj]
          simp only [Option.bind_some, nextOK]
          rw [wi64_of (by omega) (by omega)]
          generalize c.2.1[j] = x
          by_cases b1 : x = -1
          · simp [b1]
          · by_cases b2 : x ≤ (k : Int)
            · have : ¬ (k : Int) < x := by omega
              simp [b1, b2, this]
            · have b3 : (k : Int) < x := by omega
              by_cases b4 : len s ≤ x
              · have : ¬ x < len s := by omega
                simp [b1, b2, b3, b4, this]
              · have : x < len s := by omega
                simp [b1, b2, b3, b4, this]
        · intro v
          simp only [f14_L14]
          rw [dnlt_len, cond_false, wi64_of (by omega) (by omega)]
      · simp only [hl, decide_false, Bool.not_false, cond_true, if_false]
    · rw [if_neg h0]
      by_cases a1 : c.1 < 0
      · simp [a1]
      · have a2 : decide (len m.2.1 ≤ c.1) = true := by simp [len]; omega
        simp [a1, a2]
  · intro w
    simp only [f14_L7]
    rw [dnlt_len]; rfl

/-- Few answers. -/
theorem f13_some (N : Nat) (hN : 400 < N) (m : Menu) (s : List Choice) (a b : Int) (hb : b ≤ 300) : ∃ x, f13 N m s a b = some x := by
  unfold f13
  have h1 : ∃ x, ((cond (decide (a < m.1)) ((f18 N m).bind fun r => some (decide (r = 0))) (some false)) : Option Bool) = some x := by
    rw [f18_eq N hN]
    cases decide (a < m.1) <;> simp
  obtain ⟨x, hx⟩ := h1
  rw [hx]
  simp only [Option.bind_some]
  cases x with
  | true => simp
  | false =>
  simp only [cond_false, Option.bind_some]
  by_cases h2 : 12 < len m.2.1
  · simp [h2]
  by_cases h3 : b < len s
  · simp [h2, h3]
  have hs : s.length ≤ 300 := by simp [len] at h3; omega
  have hv : m.2.1.length ≤ 12 := by simp [len] at h2; omega
  simp only [h2, h3, decide_false, cond_false, Option.bind_some]
  rw [iter_all m.2.1 (fun v => !decide (wi64 (2 * a) < len v)) (if s.all (fun c => !decide (wi64 (2 * a) < len c.2.1)) then some true else some false) (some false) ?_ ?_ N (by omega)]
  · split
    · split <;> exact ⟨_, rfl⟩
    · exact ⟨_, rfl⟩
  · intro k w hk
    simp only [f13_L4]
    rw [dlt_len hk, cond_true, idx_lt hk, wi64_of (n := (k : Int) + 1) (by omega) (by omega)]
    simp only [Option.bind_some]
    cases decide (wi64 (2 * a) < len m.2.1[k]) <;> simp
  · intro w
    simp only [f13_L4]
    rw [dnlt_len, cond_false]
    rw [iter_all s (fun c => !decide (wi64 (2 * a) < len c.2.1)) (some true) (some false) ?_ ?_ N (by omega)]
    · intro k w hk
      simp only [f13_L10]
      rw [dlt_len hk, cond_true, idx_lt hk, wi64_of (n := (k : Int) + 1) (by omega) (by omega)]
      simp only [Option.bind_some]
      cases decide (wi64 (2 * a) < len s[k].2.1) <;> simp
    · intro w
      simp only [f13_L10]
      rw [dnlt_len]; rfl

end Go.Kz
