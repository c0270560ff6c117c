/-
  Layer 44, plain: ways to cut a load into groups; the least costs fall by less each time; the search for the bounds.
-/
import Derived.Test.YtakifbcgkbfclaaKzB4
set_option linter.unusedVariables false
set_option linter.unusedSimpArgs false
namespace Go.Kz

/-! ## cuts: the ends of the groups from a place on -/
def chainC (c : Nat → Nat → Int) : Nat → List Nat → Int
  | _, [] => 0
  | h, i :: r => c h i + chainC c i r
/-- Groups, some of which may be empty, up to n. -/
def WChain (n : Nat) : Nat → List Nat → Prop
  | h, [] => h = n
  | h, i :: r => h ≤ i ∧ i ≤ n ∧ WChain n i r
theorem WChain.le {n : Nat} : {h : Nat} → {l : List Nat} → WChain n h l → h ≤ n
  | _, [], h => Nat.le_of_eq h
  | _, _ :: _, h => Nat.le_trans h.1 h.2.1

/-- The quadrangle inequality. -/
def QI (c : Nat → Nat → Int) (n : Nat) : Prop := ∀ a b x y, a ≤ b → b ≤ x → x ≤ y → y ≤ n → c a x + c b y ≤ c a y + c b x

theorem cross {c : Nat → Nat → Int} {n : Nat} (hq : QI c n) (h0 : c n n = 0) : (A B : List Nat) → (a b : Nat) → a ≤ b → WChain n a A → WChain n b B → B.length = A.length + 1 →
    ∃ X Y, WChain n a X ∧ WChain n b Y ∧ X.length = A.length + 1 ∧ Y.length = A.length ∧ chainC c a X + chainC c b Y ≤ chainC c a A + chainC c b B
  | [], B, a, b, hab, hA, hB, hl => by
    match B, hl with
    | [i], _ =>
      obtain ⟨h1, h2, h3⟩ := hB
      have h3 : i = n := h3
      have hA : a = n := hA
      subst h3
      subst hA
      obtain rfl : b = a := by omega
      exact ⟨[b], [], ⟨Nat.le_refl _, Nat.le_refl _, rfl⟩, rfl, rfl, rfl, by simp [chainC, h0]⟩
  | a' :: A, b' :: B, a, b, hab, hA, hB, hl => by
    obtain ⟨p1, p2, p3⟩ := hA
    obtain ⟨q1, q2, q3⟩ := hB
    simp only [List.length_cons] at hl
    by_cases h : b' ≤ a'
    · have := hq a b b' a' hab q1 h p2
      exact ⟨b' :: B, a' :: A, ⟨by omega, q2, q3⟩, ⟨by omega, p2, p3⟩, by simp; omega, by simp, by simp only [chainC]; omega⟩
    · obtain ⟨X, Y, hX, hY, lX, lY, hc⟩ := cross hq h0 A B a' b' (by omega) p3 q3 (by omega)
      exact ⟨a' :: X, b' :: Y, ⟨p1, p2, hX⟩, ⟨q1, q2, hY⟩, by simp [lX], by simp [lY], by simp only [chainC]; omega⟩
  | a' :: A, [], a, b, hab, hA, hB, hl => by simp at hl

def lastF : Nat → List Nat → Nat
  | h, [] => h
  | _, i :: r => lastF i r
theorem chainC_snoc (c : Nat → Nat → Int) (i : Nat) : (l : List Nat) → (h : Nat) → chainC c h (l ++ [i]) = chainC c h l + c (lastF h l) i
  | [], h => by simp [chainC, lastF]
  | j :: l, h => by
    simp only [List.cons_append, chainC, chainC_snoc c i l j, lastF]
    omega
theorem WChain.snoc {n i : Nat} (hi : n ≤ i) : {l : List Nat} → {h : Nat} → WChain n h l → WChain i h (l ++ [i]) ∧ lastF h l = n
  | [], h, hw => by
    have hw : h = n := hw
    subst hw
    exact ⟨⟨hi, Nat.le_refl _, rfl⟩, rfl⟩
  | j :: l, h, hw => by
    obtain ⟨h1, h2, h3⟩ := hw
    obtain ⟨k1, k2⟩ := h3.snoc hi
    exact ⟨⟨h1, by omega, k1⟩, k2⟩

/-- Some cut costs as little as dp says. -/
theorem dp_chain (c : Nat → Nat → Int) : (j i : Nat) → ∃ A, WChain i 0 A ∧ A.length = j + 1 ∧ chainC c 0 A = dp c j i
  | 0, i => ⟨[i], ⟨Nat.zero_le _, Nat.le_refl _, rfl⟩, rfl, by simp [chainC, dp]⟩
  | j + 1, i => by
    obtain ⟨h, h1, h2⟩ := minTo_mem (fun h => dp c j h + c h i) i
    obtain ⟨A, hA, lA, cA⟩ := dp_chain c j h
    obtain ⟨k1, k2⟩ := hA.snoc h1
    refine ⟨A ++ [i], k1, by simp [lA], ?_⟩
    rw [chainC_snoc, k2, cA]
    simp only [dp]
    exact h2.symm
/-- No cut costs less. -/
theorem dp_least (c : Nat → Nat → Int) : (j i : Nat) → (A : List Nat) → WChain i 0 A → A.length = j + 1 → dp c j i ≤ chainC c 0 A
  | 0, i, A, hA, lA => by
    match A, lA with
    | [x], _ =>
      have : x = i := hA.2.2
      subst this
      simp [chainC, dp]
  | j + 1, i, A, hA, lA => by
    have hne : A ≠ [] := by intro h; subst h; simp at lA
    obtain ⟨B, x, rfl⟩ : ∃ B x, A = B ++ [x] := ⟨A.dropLast, A.getLast hne, (List.dropLast_concat_getLast hne).symm⟩
    have lB : B.length = j + 1 := by simpa using lA
    -- the cut without its last group
    have key : ∀ (B : List Nat) (h : Nat), WChain i h (B ++ [x]) → x = i ∧ lastF h B ≤ i ∧ WChain (lastF h B) h B := by
      intro B
      induction B with
      | nil =>
        intro h hw
        have hw : h ≤ x ∧ x ≤ i ∧ x = i := hw
        exact ⟨hw.2.2, by simp only [lastF]; omega, rfl⟩
      | cons y B ih =>
        intro h hw
        have hw : h ≤ y ∧ y ≤ i ∧ WChain i y (B ++ [x]) := hw
        obtain ⟨e, k1, k2⟩ := ih y hw.2.2
        exact ⟨e, k1, hw.1, WChain.le k2, k2⟩
    obtain ⟨e, k1, k2⟩ := key B 0 hA
    subst e
    rw [chainC_snoc]
    have h1 := dp_least c j _ B k2 lB
    have h2 := minTo_le (fun h => dp c j h + c h x) x _ k1
    have h5 : dp c (j + 1) x = minTo (fun h => dp c j h + c h x) x := rfl
    omega
theorem dp_convex {c : Nat → Nat → Int} {n : Nat} (hq : QI c n) (h0 : c n n = 0) (j : Nat) : 2 * dp c (j + 1) n ≤ dp c (j + 2) n + dp c j n := by
  obtain ⟨A, hA, lA, cA⟩ := dp_chain c j n
  obtain ⟨B, hB, lB, cB⟩ := dp_chain c (j + 2) n
  match B, lB with
  | b :: B, lB =>
    obtain ⟨h1, h2, h3⟩ := hB
    simp only [List.length_cons] at lB
    obtain ⟨X, Y, hX, hY, lX, lY, hc⟩ := cross hq h0 A B 0 b (Nat.zero_le _) hA h3 (by omega)
    have e1 := dp_least c (j + 1) n X hX (by omega)
    have e2 := dp_least c (j + 1) n (b :: Y) ⟨Nat.zero_le _, h2, hY⟩ (by simp; omega)
    simp only [chainC] at e2 cB
    omega
theorem dp_falls {c : Nat → Nat → Int} {i : Nat} (h0 : c i i = 0) (j : Nat) : dp c (j + 1) i ≤ dp c j i := by
  have := minTo_le (fun h => dp c j h + c h i) i i (Nat.le_refl _)
  simp only [dp]
  simp only [h0] at this
  omega
theorem dp_mono {c : Nat → Nat → Int} {i : Nat} (h0 : c i i = 0) {j : Nat} : {k : Nat} → j ≤ k → dp c k i ≤ dp c j i
  | 0, h => by obtain rfl : j = 0 := by omega
               exact Int.le_refl _
  | k + 1, h => by
    by_cases he : j = k + 1
    · subst he; exact Int.le_refl _
    · have := dp_mono h0 (j := j) (k := k) (by omega)
      have := dp_falls h0 k
      omega

theorem grp_qi {l : List Tim} (h : Load l) : QI (grp l) l.length := by
  intro a b x y hab hbx hxy hy
  by_cases e1 : a = b
  · subst e1; omega
  by_cases e2 : x = y
  · subst e2; omega
  rw [grp_at (show a < x by omega) (by omega), grp_at (show a < y by omega) hy, grp_at (show b < y by omega) hy]
  have hm := h.mono (a := x - 1) (y - 1) (by omega) (by omega)
  have hs := (h.sums (a := a) (b := b) hab (by omega)).1
  have hmul := Int.mul_le_mul_of_nonneg_right hm hs
  have ebx : grp l b x = (l[x - 1]'(by omega)).1 * (pw l x - pw l b) - (pp l x - pp l b) := by
    by_cases e3 : b = x
    · subst e3; rw [grp_self]; simp
    · rw [grp_at (by omega) (by omega)]
  rw [ebx]
  simp only [Int.mul_sub] at hmul ⊢
  omega

theorem dp_full {l : List Tim} (h : Load l) : (j i : Nat) → i ≤ j + 1 → i ≤ l.length → dp (grp l) j i = 0
  | 0, i, hi, hl => by
    simp only [dp]
    by_cases h0 : i = 0
    · subst h0; rw [grp_self]
    · obtain rfl : i = 1 := by omega
      rw [grp_at (by omega) hl, pw_succ (by omega), pp_succ (by omega), pw_zero, pp_zero]
      simp only [Nat.sub_self, Int.zero_add, Int.sub_zero]
      rw [Int.mul_comm]; omega
  | j + 1, i, hi, hl => by
    have h1 := (dp_range h (j + 1) i hl).1
    by_cases h0 : i = 0
    · subst h0
      have h2 := dp_falls (grp_self l 0) j
      rw [dp_full h j 0 (by omega) (by omega)] at h2
      omega
    · have h2 := minTo_le (fun h => dp (grp l) j h + grp l h i) i (i - 1) (by omega)
      have h3 := dp_full h j (i - 1) (by omega) (by omega)
      have h4 : grp l (i - 1) i = 0 := by
        rw [grp_at (by omega) hl]
        have e1 := pw_succ (l := l) (j := i - 1) (by omega)
        have e2 := pp_succ (l := l) (j := i - 1) (by omega)
        rw [show i - 1 + 1 = i from by omega] at e1 e2
        rw [e1, e2]
        have : (l[i - 1]'(by omega)).1 * (pw l (i - 1) + (l[i - 1]'(by omega)).2.1 - pw l (i - 1)) = (l[i - 1]'(by omega)).2.1 * (l[i - 1]'(by omega)).1 := by
          rw [Int.add_comm, Int.add_sub_cancel, Int.mul_comm]
        omega
      have h5 : dp (grp l) (j + 1) i = minTo (fun h => dp (grp l) j h + grp l h i) i := rfl
      omega
end Go.Kz
