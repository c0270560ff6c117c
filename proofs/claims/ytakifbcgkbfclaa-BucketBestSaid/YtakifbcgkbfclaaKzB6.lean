/-
  Layer 44, plain: what Best returns.
-/
import Derived.Test.YtakifbcgkbfclaaKzB5
set_option linter.unusedVariables false
set_option linter.unusedSimpArgs false
namespace Go.Kz

abbrev NV : Int := 1152921504606846976
def exTo (c : Nat → Nat → Int) (f : Nat → Int) (h : Nat) : Nat → Int
  | 0 => NV
  | m + 1 => if f (h + m + 1) < NV then minI (exTo c f h m) (c h (h + m + 1) + f (h + m + 1)) else exTo c f h m
/-- The least cost of the elements from h on in exactly j groups. -/
def ex (c : Nat → Nat → Int) (n : Nat) : Nat → Nat → Int
  | 0, h => if h = n then 0 else NV
  | j + 1, h => exTo c (ex c n j) h (n - h)
theorem exTo_le_NV (c : Nat → Nat → Int) (f : Nat → Int) (h : Nat) : (m : Nat) → exTo c f h m ≤ NV
  | 0 => Int.le_refl _
  | m + 1 => by
    have := exTo_le_NV c f h m
    simp only [exTo]
    split
    · unfold minI; split <;> omega
    · exact this
theorem exTo_le {c : Nat → Nat → Int} {f : Nat → Int} {h : Nat} : (m x : Nat) → x < m → f (h + x + 1) < NV → exTo c f h m ≤ c h (h + x + 1) + f (h + x + 1)
  | m + 1, x, hx, hf => by
    simp only [exTo]
    by_cases he : x = m
    · subst he
      rw [if_pos hf]
      unfold minI; split <;> omega
    · have := exTo_le (c := c) m x (by omega) hf
      split
      · unfold minI; split <;> omega
      · exact this
theorem exTo_mem {c : Nat → Nat → Int} {f : Nat → Int} {h : Nat} : (m : Nat) → exTo c f h m < NV → ∃ x, x < m ∧ f (h + x + 1) < NV ∧ c h (h + x + 1) + f (h + x + 1) = exTo c f h m
  | 0, hlt => by simp [exTo] at hlt
  | m + 1, hlt => by
    simp only [exTo] at hlt ⊢
    by_cases hf : f (h + m + 1) < NV
    · rw [if_pos hf] at hlt ⊢
      unfold minI at hlt ⊢
      by_cases hc : c h (h + m + 1) + f (h + m + 1) < exTo c f h m
      · rw [if_pos hc]
        exact ⟨m, by omega, hf, rfl⟩
      · rw [if_neg hc] at hlt ⊢
        obtain ⟨x, h1, h2, h3⟩ := exTo_mem m hlt
        exact ⟨x, by omega, h2, h3⟩
    · rw [if_neg hf] at hlt ⊢
      obtain ⟨x, h1, h2, h3⟩ := exTo_mem m hlt
      exact ⟨x, by omega, h2, h3⟩
theorem ex_mem {c : Nat → Nat → Int} {n j h : Nat} (hlt : ex c n (j + 1) h < NV) : ∃ i, h < i ∧ i ≤ n ∧ ex c n j i < NV ∧ c h i + ex c n j i = ex c n (j + 1) h := by
  simp only [ex] at hlt ⊢
  obtain ⟨x, h1, h2, h3⟩ := exTo_mem _ hlt
  exact ⟨h + x + 1, by omega, by omega, h2, h3⟩
theorem ex_le {c : Nat → Nat → Int} {n j h i : Nat} (h1 : h < i) (h2 : i ≤ n) (hf : ex c n j i < NV) : ex c n (j + 1) h ≤ c h i + ex c n j i := by
  have := exTo_le (c := c) (f := ex c n j) (h := h) (n - h) (i - h - 1) (by omega) (by rw [show h + (i - h - 1) + 1 = i from by omega]; exact hf)
  rw [show h + (i - h - 1) + 1 = i from by omega] at this
  exact this

/-- Groups, none empty, up to n. -/
def SChain (n : Nat) : Nat → List Nat → Prop
  | h, [] => h = n
  | h, i :: r => h < i ∧ i ≤ n ∧ SChain n i r
theorem SChain.weak {n : Nat} : {h : Nat} → {l : List Nat} → SChain n h l → WChain n h l
  | _, [], h => h
  | _, _ :: _, h => ⟨Nat.le_of_lt h.1, h.2.1, SChain.weak h.2.2⟩
theorem SChain.len {n : Nat} : {h : Nat} → {l : List Nat} → SChain n h l → l.length + h ≤ n
  | _, [], h => by have h : _ = n := h; simp; omega
  | _, i :: r, h => by have := SChain.len h.2.2; have := h.1; simp only [List.length_cons]; omega
theorem chain_range {l : List Tim} (hl : Load l) : {h : Nat} → {A : List Nat} → WChain l.length h A → 0 ≤ chainC (grp l) h A ∧ chainC (grp l) h A ≤ 281474976710656 * (A.length : Int)
  | _, [], _ => by simp [chainC]
  | h, i :: r, hw => by
    have h1 := grp_range hl hw.1 hw.2.1
    have h2 := chain_range hl hw.2.2
    simp only [chainC, List.length_cons]
    omega
/-- The first of the best next groups. -/
def Greedy (c : Nat → Nat → Int) (n : Nat) : Nat → Nat → List Nat → Prop
  | 0, h, [] => h = n
  | j + 1, h, i :: r => h < i ∧ i ≤ n ∧ (ex c n j i < NV ∧ c h i + ex c n j i = ex c n (j + 1) h) ∧ (∀ x, h < x → x < i → ¬ (ex c n j x < NV ∧ c h x + ex c n j x = ex c n (j + 1) h)) ∧ Greedy c n j i r
  | _, _, _ => False
theorem Greedy.chain {c : Nat → Nat → Int} {n : Nat} : {j h : Nat} → {B : List Nat} → Greedy c n j h B → SChain n h B ∧ B.length = j ∧ chainC c h B = ex c n j h
  | 0, h, [], hg => by
    have hg : h = n := hg
    exact ⟨hg, rfl, by simp [chainC, ex, hg]⟩
  | j + 1, h, i :: r, hg => by
    obtain ⟨h1, h2, ⟨h3, h4⟩, h5, h6⟩ := hg
    obtain ⟨k1, k2, k3⟩ := h6.chain
    exact ⟨⟨h1, h2, k1⟩, by simp [k2], by simp only [chainC, k3, h4]⟩
  | 0, h, _ :: _, hg => hg.elim
  | _ + 1, h, [], hg => hg.elim
theorem first_of {p : Nat → Prop} [DecidablePred p] {h : Nat} : (m : Nat) → (∃ i, h < i ∧ i ≤ h + m ∧ p i) → ∃ i, h < i ∧ i ≤ h + m ∧ p i ∧ ∀ x, h < x → x < i → ¬ p x
  | 0, ⟨i, h1, h2, _⟩ => by omega
  | m + 1, ⟨i, h1, h2, h3⟩ => by
    by_cases he : ∃ i, h < i ∧ i ≤ h + m ∧ p i
    · obtain ⟨x, k1, k2, k3, k4⟩ := first_of m he
      exact ⟨x, k1, by omega, k3, k4⟩
    · have : i = h + m + 1 := by
        by_cases hi : i ≤ h + m
        · exact absurd ⟨i, h1, hi, h3⟩ he
        · omega
      subst this
      exact ⟨_, h1, h2, h3, fun x k1 k2 hp => he ⟨x, k1, by omega, hp⟩⟩
theorem chain_lt_NV {l : List Tim} (hl : Load l) {h : Nat} {A : List Nat} (hA : SChain l.length h A) : chainC (grp l) h A < NV := by
  have h1 := chain_range hl hA.weak
  have h2 := hA.len
  have h3 := hl.2.1
  unfold NV
  omega
theorem ex_chain {l : List Tim} (hl : Load l) : {j h : Nat} → {A : List Nat} → SChain l.length h A → A.length = j → ex (grp l) l.length j h ≤ chainC (grp l) h A
  | 0, h, [], hA, _ => by
    have hA : h = l.length := hA
    simp [ex, chainC, hA]
  | j + 1, h, i :: r, hA, lA => by
    have h1 := ex_chain hl hA.2.2 (j := j) (by simpa using lA)
    have h2 := chain_lt_NV hl hA.2.2
    have h3 := ex_le (c := grp l) (n := l.length) (j := j) hA.1 hA.2.1 (by omega)
    simp only [chainC]
    omega
  | 0, h, _ :: _, _, lA => by simp at lA
  | _ + 1, h, [], _, lA => by simp at lA
theorem strict_of {c : Nat → Nat → Int} (h0 : ∀ i, c i i = 0) {n : Nat} : {h : Nat} → {A : List Nat} → WChain n h A → ∃ B, SChain n h B ∧ B.length ≤ A.length ∧ chainC c h B = chainC c h A
  | h, [], hA => ⟨[], hA, Nat.le_refl _, rfl⟩
  | h, i :: r, hA => by
    obtain ⟨B, h1, h2, h3⟩ := strict_of h0 hA.2.2
    by_cases he : h = i
    · subst he
      exact ⟨B, h1, by simp; omega, by simp only [chainC, h0, h3]; omega⟩
    · have := hA.1
      exact ⟨i :: B, ⟨by omega, hA.2.1, h1⟩, by simp; omega, by simp only [chainC, h3]⟩

/-- The least number of groups that cost as little as k do. -/
structure Grps (l : List Tim) (k g : Nat) : Prop where
  pos : 1 ≤ g
  le : g ≤ k
  eq : dp (grp l) (g - 1) l.length = dp (grp l) (k - 1) l.length
  least : ∀ x, 1 ≤ x → x < g → dp (grp l) (x - 1) l.length ≠ dp (grp l) (k - 1) l.length
theorem Grps.few {l : List Tim} {k g : Nat} (hg : Grps l k g) {A : List Nat} (hA : SChain l.length 0 A) (h1 : 1 ≤ A.length) (hk : A.length ≤ k) : dp (grp l) (k - 1) l.length ≤ chainC (grp l) 0 A ∧ (chainC (grp l) 0 A = dp (grp l) (k - 1) l.length → g ≤ A.length) := by
  have h2 := dp_least (grp l) (A.length - 1) l.length A hA.weak (by omega)
  have h3 := dp_mono (c := grp l) (i := l.length) (grp_self l _) (j := A.length - 1) (k := k - 1) (by omega)
  refine ⟨by omega, fun he => ?_⟩
  by_cases hlt : A.length < g
  · exact absurd (by omega) (hg.least A.length h1 hlt)
  · omega
theorem Grps.ex {l : List Tim} (hl : Load l) {k g : Nat} (hg : Grps l k g) : ex (grp l) l.length g 0 = dp (grp l) (k - 1) l.length := by
  have hn : 0 < l.length := by
    rcases Nat.eq_zero_or_pos l.length with h0 | h0
    · exact absurd (List.eq_nil_of_length_eq_zero h0) hl.1
    · exact h0
  have hpos := hg.pos
  have hle := hg.le
  obtain ⟨A, hA, lA, cA⟩ := dp_chain (grp l) (g - 1) l.length
  obtain ⟨B, hB, lB, cB⟩ := strict_of (grp_self l) hA
  have hB1 : 1 ≤ B.length := by
    rcases Nat.eq_zero_or_pos B.length with h0 | h0
    · have := List.eq_nil_of_length_eq_zero h0
      subst this
      have hB : 0 = l.length := hB
      omega
    · exact h0
  have heq := hg.eq
  have h1 := (hg.few hB hB1 (by omega)).2 (by omega)
  have h2 := ex_chain hl hB (j := g) (by omega)
  have h3 := chain_lt_NV hl hB
  -- some cut of g groups costs just that
  have key : ∀ (j h : Nat), Go.Kz.ex (grp l) l.length j h < NV → h ≤ l.length → ∃ C, SChain l.length h C ∧ C.length = j ∧ chainC (grp l) h C = Go.Kz.ex (grp l) l.length j h := by
    intro j
    induction j with
    | zero =>
      intro h hlt hh
      simp only [Go.Kz.ex] at hlt ⊢
      by_cases he : h = l.length
      · exact ⟨[], he, rfl, by simp [chainC, he]⟩
      · rw [if_neg he] at hlt; exact absurd hlt (by unfold NV; omega)
    | succ j ih =>
      intro h hlt hh
      obtain ⟨i, k1, k2, k3, k4⟩ := ex_mem hlt
      obtain ⟨C, c1, c2, c3⟩ := ih i k3 k2
      exact ⟨i :: C, ⟨k1, k2, c1⟩, by simp [c2], by simp only [chainC, c3, k4]⟩
  obtain ⟨C, c1, c2, c3⟩ := key g 0 (by omega) (Nat.zero_le _)
  have h4 := (hg.few c1 (by omega) (by omega)).1
  omega

/-! ## the code -/
def exRow (l : List Tim) (j : Nat) : List Int := (List.range (l.length + 1)).map (ex (grp l) l.length j)
theorem exRow_get {l : List Tim} {j i : Nat} (hi : i ≤ l.length) : (exRow l j)[i]? = some (ex (grp l) l.length j i) := by
  unfold exRow
  rw [List.getElem?_map, List.getElem?_range (by omega)]; rfl
theorem ex_range {l : List Tim} (hl : Load l) : (j h : Nat) → h ≤ l.length → 0 ≤ ex (grp l) l.length j h ∧ ex (grp l) l.length j h ≤ NV
  | 0, h, hh => by simp only [ex]; split <;> (unfold NV; omega)
  | j + 1, h, hh => by
    have h1 := exTo_le_NV (grp l) (ex (grp l) l.length j) h (l.length - h)
    refine ⟨?_, h1⟩
    by_cases hlt : ex (grp l) l.length (j + 1) h < NV
    · obtain ⟨i, k1, k2, k3, k4⟩ := ex_mem hlt
      have h2 := ex_range hl j i k2
      have h3 := grp_range hl (Nat.le_of_lt k1) k2
      omega
    · unfold NV at hlt; omega

theorem bestL25 {R : Type} {Q : R → Prop} {l : List Tim} (hl : Load l) {r : List Tim × (List Int × (List Int × Unit))} (hr : Sums l r) {j h g : Nat} (hj : j ≤ g) (hg : g ≤ 64) (hh : h ≤ l.length) {T0 : List (List Int)} (hT : T0.length = g + 1)
    (hprev : 1 ≤ j → T0[j - 1]? = some (exRow l (j - 1))) {base : List Int} (hb : base.length = l.length + 1) (t9 : List (List Int)) (t11 t12 t62 t63 t76 t77 : Int) {kx : List (List Int) → Option R}
    (h0 : Int) (hh0 : h0 = if j = 0 then ex (grp l) l.length 0 h else NV) (hk : Yld (kx (T0.set j (base.set h (ex (grp l) l.length j h)))) Q) :
    Yld (iter (fun w => f26_L25 5000 (j : Int) (h : Int) r (l.length : Int) l t9 t11 t12 t62 t63 t76 t77 w kx) 5000 (wi64 ((h : Int) + 1), T0.set j (base.set h h0))) Q := by
  have hlen := hl.2.1
  rw [wi64_nat (show h < 9223372036854775807 by omega), show (h : Int) + 1 = ((h + 1 : Nat) : Int) from by omega]
  by_cases hj0 : j = 0
  · subst hj0
    rw [if_pos rfl] at hh0
    subst hh0
    refine Yld.first (by omega) fun w => ?_
    simp only [f26_L25]
    rw [d_false (show ¬ (0 : Int) < ((0 : Nat) : Int) by omega)]
    simp only [cond_false, Option.bind_some]
    exact hk
  · rw [if_neg hj0] at hh0
    subst hh0
    obtain ⟨m, rfl⟩ : ∃ m, j = m + 1 := ⟨j - 1, by omega⟩
    have hp := hprev (by omega)
    simp only [Nat.add_sub_cancel] at hp
    refine Yld.up (fun i T => h + 1 ≤ i ∧ T = T0.set (m + 1) (base.set h (exTo (grp l) (ex (grp l) l.length m) h (i - (h + 1))))) (l.length + 1) ?_ ?_ 5000 (h + 1) (by omega) (by omega) _ ⟨Nat.le_refl _, ?_⟩
    · rintro i T w hi ⟨hi0, rfl⟩ hw
      have hin : i ≤ l.length := by omega
      obtain ⟨q, rfl⟩ : ∃ q, i = h + q + 1 := ⟨i - (h + 1), by omega⟩
      have hq : h + q + 1 - (h + 1) = q := by omega
      rw [hq]
      have g0 : (T0.set (m + 1) (base.set h (exTo (grp l) (ex (grp l) l.length m) h q)))[m]? = some (exRow l m) := by
        rw [List.getElem?_set_ne (by omega)]; exact hp
      have g1 : (T0.set (m + 1) (base.set h (exTo (grp l) (ex (grp l) l.length m) h q)))[m + 1]? = some (base.set h (exTo (grp l) (ex (grp l) l.length m) h q)) := by
        rw [List.getElem?_set_self (by omega)]
      have g2 : (base.set h (exTo (grp l) (ex (grp l) l.length m) h q))[h]? = some (exTo (grp l) (ex (grp l) l.length m) h q) := by
        rw [List.getElem?_set_self (by omega)]
      have g3 : (exRow l m)[h + q + 1]? = some (ex (grp l) l.length m (h + q + 1)) := exRow_get hin
      simp only [f26_L25]
      rw [d_true (show (0 : Int) < ((m + 1 : Nat) : Int) by omega), d_true (show ((h + q + 1 : Nat) : Int) ≤ (l.length : Int) by omega), wi64_pred (show 0 < m + 1 by omega) (by omega), wi64_nat (by omega)]
      simp only [cond_true, Option.bind_some, Nat.add_sub_cancel]
      rw [chk_true (inb_some g0), idx_some' g0]
      simp only [Option.bind_some]
      rw [chk_true (inb_some g3), idx_some' g3]
      simp only [Option.bind_some]
      have hgr := grp_range hl (show h ≤ h + q + 1 by omega) hin
      have hxr := ex_range hl m (h + q + 1) hin
      by_cases hlt : ex (grp l) l.length m (h + q + 1) < NV
      · rw [d_true hlt]
        simp only [cond_true]
        rw [chk_true (inb_some g1), idx_some' g1]
        simp only [Option.bind_some]
        rw [chk_true (inb_some g1)]
        rw [chk_true (inb_some g2), idx_some' g2]
        simp only [Option.bind_some]
        rw [chk_true (inb_some g0)]
        rw [chk_true (inb_some g3)]
        rw [hr.grp hl (show h ≤ h + q + 1 by omega) hin]
        simp only [Option.bind_some]
        rw [chk_true (inb_some g2)]
        rw [setI_nat, setI_nat, List.set_set, List.set_set, wi64_of (by unfold NV at hlt; omega) (by unfold NV at hlt; omega)]
        refine hw _ ⟨by omega, ?_⟩
        rw [show h + q + 1 + 1 - (h + 1) = q + 1 from by omega]
        simp only [exTo]
        rw [if_pos hlt]
      · rw [d_false hlt]
        simp only [cond_false]
        refine hw _ ⟨by omega, ?_⟩
        rw [show h + q + 1 + 1 - (h + 1) = q + 1 from by omega]
        simp only [exTo]
        rw [if_neg hlt]
    · rintro T w ⟨_, rfl⟩
      simp only [f26_L25]
      rw [d_true (show (0 : Int) < ((m + 1 : Nat) : Int) by omega), d_false (by omega)]
      simp only [cond_true, cond_false, Option.bind_some]
      have : l.length + 1 - (h + 1) = l.length - h := by omega
      rw [this]
      exact hk
    · simp [exTo]

theorem bestL19 {R : Type} {Q : R → Prop} {l : List Tim} (hl : Load l) {r : List Tim × (List Int × (List Int × Unit))} (hr : Sums l r) {j g : Nat} (hj : j ≤ g) (hg : g ≤ 64) {T0 : List (List Int)} (hT : T0.length = g + 1)
    (hprev : 1 ≤ j → T0[j - 1]? = some (exRow l (j - 1))) (t9 : List (List Int)) (t11 t12 t62 t63 : Int) {kx : List (List Int) → Option R}
    (hk : Yld (kx (T0.set j (exRow l j))) Q) :
    Yld (iter (fun w => f26_L19 5000 (j : Int) r (l.length : Int) l t9 t11 t12 t62 t63 (len (List.replicate (l.length + 1) 0 : List Int)) w kx) 5000 (0, T0.set j (List.replicate (l.length + 1) 0 : List Int))) Q := by
  have hlen := hl.2.1
  refine Yld.up (fun h T => ∃ row : List Int, T = T0.set j row ∧ row.length = l.length + 1 ∧ ∀ x, x < h → row[x]? = some (ex (grp l) l.length j x)) (l.length + 1) ?_ ?_ 5000 0 (Nat.zero_le _) (by omega) _ ⟨_, rfl, by simp, fun x hx => by omega⟩
  · rintro h T w hh ⟨row, rfl, h1, h2⟩ hw
    have g1 : ∀ v : List Int, (T0.set j v)[j]? = some v := fun v => by rw [List.getElem?_set_self (by omega)]
    simp only [f26_L19]
    rw [d_true (show (h : Int) < len (List.replicate (l.length + 1) 0 : List Int) by rw [len_eq, List.length_replicate]; omega), wi64_nat (show h < 9223372036854775807 by omega)]
    simp only [cond_true]
    rw [chk_true (inb_some (g1 row)), idx_some' (g1 row)]
    simp only [Option.bind_some]
    rw [chk_true (inb_lt (by omega)), idx_lt (show h < row.length by omega)]
    simp only [Option.bind_some]
    rw [setI_nat, setI_nat, List.set_set]
    have hfin : Yld (w ((h : Int) + 1, T0.set j (row.set h (ex (grp l) l.length j h)))) Q := by
      refine hw _ ⟨_, rfl, by simp [h1], fun x hx => ?_⟩
      rw [List.getElem?_set]
      by_cases he : h = x
      · rw [if_pos he, if_pos (by omega), he]
      · rw [if_neg he]; exact h2 x (by omega)
    by_cases hc : j = 0 ∧ h = l.length
    · obtain ⟨c1, c2⟩ := hc
      have hb : (cond (decide ((j : Int) = 0)) (some (decide ((h : Int) = (l.length : Int)))) (some false)) = some true := by
        rw [d_true (by omega), d_true (by omega)]; rfl
      rw [hb]
      simp only [Option.bind_some, cond_true]
      rw [chk_true (inb_some (g1 _)), idx_some' (g1 _)]
      simp only [Option.bind_some]
      have g2 : (row.set h 1152921504606846976)[h]? = some 1152921504606846976 := by rw [List.getElem?_set_self (by omega)]
      rw [chk_true (inb_some g2), idx_some' g2]
      simp only [Option.bind_some]
      rw [setI_nat, setI_nat, List.set_set, List.set_set]
      have := bestL25 hl hr hj hg (show h ≤ l.length by omega) hT hprev h1 t9 t11 t12 t62 t63 (len (List.replicate (l.length + 1) 0 : List Int)) (h : Int) (Q := Q) (kx := fun o => w ((h : Int) + 1, o)) 0 (by rw [if_pos c1]; simp [ex, c2]) hfin
      rw [wi64_nat (show h < 9223372036854775807 by omega)] at this
      exact this
    · have hb : (cond (decide ((j : Int) = 0)) (some (decide ((h : Int) = (l.length : Int)))) (some false)) = some false := by
        by_cases c1 : j = 0
        · rw [d_true (by omega), d_false (by omega)]; rfl
        · rw [d_false (by omega)]; rfl
      rw [hb]
      simp only [Option.bind_some, cond_false]
      have := bestL25 hl hr hj hg (show h ≤ l.length by omega) hT hprev h1 t9 t11 t12 t62 t63 (len (List.replicate (l.length + 1) 0 : List Int)) (h : Int) (Q := Q) (kx := fun o => w ((h : Int) + 1, o)) 1152921504606846976 (by
        by_cases c1 : j = 0
        · rw [if_pos c1]; simp only [ex]; rw [if_neg (by omega)]
        · rw [if_neg c1]) hfin
      rw [wi64_nat (show h < 9223372036854775807 by omega)] at this
      exact this
  · rintro T w ⟨row, rfl, h1, h2⟩
    simp only [f26_L19]
    rw [d_false (by rw [len_eq, List.length_replicate]; omega)]
    simp only [cond_false]
    have : row = exRow l j := list_of_get h1 h2
    rw [this]; exact hk

theorem bestL15 {R : Type} {Q : R → Prop} {l : List Tim} (hl : Load l) {r : List Tim × (List Int × (List Int × Unit))} (hr : Sums l r) {g : Nat} (hg : g ≤ 64) (t9 : List (List Int)) (t11 t12 : Int) {kx : List (List Int) → Option R}
    (hk : Yld (kx ((List.range (g + 1)).map (exRow l))) Q) :
    Yld (iter (fun w => f26_L15 5000 r (l.length : Int) l t9 t11 t12 (len (List.replicate (g + 1) ([] : List Int) : List (List Int))) w kx) 5000 (0, (List.replicate (g + 1) ([] : List Int) : List (List Int)))) Q := by
  have hlen := hl.2.1
  refine Yld.up (fun j T => T.length = g + 1 ∧ ∀ y, y < j → T[y]? = some (exRow l y)) (g + 1) ?_ ?_ 5000 0 (Nat.zero_le _) (by omega) _ ⟨by simp, fun y hy => by omega⟩
  · rintro j T w hj ⟨h1, h2⟩ hw
    simp only [f26_L15]
    rw [d_true (by rw [len_eq, List.length_replicate]; omega), wi64_nat (show l.length < 9223372036854775807 by omega), wi64_nat (show j < 9223372036854775807 by omega)]
    simp only [cond_true]
    rw [chk_true (by simp only [Bool.and_eq_true, decide_eq_true_eq]; unfold room; omega), show Int.toNat ((l.length : Int) + 1) = l.length + 1 from by omega]
    rw [chk_true (inb_lt (by omega)), idx_lt (show j < T.length by omega)]
    simp only [Option.bind_some]
    rw [setI_nat]
    have g1 : (T.set j (List.replicate (l.length + 1) 0 : List Int))[j]? = some (List.replicate (l.length + 1) 0 : List Int) := by rw [List.getElem?_set_self (by omega)]
    rw [chk_true (inb_some g1), idx_some' g1]
    simp only [Option.bind_some]
    refine bestL19 hl hr (j := j) (g := g) (by omega) hg h1 (fun h0 => h2 (j - 1) (by omega)) t9 t11 t12 _ _ (hw _ ⟨by simp [h1], fun y hy => ?_⟩)
    rw [List.getElem?_set]
    by_cases he : j = y
    · rw [if_pos he, if_pos (by omega), he]
    · rw [if_neg he]; exact h2 y (by omega)
  · rintro T w ⟨h1, h2⟩
    simp only [f26_L15]
    rw [d_false (by rw [len_eq, List.length_replicate]; omega)]
    simp only [cond_false]
    have : T = (List.range (g + 1)).map (exRow l) := list_of_get h1 h2
    rw [this]; exact hk

/-- The times at which groups end. -/
def ends (l : List Tim) (B : List Nat) : List Int := B.map fun i => (l.getD (i - 1) (0, 0, ())).1

theorem bestL37 {R : Type} {Q : R → Prop} {l : List Tim} (hl : Load l) {r : List Tim × (List Int × (List Int × Unit))} (hr : Sums l r) {j h g : Nat} (hj : j + 1 ≤ g) (hg : g ≤ 64) (hh : h ≤ l.length) (hlt : ex (grp l) l.length (j + 1) h < NV)
    (t9 : List (List Int)) (t11 : Int) (out : List Int) (ho : out.length ≤ 64) {kx : Int → List Int → Option R}
    (hk : ∀ i, h < i → i ≤ l.length → ex (grp l) l.length j i < NV ∧ grp l h i + ex (grp l) l.length j i = ex (grp l) l.length (j + 1) h → (∀ x, h < x → x < i → ¬ (ex (grp l) l.length j x < NV ∧ grp l h x + ex (grp l) l.length j x = ex (grp l) l.length (j + 1) h)) →
      Yld (kx (i : Int) (out ++ [(l.getD (i - 1) (0, 0, ())).1])) Q) :
    Yld (iter (fun w => f26_L37 5000 l r (l.length : Int) t9 t11 ((j + 1 : Nat) : Int) (h : Int) ((List.range (g + 1)).map (exRow l)) out w kx) 5000 (wi64 ((h : Int) + 1))) Q := by
  have hlen := hl.2.1
  obtain ⟨i0, e1, e2, e3⟩ := ex_mem hlt
  have hhn : h + 1 ≤ l.length := by omega
  rw [wi64_nat (show h < 9223372036854775807 by omega), show (h : Int) + 1 = ((h + 1 : Nat) : Int) from by omega]
  refine Yld.upI (fun i => h < i ∧ ∀ x, h < x → x < i → ¬ (ex (grp l) l.length j x < NV ∧ grp l h x + ex (grp l) l.length j x = ex (grp l) l.length (j + 1) h)) i0 ?_ ?_ 5000 (h + 1) (by omega) (by omega) ⟨by omega, fun x h1 h2 => by omega⟩
  all_goals
    have rows : ∀ y, y ≤ g → ((List.range (g + 1)).map (exRow l))[y]? = some (exRow l y) := fun y hy => by
      rw [List.getElem?_map, List.getElem?_range (by omega)]; rfl
    have step : ∀ (i : Nat) (w : Int → Option R), h < i → i ≤ l.length → (∀ x, h < x → x < i → ¬ (ex (grp l) l.length j x < NV ∧ grp l h x + ex (grp l) l.length j x = ex (grp l) l.length (j + 1) h)) →
        (¬ (ex (grp l) l.length j i < NV ∧ grp l h i + ex (grp l) l.length j i = ex (grp l) l.length (j + 1) h) → Yld (w ((i : Int) + 1)) Q) → Yld (f26_L37 5000 l r (l.length : Int) t9 t11 ((j + 1 : Nat) : Int) (h : Int) ((List.range (g + 1)).map (exRow l)) out w kx (i : Int)) Q := by
      intro i w hi1 hi2 hfirst hw
      simp only [f26_L37]
      rw [d_true (show (i : Int) ≤ (l.length : Int) by omega), wi64_pred (show 0 < j + 1 by omega) (by omega), wi64_pred (show 0 < i by omega) (by omega), wi64_nat (show i < 9223372036854775807 by omega)]
      simp only [cond_true, Nat.add_sub_cancel]
      have g0 := rows j (by omega)
      have g1 := rows (j + 1) (by omega)
      have g2 := exRow_get (l := l) (j := j) hi2
      have g3 := exRow_get (l := l) (j := j + 1) hh
      rw [chk_true (inb_some g0), idx_some' g0]
      simp only [Option.bind_some]
      rw [chk_true (inb_some g2), idx_some' g2]
      simp only [Option.bind_some]
      have hgr := grp_range hl (Nat.le_of_lt hi1) hi2
      have hxr := ex_range hl j i hi2
      by_cases hl1 : ex (grp l) l.length j i < NV
      · rw [d_true hl1]
        simp only [cond_true]
        rw [chk_true (inb_some g0)]
        rw [chk_true (inb_some g2)]
        rw [chk_true (inb_some g1), idx_some' g1]
        simp only [Option.bind_some]
        rw [chk_true (inb_some g3), idx_some' g3]
        simp only [Option.bind_some]
        rw [hr.grp hl (Nat.le_of_lt hi1) hi2]
        simp only [Option.bind_some]
        rw [wi64_of (by unfold NV at hl1; omega) (by unfold NV at hl1; omega)]
        by_cases heq : grp l h i + ex (grp l) l.length j i = ex (grp l) l.length (j + 1) h
        · rw [d_true heq]
          simp only [cond_true]
          rw [idx_lt (show i - 1 < l.length by omega)]
          simp only [Option.bind_some]
          rw [chk_true (decide_eq_true (by unfold room; omega))]
          have := hk i hi1 hi2 ⟨hl1, heq⟩ hfirst
          rw [getD_lt (by omega)] at this
          exact this
        · rw [d_false heq]
          simp only [cond_false]
          exact hw fun hc => heq hc.2
      · rw [d_false hl1]
        simp only [cond_false, Option.bind_some]
        exact hw fun hc => hl1 hc.1
  · rintro i w hi ⟨hi1, hf⟩ hw
    exact step i w hi1 (by omega) hf fun hn => hw ⟨by omega, fun x h1 h2 => by
      by_cases he : x = i
      · subst he; exact hn
      · exact hf x h1 (by omega)⟩
  · rintro w ⟨_, hf⟩
    exact step i0 w e1 e2 hf fun hn => absurd e3 hn

theorem bestL34 {R : Type} {Q : R → Prop} {l : List Tim} (hl : Load l) {r : List Tim × (List Int × (List Int × Unit))} (hr : Sums l r) {g : Nat} (hg : g ≤ 64)
    (t9 : List (List Int)) (t11 : Int) {kx : List Int → Option R} : (N j h : Nat) → j < N → j ≤ g → h ≤ l.length → (out : List Int) → out.length + j ≤ 64 → ex (grp l) l.length j h < NV →
    (∀ B, Greedy (grp l) l.length j h B → Yld (kx (out ++ ends l B)) Q) →
    Yld (iter (fun w => f26_L34 5000 l r (l.length : Int) t9 t11 ((List.range (g + 1)).map (exRow l)) w kx) N ((j : Int), (h : Int), out)) Q
  | 0, j, h, hN, _, _, _, _, _, _ => by omega
  | N + 1, 0, h, hN, hj, hh, out, ho, hlt, hk => by
    rw [iter]
    simp only [f26_L34]
    rw [d_false (show ¬ (0 : Int) < ((0 : Nat) : Int) by omega)]
    simp only [cond_false]
    have hn : h = l.length := by
      simp only [ex] at hlt
      by_cases he : h = l.length
      · exact he
      · rw [if_neg he] at hlt; exact absurd hlt (by unfold NV; omega)
    have := hk [] hn
    simpa [ends] using this
  | N + 1, j + 1, h, hN, hj, hh, out, ho, hlt, hk => by
    rw [iter]
    simp only [f26_L34]
    rw [d_true (show (0 : Int) < ((j + 1 : Nat) : Int) by omega)]
    simp only [cond_true]
    refine bestL37 hl hr hj hg hh hlt t9 t11 out (by omega) fun i h1 h2 h3 h4 => ?_
    rw [wi64_pred (show 0 < j + 1 by omega) (by omega), Nat.add_sub_cancel]
    refine bestL34 hl hr hg t9 t11 N j i (by omega) (by omega) h2 _ (by simp; omega) h3.1 fun B hB => ?_
    have := hk (i :: B) ⟨h1, h2, h3, h4, hB⟩
    simpa [ends, List.append_assoc] using this

/-- What Best returns. -/
structure BestIs (l : List Tim) (k g : Nat) (B : List Nat) (r : List Int × (Int × (List (List Int) × Int))) : Prop where
  grps : Grps l k g
  greedy : Greedy (grp l) l.length g 0 B
  eq : r = (ends l B, (dp (grp l) (k - 1) l.length, (tab l k, 0)))

theorem f26_ok {l : List Tim} (hl : Load l) {k : Nat} (hk1 : 1 ≤ k) (hk : k ≤ 32) : Yld (f26 5000 l (k : Int)) fun r => ∃ g B, BestIs l k g B r := by
  have hlen := hl.2.1
  have hn : 0 < l.length := by
    rcases Nat.eq_zero_or_pos l.length with h0 | h0
    · exact absurd (List.eq_nil_of_length_eq_zero h0) hl.1
    · exact h0
  unfold f26
  rw [f12_load hl]
  simp only [Option.bind_some, decide_true, Bool.not_true, cond_false]
  rw [d_false (show ¬ (k : Int) < 1 by omega), d_false (show ¬ (32 : Int) < (k : Int) by omega)]
  simp only [cond_false, Option.bind_some]
  rw [f38_ok hl (show k ≤ 64 by omega)]
  simp only [Option.bind_some]
  rw [idx_some' (tab_get (l := l) (Nat.le_refl k))]
  simp only [Option.bind_some]
  rw [len_eq l, idx_some' (rowOf_get (l := l) (j := k) (Nat.le_refl _))]
  simp only [Option.bind_some]
  obtain ⟨m, rfl⟩ : ∃ m, k = m + 1 := ⟨k - 1, by omega⟩
  have hent : ∀ x, 1 ≤ x → ent l x l.length = dp (grp l) (x - 1) l.length := fun x hx => by
    obtain ⟨y, rfl⟩ : ∃ y, x = y + 1 := ⟨x - 1, by omega⟩
    rfl
  have fin : ∀ g, Grps l (m + 1) g → Yld
      ((f39 5000 l).bind fun r_2 =>
          chk (((decide (0 ≤ (wi64 ((g : Int) + 1)))) && (decide ((wi64 ((g : Int) + 1)) ≤ (wi64 ((g : Int) + 1))))) && (decide ((wi64 ((g : Int) + 1)) ≤ ((room : Nat) : Int)))) <|
          iter (fun w => f26_L15 5000 r_2 (l.length : Int) l (tab l (m + 1)) (ent l (m + 1) l.length) (g : Int) (len (List.replicate (Int.toNat (wi64 ((g : Int) + 1))) ([] : List Int) : List (List Int))) w
            (fun o0_6 =>
              iter (fun w => f26_L34 5000 l r_2 (l.length : Int) (tab l (m + 1)) (ent l (m + 1) l.length) o0_6 w
                (fun o0_10 =>
                  chk (((decide (0 ≤ (len o0_10))) && (decide ((len o0_10) ≤ (len o0_10)))) && (decide ((len o0_10) ≤ (len o0_10)))) <|
                  some ((sub o0_10 0 (len o0_10)), ((ent l (m + 1) l.length), ((tab l (m + 1)), (0 : Int)))))) 5000 ((g : Int), 0, ([] : List Int)))) 5000 (0, (List.replicate (Int.toNat (wi64 ((g : Int) + 1))) ([] : List Int) : List (List Int))))
      fun r => ∃ g B, BestIs l (m + 1) g B r := by
    intro g hg
    have hge := hg.le
    have hgp := hg.pos
    refine Yld.then (f39_sums hl) fun r hr => ?_
    rw [wi64_nat (show g < 9223372036854775807 by omega), chk_true (by simp only [Bool.and_eq_true, decide_eq_true_eq]; unfold room; omega), show Int.toNat ((g : Int) + 1) = g + 1 from by omega]
    refine bestL15 hl hr (by omega) _ _ _ ?_
    have hx := hg.ex hl
    have hd := dp_range hl m l.length (Nat.le_refl _)
    refine bestL34 hl hr (g := g) (by omega) _ _ 5000 g 0 (by omega) (Nat.le_refl _) (Nat.zero_le _) [] (by simp; omega) ?_ fun B hB => ?_
    · rw [hx, Nat.add_sub_cancel]; unfold NV; omega
    · simp only [List.nil_append]
      rw [chk_true (by simp [len_eq])]
      refine Yld.ret ⟨g, B, hg, hB, ?_⟩
      have e1 : sub (ends l B) 0 (len (ends l B)) = ends l B := by simp [sub, len_eq]
      rw [e1, hent _ (by omega)]
  refine Yld.upI (fun g => 1 ≤ g ∧ ∀ x, 1 ≤ x → x < g → dp (grp l) (x - 1) l.length ≠ dp (grp l) m l.length) (m + 1) ?_ ?_ 5000 1 (by omega) (by omega) ⟨Nat.le_refl _, fun x h1 h2 => by omega⟩
  · rintro g w hg ⟨h1, h2⟩ hw
    simp only [f26_L10]
    rw [idx_some' (tab_get (l := l) (show g ≤ m + 1 by omega))]
    simp only [Option.bind_some]
    rw [idx_some' (rowOf_get (l := l) (j := g) (Nat.le_refl _))]
    simp only [Option.bind_some]
    by_cases he : ent l g l.length = ent l (m + 1) l.length
    · rw [d_true he]
      simp only [Bool.not_true, cond_false]
      refine fin g ⟨h1, by omega, ?_, fun x k1 k2 => ?_⟩
      · rw [hent _ h1, hent _ (by omega)] at he; exact he
      · rw [Nat.add_sub_cancel]; exact h2 x k1 k2
    · rw [d_false he]
      simp only [Bool.not_false, cond_true]
      rw [wi64_nat (by omega)]
      refine hw ⟨by omega, fun x k1 k2 => ?_⟩
      by_cases hx : x = g
      · subst hx
        rw [hent _ h1, hent _ (by omega)] at he
        exact he
      · exact h2 x k1 (by omega)
  · rintro w ⟨h1, h2⟩
    simp only [f26_L10]
    rw [idx_some' (tab_get (l := l) (Nat.le_refl (m + 1)))]
    simp only [Option.bind_some]
    rw [idx_some' (rowOf_get (l := l) (j := m + 1) (Nat.le_refl _))]
    simp only [Option.bind_some]
    simp only [decide_true, Bool.not_true, cond_false]
    exact fin (m + 1) ⟨h1, Nat.le_refl _, rfl, fun x k1 k2 => by rw [Nat.add_sub_cancel]; exact h2 x k1 k2⟩
end Go.Kz
