/-
  Layer 44, plain: the table of least costs.
-/
import Derived.Test.YtakifbcgkbfclaaKzB2
set_option linter.unusedVariables false
set_option linter.unusedSimpArgs false
namespace Go.Kz

def minTo (f : Nat → Int) : Nat → Int
  | 0 => f 0
  | n + 1 => minI (minTo f n) (f (n + 1))
theorem minTo_le (f : Nat → Int) : (n h : Nat) → h ≤ n → minTo f n ≤ f h
  | 0, h, hh => by obtain rfl : h = 0 := by omega
                   exact Int.le_refl _
  | n + 1, h, hh => by
    simp only [minTo, minI]
    by_cases he : h = n + 1
    · subst he; split <;> omega
    · have := minTo_le f n h (by omega)
      split <;> omega
theorem minTo_mem (f : Nat → Int) : (n : Nat) → ∃ h, h ≤ n ∧ minTo f n = f h
  | 0 => ⟨0, Nat.le_refl _, rfl⟩
  | n + 1 => by
    obtain ⟨h, h1, h2⟩ := minTo_mem f n
    simp only [minTo, minI]
    split
    · exact ⟨n + 1, Nat.le_refl _, rfl⟩
    · exact ⟨h, by omega, h2⟩
theorem minTo_congr {f g : Nat → Int} : (n : Nat) → (∀ h, h ≤ n → f h = g h) → minTo f n = minTo g n
  | 0, h => h 0 (Nat.le_refl _)
  | n + 1, h => by simp only [minTo]; rw [minTo_congr n fun x hx => h x (by omega), h (n + 1) (Nat.le_refl _)]

/-- The least cost of the first i elements in at most j + 1 groups. -/
def dp (c : Nat → Nat → Int) : Nat → Nat → Int
  | 0, i => c 0 i
  | j + 1, i => minTo (fun h => dp c j h + c h i) i

theorem Load.mono {l : List Tim} (h : Load l) {a : Nat} : (b : Nat) → (hab : a ≤ b) → (hb : b < l.length) → (l[a]'(by omega)).1 ≤ l[b].1
  | 0, hab, hb => by obtain rfl : a = 0 := by omega
                     exact Int.le_refl _
  | b + 1, hab, hb => by
    by_cases he : a = b + 1
    · subst he; exact Int.le_refl _
    · have h1 := h.mono (a := a) b (by omega) (by omega)
      have h2 := h.2.2.2 b hb
      omega
theorem Load.smono {l : List Tim} (h : Load l) {a b : Nat} (hab : a < b) (hb : b < l.length) : (l[a]'(by omega)).1 < l[b].1 := by
  have h1 := h.mono (a := a + 1) b (by omega) hb
  have h2 := h.2.2.2 a (by omega)
  omega
theorem sum_nonneg {l : List Tim} (h : Load l) {a : Nat} {t : Int} : (b : Nat) → (hab : a ≤ b) → (hb : b ≤ l.length) → (∀ (x : Nat) (hx : x < b), (l[x]'(by omega)).1 ≤ t) → 0 ≤ t * (pw l b - pw l a) - (pp l b - pp l a)
  | 0, hab, hb, _ => by obtain rfl : a = 0 := by omega
                        simp
  | b + 1, hab, hb, ht => by
    by_cases he : a = b + 1
    · subst he; simp
    · have ih := sum_nonneg h (a := a) b (by omega) (by omega) fun x hx => ht x (by omega)
      rw [pw_succ (by omega), pp_succ (by omega)]
      have h1 : 0 ≤ l[b].2.1 * (t - l[b].1) := by
        have := ht b (by omega)
        have h3 := (h.elt (k := b) (by omega)).2.2.1
        exact Int.mul_nonneg (by omega) (by omega)
      have e : t * (pw l b + l[b].2.1 - pw l a) - (pp l b + l[b].2.1 * l[b].1 - pp l a) = (t * (pw l b - pw l a) - (pp l b - pp l a)) + l[b].2.1 * (t - l[b].1) := by
        simp only [Int.mul_sub, Int.mul_add]
        rw [Int.mul_comm t l[b].2.1]
        omega
      rw [e]; omega
theorem getD_lt {l : List Tim} {k : Nat} (h : k < l.length) : l.getD k (0, 0, ()) = l[k] := by
  rw [List.getD_eq_getElem?_getD, List.getElem?_eq_getElem h]; rfl
theorem grp_self (l : List Tim) (a : Nat) : grp l a a = 0 := by simp [grp]
theorem grp_at {l : List Tim} {a b : Nat} (hab : a < b) (hb : b ≤ l.length) : grp l a b = (l[b - 1]'(by omega)).1 * (pw l b - pw l a) - (pp l b - pp l a) := by
  unfold grp
  rw [if_neg (by omega), getD_lt (by omega)]
theorem grp_range {l : List Tim} (h : Load l) {a b : Nat} (hab : a ≤ b) (hb : b ≤ l.length) : 0 ≤ grp l a b ∧ grp l a b ≤ 281474976710656 := by
  by_cases he : a = b
  · subst he; rw [grp_self]; omega
  · rw [grp_at (by omega) hb]
    obtain ⟨k1, k2, _, _⟩ := h.elt (k := b - 1) (by omega)
    obtain ⟨g1, g2, g3, g4⟩ := grp_bound h hab hb _ k1 k2
    have := sum_nonneg h (t := l[b - 1].1) b hab hb fun x hx => h.mono (b - 1) (by omega) (by omega)
    omega
theorem dp_range {l : List Tim} (h : Load l) : (j i : Nat) → i ≤ l.length → 0 ≤ dp (grp l) j i ∧ dp (grp l) j i ≤ 281474976710656
  | 0, i, hi => grp_range h (Nat.zero_le _) hi
  | j + 1, i, hi => by
    simp only [dp]
    obtain ⟨x, h1, h2⟩ := minTo_mem (fun h => dp (grp l) j h + grp l h i) i
    have h3 := minTo_le (fun h => dp (grp l) j h + grp l h i) i i (Nat.le_refl _)
    have := dp_range h j i hi
    have h4 := dp_range h j x (by omega)
    have h5 := grp_range h h1 hi
    simp only [grp_self] at h2 h3
    omega

/-- An entry of the table. -/
def ent (l : List Tim) : Nat → Nat → Int
  | 0, i => if i = 0 then 0 else 1152921504606846976
  | j + 1, i => dp (grp l) j i
def rowOf (l : List Tim) (j : Nat) : List Int := (List.range (l.length + 1)).map (ent l j)
def tab (l : List Tim) (k : Nat) : List (List Int) := (List.range (k + 1)).map (rowOf l)
theorem rowOf_len (l : List Tim) (j : Nat) : (rowOf l j).length = l.length + 1 := by simp [rowOf]
theorem tab_len (l : List Tim) (k : Nat) : (tab l k).length = k + 1 := by simp [tab]
theorem rowOf_get {l : List Tim} {j i : Nat} (hi : i ≤ l.length) : (rowOf l j)[i]? = some (ent l j i) := by
  unfold rowOf
  rw [List.getElem?_map, List.getElem?_range (by omega)]; rfl
theorem tab_get {l : List Tim} {k j : Nat} (hj : j ≤ k) : (tab l k)[j]? = some (rowOf l j) := by
  unfold tab
  rw [List.getElem?_map, List.getElem?_range (by omega)]; rfl

theorem idx_some' {α : Type} {l : List α} {k : Nat} {x : α} (h : l[k]? = some x) : idx l (k : Int) = some x := h
theorem inb_some {α : Type} {l : List α} {k : Nat} {x : α} (h : l[k]? = some x) : inb l (k : Int) = true := inb_lt (List.getElem?_eq_some_iff.1 h).1
theorem getE {α : Type} {l : List α} {k : Nat} {x : α} (h : l[k]? = some x) (hk : k < l.length) : l[k] = x := by
  rw [List.getElem?_eq_getElem hk] at h; simpa using h

/-- A cell of the table while it is computed. -/
def cel (l : List Tim) (j i : Nat) : Nat → Int
  | 0 => 1152921504606846976
  | k + 1 => if j = 1 then dp (grp l) 0 i else minTo (fun h => dp (grp l) (j - 2) h + grp l h i) k
theorem cel_ent {l : List Tim} {j i : Nat} (hj : 1 ≤ j) : cel l j i (i + 1) = ent l j i := by
  simp only [cel]
  by_cases h : j = 1
  · subst h; rfl
  · rw [if_neg h]
    obtain ⟨m, rfl⟩ : ∃ m, j = m + 2 := ⟨j - 2, by omega⟩
    rfl

structure Sums (l : List Tim) (r : List Tim × (List Int × (List Int × Unit))) : Prop where
  e : r.1 = l
  W : ∀ j, j ≤ l.length → r.2.1[j]? = some (pw l j)
  P : ∀ j, j ≤ l.length → r.2.2.1[j]? = some (pp l j)
theorem f39_sums {l : List Tim} (h : Load l) : Yld (f39 5000 l) (Sums l) := (f39_ok h).mono fun r hr => ⟨hr.1, hr.2.2.2.1, hr.2.2.2.2⟩
theorem Sums.grp {l : List Tim} (h : Load l) {r : List Tim × (List Int × (List Int × Unit))} (hr : Sums l r) {a b : Nat} (hab : a ≤ b) (hb : b ≤ l.length) : f43 5000 (a : Int) (b : Int) r.1 r.2.1 r.2.2.1 = some (Go.Kz.grp l a b) := by
  rw [hr.e]; exact f43_ok h hr.W hr.P hab hb

theorem tabL13 {R : Type} {Q : R → Prop} {l : List Tim} (h : Load l) {r : List Tim × (List Int × (List Int × Unit))} (hr : Sums l r) {j i : Nat} (hj : 1 ≤ j) (hj2 : j ≤ 64) (hi : i ≤ l.length) {o0 : List (List Int)} (ho : o0[j - 1]? = some (rowOf l (j - 1)))
    {base : List Int} (hb : base.length = l.length + 1) (t17 t18 t26 t27 : Int) {kx : List Int → Option R} (hk : Yld (kx (base.set i (ent l j i))) Q) :
    Yld (iter (fun w => f38_L13 5000 (i : Int) r (j : Int) l t17 t18 t26 t27 (wi64 ((i : Int) + 1)) o0 w kx) 5000 (0, setI base (i : Int) 1152921504606846976)) Q := by
  have hl := h.2.1
  rw [setI_nat]
  refine Yld.up (fun k row => row = base.set i (cel l j i k)) (i + 1) ?_ ?_ 5000 0 (Nat.zero_le _) (by omega) _ rfl
  · rintro k row w hk1 rfl hw
    have hlen : (base.set i (cel l j i k)).length = l.length + 1 := by simp [hb]
    have hget : (base.set i (cel l j i k))[i]? = some (cel l j i k) := by
      rw [List.getElem?_set_self (by omega)]
    simp only [f38_L13]
    rw [wi64_nat (show i < 9223372036854775807 by omega), d_true (show (k : Int) < (i : Int) + 1 by omega)]
    simp only [cond_true]
    have hg : (cond (decide (1 < (j : Int))) (some true) (some (decide ((k : Int) = 0)))) = some (decide (1 < j) || decide (k = 0)) := by
      by_cases h1 : 1 < j
      · rw [d_true (show (1 : Int) < (j : Int) by omega)]; simp [h1]
      · rw [d_false (show ¬ (1 : Int) < (j : Int) by omega)]
        simp only [cond_false, h1, decide_false, Bool.false_or]
        congr 1
        rw [Bool.eq_iff_iff]; simp
    rw [hg]
    simp only [Option.bind_some]
    rw [wi64_nat (show k < 9223372036854775807 by omega)]
    by_cases hgo : 1 < j ∨ k = 0
    · have : (decide (1 < j) || decide (k = 0)) = true := by simpa using hgo
      rw [this]
      simp only [cond_true]
      have hrow : (rowOf l (j - 1))[k]? = some (ent l (j - 1) k) := rowOf_get (by omega)
      rw [wi64_pred (by omega) (by omega)]
      rw [chk_true (inb_some hget), idx_some' hget]
      simp only [Option.bind_some]
      rw [chk_true (inb_some ho), idx_some' ho]
      simp only [Option.bind_some]
      rw [chk_true (inb_some hrow), idx_some' hrow, hr.grp h (by omega) hi]
      simp only [Option.bind_some]
      rw [chk_true (inb_some hget), setI_nat, List.set_set]
      refine hw _ ?_
      congr 1
      -- the new cell
      have hg2 := grp_range h (show k ≤ i by omega) hi
      by_cases h1 : j = 1
      · subst h1
        obtain rfl : k = 0 := by omega
        simp only [cel, ent, dp, if_true, Nat.sub_self]
        rw [wi64_of (by omega) (by omega)]
        unfold minI
        rw [if_pos (by omega)]; omega
      · obtain ⟨m, rfl⟩ : ∃ m, j = m + 2 := ⟨j - 2, by omega⟩
        have hd := dp_range h m k (by omega)
        have e1 : ent l (m + 2 - 1) k = dp (grp l) m k := rfl
        rw [e1, wi64_of (by omega) (by omega)]
        cases k with
        | zero =>
          simp only [cel, if_neg h1, minTo, Nat.add_sub_cancel]
          unfold minI
          rw [if_pos (by omega)]
        | succ k =>
          simp only [cel, if_neg h1, minTo, Nat.add_sub_cancel]
    · have : (decide (1 < j) || decide (k = 0)) = false := by
        simp only [Bool.or_eq_false_iff, decide_eq_false_iff_not]; omega
      rw [this]
      simp only [cond_false]
      refine hw _ ?_
      congr 1
      obtain rfl : j = 1 := by omega
      cases k with
      | zero => omega
      | succ k => simp only [cel, if_true]
  · rintro row w rfl
    simp only [f38_L13]
    rw [wi64_nat (show i < 9223372036854775807 by omega), d_false (by omega)]
    simp only [cond_false]
    rw [cel_ent hj]
    exact hk

theorem list_of_get {α : Type} {l : List α} {n : Nat} {f : Nat → α} (hl : l.length = n) (h : ∀ x, x < n → l[x]? = some (f x)) : l = (List.range n).map f := by
  apply List.ext_getElem?
  intro i
  by_cases hi : i < n
  · rw [h i hi, List.getElem?_map, List.getElem?_range hi]; rfl
  · rw [List.getElem?_eq_none (by omega), List.getElem?_eq_none (by simp; omega)]

theorem tabL8 {R : Type} {Q : R → Prop} {l : List Tim} (h : Load l) {r : List Tim × (List Int × (List Int × Unit))} (hr : Sums l r) {j : Nat} (hj2 : j ≤ 64) {o0 : List (List Int)} (ho : 1 ≤ j → o0[j - 1]? = some (rowOf l (j - 1)))
    (t17 t18 : Int) {kx : List Int → Option R} (hk : ∀ row : List Int, row.length = l.length + 1 → (∀ x, x ≤ l.length → row[x]? = some (if j = 0 then 1152921504606846976 else ent l j x)) → Yld (kx row) Q) :
    Yld (iter (fun w => f38_L8 5000 r (j : Int) l t17 t18 (len (List.replicate (l.length + 1) 0 : List Int)) o0 w kx) 5000 (0, (List.replicate (l.length + 1) 0 : List Int))) Q := by
  have hl := h.2.1
  refine Yld.up (fun k row => row.length = l.length + 1 ∧ ∀ x, x < k → row[x]? = some (if j = 0 then 1152921504606846976 else ent l j x)) (l.length + 1) ?_ ?_ 5000 0 (Nat.zero_le _) (by omega) _ ⟨by simp, fun x hx => by omega⟩
  · rintro k row w hk1 ⟨h1, h2⟩ hw
    simp only [f38_L8]
    rw [d_true (by rw [len_eq, List.length_replicate]; omega), wi64_nat (show k < 9223372036854775807 by omega)]
    simp only [cond_true]
    rw [chk_true (inb_lt (by omega)), idx_lt (by omega)]
    simp only [Option.bind_some]
    have hnew : ∀ v, v = (if j = 0 then 1152921504606846976 else ent l j k) → (row.set k v).length = l.length + 1 ∧ ∀ x, x < k + 1 → (row.set k v)[x]? = some (if j = 0 then 1152921504606846976 else ent l j x) := by
      intro v hv
      refine ⟨by simp [h1], fun x hx => ?_⟩
      rw [List.getElem?_set]
      by_cases he : k = x
      · rw [if_pos he, if_pos (by omega), hv, he]
      · rw [if_neg he]; exact h2 x (by omega)
    by_cases h0 : j = 0
    · rw [d_true (by omega)]
      simp only [cond_true]
      rw [setI_nat]
      exact hw _ (hnew _ (by rw [if_pos h0]))
    · rw [d_false (by omega)]
      simp only [cond_false]
      have := tabL13 h hr (j := j) (i := k) (by omega) hj2 (by omega) (ho (by omega)) h1 t17 t18 (len (List.replicate (l.length + 1) 0 : List Int)) (k : Int) (Q := Q) (kx := fun o => w ((k : Int) + 1, o)) (hw _ (hnew _ (by rw [if_neg h0])))
      rw [wi64_nat (show k < 9223372036854775807 by omega)] at this
      exact this
  · rintro row w ⟨h1, h2⟩
    simp only [f38_L8]
    rw [d_false (by rw [len_eq, List.length_replicate]; omega)]
    simp only [cond_false]
    exact hk row h1 fun x hx => h2 x (by omega)

theorem f38_ok {l : List Tim} (h : Load l) {k : Nat} (hk : k ≤ 64) : f38 5000 l (k : Int) = some (tab l k) := by
  have hl := h.2.1
  refine Yld.eq ?_
  unfold f38
  refine Yld.then (f39_sums h) fun r hr => ?_
  rw [wi64_nat (show k < 9223372036854775807 by omega)]
  have hroom : ((decide (0 ≤ (k : Int) + 1) && decide ((k : Int) + 1 ≤ (k : Int) + 1)) && decide ((k : Int) + 1 ≤ ((room : Nat) : Int))) = true := by
    simp only [Bool.and_eq_true, decide_eq_true_eq]; unfold room; omega
  rw [chk_true hroom, show Int.toNat ((k : Int) + 1) = k + 1 from by omega]
  refine Yld.up (fun j o => o.length = k + 1 ∧ ∀ y, y < j → o[y]? = some (rowOf l y)) (k + 1) ?_ ?_ 5000 0 (Nat.zero_le _) (by omega) _ ⟨by simp, fun y hy => by omega⟩
  · rintro j o w hj ⟨h1, h2⟩ hw
    simp only [f38_L4]
    rw [d_true (by rw [len_eq, List.length_replicate]; omega), len_eq l, wi64_nat (show l.length < 9223372036854775807 by omega), wi64_nat (show j < 9223372036854775807 by omega)]
    simp only [cond_true]
    have hroom2 : ((decide (0 ≤ (l.length : Int) + 1) && decide ((l.length : Int) + 1 ≤ (l.length : Int) + 1)) && decide ((l.length : Int) + 1 ≤ ((room : Nat) : Int))) = true := by
      simp only [Bool.and_eq_true, decide_eq_true_eq]; unfold room; omega
    rw [chk_true hroom2, show Int.toNat ((l.length : Int) + 1) = l.length + 1 from by omega]
    refine tabL8 h hr (j := j) (by omega) (fun h0 => h2 (j - 1) (by omega)) _ _ fun row hr1 hr2 => ?_
    have hset : ∀ v : List Int, v = rowOf l j → (o.set j v).length = k + 1 ∧ ∀ y, y < j + 1 → (o.set j v)[y]? = some (rowOf l y) := by
      intro v hv
      refine ⟨by simp [h1], fun y hy => ?_⟩
      rw [List.getElem?_set]
      by_cases he : j = y
      · rw [if_pos he, if_pos (by omega), hv, he]
      · rw [if_neg he]; exact h2 y (by omega)
    by_cases h0 : j = 0
    · rw [d_true (by omega)]
      simp only [cond_true]
      refine Yld.chk (inb_lt (k := 0) (by omega)) ?_
      refine Yld.bind (Yld.idxN (k := 0) (by omega) ?_)
      refine Yld.bind (Yld.idxN (k := 0) (by omega) ?_)
      rw [chk_true (inb_lt (by omega)), idx_lt (by omega)]
      simp only [Option.bind_some]
      rw [setI_nat]
      refine hw _ (hset _ ?_)
      rw [show setI row (0 : Int) 0 = row.set 0 0 from rfl]
      subst h0
      refine list_of_get (by simp [hr1]) fun x hx => ?_
      rw [List.getElem?_set]
      by_cases he : 0 = x
      · rw [if_pos he, if_pos (by omega), ← he]; rfl
      · rw [if_neg he, hr2 x (by omega), if_pos rfl]
        simp only [ent]
        rw [if_neg (by omega)]
    · rw [d_false (by omega)]
      simp only [cond_false]
      rw [chk_true (inb_lt (by omega)), idx_lt (by omega)]
      simp only [Option.bind_some]
      rw [setI_nat]
      refine hw _ (hset _ ?_)
      refine list_of_get hr1 fun x hx => ?_
      rw [hr2 x (by omega), if_neg h0]
  · rintro o w ⟨h1, h2⟩
    simp only [f38_L4]
    rw [d_false (by rw [len_eq, List.length_replicate]; omega)]
    simp only [cond_false]
    exact Yld.ret (list_of_get h1 h2)

/-- The least costs for 1 to all groups. -/
def curve (l : List Tim) : List Int := (List.range l.length).map fun j => dp (grp l) j l.length

theorem f23_ok {l : List Tim} (h : Load l) (h12 : f12 5000 l = some 0) : f23 5000 l = some (curve l, 0) := by
  have hl := h.2.1
  refine Yld.eq ?_
  unfold f23
  rw [h12]
  simp only [Option.bind_some, decide_true, Bool.not_true, cond_false]
  rw [len_eq l, f38_ok h (k := l.length) hl]
  simp only [Option.bind_some]
  rw [len_eq, tab_len, chk_true (by simp; omega)]
  have hsub : sub (tab l l.length) 1 (((l.length + 1 : Nat)) : Int) = (List.range l.length).map fun j => rowOf l (j + 1) := by
    refine list_of_get ?_ fun x hx => ?_
    · simp [sub, tab_len]
    · unfold sub
      rw [List.getElem?_take_of_lt (by simp; omega), List.getElem?_drop, show (1 : Int).toNat + x = x + 1 from by simp; omega, tab_get (by omega)]
  rw [hsub]
  have hrow : ∀ x, x < l.length → ((List.range l.length).map fun j => rowOf l (j + 1))[x]? = some (rowOf l (x + 1)) := fun x hx => by
    rw [List.getElem?_map, List.getElem?_range hx]; rfl
  refine Yld.up (fun k o => o = (List.range k).map fun j => dp (grp l) j l.length) l.length ?_ ?_ 5000 0 (Nat.zero_le _) (by omega) _ rfl
  · rintro k o w hk rfl hw
    simp only [f23_L6]
    rw [d_true (by rw [len_eq]; simp; omega), wi64_nat (by omega)]
    simp only [cond_true]
    rw [idx_some' (hrow k hk)]
    simp only [Option.bind_some]
    rw [len_eq, idx_some' (rowOf_get (Nat.le_refl _))]
    simp only [Option.bind_some]
    refine Yld.chk (decide_eq_true ?_) (hw _ ?_)
    · simp; unfold room; omega
    · rw [List.range_succ, List.map_append]; rfl
  · rintro o w rfl
    simp only [f23_L6]
    rw [d_false (by rw [len_eq]; simp)]
    simp only [cond_false]
    exact Yld.ret rfl
end Go.Kz
