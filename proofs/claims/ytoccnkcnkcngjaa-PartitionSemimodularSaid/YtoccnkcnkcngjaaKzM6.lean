/-
  Partitions by what they hold together; the meet.
-/
import Derived.Test.YtoccnkcnkcngjaaKzM5
set_option linter.unusedVariables false
set_option linter.unusedSimpArgs false
namespace Go.Kz

/-- What p holds together, q holds together. -/
def le (n : Nat) (p q : List Int) : Prop := ∀ i j, i < n → j < n → p[i]? = p[j]? → q[i]? = q[j]?
theorem le_refl (n : Nat) (p : List Int) : le n p p := fun _ _ _ _ h => h
theorem le_trans {n : Nat} {p q r : List Int} (h : le n p q) (k : le n q r) : le n p r := fun i j hi hj e => k i j hi hj (h i j hi hj e)

theorem posOf_inj {x y : Int} : {l : List Int} → x ∈ l → y ∈ l → posOf x l = posOf y l → x = y
  | z :: l, hx, hy, h => by
    simp only [posOf] at h
    by_cases h1 : z = x
    · by_cases h2 : z = y
      · rw [← h1, h2]
      · rw [if_pos h1, if_neg h2] at h; omega
    · by_cases h2 : z = y
      · rw [if_neg h1, if_pos h2] at h; omega
      · rw [if_neg h1, if_neg h2] at h
        have hx' : x ∈ l := by
          rcases List.mem_cons.1 hx with e | e
          · exact absurd e.symm h1
          · exact e
        have hy' : y ∈ l := by
          rcases List.mem_cons.1 hy with e | e
          · exact absurd e.symm h2
          · exact e
        exact posOf_inj hx' hy' (by omega)
theorem ofL_len (l : List Int) : (ofL l).length = l.length := by simp [ofL, clsA_length]
/-- The classes hold together what the labels do. -/
theorem ofL_pat {l : List Int} {i j : Nat} (hi : i < l.length) (hj : j < l.length) : (ofL l)[i]? = (ofL l)[j]? ↔ l[i]? = l[j]? := by
  have h1 := clsA_get [] l i hi
  have h2 := clsA_get [] l j hj
  rw [ofL, h1, h2, List.getElem?_eq_getElem hi, List.getElem?_eq_getElem hj]
  simp only [Option.some.injEq]
  constructor
  · intro h
    exact posOf_inj (l := nubA [] l) (by rw [nubA_mem]; exact .inr (List.getElem_mem hi)) (by rw [nubA_mem]; exact .inr (List.getElem_mem hj)) (by omega)
  · intro h; rw [h]
theorem ofL_le (l : List Int) : le l.length (ofL l) l := fun _ _ hi hj h => (ofL_pat hi hj).1 h
theorem le_ofL (l : List Int) : le l.length l (ofL l) := fun _ _ hi hj h => (ofL_pat hi hj).2 h

theorem top_mem {p : List Int} : okP p = true → ∀ c, 0 ≤ c → c < top 0 p → c ∈ p := by
  induction p using rev_ind with
  | h0 => intro _ c h0 h1; simp [top] at h1; omega
  | h1 q x ih =>
    intro h c h0 h1
    obtain ⟨a1, a2, a3⟩ := ok_snoc.1 h
    rw [top_snoc] at h1
    by_cases hx : c = x
    · subst hx; simp
    · have := ih a1 c h0 (by omega)
      simp [this]

theorem split_last {q : List Int} {n : Nat} (h : q.length = n + 1) : ∃ q' y, q = q' ++ [y] ∧ q'.length = n := by
  have hne : q ≠ [] := by intro e; subst e; simp at h
  exact ⟨q.dropLast, q.getLast hne, (List.dropLast_concat_getLast hne).symm, by simp [h]⟩
theorem getq_lt {q : List Int} {y : Int} {i : Nat} (h : i < q.length) : (q ++ [y])[i]? = q[i]? := List.getElem?_append_left h
theorem getq_eq {q : List Int} {y : Int} {n : Nat} (h : q.length = n) : (q ++ [y])[n]? = some y := by subst h; simp

/-- Valid partitions that hold the same together are equal. -/
theorem le_antisymm {p : List Int} : ∀ {q : List Int}, okP p = true → okP q = true → q.length = p.length → le p.length p q → le p.length q p → p = q := by
  induction p using rev_ind with
  | h0 => intro q _ _ h _ _; simp at h; exact h.symm
  | h1 p x ih =>
    intro q hp hq hl h1 h2
    simp only [List.length_append, List.length_singleton] at hl h1 h2
    obtain ⟨q', y, rfl, hl'⟩ := split_last hl
    obtain ⟨a1, a2, a3⟩ := ok_snoc.1 hp
    obtain ⟨b1, b2, b3⟩ := ok_snoc.1 hq
    have e : p = q' := by
      refine ih a1 b1 hl' ?_ ?_
      · intro i j hi hj h
        have := h1 i j (by omega) (by omega)
        rw [getq_lt hi, getq_lt hj, getq_lt (by omega), getq_lt (by omega)] at this
        exact this h
      · intro i j hi hj h
        have := h2 i j (by omega) (by omega)
        rw [getq_lt hi, getq_lt hj, getq_lt (by omega), getq_lt (by omega)] at this
        exact this h
    subst e
    have key : x = y := by
      by_cases hx : x ∈ p
      · obtain ⟨i, hi, hix⟩ := List.mem_iff_getElem.1 hx
        have := h1 i p.length (by omega) (by omega)
        rw [getq_lt hi, getq_eq rfl, getq_lt hi, getq_eq rfl, List.getElem?_eq_getElem hi, hix] at this
        simpa using this rfl
      · by_cases hy : y ∈ p
        · obtain ⟨i, hi, hiy⟩ := List.mem_iff_getElem.1 hy
          have := h2 i p.length (by omega) (by omega)
          rw [getq_lt hi, getq_eq rfl, getq_lt hi, getq_eq rfl, List.getElem?_eq_getElem hi, hiy] at this
          simpa using (this rfl).symm
        · have hx' : ¬ x < top 0 p := fun h => hx (top_mem a1 x a2 h)
          have hy' : ¬ y < top 0 p := fun h => hy (top_mem a1 y b2 h)
          omega
    rw [key]

/-! ## The meet -/
/-- Held together in both. -/
def Both (a b : List Int) (i j : Nat) : Prop := a[i]? = a[j]? ∧ b[i]? = b[j]?
structure IsMeet (n : Nat) (a b m : List Int) : Prop where
  ok : okP m = true
  len : m.length = n
  pat : ∀ i j, i < n → j < n → (m[i]? = m[j]? ↔ Both a b i j)
theorem IsMeet.unique {n : Nat} {a b m k : List Int} (h : IsMeet n a b m) (g : IsMeet n a b k) : m = k := by
  refine le_antisymm h.ok g.ok (by rw [h.len, g.len]) ?_ ?_
  · rw [h.len]; exact fun i j hi hj e => (g.pat i j hi hj).2 ((h.pat i j hi hj).1 e)
  · rw [h.len]; exact fun i j hi hj e => (h.pat i j hi hj).2 ((g.pat i j hi hj).1 e)
theorem isMeet_ofL {n : Nat} {a b l : List Int} (hl : l.length = n) (h : ∀ i j, i < n → j < n → (l[i]? = l[j]? ↔ Both a b i j)) : IsMeet n a b (ofL l) :=
  ⟨okP_ofL l, by rw [ofL_len, hl], fun i j hi hj => by rw [ofL_pat (by omega) (by omega)]; exact h i j hi hj⟩

theorem set_inv {s z : List Int} {n k : Nat} {v : Int} (hl : s.length = n) (h : ∀ i, i < k → s[i]? = z[i]?) (hk : k < n) (hz : z[k]? = some v) :
    (s.set k v).length = n ∧ ∀ i, i < k + 1 → (s.set k v)[i]? = z[i]? := by
  refine ⟨by simp [hl], fun i hi => ?_⟩
  rw [List.getElem?_set]
  split
  · rename_i he; subst he; rw [if_pos (by omega), hz]
  · exact h i (by omega)
theorem set_end {s z : List Int} {n : Nat} (hl : s.length = n) (hz : z.length = n) (h : ∀ i, i < n → s[i]? = z[i]?) : s = z := by
  apply List.ext_getElem?
  intro i
  by_cases hi : i < n
  · exact h i hi
  · rw [List.getElem?_eq_none (by omega), List.getElem?_eq_none (by omega)]
theorem get_le {p : List Int} {n : Nat} (hp : okP p = true) (hl : p.length = n) {k : Nat} (hk : k < p.length) : 0 ≤ p[k] ∧ p[k] < n := by
  obtain ⟨b1, b2, b3⟩ := top_bound hp
  have := b3 _ (List.getElem_mem hk)
  omega

/-- The word that stands for two classes. -/
def zipL (n : Nat) (a b : List Int) : List Int := List.zipWith (fun x y => x * ((n : Int) + 1) + y) a b
theorem zipL_get {n : Nat} {a b : List Int} {i : Nat} (ha : i < a.length) (hb : i < b.length) : (zipL n a b)[i]? = some (a[i] * ((n : Int) + 1) + b[i]) := by
  simp [zipL, List.getElem?_zipWith, List.getElem?_eq_getElem ha, List.getElem?_eq_getElem hb]
theorem mul_add_inj {n x y u v : Int} (hn : 0 ≤ n) (hy : 0 ≤ y ∧ y < n) (hv : 0 ≤ v ∧ v < n) (h : x * (n + 1) + y = u * (n + 1) + v) : x = u ∧ y = v := by
  have h1 : (x * (n + 1) + y) / (n + 1) = x := by rw [Int.mul_comm, Int.mul_add_ediv_left _ _ (by omega), Int.ediv_eq_zero_of_lt hy.1 (by omega)]; omega
  have h2 : (u * (n + 1) + v) / (n + 1) = u := by rw [Int.mul_comm, Int.mul_add_ediv_left _ _ (by omega), Int.ediv_eq_zero_of_lt hv.1 (by omega)]; omega
  have : x = u := by rw [← h1, ← h2, h]
  subst this
  exact ⟨rfl, by omega⟩

theorem f38_eq (N : Nat) (a b : List Int) (hN : 100 ≤ N) (ha : a.length ≤ 64) (hb : b.length ≤ 64) :
    f38 N a b = some (if (okP a && okP b) = true then (if a.length = b.length then 0 else 2) else 1) := by
  unfold f38
  rw [f14_eq N a (by omega) (by omega)]
  simp only [Option.bind_some]
  cases h1 : okP a with
  | false => rfl
  | true =>
    simp only [Bool.not_true, cond_false, f14_eq N b (by omega) (by omega), Option.bind_some]
    cases h2 : okP b with
    | false => rfl
    | true =>
      simp only [Bool.not_true, cond_false, Bool.and_self, if_true]
      by_cases hl : a.length = b.length
      · have : decide (len a = len b) = true := by simp [len, hl]
        rw [this, if_pos hl]; rfl
      · have : decide (len a = len b) = false := by simp [len]; omega
        simp [this, hl]
theorem f39_eq (N : Nat) (a b : List Int) (hN : 100 ≤ N) (ha : a.length ≤ 64) (hb : b.length ≤ 64) :
    f39 N a b = some (if (okP a && okP b) = true then (if a.length = b.length then 0 else 2) else 1) := by
  unfold f39
  rw [f15_eq N a (by omega) (by omega)]
  simp only [Option.bind_some]
  cases h1 : okP a with
  | false => rfl
  | true =>
    simp only [Bool.not_true, cond_false, f15_eq N b (by omega) (by omega), Option.bind_some]
    cases h2 : okP b with
    | false => rfl
    | true =>
      simp only [Bool.not_true, cond_false, Bool.and_self, if_true]
      by_cases hl : a.length = b.length
      · have : decide (len a = len b) = true := by simp [len, hl]
        rw [this, if_pos hl]; rfl
      · have : decide (len a = len b) = false := by simp [len]; omega
        simp [this, hl]

theorem chk_make {R : Type} {n : Nat} {x : Option R} (h : n ≤ 64) : chk (((decide (0 ≤ (n : Int))) && (decide ((n : Int) ≤ (n : Int)))) && (decide ((n : Int) ≤ ((room : Nat) : Int)))) x = x :=
  chk_true (by simp [show ((room : Nat) : Int) = 4294967296 from rfl]; omega)

theorem f19_eq (N : Nat) (a b : List Int) (hN : 100 ≤ N) (hl : a.length ≤ 64) (hab : b.length = a.length) (ha : okP a = true) (hb : okP b = true) :
    f19 N a b = some (ofL (zipL a.length a b), 0) := by
  unfold f19
  rw [f38_eq N a b hN hl (by omega), ha, hb]
  simp only [Bool.and_self, if_true, hab, Option.bind_some, decide_true, Bool.not_true, cond_false, len]
  rw [chk_make hl]
  have hzl : (zipL a.length a b).length = a.length := by simp [zipL]; omega
  refine iter_for (fun k s => s.length = a.length ∧ ∀ i, i < k → s[i]? = (zipL a.length a b)[i]?) a.length ?_ ?_ N (by omega) _ ⟨by simp, by intro i hi; omega⟩
  · rintro k s w hk ⟨hs, hi⟩ hw
    simp only [f19_L6]
    have hga := get_le ha rfl hk
    have hgb := get_le hb hab (k := k) (by omega)
    have hm1 : 0 ≤ a[k] * ((a.length : Int) + 1) := Int.mul_nonneg hga.1 (by omega)
    have hm2 : a[k] * ((a.length : Int) + 1) ≤ 64 * 65 := Int.mul_le_mul (by omega) (by omega) (by omega) (by omega)
    rw [dlt hk, cond_true, idx_lt hk, idx_lt (l := b) (by omega)]
    simp only [Option.bind_some, len]
    rw [chk_true (inb_lt (by omega)), idx_lt (l := s) (by omega)]
    simp only [Option.bind_some]
    rw [wi64_of (by omega) (by omega), wi64_of (n := (a.length : Int) + 1) (by omega) (by omega), wi64_of (n := a[k] * ((a.length : Int) + 1)) (by omega) (by omega), wi64_of (by omega) (by omega), setI_nat]
    exact hw _ (set_inv hs hi hk (zipL_get hk (by omega)))
  · rintro s w ⟨hs, hi⟩
    simp only [f19_L6]
    rw [dnlt, cond_false]
    have he : s = zipL a.length a b := set_end hs hzl hi
    rw [f11_eq N s (by omega) (by omega), he]; rfl
theorem f19_meet {n : Nat} {a b : List Int} (hl : a.length = n) (hab : b.length = n) (ha : okP a = true) (hb : okP b = true) : IsMeet n a b (ofL (zipL n a b)) := by
  refine isMeet_ofL (by simp [zipL]; omega) fun i j hi hj => ?_
  have e1 : a[i]? = some (a[i]'(by omega)) := List.getElem?_eq_getElem (by omega)
  have e2 : a[j]? = some (a[j]'(by omega)) := List.getElem?_eq_getElem (by omega)
  have e3 : b[i]? = some (b[i]'(by omega)) := List.getElem?_eq_getElem (by omega)
  have e4 : b[j]? = some (b[j]'(by omega)) := List.getElem?_eq_getElem (by omega)
  rw [zipL_get (by omega) (by omega), zipL_get (by omega) (by omega)]
  unfold Both
  rw [e1, e2, e3, e4]
  simp only [Option.some.injEq]
  constructor
  · exact fun h => mul_add_inj (by omega) (get_le hb hab (by omega)) (get_le hb hab (by omega)) h
  · rintro ⟨h1, h2⟩; rw [h1, h2]

theorem f20_eq (N : Nat) (a b : List Int) (hN : 100 ≤ N) (hl : a.length ≤ 64) (hab : b.length = a.length) (ha : okP a = true) (hb : okP b = true) :
    ∃ m, f20 N a b = some (m, 0) ∧ IsMeet a.length a b m := by
  refine ⟨ofL (zipL a.length a b), ?_, f19_meet rfl hab ha hb⟩
  unfold f20
  rw [f39_eq N a b hN hl (by omega), ha, hb]
  simp only [Bool.and_self, if_true, hab, Option.bind_some, decide_true, Bool.not_true, cond_false, len]
  rw [chk_make hl]
  refine iter_for (fun k s => s.length = a.length ∧ ∀ i, i < k → ∃ m : Nat, s[i]? = some (m : Int) ∧ m ≤ i ∧ Both a b m i ∧ ∀ l, l < m → ¬ Both a b l i) a.length ?_ ?_ N (by omega) _ ⟨by simp, by intro i hi; omega⟩
  · rintro k s w hk ⟨hs, hi⟩ hw
    simp only [f20_L6]
    rw [dlt_len hk, cond_true, chk_true (inb_lt (by omega)), idx_lt (l := s) (by omega)]
    simp only [Option.bind_some]
    rw [wi64_of (by omega) (by omega), wi64_of (by omega) (by omega), setI_nat]
    refine iter_rule (fun x : Int × List Int => ∃ j m : Nat, x.1 = (j : Int) - 1 ∧ j ≤ k ∧ x.2 = s.set k (m : Int) ∧ j ≤ m ∧ m ≤ k ∧ Both a b m k ∧ ∀ l, j ≤ l → l < m → ¬ Both a b l k) (fun x => (x.1 + 1).toNat) ?_ N _
      ⟨k, k, rfl, by omega, rfl, by omega, by omega, ⟨rfl, rfl⟩, by intro l h1 h2; omega⟩ (by simp only; omega)
    rintro ⟨x, u⟩ v ⟨j, m, hx, hj, hu, hm1, hm2, hm3, hm4⟩ hv
    simp only at hx hu
    subst hx; subst hu
    simp only [f20_L10]
    cases j with
    | zero =>
      have : decide ((0 : Int) ≤ ((0 : Nat) : Int) - 1) = false := by simp
      rw [this, cond_false]
      refine hw _ ⟨by simp [hs], fun i hi' => ?_⟩
      by_cases he : k = i
      · subst he
        exact ⟨m, by rw [List.getElem?_set_self (by omega)], hm2, hm3, fun l hl => hm4 l (by omega) hl⟩
      · rw [List.getElem?_set_ne he]; exact hi i (by omega)
    | succ j =>
      have e0 : ((j + 1 : Nat) : Int) - 1 = (j : Int) := by omega
      have e1 : decide ((0 : Int) ≤ (j : Int)) = true := by simp
      rw [e0, e1, cond_true, idx_lt (l := a) (k := j) (by omega), idx_lt (l := a) (k := k) hk]
      simp only [Option.bind_some]
      have pa : a[j]? = a[k]? ↔ a[j]'(by omega) = a[k] := by rw [List.getElem?_eq_getElem (by omega), List.getElem?_eq_getElem hk]; simp
      have pb : b[j]? = b[k]? ↔ b[j]'(by omega) = b[k]'(by omega) := by rw [List.getElem?_eq_getElem (by omega), List.getElem?_eq_getElem (by omega)]; simp
      have key : (cond (decide (a[j]'(by omega) = a[k])) ((idx b (j : Int)).bind fun x_4 => (idx b (k : Int)).bind fun x_5 => some (decide (x_4 = x_5))) (some false)) = some (decide (a[j]'(by omega) = a[k] ∧ b[j]'(by omega) = b[k]'(by omega))) := by
        by_cases h : a[j]'(by omega) = a[k]
        · simp only [h, decide_true, cond_true, true_and, idx_lt (l := b) (k := j) (by omega), idx_lt (l := b) (k := k) (by omega), Option.bind_some]
        · simp [h]
      rw [key]
      simp only [Option.bind_some]
      rw [wi64_of (by omega) (by omega)]
      by_cases hB : a[j]'(by omega) = a[k] ∧ b[j]'(by omega) = b[k]'(by omega)
      · have hbt : Both a b j k := ⟨pa.2 hB.1, pb.2 hB.2⟩
        simp only [hB, decide_true, cond_true, and_self]
        rw [chk_true (inb_lt (by simp; omega)), idx_lt (k := k) (by simp; omega)]
        simp only [Option.bind_some, setI_nat, List.set_set]
        exact hv _ ⟨j, j, by simp, by omega, rfl, by omega, by omega, hbt, by intro l h1 h2; omega⟩ (by simp only; omega)
      · have hbf : ¬ Both a b j k := fun h => hB ⟨pa.1 h.1, pb.1 h.2⟩
        rw [decide_eq_false hB, cond_false]
        refine hv _ ⟨j, m, by simp, by omega, rfl, by omega, by omega, hm3, ?_⟩ (by simp only; omega)
        intro l h1 h2
        by_cases he : l = j
        · subst he; exact hbf
        · exact hm4 l (by omega) h2
  · rintro s w ⟨hs, hi⟩
    simp only [f20_L6]
    rw [dnlt_len, cond_false, f13_eq N s (by omega) (by omega)]
    simp only [Option.bind_some, Option.some.injEq, Prod.mk.injEq, and_true]
    refine IsMeet.unique (n := a.length) (a := a) (b := b) (isMeet_ofL hs fun i j h1 h2 => ?_) (f19_meet rfl hab ha hb)
    obtain ⟨m, a1, a2, a3, a4⟩ := hi i h1
    obtain ⟨l, b1, b2, b3, b4⟩ := hi j h2
    rw [a1, b1]
    simp only [Option.some.injEq]
    constructor
    · intro h
      have : m = l := by omega
      subst this
      exact ⟨a3.1.symm.trans b3.1, a3.2.symm.trans b3.2⟩
    · rintro ⟨h3, h4⟩
      have c1 : ¬ m < l := fun h => b4 m h ⟨a3.1.trans h3, a3.2.trans h4⟩
      have c2 : ¬ l < m := fun h => a4 l h ⟨b3.1.trans h3.symm, b3.2.trans h4.symm⟩
      omega

end Go.Kz
