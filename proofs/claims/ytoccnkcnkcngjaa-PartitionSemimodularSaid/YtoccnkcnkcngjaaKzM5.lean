/-
  The counts of a partition: plain laws.
-/
import Derived.Test.YtoccnkcnkcngjaaKzM4
import Derived.Test.YtoccnkcnkcngjaaKzAM
set_option linter.unusedVariables false
set_option linter.unusedSimpArgs false
namespace Go.Kz

/-- The number of the classes after a list, from n on. -/
def top : Int → List Int → Int
  | n, [] => n
  | n, c :: l => top (max n (c + 1)) l
theorem top_append : (n : Int) → (a b : List Int) → top n (a ++ b) = top (top n a) b
  | _, [], _ => rfl
  | n, x :: a, b => by simp only [List.cons_append, top, top_append _ a b]
theorem okFrom_append : (n : Int) → (a b : List Int) → okFrom n (a ++ b) = (okFrom n a && okFrom (top n a) b)
  | _, [], _ => by simp [okFrom, top]
  | n, x :: a, b => by simp only [List.cons_append, okFrom, top, okFrom_append _ a b, Bool.and_assoc]
theorem top_snoc (q : List Int) (x : Int) : top 0 (q ++ [x]) = max (top 0 q) (x + 1) := by rw [top_append]; rfl
theorem ok_snoc {q : List Int} {x : Int} : okP (q ++ [x]) = true ↔ okP q = true ∧ 0 ≤ x ∧ x ≤ top 0 q := by
  simp [okP, okFrom_append, okFrom]
theorem top_ge (n : Int) : (l : List Int) → n ≤ top n l
  | [] => by simp [top]
  | x :: l => by have := top_ge (max n (x + 1)) l; simp only [top]; omega
theorem top_bound {q : List Int} : okP q = true → 0 ≤ top 0 q ∧ top 0 q ≤ q.length ∧ ∀ c ∈ q, 0 ≤ c ∧ c < top 0 q := by
  induction q using rev_ind with
  | h0 => intro _; simp [top]
  | h1 q x ih =>
    intro h
    obtain ⟨h1, h2, h3⟩ := ok_snoc.1 h
    obtain ⟨i1, i2, i3⟩ := ih h1
    rw [top_snoc]
    refine ⟨by omega, by simp; omega, ?_⟩
    intro c hc
    rcases List.mem_append.1 hc with hc | hc
    · have := i3 c hc; omega
    · simp only [List.mem_singleton] at hc; subst hc; omega
theorem ok_take {p : List Int} (h : okP p = true) (k : Nat) : okP (p.take k) = true := by
  have := h
  rw [← List.take_append_drop k p] at this
  simp only [okP, okFrom_append, Bool.and_eq_true] at this
  exact this.1
theorem ok_at {p : List Int} (h : okP p = true) {k : Nat} (hk : k < p.length) : 0 ≤ p[k] ∧ p[k] ≤ top 0 (p.take k) := by
  have := ok_take h (k + 1)
  rw [take_succ hk] at this
  exact (ok_snoc.1 this).2

/-- How often a number stands in a list. -/
def cnt (c : Int) (p : List Int) : Int := ((p.count c : Nat) : Int)
theorem cnt_snoc (c : Int) (q : List Int) (x : Int) : cnt c (q ++ [x]) = cnt c q + (if x = c then 1 else 0) := by
  simp only [cnt, List.count_append, List.count_singleton]
  split <;> simp_all
theorem cnt_nonneg (c : Int) (q : List Int) : 0 ≤ cnt c q := by simp [cnt]
theorem cnt_le (c : Int) (q : List Int) : cnt c q ≤ q.length := by
  have := List.count_le_length (a := c) (l := q)
  simp only [cnt]; omega
theorem cnt_zero {c : Int} {q : List Int} (h : c ∉ q) : cnt c q = 0 := by simp [cnt, List.count_eq_zero_of_not_mem h]

/-- The sizes of the classes. -/
def szL (p : List Int) : List Int := (List.range (top 0 p).toNat).map fun (i : Nat) => cnt (i : Int) p
theorem szL_len {p : List Int} : (szL p).length = (top 0 p).toNat := by simp [szL]
theorem szL_get {p : List Int} {k : Nat} (h : k < (szL p).length) : (szL p)[k] = cnt (k : Int) p := by simp [szL]
theorem szL_new {q : List Int} {x : Int} (h : okP q = true) (hx : x = top 0 q) : szL (q ++ [x]) = szL q ++ [1] := by
  obtain ⟨b1, b2, b3⟩ := top_bound h
  have ht : (top 0 (q ++ [x])).toNat = (top 0 q).toNat + 1 := by rw [top_snoc]; omega
  simp only [szL, ht, List.range_succ, List.map_append, List.map_cons, List.map_nil]
  congr 1
  · apply List.map_congr_left
    intro i hi
    simp only [List.mem_range] at hi
    rw [cnt_snoc, if_neg (by omega)]; simp
  · have : ((top 0 q).toNat : Int) = x := by omega
    rw [this, cnt_snoc, if_pos rfl, cnt_zero (fun hm => by have := b3 x hm; omega)]; rfl
theorem szL_old {q : List Int} {k : Nat} (hx : (k : Int) < top 0 q) : szL (q ++ [(k : Int)]) = (szL q).set k (cnt k q + 1) := by
  have ht : top 0 (q ++ [(k : Int)]) = top 0 q := by rw [top_snoc]; omega
  apply List.ext_getElem
  · simp [szL, ht]
  · intro i h1 h2
    rw [szL_get, List.getElem_set]
    rw [cnt_snoc]
    by_cases he : k = i
    · subst he; simp
    · rw [if_neg (by omega), if_neg he, szL_get]; simp

theorem f30_eq (N : Nat) (p : List Int) (hN : p.length < N) (hl : p.length < 4294967296) : f30 N p = some (if okP p then szL p else []) := by
  unfold f30
  rw [f14_eq N p hN hl]
  simp only [Option.bind_some]
  cases hok : okP p with
  | false => rfl
  | true =>
    simp only [Bool.not_true, cond_false, if_true]
    refine iter_for (fun k s => s = szL (p.take k)) p.length ?_ ?_ N hN [] ?_
    · intro k s w hk hs hw
      subst hs
      simp only [f30_L5]
      have hq := ok_take hok k
      obtain ⟨b1, b2, b3⟩ := top_bound hq
      obtain ⟨a1, a2⟩ := ok_at hok hk
      have hsl : (szL (p.take k)).length = (top 0 (p.take k)).toNat := szL_len
      simp only [List.length_take] at b2
      rw [dlt_len hk, cond_true, idx_lt hk]
      simp only [Option.bind_some]
      by_cases he : p[k] = top 0 (p.take k)
      · have e1 : decide (p[k] = len (szL (p.take k))) = true := by simp only [len, hsl, decide_eq_true_eq]; omega
        have hc : p[k] = (((szL (p.take k)).length : Nat) : Int) := by omega
        have hnew := szL_new hq he
        rw [e1, cond_true, chk_room (by simp; omega), hc, chk_true (inb_lt (by simp)), idx_lt (by simp)]
        simp only [Option.bind_some, List.getElem_append_right (Nat.le_refl _), Nat.sub_self, List.getElem_cons_zero]
        rw [wi64_of (by omega) (by omega), setI_nat]
        have : (szL (p.take k) ++ [0]).set (szL (p.take k)).length (wi64 (0 + 1)) = szL (p.take (k + 1)) := by
          rw [wi64_of (by omega) (by omega), take_succ hk, hnew]
          simp
        rw [this, chk_true (inb_lt (by simp))]
        exact hw _ rfl
      · have e1 : decide (p[k] = len (szL (p.take k))) = false := by simp only [len, hsl, decide_eq_false_iff_not]; omega
        obtain ⟨j, hj⟩ := Int.eq_ofNat_of_zero_le a1
        have hjl : j < (szL (p.take k)).length := by omega
        rw [e1, cond_false, hj, chk_true (inb_lt hjl), idx_lt hjl]
        simp only [Option.bind_some]
        have hc := cnt_nonneg (j : Int) (p.take k)
        have hc2 := cnt_le (j : Int) (p.take k)
        simp only [List.length_take] at hc2
        rw [chk_true (inb_lt hjl), wi64_of (by omega) (by omega), szL_get, wi64_of (by omega) (by omega), setI_nat]
        apply hw
        rw [take_succ hk, hj, szL_old (by omega)]
    · intro s w hs
      subst hs
      simp only [f30_L5]
      rw [dnlt_len, cond_false, List.take_length]
    · rfl

theorem f29_eq (N : Nat) (p : List Int) (hN : p.length < N) (hl : p.length < 4294967296) : f29 N p = some (if okP p then top 0 p else 0) := by
  unfold f29
  rw [f15_eq N p hN hl]
  simp only [Option.bind_some]
  cases hok : okP p with
  | false => rfl
  | true =>
    simp only [Bool.not_true, cond_false, if_true]
    refine iter_for (fun k s => s = top 0 (p.take k)) p.length ?_ ?_ N hN 0 rfl
    · intro k s w hk hs hw
      subst hs
      simp only [f29_L5]
      have hq := ok_take hok k
      obtain ⟨b1, b2, b3⟩ := top_bound hq
      obtain ⟨a1, a2⟩ := ok_at hok hk
      simp only [List.length_take] at b2
      rw [dlt_len hk, cond_true, idx_lt hk]
      simp only [Option.bind_some]
      rw [wi64_of (by omega) (by omega), wi64_of (by omega) (by omega)]
      have ht : top 0 (p.take (k + 1)) = max (top 0 (p.take k)) (p[k] + 1) := by rw [take_succ hk, top_snoc]
      by_cases he : p[k] = top 0 (p.take k)
      · simp only [he, decide_true, cond_true]
        exact hw _ (by rw [ht]; omega)
      · simp only [he, decide_false, cond_false]
        exact hw _ (by rw [ht]; omega)
    · intro s w hs
      subst hs
      simp only [f29_L5]
      rw [dnlt_len, cond_false, List.take_length]

/-- The places of a class. -/
def placesL (c : Int) : Nat → List Int → List Int
  | _, [] => []
  | n, x :: l => if x = c then (n : Int) :: placesL c (n + 1) l else placesL c (n + 1) l
theorem placesL_append (c : Int) : (n : Nat) → (a b : List Int) → placesL c n (a ++ b) = placesL c n a ++ placesL c (n + a.length) b
  | _, [], _ => by simp [placesL]
  | n, x :: a, b => by
    simp only [List.cons_append, placesL, placesL_append c (n + 1) a b, List.length_cons]
    have : n + 1 + a.length = n + (a.length + 1) := by omega
    rw [this]
    split <;> rfl
theorem placesL_len (c : Int) : (n : Nat) → (a : List Int) → len (placesL c n a) = cnt c a
  | _, [] => rfl
  | n, x :: a => by
    have := placesL_len c (n + 1) a
    simp only [placesL, cnt, List.count_cons, len] at this ⊢
    split <;> simp_all
theorem placesL_le (c : Int) : (n : Nat) → (a : List Int) → (placesL c n a).length ≤ a.length
  | _, [] => by simp [placesL]
  | n, x :: a => by
    have := placesL_le c (n + 1) a
    simp only [placesL]
    split <;> simp <;> omega

theorem f33_eq (N : Nat) (p : List Int) (c : Int) (hN : p.length < N) (hl : p.length < 4294967296) : f33 N p c = some (if okP p then placesL c 0 p else []) := by
  unfold f33
  rw [f15_eq N p hN hl]
  simp only [Option.bind_some]
  cases hok : okP p with
  | false => rfl
  | true =>
    simp only [Bool.not_true, cond_false, if_true]
    refine iter_for (fun k s => s = placesL c 0 (p.take k)) p.length ?_ ?_ N hN [] rfl
    · intro k s w hk hs hw
      subst hs
      simp only [f33_L5]
      have hle := placesL_le c 0 (p.take k)
      simp only [List.length_take] at hle
      rw [dlt_len hk, cond_true, idx_lt hk]
      simp only [Option.bind_some]
      rw [wi64_of (by omega) (by omega), chk_room (by simp; omega)]
      have ht : placesL c 0 (p.take (k + 1)) = placesL c 0 (p.take k) ++ placesL c k [p[k]] := by
        rw [take_succ hk, placesL_append]; simp [Nat.min_eq_left (Nat.le_of_lt hk)]
      by_cases he : p[k] = c
      · simp only [he, decide_true, cond_true]
        exact hw _ (by rw [ht]; simp [placesL, he])
      · simp only [he, decide_false, cond_false]
        exact hw _ (by rw [ht]; simp [placesL, he])
    · intro s w hs
      subst hs
      simp only [f33_L5]
      rw [dnlt_len, cond_false, List.take_length]
theorem f32_eq (N : Nat) (p : List Int) (c : Int) (hN : p.length < N) (hl : p.length < 4294967296) : f32 N p c = some (if okP p then placesL c 0 p else []) := by
  unfold f32
  rw [f14_eq N p hN hl]
  simp only [Option.bind_some]
  cases hok : okP p with
  | false => rfl
  | true =>
    simp only [Bool.not_true, cond_false, if_true]
    refine iter_for (fun k s => s = placesL c 0 (p.take k)) p.length ?_ ?_ N hN [] rfl
    · intro k s w hk hs hw
      subst hs
      simp only [f32_L5]
      have hle := placesL_le c 0 (p.take k)
      simp only [List.length_take] at hle
      rw [dlt_len hk, cond_true, idx_lt hk]
      simp only [Option.bind_some]
      rw [wi64_of (by omega) (by omega), chk_room (by simp; omega)]
      have ht : placesL c 0 (p.take (k + 1)) = placesL c 0 (p.take k) ++ placesL c k [p[k]] := by
        rw [take_succ hk, placesL_append]; simp [Nat.min_eq_left (Nat.le_of_lt hk)]
      by_cases he : p[k] = c
      · simp only [he, decide_true, cond_true]
        exact hw _ (by rw [ht]; simp [placesL, he])
      · simp only [he, decide_false, cond_false]
        exact hw _ (by rw [ht]; simp [placesL, he])
    · intro s w hs
      subst hs
      simp only [f32_L5]
      rw [dnlt_len, cond_false, List.take_length]

theorem f31_eq (N : Nat) (p : List Int) (hN : p.length < N) (hl : p.length < 4294967296) : f31 N p = some (if okP p then szL p else []) := by
  unfold f31
  have h29 := f29_eq N p hN hl
  cases hok : okP p with
  | false =>
    rw [hok] at h29
    refine iter_for (fun k s => s = []) 0 ?_ ?_ N (by omega) [] rfl
    · intro k s w hk; omega
    · intro s w hs
      subst hs
      simp only [f31_L3, h29, Option.bind_some]
      rfl
  | true =>
    rw [hok] at h29
    simp only [if_true] at h29 ⊢
    obtain ⟨b1, b2, b3⟩ := top_bound hok
    refine iter_for (fun k s => s = (szL p).take k) (top 0 p).toNat ?_ ?_ N (by omega) [] rfl
    · intro k s w hk hs hw
      subst hs
      simp only [f31_L3, h29, Option.bind_some, f33_eq N p k hN hl, hok, if_true]
      have : decide ((k : Int) < top 0 p) = true := by simp; omega
      rw [this, cond_true, chk_room (by simp; omega), wi64_of (by omega) (by omega)]
      apply hw
      have hks : k < (szL p).length := by rw [szL_len]; exact hk
      rw [take_succ hks, szL_get, placesL_len]
    · intro s w hs
      subst hs
      simp only [f31_L3, h29, Option.bind_some]
      have : decide ((((top 0 p).toNat : Nat) : Int) < top 0 p) = false := by simp; omega
      rw [this, cond_false, ← szL_len, List.take_length]

/-! ## Pairs -/
/-- The pairs of things of different classes, by the sizes. -/
def e2 : Int → List Int → Int
  | _, [] => 0
  | t, x :: l => x * t + e2 (t + x) l
def sumL : List Int → Int
  | [] => 0
  | x :: l => x + sumL l
theorem sumL_append : (a b : List Int) → sumL (a ++ b) = sumL a + sumL b
  | [], b => by simp [sumL]
  | x :: a, b => by simp only [List.cons_append, sumL, sumL_append a b]; omega
theorem e2_append : (t : Int) → (a b : List Int) → e2 t (a ++ b) = e2 t a + e2 (t + sumL a) b
  | t, [], b => by simp [e2, sumL]
  | t, x :: a, b => by
    simp only [List.cons_append, e2, sumL, e2_append _ a b]
    have : t + x + sumL a = t + (x + sumL a) := by omega
    rw [this]; omega
theorem e2_shift : (t d : Int) → (a : List Int) → e2 (t + d) a = e2 t a + d * sumL a
  | t, d, [] => by simp [e2, sumL]
  | t, d, x :: a => by
    have h1 : t + d + x = t + x + d := by omega
    simp only [e2, sumL, h1, e2_shift (t + x) d a, Int.mul_add]
    rw [Int.mul_comm x d]; omega
theorem sumL_set : (l : List Int) → (k : Nat) → (h : k < l.length) → sumL (l.set k (l[k] + 1)) = sumL l + 1
  | x :: l, 0, _ => by simp only [List.set_cons_zero, List.getElem_cons_zero, sumL]; omega
  | x :: l, k + 1, h => by
    have := sumL_set l k (by simpa using h)
    simp only [List.set_cons_succ, List.getElem_cons_succ, sumL, this]; omega
theorem e2_set : (t : Int) → (l : List Int) → (k : Nat) → (h : k < l.length) → e2 t (l.set k (l[k] + 1)) = e2 t l + (t + sumL l - l[k])
  | t, x :: l, 0, _ => by
    have h1 : t + (x + 1) = t + x + 1 := by omega
    simp only [List.set_cons_zero, List.getElem_cons_zero, e2, sumL, h1, e2_shift (t + x) 1 l, Int.add_mul]
    omega
  | t, x :: l, k + 1, h => by
    have := e2_set (t + x) l k (by simpa using h)
    simp only [List.set_cons_succ, List.getElem_cons_succ, e2, sumL, this]; omega
theorem sumL_sz {q : List Int} : okP q = true → sumL (szL q) = q.length := by
  induction q using rev_ind with
  | h0 => intro _; rfl
  | h1 q x ih =>
    intro h
    obtain ⟨h1, h2, h3⟩ := ok_snoc.1 h
    by_cases he : x = top 0 q
    · rw [szL_new h1 he, sumL_append, ih h1]; simp [sumL]
    · obtain ⟨k, rfl⟩ := Int.eq_ofNat_of_zero_le h2
      have hk : k < (szL q).length := by rw [szL_len]; omega
      have := sumL_set (szL q) k hk
      rw [szL_get, ih h1] at this
      rw [szL_old (by omega), this]; simp
theorem e2_sz {q : List Int} {x : Int} (h : okP (q ++ [x]) = true) : e2 0 (szL (q ++ [x])) = e2 0 (szL q) + ((q.length : Int) - cnt x q) := by
  obtain ⟨h1, h2, h3⟩ := ok_snoc.1 h
  have hs := sumL_sz h1
  by_cases he : x = top 0 q
  · obtain ⟨b1, b2, b3⟩ := top_bound h1
    have hz : cnt x q = 0 := cnt_zero (fun hm => by have := b3 x hm; omega)
    rw [szL_new h1 he, e2_append, hs, hz]; simp [e2]
  · obtain ⟨k, rfl⟩ := Int.eq_ofNat_of_zero_le h2
    have hk : k < (szL q).length := by rw [szL_len]; omega
    have := e2_set 0 (szL q) k hk
    rw [szL_get, hs] at this
    rw [szL_old (by omega), this]; simp

theorem szL_mem {p : List Int} {x : Int} (h : x ∈ szL p) : 0 ≤ x ∧ x ≤ p.length := by
  simp only [szL, List.mem_map] at h
  obtain ⟨i, _, rfl⟩ := h
  exact ⟨cnt_nonneg _ _, cnt_le _ _⟩

theorem f27_eq (N : Nat) (p : List Int) (hN : p.length < N) (hl : p.length ≤ 64) : f27 N p = some (if okP p then e2 0 (szL p) else 0) := by
  unfold f27
  rw [f30_eq N p hN (by omega)]
  simp only [Option.bind_some]
  cases hok : okP p with
  | false =>
    refine iter_for (fun k s => s = (0, 0)) 0 ?_ ?_ N (by omega) (0, 0) rfl
    · intro k s w hk; omega
    · intro s w hs
      subst hs
      rfl
  | true =>
    simp only [if_true]
    obtain ⟨b1, b2, b3⟩ := top_bound hok
    have hsl : (szL p).length = (top 0 p).toNat := szL_len
    have hss := sumL_sz hok
    refine iter_for (fun k s => s = (sumL ((szL p).take k), e2 0 ((szL p).take k)) ∧ 0 ≤ s.1 ∧ s.1 ≤ 64 * k ∧ 0 ≤ s.2 ∧ s.2 ≤ 262144 * k) (szL p).length ?_ ?_ N (by omega) (0, 0) ⟨rfl, by simp⟩
    · rintro k ⟨u, v⟩ w hk ⟨hs, i1, i2, i3, i4⟩ hw
      simp only [f27_L3]
      simp only [Prod.mk.injEq] at hs
      simp only at i1 i2 i3 i4
      have hx := szL_mem (List.getElem_mem hk)
      have hm1 : 0 ≤ (szL p)[k] * u := Int.mul_nonneg hx.1 i1
      have hm2 : (szL p)[k] * u ≤ 64 * 4096 := Int.mul_le_mul (by omega) (by omega) i1 (by omega)
      rw [dlt_len hk, cond_true, chk_true (inb_lt hk), idx_lt hk]
      simp only [Option.bind_some]
      rw [wi64_of (by omega) (by omega), wi64_of (by omega) (by omega), wi64_of (n := (szL p)[k] * u) (by omega) (by omega), wi64_of (by omega) (by omega)]
      refine hw _ ⟨?_, ?_⟩
      · rw [take_succ hk, sumL_append, e2_append, ← hs.1, ← hs.2]
        simp [sumL, e2]
      · simp only
        have : ((k + 1 : Nat) : Int) = (k : Int) + 1 := by simp
        rw [this]
        refine ⟨by omega, by omega, by omega, by omega⟩
    · rintro ⟨u, v⟩ w ⟨hs, _⟩
      simp only [Prod.mk.injEq] at hs
      simp only [f27_L3]
      rw [dnlt_len, cond_false, hs.2, List.take_length]

theorem f34_eq (N : Nat) (p : List Int) (hN : p.length < N) (hl : p.length ≤ 64) : f34 N p = some (if okP p then e2 0 (szL p) else 0) := by
  unfold f34
  rw [f15_eq N p hN (by omega)]
  simp only [Option.bind_some]
  cases hok : okP p with
  | false => rfl
  | true =>
    simp only [Bool.not_true, cond_false, if_true]
    refine iter_forR (fun k s => s = e2 0 (szL (p.take k)) ∧ 0 ≤ s ∧ s ≤ 64 * k) p.length ?_ ?_ N hN 0 ⟨rfl, by omega, by omega⟩
    · rintro k s w hk ⟨hs, i1, i2⟩ hw
      simp only [f34_L5]
      rw [dlt_len hk, cond_true]
      refine iter_for (fun j u => u = s + ((j : Int) - cnt p[k] (p.take j))) k ?_ ?_ N (by omega) s (by simp [cnt])
      · rintro j u v hj hu hv
        simp only [f34_L8]
        have hc := cnt_nonneg p[k] (p.take j)
        have hc2 := cnt_le p[k] (p.take j)
        simp only [List.length_take] at hc2
        rw [dlt hj, cond_true, idx_lt hk, idx_lt (l := p) (k := j) (by omega)]
        simp only [Option.bind_some]
        rw [wi64_of (by omega) (by omega), wi64_of (by omega) (by omega)]
        have ht : cnt p[k] (p.take (j + 1)) = cnt p[k] (p.take j) + (if p[j]'(by omega) = p[k] then 1 else 0) := by rw [take_succ (by omega), cnt_snoc]
        have hj1 : ((j + 1 : Nat) : Int) = (j : Int) + 1 := by simp
        by_cases he : p[k] = p[j]'(by omega)
        · rw [if_pos he.symm] at ht
          rw [decide_eq_true he, Bool.not_true, cond_false]
          refine hv _ ?_
          rw [ht, hj1]; omega
        · rw [if_neg (fun h => he h.symm)] at ht
          simp only [he, decide_false, Bool.not_false, cond_true]
          refine hv _ ?_
          rw [ht, hj1]; omega
      · rintro u v hu
        simp only [f34_L8]
        rw [dnlt, cond_false, wi64_of (by omega) (by omega)]
        have hc := cnt_nonneg p[k] (p.take k)
        have hc2 := cnt_le p[k] (p.take k)
        simp only [List.length_take] at hc2
        have hj1 : ((k + 1 : Nat) : Int) = (k : Int) + 1 := by simp
        refine hw _ ⟨?_, by omega, by rw [hj1]; omega⟩
        have hq := ok_take hok (k + 1)
        rw [take_succ hk] at hq
        rw [take_succ hk, e2_sz hq, hu, hs]
        simp [Nat.min_eq_left (Nat.le_of_lt hk)]
    · rintro s w ⟨hs, _⟩
      simp only [f34_L5]
      rw [dnlt_len, cond_false, hs, List.take_length]

/-! ## Largest -/
def maxL : Int → List Int → Int
  | t, [] => t
  | t, x :: l => maxL (maxI t x) l
theorem maxL_append : (t : Int) → (a b : List Int) → maxL t (a ++ b) = maxL (maxL t a) b
  | _, [], _ => rfl
  | t, x :: a, b => by simp only [List.cons_append, maxL, maxL_append _ a b]
theorem f28_eq (N : Nat) (p : List Int) (hN : p.length < N) (hl : p.length < 4294967296) : f28 N p = some (maxL 0 (if okP p then szL p else [])) := by
  unfold f28
  rw [f30_eq N p hN (by omega)]
  simp only [Option.bind_some]
  generalize hs : (if okP p = true then szL p else []) = s
  have hsl : s.length ≤ p.length := by
    rw [← hs]
    split
    · rename_i h
      have := top_bound h
      rw [szL_len]; omega
    · simp
  refine iter_for (fun k u => u = maxL 0 (s.take k)) s.length ?_ ?_ N (by omega) 0 rfl
  · rintro k u w hk hu hw
    simp only [f28_L3]
    rw [dlt_len hk, cond_true, chk_true (inb_lt hk), idx_lt hk]
    simp only [Option.bind_some]
    rw [wi64_of (by omega) (by omega)]
    refine hw _ ?_
    rw [take_succ hk, maxL_append, ← hu]; rfl
  · rintro u w hu
    simp only [f28_L3]
    rw [dnlt_len, cond_false, hu, List.take_length]
theorem f35_eq (N : Nat) (p : List Int) (hN : p.length < N) (hl : p.length < 4294967296) : f35 N p = some (maxL 0 (if okP p then szL p else [])) := by
  unfold f35
  rw [f31_eq N p hN (by omega)]
  simp only [Option.bind_some]
  generalize hs : (if okP p = true then szL p else []) = s
  have hsl : s.length ≤ p.length := by
    rw [← hs]
    split
    · rename_i h
      have := top_bound h
      rw [szL_len]; omega
    · simp
  refine iter_for (fun k u => u = maxL 0 (s.take k)) s.length ?_ ?_ N (by omega) 0 rfl
  · rintro k u w hk hu hw
    simp only [f35_L4]
    rw [dlt_len hk, cond_true, chk_true (inb_lt hk), idx_lt hk]
    simp only [Option.bind_some]
    rw [wi64_of (by omega) (by omega)]
    have hm : maxL 0 (s.take (k + 1)) = maxI u s[k] := by rw [take_succ hk, maxL_append, ← hu]; rfl
    by_cases he : u < s[k]
    · simp only [he, decide_true, cond_true]
      rw [chk_true (inb_lt hk)]
      refine hw _ ?_
      rw [hm]; simp [maxI, he]
    · simp only [he, decide_false, cond_false]
      refine hw _ ?_
      rw [hm]; simp [maxI, he]
  · rintro u w hu
    simp only [f35_L4]
    rw [dnlt_len, cond_false, hu, List.take_length]

theorem f26_eq (N : Nat) (p : List Int) (hN : p.length < N) (hl : p.length < 4294967296) : f26 N p = some (if okP p then top 0 p else 0) := by
  unfold f26
  rw [f30_eq N p hN hl]
  simp only [Option.bind_some]
  cases hok : okP p with
  | false => rfl
  | true =>
    have := top_bound hok
    simp only [if_true, len, szL_len]
    congr 1; omega

theorem law8 (a : List Int) (c : Int) : f8 100 a c = some true := by
  unfold f8
  rw [f10_100]
  simp only [Option.bind_some, Bool.not_true, cond_false]
  by_cases ha : 64 < a.length
  · have : decide (64 < len a) = true := by simp [len]; omega
    simp [this]
  · have h1 : decide (64 < len a) = false := by simp [len]; omega
    have hsl : (if okP a then szL a else []).length ≤ 64 := by
      split
      · rename_i h
        have := top_bound h
        rw [szL_len]; omega
      · simp
    have hpl : (if okP a then placesL c 0 a else []).length ≤ 64 := by
      split
      · have := placesL_le c 0 a
        omega
      · simp
    simp only [h1, cond_false, Option.bind_some, f26_eq 100 a (by omega) (by omega), f29_eq 100 a (by omega) (by omega), decide_true, cond_true, f30_eq 100 a (by omega) (by omega), f31_eq 100 a (by omega) (by omega),
      f32_eq 100 a c (by omega) (by omega), f33_eq 100 a c (by omega) (by omega), f27_eq 100 a (by omega) (by omega), f34_eq 100 a (by omega) (by omega), f28_eq 100 a (by omega) (by omega), f35_eq 100 a (by omega) (by omega)]
    rw [f12_eq 100 _ _ (by omega) (by omega), f12_eq 100 _ _ (by omega) (by omega)]
    simp

end Go.Kz
