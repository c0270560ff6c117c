/-
  The counts along meet and join.
-/
import Derived.Test.YtoccnkcnkcngjaaKzM9
set_option linter.unusedSimpArgs false
set_option linter.unusedVariables false
namespace Go.Kz

/-- How many different numbers. -/
def dif (l : List Int) : Nat := (nubA [] l).length
theorem nubA_snoc {x : Int} : (acc l : List Int) → nubA acc (l ++ [x]) = if x ∈ nubA acc l then nubA acc l else nubA acc l ++ [x]
  | acc, [] => by by_cases h : x ∈ acc <;> simp [nubA, h]
  | acc, y :: l => by
    simp only [List.cons_append, nubA]
    split <;> exact nubA_snoc _ l
theorem dif_snoc (l : List Int) (x : Int) : dif (l ++ [x]) = dif l + (if x ∈ l then 0 else 1) := by
  simp only [dif, nubA_snoc, nubA_mem, List.not_mem_nil, false_or]
  split <;> simp
theorem nubA_nodup : (acc l : List Int) → acc.Nodup → (nubA acc l).Nodup
  | acc, [], h => h
  | acc, x :: l, h => by
    simp only [nubA]
    split
    · exact nubA_nodup acc l h
    · rename_i hx
      refine nubA_nodup _ l ?_
      rw [List.nodup_append]
      refine ⟨h, by simp, ?_⟩
      intro a ha b hb he
      simp only [List.mem_singleton] at hb
      subst hb; subst he
      exact hx ha
theorem nodup_le {l : List Int} : ∀ {m : List Int}, l.Nodup → (∀ x ∈ l, x ∈ m) → l.length ≤ m.length := by
  induction l with
  | nil => intro m _ _; simp
  | cons x l ih =>
    intro m h hs
    rw [List.nodup_cons] at h
    have hx := hs x (by simp)
    have h1 := ih (m := m.erase x) h.2 fun y hy => by
      have hne : y ≠ x := by intro he; subst he; exact h.1 hy
      rw [List.mem_erase_of_ne hne]
      exact hs y (by simp [hy])
    have h2 := List.length_erase_of_mem hx
    have h3 : 0 < m.length := List.length_pos_of_mem hx
    simp only [List.length_cons]
    omega
theorem dif_le {l m : List Int} (h : ∀ x ∈ l, x ∈ m) : dif l ≤ m.length := nodup_le (nubA_nodup [] l (by simp)) fun x hx => h x (by rw [nubA_mem] at hx; simpa using hx)
theorem dif_map (g : Int → Int) (d : Int) (l : List Int) (hg : ∀ x, x ≠ d → g x = x) : dif l ≤ dif (l.map g) + 1 := by
  have := nodup_le (l := nubA [] l) (m := d :: nubA [] (l.map g)) (nubA_nodup [] l (by simp)) fun x hx => by
    rw [nubA_mem] at hx
    simp only [List.not_mem_nil, false_or] at hx
    by_cases he : x = d
    · simp [he]
    · simp only [List.mem_cons]
      right
      rw [nubA_mem]
      right
      rw [List.mem_map]
      exact ⟨x, hx, hg x he⟩
  simpa [dif] using this
theorem top_dif {p : List Int} : okP p = true → top 0 p = (dif p : Int) := by
  induction p using rev_ind with
  | h0 => intro _; rfl
  | h1 q x ih =>
    intro h
    obtain ⟨a1, a2, a3⟩ := ok_snoc.1 h
    obtain ⟨b1, b2, b3⟩ := top_bound a1
    have := ih a1
    rw [top_snoc, dif_snoc]
    by_cases hx : x ∈ q
    · have := b3 x hx
      rw [if_pos hx]; omega
    · have : ¬ x < top 0 q := fun h => hx (top_mem a1 x a2 h)
      rw [if_neg hx]; omega

theorem mem_iff_get {q : List Int} {y : Int} : y ∈ q ↔ ∃ i, i < q.length ∧ q[i]? = some y := by
  rw [List.mem_iff_getElem]
  constructor
  · rintro ⟨i, hi, h⟩; exact ⟨i, hi, by rw [List.getElem?_eq_getElem hi, h]⟩
  · rintro ⟨i, hi, h⟩; rw [List.getElem?_eq_getElem hi] at h; exact ⟨i, hi, Option.some.inj h⟩
theorem le_cut {n : Nat} {p q : List Int} {u v : Int} (hp : p.length = n) (hq : q.length = n) (h : le (n + 1) (p ++ [u]) (q ++ [v])) :
    le n p q ∧ ∀ i, i < n → p[i]? = some u → q[i]? = some v := by
  constructor
  · intro i j hi hj e
    have := h i j (by omega) (by omega)
    rw [getq_lt (by omega), getq_lt (by omega), getq_lt (by omega), getq_lt (by omega)] at this
    exact this e
  · intro i hi e
    have := h i n (by omega) (by omega)
    rw [getq_lt (by omega), getq_eq hp, getq_lt (by omega), getq_eq hq] at this
    exact this e
theorem le_snoc {n : Nat} {p q : List Int} {u v : Int} (hp : p.length = n) (hq : q.length = n) (h : le n p q) (h2 : ∀ i, i < n → p[i]? = some u → q[i]? = some v) :
    le (n + 1) (p ++ [u]) (q ++ [v]) := by
  intro i j hi hj e
  by_cases h3 : i < n
  · rw [getq_lt (q := p) (by omega)] at e
    rw [getq_lt (q := q) (by omega)]
    by_cases h4 : j < n
    · rw [getq_lt (q := p) (by omega)] at e
      rw [getq_lt (q := q) (by omega)]
      exact h i j h3 h4 e
    · have : j = n := by omega
      subst this
      rw [getq_eq hp] at e
      rw [getq_eq hq]
      exact h2 i h3 e
  · have : i = n := by omega
    subst this
    by_cases h4 : j < i
    · rw [getq_eq hp, getq_lt (q := p) (by omega)] at e
      rw [getq_eq hq, getq_lt (q := q) (by omega)]
      exact (h2 j h4 e.symm).symm
    · have : j = i := by omega
      subst this; rfl
theorem dif_mono {n : Nat} : ∀ {p q : List Int}, p.length = n → q.length = n → le n p q → dif q ≤ dif p := by
  induction n with
  | zero => intro p q hp hq _; have := List.eq_nil_of_length_eq_zero hp; have := List.eq_nil_of_length_eq_zero hq; subst_vars; simp
  | succ n ih =>
    intro p q hp hq h
    obtain ⟨p, u, rfl, lp⟩ := split_last hp
    obtain ⟨q, v, rfl, lq⟩ := split_last hq
    obtain ⟨h1, h2⟩ := le_cut lp lq h
    have := ih lp lq h1
    rw [dif_snoc, dif_snoc]
    by_cases hu : u ∈ p
    · obtain ⟨i, hi, e⟩ := mem_iff_get.1 hu
      have : v ∈ q := mem_iff_get.2 ⟨i, by omega, h2 i (by omega) e⟩
      rw [if_pos hu, if_pos this]; omega
    · rw [if_neg hu]; split <;> omega

theorem semi {n : Nat} (hn : n ≤ 64) : ∀ {p q m j : List Int}, Pn n p → Pn n q → IsMeet n p q m → IsJoin n p q j → dif p + dif q ≤ dif m + dif j := by
  induction n with
  | zero =>
    intro p q m j hp hq _ _
    have := List.eq_nil_of_length_eq_zero hp.2; have := List.eq_nil_of_length_eq_zero hq.2; subst_vars; simp [dif, nubA]
  | succ n ih =>
    intro p q m j hp hq hm hj
    obtain ⟨p, u, rfl, lp⟩ := split_last hp.2
    obtain ⟨q, v, rfl, lq⟩ := split_last hq.2
    obtain ⟨m, w, rfl, lm⟩ := split_last hm.len
    have hp' : Pn n p := ⟨(ok_snoc.1 hp.1).1, lp⟩
    have hq' : Pn n q := ⟨(ok_snoc.1 hq.1).1, lq⟩
    have hm' : IsMeet n p q m := by
      refine ⟨(ok_snoc.1 hm.ok).1, lm, fun a b ha hb => ?_⟩
      have := hm.pat a b (by omega) (by omega)
      unfold Both at this ⊢
      rw [getq_lt (by omega), getq_lt (by omega), getq_lt (by omega), getq_lt (by omega), getq_lt (by omega), getq_lt (by omega)] at this
      exact this
    obtain ⟨j', -, hj'⟩ := f21_eq 100 p q (by omega) (by omega) (by omega) hp'.1 hq'.1
    rw [lp] at hj'
    have hi := ih (by omega) hp' hq' hm' hj'
    have lj := hj'.len
    have hlm : le (n + 1) (m ++ [w]) (p ++ [u]) := hm.l
    have hlm2 : le (n + 1) (m ++ [w]) (q ++ [v]) := hm.r
    have wp : ∀ i, i < n → m[i]? = some w → p[i]? = some u := (le_cut lm lp hlm).2
    have wq : ∀ i, i < n → m[i]? = some w → q[i]? = some v := (le_cut lm lq hlm2).2
    have use : ∀ s t, s.length = n → le n p s → le n q s → (∀ i, i < n → p[i]? = some u → s[i]? = some t) → (∀ i, i < n → q[i]? = some v → s[i]? = some t) → dif (s ++ [t]) ≤ dif j := by
      intro s t hs k1 k2 k3 k4
      have := hj.least (s ++ [t]) (le_snoc lp hs k1 k3) (le_snoc lq hs k2 k4)
      exact dif_mono hj.len (by simp [hs]) this
    rw [dif_snoc p, dif_snoc q, dif_snoc m]
    by_cases hu : u ∈ p
    · obtain ⟨i0, hi0, ei0⟩ := mem_iff_get.1 hu
      obtain ⟨c0, ec0⟩ : ∃ c0, j'[i0]? = some c0 := ⟨_, List.getElem?_eq_getElem (by omega)⟩
      have hp0 : ∀ i, i < n → p[i]? = some u → j'[i]? = some c0 := fun i h1 h2 => by rw [← ec0]; exact hj'.l i i0 h1 (by omega) (by rw [h2, ei0])
      have hc0 : c0 ∈ j' := mem_iff_get.2 ⟨i0, by omega, ec0⟩
      by_cases hv : v ∈ q
      · obtain ⟨l0, hl0, el0⟩ := mem_iff_get.1 hv
        obtain ⟨d0, ed0⟩ : ∃ d0, j'[l0]? = some d0 := ⟨_, List.getElem?_eq_getElem (by omega)⟩
        have hq0 : ∀ i, i < n → q[i]? = some v → j'[i]? = some d0 := fun i h1 h2 => by rw [← ed0]; exact hj'.r i l0 h1 (by omega) (by rw [h2, el0])
        rw [if_pos hu, if_pos hv]
        by_cases he : c0 = d0
        · subst he
          have := use j' c0 lj hj'.l hj'.r hp0 hq0
          rw [dif_snoc, if_pos hc0] at this
          split <;> omega
        · have hw : w ∉ m := by
            intro hw
            obtain ⟨i, hi, e⟩ := mem_iff_get.1 hw
            have k1 := hp0 i (by omega) (wp i (by omega) e)
            have k2 := hq0 i (by omega) (wq i (by omega) e)
            rw [k1] at k2
            exact he (Option.some.inj k2)
          have hle : le n j' (j'.map fun z => if z = d0 then c0 else z) := by
            intro i k _ _ e
            rw [List.getElem?_map, List.getElem?_map, e]
          have := use (j'.map fun z => if z = d0 then c0 else z) c0 (by simp [lj]) (le_trans hj'.l hle) (le_trans hj'.r hle)
            (fun i h1 h2 => by rw [List.getElem?_map, hp0 i h1 h2]; simp)
            (fun i h1 h2 => by rw [List.getElem?_map, hq0 i h1 h2]; simp)
          have h3 := dif_map (fun z => if z = d0 then c0 else z) d0 j' (fun x hx => if_neg hx)
          rw [dif_snoc] at this
          rw [if_neg hw]
          omega
      · have hw : w ∉ m := by
          intro hw
          obtain ⟨i, hi, e⟩ := mem_iff_get.1 hw
          exact hv (mem_iff_get.2 ⟨i, by omega, wq i (by omega) e⟩)
        have := use j' c0 lj hj'.l hj'.r hp0 (fun i h1 h2 => absurd (mem_iff_get.2 ⟨i, by omega, h2⟩) hv)
        rw [dif_snoc, if_pos hc0] at this
        rw [if_pos hu, if_neg hv, if_neg hw]
        omega
    · have hw : w ∉ m := by
        intro hw
        obtain ⟨i, hi, e⟩ := mem_iff_get.1 hw
        exact hu (mem_iff_get.2 ⟨i, by omega, wp i (by omega) e⟩)
      by_cases hv : v ∈ q
      · obtain ⟨l0, hl0, el0⟩ := mem_iff_get.1 hv
        obtain ⟨d0, ed0⟩ : ∃ d0, j'[l0]? = some d0 := ⟨_, List.getElem?_eq_getElem (by omega)⟩
        have hq0 : ∀ i, i < n → q[i]? = some v → j'[i]? = some d0 := fun i h1 h2 => by rw [← ed0]; exact hj'.r i l0 h1 (by omega) (by rw [h2, el0])
        have hd0 : d0 ∈ j' := mem_iff_get.2 ⟨l0, by omega, ed0⟩
        have := use j' d0 lj hj'.l hj'.r (fun i h1 h2 => absurd (mem_iff_get.2 ⟨i, by omega, h2⟩) hu) hq0
        rw [dif_snoc, if_pos hd0] at this
        rw [if_neg hu, if_pos hv, if_neg hw]
        omega
      · obtain ⟨b1, b2, b3⟩ := top_bound hj'.ok
        have ht : top 0 j' ∉ j' := fun h => by have := b3 _ h; omega
        have := use j' (top 0 j') lj hj'.l hj'.r (fun i h1 h2 => absurd (mem_iff_get.2 ⟨i, by omega, h2⟩) hu) (fun i h1 h2 => absurd (mem_iff_get.2 ⟨i, by omega, h2⟩) hv)
        rw [dif_snoc, if_neg ht] at this
        rw [if_neg hu, if_neg hv, if_neg hw]
        omega

/-! ## Pairs and largest classes -/
def prs (p : List Int) : Int := e2 0 (szL p)
theorem prs_snoc {q : List Int} {x : Int} (h : okP (q ++ [x]) = true) : prs (q ++ [x]) = prs q + ((q.length : Int) - cnt x q) := e2_sz h
theorem prs_bound {q : List Int} (hl : q.length ≤ 64) : okP q = true → 0 ≤ prs q ∧ prs q ≤ 64 * q.length := by
  induction q using rev_ind with
  | h0 => intro _; simp [prs, szL, top, e2]
  | h1 q x ih =>
    intro h
    have := ih (by simp at hl; omega) (ok_snoc.1 h).1
    have h1 := cnt_le x q
    have h2 := cnt_nonneg x q
    rw [prs_snoc h]
    simp at hl ⊢
    omega
theorem cnt_mono {x y : Int} {n : Nat} : ∀ {p q : List Int}, p.length = n → q.length = n → (∀ i, i < n → p[i]? = some x → q[i]? = some y) → cnt x p ≤ cnt y q := by
  induction n with
  | zero => intro p q hp hq _; have := List.eq_nil_of_length_eq_zero hp; have := List.eq_nil_of_length_eq_zero hq; subst_vars; simp [cnt]
  | succ n ih =>
    intro p q hp hq h
    obtain ⟨p, u, rfl, lp⟩ := split_last hp
    obtain ⟨q, v, rfl, lq⟩ := split_last hq
    have := ih lp lq fun i hi e => by
      have := h i (by omega)
      rw [getq_lt (by omega), getq_lt (by omega)] at this
      exact this e
    have hl := h n (by omega)
    rw [getq_eq lp, getq_eq lq] at hl
    rw [cnt_snoc, cnt_snoc]
    by_cases hu : u = x
    · have : v = y := Option.some.inj (hl (by rw [hu]))
      rw [if_pos hu, if_pos this]; omega
    · rw [if_neg hu]; split <;> omega
theorem cnt_ie {x y z : Int} {n : Nat} : ∀ {p q m : List Int}, p.length = n → q.length = n → m.length = n → (∀ i, i < n → p[i]? = some x → q[i]? = some y → m[i]? = some z) → cnt x p + cnt y q ≤ n + cnt z m := by
  induction n with
  | zero => intro p q m hp hq hm _; have := List.eq_nil_of_length_eq_zero hp; have := List.eq_nil_of_length_eq_zero hq; have := List.eq_nil_of_length_eq_zero hm; subst_vars; simp [cnt]
  | succ n ih =>
    intro p q m hp hq hm h
    obtain ⟨p, u, rfl, lp⟩ := split_last hp
    obtain ⟨q, v, rfl, lq⟩ := split_last hq
    obtain ⟨m, w, rfl, lm⟩ := split_last hm
    have := ih lp lq lm fun i hi e1 e2 => by
      have := h i (by omega)
      rw [getq_lt (by omega), getq_lt (by omega), getq_lt (by omega)] at this
      exact this e1 e2
    have hl := h n (by omega)
    rw [getq_eq lp, getq_eq lq, getq_eq lm] at hl
    rw [cnt_snoc, cnt_snoc, cnt_snoc]
    by_cases hu : u = x
    · by_cases hv : v = y
      · have : w = z := Option.some.inj (hl (by rw [hu]) (by rw [hv]))
        rw [if_pos hu, if_pos hv, if_pos this]; omega
      · rw [if_pos hu, if_neg hv]; split <;> omega
    · rw [if_neg hu]; split <;> split <;> omega
theorem prs_mono {n : Nat} : ∀ {p q : List Int}, Pn n p → Pn n q → le n p q → prs q ≤ prs p := by
  induction n with
  | zero => intro p q hp hq _; have := List.eq_nil_of_length_eq_zero hp.2; have := List.eq_nil_of_length_eq_zero hq.2; subst_vars; simp
  | succ n ih =>
    intro p q hp hq h
    obtain ⟨p, u, rfl, lp⟩ := split_last hp.2
    obtain ⟨q, v, rfl, lq⟩ := split_last hq.2
    obtain ⟨h1, h2⟩ := le_cut lp lq h
    have := ih ⟨(ok_snoc.1 hp.1).1, lp⟩ ⟨(ok_snoc.1 hq.1).1, lq⟩ h1
    have h3 := cnt_mono lp lq h2
    rw [prs_snoc hp.1, prs_snoc hq.1]
    omega
theorem prs_meet {n : Nat} : ∀ {p q m : List Int}, Pn n p → Pn n q → Pn n m → (∀ i j, i < n → j < n → p[i]? = p[j]? → q[i]? = q[j]? → m[i]? = m[j]?) → prs m ≤ prs p + prs q := by
  induction n with
  | zero =>
    intro p q m hp hq hm _
    have := List.eq_nil_of_length_eq_zero hp.2; have := List.eq_nil_of_length_eq_zero hq.2; have := List.eq_nil_of_length_eq_zero hm.2; subst_vars; simp [prs, szL, top, e2]
  | succ n ih =>
    intro p q m hp hq hm h
    obtain ⟨p, u, rfl, lp⟩ := split_last hp.2
    obtain ⟨q, v, rfl, lq⟩ := split_last hq.2
    obtain ⟨m, w, rfl, lm⟩ := split_last hm.2
    have := ih ⟨(ok_snoc.1 hp.1).1, lp⟩ ⟨(ok_snoc.1 hq.1).1, lq⟩ ⟨(ok_snoc.1 hm.1).1, lm⟩ fun i j hi hj e1 e2 => by
      have := h i j (by omega) (by omega)
      rw [getq_lt (by omega), getq_lt (by omega), getq_lt (by omega), getq_lt (by omega), getq_lt (by omega), getq_lt (by omega)] at this
      exact this e1 e2
    have h3 := cnt_ie (x := u) (y := v) (z := w) lp lq lm fun i hi e1 e2 => by
      have := h i n (by omega) (by omega)
      rw [getq_lt (q := p) (i := i) (by omega), getq_lt (q := q) (i := i) (by omega), getq_lt (q := m) (i := i) (by omega), getq_eq lp, getq_eq lq, getq_eq lm] at this
      exact this e1 e2
    rw [prs_snoc hp.1, prs_snoc hq.1, prs_snoc hm.1]
    omega
theorem maxL_ge : (t : Int) → (l : List Int) → t ≤ maxL t l ∧ ∀ x ∈ l, x ≤ maxL t l
  | t, [] => by simp [maxL]
  | t, y :: l => by
    obtain ⟨h1, h2⟩ := maxL_ge (maxI t y) l
    have h3 : t ≤ maxI t y ∧ y ≤ maxI t y := by simp only [maxI]; split <;> omega
    simp only [maxL]
    refine ⟨by omega, fun x hx => ?_⟩
    rcases List.mem_cons.1 hx with rfl | hx
    · omega
    · exact h2 x hx
theorem maxL_le {b : Int} : (t : Int) → (l : List Int) → t ≤ b → (∀ x ∈ l, x ≤ b) → maxL t l ≤ b
  | t, [], h, _ => h
  | t, y :: l, h, k => by
    simp only [maxL]
    refine maxL_le _ l ?_ fun x hx => k x (by simp [hx])
    have := k y (by simp)
    simp only [maxI]; split <;> omega
theorem largest_mono {n : Nat} {p q : List Int} (hp : Pn n p) (hq : Pn n q) (h : le n p q) : maxL 0 (szL p) ≤ maxL 0 (szL q) := by
  obtain ⟨g1, g2⟩ := maxL_ge 0 (szL q)
  refine maxL_le 0 _ g1 fun z hz => ?_
  simp only [szL, List.mem_map, List.mem_range] at hz
  obtain ⟨c, hc, rfl⟩ := hz
  obtain ⟨i, hi, e⟩ := mem_iff_get.1 (top_mem hp.1 (c : Int) (by omega) (by omega))
  obtain ⟨d, hd⟩ : ∃ d, q[i]? = some d := ⟨_, List.getElem?_eq_getElem (by rw [hq.2, ← hp.2]; exact hi)⟩
  have h1 : cnt (c : Int) p ≤ cnt d q := cnt_mono hp.2 hq.2 fun k hk e' => by rw [← hd]; exact h k i hk (by rw [← hp.2]; exact hi) (by rw [e', e])
  have hdm : d ∈ q := mem_iff_get.2 ⟨i, by rw [hq.2, ← hp.2]; exact hi, hd⟩
  obtain ⟨b1, b2, b3⟩ := top_bound hq.1
  have hdb := b3 d hdm
  have : cnt d q ∈ szL q := by
    simp only [szL, List.mem_map, List.mem_range]
    exact ⟨d.toNat, by omega, by congr 1; omega⟩
  have := g2 _ this
  omega

theorem law7 (a b : List Int) : f7 5000 a b = some true := by
  unfold f7
  rw [f10_5000]
  obtain ⟨n, x, y, z, hn, e16, x1, y1, z1, x2, y2, z2⟩ := f16_eq 5000 a b a (by omega)
  have hx : Pn n x := ⟨x1, x2⟩
  have hy : Pn n y := ⟨y1, y2⟩
  obtain ⟨m, e1, hm⟩ := f17_eq 5000 (by omega) hn hx hy
  obtain ⟨j, e3, hj⟩ := f18_eq 5000 (by omega) hn hx hy
  have cn : ∀ {p}, Pn n p → f26 5000 p = some (dif p : Int) := fun {p} hp => by
    rw [f26_eq 5000 p (by have := hp.2; omega) (by have := hp.2; omega), hp.1, if_pos rfl, top_dif hp.1]
  have cp : ∀ {p}, Pn n p → f27 5000 p = some (prs p) := fun {p} hp => by
    rw [f27_eq 5000 p (by have := hp.2; omega) (by have := hp.2; omega), hp.1, if_pos rfl]; rfl
  have cl : ∀ {p}, Pn n p → f28 5000 p = some (maxL 0 (szL p)) := fun {p} hp => by
    rw [f28_eq 5000 p (by have := hp.2; omega) (by have := hp.2; omega), hp.1, if_pos rfl]
  have db : ∀ {p}, Pn n p → dif p ≤ 24 := fun {p} hp => by
    have := dif_le (l := p) (m := p) fun _ h => h
    have := hp.2; omega
  have pb : ∀ {p}, Pn n p → 0 ≤ prs p ∧ prs p ≤ 64 * 24 := fun {p} hp => by
    have := prs_bound (q := p) (by have := hp.2; omega) hp.1
    have := hp.2; omega
  have hmul : 0 ≤ (dif x : Int) * (dif y : Int) ∧ (dif x : Int) * (dif y : Int) ≤ 24 * 24 := by
    have := db hx; have := db hy
    exact ⟨Int.mul_nonneg (by omega) (by omega), Int.mul_le_mul (by omega) (by omega) (by omega) (by omega)⟩
  have s1 := semi (by omega) hx hy hm hj
  have s2 : dif m ≤ dif x * dif y := by
    have hxb := top_bound hx.1
    have hyb := top_bound hy.1
    rw [top_dif hx.1] at hxb
    rw [top_dif hy.1] at hyb
    have hl : (List.zipWith (fun u v => u * (dif y : Int) + v) x y).length = n := by simp [x2, y2]
    have hg : ∀ i, i < n → ∃ u v, x[i]? = some u ∧ y[i]? = some v ∧ (List.zipWith (fun u v => u * (dif y : Int) + v) x y)[i]? = some (u * (dif y : Int) + v) ∧ (0 ≤ u ∧ u < dif x) ∧ (0 ≤ v ∧ v < dif y) := by
      intro i hi
      refine ⟨x[i]'(by omega), y[i]'(by omega), List.getElem?_eq_getElem _, List.getElem?_eq_getElem _, ?_, hxb.2.2 _ (List.getElem_mem _), hyb.2.2 _ (List.getElem_mem _)⟩
      simp [List.getElem?_zipWith, List.getElem?_eq_getElem (show i < x.length by omega), List.getElem?_eq_getElem (show i < y.length by omega)]
    have h1 : le n (List.zipWith (fun u v => u * (dif y : Int) + v) x y) m := by
      intro i k hi hk e
      obtain ⟨u, v, a1, a2, a3, a4, a5⟩ := hg i hi
      obtain ⟨u', v', b1, b2, b3, b4, b5⟩ := hg k hk
      rw [a3, b3] at e
      have e := Option.some.inj e
      have : (dif y : Int) = ((dif y : Int) - 1) + 1 := by omega
      rw [this] at e
      have hq : u = u' ∧ v = v' := by
        have k1 : (u * ((dif y : Int) - 1 + 1) + v) / ((dif y : Int) - 1 + 1) = u := by rw [Int.mul_comm, Int.mul_add_ediv_left _ _ (by omega), Int.ediv_eq_zero_of_lt a5.1 (by omega)]; omega
        have k2 : (u' * ((dif y : Int) - 1 + 1) + v') / ((dif y : Int) - 1 + 1) = u' := by rw [Int.mul_comm, Int.mul_add_ediv_left _ _ (by omega), Int.ediv_eq_zero_of_lt b5.1 (by omega)]; omega
        have : u = u' := by rw [← k1, ← k2, e]
        subst this
        exact ⟨rfl, by omega⟩
      exact (hm.pat i k hi hk).2 ⟨by rw [a1, b1, hq.1], by rw [a2, b2, hq.2]⟩
    have h2 := dif_mono hl hm.len h1
    have h3 := dif_le (l := List.zipWith (fun u v => u * (dif y : Int) + v) x y) (m := upto (dif x * dif y)) fun w hw => by
      obtain ⟨i, hi, e⟩ := mem_iff_get.1 hw
      obtain ⟨u, v, a1, a2, a3, a4, a5⟩ := hg i (by omega)
      rw [a3] at e
      have e := Option.some.inj e
      rw [upto_mem, ← e]
      have k1 : 0 ≤ u * (dif y : Int) := Int.mul_nonneg a4.1 (by omega)
      have k2 : (u + 1) * (dif y : Int) ≤ (dif x : Int) * (dif y : Int) := Int.mul_le_mul_of_nonneg_right (by omega) (by omega)
      rw [Int.add_mul] at k2
      rw [Int.natCast_mul]
      omega
    have h4 : (upto (dif x * dif y)).length = dif x * dif y := by simp [upto]
    omega
  have s2' : (dif m : Int) ≤ (dif x : Int) * (dif y : Int) := by rw [← Int.natCast_mul]; omega
  have s3 := dif_mono hm.len x2 hm.l
  have s4 := dif_mono hm.len y2 hm.r
  have s5 := dif_mono x2 hj.len hj.l
  have s6 := dif_mono y2 hj.len hj.r
  have s7 : 0 < n → 1 ≤ dif j := by
    intro h0
    obtain ⟨j', w, e, _⟩ := split_last (q := j) (n := n - 1) (by have := hj.len; omega)
    have := dif_mono (n := j.length) (p := j) (q := List.replicate j.length 0) rfl (by simp) (by
      intro i k hi hk _
      simp [hi, hk])
    have h2 : 1 ≤ dif (List.replicate j.length (0 : Int)) := by
      have : j.length = (n - 1) + 1 := by have := hj.len; omega
      rw [this]
      have h3 : (0 : Int) ∈ nubA [] (List.replicate (n - 1 + 1) (0 : Int)) := by rw [nubA_mem]; simp
      exact List.length_pos_of_mem h3
    omega
  have p1 := prs_mono hm.pn hx hm.l
  have p2 := prs_mono hx hj.pn hj.l
  have p3 := prs_meet hx hy hm.pn fun i k hi hk h1 h2 => (hm.pat i k hi hk).2 ⟨h1, h2⟩
  have l1 := largest_mono hm.pn hx hm.l
  have l2 := largest_mono hx hj.pn hj.l
  have := db hx; have := db hy; have := db hm.pn; have := db hj.pn
  have := pb hx; have := pb hy
  simp only [Option.bind_some, Bool.not_true, cond_false, e16, e1, e3, cn hx, cn hy, cn hm.pn, cn hj.pn, cp hx, cp hy, cp hm.pn, cp hj.pn, cl hx, cl hm.pn, cl hj.pn]
  have w1 : wi64 ((dif m : Int) + (dif j : Int)) = (dif m : Int) + (dif j : Int) := wi64_of (by omega) (by omega)
  have w2 : wi64 ((dif x : Int) + (dif y : Int)) = (dif x : Int) + (dif y : Int) := wi64_of (by omega) (by omega)
  have w3 : wi64 ((dif x : Int) * (dif y : Int)) = (dif x : Int) * (dif y : Int) := wi64_of (by omega) (by omega)
  have w4 : wi64 (prs x + prs y) = prs x + prs y := wi64_of (by omega) (by omega)
  rw [w1, w2, w3, w4, max_nat, min_nat]
  have c1 : decide (((dif m : Nat) : Int) + (dif j : Int) < (dif x : Int) + (dif y : Int)) = false := by simp; omega
  have c2 : decide ((dif x : Int) * (dif y : Int) < (dif m : Int)) = false := by simp; omega
  have c3 : decide ((dif m : Int) < ((max (dif x) (dif y) : Nat) : Int)) = false := by simp; omega
  have c4 : decide (((min (dif x) (dif y) : Nat) : Int) < (dif j : Int)) = false := by simp; omega
  have c5 : (cond (decide (0 < len x)) (some (decide ((dif j : Int) < 1))) (some false)) = some false := by
    by_cases h0 : 0 < n
    · have := s7 h0
      have e : decide ((dif j : Int) < 1) = false := decide_eq_false (by omega)
      rw [e]; cases decide (0 < len x) <;> rfl
    · have e : decide (0 < len x) = false := decide_eq_false (by simp only [len]; omega)
      rw [e]; rfl
  simp only [c1, c2, c3, c4, c5, cond_false, Option.bind_some, decide_eq_true p1, decide_eq_true p2, decide_eq_true p3, decide_eq_true l1, decide_eq_true l2, cond_true]

end Go.Kz
