/-
  Layer 44, plain: the costs of groups, tables that hold; the law BucketProves.
-/
import Derived.Test.YtakifbcgkbfclaaKzB1
set_option linter.unusedVariables false
set_option linter.unusedSimpArgs false
namespace Go.Kz

def pw (l : List Tim) (j : Nat) : Int := ((l.take j).map fun x => x.2.1).sum
def pp (l : List Tim) (j : Nat) : Int := ((l.take j).map fun x => x.2.1 * x.1).sum
theorem pw_succ {l : List Tim} {j : Nat} (h : j < l.length) : pw l (j + 1) = pw l j + l[j].2.1 := by
  unfold pw; rw [take_succ h, List.map_append, List.sum_append]; simp only [List.map_cons, List.map_nil, List.sum_cons, List.sum_nil]; omega
theorem pp_succ {l : List Tim} {j : Nat} (h : j < l.length) : pp l (j + 1) = pp l j + l[j].2.1 * l[j].1 := by
  unfold pp; rw [take_succ h, List.map_append, List.sum_append]; simp only [List.map_cons, List.map_nil, List.sum_cons, List.sum_nil]; omega
theorem pw_zero (l : List Tim) : pw l 0 = 0 := by simp [pw]
theorem pp_zero (l : List Tim) : pp l 0 = 0 := by simp [pp]

theorem Load.elt {l : List Tim} (h : Load l) {k : Nat} (hk : k < l.length) : 0 ≤ l[k].1 ∧ l[k].1 ≤ 67108864 ∧ 1 ≤ l[k].2.1 ∧ l[k].2.1 ≤ 65536 := h.2.2.1 _ (List.getElem_mem hk)
theorem Load.prod {l : List Tim} (h : Load l) {k : Nat} (hk : k < l.length) : 0 ≤ l[k].2.1 * l[k].1 ∧ l[k].2.1 * l[k].1 ≤ 4398046511104 := by
  obtain ⟨h1, h2, h3, h4⟩ := h.elt hk
  refine ⟨Int.mul_nonneg (by omega) h1, ?_⟩
  have := Int.mul_le_mul h4 h2 h1 (by omega)
  omega
/-- Sums between two places. -/
theorem Load.sums {l : List Tim} (h : Load l) {a b : Nat} (hab : a ≤ b) (hb : b ≤ l.length) :
    0 ≤ pw l b - pw l a ∧ pw l b - pw l a ≤ 65536 * ((b : Int) - a) ∧ 0 ≤ pp l b - pp l a ∧ pp l b - pp l a ≤ 4398046511104 * ((b : Int) - a) := by
  induction b with
  | zero => obtain rfl : a = 0 := by omega
            omega
  | succ b ih =>
    by_cases he : a = b + 1
    · subst he; omega
    · obtain ⟨h1, h2, h3, h4⟩ := ih (by omega) (by omega)
      obtain ⟨k1, k2, k3, k4⟩ := h.elt (k := b) (by omega)
      obtain ⟨m1, m2⟩ := h.prod (k := b) (by omega)
      rw [pw_succ (by omega), pp_succ (by omega)]
      omega
theorem Load.sum0 {l : List Tim} (h : Load l) {b : Nat} (hb : b ≤ l.length) : 0 ≤ pw l b ∧ pw l b ≤ 4194304 ∧ 0 ≤ pp l b ∧ pp l b ≤ 281474976710656 := by
  obtain ⟨h1, h2, h3, h4⟩ := h.sums (Nat.zero_le b) hb
  rw [pw_zero, pp_zero] at *
  have := h.2.1
  omega

/-- The cost of a group. -/
def grp (l : List Tim) (h i : Nat) : Int := if h = i then 0 else (l.getD (i - 1) (0, 0, ())).1 * (pw l i - pw l h) - (pp l i - pp l h)

theorem f39_ok {l : List Tim} (h : Load l) : Yld (f39 5000 l) fun r => r.1 = l ∧ r.2.1.length = l.length + 1 ∧ r.2.2.1.length = l.length + 1 ∧
    (∀ j, j ≤ l.length → r.2.1[j]? = some (pw l j)) ∧ (∀ j, j ≤ l.length → r.2.2.1[j]? = some (pp l j)) := by
  have hl := h.2.1
  unfold f39
  rw [len_eq, wi64_nat (by omega)]
  have hroom : ((decide (0 ≤ (l.length : Int) + 1) && decide ((l.length : Int) + 1 ≤ (l.length : Int) + 1)) && decide ((l.length : Int) + 1 ≤ ((room : Nat) : Int))) = true := by
    simp only [Bool.and_eq_true, decide_eq_true_eq]; unfold room; omega
  refine Yld.chk hroom (Yld.chk hroom ?_)
  have e1 : Int.toNat ((l.length : Int) + 1) = l.length + 1 := by omega
  rw [e1]
  refine Yld.up (fun k s => s.1.length = l.length + 1 ∧ s.2.length = l.length + 1 ∧ (∀ j, j ≤ k → s.2[j]? = some (pw l j)) ∧ (∀ j, j ≤ k → s.1[j]? = some (pp l j))) l.length ?_ ?_ 5000 0 (Nat.zero_le _) (by omega) _ ⟨by simp, by simp, fun j hj => ?_, fun j hj => ?_⟩
  · rintro k ⟨o1, o3⟩ w hk ⟨h1, h3, hw3, hp1⟩ hw
    simp only at h1 h3 hw3 hp1
    simp only [f39_L3]
    rw [dlt hk]
    simp only [cond_true]
    refine Yld.bind (Yld.idxN hk ?_)
    rw [wi64_nat (by omega)]
    have e2 : (k : Int) + 1 = ((k + 1 : Nat) : Int) := by omega
    rw [e2]
    refine Yld.chk (inb_lt (by omega)) (Yld.bind (Yld.idxN (by omega) (Yld.chk (inb_lt (by omega)) (Yld.bind (Yld.idxN (by omega) (Yld.bind (Yld.idxN (by omega) ?_)))))))
    refine Yld.chk (inb_lt (by omega)) (Yld.bind (Yld.idxN (by omega) (Yld.chk (inb_lt (by omega)) (Yld.bind (Yld.idxN (by omega) (Yld.bind (Yld.idxN (by omega) ?_)))))))
    have ew : o3[k]'(by omega) = pw l k := by have := hw3 k (Nat.le_refl _); rw [List.getElem?_eq_getElem (by omega)] at this; simpa using this
    have ep : o1[k]'(by omega) = pp l k := by have := hp1 k (Nat.le_refl _); rw [List.getElem?_eq_getElem (by omega)] at this; simpa using this
    rw [ew, ep, setI_nat, setI_nat]
    obtain ⟨q1, q2, q3, q4⟩ := h.sum0 (b := k) (by omega)
    obtain ⟨k1, k2, k3, k4⟩ := h.elt hk
    obtain ⟨m1, m2⟩ := h.prod hk
    rw [wi64_of (n := l[k].2.1 * l[k].1) (by omega) (by omega), wi64_of (by omega) (by omega), wi64_of (by omega) (by omega)]
    rw [← e2]
    refine hw _ ⟨by simp [h1], by simp [h3], fun j hj => ?_, fun j hj => ?_⟩
    · simp only [List.getElem?_set]
      by_cases he : k + 1 = j
      · rw [if_pos he, if_pos (by omega), ← he, pw_succ hk]
      · rw [if_neg he]; exact hw3 j (by omega)
    · simp only [List.getElem?_set]
      by_cases he : k + 1 = j
      · rw [if_pos he, if_pos (by omega), ← he, pp_succ hk]
      · rw [if_neg he]; exact hp1 j (by omega)
  · rintro ⟨o1, o3⟩ w ⟨h1, h3, hw3, hp1⟩
    simp only [f39_L3]
    rw [dnlt]
    exact Yld.ret ⟨rfl, h3, h1, hw3, hp1⟩
  · obtain rfl : j = 0 := by omega
    rw [pw_zero]; simp
  · obtain rfl : j = 0 := by omega
    rw [pp_zero]; simp

theorem grp_bound {l : List Tim} (h : Load l) {a b : Nat} (hab : a ≤ b) (hb : b ≤ l.length) (t : Int) (h0 : 0 ≤ t) (h1 : t ≤ 67108864) :
    0 ≤ t * (pw l b - pw l a) ∧ t * (pw l b - pw l a) ≤ 281474976710656 ∧ 0 ≤ pp l b - pp l a ∧ pp l b - pp l a ≤ 281474976710656 := by
  obtain ⟨s1, s2, s3, s4⟩ := h.sums hab hb
  have hl := h.2.1
  have hx : pw l b - pw l a ≤ 4194304 := by omega
  refine ⟨Int.mul_nonneg h0 s1, ?_, s3, by omega⟩
  have := Int.mul_le_mul h1 hx s1 (by omega)
  omega

theorem f43_ok {l : List Tim} (h : Load l) {W P : List Int} (hW : ∀ j, j ≤ l.length → W[j]? = some (pw l j)) (hP : ∀ j, j ≤ l.length → P[j]? = some (pp l j)) {a b : Nat} (hab : a ≤ b) (hb : b ≤ l.length) :
    f43 5000 (a : Int) (b : Int) l W P = some (grp l a b) := by
  have hl := h.2.1
  unfold f43 grp
  by_cases he : a = b
  · rw [d_true (by omega), if_pos he]; rfl
  · rw [d_false (by omega), if_neg he, wi64_pred (by omega) (by omega)]
    simp only [cond_false, idx_nat]
    rw [hW b hb, hW a (by omega), hP b hb, hP a (by omega), List.getElem?_eq_getElem (show b - 1 < l.length by omega)]
    simp only [Option.bind_some]
    rw [List.getD_eq_getElem?_getD, List.getElem?_eq_getElem (show b - 1 < l.length by omega)]
    simp only [Option.getD_some]
    obtain ⟨k1, k2, _, _⟩ := h.elt (k := b - 1) (by omega)
    obtain ⟨g1, g2, g3, g4⟩ := grp_bound h hab hb _ k1 k2
    obtain ⟨s1, s2, s3, s4⟩ := h.sums hab hb
    rw [wi64_of (n := pw l b - pw l a) (by omega) (by omega), wi64_of (n := pp l b - pp l a) (by omega) (by omega), wi64_of (n := _ * _) (by omega) (by omega), wi64_of (by omega) (by omega)]

theorem f25_ok {l : List Tim} (h : Load l) {a b : Nat} (hab : a ≤ b) (hb : b ≤ l.length) : f25 5000 l (a : Int) (b : Int) = some (grp l a b) := by
  have hl := h.2.1
  refine Yld.eq ?_
  unfold f25
  refine Yld.up (fun k s => a ≤ k ∧ s = (l.getD (b - 1) (0, 0, ())).1 * (pw l k - pw l a) - (pp l k - pp l a)) b ?_ ?_ 5000 a hab (by omega) 0 ⟨Nat.le_refl _, by simp⟩
  · rintro k s w hk ⟨hak, rfl⟩ hw
    simp only [f25_L3]
    rw [dlt hk]
    simp only [cond_true]
    rw [wi64_pred (show 0 < b by omega) (by omega), wi64_nat (by omega)]
    refine Yld.bind (Yld.idxN (by omega) (Yld.bind (Yld.idxN (by omega) (Yld.bind (Yld.idxN (by omega) ?_)))))
    have eb : (l.getD (b - 1) (0, 0, ())).1 = (l[b - 1]'(by omega)).1 := by
      rw [List.getD_eq_getElem?_getD, List.getElem?_eq_getElem (show b - 1 < l.length by omega)]; rfl
    rw [eb]
    obtain ⟨k1, k2, _, _⟩ := h.elt (k := b - 1) (by omega)
    obtain ⟨g1, g2, g3, g4⟩ := grp_bound h hak (show k ≤ l.length by omega) _ k1 k2
    obtain ⟨g5, g6, g7, g8⟩ := grp_bound h (show a ≤ k + 1 by omega) (show k + 1 ≤ l.length by omega) _ k1 k2
    obtain ⟨j1, j2, j3, j4⟩ := h.elt (k := k) (by omega)
    have hmul : -4398046511104 ≤ l[k].2.1 * (l[b - 1].1 - l[k].1) ∧ l[k].2.1 * (l[b - 1].1 - l[k].1) ≤ 4398046511104 := by
      obtain ⟨m1, m2⟩ := h.prod (k := k) (by omega)
      have m3 : 0 ≤ l[k].2.1 * l[b - 1].1 := Int.mul_nonneg (by omega) k1
      have m4 := Int.mul_le_mul j4 k2 k1 (by omega)
      rw [Int.mul_sub]
      omega
    rw [wi64_of (n := l[b - 1].1 - l[k].1) (by omega) (by omega), wi64_of (n := l[k].2.1 * _) (by omega) (by omega), wi64_of (by omega) (by omega)]
    refine hw _ ⟨by omega, ?_⟩
    rw [eb, pw_succ (by omega), pp_succ (by omega)]
    simp only [Int.mul_sub, Int.mul_add]
    rw [Int.mul_comm l[k].2.1 l[b - 1].1]
    omega
  · rintro s w ⟨_, rfl⟩
    simp only [f25_L3]
    rw [dnlt]
    refine Yld.ret ?_
    unfold grp
    by_cases he : a = b
    · subst he; simp
    · rw [if_neg he]

/-- What a table must hold at a place. -/
def holdAt (l : List Tim) (t : List (List Int)) (j i h : Nat) : Bool := !((decide (1 < j) || decide (h = 0)) && decide (wi64 ((t.getD (j - 1) []).getD h 0 + grp l h i) < (t.getD j []).getD i 0))
def holdAll (l : List Tim) (t : List (List Int)) : Bool := (List.range (t.length - 1)).all fun j => (List.range (l.length + 1)).all fun i => (List.range (i + 1)).all fun h => holdAt l t (1 + j) i h

theorem inner_eq {R : Type} {l : List Tim} {t : List (List Int)} {n : Nat} (htl : t.length ≤ 5000) (hrows : ∀ r ∈ t, r.length = n + 1) {j i h : Nat} (hj1 : 1 ≤ j) (hj : j < t.length) (hi : i ≤ n) (hh : h ≤ i) (G : Option Int) (hG : G = some (grp l h i)) (A B : Option R) :
    (((cond (decide (1 < (j : Int))) (some true) (some (decide ((h : Int) = 0)))).bind fun b =>
      (cond b
          ((idx t (j : Int)).bind fun x_3 =>
          (idx x_3 (i : Int)).bind fun x_4 =>
          (idx t (wi64 ((j : Int) - 1))).bind fun x_5 =>
          (idx x_5 (h : Int)).bind fun x_6 =>
          G.bind fun r_1 =>
          some (decide ((wi64 (x_6 + r_1)) < x_4)))
          (some false)).bind fun b_1 =>
      cond b_1 B A)) = if holdAt l t j i h then A else B := by
  have hr1 := hrows _ (List.getElem_mem hj)
  have hr2 := hrows _ (List.getElem_mem (show j - 1 < t.length by omega))
  have e0 : (cond (decide (1 < (j : Int))) (some true) (some (decide ((h : Int) = 0)))) = some (decide (1 < j) || decide (h = 0)) := by
    by_cases h1 : 1 < j
    · rw [d_true (show (1 : Int) < (j : Int) by omega)]; simp [h1]
    · rw [d_false (show ¬ (1 : Int) < (j : Int) by omega)]
      simp only [cond_false, h1, decide_false, Bool.false_or]
      congr 1
      rw [Bool.eq_iff_iff]; simp
  rw [e0, wi64_pred (by omega) (by omega)]
  simp only [Option.bind_some, idx_nat]
  rw [List.getElem?_eq_getElem hj, List.getElem?_eq_getElem (show j - 1 < t.length by omega)]
  simp only [Option.bind_some]
  rw [List.getElem?_eq_getElem (show i < t[j].length by omega), List.getElem?_eq_getElem (show h < t[j - 1].length by omega), hG]
  simp only [Option.bind_some]
  unfold holdAt
  have g1 : t.getD j [] = t[j] := by rw [List.getD_eq_getElem?_getD, List.getElem?_eq_getElem hj]; rfl
  have g2 : t.getD (j - 1) [] = t[j - 1] := by rw [List.getD_eq_getElem?_getD, List.getElem?_eq_getElem (by omega)]; rfl
  have g3 : t[j].getD i 0 = t[j][i]'(by omega) := by rw [List.getD_eq_getElem?_getD, List.getElem?_eq_getElem (by omega)]; rfl
  have g4 : t[j - 1].getD h 0 = t[j - 1][h]'(by omega) := by rw [List.getD_eq_getElem?_getD, List.getElem?_eq_getElem (by omega)]; rfl
  rw [g1, g2, g3, g4]
  cases (decide (1 < j) || decide (h = 0)) with
  | false => simp
  | true =>
    simp only [cond_true, Option.bind_some, Bool.true_and]
    cases decide (wi64 (t[j - 1][h]'(by omega) + grp l h i) < t[j][i]'(by omega)) <;> simp

theorem f31_ok {l : List Tim} (h : Load l) {t : List (List Int)} (htl : t.length ≤ 5000) (ht : 0 < t.length) (hrows : ∀ r ∈ t, r.length = l.length + 1) :
    f31 5000 l t = some (decide ((t.getD 0 []).getD 0 0 = 0) && holdAll l t) := by
  have hl := h.2.1
  have hr0 := hrows _ (List.getElem_mem ht)
  unfold f31
  have g1 : t.getD 0 [] = t[0] := by rw [List.getD_eq_getElem?_getD, List.getElem?_eq_getElem ht]; rfl
  have g2 : t[0].getD 0 0 = t[0][0]'(by omega) := by rw [List.getD_eq_getElem?_getD, List.getElem?_eq_getElem (by omega)]; rfl
  have i1 : idx t 0 = some t[0] := idx_lt (k := 0) ht
  have i2 : idx t[0] 0 = some (t[0][0]'(by omega)) := idx_lt (k := 0) (by omega)
  rw [i1, g1, g2]
  simp only [Option.bind_some]
  rw [i2]
  simp only [Option.bind_some]
  by_cases h0 : t[0][0]'(by omega) = 0
  · rw [d_true h0]
    simp only [Bool.not_true, cond_false, Bool.true_and]
    obtain ⟨r, er, h1, h2, h3, h4, h5⟩ := f39_ok h
    rw [er]
    simp only [Option.bind_some]
    rw [show (1 : Int) = ((1 : Nat) : Int) from rfl]
    rw [iter_allN 1 t.length ht (fun j => (List.range (l.length + 1)).all fun i => (List.range (i + 1)).all fun h => holdAt l t j i h) (some true) (some false) (fun j w hj1 hj => ?_) (fun w => ?_) 5000 (by omega)]
    · show (if holdAll l t then some true else some false) = some (holdAll l t)
      cases holdAll l t <;> rfl
    · simp only [f31_L5]
      rw [dlt_len hj]
      simp only [cond_true]
      rw [idx_lt hj]
      simp only [Option.bind_some]
      have hrj := hrows _ (List.getElem_mem hj)
      rw [show (0 : Int) = ((0 : Nat) : Int) from rfl]
      rw [iter_allN 0 (l.length + 1) (Nat.zero_le _) (fun i => (List.range (i + 1)).all fun h => holdAt l t j i h) (w (wi64 ((j : Int) + 1))) (some false) (fun i w2 _ hi => ?_) (fun w2 => ?_) 5000 (by omega)]
      · rw [wi64_nat (by omega)]; simp
      · simp only [f31_L8]
        rw [d_true (by rw [len_eq, hrj]; omega)]
        simp only [cond_true]
        rw [wi64_nat (by omega), show (0 : Int) = ((0 : Nat) : Int) from rfl]
        rw [iter_allN 0 (i + 1) (Nat.zero_le _) (fun h => holdAt l t j i h) (w2 ((i : Int) + 1)) (some false) (fun x w3 _ hx => ?_) (fun w3 => ?_) 5000 (by omega)]
        · simp
        · simp only [f31_L11]
          rw [d_true (by omega), wi64_nat (by omega)]
          simp only [cond_true]
          exact inner_eq htl hrows hj1 hj (by omega) (by omega) _ (by rw [h1]; exact f43_ok h h4 h5 (by omega) (by omega)) _ _
        · simp only [f31_L11]
          rw [d_false (by omega)]
          rfl
      · simp only [f31_L8]
        rw [d_false (by rw [len_eq, hrj]; omega)]
        rfl
    · simp only [f31_L5]
      rw [dnlt_len]
      rfl
  · rw [d_false h0]; simp

theorem f32_ok {l : List Tim} (h : Load l) {t : List (List Int)} {k : Nat} (htl : t.length ≤ 5000) (ht : t.length = k + 1) (hrows : ∀ r ∈ t, r.length = l.length + 1) :
    f32 5000 l (k : Int) t = some (decide ((t.getD 0 []).getD 0 0 = 0) && holdAll l t) := by
  have hl := h.2.1
  have ht0 : 0 < t.length := by omega
  have hr0 := hrows _ (List.getElem_mem ht0)
  unfold f32
  have g1 : t.getD 0 [] = t[0] := by rw [List.getD_eq_getElem?_getD, List.getElem?_eq_getElem ht0]; rfl
  have g2 : t[0].getD 0 0 = t[0][0]'(by omega) := by rw [List.getD_eq_getElem?_getD, List.getElem?_eq_getElem (by omega)]; rfl
  have i1 : idx t 0 = some t[0] := idx_lt (k := 0) ht0
  have i2 : idx t[0] 0 = some (t[0][0]'(by omega)) := idx_lt (k := 0) (by omega)
  rw [i1, g1, g2]
  simp only [Option.bind_some]
  rw [i2]
  simp only [Option.bind_some]
  by_cases h0 : t[0][0]'(by omega) = 0
  · rw [d_true h0]
    simp only [Bool.not_true, cond_false, Bool.true_and]
    rw [show (1 : Int) = ((1 : Nat) : Int) from rfl]
    rw [iter_allN 1 t.length ht0 (fun j => (List.range (l.length + 1)).all fun i => (List.range (i + 1)).all fun h => holdAt l t j i h) (some true) (some false) (fun j w hj1 hj => ?_) (fun w => ?_) 5000 (by omega)]
    · show (if holdAll l t then some true else some false) = some (holdAll l t)
      cases holdAll l t <;> rfl
    · simp only [f32_L4]
      rw [d_true (by omega)]
      simp only [cond_true]
      rw [show (0 : Int) = ((0 : Nat) : Int) from rfl]
      rw [iter_allN 0 (l.length + 1) (Nat.zero_le _) (fun i => (List.range (i + 1)).all fun h => holdAt l t j i h) (w (wi64 ((j : Int) + 1))) (some false) (fun i w2 _ hi => ?_) (fun w2 => ?_) 5000 (by omega)]
      · rw [wi64_nat (by omega)]; simp
      · simp only [f32_L7]
        rw [d_true (by rw [len_eq, wi64_nat (by omega)]; omega)]
        simp only [cond_true]
        rw [wi64_nat (by omega), show (0 : Int) = ((0 : Nat) : Int) from rfl]
        rw [iter_allN 0 (i + 1) (Nat.zero_le _) (fun h => holdAt l t j i h) (w2 ((i : Int) + 1)) (some false) (fun x w3 _ hx => ?_) (fun w3 => ?_) 5000 (by omega)]
        · simp
        · simp only [f32_L10]
          rw [d_true (by omega), wi64_nat (by omega)]
          simp only [cond_true]
          exact inner_eq htl hrows hj1 hj (by omega) (by omega) _ (f25_ok h (by omega) (by omega)) _ _
        · simp only [f32_L10]
          rw [d_false (by omega), wi64_nat (show i < 9223372036854775807 by omega)]
          rfl
      · simp only [f32_L7]
        rw [d_false (by rw [len_eq, wi64_nat (by omega)]; omega)]
        rfl
    · simp only [f32_L4]
      rw [d_false (by omega)]
      rfl
  · rw [d_false h0]; simp

def rowsB (n : Nat) (r : List Int) : Bool := decide (r.length = n + 1)
def cellsB (r : List Int) : Bool := r.all fun x => !(decide (x < 0) || decide (1152921504606846976 < x))
theorem L10 {n : Nat} (hn : n ≤ 64) (t t' : List (List Int)) (ht : t.length ≤ 10) (c K : Int) (l : List Tim) (kx : Unit → Option Int) :
    iter (fun w => f18_L10 5000 (n : Int) t c K t' l (len t) w (fun t8 => some t8) kx) 5000 0 = if t.all (rowsB n) then kx () else some 2 := by
  refine iter_allL t (rowsB n) (kx ()) (some 2) (fun k w hk => ?_) (fun w => ?_) 5000 (by omega)
  · simp only [f18_L10]
    rw [dlt_len hk, idx_lt hk, wi64_nat (show n < 9223372036854775807 by omega), wi64_nat (by omega)]
    simp only [cond_true, Option.bind_some, len_eq]
    unfold rowsB
    by_cases h : t[k].length = n + 1
    · rw [d_true (show (t[k].length : Int) = (n : Int) + 1 by omega)]; simp [h]
    · rw [d_false (show ¬ (t[k].length : Int) = (n : Int) + 1 by omega)]; simp [h]
  · simp only [f18_L10]
    rw [dnlt_len]; rfl
theorem L9 (l : List Tim) (hn : l.length ≤ 64) (t t' : List (List Int)) (ht : t.length ≤ 10) (c K : Int) (kx : Unit → Option Int) :
    iter (fun w => f19_L9 5000 l t c K t' (len t) w (fun t8 => some t8) kx) 5000 0 = if t.all (rowsB l.length) then kx () else some 2 := by
  refine iter_allL t (rowsB l.length) (kx ()) (some 2) (fun k w hk => ?_) (fun w => ?_) 5000 (by omega)
  · simp only [f19_L9]
    rw [dlt_len hk, idx_lt hk, len_eq l, wi64_nat (show l.length < 9223372036854775807 by omega), wi64_nat (by omega)]
    simp only [cond_true, Option.bind_some, len_eq]
    unfold rowsB
    by_cases h : t[k].length = l.length + 1
    · rw [d_true (show (t[k].length : Int) = (l.length : Int) + 1 by omega)]; simp [h]
    · rw [d_false (show ¬ (t[k].length : Int) = (l.length : Int) + 1 by omega)]; simp [h]
  · simp only [f19_L9]
    rw [dnlt_len]; rfl
theorem cell_step (x : Int) (A B : Option Int) : (((cond (decide (x < 0)) (some true) (some (decide (1152921504606846976 < x)))).bind fun b_1 => cond b_1 B A)) = if !(decide (x < 0) || decide (1152921504606846976 < x)) then A else B := by
  by_cases h1 : x < 0
  · simp [h1]
  · by_cases h2 : 1152921504606846976 < x <;> simp [h1, h2]
theorem L16 {n : Nat} (t t' : List (List Int)) (ht : t.length ≤ 10) (hr : ∀ r ∈ t, r.length ≤ 10) (c K : Int) (l : List Tim) (kx : Unit → Option Int) :
    iter (fun w => f18_L16 5000 t c (n : Int) K t' l (len t) w (fun t8 => some t8) kx) 5000 0 = if t.all cellsB then kx () else some 3 := by
  refine iter_allL t cellsB (kx ()) (some 3) (fun k w hk => ?_) (fun w => ?_) 5000 (by omega)
  · simp only [f18_L16]
    rw [dlt_len hk, idx_lt hk, wi64_nat (show k < 9223372036854775807 by omega)]
    simp only [cond_true, Option.bind_some]
    have hlr := hr _ (List.getElem_mem hk)
    refine iter_allL t[k] _ (w ((k : Int) + 1)) (some 3) (fun j w2 hj => ?_) (fun w2 => ?_) 5000 (by omega)
    · simp only [f18_L19]
      rw [dlt_len hj, idx_lt hj, wi64_nat (show j < 9223372036854775807 by omega)]
      simp only [cond_true, Option.bind_some]
      exact cell_step _ _ _
    · simp only [f18_L19]
      rw [dnlt_len]; rfl
  · simp only [f18_L16]
    rw [dnlt_len]; rfl
theorem L15 (l : List Tim) (t t' : List (List Int)) (ht : t.length ≤ 10) (hr : ∀ r ∈ t, r.length ≤ 10) (c K : Int) (kx : Unit → Option Int) :
    iter (fun w => f19_L15 5000 t c l K t' (len t) w (fun t8 => some t8) kx) 5000 0 = if t.all cellsB then kx () else some 3 := by
  refine iter_allL t cellsB (kx ()) (some 3) (fun k w hk => ?_) (fun w => ?_) 5000 (by omega)
  · simp only [f19_L15]
    rw [dlt_len hk, idx_lt hk, wi64_nat (show k < 9223372036854775807 by omega)]
    simp only [cond_true, Option.bind_some]
    have hlr := hr _ (List.getElem_mem hk)
    refine iter_allL t[k] _ (w ((k : Int) + 1)) (some 3) (fun j w2 hj => ?_) (fun w2 => ?_) 5000 (by omega)
    · simp only [f19_L18]
      rw [dlt_len hj, idx_lt hj, wi64_nat (show j < 9223372036854775807 by omega)]
      simp only [cond_true, Option.bind_some]
      exact cell_step _ _ _
    · simp only [f19_L18]
      rw [dnlt_len]; rfl
  · simp only [f19_L15]
    rw [dnlt_len]; rfl

/-- Both answers are the same. -/
theorem prove_eq (l : List Tim) (k : Int) (t : List (List Int)) (cost : Int) (htl : t.length ≤ 10) (hrl : ∀ r ∈ t, r.length ≤ 10) : Yld (f18 5000 l k t cost) fun r => f19 5000 l k t cost = some r := by
  unfold f18 f19
  rw [← f12_eq]
  obtain ⟨r, er, hr⟩ := f12_ok l
  rw [er]
  simp only [Option.bind_some]
  by_cases h0 : r = 0
  · rw [d_true h0]
    simp only [Bool.not_true, cond_false]
    have hL := hr h0
    have hl := hL.2.1
    by_cases hk : k < 1
    · rw [d_true hk]
      simp only [cond_true, Option.bind_some]
      exact Yld.ret rfl
    rw [d_false hk]
    simp only [cond_false, Option.bind_some]
    by_cases hk2 : 32 < k
    · rw [d_true hk2]; exact Yld.ret rfl
    rw [d_false hk2]
    simp only [cond_false]
    obtain ⟨K, rfl⟩ := Int.eq_ofNat_of_zero_le (show 0 ≤ k by omega)
    rw [wi64_nat (show K < 9223372036854775807 by omega)]
    by_cases hlen : (len t) = (K : Int) + 1
    · rw [d_true hlen]
      simp only [Bool.not_true, cond_false]
      rw [len_eq] at hlen
      rw [len_eq l, L10 (by omega) t t htl, L9 l (by omega) t t htl]
      cases hrows : t.all (rowsB l.length) with
      | false => exact Yld.ret rfl
      | true =>
        simp only [if_true]
        rw [L16 t t htl hrl, L15 l t t htl hrl]
        cases hcells : t.all cellsB with
        | false => exact Yld.ret rfl
        | true =>
          simp only [if_true]
          have hrows' : ∀ r ∈ t, r.length = l.length + 1 := fun r hr => by
            have := List.all_eq_true.1 hrows r hr
            simpa [rowsB] using this
          rw [f31_ok hL (by omega) (by omega) hrows', f32_ok hL (k := K) (by omega) (by omega) hrows']
          simp only [Option.bind_some]
          have hKt : K < t.length := by omega
          rw [idx_lt hKt]
          simp only [Option.bind_some]
          rw [idx_lt (show l.length < t[K].length by rw [hrows' _ (List.getElem_mem hKt)]; omega)]
          simp only [Option.bind_some]
          cases (decide ((t.getD 0 []).getD 0 0 = 0) && holdAll l t) with
          | false => exact Yld.ret rfl
          | true =>
            simp only [Bool.not_true, cond_false, Option.bind_some]
            cases decide (t[K][l.length]'(by rw [hrows' _ (List.getElem_mem hKt)]; omega) < cost) <;> exact Yld.ret rfl
    · rw [d_false hlen]; exact Yld.ret rfl
  · rw [d_false h0]; exact Yld.ret rfl

theorem f16_ok (t : List (List Int)) (ht : t.length ≤ 10) : Yld (f16 5000 t ()) fun r => r = false → ∀ x ∈ t, x.length ≤ 10 := by
  unfold f16 f30
  refine Yld.then (P := fun r => r < 0 → ∀ x ∈ t, x.length ≤ 10) ?_ fun r hr => Yld.ret fun h => hr (by simpa using h)
  refine Yld.upI (fun k => ∀ x ∈ t.take k, x.length ≤ 10) t.length ?_ ?_ 5000 0 (Nat.zero_le _) (by omega) (by simp)
  · intro k w hk hi hw
    simp only [f30_L2]
    rw [dlt_len hk]
    simp only [cond_true]
    refine Yld.bind (Yld.idxN hk ?_)
    rw [wi64_nat (by omega)]
    simp only [f17, Option.bind_some]
    refine Yld.cond (fun _ => Yld.ret fun h => by omega) fun h => hw fun x hx => ?_
    rw [take_succ hk] at hx
    rcases List.mem_append.1 hx with hx | hx
    · exact hi x hx
    · simp only [List.mem_singleton] at hx
      subst hx
      simp [len_eq] at h; omega
  · intro w hi
    simp only [f30_L2]
    rw [dnlt_len]
    rw [List.take_length] at hi
    exact Yld.ret fun _ => hi

/-- BucketProves. -/
theorem law4 (l : List Tim) (k : Int) (x : List (List Int) × (Int × Unit)) : f4 5000 l k x = some true := by
  refine Yld.eq ?_
  unfold f4
  rw [known44]
  simp only [Option.bind_some, Bool.not_true, cond_false]
  refine Yld.then (P := fun _ => True) (Yld.cond (fun _ => Yld.ret trivial) fun h => Yld.ret trivial) fun c _ => ?_
  refine Yld.then (P := fun c => c = false → x.1.length ≤ 10) (Yld.cond (fun _ => Yld.ret (by simp)) fun h => Yld.ret fun h2 => by simp [len_eq] at h2; omega) fun c hc => ?_
  refine Yld.then (P := fun c2 => c2 = false → x.1.length ≤ 10 ∧ ∀ r ∈ x.1, r.length ≤ 10) (Yld.cond (fun _ => Yld.ret (by simp)) fun h => Yld.then (f16_ok x.1 (hc h)) fun r hr => Yld.ret fun h2 => ⟨hc h, hr h2⟩) fun c2 hc2 => ?_
  refine Yld.cond (fun _ => Yld.ret rfl) fun h => ?_
  obtain ⟨h1, h2⟩ := hc2 h
  obtain ⟨r, e1, e2⟩ := prove_eq l k x.1 x.2.1 h1 h2
  rw [e1, e2]
  simp
  exact ⟨_, rfl, rfl⟩

end Go.Kz
