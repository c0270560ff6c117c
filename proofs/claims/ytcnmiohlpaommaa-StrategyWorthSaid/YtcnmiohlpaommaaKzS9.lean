/-
  The layer strategy: the law of Worth; plain laws.
-/
import Derived.Test.YtcnmiohlpaommaaKzS8
import Derived.Test.YtcnmiohlpaommaaKzP42W
set_option linter.unusedVariables false
set_option linter.unusedSimpArgs false
namespace Go.Kz

theorem f29_eq (N : Nat) (hN : 400 < N) {m : Menu} (hm : menuOK m = true) (g : List (List Int)) : f29 N g m.1 = some (gainOK g m.1) := by
  obtain ⟨m1, m2, m3, m4⟩ := menuOK_iff.1 hm
  unfold f29 gainOK
  by_cases h1 : len g < 1
  · have e : ¬ 1 ≤ len g := by omega
    simp [h1, e]
  by_cases h2 : 64 < len g
  · have e : ¬ len g ≤ 64 := by omega
    simp [h1, h2, e]
  have e1 : 1 ≤ len g := by omega
  have e2 : len g ≤ 64 := by omega
  have hgl : g.length ≤ 64 := by simp only [len] at e2; omega
  simp only [h1, h2, e1, e2, decide_true, decide_false, cond_false, Option.bind_some, Bool.true_and]
  rw [iter_all g (rowOK m.1) (some true) (some false) ?_ ?_ N (by omega)]
  · cases g.all (rowOK m.1) <;> rfl
  · intro k w hk
    simp only [f29_L4]
    rw [dlt_len hk, cond_true, idx_lt hk]
    simp only [Option.bind_some, rowOK]
    by_cases a : len g[k] = m.1
    · have hrl : g[k].length ≤ 62 := by simp only [len] at a; omega
      simp only [a, decide_true, Bool.not_true, cond_false, Bool.true_and]
      rw [← a, iter_all g[k] numOK (w ((k : Int) + 1)) (some false) ?_ ?_ N (by omega)]
      · intro j v hj
        simp only [f29_L9]
        rw [dlt_len hj, cond_true, idx_lt hj, wi64_of (by omega) (by omega)]
        simp only [Option.bind_some, numOK]
        generalize g[k][j] = x
        by_cases b : x < 0
        · have : ¬ 0 ≤ x := by omega
          simp [b, this]
        · have b' : 0 ≤ x := by omega
          by_cases c : 1024 < x
          · have : ¬ x ≤ 1024 := by omega
            simp [b, b', c, this]
          · have c' : x ≤ 1024 := by omega
            simp [b, b', c, c']
      · intro v
        simp only [f29_L9]
        rw [dnlt_len, cond_false, wi64_of (by omega) (by omega)]
    · simp [a]
  · intro w
    simp only [f29_L4]
    rw [dnlt_len]; rfl

theorem f30_eq (N : Nat) (hN : 400 < N) {n : Int} {g : List (List Int)} {part : List Int} (hg : gainOK g n = true) (hok : okP part = true) (hl : len part = n) (hn : n ≤ 62) : f30 N g part = some (worthL g part) := by
  simp only [gainOK, Bool.and_eq_true, decide_eq_true_eq] at hg
  have hgl : g.length ≤ 64 := by have := hg.1.2; simp only [len] at this; omega
  have hrow : ∀ row ∈ g, rowOK n row = true := fun row hr => List.all_eq_true.1 hg.2 row hr
  have hpl : part.length ≤ 62 := by simp only [len] at hl; omega
  obtain ⟨t1, t2, t3⟩ := top_bound hok
  unfold f30
  refine iter_for (fun c s => s = sumTo c fun c => bestG g part (c : Int)) (top 0 part).toNat ?_ ?_ N (by omega) _ rfl
  · intro c s w hc hs hw
    subst hs
    simp only [f30_L3]
    rw [f26_eq N _ (by omega) (by omega) hok]
    have e : decide ((c : Int) < top 0 part) = true := by simp; omega
    simp only [Option.bind_some]
    rw [e, cond_true]
    refine iter_for (fun i b => b = bestG (g.take i) part (c : Int)) g.length ?_ ?_ N (by omega) _ (by simp [bestG])
    · intro i b w2 hi hb hw2
      subst hb
      have hri := hrow _ (List.getElem_mem hi)
      have hr1 := (row_at hri).1
      have hrl : g[i].length = part.length := by simp only [len] at hr1 hl; omega
      simp only [f30_L7]
      rw [dlt_len hi, cond_true, idx_lt hi]
      simp only [Option.bind_some]
      refine iter_for (fun k x => x = clsS g[i] part k (c : Int)) part.length ?_ ?_ N (by omega) _ rfl
      · intro k x w3 hk hx hw3
        subst hx
        have hb := clsS_bound hri part k (c : Int)
        have hgk : g[i].getD k 0 = g[i][k] := by rw [List.getD_eq_getElem?_getD, List.getElem?_eq_getElem (by omega)]; rfl
        have hpk : part.getD k 0 = part[k] := by rw [List.getD_eq_getElem?_getD, List.getElem?_eq_getElem hk]; rfl
        have hnum := (row_at hri).2 k
        rw [hgk] at hnum
        simp only [f30_L11]
        rw [dlt_len hk, cond_true, idx_lt hk, idx_lt (l := g[i]) (k := k) (by omega), wi64_of (n := (k : Int) + 1) (by omega) (by omega)]
        simp only [Option.bind_some]
        by_cases he : part[k] = (c : Int)
        · rw [decide_eq_true he, cond_true, wi64_of (by omega) (by omega)]
          refine hw3 _ ?_
          simp only [clsS, sumTo, hpk, hgk, if_pos he]
        · rw [decide_eq_false he, cond_false]
          refine hw3 _ ?_
          simp only [clsS, sumTo, hpk, if_neg he]
          omega
      · intro x w3 hx
        subst hx
        simp only [f30_L11]
        rw [dnlt_len, cond_false, wi64_of (by omega) (by omega), maxI_eq]
        exact hw2 _ (by rw [take_succ hi, best_snoc])
    · intro b w2 hb
      subst hb
      have hb0 := best_bound (n := n) (part := part) (c : Int) hrow
      have hs0 : 0 ≤ sumTo c fun c => bestG g part (c : Int) := sumTo_nonneg fun i _ => (best_bound (n := n) (part := part) (i : Int) hrow).1
      have hs1 : (sumTo c fun c => bestG g part (c : Int)) ≤ c * (part.length * 1024) := sumTo_bound fun i _ => (best_bound (n := n) (part := part) (i : Int) hrow).2
      have hs2 : (c : Int) * (part.length * 1024) ≤ 62 * (62 * 1024) := Int.mul_le_mul (by omega) (by omega) (by omega) (by omega)
      simp only [f30_L7]
      rw [dnlt_len, cond_false, List.take_length, wi64_of (by omega) (by omega), wi64_of (by omega) (by omega)]
      exact hw _ rfl
  · intro s w hs
    subst hs
    simp only [f30_L3]
    rw [f26_eq N _ (by omega) (by omega) hok]
    have e : decide ((((top 0 part).toNat : Nat) : Int) < top 0 part) = false := by simp; omega
    simp only [Option.bind_some]
    rw [e, cond_false]
    rfl

theorem f31v1_is (N : Nat) (n : Int) (part : List Int) (m : Menu) (q : Int) : f31v1 N n (part, (m, (q, ()))) = labG N (fun a b => f32 N a b part m q) n := rfl
theorem f31v1_eq (N : Nat) (hN : 400 < N) {m : Menu} (hm : menuOK m = true) {part : List Int} (hl : len part = m.1) {q : Int} (hq : 0 ≤ q ∧ q < (m.2.1.length : Int)) :
    f31v1 N m.1 (part, (m, (q, ()))) = some (ofL (part.zip (viewQ m q))) := by
  obtain ⟨m1, m2, m3, m4⟩ := menuOK_iff.1 hm
  obtain ⟨v1, v2, v3⟩ := view_get hm hq.1 hq.2
  have hpl : part.length = m.1.toNat := by simp only [len] at hl; omega
  have hvl : (viewQ m q).length = m.1.toNat := by
    have : ((m.2.1.getD q.toNat []).length : Int) = m.1 := v2
    show (m.2.1.getD q.toNat []).length = _
    omega
  have hzl : (part.zip (viewQ m q)).length = m.1.toNat := by rw [List.length_zip]; omega
  rw [f31v1_is]
  refine labG_eq N (part.zip (viewQ m q)) _ (by omega) (by omega) ?_ _ (by omega)
  intro a b ha hba
  have e1 : idx m.2.1 q = some (viewQ m q) := v1
  simp only [f32]
  rw [idx_lt (l := part) (k := a) (by omega), idx_lt (l := part) (k := b) (by omega), e1]
  simp only [Option.bind_some]
  rw [idx_lt (l := viewQ m q) (k := a) (by omega), idx_lt (l := viewQ m q) (k := b) (by omega)]
  simp only [Option.bind_some, List.getElem_zip]
  by_cases h : part[a]'(by omega) = part[b]'(by omega)
  · simp [h]
  · simp [h]

theorem law7 (m : Menu) (g : List (List Int)) (part : List Int) : f7 5000 m g part = some true := by
  unfold f7
  rw [f12_5000]
  obtain ⟨x, hx⟩ := f13_some 5000 (by omega) m [] 62 0 (by omega)
  rw [hx]
  simp only [Option.bind_some, Bool.not_true, cond_false]
  cases x with
  | false => rfl
  | true =>
  simp only [Bool.not_true, cond_false, Option.bind_some]
  by_cases h1 : 70 < len g
  · simp [h1]
  by_cases h2 : 80 < len part
  · simp [h1, h2]
  simp only [h1, h2, decide_false, cond_false, Option.bind_some]
  have hgl : g.length ≤ 70 := by simp only [len] at h1; omega
  have hpl : part.length ≤ 80 := by simp only [len] at h2; omega
  rw [iter_all g (fun row => !decide (80 < len row)) (some true) (some true) ?_ ?_ 5000 (by omega)]
  · split <;> rfl
  · intro k w hk
    simp only [f7_L6]
    rw [dlt_len hk, cond_true, idx_lt hk, wi64_of (by omega) (by omega)]
    simp only [Option.bind_some]
    cases decide (80 < len g[k]) <;> simp
  · intro w
    simp only [f7_L6]
    rw [dnlt_len, cond_false, f28_eq 5000 (by omega), f18_eq 5000 (by omega)]
    simp only [Option.bind_some, menuCode]
    cases hm : menuOK m with
    | false => simp
    | true =>
    obtain ⟨m1, m2, m3, m4⟩ := menuOK_iff.1 hm
    simp only [if_true, decide_true, Bool.not_true, cond_false]
    rw [f29_eq 5000 (by omega) hm]
    simp only [Option.bind_some]
    cases hg : gainOK g m.1 with
    | false => simp
    | true =>
    by_cases hl : len part = m.1
    · simp only [hl, Bool.not_true, decide_true, cond_false, Option.bind_some]
      rw [f25_eq 5000 _ (by omega) (by omega)]
      simp only [Option.bind_some]
      cases hok : okP part with
      | false => simp
      | true =>
      simp only [Bool.not_true, cond_false, Option.bind_some, and_self, if_true, decide_true]
      rw [f30_eq 5000 (by omega) hg hok hl m2]
      simp only [Option.bind_some, decide_true, Bool.not_true, cond_false]
      refine iter_forI (fun _ => True) m.2.1.length ?_ ?_ 5000 (by omega) trivial
      · intro q w hq _ hw
        have hq' : 0 ≤ (q : Int) ∧ (q : Int) < (m.2.1.length : Int) := by omega
        obtain ⟨v1, v2, v3⟩ := view_get hm hq'.1 hq'.2
        have hvl : (viewQ m (q : Int)).length = m.1.toNat := by
          have : ((m.2.1.getD (q : Int).toNat []).length : Int) = m.1 := v2
          show (m.2.1.getD (q : Int).toNat []).length = _
          omega
        have hpl2 : part.length = m.1.toNat := by simp only [len] at hl; omega
        have hzl : (part.zip (viewQ m (q : Int))).length = m.1.toNat := by rw [List.length_zip]; omega
        simp only [f7_L17]
        rw [dlt_len hq, cond_true, f31v1_eq 5000 (by omega) hm hl hq', wi64_of (by omega) (by omega)]
        simp only [Option.bind_some]
        have hol : len (ofL (part.zip (viewQ m (q : Int)))) = m.1 := by simp only [len, ofL_len, hzl]; omega
        rw [f28_eq 5000 (by omega), if_pos ⟨hm, hg, hol, okP_ofL _⟩]
        simp only [Option.bind_some, decide_true, Bool.not_true, cond_false]
        have hrow : ∀ row ∈ g, rowOK m.1 row = true := by
          simp only [gainOK, Bool.and_eq_true] at hg
          exact fun row hr => List.all_eq_true.1 hg.2 row hr
        have hmono := worth_mono hrow (p := ofL (part.zip (viewQ m (q : Int)))) (q := part) (okP_ofL _) hok (by rw [ofL_len, hzl, hpl2]) (by
          intro i j hi hj he
          rw [ofL_len] at hi hj
          have := (ofL_same hi hj).1 he
          rw [List.getElem_zip, List.getElem_zip] at this
          exact (Prod.mk.inj this).1)
        have e : decide (worthL g (ofL (part.zip (viewQ m (q : Int)))) < worthL g part) = false := by simp; omega
        rw [e, cond_false]
        exact hw trivial
      · intro w _
        simp only [f7_L17]
        rw [dnlt_len]; rfl
    · simp [hl]

end Go.Kz
