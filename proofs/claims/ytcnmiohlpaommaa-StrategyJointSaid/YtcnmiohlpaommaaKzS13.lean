/-
  The layer strategy: the law of Joint; plain laws.
-/
import Derived.Test.YtcnmiohlpaommaaKzS5
import Derived.Test.YtcnmiohlpaommaaKzP42J
set_option linter.unusedVariables false
set_option linter.unusedSimpArgs false
namespace Go.Kz

theorem f50_eq (N : Nat) (hN : 400 < N) {m : Menu} (hm : menuOK m = true) {qs : List Int} (hq : qs.all (askOK m) = true) (hl : qs.length ≤ 300) {a b : Nat} (ha : a < m.1.toNat) (hb : b < m.1.toNat) :
    f50 N (a : Int) (b : Int) qs m = some (decide (keyQ m qs a = keyQ m qs b)) := by
  unfold f50
  rw [iter_all qs (fun q => decide ((viewQ m q).getD a 0 = (viewQ m q).getD b 0)) (some true) (some false) ?_ ?_ N (by omega)]
  · have h : (qs.all fun q => decide ((viewQ m q).getD a 0 = (viewQ m q).getD b 0)) = true ↔ keyQ m qs a = keyQ m qs b := by
      rw [List.all_eq_true]
      unfold keyQ
      rw [List.map_inj_left]
      constructor
      · intro h q hq; simpa using h q hq
      · intro h q hq; simpa using h q hq
    by_cases hk : keyQ m qs a = keyQ m qs b
    · rw [if_pos (h.2 hk), decide_eq_true hk]
    · rw [if_neg (fun hh => hk (h.1 hh)), decide_eq_false hk]
  · intro k w hk
    have hqk := List.all_eq_true.1 hq _ (List.getElem_mem hk)
    simp only [askOK, Bool.and_eq_true, decide_eq_true_eq] at hqk
    obtain ⟨v1, v2, v3⟩ := view_get hm hqk.1 hqk.2
    have e1 : idx m.2.1 qs[k] = some (viewQ m qs[k]) := v1
    have hvl : (viewQ m qs[k]).length = m.1.toNat := by
      have : ((m.2.1.getD qs[k].toNat []).length : Int) = m.1 := v2
      show (m.2.1.getD qs[k].toNat []).length = _
      omega
    have g1 : (viewQ m qs[k]).getD a 0 = (viewQ m qs[k])[a]'(by omega) := by rw [List.getD_eq_getElem?_getD, List.getElem?_eq_getElem (by omega)]; rfl
    have g2 : (viewQ m qs[k]).getD b 0 = (viewQ m qs[k])[b]'(by omega) := by rw [List.getD_eq_getElem?_getD, List.getElem?_eq_getElem (by omega)]; rfl
    simp only [f50_L2]
    rw [dlt_len hk, cond_true, idx_lt hk]
    simp only [Option.bind_some]
    rw [e1]
    simp only [Option.bind_some]
    rw [idx_lt (l := viewQ m qs[k]) (k := a) (by omega), idx_lt (l := viewQ m qs[k]) (k := b) (by omega), g1, g2, wi64_of (by omega) (by omega)]
    simp only [Option.bind_some]
    cases decide ((viewQ m qs[k])[a]'(by omega) = (viewQ m qs[k])[b]'(by omega)) <;> simp
  · intro w
    simp only [f50_L2]
    rw [dnlt_len]; rfl
theorem f31v2_is (N : Nat) (n : Int) (qs : List Int) (m : Menu) : f31v2 N n (qs, (m, ())) = labG N (fun a b => f50 N a b qs m) n := rfl
theorem f35_eq (N : Nat) (hN : 400 < N) {m : Menu} (hm : menuOK m = true) {qs : List Int} (hq : qs.all (askOK m) = true) (hl : qs.length ≤ 300) : f35 N m qs = some (jointL m qs) := by
  obtain ⟨m1, m2, m3, m4⟩ := menuOK_iff.1 hm
  unfold f35
  rw [f31v2_is, labG_eq N ((List.range m.1.toNat).map fun x => keyQ m qs x) _ (by simp; omega) (by simp; omega) ?_ _ (by simp; omega)]
  · rfl
  · intro a b ha hba
    have ha' : a < m.1.toNat := by simpa using ha
    rw [f50_eq N hN hm hq hl ha' (by omega)]
    simp

theorem law9 (m : Menu) (qs : List Int) (more : Int) : f9 5000 m qs more = some true := by
  unfold f9
  rw [f12_5000]
  obtain ⟨x, hx⟩ := f13_some 5000 (by omega) m [] 62 0 (by omega)
  rw [hx]
  simp only [Option.bind_some, Bool.not_true, cond_false]
  cases x with
  | false => rfl
  | true =>
  simp only [Bool.not_true, cond_false, Option.bind_some]
  by_cases h1 : 20 < len qs
  · simp [h1]
  have hql : qs.length ≤ 20 := by simp only [len] at h1; omega
  simp only [h1, decide_false, cond_false]
  rw [f18_eq 5000 (by omega), f23_eq 5000 (by omega) m qs (by omega)]
  simp only [Option.bind_some, menuCode]
  cases hm : menuOK m with
  | false => simp [len]
  | true =>
  obtain ⟨m1, m2, m3, m4⟩ := menuOK_iff.1 hm
  simp only [if_true, decide_true, cond_true]
  refine iter_for (fun k t => t = if (qs.take k).all (askOK m) then 0 else 3) qs.length ?_ ?_ 5000 (by omega) _ (by simp)
  · intro k t w hk ht hw
    subst ht
    simp only [f9_L8]
    rw [dlt_len hk, cond_true, idx_lt hk, wi64_of (by omega) (by omega)]
    simp only [Option.bind_some]
    have hall : (qs.take (k + 1)).all (askOK m) = ((qs.take k).all (askOK m) && askOK m qs[k]) := by rw [take_succ hk, List.all_append]; simp
    have hb : (cond (decide (qs[k] < 0)) (some true) (some (decide (len m.2.1 ≤ qs[k]))) : Option Bool) = some (!(askOK m qs[k])) := by
      simp only [askOK, len]
      by_cases a : qs[k] < 0
      · have : ¬ 0 ≤ qs[k] := by omega
        simp [a, this]
      · have a' : 0 ≤ qs[k] := by omega
        by_cases b : (m.2.1.length : Int) ≤ qs[k]
        · have : ¬ qs[k] < (m.2.1.length : Int) := by omega
          simp [a, a', b, this]
        · have b' : qs[k] < (m.2.1.length : Int) := by omega
          simp [a, a', b, b']
    rw [hb]
    simp only [Option.bind_some]
    cases hq : askOK m qs[k] with
    | true => exact hw _ (by rw [hall, hq, Bool.and_true])
    | false => exact hw _ (by rw [hall, hq]; simp)
  · intro t w ht
    subst ht
    simp only [f9_L8]
    rw [dnlt_len, cond_false, List.take_length]
    cases hq : qs.all (askOK m) with
    | false => simp [len]
    | true =>
    simp only [if_true, decide_true, Bool.not_true, cond_false, Option.bind_some]
    have hjl : (jointL m qs).length = m.1.toNat := by simp [jointL, ofL_len]
    rw [f35_eq 5000 (by omega) hm hq (by omega)]
    simp only [Option.bind_some]
    rw [f21_eq 5000 _ _ (by omega) (by omega)]
    simp only [Option.bind_some, decide_true, Bool.not_true, cond_false]
    by_cases hmo : askOK m more = true
    · have hmo' := hmo
      simp only [askOK, Bool.and_eq_true, decide_eq_true_eq] at hmo'
      have a1 : decide (more < 0) = false := by simp; omega
      have a2 : decide (len m.2.1 ≤ more) = false := by simp only [len, decide_eq_false_iff_not]; omega
      have hq2 : (qs ++ [more]).all (askOK m) = true := by rw [List.all_append, hq]; simp [hmo]
      have hjl2 : (jointL m (qs ++ [more])).length = m.1.toNat := by simp [jointL, ofL_len]
      rw [a1, a2]
      simp only [cond_false, Option.bind_some, f36]
      rw [chk_room (by omega)]
      simp only [Option.bind_some]
      rw [chk_room (by omega), f23_eq 5000 (by omega) m _ (by simp; omega), hm, hq2]
      simp only [if_true, Option.bind_some, decide_true, cond_true]
      have e : decide (len (jointL m (qs ++ [more])) = m.1) = true := by simp only [len, hjl2, decide_eq_true_eq]; omega
      rw [e]
      simp only [cond_true, Option.bind_some]
      rw [f24_true 5000 (by omega) (by omega) (by omega) ?_]
      · rfl
      · intro i j hi hj he
        have e1 := ofL_same (l := (List.range m.1.toNat).map fun x => keyQ m (qs ++ [more]) x) (i := i) (j := j) (by simp; omega) (by simp; omega)
        have e2 := ofL_same (l := (List.range m.1.toNat).map fun x => keyQ m qs x) (i := i) (j := j) (by simp; omega) (by simp; omega)
        simp only [List.getElem_map, List.getElem_range] at e1 e2
        have h3 := e1.1 he
        rw [keyQ_snoc, keyQ_snoc] at h3
        exact e2.2 (List.append_inj h3 (by simp [keyQ])).1
    · have a0 : (cond (decide (more < 0)) (some true) (some (decide (len m.2.1 ≤ more))) : Option Bool) = some true := by
        simp only [askOK, Bool.and_eq_true, decide_eq_true_eq] at hmo
        by_cases a1 : more < 0
        · simp [a1]
        · have a2 : len m.2.1 ≤ more := by simp only [len]; omega
          simp [a1, a2]
      rw [a0]
      rfl

end Go.Kz
