/-
  The layer strategy: Spent with sets of bits; Run; plain laws.
-/
import Derived.Test.YtcnmiohlpaommaaKzS6
set_option linter.unusedVariables false
set_option linter.unusedSimpArgs false
namespace Go.Kz

/-! ## Sets of secrets as bits -/
/-- The numbers of the table of sets. -/
def tab (G : Nat → Nat) : List Int := (List.range 62).map fun c => ((G c : Nat) : Int)
theorem tab_len (G : Nat → Nat) : (tab G).length = 62 := by simp [tab]
theorem tab_get (G : Nat → Nat) {c : Nat} (h : c < (tab G).length) : (tab G)[c] = ((G c : Nat) : Int) := by simp [tab]
theorem tab_set (G : Nat → Nat) {c : Nat} (x : Nat) : (tab G).set c ((x : Nat) : Int) = tab (fun d => if d = c then x else G d) := by
  apply List.ext_getElem
  · simp [tab]
  · intro i h1 h2
    have h3 : i < 62 := by rw [List.length_set, tab_len] at h1; exact h1
    rw [List.getElem_set, tab_get, tab_get _ (by rw [tab_len]; exact h3)]
    by_cases h : c = i
    · subst h; simp
    · have : ¬ i = c := fun e => h e.symm
      simp [h, this]
theorem nz_iff (X : Nat) : X ≠ 0 ↔ ∃ i, X.testBit i = true := by
  constructor
  · intro h
    apply Classical.byContradiction
    intro hn
    apply h
    apply Nat.eq_of_testBit_eq
    intro i
    rw [Nat.zero_testBit]
    cases hb : X.testBit i with
    | false => rfl
    | true => exact absurd ⟨i, hb⟩ hn
  · rintro ⟨i, hi⟩ rfl
    rw [Nat.zero_testBit] at hi
    simp at hi

theorem nubA_nodup {α : Type} [DecidableEq α] : (acc l : List α) → acc.Nodup → (nubA acc l).Nodup
  | _, [], h => h
  | acc, x :: l, h => by
    simp only [nubA]
    split
    · exact nubA_nodup acc l h
    · rename_i hx
      refine nubA_nodup _ l ?_
      rw [List.nodup_append]
      refine ⟨h, by simp, fun a ha b hb => ?_⟩
      simp only [List.mem_singleton] at hb
      subst hb
      exact fun e => hx (e ▸ ha)
/-- As many numbers as there are different ones. -/
theorem count_nub {l : List Int} {n : Nat} (h : ∀ c ∈ l, 0 ≤ c ∧ c < n) (p : Nat → Bool) (hp : ∀ c, c < n → (p c = true ↔ ((c : Nat) : Int) ∈ l)) : ((List.range n).filter p).length = (nubA [] l).length := by
  have h1 : (((List.range n).filter p).map fun (c : Nat) => (c : Int)).Perm (nubA [] l) := by
    refine (List.perm_ext_iff_of_nodup ?_ (nubA_nodup [] l (by simp))).2 ?_
    · refine List.Pairwise.map _ (R := fun a b => a ≠ b) (fun a b hab he => hab (by omega)) ?_
      exact List.Pairwise.filter _ List.nodup_range
    · intro c
      rw [nubA_mem]
      simp only [List.mem_map, List.mem_filter, List.mem_range, List.not_mem_nil, false_or]
      constructor
      · rintro ⟨d, ⟨hd, hpd⟩, rfl⟩
        exact (hp d hd).1 hpd
      · intro hc
        obtain ⟨h0, h2⟩ := h c hc
        refine ⟨c.toNat, ⟨by omega, (hp _ (by omega)).2 ?_⟩, by omega⟩
        have : ((c.toNat : Nat) : Int) = c := by omega
        rw [this]; exact hc
  have := h1.length_eq
  simpa using this

/-! ## Spent -/
theorem f47_eq (N : Nat) (hN : 400 < N) (m : Menu) (s : List Choice) (x : Int) : f47 N m s x = some (if chkCode m s = 0 ∧ (x < 0 ∨ m.1 ≤ x) then 3 else chkCode m s) := by
  unfold f47
  rw [f19_eq N hN]
  simp only [Option.bind_some]
  by_cases hc : chkCode m s = 0
  · by_cases h1 : x < 0
    · simp [hc, h1]
    · by_cases h2 : m.1 ≤ x
      · simp [hc, h1, h2]
      · simp [hc, h1, h2]
  · simp [hc]

structure Mask (m : Menu) (pre : List Ans) (A : Nat) : Prop where
  lt : A < 2 ^ 64
  bit : ∀ i, A.testBit i = (decide (i < m.1.toNat) && agr m pre i)

theorem inner_eq (N : Nat) (hN : 400 < N) {R : Type} {m : Menu} (hm : menuOK m = true) {pre : List Ans} {A : Nat} (hA : Mask m pre A) {q : Int} (hq : askOK m q = true) (a1 a2 a3 : Int) (o : Menu) (o2 : List Ans) (o3 : Ans) (K : List Int → Option R) :
    iter (fun w => f27_L11 N (A : Int) (viewQ m q) a1 a2 a3 (len (viewQ m q)) o o2 o3 w K) N (0, (List.replicate 62 0 : List Int)) =
      K (tab fun c => (List.range m.1.toNat).foldl (fun X i => if A.testBit i && decide ((viewQ m q).getD i 0 = (c : Int)) then X ||| 2 ^ i else X) 0) := by
  obtain ⟨m1, m2, m3, m4⟩ := menuOK_iff.1 hm
  obtain ⟨v1, v2, v3⟩ := view_at hm hq
  have hlt : ∀ c k, k ≤ 62 → (List.range k).foldl (fun X i => if A.testBit i && decide ((viewQ m q).getD i 0 = ((c : Nat) : Int)) then X ||| 2 ^ i else X) 0 < 2 ^ 62 := by
    intro c k
    induction k with
    | zero => intro _; simp
    | succ k ih =>
      intro hk
      rw [List.range_succ, List.foldl_append]
      simp only [List.foldl_cons, List.foldl_nil]
      have := ih (by omega)
      split
      · exact Nat.or_lt_two_pow this (Nat.pow_lt_pow_right (by omega) (by omega))
      · exact this
  refine iter_for (fun k o => o = tab fun c => (List.range k).foldl (fun X i => if A.testBit i && decide ((viewQ m q).getD i 0 = (c : Int)) then X ||| 2 ^ i else X) 0) (viewQ m q).length ?_ ?_ N (by omega) _ ?_
  · intro k o hw hk ho w
    subst ho
    simp only [f27_L11]
    have hv := v3 k (by omega)
    obtain ⟨c, hc⟩ := Int.eq_ofNat_of_zero_le hv.2.1
    have hc62 : c < 62 := by omega
    rw [dlt_len hk, cond_true, hv.1]
    simp only [Option.bind_some]
    have e0 : decide ((k : Int) < 0) = false := by simp
    simp only [e0, cond_false]
    rw [bit_test A k hA.lt (by omega), wi64_of (by omega) (by omega)]
    cases hb : A.testBit k with
    | false =>
      rw [cond_false]
      refine w _ ?_
      rw [List.range_succ]
      congr 1
      funext d
      rw [List.foldl_append]
      simp [hb]
    | true =>
      have hct : c < (tab fun c => (List.range k).foldl (fun X i => if A.testBit i && decide ((viewQ m q).getD i 0 = (c : Int)) then X ||| 2 ^ i else X) 0).length := by rw [tab_len]; exact hc62
      rw [cond_true, hc, chk_true (inb_lt hct), idx_lt hct, tab_get]
      simp only [Option.bind_some]
      have hX := hlt c k (by omega)
      rw [bit_set _ k (by omega) (by omega), setI_nat, tab_set, chk_true (inb_lt hct)]
      refine w _ ?_
      rw [List.range_succ]
      congr 1
      funext d
      rw [List.foldl_append]
      simp only [List.foldl_cons, List.foldl_nil, hb, Bool.true_and, hc]
      by_cases hd : d = c
      · subst hd; simp
      · have : ¬ ((c : Int) = (d : Int)) := by omega
        simp [hd, this]
  · intro o w ho
    subst ho
    simp only [f27_L11]
    rw [dnlt_len, cond_false, v2]
  · rfl

/-- The bits of a class. -/
def grp (m : Menu) (q : Int) (A c : Nat) : Nat := (List.range m.1.toNat).foldl (fun X i => if A.testBit i && decide ((viewQ m q).getD i 0 = (c : Int)) then X ||| 2 ^ i else X) 0
theorem grp_bit (m : Menu) (q : Int) (A c : Nat) (i : Nat) : (grp m q A c).testBit i = (decide (i < m.1.toNat) && A.testBit i && decide ((viewQ m q).getD i 0 = (c : Int))) := by
  unfold grp
  induction m.1.toNat with
  | zero => simp
  | succ k ih =>
    rw [List.range_succ, List.foldl_append]
    simp only [List.foldl_cons, List.foldl_nil]
    have hik : decide (i < k + 1) = (decide (i < k) || decide (i = k)) := by rw [Bool.eq_iff_iff]; simp; omega
    rw [hik]
    by_cases he : i = k
    · subst he
      simp only [decide_true, Bool.or_true, Bool.true_and]
      have e : decide (i < i) = false := by simp
      rw [e] at ih
      simp only [Bool.false_and] at ih
      cases hx : (A.testBit i && decide ((viewQ m q).getD i 0 = (c : Int))) with
      | true =>
        simp only [if_true, Nat.testBit_or, Nat.testBit_two_pow_self, Bool.or_true]
      | false => simp only [Bool.false_eq_true, if_false]; exact ih
    · have e : decide (i = k) = false := by simp [he]
      rw [e, Bool.or_false, ← ih]
      have hne : (2 ^ k).testBit i = false := by rw [Nat.testBit_two_pow]; simp; omega
      split
      · rw [Nat.testBit_or, hne, Bool.or_false]
      · rfl
theorem grp_lt {m : Menu} (hm : menuOK m = true) (q : Int) (A c : Nat) : grp m q A c < 2 ^ 64 := by
  obtain ⟨m1, m2, m3, m4⟩ := menuOK_iff.1 hm
  apply Nat.lt_pow_two_of_testBit
  intro i hi
  rw [grp_bit]
  have : decide (i < m.1.toNat) = false := by simp; omega
  rw [this]; rfl
theorem grp_mask {m : Menu} (hm : menuOK m = true) {pre : List Ans} {A : Nat} (hA : Mask m pre A) (a : Ans) {c : Nat} (hc : a.2.1 = (c : Int)) : Mask m (pre ++ [a]) (grp m a.1 A c) := by
  refine ⟨grp_lt hm _ _ _, fun i => ?_⟩
  rw [grp_bit, hA.bit, agr_snoc, hc]
  cases decide (i < m.1.toNat) <;> simp
theorem grp_count {m : Menu} (hm : menuOK m = true) {pre : List Ans} {A : Nat} (hA : Mask m pre A) {q : Int} (hq : askOK m q = true) :
    ((List.range 62).filter fun c => !(decide ((tab (grp m q A)).getD c 0 = 0))).length = cntQ m pre q := by
  obtain ⟨m1, m2, m3, m4⟩ := menuOK_iff.1 hm
  obtain ⟨v1, v2, v3⟩ := view_at hm hq
  refine count_nub ?_ _ ?_
  · intro c hc
    obtain ⟨i, hi, rfl⟩ := List.mem_map.1 hc
    have := (v3 i (agL_lt hi)).2
    omega
  · intro c hc
    have hct : c < (tab (grp m q A)).length := by rw [tab_len]; exact hc
    have hg : (tab (grp m q A)).getD c 0 = ((grp m q A c : Nat) : Int) := by rw [List.getD_eq_getElem?_getD, List.getElem?_eq_getElem hct, tab_get]; rfl
    rw [hg]
    have h1 : (!(decide (((grp m q A c : Nat) : Int) = 0))) = true ↔ grp m q A c ≠ 0 := by simp
    rw [h1, nz_iff]
    constructor
    · rintro ⟨i, hi⟩
      rw [grp_bit, hA.bit] at hi
      simp only [Bool.and_eq_true, decide_eq_true_eq] at hi
      exact List.mem_map.2 ⟨i, List.mem_filter.2 ⟨List.mem_range.2 hi.1.1, hi.1.2.2⟩, hi.2⟩
    · intro hmem
      obtain ⟨i, hi, he⟩ := List.mem_map.1 hmem
      have h2 := List.mem_filter.1 hi
      have h3 := List.mem_range.1 h2.1
      refine ⟨i, ?_⟩
      rw [grp_bit, hA.bit]
      simp only [h3, h2.2, he, decide_true, Bool.and_self]

theorem f27_eq (N : Nat) (hN : 400 < N) (m : Menu) (s : List Choice) (x : Int) :
    f27 N m s x = some (if chkCode m s = 0 ∧ 0 ≤ x ∧ x < m.1 then (((min (spE m (runL m s x.toNat)) 1048576 : Nat) : Int), 0) else (0, if chkCode m s = 0 then 3 else chkCode m s)) := by
  unfold f27
  rw [f47_eq N hN]
  simp only [Option.bind_some]
  by_cases hc : chkCode m s = 0
  · have h := chk_zero.1 hc
    obtain ⟨m1, m2, m3, m4⟩ := menuOK_iff.1 h.menu
    by_cases hx : 0 ≤ x ∧ x < m.1
    · have e1 : ¬ (x < 0 ∨ m.1 ≤ x) := by omega
      obtain ⟨y, rfl⟩ := Int.eq_ofNat_of_zero_le hx.1
      have hrl := runL_len h hx.2
      have htr := runL_tr h hx.2
      have hs := h.few
      have e2 : decide (m.1 < 0) = false := by simp; omega
      simp only [hc, e1, hx, and_false, and_self, if_false, if_true, decide_true, Bool.not_true, cond_false, e2, Int.toNat_natCast]
      rw [f48_eq N hN h y hx.2]
      simp only [Option.bind_some]
      generalize ht : runL m s y = t at htr hrl
      -- all secrets agree at first
      have e3 : wu64 ((wu64 (1 * (2 ^ (min (Int.toNat m.1) 64)))) - 1) = ((2 ^ m.1.toNat - 1 : Nat) : Int) := by
        have e4 : min (Int.toNat m.1) 64 = m.1.toNat := by omega
        have hp : 2 ^ m.1.toNat ≤ 2 ^ 62 := Nat.pow_le_pow_right (by omega) (by omega)
        have hp2 : 1 ≤ 2 ^ m.1.toNat := Nat.one_le_two_pow
        have hp3 : (2 : Int) ^ m.1.toNat = ((2 ^ m.1.toNat : Nat) : Int) := by push_cast; rfl
        rw [e4, hp3]
        generalize 2 ^ m.1.toNat = Z at hp hp2
        rw [wu64_of (n := 1 * (Z : Int)) (by omega) (by omega), wu64_of (by omega) (by omega)]
        omega
      rw [e3]
      have hA0 : Mask m [] (2 ^ m.1.toNat - 1) := by
        refine ⟨?_, fun i => ?_⟩
        · have hp : 2 ^ m.1.toNat ≤ 2 ^ 62 := Nat.pow_le_pow_right (by omega) (by omega)
          have h62 : (2 : Nat) ^ 62 < 2 ^ 64 := by decide
          omega
        · rw [Nat.testBit_two_pow_sub_one]; simp [agr]
      have key : ∀ (k : Nat), k ≤ t.length → ∀ (A P M : Nat), Mask m (t.take k) A → spE m t = spA m (t.take k) (t.drop k) P → t.length - k < M →
          iter (fun w => f27_L7 N (len t) m t w fun t10_3 => some (t10_3, (0 : Int))) M (((A : Nat) : Int), (k : Int), ((min P 1048576 : Nat) : Int)) = some (((min (spE m t) 1048576 : Nat) : Int), (0 : Int)) := by
        intro k hk
        induction hd : t.length - k generalizing k with
        | zero =>
          intro A P M hA hP hM
          have hkt : k = t.length := by omega
          subst hkt
          obtain ⟨M, rfl⟩ : ∃ M', M = M' + 1 := ⟨M - 1, by omega⟩
          simp only [iter, f27_L7]
          rw [dnlt_len, cond_false, hP]
          simp [spA]
        | succ d ih =>
          intro A P M hA hP hM
          have hkt : k < t.length := by omega
          obtain ⟨M, rfl⟩ : ∃ M', M = M' + 1 := ⟨M - 1, by omega⟩
          have ha := htr _ (List.getElem_mem hkt)
          have htk : TrOK m y (t.take k) := fun a ha => htr a (List.mem_of_mem_take ha)
          obtain ⟨v1, v2, v3⟩ := view_at h.menu ha.1
          have hy := v3 y (by omega)
          rw [ha.2] at hy
          obtain ⟨c, hc'⟩ := Int.eq_ofNat_of_zero_le hy.2.1
          have hc62 : c < 62 := by omega
          simp only [iter, f27_L7]
          rw [dlt_len hkt, cond_true, chk_true (inb_lt hkt), idx_lt hkt]
          simp only [Option.bind_some]
          rw [v1]
          simp only [Option.bind_some]
          rw [inner_eq N hN h.menu hA ha.1]
          have hgr : (fun (c : Nat) => (List.range m.1.toNat).foldl (fun X i => if A.testBit i && decide ((viewQ m t[k].1).getD i 0 = (c : Int)) then X ||| 2 ^ i else X) 0) = grp m t[k].1 A := rfl
          rw [hgr]
          have hcnt := grp_count h.menu hA ha.1
          refine iter_for (fun j c => c = (((List.range j).filter fun c => !(decide ((tab (grp m t[k].1 A)).getD c 0 = 0))).length : Int)) 62 ?_ ?_ N (by omega) _ (by simp)
          · intro j n w hj hn hw
            subst hn
            simp only [f27_L18]
            have hjt : j < (tab (grp m t[k].1 A)).length := by rw [tab_len]; exact hj
            have e5 : decide ((j : Int) < 62) = true := by simp; omega
            have hle := List.length_filter_le (fun c => !(decide ((tab (grp m t[k].1 A)).getD c 0 = 0))) (List.range j)
            rw [List.length_range] at hle
            rw [e5, cond_true, idx_lt hjt]
            simp only [Option.bind_some]
            rw [wi64_of (n := (j : Int) + 1) (by omega) (by omega)]
            have hg : (tab (grp m t[k].1 A)).getD j 0 = (tab (grp m t[k].1 A))[j] := by rw [List.getD_eq_getElem?_getD, List.getElem?_eq_getElem hjt]; rfl
            have hfs : ((List.range (j + 1)).filter fun c => !(decide ((tab (grp m t[k].1 A)).getD c 0 = 0))).length = ((List.range j).filter fun c => !(decide ((tab (grp m t[k].1 A)).getD c 0 = 0))).length + (if (tab (grp m t[k].1 A))[j] = 0 then 0 else 1) := by
              rw [List.range_succ, List.filter_append, List.length_append]
              congr 1
              simp only [List.filter_cons, List.filter_nil, hg]
              split <;> split <;> simp_all
            by_cases hz : (tab (grp m t[k].1 A))[j] = 0
            · rw [decide_eq_true hz]
              simp only [Bool.not_true, cond_false]
              exact hw _ (by rw [hfs, if_pos hz]; rfl)
            · rw [decide_eq_false hz]
              simp only [Bool.not_false, cond_true]
              rw [wi64_of (by omega) (by omega)]
              exact hw _ (by rw [hfs, if_neg hz]; push_cast; rfl)
          · intro n w hn
            subst hn
            simp only [f27_L18]
            have e5 : decide (((62 : Nat) : Int) < 62) = false := by decide
            have hct : c < (tab (grp m t[k].1 A)).length := by rw [tab_len]; exact hc62
            rw [e5, cond_false, hc', chk_true (inb_lt hct), idx_lt hct, tab_get]
            simp only [Option.bind_some]
            rw [hcnt]
            have hcle := cntQ_le m (t.take k) t[k].1
            have hcpos := cntQ_pos htk (by omega) t[k].1
            have hmul : min P 1048576 * cntQ m (t.take k) t[k].1 ≤ 1048576 * 62 := Nat.mul_le_mul (Nat.min_le_right _ _) (by omega)
            have hwl : (((min P 1048576 : Nat) : Int) * ((cntQ m (t.take k) t[k].1 : Nat) : Int)) = ((min P 1048576 * cntQ m (t.take k) t[k].1 : Nat) : Int) := by push_cast; rfl
            rw [hwl, wi64_of (by omega) (by omega), wi64_of (by omega) (by omega), minI_eq]
            have hmm : min ((min P 1048576 * cntQ m (t.take k) t[k].1 : Nat) : Int) 1048576 = ((min (P * cntQ m (t.take k) t[k].1) 1048576 : Nat) : Int) := by
              rw [← min_mul P _ _ hcpos]; omega
            rw [hmm]
            refine ih (k + 1) (by omega) (by omega) _ (P * cntQ m (t.take k) t[k].1) M ?_ ?_ (by omega)
            · rw [take_succ hkt]; exact grp_mask h.menu hA _ hc'
            · rw [hP, List.drop_eq_getElem_cons hkt, take_succ hkt]; rfl
      have := key 0 (by omega) (2 ^ m.1.toNat - 1) 1 N hA0 (by simp [spE]) (by omega)
      exact this
    · have e1 : x < 0 ∨ m.1 ≤ x := by omega
      have e2 : ¬ (0 ≤ x ∧ x < m.1) := hx
      simp [hc, e1, e2]
  · simp [hc]

theorem f33_eq (N : Nat) (hN : 400 < N) (m : Menu) (s : List Choice) (x : Int) :
    f33 N m s x = some (if chkCode m s = 0 ∧ 0 ≤ x ∧ x < m.1 then (runL m s x.toNat, 0) else ([], if chkCode m s = 0 then 3 else chkCode m s)) := by
  unfold f33
  rw [f47_eq N hN]
  simp only [Option.bind_some]
  by_cases hc : chkCode m s = 0
  · have h := chk_zero.1 hc
    by_cases hx : 0 ≤ x ∧ x < m.1
    · have e1 : ¬ (x < 0 ∨ m.1 ≤ x) := by omega
      obtain ⟨y, rfl⟩ := Int.eq_ofNat_of_zero_le hx.1
      simp only [hc, e1, hx, and_false, and_self, if_false, if_true, decide_true, Bool.not_true, cond_false, Int.toNat_natCast]
      rw [f48_eq N hN h y hx.2]
      rfl
    · have e1 : x < 0 ∨ m.1 ≤ x := by omega
      simp [hc, e1, hx]
  · simp [hc]

/-! ## The laws -/
theorem law8 (m : Menu) (s : List Choice) (x : Int) : f8 5000 m s x = some true := by
  unfold f8
  rw [f12_5000]
  obtain ⟨b, hb⟩ := f13_some 5000 (by omega) m s 62 60 (by omega)
  rw [hb]
  simp only [Option.bind_some, Bool.not_true, cond_false]
  cases b with
  | false => rfl
  | true =>
  simp only [Bool.not_true, cond_false]
  rw [f14_eq 5000 (by omega), f33_eq 5000 (by omega), f27_eq 5000 (by omega)]
  simp only [Option.bind_some]
  by_cases hc : chkCode m s = 0
  · have h := chk_zero.1 hc
    by_cases hx : 0 ≤ x ∧ x < m.1
    · have e1 : ¬ (x < 0) := by omega
      have e2 : ¬ (m.1 ≤ x) := by omega
      obtain ⟨y, rfl⟩ := Int.eq_ofNat_of_zero_le hx.1
      have hrl := runL_len h hx.2
      have hs := h.few
      simp only [hc, hx, e1, e2, and_self, if_true, decide_true, decide_false, cond_true, cond_false, Option.bind_some, Bool.not_true, Int.toNat_natCast]
      rw [f20_is, f48_eq 5000 (by omega) h y hx.2]
      simp only [Option.bind_some]
      rw [f34_eq 5000 _ _ (by omega) (by omega)]
      have e3 : decide (len (runL m s y) ≤ len s) = true := by simp only [len, decide_eq_true_eq]; omega
      rw [e3]
      simp
    · have e1 : x < 0 ∨ m.1 ≤ x := by omega
      rcases e1 with e1 | e1
      · simp [hc, hx, e1, len]
      · by_cases e2 : x < 0
        · simp [hc, hx, e2, len]
        · simp [hc, hx, e1, e2, len]
  · simp [hc, len]

theorem law10 (m : Menu) (s : List Choice) (x : Int) : f10 5000 m s x = some true := by
  unfold f10
  rw [f12_5000]
  obtain ⟨b, hb⟩ := f13_some 5000 (by omega) m s 62 60 (by omega)
  rw [hb]
  simp only [Option.bind_some, Bool.not_true, cond_false]
  cases b with
  | false => rfl
  | true =>
  simp only [Bool.not_true, cond_false]
  rw [f14_eq 5000 (by omega)]
  simp only [Option.bind_some]
  by_cases hc : chkCode m s = 0
  · have h := chk_zero.1 hc
    by_cases hx : 0 ≤ x ∧ x < m.1
    · have e1 : ¬ (x < 0) := by omega
      have e2 : ¬ (m.1 ≤ x) := by omega
      obtain ⟨y, rfl⟩ := Int.eq_ofNat_of_zero_le hx.1
      rw [f27_eq 5000 (by omega)]
      simp only [hc, hx, e1, e2, and_self, if_true, decide_true, decide_false, cond_true, cond_false, Option.bind_some, Bool.not_true, Int.toNat_natCast]
      rw [f37_eq 5000 (by omega) h y hx.2]
      simp only [Option.bind_some, minI_eq]
      congr 1
      rw [decide_eq_true_eq]
      omega
    · by_cases e2 : x < 0
      · simp [hc, e2]
      · have e1 : m.1 ≤ x := by omega
        simp [hc, e1, e2]
  · simp [hc]

end Go.Kz
