/-
  The layer strategy: Spent and Run; plain laws.
-/
import Derived.Test.YtcnmiohlpaommaaKzS5
set_option linter.unusedVariables false
set_option linter.unusedSimpArgs false
namespace Go.Kz

/-! ## Bits -/
theorem bit_test (A k : Nat) (hA : A < 2 ^ 64) (hk : k < 64) :
    decide ((wu64 (((((BitVec.ofInt 64 (Int.fdiv (A : Int) (Int.pow 2 (min (Int.toNat (k : Int)) 64)))).and (BitVec.ofInt 64 1)).toNat) : Nat) : Int)) = 1) = A.testBit k := by
  have e1 : min (Int.toNat (k : Int)) 64 = k := by simp; omega
  have e2 : Int.fdiv (A : Int) (Int.pow 2 k) = ((A / 2 ^ k : Nat) : Int) := by
    have : Int.pow 2 k = ((2 ^ k : Nat) : Int) := by
      show (2 : Int) ^ k = _
      push_cast; rfl
    rw [this, Int.fdiv_eq_ediv_of_nonneg _ (Int.natCast_nonneg _)]
    rfl
  rw [e1, e2]
  have e3 : ((BitVec.ofInt 64 ((A / 2 ^ k : Nat) : Int)).and (BitVec.ofInt 64 1)).toNat = A / 2 ^ k % 2 := by
    show ((BitVec.ofInt 64 ((A / 2 ^ k : Nat) : Int)) &&& (BitVec.ofInt 64 1)).toNat = _
    rw [BitVec.toNat_and, BitVec.ofInt_natCast, BitVec.toNat_ofNat]
    have h1 : (BitVec.ofInt 64 1).toNat = 1 := by decide
    have h2 : A / 2 ^ k < 2 ^ 64 := Nat.lt_of_le_of_lt (Nat.div_le_self _ _) hA
    rw [h1, Nat.mod_eq_of_lt h2, Nat.and_one_is_mod]
  rw [e3, Nat.testBit_eq_decide_div_mod_eq]
  have h3 : A / 2 ^ k % 2 < 2 := Nat.mod_lt _ (by omega)
  rw [wu64_of (by omega) (by omega)]
  rw [Bool.eq_iff_iff]
  simp only [decide_eq_true_eq]
  omega
theorem bit_set (X k : Nat) (hX : X < 2 ^ 64) (hk : k < 62) :
    wu64 (((((BitVec.ofInt 64 (X : Int)).or (BitVec.ofInt 64 (Go.IntKind.u64.wrap (Int.mul 1 (Int.pow 2 (min (Int.toNat (k : Int)) 64)))))).toNat) : Nat) : Int) = ((X ||| 2 ^ k : Nat) : Int) := by
  have e1 : min (Int.toNat (k : Int)) 64 = k := by simp; omega
  have hp : 2 ^ k ≤ 2 ^ 62 := Nat.pow_le_pow_right (by omega) (by omega)
  have e2 : Go.IntKind.u64.wrap (Int.mul 1 (Int.pow 2 k)) = ((2 ^ k : Nat) : Int) := by
    have : Int.mul 1 (Int.pow 2 k) = ((2 ^ k : Nat) : Int) := by
      show (1 : Int) * (2 : Int) ^ k = _
      push_cast; simp
    rw [this]
    have h2 : ((2 ^ k : Nat) : Int) ≤ ((2 ^ 62 : Nat) : Int) := Int.ofNat_le.2 hp
    have h3 : ((2 ^ 62 : Nat) : Int) = 4611686018427387904 := by decide
    exact wu64_of (n := ((2 ^ k : Nat) : Int)) (Int.natCast_nonneg _) (by omega)
  rw [e1, e2]
  have hor : X ||| 2 ^ k < 2 ^ 64 := Nat.or_lt_two_pow hX (by omega)
  have e3 : ((BitVec.ofInt 64 (X : Int)).or (BitVec.ofInt 64 ((2 ^ k : Nat) : Int))).toNat = X ||| 2 ^ k := by
    show ((BitVec.ofInt 64 (X : Int)) ||| (BitVec.ofInt 64 ((2 ^ k : Nat) : Int))).toNat = _
    rw [BitVec.toNat_or, BitVec.ofInt_natCast, BitVec.ofInt_natCast, BitVec.toNat_ofNat, BitVec.toNat_ofNat, Nat.mod_eq_of_lt hX, Nat.mod_eq_of_lt (by omega)]
  rw [e3]
  exact wu64_of (by omega) (by omega)

/-! ## What the secrets that agree answer -/
def agr (m : Menu) (pre : List Ans) (i : Nat) : Bool := pre.all fun a => decide ((viewQ m a.1).getD i 0 = a.2.1)
def agL (m : Menu) (pre : List Ans) : List Nat := (List.range m.1.toNat).filter (agr m pre)
def clsL (m : Menu) (pre : List Ans) (q : Int) : List Int := (agL m pre).map fun i => (viewQ m q).getD i 0
def cntQ (m : Menu) (pre : List Ans) (q : Int) : Nat := (nubA [] (clsL m pre q)).length
def spA (m : Menu) : List Ans → List Ans → Nat → Nat
  | _, [], P => P
  | pre, a :: t, P => spA m (pre ++ [a]) t (P * cntQ m pre a.1)
def spE (m : Menu) (t : List Ans) : Nat := spA m [] t 1

theorem agr_snoc (m : Menu) (pre : List Ans) (a : Ans) (i : Nat) : agr m (pre ++ [a]) i = (agr m pre i && decide ((viewQ m a.1).getD i 0 = a.2.1)) := by simp [agr]
theorem agL_snoc (m : Menu) (pre : List Ans) (a : Ans) : agL m (pre ++ [a]) = (agL m pre).filter (fun i => decide ((viewQ m a.1).getD i 0 = a.2.1)) := by
  unfold agL
  rw [List.filter_filter]
  congr 1
  funext i
  rw [agr_snoc, Bool.and_comm]

/-- A transcript of a secret. -/
def TrOK (m : Menu) (x : Nat) (t : List Ans) : Prop := ∀ a ∈ t, askOK m a.1 = true ∧ (viewQ m a.1).getD x 0 = a.2.1
theorem runN_tr {m : Menu} {s : List Choice} (h : Right m s) {x : Nat} (hx : (x : Int) < m.1) : (n : Nat) → (i : Int) → (i = -1 ∨ 0 ≤ i) → TrOK m x (runN m s x n i)
  | 0, _, _ => by intro a ha; simp [runN] at ha
  | n + 1, i, hi => by
    simp only [runN]
    split
    · intro a ha; simp at ha
    · rename_i hne
      have h0 : 0 ≤ i := by omega
      obtain ⟨j, rfl⟩ := Int.eq_ofNat_of_zero_le h0
      have hj : j < s.length := by simp only [len] at hne; omega
      obtain ⟨c, v, cl, nx, e1, e2, e3, e4, e5, e6, e7, e8, e9, _, _, _, _, _, c0, c1⟩ := node_at h hx hj
      simp only [Int.toNat_natCast, e2, e3, e6, e8]
      intro a ha
      rcases List.mem_cons.1 ha with rfl | ha
      · refine ⟨by simp [askOK, c0, c1], ?_⟩
        show (viewOf m c).getD x 0 = cl
        rw [e3, e6]
      · exact runN_tr h hx n nx (by omega) a ha
theorem runL_tr {m : Menu} {s : List Choice} (h : Right m s) {x : Nat} (hx : (x : Int) < m.1) : TrOK m x (runL m s x) := runN_tr h hx _ _ (.inr (by omega))
theorem agr_self {m : Menu} {x : Nat} {t : List Ans} (h : TrOK m x t) : agr m t x = true := by
  rw [agr, List.all_eq_true]
  intro a ha
  simpa using (h a ha).2
theorem cntQ_pos {m : Menu} {x : Nat} {t : List Ans} (h : TrOK m x t) (hx : x < m.1.toNat) (q : Int) : 1 ≤ cntQ m t q := by
  have hm : (viewQ m q).getD x 0 ∈ nubA [] (clsL m t q) := by
    rw [nubA_mem]
    right
    exact List.mem_map.2 ⟨x, List.mem_filter.2 ⟨List.mem_range.2 hx, agr_self h⟩, rfl⟩
  exact List.length_pos_of_mem hm
theorem view_at {m : Menu} (hm : menuOK m = true) {q : Int} (hq : askOK m q = true) : idx m.2.1 q = some (viewQ m q) ∧ (viewQ m q).length = m.1.toNat ∧ (∀ i, i < m.1.toNat → idx (viewQ m q) (i : Int) = some ((viewQ m q).getD i 0) ∧ 0 ≤ (viewQ m q).getD i 0 ∧ (viewQ m q).getD i 0 < m.1) := by
  have hq' := hq
  simp only [askOK, Bool.and_eq_true, decide_eq_true_eq] at hq'
  obtain ⟨v1, v2, v3⟩ := view_get hm hq'.1 hq'.2
  obtain ⟨m1, m2, _, _⟩ := menuOK_iff.1 hm
  obtain ⟨t1, t2, t3⟩ := top_bound v3
  have hvl : (viewQ m q).length = m.1.toNat := by
    have : ((m.2.1.getD q.toNat []).length : Int) = m.1 := v2
    show (m.2.1.getD q.toNat []).length = _
    omega
  refine ⟨v1, hvl, fun i hi => ?_⟩
  have hx' : i < (viewQ m q).length := by omega
  have hg : (viewQ m q).getD i 0 = (viewQ m q)[i] := by rw [List.getD_eq_getElem?_getD, List.getElem?_eq_getElem hx']; rfl
  have := t3 _ (List.getElem_mem hx')
  have h2 : ((m.2.1.getD q.toNat []).length : Int) = m.1 := v2
  rw [hg, idx_lt hx']
  exact ⟨rfl, this.1, Int.lt_of_lt_of_le this.2 (by omega)⟩

/-! ## The reference's Spent -/
theorem f57_eq (N : Nat) (l : List Int) (x : Int) (hN : l.length < N) (hl : l.length < 4294967296) : f57 N l x = some (if x ∈ l then ((posOf x l : Nat) : Int) else -1) := by
  unfold f57
  refine iter_forI (fun k => ∀ j (hj : j < l.length), j < k → l[j] ≠ x) l.length ?_ ?_ N hN (by intro j _ hj; omega)
  · intro k w hk hi hw
    simp only [f57_L2]
    rw [dlt_len hk, cond_true, idx_lt hk]
    simp only [Option.bind_some]
    by_cases he : x = l[k]
    · have := posOf_first hk he.symm (fun j hj => hi j (by omega) hj)
      rw [decide_eq_true he, cond_true, if_pos (by rw [he]; exact List.getElem_mem hk), this]
    · simp only [he, decide_false, cond_false]
      rw [wi64_of (by omega) (by omega)]
      refine hw fun j hj hjk => ?_
      by_cases hjk2 : j = k
      · subst hjk2; exact fun h => he h.symm
      · exact hi j hj (by omega)
  · intro w hi
    simp only [f57_L2]
    have : x ∉ l := by
      intro hm
      obtain ⟨j, hj, he⟩ := List.mem_iff_getElem.1 hm
      exact hi j hj hj he
    rw [dnlt_len, cond_false, if_neg this]
theorem f51_eq (N : Nat) (l : List Int) (x : Int) (hN : l.length < N) (hl : l.length < 4294967296) : f51 N l x = some (decide (x ∈ l)) := by
  unfold f51
  rw [f57_eq N l x hN hl]
  simp only [Option.bind_some]
  by_cases h : x ∈ l <;> simp [h]

theorem minI_eq (a b : Int) : minI a b = min a b := by simp only [minI]; split <;> omega
theorem min_mul (P c K : Nat) (hc : 1 ≤ c) : min (min P K * c) K = min (P * c) K := by
  by_cases h : P ≤ K
  · rw [Nat.min_eq_left h]
  · have h1 : min P K = K := Nat.min_eq_right (by omega)
    have h2 : K ≤ K * c := Nat.le_mul_of_pos_right K hc
    have h3 : K * c ≤ P * c := Nat.mul_le_mul_right c (by omega)
    rw [h1, Nat.min_eq_right h2, Nat.min_eq_right (by omega)]
theorem agL_len (m : Menu) (pre : List Ans) : (agL m pre).length ≤ m.1.toNat := by
  have := List.length_filter_le (agr m pre) (List.range m.1.toNat)
  simpa [agL] using this
theorem agL_nil (m : Menu) : agL m [] = List.range m.1.toNat := by
  unfold agL
  rw [List.filter_eq_self]
  intro i _
  rfl
theorem agL_lt {m : Menu} {pre : List Ans} {i : Nat} (h : i ∈ agL m pre) : i < m.1.toNat := List.mem_range.1 (List.mem_filter.1 h).1
theorem cntQ_le (m : Menu) (pre : List Ans) (q : Int) : cntQ m pre q ≤ m.1.toNat := by
  have h1 := nubA_length [] (clsL m pre q)
  have h2 := agL_len m pre
  simp only [List.length_nil, clsL, List.length_map, Nat.zero_add] at h1
  simp only [cntQ, clsL]
  omega

theorem f37_eq (N : Nat) (hN : 400 < N) {m : Menu} {s : List Choice} (h : Right m s) (x : Nat) (hx : (x : Int) < m.1) : f37 N m s (x : Int) = some ((min (spE m (runL m s x)) 1099511627776 : Nat) : Int) := by
  obtain ⟨m1, m2, m3, m4⟩ := menuOK_iff.1 h.menu
  have htr := runL_tr h hx
  have hrl := runL_len h hx
  have hs := h.few
  unfold f37
  refine iter_for (fun k o => o = (List.range k).map fun (i : Nat) => (i : Int)) m.1.toNat ?_ ?_ N (by omega) [] (by simp)
  · intro k o w hk ho hw
    subst ho
    simp only [f37_L3]
    have e : decide ((k : Int) < m.1) = true := by simp; omega
    rw [e, cond_true, chk_room (by simp; omega), wi64_of (by omega) (by omega)]
    exact hw _ (by simp [List.range_succ])
  · intro o w ho
    subst ho
    simp only [f37_L3]
    have e : decide (((m.1.toNat : Nat) : Int) < m.1) = false := by simp; omega
    rw [e, cond_false, f20_is, f48_eq N hN h x hx]
    simp only [Option.bind_some]
    generalize ht : runL m s x = t at htr hrl
    refine iter_for (fun k (q : Int × List Int) => ∃ P : Nat, spE m t = spA m (t.take k) (t.drop k) P ∧ q = (((min P 1099511627776 : Nat) : Int), (agL m (t.take k)).map fun (i : Nat) => (i : Int))) t.length ?_ ?_ N (by omega) _
      ⟨1, by simp [spE], by simp [agL_nil]⟩
    · rintro k q w hk ⟨P, hP, rfl⟩ hw
      simp only [f37_L8]
      have ha := htr _ (List.getElem_mem hk)
      have htk : TrOK m x (t.take k) := fun a ha => htr a (List.mem_of_mem_take ha)
      obtain ⟨v1, v2, v3⟩ := view_at h.menu ha.1
      have hal := agL_len m (t.take k)
      rw [dlt_len hk, cond_true, chk_true (inb_lt hk), idx_lt hk]
      simp only [Option.bind_some]
      generalize hag : agL m (t.take k) = ag at hal
      have hagx : ∀ i ∈ ag, i < m.1.toNat := fun i hi => agL_lt (by rw [hag]; exact hi)
      have hlm : len (ag.map fun (i : Nat) => (i : Int)) = (ag.length : Int) := by simp [len]
      refine iter_for (fun j (q : List Int × List Int) => q = (((ag.take j).filter (fun i => decide ((viewQ m t[k].1).getD i 0 = t[k].2.1))).map (fun (i : Nat) => (i : Int)), nubA [] ((ag.take j).map fun i => (viewQ m t[k].1).getD i 0))) ag.length ?_ ?_ N (by omega) _ (by simp [nubA])
      · intro j q w2 hj hq hw2
        subst hq
        simp only [f37_L12]
        have hjm : j < (ag.map fun (i : Nat) => (i : Int)).length := by simpa using hj
        have e1 : decide ((j : Int) < len (ag.map fun (i : Nat) => (i : Int))) = true := by rw [hlm]; simp; omega
        have hv := v3 _ (hagx _ (List.getElem_mem hj))
        have hnl := nubA_length [] ((ag.take j).map fun i => (viewQ m t[k].1).getD i 0)
        simp only [List.length_nil, List.length_map, List.length_take, Nat.zero_add] at hnl
        have hfl := List.length_filter_le (fun i => decide ((viewQ m t[k].1).getD i 0 = t[k].2.1)) (ag.take j)
        simp only [List.length_take] at hfl
        rw [e1, cond_true, chk_true (inb_lt hjm), idx_lt hjm]
        simp only [Option.bind_some, List.getElem_map]
        rw [v1]
        simp only [Option.bind_some]
        rw [hv.1]
        simp only [Option.bind_some]
        rw [f51_eq N _ _ (by omega) (by omega), wi64_of (by omega) (by omega)]
        simp only [Option.bind_some]
        have hc1 : nubA [] ((ag.take (j + 1)).map fun i => (viewQ m t[k].1).getD i 0) = if (viewQ m t[k].1).getD ag[j] 0 ∈ nubA [] ((ag.take j).map fun i => (viewQ m t[k].1).getD i 0) then nubA [] ((ag.take j).map fun i => (viewQ m t[k].1).getD i 0) else nubA [] ((ag.take j).map fun i => (viewQ m t[k].1).getD i 0) ++ [(viewQ m t[k].1).getD ag[j] 0] := by
          rw [take_succ hj, List.map_append, List.map_cons, List.map_nil, nub_snoc]
          have : (viewQ m t[k].1).getD ag[j] 0 ∈ nubA [] ((ag.take j).map fun i => (viewQ m t[k].1).getD i 0) ↔ (viewQ m t[k].1).getD ag[j] 0 ∈ ((ag.take j).map fun i => (viewQ m t[k].1).getD i 0) := by rw [nubA_mem]; simp
          simp only [this]
        have hf1 : ((ag.take (j + 1)).filter (fun i => decide ((viewQ m t[k].1).getD i 0 = t[k].2.1))) = if (viewQ m t[k].1).getD ag[j] 0 = t[k].2.1 then (ag.take j).filter (fun i => decide ((viewQ m t[k].1).getD i 0 = t[k].2.1)) ++ [ag[j]] else (ag.take j).filter (fun i => decide ((viewQ m t[k].1).getD i 0 = t[k].2.1)) := by
          rw [take_succ hj, List.filter_append]
          split <;> simp_all
        by_cases hmem : (viewQ m t[k].1).getD ag[j] 0 ∈ nubA [] ((ag.take j).map fun i => (viewQ m t[k].1).getD i 0)
        · rw [if_pos hmem] at hc1
          rw [decide_eq_true hmem]
          simp only [Bool.not_true, cond_false]
          by_cases hcl : (viewQ m t[k].1).getD ag[j] 0 = t[k].2.1
          · rw [if_pos hcl] at hf1
            rw [decide_eq_true hcl, cond_true, chk_room (by rw [List.length_map]; omega)]
            exact hw2 _ (by rw [hc1, hf1]; simp)
          · rw [if_neg hcl] at hf1
            rw [decide_eq_false hcl, cond_false]
            exact hw2 _ (by rw [hc1, hf1])
        · rw [if_neg hmem] at hc1
          rw [decide_eq_false hmem]
          simp only [Bool.not_false, cond_true]
          rw [chk_room (by omega)]
          by_cases hcl : (viewQ m t[k].1).getD ag[j] 0 = t[k].2.1
          · rw [if_pos hcl] at hf1
            rw [decide_eq_true hcl, cond_true, chk_room (by rw [List.length_map]; omega)]
            exact hw2 _ (by rw [hc1, hf1]; simp)
          · rw [if_neg hcl] at hf1
            rw [decide_eq_false hcl, cond_false]
            exact hw2 _ (by rw [hc1, hf1])
      · intro q w2 hq
        subst hq
        simp only [f37_L12]
        have e1 : decide (((ag.length : Nat) : Int) < len (ag.map fun (i : Nat) => (i : Int))) = false := by rw [hlm]; simp
        have hcn : (nubA [] ((ag.take ag.length).map fun i => (viewQ m t[k].1).getD i 0)).length = cntQ m (t.take k) t[k].1 := by
          rw [List.take_length, ← hag]; rfl
        have hcle := cntQ_le m (t.take k) t[k].1
        have hcpos := cntQ_pos htk (by omega) t[k].1
        have hmul : min P 1099511627776 * cntQ m (t.take k) t[k].1 ≤ 1099511627776 * 62 := Nat.mul_le_mul (Nat.min_le_right _ _) (by omega)
        rw [e1, cond_false, wi64_of (by omega) (by omega)]
        have hwl : (((min P 1099511627776 : Nat) : Int) * len (nubA [] ((ag.take ag.length).map fun i => (viewQ m t[k].1).getD i 0))) = ((min P 1099511627776 * cntQ m (t.take k) t[k].1 : Nat) : Int) := by
          rw [len_eq, hcn]; push_cast; rfl
        rw [hwl, wi64_of (by omega) (by omega), minI_eq]
        refine hw _ ⟨P * cntQ m (t.take k) t[k].1, ?_, ?_⟩
        · rw [hP, List.drop_eq_getElem_cons hk, take_succ hk]
          rfl
        · congr 1
          · rw [← min_mul P _ _ hcpos]
            omega
          · rw [List.take_length, take_succ hk, agL_snoc, hag]
    · rintro q w ⟨P, hP, rfl⟩
      simp only [f37_L8]
      rw [dnlt_len, cond_false, hP]
      simp [spA]

end Go.Kz
