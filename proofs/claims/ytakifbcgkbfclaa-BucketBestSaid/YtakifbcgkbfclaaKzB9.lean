/-
  Layer 44, plain: the law BucketBest.
-/
import Derived.Test.YtakifbcgkbfclaaKzB8
set_option linter.unusedVariables false
set_option linter.unusedSimpArgs false
namespace Go.Kz

/-! ## the first among the best -/
theorem Greedy.first {l : List Tim} (hl : Load l) : {j h : Nat} → {G A : List Nat} → Greedy (grp l) l.length j h G → SChain l.length h A → A.length = j → chainC (grp l) h A = ex (grp l) l.length j h →
    ∀ k, (hk : k < j) → (∀ x, x < k → A[x]? = G[x]?) → ∃ a b, A[k]? = some a ∧ G[k]? = some b ∧ b ≤ a
  | 0, h, G, A, _, _, _, _, k, hk, _ => by omega
  | j + 1, h, i :: G, a :: A, hG, hA, lA, cA, k, hk, hpre => by
    obtain ⟨g1, g2, g3, g4, g5⟩ := hG
    obtain ⟨a1, a2, a3⟩ := hA
    simp only [List.length_cons, Nat.add_right_cancel_iff] at lA
    simp only [chainC] at cA
    have h1 := ex_chain hl a3 lA
    have h2 := chain_lt_NV hl a3
    have h3 := ex_le (c := grp l) (n := l.length) (j := j) a1 a2 (by omega)
    cases k with
    | zero =>
      refine ⟨a, i, rfl, rfl, ?_⟩
      rcases Nat.lt_or_ge a i with hlt | hge
      · exact absurd ⟨by omega, by omega⟩ (g4 a a1 hlt)
      · exact hge
    | succ k =>
      have e0 := hpre 0 (by omega)
      simp only [List.getElem?_cons_zero, Option.some.injEq] at e0
      subst e0
      obtain ⟨x, y, k1, k2, k3⟩ := Greedy.first hl g5 a3 lA (by omega) k (by omega) fun x hx => by
        have := hpre (x + 1) (by omega)
        simpa using this
      exact ⟨x, y, by simpa using k1, by simpa using k2, k3⟩
  | j + 1, h, [], A, hG, _, _, _, k, hk, _ => hG.elim
  | j + 1, h, i :: G, [], _, _, lA, _, k, hk, _ => by simp at lA

theorem f40_eq (x y : Int) : f40 5000 x y = some (if x < y then -1 else if y < x then 1 else 0) := by
  unfold f40 f44
  simp only [decide_true, Bool.not_true, Option.bind_some, cond_false]
  by_cases h1 : x < y
  · rw [d_true h1, if_pos h1]; rfl
  · rw [d_false h1, if_neg h1]
    simp only [cond_false]
    by_cases h2 : y < x
    · rw [d_true h2, if_pos h2]; rfl
    · rw [d_false h2, if_neg h2]; rfl

theorem f29_ok {l : List Tim} (hl : Load l) {A G : List Nat} (hA : ∀ i ∈ A, 0 < i ∧ i ≤ l.length) (hG : ∀ i ∈ G, 0 < i ∧ i ≤ l.length) (hlen : A.length = G.length) (h32 : A.length ≤ 4000)
    (hf : ∀ k, k < A.length → (∀ x, x < k → A[x]? = G[x]?) → ∃ a b, A[k]? = some a ∧ G[k]? = some b ∧ b ≤ a) : Yld (f29 5000 (ends l A) (ends l G)) fun r => 0 ≤ r := by
  unfold f29
  refine Yld.upI (fun k => ∀ x, x < k → A[x]? = G[x]?) A.length ?_ ?_ 5000 0 (Nat.zero_le _) (by omega) (fun x hx => by omega)
  · rintro k w hk hpre hw
    simp only [f29_L2]
    rw [d_true (by rw [len_eq, ends_len]; omega), wi64_nat (by omega)]
    simp only [cond_true]
    rw [idx_some' (ends_get hk)]
    simp only [Option.bind_some]
    rw [d_false (by rw [len_eq, ends_len]; omega)]
    simp only [cond_false]
    rw [idx_some' (ends_get (show k < G.length by omega))]
    simp only [Option.bind_some]
    rw [f40_eq]
    simp only [Option.bind_some]
    obtain ⟨a, b, ea, eb, hab⟩ := hf k hk hpre
    have ea' := getE ea hk
    have eb' := getE eb (show k < G.length by omega)
    rw [ea', eb']
    have ha := hA a (by rw [← ea']; exact List.getElem_mem _)
    have hb := hG b (by rw [← eb']; exact List.getElem_mem _)
    have hle := tm_mono hl (a := b - 1) (b := a - 1) (by omega) (by omega)
    rw [if_neg (by omega)]
    by_cases h2 : tm l (b - 1) < tm l (a - 1)
    · rw [if_pos h2]
      exact Yld.ret (by decide)
    · rw [if_neg h2]
      simp only [decide_true, Bool.not_true, cond_false]
      have hab' : a = b := by
        rcases Nat.lt_or_ge b a with h | h
        · exact absurd (tm_smono hl (a := b - 1) (b := a - 1) (by omega) (by omega)) h2
        · omega
      refine hw fun x hx => ?_
      by_cases he : x = k
      · subst he; rw [ea, eb, hab']
      · exact hpre x (by omega)
  · rintro w hpre
    simp only [f29_L2]
    rw [d_false (by rw [len_eq, ends_len]; omega)]
    simp only [cond_false]
    rw [d_false (by rw [len_eq, len_eq, ends_len, ends_len]; omega)]
    exact Yld.ret (by decide)

/-! ## the least cost, by the definition -/
theorem dp_last {c : Nat → Nat → Int} (h0 : ∀ i, c i i = 0) : (j i : Nat) → 1 ≤ i → ∃ h, h < i ∧ dp c j h + c h i ≤ dp c j i
  | 0, i, hi => ⟨0, hi, by simp only [dp, h0]; omega⟩
  | j + 1, i, hi => by
    obtain ⟨h, h1, h2⟩ := minTo_mem (fun h => dp c j h + c h i) i
    have e : dp c (j + 1) i = minTo (fun h => dp c j h + c h i) i := rfl
    by_cases he : h = i
    · subst he
      obtain ⟨x, k1, k2⟩ := dp_last h0 j h hi
      have := dp_falls (c := c) (h0 x) j
      simp only [h0] at h2
      exact ⟨x, k1, by omega⟩
    · have := dp_falls (c := c) (h0 h) j
      exact ⟨h, by omega, by omega⟩

theorem f28_ok {l : List Tim} (hl : Load l) : (M i : Nat) → i < M → i ≤ l.length → (k : Nat) → 1 ≤ k → k ≤ 32 → f28R 5000 M l (k : Int) (i : Int) = some (dp (grp l) (k - 1) i)
  | 0, i, h, _, _, _, _ => by omega
  | M + 1, i, hM, hi, k, hk, hk2 => by
    have hlen := hl.2.1
    show f28B 5000 (f28R 5000 M) l (k : Int) (i : Int) = _
    unfold f28B
    by_cases h0 : i = 0
    · subst h0
      rw [d_true (by omega)]
      simp only [cond_true]
      rw [dp_full hl (k - 1) 0 (by omega) (by omega)]
    · rw [d_false (by omega)]
      simp only [cond_false]
      have hf25 : f25 5000 l 0 (i : Int) = some (grp l 0 i) := f25_ok hl (a := 0) (b := i) (Nat.zero_le _) hi
      rw [hf25]
      simp only [Option.bind_some]
      by_cases h1 : k ≤ 1
      · rw [d_true (by omega)]
        obtain rfl : k = 1 := by omega
        rfl
      · rw [d_false (by omega)]
        simp only [cond_false]
        obtain ⟨m, rfl⟩ : ∃ m, k = m + 2 := ⟨k - 2, by omega⟩
        have z0 : dp (grp l) m 0 = 0 := dp_full hl m 0 (by omega) (by omega)
        refine Yld.eq ?_
        refine Yld.up (fun h s => (∀ x, x < h → s ≤ dp (grp l) m x + grp l x i) ∧ ∃ x, x < h ∧ s = dp (grp l) m x + grp l x i) i ?_ ?_ 5000 1 (by omega) (by omega) (grp l 0 i) ⟨fun x hx => by have h00 : x = 0 := (by omega); subst h00; omega, 0, by omega, by omega⟩
        · rintro h s w hh ⟨s1, s2⟩ hw
          simp only [f28B_L7]
          rw [dlt hh, wi64_nat (by omega)]
          simp only [cond_true]
          rw [wi64_of (n := ((m + 2 : Nat) : Int) - 1) (by omega) (by omega), show ((m + 2 : Nat) : Int) - 1 = ((m + 1 : Nat) : Int) from by omega]
          rw [f28_ok hl M h (by omega) (by omega) (m + 1) (by omega) (by omega), f25_ok hl (Nat.le_of_lt hh) hi]
          simp only [Option.bind_some, Nat.add_sub_cancel]
          have r1 := dp_range hl m h (by omega)
          have r2 := grp_range hl (Nat.le_of_lt hh) hi
          rw [wi64_of (by omega) (by omega)]
          refine Yld.cond (fun hc => hw _ ⟨fun x hx => ?_, h, by omega, rfl⟩) fun hc => hw _ ⟨fun x hx => ?_, ?_⟩
          · rw [decide_eq_true_eq] at hc
            by_cases he : x = h
            · subst he; exact Int.le_refl _
            · have := s1 x (by omega); omega
          · rw [decide_eq_false_iff_not] at hc
            by_cases he : x = h
            · subst he; omega
            · exact s1 x (by omega)
          · obtain ⟨x, x1, x2⟩ := s2
            exact ⟨x, by omega, x2⟩
        · rintro s w ⟨s1, x, x1, x2⟩
          simp only [f28B_L7]
          rw [dnlt]
          simp only [cond_false]
          refine Yld.ret ?_
          have e : dp (grp l) (m + 1) i = minTo (fun h => dp (grp l) m h + grp l h i) i := rfl
          have k1 := minTo_le (fun h => dp (grp l) m h + grp l h i) i x (by omega)
          obtain ⟨y, y1, y2⟩ := minTo_mem (fun h => dp (grp l) m h + grp l h i) i
          rw [show m + 2 - 1 = m + 1 from by omega, e]
          by_cases he : y = i
          · subst he
            obtain ⟨z, z1, z2⟩ := dp_last (grp_self l) m y (by omega)
            have := s1 z z1
            rw [grp_self] at y2
            omega
          · have := s1 y (by omega)
            omega

/-! ## the table is a proof -/
theorem tab_holds {l : List Tim} (hl : Load l) (k : Nat) : (decide (((tab l k).getD 0 []).getD 0 0 = 0) && holdAll l (tab l k)) = true := by
  have hget : ∀ j, j ≤ k → (tab l k).getD j [] = rowOf l j := fun j hj => by rw [List.getD_eq_getElem?_getD, tab_get hj]; rfl
  have hrow : ∀ j i, i ≤ l.length → (rowOf l j).getD i 0 = ent l j i := fun j i hi => by rw [List.getD_eq_getElem?_getD, rowOf_get hi]; rfl
  rw [Bool.and_eq_true]
  refine ⟨?_, ?_⟩
  · rw [hget 0 (Nat.zero_le _), hrow 0 0 (Nat.zero_le _)]; rfl
  · unfold holdAll
    rw [tab_len, List.all_eq_true]
    intro j hj
    rw [List.mem_range] at hj
    rw [List.all_eq_true]
    intro i hi
    rw [List.mem_range] at hi
    rw [List.all_eq_true]
    intro h hh
    rw [List.mem_range] at hh
    unfold holdAt
    rw [hget (1 + j) (by omega), hget (1 + j - 1) (by omega), hrow _ i (by omega), hrow _ h (by omega), show 1 + j - 1 = j from by omega, show 1 + j = j + 1 from by omega]
    have hg := grp_range hl (show h ≤ i by omega) (show i ≤ l.length by omega)
    cases j with
    | zero =>
      by_cases h0 : h = 0
      · subst h0
        have e1 : ent l 0 0 = 0 := rfl
        have e2 : ent l (0 + 1) i = grp l 0 i := rfl
        rw [e1, e2, wi64_of (by omega) (by omega)]
        simp
      · simp [h0]
    | succ j =>
      have e1 : ent l (j + 1) h = dp (grp l) j h := rfl
      have e2 : ent l (j + 1 + 1) i = minTo (fun h => dp (grp l) j h + grp l h i) i := rfl
      have r1 := dp_range hl j h (by omega)
      have r2 := minTo_le (fun h => dp (grp l) j h + grp l h i) i h (by omega)
      rw [e1, e2, wi64_of (by omega) (by omega)]
      rw [d_false (show ¬ dp (grp l) j h + grp l h i < minTo (fun h => dp (grp l) j h + grp l h i) i by omega)]
      simp
theorem ent_range {l : List Tim} (hl : Load l) (j i : Nat) (hi : i ≤ l.length) : 0 ≤ ent l j i ∧ ent l j i ≤ 1152921504606846976 := by
  cases j with
  | zero => simp only [ent]; split <;> omega
  | succ j => have := dp_range hl j i hi; simp only [ent]; omega
theorem rowOf_lt {l : List Tim} {j i : Nat} (hi : i < (rowOf l j).length) : (rowOf l j)[i] = ent l j i := getE (rowOf_get (by rw [rowOf_len] at hi; omega)) hi
theorem tab_lt {l : List Tim} {k j : Nat} (hj : j < (tab l k).length) : (tab l k)[j] = rowOf l j := getE (tab_get (by rw [tab_len] at hj; omega)) hj

theorem prove_tab {l : List Tim} (hl : Load l) {k : Nat} (hk1 : 1 ≤ k) (hk : k ≤ 32) : f18 5000 l (k : Int) (tab l k) (dp (grp l) (k - 1) l.length) = some 0 ∧ f19 5000 l (k : Int) (tab l k) (dp (grp l) (k - 1) l.length) = some 0 := by
  have hlen := hl.2.1
  have hrows : ∀ r ∈ tab l k, r.length = l.length + 1 := fun r hr => by
    obtain ⟨j, hj, rfl⟩ := List.mem_iff_getElem.1 hr
    rw [tab_lt hj, rowOf_len]
  have e31 := f31_ok hl (t := tab l k) (by rw [tab_len]; omega) (by rw [tab_len]; omega) hrows
  have e32 := f32_ok hl (t := tab l k) (k := k) (by rw [tab_len]; omega) (tab_len l k) hrows
  rw [tab_holds hl k] at e31 e32
  obtain ⟨m, rfl⟩ : ∃ m, k = m + 1 := ⟨k - 1, by omega⟩
  have hent : ent l (m + 1) l.length = dp (grp l) m l.length := rfl
  constructor
  · refine Yld.eq ?_
    unfold f18
    rw [f12_load hl]
    simp only [Option.bind_some, decide_true, Bool.not_true, cond_false]
    rw [d_false (show ¬ ((m + 1 : Nat) : Int) < 1 by omega), d_false (show ¬ (32 : Int) < ((m + 1 : Nat) : Int) by omega)]
    simp only [cond_false, Option.bind_some]
    rw [wi64_nat (by omega), d_true (show len (tab l (m + 1)) = ((m + 1 : Nat) : Int) + 1 by rw [len_eq, tab_len]; omega)]
    simp only [Bool.not_true, cond_false]
    refine Yld.upI (fun _ => True) (tab l (m + 1)).length ?_ ?_ 5000 0 (Nat.zero_le _) (by rw [tab_len]; omega) trivial
    · rintro j w hj _ hw
      have hj' := hj
      rw [tab_len] at hj'
      simp only [f18_L10]
      rw [dlt_len hj, idx_lt hj, tab_lt hj, wi64_nat (show j < 9223372036854775807 by omega)]
      simp only [cond_true, Option.bind_some]
      rw [len_eq (rowOf l j), rowOf_len, len_eq, wi64_nat (show l.length < 9223372036854775807 by omega), d_true (by omega)]
      simp only [Bool.not_true, cond_false]
      exact hw trivial
    · rintro w _
      simp only [f18_L10]
      rw [dnlt_len]
      simp only [cond_false]
      refine Yld.upI (fun _ => True) (tab l (m + 1)).length ?_ ?_ 5000 0 (Nat.zero_le _) (by rw [tab_len]; omega) trivial
      · rintro j w hj _ hw
        have hj' := hj
        rw [tab_len] at hj'
        simp only [f18_L16]
        rw [dlt_len hj, idx_lt hj, tab_lt hj, wi64_nat (by omega)]
        simp only [cond_true, Option.bind_some]
        refine Yld.upI (fun _ => True) (rowOf l j).length ?_ ?_ 5000 0 (Nat.zero_le _) (by rw [rowOf_len]; omega) trivial
        · rintro i w2 hi _ hw2
          have hi' := hi
          rw [rowOf_len] at hi'
          simp only [f18_L19]
          rw [dlt_len hi, idx_lt hi, rowOf_lt hi, wi64_nat (by omega)]
          simp only [cond_true, Option.bind_some]
          have := ent_range hl j i (by omega)
          rw [d_false (show ¬ ent l j i < 0 by omega), d_false (by omega)]
          simp only [cond_false, Option.bind_some]
          exact hw2 trivial
        · rintro w2 _
          simp only [f18_L19]
          rw [dnlt_len]
          simp only [cond_false]
          exact hw trivial
      · rintro w _
        simp only [f18_L16]
        rw [dnlt_len]
        simp only [cond_false]
        rw [e31]
        simp only [Option.bind_some, Bool.not_true, cond_false]
        rw [idx_some' (tab_get (l := l) (Nat.le_refl (m + 1)))]
        simp only [Option.bind_some]
        rw [len_eq, idx_some' (rowOf_get (l := l) (j := m + 1) (Nat.le_refl _))]
        simp only [Option.bind_some]
        rw [hent, Nat.add_sub_cancel, d_false (Int.lt_irrefl _)]
        exact Yld.ret rfl
  · refine Yld.eq ?_
    unfold f19
    rw [← f12_eq, f12_load hl]
    simp only [Option.bind_some, decide_true, Bool.not_true, cond_false]
    rw [d_false (show ¬ ((m + 1 : Nat) : Int) < 1 by omega), d_false (show ¬ (32 : Int) < ((m + 1 : Nat) : Int) by omega)]
    simp only [cond_false, Option.bind_some]
    rw [wi64_nat (by omega), d_true (show len (tab l (m + 1)) = ((m + 1 : Nat) : Int) + 1 by rw [len_eq, tab_len]; omega)]
    simp only [Bool.not_true, cond_false]
    refine Yld.upI (fun _ => True) (tab l (m + 1)).length ?_ ?_ 5000 0 (Nat.zero_le _) (by rw [tab_len]; omega) trivial
    · rintro j w hj _ hw
      have hj' := hj
      rw [tab_len] at hj'
      simp only [f19_L9]
      rw [dlt_len hj, idx_lt hj, tab_lt hj, wi64_nat (show j < 9223372036854775807 by omega)]
      simp only [cond_true, Option.bind_some]
      rw [len_eq (rowOf l j), rowOf_len, len_eq, wi64_nat (show l.length < 9223372036854775807 by omega), d_true (by omega)]
      simp only [Bool.not_true, cond_false]
      exact hw trivial
    · rintro w _
      simp only [f19_L9]
      rw [dnlt_len]
      simp only [cond_false]
      refine Yld.upI (fun _ => True) (tab l (m + 1)).length ?_ ?_ 5000 0 (Nat.zero_le _) (by rw [tab_len]; omega) trivial
      · rintro j w hj _ hw
        have hj' := hj
        rw [tab_len] at hj'
        simp only [f19_L15]
        rw [dlt_len hj, idx_lt hj, tab_lt hj, wi64_nat (by omega)]
        simp only [cond_true, Option.bind_some]
        refine Yld.upI (fun _ => True) (rowOf l j).length ?_ ?_ 5000 0 (Nat.zero_le _) (by rw [rowOf_len]; omega) trivial
        · rintro i w2 hi _ hw2
          have hi' := hi
          rw [rowOf_len] at hi'
          simp only [f19_L18]
          rw [dlt_len hi, idx_lt hi, rowOf_lt hi, wi64_nat (by omega)]
          simp only [cond_true, Option.bind_some]
          have := ent_range hl j i (by omega)
          rw [d_false (show ¬ ent l j i < 0 by omega), d_false (by omega)]
          simp only [cond_false, Option.bind_some]
          exact hw2 trivial
        · rintro w2 _
          simp only [f19_L18]
          rw [dnlt_len]
          simp only [cond_false]
          exact hw trivial
      · rintro w _
        simp only [f19_L15]
        rw [dnlt_len]
        simp only [cond_false]
        rw [e32]
        simp only [Option.bind_some, Bool.not_true, cond_false]
        rw [idx_some' (tab_get (l := l) (Nat.le_refl (m + 1)))]
        simp only [Option.bind_some]
        rw [len_eq, idx_some' (rowOf_get (l := l) (j := m + 1) (Nat.le_refl _))]
        simp only [Option.bind_some]
        rw [hent, Nat.add_sub_cancel, d_false (Int.lt_irrefl _)]
        exact Yld.ret rfl

/-! ## the law -/
theorem SChain.snoc {m i : Nat} (hi : m < i) : {l : List Nat} → {h : Nat} → SChain m h l → SChain i h (l ++ [i])
  | [], h, hw => by
    have hw : h = m := hw
    subst hw
    exact ⟨hi, Nat.le_refl _, rfl⟩
  | j :: l, h, hw => by
    obtain ⟨h1, h2, h3⟩ := hw
    exact ⟨h1, by omega, h3.snoc hi⟩
theorem ends_snoc (l : List Tim) (B : List Nat) (i : Nat) : ends l (B ++ [i + 1]) = ends l B ++ [tm l i] := by simp [ends, tm]

/-- The rivals: lists of times of the load, the last one among them. -/
theorem rival {R : Type} {Q : R → Prop} {l : List Tim} (hl : Load l) (t12 t7 t1 t102 t103 : Int) (o1 : List Int) {kx : List Int → Option R} (hk : ∀ A, SChain l.length 0 A → Yld (kx (ends l A)) Q) :
    Yld (iter (fun w => f8_L15 5000 l t12 t7 t1 t102 t103 (len l) o1 w kx) 5000 (0, ([] : List Int))) Q := by
  have hlen := hl.2.1
  have hpos := hl.pos
  refine Yld.up (fun k o => ∃ A m, o = ends l A ∧ SChain m 0 A ∧ m ≤ k ∧ (k = l.length → m = l.length)) l.length ?_ ?_ 5000 0 (Nat.zero_le _) (by omega) _ ⟨[], 0, rfl, rfl, Nat.le_refl _, fun h => by omega⟩
  · rintro k o w hk1 ⟨A, m, rfl, h1, h2, h3⟩ hw
    simp only [f8_L15]
    rw [dlt_len hk1, wi64_nat (by omega), len_eq, wi64_pred hpos (by omega), d_false (show ¬ (k : Int) < 0 by omega)]
    simp only [cond_true, cond_false]
    have hA : A.length ≤ k := by have := h1.len; omega
    have yes : Yld ((idx l (k : Int)).bind fun x => chk (decide (((ends l A).length.succ) ≤ room)) (w ((k : Int) + 1, ends l A ++ (x.1 :: ([] : List Int))))) Q := by
      rw [idx_lt hk1]
      simp only [Option.bind_some]
      rw [chk_true (decide_eq_true (by rw [ends_len]; unfold room; omega))]
      refine hw _ ⟨A ++ [k + 1], k + 1, ?_, h1.snoc (by omega), Nat.le_refl _, fun h => h⟩
      rw [ends_snoc, tm_lt hk1]
    by_cases he : k = l.length - 1
    · rw [d_true (by omega)]
      simp only [cond_true, Option.bind_some]
      exact yes
    · rw [d_false (by omega)]
      simp only [cond_false, Option.bind_some]
      exact Yld.cond (fun _ => yes) fun _ => hw _ ⟨A, m, rfl, h1, by omega, fun h => by omega⟩
  · rintro o w ⟨A, m, rfl, h1, h2, h3⟩
    simp only [f8_L15]
    rw [dnlt_len]
    simp only [cond_false]
    have := h3 rfl
    subst this
    exact hk A h1

theorem sets_ok (m : Nat) (hm : m ≤ 6) : ∃ n : Nat, wi64 (1 * (2 ^ (min (Int.toNat ((m : Nat) : Int)) 64))) = (n : Int) ∧ n ≤ 64 := by
  have e1 : min (Int.toNat ((m : Nat) : Int)) 64 = m := by rw [Int.toNat_natCast]; omega
  rw [e1]
  have : m = 0 ∨ m = 1 ∨ m = 2 ∨ m = 3 ∨ m = 4 ∨ m = 5 ∨ m = 6 := by omega
  rcases this with rfl | rfl | rfl | rfl | rfl | rfl | rfl
  · exact ⟨1, wi64_of (by omega) (by omega), by omega⟩
  · exact ⟨2, wi64_of (by omega) (by omega), by omega⟩
  · exact ⟨4, wi64_of (by omega) (by omega), by omega⟩
  · exact ⟨8, wi64_of (by omega) (by omega), by omega⟩
  · exact ⟨16, wi64_of (by omega) (by omega), by omega⟩
  · exact ⟨32, wi64_of (by omega) (by omega), by omega⟩
  · exact ⟨64, wi64_of (by omega) (by omega), by omega⟩
theorem law8 (a0 : List Tim) (a1 : Int) : f8 5000 a0 a1 = some true := by
  unfold f8
  rw [known44]
  simp only [Option.bind_some, Bool.not_true, cond_false]
  refine Yld.eq ?_
  refine Yld.then (f22_ok a0 (m := 7) (by omega) (by omega)) fun l ht => ?_
  have hl := ht.load
  have h7 := ht.len
  have hpos := hl.pos
  by_cases hr : a1 < 1 ∨ 32 < a1
  · have hb : (cond (decide (a1 < 1)) (some true) (some (decide (32 < a1)))) = some true := by
      rcases hr with h | h
      · rw [d_true h]; rfl
      · rw [d_true h]; cases decide (a1 < 1) <;> rfl
    have e26 : f26 5000 l a1 = some (([] : List Int), (0, (([] : List (List Int)), 3))) := by
      unfold f26
      rw [f12_load hl]
      simp only [Option.bind_some, decide_true, Bool.not_true, cond_false]
      rw [hb]
      simp only [Option.bind_some, cond_true]
    rw [e26, hb]
    simp only [Option.bind_some, cond_true, decide_true]
    exact Yld.ret rfl
  · obtain ⟨k, rfl⟩ : ∃ k : Nat, a1 = (k : Int) := ⟨a1.toNat, by omega⟩
    have hk1 : 1 ≤ k := by omega
    have hk2 : k ≤ 32 := by omega
    refine Yld.then (f26_ok hl hk1 hk2) fun r hB => ?_
    obtain ⟨g, G, hB⟩ := hB
    obtain ⟨c1, c2, c3⟩ := hB.greedy.chain
    have hx := hB.grps.ex hl
    have hgk := hB.grps.le
    have hgp := hB.grps.pos
    rw [hB.eq]
    simp only
    rw [d_false (show ¬ (k : Int) < 1 by omega), d_false (show ¬ (32 : Int) < (k : Int) by omega)]
    simp only [cond_false, Option.bind_some]
    have hGl := c1.len
    rw [f11_ok hl c1 (by omega)]
    simp only [Option.bind_some, decide_true, Bool.not_true, cond_false]
    rw [len_eq (ends l G), ends_len, c2, d_false (show ¬ (k : Int) < (g : Int) by omega)]
    simp only [cond_false, Option.bind_some]
    rw [c3, hx]
    simp only [decide_true, Bool.not_true, cond_false, Option.bind_some]
    have e28 : f28 5000 l (k : Int) (len l) = some (dp (grp l) (k - 1) l.length) := by
      unfold f28
      rw [len_eq]
      exact f28_ok hl 5000 l.length (by omega) (Nat.le_refl _) k hk1 hk2
    rw [e28]
    simp only [decide_true, Bool.not_true, cond_false, Option.bind_some]
    obtain ⟨p1, p2⟩ := prove_tab hl hk1 hk2
    rw [p1]
    simp only [decide_true, Bool.not_true, cond_false, Option.bind_some]
    rw [p2]
    simp only [decide_true, Bool.not_true, cond_false, Option.bind_some]
    rw [len_eq l, wi64_pred hpos (by omega), d_false (show ¬ ((l.length - 1 : Nat) : Int) < 0 by omega)]
    simp only [cond_false]
    -- the number of sets
    have hsets : ∃ n : Nat, wi64 (1 * (2 ^ (min (Int.toNat ((l.length - 1 : Nat) : Int)) 64))) = (n : Int) ∧ n ≤ 64 := by
      exact sets_ok (l.length - 1) (by omega)
    obtain ⟨n, hn, hn2⟩ := hsets
    rw [hn]
    refine Yld.upI (fun _ => True) n ?_ ?_ 5000 0 (Nat.zero_le _) (by omega) trivial
    · rintro s w hs _ hw
      unfold f8_L11
      rw [dlt hs]
      rw [cond_true]
      refine rival hl _ _ _ _ _ _ fun A hA => ?_
      rw [wi64_nat (by omega)]
      have hAl := hA.len
      have hA1 : 1 ≤ A.length := by
        rcases Nat.eq_zero_or_pos A.length with h0 | h0
        · have := List.eq_nil_of_length_eq_zero h0
          subst this
          have hA : 0 = l.length := hA
          omega
        · exact h0
      rw [f11_ok hl hA (by omega)]
      simp only [Option.bind_some]
      rw [len_eq (ends l A), ends_len]
      by_cases hc : A.length ≤ k
      · rw [d_true (show (A.length : Int) ≤ (k : Int) by omega)]
        simp only [cond_true]
        obtain ⟨f1, f2⟩ := hB.grps.few hA hA1 hc
        rw [d_false (show ¬ chainC (grp l) 0 A < dp (grp l) (k - 1) l.length by omega)]
        simp only [cond_false]
        by_cases heq : chainC (grp l) 0 A = dp (grp l) (k - 1) l.length
        · rw [d_true heq]
          simp only [cond_true]
          have f3 := f2 heq
          rw [len_eq, ends_len, c2, d_false (show ¬ (A.length : Int) < (g : Int) by omega)]
          simp only [cond_false]
          by_cases hlg : A.length = g
          · rw [d_true (show (A.length : Int) = (g : Int) by omega)]
            simp only [cond_true]
            have hcmp := f29_ok hl (A := A) (G := G) (fun i hi => hA.bnd i hi) (fun i hi => c1.bnd i hi) (by omega) (by omega) fun x hx1 hx2 =>
              hB.greedy.first hl hA hlg (by omega) x (by omega) hx2
            obtain ⟨q, q1, q2⟩ := hcmp
            rw [q1]
            simp only [Option.bind_some]
            rw [d_false (show ¬ q < 0 by omega)]
            simp only [Option.bind_some, cond_false]
            exact hw trivial
          · rw [d_false (show ¬ (A.length : Int) = (g : Int) by omega)]
            simp only [cond_false, Option.bind_some]
            exact hw trivial
        · rw [d_false heq]
          simp only [cond_false, Option.bind_some]
          exact hw trivial
      · rw [d_false (show ¬ (A.length : Int) ≤ (k : Int) by omega)]
        simp only [cond_false, Option.bind_some]
        exact hw trivial
    · rintro w _
      simp only [f8_L11]
      rw [dnlt]
      exact Yld.ret rfl
end Go.Kz
