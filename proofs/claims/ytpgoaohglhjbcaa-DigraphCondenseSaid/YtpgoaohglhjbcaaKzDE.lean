/-
  Layer 06, plain: the condensed graph; law 12.
-/
import Derived.Test.YtpgoaohglhjbcaaKzDA
import Derived.Test.YtpgoaohglhjbcaaKzDC
set_option linter.unusedVariables false
set_option linter.unusedSimpArgs false
namespace Go.Kz

noncomputable def nm (n : Nat) (E : List (Nat × Nat)) (x : Nat) : Nat := (nmb (mB E) n).1.getD x 0
theorem nmb_new_some {M : Nat → Nat → Bool} {t u : Nat} (h : (List.range t).find? (M t) = some u) : (nmb M (t + 1)).1.getD t 0 = (nmb M t).1.getD u 0 ∧ (nmb M (t + 1)).2 = (nmb M t).2 := by
  have hnk : nmb M (t + 1) = ((nmb M t).1 ++ [(nmb M t).1.getD u 0], (nmb M t).2) := by simp only [nmb, h]
  rw [hnk]
  have := getD_snoc (nmb M t).1 ((nmb M t).1.getD u 0)
  rw [nmb_len] at this
  exact ⟨this, rfl⟩
theorem nmb_new_none {M : Nat → Nat → Bool} {t : Nat} (h : (List.range t).find? (M t) = none) : (nmb M (t + 1)).1.getD t 0 = (nmb M t).2 ∧ (nmb M (t + 1)).2 = (nmb M t).2 + 1 := by
  have hnk : nmb M (t + 1) = ((nmb M t).1 ++ [(nmb M t).2], (nmb M t).2 + 1) := by simp only [nmb, h]
  rw [hnk]
  have := getD_snoc (nmb M t).1 (nmb M t).2
  rw [nmb_len] at this
  exact ⟨this, rfl⟩
theorem nmb_val (M : Nat → Nat → Bool) : ∀ t x, x < t → (nmb M t).1.getD x 0 < (nmb M t).2
  | 0, x, h => by omega
  | t + 1, x, h => by
    have ih := nmb_val M t
    cases hf : (List.range t).find? (M t) with
    | some u =>
      obtain ⟨h1, h2⟩ := nmb_new_some hf
      have hu := List.mem_range.1 (List.mem_of_find?_eq_some hf)
      by_cases e : x = t
      · subst e; rw [h1, h2]; exact ih u hu
      · rw [nmb_old M t (by omega), h2]; exact ih x (by omega)
    | none =>
      obtain ⟨h1, h2⟩ := nmb_new_none hf
      by_cases e : x = t
      · subst e; rw [h1, h2]; omega
      · rw [nmb_old M t (by omega), h2]; have := ih x (by omega); omega
theorem nmb_iff (E : List (Nat × Nat)) : ∀ t x y, x < t → y < t → ((nmb (mB E) t).1.getD x 0 = (nmb (mB E) t).1.getD y 0 ↔ Mut E x y)
  | 0, x, y, h, _ => by omega
  | t + 1, x, y, hx, hy => by
    have ih := nmb_iff E t
    have hre : Mut E t t := ⟨Re.refl E t, Re.refl E t⟩
    cases hf : (List.range t).find? (mB E t) with
    | some u =>
      obtain ⟨h1, h2⟩ := nmb_new_some hf
      have hu := List.mem_range.1 (List.mem_of_find?_eq_some hf)
      have hm := mB_iff.1 (List.find?_some hf)
      by_cases e : x = t
      · by_cases e2 : y = t
        · subst e e2; exact ⟨fun _ => hre, fun _ => rfl⟩
        · subst e
          rw [h1, nmb_old _ _ (by omega : y < x), ih u y hu (by omega)]
          exact ⟨fun h => hm.trans h, fun h => hm.symm.trans h⟩
      · by_cases e2 : y = t
        · subst e2
          rw [h1, nmb_old _ _ (by omega : x < y), ih x u (by omega) hu]
          exact ⟨fun h => h.trans hm.symm, fun h => h.trans hm⟩
        · rw [nmb_old _ _ (by omega : x < t), nmb_old _ _ (by omega : y < t)]
          exact ih x y (by omega) (by omega)
    | none =>
      obtain ⟨h1, h2⟩ := nmb_new_none hf
      have hno : ∀ z, z < t → ¬ Mut E t z := fun z hz h => List.find?_eq_none.1 hf z (List.mem_range.2 hz) (mB_iff.2 h)
      by_cases e : x = t
      · by_cases e2 : y = t
        · subst e e2; exact ⟨fun _ => hre, fun _ => rfl⟩
        · subst e
          rw [h1, nmb_old _ _ (by omega : y < x)]
          have := nmb_val (mB E) x y (by omega)
          exact ⟨fun h => by omega, fun h => absurd h (hno y (by omega))⟩
      · by_cases e2 : y = t
        · subst e2
          rw [h1, nmb_old _ _ (by omega : x < y)]
          have := nmb_val (mB E) y x (by omega)
          exact ⟨fun h => by omega, fun h => absurd h.symm (hno x (by omega))⟩
        · rw [nmb_old _ _ (by omega : x < t), nmb_old _ _ (by omega : y < t)]
          exact ih x y (by omega) (by omega)
theorem nm_get {n : Nat} {E : List (Nat × Nat)} {x : Nat} (hx : x < n) : (il (nmb (mB E) n).1)[x]? = some ((nm n E x : Nat) : Int) := by
  have hl := nmb_len (mB E) n
  have hx' : x < (nmb (mB E) n).1.length := by omega
  rw [il_get hx']
  unfold nm
  rw [List.getD_eq_getElem?_getD, List.getElem?_eq_getElem hx']
  rfl
theorem nm_iff {n : Nat} {E : List (Nat × Nat)} {x y : Nat} (hx : x < n) (hy : y < n) : nm n E x = nm n E y ↔ Mut E x y := nmb_iff E n x y hx hy

/-- The edges between the components. -/
noncomputable def cE (n : Nat) (E L : List (Nat × Nat)) : List (Nat × Nat) := (L.filter fun e => !(decide (nm n E e.1 = nm n E e.2))).map fun e => (nm n E e.1, nm n E e.2)
theorem mem_cE {n : Nat} {E L : List (Nat × Nat)} {p q : Nat} : (p, q) ∈ cE n E L ↔ ∃ u v, (u, v) ∈ L ∧ nm n E u ≠ nm n E v ∧ p = nm n E u ∧ q = nm n E v := by
  unfold cE
  rw [List.mem_map]
  constructor
  · rintro ⟨⟨u, v⟩, h1, h2⟩
    obtain ⟨h3, h4⟩ := List.mem_filter.1 h1
    simp only [Prod.mk.injEq] at h2
    exact ⟨u, v, h3, by simpa using h4, h2.1.symm, h2.2.symm⟩
  · rintro ⟨u, v, h1, h2, rfl, rfl⟩
    exact ⟨(u, v), List.mem_filter.2 ⟨h1, by simpa using h2⟩, rfl⟩
theorem cE_len (n : Nat) (E L : List (Nat × Nat)) : (cE n E L).length ≤ L.length := by
  unfold cE
  rw [List.length_map]
  exact List.length_filter_le _ _
/-- How many components there are. -/
noncomputable def kc (n : Nat) (E : List (Nat × Nat)) : Nat → Nat
  | 0 => 0
  | k + 1 => max (kc n E k) (nm n E k + 1)
theorem kc_lt {n : Nat} {E : List (Nat × Nat)} : ∀ {k x : Nat}, x < k → nm n E x < kc n E k
  | 0, x, h => by omega
  | k + 1, x, h => by
    simp only [kc]
    by_cases e : x = k
    · subst e; omega
    · have := kc_lt (n := n) (E := E) (k := k) (x := x) (by omega); omega
theorem kc_le {n : Nat} {E : List (Nat × Nat)} : ∀ {k : Nat}, k ≤ n → kc n E k ≤ n
  | 0, h => Nat.zero_le _
  | k + 1, h => by
    simp only [kc]
    have h1 := kc_le (n := n) (E := E) (k := k) (by omega)
    have h2 : nm n E k < (nmb (mB E) n).2 := nmb_val (mB E) n k (by omega)
    have h3 := nmb_le (mB E) n
    omega
theorem cE_nod {n : Nat} {E : List (Nat × Nat)} (hN : Nod n E) : Nod (kc n E n) (cE n E E) := fun e he => by
  rw [← Prod.eta e] at he
  obtain ⟨u, v, h1, _, h2, h3⟩ := mem_cE.1 he
  rw [h2, h3]
  exact ⟨kc_lt (hN _ h1).1, kc_lt (hN _ h1).2⟩
theorem re_down {n : Nat} {E F : List (Nat × Nat)} (hF : ∀ e, e ∈ F ↔ e ∈ cE n E E) {a b : Nat} (h : Re E a b) : Re F (nm n E a) (nm n E b) := by
  obtain ⟨k, hk⟩ := h
  have key : ∀ k b, Lv E [a] k b → Re F (nm n E a) (nm n E b) := by
    intro k
    induction k with
    | zero => intro b hb; rw [List.mem_singleton.1 hb]; exact Re.refl F _
    | succ k ih =>
      rintro b (hb | ⟨u, hu, he⟩)
      · exact ih b hb
      · by_cases e : nm n E u = nm n E b
        · rw [← e]; exact ih u hu
        · exact (ih u hu).step ((hF _).2 (mem_cE.2 ⟨u, b, he, e, rfl, rfl⟩))
  exact key k b hk
theorem re_up {n : Nat} {E F : List (Nat × Nat)} (hN : Nod n E) (hF : ∀ e, e ∈ F ↔ e ∈ cE n E E) {a : Nat} (ha : a < n) {q : Nat} (h : Re F (nm n E a) q) : ∀ b, b < n → nm n E b = q → Re E a b := by
  obtain ⟨k, hk⟩ := h
  have key : ∀ k q, Lv F [nm n E a] k q → ∀ b, b < n → nm n E b = q → Re E a b := by
    intro k
    induction k with
    | zero =>
      intro q hq b hb hbq
      rw [List.mem_singleton.1 hq] at hbq
      exact ((nm_iff ha hb).1 hbq.symm).1
    | succ k ih =>
      rintro q (hq | ⟨p, hp, he⟩) b hb hbq
      · exact ih q hq b hb hbq
      · obtain ⟨u, v, h1, h2, h3, h4⟩ := mem_cE.1 ((hF _).1 he)
        have hu := ih p hp u (hN _ h1).1 h3.symm
        have hvb := (nm_iff (hN _ h1).2 hb).1 (by rw [← h4, hbq])
        exact (hu.step h1).trans hvb.1
  exact key k q hk
theorem cE_acyc {n : Nat} {E F : List (Nat × Nat)} (hN : Nod n E) (hF : ∀ e, e ∈ F ↔ e ∈ cE n E E) : cyc F = false := by
  unfold cyc
  rw [List.any_eq_false]
  intro e he hr
  rw [← Prod.eta e] at he
  obtain ⟨u, v, h1, h2, h3, h4⟩ := mem_cE.1 ((hF _).1 he)
  have hr' := rB_re.1 hr
  rw [h4] at hr'
  have := re_up hN hF (hN _ h1).2 hr' u (hN _ h1).1 h3.symm
  exact h2 ((nm_iff (hN _ h1).1 (hN _ h1).2).2 ⟨(Re.refl E u).step h1, this⟩)

theorem cE_snoc (n : Nat) (E L : List (Nat × Nat)) (e : Nat × Nat) : cE n E (L ++ [e]) = cE n E L ++ (if nm n E e.1 = nm n E e.2 then [] else [(nm n E e.1, nm n E e.2)]) := by
  unfold cE
  rw [List.filter_append, List.map_append]
  congr 1
  by_cases h : nm n E e.1 = nm n E e.2
  · simp [h]
  · simp [h]
theorem toL_app (A B : List (Nat × Nat)) : toL (A ++ B) = toL A ++ toL B := by simp [toL]
theorem f37_eq {n : Nat} {E : List (Nat × Nat)} (hN : Nod n E) (hn : n ≤ 10) (hl : E.length ≤ 100) : f37 5000 (grOf n E) = some (grOf (kc n E n) (smp (kc n E n) (cE n E E)), 0) := by
  refine Yld.eq ?_
  unfold f37
  rw [f34_0 hN hn hl, Option.bind_some, d_true rfl, Bool.not_true, cond_false, f49_eq hN hn hl, Option.bind_some]
  have hll := nmb_len (mB E) n
  refine Yld.up (fun k (o : Int) => o = (kc n E k : Int)) n ?_ ?_ 5000 0 (Nat.zero_le _) (by omega) _ rfl
  · rintro k o w hk rfl hw
    simp only [f37_L7]
    have h2 : nm n E k < kc n E n := kc_lt hk
    have h3 := kc_le (n := n) (E := E) (Nat.le_refl n)
    rw [d_true (show (k : Int) < len (il (nmb (mB E) n).1) by rw [len_eq, il_len]; omega), wi64_nat (show k < 9223372036854775807 by omega), cond_true, chk_true (inb_some (nm_get hk)), idx_some' (nm_get hk), Option.bind_some, wi64_nat (by omega)]
    refine hw _ ?_
    simp only [kc, maxI]
    split <;> omega
  rintro o w rfl
  simp only [f37_L7]
  rw [d_false (show ¬ (n : Int) < len (il (nmb (mB E) n).1) by rw [len_eq, il_len]; omega), cond_false]
  refine Yld.up (fun k (o : List (List Int)) => o = toL (cE n E (E.take k))) E.length ?_ ?_ 5000 0 (Nat.zero_le _) (by omega) _ rfl
  · rintro k o w hk rfl hw
    simp only [f37_L13]
    rw [d_true (show (k : Int) < len (grOf n E).2.1 by rw [len_eq]; simp only [grOf, toL_len]; omega), wi64_nat (by omega), cond_true]
    have hmem := List.getElem_mem hk
    have htk := take_succ hk
    rw [show idx (grOf n E).2.1 (k : Int) = some [(E[k].1 : Int), (E[k].2 : Int)] from toL_get hk]
    generalize he : E[k] = e at hmem htk
    have hen := hN e hmem
    rw [Option.bind_some, chk_true (show inb [(e.1 : Int), (e.2 : Int)] 0 = true from rfl), show idx [(e.1 : Int), (e.2 : Int)] 0 = some (e.1 : Int) from rfl, Option.bind_some, chk_true (inb_some (nm_get hen.1)), idx_some' (nm_get hen.1), Option.bind_some, chk_true (show inb [(e.1 : Int), (e.2 : Int)] 1 = true from rfl), show idx [(e.1 : Int), (e.2 : Int)] 1 = some (e.2 : Int) from rfl, Option.bind_some, chk_true (inb_some (nm_get hen.2)), idx_some' (nm_get hen.2), Option.bind_some]
    have hcl := cE_len n E (E.take k)
    rw [List.length_take] at hcl
    by_cases heq : nm n E e.1 = nm n E e.2
    · rw [d_true (show ((nm n E e.1 : Nat) : Int) = ((nm n E e.2 : Nat) : Int) by rw [heq]), Bool.not_true, cond_false]
      refine hw _ ?_
      rw [htk, cE_snoc, if_pos heq, List.append_nil]
    · rw [d_false (show ¬ ((nm n E e.1 : Nat) : Int) = ((nm n E e.2 : Nat) : Int) by omega), Bool.not_false, cond_true, ck0 (by rw [toL_len]; omega)]
      refine hw _ ?_
      rw [htk, cE_snoc, if_neg heq, toL_app]
      rfl
  · rintro o w rfl
    simp only [f37_L13]
    rw [d_false (show ¬ (E.length : Int) < len (grOf n E).2.1 by rw [len_eq]; simp only [grOf, toL_len]; omega), cond_false, List.take_length]
    rw [f50_eq (cE_nod hN) (Nat.le_trans (kc_le (Nat.le_refl n)) hn) (Nat.le_trans (cE_len n E E) hl), Option.bind_some]
    exact Yld.ret rfl
theorem f38_eq {n : Nat} {E : List (Nat × Nat)} (hN : Nod n E) (hn : n ≤ 10) (hl : E.length ≤ 100) : f38 5000 (grOf n E) = some (grOf (kc n E n) (smp (kc n E n) (cE n E E)), 0) := by
  refine Yld.eq ?_
  unfold f38
  rw [f21_eq hN hn hl, Option.bind_some, d_true rfl, Bool.not_true, cond_false]
  have hll := nmb_len (mB E) n
  refine Yld.up (fun k (o : Int) => o = (kc n E k : Int)) n ?_ ?_ 5000 0 (Nat.zero_le _) (by omega) _ rfl
  · rintro k o w hk rfl hw
    simp only [f38_L6]
    have h2 : nm n E k < kc n E n := kc_lt hk
    have h3 := kc_le (n := n) (E := E) (Nat.le_refl n)
    rw [d_true (show (k : Int) < len (il (nmb (mB E) n).1) by rw [len_eq, il_len]; omega), wi64_nat (show k < 9223372036854775807 by omega), cond_true, chk_true (inb_some (nm_get hk)), idx_some' (nm_get hk), Option.bind_some]
    refine Yld.cond (fun hc => ?_) fun hc => ?_
    · rw [decide_eq_true_eq] at hc
      rw [chk_true (inb_some (nm_get hk)), Option.bind_some, wi64_nat (by omega)]
      refine hw _ ?_
      simp only [kc]; omega
    · rw [decide_eq_false_iff_not] at hc
      refine hw _ ?_
      simp only [kc]; omega
  rintro o w rfl
  simp only [f38_L6]
  rw [d_false (show ¬ (n : Int) < len (il (nmb (mB E) n).1) by rw [len_eq, il_len]; omega), cond_false]
  refine Yld.up (fun k (o : List (List Int)) => o = toL (cE n E (E.take k))) E.length ?_ ?_ 5000 0 (Nat.zero_le _) (by omega) _ rfl
  · rintro k o w hk rfl hw
    simp only [f38_L11]
    rw [d_true (show (k : Int) < len (grOf n E).2.1 by rw [len_eq]; simp only [grOf, toL_len]; omega), wi64_nat (by omega), cond_true]
    have hmem := List.getElem_mem hk
    have htk := take_succ hk
    rw [show idx (grOf n E).2.1 (k : Int) = some [(E[k].1 : Int), (E[k].2 : Int)] from toL_get hk]
    generalize he : E[k] = e at hmem htk
    have hen := hN e hmem
    rw [Option.bind_some, show idx [(e.1 : Int), (e.2 : Int)] 0 = some (e.1 : Int) from rfl, Option.bind_some, chk_true (inb_some (nm_get hen.1)), idx_some' (nm_get hen.1), Option.bind_some, Option.bind_some, show idx [(e.1 : Int), (e.2 : Int)] 1 = some (e.2 : Int) from rfl, Option.bind_some, chk_true (inb_some (nm_get hen.2)), idx_some' (nm_get hen.2), Option.bind_some]
    have hcl := cE_len n E (E.take k)
    rw [List.length_take] at hcl
    by_cases heq : nm n E e.1 = nm n E e.2
    · rw [d_true (show ((nm n E e.1 : Nat) : Int) = ((nm n E e.2 : Nat) : Int) by rw [heq]), Bool.not_true, cond_false]
      refine hw _ ?_
      rw [htk, cE_snoc, if_pos heq, List.append_nil]
    · rw [d_false (show ¬ ((nm n E e.1 : Nat) : Int) = ((nm n E e.2 : Nat) : Int) by omega), Bool.not_false, cond_true, ck0 (by rw [toL_len]; omega)]
      refine hw _ ?_
      rw [htk, cE_snoc, if_neg heq, toL_app]
      rfl
  · rintro o w rfl
    simp only [f38_L11]
    rw [d_false (show ¬ (E.length : Int) < len (grOf n E).2.1 by rw [len_eq]; simp only [grOf, toL_len]; omega), cond_false, List.take_length]
    rw [show ((kc n E n : Int), (toL (cE n E E), ())) = grOf (kc n E n) (cE n E E) from rfl, f25_eq (cE_nod hN) (Nat.le_trans (kc_le (Nat.le_refl n)) hn) (Nat.le_trans (cE_len n E E) hl), Option.bind_some]
    exact Yld.ret rfl

theorem law12 (g : Gr) (hf : Ty.fits (.pair (.int .i64) (.pair (.sl false (.arr 2 (.int .i64))) .unit)) g) : f12 5000 g = some true := by
  have hF : Fits g := fun e he => (hf.2.1 e he).1
  refine Yld.eq ?_
  unfold f12
  rw [known06, Option.bind_some, Bool.not_true, cond_false]
  rcases few_cases g hF with h0 | ⟨h0, h1, h2, h3⟩
  · rw [h0]; exact Yld.ret rfl
  rw [h0, Option.bind_some, Bool.not_true, cond_false]
  rcases h3 with hc | ⟨hc, n, E, hs⟩
  · have a1 : f37 5000 g = some (grOf 0 [], chkS g) := by
      unfold f37
      rw [h1, Option.bind_some, d_false hc]; rfl
    have a2 : f38 5000 g = some (grOf 0 [], chkS g) := by
      unfold f38
      rw [(bad20 h1 h2 hc).2, Option.bind_some, d_false hc]; rfl
    rw [a1, a2, Option.bind_some, Option.bind_some, d_true rfl, Bool.not_true, cond_false]
    rw [show (((grOf 0 [], chkS g) : Gr × Int).1.1, ((grOf 0 [], chkS g) : Gr × Int).1.2) = grOf 0 [] from rfl, f28_self (grOf 0 []) [] rfl (by simp), Option.bind_some, Bool.not_true, Option.bind_some, cond_false, d_false hc]
    exact Yld.ret rfl
  obtain ⟨rfl, hN, h10, h40⟩ := hs
  have hl : E.length ≤ 100 := by omega
  have hK : kc n E n ≤ 10 := Nat.le_trans (kc_le (Nat.le_refl n)) h10
  have hCN := cE_nod hN
  rw [f37_eq hN h10 hl, f38_eq hN h10 hl, Option.bind_some, Option.bind_some, d_true rfl, Bool.not_true, cond_false]
  generalize hKd : kc n E n = K at hK hCN
  have hFm : ∀ e, e ∈ smp K (cE n E E) ↔ e ∈ cE n E E := fun e => mem_smp hCN
  have hFN := smp_nod hCN
  have hFl := smp_len hK (cE n E E)
  generalize hFd : smp K (cE n E E) = F at hFm hFN hFl
  rw [show (((grOf K F, (0 : Int)) : Gr × Int).1.1, ((grOf K F, (0 : Int)) : Gr × Int).1.2) = grOf K F from rfl, f28_self (grOf K F) F rfl hFl, Option.bind_some, Bool.not_true, Option.bind_some, cond_false]
  first | rw [d_true rfl, Bool.not_true] | skip
  rw [cond_false]
  refine Yld.then (f18_ok hFN hK hFl) ?_
  rintro r ⟨fin, hg, hnone, rfl⟩
  have hfin : ¬ fin.length < K := fun h => by
    have := cyc_yes hFN hnone h
    rw [cE_acyc hN hFm] at this
    cases this
  have hord : ordS K fin = (il fin, 0) := by unfold ordS; rw [if_neg hfin]
  rw [hord, f21_eq hN h10 hl, Option.bind_some, f32_eq hN h10 hl, Option.bind_some, f31_eq hFN hK hFl, Option.bind_some, d_true rfl, Bool.not_true, cond_false, Option.bind_some, cond_false, d_true (show len (clo K F) = (grOf K F).1 by rw [len_eq, clo_len]; rfl), Bool.not_true, Option.bind_some, cond_false]
  have hll := nmb_len (mB E) n
  have hnK : ∀ x, x < n → nm n E x < K := fun x hx => by rw [← hKd]; exact kc_lt hx
  refine Yld.upI (fun _ => True) n ?_ ?_ 5000 0 (Nat.zero_le _) (by omega) trivial
  · rintro t w ht _ hw
    simp only [f12_L18]
    rw [d_true (show (t : Int) < len (il (nmb (mB E) n).1) by rw [len_eq, il_len]; omega), wi64_nat (by omega), cond_true, chk_true (inb_some (nm_get ht)), idx_some' (nm_get ht), Option.bind_some, idx_some' (clo_get (hnK t ht)), Option.bind_some, d_true (show len (rch K F [nm n E t]) = (grOf K F).1 by rw [len_eq, rch_len]; rfl), Bool.not_true, cond_false]
    refine Yld.upI (fun _ => True) n ?_ ?_ 5000 0 (Nat.zero_le _) (by omega) trivial
    · rintro s w2 hs _ hw2
      simp only [f12_L23]
      rw [d_true (show (s : Int) < len (il (nmb (mB E) n).1) by rw [len_eq, il_len]; omega), wi64_nat (by omega), cond_true, idx_some' (clo_get ht), Option.bind_some, show idx (rch n E [t]) (s : Int) = some (rB E [t] s) from map_range_get _ hs, Option.bind_some, chk_true (inb_some (nm_get ht)), idx_some' (nm_get ht), Option.bind_some, idx_some' (clo_get (hnK t ht)), Option.bind_some, chk_true (inb_some (nm_get hs)), idx_some' (nm_get hs), Option.bind_some,
        show idx (rch K F [nm n E t]) ((nm n E s : Nat) : Int) = some (rB F [nm n E t] (nm n E s)) from map_range_get _ (hnK s hs), Option.bind_some]
      have : rB E [t] s = rB F [nm n E t] (nm n E s) := by
        rw [Bool.eq_iff_iff, rB_re, rB_re]
        exact ⟨fun h => re_down hFm h, fun h => re_up hN hFm ht h s hs rfl⟩
      rw [d_true this]
      exact hw2 trivial
    · rintro w2 _
      simp only [f12_L23]
      rw [d_false (show ¬ (n : Int) < len (il (nmb (mB E) n).1) by rw [len_eq, il_len]; omega), cond_false]
      exact hw trivial
  · rintro w _
    simp only [f12_L18]
    rw [d_false (show ¬ (n : Int) < len (il (nmb (mB E) n).1) by rw [len_eq, il_len]; omega)]
    exact Yld.ret rfl
end Go.Kz
