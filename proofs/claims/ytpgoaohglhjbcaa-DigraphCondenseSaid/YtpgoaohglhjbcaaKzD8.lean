/-
  Layer 06, plain: the heap.
-/
import Derived.Test.YtpgoaohglhjbcaaKzD4
set_option linter.unusedVariables false
set_option linter.unusedSimpArgs false
namespace Go.Kz

def par (k : Nat) : Nat := (k - 1) / 2
def Heap (m : Nat) (D : Nat → Int) : Prop := ∀ k, 0 < k → k < m → D (par k) ≤ D k
/-- The numbers in the first m places are those of P, each once. -/
structure Bag (m : Nat) (D : Nat → Int) (P : Int → Prop) : Prop where
  mem : ∀ v, (∃ k, k < m ∧ D k = v) ↔ P v
  inj : ∀ k l, k < m → l < m → D k = D l → k = l
def swp (D : Nat → Int) (i j : Nat) : Nat → Int := upF (upF D i (D j)) j (D i)
theorem swp_l (D : Nat → Int) (i j : Nat) : swp D i j i = D j := by
  unfold swp
  by_cases h : i = j
  · subst h; rw [upF_self]
  · rw [upF_ne _ _ h, upF_self]
theorem swp_r (D : Nat → Int) (i j : Nat) : swp D i j j = D i := by unfold swp; rw [upF_self]
theorem swp_ne (D : Nat → Int) {i j x : Nat} (h1 : x ≠ i) (h2 : x ≠ j) : swp D i j x = D x := by unfold swp; rw [upF_ne _ _ h2, upF_ne _ _ h1]
def sgm (i j x : Nat) : Nat := if x = i then j else if x = j then i else x
theorem swp_sgm (D : Nat → Int) (i j x : Nat) : swp D i j x = D (sgm i j x) := by
  unfold sgm
  by_cases h1 : x = i
  · subst h1; rw [if_pos rfl, swp_l]
  · rw [if_neg h1]
    by_cases h2 : x = j
    · subst h2; rw [if_pos rfl, swp_r]
    · rw [if_neg h2, swp_ne D h1 h2]
theorem sgm_sgm (i j x : Nat) : sgm i j (sgm i j x) = x := by
  unfold sgm
  repeat' split
  all_goals omega
theorem sgm_lt {m i j x : Nat} (hi : i < m) (hj : j < m) (hx : x < m) : sgm i j x < m := by
  unfold sgm
  repeat' split
  all_goals omega
theorem Bag.swap {m : Nat} {D : Nat → Int} {P : Int → Prop} (h : Bag m D P) {i j : Nat} (hi : i < m) (hj : j < m) : Bag m (swp D i j) P := by
  refine ⟨fun v => ?_, fun k l hk hl he => ?_⟩
  · rw [← h.mem v]
    constructor
    · rintro ⟨k, hk, rfl⟩
      exact ⟨sgm i j k, sgm_lt hi hj hk, (swp_sgm D i j k).symm⟩
    · rintro ⟨k, hk, rfl⟩
      exact ⟨sgm i j k, sgm_lt hi hj hk, by rw [swp_sgm, sgm_sgm]⟩
  · rw [swp_sgm, swp_sgm] at he
    have := h.inj _ _ (sgm_lt hi hj hk) (sgm_lt hi hj hl) he
    have h2 := congrArg (sgm i j) this
    rwa [sgm_sgm, sgm_sgm] at h2
theorem Bag.push {m : Nat} {D : Nat → Int} {P : Int → Prop} (h : Bag m D P) {c : Int} (hc : ¬ P c) : Bag (m + 1) (upF D m c) (fun v => P v ∨ v = c) := by
  have hne : ∀ k, k < m → upF D m c k = D k := fun k hk => upF_ne D _ (by omega)
  refine ⟨fun v => ?_, fun k l hk hl e => ?_⟩
  · constructor
    · rintro ⟨k, hk, rfl⟩
      by_cases e : k = m
      · subst e; right; exact upF_self _ _ _
      · left; rw [hne k (by omega)]; exact (h.mem _).1 ⟨k, by omega, rfl⟩
    · rintro (hp | rfl)
      · obtain ⟨k, hk, rfl⟩ := (h.mem v).2 hp
        exact ⟨k, by omega, hne k hk⟩
      · exact ⟨m, by omega, upF_self _ _ _⟩
  · by_cases e1 : k = m
    · by_cases e2 : l = m
      · omega
      · subst e1
        rw [upF_self, hne l (by omega)] at e
        exact absurd ((h.mem c).1 ⟨l, by omega, e.symm⟩) hc
    · by_cases e2 : l = m
      · subst e2
        rw [upF_self, hne k (by omega)] at e
        exact absurd ((h.mem c).1 ⟨k, by omega, e⟩) hc
      · rw [hne k (by omega), hne l (by omega)] at e
        exact h.inj k l (by omega) (by omega) e
theorem Bag.pop {m : Nat} {D : Nat → Int} {P : Int → Prop} (h : Bag (m + 1) D P) : Bag m D (fun v => P v ∧ v ≠ D m) := by
  refine ⟨fun v => ?_, fun k l hk hl e => h.inj k l (by omega) (by omega) e⟩
  constructor
  · rintro ⟨k, hk, rfl⟩
    exact ⟨(h.mem _).1 ⟨k, by omega, rfl⟩, fun e => by have := h.inj k m (by omega) (by omega) e; omega⟩
  · rintro ⟨hp, hne⟩
    obtain ⟨k, hk, rfl⟩ := (h.mem v).2 hp
    exact ⟨k, by have : k ≠ m := fun e => hne (by rw [e]); omega, rfl⟩
theorem Bag.iff {m : Nat} {D : Nat → Int} {P Q : Int → Prop} (h : Bag m D P) (hq : ∀ v, P v ↔ Q v) : Bag m D Q := ⟨fun v => (h.mem v).trans (hq v), h.inj⟩
theorem Heap.min {m : Nat} {D : Nat → Int} (h : Heap m D) : ∀ k, k < m → D 0 ≤ D k := by
  intro k
  induction k using Nat.strongRecOn with
  | _ k ih =>
    intro hk
    by_cases e : k = 0
    · subst e; exact Int.le_refl _
    · have h1 := h k (by omega) hk
      have h2 := ih (par k) (by unfold par; omega) (by unfold par; omega)
      omega

theorem f99_eq {m : Nat} (D : Nat → Int) {i j : Nat} (hi : i < m) (hj : j < m) : f99 5000 (i : Int) (j : Int) (dl m D) = some (((), ()), (dl m (swp D i j), ())) := by
  unfold f99
  rw [chk_true (inb_some (dl_get D hj)), idx_some' (dl_get D hj), Option.bind_some, chk_true (inb_some (dl_get D hi)), idx_some' (dl_get D hi), Option.bind_some, chk_true (inb_some (dl_get D hi)), Option.bind_some, Option.bind_some, dl_set]
  rw [chk_true (inb_some (dl_get _ hj)), idx_some' (dl_get _ hj), Option.bind_some, Option.bind_some, dl_set]
  rfl
theorem f96_eq {m : Nat} (D : Nat → Int) {i j : Nat} (hi : i < m) (hj : j < m) : f96 5000 (dl m D) (i : Int) (j : Int) = some (decide (D i < D j)) := by
  unfold f96
  rw [idx_some' (dl_get D hi), Option.bind_some, idx_some' (dl_get D hj), Option.bind_some]
theorem f98_eq {m : Nat} (hm : m ≤ 100) (D : Nat → Int) (c : Int) : f98 5000 c (dl m D) = some (((), ()), ((), (dl (m + 1) (upF D m c), ()))) := by
  unfold f98
  rw [ck0 (by rw [dl_len]; omega)]
  have : dl m D ++ (c :: []) = dl (m + 1) (upF D m c) := by
    unfold dl
    rw [List.range_succ, List.map_append, List.map_singleton, upF_self]
    congr 1
    exact List.map_congr_left fun x hx => (upF_ne D _ (by have := List.mem_range.1 hx; omega)).symm
  rw [this]
theorem par_int {j : Nat} (hj : j ≤ 1000) : wi64 (Int.tdiv (wi64 ((j : Int) - 1)) 2) = (par j : Int) := by
  rw [wi64_of (n := (j : Int) - 1) (by omega) (by omega)]
  unfold par
  by_cases h : j = 0
  · subst h; rfl
  · obtain ⟨k, rfl⟩ : ∃ k, j = k + 1 := ⟨j - 1, by omega⟩
    rw [show ((k + 1 : Nat) : Int) - 1 = (k : Int) from by omega, show Int.tdiv (k : Int) 2 = ((k / 2 : Nat) : Int) from rfl, wi64_of (by omega) (by omega), Nat.add_sub_cancel]
structure UpI (m : Nat) (D : Nat → Int) (j : Nat) : Prop where
  lt : j < m
  ord : ∀ k, 0 < k → k < m → k ≠ j → D (par k) ≤ D k
  kid : ∀ k, 0 < k → k < m → par k = j → 0 < j → D (par j) ≤ D k
theorem f54_ok {m : Nat} (hm : m ≤ 100) {D : Nat → Int} {P : Int → Prop} {j : Nat} (h : UpI m D j) (hb : Bag m D P) : Yld (f54 5000 (j : Int) (dl m D)) fun r => ∃ D', r = (((), ()), ((), (dl m D', ()))) ∧ Heap m D' ∧ Bag m D' P := by
  unfold f54
  refine Yld.iter (fun s => ∃ (j : Nat) (D : Nat → Int), s = ((j : Int), dl m D) ∧ UpI m D j ∧ Bag m D P) (fun s => s.1.toNat) ?_ 5000 _ ⟨j, D, rfl, h, hb⟩ (by have := h.lt; simp only [Int.toNat_natCast]; omega)
  rintro s w ⟨j, D, rfl, h, hb⟩ hw
  simp only [f54_L0]
  have hj := h.lt
  have hp : par j < m := by unfold par; omega
  rw [par_int (by omega), f96_eq D hj hp, Option.bind_some, bindc]
  refine Yld.cond (fun hc => Yld.ret ⟨D, rfl, fun k hk hkm => ?_, hb⟩) fun hc => ?_
  · simp only [Bool.or_eq_true, decide_eq_true_eq, Bool.not_eq_true', decide_eq_false_iff_not] at hc
    by_cases e : k = j
    · subst e
      rcases hc with hc | hc
      · unfold par at hc; omega
      · omega
    · exact h.ord k hk hkm e
  · simp only [Bool.or_eq_false_iff, decide_eq_false_iff_not, Bool.not_eq_false', decide_eq_true_eq] at hc
    rw [f99_eq D hp hj, Option.bind_some]
    have hj0 : 0 < j := by
      rcases Nat.eq_zero_or_pos j with e | e
      · subst e; exact absurd rfl hc.1
      · exact e
    have hpj : par j < j := by unfold par; omega
    refine hw (_, _) ⟨par j, _, rfl, ⟨hp, fun k hk hkm hne => ?_, fun k hk hkm hpk h0 => ?_⟩, hb.swap hp hj⟩ (by simp only [Int.toNat_natCast]; exact hpj)
    · by_cases e : k = j
      · subst e
        rw [swp_l, swp_r]; omega
      · rw [swp_ne D hne e]
        by_cases e2 : par k = par j
        · rw [e2, swp_l]
          have := h.ord k hk hkm e
          rw [e2] at this
          omega
        · by_cases e3 : par k = j
          · rw [e3, swp_r]
            exact h.kid k hk hkm e3 hj0
          · rw [swp_ne D e2 e3]
            exact h.ord k hk hkm e
    · have hpp : par (par j) < par j := by unfold par at *; omega
      have h1 := h.ord (par j) h0 hp (by omega)
      rw [swp_ne D (by omega) (by omega)]
      by_cases e : k = j
      · subst e; rw [swp_r]; exact h1
      · have hkp : k ≠ par j := fun e' => by rw [e'] at hpk; omega
        rw [swp_ne D hkp e]
        have := h.ord k hk hkm e
        rw [hpk] at this
        omega
theorem f46_ok {m : Nat} (hm : m ≤ 50) {D : Nat → Int} {P : Int → Prop} (h : Heap m D) (hb : Bag m D P) {c : Int} (hc : ¬ P c) : Yld (f46 5000 c (dl m D)) fun r => ∃ D', r = (((), ()), ((), (dl (m + 1) D', ()))) ∧ Heap (m + 1) D' ∧ Bag (m + 1) D' (fun v => P v ∨ v = c) := by
  unfold f46
  rw [f98_eq (by omega), Option.bind_some]
  unfold f47
  rw [Option.bind_some]
  rw [show wi64 (len (dl (m + 1) (upF D m c)) - 1) = (m : Int) from by rw [len_eq, dl_len, wi64_of (by omega) (by omega)]; omega]
  refine Yld.then (f54_ok (P := fun v => P v ∨ v = c) (by omega) ⟨by omega, fun k hk hkm hne => ?_, fun k hk hkm hpk h0 => ?_⟩ (hb.push hc)) ?_
  · rw [upF_ne D _ (by unfold par; omega), upF_ne D _ hne]
    exact h k hk (by omega)
  · unfold par at hpk; omega
  · rintro r ⟨D', rfl, h1, h2⟩
    exact Yld.ret ⟨D', rfl, h1, h2⟩

structure DnI (b : Nat) (D : Nat → Int) (i : Nat) : Prop where
  ord : ∀ k, 0 < k → k < b → par k ≠ i → D (par k) ≤ D k
  kid : ∀ k, 0 < k → k < b → par k = i → 0 < i → D (par i) ≤ D k
theorem DnI.swap {b : Nat} {D : Nat → Int} {i j : Nat} (h : DnI b D i) (hj : j < b) (hp : par j = i) (hj0 : 0 < j) (hs : ∀ k, 0 < k → k < b → par k = i → D j ≤ D k) (hlt : D j < D i) : DnI b (swp D i j) j := by
  have hij : i < j := by rw [← hp]; unfold par; omega
  refine ⟨fun k hk hkb hne => ?_, fun k hk hkb hpk h0 => ?_⟩
  · by_cases e : par k = i
    · rw [e, swp_l]
      by_cases e2 : k = j
      · subst e2; rw [swp_r]; omega
      · have hki : k ≠ i := fun e' => by rw [e'] at e; unfold par at e; omega
        rw [swp_ne D hki e2]; exact hs k hk hkb e
    · rw [swp_ne D e hne]
      have hkj : k ≠ j := fun e' => by rw [e'] at e; exact e hp
      by_cases e2 : k = i
      · subst e2
        rw [swp_l]
        exact h.kid j hj0 hj hp hk
      · rw [swp_ne D e2 hkj]; exact h.ord k hk hkb e
  · rw [hp, swp_l]
    have hjk : j < k := by rw [← hpk]; unfold par; omega
    rw [swp_ne D (by omega) (by omega)]
    have := h.ord k hk hkb (by rw [hpk]; omega)
    rwa [hpk] at this
theorem f55_ok {m b : Nat} (hm : m ≤ 100) (hbm : b ≤ m) {D : Nat → Int} {P : Int → Prop} (h : DnI b D 0) (hb : Bag m D P) : Yld (f55 5000 0 (b : Int) (dl m D)) fun r => ∃ D', r.2.2.1 = dl m D' ∧ Heap b D' ∧ Bag m D' P ∧ ∀ x, b ≤ x → D' x = D x := by
  unfold f55
  refine Yld.iter (fun s => ∃ (i : Nat) (D1 : Nat → Int), s = ((i : Int), dl m D1) ∧ i ≤ m ∧ DnI b D1 i ∧ Bag m D1 P ∧ ∀ x, b ≤ x → D1 x = D x) (fun s => m - s.1.toNat) ?_ 5000 _ ⟨0, D, rfl, by omega, h, hb, fun _ _ => rfl⟩ (by simp only [Int.toNat_zero]; omega)
  rintro s w ⟨i, D1, rfl, him, h, hb, hrest⟩ hw
  simp only [f55_L2]
  rw [show wi64 ((wi64 (2 * (i : Int))) + 1) = ((2 * i + 1 : Nat) : Int) from by rw [wi64_of (n := 2 * (i : Int)) (by omega) (by omega), wi64_of (by omega) (by omega)]; omega, bindc]
  rw [show wi64 (((2 * i + 1 : Nat) : Int) + 1) = ((2 * i + 2 : Nat) : Int) from by rw [wi64_of (by omega) (by omega)]; omega]
  refine Yld.cond (fun hc => Yld.ret ⟨D1, rfl, fun k hk hkb => ?_, hb, hrest⟩) fun hc => ?_
  · simp only [Bool.or_eq_true, decide_eq_true_eq] at hc
    exact h.ord k hk hkb (by unfold par; omega)
  · simp only [Bool.or_eq_false_iff, decide_eq_false_iff_not] at hc
    have hj1 : 2 * i + 1 < b := by omega
    have go : ∀ j : Nat, j < b → par j = i → 0 < j → (∀ k, 0 < k → k < b → par k = i → D1 j ≤ D1 k) → Yld ((f96 5000 (dl m D1) (j : Int) (i : Int)).bind fun r_1 => cond (!r_1) (some (((), ((decide ((0 : Int) < (i : Int))), ())), ((), (dl m D1, ())))) ((f99 5000 (i : Int) (j : Int) (dl m D1)).bind fun r_2 => w ((j : Int), r_2.2.1))) fun r => ∃ D', r.2.2.1 = dl m D' ∧ Heap b D' ∧ Bag m D' P ∧ ∀ x, b ≤ x → D' x = D x := by
      intro j hj hp hj0 hs
      rw [f96_eq D1 (by omega) (by omega), Option.bind_some]
      refine Yld.cond (fun hc => Yld.ret ⟨D1, rfl, fun k hk hkb => ?_, hb, hrest⟩) fun hc => ?_
      · simp only [Bool.not_eq_true', decide_eq_false_iff_not] at hc
        by_cases e : par k = i
        · have := hs k hk hkb e
          rw [e]; omega
        · exact h.ord k hk hkb e
      · simp only [Bool.not_eq_false', decide_eq_true_eq] at hc
        rw [f99_eq D1 (by omega) (by omega), Option.bind_some]
        have hij : i < j := by rw [← hp]; unfold par; omega
        refine hw (_, _) ⟨j, _, rfl, by omega, h.swap hj hp hj0 hs hc, hb.swap (by omega) (by omega), fun x hx => ?_⟩ (by simp only [Int.toNat_natCast]; omega)
        rw [swp_ne D1 (by omega) (by omega)]; exact hrest x hx
    by_cases h2 : 2 * i + 2 < b
    · rw [d_true (show ((2 * i + 2 : Nat) : Int) < (b : Int) by omega), cond_true, f96_eq D1 (by omega) (by omega), Option.bind_some, Option.bind_some]
      refine Yld.cond (fun hc2 => ?_) fun hc2 => ?_
      · rw [decide_eq_true_eq] at hc2
        refine go (2 * i + 2) h2 (by unfold par; omega) (by omega) fun k hk hkb hpk => ?_
        have : k = 2 * i + 1 ∨ k = 2 * i + 2 := by unfold par at hpk; omega
        rcases this with rfl | rfl <;> omega
      · rw [decide_eq_false_iff_not] at hc2
        refine go (2 * i + 1) hj1 (by unfold par; omega) (by omega) fun k hk hkb hpk => ?_
        have : k = 2 * i + 1 ∨ k = 2 * i + 2 := by unfold par at hpk; omega
        rcases this with rfl | rfl <;> omega
    · rw [d_false (show ¬ ((2 * i + 2 : Nat) : Int) < (b : Int) by omega), cond_false, Option.bind_some, cond_false]
      refine go (2 * i + 1) hj1 (by unfold par; omega) (by omega) fun k hk hkb hpk => ?_
      have : k = 2 * i + 1 := by unfold par at hpk; omega
      subst this; omega
theorem f48_ok {m : Nat} (hm : m ≤ 50) {D : Nat → Int} {P : Int → Prop} (h : Heap (m + 1) D) (hb : Bag (m + 1) D P) : Yld (f48 5000 (dl (m + 1) D)) fun r => r.1.2.1 = D 0 ∧ ∃ D', sub r.2.2.1 r.2.1.1 r.2.1.2 = dl m D' ∧ Heap m D' ∧ Bag m D' (fun v => P v ∧ v ≠ D 0) := by
  unfold f48 f47
  rw [Option.bind_some, show wi64 (len (dl (m + 1) D) - 1) = (m : Int) from by rw [len_eq, dl_len, wi64_of (by omega) (by omega)]; omega]
  rw [show (0 : Int) = ((0 : Nat) : Int) from rfl, f99_eq D (show 0 < m + 1 by omega) (show m < m + 1 by omega), Option.bind_some]
  refine Yld.then (f55_ok (b := m) (m := m + 1) (P := P) (by omega) (by omega) ⟨fun k hk hkm hne => ?_, fun k hk hkm hpk h0 => by omega⟩ (hb.swap (by omega) (by omega))) ?_
  · rw [swp_ne D hne (by unfold par; omega), swp_ne D (by omega) (by omega)]
    exact h k hk (by omega)
  · rintro ⟨r1, r2, r3, r4⟩ ⟨D', h0, h1, h2, h3⟩
    simp only at h0
    subst h0
    have hl : D' m = D 0 := by rw [h3 m (Nat.le_refl _), swp_r]
    unfold f97
    rw [show wi64 (len (dl (m + 1) D') - 1) = (m : Int) from by rw [len_eq, dl_len, wi64_of (by omega) (by omega)]; omega]
    rw [chk_true (inb_some (dl_get D' (show m < m + 1 by omega))), idx_some' (dl_get D' (show m < m + 1 by omega)), Option.bind_some, chk_true (by simp only [Bool.and_eq_true, decide_eq_true_eq, len_eq, dl_len]; omega), Option.bind_some]
    refine Yld.ret ⟨hl, D', ?_, h1, ?_⟩
    · unfold sub dl
      simp only [Int.toNat_zero, List.drop_zero, Nat.sub_zero, Int.toNat_natCast]
      rw [← List.map_take, List.take_range]
      rw [show min m (m + 1) = m from by omega]
    · have := h2.pop
      rwa [hl] at this
end Go.Kz
