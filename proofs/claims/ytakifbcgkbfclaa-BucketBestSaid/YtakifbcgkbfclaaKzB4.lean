/-
  Layer 44, plain: tidy loads; the law BucketMoves.
-/
import Derived.Test.YtakifbcgkbfclaaKzB3
set_option linter.unusedVariables false
set_option linter.unusedSimpArgs false
namespace Go.Kz

theorem bindc {α : Type} {R : Type} (b1 b2 : Bool) (f : Bool → Option R) : (cond b1 (some true) (some b2)).bind f = f (b1 || b2) := by
  cases b1 <;> rfl
theorem bindc' {R : Type} (b1 b2 : Bool) (f : Bool → Option R) : (cond b1 (some b2) (some false)).bind f = f (b1 && b2) := by
  cases b1 <;> rfl

theorem f12_load {l : List Tim} (h : Load l) : f12 5000 l = some 0 := by
  have hl := h.2.1
  have hne : 0 < l.length := by
    rcases Nat.eq_zero_or_pos l.length with h0 | h0
    · exact absurd (List.eq_nil_of_length_eq_zero h0) h.1
    · exact h0
  unfold f12
  rw [d_false (by rw [len_eq]; omega), d_false (by rw [len_eq]; omega)]
  simp only [cond_false]
  refine Yld.eq ?_
  refine Yld.upI (fun _ => True) l.length ?_ ?_ 5000 0 (Nat.zero_le _) (by omega) trivial
  · rintro k w hk _ hw
    simp only [f12_L6]
    rw [dlt_len hk, idx_lt hk]
    simp only [cond_true, Option.bind_some]
    obtain ⟨h1, h2, h3, h4⟩ := h.elt hk
    rw [d_false (show ¬ l[k].1 < 0 by omega), d_false (show ¬ 67108864 < l[k].1 by omega), d_false (show ¬ l[k].2.1 < 1 by omega), d_false (show ¬ 65536 < l[k].2.1 by omega)]
    simp only [cond_false, Option.bind_some]
    rw [wi64_nat (by omega)]
    by_cases h0 : 0 < k
    · rw [d_true (show (0 : Int) < (k : Int) by omega), wi64_pred h0 (by omega), idx_lt (show k - 1 < l.length by omega)]
      simp only [cond_true, Option.bind_some]
      have := h.smono (a := k - 1) (b := k) (by omega) hk
      rw [d_false (by omega)]
      simp only [cond_false]
      exact hw trivial
    · rw [d_false (show ¬ (0 : Int) < (k : Int) by omega)]
      simp only [cond_false, Option.bind_some]
      exact hw trivial
  · rintro w _
    simp only [f12_L6]
    rw [dnlt_len]
    exact Yld.ret rfl

/-! ## slices.CompactFunc by the times -/
/-- The times ascend strictly. -/
def SAsc (l : List Tim) : Prop := ∀ k, (h : k + 1 < l.length) → (l[k]'(by omega)).1 < l[k + 1].1

theorem f37_eq (x y : Tim) : f37 5000 (x.1, x.2) (y.1, y.2) = some (decide (x.1 = y.1)) := rfl

theorem compL9 {R : Type} {Q : R → Prop} (L : List Tim) (hn : L.length ≤ 4000) (asc : ∀ k, (h : k + 1 < L.length) → (L[k]'(by omega)).1 ≤ L[k + 1].1) {k : Nat} (hk1 : 1 ≤ k) (hk : k < L.length) (hpre : ∀ x, (h : x + 1 < k) → (L[x]'(by omega)).1 < (L[x + 1]'(by omega)).1) (heq : L[k].1 = (L[k - 1]'(by omega)).1)
    (t1 : Unit) {kx : Int → List Tim → Option R} (hkx : ∀ (p : Nat) (C : List Tim), 1 ≤ p → p ≤ L.length → C.length = L.length → (∀ x, (h : x + 1 < p) → (hc : C.length = L.length) → (C[x]?.getD (0, 0, ())).1 < (C[x + 1]?.getD (0, 0, ())).1) → (∀ x, x < p → ∃ y ∈ L, C[x]? = some y) → Yld (kx (p : Int) C) Q) :
    Yld (iter (fun w => f36_L9 5000 (k : Int) (len L) t1 w kx) 5000 (1, (k : Int), L)) Q := by
  refine Yld.up (fun m (s : Int × List Tim) => ∃ p : Nat, 1 ≤ m ∧ s.1 = (p : Int) ∧ 1 ≤ p ∧ p ≤ k + m - 1 ∧ k + m ≤ L.length ∧ s.2.length = L.length ∧ (∀ x, p ≤ x → s.2[x]? = L[x]?) ∧ (∀ x, x + 1 < p → (s.2[x]?.getD (0, 0, ())).1 < (s.2[x + 1]?.getD (0, 0, ())).1) ∧ (∀ x, x < p → ∃ y ∈ L, s.2[x]? = some y) ∧ (s.2[p - 1]?.getD (0, 0, ())).1 = (L[k + m - 1]?.getD (0, 0, ())).1) (L.length - k) ?_ ?_ 5000 1 (by omega) (by omega) ((k : Int), L) ?_
  · rintro m ⟨sp, C⟩ w hm ⟨p, hm1, hp, hp1, hpm, hkm, hC, hrest, hasc, hmem, hlast⟩ hw
    simp only at hp hC hrest hasc hmem hlast
    subst hp
    simp only [f36_L9]
    rw [d_true (by rw [len_eq]; omega), wi64_nat (show m < 9223372036854775807 by omega), wi64_pred (show 0 < m by omega) (by omega), wi64_nat (show p < 9223372036854775807 by omega)]
    simp only [cond_true]
    rw [chk_true (by rw [Bool.and_true]; exact decide_eq_true (by omega))]
    rw [show (k : Int) + (m : Int) = ((k + m : Nat) : Int) from by omega, show (k : Int) + ((m - 1 : Nat) : Int) = ((k + m - 1 : Nat) : Int) from by omega]
    have g1 : C[k + m]? = some (L[k + m]'(by omega)) := by rw [hrest _ (by omega), List.getElem?_eq_getElem (by omega)]
    have g2 : C[k + m - 1]? = some (L[k + m - 1]'(by omega)) := by rw [hrest _ (by omega), List.getElem?_eq_getElem (by omega)]
    rw [idx_some' g1]
    simp only [Option.bind_some]
    rw [chk_true (by rw [Bool.and_eq_true, decide_eq_true_eq, decide_eq_true_eq, len_eq]; omega), idx_some' g2]
    simp only [Option.bind_some]
    rw [f37_eq]
    simp only [Option.bind_some]
    have hle := asc (k + m - 1) (by omega)
    have e1 : k + m - 1 + 1 = k + m := by omega
    simp only [e1] at hle
    rw [List.getElem?_eq_getElem (show k + m - 1 < L.length by omega)] at hlast
    simp only [Option.getD_some] at hlast
    by_cases he : (L[k + m]'(by omega)).1 = (L[k + m - 1]'(by omega)).1
    · rw [d_true he]
      simp only [Bool.not_true, cond_false]
      refine hw (_, _) ⟨p, by omega, rfl, hp1, by omega, by omega, hC, hrest, hasc, hmem, ?_⟩
      rw [hlast, show k + (m + 1) - 1 = k + m from by omega, List.getElem?_eq_getElem (by omega)]
      exact he.symm
    · rw [d_false he]
      simp only [Bool.not_false, cond_true]
      rw [chk_true (by rw [Bool.and_true]; exact decide_eq_true (by omega))]
      rw [chk_true (inb_lt (by omega)), idx_lt (by omega)]
      simp only [Option.bind_some]
      rw [setI_nat]
      refine hw (((p : Int) + 1), _) ⟨p + 1, by omega, by simp, by omega, by omega, by omega, by simp [hC], fun x hx => ?_, fun x hx => ?_, fun x hx => ?_, ?_⟩
      · rw [List.getElem?_set_ne (by omega)]; exact hrest x (by omega)
      · by_cases hx2 : x + 1 = p
        · rw [List.getElem?_set_ne (by omega), hx2, List.getElem?_set_self (by omega)]
          simp only [Option.getD_some]
          have : x = p - 1 := by omega
          rw [this, hlast]
          omega
        · rw [List.getElem?_set_ne (by omega), List.getElem?_set_ne (by omega)]
          exact hasc x (by omega)
      · by_cases hx2 : x = p
        · exact ⟨_, List.getElem_mem (show k + m < L.length by omega), by rw [hx2, List.getElem?_set_self (by omega)]⟩
        · rw [List.getElem?_set_ne (by omega)]; exact hmem x (by omega)
      · rw [show p + 1 - 1 = p from by omega, List.getElem?_set_self (by omega), show k + (m + 1) - 1 = k + m from by omega, List.getElem?_eq_getElem (by omega)]
  · rintro ⟨sp, C⟩ w ⟨p, hm1, hp, hp1, hpm, hkm, hC, hrest, hasc, hmem, hlast⟩
    simp only at hp hC hrest hasc hmem hlast
    subst hp
    simp only [f36_L9]
    rw [d_false (by rw [len_eq]; omega)]
    simp only [cond_false]
    exact hkx p C hp1 (by omega) hC (fun x hx _ => hasc x hx) hmem
  · refine ⟨k, Nat.le_refl _, rfl, hk1, by omega, by omega, rfl, fun _ _ => rfl, fun x hx => ?_, fun x hx => ⟨_, List.getElem_mem (show x < L.length by omega), List.getElem?_eq_getElem (show x < L.length by omega)⟩, ?_⟩
    · rw [List.getElem?_eq_getElem (show x < L.length by omega), List.getElem?_eq_getElem (show x + 1 < L.length by omega)]
      exact hpre x hx
    · rw [List.getElem?_eq_getElem (show k - 1 < L.length by omega), List.getElem?_eq_getElem (show k + 1 - 1 < L.length by omega)]
      simp only [Option.getD_some, Nat.add_sub_cancel]
      exact heq.symm

theorem f36_ok (L : List Tim) (hn : L.length ≤ 4000) (asc : ∀ k, (h : k + 1 < L.length) → (L[k]'(by omega)).1 ≤ L[k + 1].1) :
    Yld (f36 5000 () L) fun r => SAsc r.2.1 ∧ (∀ x ∈ r.2.1, x ∈ L) ∧ r.2.1.length ≤ L.length ∧ (L ≠ [] → r.2.1 ≠ []) := by
  unfold f36
  refine Yld.cond (fun h => Yld.ret ⟨fun k hk => ?_, fun x hx => hx, Nat.le_refl _, fun h => h⟩) fun h => ?_
  · rw [decide_eq_true_eq, len_eq] at h
    simp only at hk
    omega
  · rw [decide_eq_false_iff_not, len_eq] at h
    refine Yld.upI (fun k => 1 ≤ k ∧ ∀ x, (h : x + 1 < k) → (h2 : k ≤ L.length) → (L[x]'(by omega)).1 < (L[x + 1]'(by omega)).1) L.length ?_ ?_ 5000 1 (by omega) (by omega) ⟨Nat.le_refl _, fun x hx => by omega⟩
    · rintro k w hk ⟨hk1, hpre⟩ hw
      simp only [f36_L4]
      rw [dlt_len hk, wi64_pred (by omega) (by omega), wi64_nat (by omega)]
      simp only [cond_true]
      rw [chk_true (inb_lt hk), idx_lt hk]
      simp only [Option.bind_some]
      rw [chk_true (inb_lt (show k - 1 < L.length by omega)), idx_lt (show k - 1 < L.length by omega)]
      simp only [Option.bind_some]
      rw [f37_eq]
      simp only [Option.bind_some]
      have hle := asc (k - 1) (by omega)
      have e1 : k - 1 + 1 = k := by omega
      simp only [e1] at hle
      by_cases he : L[k].1 = (L[k - 1]'(by omega)).1
      · rw [d_true he]
        simp only [cond_true]
        rw [chk_true (by simp only [Bool.and_eq_true, decide_eq_true_eq, len_eq]; omega)]
        refine compL9 L hn asc hk1 hk (fun x hx => hpre x hx (by omega)) he () fun p C hp1 hp hC hasc hmem => ?_
        rw [chk_true (by simp only [Bool.and_eq_true, decide_eq_true_eq, len_eq]; omega), chk_true (by simp only [Bool.and_eq_true, decide_eq_true_eq, len_eq, clearL_length]; omega)]
        have hsub : sub (clearL (0, (0, ())) C (p : Int) (len C)) 0 (p : Int) = C.take p := by
          apply List.ext_getElem?
          intro i
          unfold sub
          simp only [Int.toNat_zero, List.drop_zero, Nat.sub_zero, Int.toNat_natCast]
          by_cases hi : i < p
          · rw [List.getElem?_take_of_lt hi, List.getElem?_take_of_lt hi]
            have hi2 : i < C.length := by omega
            have hi3 : i < (clearL (0, (0, ())) C (p : Int) (len C)).length := by rw [clearL_length]; exact hi2
            have := clearL_get ((0, (0, ())) : Tim) C (p : Int) (len C) i hi3 hi2
            rw [List.getElem?_eq_getElem hi3, List.getElem?_eq_getElem hi2]
            simp only [List.get_eq_getElem] at this
            rw [this, if_neg (by omega)]
          · rw [List.getElem?_eq_none (by simp; omega), List.getElem?_eq_none (by simp; omega)]
        rw [hsub]
        have hlen : (C.take p).length = p := by simp; omega
        refine Yld.ret ⟨fun x hx => ?_, fun x hx => ?_, by rw [hlen]; exact hp, fun _ h0 => ?_⟩
        · simp only at hx ⊢
          rw [hlen] at hx
          have := hasc x hx hC
          rw [List.getElem?_eq_getElem (show x < C.length by omega), List.getElem?_eq_getElem (show x + 1 < C.length by omega)] at this
          simpa using this
        · simp only at hx
          obtain ⟨i, hi, rfl⟩ := List.mem_iff_getElem.1 hx
          rw [hlen] at hi
          obtain ⟨y, hy, hxy⟩ := hmem i hi
          rw [List.getElem?_eq_getElem (show i < C.length by omega)] at hxy
          simp only [Option.some.injEq] at hxy
          rw [List.getElem_take, hxy]; exact hy
        · have := congrArg List.length h0
          simp only [hlen, List.length_nil] at this
          omega
      · rw [d_false he]
        simp only [cond_false]
        refine hw ⟨by omega, fun x hx h2 => ?_⟩
        by_cases hx2 : x + 1 = k
        · obtain rfl : x = k - 1 := by omega
          simp only [e1]
          omega
        · exact hpre x (by omega) (by omega)
    · rintro w ⟨_, hpre⟩
      simp only [f36_L4]
      rw [dnlt_len]
      simp only [cond_false]
      exact Yld.ret ⟨fun x hx => hpre x hx (Nat.le_refl _), fun x hx => hx, Nat.le_refl _, fun h => h⟩

/-! ## tidy -/
theorem and_bound (x : Int) {m : Int} (h0 : 0 ≤ m) (hm : m < 4096) : 0 ≤ wi64 (((((BitVec.ofInt 64 x).and (BitVec.ofInt 64 m)).toNat) : Nat) : Int) ∧ wi64 (((((BitVec.ofInt 64 x).and (BitVec.ofInt 64 m)).toNat) : Nat) : Int) ≤ m := by
  have h1 : ((BitVec.ofInt 64 x).and (BitVec.ofInt 64 m)).toNat ≤ m.toNat := by
    have : ((BitVec.ofInt 64 x).and (BitVec.ofInt 64 m)).toNat = (BitVec.ofInt 64 x).toNat &&& (BitVec.ofInt 64 m).toNat := rfl
    rw [this]
    refine Nat.le_trans Nat.and_le_right ?_
    rw [BitVec.toNat_ofInt]
    have : (m % ((2 ^ 64 : Nat) : Int)).toNat = m.toNat := by
      rw [Int.emod_eq_of_lt (by omega) (by omega)]
    rw [this]; exact Nat.le_refl _
  rw [wi64_of (by omega) (by omega)]
  omega

theorem SAsc.load {l : List Tim} (h : SAsc l) (hne : l ≠ []) (hl : l.length ≤ 64) (hb : ∀ x ∈ l, 0 ≤ x.1 ∧ x.1 ≤ 67108864 ∧ 1 ≤ x.2.1 ∧ x.2.1 ≤ 65536) : Load l := ⟨hne, hl, hb, h⟩

theorem f35_cmp {x y : Tim} (hx : 0 ≤ x.1 ∧ x.1 ≤ 1023) (hy : 0 ≤ y.1 ∧ y.1 ≤ 1023) : f35 5000 x y = some (x.1 - y.1) := by
  unfold f35
  rw [wi64_of (by omega) (by omega)]

theorem f34_ok (L : List Tim) (hb : ∀ x ∈ L, 0 ≤ x.1 ∧ x.1 ≤ 1023) (hn : L.length ≤ 4000) : Yld (f34 5000 () L) fun r => r.2.1.Perm L ∧ ∀ k, (h : k + 1 < r.2.1.length) → (r.2.1[k]'(by omega)).1 ≤ r.2.1[k + 1].1 := by
  have hc : ∀ x ∈ L, ∀ y ∈ L, cmpO (fun x y => f35 5000 x y) x y = x.1 - y.1 := fun x hx y hy => by simp only [cmpO]; rw [f35_cmp (hb x hx) (hb y hy)]; rfl
  have hord : OrdOn (ltI (cmpO fun x y => f35 5000 x y)) (· ∈ L) := by
    refine ⟨fun x hx => ?_, fun x y z hx hy hz h1 h2 => ?_, fun x y z hx hy hz h1 h2 => ?_⟩
    · simp only [ltI, hc x hx x hx, decide_eq_false_iff_not]; omega
    · simp only [ltI, hc x hx y hy, hc y hy z hz, hc x hx z hz, decide_eq_true_eq] at *; omega
    · simp only [ltI, hc x hx y hy, hc y hy z hz, hc x hx z hz, decide_eq_false_iff_not] at *; omega
  have hB : ordB (fun x y => f35 5000 x y) L = true := ordB_of hord fun x hx y hy => by rw [f35_cmp (hb x hx) (hb y hy)]; rfl
  unfold f34 sortF
  have hlt : Nat.blt L.length 4611686018427387904 = true := by rw [Nat.blt_eq]; omega
  rw [hB, hlt]
  simp only [Bool.and_self, cond_true, Option.map_some]
  obtain ⟨h1, h2⟩ := sortQ_ok hord
  refine Yld.ret ⟨h1, fun k hk => ?_⟩
  simp only at hk ⊢
  have h3 := (List.pairwise_iff_getElem.1 h2) k (k + 1) (by omega) hk (by omega)
  have m1 : (sortQ (cmpO fun x y => f35 5000 x y) L)[k] ∈ L := h1.mem_iff.1 (List.getElem_mem _)
  have m2 : (sortQ (cmpO fun x y => f35 5000 x y) L)[k + 1] ∈ L := h1.mem_iff.1 (List.getElem_mem _)
  simp only [ltI, hc _ m2 _ m1, decide_eq_false_iff_not] at h3
  omega

/-- A tidy load. -/
structure Tidy (m : Nat) (l : List Tim) : Prop where
  load : Load l
  len : l.length ≤ m
  small : ∀ x ∈ l, x.1 ≤ 1023 ∧ x.2.1 ≤ 16

theorem f22_ok (a0 : List Tim) {m : Nat} (hm : 1 ≤ m) (hm2 : m ≤ 64) : Yld (f22 5000 a0 (m : Int)) (Tidy m) := by
  unfold f22
  have hmin : ∃ n : Nat, minI (len a0) (m : Int) = (n : Int) ∧ n ≤ m ∧ n ≤ a0.length := by
    unfold minI
    rw [len_eq]
    by_cases h : (m : Int) < (a0.length : Int)
    · rw [if_pos h]; exact ⟨m, rfl, Nat.le_refl _, by omega⟩
    · rw [if_neg h]; exact ⟨a0.length, rfl, by omega, Nat.le_refl _⟩
  obtain ⟨n, hn, hnm, hna⟩ := hmin
  rw [hn, chk_true (by simp only [Bool.and_eq_true, decide_eq_true_eq, len_eq]; omega)]
  have hs : (sub a0 0 (n : Int)).length = n := by simp [sub]; omega
  refine Yld.up (fun k o => o.length = k ∧ ∀ x ∈ o, 0 ≤ x.1 ∧ x.1 ≤ 1023 ∧ 1 ≤ x.2.1 ∧ x.2.1 ≤ 16) n ?_ ?_ 5000 0 (Nat.zero_le _) (by omega) ([] : List Tim) ⟨rfl, by simp⟩
  · rintro k o w hk ⟨h1, h2⟩ hw
    simp only [f22_L3]
    rw [d_true (by rw [len_eq, hs]; omega), wi64_nat (by omega)]
    simp only [cond_true]
    rw [idx_lt (by omega)]
    simp only [Option.bind_some]
    rw [chk_true (decide_eq_true (by rw [h1]; unfold room; omega))]
    refine hw _ ⟨by simp [h1], fun x hx => ?_⟩
    rcases List.mem_append.1 hx with hx | hx
    · exact h2 x hx
    · simp only [List.mem_singleton] at hx
      subst hx
      obtain ⟨b1, b2⟩ := and_bound ((sub a0 0 (n : Int))[k]'(by omega)).1 (m := 1023) (by omega) (by omega)
      obtain ⟨b3, b4⟩ := and_bound ((sub a0 0 (n : Int))[k]'(by omega)).2.1 (m := 15) (by omega) (by omega)
      refine ⟨b1, b2, ?_⟩
      simp only
      generalize wi64 (((((BitVec.ofInt 64 ((sub a0 0 (n : Int))[k]'(by omega)).2.1).and (BitVec.ofInt 64 15)).toNat) : Nat) : Int) = z at b3 b4 ⊢
      rw [wi64_of (n := 1 + z) (by omega) (by omega)]
      exact ⟨by omega, by omega⟩
  · rintro o w ⟨h1, h2⟩
    simp only [f22_L3]
    rw [d_false (by rw [len_eq, hs]; omega)]
    simp only [cond_false]
    refine Yld.then (f34_ok o (fun x hx => ⟨(h2 x hx).1, (h2 x hx).2.1⟩) (by omega)) fun r hr => ?_
    have hlen := hr.1.length_eq
    refine Yld.then (f36_ok r.2.1 (by omega) hr.2) fun q hq => ?_
    obtain ⟨q1, q2, q3, q4⟩ := hq
    have hel : ∀ x ∈ q.2.1, 0 ≤ x.1 ∧ x.1 ≤ 1023 ∧ 1 ≤ x.2.1 ∧ x.2.1 ≤ 16 := fun x hx => h2 x (hr.1.mem_iff.1 (q2 x hx))
    refine Yld.cond (fun _ => Yld.ret ?_) fun h0 => Yld.ret ?_
    · refine ⟨⟨by simp, by simp, fun x hx => ?_, fun k hk => ?_⟩, by simp; omega, fun x hx => ?_⟩
      · simp only [List.mem_singleton] at hx; subst hx; simp
      · simp at hk
      · simp only [List.mem_singleton] at hx; subst hx; simp
    · rw [decide_eq_false_iff_not, len_eq] at h0
      refine ⟨q1.load ?_ (by omega) fun x hx => ?_, by omega, fun x hx => ⟨(hel x hx).2.1, (hel x hx).2.2.2⟩⟩
      · intro h; rw [h] at h0; simp at h0
      · obtain ⟨e1, e2, e3, e4⟩ := hel x hx
        exact ⟨e1, by omega, e3, by omega⟩

/-! ## the law -/
theorem dp_congr {c d : Nat → Nat → Int} {n : Nat} (hcd : ∀ a b, a ≤ b → b ≤ n → c a b = d a b) : (j i : Nat) → i ≤ n → dp c j i = dp d j i
  | 0, i, hi => hcd 0 i (Nat.zero_le _) hi
  | j + 1, i, hi => by
    simp only [dp]
    exact minTo_congr i fun h hh => by rw [dp_congr hcd j h (by omega), hcd h i hh hi]
theorem minTo_scale (f : Nat → Int) {t : Int} (ht : 0 < t) : (n : Nat) → minTo (fun h => f h * t) n = minTo f n * t
  | 0 => rfl
  | n + 1 => by
    simp only [minTo]
    rw [minTo_scale f ht n]
    unfold minI
    by_cases h : f (n + 1) < minTo f n
    · rw [if_pos h, if_pos (Int.mul_lt_mul_of_pos_right h ht)]
    · rw [if_neg h, if_neg (by
        have := Int.mul_le_mul_of_nonneg_right (show minTo f n ≤ f (n + 1) by omega) (show 0 ≤ t by omega)
        omega)]
theorem dp_scale (c : Nat → Nat → Int) {t : Int} (ht : 0 < t) : (j i : Nat) → dp (fun a b => c a b * t) j i = dp c j i * t
  | 0, i => rfl
  | j + 1, i => by
    simp only [dp]
    rw [← minTo_scale _ ht]
    exact minTo_congr i fun h _ => by rw [dp_scale c ht j h, Int.add_mul]

theorem pw_map {l : List Tim} (f : Tim → Tim) (t : Int) (h : ∀ x ∈ l, (f x).2.1 = x.2.1 * t) : (j : Nat) → j ≤ l.length → pw (l.map f) j = pw l j * t
  | 0, _ => by simp [pw_zero]
  | j + 1, hj => by
    rw [pw_succ (by rw [List.length_map]; omega), pw_succ hj, pw_map f t h j (by omega), Int.add_mul]
    congr 1
    rw [List.getElem_map, h _ (List.getElem_mem _)]
theorem grp_moved {l : List Tim} (b : Int) {x y : Nat} (hxy : x ≤ y) (hy : y ≤ l.length) : grp (l.map fun e => (e.1 + b, e.2)) x y = grp l x y := by
  by_cases he : x = y
  · subst he; rw [grp_self, grp_self]
  · rw [grp_at (by omega) (by simpa using hy), grp_at (by omega) hy]
    have hw : ∀ j, j ≤ l.length → pw (l.map fun e => (e.1 + b, e.2)) j = pw l j := fun j hj => by
      have := pw_map (l := l) (fun e => (e.1 + b, e.2)) 1 (fun x _ => by simp) j hj
      rw [this, Int.mul_one]
    have hp : ∀ j, j ≤ l.length → pp (l.map fun e => (e.1 + b, e.2)) j = pp l j + pw l j * b := by
      intro j
      induction j with
      | zero => intro _; simp [pp_zero, pw_zero]
      | succ j ih =>
        intro hj
        rw [pp_succ (by rw [List.length_map]; omega), pp_succ hj, pw_succ hj, ih (by omega), List.getElem_map]
        simp only [Int.add_mul, Int.mul_add]
        omega
    rw [hw y hy, hw x (by omega), hp y hy, hp x (by omega), List.getElem_map]
    simp only
    rw [Int.add_mul, Int.mul_comm b (pw l y - pw l x), Int.sub_mul]
    omega
theorem grp_heavy {l : List Tim} (t : Int) {x y : Nat} (hxy : x ≤ y) (hy : y ≤ l.length) : grp (l.map fun e => (e.1, (e.2.1 * t, ()))) x y = grp l x y * t := by
  by_cases he : x = y
  · subst he; rw [grp_self, grp_self]; simp
  · rw [grp_at (by omega) (by simpa using hy), grp_at (by omega) hy]
    have hw : ∀ j, j ≤ l.length → pw (l.map fun e => (e.1, (e.2.1 * t, ()))) j = pw l j * t := fun j hj => pw_map (l := l) (fun e => (e.1, (e.2.1 * t, ()))) t (fun x _ => rfl) j hj
    have hp : ∀ j, j ≤ l.length → pp (l.map fun e => (e.1, (e.2.1 * t, ()))) j = pp l j * t := by
      intro j
      induction j with
      | zero => intro _; simp [pp_zero]
      | succ j ih =>
        intro hj
        rw [pp_succ (by rw [List.length_map]; omega), pp_succ hj, ih (by omega), List.getElem_map, Int.add_mul]
        congr 1
        simp only
        rw [Int.mul_assoc, Int.mul_assoc, Int.mul_comm t]
    rw [hw y hy, hw x (by omega), hp y hy, hp x (by omega), List.getElem_map]
    simp only [Int.sub_mul, Int.mul_sub]
    rw [Int.mul_assoc, Int.mul_assoc]

theorem f24_same (l : List Int) (hl : l.length ≤ 4000) : f24 5000 l l = some true := by
  unfold f24
  rw [d_true rfl]
  simp only [Bool.not_true, cond_false]
  refine Yld.eq ?_
  refine Yld.upI (fun _ => True) l.length ?_ ?_ 5000 0 (Nat.zero_le _) (by omega) trivial
  · rintro k w hk _ hw
    simp only [f24_L4]
    rw [dlt_len hk, idx_lt hk, wi64_nat (by omega)]
    simp only [cond_true, Option.bind_some]
    rw [d_true trivial]
    exact hw trivial
  · rintro w _
    simp only [f24_L4]
    rw [dnlt_len]
    exact Yld.ret rfl

theorem curve_len (l : List Tim) : (curve l).length = l.length := by simp [curve]
theorem curve_get {l : List Tim} {j : Nat} (hj : j < l.length) : (curve l)[j]? = some (dp (grp l) j l.length) := by
  unfold curve
  rw [List.getElem?_map, List.getElem?_range hj]; rfl

theorem SAsc.map {l : List Tim} (h : SAsc l) (f : Tim → Tim) {b : Int} (hf : ∀ x ∈ l, (f x).1 = x.1 + b) : SAsc (l.map f) := by
  intro k hk
  have hk' : k + 1 < l.length := by simpa using hk
  rw [List.getElem_map, List.getElem_map, hf _ (List.getElem_mem _), hf _ (List.getElem_mem _)]
  have := h k hk'
  omega

theorem wi64_any (n : Int) : -9223372036854775808 ≤ wi64 n ∧ wi64 n ≤ 9223372036854775807 := by
  have := wrap_has .i64 n
  exact this

/-- The law, for arguments of the kind that they have. -/
theorem law6' (a0 : List Tim) (a1 a2 : Int) (h1 : 0 ≤ a1 ∧ a1 ≤ 255) (h2 : 0 ≤ a2 ∧ a2 ≤ 255) : f6 5000 a0 a1 a2 = some true := by
  unfold f6
  rw [known44]
  simp only [Option.bind_some, Bool.not_true, cond_false]
  refine Yld.eq ?_
  refine Yld.then (f22_ok a0 (m := 8) (by omega) (by omega)) fun l hl => ?_
  rw [wi64_of (n := a2) (by omega) (by omega), wi64_of (n := 1 + a2) (by omega) (by omega)]
  have hload := hl.load
  have hlen := hl.len
  have hel : ∀ x ∈ l, 0 ≤ x.1 ∧ x.1 ≤ 1023 ∧ 1 ≤ x.2.1 ∧ x.2.1 ≤ 16 := fun x hx => by
    have e1 := hload.2.2.1 x hx
    have e2 := hl.small x hx
    omega
  refine Yld.up (fun k (s : List Tim × List Tim) => s.1 = (l.take k).map (fun e => (e.1, (e.2.1 * (1 + a2), ()))) ∧ s.2 = (l.take k).map (fun e => (e.1 + a1, e.2))) l.length ?_ ?_ 5000 0 (Nat.zero_le _) (by omega) (([] : List Tim), ([] : List Tim)) ⟨by simp, by simp⟩
  · rintro k ⟨o0, o1⟩ w hk ⟨e0, e1⟩ hw
    simp only at e0 e1
    simp only [f6_L7]
    rw [dlt_len hk, idx_lt hk, wi64_nat (by omega)]
    simp only [cond_true, Option.bind_some]
    obtain ⟨b1, b2, b3, b4⟩ := hel _ (List.getElem_mem hk)
    have hm : 0 ≤ l[k].2.1 * (1 + a2) ∧ l[k].2.1 * (1 + a2) ≤ 16 * 256 := by
      refine ⟨Int.mul_nonneg (by omega) (by omega), Int.mul_le_mul b4 (by omega) (by omega) (by omega)⟩
    rw [chk_true (decide_eq_true (by rw [e1]; simp; unfold room; omega)), chk_true (decide_eq_true (by rw [e0]; simp; unfold room; omega))]
    rw [wi64_of (n := l[k].2.1 * (1 + a2)) (by omega) (by omega), wi64_of (n := a1) (by omega) (by omega), wi64_of (n := l[k].1 + a1) (by omega) (by omega)]
    refine hw (_, _) ⟨?_, ?_⟩
    · simp only; rw [take_succ hk, List.map_append, e0]; rfl
    · simp only; rw [take_succ hk, List.map_append, e1]; rfl
  · rintro ⟨o0, o1⟩ w ⟨e0, e1⟩
    simp only at e0 e1
    rw [List.take_length] at e0 e1
    simp only [f6_L7]
    rw [dnlt_len]
    simp only [cond_false]
    have hne := hload.1
    have hsa : SAsc l := hload.2.2.2
    have l1 : Load o1 := by
      rw [e1]
      refine (hsa.map _ (b := a1) fun x _ => rfl).load (by simpa using hne) (by simp; omega) fun x hx => ?_
      obtain ⟨y, hy, rfl⟩ := List.mem_map.1 hx
      obtain ⟨b1, b2, b3, b4⟩ := hel y hy
      simp only
      omega
    have l0 : Load o0 := by
      rw [e0]
      refine (hsa.map _ (b := 0) fun x _ => by simp).load (by simpa using hne) (by simp; omega) fun x hx => ?_
      obtain ⟨y, hy, rfl⟩ := List.mem_map.1 hx
      obtain ⟨b1, b2, b3, b4⟩ := hel y hy
      have hm : 1 ≤ y.2.1 * (1 + a2) ∧ y.2.1 * (1 + a2) ≤ 16 * 256 := by
        refine ⟨?_, Int.mul_le_mul b4 (by omega) (by omega) (by omega)⟩
        have := Int.mul_le_mul b3 (show (1 : Int) ≤ 1 + a2 by omega) (by omega) (by omega)
        omega
      simp only
      omega
    rw [f23_ok hload (f12_load hload), f23_ok l1 (f12_load l1), f23_ok l0 (f12_load l0)]
    simp only [Option.bind_some, decide_true, Bool.not_true, cond_false]
    have c1 : curve o1 = curve l := by
      unfold curve
      rw [e1, List.length_map]
      refine List.map_congr_left fun j _ => ?_
      exact dp_congr (n := l.length) (fun a b hab hb => grp_moved a1 hab hb) j l.length (Nat.le_refl _)
    have c0 : ∀ j, j < l.length → (curve o0)[j]? = some (dp (grp l) j l.length * (1 + a2)) := by
      intro j hj
      rw [curve_get (by rw [e0]; simpa using hj)]
      congr 1
      rw [e0, List.length_map, ← dp_scale _ (by omega)]
      exact dp_congr (n := l.length) (fun a b hab hb => grp_heavy (1 + a2) hab hb) j l.length (Nat.le_refl _)
    rw [c1, f24_same _ (by rw [curve_len]; omega)]
    simp only [Option.bind_some, Bool.not_true, cond_false]
    rw [d_true (by rw [len_eq, len_eq, curve_len, curve_len, e0]; simp)]
    simp only [Bool.not_true, cond_false]
    refine Yld.upI (fun _ => True) l.length ?_ ?_ 5000 0 (Nat.zero_le _) (by omega) trivial
    · rintro k w hk _ hw
      simp only [f6_L18]
      rw [d_true (by rw [len_eq, curve_len]; omega), wi64_nat (by omega)]
      simp only [cond_true]
      rw [chk_true (inb_some (curve_get hk)), idx_some' (curve_get hk)]
      simp only [Option.bind_some]
      rw [chk_true (inb_some (c0 k hk)), idx_some' (c0 k hk)]
      simp only [Option.bind_some]
      have hd := dp_range hload k l.length (Nat.le_refl _)
      have hm : 0 ≤ dp (grp l) k l.length * (1 + a2) ∧ dp (grp l) k l.length * (1 + a2) ≤ 281474976710656 * 256 := by
        refine ⟨Int.mul_nonneg hd.1 (by omega), Int.mul_le_mul hd.2 (by omega) (by omega) (by omega)⟩
      rw [wi64_of (by omega) (by omega), d_true rfl]
      simp only [Bool.not_true, cond_false]
      exact hw trivial
    · rintro w _
      simp only [f6_L18]
      rw [d_false (by rw [len_eq, curve_len]; omega)]
      exact Yld.ret rfl
theorem law6 (a0 : List Tim) (a1 a2 : Int) (h1 : IntKind.u8.min ≤ a1 ∧ a1 ≤ IntKind.u8.max) (h2 : IntKind.u8.min ≤ a2 ∧ a2 ≤ IntKind.u8.max) : f6 5000 a0 a1 a2 = some true :=
  law6' a0 a1 a2 ⟨h1.1, h1.2⟩ ⟨h2.1, h2.2⟩
end Go.Kz
