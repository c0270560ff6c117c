/-
  Layer 44, plain: the law BucketBest.
-/
import Derived.Test.YtakifbcgkbfclaaKzB7
set_option linter.unusedVariables false
set_option linter.unusedSimpArgs false
namespace Go.Kz

/-! ## the delay of bounds at which groups end -/
def sumR (f : Nat → Int) : Nat → Int
  | 0 => 0
  | n + 1 => sumR f n + f n
theorem sumR_congr {f g : Nat → Int} {h : Nat} : (n : Nat) → h ≤ n → (∀ x, h ≤ x → x < n → f x = g x) → sumR f n - sumR f h = sumR g n - sumR g h
  | 0, hn, _ => by obtain rfl : h = 0 := by omega
                   simp
  | n + 1, hn, hfg => by
    by_cases he : h = n + 1
    · subst he; omega
    · have := sumR_congr (f := f) (g := g) n (by omega) fun x h1 h2 => hfg x h1 (by omega)
      have := hfg n (by omega) (by omega)
      simp only [sumR]
      omega
/-- The weight and the time at a place. -/
def wt (l : List Tim) (x : Nat) : Int := (l.getD x (0, 0, ())).2.1
def tm (l : List Tim) (x : Nat) : Int := (l.getD x (0, 0, ())).1
theorem tm_lt {l : List Tim} {x : Nat} (h : x < l.length) : tm l x = l[x].1 := by simp only [tm, getD_lt h]
theorem wt_lt {l : List Tim} {x : Nat} (h : x < l.length) : wt l x = l[x].2.1 := by simp only [wt, getD_lt h]
theorem sum_grp (l : List Tim) (t : Int) {h : Nat} : (i : Nat) → h ≤ i → i ≤ l.length → sumR (fun x => wt l x * (t - tm l x)) i - sumR (fun x => wt l x * (t - tm l x)) h = t * (pw l i - pw l h) - (pp l i - pp l h)
  | 0, hi, _ => by obtain rfl : h = 0 := by omega
                   simp
  | i + 1, hi, hl => by
    by_cases he : h = i + 1
    · subst he; simp
    · have := sum_grp l t (h := h) i (by omega) (by omega)
      simp only [sumR]
      rw [pw_succ (by omega), pp_succ (by omega), wt_lt (show i < l.length by omega), tm_lt (show i < l.length by omega)]
      have e : t * (pw l i + l[i].2.1 - pw l h) - (pp l i + l[i].2.1 * l[i].1 - pp l h) = (t * (pw l i - pw l h) - (pp l i - pp l h)) + l[i].2.1 * (t - l[i].1) := by
        simp only [Int.mul_sub, Int.mul_add]
        rw [Int.mul_comm t l[i].2.1]
        omega
      rw [e]; omega
/-- Where the group of a place ends. -/
def gend : List Nat → Nat → Nat
  | [], _ => 0
  | i :: r, x => if x < i then i else gend r x
theorem gend_sum {l : List Tim} : {h : Nat} → {B : List Nat} → SChain l.length h B → sumR (fun x => wt l x * (tm l (gend B x - 1) - tm l x)) l.length - sumR (fun x => wt l x * (tm l (gend B x - 1) - tm l x)) h = chainC (grp l) h B
  | h, [], hB => by
    have hB : h = l.length := hB
    subst hB
    simp [chainC]
  | h, i :: r, hB => by
    obtain ⟨h1, h2, h3⟩ := hB
    have ih := gend_sum h3
    have e1 := sumR_congr (f := fun x => wt l x * (tm l (gend (i :: r) x - 1) - tm l x)) (g := fun x => wt l x * (tm l (gend r x - 1) - tm l x)) (h := i) l.length h2 fun x k1 k2 => by
      simp only [gend]; rw [if_neg (by omega)]
    have e2 := sumR_congr (f := fun x => wt l x * (tm l (gend (i :: r) x - 1) - tm l x)) (g := fun x => wt l x * (tm l (i - 1) - tm l x)) (h := h) i (by omega) fun x k1 k2 => by
      simp only [gend]; rw [if_pos k2]
    have e3 := sum_grp l (tm l (i - 1)) (h := h) i (by omega) h2
    have e4 : grp l h i = tm l (i - 1) * (pw l i - pw l h) - (pp l i - pp l h) := by
      rw [grp_at h1 h2, tm_lt (by omega)]
    simp only [chainC]
    omega
theorem SChain.bnd {n : Nat} : {h : Nat} → {B : List Nat} → SChain n h B → ∀ i ∈ B, h < i ∧ i ≤ n
  | _, [], _, i, hi => by simp at hi
  | h, j :: r, hB, i, hi => by
    obtain ⟨h1, h2, h3⟩ := hB
    rcases List.mem_cons.1 hi with rfl | hi
    · exact ⟨h1, h2⟩
    · have := h3.bnd i hi
      omega
theorem gend_ok {n : Nat} : {h : Nat} → {B : List Nat} → SChain n h B → (x : Nat) → h ≤ x → x < n → gend B x ∈ B ∧ x < gend B x ∧ ∀ i ∈ B, x < i → gend B x ≤ i
  | h, [], hB, x, h1, h2 => by
    have hB : h = n := hB
    omega
  | h, j :: r, hB, x, h1, h2 => by
    obtain ⟨k1, k2, k3⟩ := hB
    simp only [gend]
    by_cases hx : x < j
    · rw [if_pos hx]
      refine ⟨by simp, hx, fun i hi _ => ?_⟩
      rcases List.mem_cons.1 hi with rfl | hi
      · exact Nat.le_refl _
      · exact Nat.le_of_lt (k3.bnd i hi).1
    · rw [if_neg hx]
      obtain ⟨m1, m2, m3⟩ := gend_ok k3 x (by omega) h2
      refine ⟨by simp [m1], m2, fun i hi hlt => ?_⟩
      rcases List.mem_cons.1 hi with rfl | hi
      · omega
      · exact m3 i hi hlt
theorem ends_len (l : List Tim) (B : List Nat) : (ends l B).length = B.length := by simp [ends]
theorem ends_mem {l : List Tim} {B : List Nat} {t : Int} : t ∈ ends l B ↔ ∃ i ∈ B, t = tm l (i - 1) := by
  simp only [ends, List.mem_map]
  constructor
  · rintro ⟨i, h1, h2⟩; exact ⟨i, h1, h2.symm⟩
  · rintro ⟨i, h1, h2⟩; exact ⟨i, h1, h2.symm⟩
theorem ends_get {l : List Tim} {B : List Nat} {k : Nat} (hk : k < B.length) : (ends l B)[k]? = some (tm l (B[k] - 1)) := by
  simp only [ends]
  rw [List.getElem?_map, List.getElem?_eq_getElem hk]; rfl
theorem tm_mono {l : List Tim} (hl : Load l) {a b : Nat} (hab : a ≤ b) (hb : b < l.length) : tm l a ≤ tm l b := by
  rw [tm_lt (by omega), tm_lt hb]; exact hl.mono b hab hb
theorem tm_smono {l : List Tim} (hl : Load l) {a b : Nat} (hab : a < b) (hb : b < l.length) : tm l a < tm l b := by
  rw [tm_lt (by omega), tm_lt hb]; exact hl.smono hab hb
theorem tm_range {l : List Tim} (hl : Load l) {a : Nat} (ha : a < l.length) : 0 ≤ tm l a ∧ tm l a ≤ 67108864 := by
  rw [tm_lt ha]
  obtain ⟨h1, h2, _, _⟩ := hl.elt ha
  exact ⟨h1, h2⟩
theorem SChain.asc {n : Nat} : {h : Nat} → {B : List Nat} → SChain n h B → ∀ k, (hk : k + 1 < B.length) → (B[k]'(by omega)) < B[k + 1]
  | _, [], _, k, hk => by simp at hk
  | h, j :: r, hB, k, hk => by
    cases k with
    | zero =>
      cases r with
      | nil => simp at hk
      | cons i r => exact hB.2.2.1
    | succ k => exact hB.2.2.asc k (by simpa using hk)
theorem SChain.last {n : Nat} : {h : Nat} → {B : List Nat} → SChain n h B → lastF h B = n
  | _, [], hB => hB
  | _, _ :: _, hB => hB.2.2.last
theorem lastF_get : (B : List Nat) → (h : Nat) → (hB : 0 < B.length) → lastF h B = B[B.length - 1]'(by omega)
  | [i], h, _ => rfl
  | i :: j :: r, h, _ => by
    have := lastF_get (j :: r) i (by simp)
    simp only [lastF] at this ⊢
    rw [this]
    rfl

theorem f11_ok {l : List Tim} (hl : Load l) {B : List Nat} (hB : SChain l.length 0 B) (h32 : B.length ≤ 32) : f11 5000 l (ends l B) = some (chainC (grp l) 0 B, 0) := by
  have hlen := hl.2.1
  have hpos := hl.pos
  have hBpos : 0 < B.length := by
    rcases Nat.eq_zero_or_pos B.length with h0 | h0
    · have := List.eq_nil_of_length_eq_zero h0
      subst this
      have hB : 0 = l.length := hB
      omega
    · exact h0
  refine Yld.eq ?_
  unfold f11
  rw [← f12_eq, f12_load hl]
  simp only [Option.bind_some, decide_true, Bool.not_true, cond_false]
  rw [d_false (show ¬ (32 : Int) < len (ends l B) by rw [len_eq, ends_len]; omega)]
  simp only [cond_false]
  refine Yld.upI (fun k => 1 ≤ k) B.length ?_ ?_ 5000 1 (by omega) (by omega) (Nat.le_refl _)
  · rintro k w hk hk0 hw
    · simp only [f11_L7]
      rw [d_true (by rw [len_eq, ends_len]; omega), wi64_pred (by omega) (by omega), wi64_nat (by omega)]
      simp only [cond_true]
      rw [idx_some' (ends_get hk)]
      simp only [Option.bind_some]
      rw [idx_some' (ends_get (show k - 1 < B.length by omega))]
      simp only [Option.bind_some]
      have h1 := hB.asc (k - 1) (by omega)
      have e : k - 1 + 1 = k := by omega
      simp only [e] at h1
      have h2 := hB.bnd _ (List.getElem_mem hk)
      have h3 := hB.bnd _ (List.getElem_mem (show k - 1 < B.length by omega))
      have := tm_smono hl (a := B[k - 1] - 1) (b := B[k] - 1) (by omega) (by omega)
      rw [d_false (by omega)]
      simp only [cond_false]
      exact hw (by omega)
  · rintro w _
    simp only [f11_L7]
    rw [d_false (by rw [len_eq, ends_len]; omega)]
    simp only [cond_false]
    rw [d_false (show ¬ len (ends l B) = 0 by rw [len_eq, ends_len]; omega)]
    simp only [cond_false]
    rw [len_eq (ends l B), ends_len, wi64_pred hBpos (by omega), len_eq l, wi64_pred hpos (by omega)]
    have hlast : B[B.length - 1]'(by omega) = l.length := by rw [← lastF_get B 0 hBpos]; exact hB.last
    have g1 := ends_get (l := l) (show B.length - 1 < B.length by omega)
    rw [hlast] at g1
    rw [idx_some' g1, idx_lt (show l.length - 1 < l.length by omega)]
    simp only [Option.bind_some]
    have ht := tm_range hl (a := l.length - 1) (by omega)
    rw [tm_lt (by omega)] at ht ⊢
    rw [d_false (Int.lt_irrefl _)]
    simp only [cond_false, Option.bind_some]
    rw [d_false (by omega)]
    simp only [cond_false]
    refine Yld.up (fun k s => s = sumR (fun x => wt l x * (tm l (gend B x - 1) - tm l x)) k ∧ 0 ≤ s ∧ s ≤ 4398046511104 * (k : Int)) l.length ?_ ?_ 5000 0 (Nat.zero_le _) (by omega) (0 : Int) ⟨rfl, by omega, by omega⟩
    · rintro k s w hk ⟨rfl, s1, s2⟩ hw
      simp only [f11_L15]
      rw [dlt hk, wi64_nat (by omega)]
      simp only [cond_true]
      rw [idx_lt hk]
      simp only [Option.bind_some]
      have hf := f14_ok (ends l B) l[k].1 (by rw [ends_len]; omega)
      rw [f14_eq] at hf
      obtain ⟨r, hr, hset⟩ := hf
      rw [hr]
      simp only [Option.bind_some]
      obtain ⟨m1, m2, m3⟩ := gend_ok hB k (Nat.zero_le _) hk
      have mb := hB.bnd _ m1
      have hge : l[k].1 ≤ tm l (gend B k - 1) := by rw [← tm_lt hk]; exact tm_mono hl (by omega) (by omega)
      have hin : tm l (gend B k - 1) ∈ ends l B := ends_mem.2 ⟨_, m1, rfl⟩
      have hr2 : r = tm l (gend B k - 1) := by
        rcases hset with ⟨_, h2⟩ | ⟨h1, h2, h3⟩
        · have := h2 _ hin; omega
        · have k1 := h3 _ hin hge
          obtain ⟨i, i1, i2⟩ := ends_mem.1 h1
          have ib := hB.bnd i i1
          have : k < i := by
            rcases Nat.lt_or_ge k i with h | h
            · exact h
            · have := tm_smono hl (a := i - 1) (b := k) (by omega) hk
              rw [tm_lt hk] at this
              omega
          have := tm_mono hl (a := gend B k - 1) (b := i - 1) (by have := m3 i i1 this; omega) (by omega)
          omega
      subst hr2
      obtain ⟨q1, q2, q3, q4⟩ := hl.elt hk
      have tr := tm_range hl (a := gend B k - 1) (by omega)
      have hm : 0 ≤ l[k].2.1 * (tm l (gend B k - 1) - l[k].1) ∧ l[k].2.1 * (tm l (gend B k - 1) - l[k].1) ≤ 65536 * 67108864 :=
        ⟨Int.mul_nonneg (by omega) (by omega), Int.mul_le_mul q4 (by omega) (by omega) (by omega)⟩
      rw [wi64_of (n := tm l (gend B k - 1) - l[k].1) (by omega) (by omega), wi64_of (n := l[k].2.1 * _) (by omega) (by omega), wi64_of (by omega) (by omega)]
      refine hw _ ⟨?_, by omega, by omega⟩
      simp only [sumR]
      rw [wt_lt hk, tm_lt hk]
    · rintro s w ⟨rfl, _, _⟩
      simp only [f11_L15]
      rw [dnlt]
      simp only [cond_false]
      refine Yld.ret ?_
      have := gend_sum hB
      simp only [sumR] at this
      rw [← this]; simp
end Go.Kz
