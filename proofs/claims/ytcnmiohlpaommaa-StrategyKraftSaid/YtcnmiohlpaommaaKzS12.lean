/-
  The layer strategy: the law of Kraft; plain laws.
-/
import Derived.Test.YtcnmiohlpaommaaKzS11
import Derived.Test.YtcnmiohlpaommaaKzP42K
set_option linter.unusedVariables false
set_option linter.unusedSimpArgs false
namespace Go.Kz

/-! ## The greatest common divisor -/
def gcdF {R : Type} (kb : Int × Int → Option R) (kx : Int → Option R) : Int × Int → Option R :=
  fun (t18, t17) =>
    cond (decide (0 < t18))
      (cond (decide (t18 = 0))
        none
        (kb ((Int.tmod t17 t18), t18)))
      (kx t17)
theorem gcd_loop {R : Type} (kx : Int → Option R) : (e b a M : Nat) → b < 2 ^ e → 2 * e < M → iter (fun w => gcdF w kx) M ((b : Int), (a : Int)) = kx ((Nat.gcd a b : Nat) : Int)
  | 0, b, a, M, hb, hM => by
    have : b = 0 := by simp at hb; exact hb
    subst this
    obtain ⟨M, rfl⟩ : ∃ k, M = k + 1 := ⟨M - 1, by omega⟩
    simp [iter, gcdF]
  | e + 1, b, a, M, hb, hM => by
    obtain ⟨M, rfl⟩ : ∃ k, M = k + 1 := ⟨M - 1, by omega⟩
    by_cases h0 : b = 0
    · subst h0; simp [iter, gcdF]
    · obtain ⟨M, rfl⟩ : ∃ k, M = k + 1 := ⟨M - 1, by omega⟩
      have e1 : decide (0 < (b : Int)) = true := by simp; omega
      have e2 : decide ((b : Int) = 0) = false := by simp; omega
      have e3 : Int.tmod (a : Int) (b : Int) = ((a % b : Nat) : Int) := rfl
      have hg : Nat.gcd a b = Nat.gcd (a % b) b := by rw [Nat.gcd_comm a b, Nat.gcd_rec b a]
      have step : iter (fun w => gcdF w kx) (M + 1 + 1) ((b : Int), (a : Int)) = iter (fun w => gcdF w kx) (M + 1) (((a % b : Nat) : Int), (b : Int)) := by
        rw [iter]
        simp only [gcdF]
        rw [e1, e2, cond_true, cond_false, e3]
      rw [step]
      by_cases hr : a % b = 0
      · rw [hr] at hg ⊢
        rw [hg]
        simp [iter, gcdF]
      · have e4 : decide (0 < ((a % b : Nat) : Int)) = true := by simp; omega
        have e5 : decide (((a % b : Nat) : Int) = 0) = false := by simp; omega
        have e6 : Int.tmod (b : Int) ((a % b : Nat) : Int) = ((b % (a % b) : Nat) : Int) := rfl
        have step2 : iter (fun w => gcdF w kx) (M + 1) (((a % b : Nat) : Int), (b : Int)) = iter (fun w => gcdF w kx) M (((b % (a % b) : Nat) : Int), ((a % b : Nat) : Int)) := by
          rw [iter]
          simp only [gcdF]
          rw [e4, e5, cond_true, cond_false, e6]
        rw [step2]
        have h1 : a % b < b := Nat.mod_lt _ (by omega)
        have h2 : b % (a % b) < a % b := Nat.mod_lt _ (by omega)
        have h3 : b % (a % b) + a % b ≤ b := by
          have := Nat.mod_add_div b (a % b)
          have h4 : 1 ≤ b / (a % b) := Nat.div_pos (by omega) (by omega)
          have h5 : (a % b) * 1 ≤ (a % b) * (b / (a % b)) := Nat.mul_le_mul_left _ h4
          omega
        have h6 : b % (a % b) < 2 ^ e := by rw [Nat.pow_succ] at hb; omega
        rw [gcd_loop kx e (b % (a % b)) (a % b) M h6 (by omega), hg, Nat.gcd_comm (a % b) (b % (a % b)), ← Nat.gcd_rec (a % b) b]

theorem posOf_nodup {α : Type} [DecidableEq α] {l : List α} (hn : l.Nodup) {c : Nat} (hc : c < l.length) : posOf l[c] l = c := by
  refine posOf_first hc rfl fun j hj he => ?_
  have := List.pairwise_iff_getElem.1 hn j c (by omega) hc hj
  exact this he

/-! ## The law -/
def spN (m : Menu) (s : List Choice) (c : Nat) : Nat := spE m ((kinds m s).getD c [])
def spM (m : Menu) (s : List Choice) (c : Nat) : Int := ((min (spN m s c) 1048576 : Nat) : Int)

theorem kinds_get {m : Menu} {s : List Choice} {c : Nat} (hc : c < (kinds m s).length) : ∃ x, x < m.1.toNat ∧ runL m s x = (kinds m s)[c] := by
  have : (kinds m s)[c] ∈ allL m s := by
    have := List.getElem_mem hc
    have h2 := (nubA_mem (acc := []) (l := allL m s)).1 this
    simpa using h2
  obtain ⟨x, hx, he⟩ := List.mem_map.1 this
  exact ⟨x, List.mem_range.1 hx, he⟩
/-- The class of a secret, and its transcript. -/
theorem class_at {m : Menu} {s : List Choice} {x : Nat} (hx : x < m.1.toNat) :
    ∃ c, c < (kinds m s).length ∧ (ofL (allL m s))[x]? = some ((c : Nat) : Int) ∧ (kinds m s).getD c [] = runL m s x := by
  have hxl : x < (allL m s).length := by rw [allL_len]; exact hx
  have hm : (allL m s)[x] ∈ kinds m s := by
    unfold kinds; rw [nubA_mem]; right; exact List.getElem_mem hxl
  refine ⟨posOf (allL m s)[x] (kinds m s), posOf_lt hm, ofL_get hxl, ?_⟩
  rw [List.getD_eq_getElem?_getD, posOf_get hm, allL_get]; rfl
theorem spN_pos {m : Menu} {s : List Choice} (h : Right m s) {c : Nat} (hc : c < (kinds m s).length) : 1 ≤ spN m s c := by
  obtain ⟨x, hx, he⟩ := kinds_get hc
  unfold spN
  rw [List.getD_eq_getElem?_getD, List.getElem?_eq_getElem hc]
  simp only [Option.getD_some]
  rw [← he]
  exact spE_pos h (by omega)

def denD (m : Menu) (s : List Choice) : Nat := prodM (spE m) (kinds m s)
theorem kinds_pos {m : Menu} {s : List Choice} (h : Right m s) : ∀ t ∈ kinds m s, 1 ≤ spE m t := by
  intro t ht
  obtain ⟨c, hc, rfl⟩ := List.mem_iff_getElem.1 ht
  obtain ⟨x, hx, he⟩ := kinds_get hc
  rw [← he]
  exact spE_pos h (by omega)
theorem denD_pos {m : Menu} {s : List Choice} (h : Right m s) : 1 ≤ denD m s := prodM_pos (kinds_pos h)
theorem kraft_D {m : Menu} {s : List Choice} (h : Right m s) : sumM (fun t => denD m s / spE m t) (kinds m s) = denD m s := kraft_all h fun _ ht => dvd_prodM ht

/-- Enough is spent. -/
theorem most_ok {m : Menu} {s : List Choice} (h : Right m s) {M : Int} (hM : ∀ c, c < (kinds m s).length → spM m s c ≤ M) (h1 : 1 ≤ M) : ((kinds m s).length : Int) ≤ M := by
  obtain ⟨m1, m2, _, _⟩ := menuOK_iff.1 h.menu
  have hK : (kinds m s).length ≤ 62 := by
    have := nubA_length [] (allL m s)
    rw [allL_len] at this
    simp only [List.length_nil, Nat.zero_add] at this
    show (nubA [] (allL m s)).length ≤ 62
    omega
  by_cases hb : ∃ c, c < (kinds m s).length ∧ 1048576 ≤ spN m s c
  · obtain ⟨c, hc, hc2⟩ := hb
    have := hM c hc
    simp only [spM] at this
    omega
  · obtain ⟨t, rfl⟩ := Int.eq_ofNat_of_zero_le (show 0 ≤ M by omega)
    have hle : ∀ x ∈ kinds m s, spE m x ≤ t := by
      intro x hx
      obtain ⟨c, hc, rfl⟩ := List.mem_iff_getElem.1 hx
      have h2 := hM c hc
      have h3 : spN m s c = spE m (kinds m s)[c] := by
        unfold spN; rw [List.getD_eq_getElem?_getD, List.getElem?_eq_getElem hc]; rfl
      have h4 : ¬ 1048576 ≤ spN m s c := fun hh => hb ⟨c, hc, hh⟩
      simp only [spM] at h2
      omega
    have hD := denD_pos h
    have hs : (kinds m s).length * denD m s ≤ t * denD m s := by
      have e1 : sumM (fun x => t * (denD m s / spE m x)) (kinds m s) = t * denD m s := by rw [sumM_mul, kraft_D h]
      rw [← e1, ← sumM_const (f := fun _ => denD m s) (l := kinds m s) (fun _ _ => rfl)]
      refine sumM_mono fun x hx => ?_
      have h5 : spE m x * (denD m s / spE m x) = denD m s := Nat.mul_div_cancel' (dvd_prodM hx)
      have h6 := Nat.mul_le_mul_right (denD m s / spE m x) (hle x hx)
      omega
    have := Nat.le_of_mul_le_mul_right hs hD
    omega

theorem frac_step {den num n D S : Nat} (hn : 1 ≤ n) (hd : 1 ≤ den) (hnD : n ∣ D) (h : num * D = den * S) :
    1 ≤ den * n / Nat.gcd (num * n + den) (den * n) ∧ (num * n + den) / Nat.gcd (num * n + den) (den * n) * D = den * n / Nat.gcd (num * n + den) (den * n) * (S + D / n) := by
  have hdn : 1 ≤ den * n := Nat.mul_pos hd hn
  have hg1 : Nat.gcd (num * n + den) (den * n) ∣ num * n + den := Nat.gcd_dvd_left _ _
  have hg2 : Nat.gcd (num * n + den) (den * n) ∣ den * n := Nat.gcd_dvd_right _ _
  have hg0 : 0 < Nat.gcd (num * n + den) (den * n) := Nat.gcd_pos_of_pos_right _ hdn
  generalize Nat.gcd (num * n + den) (den * n) = g at hg1 hg2 hg0
  obtain ⟨a, ha⟩ := hg1
  obtain ⟨b, hb⟩ := hg2
  obtain ⟨q, hq⟩ := hnD
  have e1 : (num * n + den) / g = a := by rw [ha, Nat.mul_div_cancel_left _ hg0]
  have e2 : den * n / g = b := by rw [hb, Nat.mul_div_cancel_left _ hg0]
  have e3 : D / n = q := by rw [hq, Nat.mul_div_cancel_left _ hn]
  rw [e1, e2, e3]
  refine ⟨?_, ?_⟩
  · rcases Nat.eq_zero_or_pos b with h0 | h0
    · rw [h0] at hb; omega
    · exact h0
  · apply Nat.eq_of_mul_eq_mul_left hg0
    have h1 : g * (a * D) = (num * n + den) * D := by rw [ha, Nat.mul_assoc]
    have h2 : g * (b * (S + q)) = (den * n) * (S + q) := by rw [hb, Nat.mul_assoc]
    rw [h1, h2, Nat.add_mul, Nat.mul_add]
    have h3 : num * n * D = den * n * S := by
      rw [Nat.mul_assoc, Nat.mul_comm n D, ← Nat.mul_assoc, h, Nat.mul_assoc, Nat.mul_comm S n, ← Nat.mul_assoc]
    have h4 : den * D = den * n * q := by rw [hq, Nat.mul_assoc]
    omega

theorem f6_L29_is {R : Type} (N : Nat) (a b c d : Int) (o : List Int) (kb : Int × Int → Option R) (kx : Int → Option R) : f6_L29 N a b c d o kb kx = gcdF kb kx := rfl

theorem law6 (m : Menu) (s : List Choice) : f6 5000 m s = some true := by
  unfold f6
  rw [f12_5000]
  obtain ⟨x, hx⟩ := f13_some 5000 (by omega) m s 62 60 (by omega)
  rw [hx]
  simp only [Option.bind_some, Bool.not_true, cond_false]
  cases x with
  | false => rfl
  | true =>
  simp only [Bool.not_true, cond_false]
  rw [f14_eq 5000 (by omega)]
  simp only [Option.bind_some]
  by_cases hc : chkCode m s = 0
  · have h := chk_zero.1 hc
    obtain ⟨m1, m2, m3, m4⟩ := menuOK_iff.1 h.menu
    have hal := allL_len m s
    have hpl : (ofL (allL m s)).length = m.1.toNat := by rw [ofL_len, hal]
    have hok := okP_ofL (allL m s)
    have htop : top 0 (ofL (allL m s)) = ((kinds m s).length : Int) := top_ofL _
    have hK : (kinds m s).length ≤ 62 := by
      have := nubA_length [] (allL m s)
      rw [allL_len] at this
      simp only [List.length_nil, Nat.zero_add] at this
      show (nubA [] (allL m s)).length ≤ 62
      omega
    have hroom : ((room : Nat) : Int) = 4294967296 := rfl
    simp only [hc, decide_true, Bool.not_true, cond_false]
    rw [f15_eq 5000 (by omega), if_pos hc]
    have e1 : decide (len (ofL (allL m s)) = m.1) = true := by simp only [len, hpl, decide_eq_true_eq]; omega
    simp only [Option.bind_some, decide_true, Bool.not_true, cond_false, e1]
    rw [f25_eq 5000 _ (by omega) (by omega), f26_eq 5000 _ (by omega) (by omega) hok, hok, htop]
    simp only [Option.bind_some, Bool.not_true, cond_false]
    rw [chk_true (by rw [hroom]; simp; omega), Int.toNat_natCast]
    generalize hp : ofL (allL m s) = p at hpl hok htop
    refine iter_for (fun k (q : Int × List Int) => 1 ≤ q.1 ∧ (∀ c : Nat, (c : Int) ∈ p.take k → spM m s c ≤ q.1) ∧ q.2 = tabI (kinds m s).length fun c => if (c : Int) ∈ p.take k then spM m s c else 0) p.length ?_ ?_ 5000 (by omega) _ ?_
    · rintro k ⟨M, o⟩ w hk ⟨i1, i2, i3⟩ hw
      simp only at i1 i2 i3
      subst i3
      obtain ⟨c, hcK, hcp, hct⟩ := class_at (m := m) (s := s) (x := k) (by omega)
      rw [hp, List.getElem?_eq_getElem hk] at hcp
      simp only [Option.some.injEq] at hcp
      have hsp : ((min (spE m (runL m s k)) 1048576 : Nat) : Int) = spM m s c := by unfold spM spN; rw [hct]
      have hsb : 1 ≤ spM m s c ∧ spM m s c ≤ 1048576 := by
        have := spN_pos h hcK
        simp only [spM]
        omega
      have hkx : chkCode m s = 0 ∧ 0 ≤ (k : Int) ∧ (k : Int) < m.1 := ⟨hc, by omega, by omega⟩
      have hct' : c < (tabI (kinds m s).length fun c => if (c : Int) ∈ p.take k then spM m s c else 0).length := by rw [tabI_len]; exact hcK
      simp only [f6_L11]
      rw [dlt_len hk, cond_true, chk_true (inb_lt hk), idx_lt hk]
      simp only [Option.bind_some]
      rw [f27_eq 5000 (by omega), if_pos hkx]
      simp only [Option.bind_some, Int.toNat_natCast, hsp, decide_true, Bool.not_true, cond_false]
      have b1 : decide (spM m s c < 1) = false := by simp; omega
      have b2 : decide (1048576 < spM m s c) = false := by simp; omega
      rw [b1]
      simp only [cond_false, Option.bind_some]
      rw [b2]
      simp only [cond_false, Option.bind_some]
      rw [hcp, chk_true (inb_lt hct'), idx_lt hct']
      simp only [Option.bind_some, tabI_get]
      have b3 : ((cond (!(decide ((if (c : Int) ∈ p.take k then spM m s c else 0) = 0)))
              (chk (inb (tabI (kinds m s).length fun c => if (c : Int) ∈ p.take k then spM m s c else 0) (c : Int)) (some (!(decide ((if (c : Int) ∈ p.take k then spM m s c else 0) = spM m s c)))))
              (some false)) : Option Bool) = some false := by
        rw [chk_true (inb_lt hct')]
        by_cases hm : (c : Int) ∈ p.take k
        · simp [hm]
        · simp [hm]
      rw [b3]
      simp only [Option.bind_some, cond_false]
      rw [chk_true (inb_lt hct'), wi64_of (by omega) (by omega), setI_nat, tabI_set, maxI_eq]
      refine hw _ ⟨?_, ?_, ?_⟩
      · simp only; omega
      · intro d hd
        rw [take_succ hk, hcp, List.mem_append, List.mem_singleton] at hd
        simp only
        rcases hd with hd | hd
        · have := i2 d hd; omega
        · have : d = c := by omega
          subst this; omega
      · refine tabI_congr fun d hd => ?_
        rw [take_succ hk, hcp]
        by_cases hdc : d = c
        · subst hdc; simp
        · have : ¬ ((d : Int) = (c : Int)) := by omega
          simp [hdc, this]
    · rintro ⟨M, o⟩ w ⟨i1, i2, i3⟩
      simp only at i1 i2 i3
      subst i3
      rw [List.take_length] at i2 ⊢
      have hall : ∀ c, c < (kinds m s).length → (c : Int) ∈ p := by
        intro c hcK
        obtain ⟨x, hx1, hx2⟩ := kinds_get hcK
        have hxl : x < (allL m s).length := by omega
        have hg := ofL_get hxl
        rw [allL_get, hx2] at hg
        have hpn : posOf (kinds m s)[c] (nubA [] (allL m s)) = c := posOf_nodup (l := kinds m s) (nubA_nodup [] _ (by simp)) hcK
        rw [hpn, hp] at hg
        exact List.mem_of_getElem? hg
      have htab : (tabI (kinds m s).length fun c => if (c : Int) ∈ p then spM m s c else 0) = tabI (kinds m s).length (spM m s) := tabI_congr fun c hcK => if_pos (hall c hcK)
      rw [htab]
      have hmost := most_ok h (fun c hcK => i2 c (hall c hcK)) i1
      have hlt : len (tabI (kinds m s).length (spM m s)) = ((kinds m s).length : Int) := by simp only [len, tabI_len]
      have b1 : decide (M < len (tabI (kinds m s).length (spM m s))) = false := by rw [hlt]; simp; omega
      simp only [f6_L11]
      rw [dnlt_len, cond_false, b1, cond_false, hlt]
      have hD := denD_pos h
      refine iter_for (fun k (q : Int × Int) => ∃ den num : Nat, q = ((den : Int), (num : Int)) ∧ 1 ≤ den ∧ num * denD m s = den * sumM (fun t => denD m s / spE m t) ((kinds m s).take k)) (kinds m s).length ?_ ?_ 5000 (by omega) _ ⟨1, 0, rfl, by omega, by simp [sumM]⟩
      · rintro k q w2 hk ⟨den, num, rfl, hden, hnum⟩ hw2
        have hkt : k < (tabI (kinds m s).length (spM m s)).length := by rw [tabI_len]; exact hk
        have b2 : decide ((k : Int) < ((kinds m s).length : Int)) = true := by simp; omega
        simp only [f6_L23]
        rw [b2, cond_true, chk_true (inb_lt hkt), idx_lt hkt]
        simp only [Option.bind_some, tabI_get]
        by_cases c1 : spM m s k = 1048576
        · simp [c1]
        by_cases c2 : 68719476736 < (den : Int)
        · simp [c1, c2]
        have hspk : spN m s k = spE m (kinds m s)[k] := by
          unfold spN; rw [List.getD_eq_getElem?_getD, List.getElem?_eq_getElem hk]; rfl
        have hn1 := spN_pos h hk
        have hn2 : spN m s k < 1048576 := by simp only [spM] at c1; omega
        have hsn : spM m s k = ((spN m s k : Nat) : Int) := by simp only [spM]; omega
        generalize hnn : spN m s k = n at hn1 hn2 hsn hspk
        have hSle : sumM (fun t => denD m s / spE m t) ((kinds m s).take k) ≤ denD m s := by
          have h1 := kraft_D h
          have h2 := sumM_append (fun t => denD m s / spE m t) ((kinds m s).take k) ((kinds m s).drop k)
          rw [List.take_append_drop, h1] at h2
          omega
        have hnd : num ≤ den := by
          have h1 : num * denD m s ≤ den * denD m s := by rw [hnum]; exact Nat.mul_le_mul_left _ hSle
          exact Nat.le_of_mul_le_mul_right h1 hD
        have hdv : n ∣ denD m s := by rw [hspk]; exact dvd_prodM (List.getElem_mem hk)
        have hden2 : den ≤ 68719476736 := by omega
        have hmul1 : den * n ≤ 68719476736 * 1048576 := Nat.mul_le_mul hden2 (by omega)
        have hmul2 : num * n ≤ 68719476736 * 1048576 := Nat.mul_le_mul (by omega) (by omega)
        obtain ⟨hs1, hs2⟩ := frac_step hn1 hden hdv hnum
        have hgp : 0 < Nat.gcd (num * n + den) (den * n) := Nat.gcd_pos_of_pos_right _ (Nat.mul_pos hden hn1)
        have e2 : wi64 ((den : Int) * (n : Int)) = ((den * n : Nat) : Int) := by
          have : (den : Int) * (n : Int) = ((den * n : Nat) : Int) := by push_cast; rfl
          rw [this]; exact wi64_of (by omega) (by omega)
        have e3 : wi64 (wi64 ((num : Int) * (n : Int)) + (den : Int)) = ((num * n + den : Nat) : Int) := by
          have : (num : Int) * (n : Int) = ((num * n : Nat) : Int) := by push_cast; rfl
          rw [this, wi64_of (n := ((num * n : Nat) : Int)) (by omega) (by omega), wi64_of (by omega) (by omega)]
          push_cast; rfl
        rw [decide_eq_false c1, decide_eq_false c2]
        simp only [cond_false, Option.bind_some]
        rw [hsn, e2, e3]
        simp only [f6_L29_is]
        rw [gcd_loop _ 60 (den * n) (num * n + den) 5000 (by omega) (by omega)]
        have b3 : decide (((Nat.gcd (num * n + den) (den * n) : Nat) : Int) = 0) = false := by simp; omega
        rw [b3]
        simp only [cond_false]
        have e4 : Int.tdiv ((den * n : Nat) : Int) ((Nat.gcd (num * n + den) (den * n) : Nat) : Int) = ((den * n / Nat.gcd (num * n + den) (den * n) : Nat) : Int) := rfl
        have e5 : Int.tdiv ((num * n + den : Nat) : Int) ((Nat.gcd (num * n + den) (den * n) : Nat) : Int) = (((num * n + den) / Nat.gcd (num * n + den) (den * n) : Nat) : Int) := rfl
        have l1 : den * n / Nat.gcd (num * n + den) (den * n) ≤ den * n := Nat.div_le_self _ _
        have l2 : (num * n + den) / Nat.gcd (num * n + den) (den * n) ≤ num * n + den := Nat.div_le_self _ _
        have q1 : ((den * n / Nat.gcd (num * n + den) (den * n) : Nat) : Int) ≤ ((68719476736 * 1048576 : Nat) : Int) := Int.ofNat_le.2 (Nat.le_trans l1 hmul1)
        have q2 : (((num * n + den) / Nat.gcd (num * n + den) (den * n) : Nat) : Int) ≤ ((68719476736 * 1048576 + 68719476736 : Nat) : Int) := Int.ofNat_le.2 (Nat.le_trans l2 (Nat.add_le_add hmul2 hden2))
        rw [e4, e5, wi64_of (n := (k : Int) + 1) (by omega) (by omega), wi64_of (Int.le_trans (by decide) (Int.natCast_nonneg _)) (Int.le_trans q1 (by decide)), wi64_of (Int.le_trans (by decide) (Int.natCast_nonneg _)) (Int.le_trans q2 (by decide))]
        refine hw2 _ ⟨_, _, rfl, hs1, ?_⟩
        rw [hs2, take_succ hk, sumM_append]
        simp only [sumM, Nat.add_zero, hspk]
      · rintro q w2 ⟨den, num, rfl, hden, hnum⟩
        rw [List.take_length, kraft_D h] at hnum
        have hnd : num = den := Nat.eq_of_mul_eq_mul_right hD hnum
        have b2 : decide (((kinds m s).length : Int) < ((kinds m s).length : Int)) = false := by simp
        simp only [f6_L23]
        rw [b2, cond_false, hnd]
        simp
    · refine ⟨by simp, by intro c hcm; simp at hcm, ?_⟩
      simp only [List.take_zero, List.not_mem_nil, if_false]
      exact tabI_rep _
  · simp [hc]

end Go.Kz
