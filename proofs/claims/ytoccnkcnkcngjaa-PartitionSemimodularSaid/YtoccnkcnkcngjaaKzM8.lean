/-
  The reference join, refinement, and the laws of order and lattice.
-/
import Derived.Test.YtoccnkcnkcngjaaKzM7
set_option linter.unusedVariables false
set_option linter.unusedSimpArgs false
namespace Go.Kz

theorem sumL_upd : (l : List Int) → (k : Nat) → (v : Int) → (h : k < l.length) → sumL (l.set k v) = sumL l - l[k] + v
  | x :: l, 0, v, _ => by simp only [List.set_cons_zero, List.getElem_cons_zero, sumL]; omega
  | x :: l, k + 1, v, h => by
    have := sumL_upd l k v (by simpa using h)
    simp only [List.set_cons_succ, List.getElem_cons_succ, sumL, this]; omega
theorem sumL_bound {m : Int} : (l : List Int) → (∀ x ∈ l, 0 ≤ x ∧ x ≤ m) → 0 ≤ sumL l ∧ sumL l ≤ m * l.length
  | [], _ => by simp [sumL]
  | x :: l, h => by
    have h1 := sumL_bound l fun y hy => h y (by simp [hy])
    have h2 := h x (by simp)
    simp only [sumL, List.length_cons]
    have : m * ((l.length + 1 : Nat) : Int) = m * l.length + m := by rw [Int.natCast_add, Int.mul_add]; simp
    omega
theorem Sh.sum {n : Nat} {r : List Int} (h : Sh n r) : 0 ≤ sumL r ∧ sumL r ≤ (n : Int) * n := by
  have := sumL_bound (m := n) r ?_
  · rw [h.1] at this; exact this
  · intro x hx
    obtain ⟨i, hi, rfl⟩ := List.mem_iff_getElem.1 hx
    obtain ⟨z, hz, hle⟩ := h.2 i (by rw [← h.1]; exact hi)
    rw [List.getElem?_eq_getElem hi] at hz
    have := Option.some.inj hz
    have := h.1
    omega

/-- Held together in one of the two. -/
def Link (a b : List Int) (i j : Nat) : Prop := a[i]? = a[j]? ∨ b[i]? = b[j]?
/-- No smaller label beside i, among the first j. -/
def Low (a b s : List Int) (i m : Nat) : Prop := ∀ j, j < m → Link a b i j → ∀ u v : Nat, s[i]? = some (u : Int) → s[j]? = some (v : Int) → ¬ v < u

structure Rnd (n : Nat) (a b s0 s : List Int) (fl : Bool) : Prop where
  sh : Sh n s
  snd : Snd n a b s
  down : fl = true → sumL s < sumL s0
  same : fl = false → s = s0

theorem f22_in {N n : Nat} (hN : 100 ≤ N) (hn : n ≤ 64) {a b s0 : List Int} (hla : a.length = n) (hlb : b.length = n) {k : Nat} (hk : k < n) {R : Type} {K : Bool → List Int → Option R} {res : Option R} {s : List Int} {fl : Bool} (hr : Rnd n a b s0 s fl)
    (hK : ∀ s' fl', Rnd n a b s0 s' fl' → (fl' = false → fl = false ∧ Low a b s0 k n) → K fl' s' = res) :
    iter (fun w => f22_L16 N (k : Int) b a w K) N (0, fl, s) = res := by
  refine iter_for (fun j (x : Bool × List Int) => Rnd n a b s0 x.2 x.1 ∧ (x.1 = false → fl = false ∧ Low a b s0 k j)) n ?_ ?_ N (by omega) _ ⟨hr, fun h => ⟨h, by intro j hj; omega⟩⟩
  · rintro j ⟨f, q⟩ w hj ⟨h1, h2⟩ hw
    simp only at h1 h2
    simp only [f22_L16]
    obtain ⟨u, hu, hul⟩ := h1.sh.2 k hk
    obtain ⟨v, hv, hvl⟩ := h1.sh.2 j hj
    have pa : a[k]? = a[j]? ↔ a[k]'(by omega) = a[j]'(by omega) := by rw [List.getElem?_eq_getElem (by omega), List.getElem?_eq_getElem (by omega)]; simp
    have pb : b[k]? = b[j]? ↔ b[k]'(by omega) = b[j]'(by omega) := by rw [List.getElem?_eq_getElem (by omega), List.getElem?_eq_getElem (by omega)]; simp
    have key : (cond (decide (a[k]'(by omega) = a[j]'(by omega))) (some true) ((idx b (k : Int)).bind fun x_4 => (idx b (j : Int)).bind fun x_5 => some (decide (x_4 = x_5)))) = some (decide (a[k]'(by omega) = a[j]'(by omega) ∨ b[k]'(by omega) = b[j]'(by omega))) := by
      by_cases h : a[k]'(by omega) = a[j]'(by omega)
      · simp [h]
      · simp only [h, decide_false, cond_false, false_or, idx_lt (l := b) (k := j) (by omega), idx_lt (l := b) (k := k) (by omega), Option.bind_some]
    have hq := h1.sh.1
    rw [dlt_len (by omega), cond_true, idx_lt (l := a) (k := k) (by omega), idx_lt (l := a) (k := j) (by omega)]
    simp only [Option.bind_some]
    rw [key]
    simp only [Option.bind_some]
    rw [wi64_of (by omega) (by omega)]
    by_cases hR : a[k]'(by omega) = a[j]'(by omega) ∨ b[k]'(by omega) = b[j]'(by omega)
    · have hRel : Link a b k j := by
        rcases hR with h | h
        · exact .inl (pa.2 h)
        · exact .inr (pb.2 h)
      rw [decide_eq_true hR, cond_true, chk_true (inb_lt (by omega)), idx_at hv]
      simp only [Option.bind_some]
      rw [chk_true (inb_lt (by omega)), idx_at hu]
      simp only [Option.bind_some]
      by_cases hlt : v < u
      · have : decide ((v : Int) < (u : Int)) = true := by simp [hlt]
        rw [this, cond_true, chk_true (inb_lt (by omega)), chk_true (inb_lt (by omega)), setI_nat]
        refine hw _ ⟨⟨⟨by simp [hq], fun i hi => ?_⟩, ?_, fun _ => ?_, fun h => by simp at h⟩, fun h => by simp at h⟩
        · simp only
          by_cases he : k = i
          · subst he; exact ⟨v, by rw [List.getElem?_set_self (by omega)], by omega⟩
          · rw [List.getElem?_set_ne he]; exact h1.sh.2 i hi
        · intro c k1 k2 i hi z hz
          simp only at hz
          by_cases he : k = i
          · subst he
            rw [List.getElem?_set_self (by omega)] at hz
            have : v = z := natI hz
            subst this
            rw [h1.snd c k1 k2 j hj v hv]
            rcases hRel with h | h
            · exact (k1 k j hk hj h).symm
            · exact (k2 k j hk hj h).symm
          · rw [List.getElem?_set_ne he] at hz
            exact h1.snd c k1 k2 i hi z hz
        · simp only
          rw [sumL_upd _ _ _ (by omega)]
          obtain ⟨hkq, hkv⟩ := get_some hu
          rw [hkv]
          cases f with
          | true => have := h1.down rfl; omega
          | false => have := h1.same rfl; subst this; omega
      · have : decide ((v : Int) < (u : Int)) = false := by simp; omega
        rw [this, cond_false]
        refine hw _ ⟨h1, fun h => ⟨(h2 h).1, fun i hi hri u' v' hu' hv' => ?_⟩⟩
        by_cases he : i = j
        · subst he
          have hs := h1.same h

          subst hs
          rw [hu] at hu'; rw [hv] at hv'
          have := natI hu'; have := natI hv'; omega
        · exact (h2 h).2 i (by omega) hri u' v' hu' hv'
    · rw [decide_eq_false hR, cond_false]
      simp only [Option.bind_some, cond_false]
      refine hw _ ⟨h1, fun h => ⟨(h2 h).1, fun i hi hri u' v' hu' hv' => ?_⟩⟩
      by_cases he : i = j
      · subst he
        exfalso
        rcases hri with h | h
        · exact hR (.inl (pa.1 h))
        · exact hR (.inr (pb.1 h))
      · exact (h2 h).2 i (by omega) hri u' v' hu' hv'
  · rintro ⟨f, q⟩ w ⟨h1, h2⟩
    simp only at h1 h2
    simp only [f22_L16]
    have : decide ((n : Int) < len a) = false := by simp [len]; omega
    rw [this, cond_false]
    exact hK q f h1 h2

theorem f22_eq (N : Nat) (a b : List Int) (hN : 5000 ≤ N) (hl : a.length ≤ 64) (hab : b.length = a.length) (ha : okP a = true) (hb : okP b = true) :
    ∃ m, f22 N a b = some (m, 0) ∧ IsJoin a.length a b m := by
  suffices h : ∀ res : Option (List Int × Int), (∀ m, IsJoin a.length a b m → some (m, 0) = res) → f22 N a b = res by
    obtain ⟨m, _, hm⟩ := f21_eq N a b (by omega) hl hab ha hb
    exact ⟨m, h _ fun k hk => by rw [hk.unique hm], hm⟩
  intro res hres
  unfold f22
  rw [f39_eq N a b (by omega) hl (by omega), ha, hb]
  simp only [Bool.and_self, if_true, hab, Option.bind_some, decide_true, Bool.not_true, cond_false, len, Int.toNat_natCast]
  rw [chk_make hl]
  refine iter_for (fun k s => s.length = a.length ∧ ∀ i, i < k → s[i]? = some (i : Int)) a.length ?_ ?_ N (by omega) _ ⟨by simp, by intro i hi; omega⟩
  · rintro k s w hk ⟨hs, hi⟩ hw
    simp only [f22_L6]
    rw [dlt_len hk, cond_true, chk_true (inb_lt (by omega)), idx_lt (l := s) (by omega)]
    simp only [Option.bind_some]
    rw [wi64_of (by omega) (by omega), setI_nat]
    refine hw _ ⟨by simp [hs], fun i hi' => ?_⟩
    by_cases he : k = i
    · subst he; rw [List.getElem?_set_self (by omega)]
    · rw [List.getElem?_set_ne he]; exact hi i (by omega)
  rintro s w ⟨hsl, hsi⟩
  simp only [f22_L6]
  rw [dnlt_len, cond_false]
  have h0 : Sh a.length s := ⟨hsl, fun i hi => ⟨i, hsi i hi, Nat.le_refl _⟩⟩
  have h1 : Snd a.length a b s := by
    intro c _ _ i hi z hz
    rw [hsi i hi] at hz
    rw [natI hz]
  have hsum := h0.sum
  have hnn : (a.length : Int) * a.length ≤ 64 * 64 := Int.mul_le_mul (by omega) (by omega) (by omega) (by omega)
  refine iter_rule (fun x : Bool × List Int => Sh a.length x.2 ∧ Snd a.length a b x.2 ∧ (x.1 = false → ∀ i, i < a.length → Low a b x.2 i a.length)) (fun x => (if x.1 = true then 1 else 0) + (sumL x.2).toNat) ?_ N _ ⟨h0, h1, fun h => by simp at h⟩ (by simp; omega)
  rintro ⟨f, q⟩ v ⟨g1, g2, g3⟩ hv
  simp only at g1 g2 g3
  simp only [f22_L10]
  have gs := g1.sum
  cases f with
  | true =>
    rw [cond_true]
    refine iter_for (fun k (x : Bool × List Int) => Rnd a.length a b q x.2 x.1 ∧ (x.1 = false → ∀ i, i < k → Low a b q i a.length)) a.length ?_ ?_ N (by omega) _ ⟨⟨g1, g2, fun h => by simp at h, fun _ => rfl⟩, fun _ i hi => by omega⟩
    · rintro k ⟨f, r⟩ u hk ⟨k1, k2⟩ hu
      simp only at k1 k2
      simp only [f22_L13]
      rw [dlt_len hk, cond_true]
      refine f22_in (by omega) hl rfl hab hk k1 fun s' fl' j1 j2 => ?_
      rw [wi64_of (by omega) (by omega)]
      refine hu _ ⟨j1, fun h i hi => ?_⟩
      obtain ⟨j3, j4⟩ := j2 h
      by_cases he : i = k
      · subst he; exact j4
      · exact k2 j3 i (by omega)
    · rintro ⟨f, r⟩ u ⟨k1, k2⟩
      simp only at k1 k2
      simp only [f22_L13]
      rw [dnlt_len, cond_false]
      refine hv _ ⟨k1.sh, k1.snd, fun h => ?_⟩ ?_
      · have := k1.same h
        simp only at this h ⊢
        rw [this]; exact k2 h
      · have := k1.sh.sum
        cases f with
        | true => have := k1.down rfl; simp; omega
        | false => have := k1.same rfl; subst this; simp
  | false =>
    rw [cond_false, f13_eq N q (by rw [g1.1]; omega) (by rw [g1.1]; omega)]
    simp only [Option.bind_some]
    have hrel : ∀ i j, i < a.length → j < a.length → Link a b i j → q[i]? = q[j]? := by
      intro i j hi hj hR
      obtain ⟨u, hu, _⟩ := g1.2 i hi
      obtain ⟨v, hv, _⟩ := g1.2 j hj
      have c1 := g3 rfl i hi j hj hR u v hu hv
      have c2 := g3 rfl j hj i hi (by rcases hR with h | h; exact .inl h.symm; exact .inr h.symm) v u hv hu
      rw [hu, hv]; congr 2; omega
    refine hres _ (isJoin_ofL g1.1 (fun i j h1 h2 h3 => hrel i j h1 h2 (.inl h3)) (fun i j h1 h2 h3 => hrel i j h1 h2 (.inr h3)) fun c k1 k2 i j h1 h2 h3 => ?_)
    obtain ⟨u, hu, _⟩ := g1.2 i h1
    obtain ⟨v, hv, _⟩ := g1.2 j h2
    rw [← g2 c k1 k2 i h1 u hu, ← g2 c k1 k2 j h2 v hv]
    rw [hu, hv] at h3
    rw [natI h3]

/-! ## Refinement -/
open Classical in
noncomputable def leB (n : Nat) (a b : List Int) : Bool := decide (le n a b)
theorem leB_iff {n : Nat} {a b : List Int} : leB n a b = true ↔ le n a b := by simp [leB]
theorem leB_eq {n : Nat} {a b : List Int} {t : Bool} (h : t = true ↔ le n a b) : t = leB n a b := by
  rw [← leB_iff] at h
  cases t <;> cases hl : leB n a b <;> simp_all

theorem meet_iff {n : Nat} {a b m : List Int} (ha : okP a = true) (hl : a.length = n) (h : IsMeet n a b m) : m = a ↔ le n a b := by
  constructor
  · rintro rfl
    exact fun i j h1 h2 h3 => ((h.pat i j h1 h2).1 h3).2
  · intro hle
    refine le_antisymm h.ok ha (by rw [h.len, hl]) ?_ ?_
    · rw [h.len]; exact fun i j h1 h2 h3 => ((h.pat i j h1 h2).1 h3).1
    · rw [h.len]; exact fun i j h1 h2 h3 => (h.pat i j h1 h2).2 ⟨h3, hle i j h1 h2 h3⟩

theorem f19_ex (N : Nat) (a b : List Int) (hN : 100 ≤ N) (hl : a.length ≤ 64) (hab : b.length = a.length) (ha : okP a = true) (hb : okP b = true) :
    ∃ m, f19 N a b = some (m, 0) ∧ IsMeet a.length a b m := ⟨_, f19_eq N a b hN hl hab ha hb, f19_meet rfl hab ha hb⟩

theorem f23_eq (N : Nat) (a b : List Int) (hN : 100 ≤ N) (hl : a.length ≤ 64) (hab : b.length = a.length) (ha : okP a = true) (hb : okP b = true) :
    f23 N a b = some (leB a.length a b, 0) := by
  obtain ⟨m, h1, h2⟩ := f19_ex N a b hN hl hab ha hb
  unfold f23
  rw [h1]
  have := h2.len
  simp only [Option.bind_some, decide_true, cond_true, f12_eq N m a (by omega) (by omega)]
  rw [leB_eq (t := decide (m = a)) (by rw [decide_eq_true_iff]; exact meet_iff ha rfl h2)]

theorem f24_eq (N : Nat) (a b : List Int) (hN : 100 ≤ N) (hl : a.length ≤ 64) (hab : b.length = a.length) (ha : okP a = true) (hb : okP b = true) :
    f24 N a b = some (leB a.length a b, 0) := by
  unfold f24
  rw [f39_eq N a b hN hl (by omega), ha, hb]
  simp only [Bool.and_self, if_true, hab, Option.bind_some, decide_true, Bool.not_true, cond_false]
  have hno : ∀ i j, i < a.length → j < a.length → a[i]? = a[j]? → b[i]? ≠ b[j]? → leB a.length a b = false := by
    intro i j h1 h2 h3 h4
    cases h : leB a.length a b with
    | false => rfl
    | true => exact absurd (leB_iff.1 h i j h1 h2 h3) h4
  refine iter_forI (fun k => ∀ i j, i < k → j < i → a[i]? = a[j]? → b[i]? = b[j]?) a.length ?_ ?_ N (by omega) (by intro i j hi; omega)
  · intro k w hk hi hw
    simp only [f24_L5]
    rw [dlt_len hk, cond_true]
    refine iter_forI (fun m => ∀ j, j < m → a[k]? = a[j]? → b[k]? = b[j]?) k ?_ ?_ N (by omega) (by intro j hj; omega)
    · intro j v hj hji hv
      simp only [f24_L8]
      have pa : a[k]? = a[j]? ↔ a[k]'(by omega) = a[j]'(by omega) := by rw [List.getElem?_eq_getElem (by omega), List.getElem?_eq_getElem (by omega)]; simp
      have pb : b[k]? = b[j]? ↔ b[k]'(by omega) = b[j]'(by omega) := by rw [List.getElem?_eq_getElem (by omega), List.getElem?_eq_getElem (by omega)]; simp
      rw [dlt hj, cond_true, idx_lt hk, idx_lt (l := a) (k := j) (by omega)]
      simp only [Option.bind_some]
      rw [wi64_of (by omega) (by omega)]
      by_cases h1 : a[k] = a[j]'(by omega)
      · simp only [h1, decide_true, cond_true, idx_lt (l := b) (k := j) (by omega), idx_lt (l := b) (k := k) (by omega), Option.bind_some]
        by_cases h2 : b[k]'(by omega) = b[j]'(by omega)
        · simp only [h2, decide_true, Bool.not_true, cond_false]
          refine hv fun i hi h => ?_
          by_cases he : i = j
          · subst he; exact pb.2 h2
          · exact hji i (by omega) h
        · simp only [h2, decide_false, Bool.not_false, cond_true]
          rw [hno k j hk (by omega) (pa.2 h1) (fun h => h2 (pb.1 h))]
      · simp only [h1, decide_false, cond_false, Option.bind_some]
        refine hv fun i hi h => ?_
        by_cases he : i = j
        · subst he; exact absurd (pa.1 h) h1
        · exact hji i (by omega) h
    · intro v hj
      simp only [f24_L8]
      rw [dnlt, cond_false, wi64_of (by omega) (by omega)]
      refine hw fun i j h1 h2 h3 => ?_
      by_cases he : i = k
      · subst he; exact hj j h2 h3
      · exact hi i j (by omega) h2 h3
  · intro w hi
    simp only [f24_L5]
    rw [dnlt_len, cond_false]
    have : le a.length a b := by
      intro i j h1 h2 h3
      rcases Nat.lt_trichotomy i j with h | h | h
      · exact (hi j i h2 h h3.symm).symm
      · rw [h]
      · exact hi i j h1 h h3
    rw [leB_iff.2 this]

theorem f10_5000 : f10 5000 = some true := by kernel_rfl

theorem law5 (a b : List Int) : f5 5000 a b = some true := by
  unfold f5
  rw [f10_5000]
  simp only [Option.bind_some, Bool.not_true, cond_false]
  by_cases hl : a.length ≤ 64 ∧ b.length ≤ 64
  · obtain ⟨ha, hb⟩ := hl
    have e1 : decide (64 < len a) = false := by simp [len]; omega
    have e2 : decide (64 < len b) = false := by simp [len]; omega
    simp only [e1, e2, cond_false, Option.bind_some]
    by_cases hc : (okP a && okP b) = true ∧ a.length = b.length
    · obtain ⟨h1, h2⟩ := hc
      simp only [Bool.and_eq_true] at h1
      obtain ⟨m1, a1, b1⟩ := f19_ex 5000 a b (by omega) ha h2.symm h1.1 h1.2
      obtain ⟨m2, a2, b2⟩ := f20_eq 5000 a b (by omega) ha h2.symm h1.1 h1.2
      obtain ⟨m3, a3, b3⟩ := f21_eq 5000 a b (by omega) ha h2.symm h1.1 h1.2
      obtain ⟨m4, a4, b4⟩ := f22_eq 5000 a b (by omega) ha h2.symm h1.1 h1.2
      have u1 := b1.unique b2
      have u2 := b3.unique b4
      subst u1; subst u2
      have l1 := b1.len
      have l3 := b3.len
      simp only [a1, a2, a3, a4, f23_eq 5000 a b (by omega) ha h2.symm h1.1 h1.2, f24_eq 5000 a b (by omega) ha h2.symm h1.1 h1.2, Option.bind_some, f12_eq 5000 m1 m1 (by omega) (by omega), f12_eq 5000 m3 m3 (by omega) (by omega), decide_true, cond_true]
    · have hr : (if (okP a && okP b) = true then (if a.length = b.length then 0 else 2) else 1 : Int) ≠ 0 := by
        split
        · split
          · rename_i h1 h2; exact absurd ⟨h1, h2⟩ hc
          · decide
        · decide
      have k1 := f38_eq 5000 a b (by omega) ha hb
      have k2 := f39_eq 5000 a b (by omega) ha hb
      generalize (if (okP a && okP b) = true then (if a.length = b.length then 0 else 2) else 1 : Int) = r at hr k1 k2
      have q1 : f19 5000 a b = some ([], r) := by unfold f19; rw [k1]; simp [hr]
      have q2 : f20 5000 a b = some ([], r) := by unfold f20; rw [k2]; simp [hr]
      have q3 : f21 5000 a b = some ([], r) := by unfold f21; rw [k1]; simp [hr]
      have q4 : f22 5000 a b = some ([], r) := by unfold f22; rw [k2]; simp [hr]
      have q5 : f23 5000 a b = some (false, r) := by unfold f23; rw [q1]; simp [hr]
      have q6 : f24 5000 a b = some (false, r) := by unfold f24; rw [k2]; simp [hr]
      simp only [q1, q2, q3, q4, q5, q6, Option.bind_some, f12_eq 5000 [] [] (by simp) (by simp), decide_true, cond_true]
  · by_cases h1 : 64 < a.length
    · have e1 : decide (64 < len a) = true := by simp [len]; omega
      simp [e1]
    · have e1 : decide (64 < len a) = false := by simp [len]; omega
      have e2 : decide (64 < len b) = true := by simp [len]; omega
      simp [e1, e2]

end Go.Kz
