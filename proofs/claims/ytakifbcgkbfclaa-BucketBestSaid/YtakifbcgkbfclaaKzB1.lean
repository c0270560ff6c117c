/-
  Layer 44, plain: Check, Settle, Cost; the laws BucketChecks and BucketSettles.
-/
import Derived.Test.YtakifbcgkbfclaaKzP44
import Derived.Test.YtakifbcgkbfclaaKzAR
set_option linter.unusedVariables false
set_option linter.unusedSimpArgs false
namespace Go.Kz
abbrev Tim := Int × (Int × Unit)

theorem known44 : f9 5000 = some true := by kernel_rfl

theorem f12_eq : f12 = f13 := rfl
theorem f14_eq : f14 = f15 := rfl
theorem f10_eq : f10 = f11 := rfl

/-- What Settle says. -/
def SetTo (l : List Int) (t r : Int) : Prop := (r = t ∧ ∀ x ∈ l, x < t) ∨ (r ∈ l ∧ t ≤ r ∧ ∀ x ∈ l, t ≤ x → r ≤ x)

theorem f14_ok (l : List Int) (t : Int) (hl : l.length ≤ 4000) : Yld (f14 5000 l t) (SetTo l t) := by
  unfold f14
  refine Yld.up (fun k s => (s.2 = false → s.1 = t ∧ ∀ x ∈ l.take k, x < t) ∧ (s.2 = true → s.1 ∈ l.take k ∧ t ≤ s.1 ∧ ∀ x ∈ l.take k, t ≤ x → s.1 ≤ x)) l.length ?_ ?_ 5000 0 (Nat.zero_le _) (by omega) (t, false) ⟨fun _ => ⟨rfl, by simp⟩, fun h => by simp at h⟩
  · rintro k ⟨b, fd⟩ w hk ⟨h1, h2⟩ hw
    simp only [f14_L3]
    rw [dlt_len hk]
    simp only [cond_true]
    refine Yld.bind (Yld.idxN hk ?_)
    rw [wi64_nat (by omega)]
    have ht : l.take (k + 1) = l.take k ++ [l[k]] := take_succ hk
    by_cases hx : t ≤ l[k]
    · rw [d_true hx]
      cases fd with
      | false =>
        simp only [Bool.not_false, cond_true, Option.bind_some]
        obtain ⟨hb, hlt⟩ := h1 rfl
        refine hw _ ⟨fun h => by simp at h, fun _ => ⟨by rw [ht]; exact List.mem_append_right _ (by simp), hx, fun y hy hty => ?_⟩⟩
        rw [ht] at hy
        rcases List.mem_append.1 hy with hy | hy
        · have := hlt y hy; omega
        · simp at hy; omega
      | true =>
        obtain ⟨hm, hle, hmin⟩ := h2 rfl
        simp only [Bool.not_true, cond_false, Option.bind_some, cond_true]
        by_cases hlt : l[k] < b
        · rw [d_true hlt]
          refine hw _ ⟨fun h => by simp at h, fun _ => ⟨by rw [ht]; exact List.mem_append_right _ (by simp), hx, fun y hy hty => ?_⟩⟩
          rw [ht] at hy
          rcases List.mem_append.1 hy with hy | hy
          · have := hmin y hy hty; simp only; omega
          · simp at hy; simp only; omega
        · rw [d_false hlt]
          refine hw _ ⟨fun h => by simp at h, fun _ => ⟨by rw [ht]; exact List.mem_append_left _ hm, hle, fun y hy hty => ?_⟩⟩
          rw [ht] at hy
          rcases List.mem_append.1 hy with hy | hy
          · exact hmin y hy hty
          · simp at hy; simp only; omega
    · rw [d_false hx]
      simp only [cond_false, Option.bind_some]
      refine hw _ ⟨fun h => ?_, fun h => ?_⟩
      · obtain ⟨hb, hlt⟩ := h1 h
        refine ⟨hb, fun y hy => ?_⟩
        rw [ht] at hy
        rcases List.mem_append.1 hy with hy | hy
        · exact hlt y hy
        · simp at hy; omega
      · obtain ⟨hm, hle, hmin⟩ := h2 h
        refine ⟨by rw [ht]; exact List.mem_append_left _ hm, hle, fun y hy hty => ?_⟩
        rw [ht] at hy
        rcases List.mem_append.1 hy with hy | hy
        · exact hmin y hy hty
        · simp at hy; omega
  · rintro ⟨b, fd⟩ w ⟨h1, h2⟩
    simp only [f14_L3]
    rw [dnlt_len]
    simp only [cond_false]
    rw [List.take_length] at h1 h2
    refine Yld.ret ?_
    cases fd with
    | false => exact .inl (h1 rfl)
    | true => exact .inr (h2 rfl)

/-- A valid load. -/
def Load (l : List Tim) : Prop := l ≠ [] ∧ l.length ≤ 64 ∧ (∀ x ∈ l, 0 ≤ x.1 ∧ x.1 ≤ 67108864 ∧ 1 ≤ x.2.1 ∧ x.2.1 ≤ 65536) ∧ ∀ (k : Nat) (h : k + 1 < l.length), (l[k]'(by omega)).1 < l[k + 1].1

theorem f12_ok (l : List Tim) : Yld (f12 5000 l) fun r => r = 0 → Load l := by
  unfold f12
  refine Yld.cond (fun h => Yld.ret (by simp)) fun h0 => Yld.cond (fun h => Yld.ret (by simp)) fun h64 => ?_
  simp only [decide_eq_false_iff_not, len_eq] at h0 h64
  have hl : l.length ≤ 64 := by omega
  have hne : l ≠ [] := by intro h; subst h; simp at h0
  refine Yld.upI (fun k => (∀ x ∈ l.take k, 0 ≤ x.1 ∧ x.1 ≤ 67108864 ∧ 1 ≤ x.2.1 ∧ x.2.1 ≤ 65536) ∧ ∀ (j : Nat) (h : j + 1 < l.length), j + 1 < k → (l[j]'(by omega)).1 < l[j + 1].1) l.length ?_ ?_ 5000 0 (Nat.zero_le _) (by omega) ⟨by simp, fun j _ h => by omega⟩
  · rintro k w hk ⟨h1, h2⟩ hw
    simp only [f12_L6]
    rw [dlt_len hk]
    simp only [cond_true]
    refine Yld.bind (Yld.idxN hk ?_)
    rw [wi64_nat (by omega)]
    have ht : l.take (k + 1) = l.take k ++ [l[k]] := take_succ hk
    refine Yld.then (P := fun b => b = false → 0 ≤ l[k].1 ∧ l[k].1 ≤ 67108864) (Yld.cond (fun _ => Yld.ret (by simp)) fun ha => Yld.ret fun hb => ?_) fun b hb => ?_
    · simp at ha hb; omega
    refine Yld.then (P := fun b' => b' = false → b = false ∧ 1 ≤ l[k].2.1) (Yld.cond (fun _ => Yld.ret (by simp)) fun ha => Yld.ret fun hb => ?_) fun b' hb' => ?_
    · simp at hb; exact ⟨ha, by omega⟩
    refine Yld.then (P := fun b'' => b'' = false → b' = false ∧ l[k].2.1 ≤ 65536) (Yld.cond (fun _ => Yld.ret (by simp)) fun ha => Yld.ret fun hb => ?_) fun b'' hb'' => ?_
    · simp at hb; exact ⟨ha, by omega⟩
    refine Yld.cond (fun _ => Yld.ret (by simp)) fun hf => ?_
    obtain ⟨hf', h65⟩ := hb'' hf
    obtain ⟨hf2, h1'⟩ := hb' hf'
    obtain ⟨h0', h67⟩ := hb hf2
    refine Yld.then (P := fun b => b = false → ∀ h : 0 < k, (l[k - 1]'(by omega)).1 < l[k].1) (Yld.cond (fun hp => ?_) fun hp => Yld.ret fun _ h => ?_) fun b3 hb3 => ?_
    · simp at hp
      rw [wi64_pred hp (by omega)]
      refine Yld.bind (Yld.idxN (by omega) (Yld.ret fun hb h => ?_))
      simp at hb; omega
    · simp at hp; omega
    refine Yld.cond (fun _ => Yld.ret (by simp)) fun hf3 => ?_
    refine hw ⟨fun x hx => ?_, fun j hj hjk => ?_⟩
    · rw [ht] at hx
      rcases List.mem_append.1 hx with hx | hx
      · exact h1 x hx
      · simp at hx; subst hx; exact ⟨h0', h67, h1', h65⟩
    · by_cases he : j + 1 = k
      · subst he
        exact hb3 hf3 (by omega)
      · exact h2 j hj (by omega)
  · rintro w ⟨h1, h2⟩
    simp only [f12_L6]
    rw [dnlt_len]
    simp only [cond_false]
    rw [List.take_length] at h1
    exact Yld.ret fun _ => ⟨hne, hl, h1, fun k h => h2 k h h⟩

theorem f10_ok (l : List Tim) (b : List Int) : Yld (f10 5000 l b) fun _ => True := by
  unfold f10
  refine Yld.then (f12_ok l) fun r hr => Yld.cond (fun _ => Yld.ret trivial) fun h => ?_
  have hL := hr (by simpa using h)
  obtain ⟨hne, hl, _, _⟩ := hL
  refine Yld.cond (fun _ => Yld.ret trivial) fun h32 => ?_
  simp only [decide_eq_false_iff_not, len_eq] at h32
  have hb : b.length ≤ 32 := by omega
  have hlast : ∀ w : Int → Option (Int × Int), ∀ k : Nat, b.length ≤ k → Yld (f10_L7 5000 b l w (fun t4 t5 => some (t4, t5))
        (fun (_ : Unit) =>
          (cond (decide ((len b) = 0))
              (some true)
              ((idx b (wi64 ((len b) - 1))).bind fun x_2 =>
              (idx l (wi64 ((len l) - 1))).bind fun x_3 =>
              some (decide (x_2 < x_3.1)))).bind fun b' =>
          (cond b'
              (some true)
              ((idx b (wi64 ((len b) - 1))).bind fun x_4 =>
              some (decide (67108864 < x_4)))).bind fun b_1 =>
          cond b_1
            (some (0, 3))
            (iter (fun w => f10_L15 5000 b l (len l) w
              (fun t8_1 =>
                some (t8_1, 0))) 5000 (0, 0))) (k : Int)) fun _ => True := by
    intro w k hk
    simp only [f10_L7]
    rw [d_false (by simp [len_eq]; omega)]
    simp only [cond_false, len_eq]
    by_cases hb0 : b = []
    · subst hb0
      simp
      exact Yld.ret trivial
    · have hbl : 0 < b.length := List.length_pos_iff.2 hb0
      have hll : 0 < l.length := List.length_pos_iff.2 hne
      rw [d_false (by omega), wi64_pred hbl (by omega), wi64_pred hll (by omega)]
      simp only [cond_false]
      refine Yld.then (P := fun _ => True) (Yld.bind (Yld.idxN (by omega) (Yld.bind (Yld.idxN (by omega) (Yld.ret trivial))))) fun b1 _ => ?_
      refine Yld.then (P := fun _ => True) (Yld.cond (fun _ => Yld.ret trivial) fun _ => Yld.bind (Yld.idxN (by omega) (Yld.ret trivial))) fun b2 _ => ?_
      refine Yld.cond (fun _ => Yld.ret trivial) fun _ => ?_
      refine Yld.up (fun _ _ => True) l.length ?_ ?_ 5000 0 (Nat.zero_le _) (by omega) 0 trivial
      · intro k s w hk _ hw
        simp only [f10_L15]
        rw [d_true (by omega)]
        simp only [cond_true]
        refine Yld.bind (Yld.idxN hk ?_)
        refine Yld.then (f14_ok b _ (by omega)) fun r _ => ?_
        rw [wi64_nat (by omega)]
        exact hw _ trivial
      · intro s w _
        simp only [f10_L15]
        rw [d_false (by omega)]
        exact Yld.ret trivial
  by_cases hb1 : b.length ≤ 1
  · exact Yld.first (by omega) fun w => hlast w 1 hb1
  · refine Yld.upI (fun k => 1 ≤ k) b.length ?_ ?_ 5000 1 (by omega) (by omega) (Nat.le_refl 1)
    · intro k w hk hk1 hw
      simp only [f10_L7]
      rw [dlt_len hk]
      simp only [cond_true]
      refine Yld.bind (Yld.idxN hk ?_)
      rw [wi64_pred (by omega) (by omega), wi64_nat (by omega)]
      refine Yld.bind (Yld.idxN (by omega) ?_)
      exact Yld.cond (fun _ => Yld.ret trivial) fun _ => hw (by omega)
    · intro w _
      exact hlast w _ (Nat.le_refl _)

/-- BucketChecks. -/
theorem law3 (l : List Tim) (b : List Int) (t : Int) : f3 5000 l b t = some true := by
  refine Yld.eq ?_
  unfold f3
  rw [known44]
  simp only [Option.bind_some, Bool.not_true, cond_false]
  refine Yld.then (P := fun c => c = false → l.length ≤ 80 ∧ b.length ≤ 80) (Yld.cond (fun _ => Yld.ret (by simp)) fun h => Yld.ret fun h2 => ?_) fun c hc => ?_
  · simp [len_eq] at h h2; omega
  refine Yld.cond (fun _ => Yld.ret rfl) fun h => ?_
  obtain ⟨h1, h2⟩ := hc h
  rw [← f12_eq, ← f14_eq, ← f10_eq]
  obtain ⟨r1, e1, _⟩ := f10_ok l b
  obtain ⟨r2, e2, _⟩ := f12_ok l
  obtain ⟨r3, e3, _⟩ := f14_ok b t (by omega)
  rw [e1, e2, e3]
  simp
  exact ⟨_, rfl, rfl⟩

theorem f20_ok (l : List Int) (hl : l.length ≤ 80) (hne : l ≠ []) : Yld (f20 5000 l) fun r => r ∈ l ∧ ∀ x ∈ l, x ≤ r := by
  have hpos : 0 < l.length := List.length_pos_iff.2 hne
  unfold f20
  rw [d_false (by simp [len_eq]; omega)]
  simp only [cond_false]
  refine Yld.bind (Yld.idxN (k := 0) hpos ?_)
  refine Yld.up (fun k s => 1 ≤ k ∧ s ∈ l ∧ ∀ x ∈ l.take k, x ≤ s) l.length ?_ ?_ 5000 1 (by omega) (by omega) _ ⟨Nat.le_refl 1, by simp, ?_⟩
  · rintro k s w hk ⟨h1, h2, h3⟩ hw
    simp only [f20_L5]
    rw [dlt_len hk]
    simp only [cond_true]
    refine Yld.bind (Yld.idxN hk ?_)
    rw [wi64_nat (by omega)]
    have ht : l.take (k + 1) = l.take k ++ [l[k]] := take_succ hk
    refine hw _ ⟨by omega, ?_, fun x hx => ?_⟩
    · unfold maxI; split
      · exact List.getElem_mem hk
      · exact h2
    · have hm : s ≤ maxI s l[k] ∧ l[k] ≤ maxI s l[k] := by unfold maxI; split <;> constructor <;> omega
      rw [ht] at hx
      rcases List.mem_append.1 hx with hx | hx
      · have := h3 x hx; omega
      · simp at hx; omega
  · rintro s w ⟨h1, h2, h3⟩
    simp only [f20_L5]
    rw [dnlt_len]
    rw [List.take_length] at h3
    exact Yld.ret ⟨h2, h3⟩
  · intro x hx
    rw [show (1 : Nat) = 0 + 1 from rfl, take_succ hpos] at hx
    simp at hx; omega

theorem f21_ok (l : List Int) (t : Int) (hl : l.length ≤ 80) : Yld (f21 5000 l t) fun r => t ∈ l → r = true := by
  unfold f21 f33
  refine Yld.then (P := fun r => t ∈ l → 0 ≤ r) ?_ fun r hr => Yld.ret fun h => by simpa using hr h
  refine Yld.upI (fun k => t ∉ l.take k) l.length ?_ ?_ 5000 0 (Nat.zero_le _) (by omega) (by simp)
  · intro k w hk hi hw
    simp only [f33_L2]
    rw [dlt_len hk]
    simp only [cond_true]
    refine Yld.bind (Yld.idxN hk ?_)
    rw [wi64_nat (by omega)]
    refine Yld.cond (fun _ => Yld.ret fun _ => by omega) fun h => hw ?_
    rw [take_succ hk]
    simp only [List.mem_append, List.mem_singleton, not_or]
    exact ⟨hi, by simpa using h⟩
  · intro w hi
    simp only [f33_L2]
    rw [dnlt_len]
    rw [List.take_length] at hi
    exact Yld.ret fun h => absurd h hi

/-- BucketSettles. -/
theorem law5 (l : List Int) (s t : Int) : f5 5000 l s t = some true := by
  refine Yld.eq ?_
  unfold f5
  rw [known44]
  simp only [Option.bind_some, Bool.not_true, cond_false]
  refine Yld.cond (fun _ => Yld.ret rfl) fun h => ?_
  have hl : l.length ≤ 80 := by simp [len_eq] at h; omega
  have hst : minI s t ≤ maxI s t := by unfold minI maxI; split <;> split <;> omega
  refine Yld.then (f14_ok l _ (by omega)) fun a ha => Yld.then (f14_ok l _ (by omega)) fun b hb => ?_
  have h1 : ¬ a < minI s t := by rcases ha with ⟨rfl, _⟩ | ⟨_, h, _⟩ <;> omega
  have h2 : ¬ b < maxI s t := by rcases hb with ⟨rfl, _⟩ | ⟨_, h, _⟩ <;> omega
  have h3 : ¬ b < a := by
    rcases ha with ⟨rfl, ha⟩ | ⟨ha, hle, hmin⟩
    · omega
    · rcases hb with ⟨rfl, hb⟩ | ⟨hb, hle2, hmin2⟩
      · have := hb a ha; omega
      · have := hmin b hb (by omega); omega
  rw [d_false h1, d_false h2]
  simp only [cond_false, Option.bind_some]
  rw [d_false h3]
  simp only [cond_false, Option.bind_some]
  refine Yld.then (P := fun c => c = false) ?_ fun c hc => ?_
  · refine Yld.then (f14_ok l a (by omega)) fun r hr => Yld.ret ?_
    have : r = a := by
      rcases hr with ⟨rfl, _⟩ | ⟨hr, hle, hmin⟩
      · rfl
      · rcases ha with ⟨rfl, ha⟩ | ⟨ha, hle2, hmin2⟩
        · have := ha r hr; omega
        · have := hmin a ha (Int.le_refl a); omega
    simp [this]
  subst hc
  simp only [cond_false]
  refine Yld.then (P := fun c => c = false → l ≠ [] ∧ ∃ x ∈ l, t ≤ x) ?_ fun c hc => ?_
  · refine Yld.cond (fun _ => Yld.ret (by simp)) fun h0 => ?_
    have hne : l ≠ [] := by intro h; subst h; simp [len_eq] at h0
    refine Yld.then (f20_ok l hl hne) fun r hr => Yld.ret fun hlt => ⟨hne, r, hr.1, by simpa using hlt⟩
  refine Yld.then (P := fun c => c = true) ?_ fun c hc => Yld.ret hc
  refine Yld.cond (fun _ => Yld.ret rfl) fun h => ?_
  obtain ⟨hne, x, hx, htx⟩ := hc h
  refine Yld.then (f14_ok l t (by omega)) fun r hr => ?_
  have hm : r ∈ l := by
    rcases hr with ⟨rfl, hr⟩ | ⟨hr, _⟩
    · have := hr x hx; omega
    · exact hr
  exact Yld.then (f21_ok l r hl) fun c hc => Yld.ret (hc hm)

end Go.Kz
