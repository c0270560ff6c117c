/-
  Layer 44, plain: the law BucketCurve.
-/
import Derived.Test.YtakifbcgkbfclaaKzB6
set_option linter.unusedVariables false
set_option linter.unusedSimpArgs false
namespace Go.Kz

theorem Load.pos {l : List Tim} (hl : Load l) : 0 < l.length := by
  rcases Nat.eq_zero_or_pos l.length with h0 | h0
  · exact absurd (List.eq_nil_of_length_eq_zero h0) hl.1
  · exact h0

/-- The first number of groups that costs at most b. -/
def FirstAt (l : List Tim) (b : Int) (x : Nat) : Prop := x < l.length ∧ dp (grp l) x l.length ≤ b ∧ ∀ y, y < x → b < dp (grp l) y l.length
theorem FirstAt.unique {l : List Tim} {b : Int} {x y : Nat} (h : FirstAt l b x) (k : FirstAt l b y) : x = y := by
  rcases Nat.lt_trichotomy x y with h1 | h1 | h1
  · have := k.2.2 x h1; have := h.2.1; omega
  · exact h1
  · have := h.2.2 y h1; have := k.2.1; omega

theorem f27_ok {l : List Tim} (hl : Load l) (b : Int) : Yld (f27 5000 l b) fun r => (b < 0 → r = (0, 3)) ∧ (0 ≤ b → r.2 = 0 ∧ ∃ x, FirstAt l b x ∧ r.1 = (x : Int) + 1) := by
  have hlen := hl.2.1
  have hpos := hl.pos
  unfold f27
  rw [f23_ok hl (f12_load hl)]
  simp only [Option.bind_some, decide_true, Bool.not_true, cond_false]
  refine Yld.cond (fun hb => Yld.ret ⟨fun _ => rfl, fun h => ?_⟩) fun hb => ?_
  · rw [decide_eq_true_eq] at hb; omega
  · rw [decide_eq_false_iff_not] at hb
    refine Yld.upI (fun k => 1 ≤ k ∧ ∀ y, y + 1 < k → b < dp (grp l) y l.length) l.length ?_ ?_ 5000 1 (by omega) (by omega) ⟨Nat.le_refl _, fun y hy => by omega⟩
    · rintro k w hk ⟨h1, h2⟩ hw
      simp only [f27_L7]
      rw [wi64_pred (by omega) (by omega), wi64_nat (by omega)]
      have g := curve_get (l := l) (j := k - 1) (by omega)
      rw [chk_true (inb_some g), idx_some' g]
      simp only [Option.bind_some]
      refine Yld.cond (fun hc => hw ⟨by omega, fun y hy => ?_⟩) fun hc => Yld.ret ⟨fun h => by omega, fun _ => ⟨rfl, k - 1, ⟨by omega, by simpa using hc, fun y hy => h2 y (by omega)⟩, by simp only; omega⟩⟩
      rw [decide_eq_true_eq] at hc
      by_cases he : y = k - 1
      · subst he; exact hc
      · exact h2 y (by omega)
    · rintro w ⟨h1, h2⟩
      simp only [f27_L7]
      rw [wi64_pred (by omega) (by omega)]
      have g := curve_get (l := l) (j := l.length - 1) (by omega)
      rw [chk_true (inb_some g), idx_some' g]
      simp only [Option.bind_some]
      have h0 := dp_full hl (l.length - 1) l.length (by omega) (Nat.le_refl _)
      rw [d_false (by omega)]
      simp only [cond_false]
      exact Yld.ret ⟨fun h => by omega, fun _ => ⟨rfl, l.length - 1, ⟨by omega, by omega, fun y hy => h2 y (by omega)⟩, by simp only; omega⟩⟩

theorem law7 (a0 : List Tim) (a1 : Int) : f7 5000 a0 a1 = some true := by
  unfold f7
  rw [known44]
  simp only [Option.bind_some, Bool.not_true, cond_false]
  refine Yld.eq ?_
  refine Yld.then (f22_ok a0 (m := 10) (by omega) (by omega)) fun l ht => ?_
  have hl := ht.load
  have h10 := ht.len
  have hpos := hl.pos
  rw [f23_ok hl (f12_load hl)]
  simp only [Option.bind_some, decide_true, Bool.not_true, cond_false]
  have e0 : (!decide (len (curve l) = len l)) = false := by rw [len_eq, len_eq, curve_len]; simp
  rw [e0]
  simp only [cond_false, Option.bind_some]
  rw [len_eq (curve l), curve_len, wi64_pred hpos (by omega)]
  have g1 := curve_get (l := l) (j := l.length - 1) (by omega)
  have g0 := curve_get (l := l) (j := 0) hpos
  rw [chk_true (inb_some g1), idx_some' g1]
  simp only [Option.bind_some]
  rw [dp_full hl (l.length - 1) l.length (by omega) (Nat.le_refl _)]
  simp only [decide_true, Bool.not_true, cond_false]
  have g0' : (curve l)[0]? = some (grp l 0 l.length) := g0
  have i0 : inb (curve l) 0 = true := inb_some (k := 0) g0'
  have x0 : idx (curve l) 0 = some (grp l 0 l.length) := g0'
  rw [chk_true i0, x0]
  simp only [Option.bind_some]
  have hf25 : f25 5000 l 0 (len l) = some (grp l 0 l.length) := f25_ok hl (a := 0) (b := l.length) (Nat.zero_le _) (Nat.le_refl _)
  rw [hf25]
  simp only [Option.bind_some, decide_true, Bool.not_true, cond_false]
  refine Yld.up (fun k (t8 : Int) => (t8 = 0 ∧ ∀ x, x < k → a1 < dp (grp l) x l.length) ∨ ∃ x, x < k ∧ FirstAt l a1 x ∧ t8 = (x : Int) + 1) l.length ?_ ?_ 5000 0 (Nat.zero_le _) (by omega) (0 : Int) (.inl ⟨rfl, fun x hx => by omega⟩)
  · rintro k t8 w hk hinv hw
    simp only [f7_L9]
    rw [dlt hk, wi64_nat (by omega)]
    simp only [cond_true]
    have hb := f26_ok hl (k := k + 1) (by omega) (by omega)
    rw [show ((k + 1 : Nat) : Int) = (k : Int) + 1 from by omega] at hb
    refine Yld.then hb fun r hr => ?_
    obtain ⟨g, B, hB⟩ := hr
    rw [hB.eq]
    simp only [decide_true, Bool.not_true, cond_false, Nat.add_sub_cancel]
    have gk := curve_get (l := l) hk
    have ck : ∀ {R : Type} (x : Option R), chk (inb (curve l) (k : Int)) x = x := fun x => chk_true (inb_some gk)
    simp only [ck]
    rw [idx_some' gk]
    simp only [Option.bind_some, decide_true, Bool.not_true, cond_false]
    have hself := grp_self l l.length
    -- the rest of the round
    have rest : ∀ b4 b6 : Bool, b4 = false → b6 = false → Yld
        ((some b4).bind fun b_5 =>
          (cond b_5 (some true) ((some b6).bind fun b_6 => some b_6)).bind fun b_7 =>
          cond b_7 (some false)
            ((cond (decide (t8 = 0)) (some (decide (dp (grp l) k l.length ≤ a1))) (some false)).bind fun b_8 =>
              cond b_8 (w ((k : Int) + 1, (k : Int) + 1)) (w ((k : Int) + 1, t8)))) (fun y => y = true) := by
      rintro _ _ rfl rfl
      simp only [Option.bind_some, cond_false]
      rcases hinv with ⟨rfl, h2⟩ | ⟨x, h1, h2, rfl⟩
      · simp only [decide_true, cond_true, Option.bind_some]
        refine Yld.cond (fun hc => hw _ (.inr ⟨k, by omega, ⟨hk, by simpa using hc, h2⟩, rfl⟩)) fun hc => hw _ (.inl ⟨rfl, fun x hx => ?_⟩)
        rw [decide_eq_false_iff_not] at hc
        by_cases he : x = k
        · subst he; omega
        · exact h2 x (by omega)
      · rw [d_false (by omega)]
        simp only [cond_false, Option.bind_some]
        exact hw _ (.inr ⟨x, by omega, h2, rfl⟩)
    by_cases k0 : 0 < k
    · rw [d_true (show (0 : Int) < (k : Int) by omega), wi64_pred k0 (by omega)]
      simp only [cond_true]
      have gp := curve_get (l := l) (j := k - 1) (by omega)
      have cp : ∀ {R : Type} (x : Option R), chk (inb (curve l) ((k - 1 : Nat) : Int)) x = x := fun x => chk_true (inb_some gp)
      simp only [cp]
      rw [idx_some' gp]
      simp only [Option.bind_some]
      have hf : (decide (dp (grp l) (k - 1) l.length < dp (grp l) k l.length)) = false := by
        have := dp_mono hself (j := k - 1) (k := k) (by omega)
        exact d_false (by omega)
      rw [hf]
      by_cases k1 : 1 < k
      · rw [d_true (show (1 : Int) < (k : Int) by omega), wi64_of (n := (k : Int) - 2) (by omega) (by omega), show (k : Int) - 2 = ((k - 2 : Nat) : Int) from by omega]
        simp only [cond_true]
        have gq := curve_get (l := l) (j := k - 2) (by omega)
        rw [chk_true (inb_some gq), idx_some' gq]
        simp only [Option.bind_some]
        have r1 := dp_range hl k l.length (Nat.le_refl _)
        have r2 := dp_range hl (k - 1) l.length (Nat.le_refl _)
        have r3 := dp_range hl (k - 2) l.length (Nat.le_refl _)
        rw [wi64_of (n := dp (grp l) (k - 2) l.length - _) (by omega) (by omega), wi64_of (by omega) (by omega)]
        have hc := dp_convex (grp_qi hl) hself (k - 2)
        rw [show k - 2 + 1 = k - 1 from by omega, show k - 2 + 2 = k from by omega] at hc
        rw [d_false (by omega)]
        have hrest := rest false false rfl rfl
        simp only [Option.bind_some, cond_false, cond_true] at hrest ⊢
        exact hrest
      · rw [d_false (show ¬ (1 : Int) < (k : Int) by omega)]
        have hrest := rest false false rfl rfl
        simp only [Option.bind_some, cond_false, cond_true] at hrest ⊢
        exact hrest
    · rw [d_false (show ¬ (0 : Int) < (k : Int) by omega), d_false (show ¬ (1 : Int) < (k : Int) by omega)]
      have hrest := rest false false rfl rfl
      simp only [Option.bind_some, cond_false, cond_true] at hrest ⊢
      exact hrest
  · rintro t8 w hinv
    simp only [f7_L9]
    rw [dnlt]
    simp only [cond_false]
    refine Yld.then (f27_ok hl a1) fun r hr => ?_
    by_cases hb : a1 < 0
    · rw [d_true hb, hr.1 hb]
      simp only [cond_true, decide_true, Option.bind_some]
      exact Yld.ret rfl
    · obtain ⟨h1, x, h2, h3⟩ := hr.2 (by omega)
      rw [d_false hb]
      simp only [cond_false]
      rcases hinv with ⟨_, h4⟩ | ⟨y, _, h5, rfl⟩
      · have := h4 x h2.1
        have := h2.2.1
        omega
      · obtain rfl := h2.unique h5
        rw [h1, h3]
        simp only [decide_true, cond_true, Option.bind_some]
        exact Yld.ret rfl
end Go.Kz
