/-
  Layer 06, plain: the search by rounds; what is reached; laws 11, 6, 9.
-/
import Derived.Test.YtpgoaohglhjbcaaKzD4
set_option linter.unusedVariables false
set_option linter.unusedSimpArgs false
namespace Go.Kz

structure Rnd (n : Nat) (E : List (Nat × Nat)) (S : List Nat) (t : Nat) (D : Nat → Int) : Prop where
  low : ∀ x, x < n → D x = -1 ∨ 0 ≤ D x
  sound : ∀ x, x < n → 0 ≤ D x → Lv E S (D x).toNat x
  le : ∀ x, x < n → D x ≤ t
  full : ∀ k x, x < n → k ≤ t → Lv E S k x → 0 ≤ D x ∧ D x ≤ k
structure RndI (n : Nat) (E : List (Nat × Nat)) (S : List Nat) (t m : Nat) (D : Nat → Int) : Prop where
  low : ∀ x, x < n → D x = -1 ∨ 0 ≤ D x
  sound : ∀ x, x < n → 0 ≤ D x → Lv E S (D x).toNat x
  le : ∀ x, x < n → D x ≤ t + 1
  full : ∀ k x, x < n → k ≤ t → Lv E S k x → 0 ≤ D x ∧ D x ≤ k
  seen : ∀ e ∈ E.take m, Lv E S t e.1 → 0 ≤ D e.2
theorem RndI.next {n : Nat} {E : List (Nat × Nat)} {S : List Nat} {t : Nat} {D : Nat → Int} (hN : Nod n E) (h : RndI n E S t E.length D) : Rnd n E S (t + 1) D := by
  refine ⟨h.low, h.sound, fun x hx => by have := h.le x hx; omega, fun k x hx hk hl => ?_⟩
  by_cases e : k ≤ t
  · exact h.full k x hx e hl
  · obtain rfl : k = t + 1 := by omega
    rcases hl with hl | ⟨u, hu, he⟩
    · have := h.full t x hx (Nat.le_refl _) hl; omega
    · have := h.seen (u, x) (by rw [List.take_length]; exact he) hu
      have h2 := h.le x hx
      exact ⟨this, by omega⟩

noncomputable def rB (E : List (Nat × Nat)) (S : List Nat) (x : Nat) : Bool := @decide (∃ k, Lv E S k x) (Classical.propDecidable _)
theorem rB_iff {E : List (Nat × Nat)} {S : List Nat} {x : Nat} : rB E S x = true ↔ ∃ k, Lv E S k x := by
  unfold rB
  exact @decide_eq_true_iff _ (Classical.propDecidable _)
noncomputable def rch (n : Nat) (E : List (Nat × Nat)) (S : List Nat) : List Bool := (List.range n).map fun x => rB E S x
theorem rch_len (n : Nat) (E : List (Nat × Nat)) (S : List Nat) : (rch n E S).length = n := by simp [rch]
theorem Dist.rch {n : Nat} {E : List (Nat × Nat)} {S : List Nat} {D : Nat → Int} (h : Dist n E S D) : (List.range n).map (fun x => decide (0 ≤ D x)) = rch n E S := by
  refine List.map_congr_left fun x hx => ?_
  rw [List.mem_range] at hx
  rw [Bool.eq_iff_iff, rB_iff, decide_eq_true_eq]
  exact ⟨fun h0 => ⟨_, h.sound x hx h0⟩, fun ⟨k, hk⟩ => (h.full k x hx hk).1⟩
theorem f51_eq {n : Nat} {E : List (Nat × Nat)} (hN : Nod n E) (hn : n ≤ 10) {S : List Nat} (hS : Sub n S) (hSl : S.length ≤ 10) : f51 5000 (nx n E) (il S) = some (rch n E S) := by
  refine Yld.eq ?_
  unfold f51
  have e0 : len (nx n E) = (n : Int) := by rw [len_eq, nx_len]
  rw [e0, ckn (by omega), Int.toNat_natCast]
  refine Yld.then (f40_ok hN hn hS hSl) ?_
  rintro r ⟨D, rfl, h⟩
  refine Yld.up (fun k (o : List Bool) => ∃ W : Nat → Bool, o = (List.range n).map W ∧ ∀ x, x < k → W x = decide (0 ≤ D x)) n ?_ ?_ 5000 0 (Nat.zero_le _) (by omega) _ ⟨fun _ => false, ?_, fun x hx => by omega⟩
  · rintro k o w hk ⟨W, rfl, hW⟩ hw
    simp only [f51_L3]
    rw [d_true (show (k : Int) < len (dl n D) by rw [len_eq, dl_len]; omega), wi64_nat (by omega), chk_true (inb_some (dl_get D hk)), idx_some' (dl_get D hk)]
    simp only [cond_true, Option.bind_some]
    rw [chk_true (inb_some (map_range_get W hk)), idx_some' (map_range_get W hk), setI_nat, map_set_range]
    refine hw _ ⟨_, rfl, fun x hx => ?_⟩
    by_cases e : x = k
    · subst e; exact upF_self _ _ _
    · rw [upF_ne W _ e]; exact hW x (by omega)
  · rintro o w ⟨W, rfl, hW⟩
    simp only [f51_L3]
    rw [d_false (show ¬ (n : Int) < len (dl n D) by rw [len_eq, dl_len]; omega), cond_false]
    refine Yld.ret ?_
    rw [← h.rch]
    exact List.map_congr_left fun x hx => hW x (List.mem_range.1 hx)
  · apply List.ext_getElem?
    intro i
    by_cases hi : i < n
    · rw [map_range_get _ hi, List.getElem?_replicate_of_lt hi]
    · rw [List.getElem?_eq_none (by simp; omega), List.getElem?_eq_none (by simp; omega)]
end Go.Kz
