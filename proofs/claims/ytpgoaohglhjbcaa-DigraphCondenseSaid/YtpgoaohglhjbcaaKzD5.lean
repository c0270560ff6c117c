/-
  Layer 06, plain: the search by rounds; what is reached; laws 11, 6, 9.
-/
import Derived.Test.YtpgoaohglhjbcaaKzD4
set_option linter.unusedVariables false
set_option linter.unusedSimpArgs false
namespace Go.Kz

structure Rnd (n : Nat) (E : List (Nat × Nat)) (S : List Nat) (t : Nat) (D : Nat → Int) : Prop where
  low : ∀ x, x < n → D x = -1 ∨ 0 ≤ D x
  sound : ∀ x, x < n → 0 ≤ D x → Lv E S (D x).toNat x
  le : ∀ x, x < n → D x ≤ t
  full : ∀ k x, x < n → k ≤ t → Lv E S k x → 0 ≤ D x ∧ D x ≤ k
structure RndI (n : Nat) (E : List (Nat × Nat)) (S : List Nat) (t m : Nat) (D : Nat → Int) : Prop where
  low : ∀ x, x < n → D x = -1 ∨ 0 ≤ D x
  sound : ∀ x, x < n → 0 ≤ D x → Lv E S (D x).toNat x
  le : ∀ x, x < n → D x ≤ t + 1
  full : ∀ k x, x < n → k ≤ t → Lv E S k x → 0 ≤ D x ∧ D x ≤ k
  seen : ∀ e ∈ E.take m, Lv E S t e.1 → 0 ≤ D e.2
theorem RndI.next {n : Nat} {E : List (Nat × Nat)} {S : List Nat} {t : Nat} {D : Nat → Int} (hN : Nod n E) (h : RndI n E S t E.length D) : Rnd n E S (t + 1) D := by
  refine ⟨h.low, h.sound, fun x hx => by have := h.le x hx; omega, fun k x hx hk hl => ?_⟩
  by_cases e : k ≤ t
  · exact h.full k x hx e hl
  · obtain rfl : k = t + 1 := by omega
    rcases hl with hl | ⟨u, hu, he⟩
    · have := h.full t x hx (Nat.le_refl _) hl; omega
    · have := h.seen (u, x) (by rw [List.take_length]; exact he) hu
      have h2 := h.le x hx
      exact ⟨this, by omega⟩

theorem f44_ok {n : Nat} {E : List (Nat × Nat)} (hN : Nod n E) (hn : n ≤ 10) (hl : E.length ≤ 100) {S : List Nat} (hS : Sub n S) (hSl : S.length ≤ 10) (h53 : f53 5000 (grOf n E) (il S) = some true) : Yld (f44 5000 (grOf n E) (il S)) fun r => ∃ D, r = (dl n D, 0) ∧ Dist n E S D := by
  unfold f44
  rw [f22_0 hN hn hl, Option.bind_some, d_true rfl, Bool.not_true, cond_false, h53, Option.bind_some, Bool.not_true, cond_false]
  refine Yld.up (fun k (o : List Int) => o = List.replicate k (-1)) n ?_ ?_ 5000 0 (Nat.zero_le _) (by omega) _ rfl
  · rintro k o w hk rfl hw
    simp only [f44_L8]
    rw [d_true (show (k : Int) < (grOf n E).1 from by show (k : Int) < (n : Int); omega), wi64_nat (by omega), ck0 (by rw [List.length_replicate]; omega)]
    refine hw _ ?_
    rw [List.replicate_succ']
  rintro o w rfl
  simp only [f44_L8]
  rw [d_false (show ¬ (n : Int) < (grOf n E).1 from by show ¬ (n : Int) < (n : Int); omega), cond_false, rep_dl]
  refine Yld.up (fun k (o : List Int) => ∃ D, o = dl n D ∧ (∀ x, x < n → D x = -1 ∨ (D x = 0 ∧ x ∈ S)) ∧ (∀ x ∈ S.take k, D x = 0)) S.length ?_ ?_ 5000 0 (Nat.zero_le _) (by omega) _ ⟨_, rfl, fun x hx => .inl rfl, fun x hx => by simp at hx⟩
  · rintro k o w hk ⟨D, rfl, h1, h2⟩ hw
    simp only [f44_L12]
    have hkn := hS _ (List.getElem_mem hk)
    rw [d_true (show (k : Int) < len (il S) by rw [len_eq, il_len]; omega), wi64_nat (by omega), idx_some' (il_get hk)]
    simp only [cond_true, Option.bind_some]
    rw [chk_true (inb_some (dl_get D hkn)), idx_some' (dl_get D hkn)]
    simp only [Option.bind_some]
    rw [dl_set]
    refine hw _ ⟨_, rfl, fun x hx => ?_, fun x hx => ?_⟩
    · by_cases e : x = S[k]
      · subst e; rw [upF_self]; exact .inr ⟨rfl, List.getElem_mem hk⟩
      · rw [upF_ne D _ e]; exact h1 x hx
    · rw [take_succ hk] at hx
      by_cases e : x = S[k]
      · subst e; exact upF_self _ _ _
      · rw [upF_ne D _ e]
        exact h2 x ((List.mem_append.1 hx).elim id fun h => absurd (List.mem_singleton.1 h) e)
  rintro o w ⟨D, rfl, h1, h2⟩
  simp only [f44_L12]
  rw [d_false (show ¬ ((S.length : Nat) : Int) < len (il S) by rw [len_eq, il_len]; omega), cond_false]
  rw [List.take_length] at h2
  refine Yld.up (fun t (o : List Int) => ∃ D, o = dl n D ∧ Rnd n E S t D) n ?_ ?_ 5000 0 (Nat.zero_le _) (by omega) _ ⟨D, rfl, fun x hx => ?_, fun x hx h0 => ?_, fun x hx => ?_, fun k x hx hk hL => ?_⟩
  · rintro t o w ht ⟨D, rfl, h⟩ hw
    simp only [f44_L16]
    rw [d_true (show (t : Int) < (grOf n E).1 from by show (t : Int) < (n : Int); omega), wi64_nat (by omega), cond_true]
    refine Yld.up (fun m (o : List Int) => ∃ D, o = dl n D ∧ RndI n E S t m D) E.length ?_ ?_ 5000 0 (Nat.zero_le _) (by omega) _ ⟨D, rfl, h.low, h.sound, fun x hx => by have := h.le x hx; omega, h.full, fun e he => by simp at he⟩
    · rintro m o w2 hm ⟨D, rfl, h⟩ hw2
      simp only [f44_L19]
      rw [d_true (show (m : Int) < len (grOf n E).2.1 by rw [len_eq]; simp only [grOf, toL_len]; omega), wi64_nat (by omega)]
      simp only [cond_true]
      have hmem := List.getElem_mem hm
      have htk := take_succ hm
      rw [show idx (grOf n E).2.1 (m : Int) = some [(E[m].1 : Int), (E[m].2 : Int)] from toL_get hm]
      generalize he : E[m] = e at hmem htk
      have hen := hN e hmem
      simp only [Option.bind_some]
      rw [show idx [(e.1 : Int), (e.2 : Int)] 0 = some (e.1 : Int) from rfl, show idx [(e.1 : Int), (e.2 : Int)] 1 = some (e.2 : Int) from rfl]
      simp only [Option.bind_some]
      rw [chk_true (inb_some (dl_get D hen.1)), idx_some' (dl_get D hen.1)]
      simp only [Option.bind_some]
      rw [chk_true (inb_some (dl_get D hen.2)), idx_some' (dl_get D hen.2)]
      simp only [Option.bind_some]
      rw [bindc', chk_true (inb_some (dl_get D hen.2)), wi64_nat (show t < 9223372036854775807 by omega), dl_set]
      refine Yld.cond (fun hc => ?_) fun hc => ?_
      · simp only [Bool.and_eq_true, decide_eq_true_eq] at hc
        have hLt : Lv E S t e.1 := by
          have := h.sound e.1 hen.1 (by omega)
          rwa [hc.1, Int.toNat_natCast] at this
        refine hw2 _ ⟨_, rfl, fun x hx => ?_, fun x hx h0 => ?_, fun x hx => ?_, fun k x hx hk hL => ?_, fun x hx hL => ?_⟩
        · by_cases ex : x = e.2
          · subst ex; rw [upF_self]; right; omega
          · rw [upF_ne D _ ex]; exact h.low x hx
        · by_cases ex : x = e.2
          · subst ex
            rw [upF_self, show ((t : Int) + 1).toNat = t + 1 from by omega]
            exact .inr ⟨e.1, hLt, hmem⟩
          · rw [upF_ne D _ ex] at h0 ⊢; exact h.sound x hx h0
        · by_cases ex : x = e.2
          · subst ex; rw [upF_self]; omega
          · rw [upF_ne D _ ex]; exact h.le x hx
        · by_cases ex : x = e.2
          · subst ex; have := h.full k _ hx hk hL; omega
          · rw [upF_ne D _ ex]; exact h.full k x hx hk hL
        · by_cases ex : x.2 = e.2
          · rw [ex, upF_self]; omega
          · rw [upF_ne D _ ex]
            rw [htk] at hx
            rcases List.mem_append.1 hx with hx | hx
            · exact h.seen x hx hL
            · rw [List.mem_singleton] at hx; subst hx; exact absurd rfl ex
      · simp only [Bool.and_eq_false_iff, decide_eq_false_iff_not] at hc
        refine hw2 _ ⟨D, rfl, h.low, h.sound, h.le, h.full, fun x hx hL => ?_⟩
        rw [htk] at hx
        rcases List.mem_append.1 hx with hx | hx
        · exact h.seen x hx hL
        · rw [List.mem_singleton] at hx
          subst hx
          have a := h.full t x.1 hen.1 (Nat.le_refl _) hL
          rcases hc with hc | hc
          · have b := h.sound x.1 hen.1 a.1
            exact (h.full ((D x.1).toNat + 1) x.2 hen.2 (by omega) (.inr ⟨x.1, b, hmem⟩)).1
          · rcases h.low x.2 hen.2 with h5 | h5
            · exact absurd h5 hc
            · exact h5
    · rintro o w2 ⟨D, rfl, h⟩
      simp only [f44_L19]
      rw [d_false (show ¬ (E.length : Int) < len (grOf n E).2.1 by rw [len_eq]; simp only [grOf, toL_len]; omega), cond_false]
      exact hw _ ⟨D, rfl, h.next hN⟩
  · rintro o w ⟨D, rfl, h⟩
    simp only [f44_L16]
    rw [d_false (show ¬ (n : Int) < (grOf n E).1 from by show ¬ (n : Int) < (n : Int); omega), cond_false]
    obtain ⟨_, _, D0, _, h0⟩ := f40_ok hN hn hS hSl
    refine Yld.ret ⟨D, rfl, h.low, h.sound, fun k x hx hL => ?_⟩
    have a := h0.full k x hx hL
    have b := h0.sound x hx a.1
    have c := h0.lt hN hS hx
    have d := h.full (D0 x).toNat x hx (by omega) b
    omega
  · rcases h1 x hx with h | h
    · exact .inl h
    · right; omega
  · rcases h1 x hx with h | h
    · omega
    · rw [h.1]; exact h.2
  · rcases h1 x hx with h | h <;> omega
  · obtain rfl : k = 0 := by omega
    have := h2 x hL
    omega

noncomputable def rB (E : List (Nat × Nat)) (S : List Nat) (x : Nat) : Bool := @decide (∃ k, Lv E S k x) (Classical.propDecidable _)
theorem rB_iff {E : List (Nat × Nat)} {S : List Nat} {x : Nat} : rB E S x = true ↔ ∃ k, Lv E S k x := by
  unfold rB
  exact @decide_eq_true_iff _ (Classical.propDecidable _)
noncomputable def rch (n : Nat) (E : List (Nat × Nat)) (S : List Nat) : List Bool := (List.range n).map fun x => rB E S x
theorem rch_len (n : Nat) (E : List (Nat × Nat)) (S : List Nat) : (rch n E S).length = n := by simp [rch]
theorem Dist.rch {n : Nat} {E : List (Nat × Nat)} {S : List Nat} {D : Nat → Int} (h : Dist n E S D) : (List.range n).map (fun x => decide (0 ≤ D x)) = rch n E S := by
  refine List.map_congr_left fun x hx => ?_
  rw [List.mem_range] at hx
  rw [Bool.eq_iff_iff, rB_iff, decide_eq_true_eq]
  exact ⟨fun h0 => ⟨_, h.sound x hx h0⟩, fun ⟨k, hk⟩ => (h.full k x hx hk).1⟩
theorem f51_eq {n : Nat} {E : List (Nat × Nat)} (hN : Nod n E) (hn : n ≤ 10) {S : List Nat} (hS : Sub n S) (hSl : S.length ≤ 10) : f51 5000 (nx n E) (il S) = some (rch n E S) := by
  refine Yld.eq ?_
  unfold f51
  have e0 : len (nx n E) = (n : Int) := by rw [len_eq, nx_len]
  rw [e0, ckn (by omega), Int.toNat_natCast]
  refine Yld.then (f40_ok hN hn hS hSl) ?_
  rintro r ⟨D, rfl, h⟩
  refine Yld.up (fun k (o : List Bool) => ∃ W : Nat → Bool, o = (List.range n).map W ∧ ∀ x, x < k → W x = decide (0 ≤ D x)) n ?_ ?_ 5000 0 (Nat.zero_le _) (by omega) _ ⟨fun _ => false, ?_, fun x hx => by omega⟩
  · rintro k o w hk ⟨W, rfl, hW⟩ hw
    simp only [f51_L3]
    rw [d_true (show (k : Int) < len (dl n D) by rw [len_eq, dl_len]; omega), wi64_nat (by omega), chk_true (inb_some (dl_get D hk)), idx_some' (dl_get D hk)]
    simp only [cond_true, Option.bind_some]
    rw [chk_true (inb_some (map_range_get W hk)), idx_some' (map_range_get W hk), setI_nat, map_set_range]
    refine hw _ ⟨_, rfl, fun x hx => ?_⟩
    by_cases e : x = k
    · subst e; exact upF_self _ _ _
    · rw [upF_ne W _ e]; exact hW x (by omega)
  · rintro o w ⟨W, rfl, hW⟩
    simp only [f51_L3]
    rw [d_false (show ¬ (n : Int) < len (dl n D) by rw [len_eq, dl_len]; omega), cond_false]
    refine Yld.ret ?_
    rw [← h.rch]
    exact List.map_congr_left fun x hx => hW x (List.mem_range.1 hx)
  · apply List.ext_getElem?
    intro i
    by_cases hi : i < n
    · rw [map_range_get _ hi, List.getElem?_replicate_of_lt hi]
    · rw [List.getElem?_eq_none (by simp; omega), List.getElem?_eq_none (by simp; omega)]
theorem f36_eq {n : Nat} {E : List (Nat × Nat)} (hN : Nod n E) (hn : n ≤ 10) (hl : E.length ≤ 100) {S : List Nat} (hS : Sub n S) (hSl : S.length ≤ 10) (h53 : f53 5000 (grOf n E) (il S) = some true) : f36 5000 (grOf n E) (il S) = some (rch n E S, 0) := by
  refine Yld.eq ?_
  unfold f36
  refine Yld.then (f44_ok hN hn hl hS hSl h53) ?_
  rintro r ⟨D, rfl, h⟩
  rw [d_true rfl, Bool.not_true, cond_false]
  refine Yld.up (fun k (o : List Bool) => o = (List.range k).map fun x => decide (0 ≤ D x)) n ?_ ?_ 5000 0 (Nat.zero_le _) (by omega) _ rfl
  · rintro k o w hk rfl hw
    simp only [f36_L6]
    rw [d_true (show (k : Int) < len (dl n D) by rw [len_eq, dl_len]; omega), wi64_nat (by omega), chk_true (inb_some (dl_get D hk)), idx_some' (dl_get D hk)]
    simp only [cond_true, Option.bind_some]
    rw [ck0 (by rw [List.length_map, List.length_range]; omega)]
    refine hw _ ?_
    rw [List.range_succ, List.map_append]
    rfl
  · rintro o w rfl
    simp only [f36_L6]
    rw [d_false (show ¬ (n : Int) < len (dl n D) by rw [len_eq, dl_len]; omega), cond_false]
    refine Yld.ret ?_
    rw [h.rch]
end Go.Kz
