/-
  Layer 06, plain: laws 6 and 9.
-/
import Derived.Test.YtpgoaohglhjbcaaKzD5
set_option linter.unusedVariables false
set_option linter.unusedSimpArgs false
namespace Go.Kz

theorem rep_map {α : Type} (n : Nat) (c : α) : List.replicate n c = (List.range n).map fun _ => c := by
  apply List.ext_getElem?
  intro i
  by_cases hi : i < n
  · rw [map_range_get _ hi, List.getElem?_replicate_of_lt hi]
  · rw [List.getElem?_eq_none (by simp; omega), List.getElem?_eq_none (by simp; omega)]
theorem inN_iff {n : Nat} {E : List (Nat × Nat)} {a : Int} : inN n E a = true ↔ 0 ≤ a ∧ a < n := by
  unfold inN
  rw [Bool.and_eq_true, decide_eq_true_eq, decide_eq_true_eq]
  exact Iff.rfl
theorem f6_mark {n : Nat} {E : List (Nat × Nat)} (hn : n ≤ 10) (A : List Int) (hA : A.length ≤ 10) (t6 : Int) (o0 : List Int) (h3 : (∃ a ∈ A, inN n E a = false) → t6 = 3 ∧ o0 = []) {R : Type} {Q : R → Prop}
    {kret : Bool → Option R} {kx : List Bool → Option R} (hret : Yld (kret true) Q) (hkx : (∀ a ∈ A, inN n E a = true) → ∀ W : Nat → Bool, (∀ x, x < n → (W x = true ↔ (x : Int) ∈ A)) → Yld (kx ((List.range n).map W)) Q) :
    Yld (iter (fun w => f6_L8 5000 t6 A (len A) o0 (grOf n E) w kret kx) 5000 (0, List.replicate n false)) Q := by
  rw [rep_map]
  refine Yld.up (fun k (o : List Bool) => ∃ W : Nat → Bool, o = (List.range n).map W ∧ (∀ x, x < n → (W x = true ↔ (x : Int) ∈ A.take k)) ∧ ∀ a ∈ A.take k, inN n E a = true) A.length ?_ ?_ 5000 0 (Nat.zero_le _) (by omega) _ ⟨_, rfl, fun x hx => by simp, fun a ha => by simp at ha⟩
  · rintro k o w hk ⟨W, rfl, h1, h2⟩ hw
    simp only [f6_L8]
    rw [dlt_len hk, wi64_nat (by omega), idx_lt hk, cond_true, Option.bind_some, bindc]
    have htk := take_succ hk
    have hmem := List.getElem_mem hk
    generalize A[k] = a at htk hmem
    rw [show (grOf n E).1 = (n : Int) from rfl]
    refine Yld.cond (fun hc => ?_) fun hc => ?_
    · simp only [Bool.or_eq_true, decide_eq_true_eq] at hc
      have hb : inN n E a = false := by
        cases h : inN n E a with
        | false => rfl
        | true => have := inN_iff.1 h; omega
      obtain ⟨rfl, rfl⟩ := h3 ⟨a, hmem, hb⟩
      exact hret
    · simp only [Bool.or_eq_false_iff, decide_eq_false_iff_not] at hc
      obtain ⟨m, rfl⟩ : ∃ m : Nat, a = (m : Int) := ⟨a.toNat, by omega⟩
      have hm : m < n := by omega
      rw [chk_true (inb_some (map_range_get W hm)), idx_some' (map_range_get W hm), Option.bind_some, Option.bind_some, setI_nat, map_set_range]
      refine hw _ ⟨_, rfl, fun x hx => ?_, fun b hb => ?_⟩
      · rw [htk, List.mem_append, List.mem_singleton]
        by_cases e : x = m
        · subst e; rw [upF_self]; simp
        · rw [upF_ne W _ e, h1 x hx]
          constructor
          · exact .inl
          · rintro (h | h)
            · exact h
            · omega
      · rw [htk] at hb
        rcases List.mem_append.1 hb with hb | hb
        · exact h2 b hb
        · rw [List.mem_singleton] at hb; subst hb; exact inN_iff.2 (by omega)
  · rintro o w ⟨W, rfl, h1, h2⟩
    simp only [f6_L8]
    rw [dnlt_len, cond_false]
    rw [List.take_length] at h1 h2
    exact hkx h2 W h1
theorem f6_edges {n : Nat} {E : List (Nat × Nat)} (hN : Nod n E) (hn : n ≤ 10) (hl : E.length ≤ 100) {S : List Nat} (hS : Sub n S) {D : Nat → Int} (h : Dist n E S D) (o2 : List Bool) {R : Type} {Q : R → Prop}
    {kret : Bool → Option R} {kx : List Bool → Option R} (hkx : ∀ W : Nat → Bool, (∀ e ∈ E, 0 ≤ D e.1 → D e.2 = D e.1 + 1 → W e.2 = true) → Yld (kx ((List.range n).map W)) Q) :
    Yld (iter (fun w => f6_L18 5000 (grOf n E).2.1 (len (grOf n E).2.1) (dl n D) o2 w kret kx) 5000 (0, List.replicate n false)) Q := by
  rw [rep_map]
  refine Yld.up (fun k (o : List Bool) => ∃ W : Nat → Bool, o = (List.range n).map W ∧ ∀ e ∈ E.take k, 0 ≤ D e.1 → D e.2 = D e.1 + 1 → W e.2 = true) E.length ?_ ?_ 5000 0 (Nat.zero_le _) (by omega) _ ⟨_, rfl, fun e he => by simp at he⟩
  · rintro k o w hk ⟨W, rfl, hW⟩ hw
    simp only [f6_L18]
    rw [d_true (show (k : Int) < len (grOf n E).2.1 by rw [len_eq]; simp only [grOf, toL_len]; omega), wi64_nat (by omega), cond_true]
    have hmem := List.getElem_mem hk
    have htk := take_succ hk
    rw [show idx (grOf n E).2.1 (k : Int) = some [(E[k].1 : Int), (E[k].2 : Int)] from toL_get hk]
    generalize he : E[k] = e at hmem htk
    have hen := hN e hmem
    rw [Option.bind_some, chk_true (show inb [(e.1 : Int), (e.2 : Int)] 0 = true from rfl), show idx [(e.1 : Int), (e.2 : Int)] 0 = some (e.1 : Int) from rfl, Option.bind_some, chk_true (inb_some (dl_get D hen.1)), idx_some' (dl_get D hen.1), Option.bind_some,
      chk_true (show inb [(e.1 : Int), (e.2 : Int)] 1 = true from rfl), show idx [(e.1 : Int), (e.2 : Int)] 1 = some (e.2 : Int) from rfl, Option.bind_some, chk_true (inb_some (dl_get D hen.2)), idx_some' (dl_get D hen.2), Option.bind_some]
    have hlt := h.lt hN hS hen.1
    have hlow := h.low e.1 hen.1
    rw [wi64_of (n := D e.1 + 1) (by omega) (by omega)]
    have hfull : 0 ≤ D e.1 → 0 ≤ D e.2 ∧ D e.2 ≤ D e.1 + 1 := fun h0 => by
      have := h.full ((D e.1).toNat + 1) e.2 hen.2 (.inr ⟨e.1, h.sound e.1 hen.1 h0, hmem⟩)
      omega
    by_cases h0 : 0 ≤ D e.1
    · have hf := hfull h0
      rw [d_true h0, cond_true, d_false (show ¬ D e.2 < 0 by omega), cond_false, d_false (show ¬ D e.1 + 1 < D e.2 by omega)]
      simp only [Option.bind_some, cond_false, cond_true]
      refine Yld.cond (fun hc => ?_) fun hc => ?_
      · rw [chk_true (inb_some (map_range_get W hen.2)), idx_some' (map_range_get W hen.2), Option.bind_some, Option.bind_some, setI_nat, map_set_range]
        refine hw _ ⟨_, rfl, fun x hx a b => ?_⟩
        by_cases ex : x.2 = e.2
        · rw [ex, upF_self]
        · rw [upF_ne W _ ex]
          rw [htk] at hx
          rcases List.mem_append.1 hx with hx | hx
          · exact hW x hx a b
          · rw [List.mem_singleton] at hx; subst hx; exact absurd rfl ex
      · rw [decide_eq_false_iff_not] at hc
        refine hw _ ⟨_, rfl, fun x hx a b => ?_⟩
        rw [htk] at hx
        rcases List.mem_append.1 hx with hx | hx
        · exact hW x hx a b
        · rw [List.mem_singleton] at hx; subst hx; exact absurd b hc
    · rw [d_false h0]
      simp only [Option.bind_some, cond_false]
      refine hw _ ⟨_, rfl, fun x hx a b => ?_⟩
      rw [htk] at hx
      rcases List.mem_append.1 hx with hx | hx
      · exact hW x hx a b
      · rw [List.mem_singleton] at hx; subst hx; exact absurd a h0
  · rintro o w ⟨W, rfl, hW⟩
    simp only [f6_L18]
    rw [d_false (show ¬ (E.length : Int) < len (grOf n E).2.1 by rw [len_eq]; simp only [grOf, toL_len]; omega), cond_false]
    rw [List.take_length] at hW
    exact hkx W hW
theorem law6 (g : Gr) (A : List Int) (hf : Ty.fits (.pair (.int .i64) (.pair (.sl false (.arr 2 (.int .i64))) .unit)) g) : f6 5000 g A = some true := by
  have hF : Fits g := fun e he => (hf.2.1 e he).1
  refine Yld.eq ?_
  unfold f6
  rw [known06, Option.bind_some, Bool.not_true, cond_false]
  obtain ⟨b, hb⟩ : ∃ b, f14 5000 g = some b := by
    rcases few_cases g hF with h0 | ⟨h0, _⟩
    · exact ⟨_, h0⟩
    · exact ⟨_, h0⟩
  rw [hb, Option.bind_some, bindc]
  cases b with
  | false => exact Yld.ret rfl
  | true =>
  by_cases hA : A.length ≤ 10
  · rw [d_false (show ¬ (10 : Int) < len A by rw [len_eq]; omega)]
    rw [Bool.not_true, Bool.or_self, cond_false]
    have hq := q_cases hF A hA hb
    rcases hq with ⟨c, hc, e1, _, _, e2 | ⟨e2, rfl, n, E, rfl, hn, hbad⟩⟩ | ⟨n, E, S, rfl, hN, hn, hl, rfl, hS, hSl, h39, h53⟩
    · rw [e2, Option.bind_some, d_false hc]
      exact Yld.ret rfl
    · rw [e2, Option.bind_some, d_true rfl, Bool.not_true, Option.bind_some, cond_false, e1, Option.bind_some, show (grOf n E).1 = (n : Int) from rfl, ckn (by omega), Int.toNat_natCast]
      refine f6_mark hn A hA _ _ (fun _ => ⟨rfl, rfl⟩) (Yld.ret rfl) fun hall => ?_
      obtain ⟨a, ha, hb⟩ := hbad
      rw [hall a ha] at hb; cases hb
    · rw [f22_0 hN hn hl, Option.bind_some, d_true rfl, Bool.not_true, Option.bind_some, cond_false]
      refine Yld.then (f23_ok hN hn hl hS hSl h39) ?_
      rintro r ⟨D, rfl, h⟩
      rw [show (grOf n E).1 = (n : Int) from rfl, ckn (by omega), Int.toNat_natCast]
      have hno : ¬ ∃ a ∈ il S, inN n E a = false := by
        rintro ⟨a, ha, hb⟩
        obtain ⟨x, hx, rfl⟩ := List.mem_map.1 ha
        have := inN_iff (n := n) (E := E) (a := (x : Int)).2 (by have := hS x hx; omega)
        rw [this] at hb; cases hb
      refine f6_mark hn (il S) hA _ _ (fun hh => absurd hh hno) (Yld.ret rfl) fun _ W hW => ?_
      · dsimp only
        rw [d_true rfl, Bool.not_true, cond_false, d_true (show len (dl n D) = (n : Int) by rw [len_eq, dl_len]), Bool.not_true, Option.bind_some, cond_false, ckn (by omega)]
        refine f6_edges hN hn hl hS h _ fun W2 hW2 => ?_
        refine Yld.upI (fun _ => True) n ?_ ?_ 5000 0 (Nat.zero_le _) (by omega) trivial
        · rintro k w hk _ hw
          simp only [f6_L27]
          rw [d_true (show (k : Int) < len (dl n D) by rw [len_eq, dl_len]; omega), wi64_nat (by omega), cond_true, chk_true (inb_some (dl_get D hk)), idx_some' (dl_get D hk), Option.bind_some, chk_true (inb_some (map_range_get W hk)), idx_some' (map_range_get W hk), Option.bind_some,
            chk_true (inb_some (map_range_get W2 hk)), idx_some' (map_range_get W2 hk), Option.bind_some]
          have e1 : decide (D k = 0) = W k := by
            rw [Bool.eq_iff_iff, decide_eq_true_eq, hW k hk]
            constructor
            · intro h0
              have := h.sound k hk (by omega)
              rw [h0] at this
              exact List.mem_map.2 ⟨k, this, rfl⟩
            · intro hm
              obtain ⟨x, hx, hxk⟩ := List.mem_map.1 hm
              have := h.full 0 x (hS x hx) hx
              have : x = k := by omega
              subst this
              omega
          rw [e1, d_true rfl, Bool.not_true, cond_false]
          by_cases h0 : 0 < D k
          · have hW2k : W2 k = true := by
              have hs := h.sound k hk (by omega)
              obtain ⟨j, hj⟩ : ∃ j : Nat, (D k).toNat = j + 1 := ⟨(D k).toNat - 1, by omega⟩
              rw [hj] at hs
              rcases hs with hs | ⟨u, hu, he⟩
              · have := h.full j k hk hs; omega
              · have hun := (hN _ he).1
                have a := h.full j u hun hu
                have b := h.sound u hun a.1
                have c := h.full ((D u).toNat + 1) k hk (.inr ⟨u, b, he⟩)
                exact hW2 (u, k) he a.1 (by simp only; omega)
            rw [d_true h0, cond_true, hW2k]
            exact hw trivial
          · rw [d_false h0]
            exact hw trivial
        · rintro w _
          simp only [f6_L27]
          rw [d_false (show ¬ (n : Int) < len (dl n D) by rw [len_eq, dl_len]; omega)]
          exact Yld.ret rfl
  · rw [d_true (show (10 : Int) < len A by rw [len_eq]; omega)]
    exact Yld.ret rfl

end Go.Kz
