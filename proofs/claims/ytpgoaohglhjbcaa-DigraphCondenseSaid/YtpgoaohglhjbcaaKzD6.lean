/-
  Layer 06, plain: laws 6 and 9.
-/
import Derived.Test.YtpgoaohglhjbcaaKzD5
set_option linter.unusedVariables false
set_option linter.unusedSimpArgs false
namespace Go.Kz

theorem rep_map {α : Type} (n : Nat) (c : α) : List.replicate n c = (List.range n).map fun _ => c := by
  apply List.ext_getElem?
  intro i
  by_cases hi : i < n
  · rw [map_range_get _ hi, List.getElem?_replicate_of_lt hi]
  · rw [List.getElem?_eq_none (by simp; omega), List.getElem?_eq_none (by simp; omega)]
theorem inN_iff {n : Nat} {E : List (Nat × Nat)} {a : Int} : inN n E a = true ↔ 0 ≤ a ∧ a < n := by
  unfold inN
  rw [Bool.and_eq_true, decide_eq_true_eq, decide_eq_true_eq]
  exact Iff.rfl
noncomputable def clo (n : Nat) (E : List (Nat × Nat)) : List (List Bool) := (List.range n).map fun a => rch n E [a]
theorem clo_len (n : Nat) (E : List (Nat × Nat)) : (clo n E).length = n := by simp [clo]
theorem clo_get {n : Nat} {E : List (Nat × Nat)} {a : Nat} (h : a < n) : (clo n E)[a]? = some (rch n E [a]) := map_range_get _ h
theorem sub1 {n a : Nat} (h : a < n) : Sub n [a] := fun x hx => by rw [List.mem_singleton] at hx; omega
theorem one_ok {n : Nat} {E : List (Nat × Nat)} (h : Nod n E) (hn : n ≤ 10) (hl : E.length ≤ 100) {S : List Nat} (hS : Sub n S) (hSl : S.length ≤ 10) : f39 5000 (grOf n E) (il S) = some 0 ∧ f53 5000 (grOf n E) (il S) = some true := by
  rcases nodes_cases h hn hl (il S) (by rw [il_len]; omega) with ⟨_, _, y, hy, hb⟩ | ⟨S', hS', _, h1, h2⟩
  · obtain ⟨x, hx, rfl⟩ := List.mem_map.1 hy
    have := inN_iff (n := n) (E := E) (a := (x : Int)).2 (by have := hS x hx; omega)
    rw [this] at hb; cases hb
  · exact ⟨h1, h2⟩
theorem f31_eq {n : Nat} {E : List (Nat × Nat)} (hN : Nod n E) (hn : n ≤ 10) (hl : E.length ≤ 100) : f31 5000 (grOf n E) = some (clo n E, 0) := by
  refine Yld.eq ?_
  unfold f31
  rw [f34_0 hN hn hl, Option.bind_some, d_true rfl, Bool.not_true, cond_false, show (grOf n E).2.1 = toL E from rfl, show (grOf n E).1 = (n : Int) from rfl, f41_eq hN hn hl, Option.bind_some, ckn (by omega), Int.toNat_natCast, rep_map]
  refine Yld.up (fun k (o : List (List Bool)) => ∃ W : Nat → List Bool, o = (List.range n).map W ∧ ∀ x, x < k → W x = rch n E [x]) n ?_ ?_ 5000 0 (Nat.zero_le _) (by omega) _ ⟨_, rfl, fun x hx => by omega⟩
  · rintro k o w hk ⟨W, rfl, hW⟩ hw
    simp only [f31_L7]
    rw [d_true (show (k : Int) < len ((List.range n).map fun _ => ([] : List Bool)) by rw [len_eq, List.length_map, List.length_range]; omega), wi64_nat (by omega), cond_true]
    rw [show ((k : Int) :: ([] : List Int)) = il [k] from rfl, f51_eq hN hn (sub1 hk) (by simp), Option.bind_some, chk_true (inb_some (map_range_get W hk)), idx_some' (map_range_get W hk), Option.bind_some, setI_nat, map_set_range]
    refine hw _ ⟨_, rfl, fun x hx => ?_⟩
    by_cases e : x = k
    · subst e; exact upF_self _ _ _
    · rw [upF_ne W _ e]; exact hW x (by omega)
  · rintro o w ⟨W, rfl, hW⟩
    simp only [f31_L7]
    rw [d_false (show ¬ (n : Int) < len ((List.range n).map fun _ => ([] : List Bool)) by rw [len_eq, List.length_map, List.length_range]; omega), cond_false]
    refine Yld.ret ?_
    unfold clo
    rw [List.map_congr_left fun x hx => hW x (List.mem_range.1 hx)]
theorem f32_eq {n : Nat} {E : List (Nat × Nat)} (hN : Nod n E) (hn : n ≤ 10) (hl : E.length ≤ 100) : f32 5000 (grOf n E) = some (clo n E, 0) := by
  refine Yld.eq ?_
  unfold f32
  rw [f22_0 hN hn hl, Option.bind_some, d_true rfl, Bool.not_true, cond_false]
  refine Yld.up (fun k (o : List (List Bool)) => o = (List.range k).map fun a => rch n E [a]) n ?_ ?_ 5000 0 (Nat.zero_le _) (by omega) _ rfl
  · rintro k o w hk rfl hw
    simp only [f32_L6]
    rw [d_true (show (k : Int) < (grOf n E).1 from by show (k : Int) < (n : Int); omega), wi64_nat (by omega), cond_true]
    rw [show ((k : Int) :: ([] : List Int)) = il [k] from rfl, f36_eq hN hn hl (sub1 hk) (by simp) (one_ok hN hn hl (sub1 hk) (by simp)).2, Option.bind_some, ck0 (by rw [List.length_map, List.length_range]; omega)]
    refine hw _ ?_
    rw [List.range_succ, List.map_append]
    rfl
  · rintro o w rfl
    simp only [f32_L6]
    rw [d_false (show ¬ (n : Int) < (grOf n E).1 from by show ¬ (n : Int) < (n : Int); omega), cond_false]
    exact Yld.ret rfl
theorem bad31 {g : Gr} {c : Int} (h1 : f34 5000 g = some c) (h2 : f22 5000 g = some c) (hc : c ≠ 0) : f31 5000 g = some ([], c) ∧ f32 5000 g = some ([], c) := by
  unfold f31 f32
  rw [h1, h2, Option.bind_some, Option.bind_some, d_false hc]
  exact ⟨rfl, rfl⟩
end Go.Kz
