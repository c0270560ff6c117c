/-
  Layer 06, plain: laws 6 and 9.
-/
import Derived.Test.YtpgoaohglhjbcaaKzD5
set_option linter.unusedVariables false
set_option linter.unusedSimpArgs false
namespace Go.Kz

theorem rep_map {α : Type} (n : Nat) (c : α) : List.replicate n c = (List.range n).map fun _ => c := by
  apply List.ext_getElem?
  intro i
  by_cases hi : i < n
  · rw [map_range_get _ hi, List.getElem?_replicate_of_lt hi]
  · rw [List.getElem?_eq_none (by simp; omega), List.getElem?_eq_none (by simp; omega)]
noncomputable def clo (n : Nat) (E : List (Nat × Nat)) : List (List Bool) := (List.range n).map fun a => rch n E [a]
theorem clo_len (n : Nat) (E : List (Nat × Nat)) : (clo n E).length = n := by simp [clo]
theorem clo_get {n : Nat} {E : List (Nat × Nat)} {a : Nat} (h : a < n) : (clo n E)[a]? = some (rch n E [a]) := map_range_get _ h
theorem sub1 {n a : Nat} (h : a < n) : Sub n [a] := fun x hx => by rw [List.mem_singleton] at hx; omega
theorem f31_eq {n : Nat} {E : List (Nat × Nat)} (hN : Nod n E) (hn : n ≤ 10) (hl : E.length ≤ 100) : f31 5000 (grOf n E) = some (clo n E, 0) := by
  refine Yld.eq ?_
  unfold f31
  rw [f34_0 hN hn hl, Option.bind_some, d_true rfl, Bool.not_true, cond_false, show (grOf n E).2.1 = toL E from rfl, show (grOf n E).1 = (n : Int) from rfl, f41_eq hN hn hl, Option.bind_some, ckn (by omega), Int.toNat_natCast, rep_map]
  refine Yld.up (fun k (o : List (List Bool)) => ∃ W : Nat → List Bool, o = (List.range n).map W ∧ ∀ x, x < k → W x = rch n E [x]) n ?_ ?_ 5000 0 (Nat.zero_le _) (by omega) _ ⟨_, rfl, fun x hx => by omega⟩
  · rintro k o w hk ⟨W, rfl, hW⟩ hw
    simp only [f31_L7]
    rw [d_true (show (k : Int) < len ((List.range n).map fun _ => ([] : List Bool)) by rw [len_eq, List.length_map, List.length_range]; omega), wi64_nat (by omega), cond_true]
    rw [show ((k : Int) :: ([] : List Int)) = il [k] from rfl, f51_eq hN hn (sub1 hk) (by simp), Option.bind_some, chk_true (inb_some (map_range_get W hk)), idx_some' (map_range_get W hk), Option.bind_some, setI_nat, map_set_range]
    refine hw _ ⟨_, rfl, fun x hx => ?_⟩
    by_cases e : x = k
    · subst e; exact upF_self _ _ _
    · rw [upF_ne W _ e]; exact hW x (by omega)
  · rintro o w ⟨W, rfl, hW⟩
    simp only [f31_L7]
    rw [d_false (show ¬ (n : Int) < len ((List.range n).map fun _ => ([] : List Bool)) by rw [len_eq, List.length_map, List.length_range]; omega), cond_false]
    refine Yld.ret ?_
    unfold clo
    rw [List.map_congr_left fun x hx => hW x (List.mem_range.1 hx)]
end Go.Kz
