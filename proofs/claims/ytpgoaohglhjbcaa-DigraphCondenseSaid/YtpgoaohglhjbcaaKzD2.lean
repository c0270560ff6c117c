/-
  Layer 06, plain: simple graphs; law 7 but the loops over neighbours.
-/
import Derived.Test.YtpgoaohglhjbcaaKzD1
set_option linter.unusedVariables false
set_option linter.unusedSimpArgs false
namespace Go.Kz

def ky (e : Nat × Nat) : Nat := 10 * e.1 + e.2
def prL (e : Nat × Nat) : List Int := [(e.1 : Int), (e.2 : Int)]
/-- All second parts below ten. -/
def Lo (E : List (Nat × Nat)) : Prop := ∀ e ∈ E, e.1 < 10 ∧ e.2 < 10
theorem ky_inj {x y : Nat × Nat} (hx : x.2 < 10) (hy : y.2 < 10) (h : ky x = ky y) : x = y := by
  unfold ky at h
  exact Prod.ext (by omega) (by omega)
theorem Nod.lo {n : Nat} {E : List (Nat × Nat)} (h : Nod n E) (hn : n ≤ 10) : Lo E := fun e he => by have := h e he; omega

theorem f60_eq {x y : Nat × Nat} (hx : x.1 < 10 ∧ x.2 < 10) (hy : y.1 < 10 ∧ y.2 < 10) : f60 5000 (prL x) (prL y) = some (if x.1 = y.1 then (x.2 : Int) - y.2 else (x.1 : Int) - y.1) := by
  obtain ⟨a, b⟩ := x
  obtain ⟨c, d⟩ := y
  unfold f60
  show cond (!decide ((a : Int) = (c : Int))) (some (wi64 ((a : Int) - c))) (some (wi64 ((b : Int) - d))) = _
  simp only at hx hy
  by_cases h : a = c
  · rw [d_true (show (a : Int) = c by omega), if_pos h, wi64_of (n := (b : Int) - d) (by omega) (by omega)]; rfl
  · rw [d_false (show ¬ (a : Int) = c by omega), if_neg h, wi64_of (n := (a : Int) - c) (by omega) (by omega)]; rfl
theorem lt60 {x y : Nat × Nat} (hx : x.1 < 10 ∧ x.2 < 10) (hy : y.1 < 10 ∧ y.2 < 10) : ltI (cmpO fun x y => f60 5000 x y) (prL x) (prL y) = decide (ky x < ky y) := by
  unfold ltI cmpO
  show decide ((f60 5000 (prL x) (prL y)).getD 0 < 0) = _
  rw [f60_eq hx hy]
  simp only [Option.getD_some]
  have k1 : ky x = 10 * x.1 + x.2 := rfl
  have k2 : ky y = 10 * y.1 + y.2 := rfl
  split
  · rw [Bool.eq_iff_iff]; simp only [decide_eq_true_eq]; omega
  · rw [Bool.eq_iff_iff]; simp only [decide_eq_true_eq]; omega
theorem f59_ok (E : List (Nat × Nat)) (hlo : Lo E) (hl : E.length ≤ 100) : ∃ E' : List (Nat × Nat), E'.Perm E ∧ E'.Pairwise (fun x y => ky x ≤ ky y) ∧ f59 5000 () (toL E) = some (((), ()), (toL E', ())) := by
  have hm : ∀ x ∈ toL E, ∃ e, (e.1 < 10 ∧ e.2 < 10) ∧ x = prL e ∧ e ∈ E := fun x hx => by
    obtain ⟨e, he, rfl⟩ := List.mem_map.1 hx
    exact ⟨e, hlo e he, rfl, he⟩
  have hord : OrdOn (ltI (cmpO fun x y => f60 5000 x y)) (· ∈ toL E) := by
    refine ⟨fun x hx => ?_, fun x y z hx hy hz h1 h2 => ?_, fun x y z hx hy hz h1 h2 => ?_⟩
    · obtain ⟨e, h1, rfl, _⟩ := hm x hx
      rw [lt60 h1 h1]; simp
    · obtain ⟨e, he, rfl, _⟩ := hm x hx
      obtain ⟨e2, he2, rfl, _⟩ := hm y hy
      obtain ⟨e3, he3, rfl, _⟩ := hm z hz
      rw [lt60 he he2, decide_eq_true_eq] at h1
      rw [lt60 he2 he3, decide_eq_true_eq] at h2
      rw [lt60 he he3, decide_eq_true_eq]; omega
    · obtain ⟨e, he, rfl, _⟩ := hm x hx
      obtain ⟨e2, he2, rfl, _⟩ := hm y hy
      obtain ⟨e3, he3, rfl, _⟩ := hm z hz
      rw [lt60 he he2, decide_eq_false_iff_not] at h1
      rw [lt60 he2 he3, decide_eq_false_iff_not] at h2
      rw [lt60 he he3, decide_eq_false_iff_not]; omega
  have hB : ordB (fun x y => f60 5000 x y) (toL E) = true := ordB_of hord fun x hx y hy => by
    obtain ⟨e, h1, rfl, _⟩ := hm x hx
    obtain ⟨e2, h2, rfl, _⟩ := hm y hy
    rw [f60_eq h1 h2]; rfl
  have hS : sepB (eqT (.arr 2 (.int .i64))) (ltI (cmpO fun x y => f60 5000 x y)) (toL E) = true := by
    unfold sepB
    rw [allB_iff]
    intro x hx
    rw [allB_iff]
    intro y hy
    obtain ⟨e, h1, rfl, _⟩ := hm x hx
    obtain ⟨e2, h2, rfl, _⟩ := hm y hy
    rw [lt60 h1 h2, lt60 h2 h1]
    by_cases hk : ky e = ky e2
    · rw [ky_inj h1.2 h2.2 hk]
      have := eqT_refl (.arr 2 (.int .i64)) (prL e2)
      rw [this]; simp
    · have : ky e < ky e2 ∨ ky e2 < ky e := by omega
      simp only [Bool.or_eq_true, decide_eq_true_eq]
      exact .inl this
  have hperm := isortD_perm (ltI (cmpO fun x y => f60 5000 x y)) (toL E)
  have hasc := isortD_asc hord (toL E) fun y hy => hy
  generalize hs : isortD (ltI (cmpO fun x y => f60 5000 x y)) (toL E) = S at hperm hasc
  let dec : List Int → Nat × Nat := fun l => ((l.getD 0 0).toNat, (l.getD 1 0).toNat)
  have hd : ∀ e : Nat × Nat, dec (prL e) = e := fun e => rfl
  have hSE : S = toL (S.map dec) := by
    unfold toL
    rw [List.map_map]
    conv => lhs; rw [← List.map_id S]
    refine List.map_congr_left fun x hx => ?_
    obtain ⟨e, _, rfl, _⟩ := hm x (hperm.mem_iff.1 hx)
    rfl
  refine ⟨S.map dec, ?_, ?_, ?_⟩
  · have := hperm.map dec
    have e : (toL E).map dec = E := by
      unfold toL
      rw [List.map_map]
      exact List.map_id E
    rw [e] at this
    exact this
  · rw [List.pairwise_map]
    refine List.Pairwise.imp_of_mem (fun {x y} hx hy h => ?_) hasc
    obtain ⟨e, h1, rfl, _⟩ := hm x (hperm.mem_iff.1 hx)
    obtain ⟨e2, h2, rfl, _⟩ := hm y (hperm.mem_iff.1 hy)
    rw [lt60 h2 h1, decide_eq_false_iff_not] at h
    show ky e ≤ ky e2
    omega
  · unfold f59 sortS
    rw [hB, hS, show Nat.blt (toL E).length 4611686018427387904 = true from by rw [toL_len, Nat.blt_eq]; omega, hs]
    simp only [Bool.and_self, cond_true, Option.map_some]
    rw [← hSE]

theorem eqD_pr (x y : Nat × Nat) : eqD (.arr 2 (.int .i64)) (prL x) (prL y) = decide (x = y) := by
  obtain ⟨a, b⟩ := x
  obtain ⟨c, d⟩ := y
  show cond (keyEq (.int .i64) (a : Int) (c : Int)) (cond (keyEq (.int .i64) (b : Int) (d : Int)) true false) false = _
  simp only [keyEq]
  rw [Bool.eq_iff_iff]
  by_cases h1 : a = c
  · subst h1
    by_cases h2 : b = d
    · subst h2; simp
    · simp [h2, show ¬ (b : Int) = d from by omega]
  · simp [h1, show ¬ (a : Int) = c from by omega]
theorem toL_get' {E : List (Nat × Nat)} {k : Nat} {e : Nat × Nat} (h : E[k]? = some e) : (toL E)[k]? = some (prL e) := by
  unfold toL
  rw [List.getElem?_map, h]; rfl
theorem toL_set (E : List (Nat × Nat)) (k : Nat) (e : Nat × Nat) : (toL E).set k (prL e) = toL (E.set k e) := by
  unfold toL
  rw [List.map_set]; rfl
theorem toL_take (E : List (Nat × Nat)) (k : Nat) : (toL E).take k = toL (E.take k) := by
  unfold toL
  rw [List.map_take]

/-- Ascending, each once. -/
def SA (E : List (Nat × Nat)) : Prop := E.Pairwise fun x y => ky x < ky y
theorem sa_eq {l m : List (Nat × Nat)} (hl : SA l) (hm : SA m) (h : ∀ x, x ∈ l ↔ x ∈ m) : l = m := by
  have nd : ∀ {k : List (Nat × Nat)}, SA k → k.Nodup := fun hk => List.Pairwise.imp (fun {a b} h e => by subst e; exact Nat.lt_irrefl _ h) hk
  have hp : l.Perm m := by
    rw [List.perm_ext_iff_of_nodup (nd hl) (nd hm)]
    exact h
  exact List.Perm.eq_of_pairwise (le := fun x y => ky x < ky y) (fun a b _ _ h1 h2 => absurd h1 (by omega)) hl hm hp

theorem f61L9 {R : Type} {Q : R → Prop} (L : List (Nat × Nat)) (hn : L.length ≤ 100) (hlo : Lo L) (asc : L.Pairwise fun x y => ky x ≤ ky y) {k : Nat} (hk1 : 1 ≤ k) (hk : k < L.length) (hpre : SA (L.take k)) (heq : L[k] = (L[k - 1]'(by omega)))
    {kx : Int → List (List Int) → Option R} (hkx : ∀ (p : Nat) (C : List (Nat × Nat)), 1 ≤ p → p ≤ L.length → C.length = L.length → SA (C.take p) → (∀ y, y ∈ C.take p ↔ y ∈ L) → Yld (kx (p : Int) (toL C)) Q) :
    Yld (iter (fun w => f61_L9 5000 (k : Int) (len (toL L)) w kx) 5000 (1, (k : Int), toL L)) Q := by
  refine Yld.up (fun m (s : Int × List (List Int)) => ∃ (p : Nat) (C : List (Nat × Nat)), 1 ≤ m ∧ s = ((p : Int), toL C) ∧ 1 ≤ p ∧ p ≤ k + m - 1 ∧ k + m ≤ L.length ∧ C.length = L.length ∧ (∀ x, p ≤ x → C[x]? = L[x]?) ∧ SA (C.take p) ∧ (∀ y, y ∈ C.take p ↔ y ∈ L.take (k + m))) (L.length - k) ?_ ?_ 5000 1 (by omega) (by omega) ((k : Int), toL L) ?_
  · rintro m s w hm ⟨p, C, hm1, rfl, hp1, hpm, hkm, hC, hrest, hasc, hmem⟩ hw
    simp only [f61_L9]
    rw [d_true (by rw [len_eq, toL_len]; omega), wi64_nat (show m < 9223372036854775807 by omega), wi64_pred (show 0 < m by omega) (by omega), wi64_nat (show p < 9223372036854775807 by omega)]
    simp only [cond_true]
    rw [chk_true (by rw [Bool.and_true]; exact decide_eq_true (by omega))]
    rw [show (k : Int) + (m : Int) = ((k + m : Nat) : Int) from by omega, show (k : Int) + ((m - 1 : Nat) : Int) = ((k + m - 1 : Nat) : Int) from by omega]
    have g1 : C[k + m]? = some (L[k + m]'(by omega)) := by rw [hrest _ (by omega), List.getElem?_eq_getElem (by omega)]
    have g2 : C[k + m - 1]? = some (L[k + m - 1]'(by omega)) := by rw [hrest _ (by omega), List.getElem?_eq_getElem (by omega)]
    rw [idx_some' (toL_get' g1)]
    simp only [Option.bind_some]
    rw [chk_true (by rw [Bool.and_eq_true, decide_eq_true_eq, decide_eq_true_eq, len_eq, toL_len]; omega), idx_some' (toL_get' g2)]
    simp only [Option.bind_some]
    rw [eqD_pr]
    have hle : ky (L[k + m - 1]'(by omega)) ≤ ky (L[k + m]'(by omega)) := List.pairwise_iff_getElem.1 asc (k + m - 1) (k + m) (by omega) (by omega) (by omega)
    by_cases he : L[k + m]'(by omega) = L[k + m - 1]'(by omega)
    · rw [d_true he]
      simp only [Bool.not_true, cond_false]
      refine hw (_, _) ⟨p, C, by omega, rfl, hp1, by omega, by omega, hC, hrest, hasc, fun y => ?_⟩
      rw [hmem, show k + (m + 1) = (k + m) + 1 from by omega, take_succ (show k + m < L.length by omega), List.mem_append, List.mem_singleton]
      refine ⟨.inl, fun h => h.elim id fun h => ?_⟩
      rw [h, he]
      have : (L.take (k + m))[k + m - 1]'(by simp; omega) ∈ L.take (k + m) := List.getElem_mem _
      rwa [List.getElem_take] at this
    · rw [d_false he]
      simp only [Bool.not_false, cond_true]
      rw [chk_true (by rw [Bool.and_true]; exact decide_eq_true (by omega))]
      rw [chk_true (inb_lt (by rw [toL_len]; omega)), idx_lt (by rw [toL_len]; omega)]
      simp only [Option.bind_some]
      rw [setI_nat, toL_set]
      have hne : ky (L[k + m - 1]'(by omega)) ≠ ky (L[k + m]'(by omega)) := fun h => he (ky_inj (hlo _ (List.getElem_mem _)).2 (hlo _ (List.getElem_mem _)).2 h).symm
      have htk : (C.set p (L[k + m]'(by omega))).take (p + 1) = C.take p ++ [L[k + m]'(by omega)] := by
        rw [take_succ (by simp; omega)]
        simp [List.take_set_of_le]
      refine hw (((p : Int) + 1), _) ⟨p + 1, C.set p (L[k + m]'(by omega)), by omega, rfl, by omega, by omega, by omega, by simp [hC], fun x hx => ?_, ?_, fun y => ?_⟩
      · rw [List.getElem?_set_ne (by omega)]; exact hrest x (by omega)
      · rw [htk]
        refine List.pairwise_append.2 ⟨hasc, List.pairwise_singleton _ _, fun a ha b hb => ?_⟩
        rw [List.mem_singleton] at hb
        subst hb
        obtain ⟨i, hi, rfl⟩ := List.mem_iff_getElem.1 ((hmem a).1 ha)
        rw [List.getElem_take]
        have hi' : i < k + m := by simp at hi; omega
        have h2 : ky (L[i]'(by omega)) ≤ ky (L[k + m - 1]'(by omega)) := by
          by_cases hx : i = k + m - 1
          · subst hx; exact Nat.le_refl _
          · exact List.pairwise_iff_getElem.1 asc i (k + m - 1) (by omega) (by omega) (by omega)
        omega
      · rw [htk, show k + (m + 1) = (k + m) + 1 from by omega, take_succ (show k + m < L.length by omega), List.mem_append, List.mem_append, hmem]
  · rintro s w ⟨p, C, hm1, rfl, hp1, hpm, hkm, hC, hrest, hasc, hmem⟩
    simp only [f61_L9]
    rw [d_false (by rw [len_eq, toL_len]; omega)]
    simp only [cond_false]
    refine hkx p C hp1 (by omega) hC hasc fun y => ?_
    rw [hmem, List.take_of_length_le (by omega)]
  · refine ⟨k, L, Nat.le_refl _, rfl, hk1, by omega, by omega, rfl, fun _ _ => rfl, hpre, fun y => ?_⟩
    rw [take_succ hk, List.mem_append, List.mem_singleton]
    refine ⟨.inl, fun h => h.elim id fun h => ?_⟩
    rw [h, heq]
    have : (L.take k)[k - 1]'(by simp; omega) ∈ L.take k := List.getElem_mem _
    rwa [List.getElem_take] at this

theorem f61_ok (L : List (Nat × Nat)) (hn : L.length ≤ 100) (hlo : Lo L) (asc : L.Pairwise fun x y => ky x ≤ ky y) :
    Yld (f61 5000 (toL L)) fun r => ∃ O, r.2.1 = toL O ∧ SA O ∧ ∀ y, y ∈ O ↔ y ∈ L := by
  unfold f61
  refine Yld.cond (fun h => Yld.ret ⟨L, rfl, ?_, fun _ => Iff.rfl⟩) fun h => ?_
  · rw [decide_eq_true_eq, len_eq, toL_len] at h
    match L, h with
    | [], _ => exact List.Pairwise.nil
    | [a], _ => exact List.pairwise_singleton _ _
    | a :: b :: l, h => simp at h; omega
  · rw [decide_eq_false_iff_not, len_eq, toL_len] at h
    refine Yld.upI (fun k => 1 ≤ k ∧ SA (L.take k)) L.length ?_ ?_ 5000 1 (by omega) (by omega) ⟨Nat.le_refl _, ?_⟩
    · rintro k w hk ⟨hk1, hpre⟩ hw
      simp only [f61_L4]
      rw [d_true (show (k : Int) < len (toL L) by rw [len_eq, toL_len]; omega), wi64_nat (by omega), wi64_pred (by omega) (by omega)]
      simp only [cond_true]
      have g1 : L[k]? = some L[k] := List.getElem?_eq_getElem hk
      have g2 : L[k - 1]? = some (L[k - 1]'(by omega)) := List.getElem?_eq_getElem (by omega)
      rw [chk_true (inb_some (toL_get' g1)), idx_some' (toL_get' g1)]
      simp only [Option.bind_some]
      rw [chk_true (inb_some (toL_get' g2)), idx_some' (toL_get' g2)]
      simp only [Option.bind_some]
      rw [eqD_pr]
      by_cases he : L[k] = (L[k - 1]'(by omega))
      · rw [d_true he]
        simp only [cond_true]
        rw [chk_true (by simp only [Bool.and_eq_true, decide_eq_true_eq, len_eq, toL_len]; omega)]
        refine f61L9 L hn hlo asc hk1 hk hpre he fun p C hp1 hp hC hasc hmem => ?_
        rw [chk_true (by simp only [Bool.and_eq_true, decide_eq_true_eq, len_eq, toL_len]; omega), chk_true (by simp only [Bool.and_eq_true, decide_eq_true_eq, len_eq, clearL_length, toL_len]; omega)]
        have hsub : sub (clearL (List.replicate 2 0 : List Int) (toL C) (p : Int) (len (toL C))) 0 (p : Int) = (toL C).take p := by
          apply List.ext_getElem?
          intro i
          unfold sub
          simp only [Int.toNat_zero, List.drop_zero, Nat.sub_zero, Int.toNat_natCast]
          by_cases hi : i < p
          · rw [List.getElem?_take_of_lt hi, List.getElem?_take_of_lt hi]
            have hi2 : i < (toL C).length := by rw [toL_len]; omega
            have hi3 : i < (clearL (List.replicate 2 0 : List Int) (toL C) (p : Int) (len (toL C))).length := by rw [clearL_length]; exact hi2
            have := clearL_get (List.replicate 2 0 : List Int) (toL C) (p : Int) (len (toL C)) i hi3 hi2
            rw [List.getElem?_eq_getElem hi3, List.getElem?_eq_getElem hi2]
            simp only [List.get_eq_getElem] at this
            rw [this, if_neg (by omega)]
          · rw [List.getElem?_eq_none (by simp; omega), List.getElem?_eq_none (by simp; omega)]
        rw [hsub, toL_take]
        exact Yld.ret ⟨C.take p, rfl, hasc, hmem⟩
      · rw [d_false he]
        simp only [cond_false]
        refine hw ⟨by omega, ?_⟩
        rw [take_succ hk]
        refine List.pairwise_append.2 ⟨hpre, List.pairwise_singleton _ _, fun a ha b hb => ?_⟩
        rw [List.mem_singleton] at hb
        subst hb
        obtain ⟨i, hi, rfl⟩ := List.mem_iff_getElem.1 ha
        rw [List.getElem_take]
        have hi' : i < k := by simp at hi; omega
        have h1 : ky (L[k - 1]'(by omega)) ≤ ky L[k] := List.pairwise_iff_getElem.1 asc (k - 1) k (by omega) (by omega) (by omega)
        have hne : ky L[k] ≠ ky (L[k - 1]'(by omega)) := fun h => he (ky_inj (hlo _ (List.getElem_mem _)).2 (hlo _ (List.getElem_mem _)).2 h)
        have h2 : ky (L[i]'(by omega)) ≤ ky (L[k - 1]'(by omega)) := by
          by_cases hx : i = k - 1
          · subst hx; exact Nat.le_refl _
          · exact List.pairwise_iff_getElem.1 asc i (k - 1) (by omega) (by omega) (by omega)
        omega
    · rintro w ⟨_, hpre⟩
      simp only [f61_L4]
      rw [d_false (by rw [len_eq, toL_len]; omega)]
      simp only [cond_false]
      rw [List.take_length] at hpre
      exact Yld.ret ⟨L, rfl, hpre, fun _ => Iff.rfl⟩
    · rw [take_succ (by omega)]
      simp only [List.take_zero, List.nil_append]
      exact List.pairwise_singleton _ _

/-- The successors of a node, ascending. -/
def suc (n : Nat) (E : List (Nat × Nat)) (a : Nat) : List Nat := (List.range n).filter fun b => hasE E a b
theorem mem_suc {n : Nat} {E : List (Nat × Nat)} {a b : Nat} : b ∈ suc n E a ↔ b < n ∧ (a, b) ∈ E := by
  unfold suc
  rw [List.mem_filter, List.mem_range, hasE_iff]
/-- The simple graph: every edge once, ascending. -/
def smp (n : Nat) (E : List (Nat × Nat)) : List (Nat × Nat) := (List.range n).flatMap fun a => (suc n E a).map fun b => (a, b)
theorem mem_smp {n : Nat} {E : List (Nat × Nat)} (h : Nod n E) {e : Nat × Nat} : e ∈ smp n E ↔ e ∈ E := by
  unfold smp
  rw [List.mem_flatMap]
  constructor
  · rintro ⟨a, ha, he⟩
    obtain ⟨b, hb, rfl⟩ := List.mem_map.1 he
    exact (mem_suc.1 hb).2
  · intro he
    exact ⟨e.1, List.mem_range.2 (h e he).1, List.mem_map.2 ⟨e.2, mem_suc.2 ⟨(h e he).2, he⟩, rfl⟩⟩
theorem range_asc (n : Nat) : (List.range n).Pairwise (· < ·) := List.pairwise_lt_range
theorem suc_asc (n : Nat) (E : List (Nat × Nat)) (a : Nat) : (suc n E a).Pairwise (· < ·) := (range_asc n).filter _
theorem smp_sa {n : Nat} (hn : n ≤ 10) (E : List (Nat × Nat)) : SA (smp n E) := by
  unfold smp SA
  rw [List.pairwise_flatMap]
  refine ⟨fun a _ => ?_, (range_asc n).imp fun {a b} hab => ?_⟩
  · rw [List.pairwise_map]
    exact (suc_asc n E a).imp fun {x y} h => by simp only [ky]; omega
  · intro x hx y hy
    obtain ⟨u, hu, rfl⟩ := List.mem_map.1 hx
    obtain ⟨v, hv, rfl⟩ := List.mem_map.1 hy
    have := (mem_suc.1 hu).1
    have := (mem_suc.1 hv).1
    simp only [ky]
    omega
theorem f50_eq {n : Nat} {E : List (Nat × Nat)} (h : Nod n E) (hn : n ≤ 10) (hl : E.length ≤ 100) (m : Int) : f50 5000 m (toL E) = some (m, (toL (smp n E), ())) := by
  refine Yld.eq ?_
  unfold f50
  have h58 : f58 5000 (toL E) = some (toL E) := by
    unfold f58
    rw [chk_true (decide_eq_true (by rw [toL_len]; simp only [room]; omega))]
  rw [h58]
  simp only [Option.bind_some]
  obtain ⟨E', hp, ha, h59⟩ := f59_ok E (h.lo hn) hl
  rw [h59]
  simp only [Option.bind_some]
  refine Yld.then (f61_ok E' (by rw [hp.length_eq]; exact hl) (fun e he => (h.lo hn) e (hp.mem_iff.1 he)) ha) ?_
  rintro ⟨u, r, u2⟩ ⟨O, h1, h2, h3⟩
  simp only at h1
  subst h1
  refine Yld.ret ?_
  rw [sa_eq h2 (smp_sa hn E) fun x => by rw [h3, hp.mem_iff, mem_smp h]]
end Go.Kz
