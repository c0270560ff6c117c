/-
  The layer strategy: the reference's labels, and Split; plain laws.
-/
import Derived.Test.YtcnmiohlpaommaaKzS3
set_option linter.unusedVariables false
set_option linter.unusedSimpArgs false
namespace Go.Kz

/-! ## Labels by a relation -/
section
variable {α : Type} [DecidableEq α]

theorem nub_snoc (q : List α) (x : α) : nubA [] (q ++ [x]) = if x ∈ q then nubA [] q else nubA [] q ++ [x] := by
  have key : ∀ (acc m : List α), nubA acc (m ++ [x]) = if x ∈ nubA acc m then nubA acc m else nubA acc m ++ [x] := by
    intro acc m
    induction m generalizing acc with
    | nil => by_cases h : x ∈ acc <;> simp [nubA, h]
    | cons y m ih =>
      simp only [List.cons_append, nubA]
      split <;> exact ih _
  rw [key]
  have : x ∈ nubA [] q ↔ x ∈ q := by rw [nubA_mem]; simp
  simp only [this]
theorem ofL_snoc (q : List α) (x : α) : ofL (q ++ [x]) = ofL q ++ [if x ∈ q then ((posOf x (nubA [] q) : Nat) : Int) else ((nubA [] q).length : Int)] := by
  unfold ofL
  rw [clsA_split]
  have : x ∈ nubA [] q ↔ x ∈ q := by rw [nubA_mem]; simp
  simp only [clsA, this]
  split <;> rfl

def labL7 {R : Type} (same : Int → Int → Option Bool) (a : Int) (o : List Int) (kb : Int × Int → Option R) (kx : Int → Option R) : Int × Int → Option R :=
  fun (t9, t8) =>
    (cond (decide (t9 < a))
        (some (decide (t8 < 0)))
        (some false)).bind fun b =>
    cond b
      ((same a t9).bind fun r =>
      cond r
        (chk (inb o t9) <|
        (idx o t9).bind fun x =>
        kb ((wi64 (t9 + 1)), x))
        (kb ((wi64 (t9 + 1)), t8)))
      (kx t8)
def labL3 {R : Type} (N : Nat) (same : Int → Int → Option Bool) (n : Int) (kb : Int × Int × List Int → Option R) (kx0 : (List Int) → Option R) : Int × Int × List Int → Option R :=
  fun (t7, t6, o0) =>
    cond (decide (t7 < n))
      (iter (fun w => labL7 same t7 o0 w
        (fun t8_1 =>
          cond (decide (t8_1 < 0))
            (chk (decide ((o0.length.succ) ≤ room)) <|
            kb ((wi64 (t7 + 1)), (wi64 (t6 + 1)), (o0 ++ (t6 :: ([] : List Int)))))
            (chk (decide ((o0.length.succ) ≤ room)) <|
            kb ((wi64 (t7 + 1)), t6, (o0 ++ (t8_1 :: ([] : List Int))))))) N (0, (-1)))
      (kx0 o0)
def labG (N : Nat) (same : Int → Int → Option Bool) (n : Int) : Option (List Int) :=
  iter (fun w => labL3 N same n w (fun o0_2 => some o0_2)) N (0, 0, ([] : List Int))

theorem labG_eq (N : Nat) (l : List α) (same : Int → Int → Option Bool) (hN : l.length < N) (hl : l.length < 4294967296)
    (hs : ∀ (a b : Nat) (ha : a < l.length) (hb : b < a), same (a : Int) (b : Int) = some (decide (l[a] = l[b]))) (n : Int) (hn : n = (l.length : Int)) : labG N same n = some (ofL l) := by
  subst hn
  unfold labG
  refine iter_for (fun k (s : Int × List Int) => s = (((nubA [] (l.take k)).length : Int), ofL (l.take k))) l.length ?_ ?_ N hN (0, []) (by simp [nubA, ofL, clsA])
  · intro k s w hk hi hw
    subst hi
    have hnl : (nubA [] (l.take k)).length ≤ k := by
      have := nubA_length [] (l.take k)
      simp at this; omega
    have hol : (ofL (l.take k)).length = k := by rw [ofL_len, List.length_take]; omega
    simp only [labL3]
    have e0 : decide ((k : Int) < (l.length : Int)) = true := by simp; omega
    rw [e0, cond_true]
    refine iter_rule (fun x : Int × Int => ∃ j : Nat, x.1 = j ∧ j ≤ k ∧ ((x.2 = -1 ∧ ∀ i (hi : i < l.length), i < j → l[k] ≠ l[i]) ∨ (l[k] ∈ l.take k ∧ x.2 = ((posOf l[k] (nubA [] (l.take k)) : Nat) : Int))))
      (fun x => k - x.1.toNat) ?_ N (0, -1) ⟨0, rfl, by omega, .inl ⟨rfl, by intro i _ hi; omega⟩⟩ (by simp; omega)
    rintro ⟨x1, c⟩ v ⟨j, hx, hj, hc⟩ hv
    simp only at hx hc
    subst hx
    simp only [labL7]
    -- behind the inner loop
    have done : (∀ (i : Nat) (hi : i < l.length), i < k → l[k] ≠ l[i]) ∧ c = -1 ∨ (l[k] ∈ l.take k ∧ c = ((posOf l[k] (nubA [] (l.take k)) : Nat) : Int)) →
        cond (decide (c < 0))
            (chk (decide (((ofL (l.take k)).length.succ) ≤ room)) <|
            w ((wi64 ((k : Int) + 1)), (wi64 (((nubA [] (l.take k)).length : Int) + 1)), (ofL (l.take k) ++ (((nubA [] (l.take k)).length : Int) :: ([] : List Int)))))
            (chk (decide (((ofL (l.take k)).length.succ) ≤ room)) <|
            w ((wi64 ((k : Int) + 1)), ((nubA [] (l.take k)).length : Int), (ofL (l.take k) ++ (c :: ([] : List Int))))) = some (ofL l) := by
      rintro (⟨h1, rfl⟩ | ⟨h1, rfl⟩)
      · have hnm : l[k] ∉ l.take k := by
          intro hm
          obtain ⟨i, hi, he⟩ := List.mem_take_iff_getElem.1 hm
          exact h1 i (by omega) (by omega) he.symm
        simp only [show decide ((-1 : Int) < 0) = true from rfl, cond_true]
        rw [chk_room (by omega), wi64_of (by omega) (by omega), wi64_of (by omega) (by omega)]
        refine hw _ ?_
        rw [take_succ hk, nub_snoc, ofL_snoc, if_neg hnm, if_neg hnm]
        simp
      · have e : decide (((posOf l[k] (nubA [] (l.take k)) : Nat) : Int) < 0) = false := by simp
        rw [e, cond_false, chk_room (by omega), wi64_of (by omega) (by omega)]
        refine hw _ ?_
        rw [take_succ hk, nub_snoc, ofL_snoc, if_pos h1, if_pos h1]
    rcases hc with ⟨rfl, hc⟩ | ⟨hm, rfl⟩
    · by_cases hjk : j < k
      · have e1 : decide ((j : Int) < (k : Int)) = true := by simp [hjk]
        rw [e1]
        simp only [cond_true, Option.bind_some, show decide ((-1 : Int) < 0) = true from rfl]
        rw [hs k j hk hjk]
        simp only [Option.bind_some]
        rw [wi64_of (by omega) (by omega)]
        by_cases he : l[k] = l[j]
        · have hjo : j < (ofL (l.take k)).length := by omega
          rw [decide_eq_true he, cond_true, chk_true (inb_lt hjo), idx_lt hjo]
          simp only [Option.bind_some]
          have hg := ofL_get (l := l.take k) (j := j) (by simp; omega)
          rw [List.getElem?_eq_getElem hjo] at hg
          simp only [Option.some.injEq, List.getElem_take] at hg
          refine hv _ ⟨j + 1, by simp, by omega, .inr ⟨?_, ?_⟩⟩ (by simp; omega)
          · rw [he]; exact List.mem_take_iff_getElem.2 ⟨j, by omega, rfl⟩
          · simp only; rw [hg, he]
        · rw [decide_eq_false he, cond_false]
          refine hv _ ⟨j + 1, by simp, by omega, .inl ⟨rfl, fun i hi hij => ?_⟩⟩ (by simp; omega)
          by_cases hij2 : i = j
          · subst hij2; exact he
          · exact hc i hi (by omega)
      · have : j = k := by omega
        subst this
        have e1 : decide ((j : Int) < (j : Int)) = false := by simp
        rw [e1]
        simp only [cond_false, Option.bind_some]
        exact done (.inl ⟨hc, rfl⟩)
    · have e : decide (((posOf l[k] (nubA [] (l.take k)) : Nat) : Int) < 0) = false := by simp
      have hb : (cond (decide ((j : Int) < (k : Int))) (some (decide (((posOf l[k] (nubA [] (l.take k)) : Nat) : Int) < 0))) (some false) : Option Bool) = some false := by
        rw [e]; cases decide ((j : Int) < (k : Int)) <;> rfl
      rw [hb]
      simp only [Option.bind_some, cond_false]
      exact done (.inr ⟨hm, rfl⟩)
  · intro s w hi
    subst hi
    simp only [labL3]
    have e0 : decide (((l.length : Nat) : Int) < (l.length : Int)) = false := by simp
    rw [e0, cond_false, List.take_length]
end

/-! ## The reference's Split -/
theorem f31_is (N : Nat) (n : Int) (l : List (List Ans)) : f31 N n (l, ()) = labG N (fun a b => f46 N a b l) n := rfl
theorem f31_eq (N : Nat) (hN : 400 < N) (l : List (List Ans)) (n : Int) (hn : n = (l.length : Int)) (hl : l.length < 300) (hb : ∀ t ∈ l, t.length ≤ 300) : f31 N n (l, ()) = some (ofL l) := by
  rw [f31_is]
  refine labG_eq N l _ (by omega) (by omega) ?_ n hn
  intro a b ha hba
  have h1 := hb _ (List.getElem_mem ha)
  simp only [f46]
  rw [idx_lt ha, idx_lt (l := l) (k := b) (by omega)]
  simp only [Option.bind_some]
  rw [f34_eq N _ _ (by omega) (by omega)]
  rfl
theorem allL_few {m : Menu} {s : List Choice} (h : Right m s) : ∀ t ∈ allL m s, t.length ≤ 300 := by
  intro t ht
  obtain ⟨x, hx, rfl⟩ := List.mem_map.1 ht
  have h2 := h.few
  have := runL_len h (x := x) (by have := List.mem_range.1 hx; omega)
  omega
theorem f22_eq (N : Nat) (hN : 400 < N) {m : Menu} {s : List Choice} (h : Right m s) : f22 N m s = some (ofL (allL m s)) := by
  obtain ⟨m1, m2, m3, m4⟩ := menuOK_iff.1 h.menu
  have hal := allL_len m s
  unfold f22
  refine iter_for (fun k o => o = (allL m s).take k) m.1.toNat ?_ ?_ N (by omega) [] (by simp)
  · intro k o w hk ho hw
    subst ho
    simp only [f22_L3]
    have e : decide ((k : Int) < m.1) = true := by simp; omega
    rw [e, cond_true, f20_is, f48_eq N hN h k (by omega)]
    simp only [Option.bind_some]
    rw [chk_room (by simp [allL_len]; omega), wi64_of (by omega) (by omega)]
    exact hw _ (by rw [allL_take hk])
  · intro o w ho
    subst ho
    simp only [f22_L3]
    have e : decide (((m.1.toNat : Nat) : Int) < m.1) = false := by simp; omega
    rw [e, cond_false, List.take_of_length_le (by rw [allL_len]; exact Nat.le_refl _), f31_eq N hN _ _ (by omega) (by omega) (allL_few h)]
    rfl

/-! ## The law -/
theorem law4 (m : Menu) (s : List Choice) : f4 5000 m s = some true := by
  unfold f4
  rw [f12_5000]
  obtain ⟨x, hx⟩ := f13_some 5000 (by omega) m s 62 60 (by omega)
  rw [hx]
  simp only [Option.bind_some, Bool.not_true, cond_false]
  cases x with
  | false => rfl
  | true =>
  simp only [Bool.not_true, cond_false]
  rw [f14_eq 5000 (by omega)]
  simp only [Option.bind_some]
  by_cases hc : chkCode m s = 0
  · have h := chk_zero.1 hc
    obtain ⟨m1, m2, m3, m4⟩ := menuOK_iff.1 h.menu
    have hal := allL_len m s
    simp only [hc, decide_true, Bool.not_true, cond_false]
    rw [f15_eq 5000 (by omega), f16_eq 5000 (by omega), if_pos hc, if_pos hc]
    simp only [Option.bind_some]
    refine iter_for (fun k o => o = depthL ((allL m s).take k)) m.1.toNat ?_ ?_ 5000 (by omega) _ (by simp [depthL])
    · intro k o w hk ho hw
      subst ho
      simp only [f4_L9]
      have e : decide ((k : Int) < m.1) = true := by simp; omega
      rw [e, cond_true, f20_is, f48_eq 5000 (by omega) h k (by omega)]
      simp only [Option.bind_some]
      rw [wi64_of (by omega) (by omega)]
      exact hw _ (by rw [allL_take hk, depth_snoc, maxI_eq])
    · intro o w ho
      subst ho
      simp only [f4_L9]
      have e : decide (((m.1.toNat : Nat) : Int) < m.1) = false := by simp; omega
      have hlen : (ofL (allL m s)).length = m.1.toNat := by rw [ofL_len, hal]
      rw [e, cond_false, List.take_of_length_le (by rw [hal]; exact Nat.le_refl _), f22_eq 5000 (by omega) h]
      simp only [Option.bind_some]
      rw [f21_eq 5000 _ _ (by omega) (by omega)]
      simp
  · simp [hc]

end Go.Kz
