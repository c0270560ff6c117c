/-
  The layer strategy: pruned strategies; plain laws.
-/
import Derived.Test.YtcnmiohlpaommaaKzS8
import Derived.Test.YtcnmiohlpaommaaKzP42P
set_option linter.unusedVariables false
set_option linter.unusedSimpArgs false
namespace Go.Kz

def stopAll (c : Choice) : Choice := (c.1, (List.replicate c.2.1.length (-1), ()))
def pruneL (s : List Choice) (i : Nat) : List Choice := (List.range s.length).map fun k => if k = i then stopAll (s.getD k (0, [], ())) else s.getD k (0, [], ())
theorem pruneL_len (s : List Choice) (i : Nat) : (pruneL s i).length = s.length := by simp [pruneL]
theorem pruneL_get {s : List Choice} {i k : Nat} (h : k < (pruneL s i).length) : (pruneL s i)[k] = if k = i then stopAll (s[k]'(by rw [pruneL_len] at h; exact h)) else s[k]'(by rw [pruneL_len] at h; exact h) := by
  have hk : k < s.length := by rw [pruneL_len] at h; exact h
  simp [pruneL, hk]

theorem prune_right {m : Menu} {s : List Choice} (h : Right m s) (i : Nat) : Right m (pruneL s i) := by
  refine ⟨h.menu, by rw [pruneL_len]; exact h.few, fun k hk => ?_⟩
  have hk' : k < s.length := by rw [pruneL_len] at hk; exact hk
  have hl : len (pruneL s i) = len s := by simp [len, pruneL_len]
  have hn := h.node k hk'
  rw [pruneL_get, hl]
  split
  · obtain ⟨h0, h1, h2, h3⟩ := node_none hn
    have e : len (stopAll s[k]).2.1 = len s[k].2.1 := by simp [stopAll, len]
    unfold nodeCode
    rw [if_pos ⟨h0, h1⟩, if_pos (show len (stopAll s[k]).2.1 = top 0 (m.2.1.getD (stopAll s[k]).1.toNat []) from by rw [e]; exact h2), if_pos]
    rw [List.all_eq_true]
    intro x hx
    have : x = -1 := (List.mem_replicate.1 hx).2
    simp [nextOK, this]
  · exact hn

/-- Who can't be told apart can't be told apart by less. -/
theorem prune_same {m : Menu} {s : List Choice} (h : Right m s) (i : Nat) {x y : Nat} (hx : (x : Int) < m.1) (hy : (y : Int) < m.1) :
    (n : Nat) → (j : Int) → (j = -1 ∨ 0 ≤ j) → runN m s x n j = runN m s y n j → runN m (pruneL s i) x n j = runN m (pruneL s i) y n j
  | 0, _, _, _ => rfl
  | n + 1, j, hj, he => by
    have hl : len (pruneL s i) = len s := by simp [len, pruneL_len]
    simp only [runN, hl] at he ⊢
    by_cases hst : j = -1 ∨ len s ≤ j
    · rw [if_pos hst, if_pos hst]
    · rw [if_neg hst, if_neg hst] at he ⊢
      have h0 : 0 ≤ j := by omega
      obtain ⟨k, rfl⟩ := Int.eq_ofNat_of_zero_le h0
      have hk : k < s.length := by simp only [len] at hst; omega
      obtain ⟨c, v, cl, nx, e1, e2, e3, e4, e5, e6, e7, e8, e9, _⟩ := node_at h hx hk
      obtain ⟨c', v', cl', nx', f1, f2, f3, f4, f5, f6, f7, f8, f9, _⟩ := node_at h hy hk
      have hcc : c' = c := by rw [← f1, e1]
      subst hcc
      have hvv : v' = v := by rw [← f3, e3]
      subst hvv
      simp only [Int.toNat_natCast, e2, e3, e6, e8, f6, f8] at he
      simp only [List.cons.injEq, Prod.mk.injEq, true_and, and_true] at he
      obtain ⟨hcl, htl⟩ := he
      subst hcl
      have hnx : nx' = nx := by rw [← f8, e8]
      subst hnx
      have hg : (pruneL s i).getD k (0, [], ()) = if k = i then stopAll c' else c' := by
        have hk' : k < (pruneL s i).length := by rw [pruneL_len]; exact hk
        rw [List.getD_eq_getElem?_getD, List.getElem?_eq_getElem hk', pruneL_get]
        simp only [e1, Option.getD_some]
      simp only [Int.toNat_natCast, hg]
      by_cases hki : k = i
      · simp only [hki, if_true]
        have hv1 : viewOf m (stopAll c') = v' := e3
        have hrep : ∀ z : Nat, (stopAll c').2.1.getD z (-1) = -1 := by
          intro z
          simp only [stopAll, List.getD_eq_getElem?_getD, List.getElem?_replicate]
          split <;> rfl
        rw [hv1, e6, f6, hrep, runN_stop (.inl rfl), runN_stop (.inl rfl)]
      · simp only [hki, if_false, e3, e6, f6, e8]
        rw [prune_same h i hx hy n nx' (by omega) htl]

theorem f38_eq (N : Nat) (hN : 400 < N) (m : Menu) (s : List Choice) (x : Int) :
    f38 N m s x = some (if chkCode m s = 0 then (if 0 ≤ x ∧ x < len s then (pruneL s x.toNat, 0) else ([], 3)) else ([], chkCode m s)) := by
  unfold f38
  rw [f19_eq N hN]
  simp only [Option.bind_some]
  by_cases hc : chkCode m s = 0
  · have h := chk_zero.1 hc
    have hs := h.few
    obtain ⟨m1, m2, m3, m4⟩ := menuOK_iff.1 h.menu
    simp only [hc, decide_true, Bool.not_true, cond_false, if_true]
    by_cases hx : 0 ≤ x ∧ x < len s
    · have a1 : decide (x < 0) = false := by simp; omega
      have a2 : decide (len s ≤ x) = false := by simp; omega
      obtain ⟨i, rfl⟩ := Int.eq_ofNat_of_zero_le hx.1
      rw [a1, a2, if_pos hx]
      simp only [cond_false, Option.bind_some, Int.toNat_natCast]
      refine iter_for (fun k o => o = (pruneL s i).take k) s.length ?_ ?_ N (by omega) _ (by simp)
      · intro k o w hk ho hw
        subst ho
        obtain ⟨n0, n1, n2, n3⟩ := node_none (h.node k hk)
        obtain ⟨v1, v2, v3⟩ := view_get h.menu n0 n1
        obtain ⟨t1, t2, t3⟩ := top_bound v3
        have hcl : s[k].2.1.length ≤ 62 := by simp only [len] at n2 v2; omega
        have hkp : k < (pruneL s i).length := by rw [pruneL_len]; exact hk
        simp only [f38_L8, f36]
        rw [dlt_len hk, cond_true, idx_lt hk]
        simp only [Option.bind_some]
        rw [chk_room (by omega)]
        simp only [Option.bind_some]
        rw [wi64_of (by omega) (by omega)]
        have hr : ((pruneL s i).take k).length.succ ≤ 4294967296 := by simp [pruneL_len]; omega
        by_cases hki : k = i
        · have e : decide ((k : Int) = (i : Int)) = true := by simp [hki]
          rw [e, cond_true]
          refine iter_for (fun j o => o = List.replicate j (-1) ++ s[k].2.1.drop j) s[k].2.1.length ?_ ?_ N (by omega) _ (by simp)
          · intro j o w2 hj ho hw2
            subst ho
            have hjo : j < (List.replicate j (-1 : Int) ++ s[k].2.1.drop j).length := by simp; omega
            simp only [f38_L13]
            rw [dlt_len hj, cond_true, chk_true (inb_lt hjo), idx_lt hjo]
            simp only [Option.bind_some]
            rw [wi64_of (by omega) (by omega), setI_nat]
            refine hw2 _ ?_
            rw [List.drop_eq_getElem_cons hj, List.set_append_right _ _ (by simp), List.length_replicate, Nat.sub_self, List.set_cons_zero, List.replicate_succ', List.append_assoc, List.singleton_append]
          · intro o w2 ho
            subst ho
            simp only [f38_L13]
            rw [dnlt_len, cond_false, chk_room hr, List.drop_length, List.append_nil]
            refine hw _ ?_
            rw [take_succ hkp, pruneL_get, if_pos hki]
            rfl
        · have e : decide ((k : Int) = (i : Int)) = false := decide_eq_false (by omega)
          rw [e, cond_false, chk_room hr]
          refine hw _ ?_
          rw [take_succ hkp, pruneL_get, if_neg hki]
      · intro o w ho
        subst ho
        simp only [f38_L8]
        rw [dnlt_len, cond_false, List.take_of_length_le (by rw [pruneL_len]; exact Nat.le_refl _)]
    · rw [if_neg hx]
      by_cases a1 : x < 0
      · simp [a1]
      · have a2 : len s ≤ x := by omega
        simp [a1, a2]
  · simp [hc]

/-! ## The law -/
def idG (n : Nat) : List (List Int) := (List.range n).map fun x => (List.replicate n (0 : Int)).set x ((x : Int) + 1)
theorem idG_len (n : Nat) : (idG n).length = n := by simp [idG]
theorem idG_ok {n : Nat} (h1 : 1 ≤ n) (h2 : n ≤ 62) : gainOK (idG n) (n : Int) = true := by
  simp only [gainOK, Bool.and_eq_true, decide_eq_true_eq, len, idG_len]
  refine ⟨by omega, ?_⟩
  rw [List.all_eq_true]
  intro row hr
  obtain ⟨x, hx, rfl⟩ := List.mem_map.1 hr
  have hx' := List.mem_range.1 hx
  simp only [rowOK, Bool.and_eq_true, decide_eq_true_eq, len, List.length_set, List.length_replicate, true_and]
  rw [List.all_eq_true]
  intro y hy
  rcases List.mem_or_eq_of_mem_set hy with hy | rfl
  · have : y = 0 := (List.mem_replicate.1 hy).2
    subst this; decide
  · simp only [numOK, Bool.and_eq_true, decide_eq_true_eq]
    omega

theorem law11 (m : Menu) (s : List Choice) (x : Int) : f11 5000 m s x = some true := by
  unfold f11
  rw [f12_5000]
  obtain ⟨b, hb⟩ := f13_some 5000 (by omega) m s 20 30 (by omega)
  rw [hb]
  simp only [Option.bind_some, Bool.not_true, cond_false]
  cases b with
  | false => rfl
  | true =>
  simp only [Bool.not_true, cond_false]
  rw [f14_eq 5000 (by omega), f38_eq 5000 (by omega)]
  simp only [Option.bind_some]
  by_cases hc : chkCode m s = 0
  · have h := chk_zero.1 hc
    have hs := h.few
    obtain ⟨m1, m2, m3, m4⟩ := menuOK_iff.1 h.menu
    simp only [hc, decide_true, cond_true, if_true]
    by_cases hx : 0 ≤ x ∧ x < len s
    · have a1 : decide (x < 0) = false := by simp; omega
      have a2 : decide (len s ≤ x) = false := by simp; omega
      obtain ⟨i, rfl⟩ := Int.eq_ofNat_of_zero_le hx.1
      rw [a1, a2, if_pos hx]
      have hil : i < s.length := by have := hx.2; simp only [len] at this; omega
      have hr := prune_right h i
      have hc2 : chkCode m (pruneL s i) = 0 := chk_zero.2 hr
      have hpl := pruneL_len s i
      have e0 : decide (len (pruneL s i) = len s) = true := by simp [len, hpl]
      simp only [cond_false, Option.bind_some, Int.toNat_natCast, decide_true, Bool.not_true, e0]
      refine iter_forI (fun _ => True) s.length ?_ ?_ 5000 (by omega) trivial
      · intro k w hk _ hw
        obtain ⟨n0, n1, n2, n3⟩ := node_none (h.node k hk)
        obtain ⟨v1, v2, v3⟩ := view_get h.menu n0 n1
        obtain ⟨t1, t2, t3⟩ := top_bound v3
        have hcl : s[k].2.1.length ≤ 62 := by simp only [len] at n2 v2; omega
        have hkp : k < (pruneL s i).length := by rw [hpl]; exact hk
        simp only [f11_L14]
        rw [dlt_len hk, cond_true, idx_lt hk]
        simp only [Option.bind_some]
        refine iter_forI (fun _ => True) s[k].2.1.length ?_ ?_ 5000 (by omega) trivial
        · intro j v hj _ hv
          simp only [f11_L17]
          rw [dlt_len hj, cond_true, idx_lt hj]
          simp only [Option.bind_some]
          rw [chk_true (inb_lt hkp), idx_lt hkp, idx_lt hk, wi64_of (by omega) (by omega)]
          simp only [Option.bind_some, pruneL_get]
          by_cases hki : k = i
          · have e : decide ((k : Int) = (i : Int)) = true := by simp [hki]
            have hjs : j < (stopAll s[k]).2.1.length := by simp only [stopAll, List.length_replicate]; exact hj
            have e2 : len (stopAll s[k]).2.1 = len s[k].2.1 := by simp [stopAll, len]
            have e3 : (stopAll s[k]).1 = s[k].1 := rfl
            rw [e, cond_true]
            simp only [if_pos hki, e2, e3, decide_true, Bool.not_true, cond_false, chk_true (inb_lt hkp), Option.bind_some]
            rw [idx_lt hjs]
            have e4 : (stopAll s[k]).2.1[j] = -1 := by simp [stopAll]
            simp only [Option.bind_some, e4, decide_true, Bool.not_true, cond_false]
            exact hv trivial
          · have e : decide ((k : Int) = (i : Int)) = false := decide_eq_false (by omega)
            rw [e, cond_false]
            simp only [if_neg hki, decide_true, Bool.not_true, cond_false, chk_true (inb_lt hkp), Option.bind_some]
            rw [idx_lt hj]
            simp only [Option.bind_some, decide_true, Bool.not_true, cond_false]
            exact hv trivial
        · intro v _
          simp only [f11_L17]
          rw [dnlt_len, cond_false, wi64_of (by omega) (by omega)]
          exact hw trivial
      · intro w _
        simp only [f11_L14]
        have hal := allL_len m s
        have hal2 := allL_len m (pruneL s i)
        have e1 : len (ofL (allL m s)) = m.1 := by simp only [len, ofL_len, hal]; omega
        have e2 : len (ofL (allL m (pruneL s i))) = m.1 := by simp only [len, ofL_len, hal2]; omega
        have href : ∀ a b (ha : a < (ofL (allL m s)).length) (hb : b < (ofL (allL m s)).length), (ofL (allL m s))[a] = (ofL (allL m s))[b] → (ofL (allL m (pruneL s i)))[a]'(by rw [ofL_len] at ha ⊢; omega) = (ofL (allL m (pruneL s i)))[b]'(by rw [ofL_len] at hb ⊢; omega) := by
          intro a b ha hb he
          rw [ofL_len] at ha hb
          have h1 := (ofL_same ha hb).1 he
          rw [ofL_same (by omega) (by omega), allL_get, allL_get]
          rw [allL_get, allL_get] at h1
          have := prune_same h i (x := a) (y := b) (by omega) (by omega) (s.length + 1) 0 (.inr (by omega)) h1
          simp only [runL, hpl]
          exact this
        rw [dnlt_len, cond_false, f15_eq 5000 (by omega), f15_eq 5000 (by omega), if_pos hc, if_pos hc2]
        simp only [Option.bind_some, decide_true, Bool.not_true, cond_false, e1, e2]
        rw [f24_true 5000 (by omega) (by rw [ofL_len, ofL_len, hal, hal2]) (by rw [ofL_len]; omega) href]
        simp only [Option.bind_some, Bool.not_true, cond_false]
        refine iter_for (fun k o => o = (idG m.1.toNat).take k) m.1.toNat ?_ ?_ 5000 (by omega) _ (by simp)
        · intro k o v hk ho hv
          subst ho
          have hroom : ((room : Nat) : Int) = 4294967296 := rfl
          have hkr : k < (List.replicate (Int.toNat m.1) (0 : Int)).length := by simp; omega
          have e3 : decide ((k : Int) < m.1) = true := by simp; omega
          simp only [f11_L31]
          rw [e3, cond_true, chk_true (by rw [hroom]; simp; omega), chk_true (inb_lt hkr), idx_lt hkr]
          simp only [Option.bind_some]
          rw [chk_room (by simp [idG_len]; omega), wi64_of (by omega) (by omega), setI_nat]
          refine hv _ ?_
          rw [take_succ (by rw [idG_len]; exact hk)]
          simp [idG]
        · intro o v ho
          subst ho
          have e3 : decide (((m.1.toNat : Nat) : Int) < m.1) = false := by simp; omega
          simp only [f11_L31]
          have hmn : ((m.1.toNat : Nat) : Int) = m.1 := by omega
          have hid := idG_ok (n := m.1.toNat) (by omega) (by omega)
          rw [hmn] at hid
          rw [e3, cond_false, List.take_of_length_le (by rw [idG_len]; exact Nat.le_refl _), f28_eq 5000 (by omega), f28_eq 5000 (by omega), if_pos ⟨h.menu, hid, e1, okP_ofL _⟩, if_pos ⟨h.menu, hid, e2, okP_ofL _⟩]
          have hrow : ∀ row ∈ idG m.1.toNat, rowOK m.1 row = true := by
            simp only [gainOK, Bool.and_eq_true] at hid
            exact fun row hr => List.all_eq_true.1 hid.2 row hr
          have hmono := worth_mono hrow (okP_ofL (allL m s)) (okP_ofL (allL m (pruneL s i))) (by rw [ofL_len, ofL_len, hal, hal2]) href
          simp [hmono]
    · have a0 : (cond (decide (x < 0)) (some true) (some (decide (len s ≤ x))) : Option Bool) = some true := by
        by_cases a1 : x < 0
        · simp [a1]
        · have a2 : len s ≤ x := by omega
          simp [a1, a2]
      rw [a0, if_neg hx]
      simp [len]
  · simp [hc, len]

end Go.Kz
