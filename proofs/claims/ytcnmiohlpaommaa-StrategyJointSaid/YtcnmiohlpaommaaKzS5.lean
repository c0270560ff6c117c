/-
  The layer strategy: Joint, Refines; a strategy tells no more than all its questions; plain laws.
-/
import Derived.Test.YtcnmiohlpaommaaKzS4
set_option linter.unusedVariables false
set_option linter.unusedSimpArgs false
namespace Go.Kz

theorem iter_all2 {R : Type} {F : (Int → Option R) → Int → Option R} {α : Type} (l : List α) (p : α → Bool) (A B : Option R)
    (step : ∀ (k : Nat) (w : Int → Option R) (hk : k < l.length), F w (k : Int) = if p l[k] then w ((k : Int) + 1) else B)
    (last : ∀ (w : Int → Option R), l.all p = true → F w (l.length : Int) = A) (N : Nat) (hN : l.length < N) : iter F N 0 = if l.all p then A else B := by
  refine iter_forI (fun k => (l.take k).all p = true) l.length ?_ ?_ N hN (by simp)
  · intro k w hk hi hw
    rw [step k w hk]
    cases hp : p l[k] with
    | true =>
      simp only [if_true]
      exact hw (by rw [take_succ hk, List.all_append, hi, List.all_cons, hp]; rfl)
    | false =>
      simp only [Bool.false_eq_true, if_false]
      have : l.all p = false := by
        rw [List.all_eq_false]
        exact ⟨l[k], List.getElem_mem hk, by simp [hp]⟩
      rw [this]; rfl
  · intro w hi
    rw [List.take_length] at hi
    rw [last w hi, hi]; rfl
theorem okFrom_rep : (n : Nat) → (k : Int) → 0 ≤ k → okFrom k (List.replicate n 0) = true
  | 0, _, _ => rfl
  | n + 1, k, h => by
    rw [List.replicate_succ]
    simp only [okFrom, okFrom_rep n (max k (0 + 1)) (by omega), Bool.and_true, Bool.and_eq_true, decide_eq_true_eq]
    omega

/-! ## Joint -/
def viewQ (m : Menu) (q : Int) : List Int := m.2.1.getD q.toNat []
/-- The answers of a secret to the questions. -/
def keyQ (m : Menu) (qs : List Int) (x : Nat) : List Int := qs.map fun q => (viewQ m q).getD x 0
def jointL (m : Menu) (qs : List Int) : List Int := ofL ((List.range m.1.toNat).map fun x => keyQ m qs x)
def askOK (m : Menu) (q : Int) : Bool := decide (0 ≤ q) && decide (q < (m.2.1.length : Int))

theorem keyQ_snoc (m : Menu) (qs : List Int) (q : Int) (x : Nat) : keyQ m (qs ++ [q]) x = keyQ m qs x ++ [(viewQ m q).getD x 0] := by simp [keyQ]

theorem joint_step {m : Menu} (hm : menuOK m = true) {qs : List Int} {q : Int} (hq : askOK m q = true) {l : List Int} (hl : l.length = m.1.toNat)
    (hv : ∀ x (hx : x < l.length), l[x] = ((jointL m qs).getD x 0) * m.1 + (viewQ m q).getD x 0) : ofL l = jointL m (qs ++ [q]) := by
  simp only [askOK, Bool.and_eq_true, decide_eq_true_eq] at hq
  obtain ⟨v1, v2, v3⟩ := view_get hm hq.1 hq.2
  obtain ⟨m1, m2, _, _⟩ := menuOK_iff.1 hm
  obtain ⟨t1, t2, t3⟩ := top_bound v3
  have hvl : (viewQ m q).length = m.1.toNat := by simp only [viewQ, len] at v2 ⊢; omega
  have hcl : ∀ x, x < m.1.toNat → 0 ≤ (viewQ m q).getD x 0 ∧ (viewQ m q).getD x 0 < m.1 := by
    intro x hx
    have hx' : x < (viewQ m q).length := by omega
    have hg : (viewQ m q).getD x 0 = (viewQ m q)[x] := by rw [List.getD_eq_getElem?_getD, List.getElem?_eq_getElem hx']; rfl
    have := t3 _ (List.getElem_mem hx')
    rw [hg]
    simp only [viewQ] at this ⊢
    simp only [len] at v2
    omega
  have hjl : (jointL m qs).length = m.1.toNat := by simp [jointL, ofL_len]
  unfold jointL
  refine ofL_congr (by simp [hl]) ?_
  intro i j hi hj
  rw [hv i hi, hv j hj]
  simp only [List.getElem_map, List.getElem_range, keyQ_snoc]
  have ki : (jointL m qs).getD i 0 = (jointL m qs)[i]'(by omega) := by rw [List.getD_eq_getElem?_getD, List.getElem?_eq_getElem (by omega)]; rfl
  have kj : (jointL m qs).getD j 0 = (jointL m qs)[j]'(by omega) := by rw [List.getD_eq_getElem?_getD, List.getElem?_eq_getElem (by omega)]; rfl
  have hs : (jointL m qs)[i]'(by omega) = (jointL m qs)[j]'(by omega) ↔ keyQ m qs i = keyQ m qs j := by
    have := ofL_same (l := (List.range m.1.toNat).map fun x => keyQ m qs x) (i := i) (j := j) (by simp; omega) (by simp; omega)
    simp only [List.getElem_map, List.getElem_range] at this
    exact this
  rw [ki, kj]
  have ci := hcl i (by omega)
  have cj := hcl j (by omega)
  generalize (jointL m qs)[i]'(by omega) = a at hs
  generalize (jointL m qs)[j]'(by omega) = b at hs
  generalize (viewQ m q).getD i 0 = c at ci
  generalize (viewQ m q).getD j 0 = d at cj
  constructor
  · intro h
    have h1 : c = d := by
      have e1 : (a * m.1 + c) % m.1 = c := by rw [Int.add_comm, Int.add_mul_emod_self_right]; exact Int.emod_eq_of_lt ci.1 ci.2
      have e2 : (b * m.1 + d) % m.1 = d := by rw [Int.add_comm, Int.add_mul_emod_self_right]; exact Int.emod_eq_of_lt cj.1 cj.2
      rw [← e1, ← e2, h]
    have h2 : a = b := by
      have h3 : a * m.1 = b * m.1 := by omega
      exact Int.eq_of_mul_eq_mul_right (by omega) h3
    rw [h1, hs.1 h2]
  · intro h
    have h1 := List.append_inj h (by simp [keyQ])
    have h2 : c = d := by simpa using h1.2
    rw [hs.2 h1.1, h2]

theorem f23_eq (N : Nat) (hN : 400 < N) (m : Menu) (qs : List Int) (hq : qs.length ≤ 300) :
    f23 N m qs = some (if menuOK m then (if qs.all (askOK m) then (jointL m qs, 0) else ([], 3)) else ([], 1)) := by
  unfold f23
  rw [f17_eq N hN]
  simp only [Option.bind_some, menuCode]
  cases hm : menuOK m with
  | false => simp
  | true =>
  obtain ⟨m1, m2, m3, m4⟩ := menuOK_iff.1 hm
  simp only [if_true, decide_true, Bool.not_true, cond_false]
  have hroom : ((room : Nat) : Int) = 4294967296 := rfl
  rw [iter_all2 qs (askOK m) (some (jointL m qs, 0)) (some ([], 3)) ?_ ?_ N (by omega)]
  · split <;> rfl
  · intro k w hk
    simp only [f23_L5]
    rw [dlt_len hk, cond_true, idx_lt hk]
    simp only [Option.bind_some]
    rw [wi64_of (by omega) (by omega)]
    generalize qs[k] = q
    simp only [askOK]
    by_cases h1 : q < 0
    · have : ¬ 0 ≤ q := by omega
      simp [h1, this]
    · have h1' : 0 ≤ q := by omega
      by_cases h2 : len m.2.1 ≤ q
      · have : ¬ q < (m.2.1.length : Int) := by simp only [len] at h2; omega
        simp [h1, h1', h2, this]
      · have : q < (m.2.1.length : Int) := by simp only [len] at h2; omega
        simp [h1, h1', h2, this]
  · intro w hok
    simp only [f23_L5]
    rw [dnlt_len, cond_false]
    rw [chk_true (by rw [hroom]; simp; omega)]
    refine iter_for (fun k o => o = jointL m (qs.take k)) qs.length ?_ ?_ N (by omega) _ ?_
    · intro k o w hk ho hw
      subst ho
      have hqk : askOK m qs[k] = true := List.all_eq_true.1 hok _ (List.getElem_mem hk)
      have hqk' := hqk
      simp only [askOK, Bool.and_eq_true, decide_eq_true_eq] at hqk'
      obtain ⟨v1, v2, v3⟩ := view_get hm hqk'.1 hqk'.2
      obtain ⟨t1, t2, t3⟩ := top_bound v3
      have hjl : (jointL m (qs.take k)).length = m.1.toNat := by simp [jointL, ofL_len]
      have hjb := top_bound (okP_ofL ((List.range m.1.toNat).map fun x => keyQ m (qs.take k) x))
      have hvl : (viewQ m qs[k]).length = m.1.toNat := by simp only [viewQ, len] at v2 ⊢; omega
      simp only [f23_L12]
      rw [dlt_len hk, cond_true, idx_lt hk]
      simp only [Option.bind_some]
      rw [v1]
      simp only [Option.bind_some]
      show iter (fun w_1 => f23_L15 N (viewQ m qs[k]) qs (len qs) (k : Int) (len (viewQ m qs[k])) m w_1 _) N (0, jointL m (qs.take k)) = _
      refine iter_for (fun j o => o.length = m.1.toNat ∧ (∀ x (hx : x < o.length), o[x] = if x < j then ((jointL m (qs.take k)).getD x 0) * m.1 + (viewQ m qs[k]).getD x 0 else (jointL m (qs.take k)).getD x 0)) (viewQ m qs[k]).length ?_ ?_ N (by omega) _ ?_
      · intro j o w2 hj ho hw2
        obtain ⟨hol, hov⟩ := ho
        have hjo : j < o.length := by omega
        simp only [f23_L15]
        rw [dlt_len hj, cond_true, idx_lt hj]
        simp only [Option.bind_some]
        rw [chk_true (inb_lt hjo), idx_lt hjo]
        simp only [Option.bind_some]
        have hoj := hov j hjo
        simp only [Nat.lt_irrefl, if_false] at hoj
        have hjj : (jointL m (qs.take k)).getD j 0 = (jointL m (qs.take k))[j]'(by omega) := by rw [List.getD_eq_getElem?_getD, List.getElem?_eq_getElem (by omega)]; rfl
        have hjv := hjb.2.2 _ (List.getElem_mem (l := jointL m (qs.take k)) (n := j) (by omega))
        have hjt := hjb.2.1
        rw [ofL_len] at hjt
        simp only [List.length_map, List.length_range] at hjt
        have hvj := t3 _ (List.getElem_mem (l := viewQ m qs[k]) (n := j) hj)
        have hvg : (viewQ m qs[k]).getD j 0 = (viewQ m qs[k])[j] := by rw [List.getD_eq_getElem?_getD, List.getElem?_eq_getElem hj]; rfl
        have hv62 : (viewQ m qs[k])[j] ≤ 62 := by
          have a1 := hvj.2
          have a2 : ((m.2.1.getD qs[k].toNat []).length : Int) = m.1 := v2
          omega
        have hv0 : 0 ≤ (viewQ m qs[k])[j] := hvj.1
        have hmul : 0 ≤ o[j] * m.1 ∧ o[j] * m.1 ≤ 62 * 62 := by
          rw [hoj, hjj]
          refine ⟨Int.mul_nonneg hjv.1 (by omega), Int.mul_le_mul (by omega) m2 (by omega) (by omega)⟩
        rw [wi64_of (n := o[j] * m.1) (by omega) (by omega), wi64_of (n := o[j] * m.1 + _) (by omega) (by omega), wi64_of (by omega) (by omega), setI_nat]
        rw [chk_true (inb_lt hjo)]
        refine hw2 _ ⟨(List.length_set ..).trans hol, fun x hx => ?_⟩
        rw [List.getElem_set]
        by_cases hxj : j = x
        · subst hxj
          simp only [if_true, show j < j + 1 from by omega]
          rw [hoj, hvg]
        · have hx' : x < o.length := by simpa using hx
          have := hov x hx'
          simp only [hxj, if_false]
          rw [this]
          by_cases h1 : x < j
          · have h2 : x < j + 1 := by omega
            simp [h1, h2]
          · have h2 : ¬ x < j + 1 := by omega
            simp [h1, h2]
      · intro o w2 ho
        obtain ⟨hol, hov⟩ := ho
        simp only [f23_L15]
        rw [dnlt_len, cond_false, f43_eq N _ (by omega) (by omega)]
        simp only [Option.bind_some]
        rw [wi64_of (by omega) (by omega)]
        refine hw _ ?_
        rw [take_succ hk]
        refine joint_step hm hqk hol (fun x hx => ?_)
        rw [hov x hx, if_pos (by omega)]
      · refine ⟨hjl, fun x hx => ?_⟩
        simp only [Nat.not_lt_zero, if_false]
        rw [List.getD_eq_getElem?_getD, List.getElem?_eq_getElem hx]; rfl
    · intro o w ho
      subst ho
      have hjl : (jointL m qs).length = m.1.toNat := by simp [jointL, ofL_len]
      simp only [f23_L12]
      rw [dnlt_len, cond_false, List.take_length, f43_eq N _ (by omega) (by omega)]
      simp only [Option.bind_some]
      rw [show ofL (jointL m qs) = jointL m qs from (ofL_eq_iff _).2 (okP_ofL _)]
    · have h1 : ofL (List.replicate m.1.toNat (0 : Int)) = List.replicate m.1.toNat 0 := (ofL_eq_iff _).2 (okFrom_rep _ 0 (by omega))
      rw [← h1]
      refine ofL_congr (by simp) ?_
      intro i j hi hj
      simp [keyQ]

/-! ## Refines -/
theorem f24_true (N : Nat) (hN : 400 < N) {p q : List Int} (hl : p.length = q.length) (hs : p.length ≤ 300) (h : ∀ i j (hi : i < p.length) (hj : j < p.length), p[i] = p[j] → q[i]'(by omega) = q[j]'(by omega)) : f24 N p q = some true := by
  unfold f24
  refine iter_forI (fun _ => True) p.length ?_ ?_ N (by omega) trivial
  · intro i w hi _ hw
    simp only [f24_L2]
    rw [dlt_len hi, cond_true]
    refine iter_forI (fun _ => True) p.length ?_ ?_ N (by omega) trivial
    · intro j v hj _ hv
      simp only [f24_L5]
      rw [dlt_len hj, cond_true, idx_lt hi, idx_lt hj, idx_lt (l := q) (k := i) (by omega), idx_lt (l := q) (k := j) (by omega), wi64_of (by omega) (by omega)]
      simp only [Option.bind_some]
      by_cases he : p[i] = p[j]
      · have := h i j hi hj he
        simp only [he, this, decide_true, Bool.not_true, cond_true, cond_false, Option.bind_some]
        exact hv trivial
      · simp only [he, decide_false, cond_false, Option.bind_some]
        exact hv trivial
    · intro v _
      simp only [f24_L5]
      rw [dnlt_len, cond_false, wi64_of (by omega) (by omega)]
      exact hw trivial
  · intro w _
    simp only [f24_L2]
    rw [dnlt_len, cond_false]
    simp [len, hl]

/-! ## The law -/
/-- Secrets with the same answers to all questions have the same transcript. -/
theorem run_same {m : Menu} {s : List Choice} (h : Right m s) {x y : Nat} (hx : (x : Int) < m.1) (hy : (y : Int) < m.1) (hk : keyQ m (s.map (·.1)) x = keyQ m (s.map (·.1)) y) :
    (n : Nat) → (i : Int) → (i = -1 ∨ 0 ≤ i) → runN m s x n i = runN m s y n i
  | 0, _, _ => rfl
  | n + 1, i, hi => by
    simp only [runN]
    split
    · rfl
    · rename_i hne
      have h0 : 0 ≤ i := by omega
      obtain ⟨j, rfl⟩ := Int.eq_ofNat_of_zero_le h0
      have hj : j < s.length := by simp only [len] at hne; omega
      obtain ⟨c, v, cl, nx, e1, e2, e3, e4, e5, e6, e7, e8, e9, _⟩ := node_at h hx hj
      have hv : v.getD x 0 = v.getD y 0 := by
        have hgx : (keyQ m (s.map (·.1)) x)[j]? = some (v.getD x 0) := by simp [keyQ, hj, e1, ← e3, viewOf, viewQ]
        have hgy : (keyQ m (s.map (·.1)) y)[j]? = some (v.getD y 0) := by simp [keyQ, hj, e1, ← e3, viewOf, viewQ]
        rw [hk, hgy] at hgx
        simpa using hgx.symm
      simp only [Int.toNat_natCast, e2, e3, ← hv, e6, e8]
      rw [run_same h hx hy hk n nx (by omega)]

theorem law5 (m : Menu) (s : List Choice) : f5 5000 m s = some true := by
  unfold f5
  rw [f12_5000]
  obtain ⟨x, hx⟩ := f13_some 5000 (by omega) m s 62 60 (by omega)
  rw [hx]
  simp only [Option.bind_some, Bool.not_true, cond_false]
  cases x with
  | false => rfl
  | true =>
  simp only [Bool.not_true, cond_false]
  rw [f14_eq 5000 (by omega)]
  simp only [Option.bind_some]
  by_cases hc : chkCode m s = 0
  · have h := chk_zero.1 hc
    obtain ⟨m1, m2, m3, m4⟩ := menuOK_iff.1 h.menu
    have hal := allL_len m s
    have hs := h.few
    simp only [hc, decide_true, Bool.not_true, cond_false]
    refine iter_for (fun k o => o = (s.take k).map (·.1)) s.length ?_ ?_ 5000 (by omega) _ (by simp)
    · intro k o w hk ho hw
      subst ho
      simp only [f5_L7]
      rw [dlt_len hk, cond_true, idx_lt hk]
      simp only [Option.bind_some]
      rw [chk_room (by simp; omega), wi64_of (by omega) (by omega)]
      exact hw _ (by rw [take_succ hk, List.map_append]; rfl)
    · intro o w ho
      subst ho
      simp only [f5_L7]
      have hall : (s.map (·.1)).all (askOK m) = true := by
        rw [List.all_eq_true]
        intro q hq
        obtain ⟨c, hc', rfl⟩ := List.mem_map.1 hq
        obtain ⟨i, hi, rfl⟩ := List.mem_iff_getElem.1 hc'
        obtain ⟨n1, n2, _⟩ := node_none (h.node i hi)
        simp [askOK, n1, n2]
      have hjl : (jointL m (s.map (·.1))).length = m.1.toNat := by simp [jointL, ofL_len]
      have hol : (ofL (allL m s)).length = m.1.toNat := by rw [ofL_len, hal]
      rw [dnlt_len, cond_false, List.take_length, f15_eq 5000 (by omega), if_pos hc, f23_eq 5000 (by omega) m _ (by simp; omega), h.menu, hall]
      simp only [if_true, Option.bind_some, decide_true, cond_true]
      have e : decide (len (ofL (allL m s)) = m.1) = true := by simp only [len, hol, decide_eq_true_eq]; omega
      rw [e]
      simp only [cond_true, Option.bind_some]
      rw [f24_true 5000 (by omega) (by omega) (by omega) ?_]
      · rfl
      · intro i j hi hj he
        have e1 := ofL_same (l := (List.range m.1.toNat).map fun x => keyQ m (s.map (·.1)) x) (i := i) (j := j) (by simp; omega) (by simp; omega)
        have e2 := ofL_same (l := allL m s) (i := i) (j := j) (by omega) (by omega)
        rw [e2, allL_get, allL_get]
        simp only [List.getElem_map, List.getElem_range] at e1
        exact run_same h (by omega) (by omega) (e1.1 he) _ _ (.inr (by omega))
  · simp [hc]

end Go.Kz
