/-
  The layer strategy: transcripts, Split, Depth; plain laws.
-/
import Derived.Test.YtcnmiohlpaommaaKzS2
set_option linter.unusedVariables false
set_option linter.unusedSimpArgs false
namespace Go.Kz

/-! ## Right strategies -/
theorem node_none {m : Menu} {n : Int} {i : Nat} {c : Choice} (h : nodeCode m n i c = none) :
    0 ≤ c.1 ∧ c.1 < m.2.1.length ∧ len c.2.1 = top 0 (m.2.1.getD c.1.toNat []) ∧ ∀ x ∈ c.2.1, x = -1 ∨ ((i : Int) < x ∧ x < n) := by
  unfold nodeCode at h
  split at h
  · rename_i h1
    split at h
    · rename_i h2
      split at h
      · rename_i h3
        refine ⟨h1.1, h1.2, h2, fun x hx => ?_⟩
        have := List.all_eq_true.1 h3 x hx
        simpa [nextOK] using this
      · simp at h
    · simp at h
  · simp at h
theorem node_some {m : Menu} {n : Int} {i : Nat} {c : Choice} {b : Int} (h : nodeCode m n i c = some b) : b = 3 ∨ b = 2 ∨ b = 10 := by
  unfold nodeCode at h
  split at h
  · split at h
    · split at h
      · simp at h
      · simp at h; omega
    · simp at h; omega
  · simp at h; omega
theorem firstS_some {β : Type} {p : Nat → Option β} {b : β} : {n k : Nat} → firstS p n k = some b → ∃ i, p i = some b
  | 0, k, h => by simp [firstS] at h
  | n + 1, k, h => by
    simp only [firstS] at h
    cases hp : p k with
    | some c => rw [hp] at h; exact ⟨k, by rw [hp]; exact h⟩
    | none => rw [hp] at h; exact firstS_some h

structure Right (m : Menu) (s : List Choice) : Prop where
  menu : menuOK m = true
  few : s.length ≤ 256
  node : ∀ (i : Nat) (h : i < s.length), nodeCode m (len s) i s[i] = none
theorem chk_zero {m : Menu} {s : List Choice} : chkCode m s = 0 ↔ Right m s := by
  unfold chkCode
  constructor
  · intro h
    split at h
    · rename_i h1
      split at h
      · rename_i h2
        refine ⟨h1, h2, fun i hi => ?_⟩
        have hn : firstS (fun i => nodeCode m (len s) i (s.getD i (0, [], ()))) s.length 0 = none := by
          cases hf : firstS (fun i => nodeCode m (len s) i (s.getD i (0, [], ()))) s.length 0 with
          | none => rfl
          | some b =>
            rw [hf] at h
            obtain ⟨j, hj⟩ := firstS_some hf
            have := node_some hj
            simp at h; omega
        have := firstS_none.1 hn i (by omega) (by omega)
        simpa [hi] using this
      · simp at h
    · simp at h
  · intro h
    rw [if_pos h.menu, if_pos h.few]
    have hn : firstS (fun i => nodeCode m (len s) i (s.getD i (0, [], ()))) s.length 0 = none := by
      rw [firstS_none]
      intro i _ hi
      have hi' : i < s.length := by omega
      have := h.node i hi'
      simpa [hi'] using this
    rw [hn]; rfl

/-! ## Transcripts -/
def viewOf (m : Menu) (c : Choice) : List Int := m.2.1.getD c.1.toNat []
def runN (m : Menu) (s : List Choice) (x : Nat) : Nat → Int → List Ans
  | 0, _ => []
  | n + 1, i => if i = -1 ∨ len s ≤ i then [] else
    ((s.getD i.toNat (0, [], ())).1, (viewOf m (s.getD i.toNat (0, [], ()))).getD x 0, ()) ::
      runN m s x n ((s.getD i.toNat (0, [], ())).2.1.getD ((viewOf m (s.getD i.toNat (0, [], ()))).getD x 0).toNat (-1))
def runL (m : Menu) (s : List Choice) (x : Nat) : List Ans := runN m s x (s.length + 1) 0

/-- A node, for a secret: its view, the class, what comes next. -/
theorem node_at {m : Menu} {s : List Choice} (h : Right m s) {x : Nat} (hx : (x : Int) < m.1) {i : Nat} (hi : i < s.length) :
    ∃ (c : Choice) (v : List Int) (cl nx : Int), s[i] = c ∧ s.getD i (0, [], ()) = c ∧ viewOf m c = v ∧ idx m.2.1 c.1 = some v ∧ idx v x = some cl ∧ v.getD x 0 = cl ∧ idx c.2.1 cl = some nx ∧ c.2.1.getD cl.toNat (-1) = nx ∧
      (nx = -1 ∨ ((i : Int) < nx ∧ nx < len s)) ∧ len v = m.1 ∧ okP v = true ∧ 0 ≤ cl ∧ cl < top 0 v ∧ len c.2.1 = top 0 v ∧ 0 ≤ c.1 ∧ c.1 < m.2.1.length := by
  obtain ⟨h0, h1, h2, h3⟩ := node_none (h.node i hi)
  obtain ⟨v1, v2, v3⟩ := view_get h.menu h0 h1
  obtain ⟨t1, t2, t3⟩ := top_bound v3
  have hxv : x < (m.2.1.getD s[i].1.toNat []).length := by simp only [len] at v2; omega
  have hcl := t3 _ (List.getElem_mem hxv)
  have hnl : ((m.2.1.getD s[i].1.toNat [])[x]'hxv).toNat < s[i].2.1.length := by simp only [len] at h2; omega
  have hg : (s[i].2.1.getD ((m.2.1.getD s[i].1.toNat [])[x]'hxv).toNat (-1)) = s[i].2.1[((m.2.1.getD s[i].1.toNat [])[x]'hxv).toNat] := by
    rw [List.getD_eq_getElem?_getD, List.getElem?_eq_getElem hnl]; rfl
  refine ⟨s[i], _, (m.2.1.getD s[i].1.toNat [])[x], s[i].2.1[((m.2.1.getD s[i].1.toNat [])[x]).toNat], rfl, by simp [hi], rfl, v1, ?_, ?_, ?_, hg, h3 _ (List.getElem_mem hnl), v2, v3, hcl.1, hcl.2, h2, h0, h1⟩
  · exact List.getElem?_eq_getElem hxv
  · simp only [viewOf]; rw [List.getD_eq_getElem?_getD, List.getElem?_eq_getElem hxv]; rfl
  · exact idx_of hcl.1 (by omega)

theorem runN_stop {m : Menu} {s : List Choice} {x : Nat} {i : Int} (h : i = -1 ∨ len s ≤ i) : (n : Nat) → runN m s x n i = []
  | 0 => rfl
  | n + 1 => by simp only [runN, if_pos h]

theorem f48_eq (N : Nat) (hN : 400 < N) {m : Menu} {s : List Choice} (h : Right m s) (x : Nat) (hx : (x : Int) < m.1) : f48 N m s (x : Int) = some (runL m s x) := by
  have hs := h.few
  unfold f48
  refine iter_rule (fun y : Int × List Ans => (y.1 = -1 ∨ (0 ≤ y.1 ∧ y.1 ≤ len s)) ∧ (∃ n, runL m s x = y.2 ++ runN m s x n y.1 ∧ (y.1 = -1 ∨ len s - y.1 < n)) ∧ len y.2 ≤ (if y.1 = -1 then len s else y.1))
    (fun y => if y.1 = -1 then 0 else (len s - y.1).toNat + 1) ?_ N _ ⟨.inr ⟨by simp, by simp [len]⟩, ⟨s.length + 1, rfl, .inr (by simp [len]; omega)⟩, by simp [len]⟩ (by simp [len]; omega)
  rintro ⟨i, o⟩ w ⟨hi, ⟨n, hn, hn2⟩, ho⟩ hw
  simp only at hi hn hn2 ho
  simp only [f48_L3]
  by_cases h1 : i = -1
  · subst h1
    rw [runN_stop (.inl rfl), List.append_nil] at hn
    simp [hn]
  · by_cases h2 : len s ≤ i
    · have : ¬ i < len s := by omega
      rw [runN_stop (.inr h2), List.append_nil] at hn
      simp [h1, this, hn]
    · have h3 : i < len s := by omega
      have h4 : 0 ≤ i := by omega
      obtain ⟨j, rfl⟩ := Int.eq_ofNat_of_zero_le h4
      have hj : j < s.length := by simp [len] at h3; exact h3
      obtain ⟨c, v, cl, nx, e1, e2, e3, e4, e5, e6, e7, e8, e9, _⟩ := node_at h hx hj
      rw [if_neg h1] at ho
      have hol : o.length ≤ 256 := by simp only [len] at ho; omega
      have e10 : decide ((j : Int) = -1) = false := by simp
      have e11 : decide ((j : Int) < len s) = true := by simp [h3]
      rw [e10, e11]
      simp only [Bool.not_false, cond_true, Option.bind_some, idx_lt hj, e1, e4, e5]
      rw [chk_room (by omega)]
      simp only [e7, Option.bind_some]
      obtain ⟨n, rfl⟩ : ∃ k, n = k + 1 := ⟨n - 1, by omega⟩
      simp only [runN, Int.toNat_natCast, e2, e3, e6, e8] at hn
      rw [if_neg (by omega)] at hn
      refine hw _ ⟨?_, ⟨n, by rw [hn]; simp, ?_⟩, ?_⟩ ?_
      · rcases e9 with e9 | e9
        · exact .inl e9
        · exact .inr ⟨by simp only; omega, by simp only; omega⟩
      · rcases e9 with e9 | e9
        · exact .inl e9
        · exact .inr (by simp only; omega)
      · simp only [len, List.length_append, List.length_cons, List.length_nil] at ho h3 e9 ⊢
        split <;> omega
      · simp only [len] at h3 e9 ⊢
        rw [if_neg h1]
        split <;> omega
theorem f20_is (N : Nat) (m : Menu) (s : List Choice) (x : Int) : f20 N m s x = f48 N m s x := rfl

theorem runN_len {m : Menu} {s : List Choice} (h : Right m s) {x : Nat} (hx : (x : Int) < m.1) : (n : Nat) → (i : Int) → (i = -1 ∨ 0 ≤ i) → len (runN m s x n i) ≤ if i = -1 then 0 else max 0 (len s - i)
  | 0, i, _ => by simp only [runN, len]; split <;> simp; omega
  | n + 1, i, hi => by
    simp only [runN]
    split
    · simp only [len]; split <;> simp; omega
    · rename_i hne
      have h0 : 0 ≤ i := by omega
      obtain ⟨j, rfl⟩ := Int.eq_ofNat_of_zero_le h0
      have hj : j < s.length := by simp only [len] at hne; omega
      obtain ⟨c, v, cl, nx, e1, e2, e3, e4, e5, e6, e7, e8, e9, _⟩ := node_at h hx hj
      simp only [Int.toNat_natCast, e2, e3, e6, e8]
      have ih := runN_len h hx n nx (by omega)
      rw [if_neg (by omega)]
      simp only [len, List.length_cons] at ih ⊢
      split at ih <;> simp only [len] at e9 <;> omega
theorem runL_len {m : Menu} {s : List Choice} (h : Right m s) {x : Nat} (hx : (x : Int) < m.1) : (runL m s x).length ≤ s.length := by
  have := runN_len h hx (s.length + 1) 0 (.inr (by omega))
  simp only [runL, len] at this ⊢
  simp at this; omega

/-! ## All transcripts -/
def allL (m : Menu) (s : List Choice) : List (List Ans) := (List.range m.1.toNat).map fun x => runL m s x
theorem allL_len (m : Menu) (s : List Choice) : (allL m s).length = m.1.toNat := by simp [allL]
theorem allL_get {m : Menu} {s : List Choice} {x : Nat} (h : x < (allL m s).length) : (allL m s)[x] = runL m s x := by simp [allL]
theorem allL_take {m : Menu} {s : List Choice} {k : Nat} (h : k < m.1.toNat) : (allL m s).take (k + 1) = (allL m s).take k ++ [runL m s k] := by
  rw [take_succ (by rw [allL_len]; exact h), allL_get]

theorem f40_eq (N : Nat) (hN : 400 < N) {m : Menu} {s : List Choice} (h : Right m s) : f40 N m s = some (allL m s) := by
  obtain ⟨m1, m2, m3, m4⟩ := menuOK_iff.1 h.menu
  unfold f40
  refine iter_for (fun k o => o = (allL m s).take k) m.1.toNat ?_ ?_ N (by omega) [] (by simp)
  · intro k o w hk ho hw
    subst ho
    simp only [f40_L3]
    have e : decide ((k : Int) < m.1) = true := by simp; omega
    rw [e, cond_true, f48_eq N hN h k (by omega)]
    simp only [Option.bind_some]
    rw [chk_room (by simp [allL_len]; omega), wi64_of (by omega) (by omega)]
    exact hw _ (by rw [allL_take hk])
  · intro o w ho
    subst ho
    simp only [f40_L3]
    have e : decide (((m.1.toNat : Nat) : Int) < m.1) = false := by simp; omega
    rw [e, cond_false, List.take_of_length_le (by rw [allL_len]; exact Nat.le_refl _)]

/-! ## Equal transcripts -/
theorem eqD_ans (x y : Ans) : eqD (.pair (.int .i64) (.pair (.int .i64) .unit)) x y = decide (x = y) := by
  obtain ⟨a, b, u⟩ := x
  obtain ⟨c, d, v⟩ := y
  simp only [eqD, keyEq, Bool.and_true]
  rw [Bool.eq_iff_iff]
  simp
theorem f34_eq (N : Nat) (a b : List Ans) (hN : a.length < N) (hl : a.length < 4294967296) : f34 N a b = some (decide (a = b)) := by
  unfold f34
  by_cases hlen : a.length = b.length
  · have e1 : (!decide (len a = len b)) = false := by simp [len, hlen]
    rw [e1, cond_false]
    refine iter_forI (fun k => ∀ j, j < k → a[j]? = b[j]?) a.length ?_ ?_ N hN (by intro j hj; omega)
    · intro k w hk hi hw
      simp only [f34_L4]
      rw [dlt_len hk, cond_true, idx_lt hk, idx_lt (l := b) (by omega)]
      simp only [Option.bind_some, eqD_ans]
      by_cases he : a[k] = b[k]'(by omega)
      · rw [wi64_of (by omega) (by omega)]
        simp only [he, decide_true, Bool.not_true, cond_false]
        refine hw fun j hj => ?_
        by_cases hjk : j = k
        · subst hjk; rw [List.getElem?_eq_getElem hk, List.getElem?_eq_getElem (by omega), he]
        · exact hi j (by omega)
      · have hne : a ≠ b := by intro h; subst h; exact he rfl
        simp [he, hne]
    · intro w hi
      simp only [f34_L4]
      rw [dnlt_len, cond_false]
      have : a = b := by
        apply List.ext_getElem?
        intro j
        by_cases hj : j < a.length
        · exact hi j hj
        · rw [List.getElem?_eq_none (by omega), List.getElem?_eq_none (by omega)]
      simp [this]
  · have e1 : (!decide (len a = len b)) = true := by simp [len]; omega
    have hne : a ≠ b := by intro h; subst h; exact hlen rfl
    rw [e1, cond_true]; simp [hne]

theorem posOf_first {α : Type} [DecidableEq α] {x : α} : {l : List α} → {k : Nat} → (h : k < l.length) → l[k] = x → (∀ j (hj : j < k), l[j] ≠ x) → posOf x l = k
  | y :: l, 0, _, he, _ => by simp only [List.getElem_cons_zero] at he; simp [posOf, he]
  | y :: l, k + 1, h, he, hn => by
    have h0 : y ≠ x := hn 0 (by omega)
    simp only [posOf, if_neg h0]
    rw [posOf_first (k := k) (by simpa using h) (by simpa using he) (fun j hj => by simpa using hn (j + 1) (by omega))]

theorem f41_eq (N : Nat) (l : List (List Ans)) (t : List Ans) (ht : t ∈ l) (hl : l.length < N) (hl2 : l.length < 4294967296) (hb : t.length < N) (hb2 : t.length < 4294967296) : f41 N l (t, ()) = some ((posOf t l : Nat) : Int) := by
  unfold f41
  refine iter_forI (fun k => ∀ j (hj : j < l.length), j < k → l[j] ≠ t) l.length ?_ ?_ N hl (by intro j _ hj; omega)
  · intro k w hk hi hw
    simp only [f41_L2]
    rw [dlt_len hk, cond_true, idx_lt hk]
    simp only [Option.bind_some, f42]
    rw [f34_eq N t _ hb hb2]
    simp only [Option.bind_some]
    by_cases he : t = l[k]
    · have := posOf_first hk he.symm (fun j hj => hi j (by omega) hj)
      rw [decide_eq_true he, cond_true, this]
    · simp only [he, decide_false, cond_false]
      rw [wi64_of (by omega) (by omega)]
      refine hw fun j hj hjk => ?_
      by_cases hjk2 : j = k
      · subst hjk2; exact fun h => he h.symm
      · exact hi j hj (by omega)
  · intro w hi
    exfalso
    obtain ⟨j, hj, he⟩ := List.mem_iff_getElem.1 ht
    exact hi j hj hj he

/-! ## Split and Depth -/
theorem f15_eq (N : Nat) (hN : 400 < N) (m : Menu) (s : List Choice) : f15 N m s = some (if chkCode m s = 0 then (ofL (allL m s), 0) else ([], chkCode m s)) := by
  unfold f15
  rw [f19_eq N hN]
  simp only [Option.bind_some]
  by_cases hc : chkCode m s = 0
  · have h := chk_zero.1 hc
    obtain ⟨m1, m2, m3, m4⟩ := menuOK_iff.1 h.menu
    have hal := allL_len m s
    simp only [hc, decide_true, Bool.not_true, cond_false, if_true]
    rw [f40_eq N hN h]
    simp only [Option.bind_some]
    generalize hl : allL m s = l at hal
    rw [chk_true (by rw [show ((room : Nat) : Int) = 4294967296 from rfl]; simp [len]; omega)]
    refine iter_for (fun k o => o = (l.take k).map (fun t => ((posOf t l : Nat) : Int)) ++ List.replicate (l.length - k) 0) l.length ?_ ?_ N (by omega) _ (by simp [len])
    · intro k o w hk ho hw
      subst ho
      have hol : ((l.take k).map (fun t => ((posOf t l : Nat) : Int)) ++ List.replicate (l.length - k) 0).length = l.length := by simp; omega
      have hko : k < ((l.take k).map (fun t => ((posOf t l : Nat) : Int)) ++ List.replicate (l.length - k) 0).length := by omega
      have hrl : (l[k]).length ≤ 256 := by
        have h1 : l[k] = runL m s k := by subst hl; exact allL_get _
        rw [h1]
        have := runL_len h (x := k) (by omega)
        have := h.few
        omega
      simp only [f15_L7]
      rw [dlt_len hk, cond_true, chk_true (inb_lt hk), idx_lt hk]
      simp only [Option.bind_some]
      rw [f41_eq N l _ (List.getElem_mem hk) (by omega) (by omega) (by omega) (by omega)]
      simp only [Option.bind_some]
      rw [chk_true (inb_lt hko), idx_lt hko]
      simp only [Option.bind_some]
      rw [wi64_of (by omega) (by omega), setI_nat]
      refine hw _ ?_
      rw [take_succ hk]
      have e : l.length - k = (l.length - (k + 1)) + 1 := by omega
      rw [e, List.replicate_succ]
      have hml : ((l.take k).map (fun t => ((posOf t l : Nat) : Int))).length = k := by simp; omega
      rw [List.set_append_right _ _ (by omega), hml, Nat.sub_self, List.set_cons_zero, List.map_append, List.map_cons, List.map_nil, List.append_assoc, List.singleton_append]
    · intro o w ho
      subst ho
      simp only [f15_L7]
      rw [dnlt_len, cond_false, List.take_length, Nat.sub_self, List.replicate_zero, List.append_nil, f43_eq N _ (by simp; omega) (by simp; omega)]
      simp only [Option.bind_some]
      rw [ofL_map (f := fun t => ((posOf t l : Nat) : Int)) (fun x hx y hy he => posOf_inj hx hy (Int.ofNat.inj he))]
  · have e : decide (chkCode m s = 0) = false := by simp [hc]
    rw [e, if_neg hc]; rfl

def depthL (l : List (List Ans)) : Int := l.foldl (fun d t => max d (len t)) 0
theorem depth_snoc (l : List (List Ans)) (t : List Ans) : depthL (l ++ [t]) = max (depthL l) (len t) := by simp [depthL]
theorem maxI_eq (a b : Int) : maxI a b = max a b := by simp only [maxI]; split <;> omega

theorem f16_eq (N : Nat) (hN : 400 < N) (m : Menu) (s : List Choice) : f16 N m s = some (if chkCode m s = 0 then (depthL (allL m s), 0) else (0, chkCode m s)) := by
  unfold f16
  rw [f19_eq N hN]
  simp only [Option.bind_some]
  by_cases hc : chkCode m s = 0
  · have h := chk_zero.1 hc
    obtain ⟨m1, m2, m3, m4⟩ := menuOK_iff.1 h.menu
    have hal := allL_len m s
    simp only [hc, decide_true, Bool.not_true, cond_false, if_true]
    rw [f40_eq N hN h]
    simp only [Option.bind_some]
    generalize allL m s = l at hal
    refine iter_for (fun k o => o = depthL (l.take k)) l.length ?_ ?_ N (by omega) _ (by simp [depthL])
    · intro k o w hk ho hw
      subst ho
      simp only [f16_L6]
      rw [dlt_len hk, cond_true, chk_true (inb_lt hk), idx_lt hk]
      simp only [Option.bind_some]
      rw [wi64_of (by omega) (by omega)]
      exact hw _ (by rw [take_succ hk, depth_snoc, maxI_eq])
    · intro o w ho
      subst ho
      simp only [f16_L6]
      rw [dnlt_len, cond_false, List.take_length]
  · have e : decide (chkCode m s = 0) = false := by simp [hc]
    rw [e, if_neg hc]; rfl

/-! ## The first law -/
theorem law3 (m : Menu) (s : List Choice) : f3 5000 m s = some true := by
  unfold f3
  rw [f12_5000]
  obtain ⟨x, hx⟩ := f13_some 5000 (by omega) m s 70 300 (by omega)
  rw [hx]
  simp only [Option.bind_some, Bool.not_true, cond_false]
  cases x with
  | false => rfl
  | true =>
  simp only [Bool.not_true, cond_false]
  rw [f14_eq 5000 (by omega), f15_eq 5000 (by omega), f16_eq 5000 (by omega), f17_eq 5000 (by omega), f18_eq 5000 (by omega), f19_eq 5000 (by omega)]
  simp only [Option.bind_some, decide_true, Bool.not_true, cond_false]
  by_cases hc : chkCode m s = 0
  · simp [hc]
  · simp [hc, len]

end Go.Kz
