/-
  The layer strategy: Worth; plain laws.
-/
import Derived.Test.YtcnmiohlpaommaaKzS5
set_option linter.unusedVariables false
set_option linter.unusedSimpArgs false
namespace Go.Kz

/-! ## Sums -/
def sumTo : Nat → (Nat → Int) → Int
  | 0, _ => 0
  | n + 1, f => sumTo n f + f n
theorem sumTo_congr {f g : Nat → Int} : {n : Nat} → (∀ i, i < n → f i = g i) → sumTo n f = sumTo n g
  | 0, _ => rfl
  | n + 1, h => by simp only [sumTo, h n (by omega), sumTo_congr (n := n) (fun i hi => h i (by omega))]
theorem sumTo_mono {f g : Nat → Int} : {n : Nat} → (∀ i, i < n → f i ≤ g i) → sumTo n f ≤ sumTo n g
  | 0, _ => by simp [sumTo]
  | n + 1, h => by
    have h1 := h n (by omega)
    have h2 := sumTo_mono (n := n) (fun i hi => h i (by omega))
    simp only [sumTo]; omega
theorem sumTo_zero : (n : Nat) → sumTo n (fun _ => 0) = 0
  | 0 => rfl
  | n + 1 => by simp only [sumTo, sumTo_zero n]; rfl
theorem sumTo_nonneg {f : Nat → Int} {n : Nat} (h : ∀ i, i < n → 0 ≤ f i) : 0 ≤ sumTo n f := by
  have := sumTo_mono (f := fun _ => 0) (g := f) h
  rw [sumTo_zero] at this; exact this
theorem sumTo_add (f g : Nat → Int) : (n : Nat) → sumTo n (fun i => f i + g i) = sumTo n f + sumTo n g
  | 0 => rfl
  | n + 1 => by simp only [sumTo, sumTo_add f g n]; omega
theorem sumTo_swap (f : Nat → Nat → Int) (m : Nat) : (n : Nat) → sumTo n (fun i => sumTo m (fun j => f i j)) = sumTo m (fun j => sumTo n (fun i => f i j))
  | 0 => (sumTo_zero m).symm
  | n + 1 => by
    simp only [sumTo]
    rw [sumTo_swap f m n, ← sumTo_add]
theorem sumTo_one {n d : Nat} (x : Int) (h : d < n) : sumTo n (fun i => if i = d then x else 0) = x := by
  induction n with
  | zero => omega
  | succ n ih =>
    simp only [sumTo]
    by_cases he : d = n
    · subst he
      have : sumTo d (fun i => if i = d then x else 0) = 0 := (sumTo_congr (fun i hi => if_neg (by omega))).trans (sumTo_zero d)
      rw [this]; simp
    · rw [ih (by omega), if_neg (by omega)]; omega
theorem sumTo_bound {f : Nat → Int} {b : Int} : {n : Nat} → (∀ i, i < n → f i ≤ b) → sumTo n f ≤ n * b
  | 0, _ => by simp [sumTo]
  | n + 1, h => by
    have h1 := h n (by omega)
    have h2 := sumTo_bound (n := n) (fun i hi => h i (by omega))
    simp only [sumTo]
    push_cast
    rw [Int.add_mul, Int.one_mul]; omega

/-! ## Tables -/
def tabI (K : Nat) (S : Nat → Int) : List Int := (List.range K).map S
theorem tabI_len (K : Nat) (S : Nat → Int) : (tabI K S).length = K := by simp [tabI]
theorem tabI_get {K : Nat} {S : Nat → Int} {c : Nat} (h : c < (tabI K S).length) : (tabI K S)[c] = S c := by simp [tabI]
theorem tabI_set (K : Nat) (S : Nat → Int) (c : Nat) (x : Int) : (tabI K S).set c x = tabI K (fun d => if d = c then x else S d) := by
  apply List.ext_getElem
  · simp [tabI]
  · intro i h1 h2
    have h3 : i < K := by rw [List.length_set, tabI_len] at h1; exact h1
    rw [List.getElem_set, tabI_get, tabI_get (by rw [tabI_len]; exact h3)]
    by_cases h : c = i
    · subst h; simp
    · have : ¬ i = c := fun e => h e.symm
      simp [h, this]
theorem tabI_rep (K : Nat) : List.replicate K (0 : Int) = tabI K (fun _ => 0) := by
  apply List.ext_getElem
  · simp [tabI]
  · intro i h1 h2; simp [tabI]
theorem tabI_congr {K : Nat} {S T : Nat → Int} (h : ∀ c, c < K → S c = T c) : tabI K S = tabI K T := by
  apply List.map_congr_left
  intro c hc
  exact h c (List.mem_range.1 hc)

/-! ## Gains -/
def numOK (x : Int) : Bool := decide (0 ≤ x) && decide (x ≤ 1024)
def rowOK (n : Int) (row : List Int) : Bool := decide (len row = n) && row.all numOK
def gainOK (g : List (List Int)) (n : Int) : Bool := decide (1 ≤ len g) && decide (len g ≤ 64) && g.all (rowOK n)

theorem iter_ex {R : Type} {F : (Int → Option R) → Int → Option R} {α : Type} (l : List α) (p : α → Bool) (Q : Bool → R → Prop)
    (step : ∀ (k : Nat) (w : Int → Option R) (hk : k < l.length), if p l[k] then F w (k : Int) = w ((k : Int) + 1) else ∃ r, F w (k : Int) = some r ∧ Q false r)
    (last : ∀ (w : Int → Option R), ∃ r, F w (l.length : Int) = some r ∧ Q true r) (N : Nat) (hN : l.length < N) : ∃ r, iter F N 0 = some r ∧ Q (l.all p) r := by
  have key : ∀ (M k : Nat), k ≤ l.length → l.length - k < M → (l.take k).all p = true → ∃ r, iter F M (k : Int) = some r ∧ Q (l.all p) r := by
    intro M
    induction M with
    | zero => intro k _ h; omega
    | succ M ih =>
      intro k hk hM hall
      simp only [iter]
      by_cases hlt : k < l.length
      · have hs := step k (iter F M) hlt
        cases hp : p l[k] with
        | true =>
          rw [hp] at hs
          simp only [if_true] at hs
          rw [hs]
          exact ih (k + 1) (by omega) (by omega) (by rw [take_succ hlt, List.all_append, hall, List.all_cons, hp]; rfl)
        | false =>
          rw [hp] at hs
          simp only [Bool.false_eq_true, if_false] at hs
          have : l.all p = false := by
            rw [List.all_eq_false]
            exact ⟨l[k], List.getElem_mem hlt, by simp [hp]⟩
          rw [this]; exact hs
      · have hkl : k = l.length := by omega
        subst hkl
        rw [List.take_length] at hall
        rw [hall]
        exact last _
  exact key N 0 (by omega) (by omega) (by simp)

theorem f55_eq (N : Nat) (row : List Int) (hN : row.length < N) (hl : row.length < 4294967296) : f55 N row () = some (!(row.all numOK)) := by
  obtain ⟨r, h1, h2⟩ := iter_ex (F := fun w => f59_L2 N row () (len row) w (fun t4 => some t4) (fun (_ : Unit) => some (-1))) row numOK (fun b r => decide (0 ≤ r) = !b)
    (fun k w hk => by
      simp only [f59_L2]
      rw [dlt_len hk, cond_true, idx_lt hk]
      simp only [Option.bind_some, f56, numOK]
      by_cases a : row[k] < 0
      · have : ¬ 0 ≤ row[k] := by omega
        simp [a, this]
      · have a' : 0 ≤ row[k] := by omega
        by_cases b : 1024 < row[k]
        · have : ¬ row[k] ≤ 1024 := by omega
          simp [a, a', b, this]
        · have b' : row[k] ≤ 1024 := by omega
          rw [wi64_of (by omega) (by omega)]
          simp [a, a', b, b'])
    (fun w => by
      simp only [f59_L2]
      rw [dnlt_len, cond_false]
      exact ⟨-1, rfl, by simp⟩) N hN
  unfold f55 f59
  rw [h1]
  simp only [Option.bind_some, h2]
theorem f49_eq (N : Nat) (hN : 400 < N) {m : Menu} (hm : menuOK m = true) (g : List (List Int)) : f49 N m g = some (gainOK g m.1) := by
  obtain ⟨m1, m2, m3, m4⟩ := menuOK_iff.1 hm
  unfold f49 gainOK
  by_cases h1 : len g < 1
  · have e : ¬ 1 ≤ len g := by omega
    simp [h1, e]
  by_cases h2 : 64 < len g
  · have e : ¬ len g ≤ 64 := by omega
    simp [h1, h2, e]
  have e1 : 1 ≤ len g := by omega
  have e2 : len g ≤ 64 := by omega
  have hgl : g.length ≤ 64 := by simp only [len] at e2; omega
  simp only [h1, h2, e1, e2, decide_true, decide_false, cond_false, Option.bind_some, Bool.true_and]
  obtain ⟨r, h3, h4⟩ := iter_ex (F := fun w => f58_L2 N g (m, ()) (len g) w (fun t4 => some t4) (fun (_ : Unit) => some (-1))) g (rowOK m.1) (fun b r => decide (0 ≤ r) = !b)
    (fun k w hk => by
      simp only [f58_L2]
      rw [dlt_len hk, cond_true, idx_lt hk]
      simp only [Option.bind_some, f54, rowOK]
      by_cases a : len g[k] = m.1
      · have hrl : g[k].length ≤ 62 := by simp only [len] at a; omega
        simp only [a, decide_true, Bool.not_true, cond_false, Bool.true_and]
        rw [f55_eq N _ (by omega) (by omega), wi64_of (by omega) (by omega)]
        cases g[k].all numOK <;> simp
      · simp [a])
    (fun w => by
      simp only [f58_L2]
      rw [dnlt_len, cond_false]
      exact ⟨-1, rfl, by simp⟩) N (by omega)
  unfold f53 f58
  rw [h3]
  simp only [Option.bind_some, h4, Bool.not_not]

/-! ## Worth -/
def clsS (row part : List Int) (n : Nat) (c : Int) : Int := sumTo n fun s => if part.getD s 0 = c then row.getD s 0 else 0
def bestG (g : List (List Int)) (part : List Int) (c : Int) : Int := g.foldl (fun b row => max b (clsS row part part.length c)) 0
def worthL (g : List (List Int)) (part : List Int) : Int := sumTo (top 0 part).toNat fun c => bestG g part (c : Int)

theorem row_at {n : Int} {row : List Int} (h : rowOK n row = true) : len row = n ∧ ∀ s, 0 ≤ row.getD s 0 ∧ row.getD s 0 ≤ 1024 := by
  simp only [rowOK, Bool.and_eq_true, decide_eq_true_eq] at h
  refine ⟨h.1, fun s => ?_⟩
  by_cases hs : s < row.length
  · have := List.all_eq_true.1 h.2 _ (List.getElem_mem hs)
    simp only [numOK, Bool.and_eq_true, decide_eq_true_eq] at this
    rw [List.getD_eq_getElem?_getD, List.getElem?_eq_getElem hs]
    exact this
  · rw [List.getD_eq_getElem?_getD, List.getElem?_eq_none (by omega)]
    simp
theorem clsS_bound {n : Int} {row : List Int} (h : rowOK n row = true) (part : List Int) (k : Nat) (c : Int) : 0 ≤ clsS row part k c ∧ clsS row part k c ≤ k * 1024 := by
  have hr := (row_at h).2
  constructor
  · refine sumTo_nonneg fun i _ => ?_
    have := hr i
    split <;> omega
  · refine sumTo_bound fun i _ => ?_
    have := hr i
    split <;> omega
theorem best_snoc (g : List (List Int)) (row : List Int) (part : List Int) (c : Int) : bestG (g ++ [row]) part c = max (bestG g part c) (clsS row part part.length c) := by simp [bestG]
theorem best_bound {n : Int} {part : List Int} (c : Int) : {g : List (List Int)} → (∀ row ∈ g, rowOK n row = true) → 0 ≤ bestG g part c ∧ bestG g part c ≤ part.length * 1024 := by
  intro g
  induction g using rev_ind with
  | h0 => intro _; simp only [bestG, List.foldl_nil]; omega
  | h1 g row ih =>
    intro h
    have h1 := ih (fun r hr => h r (by simp [hr]))
    have h2 := clsS_bound (h row (by simp)) part part.length c
    rw [best_snoc]; omega

theorem f28_eq (N : Nat) (hN : 400 < N) (m : Menu) (g : List (List Int)) (part : List Int) :
    f28 N m g part = some (if menuOK m = true ∧ gainOK g m.1 = true ∧ len part = m.1 ∧ okP part = true then (worthL g part, 0) else (0, 1)) := by
  unfold f28
  rw [f17_eq N hN]
  simp only [Option.bind_some, menuCode]
  cases hm : menuOK m with
  | false => simp
  | true =>
  obtain ⟨m1, m2, m3, m4⟩ := menuOK_iff.1 hm
  simp only [if_true, decide_true, Bool.not_true, cond_false]
  rw [f49_eq N hN hm]
  simp only [Option.bind_some]
  cases hg : gainOK g m.1 with
  | false => simp
  | true =>
  simp only [Bool.not_true, cond_false, Option.bind_some]
  by_cases hl : len part = m.1
  · have hpl : part.length ≤ 62 := by simp only [len] at hl; omega
    simp only [hl, decide_true, Bool.not_true, cond_false, Option.bind_some]
    rw [f44_eq N _ (by omega) (by omega)]
    simp only [Option.bind_some]
    cases hok : okP part with
    | false => simp
    | true =>
    simp only [Bool.not_true, cond_false]
    rw [f45_eq N _ (by omega) (by omega), hok]
    simp only [if_true, Option.bind_some, and_self]
    obtain ⟨t1, t2, t3⟩ := top_bound hok
    have hroom : ((room : Nat) : Int) = 4294967296 := rfl
    rw [chk_true (by rw [hroom]; simp; omega)]
    simp only [gainOK, Bool.and_eq_true, decide_eq_true_eq] at hg
    have hgl : g.length ≤ 64 := by have := hg.1.2; simp only [len] at this; omega
    have hrow : ∀ row ∈ g, rowOK m.1 row = true := fun row hr => List.all_eq_true.1 hg.2 row hr
    have hpm : part.length = m.1.toNat := by simp only [len] at hl; omega
    generalize hK : (top 0 part).toNat = K
    have hK62 : K ≤ 62 := by omega
    have hcls : ∀ s (hs : s < part.length), ∃ c : Nat, part[s] = (c : Int) ∧ c < K := by
      intro s hs
      have := t3 _ (List.getElem_mem hs)
      exact ⟨part[s].toNat, by omega, by omega⟩
    refine iter_for (fun i b => b = tabI K fun c => bestG (g.take i) part (c : Int)) g.length ?_ ?_ N (by omega) _ ?_
    · intro i b w hi hb hw
      subst hb
      have hri := hrow _ (List.getElem_mem hi)
      have hrt : ∀ row ∈ g.take i, rowOK m.1 row = true := fun row hr => hrow row (List.mem_of_mem_take hr)
      have hr1 := (row_at hri).1
      have hrl : g[i].length = part.length := by simp only [len] at hr1; omega
      have hbl : len (tabI K fun c => bestG (g.take i) part (c : Int)) = (K : Int) := by simp [len, tabI_len]
      simp only [f28_L8]
      rw [dlt_len hi, cond_true, idx_lt hi]
      simp only [Option.bind_some]
      rw [chk_true (by rw [hroom, hbl]; simp; omega), hbl]
      refine iter_for (fun k o => o = tabI K fun c => clsS g[i] part k (c : Int)) part.length ?_ ?_ N (by omega) _ ?_
      · intro k o w2 hk ho hw2
        subst ho
        obtain ⟨c, hc, hcK⟩ := hcls k hk
        have hct : c < (tabI K fun c => clsS g[i] part k (c : Int)).length := by rw [tabI_len]; exact hcK
        have hb := clsS_bound hri part k (c : Int)
        have hgk : g[i].getD k 0 = g[i][k] := by rw [List.getD_eq_getElem?_getD, List.getElem?_eq_getElem (by omega)]; rfl
        have hnum := (row_at hri).2 k
        rw [hgk] at hnum
        simp only [f28_L12]
        rw [dlt_len hk, cond_true, idx_lt hk]
        simp only [Option.bind_some]
        rw [hc, chk_true (inb_lt hct), idx_lt hct, idx_lt (l := g[i]) (k := k) (by omega)]
        simp only [Option.bind_some, tabI_get]
        rw [chk_true (inb_lt hct), wi64_of (n := (k : Int) + 1) (by omega) (by omega), wi64_of (by omega) (by omega), setI_nat, tabI_set]
        refine hw2 _ (tabI_congr fun d hd => ?_)
        have hpk : part.getD k 0 = (c : Int) := by rw [List.getD_eq_getElem?_getD, List.getElem?_eq_getElem hk]; exact hc
        simp only [clsS, sumTo, hpk, hgk]
        by_cases hdc : d = c
        · subst hdc; simp
        · have : ¬ ((c : Int) = (d : Int)) := by omega
          simp [hdc, this]
      · intro o w2 ho
        subst ho
        simp only [f28_L12]
        rw [dnlt_len, cond_false]
        have hsl : len (tabI K fun c => clsS g[i] part part.length (c : Int)) = (K : Int) := by simp [len, tabI_len]
        rw [hsl]
        refine iter_for (fun j o => o = tabI K fun c => if c < j then max (bestG (g.take i) part (c : Int)) (clsS g[i] part part.length (c : Int)) else bestG (g.take i) part (c : Int)) K ?_ ?_ N (by omega) _ ?_
        · intro j o w3 hj ho hw3
          subst ho
          simp only [f28_L17]
          have e : decide ((j : Int) < (K : Int)) = true := by simp; omega
          have hjt : j < (tabI K fun c => clsS g[i] part part.length (c : Int)).length := by rw [tabI_len]; exact hj
          have hjo : j < (tabI K fun c => if c < j then max (bestG (g.take i) part (c : Int)) (clsS g[i] part part.length (c : Int)) else bestG (g.take i) part (c : Int)).length := by rw [tabI_len]; exact hj
          rw [e, cond_true, chk_true (inb_lt hjt), idx_lt hjt]
          simp only [Option.bind_some]
          rw [chk_true (inb_lt hjo), idx_lt hjo]
          simp only [Option.bind_some]
          rw [chk_true (inb_lt hjo), wi64_of (by omega) (by omega), setI_nat, tabI_set, tabI_get, tabI_get, maxI_eq]
          refine hw3 _ (tabI_congr fun d hd => ?_)
          by_cases hdj : d = j
          · subst hdj; simp
          · by_cases h1 : d < j
            · have h2 : d < j + 1 := by omega
              simp [hdj, h1, h2]
            · have h2 : ¬ d < j + 1 := by omega
              simp [hdj, h1, h2]
        · intro o w3 ho
          subst ho
          simp only [f28_L17]
          have e : decide ((K : Int) < (K : Int)) = false := by simp
          rw [e, cond_false, wi64_of (by omega) (by omega)]
          refine hw _ ?_
          rw [take_succ hi]
          refine tabI_congr fun d hd => ?_
          rw [best_snoc, if_pos hd]
        · refine tabI_congr fun d hd => ?_
          simp
      · rw [Int.toNat_natCast, tabI_rep]
        refine tabI_congr fun d hd => ?_
        rfl
    · intro b w hb
      subst hb
      simp only [f28_L8]
      rw [dnlt_len, cond_false, List.take_length]
      have hbl : len (tabI K fun c => bestG g part (c : Int)) = (K : Int) := by simp [len, tabI_len]
      rw [hbl]
      refine iter_for (fun j t => t = sumTo j fun c => bestG g part (c : Int)) K ?_ ?_ N (by omega) _ rfl
      · intro j t w2 hj ht hw2
        subst ht
        simp only [f28_L24]
        have e : decide ((j : Int) < (K : Int)) = true := by simp; omega
        have hjt : j < (tabI K fun c => bestG g part (c : Int)).length := by rw [tabI_len]; exact hj
        have hb0 := best_bound (n := m.1) (part := part) (j : Int) hrow
        have hs0 : 0 ≤ sumTo j fun c => bestG g part (c : Int) := sumTo_nonneg fun i _ => (best_bound (n := m.1) (part := part) (i : Int) hrow).1
        have hs1 : (sumTo j fun c => bestG g part (c : Int)) ≤ j * (part.length * 1024) := sumTo_bound fun i _ => (best_bound (n := m.1) (part := part) (i : Int) hrow).2
        have hs2 : (j : Int) * (part.length * 1024) ≤ 62 * (62 * 1024) := Int.mul_le_mul (by omega) (by omega) (by omega) (by omega)
        rw [e, cond_true, chk_true (inb_lt hjt), idx_lt hjt]
        simp only [Option.bind_some, tabI_get]
        rw [wi64_of (by omega) (by omega), wi64_of (by omega) (by omega)]
        exact hw2 _ rfl
      · intro t w2 ht
        subst ht
        simp only [f28_L24]
        have e : decide ((K : Int) < (K : Int)) = false := by simp
        rw [e, cond_false]
        simp only [worthL, hK]
    · rw [tabI_rep]
      refine tabI_congr fun d hd => ?_
      simp [bestG]
  · simp [hl]

/-! ## Finer partitions are worth no less -/
theorem worth_mono {n : Int} {g : List (List Int)} (hrow : ∀ row ∈ g, rowOK n row = true) {p q : List Int} (hp : okP p = true) (hq : okP q = true) (hlen : p.length = q.length)
    (href : ∀ i j (hi : i < p.length) (hj : j < p.length), p[i] = p[j] → q[i]'(by omega) = q[j]'(by omega)) : worthL g q ≤ worthL g p := by
  obtain ⟨a1, a2, a3⟩ := top_bound hp
  obtain ⟨b1, b2, b3⟩ := top_bound hq
  -- the class of q in which a class of p lies
  let f : Nat → Int := fun c => q.getD (posOf ((c : Nat) : Int) p) 0
  have hf : ∀ i (hi : i < p.length), f p[i].toNat = q[i]'(by omega) := by
    intro i hi
    have hc := a3 _ (List.getElem_mem hi)
    have he : ((p[i].toNat : Nat) : Int) = p[i] := by omega
    have hm : p[i] ∈ p := List.getElem_mem hi
    have h1 := posOf_lt hm
    have h2 := posOf_get hm
    rw [List.getElem?_eq_getElem h1] at h2
    simp only [Option.some.injEq] at h2
    show q.getD (posOf ((p[i].toNat : Nat) : Int) p) 0 = _
    rw [he, List.getD_eq_getElem?_getD, List.getElem?_eq_getElem (by omega)]
    exact href _ _ h1 hi h2
  have hfr : ∀ c, c < (top 0 p).toNat → c ∈ p.map Int.toNat → 0 ≤ f c ∧ f c < top 0 q := by
    intro c hc hm
    obtain ⟨x, hx, rfl⟩ := List.mem_map.1 hm
    obtain ⟨i, hi, rfl⟩ := List.mem_iff_getElem.1 hx
    rw [hf i hi]
    exact b3 _ (List.getElem_mem _)
  -- a class of q, row by row
  have hsum : ∀ row, ∀ d : Nat, clsS row q q.length (d : Int) = sumTo (top 0 p).toNat (fun c => if f c = (d : Int) then clsS row p p.length (c : Int) else 0) := by
    intro row d
    have h1 : ∀ c, (if f c = (d : Int) then clsS row p p.length (c : Int) else 0) = sumTo p.length (fun s => if f c = (d : Int) then (if p.getD s 0 = (c : Int) then row.getD s 0 else 0) else 0) := by
      intro c
      split
      · rfl
      · rw [sumTo_zero]
    rw [show (fun c => if f c = (d : Int) then clsS row p p.length (c : Int) else 0) = fun c => sumTo p.length (fun s => if f c = (d : Int) then (if p.getD s 0 = (c : Int) then row.getD s 0 else 0) else 0) from funext h1, sumTo_swap]
    unfold clsS
    rw [← hlen]
    refine sumTo_congr fun s hs => ?_
    have hps : p.getD s 0 = p[s] := by rw [List.getD_eq_getElem?_getD, List.getElem?_eq_getElem hs]; rfl
    have hqs : q.getD s 0 = q[s]'(by omega) := by rw [List.getD_eq_getElem?_getD, List.getElem?_eq_getElem (by omega)]; rfl
    have hc := a3 _ (List.getElem_mem hs)
    rw [hps, hqs, ← hf s hs]
    have h2 : (fun c : Nat => if f c = (d : Int) then (if p[s] = (c : Int) then row.getD s 0 else 0) else 0) = fun c => if c = p[s].toNat then (if f p[s].toNat = (d : Int) then row.getD s 0 else 0) else 0 := by
      funext c
      by_cases hcs : c = p[s].toNat
      · subst hcs
        have : p[s] = ((p[s].toNat : Nat) : Int) := by omega
        simp only [if_true]
        rw [if_pos this]
      · have : ¬ p[s] = (c : Int) := by omega
        simp [hcs, this]
    rw [h2, sumTo_one _ (by omega)]
  -- the best of a class of q
  have hbest : ∀ d : Nat, bestG g q (d : Int) ≤ sumTo (top 0 p).toNat (fun c => if f c = (d : Int) then bestG g p (c : Int) else 0) := by
    intro d
    revert hrow
    induction g using rev_ind with
    | h0 =>
      intro hrow
      refine sumTo_nonneg fun c _ => ?_
      split <;> simp [bestG]
    | h1 g row ih =>
      intro hrow
      have h1 := ih (fun r hr => hrow r (by simp [hr]))
      rw [best_snoc]
      have h2 : sumTo (top 0 p).toNat (fun c => if f c = (d : Int) then bestG g p (c : Int) else 0) ≤ sumTo (top 0 p).toNat (fun c => if f c = (d : Int) then bestG (g ++ [row]) p (c : Int) else 0) := by
        refine sumTo_mono fun c _ => ?_
        split
        · rw [best_snoc]; omega
        · omega
      have h3 : clsS row q q.length (d : Int) ≤ sumTo (top 0 p).toNat (fun c => if f c = (d : Int) then bestG (g ++ [row]) p (c : Int) else 0) := by
        rw [hsum]
        refine sumTo_mono fun c _ => ?_
        split
        · rw [best_snoc]; omega
        · omega
      omega
  unfold worthL
  refine Int.le_trans (sumTo_mono fun d _ => hbest d) ?_
  rw [sumTo_swap]
  refine sumTo_mono fun c hc => ?_
  have hb0 := (best_bound (n := n) (part := p) (c : Int) hrow).1
  -- each class of p lies in one class of q
  by_cases hd : 0 ≤ f c ∧ f c < top 0 q
  · have h2 : (fun d : Nat => if f c = (d : Int) then bestG g p (c : Int) else 0) = fun d => if d = (f c).toNat then bestG g p (c : Int) else 0 := by
      funext d
      by_cases h : d = (f c).toNat
      · have : f c = (d : Int) := by omega
        rw [if_pos h, if_pos this]
      · have : ¬ f c = (d : Int) := by omega
        rw [if_neg h, if_neg this]
    rw [h2, sumTo_one _ (by omega)]
    exact Int.le_refl _
  · have h2 : sumTo (top 0 q).toNat (fun d : Nat => if f c = (d : Int) then bestG g p (c : Int) else 0) = 0 := (sumTo_congr (fun d hd' => if_neg (by omega))).trans (sumTo_zero _)
    rw [h2]; exact hb0

end Go.Kz
