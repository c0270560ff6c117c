/-
  The layer strategy: lists and their classes, plain laws.
-/
import Derived.Test.YtcnmiohlpaommaaKzP42
import Derived.Test.YtcnmiohlpaommaaKzAN
set_option linter.unusedVariables false
set_option linter.unusedSimpArgs false
namespace Go.Kz

/-! ## Equal lists -/
theorem f21_eq (N : Nat) (a b : List Int) (hN : a.length < N) (hl : a.length < 4294967296) : f21 N a b = some (decide (a = b)) := by
  unfold f21
  by_cases hlen : a.length = b.length
  · have e1 : (!decide (len a = len b)) = false := by simp [len, hlen]
    rw [e1, cond_false]
    refine iter_rule (fun x : Int => ∃ k : Nat, x = k ∧ k ≤ a.length ∧ ∀ j, j < k → a[j]? = b[j]?) (fun x => a.length - x.toNat) ?_ N 0 ⟨0, rfl, by omega, by intro j hj; omega⟩ (by simpa using hN)
    rintro x w ⟨k, rfl, hk, hpre⟩ hw
    simp only [f21_L4]
    by_cases hlt : k < a.length
    · have e2 : decide ((k : Int) < len a) = true := by simp [len, hlt]
      rw [e2, cond_true, idx_lt hlt, idx_lt (l := b) (by omega)]
      simp only [Option.bind_some]
      by_cases he : a[k] = b[k]'(by omega)
      · rw [wi64_of (by omega) (by omega)]
        simp only [he, decide_true, Bool.not_true, cond_false]
        refine hw _ ⟨k + 1, by omega, by omega, fun j hj => ?_⟩ (by simp; omega)
        by_cases hjk : j = k
        · subst hjk; rw [List.getElem?_eq_getElem hlt, List.getElem?_eq_getElem (by omega), he]
        · exact hpre j (by omega)
      · have hne : a ≠ b := by intro h; subst h; exact he rfl
        simp [he, hne]
    · have e2 : decide ((k : Int) < len a) = false := by simp [len]; omega
      rw [e2, cond_false]
      have : a = b := by
        apply List.ext_getElem?
        intro j
        by_cases hj : j < k
        · exact hpre j hj
        · rw [List.getElem?_eq_none (by omega), List.getElem?_eq_none (by omega)]
      simp [this]
  · have e1 : (!decide (len a = len b)) = true := by simp [len]; omega
    have hne : a ≠ b := by intro h; subst h; exact hlen rfl
    rw [e1, cond_true]; simp [hne]

/-! ## Valid -/
/-- The numbers of the classes in the order of their first elements, from n on. -/
def okFrom : Int → List Int → Bool
  | _, [] => true
  | n, c :: l => decide (0 ≤ c) && decide (c ≤ n) && okFrom (max n (c + 1)) l
def okP (p : List Int) : Bool := okFrom 0 p

theorem okFrom_le {p : List Int} : ∀ {n : Int}, okFrom n p = true → ∀ c ∈ p, c ≤ n + p.length := by
  induction p with
  | nil => intro n _ c hc; simp at hc
  | cons x l ih =>
    intro n h c hc
    simp only [okFrom, Bool.and_eq_true, decide_eq_true_eq] at h
    rcases List.mem_cons.1 hc with rfl | hc
    · simp; omega
    · have := ih h.2 c hc
      simp only [List.length_cons]
      omega

theorem f44_eq (N : Nat) (p : List Int) (hN : p.length < N) (hl : p.length < 4294967296) : f44 N p = some (okP p) := by
  unfold f44
  refine iter_rule (fun x : Int × Int => ∃ k : Nat, x.1 = k ∧ k ≤ p.length ∧ 0 ≤ x.2 ∧ x.2 ≤ k ∧ okP p = okFrom x.2 (p.drop k)) (fun x => p.length - x.1.toNat) ?_ N (0, 0) ⟨0, rfl, by omega, by simp, by simp, by simp [okP]⟩ (by simpa using hN)
  rintro ⟨i, n⟩ w ⟨k, hi, hk, hn0, hnk, heq⟩ hw
  simp only at hi hn0 hnk heq
  subst hi
  simp only [f44_L3]
  by_cases hlt : k < p.length
  · have e2 : decide ((k : Int) < len p) = true := by simp [len, hlt]
    rw [e2, cond_true, idx_lt hlt]
    simp only [Option.bind_some]
    rw [List.drop_eq_getElem_cons hlt] at heq
    simp only [okFrom] at heq
    by_cases h0 : p[k] < 0
    · have : ¬ (0 ≤ p[k]) := by omega
      simp [h0, heq, this]
    · by_cases h1 : n < p[k]
      · have h2 : ¬ (p[k] ≤ n) := by omega
        simp [h0, h1, heq, h2]
      · have e3 : decide (0 ≤ p[k]) = true := by simp; omega
        have e4 : decide (p[k] ≤ n) = true := by simp; omega
        rw [e3, e4] at heq
        simp only [h0, h1, decide_false, cond_false, Option.bind_some]
        rw [wi64_of (by omega) (by omega), wi64_of (by omega) (by omega)]
        have hm : maxI n (p[k] + 1) = max n (p[k] + 1) := by simp only [maxI]; split <;> omega
        rw [hm]
        exact hw _ ⟨k + 1, by simp, by omega, by simp only; omega, by simp only; omega, by simpa using heq⟩ (by simp; omega)
  · have e2 : decide ((k : Int) < len p) = false := by simp [len]; omega
    rw [e2, cond_false, heq, List.drop_eq_nil_of_le (by omega)]
    rfl

theorem f25_eq (N : Nat) (p : List Int) (hN : p.length < N) (hl : p.length < 4294967296) : f25 N p = some (okP p) := by
  unfold f25
  refine iter_rule (fun x : Int × Int => ∃ k : Nat, x.1 = k ∧ k ≤ p.length ∧ 0 ≤ x.2 ∧ x.2 ≤ k ∧ okP p = okFrom x.2 (p.drop k)) (fun x => p.length - x.1.toNat) ?_ N (0, 0) ⟨0, rfl, by omega, by simp, by simp, by simp [okP]⟩ (by simpa using hN)
  rintro ⟨i, n⟩ w ⟨k, hi, hk, hn0, hnk, heq⟩ hw
  simp only at hi hn0 hnk heq
  subst hi
  simp only [f25_L3]
  by_cases hlt : k < p.length
  · have e2 : decide ((k : Int) < len p) = true := by simp [len, hlt]
    rw [e2, cond_true, idx_lt hlt]
    simp only [Option.bind_some]
    rw [List.drop_eq_getElem_cons hlt] at heq
    simp only [okFrom] at heq
    by_cases h0 : p[k] < 0
    · have : ¬ (0 ≤ p[k]) := by omega
      simp [h0, heq, this]
    · by_cases h1 : n < p[k]
      · have h2 : ¬ (p[k] ≤ n) := by omega
        simp [h0, h1, heq, h2]
      · have e3 : decide (0 ≤ p[k]) = true := by simp; omega
        have e4 : decide (p[k] ≤ n) = true := by simp; omega
        rw [e3, e4] at heq
        simp only [h0, h1, decide_false, cond_false, Option.bind_some]
        rw [wi64_of (by omega) (by omega), wi64_of (by omega) (by omega)]
        have hm : maxI n (p[k] + 1) = max n (p[k] + 1) := by simp only [maxI]; split <;> omega
        rw [hm]
        exact hw _ ⟨k + 1, by simp, by omega, by simp only; omega, by simp only; omega, by simpa using heq⟩ (by simp; omega)
  · have e2 : decide ((k : Int) < len p) = false := by simp [len]; omega
    rw [e2, cond_false, heq, List.drop_eq_nil_of_le (by omega)]
    rfl

/-! ## Of -/
/-- The labels met, each once, in the order of their first places. -/
def nubA {α : Type} [DecidableEq α] : List α → List α → List α
  | acc, [] => acc
  | acc, x :: l => if x ∈ acc then nubA acc l else nubA (acc ++ [x]) l
def posOf {α : Type} [DecidableEq α] (x : α) : List α → Nat
  | [] => 0
  | y :: l => if y = x then 0 else posOf x l + 1
/-- The classes of the labels of a list when those in acc have been met. -/
def clsA {α : Type} [DecidableEq α] : List α → List α → List Int
  | _, [] => []
  | acc, x :: l => if x ∈ acc then (posOf x acc : Int) :: clsA acc l else (acc.length : Int) :: clsA (acc ++ [x]) l
def ofL {α : Type} [DecidableEq α] (l : List α) : List Int := clsA [] l

theorem posOf_lt {α : Type} [DecidableEq α] {x : α} : {l : List α} → x ∈ l → posOf x l < l.length
  | y :: l, h => by
    simp only [posOf]
    split
    · simp
    · rename_i hne
      have : x ∈ l := by
        rcases List.mem_cons.1 h with rfl | h
        · exact absurd rfl hne
        · exact h
      have := posOf_lt this
      simp only [List.length_cons]; omega
theorem posOf_append {α : Type} [DecidableEq α] {x : α} : {l m : List α} → x ∈ l → posOf x (l ++ m) = posOf x l
  | y :: l, m, h => by
    simp only [List.cons_append, posOf]
    split
    · rfl
    · rename_i hne
      have : x ∈ l := by
        rcases List.mem_cons.1 h with rfl | h
        · exact absurd rfl hne
        · exact h
      rw [posOf_append this]
theorem posOf_new {α : Type} [DecidableEq α] {x : α} : {l : List α} → x ∉ l → posOf x (l ++ [x]) = l.length
  | [], _ => by simp [posOf]
  | y :: l, h => by
    have h1 : y ≠ x := by intro he; subst he; simp at h
    have h2 : x ∉ l := by intro hm; exact h (by simp [hm])
    simp only [List.cons_append, posOf, if_neg h1, posOf_new h2, List.length_cons]

/-- The map of the labels met. -/
def mapOf : List Int → Int → List (Int × Int)
  | [], _ => []
  | x :: l, n => (x, n) :: mapOf l (n + 1)
theorem mapOf_len (l : List Int) (n : Int) : (mapOf l n).length = l.length := by
  induction l generalizing n with
  | nil => rfl
  | cons x l ih => simp [mapOf, ih]
theorem mget_mapOf (x : Int) : (l : List Int) → (n : Int) → mget (keyEq (.int .i64)) (mapOf l n) x = if x ∈ l then some (n + posOf x l) else none
  | [], n => rfl
  | y :: l, n => by
    simp only [mapOf, mget, keyEq, posOf]
    by_cases h : x = y
    · subst h; simp
    · have h2 : ¬ y = x := fun e => h e.symm
      simp only [h, decide_false, cond_false, List.mem_cons, false_or, mget_mapOf x l (n + 1), if_neg h2]
      split
      · congr 1; push_cast; omega
      · rfl
theorem mput_mapOf (x : Int) : (l : List Int) → (n : Int) → x ∉ l → mput (keyEq (.int .i64)) (mapOf l n) x (n + l.length) = mapOf (l ++ [x]) n
  | [], n, _ => by simp [mapOf, mput]
  | y :: l, n, h => by
    have h1 : ¬ x = y := by intro he; subst he; simp at h
    have h2 : x ∉ l := by intro hm; exact h (by simp [hm])
    have := mput_mapOf x l (n + 1) h2
    simp only [mapOf, mput, keyEq, h1, decide_false, cond_false, List.cons_append, List.length_cons]
    rw [← this]
    congr 2
    push_cast; omega

theorem f43_eq (N : Nat) (l : List Int) (hN : l.length < N) (hl : l.length < 4294967296) : f43 N l = some (ofL l) := by
  unfold f43
  rw [chk_true (by rw [show ((room : Nat) : Int) = 4294967296 from rfl]; simp [len]; omega)]
  refine iter_rule (fun x : Int × List Int × List (Int × Int) => ∃ (k : Nat) (acc : List Int), x.1 = k ∧ k ≤ l.length ∧ x.2.2 = mapOf acc 0 ∧ acc.length ≤ k ∧ x.2.1.length = k ∧ ofL l = x.2.1 ++ clsA acc (l.drop k)) (fun x => l.length - x.1.toNat) ?_ N _
    ⟨0, [], rfl, by omega, rfl, by simp, by simp, by simp [ofL]⟩ (by simpa using hN)
  rintro ⟨i, out, m⟩ w ⟨k, acc, hi, hk, hm, hacc, hout, heq⟩ hw
  simp only at hi hm hout heq
  subst hi; subst hm
  simp only [f43_L4]
  by_cases hlt : k < l.length
  · have e2 : decide ((k : Int) < len l) = true := by simp [len, hlt]
    rw [e2, cond_true, idx_lt hlt]
    simp only [Option.bind_some]
    rw [List.drop_eq_getElem_cons hlt] at heq
    simp only [clsA] at heq
    rw [mget_mapOf]
    by_cases hmem : l[k] ∈ acc
    · rw [if_pos hmem] at heq
      simp only [if_pos hmem, Option.isSome_some, Bool.not_true, cond_false]
      rw [chk_true (by simp [room]; omega), wi64_of (by omega) (by omega)]
      refine hw _ ⟨k + 1, acc, by simp, by omega, rfl, by omega, by simp [hout], ?_⟩ (by simp; omega)
      simp only [Option.getD_some, Int.zero_add, List.append_assoc, List.singleton_append]
      exact heq
    · rw [if_neg hmem] at heq
      simp only [if_neg hmem, Option.isSome_none, Bool.not_false, cond_true]
      rw [chk_true (by simp [room, mapOf_len]; omega), chk_true (by simp [room]; omega), wi64_of (by omega) (by omega)]
      have hp := mput_mapOf l[k] acc 0 hmem
      rw [Int.zero_add] at hp
      have hlen : len (mapOf acc 0) = (acc.length : Int) := by simp [len, mapOf_len]
      rw [hlen, hp]
      refine hw _ ⟨k + 1, acc ++ [l[k]], by simp, by omega, rfl, by simp; omega, by simp [hout], ?_⟩ (by simp; omega)
      simp only [List.append_assoc, List.singleton_append]
      exact heq
  · have e2 : decide ((k : Int) < len l) = false := by simp [len]; omega
    rw [e2, cond_false, heq, List.drop_eq_nil_of_le (by omega)]
    simp [clsA]

/-! The classes by the labels before. -/
theorem clsA_length {α : Type} [DecidableEq α] : (acc l : List α) → (clsA acc l).length = l.length
  | _, [] => rfl
  | acc, x :: l => by simp only [clsA]; split <;> simp [clsA_length _ l]

/-- What has been met after k labels. -/
theorem nubA_mem {α : Type} [DecidableEq α] {x : α} : {acc l : List α} → (x ∈ nubA acc l ↔ x ∈ acc ∨ x ∈ l)
  | acc, [] => by simp [nubA]
  | acc, y :: l => by
    simp only [nubA]
    split
    · rename_i h
      rw [nubA_mem]
      simp only [List.mem_cons]
      constructor
      · rintro (h1 | h1)
        · exact .inl h1
        · exact .inr (.inr h1)
      · rintro (h1 | rfl | h1)
        · exact .inl h1
        · exact .inl h
        · exact .inr h1
    · rw [nubA_mem]
      simp [or_assoc]
theorem clsA_split {α : Type} [DecidableEq α] : (acc l m : List α) → clsA acc (l ++ m) = clsA acc l ++ clsA (nubA acc l) m
  | _, [], _ => rfl
  | acc, x :: l, m => by
    simp only [List.cons_append, clsA, nubA]
    split <;> simp [clsA_split _ l m]
theorem nubA_ext {α : Type} [DecidableEq α] : (acc l : List α) → ∃ ys, nubA acc l = acc ++ ys
  | acc, [] => ⟨[], by simp [nubA]⟩
  | acc, x :: l => by
    simp only [nubA]
    split
    · exact nubA_ext acc l
    · obtain ⟨ys, h⟩ := nubA_ext (acc ++ [x]) l
      exact ⟨x :: ys, by rw [h]; simp⟩
theorem nubA_length {α : Type} [DecidableEq α] : (acc l : List α) → (nubA acc l).length ≤ acc.length + l.length
  | acc, [] => by simp [nubA]
  | acc, x :: l => by
    simp only [nubA]
    split
    · have := nubA_length acc l; simp; omega
    · have := nubA_length (acc ++ [x]) l; simp at this ⊢; omega
/-- The class of a label is its place among those met. -/
theorem clsA_get {α : Type} [DecidableEq α] : (acc l : List α) → (j : Nat) → (h : j < l.length) → (clsA acc l)[j]? = some ((posOf l[j] (nubA acc l) : Nat) : Int)
  | acc, x :: l, 0, _ => by
    simp only [clsA, nubA, List.getElem_cons_zero]
    split
    · rename_i hm
      obtain ⟨ys, hy⟩ := nubA_ext acc l
      rw [hy, posOf_append hm]; rfl
    · rename_i hm
      obtain ⟨ys, hy⟩ := nubA_ext (acc ++ [x]) l
      rw [hy, posOf_append (by simp), posOf_new hm]; rfl
  | acc, x :: l, j + 1, h => by
    have h' : j < l.length := by simpa using h
    simp only [clsA, nubA, List.getElem_cons_succ]
    split
    · simpa using clsA_get acc l j h'
    · simpa using clsA_get (acc ++ [x]) l j h'

/-! Valid lists are their own classes. -/
theorem okFrom_cls {α : Type} [DecidableEq α] : (acc l : List α) → okFrom (acc.length : Int) (clsA acc l) = true
  | _, [] => rfl
  | acc, x :: l => by
    simp only [clsA]
    split
    · rename_i hm
      have := posOf_lt hm
      have hmx : max (acc.length : Int) ((posOf x acc : Int) + 1) = acc.length := by omega
      simp only [okFrom, hmx, okFrom_cls acc l, Bool.and_true, Bool.and_eq_true, decide_eq_true_eq]
      omega
    · have hmx : max (acc.length : Int) ((acc.length : Int) + 1) = ((acc ++ [x]).length : Int) := by simp; omega
      simp only [okFrom, hmx, okFrom_cls (acc ++ [x]) l, Bool.and_true, Bool.and_eq_true, decide_eq_true_eq]
      omega
theorem okP_ofL {α : Type} [DecidableEq α] (l : List α) : okP (ofL l) = true := okFrom_cls [] l

/-- The numbers below n. -/
def upto (n : Nat) : List Int := (List.range n).map fun (i : Nat) => (i : Int)
theorem upto_mem {n : Nat} {x : Int} : x ∈ upto n ↔ 0 ≤ x ∧ x < n := by
  simp only [upto, List.mem_map, List.mem_range]
  constructor
  · rintro ⟨i, hi, rfl⟩; omega
  · rintro ⟨h0, h1⟩; exact ⟨x.toNat, by omega, by omega⟩
theorem upto_succ (n : Nat) : upto (n + 1) = upto n ++ [(n : Int)] := by simp [upto, List.range_succ]
theorem posOf_upto {n : Nat} {x : Int} (h0 : 0 ≤ x) (h1 : x < n) : (posOf x (upto n) : Int) = x := by
  induction n with
  | zero => omega
  | succ n ih =>
    rw [upto_succ]
    by_cases hx : x = n
    · subst hx
      rw [posOf_new (by rw [upto_mem]; omega)]; simp [upto]
    · rw [posOf_append (by rw [upto_mem]; omega), ih (by omega)]
theorem cls_of_ok : (p : List Int) → (n : Nat) → (clsA (upto n) p = p ↔ okFrom (n : Int) p = true)
  | [], n => by simp [clsA, okFrom]
  | x :: p, n => by
    simp only [clsA, okFrom]
    by_cases hx : 0 ≤ x ∧ x < n
    · rw [if_pos (upto_mem.2 hx), posOf_upto hx.1 hx.2]
      have hm : max (n : Int) (x + 1) = n := by omega
      have e1 : decide (0 ≤ x) = true := by simp [hx.1]
      have e2 : decide (x ≤ (n : Int)) = true := by simp; omega
      rw [hm, e1, e2]
      simp [cls_of_ok p n]
    · rw [if_neg (fun h => hx (upto_mem.1 h))]
      have hl : ((upto n).length : Int) = n := by simp [upto]
      rw [hl]
      by_cases he : x = n
      · subst he
        have hm : max (n : Int) ((n : Int) + 1) = ((n + 1 : Nat) : Int) := by omega
        rw [← upto_succ, hm]
        simp [cls_of_ok p (n + 1)]
      · have e : (decide (0 ≤ x) && decide (x ≤ (n : Int))) = false := by simp; omega
        rw [e]
        simp only [Bool.false_and, Bool.false_eq_true, iff_false]
        intro h
        simp at h
        exact he h.1.symm
theorem ofL_eq_iff (p : List Int) : ofL p = p ↔ okP p = true := cls_of_ok p 0

/-- The number of the classes after a list, from n on. -/
def top : Int → List Int → Int
  | n, [] => n
  | n, c :: l => top (max n (c + 1)) l
theorem top_append : (n : Int) → (a b : List Int) → top n (a ++ b) = top (top n a) b
  | _, [], _ => rfl
  | n, x :: a, b => by simp only [List.cons_append, top, top_append _ a b]
theorem okFrom_append : (n : Int) → (a b : List Int) → okFrom n (a ++ b) = (okFrom n a && okFrom (top n a) b)
  | _, [], _ => by simp [okFrom, top]
  | n, x :: a, b => by simp only [List.cons_append, okFrom, top, okFrom_append _ a b, Bool.and_assoc]
theorem top_snoc (q : List Int) (x : Int) : top 0 (q ++ [x]) = max (top 0 q) (x + 1) := by rw [top_append]; rfl
theorem ok_snoc {q : List Int} {x : Int} : okP (q ++ [x]) = true ↔ okP q = true ∧ 0 ≤ x ∧ x ≤ top 0 q := by
  simp [okP, okFrom_append, okFrom]
theorem top_ge (n : Int) : (l : List Int) → n ≤ top n l
  | [] => by simp [top]
  | x :: l => by have := top_ge (max n (x + 1)) l; simp only [top]; omega
theorem top_bound {q : List Int} : okP q = true → 0 ≤ top 0 q ∧ top 0 q ≤ q.length ∧ ∀ c ∈ q, 0 ≤ c ∧ c < top 0 q := by
  induction q using rev_ind with
  | h0 => intro _; simp [top]
  | h1 q x ih =>
    intro h
    obtain ⟨h1, h2, h3⟩ := ok_snoc.1 h
    obtain ⟨i1, i2, i3⟩ := ih h1
    rw [top_snoc]
    refine ⟨by omega, by simp; omega, ?_⟩
    intro c hc
    rcases List.mem_append.1 hc with hc | hc
    · have := i3 c hc; omega
    · simp only [List.mem_singleton] at hc; subst hc; omega
theorem ok_take {p : List Int} (h : okP p = true) (k : Nat) : okP (p.take k) = true := by
  have := h
  rw [← List.take_append_drop k p] at this
  simp only [okP, okFrom_append, Bool.and_eq_true] at this
  exact this.1
theorem ok_at {p : List Int} (h : okP p = true) {k : Nat} (hk : k < p.length) : 0 ≤ p[k] ∧ p[k] ≤ top 0 (p.take k) := by
  have := ok_take h (k + 1)
  rw [take_succ hk] at this
  exact (ok_snoc.1 this).2

/-- How often a number stands in a list. -/
def cnt (c : Int) (p : List Int) : Int := ((p.count c : Nat) : Int)
theorem cnt_snoc (c : Int) (q : List Int) (x : Int) : cnt c (q ++ [x]) = cnt c q + (if x = c then 1 else 0) := by
  simp only [cnt, List.count_append, List.count_singleton]
  split <;> simp_all
theorem cnt_nonneg (c : Int) (q : List Int) : 0 ≤ cnt c q := by simp [cnt]
theorem cnt_le (c : Int) (q : List Int) : cnt c q ≤ q.length := by
  have := List.count_le_length (a := c) (l := q)
  simp only [cnt]; omega
theorem cnt_zero {c : Int} {q : List Int} (h : c ∉ q) : cnt c q = 0 := by simp [cnt, List.count_eq_zero_of_not_mem h]

/-- The sizes of the classes. -/
def szL (p : List Int) : List Int := (List.range (top 0 p).toNat).map fun (i : Nat) => cnt (i : Int) p
theorem szL_len {p : List Int} : (szL p).length = (top 0 p).toNat := by simp [szL]
theorem szL_get {p : List Int} {k : Nat} (h : k < (szL p).length) : (szL p)[k] = cnt (k : Int) p := by simp [szL]
theorem szL_new {q : List Int} {x : Int} (h : okP q = true) (hx : x = top 0 q) : szL (q ++ [x]) = szL q ++ [1] := by
  obtain ⟨b1, b2, b3⟩ := top_bound h
  have ht : (top 0 (q ++ [x])).toNat = (top 0 q).toNat + 1 := by rw [top_snoc]; omega
  simp only [szL, ht, List.range_succ, List.map_append, List.map_cons, List.map_nil]
  congr 1
  · apply List.map_congr_left
    intro i hi
    simp only [List.mem_range] at hi
    rw [cnt_snoc, if_neg (by omega)]; simp
  · have : ((top 0 q).toNat : Int) = x := by omega
    rw [this, cnt_snoc, if_pos rfl, cnt_zero (fun hm => by have := b3 x hm; omega)]; rfl
theorem szL_old {q : List Int} {k : Nat} (hx : (k : Int) < top 0 q) : szL (q ++ [(k : Int)]) = (szL q).set k (cnt k q + 1) := by
  have ht : top 0 (q ++ [(k : Int)]) = top 0 q := by rw [top_snoc]; omega
  apply List.ext_getElem
  · simp [szL, ht]
  · intro i h1 h2
    rw [szL_get, List.getElem_set]
    rw [cnt_snoc]
    by_cases he : k = i
    · subst he; simp
    · rw [if_neg (by omega), if_neg he, szL_get]; simp

theorem f52_eq (N : Nat) (p : List Int) (hN : p.length < N) (hl : p.length < 4294967296) : f52 N p = some (if okP p then szL p else []) := by
  unfold f52
  rw [f44_eq N p hN hl]
  simp only [Option.bind_some]
  cases hok : okP p with
  | false => rfl
  | true =>
    simp only [Bool.not_true, cond_false, if_true]
    refine iter_for (fun k s => s = szL (p.take k)) p.length ?_ ?_ N hN [] ?_
    · intro k s w hk hs hw
      subst hs
      simp only [f52_L5]
      have hq := ok_take hok k
      obtain ⟨b1, b2, b3⟩ := top_bound hq
      obtain ⟨a1, a2⟩ := ok_at hok hk
      have hsl : (szL (p.take k)).length = (top 0 (p.take k)).toNat := szL_len
      simp only [List.length_take] at b2
      rw [dlt_len hk, cond_true, idx_lt hk]
      simp only [Option.bind_some]
      by_cases he : p[k] = top 0 (p.take k)
      · have e1 : decide (p[k] = len (szL (p.take k))) = true := by simp only [len, hsl, decide_eq_true_eq]; omega
        have hc : p[k] = (((szL (p.take k)).length : Nat) : Int) := by omega
        have hnew := szL_new hq he
        rw [e1, cond_true, chk_room (by simp; omega), hc, chk_true (inb_lt (by simp)), idx_lt (by simp)]
        simp only [Option.bind_some, List.getElem_append_right (Nat.le_refl _), Nat.sub_self, List.getElem_cons_zero]
        rw [wi64_of (by omega) (by omega), setI_nat]
        have : (szL (p.take k) ++ [0]).set (szL (p.take k)).length (wi64 (0 + 1)) = szL (p.take (k + 1)) := by
          rw [wi64_of (by omega) (by omega), take_succ hk, hnew]
          simp
        rw [this, chk_true (inb_lt (by simp))]
        exact hw _ rfl
      · have e1 : decide (p[k] = len (szL (p.take k))) = false := by simp only [len, hsl, decide_eq_false_iff_not]; omega
        obtain ⟨j, hj⟩ := Int.eq_ofNat_of_zero_le a1
        have hjl : j < (szL (p.take k)).length := by omega
        rw [e1, cond_false, hj, chk_true (inb_lt hjl), idx_lt hjl]
        simp only [Option.bind_some]
        have hc := cnt_nonneg (j : Int) (p.take k)
        have hc2 := cnt_le (j : Int) (p.take k)
        simp only [List.length_take] at hc2
        rw [chk_true (inb_lt hjl), wi64_of (by omega) (by omega), szL_get, wi64_of (by omega) (by omega), setI_nat]
        apply hw
        rw [take_succ hk, hj, szL_old (by omega)]
    · intro s w hs
      subst hs
      simp only [f52_L5]
      rw [dnlt_len, cond_false, List.take_length]
    · rfl


theorem f45_eq (N : Nat) (p : List Int) (hN : p.length < N) (hl : p.length < 4294967296) : f45 N p = some (if okP p then top 0 p else 0) := by
  unfold f45
  rw [f52_eq N p hN hl]
  simp only [Option.bind_some]
  cases h : okP p with
  | false => rfl
  | true =>
    simp only [if_true, len, szL_len]
    have := (top_bound h).1
    congr 1; omega
theorem f26_eq (N : Nat) (p : List Int) (hN : p.length < N) (hl : p.length < 4294967296) (hok : okP p = true) : f26 N p = some (top 0 p) := by
  unfold f26
  refine iter_for (fun k s => s = top 0 (p.take k)) p.length ?_ ?_ N hN 0 rfl
  · intro k s w hk hs hw
    subst hs
    simp only [f26_L3]
    have hq := ok_take hok k
    obtain ⟨b1, b2, b3⟩ := top_bound hq
    obtain ⟨a1, a2⟩ := ok_at hok hk
    simp only [List.length_take] at b2
    rw [dlt_len hk, cond_true, idx_lt hk]
    simp only [Option.bind_some]
    rw [wi64_of (by omega) (by omega), wi64_of (by omega) (by omega)]
    apply hw
    rw [take_succ hk, top_snoc]
    simp only [maxI]; split <;> omega
  · intro s w hs
    subst hs
    simp only [f26_L3]
    rw [dnlt_len, cond_false, List.take_length]

/-! ## Lists with the same classes -/
section
variable {α β : Type} [DecidableEq α] [DecidableEq β]

theorem ofL_len (l : List α) : (ofL l).length = l.length := clsA_length [] l
theorem posOf_get {x : α} : {l : List α} → x ∈ l → l[posOf x l]? = some x
  | y :: l, h => by
    simp only [posOf]
    split
    · rename_i he; simp [he]
    · rename_i hne
      have : x ∈ l := by
        rcases List.mem_cons.1 h with rfl | h
        · exact absurd rfl hne
        · exact h
      simpa using posOf_get this
theorem posOf_inj {x y : α} {l : List α} (hx : x ∈ l) (hy : y ∈ l) (h : posOf x l = posOf y l) : x = y := by
  have h1 := posOf_get hx
  have h2 := posOf_get hy
  rw [h, h2] at h1
  simpa using h1.symm
theorem ofL_get {l : List α} {j : Nat} (h : j < l.length) : (ofL l)[j]? = some ((posOf l[j] (nubA [] l) : Nat) : Int) := clsA_get [] l j h
theorem ofL_same {l : List α} {i j : Nat} (hi : i < l.length) (hj : j < l.length) : (ofL l)[i]'(by rw [ofL_len]; exact hi) = (ofL l)[j]'(by rw [ofL_len]; exact hj) ↔ l[i] = l[j] := by
  have h1 := ofL_get hi
  have h2 := ofL_get hj
  rw [List.getElem?_eq_getElem (by rw [ofL_len]; exact hi)] at h1
  rw [List.getElem?_eq_getElem (by rw [ofL_len]; exact hj)] at h2
  simp only [Option.some.injEq] at h1 h2
  rw [h1, h2]
  constructor
  · intro h
    exact posOf_inj (l := nubA [] l) (by rw [nubA_mem]; right; exact List.getElem_mem hi) (by rw [nubA_mem]; right; exact List.getElem_mem hj) (by omega)
  · intro h; rw [h]

theorem posOf_map {f : α → β} {x : α} : {l : List α} → (∀ y ∈ l, f y = f x → y = x) → posOf (f x) (l.map f) = posOf x l
  | [], _ => rfl
  | y :: l, h => by
    have ih := posOf_map (f := f) (x := x) (l := l) (fun z hz => h z (by simp [hz]))
    simp only [List.map_cons, posOf]
    by_cases he : y = x
    · simp [he]
    · have : ¬ f y = f x := fun hf => he (h y (by simp) hf)
      simp [he, this, ih]
theorem clsA_map {f : α → β} : (acc l : List α) → (∀ x ∈ acc ++ l, ∀ y ∈ acc ++ l, f x = f y → x = y) → clsA (acc.map f) (l.map f) = clsA acc l
  | _, [], _ => rfl
  | acc, x :: l, h => by
    simp only [List.map_cons, clsA]
    by_cases hm : x ∈ acc
    · have h1 : f x ∈ acc.map f := List.mem_map.2 ⟨x, hm, rfl⟩
      rw [if_pos hm, if_pos h1, posOf_map (fun y hy he => h y (by simp [hy]) x (by simp) he), clsA_map acc l (fun a ha b hb => h a (by simp at ha ⊢; rcases ha with ha | ha <;> simp [ha]) b (by simp at hb ⊢; rcases hb with hb | hb <;> simp [hb]))]
    · have h1 : f x ∉ acc.map f := by
        intro hh
        obtain ⟨y, hy, he⟩ := List.mem_map.1 hh
        exact hm (by rw [← h y (by simp [hy]) x (by simp) he]; exact hy)
      rw [if_neg hm, if_neg h1, List.length_map]
      have := clsA_map (f := f) (acc ++ [x]) l (fun a ha b hb => h a (by simpa using ha) b (by simpa using hb))
      simp only [List.map_append, List.map_cons, List.map_nil] at this
      rw [this]
theorem ofL_map {f : α → β} {l : List α} (h : ∀ x ∈ l, ∀ y ∈ l, f x = f y → x = y) : ofL (l.map f) = ofL l := clsA_map [] l (by simpa using h)
/-- Lists in which the same places are alike have the same classes. -/
theorem ofL_congr {l : List α} {m : List β} (hlen : l.length = m.length) (h : ∀ i j (hi : i < l.length) (hj : j < l.length), l[i] = l[j] ↔ m[i]'(by omega) = m[j]'(by omega)) : ofL l = ofL m := by
  have hm : m.map some = l.map (fun x => m[posOf x l]?) := by
    apply List.ext_getElem
    · simp [hlen]
    · intro j h1 h2
      have hj : j < l.length := by simpa using h2
      have hp := posOf_lt (List.getElem_mem hj)
      have hg := posOf_get (List.getElem_mem hj)
      rw [List.getElem?_eq_getElem hp] at hg
      simp only [Option.some.injEq] at hg
      simp only [List.getElem_map]
      rw [List.getElem?_eq_getElem (by omega)]
      congr 1
      exact ((h _ _ hp hj).1 hg).symm
  have h1 : ofL (m.map some) = ofL m := ofL_map (fun x _ y _ he => by simpa using he)
  rw [← h1, hm]
  symm
  apply ofL_map
  intro x hx y hy he
  have hpx := posOf_lt hx
  have hpy := posOf_lt hy
  have hgx := posOf_get hx
  have hgy := posOf_get hy
  rw [List.getElem?_eq_getElem hpx] at hgx
  rw [List.getElem?_eq_getElem hpy] at hgy
  simp only [Option.some.injEq] at hgx hgy
  rw [List.getElem?_eq_getElem (by omega), List.getElem?_eq_getElem (by omega)] at he
  simp only [Option.some.injEq] at he
  rw [← hgx, ← hgy]
  exact (h _ _ hpx hpy).2 he
end
end Go.Kz
