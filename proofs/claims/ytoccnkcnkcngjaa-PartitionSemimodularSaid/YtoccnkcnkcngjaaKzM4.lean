/-
  What the functions of the layer partition compute: plain laws.
-/
import Derived.Test.YtoccnkcnkcngjaaKzP4
import Derived.Test.YtoccnkcnkcngjaaKzAL
set_option linter.unusedVariables false
set_option linter.unusedSimpArgs false
namespace Go.Kz

/-! ## Equal lists -/
theorem f12_eq (N : Nat) (a b : List Int) (hN : a.length < N) (hl : a.length < 4294967296) : f12 N a b = some (decide (a = b)) := by
  unfold f12
  by_cases hlen : a.length = b.length
  · have e1 : (!decide (len a = len b)) = false := by simp [len, hlen]
    rw [e1, cond_false]
    refine iter_rule (fun x : Int => ∃ k : Nat, x = k ∧ k ≤ a.length ∧ ∀ j, j < k → a[j]? = b[j]?) (fun x => a.length - x.toNat) ?_ N 0 ⟨0, rfl, by omega, by intro j hj; omega⟩ (by simpa using hN)
    rintro x w ⟨k, rfl, hk, hpre⟩ hw
    simp only [f12_L4]
    by_cases hlt : k < a.length
    · have e2 : decide ((k : Int) < len a) = true := by simp [len, hlt]
      rw [e2, cond_true, idx_lt hlt, idx_lt (l := b) (by omega)]
      simp only [Option.bind_some]
      by_cases he : a[k] = b[k]'(by omega)
      · rw [wi64_of (by omega) (by omega)]
        simp only [he, decide_true, Bool.not_true, cond_false]
        refine hw _ ⟨k + 1, by omega, by omega, fun j hj => ?_⟩ (by simp; omega)
        by_cases hjk : j = k
        · subst hjk; rw [List.getElem?_eq_getElem hlt, List.getElem?_eq_getElem (by omega), he]
        · exact hpre j (by omega)
      · have hne : a ≠ b := by intro h; subst h; exact he rfl
        simp [he, hne]
    · have e2 : decide ((k : Int) < len a) = false := by simp [len]; omega
      rw [e2, cond_false]
      have : a = b := by
        apply List.ext_getElem?
        intro j
        by_cases hj : j < k
        · exact hpre j hj
        · rw [List.getElem?_eq_none (by omega), List.getElem?_eq_none (by omega)]
      simp [this]
  · have e1 : (!decide (len a = len b)) = true := by simp [len]; omega
    have hne : a ≠ b := by intro h; subst h; exact hlen rfl
    rw [e1, cond_true]; simp [hne]

/-! ## Valid -/
/-- The numbers of the classes in the order of their first elements, from n on. -/
def okFrom : Int → List Int → Bool
  | _, [] => true
  | n, c :: l => decide (0 ≤ c) && decide (c ≤ n) && okFrom (max n (c + 1)) l
def okP (p : List Int) : Bool := okFrom 0 p

theorem okFrom_le {p : List Int} : ∀ {n : Int}, okFrom n p = true → ∀ c ∈ p, c ≤ n + p.length := by
  induction p with
  | nil => intro n _ c hc; simp at hc
  | cons x l ih =>
    intro n h c hc
    simp only [okFrom, Bool.and_eq_true, decide_eq_true_eq] at h
    rcases List.mem_cons.1 hc with rfl | hc
    · simp; omega
    · have := ih h.2 c hc
      simp only [List.length_cons]
      omega

theorem f14_eq (N : Nat) (p : List Int) (hN : p.length < N) (hl : p.length < 4294967296) : f14 N p = some (okP p) := by
  unfold f14
  refine iter_rule (fun x : Int × Int => ∃ k : Nat, x.1 = k ∧ k ≤ p.length ∧ 0 ≤ x.2 ∧ x.2 ≤ k ∧ okP p = okFrom x.2 (p.drop k)) (fun x => p.length - x.1.toNat) ?_ N (0, 0) ⟨0, rfl, by omega, by simp, by simp, by simp [okP]⟩ (by simpa using hN)
  rintro ⟨i, n⟩ w ⟨k, hi, hk, hn0, hnk, heq⟩ hw
  simp only at hi hn0 hnk heq
  subst hi
  simp only [f14_L3]
  by_cases hlt : k < p.length
  · have e2 : decide ((k : Int) < len p) = true := by simp [len, hlt]
    rw [e2, cond_true, idx_lt hlt]
    simp only [Option.bind_some]
    rw [List.drop_eq_getElem_cons hlt] at heq
    simp only [okFrom] at heq
    by_cases h0 : p[k] < 0
    · have : ¬ (0 ≤ p[k]) := by omega
      simp [h0, heq, this]
    · by_cases h1 : n < p[k]
      · have h2 : ¬ (p[k] ≤ n) := by omega
        simp [h0, h1, heq, h2]
      · have e3 : decide (0 ≤ p[k]) = true := by simp; omega
        have e4 : decide (p[k] ≤ n) = true := by simp; omega
        rw [e3, e4] at heq
        simp only [h0, h1, decide_false, cond_false, Option.bind_some]
        rw [wi64_of (by omega) (by omega), wi64_of (by omega) (by omega)]
        have hm : maxI n (p[k] + 1) = max n (p[k] + 1) := by simp only [maxI]; split <;> omega
        rw [hm]
        exact hw _ ⟨k + 1, by simp, by omega, by simp only; omega, by simp only; omega, by simpa using heq⟩ (by simp; omega)
  · have e2 : decide ((k : Int) < len p) = false := by simp [len]; omega
    rw [e2, cond_false, heq, List.drop_eq_nil_of_le (by omega)]
    rfl

theorem f15_eq (N : Nat) (p : List Int) (hN : p.length < N) (hl : p.length < 4294967296) : f15 N p = some (okP p) := by
  unfold f15
  refine iter_rule (fun x : Int × Int => ∃ k : Nat, x.1 = k ∧ k ≤ p.length ∧ 0 ≤ x.2 ∧ x.2 ≤ k ∧ okP p = okFrom x.2 (p.drop k)) (fun x => p.length - x.1.toNat) ?_ N (0, 0) ⟨0, rfl, by omega, by simp, by simp, by simp [okP]⟩ (by simpa using hN)
  rintro ⟨i, n⟩ w ⟨k, hi, hk, hn0, hnk, heq⟩ hw
  simp only at hi hn0 hnk heq
  subst hi
  simp only [f15_L3]
  by_cases hlt : k < p.length
  · have e2 : decide ((k : Int) < len p) = true := by simp [len, hlt]
    rw [e2, cond_true, idx_lt hlt]
    simp only [Option.bind_some]
    rw [List.drop_eq_getElem_cons hlt] at heq
    simp only [okFrom] at heq
    by_cases h0 : p[k] < 0
    · have : ¬ (0 ≤ p[k]) := by omega
      simp [h0, heq, this]
    · by_cases h1 : n < p[k]
      · have h2 : ¬ (p[k] ≤ n) := by omega
        simp [h0, h1, heq, h2]
      · have e3 : decide (0 ≤ p[k]) = true := by simp; omega
        have e4 : decide (p[k] ≤ n) = true := by simp; omega
        rw [e3, e4] at heq
        simp only [h0, h1, decide_false, cond_false, Option.bind_some]
        rw [wi64_of (by omega) (by omega)]
        by_cases hq : p[k] = n
        · have hm : max n (p[k] + 1) = n + 1 := by omega
          rw [hm] at heq
          rw [wi64_of (by omega) (by omega)]
          simp only [hq, decide_true, cond_true]
          exact hw _ ⟨k + 1, by simp, by omega, by simp only; omega, by simp only; omega, by simpa using heq⟩ (by simp; omega)
        · have hm : max n (p[k] + 1) = n := by omega
          rw [hm] at heq
          simp only [hq, decide_false, cond_false]
          exact hw _ ⟨k + 1, by simp, by omega, by simp only; omega, by simp only; omega, by simpa using heq⟩ (by simp; omega)
  · have e2 : decide ((k : Int) < len p) = false := by simp [len]; omega
    rw [e2, cond_false, heq, List.drop_eq_nil_of_le (by omega)]
    rfl

/-! ## Of -/
/-- The labels met, each once, in the order of their first places. -/
def nubA : List Int → List Int → List Int
  | acc, [] => acc
  | acc, x :: l => if x ∈ acc then nubA acc l else nubA (acc ++ [x]) l
def posOf (x : Int) : List Int → Nat
  | [] => 0
  | y :: l => if y = x then 0 else posOf x l + 1
/-- The classes of the labels of a list when those in acc have been met. -/
def clsA : List Int → List Int → List Int
  | _, [] => []
  | acc, x :: l => if x ∈ acc then (posOf x acc : Int) :: clsA acc l else (acc.length : Int) :: clsA (acc ++ [x]) l
def ofL (l : List Int) : List Int := clsA [] l

theorem posOf_lt {x : Int} : {l : List Int} → x ∈ l → posOf x l < l.length
  | y :: l, h => by
    simp only [posOf]
    split
    · simp
    · rename_i hne
      have : x ∈ l := by
        rcases List.mem_cons.1 h with rfl | h
        · exact absurd rfl hne
        · exact h
      have := posOf_lt this
      simp only [List.length_cons]; omega
theorem posOf_append {x : Int} : {l m : List Int} → x ∈ l → posOf x (l ++ m) = posOf x l
  | y :: l, m, h => by
    simp only [List.cons_append, posOf]
    split
    · rfl
    · rename_i hne
      have : x ∈ l := by
        rcases List.mem_cons.1 h with rfl | h
        · exact absurd rfl hne
        · exact h
      rw [posOf_append this]
theorem posOf_new {x : Int} : {l : List Int} → x ∉ l → posOf x (l ++ [x]) = l.length
  | [], _ => by simp [posOf]
  | y :: l, h => by
    have h1 : y ≠ x := by intro he; subst he; simp at h
    have h2 : x ∉ l := by intro hm; exact h (by simp [hm])
    simp only [List.cons_append, posOf, if_neg h1, posOf_new h2, List.length_cons]

/-- The map of the labels met. -/
def mapOf : List Int → Int → List (Int × Int)
  | [], _ => []
  | x :: l, n => (x, n) :: mapOf l (n + 1)
theorem mapOf_len (l : List Int) (n : Int) : (mapOf l n).length = l.length := by
  induction l generalizing n with
  | nil => rfl
  | cons x l ih => simp [mapOf, ih]
theorem mget_mapOf (x : Int) : (l : List Int) → (n : Int) → mget (keyEq (.int .i64)) (mapOf l n) x = if x ∈ l then some (n + posOf x l) else none
  | [], n => rfl
  | y :: l, n => by
    simp only [mapOf, mget, keyEq, posOf]
    by_cases h : x = y
    · subst h; simp
    · have h2 : ¬ y = x := fun e => h e.symm
      simp only [h, decide_false, cond_false, List.mem_cons, false_or, mget_mapOf x l (n + 1), if_neg h2]
      split
      · congr 1; push_cast; omega
      · rfl
theorem mput_mapOf (x : Int) : (l : List Int) → (n : Int) → x ∉ l → mput (keyEq (.int .i64)) (mapOf l n) x (n + l.length) = mapOf (l ++ [x]) n
  | [], n, _ => by simp [mapOf, mput]
  | y :: l, n, h => by
    have h1 : ¬ x = y := by intro he; subst he; simp at h
    have h2 : x ∉ l := by intro hm; exact h (by simp [hm])
    have := mput_mapOf x l (n + 1) h2
    simp only [mapOf, mput, keyEq, h1, decide_false, cond_false, List.cons_append, List.length_cons]
    rw [← this]
    congr 2
    push_cast; omega

theorem f11_eq (N : Nat) (l : List Int) (hN : l.length < N) (hl : l.length < 4294967296) : f11 N l = some (ofL l) := by
  unfold f11
  rw [chk_true (by rw [show ((room : Nat) : Int) = 4294967296 from rfl]; simp [len]; omega)]
  refine iter_rule (fun x : Int × List Int × List (Int × Int) => ∃ (k : Nat) (acc : List Int), x.1 = k ∧ k ≤ l.length ∧ x.2.2 = mapOf acc 0 ∧ acc.length ≤ k ∧ x.2.1.length = k ∧ ofL l = x.2.1 ++ clsA acc (l.drop k)) (fun x => l.length - x.1.toNat) ?_ N _
    ⟨0, [], rfl, by omega, rfl, by simp, by simp, by simp [ofL]⟩ (by simpa using hN)
  rintro ⟨i, out, m⟩ w ⟨k, acc, hi, hk, hm, hacc, hout, heq⟩ hw
  simp only at hi hm hout heq
  subst hi; subst hm
  simp only [f11_L4]
  by_cases hlt : k < l.length
  · have e2 : decide ((k : Int) < len l) = true := by simp [len, hlt]
    rw [e2, cond_true, idx_lt hlt]
    simp only [Option.bind_some]
    rw [List.drop_eq_getElem_cons hlt] at heq
    simp only [clsA] at heq
    rw [mget_mapOf]
    by_cases hmem : l[k] ∈ acc
    · rw [if_pos hmem] at heq
      simp only [if_pos hmem, Option.isSome_some, Bool.not_true, cond_false]
      rw [chk_true (by simp [room]; omega), wi64_of (by omega) (by omega)]
      refine hw _ ⟨k + 1, acc, by simp, by omega, rfl, by omega, by simp [hout], ?_⟩ (by simp; omega)
      simp only [Option.getD_some, Int.zero_add, List.append_assoc, List.singleton_append]
      exact heq
    · rw [if_neg hmem] at heq
      simp only [if_neg hmem, Option.isSome_none, Bool.not_false, cond_true]
      rw [chk_true (by simp [room, mapOf_len]; omega), chk_true (by simp [room]; omega), wi64_of (by omega) (by omega)]
      have hp := mput_mapOf l[k] acc 0 hmem
      rw [Int.zero_add] at hp
      have hlen : len (mapOf acc 0) = (acc.length : Int) := by simp [len, mapOf_len]
      rw [hlen, hp]
      refine hw _ ⟨k + 1, acc ++ [l[k]], by simp, by omega, rfl, by simp; omega, by simp [hout], ?_⟩ (by simp; omega)
      simp only [List.append_assoc, List.singleton_append]
      exact heq
  · have e2 : decide ((k : Int) < len l) = false := by simp [len]; omega
    rw [e2, cond_false, heq, List.drop_eq_nil_of_le (by omega)]
    simp [clsA]

/-! The classes by the labels before. -/
theorem clsA_length : (acc l : List Int) → (clsA acc l).length = l.length
  | _, [] => rfl
  | acc, x :: l => by simp only [clsA]; split <;> simp [clsA_length _ l]

/-- What has been met after k labels. -/
theorem nubA_mem {x : Int} : {acc l : List Int} → (x ∈ nubA acc l ↔ x ∈ acc ∨ x ∈ l)
  | acc, [] => by simp [nubA]
  | acc, y :: l => by
    simp only [nubA]
    split
    · rename_i h
      rw [nubA_mem]
      simp only [List.mem_cons]
      constructor
      · rintro (h1 | h1)
        · exact .inl h1
        · exact .inr (.inr h1)
      · rintro (h1 | rfl | h1)
        · exact .inl h1
        · exact .inl h
        · exact .inr h1
    · rw [nubA_mem]
      simp [or_assoc]
theorem clsA_split : (acc l m : List Int) → clsA acc (l ++ m) = clsA acc l ++ clsA (nubA acc l) m
  | _, [], _ => rfl
  | acc, x :: l, m => by
    simp only [List.cons_append, clsA, nubA]
    split <;> simp [clsA_split _ l m]
theorem nubA_ext : (acc l : List Int) → ∃ ys, nubA acc l = acc ++ ys
  | acc, [] => ⟨[], by simp [nubA]⟩
  | acc, x :: l => by
    simp only [nubA]
    split
    · exact nubA_ext acc l
    · obtain ⟨ys, h⟩ := nubA_ext (acc ++ [x]) l
      exact ⟨x :: ys, by rw [h]; simp⟩
theorem nubA_length : (acc l : List Int) → (nubA acc l).length ≤ acc.length + l.length
  | acc, [] => by simp [nubA]
  | acc, x :: l => by
    simp only [nubA]
    split
    · have := nubA_length acc l; simp; omega
    · have := nubA_length (acc ++ [x]) l; simp at this ⊢; omega
/-- The class of a label is its place among those met. -/
theorem clsA_get : (acc l : List Int) → (j : Nat) → (h : j < l.length) → (clsA acc l)[j]? = some ((posOf l[j] (nubA acc l) : Nat) : Int)
  | acc, x :: l, 0, _ => by
    simp only [clsA, nubA, List.getElem_cons_zero]
    split
    · rename_i hm
      obtain ⟨ys, hy⟩ := nubA_ext acc l
      rw [hy, posOf_append hm]; rfl
    · rename_i hm
      obtain ⟨ys, hy⟩ := nubA_ext (acc ++ [x]) l
      rw [hy, posOf_append (by simp), posOf_new hm]; rfl
  | acc, x :: l, j + 1, h => by
    have h' : j < l.length := by simpa using h
    simp only [clsA, nubA, List.getElem_cons_succ]
    split
    · simpa using clsA_get acc l j h'
    · simpa using clsA_get (acc ++ [x]) l j h'

theorem f13_eq (N : Nat) (l : List Int) (hN : l.length < N) (hl : l.length < 4294967296) : f13 N l = some (ofL l) := by
  unfold f13
  refine iter_rule (fun x : Int × Int × List Int => ∃ (k : Nat), x.1 = k ∧ k ≤ l.length ∧ x.2.1 = ((nubA [] (l.take k)).length : Int) ∧ x.2.2 = ofL (l.take k)) (fun x => l.length - x.1.toNat) ?_ N _
    ⟨0, rfl, by omega, by simp [nubA], by simp [ofL, clsA]⟩ (by simpa using hN)
  rintro ⟨i, nx, out⟩ w ⟨k, hi, hk, hnx, hout⟩ hw
  simp only at hi hnx hout
  subst hi; subst hnx; subst hout
  simp only [f13_L4]
  have hnl : (nubA [] (l.take k)).length ≤ k := by
    have := nubA_length [] (l.take k)
    simp at this; omega
  have hol : (ofL (l.take k)).length = k := by simp [ofL, clsA_length]; omega
  by_cases hlt : k < l.length
  · have e2 : decide ((k : Int) < len l) = true := by simp [len, hlt]
    rw [e2, cond_true]
    have htk : l.take (k + 1) = l.take k ++ [l[k]] := by rw [List.take_succ_eq_append_getElem hlt]
    -- the inner loop
    refine iter_rule (fun x : Int × Int => ∃ (j : Nat), x.1 = j ∧ j ≤ k ∧ x.2 = if l[k] ∈ l.take j then ((posOf l[k] (nubA [] (l.take k)) : Nat) : Int) else ((nubA [] (l.take k)).length : Int)) (fun x => k - x.1.toNat) ?_ N _
      ⟨0, rfl, by omega, by simp⟩ (by simp; omega)
    rintro ⟨j, c⟩ v ⟨j', hj, hjk, hc⟩ hv
    simp only at hj hc
    subst hj
    simp only [f13_L8]
    by_cases hjlt : j' < k
    · have e3 : decide ((j' : Int) < k) = true := by simp [hjlt]
      rw [e3, cond_true, idx_lt (l := l) (k := j') (by omega), idx_lt hlt]
      simp only [Option.bind_some]
      have htj : l.take (j' + 1) = l.take j' ++ [l[j']'(by omega)] := by rw [List.take_succ_eq_append_getElem (by omega)]
      by_cases he : l[j']'(by omega) = l[k]
      · have hget : idx (ofL (l.take k)) (j' : Int) = some ((posOf l[k] (nubA [] (l.take k)) : Nat) : Int) := by
          rw [idx_nat]
          have := clsA_get [] (l.take k) j' (by simp; omega)
          rw [ofL, this]
          congr 3
          simp [he]
        simp only [he, decide_true, cond_true]
        rw [chk_true (inb_lt (by rw [hol]; exact hjlt)), hget]
        simp only [Option.bind_some]
        rw [wi64_of (by omega) (by omega)]
        refine hv _ ⟨j' + 1, by simp, by omega, ?_⟩ (by simp; omega)
        simp only
        rw [if_pos (by rw [htj]; simp [he])]
      · simp only [he, decide_false, cond_false]
        rw [wi64_of (by omega) (by omega)]
        refine hv _ ⟨j' + 1, by simp, by omega, ?_⟩ (by simp; omega)
        simp only
        rw [hc, htj]
        have : (l[k] ∈ l.take j' ++ [l[j']'(by omega)]) = (l[k] ∈ l.take j') := by
          simp only [List.mem_append, List.mem_singleton, eq_iff_iff]
          constructor
          · rintro (h | h)
            · exact h
            · exact absurd h.symm he
          · exact .inl
        simp only [this]
    · have hjk' : j' = k := by omega
      subst hjk'
      have e3 : decide ((j' : Int) < (j' : Int)) = false := by simp
      rw [e3, cond_false]
      by_cases hmem : l[j'] ∈ l.take j'
      · rw [if_pos hmem] at hc
        have hmn : l[j'] ∈ nubA [] (l.take j') := by rw [nubA_mem]; exact .inr hmem
        have hp := posOf_lt hmn
        have e4 : decide (c = ((nubA [] (l.take j')).length : Int)) = false := by rw [hc]; simp; omega
        rw [e4, cond_false, chk_true (by simp [room, hol]; omega), wi64_of (by omega) (by omega)]
        refine hw _ ⟨j' + 1, by simp, by omega, ?_, ?_⟩ (by simp; omega)
        · have key : ∀ (acc m : List Int) (x : Int), x ∈ nubA acc m → nubA acc (m ++ [x]) = nubA acc m := by
            intro acc m
            induction m generalizing acc with
            | nil => intro x hx; simp only [List.nil_append, nubA] at hx ⊢; rw [if_pos hx]
            | cons y m ih =>
              intro x hx
              simp only [List.cons_append, nubA] at hx ⊢
              split
              · rename_i hy; rw [if_pos hy] at hx; exact ih acc x hx
              · rename_i hy; rw [if_neg hy] at hx; exact ih _ x hx
          simp only
          rw [htk, key _ _ _ hmn]
        · simp only
          rw [htk, ofL, ofL, clsA_split]
          simp only [clsA, if_pos hmn, hc]
      · rw [if_neg hmem] at hc
        have hmn : l[j'] ∉ nubA [] (l.take j') := by rw [nubA_mem]; simpa using hmem
        have e4 : decide (c = ((nubA [] (l.take j')).length : Int)) = true := by rw [hc]; simp
        rw [e4, cond_true, chk_true (by simp [room, hol]; omega), wi64_of (by omega) (by omega), wi64_of (by omega) (by omega)]
        refine hw _ ⟨j' + 1, by simp, by omega, ?_, ?_⟩ (by simp; omega)
        · have key : ∀ (acc m : List Int) (x : Int), x ∉ nubA acc m → nubA acc (m ++ [x]) = nubA acc m ++ [x] := by
            intro acc m
            induction m generalizing acc with
            | nil => intro x hx; simp only [List.nil_append, nubA] at hx ⊢; rw [if_neg hx]
            | cons y m ih =>
              intro x hx
              simp only [List.cons_append, nubA] at hx ⊢
              split
              · rename_i hy; rw [if_pos hy] at hx; exact ih acc x hx
              · rename_i hy; rw [if_neg hy] at hx; exact ih _ x hx
          simp only
          rw [htk, key _ _ _ hmn]; simp
        · simp only
          rw [htk, ofL, ofL, clsA_split]
          simp only [clsA, if_neg hmn, hc]
  · have e2 : decide ((k : Int) < len l) = false := by simp [len]; omega
    rw [e2, cond_false, List.take_of_length_le (by omega)]

/-! Valid lists are their own classes. -/
theorem okFrom_cls : (acc l : List Int) → okFrom (acc.length : Int) (clsA acc l) = true
  | _, [] => rfl
  | acc, x :: l => by
    simp only [clsA]
    split
    · rename_i hm
      have := posOf_lt hm
      have hmx : max (acc.length : Int) ((posOf x acc : Int) + 1) = acc.length := by omega
      simp only [okFrom, hmx, okFrom_cls acc l, Bool.and_true, Bool.and_eq_true, decide_eq_true_eq]
      omega
    · have hmx : max (acc.length : Int) ((acc.length : Int) + 1) = ((acc ++ [x]).length : Int) := by simp; omega
      simp only [okFrom, hmx, okFrom_cls (acc ++ [x]) l, Bool.and_true, Bool.and_eq_true, decide_eq_true_eq]
      omega
theorem okP_ofL (l : List Int) : okP (ofL l) = true := okFrom_cls [] l

/-- The numbers below n. -/
def upto (n : Nat) : List Int := (List.range n).map fun (i : Nat) => (i : Int)
theorem upto_mem {n : Nat} {x : Int} : x ∈ upto n ↔ 0 ≤ x ∧ x < n := by
  simp only [upto, List.mem_map, List.mem_range]
  constructor
  · rintro ⟨i, hi, rfl⟩; omega
  · rintro ⟨h0, h1⟩; exact ⟨x.toNat, by omega, by omega⟩
theorem upto_succ (n : Nat) : upto (n + 1) = upto n ++ [(n : Int)] := by simp [upto, List.range_succ]
theorem posOf_upto {n : Nat} {x : Int} (h0 : 0 ≤ x) (h1 : x < n) : (posOf x (upto n) : Int) = x := by
  induction n with
  | zero => omega
  | succ n ih =>
    rw [upto_succ]
    by_cases hx : x = n
    · subst hx
      rw [posOf_new (by rw [upto_mem]; omega)]; simp [upto]
    · rw [posOf_append (by rw [upto_mem]; omega), ih (by omega)]
theorem cls_of_ok : (p : List Int) → (n : Nat) → (clsA (upto n) p = p ↔ okFrom (n : Int) p = true)
  | [], n => by simp [clsA, okFrom]
  | x :: p, n => by
    simp only [clsA, okFrom]
    by_cases hx : 0 ≤ x ∧ x < n
    · rw [if_pos (upto_mem.2 hx), posOf_upto hx.1 hx.2]
      have hm : max (n : Int) (x + 1) = n := by omega
      have e1 : decide (0 ≤ x) = true := by simp [hx.1]
      have e2 : decide (x ≤ (n : Int)) = true := by simp; omega
      rw [hm, e1, e2]
      simp [cls_of_ok p n]
    · rw [if_neg (fun h => hx (upto_mem.1 h))]
      have hl : ((upto n).length : Int) = n := by simp [upto]
      rw [hl]
      by_cases he : x = n
      · subst he
        have hm : max (n : Int) ((n : Int) + 1) = ((n + 1 : Nat) : Int) := by omega
        rw [← upto_succ, hm]
        simp [cls_of_ok p (n + 1)]
      · have e : (decide (0 ≤ x) && decide (x ≤ (n : Int))) = false := by simp; omega
        rw [e]
        simp only [Bool.false_and, Bool.false_eq_true, iff_false]
        intro h
        simp at h
        exact he h.1.symm
theorem ofL_eq_iff (p : List Int) : ofL p = p ↔ okP p = true := cls_of_ok p 0

/-! ## The first law -/
theorem f10_100 : f10 100 = some true := by kernel_rfl

theorem law3 (a b : List Int) : f3 100 a b = some true := by
  unfold f3
  rw [f10_100]
  simp only [Option.bind_some, Bool.not_true, cond_false]
  by_cases ha : 64 < a.length
  · have : decide (64 < len a) = true := by simp [len]; omega
    simp [this]
  · have h1 : decide (64 < len a) = false := by simp [len]; omega
    by_cases hb : 64 < b.length
    · have h2 : decide (64 < len b) = true := by simp [len]; omega
      simp [h1, h2]
    · have h2 : decide (64 < len b) = false := by simp [len]; omega
      have hla : (ofL a).length = a.length := by simp [ofL, clsA_length]
      have hlb : (ofL b).length = b.length := by simp [ofL, clsA_length]
      simp only [h1, h2, cond_false, Option.bind_some, f11_eq 100 a (by omega) (by omega), f13_eq 100 a (by omega) (by omega), f12_eq 100 (ofL a) (ofL a) (by omega) (by omega), decide_true, cond_true,
        f14_eq 100 (ofL a) (by omega) (by omega), okP_ofL, f14_eq 100 b (by omega) (by omega), f15_eq 100 b (by omega) (by omega), f11_eq 100 b (by omega) (by omega), f12_eq 100 (ofL b) b (by omega) (by omega), ofL_eq_iff]
      simp

end Go.Kz
