/-
  PartitionAll in plain words.
-/
import Derived.Test.YtoccnkcnkcngjaaKzP4A
import Derived.Test.YtoccnkcnkcngjaaKzAR
set_option linter.unusedVariables false
set_option linter.unusedSimpArgs false
namespace Go.Kz

theorem f12_eq (N : Nat) (a b : List Int) (hN : a.length < N) (hl : a.length < 4294967296) : f12 N a b = some (decide (a = b)) := by
  unfold f12
  by_cases hlen : a.length = b.length
  · have e1 : (!decide (len a = len b)) = false := by simp [len, hlen]
    rw [e1, cond_false]
    refine iter_rule (fun x : Int => ∃ k : Nat, x = k ∧ k ≤ a.length ∧ ∀ j, j < k → a[j]? = b[j]?) (fun x => a.length - x.toNat) ?_ N 0 ⟨0, rfl, by omega, by intro j hj; omega⟩ (by simpa using hN)
    rintro x w ⟨k, rfl, hk, hpre⟩ hw
    simp only [f12_L4]
    by_cases hlt : k < a.length
    · have e2 : decide ((k : Int) < len a) = true := by simp [len, hlt]
      rw [e2, cond_true, idx_lt hlt, idx_lt (l := b) (by omega)]
      simp only [Option.bind_some]
      by_cases he : a[k] = b[k]'(by omega)
      · rw [wi64_of (by omega) (by omega)]
        simp only [he, decide_true, Bool.not_true, cond_false]
        refine hw _ ⟨k + 1, by omega, by omega, fun j hj => ?_⟩ (by simp; omega)
        by_cases hjk : j = k
        · subst hjk; rw [List.getElem?_eq_getElem hlt, List.getElem?_eq_getElem (by omega), he]
        · exact hpre j (by omega)
      · have hne : a ≠ b := by intro h; subst h; exact he rfl
        simp [he, hne]
    · have e2 : decide ((k : Int) < len a) = false := by simp [len]; omega
      rw [e2, cond_false]
      have : a = b := by
        apply List.ext_getElem?
        intro j
        by_cases hj : j < k
        · exact hpre j hj
        · rw [List.getElem?_eq_none (by omega), List.getElem?_eq_none (by omega)]
      simp [this]
  · have e1 : (!decide (len a = len b)) = true := by simp [len]; omega
    have hne : a ≠ b := by intro h; subst h; exact hlen rfl
    rw [e1, cond_true]; simp [hne]

/-- The numbers of the classes in the order of their first elements, from n on. -/
def okFrom : Int → List Int → Bool
  | _, [] => true
  | n, c :: l => decide (0 ≤ c) && decide (c ≤ n) && okFrom (max n (c + 1)) l
def okP (p : List Int) : Bool := okFrom 0 p

theorem f15_eq (N : Nat) (p : List Int) (hN : p.length < N) (hl : p.length < 4294967296) : f15 N p = some (okP p) := by
  unfold f15
  refine iter_rule (fun x : Int × Int => ∃ k : Nat, x.1 = k ∧ k ≤ p.length ∧ 0 ≤ x.2 ∧ x.2 ≤ k ∧ okP p = okFrom x.2 (p.drop k)) (fun x => p.length - x.1.toNat) ?_ N (0, 0) ⟨0, rfl, by omega, by simp, by simp, by simp [okP]⟩ (by simpa using hN)
  rintro ⟨i, n⟩ w ⟨k, hi, hk, hn0, hnk, heq⟩ hw
  simp only at hi hn0 hnk heq
  subst hi
  simp only [f15_L3]
  by_cases hlt : k < p.length
  · have e2 : decide ((k : Int) < len p) = true := by simp [len, hlt]
    rw [e2, cond_true, idx_lt hlt]
    simp only [Option.bind_some]
    rw [List.drop_eq_getElem_cons hlt] at heq
    simp only [okFrom] at heq
    by_cases h0 : p[k] < 0
    · have : ¬ (0 ≤ p[k]) := by omega
      simp [h0, heq, this]
    · by_cases h1 : n < p[k]
      · have h2 : ¬ (p[k] ≤ n) := by omega
        simp [h0, h1, heq, h2]
      · have e3 : decide (0 ≤ p[k]) = true := by simp; omega
        have e4 : decide (p[k] ≤ n) = true := by simp; omega
        rw [e3, e4] at heq
        simp only [h0, h1, decide_false, cond_false, Option.bind_some]
        rw [wi64_of (by omega) (by omega)]
        by_cases hq : p[k] = n
        · have hm : max n (p[k] + 1) = n + 1 := by omega
          rw [hm] at heq
          rw [wi64_of (by omega) (by omega)]
          simp only [hq, decide_true, cond_true]
          exact hw _ ⟨k + 1, by simp, by omega, by simp only; omega, by simp only; omega, by simpa using heq⟩ (by simp; omega)
        · have hm : max n (p[k] + 1) = n := by omega
          rw [hm] at heq
          simp only [hq, decide_false, cond_false]
          exact hw _ ⟨k + 1, by simp, by omega, by simp only; omega, by simp only; omega, by simpa using heq⟩ (by simp; omega)
  · have e2 : decide ((k : Int) < len p) = false := by simp [len]; omega
    rw [e2, cond_false, heq, List.drop_eq_nil_of_le (by omega)]
    rfl


theorem f10_ok : f10 5000 = some true := by kernel_rfl
def gen : Nat → Nat → List Int → List (List Int)
  | 0, _, p => [p]
  | d + 1, m, p => (List.range (m + 1)).flatMap fun c => gen d (max m (c + 1)) (p ++ [(c : Int)])
theorem flatMap_le {α β : Type} {f : α → List β} {c : Nat} : {l : List α} → (∀ x ∈ l, (f x).length ≤ c) → (l.flatMap f).length ≤ l.length * c
  | [], _ => Nat.zero_le _
  | x :: l, h => by
    rw [List.flatMap_cons, List.length_append, List.length_cons, Nat.succ_mul]
    have := h x (by simp)
    have := flatMap_le (l := l) fun y hy => h y (List.mem_cons_of_mem _ hy)
    omega
theorem gen_len : ∀ d m p, m + d ≤ 8 → (gen d m p).length ≤ 9 ^ d
  | 0, m, p, _ => by simp [gen]
  | d + 1, m, p, h => by
    simp only [gen]
    have h1 := flatMap_le (f := fun c => gen d (max m (c + 1)) (p ++ [(c : Int)])) (c := 9 ^ d) (l := List.range (m + 1)) fun c hc => gen_len d _ _ (by have := List.mem_range.1 hc; omega)
    rw [List.length_range] at h1
    have h2 : (m + 1) * 9 ^ d ≤ 9 * 9 ^ d := Nat.mul_le_mul_right _ (by omega)
    have h3 : 9 ^ (d + 1) = 9 * 9 ^ d := by rw [Nat.pow_succ, Nat.mul_comm]
    omega
abbrev Res41 := ((Unit × (Unit × (Unit × (Unit × Unit)))) × (Unit × ((List Int) × (Int × (Unit × ((List (List Int)) × ((Unit × (Unit × (Unit × (Unit × Unit)))) × Unit)))))))
def res41 (p : List Int) (n : Int) (o : List (List Int)) : Res41 := (((), ((), ((), ((), ())))), ((), (p, (n, ((), (o, (((), ((), ((), ((), ())))), ())))))))
theorem f42_eq (p : List Int) (h : p.length ≤ 100) : f42 5000 p = some p := by
  unfold f42
  rw [chk_true (decide_eq_true (by simp only [room]; omega))]
theorem cut_last (p : List Int) (c : Int) : sub (p ++ [c]) 0 (p.length : Int) = p := by simp [sub]
theorem max_nat (m k : Nat) : maxI (m : Int) ((k : Int) + 1) = ((max m (k + 1) : Nat) : Int) := by
  simp only [maxI]
  split <;> omega
theorem rec_ok : ∀ (d M m n : Nat) (p : List Int) (out : List (List Int)), d < M → m + d ≤ 8 → p.length + d = n → n ≤ 8 → out.length + 9 ^ d ≤ 4294967296 → f41v1R 5000 M (m : Int) p (n : Int) out = some (res41 p n (out ++ gen d m p)) := by
  intro d
  induction d with
  | zero =>
    intro M m n p out hM hm hp hn ho
    obtain ⟨M, rfl⟩ : ∃ M', M = M' + 1 := ⟨M - 1, by omega⟩
    show f41v1B 5000 (f41v1R 5000 M) (m : Int) p (n : Int) out = _
    unfold f41v1B
    rw [d_true (show len p = (n : Int) by rw [len_eq]; omega), cond_true, f42_eq p (by omega), Option.bind_some, chk_true (decide_eq_true (by simp only [room]; simp at ho; omega))]
    rfl
  | succ d ih =>
    intro M m n p out hM hm hp hn ho
    obtain ⟨M, rfl⟩ : ∃ M', M = M' + 1 := ⟨M - 1, by omega⟩
    show f41v1B 5000 (f41v1R 5000 M) (m : Int) p (n : Int) out = _
    have h9 : 9 ^ (d + 1) = 9 * 9 ^ d := by rw [Nat.pow_succ, Nat.mul_comm]
    refine Yld.eq ?_
    unfold f41v1B
    rw [d_false (show ¬ len p = (n : Int) by rw [len_eq]; omega), cond_false]
    refine Yld.up (fun k (s : List Int × Int × List (List Int)) => s = (p, (n : Int), out ++ (List.range k).flatMap fun c => gen d (max m (c + 1)) (p ++ [(c : Int)]))) (m + 1) ?_ ?_ 5000 0 (Nat.zero_le _) (by omega) _ (by simp)
    · rintro k s w hk rfl hw
      simp only [f41v1B_L3]
      rw [d_true (show (k : Int) ≤ (m : Int) by omega), cond_true, chk_true (decide_eq_true (by simp only [room]; omega)), wi64_nat (by omega), max_nat]
      have hfl := flatMap_le (f := fun c => gen d (max m (c + 1)) (p ++ [(c : Int)])) (c := 9 ^ d) (l := List.range k) fun c hc => gen_len d _ _ (by have := List.mem_range.1 hc; omega)
      rw [List.length_range] at hfl
      have h2 : (k + 1) * 9 ^ d ≤ 9 * 9 ^ d := Nat.mul_le_mul_right _ (by omega)
      rw [Nat.succ_mul] at h2
      rw [ih M (max m (k + 1)) n (p ++ [(k : Int)]) _ (by omega) (by omega) (by rw [List.length_append, List.length_singleton]; omega) hn (by rw [List.length_append]; omega), Option.bind_some]
      simp only [res41]
      have hl : wi64 (len (p ++ [(k : Int)]) - 1) = (p.length : Int) := by rw [len_eq, List.length_append, List.length_singleton, wi64_of (by omega) (by omega)]; omega
      refine Yld.chk ?_ ?_
      · rw [Bool.and_eq_true]
        exact ⟨decide_eq_true (by rw [hl]; omega), decide_eq_true (by rw [hl, len_eq, List.length_append]; omega)⟩
      rw [hl, cut_last]
      refine hw _ ?_
      rw [List.range_succ, List.flatMap_append]
      simp
    · rintro s w rfl
      simp only [f41v1B_L3]
      rw [d_false (show ¬ ((m + 1 : Nat) : Int) ≤ (m : Int) by omega), cond_false]
      exact Yld.ret rfl
theorem f36_ok {n : Nat} (hn : n ≤ 8) : f36 5000 (n : Int) = some (gen n 0 [], 0) := by
  refine Yld.eq ?_
  unfold f36
  rw [d_false (show ¬ (n : Int) < 0 by omega), cond_false, d_false (show ¬ (8 : Int) < (n : Int) by omega), cond_false, chk_true (by have e : ((room : Nat) : Int) = 4294967296 := rfl; rw [e]; simp only [Bool.and_eq_true, decide_eq_true_eq]; omega)]
  rw [show (List.replicate (Int.toNat 0) 0 : List Int) = [] from rfl]
  suffices h : f41 5000 0 [] (n : Int) = some (res41 [] n (gen n 0 [])) by
    rw [h, Option.bind_some]
    exact Yld.ret rfl
  refine Yld.eq ?_
  unfold f41
  cases n with
  | zero =>
    rw [d_true (show len ([] : List Int) = ((0 : Nat) : Int) from rfl), cond_true, f42_eq [] (by simp), Option.bind_some, chk_true (decide_eq_true (by simp only [room]; omega))]
    exact Yld.ret rfl
  | succ d =>
    rw [d_false (show ¬ len ([] : List Int) = ((d + 1 : Nat) : Int) by rw [len_eq]; simp; omega), cond_false]
    refine Yld.up (fun k (s : List Int × Int × List (List Int)) => s = ([], ((d + 1 : Nat) : Int), (List.range k).flatMap fun c => gen d (max 0 (c + 1)) ([] ++ [(c : Int)]))) 1 ?_ ?_ 5000 0 (Nat.zero_le _) (by omega) _ (by simp)
    · rintro k s w hk rfl hw
      obtain rfl : k = 0 := by omega
      simp only [f41_L3]
      rw [d_true (show ((0 : Nat) : Int) ≤ 0 by omega), cond_true, chk_true (decide_eq_true (by simp only [room]; simp)), wi64_nat (by omega)]
      have h9 : 9 ^ d ≤ 9 ^ 8 := Nat.pow_le_pow_right (by omega) (by omega)
      have hr := rec_ok d (4999 + 1) 1 (d + 1) [((0 : Nat) : Int)] [] (by omega) (by omega) (by simp; omega) hn (by simp only [List.length_nil]; omega)
      rw [show maxI 0 (((0 : Nat) : Int) + 1) = ((1 : Nat) : Int) from rfl]
      simp only [List.range_zero, List.flatMap_nil]
      rw [show f41v1 5000 ((1 : Nat) : Int) ([] ++ (((0 : Nat) : Int) :: [])) ((d + 1 : Nat) : Int) ([]) = some (res41 [((0 : Nat) : Int)] ((d + 1 : Nat) : Int) ([] ++ gen d 1 [((0 : Nat) : Int)])) from hr]
      rw [Option.bind_some]
      simp only [res41]
      refine hw _ ?_
      simp
      rfl
    · rintro s w rfl
      simp only [f41_L3]
      rw [d_false (show ¬ ((1 : Nat) : Int) ≤ 0 by omega), cond_false]
      exact Yld.ret rfl

theorem mem_gen : ∀ (d m : Nat) (p q : List Int), q ∈ gen d m p ↔ ∃ s, s.length = d ∧ okFrom (m : Int) s = true ∧ q = p ++ s
  | 0, m, p, q => by
    simp only [gen, List.mem_singleton]
    constructor
    · rintro rfl; exact ⟨[], rfl, rfl, by simp⟩
    · rintro ⟨s, h1, _, rfl⟩
      rw [List.eq_nil_of_length_eq_zero h1, List.append_nil]
  | d + 1, m, p, q => by
    simp only [gen, List.mem_flatMap, List.mem_range]
    constructor
    · rintro ⟨c, hc, hq⟩
      obtain ⟨s, h1, h2, rfl⟩ := (mem_gen d _ _ q).1 hq
      refine ⟨(c : Int) :: s, by simp [h1], ?_, by simp⟩
      simp only [okFrom, Bool.and_eq_true, decide_eq_true_eq]
      refine ⟨⟨by omega, by omega⟩, ?_⟩
      rw [show max (m : Int) ((c : Int) + 1) = ((max m (c + 1) : Nat) : Int) from by omega]
      exact h2
    · rintro ⟨s, h1, h2, rfl⟩
      match s, h1, h2 with
      | x :: s, h1, h2 =>
        simp only [okFrom, Bool.and_eq_true, decide_eq_true_eq] at h2
        obtain ⟨c, rfl⟩ : ∃ c : Nat, x = (c : Int) := ⟨x.toNat, by omega⟩
        refine ⟨c, by omega, (mem_gen d _ _ _).2 ⟨s, by simpa using h1, ?_, by simp⟩⟩
        rw [show ((max m (c + 1) : Nat) : Int) = max (m : Int) ((c : Int) + 1) from by omega]
        exact h2.2
/-- Before, letter by letter. -/
def Bef (x y : List Int) : Prop := ∃ (p : List Int) (c c' : Int) (s s' : List Int), x = p ++ c :: s ∧ y = p ++ c' :: s' ∧ c < c'
theorem gen_asc : ∀ (d m : Nat) (p : List Int), (gen d m p).Pairwise Bef
  | 0, m, p => List.pairwise_singleton _ _
  | d + 1, m, p => by
    simp only [gen]
    rw [List.pairwise_flatMap]
    refine ⟨fun c _ => gen_asc d _ _, List.pairwise_lt_range.imp fun {a b} hab x hx y hy => ?_⟩
    obtain ⟨s, _, _, rfl⟩ := (mem_gen d _ _ _).1 hx
    obtain ⟨s', _, _, rfl⟩ := (mem_gen d _ _ _).1 hy
    exact ⟨p, (a : Int), (b : Int), s, s', by simp, by simp, by omega⟩
theorem f43_same (a : Int) : f43 5000 a a = some 0 := by
  unfold f43 f44
  rw [d_true rfl, Option.bind_some, Option.bind_some, Bool.not_true, cond_false, cond_false, d_false (show ¬ a < a by omega), cond_false]; rfl
theorem f43_lt {a b : Int} (h : a < b) : f43 5000 a b = some (-1) := by
  unfold f43 f44
  rw [d_true rfl, Option.bind_some, d_true rfl, Option.bind_some, Bool.not_true, cond_false, cond_false, d_true h, cond_true]
theorem f37_bef {x y : List Int} (h : Bef x y) (hx : x.length ≤ 8) : f37 5000 x y = some (-1) := by
  obtain ⟨p, c, c', s, s', rfl, rfl, hc⟩ := h
  rw [List.length_append, List.length_cons] at hx
  refine Yld.eq ?_
  unfold f37
  have gx : ∀ k, k < p.length → (p ++ c :: s)[k]? = p[k]? := fun k hk => List.getElem?_append_left hk
  have gy : ∀ k, k < p.length → (p ++ c' :: s')[k]? = p[k]? := fun k hk => List.getElem?_append_left hk
  refine Yld.upI (fun _ => True) p.length ?_ ?_ 5000 0 (Nat.zero_le _) (by omega) trivial
  · rintro k w hk _ hw
    simp only [f37_L2]
    rw [d_true (show (k : Int) < len (p ++ c :: s) by rw [len_eq, List.length_append, List.length_cons]; omega), cond_true, show idx (p ++ c :: s) (k : Int) = some p[k] from (gx k hk).trans (List.getElem?_eq_getElem hk), Option.bind_some, d_false (show ¬ len (p ++ c' :: s') ≤ (k : Int) by rw [len_eq, List.length_append, List.length_cons]; omega), cond_false,
      show idx (p ++ c' :: s') (k : Int) = some p[k] from (gy k hk).trans (List.getElem?_eq_getElem hk), Option.bind_some, f43_same, Option.bind_some, d_true rfl, Bool.not_true, cond_false, wi64_nat (by omega)]
    exact hw trivial
  · rintro w _
    simp only [f37_L2]
    rw [d_true (show (p.length : Int) < len (p ++ c :: s) by rw [len_eq, List.length_append, List.length_cons]; omega), cond_true, show idx (p ++ c :: s) (p.length : Int) = some c from (by show (p ++ c :: s)[p.length]? = some c; simp), Option.bind_some, d_false (show ¬ len (p ++ c' :: s') ≤ (p.length : Int) by rw [len_eq, List.length_append, List.length_cons]; omega), cond_false,
      show idx (p ++ c' :: s') (p.length : Int) = some c' from (by show (p ++ c' :: s')[p.length]? = some c'; simp), Option.bind_some, f43_lt hc, Option.bind_some, d_false (by omega : ¬ (-1 : Int) = 0), Bool.not_false, cond_true]
    exact Yld.ret rfl
theorem bell_ok : ∀ n : Nat, n ≤ 8 → idx ([1, 1, 2, 5, 15, 52, 203, 877, 4140] : List Int) (n : Int) = some ((gen n 0 []).length : Int)
  | 0, _ => by kernel_rfl
  | 1, _ => by kernel_rfl
  | 2, _ => by kernel_rfl
  | 3, _ => by kernel_rfl
  | 4, _ => by kernel_rfl
  | 5, _ => by kernel_rfl
  | 6, _ => by kernel_rfl
  | 7, _ => by kernel_rfl
  | 8, _ => by kernel_rfl
  | n + 9, h => by omega
theorem bell_le : ∀ n : Nat, n ≤ 8 → (gen n 0 []).length ≤ 4140 := fun n hn => by
  have h := bell_ok n hn
  match n, hn with
  | 0, _ => simp [idx] at h; omega
  | 1, _ => simp [idx] at h; omega
  | 2, _ => simp [idx] at h; omega
  | 3, _ => simp [idx] at h; omega
  | 4, _ => simp [idx] at h; omega
  | 5, _ => simp [idx] at h; omega
  | 6, _ => simp [idx] at h; omega
  | 7, _ => simp [idx] at h; omega
  | 8, _ => simp [idx] at h; omega
theorem law9 (n : Int) (p : List Int) : f9 5000 n p = some true := by
  refine Yld.eq ?_
  unfold f9
  rw [f10_ok, Option.bind_some, Bool.not_true, cond_false]
  by_cases h0 : n < 0
  · have e : f36 5000 n = some ([], 1) := by unfold f36; rw [d_true h0]; rfl
    rw [e, Option.bind_some, d_true h0]
    exact Yld.ret rfl
  by_cases h8 : 8 < n
  · have e : f36 5000 n = some ([], 4) := by unfold f36; rw [d_false h0, cond_false, d_true h8]; rfl
    rw [e, Option.bind_some, d_false h0, d_true h8]
    exact Yld.ret rfl
  obtain ⟨n, rfl⟩ : ∃ k : Nat, n = (k : Int) := ⟨n.toNat, by omega⟩
  have hn : n ≤ 8 := by omega
  have hb := bell_ok n hn
  have hbl := bell_le n hn
  rw [f36_ok hn, Option.bind_some, d_false h0, d_false h8, cond_false, Option.bind_some, cond_false, d_true rfl, Bool.not_true, cond_false]
  rw [chk_true (show inb ([1, 1, 2, 5, 15, 52, 203, 877, 4140] : List Int) (n : Int) = true from inb_lt (by simp; omega)), show idx (1 :: (1 :: (2 :: (5 :: (15 :: (52 :: (203 :: (877 :: (4140 :: ([] : List Int))))))))) ) (n : Int) = some ((gen n 0 []).length : Int) from hb, Option.bind_some, d_true (show len (gen n 0 []) = ((gen n 0 []).length : Int) from rfl), Bool.not_true, Option.bind_some, cond_false]
  generalize hL : gen n 0 [] = L at hb hbl
  have hmem : ∀ q, q ∈ L ↔ q.length = n ∧ okP q = true := fun q => by
    rw [← hL, mem_gen]
    constructor
    · rintro ⟨s, h1, h2, rfl⟩; exact ⟨by simpa using h1, by simpa [okP] using h2⟩
    · rintro ⟨h1, h2⟩; exact ⟨q, h1, h2, by simp⟩
  have hasc : L.Pairwise Bef := by rw [← hL]; exact gen_asc n 0 []
  refine Yld.up (fun k (b : Bool) => b = (L.take k).any fun q => decide (p = q)) L.length ?_ ?_ 5000 0 (Nat.zero_le _) (by omega) _ (by simp)
  · rintro k b w hk rfl hw
    simp only [f9_L11]
    have hq := (hmem _).1 (List.getElem_mem hk)
    rw [dlt_len hk, cond_true, idx_lt hk, Option.bind_some, d_true (show len L[k] = (n : Int) by rw [len_eq, hq.1]), Bool.not_true, cond_false, f15_eq 5000 _ (by omega) (by omega), Option.bind_some, hq.2, Bool.not_true, Option.bind_some, cond_false, wi64_nat (show k < 9223372036854775807 by omega)]
    have key : (cond (decide (0 < (k : Int))) ((idx L (wi64 ((k : Int) - 1))).bind fun x_2 => (f37 5000 x_2 L[k]).bind fun r_3 => some (decide (0 ≤ r_3))) (some false)) = some false := by
      by_cases hk0 : 0 < k
      · rw [d_true (show 0 < (k : Int) by omega), cond_true, wi64_pred hk0 (by omega), idx_lt (show k - 1 < L.length by omega), Option.bind_some]
        have hq2 := (hmem _).1 (List.getElem_mem (show k - 1 < L.length by omega))
        rw [f37_bef (List.pairwise_iff_getElem.1 hasc (k - 1) k (by omega) hk (by omega)) (by omega)]
        rfl
      · rw [d_false (show ¬ 0 < (k : Int) by omega)]; rfl
    rw [key, Option.bind_some, Option.bind_some, cond_false]
    have htk := take_succ hk
    cases hany : (L.take k).any fun q => decide (p = q) with
    | true =>
      rw [cond_true, Option.bind_some]
      refine hw _ ?_
      rw [htk, List.any_append, hany]; rfl
    | false =>
      rw [cond_false]
      by_cases hpl : p.length = n
      · rw [f12_eq 5000 p L[k] (by omega) (by omega), Option.bind_some, Option.bind_some]
        refine hw _ ?_
        rw [htk, List.any_append, hany, List.any_cons]; simp
      · have e : f12 5000 p L[k] = some false := by
          unfold f12
          rw [d_false (show ¬ len p = len L[k] by rw [len_eq, len_eq]; omega)]; rfl
        rw [e, Option.bind_some, Option.bind_some]
        refine hw _ ?_
        rw [htk, List.any_append, hany, List.any_cons, d_false (show ¬ p = L[k] from fun h => by rw [h] at hpl; exact hpl hq.1)]; rfl
  · rintro b w rfl
    simp only [f9_L11]
    rw [dnlt_len, cond_false, List.take_length]
    by_cases hpl : p.length = n
    · rw [d_true (show len p = (n : Int) by rw [len_eq]; omega), cond_true, f15_eq 5000 p (by omega) (by omega), Option.bind_some, Option.bind_some]
      refine Yld.ret (decide_eq_true ?_)
      rw [Bool.eq_iff_iff, List.any_eq_true]
      constructor
      · rintro ⟨q, h1, h2⟩
        rw [decide_eq_true_eq] at h2
        subst h2
        exact ((hmem p).1 h1).2
      · intro h
        exact ⟨p, (hmem p).2 ⟨hpl, h⟩, by simp⟩
    · rw [d_false (show ¬ len p = (n : Int) by rw [len_eq]; omega), cond_false, Option.bind_some]
      refine Yld.ret (decide_eq_true ?_)
      rw [List.any_eq_false]
      intro q hq hp
      rw [decide_eq_true_eq] at hp
      subst hp
      exact hpl ((hmem p).1 hq).1
end Go.Kz
