/-
  Layer 06, plain: simple, turned, next; law 7.
-/
import Derived.Test.YtpgoaohglhjbcaaKzD2
set_option linter.unusedVariables false
set_option linter.unusedSimpArgs false
namespace Go.Kz

theorem fits_gr (n : Nat) (E : List (Nat × Nat)) : Fits (grOf n E) := fun e he => by
  obtain ⟨x, _, rfl⟩ := List.mem_map.1 he
  rfl
theorem chk_ok {n : Nat} {E : List (Nat × Nat)} (h : Nod n E) (hn : n ≤ 10) : chkS (grOf n E) = 0 := by
  unfold chkS
  rw [if_neg (show ¬ (grOf n E).1 < 0 from by show ¬ (n : Int) < 0; omega), if_neg (show ¬ 4096 < (grOf n E).1 from by show ¬ 4096 < (n : Int); omega), if_pos]
  rw [List.all_eq_true]
  intro e he
  obtain ⟨x, hx, rfl⟩ := List.mem_map.1 he
  have := h x hx
  show ((decide ((0 : Int) ≤ (x.1 : Int)) && decide ((x.1 : Int) < (n : Int))) && (decide ((0 : Int) ≤ (x.2 : Int)) && decide ((x.2 : Int) < (n : Int)))) = true
  simp only [Bool.and_eq_true, decide_eq_true_eq]
  omega
theorem f34_0 {n : Nat} {E : List (Nat × Nat)} (h : Nod n E) (hn : n ≤ 10) (hl : E.length ≤ 100) : f34 5000 (grOf n E) = some 0 := by
  rw [f34_eq _ (fits_gr n E) (by simp only [grOf, toL_len]; exact hl), chk_ok h hn]
theorem f22_0 {n : Nat} {E : List (Nat × Nat)} (h : Nod n E) (hn : n ≤ 10) (hl : E.length ≤ 100) : f22 5000 (grOf n E) = some 0 := by
  rw [f22_eq _ (fits_gr n E) (by simp only [grOf, toL_len]; exact hl), chk_ok h hn]
theorem ck0 {R : Type} {m : Nat} (h : m ≤ 5000) (x : Option R) : chk (decide (m ≤ room)) x = x := chk_true (decide_eq_true (by simp only [room]; omega))
theorem ckn {R : Type} {n : Nat} (h : n ≤ 5000) (x : Option R) : chk (((decide ((0 : Int) ≤ (n : Int))) && (decide ((n : Int) ≤ (n : Int)))) && (decide ((n : Int) ≤ ((room : Nat) : Int)))) x = x := chk_true (by have e : ((room : Nat) : Int) = 4294967296 := rfl; rw [e]; simp only [Bool.and_eq_true, decide_eq_true_eq]; omega)

theorem flatMap_len {α β : Type} {f : α → List β} {c : Nat} : {l : List α} → (∀ x ∈ l, (f x).length ≤ c) → (l.flatMap f).length ≤ l.length * c
  | [], _ => Nat.zero_le _
  | x :: l, h => by
    rw [List.flatMap_cons, List.length_append, List.length_cons, Nat.succ_mul]
    have := h x (by simp)
    have := flatMap_len (l := l) fun y hy => h y (List.mem_cons_of_mem _ hy)
    omega
theorem filter_range_len (n : Nat) (p : Nat → Bool) : ((List.range n).filter p).length ≤ n := by
  have := List.length_filter_le p (List.range n)
  rwa [List.length_range] at this
theorem suc_len (n : Nat) (E : List (Nat × Nat)) (a : Nat) : (suc n E a).length ≤ n := filter_range_len n _
theorem smp_len {n : Nat} (hn : n ≤ 10) (E : List (Nat × Nat)) : (smp n E).length ≤ 100 := by
  have := flatMap_len (f := fun a => (suc n E a).map fun b => (a, b)) (c := n) (l := List.range n) fun x _ => by
    rw [List.length_map]; exact suc_len n E x
  rw [List.length_range] at this
  exact Nat.le_trans this (Nat.mul_le_mul hn hn)
theorem smp_nod {n : Nat} {E : List (Nat × Nat)} (h : Nod n E) : Nod n (smp n E) := fun e he => h e ((mem_smp h).1 he)
/-- Turned about. -/
def tr (E : List (Nat × Nat)) : List (Nat × Nat) := E.map fun e => (e.2, e.1)
theorem mem_tr {E : List (Nat × Nat)} {a b : Nat} : (a, b) ∈ tr E ↔ (b, a) ∈ E := by
  unfold tr
  rw [List.mem_map]
  constructor
  · rintro ⟨⟨x, y⟩, h, h2⟩
    simp only [Prod.mk.injEq] at h2
    rw [← h2.1, ← h2.2]; exact h
  · intro h; exact ⟨_, h, rfl⟩
theorem tr_nod {n : Nat} {E : List (Nat × Nat)} (h : Nod n E) : Nod n (tr E) := fun e he => by
  obtain ⟨x, hx, rfl⟩ := List.mem_map.1 he
  exact ⟨(h x hx).2, (h x hx).1⟩
theorem tr_len (E : List (Nat × Nat)) : (tr E).length = E.length := by simp [tr]

theorem range_succ_filter (n : Nat) (p : Nat → Bool) : (List.range (n + 1)).filter p = (List.range n).filter p ++ (if p n then [n] else []) := by
  rw [List.range_succ, List.filter_append]
  congr 1
  by_cases h : p n = true <;> simp [h]

theorem f25_eq {n : Nat} {E : List (Nat × Nat)} (h : Nod n E) (hn : n ≤ 10) (hl : E.length ≤ 100) : f25 5000 (grOf n E) = some (grOf n (smp n E), 0) := by
  refine Yld.eq ?_
  unfold f25
  rw [f22_0 h hn hl]
  simp only [Option.bind_some]
  first | rw [d_true rfl] | rw [d_true trivial]
  simp only [Bool.not_true, cond_false]
  refine Yld.up (fun k (o : List (List Int)) => o = toL ((List.range k).flatMap fun a => (suc n E a).map fun b => (a, b))) n ?_ ?_ 5000 0 (Nat.zero_le _) (by omega) _ rfl
  · rintro k o w hk rfl hw
    simp only [f25_L6]
    rw [d_true (show (k : Int) < (grOf n E).1 from by show (k : Int) < (n : Int); omega), wi64_nat (by omega)]
    simp only [cond_true]
    refine Yld.up (fun j (o : List (List Int)) => o = toL (((List.range k).flatMap fun a => (suc n E a).map fun b => (a, b)) ++ (((List.range j).filter fun b => hasE E k b).map fun b => (k, b)))) n ?_ ?_ 5000 0 (Nat.zero_le _) (by omega) _ (by simp)
    · rintro j o w2 hj rfl hw2
      simp only [f25_L9]
      rw [d_true (show (j : Int) < (grOf n E).1 from by show (j : Int) < (n : Int); omega), wi64_nat (by omega), f45_ok hl]
      simp only [cond_true, Option.bind_some]
      have hlen : (toL (((List.range k).flatMap fun a => (suc n E a).map fun b => (a, b)) ++ (((List.range j).filter fun b => hasE E k b).map fun b => (k, b)))).length ≤ 200 := by
        rw [toL_len, List.length_append, List.length_map]
        have h1 := flatMap_len (f := fun a => (suc n E a).map fun b => (a, b)) (c := n) (l := List.range k) fun x _ => by
          rw [List.length_map]; exact suc_len n E x
        rw [List.length_range] at h1
        have h2 := filter_range_len j fun b => hasE E k b
        have h3 : k * n ≤ 10 * 10 := Nat.mul_le_mul (by omega) hn
        omega
      refine Yld.cond (fun hc => ?_) fun hc => ?_
      · rw [ck0 (by omega)]
        refine hw2 _ ?_
        rw [range_succ_filter, if_pos hc, List.map_append]
        simp [toL]
      · refine hw2 _ ?_
        rw [range_succ_filter, hc]
        simp
    · rintro o w2 rfl
      simp only [f25_L9]
      rw [d_false (show ¬ (n : Int) < (grOf n E).1 from by show ¬ (n : Int) < (n : Int); omega)]
      simp only [cond_false]
      refine hw _ ?_
      rw [List.range_succ, List.flatMap_append]
      simp [suc]
  · rintro o w rfl
    simp only [f25_L6]
    rw [d_false (show ¬ (n : Int) < (grOf n E).1 from by show ¬ (n : Int) < (n : Int); omega)]
    simp only [cond_false]
    exact Yld.ret rfl
theorem f42_eq {n : Nat} {E : List (Nat × Nat)} (hl : E.length ≤ 100) : f42 5000 (grOf n E) = some (toL (tr E)) := by
  refine Yld.eq ?_
  unfold f42
  refine Yld.up (fun k (o : List (List Int)) => o = toL (tr (E.take k))) E.length ?_ ?_ 5000 0 (Nat.zero_le _) (by omega) _ rfl
  · rintro k o w hk rfl hw
    simp only [f42_L3]
    rw [d_true (show (k : Int) < len (grOf n E).2.1 by rw [len_eq]; simp only [grOf, toL_len]; omega), wi64_nat (by omega)]
    simp only [cond_true]
    rw [show idx (grOf n E).2.1 (k : Int) = some [(E[k].1 : Int), (E[k].2 : Int)] from toL_get hk]
    simp only [Option.bind_some]
    rw [chk_true (show inb [(E[k].1 : Int), (E[k].2 : Int)] 1 = true from rfl), show idx [(E[k].1 : Int), (E[k].2 : Int)] 1 = some (E[k].2 : Int) from rfl]
    simp only [Option.bind_some]
    rw [chk_true (show inb [(E[k].1 : Int), (E[k].2 : Int)] 0 = true from rfl), show idx [(E[k].1 : Int), (E[k].2 : Int)] 0 = some (E[k].1 : Int) from rfl]
    simp only [Option.bind_some]
    rw [ck0 (by rw [toL_len, tr_len, List.length_take]; omega)]
    refine hw _ ?_
    rw [take_succ hk]
    unfold tr toL
    rw [List.map_append, List.map_append]
    rfl
  · rintro o w rfl
    simp only [f42_L3]
    rw [d_false (show ¬ (E.length : Int) < len (grOf n E).2.1 by rw [len_eq]; simp only [grOf, toL_len]; omega)]
    simp only [cond_false]
    refine Yld.ret ?_
    rw [List.take_length]
theorem f28_self (g : Gr) (E : List (Nat × Nat)) (hg : g.2.1 = toL E) (hl : E.length ≤ 100) : f28 5000 g g = some true := by
  refine Yld.eq ?_
  unfold f28
  (first | rw [d_true rfl] | rw [d_true trivial]); try (first | rw [d_true rfl] | rw [d_true trivial])
  simp only [Bool.not_true, cond_false, Option.bind_some]
  refine Yld.upI (fun _ => True) E.length ?_ ?_ 5000 0 (Nat.zero_le _) (by omega) trivial
  · rintro k w hk _ hw
    simp only [f28_L4]
    rw [d_true (show (k : Int) < len g.2.1 by rw [hg, len_eq, toL_len]; omega), wi64_nat (by omega), hg, show idx (toL E) (k : Int) = some (prL E[k]) from toL_get hk]
    simp only [cond_true, Option.bind_some]
    rw [eqD_pr, d_true rfl]
    exact hw trivial
  · rintro w _
    simp only [f28_L4]
    rw [d_false (show ¬ (E.length : Int) < len g.2.1 by rw [hg, len_eq, toL_len]; omega)]
    exact Yld.ret rfl
def il (l : List Nat) : List Int := l.map fun x : Nat => (x : Int)
theorem il_len (l : List Nat) : (il l).length = l.length := by simp [il]
theorem il_get {l : List Nat} {k : Nat} (h : k < l.length) : (il l)[k]? = some ((l[k] : Nat) : Int) := by
  unfold il
  rw [List.getElem?_map, List.getElem?_eq_getElem h]; rfl
def nx (n : Nat) (E : List (Nat × Nat)) : List (List Int) := (List.range n).map fun a => il (suc n E a)
theorem nx_len (n : Nat) (E : List (Nat × Nat)) : (nx n E).length = n := by simp [nx]
theorem nx_get {n : Nat} {E : List (Nat × Nat)} {a : Nat} (h : a < n) : (nx n E)[a]? = some (il (suc n E a)) := by
  unfold nx
  rw [List.getElem?_map, List.getElem?_range h]; rfl
theorem asc_eq {l m : List Nat} (hl : l.Pairwise (· < ·)) (hm : m.Pairwise (· < ·)) (h : ∀ x, x ∈ l ↔ x ∈ m) : l = m := by
  have nd : ∀ {k : List Nat}, k.Pairwise (· < ·) → k.Nodup := fun hk => List.Pairwise.imp (fun {a b} h e => by subst e; exact Nat.lt_irrefl _ h) hk
  have hp : l.Perm m := by
    rw [List.perm_ext_iff_of_nodup (nd hl) (nd hm)]
    exact h
  exact List.Perm.eq_of_pairwise (le := fun x y => x < y) (fun a b _ _ h1 h2 => absurd h1 (by omega)) hl hm hp
theorem smp_row {n : Nat} {E : List (Nat × Nat)} (h : Nod n E) (hn : n ≤ 10) {a : Nat} (ha : a < n) : ((smp n E).filter fun e => decide (e.1 = a)).map Prod.snd = suc n E a := by
  refine asc_eq ?_ (suc_asc n E a) fun b => ?_
  · rw [List.pairwise_map]
    refine List.Pairwise.imp_of_mem (fun {x y} hx hy hxy => ?_) ((smp_sa hn E).filter _)
    have h1 := (List.mem_filter.1 hx).2
    have h2 := (List.mem_filter.1 hy).2
    rw [decide_eq_true_eq] at h1 h2
    simp only [ky] at hxy
    omega
  · rw [List.mem_map, mem_suc]
    constructor
    · rintro ⟨⟨x, y⟩, hx, rfl⟩
      obtain ⟨h1, h2⟩ := List.mem_filter.1 hx
      rw [decide_eq_true_eq] at h2
      simp only at h2
      subst h2
      have := (mem_smp h).1 h1
      exact ⟨(h _ this).2, this⟩
    · rintro ⟨h1, h2⟩
      exact ⟨(a, b), List.mem_filter.2 ⟨(mem_smp h).2 h2, by simp⟩, rfl⟩
def rw_ (S : List (Nat × Nat)) (a : Nat) : List Int := il ((S.filter fun e => decide (e.1 = a)).map Prod.snd)
theorem f41_eq {n : Nat} {E : List (Nat × Nat)} (h : Nod n E) (hn : n ≤ 10) (hl : E.length ≤ 100) : f41 5000 (n : Int) (toL E) = some (nx n E) := by
  refine Yld.eq ?_
  unfold f41
  rw [ckn (by omega), f50_eq h hn hl, Option.bind_some]
  have hS := smp_len hn E
  have hN := smp_nod h
  refine Yld.up (fun k (o : List (List Int)) => o = (List.range n).map fun a => rw_ ((smp n E).take k) a) (smp n E).length ?_ ?_ 5000 0 (Nat.zero_le _) (by omega) _ ?_
  · rintro k o w hk rfl hw
    simp only [f41_L3]
    rw [d_true (show (k : Int) < len (toL (smp n E)) by rw [len_eq, toL_len]; omega), wi64_nat (by omega), chk_true (inb_lt (by rw [toL_len]; exact hk)), show idx (toL (smp n E)) (k : Int) = some [((smp n E)[k].1 : Int), ((smp n E)[k].2 : Int)] from toL_get hk]
    simp only [cond_true, Option.bind_some]
    generalize he : (smp n E)[k] = e
    have hen := hN _ (List.getElem_mem hk)
    rw [he] at hen
    have hg : ((List.range n).map fun a => rw_ ((smp n E).take k) a)[e.1]? = some (rw_ ((smp n E).take k) e.1) := by
      rw [List.getElem?_map, List.getElem?_range hen.1]; rfl
    rw [chk_true (show inb [(e.1 : Int), (e.2 : Int)] 0 = true from rfl), chk_true (show inb [(e.1 : Int), (e.2 : Int)] 0 = true from rfl), show idx [(e.1 : Int), (e.2 : Int)] 0 = some (e.1 : Int) from rfl]
    simp only [Option.bind_some]
    rw [chk_true (inb_some hg), idx_some' hg]
    simp only [Option.bind_some]
    rw [chk_true (show inb [(e.1 : Int), (e.2 : Int)] 1 = true from rfl), show idx [(e.1 : Int), (e.2 : Int)] 1 = some (e.2 : Int) from rfl]
    simp only [Option.bind_some]
    rw [ck0 (by
      unfold rw_
      rw [il_len, List.length_map]
      have := List.length_filter_le (fun e_1 : Nat × Nat => decide (e_1.1 = e.1)) ((smp n E).take k)
      rw [List.length_take] at this
      omega), chk_true (inb_some hg), chk_true (by simp [pathEq]), setI_nat]
    refine hw _ ?_
    apply List.ext_getElem?
    intro i
    by_cases hi : i < n
    · rw [List.getElem?_map, List.getElem?_range hi]
      simp only [Option.map_some]
      by_cases hie : i = e.1
      · subst hie
        rw [List.getElem?_set_self (by simp; omega), take_succ hk, he]
        simp [rw_, il, List.filter_append]
      · rw [List.getElem?_set_ne (by omega), List.getElem?_map, List.getElem?_range hi, take_succ hk, he]
        simp [rw_, il, List.filter_append, show ¬ e.1 = i from by omega]
    · rw [List.getElem?_eq_none (by simp; omega), List.getElem?_eq_none (by simp; omega)]
  · rintro o w rfl
    simp only [f41_L3]
    rw [d_false (show ¬ ((smp n E).length : Int) < len (toL (smp n E)) by rw [len_eq, toL_len]; omega)]
    simp only [cond_false]
    refine Yld.ret ?_
    rw [List.take_length]
    unfold nx
    refine List.map_congr_left fun a ha => ?_
    unfold rw_
    rw [smp_row h hn (List.mem_range.1 ha)]
  · apply List.ext_getElem?
    intro i
    by_cases hi : i < n
    · rw [List.getElem?_map, List.getElem?_range hi, List.getElem?_replicate_of_lt (by simpa using hi)]
      simp only [Option.map_some, List.take_zero, rw_, List.filter_nil, List.map_nil, il]
    · rw [List.getElem?_eq_none (by simp; omega), List.getElem?_eq_none (by simp; omega)]
end Go.Kz
