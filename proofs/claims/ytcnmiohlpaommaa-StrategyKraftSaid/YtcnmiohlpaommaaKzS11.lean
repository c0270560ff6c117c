/-
  The layer strategy: the sum over the classes of 1 / Spent is 1; plain laws.
-/
import Derived.Test.YtcnmiohlpaommaaKzS7
import Derived.Test.YtcnmiohlpaommaaKzS8
set_option linter.unusedVariables false
set_option linter.unusedSimpArgs false
namespace Go.Kz

/-! ## Sums over lists -/
section
variable {α β : Type}
def sumM (f : α → Nat) : List α → Nat
  | [] => 0
  | x :: l => f x + sumM f l
theorem sumM_append (f : α → Nat) : (l m : List α) → sumM f (l ++ m) = sumM f l + sumM f m
  | [], m => by simp [sumM]
  | x :: l, m => by simp only [List.cons_append, sumM, sumM_append f l m]; omega
theorem sumM_perm (f : α → Nat) {l m : List α} (h : l.Perm m) : sumM f l = sumM f m := by
  induction h with
  | nil => rfl
  | cons x _ ih => simp only [sumM, ih]
  | swap x y l => simp only [sumM]; omega
  | trans _ _ h1 h2 => exact h1.trans h2
theorem sumM_map (f : β → Nat) (g : α → β) : (l : List α) → sumM f (l.map g) = sumM (fun x => f (g x)) l
  | [] => rfl
  | x :: l => by simp only [List.map_cons, sumM, sumM_map f g l]
theorem sumM_flat (f : β → Nat) (g : α → List β) : (l : List α) → sumM f (l.flatMap g) = sumM (fun x => sumM f (g x)) l
  | [] => rfl
  | x :: l => by simp only [List.flatMap_cons, sumM_append, sumM, sumM_flat f g l]
theorem sumM_congr {f g : α → Nat} : {l : List α} → (∀ x ∈ l, f x = g x) → sumM f l = sumM g l
  | [], _ => rfl
  | x :: l, h => by simp only [sumM, h x (by simp), sumM_congr (l := l) (fun y hy => h y (by simp [hy]))]
theorem sumM_const {f : α → Nat} {c : Nat} : {l : List α} → (∀ x ∈ l, f x = c) → sumM f l = l.length * c
  | [], _ => by simp [sumM]
  | x :: l, h => by
    simp only [sumM, h x (by simp), sumM_const (l := l) (fun y hy => h y (by simp [hy])), List.length_cons]
    rw [Nat.add_mul]; omega
theorem sumM_mono {f g : α → Nat} : {l : List α} → (∀ x ∈ l, f x ≤ g x) → sumM f l ≤ sumM g l
  | [], _ => by simp [sumM]
  | x :: l, h => by
    have h1 := h x (by simp)
    have h2 := sumM_mono (l := l) (fun y hy => h y (by simp [hy]))
    simp only [sumM]; omega
theorem sumM_mul (f : α → Nat) (c : Nat) : (l : List α) → sumM (fun x => c * f x) l = c * sumM f l
  | [] => rfl
  | x :: l => by simp only [sumM, sumM_mul f c l, Nat.mul_add]
end
def prodM {α : Type} (f : α → Nat) : List α → Nat
  | [] => 1
  | x :: l => f x * prodM f l
theorem dvd_prodM {α : Type} {f : α → Nat} {x : α} : {l : List α} → x ∈ l → f x ∣ prodM f l
  | y :: l, h => by
    rcases List.mem_cons.1 h with rfl | h
    · exact Nat.dvd_mul_right _ _
    · exact Nat.dvd_trans (dvd_prodM h) (Nat.dvd_mul_left _ _)
theorem prodM_pos {α : Type} {f : α → Nat} : {l : List α} → (∀ x ∈ l, 1 ≤ f x) → 1 ≤ prodM f l
  | [], _ => Nat.le_refl _
  | x :: l, h => Nat.mul_pos (h x (by simp)) (prodM_pos (l := l) fun y hy => h y (by simp [hy]))

/-! ## The tree -/
theorem spA_mul (m : Menu) : (t pre : List Ans) → (P : Nat) → spA m pre t P = P * spA m pre t 1
  | [], _, P => by simp [spA]
  | a :: t, pre, P => by
    simp only [spA]
    rw [spA_mul m t _ (P * _), spA_mul m t _ (1 * _), Nat.one_mul, Nat.mul_assoc]

theorem runN_node {m : Menu} {s : List Choice} {j : Nat} (hj : j < s.length) (y n : Nat) :
    runN m s y (n + 1) (j : Int) = (s[j].1, (viewQ m s[j].1).getD y 0, ()) :: runN m s y n (s[j].2.1.getD ((viewQ m s[j].1).getD y 0).toNat (-1)) := by
  have hg : s.getD j (0, [], ()) = s[j] := by rw [List.getD_eq_getElem?_getD, List.getElem?_eq_getElem hj]; rfl
  have hne : ¬ ((j : Int) = -1 ∨ len s ≤ (j : Int)) := by simp only [len]; omega
  simp only [runN, if_neg hne, Int.toNat_natCast, hg]
  rfl

def tails (m : Menu) (s : List Choice) (pre : List Ans) (n : Nat) (i : Int) : List (List Ans) := nubA [] ((agL m pre).map fun y => runN m s y n i)
theorem tails_mem {m : Menu} {s : List Choice} {pre : List Ans} {n : Nat} {i : Int} {t : List Ans} : t ∈ tails m s pre n i ↔ ∃ y ∈ agL m pre, runN m s y n i = t := by
  simp [tails, nubA_mem]
theorem tails_nodup (m : Menu) (s : List Choice) (pre : List Ans) (n : Nat) (i : Int) : (tails m s pre n i).Nodup := nubA_nodup [] _ (by simp)

theorem tails_stop {m : Menu} {s : List Choice} {pre : List Ans} {n : Nat} {i : Int} (hne : agL m pre ≠ []) (h : ∀ y, runN m s y n i = []) : tails m s pre n i = [[]] := by
  have h1 : ∀ t, t ∈ tails m s pre n i ↔ t ∈ [([] : List Ans)] := by
    intro t
    rw [tails_mem]
    simp only [h, List.mem_singleton]
    constructor
    · rintro ⟨y, _, rfl⟩; rfl
    · rintro rfl
      obtain ⟨y, hy⟩ := List.exists_mem_of_ne_nil _ hne
      exact ⟨y, hy, rfl⟩
  have hp := (List.perm_ext_iff_of_nodup (tails_nodup m s pre n i) (by simp)).2 h1
  exact List.perm_singleton.1 hp

theorem kraft {m : Menu} {s : List Choice} (h : Right m s) : (n : Nat) → (i : Int) → (pre : List Ans) → (U : Nat) → (i = -1 ∨ 0 ≤ i) → agL m pre ≠ [] →
    (∀ t ∈ tails m s pre n i, spA m pre t 1 ∣ U) → sumM (fun t => U / spA m pre t 1) (tails m s pre n i) = U
  | 0, i, pre, U, _, hne, _ => by
    rw [tails_stop hne (fun y => rfl)]
    simp [sumM, spA]
  | n + 1, i, pre, U, hi, hne, hd => by
    by_cases hst : i = -1 ∨ len s ≤ i
    · rw [tails_stop hne (fun y => runN_stop hst (n + 1))]
      simp [sumM, spA]
    · have h0 : 0 ≤ i := by omega
      obtain ⟨j, rfl⟩ := Int.eq_ofNat_of_zero_le h0
      have hj : j < s.length := by simp only [len] at hst; omega
      obtain ⟨n0, n1, n2, n3⟩ := node_none (h.node j hj)
      generalize hc : s[j] = c at n0 n1 n2 n3
      have hq : askOK m c.1 = true := by simp [askOK, n0, n1]
      obtain ⟨v1, v2, v3⟩ := view_at h.menu hq
      let nx : Int → Int := fun cl => c.2.1.getD cl.toNat (-1)
      have hnx : ∀ cl, nx cl = -1 ∨ 0 ≤ nx cl := by
        intro cl
        show c.2.1.getD cl.toNat (-1) = -1 ∨ 0 ≤ c.2.1.getD cl.toNat (-1)
        by_cases hl : cl.toNat < c.2.1.length
        · rw [List.getD_eq_getElem?_getD, List.getElem?_eq_getElem hl]
          have := n3 _ (List.getElem_mem hl)
          simp only [Option.getD_some]; omega
        · rw [List.getD_eq_getElem?_getD, List.getElem?_eq_none (by omega)]; left; rfl
      have hrun : ∀ y, runN m s y (n + 1) (j : Int) = (c.1, (viewQ m c.1).getD y 0, ()) :: runN m s y n (nx ((viewQ m c.1).getD y 0)) := by
        intro y
        rw [runN_node hj y n, hc]
      generalize hC : nubA [] (clsL m pre c.1) = C
      have hCm : ∀ cl, cl ∈ C ↔ ∃ y ∈ agL m pre, (viewQ m c.1).getD y 0 = cl := by
        intro cl
        rw [← hC, nubA_mem]
        simp [clsL]
      have hCn : C.Nodup := by rw [← hC]; exact nubA_nodup [] _ (by simp)
      have hCl : C.length = cntQ m pre c.1 := by rw [← hC]; rfl
      -- by the answers
      have hperm : (tails m s pre (n + 1) (j : Int)).Perm (C.flatMap fun cl => (tails m s (pre ++ [(c.1, cl, ())]) n (nx cl)).map fun t => (c.1, cl, ()) :: t) := by
        refine (List.perm_ext_iff_of_nodup (tails_nodup _ _ _ _ _) ?_).2 ?_
        · unfold List.Nodup
          rw [List.pairwise_flatMap]
          refine ⟨fun cl _ => ?_, ?_⟩
          · refine List.Pairwise.map _ (R := fun a b => a ≠ b) (fun a b hab he => hab (by simpa using he)) (tails_nodup _ _ _ _ _)
          · refine List.Pairwise.imp (fun {a b} hab => ?_) hCn
            intro x hx y hy he
            obtain ⟨t1, _, rfl⟩ := List.mem_map.1 hx
            obtain ⟨t2, _, rfl⟩ := List.mem_map.1 hy
            simp only [List.cons.injEq, Prod.mk.injEq] at he
            exact hab he.1.2.1
        · intro t
          rw [tails_mem]
          simp only [List.mem_flatMap, List.mem_map, tails_mem, hCm, agL_snoc, List.mem_filter, decide_eq_true_eq]
          constructor
          · rintro ⟨y, hy, rfl⟩
            exact ⟨(viewQ m c.1).getD y 0, ⟨y, hy, rfl⟩, _, ⟨y, ⟨hy, rfl⟩, rfl⟩, (hrun y).symm⟩
          · rintro ⟨cl, _, t, ⟨y, ⟨hy, hcl⟩, rfl⟩, rfl⟩
            refine ⟨y, hy, ?_⟩
            rw [hrun y, hcl]
      rw [sumM_perm _ hperm, sumM_flat]
      have hcpos : 1 ≤ cntQ m pre c.1 := by
        obtain ⟨y, hy⟩ := List.exists_mem_of_ne_nil _ hne
        have : (viewQ m c.1).getD y 0 ∈ C := (hCm _).2 ⟨y, hy, rfl⟩
        rw [← hCl]
        exact List.length_pos_of_mem this
      have hspA : ∀ cl t, spA m pre ((c.1, cl, ()) :: t) 1 = cntQ m pre c.1 * spA m (pre ++ [(c.1, cl, ())]) t 1 := by
        intro cl t
        simp only [spA]
        rw [spA_mul, Nat.one_mul]
      have hdv : ∀ cl ∈ C, ∀ t ∈ tails m s (pre ++ [(c.1, cl, ())]) n (nx cl), cntQ m pre c.1 * spA m (pre ++ [(c.1, cl, ())]) t 1 ∣ U := by
        intro cl hcl t ht
        rw [← hspA]
        refine hd _ (hperm.mem_iff.2 ?_)
        exact List.mem_flatMap.2 ⟨cl, hcl, List.mem_map.2 ⟨t, ht, rfl⟩⟩
      have hne2 : ∀ cl ∈ C, agL m (pre ++ [(c.1, cl, ())]) ≠ [] := by
        intro cl hcl
        obtain ⟨y, hy, he⟩ := (hCm cl).1 hcl
        apply List.ne_nil_of_mem (a := y)
        rw [agL_snoc]
        exact List.mem_filter.2 ⟨hy, by simpa using he⟩
      have hcU : cntQ m pre c.1 ∣ U := by
        obtain ⟨y, hy⟩ := List.exists_mem_of_ne_nil _ hne
        have hcl : (viewQ m c.1).getD y 0 ∈ C := (hCm _).2 ⟨y, hy, rfl⟩
        obtain ⟨z, hz⟩ := List.exists_mem_of_ne_nil _ (hne2 _ hcl)
        exact Nat.dvd_trans (Nat.dvd_mul_right _ _) (hdv _ hcl _ (tails_mem.2 ⟨z, hz, rfl⟩))
      have hone : ∀ cl ∈ C, sumM (fun t => U / spA m pre t 1) ((tails m s (pre ++ [(c.1, cl, ())]) n (nx cl)).map fun t => (c.1, cl, ()) :: t) = U / cntQ m pre c.1 := by
        intro cl hcl
        rw [sumM_map]
        have := kraft h n (nx cl) (pre ++ [(c.1, cl, ())]) (U / cntQ m pre c.1) (hnx cl) (hne2 cl hcl) (fun t ht => by
          have := hdv cl hcl t ht
          exact Nat.dvd_div_of_mul_dvd this)
        rw [← this]
        refine sumM_congr fun t ht => ?_
        rw [hspA, Nat.div_div_eq_div_mul]
      rw [sumM_const hone, hCl]
      exact Nat.mul_div_cancel' hcU

/-- The different transcripts. -/
def kinds (m : Menu) (s : List Choice) : List (List Ans) := nubA [] (allL m s)
theorem kinds_is (m : Menu) (s : List Choice) : kinds m s = tails m s [] (s.length + 1) 0 := by
  unfold kinds tails
  rw [agL_nil]
  rfl
theorem kraft_all {m : Menu} {s : List Choice} (h : Right m s) {D : Nat} (hd : ∀ t ∈ kinds m s, spE m t ∣ D) : sumM (fun t => D / spE m t) (kinds m s) = D := by
  rw [kinds_is] at hd ⊢
  refine kraft h _ 0 [] D (.inr (by omega)) ?_ hd
  rw [agL_nil]
  have := (menuOK_iff.1 h.menu).1
  intro he
  have := congrArg List.length he
  simp at this
  omega

theorem top_ofL {α : Type} [DecidableEq α] (l : List α) : top 0 (ofL l) = ((nubA [] l).length : Int) := by
  induction l using rev_ind with
  | h0 => simp [ofL, clsA, top, nubA]
  | h1 q x ih =>
    rw [ofL_snoc, top_snoc, ih, nub_snoc]
    split
    · rename_i hm
      have := posOf_lt (x := x) (l := nubA [] q) (by rw [nubA_mem]; right; exact hm)
      omega
    · simp; omega

theorem spA_pos {m : Menu} {x : Nat} (hx : x < m.1.toNat) : (t pre : List Ans) → (P : Nat) → 1 ≤ P → TrOK m x (pre ++ t) → 1 ≤ spA m pre t P
  | [], _, P, hP, _ => hP
  | a :: t, pre, P, hP, h => by
    simp only [spA]
    refine spA_pos hx t (pre ++ [a]) _ (Nat.mul_pos hP (cntQ_pos (fun b hb => h b (by simp [hb])) hx _)) ?_
    simpa using h
theorem spE_pos {m : Menu} {s : List Choice} (h : Right m s) {x : Nat} (hx : (x : Int) < m.1) : 1 ≤ spE m (runL m s x) := by
  refine spA_pos (x := x) (by omega) _ [] 1 (by omega) ?_
  simpa using runL_tr h hx

end Go.Kz
