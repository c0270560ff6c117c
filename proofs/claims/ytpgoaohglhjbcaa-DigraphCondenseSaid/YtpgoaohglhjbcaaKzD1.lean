/-
  Layer 06, plain: graphs, Check, small graphs, Has.
-/
import Derived.Test.YtpgoaohglhjbcaaKzP06b
set_option linter.unusedVariables false
set_option linter.unusedSimpArgs false
namespace Go.Kz
abbrev Gr := Int × (List (List Int) × Unit)

theorem known06 : f13 5000 = some true := by kernel_rfl

theorem bindc {R : Type} (b1 b2 : Bool) (f : Bool → Option R) : (cond b1 (some true) (some b2)).bind f = f (b1 || b2) := by
  cases b1 <;> rfl
theorem bindc' {R : Type} (b1 b2 : Bool) (f : Bool → Option R) : (cond b1 (some b2) (some false)).bind f = f (b1 && b2) := by
  cases b1 <;> rfl
theorem idx_some' {α : Type} {l : List α} {k : Nat} {x : α} (h : l[k]? = some x) : idx l (k : Int) = some x := h
theorem inb_some {α : Type} {l : List α} {k : Nat} {x : α} (h : l[k]? = some x) : inb l (k : Int) = true := inb_lt (List.getElem?_eq_some_iff.1 h).1
/-- Edges as the program has them. -/
def toL (E : List (Nat × Nat)) : List (List Int) := E.map fun e => [(e.1 : Int), (e.2 : Int)]
def grOf (n : Nat) (E : List (Nat × Nat)) : Gr := ((n : Int), (toL E, ()))
theorem toL_len (E : List (Nat × Nat)) : (toL E).length = E.length := by simp [toL]
theorem toL_get {E : List (Nat × Nat)} {k : Nat} (hk : k < E.length) : (toL E)[k]? = some [(E[k].1 : Int), (E[k].2 : Int)] := by
  unfold toL
  rw [List.getElem?_map, List.getElem?_eq_getElem hk]; rfl
/-- The nodes of the edges. -/
def Nod (n : Nat) (E : List (Nat × Nat)) : Prop := ∀ e ∈ E, e.1 < n ∧ e.2 < n

def Fits (g : Gr) : Prop := ∀ e ∈ g.2.1, e.length = 2

theorem f43_eq (g : Gr) (a : Int) : f43 5000 g a = some (decide (0 ≤ a) && decide (a < g.1)) := by
  unfold f43
  rw [bindc']
theorem f52_eq (g : Gr) (a : Int) : f52 5000 g a = some (decide (0 ≤ a) && decide (a < g.1)) := by
  unfold f52
  rw [bindc']

/-- Check in plain words. -/
def edgeB (n : Int) (e : List Int) : Bool := (decide (0 ≤ e.getD 0 0) && decide (e.getD 0 0 < n)) && (decide (0 ≤ e.getD 1 0) && decide (e.getD 1 0 < n))
def chkS (g : Gr) : Int := if g.1 < 0 then 1 else if 4096 < g.1 then 4 else if g.2.1.all (edgeB g.1) then 0 else 3

theorem two_get {e : List Int} (h : e.length = 2) : idx e 0 = some (e.getD 0 0) ∧ idx e 1 = some (e.getD 1 0) ∧ inb e 0 = true ∧ inb e 1 = true := by
  match e, h with
  | [a, b], _ => exact ⟨rfl, rfl, rfl, rfl⟩

theorem f34_eq (g : Gr) (hf : Fits g) (hl : g.2.1.length ≤ 100) : f34 5000 g = some (chkS g) := by
  unfold f34 chkS
  by_cases h0 : g.1 < 0
  · rw [d_true h0, if_pos h0]; rfl
  · rw [d_false h0, if_neg h0]
    simp only [cond_false]
    rw [bindc]
    by_cases h1 : 4096 < g.1
    · rw [d_true h1, if_pos h1]; rfl
    · rw [d_false h1, if_neg h1, d_false (show ¬ 1048576 < len g.2.1 by rw [len_eq]; omega)]
      simp only [Bool.or_self, cond_false]
      rw [iter_allL g.2.1 (edgeB g.1) (some 0) (some 3) (fun k w hk => ?_) (fun w => ?_) 5000 (by omega)]
      · split <;> rfl
      · simp only [f34_L6]
        rw [dlt_len hk, idx_lt hk, wi64_nat (by omega)]
        simp only [cond_true, Option.bind_some]
        obtain ⟨e0, e1, i0, i1⟩ := two_get (hf _ (List.getElem_mem hk))
        rw [chk_true i0, e0, chk_true i1, e1]
        simp only [Option.bind_some]
        rw [f52_eq, f52_eq]
        simp only [Option.bind_some]
        rw [bindc]
        unfold edgeB
        cases (decide (0 ≤ (g.2.1[k]).getD 0 0) && decide ((g.2.1[k]).getD 0 0 < g.1)) <;> cases (decide (0 ≤ (g.2.1[k]).getD 1 0) && decide ((g.2.1[k]).getD 1 0 < g.1)) <;> rfl
      · simp only [f34_L6]
        rw [dnlt_len]; rfl
theorem f22_eq (g : Gr) (hf : Fits g) (hl : g.2.1.length ≤ 100) : f22 5000 g = some (chkS g) := by
  unfold f22 chkS
  by_cases h0 : g.1 < 0
  · rw [d_true h0, if_pos h0]; rfl
  · rw [d_false h0, if_neg h0]
    simp only [cond_false]
    rw [bindc]
    by_cases h1 : 4096 < g.1
    · rw [d_true h1, if_pos h1]; rfl
    · rw [d_false h1, if_neg h1, d_false (show ¬ 1048576 < len g.2.1 by rw [len_eq]; omega)]
      simp only [Bool.or_self, cond_false]
      rw [iter_allL g.2.1 (edgeB g.1) (some 0) (some 3) (fun k w hk => ?_) (fun w => ?_) 5000 (by omega)]
      · split <;> rfl
      · simp only [f22_L6]
        rw [dlt_len hk, idx_lt hk, wi64_nat (by omega)]
        simp only [cond_true, Option.bind_some]
        obtain ⟨e0, e1, i0, i1⟩ := two_get (hf _ (List.getElem_mem hk))
        rw [e0, e1]
        simp only [Option.bind_some]
        rw [f43_eq, f43_eq]
        simp only [Option.bind_some]
        rw [bindc]
        unfold edgeB
        cases (decide (0 ≤ (g.2.1[k]).getD 0 0) && decide ((g.2.1[k]).getD 0 0 < g.1)) <;> cases (decide (0 ≤ (g.2.1[k]).getD 1 0) && decide ((g.2.1[k]).getD 1 0 < g.1)) <;> rfl
      · simp only [f22_L6]
        rw [dnlt_len]; rfl

/-- A valid graph, told in numbers. -/
theorem chk_graph {g : Gr} (hf : Fits g) (h : chkS g = 0) : ∃ n E, g = grOf n E ∧ Nod n E ∧ E.length = g.2.1.length ∧ n ≤ 4096 := by
  unfold chkS at h
  by_cases h0 : g.1 < 0
  · rw [if_pos h0] at h; omega
  · rw [if_neg h0] at h
    by_cases h1 : 4096 < g.1
    · rw [if_pos h1] at h; omega
    · rw [if_neg h1] at h
      cases ha : g.2.1.all (edgeB g.1) with
      | false => rw [ha] at h; simp at h
      | true =>
        have hall := List.all_eq_true.1 ha
        obtain ⟨n, hn⟩ : ∃ n : Nat, g.1 = (n : Int) := ⟨g.1.toNat, by omega⟩
        refine ⟨n, g.2.1.map fun e => ((e.getD 0 0).toNat, (e.getD 1 0).toNat), ?_, ?_, by simp, by omega⟩
        · obtain ⟨g1, gl, u⟩ := g
          simp only at hn hall hf
          subst hn
          unfold grOf toL
          rw [List.map_map]
          congr 2
          conv => lhs; rw [← List.map_id gl]
          refine List.map_congr_left fun e he => ?_
          have h2 := hf e he
          have h3 := hall e he
          simp only [edgeB, Bool.and_eq_true, decide_eq_true_eq] at h3
          match e, h2 with
          | [a, b], _ =>
            simp only [List.getD_cons_zero, List.getD_cons_succ] at h3
            simp only [id, Function.comp, List.getD_cons_zero, List.getD_cons_succ]
            rw [Int.toNat_of_nonneg h3.1.1, Int.toNat_of_nonneg h3.2.1]
        · intro e he
          obtain ⟨x, hx, rfl⟩ := List.mem_map.1 he
          have h3 := hall x hx
          simp only [edgeB, Bool.and_eq_true, decide_eq_true_eq] at h3
          simp only
          omega

/-- A small graph: refused by all, or valid. -/
structure Small (g : Gr) (n : Nat) (E : List (Nat × Nat)) : Prop where
  eq : g = grOf n E
  nod : Nod n E
  ten : n ≤ 10
  forty : E.length ≤ 40
theorem few_cases (g : Gr) (hf : Fits g) : f14 5000 g = some false ∨ (f14 5000 g = some true ∧ f34 5000 g = some (chkS g) ∧ f22 5000 g = some (chkS g) ∧ (chkS g ≠ 0 ∨ (chkS g = 0 ∧ ∃ n E, Small g n E))) := by
  unfold f14
  by_cases hl : g.2.1.length ≤ 40
  · rw [d_true (show len g.2.1 ≤ 40 by rw [len_eq]; omega), f22_eq g hf (by omega), f34_eq g hf (by omega)]
    simp only [cond_true, Option.bind_some]
    rw [bindc]
    by_cases hc : chkS g = 0
    · by_cases hn : g.1 ≤ 10
      · right
        rw [d_true hn]
        refine ⟨rfl, trivial, trivial, .inr ⟨hc, ?_⟩⟩
        obtain ⟨n, E, h1, h2, h3, _⟩ := chk_graph hf hc
        have : g.1 = (n : Int) := by rw [h1]; rfl
        exact ⟨n, E, h1, h2, by omega, by omega⟩
      · left
        rw [d_false hn, d_true hc]
        rfl
    · right
      rw [d_false hc]
      refine ⟨?_, trivial, trivial, .inl hc⟩
      simp
  · left
    rw [d_false (show ¬ len g.2.1 ≤ 40 by rw [len_eq]; omega)]
    rfl

/-- Is there an edge? -/
def hasE (E : List (Nat × Nat)) (a b : Nat) : Bool := E.any fun e => decide (e.1 = a) && decide (e.2 = b)
theorem hasE_iff {E : List (Nat × Nat)} {a b : Nat} : hasE E a b = true ↔ (a, b) ∈ E := by
  unfold hasE
  rw [List.any_eq_true]
  constructor
  · rintro ⟨⟨x, y⟩, h1, h2⟩
    simp only [Bool.and_eq_true, decide_eq_true_eq] at h2
    rw [← h2.1, ← h2.2]; exact h1
  · intro h
    exact ⟨(a, b), h, by simp⟩
theorem f45_ok {n : Nat} {E : List (Nat × Nat)} (hE : E.length ≤ 100) (a b : Nat) : f45 5000 (grOf n E) (a : Int) (b : Int) = some (hasE E a b) := by
  refine Yld.eq ?_
  unfold f45
  refine Yld.upI (fun k => ∀ e ∈ E.take k, ¬ (e.1 = a ∧ e.2 = b)) E.length ?_ ?_ 5000 0 (Nat.zero_le _) (by omega) (by simp)
  · rintro k w hk hpre hw
    simp only [f45_L2]
    have hg := toL_get hk
    rw [d_true (show (k : Int) < len (grOf n E).2.1 by rw [len_eq]; simp only [grOf, toL_len]; omega), wi64_nat (by omega)]
    simp only [cond_true]
    rw [show idx (grOf n E).2.1 (k : Int) = some [(E[k].1 : Int), (E[k].2 : Int)] from hg]
    simp only [Option.bind_some]
    rw [show idx [(E[k].1 : Int), (E[k].2 : Int)] 0 = some (E[k].1 : Int) from rfl, show idx [(E[k].1 : Int), (E[k].2 : Int)] 1 = some (E[k].2 : Int) from rfl]
    simp only [Option.bind_some]
    rw [bindc']
    refine Yld.cond (fun hc => Yld.ret ?_) fun hc => hw fun e he => ?_
    · simp only [Bool.and_eq_true, decide_eq_true_eq] at hc
      have : hasE E a b = true := hasE_iff.2 (by
        have := List.getElem_mem hk
        rw [show E[k] = (a, b) from Prod.ext (by omega) (by omega)] at this
        exact this)
      rw [this]
    · rw [take_succ hk] at he
      rcases List.mem_append.1 he with he | he
      · exact hpre e he
      · simp only [List.mem_singleton] at he
        subst he
        simp only [Bool.and_eq_false_iff, decide_eq_false_iff_not] at hc
        omega
  · rintro w hpre
    simp only [f45_L2]
    rw [d_false (show ¬ (E.length : Int) < len (grOf n E).2.1 by rw [len_eq]; simp only [grOf, toL_len]; omega)]
    simp only [cond_false]
    refine Yld.ret ?_
    rw [List.take_length] at hpre
    cases hh : hasE E a b with
    | false => rfl
    | true => exact absurd ⟨rfl, rfl⟩ (hpre _ (hasE_iff.1 hh))
end Go.Kz
