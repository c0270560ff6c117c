/-
  Regions in the text's order.
-/
import Derived.Test.YtcnmiohlpaommaaKzAA
set_option linter.unusedVariables false
set_option linter.unusedSimpArgs false
namespace Go.Kz
variable {R : Type}

theorem numbered_fst {α : Type} : (l : List α) → (i : Nat) → (numbered i l).map Prod.fst = List.range' i l.length
  | [], _ => rfl
  | x :: l, i => by simp only [numbered, List.map_cons, numbered_fst l, List.length_cons, List.range'_succ]
theorem numbered_mem {α : Type} : {l : List α} → {i : Nat} → {x : Nat × α} → x ∈ numbered i l → i ≤ x.1 ∧ l[x.1 - i]? = some x.2
  | [], _, _, h => by simp [numbered] at h
  | y :: l, i, x, h => by
    simp only [numbered, List.mem_cons] at h
    rcases h with rfl | h
    · simp
    · obtain ⟨h1, h2⟩ := numbered_mem h
      refine ⟨by omega, ?_⟩
      have e : x.1 - i = (x.1 - (i + 1)) + 1 := by omega
      rw [e]; simpa using h2
theorem numbered_nodup {α : Type} (l : List α) (i : Nat) : ((numbered i l).map Prod.fst).Nodup := by
  rw [numbered_fst]; exact List.nodup_range'
theorem nthL_get {α : Type} : (l : List α) → (i : Nat) → nthL l i = l[i]?
  | [], i => by cases i <;> rfl
  | x :: l, 0 => rfl
  | x :: l, i + 1 => by simp only [nthL, nthL_get l i]; simp

section
variable {P : Program} {ops : Array Oper} {Q : Exit → Act → World → Prop}

theorem dstOf_eq (j : Nat) : dstOf ops.toList j = (ops[j]?).bind (·.dst) := by
  simp only [dstOf, nthL_get, Array.getElem?_toList]

theorem Yield_wp {o : Oper} {a : Act} {w : World} {v : Value} {K : Act → World → Prop} (h : (execOp a.eval o).run P w = .ok (.value v) w) (hk : K (a.put o.dst v) w) : o.wp P a w K Q := by
  unfold Oper.wp; rw [h, Oper.upon_value]; exact hk

theorem wpL_ops : (L : List (Nat × Oper)) → (∀ x ∈ L, ops[x.1]? = some x.2) → (a : Act) → (w : World) → wpL P ops Q (Q .normal) L a w → wpOps P ops Q (L.map Prod.fst) a w
  | [], _, a, w, h => h
  | (i, o) :: L, hL, a, w, h => by
    have ih := wpL_ops L (fun x hx => hL x (by simp [hx]))
    have ho : ops[i]? = some o := hL (i, o) (by simp)
    simp only [List.map_cons, wpOps, ho]
    have h' : LStep P ops Q o (wpL P ops Q (Q .normal) L) a w := h
    unfold LStep at h'
    split
    · rename_i hw
      rw [if_pos hw] at h'
      left
      rcases h' with ⟨_, v, h1, h2⟩ | ⟨_, h1⟩
      · exact Yield_wp (h1 w (Agree.refl w)) (ih _ _ h2)
      · exact Oper.wp_mono (fun a' w' hh => ih _ _ hh.2) h1
    · rename_i hw
      rw [if_neg hw] at h'
      exact ih _ _ h'

theorem numbered_get (x : Nat × Oper) (h : x ∈ numbered 0 ops.toList) : ops[x.1]? = some x.2 := by
  have := (numbered_mem h).2
  rw [← Array.getElem?_toList]; simpa using this
theorem numbered_lt {x : Nat × Oper} (h : x ∈ numbered 0 ops.toList) : x.1 < ops.toList.length := by
  have := (numbered_mem h).2
  rw [Nat.sub_zero] at this
  exact (List.getElem?_eq_some_iff.1 this).1

theorem wp_text {id : Nat} {a : Act} {w : World} (h : wpL P ops Q (Q .normal) (numbered 0 ops.toList) a w) : (Code.region id ops false).wp P Q a w := by
  refine wp_region ?_
  have := wpL_ops _ numbered_get a w h
  rw [numbered_fst, ← List.range_eq_range'] at this
  simpa using this
end

/-- All numbers from the next one on are free. -/
def FreshUp (g : Ghost) (σ : St) : Prop := ∀ m, σ.next ≤ m → Fresh g σ m

section
variable {P : Program} {ops : Array Oper} {c : Ctx}

theorem list_ok {fuel : Nat} {L : List (Nat × Oper)} (hc : CtxOK P c) {Q : Exit → Act → World → Prop} {σ : St} {g : Ghost} {a : Act} {w : World} {k : St → Option R} {r : R} {K : Act → World → Prop}
    (hL : ∀ x ∈ L, x.1 < ops.toList.length) (hnd : (L.map Prod.fst).Nodup)
    (h : opsK c σ.next (dstOf ops.toList) fuel R [] [] L σ (fun σ' => k { σ' with next := σ.next + 8 * ops.toList.length }) = some r) (hst : StOK c.ntmps g w a σ) (hf : FreshUp g σ)
    (hK : ∀ σ' g' a' w', k σ' = some r → StOK c.ntmps g' w' a' σ' → Ext w g w' g' → FreshUp g' σ' → K a' w') : wpL P ops Q K L a w := by
  refine opsK_ok hc dstOf_eq fuel h hst (by intro s hs; simp at hs) hnd (fun x _ m h1 _ => hf m (by omega)) (fun σ' g' a' w' hk hst' hext hf' hn => ?_)
  refine hK _ g' a' w' hk ⟨hst'.slots, hst'.heap, hst'.size, hst'.defers⟩ hext (fun m hm => ?_)
  have hm' : σ.next + 8 * ops.toList.length ≤ m := hm
  have := hf' m (fun x hx => .inr (by have := hL x hx; omega)) (hf m (by omega))
  exact ⟨this.objs, this.row, this.box, this.slots, this.cells⟩
end

end Go.Kz
