/-
  Regions: the operations of a list, one by one.
-/
import Derived.Test.YtakifbcgkbfclaaKzY
set_option linter.unusedVariables false
set_option linter.unusedSimpArgs false
namespace Go.Kz
variable {R : Type}

section
variable {P : Program} {ops : Array Oper} {Q : Exit → Act → World → Prop}

/-- One operation: carried out, or passed over. -/
def LStep (P : Program) (ops : Array Oper) (Q : Exit → Act → World → Prop) (o : Oper) (K : Act → World → Prop) (a : Act) (w : World) : Prop :=
  if Region.wanted o (yielded ops a.tmps) = true then
    (isY o = true ∧ ∃ v, (∀ w', AgP o w w' → (execOp a.eval o).run P w' = .ok (.value v) w') ∧ K (a.put o.dst v) w) ∨
    (isY o = false ∧ o.wp P a w (fun a' w' => (isM o = false → Agree w w') ∧ K a' w') Q)
  else K (a.put o.dst undef) w

def wpL (P : Program) (ops : Array Oper) (Q : Exit → Act → World → Prop) (K : Act → World → Prop) : List (Nat × Oper) → Act → World → Prop
  | [], a, w => K a w
  | (_, o) :: l, a, w => LStep P ops Q o (wpL P ops Q K l) a w

theorem wpL_append {K : Act → World → Prop} : (l m : List (Nat × Oper)) → wpL P ops Q K (l ++ m) = wpL P ops Q (wpL P ops Q K m) l
  | [], m => rfl
  | (i, o) :: l, m => by
    funext a w
    simp only [List.cons_append, wpL, wpL_append l m]

/-- Slots that are not written stand. -/
def SlotsKept (l : List (Nat × Oper)) (a a' : Act) : Prop := ∀ i, (∀ x ∈ l, x.2.dst ≠ some i) → a'.tmps[i]? = a.tmps[i]?

theorem Oper.wp_put {o : Oper} {a : Act} {w : World} {K : Act → World → Prop} (h : o.wp P a w K Q) :
    o.wp P a w (fun a' w' => (∀ i, o.dst ≠ some i → a'.tmps[i]? = a.tmps[i]?) ∧ K a' w') Q := by
  have hput : ∀ (b : Act) (v : Value), b.tmps = a.tmps → ∀ i, o.dst ≠ some i → (b.put o.dst v).tmps[i]? = a.tmps[i]? := by
    intro b v hb i hi
    rw [put_get, if_neg (fun h => hi h.1), hb]
  unfold Oper.wp at *
  generalize (execOp a.eval o).run P w = x at *
  cases x with
  | ok n w' =>
    cases n <;> simp only [Oper.upon] at h ⊢
    case value v => exact ⟨hput a v rfl, h⟩
    case skip => exact ⟨hput a _ rfl, h⟩
    case defer d => exact ⟨hput _ _ rfl, h⟩
    case enter f args =>
      refine Calls.mono h fun e w'' he => ?_
      cases e with
      | returned v => exact ⟨hput a v rfl, he⟩
      | panicked c => exact he
      | outgrown => exact he
    case row row args => exact Rows.mono h fun v w'' he => ⟨hput a v rfl, he⟩
  | halt x w' => cases x <;> simp only [Oper.upon] at h ⊢ <;> exact h

theorem LStep.frame {o : Oper} {K : Act → World → Prop} {a : Act} {w : World} (h : LStep P ops Q o K a w) :
    LStep P ops Q o (fun a' w' => ((isM o = false → Agree w w') ∧ ∀ i, o.dst ≠ some i → a'.tmps[i]? = a.tmps[i]?) ∧ K a' w') a w := by
  have hput : ∀ v, ∀ i, o.dst ≠ some i → (a.put o.dst v).tmps[i]? = a.tmps[i]? := by
    intro v i hi
    rw [put_get, if_neg (fun h => hi h.1)]
  unfold LStep at *
  split
  · rename_i hw
    rw [if_pos hw] at h
    rcases h with ⟨hy, v, h1, h2⟩ | ⟨hy, h1⟩
    · exact .inl ⟨hy, v, h1, ⟨fun _ => Agree.refl w, hput v⟩, h2⟩
    · exact .inr ⟨hy, Oper.wp_mono (fun a' w' hh => ⟨hh.2.1, ⟨hh.2.1, hh.1⟩, hh.2.2⟩) (Oper.wp_put h1)⟩
  · rename_i hw
    rw [if_neg hw] at h
    exact ⟨⟨fun _ => Agree.refl w, hput _⟩, h⟩
theorem LStep.mono {o : Oper} {K K' : Act → World → Prop} {a : Act} {w : World} (hk : ∀ a w, K a w → K' a w) (h : LStep P ops Q o K a w) : LStep P ops Q o K' a w := by
  unfold LStep at *
  split
  · rename_i hw
    rw [if_pos hw] at h
    rcases h with ⟨hy, v, h1, h2⟩ | ⟨hy, h1⟩
    · exact .inl ⟨hy, v, h1, hk _ _ h2⟩
    · exact .inr ⟨hy, Oper.wp_mono (fun a' w' hh => ⟨hh.1, hk _ _ hh.2⟩) h1⟩
  · rename_i hw
    rw [if_neg hw] at h
    exact hk _ _ h

theorem Agree.size {w w' : World} (h : Agree w w') : w.heap.size ≤ w'.heap.size := by
  rcases Nat.eq_zero_or_pos w.heap.size with h0 | h0
  · omega
  · have := h (w.heap.size - 1) (by omega)
    have h2 : w.heap[w.heap.size - 1]? ≠ none := by simp; omega
    rw [← this] at h2
    simp at h2; omega
theorem Agree.trans {w w' w'' : World} (h : Agree w w') (k : Agree w' w'') : Agree w w'' := fun b hb => (k b (by have := h.size; omega)).trans (h b hb)

theorem wpL_frame {K : Act → World → Prop} : (l : List (Nat × Oper)) → noM l = true → (a : Act) → (w : World) → wpL P ops Q K l a w →
    wpL P ops Q (fun a' w' => (Agree w w' ∧ SlotsKept l a a') ∧ K a' w') l a w
  | [], _, a, w, h => ⟨⟨Agree.refl w, fun _ _ => rfl⟩, h⟩
  | (i, o) :: l, hm, a, w, h => by
    simp only [noM, Bool.and_eq_true, Bool.not_eq_true'] at hm
    have h1 := LStep.frame (show LStep P ops Q o (wpL P ops Q K l) a w from h)
    refine LStep.mono (fun a1 w1 hh => ?_) h1
    obtain ⟨⟨hag, hsl⟩, hrest⟩ := hh
    have h2 := wpL_frame l hm.2 a1 w1 hrest
    have mono : ∀ (l : List (Nat × Oper)) (K K' : Act → World → Prop), (∀ a w, K a w → K' a w) → ∀ a w, wpL P ops Q K l a w → wpL P ops Q K' l a w := by
      intro l
      induction l with
      | nil => exact fun K K' hk a w h => hk a w h
      | cons x l ih => exact fun K K' hk a w h => LStep.mono (fun a w h => ih K K' hk a w h) h
    refine mono l _ _ (fun a2 w2 hh => ?_) a1 w1 h2
    obtain ⟨⟨hag2, hsl2⟩, hk⟩ := hh
    refine ⟨⟨(hag hm.1).trans hag2, fun j hj => ?_⟩, hk⟩
    rw [hsl2 j (fun x hx => hj x (by simp [hx])), hsl j (hj (i, o) (by simp))]

theorem wpL_mono {K K' : Act → World → Prop} (hk : ∀ a w, K a w → K' a w) : (l : List (Nat × Oper)) → (a : Act) → (w : World) → wpL P ops Q K l a w → wpL P ops Q K' l a w
  | [], a, w, h => hk a w h
  | (_, _) :: l, _, _, h => LStep.mono (fun a w h => wpL_mono hk l a w h) h
end

theorem splitAt_eq {p : Oper → Bool} : {l acc : List (Nat × Oper)} → {grp rest : List (Nat × Oper)} → {d : Option Nat} → splitAt p l acc = some (grp, d, rest) → acc ++ l = grp ++ rest
  | [], _, _, _, _, h => by simp [splitAt] at h
  | (i, o) :: l, acc, grp, rest, d, h => by
    simp only [splitAt] at h
    cases hp : p o with
    | true =>
      rw [hp] at h
      simp only [cond_true, Option.some.injEq, Prod.mk.injEq] at h
      obtain ⟨rfl, _, rfl⟩ := h
      simp
    | false =>
      rw [hp] at h
      have := splitAt_eq (l := l) h
      rw [← this]; simp

theorem unsetAll_slots : {l : List (Nat × Oper)} → {σ : St} → {i : Nat} → {av : AVal} → (unsetAll l σ).slots i = some av → σ.slots i = some av ∧ ∀ x ∈ l, x.2.dst ≠ some i
  | [], σ, i, av, h => ⟨h, by simp⟩
  | (j, o) :: l, σ, i, av, h => by
    simp only [unsetAll] at h
    obtain ⟨h1, h2⟩ := unsetAll_slots (l := l) h
    cases hd : o.dst with
    | none =>
      rw [hd] at h1
      exact ⟨h1, by intro x hx; rcases List.mem_cons.1 hx with rfl | hx; · simp [hd]
                    · exact h2 x hx⟩
    | some d =>
      rw [hd] at h1
      simp only [St.unset, upd] at h1
      cases hb : Nat.beq i d with
      | true => rw [hb] at h1; simp at h1
      | false =>
        rw [hb] at h1
        refine ⟨h1, fun x hx => ?_⟩
        rcases List.mem_cons.1 hx with rfl | hx
        · rw [hd]; intro he
          simp only [Option.some.injEq] at he
          subst he; rw [Nat.beq_refl] at hb; simp at hb
        · exact h2 x hx
theorem unsetAll_objs : (l : List (Nat × Oper)) → (σ : St) → (unsetAll l σ).objs = σ.objs ∧ (unsetAll l σ).next = σ.next
  | [], _ => ⟨rfl, rfl⟩
  | (_, o) :: l, σ => by
    simp only [unsetAll]
    obtain ⟨h1, h2⟩ := unsetAll_objs l (σ.unset o.dst)
    cases hd : o.dst <;> rw [hd] at h1 h2 <;> exact ⟨h1, h2⟩

end Go.Kz
