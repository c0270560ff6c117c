/-
  Operations that only compute: what the interpreter says of them is what the model does.
-/
import Derived.Test.YtakifbcgkbfclaaKzG
set_option linter.unusedVariables false
set_option linter.unusedSimpArgs false
namespace Go.Kz
variable {R : Type}

/-- The old blocks are as they were. -/
def Agree (w w' : World) : Prop := ∀ b, b < w.heap.size → w'.heap[b]? = w.heap[b]?
theorem Agree.refl (w : World) : Agree w w := fun _ _ => rfl
/-- As far as the operation looks at memory. -/
def AgP (o : Oper) (w w' : World) : Prop := isP o = false → Agree w w'
theorem AgP.refl (o : Oper) (w : World) : AgP o w w := fun _ => Agree.refl w

/-- What must hold behind an operation whose new objects are numbered from base on. -/
def Post (n : Nat) (k : St → Option R) (r : R) (g : Ghost) (w : World) (σ : St) (base : Nat) (mo : Bool) (K : Act → World → Prop) : Prop :=
  ∀ σ' g' a' w', k σ' = some r → StOK n g' w' a' σ' → Ext w g w' g' → (∀ m, (m < base ∨ base + 8 ≤ m) → Fresh g σ m → Fresh g' σ' m) → σ'.next = σ.next → (mo = false → Agree w w') → K a' w'

theorem StOK.put {n : Nat} {g : Ghost} {w : World} {a : Act} {σ : St} (h : StOK n g w a σ) {d : Nat} (hd : d < n) {av : AVal} {v : Value} (hv : VOK w g σ.objs av v) :
    StOK n g w (a.put (some d) v) (σ.set d av) := by
  refine ⟨fun i x hx => ?_, h.heap, by rw [put_size]; exact h.size, by rw [put_defers]; exact h.defers⟩
  simp only [St.set, upd] at hx
  rw [put_get]
  by_cases hi : i = d
  · subst hi
    have : Nat.beq i i = true := Nat.beq_refl i
    rw [this] at hx
    simp only [cond_true, Option.some.injEq] at hx
    subst hx
    exact ⟨v, by rw [if_pos ⟨rfl, by rw [h.size]; exact hd⟩], hv⟩
  · have : Nat.beq i d = false := by
      cases hb : Nat.beq i d with
      | true => exact absurd (Nat.eq_of_beq_eq_true hb) hi
      | false => rfl
    rw [this] at hx
    simp only [cond_false] at hx
    obtain ⟨u, hu, hok⟩ := h.slots i x hx
    exact ⟨u, by rw [if_neg (by intro hh; simp at hh; exact hi hh.1.symm)]; exact hu, hok⟩

theorem StOK.putU {n : Nat} {g : Ghost} {w : World} {a : Act} {σ : St} (h : StOK n g w a σ) (d : Option Nat) (v : Value) : StOK n g w (a.put d v) (σ.unset d) := by
  cases d with
  | none => exact h
  | some d =>
    refine ⟨fun i x hx => ?_, h.heap, by rw [put_size]; exact h.size, by rw [put_defers]; exact h.defers⟩
    simp only [St.unset, upd] at hx
    rw [put_get]
    cases hb : Nat.beq i d with
    | true => rw [hb] at hx; simp at hx
    | false =>
      rw [hb] at hx
      simp only [cond_false] at hx
      obtain ⟨u, hu, hok⟩ := h.slots i x hx
      refine ⟨u, ?_, hok⟩
      rw [if_neg (by intro hh; simp at hh; rw [hh.1] at hb; rw [Nat.beq_refl] at hb; simp at hb)]; exact hu

theorem Fresh.set {g : Ghost} {σ : St} {m : Nat} (h : Fresh g σ m) (d : Nat) {av : AVal} (hv : m ∉ av.ids) : Fresh g (σ.set d av) m := by
  refine ⟨h.objs, h.row, h.box, fun i x hx => ?_, h.cells⟩
  simp only [St.set, upd] at hx
  cases hb : Nat.beq i d with
  | true => rw [hb] at hx; simp at hx; subst hx; exact hv
  | false => rw [hb] at hx; exact h.slots i x hx
theorem Fresh.unset {g : Ghost} {σ : St} {m : Nat} (h : Fresh g σ m) (d : Option Nat) : Fresh g (σ.unset d) m := by
  cases d with
  | none => exact h
  | some d =>
    refine ⟨h.objs, h.row, h.box, fun i x hx => ?_, h.cells⟩
    simp only [St.unset, upd] at hx
    cases hb : Nat.beq i d with
    | true => rw [hb] at hx; simp at hx
    | false => rw [hb] at hx; exact h.slots i x hx

theorem putK_some {c : Ctx} {σ : St} {d : Option Nat} {av : AVal} {k : St → Option R} {r : R} (h : σ.putK c d av k = some r) :
    (d = none ∧ k σ = some r) ∨ ∃ i, d = some i ∧ i < c.ntmps ∧ k (σ.set i av) = some r := by
  cases d with
  | none => exact .inl ⟨rfl, h⟩
  | some i =>
    simp only [St.putK] at h
    cases hb : Nat.blt i c.ntmps with
    | false => rw [hb] at h; simp at h
    | true =>
      rw [hb] at h
      refine .inr ⟨i, rfl, ?_, h⟩
      have := Nat.le_of_ble_eq_true hb
      omega

/-- An operation that gives a value and turns nothing, in every world in which the old blocks are as they were. -/
structure Yield (P : Program) (o : Oper) (a : Act) (w : World) (g : Ghost) (σ : St) (c : Ctx) (k : St → Option R) (r : R) : Prop where
  out : ∃ av v, (∀ w', AgP o w w' → (execOp a.eval o).run P w' = .ok (.value v) w') ∧ VOK w g σ.objs av v ∧ (∀ m, Fresh g σ m → m ∉ av.ids) ∧ σ.putK c o.dst av k = some r
theorem yld {P : Program} {o : Oper} {a : Act} {w : World} {c : Ctx} {σ : St} {g : Ghost} {k : St → Option R} {r : R} {av : AVal} {v : Value}
    (hrun : ∀ w', AgP o w w' → (execOp a.eval o).run P w' = .ok (.value v) w') (hv : VOK w g σ.objs av v) (hids : ∀ m, Fresh g σ m → m ∉ av.ids) (h : σ.putK c o.dst av k = some r) : Yield P o a w g σ c k r :=
  ⟨av, v, hrun, hv, hids, h⟩

/-- An operation that gives a value and turns nothing. -/
theorem wp_pure {P : Program} {o : Oper} {a : Act} {w : World} {K : Act → World → Prop} {Q : Exit → Act → World → Prop} {c : Ctx} {σ : St} {g : Ghost} {k : St → Option R} {r : R} {base : Nat} {mo : Bool}
    {av : AVal} {v : Value} (hst : StOK c.ntmps g w a σ) (hrun : (execOp a.eval o).run P w = .ok (.value v) w)
    (hv : VOK w g σ.objs av v) (hids : ∀ m, Fresh g σ m → m ∉ av.ids) (h : σ.putK c o.dst av k = some r) (hK : Post c.ntmps k r g w σ base mo K) : o.wp P a w K Q := by
  unfold Oper.wp
  rw [hrun, Oper.upon_value]
  rcases putK_some h with ⟨hd, hk⟩ | ⟨i, hd, hi, hk⟩
  · rw [hd]; exact hK σ g a w hk hst (Ext.refl _ _) (fun m _ hm => hm) rfl (fun _ => Agree.refl w)
  · rw [hd]; exact hK _ g _ w hk (hst.put hi hv) (Ext.refl _ _) (fun m _ hm => hm.set i (hids m hm)) rfl (fun _ => Agree.refl w)

theorem Yield.wp {P : Program} {o : Oper} {a : Act} {w : World} {K : Act → World → Prop} {Q : Exit → Act → World → Prop} {c : Ctx} {σ : St} {g : Ghost} {k : St → Option R} {r : R} {base : Nat} {mo : Bool}
    (hy : Yield P o a w g σ c k r) (hst : StOK c.ntmps g w a σ) (hK : Post c.ntmps k r g w σ base mo K) : o.wp P a w K Q := by
  obtain ⟨av, v, h1, h2, h3, h4⟩ := hy.out
  exact wp_pure hst (h1 w (AgP.refl o w)) h2 h3 h4 hK

theorem VOK_int {w : World} {g : Ghost} {objs : Objs} {k : IntKind} {n : Int} {v : Value} (h : VOK w g objs (.data (.int k) n) v) : v = .int k n ∧ k.min ≤ n ∧ n ≤ k.max := by
  simp only [VOK] at h
  obtain ⟨cs, ⟨_, hc, h1, h2⟩, hv⟩ := h
  subst hc
  exact ⟨hv, h1, h2⟩
theorem VOK_int_mk {w : World} {g : Ghost} {objs : Objs} {k : IntKind} {n : Int} (h : k.min ≤ n ∧ n ≤ k.max) : VOK w g objs (.data (.int k) n) (.int k n) := by
  simp only [VOK]
  exact ⟨[.int k n], ⟨rfl, rfl, h⟩, rfl⟩
theorem VOK_bool {w : World} {g : Ghost} {objs : Objs} {b : Bool} {v : Value} (h : VOK w g objs (.data .bool b) v) : v = .bool b := by
  simp only [VOK] at h
  obtain ⟨cs, ⟨_, hc⟩, hv⟩ := h
  cases hc
  exact hv
theorem VOK_bool_mk {w : World} {g : Ghost} {objs : Objs} (b : Bool) : VOK w g objs (.data .bool b) (.bool b) := by
  simp only [VOK]
  exact ⟨[.bool b], ⟨rfl, rfl⟩, rfl⟩
theorem VOK_nil {w : World} {g : Ghost} {objs : Objs} {v : Value} : VOK w g objs .nilS v ↔ v = .slice none 0 0 := by
  simp only [VOK]
  exact ⟨fun ⟨cs, h, hv⟩ => by cases h; exact hv, fun h => ⟨_, rfl, h⟩⟩

theorem wrap_has (k : IntKind) (n : Int) : k.min ≤ k.wrap n ∧ k.wrap n ≤ k.max := by
  cases k <;> simp only [IntKind.wrap, IntKind.min, IntKind.max, IntKind.bits, IntKind.signed] <;> simp <;> (try split) <;> omega

theorem ev_ok {n : Nat} {g : Ghost} {w : World} {a : Act} {σ : St} (hst : StOK n g w a σ) {x : Operand} {av : AVal} (h : ev σ x = some av) :
    VOK w g σ.objs av (a.eval x) ∧ ∀ m, Fresh g σ m → m ∉ av.ids := by
  cases x with
  | tmp t =>
    obtain ⟨v, hv, hok⟩ := hst.slots t av h
    rw [eval_tmp hv]
    exact ⟨hok, fun m hm => hm.slots t av h⟩
  | const v =>
    cases v with
    | int k i =>
      simp only [ev] at h
      cases hb : (decide (k.min ≤ i) && decide (i ≤ k.max)) with
      | false => rw [hb] at h; simp at h
      | true =>
        rw [hb] at h
        simp only [cond_true, Option.some.injEq] at h
        subst h
        simp at hb
        exact ⟨VOK_int_mk hb, fun m _ => by simp [AVal.ids]⟩
    | bool b =>
      simp only [ev, Option.some.injEq] at h
      subst h
      exact ⟨VOK_bool_mk b, fun m _ => by simp [AVal.ids]⟩
    | string s =>
      simp only [ev] at h
      cases hb : Nat.ble s.size 100000 with
      | false => rw [hb] at h; simp at h
      | true =>
        rw [hb] at h
        simp only [cond_true, Option.some.injEq] at h
        subst h
        refine ⟨?_, fun m _ => by simp [AVal.ids]⟩
        have := Nat.le_of_ble_eq_true hb
        simp only [VOK]
        exact ⟨[.string s], ⟨rfl, s, rfl, rfl, by unfold maxLen; omega⟩, rfl⟩
    | slice b l cp =>
      cases b with
      | some _ => simp [ev] at h
      | none =>
        cases l with
        | succ _ => simp [ev] at h
        | zero =>
          cases cp with
          | succ _ => simp [ev] at h
          | zero =>
            simp only [ev, Option.some.injEq] at h
            subst h
            exact ⟨VOK_nil.2 rfl, fun m _ => by simp [AVal.ids]⟩
    | _ => simp [ev] at h
  | global _ => simp [ev] at h
  | func f =>
    simp only [ev, Option.some.injEq] at h
    subst h
    refine ⟨?_, fun m _ => by simp [AVal.ids]⟩
    simp only [VOK]
    exact ⟨[.func (.func f) #[] #[]], ⟨[], rfl, rfl⟩, rfl⟩

theorem evs_ok {n : Nat} {g : Ghost} {w : World} {a : Act} {σ : St} (hst : StOK n g w a σ) : {l : List Operand} → {av : AVal} → evs σ l = some av →
    VsOK w g σ.objs av (l.map a.eval) ∧ ∀ m, Fresh g σ m → m ∉ av.ids
  | [], av, h => by
    simp only [evs, Option.some.injEq] at h
    subst h
    exact ⟨by simp [VsOK], fun m _ => by simp [AVal.ids]⟩
  | x :: l, av, h => by
    simp only [evs] at h
    split at h
    · rename_i a1 c1 h1 h2
      simp only [Option.some.injEq] at h
      subst h
      have e1 := ev_ok hst h1
      have e2 := evs_ok hst h2
      refine ⟨?_, fun m hm => ?_⟩
      · simp only [VsOK, List.map_cons]
        exact ⟨_, _, rfl, e1.1, e2.1⟩
      · simp only [AVal.ids, List.mem_append, not_or]
        exact ⟨e1.2 m hm, e2.2 m hm⟩
    · simp at h

end Go.Kz
