/-
  Operations that only compute, one by one.
-/
import Derived.Test.YtcnmiohlpaommaaKzH
set_option linter.unusedVariables false
set_option linter.unusedSimpArgs false
namespace Go.Kz
variable {R : Type}

section
variable {P : Program} {o : Oper} {a : Act} {w : World} {K : Act → World → Prop} {Q : Exit → Act → World → Prop} {c : Ctx} {σ : St} {g : Ghost} {k : St → Option R} {r : R} {base : Nat}

theorem op_move {x : Operand} (ho : o.op = .move x ∨ o.op = .assign x) (hst : StOK c.ntmps g w a σ) (h : opK0 c σ base o k = some r) : Yield P o a w g σ c k r := by
  rcases ho with ho | ho <;> simp only [opK0, ho] at h <;> split at h
  · rename_i av hav
    obtain ⟨hv, hf⟩ := ev_ok hst hav
    exact yld (v := a.eval x) (fun _ _ => by simp [execOp, ho]) hv hf h
  · simp at h
  · rename_i av hav
    obtain ⟨hv, hf⟩ := ev_ok hst hav
    exact yld (v := a.eval x) (fun _ _ => by simp [execOp, ho]) hv hf h
  · simp at h

theorem op_pick {t x y : Operand} (ho : o.op = .pick t x y) (hst : StOK c.ntmps g w a σ) (h : opK0 c σ base o k = some r) : Yield P o a w g σ c k r := by
  simp only [opK0, ho] at h
  split at h
  · rename_i b hb
    have ht := VOK_bool (ev_ok hst hb).1
    cases b with
    | true =>
      simp only [cond_true] at h
      split at h
      · rename_i av hav
        obtain ⟨hv, hf⟩ := ev_ok hst hav
        exact yld (v := a.eval x) (fun _ _ => by simp [execOp, ho, ht, asBool]) hv hf h
      · simp at h
    | false =>
      simp only [cond_false] at h
      split at h
      · rename_i av hav
        obtain ⟨hv, hf⟩ := ev_ok hst hav
        exact yld (v := a.eval y) (fun _ _ => by simp [execOp, ho, ht, asBool]) hv hf h
      · simp at h
  · simp at h

/-- What a computed number or truth value is, and that its form bears no object. -/
structure Plain (f : AVal → Option R) (r : R) (s : Sem Value) (P : Program) : Prop where
  out : ∃ av v, f av = some r ∧ (∀ w, s.run P w = .ok v w) ∧ av.ids = [] ∧ ∀ w g objs, VOK w g objs av v

theorem Plain.int {f : AVal → Option R} {s : Sem Value} {k : IntKind} {n : Int} (h : f (.data (.int k) n) = some r) (hs : ∀ w, s.run P w = .ok (.int k n) w) (hn : k.min ≤ n ∧ n ≤ k.max) : Plain f r s P :=
  ⟨_, _, h, hs, rfl, fun _ _ _ => VOK_int_mk hn⟩
theorem Plain.bool {f : AVal → Option R} {s : Sem Value} {b : Bool} (h : f (.data .bool b) = some r) (hs : ∀ w, s.run P w = .ok (.bool b) w) : Plain f r s P :=
  ⟨_, _, h, hs, rfl, fun _ _ _ => VOK_bool_mk b⟩

theorem binInt_ok {op : BinOp} {kd : IntKind} {x y : Int} {f : AVal → Option R} (hx : kd.min ≤ x ∧ x ≤ kd.max) (T : TypeId) (hsh : isShift op = false)
    (h : binInt op kd x y f = some r) : Plain f r (binOp op T (.int kd x) (.int kd y)) P := by
  cases op <;> simp only [binInt] at h <;> simp only [isShift] at hsh
  case add => exact .int h (fun _ => by simp [binOp, Op.intArith]) (wrap_has _ _)
  case sub => exact .int h (fun _ => by simp [binOp, Op.intArith]) (wrap_has _ _)
  case mul => exact .int h (fun _ => by simp [binOp, Op.intArith]) (wrap_has _ _)
  case quo =>
    cases hb : (y == 0) with
    | true => rw [hb] at h; simp at h
    | false =>
      rw [hb] at h
      have hy : ¬ y = 0 := by simpa using hb
      exact .int h (fun _ => by simp [binOp, Op.intDiv, hy]) (wrap_has _ _)
  case rem =>
    cases hb : (y == 0) with
    | true => rw [hb] at h; simp at h
    | false =>
      rw [hb] at h
      have hy : ¬ y = 0 := by simpa using hb
      refine .int h (fun _ => by simp [binOp, Op.intDiv, hy]) ?_
      have h0 : kd.min ≤ 0 ∧ 0 ≤ kd.max := by cases kd <;> simp [IntKind.min, IntKind.max, IntKind.bits, IntKind.signed]
      have h3 : (x.tmod y).natAbs ≤ x.natAbs := by rw [Int.natAbs_tmod]; exact Nat.mod_le _ _
      rcases Int.le_total 0 x with hp | hp
      · have h1 := Int.tmod_nonneg y hp
        omega
      · have h1 : x.tmod y ≤ 0 := by
          have := Int.tmod_nonneg y (a := -x) (by omega)
          rw [Int.neg_tmod] at this; omega
        omega
  case and => exact .int h (fun _ => by simp [binOp, Op.intBits]) (wrap_has _ _)
  case or => exact .int h (fun _ => by simp [binOp, Op.intBits]) (wrap_has _ _)
  case xor => exact .int h (fun _ => by simp [binOp, Op.intBits]) (wrap_has _ _)
  case andNot => exact .int h (fun _ => by simp [binOp, Op.intBits]) (wrap_has _ _)
  case eql => exact .bool h (fun _ => by simp [binOp, Op.intCmp])
  case neq => exact .bool h (fun _ => by simp [binOp, Op.intCmp])
  case lss => exact .bool h (fun _ => by simp [binOp, Op.intCmp])
  case leq => exact .bool h (fun _ => by simp [binOp, Op.intCmp])
  case gtr => exact .bool h (fun _ => by simp [binOp, Op.intCmp])
  case geq => exact .bool h (fun _ => by simp [binOp, Op.intCmp])
  all_goals simp at hsh h

theorem shiftInt_ok {op : BinOp} {kd j : IntKind} {x y : Int} {f : AVal → Option R} (hx : kd.min ≤ x ∧ x ≤ kd.max) (T : TypeId)
    (h : shiftInt op kd x y f = some r) : Plain f r (binOp op T (.int kd x) (.int j y)) P := by
  cases op <;> simp only [shiftInt] at h
  case shl =>
    cases hb : decide (y < 0) with
    | true => rw [hb] at h; simp at h
    | false =>
      rw [hb] at h
      have hy : ¬ y < 0 := by simpa using hb
      exact .int h (fun _ => by simp [binOp, Op.shift, hy]) (wrap_has _ _)
  case shr =>
    cases hb : decide (y < 0) with
    | true => rw [hb] at h; simp at h
    | false =>
      rw [hb] at h
      have hy : ¬ y < 0 := by simpa using hb
      refine .int h (fun _ => by simp [binOp, Op.shift, hy]) ?_
      have h0 : kd.min ≤ 0 ∧ 0 ≤ kd.max := by cases kd <;> simp [IntKind.min, IntKind.max, IntKind.bits, IntKind.signed]
      have h2 : (1 : Int) ≤ 2 ^ (min y.toNat kd.bits) := by
        have := Nat.one_le_two_pow (n := min y.toNat kd.bits)
        exact_mod_cast this
      generalize hz : (2 : Int) ^ (min y.toNat kd.bits) = z at h2
      rw [Int.fdiv_eq_ediv_of_nonneg _ (by omega)]
      rcases Int.le_total 0 x with hp | hp
      · have h3 := Int.ediv_nonneg hp (show 0 ≤ z by omega)
        have h4 := Int.ediv_le_self z hp
        omega
      · have h3 : x / z ≤ 0 := Int.ediv_le_of_le_mul (by omega) (by omega)
        have h4 : x ≤ x / z := by
          have := Int.le_ediv_of_mul_le (a := x) (b := x) (c := z) (by omega) (by
            have := Int.mul_le_mul_of_nonpos_left (a := x) (b := z) (c := 1) hp h2
            rw [Int.mul_one] at this; exact this)
          exact this
        omega
  all_goals simp at h

end
end Go.Kz
