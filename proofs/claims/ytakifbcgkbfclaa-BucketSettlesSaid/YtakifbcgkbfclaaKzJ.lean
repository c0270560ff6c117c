/-
  Operations that only compute, one by one.
-/
import Derived.Test.YtakifbcgkbfclaaKzH
set_option linter.unusedVariables false
set_option linter.unusedSimpArgs false
namespace Go.Kz
variable {R : Type}

section
variable {P : Program} {o : Oper} {a : Act} {w : World} {K : Act → World → Prop} {Q : Exit → Act → World → Prop} {c : Ctx} {σ : St} {g : Ghost} {k : St → Option R} {r : R} {base : Nat}

theorem op_move {x : Operand} (ho : o.op = .move x ∨ o.op = .assign x) (hst : StOK c.ntmps g w a σ) (h : opK0 c σ base o k = some r) : Yield P o a w g σ c k r := by
  rcases ho with ho | ho <;> simp only [opK0, ho] at h <;> split at h
  · rename_i av hav
    obtain ⟨hv, hf⟩ := ev_ok hst hav
    exact yld (v := a.eval x) (fun _ _ => by simp [execOp, ho]) hv hf h
  · simp at h
  · rename_i av hav
    obtain ⟨hv, hf⟩ := ev_ok hst hav
    exact yld (v := a.eval x) (fun _ _ => by simp [execOp, ho]) hv hf h
  · simp at h

theorem op_pick {t x y : Operand} (ho : o.op = .pick t x y) (hst : StOK c.ntmps g w a σ) (h : opK0 c σ base o k = some r) : Yield P o a w g σ c k r := by
  simp only [opK0, ho] at h
  split at h
  · rename_i b hb
    have ht := VOK_bool (ev_ok hst hb).1
    cases b with
    | true =>
      simp only [cond_true] at h
      split at h
      · rename_i av hav
        obtain ⟨hv, hf⟩ := ev_ok hst hav
        exact yld (v := a.eval x) (fun _ _ => by simp [execOp, ho, ht, asBool]) hv hf h
      · simp at h
    | false =>
      simp only [cond_false] at h
      split at h
      · rename_i av hav
        obtain ⟨hv, hf⟩ := ev_ok hst hav
        exact yld (v := a.eval y) (fun _ _ => by simp [execOp, ho, ht, asBool]) hv hf h
      · simp at h
  · simp at h

/-- What a computed number or truth value is, and that its form bears no object. -/
structure Plain (f : AVal → Option R) (r : R) (s : Sem Value) (P : Program) : Prop where
  out : ∃ av v, f av = some r ∧ (∀ w, s.run P w = .ok v w) ∧ av.ids = [] ∧ ∀ w g objs, VOK w g objs av v

theorem Plain.int {f : AVal → Option R} {s : Sem Value} {k : IntKind} {n : Int} (h : f (.data (.int k) n) = some r) (hs : ∀ w, s.run P w = .ok (.int k n) w) (hn : k.min ≤ n ∧ n ≤ k.max) : Plain f r s P :=
  ⟨_, _, h, hs, rfl, fun _ _ _ => VOK_int_mk hn⟩
theorem Plain.bool {f : AVal → Option R} {s : Sem Value} {b : Bool} (h : f (.data .bool b) = some r) (hs : ∀ w, s.run P w = .ok (.bool b) w) : Plain f r s P :=
  ⟨_, _, h, hs, rfl, fun _ _ _ => VOK_bool_mk b⟩

theorem binInt_ok {op : BinOp} {kd : IntKind} {x y : Int} {f : AVal → Option R} (hx : kd.min ≤ x ∧ x ≤ kd.max) (T : TypeId) (hsh : isShift op = false)
    (h : binInt op kd x y f = some r) : Plain f r (binOp op T (.int kd x) (.int kd y)) P := by
  cases op <;> simp only [binInt] at h <;> simp only [isShift] at hsh
  case add => exact .int h (fun _ => by simp [binOp, Op.intArith]) (wrap_has _ _)
  case sub => exact .int h (fun _ => by simp [binOp, Op.intArith]) (wrap_has _ _)
  case mul => exact .int h (fun _ => by simp [binOp, Op.intArith]) (wrap_has _ _)
  case quo =>
    cases hb : (y == 0) with
    | true => rw [hb] at h; simp at h
    | false =>
      rw [hb] at h
      have hy : ¬ y = 0 := by simpa using hb
      exact .int h (fun _ => by simp [binOp, Op.intDiv, hy]) (wrap_has _ _)
  case rem =>
    cases hb : (y == 0) with
    | true => rw [hb] at h; simp at h
    | false =>
      rw [hb] at h
      have hy : ¬ y = 0 := by simpa using hb
      refine .int h (fun _ => by simp [binOp, Op.intDiv, hy]) ?_
      have h0 : kd.min ≤ 0 ∧ 0 ≤ kd.max := by cases kd <;> simp [IntKind.min, IntKind.max, IntKind.bits, IntKind.signed]
      have h3 : (x.tmod y).natAbs ≤ x.natAbs := by rw [Int.natAbs_tmod]; exact Nat.mod_le _ _
      rcases Int.le_total 0 x with hp | hp
      · have h1 := Int.tmod_nonneg y hp
        omega
      · have h1 : x.tmod y ≤ 0 := by
          have := Int.tmod_nonneg y (a := -x) (by omega)
          rw [Int.neg_tmod] at this; omega
        omega
  case and => exact .int h (fun _ => by simp [binOp, Op.intBits]) (wrap_has _ _)
  case or => exact .int h (fun _ => by simp [binOp, Op.intBits]) (wrap_has _ _)
  case xor => exact .int h (fun _ => by simp [binOp, Op.intBits]) (wrap_has _ _)
  case andNot => exact .int h (fun _ => by simp [binOp, Op.intBits]) (wrap_has _ _)
  case eql => exact .bool h (fun _ => by simp [binOp, Op.intCmp])
  case neq => exact .bool h (fun _ => by simp [binOp, Op.intCmp])
  case lss => exact .bool h (fun _ => by simp [binOp, Op.intCmp])
  case leq => exact .bool h (fun _ => by simp [binOp, Op.intCmp])
  case gtr => exact .bool h (fun _ => by simp [binOp, Op.intCmp])
  case geq => exact .bool h (fun _ => by simp [binOp, Op.intCmp])
  all_goals simp at hsh h

theorem shiftInt_ok {op : BinOp} {kd j : IntKind} {x y : Int} {f : AVal → Option R} (hx : kd.min ≤ x ∧ x ≤ kd.max) (T : TypeId)
    (h : shiftInt op kd x y f = some r) : Plain f r (binOp op T (.int kd x) (.int j y)) P := by
  cases op <;> simp only [shiftInt] at h
  case shl =>
    cases hb : decide (y < 0) with
    | true => rw [hb] at h; simp at h
    | false =>
      rw [hb] at h
      have hy : ¬ y < 0 := by simpa using hb
      exact .int h (fun _ => by simp [binOp, Op.shift, hy]) (wrap_has _ _)
  case shr =>
    cases hb : decide (y < 0) with
    | true => rw [hb] at h; simp at h
    | false =>
      rw [hb] at h
      have hy : ¬ y < 0 := by simpa using hb
      refine .int h (fun _ => by simp [binOp, Op.shift, hy]) ?_
      have h0 : kd.min ≤ 0 ∧ 0 ≤ kd.max := by cases kd <;> simp [IntKind.min, IntKind.max, IntKind.bits, IntKind.signed]
      have h2 : (1 : Int) ≤ 2 ^ (min y.toNat kd.bits) := by
        have := Nat.one_le_two_pow (n := min y.toNat kd.bits)
        exact_mod_cast this
      generalize hz : (2 : Int) ^ (min y.toNat kd.bits) = z at h2
      rw [Int.fdiv_eq_ediv_of_nonneg _ (by omega)]
      rcases Int.le_total 0 x with hp | hp
      · have h3 := Int.ediv_nonneg hp (show 0 ≤ z by omega)
        have h4 := Int.ediv_le_self z hp
        omega
      · have h3 : x / z ≤ 0 := Int.ediv_le_of_le_mul (by omega) (by omega)
        have h4 : x ≤ x / z := by
          have := Int.le_ediv_of_mul_le (a := x) (b := x) (c := z) (by omega) (by
            have := Int.mul_le_mul_of_nonpos_left (a := x) (b := z) (c := 1) hp h2
            rw [Int.mul_one] at this; exact this)
          exact this
        omega
  all_goals simp at h

end
end Go.Kz

/-
  Types: what a type's code says of the program's table of types, and a check of it.
-/
namespace Go.Kz
variable {R : Type}

theorem nbeq {a b : Nat} : (Nat.beq a b = true) = (a = b) := propext ⟨Nat.eq_of_beq_eq_true, fun h => h ▸ Nat.beq_refl a⟩

def zeroCells : Ty → List Value
  | .int k => [.int k 0]
  | .bool => [.bool false]
  | .str => [.string ByteArray.empty]
  | .unit => []
  | .pair a b => zeroCells a ++ zeroCells b
  | .arr n t => (List.replicate n (zeroCells t)).flatten
  | .sl _ _ => [.slice none 0 0]
  | .ptr _ => [.pointer none]
  | .fn _ _ => [.nilFunc]

structure InfoOK (P : Program) (T : TypeId) (t : Ty) : Prop where
  info : ∃ i z, P.info? T = some i ∧ i.size = t.size ∧ i.bytes ≤ 32768 ∧ i.zero = some z ∧ z.cells.toList = zeroCells t ∧ 0 < i.size

mutual
def TyOK (P : Program) : Ty → TypeId → Prop
  | .int k, T => P.underlying T = some (.int k) ∧ InfoOK P T (.int k)
  | .bool, T => P.underlying T = some .bool ∧ InfoOK P T .bool
  | .str, T => P.underlying T = some .string ∧ InfoOK P T .str
  | .unit, _ => False
  | .pair a b, T => (∃ fs, P.underlying T = some (.struct fs) ∧ FsOK P (.pair a b) fs.toList 0) ∧ InfoOK P T (.pair a b)
  | .arr n t, T => (∃ E, P.underlying T = some (.array n E) ∧ TyOK P t E) ∧ InfoOK P T (.arr n t)
  | .sl o t, T => (∃ E, P.underlying T = some (.slice E) ∧ TyOK P t E) ∧ InfoOK P T (.sl o t)
  | .ptr _, _ => False
  | .fn _ _, _ => False
def FsOK (P : Program) : Ty → List Field → Nat → Prop
  | .pair a b, f :: fs, off => f.offset = off ∧ TyOK P a f.type ∧ FsOK P b fs (off + a.size)
  | .unit, [], _ => True
  | _, _, _ => False
end

theorem TyOK.info {P : Program} {t : Ty} {T : TypeId} (h : TyOK P t T) : InfoOK P T t := by
  cases t <;> simp only [TyOK] at h <;> first | exact h.2 | exact h.elim

/-- Values as they stand in zero values. -/
def sameZ : Value → Value → Bool
  | .int j a, .int k b => (match decEq j k with
      | isTrue _ => true
      | isFalse _ => false) && decide (a = b)
  | .bool a, .bool b => a == b
  | .string a, .string b => Nat.beq a.size 0 && Nat.beq b.size 0
  | .slice none a b, .slice none c d => Nat.beq a c && Nat.beq b d
  | .pointer none, .pointer none => true
  | .nilFunc, .nilFunc => true
  | _, _ => false
def samesZ : List Value → List Value → Bool
  | [], [] => true
  | a :: l, b :: m => sameZ a b && samesZ l m
  | _, _ => false
theorem sameZ_eq {a b : Value} (h : sameZ a b = true) : a = b := by
  unfold sameZ at h
  split at h
  · rename_i j a k b
    simp only [Bool.and_eq_true, decide_eq_true_eq] at h
    obtain ⟨h1, rfl⟩ := h
    split at h1
    · rename_i h2 _; rw [h2]
    · simp at h1
  · simpa using h
  · rename_i a b
    simp only [Bool.and_eq_true, nbeq] at h
    have ha : a = ByteArray.empty := by
      cases a with | mk a => congr 1; exact Array.eq_empty_of_size_eq_zero h.1
    have hb : b = ByteArray.empty := by
      cases b with | mk a => congr 1; exact Array.eq_empty_of_size_eq_zero h.2
    rw [ha, hb]
  · simp only [Bool.and_eq_true, nbeq] at h
    rw [h.1, h.2]
  · rfl
  · rfl
  · simp at h
theorem samesZ_eq : {a b : List Value} → samesZ a b = true → a = b
  | [], [], _ => rfl
  | a :: l, b :: m, h => by
    simp only [samesZ, Bool.and_eq_true] at h
    rw [sameZ_eq h.1, samesZ_eq h.2]
  | [], _ :: _, h => by simp [samesZ] at h
  | _ :: _, [], h => by simp [samesZ] at h

def infoB (P : Program) (T : TypeId) (t : Ty) : Bool :=
  match P.info? T with
  | some i => match i.zero with
    | some z => Nat.beq i.size t.size && Nat.ble i.bytes 32768 && samesZ z.cells.toList (zeroCells t) && Nat.blt 0 i.size
    | none => false
  | none => false
theorem infoB_ok {P : Program} {T : TypeId} {t : Ty} (h : infoB P T t = true) : InfoOK P T t := by
  unfold infoB at h
  split at h
  · rename_i i hi
    split at h
    · rename_i z hz
      simp only [Bool.and_eq_true, nbeq] at h
      exact ⟨⟨i, z, hi, h.1.1.1, Nat.le_of_ble_eq_true h.1.1.2, hz, samesZ_eq h.1.2, Nat.le_of_ble_eq_true h.2⟩⟩
    · simp at h
  · simp at h

/-- A type against the program's table: as a type, and as the rest of a struct's fields. -/
def tyFB (P : Program) : Ty → (TypeId → Bool) × (List Field → Nat → Bool)
  | .int k => (fun T => (match P.underlying T with
    | some (.int j) => (match decEq j k with
      | isTrue _ => true
      | isFalse _ => false)
    | _ => false) && infoB P T (.int k), fun _ _ => false)
  | .bool => (fun T => (match P.underlying T with
    | some .bool => true
    | _ => false) && infoB P T .bool, fun _ _ => false)
  | .str => (fun T => (match P.underlying T with
    | some .string => true
    | _ => false) && infoB P T .str, fun _ _ => false)
  | .unit => (fun _ => false, fun fs _ => match fs with
    | [] => true
    | _ => false)
  | .pair a b =>
    let f : List Field → Nat → Bool := fun fs off => match fs with
      | f :: fs => Nat.beq f.offset off && (tyFB P a).1 f.type && (tyFB P b).2 fs (off + a.size)
      | [] => false
    (fun T => (match P.underlying T with
      | some (.struct fs) => f fs.toList 0
      | _ => false) && infoB P T (.pair a b), f)
  | .arr n t => (fun T => (match P.underlying T with
    | some (.array m E) => Nat.beq m n && (tyFB P t).1 E
    | _ => false) && infoB P T (.arr n t), fun _ _ => false)
  | .sl o t => (fun T => (match P.underlying T with
    | some (.slice E) => (tyFB P t).1 E
    | _ => false) && infoB P T (.sl o t), fun _ _ => false)
  | .ptr _ => (fun _ => false, fun _ _ => false)
  | .fn _ _ => (fun _ => false, fun _ _ => false)
def tyB (P : Program) (t : Ty) (T : TypeId) : Bool := (tyFB P t).1 T
def fsB (P : Program) (t : Ty) (fs : List Field) (off : Nat) : Bool := (tyFB P t).2 fs off
theorem tyB_int {P : Program} {k : IntKind} {T : TypeId} : tyB P (.int k) T = ((match P.underlying T with
    | some (.int j) => (match decEq j k with
      | isTrue _ => true
      | isFalse _ => false)
    | _ => false) && infoB P T (.int k)) := rfl
theorem tyB_bool {P : Program} {T : TypeId} : tyB P .bool T = ((match P.underlying T with
    | some .bool => true
    | _ => false) && infoB P T .bool) := rfl
theorem tyB_str {P : Program} {T : TypeId} : tyB P .str T = ((match P.underlying T with
    | some .string => true
    | _ => false) && infoB P T .str) := rfl
theorem tyB_pair {P : Program} {a b : Ty} {T : TypeId} : tyB P (.pair a b) T = ((match P.underlying T with
    | some (.struct fs) => fsB P (.pair a b) fs.toList 0
    | _ => false) && infoB P T (.pair a b)) := rfl
theorem tyB_arr {P : Program} {n : Nat} {t : Ty} {T : TypeId} : tyB P (.arr n t) T = ((match P.underlying T with
    | some (.array m E) => Nat.beq m n && tyB P t E
    | _ => false) && infoB P T (.arr n t)) := rfl
theorem tyB_sl {P : Program} {o : Bool} {t : Ty} {T : TypeId} : tyB P (.sl o t) T = ((match P.underlying T with
    | some (.slice E) => tyB P t E
    | _ => false) && infoB P T (.sl o t)) := rfl
theorem fsB_pair {P : Program} {a b : Ty} {f : Field} {fs : List Field} {off : Nat} : fsB P (.pair a b) (f :: fs) off = (Nat.beq f.offset off && tyB P a f.type && fsB P b fs (off + a.size)) := rfl

mutual
theorem tyB_ok {P : Program} : {t : Ty} → {T : TypeId} → tyB P t T = true → TyOK P t T
  | .int k, T, h => by
    simp only [tyB_int, Bool.and_eq_true] at h
    simp only [TyOK]
    refine ⟨?_, infoB_ok h.2⟩
    have h1 := h.1
    split at h1
    · rename_i j hj
      split at h1
      · rename_i hk _; rw [hj, hk]
      · simp at h1
    · simp at h1
  | .bool, T, h => by
    simp only [tyB_bool, Bool.and_eq_true] at h
    simp only [TyOK]
    refine ⟨?_, infoB_ok h.2⟩
    have h1 := h.1
    split at h1
    · rename_i hj; exact hj
    · simp at h1
  | .str, T, h => by
    simp only [tyB_str, Bool.and_eq_true] at h
    simp only [TyOK]
    refine ⟨?_, infoB_ok h.2⟩
    have h1 := h.1
    split at h1
    · rename_i hj; exact hj
    · simp at h1
  | .unit, _, h => by simp [tyB, tyFB] at h
  | .pair a b, T, h => by
    simp only [tyB_pair, Bool.and_eq_true] at h
    simp only [TyOK]
    refine ⟨?_, infoB_ok h.2⟩
    have h1 := h.1
    split at h1
    · rename_i fs hj; exact ⟨fs, hj, fsB_ok h1⟩
    · simp at h1
  | .arr n t, T, h => by
    simp only [tyB_arr, Bool.and_eq_true] at h
    simp only [TyOK]
    refine ⟨?_, infoB_ok h.2⟩
    have h1 := h.1
    split at h1
    · rename_i m E hj
      simp only [Bool.and_eq_true, nbeq] at h1
      exact ⟨E, by rw [hj, h1.1], tyB_ok h1.2⟩
    · simp at h1
  | .sl o t, T, h => by
    simp only [tyB_sl, Bool.and_eq_true] at h
    simp only [TyOK]
    refine ⟨?_, infoB_ok h.2⟩
    have h1 := h.1
    split at h1
    · rename_i E hj; exact ⟨E, hj, tyB_ok h1⟩
    · simp at h1
  | .ptr _, _, h => by simp [tyB, tyFB] at h
  | .fn _ _, _, h => by simp [tyB, tyFB] at h
theorem fsB_ok {P : Program} : {t : Ty} → {fs : List Field} → {off : Nat} → fsB P t fs off = true → FsOK P t fs off
  | .pair a b, f :: fs, off, h => by
    simp only [fsB_pair, Bool.and_eq_true, nbeq] at h
    simp only [FsOK]
    exact ⟨h.1.1, tyB_ok h.1.2, fsB_ok h.2⟩
  | .unit, [], _, _ => by simp only [FsOK]
  | .unit, _ :: _, _, h => by simp [fsB, tyFB] at h
  | .pair _ _, [], _, h => by simp [fsB, tyFB] at h
  | .int _, _, _, h => by simp [fsB, tyFB] at h
  | .bool, _, _, h => by simp [fsB, tyFB] at h
  | .str, _, _, h => by simp [fsB, tyFB] at h
  | .arr _ _, _, _, h => by simp [fsB, tyFB] at h
  | .sl _ _, _, _, h => by simp [fsB, tyFB] at h
  | .ptr _, _, _, h => by simp [fsB, tyFB] at h
  | .fn _ _, _, _, h => by simp [fsB, tyFB] at h
end

/-- A table of types, held against the program's. -/
def TtOK (P : Program) (tt : Nat → Option Ty) : Prop := ∀ T u, tt T = some u → TyOK P u T
def ttB (P : Program) : List (Nat × Ty) → Bool
  | [] => true
  | (T, u) :: l => tyB P u T && ttB P l
theorem ttB_ok {P : Program} : {l : List (Nat × Ty)} → ttB P l = true → TtOK P (getL l)
  | [], _, _, _, h => by simp [getL] at h
  | (T, u) :: l, hb, T', u', h => by
    simp only [ttB, Bool.and_eq_true] at hb
    simp only [getL] at h
    cases he : Nat.beq T T' with
    | true =>
      rw [he] at h
      simp only [cond_true, Option.some.injEq] at h
      subst h
      rw [← Nat.eq_of_beq_eq_true he]
      exact tyB_ok hb.1
    | false =>
      rw [he] at h
      exact ttB_ok hb.2 T' u' h

end Go.Kz
