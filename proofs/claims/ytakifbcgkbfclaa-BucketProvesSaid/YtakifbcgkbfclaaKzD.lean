/-
  Abstract values in memory; parts of values, read and replaced.
-/
import Derived.Test.YtakifbcgkbfclaaKzC
set_option linter.unusedVariables false
set_option linter.unusedSimpArgs false
namespace Go.Kz

/-! ## Pieces of lists of cells -/

def splice (l : List Value) (off : Nat) (x : List Value) : List Value := l.take off ++ x ++ l.drop (off + x.length)

theorem seg_seg (l : List Value) (a n b m : Nat) (h : b + m ≤ n) : seg (seg l a n) b m = seg l (a + b) m := by
  simp only [seg, List.drop_take, List.drop_drop, List.take_take]
  congr 1; omega
theorem seg_all (l : List Value) : seg l 0 l.length = l := by simp [seg]
theorem seg_append_left (a b : List Value) (off n : Nat) (h : off + n ≤ a.length) : seg (a ++ b) off n = seg a off n := by
  simp only [seg]
  rw [List.drop_append_of_le_length (by omega), List.take_append_of_le_length (by simp; omega)]
theorem seg_append_right (a b : List Value) (off n : Nat) : seg (a ++ b) (a.length + off) n = seg b off n := by
  simp only [seg, List.drop_append, List.drop_eq_nil_of_le (show a.length ≤ a.length + off by omega), List.nil_append]
  congr 2; omega
theorem seg_append_right' (a b : List Value) (k off n : Nat) (h : k = a.length) : seg (a ++ b) (k + off) n = seg b off n := by
  subst h; exact seg_append_right a b off n
theorem splice_length (l : List Value) (off : Nat) (x : List Value) (h : off + x.length ≤ l.length) : (splice l off x).length = l.length := by
  simp only [splice, List.length_append, List.length_take, List.length_drop]; omega
theorem splice_append_left (a b : List Value) (off : Nat) (x : List Value) (h : off + x.length ≤ a.length) : splice (a ++ b) off x = splice a off x ++ b := by
  simp only [splice, List.take_append_of_le_length (show off ≤ a.length by omega), List.drop_append_of_le_length h, List.append_assoc]
theorem splice_append_right (a b : List Value) (k off : Nat) (x : List Value) (h : k = a.length) : splice (a ++ b) (k + off) x = a ++ splice b off x := by
  subst h
  simp only [splice, List.take_append, List.take_of_length_le (show a.length ≤ a.length + off by omega), List.append_assoc]
  congr 1
  congr 1
  · congr 1; omega
  · congr 1
    rw [List.drop_append, List.drop_eq_nil_of_le (by omega), List.nil_append]
    congr 1; omega
theorem seg_splice_same (l : List Value) (off : Nat) (x : List Value) (h : off + x.length ≤ l.length) : seg (splice l off x) off x.length = x := by
  simp only [seg, splice, List.append_assoc]
  rw [List.drop_append_of_le_length (by simp; omega), List.drop_eq_nil_of_le (by simp; omega), List.nil_append, List.take_left']
  rfl
theorem seg_splice_before (l : List Value) (off : Nat) (x : List Value) (a n : Nat) (h : a + n ≤ off) (hl : off ≤ l.length) : seg (splice l off x) a n = seg l a n := by
  simp only [splice, List.append_assoc]
  rw [seg_append_left _ _ _ _ (by simp; omega)]
  simp only [seg, List.drop_take, List.take_take]
  congr 1; omega
theorem seg_splice_after (l : List Value) (off : Nat) (x : List Value) (a n : Nat) (h : off + x.length ≤ a) (hl : off + x.length ≤ l.length) : seg (splice l off x) a n = seg l a n := by
  obtain ⟨k, rfl⟩ : ∃ k, a = off + x.length + k := ⟨a - (off + x.length), by omega⟩
  simp only [splice]
  rw [seg_append_right' _ _ _ _ _ (by simp; omega)]
  simp only [seg, List.drop_drop]
theorem splice_seg_inner (l : List Value) (a n off : Nat) (x : List Value) (h : off + x.length ≤ n) (hl : a + n ≤ l.length) :
    seg (splice l (a + off) x) a n = splice (seg l a n) off x := by
  have e : l = l.take a ++ (seg l a n ++ l.drop (a + n)) := by
    simp only [seg]
    rw [← List.drop_drop, List.take_append_drop, List.take_append_drop]
  have hs : (seg l a n).length = n := seg_length hl
  have ha : (l.take a).length = a := by simp; omega
  have e2 : splice l (a + off) x = l.take a ++ (splice (seg l a n) off x ++ l.drop (a + n)) := by
    conv => lhs; rw [e]
    rw [splice_append_right _ _ _ _ _ ha.symm, splice_append_left _ _ _ _ (by omega)]
  rw [e2]
  have hsp : (splice (seg l a n) off x).length = n := by rw [splice_length _ _ _ (by omega), hs]
  have := seg_append_right' (l.take a) (splice (seg l a n) off x ++ l.drop (a + n)) a 0 n ha.symm
  simp only [Nat.add_zero] at this
  rw [this, seg_append_left _ _ _ _ (by omega)]
  have h2 := seg_all (splice (seg l a n) off x)
  rw [hsp] at h2
  exact h2

/-! ## Layout -/

def Sk.off : Sk → Path → Option (Nat × Sk)
  | s, [] => some (0, s)
  | .pair a _, .fst :: p => a.off p
  | .pair a b, .snd :: p => (b.off p).map fun x => (a.size + x.1, x.2)
  | .arr n t, .idx i :: p => if 0 ≤ i ∧ i < n then (t.off p).map fun x => (i.toNat * t.size + x.1, x.2) else none
  | _, _ => none

theorem Ty.sk_size : (t : Ty) → t.sk.size = t.size
  | .int _ => rfl
  | .bool => rfl
  | .str => rfl
  | .unit => rfl
  | .pair a b => by simp only [Ty.sk, Sk.size, Ty.size, Ty.sk_size a, Ty.sk_size b]
  | .arr n t => by simp only [Ty.sk, Sk.size, Ty.size, Ty.sk_size t]
  | .sl _ t => rfl
  | .ptr _ => rfl
  | .fn _ _ => rfl
theorem Sk.same_eq : {a b : Sk} → a.same b = true → a = b
  | .leaf, .leaf, _ => rfl
  | .unit, .unit, _ => rfl
  | .pair a b, .pair c d, h => by
    simp only [Sk.same, Bool.and_eq_true] at h
    rw [Sk.same_eq h.1, Sk.same_eq h.2]
  | .arr n t, .arr m u, h => by
    simp only [Sk.same, Bool.and_eq_true] at h
    rw [Nat.eq_of_beq_eq_true h.1, Sk.same_eq h.2]
  | .leaf, .unit, h | .leaf, .pair _ _, h | .leaf, .arr _ _, h | .unit, .leaf, h | .unit, .pair _ _, h | .unit, .arr _ _, h
  | .pair _ _, .leaf, h | .pair _ _, .unit, h | .pair _ _, .arr _ _, h | .arr _ _, .leaf, h | .arr _ _, .unit, h | .arr _ _, .pair _ _, h => by simp [Sk.same] at h
theorem Sk.off_le : {s : Sk} → {p : Path} → {o : Nat} → {s' : Sk} → s.off p = some (o, s') → o + s'.size ≤ s.size
  | s, [], o, s', h => by simp only [Sk.off, Option.some.injEq, Prod.mk.injEq] at h; obtain ⟨rfl, rfl⟩ := h; omega
  | .pair a b, .fst :: p, o, s', h => by
    simp only [Sk.off] at h
    have := Sk.off_le h; simp only [Sk.size]; omega
  | .pair a b, .snd :: p, o, s', h => by
    simp only [Sk.off, Option.map_eq_some_iff, Prod.mk.injEq] at h
    obtain ⟨x, hx, rfl, rfl⟩ := h
    have := Sk.off_le (s := b) (p := p) (o := x.1) (s' := x.2) hx; simp only [Sk.size]; omega
  | .arr n t, .idx i :: p, o, s', h => by
    simp only [Sk.off] at h
    split at h
    · rename_i hi
      simp only [Option.map_eq_some_iff, Prod.mk.injEq] at h
      obtain ⟨x, hx, rfl, rfl⟩ := h
      have := Sk.off_le (s := t) (p := p) (o := x.1) (s' := x.2) hx
      have h2 : (i.toNat + 1) * t.size ≤ n * t.size := Nat.mul_le_mul_right _ (by omega)
      simp only [Sk.size]; rw [Nat.add_mul] at h2; omega
    · simp at h
  | .leaf, _ :: _, _, _, h | .unit, _ :: _, _, _, h | .pair _ _, .idx _ :: _, _, _, h | .arr _ _, .fst :: _, _, _, h | .arr _ _, .snd :: _, _, _, h => by simp [Sk.off] at h
theorem Sk.off_append : {s : Sk} → {p : Path} → {o : Nat} → {s' : Sk} → (q : Path) → s.off p = some (o, s') → s.off (p ++ q) = (s'.off q).map fun x => (o + x.1, x.2)
  | s, [], o, s', q, h => by simp only [Sk.off, Option.some.injEq, Prod.mk.injEq] at h; obtain ⟨rfl, rfl⟩ := h; simp
  | .pair a b, .fst :: p, o, s', q, h => by
    simp only [Sk.off, List.cons_append] at h ⊢
    exact Sk.off_append q h
  | .pair a b, .snd :: p, o, s', q, h => by
    simp only [Sk.off, Option.map_eq_some_iff, Prod.mk.injEq, List.cons_append] at h ⊢
    obtain ⟨x, hx, rfl, rfl⟩ := h
    rw [Sk.off_append (s := b) (p := p) (o := x.1) (s' := x.2) q hx, Option.map_map]
    congr 1; funext y; simp [Nat.add_assoc]
  | .arr n t, .idx i :: p, o, s', q, h => by
    simp only [Sk.off, List.cons_append] at h ⊢
    split at h
    · simp only [Option.map_eq_some_iff, Prod.mk.injEq] at h
      obtain ⟨x, hx, rfl, rfl⟩ := h
      rw [Sk.off_append (s := t) (p := p) (o := x.1) (s' := x.2) q hx, Option.map_map]
      rename_i hi
      rw [if_pos hi]
      congr 1; funext y; simp [Nat.add_assoc]
    · simp at h
  | .leaf, _ :: _, _, _, _, h | .unit, _ :: _, _, _, _, h | .pair _ _, .idx _ :: _, _, _, _, h | .arr _ _, .fst :: _, _, _, _, h | .arr _ _, .snd :: _, _, _, _, h => by simp [Sk.off] at h

theorem idx_some {α : Type} {l : List α} {i : Int} {x : α} (h : idx l i = some x) : 0 ≤ i ∧ ∃ hi : i.toNat < l.length, l.get ⟨i.toNat, hi⟩ = x ∧ i < l.length := by
  cases i with
  | ofNat n =>
    simp only [idx] at h
    obtain ⟨hn, hx⟩ := List.getElem?_eq_some_iff.1 h
    exact ⟨Int.natCast_nonneg n, by simpa using hn, by simpa using hx, by show ((n : Nat) : Int) < _; omega⟩
  | negSucc n => simp [idx] at h

variable {R : Type}

/-- A part of data, in the same cells. -/
theorem getK_rep {w : World} {g : Ghost} : {t : Ty} → {d : t.den} → {p : Path} → {k : (u : Ty) → u.den → Option R} → {r : R} → {cs : List Value} →
    t.isRo = true → Rep w g none t d cs → getK t d p k = some r →
    ∃ u e off, k u e = some r ∧ u.isRo = true ∧ t.sk.off p = some (off, u.sk) ∧ Rep w g none u e (seg cs off u.size)
  | t, d, [], k, r, cs, ht, hrep, h => by
    have hk : k t d = some r := by cases t <;> simpa [getK] using h
    refine ⟨t, d, 0, hk, ht, ?_, ?_⟩
    · simp [Sk.off]
    · rw [← hrep.len, seg_all]; exact hrep
  | .pair a b, (x, y), .fst :: p, k, r, cs, ht, hrep, h => by
    simp only [getK] at h
    obtain ⟨c1, c2, rfl, h1, h2⟩ := hrep
    simp only [Ty.isRo, Bool.and_eq_true] at ht
    obtain ⟨u, e, off, hk, hu, ho, hr⟩ := getK_rep ht.1 h1 h
    refine ⟨u, e, off, hk, hu, by simpa [Ty.sk, Sk.off] using ho, ?_⟩
    have := Sk.off_le ho
    rw [Ty.sk_size, Ty.sk_size] at this
    rw [seg_append_left _ _ _ _ (by rw [h1.len]; exact this)]; exact hr
  | .pair a b, (x, y), .snd :: p, k, r, cs, ht, hrep, h => by
    simp only [getK] at h
    obtain ⟨c1, c2, rfl, h1, h2⟩ := hrep
    simp only [Ty.isRo, Bool.and_eq_true] at ht
    obtain ⟨u, e, off, hk, hu, ho, hr⟩ := getK_rep ht.2 h2 h
    refine ⟨u, e, a.sk.size + off, hk, hu, by simp [Ty.sk, Sk.off, ho], ?_⟩
    rw [seg_append_right' _ _ _ _ _ (by rw [h1.len, Ty.sk_size])]; exact hr
  | .arr n t, l, .idx i :: p, k, r, cs, ht, hrep, h => by
    simp only [getK, Option.bind_eq_some_iff] at h
    obtain ⟨x, hx, h⟩ := h
    obtain ⟨h0, hi, rfl, hlt⟩ := idx_some hx
    have ht' : t.isRo = true := by simpa [Ty.isRo] using ht
    have hl := hrep.1
    have hn : i.toNat < n := by rw [← hl]; exact hi
    obtain ⟨u, e, off, hk, hu, ho, hr⟩ := getK_rep ht' (hrep.2.2 _ hi) h
    refine ⟨u, e, i.toNat * t.sk.size + off, hk, hu, ?_, ?_⟩
    · simp only [Ty.sk, Sk.off]
      rw [if_pos ⟨h0, by omega⟩, ho]; rfl
    · have := Sk.off_le ho
      rw [Ty.sk_size, Ty.sk_size] at this
      rw [seg_seg _ _ _ _ _ this] at hr
      rw [Ty.sk_size]; exact hr
  | .sl true t, l, .idx i :: p, k, r, cs, ht, hrep, h => by simp [Ty.isRo] at ht
  | .sl false t, l, s :: p, k, r, cs, ht, hrep, h => by cases s <;> simp [getK] at h
  | .sl true t, l, .fst :: p, k, r, cs, ht, hrep, h => by simp [getK] at h
  | .sl true t, l, .snd :: p, k, r, cs, ht, hrep, h => by simp [getK] at h
  | .int _, _, s :: _, _, _, _, _, _, h => by cases s <;> simp [getK] at h
  | .bool, _, s :: _, _, _, _, _, _, h => by cases s <;> simp [getK] at h
  | .str, _, s :: _, _, _, _, _, _, h => by cases s <;> simp [getK] at h
  | .unit, _, s :: _, _, _, _, _, _, h => by cases s <;> simp [getK] at h
  | .ptr _, _, s :: _, _, _, _, _, _, h => by cases s <;> simp [getK] at h
  | .fn _ _, _, s :: _, _, _, _, _, _, h => by cases s <;> simp [getK] at h
  | .pair _ _, _, .idx _ :: _, _, _, _, _, _, h => by simp [getK] at h
  | .arr _ _, _, .fst :: _, _, _, _, _, _, h => by simp [getK] at h
  | .arr _ _, _, .snd :: _, _, _, _, _, _, h => by simp [getK] at h

end Go.Kz
