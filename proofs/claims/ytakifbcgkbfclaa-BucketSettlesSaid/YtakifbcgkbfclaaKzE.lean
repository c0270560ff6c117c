/-
  Parts replaced; abstract values in cells.
-/
import Derived.Test.YtakifbcgkbfclaaKzD
set_option linter.unusedVariables false
set_option linter.unusedSimpArgs false
namespace Go.Kz
variable {R : Type}

theorem Rep.anyOwn {w : World} {g : Ghost} : {o o' : Own} → {t : Ty} → {d : t.den} → {cs : List Value} → t.isRo = true → Rep w g o t d cs → Rep w g o' t d cs
  | _, _, .int _, _, _, _, h => h
  | _, _, .bool, _, _, _, h => h
  | _, _, .str, _, _, _, h => h
  | _, _, .unit, _, _, _, h => h
  | _, _, .pair a b, (x, y), _, ht, h => by
    simp only [Ty.isRo, Bool.and_eq_true] at ht
    obtain ⟨c1, c2, rfl, h1, h2⟩ := h
    exact ⟨c1, c2, rfl, Rep.anyOwn ht.1 h1, Rep.anyOwn ht.2 h2⟩
  | _, _, .arr n t, _, _, ht, h => ⟨h.1, h.2.1, fun i hi => Rep.anyOwn (by simpa [Ty.isRo] using ht) (h.2.2 i hi)⟩
  | _, _, .sl false t, _, _, _, h => h
  | _, _, .sl true t, _, _, ht, _ => by simp [Ty.isRo] at ht
  | _, _, .ptr t, _, _, _, h => h
  | _, _, .fn f t, _, _, _, h => h

theorem castK_some {a b : Ty} {d : a.den} {k : b.den → Option R} {r : R} (h : castK a b d k = some r) : ∃ e : a = b, k (cast (congrArg Ty.den e) d) = some r := by
  unfold castK at h
  split at h
  · rename_i x hx; exact ⟨x.down, h⟩
  · simp at h

theorem setI_length {α : Type} (l : List α) (i : Int) (x : α) : (setI l i x).length = l.length := by simp [setI]
theorem setI_get {α : Type} (l : List α) (i : Int) (x : α) (j : Nat) (hj : j < (setI l i x).length) :
    (setI l i x).get ⟨j, hj⟩ = if i.toNat = j then x else l.get ⟨j, by simpa [setI] using hj⟩ := by
  simp [setI, List.getElem_set]

/-- A part of read-only data replaced, in the same cells. -/
theorem setK_rep {w : World} {g : Ghost} : {t : Ty} → {d : t.den} → {p : Path} → {u : Ty} → {e : u.den} → {k : t.den → Option R} → {r : R} → {cs ecs : List Value} →
    t.isRo = true → Rep w g none t d cs → Rep w g none u e ecs → setK t d p u e k = some r →
    ∃ d' off, k d' = some r ∧ t.sk.off p = some (off, u.sk) ∧ Rep w g none t d' (splice cs off ecs)
  | t, d, [], u, e, k, r, cs, ecs, ht, hrep, hnew, h => by
    have hk : castK u t e k = some r := by cases t <;> simpa [setK] using h
    obtain ⟨rfl, hk⟩ := castK_some hk
    refine ⟨e, 0, hk, by simp [Sk.off], ?_⟩
    have : splice cs 0 ecs = ecs := by
      simp only [splice, List.take_zero, List.nil_append, Nat.zero_add]
      rw [hnew.len, ← hrep.len]; simp
    rw [this]; exact hnew
  | .pair a b, (x, y), .fst :: p, u, e, k, r, cs, ecs, ht, hrep, hnew, h => by
    simp only [setK] at h
    obtain ⟨c1, c2, rfl, h1, h2⟩ := hrep
    simp only [Ty.isRo, Bool.and_eq_true] at ht
    obtain ⟨d', off, hk, ho, hr⟩ := setK_rep ht.1 h1 hnew h
    refine ⟨_, off, hk, by simpa [Ty.sk, Sk.off] using ho, ?_⟩
    have := Sk.off_le ho
    rw [Ty.sk_size, Ty.sk_size] at this
    rw [splice_append_left _ _ _ _ (by rw [h1.len, hnew.len]; exact this)]
    exact ⟨_, _, rfl, hr, h2⟩
  | .pair a b, (x, y), .snd :: p, u, e, k, r, cs, ecs, ht, hrep, hnew, h => by
    simp only [setK] at h
    obtain ⟨c1, c2, rfl, h1, h2⟩ := hrep
    simp only [Ty.isRo, Bool.and_eq_true] at ht
    obtain ⟨d', off, hk, ho, hr⟩ := setK_rep ht.2 h2 hnew h
    refine ⟨_, a.sk.size + off, hk, by simp [Ty.sk, Sk.off, ho], ?_⟩
    rw [splice_append_right _ _ _ _ _ (by rw [h1.len, Ty.sk_size])]
    exact ⟨_, _, rfl, h1, hr⟩
  | .arr n t, l, .idx i :: p, u, e, k, r, cs, ecs, ht, hrep, hnew, h => by
    simp only [setK, Option.bind_eq_some_iff] at h
    obtain ⟨x, hx, h⟩ := h
    obtain ⟨h0, hi, rfl, hlt⟩ := idx_some hx
    have ht' : t.isRo = true := by simpa [Ty.isRo] using ht
    have hl := hrep.1
    have hcl := hrep.2.1
    have hn : i.toNat < n := by rw [← hl]; exact hi
    obtain ⟨d', off, hk, ho, hr⟩ := setK_rep ht' (hrep.2.2 _ hi) hnew h
    have hle := Sk.off_le ho
    rw [Ty.sk_size, Ty.sk_size] at hle
    have hin : (i.toNat + 1) * t.size ≤ n * t.size := Nat.mul_le_mul_right _ hn
    rw [Nat.add_mul] at hin
    refine ⟨_, i.toNat * t.sk.size + off, hk, ?_, ?_⟩
    · simp only [Ty.sk, Sk.off]
      rw [if_pos ⟨h0, by omega⟩, ho]; rfl
    · rw [Ty.sk_size]
      refine ⟨by rw [setI_length]; exact hl, ?_, fun j hj => ?_⟩
      · rw [splice_length _ _ _ (by rw [hnew.len]; omega)]; exact hcl
      · rw [setI_get]
        split
        · rename_i hij
          subst hij
          rw [splice_seg_inner _ _ _ _ _ (by rw [hnew.len]; exact hle) (by omega)]
          exact hr
        · rename_i hij
          have hj' : j < List.length l := by simpa [setI] using hj
          have hjn : j < n := by rw [← hl]; exact hj'
          rcases Nat.lt_or_gt_of_ne hij with hlt' | hgt
          · have h3 : (i.toNat + 1) * t.size ≤ j * t.size := Nat.mul_le_mul_right _ hlt'
            rw [Nat.add_mul] at h3
            rw [seg_splice_after _ _ _ _ _ (by rw [hnew.len]; omega) (by rw [hnew.len]; omega)]
            exact hrep.2.2 j hj'
          · have h3 : (j + 1) * t.size ≤ i.toNat * t.size := Nat.mul_le_mul_right _ hgt
            rw [Nat.add_mul] at h3
            rw [seg_splice_before _ _ _ _ _ (by omega) (by omega)]
            exact hrep.2.2 j hj'
  | .sl true t, l, .idx i :: p, _, _, k, r, cs, _, ht, hrep, _, h => by simp [Ty.isRo] at ht
  | .sl false t, l, s :: p, _, _, k, r, cs, _, ht, hrep, _, h => by cases s <;> simp [setK] at h
  | .sl true t, l, .fst :: p, _, _, k, r, cs, _, ht, hrep, _, h => by simp [setK] at h
  | .sl true t, l, .snd :: p, _, _, k, r, cs, _, ht, hrep, _, h => by simp [setK] at h
  | .int _, _, s :: _, _, _, _, _, _, _, _, _, _, h => by cases s <;> simp [setK] at h
  | .bool, _, s :: _, _, _, _, _, _, _, _, _, _, h => by cases s <;> simp [setK] at h
  | .str, _, s :: _, _, _, _, _, _, _, _, _, _, h => by cases s <;> simp [setK] at h
  | .unit, _, s :: _, _, _, _, _, _, _, _, _, _, h => by cases s <;> simp [setK] at h
  | .ptr _, _, s :: _, _, _, _, _, _, _, _, _, _, h => by cases s <;> simp [setK] at h
  | .fn _ _, _, s :: _, _, _, _, _, _, _, _, _, _, h => by cases s <;> simp [setK] at h
  | .pair _ _, _, .idx _ :: _, _, _, _, _, _, _, _, _, _, h => by simp [setK] at h
  | .arr _ _, _, .fst :: _, _, _, _, _, _, _, _, _, _, h => by simp [setK] at h
  | .arr _ _, _, .snd :: _, _, _, _, _, _, _, _, _, _, h => by simp [setK] at h

/-! ## Abstract values in cells -/

abbrev Objs := Nat → Option Obj

/-- Where an element of a row lies: the row's root is the slice value of the ghost. -/
def place (g : Ghost) (id : Nat) : (t : Ty) → (pre : Path) → (b off : Nat) → Path → Option (Nat × Nat)
  | _, _, b, off, [] => some (b, off)
  | .pair a _, pre, b, off, .fst :: p => place g id a (pre ++ [.fst]) b off p
  | .pair a c, pre, b, off, .snd :: p => place g id c (pre ++ [.snd]) b (off + a.size) p
  | .arr _ t, pre, b, off, .idx i :: p => place g id t (pre ++ [.idx i]) b (off + i.toNat * t.size) p
  | .sl true t, pre, _, _, .idx i :: p => match g.sv id pre with
    | .slice (some a) _ _ => place g id t (pre ++ [.idx i]) a.block (a.off + i.toNat * t.size) p
    | _ => none
  | _, _, _, _, _ => none

/-- A part of a slice value. -/
def subSlice (v : Value) (size : Nat) (a b : Int) : Value := match v with
  | .slice x _ cap => .slice (if cap - a.toNat = 0 then x else x.map (·.add (a.toNat * size))) (b - a).toNat (cap - a.toNat)
  | v => v

def AOK (w : World) (g : Ghost) (objs : Objs) : AVal → List Value → Prop
  | .data t d, cs => t.isRo = true ∧ Rep w g none t d cs
  | .nilS, cs => cs = [.slice none 0 0]
  | .ref id p ep, cs => ∃ v, cs = [v] ∧ v.oneCell' = true ∧ ∀ t l e, objs id = some (.row t l e) → ep ≤ e ∧ (e = ep → v = g.sv id p)
  | .view id p ep a b, cs => ∃ v, cs = [v] ∧ v.oneCell' = true ∧ ∀ t l e, objs id = some (.row t l e) → ep ≤ e ∧
      (e = ep → p = [] ∧ 0 ≤ a ∧ a ≤ b ∧ b ≤ (l.length : Int) ∧ v = subSlice (g.sv id p) t.size a b)
  | .bptr id p, cs => ∃ v, cs = [v] ∧ v.oneCell' = true ∧ ∀ a, objs id = some (.cell a) → ∃ off s, a.sk.off p = some (off, s) ∧ v = .pointer (some ⟨g.blk id, off, none⟩)
  | .eptr id p ep, cs => ∃ v, cs = [v] ∧ v.oneCell' = true ∧ ∀ t l e, objs id = some (.row t l e) → ep ≤ e ∧
      (e = ep → p ≠ [] ∧ ∃ b off, place g id (.sl true t) [] 0 0 p = some (b, off) ∧ v = .pointer (some ⟨b, off, none⟩))
  | .mref id, cs => ∃ v, cs = [v] ∧ v.oneCell' = true ∧ ∀ kt vt m, objs id = some (.map kt vt m) → v = .map (some (g.blk id))
  | .nv pt id p ep, cs => ∃ v, cs = [v] ∧ v.oneCell' = true ∧ ∀ t l e i h, objs id = some (.nest t l e i h) → ep ≤ nep pt p e i ∧
      (nep pt p e i = ep → (pt = false → v = g.sv id p) ∧ (pt = true → p ≠ [] ∧ ∃ b off, place g id (.sl true t) [] 0 0 p = some (b, off) ∧ v = .pointer (some ⟨b, off, none⟩)))
  | .clos f c, cs => ∃ vs, cs = [.func (.func f) #[] vs.toArray] ∧ AOK w g objs c vs
  | .agg c, cs => AOK w g objs c cs
  | .tup _, _ => False
  | .pr a b, cs => ∃ c1 c2, cs = c1 ++ c2 ∧ AOK w g objs a c1 ∧ AOK w g objs b c2
  | .un, cs => cs = []

theorem AOK.len {w : World} {g : Ghost} {objs : Objs} : {a : AVal} → {cs : List Value} → AOK w g objs a cs → cs.length = a.sk.size
  | .data t d, _, h => by rw [h.2.len]; simp [AVal.sk, Ty.sk_size]
  | .nilS, _, h => by cases h; rfl
  | .ref _ _ _, _, h => by obtain ⟨v, rfl, _⟩ := h; rfl
  | .view _ _ _ _ _, _, h => by obtain ⟨v, rfl, _⟩ := h; rfl
  | .bptr _ _, _, h => by obtain ⟨v, rfl, _⟩ := h; rfl
  | .eptr _ _ _, _, h => by obtain ⟨v, rfl, _⟩ := h; rfl
  | .mref _, _, h => by obtain ⟨v, rfl, _⟩ := h; rfl
  | .nv _ _ _ _, _, h => by obtain ⟨v, rfl, _⟩ := h; rfl
  | .clos _ _, _, h => by obtain ⟨v, rfl, _⟩ := h; rfl
  | .agg c, _, h => AOK.len (a := c) h
  | .tup _, _, h => h.elim
  | .pr a b, _, h => by
    obtain ⟨c1, c2, rfl, h1, h2⟩ := h
    simp only [List.length_append, AVal.sk, Sk.size, h1.len, h2.len]
  | .un, _, h => by cases h; rfl

def AVal.isAgg : AVal → Bool
  | .data t _ => t.sk.isAgg
  | .agg _ => true
  | _ => false
/-- The value that some cells are. -/
def mkV (agg : Bool) (cs : List Value) : Value := if agg then .agg cs.toArray else cs.headD undef

mutual
def VOK (w : World) (g : Ghost) (objs : Objs) : AVal → Value → Prop
  | .tup c, v => ∃ vs, v = .tuple vs.toArray ∧ VsOK w g objs c vs
  | .pr _ _, _ => False
  | .un, _ => False
  | a, v => ∃ cs, AOK w g objs a cs ∧ v = mkV a.isAgg cs
def VsOK (w : World) (g : Ghost) (objs : Objs) : AVal → List Value → Prop
  | .pr a b, vs => ∃ v r, vs = v :: r ∧ VOK w g objs a v ∧ VsOK w g objs b r
  | .un, vs => vs = []
  | _, _ => False
end

end Go.Kz
