/-
  What abstract values mean in memory, and what survives when memory turns elsewhere.
-/
import Derived.Test.YtakifbcgkbfclaaKzB
set_option linter.unusedVariables false
set_option linter.unusedSimpArgs false
namespace Go.Kz

inductive Tag where
  | alien | ro | row (id : Nat) (p : Path) | box (id : Nat)

structure Ghost where
  tag : Nat → Tag
  sv : Nat → Path → Value
  blk : Nat → Nat

abbrev Own := Option (Nat × Path)
def stp (o : Own) (s : Step) : Own := o.map fun x => (x.1, x.2 ++ [s])
def seg (l : List Value) (off n : Nat) : List Value := (l.drop off).take n

/-- The cells `cs` hold the data `d` of type `t`; slices that are owned lie where the ghost says. -/
def Rep (w : World) (g : Ghost) : Own → (t : Ty) → t.den → List Value → Prop
  | _, .int k, n, cs => cs = [.int k n] ∧ k.min ≤ n ∧ n ≤ k.max
  | _, .bool, b, cs => cs = [.bool b]
  | _, .str, l, cs => ∃ s : ByteArray, cs = [.string s] ∧ s.data.toList = l ∧ s.size ≤ maxLen
  | _, .unit, _, cs => cs = []
  | o, .pair a b, (x, y), cs => ∃ c1 c2, cs = c1 ++ c2 ∧ Rep w g (stp o .fst) a x c1 ∧ Rep w g (stp o .snd) b y c2
  | o, .arr n t, l, cs => List.length l = n ∧ cs.length = n * t.size ∧
      ∀ (i : Nat) (h : i < List.length l), Rep w g (stp o (.idx i)) t (List.get l ⟨i, h⟩) (seg cs (i * t.size) t.size)
  | _, .sl false t, l, cs => ∃ a cap, cs = [.slice a (List.length l) cap] ∧ List.length l ≤ cap ∧ cap ≤ maxLen ∧
      (l ≠ [] → ∃ b off c e fz, a = some ⟨b, off, none⟩ ∧ g.tag b = .ro ∧ w.heap[b]? = some (.cells c e fz) ∧ off + List.length l * t.size ≤ c.size ∧
        ∀ (i : Nat) (h : i < List.length l), Rep w g none t (List.get l ⟨i, h⟩) (seg c.toList (off + i * t.size) t.size))
  | some (id, p), .sl true t, l, cs => ∃ a cap, cs = [.slice a (List.length l) cap] ∧ g.sv id p = .slice a (List.length l) cap ∧ List.length l ≤ cap ∧ cap ≤ maxLen ∧
      ((a = none ∧ l = [] ∧ cap = 0) ∨ ∃ b off c e, a = some ⟨b, off, none⟩ ∧ g.tag b = .row id p ∧ w.heap[b]? = some (.cells c e (0, 0)) ∧ off + cap * t.size ≤ c.size ∧
        ∀ (i : Nat) (h : i < List.length l), Rep w g (some (id, p ++ [.idx i])) t (List.get l ⟨i, h⟩) (seg c.toList (off + i * t.size) t.size))
  | none, .sl true _, _, _ => False
  | _, .ptr t, d, cs => ∃ b off c e fz, cs = [.pointer (some ⟨b, off, none⟩)] ∧ g.tag b = .ro ∧ w.heap[b]? = some (.cells c e fz) ∧ off + t.size ≤ c.size ∧
      Rep w g none t d (seg c.toList off t.size)
  | _, .fn f t, d, cs => ∃ vs, cs = [.func (.func f) #[] vs.toArray] ∧ Rep w g none t d vs

theorem seg_length {l : List Value} {off n : Nat} (h : off + n ≤ l.length) : (seg l off n).length = n := by
  simp only [seg, List.length_take, List.length_drop]; omega

theorem Rep.len {w : World} {g : Ghost} : {o : Own} → {t : Ty} → {d : t.den} → {cs : List Value} → Rep w g o t d cs → cs.length = t.size
  | _, .int _, _, _, h => by obtain ⟨rfl, _⟩ := h; rfl
  | _, .bool, _, _, h => by cases h; rfl
  | _, .str, _, _, h => by obtain ⟨s, rfl, _⟩ := h; rfl
  | _, .unit, _, _, h => by cases h; rfl
  | _, .pair a b, (x, y), _, h => by
    obtain ⟨c1, c2, rfl, h1, h2⟩ := h
    simp only [List.length_append, Ty.size, Rep.len h1, Rep.len h2]
  | _, .arr n t, _, _, h => h.2.1
  | _, .sl false t, _, _, h => by obtain ⟨a, cap, rfl, _⟩ := h; rfl
  | some (_, _), .sl true t, _, _, h => by obtain ⟨a, cap, rfl, _⟩ := h; rfl
  | none, .sl true t, _, _, h => h.elim
  | _, .ptr t, _, _, h => by obtain ⟨b, off, c, e, fz, rfl, _⟩ := h; rfl
  | _, .fn f t, _, _, h => by obtain ⟨vs, rfl, _⟩ := h; rfl

/-! ## What survives -/

/-- Memory and ghost as far as read-only data goes. -/
structure RoKept (w : World) (g : Ghost) (w' : World) (g' : Ghost) : Prop where
  blk : ∀ b, g.tag b = .ro → g'.tag b = .ro ∧ w'.heap[b]? = w.heap[b]?

/-- Positions carried from (id, p ++ ..) to (id', p' ++ ..). -/
structure Moved (w : World) (g : Ghost) (w' : World) (g' : Ghost) (id : Nat) (p : Path) (id' : Nat) (p' : Path) : Prop where
  sv : ∀ q, g'.sv id' (p' ++ q) = g.sv id (p ++ q)
  blk : ∀ q b, g.tag b = .row id (p ++ q) → g'.tag b = .row id' (p' ++ q) ∧ w'.heap[b]? = w.heap[b]?

def MovedO (w : World) (g : Ghost) (w' : World) (g' : Ghost) : Own → Own → Prop
  | some (id, p), some (id', p') => Moved w g w' g' id p id' p'
  | none, none => True
  | _, _ => False

theorem Moved.step {w w' : World} {g g' : Ghost} {id id' : Nat} {p p' : Path} (h : Moved w g w' g' id p id' p') (s : Step) :
    Moved w g w' g' id (p ++ [s]) id' (p' ++ [s]) := by
  refine ⟨fun q => ?_, fun q b hb => ?_⟩
  · have := h.sv ([s] ++ q); simpa using this
  · have := h.blk ([s] ++ q) b (by simpa using hb); simpa using this
theorem MovedO.step {w w' : World} {g g' : Ghost} : {o o' : Own} → (h : MovedO w g w' g' o o') → (s : Step) → MovedO w g w' g' (stp o s) (stp o' s)
  | some _, some _, h, s => Moved.step h s
  | none, none, _, _ => trivial
  | some _, none, h, _ => h.elim
  | none, some _, h, _ => h.elim

theorem Rep.move {w w' : World} {g g' : Ghost} (hr : RoKept w g w' g') : {o o' : Own} → {t : Ty} → {d : t.den} → {cs : List Value} →
    (hm : MovedO w g w' g' o o') → Rep w g o t d cs → Rep w' g' o' t d cs
  | _, _, .int _, _, _, _, h => h
  | _, _, .bool, _, _, _, h => h
  | _, _, .str, _, _, _, h => h
  | _, _, .unit, _, _, _, h => h
  | _, _, .pair a b, (x, y), _, hm, h => by
    obtain ⟨c1, c2, rfl, h1, h2⟩ := h
    exact ⟨c1, c2, rfl, Rep.move hr (hm.step _) h1, Rep.move hr (hm.step _) h2⟩
  | _, _, .arr n t, _, _, hm, h => ⟨h.1, h.2.1, fun i hi => Rep.move hr (hm.step _) (h.2.2 i hi)⟩
  | _, _, .sl false t, l, _, _, h => by
    obtain ⟨a, cap, rfl, h1, h2, h3⟩ := h
    refine ⟨a, cap, rfl, h1, h2, fun hn => ?_⟩
    obtain ⟨b, off, c, e, fz, ha, ht, hb, hs, he⟩ := h3 hn
    have hk := hr.blk b ht
    exact ⟨b, off, c, e, fz, ha, hk.1, hk.2.trans hb, hs, fun i hi => Rep.move hr (o := none) (o' := none) trivial (he i hi)⟩
  | some (id, p), some (id', p'), .sl true t, l, _, hm, h => by
    obtain ⟨a, cap, rfl, h0, h1, h2, h3⟩ := h
    have hm' : Moved w g w' g' id p id' p' := hm
    refine ⟨a, cap, rfl, ?_, h1, h2, ?_⟩
    · have := hm'.sv []; simp only [List.append_nil] at this; rw [this]; exact h0
    · rcases h3 with h3 | ⟨b, off, c, e, ha, ht, hb, hs, he⟩
      · exact .inl h3
      · have hk := hm'.blk [] b (by simpa using ht)
        simp only [List.append_nil] at hk
        exact .inr ⟨b, off, c, e, ha, hk.1, hk.2.trans hb, hs, fun i hi => Rep.move hr (o := some (id, p ++ [Step.idx (i : Int)])) (o' := some (id', p' ++ [Step.idx (i : Int)])) (hm'.step _) (he i hi)⟩
  | some _, none, .sl true _, _, _, hm, _ => hm.elim
  | none, _, .sl true _, _, _, _, h => h.elim
  | _, _, .ptr t, _, _, _, h => by
    obtain ⟨b, off, c, e, fz, rfl, ht, hb, hs, he⟩ := h
    have hk := hr.blk b ht
    exact ⟨b, off, c, e, fz, rfl, hk.1, hk.2.trans hb, hs, Rep.move hr (o := none) (o' := none) trivial he⟩
  | _, _, .fn f t, _, _, _, h => by
    obtain ⟨vs, rfl, he⟩ := h
    exact ⟨vs, rfl, Rep.move hr (o := none) (o' := none) trivial he⟩

/-- Read-only data stays what it is. -/
theorem Rep.kept {w w' : World} {g g' : Ghost} (hr : RoKept w g w' g') {t : Ty} {d : t.den} {cs : List Value} (h : Rep w g none t d cs) : Rep w' g' none t d cs :=
  Rep.move hr (o := none) (o' := none) trivial h

/-- What is owned becomes read-only. -/
structure Frozen (w : World) (g : Ghost) (w' : World) (g' : Ghost) (id : Nat) (p : Path) : Prop where
  blk : ∀ q b, g.tag b = .row id (p ++ q) → g'.tag b = .ro ∧ w'.heap[b]? = w.heap[b]?
def FrozenO (w : World) (g : Ghost) (w' : World) (g' : Ghost) : Own → Prop
  | some (id, p) => Frozen w g w' g' id p
  | none => True
theorem Frozen.step {w w' : World} {g g' : Ghost} {id : Nat} {p : Path} (h : Frozen w g w' g' id p) (s : Step) : Frozen w g w' g' id (p ++ [s]) :=
  ⟨fun q b hb => h.blk ([s] ++ q) b (by simpa using hb)⟩
theorem FrozenO.step {w w' : World} {g g' : Ghost} : {o : Own} → (h : FrozenO w g w' g' o) → (s : Step) → FrozenO w g w' g' (stp o s)
  | some _, h, s => Frozen.step h s
  | none, _, _ => trivial

theorem Ty.size_ro : (t : Ty) → t.ro.size = t.size
  | .int _ => rfl
  | .bool => rfl
  | .str => rfl
  | .unit => rfl
  | .pair a b => by simp only [Ty.ro, Ty.size, Ty.size_ro a, Ty.size_ro b]
  | .arr n t => by simp only [Ty.ro, Ty.size, Ty.size_ro t]
  | .sl _ t => rfl
  | .ptr _ => rfl
  | .fn _ _ => rfl

theorem toRo_pair (a b : Ty) (x : a.den) (y : b.den) : Ty.toRo (.pair a b) (x, y) = (Ty.toRo a x, Ty.toRo b y) := by
  have ha := Ty.den_ro a
  have hb := Ty.den_ro b
  unfold Ty.toRo
  have key : ∀ (A A' B B' : Type) (h1 : A' = A) (h2 : B' = B) (h3 : (A' × B') = (A × B)) (x : A) (y : B), cast h3.symm (x, y) = (cast h1.symm x, cast h2.symm y) := by
    intro A A' B B' h1 h2 h3 x y; subst h1; subst h2; rfl
  exact key _ _ _ _ ha hb (Ty.den_ro (.pair a b)) x y
theorem toRo_list (t : Ty) (l : List t.den) (h : List t.ro.den = List t.den) : cast h.symm l = l.map (Ty.toRo t) := by
  unfold Ty.toRo
  have key : ∀ (A A' : Type) (h1 : A' = A) (h3 : List A' = List A) (l : List A), cast h3.symm l = l.map (cast h1.symm) := by
    intro A A' h1 h3 l; subst h1; exact (List.map_id l).symm
  exact key _ _ (Ty.den_ro t) h l
theorem toRo_sl (o : Bool) (t : Ty) (l : List t.den) : Ty.toRo (.sl o t) l = (l.map (Ty.toRo t) : List t.ro.den) := toRo_list t l (Ty.den_ro (.sl o t))
theorem toRo_arr (n : Nat) (t : Ty) (l : List t.den) : Ty.toRo (.arr n t) l = (l.map (Ty.toRo t) : List t.ro.den) := toRo_list t l (Ty.den_ro (.arr n t))
theorem toRo_ptr (t : Ty) (d : t.den) : Ty.toRo (.ptr t) d = Ty.toRo t d := rfl
theorem toRo_fn (f : Nat) (t : Ty) (d : t.den) : Ty.toRo (.fn f t) d = Ty.toRo t d := rfl

theorem Rep.freeze {w w' : World} {g g' : Ghost} (hr : RoKept w g w' g') : {o : Own} → {t : Ty} → {d : t.den} → {cs : List Value} →
    (hm : FrozenO w g w' g' o) → Rep w g o t d cs → Rep w' g' none t.ro (Ty.toRo t d) cs
  | _, .int _, _, _, _, h => h
  | _, .bool, _, _, _, h => h
  | _, .str, _, _, _, h => h
  | _, .unit, _, _, _, h => h
  | _, .pair a b, (x, y), _, hm, h => by
    obtain ⟨c1, c2, rfl, h1, h2⟩ := h
    rw [toRo_pair]
    exact ⟨c1, c2, rfl, Rep.freeze hr (hm.step _) h1, Rep.freeze hr (hm.step _) h2⟩
  | _, .arr n t, l, _, hm, h => by
    rw [toRo_arr]
    refine ⟨by simpa using h.1, by rw [Ty.size_ro]; exact h.2.1, fun i hi => ?_⟩
    have hi' : i < List.length l := by simpa using hi
    have := Rep.freeze hr (hm.step _) (h.2.2 i hi')
    simp only [List.get_eq_getElem, List.getElem_map, Ty.size_ro] at this ⊢
    exact this
  | _, .sl false t, l, _, _, h => by
    obtain ⟨a, cap, rfl, h1, h2, h3⟩ := h
    rw [toRo_sl]
    refine ⟨a, cap, by simp, by simpa using h1, h2, fun hn => ?_⟩
    obtain ⟨b, off, c, e, fz, ha, ht, hb, hs, he⟩ := h3 (by intro h; exact hn (by rw [h]; rfl))
    have hk := hr.blk b ht
    refine ⟨b, off, c, e, fz, ha, hk.1, hk.2.trans hb, by simpa [Ty.size_ro] using hs, fun i hi => ?_⟩
    have hi' : i < List.length l := by simpa using hi
    have := Rep.freeze hr (o := none) trivial (he i hi')
    simp only [List.get_eq_getElem, List.getElem_map, Ty.size_ro] at this ⊢
    exact this
  | some (id, p), .sl true t, l, _, hm, h => by
    obtain ⟨a, cap, rfl, h0, h1, h2, h3⟩ := h
    have hm' : Frozen w g w' g' id p := hm
    rw [toRo_sl]
    refine ⟨a, cap, by simp, by simpa using h1, h2, fun hn => ?_⟩
    have hn' : l ≠ [] := by intro h; exact hn (by rw [h]; rfl)
    rcases h3 with h3 | ⟨b, off, c, e, ha, ht, hb, hs, he⟩
    · exact absurd h3.2.1 hn'
    · have hk := hm'.blk [] b (by simpa using ht)
      refine ⟨b, off, c, e, (0, 0), ha, hk.1, hk.2.trans hb, ?_, fun i hi => ?_⟩
      · have : List.length l * t.size ≤ cap * t.size := Nat.mul_le_mul_right _ h1
        simp only [List.length_map, Ty.size_ro]; omega
      · have hi' : i < List.length l := by simpa using hi
        have := Rep.freeze hr (o := some (id, p ++ [Step.idx (i : Int)])) (hm'.step _) (he i hi')
        simp only [List.get_eq_getElem, List.getElem_map, Ty.size_ro] at this ⊢
        exact this
  | none, .sl true _, _, _, _, h => h.elim
  | _, .ptr t, _, _, _, h => by
    obtain ⟨b, off, c, e, fz, rfl, ht, hb, hs, he⟩ := h
    have hk := hr.blk b ht
    rw [toRo_ptr]
    refine ⟨b, off, c, e, fz, rfl, hk.1, hk.2.trans hb, by rw [Ty.size_ro]; exact hs, ?_⟩
    rw [Ty.size_ro]
    exact Rep.freeze hr (o := none) trivial he
  | _, .fn f t, _, _, _, h => by
    obtain ⟨vs, rfl, he⟩ := h
    rw [toRo_fn]
    exact ⟨vs, rfl, Rep.freeze hr (o := none) trivial he⟩

end Go.Kz
