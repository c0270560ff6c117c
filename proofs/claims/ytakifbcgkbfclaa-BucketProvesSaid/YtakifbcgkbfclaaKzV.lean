/-
  Callees: what is asked of them; what a call leaves behind.
-/
import Derived.Test.YtakifbcgkbfclaaKzU
set_option linter.unusedVariables false
set_option linter.unusedSimpArgs false
namespace Go.Kz
variable {R : Type}

/-- A call of a function: it is entered, or answered at once. -/
def Runs (P : Program) (f : FuncId) (vals : Array Value) (w : World) (R : Value → World → Prop) : Prop :=
  ((callFunc f vals).run P w = .ok (.enter f vals) w ∧ Calls P f vals w fun e w' => ∃ v, e = .returned v ∧ R v w') ∨
  ∃ v w', (callFunc f vals).run P w = .ok (.value v) w' ∧ R v w'

def RoArgs (w : World) (g : Ghost) : (p : APat) → p.den → List Value → Prop
  | .pr (.val t) q, (x, y), v :: vs => t.isRo = true ∧ (∃ cs, Rep w g none t x cs ∧ v = mkV t.sk.isAgg cs) ∧ RoArgs w g q y vs
  | .un, _, [] => True
  | _, _, _ => False

def ResOK (w : World) (g : Ghost) (x : AVal × List Obj) (v : Value) : Prop := HeapOK w g (nthL x.2) ∧ VOK w g (nthL x.2) x.1 v

def CalleeOK (P : Program) (f : FuncId) : Callee → Prop
  | .pure p res F => ∀ w g d vals r, (∀ b, g.tag b ≠ .alien → g.tag b = .ro ∧ b < w.heap.size) → RoArgs w g p d vals → F d = some r →
      Runs P f vals.toArray w fun v w' => ∃ g', Ext w g w' g' ∧ ResOK w' g' (exposeRes res r 0) v
  | .mut _ _ _ _ => False

def EnvOK (P : Program) (env : Nat → List Callee) : Prop := ∀ f c, c ∈ env f → CalleeOK P f c

/-! ## The ghost behind a call -/

def mergeG (g gc : Ghost) (n len size : Nat) : Ghost where
  tag := fun b => if b < size then g.tag b else match gc.tag b with
    | .row i p => if i < len then .row (n + i) p else .alien
    | .box i => if i < len then .box (n + i) else .alien
    | t => t
  sv := fun i p => if n ≤ i ∧ i < n + len then gc.sv (i - n) p else g.sv i p
  blk := fun i => if n ≤ i ∧ i < n + len then gc.blk (i - n) else g.blk i

theorem addObjs_objs : (os : List Obj) → (σ : St) → (n id : Nat) → (σ.addObjs n os).objs id = if n ≤ id ∧ id < n + os.length then nthL os (id - n) else σ.objs id
  | [], σ, n, id => by simp [St.addObjs]; intro h1 h2; omega
  | o :: os, σ, n, id => by
    simp only [St.addObjs, addObjs_objs os, List.length_cons]
    by_cases h1 : id = n
    · subst h1
      rw [if_neg (by omega), if_pos (by omega)]
      simp only [St.setObj, upd_same, Nat.sub_self, nthL]
    · by_cases h2 : n + 1 ≤ id ∧ id < n + 1 + os.length
      · rw [if_pos h2, if_pos (by omega)]
        obtain ⟨j, rfl⟩ : ∃ j, id = n + 1 + j := ⟨id - (n + 1), by omega⟩
        have e1 : n + 1 + j - (n + 1) = j := by omega
        have e2 : n + 1 + j - n = j + 1 := by omega
        rw [e1, e2]; rfl
      · rw [if_neg h2, if_neg (by omega)]
        simp only [St.setObj]; rw [upd_other _ _ h1]
theorem addObjs_slots : (os : List Obj) → (σ : St) → (n : Nat) → (σ.addObjs n os).slots = σ.slots
  | [], _, _ => rfl
  | _ :: os, σ, n => by simp only [St.addObjs]; rw [addObjs_slots os]; rfl
theorem addObjs_next : (os : List Obj) → (σ : St) → (n : Nat) → (σ.addObjs n os).next = σ.next
  | [], _, _ => rfl
  | _ :: os, σ, n => by simp only [St.addObjs]; rw [addObjs_next os]; rfl

theorem Rep.noSl {w w' : World} {g g' : Ghost} : {o o' : Own} → {t : Ty} → {d : t.den} → {cs : List Value} → t.noSl = true → Rep w g o t d cs → Rep w' g' o' t d cs
  | _, _, .int _, _, _, _, h => h
  | _, _, .bool, _, _, _, h => h
  | _, _, .str, _, _, _, h => h
  | _, _, .unit, _, _, _, h => h
  | _, _, .pair a b, (x, y), _, ht, h => by
    obtain ⟨c1, c2, rfl, h1, h2⟩ := h
    simp only [Ty.noSl, Bool.and_eq_true] at ht
    exact ⟨c1, c2, rfl, Rep.noSl ht.1 h1, Rep.noSl ht.2 h2⟩
  | _, _, .arr n t, _, _, ht, h => ⟨h.1, h.2.1, fun i hi => Rep.noSl (by simpa [Ty.noSl] using ht) (h.2.2 i hi)⟩
  | _, _, .sl _ _, _, _, ht, _ => by simp [Ty.noSl] at ht
  | _, _, .ptr _, _, _, ht, _ => by simp [Ty.noSl] at ht
  | _, _, .fn _ _, _, _, ht, _ => by simp [Ty.noSl] at ht

theorem flat_ro : {t : Ty} → t.flat = true → t.isRo = true → t.noSl = true
  | .int _, _, _ => rfl
  | .bool, _, _ => rfl
  | .str, _, _ => rfl
  | .unit, _, _ => rfl
  | .pair a b, h, k => by
    simp only [Ty.flat, Bool.and_eq_true] at h
    simp only [Ty.isRo, Bool.and_eq_true] at k
    simp only [Ty.noSl, flat_ro h.1 k.1, flat_ro h.2 k.2, Bool.and_self]
  | .arr _ t, h, _ => h
  | .sl true t, _, k => by simp [Ty.isRo] at k
  | .sl false t, h, _ => by simp [Ty.flat, Ty.noSl] at h
  | .ptr _, h, _ => by simp [Ty.flat, Ty.noSl] at h
  | .fn _ _, h, _ => by simp [Ty.flat, Ty.noSl] at h

/-- How results are carried over: what is read-only in the callee's eyes is so in the caller's, or the results hold nothing of that kind. -/
def Carry (w : World) (g g' : Ghost) (t : Ty) : Prop := RoKept w g w g' ∨ t.flat = true

theorem Carry.rep {w : World} {g g' : Ghost} {t : Ty} (h : Carry w g g' t) (ht : t.isRo = true) {d : t.den} {cs : List Value} (hr : Rep w g none t d cs) : Rep w g' none t d cs := by
  rcases h with h | h
  · exact hr.kept h
  · exact Rep.noSl (flat_ro h ht) hr
theorem Carry.row {w : World} {g g' : Ghost} {t : Ty} (h : Carry w g g' (.sl true t)) {l : List t.den} {i j : Nat} (hm : Moved w g w g' i [] j []) {v : Value} (hr : Rep w g (some (i, [])) (.sl true t) l [v]) :
    Rep w g' (some (j, [])) (.sl true t) l [v] := by
  rcases h with h | h
  · exact Rep.move h (o := some (i, [])) (o' := some (j, [])) hm hr
  · obtain ⟨a, cap, hv, h0, h1, h2, h3⟩ := hr
    have hsv := hm.sv []
    simp only [List.append_nil] at hsv
    refine ⟨a, cap, hv, hsv.trans h0, h1, h2, ?_⟩
    rcases h3 with h3 | ⟨b, off, c, e, ha, ht, hb, hs, he⟩
    · exact .inl h3
    · have hk := hm.blk [] b (by simpa using ht)
      simp only [List.append_nil] at hk
      exact .inr ⟨b, off, c, e, ha, hk.1, hb, hs, fun i hi => Rep.noSl h (he i hi)⟩

theorem expose_objs : (t : Ty) → (d : t.den) → (n m : Nat) → (expose t d n).2 = (expose t d m).2 ∧ (expose.exposeC t d n).2 = (expose.exposeC t d m).2
  | .sl true t, l, n, m => ⟨rfl, rfl⟩
  | .sl false t, l, n, m => ⟨rfl, rfl⟩
  | .int _, _, _, _ => ⟨rfl, rfl⟩
  | .bool, _, _, _ => ⟨rfl, rfl⟩
  | .str, _, _, _ => ⟨rfl, rfl⟩
  | .unit, _, _, _ => ⟨rfl, rfl⟩
  | .arr _ _, _, _, _ => ⟨rfl, rfl⟩
  | .ptr _, _, _, _ => ⟨rfl, rfl⟩
  | .fn _ _, _, _, _ => ⟨rfl, rfl⟩
  | .pair a b, (x, y), n, m => by
    have ha := (expose_objs a x n m).1
    have hb := fun n m => (expose_objs b y n m).2
    have e2 : (expose.exposeC (.pair a b) (x, y) n).2 = (expose.exposeC (.pair a b) (x, y) m).2 := by
      simp only [expose.exposeC]
      rw [ha, hb _ (m + (expose a x m).2.length)]
    refine ⟨?_, e2⟩
    simp only [expose]
    cases (Ty.pair a b).isRo
    · simp only [cond_false]
      rw [ha, hb _ (m + (expose a x m).2.length)]
    · rfl

theorem expose_rows : (t : Ty) → (d : t.den) → (n : Nat) → (∀ o ∈ (expose t d n).2, ∃ u l, o = Obj.row u l 0 ∧ (t.flat = true → u.noSl = true)) ∧
    (∀ o ∈ (expose.exposeC t d n).2, ∃ u l, o = Obj.row u l 0 ∧ (t.flat = true → u.noSl = true))
  | .sl true t, l, n => ⟨by intro o ho; simp only [expose, List.mem_singleton] at ho; exact ⟨t, l, ho, fun h => h⟩, by simp [expose.exposeC]⟩
  | .sl false t, l, n => ⟨by simp [expose], by simp [expose.exposeC]⟩
  | .int _, _, _ => ⟨by simp [expose], by simp [expose.exposeC]⟩
  | .bool, _, _ => ⟨by simp [expose], by simp [expose.exposeC]⟩
  | .str, _, _ => ⟨by simp [expose], by simp [expose.exposeC]⟩
  | .unit, _, _ => ⟨by simp [expose], by simp [expose.exposeC]⟩
  | .arr _ _, _, _ => ⟨by simp [expose], by simp [expose.exposeC]⟩
  | .ptr _, _, _ => ⟨by simp [expose], by simp [expose.exposeC]⟩
  | .fn _ _, _, _ => ⟨by simp [expose], by simp [expose.exposeC]⟩
  | .pair a b, (x, y), n => by
    have ha := fun n => (expose_rows a x n).1
    have hb := fun n => (expose_rows b y n).2
    have e2 : ∀ o ∈ (expose.exposeC (.pair a b) (x, y) n).2, ∃ u l, o = Obj.row u l 0 ∧ ((Ty.pair a b).flat = true → u.noSl = true) := by
      intro o ho
      simp only [expose.exposeC, List.mem_append] at ho
      rcases ho with ho | ho
      · obtain ⟨u, l, h1, h2⟩ := ha _ o ho
        exact ⟨u, l, h1, fun h => h2 (by simp only [Ty.flat, Bool.and_eq_true] at h; exact h.1)⟩
      · obtain ⟨u, l, h1, h2⟩ := hb _ o ho
        exact ⟨u, l, h1, fun h => h2 (by simp only [Ty.flat, Bool.and_eq_true] at h; exact h.2)⟩
    refine ⟨?_, e2⟩
    intro o ho
    simp only [expose] at ho
    cases hr : (Ty.pair a b).isRo with
    | true => rw [hr] at ho; simp at ho
    | false =>
      rw [hr] at ho
      exact e2 o ho

/-- The objects that results bring, as the callee and as the caller count them. -/
structure Shift (gc g : Ghost) (n len : Nat) (oc o : Objs) : Prop where
  objs : ∀ i, i < len → o (n + i) = oc i
  sv : ∀ i p, i < len → g.sv (n + i) p = gc.sv i p

theorem Carry.left {w : World} {g g' : Ghost} {a b : Ty} (h : Carry w g g' (.pair a b)) : Carry w g g' a := by
  rcases h with h | h
  · exact .inl h
  · simp only [Ty.flat, Bool.and_eq_true] at h; exact .inr h.1
theorem Carry.right {w : World} {g g' : Ghost} {a b : Ty} (h : Carry w g g' (.pair a b)) : Carry w g g' b := by
  rcases h with h | h
  · exact .inl h
  · simp only [Ty.flat, Bool.and_eq_true] at h; exact .inr h.2

theorem expose_aok {w : World} {gc g : Ghost} {n len : Nat} {oc o : Objs} (hs : Shift gc g n len oc o) : (t : Ty) → (d : t.den) → (m : Nat) → Carry w gc g t →
    (∀ cs, m + (expose t d m).2.length ≤ len → AOK w gc oc (expose t d m).1 cs → AOK w g o (expose t d (n + m)).1 cs) ∧
    (∀ cs, m + (expose.exposeC t d m).2.length ≤ len → AOK w gc oc (expose.exposeC t d m).1 cs → AOK w g o (expose.exposeC t d (n + m)).1 cs)
  | .sl true t, l, m, hc => by
    refine ⟨fun cs hl h => ?_, fun cs _ h => h⟩
    obtain ⟨v, hv, hone, hx⟩ := h
    have hm : m < len := by simp only [expose, List.length_singleton] at hl; omega
    refine ⟨v, hv, hone, fun t l e he => ?_⟩
    rw [hs.objs m hm] at he
    obtain ⟨h1, h2⟩ := hx _ _ _ he
    exact ⟨h1, fun h => by rw [hs.sv m [] hm]; exact h2 h⟩
  | .sl false t, l, m, hc => ⟨fun cs _ h => ⟨h.1, hc.rep h.1 h.2⟩, fun cs _ h => h⟩
  | .int _, _, m, hc => ⟨fun cs _ h => ⟨h.1, hc.rep h.1 h.2⟩, fun cs _ h => h⟩
  | .bool, _, m, hc => ⟨fun cs _ h => ⟨h.1, hc.rep h.1 h.2⟩, fun cs _ h => h⟩
  | .str, _, m, hc => ⟨fun cs _ h => ⟨h.1, hc.rep h.1 h.2⟩, fun cs _ h => h⟩
  | .unit, _, m, hc => ⟨fun cs _ h => ⟨h.1, hc.rep h.1 h.2⟩, fun cs _ h => h⟩
  | .arr _ _, _, m, hc => ⟨fun cs _ h => ⟨h.1, hc.rep h.1 h.2⟩, fun cs _ h => h⟩
  | .ptr _, _, m, hc => ⟨fun cs _ h => ⟨h.1, hc.rep h.1 h.2⟩, fun cs _ h => h⟩
  | .fn _ _, _, m, hc => ⟨fun cs _ h => ⟨h.1, hc.rep h.1 h.2⟩, fun cs _ h => h⟩
  | .pair a b, (x, y), m, hc => by
    have ha := fun m => (expose_aok hs a x m hc.left).1
    have hb := fun m => (expose_aok hs b y m hc.right).2
    have hl : (expose a x (n + m)).2.length = (expose a x m).2.length := by rw [(expose_objs a x (n + m) m).1]
    have key : ∀ cs, m + ((expose a x m).2 ++ (expose.exposeC b y (m + (expose a x m).2.length)).2).length ≤ len →
        (∃ c1 c2, cs = c1 ++ c2 ∧ AOK w gc oc (expose a x m).1 c1 ∧ AOK w gc oc (expose.exposeC b y (m + (expose a x m).2.length)).1 c2) →
        ∃ c1 c2, cs = c1 ++ c2 ∧ AOK w g o (expose a x (n + m)).1 c1 ∧ AOK w g o (expose.exposeC b y (n + m + (expose a x (n + m)).2.length)).1 c2 := by
      intro cs hle ⟨c1, c2, hcs, h1, h2⟩
      rw [List.length_append] at hle
      refine ⟨c1, c2, hcs, ha m c1 (by omega) h1, ?_⟩
      rw [hl, Nat.add_assoc]
      exact hb _ c2 (by omega) h2
    refine ⟨fun cs hle h => ?_, fun cs hle h => key cs (by simpa only [expose.exposeC] using hle) h⟩
    simp only [expose] at hle h ⊢
    cases hr : (Ty.pair a b).isRo with
    | true =>
      rw [hr] at h
      simp only [cond_true] at h ⊢
      exact ⟨h.1, hc.rep h.1 h.2⟩
    | false =>
      rw [hr] at h hle
      simp only [cond_false] at h hle ⊢
      exact key cs hle h

theorem expose_agg : (t : Ty) → (d : t.den) → (n m : Nat) → (expose t d n).1.isAgg = (expose t d m).1.isAgg
  | .sl true t, l, n, m => rfl
  | .sl false t, l, n, m => rfl
  | .int _, _, _, _ => rfl
  | .bool, _, _, _ => rfl
  | .str, _, _, _ => rfl
  | .unit, _, _, _ => rfl
  | .arr _ _, _, _, _ => rfl
  | .ptr _, _, _, _ => rfl
  | .fn _ _, _, _, _ => rfl
  | .pair a b, (x, y), n, m => by
    simp only [expose]
    cases (Ty.pair a b).isRo <;> rfl
theorem expose_form : (t : Ty) → (d : t.den) → (n : Nat) → (∀ x y, (expose t d n).1 ≠ .pr x y) ∧ (expose t d n).1 ≠ .un ∧ ∀ c, (expose t d n).1 ≠ .tup c
  | .sl true t, l, n => ⟨by simp [expose], by simp [expose], by simp [expose]⟩
  | .sl false t, l, n => ⟨by simp [expose], by simp [expose], by simp [expose]⟩
  | .int _, _, _ => ⟨by simp [expose], by simp [expose], by simp [expose]⟩
  | .bool, _, _ => ⟨by simp [expose], by simp [expose], by simp [expose]⟩
  | .str, _, _ => ⟨by simp [expose], by simp [expose], by simp [expose]⟩
  | .unit, _, _ => ⟨by simp [expose], by simp [expose], by simp [expose]⟩
  | .arr _ _, _, _ => ⟨by simp [expose], by simp [expose], by simp [expose]⟩
  | .ptr _, _, _ => ⟨by simp [expose], by simp [expose], by simp [expose]⟩
  | .fn _ _, _, _ => ⟨by simp [expose], by simp [expose], by simp [expose]⟩
  | .pair a b, (x, y), n => by
    simp only [expose]
    cases (Ty.pair a b).isRo <;> simp

theorem expose_vok {w : World} {gc g : Ghost} {n len : Nat} {oc o : Objs} (hs : Shift gc g n len oc o) (t : Ty) (d : t.den) (m : Nat) (hc : Carry w gc g t) {v : Value}
    (hl : m + (expose t d m).2.length ≤ len) (h : VOK w gc oc (expose t d m).1 v) : VOK w g o (expose t d (n + m)).1 v := by
  obtain ⟨cs, hok, hv⟩ := VOK_cells h (expose_form t d m).2.2
  exact VOK_of_cells ((expose_aok hs t d m hc).1 cs hl hok) (by rw [hv, expose_agg t d (n + m) m]) (expose_form t d _).1 (expose_form t d _).2.1

theorem expose_ids : (t : Ty) → (d : t.den) → (n : Nat) → (∀ i ∈ (expose t d n).1.ids, n ≤ i ∧ i < n + (expose t d n).2.length) ∧ (∀ i ∈ (expose.exposeC t d n).1.ids, n ≤ i ∧ i < n + (expose.exposeC t d n).2.length)
  | .sl true t, l, n => ⟨by simp [expose, AVal.ids], by simp [expose.exposeC, AVal.ids]⟩
  | .sl false t, l, n => ⟨by simp [expose, AVal.ids], by simp [expose.exposeC, AVal.ids]⟩
  | .int _, _, _ => ⟨by simp [expose, AVal.ids], by simp [expose.exposeC, AVal.ids]⟩
  | .bool, _, _ => ⟨by simp [expose, AVal.ids], by simp [expose.exposeC, AVal.ids]⟩
  | .str, _, _ => ⟨by simp [expose, AVal.ids], by simp [expose.exposeC, AVal.ids]⟩
  | .unit, _, _ => ⟨by simp [expose, AVal.ids], by simp [expose.exposeC, AVal.ids]⟩
  | .arr _ _, _, _ => ⟨by simp [expose, AVal.ids], by simp [expose.exposeC, AVal.ids]⟩
  | .ptr _, _, _ => ⟨by simp [expose, AVal.ids], by simp [expose.exposeC, AVal.ids]⟩
  | .fn _ _, _, _ => ⟨by simp [expose, AVal.ids], by simp [expose.exposeC, AVal.ids]⟩
  | .pair a b, (x, y), n => by
    have ha := fun n => (expose_ids a x n).1
    have hb := fun n => (expose_ids b y n).2
    have e2 : ∀ i ∈ (expose.exposeC (.pair a b) (x, y) n).1.ids, n ≤ i ∧ i < n + (expose.exposeC (.pair a b) (x, y) n).2.length := by
      intro i hi
      simp only [expose.exposeC, AVal.ids, List.mem_append, List.length_append] at hi ⊢
      rcases hi with hi | hi
      · have := ha _ i hi; omega
      · have := hb _ i hi; omega
    refine ⟨?_, e2⟩
    intro i hi
    simp only [expose] at hi ⊢
    cases hr : (Ty.pair a b).isRo with
    | true => rw [hr] at hi; simp [AVal.ids] at hi
    | false =>
      rw [hr] at hi
      rw [cond_false] at hi ⊢; exact e2 i hi

end Go.Kz
