/-
  States: what holds of the frame and of memory; what survives a step.
-/
import Derived.Test.YtakifbcgkbfclaaKzF
set_option linter.unusedVariables false
set_option linter.unusedSimpArgs false
namespace Go.Kz

/-- The entries of a map, in the order in which they came. -/
def MapRep (w : World) (g : Ghost) (kt vt : Ty) : List MapEntry → List (kt.den × vt.den) → Prop
  | [], [] => True
  | e :: es, (k, v) :: m => (∃ cs, Rep w g none kt k cs ∧ e.key = mkV kt.sk.isAgg cs) ∧ (∃ cs, Rep w g none vt v cs ∧ e.val = mkV vt.sk.isAgg cs) ∧ MapRep w g kt vt es m
  | _, _ => False
theorem MapRep.kept {w w' : World} {g g' : Ghost} (hr : RoKept w g w' g') {kt vt : Ty} : {es : List MapEntry} → {m : List (kt.den × vt.den)} → MapRep w g kt vt es m → MapRep w' g' kt vt es m
  | [], [], _ => trivial
  | _ :: _, (_, _) :: _, ⟨⟨c1, h1, e1⟩, ⟨c2, h2, e2⟩, h⟩ => ⟨⟨c1, h1.kept hr, e1⟩, ⟨c2, h2.kept hr, e2⟩, MapRep.kept hr h⟩
  | [], _ :: _, h => h.elim
  | _ :: _, [], h => h.elim

/-- All of a row of rows stands but what lies at p; the block b may turn. -/
structure Near (w : World) (g : Ghost) (w' : World) (g' : Ghost) (id : Nat) (p : Path) (b0 : Nat) : Prop where
  ro : RoKept w g w' g'
  sv : ∀ q, ¬ p <+: q → g'.sv id q = g.sv id q
  blk : ∀ q b, g.tag b = .row id q → ¬ p <+: q → g'.tag b = .row id q ∧ (b ≠ b0 → w'.heap[b]? = w.heap[b]?)
/-- A row of rows of which one row is elsewhere: whatever row is put there makes it whole. -/
def HoleOK (w : World) (g : Ghost) (id : Nat) (t : Ty) (l : List t.den) (p : Path) : Prop :=
  ∃ v b0 off c e pre, tyR t p = some v ∧ place g id (.sl true t) [] 0 0 p = some (b0, off) ∧ g.tag b0 = .row id pre ∧ pre.length < p.length ∧ w.heap[b0]? = some (.cells c e (0, 0)) ∧ off < c.size ∧
    ∀ (w' : World) (g' : Ghost) (l1 : List v.den) (x : Value), Near w g w' g' id p b0 → w'.heap[b0]? = some (.cells (splice c.toList off [x]).toArray e (0, 0)) → Rep w' g' (some (id, p)) (.sl true v) l1 [x] →
      ∀ {R : Type} (f : List t.den → Option R) (r : R), setK (.sl true t) l p (.sl true v) l1 f = some r → ∃ l2, f l2 = some r ∧ Rep w' g' (some (id, [])) (.sl true t) l2 [g'.sv id []]
def ObjOK (w : World) (g : Ghost) (objs : Objs) (id : Nat) : Obj → Prop
  | .row t l _ => t.isRo = true ∧ Rep w g (some (id, [])) (.sl true t) l [g.sv id []]
  | .cell a => ∃ c e, w.heap[g.blk id]? = some (.cells c e (0, 0)) ∧ g.tag (g.blk id) = .box id ∧ AOK w g objs a c.toList
  | .map kt vt m => ∃ es clock, w.heap[g.blk id]? = some (.map es clock) ∧ g.tag (g.blk id) = .box id ∧ kt.isRo = true ∧ vt.isRo = true ∧ MapRep w g kt vt es.toList m
  | .nest t l _ _ none => Rep w g (some (id, [])) (.sl true t) l [g.sv id []]
  | .nest t l _ _ (some p) => HoleOK w g id t l p

structure HeapOK (w : World) (g : Ghost) (objs : Objs) : Prop where
  objs : ∀ id o, objs id = some o → ObjOK w g objs id o
  tags : ∀ b, g.tag b ≠ .alien → b < w.heap.size

structure StOK (n : Nat) (g : Ghost) (w : World) (a : Act) (σ : St) : Prop where
  slots : ∀ i av, σ.slots i = some av → ∃ v, a.tmps[i]? = some v ∧ VOK w g σ.objs av v
  heap : HeapOK w g σ.objs
  size : a.tmps.size = n
  defers : a.defers = []

/-- Nothing speaks of the object m. -/
structure Fresh (g : Ghost) (σ : St) (m : Nat) : Prop where
  objs : σ.objs m = none
  row : ∀ b p, g.tag b ≠ .row m p
  box : ∀ b, g.tag b ≠ .box m
  slots : ∀ i av, σ.slots i = some av → m ∉ av.ids
  cells : ∀ id av, σ.objs id = some (.cell av) → m ∉ av.ids

/-- What is not the running function's own has not turned. -/
structure Ext (w : World) (g : Ghost) (w' : World) (g' : Ghost) : Prop where
  os : w'.os = w.os
  tape : w'.tape = w.tape
  output : w'.output = w.output
  size : w.heap.size ≤ w'.heap.size
  keep : ∀ b, b < w.heap.size → (g.tag b = .alien ∨ g.tag b = .ro) → w'.heap[b]? = w.heap[b]? ∧ g'.tag b = g.tag b

theorem Ext.refl (w : World) (g : Ghost) : Ext w g w g := ⟨rfl, rfl, rfl, Nat.le_refl _, fun _ _ _ => ⟨rfl, rfl⟩⟩
theorem Ext.trans {w w' w'' : World} {g g' g'' : Ghost} (h : Ext w g w' g') (k : Ext w' g' w'' g'') : Ext w g w'' g'' := by
  refine ⟨k.os.trans h.os, k.tape.trans h.tape, k.output.trans h.output, Nat.le_trans h.size k.size, fun b hb ht => ?_⟩
  obtain ⟨h1, h2⟩ := h.keep b hb ht
  obtain ⟨k1, k2⟩ := k.keep b (Nat.lt_of_lt_of_le hb h.size) (by rw [h2]; exact ht)
  exact ⟨k1.trans h1, k2.trans h2⟩
theorem Ext.ro {w w' : World} {g g' : Ghost} (h : Ext w g w' g') (ht : ∀ b, g.tag b ≠ .alien → b < w.heap.size) : RoKept w g w' g' :=
  ⟨fun b hb => let k := h.keep b (ht b (by rw [hb]; simp)) (.inr hb); ⟨k.2.trans hb, k.1⟩⟩

/-- One object between two states, as far as others speak of it. -/
def IdKept (g g' : Ghost) (id : Nat) (o o' : Option Obj) : Prop :=
  o' = none ∨
  (∃ t l l' e e', o = some (.row t l e) ∧ o' = some (.row t l' e') ∧ (e < e' ∨ (e' = e ∧ l'.length = l.length ∧ ∀ p, g'.sv id p = g.sv id p))) ∨
  (∃ a a', o = some (.cell a) ∧ o' = some (.cell a') ∧ a'.sk = a.sk ∧ g'.blk id = g.blk id) ∨
  (∃ kt vt m m', o = some (.map kt vt m) ∧ o' = some (.map kt vt m') ∧ g'.blk id = g.blk id) ∨
  (∃ t l l' e e' i i' h h', o = some (.nest t l e i h) ∧ o' = some (.nest t l' e' i' h') ∧ e ≤ e' ∧ i ≤ i' ∧ (e = e' → g'.sv id [] = g.sv id []) ∧ (i = i' → ∀ p, g'.sv id p = g.sv id p))

theorem place_congr {g g' : Ghost} {id : Nat} (h : ∀ p, g'.sv id p = g.sv id p) : {t : Ty} → {pre : Path} → {b off : Nat} → {p : Path} →
    place g' id t pre b off p = place g id t pre b off p
  | _, _, _, _, [] => by simp [place]
  | .pair a c, pre, b, off, .fst :: p => by simp only [place]; exact place_congr h
  | .pair a c, pre, b, off, .snd :: p => by simp only [place]; exact place_congr h
  | .arr n t, pre, b, off, .idx i :: p => by simp only [place]; exact place_congr h
  | .sl true t, pre, b, off, .idx i :: p => by
    simp only [place, h]
    split
    · exact place_congr h
    · rfl
  | .sl false t, _, _, _, s :: _ => by cases s <;> simp [place]
  | .sl true t, _, _, _, .fst :: _ => by simp [place]
  | .sl true t, _, _, _, .snd :: _ => by simp [place]
  | .int _, _, _, _, s :: _ => by cases s <;> simp [place]
  | .bool, _, _, _, s :: _ => by cases s <;> simp [place]
  | .str, _, _, _, s :: _ => by cases s <;> simp [place]
  | .unit, _, _, _, s :: _ => by cases s <;> simp [place]
  | .ptr _, _, _, _, s :: _ => by cases s <;> simp [place]
  | .fn _ _, _, _, _, s :: _ => by cases s <;> simp [place]
  | .pair _ _, _, _, _, .idx _ :: _ => by simp [place]
  | .arr _ _, _, _, _, .fst :: _ => by simp [place]
  | .arr _ _, _, _, _, .snd :: _ => by simp [place]

theorem AOK.frame {w w' : World} {g g' : Ghost} {objs objs' : Objs} (hr : RoKept w g w' g') : {a : AVal} → {cs : List Value} →
    (∀ id, id ∈ a.ids → IdKept g g' id (objs id) (objs' id)) → AOK w g objs a cs → AOK w' g' objs' a cs
  | .data t d, _, _, h => ⟨h.1, h.2.kept hr⟩
  | .nilS, _, _, h => h
  | .ref id p ep, _, hi, ⟨v, hv, hone, h⟩ => by
    refine ⟨v, hv, hone, fun t l e ho => ?_⟩
    rcases hi id (by simp [AVal.ids]) with hk | ⟨t0, l0, l1, e0, e1, h0, h1, hk⟩ | ⟨a, a', h0, h1, _⟩ | ⟨kt', vt', m0, m1, h0, h1, hmb⟩ | ⟨t0, l0, l1, e0, e1, i0, i1, h0', h1', h0, h1, hk⟩
    · rw [hk] at ho; simp at ho
    · rw [h1] at ho
      simp only [Option.some.injEq, Obj.row.injEq] at ho
      obtain ⟨rfl, hl, rfl⟩ := ho
      have := h _ _ _ h0
      rcases hk with hk | ⟨rfl, _, hsv⟩
      · exact ⟨by omega, fun he => by omega⟩
      · exact ⟨this.1, fun he => by rw [hsv]; exact this.2 he⟩
    · rw [h1] at ho; simp at ho
    · rw [h1] at ho; simp at ho
    · rw [h1] at ho; simp at ho
  | .view id p ep a b, _, hi, ⟨v, hv, hone, h⟩ => by
    refine ⟨v, hv, hone, fun t l e ho => ?_⟩
    rcases hi id (by simp [AVal.ids]) with hk | ⟨t0, l0, l1, e0, e1, h0, h1, hk⟩ | ⟨a, a', h0, h1, _⟩ | ⟨kt', vt', m0, m1, h0, h1, hmb⟩ | ⟨t0, l0, l1, e0, e1, i0, i1, h0', h1', h0, h1, hk⟩
    · rw [hk] at ho; simp at ho
    · rw [h1] at ho
      simp only [Option.some.injEq, Obj.row.injEq] at ho
      obtain ⟨rfl, hl, rfl⟩ := ho
      have := h _ _ _ h0
      rcases hk with hk | ⟨rfl, hlen, hsv⟩
      · exact ⟨by omega, fun he => by omega⟩
      · refine ⟨this.1, fun he => ?_⟩
        obtain ⟨hp, ha, hab, hb, hvv⟩ := this.2 he
        refine ⟨hp, ha, hab, ?_, by rw [hsv]; exact hvv⟩
        have : l = l1 := (eq_of_heq hl).symm
        rw [this, hlen]; exact hb
    · rw [h1] at ho; simp at ho
    · rw [h1] at ho; simp at ho
    · rw [h1] at ho; simp at ho
  | .bptr id p, _, hi, ⟨v, hv, hone, h⟩ => by
    refine ⟨v, hv, hone, fun a ho => ?_⟩
    rcases hi id (by simp [AVal.ids]) with hk | ⟨t0, l0, l1, e0, e1, h0, h1, hk⟩ | ⟨a0, a1, h0, h1, hs, hb⟩ | ⟨kt', vt', m0, m1, h0, h1, hmb⟩ | ⟨t0, l0, l1, e0, e1, i0, i1, h0', h1', h0, h1, hk⟩
    · rw [hk] at ho; simp at ho
    · rw [h1] at ho; simp at ho
    · rw [h1] at ho
      simp only [Option.some.injEq, Obj.cell.injEq] at ho
      subst ho
      rw [hs, hb]
      exact h _ h0
    · rw [h1] at ho; simp at ho
    · rw [h1] at ho; simp at ho
  | .eptr id p ep, _, hi, ⟨v, hv, hone, h⟩ => by
    refine ⟨v, hv, hone, fun t l e ho => ?_⟩
    rcases hi id (by simp [AVal.ids]) with hk | ⟨t0, l0, l1, e0, e1, h0, h1, hk⟩ | ⟨a, a', h0, h1, _⟩ | ⟨kt', vt', m0, m1, h0, h1, hmb⟩ | ⟨t0, l0, l1, e0, e1, i0, i1, h0', h1', h0, h1, hk⟩
    · rw [hk] at ho; simp at ho
    · rw [h1] at ho
      simp only [Option.some.injEq, Obj.row.injEq] at ho
      obtain ⟨rfl, hl, rfl⟩ := ho
      have := h _ _ _ h0
      rcases hk with hk | ⟨rfl, hlen, hsv⟩
      · exact ⟨by omega, fun he => by omega⟩
      · exact ⟨this.1, fun he => by rw [place_congr hsv]; exact this.2 he⟩
    · rw [h1] at ho; simp at ho
    · rw [h1] at ho; simp at ho
    · rw [h1] at ho; simp at ho
  | .mref id, _, hi, ⟨v, hv, hone, h⟩ => by
    refine ⟨v, hv, hone, fun kt vt m ho => ?_⟩
    rcases hi id (by simp [AVal.ids]) with hk | ⟨t0, l0, l1, e0, e1, h0, h1, hk⟩ | ⟨a, a', h0, h1, _⟩ | ⟨kt', vt', m0, m1, h0, h1, hmb⟩ | ⟨t0, l0, l1, e0, e1, i0, i1, h0', h1', h0, h1, hk⟩
    · rw [hk] at ho; simp at ho
    · rw [h1] at ho; simp at ho
    · rw [h1] at ho; simp at ho
    · rw [h1] at ho
      simp only [Option.some.injEq, Obj.map.injEq] at ho
      obtain ⟨rfl, rfl, _⟩ := ho
      rw [hmb]; exact h _ _ _ h0
    · rw [h1] at ho; simp at ho
  | .nv pt id p ep, _, hi, ⟨v, hv, hone, h⟩ => by
    refine ⟨v, hv, hone, fun t l e i h' ho => ?_⟩
    rcases hi id (by simp [AVal.ids]) with hk | ⟨t0, l0, l1, e0, e1, h0, h1, hk⟩ | ⟨a, a', h0, h1, _⟩ | ⟨kt', vt', m0, m1, h0, h1, hmb⟩ | ⟨t0, l0, l1, e0, e1, i0, i1, h0', h1', h0, h1, he, hi, hse, hsi⟩
    · rw [hk] at ho; simp at ho
    · rw [h1] at ho; simp at ho
    · rw [h1] at ho; simp at ho
    · rw [h1] at ho; simp at ho
    · rw [h1] at ho
      simp only [Option.some.injEq, Obj.nest.injEq] at ho
      obtain ⟨rfl, _, rfl, rfl, _⟩ := ho
      obtain ⟨hle, hx⟩ := h _ _ _ _ _ h0
      have hmono : nep pt p e0 i0 ≤ nep pt p e1 i1 := by
        unfold nep; split
        · exact he
        · exact hi
      refine ⟨Nat.le_trans hle hmono, fun heq => ?_⟩
      have heq0 : nep pt p e0 i0 = ep := by omega
      obtain ⟨hx1, hx2⟩ := hx heq0
      refine ⟨fun hp => ?_, fun hp => ?_⟩
      · subst hp
        rw [hx1 rfl]
        cases p with
        | nil =>
          simp only [nep] at heq heq0
          exact (hse (by omega)).symm
        | cons s q =>
          simp only [nep] at heq heq0
          exact (hsi (by omega) _).symm
      · subst hp
        have hii : i0 = i1 := by
          simp only [nep] at heq heq0; omega
        rw [place_congr (hsi hii)]
        exact hx2 rfl
  | .clos f c, _, hi, ⟨vs, hv, h⟩ => ⟨vs, hv, AOK.frame hr (a := c) (fun id h => hi id h) h⟩
  | .agg c, _, hi, h => AOK.frame hr (a := c) (fun id h => hi id h) h
  | .tup _, _, _, h => h.elim
  | .pr a b, _, hi, ⟨c1, c2, hc, h1, h2⟩ =>
    ⟨c1, c2, hc, AOK.frame hr (fun id h => hi id (by simp [AVal.ids, h])) h1, AOK.frame hr (fun id h => hi id (by simp [AVal.ids, h])) h2⟩
  | .un, _, _, h => h

theorem VOK_of_cells {w : World} {g : Ghost} {objs : Objs} {a : AVal} {v : Value} {cs : List Value} (h : AOK w g objs a cs) (hv : v = mkV a.isAgg cs)
    (h1 : ∀ x y, a ≠ .pr x y) (h2 : a ≠ .un) : VOK w g objs a v := by
  cases a with
  | tup c => exact h.elim
  | pr x y => exact absurd rfl (h1 x y)
  | un => exact absurd rfl h2
  | _ => exact ⟨cs, h, hv⟩
theorem VOK_cells {w : World} {g : Ghost} {objs : Objs} {a : AVal} {v : Value} (h : VOK w g objs a v) (ht : ∀ c, a ≠ .tup c) :
    ∃ cs, AOK w g objs a cs ∧ v = mkV a.isAgg cs := by
  cases a with
  | tup c => exact absurd rfl (ht c)
  | pr x y => exact h.elim
  | un => exact h.elim
  | _ => exact h

mutual
theorem VOK.frame {w w' : World} {g g' : Ghost} {objs objs' : Objs} (hr : RoKept w g w' g') : {a : AVal} → {v : Value} →
    (∀ id, id ∈ a.ids → IdKept g g' id (objs id) (objs' id)) → VOK w g objs a v → VOK w' g' objs' a v
  | .tup c, _, hi, h => by
    simp only [VOK] at h ⊢
    obtain ⟨vs, hv, h⟩ := h
    exact ⟨vs, hv, VsOK.frame hr (a := c) (fun id h => hi id (by simpa [AVal.ids] using h)) h⟩
  | .pr _ _, _, _, h => by simp only [VOK] at h
  | .un, _, _, h => by simp only [VOK] at h
  | .data t d, _, hi, h => by simp only [VOK] at h ⊢; obtain ⟨cs, h, hv⟩ := h; exact ⟨cs, AOK.frame hr hi h, hv⟩
  | .nilS, _, hi, h => by simp only [VOK] at h ⊢; obtain ⟨cs, h, hv⟩ := h; exact ⟨cs, AOK.frame hr hi h, hv⟩
  | .ref _ _ _, _, hi, h => by simp only [VOK] at h ⊢; obtain ⟨cs, h, hv⟩ := h; exact ⟨cs, AOK.frame hr hi h, hv⟩
  | .view _ _ _ _ _, _, hi, h => by simp only [VOK] at h ⊢; obtain ⟨cs, h, hv⟩ := h; exact ⟨cs, AOK.frame hr hi h, hv⟩
  | .bptr _ _, _, hi, h => by simp only [VOK] at h ⊢; obtain ⟨cs, h, hv⟩ := h; exact ⟨cs, AOK.frame hr hi h, hv⟩
  | .eptr _ _ _, _, hi, h => by simp only [VOK] at h ⊢; obtain ⟨cs, h, hv⟩ := h; exact ⟨cs, AOK.frame hr hi h, hv⟩
  | .mref _, _, hi, h => by simp only [VOK] at h ⊢; obtain ⟨cs, h, hv⟩ := h; exact ⟨cs, AOK.frame hr hi h, hv⟩
  | .nv _ _ _ _, _, hi, h => by simp only [VOK] at h ⊢; obtain ⟨cs, h, hv⟩ := h; exact ⟨cs, AOK.frame hr hi h, hv⟩
  | .clos _ _, _, hi, h => by simp only [VOK] at h ⊢; obtain ⟨cs, h, hv⟩ := h; exact ⟨cs, AOK.frame hr hi h, hv⟩
  | .agg _, _, hi, h => by simp only [VOK] at h ⊢; obtain ⟨cs, h, hv⟩ := h; exact ⟨cs, AOK.frame hr hi h, hv⟩
theorem VsOK.frame {w w' : World} {g g' : Ghost} {objs objs' : Objs} (hr : RoKept w g w' g') : {a : AVal} → {vs : List Value} →
    (∀ id, id ∈ a.ids → IdKept g g' id (objs id) (objs' id)) → VsOK w g objs a vs → VsOK w' g' objs' a vs
  | .pr a b, _, hi, h => by
    simp only [VsOK] at h ⊢
    obtain ⟨v, r, hv, h1, h2⟩ := h
    exact ⟨v, r, hv, VOK.frame hr (fun id h => hi id (by simp [AVal.ids, h])) h1, VsOK.frame hr (fun id h => hi id (by simp [AVal.ids, h])) h2⟩
  | .un, _, _, h => by simp only [VsOK] at h ⊢; exact h
  | .tup _, _, _, h => by simp only [VsOK] at h
  | .data _ _, _, _, h => by simp only [VsOK] at h
  | .nilS, _, _, h => by simp only [VsOK] at h
  | .ref _ _ _, _, _, h => by simp only [VsOK] at h
  | .view _ _ _ _ _, _, _, h => by simp only [VsOK] at h
  | .bptr _ _, _, _, h => by simp only [VsOK] at h
  | .eptr _ _ _, _, _, h => by simp only [VsOK] at h
  | .mref _, _, _, h => by simp only [VsOK] at h
  | .nv _ _ _ _, _, _, h => by simp only [VsOK] at h
  | .clos _ _, _, _, h => by simp only [VsOK] at h
  | .agg _, _, _, h => by simp only [VsOK] at h
end

/-- An object that a step leaves alone. -/
structure Same (w : World) (g : Ghost) (w' : World) (g' : Ghost) (id : Nat) : Prop where
  row : Moved w g w' g' id [] id []
  blk : g'.blk id = g.blk id
  box : g.tag (g.blk id) = .box id → g'.tag (g.blk id) = .box id ∧ w'.heap[g.blk id]? = w.heap[g.blk id]?

theorem ObjOK.frame {w w' : World} {g g' : Ghost} {objs objs' : Objs} (hr : RoKept w g w' g') {id : Nat} {o : Obj} (hs : Same w g w' g' id)
    (hi : ∀ a, o = .cell a → ∀ id, id ∈ a.ids → IdKept g g' id (objs id) (objs' id)) (h : ObjOK w g objs id o) : ObjOK w' g' objs' id o := by
  cases o with
  | row t l e =>
    refine ⟨h.1, ?_⟩
    have := hs.row.sv []
    simp only [List.append_nil] at this
    rw [this]
    exact Rep.move hr (o := some (id, [])) (o' := some (id, [])) hs.row h.2
  | cell a =>
    obtain ⟨c, e, hc, ht, hok⟩ := h
    obtain ⟨h1, h2⟩ := hs.box ht
    refine ⟨c, e, ?_, ?_, AOK.frame hr (hi a rfl) hok⟩
    · rw [hs.blk, h2]; exact hc
    · rw [hs.blk]; exact h1
  | map kt vt m =>
    obtain ⟨es, ck, hc, ht, h1, h2, hm⟩ := h
    obtain ⟨k1, k2⟩ := hs.box ht
    exact ⟨es, ck, by rw [hs.blk, k2]; exact hc, by rw [hs.blk]; exact k1, h1, h2, hm.kept hr⟩
  | nest t l e i hole =>
    have hsv : ∀ q, g'.sv id q = g.sv id q := fun q => by have := hs.row.sv q; simpa using this
    have hblk : ∀ q b, g.tag b = .row id q → g'.tag b = .row id q ∧ w'.heap[b]? = w.heap[b]? := fun q b hb => by have := hs.row.blk q b (by simpa using hb); simpa using this
    cases hole with
    | none =>
      have h' : Rep w g (some (id, [])) (.sl true t) l [g.sv id []] := h
      show Rep w' g' (some (id, [])) (.sl true t) l [g'.sv id []]
      rw [hsv]
      exact Rep.move hr (o := some (id, [])) (o' := some (id, [])) hs.row h'
    | some p =>
      obtain ⟨v, b0, off, c, ee, pre, hty, hpl, htag, hpre, hcell, hoff, hw⟩ := h
      obtain ⟨k1, k2⟩ := hblk _ _ htag
      refine ⟨v, b0, off, c, ee, pre, hty, by rw [place_congr hsv]; exact hpl, k1, hpre, by rw [k2]; exact hcell, hoff, fun w2 g2 l1 x hn hc2 hrep R f r hset => ?_⟩
      refine hw w2 g2 l1 x ⟨⟨fun b hb => ?_⟩, fun q hq => (hn.sv q hq).trans (hsv q), fun q b hb hq => ?_⟩ hc2 hrep f r hset
      · obtain ⟨j1, j2⟩ := hr.blk b hb
        obtain ⟨m1, m2⟩ := hn.ro.blk b j1
        exact ⟨m1, m2.trans j2⟩
      · obtain ⟨j1, j2⟩ := hblk q b hb
        obtain ⟨m1, m2⟩ := hn.blk q b j1 hq
        exact ⟨m1, fun hne => (m2 hne).trans j2⟩

theorem IdKept.refl (g : Ghost) (id : Nat) (o : Option Obj) : IdKept g g id o o := by
  cases o with
  | none => exact .inl rfl
  | some o => cases o with
    | row t l e => exact .inr (.inl ⟨t, l, l, e, e, rfl, rfl, .inr ⟨rfl, rfl, fun _ => rfl⟩⟩)
    | cell a => exact .inr (.inr (.inl ⟨a, a, rfl, rfl, rfl, rfl⟩))
    | map k v m => exact .inr (.inr (.inr (.inl ⟨k, v, m, m, rfl, rfl, rfl⟩)))
    | nest t l e i h => exact .inr (.inr (.inr (.inr ⟨t, l, l, e, e, i, i, h, h, rfl, rfl, Nat.le_refl _, Nat.le_refl _, fun _ => rfl, fun _ _ => rfl⟩)))
theorem IdKept.same {w w' : World} {g g' : Ghost} {id : Nat} {o : Option Obj} (hs : Same w g w' g' id) : IdKept g g' id o o := by
  cases o with
  | none => exact .inl rfl
  | some o => cases o with
    | row t l e => exact .inr (.inl ⟨t, l, l, e, e, rfl, rfl, .inr ⟨rfl, rfl, fun p => by have := hs.row.sv p; simpa using this⟩⟩)
    | cell a => exact .inr (.inr (.inl ⟨a, a, rfl, rfl, rfl, hs.blk⟩))
    | map k v m => exact .inr (.inr (.inr (.inl ⟨k, v, m, m, rfl, rfl, hs.blk⟩)))
    | nest t l e i h => exact .inr (.inr (.inr (.inr ⟨t, l, l, e, e, i, i, h, h, rfl, rfl, Nat.le_refl _, Nat.le_refl _, fun _ => by have := hs.row.sv []; simpa using this, fun _ p => by have := hs.row.sv p; simpa using this⟩)))

theorem put_get {a : Act} {d : Option Nat} {v : Value} {i : Nat} : (a.put d v).tmps[i]? = if d = some i ∧ i < a.tmps.size then some v else a.tmps[i]? := by
  cases d with
  | none => simp [Act.put]
  | some j =>
    simp only [Act.put, Option.some.injEq]
    rw [Array.getElem?_setIfInBounds]
    by_cases h : j = i
    · subst h
      by_cases h2 : j < a.tmps.size
      · simp [h2]
      · simp [h2]
    · simp [h]
theorem put_size {a : Act} {d : Option Nat} {v : Value} : (a.put d v).tmps.size = a.tmps.size := by cases d <;> simp [Act.put]
theorem put_defers {a : Act} {d : Option Nat} {v : Value} : (a.put d v).defers = a.defers := by cases d <;> simp [Act.put]
theorem eval_tmp {a : Act} {t : Nat} {v : Value} (h : a.tmps[t]? = some v) : a.eval (.tmp t) = v := by
  simp [Act.eval, Array.getD_eq_getD_getElem?, h]

end Go.Kz
