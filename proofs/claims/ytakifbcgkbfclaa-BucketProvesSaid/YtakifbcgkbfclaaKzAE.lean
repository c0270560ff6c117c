/-
  Cuts: what is forgotten, and how objects are numbered anew.
-/
import Derived.Test.YtakifbcgkbfclaaKzADF
set_option linter.unusedVariables false
set_option linter.unusedSimpArgs false
namespace Go.Kz
variable {R : Type}

theorem indexN_some {x : Nat} : {l : List Nat} → {k j : Nat} → indexN x l k = some j → ∃ d, j = k + d ∧ nthL l d = some x
  | [], _, _, h => by simp [indexN] at h
  | y :: l, k, j, h => by
    simp only [indexN] at h
    cases hb : Nat.beq y x with
    | true =>
      rw [hb] at h
      simp only [cond_true, Option.some.injEq] at h
      exact ⟨0, by omega, by simp [nthL, Nat.eq_of_beq_eq_true hb]⟩
    | false =>
      rw [hb] at h
      obtain ⟨d, hd, hn⟩ := indexN_some (l := l) h
      exact ⟨d + 1, by omega, hn⟩
theorem indexN_zero {x j : Nat} {l : List Nat} (h : indexN x l 0 = some j) : nthL l j = some x := by
  obtain ⟨d, hd, hn⟩ := indexN_some h
  rw [hd, Nat.zero_add]; exact hn
theorem indexN_nth {x : Nat} : {l : List Nat} → {k d : Nat} → l.Nodup → nthL l d = some x → indexN x l k = some (k + d)
  | [], _, d, _, h => by cases d <;> simp [nthL] at h
  | y :: l, k, 0, _, h => by
    simp only [nthL, Option.some.injEq] at h
    subst h
    simp [indexN, Nat.beq_refl]
  | y :: l, k, d + 1, hn, h => by
    simp only [List.nodup_cons] at hn
    have hm : x ∈ l := nthL_mem h
    have hne : Nat.beq y x = false := by
      cases hb : Nat.beq y x with
      | true => rw [Nat.eq_of_beq_eq_true hb] at hn; exact absurd hm hn.1
      | false => rfl
    simp only [indexN, hne, cond_false]
    rw [indexN_nth (l := l) hn.2 h]
    congr 1; omega
theorem nthL_some {α : Type} : {l : List α} → {i : Nat} → i < l.length → ∃ x, nthL l i = some x
  | [], _, h => by simp at h
  | x :: _, 0, _ => ⟨x, rfl⟩
  | _ :: l, i + 1, h => nthL_some (l := l) (by simpa using h)

theorem reachN_nodup {objs : Nat → Option Obj} : (n : Nat) → (todo seen : List Nat) → seen.Nodup → (reachN objs n todo seen).Nodup
  | 0, _, _, h => h
  | _ + 1, [], _, h => h
  | n + 1, x :: todo, seen, h => by
    simp only [reachN]
    cases hm : memN x seen with
    | true => exact reachN_nodup n _ _ h
    | false =>
      have hx : (seen ++ [x]).Nodup := by
        rw [List.nodup_append]
        refine ⟨h, by simp, fun a ha b hb => ?_⟩
        simp only [List.mem_singleton] at hb
        subst hb
        intro he; subst he
        exact memN_false.1 hm ha
      simp only [cond_false]
      split <;> exact reachN_nodup n _ _ hx

/-- The ghost of a state whose objects are numbered anew. -/
def renG (g : Ghost) (ids : List Nat) : Ghost where
  tag := fun b => match g.tag b with
    | .row i p => (match indexN i ids 0 with
      | some j => .row j p
      | none => .alien)
    | .box i => (match indexN i ids 0 with
      | some j => .box j
      | none => .alien)
    | t => t
  sv := fun j p => match nthL ids j with
    | some i => g.sv i p
    | none => undef
  blk := fun j => match nthL ids j with
    | some i => g.blk i
    | none => 0

section
variable {w : World} {g : Ghost} {ids : List Nat}

theorem renG_ro : RoKept w g w (renG g ids) := ⟨fun b hb => ⟨by simp [renG, hb], rfl⟩⟩
theorem renG_ext : Ext w g w (renG g ids) := by
  refine ⟨rfl, rfl, rfl, Nat.le_refl _, fun b _ ht => ⟨rfl, ?_⟩⟩
  rcases ht with ht | ht <;> simp [renG, ht]
theorem renG_sv {i j : Nat} (h : nthL ids j = some i) (p : Path) : (renG g ids).sv j p = g.sv i p := by simp [renG, h]
theorem renG_blk {i j : Nat} (h : nthL ids j = some i) : (renG g ids).blk j = g.blk i := by simp [renG, h]
theorem renG_moved (hn : ids.Nodup) {i j : Nat} (h : nthL ids j = some i) : Moved w g w (renG g ids) i [] j [] := by
  have hx := indexN_nth (k := 0) hn h
  rw [Nat.zero_add] at hx
  exact ⟨fun q => renG_sv h _, fun q b hb => ⟨by simp [renG, hb, hx], rfl⟩⟩
theorem renG_box (hn : ids.Nodup) {i j : Nat} (h : nthL ids j = some i) {b : Nat} (hb : g.tag b = .box i) : (renG g ids).tag b = .box j := by
  have hx := indexN_nth (k := 0) hn h
  rw [Nat.zero_add] at hx
  simp [renG, hb, hx]
theorem renG_lt {b m : Nat} (h : (∃ p, (renG g ids).tag b = .row m p) ∨ (renG g ids).tag b = .box m) : m < ids.length := by
  have key : ∀ i j, indexN i ids 0 = some j → j < ids.length := fun i j h => nthL_lt (indexN_zero h)
  simp only [renG] at h
  cases ht : g.tag b with
  | alien => rw [ht] at h; simp at h
  | ro => rw [ht] at h; simp at h
  | row i p =>
    rw [ht] at h
    cases hx : indexN i ids 0 with
    | none => simp [hx] at h
    | some j => simp [hx] at h; rw [← h]; exact key i j hx
  | box i =>
    rw [ht] at h
    cases hx : indexN i ids 0 with
    | none => simp [hx] at h
    | some j => simp [hx] at h; rw [← h]; exact key i j hx
theorem renG_alien {b : Nat} (h : (renG g ids).tag b ≠ .alien) : g.tag b ≠ .alien := by
  intro h'; simp [renG, h'] at h

/-- The objects of the two states. -/
structure RenObjs (objs : Objs) (ids : List Nat) (os : List Obj) : Prop where
  len : os.length = ids.length
  get : ∀ j i, nthL ids j = some i → ∃ o o', objs i = some o ∧ o.ren objs (fun i => indexN i ids 0) = some o' ∧ nthL os j = some o'

theorem renObjs_some {ρ : Nat → Option Nat} {objs : Objs} : {l : List Nat} → {os : List Obj} → renObjs ρ objs l = some os →
    os.length = l.length ∧ ∀ j i, nthL l j = some i → ∃ o o', objs i = some o ∧ o.ren objs ρ = some o' ∧ nthL os j = some o'
  | [], os, h => by
    simp only [renObjs, Option.some.injEq] at h
    subst h
    exact ⟨rfl, fun j i h => by simp [nthL] at h⟩
  | x :: l, os, h => by
    simp only [renObjs] at h
    split at h
    · rename_i o os' ho hos
      simp only [Option.some.injEq] at h
      subst h
      obtain ⟨h1, h2⟩ := renObjs_some hos
      refine ⟨by simp [h1], fun j i hj => ?_⟩
      cases j with
      | zero =>
        simp only [nthL, Option.some.injEq] at hj
        subst hj
        simp only [Option.bind_eq_some_iff] at ho
        obtain ⟨o0, h3, h4⟩ := ho
        exact ⟨o0, o, h3, h4, rfl⟩
      | succ j => exact h2 j i hj
    · simp at h

theorem ren_ok {objs : Objs} {os : List Obj} (hn : ids.Nodup) (ho : RenObjs objs ids os) : {a a' : AVal} → {cs : List Value} → a.ren objs (fun i => indexN i ids 0) = some a' → AOK w g objs a cs →
    AOK w (renG g ids) (nthL os) a' cs ∧ a'.sk = a.sk ∧ a'.isAgg = a.isAgg ∧ (∀ m ∈ a'.ids, m < ids.length) ∧ (∀ c, a ≠ .tup c) ∧ (∀ x y, a' = .pr x y → ∃ x' y', a = .pr x' y') ∧ (a' = .un → a = .un)
  | .data t d, a', cs, h, hok => by
    simp only [AVal.ren, Option.some.injEq] at h
    subst h
    exact ⟨⟨hok.1, hok.2.kept renG_ro⟩, rfl, rfl, by simp [AVal.ids], by simp, by simp, by simp⟩
  | .nilS, a', cs, h, hok => by
    simp only [AVal.ren, Option.some.injEq] at h
    subst h
    exact ⟨hok, rfl, rfl, by simp [AVal.ids], by simp, by simp, by simp⟩
  | .ref i p ep, a', cs, h, hok => by
    simp only [AVal.ren] at h
    split at h
    · rename_i t l e hobj
      cases hb : Nat.beq e ep with
      | false => rw [hb] at h; simp at h
      | true =>
        rw [hb] at h
        have he := Nat.eq_of_beq_eq_true hb
        subst he
        simp only [cond_true, Option.map_eq_some_iff] at h
        obtain ⟨j, hj, rfl⟩ := h
        have hjn := indexN_zero hj
        obtain ⟨v, hv, hone, hx⟩ := hok
        refine ⟨⟨v, hv, hone, fun t' l' e' he' => ?_⟩, rfl, rfl, by simpa [AVal.ids] using nthL_lt hjn, by simp, by simp, by simp⟩
        obtain ⟨o, o', h1, h2, h3⟩ := ho.get j i hjn
        rw [hobj] at h1
        simp only [Option.some.injEq] at h1
        subst h1
        simp only [Obj.ren, Option.some.injEq] at h2
        subst h2
        rw [h3] at he'
        simp only [Option.some.injEq, Obj.row.injEq] at he'
        obtain ⟨_, _, rfl⟩ := he'
        exact ⟨Nat.le_refl _, fun _ => by rw [renG_sv hjn]; exact (hx _ _ _ hobj).2 rfl⟩
    · simp at h
  | .view i p ep x y, a', cs, h, hok => by
    simp only [AVal.ren] at h
    split at h
    · rename_i t l e hobj
      cases hb : Nat.beq e ep with
      | false => rw [hb] at h; simp at h
      | true =>
        rw [hb] at h
        have he := Nat.eq_of_beq_eq_true hb
        subst he
        simp only [cond_true, Option.map_eq_some_iff] at h
        obtain ⟨j, hj, rfl⟩ := h
        have hjn := indexN_zero hj
        obtain ⟨v, hv, hone, hx⟩ := hok
        refine ⟨⟨v, hv, hone, fun t' l' e' he' => ?_⟩, rfl, rfl, by simpa [AVal.ids] using nthL_lt hjn, by simp, by simp, by simp⟩
        obtain ⟨o, o', h1, h2, h3⟩ := ho.get j i hjn
        rw [hobj] at h1
        simp only [Option.some.injEq] at h1
        subst h1
        simp only [Obj.ren, Option.some.injEq] at h2
        subst h2
        rw [h3] at he'
        simp only [Option.some.injEq, Obj.row.injEq] at he'
        obtain ⟨rfl, hl, rfl⟩ := he'
        have hl := eq_of_heq hl
        subst hl
        exact ⟨Nat.le_refl _, fun _ => by rw [renG_sv hjn]; exact (hx _ _ _ hobj).2 rfl⟩
    · simp at h
  | .bptr i p, a', cs, h, hok => by
    simp only [AVal.ren, Option.map_eq_some_iff] at h
    obtain ⟨j, hj, rfl⟩ := h
    have hjn := indexN_zero hj
    obtain ⟨v, hv, hone, hx⟩ := hok
    refine ⟨⟨v, hv, hone, fun y hy => ?_⟩, rfl, rfl, by simpa [AVal.ids] using nthL_lt hjn, by simp, by simp, by simp⟩
    obtain ⟨o, o', h1, h2, h3⟩ := ho.get j i hjn
    rw [h3] at hy
    simp only [Option.some.injEq] at hy
    subst hy
    cases o with
    | row t l e => simp [Obj.ren] at h2
    | map k v m => simp [Obj.ren] at h2
    | nest t l e i h => cases h <;> simp [Obj.ren] at h2
    | cell z =>
      simp only [Obj.ren, Option.map_eq_some_iff, Obj.cell.injEq] at h2
      obtain ⟨z', hz, rfl⟩ := h2
      obtain ⟨off, s, hoff, hvv⟩ := hx _ h1
      exact ⟨off, s, by rw [ren_sk hz]; exact hoff, by rw [renG_blk hjn]; exact hvv⟩
  | .mref i, a', cs, h, hok => by
    simp only [AVal.ren, Option.map_eq_some_iff] at h
    obtain ⟨j, hj, rfl⟩ := h
    have hjn := indexN_zero hj
    obtain ⟨v, hv, hone, hx⟩ := hok
    refine ⟨⟨v, hv, hone, fun kt vt m hm => ?_⟩, rfl, rfl, by simpa [AVal.ids] using nthL_lt hjn, by simp, by simp, by simp⟩
    obtain ⟨o, o', h1, h2, h3⟩ := ho.get j i hjn
    rw [h3] at hm
    simp only [Option.some.injEq] at hm
    subst hm
    cases o with
    | row t l e => simp [Obj.ren] at h2
    | cell z => simp [Obj.ren] at h2
    | nest t l e i h => cases h <;> simp [Obj.ren] at h2
    | map k' v' m' =>
      rw [renG_blk hjn]; exact hx _ _ _ h1
  | .nv pt i p ep, a', cs, h, hok => by
    simp only [AVal.ren] at h
    split at h
    · rename_i t l e i' hobj
      cases hb : Nat.beq (nep false p e i') ep with
      | false => rw [hb] at h; simp at h
      | true =>
        rw [hb] at h
        have he := Nat.eq_of_beq_eq_true hb
        simp only [cond_true, Option.map_eq_some_iff] at h
        obtain ⟨j, hj, rfl⟩ := h
        have hjn := indexN_zero hj
        obtain ⟨v, hv, hone, hx⟩ := hok
        refine ⟨⟨v, hv, hone, fun t' l' e' i'' h'' he' => ?_⟩, rfl, rfl, by simpa [AVal.ids] using nthL_lt hjn, by simp, by simp, by simp⟩
        obtain ⟨o, o', h1, h2, h3⟩ := ho.get j i hjn
        rw [hobj] at h1
        simp only [Option.some.injEq] at h1
        subst h1
        simp only [Obj.ren, Option.some.injEq] at h2
        subst h2
        rw [h3] at he'
        simp only [Option.some.injEq, Obj.nest.injEq] at he'
        obtain ⟨_, _, rfl, rfl, _⟩ := he'
        refine ⟨Nat.zero_le _, fun _ => ⟨fun _ => by rw [renG_sv hjn]; exact ((hx _ _ _ _ _ hobj).2 he).1 rfl, fun h => (by simp at h)⟩⟩
    · simp at h
  | .clos f c, a', cs, h, hok => by
    simp only [AVal.ren, Option.map_eq_some_iff] at h
    obtain ⟨c', hc, rfl⟩ := h
    obtain ⟨vs, hv, hx⟩ := hok
    obtain ⟨h1, h2, _, h3, _⟩ := ren_ok hn ho hc hx
    exact ⟨⟨vs, hv, h1⟩, rfl, rfl, h3, by simp, by simp, by simp⟩
  | .agg c, a', cs, h, hok => by
    simp only [AVal.ren, Option.map_eq_some_iff] at h
    obtain ⟨c', hc, rfl⟩ := h
    obtain ⟨h1, h2, _, h3, _⟩ := ren_ok hn ho hc (show AOK w g objs c cs from hok)
    exact ⟨h1, h2, rfl, h3, by simp, by simp, by simp⟩
  | .pr a b, a', cs, h, hok => by
    simp only [AVal.ren] at h
    split at h
    · rename_i x y hx hy
      simp only [Option.some.injEq] at h
      subst h
      obtain ⟨c1, c2, hcs, ok1, ok2⟩ := hok
      obtain ⟨h1, h2, _, h3, _⟩ := ren_ok hn ho hx ok1
      obtain ⟨k1, k2, _, k3, _⟩ := ren_ok hn ho hy ok2
      refine ⟨⟨c1, c2, hcs, h1, k1⟩, by simp [AVal.sk, h2, k2], rfl, fun m hm => ?_, by simp, fun _ _ _ => ⟨a, b, rfl⟩, by simp⟩
      simp only [AVal.ids, List.mem_append] at hm
      rcases hm with hm | hm
      · exact h3 m hm
      · exact k3 m hm
    · simp at h
  | .un, a', cs, h, hok => by
    simp only [AVal.ren, Option.some.injEq] at h
    subst h
    exact ⟨hok, rfl, rfl, by simp [AVal.ids], by simp, by simp, by simp⟩
  | .eptr _ _ _, a', cs, h, _ => by simp [AVal.ren] at h
  | .tup _, a', cs, h, _ => by simp [AVal.ren] at h
where ren_sk {objs : Objs} {ρ : Nat → Option Nat} : {a a' : AVal} → a.ren objs ρ = some a' → a'.sk = a.sk
  | .data t d, a', h => by simp only [AVal.ren, Option.some.injEq] at h; subst h; rfl
  | .nilS, a', h => by simp only [AVal.ren, Option.some.injEq] at h; subst h; rfl
  | .ref i p ep, a', h => by
    simp only [AVal.ren] at h
    split at h
    · rename_i t l e hobj
      cases hb : Nat.beq e ep with
      | false => rw [hb] at h; simp at h
      | true => rw [hb] at h; simp only [cond_true, Option.map_eq_some_iff] at h; obtain ⟨j, hj, rfl⟩ := h; rfl
    · simp at h
  | .view i p ep x y, a', h => by
    simp only [AVal.ren] at h
    split at h
    · rename_i t l e hobj
      cases hb : Nat.beq e ep with
      | false => rw [hb] at h; simp at h
      | true => rw [hb] at h; simp only [cond_true, Option.map_eq_some_iff] at h; obtain ⟨j, hj, rfl⟩ := h; rfl
    · simp at h
  | .bptr i p, a', h => by simp only [AVal.ren, Option.map_eq_some_iff] at h; obtain ⟨j, hj, rfl⟩ := h; rfl
  | .mref i, a', h => by simp only [AVal.ren, Option.map_eq_some_iff] at h; obtain ⟨j, hj, rfl⟩ := h; rfl
  | .nv pt i p ep, a', h => by
    simp only [AVal.ren] at h
    split at h
    · rename_i t l e i' hobj
      cases hb : Nat.beq (nep false p e i') ep with
      | false => rw [hb] at h; simp at h
      | true => rw [hb] at h; simp only [cond_true, Option.map_eq_some_iff] at h; obtain ⟨j, hj, rfl⟩ := h; rfl
    · simp at h
  | .clos f c, a', h => by simp only [AVal.ren, Option.map_eq_some_iff] at h; obtain ⟨j, hj, rfl⟩ := h; rfl
  | .agg c, a', h => by
    simp only [AVal.ren, Option.map_eq_some_iff] at h
    obtain ⟨c', hc, rfl⟩ := h
    simp only [AVal.sk, ren_sk hc]
  | .pr a b, a', h => by
    simp only [AVal.ren] at h
    split at h
    · rename_i x y hx hy
      simp only [Option.some.injEq] at h
      subst h
      simp only [AVal.sk, ren_sk hx, ren_sk hy]
    · simp at h
  | .un, a', h => by simp only [AVal.ren, Option.some.injEq] at h; subst h; rfl
  | .eptr _ _ _, a', h => by simp [AVal.ren] at h
  | .tup _, a', h => by simp [AVal.ren] at h

theorem ren_vok {objs : Objs} {os : List Obj} (hn : ids.Nodup) (ho : RenObjs objs ids os) {a a' : AVal} {v : Value} (h : a.ren objs (fun i => indexN i ids 0) = some a') (hv : VOK w g objs a v) :
    VOK w (renG g ids) (nthL os) a' v ∧ ∀ m ∈ a'.ids, m < ids.length := by
  have ht : ∀ c, a ≠ .tup c := by intro c hc; subst hc; simp [AVal.ren] at h
  obtain ⟨cs, hok, hmk⟩ := VOK_cells hv ht
  obtain ⟨h1, h2, h3, h4, h5, h6, h7⟩ := ren_ok hn ho h hok
  refine ⟨VOK_of_cells h1 (by rw [h3]; exact hmk) (fun x y he => ?_) (fun he => ?_), h4⟩
  · obtain ⟨x', y', rfl⟩ := h6 x y he
    simp only [VOK] at hv
  · have := h7 he
    subst this
    simp only [VOK] at hv

theorem ren_obj {objs : Objs} {os : List Obj} (hn : ids.Nodup) (ho : RenObjs objs ids os) {i j : Nat} (hj : nthL ids j = some i) {o o' : Obj} (h : o.ren objs (fun i => indexN i ids 0) = some o') (hok : ObjOK w g objs i o) :
    ObjOK w (renG g ids) (nthL os) j o' ∧ ∀ y, o' = .cell y → ∀ m ∈ y.ids, m < ids.length := by
  cases o with
  | row t l e =>
    simp only [Obj.ren, Option.some.injEq] at h
    subst h
    refine ⟨⟨hok.1, ?_⟩, by simp⟩
    rw [renG_sv hj]
    exact Rep.move renG_ro (o := some (i, [])) (o' := some (j, [])) (renG_moved hn hj) hok.2
  | cell y =>
    simp only [Obj.ren, Option.map_eq_some_iff] at h
    obtain ⟨y', hy, rfl⟩ := h
    obtain ⟨c, e, h1, h2, h3⟩ := hok
    obtain ⟨k1, _, _, k2, _⟩ := ren_ok hn ho hy h3
    refine ⟨⟨c, e, by rw [renG_blk hj]; exact h1, by rw [renG_blk hj]; exact renG_box hn hj h2, k1⟩, fun z hz => ?_⟩
    simp only [Obj.cell.injEq] at hz
    subst hz; exact k2
  | map kt vt m =>
    simp only [Obj.ren, Option.some.injEq] at h
    subst h
    obtain ⟨es, ck, h1, h2, h3, h4, h5⟩ := hok
    exact ⟨⟨es, ck, by rw [renG_blk hj]; exact h1, by rw [renG_blk hj]; exact renG_box hn hj h2, h3, h4, h5.kept renG_ro⟩, by simp⟩
  | nest t l e i' hole =>
    cases hole with
    | some p => simp [Obj.ren] at h
    | none =>
      simp only [Obj.ren, Option.some.injEq] at h
      subst h
      refine ⟨?_, by simp⟩
      show Rep w (renG g ids) (some (j, [])) (.sl true t) l [(renG g ids).sv j []]
      rw [renG_sv hj]
      exact Rep.move renG_ro (o := some (i, [])) (o' := some (j, [])) (renG_moved hn hj) (show Rep w g (some (i, [])) (.sl true t) l [g.sv i []] from hok)
end

theorem renSlots_some {objs : Objs} {ρ : Nat → Option Nat} : {l l' : List (Nat × AVal)} → renSlots objs ρ l = some l' → ∀ i a', getL l' i = some a' → ∃ a, getL l i = some a ∧ a.ren objs ρ = some a'
  | [], l', h, i, a', hi => by
    simp only [renSlots, Option.some.injEq] at h
    subst h
    simp [getL] at hi
  | (j, a) :: l, l', h, i, a', hi => by
    simp only [renSlots] at h
    split at h
    · rename_i a1 l1 h1 h2
      simp only [Option.some.injEq] at h
      subst h
      simp only [getL] at hi ⊢
      cases hb : Nat.beq j i with
      | true =>
        rw [hb] at hi
        simp only [cond_true, Option.some.injEq] at hi
        subst hi
        exact ⟨a, by simp, h1⟩
      | false =>
        rw [hb] at hi
        simp only [cond_false] at hi ⊢
        exact renSlots_some h2 i a' hi
    · simp at h
theorem liveSlots_some {σ : St} : {live : List Nat} → {l : List (Nat × AVal)} → liveSlots σ live = some l → ∀ i a, getL l i = some a → σ.slots i = some a
  | [], l, h, i, a, hi => by
    simp only [liveSlots, Option.some.injEq] at h
    subst h
    simp [getL] at hi
  | j :: live, l, h, i, a, hi => by
    simp only [liveSlots] at h
    split at h
    · rename_i a1 l1 h1 h2
      simp only [Option.some.injEq] at h
      subst h
      simp only [getL] at hi
      cases hb : Nat.beq j i with
      | true =>
        rw [hb] at hi
        simp only [cond_true, Option.some.injEq] at hi
        subst hi
        rw [← Nat.eq_of_beq_eq_true hb]; exact h1
      | false =>
        rw [hb] at hi
        exact liveSlots_some h2 i a hi
    · simp at h

section
variable {n : Nat} {w : World} {a : Act} {g : Ghost} {σ : St} {r : R}

theorem renum_ok {k : List (Nat × AVal) → List Obj → Option R} {l : List (Nat × AVal)} (hl : ∀ i a, getL l i = some a → σ.slots i = some a) (hst : StOK n g w a σ) (h : renumL l σ k = some r) :
    ∃ sl os g', k sl os = some r ∧ StOK n g' w a (St.of sl os) ∧ Ext w g w g' ∧ FreshUp g' (St.of sl os) := by
  unfold renumL at h
  simp only at h
  split at h
  · rename_i l' os hs hos
    have hnd : (reachN σ.objs 100 (l.flatMap fun x => x.2.ids) []).Nodup := reachN_nodup _ _ _ (by simp)
    generalize hids : reachN σ.objs 100 (l.flatMap fun x => x.2.ids) [] = ids at *
    obtain ⟨hlen, hget⟩ := renObjs_some hos
    have hro : RenObjs σ.objs ids os := ⟨hlen, hget⟩
    have hslot : ∀ i av, getL l' i = some av → ∃ v, a.tmps[i]? = some v ∧ VOK w (renG g ids) (nthL os) av v ∧ ∀ m ∈ av.ids, m < ids.length := by
      intro i av hi
      obtain ⟨a0, h1, h2⟩ := renSlots_some hs i av hi
      obtain ⟨v, hv, hok⟩ := hst.slots i a0 (hl i a0 h1)
      obtain ⟨k1, k2⟩ := ren_vok hnd hro h2 hok
      exact ⟨v, hv, k1, k2⟩
    have hobj : ∀ j o', nthL os j = some o' → ObjOK w (renG g ids) (nthL os) j o' ∧ ∀ y, o' = .cell y → ∀ m ∈ y.ids, m < ids.length := by
      intro j o' hj
      obtain ⟨i, hi⟩ := nthL_some (l := ids) (i := j) (by rw [← hlen]; exact nthL_lt hj)
      obtain ⟨o, o2, h1, h2, h3⟩ := hget j i hi
      rw [hj] at h3
      simp only [Option.some.injEq] at h3
      subst h3
      exact ren_obj hnd hro hi h2 (hst.heap.objs i o h1)
    refine ⟨l', os, renG g ids, h, ⟨fun i av hi => ?_, ⟨fun j o' hj => (hobj j o' hj).1, fun b hb => hst.heap.tags b (renG_alien hb)⟩, hst.size, hst.defers⟩, renG_ext, fun m hm => ?_⟩
    · obtain ⟨v, h1, h2, _⟩ := hslot i av hi
      exact ⟨v, h1, h2⟩
    · have hm' : ids.length ≤ m := by rw [← hlen]; exact hm
      refine ⟨?_, fun b p hb => ?_, fun b hb => ?_, fun i av hi hmem => ?_, fun j y hj hmem => ?_⟩
      · cases hc : nthL os m with
        | none => exact hc
        | some o => have := nthL_lt hc; omega
      · have := renG_lt (.inl ⟨p, hb⟩); omega
      · have := renG_lt (.inr hb); omega
      · obtain ⟨v, _, _, h3⟩ := hslot i av hi
        have := h3 m hmem; omega
      · have := (hobj j _ hj).2 y rfl m hmem; omega
  · simp at h
end

end Go.Kz
