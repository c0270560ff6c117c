/-
  Rows of rows turned: an element of one of the rows; a row put in its place; a row taken out.
-/
import Derived.Test.YtakifbcgkbfclaaKzR
set_option linter.unusedVariables false
set_option linter.unusedSimpArgs false
namespace Go.Kz
variable {R : Type}

theorem getK_at : (t : Ty) → (d : t.den) → (p : Path) → {k : (u : Ty) → u.den → Option R} → {r : R} → getK t d p k = some r →
    ∃ (u : Ty) (e : u.den), k u e = some r ∧ ∀ (R' : Type) (k' : (u : Ty) → u.den → Option R'), getK t d p k' = k' u e
  | t, d, [], k, r, h => ⟨t, d, by cases t <;> simpa [getK] using h, fun R' k' => by cases t <;> simp [getK]⟩
  | .pair a _, (x, _), .fst :: p, k, r, h => by simp only [getK] at h ⊢; exact getK_at a x p h
  | .pair _ b, (_, y), .snd :: p, k, r, h => by simp only [getK] at h ⊢; exact getK_at b y p h
  | .arr _ t, l, .idx i :: p, k, r, h => by
    simp only [getK] at h ⊢
    obtain ⟨x, hx, h⟩ := Option.bind_eq_some_iff.1 h
    obtain ⟨u, e, hk, ha⟩ := getK_at t x p h
    exact ⟨u, e, hk, fun R' k' => by rw [hx, Option.bind_some]; exact ha _ _⟩
  | .sl true t, l, .idx i :: p, k, r, h => by
    simp only [getK] at h ⊢
    obtain ⟨x, hx, h⟩ := Option.bind_eq_some_iff.1 h
    obtain ⟨u, e, hk, ha⟩ := getK_at t x p h
    exact ⟨u, e, hk, fun R' k' => by rw [hx, Option.bind_some]; exact ha _ _⟩
  | .int _, d, s :: p, k, r, h => by cases s <;> simp [getK] at h
  | .bool, d, s :: p, k, r, h => by cases s <;> simp [getK] at h
  | .str, d, s :: p, k, r, h => by cases s <;> simp [getK] at h
  | .unit, d, s :: p, k, r, h => by cases s <;> simp [getK] at h
  | .sl false _, d, s :: p, k, r, h => by cases s <;> simp [getK] at h
  | .ptr _, d, s :: p, k, r, h => by cases s <;> simp [getK] at h
  | .fn _ _, d, s :: p, k, r, h => by cases s <;> simp [getK] at h
  | .pair _ _, (_, _), .idx _ :: p, k, r, h => by simp [getK] at h
  | .arr _ _, d, .fst :: p, k, r, h => by simp [getK] at h
  | .arr _ _, d, .snd :: p, k, r, h => by simp [getK] at h
  | .sl true _, d, .fst :: p, k, r, h => by simp [getK] at h
  | .sl true _, d, .snd :: p, k, r, h => by simp [getK] at h

/-- Where a row can be put, there is one. -/
theorem setK_get : (t : Ty) → (d : t.den) → (p : Path) → {v : Ty} → {e : List v.den} → {f : t.den → Option R} → {r : R} → tyQ t p = some v → setK t d p (.sl true v) e f = some r →
    ∃ x : List v.den, ∀ (R' : Type) (k' : (u : Ty) → u.den → Option R'), getK t d p k' = k' (.sl true v) x
  | .sl true t, d, [], v, e, f, r, hq, h => by
    simp only [tyQ, Option.some.injEq] at hq
    subst hq
    exact ⟨d, fun R' k' => by simp [getK]⟩
  | .pair a _, (x, _), .fst :: p, v, e, f, r, hq, h => by simp only [setK, tyQ, getK] at h hq ⊢; exact setK_get a x p hq h
  | .pair _ b, (_, y), .snd :: p, v, e, f, r, hq, h => by simp only [setK, tyQ, getK] at h hq ⊢; exact setK_get b y p hq h
  | .arr _ t, l, .idx i :: p, v, e, f, r, hq, h => by
    simp only [setK, tyQ, getK] at h hq ⊢
    obtain ⟨x, hx, h⟩ := Option.bind_eq_some_iff.1 h
    obtain ⟨y, hy⟩ := setK_get t x p hq h
    exact ⟨y, fun R' k' => by rw [hx, Option.bind_some]; exact hy _ _⟩
  | .sl true t, l, .idx i :: p, v, e, f, r, hq, h => by
    simp only [setK, tyQ, getK] at h hq ⊢
    obtain ⟨x, hx, h⟩ := Option.bind_eq_some_iff.1 h
    obtain ⟨y, hy⟩ := setK_get t x p hq h
    exact ⟨y, fun R' k' => by rw [hx, Option.bind_some]; exact hy _ _⟩
  | .sl true _, _, .fst :: _, _, _, _, _, h, _ | .sl true _, _, .snd :: _, _, _, _, _, h, _ => by simp [tyQ] at h
  | .sl false _, _, p, _, _, _, _, h, _ => by cases p with | nil => simp [tyQ] at h | cons s q => cases s <;> simp [tyQ] at h
  | .int _, _, p, _, _, _, _, h, _ => by cases p with | nil => simp [tyQ] at h | cons s q => cases s <;> simp [tyQ] at h
  | .bool, _, p, _, _, _, _, h, _ => by cases p with | nil => simp [tyQ] at h | cons s q => cases s <;> simp [tyQ] at h
  | .str, _, p, _, _, _, _, h, _ => by cases p with | nil => simp [tyQ] at h | cons s q => cases s <;> simp [tyQ] at h
  | .unit, _, p, _, _, _, _, h, _ => by cases p with | nil => simp [tyQ] at h | cons s q => cases s <;> simp [tyQ] at h
  | .ptr _, _, p, _, _, _, _, h, _ => by cases p with | nil => simp [tyQ] at h | cons s q => cases s <;> simp [tyQ] at h
  | .fn _ _, _, p, _, _, _, _, h, _ => by cases p with | nil => simp [tyQ] at h | cons s q => cases s <;> simp [tyQ] at h
  | .pair _ _, _, [], _, _, _, _, h, _ => by simp [tyQ] at h
  | .pair _ _, _, .idx _ :: _, _, _, _, _, h, _ => by simp [tyQ] at h
  | .arr _ _, _, [], _, _, _, _, h, _ => by simp [tyQ] at h
  | .arr _ _, _, .fst :: _, _, _, _, _, h, _ | .arr _ _, _, .snd :: _, _, _, _, _, h, _ => by simp [tyQ] at h

theorem getK_row_ro {v : Ty} (hro : v.isRo = true) {l : List v.den} {j : Int} {q : Path} {k : (u : Ty) → u.den → Option R} {r : R} (h : getK (.sl true v) l (.idx j :: q) k = some r) : ∃ u x, k u x = some r ∧ u.isRo = true := by
  simp only [getK, Option.bind_eq_some_iff] at h
  obtain ⟨y, _, h⟩ := h
  exact getK_isRo hro h

theorem tyS_elem {j : Int} : {t : Ty} → {p : Path} → {v : Ty} → tyQ t p = some v → tyS t (p ++ [.idx j]) = some v.sk
  | .sl true t, [], v, hq => by
    simp only [tyQ, Option.some.injEq] at hq
    subst hq
    simp [tyS]
  | .pair a _, .fst :: p, v, hq => by simp only [tyQ, tyS, List.cons_append] at hq ⊢; exact tyS_elem hq
  | .pair _ c, .snd :: p, v, hq => by simp only [tyQ, tyS, List.cons_append] at hq ⊢; exact tyS_elem hq
  | .arr _ t, .idx i :: p, v, hq => by simp only [tyQ, tyS, List.cons_append] at hq ⊢; exact tyS_elem hq
  | .sl true t, .idx i :: p, v, hq => by simp only [tyQ, tyS, List.cons_append] at hq ⊢; exact tyS_elem hq
  | .sl true _, .fst :: _, _, h | .sl true _, .snd :: _, _, h => by simp [tyQ] at h
  | .sl false _, p, _, h => by cases p with | nil => simp [tyQ] at h | cons s q => cases s <;> simp [tyQ] at h
  | .int _, p, _, h => by cases p with | nil => simp [tyQ] at h | cons s q => cases s <;> simp [tyQ] at h
  | .bool, p, _, h => by cases p with | nil => simp [tyQ] at h | cons s q => cases s <;> simp [tyQ] at h
  | .str, p, _, h => by cases p with | nil => simp [tyQ] at h | cons s q => cases s <;> simp [tyQ] at h
  | .unit, p, _, h => by cases p with | nil => simp [tyQ] at h | cons s q => cases s <;> simp [tyQ] at h
  | .ptr _, p, _, h => by cases p with | nil => simp [tyQ] at h | cons s q => cases s <;> simp [tyQ] at h
  | .fn _ _, p, _, h => by cases p with | nil => simp [tyQ] at h | cons s q => cases s <;> simp [tyQ] at h
  | .pair _ _, [], _, h => by simp [tyQ] at h
  | .pair _ _, .idx _ :: _, _, h => by simp [tyQ] at h
  | .arr _ _, [], _, h => by simp [tyQ] at h
  | .arr _ _, .fst :: _, _, h | .arr _ _, .snd :: _, _, h => by simp [tyQ] at h

theorem lastIdx_eq : {p : Path} → {q : Path} → {j : Int} → {r : Path} → lastIdx p = some (q, j, r) → p = q ++ .idx j :: r
  | [], _, _, _, h => by simp [lastIdx] at h
  | s :: p, q, j, r, h => by
    simp only [lastIdx] at h
    split at h
    · rename_i q' j' r' hl
      simp only [Option.some.injEq, Prod.mk.injEq] at h
      obtain ⟨rfl, rfl, rfl⟩ := h
      rw [lastIdx_eq hl]; rfl
    · split at h
      · simp only [Option.some.injEq, Prod.mk.injEq] at h
        obtain ⟨rfl, rfl, rfl⟩ := h
        rfl
      · simp at h
theorem pathEq_eq : {p q : Path} → pathEq p q = true → p = q
  | [], [], _ => rfl
  | .fst :: p, .fst :: q, h => by simp only [pathEq] at h; rw [pathEq_eq h]
  | .snd :: p, .snd :: q, h => by simp only [pathEq] at h; rw [pathEq_eq h]
  | .idx i :: p, .idx j :: q, h => by
    simp only [pathEq, Bool.and_eq_true, decide_eq_true_eq] at h
    rw [h.1, pathEq_eq h.2]
  | [], _ :: _, h | _ :: _, [], h => by simp [pathEq] at h
  | .fst :: _, .snd :: _, h | .fst :: _, .idx _ :: _, h | .snd :: _, .fst :: _, h | .snd :: _, .idx _ :: _, h | .idx _ :: _, .fst :: _, h | .idx _ :: _, .snd :: _, h => by simp [pathEq] at h

section
variable {w : World} {g : Ghost} {σ : St}

/-- A step of the state: what stands behind every object. -/
theorem StOK.step {n : Nat} {w' : World} {a : Act} {g' : Ghost} {σ' : St} {m : Nat} (hst : StOK n g w a σ) (hr : RoKept w g w' g') (hs : σ'.slots = σ.slots) (hm : Fresh g σ m ∨ IdKept g g' m (σ.objs m) (σ'.objs m))
    (hk : ∀ j, j ≠ m → IdKept g g' j (σ.objs j) (σ'.objs j))
    (hobj : ∀ j x, σ'.objs j = some x → ObjOK w' g' σ'.objs j x ∨ (σ.objs j = some x ∧ Same w g w' g' j)) (ht : ∀ b, g'.tag b ≠ .alien → b < w'.heap.size) : StOK n g' w' a σ' := by
  have hk' : ∀ j, (Fresh g σ m → j ≠ m) → IdKept g g' j (σ.objs j) (σ'.objs j) := by
    intro j hj
    by_cases he : j = m
    · rcases hm with hf | hm
      · exact absurd he (hj hf)
      · rw [he]; exact hm
    · exact hk j he
  refine ⟨fun i av hi => ?_, ⟨fun id x hx => ?_, ht⟩, hst.size, hst.defers⟩
  · rw [hs] at hi
    obtain ⟨u, hu, hok⟩ := hst.slots i av hi
    refine ⟨u, hu, VOK.frame hr (fun j hj => hk' j (fun hf he => ?_)) hok⟩
    subst he; exact hf.slots i av hi hj
  · rcases hobj id x hx with h | ⟨h, hsame⟩
    · exact h
    · refine ObjOK.frame hr hsame (fun y hy j hj => hk' j (fun hf he => ?_)) (hst.heap.objs id x h)
      subst he; subst hy; exact hf.cells id y h hj

/-- A store into a row that lies anywhere. -/
theorem row_store_at {id : Nat} {pp : Path} {t : Ty} {l : List t.den} {i : Int} {q : Path} {u : Ty} {d : u.den} {cs : List Value} {f : List t.den → Option R} {r : R} {hd : Value} (hro : t.isRo = true)
    (hrow : Rep w g (some (id, pp)) (.sl true t) l [hd]) (hrep : Rep w g none u d cs) (h : setK (.sl true t) l (.idx i :: q) u d f = some r) :
    ∃ l' b0 off0 n cp o' cc ee, f l' = some r ∧ l'.length = l.length ∧ g.sv id pp = .slice (some ⟨b0, off0, none⟩) n cp ∧ t.sk.off q = some (o', u.sk) ∧ w.heap[b0]? = some (.cells cc ee (0, 0)) ∧ g.tag b0 = .row id pp ∧
      off0 + i.toNat * t.size + o' + u.size ≤ cc.size ∧
      Rep (w.setRow b0 (splice cc.toList (off0 + i.toNat * t.size + o') cs).toArray) g (some (id, pp)) (.sl true t) l' [hd] := by
  simp only [setK, Option.bind_eq_some_iff] at h
  obtain ⟨x, hx, h⟩ := h
  obtain ⟨h0, hi, rfl, hlt⟩ := idx_some hx
  obtain ⟨ad, cap, hcs, hsv, hlc, hcm, hrow⟩ := hrow
  rcases hrow with ⟨_, hl, _⟩ | ⟨b, off, cc, ee, rfl, htag, hcell, hsz, helts⟩
  · rw [hl] at hi; simp at hi
  · have hel := Rep.anyOwn (o' := none) hro (helts _ hi)
    obtain ⟨d', o', hk, hoff, hr⟩ := setK_rep hro hel hrep h
    have hle := Sk.off_le hoff
    rw [Ty.sk_size, Ty.sk_size] at hle
    have hcap : (i.toNat + 1) * t.size ≤ cap * t.size := Nat.mul_le_mul_right _ (by omega)
    rw [Nat.add_mul] at hcap
    have hcl : cs.length = u.size := hrep.len
    have hccl : cc.toList.length = cc.size := Array.length_toList
    refine ⟨_, b, off, l.length, cap, o', cc, ee, hk, setI_length _ _ _, hsv, hoff, hcell, htag, by omega, some ⟨b, off, none⟩, cap, ?_, ?_, ?_, hcm, .inr ⟨b, off, (splice cc.toList (off + i.toNat * t.size + o') cs).toArray, ee, rfl, htag, ?_, ?_, fun j hj => ?_⟩⟩
    · rw [setI_length]; exact hcs
    · rw [setI_length]; exact hsv
    · rw [setI_length]; exact hlc
    · exact setRow_heap w b cc _ ee _ hcell
    · rw [List.size_toArray, splice_length _ _ _ (by rw [hcl, hccl]; omega), hccl]; exact hsz
    · have hRo : RoKept w g (w.setRow b (splice cc.toList (off + i.toNat * t.size + o') cs).toArray) g := (setRow_rewrote (id := id) _ (.inl ⟨pp, htag⟩)).ro
      have hj' : j < l.length := by rw [setI_length] at hj; exact hj
      have hjcap : (j + 1) * t.size ≤ cap * t.size := Nat.mul_le_mul_right _ (by omega)
      rw [Nat.add_mul] at hjcap
      rw [setI_get]
      refine Rep.anyOwn hro (o := none) ?_
      by_cases hij : i.toNat = j
      · rw [if_pos hij]
        subst hij
        rw [splice_seg_inner _ _ _ _ _ (by rw [hcl]; exact hle) (by rw [hccl]; omega)]
        exact hr.kept hRo
      · rw [if_neg hij]
        have hold := (Rep.anyOwn (o' := none) hro (helts j hj')).kept hRo
        rcases Nat.lt_or_gt_of_ne hij with hlt' | hgt
        · have h3 : (i.toNat + 1) * t.size ≤ j * t.size := Nat.mul_le_mul_right _ hlt'
          rw [Nat.add_mul] at h3
          rw [seg_splice_after _ _ _ _ _ (by rw [hcl]; omega) (by rw [hcl, hccl]; omega)]
          exact hold
        · have h3 : (j + 1) * t.size ≤ i.toNat * t.size := Nat.mul_le_mul_right _ hgt
          rw [Nat.add_mul] at h3
          rw [seg_splice_before _ _ _ _ _ (by omega) (by rw [hccl]; omega)]
          exact hold

theorem splice_id {l : List Value} {off : Nat} {x : Value} (h : off < l.length) (hs : seg l off 1 = [x]) : splice l off [x] = l := by
  rw [← hs]
  simp only [splice, seg]
  rw [List.length_take, List.length_drop, Nat.min_eq_left (by omega), ← List.drop_drop, List.append_assoc, List.take_append_drop, List.take_append_drop]

/-- An element of one of the rows. -/
theorem nest_store {id : Nat} {t : Ty} {l : List t.den} {e i : Nat} {s : Step} {p : Path} {v : Ty} {l1 : List v.den} {j : Int} {q : Path} {u : Ty} {d : u.den} {cs : List Value} {f : List t.den → Option R} {r : R} {b0 off0 : Nat}
    (hh : HeapOK w g σ.objs) (ho : σ.objs id = some (.nest t l e i none)) (hro : v.isRo = true) (hget : ∀ (R' : Type) (k' : (u : Ty) → u.den → Option R'), getK (.sl true t) l (s :: p) k' = k' (.sl true v) l1)
    (hrep : Rep w g none u d cs) (hpl : place g id (.sl true t) [] 0 0 (s :: p ++ .idx j :: q) = some (b0, off0))
    (h : (setK (.sl true v) l1 (.idx j :: q) u d fun l1 => setK (.sl true t) l (s :: p) (.sl true v) l1 f) = some r) :
    ∃ l' cc ee, f l' = some r ∧ w.heap[b0]? = some (.cells cc ee (0, 0)) ∧ g.tag b0 = .row id (s :: p) ∧ off0 + u.size ≤ cc.size ∧
      ObjOK (w.setRow b0 (splice cc.toList off0 cs).toArray) g (σ.setObj id (.nest t l' e i none)).objs id (.nest t l' e i none) := by
  have hobj : Rep w g (some (id, [])) (.sl true t) l [g.sv id []] := hh.objs id _ ho
  have hg : getK (.sl true t) l (s :: p) (fun u x => some (⟨u, x⟩ : (u : Ty) × u.den)) = some ⟨.sl true v, l1⟩ := hget _ _
  obtain ⟨U, X, bx, ox, _, _, _, hk, hplx, _, hty, _, _, _, _⟩ := nest_get hobj hg
  simp only [Option.some.injEq, Sigma.mk.injEq] at hk
  obtain ⟨rfl, _⟩ := hk
  have hq := tyU_Q hty
  cases s with
  | fst => simp [tyQ] at hq
  | snd => simp [tyQ] at hq
  | idx i0 =>
    have hq' : tyQ t p = some v := by simpa [tyQ] using hq
    obtain ⟨l1', bh, oh, ch, eh, ph, hk, hplh, htagh, hph, _, hcellh, hoh, hreph, hw⟩ := focus_row (focus w g id t) (pre := []) hq' hobj hg
    simp only [Option.some.injEq, Sigma.mk.injEq, heq_eq_eq, true_and] at hk
    subst hk
    simp only [List.nil_append] at hph hreph hw
    have hchl : ch.toList.length = ch.size := Array.length_toList
    obtain ⟨x, hx⟩ := List.length_eq_one_iff.1 (seg_length (l := ch.toList) (off := oh) (n := 1) (by omega))
    rw [hx] at hreph
    obtain ⟨l2, b2, o2, n2, cp2, o', cc, ee, hf, hll, hsv, hoff, hcell, htag, hsz, hrep2⟩ := row_store_at hro hreph hrep h
    have e1 := place_elem (j := j) (pre := []) (t := .sl true t) (b := 0) (off := 0) (x := (bx, ox)) hq hplx hsv
    have e2 := place_append e1 (tyS_elem hq) hoff
    have hpp : Step.idx i0 :: p ++ [Step.idx j] ++ q = .idx i0 :: p ++ .idx j :: q := by simp
    rw [hpp, hpl] at e2
    simp only [Option.some.injEq, Prod.mk.injEq] at e2
    obtain ⟨rfl, rfl⟩ := e2
    have hne : bh ≠ b0 := by
      intro he; subst he
      rw [htag] at htagh
      simp only [Tag.row.injEq, true_and] at htagh
      subst htagh
      omega
    have hRw := setRow_rewrote (w := w) (g := g) (id := id) (b0 := b0) (splice cc.toList (o2 + j.toNat * v.size + o') cs).toArray (.inl ⟨_, htag⟩)
    have hnear : Near w g (w.setRow b0 (splice cc.toList (o2 + j.toNat * v.size + o') cs).toArray) g id (.idx i0 :: p) bh := by
      refine ⟨hRw.ro, fun _ _ => rfl, fun q' b hb hq' => ⟨hb, fun _ => setRow_other w b0 b _ ?_⟩⟩
      intro he; subst he
      rw [htag] at hb
      simp only [Tag.row.injEq, true_and] at hb
      exact hq' (by rw [hb]; exact List.prefix_refl _)
    obtain ⟨l3, hf3, _, hrep3⟩ := hw _ g l2 x hnear (by
      rw [splice_id (by omega) hx, setRow_other w b0 bh _ hne]; simpa using hcellh) hrep2 _ _ hf
    exact ⟨l3, cc, ee, hf3, hcell, htag, hsz, hrep3⟩

/-- Whatever row is put in the place of one that is there makes the whole. -/
theorem hole_of_whole {id : Nat} {t : Ty} {l : List t.den} {p : Path} {v : Ty} {l1 : List v.den} (hobj : Rep w g (some (id, [])) (.sl true t) l [g.sv id []]) (hty : tyR t p = some v)
    (hget : ∀ (R' : Type) (k' : (u : Ty) → u.den → Option R'), getK (.sl true t) l p k' = k' (.sl true v) l1) :
    HoleOK w g id t l p ∧ Rep w g (some (id, p)) (.sl true v) l1 [g.sv id p] := by
  cases p with
  | nil => simp [tyR] at hty
  | cons s p =>
    cases s with
    | fst => simp [tyR] at hty
    | snd => simp [tyR] at hty
    | idx i0 =>
      simp only [tyR] at hty
      have hg : getK (.sl true t) l (.idx i0 :: p) (fun u x => some (⟨u, x⟩ : (u : Ty) × u.den)) = some ⟨.sl true v, l1⟩ := hget _ _
      obtain ⟨l1', bh, oh, ch, eh, ph, hk, hplh, htagh, hph, _, hcellh, hoh, hreph, hw⟩ := focus_row (focus w g id t) (pre := []) hty hobj hg
      simp only [Option.some.injEq, Sigma.mk.injEq, heq_eq_eq, true_and] at hk
      subst hk
      simp only [List.nil_append] at hph hreph hw
      refine ⟨⟨v, bh, oh, ch, eh, ph, hty, hplh 0 0, htagh, hph, hcellh, hoh, fun w' g' l' x hn hc' hr' R' f r' hset => ?_⟩, ?_⟩
      · obtain ⟨l2, hf, _, hr2⟩ := hw w' g' l' x hn hc' hr' f r' hset
        refine ⟨l2, hf, ?_⟩
        rw [hn.sv [] (pre_not (by simp))]; exact hr2
      · obtain ⟨a, cap, hcs, hsv, h1⟩ := hreph
        exact ⟨a, cap, by rw [hsv], hsv, h1⟩

open Classical in
/-- The ghost when a row moves into a place: from an object, or from nowhere. -/
noncomputable def fillG (g : Ghost) (from_ : Option Nat) (id : Nat) (p : Path) (x : Value) : Ghost where
  tag := fun b => match g.tag b with
    | .row i q => if some i = from_ then .row id (p ++ q) else .row i q
    | t => t
  sv := fun i q => if i = id ∧ q = p then x else g.sv i q
  blk := g.blk

theorem fillG_ro {fr : Option Nat} {id : Nat} {p : Path} {x : Value} {b : Nat} : (fillG g fr id p x).tag b = .ro ↔ g.tag b = .ro := by
  simp only [fillG]
  cases hb : g.tag b with
  | row i q => by_cases h : some i = fr <;> simp [h]
  | _ => simp
theorem fillG_alien {fr : Option Nat} {id : Nat} {p : Path} {x : Value} {b : Nat} : (fillG g fr id p x).tag b = .alien ↔ g.tag b = .alien := by
  simp only [fillG]
  cases hb : g.tag b with
  | row i q => by_cases h : some i = fr <;> simp [h]
  | _ => simp
theorem fillG_row {fr : Option Nat} {id : Nat} {p : Path} {x : Value} {b i : Nat} {q : Path} (h : g.tag b = .row i q) (hi : some i ≠ fr) : (fillG g fr id p x).tag b = .row i q := by
  simp only [fillG, h, if_neg hi]
theorem fillG_box {fr : Option Nat} {id : Nat} {p : Path} {x : Value} {b i : Nat} (h : g.tag b = .box i) : (fillG g fr id p x).tag b = .box i := by
  simp only [fillG, h]

/-- A row put in its place. -/
theorem nfill_ok {n : Nat} {a : Act} {id : Nat} {t : Ty} {l : List t.den} {e i : Nat} {h0 : Option Path} {p : Path} {av : AVal} {x : Value} {f : St → Option R} {r : R} {b0 off0 : Nat}
    (hst : StOK n g w a σ) (ho : σ.objs id = some (.nest t l e i h0)) (hhole : ∀ v, tyR t p = some v → (∃ l1 : List v.den, ∀ (R' : Type) (k' : (u : Ty) → u.den → Option R'), getK (.sl true t) l p k' = k' (.sl true v) l1) → HoleOK w g id t l p)
    (hpl : place g id (.sl true t) [] 0 0 p = some (b0, off0)) (hx : AOK w g σ.objs av [x]) (h : fillK σ id t l e i p av f = some r) :
    ∃ cc ee pre σ' g', f σ' = some r ∧ w.heap[b0]? = some (.cells cc ee (0, 0)) ∧ g.tag b0 = .row id pre ∧ off0 < cc.size ∧ StOK n g' (w.setRow b0 (splice cc.toList off0 [x]).toArray) a σ' ∧
      Ext w g (w.setRow b0 (splice cc.toList off0 [x]).toArray) g' ∧ (∀ m, Fresh g σ m → Fresh g' σ' m) ∧ σ'.next = σ.next := by
  unfold fillK at h
  split at h
  · rename_i v hty
    cases hro : v.isRo with
    | false => rw [hro] at h; simp at h
    | true =>
      rw [hro] at h
      simp only [cond_true] at h
      -- what moves
      have key : ∃ (fr : Option Nat) (d : List v.den) (σ1 : St), σ1.slots = σ.slots ∧ σ1.next = σ.next ∧ (∀ j, some j ≠ fr → σ1.objs j = σ.objs j) ∧ (∀ j, some j = fr → σ1.objs j = none ∧ j ≠ id ∧ σ.objs j ≠ none) ∧
          (setK (.sl true t) l p (.sl true v) d fun l => f (σ1.setObj id (.nest t l e (i + 1) none))) = some r ∧
          (∀ w' g', RoKept w g w' g' → g'.sv id p = x → (∀ b, (∃ j, some j = fr ∧ g.tag b = .row j []) → g'.tag b = .row id p ∧ w'.heap[b]? = w.heap[b]?) → Rep w' g' (some (id, p)) (.sl true v) d [x]) := by
        unfold giveRow at h
        split at h
        · refine ⟨none, [], σ, rfl, rfl, fun _ _ => rfl, fun _ h => by simp at h, h, fun w' g' _ hsv _ => ?_⟩
          have hx' : [x] = [.slice none 0 0] := hx
          simp only [List.cons.injEq, and_true] at hx'
          subst hx'
          exact ⟨none, 0, rfl, hsv, Nat.le_refl _, Nat.zero_le _, .inl ⟨rfl, rfl, rfl⟩⟩
        · rename_i id' ep'
          split at h
          · rename_i t' l' e' ho'
            cases hb : Nat.beq e' ep' with
            | false => rw [hb] at h; simp at h
            | true =>
              rw [hb] at h
              have he := Nat.eq_of_beq_eq_true hb
              subst he
              simp only [cond_true] at h
              obtain ⟨hc, h⟩ := castK_some h
              have hc' : t' = v := by simpa using hc
              subst hc'
              have hne : id' ≠ id := by intro hc; rw [hc, ho] at ho'; simp at ho'
              refine ⟨some id', _, σ.kill id', rfl, rfl, fun j hj => ?_, fun j hj => ?_, h, fun w' g' hr hsv htg => ?_⟩
              · simp only [St.kill]; exact upd_other _ _ (fun h => hj (by rw [h]))
              · simp only [Option.some.injEq] at hj
                subst hj
                exact ⟨by simp [St.kill, upd], hne, by rw [ho']; simp⟩
              · obtain ⟨v0, hv0, _, hvv⟩ := hx
                simp only [List.cons.injEq, and_true] at hv0
                subst hv0
                have hxs := (hvv _ _ _ ho').2 rfl
                obtain ⟨hro2, ad, cap, hcs, hsv2, h1, h2, h3⟩ := hst.heap.objs id' _ ho'
                refine ⟨ad, cap, by rw [hxs, hsv2]; rfl, by rw [hsv, hxs, hsv2]; rfl, h1, h2, ?_⟩
                rcases h3 with h3 | ⟨b, off, c, ee, ha, htag, hcell, hs, hel⟩
                · exact .inl h3
                · obtain ⟨k1, k2⟩ := htg b ⟨id', rfl, htag⟩
                  exact .inr ⟨b, off, c, ee, ha, k1, k2.trans hcell, hs, fun i hi => Rep.anyOwn (o := none) hro2 ((Rep.anyOwn (o' := none) hro2 (hel i hi)).kept hr)⟩
          · simp at h
        · simp at h
      obtain ⟨fr, d, σ1, hs1, hn1, hob1, hob2, hset, hmv⟩ := key
      have hp : p ≠ [] := by intro hp; subst hp; simp [tyR] at hty
      have hqq : ∃ i0 p', p = .idx i0 :: p' := by
        cases p with
        | nil => exact absurd rfl hp
        | cons s p' => cases s with
          | idx i0 => exact ⟨i0, p', rfl⟩
          | fst => simp [tyR] at hty
          | snd => simp [tyR] at hty
      have htyQ : tyQ (.sl true t) p = some v := by
        obtain ⟨i0, p', rfl⟩ := hqq
        simpa [tyR, tyQ] using hty
      obtain ⟨l1, hl1⟩ := setK_get (.sl true t) l p htyQ hset
      obtain ⟨v', b1, off1, c, ee, pre, hty', hpl', htag, hpre, hcell, hoff, hwand⟩ := hhole v hty ⟨l1, hl1⟩
      rw [hty] at hty'
      simp only [Option.some.injEq] at hty'
      subst hty'
      rw [hpl] at hpl'
      simp only [Option.some.injEq, Prod.mk.injEq] at hpl'
      obtain ⟨rfl, rfl⟩ := hpl'
      have hidf : some id ≠ fr := fun hc => (hob2 id hc).2.1 rfl
      have hclen : c.toList.length = c.size := Array.length_toList
      have hheap : ∀ b, b ≠ b0 → (w.setRow b0 (splice c.toList off0 [x]).toArray).heap[b]? = w.heap[b]? := fun b hb => setRow_other w b0 b _ hb
      have hro' : RoKept w g (w.setRow b0 (splice c.toList off0 [x]).toArray) (fillG g fr id p x) :=
        ⟨fun b hb => ⟨fillG_ro.2 hb, hheap b (fun he => by rw [he, htag] at hb; simp at hb)⟩⟩
      have hrep := hmv _ (fillG g fr id p x) hro' (by simp [fillG]) (fun b hb => by
        obtain ⟨j, hj, hb⟩ := hb
        refine ⟨by simp only [fillG, hb, if_pos hj]; simp, hheap b (fun he => ?_)⟩
        rw [he, htag] at hb
        simp only [Tag.row.injEq] at hb
        exact hidf (by rw [hb.1]; exact hj))
      have hnear : Near w g (w.setRow b0 (splice c.toList off0 [x]).toArray) (fillG g fr id p x) id p b0 := by
        refine ⟨hro', fun q hq => ?_, fun q b hb hq => ⟨fillG_row hb hidf, fun hne => hheap b hne⟩⟩
        simp only [fillG]
        rw [if_neg]
        rintro ⟨_, rfl⟩
        exact hq (List.prefix_refl _)
      obtain ⟨l2, hf2, hrep2⟩ := hwand _ _ d x hnear (setRow_heap w b0 c _ ee _ hcell) hrep _ _ hset
      have hsame : ∀ j, j ≠ id → some j ≠ fr → Same w g (w.setRow b0 (splice c.toList off0 [x]).toArray) (fillG g fr id p x) j := by
        intro j hj hjf
        refine ⟨⟨fun q => by simp only [fillG]; rw [if_neg (fun h => hj h.1)], fun q b hb => ⟨fillG_row hb hjf, hheap b (fun he => ?_)⟩⟩, rfl, fun hb => ⟨fillG_box hb, hheap _ (fun he => ?_)⟩⟩
        · rw [he, htag] at hb; simp only [Tag.row.injEq] at hb; exact hj hb.1.symm
        · rw [he, htag] at hb; simp at hb
      have hσ : ∀ j, (σ1.setObj id (.nest t l2 e (i + 1) none)).objs j = if j = id then some (.nest t l2 e (i + 1) none) else σ1.objs j := by
        intro j
        by_cases hj : j = id
        · subst hj; simp [St.setObj, upd_same]
        · simp only [St.setObj, if_neg hj]; exact upd_other _ _ hj
      have hkept : ∀ j, IdKept g (fillG g fr id p x) j (σ.objs j) ((σ1.setObj id (.nest t l2 e (i + 1) none)).objs j) := by
        intro j
        rw [hσ]
        by_cases hj : j = id
        · subst hj
          rw [if_pos rfl]
          exact .inr (.inr (.inr (.inr ⟨t, l, l2, e, e, i, i + 1, h0, none, ho, rfl, Nat.le_refl _, Nat.le_succ _, fun _ => by simp only [fillG]; rw [if_neg (fun h => hp h.2.symm)], fun h => by omega⟩)))
        · rw [if_neg hj]
          by_cases hjf : some j = fr
          · exact .inl (hob2 j hjf).1
          · rw [hob1 j hjf]; exact IdKept.same (hsame j hj hjf)
      refine ⟨c, ee, pre, _, fillG g fr id p x, hf2, hcell, htag, hoff, ?_, ?_, ?_, hn1⟩
      · refine hst.step (m := id) hro' (show (σ1.setObj id _).slots = σ.slots from hs1) (.inr (hkept id)) (fun j _ => hkept j) (fun j y hy => ?_) (fun b hb => ?_)
        · rw [hσ] at hy
          by_cases hj : j = id
          · subst hj
            rw [if_pos rfl] at hy
            simp only [Option.some.injEq] at hy
            subst hy
            exact .inl hrep2
          · rw [if_neg hj] at hy
            by_cases hjf : some j = fr
            · rw [(hob2 j hjf).1] at hy; simp at hy
            · rw [hob1 j hjf] at hy
              exact .inr ⟨hy, hsame j hj hjf⟩
        · have := hst.heap.tags b (fun h => hb (fillG_alien.2 h))
          simpa [World.setRow] using this
      · refine ⟨rfl, rfl, rfl, by simp [World.setRow], fun b _ hb => ⟨hheap b (fun he => ?_), ?_⟩⟩
        · rw [he, htag] at hb; simp at hb
        · rcases hb with hb | hb
          · rw [hb]; exact fillG_alien.2 hb
          · rw [hb]; exact fillG_ro.2 hb
      · intro m hm
        have hmid : m ≠ id := by intro he; subst he; have := hm.objs; rw [ho] at this; simp at this
        have hmf : some m ≠ fr := fun hc => (hob2 m hc).2.2 hm.objs
        refine ⟨by rw [hσ, if_neg hmid, hob1 m hmf]; exact hm.objs, fun b q hb => ?_, fun b hb => ?_, fun j av hj => hm.slots j av (by rw [← hs1]; exact hj), fun j av hj => ?_⟩
        · simp only [fillG] at hb
          split at hb
          · rename_i i' q' hg'
            split at hb
            · simp only [Tag.row.injEq] at hb; exact hmid hb.1.symm
            · exact hm.row b q (by rw [hg']; exact hb)
          · exact hm.row b q hb
        · simp only [fillG] at hb
          split at hb
          · split at hb <;> simp at hb
          · exact hm.box b hb
        · rw [hσ] at hj
          split at hj
          · simp at hj
          · by_cases hjf : some j = fr
            · rw [(hob2 j hjf).1] at hj; simp at hj
            · rw [hob1 j hjf] at hj; exact hm.cells j av hj
  · simp at h

open Classical in
/-- The ghost when a row leaves its place. -/
noncomputable def outG (g : Ghost) (id : Nat) (p : Path) (m : Nat) : Ghost where
  tag := fun b => if g.tag b = .row id p then .row m [] else g.tag b
  sv := fun i q => if i = m then g.sv id p else g.sv i q
  blk := g.blk

/-- A row taken out. -/
theorem out_ok {n : Nat} {a : Act} {id base : Nat} {t : Ty} {l : List t.den} {e i : Nat} {p : Path} {v : Ty} {l1 : List v.den} (hst : StOK n g w a σ) (hf : Fresh g σ base) (ho : σ.objs id = some (.nest t l e i none))
    (hro : v.isRo = true) (hty : tyR t p = some v) (hget : ∀ (R' : Type) (k' : (u : Ty) → u.den → Option R'), getK (.sl true t) l p k' = k' (.sl true v) l1) :
    let g' := outG g id p base
    let σ' := (σ.setObj id (.nest t l e i (some p))).setObj base (.row v l1 0)
    StOK n g' w a σ' ∧ Ext w g w g' ∧ (∀ m, m ≠ base → Fresh g σ m → Fresh g' σ' m) ∧ g'.sv base [] = g.sv id p ∧ RoKept w g w g' := by
  intro g' σ'
  have hobj : Rep w g (some (id, [])) (.sl true t) l [g.sv id []] := hst.heap.objs id _ ho
  obtain ⟨⟨v', b0, off, c, ee, pre, hty', hpl, htag, hpre, hcell, hoff, hwand⟩, hrow⟩ := hole_of_whole hobj hty hget
  have hbid : base ≠ id := by intro he; subst he; have := hf.objs; rw [ho] at this; simp at this
  have htg : ∀ b, g.tag b ≠ .row id p → g'.tag b = g.tag b := fun b hb => by simp only [g', outG, if_neg hb]
  have hsv : ∀ j q, j ≠ base → g'.sv j q = g.sv j q := fun j q hj => by simp only [g', outG, if_neg hj]
  have hro' : RoKept w g w g' := ⟨fun b hb => ⟨by rw [htg b (by rw [hb]; simp)]; exact hb, rfl⟩⟩
  have hsame : ∀ j, j ≠ id → j ≠ base → Same w g w g' j := by
    intro j hj hjb
    refine ⟨⟨fun q => hsv j _ hjb, fun q b hb => ⟨?_, rfl⟩⟩, rfl, fun hb => ⟨?_, rfl⟩⟩
    · rw [htg b (by rw [hb]; simp only [ne_eq, Tag.row.injEq, not_and]; exact fun h => absurd h hj)]; exact hb
    · rw [htg _ (by rw [hb]; simp)]; exact hb
  have hσ : ∀ j, σ'.objs j = if j = base then some (.row v l1 0) else if j = id then some (.nest t l e i (some p)) else σ.objs j := by
    intro j
    by_cases hj : j = base
    · subst hj; simp [σ', St.setObj, upd_same]
    · simp only [σ', St.setObj, if_neg hj]
      rw [upd_other _ _ hj]
      by_cases hj2 : j = id
      · subst hj2; simp [upd_same]
      · rw [if_neg hj2, upd_other _ _ hj2]
  have hkept : ∀ j, j ≠ base → IdKept g g' j (σ.objs j) (σ'.objs j) := by
    intro j hj
    rw [hσ, if_neg hj]
    by_cases hj2 : j = id
    · subst hj2
      rw [if_pos rfl]
      exact .inr (.inr (.inr (.inr ⟨t, l, l, e, e, i, i, none, some p, ho, rfl, Nat.le_refl _, Nat.le_refl _, fun _ => hsv _ _ hj, fun _ _ => hsv _ _ hj⟩)))
    · rw [if_neg hj2]; exact IdKept.same (hsame j hj2 hj)
  have hsvb : g'.sv base [] = g.sv id p := by simp [g', outG]
  refine ⟨?_, ⟨rfl, rfl, rfl, Nat.le_refl _, fun b _ hb => ⟨rfl, htg b (by rcases hb with hb | hb <;> rw [hb] <;> simp)⟩⟩, fun m hm hfm => ?_, hsvb, hro'⟩
  · refine hst.step (m := base) hro' rfl (.inl hf) hkept (fun j y hy => ?_) (fun b hb => ?_)
    · rw [hσ] at hy
      by_cases hj : j = base
      · subst hj
        rw [if_pos rfl] at hy
        simp only [Option.some.injEq] at hy
        subst hy
        left
        refine ⟨hro, ?_⟩
        obtain ⟨ad, cap, hcs, hsv2, h1, h2, h3⟩ := hrow
        refine ⟨ad, cap, by rw [hsvb]; exact hcs, by rw [hsvb]; exact hsv2, h1, h2, ?_⟩
        rcases h3 with h3 | ⟨b, of, cc, e3, ha, htag3, hcell3, hs, hel⟩
        · exact .inl h3
        · exact .inr ⟨b, of, cc, e3, ha, by simp only [g', outG, if_pos htag3], hcell3, hs, fun i hi => Rep.anyOwn (o := none) hro ((Rep.anyOwn (o' := none) hro (hel i hi)).kept hro')⟩
      · rw [if_neg hj] at hy
        by_cases hj2 : j = id
        · subst hj2
          rw [if_pos rfl] at hy
          simp only [Option.some.injEq] at hy
          subst hy
          left
          have hnp : ∀ q, ¬ p <+: q → q ≠ p := fun q hq he => hq (by rw [he]; exact List.prefix_refl _)
          refine ⟨v', b0, off, c, ee, pre, hty', by rw [place_congr (fun q => hsv j q hj)]; exact hpl, ?_, hpre, hcell, hoff, fun w2 g2 l3 x hn hc2 hr2 R f r hset => ?_⟩
          · rw [htg b0 (by rw [htag]; simp only [ne_eq, Tag.row.injEq, true_and]; intro h; rw [h] at hpre; omega)]; exact htag
          · refine hwand w2 g2 l3 x ⟨⟨fun b hb => ?_⟩, fun q hq => (hn.sv q hq).trans (hsv j q hj), fun q b hb hq => ?_⟩ hc2 hr2 f r hset
            · exact hn.ro.blk b (hro'.blk b hb).1
            · have : g'.tag b = .row j q := by
                rw [htg b (by rw [hb]; simp only [ne_eq, Tag.row.injEq, true_and]; exact hnp q hq)]; exact hb
              exact hn.blk q b this hq
        · rw [if_neg hj2] at hy
          exact .inr ⟨hy, hsame j hj2 hj⟩
    · by_cases hb2 : g.tag b = .row id p
      · exact hst.heap.tags b (by rw [hb2]; simp)
      · rw [htg b hb2] at hb; exact hst.heap.tags b hb
  · have hmid : m ≠ id := by intro he; subst he; have := hfm.objs; rw [ho] at this; simp at this
    refine ⟨by rw [hσ, if_neg hm, if_neg hmid]; exact hfm.objs, fun b q hb => ?_, fun b hb => ?_, hfm.slots, fun j av hj => ?_⟩
    · by_cases hb2 : g.tag b = .row id p
      · simp only [g', outG, if_pos hb2, Tag.row.injEq] at hb; exact hm hb.1.symm
      · rw [htg b hb2] at hb; exact hfm.row b q hb
    · by_cases hb2 : g.tag b = .row id p
      · simp [g', outG, if_pos hb2] at hb
      · rw [htg b hb2] at hb; exact hfm.box b hb
    · rw [hσ] at hj
      split at hj
      · simp at hj
      · split at hj
        · simp at hj
        · exact hfm.cells j av hj

end
end Go.Kz
