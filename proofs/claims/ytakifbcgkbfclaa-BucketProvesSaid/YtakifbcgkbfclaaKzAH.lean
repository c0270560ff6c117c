/-
  What a function hands back: rows that it owns are the caller's from then on.
-/
import Derived.Test.YtakifbcgkbfclaaKzAG
set_option linter.unusedVariables false
set_option linter.unusedSimpArgs false
namespace Go.Kz
variable {R : Type}

def Ty.isChain : Ty → Bool
  | .pair _ _ | .unit => true
  | _ => false
/-- Types of results: slices that are the caller's from then on, and read-only data. -/
def Ty.exOK : Ty → Bool
  | .sl true t => t.isRo
  | .pair a b => a.exOK && b.exOK && b.isChain
  | t => t.isRo

/-- Some objects are gone: frozen, or (those in mv) to be the caller's. -/
structure Shr (g : Ghost) (objs0 : Objs) (g' : Ghost) (objs' : Objs) (ml : List (Option Nat)) : Prop where
  sv : g'.sv = g.sv
  blk : g'.blk = g.blk
  objs : ∀ i, objs' i = objs0 i ∨ objs' i = none
  tag : ∀ b, g'.tag b = g.tag b ∨ (g'.tag b = .ro ∧ ∃ id, objs0 id ≠ none ∧ objs' id = none ∧ some id ∉ ml ∧ ((∃ p, g.tag b = .row id p) ∨ g.tag b = .box id))
  mv : ∀ i, some i ∈ ml → objs0 i ≠ none ∧ objs' i = none
  nodup : (ml.filterMap id).Nodup

theorem Shrunk.shr {g g' : Ghost} {o o' : Objs} (h : Shrunk g o g' o') : Shr g o g' o' [] := by
  refine ⟨h.sv, h.blk, h.objs, fun b => ?_, fun i hi => by simp at hi, by simp⟩
  rcases h.tag b with e | ⟨e, id, h1, h2, h3⟩
  · exact .inl e
  · exact .inr ⟨e, id, h1, h2, by simp, h3⟩
theorem Shr.refl (g : Ghost) (objs : Objs) : Shr g objs g objs [] := ⟨rfl, rfl, fun _ => .inl rfl, fun _ => .inl rfl, fun i h => by simp at h, by simp⟩
theorem Shr.nil (g : Ghost) (objs : Objs) : Shr g objs g objs [none] := ⟨rfl, rfl, fun _ => .inl rfl, fun _ => .inl rfl, fun i h => by simp at h, by simp⟩

theorem Shr.ro {g g' : Ghost} {o o' : Objs} {mv : List (Option Nat)} (h : Shr g o g' o' mv) (w : World) : RoKept w g w g' := by
  refine ⟨fun b hb => ⟨?_, rfl⟩⟩
  rcases h.tag b with e | ⟨e, _⟩
  · rw [e, hb]
  · exact e
/-- What was moved before stands. -/
theorem Shr.stays {g g' : Ghost} {o o' : Objs} {mv : List (Option Nat)} (h : Shr g o g' o' mv) (w : World) {id : Nat} (hid : o id = none ∨ o' id ≠ none ∨ some id ∈ mv) : Same w g w g' id := by
  have hno : ∀ id', o id' ≠ none → o' id' = none → some id' ∉ mv → id' ≠ id := by
    intro id' h1 h2 h3 he
    subst he
    rcases hid with h | h | h
    · exact h1 h
    · exact h h2
    · exact h3 h
  refine ⟨⟨fun q => by rw [h.sv], fun q b hb => ⟨?_, rfl⟩⟩, by rw [h.blk], fun hb => ⟨?_, rfl⟩⟩
  · rcases h.tag b with e | ⟨_, id', h1, h2, h3, ht⟩
    · rw [e, hb]
    · rw [hb] at ht
      rcases ht with ⟨p, ht⟩ | ht
      · simp only [Tag.row.injEq] at ht
        exact absurd ht.1.symm (hno id' h1 h2 h3)
      · simp at ht
  · rcases h.tag (g.blk id) with e | ⟨_, id', h1, h2, h3, ht⟩
    · rw [e, hb]
    · rw [hb] at ht
      rcases ht with ⟨p, ht⟩ | ht
      · simp at ht
      · simp only [Tag.box.injEq] at ht
        exact absurd ht.symm (hno id' h1 h2 h3)
theorem Shr.trans {g g' g'' : Ghost} {o o' o'' : Objs} {m1 m2 : List (Option Nat)} (h : Shr g o g' o' m1) (k : Shr g' o' g'' o'' m2) : Shr g o g'' o'' (m1 ++ m2) := by
  have hback : ∀ i, o' i ≠ Option.none → o i ≠ Option.none := by
    intro i hi
    rcases h.objs i with e | e
    · rw [← e]; exact hi
    · exact absurd e hi
  have hfwd : ∀ i, o' i = Option.none → o'' i = Option.none := by
    intro i hi
    rcases k.objs i with e | e
    · rw [e]; exact hi
    · exact e
  refine ⟨k.sv.trans h.sv, k.blk.trans h.blk, fun i => ?_, fun b => ?_, fun i hi => ?_, ?_⟩
  · rcases k.objs i with e | e
    · rw [e]; exact h.objs i
    · exact .inr e
  · rcases k.tag b with e | ⟨e, id, h1, h2, h3, ht⟩
    · rcases h.tag b with e2 | ⟨e2, id, h1, h2, h3, ht⟩
      · exact .inl (e.trans e2)
      · refine .inr ⟨e.trans e2, id, h1, hfwd id h2, fun hm => ?_, ht⟩
        rcases List.mem_append.1 hm with hm | hm
        · exact h3 hm
        · exact absurd h2 (k.mv id hm).1
    · rcases h.tag b with e2 | ⟨e2, _⟩
      · rw [e2] at ht
        refine .inr ⟨e, id, hback id h1, h2, fun hm => ?_, ht⟩
        rcases List.mem_append.1 hm with hm | hm
        · exact h1 (h.mv id hm).2
        · exact h3 hm
      · rw [e2] at ht; rcases ht with ⟨p, ht⟩ | ht <;> simp at ht
  · rcases List.mem_append.1 hi with hi | hi
    · exact ⟨(h.mv i hi).1, hfwd i (h.mv i hi).2⟩
    · exact ⟨hback i (k.mv i hi).1, (k.mv i hi).2⟩
  · rw [List.filterMap_append, List.nodup_append]
    refine ⟨h.nodup, k.nodup, fun a ha b hb => ?_⟩
    have ha' : some a ∈ m1 := by obtain ⟨x, hx, he⟩ := List.mem_filterMap.1 ha; simp at he; rw [← he]; exact hx
    have hb' : some b ∈ m2 := by obtain ⟨x, hx, he⟩ := List.mem_filterMap.1 hb; simp at he; rw [← he]; exact hx
    intro he; subst he
    exact (k.mv a hb').1 (h.mv a ha').2
theorem Shr.kept {w : World} {g g' : Ghost} {o o' : Objs} {mv : List (Option Nat)} (h : Shr g o g' o' mv) (id : Nat) : IdKept g g' id (o id) (o' id) := by
  rcases h.objs id with e | e
  · rw [e]
    by_cases hn : o' id = Option.none
    · left; rw [← e]; exact hn
    · exact IdKept.same (h.stays w (.inr (.inl hn)))
  · exact .inl e
theorem Shr.heap {w : World} {g g' : Ghost} {o o' : Objs} {mv : List (Option Nat)} (h : Shr g o g' o' mv) (hh : HeapOK w g o) : HeapOK w g' o' := by
  refine ⟨fun id x hx => ?_, fun b hb => ?_⟩
  · have hid : o' id ≠ Option.none := by rw [hx]; simp
    have hx' : o id = some x := by
      rcases h.objs id with e | e
      · rw [← e]; exact hx
      · exact absurd e hid
    exact ObjOK.frame (h.ro w) (h.stays w (.inr (.inl hid))) (fun a ha id' _ => h.kept (w := w) id') (hh.objs id x hx')
  · refine hh.tags b ?_
    rcases h.tag b with e | ⟨e, id', _, _, _, ht⟩
    · rw [← e]; exact hb
    · rcases ht with ⟨p, ht⟩ | ht <;> rw [ht] <;> simp
theorem Shr.ext {w : World} {g g' : Ghost} {o o' : Objs} {mv : List (Option Nat)} (h : Shr g o g' o' mv) : Ext w g w g' := by
  refine ⟨rfl, rfl, rfl, Nat.le_refl _, fun b _ ht => ⟨rfl, ?_⟩⟩
  rcases h.tag b with e | ⟨_, id', _, _, _, h2⟩
  · exact e
  · rcases h2 with ⟨p, h2⟩ | h2 <;> rw [h2] at ht <;> simp at ht

theorem kill_shr {g : Ghost} {σ : St} {id : Nat} (hid : σ.objs id ≠ none) : Shr g σ.objs g (σ.kill id).objs [some id] := by
  refine ⟨rfl, rfl, (freezeG_shrunk (g := g) (σ := σ) id hid).objs, fun b => .inl rfl, fun i hi => ?_, by simp⟩
  simp only [List.mem_singleton, Option.some.injEq] at hi
  subst hi
  exact ⟨hid, by simp [St.kill, upd]⟩

/-- Where what was moved lies from then on. -/
structure Laid (w : World) (g : Ghost) (mv : List (Option Nat)) (G : Ghost) (base : Nat) : Prop where
  ro : RoKept w g w G
  row : ∀ j i, nthL mv j = some (some i) → Moved w g w G i [] (base + j) []
  nil : ∀ j, nthL mv j = some none → G.sv (base + j) [] = .slice none 0 0

theorem nthL_append {α : Type} : (l m : List α) → (i : Nat) → nthL (l ++ m) i = if i < l.length then nthL l i else nthL m (i - l.length)
  | [], m, i => by simp
  | x :: l, m, 0 => by simp [nthL]
  | x :: l, m, i + 1 => by simp [nthL, nthL_append l m i]
theorem Laid.left {w : World} {g g' G : Ghost} {o o' : Objs} {m1 m2 : List (Option Nat)} {base : Nat} (k : Shr g o g' o' m2) (hm : ∀ i, some i ∈ m1 → o i = none) (h : Laid w g' (m1 ++ m2) G base) : Laid w g m1 G base := by
  refine ⟨⟨fun b hb => h.ro.blk b ((k.ro w).blk b hb).1⟩, fun j i hj => ?_, fun j hj => ?_⟩
  · have hlt := nthL_lt hj
    have hx := h.row j i (by rw [nthL_append, if_pos hlt]; exact hj)
    have hs := k.stays w (.inl (hm i (nthL_mem hj)))
    refine ⟨fun q => (hx.sv q).trans (hs.row.sv q), fun q b hb => ?_⟩
    exact hx.blk q b (hs.row.blk q b hb).1
  · exact h.nil j (by rw [nthL_append, if_pos (nthL_lt hj)]; exact hj)
theorem Laid.right {w : World} {g G : Ghost} {m1 m2 : List (Option Nat)} {base : Nat} (h : Laid w g (m1 ++ m2) G base) : Laid w g m2 G (base + m1.length) := by
  refine ⟨h.ro, fun j i hj => ?_, fun j hj => ?_⟩
  · have := h.row (m1.length + j) i (by rw [nthL_append, if_neg (by omega)]; rw [Nat.add_sub_cancel_left]; exact hj)
    rw [← Nat.add_assoc] at this; exact this
  · have := h.nil (m1.length + j) (by rw [nthL_append, if_neg (by omega)]; rw [Nat.add_sub_cancel_left]; exact hj)
    rw [← Nat.add_assoc] at this; exact this

theorem expose_ro : (t : Ty) → (d : t.den) → (n : Nat) → t.isRo = true → expose t d n = (.data t d, [])
  | .sl true t, l, n, h => by simp [Ty.isRo] at h
  | .sl false t, l, n, _ => rfl
  | .int _, _, _, _ => rfl
  | .bool, _, _, _ => rfl
  | .str, _, _, _ => rfl
  | .unit, _, _, _ => rfl
  | .arr _ _, _, _, _ => rfl
  | .ptr _, _, _, _ => rfl
  | .fn _ _, _, _, _ => rfl
  | .pair a b, (x, y), n, h => by simp only [expose, h, cond_true]

theorem exOK_of_ro : {t : Ty} → t.isRo = true → (∀ a b, t ≠ .pair a b) → t.exOK = true
  | .sl true t, h, _ => by simp [Ty.isRo] at h
  | .sl false t, h, _ => h
  | .int _, _, _ => rfl
  | .bool, _, _ => rfl
  | .str, _, _ => rfl
  | .unit, _, _ => rfl
  | .arr _ _, h, _ => h
  | .ptr _, h, _ => h
  | .fn _ _, h, _ => h
  | .pair a b, _, h => absurd rfl (h a b)

/-- The parts of read-only data, each by itself. -/
theorem exposeC_ro {w : World} {g : Ghost} {objs : Objs} : (t : Ty) → (d : t.den) → (n : Nat) → {cs : List Value} → t.isRo = true → t.isChain = true → t.exOK = true → Rep w g none t d cs →
    AOK w g objs (expose.exposeC t d n).1 cs ∧ (expose.exposeC t d n).2 = []
  | .unit, _, _, cs, _, _, _, h => ⟨h, rfl⟩
  | .pair a b, (x, y), n, cs, h, _, he, hr => by
    obtain ⟨c1, c2, rfl, h1, h2⟩ := hr
    simp only [Ty.isRo, Bool.and_eq_true] at h
    simp only [Ty.exOK, Bool.and_eq_true] at he
    have ha := expose_ro a x n h.1
    have hb := fun n => exposeC_ro (objs := objs) b y n h.2 he.2 he.1.2 h2
    simp only [expose.exposeC, ha, List.length_nil, Nat.add_zero, List.nil_append]
    exact ⟨⟨c1, c2, rfl, ⟨h.1, h1⟩, (hb n).1⟩, (hb n).2⟩
  | .int _, _, _, _, _, h, _, _ => by simp [Ty.isChain] at h
  | .bool, _, _, _, _, h, _, _ => by simp [Ty.isChain] at h
  | .str, _, _, _, _, h, _, _ => by simp [Ty.isChain] at h
  | .arr _ _, _, _, _, _, h, _, _ => by simp [Ty.isChain] at h
  | .sl _ _, _, _, _, _, h, _, _ => by simp [Ty.isChain] at h
  | .ptr _, _, _, _, _, h, _, _ => by simp [Ty.isChain] at h
  | .fn _ _, _, _, _, _, h, _, _ => by simp [Ty.isChain] at h

/-- What is laid before the caller. -/
structure Exposed (w : World) (G : Ghost) (x : AVal × List Obj) (base : Nat) (cs : List Value) : Prop where
  ok : ∀ O, AOK w G O x.1 cs
  objs : ∀ O j o, nthL x.2 j = some o → ObjOK w G O (base + j) o

theorem give_nv {R : Type} {n : Nat} {pt : Bool} {id : Nat} {p : Path} {ep : Nat} {u : Ty} {σ : St} {k : u.den → St → Option R} {r : R} (h : give n (.nv pt id p ep) u σ k = some r) : ∃ v, u = .sl false v := by
  cases n with
  | zero => simp [give] at h
  | succ n =>
    cases pt with
    | true => simp [give] at h
    | false =>
      cases p with
      | cons s q => simp [give] at h
      | nil =>
        simp only [give] at h
        split at h
        · rename_i t l e i ho
          cases hb : Nat.beq e ep with
          | false => rw [hb] at h; simp at h
          | true =>
            rw [hb] at h
            simp only [cond_true] at h
            split at h
            · exact ⟨_, rfl⟩
            · simp at h
        · simp at h

theorem giveM_ok {w : World} : (n : Nat) → {a : AVal} → {u : Ty} → {σ : St} → {g : Ghost} → {k : u.den → St → Option R} → {r : R} → {cs : List Value} →
    HeapOK w g σ.objs → AOK w g σ.objs a cs → u.exOK = true → give n a u σ k = some r →
    ∃ d σ' g' mv, k d σ' = some r ∧ σ'.slots = σ.slots ∧ σ'.next = σ.next ∧ Shr g σ.objs g' σ'.objs mv ∧ (∀ m, (expose u d m).2.length = mv.length) ∧
      (∀ G base, Laid w g' mv G base → Exposed w G (expose u d base) base cs) ∧
      (u.isChain = true → (∀ m, (expose.exposeC u d m).2.length = mv.length) ∧ ∀ G base, Laid w g' mv G base → Exposed w G (expose.exposeC u d base) base cs)
  | 0, _, _, _, _, _, _, _, _, _, _, h => by simp [give] at h
  | n + 1, a, u, σ, g, k, r, cs, hh, hok, hu, h => by
    -- read-only data
    have ro : ∀ d σ' g', u.isRo = true → k d σ' = some r → σ'.slots = σ.slots → σ'.next = σ.next → Shr g σ.objs g' σ'.objs [] → Rep w g' none u d cs →
        ∃ d σ' g' mv, k d σ' = some r ∧ σ'.slots = σ.slots ∧ σ'.next = σ.next ∧ Shr g σ.objs g' σ'.objs mv ∧ (∀ m, (expose u d m).2.length = mv.length) ∧
          (∀ G base, Laid w g' mv G base → Exposed w G (expose u d base) base cs) ∧
          (u.isChain = true → (∀ m, (expose.exposeC u d m).2.length = mv.length) ∧ ∀ G base, Laid w g' mv G base → Exposed w G (expose.exposeC u d base) base cs) := by
      intro d σ' g' hro hk h1 h2 h3 hrep
      refine ⟨d, σ', g', [], hk, h1, h2, h3, fun m => by rw [expose_ro u d m hro]; rfl, fun G base hl => ?_, fun hch => ⟨fun m => ?_, fun G base hl => ?_⟩⟩
      · rw [expose_ro u d base hro]
        exact ⟨fun O => ⟨hro, hrep.kept hl.ro⟩, fun O j o hj => by cases j <;> simp [nthL] at hj⟩
      · rw [(exposeC_ro (w := w) (objs := fun _ => none) u d m hro hch hu hrep).2]; rfl
      · refine ⟨fun O => (exposeC_ro u d base hro hch hu (hrep.kept hl.ro)).1, fun O j o hj => ?_⟩
        rw [(exposeC_ro (w := w) (objs := fun _ => none) u d base hro hch hu hrep).2] at hj
        cases j <;> simp [nthL] at hj
    cases hro : u.isRo with
    | true =>
      obtain ⟨d, σ', g', hk, h1, h2, h3, hrep⟩ := give_ok (n + 1) hh hok hro h
      exact ro d σ' g' hro hk h1 h2 h3.shr hrep
    | false =>
    cases a with
    | data t d =>
      simp only [give] at h
      obtain ⟨rfl, h⟩ := castK_some h
      rw [hok.1] at hro; simp at hro
    | nilS =>
      simp only [give] at h
      obtain ⟨o, v, rfl, h⟩ := nilK_some h
      have hok' : cs = [.slice none 0 0] := hok
      subst hok'
      cases o with
      | false => rw [show (Ty.sl false v).isRo = true from by simpa [Ty.exOK] using hu] at hro; simp at hro
      | true =>
        refine ⟨_, σ, g, [none], h, rfl, rfl, Shr.nil _ _, fun m => rfl, fun G base hl => ?_, fun hch => by simp [Ty.isChain] at hch⟩
        have hsv := hl.nil 0 rfl
        refine ⟨fun O => ⟨_, rfl, rfl, fun t l e _ => ⟨Nat.zero_le _, fun _ => hsv.symm⟩⟩, fun O j o hj => ?_⟩
        cases j with
        | succ j => cases j <;> simp [expose, nthL] at hj
        | zero =>
          simp only [expose, nthL, Option.some.injEq] at hj
          subst hj
          refine ⟨hu, ?_⟩
          rw [hsv]
          exact ⟨none, 0, rfl, hsv, Nat.le_refl _, Nat.zero_le _, .inl ⟨rfl, rfl, rfl⟩⟩
    | ref id p ep =>
      cases p with
      | cons s q => simp [give] at h
      | nil =>
        simp only [give] at h
        split at h
        · rename_i t l e ho
          cases hb : Nat.beq e ep with
          | false => rw [hb] at h; simp at h
          | true =>
            have he : e = ep := Nat.eq_of_beq_eq_true hb
            subst he
            rw [hb] at h
            simp only [cond_true] at h
            obtain ⟨v, rfl, _, hv⟩ := hok
            have hsv := (hv _ _ _ ho).2 rfl
            have hobj := hh.objs id _ ho
            split at h
            · rename_i v' kk
              obtain ⟨he, h⟩ := castK_some h
              simp only [Ty.sl.injEq, true_and] at he
              subst he
              refine ⟨_, σ.kill id, g, [some id], h, rfl, rfl, kill_shr (by rw [ho]; simp), fun m => rfl, fun G base hl => ?_, fun hch => by simp [Ty.isChain] at hch⟩
              have hm := hl.row 0 id rfl
              have hsv' := hm.sv []
              simp only [List.append_nil] at hsv'
              refine ⟨fun O => ⟨_, rfl, ?_, fun t l e _ => ⟨Nat.zero_le _, fun _ => ?_⟩⟩, fun O j o hj => ?_⟩
              · obtain ⟨_, _, _, _, hx, _⟩ := hobj
                rw [hsv, hx]; rfl
              · rw [hsv]; exact hsv'.symm
              · cases j with
                | succ j => cases j <;> simp [expose, nthL] at hj
                | zero =>
                  simp only [expose, nthL, Option.some.injEq] at hj
                  subst hj
                  refine ⟨hobj.1, ?_⟩
                  have := Rep.move hl.ro (o := some (id, [])) (o' := some (base, [])) hm hobj.2
                  show Rep w G (some (base, [])) _ _ [G.sv base []]
                  rw [show G.sv base [] = g.sv id [] from hsv']
                  exact this
            · rename_i v' kk
              rw [show (Ty.sl false v').isRo = true from by simpa [Ty.exOK] using hu] at hro; simp at hro
            · simp at h
        · simp at h
    | bptr id p =>
      cases u with
      | ptr u => rw [show (Ty.ptr u).isRo = true from hu] at hro; simp at hro
      | _ => cases p <;> simp [give] at h
    | clos f c =>
      cases u with
      | fn f' t => rw [show (Ty.fn f' t).isRo = true from hu] at hro; simp at hro
      | _ => simp [give] at h
    | agg c =>
      simp only [give] at h
      exact giveM_ok n (a := c) hh hok hu h
    | pr a b =>
      cases u with
      | pair t u =>
        simp only [give] at h
        simp only [Ty.exOK, Bool.and_eq_true] at hu
        obtain ⟨c1, c2, rfl, ha, hb⟩ := hok
        obtain ⟨x, σ1, g1, mv1, hk1, h1, h2, h3, hl1, he1, _⟩ := giveM_ok n hh ha hu.1.1 h
        have hb' := AOK.frame (objs' := σ1.objs) (h3.ro w) (fun i _ => h3.kept (w := w) i) hb
        obtain ⟨y, σ2, g2, mv2, hk2, h4, h5, h6, hl2, he2, hc2⟩ := giveM_ok n (h3.heap hh) hb' hu.1.2 hk1
        obtain ⟨hcl2, hce2⟩ := hc2 hu.2
        have hlenC : ∀ m, (expose.exposeC (.pair t u) (x, y) m).2.length = (mv1 ++ mv2).length := fun m => by
          simp only [expose.exposeC, List.length_append, hl1, hcl2]
        have hexC : ∀ G base, Laid w g2 (mv1 ++ mv2) G base → Exposed w G (expose.exposeC (.pair t u) (x, y) base) base (c1 ++ c2) := fun G base hl => by
          have e1 := he1 G base (hl.left h6 (fun i hi => (h3.mv i hi).2))
          have e2 := hce2 G (base + mv1.length) hl.right
          simp only [expose.exposeC]
          rw [hl1 base]
          refine ⟨fun O => ⟨c1, c2, rfl, e1.ok O, e2.ok O⟩, fun O j o hj => ?_⟩
          rw [nthL_append] at hj
          split at hj
          · exact e1.objs O j o hj
          · rename_i hge
            rw [hl1 base] at hj hge
            have := e2.objs O _ o hj
            rw [show base + mv1.length + (j - mv1.length) = base + j from by omega] at this
            exact this
        refine ⟨(x, y), σ2, g2, mv1 ++ mv2, hk2, h4.trans h1, h5.trans h2, h3.trans h6, fun m => ?_, fun G base hl => ?_, fun _ => ⟨hlenC, hexC⟩⟩
        · simp only [expose]
          rw [hro]
          exact hlenC m
        · simp only [expose]
          rw [hro]
          exact ⟨fun O => (hexC G base hl).ok O, (hexC G base hl).objs⟩
      | _ => simp [give] at h
    | un =>
      cases u with
      | unit =>
        simp only [give] at h
        simp [Ty.isRo] at hro
      | _ => simp [give] at h
    | view id p ep x y => cases u <;> simp [give] at h
    | eptr id p ep => cases u <;> simp [give] at h
    | mref id => cases u <;> simp [give] at h
    | nv pt id p ep =>
      obtain ⟨v', rfl⟩ := give_nv h
      rw [show (Ty.sl false v').isRo = true from by simpa [Ty.exOK] using hu] at hro; simp at hro
    | tup c => exact hok.elim

end Go.Kz
