/-
  What is handed over: it is read-only from then on.
-/
import Derived.Test.YtakifbcgkbfclaaKzN
set_option linter.unusedVariables false
set_option linter.unusedSimpArgs false
namespace Go.Kz
variable {R : Type}

/-- Some objects are gone; their blocks may have become read-only; nothing else has turned. -/
structure Shrunk (g : Ghost) (objs0 : Objs) (g' : Ghost) (objs' : Objs) : Prop where
  sv : g'.sv = g.sv
  blk : g'.blk = g.blk
  objs : ∀ i, objs' i = objs0 i ∨ objs' i = none
  tag : ∀ b, g'.tag b = g.tag b ∨ (g'.tag b = .ro ∧ ∃ id, objs0 id ≠ none ∧ objs' id = none ∧ ((∃ p, g.tag b = .row id p) ∨ g.tag b = .box id))

theorem Shrunk.refl (g : Ghost) (objs : Objs) : Shrunk g objs g objs := ⟨rfl, rfl, fun _ => .inl rfl, fun _ => .inl rfl⟩
theorem Shrunk.trans {g g' g'' : Ghost} {o o' o'' : Objs} (h : Shrunk g o g' o') (k : Shrunk g' o' g'' o'') : Shrunk g o g'' o'' := by
  refine ⟨k.sv.trans h.sv, k.blk.trans h.blk, fun i => ?_, fun b => ?_⟩
  · rcases k.objs i with e | e
    · rw [e]; exact h.objs i
    · exact .inr e
  · rcases k.tag b with e | ⟨e, id, hs, hn, ht⟩
    · rcases h.tag b with e2 | ⟨e2, id, hs, hn, ht⟩
      · exact .inl (e.trans e2)
      · refine .inr ⟨e.trans e2, id, hs, ?_, ht⟩
        rcases k.objs id with e3 | e3
        · rw [e3]; exact hn
        · exact e3
    · rcases h.tag b with e2 | ⟨e2, _, _, _, _⟩
      · rw [e2] at ht
        refine .inr ⟨e, id, fun h0 => ?_, hn, ht⟩
        rcases h.objs id with e3 | e3
        · rw [e3] at hs; exact hs h0
        · exact hs e3
      · rw [e2] at ht; rcases ht with ⟨p, ht⟩ | ht <;> simp at ht
theorem Shrunk.ro {g g' : Ghost} {o o' : Objs} (h : Shrunk g o g' o') (w : World) : RoKept w g w g' :=
  ⟨fun b hb => ⟨by rcases h.tag b with e | ⟨e, _⟩; · rw [e, hb]
                   · exact e, rfl⟩⟩
theorem Shrunk.same {g g' : Ghost} {o o' : Objs} (h : Shrunk g o g' o') (w : World) {id : Nat} (hid : o' id ≠ none) : Same w g w g' id := by
  refine ⟨⟨fun q => by rw [h.sv], fun q b hb => ⟨?_, rfl⟩⟩, by rw [h.blk], fun hb => ⟨?_, rfl⟩⟩
  · rcases h.tag b with e | ⟨_, id', _, hn, ht⟩
    · rw [e, hb]
    · rw [hb] at ht
      rcases ht with ⟨p, ht⟩ | ht
      · simp only [Tag.row.injEq] at ht
        rw [← ht.1] at hn; exact absurd hn hid
      · simp at ht
  · rcases h.tag (g.blk id) with e | ⟨_, id', _, hn, ht⟩
    · rw [e, hb]
    · rw [hb] at ht
      rcases ht with ⟨p, ht⟩ | ht
      · simp at ht
      · simp only [Tag.box.injEq] at ht
        rw [← ht] at hn; exact absurd hn hid
theorem Shrunk.kept {w : World} {g g' : Ghost} {o o' : Objs} (h : Shrunk g o g' o') (hh : HeapOK w g o) (id : Nat) : IdKept g g' id (o id) (o' id) := by
  rcases h.objs id with e | e
  · rw [e]
    by_cases hn : o' id = none
    · left; rw [← e]; exact hn
    · exact IdKept.same (h.same w hn)
  · exact .inl e
theorem Shrunk.heap {w : World} {g g' : Ghost} {o o' : Objs} (h : Shrunk g o g' o') (hh : HeapOK w g o) : HeapOK w g' o' := by
  refine ⟨fun id x hx => ?_, fun b hb => ?_⟩
  · have hid : o' id ≠ none := by rw [hx]; simp
    have hx' : o id = some x := by
      rcases h.objs id with e | e
      · rw [← e]; exact hx
      · exact absurd e hid
    exact ObjOK.frame (h.ro w) (h.same w hid) (fun a ha id' _ => h.kept hh id') (hh.objs id x hx')
  · refine hh.tags b ?_
    rcases h.tag b with e | ⟨_, id', _, _, ht⟩
    · rw [← e]; exact hb
    · rcases ht with ⟨p, ht⟩ | ht <;> rw [ht] <;> simp
theorem Shrunk.ext {w : World} {g g' : Ghost} {o o' : Objs} (h : Shrunk g o g' o') : Ext w g w g' := by
  refine ⟨rfl, rfl, rfl, Nat.le_refl _, fun b _ ht => ⟨rfl, ?_⟩⟩
  rcases h.tag b with e | ⟨_, id', _, _, h2⟩
  · exact e
  · rcases h2 with ⟨p, h2⟩ | h2 <;> rw [h2] at ht <;> simp at ht
theorem Shrunk.fresh {g g' : Ghost} {σ σ' : St} {m : Nat} (h : Shrunk g σ.objs g' σ'.objs) (hs : σ'.slots = σ.slots) (hf : Fresh g σ m) : Fresh g' σ' m := by
  refine ⟨?_, fun b p hb => ?_, fun b hb => ?_, fun i av hi => hf.slots i av (by rw [← hs]; exact hi), fun id av hi => hf.cells id av ?_⟩
  · rcases h.objs m with e | e
    · rw [e]; exact hf.objs
    · exact e
  · rcases h.tag b with e | ⟨e, _⟩
    · rw [e] at hb; exact hf.row b p hb
    · rw [e] at hb; simp at hb
  · rcases h.tag b with e | ⟨e, _⟩
    · rw [e] at hb; exact hf.box b hb
    · rw [e] at hb; simp at hb
  · rcases h.objs id with e | e
    · rw [← e]; exact hi
    · rw [e] at hi; simp at hi
theorem Shrunk.st {n : Nat} {w : World} {a : Act} {g g' : Ghost} {σ σ' : St} (h : Shrunk g σ.objs g' σ'.objs) (hs : σ'.slots = σ.slots) (hst : StOK n g w a σ) : StOK n g' w a σ' := by
  refine ⟨fun i av hi => ?_, h.heap hst.heap, hst.size, hst.defers⟩
  rw [hs] at hi
  obtain ⟨v, hv, hok⟩ := hst.slots i av hi
  exact ⟨v, hv, VOK.frame (h.ro w) (fun id _ => h.kept hst.heap id) hok⟩

/-- An object taken away, its rows (its variable) read-only from now on. -/
def freezeG (g : Ghost) (id : Nat) : Ghost := { g with tag := fun b => match g.tag b with
  | .row i p => if i = id then .ro else .row i p
  | .box i => if i = id then .ro else .box i
  | t => t }
theorem freezeG_shrunk {g : Ghost} {σ : St} (id : Nat) (hid : σ.objs id ≠ none) : Shrunk g σ.objs (freezeG g id) (σ.kill id).objs := by
  refine ⟨rfl, rfl, fun i => ?_, fun b => ?_⟩
  · simp only [St.kill, upd]
    cases Nat.beq i id <;> simp
  · simp only [freezeG]
    cases hb : g.tag b with
    | alien => left; rfl
    | ro => left; rfl
    | row i p =>
      by_cases hi : i = id
      · right; simp only [hi, if_true]
        exact ⟨trivial, id, hid, by simp [St.kill, upd], .inl ⟨p, rfl⟩⟩
      · left; simp [hi]
    | box i =>
      by_cases hi : i = id
      · right; simp only [hi, if_true]
        exact ⟨trivial, id, hid, by simp [St.kill, upd], .inr rfl⟩
      · left; simp [hi]

theorem kill_slots (σ : St) (id : Nat) : (σ.kill id).slots = σ.slots := rfl
theorem nilK_some {t : Ty} {k : t.den → Option R} {r : R} (h : nilK t k = some r) : ∃ o u, ∃ e : t = .sl o u, k (e ▸ ([] : List u.den)) = some r := by
  cases t with
  | sl o u => exact ⟨o, u, rfl, h⟩
  | _ => simp [nilK] at h

theorem give_ok {w : World} : (n : Nat) → {a : AVal} → {u : Ty} → {σ : St} → {g : Ghost} → {k : u.den → St → Option R} → {r : R} → {cs : List Value} →
    HeapOK w g σ.objs → AOK w g σ.objs a cs → u.isRo = true → give n a u σ k = some r →
    ∃ d σ' g', k d σ' = some r ∧ σ'.slots = σ.slots ∧ σ'.next = σ.next ∧ Shrunk g σ.objs g' σ'.objs ∧ Rep w g' none u d cs
  | 0, _, _, _, _, _, _, _, _, _, _, h => by simp [give] at h
  | n + 1, .data t d, u, σ, g, k, r, cs, hh, hok, hu, h => by
    simp only [give] at h
    obtain ⟨rfl, h⟩ := castK_some h
    exact ⟨_, σ, g, h, rfl, rfl, .refl _ _, hok.2⟩
  | n + 1, .nilS, u, σ, g, k, r, cs, hh, hok, hu, h => by
    simp only [give] at h
    obtain ⟨o, v, rfl, h⟩ := nilK_some h
    cases o with
    | true => simp [Ty.isRo] at hu
    | false =>
      have hok' : cs = [.slice none 0 0] := hok
      subst hok'
      exact ⟨_, σ, g, h, rfl, rfl, .refl _ _, none, 0, rfl, Nat.le_refl _, Nat.zero_le _, fun hn => absurd rfl hn⟩
  | n + 1, .ref id p ep, u, σ, g, k, r, cs, hh, hok, hu, h => by
    cases p with
    | cons s q => simp [give] at h
    | nil =>
      simp only [give] at h
      split at h
      · rename_i t l e ho
        cases hb : Nat.beq e ep with
        | false => rw [hb] at h; simp at h
        | true =>
          have he : e = ep := Nat.eq_of_beq_eq_true hb
          subst he
          rw [hb] at h
          simp only [cond_true] at h
          obtain ⟨v, rfl, _, hv⟩ := hok
          have hsv := (hv _ _ _ ho).2 rfl
          have hobj := hh.objs id _ ho
          split at h
          · simp [Ty.isRo] at hu
          · rename_i v' kk
            obtain ⟨he, h⟩ := castK_some h
            refine ⟨_, σ.kill id, freezeG g id, h, rfl, rfl, freezeG_shrunk id (by rw [ho]; simp), ?_⟩
            have hs := freezeG_shrunk (g := g) (σ := σ) id (by rw [ho]; simp)
            have hf := Rep.freeze (hs.ro w) (o := some (id, [])) (show Frozen w g w (freezeG g id) id [] from ⟨fun q b hb => ⟨by simp only [freezeG, List.nil_append] at hb ⊢; rw [hb]; simp, rfl⟩⟩) hobj.2
            rw [← hsv] at hf
            have he' : Ty.sl false t.ro = Ty.sl false v' := he
            simp only [Ty.sl.injEq, true_and] at he'
            subst he'
            exact hf
          · simp at h
      · simp at h
  | n + 1, .bptr id p, u, σ, g, k, r, cs, hh, hok, hu, h => by
    cases u with
    | ptr u =>
      cases p with
      | cons s q => simp [give] at h
      | nil =>
        simp only [give] at h
        split at h
        · rename_i a ho
          obtain ⟨c, e, hc, ht, hca⟩ := hh.objs id _ ho
          have hs := freezeG_shrunk (g := g) (σ := σ) id (by rw [ho]; simp)
          have hca' := AOK.frame (objs' := (σ.kill id).objs) (hs.ro w) (fun i _ => hs.kept hh i) hca
          obtain ⟨d, σ', g', hk, h1, h2, h3, hrep⟩ := give_ok n (hs.heap hh) hca' (by simpa [Ty.isRo] using hu) h
          obtain ⟨v, rfl, _, hv⟩ := hok
          obtain ⟨off, s, hoff, rfl⟩ := hv _ ho
          simp only [Sk.off, Option.some.injEq, Prod.mk.injEq] at hoff
          obtain ⟨rfl, _⟩ := hoff
          have htag : (freezeG g id).tag (g.blk id) = .ro := by simp [freezeG, ht]
          refine ⟨d, σ', g', hk, h1, h2, hs.trans h3, g.blk id, 0, c, e, (0, 0), rfl, ((h3.ro w).blk _ htag).1, hc, ?_, ?_⟩
          · have := hrep.len
            rw [Array.length_toList] at this; omega
          · have hl := hrep.len
            rw [← hl, seg_all]; exact hrep
        · simp at h
    | _ => cases p <;> simp [give] at h
  | n + 1, .clos f c, u, σ, g, k, r, cs, hh, hok, hu, h => by
    cases u with
    | fn f' t =>
      simp only [give] at h
      cases hb : Nat.beq f f' with
      | false => rw [hb] at h; simp at h
      | true =>
        rw [hb] at h
        have he : f = f' := Nat.eq_of_beq_eq_true hb
        subst he
        obtain ⟨vs, rfl, hc⟩ := hok
        obtain ⟨d, σ', g', hk, h1, h2, h3, hrep⟩ := give_ok n (a := c) hh hc (by simpa [Ty.isRo] using hu) h
        exact ⟨d, σ', g', hk, h1, h2, h3, vs, rfl, hrep⟩
    | _ => simp [give] at h
  | n + 1, .agg c, u, σ, g, k, r, cs, hh, hok, hu, h => by
    simp only [give] at h
    exact give_ok n (a := c) hh hok hu h
  | n + 1, .pr a b, u, σ, g, k, r, cs, hh, hok, hu, h => by
    cases u with
    | pair t u =>
      simp only [give] at h
      simp only [Ty.isRo, Bool.and_eq_true] at hu
      obtain ⟨c1, c2, rfl, ha, hb⟩ := hok
      obtain ⟨x, σ1, g1, hk1, h1, h2, h3, hrep1⟩ := give_ok n hh ha hu.1 h
      have hb' := AOK.frame (objs' := σ1.objs) (h3.ro w) (fun i _ => h3.kept hh i) hb
      obtain ⟨y, σ2, g2, hk2, h4, h5, h6, hrep2⟩ := give_ok n (h3.heap hh) hb' hu.2 hk1
      exact ⟨(x, y), σ2, g2, hk2, h4.trans h1, h5.trans h2, h3.trans h6, c1, c2, rfl, hrep1.kept (h6.ro w), hrep2⟩
    | _ => simp [give] at h
  | n + 1, .un, u, σ, g, k, r, cs, hh, hok, hu, h => by
    cases u with
    | unit =>
      simp only [give] at h
      exact ⟨(), σ, g, h, rfl, rfl, .refl _ _, hok⟩
    | _ => simp [give] at h
  | n + 1, .view _ _ _ _ _, u, σ, g, k, r, cs, hh, hok, hu, h => by cases u <;> simp [give] at h
  | n + 1, .eptr _ _ _, u, σ, g, k, r, cs, hh, hok, hu, h => by cases u <;> simp [give] at h
  | n + 1, .mref _, u, σ, g, k, r, cs, hh, hok, hu, h => by cases u <;> simp [give] at h
  | n + 1, .nv true _ _ _, u, σ, g, k, r, cs, hh, hok, hu, h => by cases u <;> simp [give] at h
  | n + 1, .nv false _ (_ :: _) _, u, σ, g, k, r, cs, hh, hok, hu, h => by cases u <;> simp [give] at h
  | n + 1, .nv false id [] ep, u, σ, g, k, r, cs, hh, hok, hu, h => by
    simp only [give] at h
    split at h
    · rename_i t l e i ho
      cases hb : Nat.beq e ep with
      | false => rw [hb] at h; simp at h
      | true =>
        have he : e = ep := Nat.eq_of_beq_eq_true hb
        subst he
        rw [hb] at h
        simp only [cond_true] at h
        obtain ⟨v, rfl, _, hv⟩ := hok
        have hsv := ((hv _ _ _ _ _ ho).2 rfl).1 rfl
        have hobj : Rep w g (some (id, [])) (.sl true t) l [g.sv id []] := hh.objs id _ ho
        split at h
        · rename_i v' kk
          obtain ⟨he, h⟩ := castK_some h
          refine ⟨_, σ.kill id, freezeG g id, h, rfl, rfl, freezeG_shrunk id (by rw [ho]; simp), ?_⟩
          have hs := freezeG_shrunk (g := g) (σ := σ) id (by rw [ho]; simp)
          have hf := Rep.freeze (hs.ro w) (o := some (id, [])) (show Frozen w g w (freezeG g id) id [] from ⟨fun q b hb => ⟨by simp only [freezeG, List.nil_append] at hb ⊢; rw [hb]; simp, rfl⟩⟩) hobj
          rw [← hsv] at hf
          have he' : Ty.sl false t.ro = Ty.sl false v' := he
          simp only [Ty.sl.injEq, true_and] at he'
          subst he'
          exact hf
        · simp at h
    · simp at h
  | n + 1, .tup _, u, σ, g, k, r, cs, hh, hok, hu, h => hok.elim

theorem Rep.one {w : World} {g : Ghost} : {o : Own} → {t : Ty} → {d : t.den} → {cs : List Value} → Rep w g o t d cs → ∀ v ∈ cs, v.oneCell' = true
  | _, .int _, _, _, h => by obtain ⟨rfl, _⟩ := h; simp [Value.oneCell']
  | _, .bool, _, _, h => by cases h; simp [Value.oneCell']
  | _, .str, _, _, h => by obtain ⟨s, rfl, _⟩ := h; simp [Value.oneCell']
  | _, .unit, _, _, h => by cases h; simp
  | _, .pair a b, (x, y), _, h => by
    obtain ⟨c1, c2, rfl, h1, h2⟩ := h
    intro v hv
    rcases List.mem_append.1 hv with hv | hv
    · exact Rep.one h1 v hv
    · exact Rep.one h2 v hv
  | _, .arr n t, l, cs, h => by
    intro v hv
    obtain ⟨j, hj, rfl⟩ := List.mem_iff_getElem.1 hv
    have hlen := h.2.1
    have htz : 0 < t.size := by
      rcases Nat.eq_zero_or_pos t.size with hz | hz
      · rw [hz] at hlen; omega
      · exact hz
    have hdiv : j / t.size < n := Nat.div_lt_of_lt_mul (by rw [Nat.mul_comm]; omega)
    have hi : j / t.size < List.length l := by rw [h.1]; exact hdiv
    have hr := Rep.one (h.2.2 (j / t.size) hi)
    refine hr _ ?_
    have hm := Nat.mod_lt j htz
    have hdm := Nat.div_add_mod j t.size
    have hle : (j / t.size + 1) * t.size ≤ n * t.size := Nat.mul_le_mul_right _ hdiv
    rw [Nat.add_mul] at hle
    refine List.mem_iff_getElem.2 ⟨j % t.size, ?_, ?_⟩
    · rw [seg_length (by omega)]; exact hm
    · simp only [seg, List.getElem_take, List.getElem_drop]
      congr 1
      rw [Nat.mul_comm]; exact hdm
  | _, .sl false t, _, _, h => by obtain ⟨a, cap, rfl, _⟩ := h; simp [Value.oneCell']
  | some (_, _), .sl true t, _, _, h => by obtain ⟨a, cap, rfl, _⟩ := h; simp [Value.oneCell']
  | none, .sl true t, _, _, h => h.elim
  | _, .ptr t, _, _, h => by obtain ⟨b, off, c, e, fz, rfl, _⟩ := h; simp [Value.oneCell']
  | _, .fn f t, _, _, h => by obtain ⟨vs, rfl, _⟩ := h; simp [Value.oneCell']

theorem AOK.one {w : World} {g : Ghost} {objs : Objs} : {a : AVal} → {cs : List Value} → AOK w g objs a cs → ∀ v ∈ cs, v.oneCell' = true
  | .data t d, _, h => h.2.one
  | .nilS, _, h => by cases h; simp [Value.oneCell']
  | .ref _ _ _, _, h => by obtain ⟨v, rfl, h, _⟩ := h; simp [h]
  | .view _ _ _ _ _, _, h => by obtain ⟨v, rfl, h, _⟩ := h; simp [h]
  | .bptr _ _, _, h => by obtain ⟨v, rfl, h, _⟩ := h; simp [h]
  | .eptr _ _ _, _, h => by obtain ⟨v, rfl, h, _⟩ := h; simp [h]
  | .mref _, _, h => by obtain ⟨v, rfl, h, _⟩ := h; simp [h]
  | .nv _ _ _ _, _, h => by obtain ⟨v, rfl, h, _⟩ := h; simp [h]
  | .clos _ _, _, h => by obtain ⟨v, rfl, _⟩ := h; simp [Value.oneCell']
  | .agg c, _, h => AOK.one (a := c) h
  | .tup _, _, h => h.elim
  | .pr a b, _, h => by
    obtain ⟨c1, c2, rfl, h1, h2⟩ := h
    intro v hv
    rcases List.mem_append.1 hv with hv | hv
    · exact AOK.one h1 v hv
    · exact AOK.one h2 v hv
  | .un, _, h => by cases h; simp

theorem Rep.noAgg {w : World} {g : Ghost} {t : Ty} {d : t.den} {cs : List Value} (h : Rep w g none t d cs) (ha : t.sk.isAgg = false) : ∃ v, cs = [v] := by
  have hl := h.len
  have : t.size = 1 := by cases t <;> simp [Ty.sk, Sk.isAgg] at ha <;> simp [Ty.size]
  rw [this] at hl
  exact List.length_eq_one_iff.1 hl
/-- The cells of a value. -/
theorem VOK_valueCells {w : World} {g : Ghost} {objs : Objs} {av : AVal} {v : Value} (hv : av.val = true) (h : VOK w g objs av v) : ∃ cs, AOK w g objs av cs ∧ v = mkV av.isAgg cs ∧ v.cells.toList = cs := by
  obtain ⟨hag, hn1, hn2, hn3⟩ := val_isAgg hv
  obtain ⟨cs, hok, hmk⟩ := VOK_cells h hn3
  refine ⟨cs, hok, hmk, ?_⟩
  cases ha : av.isAgg with
  | true =>
    rw [ha] at hmk
    simp only [mkV, if_true] at hmk
    rw [hmk]; rfl
  | false =>
    rw [ha] at hmk
    simp only [mkV, Bool.false_eq_true, if_false] at hmk
    have hl := hok.len
    have : av.sk.size = 1 := by
      rw [hag] at ha
      cases hsk : av.sk <;> rw [hsk] at ha <;> simp [Sk.isAgg] at ha
      rfl
    rw [this] at hl
    obtain ⟨x, rfl⟩ := List.length_eq_one_iff.1 hl
    have h1 := hok.one x (by simp)
    have hx : v = x := hmk
    subst hx
    cases v <;> simp [Value.oneCell'] at h1 <;> rfl

end Go.Kz
