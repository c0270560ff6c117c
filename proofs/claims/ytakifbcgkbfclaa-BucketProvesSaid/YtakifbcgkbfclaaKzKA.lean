/-
  Rows of rows: what lies at a path, and what becomes of the whole when a row there turns.
-/
import Derived.Test.YtakifbcgkbfclaaKzJ
set_option linter.unusedVariables false
set_option linter.unusedSimpArgs false
namespace Go.Kz
variable {R : Type}

/-- The layout behind a path that may go through slices. -/
def tyS : Ty → Path → Option Sk
  | t, [] => some t.sk
  | .pair a _, .fst :: p => tyS a p
  | .pair _ b, .snd :: p => tyS b p
  | .arr _ t, .idx _ :: p => tyS t p
  | .sl true t, .idx _ :: p => tyS t p
  | _, _ => none

/-- The type behind a path that may go through slices. -/
def tyU : Ty → Path → Option Ty
  | t, [] => some t
  | .pair a _, .fst :: p => tyU a p
  | .pair _ b, .snd :: p => tyU b p
  | .arr _ t, .idx _ :: p => tyU t p
  | .sl true t, .idx _ :: p => tyU t p
  | _, _ => none
theorem tyU_Q : {t : Ty} → {p : Path} → {v : Ty} → tyU t p = some (.sl true v) → tyQ t p = some v
  | t, [], v, h => by
    simp only [tyU, Option.some.injEq] at h
    subst h; rfl
  | .pair a _, .fst :: p, v, h => by simp only [tyU, tyQ] at h ⊢; exact tyU_Q h
  | .pair _ b, .snd :: p, v, h => by simp only [tyU, tyQ] at h ⊢; exact tyU_Q h
  | .arr _ t, .idx _ :: p, v, h => by simp only [tyU, tyQ] at h ⊢; exact tyU_Q h
  | .sl true t, .idx _ :: p, v, h => by simp only [tyU, tyQ] at h ⊢; exact tyU_Q h
  | .sl true _, .fst :: _, _, h | .sl true _, .snd :: _, _, h => by simp [tyU] at h
  | .sl false _, s :: _, _, h => by cases s <;> simp [tyU] at h
  | .int _, s :: _, _, h => by cases s <;> simp [tyU] at h
  | .bool, s :: _, _, h => by cases s <;> simp [tyU] at h
  | .str, s :: _, _, h => by cases s <;> simp [tyU] at h
  | .unit, s :: _, _, h => by cases s <;> simp [tyU] at h
  | .ptr _, s :: _, _, h => by cases s <;> simp [tyU] at h
  | .fn _ _, s :: _, _, h => by cases s <;> simp [tyU] at h
  | .pair _ _, .idx _ :: _, _, h => by simp [tyU] at h
  | .arr _ _, .fst :: _, _, h | .arr _ _, .snd :: _, _, h => by simp [tyU] at h
/-- An element of a row at a path. -/
theorem place_elem {g : Ghost} {id : Nat} {j : Int} {bk o n cp : Nat} : {t : Ty} → {pre : Path} → {b off : Nat} → {p : Path} → {v : Ty} → {x : Nat × Nat} → tyQ t p = some v → place g id t pre b off p = some x →
    g.sv id (pre ++ p) = .slice (some ⟨bk, o, none⟩) n cp → place g id t pre b off (p ++ [.idx j]) = some (bk, o + j.toNat * v.size)
  | .sl true t, pre, b, off, [], v, x, hq, _, hsv => by
    simp only [tyQ, Option.some.injEq] at hq
    subst hq
    simp only [List.append_nil] at hsv
    simp [place, hsv]
  | .pair a _, pre, b, off, .fst :: p, v, x, hq, hp, hsv => by
    simp only [tyQ, place, List.cons_append] at hq hp ⊢
    exact place_elem hq hp (by rw [List.append_assoc]; exact hsv)
  | .pair _ c, pre, b, off, .snd :: p, v, x, hq, hp, hsv => by
    simp only [tyQ, place, List.cons_append] at hq hp ⊢
    exact place_elem hq hp (by rw [List.append_assoc]; exact hsv)
  | .arr _ t, pre, b, off, .idx i :: p, v, x, hq, hp, hsv => by
    simp only [tyQ, place, List.cons_append] at hq hp ⊢
    exact place_elem hq hp (by rw [List.append_assoc]; exact hsv)
  | .sl true t, pre, b, off, .idx i :: p, v, x, hq, hp, hsv => by
    simp only [tyQ, place, List.cons_append] at hq hp ⊢
    split at hp
    · exact place_elem hq hp (by rw [List.append_assoc]; exact hsv)
    · simp at hp
  | .sl true _, _, _, _, .fst :: _, _, _, h, _, _ | .sl true _, _, _, _, .snd :: _, _, _, h, _, _ => by simp [tyQ] at h
  | .sl false _, _, _, _, p, _, _, h, _, _ => by cases p with | nil => simp [tyQ] at h | cons s q => cases s <;> simp [tyQ] at h
  | .int _, _, _, _, p, _, _, h, _, _ => by cases p with | nil => simp [tyQ] at h | cons s q => cases s <;> simp [tyQ] at h
  | .bool, _, _, _, p, _, _, h, _, _ => by cases p with | nil => simp [tyQ] at h | cons s q => cases s <;> simp [tyQ] at h
  | .str, _, _, _, p, _, _, h, _, _ => by cases p with | nil => simp [tyQ] at h | cons s q => cases s <;> simp [tyQ] at h
  | .unit, _, _, _, p, _, _, h, _, _ => by cases p with | nil => simp [tyQ] at h | cons s q => cases s <;> simp [tyQ] at h
  | .ptr _, _, _, _, p, _, _, h, _, _ => by cases p with | nil => simp [tyQ] at h | cons s q => cases s <;> simp [tyQ] at h
  | .fn _ _, _, _, _, p, _, _, h, _, _ => by cases p with | nil => simp [tyQ] at h | cons s q => cases s <;> simp [tyQ] at h
  | .pair _ _, _, _, _, [], _, _, h, _, _ => by simp [tyQ] at h
  | .pair _ _, _, _, _, .idx _ :: _, _, _, h, _, _ => by simp [tyQ] at h
  | .arr _ _, _, _, _, [], _, _, h, _, _ => by simp [tyQ] at h
  | .arr _ _, _, _, _, .fst :: _, _, _, h, _, _ | .arr _ _, _, _, _, .snd :: _, _, _, h, _, _ => by simp [tyQ] at h
theorem pre_not {p q : Path} (h : q.length < p.length) : ¬ p <+: q := by
  rintro ⟨r, hr⟩
  have := congrArg List.length hr
  rw [List.length_append] at this; omega
theorem seg_split (l : List Value) (off n m : Nat) (h : off + (n + m) ≤ l.length) : seg l off (n + m) = seg l off n ++ seg l (off + n) m := by
  simp only [seg]
  rw [← List.drop_drop, ← List.take_add]
theorem splice_one {l : List Value} {off : Nat} {x : Value} (h : off < l.length) : seg (splice l off [x]) off 1 = [x] := seg_splice_same l off [x] (by simp only [List.length_singleton]; omega)

theorem Near.side {w w' : World} {g g' : Ghost} {id b0 : Nat} {p q : Path} (hn : Near w g w' g' id p b0) (hq : ∀ r, ¬ p <+: q ++ r) (hB : ∀ r, g.tag b0 ≠ .row id (q ++ r)) : Moved w g w' g' id q id q :=
  ⟨fun r => hn.sv _ (hq r), fun r b hb => let h := hn.blk _ b hb (hq r); ⟨h.1, h.2 (fun he => hB r (he ▸ hb))⟩⟩

/-- What is known of a row at a path in what lies in a block. -/
def FocusAt (w : World) (g : Ghost) (id : Nat) (t : Ty) : Prop :=
  ∀ {R : Type} {pre : Path} {d : t.den} {p : Path} {v : Ty} {k : (u : Ty) → u.den → Option R} {r : R} {b off : Nat} {c : Array Value} {e : TypeId} {pb : Path},
    tyQ t p = some v → g.tag b = .row id pb → pb.length < pre.length → w.heap[b]? = some (.cells c e (0, 0)) → off + t.size ≤ c.size → Rep w g (some (id, pre)) t d (seg c.toList off t.size) → getK t d p k = some r →
    ∃ (l1 : List v.den) (bh oh : Nat) (ch : Array Value) (eh : TypeId) (ph : Path), k (.sl true v) l1 = some r ∧ place g id t pre b off p = some (bh, oh) ∧ g.tag bh = .row id ph ∧ ph.length < (pre ++ p).length ∧
      w.heap[bh]? = some (.cells ch eh (0, 0)) ∧ oh < ch.size ∧ Rep w g (some (id, pre ++ p)) (.sl true v) l1 (seg ch.toList oh 1) ∧ (bh = b ∨ (bh ≠ b ∧ pre <+: ph)) ∧
      ∀ (w' : World) (g' : Ghost) (l' : List v.den) (x : Value), Near w g w' g' id (pre ++ p) bh → w'.heap[bh]? = some (.cells (splice ch.toList oh [x]).toArray eh (0, 0)) → Rep w' g' (some (id, pre ++ p)) (.sl true v) l' [x] →
        ∀ {R' : Type} (f : t.den → Option R') (r' : R'), setK t d p (.sl true v) l' f = some r' →
          ∃ d', f d' = some r' ∧ ∃ c', w'.heap[b]? = some (.cells c' e (0, 0)) ∧ c'.size = c.size ∧ (∀ a n, a + n ≤ off ∨ off + t.size ≤ a → seg c'.toList a n = seg c.toList a n) ∧ Rep w' g' (some (id, pre)) t d' (seg c'.toList off t.size)

/-- A row of rows, from its slice value on. -/
theorem focus_row {w : World} {g : Ghost} {id : Nat} {t : Ty} (ih : FocusAt w g id t) {pre : Path} {l : List t.den} {i : Int} {p : Path} {v : Ty} {k : (u : Ty) → u.den → Option R} {r : R} {hd : Value}
    (hty : tyQ t p = some v) (hrep : Rep w g (some (id, pre)) (.sl true t) l [hd]) (h : getK (.sl true t) l (.idx i :: p) k = some r) :
    ∃ (l1 : List v.den) (bh oh : Nat) (ch : Array Value) (eh : TypeId) (ph : Path), k (.sl true v) l1 = some r ∧ (∀ b off, place g id (.sl true t) pre b off (.idx i :: p) = some (bh, oh)) ∧ g.tag bh = .row id ph ∧
      ph.length < (pre ++ .idx i :: p).length ∧ pre <+: ph ∧ w.heap[bh]? = some (.cells ch eh (0, 0)) ∧ oh < ch.size ∧ Rep w g (some (id, pre ++ .idx i :: p)) (.sl true v) l1 (seg ch.toList oh 1) ∧
      ∀ (w' : World) (g' : Ghost) (l' : List v.den) (x : Value), Near w g w' g' id (pre ++ .idx i :: p) bh → w'.heap[bh]? = some (.cells (splice ch.toList oh [x]).toArray eh (0, 0)) → Rep w' g' (some (id, pre ++ .idx i :: p)) (.sl true v) l' [x] →
        ∀ {R' : Type} (f : List t.den → Option R') (r' : R'), setK (.sl true t) l (.idx i :: p) (.sl true v) l' f = some r' → ∃ l2, f l2 = some r' ∧ l2.length = l.length ∧ Rep w' g' (some (id, pre)) (.sl true t) l2 [hd] := by
  simp only [getK, Option.bind_eq_some_iff] at h
  obtain ⟨x, hx, h⟩ := h
  obtain ⟨h0, hi, rfl, hlt⟩ := idx_some hx
  obtain ⟨a, cap, hcs, hsv, hlc, hcm, hrow⟩ := hrep
  have hii : ((i.toNat : Nat) : Int) = i := Int.toNat_of_nonneg h0
  rcases hrow with ⟨_, hl, _⟩ | ⟨b, o, c, e, rfl, htag, hcell, hsz, hel⟩
  · rw [hl] at hi; simp at hi
  · have hcap : (i.toNat + 1) * t.size ≤ cap * t.size := Nat.mul_le_mul_right _ (by omega)
    rw [Nat.add_mul] at hcap
    have hel_i := hel _ hi
    rw [hii] at hel_i
    obtain ⟨l1, bh, oh, ch, eh, ph, hk, hpl, htagh, hph, hcellh, hoh, hreph, halt, hw⟩ := ih hty htag (by simp) hcell (by omega) hel_i h
    have hpp : pre ++ [Step.idx i] ++ p = pre ++ .idx i :: p := by simp
    rw [hpp] at hph hreph
    have hpre : pre <+: ph := by
      rcases halt with rfl | ⟨_, ⟨z, hz⟩⟩
      · rw [htag] at htagh
        simp only [Tag.row.injEq, true_and] at htagh
        rw [htagh]; exact List.prefix_refl _
      · exact ⟨[.idx i] ++ z, by rw [← hz]; simp⟩
    refine ⟨l1, bh, oh, ch, eh, ph, hk, fun b' off' => ?_, htagh, hph, hpre, hcellh, hoh, hreph, fun w' g' l' x hn hc' hr' R' f r' hset => ?_⟩
    · simp only [place, hsv]; exact hpl
    · simp only [setK] at hset
      rw [hx] at hset
      simp only [Option.bind_some] at hset
      obtain ⟨d', hf, c', hc2, hsz2, hout, hrep2⟩ := hw w' g' l' x (by rw [hpp]; exact hn) hc' (by rw [hpp]; exact hr') _ _ hset
      have hnp : ¬ (pre ++ .idx i :: p) <+: pre := pre_not (by simp)
      refine ⟨_, hf, setI_length _ _ _, some ⟨b, o, none⟩, cap, by rw [setI_length]; exact hcs, by rw [setI_length, hn.sv _ hnp]; exact hsv, by rw [setI_length]; exact hlc, hcm, .inr ⟨b, o, c', e, rfl, (hn.blk _ b htag hnp).1, hc2, by rw [hsz2]; exact hsz, fun j hj => ?_⟩⟩
      have hj' : j < l.length := by rw [setI_length] at hj; exact hj
      rw [setI_get]
      by_cases hij : i.toNat = j
      · rw [if_pos hij]; subst hij
        rw [hii]; exact hrep2
      · rw [if_neg hij]
        have hside : Moved w g w' g' id (pre ++ [Step.idx (j : Int)]) id (pre ++ [Step.idx (j : Int)]) := by
          refine hn.side (fun z hz => ?_) (fun z hz => ?_)
          · rw [List.append_assoc, List.prefix_append_right_inj] at hz
            obtain ⟨y, hy⟩ := hz
            simp only [List.cons_append, List.nil_append, List.cons.injEq, Step.idx.injEq] at hy
            exact hij (by rw [hy.1]; simp)
          · rw [htagh] at hz
            simp only [Tag.row.injEq, true_and] at hz
            rcases halt with rfl | ⟨_, ⟨y, hy⟩⟩
            · rw [htag] at htagh
              simp only [Tag.row.injEq, true_and] at htagh
              rw [← htagh] at hz
              have := congrArg List.length hz
              simp at this
            · rw [← hy, List.append_assoc, List.append_assoc] at hz
              have := List.append_cancel_left hz
              simp only [List.cons_append, List.nil_append, List.cons.injEq, Step.idx.injEq] at this
              exact hij (by rw [this.1]; simp)
        have := Rep.move hn.ro (o := some (id, pre ++ [Step.idx (j : Int)])) (o' := some (id, pre ++ [Step.idx (j : Int)])) hside (hel j hj')
        rw [hout _ _ (by
          rcases Nat.lt_or_gt_of_ne hij with hlt' | hgt
          · right
            have h3 : (i.toNat + 1) * t.size ≤ j * t.size := Nat.mul_le_mul_right _ hlt'
            rw [Nat.add_mul] at h3; omega
          · left
            have h3 : (j + 1) * t.size ≤ i.toNat * t.size := Nat.mul_le_mul_right _ hgt
            rw [Nat.add_mul] at h3; omega)]
        exact this

theorem focus (w : World) (g : Ghost) (id : Nat) : (t : Ty) → FocusAt w g id t
  | .sl true t => by
    rename_i R pre p v k r b off c e pb d
    intro hty htag hpb hcell hsz hrep h
    have hcl : c.toList.length = c.size := Array.length_toList
    cases p with
    | nil =>
      simp only [tyQ, Option.some.injEq] at hty
      subst hty
      have h' : k (.sl true t) d = some r := by simpa [getK] using h
      have hsz' : off + 1 ≤ c.size := hsz
      refine ⟨d, b, off, c, e, pb, h', by simp [place], htag, by simpa using hpb, hcell, by omega, by rw [List.append_nil]; exact hrep, .inl rfl, fun w' g' l' x hn hc' hr' R' f r' hset => ?_⟩
      have hset' : castK (.sl true t) (.sl true t) l' f = some r' := by simpa [setK] using hset
      obtain ⟨hh, hf⟩ := castK_some hset'
      refine ⟨_, hf, _, hc', by rw [List.size_toArray, splice_length _ _ _ (by simp; omega), hcl], fun a n han => ?_, ?_⟩
      · rcases han with han | han
        · exact seg_splice_before _ _ _ _ _ han (by omega)
        · have han' : off + 1 ≤ a := han
          exact seg_splice_after _ _ _ _ _ (by simpa using han') (by simp; omega)
      · show Rep w' g' (some (id, pre)) (.sl true t) l' (seg (splice c.toList off [x]) off 1)
        rw [splice_one (by omega)]
        simpa using hr'
    | cons s q =>
      cases s with
      | fst => simp [tyQ] at hty
      | snd => simp [tyQ] at hty
      | idx i =>
        simp only [tyQ] at hty
        have hsz' : off + 1 ≤ c.size := hsz
        have hlen : (seg c.toList off 1).length = 1 := seg_length (by omega)
        obtain ⟨hd, hhd⟩ := List.length_eq_one_iff.1 hlen
        have hrep' : Rep w g (some (id, pre)) (.sl true t) d [hd] := by rw [← hhd]; exact hrep
        obtain ⟨l1, bh, oh, ch, eh, ph, hk, hpl, htagh, hph, hpre, hcellh, hoh, hreph, hw⟩ := focus_row (focus w g id t) hty hrep' h
        have hne : bh ≠ b := by
          intro he; subst he
          rw [htag] at htagh
          simp only [Tag.row.injEq, true_and] at htagh
          subst htagh
          have := hpre.length_le; omega
        refine ⟨l1, bh, oh, ch, eh, ph, hk, hpl b off, htagh, hph, hcellh, hoh, hreph, .inr ⟨hne, hpre⟩, fun w' g' l' x hn hc' hr' R' f r' hset => ?_⟩
        obtain ⟨l2, hf, hll, hrep2⟩ := hw w' g' l' x hn hc' hr' f r' hset
        refine ⟨l2, hf, c, ?_, rfl, fun _ _ _ => rfl, ?_⟩
        · rw [(hn.blk pb b htag (pre_not (by simp; omega))).2 (fun he => hne he.symm)]; exact hcell
        · show Rep w' g' (some (id, pre)) (.sl true t) l2 (seg c.toList off 1)
          rw [hhd]; exact hrep2
  | .pair ta tb => by
    rename_i R pre p v k r b off c e pb d
    intro hty htag hpb hcell hsz hrep h
    have hcl : c.toList.length = c.size := Array.length_toList
    obtain ⟨x, y⟩ := d
    obtain ⟨c1, c2, hcc, h1, h2⟩ := hrep
    have hs : off + (ta.size + tb.size) ≤ c.size := hsz
    have hsp := seg_split c.toList off ta.size tb.size (by omega)
    have hcc' : seg c.toList off (ta.size + tb.size) = c1 ++ c2 := hcc
    rw [hsp] at hcc'
    obtain ⟨e1, e2⟩ := List.append_inj hcc' (by rw [seg_length (by omega), h1.len])
    rw [← e1] at h1
    rw [← e2] at h2
    have h1 : Rep w g (some (id, pre ++ [Step.fst])) ta x (seg c.toList off ta.size) := h1
    have h2 : Rep w g (some (id, pre ++ [Step.snd])) tb y (seg c.toList (off + ta.size) tb.size) := h2
    cases p with
    | nil => simp [tyQ] at hty
    | cons s q =>
      cases s with
      | idx i => simp [tyQ] at hty
      | fst =>
        simp only [tyQ] at hty
        simp only [getK] at h
        obtain ⟨l1, bh, oh, ch, eh, ph, hk, hpl, htagh, hph, hcellh, hoh, hreph, halt, hw⟩ := focus w g id ta (pre := pre ++ [.fst]) hty htag (by simp; omega) hcell (by omega) h1 h
        have hpp : pre ++ [Step.fst] ++ q = pre ++ .fst :: q := by simp
        rw [hpp] at hph hreph
        refine ⟨l1, bh, oh, ch, eh, ph, hk, by simp only [place]; exact hpl, htagh, hph, hcellh, hoh, hreph, halt.imp_right (fun z => ⟨z.1, (List.prefix_append pre [.fst]).trans z.2⟩), fun w' g' l' x' hn hc' hr' R' f r' hset => ?_⟩
        simp only [setK] at hset
        obtain ⟨d', hf, c', hc2, hsz2, hout, hrep2⟩ := hw w' g' l' x' (by rw [hpp]; exact hn) hc' (by rw [hpp]; exact hr') _ _ hset
        have hcl' : c'.toList.length = c'.size := Array.length_toList
        refine ⟨_, hf, c', hc2, hsz2, fun a n han => hout a n (by have : (Ty.pair ta tb).size = ta.size + tb.size := rfl; omega), seg c'.toList off ta.size, seg c'.toList (off + ta.size) tb.size, ?_, hrep2, ?_⟩
        · exact seg_split _ _ _ _ (by omega)
        · rw [hout _ _ (.inr (Nat.le_refl _))]
          refine Rep.move hn.ro (o := some (id, pre ++ [Step.snd])) (o' := some (id, pre ++ [Step.snd])) (hn.side (fun z hz => ?_) (fun z hz => ?_)) h2
          · rw [List.append_assoc, List.prefix_append_right_inj] at hz
            obtain ⟨y', hy⟩ := hz
            simp at hy
          · rw [htagh] at hz
            simp only [Tag.row.injEq, true_and] at hz
            rcases halt with rfl | ⟨_, ⟨y', hy⟩⟩
            · rw [htag] at htagh
              simp only [Tag.row.injEq, true_and] at htagh
              rw [← htagh] at hz
              have := congrArg List.length hz
              simp at this; omega
            · rw [← hy, List.append_assoc, List.append_assoc] at hz
              have := List.append_cancel_left hz
              simp at this
      | snd =>
        simp only [tyQ] at hty
        simp only [getK] at h
        obtain ⟨l1, bh, oh, ch, eh, ph, hk, hpl, htagh, hph, hcellh, hoh, hreph, halt, hw⟩ := focus w g id tb (pre := pre ++ [.snd]) hty htag (by simp; omega) hcell (by omega) h2 h
        have hpp : pre ++ [Step.snd] ++ q = pre ++ .snd :: q := by simp
        rw [hpp] at hph hreph
        refine ⟨l1, bh, oh, ch, eh, ph, hk, by simp only [place]; exact hpl, htagh, hph, hcellh, hoh, hreph, halt.imp_right (fun z => ⟨z.1, (List.prefix_append pre [.snd]).trans z.2⟩), fun w' g' l' x' hn hc' hr' R' f r' hset => ?_⟩
        simp only [setK] at hset
        obtain ⟨d', hf, c', hc2, hsz2, hout, hrep2⟩ := hw w' g' l' x' (by rw [hpp]; exact hn) hc' (by rw [hpp]; exact hr') _ _ hset
        have hcl' : c'.toList.length = c'.size := Array.length_toList
        refine ⟨_, hf, c', hc2, hsz2, fun a n han => hout a n (by have : (Ty.pair ta tb).size = ta.size + tb.size := rfl; omega), seg c'.toList off ta.size, seg c'.toList (off + ta.size) tb.size, ?_, ?_, hrep2⟩
        · exact seg_split _ _ _ _ (by omega)
        · rw [hout _ _ (.inl (Nat.le_refl _))]
          refine Rep.move hn.ro (o := some (id, pre ++ [Step.fst])) (o' := some (id, pre ++ [Step.fst])) (hn.side (fun z hz => ?_) (fun z hz => ?_)) h1
          · rw [List.append_assoc, List.prefix_append_right_inj] at hz
            obtain ⟨y', hy⟩ := hz
            simp at hy
          · rw [htagh] at hz
            simp only [Tag.row.injEq, true_and] at hz
            rcases halt with rfl | ⟨_, ⟨y', hy⟩⟩
            · rw [htag] at htagh
              simp only [Tag.row.injEq, true_and] at htagh
              rw [← htagh] at hz
              have := congrArg List.length hz
              simp at this; omega
            · rw [← hy, List.append_assoc, List.append_assoc] at hz
              have := List.append_cancel_left hz
              simp at this
  | .arr n t => by
    rename_i R pre p v k r b off c e pb d
    intro hty htag hpb hcell hsz hrep h
    have hcl : c.toList.length = c.size := Array.length_toList
    have hs : off + n * t.size ≤ c.size := hsz
    cases p with
    | nil => simp [tyQ] at hty
    | cons s q =>
      cases s with
      | fst => simp [tyQ] at hty
      | snd => simp [tyQ] at hty
      | idx i =>
        simp only [tyQ] at hty
        simp only [getK, Option.bind_eq_some_iff] at h
        obtain ⟨x, hx, h⟩ := h
        obtain ⟨h0, hi, rfl, hlt⟩ := idx_some hx
        have hii : ((i.toNat : Nat) : Int) = i := Int.toNat_of_nonneg h0
        obtain ⟨hln, hlc, hel⟩ := hrep
        have hin : i.toNat < n := by rw [← hln]; exact hi
        have hmul : (i.toNat + 1) * t.size ≤ n * t.size := Nat.mul_le_mul_right _ hin
        rw [Nat.add_mul] at hmul
        have hel' : ∀ (j : Nat) (hj : j < List.length d), Rep w g (some (id, pre ++ [Step.idx (j : Int)])) t (List.get d ⟨j, hj⟩) (seg c.toList (off + j * t.size) t.size) := by
          intro j hj
          have hjn : j < n := by rw [← hln]; exact hj
          have h3 : (j + 1) * t.size ≤ n * t.size := Nat.mul_le_mul_right _ hjn
          rw [Nat.add_mul] at h3
          have := hel j hj
          rw [show (Ty.arr n t).size = n * t.size from rfl, seg_seg _ _ _ _ _ (by omega)] at this
          exact this
        have hel_i := hel' _ hi
        rw [hii] at hel_i
        obtain ⟨l1, bh, oh, ch, eh, ph, hk, hpl, htagh, hph, hcellh, hoh, hreph, halt, hw⟩ := focus w g id t (pre := pre ++ [.idx i]) hty htag (by simp; omega) hcell (by omega) hel_i h
        have hpp : pre ++ [Step.idx i] ++ q = pre ++ .idx i :: q := by simp
        rw [hpp] at hph hreph
        refine ⟨l1, bh, oh, ch, eh, ph, hk, by simp only [place]; exact hpl, htagh, hph, hcellh, hoh, hreph, halt.imp_right (fun z => ⟨z.1, (List.prefix_append pre [.idx i]).trans z.2⟩), fun w' g' l' x' hn hc' hr' R' f r' hset => ?_⟩
        simp only [setK] at hset
        rw [hx] at hset
        simp only [Option.bind_some] at hset
        obtain ⟨d', hf, c', hc2, hsz2, hout, hrep2⟩ := hw w' g' l' x' (by rw [hpp]; exact hn) hc' (by rw [hpp]; exact hr') _ _ hset
        have hcl' : c'.toList.length = c'.size := Array.length_toList
        refine ⟨_, hf, c', hc2, hsz2, fun a m han => hout a m (by have : (Ty.arr n t).size = n * t.size := rfl; omega), by rw [setI_length]; exact hln, by rw [seg_length (by rw [hcl', hsz2]; exact hsz)]; rfl, fun j hj => ?_⟩
        have hj' : j < List.length d := by rw [setI_length] at hj; exact hj
        have hjn : j < n := by rw [← hln]; exact hj'
        have h3 : (j + 1) * t.size ≤ n * t.size := Nat.mul_le_mul_right _ hjn
        rw [Nat.add_mul] at h3
        rw [show (Ty.arr n t).size = n * t.size from rfl, seg_seg _ _ _ _ _ (by omega), setI_get]
        by_cases hij : i.toNat = j
        · rw [if_pos hij]; subst hij
          show Rep w' g' (some (id, pre ++ [Step.idx ((i.toNat : Nat) : Int)])) t d' _
          rw [hii]; exact hrep2
        · rw [if_neg hij, hout _ _ (by
            rcases Nat.lt_or_gt_of_ne hij with hlt' | hgt
            · right
              have h3 : (i.toNat + 1) * t.size ≤ j * t.size := Nat.mul_le_mul_right _ hlt'
              rw [Nat.add_mul] at h3; omega
            · left
              have h3 : (j + 1) * t.size ≤ i.toNat * t.size := Nat.mul_le_mul_right _ hgt
              rw [Nat.add_mul] at h3; omega)]
          refine Rep.move hn.ro (o := some (id, pre ++ [Step.idx (j : Int)])) (o' := some (id, pre ++ [Step.idx (j : Int)])) (hn.side (fun z hz => ?_) (fun z hz => ?_)) (hel' j hj')
          · rw [List.append_assoc, List.prefix_append_right_inj] at hz
            obtain ⟨y, hy⟩ := hz
            simp only [List.cons_append, List.nil_append, List.cons.injEq, Step.idx.injEq] at hy
            exact hij (by rw [hy.1]; simp)
          · rw [htagh] at hz
            simp only [Tag.row.injEq, true_and] at hz
            rcases halt with rfl | ⟨_, ⟨y, hy⟩⟩
            · rw [htag] at htagh
              simp only [Tag.row.injEq, true_and] at htagh
              rw [← htagh] at hz
              have := congrArg List.length hz
              simp at this; omega
            · rw [← hy, List.append_assoc, List.append_assoc] at hz
              have := List.append_cancel_left hz
              simp only [List.cons_append, List.nil_append, List.cons.injEq, Step.idx.injEq] at this
              exact hij (by rw [this.1]; simp)
  | .int _ | .bool | .str | .unit | .sl false _ | .ptr _ | .fn _ _ => by
    intro hty
    simp [tyQ] at hty

/-- What lies at a path in what lies in a block. -/
theorem nget {w : World} {g : Ghost} {id : Nat} : {t : Ty} → {pre : Path} → {d : t.den} → {p : Path} → {k : (u : Ty) → u.den → Option R} → {r : R} → {b off : Nat} → {c : Array Value} → {e : TypeId} → {pb : Path} →
    g.tag b = .row id pb → w.heap[b]? = some (.cells c e (0, 0)) → off + t.size ≤ c.size → Rep w g (some (id, pre)) t d (seg c.toList off t.size) → getK t d p k = some r →
    ∃ (u : Ty) (x : u.den) (bh oh : Nat) (ch : Array Value) (eh : TypeId) (ph : Path), k u x = some r ∧ place g id t pre b off p = some (bh, oh) ∧ tyS t p = some u.sk ∧ tyU t p = some u ∧ g.tag bh = .row id ph ∧
      w.heap[bh]? = some (.cells ch eh (0, 0)) ∧ oh + u.size ≤ ch.size ∧ Rep w g (some (id, pre ++ p)) u x (seg ch.toList oh u.size)
  | t, pre, d, [], k, r, b, off, c, e, pb, htag, hcell, hsz, hrep, h => by
    have h' : k t d = some r := by cases t <;> simpa [getK] using h
    exact ⟨t, d, b, off, c, e, pb, h', by simp [place], by simp [tyS], by simp [tyU], htag, hcell, hsz, by simpa using hrep⟩
  | .pair ta tb, pre, (x, y), .fst :: q, k, r, b, off, c, e, pb, htag, hcell, hsz, hrep, h => by
    have hcl : c.toList.length = c.size := Array.length_toList
    simp only [getK] at h
    obtain ⟨c1, c2, hcc, h1, h2⟩ := hrep
    have hs : off + (ta.size + tb.size) ≤ c.size := hsz
    have hcc' : seg c.toList off (ta.size + tb.size) = c1 ++ c2 := hcc
    rw [seg_split c.toList off ta.size tb.size (by omega)] at hcc'
    obtain ⟨e1, e2⟩ := List.append_inj hcc' (by rw [seg_length (by omega), h1.len])
    rw [← e1] at h1
    have h1 : Rep w g (some (id, pre ++ [Step.fst])) ta x (seg c.toList off ta.size) := h1
    have := nget (pre := pre ++ [.fst]) htag hcell (by omega) h1 h
    simpa [place, tyS, tyU] using this
  | .pair ta tb, pre, (x, y), .snd :: q, k, r, b, off, c, e, pb, htag, hcell, hsz, hrep, h => by
    have hcl : c.toList.length = c.size := Array.length_toList
    simp only [getK] at h
    obtain ⟨c1, c2, hcc, h1, h2⟩ := hrep
    have hs : off + (ta.size + tb.size) ≤ c.size := hsz
    have hcc' : seg c.toList off (ta.size + tb.size) = c1 ++ c2 := hcc
    rw [seg_split c.toList off ta.size tb.size (by omega)] at hcc'
    obtain ⟨e1, e2⟩ := List.append_inj hcc' (by rw [seg_length (by omega), h1.len])
    rw [← e2] at h2
    have h2 : Rep w g (some (id, pre ++ [Step.snd])) tb y (seg c.toList (off + ta.size) tb.size) := h2
    have := nget (pre := pre ++ [.snd]) htag hcell (by omega) h2 h
    simpa [place, tyS, tyU] using this
  | .arr n t, pre, d, .idx i :: q, k, r, b, off, c, e, pb, htag, hcell, hsz, hrep, h => by
    have hcl : c.toList.length = c.size := Array.length_toList
    have hs : off + n * t.size ≤ c.size := hsz
    simp only [getK, Option.bind_eq_some_iff] at h
    obtain ⟨x, hx, h⟩ := h
    obtain ⟨h0, hi, rfl, hlt⟩ := idx_some hx
    have hii : ((i.toNat : Nat) : Int) = i := Int.toNat_of_nonneg h0
    obtain ⟨hln, hlc, hel⟩ := hrep
    have hin : i.toNat < n := by rw [← hln]; exact hi
    have hmul : (i.toNat + 1) * t.size ≤ n * t.size := Nat.mul_le_mul_right _ hin
    rw [Nat.add_mul] at hmul
    have hel_i : Rep w g (some (id, pre ++ [Step.idx ((i.toNat : Nat) : Int)])) t _ _ := hel _ hi
    rw [hii, show (Ty.arr n t).size = n * t.size from rfl, seg_seg _ _ _ _ _ (by omega)] at hel_i
    have := nget (pre := pre ++ [.idx i]) htag hcell (by omega) hel_i h
    simpa [place, tyS, tyU] using this
  | .sl true t, pre, d, .idx i :: q, k, r, b, off, c, e, pb, htag, hcell, hsz, hrep, h => by
    simp only [getK, Option.bind_eq_some_iff] at h
    obtain ⟨x, hx, h⟩ := h
    obtain ⟨h0, hi, rfl, hlt⟩ := idx_some hx
    have hii : ((i.toNat : Nat) : Int) = i := Int.toNat_of_nonneg h0
    obtain ⟨a, cap, hcs, hsv, hlc, hcm, hrow⟩ := hrep
    rcases hrow with ⟨_, hl, _⟩ | ⟨b2, o2, c2, e2, rfl, htag2, hcell2, hsz2, hel⟩
    · rw [hl] at hi; simp at hi
    · have hcap : (i.toNat + 1) * t.size ≤ cap * t.size := Nat.mul_le_mul_right _ (by omega)
      rw [Nat.add_mul] at hcap
      have hel_i := hel _ hi
      rw [hii] at hel_i
      have := nget (pre := pre ++ [.idx i]) htag2 hcell2 (by omega) hel_i h
      simpa [place, tyS, tyU, hsv] using this
  | .sl true _, _, _, .fst :: _, _, _, _, _, _, _, _, _, _, _, _, h => by simp [getK] at h
  | .sl true _, _, _, .snd :: _, _, _, _, _, _, _, _, _, _, _, _, h => by simp [getK] at h
  | .sl false _, _, _, s :: _, _, _, _, _, _, _, _, _, _, _, _, h => by cases s <;> simp [getK] at h
  | .int _, _, _, s :: _, _, _, _, _, _, _, _, _, _, _, _, h => by cases s <;> simp [getK] at h
  | .bool, _, _, s :: _, _, _, _, _, _, _, _, _, _, _, _, h => by cases s <;> simp [getK] at h
  | .str, _, _, s :: _, _, _, _, _, _, _, _, _, _, _, _, h => by cases s <;> simp [getK] at h
  | .unit, _, _, s :: _, _, _, _, _, _, _, _, _, _, _, _, h => by cases s <;> simp [getK] at h
  | .ptr _, _, _, s :: _, _, _, _, _, _, _, _, _, _, _, _, h => by cases s <;> simp [getK] at h
  | .fn _ _, _, _, s :: _, _, _, _, _, _, _, _, _, _, _, _, h => by cases s <;> simp [getK] at h
  | .pair _ _, _, (_, _), .idx _ :: _, _, _, _, _, _, _, _, _, _, _, _, h => by simp [getK] at h
  | .arr _ _, _, _, .fst :: _, _, _, _, _, _, _, _, _, _, _, _, h => by simp [getK] at h
  | .arr _ _, _, _, .snd :: _, _, _, _, _, _, _, _, _, _, _, _, h => by simp [getK] at h

/-- What a reference into a row of rows leads to. -/
theorem nfetch_ok {w : World} {g : Ghost} {σ : St} (hh : HeapOK w g σ.objs) {pt : Bool} {id : Nat} {p : Path} {ep : Nat} {k : (u : Ty) → u.den → Option R} {r : R} (h : nfetchK σ pt id p ep k = some r) :
    ∃ t l e i, σ.objs id = some (.nest t l e i none) ∧ nep pt p e i = ep ∧ Rep w g (some (id, [])) (.sl true t) l [g.sv id []] ∧ getK (.sl true t) l p k = some r := by
  unfold nfetchK at h
  split at h
  · rename_i t l e i ho
    cases hb : Nat.beq (nep pt p e i) ep with
    | false => rw [hb] at h; simp at h
    | true =>
      rw [hb] at h
      exact ⟨t, l, e, i, ho, Nat.eq_of_beq_eq_true hb, hh.objs id _ ho, h⟩
  · simp at h
/-- An element, or a part of one, at a path that is not empty. -/
theorem nest_get {w : World} {g : Ghost} {id : Nat} {t : Ty} {l : List t.den} {s : Step} {p : Path} {k : (u : Ty) → u.den → Option R} {r : R} (hrep : Rep w g (some (id, [])) (.sl true t) l [g.sv id []])
    (h : getK (.sl true t) l (s :: p) k = some r) : ∃ (u : Ty) (x : u.den) (bh oh : Nat) (ch : Array Value) (eh : TypeId) (ph : Path), k u x = some r ∧ place g id (.sl true t) [] 0 0 (s :: p) = some (bh, oh) ∧
      tyS (.sl true t) (s :: p) = some u.sk ∧ tyU (.sl true t) (s :: p) = some u ∧ g.tag bh = .row id ph ∧ w.heap[bh]? = some (.cells ch eh (0, 0)) ∧ oh + u.size ≤ ch.size ∧ Rep w g (some (id, s :: p)) u x (seg ch.toList oh u.size) := by
  cases s with
  | fst => simp [getK] at h
  | snd => simp [getK] at h
  | idx i =>
    simp only [getK, Option.bind_eq_some_iff] at h
    obtain ⟨x, hx, h⟩ := h
    obtain ⟨h0, hi, rfl, hlt⟩ := idx_some hx
    have hii : ((i.toNat : Nat) : Int) = i := Int.toNat_of_nonneg h0
    obtain ⟨a, cap, hcs, hsv, hlc, hcm, hrow⟩ := hrep
    rcases hrow with ⟨_, hl, _⟩ | ⟨b2, o2, c2, e2, rfl, htag2, hcell2, hsz2, hel⟩
    · rw [hl] at hi; simp at hi
    · have hcap : (i.toNat + 1) * t.size ≤ cap * t.size := Nat.mul_le_mul_right _ (by omega)
      rw [Nat.add_mul] at hcap
      have hel_i := hel _ hi
      rw [hii] at hel_i
      have := nget (pre := [.idx i]) htag2 hcell2 (by omega) hel_i h
      simpa [place, tyS, tyU, hsv] using this

/-- The row itself, or one of its rows. -/
theorem nrow_ok {w : World} {g : Ghost} {σ : St} (hh : HeapOK w g σ.objs) {id : Nat} {p : Path} {ep : Nat} {k : (v : Ty) → List v.den → Option R} {r : R} (h : nrowK σ id p ep k = some r) :
    ∃ t l0 e i v l, σ.objs id = some (.nest t l0 e i none) ∧ nep false p e i = ep ∧ Rep w g (some (id, p)) (.sl true v) l [g.sv id p] ∧ k v l = some r ∧ tyQ (.sl true t) p = some v ∧ ∃ x, place g id (.sl true t) [] 0 0 p = some x := by
  unfold nrowK at h
  obtain ⟨t, l0, e, i, ho, hep, hrep, h⟩ := nfetch_ok hh h
  cases p with
  | nil =>
    have h' : k t l0 = some r := by simpa [getK] using h
    exact ⟨t, l0, e, i, t, l0, ho, hep, hrep, h', rfl, (0, 0), by simp [place]⟩
  | cons s q =>
    obtain ⟨u, x, bh, oh, ch, eh, ph, hk, hpl, _, htu, _, _, _, hr⟩ := nest_get hrep h
    cases u with
    | sl o v =>
      cases o with
      | false => simp at hk
      | true =>
        refine ⟨t, l0, e, i, v, x, ho, hep, ?_, hk, tyU_Q htu, _, hpl⟩
        obtain ⟨a, cap, hcs, hsv, h1⟩ := hr
        exact ⟨a, cap, by rw [hsv], hsv, h1⟩
    | _ => simp at hk

end Go.Kz
