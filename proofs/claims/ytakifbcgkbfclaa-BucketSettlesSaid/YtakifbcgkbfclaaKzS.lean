/-
  Append.
-/
import Derived.Test.YtakifbcgkbfclaaKzRB
set_option linter.unusedVariables false
set_option linter.unusedSimpArgs false
namespace Go.Kz
variable {R : Type}

section
variable {P : Program} {o : Oper} {a : Act} {w : World} {K : Act → World → Prop} {Q : Exit → Act → World → Prop} {c : Ctx} {σ : St} {g : Ghost} {k : St → Option R} {r : R} {base : Nat}

/-- What is appended: its cells, read in whatever world has this heap. -/
structure Tail (P : Program) (w : World) (g : Ghost) (t : Ty) (x : Value) (m : List t.den) (news : List Value) : Prop where
  len : ∀ w' : World, w'.heap = w.heap → (Builtin.lenOf x).run P w' = .ok m.length w'
  cells : ∀ w' : World, w'.heap = w.heap → (Builtin.firstCells t.size m.length x).run P w' = .ok news.toArray w'
  length : news.length = m.length * t.size
  elts : ∀ (i : Nat) (h : i < m.length), Rep w g none t (m.get ⟨i, h⟩) (seg news (i * t.size) t.size)
  one : ∀ v ∈ news, v.oneCell' = true

theorem cell?_congr {w w' : World} (h : w'.heap = w.heap) (ad : Addr) : w'.cell? ad = w.cell? ad := by simp [World.cell?, h]

theorem Tail.of_block {t : Ty} {m : List t.den} {b off cap : Nat} {cc : Array Value} {e : TypeId} {fz : Nat × Nat} (hc : w.heap[b]? = some (.cells cc e fz)) (hs : off + m.length * t.size ≤ cc.size)
    (hel : ∀ (i : Nat) (h : i < m.length), Rep w g none t (m.get ⟨i, h⟩) (seg cc.toList (off + i * t.size) t.size)) :
    Tail P w g t (.slice (some ⟨b, off, none⟩) m.length cap) m (seg cc.toList off (m.length * t.size)) := by
  have hlen : (seg cc.toList off (m.length * t.size)).length = m.length * t.size := seg_length (by rw [Array.length_toList]; exact hs)
  refine ⟨fun w' _ => rfl, fun w' hw' => ?_, hlen, fun i hi => ?_, fun v hv => ?_⟩
  · refine run_firstCells_some (P := P) w' t.size m.length ⟨b, off, none⟩ m.length cap _ hlen (fun j v hv => ?_)
    rw [Addr.add_lit, cell?_congr hw', cell_of_row w b (off + j) cc e fz hc]
    simp only [seg, List.getElem?_take, List.getElem?_drop] at hv
    split at hv
    · simpa using hv
    · simp at hv
  · have hmul : (i + 1) * t.size ≤ m.length * t.size := Nat.mul_le_mul_right _ hi
    rw [Nat.add_mul] at hmul
    rw [seg_seg _ _ _ _ _ (by omega)]
    exact hel i hi
  · obtain ⟨j, hj, rfl⟩ := List.mem_iff_getElem.1 hv
    have hj' := hj
    rw [hlen] at hj'
    have htz : 0 < t.size := by
      rcases Nat.eq_zero_or_pos t.size with hz | hz
      · rw [hz] at hj'; omega
      · exact hz
    have hi : j / t.size < m.length := Nat.div_lt_of_lt_mul (by rw [Nat.mul_comm]; omega)
    have h1 := (hel _ hi).one
    refine h1 _ ?_
    have hm := Nat.mod_lt j htz
    have hdm := Nat.div_add_mod j t.size
    have hmul : (j / t.size + 1) * t.size ≤ m.length * t.size := Nat.mul_le_mul_right _ hi
    rw [Nat.add_mul] at hmul
    refine List.mem_iff_getElem.2 ⟨j % t.size, ?_, ?_⟩
    · rw [seg_length (by rw [Array.length_toList]; omega)]; exact hm
    · simp only [seg, List.getElem_take, List.getElem_drop]
      congr 1
      rw [Nat.add_assoc, Nat.mul_comm (j / t.size), hdm]

theorem Tail.of_nil {t : Ty} {b : Option Addr} {cap : Nat} : Tail P w g t (.slice b 0 cap) ([] : List t.den) [] := by
  refine ⟨fun w' _ => rfl, fun w' _ => ?_, by simp, fun i h => by simp at h, by simp⟩
  cases b with
  | none => simp [Builtin.firstCells]
  | some b => simp [Builtin.firstCells, loadCells, loadCellsFrom]

theorem ro_refl (w : World) (g : Ghost) : RoKept w g w g := ⟨fun _ hb => ⟨hb, rfl⟩⟩

theorem tail_ok (hh : HeapOK w g σ.objs) {x : AVal} {v : Value} {t : Ty} {f : List t.den → Option R} (ht : t.isRo = true) (hx : VOK w g σ.objs x v) (h : asData σ 20 x (.sl false t) f = some r) (hval : x.val = true) (hnv : x.isNv = false) :
    ∃ m news, f m = some r ∧ Tail P w g t v m news := by
  cases x with
  | data t' d =>
    simp only [asData] at h
    obtain ⟨he, h⟩ := castK_some h
    subst he
    simp only [VOK] at hx
    obtain ⟨cs, ⟨hro, b, cap, rfl, h1, h2, h3⟩, hv⟩ := hx
    have hv' : v = .slice b (List.length d) cap := hv
    subst hv'
    refine ⟨d, ?_⟩
    by_cases hn : d = []
    · subst hn
      exact ⟨[], h, Tail.of_nil⟩
    · obtain ⟨bk, off, cc, e, fz, rfl, htag, hcell, hsz, hel⟩ := h3 hn
      exact ⟨_, h, Tail.of_block hcell hsz hel⟩
  | nilS =>
    simp only [asData] at h
    have hv := VOK_nil.1 hx
    subst hv
    have h' : f [] = some r := by
      have : (Ty.sl false t).isRo = true := by simp [Ty.isRo, ht]
      rw [this] at h
      exact h
    exact ⟨[], [], h', Tail.of_nil⟩
  | ref id p ep =>
    simp only [asData] at h
    obtain ⟨t', l, hobj, rfl, hro, h⟩ := fetch_ok hh h
    obtain ⟨he, h⟩ := castK_some h
    have he' : t'.ro = t := by
      have : Ty.sl false t'.ro = Ty.sl false t := he
      simpa using this
    subst he'
    simp only [VOK] at hx
    obtain ⟨cs, ⟨x, rfl, _, hv⟩, hv'⟩ := hx
    have e1 := (hv _ _ _ hobj).2 rfl
    obtain ⟨b, cap, _, hsv, h1, h2, h3⟩ := (hh.objs _ _ hobj).2
    have hvv : v = .slice b l.length cap := by rw [← hsv, ← e1]; exact hv'
    subst hvv
    have hm : ∀ (hc : (Ty.ro (.sl false t')).den = (Ty.sl false t'.ro).den), (cast hc (Ty.toRo (.sl false t') l) : List t'.ro.den) = l.map (Ty.toRo t') := fun _ => toRo_sl false t' l
    rw [hm] at h
    rcases h3 with ⟨rfl, hl, rfl⟩ | ⟨bk, off, cc, e, rfl, htag, hcell, hsz, hel⟩
    · subst hl
      exact ⟨[], [], h, Tail.of_nil⟩
    · refine ⟨_, seg cc.toList off (l.length * t'.ro.size), h, ?_⟩
      have hlm : (l.map (Ty.toRo t')).length = l.length := by simp
      have hcap : l.length * t'.size ≤ cap * t'.size := Nat.mul_le_mul_right _ h1
      have := Tail.of_block (P := P) (w := w) (g := g) (t := t'.ro) (m := l.map (Ty.toRo t')) (b := bk) (off := off) (cap := cap) hcell (by rw [hlm, Ty.size_ro]; omega) (fun i hi => by
        have hi' : i < l.length := by rw [hlm] at hi; exact hi
        have hf := Rep.freeze (ro_refl w g) (o := none) trivial (Rep.anyOwn (o' := none) hro (hel i hi'))
        simp only [List.get_eq_getElem, List.getElem_map, Ty.size_ro] at hf ⊢
        exact hf)
      rw [hlm] at this
      exact this
  | view id p ep av bv =>
    simp only [asData] at h
    obtain ⟨t', l, hobj, rfl, hro, h⟩ := fetch_ok hh h
    obtain ⟨he, h⟩ := castK_some h
    have he' : t'.ro = t := by
      have : Ty.sl false t'.ro = Ty.sl false t := he
      simpa using this
    subst he'
    simp only [VOK] at hx
    obtain ⟨cs, ⟨x, rfl, _, hv⟩, hv'⟩ := hx
    obtain ⟨_, h0, hab, hbl, e1⟩ := (hv _ _ _ hobj).2 rfl
    obtain ⟨b, cap, _, hsv, h1, h2, h3⟩ := (hh.objs _ _ hobj).2
    have hvv : v = subSlice (.slice b l.length cap) t'.size av bv := by rw [← hsv, ← e1]; exact hv'
    have hm : ∀ (hc : (Ty.ro (.sl false t')).den = (Ty.sl false t'.ro).den), (cast hc (Ty.toRo (.sl false t') (sub l av bv)) : List t'.ro.den) = (sub l av bv).map (Ty.toRo t') := fun _ => toRo_sl false t' _
    rw [hm] at h
    have hsl := sub_length l av bv h0 hab hbl
    have hlm : ((sub l av bv).map (Ty.toRo t')).length = (bv - av).toNat := by rw [List.length_map, hsl]; omega
    by_cases hz : (bv - av).toNat = 0
    · have hnil : (sub l av bv).map (Ty.toRo t') = [] := List.eq_nil_of_length_eq_zero (hlm.trans hz)
      rw [hnil] at h
      refine ⟨[], [], h, ?_⟩
      rw [hvv]
      simp only [subSlice, hz]
      exact Tail.of_nil
    · rcases h3 with ⟨rfl, hl, rfl⟩ | ⟨bk, off, cc, e, rfl, htag, hcell, hsz, hel⟩
      · rw [hl] at hbl; simp at hbl; omega
      · refine ⟨_, seg cc.toList (off + av.toNat * t'.size) ((bv - av).toNat * t'.ro.size), h, ?_⟩
        have hcap : (av.toNat + (bv - av).toNat) * t'.size ≤ cap * t'.size := Nat.mul_le_mul_right _ (by omega)
        rw [Nat.add_mul] at hcap
        have := Tail.of_block (P := P) (w := w) (g := g) (t := t'.ro) (m := (sub l av bv).map (Ty.toRo t')) (b := bk) (off := off + av.toNat * t'.size) (cap := cap - av.toNat) hcell (by rw [hlm, Ty.size_ro]; omega) (fun i hi => by
          have hi1 : i < (sub l av bv).length := by simpa using hi
          have hi2 : av.toNat + i < l.length := by omega
          have hf := Rep.freeze (ro_refl w g) (o := none) trivial (Rep.anyOwn (o' := none) hro (hel _ hi2))
          have hg := sub_get l av bv i hi1 hi2
          rw [List.get_eq_getElem] at hg
          rw [List.get_eq_getElem, List.getElem_map, hg, Ty.size_ro]
          have e3 : off + av.toNat * t'.size + i * t'.size = off + (av.toNat + i) * t'.size := by rw [Nat.add_mul]; omega
          rw [e3]
          exact hf)
        rw [hlm] at this
        rw [hvv]
        simp only [subSlice]
        rw [if_neg (by omega)]
        simp only [Option.map_some, Addr.add_lit]
        exact this
  | agg c => cases c <;> simp [AVal.val] at hval <;> simp [asData] at h
  | nv pt id p ep => simp [AVal.isNv] at hnv
  | _ => simp [asData] at h

theorem run_append_here {T E : TypeId} {t u : Ty} (hund : P.underlying T = some (.slice E)) (hE : InfoOK P E u) (hus : u.size = t.size) {ty : TypeId} {b off n cap : Nat} {cc : Array Value} {e : TypeId} {x : Value} {m : List t.den} {news : List Value}
    (hc : w.heap[b]? = some (.cells cc e (0, 0))) (ht : Tail P w g t x m news) (hroom : n + m.length ≤ cap) (hsz : off + cap * t.size ≤ cc.size) :
    (Builtin.append_ #[T, T] ty #[.slice (some ⟨b, off, none⟩) n cap, x]).run P w = .ok (.slice (some ⟨b, off, none⟩) (n + m.length) cap) (w.setRow b (splice cc.toList (off + n * t.size) news).toArray) := by
  have hs := hE.sizeOf w
  rw [hus] at hs
  have h1 := ht.len w rfl
  have h2 := ht.cells w rfl
  have hmul : (n + m.length) * t.size ≤ cap * t.size := Nat.mul_le_mul_right _ hroom
  rw [Nat.add_mul] at hmul
  have hst := run_storeCells_at P b (off + n * t.size) e news 0 cc w hc (by rw [ht.length]; omega) ht.one
  simp only [Nat.add_zero] at hst
  simp [Builtin.append_, run_underlying hund, hs, h1, hroom, h2, Addr.add_lit, hst, splice]

theorem run_append_none {T E : TypeId} {t u : Ty} (hund : P.underlying T = some (.slice E)) (hE : InfoOK P E u) (hus : u.size = t.size) {ty : TypeId} {x : Value} {news : List Value} (ht : Tail P w g t x ([] : List t.den) news) :
    (Builtin.append_ #[T, T] ty #[.slice none 0 0, x]).run P w = .ok (.slice none 0 0) w := by
  have hs := hE.sizeOf w
  rw [hus] at hs
  have h1 := ht.len w rfl
  have h2 := ht.cells w rfl
  simp only [List.length_nil] at h1 h2
  simp [Builtin.append_, run_underlying hund, hs, h1, h2]

theorem run_append_more {T E : TypeId} {t u : Ty} (hund : P.underlying T = some (.slice E)) (hE : InfoOK P E u) (hus : u.size = t.size) {ty : TypeId} {b : Option Addr} {n cap : Nat} {x : Value} {m : List t.den} {news olds : List Value}
    (ht : Tail P w g t x m news) (hroom : cap < n + m.length) (hbig : n + m.length ≤ 4294967296)
    (hold : ∀ w' : World, w'.heap = w.heap → (Builtin.firstCells t.size n (.slice b n cap)).run P w' = .ok olds.toArray w') :
    ∃ zs, (Builtin.append_ #[T, T] ty #[.slice b n cap, x]).run P w = .ok (.slice (some ⟨w.heap.size, 0, none⟩) (n + m.length) (grownCap w (n + m.length) cap E))
      (w.drew.alloc (.cells (olds.toArray ++ news.toArray ++ zs) E)) ∧ zs.size = (grownCap w (n + m.length) cap E - (n + m.length)) * t.size := by
  obtain ⟨i, z, hi1, hi2, hi3, hi4, hi5, hi6⟩ := hE.info
  rw [hus] at hi2
  have h1 := ht.len w rfl
  have h2 := ht.cells w.drew rfl
  have h3 := hold w.drew rfl
  have hn : ¬ (n + m.length ≤ cap) := by omega
  have hmb : (n + m.length) * i.bytes ≤ 4294967296 * 32768 := Nat.mul_le_mul hbig hi3
  have hfit := growslice_fits (need := n + m.length) (old := cap) (bytes := i.bytes) hroom (by omega)
  have h48' : ¬ (281474976710656 < Builtin.nextslicecap (n + m.length) cap * i.bytes) := by omega
  have h63' : ¬ (9223372036854775807 < ((n : Int) + (m.length : Int))) := by omega
  refine ⟨Builtin.zeroCells z.cells (grownCap w (n + m.length) cap E - (n + m.length)), ?_, ?_⟩
  · rw [← hi2] at h2 h3
    simp [Builtin.append_, run_underlying hund, Go.sizeOf, typeInfo, zeroValue, hi1, hi4, h1, hn, h63', h48', Question.forced, h2, h3, newRow, grownCap]
    rw [show (olds ++ news).toArray = olds.toArray ++ news.toArray from by simp, Array.append_assoc]
  · rw [size_zeroCells, ← Array.length_toList, hi5, zeroCells_len, hus]

end
end Go.Kz
