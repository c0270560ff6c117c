/-
  Struct literals: how the model builds a struct of all its fields.
-/
import Derived.Test.YtakifbcgkbfclaaKzQ
set_option linter.unusedVariables false
set_option linter.unusedSimpArgs false
namespace Go.Kz

/-- Places of parts that follow each other. -/
def PlOK (place : Nat → Option (Nat × Nat)) : Nat → Nat → List Value → Prop
  | _, _, [] => True
  | j, off, v :: vs => place j = some (off, v.cells.size) ∧ PlOK place (j + 1) (off + v.cells.size) vs

theorem fill_places {place : Nat → Option (Nat × Nat)} : (vs : List Value) → (j off : Nat) → (cells : Array Value) → PlOK place j off vs → off + ((vs.map (·.cells.toList)).flatten).length ≤ cells.size →
    ∃ cells', Instr.fill place cells (numbered j vs) = some cells' ∧ cells'.toList = splice cells.toList off ((vs.map (·.cells.toList)).flatten)
  | [], j, off, cells, _, h => ⟨cells, rfl, by simp [splice]⟩
  | v :: vs, j, off, cells, hp, h => by
    obtain ⟨h1, h2⟩ := hp
    simp only [List.map_cons, List.flatten_cons, List.length_append, Array.length_toList] at h
    have hfold := fold_set off v.cells.toList 0 cells (by rw [Array.length_toList]; omega)
    let cells2 : Array Value := (v.cells.toList.zipIdx 0).foldl (fun cs (x : Value × Nat) => cs.setIfInBounds (off + x.2) x.1) cells
    have hc2 : cells2.toList = splice cells.toList off v.cells.toList := hfold
    have hsz2 : cells2.size = cells.size := by
      rw [← Array.length_toList, hc2, splice_length _ _ _ (by rw [Array.length_toList, Array.length_toList]; omega), Array.length_toList]
    obtain ⟨cells', h3, h4⟩ := fill_places vs (j + 1) (off + v.cells.size) cells2 h2 (by rw [hsz2]; omega)
    refine ⟨cells', ?_, ?_⟩
    · simp only [numbered, Instr.fill, h1]
      rw [if_neg (by simp; omega)]
      rw [← h3]
      congr 1
      show v.cells.zipIdx.foldl _ cells = cells2
      rw [← Array.foldl_toList, Array.toList_zipIdx]
    · rw [h4, hc2]
      simp only [splice, List.map_cons, List.flatten_cons, List.length_append, Array.length_toList]
      have hl : (cells.toList.take off).length = off := by simp; omega
      have e1 : (cells.toList.take off ++ v.cells.toList ++ cells.toList.drop (off + v.cells.size)).take (off + v.cells.size) = cells.toList.take off ++ v.cells.toList := by
        rw [List.take_append_of_le_length (by simp; omega), List.take_of_length_le (by simp; omega)]
      have e2 : ∀ n, (cells.toList.take off ++ v.cells.toList ++ cells.toList.drop (off + v.cells.size)).drop (off + v.cells.size + n) = cells.toList.drop (off + (v.cells.size + n)) := by
        intro n
        rw [List.drop_append, List.drop_eq_nil_of_le (by simp; omega), List.nil_append, List.drop_drop]
        congr 1
        simp; omega
      rw [e1, e2]
      simp [List.append_assoc]

/-- The places of a struct's fields against the parts. -/
def PlL : List (Nat × Nat) → Nat → List Value → Prop
  | [], _, [] => True
  | p :: pl, off, v :: vs => p = (off, v.cells.size) ∧ PlL pl (off + v.cells.size) vs
  | _, _, _ => False
theorem PlL.ok : {pl : List (Nat × Nat)} → {off : Nat} → {vs : List Value} → PlL pl off vs → (pre : List (Nat × Nat)) → PlOK (fun i => (pre ++ pl).toArray[i]?) pre.length off vs
  | [], _, [], _, _ => trivial
  | p :: pl, off, v :: vs, h, pre => by
    obtain ⟨h1, h2⟩ := h
    refine ⟨by simp [h1], ?_⟩
    have := h2.ok (pre ++ [p])
    simp only [List.append_assoc, List.singleton_append, List.length_append, List.length_singleton] at this
    exact this
  | [], _, _ :: _, h, _ => h.elim
  | _ :: _, _, [], h, _ => h.elim

section
variable {P : Program} {w : World}

theorem run_sizeOf' {T : TypeId} {t : Ty} (h : InfoOK P T t) (w : World) : (Go.sizeOf T).run P w = .ok t.size w := by
  obtain ⟨i, z, h1, h2, _⟩ := h.info
  simp [Go.sizeOf, typeInfo, h1, h2]

/-- The parts' places and cells. -/
theorem parts_places {g : Ghost} {objs : Objs} : {av : AVal} → {u : Ty} → {fs : List Field} → {vs : List Value} → {off : Nat} → VsOK w g objs av vs → allVal av = true → av.sk = u.sk → FsOK P u fs off →
    ∃ pl, (∀ w', (fs.mapM (m := Sem) fun f => do pure (f.offset, ← Go.sizeOf f.type)).run P w' = .ok pl w') ∧ PlL pl off vs ∧ AOK w g objs av ((vs.map (·.cells.toList)).flatten) ∧ ((vs.map (·.cells.toList)).flatten).length = u.size
  | .pr a b, .pair t u, [], vs, off, _, _, _, hf => by simp [FsOK] at hf
  | .pr a b, .pair t u, f :: fs, vs, off, h, hv, hs, hf => by
    simp only [VsOK] at h
    obtain ⟨v, rest, rfl, h1, h2⟩ := h
    simp only [allVal, Bool.and_eq_true] at hv
    simp only [AVal.sk, Ty.sk, Sk.pair.injEq] at hs
    simp only [FsOK] at hf
    obtain ⟨f1, f2, f3⟩ := hf
    obtain ⟨cs, c1, c2, c3⟩ := VOK_valueCells hv.1 h1
    have hsz : v.cells.size = t.size := by rw [← Array.length_toList, c3, c1.len, hs.1, Ty.sk_size]
    obtain ⟨pl, p1, p2, p3, p4⟩ := parts_places h2 hv.2 hs.2 f3
    refine ⟨(off, t.size) :: pl, fun w' => ?_, ⟨by rw [hsz], by rw [hsz]; exact p2⟩, ?_, ?_⟩
    · have := p1 w'
      simp only [List.mapM_cons, Sem.run_bind, run_sizeOf' f2.info, Result.andThen_ok, Sem.run_pure, this, f1]
    · simp only [List.map_cons, List.flatten_cons, AOK]
      exact ⟨_, _, rfl, by rw [c3]; exact c1, p3⟩
    · simp only [List.map_cons, List.flatten_cons, List.length_append, Array.length_toList, hsz, p4, Ty.size]
  | .un, .unit, [], vs, off, h, _, _, _ => by
    simp only [VsOK] at h
    subst h
    exact ⟨[], fun w' => rfl, trivial, by simp [AOK], rfl⟩
  | .un, .unit, _ :: _, vs, off, _, _, _, hf => by simp [FsOK] at hf
  | .un, .pair _ _, _, _, _, _, _, hs, _ => by simp [AVal.sk, Ty.sk] at hs
  | .pr _ _, .unit, _, _, _, _, _, hs, _ => by simp [AVal.sk, Ty.sk] at hs
  | _, .int _, _, _, _, _, _, _, hf => by simp [FsOK] at hf
  | _, .bool, _, _, _, _, _, _, hf => by simp [FsOK] at hf
  | _, .str, _, _, _, _, _, _, hf => by simp [FsOK] at hf
  | _, .arr _ _, _, _, _, _, _, _, hf => by simp [FsOK] at hf
  | _, .sl _ _, _, _, _, _, _, _, hf => by simp [FsOK] at hf
  | _, .ptr _, _, _, _, _, _, _, hf => by simp [FsOK] at hf
  | _, .fn _ _, _, _, _, _, _, _, hf => by simp [FsOK] at hf
  | .data _ _, _, _, _, _, _, hv, _, _ => by simp [allVal] at hv
  | .nilS, _, _, _, _, _, hv, _, _ => by simp [allVal] at hv
  | .ref _ _ _, _, _, _, _, _, hv, _, _ => by simp [allVal] at hv
  | .view _ _ _ _ _, _, _, _, _, _, hv, _, _ => by simp [allVal] at hv
  | .bptr _ _, _, _, _, _, _, hv, _, _ => by simp [allVal] at hv
  | .eptr _ _ _, _, _, _, _, _, hv, _, _ => by simp [allVal] at hv
  | .mref _, _, _, _, _, _, hv, _, _ => by simp [allVal] at hv
  | .nv _ _ _ _, _, _, _, _, _, hv, _, _ => by simp [allVal] at hv
  | .clos _ _, _, _, _, _, _, hv, _, _ => by simp [allVal] at hv
  | .agg _, _, _, _, _, _, hv, _, _ => by simp [allVal] at hv
  | .tup _, _, _, _, _, _, hv, _, _ => by simp [allVal] at hv

/-- A struct of all its fields. -/
theorem build_run {g : Ghost} {objs : Objs} {av : AVal} {a b : Ty} {T : TypeId} {vs : List Value} (h : VsOK w g objs av vs) (hv : allVal av = true) (hs : av.sk = (Ty.pair a b).sk) (hT : TyOK P (.pair a b) T) (w' : World) :
    (Instr.build T (numbered 0 vs).toArray).run P w' = .ok (.agg ((vs.map (·.cells.toList)).flatten).toArray) w' ∧ AOK w g objs av ((vs.map (·.cells.toList)).flatten) := by
  simp only [TyOK] at hT
  obtain ⟨⟨fs, hu, hf⟩, hinf⟩ := hT
  obtain ⟨i, z, i1, i2, i3, i4, i5, i6⟩ := hinf.info
  obtain ⟨pl, p1, p2, p3, p4⟩ := parts_places h hv hs hf
  have hzl : z.cells.size = (Ty.pair a b).size := by
    rw [← Array.length_toList, i5]
    have := zeroCells_len (.pair a b)
    exact this
  obtain ⟨cells, c1, c2⟩ := fill_places vs 0 0 z.cells (p2.ok []) (by rw [hzl, p4]; omega)
  have hc : cells = ((vs.map (·.cells.toList)).flatten).toArray := by
    apply Array.toList_inj.1
    rw [c2]
    simp only [splice, List.take_zero, List.nil_append, Nat.zero_add]
    rw [List.drop_eq_nil_of_le (by rw [Array.length_toList, hzl, p4]; exact Nat.le_refl _), List.append_nil]
  refine ⟨?_, p3⟩
  have hp := p1 w'
  have hmap : (fs.mapM (m := Sem) fun f => do pure (f.offset, ← Go.sizeOf f.type)).run P w' = .ok pl.toArray w' := by
    rw [Array.mapM_eq_mapM_toList, ← bind_pure_comp]
    simp only [Sem.run_bind, hp, Result.andThen_ok, Sem.run_pure]
  unfold Instr.build
  have hz : (zeroValue T).run P w' = .ok z w' := by simp [zeroValue, typeInfo, i1, i4]
  simp only [List.nil_append] at c1
  simp only [Sem.run_bind, hz, run_underlying hu, Result.andThen_ok, Sem.run_pure, hmap, c1, hc]
end

section
variable {R : Type} {P : Program} {o : Oper} {a : Act} {w : World} {c : Ctx} {σ : St} {g : Ghost} {k : St → Option R} {r : R} {base : Nat}

theorem op_build (htt : TtOK P c.tt) {t : TypeId} {ps : Array (Nat × Operand)} (ho : o.op = .build t ps) (hst : StOK c.ntmps g w a σ) (h : opK0 c σ base o k = some r) : Yield P o a w g σ c k r := by
  simp only [opK0, ho] at h
  split at h
  · rename_i av x y hev htu
    cases hb : (inOrder 0 ps.toList && allVal av && av.sk.same (Ty.pair x y).sk) with
    | false => rw [hb] at h; simp at h
    | true =>
      rw [hb] at h
      simp only [cond_true] at h
      simp only [Bool.and_eq_true] at hb
      obtain ⟨⟨h1, h2⟩, h3⟩ := hb
      obtain ⟨hv, hf⟩ := evs_ok hst hev
      have hs := Sk.same_eq h3
      have hT := htt _ _ htu
      have hnum : ps.toList.map (fun x => (x.1, a.eval x.2)) = numbered 0 ((ps.toList.map (·.2)).map a.eval) := by
        rw [inOrder_numbered h1 a.eval, List.map_map]; rfl
      have hps : (ps.map fun x => (x.1, a.eval x.2)) = (numbered 0 ((ps.toList.map (·.2)).map a.eval)).toArray := by
        apply Array.toList_inj.1
        rw [Array.toList_map, hnum]
      refine yld (v := .agg ((((ps.toList.map (·.2)).map a.eval).map (·.cells.toList)).flatten).toArray) (fun w' _ => ?_) ?_ (fun m hm => by have := hf m hm; simpa [AVal.ids] using this) h
      · have := (build_run (P := P) hv h2 hs hT w').1
        rw [← hps] at this
        simp [execOp, ho, this]
      · have := (build_run (P := P) hv h2 hs hT w).2
        simp only [VOK]
        exact ⟨_, by simp only [AOK]; exact this, rfl⟩
  · simp at h
end

end Go.Kz
