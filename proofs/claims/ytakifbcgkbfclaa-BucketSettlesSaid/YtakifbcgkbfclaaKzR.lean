/-
  Stores.
-/
import Derived.Test.YtakifbcgkbfclaaKzQA
set_option linter.unusedVariables false
set_option linter.unusedSimpArgs false
namespace Go.Kz
variable {R : Type}

/-- A block of the object id rewritten (and perhaps its slice value another). -/
structure Rewrote (w : World) (g : Ghost) (w' : World) (g' : Ghost) (id b0 : Nat) : Prop where
  heap : ∀ b, b ≠ b0 → w'.heap[b]? = w.heap[b]?
  size : w'.heap.size = w.heap.size
  os : w'.os = w.os
  tape : w'.tape = w.tape
  output : w'.output = w.output
  own : (∃ p, g.tag b0 = .row id p) ∨ g.tag b0 = .box id
  tag : g'.tag = g.tag
  blk : g'.blk = g.blk
  sv : ∀ i, i ≠ id → g'.sv i = g.sv i

theorem Rewrote.notRo {w w' : World} {g g' : Ghost} {id b0 : Nat} (h : Rewrote w g w' g' id b0) {b : Nat} (hb : g.tag b = .ro ∨ g.tag b = .alien) : b ≠ b0 := by
  intro he; subst he
  rcases h.own with ⟨p, h⟩ | h <;> rw [h] at hb <;> simp at hb
theorem Rewrote.ro {w w' : World} {g g' : Ghost} {id b0 : Nat} (h : Rewrote w g w' g' id b0) : RoKept w g w' g' :=
  ⟨fun b hb => ⟨by rw [h.tag]; exact hb, h.heap b (h.notRo (.inl hb))⟩⟩
theorem Rewrote.same {w w' : World} {g g' : Ghost} {id b0 : Nat} (h : Rewrote w g w' g' id b0) {i : Nat} (hi : i ≠ id) : Same w g w' g' i := by
  refine ⟨⟨fun q => by rw [h.sv i hi], fun q b hb => ⟨by rw [h.tag]; exact hb, h.heap b ?_⟩⟩, by rw [h.blk], fun hb => ⟨by rw [h.tag]; exact hb, h.heap _ ?_⟩⟩
  · intro he; subst he
    rcases h.own with ⟨p, h⟩ | h <;> rw [h] at hb <;> simp at hb
    exact hi hb.1.symm
  · intro he; rw [he] at hb
    rcases h.own with ⟨p, h⟩ | h <;> rw [h] at hb <;> simp at hb
    exact hi hb.symm
theorem Rewrote.ext {w w' : World} {g g' : Ghost} {id b0 : Nat} (h : Rewrote w g w' g' id b0) : Ext w g w' g' :=
  ⟨h.os, h.tape, h.output, by rw [h.size]; exact Nat.le_refl _, fun b _ hb => ⟨h.heap b (h.notRo (hb.symm.imp _root_.id _root_.id)), by rw [h.tag]⟩⟩

theorem Rewrote.st {n : Nat} {w w' : World} {a : Act} {g g' : Ghost} {σ : St} {id b0 : Nat} {o' : Obj} (h : Rewrote w g w' g' id b0) (hst : StOK n g w a σ)
    (hk : IdKept g g' id (σ.objs id) (some o')) (hobj : ObjOK w' g' (σ.setObj id o').objs id o') : StOK n g' w' a (σ.setObj id o') := by
  have hkept : ∀ i, IdKept g g' i (σ.objs i) ((σ.setObj id o').objs i) := by
    intro i
    by_cases hi : i = id
    · subst hi; simp only [St.setObj, upd_same]; exact hk
    · simp only [St.setObj]; rw [upd_other _ _ hi]; exact IdKept.same (h.same hi)
  refine ⟨fun i av hi => ?_, ⟨fun i x hx => ?_, fun b hb => ?_⟩, hst.size, hst.defers⟩
  · obtain ⟨v, hv, hok⟩ := hst.slots i av hi
    exact ⟨v, hv, VOK.frame h.ro (fun i _ => hkept i) hok⟩
  · by_cases hi : i = id
    · subst hi
      simp only [St.setObj, upd_same, Option.some.injEq] at hx
      subst hx; exact hobj
    · have hx' : σ.objs i = some x := by simpa [St.setObj, upd_other _ _ hi] using hx
      exact ObjOK.frame h.ro (h.same hi) (fun y hy i' _ => hkept i') (hst.heap.objs i x hx')
  · rw [h.tag] at hb; rw [h.size]; exact hst.heap.tags b hb
theorem Rewrote.fresh {w w' : World} {g g' : Ghost} {σ : St} {id b0 m : Nat} {o' : Obj} (h : Rewrote w g w' g' id b0) (hid : σ.objs id ≠ none) (hc : ∀ y, o' = .cell y → m ∉ y.ids) (hf : Fresh g σ m) : Fresh g' (σ.setObj id o') m := by
  have hm : m ≠ id := by intro he; subst he; exact hid hf.objs
  refine ⟨by simp only [St.setObj]; rw [upd_other _ _ hm]; exact hf.objs, fun b p => by rw [h.tag]; exact hf.row b p, fun b => by rw [h.tag]; exact hf.box b, hf.slots, fun i av hi => ?_⟩
  by_cases he : i = id
  · subst he
    simp only [St.setObj, upd_same, Option.some.injEq] at hi
    exact hc av hi
  · simp only [St.setObj] at hi
    rw [upd_other _ _ he] at hi
    exact hf.cells i av hi

theorem setRow_rewrote {w : World} {g : Ghost} {id b0 : Nat} (cs : Array Value) (hown : (∃ p, g.tag b0 = .row id p) ∨ g.tag b0 = .box id) : Rewrote w g (w.setRow b0 cs) g id b0 :=
  ⟨fun b hb => setRow_other w b0 b cs hb, by simp [World.setRow], rfl, rfl, rfl, hown, rfl, rfl, fun _ _ => rfl⟩

section
variable {P : Program} {o : Oper} {a : Act} {w : World} {K : Act → World → Prop} {Q : Exit → Act → World → Prop} {c : Ctx} {σ : St} {g : Ghost} {k : St → Option R} {r : R} {base : Nat} {mo : Bool}

theorem run_storeVar {T : TypeId} {u : Ty} (hT : TyOK P u T) {b off : Nat} {cc : Array Value} {e : TypeId} {v : Value} {cs : List Value} (hc : w.heap[b]? = some (.cells cc e (0, 0))) (hv : v.cells.toList = cs)
    (hl : cs.length = u.size) (hs : off + u.size ≤ cc.size) (h1 : ∀ x ∈ cs, x.oneCell' = true) :
    (storeVar T ⟨b, off, none⟩ v).run P w = .ok () (w.setRow b (splice cc.toList off cs).toArray) := by
  have hsz := hT.info.sizeOf w
  have hvs : v.cells.size = u.size := by rw [← Array.length_toList, hv, hl]
  have hst := run_storeCells_at P b off e cs 0 cc w hc (by rw [hl]; omega) h1
  simp only [Nat.add_zero] at hst
  simp [storeVar, hsz, hvs, hv, hst, splice]

theorem wp_skip {σ' : St} {g' : Ghost} {w' : World} (hd : o.dst = none) (hrun : (execOp a.eval o).run P w = .ok .skip w') (hst : StOK c.ntmps g' w' a σ') (hext : Ext w g w' g')
    (hfr : ∀ m, (m < base ∨ base + 8 ≤ m) → Fresh g σ m → Fresh g' σ' m) (hn : σ'.next = σ.next) (hk : k σ' = some r) (hag : mo = false → Agree w w') (hK : Post c.ntmps k r g w σ base mo K) : o.wp P a w K Q := by
  unfold Oper.wp
  rw [hrun, Oper.upon_skip, hd]
  exact hK σ' g' a w' hk hst hext hfr hn hag

/-- A store into a row. -/
theorem row_store {id : Nat} {t : Ty} {l : List t.den} {e : Nat} {i : Int} {q : Path} {u : Ty} {d : u.den} {cs : List Value} {f : List t.den → Option R} {b0 off0 : Nat}
    (hh : HeapOK w g σ.objs) (ho : σ.objs id = some (.row t l e)) (hu : u.isRo = true) (hrep : Rep w g none u d cs)
    (hpl : place g id (.sl true t) [] 0 0 (.idx i :: q) = some (b0, off0)) (h : setK (.sl true t) l (.idx i :: q) u d f = some r) :
    ∃ l' cc ee, f l' = some r ∧ l'.length = l.length ∧ w.heap[b0]? = some (.cells cc ee (0, 0)) ∧ g.tag b0 = .row id [] ∧ off0 + u.size ≤ cc.size ∧
      ObjOK (w.setRow b0 (splice cc.toList off0 cs).toArray) g (σ.setObj id (.row t l' e)).objs id (.row t l' e) := by
  have hobj := hh.objs id _ ho
  simp only [setK, Option.bind_eq_some_iff] at h
  obtain ⟨x, hx, h⟩ := h
  obtain ⟨h0, hi, rfl, hlt⟩ := idx_some hx
  obtain ⟨ad, cap, hcs, hsv, hlc, hcm, hrow⟩ := hobj.2
  rcases hrow with ⟨_, hl, _⟩ | ⟨b, off, cc, ee, rfl, htag, hcell, hsz, helts⟩
  · rw [hl] at hi; simp at hi
  · have hel := Rep.anyOwn (o' := none) hobj.1 (helts _ hi)
    obtain ⟨d', o', hk, hoff, hr⟩ := setK_rep hobj.1 hel hrep h
    have hpl2 : place g id (.sl true t) [] 0 0 (.idx i :: q) = some (b, off + i.toNat * t.size + o') := by
      simp only [place, hsv, List.nil_append]
      exact place_flat hoff
    rw [hpl] at hpl2
    simp only [Option.some.injEq, Prod.mk.injEq] at hpl2
    obtain ⟨rfl, rfl⟩ := hpl2
    have hle := Sk.off_le hoff
    rw [Ty.sk_size, Ty.sk_size] at hle
    have hcap : (i.toNat + 1) * t.size ≤ cap * t.size := Nat.mul_le_mul_right _ (by omega)
    rw [Nat.add_mul] at hcap
    have hcl : cs.length = u.size := hrep.len
    have hccl : cc.toList.length = cc.size := Array.length_toList
    refine ⟨_, cc, ee, hk, setI_length _ _ _, hcell, htag, by omega, hobj.1, some ⟨b0, off, none⟩, cap, ?_, ?_, ?_, hcm, .inr ⟨b0, off, (splice cc.toList (off + i.toNat * t.size + o') cs).toArray, ee, rfl, htag, ?_, ?_, fun j hj => ?_⟩⟩
    · rw [setI_length, hsv]
    · rw [setI_length]; exact hsv
    · rw [setI_length]; exact hlc
    · exact setRow_heap w b0 cc _ ee _ hcell
    · rw [List.size_toArray, splice_length _ _ _ (by rw [hcl, hccl]; omega), hccl]; exact hsz
    · have hRo : RoKept w g (w.setRow b0 (splice cc.toList (off + i.toNat * t.size + o') cs).toArray) g := (setRow_rewrote (id := id) _ (.inl ⟨[], htag⟩)).ro
      have hj' : j < l.length := by rw [setI_length] at hj; exact hj
      have hjcap : (j + 1) * t.size ≤ cap * t.size := Nat.mul_le_mul_right _ (by omega)
      rw [Nat.add_mul] at hjcap
      rw [setI_get]
      refine Rep.anyOwn hobj.1 (o := none) ?_
      by_cases hij : i.toNat = j
      · rw [if_pos hij]
        subst hij
        have e : off + i.toNat * t.size + o' = (off + i.toNat * t.size) + o' := rfl
        rw [splice_seg_inner _ _ _ _ _ (by rw [hcl]; exact hle) (by rw [hccl]; omega)]
        exact hr.kept hRo
      · rw [if_neg hij]
        have hold := (Rep.anyOwn (o' := none) hobj.1 (helts j hj')).kept hRo
        rcases Nat.lt_or_gt_of_ne hij with hlt' | hgt
        · have h3 : (i.toNat + 1) * t.size ≤ j * t.size := Nat.mul_le_mul_right _ hlt'
          rw [Nat.add_mul] at h3
          rw [seg_splice_after _ _ _ _ _ (by rw [hcl]; omega) (by rw [hcl, hccl]; omega)]
          exact hold
        · have h3 : (j + 1) * t.size ≤ i.toNat * t.size := Nat.mul_le_mul_right _ hgt
          rw [Nat.add_mul] at h3
          rw [seg_splice_before _ _ _ _ _ (by omega) (by rw [hccl]; omega)]
          exact hold

end
end Go.Kz
