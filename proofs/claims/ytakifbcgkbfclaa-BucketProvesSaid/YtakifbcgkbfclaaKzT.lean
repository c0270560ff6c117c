/-
  Append, the operation.
-/
import Derived.Test.YtakifbcgkbfclaaKzS
set_option linter.unusedVariables false
set_option linter.unusedSimpArgs false
namespace Go.Kz
variable {R : Type}

theorem seg_splice_inside (l : List Value) (off : Nat) (x : List Value) (j n : Nat) (h : j + n ≤ x.length) (hl : off + x.length ≤ l.length) : seg (splice l off x) (off + j) n = seg x j n := by
  rw [← seg_seg _ off x.length j n h, seg_splice_same _ _ _ hl]

section
variable {w : World} {g : Ghost} {σ : St} {o : Obj} {m : Nat} {tg : Tag} {v : Value}

/-- One object turns; the others stand. -/
theorem StOK.turn {n : Nat} {a : Act} {w' : World} {g' : Ghost} {id : Nat} (hst : StOK n g w a σ) (hr : RoKept w g w' g') (hs : ∀ i, i ≠ id → Same w g w' g' i)
    (hk : IdKept g g' id (σ.objs id) (some o) ∨ Fresh g σ id) (hobj : ObjOK w' g' (σ.setObj id o).objs id o) (ht : ∀ b, g'.tag b ≠ .alien → b < w'.heap.size) : StOK n g' w' a (σ.setObj id o) := by
  have hother : ∀ i, i ≠ id → IdKept g g' i (σ.objs i) ((σ.setObj id o).objs i) := by
    intro i hi
    simp only [St.setObj]; rw [upd_other _ _ hi]; exact IdKept.same (hs i hi)
  have hme : ∀ i, (Fresh g σ id → i ≠ id) → IdKept g g' i (σ.objs i) ((σ.setObj id o).objs i) := by
    intro i hi
    by_cases he : i = id
    · subst he
      rcases hk with hk | hk
      · simp only [St.setObj, upd_same]; exact hk
      · exact absurd rfl (hi hk)
    · exact hother i he
  refine ⟨fun i av hi => ?_, ⟨fun i x hx => ?_, ht⟩, hst.size, hst.defers⟩
  · obtain ⟨u, hu, hok⟩ := hst.slots i av hi
    refine ⟨u, hu, VOK.frame hr (fun j hj => hme j (fun hf he => ?_)) hok⟩
    subst he; exact hf.slots i av hi hj
  · by_cases hi : i = id
    · subst hi
      simp only [St.setObj, upd_same, Option.some.injEq] at hx
      subst hx; exact hobj
    · have hx' : σ.objs i = some x := by simpa [St.setObj, upd_other _ _ hi] using hx
      refine ObjOK.frame hr (hs i hi) (fun y hy j hj => hme j (fun hf he => ?_)) (hst.heap.objs i x hx')
      subst he; subst hy; exact hf.cells i y hx' hj
theorem Fresh.turn {g' : Ghost} {id : Nat} (ht : ∀ b, g'.tag b = g.tag b ∨ ∃ p, g'.tag b = .row id p) (hm : m ≠ id) (ho : ∀ y, o ≠ .cell y) (hf : Fresh g σ m) : Fresh g' (σ.setObj id o) m := by
  refine ⟨by simp only [St.setObj]; rw [upd_other _ _ hm]; exact hf.objs, fun b p hb => ?_, fun b hb => ?_, hf.slots, fun i av hi => ?_⟩
  · rcases ht b with h | ⟨q, h⟩
    · rw [h] at hb; exact hf.row b p hb
    · rw [h] at hb; simp only [Tag.row.injEq] at hb; exact hm hb.1.symm
  · rcases ht b with h | ⟨q, h⟩
    · rw [h] at hb; exact hf.box b hb
    · rw [h] at hb; simp at hb
  · by_cases he : i = id
    · subst he
      simp only [St.setObj, upd_same, Option.some.injEq] at hi
      exact absurd hi (ho av)
    · simp only [St.setObj] at hi
      rw [upd_other _ _ he] at hi
      exact hf.cells i av hi

def svG (g : Ghost) (id : Nat) (v : Value) : Ghost := { g with sv := fun i p => if i = id then v else g.sv i p }
theorem svG_same {id i : Nat} (h : i ≠ id) : Same w g w (svG g id v) i :=
  ⟨⟨fun q => by simp [svG, h], fun _ b hb => ⟨hb, rfl⟩⟩, rfl, fun hb => ⟨hb, rfl⟩⟩

theorem StOK.heapEq {n : Nat} {a : Act} {w' : World} (h : w'.heap = w.heap) (hst : StOK n g w a σ) : StOK n g w' a σ := by
  have hr : RoKept w g w' g := ⟨fun b hb => ⟨hb, by rw [h]⟩⟩
  have hs : ∀ id, Same w g w' g id := fun id => ⟨⟨fun _ => rfl, fun _ b hb => ⟨hb, by rw [h]⟩⟩, rfl, fun hb => ⟨hb, by rw [h]⟩⟩
  have hk : ∀ id, IdKept g g id (σ.objs id) (σ.objs id) := fun id => IdKept.refl g id _
  refine ⟨fun i av hi => ?_, ⟨fun id x hx => ?_, fun b hb => ?_⟩, hst.size, hst.defers⟩
  · obtain ⟨u, hu, hok⟩ := hst.slots i av hi
    exact ⟨u, hu, VOK.frame hr (fun id _ => hk id) hok⟩
  · exact ObjOK.frame hr (hs id) (fun _ _ id' _ => hk id') (hst.heap.objs id x hx)
  · rw [h]; exact hst.heap.tags b hb
theorem Ext.heapEq {w' : World} (h : w'.heap = w.heap) (ho : w'.os = w.os) (ht : w'.tape = w.tape) (hp : w'.output = w.output) : Ext w g w' g :=
  ⟨ho, ht, hp, by rw [h]; exact Nat.le_refl _, fun b _ _ => ⟨by rw [h], rfl⟩⟩
end

section
variable {P : Program} {o : Oper} {a : Act} {w : World} {K : Act → World → Prop} {Q : Exit → Act → World → Prop} {c : Ctx} {σ : St} {g : Ghost} {k : St → Option R} {r : R} {base : Nat} {mo : Bool}

/-- An operation that gives a value, with the state behind it. -/
theorem wp_done {σ' : St} {g' : Ghost} {w' : World} {av : AVal} {v : Value} (hrun : (execOp a.eval o).run P w = .ok (.value v) w') (hst : StOK c.ntmps g' w' a σ') (hext : Ext w g w' g')
    (hfr : ∀ m, (m < base ∨ base + 8 ≤ m) → Fresh g σ m → Fresh g' σ' m ∧ m ∉ av.ids) (hn : σ'.next = σ.next) (hv : VOK w' g' σ'.objs av v)
    (h : σ'.putK c o.dst av k = some r) (hag : mo = false → Agree w w') (hK : Post c.ntmps k r g w σ base mo K) : o.wp P a w K Q := by
  unfold Oper.wp
  rw [hrun, Oper.upon_value]
  rcases putK_some h with ⟨hd, hk⟩ | ⟨i, hd, hi, hk⟩
  · rw [hd]; exact hK σ' g' a w' hk hst hext (fun m hm hf => (hfr m hm hf).1) hn hag
  · rw [hd]; exact hK _ g' _ w' hk (hst.put hi hv) hext (fun m hm hf => (hfr m hm hf).1.set i (hfr m hm hf).2) hn hag

theorem VOK_ref {objs : Objs} {u : Ty} {l : List u.den} {v : Value} {ep id : Nat} (ho : objs id = some (.row u l ep)) (hsv : v = g.sv id []) (hone : v.oneCell' = true) :
    VOK w g objs (.ref id [] ep) v := by
  simp only [VOK]
  refine ⟨_, ⟨v, rfl, hone, fun t l' e hx => ?_⟩, rfl⟩
  rw [ho] at hx
  simp only [Option.some.injEq, Obj.row.injEq] at hx
  obtain ⟨_, _, rfl⟩ := hx
  exact ⟨Nat.le_refl _, fun _ => hsv⟩

theorem tailK_some {t : Ty} {x : AVal} {f : List t.den → Option R} (h : tailK σ t x f = some r) : t.isRo = true ∧ x.val = true ∧ asData σ 20 x (.sl false t) f = some r ∧ x.isNv = false := by
  unfold tailK at h
  cases hb : (t.isRo && x.val && !x.isNv) with
  | false => rw [hb] at h; simp at h
  | true =>
    rw [hb] at h
    simp only [Bool.and_eq_true, Bool.not_eq_true'] at hb
    exact ⟨hb.1.1, hb.1.2, h, hb.2⟩

/-- The elements in the cells of a row that is written behind its end. -/
theorem row_here {t : Ty} {l m : List t.den} {b off cap : Nat} {cc : Array Value} {news : List Value} {e : TypeId} {x : Value} {id : Nat} {w : World} {g g' : Ghost}
    (hro : t.isRo = true) (htail : Tail P w g t x m news) (hroom : l.length + m.length ≤ cap) (hsz : off + cap * t.size ≤ cc.size)
    (hcell : w.heap[b]? = some (.cells cc e (0, 0)))
    (hel : ∀ (i : Nat) (h : i < l.length), Rep w g none t (l.get ⟨i, h⟩) (seg cc.toList (off + i * t.size) t.size))
    (hr : RoKept w g (w.setRow b (splice cc.toList (off + l.length * t.size) news).toArray) g') (i : Nat) (h : i < (l ++ m).length) :
    Rep (w.setRow b (splice cc.toList (off + l.length * t.size) news).toArray) g' none t ((l ++ m).get ⟨i, h⟩) (seg (splice cc.toList (off + l.length * t.size) news) (off + i * t.size) t.size) := by
  have hcc : cc.toList.length = cc.size := Array.length_toList
  have hmul : (l.length + m.length) * t.size ≤ cap * t.size := Nat.mul_le_mul_right _ hroom
  rw [Nat.add_mul] at hmul
  have hnl := htail.length
  have hi : i < l.length + m.length := by simpa using h
  by_cases hil : i < l.length
  · have h3 : (i + 1) * t.size ≤ l.length * t.size := Nat.mul_le_mul_right _ hil
    rw [Nat.add_mul] at h3
    rw [seg_splice_before _ _ _ _ _ (by omega) (by rw [hcc]; omega)]
    have := (hel i hil).kept hr
    simp only [List.get_eq_getElem] at this ⊢
    rw [List.getElem_append_left hil]
    exact this
  · obtain ⟨j, rfl⟩ : ∃ j, i = l.length + j := ⟨i - l.length, by omega⟩
    have hj : j < m.length := by omega
    have h3 : (j + 1) * t.size ≤ m.length * t.size := Nat.mul_le_mul_right _ hj
    rw [Nat.add_mul] at h3
    have e1 : off + (l.length + j) * t.size = (off + l.length * t.size) + j * t.size := by rw [Nat.add_mul]; omega
    rw [e1, seg_splice_inside _ _ _ _ _ (by omega) (by omega)]
    have := (htail.elts j hj).kept hr
    simp only [List.get_eq_getElem] at this ⊢
    rw [List.getElem_append_right (by omega)]
    simpa using this

/-- The elements of a row that is made anew. -/
theorem row_grown {t : Ty} {l m : List t.den} {olds news : List Value} {zs : Array Value} {x : Value} {w w' : World} {g g' : Ghost}
    (htail : Tail P w g t x m news) (ho : olds.length = l.length * t.size)
    (hel : ∀ (i : Nat) (h : i < l.length), Rep w g none t (l.get ⟨i, h⟩) (seg olds (i * t.size) t.size)) (hr : RoKept w g w' g') (i : Nat) (h : i < (l ++ m).length) :
    Rep w' g' none t ((l ++ m).get ⟨i, h⟩) (seg (olds.toArray ++ news.toArray ++ zs).toList (i * t.size) t.size) := by
  have hnl := htail.length
  have hi : i < l.length + m.length := by simpa using h
  have e0 : (olds.toArray ++ news.toArray ++ zs).toList = olds ++ (news ++ zs.toList) := by simp
  rw [e0]
  by_cases hil : i < l.length
  · have h3 : (i + 1) * t.size ≤ l.length * t.size := Nat.mul_le_mul_right _ hil
    rw [Nat.add_mul] at h3
    rw [seg_append_left _ _ _ _ (by omega)]
    have := (hel i hil).kept hr
    simp only [List.get_eq_getElem] at this ⊢
    rw [List.getElem_append_left hil]
    exact this
  · obtain ⟨j, rfl⟩ : ∃ j, i = l.length + j := ⟨i - l.length, by omega⟩
    have hj : j < m.length := by omega
    have h3 : (j + 1) * t.size ≤ m.length * t.size := Nat.mul_le_mul_right _ hj
    rw [Nat.add_mul] at h3
    rw [Nat.add_mul, seg_append_right' _ _ _ _ _ ho.symm, seg_append_left _ _ _ _ (by omega)]
    have := (htail.elts j hj).kept hr
    simp only [List.get_eq_getElem] at this ⊢
    rw [List.getElem_append_right (by omega)]
    simpa using this


theorem append_more {T E : TypeId} {t u : Ty} (hund : P.underlying T = some (.slice E)) (hE : InfoOK P E u) (hus : u.size = t.size) (ht : ∀ b, g.tag b ≠ .alien → b < w.heap.size) (hro : t.isRo = true)
    {ty : TypeId} {b : Option Addr} {cap : Nat} {l m : List t.den} {olds news : List Value} {x : Value} (hold : Tail P w g t (.slice b l.length cap) l olds) (htail : Tail P w g t x m news)
    (hroom : cap < l.length + m.length) (hbig : l.length + m.length ≤ 4294967296) (objs : Objs) (id ep : Nat) :
    ∃ cells cap', (Builtin.append_ #[T, T] ty #[.slice b l.length cap, x]).run P w = .ok (.slice (some ⟨w.heap.size, 0, none⟩) (l.length + m.length) cap') (w.drew.alloc (.cells cells E)) ∧
      ObjOK (w.drew.alloc (.cells cells E)) (newG g w.heap.size id (.row id []) (.slice (some ⟨w.heap.size, 0, none⟩) (l.length + m.length) cap')) objs id (.row t (l ++ m) ep) := by
  obtain ⟨zs, hrun, hzs⟩ := run_append_more (ty := ty) hund hE hus htail hroom hbig (fun w' hw' => hold.cells w' hw')
  refine ⟨_, _, hrun, ?_⟩
  have hlen : (l ++ m).length = l.length + m.length := by simp
  have hge := grownCap_ge w (l.length + m.length) cap E
  have := row_new (w := w.drew) (g := g) (base := id) (u := t) (l := l ++ m) (cells := olds.toArray ++ news.toArray ++ zs) (e := E) (cap := grownCap w (l.length + m.length) cap E) ht hro
    (by rw [hlen]; exact hge) (grownCap_le_maxLen w (l.length + m.length) cap E (by unfold maxLen; omega))
    (by
      have h1 := hold.length
      have h2 := htail.length
      simp only [Array.size_append, List.size_toArray, hzs, h1, h2]
      rw [← Nat.add_mul, ← Nat.add_mul]
      exact Nat.mul_le_mul_right _ (by omega))
    (fun i hi => row_grown htail hold.length hold.elts (w' := w.drew) (g' := g) ⟨fun b hb => ⟨hb, rfl⟩⟩ i hi) objs ep
  rw [hlen] at this
  exact this

theorem run_append_op {x y : Operand} {args : Array Operand} {ts : Array TypeId} {t : TypeId} {v : Value} {w' : World} (ho : o.op = .call { callee := .builtin .append, args := args, argTypes := ts }) (ha : args.toList = [x, y]) (ht : ts.toList = [t, t])
    (h : ∀ ty, (Builtin.append_ #[t, t] ty #[a.eval x, a.eval y]).run P w = .ok v w') : (execOp a.eval o).run P w = .ok (.value v) w' := by
  have e1 : args = #[x, y] := by apply Array.toList_inj.1; simpa using ha
  have e2 : ts = #[t, t] := by apply Array.toList_inj.1; simpa using ht
  subst e1; subst e2
  simp [execOp, ho, resolve, invoke, builtin, h]

end
end Go.Kz
